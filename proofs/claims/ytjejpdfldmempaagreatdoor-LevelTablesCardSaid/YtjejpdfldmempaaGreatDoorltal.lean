/- Sxt. -/
import Derived.Test.YtjejpdfldmempaaGreatDoorltaj
import Derived.Test.YtjejpdfldmempaaGreatDoorltak
namespace Go.Sx
open Go Go.RowKit Go.Reg
section
variable {C:Cx} {T:Fm} {B S:List Nat} {w0 w:World} {n kd:Nat} {fr:Fr} {σ:Sg} {η:Nat->Value} {φ:Nat->List Nat} {a:Act} {v:Value}
theorem Q9 {P:Program} {t:TypeId} {v u:Value} {w:World}(h:(Instr.loadAt t v).run P w=.ok u w):(do loadVar t (<-asAddr v):Sem Value).run P w=.ok u w:=by
 cases v<;>first|(simp[Instr.loadAt,Instr.sureAddr]at h;done)|skip
 rename_i a
 cases a with
 |none=>simp[Instr.loadAt,Instr.sureAddr]at h
 |some a=>simpa[Instr.loadAt,Instr.sureAddr,asAddr]using h
def eP(tmps:Array Value):ResultVar->Sem Value
 |.tmp t=>pure (tmps.getD t Go.undef)
 |.cell a t=>do loadVar t (<-asAddr (tmps.getD a Go.undef))
theorem KR(fn:Func)(tmps:Array Value):results fn tmps=(do let vs<-fn.results.mapM (eP tmps);pure (if h:vs.size=1 then vs[0]else .tuple vs)):=by
 unfold results
 congr 1
theorem Pb(hC:C.Ok T)(hM:Models C B S w0 n fr σ η φ a w):∀(rs:List ResultVar) {K:List Dat->Prop},Pc T rs fr σ K->∃ds vs css,K ds/\(rs.mapM (eP a.tmps)).run C.P w=.ok vs w/\A7 η (Bp σ) (B++Ak φ σ) w ds css/\vs=List.zipWith BD ds css
 |[],K,h=>⟨[],[],[],h,by simp,by simp[A7],by simp⟩
 |
  .tmp t::rs,K,h=>by
  simp only[Pc]at h
  obtain⟨ds,vs,css,h1,h2,h3,h4⟩:=Pb hC hM rs (RD.force h)
  obtain⟨cs,r1,r2⟩:=hM.fr t
  refine⟨_,a.tmps.getD t Go.undef::vs,cs::css,h1,?_,⟨cs,css,rfl,r1,h3⟩,by simp[h4,r2]⟩
  simp only[List.mapM_cons,eP,A0,AQ,Ay,h2]
 |
  .cell t ty::rs,K,h=>by
  simp only[Pc]at h
  rcases Rg hC hM.mem (vx:=a.tmps.getD t Go.undef) (hM.fr t) h with h|⟨d,v,g1,g2,cs,g3,g4⟩
  ·exact h.elim
  ·obtain⟨ds,vs,css,h1,h2,h3,h4⟩:=Pb hC hM rs g1
   refine⟨_,v::vs,cs::css,h1,?_,⟨cs,css,rfl,g3,h3⟩,by simp[h4,g4]⟩
   have g5:=Q9 g2
   simp only[A0]at g5
   simp only[List.mapM_cons,eP,A0,AQ,Ay,g5,h2]
theorem GJ {ds:List Dat} {xs:List Da} {css:List (List Value)}(h:DY ds=some xs)(hr:A7 η (Bp σ) (B++Ak φ σ) w ds css):Al (B++Ak φ σ) w xs css/\List.zipWith BD ds css=List.zipWith Fc xs css:=by
 rw[Dv h]at hr⊢
 exact⟨Dc.1 hr,Db _ _⟩
theorem Ug {ds:List Dat} {css:List (List Value)}(h:A7 η (Bp σ) (B++Ak φ σ) w ds css):RD B σ η φ w (Y6 ds) (.tuple (List.zipWith BD ds css).toArray):=by
 unfold Y6
 split
 ·rename_i xs hx
  obtain⟨h1,h2⟩:=GJ hx h
  exact⟨[_],by simp only[A4,RepC];exact⟨css,h1,by rw[h2]⟩,rfl⟩
 ·exact⟨[_],by simp only[A4];exact⟨css,h,rfl⟩,rfl⟩
def rK(C:Cx)(B S:List Nat)(w0:World)(K:Dat->Sg->Prop)(e:Ending)(w':World):Prop:=
 ∃v d σ η φ,e=.returned v/\K d σ/\Mem C B S w0 σ η φ w'/\RD B σ η φ w' d v
theorem qQ(hC:C.Ok T) {fn:Func} {K:Dat->Sg->Prop} {e:Exit}(h:QK C B S w0 n (Hr T fn.results.toList K) e a w):bodyPost C.P fn (rK C B S w0 K) e a w:=by
 have key:∀{fr σ η φ},Models C B S w0 n fr σ η φ a w->Pc T fn.results.toList fr σ (λds=>match ds with
   |[d]=>K d σ
   |ds=>force (Y6 ds) λd=>K d σ)->a.defers=[]/\∃v,(results fn a.tmps).run C.P w=.ok v w/\rK C B S w0 K (.returned v) w:=by
  intro fr σ η φ hM hr
  obtain⟨ds,vs,css,h1,h2,h3,h4⟩:=Pb hC hM _ hr
  refine⟨hM.defers,?_⟩
  have hlen:vs.length=ds.length:=by
   have:∀{ds:List Dat} {css:List (List Value)},A7 η (Bp σ) (B++Ak φ σ) w ds css->css.length=ds.length:=by
    intro ds
    induction ds with
    |nil=>intro css h;simp only[A7]at h;subst h;rfl
    |cons d ds ih=>intro css h;simp only[A7]at h;obtain⟨c1,c2,rfl,_,h⟩:=h;simp[ih h]
   rw[h4];simp[this h3]
  have hmap:(fn.results.mapM (eP a.tmps)).run C.P w=.ok vs.toArray w:=by
   rw[Array.mapM_eq_mapM_toList,Sem.run_map,h2];rfl
  match ds,css,h1,h3,h4,hlen with
  |
   [d],css,h1,h3,h4,hlen=>
   simp only[A7]at h3
   obtain⟨c1,c2,rfl,r1,rfl⟩:=h3
   simp at h4
   subst h4
   refine⟨BD d c1,?_,_,d,σ,η,φ,rfl,h1,hM.mem,c1,r1,rfl⟩
   rw[KR,A0,hmap]
   simp
  |
   [],css,h1,h3,h4,hlen=>
   have hv:vs=[]:=AE hlen
   subst hv
   refine⟨.tuple #[],?_,_,_,σ,η,φ,rfl,RD.force h1,hM.mem,?_⟩
   ·rw[KR,A0,hmap]
    simp
   ·have:=Ug h3;simpa using this
  |
   d1::d2::ds,css,h1,h3,h4,hlen=>
   refine⟨.tuple vs.toArray,?_,_,_,σ,η,φ,rfl,RD.force h1,hM.mem,?_⟩
   ·rw[KR,A0,hmap]
    have:¬vs.toArray.size=1:=by simp;simp at hlen;omega
    simp only[Ay,dif_neg this,AQ]
   ·have:=Ug h3;rw[h4];exact this
 cases e with
 |normal=>obtain⟨fr,σ,η,φ,hM,hr⟩:=h;exact key hM hr
 |ret=>obtain⟨fr,σ,η,φ,hM,hr⟩:=h;exact key hM hr
 |exit id=>obtain⟨fr,σ,η,φ,hM,hr⟩:=h;exact hr.elim
 |goto l=>obtain⟨fr,σ,η,φ,hM,hr⟩:=h;exact hr.elim
 |panic ch=>exact h.elim
 |outgrown=>exact h.elim
def params:List Dat->Nat->Fr
 |[],_=>[]
 |d::ds,i=>(i,d)::params ds (i+1)
theorem P9 {I O:List Nat}:∀{ds:List Dat} {css:List (List Value)} (i:Nat),A7 η I O w ds css->∀(a:Act),(∀j u,(List.zipWith BD ds css)[j]? =some u->a.tmps.getD (i+j) Go.undef=u)->∀t,∃cs,A4 η I O w (get (params ds i) t) cs/\a.tmps.getD t Go.undef=BD (get (params ds i) t) cs
 |[],css,i,h,a,ha,t=>⟨[a.tmps.getD t Go.undef],by simp[params,get,A4,RepC],rfl⟩
 |
  d::ds,css,i,h,a,ha,t=>by
  simp only[A7]at h
  obtain⟨c1,c2,rfl,h1,h2⟩:=h
  simp only[params,get]
  rcases Bh i t with⟨hb,e⟩|⟨hb,e⟩
  ·rw[hb]
   exact⟨c1,h1,by have:=ha 0 _ (by simp;rfl);rw[<-e];simpa using this⟩
  ·rw[hb]
   exact P9 (i+1) h2 a (λj u hj=>by rw[show i+1+j=i+(j+1)by omega];exact ha (j+1) u (by simpa using hj)) t
theorem E5(hC:C.Ok T) {G:List FuncId} {pl:List (Nat×Plan)} {f:FuncId} {fn:Func} {c:Code}(hf:C.P.funcs[f]? =some fn)(hb:fn.body=some c)(hn:fn.ntmps=n)(hk:BQ C.P G pl c=true) {K:Dat->Sg->Prop}
  {ds:List Dat} {css:List (List Value)} (hr:A7 η (Bp σ) (B++Ak φ σ) w ds css) (hl:ds.length<=n) (hm:Mem C B S w0 σ η φ w)
  (h:Dj C T n pl c (Hr T fn.results.toList K) (params ds 0) σ):Calls C.P f (List.zipWith BD ds css).toArray w (rK C B S w0 K):=by
 refine calls_of_wp hf hb ?_
 have hlen:(List.zipWith BD ds css).length=ds.length:=by
  have:∀{ds:List Dat} {css:List (List Value)},A7 η (Bp σ) (B++Ak φ σ) w ds css->css.length=ds.length:=by
   intro ds
   induction ds with
   |nil=>intro css h;simp only[A7]at h;subst h;rfl
   |cons d ds ih=>intro css h;simp only[A7]at h;obtain⟨c1,c2,rfl,_,h⟩:=h;simp[ih h]
  simp[this hr]
 have hM:Models C B S w0 n (params ds 0) σ η φ {tmps:=(List.zipWith BD ds css).toArray++Array.replicate (fn.ntmps- (List.zipWith BD ds css).toArray.size) undef,defers:=[]} w:=by
  refine⟨hm,P9 0 hr _ (λj u hj=>?_),rfl,?_⟩
  ·have hlt:=(Ad.1 hj).1
   simp only[E7,Array.getD_eq_getD_getElem?]
   rw[Hm (by simpa using hlt)]
   simp[hj]
  ·simp only[Array.size_append,Ch,Array.size_replicate,hn];omega
 exact wp_mono (B9.1 (CR hC c _ _ _ hk h) B S w0 η φ _ w hM) (λe a w hq=>qQ hC hq)
def Glob(C:Cx)(O:List Nat)(w:World):Prop:=∀g∈C.Γ,GRep O w g
def Pure(C:Cx)(f:FuncId)(xs:List Da)(Q:Da->Prop):Prop:=
 ∀(O:List Nat) (w:World) (vs:List Value),(∀b∈O,b<w.heap.size)->Glob C O w->Ig O w xs vs->
  (callFunc f vs.toArray).run C.P w=.ok (.enter f vs.toArray) w/\Calls C.P f vs.toArray w λe w'=>∃v y,e=.returned v/\Q y/\Rep O w' y v/\Tch [] w w'
mutual
def Da.plain:Da->Da
 |.prop p i=>.bool (@decide p i)
 |.agg ds=>.agg (Hi ds)
 |.tuple ds=>.tuple (Hi ds)
 |d=>d
def Hi:List Da->List Da
 |[]=>[]
 |d::ds=>d.plain::Hi ds
end
theorem MP(d:Da)(cs:List Value):Fc d.plain cs=Fc d cs:=by cases d<;>rfl
mutual
theorem RepC.plain {O:List Nat} {w:World}:∀(d:Da) (cs:List Value),RepC O w d cs->RepC O w d.plain cs
 |.prop p i,cs,h=>by simpa only[Da.plain,RepC]using h
 |.agg ds,cs,h=>by simp only[Da.plain,RepC]at h⊢;exact RepCs.plain ds cs h
 |
  .tuple ds,cs,h=>by
  simp only[Da.plain,RepC]at h⊢
  obtain⟨css,h1,h2⟩:=h
  obtain⟨g1,g2⟩:=Al.plain ds css h1
  exact⟨css,g1,by rw[h2,g2]⟩
 |.undef,cs,h=>h
 |.int _ _,cs,h=>h
 |.bool _,cs,h=>h
 |.str _,cs,h=>h
 |.nilp,cs,h=>h
 |.nils,cs,h=>h
 |.nilm,cs,h=>h
 |.nilf,cs,h=>h
 |.nili,cs,h=>h
 |.iface _ _,cs,h=>h
 |.ref _,cs,h=>h
 |.list _ _,cs,h=>h
 |.func _ _ _,cs,h=>h
 |.raw _,cs,h=>h
theorem RepCs.plain {O:List Nat} {w:World}:∀(ds:List Da) (cs:List Value),RepCs O w ds cs->RepCs O w (Hi ds) cs
 |[],cs,h=>h
 |
  d::ds,cs,h=>by
  simp only[RepCs,Hi]at h⊢
  obtain⟨c1,c2,rfl,h1,h2⟩:=h
  exact⟨c1,c2,rfl,RepC.plain d c1 h1,RepCs.plain ds c2 h2⟩
theorem Al.plain {O:List Nat} {w:World}:∀(ds:List Da) (css:List (List Value)),Al O w ds css->Al O w (Hi ds) css/\List.zipWith Fc (Hi ds) css=List.zipWith Fc ds css
 |[],css,h=>⟨h,rfl⟩
 |
  d::ds,css,h=>by
  simp only[Al,Hi]at h⊢
  obtain⟨c1,c2,rfl,h1,h2⟩:=h
  obtain⟨g1,g2⟩:=Al.plain ds c2 h2
  exact⟨⟨c1,c2,rfl,RepC.plain d c1 h1,g1⟩,by simp only[AL,MP,g2]⟩
end
def Dy(T:Fm)(σ:Sg):Nat->Dat->Option Da
 |0,_=>none
 |
  k+1,d=>match d with
  |.d x=>some x
  |
   .own i=>(match BA i σ with
   |some (.slice _ k ds)=>some (.list k ds)
   |
    some (.cells t ds)=>(match closeL (Dy T σ k) ds with
    |
     some xs=>(match En t T with
     |
      some e=>(match e.agg with
      |true=>some (.ref (.agg xs))
      |
       false=>(match xs with
       |[x]=>some (.ref x)
       |_=>none))
     |none=>none)
    |none=>none)
   |_=>none)
  |
   .agg ds=>(match closeL (Dy T σ k) ds with
   |some xs=>some (.agg xs)
   |none=>none)
  |
   .tuple ds=>(match closeL (Dy T σ k) ds with
   |some xs=>some (.tuple xs)
   |none=>none)
  |
   .iface t d=>(match Dy T σ k d with
   |some x=>some (.iface t x)
   |none=>none)
  |
   .func fn f c=>(match closeL (Dy T σ k) f,closeL (Dy T σ k) c with
   |some fs,some cs=>some (.func fn fs cs)
   |_,_=>none)
  |_=>none
where
 closeL (f:Dat->Option Da):List Dat->Option (List Da)
  |[]=>some []
  |
   d::ds=>match f d,closeL f ds with
   |some x,some xs=>some (x::xs)
   |_,_=>none
theorem Md(hm:Mem C B S w0 σ η φ w) {i:Nat}(hi:i∈Bp σ) {b:Nat}(hb:b∈φ i):b∉B:=λh=>by
 rcases hm.new i hi b hb with h2|h2
 ·exact h2.2 h
 ·have:=hm.out b h;omega
theorem OG(_hm:Mem C B S w0 σ η φ w):Later (B++Ak φ σ) w B w:=⟨Av _,λ_ _ _=>rfl,λ_b h _ hm=>h (Az _ hm)⟩
theorem JA(hm:Mem C B S w0 σ η φ w):∀(k:Nat) (d:Dat) {x:Da} {cs:List Value},Dy T σ k d=some x->A4 η (Bp σ) (B++Ak φ σ) w d cs->RepC B w x cs/\BD d cs=Fc x cs
 |0,d,x,cs,h,hr=>by simp[Dy]at h
 |
  k+1,d,x,cs,h,hr=>by
  have listC:∀(ds:List Dat) {xs:List Da} {cs:List Value},Dy.closeL (Dy T σ k) ds=some xs->AX η (Bp σ) (B++Ak φ σ) w ds cs->RepCs B w xs cs:=by
   intro ds
   induction ds with
   |nil=>intro xs cs h hr;simp[Dy.closeL]at h;subst h;simpa[AX,RepCs]using hr
   |
    cons d ds ih=>
    intro xs cs h hr
    simp only[Dy.closeL]at h
    split at h
    ·rename_i x xs' h1 h2
     simp at h;subst h
     simp only[AX]at hr
     obtain⟨c1,c2,rfl,r1,r2⟩:=hr
     exact⟨c1,c2,rfl,(JA hm k d h1 r1).1,ih h2 r2⟩
    ·cases h
  have listCs:∀(ds:List Dat) {xs:List Da} {css:List (List Value)},Dy.closeL (Dy T σ k) ds=some xs->A7 η (Bp σ) (B++Ak φ σ) w ds css->Al B w xs css/\List.zipWith BD ds css=List.zipWith Fc xs css:=by
   intro ds
   induction ds with
   |nil=>intro xs cs h hr;simp[Dy.closeL]at h;subst h;simp only[A7]at hr;subst hr;simp[Al]
   |
    cons d ds ih=>
    intro xs cs h hr
    simp only[Dy.closeL]at h
    split at h
    ·rename_i x xs' h1 h2
     simp at h;subst h
     simp only[A7]at hr
     obtain⟨c1,c2,rfl,r1,r2⟩:=hr
     obtain⟨g1,g2⟩:=JA hm k d h1 r1
     obtain⟨g3,g4⟩:=ih h2 r2
     exact⟨⟨c1,c2,rfl,g1,g3⟩,by simp[g2,g4]⟩
    ·cases h
  simp only[Dy]at h
  split at h
  ·simp at h;subst h
   exact⟨RepC.later (OG hm) _ _ (by simpa only[A4]using hr),rfl⟩
  ·rename_i i
   simp only[A4]at hr
   obtain⟨hi,rfl⟩:=hr
   split at h
   ·rename_i E k' ds hg
    simp at h;subst h
    obtain⟨css,hs,e2,hrr,hk⟩:=Bq hm hg
    have hl:=C2 hrr
    have hrB:=Al.later (OG hm) _ _ hrr
    refine⟨?_,rfl⟩
    simp only[RepC]
    rcases hs.shape with⟨he,hn⟩|⟨g,cap,he,hc⟩
    ·subst hn
     have:ds=[]:=AE hl.symm
     subst this
     exact⟨none,0,[],by rw[he];rfl,by simp,by unfold maxLen;omega,by simp[Al],by simp,.inl rfl⟩
    ·refine⟨_,cap,css,by rw[he,hl],by omega,?_,hrB,hk,.inr ⟨g,0,rfl,?_,?_,Ht hs he⟩⟩
     ·rcases hs.2 with⟨h1,_⟩|⟨_,_,_,h1,_,_,_,h2,_⟩
      ·rw[he]at h1;cases h1
      ·rw[he]at h1;cases h1;exact h2
     ·exact Md hm hi (by rw[e2,he];simp[Value.ownBlock])
     ·exact hs.lt (by rw[he];rfl)
   ·rename_i t ds hg
    split at h
    ·rename_i xs hxs
     split at h
     ·rename_i e he
      obtain⟨b,cs,e1,e2,hb,hrr⟩:=CT hm hg
      have hxr:=listC ds hxs hrr
      have hbB:=Md hm hi (b:=b) (by rw[e2];simp)
      have hcell:Ed w b 0 cs:=λj u hj=>by have:=hb.cell hj;simpa using this
      split at h
      ·simp at h;subst h
       refine⟨?_,rfl⟩
       simp only[RepC]
       exact⟨b,0,cs,by rw[e1],hbB,hb.lt,hxr,hcell⟩
      ·split at h
       ·simp at h;subst h
        refine⟨?_,rfl⟩
        simp only[RepCs]at hxr
        obtain⟨c1,c2,rfl,r1,rfl⟩:=hxr
        simp only[RepC]
        exact⟨b,0,c1,by rw[e1],hbB,hb.lt,r1,by simpa using hcell⟩
       ·cases h
     ·cases h
    ·cases h
   ·cases h
  ·split at h
   ·rename_i xs hxs
    simp at h;subst h
    simp only[A4]at hr
    exact⟨by simp only[RepC];exact listC _ hxs hr,rfl⟩
   ·cases h
  ·split at h
   ·rename_i xs hxs
    simp at h;subst h
    simp only[A4]at hr
    obtain⟨css,r1,rfl⟩:=hr
    obtain⟨g1,g2⟩:=listCs _ hxs r1
    exact⟨by simp only[RepC];exact⟨css,g1,by rw[g2]⟩,rfl⟩
   ·cases h
  ·split at h
   ·rename_i y hy
    simp at h;subst h
    simp only[A4]at hr
    obtain⟨c,r1,rfl⟩:=hr
    obtain⟨g1,g2⟩:=JA hm k _ hy r1
    exact⟨by simp only[RepC];exact⟨c,g1,by rw[g2]⟩,rfl⟩
   ·cases h
  ·split at h
   ·rename_i fs cs' hf hc
    simp at h;subst h
    simp only[A4]at hr
    obtain⟨fs0,cs0,r1,r2,rfl⟩:=hr
    obtain⟨g1,g2⟩:=listCs _ hf r1
    obtain⟨g3,g4⟩:=listCs _ hc r2
    exact⟨by simp only[RepC];exact⟨fs0,cs0,g1,g3,by rw[g2,g4]⟩,rfl⟩
   ·cases h
  ·cases h
def YS(T:Fm)(Q:Da->Prop):Dat->Sg->Prop:=λd σ=>CC (Dy T σ 9 d) False λy=>Q y.plain
theorem R7(hO:∀b∈B,b<w.heap.size)(hg:Glob C B w)(η:Nat->Value)(φ:Nat->List Nat):Mem C B [] w [] η φ w:=
 ⟨Tch.refl _ _,by simp,by simp[Bp],by simp[Bp],by simp[Bp],hO,by unfold Glob at hg;simpa[Ak]using hg⟩
theorem Yu(hC:C.Ok T) {G:List FuncId} {pl:List (Nat×Plan)} {f:FuncId} {fn:Func} {c:Code}(hf:C.P.funcs[f]? =some fn)(hb:fn.body=some c)(hn:fn.ntmps=n)(hrun:∀(vs:Array Value) (w:World),(callFunc f vs).run C.P w=.ok (.enter f vs) w)(hk:BQ C.P G pl c=true) {xs:List Da} {Q:Da->Prop}(hl:xs.length<=n)
  (h:Dj C T n pl c (Hr T fn.results.toList (YS T Q)) (params (B8 xs) 0) []):Pure C f xs Q:=by
 intro O w vs hO hg hr
 obtain⟨css,h1,rfl⟩:=hr
 refine⟨hrun _ _,?_⟩
 have hr2:A7 (λ_=>Go.undef) (Bp []) (O++Ak (λ_=>[]) []) w (B8 xs) css:=Dc.2 (by simpa[Ak]using h1)
 have hlen:(B8 xs).length<=n:=by
  have:∀xs:List Da,(B8 xs).length=xs.length:=λxs=>by induction xs with|nil=>rfl|cons x xs ih=>simp[B8,ih]
  rw[this];exact hl
 have:=E5 hC hf hb hn hk hr2 hlen (R7 hO hg _ _) h
 rw[Db]at this
 refine this.mono ?_
 rintro e w' ⟨v,d,σ,η,φ,rfl,hK,hm,cs,g1,g2⟩
 unfold YS at hK
 rcases AR hK with hK|⟨y,hy,hQ⟩
 ·exact hK.elim
 obtain⟨q1,q2⟩:=JA hm 9 d hy g1
 exact⟨v,y.plain,rfl,hQ,⟨cs,RepC.plain y cs q1,g2.trans (q2.trans (MP y cs).symm)⟩,hm.tch⟩
theorem AH {q:Bool} {f:FuncId} {args:List Dat} {xs:List Da} {Q:Da->Prop} {K:KD}(ha:DY args=some xs)(hp:Pure C f xs Q)(hK:∀y,Q y->K (.d y) fr σ):BI C q f args K fr σ:=by
 unfold BI
 rintro B S w0 η φ n a w vs hM ⟨css,hr,rfl⟩
 obtain⟨h1,h2⟩:=GJ ha hr
 rw[h2]
 obtain⟨g1,g2⟩:=hp (B++Ak φ σ) w _ hM.mem.lt hM.mem.glob ⟨css,h1,rfl⟩
 refine⟨g1,g2.mono ?_⟩
 rintro e w' ⟨v,y,rfl,hQ,hv,ht⟩
 exact⟨v,.d y,fr,σ,η,φ,rfl,hK y hQ,⟨hM.mem.grow ht,hM.fr.later (Later.same ht _) (λi hi=>⟨hi,rfl⟩),hM.defers,hM.size⟩,hv,λ_=>ht.ext⟩
end
end Go.Sx
namespace Go.Sx
open Go Go.RowKit Go.Reg
theorem Tb {p A B:Prop}(hp:p)(h:A):(p->A)/\(¬p->B):=⟨λ_=>h,λhn=>absurd hp hn⟩
theorem RI {p A B:Prop}(hp:¬p)(h:B):(p->A)/\(¬p->B):=⟨λh=>absurd h hp,λ_=>h⟩
theorem YC {p A B:Prop}(h:p->A)(h2:¬p->B):(p->A)/\(¬p->B):=⟨h,h2⟩
theorem QT {e:Int}(h:-9223372036854775808<=e/\e<=9223372036854775807):IntKind.i64.wrap e=e:=IntWalk.i64_in _ h
theorem EX {e:Int} {K:Int->Prop}(h:-9223372036854775808<=e/\e<=9223372036854775807)(hK:K e):∃n,IntKind.i64.wrap e=n/\K n:=⟨e,QT h,hK⟩
theorem YP {α:Type} {f:α->Da} {l:List α} {i:Nat} {n:Int} {x:α} {K:Nat->Da->Prop}(hn:n=i)(hx:l[i]? =some x)(hK:K i (f x)):∃(j:Nat) (d:Da),n=j/\(l.map f)[j]? =some d/\K j d:=⟨i,f x,hn,by simp[hx],hK⟩
theorem F2 {len i:Nat} {n:Int} {K:Nat->Prop}(hn:n=i)(hi:i<len)(hK:K i):∃j:Nat,n=j/\j<len/\K j:=⟨i,hn,hi,hK⟩
theorem F1 {ds:List Da} {i:Nat} {d:Da} {K:Da->Prop}(h:ds[i]? =some d)(hK:K d):∃d,ds[i]? =some d/\K d:=⟨d,h,hK⟩
theorem Qd {k:IntKind} {a b:Int}(h:a=b):Dat.d (.int k a)=Dat.d (.int k b):=by rw[h]
theorem Bj {E k:Nat} {a b:List Da}(h:a=b):some (Own.slice E k a)=some (Own.slice E k b):=by rw[h]
theorem R5 {a b:Nat}(h:a<=4294967296)(hb:Nat.ble b 32768=true)(h0:Nat.blt 0 b=true):a<=FF b:=by
 have h1:=GK hb
 have h2:0<b:=CK (Nat.succ_pos 0) (GK h0)
 unfold FF
 rw[Nat.le_div_iff_mul_le h2]
 exact Cv (D2 h h1) (by decide)
theorem GW {a b:Nat} {K:Prop}(h:a<=4294967296)(hK:K)(hb:Nat.ble b 32768=true:=by rfl)(h0:Nat.blt 0 b=true:=by rfl):a<=FF b/\K:=⟨R5 h hb h0,hK⟩
theorem qG {a:Nat} {K:Prop}(h:a<=8796093022208)(hK:K):a<=FF 16/\K:=⟨h,hK⟩
def Ex(i:Nat):List Nat->Bool
 |[]=>false
 |
  j::l=>match Nat.beq j i with
  |true=>true
  |false=>Ex i l
theorem EG {i:Nat}:∀{l:List Nat},Ex i l=true->i∈l
 |[],h=>by cases h
 |
  j::l,h=>by
  simp only[Ex]at h
  rcases Bh j i with⟨hb,e⟩|⟨hb,e⟩
  ·simp[e]
  ·rw[hb]at h;exact AB _ (EG h)
mutual
def D0(J:List Nat):Dat->Bool
 |.d _=>true
 |.own i=>Ex i J
 |.at_ i _=>Ex i J
 |.el i _ _ _=>Ex i J
 |.agg ds=>Dw J ds
 |.tuple ds=>Dw J ds
 |.iface _ d=>D0 J d
 |.func _ f c=>Dw J f&&Dw J c
def Dw(J:List Nat):List Dat->Bool
 |[]=>true
 |d::ds=>D0 J d&&Dw J ds
end
section
variable {η:Nat->Value} {I J O O':List Nat} {w:World}
mutual
theorem A4.only(hl:Later O w O' w):∀(d:Dat) (cs:List Value),D0 J d=true->A4 η I O w d cs->A4 η J O' w d cs
 |.d x,cs,_,r=>RepC.later hl x cs r
 |.own i,cs,h,r=>by simp only[A4]at r⊢;exact⟨EG h,r.2⟩
 |.at_ i off,cs,h,r=>by simp only[A4]at r⊢;exact⟨EG h,r.2⟩
 |.el i k n off,cs,h,r=>by simp only[A4]at r⊢;exact⟨EG h,r.2⟩
 |.agg ds,cs,h,r=>by simp only[A4]at r⊢;exact AX.only hl ds cs (by simpa only[D0]using h) r
 |.tuple ds,cs,h,r=>by simp only[A4]at r⊢;obtain⟨css,h1,h2⟩:=r;exact⟨css,A7.only hl ds css (by simpa only[D0]using h) h1,h2⟩
 |.iface t d,cs,h,r=>by simp only[A4]at r⊢;obtain⟨c,h1,h2⟩:=r;exact⟨c,A4.only hl d c (by simpa only[D0]using h) h1,h2⟩
 |
  .func fn f c,cs,h,r=>by
  simp only[A4]at r⊢
  simp only[D0,Ah]at h
  obtain⟨fs,cs',h1,h2,h3⟩:=r
  exact⟨fs,cs',A7.only hl f fs h.1 h1,A7.only hl c cs' h.2 h2,h3⟩
theorem AX.only(hl:Later O w O' w):∀(ds:List Dat) (cs:List Value),Dw J ds=true->AX η I O w ds cs->AX η J O' w ds cs
 |[],cs,_,r=>r
 |
  d::ds,cs,h,r=>by
  simp only[AX]at r⊢
  simp only[Dw,Ah]at h
  obtain⟨c1,c2,h1,h2,h3⟩:=r
  exact⟨c1,c2,h1,A4.only hl d c1 h.1 h2,AX.only hl ds c2 h.2 h3⟩
theorem A7.only(hl:Later O w O' w):∀(ds:List Dat) (cs:List (List Value)),Dw J ds=true->A7 η I O w ds cs->A7 η J O' w ds cs
 |[],cs,_,r=>r
 |
  d::ds,cs,h,r=>by
  simp only[A7]at r⊢
  simp only[Dw,Ah]at h
  obtain⟨c1,c2,h1,h2,h3⟩:=r
  exact⟨c1,c2,h1,A4.only hl d c1 h.1 h2,A7.only hl ds c2 h.2 h3⟩
end
end
def O8(J:List Nat):Own->Bool
 |.cells _ ds=>Dw J ds
 |.ghost _ ds=>Dw J ds
 |_=>true
def Ly:Sg->Sg->Prop
 |[],_=>True
 |(i,o)::Z,σ=>BA i σ=some o/\Ly Z σ
def U1:List Nat->Bool
 |[]=>true
 |i::l=>!(Ex i l)&&U1 l
def O9(J:List Nat):Fr->Bool
 |[]=>true
 |(_,d)::fr=>D0 J d&&O9 J fr
def Ej(J:List Nat):Sg->Bool
 |[]=>true
 |(_,o)::Z=>O8 J o&&Ej J Z
def fW(fr:Fr)(Z:Sg):Bool:=U1 (Bp Z)&&O9 (Bp Z) fr&&Ej (Bp Z) Z
section
variable {C:Cx} {B S:List Nat} {w0 w:World} {n:Nat} {fr:Fr} {σ Z:Sg} {η:Nat->Value} {φ:Nat->List Nat} {a:Act}
theorem H7 {i:Nat}:∀{l:List Nat},Ex i l=false->i∉l
 |[],_=>by simp
 |
  j::l,h=>by
  simp only[Ex]at h
  rcases Bh j i with⟨hb,e⟩|⟨hb,e⟩
  ·rw[hb]at h;cases h
  ·rw[hb]at h;simp only[Ar,not_or];exact⟨λe'=>e e'.symm,H7 h⟩
theorem Jl:∀{l:List Nat},U1 l=true->l.Nodup
 |[],_=>by simp
 |
  i::l,h=>by
  simp only[U1,Ah,BC]at h
  exact Ce.2 ⟨H7 h.1,Jl h.2⟩
theorem Ly.mem:∀{Z:Sg},Ly Z σ->∀p∈Z,p∈σ
 |[],_,p,hp=>by cases hp
 |
  (i,o)::Z,h,p,hp=>by
  rcases Ar.1 hp with rfl|hp
  ·exact Bd h.1
  ·exact Ly.mem h.2 p hp
theorem I5 {J:List Nat}:∀{fr:Fr},O9 J fr=true->∀t,D0 J (get fr t)=true
 |[],_,t=>rfl
 |
  (s,d)::fr,h,t=>by
  simp only[O9,Ah]at h
  simp only[get]
  rcases Bh s t with⟨hb,_⟩|⟨hb,_⟩<;>rw[hb]
  ·exact h.1
  ·exact I5 h.2 t
theorem Fb {J:List Nat}:∀{Z:Sg},Ej J Z=true->∀p∈Z,O8 J p.2=true
 |[],_,p,hp=>by cases hp
 |
  (i,o)::Z,h,p,hp=>by
  simp only[Ej,Ah]at h
  rcases Ar.1 hp with rfl|hp
  ·exact h.1
  ·exact Fb h.2 p hp
theorem Own.holds.only {η:Nat->Value} {I J O O':List Nat} {w:World} {o:Own} {v:Value} {F:List Nat}(hl:Later O w O' w)(h:O8 J o=true)(r:o.holds η I O w v F):o.holds η J O' w v F:=by
 cases o with
 |
  cells T ds=>
  obtain⟨b,cs,h1,h2,h3,h4⟩:=r
  exact⟨b,cs,h1,h2,h3,AX.only hl _ _ h h4⟩
 |
  slice E k ds=>
  obtain⟨css,h1,h2,h3,h4⟩:=r
  exact⟨css,h1,h2,Al.later hl _ _ h3,h4⟩
 |abs R k lt one=>exact r
 |ghost vs ds=>obtain⟨h1,h2,css,h3,h4⟩:=r;exact⟨h1,h2,css,A7.only hl _ _ h h3,h4⟩
theorem Models.only(hM:Models C B S w0 n fr σ η φ a w)(hz:fW fr Z=true)(hs:Ly Z σ):Models C B S w0 n fr Z η φ a w:=by
 simp only[fW,Ah]at hz
 obtain⟨⟨h1,h2⟩,h3⟩:=hz
 have hmem:=hs.mem
 have hsub:∀i∈Bp Z,i∈Bp σ:=λi hi=>by
  obtain⟨p,hp,rfl⟩:=Aq.1 hi
  exact AP (hmem p hp)
 have hl:Later (B++Ak φ σ) w (B++Ak φ Z) w:=by
  refine⟨Av _,λ_ _ _=>rfl,λb hn _ hm=>?_⟩
  rcases Ag.1 hm with hm|hm
  ·exact hn (Az _ hm)
  ·obtain⟨p,hp,hb⟩:=A9.1 hm
   exact hn (An _ (Ba (AP (hmem p hp)) hb))
 refine⟨⟨hM.mem.tch,λp hp=>(hM.mem.own p (hmem p hp)).only hl (Fb h3 p hp),Jl h1,λi hi j hj=>hM.mem.disj i (hsub i hi) j (hsub j hj),λi hi=>hM.mem.new i (hsub i hi),hM.mem.out,λg hg=>(hM.mem.glob g hg).later hl⟩,λt=>?_,hM.defers,hM.size⟩
 obtain⟨cs,r1,r2⟩:=hM.fr t
 exact⟨cs,A4.only hl _ _ (I5 h2 t) r1,r2⟩
theorem gM {ι:Type}(H:ι->Prop)(I:ι->Fr)(Z:ι->Sg)(μ:ι->Nat)(x0:ι) {b:Code} {K:KE}(hz:∀x,fW (I x) (Z x)=true)(h0:H x0)(hI:VW (I x0) fr)(hZ:Ly (Z x0) σ)
  (round:∀x,H x->EJ C n b (λe fr σ=>match e with|.normal=>∃y,H y/\VW (I y) fr/\Ly (Z y) σ/\μ y<μ x|e=>K e fr σ) (I x) (Z x)):EJ C n (.loop b) K fr σ:=by
 refine B9.2 λB S w0 η φ a w hM=>?_
 refine wp_loop_ghost (λm a w=>∃x η φ,H x/\μ x=m/\Models C B S w0 n (I x) (Z x) η φ a w) (μ x0) ⟨x0,η,φ,h0,rfl,(hM.sub hI).only (hz x0) hZ⟩ ?_
 rintro m a w ⟨x,η,φ,hx,rfl,hM⟩
 refine wp_mono (B9.1 (round x hx) B S w0 η φ a w hM) ?_
 intro e a' w' hq
 cases e with
 |
  normal=>
  obtain⟨fr',σ',η',φ',hM',y,h1,h2,h3,h4⟩:=hq
  exact⟨μ y,h4,y,η',φ',h1,rfl,(hM'.sub h2).only (hz y) h3⟩
 |exit id=>exact hq
 |goto l=>exact hq
 |ret=>exact hq
 |panic ch=>exact hq
 |outgrown=>exact hq
end
end Go.Sx
namespace Go.Sx
open Go Go.RowKit Go.Reg
structure Absn where
 R:World->Value->List Nat->Prop
 keep:∀(S:List Nat) w w' v F,R w v F->Tch S w w'->(∀x∈F,x∉S)->R w' v F
 lt:∀w v F,R w v F->∀x∈F,x<w.heap.size
 one:∀w v F,R w v F->v.oneCell'=true
def Absn.own(r:Absn):Own:=.abs r.R r.keep r.lt r.one
section
variable {C:Cx} {T:Fm} {B S:List Nat} {w0 w:World} {n kd:Nat} {fr:Fr} {σ:Sg} {η:Nat->Value} {φ:Nat->List Nat} {a:Act} {v:Value} {i:Nat} {r:Absn}
def pJ(sh:Bool)(v u:Value):Value:=match sh with|true=>.tuple #[v,u]|false=>v
def uH(sh:Bool)(O:List Nat)(w:World)(Q:Absn->Da->Prop)(e:Ending)(w':World):Prop:=
 ∃v F r y u,e=.returned (pJ sh v u)/\Q r y/\r.R w' v F/\(∀b∈F,w.heap.size<=b)/\(∀O',(∀b∈O',b∈O\/b∈F)->Rep O' w' y u)/\Tch [] w w'
end
end Go.Sx
namespace Go.Sx
open Go Go.RowKit Go.Reg
section
variable {α:Type} {C:Cx} {O:List Nat} {w:World} {v:Value}
structure Enc(α:Type)where
 enc:α->List Value
 d:α->Da
 k:Nat
 len:∀x,(enc x).length=k
 one:∀x,∀u∈enc x,u.oneCell'=true
 rep:∀(O:List Nat) (w:World) (x:α),RepC O w (d x) (enc x)
theorem Enc.reps(E:Enc α)(O:List Nat)(w:World):∀l:List α,Al O w (l.map E.d) (l.map E.enc)
 |[]=>by simp[Al]
 |x::l=>by simp only[Ap,Al];exact⟨_,_,rfl,E.rep O w x,E.reps O w l⟩
theorem Enc.rows(E:Enc α)(l:List α):∀x∈l.map E.enc,DS E.k x:=λx hx=>by
 obtain⟨y,_,rfl⟩:=Aq.1 hx
 exact⟨E.len y,E.one y⟩
theorem Enc.rep_arg(E:Enc α)(hk:0<E.k) {l:List α}(h:E9 E.k E.enc w v l)(hcap:∀a n c,v=.slice a n c->n<=c/\c<=maxLen):Rep [] w (.list E.k (l.map E.d)) v:=by
 obtain⟨a,c,rfl,hm,hc⟩:=h
 obtain⟨c1,c2⟩:=hcap _ _ _ rfl
 refine⟨[_],?_,rfl⟩
 simp only[RepC]
 refine⟨a,c,l.map E.enc,by simp,by simpa using c1,c2,E.reps [] w l,E.rows l,?_⟩
 cases l with
 |nil=>exact .inl rfl
 |
  cons x l=>
  right
  obtain⟨b,o,rfl,h0⟩:=hc 0 x rfl
  have hcell:Ed w b o ((x::l).map E.enc).flatten:=by
   intro j u hj
   have hlen:∀(m:List α),(m.map E.enc).flatten.length=m.length*E.k:=λm=>by
    induction m with
    |nil=>simp
    |cons y m ih=>simp only[Ap,Ci,Ae,ih,E.len,Ax,Nat.succ_mul];omega
   have hjl:j<(x::l).length*E.k:=by rw[<-hlen];exact(Ad.1 hj).1
   have hi:j/E.k<(x::l).length:=(Nat.div_lt_iff_lt_mul hk).2 hjl
   have hy:=Ab hi
   obtain⟨b',o',he,h2⟩:=hc (j/E.k) _ hy
   cases he
   have:=h2 (j % E.k) u (by
    have h3:=Mx E.len (x::l) (j/E.k) ((x::l)[j/E.k]) (j % E.k) hy (jF _ hk)
    rw[<-h3,List.flatMap_def,jE,Nat.div_add_mod]
    exact hj)
   rwa [IP,jE,Nat.div_add_mod]at this
  refine⟨b,o,rfl,by simp,?_,hcell⟩
  have hx:∃u,(E.enc x)[0]? =some u:=⟨_,Ab (by rw[E.len];exact hk)⟩
  obtain⟨u,hu⟩:=hx
  have:=h0 0 u hu
  unfold World.cell? at this
  rcases Bu b w.heap.size with hl|hl
  ·exact hl
  ·rw[Array.getElem?_eq_none (by omega)]at this;cases this
open Go.Deep Go.WideShapes in
theorem cap_of {H:Type} {P:Program} {e':TypeId×Value->H} {base b0:Nat} {spare:Nat->Bool} {held:Bool} {r:Reach} {t e:TypeId} {d:DataW H} {ps:List MemPlace}(ht:P.underlying t=some (.slice e))
  (hval:Value.okWide P w r b0 t v) (h:DataW.Trod e' P w base spare held t v d ps):∀a n c,v=.slice a n c->n<=c/\c<=maxLen:=by
 obtain⟨fuel,hf⟩:=h
 rintro a n c rfl
 rcases open_slice ht hf with⟨h1,_⟩|⟨a',len,cap,m,n',D,Pl,h1,hb,hl,hm,_⟩
 ·simp[Value.cells]at h1
  obtain⟨rfl,rfl,rfl⟩:=h1
  exact⟨Av _,by unfold maxLen;omega⟩
 ·simp[Value.cells]at h1
  obtain⟨rfl,rfl,rfl⟩:=h1
  exact⟨hl,hm⟩
theorem reps_nil:Ig O w [] []:=⟨[],by simp[Al],rfl⟩
theorem reps_cons {d:Da} {ds:List Da} {vs:List Value}(h1:Rep O w d v)(h2:Ig O w ds vs):Ig O w (d::ds) (v::vs):=by
 obtain⟨cs,r1,rfl⟩:=h1
 obtain⟨css,r2,rfl⟩:=h2
 exact⟨cs::css,⟨cs,css,rfl,r1,r2⟩,rfl⟩
theorem Cb {d:Da} {ds:List Da} {us:List Value}(h:Ig O w (d::ds) us):∃v vs,us=v::vs/\Rep O w d v/\Ig O w ds vs:=by
 obtain⟨css,r,rfl⟩:=h
 simp only[Al]at r
 obtain⟨c1,c2,rfl,r1,r2⟩:=r
 exact⟨_,_,rfl,⟨c1,r1,rfl⟩,c2,r2,rfl⟩
theorem ED {us:List Value}(h:Ig O w [] us):us=[]:=by
 obtain⟨css,r,rfl⟩:=h
 simp
theorem FP {k:IntKind} {n:Int}(h:Rep O w (.int k n) v):v=.int k n:=by obtain⟨cs,r,rfl⟩:=h;simp only[RepC]at r;subst r;rfl
theorem S5 {s:ByteArray}(h:Rep O w (.str s) v):v=.string s:=by obtain⟨cs,r,rfl⟩:=h;simp only[RepC]at r;subst r;rfl
theorem rep_of_int(k:IntKind)(n:Int):Rep O w (.int k n) (.int k n):=⟨[_],by simp[RepC],rfl⟩
theorem rep_of_bool(b:Bool):Rep O w (.bool b) (.bool b):=⟨[_],by simp[RepC],rfl⟩
theorem Pure.assume {f:FuncId} {xs:List Da} {Q:Da->Prop} {P:Prop}(hp:∀O w us,Ig O w xs us->P)(h:P->Pure C f xs Q):Pure C f xs Q:=λO w us hO hg hr=>h (hp O w us hr) O w us hO hg hr
theorem Yt {k:Nat} {ds:List Da}(h:Rep O w (.list k ds) v):ds.length<=maxLen:=by
 obtain⟨cs,r,rfl⟩:=h
 simp only[RepC]at r
 obtain⟨a,c,css,_,h1,h2,_⟩:=r
 omega
theorem Pure.calls {f:FuncId} {xs:List Da} {Q:Da->Prop}(h:Pure C f xs Q)(hg:Glob C [] w) {us:List Value}(hr:Ig [] w xs us):Calls C.P f us.toArray w λe w'=>∃u y,e=.returned u/\Q y/\Rep [] w' y u/\Tch [] w w':=
 (h [] w us (by simp) hg hr).2
end
end Go.Sx
namespace Go.Sx
open Go Go.RowKit Go.Reg
inductive Frz:Fr->Sg->Fr->Sg->Prop
 |refl (fr:Fr) (σ:Sg):Frz fr σ fr σ
 |slice {fr fr':Fr} {σ σ':Sg} (i:Nat) {E k:Nat} {ds:List Da} (h:BA i σ=some (.slice E k ds)) (r:Frz (Ek i (.list k ds) fr) (CS (Bw i (.list k ds)) i σ) fr' σ'):Frz fr σ fr' σ'
section
variable {C:Cx} {T:Fm} {B S:List Nat} {w0 w:World} {n:Nat} {fr:Fr} {σ:Sg} {η:Nat->Value} {φ:Nat->List Nat} {a:Act} {i E k:Nat} {ds:List Da}
theorem Models.freeze(hM:Models C B S w0 n fr σ η φ a w)(hg:BA i σ=some (.slice E k ds)):Models C B S w0 n (Ek i (.list k ds) fr) (CS (Bw i (.list k ds)) i σ) η φ a w:=by
 have hm:=hM.mem
 have hi:=AP (Bd hg)
 have hsub:∀b∈B++Ak φ (CS (Bw i (.list k ds)) i σ),b∈B\/∃j∈Bp σ,j≠i/\b∈φ j:=by
  intro b hb
  rcases Ag.1 hb with hb|hb
  ·exact .inl hb
  ·obtain⟨p,hp,hb⟩:=A9.1 hb
   obtain⟨q,hq,hne,rfl⟩:=Ey hp
   exact .inr ⟨q.1,AP hq,hne,hb⟩
 have hl:Later (B++Ak φ σ) w (B++Ak φ (CS (Bw i (.list k ds)) i σ)) w:=⟨Av _,λ_ _ _=>rfl,λb hn _ hb=>by
  rcases hsub b hb with h|⟨j,hj,_,h⟩
  ·exact hn (Az _ h)
  ·exact hn (An _ (Ba hj h))⟩
 have hr:RepC (B++Ak φ (CS (Bw i (.list k ds)) i σ)) w (.list k ds) [η i]:=by
  obtain⟨css,hs,e2,hrr,hk⟩:=Bq hm hg
  have hlen:=C2 hrr
  have hr2:=Al.later hl _ _ hrr
  simp only[RepC]
  rcases hs.shape with⟨he,hn⟩|⟨g,cap,he,hc⟩
  ·subst hn
   have:ds=[]:=AE hlen.symm
   subst this
   exact⟨none,0,[],by rw[he];rfl,by simp,by unfold maxLen;omega,by simp[Al],by simp,.inl rfl⟩
  ·have hgi:g∈φ i:=by rw[e2,he];simp[Value.ownBlock]
   refine⟨_,cap,css,by rw[he,hlen],by omega,?_,hr2,hk,.inr ⟨g,0,rfl,?_,hs.lt (by rw[he];rfl),Ht hs he⟩⟩
   ·rcases hs.2 with⟨h1,_⟩|⟨_,_,_,h1,_,_,_,h2,_⟩
    ·rw[he]at h1;cases h1
    ·rw[he]at h1;cases h1;exact h2
   ·intro hb
    rcases hsub g hb with h|⟨j,hj,hne,h⟩
    ·exact Md hm hi hgi h
    ·exact hm.disj j hj i hi hne g h hgi
 obtain⟨h1,h2⟩:=hm.del rfl hr
 exact⟨h1,hM.fr.kill rfl h2 (λj hj hne=>⟨by rw[Eb];exact A3.2 ⟨hj,by simpa using hne⟩,rfl⟩) hr,hM.defers,hM.size⟩
theorem Frz.models {fr':Fr} {σ':Sg}(h:Frz fr σ fr' σ'):Models C B S w0 n fr σ η φ a w->Models C B S w0 n fr' σ' η φ a w:=by
 induction h with
 |refl=>exact id
 |slice i h r ih=>exactλhM=>ih (hM.freeze h)
mutual
def Da.flat:Da->Bool
 |.undef|.int _ _|.bool _|.prop _ _|.str _|.nilp|.nils|.nilm|.nilf|.nili=>true
 |.agg ds=>EU ds
 |.tuple ds=>EU ds
 |_=>false
def EU:List Da->Bool
 |[]=>true
 |d::ds=>d.flat&&EU ds
end
mutual
theorem RepC.flat {O O':List Nat} {w w':World}:∀(d:Da) (cs:List Value),d.flat=true->RepC O w d cs->RepC O' w' d cs
 |.agg ds,cs,h,r=>by simp only[RepC]at r⊢;exact RepCs.flat ds cs (by simpa only[Da.flat]using h) r
 |.tuple ds,cs,h,r=>by simp only[RepC]at r⊢;obtain⟨css,h1,h2⟩:=r;exact⟨css,Al.flat ds css (by simpa only[Da.flat]using h) h1,h2⟩
 |.undef,cs,_,r=>r
 |.int _ _,cs,_,r=>r
 |.bool _,cs,_,r=>r
 |.prop _ _,cs,_,r=>r
 |.str _,cs,_,r=>r
 |.nilp,cs,_,r=>r
 |.nils,cs,_,r=>r
 |.nilm,cs,_,r=>r
 |.nilf,cs,_,r=>r
 |.nili,cs,_,r=>r
 |.iface _ _,cs,h,_=>by simp[Da.flat]at h
 |.ref _,cs,h,_=>by simp[Da.flat]at h
 |.list _ _,cs,h,_=>by simp[Da.flat]at h
 |.func _ _ _,cs,h,_=>by simp[Da.flat]at h
 |.raw _,cs,h,_=>by simp[Da.flat]at h
theorem RepCs.flat {O O':List Nat} {w w':World}:∀(ds:List Da) (cs:List Value),EU ds=true->RepCs O w ds cs->RepCs O' w' ds cs
 |[],cs,_,r=>r
 |
  d::ds,cs,h,r=>by
  simp only[RepCs]at r⊢
  simp only[EU,Ah]at h
  obtain⟨c1,c2,h1,h2,h3⟩:=r
  exact⟨c1,c2,h1,RepC.flat d c1 h.1 h2,RepCs.flat ds c2 h.2 h3⟩
theorem Al.flat {O O':List Nat} {w w':World}:∀(ds:List Da) (css:List (List Value)),EU ds=true->Al O w ds css->Al O' w' ds css
 |[],cs,_,r=>r
 |
  d::ds,cs,h,r=>by
  simp only[Al]at r⊢
  simp only[EU,Ah]at h
  obtain⟨c1,c2,h1,h2,h3⟩:=r
  exact⟨c1,c2,h1,RepC.flat d c1 h.1 h2,Al.flat ds c2 h.2 h3⟩
end
theorem JY(hm:Mem C B S w0 σ η φ w) {m:Nat}:∀(ds:List Dat) {xs:List Da} {css:List (List Value)},Dy.closeL (Dy T σ m) ds=some xs->A7 η (Bp σ) (B++Ak φ σ) w ds css->Al B w xs css/\List.zipWith BD ds css=List.zipWith Fc xs css
 |[],xs,css,h,hr=>by simp[Dy.closeL]at h;subst h;simp only[A7]at hr;subst hr;simp[Al]
 |
  d::ds,xs,css,h,hr=>by
  simp only[Dy.closeL]at h
  split at h
  ·rename_i x xs' h1 h2
   simp at h;subst h
   simp only[A7]at hr
   obtain⟨c1,c2,rfl,r1,r2⟩:=hr
   obtain⟨g1,g2⟩:=JA hm m d h1 r1
   obtain⟨g3,g4⟩:=JY hm ds h2 r2
   exact⟨⟨c1,c2,rfl,g1,g3⟩,by simp[g2,g4]⟩
  ·cases h
theorem Ox {q:Bool} {f:FuncId} {args:List Dat} {xs:List Da} {Q:Da->Prop} {K:KD}(T:Fm)(ha:Dy.closeL (Dy T σ 9) args=some xs)(hp:Pure C f xs Q)(hfl:∀y,Q y->y.flat=true)(hK:∀y,Q y->K (.d y) fr σ):BI C q f args K fr σ:=by
 unfold BI
 rintro B S w0 η φ n a w vs hM ⟨css,hr,rfl⟩
 obtain⟨h1,h2⟩:=JY hM.mem args ha hr
 rw[h2]
 have hgl:Glob C B w:=λg hg=>(hM.mem.glob g hg).later (OG hM.mem)
 obtain⟨g1,g2⟩:=hp B w _ (λb hb=>hM.mem.lt b (Az _ hb)) hgl ⟨css,h1,rfl⟩
 refine⟨g1,g2.mono ?_⟩
 rintro e w' ⟨v,y,rfl,hQ,⟨cs,hv,e2⟩,ht⟩
 exact⟨v,.d y,fr,σ,η,φ,rfl,hK y hQ,⟨hM.mem.grow ht,hM.fr.later (Later.same ht _) (λi hi=>⟨hi,rfl⟩),hM.defers,hM.size⟩,⟨cs,RepC.flat y cs (hfl y hQ) hv,e2⟩,λ_=>ht.ext⟩
end
theorem S6 {b:Int} {K:Prop}(h:b≠0)(hK:K):b≠0/\K:=⟨h,hK⟩
end Go.Sx
namespace Go.Sx
open Go Go.RowKit Go.Reg
section
variable {C:Cx} {T:Fm} {B S:List Nat} {w0 w:World} {n kd:Nat} {fr fr':Fr} {σ σ':Sg} {η:Nat->Value} {φ:Nat->List Nat} {a:Act} {i E k:Nat} {ds:List Da}
mutual
inductive LaxA:Da->Da->Prop
 |refl (x:Da):LaxA x x
 |nils (k:Nat):LaxA .nils (.list k [])
 |prop {p:Prop} {i:Decidable p} (b:Bool) (h:@decide p i=b):LaxA (.prop p i) (.bool b)
 |agg {xs ys:List Da} (h:LaxAs xs ys):LaxA (.agg xs) (.agg ys)
 |tuple {xs ys:List Da} (h:LaxAs xs ys):LaxA (.tuple xs) (.tuple ys)
inductive LaxAs:List Da->List Da->Prop
 |nil:LaxAs [] []
 |cons {x y:Da} {xs ys:List Da} (h:LaxA x y) (r:LaxAs xs ys):LaxAs (x::xs) (y::ys)
end
theorem LaxA.yes {p:Prop} {i:Decidable p}(h:p):LaxA (.prop p i) (.bool true):=.prop _ (@decide_eq_true p i h)
theorem LaxA.no {p:Prop} {i:Decidable p}(h:¬p):LaxA (.prop p i) (.bool false):=.prop _ (@decide_eq_false p i h)
theorem UO {x y:Da}(h:LaxA x y)(cs:List Value):Fc x cs=Fc y cs:=by cases h<;>rfl
mutual
theorem RepC.lax {O:List Nat}:∀{x y:Da} {cs:List Value},LaxA x y->RepC O w x cs->RepC O w y cs
 |_,_,cs,.refl _,r=>r
 |
  _,_,cs,.nils k,r=>by
  simp only[RepC]at r⊢
  exact⟨none,0,[],by rw[r];rfl,by simp,by unfold maxLen;omega,by simp[Al],by simp,.inl trivial⟩
 |_,_,cs,.prop b h,r=>by subst h;simpa only[RepC]using r
 |_,_,cs,.agg h,r=>by simp only[RepC]at r⊢;exact RepCs.lax h r
 |
  _,_,cs,.tuple h,r=>by
  simp only[RepC]at r⊢
  obtain⟨css,h1,h2⟩:=r
  obtain⟨g1,g2⟩:=Al.lax h h1
  exact⟨css,g1,by rw[h2,g2]⟩
theorem RepCs.lax {O:List Nat}:∀{xs ys:List Da} {cs:List Value},LaxAs xs ys->RepCs O w xs cs->RepCs O w ys cs
 |_,_,cs,.nil,r=>r
 |
  _,_,cs,.cons h hs,r=>by
  simp only[RepCs]at r⊢
  obtain⟨c1,c2,e,h1,h2⟩:=r
  exact⟨c1,c2,e,RepC.lax h h1,RepCs.lax hs h2⟩
theorem Al.lax {O:List Nat}:∀{xs ys:List Da} {css:List (List Value)},LaxAs xs ys->Al O w xs css->Al O w ys css/\List.zipWith Fc xs css=List.zipWith Fc ys css
 |_,_,css,.nil,r=>⟨r,rfl⟩
 |
  _,_,css,.cons h hs,r=>by
  simp only[Al]at r⊢
  obtain⟨c1,c2,rfl,h1,h2⟩:=r
  obtain⟨g1,g2⟩:=Al.lax hs h2
  exact⟨⟨c1,c2,rfl,RepC.lax h h1,g1⟩,by rw[AL,AL,g2,UO h]⟩
end
inductive LaxD:List Dat->List Dat->Prop
 |nil:LaxD [] []
 |same (d:Dat) {ds es:List Dat} (r:LaxD ds es):LaxD (d::ds) (d::es)
 |lax {x y:Da} {ds es:List Dat} (h:LaxA x y) (r:LaxD ds es):LaxD (.d x::ds) (.d y::es)
theorem AX.lax {I O:List Nat} {ds es:List Dat}(h:LaxD ds es):∀{cs:List Value},AX η I O w ds cs->AX η I O w es cs:=by
 induction h with
 |nil=>intro cs r;exact r
 |same d h ih=>intro cs r;simp only[AX]at r⊢;obtain⟨c1,c2,e,h1,h2⟩:=r;exact⟨c1,c2,e,h1,ih h2⟩
 |lax hx h ih=>intro cs r;simp only[AX]at r⊢;obtain⟨c1,c2,e,h1,h2⟩:=r;exact⟨c1,c2,e,RepC.lax hx h1,ih h2⟩
theorem Models.laxF(hM:Models C B S w0 n fr σ η φ a w) {t:Nat} {x y:Da}(hg:get fr t=.d x)(hl:LaxA x y):Models C B S w0 n ((t,.d y)::fr) σ η φ a w:=by
 refine⟨hM.mem,λs=>?_,hM.defers,hM.size⟩
 simp only[get]
 rcases Bh t s with⟨hb,e⟩|⟨hb,_⟩<;>rw[hb]
 ·subst e
  obtain⟨cs,r1,r2⟩:=hM.fr t
  rw[hg]at r1 r2
  exact⟨cs,RepC.lax hl r1,r2.trans (UO hl cs)⟩
 ·exact hM.fr s
theorem Models.laxO(hM:Models C B S w0 n fr σ η φ a w) {t:TypeId} {ds es:List Dat}(hg:BA i σ=some (.cells t ds))(hl:LaxD ds es):Models C B S w0 n fr (B2 id i (.cells t es) σ) η φ a w:=by
 have hi:=AP (Bd hg)
 have he:Ds φ i (φ i)=φ:=by funext j;by_cases e:j=i<;>simp[Ds,e]
 have hll:=Later.turn (X:=[]) (w':=w) B (Tch.refl [] w) (by simp) hi (F:=φ i) (λb hb=>.inl hb) id (.cells t es)
 rw[he]at hll
 have:=hM.mem.turnSame (X:=[]) (w':=w) (Tch.refl [] w) (by simp) hi (F:=φ i) (λb hb=>.inl hb) (o:=.cells t es) (by
  rw[he]
  obtain⟨b,cs,h1,h2,h3,h4⟩:=hM.mem.own _ (Bd hg)
  exact⟨b,cs,h1,h2,h3,AX.lax hl (AX.later hll (λj hj=>⟨hj,rfl⟩) _ _ h4)⟩)
 rw[he]at this
 exact⟨this,hM.fr.later hll (λj hj=>⟨by rw[Bg];exact hj,rfl⟩),hM.defers,hM.size⟩
theorem Models.nilO(hM:Models C B S w0 n fr σ η φ a w)(E k:Nat)(hi:BA i σ=none):Models C B S w0 n fr ((i,.slice E k [])::σ) (Ds η i (.slice none 0 0)) (Ds φ i []) a w:=by
 have hi':=Dm hi
 obtain⟨hm,hl⟩:=hM.mem.add (Tch.refl [] w) hi' (v:=.slice none 0 0) (F:=[]) (o:=.slice E k []) (by simp) ⟨[],Sl.nil _ _ _ _,rfl,by simp[Al],by simp⟩
 exact⟨hm,hM.fr.add hi' hl,hM.defers,hM.size⟩
theorem Models.ownF(hM:Models C B S w0 n fr σ η φ a w)(E k:Nat) {t:Nat}(hg:get fr t=.d .nils)(hi:BA i σ=none):Models C B S w0 n ((t,.own i)::fr) ((i,.slice E k [])::σ) (Ds η i (.slice none 0 0)) (Ds φ i []) a w:=by
 have h1:=hM.nilO E k hi
 refine⟨h1.mem,λs=>?_,h1.defers,h1.size⟩
 simp only[get]
 rcases Bh t s with⟨hb,e⟩|⟨hb,_⟩<;>rw[hb]
 ·subst e
  obtain⟨cs,r1,r2⟩:=h1.fr t
  rw[hg]at r1 r2
  simp only[A4,RepC]at r1
  subst r1
  refine⟨[.slice none 0 0],?_,r2⟩
  simp only[A4]
  exact⟨by simp[Bp],by rw[CI]⟩
 ·exact h1.fr s
inductive OwnF(i:Nat):List Dat->List Dat->Prop
 |here (ds:List Dat):OwnF i (.d .nils::ds) (.own i::ds)
 |there (d:Dat) {ds es:List Dat} (r:OwnF i ds es):OwnF i (d::ds) (d::es)
theorem AX.ownF {I O:List Nat}(hi:i∈I)(he:η i=.slice none 0 0) {ds es:List Dat}(h:OwnF i ds es):∀{cs:List Value},AX η I O w ds cs->AX η I O w es cs:=by
 induction h with
 |
  here ds=>
  intro cs r
  simp only[AX,A4,RepC]at r⊢
  obtain⟨c1,c2,e,rfl,h2⟩:=r
  exact⟨_,c2,e,⟨hi,by rw[he]⟩,h2⟩
 |
  there d _ ih=>
  intro cs r
  simp only[AX]at r⊢
  obtain⟨c1,c2,e,h1,h2⟩:=r
  exact⟨c1,c2,e,h1,ih h2⟩
theorem Models.ownO(hM0:Models C B S w0 n fr σ η φ a w)(E k:Nat) {c:Nat} {t:TypeId} {ds es:List Dat}(hi:BA i σ=none)(hg:BA c ((i,.slice E k [])::σ)=some (.cells t ds))(hl:OwnF i ds es):
  Models C B S w0 n fr (B2 id c (.cells t es) ((i,.slice E k [])::σ)) (Ds η i (.slice none 0 0)) (Ds φ i []) a w:=by
 have hM:=hM0.nilO E k hi
 generalize hη:Ds η i (Value.slice none 0 0)=η1 at hM⊢
 generalize hφ:Ds φ i ([]:List Nat)=φ1 at hM⊢
 have hηi:η1 i=.slice none 0 0:=by rw[<-hη,CI]
 generalize hσ:(i,Own.slice E k [])::σ=σ1 at hM hg⊢
 have hii:i∈Bp σ1:=by rw[<-hσ];simp[Bp]
 have hc:=AP (Bd hg)
 have he:Ds φ1 c (φ1 c)=φ1:=by funext j;by_cases e:j=c<;>simp[Ds,e]
 have hll:=Later.turn (X:=[]) (w':=w) B (Tch.refl [] w) (by simp) hc (F:=φ1 c) (λb hb=>.inl hb) id (.cells t es)
 rw[he]at hll
 have:=hM.mem.turnSame (X:=[]) (w':=w) (Tch.refl [] w) (by simp) hc (F:=φ1 c) (λb hb=>.inl hb) (o:=.cells t es) (by
  rw[he]
  obtain⟨b,cs,h1,h2,h3,h4⟩:=hM.mem.own _ (Bd hg)
  exact⟨b,cs,h1,h2,h3,AX.ownF hii hηi hl (AX.later hll (λj hj=>⟨hj,rfl⟩) _ _ h4)⟩)
 rw[he]at this
 exact⟨this,hM.fr.later hll (λj hj=>⟨by rw[Bg];exact hj,rfl⟩),hM.defers,hM.size⟩
inductive Lo:Fr->Sg->Fr->Sg->Prop
 |refl (fr:Fr) (σ:Sg):Lo fr σ fr σ
 |frz {fr fr':Fr} {σ σ':Sg} (i:Nat) {E k:Nat} {ds:List Da} (h:BA i σ=some (.slice E k ds)) (r:Lo (Ek i (.list k ds) fr) (CS (Bw i (.list k ds)) i σ) fr' σ'):Lo fr σ fr' σ'
 |lax {fr fr':Fr} {σ σ':Sg} (t:Nat) {x y:Da} (h:get fr t=.d x) (hl:LaxA x y) (r:Lo ((t,.d y)::fr) σ fr' σ'):Lo fr σ fr' σ'
 |laxc {fr fr':Fr} {σ σ':Sg} (i:Nat) {t:TypeId} {ds es:List Dat} (h:BA i σ=some (.cells t ds)) (hl:LaxD ds es) (r:Lo fr (B2 id i (.cells t es) σ) fr' σ'):Lo fr σ fr' σ'
 |same {fr fr':Fr} {σ σ':Sg} {fr1:Fr} (h:VW fr1 fr) (r:Lo fr1 σ fr' σ'):Lo fr σ fr' σ'
 |own {fr fr':Fr} {σ σ':Sg} (t i E k:Nat) (h:get fr t=.d .nils) (hi:BA i σ=none) (r:Lo ((t,.own i)::fr) ((i,.slice E k [])::σ) fr' σ'):Lo fr σ fr' σ'
 |ownc {fr fr':Fr} {σ σ':Sg} (c i E k:Nat) {t:TypeId} {ds es:List Dat} (hi:BA i σ=none) (h:BA c ((i,.slice E k [])::σ)=some (.cells t ds)) (hl:OwnF i ds es) (r:Lo fr (B2 id c (.cells t es) ((i,.slice E k [])::σ)) fr' σ'):Lo fr σ fr' σ'
theorem Lo.models(h:Lo fr σ fr' σ'):∀{η:Nat->Value} {φ:Nat->List Nat},Models C B S w0 n fr σ η φ a w->∃η' φ',Models C B S w0 n fr' σ' η' φ' a w:=by
 induction h with
 |refl=>exactλhM=>⟨_,_,hM⟩
 |frz i h r ih=>exactλhM=>ih (hM.freeze h)
 |lax t h hl r ih=>exactλhM=>ih (hM.laxF h hl)
 |laxc i h hl r ih=>exactλhM=>ih (hM.laxO h hl)
 |same h r ih=>exactλhM=>ih (hM.sub h)
 |own t i E k h hi r ih=>exactλhM=>ih (hM.ownF E k h hi)
 |ownc c i E k hi h hl r ih=>exactλhM=>ih (hM.ownO E k hi h hl)
theorem AN {ι:Type}(H:ι->Prop)(I:ι->Fr)(Z:ι->Sg)(μ:ι->Nat)(x0:ι) {b:Code} {K:KE} {fr0:Fr} {σ0:Sg}(hz:∀x,fW (I x) (Z x)=true)(h0:H x0)(hf:Lo fr σ fr0 σ0)(hI:VW (I x0) fr0)(hZ:Ly (Z x0) σ0)
  (round:∀x,H x->EJ C n b (λe fr σ=>match e with|.normal=>∃y fr' σ',H y/\Lo fr σ fr' σ'/\VW (I y) fr'/\Ly (Z y) σ'/\μ y<μ x|e=>K e fr σ) (I x) (Z x)):EJ C n (.loop b) K fr σ:=by
 refine B9.2 λB S w0 η φ a w hM=>?_
 obtain⟨η,φ,hM⟩:=hf.models hM
 refine wp_loop_ghost (λm a w=>∃x η φ,H x/\μ x=m/\Models C B S w0 n (I x) (Z x) η φ a w) (μ x0) ⟨x0,η,φ,h0,rfl,(hM.sub hI).only (hz x0) hZ⟩ ?_
 rintro m a w ⟨x,η,φ,hx,rfl,hM⟩
 refine wp_mono (B9.1 (round x hx) B S w0 η φ a w hM) ?_
 intro e a' w' hq
 cases e with
 |
  normal=>
  obtain⟨fr',σ',η',φ',hM',y,f2,s2,h1,hf,h2,h3,h4⟩:=hq
  obtain⟨η',φ',hM'⟩:=hf.models hM'
  exact⟨μ y,h4,y,η',φ',h1,rfl,(hM'.sub h2).only (hz y) h3⟩
 |exit id=>exact hq
 |goto l=>exact hq
 |ret=>exact hq
 |panic ch=>exact hq
 |outgrown=>exact hq
theorem rT {o:Oper} {K:Fr->Sg->Prop}(hf:Lo fr σ fr' σ')(h:AY C n kd o K fr' σ'):AY C n kd o K fr σ:=by
 unfold AY at h⊢
 intro B S w0 η φ a w hM
 obtain⟨η',φ',hM'⟩:=hf.models hM
 exact h B S w0 η' φ' a w hM'
theorem Uz(hC:C.Ok T) {G:List FuncId} {o:Oper} {K:Fr->Sg->Prop}(hf:Lo fr σ fr' σ')(hks:CJ C.P G o=kd\/kd=3)(h:Pd C T n kd o K fr' σ'):AY C n kd o K fr σ:=
 rT hf (Iq hC hks h)
theorem Models.freezeArgs(hM:Models C B S w0 n fr σ η φ a w)(hg:BA i σ=some (.slice E k ds)) {args:List Dat} {css:List (List Value)}(hr:A7 η (Bp σ) (B++Ak φ σ) w args css):
  A7 η (Bp (CS (Bw i (.list k ds)) i σ)) (B++Ak φ (CS (Bw i (.list k ds)) i σ)) w (Fg i (.list k ds) args) css:=by
 have hm:=hM.mem
 have hi:=AP (Bd hg)
 have hsub:∀b∈B++Ak φ (CS (Bw i (.list k ds)) i σ),b∈B\/∃j∈Bp σ,j≠i/\b∈φ j:=by
  intro b hb
  rcases Ag.1 hb with hb|hb
  ·exact .inl hb
  ·obtain⟨p,hp,hb⟩:=A9.1 hb
   obtain⟨q,hq,hne,rfl⟩:=Ey hp
   exact .inr ⟨q.1,AP hq,hne,hb⟩
 have hl:Later (B++Ak φ σ) w (B++Ak φ (CS (Bw i (.list k ds)) i σ)) w:=⟨Av _,λ_ _ _=>rfl,λb hn _ hb=>by
  rcases hsub b hb with h|⟨j,hj,_,h⟩
  ·exact hn (Az _ h)
  ·exact hn (An _ (Ba hj h))⟩
 have hr0:RepC (B++Ak φ (CS (Bw i (.list k ds)) i σ)) w (.list k ds) [η i]:=by
  obtain⟨css,hs,e2,hrr,hk⟩:=Bq hm hg
  have hlen:=C2 hrr
  have hr2:=Al.later hl _ _ hrr
  simp only[RepC]
  rcases hs.shape with⟨he,hn⟩|⟨g,cap,he,hc⟩
  ·subst hn
   have:ds=[]:=AE hlen.symm
   subst this
   exact⟨none,0,[],by rw[he];rfl,by simp,by unfold maxLen;omega,by simp[Al],by simp,.inl rfl⟩
  ·have hgi:g∈φ i:=by rw[e2,he];simp[Value.ownBlock]
   refine⟨_,cap,css,by rw[he,hlen],by omega,?_,hr2,hk,.inr ⟨g,0,rfl,?_,hs.lt (by rw[he];rfl),Ht hs he⟩⟩
   ·rcases hs.2 with⟨h1,_⟩|⟨_,_,_,h1,_,_,_,h2,_⟩
    ·rw[he]at h1;cases h1
    ·rw[he]at h1;cases h1;exact h2
   ·intro hb
    rcases hsub g hb with h|⟨j,hj,hne,h⟩
    ·exact Md hm hi hgi h
    ·exact hm.disj j hj i hi hne g h hgi
 exact A7.kill rfl hl (λj hj hne=>⟨by rw[Eb];exact A3.2 ⟨hj,by simpa using hne⟩,rfl⟩) hr0 _ _ hr
theorem Du(i:Nat) {q:Bool} {f:FuncId} {args:List Dat} {K:KD}(hg:BA i σ=some (.slice E k ds))(h:BI C q f (Fg i (.list k ds) args) K (Ek i (.list k ds) fr) (CS (Bw i (.list k ds)) i σ)):BI C q f args K fr σ:=by
 unfold BI at h⊢
 rintro B S w0 η φ n a w vs hM ⟨css,hr,rfl⟩
 have:=hM.freezeArgs hg hr
 exact h B S w0 η φ n a w _ (hM.freeze hg) ⟨css,this,by rw[EB rfl]⟩
def Eg:Fr->List Nat
 |[]=>[]
 |(t,_)::fr=>t::Eg fr
def FZ:Fr->List Dat
 |[]=>[]
 |(_,d)::fr=>d::FZ fr
def T0:List Nat->List Dat->Fr
 |t::ts,d::ds=>(t,d)::T0 ts ds
 |_,_=>[]
mutual
def Jp:Dat->List Nat->(List Nat->Prop)->Prop
 |.d _,J,K=>K J
 |.own i,J,K=>(match Ex i J with|true=>K J|false=>K (i::J))
 |.at_ i _,J,K=>(match Ex i J with|true=>K J|false=>K (i::J))
 |.el i _ _ _,J,K=>(match Ex i J with|true=>K J|false=>K (i::J))
 |.agg ds,J,K=>Hk ds J K
 |.tuple ds,J,K=>Hk ds J K
 |.iface _ d,J,K=>Jp d J K
 |.func _ f c,J,K=>Hk f J λJ=>Hk c J K
def Hk:List Dat->List Nat->(List Nat->Prop)->Prop
 |[],J,K=>K J
 |d::ds,J,K=>Jp d J λJ=>Hk ds J K
end
mutual
theorem PM:∀(d:Dat) {J:List Nat} {K:List Nat->Prop},Jp d J K->∃J,K J
 |.d _,J,K,h=>⟨_,h⟩
 |.own i,J,K,h=>by simp only[Jp]at h;split at h<;>exact⟨_,h⟩
 |.at_ i _,J,K,h=>by simp only[Jp]at h;split at h<;>exact⟨_,h⟩
 |.el i _ _ _,J,K,h=>by simp only[Jp]at h;split at h<;>exact⟨_,h⟩
 |.agg ds,J,K,h=>Ff ds (by simpa only[Jp]using h)
 |.tuple ds,J,K,h=>Ff ds (by simpa only[Jp]using h)
 |.iface _ d,J,K,h=>PM d (by simpa only[Jp]using h)
 |
  .func _ f c,J,K,h=>by
  simp only[Jp]at h
  obtain⟨_,h⟩:=Ff f h
  exact Ff c h
theorem Ff:∀(ds:List Dat) {J:List Nat} {K:List Nat->Prop},Hk ds J K->∃J,K J
 |[],J,K,h=>⟨_,h⟩
 |
  d::ds,J,K,h=>by
  simp only[Hk]at h
  obtain⟨_,h⟩:=PM d h
  exact Ff ds h
end
def gI:Own->List Nat->(List Nat->Prop)->Prop
 |.cells _ ds,J,K=>Hk ds J K
 |.ghost _ ds,J,K=>Hk ds J K
 |_,J,K=>K J
theorem ZX(o:Own) {J:List Nat} {K:List Nat->Prop}(h:gI o J K):∃J,K J:=by
 cases o with
 |cells t ds=>exact Ff ds h
 |ghost vs ds=>exact Ff ds h
 |slice=>exact⟨_,h⟩
 |abs=>exact⟨_,h⟩
def Qh:Sg->List Nat->(List Nat->Prop)->Prop
 |[],J,K=>K J
 |
  (i,o)::σ,J,K=>match Ex i J with
  |true=>gI o J λJ=>Qh σ J K
  |false=>Qh σ J K
theorem Jz:∀(σ:Sg) {J:List Nat} {K:List Nat->Prop},Qh σ J K->∃J,K J
 |[],J,K,h=>⟨_,h⟩
 |
  (i,o)::σ,J,K,h=>by
  simp only[Qh]at h
  split at h
  ·obtain⟨_,h⟩:=ZX o h
   exact Jz σ h
  ·exact Jz σ h
def EM(J:List Nat):Sg->Sg
 |[]=>[]
 |
  (i,o)::σ=>match Ex i J with
  |true=>(i,o)::EM J σ
  |false=>EM J σ
def Tf:List Nat->(List Nat->Prop)->Prop
 |[],K=>K []
 |x::l,K=>Tf l λl=>K (x::l)
theorem RM:∀(l:List Nat) (K:List Nat->Prop),Tf l K=K l
 |[],K=>rfl
 |x::l,K=>by simp only[Tf,RM l]
def YB(vs:List Value)(g:Nat)(ts J:List Nat)(K:KD):Dat->Sg->Prop:=λd σ=>CC (BA g σ) False λo=>match o with
 |.ghost us ds=>us=vs/\BP σ λσ=>EP (T0 ts ds) λfr=>Tf J λJ=>Jp d J λJ=>Hk (FZ fr) J λJ=>Qh σ J λJ=>Qh σ J λJ=>Qh σ J λJ=>BP (EM J (CS id g σ)) λZ=>CD (fW fr Z&&D0 (Bp Z) d) False (K d fr Z)
 |_=>False
theorem Nz {J:List Nat}:∀{σ:Sg} {p:Nat×Own},p∈EM J σ->p∈σ
 |[],p,h=>by simp[EM]at h
 |
  (i,o)::σ,p,h=>by
  simp only[EM]at h
  split at h
  ·rcases Ar.1 h with rfl|h
   ·simp
   ·exact AB _ (Nz h)
  ·exact AB _ (Nz h)
theorem NT {o:Own}:∀{σ:Sg},(Bp σ).Nodup->(i,o)∈σ->BA i σ=some o
 |[],_,h=>by cases h
 |
  (j,p)::σ,hn,h=>by
  have hn':j∉Bp σ/\(Bp σ).Nodup:=Ce.1 hn
  simp only[BA]
  rcases Ar.1 h with e|h
  ·cases e;simp
  ·rcases Bh j i with⟨hb,e⟩|⟨hb,_⟩
   ·subst e;exact absurd (AP h) hn'.1
   ·rw[hb];exact NT hn'.2 h
theorem kZ {Z:Sg}(h:∀p∈Z,BA p.1 σ=some p.2):Ly Z σ:=by
 induction Z with
 |nil=>trivial
 |cons p Z ih=>exact⟨h p (by simp),ih (λq hq=>h q (by simp[hq]))⟩
theorem TO {g:Nat} {p:Nat×Own}(h:p∈CS id g σ):p∈σ:=by
 obtain⟨q,hq,_,rfl⟩:=Ey h
 exact hq
theorem R8 {p:Nat×Dat}:∀{l:Fr},p∈l->p.1∈Eg l
 |[],h=>by cases h
 |
  (u,v)::l,h=>by
  simp only[Eg,Ar]
  rcases Ar.1 h with rfl|h
  ·exact .inl rfl
  ·exact .inr (R8 h)
theorem aR:∀{fr0:Fr},(∀t,∃cs,A4 η (Bp σ) (B++Ak φ σ) w (get fr0 t) cs/\a.tmps.getD t undef=BD (get fr0 t) cs)->(Eg fr0).Nodup->
  ∃css,A7 η (Bp σ) (B++Ak φ σ) w (FZ fr0) css/\List.zipWith BD (FZ fr0) css=(Eg fr0).map λt=>a.tmps.getD t undef:=by
 intro fr0 h hn
 have key:∀(l:Fr),(∀p∈l,get fr0 p.1=p.2)->∃css,A7 η (Bp σ) (B++Ak φ σ) w (FZ l) css/\List.zipWith BD (FZ l) css=(Eg l).map λt=>a.tmps.getD t undef:=by
  intro l
  induction l with
  |nil=>intro _;exact⟨[],by simp[FZ,A7],rfl⟩
  |
   cons p l ih=>
   obtain⟨t,d⟩:=p
   intro hl
   obtain⟨css,h1,h2⟩:=ih (λq hq=>hl q (by simp[hq]))
   obtain⟨cs,r1,r2⟩:=h t
   have e:=hl (t,d) (by simp)
   simp only at e
   rw[e]at r1 r2
   exact⟨cs::css,by simp only[FZ,A7];exact⟨cs,css,rfl,r1,h1⟩,by simp only[FZ,Eg,AL,Ap,h2,r2]⟩
 refine key fr0 ?_
 clear key h
 intro p hp
 induction fr0 with
 |nil=>cases hp
 |
  cons q l ih=>
  obtain⟨s,e⟩:=q
  simp only[Eg,Ce]at hn
  rcases Ar.1 hp with rfl|hp
  ·simp[get]
  ·have hne:s≠p.1:=λe'=>hn.1 (e'▸R8 hp)
   simp only[get]
   rcases Bh s p.1 with⟨_,e'⟩|⟨hb,_⟩
   ·exact absurd e' hne
   ·rw[hb];exact ih hn.2 hp
theorem Vf {I O:List Nat}:∀(ts:List Nat) (ds:List Dat) {css:List (List Value)} (vs:List Value),A7 η I O w ds css->List.zipWith BD ds css=vs->(∀(j:Nat) (t:Nat) (u:Value),ts[j]? =some t->vs[j]? =some u->a.tmps.getD t undef=u)->∀t,∃cs,A4 η I O w (get (T0 ts ds) t) cs/\a.tmps.getD t undef=BD (get (T0 ts ds) t) cs
 |[],ds,css,vs,_,_,_,t=>⟨[a.tmps.getD t undef],by simp[T0,get,A4,RepC],rfl⟩
 |s::ts,[],css,vs,_,_,_,t=>⟨[a.tmps.getD t undef],by simp[T0,get,A4,RepC],rfl⟩
 |
  s::ts,d::ds,css,vs,h,e,hv,t=>by
  simp only[A7]at h
  obtain⟨c1,c2,rfl,h1,h2⟩:=h
  simp only[AL]at e
  subst e
  simp only[T0,get]
  rcases Bh s t with⟨hb,e'⟩|⟨hb,_⟩<;>rw[hb]
  ·subst e'
   exact⟨c1,h1,hv 0 s _ rfl rfl⟩
  ·exact Vf ts ds _ h2 rfl (λj t u hj hu=>hv (j+1) t u (by simpa using hj) (by simpa using hu)) t
theorem JB(g:Nat)(F:Fr)(hC:C.Ok T) {G:List FuncId} {pl:List (Nat×Plan)} {f:FuncId} {fn:Func} {c:Code} {m:Nat} {args:List Dat} {K:KD}(hf:C.P.funcs[f]? =some fn)(hb:fn.body=some c)(hn:fn.ntmps=m)
  (hrun:∀(vs:Array Value) (w:World),(callFunc f vs).run C.P w=.ok (.enter f vs) w) (hk:BQ C.P G pl c=true) (hl:args.length<=m) (hg:BA g σ=none) (hF:VW F fr) (hts:U1 (Eg F)=true)
  (h:∀vs,Dj C T m pl c (Hr T fn.results.toList (YB vs g (Eg F) (Bp σ) K)) (params args 0) (Fi g (.ghost vs (FZ F)) σ)):BI C false f args K fr σ:=by
 unfold BI
 rintro B S w0 η φ n a w vs hM ⟨css,hr,rfl⟩
 refine⟨hrun _ _,?_⟩
 have hM1:=hM.sub hF
 obtain⟨gss,g1,g2⟩:=aR hM1.fr (Jl hts)
 have hg':=Dm hg
 obtain⟨hm,hl2⟩:=hM1.mem.add (Tch.refl [] w) hg' (v:=.nilFunc) (F:=[]) (o:=.ghost ((Eg F).map λt=>a.tmps.getD t undef) (FZ F)) (by simp) (by
  refine⟨rfl,rfl,gss,A7.later (O:=B++Ak φ σ) (w:=w) ?_ (λj hj=>⟨AB _ hj,C0 η g Value.nilFunc (λ(e:j=g)=>hg' (e▸hj))⟩) _ _ g1,g2.symm⟩
  simpa using Later.same (Tch.refl [] w) _)
 have hr':=A7.later (η':=Ds η g Value.nilFunc) (I':=Bp ((g,Own.ghost ((Eg F).map λt=>a.tmps.getD t undef) (FZ F))::σ)) hl2 (λj hj=>⟨AB _ hj,C0 η g Value.nilFunc (λ(e:j=g)=>hg' (e▸hj))⟩) _ _ hr
 have hMm:Models C B S w0 n [] ((g,.ghost ((Eg F).map λt=>a.tmps.getD t undef) (FZ F))::σ) (Ds η g .nilFunc) (Ds φ g []) a w:=⟨hm,λt=>⟨[a.tmps.getD t undef],by simp[get,A4,RepC],rfl⟩,hM.defers,hM.size⟩
 have hMp:=hMm.perm (D6 g (.ghost ((Eg F).map λt=>a.tmps.getD t undef) (FZ F)) σ)
 have hsame:Later (B++Ak (Ds φ g []) ((g,Own.ghost ((Eg F).map λt=>a.tmps.getD t undef) (FZ F))::σ)) w (B++Ak (Ds φ g []) (Fi g (.ghost ((Eg F).map λt=>a.tmps.getD t undef) (FZ F)) σ)) w:=⟨Av _,λ_ _ _=>rfl,λb hn _ hm=>by
  rcases Ag.1 hm with hm|hm
  ·exact hn (Az _ hm)
  ·obtain⟨p,hp,hb⟩:=A9.1 hm
   exact hn (An _ (A9.2 ⟨p,(LG _ _ _ _).1 hp,hb⟩))⟩
 have hr2:=A7.later (η':=Ds η g Value.nilFunc) (I':=Bp (Fi g (.ghost ((Eg F).map λt=>a.tmps.getD t undef) (FZ F)) σ)) hsame (λj hj=>⟨by
  obtain⟨p,hp,rfl⟩:=Aq.1 hj
  exact AP ((LG _ _ _ _).2 hp),rfl⟩) _ _ hr'
 refine(E5 hC hf hb hn hk hr2 hl hMp.mem (h _)).mono ?_
 rintro e w' ⟨v,d,σ',η',φ',rfl,hK,hm',hv⟩
 unfold YB at hK
 rcases AR hK with hK|⟨o,ho,hK⟩
 ·exact hK.elim
 split at hK
 ·rename_i us es
  obtain⟨rfl,hK⟩:=hK
  rw[Bl,Dp,RM]at hK
  obtain⟨_,hK⟩:=PM _ hK
  obtain⟨_,hK⟩:=Ff _ hK
  obtain⟨_,hK⟩:=Jz _ hK
  obtain⟨_,hK⟩:=Jz _ hK
  obtain⟨_,hK⟩:=Jz _ hK
  rw[Bl]at hK
  rcases AW hK with hK|⟨hz,hK⟩
  ·exact hK.elim
  rw[Ah]at hz
  obtain⟨q1,q2,qss,q3,q4⟩:=hm'.own _ (Bd ho)
  have hM2:Models C B S w0 n (T0 (Eg F) es) σ' η' φ' a w':=⟨hm',Vf _ _ _ q3 q4.symm (λj t u hj hu=>by
   rw[Af,hj]at hu
   simpa using hu),hM.defers,hM.size⟩
  generalize hZ:EM _ (CS id g σ')=Z at hz hK
  have hsub:Ly Z σ':=kZ λp hp=>NT hm'.nodup (TO (Nz (hZ▸hp)))
  have hlZ:Later (B++Ak φ' σ') w' (B++Ak φ' Z) w':=⟨Av _,λ_ _ _=>rfl,λb hn _ hb=>by
   rcases Ag.1 hb with hb|hb
   ·exact hn (Az _ hb)
   ·obtain⟨p,hp,hb⟩:=A9.1 hb
    exact hn (An _ (Ba (AP (hsub.mem p hp)) hb))⟩
  obtain⟨cs,v1,v2⟩:=hv
  exact⟨v,d,_,Z,η',φ',rfl,hK,hM2.only hz.1 hsub,⟨cs,A4.only hlZ _ _ hz.2 v1,v2⟩,λh=>by cases h⟩
 ·exact hK.elim
theorem Ai {l:List Oper} {ks p:List Nat} {K:Fr->Sg->Prop} {B:Prop}(h1:Gi C T n l ks K p fr σ)(h2:B):Gi C T n l ks K p fr σ/\B:=⟨h1,h2⟩
theorem Ym(m:Nat) {x:Int} {len:Nat} {K:Nat->Prop}(h:x=m)(hl:m<=len)(hK:K m):∃m:Nat,x=m/\m<=len/\K m:=⟨m,h,hl,hK⟩
theorem It {vs:List Value} {K:Prop}(h:K):vs=vs/\K:=⟨rfl,h⟩
theorem ify {p A B:Prop}(h:A)(hp:p:=by first|omega|rfl|assumption|exact⟨rfl,rfl⟩|exact⟨rfl,rfl,rfl⟩|exact⟨rfl,rfl,rfl,rfl⟩):(p->A)/\(¬p->B):=Tb hp h
theorem ifn {p A B:Prop}(h:B)(hp:¬p:=by first|omega|assumption|exactλh=>h rfl|exactλh=>h (by assumption)|exactλh=>h ⟨rfl,rfl⟩|exactλh=>h ⟨rfl,rfl,rfl⟩|exactλh=>h ⟨rfl,rfl,rfl,rfl⟩):(p->A)/\(¬p->B):=RI hp h
theorem i6 {e:Int} {K:Int->Prop}(hK:K e)(h:-9223372036854775808<=e/\e<=9223372036854775807:=by omega):∃n,IntKind.i64.wrap e=n/\K n:=EX h hK
theorem ati {α:Type} {f:α->Da} {l:List α} {i:Nat} {n:Int} {x:α} {K:Nat->Da->Prop}(hK:K i (f x))(hn:n=i:=by rfl)(hx:l[i]? =some x:=by assumption):∃(j:Nat) (d:Da),n=j/\(l.map f)[j]? =some d/\K j d:=YP hn hx hK
theorem mst {a b:Nat} {K:Prop}(hK:K)(h:a<=4294967296:=by((try simp only[Ae,Ac,Ax,Cf,Aw,FN,kD,Bm]);omega))(hb:Nat.ble b 32768=true:=by rfl)(h0:Nat.blt 0 b=true:=by rfl):a<=FF b/\K:=GW h hK hb h0
theorem rmd {b:Int} {K:Prop}(hK:K)(h:b≠0:=by first|decide|omega):b≠0/\K:=S6 h hK
theorem A5 {p A B:Prop}(h:p->A)(h2:¬p->B):(p->A)/\(¬p->B):=⟨h,h2⟩
theorem odw {l:List Oper} {ks p:List Nat} {K:Fr->Sg->Prop} {B:Prop}(h2:B)(h1:Gi C T n l ks K p fr σ:=by((conv=>whnf);(repeat' ((first|refine nx ?_|refine A5 (λ_=>?_) (λ_=>?_))<;>conv=>whnf));(all_goals (repeat' (first|exact trivial|exact rfl|refine And.intro ?_ ?_))))):Gi C T n l ks K p fr σ/\B:=⟨h1,h2⟩
end
theorem AA {F fr:Fr} {Z σ:Sg}(h:VW F fr:=by(repeat' (first|exact trivial|exact rfl|refine And.intro ?_ ?_)))(h2:σ=Z:=by exact rfl):VW F fr/\σ=Z:=⟨h,h2⟩
def OO(Q P:Prop):Prop:=Q->P
section
variable {Q:Prop}
theorem OO.id:OO Q Q:=λq=>q
theorem OO.ify {p A B:Prop}(h:OO Q A)(hp:p:=by first|omega|rfl|assumption|exact⟨rfl,rfl⟩|exact⟨rfl,rfl,rfl⟩|exact⟨rfl,rfl,rfl,rfl⟩):OO Q ((p->A)/\(¬p->B)):=λq=>Tb hp (h q)
theorem OO.ifn {p A B:Prop}(h:OO Q B)(hp:¬p:=by first|omega|assumption|exactλh=>h rfl|exactλh=>h (by assumption)|exactλh=>h ⟨rfl,rfl⟩|exactλh=>h ⟨rfl,rfl,rfl⟩|exactλh=>h ⟨rfl,rfl,rfl,rfl⟩):OO Q ((p->A)/\(¬p->B)):=λq=>RI hp (h q)
theorem OO.i6 {e:Int} {K:Int->Prop}(hK:OO Q (K e))(h:-9223372036854775808<=e/\e<=9223372036854775807:=by omega):OO Q (∃n,IntKind.i64.wrap e=n/\K n):=λq=>EX h (hK q)
theorem OO.ati {α:Type} {f:α->Da} {l:List α} {i:Nat} {n:Int} {x:α} {K:Nat->Da->Prop}(hK:OO Q (K i (f x)))(hn:n=i:=by rfl)(hx:l[i]? =some x:=by assumption):OO Q (∃(j:Nat) (d:Da),n=j/\(l.map f)[j]? =some d/\K j d):=λq=>YP hn hx (hK q)
theorem OO.mst {a b:Nat} {K:Prop}(hK:OO Q K)(h:a<=4294967296:=by((try simp only[Ae,Ac,Ax,Cf,Aw,FN,kD,Bm]);omega))(hb:Nat.ble b 32768=true:=by rfl)(h0:Nat.blt 0 b=true:=by rfl):OO Q (a<=FF b/\K):=λq=>GW h (hK q) hb h0
theorem OO.rmd {b:Int} {K:Prop}(hK:OO Q K)(h:b≠0:=by first|decide|omega):OO Q (b≠0/\K):=λq=>S6 h (hK q)
theorem nx {P:Prop}(h:Q)(w:OO Q P:=by first|exact .ify .id|exact .ifn .id|exact .i6 .id|exact .ati .id|exact .mst .id|exact .rmd .id):P:=w h
theorem OO.odw {C:Cx} {T:Fm} {n:Nat} {fr:Fr} {σ:Sg} {l:List Oper} {ks p:List Nat} {K:Fr->Sg->Prop} {B:Prop}(h2:OO Q B)(h1:Gi C T n l ks K p fr σ:=by((conv=>whnf);(repeat' ((first|refine Go.Sx.nx ?_|refine A5 (λ_=>?_) (λ_=>?_))<;>conv=>whnf));(all_goals (repeat' (first|exact trivial|exact rfl|refine And.intro ?_ ?_))))):OO Q (Gi C T n l ks K p fr σ/\B):=λq=>⟨h1,h2 q⟩
end
end Go.Sx
