/- Sxu. -/
import Derived.Test.YtjejpdfldmempaaGreatDoorltal
import Derived.Test.YtjejpdfldmempaaGreatDoorltam
namespace Go.Sx
open Go Go.RowKit Go.Reg
section
variable {C:Cx} {T:Fm} {B S:List Nat} {w0 w w':World} {n kd:Nat} {fr fr':Fr} {σ σ':Sg} {η:Nat->Value} {φ:Nat->List Nat} {a:Act} {i E k:Nat} {ds:List Da}
theorem Mg(m:Nat) {x y:Int} {K:Nat->Prop}(hx:x=m)(hy:y=m)(hm:m<=4294967296)(hK:K m):∃m:Nat,x=m/\y=m/\m<=Mf/\K m:=⟨m,hx,hy,hm,hK⟩
structure MapE(P:Program)(κ ν:Type) [DecidableEq κ]where
 t:TypeId
 kt:TypeId
 et:TypeId
 encK:κ->Value
 encV:ν->Value
 dK:κ->Da
 dV:ν->Da
 z:ν
 ht:P.underlying t=some (.map kt et)
 hk:KeyOk P kt encK
 hz:∀w,(zeroValue et).run P w=.ok (encV z) w
 repK:∀O w k v,Rep O w (dK k) v->v=encK k
 repV:∀O w x v,Rep O w (dV x) v->v=encV x
 ofV:∀O w x,Rep O w (dV x) (encV x)
variable {κ ν:Type} [DecidableEq κ]
def MapE.obj {P:Program}(M:MapE P κ ν)(l:List (κ×ν)):Absn where
 R w v F:=∃b,v=.map (some b)/\F=[b]/\Cw M.encK M.encV w b l
 keep:=by rintro S w w' v F ⟨b,rfl,rfl,h⟩ t hd;exact⟨b,rfl,rfl,h.keep t (hd b (by simp))⟩
 lt:=by rintro w v F ⟨b,rfl,rfl,h⟩ x hx;simp at hx;subst hx;exact h.lt
 one:=by rintro w v F ⟨b,rfl,rfl,h⟩;rfl
theorem Hh {d:Dat} {v:Value}(h:RD B σ η φ w d v)(e:d=.own i):v=η i:=by
 subst e
 obtain⟨cs,h1,rfl⟩:=h
 simp only[A4]at h1
 obtain⟨_,rfl⟩:=h1
 rfl
theorem EL {d:Dat} {x:Da} {v:Value}(h:RD B σ η φ w d v)(e:d=.d x):Rep (B++Ak φ σ) w x v:=by
 subst e
 obtain⟨cs,h1,rfl⟩:=h
 exact⟨cs,by simpa only[A4]using h1,rfl⟩
theorem rR {x:Da} {v:Value}(h:Rep (B++Ak φ σ) w x v):RD B σ η φ w (.d x) v:=by
 obtain⟨cs,h1,h2⟩:=h
 exact⟨cs,by simpa only[A4]using h1,h2⟩
theorem Xa {o:Oper} {K:Fr->Sg->Prop}(hkd:kd=5\/kd=3)(hd:CZ o.dst n=true)(d:Dat)
  (h:∀(B S:List Nat) (w0:World) (η:Nat->Value) (φ:Nat->List Nat) (a:Act) (w:World),Models C B S w0 n fr σ η φ a w->∃v,(∀w2,Ij w w2->(execOp a.eval o).run C.P w2=.ok (.value v) w2)/\RD B σ η φ w d v) (hK:K (Cm o.dst d fr) σ):AY C n kd o K fr σ:=by
 rcases hkd with rfl|rfl
 ·unfold AY
  intro B S w0 η φ a w hM
  obtain⟨v,h1,h2⟩:=h B S w0 η φ a w hM
  exact⟨v,h1,Qi hM hd h2 hK⟩
 ·refine C6 (by decide) (by decide) λB S w0 η φ a w hM=>⟨λe=>(by cases e),.inl ?_⟩
  obtain⟨v,h1,h2⟩:=h B S w0 η φ a w hM
  exact⟨v,w,h1 w (Ij.refl w),Qi hM hd h2 hK⟩
theorem Rx(M:MapE C.P κ ν)(l:List (κ×ν))(i:Nat)(q:κ) {o:Oper} {K:Fr->Sg->Prop} {x ix:Operand}(ho:o.op=.lookup M.t x ix false)(hx:ev C.Γ fr x=.own i)(hg:BA i σ=some (M.obj l).own)(hix:ev C.Γ fr ix=.d (M.dK q))(hkd:kd=5\/kd=3)(hd:CZ o.dst n=true)
  (hK:K (Cm o.dst (.d (M.dV ((Reg.get l q).getD M.z))) fr) σ):AY C n kd o K fr σ:=by
 refine Xa hkd hd _ (λB S w0 η φ a w hM=>?_) hK
 have e1:=Hh (AV hM x) hx
 have e2:=M.repK _ _ _ _ (EL (AV hM ix) hix)
 obtain⟨b,hb,_,hm⟩:(M.obj l).R w (η i) (φ i):=hM.mem.own _ (Bd hg)
 refine⟨M.encV ((Reg.get l q).getD M.z),λw2 he=>?_,rR (M.ofV _ _ _)⟩
 simp only[execOp,ho]
 rw[e1,e2,hb]
 exact CP ((hm.ext he).look M.hk M.ht M.hz q)
theorem Models.newAbs(h:Models C B S w0 n fr σ η φ a w)(t:Tch [] w w') {r:Absn} {v:Value} {F:List Nat}(hF:∀b∈F,w.heap.size<=b)(hr:r.R w' v F) {j:Nat}(hj:j∉Bp σ) {dst:Option Nat}(hd:CZ dst n=true):
  ∃η' φ',Models C B S w0 n (Cm dst (.own j) fr) (Fi j r.own σ) η' φ' (a.put dst v) w':=
 ⟨_,_,(h.add t hj (o:=r.own) (v:=v) (F:=F) hF (λ_O' _hl=>hr) hd).perm (D6 _ _ _)⟩
theorem WY(M:MapE C.P κ ν)(j:Nat) {o:Oper} {K:Fr->Sg->Prop}(ho:o.op=.makeMap M.t none)(hj:BA j σ=none)(hkd:kd=6\/kd=3)(hd:CZ o.dst n=true)
  (hK:BP (Fi j (M.obj []).own σ) λσ=>K (Cm o.dst (.own j) fr) σ):AY C n kd o K fr σ:=by
 rw[Bl]at hK
 refine C6 (by rcases hkd with rfl|rfl<;>decide) (by rcases hkd with rfl|rfl<;>decide) λB S w0 η φ a w hM=>⟨λe=>(by rcases hkd with rfl|rfl<;>cases e),.inl ?_⟩
 obtain⟨η',φ',M'⟩:=hM.newAbs (Tch.alloc w (.map #[] 0) []) (r:=M.obj []) (v:=.map (some w.heap.size)) (F:=[w.heap.size]) (by simp) ⟨_,rfl,rfl,Cw.new _ _ _⟩ (Dm hj) hd
 refine⟨_,_,?_,_,_,_,_,M',hK⟩
 simp only[execOp,ho]
 exact CP (by rfl)
theorem ZL(M:MapE C.P κ ν)(l:List (κ×ν))(i:Nat)(q:κ)(y:ν) {o:Oper} {K:Fr->Sg->Prop} {x ix vx:Operand}(ho:o.op=.mapUpdate M.t x ix vx)(hx:ev C.Γ fr x=.own i)(hg:BA i σ=some (M.obj l).own)(hix:ev C.Γ fr ix=.d (M.dK q))(hv:ev C.Γ fr vx=.d (M.dV y))(hkd:kd=3)(hd:CZ o.dst n=true)
  (hK:BP (B2 id i (M.obj (put l q y)).own σ) λσ=>K (Cm o.dst (.d .undef) fr) σ):AY C n kd o K fr σ:=by
 subst hkd
 rw[Bl]at hK
 refine C6 (by decide) (by decide) λB S w0 η φ a w hM=>⟨λe=>(by cases e),.inr ?_⟩
 have e1:=Hh (AV hM x) hx
 have e2:=M.repK _ _ _ _ (EL (AV hM ix) hix)
 have e3:=M.repV _ _ _ _ (EL (AV hM vx) hv)
 obtain⟨b,hb,hF,hm⟩:(M.obj l).R w (η i) (φ i):=hM.mem.own _ (Bd hg)
 obtain⟨w',hr,hm',ht⟩:=hm.update M.hk M.ht q y
 have hi:=AP (Bd hg)
 have hX:∀c∈[b],c∈φ i:=λc hc=>by rw[hF];exact hc
 have hl:=Later.turn B ht hX hi (F:=[b]) (λc hc=>.inl (hX c hc)) id (M.obj (put l q y)).own
 have hmm:=hM.mem.turnSame ht hX hi (F:=[b]) (λc hc=>.inl (hX c hc)) (o:=(M.obj (put l q y)).own) (show(M.obj (put l q y)).R w' (η i) [b]from⟨b,hb,rfl,hm'⟩)
 have M':Models C B S w0 n fr _ η _ a w':=⟨hmm,hM.fr.later hl (λj hj=>⟨by rw[Bg];exact hj,rfl⟩),hM.defers,hM.size⟩
 refine⟨w',?_,_,_,_,_,M'.put hd ⟨[Go.undef],by simp[A4,RepC],rfl⟩,hK⟩
 simp only[execOp,ho]
 rw[e1,e2,e3,hb]
 exact Yp hr
theorem Y1 {o:Oper} {K:Fr->Sg->Prop} {t ty E kk:Nat} {x y:Operand}(ho:o.op=.binOp .eql t x y ty)(hu:C.P.underlying t=some (.slice E))(hx:ev C.Γ fr x=.d (.list kk []))(hy:y=.const (.slice none 0 0))(hkd:kd=0\/kd=3)(hd:CZ o.dst n=true)
  (hK:∀b,K (Cm o.dst (.d (.bool b)) fr) σ):AY C n kd o K fr σ:=by
 refine B5 (by rcases hkd with rfl|rfl<;>decide) (by rcases hkd with rfl|rfl<;>decide) hd λB S w0 η φ a w hM=>?_
 have h1:=EL (AV hM x) hx
 obtain⟨cs,r,e⟩:=h1
 simp only[RepC]at r
 obtain⟨p,c,css,rfl,_⟩:=r
 have e1:a.eval x=.slice p 0 c:=e
 subst hy
 have e2:a.eval (.const (.slice none 0 0))=.slice none 0 0:=rfl
 have hr:=Lib.run_eql_slice_nil (P:=C.P) w t E p 0 c 0 0 hu
 refine .inr ⟨_,_,hK p.isNone,?_,JO _,λ_=>by cases p<;>simp[Bf,ho,e1,e2,DV,Kb]⟩
 simp only[execOp,ho,e1,e2]
 refine CP ?_
 simp[eqGuard,hr]
def D4(C:Cx)(f:FuncId)(xs:List Da)(E k:Nat)(Q:List Da->Prop):Prop:=
 ∀(O:List Nat) (w:World) (us:List Value),(∀b∈O,b<w.heap.size)->Glob C O w->Ig O w xs us->
  (callFunc f us.toArray).run C.P w=.ok (.enter f us.toArray) w/\Calls C.P f us.toArray w λe w'=>∃v css ds,e=.returned v/\Q ds/\Sl E k id w' v css/\(∀b,v.ownBlock=some b->w.heap.size<=b)/\
   Al (O++v.ownBlock.toList) w' ds css/\(∀x∈css,DS k x)/\Tch [] w w'
theorem PL(hM:Models C B S w0 n fr σ η φ a w) {O:List Nat} {j:Nat}(hj:BA j σ=none) {v:Value} {css:List (List Value)}(hs:Sl E k id w' v css)(hb:∀b,v.ownBlock=some b->w.heap.size<=b)
  (hr:∀O',Al O' w' ds css\/O'≠O) (hO:O=B++(v.ownBlock.toList++Ak φ σ)) (hk:∀x∈css,DS k x) (t:Tch [] w w') {K:KD} (hK:BP (Fi j (.slice E k ds) σ) λσ=>K (.own j) fr σ):
  ∃d fr' σ' η' φ',K d fr' σ'/\Models C B S w0 n fr' σ' η' φ' a w'/\(∃cs,A4 η' (Bp σ') (B++Ak φ' σ') w' d cs/\v=BD d cs):=by
 have hj':=Dm hj
 have hF:∀b∈v.ownBlock.toList,w.heap.size<=b:=λb h=>hb b (by simpa using h)
 obtain⟨hm,hl⟩:=hM.mem.add t hj' hF (o:=.slice E k ds) (v:=v) (by
  refine⟨css,hs,rfl,?_,hk⟩
  rcases hr O with h|h
  ·rw[<-hO];exact h
  ·exact absurd rfl h)
 have hM':Models C B S w0 n fr ((j,.slice E k ds)::σ) (Ds η j v) (Ds φ j v.ownBlock.toList) a w':=⟨hm,hM.fr.add hj' hl,hM.defers,hM.size⟩
 have hM2:=hM'.perm (D6 j (.slice E k ds) σ)
 rw[Bl]at hK
 have hin:j∈Bp (Fi j (.slice E k ds) σ):=AP ((LG j (.slice E k ds) σ (j,.slice E k ds)).2 (by simp))
 exact⟨_,fr,_,_,_,hK,hM2,[v],⟨hin,by rw[CI]⟩,rfl⟩
theorem Ee(j:Nat) {q:Bool} {f:FuncId} {args:List Dat} {xs:List Da} {Q:List Da->Prop} {K:KD}(hj:BA j σ=none)(ha:DY args=some xs)(hp:D4 C f xs E k Q)(hK:∀ds,Q ds->BP (Fi j (.slice E k ds) σ) λσ=>K (.own j) fr σ):BI C q f args K fr σ:=by
 unfold BI
 rintro B S w0 η φ n a w vs hM ⟨css,hr,rfl⟩
 obtain⟨h1,h2⟩:=GJ ha hr
 rw[h2]
 obtain⟨g1,g2⟩:=hp (B++Ak φ σ) w _ hM.mem.lt hM.mem.glob ⟨css,h1,rfl⟩
 refine⟨g1,g2.mono ?_⟩
 rintro e w' ⟨v,cs2,ds,rfl,hQ,hs,hb,hr2,hk,ht⟩
 have hin:Al (B++(v.ownBlock.toList++Ak φ σ)) w' ds cs2:=Al.later (O:=(B++Ak φ σ)++v.ownBlock.toList) (w:=w') ⟨Av _,λ_ _ _=>rfl,λb hn _ hm=>hn (by
  simp only[Ag]at hm⊢
  rcases hm with h|h|h
  ·exact .inl (.inl h)
  ·exact .inr h
  ·exact .inl (.inr h))⟩ _ _ hr2
 obtain⟨d,fr',σ',η',φ',x1,x2,x3⟩:=PL hM hj hs hb (O:=B++(v.ownBlock.toList++Ak φ σ)) (λO'=>by
  by_cases e:O'=B++(v.ownBlock.toList++Ak φ σ)
  ·subst e;exact .inl hin
  ·exact .inr e) rfl hk ht (hK ds hQ)
 exact⟨v,d,fr',σ',η',φ',rfl,x1,x2,x3,λ_=>ht.ext⟩
theorem Q4(T:Fm)(j:Nat) {q:Bool} {f:FuncId} {args:List Dat} {xs:List Da} {Q:List Da->Prop} {K:KD}(hj:BA j σ=none)(ha:Dy.closeL (Dy T σ 9) args=some xs)(hp:D4 C f xs E k Q)(hfl:∀ds,Q ds->EU ds=true)(hK:∀ds,Q ds->BP (Fi j (.slice E k ds) σ) λσ=>K (.own j) fr σ):BI C q f args K fr σ:=by
 unfold BI
 rintro B S w0 η φ n a w vs hM ⟨css,hr,rfl⟩
 obtain⟨h1,h2⟩:=JY hM.mem args ha hr
 rw[h2]
 have hgl:Glob C B w:=λg hg=>(hM.mem.glob g hg).later (OG hM.mem)
 obtain⟨g1,g2⟩:=hp B w _ (λb hb=>hM.mem.lt b (Az _ hb)) hgl ⟨css,h1,rfl⟩
 refine⟨g1,g2.mono ?_⟩
 rintro e w' ⟨v,cs2,ds,rfl,hQ,hs,hb,hr2,hk,ht⟩
 obtain⟨d,fr',σ',η',φ',x1,x2,x3⟩:=PL hM hj hs hb (O:=B++(v.ownBlock.toList++Ak φ σ)) (λO'=>.inl (Al.flat ds cs2 (hfl ds hQ) hr2)) rfl hk ht (hK ds hQ)
 exact⟨v,d,fr',σ',η',φ',rfl,x1,x2,x3,λ_=>ht.ext⟩
def Hc(E k:Nat)(Q:List Da->Prop):Dat->Sg->Prop:=λd σ=>match d with
 |
  .own i=>CC (BA i σ) False λo=>(match o with
  |.slice E' k' ds=>E'=E/\k'=k/\Q ds
  |_=>False)
 |.d .nils=>Q []
 |_=>False
theorem SL(hC:C.Ok T) {G:List FuncId} {pl:List (Nat×Plan)} {f:FuncId} {fn:Func} {c:Code}(hf:C.P.funcs[f]? =some fn)(hb:fn.body=some c)(hn:fn.ntmps=n)(hrun:∀(vs:Array Value) (w:World),(callFunc f vs).run C.P w=.ok (.enter f vs) w)(hk:BQ C.P G pl c=true) {xs:List Da} {Q:List Da->Prop}(hl:xs.length<=n)
  (h:Dj C T n pl c (Hr T fn.results.toList (Hc E k Q)) (params (B8 xs) 0) []):D4 C f xs E k Q:=by
 intro O w vs hO hg hr
 obtain⟨css,h1,rfl⟩:=hr
 refine⟨hrun _ _,?_⟩
 have hr2:A7 (λ_=>Go.undef) (Bp []) (O++Ak (λ_=>[]) []) w (B8 xs) css:=Dc.2 (by simpa[Ak]using h1)
 have hlen:(B8 xs).length<=n:=by
  have:∀xs:List Da,(B8 xs).length=xs.length:=λxs=>by induction xs with|nil=>rfl|cons x xs ih=>simp[B8,ih]
  rw[this];exact hl
 have:=E5 hC hf hb hn hk hr2 hlen (R7 hO hg _ _) h
 rw[Db]at this
 refine this.mono ?_
 rintro e w' ⟨v,d,σ,η,φ,rfl,hK,hm,cs,g1,g2⟩
 unfold Hc at hK
 split at hK
 ·rename_i i
  rcases AR hK with hK|⟨o,ho,hK⟩
  ·exact hK.elim
  split at hK
  ·rename_i E' k' ds
   obtain⟨rfl,rfl,hQ⟩:=hK
   simp only[A4]at g1
   obtain⟨hi,rfl⟩:=g1
   obtain⟨css,hs,e2,hrr,hkk⟩:=Bq hm ho
   have e3:v=η i:=g2
   subst e3
   have hbl:∀b,(η i).ownBlock=some b->b∈φ i:=λb hb=>by rw[e2,hb];simp
   refine⟨_,css,ds,rfl,hQ,hs,λb hb=>?_,?_,hkk,hm.tch⟩
   ·rcases hm.new i hi b (hbl b hb)with h|h
    ·cases h.1
    ·exact h
   ·refine Al.later ⟨Av _,λ_ _ _=>rfl,λb hn _ hm'=>hn ?_⟩ _ _ hrr
    rcases Ag.1 hm' with h|h
    ·exact Az _ h
    ·exact An _ (Ba hi (hbl b (by simpa using h)))
  ·exact hK.elim
 ·simp only[A4,RepC]at g1
  subst g1
  have e3:v=.slice none 0 0:=g2
  subst e3
  exact⟨_,[],[],rfl,hK,Sl.nil _ _ _ _,λb hb=>(by cases hb),by simp[Al],by simp,hm.tch⟩
 ·exact hK.elim
def XU(C:Cx)(f:FuncId)(E k:Nat)(ds:List Da)(xs:List Da)(Q:Da->List Da->Prop):Prop:=
 ∀(O:List Nat) (w:World) (v:Value) (css:List (List Value)) (us:List Value),Sl E k id w v css->(∀b∈v.ownBlock.toList,b∈O)->(∀b∈O,b<w.heap.size)->Al O w ds css->(∀x∈css,DS k x)->Glob C O w->Ig O w xs us->
  (callFunc f (v::us).toArray).run C.P w=.ok (.enter f (v::us).toArray) w/\Calls C.P f (v::us).toArray w λe w'=>∃u y ds' css',e=.returned u/\Q y ds'/\Sl E k id w' v css'/\Al O w' ds' css'/\(∀x∈css',DS k x)/\Rep O w' y u/\Tch v.ownBlock.toList w w'
theorem VC {f:FuncId} {args:List Dat} {xs:List Da} {Q:Da->List Da->Prop} {K:KD}(hg:BA i σ=some (.slice E k ds))(ha:DY args=some xs)(hp:XU C f E k ds xs Q)(hK:∀y ds',Q y ds'->BP (B2 id i (.slice E k ds') σ) λσ=>K (.d y) fr σ):BI C false f (.own i::args) K fr σ:=by
 unfold BI
 rintro B S w0 η φ n a w vs hM ⟨css,hr,rfl⟩
 have hi:=AP (Bd hg)
 simp only[A7]at hr
 obtain⟨c1,c2,rfl,r1,r2⟩:=hr
 obtain⟨h1,h2⟩:=GJ ha r2
 simp only[A4]at r1
 obtain⟨_,rfl⟩:=r1
 obtain⟨cs0,hs,e2,hrr,hkk⟩:=Bq hM.mem hg
 have hbl:∀b∈(η i).ownBlock.toList,b∈φ i:=λb hb=>by rw[e2];exact hb
 have hzip:List.zipWith BD (.own i::args) ([η i]::c2)=η i::List.zipWith Fc xs c2:=by rw[AL,h2];rfl
 rw[hzip]
 obtain⟨g1,g2⟩:=hp (B++Ak φ σ) w (η i) cs0 _ hs (λb hb=>An _ (Ba hi (hbl b hb))) hM.mem.lt hrr hkk hM.mem.glob ⟨c2,h1,rfl⟩
 refine⟨g1,g2.mono ?_⟩
 rintro e w' ⟨u,y,ds',css',rfl,hQ,hs',hr',hk',hy,ht⟩
 have he:Ds φ i (φ i)=φ:=by funext j;by_cases e:j=i<;>simp[Ds,e]
 have hl:=Later.turn B ht hbl hi (F:=φ i) (λb hb=>.inl hb) id (.slice E k ds')
 rw[he]at hl
 have hsame:Later (B++Ak φ σ) w' (B++Ak φ (B2 id i (.slice E k ds') σ)) w':=⟨Av _,λ_ _ _=>rfl,λb hn _ hm=>hn (by
  rcases Ag.1 hm with hm|hm
  ·exact Az _ hm
  ·have hm2:b∈Ak (Ds φ i (φ i)) (B2 id i (.slice E k ds') σ):=by rw[he];exact hm
   rcases Fp (φ i) b hm2 with h|⟨j,hj,_,h⟩
   ·exact An _ (Ba hi h)
   ·exact An _ (Ba hj h))⟩
 have hm:=hM.mem.turnSame ht hbl hi (F:=φ i) (λb hb=>.inl hb) (o:=.slice E k ds') (by
  rw[he]
  exact⟨css',hs',e2,Al.later hsame _ _ hr',hk'⟩)
 rw[he]at hm
 have hk2:=hK y ds' hQ
 rw[Bl]at hk2
 have hids:=Bg id i (.slice E k ds') σ
 obtain⟨cy,y1,y2⟩:=hy
 refine⟨u,.d y,fr,_,η,φ,rfl,hk2,⟨hm,hM.fr.later hl (λj hj=>⟨by rw[hids];exact hj,rfl⟩),hM.defers,hM.size⟩,⟨cy,?_,y2⟩,λh=>by cases h⟩
 simp only[A4]
 exact RepC.later hsame _ _ y1
def NI(C:Cx)(f:FuncId)(t:TypeId)(xs args:List Da)(Q:Da->List Da->Prop):Prop:=
 ∀(O:List Nat) (w:World) (b:Nat) (cs us:List Value),GL w b t cs->b∈O->(∀c∈O,c<w.heap.size)->RepCs O w xs cs->Glob C O w->Ig O w args us->
  (callFunc f (.pointer (some ⟨b,0,none⟩)::us).toArray).run C.P w=.ok (.enter f (.pointer (some ⟨b,0,none⟩)::us).toArray) w/\
  Calls C.P f (.pointer (some ⟨b,0,none⟩)::us).toArray w λe w'=>∃v y ys cs',e=.returned v/\Q y ys/\GL w' b t cs'/\RepCs O w' ys cs'/\Rep O w' y v/\Tch [b] w w'
theorem HX {I O:List Nat}:∀{xs:List Da} {cs:List Value},AX η I O w (B8 xs) cs↔RepCs O w xs cs
 |[],cs=>by simp only[B8,AX,RepCs]
 |
  x::xs,cs=>by
  simp only[B8,AX,RepCs,A4]
  constructor
  ·rintro⟨c1,c2,h1,h2,h3⟩;exact⟨c1,c2,h1,h2,HX.1 h3⟩
  ·rintro⟨c1,c2,h1,h2,h3⟩;exact⟨c1,c2,h1,h2,HX.2 h3⟩
theorem XO {f:FuncId} {t:TypeId} {xs Aa:List Da} {args ds0:List Dat} {Q:Da->List Da->Prop} {K:KD}(hg:BA i σ=some (.cells t ds0))(hds:DY ds0=some xs)(ha:DY args=some Aa)(hp:NI C f t xs Aa Q)(hK:∀y ys,Q y ys->BP (B2 id i (.cells t (B8 ys)) σ) λσ=>K (.d y) fr σ):BI C false f (.own i::args) K fr σ:=by
 unfold BI
 rintro B S w0 η φ n a w vs hM ⟨css,hr,rfl⟩
 have hi:=AP (Bd hg)
 simp only[A7]at hr
 obtain⟨c1,c2,rfl,r1,r2⟩:=hr
 obtain⟨h1,h2⟩:=GJ ha r2
 simp only[A4]at r1
 obtain⟨_,rfl⟩:=r1
 have hd2:=Dv hds
 subst hd2
 obtain⟨b,cs,e1,e2,hb,hrr⟩:=hM.mem.own _ (Bd hg)
 simp only at e1 e2 hrr
 have hrr2:=HX.1 hrr
 have hzip:List.zipWith BD (.own i::args) ([η i]::c2)=.pointer (some ⟨b,0,none⟩)::List.zipWith Fc Aa c2:=by rw[AL,h2,e1];rfl
 rw[hzip]
 have hbm:b∈φ i:=by rw[e2];simp
 obtain⟨g1,g2⟩:=hp (B++Ak φ σ) w b cs _ hb (An _ (Ba hi hbm)) hM.mem.lt hrr2 hM.mem.glob ⟨c2,h1,rfl⟩
 refine⟨g1,g2.mono ?_⟩
 rintro e w' ⟨u,y,ys,cs',rfl,hQ,hb',hr',hy,ht⟩
 have hbl:∀c∈[b],c∈φ i:=λc hc=>by rw[e2];exact hc
 have he:Ds φ i (φ i)=φ:=by funext j;by_cases e:j=i<;>simp[Ds,e]
 have hl:=Later.turn B ht hbl hi (F:=φ i) (λb hb=>.inl hb) id (.cells t (B8 ys))
 rw[he]at hl
 have hsame:Later (B++Ak φ σ) w' (B++Ak φ (B2 id i (.cells t (B8 ys)) σ)) w':=⟨Av _,λ_ _ _=>rfl,λb hn _ hm=>hn (by
  rcases Ag.1 hm with hm|hm
  ·exact Az _ hm
  ·have hm2:b∈Ak (Ds φ i (φ i)) (B2 id i (.cells t (B8 ys)) σ):=by rw[he];exact hm
   rcases Fp (φ i) b hm2 with h|⟨j,hj,_,h⟩
   ·exact An _ (Ba hi h)
   ·exact An _ (Ba hj h))⟩
 have hm:=hM.mem.turnSame ht hbl hi (F:=φ i) (λb hb=>.inl hb) (o:=.cells t (B8 ys)) (by
  rw[he]
  exact⟨b,cs',e1,e2,hb',HX.2 (RepCs.later hsame _ _ hr')⟩)
 rw[he]at hm
 have hk2:=hK y ys hQ
 rw[Bl]at hk2
 have hids:=Bg id i (.cells t (B8 ys)) σ
 obtain⟨cy,y1,y2⟩:=hy
 refine⟨u,.d y,fr,_,η,φ,rfl,hk2,⟨hm,hM.fr.later hl (λj hj=>⟨by rw[hids];exact hj,rfl⟩),hM.defers,hM.size⟩,⟨cy,?_,y2⟩,λh=>by cases h⟩
 simp only[A4]
 exact RepC.later hsame _ _ y1
def XV(vs:List Value)(t:TypeId)(Q:Da->List Da->Prop):Dat->Sg->Prop:=λd σ=>
 ∃fr1 σ1 y ys,Lo [(0,d)] σ fr1 σ1/\Sx.get fr1 0=.d y/\BA 900 σ1=some (.cells t (B8 ys))/\BA 901 σ1=some (.ghost vs [.own 900])/\Q y.plain ys
theorem iR(hC:C.Ok T) {G:List FuncId} {pl:List (Nat×Plan)} {f:FuncId} {fn:Func} {c:Code}(hf:C.P.funcs[f]? =some fn)(hb:fn.body=some c)(hn:fn.ntmps=n)(hrun:∀(vs:Array Value) (w:World),(callFunc f vs).run C.P w=.ok (.enter f vs) w)(hk:BQ C.P G pl c=true) {t:TypeId} {xs args:List Da} {Q:Da->List Da->Prop}(hl:args.length+1<=n)
  (h:∀vs,Dj C T n pl c (Hr T fn.results.toList (XV vs t Q)) (params (.own 900::B8 args) 0) [(900,.cells t (B8 xs)),(901,.ghost vs [.own 900])]):NI C f t xs args Q:=by
 intro O w b cs us hblk hbO hO hcs hg hr
 obtain⟨css,h1,rfl⟩:=hr
 refine⟨hrun _ _,?_⟩
 let vs:List Value:=[.pointer (some ⟨b,0,none⟩)]
 let σ0:Sg:=[(900,.cells t (B8 xs)),(901,.ghost vs [.own 900])]
 let η0:Nat->Value:=λi=>match i with|900=>.pointer (some ⟨b,0,none⟩)|_=>.nilFunc
 let φ0:Nat->List Nat:=λi=>match i with|900=>[b]|_=>[]
 let B0:=O.filter (λc=>decide (c≠b))
 have hbl0:Ak φ0 σ0=[b]:=rfl
 have hset:∀c,c∈B0++Ak φ0 σ0↔c∈O:=λc=>by
  rw[hbl0]
  simp only[Ag,A3,AG,decide_eq_true_eq,B0]
  constructor
  ·rintro(h|rfl)
   ·exact h.1
   ·exact hbO
  ·intro h
   by_cases e:c=b
   ·exact .inr e
   ·exact .inl ⟨h,e⟩
 have hsame:Later O w (B0++Ak φ0 σ0) w:=⟨Av _,λ_ _ _=>rfl,λc hn _ hm=>hn ((hset c).1 hm)⟩
 have hm:Mem C B0 [b] w σ0 η0 φ0 w:=by
  refine⟨Tch.refl _ _,?_,by simp[Bp,σ0],?_,?_,λc hc=>hO c (A3.1 hc).1,λg hgm=>(hg g hgm).later hsame⟩
  ·intro p hp
   simp only[σ0,Ar,bT,or_false]at hp
   rcases hp with rfl|rfl
   ·exact⟨b,cs,rfl,rfl,hblk,HX.2 (RepCs.later hsame _ _ hcs)⟩
   ·exact⟨rfl,rfl,[[.pointer (some ⟨b,0,none⟩)]],by simp[A7,A4,Bp,σ0,η0],rfl⟩
  ·intro i hi j hj hij c hc
   simp only[Bp,σ0,Ap,B4,Ar,bT,or_false]at hi hj
   rcases hi with rfl|rfl<;>rcases hj with rfl|rfl<;>simp_all [φ0]
  ·intro i hi c hc
   simp only[Bp,σ0,Ap,B4,Ar,bT,or_false]at hi
   rcases hi with rfl|rfl
   ·left
    simp only[φ0]at hc
    exact⟨hc,λhm=>by simp[B0]at hm hc;exact hm.2 hc⟩
   ·simp[φ0]at hc
 have hr2:A7 η0 (Bp σ0) (B0++Ak φ0 σ0) w (.own 900::B8 args) ([.pointer (some ⟨b,0,none⟩)]::css):=by
  simp only[A7]
  exact⟨_,_,rfl,by simp[A4,Bp,σ0,η0],Dc.2 (Al.later hsame _ _ h1)⟩
 have hlen:(Dat.own 900::B8 args).length<=n:=by
  have:∀xs:List Da,(B8 xs).length=xs.length:=λxs=>by induction xs with|nil=>rfl|cons x xs ih=>simp[B8,ih]
  simp only[Ax,this];exact hl
 have:=E5 hC hf hb hn hk hr2 hlen hm (h vs)
 rw[AL,Db]at this
 refine this.mono ?_
 rintro e w' ⟨v,d,σ',η',φ',rfl,⟨fr1,σ1,y,ys,hLo,hy,hg0,hg1,hQ⟩,hm',hv⟩
 have hMf:Models C B0 [b] w 1 [(0,d)] σ' η' φ' {tmps:=#[v],defers:=[]} w':=⟨hm',λs=>by
  simp only[Sx.get]
  rcases Bh 0 s with⟨hbq,e⟩|⟨hbq,e⟩<;>rw[hbq]
  ·subst e
   obtain⟨c1,c2,c3⟩:=hv
   exact⟨c1,c2,by simp[c3]⟩
  ·exact⟨[Array.getD #[v] s undef],by simp[A4,RepC],rfl⟩,rfl,rfl⟩
 obtain⟨η',φ',hM1⟩:=hLo.models hMf
 obtain⟨_,_,qss,q3,q4⟩:=hM1.mem.own _ (Bd hg1)
 simp only[A7,A4]at q3
 obtain⟨_,_,rfl,⟨_,rfl⟩,rfl⟩:=q3
 have hη:η' 900=.pointer (some ⟨b,0,none⟩):=by
  have:vs=[η' 900]:=q4
  simp only[vs,Dh,and_true]at this
  exact this.symm
 obtain⟨b',cs',e1,e2,hb',hr'⟩:=hM1.mem.own _ (Bd hg0)
 simp only at e1 e2 hr'
 rw[hη]at e1
 simp only[Value.pointer.injEq,Au,Addr.mk.injEq,and_true]at e1
 subst e1
 have hsub:Later (B0++Ak φ' σ1) w' O w':=⟨Av _,λ_ _ _=>rfl,λc hn _ hm=>hn (by
  by_cases e:c=b
  ·subst e;exact An _ (Ba (AP (Bd hg0)) (by rw[e2];simp))
  ·exact Az _ (by simp[B0,hm,e]))⟩
 obtain⟨cy,y1,y2⟩:=hM1.fr 0
 rw[hy]at y1 y2
 simp only[A4]at y1
 refine⟨v,y.plain,ys,cs',rfl,hQ,hb',RepCs.later hsub _ _ (HX.1 hr'),⟨cy,RepC.plain y cy (RepC.later hsub _ _ y1),?_⟩,hM1.mem.tch⟩
 rw[MP]
 exact y2
end
end Go.Sx
namespace Go.Sx
open Go Go.RowKit Go.Reg
section
variable {C:Cx} {T:Fm} {fr:Fr} {σ:Sg}
theorem Aj {q:Bool} {f:FuncId} {args:List Dat} {xs:List Da} {z:Da} {K:KD}(ha:DY args=some xs)(hp:Pure C f xs (λy=>y=z))(hK:K (.d z) fr σ):BI C q f args K fr σ:=
 AH ha hp λy hy=>by subst hy;exact hK
theorem Bc {q:Bool} {f:FuncId} {args:List Dat} {xs:List Da} {z:Da} {K:KD}(T:Fm)(ha:Dy.closeL (Dy T σ 9) args=some xs)(hp:Pure C f xs (λy=>y=z))(hfl:z.flat=true)(hK:K (.d z) fr σ):BI C q f args K fr σ:=
 Ox T ha hp (λy hy=>by subst hy;exact hfl) λy hy=>by subst hy;exact hK
theorem pI {k:IntKind} {a:Int}(b:Nat)(hb:b<=8)(yk:IntKind):Op.shift .shr k a yk (b:Int)=pure (.int k (a.fdiv (2^b))):=by
 unfold Op.shift
 have h1:¬((b:Int)<0):=by omega
 have h2:min ((b:Int).toNat) k.bits=b:=by
  have h3:8<=k.bits:=by cases k<;>decide
  rw[Be];omega
 rw[if_neg h1,h2]
theorem SH(b:Nat) {n kd:Nat} {o:Oper} {K:Fr->Sg->Prop} {t ty:Nat} {x y:Operand} {k yk:IntKind} {a:Int}(ho:o.op=.binOp .shr t x y ty)(hx:ev C.Γ fr x=.d (.int k a))(hy:ev C.Γ fr y=.d (.int yk (b:Int)))(hb:b<=8)(hkd:kd=3)(hd:CZ o.dst n=true)
  (hK:K (Cm o.dst (.d (.int k (a.fdiv (2^b)))) fr) σ):AY C n kd o K fr σ:=by
 subst hkd
 refine B5 (by decide) (by decide) hd λB S w0 η φ a' w hM=>?_
 have e1:=FP (EL (AV hM x) hx)
 have e2:=FP (EL (AV hM y) hy)
 refine .inr ⟨_,_,hK,?_,Ew _ _,λh=>by cases h⟩
 simp only[execOp,ho]
 rw[e1,e2]
 refine CP ?_
 simp[eqGuard,binOp,pI b hb]
end
end Go.Sx
namespace Go.Sx
open Go Go.RowKit Go.Reg
section
variable {C:Cx} {T:Fm} {fr:Fr} {σ:Sg}
def Oy(C:Cx)(f:FuncId)(E k:Nat)(ds:List Da)(xs:List Da)(Q:List Da->Prop):Prop:=
 ∀(O:List Nat) (w:World) (v:Value) (css:List (List Value)) (us:List Value),Sl E k id w v css->(∀b∈v.ownBlock.toList,b∈O)->(∀b∈O,b<w.heap.size)->Al O w ds css->(∀x∈css,DS k x)->Glob C O w->Ig O w xs us->
  (callFunc f (v::us).toArray).run C.P w=.ok (.enter f (v::us).toArray) w/\Calls C.P f (v::us).toArray w λe w'=>∃u ds' css',e=.returned u/\Q ds'/\Sl E k id w' u css'/\(∀b∈u.ownBlock.toList,b∈v.ownBlock.toList\/w.heap.size<=b)/\
   Al (O++u.ownBlock.toList) w' ds' css'/\(∀x∈css',DS k x)/\Tch v.ownBlock.toList w w'
theorem JC {i E k:Nat} {ds:List Da} {f:FuncId} {args:List Dat} {xs:List Da} {Q:List Da->Prop} {K:KD}(hg:BA i σ=some (.slice E k ds))(ha:DY args=some xs)(hp:Oy C f E k ds xs Q)
  (hK:∀ds',Q ds'->EP (Ek i .undef fr) λfr=>BP (B2 (Bw i .undef) i (.slice E k ds') σ) λσ=>K (.own i) fr σ):BI C false f (.own i::args) K fr σ:=by
 unfold BI
 rintro B S w0 η φ n a w vs hM ⟨css,hr,rfl⟩
 have hi:=AP (Bd hg)
 simp only[A7]at hr
 obtain⟨c1,c2,rfl,r1,r2⟩:=hr
 obtain⟨h1,h2⟩:=GJ ha r2
 simp only[A4]at r1
 obtain⟨_,rfl⟩:=r1
 obtain⟨cs0,hs,e2,hrr,hkk⟩:=Bq hM.mem hg
 have hbl:∀b∈(η i).ownBlock.toList,b∈φ i:=λb hb=>by rw[e2];exact hb
 have hzip:List.zipWith BD (.own i::args) ([η i]::c2)=η i::List.zipWith Fc xs c2:=by rw[AL,h2];rfl
 rw[hzip]
 obtain⟨g1,g2⟩:=hp (B++Ak φ σ) w (η i) cs0 _ hs (λb hb=>An _ (Ba hi (hbl b hb))) hM.mem.lt hrr hkk hM.mem.glob ⟨c2,h1,rfl⟩
 refine⟨g1,g2.mono ?_⟩
 rintro e w' ⟨u,ds',css',rfl,hQ,hs',hbu,hr',hk',ht⟩
 have hF:∀b∈u.ownBlock.toList,b∈φ i\/w.heap.size<=b:=λb hb=>(hbu b hb).imp (hbl b) id
 have hlt:=Later.turn (σ:=σ) B ht hbl hi hF (Bw i .undef) (.slice E k ds')
 have hsame:Later ((B++Ak φ σ)++u.ownBlock.toList) w' (B++Ak (Ds φ i u.ownBlock.toList) (B2 (Bw i .undef) i (.slice E k ds') σ)) w':=⟨Av _,λ_ _ _=>rfl,λb hn _ hm=>hn (by
  rcases Ag.1 hm with hm|hm
  ·exact Az _ (Az _ hm)
  ·rcases Fp u.ownBlock.toList b hm with h|⟨j,hj,_,h⟩
   ·exact An _ h
   ·exact Az _ (An _ (Ba hj h)))⟩
 have hm':=hM.mem.turnKill (o:=.slice E k ds') (v:=u) ht hbl hi hF ⟨css',hs',rfl,Al.later hsame _ _ hr',hk'⟩
 have hfr:=hM.fr.kill (x:=.undef) rfl hlt (I':=Bp (B2 (Bw i .undef) i (.slice E k ds') σ)) (η':=Ds η i u) (i:=i) (λj hj hne=>⟨by rw[Bg];exact hj,C0 _ _ _ hne⟩) (RepC.undef_ex _ _ _)
 have hk2:=hK ds' hQ
 rw[Dp,Bl]at hk2
 exact⟨u,.own i,_,_,_,_,rfl,hk2,⟨hm',hfr,hM.defers,hM.size⟩,⟨[u],by simp only[A4];exact⟨by rw[Bg];exact hi,by rw[CI]⟩,rfl⟩,λh=>by cases h⟩
end
theorem Pure.lax {C:Cx} {f:FuncId} {xs ys:List Da} {Q:Da->Prop}(h:LaxAs xs ys)(hp:Pure C f ys Q):Pure C f xs Q:=by
 intro O w us hO hg hr
 obtain⟨css,h1,e⟩:=hr
 obtain⟨g1,g2⟩:=Al.lax h h1
 exact hp O w us hO hg ⟨css,g1,e.trans g2⟩
end Go.Sx
namespace Go.Sx
open Go Go.RowKit Go.Reg
theorem FI {α:Type}(f:α->Da)(h:∀x,(f x).flat=true):∀l:List α,EU (l.map f)=true
 |[]=>rfl
 |x::l=>by simp[EU,h x,FI f h l]
section
variable {C:Cx} {T:Fm} {n E k:Nat}
theorem V2(hC:C.Ok T) {G:List FuncId} {pl:List (Nat×Plan)} {f:FuncId} {fn:Func} {c:Code}(hf:C.P.funcs[f]? =some fn)(hb:fn.body=some c)(hn:fn.ntmps=n)(hrun:∀(vs:Array Value) (w:World),(callFunc f vs).run C.P w=.ok (.enter f vs) w)(hk:BQ C.P G pl c=true) {ds xs:List Da} {Q:List Da->Prop}(hl:xs.length+1<=n)
  (h:Dj C T n pl c (Hr T fn.results.toList (Hc E k Q)) (params (.own 900::B8 xs) 0) [(900,.slice E k ds)]) (hfl:∀ds,Q ds->EU ds=true:=by(intro _ h;subst h;exact FI _ (λ_=>rfl) _)):Oy C f E k ds xs Q:=by
 intro O w v css us hs hbO hO hcs hk0 hg hr
 obtain⟨css1,h1,rfl⟩:=hr
 refine⟨hrun _ _,?_⟩
 let σ0:Sg:=[(900,.slice E k ds)]
 let η0:Nat->Value:=λ_=>v
 let φ0:Nat->List Nat:=λ_=>v.ownBlock.toList
 let B0:=O.filter (λc=>!decide (c∈v.ownBlock.toList))
 have hbl0:Ak φ0 σ0=v.ownBlock.toList:=by simp[Ak,σ0,φ0]
 have hset:∀c,c∈B0++Ak φ0 σ0↔c∈O:=λc=>by
  rw[hbl0]
  simp only[Ag,A3,BC,decide_eq_false_iff_not,B0]
  constructor
  ·rintro(h|h)
   ·exact h.1
   ·exact hbO c h
  ·intro h
   by_cases e:c∈v.ownBlock.toList
   ·exact .inr e
   ·exact .inl ⟨h,e⟩
 have hsame:Later O w (B0++Ak φ0 σ0) w:=⟨Av _,λ_ _ _=>rfl,λc hn _ hm=>hn ((hset c).1 hm)⟩
 have hm:Mem C B0 v.ownBlock.toList w σ0 η0 φ0 w:=by
  refine⟨Tch.refl _ _,?_,by simp[Bp,σ0],?_,?_,λc hc=>hO c (A3.1 hc).1,λg hgm=>(hg g hgm).later hsame⟩
  ·intro p hp
   simp only[σ0,AG]at hp
   subst hp
   exact⟨css,hs,rfl,Al.later hsame _ _ hcs,hk0⟩
  ·intro i hi j hj hij c hc
   simp only[Bp,σ0,Ap,B4,AG]at hi hj
   omega
  ·intro i hi c hc
   exact .inl ⟨hc,λhm=>by
    simp only[B0,A3,BC,decide_eq_false_iff_not]at hm
    exact hm.2 hc⟩
 have hr2:A7 η0 (Bp σ0) (B0++Ak φ0 σ0) w (.own 900::B8 xs) ([v]::css1):=by
  simp only[A7]
  exact⟨_,_,rfl,by simp[A4,Bp,σ0,η0],Dc.2 (Al.later hsame _ _ h1)⟩
 have hlen:(Dat.own 900::B8 xs).length<=n:=by
  have:∀xs:List Da,(B8 xs).length=xs.length:=λxs=>by induction xs with|nil=>rfl|cons x xs ih=>simp[B8,ih]
  simp only[Ax,this];exact hl
 have:=E5 hC hf hb hn hk hr2 hlen hm h
 rw[AL,Db]at this
 refine this.mono ?_
 rintro e w' ⟨v',d,σ',η',φ',rfl,hK,hm',cs,g1,g2⟩
 unfold Hc at hK
 split at hK
 ·rename_i i
  rcases AR hK with hK|⟨o,ho,hK⟩
  ·exact hK.elim
  split at hK
  ·rename_i E' k' ds'
   obtain⟨rfl,rfl,hQ⟩:=hK
   simp only[A4]at g1
   obtain⟨hi,rfl⟩:=g1
   obtain⟨css',hs',e2,hrr,hkk⟩:=Bq hm' ho
   have e3:v'=η' i:=g2
   subst e3
   refine⟨_,ds',css',rfl,hQ,hs',λb hb=>?_,Al.flat ds' css' (hfl ds' hQ) hrr,hkk,hm'.tch⟩
   rcases hm'.new i hi b (by rw[e2];exact hb)with h|h
   ·exact .inl h.1
   ·exact .inr h
  ·exact hK.elim
 ·simp only[A4,RepC]at g1
  subst g1
  have e3:v'=.slice none 0 0:=g2
  subst e3
  exact⟨_,[],[],rfl,hK,Sl.nil _ _ _ _,λb hb=>(by cases hb),by simp[Al],by simp,hm'.tch⟩
 ·exact hK.elim
end
section
variable {C:Cx} {T:Fm} {B S:List Nat} {w0 w:World} {fr:Fr} {σ:Sg} {η:Nat->Value} {φ:Nat->List Nat} {i E k:Nat} {ds:List Da}
theorem Mem.rest(h:Mem C B S w0 σ η φ w)(hi:i∈Bp σ):
  Mem C (B++φ i) (Ak φ σ) w (CS (Bw i .undef) i σ) η φ w/\Later (B++Ak φ σ) w ((B++φ i)++Ak φ (CS (Bw i .undef) i σ)) w:=by
 have hl:Later (B++Ak φ σ) w ((B++φ i)++Ak φ (CS (Bw i .undef) i σ)) w:=by
  refine⟨Av _,λ_ _ _=>rfl,λb hn hs hm=>?_⟩
  rcases Ag.1 hm with hm|hm
  ·rcases Ag.1 hm with hm|hm
   ·exact hn (Az _ hm)
   ·exact hn (An _ (Ba hi hm))
  ·obtain⟨p,hp,hb⟩:=A9.1 hm
   obtain⟨q,hq,_,rfl⟩:=Ey hp
   exact hn (An _ (Ba (AP hq) hb))
 have hd:=(h.del (i:=i) (x:=.undef) rfl (RepC.undef_ex _ _ _)).1
 have hI:∀j∈Bp σ,j≠i->j∈Bp (CS (Bw i .undef) i σ)/\η j=η j:=λj hj hne=>⟨by rw[Eb];exact A3.2 ⟨hj,by simpa using hne⟩,rfl⟩
 refine⟨⟨Tch.refl _ _,?_,hd.nodup,hd.disj,?_,?_,λg hg=>(h.glob g hg).later hl⟩,hl⟩
 ·intro p hp
  obtain⟨q,hq,hne,rfl⟩:=Ey hp
  exact(h.own q hq).kill rfl hl hI (RepC.undef_ex _ _ _) (Tch.refl [] w) (λ_ _=>by simp)
 ·intro j hj b hb
  rw[Eb]at hj
  obtain⟨hj,hne⟩:=A3.1 hj
  have hne:j≠i:=by simpa using hne
  refine .inl ⟨Ba hj hb,λhm=>?_⟩
  rcases Ag.1 hm with hm|hm
  ·rcases h.new j hj b hb with h1|h1
   ·exact h1.2 hm
   ·have:=h.out b hm;omega
  ·exact h.disj j hj i hi hne b hb hm
 ·intro b hb
  rcases Ag.1 hb with hb|hb
  ·exact h.lt b (Az _ hb)
  ·exact h.lt b (An _ (Ba hi hb))
theorem RZ(T:Fm) {f:FuncId} {args:List Dat} {xs:List Da} {Q:List Da->Prop} {K:KD}(hg:BA i σ=some (.slice E k ds))(ha:Dy.closeL (Dy T (CS (Bw i .undef) i σ) 9) (Fg i .undef args)=some xs)(hp:Oy C f E k ds xs Q)(hfl:∀ds,Q ds->EU ds=true)
  (hK:∀ds',Q ds'->EP (Ek i .undef fr) λfr=>BP (B2 (Bw i .undef) i (.slice E k ds') σ) λσ=>K (.own i) fr σ):BI C false f (.own i::args) K fr σ:=by
 unfold BI
 rintro B S w0 η φ n a w vs hM ⟨css,hr,rfl⟩
 have hi:=AP (Bd hg)
 simp only[A7]at hr
 obtain⟨c1,c2,rfl,r1,r2⟩:=hr
 obtain⟨hm2,hl2⟩:=hM.mem.rest hi
 have hI:∀j∈Bp σ,j≠i->j∈Bp (CS (Bw i .undef) i σ)/\η j=η j:=λj hj hne=>⟨by rw[Eb];exact A3.2 ⟨hj,by simpa using hne⟩,rfl⟩
 have r3:=A7.kill (i:=i) (x:=.undef) rfl hl2 hI (RepC.undef_ex _ _ _) args c2 r2
 obtain⟨h1,h2⟩:=JY hm2 (Fg i .undef args) ha r3
 rw[EB rfl]at h2
 simp only[A4]at r1
 obtain⟨_,rfl⟩:=r1
 obtain⟨cs0,hs,e2,hrr,hkk⟩:=Bq hM.mem hg
 have hbl:∀b∈(η i).ownBlock.toList,b∈φ i:=λb hb=>by rw[e2];exact hb
 have hzip:List.zipWith BD (.own i::args) ([η i]::c2)=η i::List.zipWith Fc xs c2:=by rw[AL,h2];rfl
 rw[hzip]
 have hsm:Later (B++Ak φ σ) w (B++φ i) w:=⟨Av _,λ_ _ _=>rfl,λb hn _ hm=>hn (by
  rcases Ag.1 hm with hm|hm
  ·exact Az _ hm
  ·exact An _ (Ba hi hm))⟩
 obtain⟨g1,g2⟩:=hp (B++φ i) w (η i) cs0 _ hs (λb hb=>An _ (hbl b hb)) hm2.out (Al.later hsm _ _ hrr) hkk (λg hg=>(hM.mem.glob g hg).later hsm) ⟨c2,h1,rfl⟩
 refine⟨g1,g2.mono ?_⟩
 rintro e w' ⟨u,ds',css',rfl,hQ,hs',hbu,hr',hk',ht⟩
 have hF:∀b∈u.ownBlock.toList,b∈φ i\/w.heap.size<=b:=λb hb=>(hbu b hb).imp (hbl b) id
 have hlt:=Later.turn (σ:=σ) B ht hbl hi hF (Bw i .undef) (.slice E k ds')
 have hm':=hM.mem.turnKill (o:=.slice E k ds') (v:=u) ht hbl hi hF ⟨css',hs',rfl,Al.flat _ _ (hfl ds' hQ) hr',hk'⟩
 have hfr:=hM.fr.kill (x:=.undef) rfl hlt (I':=Bp (B2 (Bw i .undef) i (.slice E k ds') σ)) (η':=Ds η i u) (i:=i) (λj hj hne=>⟨by rw[Bg];exact hj,C0 _ _ _ hne⟩) (RepC.undef_ex _ _ _)
 have hk2:=hK ds' hQ
 rw[Dp,Bl]at hk2
 exact⟨u,.own i,_,_,_,_,rfl,hk2,⟨hm',hfr,hM.defers,hM.size⟩,⟨[u],by simp only[A4];exact⟨by rw[Bg];exact hi,by rw[CI]⟩,rfl⟩,λh=>by cases h⟩
end
end Go.Sx
