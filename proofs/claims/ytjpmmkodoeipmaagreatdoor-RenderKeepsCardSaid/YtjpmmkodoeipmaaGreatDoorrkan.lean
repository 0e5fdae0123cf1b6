/- Sxu. -/
import Derived.Test.YtjpmmkodoeipmaaGreatDoorrkal
import Derived.Test.YtjpmmkodoeipmaaGreatDoorrkam
namespace Go.Sx
open Go Go.RowKit Go.Reg
section
variable {C:Cx} {T:Hh} {B S:List Nat} {w0 w w':World} {n kd:Nat} {fr fr':Fr} {σ σ':Sg} {η:Nat->Value} {φ:Nat->List Nat} {a:Act} {i E k:Nat} {ds:List Da}
theorem Mz(m:Nat) {x y:Int} {K:Nat->Prop}(hx:x=m)(hy:y=m)(hm:m<=4294967296)(hK:K m):∃m:Nat,x=m/\y=m/\m<=PW/\K m:=⟨m,hx,hy,hm,hK⟩
structure MapE(P:Program)(κ ν:Type) [DecidableEq κ]where
 t:TypeId
 kt:TypeId
 et:TypeId
 encK:κ->Value
 encV:ν->Value
 dK:κ->Da
 dV:ν->Da
 z:ν
 ht:P.underlying t=some (.map kt et)
 hk:KeyOk P kt encK
 hz:∀w,(zeroValue et).run P w=.ok (encV z) w
 repK:∀O w k v,Rep O w (dK k) v->v=encK k
 repV:∀O w x v,Rep O w (dV x) v->v=encV x
 ofV:∀O w x,Rep O w (dV x) (encV x)
variable {κ ν:Type} [DecidableEq κ]
def MapE.obj {P:Program}(M:MapE P κ ν)(l:List (κ×ν)):Absn where
 R w v F:=∃b,v=.map (some b)/\F=[b]/\CK M.encK M.encV w b l
 keep:=by rintro S w w' v F ⟨b,rfl,rfl,h⟩ t hd;exact⟨b,rfl,rfl,h.keep t (hd b (by simp))⟩
 lt:=by rintro w v F ⟨b,rfl,rfl,h⟩ x hx;simp at hx;subst hx;exact h.lt
 one:=by rintro w v F ⟨b,rfl,rfl,h⟩;rfl
theorem FO {d:Dat} {v:Value}(h:RD B σ η φ w d v)(e:d=.own i):v=η i:=by
 subst e
 obtain⟨cs,h1,rfl⟩:=h
 simp only[AH]at h1
 obtain⟨_,rfl⟩:=h1
 rfl
theorem Eg {d:Dat} {x:Da} {v:Value}(h:RD B σ η φ w d v)(e:d=.d x):Rep (B++Ao φ σ) w x v:=by
 subst e
 obtain⟨cs,h1,rfl⟩:=h
 exact⟨cs,by simpa only[AH]using h1,rfl⟩
theorem AE4 {x:Da} {v:Value}(h:Rep (B++Ao φ σ) w x v):RD B σ η φ w (.d x) v:=by
 obtain⟨cs,h1,h2⟩:=h
 exact⟨cs,by simpa only[AH]using h1,h2⟩
theorem iV {o:Oper} {K:Fr->Sg->Prop}(hkd:kd=5\/kd=3)(hd:Dh o.dst n=true)(d:Dat)
  (h:∀(B S:List Nat) (w0:World) (η:Nat->Value) (φ:Nat->List Nat) (a:Act) (w:World),Models C B S w0 n fr σ η φ a w->∃v,(∀w2,Kb w w2->(execOp a.eval o).run C.P w2=.ok (.value v) w2)/\RD B σ η φ w d v) (hK:K (CF o.dst d fr) σ):Bm C n kd o K fr σ:=by
 rcases hkd with rfl|rfl
 ·unfold Bm
  intro B S w0 η φ a w hM
  obtain⟨v,h1,h2⟩:=h B S w0 η φ a w hM
  exact⟨v,h1,UT hM hd h2 hK⟩
 ·refine CC (by decide) (by decide) λB S w0 η φ a w hM=>⟨λe=>(by cases e),.inl ?_⟩
  obtain⟨v,h1,h2⟩:=h B S w0 η φ a w hM
  exact⟨v,w,h1 w (Kb.refl w),UT hM hd h2 hK⟩
theorem W8(M:MapE C.P κ ν)(l:List (κ×ν))(i:Nat)(q:κ) {o:Oper} {K:Fr->Sg->Prop} {x ix:Operand}(ho:o.op=.lookup M.t x ix false)(hx:ev C.Γ fr x=.own i)(hg:BI i σ=some (M.obj l).own)(hix:ev C.Γ fr ix=.d (M.dK q))(hkd:kd=5\/kd=3)(hd:Dh o.dst n=true)
  (hK:K (CF o.dst (.d (M.dV ((Reg.get l q).getD M.z))) fr) σ):Bm C n kd o K fr σ:=by
 refine iV hkd hd _ (λB S w0 η φ a w hM=>?_) hK
 have e1:=FO (Bb hM x) hx
 have e2:=M.repK _ _ _ _ (Eg (Bb hM ix) hix)
 obtain⟨b,hb,_,hm⟩:(M.obj l).R w (η i) (φ i):=hM.mem.own _ (AQ hg)
 refine⟨M.encV ((Reg.get l q).getD M.z),λw2 he=>?_,AE4 (M.ofV _ _ _)⟩
 simp only[execOp,ho]
 rw[e1,e2,hb]
 exact CZ ((hm.ext he).look M.hk M.ht M.hz q)
theorem Models.newAbs(h:Models C B S w0 n fr σ η φ a w)(t:Tch [] w w') {r:Absn} {v:Value} {F:List Nat}(hF:∀b∈F,w.heap.size<=b)(hr:r.R w' v F) {j:Nat}(hj:j∉BA σ) {dst:Option Nat}(hd:Dh dst n=true):
  ∃η' φ',Models C B S w0 n (CF dst (.own j) fr) (Fm j r.own σ) η' φ' (a.put dst v) w':=
 ⟨_,_,(h.add t hj (o:=r.own) (v:=v) (F:=F) hF (λ_O' _hl=>hr) hd).perm (C7 _ _ _)⟩
theorem iQ(M:MapE C.P κ ν)(j:Nat) {o:Oper} {K:Fr->Sg->Prop}(ho:o.op=.makeMap M.t none)(hj:BI j σ=none)(hkd:kd=6\/kd=3)(hd:Dh o.dst n=true)
  (hK:Ci (Fm j (M.obj []).own σ) λσ=>K (CF o.dst (.own j) fr) σ):Bm C n kd o K fr σ:=by
 rw[Bw]at hK
 refine CC (by rcases hkd with rfl|rfl<;>decide) (by rcases hkd with rfl|rfl<;>decide) λB S w0 η φ a w hM=>⟨λe=>(by rcases hkd with rfl|rfl<;>cases e),.inl ?_⟩
 obtain⟨η',φ',M'⟩:=hM.newAbs (Tch.alloc w (.map #[] 0) []) (r:=M.obj []) (v:=.map (some w.heap.size)) (F:=[w.heap.size]) (by simp) ⟨_,rfl,rfl,CK.new _ _ _⟩ (CQ hj) hd
 refine⟨_,_,?_,_,_,_,_,M',hK⟩
 simp only[execOp,ho]
 exact CZ (by rfl)
theorem qY(M:MapE C.P κ ν)(l:List (κ×ν))(i:Nat)(q:κ)(y:ν) {o:Oper} {K:Fr->Sg->Prop} {x ix vx:Operand}(ho:o.op=.mapUpdate M.t x ix vx)(hx:ev C.Γ fr x=.own i)(hg:BI i σ=some (M.obj l).own)(hix:ev C.Γ fr ix=.d (M.dK q))(hv:ev C.Γ fr vx=.d (M.dV y))(hkd:kd=3)(hd:Dh o.dst n=true)
  (hK:Ci (AX id i (M.obj (put l q y)).own σ) λσ=>K (CF o.dst (.d .undef) fr) σ):Bm C n kd o K fr σ:=by
 subst hkd
 rw[Bw]at hK
 refine CC (by decide) (by decide) λB S w0 η φ a w hM=>⟨λe=>(by cases e),.inr ?_⟩
 have e1:=FO (Bb hM x) hx
 have e2:=M.repK _ _ _ _ (Eg (Bb hM ix) hix)
 have e3:=M.repV _ _ _ _ (Eg (Bb hM vx) hv)
 obtain⟨b,hb,hF,hm⟩:(M.obj l).R w (η i) (φ i):=hM.mem.own _ (AQ hg)
 obtain⟨w',hr,hm',ht⟩:=hm.update M.hk M.ht q y
 have hi:=AV (AQ hg)
 have hX:∀c∈[b],c∈φ i:=λc hc=>by rw[hF];exact hc
 have hl:=Later.turn B ht hX hi (F:=[b]) (λc hc=>.inl (hX c hc)) id (M.obj (put l q y)).own
 have hmm:=hM.mem.turnSame ht hX hi (F:=[b]) (λc hc=>.inl (hX c hc)) (o:=(M.obj (put l q y)).own) (show(M.obj (put l q y)).R w' (η i) [b]from⟨b,hb,rfl,hm'⟩)
 have M':Models C B S w0 n fr _ η _ a w':=⟨hmm,hM.fr.later hl (λj hj=>⟨by rw[AZ];exact hj,rfl⟩),hM.defers,hM.size⟩
 refine⟨w',?_,_,_,_,_,M'.put hd ⟨[Go.undef],by simp[AH,RepC],rfl⟩,hK⟩
 simp only[execOp,ho]
 rw[e1,e2,e3,hb]
 exact Wf hr
theorem Yd {o:Oper} {K:Fr->Sg->Prop} {t ty E kk:Nat} {x y:Operand}(ho:o.op=.binOp .eql t x y ty)(hu:C.P.underlying t=some (.slice E))(hx:ev C.Γ fr x=.d (.list kk []))(hy:y=.const (.slice none 0 0))(hkd:kd=0\/kd=3)(hd:Dh o.dst n=true)
  (hK:∀b,K (CF o.dst (.d (.bool b)) fr) σ):Bm C n kd o K fr σ:=by
 refine BQ (by rcases hkd with rfl|rfl<;>decide) (by rcases hkd with rfl|rfl<;>decide) hd λB S w0 η φ a w hM=>?_
 have h1:=Eg (Bb hM x) hx
 obtain⟨cs,r,e⟩:=h1
 simp only[RepC]at r
 obtain⟨p,c,css,rfl,_⟩:=r
 have e1:a.eval x=.slice p 0 c:=e
 subst hy
 have e2:a.eval (.const (.slice none 0 0))=.slice none 0 0:=rfl
 have hr:=Lib.run_eql_slice_nil (P:=C.P) w t E p 0 c 0 0 hu
 refine .inr ⟨_,_,hK p.isNone,?_,Ng _,λ_=>by cases p<;>simp[BG,ho,e1,e2,F0,N7]⟩
 simp only[execOp,ho,e1,e2]
 refine CZ ?_
 simp[eqGuard,hr]
def E5(C:Cx)(f:FuncId)(xs:List Da)(E k:Nat)(Q:List Da->Prop):Prop:=
 ∀(O:List Nat) (w:World) (us:List Value),(∀b∈O,b<w.heap.size)->Glob C O w->Jw O w xs us->
  (callFunc f us.toArray).run C.P w=.ok (.enter f us.toArray) w/\Calls C.P f us.toArray w λe w'=>∃v css ds,e=.returned v/\Q ds/\Sl E k id w' v css/\(∀b,v.ownBlock=some b->w.heap.size<=b)/\
   Aq (O++v.ownBlock.toList) w' ds css/\(∀x∈css,ER k x)/\Tch [] w w'
theorem U8(hM:Models C B S w0 n fr σ η φ a w) {O:List Nat} {j:Nat}(hj:BI j σ=none) {v:Value} {css:List (List Value)}(hs:Sl E k id w' v css)(hb:∀b,v.ownBlock=some b->w.heap.size<=b)
  (hr:∀O',Aq O' w' ds css\/O'≠O) (hO:O=B++(v.ownBlock.toList++Ao φ σ)) (hk:∀x∈css,ER k x) (t:Tch [] w w') {K:KD} (hK:Ci (Fm j (.slice E k ds) σ) λσ=>K (.own j) fr σ):
  ∃d fr' σ' η' φ',K d fr' σ'/\Models C B S w0 n fr' σ' η' φ' a w'/\(∃cs,AH η' (BA σ') (B++Ao φ' σ') w' d cs/\v=Ch d cs):=by
 have hj':=CQ hj
 have hF:∀b∈v.ownBlock.toList,w.heap.size<=b:=λb h=>hb b (by simpa using h)
 obtain⟨hm,hl⟩:=hM.mem.add t hj' hF (o:=.slice E k ds) (v:=v) (by
  refine⟨css,hs,rfl,?_,hk⟩
  rcases hr O with h|h
  ·rw[<-hO];exact h
  ·exact absurd rfl h)
 have hM':Models C B S w0 n fr ((j,.slice E k ds)::σ) (CE η j v) (CE φ j v.ownBlock.toList) a w':=⟨hm,hM.fr.add hj' hl,hM.defers,hM.size⟩
 have hM2:=hM'.perm (C7 j (.slice E k ds) σ)
 rw[Bw]at hK
 have hin:j∈BA (Fm j (.slice E k ds) σ):=AV ((P4 j (.slice E k ds) σ (j,.slice E k ds)).2 (by simp))
 exact⟨_,fr,_,_,_,hK,hM2,[v],⟨hin,by rw[Ck]⟩,rfl⟩
theorem EH(j:Nat) {q:Bool} {f:FuncId} {args:List Dat} {xs:List Da} {Q:List Da->Prop} {K:KD}(hj:BI j σ=none)(ha:EX args=some xs)(hp:E5 C f xs E k Q)(hK:∀ds,Q ds->Ci (Fm j (.slice E k ds) σ) λσ=>K (.own j) fr σ):Cj C q f args K fr σ:=by
 unfold Cj
 rintro B S w0 η φ n a w vs hM ⟨css,hr,rfl⟩
 obtain⟨h1,h2⟩:=Iw ha hr
 rw[h2]
 obtain⟨g1,g2⟩:=hp (B++Ao φ σ) w _ hM.mem.lt hM.mem.glob ⟨css,h1,rfl⟩
 refine⟨g1,g2.mono ?_⟩
 rintro e w' ⟨v,cs2,ds,rfl,hQ,hs,hb,hr2,hk,ht⟩
 have hin:Aq (B++(v.ownBlock.toList++Ao φ σ)) w' ds cs2:=Aq.later (O:=(B++Ao φ σ)++v.ownBlock.toList) (w:=w') ⟨Ax _,λ_ _ _=>rfl,λb hn _ hm=>hn (by
  simp only[Ag]at hm⊢
  rcases hm with h|h|h
  ·exact .inl (.inl h)
  ·exact .inr h
  ·exact .inl (.inr h))⟩ _ _ hr2
 obtain⟨d,fr',σ',η',φ',x1,x2,x3⟩:=U8 hM hj hs hb (O:=B++(v.ownBlock.toList++Ao φ σ)) (λO'=>by
  by_cases e:O'=B++(v.ownBlock.toList++Ao φ σ)
  ·subst e;exact .inl hin
  ·exact .inr e) rfl hk ht (hK ds hQ)
 exact⟨v,d,fr',σ',η',φ',rfl,x1,x2,x3,λ_=>ht.ext⟩
theorem Vv(T:Hh)(j:Nat) {q:Bool} {f:FuncId} {args:List Dat} {xs:List Da} {Q:List Da->Prop} {K:KD}(hj:BI j σ=none)(ha:EA.closeL (EA T σ 9) args=some xs)(hp:E5 C f xs E k Q)(hfl:∀ds,Q ds->GL ds=true)(hK:∀ds,Q ds->Ci (Fm j (.slice E k ds) σ) λσ=>K (.own j) fr σ):Cj C q f args K fr σ:=by
 unfold Cj
 rintro B S w0 η φ n a w vs hM ⟨css,hr,rfl⟩
 obtain⟨h1,h2⟩:=Ny hM.mem args ha hr
 rw[h2]
 have hgl:Glob C B w:=λg hg=>(hM.mem.glob g hg).later (Tb hM.mem)
 obtain⟨g1,g2⟩:=hp B w _ (λb hb=>hM.mem.lt b (Au _ hb)) hgl ⟨css,h1,rfl⟩
 refine⟨g1,g2.mono ?_⟩
 rintro e w' ⟨v,cs2,ds,rfl,hQ,hs,hb,hr2,hk,ht⟩
 obtain⟨d,fr',σ',η',φ',x1,x2,x3⟩:=U8 hM hj hs hb (O:=B++(v.ownBlock.toList++Ao φ σ)) (λO'=>.inl (Aq.flat ds cs2 (hfl ds hQ) hr2)) rfl hk ht (hK ds hQ)
 exact⟨v,d,fr',σ',η',φ',rfl,x1,x2,x3,λ_=>ht.ext⟩
def L9(E k:Nat)(Q:List Da->Prop):Dat->Sg->Prop:=λd σ=>match d with
 |
  .own i=>DB (BI i σ) False λo=>(match o with
  |.slice E' k' ds=>E'=E/\k'=k/\Q ds
  |_=>False)
 |.d .nils=>Q []
 |_=>False
theorem nC(hC:C.Ok T) {G:List FuncId} {pl:List (Nat×Plan)} {f:FuncId} {fn:Func} {c:Code}(hf:C.P.funcs[f]? =some fn)(hb:fn.body=some c)(hn:fn.ntmps=n)(hrun:∀(vs:Array Value) (w:World),(callFunc f vs).run C.P w=.ok (.enter f vs) w)(hk:CH C.P G pl c=true) {xs:List Da} {Q:List Da->Prop}(hl:xs.length<=n)
  (h:En C T n pl c (J8 T fn.results.toList (L9 E k Q)) (params (Ct xs) 0) []):E5 C f xs E k Q:=by
 intro O w vs hO hg hr
 obtain⟨css,h1,rfl⟩:=hr
 refine⟨hrun _ _,?_⟩
 have hr2:AE (λ_=>Go.undef) (BA []) (O++Ao (λ_=>[]) []) w (Ct xs) css:=Ek.2 (by simpa[Ao]using h1)
 have hlen:(Ct xs).length<=n:=by
  have:∀xs:List Da,(Ct xs).length=xs.length:=λxs=>by induction xs with|nil=>rfl|cons x xs ih=>simp[Ct,ih]
  rw[this];exact hl
 have:=Hg hC hf hb hn hk hr2 hlen (WJ hO hg _ _) h
 rw[Ej]at this
 refine this.mono ?_
 rintro e w' ⟨v,d,σ,η,φ,rfl,hK,hm,cs,g1,g2⟩
 unfold L9 at hK
 split at hK
 ·rename_i i
  rcases Bz hK with hK|⟨o,ho,hK⟩
  ·exact hK.elim
  split at hK
  ·rename_i E' k' ds
   obtain⟨rfl,rfl,hQ⟩:=hK
   simp only[AH]at g1
   obtain⟨hi,rfl⟩:=g1
   obtain⟨css,hs,e2,hrr,hkk⟩:=BV hm ho
   have e3:v=η i:=g2
   subst e3
   have hbl:∀b,(η i).ownBlock=some b->b∈φ i:=λb hb=>by rw[e2,hb];simp
   refine⟨_,css,ds,rfl,hQ,hs,λb hb=>?_,?_,hkk,hm.tch⟩
   ·rcases hm.new i hi b (hbl b hb)with h|h
    ·cases h.1
    ·exact h
   ·refine Aq.later ⟨Ax _,λ_ _ _=>rfl,λb hn _ hm'=>hn ?_⟩ _ _ hrr
    rcases Ag.1 hm' with h|h
    ·exact Au _ h
    ·exact Av _ (B5 hi (hbl b (by simpa using h)))
  ·exact hK.elim
 ·simp only[AH,RepC]at g1
  subst g1
  have e3:v=.slice none 0 0:=g2
  subst e3
  exact⟨_,[],[],rfl,hK,Sl.nil _ _ _ _,λb hb=>(by cases hb),by simp[Aq],by simp,hm.tch⟩
 ·exact hK.elim
def RP(C:Cx)(f:FuncId)(E k:Nat)(ds:List Da)(xs:List Da)(Q:Da->List Da->Prop):Prop:=
 ∀(O:List Nat) (w:World) (v:Value) (css:List (List Value)) (us:List Value),Sl E k id w v css->(∀b∈v.ownBlock.toList,b∈O)->(∀b∈O,b<w.heap.size)->Aq O w ds css->(∀x∈css,ER k x)->Glob C O w->Jw O w xs us->
  (callFunc f (v::us).toArray).run C.P w=.ok (.enter f (v::us).toArray) w/\Calls C.P f (v::us).toArray w λe w'=>∃u y ds' css',e=.returned u/\Q y ds'/\Sl E k id w' v css'/\Aq O w' ds' css'/\(∀x∈css',ER k x)/\Rep O w' y u/\Tch v.ownBlock.toList w w'
theorem MR {f:FuncId} {args:List Dat} {xs:List Da} {Q:Da->List Da->Prop} {K:KD}(hg:BI i σ=some (.slice E k ds))(ha:EX args=some xs)(hp:RP C f E k ds xs Q)(hK:∀y ds',Q y ds'->Ci (AX id i (.slice E k ds') σ) λσ=>K (.d y) fr σ):Cj C false f (.own i::args) K fr σ:=by
 unfold Cj
 rintro B S w0 η φ n a w vs hM ⟨css,hr,rfl⟩
 have hi:=AV (AQ hg)
 simp only[AE]at hr
 obtain⟨c1,c2,rfl,r1,r2⟩:=hr
 obtain⟨h1,h2⟩:=Iw ha r2
 simp only[AH]at r1
 obtain⟨_,rfl⟩:=r1
 obtain⟨cs0,hs,e2,hrr,hkk⟩:=BV hM.mem hg
 have hbl:∀b∈(η i).ownBlock.toList,b∈φ i:=λb hb=>by rw[e2];exact hb
 have hzip:List.zipWith Ch (.own i::args) ([η i]::c2)=η i::List.zipWith Ea xs c2:=by rw[Bh,h2];rfl
 rw[hzip]
 obtain⟨g1,g2⟩:=hp (B++Ao φ σ) w (η i) cs0 _ hs (λb hb=>Av _ (B5 hi (hbl b hb))) hM.mem.lt hrr hkk hM.mem.glob ⟨c2,h1,rfl⟩
 refine⟨g1,g2.mono ?_⟩
 rintro e w' ⟨u,y,ds',css',rfl,hQ,hs',hr',hk',hy,ht⟩
 have he:CE φ i (φ i)=φ:=by funext j;by_cases e:j=i<;>simp[CE,e]
 have hl:=Later.turn B ht hbl hi (F:=φ i) (λb hb=>.inl hb) id (.slice E k ds')
 rw[he]at hl
 have hsame:Later (B++Ao φ σ) w' (B++Ao φ (AX id i (.slice E k ds') σ)) w':=⟨Ax _,λ_ _ _=>rfl,λb hn _ hm=>hn (by
  rcases Ag.1 hm with hm|hm
  ·exact Au _ hm
  ·have hm2:b∈Ao (CE φ i (φ i)) (AX id i (.slice E k ds') σ):=by rw[he];exact hm
   rcases Gp (φ i) b hm2 with h|⟨j,hj,_,h⟩
   ·exact Av _ (B5 hi h)
   ·exact Av _ (B5 hj h))⟩
 have hm:=hM.mem.turnSame ht hbl hi (F:=φ i) (λb hb=>.inl hb) (o:=.slice E k ds') (by
  rw[he]
  exact⟨css',hs',e2,Aq.later hsame _ _ hr',hk'⟩)
 rw[he]at hm
 have hk2:=hK y ds' hQ
 rw[Bw]at hk2
 have hids:=AZ id i (.slice E k ds') σ
 obtain⟨cy,y1,y2⟩:=hy
 refine⟨u,.d y,fr,_,η,φ,rfl,hk2,⟨hm,hM.fr.later hl (λj hj=>⟨by rw[hids];exact hj,rfl⟩),hM.defers,hM.size⟩,⟨cy,?_,y2⟩,λh=>by cases h⟩
 simp only[AH]
 exact RepC.later hsame _ _ y1
def RQ(C:Cx)(f:FuncId)(t:TypeId)(xs args:List Da)(Q:Da->List Da->Prop):Prop:=
 ∀(O:List Nat) (w:World) (b:Nat) (cs us:List Value),IV w b t cs->b∈O->(∀c∈O,c<w.heap.size)->RepCs O w xs cs->Glob C O w->Jw O w args us->
  (callFunc f (.pointer (some ⟨b,0,none⟩)::us).toArray).run C.P w=.ok (.enter f (.pointer (some ⟨b,0,none⟩)::us).toArray) w/\
  Calls C.P f (.pointer (some ⟨b,0,none⟩)::us).toArray w λe w'=>∃v y ys cs',e=.returned v/\Q y ys/\IV w' b t cs'/\RepCs O w' ys cs'/\Rep O w' y v/\Tch [b] w w'
theorem KH {I O:List Nat}:∀{xs:List Da} {cs:List Value},B6 η I O w (Ct xs) cs↔RepCs O w xs cs
 |[],cs=>by simp only[Ct,B6,RepCs]
 |
  x::xs,cs=>by
  simp only[Ct,B6,RepCs,AH]
  constructor
  ·rintro⟨c1,c2,h1,h2,h3⟩;exact⟨c1,c2,h1,h2,KH.1 h3⟩
  ·rintro⟨c1,c2,h1,h2,h3⟩;exact⟨c1,c2,h1,h2,KH.2 h3⟩
theorem lG {f:FuncId} {t:TypeId} {xs Aa:List Da} {args ds0:List Dat} {Q:Da->List Da->Prop} {K:KD}(hg:BI i σ=some (.cells t ds0))(hds:EX ds0=some xs)(ha:EX args=some Aa)(hp:RQ C f t xs Aa Q)(hK:∀y ys,Q y ys->Ci (AX id i (.cells t (Ct ys)) σ) λσ=>K (.d y) fr σ):Cj C false f (.own i::args) K fr σ:=by
 unfold Cj
 rintro B S w0 η φ n a w vs hM ⟨css,hr,rfl⟩
 have hi:=AV (AQ hg)
 simp only[AE]at hr
 obtain⟨c1,c2,rfl,r1,r2⟩:=hr
 obtain⟨h1,h2⟩:=Iw ha r2
 simp only[AH]at r1
 obtain⟨_,rfl⟩:=r1
 have hd2:=E4 hds
 subst hd2
 obtain⟨b,cs,e1,e2,hb,hrr⟩:=hM.mem.own _ (AQ hg)
 simp only at e1 e2 hrr
 have hrr2:=KH.1 hrr
 have hzip:List.zipWith Ch (.own i::args) ([η i]::c2)=.pointer (some ⟨b,0,none⟩)::List.zipWith Ea Aa c2:=by rw[Bh,h2,e1];rfl
 rw[hzip]
 have hbm:b∈φ i:=by rw[e2];simp
 obtain⟨g1,g2⟩:=hp (B++Ao φ σ) w b cs _ hb (Av _ (B5 hi hbm)) hM.mem.lt hrr2 hM.mem.glob ⟨c2,h1,rfl⟩
 refine⟨g1,g2.mono ?_⟩
 rintro e w' ⟨u,y,ys,cs',rfl,hQ,hb',hr',hy,ht⟩
 have hbl:∀c∈[b],c∈φ i:=λc hc=>by rw[e2];exact hc
 have he:CE φ i (φ i)=φ:=by funext j;by_cases e:j=i<;>simp[CE,e]
 have hl:=Later.turn B ht hbl hi (F:=φ i) (λb hb=>.inl hb) id (.cells t (Ct ys))
 rw[he]at hl
 have hsame:Later (B++Ao φ σ) w' (B++Ao φ (AX id i (.cells t (Ct ys)) σ)) w':=⟨Ax _,λ_ _ _=>rfl,λb hn _ hm=>hn (by
  rcases Ag.1 hm with hm|hm
  ·exact Au _ hm
  ·have hm2:b∈Ao (CE φ i (φ i)) (AX id i (.cells t (Ct ys)) σ):=by rw[he];exact hm
   rcases Gp (φ i) b hm2 with h|⟨j,hj,_,h⟩
   ·exact Av _ (B5 hi h)
   ·exact Av _ (B5 hj h))⟩
 have hm:=hM.mem.turnSame ht hbl hi (F:=φ i) (λb hb=>.inl hb) (o:=.cells t (Ct ys)) (by
  rw[he]
  exact⟨b,cs',e1,e2,hb',KH.2 (RepCs.later hsame _ _ hr')⟩)
 rw[he]at hm
 have hk2:=hK y ys hQ
 rw[Bw]at hk2
 have hids:=AZ id i (.cells t (Ct ys)) σ
 obtain⟨cy,y1,y2⟩:=hy
 refine⟨u,.d y,fr,_,η,φ,rfl,hk2,⟨hm,hM.fr.later hl (λj hj=>⟨by rw[hids];exact hj,rfl⟩),hM.defers,hM.size⟩,⟨cy,?_,y2⟩,λh=>by cases h⟩
 simp only[AH]
 exact RepC.later hsame _ _ y1
def lS(vs:List Value)(t:TypeId)(Q:Da->List Da->Prop):Dat->Sg->Prop:=λd σ=>
 ∃fr1 σ1 y ys,Lo [(0,d)] σ fr1 σ1/\Sx.get fr1 0=.d y/\BI 900 σ1=some (.cells t (Ct ys))/\BI 901 σ1=some (.ghost vs [.own 900])/\Q y.plain ys
theorem AAr(hC:C.Ok T) {G:List FuncId} {pl:List (Nat×Plan)} {f:FuncId} {fn:Func} {c:Code}(hf:C.P.funcs[f]? =some fn)(hb:fn.body=some c)(hn:fn.ntmps=n)(hrun:∀(vs:Array Value) (w:World),(callFunc f vs).run C.P w=.ok (.enter f vs) w)(hk:CH C.P G pl c=true) {t:TypeId} {xs args:List Da} {Q:Da->List Da->Prop}(hl:args.length+1<=n)
  (h:∀vs,En C T n pl c (J8 T fn.results.toList (lS vs t Q)) (params (.own 900::Ct args) 0) [(900,.cells t (Ct xs)),(901,.ghost vs [.own 900])]):RQ C f t xs args Q:=by
 intro O w b cs us hblk hbO hO hcs hg hr
 obtain⟨css,h1,rfl⟩:=hr
 refine⟨hrun _ _,?_⟩
 let vs:List Value:=[.pointer (some ⟨b,0,none⟩)]
 let σ0:Sg:=[(900,.cells t (Ct xs)),(901,.ghost vs [.own 900])]
 let η0:Nat->Value:=λi=>match i with|900=>.pointer (some ⟨b,0,none⟩)|_=>.nilFunc
 let φ0:Nat->List Nat:=λi=>match i with|900=>[b]|_=>[]
 let B0:=O.filter (λc=>decide (c≠b))
 have hbl0:Ao φ0 σ0=[b]:=rfl
 have hset:∀c,c∈B0++Ao φ0 σ0↔c∈O:=λc=>by
  rw[hbl0]
  simp only[Ag,Az,As,decide_eq_true_eq,B0]
  constructor
  ·rintro(h|rfl)
   ·exact h.1
   ·exact hbO
  ·intro h
   by_cases e:c=b
   ·exact .inr e
   ·exact .inl ⟨h,e⟩
 have hsame:Later O w (B0++Ao φ0 σ0) w:=⟨Ax _,λ_ _ _=>rfl,λc hn _ hm=>hn ((hset c).1 hm)⟩
 have hm:Mem C B0 [b] w σ0 η0 φ0 w:=by
  refine⟨Tch.refl _ _,?_,by simp[BA,σ0],?_,?_,λc hc=>hO c (Az.1 hc).1,λg hgm=>(hg g hgm).later hsame⟩
  ·intro p hp
   simp only[σ0,Ai,CT,or_false]at hp
   rcases hp with rfl|rfl
   ·exact⟨b,cs,rfl,rfl,hblk,KH.2 (RepCs.later hsame _ _ hcs)⟩
   ·exact⟨rfl,rfl,[[.pointer (some ⟨b,0,none⟩)]],by simp[AE,AH,BA,σ0,η0],rfl⟩
  ·intro i hi j hj hij c hc
   simp only[BA,σ0,Ar,Bu,Ai,CT,or_false]at hi hj
   rcases hi with rfl|rfl<;>rcases hj with rfl|rfl<;>simp_all [φ0]
  ·intro i hi c hc
   simp only[BA,σ0,Ar,Bu,Ai,CT,or_false]at hi
   rcases hi with rfl|rfl
   ·left
    simp only[φ0]at hc
    exact⟨hc,λhm=>by simp[B0]at hm hc;exact hm.2 hc⟩
   ·simp[φ0]at hc
 have hr2:AE η0 (BA σ0) (B0++Ao φ0 σ0) w (.own 900::Ct args) ([.pointer (some ⟨b,0,none⟩)]::css):=by
  simp only[AE]
  exact⟨_,_,rfl,by simp[AH,BA,σ0,η0],Ek.2 (Aq.later hsame _ _ h1)⟩
 have hlen:(Dat.own 900::Ct args).length<=n:=by
  have:∀xs:List Da,(Ct xs).length=xs.length:=λxs=>by induction xs with|nil=>rfl|cons x xs ih=>simp[Ct,ih]
  simp only[Aw,this];exact hl
 have:=Hg hC hf hb hn hk hr2 hlen hm (h vs)
 rw[Bh,Ej]at this
 refine this.mono ?_
 rintro e w' ⟨v,d,σ',η',φ',rfl,⟨fr1,σ1,y,ys,hLo,hy,hg0,hg1,hQ⟩,hm',hv⟩
 have hMf:Models C B0 [b] w 1 [(0,d)] σ' η' φ' {tmps:=#[v],defers:=[]} w':=⟨hm',λs=>by
  simp only[Sx.get]
  rcases BN 0 s with⟨hbq,e⟩|⟨hbq,e⟩<;>rw[hbq]
  ·subst e
   obtain⟨c1,c2,c3⟩:=hv
   exact⟨c1,c2,by simp[c3]⟩
  ·exact⟨[Array.getD #[v] s undef],by simp[AH,RepC],rfl⟩,rfl,rfl⟩
 obtain⟨η',φ',hM1⟩:=hLo.models hMf
 obtain⟨_,_,qss,q3,q4⟩:=hM1.mem.own _ (AQ hg1)
 simp only[AE,AH]at q3
 obtain⟨_,_,rfl,⟨_,rfl⟩,rfl⟩:=q3
 have hη:η' 900=.pointer (some ⟨b,0,none⟩):=by
  have:vs=[η' 900]:=q4
  simp only[vs,D2,and_true]at this
  exact this.symm
 obtain⟨b',cs',e1,e2,hb',hr'⟩:=hM1.mem.own _ (AQ hg0)
 simp only at e1 e2 hr'
 rw[hη]at e1
 simp only[Value.pointer.injEq,AB,Addr.mk.injEq,and_true]at e1
 subst e1
 have hsub:Later (B0++Ao φ' σ1) w' O w':=⟨Ax _,λ_ _ _=>rfl,λc hn _ hm=>hn (by
  by_cases e:c=b
  ·subst e;exact Av _ (B5 (AV (AQ hg0)) (by rw[e2];simp))
  ·exact Au _ (by simp[B0,hm,e]))⟩
 obtain⟨cy,y1,y2⟩:=hM1.fr 0
 rw[hy]at y1 y2
 simp only[AH]at y1
 refine⟨v,y.plain,ys,cs',rfl,hQ,hb',RepCs.later hsub _ _ (KH.1 hr'),⟨cy,RepC.plain y cy (RepC.later hsub _ _ y1),?_⟩,hM1.mem.tch⟩
 rw[QQ]
 exact y2
end
end Go.Sx
namespace Go.Sx
open Go Go.RowKit Go.Reg
section
variable {C:Cx} {T:Hh} {fr:Fr} {σ:Sg}
theorem Af {q:Bool} {f:FuncId} {args:List Dat} {xs:List Da} {z:Da} {K:KD}(ha:EX args=some xs)(hp:Pure C f xs (λy=>y=z))(hK:K (.d z) fr σ):Cj C q f args K fr σ:=
 AS ha hp λy hy=>by subst hy;exact hK
theorem Br {q:Bool} {f:FuncId} {args:List Dat} {xs:List Da} {z:Da} {K:KD}(T:Hh)(ha:EA.closeL (EA T σ 9) args=some xs)(hp:Pure C f xs (λy=>y=z))(hfl:z.flat=true)(hK:K (.d z) fr σ):Cj C q f args K fr σ:=
 SB T ha hp (λy hy=>by subst hy;exact hfl) λy hy=>by subst hy;exact hK
theorem AD1 {k:IntKind} {a:Int}(b:Nat)(hb:b<=8)(yk:IntKind):Op.shift .shr k a yk (b:Int)=pure (.int k (a.fdiv (2^b))):=by
 unfold Op.shift
 have h1:¬((b:Int)<0):=by omega
 have h2:min ((b:Int).toNat) k.bits=b:=by
  have h3:8<=k.bits:=by cases k<;>decide
  rw[AY];omega
 rw[if_neg h1,h2]
theorem OA(b:Nat) {n kd:Nat} {o:Oper} {K:Fr->Sg->Prop} {t ty:Nat} {x y:Operand} {k yk:IntKind} {a:Int}(ho:o.op=.binOp .shr t x y ty)(hx:ev C.Γ fr x=.d (.int k a))(hy:ev C.Γ fr y=.d (.int yk (b:Int)))(hb:b<=8)(hkd:kd=3)(hd:Dh o.dst n=true)
  (hK:K (CF o.dst (.d (.int k (a.fdiv (2^b)))) fr) σ):Bm C n kd o K fr σ:=by
 subst hkd
 refine BQ (by decide) (by decide) hd λB S w0 η φ a' w hM=>?_
 have e1:=EZ (Eg (Bb hM x) hx)
 have e2:=EZ (Eg (Bb hM y) hy)
 refine .inr ⟨_,_,hK,?_,Fz _ _,λh=>by cases h⟩
 simp only[execOp,ho]
 rw[e1,e2]
 refine CZ ?_
 simp[eqGuard,binOp,AD1 b hb]
end
end Go.Sx
namespace Go.Sx
open Go Go.RowKit Go.Reg
section
variable {C:Cx} {T:Hh} {fr:Fr} {σ:Sg}
def VA(C:Cx)(f:FuncId)(E k:Nat)(ds:List Da)(xs:List Da)(Q:List Da->Prop):Prop:=
 ∀(O:List Nat) (w:World) (v:Value) (css:List (List Value)) (us:List Value),Sl E k id w v css->(∀b∈v.ownBlock.toList,b∈O)->(∀b∈O,b<w.heap.size)->Aq O w ds css->(∀x∈css,ER k x)->Glob C O w->Jw O w xs us->
  (callFunc f (v::us).toArray).run C.P w=.ok (.enter f (v::us).toArray) w/\Calls C.P f (v::us).toArray w λe w'=>∃u ds' css',e=.returned u/\Q ds'/\Sl E k id w' u css'/\(∀b∈u.ownBlock.toList,b∈v.ownBlock.toList\/w.heap.size<=b)/\
   Aq (O++u.ownBlock.toList) w' ds' css'/\(∀x∈css',ER k x)/\Tch v.ownBlock.toList w w'
theorem eC {i E k:Nat} {ds:List Da} {f:FuncId} {args:List Dat} {xs:List Da} {Q:List Da->Prop} {K:KD}(hg:BI i σ=some (.slice E k ds))(ha:EX args=some xs)(hp:VA C f E k ds xs Q)
  (hK:∀ds',Q ds'->Gi (Fj i .undef fr) λfr=>Ci (AX (BM i .undef) i (.slice E k ds') σ) λσ=>K (.own i) fr σ):Cj C false f (.own i::args) K fr σ:=by
 unfold Cj
 rintro B S w0 η φ n a w vs hM ⟨css,hr,rfl⟩
 have hi:=AV (AQ hg)
 simp only[AE]at hr
 obtain⟨c1,c2,rfl,r1,r2⟩:=hr
 obtain⟨h1,h2⟩:=Iw ha r2
 simp only[AH]at r1
 obtain⟨_,rfl⟩:=r1
 obtain⟨cs0,hs,e2,hrr,hkk⟩:=BV hM.mem hg
 have hbl:∀b∈(η i).ownBlock.toList,b∈φ i:=λb hb=>by rw[e2];exact hb
 have hzip:List.zipWith Ch (.own i::args) ([η i]::c2)=η i::List.zipWith Ea xs c2:=by rw[Bh,h2];rfl
 rw[hzip]
 obtain⟨g1,g2⟩:=hp (B++Ao φ σ) w (η i) cs0 _ hs (λb hb=>Av _ (B5 hi (hbl b hb))) hM.mem.lt hrr hkk hM.mem.glob ⟨c2,h1,rfl⟩
 refine⟨g1,g2.mono ?_⟩
 rintro e w' ⟨u,ds',css',rfl,hQ,hs',hbu,hr',hk',ht⟩
 have hF:∀b∈u.ownBlock.toList,b∈φ i\/w.heap.size<=b:=λb hb=>(hbu b hb).imp (hbl b) id
 have hlt:=Later.turn (σ:=σ) B ht hbl hi hF (BM i .undef) (.slice E k ds')
 have hsame:Later ((B++Ao φ σ)++u.ownBlock.toList) w' (B++Ao (CE φ i u.ownBlock.toList) (AX (BM i .undef) i (.slice E k ds') σ)) w':=⟨Ax _,λ_ _ _=>rfl,λb hn _ hm=>hn (by
  rcases Ag.1 hm with hm|hm
  ·exact Au _ (Au _ hm)
  ·rcases Gp u.ownBlock.toList b hm with h|⟨j,hj,_,h⟩
   ·exact Av _ h
   ·exact Au _ (Av _ (B5 hj h)))⟩
 have hm':=hM.mem.turnKill (o:=.slice E k ds') (v:=u) ht hbl hi hF ⟨css',hs',rfl,Aq.later hsame _ _ hr',hk'⟩
 have hfr:=hM.fr.kill (x:=.undef) rfl hlt (I':=BA (AX (BM i .undef) i (.slice E k ds') σ)) (η':=CE η i u) (i:=i) (λj hj hne=>⟨by rw[AZ];exact hj,BU _ _ _ hne⟩) (RepC.undef_ex _ _ _)
 have hk2:=hK ds' hQ
 rw[Ei,Bw]at hk2
 exact⟨u,.own i,_,_,_,_,rfl,hk2,⟨hm',hfr,hM.defers,hM.size⟩,⟨[u],by simp only[AH];exact⟨by rw[AZ];exact hi,by rw[Ck]⟩,rfl⟩,λh=>by cases h⟩
end
theorem Pure.lax {C:Cx} {f:FuncId} {xs ys:List Da} {Q:Da->Prop}(h:LaxAs xs ys)(hp:Pure C f ys Q):Pure C f xs Q:=by
 intro O w us hO hg hr
 obtain⟨css,h1,e⟩:=hr
 obtain⟨g1,g2⟩:=Aq.lax h h1
 exact hp O w us hO hg ⟨css,g1,e.trans g2⟩
end Go.Sx
namespace Go.Sx
open Go Go.RowKit Go.Reg
theorem HQ {α:Type}(f:α->Da)(h:∀x,(f x).flat=true):∀l:List α,GL (l.map f)=true
 |[]=>rfl
 |x::l=>by simp[GL,h x,HQ f h l]
section
variable {C:Cx} {T:Hh} {n E k:Nat}
theorem AAb(hC:C.Ok T) {G:List FuncId} {pl:List (Nat×Plan)} {f:FuncId} {fn:Func} {c:Code}(hf:C.P.funcs[f]? =some fn)(hb:fn.body=some c)(hn:fn.ntmps=n)(hrun:∀(vs:Array Value) (w:World),(callFunc f vs).run C.P w=.ok (.enter f vs) w)(hk:CH C.P G pl c=true) {ds xs:List Da} {Q:List Da->Prop}(hl:xs.length+1<=n)
  (h:En C T n pl c (J8 T fn.results.toList (L9 E k Q)) (params (.own 900::Ct xs) 0) [(900,.slice E k ds)]) (hfl:∀ds,Q ds->GL ds=true:=by(intro _ h;subst h;exact HQ _ (λ_=>rfl) _)):VA C f E k ds xs Q:=by
 intro O w v css us hs hbO hO hcs hk0 hg hr
 obtain⟨css1,h1,rfl⟩:=hr
 refine⟨hrun _ _,?_⟩
 let σ0:Sg:=[(900,.slice E k ds)]
 let η0:Nat->Value:=λ_=>v
 let φ0:Nat->List Nat:=λ_=>v.ownBlock.toList
 let B0:=O.filter (λc=>!decide (c∈v.ownBlock.toList))
 have hbl0:Ao φ0 σ0=v.ownBlock.toList:=by simp[Ao,σ0,φ0]
 have hset:∀c,c∈B0++Ao φ0 σ0↔c∈O:=λc=>by
  rw[hbl0]
  simp only[Ag,Az,Cm,decide_eq_false_iff_not,B0]
  constructor
  ·rintro(h|h)
   ·exact h.1
   ·exact hbO c h
  ·intro h
   by_cases e:c∈v.ownBlock.toList
   ·exact .inr e
   ·exact .inl ⟨h,e⟩
 have hsame:Later O w (B0++Ao φ0 σ0) w:=⟨Ax _,λ_ _ _=>rfl,λc hn _ hm=>hn ((hset c).1 hm)⟩
 have hm:Mem C B0 v.ownBlock.toList w σ0 η0 φ0 w:=by
  refine⟨Tch.refl _ _,?_,by simp[BA,σ0],?_,?_,λc hc=>hO c (Az.1 hc).1,λg hgm=>(hg g hgm).later hsame⟩
  ·intro p hp
   simp only[σ0,As]at hp
   subst hp
   exact⟨css,hs,rfl,Aq.later hsame _ _ hcs,hk0⟩
  ·intro i hi j hj hij c hc
   simp only[BA,σ0,Ar,Bu,As]at hi hj
   omega
  ·intro i hi c hc
   exact .inl ⟨hc,λhm=>by
    simp only[B0,Az,Cm,decide_eq_false_iff_not]at hm
    exact hm.2 hc⟩
 have hr2:AE η0 (BA σ0) (B0++Ao φ0 σ0) w (.own 900::Ct xs) ([v]::css1):=by
  simp only[AE]
  exact⟨_,_,rfl,by simp[AH,BA,σ0,η0],Ek.2 (Aq.later hsame _ _ h1)⟩
 have hlen:(Dat.own 900::Ct xs).length<=n:=by
  have:∀xs:List Da,(Ct xs).length=xs.length:=λxs=>by induction xs with|nil=>rfl|cons x xs ih=>simp[Ct,ih]
  simp only[Aw,this];exact hl
 have:=Hg hC hf hb hn hk hr2 hlen hm h
 rw[Bh,Ej]at this
 refine this.mono ?_
 rintro e w' ⟨v',d,σ',η',φ',rfl,hK,hm',cs,g1,g2⟩
 unfold L9 at hK
 split at hK
 ·rename_i i
  rcases Bz hK with hK|⟨o,ho,hK⟩
  ·exact hK.elim
  split at hK
  ·rename_i E' k' ds'
   obtain⟨rfl,rfl,hQ⟩:=hK
   simp only[AH]at g1
   obtain⟨hi,rfl⟩:=g1
   obtain⟨css',hs',e2,hrr,hkk⟩:=BV hm' ho
   have e3:v'=η' i:=g2
   subst e3
   refine⟨_,ds',css',rfl,hQ,hs',λb hb=>?_,Aq.flat ds' css' (hfl ds' hQ) hrr,hkk,hm'.tch⟩
   rcases hm'.new i hi b (by rw[e2];exact hb)with h|h
   ·exact .inl h.1
   ·exact .inr h
  ·exact hK.elim
 ·simp only[AH,RepC]at g1
  subst g1
  have e3:v'=.slice none 0 0:=g2
  subst e3
  exact⟨_,[],[],rfl,hK,Sl.nil _ _ _ _,λb hb=>(by cases hb),by simp[Aq],by simp,hm'.tch⟩
 ·exact hK.elim
end
section
variable {C:Cx} {T:Hh} {B S:List Nat} {w0 w:World} {fr:Fr} {σ:Sg} {η:Nat->Value} {φ:Nat->List Nat} {i E k:Nat} {ds:List Da}
theorem Mem.rest(h:Mem C B S w0 σ η φ w)(hi:i∈BA σ):
  Mem C (B++φ i) (Ao φ σ) w (Dc (BM i .undef) i σ) η φ w/\Later (B++Ao φ σ) w ((B++φ i)++Ao φ (Dc (BM i .undef) i σ)) w:=by
 have hl:Later (B++Ao φ σ) w ((B++φ i)++Ao φ (Dc (BM i .undef) i σ)) w:=by
  refine⟨Ax _,λ_ _ _=>rfl,λb hn hs hm=>?_⟩
  rcases Ag.1 hm with hm|hm
  ·rcases Ag.1 hm with hm|hm
   ·exact hn (Au _ hm)
   ·exact hn (Av _ (B5 hi hm))
  ·obtain⟨p,hp,hb⟩:=AL.1 hm
   obtain⟨q,hq,_,rfl⟩:=Fh hp
   exact hn (Av _ (B5 (AV hq) hb))
 have hd:=(h.del (i:=i) (x:=.undef) rfl (RepC.undef_ex _ _ _)).1
 have hI:∀j∈BA σ,j≠i->j∈BA (Dc (BM i .undef) i σ)/\η j=η j:=λj hj hne=>⟨by rw[DI];exact Az.2 ⟨hj,by simpa using hne⟩,rfl⟩
 refine⟨⟨Tch.refl _ _,?_,hd.nodup,hd.disj,?_,?_,λg hg=>(h.glob g hg).later hl⟩,hl⟩
 ·intro p hp
  obtain⟨q,hq,hne,rfl⟩:=Fh hp
  exact(h.own q hq).kill rfl hl hI (RepC.undef_ex _ _ _) (Tch.refl [] w) (λ_ _=>by simp)
 ·intro j hj b hb
  rw[DI]at hj
  obtain⟨hj,hne⟩:=Az.1 hj
  have hne:j≠i:=by simpa using hne
  refine .inl ⟨B5 hj hb,λhm=>?_⟩
  rcases Ag.1 hm with hm|hm
  ·rcases h.new j hj b hb with h1|h1
   ·exact h1.2 hm
   ·have:=h.out b hm;omega
  ·exact h.disj j hj i hi hne b hb hm
 ·intro b hb
  rcases Ag.1 hb with hb|hb
  ·exact h.lt b (Au _ hb)
  ·exact h.lt b (Av _ (B5 hi hb))
theorem Xp(T:Hh) {f:FuncId} {args:List Dat} {xs:List Da} {Q:List Da->Prop} {K:KD}(hg:BI i σ=some (.slice E k ds))(ha:EA.closeL (EA T (Dc (BM i .undef) i σ) 9) (GI i .undef args)=some xs)(hp:VA C f E k ds xs Q)(hfl:∀ds,Q ds->GL ds=true)
  (hK:∀ds',Q ds'->Gi (Fj i .undef fr) λfr=>Ci (AX (BM i .undef) i (.slice E k ds') σ) λσ=>K (.own i) fr σ):Cj C false f (.own i::args) K fr σ:=by
 unfold Cj
 rintro B S w0 η φ n a w vs hM ⟨css,hr,rfl⟩
 have hi:=AV (AQ hg)
 simp only[AE]at hr
 obtain⟨c1,c2,rfl,r1,r2⟩:=hr
 obtain⟨hm2,hl2⟩:=hM.mem.rest hi
 have hI:∀j∈BA σ,j≠i->j∈BA (Dc (BM i .undef) i σ)/\η j=η j:=λj hj hne=>⟨by rw[DI];exact Az.2 ⟨hj,by simpa using hne⟩,rfl⟩
 have r3:=AE.kill (i:=i) (x:=.undef) rfl hl2 hI (RepC.undef_ex _ _ _) args c2 r2
 obtain⟨h1,h2⟩:=Ny hm2 (GI i .undef args) ha r3
 rw[FI rfl]at h2
 simp only[AH]at r1
 obtain⟨_,rfl⟩:=r1
 obtain⟨cs0,hs,e2,hrr,hkk⟩:=BV hM.mem hg
 have hbl:∀b∈(η i).ownBlock.toList,b∈φ i:=λb hb=>by rw[e2];exact hb
 have hzip:List.zipWith Ch (.own i::args) ([η i]::c2)=η i::List.zipWith Ea xs c2:=by rw[Bh,h2];rfl
 rw[hzip]
 have hsm:Later (B++Ao φ σ) w (B++φ i) w:=⟨Ax _,λ_ _ _=>rfl,λb hn _ hm=>hn (by
  rcases Ag.1 hm with hm|hm
  ·exact Au _ hm
  ·exact Av _ (B5 hi hm))⟩
 obtain⟨g1,g2⟩:=hp (B++φ i) w (η i) cs0 _ hs (λb hb=>Av _ (hbl b hb)) hm2.out (Aq.later hsm _ _ hrr) hkk (λg hg=>(hM.mem.glob g hg).later hsm) ⟨c2,h1,rfl⟩
 refine⟨g1,g2.mono ?_⟩
 rintro e w' ⟨u,ds',css',rfl,hQ,hs',hbu,hr',hk',ht⟩
 have hF:∀b∈u.ownBlock.toList,b∈φ i\/w.heap.size<=b:=λb hb=>(hbu b hb).imp (hbl b) id
 have hlt:=Later.turn (σ:=σ) B ht hbl hi hF (BM i .undef) (.slice E k ds')
 have hm':=hM.mem.turnKill (o:=.slice E k ds') (v:=u) ht hbl hi hF ⟨css',hs',rfl,Aq.flat _ _ (hfl ds' hQ) hr',hk'⟩
 have hfr:=hM.fr.kill (x:=.undef) rfl hlt (I':=BA (AX (BM i .undef) i (.slice E k ds') σ)) (η':=CE η i u) (i:=i) (λj hj hne=>⟨by rw[AZ];exact hj,BU _ _ _ hne⟩) (RepC.undef_ex _ _ _)
 have hk2:=hK ds' hQ
 rw[Ei,Bw]at hk2
 exact⟨u,.own i,_,_,_,_,rfl,hk2,⟨hm',hfr,hM.defers,hM.size⟩,⟨[u],by simp only[AH];exact⟨by rw[AZ];exact hi,by rw[Ck]⟩,rfl⟩,λh=>by cases h⟩
end
end Go.Sx
