/- Sxu. -/
import Derived.Test.YtjejpdfldmempaaGreatDooragal
import Derived.Test.YtjejpdfldmempaaGreatDooragam
namespace Go.Sx
open Go Go.RowKit Go.Reg
section
variable {C:Cx} {T:ED} {B S:List Nat} {w0 w w':World} {n kd:Nat} {fr fr':Fr} {σ σ':Sg} {η:Nat->Value} {φ:Nat->List Nat} {a:Act} {i E k:Nat} {ds:List Da}
theorem YI(m:Nat) {x y:Int} {K:Nat->Prop}(hx:x=m)(hy:y=m)(hm:m<=4294967296)(hK:K m):∃m:Nat,x=m/\y=m/\m<=Jp/\K m:=⟨m,hx,hy,hm,hK⟩
structure MapE(P:Program)(κ ν:Type) [DecidableEq κ]where
 t:TypeId
 kt:TypeId
 et:TypeId
 encK:κ->Value
 encV:ν->Value
 dK:κ->Da
 dV:ν->Da
 z:ν
 ht:P.underlying t=some (.map kt et)
 hk:KeyOk P kt encK
 hz:∀w,(zeroValue et).run P w=.ok (encV z) w
 repK:∀O w k v,Rep O w (dK k) v->v=encK k
 repV:∀O w x v,Rep O w (dV x) v->v=encV x
 ofV:∀O w x,Rep O w (dV x) (encV x)
variable {κ ν:Type} [DecidableEq κ]
def MapE.obj {P:Program}(M:MapE P κ ν)(l:List (κ×ν)):Absn where
 R w v F:=∃b,v=.map (some b)/\F=[b]/\BT M.encK M.encV w b l
 keep:=by rintro S w w' v F ⟨b,rfl,rfl,h⟩ t hd;exact⟨b,rfl,rfl,h.keep t (hd b (by simp))⟩
 lt:=by rintro w v F ⟨b,rfl,rfl,h⟩ x hx;simp at hx;subst hx;exact h.lt
 one:=by rintro w v F ⟨b,rfl,rfl,h⟩;rfl
theorem O9 {d:Dat} {v:Value}(h:RD B σ η φ w d v)(e:d=.own i):v=η i:=by
 subst e
 obtain⟨cs,h1,rfl⟩:=h
 simp only[Ay]at h1
 obtain⟨_,rfl⟩:=h1
 rfl
theorem Ex {d:Dat} {x:Da} {v:Value}(h:RD B σ η φ w d v)(e:d=.d x):Rep (B++Ah φ σ) w x v:=by
 subst e
 obtain⟨cs,h1,rfl⟩:=h
 exact⟨cs,by simpa only[Ay]using h1,rfl⟩
theorem Models.newAbs(h:Models C B S w0 n fr σ η φ a w)(t:Tch [] w w') {r:Absn} {v:Value} {F:List Nat}(hF:∀b∈F,w.heap.size<=b)(hr:r.R w' v F) {j:Nat}(hj:j∉Ba σ) {dst:Option Nat}(hd:Db dst n=true):
  ∃η' φ',Models C B S w0 n (Ca dst (.own j) fr) (G9 j r.own σ) η' φ' (a.put dst v) w':=
 ⟨_,_,(h.add t hj (o:=r.own) (v:=v) (F:=F) hF (λ_O' _hl=>hr) hd).perm (E2 _ _ _)⟩
theorem Sq {o:Oper} {K:Fr->Sg->Prop} {t ty E kk:Nat} {x y:Operand}(ho:o.op=.binOp .eql t x y ty)(hu:C.P.underlying t=some (.slice E))(hx:ev C.Γ fr x=.d (.list kk []))(hy:y=.const (.slice none 0 0))(hkd:kd=0\/kd=3)(hd:Db o.dst n=true)
  (hK:∀b,K (Ca o.dst (.d (.bool b)) fr) σ):AL C n kd o K fr σ:=by
 refine AV (by rcases hkd with rfl|rfl<;>decide) (by rcases hkd with rfl|rfl<;>decide) hd λB S w0 η φ a w hM=>?_
 have h1:=Ex (AM hM x) hx
 obtain⟨cs,r,e⟩:=h1
 simp only[RepC]at r
 obtain⟨p,c,css,rfl,_⟩:=r
 have e1:a.eval x=.slice p 0 c:=e
 subst hy
 have e2:a.eval (.const (.slice none 0 0))=.slice none 0 0:=rfl
 have hr:=Lib.run_eql_slice_nil (P:=C.P) w t E p 0 c 0 0 hu
 refine .inr ⟨_,_,hK p.isNone,?_,Ie _,λ_=>by cases p<;>simp[AU,ho,e1,e2,Dk,Iy]⟩
 simp only[execOp,ho,e1,e2]
 refine C2 ?_
 simp[eqGuard,hr]
def DF(C:Cx)(f:FuncId)(xs:List Da)(E k:Nat)(Q:List Da->Prop):Prop:=
 ∀(O:List Nat) (w:World) (us:List Value),(∀b∈O,b<w.heap.size)->Glob C O w->HM O w xs us->
  (callFunc f us.toArray).run C.P w=.ok (.enter f us.toArray) w/\Calls C.P f us.toArray w λe w'=>∃v css ds,e=.returned v/\Q ds/\Sl E k id w' v css/\(∀b,v.ownBlock=some b->w.heap.size<=b)/\
   Ai (O++v.ownBlock.toList) w' ds css/\(∀x∈css,DQ k x)/\Tch [] w w'
theorem Qf(hM:Models C B S w0 n fr σ η φ a w) {O:List Nat} {j:Nat}(hj:BO j σ=none) {v:Value} {css:List (List Value)}(hs:Sl E k id w' v css)(hb:∀b,v.ownBlock=some b->w.heap.size<=b)
  (hr:∀O',Ai O' w' ds css\/O'≠O) (hO:O=B++(v.ownBlock.toList++Ah φ σ)) (hk:∀x∈css,DQ k x) (t:Tch [] w w') {K:KD} (hK:C0 (G9 j (.slice E k ds) σ) λσ=>K (.own j) fr σ):
  ∃d fr' σ' η' φ',K d fr' σ'/\Models C B S w0 n fr' σ' η' φ' a w'/\(∃cs,Ay η' (Ba σ') (B++Ah φ' σ') w' d cs/\v=Bo d cs):=by
 have hj':=E3 hj
 have hF:∀b∈v.ownBlock.toList,w.heap.size<=b:=λb h=>hb b (by simpa using h)
 obtain⟨hm,hl⟩:=hM.mem.add t hj' hF (o:=.slice E k ds) (v:=v) (by
  refine⟨css,hs,rfl,?_,hk⟩
  rcases hr O with h|h
  ·rw[<-hO];exact h
  ·exact absurd rfl h)
 have hM':Models C B S w0 n fr ((j,.slice E k ds)::σ) (Dy η j v) (Dy φ j v.ownBlock.toList) a w':=⟨hm,hM.fr.add hj' hl,hM.defers,hM.size⟩
 have hM2:=hM'.perm (E2 j (.slice E k ds) σ)
 rw[B4]at hK
 have hin:j∈Ba (G9 j (.slice E k ds) σ):=AW ((P3 j (.slice E k ds) σ (j,.slice E k ds)).2 (by simp))
 exact⟨_,fr,_,_,_,hK,hM2,[v],⟨hin,by rw[CK]⟩,rfl⟩
theorem Ko(j:Nat) {q:Bool} {f:FuncId} {args:List Dat} {xs:List Da} {Q:List Da->Prop} {K:KD}(hj:BO j σ=none)(ha:Eu args=some xs)(hp:DF C f xs E k Q)(hK:∀ds,Q ds->C0 (G9 j (.slice E k ds) σ) λσ=>K (.own j) fr σ):BG C q f args K fr σ:=by
 unfold BG
 rintro B S w0 η φ n a w vs hM ⟨css,hr,rfl⟩
 obtain⟨h1,h2⟩:=HK ha hr
 rw[h2]
 obtain⟨g1,g2⟩:=hp (B++Ah φ σ) w _ hM.mem.lt hM.mem.glob ⟨css,h1,rfl⟩
 refine⟨g1,g2.mono ?_⟩
 rintro e w' ⟨v,cs2,ds,rfl,hQ,hs,hb,hr2,hk,ht⟩
 have hin:Ai (B++(v.ownBlock.toList++Ah φ σ)) w' ds cs2:=Ai.later (O:=(B++Ah φ σ)++v.ownBlock.toList) (w:=w') ⟨Az _,λ_ _ _=>rfl,λb hn _ hm=>hn (by
  simp only[Af]at hm⊢
  rcases hm with h|h|h
  ·exact .inl (.inl h)
  ·exact .inr h
  ·exact .inl (.inr h))⟩ _ _ hr2
 obtain⟨d,fr',σ',η',φ',x1,x2,x3⟩:=Qf hM hj hs hb (O:=B++(v.ownBlock.toList++Ah φ σ)) (λO'=>by
  by_cases e:O'=B++(v.ownBlock.toList++Ah φ σ)
  ·subst e;exact .inl hin
  ·exact .inr e) rfl hk ht (hK ds hQ)
 exact⟨v,d,fr',σ',η',φ',rfl,x1,x2,x3,λ_=>ht.ext⟩
def Iu(E k:Nat)(Q:List Da->Prop):Dat->Sg->Prop:=λd σ=>match d with
 |
  .own i=>Ci (BO i σ) False λo=>(match o with
  |.slice E' k' ds=>E'=E/\k'=k/\Q ds
  |_=>False)
 |.d .nils=>Q []
 |_=>False
theorem OL(hC:C.Ok T) {G:List FuncId} {pl:List (Nat×Plan)} {f:FuncId} {fn:Func} {c:Code}(hf:C.P.funcs[f]? =some fn)(hb:fn.body=some c)(hn:fn.ntmps=n)(hrun:∀(vs:Array Value) (w:World),(callFunc f vs).run C.P w=.ok (.enter f vs) w)(hk:BA C.P G pl c=true) {xs:List Da} {Q:List Da->Prop}(hl:xs.length<=n)
  (h:CU C T n pl c (Iz T fn.results.toList (Iu E k Q)) (params (Cf xs) 0) []):DF C f xs E k Q:=by
 intro O w vs hO hg hr
 obtain⟨css,h1,rfl⟩:=hr
 refine⟨hrun _ _,?_⟩
 have hr2:A0 (λ_=>Go.undef) (Ba []) (O++Ah (λ_=>[]) []) w (Cf xs) css:=DM.2 (by simpa[Ah]using h1)
 have hlen:(Cf xs).length<=n:=by
  have:∀xs:List Da,(Cf xs).length=xs.length:=λxs=>by induction xs with|nil=>rfl|cons x xs ih=>simp[Cf,ih]
  rw[this];exact hl
 have:=FH hC hf hb hn hk hr2 hlen (NM hO hg _ _) h
 rw[DL]at this
 refine this.mono ?_
 rintro e w' ⟨v,d,σ,η,φ,rfl,hK,hm,cs,g1,g2⟩
 unfold Iu at hK
 split at hK
 ·rename_i i
  rcases AF hK with hK|⟨o,ho,hK⟩
  ·exact hK.elim
  split at hK
  ·rename_i E' k' ds
   obtain⟨rfl,rfl,hQ⟩:=hK
   simp only[Ay]at g1
   obtain⟨hi,rfl⟩:=g1
   obtain⟨css,hs,e2,hrr,hkk⟩:=Bn hm ho
   have e3:v=η i:=g2
   subst e3
   have hbl:∀b,(η i).ownBlock=some b->b∈φ i:=λb hb=>by rw[e2,hb];simp
   refine⟨_,css,ds,rfl,hQ,hs,λb hb=>?_,?_,hkk,hm.tch⟩
   ·rcases hm.new i hi b (hbl b hb)with h|h
    ·cases h.1
    ·exact h
   ·refine Ai.later ⟨Az _,λ_ _ _=>rfl,λb hn _ hm'=>hn ?_⟩ _ _ hrr
    rcases Af.1 hm' with h|h
    ·exact Aq _ h
    ·exact An _ (Bb hi (hbl b (by simpa using h)))
  ·exact hK.elim
 ·simp only[Ay,RepC]at g1
  subst g1
  have e3:v=.slice none 0 0:=g2
  subst e3
  exact⟨_,[],[],rfl,hK,Sl.nil _ _ _ _,λb hb=>(by cases hb),by simp[Ai],by simp,hm.tch⟩
 ·exact hK.elim
def RR(C:Cx)(f:FuncId)(E k:Nat)(ds:List Da)(xs:List Da)(Q:Da->List Da->Prop):Prop:=
 ∀(O:List Nat) (w:World) (v:Value) (css:List (List Value)) (us:List Value),Sl E k id w v css->(∀b∈v.ownBlock.toList,b∈O)->(∀b∈O,b<w.heap.size)->Ai O w ds css->(∀x∈css,DQ k x)->Glob C O w->HM O w xs us->
  (callFunc f (v::us).toArray).run C.P w=.ok (.enter f (v::us).toArray) w/\Calls C.P f (v::us).toArray w λe w'=>∃u y ds' css',e=.returned u/\Q y ds'/\Sl E k id w' v css'/\Ai O w' ds' css'/\(∀x∈css',DQ k x)/\Rep O w' y u/\Tch v.ownBlock.toList w w'
theorem QB {f:FuncId} {args:List Dat} {xs:List Da} {Q:Da->List Da->Prop} {K:KD}(hg:BO i σ=some (.slice E k ds))(ha:Eu args=some xs)(hp:RR C f E k ds xs Q)(hK:∀y ds',Q y ds'->C0 (Br id i (.slice E k ds') σ) λσ=>K (.d y) fr σ):BG C false f (.own i::args) K fr σ:=by
 unfold BG
 rintro B S w0 η φ n a w vs hM ⟨css,hr,rfl⟩
 have hi:=AW (B8 hg)
 simp only[A0]at hr
 obtain⟨c1,c2,rfl,r1,r2⟩:=hr
 obtain⟨h1,h2⟩:=HK ha r2
 simp only[Ay]at r1
 obtain⟨_,rfl⟩:=r1
 obtain⟨cs0,hs,e2,hrr,hkk⟩:=Bn hM.mem hg
 have hbl:∀b∈(η i).ownBlock.toList,b∈φ i:=λb hb=>by rw[e2];exact hb
 have hzip:List.zipWith Bo (.own i::args) ([η i]::c2)=η i::List.zipWith EB xs c2:=by rw[B6,h2];rfl
 rw[hzip]
 obtain⟨g1,g2⟩:=hp (B++Ah φ σ) w (η i) cs0 _ hs (λb hb=>An _ (Bb hi (hbl b hb))) hM.mem.lt hrr hkk hM.mem.glob ⟨c2,h1,rfl⟩
 refine⟨g1,g2.mono ?_⟩
 rintro e w' ⟨u,y,ds',css',rfl,hQ,hs',hr',hk',hy,ht⟩
 have he:Dy φ i (φ i)=φ:=by funext j;by_cases e:j=i<;>simp[Dy,e]
 have hl:=Later.turn B ht hbl hi (F:=φ i) (λb hb=>.inl hb) id (.slice E k ds')
 rw[he]at hl
 have hsame:Later (B++Ah φ σ) w' (B++Ah φ (Br id i (.slice E k ds') σ)) w':=⟨Az _,λ_ _ _=>rfl,λb hn _ hm=>hn (by
  rcases Af.1 hm with hm|hm
  ·exact Aq _ hm
  ·have hm2:b∈Ah (Dy φ i (φ i)) (Br id i (.slice E k ds') σ):=by rw[he];exact hm
   rcases G4 (φ i) b hm2 with h|⟨j,hj,_,h⟩
   ·exact An _ (Bb hi h)
   ·exact An _ (Bb hj h))⟩
 have hm:=hM.mem.turnSame ht hbl hi (F:=φ i) (λb hb=>.inl hb) (o:=.slice E k ds') (by
  rw[he]
  exact⟨css',hs',e2,Ai.later hsame _ _ hr',hk'⟩)
 rw[he]at hm
 have hk2:=hK y ds' hQ
 rw[B4]at hk2
 have hids:=Bt id i (.slice E k ds') σ
 obtain⟨cy,y1,y2⟩:=hy
 refine⟨u,.d y,fr,_,η,φ,rfl,hk2,⟨hm,hM.fr.later hl (λj hj=>⟨by rw[hids];exact hj,rfl⟩),hM.defers,hM.size⟩,⟨cy,?_,y2⟩,λh=>by cases h⟩
 simp only[Ay]
 exact RepC.later hsame _ _ y1
end
end Go.Sx
namespace Go.Sx
open Go Go.RowKit Go.Reg
section
variable {C:Cx} {T:ED} {fr:Fr} {σ:Sg}
theorem A8 {q:Bool} {f:FuncId} {args:List Dat} {xs:List Da} {z:Da} {K:KD}(ha:Eu args=some xs)(hp:Pure C f xs (λy=>y=z))(hK:K (.d z) fr σ):BG C q f args K fr σ:=
 Gq ha hp λy hy=>by subst hy;exact hK
theorem DD {q:Bool} {f:FuncId} {args:List Dat} {xs:List Da} {z:Da} {K:KD}(T:ED)(ha:Dh.closeL (Dh T σ 9) args=some xs)(hp:Pure C f xs (λy=>y=z))(hfl:z.flat=true)(hK:K (.d z) fr σ):BG C q f args K fr σ:=
 QD T ha hp (λy hy=>by subst hy;exact hfl) λy hy=>by subst hy;exact hK
theorem XX {k:IntKind} {a:Int}(b:Nat)(hb:b<=8)(yk:IntKind):Op.shift .shr k a yk (b:Int)=pure (.int k (a.fdiv (2^b))):=by
 unfold Op.shift
 have h1:¬((b:Int)<0):=by omega
 have h2:min ((b:Int).toNat) k.bits=b:=by
  have h3:8<=k.bits:=by cases k<;>decide
  rw[Dx];omega
 rw[if_neg h1,h2]
theorem Yj(b:Nat) {n kd:Nat} {o:Oper} {K:Fr->Sg->Prop} {t ty:Nat} {x y:Operand} {k yk:IntKind} {a:Int}(ho:o.op=.binOp .shr t x y ty)(hx:ev C.Γ fr x=.d (.int k a))(hy:ev C.Γ fr y=.d (.int yk (b:Int)))(hb:b<=8)(hkd:kd=3)(hd:Db o.dst n=true)
  (hK:K (Ca o.dst (.d (.int k (a.fdiv (2^b)))) fr) σ):AL C n kd o K fr σ:=by
 subst hkd
 refine AV (by decide) (by decide) hd λB S w0 η φ a' w hM=>?_
 have e1:=DI (Ex (AM hM x) hx)
 have e2:=DI (Ex (AM hM y) hy)
 refine .inr ⟨_,_,hK,?_,CZ _ _,λh=>by cases h⟩
 simp only[execOp,ho]
 rw[e1,e2]
 refine C2 ?_
 simp[eqGuard,binOp,XX b hb]
end
end Go.Sx
namespace Go.Sx
open Go Go.RowKit Go.Reg
section
variable {C:Cx} {T:ED} {fr:Fr} {σ:Sg}
def QM(C:Cx)(f:FuncId)(E k:Nat)(ds:List Da)(xs:List Da)(Q:List Da->Prop):Prop:=
 ∀(O:List Nat) (w:World) (v:Value) (css:List (List Value)) (us:List Value),Sl E k id w v css->(∀b∈v.ownBlock.toList,b∈O)->(∀b∈O,b<w.heap.size)->Ai O w ds css->(∀x∈css,DQ k x)->Glob C O w->HM O w xs us->
  (callFunc f (v::us).toArray).run C.P w=.ok (.enter f (v::us).toArray) w/\Calls C.P f (v::us).toArray w λe w'=>∃u ds' css',e=.returned u/\Q ds'/\Sl E k id w' u css'/\(∀b∈u.ownBlock.toList,b∈v.ownBlock.toList\/w.heap.size<=b)/\
   Ai (O++u.ownBlock.toList) w' ds' css'/\(∀x∈css',DQ k x)/\Tch v.ownBlock.toList w w'
theorem J1 {i E k:Nat} {ds:List Da} {f:FuncId} {args:List Dat} {xs:List Da} {Q:List Da->Prop} {K:KD}(hg:BO i σ=some (.slice E k ds))(ha:Eu args=some xs)(hp:QM C f E k ds xs Q)
  (hK:∀ds',Q ds'->H9 (FA i .undef fr) λfr=>C0 (Br (BF i .undef) i (.slice E k ds') σ) λσ=>K (.own i) fr σ):BG C false f (.own i::args) K fr σ:=by
 unfold BG
 rintro B S w0 η φ n a w vs hM ⟨css,hr,rfl⟩
 have hi:=AW (B8 hg)
 simp only[A0]at hr
 obtain⟨c1,c2,rfl,r1,r2⟩:=hr
 obtain⟨h1,h2⟩:=HK ha r2
 simp only[Ay]at r1
 obtain⟨_,rfl⟩:=r1
 obtain⟨cs0,hs,e2,hrr,hkk⟩:=Bn hM.mem hg
 have hbl:∀b∈(η i).ownBlock.toList,b∈φ i:=λb hb=>by rw[e2];exact hb
 have hzip:List.zipWith Bo (.own i::args) ([η i]::c2)=η i::List.zipWith EB xs c2:=by rw[B6,h2];rfl
 rw[hzip]
 obtain⟨g1,g2⟩:=hp (B++Ah φ σ) w (η i) cs0 _ hs (λb hb=>An _ (Bb hi (hbl b hb))) hM.mem.lt hrr hkk hM.mem.glob ⟨c2,h1,rfl⟩
 refine⟨g1,g2.mono ?_⟩
 rintro e w' ⟨u,ds',css',rfl,hQ,hs',hbu,hr',hk',ht⟩
 have hF:∀b∈u.ownBlock.toList,b∈φ i\/w.heap.size<=b:=λb hb=>(hbu b hb).imp (hbl b) id
 have hlt:=Later.turn (σ:=σ) B ht hbl hi hF (BF i .undef) (.slice E k ds')
 have hsame:Later ((B++Ah φ σ)++u.ownBlock.toList) w' (B++Ah (Dy φ i u.ownBlock.toList) (Br (BF i .undef) i (.slice E k ds') σ)) w':=⟨Az _,λ_ _ _=>rfl,λb hn _ hm=>hn (by
  rcases Af.1 hm with hm|hm
  ·exact Aq _ (Aq _ hm)
  ·rcases G4 u.ownBlock.toList b hm with h|⟨j,hj,_,h⟩
   ·exact An _ h
   ·exact Aq _ (An _ (Bb hj h)))⟩
 have hm':=hM.mem.turnKill (o:=.slice E k ds') (v:=u) ht hbl hi hF ⟨css',hs',rfl,Ai.later hsame _ _ hr',hk'⟩
 have hfr:=hM.fr.kill (x:=.undef) rfl hlt (I':=Ba (Br (BF i .undef) i (.slice E k ds') σ)) (η':=Dy η i u) (i:=i) (λj hj hne=>⟨by rw[Bt];exact hj,CA _ _ _ hne⟩) (RepC.undef_ex _ _ _)
 have hk2:=hK ds' hQ
 rw[Fc,B4]at hk2
 exact⟨u,.own i,_,_,_,_,rfl,hk2,⟨hm',hfr,hM.defers,hM.size⟩,⟨[u],by simp only[Ay];exact⟨by rw[Bt];exact hi,by rw[CK]⟩,rfl⟩,λh=>by cases h⟩
end
theorem Pure.lax {C:Cx} {f:FuncId} {xs ys:List Da} {Q:Da->Prop}(h:LaxAs xs ys)(hp:Pure C f ys Q):Pure C f xs Q:=by
 intro O w us hO hg hr
 obtain⟨css,h1,e⟩:=hr
 obtain⟨g1,g2⟩:=Ai.lax h h1
 exact hp O w us hO hg ⟨css,g1,e.trans g2⟩
end Go.Sx
namespace Go.Sx
open Go Go.RowKit Go.Reg
theorem Fe {α:Type}(f:α->Da)(h:∀x,(f x).flat=true):∀l:List α,ER (l.map f)=true
 |[]=>rfl
 |x::l=>by simp[ER,h x,Fe f h l]
section
variable {C:Cx} {T:ED} {n E k:Nat}
theorem VD(hC:C.Ok T) {G:List FuncId} {pl:List (Nat×Plan)} {f:FuncId} {fn:Func} {c:Code}(hf:C.P.funcs[f]? =some fn)(hb:fn.body=some c)(hn:fn.ntmps=n)(hrun:∀(vs:Array Value) (w:World),(callFunc f vs).run C.P w=.ok (.enter f vs) w)(hk:BA C.P G pl c=true) {ds xs:List Da} {Q:List Da->Prop}(hl:xs.length+1<=n)
  (h:CU C T n pl c (Iz T fn.results.toList (Iu E k Q)) (params (.own 900::Cf xs) 0) [(900,.slice E k ds)]) (hfl:∀ds,Q ds->ER ds=true:=by(intro _ h;subst h;exact Fe _ (λ_=>rfl) _)):QM C f E k ds xs Q:=by
 intro O w v css us hs hbO hO hcs hk0 hg hr
 obtain⟨css1,h1,rfl⟩:=hr
 refine⟨hrun _ _,?_⟩
 let σ0:Sg:=[(900,.slice E k ds)]
 let η0:Nat->Value:=λ_=>v
 let φ0:Nat->List Nat:=λ_=>v.ownBlock.toList
 let B0:=O.filter (λc=>!decide (c∈v.ownBlock.toList))
 have hbl0:Ah φ0 σ0=v.ownBlock.toList:=by simp[Ah,σ0,φ0]
 have hset:∀c,c∈B0++Ah φ0 σ0↔c∈O:=λc=>by
  rw[hbl0]
  simp only[Af,Bg,Ej,decide_eq_false_iff_not,B0]
  constructor
  ·rintro(h|h)
   ·exact h.1
   ·exact hbO c h
  ·intro h
   by_cases e:c∈v.ownBlock.toList
   ·exact .inr e
   ·exact .inl ⟨h,e⟩
 have hsame:Later O w (B0++Ah φ0 σ0) w:=⟨Az _,λ_ _ _=>rfl,λc hn _ hm=>hn ((hset c).1 hm)⟩
 have hm:Mem C B0 v.ownBlock.toList w σ0 η0 φ0 w:=by
  refine⟨Tch.refl _ _,?_,by simp[Ba,σ0],?_,?_,λc hc=>hO c (Bg.1 hc).1,λg hgm=>(hg g hgm).later hsame⟩
  ·intro p hp
   simp only[σ0,A7]at hp
   subst hp
   exact⟨css,hs,rfl,Ai.later hsame _ _ hcs,hk0⟩
  ·intro i hi j hj hij c hc
   simp only[Ba,σ0,Am,Bp,A7]at hi hj
   omega
  ·intro i hi c hc
   exact .inl ⟨hc,λhm=>by
    simp only[B0,Bg,Ej,decide_eq_false_iff_not]at hm
    exact hm.2 hc⟩
 have hr2:A0 η0 (Ba σ0) (B0++Ah φ0 σ0) w (.own 900::Cf xs) ([v]::css1):=by
  simp only[A0]
  exact⟨_,_,rfl,by simp[Ay,Ba,σ0,η0],DM.2 (Ai.later hsame _ _ h1)⟩
 have hlen:(Dat.own 900::Cf xs).length<=n:=by
  have:∀xs:List Da,(Cf xs).length=xs.length:=λxs=>by induction xs with|nil=>rfl|cons x xs ih=>simp[Cf,ih]
  simp only[Au,this];exact hl
 have:=FH hC hf hb hn hk hr2 hlen hm h
 rw[B6,DL]at this
 refine this.mono ?_
 rintro e w' ⟨v',d,σ',η',φ',rfl,hK,hm',cs,g1,g2⟩
 unfold Iu at hK
 split at hK
 ·rename_i i
  rcases AF hK with hK|⟨o,ho,hK⟩
  ·exact hK.elim
  split at hK
  ·rename_i E' k' ds'
   obtain⟨rfl,rfl,hQ⟩:=hK
   simp only[Ay]at g1
   obtain⟨hi,rfl⟩:=g1
   obtain⟨css',hs',e2,hrr,hkk⟩:=Bn hm' ho
   have e3:v'=η' i:=g2
   subst e3
   refine⟨_,ds',css',rfl,hQ,hs',λb hb=>?_,Ai.flat ds' css' (hfl ds' hQ) hrr,hkk,hm'.tch⟩
   rcases hm'.new i hi b (by rw[e2];exact hb)with h|h
   ·exact .inl h.1
   ·exact .inr h
  ·exact hK.elim
 ·simp only[Ay,RepC]at g1
  subst g1
  have e3:v'=.slice none 0 0:=g2
  subst e3
  exact⟨_,[],[],rfl,hK,Sl.nil _ _ _ _,λb hb=>(by cases hb),by simp[Ai],by simp,hm'.tch⟩
 ·exact hK.elim
end
section
variable {C:Cx} {T:ED} {B S:List Nat} {w0 w:World} {fr:Fr} {σ:Sg} {η:Nat->Value} {φ:Nat->List Nat} {i E k:Nat} {ds:List Da}
theorem Mem.rest(h:Mem C B S w0 σ η φ w)(hi:i∈Ba σ):
  Mem C (B++φ i) (Ah φ σ) w (Dj (BF i .undef) i σ) η φ w/\Later (B++Ah φ σ) w ((B++φ i)++Ah φ (Dj (BF i .undef) i σ)) w:=by
 have hl:Later (B++Ah φ σ) w ((B++φ i)++Ah φ (Dj (BF i .undef) i σ)) w:=by
  refine⟨Az _,λ_ _ _=>rfl,λb hn hs hm=>?_⟩
  rcases Af.1 hm with hm|hm
  ·rcases Af.1 hm with hm|hm
   ·exact hn (Aq _ hm)
   ·exact hn (An _ (Bb hi hm))
  ·obtain⟨p,hp,hb⟩:=AB.1 hm
   obtain⟨q,hq,_,rfl⟩:=Er hp
   exact hn (An _ (Bb (AW hq) hb))
 have hd:=(h.del (i:=i) (x:=.undef) rfl (RepC.undef_ex _ _ _)).1
 have hI:∀j∈Ba σ,j≠i->j∈Ba (Dj (BF i .undef) i σ)/\η j=η j:=λj hj hne=>⟨by rw[DW];exact Bg.2 ⟨hj,by simpa using hne⟩,rfl⟩
 refine⟨⟨Tch.refl _ _,?_,hd.nodup,hd.disj,?_,?_,λg hg=>(h.glob g hg).later hl⟩,hl⟩
 ·intro p hp
  obtain⟨q,hq,hne,rfl⟩:=Er hp
  exact(h.own q hq).kill rfl hl hI (RepC.undef_ex _ _ _) (Tch.refl [] w) (λ_ _=>by simp)
 ·intro j hj b hb
  rw[DW]at hj
  obtain⟨hj,hne⟩:=Bg.1 hj
  have hne:j≠i:=by simpa using hne
  refine .inl ⟨Bb hj hb,λhm=>?_⟩
  rcases Af.1 hm with hm|hm
  ·rcases h.new j hj b hb with h1|h1
   ·exact h1.2 hm
   ·have:=h.out b hm;omega
  ·exact h.disj j hj i hi hne b hb hm
 ·intro b hb
  rcases Af.1 hb with hb|hb
  ·exact h.lt b (Aq _ hb)
  ·exact h.lt b (An _ (Bb hi hb))
end
end Go.Sx
