/- Merged: Eat Tba Agp Txi Lsr Agc Srr Trw. -/
import Derived.Test.YtjejpdfldmempaaGreatDoorlzan
import Derived.Test.YtjejpdfldmempaaGreatDoorlzav
import Derived.Test.YtjejpdfldmempaaGreatDoorlzar
import Derived.Test.YtjejpdfldmempaaGreatDoorlzas
import Derived.Shelf.SlSortCmp.WholeK
import Derived.Test.YtjejpdfldmempaaGreatDoorRows
section
namespace Go.Sx
open Go Go.RowKit Go.Reg
theorem LP {η:Nat->Value} {I O:List Nat} {w:World}:∀{xs ys:List Dat} {css:List (List Value)},A9 η I O w (xs++ys) css->∃c1 c2,css=c1++c2/\A9 η I O w xs c1/\A9 η I O w ys c2
 |[],_,css,h=>⟨[],css,rfl,by simp only[A9],h⟩
 |
  x::xs,ys,css,h=>by
  simp only[B2,A9]at h
  obtain⟨a1,a2,rfl,h1,h2⟩:=h
  obtain⟨c1,c2,rfl,h3,h4⟩:=LP h2
  exact⟨a1::c1,c2,rfl,by simp only[A9];exact⟨_,_,rfl,h1,h3⟩,h4⟩
def VV:Dat->Option Da
 |.d x=>some x
 |
  .func fn f c=>match Ei f,Ei c with
  |some fs,some cs=>some (.func fn fs cs)
  |_,_=>none
 |
  .agg ds=>match Ei ds with
  |some xs=>some (.agg xs)
  |none=>none
 |_=>none
def JP:List Dat->Option (List Da)
 |[]=>some []
 |
  d::ds=>match VV d,JP ds with
  |some x,some xs=>some (x::xs)
  |_,_=>none
theorem QD {η:Nat->Value} {I O:List Nat} {w:World}:∀{xs:List Da} {cs:List Value},Bc η I O w (BO xs) cs->RepCs O w xs cs
 |[],cs,h=>by simpa only[BO,Bc,RepCs]using h
 |
  x::xs,cs,h=>by
  simp only[BO,Bc,A7]at h
  obtain⟨c1,c2,rfl,h1,h2⟩:=h
  simp only[RepCs]
  exact⟨c1,c2,rfl,h1,QD h2⟩
theorem dR {η:Nat->Value} {I O:List Nat} {w:World} {d:Dat} {x:Da} {cs:List Value}(h:VV d=some x)(hr:A7 η I O w d cs):RepC O w x cs/\BR d cs=Ft x cs:=by
 cases d with
 |d y=>simp only[VV,Aq]at h;subst h;simp only[A7]at hr;exact⟨hr,rfl⟩
 |
  func fn f c=>
  simp only[VV]at h
  split at h
  ·rename_i fs cs' h1 h2
   simp only[Aq]at h
   subst h
   simp only[A7]at hr
   obtain⟨a,b,h3,h4,rfl⟩:=hr
   rw[D5 h1]at h3⊢
   rw[D5 h2]at h4⊢
   simp only[RepC]
   refine⟨⟨a,b,Dq.1 h3,Dq.1 h4,?_⟩,rfl⟩
   rw[Dp,Dp]
  ·cases h
 |
  agg ds=>
  simp only[VV]at h
  split at h
  ·rename_i xs h1
   simp only[Aq]at h
   subst h
   simp only[A7]at hr
   rw[D5 h1]at hr
   simp only[RepC]
   exact⟨QD hr,rfl⟩
  ·cases h
 |_=>cases h
theorem Lu {η:Nat->Value} {I O:List Nat} {w:World}:∀{ds:List Dat} {xs:List Da} {css:List (List Value)},JP ds=some xs->A9 η I O w ds css->Am O w xs css/\List.zipWith BR ds css=List.zipWith Ft xs css
 |
  [],xs,css,h,hr=>by
  simp only[JP,Aq]at h
  subst h
  simp only[A9]at hr
  subst hr
  simp[Am]
 |
  d::ds,xs,css,h,hr=>by
  simp only[JP]at h
  split at h
  ·rename_i x xs' h1 h2
   simp only[Aq]at h
   subst h
   simp only[A9]at hr
   obtain⟨c1,c2,rfl,r1,r2⟩:=hr
   obtain⟨g1,g2⟩:=dR h1 r1
   obtain⟨g3,g4⟩:=Lu h2 r2
   simp only[Am]
   exact⟨⟨c1,c2,rfl,g1,g3⟩,by rw[AT,AT,g2,g4]⟩
  ·cases h
def Mg(O:List Nat)(v:Value):List Nat:=O.filter λc=>!decide (c∈v.ownBlock.toList)
theorem Ig {O:List Nat} {v:Value} {b:Nat}:b∈Mg O v↔b∈O/\b∉v.ownBlock.toList:=by
 unfold Mg
 rw[A5,B7,decide_eq_false_iff_not]
def mS(C:Cx)(f:FuncId)(E k:Nat)(ds:List Da)(pre xs:List Da)(Q:List Da->Prop):Prop:=
 ∀(O:List Nat) (w:World) (v:Value) (css:List (List Value)) (us1 us:List Value),Sl E k id w v css->(∀b∈v.ownBlock.toList,b∈O)->(∀b∈O,b<w.heap.size)->Am O w ds css->(∀x∈css,Ec k x)->Glob C O w->I1 O w pre us1->I1 O w xs us->
  (callFunc f (us1++v::us).toArray).run C.P w=.ok (.enter f (us1++v::us).toArray) w/\Calls C.P f (us1++v::us).toArray w λe w'=>∃u ds' css',e=.returned u/\Q ds'/\Sl E k id w' u css'/\(∀b∈u.ownBlock.toList,b∈v.ownBlock.toList\/w.heap.size<=b)/\
   Am (Mg O v++u.ownBlock.toList) w' ds' css'/\(∀x∈css',Ec k x)/\Tch v.ownBlock.toList w w'
section
variable {C:Cx} {T:FF} {fr:Fr} {σ:Sg}
theorem SK {i E k:Nat} {ds:List Da} {f:FuncId}(pre:List Dat) {args:List Dat} {ps xs:List Da} {Q:List Da->Prop} {K:KD}(hg:BP i σ=some (.slice E k ds))(hpre:JP pre=some ps)(ha:JP args=some xs)(hp:mS C f E k ds ps xs Q)
  (hK:∀ds',Q ds'->Fk (EZ i .undef fr) λfr=>Cf (BG (BH i .undef) i (.slice E k ds') σ) λσ=>K (.own i) fr σ):BU C false f (pre++.own i::args) K fr σ:=by
 unfold BU
 rintro B S w0 η φ n a w vs hM ⟨css,hr,rfl⟩
 have hi:=AY (Bm hg)
 obtain⟨c0,c3,rfl,r0,r3⟩:=LP hr
 simp only[A9]at r3
 obtain⟨c1,c2,rfl,r1,r2⟩:=r3
 obtain⟨h1,h2⟩:=Lu ha r2
 obtain⟨h3,h4⟩:=Lu hpre r0
 have r1':=r1
 simp only[A7]at r1
 obtain⟨_,rfl⟩:=r1
 obtain⟨cs0,hs,e2,hrr,hkk⟩:=B8 hM.mem hg
 have hbl:∀b∈(η i).ownBlock.toList,b∈φ i:=λb hb=>by rw[e2];exact hb
 have hzip:List.zipWith BR (pre++.own i::args) (c0++[η i]::c2)=List.zipWith Ft ps c0++η i::List.zipWith Ft xs c2:=by
  rw[(Fd r0 (ys:=.own i::args) (c2:=[η i]::c2) (by simp only[A9];exact⟨_,_,rfl,r1',r2⟩)).2,h4,AT,h2];rfl
 rw[hzip]
 obtain⟨g1,g2⟩:=hp (B++Al φ σ) w (η i) cs0 _ _ hs (λb hb=>Ap _ (Bf hi (hbl b hb))) hM.mem.lt hrr hkk hM.mem.glob ⟨c0,h3,rfl⟩ ⟨c2,h1,rfl⟩
 refine⟨g1,g2.mono ?_⟩
 rintro e w' ⟨u,ds',css',rfl,hQ,hs',hbu,hr',hk',ht⟩
 have hF:∀b∈u.ownBlock.toList,b∈φ i\/w.heap.size<=b:=λb hb=>(hbu b hb).imp (hbl b) id
 have hlt:=Later.turn (σ:=σ) B ht hbl hi hF (BH i .undef) (.slice E k ds')
 have hsame:Later (Mg (B++Al φ σ) (η i)++u.ownBlock.toList) w' (B++Al (DB φ i u.ownBlock.toList) (BG (BH i .undef) i (.slice E k ds') σ)) w':=⟨Az _,λ_ _ _=>rfl,λb hn _ hm=>hn (by
  rcases Ag.1 hm with hm|hm
  ·refine A2 _ (Ig.2 ⟨A2 _ hm,λhv=>?_⟩)
   rcases hM.mem.new i hi b (hbl b hv)with h|h
   ·exact h.2 hm
   ·have:=hM.mem.out b hm;omega
  ·rcases F5 u.ownBlock.toList b hm with h|⟨j,hj,hne,h⟩
   ·exact Ap _ h
   ·exact A2 _ (Ig.2 ⟨Ap _ (Bf hj h),λhv=>hM.mem.disj j hj i hi hne b h (hbl b hv)⟩))⟩
 have hm':=hM.mem.turnKill (o:=.slice E k ds') (v:=u) ht hbl hi hF ⟨css',hs',rfl,Am.later hsame _ _ hr',hk'⟩
 have hfr:=hM.fr.kill (x:=.undef) rfl hlt (I':=B3 (BG (BH i .undef) i (.slice E k ds') σ)) (η':=DB η i u) (i:=i) (λj hj hne=>⟨by rw[By];exact hj,CD _ _ _ hne⟩) (RepC.undef_ex _ _ _)
 have hk2:=hK ds' hQ
 rw[DD,Bz]at hk2
 exact⟨u,.own i,_,_,_,_,rfl,hk2,⟨hm',hfr,hM.defers,hM.size⟩,⟨[u],by simp only[A7];exact⟨by rw[By];exact hi,by rw[Db]⟩,rfl⟩,λh=>by cases h⟩
theorem Ly {E k:Nat}(j:Nat) {q:Bool} {f:FuncId} {args:List Dat} {xs L:List Da} {K:KD}(hj:BP j σ=none)(ha:Ei args=some xs)(hp:DV C f xs E k (λds=>ds=L))(hK:Cf (F0 j (.slice E k L) σ) λσ=>K (.own j) fr σ):BU C q f args K fr σ:=
 EX j hj ha hp λds h=>by subst h;exact hK
theorem NP {i E k:Nat} {ds:List Da} {f:FuncId}(pre:List Dat) {args:List Dat} {ps xs L:List Da} {K:KD}(hg:BP i σ=some (.slice E k ds))(hpre:JP pre=some ps)(ha:JP args=some xs)(hp:mS C f E k ds ps xs (λds=>ds=L))
  (hK:Fk (EZ i .undef fr) λfr=>Cf (BG (BH i .undef) i (.slice E k L) σ) λσ=>K (.own i) fr σ):BU C false f (pre++.own i::args) K fr σ:=
 SK pre hg hpre ha hp λds h=>by subst h;exact hK
theorem Z7 {n E k:Nat}(hC:C.Ok T) {G:List FuncId} {pl:List (Nat×Plan)} {f:FuncId} {fn:Func} {c:Code}(hf:C.P.funcs[f]? =some fn)(hb:fn.body=some c)(hn:fn.ntmps=n)(hrun:∀(vs:Array Value) (w:World),(callFunc f vs).run C.P w=.ok (.enter f vs) w)(hk:Cu C.P G pl c=true) {ds pre xs:List Da} {Q:List Da->Prop}(hl:pre.length+(xs.length+1)<=n)
  (h:D1 C T n pl c (Jg T fn.results.toList (Jd E k Q)) (params (BO pre++.own 900::BO xs) 0) [(900,.slice E k ds)]):mS C f E k ds pre xs Q:=by
 intro O w v css us1 us hs hbO hO hcs hk0 hg hr1 hr
 obtain⟨css0,h0,rfl⟩:=hr1
 obtain⟨css1,h1,rfl⟩:=hr
 refine⟨hrun _ _,?_⟩
 let σ0:Sg:=[(900,.slice E k ds)]
 let η0:Nat->Value:=λ_=>v
 let φ0:Nat->List Nat:=λ_=>v.ownBlock.toList
 have hbl0:Al φ0 σ0=v.ownBlock.toList:=by simp[Al,σ0,φ0]
 have hset:∀c,c∈Mg O v++Al φ0 σ0↔c∈O:=λc=>by
  rw[hbl0,Ag,Ig]
  constructor
  ·rintro(h|h)
   ·exact h.1
   ·exact hbO c h
  ·intro h
   by_cases e:c∈v.ownBlock.toList
   ·exact .inr e
   ·exact .inl ⟨h,e⟩
 have hsame:Later O w (Mg O v++Al φ0 σ0) w:=⟨Az _,λ_ _ _=>rfl,λc hn _ hm=>hn ((hset c).1 hm)⟩
 have hm:Mem C (Mg O v) v.ownBlock.toList w σ0 η0 φ0 w:=by
  refine⟨Tch.refl _ _,?_,by simp[B3,σ0],?_,?_,λc hc=>hO c (Ig.1 hc).1,λg hgm=>(hg g hgm).later hsame⟩
  ·intro p hp
   simp only[σ0,AA]at hp
   subst hp
   exact⟨css,hs,rfl,Am.later hsame _ _ hcs,hk0⟩
  ·intro i hi j hj hij c hc
   simp only[B3,σ0,Au,BI,AA]at hi hj
   omega
  ·intro i hi c hc
   exact .inl ⟨hc,λhm=>(Ig.1 hm).2 hc⟩
 have hr2:A9 η0 (B3 σ0) (Mg O v++Al φ0 σ0) w (.own 900::BO xs) ([v]::css1):=by
  simp only[A9]
  exact⟨_,_,rfl,by simp[A7,B3,σ0,η0],Dq.2 (Am.later hsame _ _ h1)⟩
 have hr0:A9 η0 (B3 σ0) (Mg O v++Al φ0 σ0) w (BO pre) css0:=Dq.2 (Am.later hsame _ _ h0)
 obtain⟨hr3,hz⟩:=Fd hr0 hr2
 have hlen:(BO pre++Dat.own 900::BO xs).length<=n:=by
  have:∀xs:List Da,(BO xs).length=xs.length:=λxs=>by induction xs with|nil=>rfl|cons x xs ih=>simp[BO,ih]
  rw[Ah,A4,this,this];exact hl
 have:=EK hC hf hb hn hk hr3 hlen hm h
 rw[hz,Dp,AT,Dp]at this
 refine this.mono ?_
 rintro e w' ⟨v',d,σ',η',φ',rfl,hK,hm',cs,g1,g2⟩
 unfold Jd at hK
 split at hK
 ·rename_i i
  rcases AW hK with hK|⟨o,ho,hK⟩
  ·exact hK.elim
  split at hK
  ·rename_i E' k' ds'
   obtain⟨rfl,rfl,hQ⟩:=hK
   simp only[A7]at g1
   obtain⟨hi,rfl⟩:=g1
   obtain⟨css',hs',e2,hrr,hkk⟩:=B8 hm' ho
   have e3:v'=η' i:=g2
   subst e3
   refine⟨_,ds',css',rfl,hQ,hs',λb hb=>?_,?_,hkk,hm'.tch⟩
   ·rcases hm'.new i hi b (by rw[e2];exact hb)with h|h
    ·exact .inl h.1
    ·exact .inr h
   ·refine Am.later ⟨Az _,λ_ _ _=>rfl,λb hn _ hm'=>hn ?_⟩ _ _ hrr
    rcases Ag.1 hm' with h|h
    ·exact A2 _ h
    ·exact Ap _ (Bf hi (by rw[e2];exact h))
  ·exact hK.elim
 ·simp only[A7,RepC]at g1
  subst g1
  have e3:v'=.slice none 0 0:=g2
  subst e3
  exact⟨_,[],[],rfl,hK,Sl.nil _ _ _ _,λb hb=>(by cases hb),by simp[Am],by simp,hm'.tch⟩
 ·exact hK.elim
end
end Go.Sx
end
section
namespace Go.Reg
open Go Go.RowKit
theorem lN(a b:ByteArray):(@BEq.beq ByteArray ByteArray.instBEq a b)=decide (a=b):=by
 obtain⟨x⟩:=a
 obtain⟨y⟩:=b
 show(x==y)=_
 by_cases h:x=y
 ·subst h;simp
 ·have:¬(ByteArray.mk x=ByteArray.mk y):=λe=>h (by injection e)
  simp[h]
theorem U5(a b:ByteArray):Instr.sameNow .string (.string a) (.string b)=some (decide (a=b)):=by
 show some (@BEq.beq ByteArray ByteArray.instBEq a b)=_
 rw[lN]
theorem O5(k:ByteArray):∀(es:List MapEntry) (ks:List ByteArray) (j:Nat),es.map (·.key)=ks.map Value.string->Instr.findNow .string (.string k) es j=some ((ks.findIdx? (λx=>decide (x=k))).bind λi=>(es[i]?).map λe=>(j+i,e.val))
 |[],[],j,_=>by simp[Instr.findNow]
 |[],k'::ks,j,h=>by simp at h
 |e::es,[],j,h=>by simp at h
 |
  e::es,k'::ks,j,h=>by
  simp only[Au,CX]at h
  have ih:=O5 k es ks (j+1) h.2
  have hs:Instr.sameNow .string (.string k) e.key=some (decide (k=k')):=by rw[h.1];exact U5 k k'
  by_cases hk:k=k'
  ·subst hk
   simp[Instr.findNow,hs,TX]
  ·have h2:¬k'=k:=λh=>hk h.symm
   simp only[Instr.findNow,hs,TX,hk,h2,decide_false,Cn,if_false,ih]
   cases ks.findIdx? (λx=>decide (x=k))with
   |none=>rfl
   |some i=>simp[Jl,Nat.add_comm 1 i]
theorem KeyOk.of_string {P:Program} {kt:TypeId}(hu:P.underlying kt=some .string)(hchk:∀em k w,(Instr.checkKey em 10000 kt (.string k)).run P w=.ok () w):KeyOk P kt Value.string:=by
 refine⟨hchk,λk es ks w h=>?_,λk w=>?_⟩
 ·simp only[Instr.findKey,A6,run_underlying hu,A3]
  rw[O5 k es ks 0 h]
  simp
  rfl
 ·have:Instr.sameBits 10000 (.string k) (.string k)=true:=by
   show @BEq.beq ByteArray ByteArray.instBEq k k=true
   rw[lN];simp
  simp[Instr.keyThatStays,this]
end Go.Reg
namespace Go.Proofs.YtjejpdfldmempaaGreatDoor
open Go.Sx Go.RowKit Go.Reg Go.Gr
set_option maxRecDepth 100000
def MW:MapE Tryz.prog ByteArray RowV where
 t:=104
 kt:=9
 et:=100
 encK:=.string
 encV r:=.agg #[r.lv,r.ev,.int .i64 r.n]
 dK s:=.str s
 dV r:=.agg [.agg [.raw r.lv,.raw r.ev],.int .i64 r.n]
 z:=⟨.slice none 0 0,.slice none 0 0,0,⟨[],[]⟩,rfl,rfl⟩
 ht:=Tryz.underlying104
 hk:=KeyOk.of_string Tryz.underlying9 (λem k w=>by kernel_rfl)
 hz:=by intro w;kernel_rfl
 repK:=by rintro O w k v h;exact Tm h
 repV:=by
  rintro O w r v ⟨cs,h,rfl⟩
  simp only[RepC,RepCs]at h
  obtain⟨_,_,rfl,⟨_,_,rfl,rfl,_,_,rfl,rfl,rfl⟩,_,_,rfl,rfl,rfl⟩:=h
  rfl
 ofV:=by
  rintro O w r
  refine⟨[r.lv,r.ev,.int .i64 r.n],?_,rfl⟩
  simp only[RepC,RepCs]
  exact⟨[r.lv,r.ev],_,rfl,⟨[r.lv],_,rfl,rfl,[r.ev],_,rfl,rfl,rfl⟩,_,_,rfl,rfl,rfl⟩
theorem Sf(a b:Int)(ha:0<=a)(hb:0<=b)(hs:a+b<=9223372036854775807):Pure C1 62 [.int .i64 a,.int .i64 b] (λy=>y=.tuple [.int .i64 (a+b),.nili]):=by
 refine AK Tryz.func62 Tryz.ntmps62 [] [] ?_
 by_cases h:b=0
 ·subst h
  (conv=>whnf)
  (repeat' ((first|refine Af ?_ ?_|refine wM ?_|refine nx ?_|refine Aw (λ_=>?_) (λ_=>?_)|exact A0)<;>conv=>whnf))
  exact rfl
 ·(conv=>whnf)
  (repeat' ((first|refine Af ?_ ?_|refine wM ?_|refine nx ?_|refine Aw (λ_=>?_) (λ_=>?_)|exact A0)<;>conv=>whnf))
  exact rfl
theorem SC(l:List Edg)(hl:l.length<=2000000000):DV C1 61 [D0 l] 103 2 (λds=>ds=l.map dE):=by
 have hlm:(l.map dE).length=l.length:=Ab _
 refine Vt Tryz.func61 Tryz.ntmps61 [] [] ?_
 cases l with
 |
  nil=>
  ((conv=>whnf);repeat' ((first|refine odw ?_|refine nx ?_|refine Aw (λ_=>?_) (λ_=>?_))<;>conv=>whnf))
  refine Zp rfl Tryz.underlying29 rfl rfl (.inr rfl) rfl ?_
  intro b
  cases b<;>((conv=>whnf);repeat' ((first|refine odw ?_|refine nx ?_|refine Aw (λ_=>?_) (λ_=>?_))<;>conv=>whnf))
  ·exact⟨rfl,rfl,rfl⟩
  ·exact rfl
 |
  cons x l=>
  have hlm2:(([]:List Da).length+((x::l).map dE).length)<=4294967296:=by rw[hlm];simp at hl⊢;omega
  ((conv=>whnf);repeat' ((first|refine odw ?_|refine nx ?_|refine Aw (λ_=>?_) (λ_=>?_))<;>conv=>whnf))
  all_goals first|exact⟨rfl,rfl,rfl⟩|(refine Hv hlm2 ?_;((conv=>whnf);repeat' ((first|refine odw ?_|refine nx ?_|refine Aw (λ_=>?_) (λ_=>?_))<;>conv=>whnf));exact⟨rfl,rfl,by simp⟩)
theorem DV.up3 {f:FuncId} {xs:List Da} {E k:Nat} {Q:List Da->Prop}(h:DV C1 f xs E k Q):DV C3 f xs E k Q:=λO w us h1 h2 h3=>h O w us h1 (λg hg=>h2 g (A2 _ hg)) h3
def sT(m:List (ByteArray×RowV))(X:List (Value×Da)):Sg:=[(900,.cells 106 [.own 901]),(901,(F7 MW m X).own)]
def Zk:List (Nat×Plan):=[]
def mB:List FuncId:=[]
theorem lD:Cu Tryz.prog mB Zk (Tryz.f11.body.getD .skip)=true:=by kernel_rfl
theorem gQ(vs:Array Value)(w:World):(callFunc 11 vs).run C1.P w=.ok (.enter 11 vs) w:=by kernel_rfl
theorem nK:DQ C3 11 [] [] [] (λd σ=>d=.own 900/\σ=sT [] []):=by
 refine MX Jj (pl:=Zk) (G:=mB) Tryz.func11 rfl Tryz.ntmps11 gQ lD (by simp) 999 rfl ?_
 intro vs
 (conv=>whnf)
 (repeat' ((first|refine Af ?_ ?_|refine XO MW 1 rfl rfl (by decide) rfl ?_|refine nx ?_|refine Aw (λ_=>?_) (λ_=>?_)|exact A0)<;>conv=>whnf))
 exact⟨_,_,[(3,900),(1,901)],[(3,_),(1,_)],.lo (.refl _ _),rfl,⟨rfl,rfl,trivial⟩,rfl,rfl,rfl⟩
structure TextOk(p:Pt):Prop where
 right:Jz p=.nili
 len:p.labels.length<=1000
 lab:∀x∈p.labels,0<=x/\x<=999999
 elen:p.edges.length<=1000
 edg:∀e∈p.edges,(0<=e.a/\e.a<=999999)/\0<=e.b/\e.b<=999999
def Tr:List (Nat×Plan):=[(11,.leaf [0,1,2,0,1,2,0,0,3] [0,3,1,4,2,5,6,7,8] [0,1,3,0,8,31,63,127,255]),
 (16,.leaf [0,0,0,1,0,1,3] [0,1,2,4,3,5,6] [0,1,3,7,0,0,63])]
def YP:List FuncId:=[60,61]
theorem Wq:Cu Tryz.prog YP Tr (Tryz.f16.body.getD .skip)=true:=by kernel_rfl
theorem U7(vs:Array Value)(w:World):(callFunc 16 vs).run C1.P w=.ok (.enter 16 vs) w:=by kernel_rfl
theorem fP(m:List (ByteArray×RowV))(X:List (Value×Da))(p:Pt)(n:Int)(r:RowV)(hp:TextOk p)(hn:0<=n)(hr:Reg.get m (bs (F9 p))=some r)(hr0:0<=r.n)(hs:r.n+n<=9223372036854775807):
  DQ C3 16 [.own 900,.d (GE p),.d (.int .i64 n)] (sT m X) [900] (λd σ=>d=.d .nili/\σ=sT (put m (bs (F9 p)) {r with n:=r.n+n}) X):=by
 have hri:=Pure.up3 (Hs p (by have:=hp.len;omega) (by have:=hp.elen;omega))
 rw[hp.right]at hri
 have htx:=PU p hp.len hp.lab hp.elen hp.edg
 have had:=Pure.up3 (Sf r.n n hr0 hn hs)
 have hmem:(bs (F9 p),r)∈m:=by
  unfold Reg.get at hr
  obtain⟨q,hq,e⟩:=Cg.1 hr
  have h1:=List.mem_of_find?_eq_some hq
  have h2:=List.find?_some hq
  have h3:q.1=bs (F9 p):=by simpa using h2
  have:q=(bs (F9 p),r):=by rw[<-h3,<-e]
  rw[<-this];exact h1
 have hlk:((Reg.get m (bs (F9 p))).getD MW.z,(Reg.get m (bs (F9 p))).isSome)=(r,true):=by rw[hr];rfl
 refine MX Jj (pl:=Tr) (G:=YP) Tryz.func16 rfl Tryz.ntmps16 U7 Wq (by simp) 999 rfl ?_
 intro vs
 (conv=>whnf)
 (repeat' ((first|refine Af ?_ ?_|refine Ad rfl hri ?_|refine Ad rfl htx ?_|refine Qe 901 (bs (F9 p)) rfl rfl rfl rfl ⟨by decide,by decide⟩ rfl hlk ?_|refine J7 Jj 9 rfl rfl rfl rfl rfl rfl rfl r.h1 r.h2 ⟨by decide,by decide⟩ rfl ?_|refine Ad rfl had ?_|refine Sb (M:=MW) 901 (bs (F9 p)) {r with n:=r.n+n} rfl rfl rfl rfl (λh=>MW.repV _ _ _ _ (Ff h rfl)) (λ_ _ _ h=>h _ hmem) ⟨by decide,by decide,by decide⟩ rfl ?_|refine nx ?_|refine Aw (λ_=>?_) (λ_=>?_)|exact A0)<;>conv=>whnf))
 exact⟨_,_,[],sT _ X,.lo (.refl _ _),rfl,⟨rfl,rfl,trivial⟩,rfl,rfl,rfl⟩
theorem fQ(m:List (ByteArray×RowV))(X:List (Value×Da))(p:Pt)(n:Int)(hp:TextOk p)(hn:0<=n/\n<=9223372036854775807)(hr:Reg.get m (bs (F9 p))=none):
  DQ C3 16 [.own 900,.d (GE p),.d (.int .i64 n)] (sT m X) [900] (λd σ=>∃r:RowV,(r.n=n/\r.p=p)/\d=.d .nili/\σ=sT (put m (bs (F9 p)) r) ((r.ev,D0 p.edges)::(r.lv,AS p.labels)::X)):=by
 have hri:=Pure.up3 (Hs p (by have:=hp.len;omega) (by have:=hp.elen;omega))
 rw[hp.right]at hri
 have htx:=PU p hp.len hp.lab hp.elen hp.edg
 have had:=Pure.up3 (Sf 0 n (by omega) hn.1 (by omega))
 rw[Int.zero_add]at had
 have hlk:((Reg.get m (bs (F9 p))).getD MW.z,(Reg.get m (bs (F9 p))).isSome)=(MW.z,false):=by rw[hr];rfl
 have hc1:=DV.up3 (Ix p.labels (by have:=hp.len;omega))
 have hc2:=DV.up3 (SC p.edges (by have:=hp.elen;omega))
 have hf1:Fg (p.labels.map dI)=true:=Gb dI (λ_=>rfl) _
 have hf2:Fg (p.edges.map dE)=true:=Gb dE (λ_=>rfl) _
 refine MX Jj (pl:=Tr) (G:=YP) Tryz.func16 rfl Tryz.ntmps16 U7 Wq (by simp) 999 rfl ?_
 intro vs
 (conv=>whnf)
 (repeat' ((first|refine Af ?_ ?_|refine Ad rfl hri ?_|refine Ad rfl htx ?_|refine Qe 901 (bs (F9 p)) rfl rfl rfl rfl ⟨by decide,by decide⟩ rfl hlk ?_|refine J7 Jj 9 rfl rfl rfl rfl rfl rfl rfl rfl rfl ⟨by decide,by decide⟩ rfl ?_|refine Ly 39 rfl rfl hc1 ?_|refine Ly 42 rfl rfl hc2 ?_|refine nx ?_|refine Aw (λ_=>?_) (λ_=>?_)|exact A0)<;>conv=>whnf))
 refine Rc 901 39 rfl rfl hf1 ?_
 intro u1 hu1
 (conv=>whnf)
 refine Rc 901 42 rfl rfl hf2 ?_
 intro u2 hu2
 (conv=>whnf)
 (repeat' ((first|refine Af ?_ ?_|refine Ad rfl had ?_|refine Sb (M:=MW) 901 (bs (F9 p)) ⟨u1,u2,n,p,hu1,hu2⟩ rfl rfl rfl rfl (λh=>sF h) (λ_ _ h _=>⟨h (u1,_) (by simp),h (u2,_) (by simp)⟩) ⟨by decide,by decide,by decide⟩ rfl ?_|refine nx ?_|refine Aw (λ_=>?_) (λ_=>?_)|exact A0)<;>conv=>whnf))
 exact⟨_,_,[],sT _ _,.lo (.refl _ _),rfl,⟨rfl,rfl,trivial⟩,rfl,⟨u1,u2,n,p,hu1,hu2⟩,⟨rfl,rfl⟩,rfl,rfl⟩
end Go.Proofs.YtjejpdfldmempaaGreatDoor
end
section
namespace Go.Gr
open Go.Reg
section
variable {α:Type} {f:α->α->Int}
def DP(f:α->α->Int):List (α×Int)->α->Int->List (α×Int)
 |[],p,n=>[(p,n)]
 |(q,m)::l,p,n=>if f q p<0 then(q,m)::DP f l p n else if f q p=0 then(p,m+n)::l else(p,n)::(q,m)::l
def KS(f:α->α->Int)(l:List (α×Int)):Prop:=l.Pairwise (λa b=>f a.1 b.1<0)
theorem WH {l:List (α×Int)} {p:α} {n:Int}:∀x∈DP f l p n,x.1=p\/x∈l:=by
 induction l with
 |nil=>intro x hx;simp only[DP,AA]at hx;exact .inl (by rw[hx])
 |
  cons y l ih=>
  obtain⟨q,m⟩:=y
  intro x hx
  simp only[DP]at hx
  split at hx
  ·rcases An.1 hx with rfl|hx
   ·exact .inr (by simp)
   ·exact(ih x hx).imp id λh=>by simp[h]
  ·split at hx
   ·rcases An.1 hx with rfl|hx
    ·exact .inl rfl
    ·exact .inr (by simp[hx])
   ·rcases An.1 hx with rfl|hx
    ·exact .inl rfl
    ·exact .inr hx
theorem NS(h:TOrd f) {l:List (α×Int)} {p:α} {n:Int}(hs:KS f l):KS f (DP f l p n):=by
 unfold KS at hs⊢
 induction l with
 |nil=>exact List.pairwise_singleton _ _
 |
  cons y l ih=>
  obtain⟨q,m⟩:=y
  obtain⟨h1,h2⟩:=BA.1 hs
  simp only[DP]
  split
  ·rename_i hq
   refine BA.2 ⟨λx hx=>?_,ih h2⟩
   rcases WH x hx with e|hx
   ·rw[e];exact hq
   ·exact h1 x hx
  ·split
   ·rename_i hq0
    have e:=(h.eq0 q p).1 hq0
    subst e
    exact BA.2 ⟨h1,h2⟩
   ·rename_i hq hq0
    have hpq:f p q<0:=by have:=h.anti q p;omega
    refine BA.2 ⟨λx hx=>?_,hs⟩
    rcases An.1 hx with rfl|hx
    ·exact hpq
    ·exact h.trans _ _ _ hpq (h1 x hx)
theorem lT(h:TOrd f) {l:List (α×Int)} {p:α} {n:Int}(hp:∀x∈l,x.1≠p):(DP f l p n).Perm ((p,n)::l):=by
 induction l with
 |nil=>exact .refl _
 |
  cons y l ih=>
  obtain⟨q,m⟩:=y
  simp only[DP]
  split
  ·exact((ih λx hx=>hp x (by simp[hx])).cons _).trans (.swap _ _ _)
  ·split
   ·rename_i hq0
    exact absurd ((h.eq0 q p).1 hq0) (hp (q,m) (by simp))
   ·exact .refl _
theorem lS [DecidableEq α](h:TOrd f) {l:List (α×Int)} {p:α} {n s:Int}(hs:KS f l)(hp:(p,s)∈l):(DP f l p n).Perm ((p,s+n)::l.erase (p,s)):=by
 unfold KS at hs
 induction l with
 |nil=>cases hp
 |
  cons y l ih=>
  obtain⟨q,m⟩:=y
  obtain⟨h1,h2⟩:=BA.1 hs
  simp only[DP]
  rcases An.1 hp with e|hp
  ·cases e
   have h0:=h.self p
   rw[if_neg (by omega),if_pos h0]
   simp
  ·have hq:=h1 _ hp
   simp only at hq
   have hne:(q,m)≠(p,s):=λe=>by
    cases e
    have:=h.self p
    omega
   rw[if_pos hq,List.erase_cons_tail (by simpa using hne)]
   exact((ih h2 hp).cons _).trans (.swap _ _ _)
theorem aU(h:TOrd f) {l out:List (α×Int)}(hp:out.Perm l)(hs:KS f l)(ho:out.Pairwise (λa b=>¬f b.1 a.1<0)):out=l:=by
 unfold KS at hs
 refine hp.eq_of_pairwise (le:=λa b=>¬f b.1 a.1<0) (λa b ha hb h1 h2=>?_) ho (hs.imp λ{a b} hab hba=>?_)
 ·have e:a.1=b.1:=by
   have:=h.anti a.1 b.1
   exact(h.eq0 _ _).1 (by omega)
  have ha':=hp.mem_iff.1 ha
  by_cases hab:a=b
  ·exact hab
  ·exfalso
   obtain⟨i,hi⟩:=List.getElem?_of_mem ha'
   obtain⟨j,hj⟩:=List.getElem?_of_mem hb
   obtain⟨hi',ei⟩:=Ae.1 hi
   obtain⟨hj',ej⟩:=Ae.1 hj
   have h0:=h.self b.1
   rcases WK i j with hlt|heq|hgt
   ·have:=AH.1 hs i j hi' hj' hlt
    rw[ei,ej,e]at this;omega
   ·subst heq;exact hab (ei.symm.trans ej)
   ·have:=AH.1 hs j i hj' hi' hgt
    rw[ei,ej,e]at this;omega
 ·have:=h.anti a.1 b.1;omega
structure TabIs {κ:Type} [DecidableEq κ](f:α->α->Int)(key:α->κ)(ok:α->Prop)(m:List (κ×(α×Int)))(l:List (α×Int)):Prop where
 sort:KS f l
 perm:(m.map (·.2)).Perm l
 keys:∀x∈m,x.1=key x.2.1/\ok x.2.1
 nodup:(m.map (·.1)).Nodup
theorem TabIs.nil {κ:Type} [DecidableEq κ] {key:α->κ} {ok:α->Prop}:TabIs f key ok [] []:=⟨.nil,.refl _,by simp,by simp⟩
theorem Zn {β:Type}:∀{l:List β} {i:Nat} {x:β},l[i]? =some x->l.Perm (x::l.eraseIdx i)
 |[],i,x,h=>by simp at h
 |y::l,0,x,h=>by simp at h;subst h;exact .refl _
 |
  y::l,i+1,x,h=>by
  have:=Zn (l:=l) (i:=i) (x:=x) (by simpa using h)
  exact(this.cons y).trans (.swap _ _ _)
theorem gN {β:Type}:∀{l:List β} {i:Nat} (y:β),i<l.length->(l.set i y).Perm (y::l.eraseIdx i)
 |[],i,y,h=>by simp at h
 |x::l,0,y,h=>by simp
 |
  x::l,i+1,y,h=>by
  have:=gN (l:=l) (i:=i) y (by simpa using h)
  exact(this.cons x).trans (.swap _ _ _)
theorem TabIs.add [DecidableEq α] {κ:Type} [DecidableEq κ] {key:α->κ} {ok:α->Prop}(h:TOrd f)(hk:∀p q,ok p->ok q->key p=key q->p=q) {m:List (κ×(α×Int))} {l:List (α×Int)}(t:TabIs f key ok m l) {p:α}(hp:ok p)(n:Int):
  (∀r,get m (key p)=some r->r.1=p/\TabIs f key ok (put m (key p) (p,r.2+n)) (DP f l p n))/\(get m (key p)=none->TabIs f key ok (put m (key p) (p,n)) (DP f l p n)):=by
 have hkeys:∀v:Int,∀x∈put m (key p) (p,v),x.1=key x.2.1/\ok x.2.1:=λv x hx=>by
  unfold put at hx
  split at hx
  ·rcases List.mem_or_eq_of_mem_set hx with hx|rfl
   ·exact t.keys x hx
   ·exact⟨rfl,hp⟩
  ·rcases Ag.1 hx with hx|hx
   ·exact t.keys x hx
   ·rw[AA.1 hx];exact⟨rfl,hp⟩
 have hnod:∀v:Int,((put m (key p) (p,v)).map (·.1)).Nodup:=λv=>by
  unfold put
  cases hf:(m.map (·.1)).findIdx? (· ==key p)with
  |
   some i=>
   obtain⟨q,hq,hqk,_⟩:=EG m (key p) i hf
   simp only[DX]
   rw[LH (by rw[Ac,hq];simp[hqk])]
   exact t.nodup
  |
   none=>
   simp only[Ay,Au,BI]
   refine Dn.2 ⟨t.nodup,by simp,λa ha b hb=>?_⟩
   simp at hb;subst hb
   rw[AM]at hf
   have:=hf a ha
   simpa using this
 constructor
 ·intro r hr
  cases hf:(m.map (·.1)).findIdx? (· ==key p)with
  |none=>rw[(IX m (key p) hf).1]at hr;cases hr
  |
   some i=>
   obtain⟨q,hq,hqk,hg⟩:=EG m (key p) i hf
   rw[hr]at hg
   have hrq:r=q.2:=B5 hg
   have hmem:=AB hq
   obtain⟨k1,k2⟩:=t.keys q hmem
   have e:r.1=p:=by rw[hrq];exact hk _ _ k2 hp (by rw[<-k1,hqk])
   refine⟨e,NS h t.sort,?_,hkeys _,hnod _⟩
   have hq2:(m.map (·.2))[i]? =some (p,r.2):=by rw[Ac,hq];simp[<-hrq,<-e]
   have h1:=Zn hq2
   have hil:i<(m.map (·.2)).length:=(Ae.1 hq2).1
   have hput:(put m (key p) (p,r.2+n)).map (·.2)=(m.map (·.2)).set i (p,r.2+n):=by unfold put;rw[hf];simp
   rw[hput]
   have hin:(p,r.2)∈l:=t.perm.mem_iff.1 (AB hq2)
   refine(gN _ hil).trans (.trans ?_ (lS h t.sort hin).symm)
   refine .cons _ ?_
   have h2:l.Perm ((p,r.2)::(m.map (·.2)).eraseIdx i):=t.perm.symm.trans h1
   have h3:=h2.erase (p,r.2)
   rw[List.erase_cons_head]at h3
   exact h3.symm
 ·intro hr
  cases hf:(m.map (·.1)).findIdx? (· ==key p)with
  |
   some i=>
   obtain⟨q,hq,hqk,hg⟩:=EG m (key p) i hf
   rw[hr]at hg;cases hg
  |
   none=>
   refine⟨NS h t.sort,?_,hkeys _,hnod _⟩
   have hput:(put m (key p) (p,n)).map (·.2)=m.map (·.2)++[(p,n)]:=by unfold put;rw[hf];simp
   rw[hput]
   have hne:∀x∈l,x.1≠p:=λx hx e=>by
    obtain⟨y,hy,rfl⟩:=Ar.1 (t.perm.mem_iff.2 hx)
    have h1:=t.keys y hy
    rw[AM]at hf
    have:=hf y.1 (C2 hy)
    rw[h1.1,e]at this
    simp at this
   refine List.Perm.trans ?_ (lT h hne).symm
   have hc:([(p,n)]++m.map (·.2)).Perm ((p,n)::l):=List.Perm.cons (p,n) t.perm
   exact List.perm_append_comm.trans hc
def OD(l:List (α×Int)):Int:=(l.map (·.2)).foldr (· + ·) 0
theorem gF {l:List (α×Int)} {p:α} {n:Int}:OD (DP f l p n)=OD l+n:=by
 induction l with
 |nil=>simp[DP,OD]
 |
  cons y l ih=>
  obtain⟨q,m⟩:=y
  unfold OD at ih⊢
  simp only[DP]
  split
  ·simp only[Au,List.foldr_cons,ih];omega
  ·split<;>simp only[Au,List.foldr_cons]<;>omega
end
end Go.Gr
end
section
namespace Go.Gr
open Go
theorem Km {s:UInt8}:∀{u v x y:List UInt8},u++s::x=v++s::y->s∉u->s∉v->u=v/\x=y
 |[],[],_,_,h,_,_=>⟨rfl,by simpa using h⟩
 |
  [],b::v,_,_,h,_,hv=>by
  simp only[Ca,B2,CX]at h
  exact absurd (by rw[h.1];exact CT) hv
 |
  a::u,[],_,_,h,hu,_=>by
  simp only[Ca,B2,CX]at h
  exact absurd (by rw[<-h.1];exact CT) hu
 |
  a::u,b::v,_,_,h,hu,hv=>by
  simp only[B2,CX]at h
  obtain⟨h1,h2⟩:=Km h.2 (λhm=>hu (AE _ hm)) (λhm=>hv (AE _ hm))
  exact⟨by rw[h.1,h1],h2⟩
theorem Q0 {s:UInt8}:∀{xs ys:List (List UInt8)},(∀x∈xs,x≠[]/\s∉x)->(∀x∈ys,x≠[]/\s∉x)->Lib.join xs [s]=Lib.join ys [s]->xs=ys
 |[],[],_,_,_=>rfl
 |[],[y],_,hy,h=>by rw[Lib.join_nil,Lib.join_one]at h;exact absurd h.symm (hy y (.head _)).1
 |[],y::z::r,_,_,h=>by rw[Lib.join_nil,Gn]at h;simp at h
 |[x],[],hx,_,h=>by rw[Lib.join_nil,Lib.join_one]at h;exact absurd h (hx x (.head _)).1
 |[x],[y],_,_,h=>by rw[Lib.join_one,Lib.join_one]at h;rw[h]
 |
  [x],y::z::r,hx,_,h=>by
  rw[Lib.join_one,Gn]at h
  exact absurd (by rw[h];simp) (hx x (.head _)).2
 |x::z::r,[],_,_,h=>by rw[Lib.join_nil,Gn]at h;simp at h
 |
  x::z::r,[y],_,hy,h=>by
  rw[Lib.join_one,Gn]at h
  exact absurd (by rw[<-h];simp) (hy y (.head _)).2
 |
  x::z::r,y::z'::r',hx,hy,h=>by
  rw[Gn,Gn]at h
  obtain⟨h1,h2⟩:=Km h (hx x (.head _)).2 (hy y (.head _)).2
  have:=Q0 (xs:=z::r) (ys:=z'::r') (λa ha=>hx a (.tail _ ha)) (λa ha=>hy a (.tail _ ha)) h2
  rw[h1,this]
theorem tQ(n:Nat) {s:UInt8}(h:s.toNat<48\/57<s.toNat):s∉Lib.decDigits n:=λhm=>by
 have:=lA n s hm
 omega
theorem Pk {n:Int}(h:0<=n):Lib.itoa n=Lib.decDigits n.toNat:=by
 obtain⟨k,rfl⟩:=Ax h
 rw[VB];rfl
theorem Q1 {a b:Int}(ha:0<=a)(hb:0<=b)(h:Lib.itoa a=Lib.itoa b):a=b:=by
 rw[Pk ha,Pk hb]at h
 have:=congrArg val h
 rw[fI,fI]at this
 omega
theorem Il {n:Int}(h:0<=n) {s:UInt8}(hs:s.toNat<48\/57<s.toNat):s∉Lib.itoa n:=by rw[Pk h];exact tQ _ hs
theorem kV {x y:Edg}(hx:0<=x.a/\0<=x.b)(hy:0<=y.a/\0<=y.b)(h:JT x=JT y):x=y:=by
 obtain⟨h1,h2⟩:=Km h (Il hx.1 (by decide)) (Il hy.1 (by decide))
 have e1:=Q1 hx.1 hy.1 h1
 have e2:=Q1 hx.2 hy.2 h2
 obtain⟨a,b⟩:=x
 obtain⟨c,d⟩:=y
 simp only at e1 e2
 rw[e1,e2]
theorem kU {x:Edg}(hx:0<=x.a/\0<=x.b) {s:UInt8}(hs:s.toNat<45\/57<s.toNat):s∉JT x:=by
 unfold JT
 intro hm
 rcases Ag.1 hm with h|h
 ·exact Il hx.1 (by omega) h
 ·rcases An.1 h with h|h
  ·subst h;revert hs;decide
  ·exact Il hx.2 (by omega) h
theorem V9 {s t:UInt8}(hst:s≠t):∀{xs:List (List UInt8)},(∀x∈xs,s∉x)->s∉Lib.join xs [t]
 |[],_=>by rw[Lib.join_nil];simp
 |[x],h=>by rw[Lib.join_one];exact h x (.head _)
 |
  x::y::r,h=>by
  rw[Gn]
  intro hm
  rcases Ag.1 hm with h1|h1
  ·exact h x (.head _) h1
  ·rcases Ag.1 h1 with h2|h2
   ·exact hst (by simpa using h2)
   ·exact V9 hst (λz hz=>h z (.tail _ hz)) h2
theorem Lm {α β:Type} {f:α->β}:∀{l r:List α},(∀x∈l,∀y∈r,f x=f y->x=y)->l.map f=r.map f->l=r
 |[],[],_,_=>rfl
 |[],y::r,_,h=>by simp at h
 |x::l,[],_,h=>by simp at h
 |
  x::l,y::r,hf,h=>by
  simp only[Au,CX]at h
  rw[hf x (.head _) y (.head _) h.1,Lm (λa ha b hb=>hf a (.tail _ ha) b (.tail _ hb)) h.2]
def TT(p:Pt):Prop:=(∀x∈p.labels,0<=x)/\∀e∈p.edges,0<=e.a/\0<=e.b
theorem UZ {p q:Pt}(hp:TT p)(hq:TT q)(h:F9 p=F9 q):p=q:=by
 unfold F9 at h
 have hd:∀{p:Pt},TT p->(124:UInt8)∉Lib.join (p.labels.map Lib.itoa) [44]:=λhp=>V9 (by decide) λx hx=>by
  obtain⟨n,hn,rfl⟩:=Ar.1 hx
  exact Il (hp.1 n hn) (by decide)
 have hn:∀n:Int,0<=n->Lib.itoa n≠[]:=λn hn=>by rw[Pk hn];exact vA _
 obtain⟨h1,h2⟩:=Km h (hd hp) (hd hq)
 have g1:∀{p:Pt},TT p->∀x∈p.labels.map Lib.itoa,x≠[]/\(44:UInt8)∉x:=λhp x hx=>by
  obtain⟨n,hm,rfl⟩:=Ar.1 hx
  exact⟨hn n (hp.1 n hm),Il (hp.1 n hm) (by decide)⟩
 have g2:∀{p:Pt},TT p->∀x∈p.edges.map JT,x≠[]/\(44:UInt8)∉x:=λhp x hx=>by
  obtain⟨e,hm,rfl⟩:=Ar.1 hx
  exact⟨by unfold JT;simp,kU (hp.2 e hm) (by decide)⟩
 have e1:=Lm (λa ha b hb=>Q1 (hp.1 a ha) (hq.1 b hb)) (Q0 (g1 hp) (g1 hq) h1)
 have e2:=Lm (λa ha b hb=>kV (hp.2 a ha) (hq.2 b hb)) (Q0 (g2 hp) (g2 hq) h2)
 obtain⟨a,b⟩:=p
 obtain⟨c,d⟩:=q
 simp only at e1 e2
 rw[e1,e2]
end Go.Gr
namespace Go.Proofs.YtjejpdfldmempaaGreatDoor
open Go Go.Sx Go.RowKit Go.Reg Go.Gr
def Jp(m:List (ByteArray×RowV)):List (ByteArray×(Pt×Int)):=m.map λx=>(x.1,(x.2.p,x.2.n))
theorem RF(m:List (ByteArray×RowV))(k:ByteArray):Reg.get (Jp m) k=(Reg.get m k).map λr=>(r.p,r.n):=by
 unfold Reg.get Jp
 rw[List.find?_map,Option.map_map,Option.map_map]
 rfl
theorem RE(m:List (ByteArray×RowV))(k:ByteArray)(r:RowV):Jp (put m k r)=put (Jp m) k (r.p,r.n):=by
 have e:(Jp m).map (·.1)=m.map (·.1):=by unfold Jp;rw[R5];rfl
 unfold put
 rw[e]
 split
 ·unfold Jp;rw[DX]
 ·unfold Jp;rw[Ay];rfl
def MA(l:List (Pt×Int))(m:List (ByteArray×RowV)):Prop:=TabIs G6 (λp=>bs (F9 p)) TT (Jp m) l
theorem fS:MA [] []:=TabIs.nil
theorem fR {l:List (Pt×Int)} {m:List (ByteArray×RowV)}(t:MA l m) {p:Pt}(hp:TT p)(n:Int) {r:RowV}(hr:Reg.get m (bs (F9 p))=some r):r.p=p/\MA (DP G6 l p n) (put m (bs (F9 p)) {r with n:=r.n+n}):=by
 obtain⟨h1,h2⟩:=(TabIs.add Rp (λp q hp hq e=>UZ hp hq (lM e)) t hp n).1 (r.p,r.n) (by rw[RF,hr];rfl)
 refine⟨h1,?_⟩
 unfold MA
 rw[RE]
 simp only at h1
 rw[h1]
 exact h2
theorem fT {l:List (Pt×Int)} {m:List (ByteArray×RowV)}(t:MA l m) {p:Pt}(hp:TT p) {r:RowV}(h1:r.p=p)(hr:Reg.get m (bs (F9 p))=none):MA (DP G6 l p r.n) (put m (bs (F9 p)) r):=by
 have h2:=(TabIs.add Rp (λp q hp hq e=>UZ hp hq (lM e)) t hp r.n).2 (by rw[RF,hr];rfl)
 unfold MA
 rw[RE,h1]
 exact h2
theorem Uo {l:List (Pt×Int)} {m:List (ByteArray×RowV)}(t:MA l m) {x:ByteArray×RowV}(hx:x∈m):(x.2.p,x.2.n)∈l:=t.perm.mem_iff.1 (Ar.2 ⟨_,C2 hx,rfl⟩)
end Go.Proofs.YtjejpdfldmempaaGreatDoor
end
section
namespace Go.Proofs
open Go.Shelf
def Tryz.sortR_ren:Go.Shelf.Ren:=⟨λ|6=>97|15=>104|14=>140|28=>153|29=>154|20=>202|21=>203|22=>204|23=>205|24=>206|25=>207|26=>208|27=>209|46=>242|47=>211|48=>212|49=>243|50=>244|57=>258|n=>n,λ|22=>97|24=>100|25=>168|3=>3|39=>177|0=>0|53=>184|55=>186|4=>4|46=>218|45=>217|50=>222|5=>5|9=>9|66=>281|70=>285|76=>313|77=>138|n=>n,λ|n=>n⟩
theorem Tryz.sortR:Go.Proofs.SlLaysF0.n6 Tryz.prog Tryz.sortR_ren:={
 mixed:=by kernel_rfl
 f6:=⟨Tryz.f97.name,by decide,Tryz.func97.trans (congrArg some (by kernel_rfl))⟩
 f14:=⟨Tryz.f140.name,by decide,Tryz.func140.trans (congrArg some (by kernel_rfl))⟩
 f15:=Tryz.func104.trans (congrArg some (by kernel_rfl))
 f20:=⟨Tryz.f202.name,by decide,Tryz.func202.trans (congrArg some (by kernel_rfl))⟩
 f21:=⟨Tryz.f203.name,by decide,Tryz.func203.trans (congrArg some (by kernel_rfl))⟩
 f22:=⟨Tryz.f204.name,by decide,Tryz.func204.trans (congrArg some (by kernel_rfl))⟩
 f23:=⟨Tryz.f205.name,by decide,Tryz.func205.trans (congrArg some (by kernel_rfl))⟩
 f24:=⟨Tryz.f206.name,by decide,Tryz.func206.trans (congrArg some (by kernel_rfl))⟩
 f25:=⟨Tryz.f207.name,by decide,Tryz.func207.trans (congrArg some (by kernel_rfl))⟩
 f26:=⟨Tryz.f208.name,by decide,Tryz.func208.trans (congrArg some (by kernel_rfl))⟩
 f27:=⟨Tryz.f209.name,by decide,Tryz.func209.trans (congrArg some (by kernel_rfl))⟩
 f28:=Tryz.func153.trans (congrArg some (by kernel_rfl))
 f29:=Tryz.func154.trans (congrArg some (by kernel_rfl))
 f46:=⟨Tryz.f242.name,by decide,Tryz.func242.trans (congrArg some (by kernel_rfl))⟩
 f47:=Tryz.func211.trans (congrArg some (by kernel_rfl))
 f48:=Tryz.func212.trans (congrArg some (by kernel_rfl))
 f49:=⟨Tryz.f243.name,by decide,Tryz.func243.trans (congrArg some (by kernel_rfl))⟩
 f50:=⟨Tryz.f244.name,by decide,Tryz.func244.trans (congrArg some (by kernel_rfl))⟩
 f57:=⟨Tryz.f258.name,by decide,Tryz.func258.trans (congrArg some (by kernel_rfl))⟩
 t0:=Tryz.underlying0
 a0:=Tryz.isAgg0
 z0:=Tryz.sizeOf0
 v0:=Tryz.zeroValue0
 t3:=Tryz.underlying3
 a3:=Tryz.isAgg3
 z3:=Tryz.sizeOf3
 v3:=Tryz.zeroValue3
 t4:=Tryz.underlying4
 a4:=Tryz.isAgg4
 z4:=Tryz.sizeOf4
 v4:=Tryz.zeroValue4
 t5:=Tryz.underlying5
 a5:=Tryz.isAgg5
 z5:=Tryz.sizeOf5
 v5:=Tryz.zeroValue5
 t9:=Tryz.underlying9
 a9:=Tryz.isAgg9
 z9:=Tryz.sizeOf9
 v9:=Tryz.zeroValue9
 t22:=Tryz.underlying97
 a22:=Tryz.isAgg97
 z22:=Tryz.sizeOf97
 v22:=Tryz.zeroValue97
 t25:=Tryz.underlying168
 a25:=Tryz.isAgg168
 z25:=Tryz.sizeOf168
 v25:=Tryz.zeroValue168
 t39:=Tryz.underlying177
 a39:=Tryz.isAgg177
 z39:=Tryz.sizeOf177
 v39:=Tryz.zeroValue177
 t45:=Tryz.underlying217
 a45:=Tryz.isAgg217
 z45:=Tryz.sizeOf217
 v45:=Tryz.zeroValue217
 t46:=Tryz.underlying218
 a46:=Tryz.isAgg218
 z46:=Tryz.sizeOf218
 v46:=Tryz.zeroValue218
 t50:=Tryz.underlying222
 a50:=Tryz.isAgg222
 z50:=Tryz.sizeOf222
 v50:=Tryz.zeroValue222
 t53:=Tryz.underlying184
 a53:=Tryz.isAgg184
 z53:=Tryz.sizeOf184
 v53:=Tryz.zeroValue184
 t55:=Tryz.underlying186
 a55:=Tryz.isAgg186
 z55:=Tryz.sizeOf186
 v55:=Tryz.zeroValue186
 t66:=Tryz.underlying281
 a66:=Tryz.isAgg281
 z66:=Tryz.sizeOf281
 v66:=Tryz.zeroValue281
 t70:=Tryz.underlying285
 a70:=Tryz.isAgg285
 z70:=Tryz.sizeOf285
 v70:=Tryz.zeroValue285
 t76:=Tryz.underlying313
 a76:=Tryz.isAgg313
 z76:=Tryz.sizeOf313
 v76:=Tryz.zeroValue313
 t77:=Tryz.underlying138
 a77:=Tryz.isAgg138
 z77:=Tryz.sizeOf138
 v77:=Tryz.zeroValue138}
end Go.Proofs
end
section
namespace Go.Proofs.YtjejpdfldmempaaGreatDoor
open Go.RowKit Go.Reg Go.Gr Go.Sort
theorem uJ {n:Int}(h:-9223372036854775808<=n/\n<=9223372036854775807):wrap64 n=n:=by unfold wrap64;omega
abbrev KQ(n:Int):List Value:=[.int .i64 n]
set_option maxRecDepth 100000 in
theorem Tc(v1 v2:Value)(l r:List Int)(W:World)(h1:EN 1 KQ W v1 l)(h2:EN 1 KQ W v2 r):Calls Tryz.prog 141 #[v1,v2] W λe w'=>e=.returned (.int .i64 (EJ CF l r))/\W=w':=by
 obtain⟨a1,c1,rfl,hm1,hc1⟩:=h1
 obtain⟨a2,c2,rfl,hm2,hc2⟩:=h2
 have HC1:=E4 hc1
 have HC2:=E4 hc2
 have HM1:=E4 hm1
 have HM2:=E4 hm2
 clear hc1 hc2 hm1 hm2
 go_enter Tryz.func141,Tryz.ntmps141
 go_wp2_with fail
 go_loopg [11] l.length (λg s11 wr=>Hid (∃i:Nat,s11=.int .i64 i/\g=l.length-i/\(i<=l.length/\i<=r.length)/\W=wr/\EJ CF (l.drop i) (r.drop i)=EJ CF l r))
 case atStart=>exact E4 ⟨0,rfl,rfl,⟨Aj _,Aj _⟩,rfl,rfl⟩
 case round=>
  obtain⟨i,rfl,rfl,⟨hi,hi2⟩,rfl,hcm⟩:=hrel.out
  clear hrel
  by_cases hlt:i<l.length
  ·have hx:l[i]? =some l[i]:=Aa hlt
   obtain⟨b,o,rfl,hcell⟩:=HC1.out i _ hx
   have g0:=hcell 0 _ rfl
   rw[Dd,EO]at g0
   have hlt':decide (i<l.length)=true:=by simpa using hlt
   rw[AU hlt]at hcm
   generalize l[i]=x at g0 hcm
   clear hcell hx
   by_cases hrt:i<r.length
   ·have hge:decide (r.length<=i)=false:=by simpa using hrt
    have hy:r[i]? =some r[i]:=Aa hrt
    obtain⟨b2,o2,rfl,hcell2⟩:=HC2.out i _ hy
    have g1:=hcell2 0 _ rfl
    rw[Dd,EO]at g1
    rw[AU hrt]at hcm
    generalize r[i]=y at g1 hcm
    clear hcell2 hy
    rw[Dr]at hcm
    have HCM:=E4 hcm
    have HL:=E4 hlt
    have HR:=E4 hrt
    clear hcm hi hi2 hlt hrt
    by_cases h0:CF x y=0
    ·have hne:(CF x y !=0)=false:=by simp[h0]
     have H0:=E4 h0
     clear h0
     go_wp2_with (go_at_call 101;refine(EI _ _ _).mono ?_;rintro e w' ⟨rfl,rfl⟩)
     go_roundg (l.length- (i+1))
     case measure=>have:=HL.out;omega
     case rel=>
      have hl:=HL.out
      have hr:=HR.out
      have hM:=HM1.out
      refine E4 ⟨i+1,by simp only[maxLen]at hM;rw[uJ (by omega)];simp,rfl,⟨by omega,by omega⟩,rfl,?_⟩
      have:=HCM.out
      rwa [if_pos H0.out]at this
    ·have hne:(CF x y !=0)=true:=by simpa using h0
     have H0:=E4 h0
     clear h0
     go_wp2_with (go_at_call 101;refine(EI _ _ _).mono ?_;rintro e w' ⟨rfl,rfl⟩)
     go_ret
     have:=HCM.out
     rw[if_neg H0.out]at this
     rw[<-this]
     exact⟨rfl,rfl⟩
   ·have hge:decide (r.length<=i)=true:=by simpa using hrt
    rw[BV (show r.length<=i by omega)]at hcm
    have HCM:=E4 hcm
    clear hcm hi hi2 hrt
    go_wp2_with fail
    go_ret
    rw[<-HCM.out]
    exact⟨rfl,rfl⟩
  ·have hlt':decide (i<l.length)=false:=by simpa using hlt
   rw[BV (show l.length<=i by omega)]at hcm
   by_cases hrt:l.length<r.length
   ·have hlr:decide (l.length<r.length)=true:=by simpa using hrt
    obtain⟨z,t,hz⟩:∃z t,r.drop i=z::t:=by
     have:i<r.length:=by omega
     exact⟨_,_,AU this⟩
    rw[hz]at hcm
    have HCM:=E4 hcm
    clear hcm hi hi2 hlt hrt hz
    go_wp2_with fail
    go_ret
    rw[<-HCM.out]
    exact⟨rfl,rfl⟩
   ·have hlr:decide (l.length<r.length)=false:=by simpa using hrt
    rw[BV (show r.length<=i by omega)]at hcm
    have HCM:=E4 hcm
    clear hcm hi hi2 hlt hrt
    go_wp2_with fail
    go_ret
    rw[<-HCM.out]
    exact⟨rfl,rfl⟩
theorem aE(W:World)(q:Nat)(os:Array Obj):Tch [] W (grow (W.drewN q) os):=
 ⟨rfl,rfl,rfl,by simp[grow],λk hk _=>by simp[grow,HM hk]⟩
theorem tM {W wr:World} {q:Nat} {os:Array Obj} {o:Obj}(h:wr=grow (W.drewN q) os):∃q' os',wr.alloc o=grow (W.drewN q') os':=
 ⟨q,_,by rw[h,alloc_eq_grow,grow_grow]⟩
theorem kN {W wr:World} {q q':Nat} {os os':Array Obj} {o p:Obj}(h:wr=grow (W.drewN q) os):∃q2 os2,grow (((wr.alloc o).alloc p).drewN q') os'=grow (W.drewN q2) os2:=
 ⟨q+q',_,by
  rw[h,alloc_eq_grow,alloc_eq_grow,grow_grow,grow_grow]
  show grow (grow ((W.drewN q).drewN q') _) os'=_
  rw[grow_grow,World.drewN_drewN]⟩
set_option maxRecDepth 100000 in
set_option maxHeartbeats 1000000 in
theorem Td(v1 v2:Value)(l r:List Edg)(W:World)(h1:EN 2 It W v1 l)(h2:EN 2 It W v2 r):Calls Tryz.prog 142 #[v1,v2,.func (.func 50) #[] #[]] W λe w'=>e=.returned (.int .i64 (EJ Ce l r))/\∃q os,w'=grow (W.drewN q) os:=by
 obtain⟨a1,c1,rfl,hm1,hc1⟩:=h1
 obtain⟨a2,c2,rfl,hm2,hc2⟩:=h2
 have HC1:=E4 hc1
 have HC2:=E4 hc2
 have HM1:=E4 hm1
 have HM2:=E4 hm2
 clear hc1 hc2 hm1 hm2
 go_enter Tryz.func142,Tryz.ntmps142
 go_wp2_with fail
 go_loopg [13] l.length (λg s13 wr=>Hid (∃i:Nat,s13=.int .i64 i/\g=l.length-i/\(i<=l.length/\i<=r.length)/\(∃q os,wr=grow (W.drewN q) os)/\EJ Ce (l.drop i) (r.drop i)=EJ Ce l r))
 case atStart=>exact E4 ⟨0,rfl,rfl,⟨Aj _,Aj _⟩,⟨0,#[],by rw[grow_empty];rfl⟩,rfl⟩
 case round=>
  obtain⟨i,rfl,rfl,⟨hi,hi2⟩,⟨q,os,hwr⟩,hcm⟩:=hrel.out
  clear hrel
  have ht:=aE W q os
  by_cases hlt:i<l.length
  ·have hx:l[i]? =some l[i]:=Aa hlt
   obtain⟨b,o,rfl,hcell⟩:=HC1.out i _ hx
   have g0:=FT ht (hcell 0 _ rfl)
   have g1:=FT ht (hcell 1 _ rfl)
   rw[<-hwr]at g0 g1
   rw[Dd]at g0
   have hlt':decide (i<l.length)=true:=by simpa using hlt
   rw[AU hlt]at hcm
   generalize l[i]=x at g0 g1 hcm
   clear hcell hx
   by_cases hrt:i<r.length
   ·have hge:decide (r.length<=i)=false:=by simpa using hrt
    have hy:r[i]? =some r[i]:=Aa hrt
    obtain⟨b2,o2,rfl,hcell2⟩:=HC2.out i _ hy
    have g2:=FT ht (hcell2 0 _ rfl)
    have g3:=FT ht (hcell2 1 _ rfl)
    rw[<-hwr]at g2 g3
    rw[Dd]at g2
    rw[AU hrt]at hcm
    generalize r[i]=y at g2 g3 hcm
    clear hcell2 hy
    rw[Dr]at hcm
    have HCM:=E4 hcm
    have HL:=E4 hlt
    have HR:=E4 hrt
    have HWR:=E4 hwr
    clear hcm hi hi2 hlt hrt hwr ht
    have g2':=FT (Tch.alloc wr (Obj.cells #[Value.int .i64 x.a,Value.int .i64 x.b] 103) []) g2
    have g3':=FT (Tch.alloc wr (Obj.cells #[Value.int .i64 x.a,Value.int .i64 x.b] 103) []) g3
    by_cases h0:Ce x y=0
    ·have hne:(Ce x y !=0)=false:=by simp[h0]
     have H0:=E4 h0
     clear h0
     go_wp2_with (go_at_call 50;refine(Qc x y _).mono ?_;rintro e w' ⟨rfl,q',os',rfl⟩)
     go_roundg (l.length- (i+1))
     case measure=>have:=HL.out;omega
     case rel=>
      have hl:=HL.out
      have hr:=HR.out
      have hM:=HM1.out
      refine E4 ⟨i+1,by simp only[maxLen]at hM;rw[uJ (by omega)];simp,rfl,⟨by omega,by omega⟩,kN HWR.out,?_⟩
      have:=HCM.out
      rwa [if_pos H0.out]at this
    ·have hne:(Ce x y !=0)=true:=by simpa using h0
     have H0:=E4 h0
     clear h0
     go_wp2_with (go_at_call 50;refine(Qc x y _).mono ?_;rintro e w' ⟨rfl,q',os',rfl⟩)
     go_ret
     have:=HCM.out
     rw[if_neg H0.out]at this
     rw[<-this]
     exact⟨rfl,kN HWR.out⟩
   ·have hge:decide (r.length<=i)=true:=by simpa using hrt
    rw[BV (show r.length<=i by omega)]at hcm
    have HCM:=E4 hcm
    have HWR:=E4 hwr
    clear hcm hi hi2 hrt hwr ht
    go_wp2_with fail
    go_ret
    rw[<-HCM.out]
    exact⟨rfl,tM HWR.out⟩
  ·have hlt':decide (i<l.length)=false:=by simpa using hlt
   rw[BV (show l.length<=i by omega)]at hcm
   by_cases hrt:l.length<r.length
   ·have hlr:decide (l.length<r.length)=true:=by simpa using hrt
    obtain⟨z,t,hz⟩:∃z t,r.drop i=z::t:=by
     have:i<r.length:=by omega
     exact⟨_,_,AU this⟩
    rw[hz]at hcm
    have HCM:=E4 hcm
    have HWR:=E4 hwr
    clear hcm hi hi2 hlt hrt hz hwr ht
    go_wp2_with fail
    go_ret
    rw[<-HCM.out]
    exact⟨rfl,_,_,HWR.out⟩
   ·have hlr:decide (l.length<r.length)=false:=by simpa using hrt
    rw[BV (show r.length<=i by omega)]at hcm
    have HCM:=E4 hcm
    have HWR:=E4 hwr
    clear hcm hi hi2 hlt hrt hwr ht
    go_wp2_with fail
    go_ret
    rw[<-HCM.out]
    exact⟨rfl,_,_,HWR.out⟩
set_option maxRecDepth 100000 in
theorem sU(s:Nat)(a b c d:Int)(W:World)(c0:W.cell? ⟨s,0,none⟩=some (.int .i64 a))(c1:W.cell? ⟨s,1,none⟩=some (.int .i64 b))(c2:W.cell? ⟨s,2,none⟩=some (.int .i64 c))(c3:W.cell? ⟨s,3,none⟩=some (.int .i64 d)):
  Calls Tryz.prog 100 #[.slice (some ⟨s,0,none⟩) 4 4] W λe w'=>e=.returned (.int .i64 (XM [a,b,c,d]))/\W=w':=by
 have hz:((0:Int) !=0)=false:=by simp
 by_cases ha:a=0
 ·subst ha
  by_cases hb:b=0
  ·subst hb
   by_cases hc:c=0
   ·subst hc
    by_cases hd:d=0
    ·subst hd
     go_enter Tryz.func100,Tryz.ntmps100
     go_wp2_with fail
     refine wp_loop_rounds 5 ?_
     rw[rounds_succ]
     go_wp2_with fail
     rw[rounds_succ]
     go_wp2_with fail
     rw[rounds_succ]
     go_wp2_with fail
     rw[rounds_succ]
     go_wp2_with fail
     rw[rounds_succ]
     go_wp2_with fail
     go_ret
     exact⟨rfl,rfl⟩
    ·have hd':(d !=0)=true:=by simpa using hd
     have e1:XM [0,0,0,d]=d:=by simp[XM,hd]
     rw[e1]
     clear e1 hd
     go_enter Tryz.func100,Tryz.ntmps100
     go_wp2_with fail
     refine wp_loop_rounds 4 ?_
     rw[rounds_succ]
     go_wp2_with fail
     rw[rounds_succ]
     go_wp2_with fail
     rw[rounds_succ]
     go_wp2_with fail
     rw[rounds_succ]
     go_wp2_with fail
     go_ret
     exact⟨rfl,rfl⟩
   ·have hc':(c !=0)=true:=by simpa using hc
    have e1:XM [0,0,c,d]=c:=by simp[XM,hc]
    rw[e1]
    clear e1 hc
    go_enter Tryz.func100,Tryz.ntmps100
    go_wp2_with fail
    refine wp_loop_rounds 3 ?_
    rw[rounds_succ]
    go_wp2_with fail
    rw[rounds_succ]
    go_wp2_with fail
    rw[rounds_succ]
    go_wp2_with fail
    go_ret
    exact⟨rfl,rfl⟩
  ·have hb':(b !=0)=true:=by simpa using hb
   have e1:XM [0,b,c,d]=b:=by simp[XM,hb]
   rw[e1]
   clear e1 hb
   go_enter Tryz.func100,Tryz.ntmps100
   go_wp2_with fail
   refine wp_loop_rounds 2 ?_
   rw[rounds_succ]
   go_wp2_with fail
   rw[rounds_succ]
   go_wp2_with fail
   go_ret
   exact⟨rfl,rfl⟩
 ·have ha':(a !=0)=true:=by simpa using ha
  have e1:XM [a,b,c,d]=a:=by simp[XM,ha]
  rw[e1]
  clear e1 ha
  go_enter Tryz.func100,Tryz.ntmps100
  go_wp2_with fail
  refine wp_loop_rounds 1 ?_
  rw[rounds_succ]
  go_wp2_with fail
  go_ret
  exact⟨rfl,rfl⟩
theorem tL(W:World)(A B C:Obj)(m:Nat)(os:Array Obj):∃q os',(grow (((W.alloc A).alloc B).drewN m) os).alloc C=grow (W.drewN q) os':=by
 refine⟨m,#[A]++(#[B]++(os++#[C])),?_⟩
 rw[alloc_eq_grow,alloc_eq_grow,alloc_eq_grow]
 show grow (grow (grow (grow (W.drewN m) #[A]) #[B]) os) #[C]=_
 rw[grow_grow,grow_grow,grow_grow]
theorem tK(W:World)(A B:Obj)(m:Nat)(os:Array Obj):∃q os',grow (((W.alloc A).alloc B).drewN m) os=grow (W.drewN q) os':=by
 refine⟨m,#[A]++(#[B]++os),?_⟩
 rw[alloc_eq_grow,alloc_eq_grow]
 show grow (grow (grow (W.drewN m) #[A]) #[B]) os=_
 rw[grow_grow,grow_grow]
theorem Pp(w:World)(cs:Array Value)(T:TypeId) {s i:Nat} {v:Value}(hs:s=w.heap.size)(h:cs[i]? =some v):(w.alloc (.cells cs T)).cell? ⟨s,i,none⟩=some v:=by
 subst hs
 simp[h]
theorem Y1(W:World)(q:Nat)(os:Array Obj):I5 W.drew (grow (W.drewN q) os):=λk hk=>by
 have hk':k<W.heap.size:=hk
 show(W.heap++os)[k]? =W.heap[k]?
 exact HM hk'
theorem Ep {k:Nat} {α:Type} {enc:α->List Value} {W:World} {v:Value} {l:List α}(h:EN k enc W v l):∃a c,v=.slice a l.length c:=by
 obtain⟨a,c,h,_⟩:=h
 exact⟨a,c,h⟩
open Go.Proofs in
set_option maxRecDepth 100000 in
set_option maxHeartbeats 2000000 in
theorem UY(s1 s2 r1 r2:Value)(p q:Pt)(W:World)(h1:EN 1 KQ W s1 p.labels)(h2:EN 2 It W s2 p.edges)(h3:EN 1 KQ W r1 q.labels)(h4:EN 2 It W r2 q.edges):
  Calls Tryz.prog 99 #[.agg #[s1,s2],.agg #[r1,r2]] W λe w'=>e=.returned (.int .i64 (G6 p q))/\∃n os,w'=grow (W.drewN n) os:=by
 have ht:∀A B,Tch [] W ((W.alloc A).alloc B).drew:=λA B=>((Tch.alloc W A []).trans0 ((Tch.alloc _ B []).trans0 (Tch.drew _ [])))
 obtain⟨a1,c1,rfl⟩:=Ep h1
 obtain⟨a2,c2,rfl⟩:=Ep h2
 obtain⟨a3,c3,rfl⟩:=Ep h3
 obtain⟨a4,c4,rfl⟩:=Ep h4
 have H1:=E4 h1
 have H2:=E4 h2
 have H3:=E4 h3
 have H4:=E4 h4
 have HT:=E4 ht
 clear h1 h2 h3 h4 ht
 go_enter Tryz.func99,Tryz.ntmps99
 go_wp2_with fail
 refine Hp [101,141,142,100] [0,1,0,0,1,0,2,0,1,0,1,2,0,1,0,0,1,0,2,0,1,0,1,2,6,2,0] [0,3,7,9,12,15,19,21,1,2,4,5,8,10,13,14,16,17,20,22,6,11,18,23,24,25,26] [0,1,3,0,8,24,63,0,128,0,512,2047,0,4096,12288,0,32768,98304,262143,0,524288,0,2097152,8388607,16777215,33554431,67108863] (by kernel_rfl) (by kernel_rfl) ?_
 go_wp2_with (first|(refine CY rfl rfl rfl rfl (λ_ _=>?_))|(refine DE rfl rfl rfl (λ_ _=>?_)))
 refine F2 rfl rfl rfl (λK1 hK1=>?_)
 go_wp2_with (go_at_call 101;refine(EI _ _ _).mono ?_;rintro e w' ⟨rfl,rfl⟩)
 refine hK1 _ _ (I5.refl _) ?_
 go_wp2_with (first|(refine CY rfl rfl rfl rfl (λ_ _=>?_))|(refine DE rfl rfl rfl (λ_ _=>?_)))
 refine F2 rfl rfl rfl (λK2 hK2=>?_)
 go_wp2_with (go_at_call 141;refine(Tc _ _ _ _ _ (H1.out.keep (HT.out _ _)) (H3.out.keep (HT.out _ _))).mono ?_;rintro e w' ⟨rfl,rfl⟩)
 refine hK2 _ _ (I5.refl _) ?_
 go_wp2_with (first|(refine CY rfl rfl rfl rfl (λ_ _=>?_))|(refine DE rfl rfl rfl (λ_ _=>?_)))
 refine F2 rfl rfl rfl (λK3 hK3=>?_)
 go_wp2_with (go_at_call 101;refine(EI _ _ _).mono ?_;rintro e w' ⟨rfl,rfl⟩)
 refine hK3 _ _ (I5.refl _) ?_
 go_wp2_with (first|(refine CY rfl rfl rfl rfl (λ_ _=>?_))|(refine DE rfl rfl rfl (λ_ _=>?_)))
 refine F2 rfl rfl rfl (λK4 hK4=>?_)
 go_wp2_with (go_at_call 142;refine(Td _ _ _ _ _ (H2.out.keep (HT.out _ _)) (H4.out.keep (HT.out _ _))).mono ?_;rintro e w' ⟨rfl,n,os,rfl⟩)
 refine hK4 _ _ (Y1 _ _ _) ?_
 go_wp2_with (first|(refine CY rfl rfl rfl rfl (λ_ _=>?_))|(refine DE rfl rfl rfl (λ_ _=>?_)))
 refine F2 rfl rfl rfl (λK5 hK5=>?_)
 go_wp2_with fail
 refine Calls.mono (sU _ (CF p.labels.length q.labels.length) (EJ CF p.labels q.labels) (CF p.edges.length q.edges.length) (EJ Ce p.edges q.edges) _ ?c0 ?c1 ?c2 ?c3) ?m
 case c0=>exact Pp _ _ _ (by simp[grow]) rfl
 case c1=>exact Pp _ _ _ (by simp[grow]) rfl
 case c2=>exact Pp _ _ _ (by simp[grow]) rfl
 case c3=>exact Pp _ _ _ (by simp[grow]) rfl
 case m=>
  rintro e w' ⟨rfl,rfl⟩
  refine hK5 _ _ (I5.refl _) ?_
  go_wp2_with (first|(refine CY rfl rfl rfl rfl (λ_ _=>?_))|(refine DE rfl rfl rfl (λ_ _=>?_))|refine L7 ?_)
  go_ret
  exact⟨rfl,tL _ _ _ _ _ _⟩
set_option maxRecDepth 100000 in
theorem aW(s1 s2 r1 r2:Value)(n m:Int)(p q:Pt)(W:World)(h1:EN 1 KQ W s1 p.labels)(h2:EN 2 It W s2 p.edges)(h3:EN 1 KQ W r1 q.labels)(h4:EN 2 It W r2 q.edges):
  Calls Tryz.prog 98 #[.agg #[s1,s2,.int .i64 n],.agg #[r1,r2,.int .i64 m]] W λe w'=>e=.returned (.int .i64 (G6 p q))/\∃n os,w'=grow (W.drewN n) os:=by
 have ht:∀A B,Tch [] W ((W.alloc A).alloc B):=λA B=>((Tch.alloc W A []).trans0 (Tch.alloc _ B []))
 obtain⟨a1,c1,rfl⟩:=Ep h1
 obtain⟨a2,c2,rfl⟩:=Ep h2
 obtain⟨a3,c3,rfl⟩:=Ep h3
 obtain⟨a4,c4,rfl⟩:=Ep h4
 have H1:=E4 h1
 have H2:=E4 h2
 have H3:=E4 h3
 have H4:=E4 h4
 have HT:=E4 ht
 clear h1 h2 h3 h4 ht
 go_enter Tryz.func98,Tryz.ntmps98
 go_wp2_with (go_at_call 99;refine(UY _ _ _ _ p q _ (H1.out.keep (HT.out _ _)) (H2.out.keep (HT.out _ _)) (H3.out.keep (HT.out _ _)) (H4.out.keep (HT.out _ _))).mono ?_;rintro e w' ⟨rfl,k,os,rfl⟩)
 go_ret
 exact⟨rfl,tK _ _ _ _ _⟩
end Go.Proofs.YtjejpdfldmempaaGreatDoor
end
section
namespace Go.Proofs.YtjejpdfldmempaaGreatDoor
open Go.Sx Go.RowKit Go.Reg Go.Gr
def FJ(r:Pt×Int):Da:=.agg [GE r.1,.int .i64 r.2]
theorem vB {α:Type} [Inhabited α] {d:α->Da} {enc:α->List Value} {k:Nat}(he:∀x,(enc x).length=k)(hd:∀{O:List Nat} {w:World} {l:List α} {css:List (List Value)},Am O w (l.map d) css->css=l.map enc) {O:List Nat} {w:World} {v:Value} {l:List α}(h:RepC O w (.list k (l.map d)) [v]):EN k enc w v l:=by
 simp only[RepC]at h
 obtain⟨a,c,css,e,hl1,hl2,hr,_,hc⟩:=h
 obtain rfl:=hd hr
 rw[Ab]at e hl1
 simp only[CX,and_true]at e
 subst e
 refine⟨a,c,rfl,BE hl1 hl2,λi x hx=>?_⟩
 rcases hc with h0|⟨b,o,rfl,_,_,hcell⟩
 ·rw[List.map_eq_nil_iff]at h0;subst h0;simp at hx
 ·refine⟨b,o,rfl,λj u hu=>?_⟩
  have hj:j<k:=by rw[<-he x];exact(Ae.1 hu).1
  have hf:=Mr he l i x j hx hj
  have:=hcell (i*k+j) u (by
   rw[show(l.map enc).flatten=l.flatMap enc from by rw[List.flatMap_def],hf]
   rw[Aa (by rw[he];exact hj)]at hu
   first|exact hu|(rw[<-hu];simp))
  rw[Jl];exact this
theorem VD {O:List Nat} {w:World}:∀{l:List Int} {css:List (List Value)},Am O w (l.map dI) css->css=l.map KQ
 |[],css,h=>by simpa only[BI,Am]using h
 |
  e::l,css,h=>by
  simp only[Au,Am,dI,RepC]at h
  obtain⟨c1,c2,rfl,rfl,h⟩:=h
  rw[VD h];rfl
theorem wH {O:List Nat} {w:World} {v:Value} {l:List Int}(h:RepC O w (AS l) [v]):EN 1 KQ w v l:=vB (enc:=KQ) (k:=1) (λ_=>rfl) VD h
theorem wI {O:List Nat} {w:World} {v:Value} {l:List Edg}(h:RepC O w (D0 l) [v]):EN 2 It w v l:=vB QM QO h
theorem MU {O:List Nat} {w:World} {r:Pt×Int} {c:List Value}(h:RepC O w (FJ r) c):∃a b,c=[a,b,.int .i64 r.2]/\EN 1 KQ w a r.1.labels/\EN 2 It w b r.1.edges:=by
 simp only[FJ,GE,RepC,RepCs]at h
 obtain⟨_,_,rfl,⟨c1,_,rfl,h1,c2,_,rfl,h2,rfl⟩,_,_,rfl,rfl,rfl⟩:=h
 have l1:=E9 _ _ h1
 have l2:=E9 _ _ h2
 obtain⟨a,rfl⟩:=Ch.1 (show c1.length=1 from l1)
 obtain⟨b,rfl⟩:=Ch.1 (show c2.length=1 from l2)
 exact⟨a,b,rfl,wH h1,wI h2⟩
open Go.Sort in
theorem wF {α:Type} {f:α->Pt}:SWO (ltOf λx y=>G6 (f x) (f y))where
 irrefl x:=by have:=Rp.self (f x);simp[ltOf];omega
 trans x y z h1 h2:=by
  simp only[ltOf,decide_eq_true_eq]at*
  exact Rp.trans _ _ _ h1 h2
 ntrans x y z h1 h2:=by
  simp only[ltOf,decide_eq_false_iff_not]at*
  intro h3
  by_cases h0:G6 (f x) (f y)=0
  ·rw[(Rp.eq0 _ _).1 h0]at h3;exact h2 h3
  ·exact h2 (Rp.trans _ _ _ ((Rp.anti (f x) (f y)).2 (by omega)) h3)
abbrev YM(O:List Nat)(w:World):={c:List Value×(Pt×Int)//RepC O w (FJ c.2) c.1}
def R1 {O:List Nat} {w:World}(x:YM O w):List Value:=x.1.1
theorem jP(O:List Nat)(w:World)(k:Nat):RepC O w (.list k []) [.slice none 0 0]:=by
 simp only[RepC]
 exact⟨none,0,[],rfl,by simp,by unfold maxLen;omega,by simp[Am],by simp,.inl trivial⟩
instance {O:List Nat} {w:World}:Inhabited (YM O w):=⟨⟨([.slice none 0 0,.slice none 0 0,.int .i64 0],(⟨[],[]⟩,0)),by
 simp only[FJ,GE,RepC,RepCs]
 exact⟨[.slice none 0 0,.slice none 0 0],_,rfl,⟨[.slice none 0 0],_,rfl,jP O w 1,[.slice none 0 0],_,rfl,jP O w 2,rfl⟩,_,_,rfl,rfl,rfl⟩⟩⟩
theorem JS {O:List Nat} {w:World}(x:YM O w):(R1 x).length=3:=E9 _ _ x.2
theorem Wc {O:List Nat} {w:World}(x:YM O w):∀u∈R1 x,u.oneCell'=true:=by
 obtain⟨a,b,e,h1,h2⟩:=MU x.2
 obtain⟨_,_,rfl⟩:=Ep h1
 obtain⟨_,_,rfl⟩:=Ep h2
 intro u hu
 unfold R1 at hu
 rw[e]at hu
 simp only[An,I3,or_false]at hu
 rcases hu with rfl|rfl|rfl<;>rfl
theorem UB {O:List Nat} {w:World}:∀{R:List (Pt×Int)} {css:List (List Value)},Am O w (R.map FJ) css->∃xs:List (YM O w),xs.map R1=css/\xs.map (λx=>x.1.2)=R
 |[],css,h=>by simp only[BI,Am]at h;subst h;exact⟨[],rfl,rfl⟩
 |
  r::R,css,h=>by
  simp only[Au,Am]at h
  obtain⟨c1,c2,rfl,h1,h2⟩:=h
  obtain⟨xs,e1,e2⟩:=UB h2
  exact⟨⟨(c1,r),h1⟩::xs,by rw[Au,e1];rfl,by rw[Au,e2]⟩
theorem Us {O:List Nat} {w:World}:∀xs:List (YM O w),Am O w ((xs.map λx=>x.1.2).map FJ) (xs.map R1)
 |[]=>by simp[Am]
 |
  x::xs=>by
  simp only[Au,Am]
  exact⟨_,_,rfl,x.2,Us xs⟩
theorem Qw {S O:List Nat} {w w':World}(t:Tch S w w')(h:∀b∈S,b∈O):Later O w O w':=⟨t.size,λb hb hn=>t.blk b hb (λhm=>hn (h b hm)),λ_ hn _=>hn⟩
open Go.Sort in
theorem aK(R:List (Pt×Int))(hl:R.length<=4294967296):YK C3 97 100 3 (R.map FJ) [.func (.func 98) [] []] (λ_ ds=>∃out:List (Pt×Int),ds=out.map FJ/\out.Perm R/\out.Pairwise (λa b=>¬G6 b.1 a.1<0)):=by
 intro O w v css us hs hb hO hr hk hg hus
 obtain⟨u,us',rfl,h1,h2⟩:=Ci hus
 obtain rfl:=ER h2
 obtain⟨cs,r,rfl⟩:=h1
 simp only[RepC,Am]at r
 obtain⟨_,_,rfl,rfl,rfl⟩:=r
 obtain⟨xs,rfl,rfl⟩:=UB hr
 have hun:∀w':World,Rep O w' (.tuple []) (.tuple #[]):=λw'=>⟨[.tuple #[]],by simp only[RepC,Am];exact⟨[],rfl,rfl⟩,rfl⟩
 have hs2:Sl 100 3 R1 w v xs:=by
  unfold Sl at hs⊢
  rw[Ab,eX]at hs
  exact hs
 refine⟨by kernel_rfl,?_⟩
 rcases hs2.shape with⟨rfl,rfl⟩|⟨g,cap,rfl,hc⟩
 ·refine(AnyF.slices_SortFunc_none Tryz.sortR none 0 _ w).mono ?_
  rintro e w' ⟨rfl,rfl⟩
  exact⟨.tuple #[],.tuple [],[],[],rfl,⟨[],rfl,.refl _,.nil⟩,hs,by simp[Am],by simp,hun _,Tch.refl _ _⟩
 ·have hgO:∀b∈[g],b∈O:=λb hb2=>hb b (by rw[AA.1 hb2];simp[Value.ownBlock])
  rw[Ab]at hl
  refine(AnyQ.slices_SortFunc Tryz.sortR 3 Tryz.isAgg100 Tryz.sizeOf100 R1 JS Wc (λx y=>G6 x.1.2.1 y.1.2.1) (wF (f:=λx:YM O w=>x.1.2.1)) 98 #[] g 0 cap xs.toArray w
   (enters_of Tryz.func98 (by kernel_rfl) rfl) (λm os dk hdk x y=>?_) (hs2.holdsK JS (by decide)) (hs2.lt rfl) (by simp;omega)).mono ?_
  ·obtain⟨_,hT⟩:=hs2.sorted JS (by decide) dk (by simpa using hdk) m os
   obtain⟨a,b,e1,h1,h2⟩:=MU (RepC.later (Qw hT hgO) _ _ x.2)
   obtain⟨a',b',e2,h3,h4⟩:=MU (RepC.later (Qw hT hgO) _ _ y.2)
   have e1':R1 x=_:=e1
   have e2':R1 y=_:=e2
   rw[e1',e2']
   exact aW a b a' b' _ _ _ _ _ h1 h2 h3 h4
  ·rintro e w' ⟨rfl,d,n,os,hp,hso,rfl⟩
   obtain⟨hp1,hp2,hp3⟩:=hp
   have hd:d.size=xs.length:=by simpa using hp1
   obtain⟨hS,hT⟩:=hs2.sorted JS (by decide) d hd n os
   have hperm:d.toList.Perm xs:=by
    have e1:d.extract 0 xs.toArray.size=d:=by rw[<-hp1];exact Array.extract_size
    have e2:xs.toArray.extract 0 xs.toArray.size=xs.toArray:=Array.extract_size
    rw[e1,e2]at hp3
    exact hp3
   refine⟨.tuple #[],.tuple [],(d.toList.map λx=>x.1.2).map FJ,d.toList.map R1,rfl,⟨_,rfl,hperm.map _,?_⟩,?_,Am.later (Qw hT hgO) _ _ (Us _),?_,hun _,?_⟩
   ·rw[B6,AH]
    intro i j hi hj hij
    have hj':j<xs.length:=by rw[<-hd];simpa using hj
    have hi':i<xs.length:=by omega
    have:=hso i j (Aj _) hij (by simpa using hj')
    rw[getElem!_pos d j (by omega),getElem!_pos d i (by omega)]at this
    simpa[ltOf]using this
   ·unfold Sl at hS⊢
    rw[Ab,eX]
    exact hS
   ·intro x hx
    obtain⟨e,_,rfl⟩:=Ar.1 hx
    exact⟨JS e,Wc e⟩
   ·simpa[Value.ownBlock]using hT
end Go.Proofs.YtjejpdfldmempaaGreatDoor
end
section
namespace Go.Proofs.YtjejpdfldmempaaGreatDoor
open Go.Sx Go.RowKit Go.Reg Go.Gr
set_option maxRecDepth 100000
def UE(q:ByteArray×RowV):Pt×Int:=(q.2.p,q.2.n)
theorem P3(m:List (ByteArray×RowV)):(Jp m).map (·.2)=m.map UE:=by unfold Jp;rw[R5];rfl
def PX:List (Nat×Plan):=[(7,.leaf [0,0,1,2,0,0,1,2,0,0,3] [0,1,4,5,2,6,3,7,8,9,10] [0,1,3,7,0,16,48,127,255,511,1023])]
def TY:List FuncId:=[60,61]
theorem eC:Cu Tryz.prog TY PX (Tryz.f45.body.getD .skip)=true:=by kernel_rfl
theorem aR(vs:Array Value)(w:World):(callFunc 45 vs).run C1.P w=.ok (.enter 45 vs) w:=by kernel_rfl
theorem fJ(l:List (Pt×Int))(m:List (ByteArray×RowV))(X:List (Value×Da))(ht:MA l m)(hl:l.length<=1000000)(hp:∀x∈l,x.1.labels.length<=1000/\x.1.edges.length<=1000):
  DQ C3 45 [.own 900] (sT m X) [900] (λd σ=>d=.own 910/\σ=sT m []++[(910,.slice 100 3 (l.map FJ))]):=by
 have hml:m.length<=1000000:=by have:=ht.perm.length_eq;rw[P3,Ab]at this;omega
 have hpm:∀q∈m,q.2.p.labels.length<=1000/\q.2.p.edges.length<=1000:=λq hq=>hp _ (Uo ht hq)
 refine MX Jj (pl:=PX) (G:=TY) Tryz.func45 rfl Tryz.ntmps45 aR eC (by simp) 999 rfl ?_
 intro vs
 (conv=>whnf)
 refine Vf 901 rfl rfl rfl ⟨by decide,by decide,by decide⟩ rfl ?_
 intro r
 (conv=>whnf)
 refine AC (ι:=List (ByteArray×RowV)×List (Pt×Int)) (λx=>(x.2++x.1.map UE).Perm (m.map UE)/\∀q∈x.1,q∈m) (λ_=>[(12,.d (.raw (.pointer (some ⟨r,0,none⟩)))),(3,.own 3)])
  (λx=>[(3,.slice 100 3 (x.2.map FJ)),(999,.ghost vs [.own 900]),(900,.cells 106 [.own 901]),(901,(GN MW m r (.it x.1)).own)]) (λx=>x.1.length) (m,[]) (λ_=>rfl) ⟨.refl _,λq h=>h⟩ (.own 3 3 100 3 rfl rfl (.refl _ _)) ⟨rfl,rfl,trivial⟩ ⟨rfl,rfl,rfl,rfl,trivial⟩ ?_
 rintro⟨todo,done⟩ ⟨hpe,hin⟩
 refine OA TY PX ?_
 (conv=>whnf)
 refine XN 901 r rfl rfl rfl rfl ⟨by decide,by decide,by decide⟩ rfl ?_ ?_
 ·rintro rfl
  rw[BI,Cc]at hpe
  have hdl:done.length<=1000000:=by rw[hpe.length_eq,Ab];exact hml
  (conv=>whnf)
  refine Ws (i:=3) rfl rfl (aK done (by omega)) ?_
  rintro y ds ⟨out,rfl,ho1,ho2⟩
  have e:out=l:=aU Rp (ho1.trans (hpe.trans (by rw[<-P3];exact ht.perm))) ht.sort ho2
  subst e
  (conv=>whnf)
  exact⟨_,_,[(3,910)],[(900,_),(901,_),(3,_)],.lo (.refl _ _),rfl,⟨rfl,rfl,rfl,trivial⟩,rfl,rfl,rfl⟩
 ·intro q todo' hq
  have hqm:q∈m:=hin q (hq.symm.subset (.head _))
  obtain⟨hl1,hl2⟩:=hpm q hqm
  have hc1:=DV.up3 (Ix q.2.p.labels (by omega))
  have hc2:=DV.up3 (SC q.2.p.edges (by omega))
  have hf1:Fg (q.2.p.labels.map dI)=true:=Gb dI (λ_=>rfl) _
  have hf2:Fg (q.2.p.edges.map dE)=true:=Gb dE (λ_=>rfl) _
  have hdl:done.length<=1000000:=by
   have:=hpe.length_eq
   rw[Ah,Ab,Ab]at this
   simp only at this
   omega
  have hdm:(done.map FJ).length=done.length:=Ab _
  (conv=>whnf)
  (repeat' ((first|refine Af ?_ ?_|refine Vg 901 r rfl rfl rfl ⟨by decide,by decide,by decide⟩ rfl ?_|refine J7 Jj 5 rfl rfl rfl rfl rfl rfl rfl q.2.h1 q.2.h2 ⟨by decide,by decide⟩ rfl ?_|refine Rb 20 rfl rfl (λh=>(RL (M:=MW) (i:=901) (r:=r) (ph:=.it todo') h rfl hqm).1) hc1 hf1 ?_|refine Rb 24 rfl rfl (λh=>(RL (M:=MW) (i:=901) (r:=r) (ph:=.it todo') h rfl hqm).2) hc2 hf2 ?_|refine nx ?_|refine Aw (λ_=>?_) (λ_=>?_)|exact A0)<;>conv=>whnf))
  refine sW Jj (G:=[]) 28 (.frz 20 rfl (.frz 24 rfl (.refl _ _))) rfl (.inr rfl) ?_
  ((conv=>whnf);repeat' ((first|refine odw ?_|refine nx ?_|refine Aw (λ_=>?_) (λ_=>?_))<;>conv=>whnf))
  refine⟨(todo',done++[UE q]),_,_,⟨?_,λx hx=>hin x (hq.symm.subset (.tail _ hx))⟩,.refl _ _,⟨rfl,rfl,trivial⟩,⟨by rw[Ay];rfl,rfl,rfl,rfl,trivial⟩,?_⟩
  ·refine List.Perm.trans ?_ hpe
   rw[Bk]
   exact((hq.map UE).symm).append_left done
  ·have:=hq.length_eq
   simp only[A4]at this⊢
   omega
end Go.Proofs.YtjejpdfldmempaaGreatDoor
end
