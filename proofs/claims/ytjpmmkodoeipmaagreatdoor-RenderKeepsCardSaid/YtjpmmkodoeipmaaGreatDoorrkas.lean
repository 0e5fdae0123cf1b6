/- Merged: Eat Tba Lse Srt Gre Pso Bit Prm Prn Pin Ptu Ptv Itr Sea Cpa. -/
import Derived.Test.YtjpmmkodoeipmaaGreatDoorrkan
import Derived.Test.YtjpmmkodoeipmaaGreatDoorrkar
import Derived.Shelf.SlSortCmp.WholeK
import Derived.Test.YtjpmmkodoeipmaaGreatDoorRows
import Derived.Test.YtjpmmkodoeipmaaGreatDoorrkah
import Derived.Shelf.SlSortCmp.NoneTotal
import Derived.Test.YtjpmmkodoeipmaaGreatDoorrkaq
import Derived.RangeFuncNested
section
namespace Go.Sx
open Go Go.RowKit Go.Reg
theorem PF {η:Nat->Value} {I O:List Nat} {w:World}:∀{xs ys:List Dat} {css:List (List Value)},AE η I O w (xs++ys) css->∃c1 c2,css=c1++c2/\AE η I O w xs c1/\AE η I O w ys c2
 |[],_,css,h=>⟨[],css,rfl,by simp only[AE],h⟩
 |
  x::xs,ys,css,h=>by
  simp only[AT,AE]at h
  obtain⟨a1,a2,rfl,h1,h2⟩:=h
  obtain⟨c1,c2,rfl,h3,h4⟩:=PF h2
  exact⟨a1::c1,c2,rfl,by simp only[AE];exact⟨_,_,rfl,h1,h3⟩,h4⟩
def cI:Dat->Option Da
 |.d x=>some x
 |
  .func fn f c=>match EX f,EX c with
  |some fs,some cs=>some (.func fn fs cs)
  |_,_=>none
 |
  .agg ds=>match EX ds with
  |some xs=>some (.agg xs)
  |none=>none
 |_=>none
def MJ:List Dat->Option (List Da)
 |[]=>some []
 |
  d::ds=>match cI d,MJ ds with
  |some x,some xs=>some (x::xs)
  |_,_=>none
theorem UZ {η:Nat->Value} {I O:List Nat} {w:World}:∀{xs:List Da} {cs:List Value},B6 η I O w (Ct xs) cs->RepCs O w xs cs
 |[],cs,h=>by simpa only[Ct,B6,RepCs]using h
 |
  x::xs,cs,h=>by
  simp only[Ct,B6,AH]at h
  obtain⟨c1,c2,rfl,h1,h2⟩:=h
  simp only[RepCs]
  exact⟨c1,c2,rfl,h1,UZ h2⟩
theorem sQ {η:Nat->Value} {I O:List Nat} {w:World} {d:Dat} {x:Da} {cs:List Value}(h:cI d=some x)(hr:AH η I O w d cs):RepC O w x cs/\Ch d cs=Ea x cs:=by
 cases d with
 |d y=>simp only[cI,AB]at h;subst h;simp only[AH]at hr;exact⟨hr,rfl⟩
 |
  func fn f c=>
  simp only[cI]at h
  split at h
  ·rename_i fs cs' h1 h2
   simp only[AB]at h
   subst h
   simp only[AH]at hr
   obtain⟨a,b,h3,h4,rfl⟩:=hr
   rw[E4 h1]at h3⊢
   rw[E4 h2]at h4⊢
   simp only[RepC]
   refine⟨⟨a,b,Ek.1 h3,Ek.1 h4,?_⟩,rfl⟩
   rw[Ej,Ej]
  ·cases h
 |
  agg ds=>
  simp only[cI]at h
  split at h
  ·rename_i xs h1
   simp only[AB]at h
   subst h
   simp only[AH]at hr
   rw[E4 h1]at hr
   simp only[RepC]
   exact⟨UZ hr,rfl⟩
  ·cases h
 |_=>cases h
theorem ON {η:Nat->Value} {I O:List Nat} {w:World}:∀{ds:List Dat} {xs:List Da} {css:List (List Value)},MJ ds=some xs->AE η I O w ds css->Aq O w xs css/\List.zipWith Ch ds css=List.zipWith Ea xs css
 |
  [],xs,css,h,hr=>by
  simp only[MJ,AB]at h
  subst h
  simp only[AE]at hr
  subst hr
  simp[Aq]
 |
  d::ds,xs,css,h,hr=>by
  simp only[MJ]at h
  split at h
  ·rename_i x xs' h1 h2
   simp only[AB]at h
   subst h
   simp only[AE]at hr
   obtain⟨c1,c2,rfl,r1,r2⟩:=hr
   obtain⟨g1,g2⟩:=sQ h1 r1
   obtain⟨g3,g4⟩:=ON h2 r2
   simp only[Aq]
   exact⟨⟨c1,c2,rfl,g1,g3⟩,by rw[Bh,Bh,g2,g4]⟩
  ·cases h
def Qg(O:List Nat)(v:Value):List Nat:=O.filter λc=>!decide (c∈v.ownBlock.toList)
theorem Kx {O:List Nat} {v:Value} {b:Nat}:b∈Qg O v↔b∈O/\b∉v.ownBlock.toList:=by
 unfold Qg
 rw[Az,Cm,decide_eq_false_iff_not]
def AAR(C:Cx)(f:FuncId)(E k:Nat)(ds:List Da)(pre xs:List Da)(Q:List Da->Prop):Prop:=
 ∀(O:List Nat) (w:World) (v:Value) (css:List (List Value)) (us1 us:List Value),Sl E k id w v css->(∀b∈v.ownBlock.toList,b∈O)->(∀b∈O,b<w.heap.size)->Aq O w ds css->(∀x∈css,ER k x)->Glob C O w->Jw O w pre us1->Jw O w xs us->
  (callFunc f (us1++v::us).toArray).run C.P w=.ok (.enter f (us1++v::us).toArray) w/\Calls C.P f (us1++v::us).toArray w λe w'=>∃u ds' css',e=.returned u/\Q ds'/\Sl E k id w' u css'/\(∀b∈u.ownBlock.toList,b∈v.ownBlock.toList\/w.heap.size<=b)/\
   Aq (Qg O v++u.ownBlock.toList) w' ds' css'/\(∀x∈css',ER k x)/\Tch v.ownBlock.toList w w'
section
variable {C:Cx} {T:Hh} {fr:Fr} {σ:Sg}
theorem Xq {i E k:Nat} {ds:List Da} {f:FuncId}(pre:List Dat) {args:List Dat} {ps xs:List Da} {Q:List Da->Prop} {K:KD}(hg:BI i σ=some (.slice E k ds))(hpre:MJ pre=some ps)(ha:MJ args=some xs)(hp:AAR C f E k ds ps xs Q)
  (hK:∀ds',Q ds'->Gi (Fj i .undef fr) λfr=>Ci (AX (BM i .undef) i (.slice E k ds') σ) λσ=>K (.own i) fr σ):Cj C false f (pre++.own i::args) K fr σ:=by
 unfold Cj
 rintro B S w0 η φ n a w vs hM ⟨css,hr,rfl⟩
 have hi:=AV (AQ hg)
 obtain⟨c0,c3,rfl,r0,r3⟩:=PF hr
 simp only[AE]at r3
 obtain⟨c1,c2,rfl,r1,r2⟩:=r3
 obtain⟨h1,h2⟩:=ON ha r2
 obtain⟨h3,h4⟩:=ON hpre r0
 have r1':=r1
 simp only[AH]at r1
 obtain⟨_,rfl⟩:=r1
 obtain⟨cs0,hs,e2,hrr,hkk⟩:=BV hM.mem hg
 have hbl:∀b∈(η i).ownBlock.toList,b∈φ i:=λb hb=>by rw[e2];exact hb
 have hzip:List.zipWith Ch (pre++.own i::args) (c0++[η i]::c2)=List.zipWith Ea ps c0++η i::List.zipWith Ea xs c2:=by
  rw[(GG r0 (ys:=.own i::args) (c2:=[η i]::c2) (by simp only[AE];exact⟨_,_,rfl,r1',r2⟩)).2,h4,Bh,h2];rfl
 rw[hzip]
 obtain⟨g1,g2⟩:=hp (B++Ao φ σ) w (η i) cs0 _ _ hs (λb hb=>Av _ (B5 hi (hbl b hb))) hM.mem.lt hrr hkk hM.mem.glob ⟨c0,h3,rfl⟩ ⟨c2,h1,rfl⟩
 refine⟨g1,g2.mono ?_⟩
 rintro e w' ⟨u,ds',css',rfl,hQ,hs',hbu,hr',hk',ht⟩
 have hF:∀b∈u.ownBlock.toList,b∈φ i\/w.heap.size<=b:=λb hb=>(hbu b hb).imp (hbl b) id
 have hlt:=Later.turn (σ:=σ) B ht hbl hi hF (BM i .undef) (.slice E k ds')
 have hsame:Later (Qg (B++Ao φ σ) (η i)++u.ownBlock.toList) w' (B++Ao (CE φ i u.ownBlock.toList) (AX (BM i .undef) i (.slice E k ds') σ)) w':=⟨Ax _,λ_ _ _=>rfl,λb hn _ hm=>hn (by
  rcases Ag.1 hm with hm|hm
  ·refine Au _ (Kx.2 ⟨Au _ hm,λhv=>?_⟩)
   rcases hM.mem.new i hi b (hbl b hv)with h|h
   ·exact h.2 hm
   ·have:=hM.mem.out b hm;omega
  ·rcases Gp u.ownBlock.toList b hm with h|⟨j,hj,hne,h⟩
   ·exact Av _ h
   ·exact Au _ (Kx.2 ⟨Av _ (B5 hj h),λhv=>hM.mem.disj j hj i hi hne b h (hbl b hv)⟩))⟩
 have hm':=hM.mem.turnKill (o:=.slice E k ds') (v:=u) ht hbl hi hF ⟨css',hs',rfl,Aq.later hsame _ _ hr',hk'⟩
 have hfr:=hM.fr.kill (x:=.undef) rfl hlt (I':=BA (AX (BM i .undef) i (.slice E k ds') σ)) (η':=CE η i u) (i:=i) (λj hj hne=>⟨by rw[AZ];exact hj,BU _ _ _ hne⟩) (RepC.undef_ex _ _ _)
 have hk2:=hK ds' hQ
 rw[Ei,Bw]at hk2
 exact⟨u,.own i,_,_,_,_,rfl,hk2,⟨hm',hfr,hM.defers,hM.size⟩,⟨[u],by simp only[AH];exact⟨by rw[AZ];exact hi,by rw[Ck]⟩,rfl⟩,λh=>by cases h⟩
theorem Ju {E k:Nat}(j:Nat) {q:Bool} {f:FuncId} {args:List Dat} {xs L:List Da} {K:KD}(hj:BI j σ=none)(ha:EX args=some xs)(hp:E5 C f xs E k (λds=>ds=L))(hK:Ci (Fm j (.slice E k L) σ) λσ=>K (.own j) fr σ):Cj C q f args K fr σ:=
 EH j hj ha hp λds h=>by subst h;exact hK
theorem RK {i E k:Nat} {ds:List Da} {f:FuncId}(pre:List Dat) {args:List Dat} {ps xs L:List Da} {K:KD}(hg:BI i σ=some (.slice E k ds))(hpre:MJ pre=some ps)(ha:MJ args=some xs)(hp:AAR C f E k ds ps xs (λds=>ds=L))
  (hK:Gi (Fj i .undef fr) λfr=>Ci (AX (BM i .undef) i (.slice E k L) σ) λσ=>K (.own i) fr σ):Cj C false f (pre++.own i::args) K fr σ:=
 Xq pre hg hpre ha hp λds h=>by subst h;exact hK
theorem nY {n E k:Nat}(hC:C.Ok T) {G:List FuncId} {pl:List (Nat×Plan)} {f:FuncId} {fn:Func} {c:Code}(hf:C.P.funcs[f]? =some fn)(hb:fn.body=some c)(hn:fn.ntmps=n)(hrun:∀(vs:Array Value) (w:World),(callFunc f vs).run C.P w=.ok (.enter f vs) w)(hk:CH C.P G pl c=true) {ds pre xs:List Da} {Q:List Da->Prop}(hl:pre.length+(xs.length+1)<=n)
  (h:En C T n pl c (J8 T fn.results.toList (L9 E k Q)) (params (Ct pre++.own 900::Ct xs) 0) [(900,.slice E k ds)]):AAR C f E k ds pre xs Q:=by
 intro O w v css us1 us hs hbO hO hcs hk0 hg hr1 hr
 obtain⟨css0,h0,rfl⟩:=hr1
 obtain⟨css1,h1,rfl⟩:=hr
 refine⟨hrun _ _,?_⟩
 let σ0:Sg:=[(900,.slice E k ds)]
 let η0:Nat->Value:=λ_=>v
 let φ0:Nat->List Nat:=λ_=>v.ownBlock.toList
 have hbl0:Ao φ0 σ0=v.ownBlock.toList:=by simp[Ao,σ0,φ0]
 have hset:∀c,c∈Qg O v++Ao φ0 σ0↔c∈O:=λc=>by
  rw[hbl0,Ag,Kx]
  constructor
  ·rintro(h|h)
   ·exact h.1
   ·exact hbO c h
  ·intro h
   by_cases e:c∈v.ownBlock.toList
   ·exact .inr e
   ·exact .inl ⟨h,e⟩
 have hsame:Later O w (Qg O v++Ao φ0 σ0) w:=⟨Ax _,λ_ _ _=>rfl,λc hn _ hm=>hn ((hset c).1 hm)⟩
 have hm:Mem C (Qg O v) v.ownBlock.toList w σ0 η0 φ0 w:=by
  refine⟨Tch.refl _ _,?_,by simp[BA,σ0],?_,?_,λc hc=>hO c (Kx.1 hc).1,λg hgm=>(hg g hgm).later hsame⟩
  ·intro p hp
   simp only[σ0,As]at hp
   subst hp
   exact⟨css,hs,rfl,Aq.later hsame _ _ hcs,hk0⟩
  ·intro i hi j hj hij c hc
   simp only[BA,σ0,Ar,Bu,As]at hi hj
   omega
  ·intro i hi c hc
   exact .inl ⟨hc,λhm=>(Kx.1 hm).2 hc⟩
 have hr2:AE η0 (BA σ0) (Qg O v++Ao φ0 σ0) w (.own 900::Ct xs) ([v]::css1):=by
  simp only[AE]
  exact⟨_,_,rfl,by simp[AH,BA,σ0,η0],Ek.2 (Aq.later hsame _ _ h1)⟩
 have hr0:AE η0 (BA σ0) (Qg O v++Ao φ0 σ0) w (Ct pre) css0:=Ek.2 (Aq.later hsame _ _ h0)
 obtain⟨hr3,hz⟩:=GG hr0 hr2
 have hlen:(Ct pre++Dat.own 900::Ct xs).length<=n:=by
  have:∀xs:List Da,(Ct xs).length=xs.length:=λxs=>by induction xs with|nil=>rfl|cons x xs ih=>simp[Ct,ih]
  rw[Ah,Aw,this,this];exact hl
 have:=Hg hC hf hb hn hk hr3 hlen hm h
 rw[hz,Ej,Bh,Ej]at this
 refine this.mono ?_
 rintro e w' ⟨v',d,σ',η',φ',rfl,hK,hm',cs,g1,g2⟩
 unfold L9 at hK
 split at hK
 ·rename_i i
  rcases Bz hK with hK|⟨o,ho,hK⟩
  ·exact hK.elim
  split at hK
  ·rename_i E' k' ds'
   obtain⟨rfl,rfl,hQ⟩:=hK
   simp only[AH]at g1
   obtain⟨hi,rfl⟩:=g1
   obtain⟨css',hs',e2,hrr,hkk⟩:=BV hm' ho
   have e3:v'=η' i:=g2
   subst e3
   refine⟨_,ds',css',rfl,hQ,hs',λb hb=>?_,?_,hkk,hm'.tch⟩
   ·rcases hm'.new i hi b (by rw[e2];exact hb)with h|h
    ·exact .inl h.1
    ·exact .inr h
   ·refine Aq.later ⟨Ax _,λ_ _ _=>rfl,λb hn _ hm'=>hn ?_⟩ _ _ hrr
    rcases Ag.1 hm' with h|h
    ·exact Au _ h
    ·exact Av _ (B5 hi (by rw[e2];exact h))
  ·exact hK.elim
 ·simp only[AH,RepC]at g1
  subst g1
  have e3:v'=.slice none 0 0:=g2
  subst e3
  exact⟨_,[],[],rfl,hK,Sl.nil _ _ _ _,λb hb=>(by cases hb),by simp[Aq],by simp,hm'.tch⟩
 ·exact hK.elim
end
end Go.Sx
end
section
namespace Go.Reg
open Go Go.RowKit
theorem AAx(a b:ByteArray):(@BEq.beq ByteArray ByteArray.instBEq a b)=decide (a=b):=by
 obtain⟨x⟩:=a
 obtain⟨y⟩:=b
 show(x==y)=_
 by_cases h:x=y
 ·subst h;simp
 ·have:¬(ByteArray.mk x=ByteArray.mk y):=λe=>h (by injection e)
  simp[h]
theorem Zx(a b:ByteArray):Instr.sameNow .string (.string a) (.string b)=some (decide (a=b)):=by
 show some (@BEq.beq ByteArray ByteArray.instBEq a b)=_
 rw[AAx]
theorem S4(k:ByteArray):∀(es:List MapEntry) (ks:List ByteArray) (j:Nat),es.map (·.key)=ks.map Value.string->Instr.findNow .string (.string k) es j=some ((ks.findIdx? (λx=>decide (x=k))).bind λi=>(es[i]?).map λe=>(j+i,e.val))
 |[],[],j,_=>by simp[Instr.findNow]
 |[],k'::ks,j,h=>by simp at h
 |e::es,[],j,h=>by simp at h
 |
  e::es,k'::ks,j,h=>by
  simp only[Ar,D2]at h
  have ih:=S4 k es ks (j+1) h.2
  have hs:Instr.sameNow .string (.string k) e.key=some (decide (k=k')):=by rw[h.1];exact Zx k k'
  by_cases hk:k=k'
  ·subst hk
   simp[Instr.findNow,hs,YI]
  ·have h2:¬k'=k:=λh=>hk h.symm
   simp only[Instr.findNow,hs,YI,hk,h2,decide_false,CL,if_false,ih]
   cases ks.findIdx? (λx=>decide (x=k))with
   |none=>rfl
   |some i=>simp[Hv,AAD 1 i]
theorem KeyOk.of_string {P:Program} {kt:TypeId}(hu:P.underlying kt=some .string)(hchk:∀em k w,(Instr.checkKey em 10000 kt (.string k)).run P w=.ok () w):KeyOk P kt Value.string:=by
 refine⟨hchk,λk es ks w h=>?_,λk w=>?_⟩
 ·simp only[Instr.findKey,AK,run_underlying hu,AF]
  rw[S4 k es ks 0 h]
  simp
  rfl
 ·have:Instr.sameBits 10000 (.string k) (.string k)=true:=by
   show @BEq.beq ByteArray ByteArray.instBEq k k=true
   rw[AAx];simp
  simp[Instr.keyThatStays,this]
end Go.Reg
namespace Go.Proofs.YtjpmmkodoeipmaaGreatDoor
open Go.Sx Go.RowKit Go.Reg Go.Gr
set_option maxRecDepth 100000
def N5:MapE Tryz.prog ByteArray RowV where
 t:=183
 kt:=9
 et:=140
 encK:=.string
 encV r:=.agg #[r.lv,r.ev,.int .i64 r.n]
 dK s:=.str s
 dV r:=.agg [.agg [.raw r.lv,.raw r.ev],.int .i64 r.n]
 z:=⟨.slice none 0 0,.slice none 0 0,0,⟨[],[]⟩,rfl,rfl⟩
 ht:=Tryz.underlying183
 hk:=KeyOk.of_string Tryz.underlying9 (λem k w=>by kernel_rfl)
 hz:=by intro w;kernel_rfl
 repK:=by rintro O w k v h;exact PE h
 repV:=by
  rintro O w r v ⟨cs,h,rfl⟩
  simp only[RepC,RepCs]at h
  obtain⟨_,_,rfl,⟨_,_,rfl,rfl,_,_,rfl,rfl,rfl⟩,_,_,rfl,rfl,rfl⟩:=h
  rfl
 ofV:=by
  rintro O w r
  refine⟨[r.lv,r.ev,.int .i64 r.n],?_,rfl⟩
  simp only[RepC,RepCs]
  exact⟨[r.lv,r.ev],_,rfl,⟨[r.lv],_,rfl,rfl,[r.ev],_,rfl,rfl,rfl⟩,_,_,rfl,rfl,rfl⟩
theorem WC(a b:Int)(ha:0<=a)(hb:0<=b)(hs:a+b<=9223372036854775807):Pure C1 115 [.int .i64 a,.int .i64 b] (λy=>y=.tuple [.int .i64 (a+b),.nili]):=by
 refine AW Tryz.func115 Tryz.ntmps115 [] [] ?_
 by_cases h:b=0
 ·subst h
  (conv=>whnf)
  (repeat' ((first|refine Aj ?_ ?_|refine ifq ?_|refine nx ?_|refine AD (λ_=>?_) (λ_=>?_)|exact AG)<;>conv=>whnf))
  exact rfl
 ·(conv=>whnf)
  (repeat' ((first|refine Aj ?_ ?_|refine ifq ?_|refine nx ?_|refine AD (λ_=>?_) (λ_=>?_)|exact AG)<;>conv=>whnf))
  exact rfl
theorem RC(l:List Edg)(hl:l.length<=2000000000):E5 C1 114 [Fa l] 90 2 (λds=>ds=l.map dE):=by
 have hlm:(l.map dE).length=l.length:=Ac _
 refine WI Tryz.func114 Tryz.ntmps114 [] [] ?_
 cases l with
 |
  nil=>
  ((conv=>whnf);repeat' ((first|refine odw ?_|refine nx ?_|refine AD (λ_=>?_) (λ_=>?_))<;>conv=>whnf))
  refine Yd rfl Tryz.underlying52 rfl rfl (.inr rfl) rfl ?_
  intro b
  cases b<;>((conv=>whnf);repeat' ((first|refine odw ?_|refine nx ?_|refine AD (λ_=>?_) (λ_=>?_))<;>conv=>whnf))
  ·exact⟨rfl,rfl,rfl⟩
  ·exact rfl
 |
  cons x l=>
  have hlm2:(([]:List Da).length+((x::l).map dE).length)<=4294967296:=by rw[hlm];simp at hl⊢;omega
  ((conv=>whnf);repeat' ((first|refine odw ?_|refine nx ?_|refine AD (λ_=>?_) (λ_=>?_))<;>conv=>whnf))
  all_goals first|exact⟨rfl,rfl,rfl⟩|(refine JE hlm2 ?_;((conv=>whnf);repeat' ((first|refine odw ?_|refine nx ?_|refine AD (λ_=>?_) (λ_=>?_))<;>conv=>whnf));exact⟨rfl,rfl,by simp⟩)
theorem E5.up3 {f:FuncId} {xs:List Da} {E k:Nat} {Q:List Da->Prop}(h:E5 C1 f xs E k Q):E5 C3 f xs E k Q:=λO w us h1 h2 h3=>h O w us h1 (λg hg=>h2 g (Au _ hg)) h3
def sT(m:List (ByteArray×RowV))(X:List (Value×Da)):Sg:=[(900,.cells 185 [.own 901]),(901,(G5 N5 m X).own)]
def mT:List (Nat×Plan):=[]
def AAG:List FuncId:=[]
theorem AAo:CH Tryz.prog AAG mT (Tryz.f64.body.getD .skip)=true:=by kernel_rfl
theorem vT(vs:Array Value)(w:World):(callFunc 64 vs).run C1.P w=.ok (.enter 64 vs) w:=by kernel_rfl
theorem mA:DZ C3 64 [] [] [] (λd σ=>d=.own 900/\σ=sT [] []):=by
 refine Mj I7 (pl:=mT) (G:=AAG) Tryz.func64 rfl Tryz.ntmps64 vT AAo (by simp) 999 rfl ?_
 intro vs
 (conv=>whnf)
 (repeat' ((first|refine Aj ?_ ?_|refine iP N5 1 rfl rfl (by decide) rfl ?_|refine nx ?_|refine AD (λ_=>?_) (λ_=>?_)|exact AG)<;>conv=>whnf))
 exact⟨_,_,[(3,900),(1,901)],[(3,_),(1,_)],.lo (.refl _ _),rfl,⟨rfl,rfl,trivial⟩,rfl,rfl,rfl⟩
structure TextOk(p:Pt):Prop where
 right:Mf p=.nili
 len:p.labels.length<=1000
 lab:∀x∈p.labels,0<=x/\x<=999999
 elen:p.edges.length<=1000
 edg:∀e∈p.edges,(0<=e.a/\e.a<=999999)/\0<=e.b/\e.b<=999999
def XQ:List (Nat×Plan):=[(11,.leaf [0,1,2,0,1,2,0,0,3] [0,3,1,4,2,5,6,7,8] [0,1,3,0,8,31,63,127,255]),
 (16,.leaf [0,0,0,1,0,1,3] [0,1,2,4,3,5,6] [0,1,3,7,0,0,63])]
def lU:List FuncId:=[88,114]
theorem dR:CH Tryz.prog lU XQ (Tryz.f67.body.getD .skip)=true:=by kernel_rfl
theorem Zy(vs:Array Value)(w:World):(callFunc 67 vs).run C1.P w=.ok (.enter 67 vs) w:=by kernel_rfl
theorem uQ(m:List (ByteArray×RowV))(X:List (Value×Da))(p:Pt)(n:Int)(r:RowV)(hp:TextOk p)(hn:0<=n)(hr:Reg.get m (bs (DW p))=some r)(hr0:0<=r.n)(hs:r.n+n<=9223372036854775807):
  DZ C3 67 [.own 900,.d (FE p),.d (.int .i64 n)] (sT m X) [900] (λd σ=>d=.d .nili/\σ=sT (put m (bs (DW p)) {r with n:=r.n+n}) X):=by
 have hri:=Pure.up3 (EM p (by have:=hp.len;omega) (by have:=hp.elen;omega))
 rw[hp.right]at hri
 have htx:=Lh p hp.len hp.lab hp.elen hp.edg
 have had:=Pure.up3 (WC r.n n hr0 hn hs)
 have hmem:(bs (DW p),r)∈m:=by
  unfold Reg.get at hr
  obtain⟨q,hq,e⟩:=Cl.1 hr
  have h1:=List.mem_of_find?_eq_some hq
  have h2:=List.find?_some hq
  have h3:q.1=bs (DW p):=by simpa using h2
  have:q=(bs (DW p),r):=by rw[<-h3,<-e]
  rw[<-this];exact h1
 have hlk:((Reg.get m (bs (DW p))).getD N5.z,(Reg.get m (bs (DW p))).isSome)=(r,true):=by rw[hr];rfl
 refine Mj I7 (pl:=XQ) (G:=lU) Tryz.func67 rfl Tryz.ntmps67 Zy dR (by simp) 999 rfl ?_
 intro vs
 (conv=>whnf)
 (repeat' ((first|refine Aj ?_ ?_|refine Af rfl hri ?_|refine Af rfl htx ?_|refine Uv 901 (bs (DW p)) rfl rfl rfl rfl ⟨by decide,by decide⟩ rfl hlk ?_|refine Mt I7 9 rfl rfl rfl rfl rfl rfl rfl r.h1 r.h2 ⟨by decide,by decide⟩ rfl ?_|refine Af rfl had ?_|refine Wz (M:=N5) 901 (bs (DW p)) {r with n:=r.n+n} rfl rfl rfl rfl (λh=>N5.repV _ _ _ _ (Eg h rfl)) (λ_ _ _ h=>h _ hmem) ⟨by decide,by decide,by decide⟩ rfl ?_|refine nx ?_|refine AD (λ_=>?_) (λ_=>?_)|exact AG)<;>conv=>whnf))
 exact⟨_,_,[],sT _ X,.lo (.refl _ _),rfl,⟨rfl,rfl,trivial⟩,rfl,rfl,rfl⟩
theorem uR(m:List (ByteArray×RowV))(X:List (Value×Da))(p:Pt)(n:Int)(hp:TextOk p)(hn:0<=n/\n<=9223372036854775807)(hr:Reg.get m (bs (DW p))=none):
  DZ C3 67 [.own 900,.d (FE p),.d (.int .i64 n)] (sT m X) [900] (λd σ=>∃r:RowV,(r.n=n/\r.p=p)/\d=.d .nili/\σ=sT (put m (bs (DW p)) r) ((r.ev,Fa p.edges)::(r.lv,Bn p.labels)::X)):=by
 have hri:=Pure.up3 (EM p (by have:=hp.len;omega) (by have:=hp.elen;omega))
 rw[hp.right]at hri
 have htx:=Lh p hp.len hp.lab hp.elen hp.edg
 have had:=Pure.up3 (WC 0 n (by omega) hn.1 (by omega))
 rw[Int.zero_add]at had
 have hlk:((Reg.get m (bs (DW p))).getD N5.z,(Reg.get m (bs (DW p))).isSome)=(N5.z,false):=by rw[hr];rfl
 have hc1:=E5.up3 (It p.labels (by have:=hp.len;omega))
 have hc2:=E5.up3 (RC p.edges (by have:=hp.elen;omega))
 have hf1:GL (p.labels.map dI)=true:=HQ dI (λ_=>rfl) _
 have hf2:GL (p.edges.map dE)=true:=HQ dE (λ_=>rfl) _
 refine Mj I7 (pl:=XQ) (G:=lU) Tryz.func67 rfl Tryz.ntmps67 Zy dR (by simp) 999 rfl ?_
 intro vs
 (conv=>whnf)
 (repeat' ((first|refine Aj ?_ ?_|refine Af rfl hri ?_|refine Af rfl htx ?_|refine Uv 901 (bs (DW p)) rfl rfl rfl rfl ⟨by decide,by decide⟩ rfl hlk ?_|refine Mt I7 9 rfl rfl rfl rfl rfl rfl rfl rfl rfl ⟨by decide,by decide⟩ rfl ?_|refine Ju 39 rfl rfl hc1 ?_|refine Ju 42 rfl rfl hc2 ?_|refine nx ?_|refine AD (λ_=>?_) (λ_=>?_)|exact AG)<;>conv=>whnf))
 refine Vx 901 39 rfl rfl hf1 ?_
 intro u1 hu1
 (conv=>whnf)
 refine Vx 901 42 rfl rfl hf2 ?_
 intro u2 hu2
 (conv=>whnf)
 (repeat' ((first|refine Aj ?_ ?_|refine Af rfl had ?_|refine Wz (M:=N5) 901 (bs (DW p)) ⟨u1,u2,n,p,hu1,hu2⟩ rfl rfl rfl rfl (λh=>AD6 h) (λ_ _ h _=>⟨h (u1,_) (by simp),h (u2,_) (by simp)⟩) ⟨by decide,by decide,by decide⟩ rfl ?_|refine nx ?_|refine AD (λ_=>?_) (λ_=>?_)|exact AG)<;>conv=>whnf))
 exact⟨_,_,[],sT _ _,.lo (.refl _ _),rfl,⟨rfl,rfl,trivial⟩,rfl,⟨u1,u2,n,p,hu1,hu2⟩,⟨rfl,rfl⟩,rfl,rfl⟩
end Go.Proofs.YtjpmmkodoeipmaaGreatDoor
end
section
namespace Go.Proofs
open Go.Shelf
def Tryz.sortE_ren:Go.Shelf.Ren:=⟨λ|6=>91|15=>124|14=>137|28=>180|29=>181|20=>202|21=>203|22=>204|23=>205|24=>206|25=>207|26=>208|27=>209|46=>259|47=>245|48=>246|49=>260|50=>261|57=>283|n=>n,λ|22=>52|24=>90|25=>91|3=>3|39=>202|0=>0|53=>250|55=>215|4=>4|46=>243|45=>242|50=>247|5=>5|9=>9|66=>293|70=>297|76=>318|77=>112|n=>n,λ|n=>n⟩
theorem Tryz.sortE:Go.Proofs.SlLaysF0.n6 Tryz.prog Tryz.sortE_ren:={
 mixed:=by kernel_rfl
 f6:=⟨Tryz.f91.name,by decide,Tryz.func91.trans (congrArg some (by kernel_rfl))⟩
 f14:=⟨Tryz.f137.name,by decide,Tryz.func137.trans (congrArg some (by kernel_rfl))⟩
 f15:=Tryz.func124.trans (congrArg some (by kernel_rfl))
 f20:=⟨Tryz.f202.name,by decide,Tryz.func202.trans (congrArg some (by kernel_rfl))⟩
 f21:=⟨Tryz.f203.name,by decide,Tryz.func203.trans (congrArg some (by kernel_rfl))⟩
 f22:=⟨Tryz.f204.name,by decide,Tryz.func204.trans (congrArg some (by kernel_rfl))⟩
 f23:=⟨Tryz.f205.name,by decide,Tryz.func205.trans (congrArg some (by kernel_rfl))⟩
 f24:=⟨Tryz.f206.name,by decide,Tryz.func206.trans (congrArg some (by kernel_rfl))⟩
 f25:=⟨Tryz.f207.name,by decide,Tryz.func207.trans (congrArg some (by kernel_rfl))⟩
 f26:=⟨Tryz.f208.name,by decide,Tryz.func208.trans (congrArg some (by kernel_rfl))⟩
 f27:=⟨Tryz.f209.name,by decide,Tryz.func209.trans (congrArg some (by kernel_rfl))⟩
 f28:=Tryz.func180.trans (congrArg some (by kernel_rfl))
 f29:=Tryz.func181.trans (congrArg some (by kernel_rfl))
 f46:=⟨Tryz.f259.name,by decide,Tryz.func259.trans (congrArg some (by kernel_rfl))⟩
 f47:=Tryz.func245.trans (congrArg some (by kernel_rfl))
 f48:=Tryz.func246.trans (congrArg some (by kernel_rfl))
 f49:=⟨Tryz.f260.name,by decide,Tryz.func260.trans (congrArg some (by kernel_rfl))⟩
 f50:=⟨Tryz.f261.name,by decide,Tryz.func261.trans (congrArg some (by kernel_rfl))⟩
 f57:=⟨Tryz.f283.name,by decide,Tryz.func283.trans (congrArg some (by kernel_rfl))⟩
 t0:=Tryz.underlying0
 a0:=Tryz.isAgg0
 z0:=Tryz.sizeOf0
 v0:=Tryz.zeroValue0
 t3:=Tryz.underlying3
 a3:=Tryz.isAgg3
 z3:=Tryz.sizeOf3
 v3:=Tryz.zeroValue3
 t4:=Tryz.underlying4
 a4:=Tryz.isAgg4
 z4:=Tryz.sizeOf4
 v4:=Tryz.zeroValue4
 t5:=Tryz.underlying5
 a5:=Tryz.isAgg5
 z5:=Tryz.sizeOf5
 v5:=Tryz.zeroValue5
 t9:=Tryz.underlying9
 a9:=Tryz.isAgg9
 z9:=Tryz.sizeOf9
 v9:=Tryz.zeroValue9
 t22:=Tryz.underlying52
 a22:=Tryz.isAgg52
 z22:=Tryz.sizeOf52
 v22:=Tryz.zeroValue52
 t25:=Tryz.underlying91
 a25:=Tryz.isAgg91
 z25:=Tryz.sizeOf91
 v25:=Tryz.zeroValue91
 t39:=Tryz.underlying202
 a39:=Tryz.isAgg202
 z39:=Tryz.sizeOf202
 v39:=Tryz.zeroValue202
 t45:=Tryz.underlying242
 a45:=Tryz.isAgg242
 z45:=Tryz.sizeOf242
 v45:=Tryz.zeroValue242
 t46:=Tryz.underlying243
 a46:=Tryz.isAgg243
 z46:=Tryz.sizeOf243
 v46:=Tryz.zeroValue243
 t50:=Tryz.underlying247
 a50:=Tryz.isAgg247
 z50:=Tryz.sizeOf247
 v50:=Tryz.zeroValue247
 t53:=Tryz.underlying250
 a53:=Tryz.isAgg250
 z53:=Tryz.sizeOf250
 v53:=Tryz.zeroValue250
 t55:=Tryz.underlying215
 a55:=Tryz.isAgg215
 z55:=Tryz.sizeOf215
 v55:=Tryz.zeroValue215
 t66:=Tryz.underlying293
 a66:=Tryz.isAgg293
 z66:=Tryz.sizeOf293
 v66:=Tryz.zeroValue293
 t70:=Tryz.underlying297
 a70:=Tryz.isAgg297
 z70:=Tryz.sizeOf297
 v70:=Tryz.zeroValue297
 t76:=Tryz.underlying318
 a76:=Tryz.isAgg318
 z76:=Tryz.sizeOf318
 v76:=Tryz.zeroValue318
 t77:=Tryz.underlying112
 a77:=Tryz.isAgg112
 z77:=Tryz.sizeOf112
 v77:=Tryz.zeroValue112}
end Go.Proofs
end
section
namespace Go.Reg
open Go Go.RowKit Go.Sort Go.Proofs
section
variable {α:Type} [Inhabited α] {enc:α->List Value} {E k:Nat} {w:World} {l:List α} {g cap:Nat}
theorem cH(he:∀x,(enc x).length=k)(hk:0<k)(d:Array α)(t:Nat)(ht:t<d.size*k):(d.toList.flatMap enc)[t]? =some (flatK enc k d)[t]! :=by
 have h1:t/k<d.size:=Nat.div_lt_of_lt_mul (by rwa [AAC]at ht)
 have h2:t % k<k:=Nat.mod_lt _ hk
 have e:=Qp he d.toList (t/k) d[t/k] (t % k) (by simp[h1]) h2
 rw[show t/k*k+t % k=t from Nat.div_add_mod' t k]at e
 rw[e,get_flatK _ _ _ _ ht,getElem!_pos d (t/k) h1]
 have h3:t % k<(enc d[t/k]).length:=by rw[he];exact h2
 rw[Ab h3,getElem!_pos (enc d[t/k]) (t % k) h3]
theorem Sl.holdsK(he:∀x,(enc x).length=k)(hk:0<k)(h:Sl E k enc w (.slice (some ⟨g,0,none⟩) l.length cap) l):HoldsK enc k w g 0 l.toArray:=by
 intro j hj
 have hj':j<l.length*k:=by simpa using hj
 have hc:=VB h (g:=g) rfl j (flatK enc k l.toArray)[j]! (by have:=cH he hk l.toArray j hj';simpa using this)
 refine⟨by simpa[DA]using hc,?_⟩
 rcases h.2 with⟨h1,_⟩|⟨g',cap',cur,h1,_,hg,_⟩
 ·cases h1
 ·cases h1
  simp[World.frozen?,hg]
theorem Sl.sorted(he:∀x,(enc x).length=k)(hk:0<k)(h:Sl E k enc w (.slice (some ⟨g,0,none⟩) l.length cap) l)(d:Array α)(hd:d.size=l.length)(n:Nat)(os:Array Obj):
  Sl E k enc (sortWorldK enc k w g 0 n d os) (.slice (some ⟨g,0,none⟩) l.length cap) d.toList/\Tch [g] w (sortWorldK enc k w g 0 n d os):=by
 have hlt:=h.lt (b:=g) rfl
 constructor
 ·have hlen:(d.toList.flatMap enc).length=d.toList.length*k:=by
   generalize d.toList=xs
   induction xs with
   |nil=>simp
   |cons x xs ih=>simp[ih,he,CV];omega
  refine⟨hlen,?_⟩
  rcases h.2 with⟨h1,_⟩|⟨g',cap',cur,h1,h0,hg,hc,hm,hs,ht⟩
  ·cases h1
  ·cases h1
   refine .inr ⟨g,cap,putCells id 0 (flatK enc k d) cur,by simp[hd],Am _,?_,by simp[hd];exact hc,hm,by simp[putCells,hs],?_⟩
   ·simp only[sortWorldK,grow,putRowK,putRow,mapBlock,Sort.ahead]
    rw[GC (by simpa using hlt)]
    simp[C9,hg,onCells]
   ·apply Cb
    intro t
    rw[CY]
    split
    ·rename_i hlt'
     have hlt2:t<d.size*k:=by simpa using hlt'
     rw[cH he hk d t hlt2]
     have hcs:t<cur.size:=by rw[hs];rw[hd]at hlt2;exact Bq hlt2 (Hi k hc)
     simp[putCells,hcs,hlt2]
    ·rename_i hge
     rw[AI (by rw[hlen];omega)]
 ·refine⟨rfl,rfl,rfl,?_,?_⟩
  ·simp[sortWorldK,grow,putRowK,putRow,mapBlock,Sort.ahead]
  ·intro j hj hn
   have hne:g≠j:=λe=>hn (by simp[e])
   simp only[sortWorldK,grow,putRowK,putRow,mapBlock,Sort.ahead]
   rw[GC (by simpa using hj)]
   simp[C9,hne]
end
end Go.Reg
end
section
namespace Go.Proofs.YtjpmmkodoeipmaaGreatDoor
open Go.Sx Go.RowKit Go.Reg Go.Gr
def Ir(e:Edg):List Value:=[.int .i64 e.a,.int .i64 e.b]
def Oo(e:Edg):Value:=.agg #[.int .i64 e.a,.int .i64 e.b]
theorem MM(e:Edg):(Ir e).length=2:=rfl
theorem Qt(e:Edg):∀u∈Ir e,u.oneCell'=true:=by intro u hu;simp[Ir]at hu;rcases hu with rfl|rfl<;>rfl
def orI(a b:Int):Int:=if a=0 then b else a
set_option maxRecDepth 100000 in
theorem UN(a:Int)(w:World):Calls Tryz.prog 79 #[.int .i64 a] w λe w'=>e=.returned (.bool false)/\w=w':=by
 have h:(a !=a)=false:=by simp
 go_enter Tryz.func79,Tryz.ntmps79
 go_wp2_with fail
 go_ret
 exact⟨rfl,rfl⟩
set_option maxRecDepth 100000 in
theorem F5(a b:Int)(w:World):Calls Tryz.prog 31 #[.int .i64 a,.int .i64 b] w λe w'=>e=.returned (.int .i64 (Db a b))/\w=w':=by
 by_cases h1:a<b
 ·have e1:Db a b=-1:=by simp[Db,h1]
  rw[e1]
  clear e1
  go_enter Tryz.func31,Tryz.ntmps31
  go_wp2_with (go_at_call 79;refine(UN _ _).mono ?_;rintro e w' ⟨rfl,rfl⟩)
  go_ret
  exact⟨rfl,rfl⟩
 ·by_cases h2:b<a
  ·have e1:Db a b=1:=by simp[Db,h1,h2]
   rw[e1]
   clear e1
   go_enter Tryz.func31,Tryz.ntmps31
   go_wp2_with (go_at_call 79;refine(UN _ _).mono ?_;rintro e w' ⟨rfl,rfl⟩)
   go_ret
   exact⟨rfl,rfl⟩
  ·have e1:Db a b=0:=by simp[Db,h1,h2]
   rw[e1]
   clear e1
   go_enter Tryz.func31,Tryz.ntmps31
   go_wp2_with (go_at_call 79;refine(UN _ _).mono ?_;rintro e w' ⟨rfl,rfl⟩)
   go_ret
   exact⟨rfl,rfl⟩
set_option maxRecDepth 100000 in
theorem ACS(s:Nat)(a b:Int)(w:World)(c0:w.cell? ⟨s,0,none⟩=some (.int .i64 a))(c1:w.cell? ⟨s,1,none⟩=some (.int .i64 b)):
  Calls Tryz.prog 30 #[.slice (some ⟨s,0,none⟩) 2 2] w λe w'=>e=.returned (.int .i64 (orI a b))/\w=w':=by
 by_cases ha:a=0
 ·subst ha
  have e1:orI 0 b=b:=by simp[orI]
  rw[e1]
  clear e1
  have b0:((0:Int) !=0)=false:=by simp
  by_cases hb:b=0
  ·subst hb
   go_enter Tryz.func30,Tryz.ntmps30
   go_wp2_with fail
   refine wp_loop_rounds 3 ?_
   rw[rounds_succ]
   go_wp2_with fail
   rw[rounds_succ]
   go_wp2_with fail
   rw[rounds_succ]
   go_wp2_with fail
   go_ret
   exact⟨rfl,rfl⟩
  ·have hb':(b !=0)=true:=by simpa using hb
   clear hb
   go_enter Tryz.func30,Tryz.ntmps30
   go_wp2_with fail
   refine wp_loop_rounds 2 ?_
   rw[rounds_succ]
   go_wp2_with fail
   rw[rounds_succ]
   go_wp2_with fail
   go_ret
   exact⟨rfl,rfl⟩
 ·have e1:orI a b=a:=by simp[orI,ha]
  rw[e1]
  have ha':(a !=0)=true:=by simpa using ha
  clear e1 ha
  go_enter Tryz.func30,Tryz.ntmps30
  go_wp2_with fail
  refine wp_loop_rounds 1 ?_
  rw[rounds_succ]
  go_wp2_with fail
  go_ret
  exact⟨rfl,rfl⟩
theorem Q4(w:World)(cs:Array Value)(T:TypeId) {s i:Nat} {v:Value}(hs:s=w.heap.size)(h:cs[i]? =some v):(w.alloc (.cells cs T)).drew.cell? ⟨s,i,none⟩=some v:=by
 subst hs
 simp[h]
open Go.Sort Go.Proofs in
set_option maxRecDepth 100000 in
set_option maxHeartbeats 1000000 in
theorem xT(x y:Edg)(W:World):Calls Tryz.prog 92 #[Oo x,Oo y] W λe w'=>e=.returned (.int .i64 (Cy x y))/\∃q os',w'=grow (W.drewN q) os':=by
 unfold Oo
 go_enter Tryz.func92,Tryz.ntmps92
 go_wp2_with fail
 refine J6 [31] [0,1,0,1,2,0,1,0,1,2,6,3,0] [0,2,5,7,1,3,6,8,4,9,10,11,12] [0,1,0,4,15,0,32,0,128,511,1023,2047,4095] (by kernel_rfl) (by kernel_rfl) ?_
 go_wp2_with (first|(refine Cv rfl rfl rfl rfl (λ_ _=>?_))|(refine Du rfl rfl rfl (λ_ _=>?_)))
 refine EJ rfl rfl rfl (λK1 hK1=>?_)
 go_wp2_with (go_at_call 31;refine(F5 _ _ _).mono ?_;rintro e w' ⟨rfl,rfl⟩)
 refine hK1 _ _ (Kb.refl _) ?_
 go_wp2_with (first|(refine Cv rfl rfl rfl rfl (λ_ _=>?_))|(refine Du rfl rfl rfl (λ_ _=>?_)))
 refine EJ rfl rfl rfl (λK2 hK2=>?_)
 go_wp2_with (go_at_call 31;refine(F5 _ _ _).mono ?_;rintro e w' ⟨rfl,rfl⟩)
 refine hK2 _ _ (Kb.refl _) ?_
 go_wp2_with (first|(refine Cv rfl rfl rfl rfl (λ_ _=>?_))|(refine Du rfl rfl rfl (λ_ _=>?_)))
 refine Hj rfl rfl rfl (λK3 hK3=>?_)
 go_wp2_with fail
 refine(ACS _ _ _ _ (Q4 _ _ _ (by simp) rfl) (Q4 _ _ _ (by simp) rfl)).mono ?_
 rintro e w' ⟨rfl,rfl⟩
 refine hK3 _ _ ?_
 go_wp2_with (first|(refine Cv rfl rfl rfl rfl (λ_ _=>?_))|(refine Du rfl rfl rfl (λ_ _=>?_))|refine GN ?_)
 go_ret
 have e:orI (Db x.a y.a) (Db x.b y.b)=Cy x y:=by
  unfold orI Cy
  by_cases h:Db x.a y.a=0<;>simp[h]
 exact⟨by rw[<-e];rfl,1,_,by rw[alloc_eq_grow,alloc_eq_grow,alloc_eq_grow,grow_grow,grow_grow];rfl⟩
instance:Inhabited Edg:=⟨⟨0,0⟩⟩
open Go.Sort in
theorem dX:SWO (ltOf Cy)where
 irrefl x:=by simp[ltOf,F9]
 trans x y z h1 h2:=by simp only[ltOf,decide_eq_true_eq,F9]at*;omega
 ntrans x y z h1 h2:=by simp only[ltOf,decide_eq_false_iff_not,F9]at*;omega
open Go.Sort in
theorem ABl(v:Value)(l:List Edg)(w:World)(h:Sl 90 2 Ir w v l)(hl:l.length<=4294967296):
  Calls Tryz.prog 91 #[v,.func (.func 92) #[] #[]] w λe w'=>e=.returned (.tuple #[])/\∃out,Sl 90 2 Ir w' v out/\out.Perm l/\
   out.Pairwise (λa b=>¬Cy b a<0)/\Tch v.ownBlock.toList w w':=by
 rcases h.shape with⟨rfl,rfl⟩|⟨g,cap,rfl,hc⟩
 ·refine(AnyF.slices_SortFunc_none Tryz.sortE none 0 _ w).mono ?_
  rintro e w' ⟨rfl,rfl⟩
  exact⟨rfl,[],h,Po _,List.Pairwise.nil,Tch.refl _ _⟩
 ·refine(AnyQ.slices_SortFunc Tryz.sortE 2 Tryz.isAgg90 Tryz.sizeOf90 Ir (λ_=>rfl) Qt Cy dX 92 #[] g 0 cap l.toArray w
   (enters_of Tryz.func92 (by kernel_rfl) rfl) (λm os dk hs x y=>xT x y _) (h.holdsK MM (by decide)) (h.lt rfl) (by simp;omega)).mono ?_
  rintro e w' ⟨rfl,d,n,os,hp,hs,rfl⟩
  obtain⟨hp1,hp2,hp3⟩:=hp
  have hd:d.size=l.length:=by simpa using hp1
  obtain⟨hS,hT⟩:=h.sorted MM (by decide) d hd n os
  refine⟨rfl,d.toList,hS,?_,?_,hT⟩
  ·have e1:d.extract 0 l.toArray.size=d:=by rw[<-hp1];exact Ex
   have e2:l.toArray.extract 0 l.toArray.size=l.toArray:=Ex
   rw[e1,e2]at hp3
   exact hp3
  ·rw[AO]
   intro i j hi hj hij
   have hj':j<l.length:=by rw[<-hd];simpa using hj
   have hi':i<l.length:=by omega
   have:=hs i j (Am _) hij (by simpa using hj')
   rw[getElem!_pos d j (by omega),getElem!_pos d i (by omega)]at this
   simpa[ltOf]using this
theorem Qv {O:List Nat} {w:World}:∀{l:List Edg} {css:List (List Value)},Aq O w (l.map dE) css->css=l.map Ir
 |[],css,h=>by simpa only[Bu,Aq]using h
 |
  e::l,css,h=>by
  simp only[Ar,Aq,dE,RepC,RepCs]at h
  obtain⟨c1,c2,rfl,⟨_,_,rfl,rfl,_,_,rfl,rfl,rfl⟩,h⟩:=h
  rw[Qv h];rfl
theorem RA(O:List Nat)(w:World):∀l:List Edg,Aq O w (l.map dE) (l.map Ir)
 |[]=>by simp[Aq]
 |
  e::l=>by
  simp only[Ar,Aq]
  exact⟨_,_,rfl,by simp[dE,RepC,RepCs,Ir],RA O w l⟩
theorem Qu {E:Nat} {w:World} {v:Value} {l:List Edg}:Sl E 2 id w v (l.map Ir)↔Sl E 2 Ir w v l:=by
 unfold Sl
 rw[Ac,G0]
 exact SD
theorem vJ(l:List Edg)(hl:l.length<=4294967296):RP C1 91 90 2 (l.map dE) [.func (.func 92) [] []] (λ_ ds=>∃out:List Edg,ds=out.map dE/\out.Perm l/\out.Pairwise (λa b=>¬Cy b a<0)):=by
 intro O w v css us hs hb hO hr hk hg hus
 obtain⟨u,us',rfl,h1,h2⟩:=Cn hus
 obtain rfl:=Ds h2
 obtain⟨cs,r,rfl⟩:=h1
 simp only[RepC,Aq]at r
 obtain⟨_,_,rfl,rfl,rfl⟩:=r
 obtain rfl:=Qv hr
 refine⟨by kernel_rfl,(ABl v l w (Qu.1 hs) hl).mono ?_⟩
 rintro e w' ⟨rfl,out,hs',hp,ho,ht⟩
 refine⟨.tuple #[],.tuple [],_,out.map Ir,rfl,⟨out,rfl,hp,ho⟩,Qu.2 hs',RA _ _ _,?_,⟨[.tuple #[]],by simp only[RepC,Aq];exact⟨[],rfl,rfl⟩,rfl⟩,ht⟩
 intro x hx
 obtain⟨e,_,rfl⟩:=An.1 hx
 exact⟨rfl,Qt e⟩
end Go.Proofs.YtjpmmkodoeipmaaGreatDoor
end
section
namespace Go.Proofs.YtjpmmkodoeipmaaGreatDoor
open Go.Sx Go.RowKit Go.Reg Go.Gr
open Go.Sort Go.Proofs in
set_option maxRecDepth 100000 in
set_option maxHeartbeats 1000000 in
theorem O5(x y:Edg)(W:World):Calls Tryz.prog 34 #[Oo x,Oo y] W λe w'=>e=.returned (.int .i64 (Cy x y))/\∃q os',w'=grow (W.drewN q) os':=by
 unfold Oo
 go_enter Tryz.func34,Tryz.ntmps34
 go_wp2_with fail
 refine J6 [31] [0,1,0,1,2,0,1,0,1,2,6,3,0] [0,2,5,7,1,3,6,8,4,9,10,11,12] [0,1,0,4,15,0,32,0,128,511,1023,2047,4095] (by kernel_rfl) (by kernel_rfl) ?_
 go_wp2_with (first|(refine Cv rfl rfl rfl rfl (λ_ _=>?_))|(refine Du rfl rfl rfl (λ_ _=>?_)))
 refine EJ rfl rfl rfl (λK1 hK1=>?_)
 go_wp2_with (go_at_call 31;refine(F5 _ _ _).mono ?_;rintro e w' ⟨rfl,rfl⟩)
 refine hK1 _ _ (Kb.refl _) ?_
 go_wp2_with (first|(refine Cv rfl rfl rfl rfl (λ_ _=>?_))|(refine Du rfl rfl rfl (λ_ _=>?_)))
 refine EJ rfl rfl rfl (λK2 hK2=>?_)
 go_wp2_with (go_at_call 31;refine(F5 _ _ _).mono ?_;rintro e w' ⟨rfl,rfl⟩)
 refine hK2 _ _ (Kb.refl _) ?_
 go_wp2_with (first|(refine Cv rfl rfl rfl rfl (λ_ _=>?_))|(refine Du rfl rfl rfl (λ_ _=>?_)))
 refine Hj rfl rfl rfl (λK3 hK3=>?_)
 go_wp2_with fail
 refine(ACS _ _ _ _ (Q4 _ _ _ (by simp) rfl) (Q4 _ _ _ (by simp) rfl)).mono ?_
 rintro e w' ⟨rfl,rfl⟩
 refine hK3 _ _ ?_
 go_wp2_with (first|(refine Cv rfl rfl rfl rfl (λ_ _=>?_))|(refine Du rfl rfl rfl (λ_ _=>?_))|refine GN ?_)
 go_ret
 have e:orI (Db x.a y.a) (Db x.b y.b)=Cy x y:=by
  unfold orI Cy
  by_cases h:Db x.a y.a=0<;>simp[h]
 exact⟨by rw[<-e];rfl,1,_,by rw[alloc_eq_grow,alloc_eq_grow,alloc_eq_grow,grow_grow,grow_grow];rfl⟩
open Go.Sort in
theorem qT(v:Value)(l:List Edg)(w:World)(h:Sl 90 2 Ir w v l)(hl:l.length<=4294967296):
  Calls Tryz.prog 91 #[v,.func (.func 34) #[] #[]] w λe w'=>e=.returned (.tuple #[])/\∃out,Sl 90 2 Ir w' v out/\out.Perm l/\
   out.Pairwise (λa b=>¬Cy b a<0)/\Tch v.ownBlock.toList w w':=by
 rcases h.shape with⟨rfl,rfl⟩|⟨g,cap,rfl,hc⟩
 ·refine(AnyF.slices_SortFunc_none Tryz.sortE none 0 _ w).mono ?_
  rintro e w' ⟨rfl,rfl⟩
  exact⟨rfl,[],h,Po _,List.Pairwise.nil,Tch.refl _ _⟩
 ·refine(AnyQ.slices_SortFunc Tryz.sortE 2 Tryz.isAgg90 Tryz.sizeOf90 Ir (λ_=>rfl) Qt Cy dX 34 #[] g 0 cap l.toArray w
   (enters_of Tryz.func34 (by kernel_rfl) rfl) (λm os dk hs x y=>O5 x y _) (h.holdsK MM (by decide)) (h.lt rfl) (by simp;omega)).mono ?_
  rintro e w' ⟨rfl,d,n,os,hp,hs,rfl⟩
  obtain⟨hp1,hp2,hp3⟩:=hp
  have hd:d.size=l.length:=by simpa using hp1
  obtain⟨hS,hT⟩:=h.sorted MM (by decide) d hd n os
  refine⟨rfl,d.toList,hS,?_,?_,hT⟩
  ·have e1:d.extract 0 l.toArray.size=d:=by rw[<-hp1];exact Ex
   have e2:l.toArray.extract 0 l.toArray.size=l.toArray:=Ex
   rw[e1,e2]at hp3
   exact hp3
  ·rw[AO]
   intro i j hi hj hij
   have hj':j<l.length:=by rw[<-hd];simpa using hj
   have hi':i<l.length:=by omega
   have:=hs i j (Am _) hij (by simpa using hj')
   rw[getElem!_pos d j (by omega),getElem!_pos d i (by omega)]at this
   simpa[ltOf]using this
theorem iK(l:List Edg)(hl:l.length<=4294967296):RP C1 91 90 2 (l.map dE) [.func (.func 34) [] []] (λ_ ds=>∃out:List Edg,ds=out.map dE/\out.Perm l/\out.Pairwise (λa b=>¬Cy b a<0)):=by
 intro O w v css us hs hb hO hr hk hg hus
 obtain⟨u,us',rfl,h1,h2⟩:=Cn hus
 obtain rfl:=Ds h2
 obtain⟨cs,r,rfl⟩:=h1
 simp only[RepC,Aq]at r
 obtain⟨_,_,rfl,rfl,rfl⟩:=r
 obtain rfl:=Qv hr
 refine⟨by kernel_rfl,(qT v l w (Qu.1 hs) hl).mono ?_⟩
 rintro e w' ⟨rfl,out,hs',hp,ho,ht⟩
 refine⟨.tuple #[],.tuple [],_,out.map Ir,rfl,⟨out,rfl,hp,ho⟩,Qu.2 hs',RA _ _ _,?_,⟨[.tuple #[]],by simp only[RepC,Aq];exact⟨[],rfl,rfl⟩,rfl⟩,ht⟩
 intro x hx
 obtain⟨e,_,rfl⟩:=An.1 hx
 exact⟨rfl,Qt e⟩
end Go.Proofs.YtjpmmkodoeipmaaGreatDoor
end
section
namespace Go.Sx
open Go Go.RowKit Go.Reg
theorem bT(a b:Nat)(ha:a<9223372036854775808)(hb:b<9223372036854775808):IntKind.i64.wrap ((BitVec.ofInt 64 (a:Int)&&&BitVec.ofInt 64 (b:Int)).toNat:Int)=((a&&&b:Nat):Int):=by
 have hx:a&&&b<2^63:=Nat.and_lt_two_pow _ (by omega)
 have h1:(BitVec.ofInt 64 (a:Int)).toNat=a:=by rw[FC,BitVec.toNat_ofNat];exact uF (by omega)
 have h2:(BitVec.ofInt 64 (b:Int)).toNat=b:=by rw[FC,BitVec.toNat_ofNat];exact uF (by omega)
 rw[BitVec.toNat_and,h1,h2,IntKind.wrap_i64]
 omega
theorem kD(a b:Nat)(ha:a<9223372036854775808)(hb:b<9223372036854775808):IntKind.i64.wrap ((BitVec.ofInt 64 (a:Int)|||BitVec.ofInt 64 (b:Int)).toNat:Int)=((a|||b:Nat):Int):=by
 have hx:a|||b<2^63:=Nat.or_lt_two_pow (by omega) (by omega)
 have h1:(BitVec.ofInt 64 (a:Int)).toNat=a:=by rw[FC,BitVec.toNat_ofNat];exact uF (by omega)
 have h2:(BitVec.ofInt 64 (b:Int)).toNat=b:=by rw[FC,BitVec.toNat_ofNat];exact uF (by omega)
 rw[BitVec.toNat_or,h1,h2,IntKind.wrap_i64]
 omega
section
variable {C:Cx} {fr:Fr} {σ:Sg}
theorem yA(a b z:Nat)(hz:a&&&b=z) {n kd:Nat} {o:Oper} {K:Fr->Sg->Prop} {t ty:Nat} {x y:Operand}(ho:o.op=.binOp .and t x y ty)(hx:ev C.Γ fr x=.d (.int .i64 (a:Int)))(hy:ev C.Γ fr y=.d (.int .i64 (b:Int)))(ha:a<9223372036854775808)(hb:b<9223372036854775808)(hkd:kd=3)(hd:Dh o.dst n=true)
  (hK:K (CF o.dst (.d (.int .i64 (z:Int))) fr) σ):Bm C n kd o K fr σ:=by
 subst hkd hz
 refine BQ (by decide) (by decide) hd λB S w0 η φ a' w hM=>?_
 have e1:=EZ (Eg (Bb hM x) hx)
 have e2:=EZ (Eg (Bb hM y) hy)
 refine .inr ⟨_,_,hK,?_,Fz _ _,λh=>by cases h⟩
 simp only[execOp,ho]
 rw[e1,e2]
 refine CZ ?_
 have:=bT a b ha hb
 rw[FC,FC]at this
 simp[eqGuard,binOp,Op.intBits]
 exact this
theorem AE7(a b z:Nat)(hz:a|||b=z) {n kd:Nat} {o:Oper} {K:Fr->Sg->Prop} {t ty:Nat} {x y:Operand}(ho:o.op=.binOp .or t x y ty)(hx:ev C.Γ fr x=.d (.int .i64 (a:Int)))(hy:ev C.Γ fr y=.d (.int .i64 (b:Int)))(ha:a<9223372036854775808)(hb:b<9223372036854775808)(hkd:kd=3)(hd:Dh o.dst n=true)
  (hK:K (CF o.dst (.d (.int .i64 (z:Int))) fr) σ):Bm C n kd o K fr σ:=by
 subst hkd hz
 refine BQ (by decide) (by decide) hd λB S w0 η φ a' w hM=>?_
 have e1:=EZ (Eg (Bb hM x) hx)
 have e2:=EZ (Eg (Bb hM y) hy)
 refine .inr ⟨_,_,hK,?_,Fz _ _,λh=>by cases h⟩
 simp only[execOp,ho]
 rw[e1,e2]
 refine CZ ?_
 have:=kD a b ha hb
 rw[FC,FC]at this
 simp[eqGuard,binOp,Op.intBits]
 exact this
theorem ADO(b:Nat) {n kd:Nat} {o:Oper} {K:Fr->Sg->Prop} {t ty:Nat} {x y:Operand} {yk:IntKind}(ho:o.op=.binOp .shl t x y ty)(hx:ev C.Γ fr x=.d (.int .i64 1))(hy:ev C.Γ fr y=.d (.int yk (b:Int)))(hb:b<=30)(hkd:kd=3)(hd:Dh o.dst n=true)
  (hK:K (CF o.dst (.d (.int .i64 ((2^b:Nat):Int))) fr) σ):Bm C n kd o K fr σ:=by
 subst hkd
 refine BQ (by decide) (by decide) hd λB S w0 η φ a' w hM=>?_
 have e1:=EZ (Eg (Bb hM x) hx)
 have e2:=EZ (Eg (Bb hM y) hy)
 refine .inr ⟨_,_,hK,?_,Fz _ _,λh=>by cases h⟩
 simp only[execOp,ho]
 rw[e1,e2]
 refine CZ ?_
 have h1:(2:Nat)^b<=2^30:=JZ (by decide) hb
 have h3:((2^b:Nat):Int)=(2:Int)^b:=by norm_cast
 have h2:IntKind.i64.wrap ((2:Int)^b)=(2:Int)^b:=by
  rw[<-h3]
  generalize (2:Nat)^b=q at h1
  exact QL ⟨by omega,by omega⟩
 simp[eqGuard,binOp,h2]
theorem mW(b m z:Nat)(hz:m/2^b=z) {n kd:Nat} {o:Oper} {K:Fr->Sg->Prop} {t ty:Nat} {x y:Operand} {k yk:IntKind}(ho:o.op=.binOp .shr t x y ty)(hx:ev C.Γ fr x=.d (.int k (m:Int)))(hy:ev C.Γ fr y=.d (.int yk (b:Int)))(hb:b<=8)(hkd:kd=3)(hd:Dh o.dst n=true)
  (hK:K (CF o.dst (.d (.int k (z:Int))) fr) σ):Bm C n kd o K fr σ:=by
 subst hz
 refine OA b ho hx hy hb hkd hd ?_
 have:(m:Int).fdiv (2^b)=((m/2^b:Nat):Int):=by
  rw[Int.fdiv_eq_ediv_of_nonneg _ (Int.pow_nonneg (by decide))]
  simp
 rw[this];exact hK
end
end Go.Sx
namespace Go.Gr
def DH(l:List Nat):Nat:=l.foldl (λs x=>s|||2^x) 0
theorem Nn(l:List Nat)(x:Nat):DH (l++[x])=DH l|||2^x:=by simp[DH]
theorem aT(l:List Nat)(k:Nat):(DH l).testBit k=decide (k∈l):=by
 suffices h:∀l:List Nat,(DH l.reverse).testBit k=decide (k∈l)by
  have:=h l.reverse
  rw[E0]at this
  rw[this];simp
 intro l
 induction l with
 |nil=>simp[DH]
 |
  cons x l ih=>
  rw[FK,Nn,Nat.testBit_or,ih,Nat.testBit_two_pow]
  by_cases h:x=k
  ·subst h;simp
  ·simp[h,Ne.symm h]
theorem nH(l:List Nat)(n:Nat)(h:∀x∈l,x<n):DH l<2^n:=by
 suffices hh:∀l:List Nat,(∀x∈l,x<n)->DH l.reverse<2^n by
  have:=hh l.reverse (by simpa using h)
  rwa [E0]at this
 intro l
 induction l with
 |nil=>intro _;simp[DH];exact Nat.pos_of_ne_zero (by simp)
 |
  cons x l ih=>
  intro h
  rw[FK,Nn]
  exact Nat.or_lt_two_pow (ih λy hy=>h y (by simp[hy])) (Nat.pow_lt_pow_right (by decide) (h x (by simp)))
theorem AAw(m k:Nat):(m/2^k)&&&1=if m.testBit k then 1 else 0:=by
 rw[Nat.and_one_is_mod,Nat.testBit_eq_decide_div_mod_eq]
 by_cases h:m/2^k % 2=1
 ·simp[h]
 ·simp[h];omega
end Go.Gr
end
section
namespace Go.Proofs.YtjpmmkodoeipmaaGreatDoor
open Go.Sx Go.RowKit Go.Reg Go.Gr
set_option maxRecDepth 100000
def Ln(p:List Int):Bool:=decide (p.length<=8)&&(decide (∀x∈p,0<=x/\x<p.length)&&decide p.Nodup)
set_option maxHeartbeats 4000000 in
theorem Us(p:List Int)(hm:p.length<=9000000000000000000):Pure C1 276 [Bn p] (λy=>y=.bool (Ln p)):=by
 have hdp:(p.map dI).length=p.length:=Ac _
 refine AW Tryz.func276 Tryz.ntmps276 [] [] ?_
 by_cases h8:8<p.length
 ·have:Ln p=false:=by unfold Ln;rw[decide_eq_false (by omega)];rfl
  rw[this]
  ((conv=>whnf);repeat' ((first|refine odw ?_|refine nx ?_|refine AD (λ_=>?_) (λ_=>?_))<;>conv=>whnf))
  exact rfl
 ·((conv=>whnf);repeat' ((first|refine odw ?_|refine nx ?_|refine AD (λ_=>?_) (λ_=>?_))<;>conv=>whnf))
  refine AR (ι:=Nat) (λi=>i<=p.length/\(∀x∈p.take i,0<=x/\x<(p.length:Int))/\(p.take i).Nodup) (λi=>[(11,.d (.int .i64 i)),(10,.d (.int .i64 (p.map dI).length)),(9,.d (Bn p)),(3,.d (.int .i64 (DH ((p.take i).map Int.toNat):Nat))),(0,.d (Bn p))]) (λ_=>[]) (λi=>p.length-i) 0 (λ_=>rfl) ⟨Am _,by simp,by simp⟩ (.refl _ _) ⟨rfl,rfl,rfl,rfl,rfl,trivial⟩ trivial ?_
  rintro i ⟨hi,hr,hn⟩
  refine Cd [] [] ?_
  by_cases hil:i<p.length
  ·have hx:=Ab hil
   have hxm:=Bc hil
   generalize p[i]=x at hx hxm
   have hxd:(p.map dI)[i]? =some (.int .i64 x):=by rw[Ad,hx];rfl
   have hno:¬(0<=x/\x<(p.length:Int))->Ln p=false:=λh=>by
    unfold Ln
    rw[decide_eq_false (p:=∀x∈p,0<=x/\x<(p.length:Int)) (λhh=>h (hh x hxm))]
    simp
   by_cases h0:x<0
   ·rw[hno (by omega)]
    (conv=>whnf)
    (repeat' ((first|refine Aj ?_ ?_|refine AP hxd rfl ?_|refine nx ?_|refine AD (λ_=>?_) (λ_=>?_)|exact AG)<;>conv=>whnf))
    exact rfl
   by_cases h1:(p.length:Int)<=x
   ·rw[hno (by omega)]
    (conv=>whnf)
    (repeat' ((first|refine Aj ?_ ?_|refine AP hxd rfl ?_|refine nx ?_|refine AD (λ_=>?_) (λ_=>?_)|exact AG)<;>conv=>whnf))
    exact rfl
   obtain⟨k,rfl⟩:=A6 (show 0<=x by omega)
   have hm8:DH ((p.take i).map Int.toNat)<2^8:=nH _ 8 (λy hy=>by
    obtain⟨z,hz,rfl⟩:=An.1 hy
    have:=hr z hz;omega)
   have hbt:(DH ((p.take i).map Int.toNat)).testBit k=decide ((k:Int)∈p.take i):=by
    rw[aT]
    congr 1
    simp only[An,eq_iff_iff]
    constructor
    ·rintro⟨z,hz,hzk⟩
     have:=hr z hz
     rw[show(k:Int)=z by omega];exact hz
    ·exactλh=>⟨k,h,AY k⟩
   have hba:=AAw (DH ((p.take i).map Int.toNat)) k
   have hsn:DH ((p.take (i+1)).map Int.toNat)=DH ((p.take i).map Int.toNat)|||2^k:=by
    rw[Ay,hx,AU,A7,Ar,Bu,AY,Nn]
   have hdv:DH ((p.take i).map Int.toNat)/2^k<=DH ((p.take i).map Int.toNat):=Nat.div_le_self _ _
   have hpk:(2:Nat)^k<=2^8:=JZ (by decide) (by omega)
   generalize hM:DH ((p.take i).map Int.toNat)=M at*
   generalize hD:M/2^k=D at*
   obtain⟨Z,hZ⟩:∃Z,M|||2^k=Z:=⟨_,rfl⟩
   rw[hZ]at hsn
   by_cases hc:(k:Int)∈p.take i
   ·rw[hbt,decide_eq_true hc,if_pos rfl]at hba
    have hf:Ln p=false:=by
     unfold Ln
     rw[decide_eq_false (p:=p.Nodup) (λhh=>?_)]
     ·simp
     ·obtain⟨j,hj,hjk⟩:=Bd.1 hc
      have hj2:j<p.length:=by omega
      have:=(FL hj2 hh).1 ((Ab hj2).trans ((congrArg some hjk).trans hx.symm))
      omega
    rw[hf]
    (conv=>whnf)
    (repeat' ((first|refine Aj ?_ ?_|refine AP hxd rfl ?_|refine mW k M D hD rfl rfl rfl (by omega) rfl rfl ?_|refine yA D 1 1 hba rfl rfl rfl (by omega) (by omega) rfl rfl ?_|refine nx ?_|refine AD (λ_=>?_) (λ_=>?_)|exact AG)<;>conv=>whnf))
    exact rfl
   ·rw[hbt,decide_eq_false hc,if_neg (by decide)]at hba
    (conv=>whnf)
    (repeat' ((first|refine Aj ?_ ?_|refine AP hxd rfl ?_|refine mW k M D hD rfl rfl rfl (by omega) rfl rfl ?_|refine yA D 1 0 hba rfl rfl rfl (by omega) (by omega) rfl rfl ?_|refine ADO k rfl rfl rfl (by omega) rfl rfl ?_|refine AE7 M (2^k) Z hZ rfl rfl rfl (by omega) (by omega) rfl rfl ?_|refine nx ?_|refine AD (λ_=>?_) (λ_=>?_)|exact AG)<;>conv=>whnf))
    refine⟨i+1,_,_,⟨by omega,?_,?_⟩,.refl _ _,⟨rfl,rfl,rfl,by rw[hsn];rfl,rfl,trivial⟩,trivial,by omega⟩
    ·intro y hy
     rw[Ay,hx,AU]at hy
     rcases Ag.1 hy with hy|hy
     ·exact hr y hy
     ·simp at hy;subst hy;omega
    ·rw[Ay,hx,AU]
     exact Dm.2 ⟨hn,by simp,λa ha b hb e=>by simp at hb;subst hb;subst e;exact hc ha⟩
  ·have e:p.take i=p:=Al (by omega)
   rw[e]at hr hn
   have:Ln p=true:=by
    unfold Ln
    rw[decide_eq_true (show p.length<=8 by omega),decide_eq_true hr,decide_eq_true hn];rfl
   rw[this]
   ((conv=>whnf);repeat' ((first|refine odw ?_|refine nx ?_|refine AD (λ_=>?_) (λ_=>?_))<;>conv=>whnf))
   exact rfl
end Go.Proofs.YtjpmmkodoeipmaaGreatDoor
end
section
namespace Go.Proofs.YtjpmmkodoeipmaaGreatDoor
open Go.Sx Go.RowKit Go.Reg Go.Gr
set_option maxRecDepth 100000
def qW:ByteArray:=⟨#[111,114,100,101,114]⟩
def Lf(p l:List Int)(i:Nat):List Int:=((p.zip l).take i).foldl (λout z=>out.set z.1.toNat z.2) (List.replicate l.length 0)
theorem Kq(p l:List Int)(i:Nat):(Lf p l i).length=l.length:=by
 unfold Lf
 suffices h:∀(zs:List (Int×Int)) (out:List Int),(zs.foldl (λout z=>out.set z.1.toNat z.2) out).length=out.length by
  rw[h,B8]
 intro zs
 induction zs with
 |nil=>intro out;rfl
 |cons z zs ih=>intro out;rw[AAX,ih,Di]
theorem Wp {p l:List Int} {i:Nat} {x y:Int}(hx:p[i]? =some x)(hy:l[i]? =some y):Lf p l (i+1)=(Lf p l i).set x.toNat y:=by
 unfold Lf
 have hz:(p.zip l)[i]? =some (x,y):=by rw[List.getElem?_zip_eq_some];exact⟨hx,hy⟩
 rw[Ay,hz,AU,EF]
 rfl
def uM(p l:List Int):Da:=if Ln p=false then dF 1 0 qW else if p.length=l.length then .nili else dF 1 1 qW
def AEr:List FuncId:=[20]
theorem Tk(a:Int):Pure C1 277 [.int .i64 a] (λy=>y=dF 1 a qW):=by
 refine AW Tryz.func277 Tryz.ntmps277 AEr [] ?_
 (conv=>whnf)
 (repeat' ((first|refine Aj ?_ ?_|refine Af rfl (CG 1 a qW) ?_|refine nx ?_|refine AD (λ_=>?_) (λ_=>?_)|exact AG)<;>conv=>whnf))
 exact rfl
def AFh:List FuncId:=[277,276]
theorem oU(p l:List Int)(hm:p.length<=9000000000000000000):Pure C1 249 [Bn p,Bn l] (λy=>y=uM p l):=by
 have hdp:(p.map dI).length=p.length:=Ac _
 have hdl:(l.map dI).length=l.length:=Ac _
 have hr:=Us p hm
 unfold uM
 refine AW Tryz.func249 Tryz.ntmps249 AFh [] ?_
 cases h:Ln p with
 |
  false=>
  rw[h]at hr
  rw[if_pos rfl]
  (conv=>whnf)
  (repeat' ((first|refine Aj ?_ ?_|refine Af rfl hr ?_|refine Af rfl (Tk 0) ?_|refine nx ?_|refine AD (λ_=>?_) (λ_=>?_)|exact AG)<;>conv=>whnf))
  exact rfl
 |
  true=>
  rw[h]at hr
  rw[if_neg (by decide)]
  by_cases hl:p.length=l.length
  ·rw[if_pos hl]
   (conv=>whnf)
   (repeat' ((first|refine Aj ?_ ?_|refine Af rfl hr ?_|refine nx ?_|refine AD (λ_=>?_) (λ_=>?_)|exact AG)<;>conv=>whnf))
   exact rfl
  ·rw[if_neg hl]
   (conv=>whnf)
   (repeat' ((first|refine Aj ?_ ?_|refine Af rfl hr ?_|refine Af rfl (Tk 1) ?_|refine nx ?_|refine AD (λ_=>?_) (λ_=>?_)|exact AG)<;>conv=>whnf))
   exact rfl
def qK(p l:List Int):Da:=if Ln p=false then .tuple [.nils,dF 1 0 qW]else if p.length=l.length then .tuple [Bn (Lf p l p.length),.nili]else .tuple [.nils,dF 1 1 qW]
def ADm:List FuncId:=[249]
set_option maxHeartbeats 4000000 in
theorem PO(p l:List Int)(hm:p.length<=9000000000000000000):Pure C1 182 [Bn p,Bn l] (λy=>y=qK p l):=by
 have hdp:(p.map dI).length=p.length:=Ac _
 have hdl:(l.map dI).length=l.length:=Ac _
 have hw:=oU p l hm
 unfold qK
 unfold uM at hw
 refine AW Tryz.func182 Tryz.ntmps182 ADm [] ?_
 cases h:Ln p with
 |
  false=>
  rw[h,if_pos rfl]at hw
  rw[if_pos rfl]
  (conv=>whnf)
  (repeat' ((first|refine Aj ?_ ?_|refine Af rfl hw ?_|refine nx ?_|refine AD (λ_=>?_) (λ_=>?_)|exact AG)<;>conv=>whnf))
  exact rfl
 |
  true=>
  rw[h,if_neg (by decide)]at hw
  rw[if_neg (by decide)]
  by_cases hl:p.length=l.length
  ·rw[if_pos hl]at hw⊢
   have h2:=h
   unfold Ln at h2
   simp only[Ap,decide_eq_true_eq]at h2
   obtain⟨h8,hr,hn⟩:=h2
   (conv=>whnf)
   (repeat' ((first|refine Aj ?_ ?_|refine Af rfl hw ?_|refine Mz l.length (by omega) (by omega) (by omega) ?_|refine nx ?_|refine AD (λ_=>?_) (λ_=>?_)|exact AG)<;>conv=>whnf))
   refine AR (ι:=Nat) (λi=>i<=p.length) (λi=>[(21,.d (.int .i64 i)),(20,.d (.int .i64 (p.map dI).length)),(19,.d (Bn p)),(7,.own 18),(1,.d (Bn l))]) (λi=>[(18,.slice 3 1 ((Lf p l i).map dI))]) (λi=>p.length-i) 0 (λ_=>rfl) (Am _) (.refl _ _) ⟨rfl,rfl,rfl,rfl,rfl,trivial⟩ ⟨Bk (by simp[Lf,dI]),trivial⟩ ?_
   intro i hi
   refine Cd ADm [] ?_
   by_cases hil:i<p.length
   ·have hx:=Ab hil
    have hxm:=hr _ (Bc hil)
    generalize p[i]=x at hx hxm
    have hy:=Ab (l:=l) (i:=i) (by omega)
    generalize l[i]'(by omega)=y at hy
    obtain⟨k,rfl⟩:=A6 hxm.1
    have hxd:(p.map dI)[i]? =some (.int .i64 k):=by rw[Ad,hx];rfl
    have hyd:(l.map dI)[i]? =some (.int .i64 y):=by rw[Ad,hy];rfl
    have hpl:((Lf p l i).map dI).length=l.length:=by rw[Ac,Kq]
    have hst:=Wp hx hy
    have hk:k<(Lf p l i).length:=by rw[Kq];omega
    obtain⟨u,hu⟩:∃u,(Lf p l i)[k]? =some u:=⟨_,Ab hk⟩
    have hud:((Lf p l i).map dI)[k]? =some (.int .i64 u):=by rw[Ad,hu];rfl
    (conv=>whnf)
    (repeat' ((first|refine Aj ?_ ?_|refine AP hxd rfl ?_|refine AP hyd rfl ?_|refine Hd (i:=k) rfl (by omega) ?_|refine Hc hud ?_|refine nx ?_|refine AD (λ_=>?_) (λ_=>?_)|exact AG)<;>conv=>whnf))
    refine⟨i+1,_,_,by omega,.refl _ _,⟨rfl,rfl,rfl,rfl,rfl,trivial⟩,⟨Bk ?_,trivial⟩,by omega⟩
    rw[hst,Dz]
    simp[dI]
   ·have e:i=p.length:=by omega
    subst e
    ((conv=>whnf);repeat' ((first|refine odw ?_|refine nx ?_|refine AD (λ_=>?_) (λ_=>?_))<;>conv=>whnf))
    exact rfl
  ·rw[if_neg hl]at hw⊢
   (conv=>whnf)
   (repeat' ((first|refine Aj ?_ ?_|refine Af rfl hw ?_|refine nx ?_|refine AD (λ_=>?_) (λ_=>?_)|exact AG)<;>conv=>whnf))
   exact rfl
end Go.Proofs.YtjpmmkodoeipmaaGreatDoor
end
section
namespace Go.Gr
def Jn(E:List Edg)(e:Edg):Nat:=E.countP (λx=>decide (Cy x e<0))
def LK(E:List Edg)(x:Edg):List Edg:=E.take (Jn E x)++x::E.drop (Jn E x)
def KM(E:List Edg)(i:Nat):List Edg:=((E.take i).map turn).foldl LK []
theorem rV {E:List Edg}(h:CB E)(x:Edg):(∀y∈E.take (Jn E x),Cy y x<0)/\∀y∈E.drop (Jn E x),¬Cy y x<0:=by
 induction E with
 |nil=>simp
 |
  cons z E ih=>
  obtain⟨h1,h2⟩:=BZ.1 h
  by_cases hz:Cy z x<0
  ·have e:Jn (z::E) x=Jn E x+1:=by unfold Jn;rw[List.countP_cons_of_pos (by simp[hz])]
   rw[e,List.take_succ_cons,List.drop_succ_cons]
   obtain⟨i1,i2⟩:=ih h2
   refine⟨λy hy=>?_,i2⟩
   rcases Ai.1 hy with rfl|hy
   ·exact hz
   ·exact i1 y hy
  ·have hall:∀y∈z::E,¬Cy y x<0:=by
    intro y hy
    rcases Ai.1 hy with rfl|hy
    ·exact hz
    ·exactλhc=>hz (GV (h1 y hy) hc)
   have e:Jn (z::E) x=0:=by
    unfold Jn
    exact List.countP_eq_zero.2 λy hy=>by have:=hall y hy;simpa using this
   rw[e]
   exact⟨by simp,hall⟩
theorem WV(E:List Edg)(x:Edg):(LK E x).Perm (x::E):=by
 unfold LK
 refine List.perm_middle.trans ?_
 rw[Cf]
theorem bM {E:List Edg}(h:CB E) {x:Edg}(hx:x∉E):CB (LK E x):=by
 obtain⟨h1,h2⟩:=rV h x
 unfold LK
 have hg:∀y∈E.drop (Jn E x),Cy x y<0:=λy hy=>by
  rcases Q2 x y with h3|h3|h3
  ·exact h3
  ·subst h3;exact absurd (SL hy) hx
  ·exact absurd h3 (h2 y hy)
 refine Dr.2 ⟨ACF (fK _ _) h,BZ.2 ⟨hg,ACF (List.drop_sublist _ _) h⟩,λa ha b hb=>?_⟩
 rcases Ai.1 hb with rfl|hb
 ·exact h1 a ha
 ·exact GV (h1 a ha) (hg b hb)
theorem MG(L:List Edg)(hn:L.Nodup):∀E,CB E->(∀x∈L,x∉E)->CB (L.foldl LK E)/\(L.foldl LK E).Perm (L++E):=by
 induction L with
 |nil=>intro E h _;exact⟨h,Po _⟩
 |
  cons x L ih=>
  intro E h hx
  obtain⟨n1,n2⟩:=Cs.1 hn
  have hs:=bM h (hx x (by simp))
  obtain⟨i1,i2⟩:=ih n2 (LK E x) hs (λy hy hm=>by
   have:=(WV E x).mem_iff.1 hm
   rcases Ai.1 this with rfl|h3
   ·exact n1 hy
   ·exact hx y (by simp[hy]) h3)
  refine⟨i1,i2.trans ?_⟩
  refine(List.Perm.append_left L (WV E x)).trans ?_
  exact List.perm_middle
theorem ACA {E:List Edg}(hn:(E.map turn).Nodup)(i:Nat):CB (KM E i)/\(KM E i).Perm ((E.take i).map turn):=by
 have hn':((E.take i).map turn).Nodup:=by rw[Gn];exact hn.sublist (fK _ _)
 have:=MG _ hn' [] List.Pairwise.nil (by simp)
 rwa [Cg]at this
theorem uD {E:List Edg} {i:Nat} {x:Edg}(h:E[i]? =some x):KM E (i+1)=LK (KM E i) (turn x):=by
 unfold KM
 rw[Ay,h]
 simp
end Go.Gr
end
section
namespace Go.Gr
def U7(b:List Int)(e:Edg):Edg:=turn ⟨(b[e.a.toNat]?).getD 0,(b[e.b.toNat]?).getD 0⟩
theorem BJ {p:Pt}(h:Dp p=none):M6 p.labels=none/\(∀e∈p.edges,0<=e.a/\e.a<e.b/\e.b<p.labels.length)/\CB p.edges:=by
 unfold Dp at h
 cases hl:M6 p.labels with
 |some x=>rw[hl]at h;cases h
 |
  none=>
  rw[hl]at h
  obtain⟨h1,h2⟩:=sV h
  refine⟨rfl,h1,?_⟩
  unfold CB
  rw[AO]
  intro i j hi hj hij
  obtain⟨d,rfl⟩:∃d,j=i+1+d:=⟨j- (i+1),by omega⟩
  induction d with
  |zero=>exact h2 i _ _ (Ab hi) (Ab hj)
  |
   succ d ih=>
   have hj':i+1+d<p.edges.length:=by omega
   exact GV (ih hj' (by omega)) (h2 (i+1+d) _ _ (Ab hj') (Ab hj))
end Go.Gr
namespace Go.Proofs.YtjpmmkodoeipmaaGreatDoor
open Go.Sx Go.RowKit Go.Reg Go.Gr
set_option maxRecDepth 100000
def Bl(p:Pt)(b:List Int):Pt:=⟨Lf b p.labels b.length,(p.edges.map (U7 b)).foldl LK []⟩
theorem xU {b:List Int}(h:Ln b=true):b.length<=8/\(∀x∈b,0<=x/\x<b.length)/\b.Nodup:=by
 unfold Ln at h
 simp only[Ap,decide_eq_true_eq]at h
 exact⟨h.1,h.2.1,h.2.2⟩
theorem yK {b:List Int} {e:Edg}(h:0<=e.a/\e.a<e.b/\e.b<b.length):∃u v:Int,b[e.a.toNat]? =some u/\b[e.b.toNat]? =some v/\U7 b e=turn ⟨u,v⟩:=by
 have h1:e.a.toNat<b.length:=by omega
 have h2:e.b.toNat<b.length:=by omega
 exact⟨_,_,Ab h1,Ab h2,by unfold U7;rw[Ab h1,Ab h2];rfl⟩
theorem U6 {b:List Int}(hb:b.Nodup) {E:List Edg}(hE:∀e∈E,0<=e.a/\e.a<e.b/\e.b<b.length)(hn:E.Nodup):(E.map (U7 b)).Nodup:=by
 refine B7.2 (Er ?_ hn)
 intro x y hx hy hxy h
 refine hxy ?_
 obtain⟨u,v,h1,h2,h3⟩:=yK (hE x hx)
 obtain⟨u2,v2,k1,k2,k3⟩:=yK (hE y hy)
 rw[h3,k3]at h
 have hxe:=hE x hx
 have hye:=hE y hy
 have hcase:(u=u2/\v=v2)\/(u=v2/\v=u2):=by unfold turn at h;simp only[Edg.mk.injEq]at h;omega
 rcases hcase with⟨rfl,rfl⟩|⟨rfl,rfl⟩
 ·have e1:=(FL (by omega) hb).1 (h1.trans k1.symm)
  have e2:=(FL (by omega) hb).1 (h2.trans k2.symm)
  cases x;cases y;simp only[Edg.mk.injEq]at*;omega
 ·have e1:=(FL (by omega) hb).1 (h1.trans k2.symm)
  have e2:=(FL (by omega) hb).1 (h2.trans k1.symm)
  omega
theorem VT(e:Edg):turn (turn e)=turn e:=by unfold turn;simp only[Edg.mk.injEq];omega
theorem ABF {b:List Int} {E:List Edg}(hn:(E.map (U7 b)).Nodup) {out:List Edg}(hp:out.Perm (E.map (U7 b)))(ho:out.Pairwise (λa c=>¬Cy c a<0)):out=(E.map (U7 b)).foldl LK []:=by
 obtain⟨h1,h2⟩:=MG _ hn [] List.Pairwise.nil (by simp)
 rw[Cg]at h2
 exact Ki (hp.trans h2.symm) (Kh (hp.nodup_iff.2 hn) ho) h1
def xB:List (Nat×Plan):=[(11,.leaf [0,1,0,0,1,0,1,0,0,1,0,1,0,2,6,3,0,3] [0,2,3,7,8,1,4,5,6,9,10,11,12,13,14,15,16,17] [0,1,0,0,8,28,60,0,0,256,896,1920,4092,8188,16380,32767,65535,131071])]
def ADl:List FuncId:=[113,182,221]
set_option maxHeartbeats 4000000 in
theorem Um(p:Pt)(hp:Dp p=none)(hE:p.edges.length<=1000)(b:List Int)(hb:Ln b=true)(hbl:b.length=p.labels.length):
  Pure C1 226 [FE p,Bn b] (λy=>y=.tuple [FE (Bl p b),.nili]):=by
 have hdl:(p.labels.map dI).length=p.labels.length:=Ac _
 have hde:(p.edges.map dE).length=p.edges.length:=Ac _
 have hdb:(b.map dI).length=b.length:=Ac _
 obtain⟨hl,he,hs⟩:=BJ hp
 obtain⟨h8,hbr,hbn⟩:=xU hb
 have hri:=EM p (by omega) (by omega)
 rw[Fq hp]at hri
 have hpu:=PO b p.labels (by omega)
 have epu:qK b p.labels=.tuple [Bn (Lf b p.labels b.length),.nili]:=by unfold qK;rw[hb,if_neg (by decide),if_pos hbl]
 rw[epu]at hpu
 refine AW Tryz.func226 Tryz.ntmps226 ADl xB ?_
 (conv=>whnf)
 (repeat' ((first|refine Aj ?_ ?_|refine Af rfl hri ?_|refine Af rfl hpu ?_|refine nx ?_|refine AD (λ_=>?_) (λ_=>?_)|exact AG)<;>conv=>whnf))
 refine AR (ι:=Nat) (λi=>i<=p.edges.length) (λi=>[(35,.d (.int .i64 i)),(34,.d (.int .i64 (p.edges.map dE).length)),(33,.d (Fa p.edges)),(9,.own 9),(4,.own 4),(2,.own 2),(1,.d (Bn b))]) (λi=>[(2,.cells 54 [.d (Bn p.labels),.d (Fa p.edges)]),(4,.cells 54 [.d .nils,.d .nils]),(9,.cells 54 [.d (Bn (Lf b p.labels b.length)),.own 300]),(300,.slice 90 2 (((p.edges.take i).map (U7 b)).map dE))]) (λi=>p.edges.length-i) 0 (λ_=>rfl) (Am _) (.ownc 9 300 90 2 rfl rfl (.there _ (.here _)) (.refl _ _)) ⟨rfl,rfl,rfl,rfl,rfl,rfl,rfl,trivial⟩ ⟨rfl,rfl,rfl,rfl,trivial⟩ ?_
 intro i hi
 refine Cd ADl xB ?_
 by_cases hil:i<p.edges.length
 ·have hx:=Ab hil
  have hxr:=he _ (Bc hil)
  generalize p.edges[i]=x at hx hxr
  have hxd:(p.edges.map dE)[i]? =some (.agg [.int .i64 x.a,.int .i64 x.b]):=by rw[Ad,hx];rfl
  obtain⟨u,v,hu,hv,hmv⟩:=yK (b:=b) (e:=x) (by rw[hbl];exact hxr)
  obtain⟨xa,xb⟩:=x
  obtain⟨ka,rfl⟩:=A6 hxr.1
  obtain⟨kb,rfl⟩:=A6 (show 0<=xb by have h1:=hxr.1;have h2:=hxr.2.1;simp only at h1 h2;omega)
  have hud:(b.map dI)[ka]? =some (.int .i64 u):=by rw[Ad,show b[ka]? =some u from hu];rfl
  have hvd:(b.map dI)[kb]? =some (.int .i64 v):=by rw[Ad,show b[kb]? =some v from hv];rfl
  have htu:=Lg ⟨u,v⟩
  rw[<-hmv]at htu
  have hll:(p.edges.take i).length=i:=by rw[AA];omega
  (conv=>whnf)
  (repeat' ((first|refine Aj ?_ ?_|refine AP hxd rfl ?_|refine AP hud rfl ?_|refine AP hvd rfl ?_|refine Af rfl htu ?_|refine nx ?_|refine AD (λ_=>?_) (λ_=>?_)|exact AG)<;>conv=>whnf))
  refine⟨i+1,_,_,by omega,.refl _ _,⟨rfl,rfl,rfl,rfl,rfl,rfl,rfl,trivial⟩,⟨rfl,rfl,rfl,Bk ?_,trivial⟩,by omega⟩
  rw[Ay,hx];simp
 ·have e:p.edges.take i=p.edges:=Al (by omega)
  rw[e]
  have hmn:=U6 hbn (E:=p.edges) (λe h=>by rw[hbl];exact he e h) hs.nodup
  ((conv=>whnf);repeat' ((first|refine odw ?_|refine nx ?_|refine AD (λ_=>?_) (λ_=>?_))<;>conv=>whnf))
  refine MR (i:=300) rfl rfl (iK (p.edges.map (U7 b)) (by rw[Ac];omega)) ?_
  rintro y ds ⟨out,rfl,hpo,hoo⟩
  rw[ABF hmn hpo hoo]
  ((conv=>whnf);repeat' ((first|refine odw ?_|refine nx ?_|refine AD (λ_=>?_) (λ_=>?_))<;>conv=>whnf))
  exact rfl
end Go.Proofs.YtjpmmkodoeipmaaGreatDoor
end
section
namespace Go.Gr
def Ef {α:Type}(f:α->α->Int):List α->List α->Int
 |[],[]=>0
 |[],_::_=>-1
 |_::_,[]=>1
 |x::a,y::b=>if f x y=0 then Ef f a b else f x y
theorem Dt {α:Type}(f:α->α->Int)(x y:α)(a b:List α):Ef f (x::a) (y::b)=if f x y=0 then Ef f a b else f x y:=rfl
def O9:List Int->Int
 |[]=>0
 |x::l=>if x=0 then O9 l else x
def Dw(p q:Pt):Int:=O9 [Db p.labels.length q.labels.length,Ef Db p.labels q.labels,Db p.edges.length q.edges.length,Ef Cy p.edges q.edges]
end Go.Gr
namespace Go.Proofs.YtjpmmkodoeipmaaGreatDoor
open Go.Sx Go.RowKit Go.Reg Go.Gr
set_option maxRecDepth 100000
def ADe:List FuncId:=[31]
set_option maxHeartbeats 4000000 in
theorem TJ(a b:List Int)(hm:a.length<=9000000000000000000)(_hm2:b.length<=9000000000000000000):Pure C1 32 [Bn a,Bn b] (λy=>y=.int .i64 (Ef Db a b)):=by
 have hda:(a.map dI).length=a.length:=Ac _
 have hdb:(b.map dI).length=b.length:=Ac _
 refine AW Tryz.func32 Tryz.ntmps32 ADe [] ?_
 ((conv=>whnf);repeat' ((first|refine odw ?_|refine nx ?_|refine AD (λ_=>?_) (λ_=>?_))<;>conv=>whnf))
 refine AR (ι:=Nat) (λi=>(i<=a.length/\i<=b.length)/\Ef Db (a.drop i) (b.drop i)=Ef Db a b) (λi=>[(11,.d (.int .i64 i)),(10,.d (.int .i64 (a.map dI).length)),(9,.d (Bn a)),(1,.d (Bn b)),(0,.d (Bn a))]) (λ_=>[]) (λi=>a.length-i) 0 (λ_=>rfl) ⟨⟨Am _,Am _⟩,rfl⟩ (.refl _ _) ⟨rfl,rfl,rfl,rfl,rfl,trivial⟩ trivial ?_
 rintro i ⟨⟨hi,hi2⟩,hc⟩
 rw[<-hc]
 refine Cd ADe [] ?_
 by_cases hil:i<a.length
 ·have hx:=Ab hil
  rw[BR hil]at hc⊢
  generalize a[i]=x at hx hc
  have hxd:(a.map dI)[i]? =some (.int .i64 x):=by rw[Ad,hx];rfl
  by_cases hib:i<b.length
  ·have hy:=Ab hib
   rw[BR hib]at hc⊢
   generalize b[i]=y at hy hc
   have hyd:(b.map dI)[i]? =some (.int .i64 y):=by rw[Ad,hy];rfl
   have hcp:=F4 x y
   rw[Dt]at hc⊢
   by_cases h0:Db x y=0
   ·rw[if_pos h0]at hc⊢
    rw[h0]at hcp
    (conv=>whnf)
    (repeat' ((first|refine Aj ?_ ?_|refine AP hxd rfl ?_|refine AP hyd rfl ?_|refine Af rfl hcp ?_|refine nx ?_|refine AD (λ_=>?_) (λ_=>?_)|exact AG)<;>conv=>whnf))
    exact⟨i+1,_,_,⟨⟨by omega,by omega⟩,rfl⟩,.refl _ _,⟨rfl,rfl,rfl,rfl,rfl,trivial⟩,trivial,by omega⟩
   ·rw[if_neg h0]
    generalize Db x y=z at hcp h0
    (conv=>whnf)
    (repeat' ((first|refine Aj ?_ ?_|refine AP hxd rfl ?_|refine AP hyd rfl ?_|refine Af rfl hcp ?_|refine nx ?_|refine AD (λ_=>?_) (λ_=>?_)|exact AG)<;>conv=>whnf))
    exact rfl
  ·have hbe:b.drop i=[]:=C0 (by omega)
   rw[hbe]
   unfold Ef
   (conv=>whnf)
   (repeat' ((first|refine Aj ?_ ?_|refine AP hxd rfl ?_|refine nx ?_|refine AD (λ_=>?_) (λ_=>?_)|exact AG)<;>conv=>whnf))
   exact rfl
 ·have hae:a.drop i=[]:=C0 (by omega)
  rw[hae]
  by_cases hib:i<b.length
  ·rw[BR hib]
   unfold Ef
   have hlt:a.length<b.length:=by omega
   ((conv=>whnf);repeat' ((first|refine odw ?_|refine nx ?_|refine AD (λ_=>?_) (λ_=>?_))<;>conv=>whnf))
   exact rfl
  ·have hbe:b.drop i=[]:=C0 (by omega)
   rw[hbe]
   unfold Ef
   have hlt:¬a.length<b.length:=by omega
   ((conv=>whnf);repeat' ((first|refine odw ?_|refine nx ?_|refine AD (λ_=>?_) (λ_=>?_))<;>conv=>whnf))
   exact rfl
set_option maxHeartbeats 4000000 in
theorem SE(a b:List Edg)(hm:a.length<=9000000000000000000)(_hm2:b.length<=9000000000000000000):Pure C1 33 [Fa a,Fa b,.func (.func 34) [] []] (λy=>y=.int .i64 (Ef Cy a b)):=by
 have hda:(a.map dE).length=a.length:=Ac _
 have hdb:(b.map dE).length=b.length:=Ac _
 refine AW Tryz.func33 Tryz.ntmps33 [] [] ?_
 ((conv=>whnf);repeat' ((first|refine odw ?_|refine nx ?_|refine AD (λ_=>?_) (λ_=>?_))<;>conv=>whnf))
 refine AR (ι:=Nat) (λi=>(i<=a.length/\i<=b.length)/\Ef Cy (a.drop i) (b.drop i)=Ef Cy a b) (λi=>[(13,.d (.int .i64 i)),(12,.d (.int .i64 (a.map dE).length)),(11,.d (Fa a)),(2,.d (.func (.func 34) [] [])),(1,.d (Fa b)),(0,.d (Fa a))]) (λ_=>[]) (λi=>a.length-i) 0 (λ_=>rfl) ⟨⟨Am _,Am _⟩,rfl⟩ (.refl _ _) ⟨rfl,rfl,rfl,rfl,rfl,rfl,trivial⟩ trivial ?_
 rintro i ⟨⟨hi,hi2⟩,hc⟩
 rw[<-hc]
 refine Cd [] [] ?_
 by_cases hil:i<a.length
 ·have hx:=Ab hil
  rw[BR hil]at hc⊢
  generalize a[i]=x at hx hc
  have hxd:(a.map dE)[i]? =some (.agg [.int .i64 x.a,.int .i64 x.b]):=by rw[Ad,hx];rfl
  by_cases hib:i<b.length
  ·have hy:=Ab hib
   rw[BR hib]at hc⊢
   generalize b[i]=y at hy hc
   have hyd:(b.map dE)[i]? =some (.agg [.int .i64 y.a,.int .i64 y.b]):=by rw[Ad,hy];rfl
   have hcp:=Mn x y
   rw[Dt]at hc⊢
   by_cases h0:Cy x y=0
   ·rw[if_pos h0]at hc⊢
    rw[h0]at hcp
    (conv=>whnf)
    (repeat' ((first|refine Aj ?_ ?_|refine AP hxd rfl ?_|refine AP hyd rfl ?_|refine Af rfl hcp ?_|refine Br tab rfl hcp rfl ?_|refine nx ?_|refine AD (λ_=>?_) (λ_=>?_)|exact AG)<;>conv=>whnf))
    exact⟨i+1,_,_,⟨⟨by omega,by omega⟩,rfl⟩,.refl _ _,⟨rfl,rfl,rfl,rfl,rfl,rfl,trivial⟩,trivial,by omega⟩
   ·rw[if_neg h0]
    generalize Cy x y=z at hcp h0
    (conv=>whnf)
    (repeat' ((first|refine Aj ?_ ?_|refine AP hxd rfl ?_|refine AP hyd rfl ?_|refine Af rfl hcp ?_|refine Br tab rfl hcp rfl ?_|refine nx ?_|refine AD (λ_=>?_) (λ_=>?_)|exact AG)<;>conv=>whnf))
    exact rfl
  ·have hbe:b.drop i=[]:=C0 (by omega)
   rw[hbe]
   unfold Ef
   (conv=>whnf)
   (repeat' ((first|refine Aj ?_ ?_|refine AP hxd rfl ?_|refine nx ?_|refine AD (λ_=>?_) (λ_=>?_)|exact AG)<;>conv=>whnf))
   exact rfl
 ·have hae:a.drop i=[]:=C0 (by omega)
  rw[hae]
  by_cases hib:i<b.length
  ·rw[BR hib]
   unfold Ef
   have hlt:a.length<b.length:=by omega
   ((conv=>whnf);repeat' ((first|refine odw ?_|refine nx ?_|refine AD (λ_=>?_) (λ_=>?_))<;>conv=>whnf))
   exact rfl
  ·have hbe:b.drop i=[]:=C0 (by omega)
   rw[hbe]
   unfold Ef
   have hlt:¬a.length<b.length:=by omega
   ((conv=>whnf);repeat' ((first|refine odw ?_|refine nx ?_|refine AD (λ_=>?_) (λ_=>?_))<;>conv=>whnf))
   exact rfl
theorem xW(x:Int)(l:List Int):O9 (x::l)=if x=0 then O9 l else x:=rfl
theorem xS(l:List Int)(hm:l.length<=100):Pure C1 30 [Bn l] (λy=>y=.int .i64 (O9 l)):=by
 have hdl:(l.map dI).length=l.length:=Ac _
 refine AW Tryz.func30 Tryz.ntmps30 [] [] ?_
 ((conv=>whnf);repeat' ((first|refine odw ?_|refine nx ?_|refine AD (λ_=>?_) (λ_=>?_))<;>conv=>whnf))
 refine AR (ι:=Nat) (λi=>i<=l.length/\O9 (l.drop i)=O9 l) (λi=>[(8,.d (.int .i64 i)),(7,.d (.int .i64 (l.map dI).length)),(6,.d (Bn l)),(3,.d (.int .i64 0))]) (λ_=>[]) (λi=>l.length-i) 0 (λ_=>rfl) ⟨Am _,rfl⟩ (.refl _ _) ⟨rfl,rfl,rfl,rfl,trivial⟩ trivial ?_
 rintro i ⟨hi,hc⟩
 rw[<-hc]
 refine Cd [] [] ?_
 by_cases hil:i<l.length
 ·have hx:=Ab hil
  rw[BR hil,xW]
  generalize l[i]=x at hx
  have hxd:(l.map dI)[i]? =some (.int .i64 x):=by rw[Ad,hx];rfl
  by_cases h0:x=0
  ·rw[if_pos h0]
   (conv=>whnf)
   (repeat' ((first|refine Aj ?_ ?_|refine AP hxd rfl ?_|refine nx ?_|refine AD (λ_=>?_) (λ_=>?_)|exact AG)<;>conv=>whnf))
   exact⟨i+1,_,_,⟨by omega,rfl⟩,.refl _ _,⟨rfl,rfl,rfl,rfl,trivial⟩,trivial,by omega⟩
  ·rw[if_neg h0]
   (conv=>whnf)
   (repeat' ((first|refine Aj ?_ ?_|refine AP hxd rfl ?_|refine nx ?_|refine AD (λ_=>?_) (λ_=>?_)|exact AG)<;>conv=>whnf))
   exact rfl
 ·rw[show l.drop i=[]from C0 (by omega)]
  ((conv=>whnf);repeat' ((first|refine odw ?_|refine nx ?_|refine AD (λ_=>?_) (λ_=>?_))<;>conv=>whnf))
  exact rfl
def xC:List (Nat×Plan):=[(1,.leaf [0,1,0,0,1,0,2,0,1,0,1,2,0,1,0,0,1,0,2,0,1,0,1,2,6,2,0] [0,3,7,9,12,15,19,21,1,2,4,5,8,10,13,14,16,17,20,22,6,11,18,23,24,25,26] [0,1,3,0,8,24,63,0,128,0,512,2047,0,4096,12288,0,32768,98304,262143,0,524288,0,2097152,8388607,16777215,33554431,67108863])]
def ACH:List FuncId:=[31,32,33,30]
set_option maxHeartbeats 4000000 in
theorem Hp(p q:Pt)(h1:p.labels.length<=9000000000000000000)(h2:q.labels.length<=9000000000000000000)(h3:p.edges.length<=9000000000000000000)(h4:q.edges.length<=9000000000000000000):
  Pure C1 10 [FE p,FE q] (λy=>y=.int .i64 (Dw p q)):=by
 have g1:(p.labels.map dI).length=p.labels.length:=Ac _
 have g2:(q.labels.map dI).length=q.labels.length:=Ac _
 have g3:(p.edges.map dE).length=p.edges.length:=Ac _
 have g4:(q.edges.map dE).length=q.edges.length:=Ac _
 have c1:=F4 (p.labels.map dI).length (q.labels.map dI).length
 have c2:=TJ p.labels q.labels h1 h2
 have c3:=F4 (p.edges.map dE).length (q.edges.map dE).length
 have c4:=SE p.edges q.edges h3 h4
 have co:=xS [Db (p.labels.map dI).length (q.labels.map dI).length,Ef Db p.labels q.labels,Db (p.edges.map dE).length (q.edges.map dE).length,Ef Cy p.edges q.edges] (by simp)
 have e:O9 [Db (p.labels.map dI).length (q.labels.map dI).length,Ef Db p.labels q.labels,Db (p.edges.map dE).length (q.edges.map dE).length,Ef Cy p.edges q.edges]=Dw p q:=by unfold Dw;rw[g1,g2,g3,g4]
 rw[e]at co
 refine AW Tryz.func10 Tryz.ntmps10 ACH xC ?_
 (conv=>whnf)
 (repeat' ((first|refine Aj ?_ ?_|refine Br tab rfl c1 rfl ?_|refine Br tab rfl c2 rfl ?_|refine Br tab rfl c3 rfl ?_|refine Br tab rfl c4 rfl ?_|refine Br tab rfl co rfl ?_|refine nx ?_|refine AD (λ_=>?_) (λ_=>?_)|exact AG)<;>conv=>whnf))
 exact rfl
end Go.Proofs.YtjpmmkodoeipmaaGreatDoor
end
section
namespace Go.Sx
open Go Go.RowKit Go.Reg
def DU(l:List Int):Da:=.list 1 (l.map λn=>Da.int .i64 n)
structure Grow(S:List Nat)(A:World)(S':List Nat)(B:World):Prop where
 tch:Tch S A B
 sub:∀b∈S,b∈S'
 new:∀b∈S',b∈S\/A.heap.size<=b
 lt:∀b∈S',b<B.heap.size
theorem Grow.refl {S:List Nat} {A:World}(h:∀b∈S,b<A.heap.size):Grow S A S A:=⟨Tch.refl _ _,λ_ h=>h,λ_ h=>.inl h,h⟩
theorem Grow.same {S:List Nat} {A B:World}(t:Tch S A B)(h:∀b∈S,b<A.heap.size):Grow S A S B:=⟨t,λ_ h=>h,λ_ h=>.inl h,λb hb=>Bq (h b hb) t.size⟩
theorem Grow.trans {S S' S2:List Nat} {A B C:World}(h:Grow S A S' B)(k:Grow S' B S2 C):Grow S A S2 C:=
 ⟨h.tch.trans k.tch (λ_ h=>h) (λb hb=>h.new b hb),λb hb=>k.sub b (h.sub b hb),λb hb=>(k.new b hb).elim (λhb=>h.new b hb) (λhb=>.inr (BH h.tch.size hb)),k.lt⟩
theorem Grow.later {S S':List Nat} {A B:World}(h:Grow S A S' B):Later S A S' B:=⟨h.tch.size,λb hb hn=>h.tch.blk b hb hn,λb hn hb hm=>(h.new b hm).elim hn (λh=>by omega)⟩
def oL(C:Cx)(fv:Value)(xs:List (List Int))(O:List Nat)(l:Nat)(W:World):Prop:=
 ∃g lb,fv=.func (.func g) #[] lb/\(∀args w,(callFunc g args).run C.P w=.ok (.enter g args) w)/\
 ∀(J Jx:List Nat->List Nat->List (List Int)->World->Prop),
  (∀R S pre A B,(∀r∈R,W.heap.size<=r)->J R S pre A->Tch R A B->J R S pre B)->(∀R S pre A B,(∀r∈R,W.heap.size<=r)->Jx R S pre A->Tch R A B->Jx R S pre B)->
  (∀R S pre x v A,(∀r∈R,W.heap.size<=r)->(∀b∈S,b<A.heap.size)->J R S pre A->pre++[x]<+:xs->Rep (S++R) A (DU x) v->(W.heap.size<=A.heap.size/\∀r∈R,r<A.heap.size)->YieldAt Fence.wide 2 C.P l #[v] A λe B=>
   ∃S',Grow S A S' B/\((e=.returned (.bool true)/\J R S' (pre++[x]) B)\/(e=.returned (.bool false)/\Jx R S' (pre++[x]) B)))->
  (∀R,(∀r∈R,W.heap.size<=r)->J R O [] W)->
  CallsIn Fence.wide 3 C.P g (#[.func (.yield l) #[] #[]]++lb) W λe B=>(∃u,e=.returned u)/\∃R S:List Nat,(∀r∈R,W.heap.size<=r)/\Tch (O++R) W B/\(∀b∈S,b∈O\/W.heap.size<=b)/\(J R S xs B\/∃pre,pre<+:xs/\Jx R S pre B)
theorem DD(W:World)(l:Nat)(o:Obj):Tch [l] W (W.putObj l o):=
 ⟨rfl,rfl,rfl,by simp,λk _ hn=>World.putObj_heap_other (by simpa using hn)⟩
def ABK(I Ix:List Nat->World->Prop)(S:List Nat)(A:World):Exit->Act->World->Prop
 |.normal,_,B=>∃S',Grow S A S' B/\I S' B
 |.ret,_,B=>∃S',Grow S A S' B/\Ix S' B
 |_,_,_=>False
theorem Tn {C:Cx} {g:Operand} {ps:Array Tmp} {assign body:Code} {Q:Exit->Act->World->Prop} {a:Act} {w:World} {n:Nat}(xs:List (List Int))(Ob:List Nat)(hOb:∀b∈Ob,b<w.heap.size)
  (hps:ps.size=1) (hseq:∀W,Tch [] w W->W.heap.size=w.heap.size+2->oL C (a.eval g) xs (w.heap.size::(w.heap.size+1)::Ob) (w.heap.size+1) W)
  (I Ix:List Nat->List Nat->List (List Int)->World->Prop)
  (hI:∀R S pre A B,(∀r∈R,w.heap.size<=r)->I R S pre A->Tch R A B->I R S pre B) (hIx:∀R S pre A B,(∀r∈R,w.heap.size<=r)->Ix R S pre A->Tch R A B->Ix R S pre B)
  (h0:∀R W,(∀r∈R,w.heap.size<=r)->Tch [] w W->I R Ob [] W)
  (hbody:∀(l:Nat) (R S:List Nat) (pre:List (List Int)) (x:List Int) (v:Value) (A:World),w.heap.size<=l->l∈R->(∀r∈R,w.heap.size<=r)->(∀b∈S,b<A.heap.size)->(∀b∈S,b∉R)->I R S pre A->pre++[x]<+:xs->Rep (S++R) A (DU x) v->w.heap.size<=A.heap.size->(∀r∈R,r<A.heap.size)->
   assign.wpIn (Fence.wide.inRound l) 2 C.P (Exit.then (λa₁ A₁=>Tch [] A A₁/\∀A₂,Tch [l] A₁ A₂->body.wpIn (Fence.wide.inRound l) 2 C.P (ABK (λS'=>I R S' (pre++[x])) (λS'=>Ix R S' (pre++[x])) S A₂) a₁ A₂) (λ_ _ _=>False)) {tmps:=(ps.zip #[v]).foldl (λt (p,v)=>t.setIfInBounds p v) a.tmps,defers:=[]} A)
  (hdone:∀(D:Nat) (R S:List Nat) (W:World),w.heap.size<=D->D∈R->(∀r∈R,w.heap.size<=r)->(∀b∈S,b∉R)->I R S xs W->Tch Ob w W->W.heap[D]? =some (.deferred (some []))->Q .normal {a with defers:={target:=.collected D,args:=#[]}::a.defers} W)
  (hstop:∀(D:Nat) (R S:List Nat) (pre:List (List Int)) (W:World),w.heap.size<=D->D∈R->(∀r∈R,w.heap.size<=r)->(∀b∈S,b∉R)->pre<+:xs->Ix R S pre W->Tch Ob w W->W.heap[D]? =some (.deferred (some []))->Code.ret.wpIn Fence.wide n C.P Q {a with defers:={target:=.collected D,args:=#[]}::a.defers} W):
  (Code.rangeFunc g ps assign body).wpIn Fence.wide n C.P Q a w:=by
 refine wpIn_rangeFunc ?_
 intro fn hfn
 obtain⟨rec,hrec⟩:∃rec:LoopState->Option Code->Loop,rec=λst pe=>{state:=st,pending:=pe,fn,tmps:=a.tmps,params:=ps,assign,body,defers:=w.heap.size}:=⟨_,rfl⟩
 obtain⟨W1,hW1⟩:∃W1,(w.alloc (.deferred (some []))).alloc (.loop (rec .ready none))=W1:=⟨_,rfl⟩
 have hL1:W1.heap[w.heap.size+1]? =some (.loop (rec .ready none)):=by
  rw[<-hW1];have:=World.alloc_heap_new (w.alloc (.deferred (some []))) (.loop (rec .ready none));rwa [RO]at this
 have hK1:W1.heap[w.heap.size]? =some (.deferred (some [])):=by
  rw[<-hW1];exact(Below.heap_alloc _ _ _ (by simp)).trans (World.alloc_heap_new w _)
 have hT1:Tch [] w W1:=by rw[<-hW1];exact(Tch.alloc w _ []).andAlloc _
 have hs1:W1.heap.size=w.heap.size+2:=by rw[<-hW1];simp
 obtain⟨gf,lb,hg,eg,hcall⟩:=hseq W1 hT1 hs1
 have hRo:∀R:List Nat,(∀r∈R,W1.heap.size<=r)->∀r∈w.heap.size::(w.heap.size+1)::R,w.heap.size<=r:=λR hR r hm=>by
  rcases Ai.1 hm with e|hm
  ·omega
  rcases Ai.1 hm with e|hm
  ·omega
  ·have:=hR r hm;omega
 refine⟨w.heap.size+1,[{target:=.collected w.heap.size,args:=#[]}],W1,{target:=.fn (.func gf) lb,args:=#[.func (.yield (w.heap.size+1)) #[] #[]]},W1,gf,
  #[.func (.yield (w.heap.size + 1)) #[] #[]] ++ lb, W1, ?_, ?_, ?_, ?_, fun h => (by cases h), ?_⟩
 ·rw[<-hW1,hrec];exact run_enterLoop_outer _ _ _ _ _
 ·simp only[resolve,hg]
  simp[go_sem]
 ·intro f' hf';trivial
 ·simp[invoke,go_sem,eg]
 ·have hcall':=hcall
   (λR S pre W=>∃Sc,S=w.heap.size::(w.heap.size+1)::Sc/\I (w.heap.size::(w.heap.size+1)::R) Sc pre W/\(∀b∈Sc,b∉w.heap.size::(w.heap.size+1)::R)/\W.heap[w.heap.size+1]? =some (.loop (rec .ready none))/\W.heap[w.heap.size]? =some (.deferred (some [])))
   (λR S pre W=>∃Sc,S=w.heap.size::(w.heap.size+1)::Sc/\Ix (w.heap.size::(w.heap.size+1)::R) Sc pre W/\(∀b∈Sc,b∉w.heap.size::(w.heap.size+1)::R)/\W.heap[w.heap.size+1]? =some (.loop (rec .done (some .ret)))/\W.heap[w.heap.size]? =some (.deferred (some [])))
   (λR S pre A B hR ⟨Sc,hS,h1,hn,h2,h3⟩ ht=>⟨Sc,hS,hI _ _ pre A B (hRo R hR) h1 (ht.mono (by simp+contextual)),hn,by rw[ht.blk _ (Ak.1 h2).1 (λhm=>by have:=hR _ hm;omega)];exact h2,by rw[ht.blk _ (Ak.1 h3).1 (λhm=>by have:=hR _ hm;omega)];exact h3⟩)
   (λR S pre A B hR ⟨Sc,hS,h1,hn,h2,h3⟩ ht=>⟨Sc,hS,hIx _ _ pre A B (hRo R hR) h1 (ht.mono (by simp+contextual)),hn,by rw[ht.blk _ (Ak.1 h2).1 (λhm=>by have:=hR _ hm;omega)];exact h2,by rw[ht.blk _ (Ak.1 h3).1 (λhm=>by have:=hR _ hm;omega)];exact h3⟩)
   ?_ (λR hR=>⟨Ob,rfl,h0 _ _ (hRo R hR) hT1,λb hb hm=>by have:=hOb b hb;have:=hRo R hR b hm;omega,hL1,hK1⟩)
  ·
   refine(callsIn_wide.2 (callsIn_wide.1 hcall')).mono ?_
   rintro e W2 ⟨⟨v,rfl⟩,R,S,hR,ht,hSn,h⟩
   have htw:∀o,Tch Ob w (W2.putObj (w.heap.size+1) o):=λo=>by
    refine(hT1.trans (S':=(w.heap.size::(w.heap.size+1)::Ob)++R) (T:=Ob) ht (by simp) (λx hx=>?_)).trans (DD _ _ _) (λ_ h=>h) (λx hx=>?_)
    ·simp only[AT,Ai,Ag]at hx
     rcases hx with rfl|rfl|hx|hx
     ·exact .inr (by omega)
     ·exact .inr (by omega)
     ·exact .inl hx
     ·exact .inr (by have:=hR x hx;omega)
    ·simp at hx;exact .inr (by omega)
   rcases h with⟨Sc,rfl,hi,hn,hl,hk⟩|⟨pre,hpre,Sc,rfl,hi,hn,hl,hk⟩
   ·have hen:=run_endLoop (P:=C.P) hl (by rw[hrec];simp)
    refine⟨none,_,by rw[hrec]at hen;exact hen,?_⟩
    exact hdone _ _ _ _ (Ax _) (by simp) (hRo R hR) hn (hI _ _ _ _ _ (hRo R hR) hi ((DD _ _ _).mono (by simp))) (htw _) ((World.putObj_heap_other (by omega)).trans hk)
   ·have hen:=run_endLoop (P:=C.P) hl (by rw[hrec];simp)
    refine⟨some .ret,_,by rw[hrec]at hen;exact hen,?_⟩
    exact hstop _ _ _ pre _ (Ax _) (by simp) (hRo R hR) hn hpre (hIx _ _ _ _ _ (hRo R hR) hi ((DD _ _ _).mono (by simp))) (htw _) ((World.putObj_heap_other (by omega)).trans hk)
  ·
   rintro R S pre x v A hR hSA ⟨Sc,rfl,hi,hn,hl,hk⟩ hp hrep hsz
   have hlA:=(Ak.1 hl).1
   have hkA:=(Ak.1 hk).1
   have hy:=run_yield (P:=C.P) (args:=#[v]) hl (by rw[hrec];simp[hps])
   rw[hrec]at hy
   have hrep':Rep (Sc++(w.heap.size::(w.heap.size+1)::R)) A (DU x) v:=by
    obtain⟨cs,r,rfl⟩:=hrep
    exact⟨cs,RepC.later ⟨Ax _,λ_ _ _=>rfl,λb hb _=>by simp only[Ag,Ai,not_or]at hb⊢;exact⟨hb.1.2.2,hb.1.1,hb.1.2.1,hb.2⟩⟩ _ cs r,rfl⟩
   have hlO:(w.heap.size+1)∉Sc:=λhm=>hn _ hm (by simp)
   have hkO:w.heap.size∉Sc:=λhm=>hn _ hm (by simp)
   have hSc:∀b∈Sc,b<A.heap.size:=λb hb=>hSA b (by simp[hb])
   have hRA:∀r∈w.heap.size::(w.heap.size+1)::R,r<A.heap.size:=λr hr=>by
    rcases Ai.1 hr with e|hr
    ·rw[e];exact hkA
    rcases Ai.1 hr with e|hr
    ·rw[e];exact hlA
    ·exact hsz.2 r hr
   refine⟨fn,_,assign,body,hy,roundIn_of_wpIn trivial (wpIn_mono (hbody (w.heap.size+1) _ Sc pre x v A (by omega) (by simp) (hRo R hR) hSc hn hi hp hrep' (by omega) hRA) ?_)⟩
   clear hy
   intro e a1 A1 he
   cases e with
   |
    normal=>
    obtain⟨ht1,hbd⟩:=he
    have hl1:A1.heap[w.heap.size+1]? =some (.loop (rec .ready none)):=by rw[ht1.blk _ hlA (by simp)];exact hl
    have hk1:A1.heap[w.heap.size]? =some (.deferred (some [])):=by rw[ht1.blk _ hkA (by simp)];exact hk
    have hlt1:=(Ak.1 hl1).1
    have hbg:=run_beginRound (P:=C.P) hl1 (by rw[hrec])
    obtain⟨A2,hA2⟩:∃A2,A1.putObj (w.heap.size+1) (.loop {rec .ready none with state:=.busy})=A2:=⟨_,rfl⟩
    have hl2:A2.heap[w.heap.size+1]? =some (.loop {rec .ready none with state:=.busy}):=by rw[<-hA2];exact World.putObj_heap_same hlt1
    have ht2:Tch [w.heap.size+1] A1 A2:=by rw[<-hA2];exact DD _ _ _
    have hk2:A2.heap[w.heap.size]? =some (.deferred (some [])):=by rw[ht2.blk _ (Ak.1 hk1).1 (by simp)];exact hk1
    refine⟨A2,by rw[<-hA2];exact hbg,wpIn_mono (hbd A2 ht2) ?_⟩
    intro e2 a3 A3 hp3
    have fin:∀(jump:Option Code) (S':List Nat),Grow Sc A2 S' A3->
      (Instr.endRound (w.heap.size+1) jump).run C.P A3=.ok (.bool jump.isNone) (A3.putObj (w.heap.size+1) (.loop (rec (if jump.isNone then .ready else .done) jump)))/\
      (A3.putObj (w.heap.size+1) (.loop (rec (if jump.isNone then .ready else .done) jump))).heap[w.heap.size+1]? =some (.loop (rec (if jump.isNone then .ready else .done) jump))/\
      (A3.putObj (w.heap.size+1) (.loop (rec (if jump.isNone then .ready else .done) jump))).heap[w.heap.size]? =some (.deferred (some []))/\
      Grow (w.heap.size::(w.heap.size+1)::Sc) A (w.heap.size::(w.heap.size+1)::S') (A3.putObj (w.heap.size+1) (.loop (rec (if jump.isNone then .ready else .done) jump)))/\(∀b∈S',b∉w.heap.size::(w.heap.size+1)::R):=λjump S' hg=>by
     have ht3:=hg.tch
     have hl3:A3.heap[w.heap.size+1]? =some (.loop {rec .ready none with state:=.busy}):=by rw[ht3.blk _ (Ak.1 hl2).1 hlO];exact hl2
     have hk3:A3.heap[w.heap.size]? =some (.deferred (some [])):=by rw[ht3.blk _ (Ak.1 hk2).1 hkO];exact hk2
     have hen:=run_endRound (P:=C.P) jump hl3
     have hs2:A.heap.size<=A2.heap.size:=BH ht1.size ht2.size
     refine⟨by rw[hrec]at hen⊢;exact hen,World.putObj_heap_same (Ak.1 hl3).1,(World.putObj_heap_other (by omega)).trans hk3,⟨?_,?_,?_,?_⟩,?_⟩
     ·have h12:Tch (w.heap.size::(w.heap.size+1)::Sc) A A2:=(ht1.mono (by simp)).trans0 (ht2.mono (by simp))
      exact(h12.trans0 (ht3.mono (by simp+contextual))).trans0 ((DD _ _ _).mono (by simp))
     ·intro b hb
      rcases Ai.1 hb with e|hb
      ·simp[e]
      rcases Ai.1 hb with e|hb
      ·simp[e]
      ·simp[hg.sub b hb]
     ·intro b hb
      rcases Ai.1 hb with e|hb
      ·simp[e]
      rcases Ai.1 hb with e|hb
      ·simp[e]
      ·rcases hg.new b hb with h|h
       ·simp[h]
       ·right;omega
     ·intro b hb
      have hps:(A3.putObj (w.heap.size+1) (.loop (rec (if jump.isNone then .ready else .done) jump))).heap.size=A3.heap.size:=by simp
      rw[hps]
      rcases Ai.1 hb with e|hb
      ·rw[e];exact(Ak.1 hk3).1
      rcases Ai.1 hb with e|hb
      ·rw[e];exact(Ak.1 hl3).1
      ·exact hg.lt b hb
     ·intro b hb hm
      rcases hg.new b hb with h|h
      ·exact hn b h hm
      ·have:=hRA b hm;omega
    cases e2 with
    |
     normal=>
     obtain⟨S',hg,hi3⟩:=hp3
     obtain⟨hr,hl4,hk4,ht4,hn4⟩:=fin none S' hg
     exact⟨_,_,hr,_,ht4,.inl ⟨rfl,S',rfl,hI _ _ _ _ _ (hRo R hR) hi3 ((DD _ _ _).mono (by simp)),hn4,hl4,hk4⟩⟩
    |
     ret=>
     obtain⟨S',hg,hi3⟩:=hp3
     obtain⟨hr,hl4,hk4,ht4,hn4⟩:=fin (some .ret) S' hg
     exact⟨_,_,hr,_,ht4,.inr ⟨rfl,S',rfl,hIx _ _ _ _ _ (hRo R hR) hi3 ((DD _ _ _).mono (by simp)),hn4,hl4,hk4⟩⟩
    |_=>exact hp3.elim
   |_=>exact he.elim
end Go.Sx
end
section
namespace Go.Gr
def GU(fr to:List Int):Nat->List Nat->List (List Int)
 |0,ah=>[ah.map λj:Nat=>(j:Int)]
 |k+1,ah=>((List.range to.length).filter λj=>!(ah.contains j)&&decide (to[j]? =fr[ah.length]?)).flatMap λj=>GU fr to k (ah++[j])
def J3(fr to:List Int)(k m:Nat)(ah:List Nat):List (List Int):=((List.range m).filter λj=>!(ah.contains j)&&decide (to[j]? =fr[ah.length]?)).flatMap λj=>GU fr to k (ah++[j])
theorem Wy(fr to:List Int)(k m:Nat)(ah:List Nat):J3 fr to k (m+1) ah=J3 fr to k m ah++if !(ah.contains m)&&decide (to[m]? =fr[ah.length]?)then GU fr to k (ah++[m])else[]:=by
 unfold J3
 rw[D1,Ca,CO]
 congr 1
 have e:∀(p:Nat->Bool) (f:Nat->List (List Int)),([m].filter p).flatMap f=if p m then f m else[]:=λp f=>by
  cases h:p m with
  |true=>rw[HY h];simp
  |false=>rw[N3 (by rw[h];decide)];simp
 rw[e]
theorem Ms(fr to:List Int)(k:Nat)(ah:List Nat):J3 fr to k to.length ah=GU fr to (k+1) ah:=rfl
end Go.Gr
namespace Go.Proofs.YtjpmmkodoeipmaaGreatDoor
open Go.Sx Go.RowKit Go.Reg Go.Gr
set_option maxRecDepth 100000
def QE(fr to:List Int)(k:Nat):Prop:=
 ∀(ah:List Nat),ah.length+k=fr.length->(∀j∈ah,j<to.length)->fr.length<=8->to.length<=8->
 ∀(l:Nat) (XS:List (List Int)) (J Jx:List Nat->List (List Int)->World->Prop),
  (∀S pre A B,J S pre A->Tch [] A B->J S pre B)->
  (∀S pre x v A,(∀b∈S,b<A.heap.size)->J S pre A->pre++[x]<+:XS->Rep S A (DU x) v->YieldAt Fence.wide 2 Tryz.prog l #[v] A λe B=>
   ∃S',Grow S A S' B/\((e=.returned (.bool true)/\J S' (pre++[x]) B)\/(e=.returned (.bool false)/\Jx S' (pre++[x]) B)))->
 ∀(S:List Nat) (A:World) (vf vt va:Value) (pre:List (List Int)),(∀b∈S,b<A.heap.size)->Glob C1 S A->Rep S A (DU fr) vf->Rep S A (DU to) vt->Rep S A (DU (ah.map λj:Nat=>(j:Int))) va->
  J S pre A->pre++GU fr to k ah<+:XS->
  CallsIn Fence.wide 3 Tryz.prog 268 #[vf,vt,va,.int .u64 (DH ah:Nat),.func (.yield l) #[] #[]] A λe B=>
   ∃S',Grow S A S' B/\((e=.returned (.bool true)/\J S' (pre++GU fr to k ah) B)\/(e=.returned (.bool false)/\∃q,q<+:GU fr to k ah/\Jx S' (pre++q) B))
end Go.Proofs.YtjpmmkodoeipmaaGreatDoor
end
section
namespace Go.Gr
open Go.Proofs.YtjpmmkodoeipmaaGreatDoor
theorem EN {α:Type} [DecidableEq α]:∀{l m:List α},l.Nodup->(∀x∈l,x∈m)->m.length<=l.length->l.Perm m
 |
  [],m,_,_,h=>by
  have:m=[]:=AJ (by simpa using h)
  subst this;exact .refl _
 |
  x::l,m,hn,hs,h=>by
  obtain⟨h1,h2⟩:=Cs.1 hn
  have hx:x∈m:=hs x (by simp)
  have hp:=List.perm_cons_erase hx
  have hl:m.length=(m.erase x).length+1:=by have:=hp.length_eq;simpa using this
  refine(List.Perm.cons x (EN h2 (λy hy=>?_) ?_)).trans hp.symm
  ·exact(List.mem_erase_of_ne (λe=>by subst e;exact h1 hy)).2 (hs y (by simp[hy]))
  ·simp only[Aw]at h;omega
theorem Ff {α:Type} [DecidableEq α] {l m:List α}(hn:l.Nodup)(hs:∀x∈l,x∈m):l.length<=m.length:=by
 rcases BL m.length l.length with h|h
 ·have:=(EN hn hs (by omega)).length_eq;omega
 ·exact h
def C2(n:Nat)(b:List Int):Prop:=b.length=n/\(∀x∈b,0<=x/\x<(n:Int))/\b.Nodup
instance(n:Nat)(b:List Int):Decidable (C2 n b):=by unfold C2;exact inferInstance
def pl(b:List Int)(i:Nat):Nat:=((b[i]?).getD 0).toNat
theorem Yc {b:List Int}(h8:b.length<=8):Ln b=true↔C2 b.length b:=by
 unfold Ln C2
 simp[h8]
section
variable {n:Nat} {a b:List Int}
theorem JB(h:C2 n b) {i:Nat}(hi:i<n):b[i]? =some (pl b i:Int):=by
 have hx:=Ab (l:=b) (i:=i) (by rw[h.1];exact hi)
 have:=h.2.1 _ (Bc (l:=b) (n:=i) (by rw[h.1];exact hi))
 unfold pl
 rw[hx,Gz]
 congr 1;omega
theorem GZ(h:C2 n b) {i:Nat}(hi:i<n):pl b i<n:=by
 have:=h.2.1 _ (A8 (JB h hi));omega
theorem O2(h:C2 n b) {i j:Nat}(hi:i<n)(hj:j<n)(e:pl b i=pl b j):i=j:=by
 refine(FL (by rw[h.1];exact hi) h.2.2).1 ?_
 rw[JB h hi,JB h hj,e]
theorem xV(h:C2 n b):b.Perm ((List.range n).map λi:Nat=>(i:Int)):=by
 refine EN h.2.2 (λx hx=>?_) (by rw[Ac,D9,h.1];exact Ax _)
 have:=h.2.1 x hx
 exact An.2 ⟨x.toNat,AM.2 (by omega),by omega⟩
theorem Lk(h:C2 n b) {k:Nat}(hk:k<n):∃i,i<n/\pl b i=k:=by
 have hm:(k:Int)∈b:=(xV h).mem_iff.2 (An.2 ⟨k,AM.2 hk,rfl⟩)
 obtain⟨i,hi,e⟩:=C4.1 hm
 have hi':i<n:=by rw[<-h.1];exact hi
 refine⟨i,hi',?_⟩
 have:=JB h hi'
 rw[Ab hi,e]at this
 have h9:(k:Int)=(pl b i:Int):=Ce this
 omega
theorem SX(ha:C2 n a)(hb:C2 n b)(h:∀i,i<n->pl a i=pl b i):a=b:=by
 apply Cb
 intro i
 by_cases hi:i<n
 ·rw[JB ha hi,JB hb hi,h i hi]
 ·rw[AI (by rw[ha.1];omega),AI (by rw[hb.1];omega)]
theorem Yb {f:Nat->Nat}(h1:∀i,i<n->f i<n)(h2:∀i j,i<n->j<n->f i=f j->i=j):C2 n ((List.range n).map λi=>(f i:Int)):=by
 refine⟨by simp,λx hx=>?_,?_⟩
 ·obtain⟨i,hi,rfl⟩:=An.1 hx
  have:=h1 i (AM.1 hi);omega
 ·refine B7.2 (Er ?_ List.nodup_range)
  intro i j hi hj hne e
  exact hne (h2 i j (AM.1 hi) (AM.1 hj) (by omega))
theorem xF {f:Nat->Nat} {i:Nat}(hi:i<n):pl ((List.range n).map λi=>(f i:Int)) i=f i:=by
 unfold pl;simp[hi]
def bS(n:Nat):List Int:=(List.range n).map λi:Nat=>(i:Int)
theorem JG(n:Nat):C2 n (bS n):=Yb (f:=id) (λ_ h=>h) (λ_ _ _ _ h=>h)
theorem Ws {i:Nat}(hi:i<n):pl (bS n) i=i:=xF (f:=id) hi
def Gc(a b:List Int):List Int:=a.map λx=>(b[x.toNat]?).getD 0
theorem uO(ha:C2 n a)(hb:C2 n b) {i:Nat}(hi:i<n):(Gc a b)[i]? =some (pl b (pl a i):Int):=by
 unfold Gc
 rw[Ad,JB ha hi,CA,AY,JB hb (GZ ha hi)];rfl
theorem YY(ha:C2 n a)(hb:C2 n b):Gc a b=(List.range n).map λi=>((pl b (pl a i):Nat):Int):=by
 apply Cb
 intro i
 by_cases hi:i<n
 ·rw[uO ha hb hi];simp[hi]
 ·rw[AI (by unfold Gc;rw[Ac,ha.1];omega),AI (by simp;omega)]
theorem D4(ha:C2 n a)(hb:C2 n b):C2 n (Gc a b):=by
 rw[YY ha hb]
 exact Yb (λi hi=>GZ hb (GZ ha hi)) (λi j hi hj e=>O2 ha hi hj (O2 hb (GZ ha hi) (GZ ha hj) e))
theorem Ib(ha:C2 n a)(hb:C2 n b) {i:Nat}(hi:i<n):pl (Gc a b) i=pl b (pl a i):=by
 rw[YY ha hb,xF (f:=λi=>pl b (pl a i)) hi]
theorem qL(hb:C2 n b) {l:List Int}(hl:l.length=n):∀m,m<=n->∀i,i<m->(Lf b l m)[pl b i]? =l[i]? :=by
 intro m
 induction m with
 |zero=>intro _ i hi;omega
 |
  succ m ih=>
  intro hm i hi
  have hx:=JB hb (show m<n by omega)
  have hy:=Ab (l:=l) (i:=m) (by omega)
  rw[Wp hx hy,AY,Bf]
  by_cases e:m=i
  ·subst e
   rw[if_pos rfl,if_pos (by rw[Kq,hl];exact GZ hb (by omega)),hy]
  ·rw[if_neg (λh=>e (O2 hb (by omega) (by omega) h)),ih (by omega) i (by omega)]
theorem SU(hb:C2 n b) {l:List Int}(hl:l.length=n) {i:Nat}(hi:i<n):(Lf b l b.length)[pl b i]? =l[i]? :=by
 rw[hb.1];exact qL hb hl n (Ax _) i hi
def Iv(b:List Int):List Int:=Lf b (bS b.length) b.length
theorem oG(hb:C2 n b) {i:Nat}(hi:i<n):pl (Iv b) (pl b i)=i:=by
 unfold Iv pl
 have:=SU hb (l:=bS b.length) (by unfold bS;simp[hb.1]) hi
 unfold pl at this
 rw[this]
 have:(bS b.length)[i]? =some (i:Int):=by rw[hb.1];unfold bS;simp[hi]
 rw[this];simp
theorem Gm(hb:C2 n b):C2 n (Iv b):=by
 have hl:(Iv b).length=n:=by unfold Iv;rw[Kq];unfold bS;simp[hb.1]
 have key:∀k,k<n->∃i,i<n/\pl b i=k/\(Iv b)[k]? =some (i:Int):=λk hk=>by
  obtain⟨i,hi,rfl⟩:=Lk hb hk
  refine⟨i,hi,rfl,?_⟩
  have:=SU hb (l:=bS b.length) (by unfold bS;simp[hb.1]) hi
  unfold Iv
  rw[this,hb.1];unfold bS;simp[hi]
 have e:Iv b=(List.range n).map λk=>(pl (Iv b) k:Int):=by
  apply Cb
  intro k
  by_cases hk:k<n
  ·obtain⟨i,hi,hp,hk'⟩:=key k hk
   have:pl (Iv b) k=i:=by unfold pl;rw[hk'];simp
   rw[hk'];simp[hk,this]
  ·rw[AI (by omega),AI (by simp;omega)]
 rw[e]
 refine Yb (λk hk=>?_) (λj k hj hk h=>?_)
 ·obtain⟨i,hi,hp,hk'⟩:=key k hk
  unfold pl;rw[hk'];simpa using hi
 ·obtain⟨i,hi,hp,hk'⟩:=key j hj
  obtain⟨i2,hi2,hp2,hk2⟩:=key k hk
  unfold pl at h;rw[hk',hk2]at h
  have:i=i2:=by simpa using h
  subst this;omega
theorem VV(hb:C2 n b):Gc b (Iv b)=bS n:=SX (D4 hb (Gm hb)) (JG n) λi hi=>by
 rw[Ib hb (Gm hb) hi,oG hb hi,Ws hi]
theorem tY(hb:C2 n b):Gc (Iv b) b=bS n:=SX (D4 (Gm hb) hb) (JG n) λk hk=>by
 obtain⟨i,hi,rfl⟩:=Lk hb hk
 rw[Ib (Gm hb) hb (GZ hb hi),oG hb hi,Ws (GZ hb hi)]
theorem Ts {c:List Int}(ha:C2 n a)(hb:C2 n b)(hc:C2 n c):Gc (Gc a b) c=Gc a (Gc b c):=SX (D4 (D4 ha hb) hc) (D4 ha (D4 hb hc)) λi hi=>by
 rw[Ib (D4 ha hb) hc hi,Ib ha hb hi,Ib ha (D4 hb hc) hi,Ib hb hc (GZ ha hi)]
theorem mB(ha:C2 n a):Gc a (bS n)=a:=SX (D4 ha (JG n)) ha λi hi=>by rw[Ib ha (JG n) hi,Ws (GZ ha hi)]
end
structure PtOk(n:Nat)(p:Pt):Prop where
 len:p.labels.length=n
 edge:∀e∈p.edges,0<=e.a/\e.a<e.b/\e.b<(n:Int)
 strict:CB p.edges
section
variable {n:Nat} {a b:List Int} {p q:Pt}
theorem gD {E F:List Edg}(hE:CB E)(hF:CB F)(h:∀e,e∈E↔e∈F):E=F:=by
 have:DecidableEq Edg:=λx y=>decidable_of_iff (Cy x y=0) (YA x y)
 refine Ki (EN hE.nodup (λx hx=>(h x).1 hx) ?_) hE hF
 exact Ff hF.nodup (λx hx=>(h x).2 hx)
theorem wS(hp:PtOk n p)(hq:PtOk n q)(h1:∀i,i<n->p.labels[i]? =q.labels[i]?)(h2:∀e,e∈p.edges↔e∈q.edges):p=q:=by
 cases p;cases q
 simp only[Pt.mk.injEq]
 refine⟨Cb λi=>?_,gD hp.strict hq.strict h2⟩
 by_cases hi:i<n
 ·exact h1 i hi
 ·have:=hp.len;have:=hq.len
  rw[AI (by simp only at*;omega),AI (by simp only at*;omega)]
theorem WD(b:List Int) {i j:Nat}(hb:C2 n b)(hi:i<n)(hj:j<n):U7 b ⟨i,j⟩=turn ⟨(pl b i:Int),(pl b j:Int)⟩:=by
 unfold U7
 simp only[AY]
 rw[JB hb hi,JB hb hj];rfl
theorem Qw {e:Edg}(h:0<=e.a/\e.a<e.b/\e.b<(n:Int)):∃i j:Nat,i<j/\j<n/\e=⟨i,j⟩:=by
 obtain⟨x,y⟩:=e
 simp only at h
 obtain⟨i,rfl⟩:=A6 h.1
 obtain⟨j,rfl⟩:=A6 (show 0<=y by omega)
 exact⟨i,j,by omega,by omega,rfl⟩
theorem AEA(hb:C2 n b) {e:Edg}(h:0<=e.a/\e.a<e.b/\e.b<(n:Int)):0<=(U7 b e).a/\(U7 b e).a<(U7 b e).b/\(U7 b e).b<(n:Int):=by
 obtain⟨i,j,hij,hj,rfl⟩:=Qw h
 rw[WD b hb (by omega) hj]
 have h1:=GZ hb (show i<n by omega)
 have h2:=GZ hb hj
 have h3:pl b i≠pl b j:=λe=>by have:=O2 hb (by omega) hj e;omega
 unfold turn;simp only;omega
theorem GX(hb:C2 n b)(hp:PtOk n p):CB (Bl p b).edges/\∀e,e∈(Bl p b).edges↔∃x∈p.edges,e=U7 b x:=by
 have hn:=U6 hb.2.2 (E:=p.edges) (λe he=>by rw[hb.1];exact hp.edge e he) hp.strict.nodup
 obtain⟨h1,h2⟩:=MG _ hn [] List.Pairwise.nil (by simp)
 rw[Cg]at h2
 refine⟨h1,λe=>?_⟩
 rw[show(Bl p b).edges=(p.edges.map (U7 b)).foldl LK []from rfl,h2.mem_iff,An]
 exact⟨λ⟨x,hx,e⟩=>⟨x,hx,e.symm⟩,λ⟨x,hx,e⟩=>⟨x,hx,e.symm⟩⟩
theorem Fb(p:Pt)(b:List Int):(Bl p b).labels.length=p.labels.length:=Kq _ _ _
theorem Ik(hb:C2 n b)(hp:PtOk n p) {i:Nat}(hi:i<n):(Bl p b).labels[pl b i]? =p.labels[i]? :=SU hb hp.len hi
theorem Ij(hb:C2 n b)(hp:PtOk n p):PtOk n (Bl p b):=by
 obtain⟨h1,h2⟩:=GX hb hp
 refine⟨by rw[Fb,hp.len],λe he=>?_,h1⟩
 obtain⟨x,hx,rfl⟩:=(h2 e).1 he
 exact AEA hb (hp.edge x hx)
theorem Hk(hb:C2 n b)(hp:PtOk n p):(Bl p b).edges.length=p.edges.length:=by
 have hn:=U6 hb.2.2 (E:=p.edges) (λe he=>by rw[hb.1];exact hp.edge e he) hp.strict.nodup
 obtain⟨h1,h2⟩:=MG _ hn [] List.Pairwise.nil (by simp)
 rw[Cg]at h2
 rw[show(Bl p b).edges=(p.edges.map (U7 b)).foldl LK []from rfl,h2.length_eq,Ac]
theorem nA(ha:C2 n a)(hb:C2 n b) {e:Edg}(h:0<=e.a/\e.a<e.b/\e.b<(n:Int)):U7 b (U7 a e)=U7 (Gc a b) e:=by
 obtain⟨i,j,hij,hj,rfl⟩:=Qw h
 have hi:i<n:=by omega
 rw[WD a ha hi hj,WD _ (D4 ha hb) hi hj,Ib ha hb hi,Ib ha hb hj]
 have hcase:turn ⟨(pl a i:Int),(pl a j:Int)⟩=⟨(pl a i:Int),(pl a j:Int)⟩\/turn ⟨(pl a i:Int),(pl a j:Int)⟩=⟨(pl a j:Int),(pl a i:Int)⟩:=by
  unfold turn;simp only[Edg.mk.injEq];omega
 rcases hcase with e|e
 ·rw[e,WD b hb (GZ ha hi) (GZ ha hj)]
 ·rw[e,WD b hb (GZ ha hj) (GZ ha hi),Ii]
theorem Kf(ha:C2 n a)(hb:C2 n b)(hp:PtOk n p):Bl (Bl p a) b=Bl p (Gc a b):=by
 have ho:=Ij ha hp
 refine wS (Ij hb ho) (Ij (D4 ha hb) hp) (λk hk=>?_) (λe=>?_)
 ·obtain⟨j,hj,rfl⟩:=Lk hb hk
  obtain⟨i,hi,rfl⟩:=Lk ha hj
  rw[Ik hb ho hj,Ik ha hp hi,<-Ib ha hb hi,Ik (D4 ha hb) hp hi]
 ·rw[(GX hb ho).2,(GX (D4 ha hb) hp).2]
  constructor
  ·rintro⟨x,hx,rfl⟩
   obtain⟨y,hy,rfl⟩:=((GX ha hp).2 x).1 hx
   exact⟨y,hy,nA ha hb (hp.edge y hy)⟩
  ·rintro⟨y,hy,rfl⟩
   exact⟨U7 a y,((GX ha hp).2 _).2 ⟨y,hy,rfl⟩,(nA ha hb (hp.edge y hy)).symm⟩
theorem ABd(hp:PtOk n p):Bl p (bS n)=p:=by
 refine wS (Ij (JG n) hp) hp (λk hk=>?_) (λe=>?_)
 ·have:=Ik (JG n) hp hk;rwa [Ws hk]at this
 ·have hm:∀x∈p.edges,U7 (bS n) x=x:=λx hx=>by
   obtain⟨i,j,hij,hj,rfl⟩:=Qw (hp.edge x hx)
   rw[WD _ (JG n) (by omega) hj,Ws (by omega),Ws hj]
   exact J7 (by simp only;omega)
  rw[(GX (JG n) hp).2]
  constructor
  ·rintro⟨x,hx,rfl⟩;rw[hm x hx];exact hx
  ·intro h;exact⟨e,h,(hm e h).symm⟩
theorem VU(ha:C2 n a)(hp:PtOk n p):Bl (Bl p a) (Iv a)=p:=by rw[Kf ha (Gm ha) hp,VV ha,ABd hp]
end
end Go.Gr
end
