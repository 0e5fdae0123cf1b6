/- Merged: Pgw Ldv Tbo Rng Rec Cag Trl Tri. -/
import Derived.Test.YtjejpdfldmempaaGreatDoorlzau
import Derived.Test.YtjejpdfldmempaaGreatDoorlzar
import Derived.Test.YtjejpdfldmempaaGreatDoorlzan
import Derived.Test.YtjejpdfldmempaaGreatDoorlzaq
import Derived.Test.YtjejpdfldmempaaGreatDoorlzag
import Derived.Maps.RangeRun
section
namespace Go.Gr
theorem TD {α:Type} {l:List α} {p:α->Bool} {i:Nat} {x:α}(h:l[i]? =some x)(hx:p x=true)(hn:∀y∈l.take i,p y=false):l.findIdx? p=some i:=by
 have hil:i<l.length:=by
  rcases AP i l.length with g|g
  ·exact g
  ·rw[Bh g]at h;cases h
 rw[AN]
 rw[Aa hil,Aq]at h
 refine⟨hil,by rw[h];exact hx,λj hj=>?_⟩
 have:=hn (l[j]'(by omega)) (AQ.2 ⟨j,by omega,rfl⟩)
 simp[this]
theorem Nt {α:Type} {l:List α} {p:α->Bool}(h:∀y∈l,p y=false):l.findIdx? p=none:=by
 rw[AM];exact h
end Go.Gr
namespace Go.Proofs.YtjejpdfldmempaaGreatDoor
open Go.Sx Go.RowKit Go.Reg Go.Gr
set_option maxRecDepth 100000
def dO(o:Opp):Da:=.agg [.int .i64 o.kind,.int .i64 o.n]
def Ja(l:List Opp):Da:=.list 2 (l.map dO)
def kG:ByteArray:=⟨#[107,105,110,100]⟩
def sZ:ByteArray:=⟨#[110,117,109,98,101,114]⟩
def Ou(k:Int):List UInt8:=if k=1 then[99,108,105,113,117,101]else if k=2 then[108,97,98,101,108,115]else if k=3 then[100,101,103,114,101,101]else if k=4 then[115,105,122,101]else if k=5 then[101,100,103,101,115]else if k=6 then[117,110,108,105,107,101]else if k=7 then[111,110,108,121]else if k=8 then[102,114,101,101]else[]
def T0:List Da:=(List.range 8).map λk:Nat=>.str ⟨(Ou ((k:Int)+1)).toArray⟩
theorem cH {i:Nat}(h:i<8):T0[i]? =some (.str ⟨(Ou ((i:Int)+1)).toArray⟩):=by
 unfold T0
 rw[Ac,E2 h];rfl
theorem UU:Pure C1 254 [] (λy=>y=.list 1 T0):=by
 refine AK Tryz.func254 Tryz.ntmps254 [] [] ?_
 ((conv=>whnf);repeat' ((first|refine odw ?_|refine nx ?_|refine Aw (λ_=>?_) (λ_=>?_))<;>conv=>whnf))
 exact rfl
def uC:List FuncId:=[254]
theorem X6(k:Int):Pure C1 227 [.int .i64 k] (λy=>y=.str ⟨(Ou k).toArray⟩):=by
 have hn:=UU
 have hl:T0.length=8:=rfl
 refine AK Tryz.func227 Tryz.ntmps227 uC [] ?_
 by_cases hk:1<=k/\k<=8
 ·have hx:=cH (i:=(k-1).toNat) (by omega)
  rw[show(((k-1).toNat:Nat):Int)+1=k by omega]at hx
  (conv=>whnf)
  (repeat' ((first|refine Af ?_ ?_|refine Ad rfl hn ?_|refine A1 hx (by omega) ?_|refine nx ?_|refine Aw (λ_=>?_) (λ_=>?_)|exact A0)<;>conv=>whnf))
  exact rfl
 ·have e:Ou k=[]:=by unfold Ou;repeat rw[if_neg (by omega)]
  rw[e]
  (conv=>whnf)
  (repeat' ((first|refine Af ?_ ?_|refine Ad rfl hn ?_|refine nx ?_|refine Aw (λ_=>?_) (λ_=>?_)|exact A0)<;>conv=>whnf))
  all_goals exact rfl
theorem UT(k:Int):Pure C1 228 [.int .i64 k] (λy=>y=.bool (FU k)):=by
 refine AK Tryz.func228 Tryz.ntmps228 [] [] ?_
 by_cases h1:k=1
 ·subst h1;((conv=>whnf);repeat' ((first|refine odw ?_|refine nx ?_|refine Aw (λ_=>?_) (λ_=>?_))<;>conv=>whnf));exact rfl
 by_cases h6:k=6
 ·subst h6;((conv=>whnf);repeat' ((first|refine odw ?_|refine nx ?_|refine Aw (λ_=>?_) (λ_=>?_))<;>conv=>whnf));exact rfl
 by_cases h8:k=8
 ·subst h8;((conv=>whnf);repeat' ((first|refine odw ?_|refine nx ?_|refine Aw (λ_=>?_) (λ_=>?_))<;>conv=>whnf));exact rfl
 have e:FU k=true:=by unfold FU;simp[h1,h6,h8]
 rw[e]
 ((conv=>whnf);repeat' ((first|refine odw ?_|refine nx ?_|refine Aw (λ_=>?_) (λ_=>?_))<;>conv=>whnf))
 exact rfl
def IF(o:Opp)(at_:Int):Da:=if D7 o=0 then .nili else dF (D7 o) at_ (if D7 o=1 then kG else sZ)
theorem oM {k:Int}(h:1<=k/\k<=8):∃c t,Ou k=c::t:=by
 have hk:k=1\/k=2\/k=3\/k=4\/k=5\/k=6\/k=7\/k=8:=by omega
 rcases hk with rfl|rfl|rfl|rfl|rfl|rfl|rfl|rfl<;>exact⟨_,_,rfl⟩
def vN:List FuncId:=[227,228]
theorem LW(o:Opp)(a:Int):Pure C1 173 [dO o,.int .i64 a] (λy=>y=IF o a):=by
 have hn:=X6 o.kind
 have ht:=UT o.kind
 have hf1:=Cj 1 a kG
 have hf3:=Cj 3 a sZ
 refine AK Tryz.func173 Tryz.ntmps173 vN [] ?_
 by_cases hk:1<=o.kind/\o.kind<=8
 ·obtain⟨c,t,hct⟩:=oM hk
  rw[hct]at hn
  have hsn:¬({data:=(c::t).toArray}:ByteArray)={data:=#[]}:=λh=>by simp at h
  by_cases hr:o.n<0\/255<o.n\/0<o.n/\FU o.kind=false
  ·have e:IF o a=dF 3 a sZ:=by
    unfold IF D7
    rw[if_neg (show¬(o.kind<1\/8<o.kind)by omega),if_pos hr];rfl
   rw[e]
   cases htk:FU o.kind<;>rw[htk]at ht hr<;>
   ·(conv=>whnf)
    (repeat' ((first|refine Af ?_ ?_|refine Q6 hsn ?_|refine Ad rfl hn ?_|refine Ad rfl ht ?_|refine Ad rfl hf3 ?_|refine nx ?_|refine Aw (λ_=>?_) (λ_=>?_)|exact A0)<;>conv=>whnf))
    all_goals first|exact rfl|(exfalso;simp at hr;omega)
  ·have e:IF o a=.nili:=by
    unfold IF D7
    rw[if_neg (show¬(o.kind<1\/8<o.kind)by omega),if_neg hr];rfl
   rw[e]
   cases htk:FU o.kind<;>rw[htk]at ht hr<;>
   ·(conv=>whnf)
    (repeat' ((first|refine Af ?_ ?_|refine Q6 hsn ?_|refine Ad rfl hn ?_|refine Ad rfl ht ?_|refine Ad rfl hf3 ?_|refine nx ?_|refine Aw (λ_=>?_) (λ_=>?_)|exact A0)<;>conv=>whnf))
    all_goals first|exact rfl|(exfalso;simp at hr;omega)
 ·have e1:Ou o.kind=[]:=by unfold Ou;repeat rw[if_neg (by omega)]
  have e:IF o a=dF 1 a kG:=by
   unfold IF D7
   rw[if_pos (show(o.kind<1\/8<o.kind)by omega)];rfl
  rw[e1]at hn
  rw[e]
  (conv=>whnf)
  (repeat' ((first|refine Af ?_ ?_|refine Ad rfl hn ?_|refine Ad rfl hf1 ?_|refine nx ?_|refine Aw (λ_=>?_) (λ_=>?_)|exact A0)<;>conv=>whnf))
  all_goals exact rfl
end Go.Proofs.YtjejpdfldmempaaGreatDoor
end
section
namespace Go.Reg
open Go Go.Deep
section
open Go.ChangeShapes Go.RowKit
variable {H:Type} {enc:TypeId×Value->H} {P:Program} {w:World} {base:Nat} {spare:Nat->Bool} {held:Bool}
theorem Un {t0 t1 t2 t3 t4:TypeId} {v0 v1 v2 v3 v4:Value} {d0 d1 d2 d3 d4:DataW H} {p0 p1 p2 p3 p4:List MemPlace}(h0:DataW.Trod enc P w base spare held t0 v0 d0 p0)(h1:DataW.Trod enc P w base spare held t1 v1 d1 p1)
  (h2:DataW.Trod enc P w base spare held t2 v2 d2 p2) (h3:DataW.Trod enc P w base spare held t3 v3 d3 p3) (h4:DataW.Trod enc P w base spare held t4 v4 d4 p4):DataW.TrodAll enc P w base spare held [t0,t1,t2,t3,t4] [v0,v1,v2,v3,v4] [d0,d1,d2,d3,d4] (p0++(p1++(p2++(p3++p4)))):=⟨p0,p1++(p2++(p3++p4)),h0,trodAll_mk4 h1 h2 h3 h4,rfl⟩
theorem Ul {t0 t1 t2 t3 t4 t5:TypeId} {args:Array Value} {ds:List (DataW H)} {ps:List MemPlace}(h:DataW.TrodAll enc P w base spare held [t0,t1,t2,t3,t4,t5] args.toList ds ps):
  ∃v0 v1 v2 v3 v4 v5 d0 d1 d2 d3 d4 d5 p0 p1 p2 p3 p4 p5,args=#[v0,v1,v2,v3,v4,v5]/\ds=[d0,d1,d2,d3,d4,d5]/\ps=p0++(p1++(p2++(p3++(p4++p5))))/\DataW.Trod enc P w base spare held t0 v0 d0 p0/\DataW.Trod enc P w base spare held t1 v1 d1 p1/\DataW.Trod enc P w base spare held t2 v2 d2 p2/\DataW.Trod enc P w base spare held t3 v3 d3 p3/\DataW.Trod enc P w base spare held t4 v4 d4 p4/\DataW.Trod enc P w base spare held t5 v5 d5 p5:=by
 obtain⟨v0,vs0,d0,ds0,p0,q0,hargs,rfl,rfl,hd0,hr0⟩:=trodAll_cons h
 obtain⟨v1,vs1,d1,ds1,p1,q1,rfl,rfl,rfl,hd1,hr1⟩:=trodAll_cons hr0
 obtain⟨v2,vs2,d2,ds2,p2,q2,rfl,rfl,rfl,hd2,hr2⟩:=trodAll_cons hr1
 obtain⟨v3,vs3,d3,ds3,p3,q3,rfl,rfl,rfl,hd3,hr3⟩:=trodAll_cons hr2
 obtain⟨v4,vs4,d4,ds4,p4,q4,rfl,rfl,rfl,hd4,hr4⟩:=trodAll_cons hr3
 obtain⟨v5,vs5,d5,ds5,p5,q5,rfl,rfl,rfl,hd5,hr5⟩:=trodAll_cons hr4
 obtain⟨rfl,rfl,rfl⟩:=trodAll_nil hr5
 exact⟨v0,v1,v2,v3,v4,v5,d0,d1,d2,d3,d4,d5,p0,p1,p2,p3,p4,p5,by cases args;simp_all,rfl,by simp,hd0,hd1,hd2,hd3,hd4,hd5⟩
theorem Um {t0 t1 t2 t3 t4 t5:TypeId} {v0 v1 v2 v3 v4 v5:Value} {d0 d1 d2 d3 d4 d5:DataW H} {p0 p1 p2 p3 p4 p5:List MemPlace}(h0:DataW.Trod enc P w base spare held t0 v0 d0 p0)(h1:DataW.Trod enc P w base spare held t1 v1 d1 p1)
  (h2:DataW.Trod enc P w base spare held t2 v2 d2 p2) (h3:DataW.Trod enc P w base spare held t3 v3 d3 p3) (h4:DataW.Trod enc P w base spare held t4 v4 d4 p4) (h5:DataW.Trod enc P w base spare held t5 v5 d5 p5):DataW.TrodAll enc P w base spare held [t0,t1,t2,t3,t4,t5] [v0,v1,v2,v3,v4,v5] [d0,d1,d2,d3,d4,d5] (p0++(p1++(p2++(p3++(p4++p5))))):=⟨p0,p1++(p2++(p3++(p4++p5))),h0,Un h1 h2 h3 h4 h5,rfl⟩
end
end Go.Reg
namespace Go.Proofs.YtjejpdfldmempaaGreatDoor
open Go.ChangeShapes Go.WideShapes Go.ChangeAt Go.RowKit Go.Reg Go.Gr Go.Sx Go.ChangeMaps
def eO:Sx.Enc Opp:=⟨λe=>[.int .i64 e.kind,.int .i64 e.n],dO,2,λ_=>rfl,λn u hu=>by simp at hu;rcases hu with rfl|rfl<;>rfl,λO w n=>by simp[dO,Sx.RepC,Sx.RepCs]⟩
set_option maxRecDepth 100000 in
theorem uO {H:Type} {e':TypeId×Value->H} {w:World} {base:Nat} {spare:Nat->Bool} {held:Bool}(n:Nat)(cs:List Value)(y:DataW H×List MemPlace)
  (h:DataW.trod e' Tryz.prog w base spare held n 76 cs=some y):∃x:Opp,cs=eO.enc x/\True:=by
 obtain⟨xs,k,_,_,hcl,hxl,hf⟩:=DataW.trod_struct Tryz.underlying76 h
 have cl:cs.length=2:=hcl.trans (by kernel_rfl)
 match cs,cl with
 |
  [c0,c1],_=>
  have hx4:xs.length=2:=hxl
  match xs,hx4 with
  |
   [y0,y1],_=>
   have k3:Tryz.prog.cellsOf 3=1:=by kernel_rfl
   have g0:=hf 0 _ rfl
   have g1:=hf 1 _ rfl
   simp[k3]at g0 g1
   obtain⟨n0,h0,_⟩:=DataW.trod_int Tryz.underlying3 g0
   obtain⟨n1,h1,_⟩:=DataW.trod_int Tryz.underlying3 g1
   simp at h0 h1
   subst h0;subst h1
   exact⟨⟨n0,n1⟩,rfl,trivial⟩
end Go.Proofs.YtjejpdfldmempaaGreatDoor
end
section
namespace Go.Proofs.YtjejpdfldmempaaGreatDoor
open Go Go.Sx Go.RowKit Go.Reg Go.Gr
structure RowV where
 lv:Value
 ev:Value
 n:Int
 p:Pt
 h1:lv.oneCell'=true
 h2:ev.oneCell'=true
def J6(w:World)(G:List Nat):List Nat:=(List.range w.heap.size).filter (λb=>decide (b∉G))
theorem If {w:World} {G:List Nat} {b:Nat}:b∈J6 w G↔b<w.heap.size/\b∉G:=by unfold J6;rw[A5,AJ];simp
theorem GP {S G:List Nat} {w w':World}(t:Tch S w w')(hd:∀x∈G,x∉S):Later (J6 w G) w (J6 w' G) w':=
 ⟨t.size,λb hb hn=>t.blk b hb (hd b (by
  by_cases h:b∈G
  ·exact h
  ·exact absurd (If.2 ⟨hb,h⟩) hn)),λb hn hb hm=>hn (If.2 ⟨hb,(If.1 hm).2⟩)⟩
theorem Sa {G G':List Nat} {w:World}(h:∀x∈G,x∈G'):Later (J6 w G) w (J6 w G') w:=
 ⟨Az _,λ_ _ _=>rfl,λb hn hb hm=>hn (If.2 ⟨hb,λhg=>(If.1 hm).2 (h b hg)⟩)⟩
structure RowsR {P:Program}(M:MapE P ByteArray RowV)(m:List (ByteArray×RowV))(X:List (Value×Da))(w:World)(v:Value)(F:List Nat)(b:Nat)(G:List Nat):Prop where
 val:v=.map (some b)
 mem:∀x,x∈F↔x=b\/x∈G
 nb:b∉G
 lt:∀x∈F,x<w.heap.size
 map:C9 M.encK M.encV w b m
 ad:∀x∈X,RepC (J6 w G) w x.2 [x.1]
 rows:∀r∈m,RepC (J6 w G) w (AS r.2.p.labels) [r.2.lv]/\RepC (J6 w G) w (D0 r.2.p.edges) [r.2.ev]
def F7 {P:Program}(M:MapE P ByteArray RowV)(m:List (ByteArray×RowV))(X:List (Value×Da)):Absn where
 R w v F:=∃b G,RowsR M m X w v F b G
 keep:=by
  rintro S w w' v F ⟨b,G,h⟩ t hd
  have hG:∀x∈G,x∉S:=λx hx=>hd x ((h.mem x).2 (.inr hx))
  have hl:=GP t hG
  exact⟨b,G,h.val,h.mem,h.nb,λx hx=>CS (h.lt x hx) t.size,h.map.keep t (hd b ((h.mem b).2 (.inl rfl))),λx hx=>RepC.later hl _ _ (h.ad x hx),λr hr=>⟨RepC.later hl _ _ (h.rows r hr).1,RepC.later hl _ _ (h.rows r hr).2⟩⟩
 lt:=by rintro w v F ⟨b,G,h⟩ x hx;exact h.lt x hx
 one:=by rintro w v F ⟨b,G,h⟩;rw[h.val];rfl
section
variable {C:Cx} {n kd:Nat} {fr:Fr} {σ:Sg} {o:Oper} {K:Fr->Sg->Prop} {M:MapE C.P ByteArray RowV} {m:List (ByteArray×RowV)} {X:List (Value×Da)}
theorem LZ {B S:List Nat} {w0 w:World} {η:Nat->Value} {φ:Nat->List Nat}(hm:Mem C B S w0 σ η φ w) {i:Nat}(hg:BP i σ=some (F7 M m X).own):∃b G,RowsR M m X w (η i) (φ i) b G:=hm.own _ (Bm hg)
theorem XO(M:MapE C.P ByteArray RowV)(j:Nat)(ho:o.op=.makeMap M.t none)(hj:BP j σ=none)(hkd:kd=6\/kd=3)(hd:Dv o.dst n=true)
  (hK:Cf (F0 j (F7 M [] []).own σ) λσ=>K (C4 o.dst (.own j) fr) σ):Bd C n kd o K fr σ:=by
 rw[Bz]at hK
 refine CO (by rcases hkd with rfl|rfl<;>decide) (by rcases hkd with rfl|rfl<;>decide) λB S w0 η φ a w hM=>⟨λe=>(by rcases hkd with rfl|rfl<;>cases e),.inl ?_⟩
 obtain⟨η',φ',M'⟩:=hM.newAbs (Tch.alloc w (.map #[] 0) []) (r:=F7 M [] []) (v:=.map (some w.heap.size)) (F:=[w.heap.size]) (by simp) ⟨w.heap.size,[],rfl,λx=>(by simp),by simp,λx hx=>(by simp at hx;subst hx;simp),C9.new _ _ _,λx hx=>(by cases hx),λx hx=>(by cases hx)⟩ (Dy hj) hd
 refine⟨_,_,?_,_,_,_,_,M',hK⟩
 simp only[execOp,ho]
 exact Df (by rfl)
theorem Qe(i:Nat)(q:ByteArray) {x ix:Operand}(ho:o.op=.lookup M.t x ix true)(hx:ev C.Γ fr x=.own i)(hg:BP i σ=some (F7 M m X).own)(hix:ev C.Γ fr ix=.d (M.dK q))(hkd:kd≠5/\kd≠2)(hd:Dv o.dst n=true) {y:RowV} {bo:Bool}
  (hy:((get m q).getD M.z,(get m q).isSome)=(y,bo)) (hK:K (C4 o.dst (.d (.tuple [M.dV y,.bool bo])) fr) σ):Bd C n kd o K fr σ:=by
 refine BL hkd.1 hkd.2 hd λB S w0 η φ a w hM=>?_
 obtain⟨b,G,h⟩:=LZ hM.mem hg
 have e1:=IH (Be hM x) hx
 have e2:=M.repK _ _ _ _ (Ff (Be hM ix) hix)
 have hr:=h.map.lookup M.hk M.ht M.hz q true
 have hy1:((get m q).map M.encV).getD (M.encV M.z)=M.encV y:=by
  rw[<-(Prod.mk.inj hy).1];cases get m q<;>rfl
 rw[hy1,(Prod.mk.inj hy).2]at hr
 obtain⟨cs,g1,g2⟩:=M.ofV (B++Al φ σ) w y
 refine .inr ⟨_,.tuple #[M.encV y,.bool bo],hK,?_,⟨[.tuple #[M.encV y,.bool bo]],?_,rfl⟩,λ_=>by simp[Bo,ho]⟩
 ·simp only[execOp,ho]
  rw[e1,e2,h.val]
  exact Df hr
 ·simp only[A7,RepC,Am]
  exact⟨[cs,[.bool bo]],⟨cs,_,rfl,g1,[.bool bo],[],rfl,rfl,rfl⟩,by simp[g2,Ft]⟩
theorem sF {B:List Nat} {σ:Sg} {η:Nat->Value} {φ:Nat->List Nat} {w:World} {v a b:Value} {k:Int}(h:RD B σ η φ w (.agg [.agg [.d (.raw a),.d (.raw b)],.d (.int .i64 k)]) v):v=.agg #[a,b,.int .i64 k]:=by
 obtain⟨cs,h,rfl⟩:=h
 simp only[A7,Bc,RepC]at h
 obtain⟨_,_,rfl,⟨_,_,rfl,rfl,_,_,rfl,rfl,rfl⟩,_,_,rfl,rfl,rfl⟩:=h
 rfl
theorem Sb(i:Nat)(q:ByteArray)(y:RowV) {x ix vx:Operand}(ho:o.op=.mapUpdate M.t x ix vx)(hx:ev C.Γ fr x=.own i)(hg:BP i σ=some (F7 M m X).own)(hix:ev C.Γ fr ix=.d (M.dK q))(hv:∀{B:List Nat} {σ:Sg} {η:Nat->Value} {φ:Nat->List Nat} {w:World} {v:Value},RD B σ η φ w (ev C.Γ fr vx) v->v=M.encV y)
  (hy:∀(O:List Nat) (w:World),(∀x∈X,RepC O w x.2 [x.1])->(∀r∈m,RepC O w (AS r.2.p.labels) [r.2.lv]/\RepC O w (D0 r.2.p.edges) [r.2.ev])->RepC O w (AS y.p.labels) [y.lv]/\RepC O w (D0 y.p.edges) [y.ev]) (hkd:kd≠5/\kd≠2/\kd≠0) (hd:Dv o.dst n=true)
  (hK:Cf (BG id i (F7 M (put m q y) X).own σ) λσ=>K (C4 o.dst (.d .undef) fr) σ):Bd C n kd o K fr σ:=by
 rw[Bz]at hK
 refine CO hkd.1 hkd.2.1 λB S w0 η φ a w hM=>⟨λe=>absurd e hkd.2.2,.inr ?_⟩
 have e1:=IH (Be hM x) hx
 have e2:=M.repK _ _ _ _ (Ff (Be hM ix) hix)
 have e3:=hv (Be hM vx)
 obtain⟨b,G,h⟩:=LZ hM.mem hg
 obtain⟨w',hr,hm',ht⟩:=h.map.update M.hk M.ht q y
 have hi:=AY (Bm hg)
 have hX:∀c∈[b],c∈φ i:=λc hc=>by rw[AA.1 hc];exact(h.mem b).2 (.inl rfl)
 have hF:∀c∈φ i,c∈φ i\/w.heap.size<=c:=λc hc=>.inl hc
 have hlo:=GP ht (G:=G) (λx hx hb=>h.nb (by rw[<-AA.1 hb];exact hx))
 have hyr:=hy _ _ h.ad h.rows
 have hrows:∀r∈put m q y,RepC (J6 w' G) w' (AS r.2.p.labels) [r.2.lv]/\RepC (J6 w' G) w' (D0 r.2.p.edges) [r.2.ev]:=λr hrm=>by
  have hc:r∈m\/r=(q,y):=by
   unfold put at hrm
   split at hrm
   ·exact List.mem_or_eq_of_mem_set hrm
   ·rcases Ag.1 hrm with h1|h1
    ·exact .inl h1
    ·exact .inr (AA.1 h1)
  rcases hc with hc|rfl
  ·exact⟨RepC.later hlo _ _ (h.rows r hc).1,RepC.later hlo _ _ (h.rows r hc).2⟩
  ·exact⟨RepC.later hlo _ _ hyr.1,RepC.later hlo _ _ hyr.2⟩
 have hl:=Later.turn (σ:=σ) B ht hX hi hF id (F7 M (put m q y) X).own
 have hmm:=hM.mem.turnSame ht hX hi hF (o:=(F7 M (put m q y) X).own) ⟨b,G,h.val,h.mem,h.nb,λx hx=>CS (h.lt x hx) ht.size,hm',λx hx=>RepC.later hlo _ _ (h.ad x hx),hrows⟩
 have M':Models C B S w0 n fr _ η _ a w':=⟨hmm,hM.fr.later hl (λj hj=>⟨by rw[By];exact hj,rfl⟩),hM.defers,hM.size⟩
 refine⟨w',?_,_,_,_,_,M'.put hd ⟨[Go.undef],by simp[A7,RepC],rfl⟩,hK⟩
 simp only[execOp,ho]
 rw[e1,e2,e3,h.val]
 exact Ze hr
theorem J7 {T:FF}(hC:C.Ok T) {t:TypeId} {x v:Operand} {e:TyI} {ds:List Dat} {a b:Value} {k:Int}(j:Nat)(ho:o.op=.store t x v)(he:Fz t T=some e)(hes:e.size=3)(hx:ev C.Γ fr x=.own j)(hg:BP j σ=some (.cells t ds))(hds:KY ds=3)(hv:ev C.Γ fr v=.d (.agg [.agg [.raw a,.raw b],.int .i64 k]))(ha:a.oneCell'=true)(hb:b.oneCell'=true)(hkd:kd≠5/\kd≠2)(hd:Dv o.dst n=true)
  (hK:Cf (BG id j (.cells t [.d (.agg [.raw a,.raw b]),.d (.int .i64 k)]) σ) λσ=>K (C4 o.dst (.d .undef) fr) σ):Bd C n kd o K fr σ:=by
 rw[Bz]at hK
 refine CO hkd.1 hkd.2 λB S w0 η φ ac w hM=>⟨λ_=>by simp[Bo,ho],.inr ?_⟩
 have ht:=hC.ty he
 obtain⟨cx,hcx,e2⟩:=Ff (Be hM v) hv
 obtain⟨c1,h1,e1⟩:=by have:=Be hM x;rw[hx]at this;exact this
 simp only[A7]at h1
 obtain⟨_,rfl⟩:=h1
 simp only[RepC,RepCs]at hcx
 obtain⟨_,_,rfl,⟨_,_,rfl,rfl,_,_,rfl,rfl,rfl⟩,_,_,rfl,rfl,rfl⟩:=hcx
 obtain⟨g,cs,g1,g2,g3,g4⟩:=Dj hM.mem hg
 have hl:=HV _ _ g4
 rw[hds]at hl
 have hone:∀u∈[a,b,Value.int .i64 k],u.oneCell'=true:=by
  intro u hu
  simp only[An,I3,or_false]at hu
  rcases hu with rfl|rfl|rfl
  ·exact ha
  ·exact hb
  ·rfl
 obtain⟨w',r1,r2,r3⟩:=Hk.splice (P:=C.P) g3 (o:=0) (x:=[a,b,.int .i64 k]) (by rw[hl];simp) hone
 have e4:splice cs 0 [a,b,.int .i64 k]=[a,b,.int .i64 k]:=by simp[splice,hl]
 rw[e4]at r2
 have hT:=G0 hM.mem hg g1 g2 (ds':=[.d (.agg [.raw a,.raw b]),.d (.int .i64 k)]) (by
  simp only[Bc,A7,RepC,RepCs]
  exact⟨[a,b],_,rfl,⟨[a],_,rfl,rfl,[b],_,rfl,rfl,rfl⟩,_,_,rfl,rfl,rfl⟩) r2 r3
 have M':Models C B S w0 n fr _ η φ ac w':=⟨hT.1,hT.frame hM.fr,hM.defers,hM.size⟩
 refine⟨w',?_,_,_,_,_,M'.put hd ⟨[Go.undef],by simp[A7,RepC],rfl⟩,hK⟩
 simp only[execOp,ho]
 rw[e1,e2]
 refine Ze ?_
 simp only[BR,mX,Ft,g1]
 simp only[Instr.storeAt,Instr.sureAddr,A6,Bb,A3,storeVar,ht.sizeOf,hes]
 simp[Value.cells]
 simp[r1]
theorem _root_.Go.Sx.Mem.give {B S:List Nat} {w0 w:World} {η:Nat->Value} {φ:Nat->List Nat}(h:Mem C B S w0 σ η φ w) {i j:Nat}(hi:i∈B3 σ)(hj:j∈B3 σ)(hij:i≠j) {F:List Nat}(hF:∀b,b∈F↔b∈φ i\/b∈φ j) {r:Absn}(h1:r.R w (η i) F) {x:Da}(hx:x.one=true)(hxr:∀O,RepC O w x [η j]):
  Mem C B S w0 (Di (BH j x) j (BG id i r.own σ)) η (DB φ i F) w/\Later (B++Al φ σ) w (B++Al (DB φ i F) (Di (BH j x) j (BG id i r.own σ))) w:=by
 have hids:B3 (Di (BH j x) j (BG id i r.own σ))=(B3 σ).filter (· !=j):=by rw[Em,By]
 have hin:∀k,k∈B3 (Di (BH j x) j (BG id i r.own σ))↔k∈B3 σ/\k≠j:=λk=>by rw[hids,A5];simp
 have e3:∀k,k≠i->DB φ i F k=φ k:=λk a=>CD _ _ _ a
 have mb:∀{φ:Nat->List Nat} {σ:Sg} {b:Nat},b∈Al φ σ↔∃k∈B3 σ,b∈φ k:=⟨λh=>by obtain⟨p,hp,hb⟩:=AG.1 h;exact⟨p.1,AY hp,hb⟩,λ⟨_,hk,hb⟩=>Bf hk hb⟩
 have hO:∀b,b∈B++Al (DB φ i F) (Di (BH j x) j (BG id i r.own σ))↔b∈B++Al φ σ:=λb=>by
  simp only[Ag,mb,hin]
  refine or_congr Iff.rfl ⟨?_,?_⟩
  ·rintro⟨k,⟨hk,hkj⟩,hb⟩
   by_cases e:k=i
   ·subst e;rw[Db]at hb
    rcases(hF b).1 hb with hb|hb
    ·exact⟨k,hk,hb⟩
    ·exact⟨j,hj,hb⟩
   ·rw[e3 k e]at hb;exact⟨k,hk,hb⟩
  ·rintro⟨k,hk,hb⟩
   by_cases e:k=i
   ·subst e;exact⟨k,⟨hk,hij⟩,by rw[Db];exact(hF b).2 (.inl hb)⟩
   ·by_cases e2:k=j
    ·subst e2;exact⟨i,⟨hi,hij⟩,by rw[Db];exact(hF b).2 (.inr hb)⟩
    ·exact⟨k,⟨hk,e2⟩,by rw[e3 k e];exact hb⟩
 have hl:Later (B++Al φ σ) w (B++Al (DB φ i F) (Di (BH j x) j (BG id i r.own σ))) w:=⟨Az _,λ_ _ _=>rfl,λb hn _ hm=>hn ((hO b).1 hm)⟩
 have hcov:∀k,k∈B3 σ->k≠j->∀b∈DB φ i F k,b∈φ k\/(k=i/\b∈φ j):=λk hk _ b hb=>by
  by_cases e:k=i
  ·subst e;rw[Db]at hb
   rcases(hF b).1 hb with hb|hb
   ·exact .inl hb
   ·exact .inr ⟨rfl,hb⟩
  ·rw[e3 k e]at hb;exact .inl hb
 refine⟨⟨h.tch,?_,?_,?_,?_,h.out,λg hg=>(h.glob g hg).later hl⟩,hl⟩
 ·intro p hp
  obtain⟨q,hq,hqj,rfl⟩:=EC hp
  rcases Ie hq with rfl|⟨q',hq',hqi,rfl⟩
  ·simp only[Db];exact h1
  ·simp only[e3 q'.1 hqi]
   exact(h.own q' hq').kill hx hl (λk hk hkj=>⟨(hin k).2 ⟨hk,hkj⟩,rfl⟩) (hxr _) (Tch.refl [] w) (λ_ _=>by simp)
 ·rw[hids];exact h.nodup.filter _
 ·intro k hk m hm hkm b hb1 hb2
  obtain⟨hk,hkj⟩:=(hin k).1 hk
  obtain⟨hm,hmj⟩:=(hin m).1 hm
  rcases hcov k hk hkj b hb1 with g1|⟨e1,g1⟩<;>rcases hcov m hm hmj b hb2 with g2|⟨e2,g2⟩
  ·exact h.disj k hk m hm hkm b g1 g2
  ·exact h.disj k hk j hj hkj b g1 g2
  ·exact h.disj m hm j hj hmj b g2 g1
  ·exact hkm (e1.trans e2.symm)
 ·intro k hk b hb
  obtain⟨hk,hkj⟩:=(hin k).1 hk
  rcases hcov k hk hkj b hb with g1|⟨_,g1⟩
  ·exact h.new k hk b g1
  ·exact h.new j hj b g1
theorem Rc(i j:Nat) {q:Bool} {f:FuncId} {args:List Dat} {K:KD} {E k:Nat} {ds:List Da}(hg:BP i σ=some (F7 M m X).own)(hj:BP j σ=some (.slice E k ds))(hfl:Fg ds=true)
  (h:∀u,u.oneCell'=true->BU C q f (Fw j (.raw u) args) K (EZ j (.raw u) fr) (Di (BH j (.raw u)) j (BG id i (F7 M m ((u,.list k ds)::X)).own σ))):BU C q f args K fr σ:=by
 unfold BU at h⊢
 rintro B S w0 η φ n a w vs hM ⟨css,hr,rfl⟩
 obtain⟨b,G,hb⟩:=LZ hM.mem hg
 obtain⟨cs,hs,ej,hrj,hkk⟩:=B8 hM.mem hj
 have hi:=AY (Bm hg)
 have hj':=AY (Bm hj)
 have hij:i≠j:=λe=>by rw[e,hj]at hg;cases hg
 have hbj:b∉φ j:=λhm=>hM.mem.disj i hi j hj' hij b ((hb.mem b).2 (.inl rfl)) hm
 have hmore:=Sa (w:=w) (G:=G) (G':=G++φ j) (λx hx=>A2 _ hx)
 have hlist:RepC (J6 w (G++φ j)) w (.list k ds) [η j]:=by
  have hlen:=CL hrj
  have hr2:=Am.flat (O':=J6 w (G++φ j)) (w':=w) ds cs hfl hrj
  simp only[RepC]
  rcases hs.shape with⟨he,hn⟩|⟨g,cap,he,hc⟩
  ·subst hn
   have:ds=[]:=AF hlen.symm
   subst this
   exact⟨none,0,[],by rw[he];rfl,by simp,by unfold maxLen;omega,by simp[Am],by simp,.inl rfl⟩
  ·have hgi:g∈φ j:=by rw[ej,he];simp[Value.ownBlock]
   refine⟨_,cap,cs,by rw[he,hlen],by omega,?_,hr2,hkk,.inr ⟨g,0,rfl,λhm=>(If.1 hm).2 (Ap _ hgi),hs.lt (by rw[he];rfl),HQ hs he⟩⟩
   rcases hs.2 with⟨h1,_⟩|⟨_,_,_,h1,_,_,_,h2,_⟩
   ·rw[he]at h1;cases h1
   ·rw[he]at h1;cases h1;exact h2
 have hR:(F7 M m ((η j,.list k ds)::X)).R w (η i) (φ i++φ j):=by
  refine⟨b,G++φ j,hb.val,λx=>?_,λhm=>?_,λx hx=>?_,hb.map,λx hx=>?_,λr hr=>⟨RepC.later hmore _ _ (hb.rows r hr).1,RepC.later hmore _ _ (hb.rows r hr).2⟩⟩
  ·rw[Ag,Ag,hb.mem]
   constructor
   ·rintro((h|h)|h)
    ·exact .inl h
    ·exact .inr (.inl h)
    ·exact .inr (.inr h)
   ·rintro(h|h|h)
    ·exact .inl (.inl h)
    ·exact .inl (.inr h)
    ·exact .inr h
  ·rcases Ag.1 hm with h|h
   ·exact hb.nb h
   ·exact hbj h
  ·rcases Ag.1 hx with h|h
   ·exact hb.lt x h
   ·exact hM.mem.lt x (Ap _ (Bf hj' h))
  ·rcases An.1 hx with rfl|hx
   ·exact hlist
   ·exact RepC.later hmore _ _ (hb.ad x hx)
 have hraw:∀O,RepC O w (.raw (η j)) [η j]:=λO=>by simp only[RepC]
 obtain⟨hm2,hl2⟩:=hM.mem.give hi hj' hij (F:=φ i++φ j) (λx=>Ag) hR (x:=.raw (η j)) rfl hraw
 have hI:∀x∈B3 σ,x≠j->x∈B3 (Di (BH j (.raw (η j))) j (BG id i (F7 M m ((η j,.list k ds)::X)).own σ))/\η x=η x:=λx hx hne=>⟨by rw[Em,By];exact A5.2 ⟨hx,by simpa using hne⟩,rfl⟩
 have hk2:=A9.kill (i:=j) (x:=.raw (η j)) rfl hl2 hI (hraw _) args css hr
 exact h (η j) (hM.mem.oneV j hj') B S w0 η _ n a w _ ⟨hm2,hM.fr.kill rfl hl2 hI (hraw _),hM.defers,hM.size⟩ ⟨css,hk2,by rw[EP rfl]⟩
end
end Go.Proofs.YtjejpdfldmempaaGreatDoor
end
section
namespace Go.Reg
open Go Go.RowKit
section
variable {K V:Type} {P:Program} {encK:K->Value} {encV:V->Value}
def MI(es:List MapEntry)(l:List (K×V))(seen:Array Nat):List (K×V):=((es.zip l).filter (λx=>!seen.contains x.1.born)).map (·.2)
theorem RX {α:Type}(g:α->Nat)(f:Nat->Bool)(x:α):∀Z:List α,(Z.map g).Nodup->x∈Z->f (g x)=true->(Z.filter (λy=>f (g y))).Perm (x::Z.filter (λy=>f (g y)&&g y !=g x))
 |[],_,hx,_=>by simp at hx
 |
  z::zs,hn,hx,hf=>by
  simp only[Au,Ck]at hn
  by_cases hz:x=z
  ·subst hz
   have e:zs.filter (λy=>f (g y)&&g y !=g x)=zs.filter (λy=>f (g y)):=List.filter_congr λy hy=>by
    have:g y≠g x:=λe=>hn.1 (by rw[<-e];exact Ar.2 ⟨y,hy,rfl⟩)
    simp[this]
   simp[hf,e]
  ·have hx':x∈zs:=by simp[hz]at hx;exact hx
   have ih:=RX g f x zs hn.2 hx' hf
   have hne:g z≠g x:=λe=>hn.1 (by rw[e];exact Ar.2 ⟨x,hx',rfl⟩)
   by_cases h:f (g z)=true
   ·simp only[NX,h,if_true,FE,bne_iff_ne,ne_eq,hne,not_false_eq_true]
    exact(ih.cons z).trans (List.Perm.swap x z _)
   ·simp only[NX,h,L4,Cn,if_false]
    simpa using ih
def EM(encK:K->Value)(encV:V->Value)(w:World)(r b:Nat)(l todo:List (K×V)):Prop:=
 ∃(es:Array MapEntry) (clock since:Nat) (seen:Array Nat) (c0:Nat),w.heap[r]? =some (.mapIter (some b) since seen c0)/\w.heap[b]? =some (.map es clock)/\Holds encK encV es clock l/\since<=c0/\since<=clock/\(∀x∈es.toList,x.born<since)/\todo=MI es.toList l seen
def OU(encK:K->Value)(encV:V->Value)(w:World)(r b:Nat)(l todo:List (K×V))(p:K×V):Prop:=
 ∃(es:Array MapEntry) (clock since:Nat) (seen:Array Nat),∃e∈es.toList,w.heap[r]? =some (.mapIter (some b) since (seen.push e.born) clock)/\w.heap[b]? =some (.map es clock)/\Holds encK encV es clock l/\since<=clock/\(∀x∈es.toList,x.born<since)/\
  todo=MI es.toList l (seen.push e.born)/\e.key=encK p.1/\e.val=encV p.2
variable {w w':World} {r b:Nat} {l todo:List (K×V)} {p:K×V} {S:List Nat}
theorem EM.keep(h:EM encK encV w r b l todo)(t:Tch S w w')(hr:r∉S)(hb:b∉S):EM encK encV w' r b l todo:=by
 obtain⟨es,clock,since,seen,c0,h1,h2,h3⟩:=h
 exact⟨es,clock,since,seen,c0,by rw[t.blk r (A8.1 h1).1 hr];exact h1,by rw[t.blk b (A8.1 h2).1 hb];exact h2,h3⟩
theorem OU.keep(h:OU encK encV w r b l todo p)(t:Tch S w w')(hr:r∉S)(hb:b∉S):OU encK encV w' r b l todo p:=by
 obtain⟨es,clock,since,seen,e,he,h1,h2,h3⟩:=h
 exact⟨es,clock,since,seen,e,he,by rw[t.blk r (A8.1 h1).1 hr];exact h1,by rw[t.blk b (A8.1 h2).1 hb];exact h2,h3⟩
theorem OU.iter(h:OU encK encV w r b l todo p):EM encK encV w r b l todo:=by
 obtain⟨es,clock,since,seen,e,he,h1,h2,h3,h4,h5,h6,_⟩:=h
 exact⟨es,clock,since,_,clock,h1,h2,h3,h4,h4,h5,h6⟩
theorem EM.mapAt(h:EM encK encV w r b l todo):C9 encK encV w b l:=by
 obtain⟨es,clock,since,seen,c0,h1,h2,h3,_⟩:=h
 exact C9.holds.2 ⟨es,clock,h2,h3⟩
theorem EM.lt(h:EM encK encV w r b l todo):r<w.heap.size:=by
 obtain⟨es,clock,since,seen,c0,h1,_⟩:=h
 exact(A8.1 h1).1
theorem EM.ne(h:EM encK encV w r b l todo):r≠b:=by
 obtain⟨es,clock,since,seen,c0,h1,h2,_⟩:=h
 intro e;subst e;rw[h1]at h2;cases h2
theorem Rd {es:List MapEntry}(h:es.Pairwise (λx y=>x.born<y.born)):(es.map (·.born)).Nodup:=by
 rw[List.nodup_iff_pairwise_ne,B6]
 exact h.imp (λh=>Nat.ne_of_lt h)
theorem C9.range(h:C9 encK encV w b l) {t kt e:TypeId}(ht:P.underlying t=some (.map kt e)):
  ∃w',(Instr.range t (.map (some b))).run P w=.ok (.pointer (some ⟨w.heap.size,0,none⟩)) w'/\EM encK encV w' w.heap.size b l l/\Tch [] w w':=by
 obtain⟨es,clock,h2,h3⟩:=C9.holds.1 h
 have hlt:=h.lt
 refine⟨_,run_range_map w t kt e b es clock ht h2,⟨es,clock,clock,#[],clock,(TV w _).1,((TV w _).2 b hlt).trans h2,h3,Az _,Az _,h3.clock,?_⟩,Tch.alloc _ _ _⟩
 have:es.toList.length=l.length:=by simpa using congrArg List.length h3.keys
 have e2:=List.map_snd_zip (l₁:=es.toList) (l₂:=l) (Nat.le_of_eq this.symm)
 have e3:(es.toList.zip l).filter (λ_=>true)=es.toList.zip l:=E3.2 (λ_ _=>rfl)
 simp only[MI,Array.contains_empty,Bool.not_false,e3]
 exact e2.symm
theorem EM.next(h:EM encK encV w r b l todo)(ty:TypeId):
  (todo=[]/\(Instr.next (.pointer (some ⟨r,0,none⟩)) false ty).run P w=.ok (.tuple #[.bool false]) w)\/
  ∃p todo' w',todo.Perm (p::todo')/\(Instr.next (.pointer (some ⟨r,0,none⟩)) false ty).run P w=.ok (.tuple #[.bool true,encK p.1,encV p.2]) w'/\OU encK encV w' r b l todo' p/\Tch [r] w w':=by
 have hne:=h.ne
 have hrl:=h.lt
 obtain⟨es,clock,since,seen,c0,h1,h2,h3,h4,h4',h5,rfl⟩:=h
 have hlen:es.toList.length=l.length:=by simpa using congrArg List.length h3.keys
 have hfst:(es.toList.zip l).map (·.1)=es.toList:=List.map_fst_zip (Nat.le_of_eq hlen)
 have hbn:((es.toList.zip l).map (λx=>x.1.born)).Nodup:=by
  rw[show(es.toList.zip l).map (λx=>x.1.born)=((es.toList.zip l).map (·.1)).map (·.born)by simp,hfst]
  exact Rd h3.born
 rcases run_next_at (P:=P) w ty r b since c0 seen es clock h1 h2 h5 h4 with⟨h0,hr⟩|⟨e,he,w1,hw1,hr⟩
 ·left
  refine⟨?_,hr⟩
  have h0':es.toList.filter (λe=>!seen.contains e.born)=[]:=by
   rw[<-Array.toList_filter];exact AF h0
  unfold MI
  rw[List.map_eq_nil_iff,lZ]
  intro x hx
  have hm:x.1∈es.toList:=by rw[<-hfst];exact Ar.2 ⟨x,hx,rfl⟩
  exact lZ.1 h0' x.1 hm
 ·right
  have he':e∈es.toList/\(!seen.contains e.born)=true:=by
   unfold leftOf at he
   rw[Array.toList_filter,A5]at he
   exact he
  obtain⟨i,hi⟩:=List.getElem?_of_mem he'.1
  have hil:i<l.length:=by rw[<-hlen];exact(Ae.1 hi).1
  have hl:l[i]? =some l[i]:=Aa hil
  have hk:e.key=encK (l[i]).1:=by
   have:=congrArg (·[i]?) h3.keys
   simpa[hi,hl]using this
  have hv:e.val=encV (l[i]).2:=by
   have:=congrArg (·[i]?) h3.vals
   simpa[hi,hl]using this
  have hz:(e,l[i])∈es.toList.zip l:=AB (i:=i) (by rw[List.getElem?_zip_eq_some];exact⟨hi,hl⟩)
  have hp:=RX (λx:MapEntry×(K×V)=>x.1.born) (λn=>!seen.contains n) (e,l[i]) (es.toList.zip l) hbn hz he'.2
  have hw1b:∀k:Nat,w1.heap[k]? =w.heap[k]? :=by rcases hw1 with rfl|rfl<;>exactλ_=>rfl
  have hsz:w1.heap.size=w.heap.size:=by rcases hw1 with rfl|rfl<;>rfl
  refine⟨l[i],MI es.toList l (seen.push e.born),_,?_,by rw[<-hk,<-hv];exact hr,⟨es,clock,since,seen,e,he'.1,?_,?_,h3,h4',h5,rfl,hk,hv⟩,?_⟩
  ·have:=hp.map (·.2)
   unfold MI
   refine this.trans (List.Perm.of_eq ?_)
   simp only[Au]
   congr 2
   refine List.filter_congr λx _=>?_
   rw[Array.contains_push,Bool.not_or]
   congr 1
  ·simp[ChangeMaps.setBlock,hsz,hrl]
  ·simp[ChangeMaps.setBlock,Array.getElem?_setIfInBounds_ne hne,hw1b,h2]
  ·have ht:Tch [r] w w1:=by rcases hw1 with rfl|rfl<;>first|exact Tch.refl _ _|exact Tch.drew _ _
   exact ht.trans0 (Kh w1 r _)
theorem OU.entry(h:OU encK encV w r b l todo p):(Instr.entry (.pointer (some ⟨r,0,none⟩))).run P w=.ok (.tuple #[encK p.1,encV p.2]) w:=by
 obtain⟨es,clock,since,seen,e,he,h1,h2,h3,h4,h5,h6,hk,hv⟩:=h
 rw[run_entry_at w r b since seen es clock e h1 h2 he (Rd h3.born),hk,hv]
end
end Go.Reg
end
section
namespace Go.Sx
open Go Go.RowKit Go.Reg
mutual
def ren(ρ:Nat->Nat):Dat->Dat
 |.d x=>.d x
 |.own i=>.own (ρ i)
 |.at_ i o=>.at_ (ρ i) o
 |.el i k n o=>.el (ρ i) k n o
 |.agg ds=>.agg (J3 ρ ds)
 |.tuple ds=>.tuple (J3 ρ ds)
 |.iface t d=>.iface t (ren ρ d)
 |.func fn f c=>.func fn (J3 ρ f) (J3 ρ c)
def J3(ρ:Nat->Nat):List Dat->List Dat
 |[]=>[]
 |d::ds=>ren ρ d::J3 ρ ds
end
def sD(ρ:Nat->Nat):Own->Own
 |.cells T ds=>.cells T (J3 ρ ds)
 |.slice E k ds=>.slice E k ds
 |.abs R h l o=>.abs R h l o
 |.ghost vs ds=>.ghost vs (J3 ρ ds)
def F8(ρ:Nat->Nat):Sg->Sg
 |[]=>[]
 |(i,o)::σ=>(ρ i,sD ρ o)::F8 ρ σ
def lk:List (Nat×Nat)->Nat->Nat
 |[],i=>i
 |
  (a,b)::l,i=>match Nat.beq a i with
  |true=>b
  |false=>lk l i
def GK:List (Nat×Nat)->List (Nat×Nat)
 |[]=>[]
 |(a,b)::l=>(b,a)::GK l
def Eb(J:List Nat):Sg->Sg
 |[]=>[]
 |
  (i,o)::σ=>match EB i J with
  |true=>Eb J σ
  |false=>(i,o)::Eb J σ
def Oh(J:List Nat):Fr->Fr
 |[]=>[]
 |
  (t,d)::fr=>match DA J d with
  |true=>(t,d)::Oh J fr
  |false=>(t,.d .undef)::Oh J fr
def Jk(a b:List (Nat×Nat)):List Nat->Bool
 |[]=>true
 |i::l=>Nat.beq (lk b (lk a i)) i&&Jk a b l
def Nc(a:List (Nat×Nat))(J:List Nat):List Nat->Bool
 |[]=>true
 |i::l=>!(EB (lk a i) J)&&Nc a J l
def kE(a:List (Nat×Nat)):List Nat->List Nat
 |[]=>[]
 |i::l=>lk a i::kE a l
theorem Jo(ρ:Nat->Nat)(d:Dat)(cs:List Value):BR (ren ρ d) cs=BR d cs:=by cases d<;>rfl
theorem Ke(ρ:Nat->Nat):∀(ds:List Dat) (css:List (List Value)),List.zipWith BR (J3 ρ ds) css=List.zipWith BR ds css
 |[],_=>by simp[J3]
 |d::ds,[]=>by simp
 |d::ds,c::css=>by simp only[J3,AT,Jo,Ke ρ ds css]
section
variable {η η':Nat->Value} {I I' J O O':List Nat} {w w':World} {ρ:Nat->Nat}
mutual
theorem A7.move(hl:Later O w O' w')(h:∀i∈J,i∈I->ρ i∈I'/\η' (ρ i)=η i):∀(d:Dat) (cs:List Value),DA J d=true->A7 η I O w d cs->A7 η' I' O' w' (ren ρ d) cs
 |.d x,cs,_,r=>RepC.later hl x cs r
 |.own i,cs,hw,r=>by simp only[A7,ren]at r⊢;obtain⟨a,b⟩:=h i (EU hw) r.1;exact⟨a,by rw[b];exact r.2⟩
 |.at_ i off,cs,hw,r=>by simp only[A7,ren]at r⊢;obtain⟨a,b⟩:=h i (EU hw) r.1;exact⟨a,by rw[b];exact r.2⟩
 |.el i k n off,cs,hw,r=>by simp only[A7,ren]at r⊢;obtain⟨a,b⟩:=h i (EU hw) r.1;exact⟨a,by rw[b];exact r.2⟩
 |.agg ds,cs,hw,r=>by simp only[A7,ren]at r⊢;exact Bc.move hl h ds cs (by simpa only[DA]using hw) r
 |.tuple ds,cs,hw,r=>by simp only[A7,ren]at r⊢;obtain⟨css,h1,h2⟩:=r;exact⟨css,A9.move hl h ds css (by simpa only[DA]using hw) h1,by rw[Ke];exact h2⟩
 |.iface t d,cs,hw,r=>by simp only[A7,ren]at r⊢;obtain⟨c,h1,h2⟩:=r;exact⟨c,A7.move hl h d c (by simpa only[DA]using hw) h1,by rw[Jo];exact h2⟩
 |
  .func fn f c,cs,hw,r=>by
  simp only[A7,ren]at r⊢
  simp only[DA,Ai]at hw
  obtain⟨fs,cs',h1,h2,h3⟩:=r
  exact⟨fs,cs',A9.move hl h f fs hw.1 h1,A9.move hl h c cs' hw.2 h2,by rw[Ke,Ke];exact h3⟩
theorem Bc.move(hl:Later O w O' w')(h:∀i∈J,i∈I->ρ i∈I'/\η' (ρ i)=η i):∀(ds:List Dat) (cs:List Value),D6 J ds=true->Bc η I O w ds cs->Bc η' I' O' w' (J3 ρ ds) cs
 |[],cs,_,r=>r
 |
  d::ds,cs,hw,r=>by
  simp only[Bc,J3]at r⊢
  simp only[D6,Ai]at hw
  obtain⟨c1,c2,h1,h2,h3⟩:=r
  exact⟨c1,c2,h1,A7.move hl h d c1 hw.1 h2,Bc.move hl h ds c2 hw.2 h3⟩
theorem A9.move(hl:Later O w O' w')(h:∀i∈J,i∈I->ρ i∈I'/\η' (ρ i)=η i):∀(ds:List Dat) (cs:List (List Value)),D6 J ds=true->A9 η I O w ds cs->A9 η' I' O' w' (J3 ρ ds) cs
 |[],cs,_,r=>r
 |
  d::ds,cs,hw,r=>by
  simp only[A9,J3]at r⊢
  simp only[D6,Ai]at hw
  obtain⟨c1,c2,h1,h2,h3⟩:=r
  exact⟨c1,c2,h1,A7.move hl h d c1 hw.1 h2,A9.move hl h ds c2 hw.2 h3⟩
end
theorem Own.holds.move {o:Own} {v:Value} {F S:List Nat}(hl:Later O w O' w')(h:∀i∈J,i∈I->ρ i∈I'/\η' (ρ i)=η i)(hw:OY J o=true)(ht:Tch S w w')(hF:∀x∈F,x∉S)(r:o.holds η I O w v F):(sD ρ o).holds η' I' O' w' v F:=by
 cases o with
 |
  cells T ds=>
  obtain⟨b,cs,h1,h2,h3,h4⟩:=r
  exact⟨b,cs,h1,h2,h3.keep ht (hF b (by rw[h2];simp)),Bc.move hl h _ _ hw h4⟩
 |
  slice E k ds=>
  obtain⟨css,h1,h2,h3,h4⟩:=r
  exact⟨css,h1.keep ht (λb hb=>hF b (by rw[h2];simpa using hb)),h2,Am.later hl _ _ h3,h4⟩
 |abs R k lt one=>exact k S w w' v F r ht hF
 |ghost vs ds=>obtain⟨h1,h2,css,h3,h4⟩:=r;exact⟨h1,h2,css,A9.move hl h _ _ hw h3,by rw[Ke];exact h4⟩
end
theorem Fe {ρ:Nat->Nat}:∀{σ:Sg} {p:Nat×Own},p∈F8 ρ σ↔∃q∈σ,p=(ρ q.1,sD ρ q.2)
 |[],p=>by simp[F8]
 |
  (i,o)::σ,p=>by
  simp only[F8,An,Fe (σ:=σ)]
  constructor
  ·rintro(rfl|⟨q,hq,rfl⟩)
   ·exact⟨(i,o),.inl rfl,rfl⟩
   ·exact⟨q,.inr hq,rfl⟩
  ·rintro⟨q,rfl|hq,rfl⟩
   ·exact .inl rfl
   ·exact .inr ⟨q,hq,rfl⟩
theorem CM {ρ:Nat->Nat}:∀(σ:Sg),B3 (F8 ρ σ)=(B3 σ).map ρ
 |[]=>rfl
 |(i,o)::σ=>by have:=CM (ρ:=ρ) σ;simp only[B3,F8,Au]at this⊢;rw[this]
theorem GG {a b:List (Nat×Nat)}:∀{l:List Nat},Jk a b l=true->∀i∈l,lk b (lk a i)=i
 |[],_,i,hi=>by cases hi
 |
  j::l,h,i,hi=>by
  simp only[Jk,Ai]at h
  rcases An.1 hi with rfl|hi
  ·exact Ao h.1
  ·exact GG h.2 i hi
theorem Qh {a:List (Nat×Nat)} {J:List Nat}:∀{l:List Nat},Nc a J l=true->∀i∈l,lk a i∉J
 |[],_,i,hi=>by cases hi
 |
  j::l,h,i,hi=>by
  simp only[Nc,Ai,B7]at h
  rcases An.1 hi with rfl|hi
  ·exact Id h.1
  ·exact Qh h.2 i hi
theorem Zy {a:List (Nat×Nat)}:∀{l:List Nat} {i:Nat},i∈kE a l->∃k∈l,i=lk a k
 |[],i,h=>by cases h
 |
  j::l,i,h=>by
  simp only[kE,An]at h
  rcases h with rfl|h
  ·exact⟨j,by simp,rfl⟩
  ·obtain⟨k,hk,e⟩:=Zy h;exact⟨k,by simp[hk],e⟩
theorem Iv {J:List Nat}:∀{σ:Sg} {p:Nat×Own},p∈Eb J σ->p∈σ/\p.1∉J
 |[],p,h=>by simp[Eb]at h
 |
  (i,o)::σ,p,h=>by
  simp only[Eb]at h
  cases hn:EB i J<;>rw[hn]at h
  ·simp only[An]at h
   rcases h with rfl|h
   ·exact⟨by simp,Id hn⟩
   ·obtain⟨h1,h2⟩:=Iv h;exact⟨by simp[h1],h2⟩
  ·obtain⟨h1,h2⟩:=Iv h;exact⟨by simp[h1],h2⟩
theorem Mi {J:List Nat}:∀{σ:Sg} {p:Nat×Own},p∈Fa J σ->p∈σ/\p.1∈J
 |[],p,h=>by simp[Fa]at h
 |
  (i,o)::σ,p,h=>by
  simp only[Fa]at h
  cases hn:EB i J<;>rw[hn]at h
  ·obtain⟨h1,h2⟩:=Mi h;exact⟨by simp[h1],h2⟩
  ·simp only[An]at h
   rcases h with rfl|h
   ·exact⟨by simp,EU hn⟩
   ·obtain⟨h1,h2⟩:=Mi h;exact⟨by simp[h1],h2⟩
theorem G4 {J:List Nat}:∀{σ:Sg} {p:Nat×Own},p∈σ->p∈Fa J σ\/p∈Eb J σ
 |
  (i,o)::σ,p,h=>by
  simp only[Fa,Eb]
  cases hn:EB i J
  ·rcases An.1 h with rfl|h
   ·exact .inr (by simp)
   ·rcases G4 (J:=J) h with h|h
    ·exact .inl h
    ·exact .inr (by simp[h])
  ·rcases An.1 h with rfl|h
   ·exact .inl (by simp)
   ·rcases G4 (J:=J) h with h|h
    ·exact .inl (by simp[h])
    ·exact .inr h
theorem JE {J:List Nat}:∀{σ:Sg},(B3 σ).Nodup->(B3 (Fa J σ)).Nodup
 |[],_=>by simp[Fa,B3]
 |
  (i,o)::σ,h=>by
  have h':i∉B3 σ/\(B3 σ).Nodup:=Ck.1 h
  simp only[Fa]
  cases EB i J
  ·exact JE h'.2
  ·exact Ck.2 ⟨λhm=>by
    obtain⟨p,hp,e⟩:=Ar.1 hm
    have e':p.1=i:=e
    exact h'.1 (e'▸AY (Mi hp).1),JE h'.2⟩
theorem JU {J:List Nat}:∀{σ:Sg},(B3 σ).Nodup->(B3 (Eb J σ)).Nodup
 |[],_=>by simp[Eb,B3]
 |
  (i,o)::σ,h=>by
  have h':i∉B3 σ/\(B3 σ).Nodup:=Ck.1 h
  simp only[Eb]
  cases EB i J
  ·exact Ck.2 ⟨λhm=>by
    obtain⟨p,hp,e⟩:=Ar.1 hm
    have e':p.1=i:=e
    exact h'.1 (e'▸AY (Iv hp).1),JU h'.2⟩
  ·exact JU h'.2
theorem MR {J:List Nat}:∀{fr:Fr} (t:Nat),get (Oh J fr) t=.d .undef\/get (Oh J fr) t=get fr t/\DA J (get fr t)=true
 |[],t=>.inl rfl
 |
  (s,d)::fr,t=>by
  simp only[Oh]
  cases hw:DA J d<;>simp only[get]
  ·cases Nat.beq s t
   ·exact MR t
   ·exact .inl rfl
  ·cases Nat.beq s t
   ·exact MR t
   ·exact .inr ⟨rfl,hw⟩
theorem Ks {f:Nat->Nat}:∀{l:List Nat},(∀x∈l,∀y∈l,f x=f y->x=y)->l.Nodup->(l.map f).Nodup
 |[],_,_=>by simp
 |
  a::l,h,hn=>by
  have hn':a∉l/\l.Nodup:=Ck.1 hn
  simp only[Au]
  refine Ck.2 ⟨λhm=>?_,Ks (λx hx y hy=>h x (by simp[hx]) y (by simp[hy])) hn'.2⟩
  obtain⟨b,hb,e⟩:=Ar.1 hm
  exact hn'.1 (h b (by simp[hb]) a (by simp) e▸hb)
def DQ(C:Cx)(f:FuncId)(args:List Dat)(σ0:Sg)(ks:List Nat)(Q:Dat->Sg->Prop):Prop:=
 ∀(B S:List Nat) (w:World) (η:Nat->Value) (φ:Nat->List Nat) (css:List (List Value)),Mem C B S w σ0 η φ w->A9 η (B3 σ0) (B++Al φ σ0) w args css->
  (callFunc f (List.zipWith BR args css).toArray).run C.P w=.ok (.enter f (List.zipWith BR args css).toArray) w/\
  Calls C.P f (List.zipWith BR args css).toArray w λe w'=>∃v d σ1 η1 φ1,e=.returned v/\Q d σ1/\Mem C B S w σ1 η1 φ1 w'/\(∃cs,A7 η1 (B3 σ1) (B++Al φ1 σ1) w' d cs/\v=BR d cs)/\∀k∈ks,k∈B3 σ1/\η1 k=η k
section
variable {C:Cx} {T:FF} {fr:Fr} {σ σ0:Sg}
theorem Wt(m:List (Nat×Nat))(J:List Nat) {f:FuncId} {args zA:List Dat} {ks:List Nat} {Q:Dat->Sg->Prop} {K:KD}(hp:DQ C f zA σ0 ks Q)
  (h0:F8 (lk m) (Fa J σ)=σ0) (ha:J3 (lk m) args=zA) (hb:Jk m (GK m) J=true) (hwa:D6 J args=true) (hw0:Ew J (Fa J σ)=true) (hwr:Ew (B3 (Eb J σ)++kE (GK m) ks) (Eb J σ)=true)
  (hK:∀d σ1,Q d σ1->(Jk (GK m) m (B3 σ1)&&Nc (GK m) (B3 (Eb J σ)) (B3 σ1)&&Ew (B3 σ1) σ1&&DA (B3 σ1) d)=true/\K (ren (lk (GK m)) d) (Oh (B3 (Eb J σ)++kE (GK m) ks) fr) (F8 (lk (GK m)) σ1++Eb J σ)):BU C false f args K fr σ:=by
 unfold BU
 rintro B S w0 η φ n a w vs hM ⟨css,hr,rfl⟩
 subst h0;subst ha
 let ρ:=lk m
 let π:=lk (GK m)
 let σk:=Fa J σ
 let σr:=Eb J σ
 have hk:∀p∈σk,p∈σ/\p.1∈J:=λp hp=>Mi hp
 have hd:∀p∈σr,p∈σ/\p.1∉J:=λp hp=>Iv hp
 have hπ:∀i∈J,π (ρ i)=i:=GG hb
 have hJk:∀i∈J,i∈B3 σ->i∈B3 σk:=λi hi hm=>by
  obtain⟨p,hp,rfl⟩:=Ar.1 hm
  rcases G4 (J:=J) hp with h|h
  ·exact AY h
  ·exact absurd hi (Iv h).2
 let B1:=B++Al φ σr
 let S1:=Al φ σk
 let η1:Nat->Value:=λi=>η (π i)
 let φ1:Nat->List Nat:=λi=>φ (π i)
 have hbk:∀b,b∈Al φ1 (F8 ρ σk)↔b∈Al φ σk:=λb=>by
  simp only[Al,AG]
  constructor
  ·rintro⟨p,hp,hb⟩
   obtain⟨q,hq,rfl⟩:=Fe.1 hp
   exact⟨q,hq,by simpa only[φ1,hπ _ (hk q hq).2]using hb⟩
  ·rintro⟨q,hq,hb⟩
   exact⟨_,Fe.2 ⟨q,hq,rfl⟩,by simpa only[φ1,hπ _ (hk q hq).2]using hb⟩
 have hall:∀b,b∈Al φ σ↔b∈Al φ σk\/b∈Al φ σr:=λb=>by
  constructor
  ·intro h
   obtain⟨p,hp,hb⟩:=AG.1 h
   rcases G4 (J:=J) hp with h|h
   ·exact .inl (AG.2 ⟨p,h,hb⟩)
   ·exact .inr (AG.2 ⟨p,h,hb⟩)
  ·rintro(h|h)
   ·obtain⟨p,hp,hb⟩:=AG.1 h
    exact AG.2 ⟨p,(hk p hp).1,hb⟩
   ·obtain⟨p,hp,hb⟩:=AG.1 h
    exact AG.2 ⟨p,(hd p hp).1,hb⟩
 have hO:∀b,b∈B1++Al φ1 (F8 ρ σk)↔b∈B++Al φ σ:=λb=>by
  simp only[B1,Ag,hbk,hall]
  constructor
  ·rintro((h|h)|h)
   ·exact .inl h
   ·exact .inr (.inr h)
   ·exact .inr (.inl h)
  ·rintro(h|h|h)
   ·exact .inl (.inl h)
   ·exact .inr h
   ·exact .inl (.inr h)
 have hl1:Later (B++Al φ σ) w (B1++Al φ1 (F8 ρ σk)) w:=⟨Az _,λ_ _ _=>rfl,λb hn _ hm=>hn ((hO b).1 hm)⟩
 have hdis:∀b∈Al φ σk,b∉Al φ σr:=λb h1 h2=>by
  obtain⟨p,hp,hbp⟩:=AG.1 h1
  obtain⟨q,hq,hbq⟩:=AG.1 h2
  exact hM.mem.disj p.1 (AY (hk p hp).1) q.1 (AY (hd q hq).1) (λe=>(hd q hq).2 (e▸(hk p hp).2)) b hbp hbq
 have hnew:∀b∈Al φ σ,(b∈S/\b∉B)\/w0.heap.size<=b:=λb h=>by
  obtain⟨p,hp,hb⟩:=AG.1 h
  exact hM.mem.new p.1 (AY hp) b hb
 have hmv:∀i∈J,i∈B3 σ->ρ i∈B3 (F8 ρ σk)/\η1 (ρ i)=η i:=λi hi hm=>⟨by rw[CM];exact C2 (hJk i hi hm),by simp only[η1,hπ i hi]⟩
 have hm1:Mem C B1 S1 w (F8 ρ σk) η1 φ1 w:=by
  refine⟨Tch.refl _ _,?_,?_,?_,?_,?_,λg hg=>(hM.mem.glob g hg).later hl1⟩
  ·intro p hp
   obtain⟨q,hq,rfl⟩:=Fe.1 hp
   have:=(hM.mem.own q (hk q hq).1).move (ρ:=ρ) hl1 hmv (Fo hw0 q hq) (Tch.refl [] w) (λ_ _=>by simp)
   simpa only[η1,φ1,hπ _ (hk q hq).2]using this
  ·rw[CM]
   have hn:=JE (J:=J) hM.mem.nodup
   refine Ks ?_ hn
   intro x hx y hy e
   obtain⟨p,hp,rfl⟩:=Ar.1 hx
   obtain⟨q,hq,rfl⟩:=Ar.1 hy
   rw[<-hπ _ (hk p hp).2,<-hπ _ (hk q hq).2,show ρ p.1=ρ q.1 from e]
  ·intro i hi j hj hij b hbi
   rw[CM]at hi hj
   obtain⟨i',hi',rfl⟩:=Ar.1 hi
   obtain⟨j',hj',rfl⟩:=Ar.1 hj
   obtain⟨p,hp,rfl⟩:=Ar.1 hi'
   obtain⟨q,hq,rfl⟩:=Ar.1 hj'
   simp only[φ1,hπ _ (hk p hp).2,hπ _ (hk q hq).2]at hbi⊢
   exact hM.mem.disj p.1 (AY (hk p hp).1) q.1 (AY (hk q hq).1) (λe=>hij (by rw[e])) b hbi
  ·intro i hi b hbi
   rw[CM]at hi
   obtain⟨i',hi',rfl⟩:=Ar.1 hi
   obtain⟨p,hp,rfl⟩:=Ar.1 hi'
   simp only[φ1,hπ _ (hk p hp).2]at hbi
   have hbm:b∈Al φ σk:=AG.2 ⟨p,hp,hbi⟩
   refine .inl ⟨hbm,λhm=>?_⟩
   rcases Ag.1 hm with hm|hm
   ·rcases hnew b ((hall b).2 (.inl hbm))with h|h
    ·exact h.2 hm
    ·have:=hM.mem.out b hm;omega
   ·exact hdis b hbm hm
  ·intro b hb
   rcases Ag.1 hb with hb|hb
   ·exact hM.mem.lt b (A2 _ hb)
   ·exact hM.mem.lt b (Ap _ ((hall b).2 (.inr hb)))
 have hr1:=A9.move (ρ:=ρ) hl1 hmv args css hwa hr
 obtain⟨g1,g2⟩:=hp B1 S1 w η1 φ1 css hm1 hr1
 rw[Ke]at g1 g2
 refine⟨g1,g2.mono ?_⟩
 rintro e w' ⟨v,d,σ1,η2,φ2,rfl,hQ,hm2,⟨cs,hv1,hv2⟩,hks⟩
 obtain⟨hchk,hKK⟩:=hK d σ1 hQ
 simp only[Ai]at hchk
 have hρ:∀i∈B3 σ1,ρ (π i)=i:=GG hchk.1.1.1
 have hfr:∀i∈B3 σ1,π i∉B3 σr:=Qh hchk.1.1.2
 let σ2:=F8 π σ1
 let η3:Nat->Value:=λi=>if i∈B3 σ2 then η2 (ρ i)else η i
 let φ3:Nat->List Nat:=λi=>if i∈B3 σ2 then φ2 (ρ i)else φ i
 have hin:∀i∈B3 σ1,π i∈B3 σ2:=λi hi=>by simp only[σ2,CM];exact C2 hi
 have hη3:∀i∈B3 σ1,η3 (π i)=η2 i:=λi hi=>by simp only[η3,if_pos (hin i hi),hρ i hi]
 have hφ3:∀i∈B3 σ1,φ3 (π i)=φ2 i:=λi hi=>by simp only[φ3,if_pos (hin i hi),hρ i hi]
 have hnr:∀i∈B3 σr,i∉B3 σ2:=λi hi hm=>by
  simp only[σ2,CM]at hm
  obtain⟨k,hk,rfl⟩:=Ar.1 hm
  exact hfr k hk hi
 have hηr:∀i∈B3 σr,η3 i=η i:=λi hi=>by simp only[η3,if_neg (hnr i hi)]
 have hφr:∀i∈B3 σr,φ3 i=φ i:=λi hi=>by simp only[φ3,if_neg (hnr i hi)]
 have hb2:∀b,b∈Al φ3 σ2↔b∈Al φ2 σ1:=λb=>by
  simp only[Al,AG]
  constructor
  ·rintro⟨p,hp,hb⟩
   obtain⟨q,hq,rfl⟩:=Fe.1 hp
   exact⟨q,hq,by simpa only[hφ3 _ (AY hq)]using hb⟩
  ·rintro⟨q,hq,hb⟩
   exact⟨_,Fe.2 ⟨q,hq,rfl⟩,by simpa only[hφ3 _ (AY hq)]using hb⟩
 have hbr:Al φ3 σr=Al φ σr:=Jc hφr
 have hids:B3 (σ2++σr)=B3 σ2++B3 σr:=by simp[B3]
 have hbs:Al φ3 (σ2++σr)=Al φ3 σ2++Al φ σr:=by rw[<-hbr];simp[Al]
 have hO2:∀b,b∈B1++Al φ2 σ1↔b∈B++Al φ3 (σ2++σr):=λb=>by
  rw[hbs]
  simp only[B1,Ag,hb2]
  constructor
  ·rintro((h|h)|h)
   ·exact .inl h
   ·exact .inr (.inr h)
   ·exact .inr (.inl h)
  ·rintro(h|h|h)
   ·exact .inl (.inl h)
   ·exact .inr h
   ·exact .inl (.inr h)
 have hl2:Later (B1++Al φ2 σ1) w' (B++Al φ3 (σ2++σr)) w':=⟨Az _,λ_ _ _=>rfl,λb hn _ hm=>hn ((hO2 b).2 hm)⟩
 have hnew2:∀b∈Al φ2 σ1,(b∈Al φ σk/\b∉B1)\/w.heap.size<=b:=λb h=>by
  obtain⟨p,hp,hb⟩:=AG.1 h
  exact hm2.new p.1 (AY hp) b hb
 have hl3:Later (B++Al φ σ) w (B++Al φ3 (σ2++σr)) w':=by
  refine⟨hm2.tch.size,λb hb hn=>hm2.tch.blk b hb λhm=>hn (Ap _ ((hall b).2 (.inl hm))),λb hn hlt hm=>hn ?_⟩
  rcases Ag.1 ((hO2 b).2 hm)with h|h
  ·rcases Ag.1 h with h|h
   ·exact A2 _ h
   ·exact Ap _ ((hall b).2 (.inr h))
  ·rcases hnew2 b h with h|h
   ·exact Ap _ ((hall b).2 (.inl h.1))
   ·omega
 have hmv2:∀i∈B3 σ1,i∈B3 σ1->π i∈B3 (σ2++σr)/\η3 (π i)=η2 i:=λi hi _=>⟨by rw[hids];exact A2 _ (hin i hi),hη3 i hi⟩
 have hJ:∀i∈B3 σr++kE (GK m) ks,i∈B3 (σ2++σr)/\η3 i=η i:=λi hi=>by
  rw[hids]
  rcases Ag.1 hi with h|h
  ·exact⟨Ap _ h,hηr i h⟩
  ·obtain⟨k,hk,rfl⟩:=Zy h
   obtain⟨k1,k2⟩:=hks k hk
   exact⟨A2 _ (hin k k1),by rw[show lk (GK m) k=π k from rfl,hη3 k k1,k2]⟩
 have hrσ:∀i∈B3 σr,i∈B3 σ:=λi hi=>by
  obtain⟨p,hp,rfl⟩:=Ar.1 hi
  exact AY (hd p hp).1
 have hcross:∀b,b∈Al φ2 σ1->b∈Al φ σr->False:=λb h1 h2=>by
  rcases hnew2 b h1 with h|h
  ·exact h.2 (Ap _ h2)
  ·have:=hM.mem.lt b (Ap _ ((hall b).2 (.inr h2)));omega
 have hlr:Later (B++Al φ σ) w (B++Al φ σ) w:=⟨Az _,λ_ _ _=>rfl,λ_ h _=>h⟩
 have hm3:Mem C B S w0 (σ2++σr) η3 φ3 w':=by
  refine⟨hM.mem.tch.trans hm2.tch (λ_ h=>h) (λx hx=>?_),?_,?_,?_,?_,hM.mem.out,λg hg=>(hm2.glob g hg).later hl2⟩
  ·rcases hnew x ((hall x).2 (.inl hx))with h|h
   ·exact .inl h.1
   ·exact .inr h
  ·intro p hp
   rcases Ag.1 hp with hp|hp
   ·obtain⟨q,hq,rfl⟩:=Fe.1 hp
    have:=(hm2.own q hq).move (ρ:=π) (J:=B3 σ1) (I':=B3 (σ2++σr)) (η':=η3) hl2 hmv2 (Fo hchk.1.2 q hq) (Tch.refl [] w') (λ_ _=>by simp)
    simpa only[hη3 _ (AY hq),hφ3 _ (AY hq)]using this
   ·have h1:=(hM.mem.own p (hd p hp).1).only hlr (Fo hwr p hp)
    have:=h1.later hl3 hJ hm2.tch (λx hx hm=>hdis x hm (AG.2 ⟨p,hp,hx⟩))
    simpa only[hηr _ (AY hp),hφr _ (AY hp)]using this
  ·rw[hids]
   refine Dn.2 ⟨?_,JU hM.mem.nodup,?_⟩
   ·simp only[σ2,CM]
    refine Ks ?_ hm2.nodup
    intro x hx y hy e
    rw[<-hρ x hx,<-hρ y hy,e]
   ·intro x hx y hy e
    exact hnr y hy (e▸hx)
  ·intro i hi j hj hij b hbi hbj
   rw[hids]at hi hj
   rcases Ag.1 hi with hi|hi<;>rcases Ag.1 hj with hj|hj
   ·simp only[σ2,CM]at hi hj
    obtain⟨x,hx,rfl⟩:=Ar.1 hi
    obtain⟨y,hy,rfl⟩:=Ar.1 hj
    rw[hφ3 x hx]at hbi
    rw[hφ3 y hy]at hbj
    exact hm2.disj x hx y hy (λe=>hij (by rw[e])) b hbi hbj
   ·simp only[σ2,CM]at hi
    obtain⟨x,hx,rfl⟩:=Ar.1 hi
    rw[hφ3 x hx]at hbi
    rw[hφr j hj]at hbj
    exact hcross b (Bf hx hbi) (Bf hj hbj)
   ·simp only[σ2,CM]at hj
    obtain⟨y,hy,rfl⟩:=Ar.1 hj
    rw[hφ3 y hy]at hbj
    rw[hφr i hi]at hbi
    exact hcross b (Bf hy hbj) (Bf hi hbi)
   ·rw[hφr i hi]at hbi
    rw[hφr j hj]at hbj
    exact hM.mem.disj i (hrσ i hi) j (hrσ j hj) hij b hbi hbj
  ·intro i hi b hbi
   rw[hids]at hi
   rcases Ag.1 hi with hi|hi
   ·simp only[σ2,CM]at hi
    obtain⟨x,hx,rfl⟩:=Ar.1 hi
    rw[hφ3 x hx]at hbi
    rcases hnew2 b (Bf hx hbi)with h|h
    ·exact hnew b ((hall b).2 (.inl h.1))
    ·exact .inr (BE hM.mem.tch.size h)
   ·rw[hφr i hi]at hbi
    exact hM.mem.new i (hrσ i hi) b hbi
 refine⟨v,_,_,_,η3,φ3,rfl,hKK,⟨hm3,?_,hM.defers,hM.size⟩,⟨cs,?_,?_⟩,λh=>by cases h⟩
 ·intro t
  rcases MR (J:=B3 σr++kE (GK m) ks) (fr:=fr) t with h|⟨h,hw⟩
  ·rw[h];exact⟨[a.tmps.getD t undef],RepC.undef_ex _ _ _,rfl⟩
  ·obtain⟨c1,c2,c3⟩:=hM.fr t
   rw[h]
   exact⟨c1,A7.later hl3 hJ _ _ (A7.only hlr _ _ hw c2),c3⟩
 ·exact A7.move (ρ:=π) hl2 hmv2 d cs hchk.2 hv1
 ·rw[Jo];exact hv2
theorem QZ(m:List (Nat×Nat))(J:List Nat) {f:FuncId} {args zA:List Dat} {ks:List Nat} {y:Dat} {τ:Sg} {K:KD}(hp:DQ C f zA σ0 ks (λd σ=>d=y/\σ=τ))
  (h0:F8 (lk m) (Fa J σ)=σ0) (ha:J3 (lk m) args=zA) (hb:Jk m (GK m) J=true) (hwa:D6 J args=true) (hw0:Ew J (Fa J σ)=true) (hwr:Ew (B3 (Eb J σ)++kE (GK m) ks) (Eb J σ)=true)
  (hchk:(Jk (GK m) m (B3 τ)&&Nc (GK m) (B3 (Eb J σ)) (B3 τ)&&Ew (B3 τ) τ&&DA (B3 τ) y)=true)
  (hK:force (ren (lk (GK m)) y) λd=>Fk (Oh (B3 (Eb J σ)++kE (GK m) ks) fr) λfr=>Cf (F8 (lk (GK m)) τ++Eb J σ) λσ=>K d fr σ):BU C false f args K fr σ:=
 Wt m J hp h0 ha hb hwa hw0 hwr λd σ1 ⟨hd,hs⟩=>by
  subst hd;subst hs
  rw[Iq,DD,Bz]at hK
  exact⟨hchk,hK⟩
def K9:List Nat->List Dat
 |[]=>[]
 |k::ks=>.own k::K9 ks
def Qm(J:List Nat):List Nat->Bool
 |[]=>true
 |k::ks=>EB k J&&Qm J ks
def kR(m:List (Nat×Nat)):List Nat->Bool
 |[]=>true
 |k::ks=>Nat.beq (lk m k) k&&kR m ks
theorem Ll {J:List Nat}:∀{ks:List Nat},Qm J ks=true->∀k∈ks,k∈J
 |[],_,k,hk=>by cases hk
 |
  j::ks,h,k,hk=>by
  simp only[Qm,Ai]at h
  rcases An.1 hk with rfl|hk
  ·exact EU h.1
  ·exact Ll h.2 k hk
theorem QF {m:List (Nat×Nat)}:∀{ks:List Nat},kR m ks=true->∀k∈ks,lk m k=k
 |[],_,k,hk=>by cases hk
 |
  j::ks,h,k,hk=>by
  simp only[kR,Ai]at h
  rcases An.1 hk with rfl|hk
  ·exact Ao h.1
  ·exact QF h.2 k hk
theorem Vd {η:Nat->Value} {I O:List Nat} {w:World}:∀{ks:List Nat},(∀k∈ks,k∈I)->A9 η I O w (K9 ks) (ks.map λk=>[η k])
 |[],_=>by simp[K9,A9]
 |
  k::ks,h=>by
  simp only[K9,A9,Au]
  exact⟨[η k],_,rfl,(show k∈I/\[η k]=[η k]from⟨h k (by simp),rfl⟩),Vd (λj hj=>h j (by simp[hj]))⟩
theorem Vc {η:Nat->Value}:∀(ks:List Nat),List.zipWith BR (K9 ks) (ks.map λk=>[η k])=ks.map η
 |[]=>rfl
 |k::ks=>by simp only[K9,Au,AT,Vc ks];rfl
theorem Ve {η:Nat->Value} {I O:List Nat} {w:World}:∀{ks:List Nat} {css:List (List Value)},A9 η I O w (K9 ks) css->List.zipWith BR (K9 ks) css=ks.map η
 |[],css,h=>by simp[K9]
 |
  k::ks,css,h=>by
  simp only[K9,A9,A7]at h
  obtain⟨c1,c2,rfl,⟨_,rfl⟩,h⟩:=h
  simp only[K9,AT,Ve h,Au];rfl
theorem Mem.ren {B S:List Nat} {w0 w:World} {η:Nat->Value} {φ:Nat->List Nat} {Z:Sg}(m:List (Nat×Nat))(h:Mem C B S w0 Z η φ w)(hb:Jk m (GK m) (B3 Z)=true)(hz:Ew (B3 Z) Z=true):
  Mem C B S w0 (F8 (lk m) Z) (λi=>η (lk (GK m) i)) (λi=>φ (lk (GK m) i)) w/\(∀b,b∈Al (λi=>φ (lk (GK m) i)) (F8 (lk m) Z)↔b∈Al φ Z):=by
 have hπ:∀i∈B3 Z,lk (GK m) (lk m i)=i:=GG hb
 have hbk:∀b,b∈Al (λi=>φ (lk (GK m) i)) (F8 (lk m) Z)↔b∈Al φ Z:=λb=>by
  simp only[Al,AG]
  constructor
  ·rintro⟨p,hp,hb⟩
   obtain⟨q,hq,rfl⟩:=Fe.1 hp
   exact⟨q,hq,by simpa only[hπ _ (AY hq)]using hb⟩
  ·rintro⟨q,hq,hb⟩
   exact⟨_,Fe.2 ⟨q,hq,rfl⟩,by simpa only[hπ _ (AY hq)]using hb⟩
 have hl:Later (B++Al φ Z) w (B++Al (λi=>φ (lk (GK m) i)) (F8 (lk m) Z)) w:=⟨Az _,λ_ _ _=>rfl,λb hn _ hm=>hn (by
  rcases Ag.1 hm with h|h
  ·exact A2 _ h
  ·exact Ap _ ((hbk b).1 h))⟩
 refine⟨⟨h.tch,?_,?_,?_,?_,h.out,λg hg=>(h.glob g hg).later hl⟩,hbk⟩
 ·intro p hp
  obtain⟨q,hq,rfl⟩:=Fe.1 hp
  have:=(h.own q hq).move (ρ:=lk m) (J:=B3 Z) (I':=B3 (F8 (lk m) Z)) (η':=λi=>η (lk (GK m) i)) hl (λi hi _=>⟨by rw[CM];exact C2 hi,by simp only[hπ i hi]⟩) (Fo hz q hq) (Tch.refl [] w) (λ_ _=>by simp)
  simpa only[hπ _ (AY hq)]using this
 ·rw[CM]
  refine Ks ?_ h.nodup
  intro x hx y hy e
  rw[<-hπ x hx,<-hπ y hy,e]
 ·intro i hi j hj hij b hbi
  rw[CM]at hi hj
  obtain⟨x,hx,rfl⟩:=Ar.1 hi
  obtain⟨y,hy,rfl⟩:=Ar.1 hj
  simp only[hπ x hx,hπ y hy]at hbi⊢
  exact h.disj x hx y hy (λe=>hij (by rw[e])) b hbi
 ·intro i hi b hbi
  rw[CM]at hi
  obtain⟨x,hx,rfl⟩:=Ar.1 hi
  simp only[hπ x hx]at hbi
  exact h.new x hx b hbi
def fD(C:Cx)(fr:Fr)(σ:Sg)(fr':Fr)(σ':Sg):Prop:=∀(B S:List Nat) (w0 w:World) (n:Nat) (η:Nat->Value) (φ:Nat->List Nat) (a:Act),Models C B S w0 n fr σ η φ a w->∃η' φ',Models C B S w0 n fr' σ' η' φ' a w
theorem fD.lo {fr':Fr} {σ':Sg}(h:Lo fr σ fr' σ'):fD C fr σ fr' σ':=λ_ _ _ _ _ _ _ _ hM=>h.models hM
theorem fD.refl:fD C fr σ fr σ:=λ_ _ _ _ _ η φ _ hM=>⟨η,φ,hM⟩
def wK(C:Cx)(vs:List Value)(g:Nat)(ks:List Nat)(Q:Dat->Sg->Prop):Dat->Sg->Prop:=λd σ=>
 ∃fr1 σ1 m Z,fD C [(0,d)] σ fr1 σ1/\BP g σ1=some (.ghost vs (K9 ks))/\KC Z σ1/\(fB [(0,get fr1 0)] Z&&Jk m (GK m) (B3 Z)&&Qm (B3 Z) ks&&kR m ks&&kR (GK m) ks)=true/\Q (ren (lk m) (get fr1 0)) (F8 (lk m) Z)
theorem MX {n:Nat}(hC:C.Ok T) {G:List FuncId} {pl:List (Nat×Plan)} {f:FuncId} {fn:Func} {c:Code}(hf:C.P.funcs[f]? =some fn)(hb:fn.body=some c)(hn:fn.ntmps=n)(hrun:∀(vs:Array Value) (w:World),(callFunc f vs).run C.P w=.ok (.enter f vs) w)(hk:Cu C.P G pl c=true) {args:List Dat} {ks:List Nat} {Q:Dat->Sg->Prop}(hl:args.length<=n)(g:Nat)
  (hg:(!(EB g (B3 σ0))&&Qm (B3 σ0) ks)=true)
  (h:∀vs,D1 C T n pl c (Jg T fn.results.toList (wK C vs g ks Q)) (params args 0) ((g,.ghost vs (K9 ks))::σ0)):DQ C f args σ0 ks Q:=by
 intro B S w η φ css hm hr
 refine⟨hrun _ _,?_⟩
 simp only[Ai,B7]at hg
 have hgn:=Id hg.1
 have hki:=Ll hg.2
 obtain⟨hm1,hl1⟩:=hm.add (Tch.refl _ _) (i:=g) (o:=.ghost (ks.map η) (K9 ks)) (v:=.nilFunc) (F:=[]) hgn (λ_ h=>by cases h) (by
  have hne:∀k∈ks,DB η g (.nilFunc:Value) k=η k:=λk hk=>CD _ _ _ (λe=>hgn (e▸hki k hk))
  have he:(ks.map λk=>[DB η g (.nilFunc:Value) k])=ks.map λk=>[η k]:=List.map_congr_left λk hk=>by rw[hne k hk]
  exact⟨rfl,rfl,ks.map λk=>[η k],by rw[<-he];exact Vd (λk hk=>AE _ (hki k hk)),(Vc ks).symm⟩)
 have hr1:A9 (DB η g .nilFunc) (B3 ((g,.ghost (ks.map η) (K9 ks))::σ0)) (B++Al (DB φ g []) ((g,.ghost (ks.map η) (K9 ks))::σ0)) w args css:=
  A9.later hl1 (λi hi=>⟨AE _ hi,CD _ _ _ (show i≠g fromλe=>hgn (e▸hi))⟩) _ _ hr
 refine(EK hC hf hb hn hk hr1 hl hm1 (h (ks.map η))).mono ?_
 rintro e w' ⟨v,d,σ',η',φ',rfl,⟨fr1,σ1,m,Z,hLo,hg1,hZ,hchk,hQ⟩,hm',hv⟩
 simp only[Ai]at hchk
 obtain⟨⟨⟨⟨hok,hbk⟩,hin⟩,hfx⟩,hfx2⟩:=hchk
 have hMf:Models C B S w 1 [(0,d)] σ' η' φ' {tmps:=#[v],defers:=[]} w':=⟨hm',λs=>by
  simp only[Sx.get]
  rcases Br 0 s with⟨hbq,e⟩|⟨hbq,e⟩<;>rw[hbq]
  ·subst e
   obtain⟨c1,c2,c3⟩:=hv
   exact⟨c1,c2,by simp[c3]⟩
  ·exact⟨[Array.getD #[v] s undef],by simp[A7,RepC],rfl⟩,rfl,rfl⟩
 obtain⟨η',φ',hM1⟩:=hLo _ _ _ _ _ _ _ _ hMf
 obtain⟨_,_,qss,q3,q4⟩:=hM1.mem.own _ (Bm hg1)
 have hks:ks.map η'=ks.map η:=by rw[<-Ve q3];exact q4.symm
 have hM2:Models C B S w 1 [(0,get fr1 0)] σ1 η' φ' {tmps:=#[v],defers:=[]} w':=hM1.sub' λt=>by
  simp only[Sx.get]
  rcases Br 0 t with⟨hbq,e⟩|⟨hbq,e⟩<;>rw[hbq]
  ·subst e;exact .inr rfl
  ·exact .inl rfl
 have hM3:=hM2.only hok hZ
 simp only[fB,Ai]at hok
 obtain⟨hm4,hbl⟩:=hM3.mem.ren m hbk hok.2
 obtain⟨cy,y1,y2⟩:=hM3.fr 0
 have hπ:∀i∈B3 Z,lk (GK m) (lk m i)=i:=GG hbk
 have hw0:DA (B3 Z) (get fr1 0)=true:=by have:=IU hok.1.2 0;simpa only[Sx.get]using this
 have hl5:Later (B++Al φ' Z) w' (B++Al (λi=>φ' (lk (GK m) i)) (F8 (lk m) Z)) w':=⟨Az _,λ_ _ _=>rfl,λb hn _ hm=>hn (by
  rcases Ag.1 hm with h|h
  ·exact A2 _ h
  ·exact Ap _ ((hbl b).1 h))⟩
 have y3:A7 η' (B3 Z) (B++Al φ' Z) w' (get fr1 0) cy:=by simpa only[Sx.get]using y1
 have y4:=A7.move (J:=B3 Z) (ρ:=lk m) (η':=λi=>η' (lk (GK m) i)) (I':=B3 (F8 (lk m) Z)) hl5 (λi hi _=>⟨by rw[CM];exact C2 hi,by simp only[hπ i hi]⟩) _ _ hw0 y3
 refine⟨v,_,_,(λi=>η' (lk (GK m) i)),(λi=>φ' (lk (GK m) i)),rfl,hQ,hm4,⟨cy,y4,by rw[Jo];exact y2⟩,λk hk=>?_⟩
 refine⟨?_,?_⟩
 ·rw[CM];exact Ar.2 ⟨k,Ll hin k hk,QF hfx k hk⟩
 ·simp only[QF hfx2 k hk]
  exact(List.map_inj_left.1 hks) k hk
end
end Go.Sx
end
section
namespace Go.Sx
open Go Go.RowKit Go.Reg
section
variable {C:Cx} {T:FF} {B S:List Nat} {w0 w:World} {n:Nat} {fr:Fr} {σ:Sg} {η:Nat->Value} {φ:Nat->List Nat} {a:Act} {i:Nat} {t:TypeId} {xs:List Da}
theorem Models.cellsRefR(hM:Models C B S w0 n fr σ η φ a w)(hg:BP i σ=some (.cells t (BO xs))):Later (B++Al φ σ) w (B++Al φ (Di (BH i (.ref (.agg xs))) i σ)) w/\RepC (B++Al φ (Di (BH i (.ref (.agg xs))) i σ)) w (.ref (.agg xs)) [η i]:=by
 have hm:=hM.mem
 have hi:=AY (Bm hg)
 have hsub:∀b∈B++Al φ (Di (BH i (.ref (.agg xs))) i σ),b∈B\/∃j∈B3 σ,j≠i/\b∈φ j:=by
  intro b hb
  rcases Ag.1 hb with hb|hb
  ·exact .inl hb
  ·obtain⟨p,hp,hb⟩:=AG.1 hb
   obtain⟨q,hq,hne,rfl⟩:=EC hp
   exact .inr ⟨q.1,AY hq,hne,hb⟩
 have hl:Later (B++Al φ σ) w (B++Al φ (Di (BH i (.ref (.agg xs))) i σ)) w:=⟨Az _,λ_ _ _=>rfl,λb hn _ hb=>by
  rcases hsub b hb with h|⟨j,hj,_,h⟩
  ·exact hn (A2 _ h)
  ·exact hn (Ap _ (Bf hj h))⟩
 refine⟨hl,?_⟩
 obtain⟨b,cs,e1,e2,hB,hrr⟩:=hm.own _ (Bm hg)
 have hr2:=RepCs.later hl _ _ (Fu.1 hrr)
 have hbi:b∈φ i:=by rw[show φ i=[b]from e2];simp
 simp only[RepC]
 refine⟨b,0,cs,by rw[show η i=_ from e1],λhb=>?_,hB.lt,hr2,λj u hj=>by rw[EL];exact hB.cell hj⟩
 rcases hsub b hb with h|⟨j,hj,hne,h⟩
 ·exact Ma hm hi hbi h
 ·exact hm.disj j hj i hi hne b h hbi
theorem eM(i:Nat) {q:Bool} {f:FuncId} {args:List Dat} {K:KD} {ds:List Dat}(hg:BP i σ=some (.cells t ds))(ha:Ei ds=some xs)(h:BU C q f (Fw i (.ref (.agg xs)) args) K (EZ i (.ref (.agg xs)) fr) (Di (BH i (.ref (.agg xs))) i σ)):BU C q f args K fr σ:=by
 have hd:=D5 ha
 subst hd
 unfold BU at h⊢
 rintro B S w0 η φ n a w vs hM ⟨css,hr,rfl⟩
 obtain⟨hl,hr0⟩:=hM.cellsRefR hg
 have hI:∀j∈B3 σ,j≠i->j∈B3 (Di (BH i (.ref (.agg xs))) i σ)/\η j=η j:=λj hj hne=>⟨by rw[Em];exact A5.2 ⟨hj,by simpa using hne⟩,rfl⟩
 have hr':=A9.kill (x:=.ref (.agg xs)) rfl hl hI hr0 _ _ hr
 obtain⟨h1,h2⟩:=hM.mem.del (x:=.ref (.agg xs)) rfl hr0
 have hM':Models C B S w0 n (EZ i (.ref (.agg xs)) fr) (Di (BH i (.ref (.agg xs))) i σ) η φ a w:=⟨h1,hM.fr.kill rfl h2 hI hr0,hM.defers,hM.size⟩
 exact h B S w0 η φ n a w _ hM' ⟨css,hr',by rw[EP rfl]⟩
end
end Go.Sx
end
section
namespace Go.Sx
open Go Go.RowKit Go.Reg
theorem tG {a b A B:Prop}(h:a↔b)(hB:B):(¬(a↔b)->A)/\(¬¬(a↔b)->B):=⟨λhn=>absurd h hn,λ_=>hB⟩
theorem wM {a b A B:Prop}(hB:B)(h:a↔b:=by first|exact iff_of_true (by first|omega|decide) (by first|omega|decide)|exact iff_of_false (by first|omega|decide) (by first|omega|decide)):(¬(a↔b)->A)/\(¬¬(a↔b)->B):=tG h hB
mutual
def jN:Dat->Option Da
 |.d x=>some x
 |
  .agg ds=>match jM ds with
  |some xs=>some (.agg xs)
  |none=>none
 |
  .iface t d=>match jN d with
  |some x=>some (.iface t x)
  |none=>none
 |_=>none
def jM:List Dat->Option (List Da)
 |[]=>some []
 |
  d::ds=>match jN d,jM ds with
  |some x,some xs=>some (x::xs)
  |_,_=>none
end
section
variable {η:Nat->Value} {I O:List Nat} {w:World}
mutual
theorem Zr:∀(d:Dat) {x:Da} {cs:List Value},jN d=some x->A7 η I O w d cs->RepC O w x cs/\BR d cs=Ft x cs
 |.d y,x,cs,h,hr=>by simp only[jN,Aq]at h;subst h;exact⟨by simpa only[A7]using hr,rfl⟩
 |
  .agg ds,x,cs,h,hr=>by
  simp only[jN]at h
  split at h
  ·rename_i xs h1
   simp only[Aq]at h
   subst h
   simp only[A7]at hr
   simp only[RepC]
   exact⟨Vl ds h1 hr,rfl⟩
  ·cases h
 |
  .iface t d,x,cs,h,hr=>by
  simp only[jN]at h
  split at h
  ·rename_i y h1
   simp only[Aq]at h
   subst h
   simp only[A7]at hr
   obtain⟨c,r1,rfl⟩:=hr
   obtain⟨g1,g2⟩:=Zr d h1 r1
   simp only[RepC]
   exact⟨⟨c,g1,by rw[g2]⟩,rfl⟩
  ·cases h
 |.own _,_,_,h,_=>by simp[jN]at h
 |.at_ _ _,_,_,h,_=>by simp[jN]at h
 |.el _ _ _ _,_,_,h,_=>by simp[jN]at h
 |.tuple _,_,_,h,_=>by simp[jN]at h
 |.func _ _ _,_,_,h,_=>by simp[jN]at h
theorem Vl:∀(ds:List Dat) {xs:List Da} {cs:List Value},jM ds=some xs->Bc η I O w ds cs->RepCs O w xs cs
 |[],xs,cs,h,hr=>by simp only[jM,Aq]at h;subst h;simpa only[Bc,RepCs]using hr
 |
  d::ds,xs,cs,h,hr=>by
  simp only[jM]at h
  split at h
  ·rename_i x xs' h1 h2
   simp only[Aq]at h
   subst h
   simp only[Bc]at hr
   obtain⟨c1,c2,rfl,r1,r2⟩:=hr
   simp only[RepCs]
   exact⟨c1,c2,rfl,(Zr d h1 r1).1,Vl ds h2 r2⟩
  ·cases h
end
end
section
variable {C:Cx} {n:Nat} {fr:Fr} {σ:Sg}
theorem uQ {ι:Type}(H:ι->Prop)(I:ι->Fr)(Z:ι->Sg)(μ:ι->Nat)(x0:ι) {b:Code} {K:KE} {fr0:Fr} {σ0:Sg}(hz:∀x,fB (I x) (Z x)=true)(h0:H x0)(hf:fD C fr σ fr0 σ0)(hI:Uc (I x0) fr0)(hZ:KC (Z x0) σ0)
  (round:∀x,H x->DJ C n b (λe fr σ=>match e with|.normal=>∃y fr' σ',H y/\fD C fr σ fr' σ'/\Uc (I y) fr'/\KC (Z y) σ'/\μ y<μ x|e=>K e fr σ) (I x) (Z x)):DJ C n (.loop b) K fr σ:=by
 refine BB.2 λB S w0 η φ a w hM=>?_
 obtain⟨η,φ,hM⟩:=hf _ _ _ _ _ _ _ _ hM
 refine wp_loop_ghost (λm a w=>∃x η φ,H x/\μ x=m/\Models C B S w0 n (I x) (Z x) η φ a w) (μ x0) ⟨x0,η,φ,h0,rfl,(hM.sub hI).only (hz x0) hZ⟩ ?_
 rintro m a w ⟨x,η,φ,hx,rfl,hM⟩
 refine wp_mono (BB.1 (round x hx) B S w0 η φ a w hM) ?_
 intro e a' w' hq
 cases e with
 |
  normal=>
  obtain⟨fr',σ',η',φ',hM',y,f2,s2,h1,hf,h2,h3,h4⟩:=hq
  obtain⟨η',φ',hM'⟩:=hf _ _ _ _ _ _ _ _ hM'
  exact⟨μ y,h4,y,η',φ',h1,rfl,(hM'.sub h2).only (hz y) h3⟩
 |exit id=>exact hq
 |goto l=>exact hq
 |ret=>exact hq
 |panic ch=>exact hq
 |outgrown=>exact hq
def nY(ρ:Nat->Nat):Fr->Fr
 |[]=>[]
 |(t,d)::fr=>(t,ren ρ d)::nY ρ fr
theorem VN(ρ:Nat->Nat):∀(fr:Fr) (t:Nat),get (nY ρ fr) t=ren ρ (get fr t)
 |[],t=>rfl
 |
  (s,d)::fr,t=>by
  simp only[nY,get]
  cases Nat.beq s t
  ·exact VN ρ fr t
  ·rfl
theorem fD.ren(m:List (Nat×Nat))(hz:fB fr σ=true)(hb:Jk m (GK m) (B3 σ)=true):fD C fr σ (nY (lk m) fr) (F8 (lk m) σ):=by
 intro B S w0 w n η φ a hM
 simp only[fB,Ai]at hz
 obtain⟨hm,hbl⟩:=hM.mem.ren m hb hz.2
 have hπ:∀i∈B3 σ,lk (GK m) (lk m i)=i:=GG hb
 have hl:Later (B++Al φ σ) w (B++Al (λi=>φ (lk (GK m) i)) (F8 (lk m) σ)) w:=⟨Az _,λ_ _ _=>rfl,λb hn _ hm=>hn (by
  rcases Ag.1 hm with h|h
  ·exact A2 _ h
  ·exact Ap _ ((hbl b).1 h))⟩
 refine⟨λi=>η (lk (GK m) i),λi=>φ (lk (GK m) i),hm,λt=>?_,hM.defers,hM.size⟩
 obtain⟨cs,h1,h2⟩:=hM.fr t
 rw[VN]
 exact⟨cs,A7.move (J:=B3 σ) (ρ:=lk m) (η':=λi=>η (lk (GK m) i)) (I':=B3 (F8 (lk m) σ)) hl (λi hi _=>⟨by rw[CM];exact C2 hi,by simp only[hπ i hi]⟩) _ _ (IU hz.1.2 t) h1,by rw[Jo];exact h2⟩
theorem SI {ι:Type} {σ0:Sg}(m:List (Nat×Nat))(J:List Nat) {f:FuncId} {args zA:List Dat} {ks:List Nat} {Q:Dat->Sg->Prop} {y:ι->Dat} {τ:ι->Sg} {P:ι->Prop} {K:KD}(hp:DQ C f zA σ0 ks Q)(hQ:∀d σ1,Q d σ1->∃z,d=y z/\σ1=τ z/\P z)
  (h0:F8 (lk m) (Fa J σ)=σ0) (ha:J3 (lk m) args=zA) (hb:Jk m (GK m) J=true) (hwa:D6 J args=true) (hw0:Ew J (Fa J σ)=true) (hwr:Ew (B3 (Eb J σ)++kE (GK m) ks) (Eb J σ)=true)
  (hchk:∀z,(Jk (GK m) m (B3 (τ z))&&Nc (GK m) (B3 (Eb J σ)) (B3 (τ z))&&Ew (B3 (τ z)) (τ z)&&DA (B3 (τ z)) (y z))=true)
  (hK:∀z,P z->force (Go.Sx.ren (lk (GK m)) (y z)) λd=>Fk (Oh (B3 (Eb J σ)++kE (GK m) ks) fr) λfr=>Cf (F8 (lk (GK m)) (τ z)++Eb J σ) λσ=>K d fr σ):BU C false f args K fr σ:=
 Wt m J hp h0 ha hb hwa hw0 hwr λd σ1 hq=>by
  obtain⟨z,rfl,rfl,hz⟩:=hQ d σ1 hq
  have h:=hK z hz
  rw[Iq,DD,Bz]at h
  exact⟨hchk z,h⟩
theorem lH {G:Prop} {ι:Type}(C:Cx)(n:Nat)(P:ι->Prop)(F:ι->Fr)(Z:ι->Sg) {c:Code} {K:KE}(main:(∀y,P y->DJ C n c K (F y) (Z y))->G)(tail:∀y,P y->DJ C n c K (F y) (Z y)):G:=main tail
theorem ZC {c:Code} {K:KE} {fr0 F:Fr} {σ0 Z:Sg}(hf:fD C fr σ fr0 σ0)(hI:Uc F fr0)(hZ:KC Z σ0)(hok:fB F Z=true)(h:DJ C n c K F Z):DJ C n c K fr σ:=by
 refine BB.2 λB S w0 η φ a w hM=>?_
 obtain⟨η1,φ1,h1⟩:=hf _ _ _ _ _ _ _ _ hM
 exact BB.1 h B S w0 η1 φ1 a w ((h1.sub hI).only hok hZ)
end
end Go.Sx
end
section
namespace Go.Proofs.YtjejpdfldmempaaGreatDoor
open Go Go.Sx Go.RowKit Go.Reg Go.Gr
inductive Ph where
 |it (todo:List (ByteArray×RowV))
 |on (todo:List (ByteArray×RowV)) (p:ByteArray×RowV)
def Ph.At {P:Program}(M:MapE P ByteArray RowV)(w:World)(r b:Nat)(m:List (ByteArray×RowV)):Ph->Prop
 |.it todo=>EM M.encK M.encV w r b m todo
 |.on todo p=>OU M.encK M.encV w r b m todo p
theorem Ph.At.keep {P:Program} {M:MapE P ByteArray RowV} {w w':World} {S:List Nat} {r b:Nat} {m:List (ByteArray×RowV)} {ph:Ph}(h:ph.At M w r b m)(t:Tch S w w')(hr:r∉S)(hb:b∉S):ph.At M w' r b m:=by
 cases ph with
 |it todo=>exact EM.keep h t hr hb
 |on todo p=>exact OU.keep h t hr hb
theorem Ph.At.iter {P:Program} {M:MapE P ByteArray RowV} {w:World} {r b:Nat} {m:List (ByteArray×RowV)} {ph:Ph}(h:ph.At M w r b m):∃todo,EM M.encK M.encV w r b m todo:=by
 cases ph with
 |it todo=>exact⟨_,h⟩
 |on todo p=>exact⟨_,OU.iter h⟩
structure RowsI {P:Program}(M:MapE P ByteArray RowV)(m:List (ByteArray×RowV))(r:Nat)(ph:Ph)(w:World)(v:Value)(F:List Nat)(b:Nat)(G:List Nat):Prop where
 val:v=.map (some b)
 mem:∀x,x∈F↔x=b\/x=r\/x∈G
 nb:b∉G
 nr:r∉G
 lt:∀x∈F,x<w.heap.size
 at_:ph.At M w r b m
 rows:∀q∈m,RepC (J6 w G) w (AS q.2.p.labels) [q.2.lv]/\RepC (J6 w G) w (D0 q.2.p.edges) [q.2.ev]
def GN {P:Program}(M:MapE P ByteArray RowV)(m:List (ByteArray×RowV))(r:Nat)(ph:Ph):Absn where
 R w v F:=∃b G,RowsI M m r ph w v F b G
 keep:=by
  rintro S w w' v F ⟨b,G,h⟩ t hd
  have hG:∀x∈G,x∉S:=λx hx=>hd x ((h.mem x).2 (.inr (.inr hx)))
  have hl:=GP t hG
  exact⟨b,G,h.val,h.mem,h.nb,h.nr,λx hx=>CS (h.lt x hx) t.size,h.at_.keep t (hd r ((h.mem r).2 (.inr (.inl rfl)))) (hd b ((h.mem b).2 (.inl rfl))),λq hq=>⟨RepC.later hl _ _ (h.rows q hq).1,RepC.later hl _ _ (h.rows q hq).2⟩⟩
 lt:=by rintro w v F ⟨b,G,h⟩ x hx;exact h.lt x hx
 one:=by rintro w v F ⟨b,G,h⟩;rw[h.val];rfl
section
variable {C:Cx} {n kd:Nat} {fr:Fr} {σ:Sg} {o:Oper} {K:Fr->Sg->Prop} {M:MapE C.P ByteArray RowV} {m:List (ByteArray×RowV)} {X:List (Value×Da)}
theorem Na {B S:List Nat} {w0 w:World} {η:Nat->Value} {φ:Nat->List Nat}(hm:Mem C B S w0 σ η φ w) {i r:Nat} {ph:Ph}(hg:BP i σ=some (GN M m r ph).own):∃b G,RowsI M m r ph w (η i) (φ i) b G:=hm.own _ (Bm hg)
theorem Vf(i:Nat) {x:Operand}(ho:o.op=.range M.t x)(hx:ev C.Γ fr x=.own i)(hg:BP i σ=some (F7 M m X).own)(hkd:kd≠5/\kd≠2/\kd≠0)(hd:Dv o.dst n=true)
  (hK:∀r,Cf (BG id i (GN M m r (.it m)).own σ) λσ=>K (C4 o.dst (.d (.raw (.pointer (some ⟨r,0,none⟩)))) fr) σ):Bd C n kd o K fr σ:=by
 refine CO hkd.1 hkd.2.1 λB S w0 η φ a w hM=>⟨λe=>absurd e hkd.2.2,.inl ?_⟩
 have e1:=IH (Be hM x) hx
 obtain⟨b,G,h⟩:=LZ hM.mem hg
 obtain⟨w',hr,hI,ht⟩:=h.map.range (P:=C.P) (t:=M.t) M.ht
 have hk:=hK w.heap.size
 rw[Bz]at hk
 have hi:=AY (Bm hg)
 have hF:∀c∈φ i++[w.heap.size],c∈φ i\/w.heap.size<=c:=λc hc=>by
  rcases Ag.1 hc with hc|hc
  ·exact .inl hc
  ·exact .inr (by rw[AA.1 hc];exact Az _)
 have hX:∀c∈([]:List Nat),c∈φ i:=λc hc=>by cases hc
 have hlo:=GP ht (G:=G) (λx _ hb=>by cases hb)
 have hl:=Later.turn (σ:=σ) B ht hX hi hF id (GN M m w.heap.size (.it m)).own
 have hmm:=hM.mem.turnSame ht hX hi hF (o:=(GN M m w.heap.size (.it m)).own) ⟨b,G,h.val,λx=>by
   rw[Ag,h.mem,AA]
   constructor
   ·rintro((h|h)|h)
    ·exact .inl h
    ·exact .inr (.inr h)
    ·exact .inr (.inl h)
   ·rintro(h|h|h)
    ·exact .inl (.inl h)
    ·exact .inr h
    ·exact .inl (.inr h),h.nb,λhm=>by have:=h.lt _ ((h.mem _).2 (.inr hm));omega,λx hx=>by
   rcases Ag.1 hx with hx|hx
   ·exact CS (h.lt x hx) ht.size
   ·rw[AA.1 hx];exact hI.lt,hI,λq hq=>⟨RepC.later hlo _ _ (h.rows q hq).1,RepC.later hlo _ _ (h.rows q hq).2⟩⟩
 have M':Models C B S w0 n fr _ η _ a w':=⟨hmm,hM.fr.later hl (λj hj=>⟨by rw[By];exact hj,rfl⟩),hM.defers,hM.size⟩
 refine⟨.pointer (some ⟨w.heap.size,0,none⟩),w',?_,_,_,_,_,M'.put hd ⟨[.pointer (some ⟨w.heap.size,0,none⟩)],by simp only[A7,RepC],rfl⟩,hk⟩
 simp only[execOp,ho]
 rw[e1,h.val]
 exact Df hr
theorem XN(i r:Nat) {todo:List (ByteArray×RowV)} {x:Operand} {ty:TypeId}(ho:o.op=.next x false)(hty:o.type=ty)(hx:ev C.Γ fr x=.d (.raw (.pointer (some ⟨r,0,none⟩))))(hg:BP i σ=some (GN M m r (.it todo)).own)(hkd:kd≠5/\kd≠2/\kd≠0)(hd:Dv o.dst n=true)
  (h1:todo=[]->Cf (BG id i (F7 M m []).own σ) λσ=>K (C4 o.dst (.d (.tuple [.bool false])) fr) σ)
  (h2:∀p todo',todo.Perm (p::todo')->Cf (BG id i (GN M m r (.on todo' p)).own σ) λσ=>K (C4 o.dst (.d (.tuple [.bool true,.undef,.undef])) fr) σ):Bd C n kd o K fr σ:=by
 refine CO hkd.1 hkd.2.1 λB S w0 η φ a w hM=>⟨λe=>absurd e hkd.2.2,.inl ?_⟩
 obtain⟨cs,g1,e1⟩:=Ff (Be hM x) hx
 simp only[RepC]at g1
 subst g1
 obtain⟨b,G,h⟩:=Na hM.mem hg
 have hi:=AY (Bm hg)
 have hF:∀c∈φ i,c∈φ i\/w.heap.size<=c:=λc hc=>.inl hc
 have hI:EM M.encK M.encV w r b m todo:=h.at_
 rcases hI.next (P:=C.P) ty with⟨h0,hr⟩|⟨p,todo',w',hp,hr,hon,ht⟩
 ·have hk:=h1 h0
  rw[Bz]at hk
  have ht:=Tch.refl [] w
  have hX:∀c∈([]:List Nat),c∈φ i:=λc hc=>by cases hc
  have hl:=Later.turn (σ:=σ) B ht hX hi hF id (F7 M m []).own
  have hmo:=Sa (w:=w) (G:=G) (G':=r::G) (λx hx=>AE _ hx)
  have hmm:=hM.mem.turnSame ht hX hi hF (o:=(F7 M m []).own) ⟨b,r::G,h.val,λx=>by rw[h.mem,An],λhm=>by
    rcases An.1 hm with e|e
    ·exact hI.ne e.symm
    ·exact h.nb e,h.lt,hI.mapAt,λx hx=>(by cases hx),λq hq=>⟨RepC.later hmo _ _ (h.rows q hq).1,RepC.later hmo _ _ (h.rows q hq).2⟩⟩
  have M':Models C B S w0 n fr _ η _ a w:=⟨hmm,hM.fr.later hl (λj hj=>⟨by rw[By];exact hj,rfl⟩),hM.defers,hM.size⟩
  refine⟨.tuple #[.bool false],w,?_,_,_,_,_,M'.put hd ⟨[.tuple #[.bool false]],?_,rfl⟩,hk⟩
  ·simp only[execOp,ho,hty]
   rw[e1]
   exact Df hr
  ·simp only[A7,RepC,Am]
   exact⟨[[.bool false]],⟨_,_,rfl,rfl,rfl⟩,rfl⟩
 ·have hk:=h2 p todo' hp
  rw[Bz]at hk
  have hX:∀c∈[r],c∈φ i:=λc hc=>by rw[AA.1 hc];exact(h.mem r).2 (.inr (.inl rfl))
  have hlo:=GP ht (G:=G) (λx hx hb=>h.nr (by rw[<-AA.1 hb];exact hx))
  have hl:=Later.turn (σ:=σ) B ht hX hi hF id (GN M m r (.on todo' p)).own
  have hmm:=hM.mem.turnSame ht hX hi hF (o:=(GN M m r (.on todo' p)).own) ⟨b,G,h.val,h.mem,h.nb,h.nr,λx hx=>CS (h.lt x hx) ht.size,hon,λq hq=>⟨RepC.later hlo _ _ (h.rows q hq).1,RepC.later hlo _ _ (h.rows q hq).2⟩⟩
  have M':Models C B S w0 n fr _ η _ a w':=⟨hmm,hM.fr.later hl (λj hj=>⟨by rw[By];exact hj,rfl⟩),hM.defers,hM.size⟩
  refine⟨.tuple #[.bool true,M.encK p.1,M.encV p.2],w',?_,_,_,_,_,M'.put hd ⟨[.tuple #[.bool true,M.encK p.1,M.encV p.2]],?_,rfl⟩,hk⟩
  ·simp only[execOp,ho,hty]
   rw[e1]
   exact Df hr
  ·simp only[A7,RepC,Am]
   exact⟨[[.bool true],[M.encK p.1],[M.encV p.2]],⟨_,_,rfl,rfl,_,_,rfl,⟨_,rfl⟩,_,_,rfl,⟨_,rfl⟩,rfl⟩,rfl⟩
theorem Vg(i r:Nat) {todo:List (ByteArray×RowV)} {p:ByteArray×RowV} {x:Operand}(ho:o.op=.entry x)(hx:ev C.Γ fr x=.d (.raw (.pointer (some ⟨r,0,none⟩))))(hg:BP i σ=some (GN M m r (.on todo p)).own)(hkd:kd≠5/\kd≠2/\kd≠0)(hd:Dv o.dst n=true)
  (hK:Cf (BG id i (GN M m r (.it todo)).own σ) λσ=>K (C4 o.dst (.d (.tuple [.undef,M.dV p.2])) fr) σ):Bd C n kd o K fr σ:=by
 rw[Bz]at hK
 refine CO hkd.1 hkd.2.1 λB S w0 η φ a w hM=>⟨λe=>absurd e hkd.2.2,.inl ?_⟩
 obtain⟨cs,g1,e1⟩:=Ff (Be hM x) hx
 simp only[RepC]at g1
 subst g1
 obtain⟨b,G,h⟩:=Na hM.mem hg
 have hon:OU M.encK M.encV w r b m todo p:=h.at_
 have hi:=AY (Bm hg)
 have hF:∀c∈φ i,c∈φ i\/w.heap.size<=c:=λc hc=>.inl hc
 have ht:=Tch.refl [] w
 have hX:∀c∈([]:List Nat),c∈φ i:=λc hc=>by cases hc
 have hl:=Later.turn (σ:=σ) B ht hX hi hF id (GN M m r (.it todo)).own
 have hmm:=hM.mem.turnSame ht hX hi hF (o:=(GN M m r (.it todo)).own) ⟨b,G,h.val,h.mem,h.nb,h.nr,h.lt,hon.iter,h.rows⟩
 have M':Models C B S w0 n fr _ η _ a w:=⟨hmm,hM.fr.later hl (λj hj=>⟨by rw[By];exact hj,rfl⟩),hM.defers,hM.size⟩
 obtain⟨cs,g1,g2⟩:=M.ofV (B++Al (DB φ i (φ i)) (BG id i (GN M m r (.it todo)).own σ)) w p.2
 refine⟨.tuple #[M.encK p.1,M.encV p.2],w,?_,_,_,_,_,M'.put hd ⟨[.tuple #[M.encK p.1,M.encV p.2]],?_,rfl⟩,hK⟩
 ·simp only[execOp,ho]
  rw[e1]
  exact Df hon.entry
 ·simp only[A7,RepC,Am]
  exact⟨[[M.encK p.1],cs],⟨_,_,rfl,⟨_,rfl⟩,cs,[],rfl,g1,rfl⟩,by simp[g2,Ft]⟩
theorem RL {B S:List Nat} {w0 w:World} {η:Nat->Value} {φ:Nat->List Nat}(hm:Mem C B S w0 σ η φ w) {i r:Nat} {ph:Ph}(hg:BP i σ=some (GN M m r ph).own) {q:ByteArray×RowV}(hq:q∈m):RepC [] w (AS q.2.p.labels) [q.2.lv]/\RepC [] w (D0 q.2.p.edges) [q.2.ev]:=by
 obtain⟨b,G,h⟩:=Na hm hg
 have hl:Later (J6 w G) w [] w:=⟨Az _,λ_ _ _=>rfl,λ_ _ _ h=>by cases h⟩
 exact⟨RepC.later hl _ _ (h.rows q hq).1,RepC.later hl _ _ (h.rows q hq).2⟩
theorem Rb {E k:Nat}(j:Nat) {q:Bool} {f:FuncId} {u:Value} {x:Da} {L:List Da} {K:KD}(hj:BP j σ=none)(hx1:x.one=true)(hx:∀{B S:List Nat} {w0 w:World} {η:Nat->Value} {φ:Nat->List Nat},Mem C B S w0 σ η φ w->RepC [] w x [u])(hp:DV C f [x] E k (λds=>ds=L))(hfl:Fg L=true)(hK:Cf (F0 j (.slice E k L) σ) λσ=>K (.own j) fr σ):BU C q f [.d (.raw u)] K fr σ:=by
 unfold BU
 rintro B S w0 η φ n a w vs hM ⟨css,hr,rfl⟩
 simp only[A9,A7,RepC]at hr
 obtain⟨_,_,rfl,rfl,rfl⟩:=hr
 have hgl:Glob C [] w:=λg hg=>(hM.mem.glob g hg).later ⟨Az _,λ_ _ _=>rfl,λ_ _ _ h=>by cases h⟩
 have e:List.zipWith BR [.d (.raw u)] [[u]]=[u]:=rfl
 rw[e]
 obtain⟨g1,g2⟩:=hp [] w [u] (λb hb=>by cases hb) hgl ⟨[[u]],by simp only[Am];exact⟨_,_,rfl,hx hM.mem,rfl⟩,by simp[Pa hx1]⟩
 refine⟨g1,g2.mono ?_⟩
 rintro e w' ⟨v,cs2,ds,rfl,rfl,hs,hb,hr2,hk,ht⟩
 obtain⟨d,fr',σ',η',φ',x1,x2,x3⟩:=Qn hM hj hs hb (O:=B++(v.ownBlock.toList++Al φ σ)) (λO'=>.inl (Am.flat _ cs2 hfl hr2)) rfl hk ht hK
 exact⟨v,d,fr',σ',η',φ',rfl,x1,x2,x3,λ_=>ht.ext⟩
theorem sW {T:FF} {fr1:Fr} {σ1:Sg}(hC:C.Ok T) {G:List FuncId}(t:Nat) {a b c:Da}(hf:Lo fr σ fr1 σ1)(e:Sx.get fr1 t=.agg [.agg [.d a,.d b],.d c])(hks:CQ C.P G o=kd\/kd=3)(h:P6 C T n kd o K ((t,.d (.agg [.agg [a,b],c]))::fr1) σ1):Bd C n kd o K fr σ:=by
 have h:=I9 hC hks h
 unfold Bd at h⊢
 intro B S w0 η φ ac w hM
 obtain⟨η1,φ1,hM1⟩:=hf.models hM
 refine h B S w0 η1 φ1 ac w ⟨hM1.mem,λs=>?_,hM1.defers,hM1.size⟩
 simp only[Sx.get]
 rcases Br t s with⟨hb,e2⟩|⟨hb,_⟩<;>rw[hb]
 ·subst e2
  obtain⟨cs,r1,r2⟩:=hM1.fr t
  rw[e]at r1 r2
  refine⟨cs,?_,r2⟩
  simp only[A7,Bc,RepC,RepCs]at r1⊢
  exact r1
 ·exact hM1.fr s
end
end Go.Proofs.YtjejpdfldmempaaGreatDoor
end
