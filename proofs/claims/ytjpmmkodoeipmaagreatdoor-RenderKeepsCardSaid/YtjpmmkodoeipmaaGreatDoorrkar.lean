/- Merged: Tbo Rng Rec Cag Trl Tri Lst Scp Str Num Gvr Ptd Ptx. -/
import Derived.Test.YtjpmmkodoeipmaaGreatDoorrkan
import Derived.Test.YtjpmmkodoeipmaaGreatDoorrkaq
import Derived.Test.YtjpmmkodoeipmaaGreatDoorrkag
import Derived.Maps.RangeRun
import Derived.Shelf.Strings.OnBuilder
import Derived.Shelf.Strconv.Itoa3
import Derived.Test.YtjpmmkodoeipmaaGreatDoorRows
import Derived.Lib.ItoaNum
import Derived.Lib.AtoiAll
import Derived.Lib.IndexMore
import Derived.Test.YtjpmmkodoeipmaaGreatDoorrkap
import Derived.Lib.LaidTab
import Derived.Lib.Join
section
namespace Go.Proofs.YtjpmmkodoeipmaaGreatDoor
open Go Go.Sx Go.RowKit Go.Reg Go.Gr
structure RowV where
 lv:Value
 ev:Value
 n:Int
 p:Pt
 h1:lv.oneCell'=true
 h2:ev.oneCell'=true
def Mq(w:World)(G:List Nat):List Nat:=(List.range w.heap.size).filter (λb=>decide (b∉G))
theorem Kw {w:World} {G:List Nat} {b:Nat}:b∈Mq w G↔b<w.heap.size/\b∉G:=by unfold Mq;rw[Az,AM];simp
theorem Jf {S G:List Nat} {w w':World}(t:Tch S w w')(hd:∀x∈G,x∉S):Later (Mq w G) w (Mq w' G) w':=
 ⟨t.size,λb hb hn=>t.blk b hb (hd b (by
  by_cases h:b∈G
  ·exact h
  ·exact absurd (Kw.2 ⟨hb,h⟩) hn)),λb hn hb hm=>hn (Kw.2 ⟨hb,(Kw.1 hm).2⟩)⟩
theorem Wx {G G':List Nat} {w:World}(h:∀x∈G,x∈G'):Later (Mq w G) w (Mq w G') w:=
 ⟨Ax _,λ_ _ _=>rfl,λb hn hb hm=>hn (Kw.2 ⟨hb,λhg=>(Kw.1 hm).2 (h b hg)⟩)⟩
structure RowsR {P:Program}(M:MapE P ByteArray RowV)(m:List (ByteArray×RowV))(X:List (Value×Da))(w:World)(v:Value)(F:List Nat)(b:Nat)(G:List Nat):Prop where
 val:v=.map (some b)
 mem:∀x,x∈F↔x=b\/x∈G
 nb:b∉G
 lt:∀x∈F,x<w.heap.size
 map:CK M.encK M.encV w b m
 ad:∀x∈X,RepC (Mq w G) w x.2 [x.1]
 rows:∀r∈m,RepC (Mq w G) w (Bn r.2.p.labels) [r.2.lv]/\RepC (Mq w G) w (Fa r.2.p.edges) [r.2.ev]
def G5 {P:Program}(M:MapE P ByteArray RowV)(m:List (ByteArray×RowV))(X:List (Value×Da)):Absn where
 R w v F:=∃b G,RowsR M m X w v F b G
 keep:=by
  rintro S w w' v F ⟨b,G,h⟩ t hd
  have hG:∀x∈G,x∉S:=λx hx=>hd x ((h.mem x).2 (.inr hx))
  have hl:=Jf t hG
  exact⟨b,G,h.val,h.mem,h.nb,λx hx=>Bq (h.lt x hx) t.size,h.map.keep t (hd b ((h.mem b).2 (.inl rfl))),λx hx=>RepC.later hl _ _ (h.ad x hx),λr hr=>⟨RepC.later hl _ _ (h.rows r hr).1,RepC.later hl _ _ (h.rows r hr).2⟩⟩
 lt:=by rintro w v F ⟨b,G,h⟩ x hx;exact h.lt x hx
 one:=by rintro w v F ⟨b,G,h⟩;rw[h.val];rfl
section
variable {C:Cx} {n kd:Nat} {fr:Fr} {σ:Sg} {o:Oper} {K:Fr->Sg->Prop} {M:MapE C.P ByteArray RowV} {m:List (ByteArray×RowV)} {X:List (Value×Da)}
theorem PR {B S:List Nat} {w0 w:World} {η:Nat->Value} {φ:Nat->List Nat}(hm:Mem C B S w0 σ η φ w) {i:Nat}(hg:BI i σ=some (G5 M m X).own):∃b G,RowsR M m X w (η i) (φ i) b G:=hm.own _ (AQ hg)
theorem iP(M:MapE C.P ByteArray RowV)(j:Nat)(ho:o.op=.makeMap M.t none)(hj:BI j σ=none)(hkd:kd=6\/kd=3)(hd:Dh o.dst n=true)
  (hK:Ci (Fm j (G5 M [] []).own σ) λσ=>K (CF o.dst (.own j) fr) σ):Bm C n kd o K fr σ:=by
 rw[Bw]at hK
 refine CC (by rcases hkd with rfl|rfl<;>decide) (by rcases hkd with rfl|rfl<;>decide) λB S w0 η φ a w hM=>⟨λe=>(by rcases hkd with rfl|rfl<;>cases e),.inl ?_⟩
 obtain⟨η',φ',M'⟩:=hM.newAbs (Tch.alloc w (.map #[] 0) []) (r:=G5 M [] []) (v:=.map (some w.heap.size)) (F:=[w.heap.size]) (by simp) ⟨w.heap.size,[],rfl,λx=>(by simp),by simp,λx hx=>(by simp at hx;subst hx;simp),CK.new _ _ _,λx hx=>(by cases hx),λx hx=>(by cases hx)⟩ (CQ hj) hd
 refine⟨_,_,?_,_,_,_,_,M',hK⟩
 simp only[execOp,ho]
 exact CZ (by rfl)
theorem Uv(i:Nat)(q:ByteArray) {x ix:Operand}(ho:o.op=.lookup M.t x ix true)(hx:ev C.Γ fr x=.own i)(hg:BI i σ=some (G5 M m X).own)(hix:ev C.Γ fr ix=.d (M.dK q))(hkd:kd≠5/\kd≠2)(hd:Dh o.dst n=true) {y:RowV} {bo:Bool}
  (hy:((get m q).getD M.z,(get m q).isSome)=(y,bo)) (hK:K (CF o.dst (.d (.tuple [M.dV y,.bool bo])) fr) σ):Bm C n kd o K fr σ:=by
 refine BQ hkd.1 hkd.2 hd λB S w0 η φ a w hM=>?_
 obtain⟨b,G,h⟩:=PR hM.mem hg
 have e1:=FO (Bb hM x) hx
 have e2:=M.repK _ _ _ _ (Eg (Bb hM ix) hix)
 have hr:=h.map.lookup M.hk M.ht M.hz q true
 have hy1:((get m q).map M.encV).getD (M.encV M.z)=M.encV y:=by
  rw[<-(Prod.mk.inj hy).1];cases get m q<;>rfl
 rw[hy1,(Prod.mk.inj hy).2]at hr
 obtain⟨cs,g1,g2⟩:=M.ofV (B++Ao φ σ) w y
 refine .inr ⟨_,.tuple #[M.encV y,.bool bo],hK,?_,⟨[.tuple #[M.encV y,.bool bo]],?_,rfl⟩,λ_=>by simp[BG,ho]⟩
 ·simp only[execOp,ho]
  rw[e1,e2,h.val]
  exact CZ hr
 ·simp only[AH,RepC,Aq]
  exact⟨[cs,[.bool bo]],⟨cs,_,rfl,g1,[.bool bo],[],rfl,rfl,rfl⟩,by simp[g2,Ea]⟩
theorem AD6 {B:List Nat} {σ:Sg} {η:Nat->Value} {φ:Nat->List Nat} {w:World} {v a b:Value} {k:Int}(h:RD B σ η φ w (.agg [.agg [.d (.raw a),.d (.raw b)],.d (.int .i64 k)]) v):v=.agg #[a,b,.int .i64 k]:=by
 obtain⟨cs,h,rfl⟩:=h
 simp only[AH,B6,RepC]at h
 obtain⟨_,_,rfl,⟨_,_,rfl,rfl,_,_,rfl,rfl,rfl⟩,_,_,rfl,rfl,rfl⟩:=h
 rfl
theorem Wz(i:Nat)(q:ByteArray)(y:RowV) {x ix vx:Operand}(ho:o.op=.mapUpdate M.t x ix vx)(hx:ev C.Γ fr x=.own i)(hg:BI i σ=some (G5 M m X).own)(hix:ev C.Γ fr ix=.d (M.dK q))(hv:∀{B:List Nat} {σ:Sg} {η:Nat->Value} {φ:Nat->List Nat} {w:World} {v:Value},RD B σ η φ w (ev C.Γ fr vx) v->v=M.encV y)
  (hy:∀(O:List Nat) (w:World),(∀x∈X,RepC O w x.2 [x.1])->(∀r∈m,RepC O w (Bn r.2.p.labels) [r.2.lv]/\RepC O w (Fa r.2.p.edges) [r.2.ev])->RepC O w (Bn y.p.labels) [y.lv]/\RepC O w (Fa y.p.edges) [y.ev]) (hkd:kd≠5/\kd≠2/\kd≠0) (hd:Dh o.dst n=true)
  (hK:Ci (AX id i (G5 M (put m q y) X).own σ) λσ=>K (CF o.dst (.d .undef) fr) σ):Bm C n kd o K fr σ:=by
 rw[Bw]at hK
 refine CC hkd.1 hkd.2.1 λB S w0 η φ a w hM=>⟨λe=>absurd e hkd.2.2,.inr ?_⟩
 have e1:=FO (Bb hM x) hx
 have e2:=M.repK _ _ _ _ (Eg (Bb hM ix) hix)
 have e3:=hv (Bb hM vx)
 obtain⟨b,G,h⟩:=PR hM.mem hg
 obtain⟨w',hr,hm',ht⟩:=h.map.update M.hk M.ht q y
 have hi:=AV (AQ hg)
 have hX:∀c∈[b],c∈φ i:=λc hc=>by rw[As.1 hc];exact(h.mem b).2 (.inl rfl)
 have hF:∀c∈φ i,c∈φ i\/w.heap.size<=c:=λc hc=>.inl hc
 have hlo:=Jf ht (G:=G) (λx hx hb=>h.nb (by rw[<-As.1 hb];exact hx))
 have hyr:=hy _ _ h.ad h.rows
 have hrows:∀r∈put m q y,RepC (Mq w' G) w' (Bn r.2.p.labels) [r.2.lv]/\RepC (Mq w' G) w' (Fa r.2.p.edges) [r.2.ev]:=λr hrm=>by
  have hc:r∈m\/r=(q,y):=by
   unfold put at hrm
   split at hrm
   ·exact KP hrm
   ·rcases Ag.1 hrm with h1|h1
    ·exact .inl h1
    ·exact .inr (As.1 h1)
  rcases hc with hc|rfl
  ·exact⟨RepC.later hlo _ _ (h.rows r hc).1,RepC.later hlo _ _ (h.rows r hc).2⟩
  ·exact⟨RepC.later hlo _ _ hyr.1,RepC.later hlo _ _ hyr.2⟩
 have hl:=Later.turn (σ:=σ) B ht hX hi hF id (G5 M (put m q y) X).own
 have hmm:=hM.mem.turnSame ht hX hi hF (o:=(G5 M (put m q y) X).own) ⟨b,G,h.val,h.mem,h.nb,λx hx=>Bq (h.lt x hx) ht.size,hm',λx hx=>RepC.later hlo _ _ (h.ad x hx),hrows⟩
 have M':Models C B S w0 n fr _ η _ a w':=⟨hmm,hM.fr.later hl (λj hj=>⟨by rw[AZ];exact hj,rfl⟩),hM.defers,hM.size⟩
 refine⟨w',?_,_,_,_,_,M'.put hd ⟨[Go.undef],by simp[AH,RepC],rfl⟩,hK⟩
 simp only[execOp,ho]
 rw[e1,e2,e3,h.val]
 exact Wf hr
theorem Mt {T:Hh}(hC:C.Ok T) {t:TypeId} {x v:Operand} {e:TyI} {ds:List Dat} {a b:Value} {k:Int}(j:Nat)(ho:o.op=.store t x v)(he:GQ t T=some e)(hes:e.size=3)(hx:ev C.Γ fr x=.own j)(hg:BI j σ=some (.cells t ds))(hds:Ot ds=3)(hv:ev C.Γ fr v=.d (.agg [.agg [.raw a,.raw b],.int .i64 k]))(ha:a.oneCell'=true)(hb:b.oneCell'=true)(hkd:kd≠5/\kd≠2)(hd:Dh o.dst n=true)
  (hK:Ci (AX id j (.cells t [.d (.agg [.raw a,.raw b]),.d (.int .i64 k)]) σ) λσ=>K (CF o.dst (.d .undef) fr) σ):Bm C n kd o K fr σ:=by
 rw[Bw]at hK
 refine CC hkd.1 hkd.2 λB S w0 η φ ac w hM=>⟨λ_=>by simp[BG,ho],.inr ?_⟩
 have ht:=hC.ty he
 obtain⟨cx,hcx,e2⟩:=Eg (Bb hM v) hv
 obtain⟨c1,h1,e1⟩:=by have:=Bb hM x;rw[hx]at this;exact this
 simp only[AH]at h1
 obtain⟨_,rfl⟩:=h1
 simp only[RepC,RepCs]at hcx
 obtain⟨_,_,rfl,⟨_,_,rfl,rfl,_,_,rfl,rfl,rfl⟩,_,_,rfl,rfl,rfl⟩:=hcx
 obtain⟨g,cs,g1,g2,g3,g4⟩:=DX hM.mem hg
 have hl:=Ko _ _ g4
 rw[hds]at hl
 have hone:∀u∈[a,b,Value.int .i64 k],u.oneCell'=true:=by
  intro u hu
  simp only[Ai,CT,or_false]at hu
  rcases hu with rfl|rfl|rfl
  ·exact ha
  ·exact hb
  ·rfl
 obtain⟨w',r1,r2,r3⟩:=IV.splice (P:=C.P) g3 (o:=0) (x:=[a,b,.int .i64 k]) (by rw[hl];simp) hone
 have e4:splice cs 0 [a,b,.int .i64 k]=[a,b,.int .i64 k]:=by simp[splice,hl]
 rw[e4]at r2
 have hT:=IA hM.mem hg g1 g2 (ds':=[.d (.agg [.raw a,.raw b]),.d (.int .i64 k)]) (by
  simp only[B6,AH,RepC,RepCs]
  exact⟨[a,b],_,rfl,⟨[a],_,rfl,rfl,[b],_,rfl,rfl,rfl⟩,_,_,rfl,rfl,rfl⟩) r2 r3
 have M':Models C B S w0 n fr _ η φ ac w':=⟨hT.1,hT.frame hM.fr,hM.defers,hM.size⟩
 refine⟨w',?_,_,_,_,_,M'.put hd ⟨[Go.undef],by simp[AH,RepC],rfl⟩,hK⟩
 simp only[execOp,ho]
 rw[e1,e2]
 refine Wf ?_
 simp only[Ch,AAW,Ea,g1]
 simp only[Instr.storeAt,Instr.sureAddr,AK,Bo,AF,storeVar,ht.sizeOf,hes]
 simp[Value.cells]
 simp[r1]
theorem _root_.Go.Sx.Mem.give {B S:List Nat} {w0 w:World} {η:Nat->Value} {φ:Nat->List Nat}(h:Mem C B S w0 σ η φ w) {i j:Nat}(hi:i∈BA σ)(hj:j∈BA σ)(hij:i≠j) {F:List Nat}(hF:∀b,b∈F↔b∈φ i\/b∈φ j) {r:Absn}(h1:r.R w (η i) F) {x:Da}(hx:x.one=true)(hxr:∀O,RepC O w x [η j]):
  Mem C B S w0 (Dc (BM j x) j (AX id i r.own σ)) η (CE φ i F) w/\Later (B++Ao φ σ) w (B++Ao (CE φ i F) (Dc (BM j x) j (AX id i r.own σ))) w:=by
 have hids:BA (Dc (BM j x) j (AX id i r.own σ))=(BA σ).filter (· !=j):=by rw[DI,AZ]
 have hin:∀k,k∈BA (Dc (BM j x) j (AX id i r.own σ))↔k∈BA σ/\k≠j:=λk=>by rw[hids,Az];simp
 have e3:∀k,k≠i->CE φ i F k=φ k:=λk a=>BU _ _ _ a
 have mb:∀{φ:Nat->List Nat} {σ:Sg} {b:Nat},b∈Ao φ σ↔∃k∈BA σ,b∈φ k:=⟨λh=>by obtain⟨p,hp,hb⟩:=AL.1 h;exact⟨p.1,AV hp,hb⟩,λ⟨_,hk,hb⟩=>B5 hk hb⟩
 have hO:∀b,b∈B++Ao (CE φ i F) (Dc (BM j x) j (AX id i r.own σ))↔b∈B++Ao φ σ:=λb=>by
  simp only[Ag,mb,hin]
  refine or_congr SD ⟨?_,?_⟩
  ·rintro⟨k,⟨hk,hkj⟩,hb⟩
   by_cases e:k=i
   ·subst e;rw[Ck]at hb
    rcases(hF b).1 hb with hb|hb
    ·exact⟨k,hk,hb⟩
    ·exact⟨j,hj,hb⟩
   ·rw[e3 k e]at hb;exact⟨k,hk,hb⟩
  ·rintro⟨k,hk,hb⟩
   by_cases e:k=i
   ·subst e;exact⟨k,⟨hk,hij⟩,by rw[Ck];exact(hF b).2 (.inl hb)⟩
   ·by_cases e2:k=j
    ·subst e2;exact⟨i,⟨hi,hij⟩,by rw[Ck];exact(hF b).2 (.inr hb)⟩
    ·exact⟨k,⟨hk,e2⟩,by rw[e3 k e];exact hb⟩
 have hl:Later (B++Ao φ σ) w (B++Ao (CE φ i F) (Dc (BM j x) j (AX id i r.own σ))) w:=⟨Ax _,λ_ _ _=>rfl,λb hn _ hm=>hn ((hO b).1 hm)⟩
 have hcov:∀k,k∈BA σ->k≠j->∀b∈CE φ i F k,b∈φ k\/(k=i/\b∈φ j):=λk hk _ b hb=>by
  by_cases e:k=i
  ·subst e;rw[Ck]at hb
   rcases(hF b).1 hb with hb|hb
   ·exact .inl hb
   ·exact .inr ⟨rfl,hb⟩
  ·rw[e3 k e]at hb;exact .inl hb
 refine⟨⟨h.tch,?_,?_,?_,?_,h.out,λg hg=>(h.glob g hg).later hl⟩,hl⟩
 ·intro p hp
  obtain⟨q,hq,hqj,rfl⟩:=Fh hp
  rcases Gx hq with rfl|⟨q',hq',hqi,rfl⟩
  ·simp only[Ck];exact h1
  ·simp only[e3 q'.1 hqi]
   exact(h.own q' hq').kill hx hl (λk hk hkj=>⟨(hin k).2 ⟨hk,hkj⟩,rfl⟩) (hxr _) (Tch.refl [] w) (λ_ _=>by simp)
 ·rw[hids];exact h.nodup.filter _
 ·intro k hk m hm hkm b hb1 hb2
  obtain⟨hk,hkj⟩:=(hin k).1 hk
  obtain⟨hm,hmj⟩:=(hin m).1 hm
  rcases hcov k hk hkj b hb1 with g1|⟨e1,g1⟩<;>rcases hcov m hm hmj b hb2 with g2|⟨e2,g2⟩
  ·exact h.disj k hk m hm hkm b g1 g2
  ·exact h.disj k hk j hj hkj b g1 g2
  ·exact h.disj m hm j hj hmj b g2 g1
  ·exact hkm (e1.trans e2.symm)
 ·intro k hk b hb
  obtain⟨hk,hkj⟩:=(hin k).1 hk
  rcases hcov k hk hkj b hb with g1|⟨_,g1⟩
  ·exact h.new k hk b g1
  ·exact h.new j hj b g1
theorem Vx(i j:Nat) {q:Bool} {f:FuncId} {args:List Dat} {K:KD} {E k:Nat} {ds:List Da}(hg:BI i σ=some (G5 M m X).own)(hj:BI j σ=some (.slice E k ds))(hfl:GL ds=true)
  (h:∀u,u.oneCell'=true->Cj C q f (GI j (.raw u) args) K (Fj j (.raw u) fr) (Dc (BM j (.raw u)) j (AX id i (G5 M m ((u,.list k ds)::X)).own σ))):Cj C q f args K fr σ:=by
 unfold Cj at h⊢
 rintro B S w0 η φ n a w vs hM ⟨css,hr,rfl⟩
 obtain⟨b,G,hb⟩:=PR hM.mem hg
 obtain⟨cs,hs,ej,hrj,hkk⟩:=BV hM.mem hj
 have hi:=AV (AQ hg)
 have hj':=AV (AQ hj)
 have hij:i≠j:=λe=>by rw[e,hj]at hg;cases hg
 have hbj:b∉φ j:=λhm=>hM.mem.disj i hi j hj' hij b ((hb.mem b).2 (.inl rfl)) hm
 have hmore:=Wx (w:=w) (G:=G) (G':=G++φ j) (λx hx=>Au _ hx)
 have hlist:RepC (Mq w (G++φ j)) w (.list k ds) [η j]:=by
  have hlen:=De hrj
  have hr2:=Aq.flat (O':=Mq w (G++φ j)) (w':=w) ds cs hfl hrj
  simp only[RepC]
  rcases hs.shape with⟨he,hn⟩|⟨g,cap,he,hc⟩
  ·subst hn
   have:ds=[]:=AJ hlen.symm
   subst this
   exact⟨none,0,[],by rw[he];rfl,by simp,by unfold maxLen;omega,by simp[Aq],by simp,.inl rfl⟩
  ·have hgi:g∈φ j:=by rw[ej,he];simp[Value.ownBlock]
   refine⟨_,cap,cs,by rw[he,hlen],by omega,?_,hr2,hkk,.inr ⟨g,0,rfl,λhm=>(Kw.1 hm).2 (Av _ hgi),hs.lt (by rw[he];rfl),Kl hs he⟩⟩
   rcases hs.2 with⟨h1,_⟩|⟨_,_,_,h1,_,_,_,h2,_⟩
   ·rw[he]at h1;cases h1
   ·rw[he]at h1;cases h1;exact h2
 have hR:(G5 M m ((η j,.list k ds)::X)).R w (η i) (φ i++φ j):=by
  refine⟨b,G++φ j,hb.val,λx=>?_,λhm=>?_,λx hx=>?_,hb.map,λx hx=>?_,λr hr=>⟨RepC.later hmore _ _ (hb.rows r hr).1,RepC.later hmore _ _ (hb.rows r hr).2⟩⟩
  ·rw[Ag,Ag,hb.mem]
   constructor
   ·rintro((h|h)|h)
    ·exact .inl h
    ·exact .inr (.inl h)
    ·exact .inr (.inr h)
   ·rintro(h|h|h)
    ·exact .inl (.inl h)
    ·exact .inl (.inr h)
    ·exact .inr h
  ·rcases Ag.1 hm with h|h
   ·exact hb.nb h
   ·exact hbj h
  ·rcases Ag.1 hx with h|h
   ·exact hb.lt x h
   ·exact hM.mem.lt x (Av _ (B5 hj' h))
  ·rcases Ai.1 hx with rfl|hx
   ·exact hlist
   ·exact RepC.later hmore _ _ (hb.ad x hx)
 have hraw:∀O,RepC O w (.raw (η j)) [η j]:=λO=>by simp only[RepC]
 obtain⟨hm2,hl2⟩:=hM.mem.give hi hj' hij (F:=φ i++φ j) (λx=>Ag) hR (x:=.raw (η j)) rfl hraw
 have hI:∀x∈BA σ,x≠j->x∈BA (Dc (BM j (.raw (η j))) j (AX id i (G5 M m ((η j,.list k ds)::X)).own σ))/\η x=η x:=λx hx hne=>⟨by rw[DI,AZ];exact Az.2 ⟨hx,by simpa using hne⟩,rfl⟩
 have hk2:=AE.kill (i:=j) (x:=.raw (η j)) rfl hl2 hI (hraw _) args css hr
 exact h (η j) (hM.mem.oneV j hj') B S w0 η _ n a w _ ⟨hm2,hM.fr.kill rfl hl2 hI (hraw _),hM.defers,hM.size⟩ ⟨css,hk2,by rw[FI rfl]⟩
end
end Go.Proofs.YtjpmmkodoeipmaaGreatDoor
end
section
namespace Go.Reg
open Go Go.RowKit
section
variable {K V:Type} {P:Program} {encK:K->Value} {encV:V->Value}
def QP(es:List MapEntry)(l:List (K×V))(seen:Array Nat):List (K×V):=((es.zip l).filter (λx=>!seen.contains x.1.born)).map (·.2)
theorem Wu {α:Type}(g:α->Nat)(f:Nat->Bool)(x:α):∀Z:List α,(Z.map g).Nodup->x∈Z->f (g x)=true->(Z.filter (λy=>f (g y))).Perm (x::Z.filter (λy=>f (g y)&&g y !=g x))
 |[],_,hx,_=>by simp at hx
 |
  z::zs,hn,hx,hf=>by
  simp only[Ar,Cs]at hn
  by_cases hz:x=z
  ·subst hz
   have e:zs.filter (λy=>f (g y)&&g y !=g x)=zs.filter (λy=>f (g y)):=List.filter_congr λy hy=>by
    have:g y≠g x:=λe=>hn.1 (by rw[<-e];exact An.2 ⟨y,hy,rfl⟩)
    simp[this]
   simp[hf,e]
  ·have hx':x∈zs:=by simp[hz]at hx;exact hx
   have ih:=Wu g f x zs hn.2 hx' hf
   have hne:g z≠g x:=λe=>hn.1 (by rw[e];exact An.2 ⟨x,hx',rfl⟩)
   by_cases h:f (g z)=true
   ·simp only[KO,h,if_true,Bool.true_and,bne_iff_ne,ne_eq,hne,not_false_eq_true]
    exact(ih.cons z).trans (List.Perm.swap x z _)
   ·simp only[KO,h,Bool.false_and,CL,if_false]
    simpa using ih
def Ew(encK:K->Value)(encV:V->Value)(w:World)(r b:Nat)(l todo:List (K×V)):Prop:=
 ∃(es:Array MapEntry) (clock since:Nat) (seen:Array Nat) (c0:Nat),w.heap[r]? =some (.mapIter (some b) since seen c0)/\w.heap[b]? =some (.map es clock)/\Holds encK encV es clock l/\since<=c0/\since<=clock/\(∀x∈es.toList,x.born<since)/\todo=QP es.toList l seen
def LL(encK:K->Value)(encV:V->Value)(w:World)(r b:Nat)(l todo:List (K×V))(p:K×V):Prop:=
 ∃(es:Array MapEntry) (clock since:Nat) (seen:Array Nat),∃e∈es.toList,w.heap[r]? =some (.mapIter (some b) since (seen.push e.born) clock)/\w.heap[b]? =some (.map es clock)/\Holds encK encV es clock l/\since<=clock/\(∀x∈es.toList,x.born<since)/\
  todo=QP es.toList l (seen.push e.born)/\e.key=encK p.1/\e.val=encV p.2
variable {w w':World} {r b:Nat} {l todo:List (K×V)} {p:K×V} {S:List Nat}
theorem Ew.keep(h:Ew encK encV w r b l todo)(t:Tch S w w')(hr:r∉S)(hb:b∉S):Ew encK encV w' r b l todo:=by
 obtain⟨es,clock,since,seen,c0,h1,h2,h3⟩:=h
 exact⟨es,clock,since,seen,c0,by rw[t.blk r (Ak.1 h1).1 hr];exact h1,by rw[t.blk b (Ak.1 h2).1 hb];exact h2,h3⟩
theorem LL.keep(h:LL encK encV w r b l todo p)(t:Tch S w w')(hr:r∉S)(hb:b∉S):LL encK encV w' r b l todo p:=by
 obtain⟨es,clock,since,seen,e,he,h1,h2,h3⟩:=h
 exact⟨es,clock,since,seen,e,he,by rw[t.blk r (Ak.1 h1).1 hr];exact h1,by rw[t.blk b (Ak.1 h2).1 hb];exact h2,h3⟩
theorem LL.iter(h:LL encK encV w r b l todo p):Ew encK encV w r b l todo:=by
 obtain⟨es,clock,since,seen,e,he,h1,h2,h3,h4,h5,h6,_⟩:=h
 exact⟨es,clock,since,_,clock,h1,h2,h3,h4,h4,h5,h6⟩
theorem Ew.mapAt(h:Ew encK encV w r b l todo):CK encK encV w b l:=by
 obtain⟨es,clock,since,seen,c0,h1,h2,h3,_⟩:=h
 exact CK.holds.2 ⟨es,clock,h2,h3⟩
theorem Ew.lt(h:Ew encK encV w r b l todo):r<w.heap.size:=by
 obtain⟨es,clock,since,seen,c0,h1,_⟩:=h
 exact(Ak.1 h1).1
theorem Ew.ne(h:Ew encK encV w r b l todo):r≠b:=by
 obtain⟨es,clock,since,seen,c0,h1,h2,_⟩:=h
 intro e;subst e;rw[h1]at h2;cases h2
theorem Vy {es:List MapEntry}(h:es.Pairwise (λx y=>x.born<y.born)):(es.map (·.born)).Nodup:=by
 rw[List.nodup_iff_pairwise_ne,B7]
 exact h.imp (λh=>Nat.ne_of_lt h)
theorem CK.range(h:CK encK encV w b l) {t kt e:TypeId}(ht:P.underlying t=some (.map kt e)):
  ∃w',(Instr.range t (.map (some b))).run P w=.ok (.pointer (some ⟨w.heap.size,0,none⟩)) w'/\Ew encK encV w' w.heap.size b l l/\Tch [] w w':=by
 obtain⟨es,clock,h2,h3⟩:=CK.holds.1 h
 have hlt:=h.lt
 refine⟨_,run_range_map w t kt e b es clock ht h2,⟨es,clock,clock,#[],clock,(YG w _).1,((YG w _).2 b hlt).trans h2,h3,Ax _,Ax _,h3.clock,?_⟩,Tch.alloc _ _ _⟩
 have:es.toList.length=l.length:=by simpa using congrArg List.length h3.keys
 have e2:=List.map_snd_zip (l₁:=es.toList) (l₂:=l) (Nat.le_of_eq this.symm)
 have e3:(es.toList.zip l).filter (λ_=>true)=es.toList.zip l:=HC.2 (λ_ _=>rfl)
 simp only[QP,Array.contains_empty,Bool.not_false,e3]
 exact e2.symm
theorem Ew.next(h:Ew encK encV w r b l todo)(ty:TypeId):
  (todo=[]/\(Instr.next (.pointer (some ⟨r,0,none⟩)) false ty).run P w=.ok (.tuple #[.bool false]) w)\/
  ∃p todo' w',todo.Perm (p::todo')/\(Instr.next (.pointer (some ⟨r,0,none⟩)) false ty).run P w=.ok (.tuple #[.bool true,encK p.1,encV p.2]) w'/\LL encK encV w' r b l todo' p/\Tch [r] w w':=by
 have hne:=h.ne
 have hrl:=h.lt
 obtain⟨es,clock,since,seen,c0,h1,h2,h3,h4,h4',h5,rfl⟩:=h
 have hlen:es.toList.length=l.length:=by simpa using congrArg List.length h3.keys
 have hfst:(es.toList.zip l).map (·.1)=es.toList:=List.map_fst_zip (Nat.le_of_eq hlen)
 have hbn:((es.toList.zip l).map (λx=>x.1.born)).Nodup:=by
  rw[show(es.toList.zip l).map (λx=>x.1.born)=((es.toList.zip l).map (·.1)).map (·.born)by simp,hfst]
  exact Vy h3.born
 rcases run_next_at (P:=P) w ty r b since c0 seen es clock h1 h2 h5 h4 with⟨h0,hr⟩|⟨e,he,w1,hw1,hr⟩
 ·left
  refine⟨?_,hr⟩
  have h0':es.toList.filter (λe=>!seen.contains e.born)=[]:=by
   rw[<-Array.toList_filter];exact AJ h0
  unfold QP
  rw[List.map_eq_nil_iff,Pn]
  intro x hx
  have hm:x.1∈es.toList:=by rw[<-hfst];exact An.2 ⟨x,hx,rfl⟩
  exact Pn.1 h0' x.1 hm
 ·right
  have he':e∈es.toList/\(!seen.contains e.born)=true:=by
   unfold leftOf at he
   rw[Array.toList_filter,Az]at he
   exact he
  obtain⟨i,hi⟩:=SM he'.1
  have hil:i<l.length:=by rw[<-hlen];exact(Ae.1 hi).1
  have hl:l[i]? =some l[i]:=Ab hil
  have hk:e.key=encK (l[i]).1:=by
   have:=congrArg (·[i]?) h3.keys
   simpa[hi,hl]using this
  have hv:e.val=encV (l[i]).2:=by
   have:=congrArg (·[i]?) h3.vals
   simpa[hi,hl]using this
  have hz:(e,l[i])∈es.toList.zip l:=A8 (i:=i) (by rw[List.getElem?_zip_eq_some];exact⟨hi,hl⟩)
  have hp:=Wu (λx:MapEntry×(K×V)=>x.1.born) (λn=>!seen.contains n) (e,l[i]) (es.toList.zip l) hbn hz he'.2
  have hw1b:∀k:Nat,w1.heap[k]? =w.heap[k]? :=by rcases hw1 with rfl|rfl<;>exactλ_=>rfl
  have hsz:w1.heap.size=w.heap.size:=by rcases hw1 with rfl|rfl<;>rfl
  refine⟨l[i],QP es.toList l (seen.push e.born),_,?_,by rw[<-hk,<-hv];exact hr,⟨es,clock,since,seen,e,he'.1,?_,?_,h3,h4',h5,rfl,hk,hv⟩,?_⟩
  ·have:=hp.map (·.2)
   unfold QP
   refine this.trans (List.Perm.of_eq ?_)
   simp only[Ar]
   congr 2
   refine List.filter_congr λx _=>?_
   rw[Array.contains_push,Bool.not_or]
   congr 1
  ·simp[ChangeMaps.setBlock,hsz,hrl]
  ·simp[ChangeMaps.setBlock,Array.getElem?_setIfInBounds_ne hne,hw1b,h2]
  ·have ht:Tch [r] w w1:=by rcases hw1 with rfl|rfl<;>first|exact Tch.refl _ _|exact Tch.drew _ _
   exact ht.trans0 (Nb w1 r _)
theorem LL.entry(h:LL encK encV w r b l todo p):(Instr.entry (.pointer (some ⟨r,0,none⟩))).run P w=.ok (.tuple #[encK p.1,encV p.2]) w:=by
 obtain⟨es,clock,since,seen,e,he,h1,h2,h3,h4,h5,h6,hk,hv⟩:=h
 rw[run_entry_at w r b since seen es clock e h1 h2 he (Vy h3.born),hk,hv]
end
end Go.Reg
end
section
namespace Go.Sx
open Go Go.RowKit Go.Reg
mutual
def ren(ρ:Nat->Nat):Dat->Dat
 |.d x=>.d x
 |.own i=>.own (ρ i)
 |.at_ i o=>.at_ (ρ i) o
 |.el i k n o=>.el (ρ i) k n o
 |.agg ds=>.agg (LJ ρ ds)
 |.tuple ds=>.tuple (LJ ρ ds)
 |.iface t d=>.iface t (ren ρ d)
 |.func fn f c=>.func fn (LJ ρ f) (LJ ρ c)
def LJ(ρ:Nat->Nat):List Dat->List Dat
 |[]=>[]
 |d::ds=>ren ρ d::LJ ρ ds
end
def AD4(ρ:Nat->Nat):Own->Own
 |.cells T ds=>.cells T (LJ ρ ds)
 |.slice E k ds=>.slice E k ds
 |.abs R h l o=>.abs R h l o
 |.ghost vs ds=>.ghost vs (LJ ρ ds)
 |.absd R h l o ds=>.absd R h l o (LJ ρ ds)
def Ho(ρ:Nat->Nat):Sg->Sg
 |[]=>[]
 |(i,o)::σ=>(ρ i,AD4 ρ o)::Ho ρ σ
def lk:List (Nat×Nat)->Nat->Nat
 |[],i=>i
 |
  (a,b)::l,i=>match Nat.beq a i with
  |true=>b
  |false=>lk l i
def IX:List (Nat×Nat)->List (Nat×Nat)
 |[]=>[]
 |(a,b)::l=>(b,a)::IX l
def Fu(J:List Nat):Sg->Sg
 |[]=>[]
 |
  (i,o)::σ=>match FR i J with
  |true=>Fu J σ
  |false=>(i,o)::Fu J σ
def Se(J:List Nat):Fr->Fr
 |[]=>[]
 |
  (t,d)::fr=>match ED J d with
  |true=>(t,d)::Se J fr
  |false=>(t,.d .undef)::Se J fr
def LI(a b:List (Nat×Nat)):List Nat->Bool
 |[]=>true
 |i::l=>Nat.beq (lk b (lk a i)) i&&LI a b l
def Rl(a:List (Nat×Nat))(J:List Nat):List Nat->Bool
 |[]=>true
 |i::l=>!(FR (lk a i) J)&&Rl a J l
def yZ(a:List (Nat×Nat)):List Nat->List Nat
 |[]=>[]
 |i::l=>lk a i::yZ a l
theorem LQ(ρ:Nat->Nat)(d:Dat)(cs:List Value):Ch (ren ρ d) cs=Ch d cs:=by cases d<;>rfl
theorem KR(ρ:Nat->Nat):∀(ds:List Dat) (css:List (List Value)),List.zipWith Ch (LJ ρ ds) css=List.zipWith Ch ds css
 |[],_=>by simp[LJ]
 |d::ds,[]=>by simp
 |d::ds,c::css=>by simp only[LJ,Bh,LQ,KR ρ ds css]
section
variable {η η':Nat->Value} {I I' J O O':List Nat} {w w':World} {ρ:Nat->Nat}
mutual
theorem AH.move(hl:Later O w O' w')(h:∀i∈J,i∈I->ρ i∈I'/\η' (ρ i)=η i):∀(d:Dat) (cs:List Value),ED J d=true->AH η I O w d cs->AH η' I' O' w' (ren ρ d) cs
 |.d x,cs,_,r=>RepC.later hl x cs r
 |.own i,cs,hw,r=>by simp only[AH,ren]at r⊢;obtain⟨a,b⟩:=h i (Gv hw) r.1;exact⟨a,by rw[b];exact r.2⟩
 |.at_ i off,cs,hw,r=>by simp only[AH,ren]at r⊢;obtain⟨a,b⟩:=h i (Gv hw) r.1;exact⟨a,by rw[b];exact r.2⟩
 |.el i k n off,cs,hw,r=>by simp only[AH,ren]at r⊢;obtain⟨a,b⟩:=h i (Gv hw) r.1;exact⟨a,by rw[b];exact r.2⟩
 |.agg ds,cs,hw,r=>by simp only[AH,ren]at r⊢;exact B6.move hl h ds cs (by simpa only[ED]using hw) r
 |.tuple ds,cs,hw,r=>by simp only[AH,ren]at r⊢;obtain⟨css,h1,h2⟩:=r;exact⟨css,AE.move hl h ds css (by simpa only[ED]using hw) h1,by rw[KR];exact h2⟩
 |.iface t d,cs,hw,r=>by simp only[AH,ren]at r⊢;obtain⟨c,h1,h2⟩:=r;exact⟨c,AH.move hl h d c (by simpa only[ED]using hw) h1,by rw[LQ];exact h2⟩
 |
  .func fn f c,cs,hw,r=>by
  simp only[AH,ren]at r⊢
  simp only[ED,Ap]at hw
  obtain⟨fs,cs',h1,h2,h3⟩:=r
  exact⟨fs,cs',AE.move hl h f fs hw.1 h1,AE.move hl h c cs' hw.2 h2,by rw[KR,KR];exact h3⟩
theorem B6.move(hl:Later O w O' w')(h:∀i∈J,i∈I->ρ i∈I'/\η' (ρ i)=η i):∀(ds:List Dat) (cs:List Value),Eu J ds=true->B6 η I O w ds cs->B6 η' I' O' w' (LJ ρ ds) cs
 |[],cs,_,r=>r
 |
  d::ds,cs,hw,r=>by
  simp only[B6,LJ]at r⊢
  simp only[Eu,Ap]at hw
  obtain⟨c1,c2,h1,h2,h3⟩:=r
  exact⟨c1,c2,h1,AH.move hl h d c1 hw.1 h2,B6.move hl h ds c2 hw.2 h3⟩
theorem AE.move(hl:Later O w O' w')(h:∀i∈J,i∈I->ρ i∈I'/\η' (ρ i)=η i):∀(ds:List Dat) (cs:List (List Value)),Eu J ds=true->AE η I O w ds cs->AE η' I' O' w' (LJ ρ ds) cs
 |[],cs,_,r=>r
 |
  d::ds,cs,hw,r=>by
  simp only[AE,LJ]at r⊢
  simp only[Eu,Ap]at hw
  obtain⟨c1,c2,h1,h2,h3⟩:=r
  exact⟨c1,c2,h1,AH.move hl h d c1 hw.1 h2,AE.move hl h ds c2 hw.2 h3⟩
end
theorem Own.holds.move {o:Own} {v:Value} {F S:List Nat}(hl:Later O w O' w')(h:∀i∈J,i∈I->ρ i∈I'/\η' (ρ i)=η i)(hw:SP J o=true)(ht:Tch S w w')(hF:∀x∈F,x∉S)(r:o.holds η I O w v F):(AD4 ρ o).holds η' I' O' w' v F:=by
 cases o with
 |
  cells T ds=>
  obtain⟨b,cs,h1,h2,h3,h4⟩:=r
  exact⟨b,cs,h1,h2,h3.keep ht (hF b (by rw[h2];simp)),B6.move hl h _ _ hw h4⟩
 |
  slice E k ds=>
  obtain⟨css,h1,h2,h3,h4⟩:=r
  exact⟨css,h1.keep ht (λb hb=>hF b (by rw[h2];simpa using hb)),h2,Aq.later hl _ _ h3,h4⟩
 |abs R k lt one=>exact k S w w' v F r ht hF
 |ghost vs ds=>obtain⟨h1,h2,css,h3,h4⟩:=r;exact⟨h1,h2,css,AE.move hl h _ _ hw h3,by rw[KR];exact h4⟩
 |absd R k lt one ds=>obtain⟨css,h3,h4⟩:=r;exact⟨css,AE.move hl h _ _ hw h3,by rw[KR];exact k S w w' v F _ h4 ht hF⟩
end
theorem GH {ρ:Nat->Nat}:∀{σ:Sg} {p:Nat×Own},p∈Ho ρ σ↔∃q∈σ,p=(ρ q.1,AD4 ρ q.2)
 |[],p=>by simp[Ho]
 |
  (i,o)::σ,p=>by
  simp only[Ho,Ai,GH (σ:=σ)]
  constructor
  ·rintro(rfl|⟨q,hq,rfl⟩)
   ·exact⟨(i,o),.inl rfl,rfl⟩
   ·exact⟨q,.inr hq,rfl⟩
  ·rintro⟨q,rfl|hq,rfl⟩
   ·exact .inl rfl
   ·exact .inr ⟨q,hq,rfl⟩
theorem DJ {ρ:Nat->Nat}:∀(σ:Sg),BA (Ho ρ σ)=(BA σ).map ρ
 |[]=>rfl
 |(i,o)::σ=>by have:=DJ (ρ:=ρ) σ;simp only[BA,Ho,Ar]at this⊢;rw[this]
theorem IU {a b:List (Nat×Nat)}:∀{l:List Nat},LI a b l=true->∀i∈l,lk b (lk a i)=i
 |[],_,i,hi=>by cases hi
 |
  j::l,h,i,hi=>by
  simp only[LI,Ap]at h
  rcases Ai.1 hi with rfl|hi
  ·exact A0 h.1
  ·exact IU h.2 i hi
theorem Uz {a:List (Nat×Nat)} {J:List Nat}:∀{l:List Nat},Rl a J l=true->∀i∈l,lk a i∉J
 |[],_,i,hi=>by cases hi
 |
  j::l,h,i,hi=>by
  simp only[Rl,Ap,Cm]at h
  rcases Ai.1 hi with rfl|hi
  ·exact Ku h.1
  ·exact Uz h.2 i hi
theorem nL {a:List (Nat×Nat)}:∀{l:List Nat} {i:Nat},i∈yZ a l->∃k∈l,i=lk a k
 |[],i,h=>by cases h
 |
  j::l,i,h=>by
  simp only[yZ,Ai]at h
  rcases h with rfl|h
  ·exact⟨j,by simp,rfl⟩
  ·obtain⟨k,hk,e⟩:=nL h;exact⟨k,by simp[hk],e⟩
theorem KG {J:List Nat}:∀{σ:Sg} {p:Nat×Own},p∈Fu J σ->p∈σ/\p.1∉J
 |[],p,h=>by simp[Fu]at h
 |
  (i,o)::σ,p,h=>by
  simp only[Fu]at h
  cases hn:FR i J<;>rw[hn]at h
  ·simp only[Ai]at h
   rcases h with rfl|h
   ·exact⟨by simp,Ku hn⟩
   ·obtain⟨h1,h2⟩:=KG h;exact⟨by simp[h1],h2⟩
  ·obtain⟨h1,h2⟩:=KG h;exact⟨by simp[h1],h2⟩
theorem Qi {J:List Nat}:∀{σ:Sg} {p:Nat×Own},p∈G9 J σ->p∈σ/\p.1∈J
 |[],p,h=>by simp[G9]at h
 |
  (i,o)::σ,p,h=>by
  simp only[G9]at h
  cases hn:FR i J<;>rw[hn]at h
  ·obtain⟨h1,h2⟩:=Qi h;exact⟨by simp[h1],h2⟩
  ·simp only[Ai]at h
   rcases h with rfl|h
   ·exact⟨by simp,Gv hn⟩
   ·obtain⟨h1,h2⟩:=Qi h;exact⟨by simp[h1],h2⟩
theorem IG {J:List Nat}:∀{σ:Sg} {p:Nat×Own},p∈σ->p∈G9 J σ\/p∈Fu J σ
 |
  (i,o)::σ,p,h=>by
  simp only[G9,Fu]
  cases hn:FR i J
  ·rcases Ai.1 h with rfl|h
   ·exact .inr (by simp)
   ·rcases IG (J:=J) h with h|h
    ·exact .inl h
    ·exact .inr (by simp[h])
  ·rcases Ai.1 h with rfl|h
   ·exact .inl (by simp)
   ·rcases IG (J:=J) h with h|h
    ·exact .inl (by simp[h])
    ·exact .inr h
theorem M7 {J:List Nat}:∀{σ:Sg},(BA σ).Nodup->(BA (G9 J σ)).Nodup
 |[],_=>by simp[G9,BA]
 |
  (i,o)::σ,h=>by
  have h':i∉BA σ/\(BA σ).Nodup:=Cs.1 h
  simp only[G9]
  cases FR i J
  ·exact M7 h'.2
  ·exact Cs.2 ⟨λhm=>by
    obtain⟨p,hp,e⟩:=An.1 hm
    have e':p.1=i:=e
    exact h'.1 (e'▸AV (Qi hp).1),M7 h'.2⟩
theorem MN {J:List Nat}:∀{σ:Sg},(BA σ).Nodup->(BA (Fu J σ)).Nodup
 |[],_=>by simp[Fu,BA]
 |
  (i,o)::σ,h=>by
  have h':i∉BA σ/\(BA σ).Nodup:=Cs.1 h
  simp only[Fu]
  cases FR i J
  ·exact Cs.2 ⟨λhm=>by
    obtain⟨p,hp,e⟩:=An.1 hm
    have e':p.1=i:=e
    exact h'.1 (e'▸AV (KG hp).1),MN h'.2⟩
  ·exact MN h'.2
theorem QW {J:List Nat}:∀{fr:Fr} (t:Nat),get (Se J fr) t=.d .undef\/get (Se J fr) t=get fr t/\ED J (get fr t)=true
 |[],t=>.inl rfl
 |
  (s,d)::fr,t=>by
  simp only[Se]
  cases hw:ED J d<;>simp only[get]
  ·cases Nat.beq s t
   ·exact QW t
   ·exact .inl rfl
  ·cases Nat.beq s t
   ·exact QW t
   ·exact .inr ⟨rfl,hw⟩
theorem Ni {f:Nat->Nat}:∀{l:List Nat},(∀x∈l,∀y∈l,f x=f y->x=y)->l.Nodup->(l.map f).Nodup
 |[],_,_=>by simp
 |
  a::l,h,hn=>by
  have hn':a∉l/\l.Nodup:=Cs.1 hn
  simp only[Ar]
  refine Cs.2 ⟨λhm=>?_,Ni (λx hx y hy=>h x (by simp[hx]) y (by simp[hy])) hn'.2⟩
  obtain⟨b,hb,e⟩:=An.1 hm
  exact hn'.1 (h b (by simp[hb]) a (by simp) e▸hb)
def DZ(C:Cx)(f:FuncId)(args:List Dat)(σ0:Sg)(ks:List Nat)(Q:Dat->Sg->Prop):Prop:=
 ∀(B S:List Nat) (w:World) (η:Nat->Value) (φ:Nat->List Nat) (css:List (List Value)),Mem C B S w σ0 η φ w->AE η (BA σ0) (B++Ao φ σ0) w args css->
  (callFunc f (List.zipWith Ch args css).toArray).run C.P w=.ok (.enter f (List.zipWith Ch args css).toArray) w/\
  Calls C.P f (List.zipWith Ch args css).toArray w λe w'=>∃v d σ1 η1 φ1,e=.returned v/\Q d σ1/\Mem C B S w σ1 η1 φ1 w'/\(∃cs,AH η1 (BA σ1) (B++Ao φ1 σ1) w' d cs/\v=Ch d cs)/\∀k∈ks,k∈BA σ1/\η1 k=η k
section
variable {C:Cx} {T:Hh} {fr:Fr} {σ σ0:Sg}
theorem eB(m:List (Nat×Nat))(J:List Nat) {f:FuncId} {args Aa:List Dat} {ks:List Nat} {Q:Dat->Sg->Prop} {K:KD}(hp:DZ C f Aa σ0 ks Q)
  (h0:Ho (lk m) (G9 J σ)=σ0) (ha:LJ (lk m) args=Aa) (hb:LI m (IX m) J=true) (hwa:Eu J args=true) (hw0:FQ J (G9 J σ)=true) (hwr:FQ (BA (Fu J σ)++yZ (IX m) ks) (Fu J σ)=true)
  (hK:∀d σ1,Q d σ1->(LI (IX m) m (BA σ1)&&Rl (IX m) (BA (Fu J σ)) (BA σ1)&&FQ (BA σ1) σ1&&ED (BA σ1) d)=true/\K (ren (lk (IX m)) d) (Se (BA (Fu J σ)++yZ (IX m) ks) fr) (Ho (lk (IX m)) σ1++Fu J σ)):Cj C false f args K fr σ:=by
 unfold Cj
 rintro B S w0 η φ n a w vs hM ⟨css,hr,rfl⟩
 subst h0;subst ha
 let ρ:=lk m
 let π:=lk (IX m)
 let σk:=G9 J σ
 let σr:=Fu J σ
 have hk:∀p∈σk,p∈σ/\p.1∈J:=λp hp=>Qi hp
 have hd:∀p∈σr,p∈σ/\p.1∉J:=λp hp=>KG hp
 have hπ:∀i∈J,π (ρ i)=i:=IU hb
 have hJk:∀i∈J,i∈BA σ->i∈BA σk:=λi hi hm=>by
  obtain⟨p,hp,rfl⟩:=An.1 hm
  rcases IG (J:=J) hp with h|h
  ·exact AV h
  ·exact absurd hi (KG h).2
 let B1:=B++Ao φ σr
 let S1:=Ao φ σk
 let η1:Nat->Value:=λi=>η (π i)
 let φ1:Nat->List Nat:=λi=>φ (π i)
 have hbk:∀b,b∈Ao φ1 (Ho ρ σk)↔b∈Ao φ σk:=λb=>by
  simp only[Ao,AL]
  constructor
  ·rintro⟨p,hp,hb⟩
   obtain⟨q,hq,rfl⟩:=GH.1 hp
   exact⟨q,hq,by simpa only[φ1,hπ _ (hk q hq).2]using hb⟩
  ·rintro⟨q,hq,hb⟩
   exact⟨_,GH.2 ⟨q,hq,rfl⟩,by simpa only[φ1,hπ _ (hk q hq).2]using hb⟩
 have hall:∀b,b∈Ao φ σ↔b∈Ao φ σk\/b∈Ao φ σr:=λb=>by
  constructor
  ·intro h
   obtain⟨p,hp,hb⟩:=AL.1 h
   rcases IG (J:=J) hp with h|h
   ·exact .inl (AL.2 ⟨p,h,hb⟩)
   ·exact .inr (AL.2 ⟨p,h,hb⟩)
  ·rintro(h|h)
   ·obtain⟨p,hp,hb⟩:=AL.1 h
    exact AL.2 ⟨p,(hk p hp).1,hb⟩
   ·obtain⟨p,hp,hb⟩:=AL.1 h
    exact AL.2 ⟨p,(hd p hp).1,hb⟩
 have hO:∀b,b∈B1++Ao φ1 (Ho ρ σk)↔b∈B++Ao φ σ:=λb=>by
  simp only[B1,Ag,hbk,hall]
  constructor
  ·rintro((h|h)|h)
   ·exact .inl h
   ·exact .inr (.inr h)
   ·exact .inr (.inl h)
  ·rintro(h|h|h)
   ·exact .inl (.inl h)
   ·exact .inr h
   ·exact .inl (.inr h)
 have hl1:Later (B++Ao φ σ) w (B1++Ao φ1 (Ho ρ σk)) w:=⟨Ax _,λ_ _ _=>rfl,λb hn _ hm=>hn ((hO b).1 hm)⟩
 have hdis:∀b∈Ao φ σk,b∉Ao φ σr:=λb h1 h2=>by
  obtain⟨p,hp,hbp⟩:=AL.1 h1
  obtain⟨q,hq,hbq⟩:=AL.1 h2
  exact hM.mem.disj p.1 (AV (hk p hp).1) q.1 (AV (hd q hq).1) (λe=>(hd q hq).2 (e▸(hk p hp).2)) b hbp hbq
 have hnew:∀b∈Ao φ σ,(b∈S/\b∉B)\/w0.heap.size<=b:=λb h=>by
  obtain⟨p,hp,hb⟩:=AL.1 h
  exact hM.mem.new p.1 (AV hp) b hb
 have hmv:∀i∈J,i∈BA σ->ρ i∈BA (Ho ρ σk)/\η1 (ρ i)=η i:=λi hi hm=>⟨by rw[DJ];exact Co (hJk i hi hm),by simp only[η1,hπ i hi]⟩
 have hm1:Mem C B1 S1 w (Ho ρ σk) η1 φ1 w:=by
  refine⟨Tch.refl _ _,?_,?_,?_,?_,?_,λg hg=>(hM.mem.glob g hg).later hl1⟩
  ·intro p hp
   obtain⟨q,hq,rfl⟩:=GH.1 hp
   have:=(hM.mem.own q (hk q hq).1).move (ρ:=ρ) hl1 hmv (GW hw0 q hq) (Tch.refl [] w) (λ_ _=>by simp)
   simpa only[η1,φ1,hπ _ (hk q hq).2]using this
  ·rw[DJ]
   have hn:=M7 (J:=J) hM.mem.nodup
   refine Ni ?_ hn
   intro x hx y hy e
   obtain⟨p,hp,rfl⟩:=An.1 hx
   obtain⟨q,hq,rfl⟩:=An.1 hy
   rw[<-hπ _ (hk p hp).2,<-hπ _ (hk q hq).2,show ρ p.1=ρ q.1 from e]
  ·intro i hi j hj hij b hbi
   rw[DJ]at hi hj
   obtain⟨i',hi',rfl⟩:=An.1 hi
   obtain⟨j',hj',rfl⟩:=An.1 hj
   obtain⟨p,hp,rfl⟩:=An.1 hi'
   obtain⟨q,hq,rfl⟩:=An.1 hj'
   simp only[φ1,hπ _ (hk p hp).2,hπ _ (hk q hq).2]at hbi⊢
   exact hM.mem.disj p.1 (AV (hk p hp).1) q.1 (AV (hk q hq).1) (λe=>hij (by rw[e])) b hbi
  ·intro i hi b hbi
   rw[DJ]at hi
   obtain⟨i',hi',rfl⟩:=An.1 hi
   obtain⟨p,hp,rfl⟩:=An.1 hi'
   simp only[φ1,hπ _ (hk p hp).2]at hbi
   have hbm:b∈Ao φ σk:=AL.2 ⟨p,hp,hbi⟩
   refine .inl ⟨hbm,λhm=>?_⟩
   rcases Ag.1 hm with hm|hm
   ·rcases hnew b ((hall b).2 (.inl hbm))with h|h
    ·exact h.2 hm
    ·have:=hM.mem.out b hm;omega
   ·exact hdis b hbm hm
  ·intro b hb
   rcases Ag.1 hb with hb|hb
   ·exact hM.mem.lt b (Au _ hb)
   ·exact hM.mem.lt b (Av _ ((hall b).2 (.inr hb)))
 have hr1:=AE.move (ρ:=ρ) hl1 hmv args css hwa hr
 obtain⟨g1,g2⟩:=hp B1 S1 w η1 φ1 css hm1 hr1
 rw[KR]at g1 g2
 refine⟨g1,g2.mono ?_⟩
 rintro e w' ⟨v,d,σ1,η2,φ2,rfl,hQ,hm2,⟨cs,hv1,hv2⟩,hks⟩
 obtain⟨hchk,hKK⟩:=hK d σ1 hQ
 simp only[Ap]at hchk
 have hρ:∀i∈BA σ1,ρ (π i)=i:=IU hchk.1.1.1
 have hfr:∀i∈BA σ1,π i∉BA σr:=Uz hchk.1.1.2
 let σ2:=Ho π σ1
 let η3:Nat->Value:=λi=>if i∈BA σ2 then η2 (ρ i)else η i
 let φ3:Nat->List Nat:=λi=>if i∈BA σ2 then φ2 (ρ i)else φ i
 have hin:∀i∈BA σ1,π i∈BA σ2:=λi hi=>by simp only[σ2,DJ];exact Co hi
 have hη3:∀i∈BA σ1,η3 (π i)=η2 i:=λi hi=>by simp only[η3,if_pos (hin i hi),hρ i hi]
 have hφ3:∀i∈BA σ1,φ3 (π i)=φ2 i:=λi hi=>by simp only[φ3,if_pos (hin i hi),hρ i hi]
 have hnr:∀i∈BA σr,i∉BA σ2:=λi hi hm=>by
  simp only[σ2,DJ]at hm
  obtain⟨k,hk,rfl⟩:=An.1 hm
  exact hfr k hk hi
 have hηr:∀i∈BA σr,η3 i=η i:=λi hi=>by simp only[η3,if_neg (hnr i hi)]
 have hφr:∀i∈BA σr,φ3 i=φ i:=λi hi=>by simp only[φ3,if_neg (hnr i hi)]
 have hb2:∀b,b∈Ao φ3 σ2↔b∈Ao φ2 σ1:=λb=>by
  simp only[Ao,AL]
  constructor
  ·rintro⟨p,hp,hb⟩
   obtain⟨q,hq,rfl⟩:=GH.1 hp
   exact⟨q,hq,by simpa only[hφ3 _ (AV hq)]using hb⟩
  ·rintro⟨q,hq,hb⟩
   exact⟨_,GH.2 ⟨q,hq,rfl⟩,by simpa only[hφ3 _ (AV hq)]using hb⟩
 have hbr:Ao φ3 σr=Ao φ σr:=L6 hφr
 have hids:BA (σ2++σr)=BA σ2++BA σr:=by simp[BA]
 have hbs:Ao φ3 (σ2++σr)=Ao φ3 σ2++Ao φ σr:=by rw[<-hbr];simp[Ao]
 have hO2:∀b,b∈B1++Ao φ2 σ1↔b∈B++Ao φ3 (σ2++σr):=λb=>by
  rw[hbs]
  simp only[B1,Ag,hb2]
  constructor
  ·rintro((h|h)|h)
   ·exact .inl h
   ·exact .inr (.inr h)
   ·exact .inr (.inl h)
  ·rintro(h|h|h)
   ·exact .inl (.inl h)
   ·exact .inr h
   ·exact .inl (.inr h)
 have hl2:Later (B1++Ao φ2 σ1) w' (B++Ao φ3 (σ2++σr)) w':=⟨Ax _,λ_ _ _=>rfl,λb hn _ hm=>hn ((hO2 b).2 hm)⟩
 have hnew2:∀b∈Ao φ2 σ1,(b∈Ao φ σk/\b∉B1)\/w.heap.size<=b:=λb h=>by
  obtain⟨p,hp,hb⟩:=AL.1 h
  exact hm2.new p.1 (AV hp) b hb
 have hl3:Later (B++Ao φ σ) w (B++Ao φ3 (σ2++σr)) w':=by
  refine⟨hm2.tch.size,λb hb hn=>hm2.tch.blk b hb λhm=>hn (Av _ ((hall b).2 (.inl hm))),λb hn hlt hm=>hn ?_⟩
  rcases Ag.1 ((hO2 b).2 hm)with h|h
  ·rcases Ag.1 h with h|h
   ·exact Au _ h
   ·exact Av _ ((hall b).2 (.inr h))
  ·rcases hnew2 b h with h|h
   ·exact Av _ ((hall b).2 (.inl h.1))
   ·omega
 have hmv2:∀i∈BA σ1,i∈BA σ1->π i∈BA (σ2++σr)/\η3 (π i)=η2 i:=λi hi _=>⟨by rw[hids];exact Au _ (hin i hi),hη3 i hi⟩
 have hJ:∀i∈BA σr++yZ (IX m) ks,i∈BA (σ2++σr)/\η3 i=η i:=λi hi=>by
  rw[hids]
  rcases Ag.1 hi with h|h
  ·exact⟨Av _ h,hηr i h⟩
  ·obtain⟨k,hk,rfl⟩:=nL h
   obtain⟨k1,k2⟩:=hks k hk
   exact⟨Au _ (hin k k1),by rw[show lk (IX m) k=π k from rfl,hη3 k k1,k2]⟩
 have hrσ:∀i∈BA σr,i∈BA σ:=λi hi=>by
  obtain⟨p,hp,rfl⟩:=An.1 hi
  exact AV (hd p hp).1
 have hcross:∀b,b∈Ao φ2 σ1->b∈Ao φ σr->False:=λb h1 h2=>by
  rcases hnew2 b h1 with h|h
  ·exact h.2 (Av _ h2)
  ·have:=hM.mem.lt b (Av _ ((hall b).2 (.inr h2)));omega
 have hlr:Later (B++Ao φ σ) w (B++Ao φ σ) w:=⟨Ax _,λ_ _ _=>rfl,λ_ h _=>h⟩
 have hm3:Mem C B S w0 (σ2++σr) η3 φ3 w':=by
  refine⟨hM.mem.tch.trans hm2.tch (λ_ h=>h) (λx hx=>?_),?_,?_,?_,?_,hM.mem.out,λg hg=>(hm2.glob g hg).later hl2⟩
  ·rcases hnew x ((hall x).2 (.inl hx))with h|h
   ·exact .inl h.1
   ·exact .inr h
  ·intro p hp
   rcases Ag.1 hp with hp|hp
   ·obtain⟨q,hq,rfl⟩:=GH.1 hp
    have:=(hm2.own q hq).move (ρ:=π) (J:=BA σ1) (I':=BA (σ2++σr)) (η':=η3) hl2 hmv2 (GW hchk.1.2 q hq) (Tch.refl [] w') (λ_ _=>by simp)
    simpa only[hη3 _ (AV hq),hφ3 _ (AV hq)]using this
   ·have h1:=(hM.mem.own p (hd p hp).1).only hlr (GW hwr p hp)
    have:=h1.later hl3 hJ hm2.tch (λx hx hm=>hdis x hm (AL.2 ⟨p,hp,hx⟩))
    simpa only[hηr _ (AV hp),hφr _ (AV hp)]using this
  ·rw[hids]
   refine Dm.2 ⟨?_,MN hM.mem.nodup,?_⟩
   ·simp only[σ2,DJ]
    refine Ni ?_ hm2.nodup
    intro x hx y hy e
    rw[<-hρ x hx,<-hρ y hy,e]
   ·intro x hx y hy e
    exact hnr y hy (e▸hx)
  ·intro i hi j hj hij b hbi hbj
   rw[hids]at hi hj
   rcases Ag.1 hi with hi|hi<;>rcases Ag.1 hj with hj|hj
   ·simp only[σ2,DJ]at hi hj
    obtain⟨x,hx,rfl⟩:=An.1 hi
    obtain⟨y,hy,rfl⟩:=An.1 hj
    rw[hφ3 x hx]at hbi
    rw[hφ3 y hy]at hbj
    exact hm2.disj x hx y hy (λe=>hij (by rw[e])) b hbi hbj
   ·simp only[σ2,DJ]at hi
    obtain⟨x,hx,rfl⟩:=An.1 hi
    rw[hφ3 x hx]at hbi
    rw[hφr j hj]at hbj
    exact hcross b (B5 hx hbi) (B5 hj hbj)
   ·simp only[σ2,DJ]at hj
    obtain⟨y,hy,rfl⟩:=An.1 hj
    rw[hφ3 y hy]at hbj
    rw[hφr i hi]at hbi
    exact hcross b (B5 hy hbj) (B5 hi hbi)
   ·rw[hφr i hi]at hbi
    rw[hφr j hj]at hbj
    exact hM.mem.disj i (hrσ i hi) j (hrσ j hj) hij b hbi hbj
  ·intro i hi b hbi
   rw[hids]at hi
   rcases Ag.1 hi with hi|hi
   ·simp only[σ2,DJ]at hi
    obtain⟨x,hx,rfl⟩:=An.1 hi
    rw[hφ3 x hx]at hbi
    rcases hnew2 b (B5 hx hbi)with h|h
    ·exact hnew b ((hall b).2 (.inl h.1))
    ·exact .inr (BH hM.mem.tch.size h)
   ·rw[hφr i hi]at hbi
    exact hM.mem.new i (hrσ i hi) b hbi
 refine⟨v,_,_,_,η3,φ3,rfl,hKK,⟨hm3,?_,hM.defers,hM.size⟩,⟨cs,?_,?_⟩,λh=>by cases h⟩
 ·intro t
  rcases QW (J:=BA σr++yZ (IX m) ks) (fr:=fr) t with h|⟨h,hw⟩
  ·rw[h];exact⟨[a.tmps.getD t undef],RepC.undef_ex _ _ _,rfl⟩
  ·obtain⟨c1,c2,c3⟩:=hM.fr t
   rw[h]
   exact⟨c1,AH.later hl3 hJ _ _ (AH.only hlr _ _ hw c2),c3⟩
 ·exact AH.move (ρ:=π) hl2 hmv2 d cs hchk.2 hv1
 ·rw[LQ];exact hv2
theorem Iu(m:List (Nat×Nat))(J:List Nat) {f:FuncId} {args Aa:List Dat} {ks:List Nat} {y:Dat} {τ:Sg} {K:KD}(hp:DZ C f Aa σ0 ks (λd σ=>d=y/\σ=τ))
  (h0:Ho (lk m) (G9 J σ)=σ0) (ha:LJ (lk m) args=Aa) (hb:LI m (IX m) J=true) (hwa:Eu J args=true) (hw0:FQ J (G9 J σ)=true) (hwr:FQ (BA (Fu J σ)++yZ (IX m) ks) (Fu J σ)=true)
  (hchk:(LI (IX m) m (BA τ)&&Rl (IX m) (BA (Fu J σ)) (BA τ)&&FQ (BA τ) τ&&ED (BA τ) y)=true)
  (hK:force (ren (lk (IX m)) y) λd=>Gi (Se (BA (Fu J σ)++yZ (IX m) ks) fr) λfr=>Ci (Ho (lk (IX m)) τ++Fu J σ) λσ=>K d fr σ):Cj C false f args K fr σ:=
 eB m J hp h0 ha hb hwa hw0 hwr λd σ1 ⟨hd,hs⟩=>by
  subst hd;subst hs
  rw[KA,Ei,Bw]at hK
  exact⟨hchk,hK⟩
def Mp:List Nat->List Dat
 |[]=>[]
 |k::ks=>.own k::Mp ks
def Rq(J:List Nat):List Nat->Bool
 |[]=>true
 |k::ks=>FR k J&&Rq J ks
def zU(m:List (Nat×Nat)):List Nat->Bool
 |[]=>true
 |k::ks=>Nat.beq (lk m k) k&&zU m ks
theorem OC {J:List Nat}:∀{ks:List Nat},Rq J ks=true->∀k∈ks,k∈J
 |[],_,k,hk=>by cases hk
 |
  j::ks,h,k,hk=>by
  simp only[Rq,Ap]at h
  rcases Ai.1 hk with rfl|hk
  ·exact Gv h.1
  ·exact OC h.2 k hk
theorem Vd {m:List (Nat×Nat)}:∀{ks:List Nat},zU m ks=true->∀k∈ks,lk m k=k
 |[],_,k,hk=>by cases hk
 |
  j::ks,h,k,hk=>by
  simp only[zU,Ap]at h
  rcases Ai.1 hk with rfl|hk
  ·exact A0 h.1
  ·exact Vd h.2 k hk
theorem ZT {η:Nat->Value} {I O:List Nat} {w:World}:∀{ks:List Nat},(∀k∈ks,k∈I)->AE η I O w (Mp ks) (ks.map λk=>[η k])
 |[],_=>by simp[Mp,AE]
 |
  k::ks,h=>by
  simp only[Mp,AE,Ar]
  exact⟨[η k],_,rfl,(show k∈I/\[η k]=[η k]from⟨h k (by simp),rfl⟩),ZT (λj hj=>h j (by simp[hj]))⟩
theorem ZS {η:Nat->Value}:∀(ks:List Nat),List.zipWith Ch (Mp ks) (ks.map λk=>[η k])=ks.map η
 |[]=>rfl
 |k::ks=>by simp only[Mp,Ar,Bh,ZS ks];rfl
theorem ZU {η:Nat->Value} {I O:List Nat} {w:World}:∀{ks:List Nat} {css:List (List Value)},AE η I O w (Mp ks) css->List.zipWith Ch (Mp ks) css=ks.map η
 |[],css,h=>by simp[Mp]
 |
  k::ks,css,h=>by
  simp only[Mp,AE,AH]at h
  obtain⟨c1,c2,rfl,⟨_,rfl⟩,h⟩:=h
  simp only[Mp,Bh,ZU h,Ar];rfl
theorem Mem.ren {B S:List Nat} {w0 w:World} {η:Nat->Value} {φ:Nat->List Nat} {Z:Sg}(m:List (Nat×Nat))(h:Mem C B S w0 Z η φ w)(hb:LI m (IX m) (BA Z)=true)(hz:FQ (BA Z) Z=true):
  Mem C B S w0 (Ho (lk m) Z) (λi=>η (lk (IX m) i)) (λi=>φ (lk (IX m) i)) w/\(∀b,b∈Ao (λi=>φ (lk (IX m) i)) (Ho (lk m) Z)↔b∈Ao φ Z):=by
 have hπ:∀i∈BA Z,lk (IX m) (lk m i)=i:=IU hb
 have hbk:∀b,b∈Ao (λi=>φ (lk (IX m) i)) (Ho (lk m) Z)↔b∈Ao φ Z:=λb=>by
  simp only[Ao,AL]
  constructor
  ·rintro⟨p,hp,hb⟩
   obtain⟨q,hq,rfl⟩:=GH.1 hp
   exact⟨q,hq,by simpa only[hπ _ (AV hq)]using hb⟩
  ·rintro⟨q,hq,hb⟩
   exact⟨_,GH.2 ⟨q,hq,rfl⟩,by simpa only[hπ _ (AV hq)]using hb⟩
 have hl:Later (B++Ao φ Z) w (B++Ao (λi=>φ (lk (IX m) i)) (Ho (lk m) Z)) w:=⟨Ax _,λ_ _ _=>rfl,λb hn _ hm=>hn (by
  rcases Ag.1 hm with h|h
  ·exact Au _ h
  ·exact Av _ ((hbk b).1 h))⟩
 refine⟨⟨h.tch,?_,?_,?_,?_,h.out,λg hg=>(h.glob g hg).later hl⟩,hbk⟩
 ·intro p hp
  obtain⟨q,hq,rfl⟩:=GH.1 hp
  have:=(h.own q hq).move (ρ:=lk m) (J:=BA Z) (I':=BA (Ho (lk m) Z)) (η':=λi=>η (lk (IX m) i)) hl (λi hi _=>⟨by rw[DJ];exact Co hi,by simp only[hπ i hi]⟩) (GW hz q hq) (Tch.refl [] w) (λ_ _=>by simp)
  simpa only[hπ _ (AV hq)]using this
 ·rw[DJ]
  refine Ni ?_ h.nodup
  intro x hx y hy e
  rw[<-hπ x hx,<-hπ y hy,e]
 ·intro i hi j hj hij b hbi
  rw[DJ]at hi hj
  obtain⟨x,hx,rfl⟩:=An.1 hi
  obtain⟨y,hy,rfl⟩:=An.1 hj
  simp only[hπ x hx,hπ y hy]at hbi⊢
  exact h.disj x hx y hy (λe=>hij (by rw[e])) b hbi
 ·intro i hi b hbi
  rw[DJ]at hi
  obtain⟨x,hx,rfl⟩:=An.1 hi
  simp only[hπ x hx]at hbi
  exact h.new x hx b hbi
def QD(C:Cx)(fr:Fr)(σ:Sg)(fr':Fr)(σ':Sg):Prop:=∀(B S:List Nat) (w0 w:World) (n:Nat) (η:Nat->Value) (φ:Nat->List Nat) (a:Act),Models C B S w0 n fr σ η φ a w->∃η' φ',Models C B S w0 n fr' σ' η' φ' a w
theorem QD.lo {fr':Fr} {σ':Sg}(h:Lo fr σ fr' σ'):QD C fr σ fr' σ':=λ_ _ _ _ _ _ _ _ hM=>h.models hM
theorem QD.refl:QD C fr σ fr σ:=λ_ _ _ _ _ η φ _ hM=>⟨η,φ,hM⟩
theorem QD.andThen {fr1 fr2:Fr} {σ1 σ2:Sg}(h:QD C fr σ fr1 σ1)(k:QD C fr1 σ1 fr2 σ2):QD C fr σ fr2 σ2:=λB S w0 w n η φ a hM=>by
 obtain⟨η1,φ1,h1⟩:=h B S w0 w n η φ a hM
 exact k B S w0 w n η1 φ1 a h1
def AET(C:Cx)(vs:List Value)(g:Nat)(ks:List Nat)(Q:Dat->Sg->Prop):Dat->Sg->Prop:=λd σ=>
 ∃fr1 σ1 m Z,QD C [(0,d)] σ fr1 σ1/\BI g σ1=some (.ghost vs (Mp ks))/\Pk Z σ1/\(yB [(0,get fr1 0)] Z&&LI m (IX m) (BA Z)&&Rq (BA Z) ks&&zU m ks&&zU (IX m) ks)=true/\Q (ren (lk m) (get fr1 0)) (Ho (lk m) Z)
theorem YB {n:Nat}(hC:C.Ok T) {G:List FuncId} {pl:List (Nat×Plan)} {f:FuncId} {fn:Func} {c:Code}(hf:C.P.funcs[f]? =some fn)(hb:fn.body=some c)(hn:fn.ntmps=n)(hk:CH C.P G pl c=true) {K:Dat->Sg->Prop} {B S:List Nat} {w0 w:World} {η:Nat->Value} {φ:Nat->List Nat} {fr1:Fr} {σ1:Sg}
  {ds:List Dat} {css:List (List Value)} (hr:AE η (BA σ) (B++Ao φ σ) w ds css) (hl:ds.length<=n) (hm:Mem C B S w0 σ η φ w) (hT:QD C (params ds 0) σ fr1 σ1)
  (h:En C T n pl c (J8 T fn.results.toList K) fr1 σ1):Calls C.P f (List.zipWith Ch ds css).toArray w (ACL C B S w0 K):=by
 refine calls_of_wp hf hb ?_
 have hlen:(List.zipWith Ch ds css).length=ds.length:=by
  have:∀{ds:List Dat} {css:List (List Value)},AE η (BA σ) (B++Ao φ σ) w ds css->css.length=ds.length:=by
   intro ds
   induction ds with
   |nil=>intro css h;simp only[AE]at h;subst h;rfl
   |cons d ds ih=>intro css h;simp only[AE]at h;obtain⟨c1,c2,rfl,_,h⟩:=h;simp[ih h]
  simp[this hr]
 have hM:Models C B S w0 n (params ds 0) σ η φ {tmps:=(List.zipWith Ch ds css).toArray++Array.replicate (fn.ntmps- (List.zipWith Ch ds css).toArray.size) undef,defers:=[]} w:=by
  refine⟨hm,O4 0 hr _ (λj u hj=>?_),rfl,?_⟩
  ·have hlt:=(Ae.1 hj).1
   simp only[DT,Array.getD_eq_getD_getElem?]
   rw[GC (by simpa using hlt)]
   simp[hj]
  ·simp only[Pr,BC,Array.size_replicate,hn];omega
 obtain⟨η1,φ1,hM1⟩:=hT _ _ _ _ _ _ _ _ hM
 exact wp_mono (BY.1 (DE hC c _ _ _ hk h) B S w0 η1 φ1 _ w hM1) (λe a w hq=>zX hC hq)
theorem mP {n:Nat}(hC:C.Ok T) {G:List FuncId} {pl:List (Nat×Plan)} {f:FuncId} {fn:Func} {c:Code}(hf:C.P.funcs[f]? =some fn)(hb:fn.body=some c)(hn:fn.ntmps=n)(hrun:∀(vs:Array Value) (w:World),(callFunc f vs).run C.P w=.ok (.enter f vs) w)(hk:CH C.P G pl c=true) {args:List Dat} {ks:List Nat} {Q:Dat->Sg->Prop}(hl:args.length<=n)(g:Nat)
  (hg:(!(FR g (BA σ0))&&Rq (BA σ0) ks)=true)
  (h:∀vs,∃fr1 σ1,QD C (params args 0) ((g,.ghost vs (Mp ks))::σ0) fr1 σ1/\En C T n pl c (J8 T fn.results.toList (AET C vs g ks Q)) fr1 σ1):DZ C f args σ0 ks Q:=by
 intro B S w η φ css hm hr
 refine⟨hrun _ _,?_⟩
 simp only[Ap,Cm]at hg
 have hgn:=Ku hg.1
 have hki:=OC hg.2
 obtain⟨hm1,hl1⟩:=hm.add (Tch.refl _ _) (i:=g) (o:=.ghost (ks.map η) (Mp ks)) (v:=.nilFunc) (F:=[]) hgn (λ_ h=>by cases h) (by
  have hne:∀k∈ks,CE η g (.nilFunc:Value) k=η k:=λk hk=>BU _ _ _ (λe=>hgn (e▸hki k hk))
  have he:(ks.map λk=>[CE η g (.nilFunc:Value) k])=ks.map λk=>[η k]:=FY λk hk=>by rw[hne k hk]
  exact⟨rfl,rfl,ks.map λk=>[η k],by rw[<-he];exact ZT (λk hk=>A9 _ (hki k hk)),(ZS ks).symm⟩)
 have hr1:AE (CE η g .nilFunc) (BA ((g,.ghost (ks.map η) (Mp ks))::σ0)) (B++Ao (CE φ g []) ((g,.ghost (ks.map η) (Mp ks))::σ0)) w args css:=
  AE.later hl1 (λi hi=>⟨A9 _ hi,BU _ _ _ (show i≠g fromλe=>hgn (e▸hi))⟩) _ _ hr
 obtain⟨fr1,σ1,hT,hsx⟩:=h (ks.map η)
 refine(YB hC hf hb hn hk hr1 hl hm1 hT hsx).mono ?_
 rintro e w' ⟨v,d,σ',η',φ',rfl,⟨fr1,σ1,m,Z,hLo,hg1,hZ,hchk,hQ⟩,hm',hv⟩
 simp only[Ap]at hchk
 obtain⟨⟨⟨⟨hok,hbk⟩,hin⟩,hfx⟩,hfx2⟩:=hchk
 have hMf:Models C B S w 1 [(0,d)] σ' η' φ' {tmps:=#[v],defers:=[]} w':=⟨hm',λs=>by
  simp only[Sx.get]
  rcases BN 0 s with⟨hbq,e⟩|⟨hbq,e⟩<;>rw[hbq]
  ·subst e
   obtain⟨c1,c2,c3⟩:=hv
   exact⟨c1,c2,by simp[c3]⟩
  ·exact⟨[Array.getD #[v] s undef],by simp[AH,RepC],rfl⟩,rfl,rfl⟩
 obtain⟨η',φ',hM1⟩:=hLo _ _ _ _ _ _ _ _ hMf
 obtain⟨_,_,qss,q3,q4⟩:=hM1.mem.own _ (AQ hg1)
 have hks:ks.map η'=ks.map η:=by rw[<-ZU q3];exact q4.symm
 have hM2:Models C B S w 1 [(0,get fr1 0)] σ1 η' φ' {tmps:=#[v],defers:=[]} w':=hM1.sub' λt=>by
  simp only[Sx.get]
  rcases BN 0 t with⟨hbq,e⟩|⟨hbq,e⟩<;>rw[hbq]
  ·subst e;exact .inr rfl
  ·exact .inl rfl
 have hM3:=hM2.only hok hZ
 simp only[yB,Ap]at hok
 obtain⟨hm4,hbl⟩:=hM3.mem.ren m hbk hok.2
 obtain⟨cy,y1,y2⟩:=hM3.fr 0
 have hπ:∀i∈BA Z,lk (IX m) (lk m i)=i:=IU hbk
 have hw0:ED (BA Z) (get fr1 0)=true:=by have:=Lw hok.1.2 0;simpa only[Sx.get]using this
 have hl5:Later (B++Ao φ' Z) w' (B++Ao (λi=>φ' (lk (IX m) i)) (Ho (lk m) Z)) w':=⟨Ax _,λ_ _ _=>rfl,λb hn _ hm=>hn (by
  rcases Ag.1 hm with h|h
  ·exact Au _ h
  ·exact Av _ ((hbl b).1 h))⟩
 have y3:AH η' (BA Z) (B++Ao φ' Z) w' (get fr1 0) cy:=by simpa only[Sx.get]using y1
 have y4:=AH.move (J:=BA Z) (ρ:=lk m) (η':=λi=>η' (lk (IX m) i)) (I':=BA (Ho (lk m) Z)) hl5 (λi hi _=>⟨by rw[DJ];exact Co hi,by simp only[hπ i hi]⟩) _ _ hw0 y3
 refine⟨v,_,_,(λi=>η' (lk (IX m) i)),(λi=>φ' (lk (IX m) i)),rfl,hQ,hm4,⟨cy,y4,by rw[LQ];exact y2⟩,λk hk=>?_⟩
 refine⟨?_,?_⟩
 ·rw[DJ];exact An.2 ⟨k,OC hin k hk,Vd hfx k hk⟩
 ·simp only[Vd hfx2 k hk]
  exact(List.map_inj_left.1 hks) k hk
theorem Mj {n:Nat}(hC:C.Ok T) {G:List FuncId} {pl:List (Nat×Plan)} {f:FuncId} {fn:Func} {c:Code}(hf:C.P.funcs[f]? =some fn)(hb:fn.body=some c)(hn:fn.ntmps=n)(hrun:∀(vs:Array Value) (w:World),(callFunc f vs).run C.P w=.ok (.enter f vs) w)(hk:CH C.P G pl c=true) {args:List Dat} {ks:List Nat} {Q:Dat->Sg->Prop}(hl:args.length<=n)(g:Nat)
  (hg:(!(FR g (BA σ0))&&Rq (BA σ0) ks)=true)
  (h:∀vs,En C T n pl c (J8 T fn.results.toList (AET C vs g ks Q)) (params args 0) ((g,.ghost vs (Mp ks))::σ0)):DZ C f args σ0 ks Q:=
 mP hC hf hb hn hrun hk hl g hg λvs=>⟨_,_,QD.refl,h vs⟩
end
end Go.Sx
end
section
namespace Go.Sx
open Go Go.RowKit Go.Reg
section
variable {C:Cx} {T:Hh} {B S:List Nat} {w0 w:World} {n:Nat} {fr:Fr} {σ:Sg} {η:Nat->Value} {φ:Nat->List Nat} {a:Act} {i:Nat} {t:TypeId} {xs:List Da}
theorem Models.cellsRefR(hM:Models C B S w0 n fr σ η φ a w)(hg:BI i σ=some (.cells t (Ct xs))):Later (B++Ao φ σ) w (B++Ao φ (Dc (BM i (.ref (.agg xs))) i σ)) w/\RepC (B++Ao φ (Dc (BM i (.ref (.agg xs))) i σ)) w (.ref (.agg xs)) [η i]:=by
 have hm:=hM.mem
 have hi:=AV (AQ hg)
 have hsub:∀b∈B++Ao φ (Dc (BM i (.ref (.agg xs))) i σ),b∈B\/∃j∈BA σ,j≠i/\b∈φ j:=by
  intro b hb
  rcases Ag.1 hb with hb|hb
  ·exact .inl hb
  ·obtain⟨p,hp,hb⟩:=AL.1 hb
   obtain⟨q,hq,hne,rfl⟩:=Fh hp
   exact .inr ⟨q.1,AV hq,hne,hb⟩
 have hl:Later (B++Ao φ σ) w (B++Ao φ (Dc (BM i (.ref (.agg xs))) i σ)) w:=⟨Ax _,λ_ _ _=>rfl,λb hn _ hb=>by
  rcases hsub b hb with h|⟨j,hj,_,h⟩
  ·exact hn (Au _ h)
  ·exact hn (Av _ (B5 hj h))⟩
 refine⟨hl,?_⟩
 obtain⟨b,cs,e1,e2,hB,hrr⟩:=hm.own _ (AQ hg)
 have hr2:=RepCs.later hl _ _ (GY.1 hrr)
 have hbi:b∈φ i:=by rw[show φ i=[b]from e2];simp
 simp only[RepC]
 refine⟨b,0,cs,by rw[show η i=_ from e1],λhb=>?_,hB.lt,hr2,λj u hj=>by rw[DT];exact hB.cell hj⟩
 rcases hsub b hb with h|⟨j,hj,hne,h⟩
 ·exact PU hm hi hbi h
 ·exact hm.disj j hj i hi hne b h hbi
theorem RJ(i:Nat) {q:Bool} {f:FuncId} {args:List Dat} {K:KD} {ds:List Dat}(hg:BI i σ=some (.cells t ds))(ha:EX ds=some xs)(h:Cj C q f (GI i (.ref (.agg xs)) args) K (Fj i (.ref (.agg xs)) fr) (Dc (BM i (.ref (.agg xs))) i σ)):Cj C q f args K fr σ:=by
 have hd:=E4 ha
 subst hd
 unfold Cj at h⊢
 rintro B S w0 η φ n a w vs hM ⟨css,hr,rfl⟩
 obtain⟨hl,hr0⟩:=hM.cellsRefR hg
 have hI:∀j∈BA σ,j≠i->j∈BA (Dc (BM i (.ref (.agg xs))) i σ)/\η j=η j:=λj hj hne=>⟨by rw[DI];exact Az.2 ⟨hj,by simpa using hne⟩,rfl⟩
 have hr':=AE.kill (x:=.ref (.agg xs)) rfl hl hI hr0 _ _ hr
 obtain⟨h1,h2⟩:=hM.mem.del (x:=.ref (.agg xs)) rfl hr0
 have hM':Models C B S w0 n (Fj i (.ref (.agg xs)) fr) (Dc (BM i (.ref (.agg xs))) i σ) η φ a w:=⟨h1,hM.fr.kill rfl h2 hI hr0,hM.defers,hM.size⟩
 exact h B S w0 η φ n a w _ hM' ⟨css,hr',by rw[FI rfl]⟩
end
end Go.Sx
end
section
namespace Go.Sx
open Go Go.RowKit Go.Reg
theorem ADX {a b A B:Prop}(h:a↔b)(hB:B):(¬(a↔b)->A)/\(¬¬(a↔b)->B):=⟨λhn=>absurd h hn,λ_=>hB⟩
theorem ifq {a b A B:Prop}(hB:B)(h:a↔b:=by first|exact iff_of_true (by first|omega|decide) (by first|omega|decide)|exact iff_of_false (by first|omega|decide) (by first|omega|decide)):(¬(a↔b)->A)/\(¬¬(a↔b)->B):=ADX h hB
mutual
def yE:Dat->Option Da
 |.d x=>some x
 |
  .agg ds=>match yD ds with
  |some xs=>some (.agg xs)
  |none=>none
 |
  .iface t d=>match yE d with
  |some x=>some (.iface t x)
  |none=>none
 |_=>none
def yD:List Dat->Option (List Da)
 |[]=>some []
 |
  d::ds=>match yE d,yD ds with
  |some x,some xs=>some (x::xs)
  |_,_=>none
end
section
variable {η:Nat->Value} {I O:List Nat} {w:World}
mutual
theorem mY:∀(d:Dat) {x:Da} {cs:List Value},yE d=some x->AH η I O w d cs->RepC O w x cs/\Ch d cs=Ea x cs
 |.d y,x,cs,h,hr=>by simp only[yE,AB]at h;subst h;exact⟨by simpa only[AH]using hr,rfl⟩
 |
  .agg ds,x,cs,h,hr=>by
  simp only[yE]at h
  split at h
  ·rename_i xs h1
   simp only[AB]at h
   subst h
   simp only[AH]at hr
   simp only[RepC]
   exact⟨aE ds h1 hr,rfl⟩
  ·cases h
 |
  .iface t d,x,cs,h,hr=>by
  simp only[yE]at h
  split at h
  ·rename_i y h1
   simp only[AB]at h
   subst h
   simp only[AH]at hr
   obtain⟨c,r1,rfl⟩:=hr
   obtain⟨g1,g2⟩:=mY d h1 r1
   simp only[RepC]
   exact⟨⟨c,g1,by rw[g2]⟩,rfl⟩
  ·cases h
 |.own _,_,_,h,_=>by simp[yE]at h
 |.at_ _ _,_,_,h,_=>by simp[yE]at h
 |.el _ _ _ _,_,_,h,_=>by simp[yE]at h
 |.tuple _,_,_,h,_=>by simp[yE]at h
 |.func _ _ _,_,_,h,_=>by simp[yE]at h
theorem aE:∀(ds:List Dat) {xs:List Da} {cs:List Value},yD ds=some xs->B6 η I O w ds cs->RepCs O w xs cs
 |[],xs,cs,h,hr=>by simp only[yD,AB]at h;subst h;simpa only[B6,RepCs]using hr
 |
  d::ds,xs,cs,h,hr=>by
  simp only[yD]at h
  split at h
  ·rename_i x xs' h1 h2
   simp only[AB]at h
   subst h
   simp only[B6]at hr
   obtain⟨c1,c2,rfl,r1,r2⟩:=hr
   simp only[RepCs]
   exact⟨c1,c2,rfl,(mY d h1 r1).1,aE ds h2 r2⟩
  ·cases h
end
end
section
variable {C:Cx} {n:Nat} {fr:Fr} {σ:Sg}
theorem aV {ι:Type}(H:ι->Prop)(I:ι->Fr)(Z:ι->Sg)(μ:ι->Nat)(x0:ι) {b:Code} {K:KE} {fr0:Fr} {σ0:Sg}(hz:∀x,yB (I x) (Z x)=true)(h0:H x0)(hf:QD C fr σ fr0 σ0)(hI:fE (I x0) fr0)(hZ:Pk (Z x0) σ0)
  (round:∀x,H x->FB C n b (λe fr σ=>match e with|.normal=>∃y fr' σ',H y/\QD C fr σ fr' σ'/\fE (I y) fr'/\Pk (Z y) σ'/\μ y<μ x|e=>K e fr σ) (I x) (Z x)):FB C n (.loop b) K fr σ:=by
 refine BY.2 λB S w0 η φ a w hM=>?_
 obtain⟨η,φ,hM⟩:=hf _ _ _ _ _ _ _ _ hM
 refine wp_loop_ghost (λm a w=>∃x η φ,H x/\μ x=m/\Models C B S w0 n (I x) (Z x) η φ a w) (μ x0) ⟨x0,η,φ,h0,rfl,(hM.sub hI).only (hz x0) hZ⟩ ?_
 rintro m a w ⟨x,η,φ,hx,rfl,hM⟩
 refine wp_mono (BY.1 (round x hx) B S w0 η φ a w hM) ?_
 intro e a' w' hq
 cases e with
 |
  normal=>
  obtain⟨fr',σ',η',φ',hM',y,f2,s2,h1,hf,h2,h3,h4⟩:=hq
  obtain⟨η',φ',hM'⟩:=hf _ _ _ _ _ _ _ _ hM'
  exact⟨μ y,h4,y,η',φ',h1,rfl,(hM'.sub h2).only (hz y) h3⟩
 |exit id=>exact hq
 |goto l=>exact hq
 |ret=>exact hq
 |panic ch=>exact hq
 |outgrown=>exact hq
def ABx(ρ:Nat->Nat):Fr->Fr
 |[]=>[]
 |(t,d)::fr=>(t,ren ρ d)::ABx ρ fr
theorem bY(ρ:Nat->Nat):∀(fr:Fr) (t:Nat),get (ABx ρ fr) t=ren ρ (get fr t)
 |[],t=>rfl
 |
  (s,d)::fr,t=>by
  simp only[ABx,get]
  cases Nat.beq s t
  ·exact bY ρ fr t
  ·rfl
theorem QD.ren(m:List (Nat×Nat))(hz:yB fr σ=true)(hb:LI m (IX m) (BA σ)=true):QD C fr σ (ABx (lk m) fr) (Ho (lk m) σ):=by
 intro B S w0 w n η φ a hM
 simp only[yB,Ap]at hz
 obtain⟨hm,hbl⟩:=hM.mem.ren m hb hz.2
 have hπ:∀i∈BA σ,lk (IX m) (lk m i)=i:=IU hb
 have hl:Later (B++Ao φ σ) w (B++Ao (λi=>φ (lk (IX m) i)) (Ho (lk m) σ)) w:=⟨Ax _,λ_ _ _=>rfl,λb hn _ hm=>hn (by
  rcases Ag.1 hm with h|h
  ·exact Au _ h
  ·exact Av _ ((hbl b).1 h))⟩
 refine⟨λi=>η (lk (IX m) i),λi=>φ (lk (IX m) i),hm,λt=>?_,hM.defers,hM.size⟩
 obtain⟨cs,h1,h2⟩:=hM.fr t
 rw[bY]
 exact⟨cs,AH.move (J:=BA σ) (ρ:=lk m) (η':=λi=>η (lk (IX m) i)) (I':=BA (Ho (lk m) σ)) hl (λi hi _=>⟨by rw[DJ];exact Co hi,by simp only[hπ i hi]⟩) _ _ (Lw hz.1.2 t) h1,by rw[LQ];exact h2⟩
theorem IT {ι:Type} {σ0:Sg}(m:List (Nat×Nat))(J:List Nat) {f:FuncId} {args Aa:List Dat} {ks:List Nat} {Q:Dat->Sg->Prop} {y:ι->Dat} {τ:ι->Sg} {P:ι->Prop} {K:KD}(hp:DZ C f Aa σ0 ks Q)(hQ:∀d σ1,Q d σ1->∃z,d=y z/\σ1=τ z/\P z)
  (h0:Ho (lk m) (G9 J σ)=σ0) (ha:LJ (lk m) args=Aa) (hb:LI m (IX m) J=true) (hwa:Eu J args=true) (hw0:FQ J (G9 J σ)=true) (hwr:FQ (BA (Fu J σ)++yZ (IX m) ks) (Fu J σ)=true)
  (hchk:∀z,(LI (IX m) m (BA (τ z))&&Rl (IX m) (BA (Fu J σ)) (BA (τ z))&&FQ (BA (τ z)) (τ z)&&ED (BA (τ z)) (y z))=true)
  (hK:∀z,P z->force (Go.Sx.ren (lk (IX m)) (y z)) λd=>Gi (Se (BA (Fu J σ)++yZ (IX m) ks) fr) λfr=>Ci (Ho (lk (IX m)) (τ z)++Fu J σ) λσ=>K d fr σ):Cj C false f args K fr σ:=
 eB m J hp h0 ha hb hwa hw0 hwr λd σ1 hq=>by
  obtain⟨z,rfl,rfl,hz⟩:=hQ d σ1 hq
  have h:=hK z hz
  rw[KA,Ei,Bw]at h
  exact⟨hchk z,h⟩
end
end Go.Sx
end
section
namespace Go.Proofs.YtjpmmkodoeipmaaGreatDoor
open Go Go.Sx Go.RowKit Go.Reg Go.Gr
inductive Ph where
 |it (todo:List (ByteArray×RowV))
 |on (todo:List (ByteArray×RowV)) (p:ByteArray×RowV)
def Ph.At {P:Program}(M:MapE P ByteArray RowV)(w:World)(r b:Nat)(m:List (ByteArray×RowV)):Ph->Prop
 |.it todo=>Ew M.encK M.encV w r b m todo
 |.on todo p=>LL M.encK M.encV w r b m todo p
theorem Ph.At.keep {P:Program} {M:MapE P ByteArray RowV} {w w':World} {S:List Nat} {r b:Nat} {m:List (ByteArray×RowV)} {ph:Ph}(h:ph.At M w r b m)(t:Tch S w w')(hr:r∉S)(hb:b∉S):ph.At M w' r b m:=by
 cases ph with
 |it todo=>exact Ew.keep h t hr hb
 |on todo p=>exact LL.keep h t hr hb
theorem Ph.At.iter {P:Program} {M:MapE P ByteArray RowV} {w:World} {r b:Nat} {m:List (ByteArray×RowV)} {ph:Ph}(h:ph.At M w r b m):∃todo,Ew M.encK M.encV w r b m todo:=by
 cases ph with
 |it todo=>exact⟨_,h⟩
 |on todo p=>exact⟨_,LL.iter h⟩
structure RowsI {P:Program}(M:MapE P ByteArray RowV)(m:List (ByteArray×RowV))(r:Nat)(ph:Ph)(w:World)(v:Value)(F:List Nat)(b:Nat)(G:List Nat):Prop where
 val:v=.map (some b)
 mem:∀x,x∈F↔x=b\/x=r\/x∈G
 nb:b∉G
 nr:r∉G
 lt:∀x∈F,x<w.heap.size
 at_:ph.At M w r b m
 rows:∀q∈m,RepC (Mq w G) w (Bn q.2.p.labels) [q.2.lv]/\RepC (Mq w G) w (Fa q.2.p.edges) [q.2.ev]
def Jc {P:Program}(M:MapE P ByteArray RowV)(m:List (ByteArray×RowV))(r:Nat)(ph:Ph):Absn where
 R w v F:=∃b G,RowsI M m r ph w v F b G
 keep:=by
  rintro S w w' v F ⟨b,G,h⟩ t hd
  have hG:∀x∈G,x∉S:=λx hx=>hd x ((h.mem x).2 (.inr (.inr hx)))
  have hl:=Jf t hG
  exact⟨b,G,h.val,h.mem,h.nb,h.nr,λx hx=>Bq (h.lt x hx) t.size,h.at_.keep t (hd r ((h.mem r).2 (.inr (.inl rfl)))) (hd b ((h.mem b).2 (.inl rfl))),λq hq=>⟨RepC.later hl _ _ (h.rows q hq).1,RepC.later hl _ _ (h.rows q hq).2⟩⟩
 lt:=by rintro w v F ⟨b,G,h⟩ x hx;exact h.lt x hx
 one:=by rintro w v F ⟨b,G,h⟩;rw[h.val];rfl
section
variable {C:Cx} {n kd:Nat} {fr:Fr} {σ:Sg} {o:Oper} {K:Fr->Sg->Prop} {M:MapE C.P ByteArray RowV} {m:List (ByteArray×RowV)} {X:List (Value×Da)}
theorem Rj {B S:List Nat} {w0 w:World} {η:Nat->Value} {φ:Nat->List Nat}(hm:Mem C B S w0 σ η φ w) {i r:Nat} {ph:Ph}(hg:BI i σ=some (Jc M m r ph).own):∃b G,RowsI M m r ph w (η i) (φ i) b G:=hm.own _ (AQ hg)
theorem ZX(i:Nat) {x:Operand}(ho:o.op=.range M.t x)(hx:ev C.Γ fr x=.own i)(hg:BI i σ=some (G5 M m X).own)(hkd:kd≠5/\kd≠2/\kd≠0)(hd:Dh o.dst n=true)
  (hK:∀r,Ci (AX id i (Jc M m r (.it m)).own σ) λσ=>K (CF o.dst (.d (.raw (.pointer (some ⟨r,0,none⟩)))) fr) σ):Bm C n kd o K fr σ:=by
 refine CC hkd.1 hkd.2.1 λB S w0 η φ a w hM=>⟨λe=>absurd e hkd.2.2,.inl ?_⟩
 have e1:=FO (Bb hM x) hx
 obtain⟨b,G,h⟩:=PR hM.mem hg
 obtain⟨w',hr,hI,ht⟩:=h.map.range (P:=C.P) (t:=M.t) M.ht
 have hk:=hK w.heap.size
 rw[Bw]at hk
 have hi:=AV (AQ hg)
 have hF:∀c∈φ i++[w.heap.size],c∈φ i\/w.heap.size<=c:=λc hc=>by
  rcases Ag.1 hc with hc|hc
  ·exact .inl hc
  ·exact .inr (by rw[As.1 hc];exact Ax _)
 have hX:∀c∈([]:List Nat),c∈φ i:=λc hc=>by cases hc
 have hlo:=Jf ht (G:=G) (λx _ hb=>by cases hb)
 have hl:=Later.turn (σ:=σ) B ht hX hi hF id (Jc M m w.heap.size (.it m)).own
 have hmm:=hM.mem.turnSame ht hX hi hF (o:=(Jc M m w.heap.size (.it m)).own) ⟨b,G,h.val,λx=>by
   rw[Ag,h.mem,As]
   constructor
   ·rintro((h|h)|h)
    ·exact .inl h
    ·exact .inr (.inr h)
    ·exact .inr (.inl h)
   ·rintro(h|h|h)
    ·exact .inl (.inl h)
    ·exact .inr h
    ·exact .inl (.inr h),h.nb,λhm=>by have:=h.lt _ ((h.mem _).2 (.inr hm));omega,λx hx=>by
   rcases Ag.1 hx with hx|hx
   ·exact Bq (h.lt x hx) ht.size
   ·rw[As.1 hx];exact hI.lt,hI,λq hq=>⟨RepC.later hlo _ _ (h.rows q hq).1,RepC.later hlo _ _ (h.rows q hq).2⟩⟩
 have M':Models C B S w0 n fr _ η _ a w':=⟨hmm,hM.fr.later hl (λj hj=>⟨by rw[AZ];exact hj,rfl⟩),hM.defers,hM.size⟩
 refine⟨.pointer (some ⟨w.heap.size,0,none⟩),w',?_,_,_,_,_,M'.put hd ⟨[.pointer (some ⟨w.heap.size,0,none⟩)],by simp only[AH,RepC],rfl⟩,hk⟩
 simp only[execOp,ho]
 rw[e1,h.val]
 exact CZ hr
theorem iO(i r:Nat) {todo:List (ByteArray×RowV)} {x:Operand} {ty:TypeId}(ho:o.op=.next x false)(hty:o.type=ty)(hx:ev C.Γ fr x=.d (.raw (.pointer (some ⟨r,0,none⟩))))(hg:BI i σ=some (Jc M m r (.it todo)).own)(hkd:kd≠5/\kd≠2/\kd≠0)(hd:Dh o.dst n=true)
  (h1:todo=[]->Ci (AX id i (G5 M m []).own σ) λσ=>K (CF o.dst (.d (.tuple [.bool false])) fr) σ)
  (h2:∀p todo',todo.Perm (p::todo')->Ci (AX id i (Jc M m r (.on todo' p)).own σ) λσ=>K (CF o.dst (.d (.tuple [.bool true,.undef,.undef])) fr) σ):Bm C n kd o K fr σ:=by
 refine CC hkd.1 hkd.2.1 λB S w0 η φ a w hM=>⟨λe=>absurd e hkd.2.2,.inl ?_⟩
 obtain⟨cs,g1,e1⟩:=Eg (Bb hM x) hx
 simp only[RepC]at g1
 subst g1
 obtain⟨b,G,h⟩:=Rj hM.mem hg
 have hi:=AV (AQ hg)
 have hF:∀c∈φ i,c∈φ i\/w.heap.size<=c:=λc hc=>.inl hc
 have hI:Ew M.encK M.encV w r b m todo:=h.at_
 rcases hI.next (P:=C.P) ty with⟨h0,hr⟩|⟨p,todo',w',hp,hr,hon,ht⟩
 ·have hk:=h1 h0
  rw[Bw]at hk
  have ht:=Tch.refl [] w
  have hX:∀c∈([]:List Nat),c∈φ i:=λc hc=>by cases hc
  have hl:=Later.turn (σ:=σ) B ht hX hi hF id (G5 M m []).own
  have hmo:=Wx (w:=w) (G:=G) (G':=r::G) (λx hx=>A9 _ hx)
  have hmm:=hM.mem.turnSame ht hX hi hF (o:=(G5 M m []).own) ⟨b,r::G,h.val,λx=>by rw[h.mem,Ai],λhm=>by
    rcases Ai.1 hm with e|e
    ·exact hI.ne e.symm
    ·exact h.nb e,h.lt,hI.mapAt,λx hx=>(by cases hx),λq hq=>⟨RepC.later hmo _ _ (h.rows q hq).1,RepC.later hmo _ _ (h.rows q hq).2⟩⟩
  have M':Models C B S w0 n fr _ η _ a w:=⟨hmm,hM.fr.later hl (λj hj=>⟨by rw[AZ];exact hj,rfl⟩),hM.defers,hM.size⟩
  refine⟨.tuple #[.bool false],w,?_,_,_,_,_,M'.put hd ⟨[.tuple #[.bool false]],?_,rfl⟩,hk⟩
  ·simp only[execOp,ho,hty]
   rw[e1]
   exact CZ hr
  ·simp only[AH,RepC,Aq]
   exact⟨[[.bool false]],⟨_,_,rfl,rfl,rfl⟩,rfl⟩
 ·have hk:=h2 p todo' hp
  rw[Bw]at hk
  have hX:∀c∈[r],c∈φ i:=λc hc=>by rw[As.1 hc];exact(h.mem r).2 (.inr (.inl rfl))
  have hlo:=Jf ht (G:=G) (λx hx hb=>h.nr (by rw[<-As.1 hb];exact hx))
  have hl:=Later.turn (σ:=σ) B ht hX hi hF id (Jc M m r (.on todo' p)).own
  have hmm:=hM.mem.turnSame ht hX hi hF (o:=(Jc M m r (.on todo' p)).own) ⟨b,G,h.val,h.mem,h.nb,h.nr,λx hx=>Bq (h.lt x hx) ht.size,hon,λq hq=>⟨RepC.later hlo _ _ (h.rows q hq).1,RepC.later hlo _ _ (h.rows q hq).2⟩⟩
  have M':Models C B S w0 n fr _ η _ a w':=⟨hmm,hM.fr.later hl (λj hj=>⟨by rw[AZ];exact hj,rfl⟩),hM.defers,hM.size⟩
  refine⟨.tuple #[.bool true,M.encK p.1,M.encV p.2],w',?_,_,_,_,_,M'.put hd ⟨[.tuple #[.bool true,M.encK p.1,M.encV p.2]],?_,rfl⟩,hk⟩
  ·simp only[execOp,ho,hty]
   rw[e1]
   exact CZ hr
  ·simp only[AH,RepC,Aq]
   exact⟨[[.bool true],[M.encK p.1],[M.encV p.2]],⟨_,_,rfl,rfl,_,_,rfl,⟨_,rfl⟩,_,_,rfl,⟨_,rfl⟩,rfl⟩,rfl⟩
theorem ZY(i r:Nat) {todo:List (ByteArray×RowV)} {p:ByteArray×RowV} {x:Operand}(ho:o.op=.entry x)(hx:ev C.Γ fr x=.d (.raw (.pointer (some ⟨r,0,none⟩))))(hg:BI i σ=some (Jc M m r (.on todo p)).own)(hkd:kd≠5/\kd≠2/\kd≠0)(hd:Dh o.dst n=true)
  (hK:Ci (AX id i (Jc M m r (.it todo)).own σ) λσ=>K (CF o.dst (.d (.tuple [.undef,M.dV p.2])) fr) σ):Bm C n kd o K fr σ:=by
 rw[Bw]at hK
 refine CC hkd.1 hkd.2.1 λB S w0 η φ a w hM=>⟨λe=>absurd e hkd.2.2,.inl ?_⟩
 obtain⟨cs,g1,e1⟩:=Eg (Bb hM x) hx
 simp only[RepC]at g1
 subst g1
 obtain⟨b,G,h⟩:=Rj hM.mem hg
 have hon:LL M.encK M.encV w r b m todo p:=h.at_
 have hi:=AV (AQ hg)
 have hF:∀c∈φ i,c∈φ i\/w.heap.size<=c:=λc hc=>.inl hc
 have ht:=Tch.refl [] w
 have hX:∀c∈([]:List Nat),c∈φ i:=λc hc=>by cases hc
 have hl:=Later.turn (σ:=σ) B ht hX hi hF id (Jc M m r (.it todo)).own
 have hmm:=hM.mem.turnSame ht hX hi hF (o:=(Jc M m r (.it todo)).own) ⟨b,G,h.val,h.mem,h.nb,h.nr,h.lt,hon.iter,h.rows⟩
 have M':Models C B S w0 n fr _ η _ a w:=⟨hmm,hM.fr.later hl (λj hj=>⟨by rw[AZ];exact hj,rfl⟩),hM.defers,hM.size⟩
 obtain⟨cs,g1,g2⟩:=M.ofV (B++Ao (CE φ i (φ i)) (AX id i (Jc M m r (.it todo)).own σ)) w p.2
 refine⟨.tuple #[M.encK p.1,M.encV p.2],w,?_,_,_,_,_,M'.put hd ⟨[.tuple #[M.encK p.1,M.encV p.2]],?_,rfl⟩,hK⟩
 ·simp only[execOp,ho]
  rw[e1]
  exact CZ hon.entry
 ·simp only[AH,RepC,Aq]
  exact⟨[[M.encK p.1],cs],⟨_,_,rfl,⟨_,rfl⟩,cs,[],rfl,g1,rfl⟩,by simp[g2,Ea]⟩
theorem Wh {B S:List Nat} {w0 w:World} {η:Nat->Value} {φ:Nat->List Nat}(hm:Mem C B S w0 σ η φ w) {i r:Nat} {ph:Ph}(hg:BI i σ=some (Jc M m r ph).own) {q:ByteArray×RowV}(hq:q∈m):RepC [] w (Bn q.2.p.labels) [q.2.lv]/\RepC [] w (Fa q.2.p.edges) [q.2.ev]:=by
 obtain⟨b,G,h⟩:=Rj hm hg
 have hl:Later (Mq w G) w [] w:=⟨Ax _,λ_ _ _=>rfl,λ_ _ _ h=>by cases h⟩
 exact⟨RepC.later hl _ _ (h.rows q hq).1,RepC.later hl _ _ (h.rows q hq).2⟩
theorem Vw {E k:Nat}(j:Nat) {q:Bool} {f:FuncId} {u:Value} {x:Da} {L:List Da} {K:KD}(hj:BI j σ=none)(hx1:x.one=true)(hx:∀{B S:List Nat} {w0 w:World} {η:Nat->Value} {φ:Nat->List Nat},Mem C B S w0 σ η φ w->RepC [] w x [u])(hp:E5 C f [x] E k (λds=>ds=L))(hfl:GL L=true)(hK:Ci (Fm j (.slice E k L) σ) λσ=>K (.own j) fr σ):Cj C q f [.d (.raw u)] K fr σ:=by
 unfold Cj
 rintro B S w0 η φ n a w vs hM ⟨css,hr,rfl⟩
 simp only[AE,AH,RepC]at hr
 obtain⟨_,_,rfl,rfl,rfl⟩:=hr
 have hgl:Glob C [] w:=λg hg=>(hM.mem.glob g hg).later ⟨Ax _,λ_ _ _=>rfl,λ_ _ _ h=>by cases h⟩
 have e:List.zipWith Ch [.d (.raw u)] [[u]]=[u]:=rfl
 rw[e]
 obtain⟨g1,g2⟩:=hp [] w [u] (λb hb=>by cases hb) hgl ⟨[[u]],by simp only[Aq];exact⟨_,_,rfl,hx hM.mem,rfl⟩,by simp[SR hx1]⟩
 refine⟨g1,g2.mono ?_⟩
 rintro e w' ⟨v,cs2,ds,rfl,rfl,hs,hb,hr2,hk,ht⟩
 obtain⟨d,fr',σ',η',φ',x1,x2,x3⟩:=U8 hM hj hs hb (O:=B++(v.ownBlock.toList++Ao φ σ)) (λO'=>.inl (Aq.flat _ cs2 hfl hr2)) rfl hk ht hK
 exact⟨v,d,fr',σ',η',φ',rfl,x1,x2,x3,λ_=>ht.ext⟩
theorem ADN {T:Hh} {fr1:Fr} {σ1:Sg}(hC:C.Ok T) {G:List FuncId}(t:Nat) {a b c:Da}(hf:Lo fr σ fr1 σ1)(e:Sx.get fr1 t=.agg [.agg [.d a,.d b],.d c])(hks:DN C.P G o=kd\/kd=3)(h:Ty C T n kd o K ((t,.d (.agg [.agg [a,b],c]))::fr1) σ1):Bm C n kd o K fr σ:=by
 have h:=KW hC hks h
 unfold Bm at h⊢
 intro B S w0 η φ ac w hM
 obtain⟨η1,φ1,hM1⟩:=hf.models hM
 refine h B S w0 η1 φ1 ac w ⟨hM1.mem,λs=>?_,hM1.defers,hM1.size⟩
 simp only[Sx.get]
 rcases BN t s with⟨hb,e2⟩|⟨hb,_⟩<;>rw[hb]
 ·subst e2
  obtain⟨cs,r1,r2⟩:=hM1.fr t
  rw[e]at r1 r2
  refine⟨cs,?_,r2⟩
  simp only[AH,B6,RepC,RepCs]at r1⊢
  exact r1
 ·exact hM1.fr s
end
end Go.Proofs.YtjpmmkodoeipmaaGreatDoor
end
section
namespace Go.Proofs
open Go.Shelf
def Tryz.joinL_ren:Go.Shelf.Ren:=⟨λ|156=>44|165=>84|166=>40|169=>45|240=>81|241=>136|276=>131|277=>201|n=>n,λ|31=>104|9=>9|3=>3|4=>4|0=>0|20=>20|72=>99|76=>100|70=>96|37=>97|75=>39|127=>157|164=>212|5=>5|80=>107|n=>n,λ|n=>n⟩
theorem Tryz.joinL:Go.Proofs.Lays.n156 Tryz.prog Tryz.joinL_ren:={
 mixed:=by kernel_rfl
 f156:=Tryz.func44.trans (congrArg some (by kernel_rfl))
 f165:=Tryz.func84.trans (congrArg some (by kernel_rfl))
 f166:=Tryz.func40.trans (congrArg some (by kernel_rfl))
 f169:=Tryz.func45.trans (congrArg some (by kernel_rfl))
 f240:=Tryz.func81.trans (congrArg some (by kernel_rfl))
 f241:=Tryz.func136.trans (congrArg some (by kernel_rfl))
 f276:=Tryz.func131.trans (congrArg some (by kernel_rfl))
 f277:=Tryz.func201.trans (congrArg some (by kernel_rfl))
 t0:=Tryz.underlying0
 a0:=Tryz.isAgg0
 z0:=Tryz.sizeOf0
 v0:=Tryz.zeroValue0
 t3:=Tryz.underlying3
 a3:=Tryz.isAgg3
 z3:=Tryz.sizeOf3
 v3:=Tryz.zeroValue3
 t4:=Tryz.underlying4
 a4:=Tryz.isAgg4
 z4:=Tryz.sizeOf4
 v4:=Tryz.zeroValue4
 t9:=Tryz.underlying9
 a9:=Tryz.isAgg9
 z9:=Tryz.sizeOf9
 v9:=Tryz.zeroValue9
 t20:=Tryz.underlying20
 a20:=Tryz.isAgg20
 z20:=Tryz.sizeOf20
 v20:=Tryz.zeroValue20
 t31:=Tryz.underlying104
 a31:=Tryz.isAgg104
 z31:=Tryz.sizeOf104
 v31:=Tryz.zeroValue104
 t37:=Tryz.underlying97
 a37:=Tryz.isAgg97
 z37:=Tryz.sizeOf97
 v37:=Tryz.zeroValue97
 t70:=Tryz.underlying96
 a70:=Tryz.isAgg96
 z70:=Tryz.sizeOf96
 v70:=Tryz.zeroValue96
 t72:=Tryz.underlying99
 a72:=Tryz.isAgg99
 z72:=Tryz.sizeOf99
 v72:=Tryz.zeroValue99
 t75:=Tryz.underlying39
 a75:=Tryz.isAgg39
 z75:=Tryz.sizeOf39
 v75:=Tryz.zeroValue39
 t76:=Tryz.underlying100
 a76:=Tryz.isAgg100
 z76:=Tryz.sizeOf100
 v76:=Tryz.zeroValue100
 t127:=Tryz.underlying157
 a127:=Tryz.isAgg157
 z127:=Tryz.sizeOf157
 v127:=Tryz.zeroValue157
 t164:=Tryz.underlying212
 a164:=Tryz.isAgg212
 z164:=Tryz.sizeOf212
 v164:=Tryz.zeroValue212}
def Tryz.itoaL_ren:Go.Shelf.Ren:=⟨λ|171=>43|243=>83|246=>82|283=>132|284=>133|285=>134|286=>135|129=>181|317=>197|318=>198|319=>199|320=>200|337=>257|338=>258|n=>n,λ|3=>3|9=>9|2=>2|4=>4|171=>214|0=>0|53=>215|37=>97|5=>5|173=>218|212=>261|51=>250|20=>20|213=>262|46=>202|232=>323|233=>324|n=>n,λ|17=>0|18=>2|19=>3|n=>n⟩
theorem Tryz.itoaL:Go.Proofs.LaysM.n171 Tryz.prog Tryz.itoaL_ren:={
 mixed:=by kernel_rfl
 f129:=Tryz.func181.trans (congrArg some (by kernel_rfl))
 f171:=Tryz.func43.trans (congrArg some (by kernel_rfl))
 f243:=Tryz.func83.trans (congrArg some (by kernel_rfl))
 f246:=Tryz.func82.trans (congrArg some (by kernel_rfl))
 f283:=Tryz.func132.trans (congrArg some (by kernel_rfl))
 f284:=Tryz.func133.trans (congrArg some (by kernel_rfl))
 f285:=Tryz.func134.trans (congrArg some (by kernel_rfl))
 f286:=Tryz.func135.trans (congrArg some (by kernel_rfl))
 f317:=Tryz.func197.trans (congrArg some (by kernel_rfl))
 f318:=Tryz.func198.trans (congrArg some (by kernel_rfl))
 f319:=Tryz.func199.trans (congrArg some (by kernel_rfl))
 f320:=Tryz.func200.trans (congrArg some (by kernel_rfl))
 f337:=Tryz.func257.trans (congrArg some (by kernel_rfl))
 f338:=Tryz.func258.trans (congrArg some (by kernel_rfl))
 t0:=Tryz.underlying0
 a0:=Tryz.isAgg0
 z0:=Tryz.sizeOf0
 v0:=Tryz.zeroValue0
 t2:=Tryz.underlying2
 a2:=Tryz.isAgg2
 z2:=Tryz.sizeOf2
 v2:=Tryz.zeroValue2
 t3:=Tryz.underlying3
 a3:=Tryz.isAgg3
 z3:=Tryz.sizeOf3
 v3:=Tryz.zeroValue3
 t4:=Tryz.underlying4
 a4:=Tryz.isAgg4
 z4:=Tryz.sizeOf4
 v4:=Tryz.zeroValue4
 t5:=Tryz.underlying5
 a5:=Tryz.isAgg5
 z5:=Tryz.sizeOf5
 v5:=Tryz.zeroValue5
 t9:=Tryz.underlying9
 a9:=Tryz.isAgg9
 z9:=Tryz.sizeOf9
 v9:=Tryz.zeroValue9
 t20:=Tryz.underlying20
 a20:=Tryz.isAgg20
 z20:=Tryz.sizeOf20
 v20:=Tryz.zeroValue20
 t37:=Tryz.underlying97
 a37:=Tryz.isAgg97
 z37:=Tryz.sizeOf97
 v37:=Tryz.zeroValue97
 t46:=Tryz.underlying202
 a46:=Tryz.isAgg202
 z46:=Tryz.sizeOf202
 v46:=Tryz.zeroValue202
 t51:=Tryz.underlying250
 a51:=Tryz.isAgg250
 z51:=Tryz.sizeOf250
 v51:=Tryz.zeroValue250
 t53:=Tryz.underlying215
 a53:=Tryz.isAgg215
 z53:=Tryz.sizeOf215
 v53:=Tryz.zeroValue215
 t171:=Tryz.underlying214
 a171:=Tryz.isAgg214
 z171:=Tryz.sizeOf214
 v171:=Tryz.zeroValue214
 t173:=Tryz.underlying218
 a173:=Tryz.isAgg218
 z173:=Tryz.sizeOf218
 v173:=Tryz.zeroValue218
 t212:=Tryz.underlying261
 a212:=Tryz.isAgg261
 z212:=Tryz.sizeOf261
 v212:=Tryz.zeroValue261
 t213:=Tryz.underlying262
 a213:=Tryz.isAgg262
 z213:=Tryz.sizeOf262
 t232:=Tryz.underlying323
 a232:=Tryz.isAgg323
 z232:=Tryz.sizeOf323
 v232:=Tryz.zeroValue323
 t233:=Tryz.underlying324
 a233:=Tryz.isAgg324
 z233:=Tryz.sizeOf324
 v233:=Tryz.zeroValue324
 g17:=by kernel_rfl
 g18:=by kernel_rfl
 g19:=by kernel_rfl
 i0:=by kernel_rfl
 i2:=by kernel_rfl
 i3:=by kernel_rfl
 i4:=by kernel_rfl
 i5:=by kernel_rfl
 i9:=by kernel_rfl
 i20:=by kernel_rfl
 i37:=by kernel_rfl
 i46:=by kernel_rfl
 i51:=by kernel_rfl
 i53:=by kernel_rfl
 i171:=by kernel_rfl
 i173:=by kernel_rfl
 i212:=by kernel_rfl
 i232:=by kernel_rfl
 i233:=by kernel_rfl
 m17:=by kernel_rfl
 m18:=by kernel_rfl
 m19:=by kernel_rfl}
end Go.Proofs
end
section
namespace Go.Gr
open Go
def bs(l:List UInt8):ByteArray:=⟨l.toArray⟩
theorem HU(a b:List UInt8):bs a++bs b=bs (a++b):=by
 apply ByteArray.ext
 rw[ByteArray.data_append]
 simp[bs]
theorem Em(a:List UInt8):(bs a).size=a.length:=by simp[bs,ByteArray.size]
theorem lH {a b:List UInt8}(h:bs a=bs b):a=b:=by
 have:=congrArg (λx:ByteArray=>x.data.toList) h
 simpa[bs]using this
def nmB:Nat->List UInt8
 |0=>[119,111,114,107]
 |1=>[100,101,108,105,118,101,114]
 |2=>[100,111,117,98,108,101]
 |3=>[99,114,97,115,104]
 |4=>[112,97,115,115]
 |_=>[102,105,110,105,115,104]
def lnB(k n:Nat):List UInt8:=if k<4 then nmB k++32::Lib.decDigits n else nmB k
theorem nT(c:UInt8)(r:List UInt8):∀a:List UInt8,c∉a->Lib.index (a++c::r) [c]=a.length
 |[],_=>by simp[Lib.index,List.isPrefixOf]
 |
  b::a,h=>by
  have h1:¬c=b:=λe=>h (e▸.head _)
  have ih:=nT c r a (λe=>h (.tail _ e))
  rw[AT,Lib.index,ih]
  have h2:((a.length:Int)==-1)=false:=by rw[beq_eq_false_iff_ne];omega
  simp[List.isPrefixOf,h1,h2]
theorem nZ(c:UInt8)(a r:List UInt8)(h:c∉a):Lib.cut (a++c::r) [c]=(a,r,true):=by
 unfold Lib.cut
 rw[nT c r a h,if_pos (by omega)]
 simp
theorem TN {c:UInt8} {a r a' r':List UInt8}(h:c∉a)(h':c∉a')(e:a++c::r=a'++c::r'):a=a'/\r=r':=by
 have:=congrArg (λx=>Lib.cut x [c]) e
 simp only[nZ c _ _ h,nZ c _ _ h',Prod.mk.injEq,and_true]at this
 exact this
theorem Qy {n:Nat}(h:n<10):(UInt8.ofNat (48+n)).toNat=48+n:=by
 rw[UInt8.toNat_ofNat'];omega
theorem AAi:∀n:Nat,∀c∈Lib.decDigits n,48<=c.toNat/\c.toNat<=57:=by
 intro n
 induction n using Nat.strongRecOn with
 |
  _ n ih=>
  intro c hc
  rw[Lib.decDigits]at hc
  split at hc
  ·rw[As]at hc
   rw[hc,Qy (by omega)];omega
  ·rcases Ag.1 hc with h|h
   ·exact ih (n/10) (by omega) c h
   ·rw[As]at h
    rw[h,Qy (by omega)];omega
theorem AEM(n:Nat):Lib.decDigits n≠[]:=by
 rw[Lib.decDigits]
 split<;>simp
def val:List UInt8->Nat
 |[]=>0
 |c::l=>(c.toNat-48)*10^l.length+val l
theorem lY(c:UInt8):∀l:List UInt8,val (l++[c])=val l*10+(c.toNat-48)
 |[]=>by simp[val]
 |
  d::l=>by
  simp only[AT,val,lY c l,Ah,BE,Nat.pow_succ]
  rw[CV,Nat.mul_assoc,Hv]
theorem uN:∀n:Nat,val (Lib.decDigits n)=n:=by
 intro n
 induction n using Nat.strongRecOn with
 |
  _ n ih=>
  rw[Lib.decDigits]
  split
  ·simp only[val,Bt,Qy (by omega:n<10)];omega
  ·rw[lY,ih (n/10) (by omega),Qy (by omega)];omega
theorem ACl(n:Nat)(h:n<=999999):(Lib.decDigits n).length<=6:=by
 rw[Lib.decDigits_length]
 rcases BL 6 (Lib.nDigits n)with h1|h1
 ·exfalso
  have h2:∀k m:Nat,k<Lib.nDigits m->10^k<=m\/k=0:=by
   intro k
   induction k with
   |zero=>intro m _;exact .inr rfl
   |
    succ k ih=>
    intro m hm
    left
    by_cases h10:m<10
    ·rw[Lib.nDigits_small h10]at hm;omega
    ·rw[Lib.nDigits_big h10]at hm
     rcases ih (m/10) (by omega)with h3|h3
     ·rw[Nat.pow_succ]
      have:=Hi 10 h3
      omega
     ·subst h3;omega
  rcases h2 6 n h1 with h3|h3
  ·omega
  ·omega
 ·exact h1
def AES(p:Nat×Nat):Prop:=p.1<6/\p.2<=999999/\(3<p.1->p.2=0)
def ADb(b:List UInt8)(p:Nat×Nat):Prop:=AES p/\b=lnB p.1 p.2
inductive Pars:List UInt8->List (Nat×Nat)->Bool->Prop
 |nil:Pars [] [] true
 |line {b:List UInt8} {p:Nat×Nat} {r:List UInt8} {l:List (Nat×Nat)} {ok:Bool}:ADb b p->Pars r l ok->Pars (b++10::r) (p::l) ok
 |bad {b r:List UInt8}:10∉b->(∀p,¬ADb b p)->Pars (b++10::r) [] false
 |last {b:List UInt8}:10∉b->b≠[]->Pars b [] false
end Go.Gr
end
section
namespace Go.Sx
open Go
theorem MQ {a b:ByteArray} {K:Prop}(h:a.size+b.size<=9223372036854775807)(hK:K):a.size+b.size<=9223372036854775807/\K:=⟨h,hK⟩
theorem oH {ds:List Da} {i:Nat} {d:Da} {n:Int} {K:Nat->Da->Prop}(hx:ds[i]? =some d)(hn:n=i)(hK:K i d):∃(j:Nat) (d:Da),n=j/\ds[j]? =some d/\K j d:=⟨i,d,hn,hx,hK⟩
end Go.Sx
end
section
namespace Go.Proofs.YtjpmmkodoeipmaaGreatDoor
open Go.Sx Go.RowKit Go.Reg Go.Gr
set_option maxRecDepth 100000
theorem ABY {C:Cx} {O:List Nat} {w:World} {p:Nat×Da}(h:Glob C O w)(hp:p∈C.Γ):∃c,RepC O w p.2 c/\Fv w p.1 0 c/\∃cs t fr,w.heap[p.1]? =some (.cells cs t fr)/\cs.size=gsz p.2:=by
 obtain⟨⟨cs,h1,h2⟩,_,h3⟩:=h p hp
 simp only[RepC]at h1
 obtain⟨b,o,c,rfl,_,_,h4,h5⟩:=h1
 simp only[Ea,AAW,Value.pointer.injEq,AB,Addr.mk.injEq,and_true]at h2
 obtain⟨h6,rfl⟩:=h2
 subst h6
 exact⟨c,h4,h5,h3⟩
theorem UO {O:List Nat} {w:World} {k:IntKind}:∀{l:List Int} {c:List Value},RepCs O w (l.map (Da.int k)) c->c=l.map (Value.int k)
 |[],c,h=>by simpa only[Bu,RepCs]using h
 |
  x::l,c,h=>by
  simp only[Ar,RepCs,RepC]at h
  obtain⟨c1,c2,rfl,rfl,h⟩:=h
  rw[UO h];rfl
theorem uS {P:Program} {C:Cx} {O:List Nat} {w:World} {g:Nat} {k:IntKind} {l:List Int} {name:String}(h:Glob C O w)(hp:(g,.agg (l.map (Da.int k)))∈C.Γ)(hn:P.globalNamed name=some g):Lib.TabIs P w name k l:=by
 obtain⟨c,h1,h2,cs,t,fr,h3,h4⟩:=ABY h hp
 simp only[RepC]at h1
 have hc:=UO h1
 subst hc
 unfold Lib.TabIs World.var?
 rw[hn,RR]
 rw[h3]
 simp only[AB]
 have hsz:cs.size=l.length:=by rw[h4];simp[gsz]
 apply Array.ext
 ·simp[hsz]
 ·intro i h5 h6
  have:=h2 i (Value.int k (l[i]'(by omega))) (by rw[Ad,Ab (by omega)];rfl)
  simp only[World.cell?,h3,DT]at this
  rw[BS h5]at this
  simpa using this
theorem PE {O:List Nat} {w:World} {s:ByteArray} {v:Value}(h:Rep O w (.str s) v):v=.string s:=by
 obtain⟨cs,h1,rfl⟩:=h
 simp only[RepC]at h1
 subst h1;rfl
end Go.Proofs.YtjpmmkodoeipmaaGreatDoor
end
section
namespace Go.Gr
theorem cW {n:Nat} {E:List Edg} {i:Nat} {e:Edg}(hx:E[i]? =some e)(h1:0<=min e.a e.b/\max e.a e.b<n)(h2:e.a<e.b)(h3:i=0\/∃q,E[i-1]? =some q/\Cy q e<0):Y5 n E i=none:=by
 unfold Y5
 rw[hx]
 simp only[AAA]
 unfold Y4
 rw[if_neg (λh=>h h1),if_neg (by omega)]
 rcases h3 with h3|⟨q,h3,h4⟩
 ·rw[if_pos h3]
 ·by_cases h0:i=0
  ·rw[if_pos h0]
  ·rw[if_neg h0,h3]
   simp only
   rw[if_pos h4]
theorem ACh {n:Nat} {E:List Edg} {i:Nat} {e:Edg}(hx:E[i]? =some e)(h1:¬(0<=min e.a e.b/\max e.a e.b<n)):Y5 n E i=some (3,i):=by
 unfold Y5
 rw[hx]
 simp only
 unfold Y4
 rw[if_pos h1];rfl
theorem AAd {n:Nat} {E:List Edg} {i:Nat} {e:Edg}(hx:E[i]? =some e)(h1:0<=min e.a e.b/\max e.a e.b<n)(h2:e.b<=e.a):Y5 n E i=some (2,i):=by
 unfold Y5
 rw[hx]
 simp only
 unfold Y4
 rw[if_neg (λh=>h h1),if_pos h2];rfl
theorem sX {n:Nat} {E:List Edg} {i:Nat} {e q:Edg}(hx:E[i]? =some e)(h1:0<=min e.a e.b/\max e.a e.b<n)(h2:e.a<e.b)(h0:i≠0)(hq:E[i-1]? =some q)(h3:¬Cy q e<0):Y5 n E i=some (2,i):=by
 unfold Y5
 rw[hx]
 simp only
 unfold Y4
 rw[if_neg (λh=>h h1),if_neg (by omega),if_neg h0,hq]
 simp only
 rw[if_neg h3];rfl
theorem Y3 {n:Nat} {E:List Edg} {i:Nat} {y:Int×Nat}(h:∀k,k<i->Y5 n E k=none)(hi:Y5 n E i=some y):sW n E=some y:=by
 have hl:i<E.length:=by
  rcases BL i E.length with h|h
  ·exact h
  ·unfold Y5 at hi
   rw[AI h]at hi
   cases hi
 exact S3 h hi hl
theorem ACg {n:Nat} {E:List Edg}(h:∀k,k<E.length->Y5 n E k=none):sW n E=none:=MK h
theorem W9 {n:Nat} {E:List Edg} {i:Nat}(h:∀k,k<i->Y5 n E k=none)(hi:Y5 n E i=none):∀k,k<i+1->Y5 n E k=none:=by
 intro k hk
 rcases BL k i with hl|hl
 ·exact h k hl
 ·have:k=i:=by omega
  subst this;exact hi
def AEa(E:List Edg)(x y:Int):Bool:=E.any λe=>decide (e.a=x/\e.b=y\/e.a=y/\e.b=x)
def kV(E:List Edg)(e:Edg):Int:=match E.findIdx? (λx=>decide (x=e))with
 |none=>-1
 |some i=>i
theorem ACf {E:List Edg} {e:Edg} {i:Nat}(h:∀k x,k<i->E[k]? =some x->x≠e)(hx:E[i]? =some e):kV E e=i:=by
 have:E.findIdx? (λx=>decide (x=e))=some i:=by
  rw[Ba]
  obtain⟨h1,h2⟩:=Ae.1 hx
  refine⟨h1,by simp[h2],λj hj=>?_⟩
  have:=h j _ hj (Ab (by omega))
  simpa using this
 unfold kV;rw[this]
theorem ACe {E:List Edg} {e:Edg}(h:∀k x,k<E.length->E[k]? =some x->x≠e):kV E e=-1:=by
 have:E.findIdx? (λx=>decide (x=e))=none:=by
  rw[Be]
  intro x hx
  obtain⟨i,hi,rfl⟩:=C4.1 hx
  simpa using h i _ hi (Ab hi)
 unfold kV;rw[this]
theorem AAc {E:List Edg} {e:Edg}:(0<=kV E e)↔e∈E:=by
 unfold kV
 cases h:E.findIdx? (λx=>decide (x=e))with
 |
  none=>
  rw[Be]at h
  refine⟨λh=>by simp at h,λhe=>?_⟩
  have:=h e he
  simp at this
 |
  some i=>
  rw[Ba]at h
  obtain⟨h1,h2,_⟩:=h
  refine⟨λ_=>?_,λ_=>by simp⟩
  have h2:E[i]=e:=by simpa using h2
  rw[<-h2];exact Bc h1
end Go.Gr
namespace Go.Proofs.YtjpmmkodoeipmaaGreatDoor
open Go.Sx Go.RowKit Go.Reg Go.Gr
set_option maxRecDepth 100000
def xA:List (Nat×Plan):=[(9,.leaf [0,1,0,1,0,0,0,0,0,0,1,0,0,0,1,1,2,0,0,0,0] [0,2,1,3,4,5,6,7,8,9,11,12,10,13,14,15,16,17,18,19,20] [0,1,0,4,15,31,63,127,255,511,1023,511,2559,8191,16383,511,65535,131071,262143,524287,1048575])]
def ADk:List FuncId:=[34,166]
set_option maxHeartbeats 4000000 in
theorem EM(p:Pt)(hm:p.labels.length<=9223372036854775807)(hme:p.edges.length<=9223372036854775807):Pure C1 113 [FE p] (λy=>y=Mf p):=by
 have hdl:(p.labels.map dI).length=p.labels.length:=Ac _
 have hde:(p.edges.map dE).length=p.edges.length:=Ac _
 have hlb:=PN p.labels hm
 refine AW Tryz.func113 Tryz.ntmps113 ADk xA ?_
 cases hl:M6 p.labels with
 |
  some x=>
  obtain⟨c,i⟩:=x
  have e1:Gy p.labels=dF c i (if c=6 then qS else bF):=by unfold Gy;rw[hl]
  have e2:Mf p=dF c i (if c=6 then qS else bF):=by unfold Mf;rw[hl]
  rw[e1]at hlb
  rw[e2]
  (conv=>whnf)
  (repeat' ((first|refine Aj ?_ ?_|refine Af rfl hlb ?_|refine nx ?_|refine AD (λ_=>?_) (λ_=>?_)|exact AG)<;>conv=>whnf))
  exact rfl
 |
  none=>
  have e1:Gy p.labels=.nili:=by unfold Gy;rw[hl]
  rw[e1]at hlb
  have e2:Mf p=match sW p.labels.length p.edges with|none=>.nili|some (c,i)=>dF c i zZ:=by unfold Mf;rw[hl];try rfl
  rw[e2]
  (conv=>whnf)
  (repeat' ((first|refine Aj ?_ ?_|refine Af rfl hlb ?_|refine nx ?_|refine AD (λ_=>?_) (λ_=>?_)|exact AG)<;>conv=>whnf))
  refine AR (ι:=Nat) (λi=>i<=p.edges.length/\∀k,k<i->Y5 p.labels.length p.edges k=none) (λi=>[(15,.d (.int .i64 i)),(14,.d (.int .i64 p.edges.length)),(13,.d (Fa p.edges)),(1,.own 1)]) (λ_=>[(1,.cells 54 [.d (Bn p.labels),.d (Fa p.edges)])]) (λi=>p.edges.length-i) 0 (λ_=>rfl) ⟨Am _,(by intro k h;omega)⟩ (.refl _ _) ⟨rfl,by rw[<-hde];rfl,rfl,rfl,trivial⟩ ⟨rfl,trivial⟩ ?_
  rintro i ⟨hi,hok⟩
  refine Cd ADk xA ?_
  by_cases hil:i<p.edges.length
  ·have hx:=Ab hil
   generalize p.edges[i]=e at hx
   have hxd:(p.edges.map dE)[i]? =some (.agg [.int .i64 e.a,.int .i64 e.b]):=by rw[Ad,hx];rfl
   have hwi:=RV e p.labels.length
   rw[<-hdl]at hwi
   by_cases h1:0<=min e.a e.b/\max e.a e.b<p.labels.length
   ·rw[decide_eq_true (by rw[hdl];exact h1)]at hwi
    by_cases h2:e.a<e.b
    ·by_cases h0:i=0
     ·subst h0
      (conv=>whnf)
      (repeat' ((first|refine Aj ?_ ?_|refine AP hxd rfl ?_|refine Af rfl hwi ?_|refine nx ?_|refine AD (λ_=>?_) (λ_=>?_)|exact AG)<;>conv=>whnf))
      exact⟨0+1,_,_,⟨by omega,W9 hok (cW hx h1 h2 (.inl rfl))⟩,.refl _ _,⟨rfl,rfl,rfl,rfl,trivial⟩,⟨rfl,trivial⟩,by omega⟩
     ·have hy:=Ab (l:=p.edges) (i:=i-1) (by omega)
      generalize p.edges[i-1]'(by omega)=q at hy
      have hyd:(p.edges.map dE)[i-1]? =some (.agg [.int .i64 q.a,.int .i64 q.b]):=by rw[Ad,hy];rfl
      have hor:=Mn q e
      by_cases h3:Cy q e<0
      ·(conv=>whnf)
       (repeat' ((first|refine Aj ?_ ?_|refine AP hxd rfl ?_|refine Af rfl hwi ?_|refine AP hyd (by omega) ?_|refine Af rfl hor ?_|refine nx ?_|refine AD (λ_=>?_) (λ_=>?_)|exact AG)<;>conv=>whnf))
       exact⟨i+1,_,_,⟨by omega,W9 hok (cW hx h1 h2 (.inr ⟨q,hy,h3⟩))⟩,.refl _ _,⟨rfl,rfl,rfl,rfl,trivial⟩,⟨rfl,trivial⟩,by omega⟩
      ·rw[Y3 hok (sX hx h1 h2 h0 hy h3)]
       (conv=>whnf)
       (repeat' ((first|refine Aj ?_ ?_|refine AP hxd rfl ?_|refine Af rfl hwi ?_|refine AP hyd (by omega) ?_|refine Af rfl hor ?_|refine Af rfl (CG 2 i zZ) ?_|refine nx ?_|refine AD (λ_=>?_) (λ_=>?_)|exact AG)<;>conv=>whnf))
       exact rfl
    ·rw[Y3 hok (AAd hx h1 (by omega))]
     (conv=>whnf)
     (repeat' ((first|refine Aj ?_ ?_|refine AP hxd rfl ?_|refine Af rfl hwi ?_|refine Af rfl (CG 2 i zZ) ?_|refine nx ?_|refine AD (λ_=>?_) (λ_=>?_)|exact AG)<;>conv=>whnf))
     exact rfl
   ·rw[decide_eq_false (by rw[hdl];exact h1)]at hwi
    rw[Y3 hok (ACh hx h1)]
    (conv=>whnf)
    (repeat' ((first|refine Aj ?_ ?_|refine AP hxd rfl ?_|refine Af rfl hwi ?_|refine Af rfl (CG 3 i zZ) ?_|refine nx ?_|refine AD (λ_=>?_) (λ_=>?_)|exact AG)<;>conv=>whnf))
    exact rfl
  ·rw[ACg (λk hk=>hok k (by omega))]
   ((conv=>whnf);repeat' ((first|refine odw ?_|refine nx ?_|refine AD (λ_=>?_) (λ_=>?_))<;>conv=>whnf))
   exact rfl
def wU:List (Nat×Plan):=[(4,.leaf [1,0,0,0,1,3] [1,2,3,0,4,5] [0,0,0,6,14,31])]
theorem cU(E:List Edg)(e:Edg)(hm:E.length<=9223372036854775807):Pure C1 299 [Fa E,dE e] (λy=>y=.int .i64 (kV E e)):=by
 have hde:(E.map dE).length=E.length:=Ac _
 refine AW Tryz.func299 Tryz.ntmps299 [] wU ?_
 ((conv=>whnf);repeat' ((first|refine odw ?_|refine nx ?_|refine AD (λ_=>?_) (λ_=>?_))<;>conv=>whnf))
 refine AR (ι:=Nat) (λi=>i<=E.length/\∀k x,k<i->E[k]? =some x->x≠e) (λi=>[(8,.d (.int .i64 i)),(7,.d (.int .i64 E.length)),(3,.own 3),(0,.d (Fa E))]) (λ_=>[(3,.cells 90 [.d (.int .i64 e.a),.d (.int .i64 e.b)])]) (λi=>E.length-i) 0 (λ_=>rfl) ⟨Am _,(by intro k x h;omega)⟩ (.refl _ _) ⟨rfl,by rw[<-hde];rfl,rfl,rfl,trivial⟩ ⟨rfl,trivial⟩ ?_
 rintro i ⟨hi,hok⟩
 refine Cd [] wU ?_
 by_cases hil:i<E.length
 ·have hx:=Ab hil
  generalize E[i]=x at hx
  have hxd:(E.map dE)[i]? =some (.agg [.int .i64 x.a,.int .i64 x.b]):=by rw[Ad,hx];rfl
  by_cases hxe:x=e
  ·subst hxe
   rw[ACf hok hx]
   (conv=>whnf)
   (repeat' ((first|refine Aj ?_ ?_|refine AP hxd rfl ?_|refine nx ?_|refine AD (λ_=>?_) (λ_=>?_)|exact AG)<;>conv=>whnf))
   exact rfl
  ·have hne:¬(e.a=x.a/\e.b=x.b):=λh=>hxe (by cases x;cases e;simp only at h;rw[h.1,h.2])
   (conv=>whnf)
   (repeat' ((first|refine Aj ?_ ?_|refine AP hxd rfl ?_|refine nx ?_|refine AD (λ_=>?_) (λ_=>?_)|exact AG)<;>conv=>whnf))
   refine⟨i+1,_,_,⟨by omega,λk y hk hy=>?_⟩,.refl _ _,⟨rfl,rfl,rfl,rfl,trivial⟩,⟨rfl,trivial⟩,by omega⟩
   rcases BL k i with hl|hl
   ·exact hok k y hl hy
   ·have:k=i:=by omega
    subst this
    rw[hx]at hy;cases hy;exact hxe
 ·rw[ACe (λk x hk hx=>hok k x (by omega) hx)]
  ((conv=>whnf);repeat' ((first|refine odw ?_|refine nx ?_|refine AD (λ_=>?_) (λ_=>?_))<;>conv=>whnf))
  exact rfl
theorem Vm(E:List Edg)(e:Edg)(hm:E.length<=9223372036854775807):Pure C1 298 [Fa E,dE e] (λy=>y=.bool (decide (e∈E))):=by
 have h:=cU E e hm
 refine AW Tryz.func298 Tryz.ntmps298 [] [] ?_
 (conv=>whnf)
 (repeat' ((first|refine Aj ?_ ?_|refine Af rfl h ?_|refine nx ?_|refine AD (λ_=>?_) (λ_=>?_)|exact AG)<;>conv=>whnf))
 exact congrArg Da.bool (decide_eq_decide.2 AAc)
def ADC:List (Nat×Plan):=[(1,.leaf [0,1,0,0,0,2,2,0] [0,2,3,4,1,5,6,7] [0,1,0,0,12,28,63,127])]
def AFg:List FuncId:=[221,298]
theorem Wt(p:Pt)(a b:Int)(hme:p.edges.length<=9223372036854775807):Pure C1 296 [FE p,.int .i64 a,.int .i64 b] (λy=>y=.bool (decide (turn ⟨a,b⟩∈p.edges))):=by
 have h1:=Lg ⟨a,b⟩
 have h2:=Vm p.edges (turn ⟨a,b⟩) hme
 refine AW Tryz.func296 Tryz.ntmps296 AFg ADC ?_
 (conv=>whnf)
 (repeat' ((first|refine Aj ?_ ?_|refine Af rfl h1 ?_|refine Af rfl h2 ?_|refine nx ?_|refine AD (λ_=>?_) (λ_=>?_)|exact AG)<;>conv=>whnf))
 exact rfl
theorem Fq {p:Pt}(h:Dp p=none):Mf p=.nili:=by
 unfold Dp at h
 unfold Mf
 split at h
 ·cases h
 ·rename_i hl
  rw[hl]
  simp only
  rw[h]
end Go.Proofs.YtjpmmkodoeipmaaGreatDoor
end
section
namespace Go.Gr
open Go
theorem Ip(n:Nat):Lib.itoa n=Lib.decDigits n:=by
 unfold Lib.itoa
 rw[if_neg (by omega)];simp
theorem Gf {n:Int}(h0:0<=n)(h1:n<=999999):(Lib.itoa n).length<=6:=by
 obtain⟨k,rfl⟩:=A6 h0
 rw[Ip]
 exact ACl k (by omega)
theorem Io(x y:List UInt8)(r:List (List UInt8))(sep:List UInt8):Lib.join (x::y::r) sep=x++(sep++Lib.join (y::r) sep):=by
 simp[Lib.join,List.intercalate]
theorem Jp {m:Nat}(sep:List UInt8):∀xs:List (List UInt8),(∀x∈xs,x.length<=m)->(Lib.join xs sep).length<=xs.length*(m+sep.length)
 |[],_=>by rw[Lib.join_nil];simp
 |
  [x],h=>by
  have:=h x (.head _)
  rw[Lib.join_one,BE];omega
 |
  x::y::r,h=>by
  have h1:=Jp sep (y::r) (λz hz=>h z (.tail _ hz))
  have h2:=h x (.head _)
  rw[Io,Ah,Ah,Aw,CV,Nat.one_mul];omega
def JW(e:Edg):List UInt8:=Lib.itoa e.a++45::Lib.itoa e.b
def DW(p:Pt):List UInt8:=Lib.join (p.labels.map Lib.itoa) [44]++124::Lib.join (p.edges.map JW) [44]
end Go.Gr
namespace Go.Proofs.YtjpmmkodoeipmaaGreatDoor
open Go.Sx Go.RowKit Go.Reg Go.Gr Go.Shelf
set_option maxRecDepth 100000
theorem ACV:Builder.Extra Tryz.prog Tryz.joinL_ren where
 sizeBuilder:=by kernel_rfl
 liesBuilder:=by kernel_rfl
 t5:=Tryz.underlying5
 a5:=by intro w;kernel_rfl
 z5:=by intro w;kernel_rfl
 v5:=by intro w;kernel_rfl
 infoByte:=by kernel_rfl
 cellsByte:=by kernel_rfl
 sizeByte:=by kernel_rfl
 neB5:=by decide
noncomputable def C3:Cx:=⟨Tryz.prog,C1.Γ++[(0,.agg (Lib.pow10Tab.map (Da.int .u64)))]⟩
theorem nF:(0,Da.agg (Lib.pow10Tab.map (Da.int .u64)))∈C3.Γ:=Av _ (.head _)
theorem I7:C3.Ok tab:=⟨EO.tab,EO.mixed⟩
section
variable {n:Nat} {c:Code}
theorem Hf {K:KE} {fr:Fr} {σ:Sg}(G:List FuncId)(pl:List (Nat×Plan))(h:En C3 tab n pl c K fr σ)(hk:CH C3.P G pl c=true:=by kernel_rfl):FB C3 n c K fr σ:=DE I7 c K fr σ hk h
theorem Oe {f:FuncId} {fn:Func} {xs:List Da} {Q:Da->Prop}(hf:C3.P.funcs[f]? =some fn)(hn:fn.ntmps=n)(G:List FuncId)(pl:List (Nat×Plan))(h:En C3 tab n pl c (J8 tab fn.results.toList (oM tab Q)) (params (Ct xs) 0) [])(hb:fn.body=some c:=by rfl)(hrun:∀(vs:Array Value) (w:World),(callFunc f vs).run C3.P w=.ok (.enter f vs) w:=by intros;kernel_rfl)(hk:CH C3.P G pl c=true:=by kernel_rfl)(hl:xs.length<=n:=by simp):Pure C3 f xs Q:=mQ I7 hf hb hn hrun hk hl h
end
theorem Pure.up3 {f:FuncId} {xs:List Da} {Q:Da->Prop}(h:Sx.Pure C1 f xs Q):Sx.Pure C3 f xs Q:=λO w vs h1 h2 h3=>h O w vs h1 (λg hg=>h2 g (Au _ hg)) h3
theorem Lu(n:Int)(h0:-9223372036854775808<=n)(h1:n<=9223372036854775807):Sx.Pure C3 43 [.int .i64 n] (λy=>y=.str (bs (Lib.itoa n))):=by
 intro O w us hO hg hr
 obtain⟨v,vs,rfl,h3,h2⟩:=Cn hr
 obtain rfl:=Ds h2
 obtain rfl:=EZ h3
 refine⟨by kernel_rfl,(Any.strconv_Itoa Tryz.itoaL n h0 h1 w (uS hg nF (by kernel_rfl))).mono ?_⟩
 rintro e w' ⟨rfl,k,os,rfl⟩
 refine⟨_,_,rfl,rfl,⟨[_],by simp only[RepC];rfl,rfl⟩,⟨rfl,rfl,rfl,by rw[Go.Sort.size_grow];exact Nat.le_add_right _ _,λb hb _=>Go.Sort.heap_grow_old (w.drewN k) os hb⟩⟩
def KY(x:List UInt8):Da:=.str (bs x)
theorem Zf {O:List Nat} {w:World}:∀{xs:List (List UInt8)} {css:List (List Value)},Aq O w (xs.map KY) css->css=xs.map λx=>[Value.string (bs x)]
 |[],css,h=>by simpa only[Bu,Aq]using h
 |
  x::xs,css,h=>by
  simp only[Ar,Aq,KY,RepC]at h
  obtain⟨c1,c2,rfl,rfl,h⟩:=h
  rw[Zf h];rfl
theorem pK(xs:List (List UInt8)):(xs.map λx=>[Value.string (bs x)]).flatten=xs.map λx=>Value.string (bs x):=by
 induction xs with
 |nil=>rfl
 |cons x xs ih=>simp only[Ar,CI,ih];rfl
theorem R0(C:Cx)(hC:C.P=Tryz.prog)(xs:List (List UInt8))(sep:List UInt8)(hN:xs.length<=1000000)(hlen:(Lib.join xs sep).length<=140737488355328):Sx.Pure C 44 [.list 1 (xs.map KY),.str (bs sep)] (λy=>y=.str (bs (Lib.join xs sep))):=by
 intro O w us hO hg hr
 obtain⟨v,vs,rfl,h3,h2⟩:=Cn hr
 obtain⟨v2,vs2,rfl,h4,h5⟩:=Cn h2
 obtain rfl:=Ds h5
 obtain rfl:=PE h4
 obtain⟨cs,r,rfl⟩:=h3
 simp only[RepC]at r
 obtain⟨a,c,css,rfl,hc,_,hcs,_,hcell⟩:=r
 have hb:∀w':World,Below w.heap.size w w'->Tch [] w w':=λw' h=>⟨h.os,h.tape,h.output,h.size,λb hb _=>h.block b hb⟩
 obtain rfl:=Zf hcs
 rw[Ac]at hc
 rw[hC]
 refine⟨by kernel_rfl,?_⟩
 show Calls Tryz.prog 44 #[.slice a (xs.map KY).length c,.string (bs sep)] w _
 rw[Ac]
 cases xs with
 |
  nil=>
  refine(Any.strings_Join_none Tryz.joinL ACV a c (bs sep) w).mono ?_
  rintro e w' ⟨rfl,rfl⟩
  exact⟨_,_,rfl,rfl,⟨[_],by simp only[RepC];rfl,rfl⟩,Tch.refl _ _⟩
 |
  cons x xs=>
  obtain⟨b,o,rfl,_,hbl,hcl⟩:=hcell.resolve_left (by simp)
  rw[pK]at hcl
  have hmap:((x::xs).map bs).map (·.data.toList)=x::xs:=by
   rw[EE]
   have:((λy:ByteArray=>y.data.toList)∘bs)=id:=by funext z;simp[bs]
   rw[this,List.map_id]
  have:=Any.strings_Join Tryz.joinL ACV b o c ((x::xs).map bs) (bs sep) w (λj y hy=>by
   refine hcl j (.string y) ?_
   rw[Ad]at hy⊢
   obtain⟨z,hz,rfl⟩:=Cl.1 hy
   rw[hz];rfl) hbl (by rw[Ac];omega) (by rw[Ac];exact hc) (by rw[hmap];exact hlen)
  rw[hmap,Ac]at this
  refine this.mono ?_
  rintro e w' ⟨rfl,h⟩
  exact⟨_,_,rfl,rfl,⟨[_],by simp only[RepC];rfl,rfl⟩,hb _ h⟩
def iF:List (Nat×Plan):=[(10,.leaf [0,0,1,2,0,0,1,2,0,6,3,0] [0,1,5,2,6,3,4,7,8,9,10,11] [0,0,2,6,14,0,32,110,254,510,1023,2047])]
def AAL:List FuncId:=[43,44]
set_option maxHeartbeats 4000000 in
theorem Lh(p:Pt)(hl:p.labels.length<=1000)(hll:∀x∈p.labels,0<=x/\x<=999999)(he:p.edges.length<=1000)(hee:∀e∈p.edges,(0<=e.a/\e.a<=999999)/\0<=e.b/\e.b<=999999):Sx.Pure C3 42 [FE p] (λy=>y=.str (bs (DW p))):=by
 have hdl:(p.labels.map dI).length=p.labels.length:=Ac _
 have hde:(p.edges.map dE).length=p.edges.length:=Ac _
 refine Oe Tryz.func42 Tryz.ntmps42 AAL iF ?_
 ((conv=>whnf);repeat' ((first|refine odw ?_|refine nx ?_|refine AD (λ_=>?_) (λ_=>?_))<;>conv=>whnf))
 refine AR (ι:=Nat) (λi=>i<=p.labels.length) (λi=>[(12,.d (.int .i64 i)),(11,.d (.int .i64 p.labels.length)),(10,.d (Bn p.labels)),(4,.d .nils),(3,.own 300),(1,.own 1)]) (λi=>[(1,.cells 54 [.d (Bn p.labels),.d (Fa p.edges)]),(300,.slice 9 1 (((p.labels.take i).map Lib.itoa).map KY))]) (λi=>p.labels.length-i) 0 (λ_=>rfl) (Am _) (.own 3 300 9 1 rfl rfl (.refl _ _)) ⟨rfl,by rw[<-hdl];rfl,rfl,rfl,rfl,rfl,trivial⟩ ⟨rfl,rfl,trivial⟩ ?_
 intro i hi
 refine Hf AAL iF ?_
 by_cases hil:i<p.labels.length
 ·have hx:=Ab hil
  have hxb:=hll _ (Bc hil)
  generalize p.labels[i]=x at hx hxb
  have hxd:(p.labels.map dI)[i]? =some (.int .i64 x):=by rw[Ad,hx];rfl
  have hit:=Lu x (by omega) (by omega)
  have hlen:(((p.labels.take i).map Lib.itoa).map KY).length=i:=by simp only[Ac,AA];omega
  (conv=>whnf)
  (repeat' ((first|refine Aj ?_ ?_|refine AP hxd rfl ?_|refine Br tab rfl hit rfl ?_|refine nx ?_|refine AD (λ_=>?_) (λ_=>?_)|exact AG)<;>conv=>whnf))
  refine⟨i+1,_,_,by omega,.refl _ _,⟨rfl,rfl,rfl,rfl,rfl,rfl,trivial⟩,⟨rfl,Bk ?_,trivial⟩,by omega⟩
  rw[Ay,hx];simp[KY]
 ·have e:p.labels.take i=p.labels:=Al (by omega)
  rw[e]
  ((conv=>whnf);repeat' ((first|refine odw ?_|refine nx ?_|refine AD (λ_=>?_) (λ_=>?_))<;>conv=>whnf))
  refine AR (ι:=Nat) (λi=>i<=p.edges.length) (λi=>[(25,.d (.int .i64 i)),(24,.d (.int .i64 p.edges.length)),(23,.d (Fa p.edges)),(4,.own 301),(3,.own 300),(1,.own 1)]) (λi=>[(1,.cells 54 [.d (Bn p.labels),.d (Fa p.edges)]),(300,.slice 9 1 ((p.labels.map Lib.itoa).map KY)),(301,.slice 9 1 (((p.edges.take i).map JW).map KY))]) (λi=>p.edges.length-i) 0 (λ_=>rfl) (Am _) (.own 4 301 9 1 rfl rfl (.refl _ _)) ⟨rfl,by rw[<-hde];rfl,rfl,rfl,rfl,rfl,trivial⟩ ⟨rfl,rfl,rfl,trivial⟩ ?_
  intro j hj
  refine Hf AAL iF ?_
  by_cases hjl:j<p.edges.length
  ·have hx:=Ab hjl
   have hxb:=hee _ (Bc hjl)
   generalize p.edges[j]=e at hx hxb
   have hxd:(p.edges.map dE)[j]? =some (.agg [.int .i64 e.a,.int .i64 e.b]):=by rw[Ad,hx];rfl
   have hia:=Lu e.a (by omega) (by omega)
   have hib:=Lu e.b (by omega) (by omega)
   have la:=Gf hxb.1.1 hxb.1.2
   have lb:=Gf hxb.2.1 hxb.2.2
   have za:=Em (Lib.itoa e.a)
   have zb:=Em (Lib.itoa e.b)
   have zc:(bs (Lib.itoa e.a)++bs [45]).size=(Lib.itoa e.a).length+1:=by rw[HU,Em];simp
   have hlen:(((p.edges.take j).map JW).map KY).length=j:=by simp only[Ac,AA];omega
   (conv=>whnf)
   (repeat' ((first|refine Aj ?_ ?_|refine AP hxd rfl ?_|refine Br tab rfl hia rfl ?_|refine Br tab rfl hib rfl ?_|refine MQ (a:=bs (Lib.itoa e.a)) (b:=bs [45]) (by rw[za];simp[Em];omega) ?_|refine MQ (a:=bs (Lib.itoa e.a)++bs [45]) (b:=bs (Lib.itoa e.b)) (by omega) ?_|refine nx ?_|refine AD (λ_=>?_) (λ_=>?_)|exact AG)<;>conv=>whnf))
   refine⟨j+1,_,_,by omega,.refl _ _,⟨rfl,rfl,rfl,rfl,rfl,rfl,trivial⟩,⟨rfl,rfl,Bk ?_,trivial⟩,by omega⟩
   have hs:KY (JW e)=.str ((bs (Lib.itoa e.a)++bs [45])++bs (Lib.itoa e.b)):=by unfold KY JW;rw[HU,HU];simp
   rw[Ay,hx,A7,A7]
   show _=_++[KY (JW e)]
   rw[hs];rfl
  ·have e:p.edges.take j=p.edges:=Al (by omega)
   rw[e]
   have l1:=Jp (m:=6) [44] (p.labels.map Lib.itoa) (λx hx=>by
    obtain⟨y,hy,rfl⟩:=An.1 hx
    exact Gf (hll y hy).1 (hll y hy).2)
   have l2:=Jp (m:=13) [44] (p.edges.map JW) (λx hx=>by
    obtain⟨y,hy,rfl⟩:=An.1 hx
    have:=hee y hy
    have h1:=Gf this.1.1 this.1.2
    have h2:=Gf this.2.1 this.2.2
    unfold JW
    rw[Ah,Aw];omega)
   rw[Ac,BE]at l1 l2
   have j1:=R0 C3 rfl (p.labels.map Lib.itoa) [44] (by rw[Ac];omega) (by omega)
   have j2:=R0 C3 rfl (p.edges.map JW) [44] (by rw[Ac];omega) (by omega)
   have z1:=Em (Lib.join (p.labels.map Lib.itoa) [44])
   have z2:=Em (Lib.join (p.edges.map JW) [44])
   have z3:(bs (Lib.join (p.labels.map Lib.itoa) [44])++bs [124]).size=(Lib.join (p.labels.map Lib.itoa) [44]).length+1:=by rw[HU,Em];simp
   (conv=>whnf)
   (repeat' ((first|refine Aj ?_ ?_|refine Dx 300 rfl ?_|refine Dx 301 rfl ?_|refine Af rfl j1 ?_|refine Af rfl j2 ?_|refine MQ (a:=bs (Lib.join (p.labels.map Lib.itoa) [44])) (b:=bs [124]) (by rw[z1];simp[Em];omega) ?_|refine MQ (a:=bs (Lib.join (p.labels.map Lib.itoa) [44])++bs [124]) (b:=bs (Lib.join (p.edges.map JW) [44])) (by omega) ?_|refine nx ?_|refine AD (λ_=>?_) (λ_=>?_)|exact AG)<;>conv=>whnf))
   show Da.plain (.str ((bs _++bs [124])++bs _))=_
   unfold DW
   rw[HU,HU]
   simp[Da.plain]
end Go.Proofs.YtjpmmkodoeipmaaGreatDoor
end
