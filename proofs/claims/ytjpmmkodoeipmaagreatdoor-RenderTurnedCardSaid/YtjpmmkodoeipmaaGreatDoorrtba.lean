/- Merged: Own Alk Lca Mrb Rdm Lct Qfw Lrl Rsl Rfr Rfq Gsm Afm Lfm Rof Rma Rlv Ble. -/
import Derived.Test.YtjpmmkodoeipmaaGreatDoorrtaz
import Derived.Test.YtjpmmkodoeipmaaGreatDoorrtat
import Derived.Test.YtjpmmkodoeipmaaGreatDoorrtav
import Derived.Test.YtjpmmkodoeipmaaGreatDoorrtar
import Derived.Test.YtjpmmkodoeipmaaGreatDoorrtax
import Derived.Test.YtjpmmkodoeipmaaGreatDoorrtay
import Derived.Test.YtjpmmkodoeipmaaGreatDoorrtas
import Derived.Test.YtjpmmkodoeipmaaGreatDoorrtaw
import Derived.Shelf.SlSortCmp.WholeK
import Derived.Test.YtjpmmkodoeipmaaGreatDoorRows
import Derived.Test.YtjpmmkodoeipmaaGreatDoorrtau
import Derived.Test.YtjpmmkodoeipmaaGreatDoorrtan
import Derived.Shelf.Strconv.Itoa4
import Derived.Lib.FrozenHead
import Derived.Lib.UnsafeStr
import Derived.Laws.Append
section
namespace Go.Proofs.YtjpmmkodoeipmaaGreatDoor
open Go.Sx Go.RowKit Go.Reg Go.Gr
set_option maxRecDepth 100000
attribute [local go_sem] Oper.semAt_some
theorem NO {F:Fence} {n:Nat} {P:Program} {w w':World} {ops:Array Oper} {rest:List Oper} {o:Oper} {a:Act} {Q:Exit->Act->World->Prop}(hg:o.guard=none)(s x:Operand)(t:TypeId)
  (hop:o.op=Op.call {callee:=Callee.builtin Builtin.append,args:=#[s,x],argTypes:=#[t,t]}) {v y v':Value} (hs:a.eval s=v) (hx:a.eval x=y) (hrun:(Builtin.append_ #[t,t] o.type #[v,y]).run P w=.ok v' w')
  (hK:wpListIn F n P ops Q rest (a.put o.dst v') w'):wpListIn F n P ops Q (o::rest) a w:=by
 refine wpListIn_plain hg λK hK'=>?_
 unfold Oper.wpIn
 refine⟨?_,?_⟩
 ·simp[Oper.about,hop,resolve,Target.leads]
 ·rw[Oper.semAt_plain F _ _ (by rw[hop];intro c hc';cases hc')]
  simp[execOp,hop,resolve,invoke,builtin,hs,hx,hrun,Result.andThen]
  exact hK' _ _ hK
theorem wI {O:List Nat} {w:World} {l:List Int} {v:Value}(h:Rep O w (DU l) v):RepC O w (DU l) [v]:=by
 obtain⟨cs,h1,rfl⟩:=h
 obtain⟨a,c,rfl,_⟩:=Hj h1
 exact h1
def AE0(b2:Nat)(O:List Nat)(W1:World)(R S:List Nat)(pre:List (List Int))(A:World):Prop:=
 (∀b∈b2::O,b∈S)/\Tch (b2::R) W1 A/\∃v css,A.heap[b2]? =some (Obj.cells #[v] 46)/\Sl 22 1 id A v css/\(∀b,v.ownBlock=some b->b∈S/\b∉R/\W1.heap.size<=b)/\Aq (S++R) A (pre.map DU) css/\∀x∈css,EN 1 x
theorem S8 {b2:Nat} {O:List Nat} {W1:World} {R S:List Nat} {pre:List (List Int)} {A B:World}(hb2:b2<W1.heap.size)(hR:∀r∈R,W1.heap.size<=r)(h:AE0 b2 O W1 R S pre A)(t:Tch R A B):AE0 b2 O W1 R S pre B:=by
 obtain⟨h1,h2,v,css,h3,h4,h5,h6,h7⟩:=h
 exact⟨h1,h2.trans0 (t.mono (by simp+contextual)),v,css,Ho t h3 (λhm=>by have:=hR _ hm;omega),h4.keep t (λb hb=>(h5 b hb).2.1),h5,Aq.later (Tch.later (t.mono (T:=S++R) (by simp+contextual))) _ _ h6,h7⟩
set_option maxHeartbeats 1000000 in
theorem lF(xs:List (List Int))(hxs:xs.length<=1000000) {O:List Nat} {w:World} {fv:Value}(hO:∀b∈O,b<w.heap.size)
  (hseq:∀(O':List Nat) (l:Nat) (W:World),Later O w O' W->(∀b∈O',b<W.heap.size)->oI C1 fv xs O' l W):
  CallsIn Fence.wide 4 Tryz.prog 278 #[.slice none 0 0,fv] w λe B=>∃v,e=.returned v/\Rep O B (.list 1 (xs.map DU)) v/\Tch [] w B:=by
 refine callsIn_of_wp_marks (n:=4) Tryz.func278 rfl trivial ?_ rfl
 simp only[Tryz.ntmps278,BD,Ax,Br,Nat.reduceAdd,Nat.reduceSub,CW,CV,DA,Dg,BC,AV]
 gi_wp2
 obtain⟨W1,hW1⟩:∃W1,w.alloc (Obj.cells #[Value.slice none 0 0] 46)=W1:=⟨_,rfl⟩
 have T1:Tch [] w W1:=by rw[<-hW1];exact Tch.alloc _ _ _
 have H2:W1.heap[w.heap.size]? =some (Obj.cells #[Value.slice none 0 0] 46):=by rw[<-hW1];exact World.alloc_heap_new _ _
 rw[hW1]
 clear hW1
 obtain⟨b2,hb2⟩:∃b,w.heap.size=b:=⟨_,rfl⟩
 rw[hb2]at H2
 simp only[hb2]
 have hb2lt:=(Al.1 H2).1
 have hs1:=T1.size
 have hO1:∀b∈b2::O,b<W1.heap.size:=λb hb=>by
  rcases Ai.1 hb with rfl|hb
  ·exact hb2lt
  ·have:=hO b hb;omega
 refine Tn (C:=C1) xs (b2::O) hO1 rfl (λV t hs=>?_) (AE0 b2 O W1) (λ_ _ _ _=>False) (λR S pre A B hR h t=>S8 hb2lt hR h t) (λ_ _ _ _ _ _ h _=>h)
  (λR V hR t=>⟨λb hb=>hb,t.mono (by simp),_,[],BU t H2,Sl.nil _ _ _ _,(λb hb=>by cases hb),by simp[Aq],by simp⟩) ?_ ?_ (λ_ _ _ _ _ _ _ _ _ _ h=>h.elim)
 ·exact hseq _ _ _ (N7 (T1.then0 t) (λx hx=>by
   rcases Ai.1 hx with rfl|hx
   ·left;omega
   rcases Ai.1 hx with rfl|hx
   ·left;omega
   rcases Ai.1 hx with rfl|hx
   ·left;omega
   ·exact .inr hx)) (λb hb=>by
   rcases Ai.1 hb with rfl|hb
   ·omega
   rcases Ai.1 hb with rfl|hb
   ·omega
   ·have:=hO1 b hb;omega)
 ·intro l R S pre x v A hl hlR hR hSA hSR hI hpx hrep hsz hRA
  rw[show C1.P=Tryz.prog from rfl]
  obtain⟨av,cv,rfl,_,_⟩:=Dx hrep
  gi_wp2
  refine⟨Tch.refl _ _,λA2 TA2=>?_⟩
  have hI:=S8 hb2lt hR hI (TA2.mono (T:=R) (by simpa using hlR))
  have hrep2:=DL (TA2.mono (T:=S++R) (by simp[hlR])) hrep
  have hSA2:∀b∈S,b<A2.heap.size:=λb hb=>Bv (hSA b hb) TA2.size
  have hRA2:∀r∈R,r<A2.heap.size:=λr hr=>Bv (hRA r hr) TA2.size
  clear hrep TA2 hsz
  obtain⟨h1,tA,u,css,g2,hsl,hown,hcss,hrow⟩:=hI
  have c2:A2.cell? ⟨b2,0,none⟩=some u:=by simp only[World.cell?,g2];rfl
  have hb2S:b2∈S:=h1 b2 (by simp)
  have hpl:pre.length<=1000000:=by
   have:=hpx.length_le
   simp only[Ah,B8]at this
   omega
  have hcl:css.length=pre.length:=by rw[Q2 hcss,Ac]
  have hcx:=wI hrep2
  have TA1:Tch [] A2 (A2.alloc (Obj.cells #[Value.slice av x.length cv] 22)):=Tch.alloc _ _ _
  have hslA:=hsl.keep TA1 (λb _=>by simp)
  have hcellA:(A2.alloc (Obj.cells #[Value.slice av x.length cv] 22)).cell? ⟨A2.heap.size,0,none⟩=some (Value.slice av x.length cv):=by
   simp only[World.cell?]
   rw[World.alloc_heap_new];rfl
  obtain⟨v',A4,css2,ha1,ha2,ha3,ha4,ha5,ha6⟩:=L1 (P:=Tryz.prog) (w:=A2.alloc (Obj.cells #[Value.slice av x.length cv] 22)) (v:=u) (vy:=.slice (some ⟨A2.heap.size,0,none⟩) 1 1) (EM.ty (t:=46) rfl) rfl (EM.ty (t:=22) rfl) (by decide) (by decide) hslA
   (O:=S++R) (es:=[DU x]) ⟨⟨_,_,[[Value.slice av x.length cv]],rfl,by
    simp only[Aq]
    refine⟨[Value.slice av x.length cv],[],rfl,?_,rfl⟩
    have h9:=RepC.later (Tch.later (Tch.up (O:=S++R) TA1)) _ _ hcx
    exact h9,by intro y hy;simp at hy;subst hy;exact⟨rfl,by intro z hz;simp at hz;subst hz;rfl⟩,.inr ⟨A2.heap.size,0,rfl,λj z hj=>by
     cases j with
     |zero=>simp at hj;subst hj;exact hcellA
     |succ j=>simp at hj⟩⟩⟩ (by rw[hcl];exact BI (m:=1000001) (by simp;omega) (by decide)) 46
  have hne:css++css2≠[]:=λe=>by
   have:=Q2 ha3
   rw[(List.append_eq_nil_iff.1 e).2]at this
   simp at this
  rcases ha2.shape with⟨_,e⟩|⟨gv,cap,rfl,_⟩
  ·exact absurd e hne
  have e9:(css++css2).length=pre.length+css2.length:=by rw[Ah,hcl]
  rw[e9]at ha1 ha2 ha6
  have g2A:A4.heap[b2]? =some (Obj.cells #[u] 46):=Ho ha5 (BU TA1 g2) (λhm=>by
   have h9:u.ownBlock=some b2:=by simpa using hm
   have:=(hown b2 h9).2.2;omega)
  have c2A:A4.cell? ⟨b2,0,none⟩=some u:=by simp only[World.cell?,g2A];rfl
  have f2A:A4.frozen? ⟨b2,0,none⟩=false:=by simp[World.frozen?,g2A]
  have hgv:gv∈S\/A2.heap.size<=gv:=by
   rcases ha6 with h|h
   ·exact .inl (hown gv h.symm).1
   ·right
    have:gv=(A2.alloc (Obj.cells #[Value.slice av x.length cv] 22)).heap.size:=by simpa[Value.ownBlock]using h
    rw[this];simp
  have hgvR:gv∉R:=λhm=>by
   rcases hgv with h|h
   ·exact hSR gv h hm
   ·have:=hRA2 gv hm;omega
  have hgvW:W1.heap.size<=gv:=by
   rcases ha6 with h|h
   ·exact(hown gv h.symm).2.2
   ·rcases hgv with h2|h2
    ·have:gv=(A2.alloc (Obj.cells #[Value.slice av x.length cv] 22)).heap.size:=by simpa[Value.ownBlock]using h
     rw[this];have:=tA.size;simp;omega
    ·have:=tA.size;omega
  have hgv2:¬b2=gv:=by omega
  have TA4:Tch S A2 A4:=(Tch.up TA1).trans0 (ha5.mono (λb hb=>by
   have:u.ownBlock=some b:=by simpa using hb
   exact(hown b this).1))
  have hgvlt:gv<A4.heap.size:=ha2.lt rfl
  gi_wp2_with (gi_at_builtin;refine NO rfl _ _ _ rfl rfl rfl ha1 ?_)
  obtain⟨vN,hvN⟩:∃vN,Value.slice (some ⟨gv,0,none⟩) (pre.length+css2.length) cap=vN:=⟨_,rfl⟩
  have hvo:vN.ownBlock=some gv:=by rw[<-hvN];rfl
  rw[hvN]at ha2
  simp only[hvN]
  have TS:Tch [b2] A4 (A4.setCell ⟨b2,0,none⟩ vN):=(Tch.refl [b2] A4).andSet (.inl (by simp)) _
  have T24:Tch S A2 (A4.setCell ⟨b2,0,none⟩ vN):=TA4.trans0 (TS.mono (by simpa using hb2S))
  have hgr:Grow S A2 (gv::S) (A4.setCell ⟨b2,0,none⟩ vN):=⟨T24,λb hb=>by simp[hb],λb hb=>by
   rcases Ai.1 hb with rfl|hb
   ·exact hgv
   ·exact .inl hb,λb hb=>by
   rcases Ai.1 hb with rfl|hb
   ·exact Bv hgvlt TS.size
   ·exact Bv (hSA2 b hb) T24.size⟩
  have LS:Later (S++R) A2 (gv::S++R) (A4.setCell ⟨b2,0,none⟩ vN):=⟨T24.size,λb hb hn=>T24.blk b hb (λhm=>hn (Av _ hm)),λb hn hb hm=>by
   simp only[AV,Ai,Ag]at hm
   rcases hm with rfl|hm|hm
   ·rcases hgv with h|h
    ·exact hn (Av _ h)
    ·omega
   ·exact hn (Av _ hm)
   ·exact hn (Aw _ hm)⟩
  have hgvA:gv∈S\/(A2.alloc (Obj.cells #[Value.slice av x.length cv] 22)).heap.size<=gv:=by
   rcases ha6 with h|h
   ·exact .inl (hown gv h.symm).1
   ·right
    have:gv=(A2.alloc (Obj.cells #[Value.slice av x.length cv] 22)).heap.size:=by simpa[Value.ownBlock]using h
    omega
  have L2:Later (S++R) (A2.alloc (Obj.cells #[Value.slice av x.length cv] 22)) (gv::S++R) (A4.setCell ⟨b2,0,none⟩ vN):=⟨BI ha5.size TS.size,λb hb hn=>by
   rw[TS.blk b (Bv hb ha5.size) (λhm=>hn (Av _ (by rw[As.1 hm];exact hb2S)))]
   exact ha5.blk b hb (λhm=>hn (Av _ (hown b (by simpa using hm)).1)),λb hn hb hm=>by
   simp only[AV,Ai,Ag]at hm
   rcases hm with rfl|hm|hm
   ·rcases hgvA with h|h
    ·exact hn (Av _ h)
    ·omega
   ·exact hn (Av _ hm)
   ·exact hn (Aw _ hm)⟩
  have TX:Tch (b2::u.ownBlock.toList) A2 (A4.setCell ⟨b2,0,none⟩ vN):=((Tch.up TA1).trans0 (ha5.mono (by simp+contextual))).trans0 (TS.mono (by simp))
  refine⟨gv::S,hgr,λb hb=>AA _ (h1 b hb),?_,vN,css++css2,Boxed.set vN g2A,ha2.keep TS (λb hb=>by
   rw[hvo]at hb;cases hb;simp;omega),λb hb=>by
   rw[hvo]at hb;cases hb;exact⟨by simp,hgvR,hgvW⟩,?_,λy hy=>by
   rcases Ag.1 hy with hy|hy
   ·exact hrow y hy
   ·exact ha4 y hy⟩
  ·exact tA.trans TX (λ_ h=>h) (λb hb=>by
    rcases Ai.1 hb with rfl|hb
    ·left;simp
    ·right;exact(hown b (by simpa using hb)).2.2)
  ·rw[A7]
   exact FH (Aq.later LS _ _ hcss) (Aq.later L2 _ _ ha3)
 ·intro D R S V hD hDR hR hSR hI ht hDef
  obtain⟨h1,tV,u,css,g2,hsl,hown,hcss,hrow⟩:=hI
  have c2:V.cell? ⟨b2,0,none⟩=some u:=by simp only[World.cell?,g2];rfl
  gi_wp2
  have TE:Tch (b2::R) W1 (V.putObj D (.deferred none)):=tV.trans0 ((DE _ _ _).mono (by simp[hDR]))
  have TP:Tch R V (V.putObj D (.deferred none)):=(DE _ _ _).mono (by simp[hDR])
  refine⟨by simp,.inl ⟨D,_,rfl,run_takeDeferred hDef,?_⟩⟩
  refine⟨_,results_tmp rfl _ _ _,u,rfl,?_,T1.trans TE (λ_ h=>h) (λb hb=>by
   rcases Ai.1 hb with rfl|hb
   ·right;omega
   ·right;have:=hR b hb;omega)⟩
  have LX:Later (S++R) V O (V.putObj D (.deferred none)):=⟨TP.size,λb hb hn=>TP.blk b hb (λhm=>hn (Aw _ hm)),λb hn _ hm=>hn (Av _ (h1 b (by simp[hm])))⟩
  exact Re (hsl.keep TP (λb hb=>(hown b hb).2.1)) (λb hb hm=>by have:=(hown b hb).2.2;have:=hO b hm;omega) (Aq.later LX _ _ hcss) hrow
theorem ABK(p q:Pt)(h8:p.labels.length<=8):(Es p q).length<=40320:=by
 by_cases hl:p.labels.length=q.labels.length
 ·have h1:(Es p q).length<=(lJ p.labels.length).length:=FI (Ll p q) (λo ho=>by
   unfold Es at ho
   exact Qd.2 ((Mx hl.symm).1 (A0.1 ho).1).1)
  rw[eQ]at h1
  refine BI h1 ?_
  have:∀n,n<=8->Y1 n<=40320:=by decide
  exact this _ h8
 ·rw[aP hl];simp
theorem YA {p q:Pt}(hp:Dk p=none)(hq:Dk q=none)(hE:p.edges.length<=1000)(hE':q.edges.length<=1000):Pure C1 250 [nG p q] (λy=>y=.list 1 ((Es p q).map DU)):=by
 intro O w vs hO hg hr
 obtain⟨fv,vs',rfl,hv,hr'⟩:=Cg hr
 obtain rfl:=Dv hr'
 have h8:=(CQ (BK hp).1).1
 have ha:=lF (Es p q) (BI (ABK p q h8) (by decide)) (fv:=fv) hO (λO' l W hL hO'=>yX hp hq hE hE' hO' (Gd hL hg) (hv.later hL))
 refine⟨by kernel_rfl,?_⟩
 show Calls Tryz.prog _ _ _ _
 refine callsIn_wide.1 (callsIn_of_wp (n:=5) Tryz.func250 rfl trivial ?_ rfl)
 simp only[Tryz.ntmps250,BD,Ax,Br,Nat.reduceAdd,Nat.reduceSub,CW,CV,DA,Dg,BC,AV]
 gi_wp2
 refine⟨trivial,ha.mono ?_⟩
 rintro e B ⟨v,rfl,hr,t⟩
 gi_wp2
 go_ret
 exact⟨v,_,rfl,rfl,hr,t⟩
def AF8:List FuncId:=[113,251,250]
theorem xV {p:Pt}(hp:Dk p=none)(hE:p.edges.length<=1000):Pure C1 185 [FC p] (λy=>y=.tuple [.list 1 ((Es p p).map DU),.nili]):=by
 have hri:=EK p (by have:=(CQ (BK hp).1).1;omega) (by omega)
 rw[Fm hp]at hri
 have hm:=rR p p
 have hc:=YA hp hp hE hE
 refine AU Tryz.func185 Tryz.ntmps185 AF8 [] ?_
 (conv=>whnf)
 (repeat' ((first|refine Aj ?_ ?_|refine Af rfl hri ?_|refine Af rfl hm ?_|refine Af rfl hc ?_|refine nx ?_|refine AB (λ_=>?_) (λ_=>?_)|exact AE)<;>conv=>whnf))
 exact rfl
end Go.Proofs.YtjpmmkodoeipmaaGreatDoor
end
section
namespace Go.Proofs.YtjpmmkodoeipmaaGreatDoor
open Go.Sx Go.RowKit Go.Reg Go.Gr
set_option maxRecDepth 100000
theorem Si {p:Pt}(hp:Dk p=none):PtOk p.labels.length p:=⟨rfl,(BK hp).2.1,(BK hp).2.2⟩
theorem UY {p:Pt}(hp:Dk p=none):(Ce p).labels.length=p.labels.length/\(Ce p).edges.length=p.edges.length:=by
 obtain⟨_,h1,h2,_⟩:=GW (Si hp)
 rw[h2]
 exact⟨EY _ _,Hg h1 (Si hp)⟩
def AFA:List FuncId:=[168,10]
theorem ABQ {p:Pt}(hp:Dk p=none)(hE:p.edges.length<=1000):Pure C1 184 [FC p] (λy=>y=.bool (decide (Ce p=p))):=by
 have h1:=R6 p hp hE
 have l1:=(CQ (BK hp).1).1
 obtain⟨f1,f2⟩:=UY hp
 have hc:=Hl (Ce p) p (by omega) (by omega) (by omega) (by omega)
 refine AU Tryz.func184 Tryz.ntmps184 AFA [] ?_
 by_cases h:Ce p=p
 ·rw[show D4 (Ce p) p=0 from(Ij.eq0 _ _).2 h]at hc
  rw[decide_eq_true h]
  (conv=>whnf)
  (repeat' ((first|refine Aj ?_ ?_|refine Af rfl h1 ?_|refine Af rfl hc ?_|refine nx ?_|refine AB (λ_=>?_) (λ_=>?_)|exact AE)<;>conv=>whnf))
  exact rfl
 ·have h0:D4 (Ce p) p≠0:=λe=>h ((Ij.eq0 _ _).1 e)
  generalize D4 (Ce p) p=z at hc h0
  rw[decide_eq_false h]
  (conv=>whnf)
  (repeat' ((first|refine Aj ?_ ?_|refine Af rfl h1 ?_|refine Af rfl hc ?_|refine nx ?_|refine AB (λ_=>?_) (λ_=>?_)|exact AE)<;>conv=>whnf))
  exact congrArg Da.bool (decide_eq_false h0)
end Go.Proofs.YtjpmmkodoeipmaaGreatDoor
end
section
namespace Go.Proofs.YtjpmmkodoeipmaaGreatDoor
open Go.Sx Go.RowKit Go.Reg Go.Gr
set_option maxRecDepth 100000
theorem AAe {n:Nat} {p:Pt}(hp:PtOk n p)(h8:n<=8):p.edges.length<=64:=by
 have hd:DecidableEq Edg:=λx y=>decidable_of_iff (C2 x y=0) (YB x y)
 have h:=FI hp.strict.nodup (m:=(List.range 8).flatMap λa:Nat=>(List.range 8).map λb:Nat=>(⟨(a:Int),(b:Int)⟩:Edg)) (λe he=>by
  obtain⟨i,j,hij,hj,rfl⟩:=Qy (hp.edge e he)
  exact AL.2 ⟨i,AN.2 (by omega),An.2 ⟨j,AN.2 (by omega),rfl⟩⟩)
 refine BI h ?_
 rw[MD (k:=8) (λx _=>by simp)]
 simp
theorem Kk {p:Pt}(hp:Dk p=none):p.edges.length<=64:=AAe (Si hp) (CQ (BK hp).1).1
end Go.Proofs.YtjpmmkodoeipmaaGreatDoor
end
section
namespace Go.Gr
open Go.Proofs.YtjpmmkodoeipmaaGreatDoor
theorem TJ {l:List Int}(h:l.Nodup):(D3 l).length=l.length:=by
 have h1:=U2 (OA (BG l).1) λx hx=>((BG l).2 x).1 hx
 have h2:=U2 h λx hx=>((BG l).2 x).2 hx
 omega
theorem xW {n:Nat} {p:Pt}(hp:PtOk n p)(h8:n<=8):(Es p p).length<=40320:=by
 obtain⟨c,hc⟩:=ABB hp
 have:=ACe n h8
 have hpos:=cI n
 cases c with
 |zero=>omega
 |succ c=>rw[CT,Nat.one_mul]at hc;omega
theorem ZR(p:Pt)(X:List (List Int)):(Jw p X).length=X.length*(Es p p).length:=MD λx _=>by rw[Ac]
def JF(o:List Int)(i v:Nat):Bool:=(List.range i).any λj=>decide (pl o j=v)
theorem ND {o:List Int} {i v:Nat}:JF o i v=true↔∃j,j<i/\pl o j=v:=by
 unfold JF;rw[Ct];simp
theorem kQ(o:List Int)(i v:Nat):JF o (i+1) v=(JF o i v||decide (v=pl o i)):=by
 rw[CJ,Dj,ND,ND,decide_eq_true_eq]
 constructor
 ·rintro⟨j,hj,e⟩
  rcases BN j i with h|h
  ·exact .inl ⟨j,h,e⟩
  ·rw[show j=i by omega]at e;exact .inr e.symm
 ·rintro(⟨j,hj,e⟩|e)
  ·exact⟨j,by omega,e⟩
  ·exact⟨i,by omega,e.symm⟩
theorem AAl {n:Nat} {o:List Int}(ho:C6 n o) {i:Nat}(hi:i<n):JF o i (pl o i)=false:=by
 cases h:JF o i (pl o i)with
 |false=>rfl
 |
  true=>
  obtain⟨j,hj,e⟩:=ND.1 h
  have:=OC ho (show j<n by omega) hi e
  omega
theorem tE {n:Nat} {o:List Int}(ho:C6 n o)(v:Nat)(hv:v<n):JF o n v=true:=by
 obtain⟨j,hj,e⟩:=Lg ho hv
 exact ND.2 ⟨j,hj,e⟩
theorem kP(o:List Int)(v:Nat):JF o 0 v=false:=rfl
end Go.Gr
end
section
namespace Go.Proofs.YtjpmmkodoeipmaaGreatDoor
open Go.Sx Go.RowKit Go.Reg Go.Gr
set_option maxRecDepth 100000
theorem ocN(s:List Int):Oc (dN s):=by
 rcases Vq s with h|h<;>rw[h]
 ·exact ABG
 ·exact Gn _ _
def tF(F:Pt)(O S:List (List Int)):AbsD:=cT 210 22 (Bh F.labels) (ET F.edges) (dLL O) (S.map dN)
theorem ocS(S:List (List Int)):∀s∈S.map dN,Oc s:=λs hs=>by
 obtain⟨x,_,rfl⟩:=An.1 hs
 exact ocN x
def xK:List (Nat×Plan):=[(9,.leaf [1,0,0,1,0,2,0,6,0,0] [1,2,0,3,4,5,6,7,8,9] [0,0,0,4,12,28,63,127,255,511])]
def ADs:List FuncId:=[183,184,185]
theorem ACt:CI Tryz.prog ADs xK (Tryz.f126.body.getD .skip)=true:=by kernel_rfl
theorem ABu(vs:Array Value)(w:World):(callFunc 126 vs).run C1.P w=.ok (.enter 126 vs) w:=by kernel_rfl
theorem ACl {F:Pt}(hF:Dk F=none)(hFF:Ce F=F)(h0:F.labels≠[]):DY C3 126 [.d (FC F)] [] [] (λd σ=>d=.tuple [.own 900,.d .nili]/\σ=[(900,(tF F (Es F F) (Et F.labels.length (Jw F []))).own)]):=by
 have hE:=Kk hF
 have h8:=(CQ (BK hF).1).1
 have hri2:=Pure.up3 (aF hF h0 (by omega) (by omega))
 have his:=Pure.up3 (ABQ hF (by omega))
 rw[decide_eq_true hFF]at his
 have hown:=Pure.up3 (xV hF (by omega))
 have hdF0:(F.labels.map dI).length=F.labels.length:=Ac _
 have hst:List.replicate F.labels.length Da.nils=(Et F.labels.length (Jw F [])).map dN:=by
  refine BY λv=>?_
  rw[Ad]
  by_cases hv:v<F.labels.length
  ·rw[AAs hv,show Jw F []=[]from rfl,AAt,List.getElem?_replicate,if_pos hv];rfl
  ·rw[AI (by rw[B9];omega),AI (by rw[NF];omega)];rfl
 refine Me Iv (pl:=xK) (G:=ADs) Tryz.func126 rfl Tryz.ntmps126 ABu ACt (by simp) 999 rfl ?_
 intro vs
 (conv=>whnf)
 (repeat' ((first|refine Aj ?_ ?_|refine Af rfl hri2 ?_|refine Af rfl his ?_|refine Af rfl hown ?_|refine Mv F.labels.length (by omega) (by omega) (by omega) ?_|refine nx ?_|refine AB (λ_=>?_) (λ_=>?_)|exact AE)<;>conv=>whnf))
 exact⟨_,_,[(31,900)],[(31,(tF F (Es F F) (Et F.labels.length (Jw F []))).own)],QE.domClose (ss:=(Et F.labels.length (Jw F [])).map dN) 31 29 (Gn _ _) (Gn _ _) (Gn _ _) (ocS _) (by decide) rfl (by rw[<-hst];rfl),rfl,⟨rfl,trivial⟩,rfl,rfl,rfl⟩
def XU:List (Nat×Plan):=[(11,.leaf [0,0,0,1,0,0,0,1,0,0,0,1,0,0,0,1,0,1,0,2,0,3] [0,1,2,4,5,6,8,9,10,12,13,14,18,3,7,11,15,16,17,19,20,21] [0,1,3,7,0,0,48,112,0,256,768,1792,0,0,12288,28672,65280,130816,0,524032,1048575,2097151])]
def oM:List FuncId:=[144,186]
theorem ACs:CI Tryz.prog oM XU (Tryz.f127.body.getD .skip)=true:=by kernel_rfl
theorem ABt(vs:Array Value)(w:World):(callFunc 127 vs).run C1.P w=.ok (.enter 127 vs) w:=by kernel_rfl
set_option maxHeartbeats 4000000 in
theorem AAk(F:Pt) {n:Nat} {O Y:List (List Int)} {L:List Int}(hn:n<=8)(hLn:L.length=n)(hLd:L.Nodup)(hOl:O.length<=40320)(hOo:∀o∈O,C6 n o)(hYl:Y.length<=800000000):
  DY C3 127 [.own 900,.d (Bh L)] [(900,(tF F O (Et n Y)).own)] [900] (λd σ=>d=.d .nili/\σ=[(900,(tF F O (Et n (Y++O.map λo=>JR o L))).own)]):=by
 have hdL:(L.map dI).length=L.length:=Ac _
 have hso:=Pure.up3 (PV L (by omega))
 have hsl:((D3 L).map dI).length=L.length:=by rw[Ac,TJ hLd]
 have hcn:((Et n Y).map dN).length=n:=by rw[Ac,NF]
 have hdO:(O.map DU).length=O.length:=Ac _
 refine mN Iv (pl:=XU) (G:=oM) Tryz.func127 rfl Tryz.ntmps127 ABt ACs (by simp) 999 rfl ?_
 intro vs
 refine⟨_,_,QE.domOpen 900 901 (Gn _ _) (Gn _ _) (Gn _ _) (ocS _) rfl rfl,?_⟩
 (conv=>whnf)
 (repeat' ((first|refine Aj ?_ ?_|refine Af rfl hso ?_|refine nx ?_|refine AB (λ_=>?_) (λ_=>?_)|exact AE)<;>conv=>whnf))
 refine aQ (ι:=Nat) (λa=>a<=O.length) (λa=>[(36,.d (.int .i64 a)),(35,.d (.int .i64 O.length)),(34,.d (.list 1 (O.map DU))),(1,.d (Bh L)),(0,.own 900)]) (λa=>[(900,.cells 210 [.d (FC F),.d (.list 1 (O.map DU)),.own 901]),(999,.ghost vs [.own 900]),(901,.slice 22 1 ((Et n (Y++(O.take a).map λo=>JR o L)).map dN))]) (λa=>O.length-a) 0 (λ_=>rfl) (Am _) .refl ⟨rfl,by rw[<-hdO];rfl,rfl,rfl,rfl,trivial⟩ ⟨rfl,rfl,Bj (by rw[List.take_zero,Bt,Cq]),trivial⟩ ?_
 intro a ha
 refine GZ oM XU ?_
 by_cases hal:a<O.length
 ·have ho:=Ab hal
  have hom:=hOo _ (AZ hal)
  generalize O[a]=o at ho hom
  have hod:(O.map DU)[a]? =some (Bh o):=by rw[Ad,ho];rfl
  have hta:(O.take (a+1)).map (λo=>JR o L)=(O.take a).map (λo=>JR o L)++[JR o L]:=by rw[Au,ho,A7];rfl
  have hol:o.length=n:=hom.1
  have hdo:(o.map dI).length=o.length:=Ac _
  have hYa:(Y++(O.take a).map λo=>JR o L).length<=900000000:=by
   rw[Ah,Ac,A8];omega
  have hYn:(Y++(O.take (a+1)).map λo=>JR o L)=(Y++(O.take a).map λo=>JR o L)++[JR o L]:=by rw[hta,Bk]
  generalize (Y++(O.take a).map λo=>JR o L)=Z at hYa hYn⊢
  (conv=>whnf)
  (repeat' ((first|refine Aj ?_ ?_|refine AO hod rfl ?_|refine nx ?_|refine AB (λ_=>?_) (λ_=>?_)|exact AE)<;>conv=>whnf))
  refine AQ (ι:=Nat) (λi=>i<=n) (λi=>[(42,.d (.int .i64 i)),(41,.d (.int .i64 L.length)),(40,.d (Bh L)),(6,.d (Bh o)),(36,.d (.int .i64 a)),(35,.d (.int .i64 O.length)),(34,.d (.list 1 (O.map DU))),(1,.d (Bh L)),(0,.own 900)]) (λi=>[(900,.cells 210 [.d (FC F),.d (.list 1 (O.map DU)),.own 901]),(999,.ghost vs [.own 900]),(901,.slice 22 1 ((Qb n Z (JR o L) (JF o i)).map dN))]) (λi=>n-i) 0 (λ_=>rfl) (Am _) (.refl _ _) ⟨rfl,by rw[<-hdL];rfl,rfl,rfl,rfl,rfl,rfl,rfl,rfl,trivial⟩ ⟨rfl,rfl,Bj (by rw[iT _ _ _ (λv _=>kP o v)]),trivial⟩ ?_
  intro i hi
  refine GZ oM XU ?_
  by_cases hil:i<n
  ·have hy:=Ab (l:=L) (i:=i) (by omega)
   generalize L[i]'(by omega)=v at hy
   have hyd:(L.map dI)[i]? =some (.int .i64 v):=by rw[Ad,hy];rfl
   have hpi:=J6 hom hil
   have hpl:=GU hom hil
   have hpd:(o.map dI)[i]? =some (.int .i64 (pl o i:Nat)):=by rw[Ad,hpi];rfl
   have hmv:=yQ hom hLn hil
   rw[hy]at hmv
   have hno:=AAl hom hil
   have hstp:=congrArg (List.map dN) (rO (k:=n) (Y:=Z) (done:=JF o i) (done':=JF o (i+1)) hmv (λu _=>kQ o i u))
   rw[Dz,AES (ACB _ _)]at hstp
   have hud:((Qb n Z (JR o L) (JF o i)).map dN)[pl o i]? =some (dN (Jp Z (pl o i))):=by
    rw[Ad,Yj hpl,hno];rfl
   have hul:((Qb n Z (JR o L) (JF o i)).map dN).length=n:=by rw[Ac,Qa]
   have had:=Pure.up3 (vX (Jp Z (pl o i)) (NG _ _) (by have:=dA Z (pl o i);omega) v)
   generalize (Qb n Z (JR o L) (JF o i)).map dN=U at hstp hud hul⊢
   generalize pl o i=w at hstp hud had hpd hpl
   generalize hX2:dN (Jp Z w)=xd at hud had
   have hxx:=Vq (Jp Z w)
   rw[hX2]at hxx
   rcases hxx with rfl|rfl<;>(conv=>whnf)<;>(repeat' ((first|refine Aj ?_ ?_|refine AO hyd rfl ?_|refine AO hpd rfl ?_|refine GY (i:=w) rfl (by omega) ?_|refine GX hud ?_|refine Af rfl had ?_|refine nx ?_|refine AB (λ_=>?_) (λ_=>?_)|exact AE)<;>conv=>whnf))
   all_goals exact⟨i+1,_,_,hil,.refl _ _,⟨rfl,rfl,rfl,rfl,rfl,rfl,rfl,rfl,rfl,trivial⟩,⟨rfl,rfl,Bj hstp,trivial⟩,by omega⟩
  ·have hie:i=n:=by omega
   subst hie
   rw[yU _ _ _ (λv hv=>tE hom v hv)]
   ((conv=>whnf);repeat' ((first|refine odw ?_|refine nx ?_|refine AB (λ_=>?_) (λ_=>?_))<;>conv=>whnf))
   exact⟨a+1,_,_,hal,.refl,⟨rfl,rfl,rfl,rfl,rfl,trivial⟩,⟨rfl,rfl,Bj (by rw[hYn]),trivial⟩,by omega⟩
 ·have hOe:O.take a=O:=Ak (by omega)
  rw[hOe]
  (conv=>whnf)
  ((conv=>whnf);repeat' ((first|refine odw ?_|refine nx ?_|refine AB (λ_=>?_) (λ_=>?_))<;>conv=>whnf))
  exact⟨_,_,[],[(900,(tF F O (Et n (Y++O.map λo=>JR o L))).own)],QE.domClose 900 901 (Gn _ _) (Gn _ _) (Gn _ _) (ocS _) (by decide) rfl rfl,rfl,⟨rfl,trivial⟩,rfl,rfl,rfl⟩
def JP(y:Pt×List (List Int)):AbsD:=tF y.1 (Es y.1 y.1) (Et y.1.labels.length (Jw y.1 y.2))
theorem Xo {F:Pt}(hF:Dk F=none)(W:List (List Int))(hW:W.length<=10000) {L:List Int}(hLn:L.length=F.labels.length)(hLd:L.Nodup):
  DY C3 127 [.own 900,.d (Bh L)] [(900,(JP (F,W)).own)] [900] (λd σ=>d=.d .nili/\σ=[(900,(JP (F,W++[L])).own)]):=by
 have hp:=Si hF
 have h8:=(CQ (BK hF).1).1
 have hO:=xW hp h8
 have:=AAk F (n:=F.labels.length) (O:=Es F F) (Y:=Jw F W) h8 hLn hLd hO (λo ho=>ABA hp ho) (by
  rw[ZR]
  exact BI (DN hW hO) (by decide))
 rw[show Jw F W++(Es F F).map (λo=>JR o L)=Jw F (W++[L])by unfold Jw;rw[Cy];simp]at this
 exact this
def ADM:List (Nat×Plan):=[(3,.leaf [0,0,0,0,1,2,0,0,0,0,1,2,0,3] [0,1,2,3,6,7,8,9,4,10,5,11,12,13] [0,1,3,7,15,31,0,64,192,448,960,2047,4095,8191])]
def AF6:List FuncId:=[88,114]
theorem tD(F:Pt)(O S:List (List Int))(hl:F.labels.length<=1000)(he:F.edges.length<=1000):Pure C1 76 [dD F O S] (λy=>y=FC F):=by
 have h1:(F.labels.map dI).length=F.labels.length:=Ac _
 have hc1:=It F.labels (by omega)
 have hc2:=RB F.edges (by omega)
 refine AU Tryz.func76 Tryz.ntmps76 AF6 ADM ?_
 (conv=>whnf)
 (repeat' ((first|refine Aj ?_ ?_|refine Jr 11 rfl rfl hc1 ?_|refine Jr 17 rfl rfl hc2 ?_|refine nx ?_|refine AB (λ_=>?_) (λ_=>?_)|exact AE)<;>conv=>whnf))
 exact rfl
end Go.Proofs.YtjpmmkodoeipmaaGreatDoor
end
section
namespace Go.Proofs.YtjpmmkodoeipmaaGreatDoor
open Go.Sx Go.RowKit Go.Reg Go.Gr
set_option maxRecDepth 100000
theorem AEl {p q:Pt}(hp:Dk p=none)(hq:Dk q=none):Pure C1 10 [FC p,FC q] (λy=>y=.int .i64 (D4 p q)):=by
 have h1:=(CQ (BK hp).1).1
 have h2:=(CQ (BK hq).1).1
 have h3:=Kk hp
 have h4:=Kk hq
 exact Hl p q (by omega) (by omega) (by omega) (by omega)
end Go.Proofs.YtjpmmkodoeipmaaGreatDoor
end
section
namespace Go.Proofs.YtjpmmkodoeipmaaGreatDoor
open Go.Sx Go.RowKit Go.Reg Go.Gr
set_option maxRecDepth 100000
theorem AEU:Dk ⟨[-1],[]⟩=some (3,0):=by decide
def AFj:List FuncId:=[168,182,20]
theorem gS {p:Pt}(hp:Dk p=none)(l:List Int)(hl:l.length=p.labels.length):Pure C1 125 [FC p,Bh l] (λy=>y=.tuple [FC (Ce p),Bh (JR (Nl p) l),.nili]):=by
 have hE:=Kk hp
 have hf:=R6 p hp (by omega)
 obtain⟨_,hB,_⟩:=GW (Si hp)
 have h8:=(CQ (BK hp).1).1
 have hpu:=PS (Nl p) l (by have:=hB.1;omega)
 rw[show qJ (Nl p) l=.tuple [Bh (JR (Nl p) l),.nili]by
  unfold qJ
  rw[if_neg (by rw[(Yc (by rw[hB.1];exact h8)).2 (by rw[hB.1];exact hB)];decide),if_pos (hB.1.trans hl.symm)];rfl]at hpu
 refine AU Tryz.func125 Tryz.ntmps125 AFj [] ?_
 (conv=>whnf)
 (repeat' ((first|refine Aj ?_ ?_|refine Af rfl hf ?_|refine Af rfl hpu ?_|refine nx ?_|refine AB (λ_=>?_) (λ_=>?_)|exact AE)<;>conv=>whnf))
 exact rfl
end Go.Proofs.YtjpmmkodoeipmaaGreatDoor
end
section
namespace Go.Proofs
open Go.Shelf
def Tryz.sortN_ren:Go.Shelf.Ren:=⟨λ|6=>77|15=>124|14=>130|28=>180|29=>181|20=>189|21=>190|22=>191|23=>192|24=>193|25=>194|26=>195|27=>196|46=>254|47=>245|48=>246|49=>255|50=>256|57=>282|n=>n,λ|22=>45|24=>56|25=>153|3=>3|39=>202|0=>0|53=>250|55=>215|4=>4|46=>243|45=>242|50=>247|5=>5|9=>9|66=>293|70=>297|76=>318|77=>112|n=>n,λ|n=>n⟩
theorem Tryz.sortN:Go.Proofs.SlLaysF0.n6 Tryz.prog Tryz.sortN_ren:={
 mixed:=by kernel_rfl
 f6:=⟨Tryz.f77.name,by decide,Tryz.func77.trans (congrArg some (by kernel_rfl))⟩
 f14:=⟨Tryz.f130.name,by decide,Tryz.func130.trans (congrArg some (by kernel_rfl))⟩
 f15:=Tryz.func124.trans (congrArg some (by kernel_rfl))
 f20:=⟨Tryz.f189.name,by decide,Tryz.func189.trans (congrArg some (by kernel_rfl))⟩
 f21:=⟨Tryz.f190.name,by decide,Tryz.func190.trans (congrArg some (by kernel_rfl))⟩
 f22:=⟨Tryz.f191.name,by decide,Tryz.func191.trans (congrArg some (by kernel_rfl))⟩
 f23:=⟨Tryz.f192.name,by decide,Tryz.func192.trans (congrArg some (by kernel_rfl))⟩
 f24:=⟨Tryz.f193.name,by decide,Tryz.func193.trans (congrArg some (by kernel_rfl))⟩
 f25:=⟨Tryz.f194.name,by decide,Tryz.func194.trans (congrArg some (by kernel_rfl))⟩
 f26:=⟨Tryz.f195.name,by decide,Tryz.func195.trans (congrArg some (by kernel_rfl))⟩
 f27:=⟨Tryz.f196.name,by decide,Tryz.func196.trans (congrArg some (by kernel_rfl))⟩
 f28:=Tryz.func180.trans (congrArg some (by kernel_rfl))
 f29:=Tryz.func181.trans (congrArg some (by kernel_rfl))
 f46:=⟨Tryz.f254.name,by decide,Tryz.func254.trans (congrArg some (by kernel_rfl))⟩
 f47:=Tryz.func245.trans (congrArg some (by kernel_rfl))
 f48:=Tryz.func246.trans (congrArg some (by kernel_rfl))
 f49:=⟨Tryz.f255.name,by decide,Tryz.func255.trans (congrArg some (by kernel_rfl))⟩
 f50:=⟨Tryz.f256.name,by decide,Tryz.func256.trans (congrArg some (by kernel_rfl))⟩
 f57:=⟨Tryz.f282.name,by decide,Tryz.func282.trans (congrArg some (by kernel_rfl))⟩
 t0:=Tryz.underlying0
 a0:=Tryz.isAgg0
 z0:=Tryz.sizeOf0
 v0:=Tryz.zeroValue0
 t3:=Tryz.underlying3
 a3:=Tryz.isAgg3
 z3:=Tryz.sizeOf3
 v3:=Tryz.zeroValue3
 t4:=Tryz.underlying4
 a4:=Tryz.isAgg4
 z4:=Tryz.sizeOf4
 v4:=Tryz.zeroValue4
 t5:=Tryz.underlying5
 a5:=Tryz.isAgg5
 z5:=Tryz.sizeOf5
 v5:=Tryz.zeroValue5
 t9:=Tryz.underlying9
 a9:=Tryz.isAgg9
 z9:=Tryz.sizeOf9
 v9:=Tryz.zeroValue9
 t22:=Tryz.underlying45
 a22:=Tryz.isAgg45
 z22:=Tryz.sizeOf45
 v22:=Tryz.zeroValue45
 t25:=Tryz.underlying153
 a25:=Tryz.isAgg153
 z25:=Tryz.sizeOf153
 v25:=Tryz.zeroValue153
 t39:=Tryz.underlying202
 a39:=Tryz.isAgg202
 z39:=Tryz.sizeOf202
 v39:=Tryz.zeroValue202
 t45:=Tryz.underlying242
 a45:=Tryz.isAgg242
 z45:=Tryz.sizeOf242
 v45:=Tryz.zeroValue242
 t46:=Tryz.underlying243
 a46:=Tryz.isAgg243
 z46:=Tryz.sizeOf243
 v46:=Tryz.zeroValue243
 t50:=Tryz.underlying247
 a50:=Tryz.isAgg247
 z50:=Tryz.sizeOf247
 v50:=Tryz.zeroValue247
 t53:=Tryz.underlying250
 a53:=Tryz.isAgg250
 z53:=Tryz.sizeOf250
 v53:=Tryz.zeroValue250
 t55:=Tryz.underlying215
 a55:=Tryz.isAgg215
 z55:=Tryz.sizeOf215
 v55:=Tryz.zeroValue215
 t66:=Tryz.underlying293
 a66:=Tryz.isAgg293
 z66:=Tryz.sizeOf293
 v66:=Tryz.zeroValue293
 t70:=Tryz.underlying297
 a70:=Tryz.isAgg297
 z70:=Tryz.sizeOf297
 v70:=Tryz.zeroValue297
 t76:=Tryz.underlying318
 a76:=Tryz.isAgg318
 z76:=Tryz.sizeOf318
 v76:=Tryz.zeroValue318
 t77:=Tryz.underlying112
 a77:=Tryz.isAgg112
 z77:=Tryz.sizeOf112
 v77:=Tryz.zeroValue112}
end Go.Proofs
end
section
namespace Go.Proofs.YtjpmmkodoeipmaaGreatDoor
open Go.Sx Go.RowKit Go.Reg Go.Gr Go.Sort
set_option maxRecDepth 100000 in
theorem jD(s1 s2 r1 r2:Value)(n m:Int)(p q:Pt)(W:World)(h1:EA 1 JD W s1 p.labels)(h2:EA 2 Iq W s2 p.edges)(h3:EA 1 JD W r1 q.labels)(h4:EA 2 Iq W r2 q.edges):
  Calls Tryz.prog 78 #[.agg #[s1,s2,.int .i64 n],.agg #[r1,r2,.int .i64 m]] W λe w'=>e=.returned (.int .i64 (D4 p q))/\∃n os,w'=grow (W.drewN n) os:=by
 have ht:∀A B,Tch [] W ((W.alloc A).alloc B):=λA B=>((Tch.alloc W A []).trans0 (Tch.alloc _ B []))
 obtain⟨a1,c1,rfl⟩:=D6 h1
 obtain⟨a2,c2,rfl⟩:=D6 h2
 obtain⟨a3,c3,rfl⟩:=D6 h3
 obtain⟨a4,c4,rfl⟩:=D6 h4
 have H1:=FW h1
 have H2:=FW h2
 have H3:=FW h3
 have H4:=FW h4
 have HT:=FW ht
 clear h1 h2 h3 h4 ht
 go_enter Tryz.func78,Tryz.ntmps78
 go_wp2_with (go_at_call 10;refine(Sj _ _ _ _ p q _ (H1.out.keep (HT.out _ _)) (H2.out.keep (HT.out _ _)) (H3.out.keep (HT.out _ _)) (H4.out.keep (HT.out _ _))).mono ?_;rintro e w' ⟨rfl,k,os,rfl⟩)
 go_ret
 exact⟨rfl,zO _ _ _ _ _⟩
open Go.Sort in
theorem pK(R:List (Pt×Int))(hl:R.length<=4294967296):RQ C3 77 56 3 (R.map Dp) [.func (.func 78) [] []] (λ_ ds=>∃out:List (Pt×Int),ds=out.map Dp/\out.Perm R/\out.Pairwise (λa b=>¬D4 b.1 a.1<0)):=by
 intro O w v css us hs hb hO hr hk hg hus
 obtain⟨u,us',rfl,h1,h2⟩:=Cg hus
 obtain rfl:=Dv h2
 obtain⟨cs,r,rfl⟩:=h1
 simp only[RepC,Aq]at r
 obtain⟨_,_,rfl,rfl,rfl⟩:=r
 obtain⟨xs,rfl,rfl⟩:=Ub hr
 have hun:∀w':World,Rep O w' (.tuple []) (.tuple #[]):=λw'=>⟨[.tuple #[]],by simp only[RepC,Aq];exact⟨[],rfl,rfl⟩,rfl⟩
 have hs2:Sl 56 3 Pc w v xs:=by
  unfold Sl at hs⊢
  rw[Ac,Gw]at hs
  exact hs
 refine⟨by kernel_rfl,?_⟩
 rcases hs2.shape with⟨rfl,rfl⟩|⟨g,cap,rfl,hc⟩
 ·refine(AnyF.slices_SortFunc_none Tryz.sortN none 0 _ w).mono ?_
  rintro e w' ⟨rfl,rfl⟩
  exact⟨.tuple #[],.tuple [],[],[],rfl,⟨[],rfl,.refl _,.nil⟩,hs,by simp[Aq],by simp,hun _,Tch.refl _ _⟩
 ·have hgO:∀b∈[g],b∈O:=λb hb2=>hb b (by rw[As.1 hb2];simp[Value.ownBlock])
  rw[Ac]at hl
  refine(AnyQ.slices_SortFunc Tryz.sortN 3 Tryz.isAgg56 Tryz.sizeOf56 Pc GH Qu (λx y=>D4 x.1.2.1 y.1.2.1) (AE7 (f:=λx:fA O w=>x.1.2.1)) 78 #[] g 0 cap xs.toArray w
   (enters_of Tryz.func78 (by kernel_rfl) rfl) (λm os dk hdk x y=>?_) (hs2.holdsK GH (by decide)) (hs2.lt rfl) (by simp;omega)).mono ?_
  ·obtain⟨_,hT⟩:=hs2.sorted GH (by decide) dk (by simpa using hdk) m os
   obtain⟨a,b,e1,h1,h2⟩:=Kg (RepC.later (Hn hT hgO) _ _ x.2)
   obtain⟨a',b',e2,h3,h4⟩:=Kg (RepC.later (Hn hT hgO) _ _ y.2)
   have e1':Pc x=_:=e1
   have e2':Pc y=_:=e2
   rw[e1',e2']
   exact jD a b a' b' _ _ _ _ _ h1 h2 h3 h4
  ·rintro e w' ⟨rfl,d,n,os,hp,hso,rfl⟩
   obtain⟨hp1,hp2,hp3⟩:=hp
   have hd:d.size=xs.length:=by simpa using hp1
   obtain⟨hS,hT⟩:=hs2.sorted GH (by decide) d hd n os
   have hperm:d.toList.Perm xs:=by
    have e1:d.extract 0 xs.toArray.size=d:=by rw[<-hp1];exact Ey
    have e2:xs.toArray.extract 0 xs.toArray.size=xs.toArray:=Ey
    rw[e1,e2]at hp3
    exact hp3
   refine⟨.tuple #[],.tuple [],(d.toList.map λx=>x.1.2).map Dp,d.toList.map Pc,rfl,⟨_,rfl,hperm.map _,?_⟩,?_,Aq.later (Hn hT hgO) _ _ (TC _),?_,hun _,?_⟩
   ·rw[B7,AM]
    intro i j hi hj hij
    have hj':j<xs.length:=by rw[<-hd];simpa using hj
    have hi':i<xs.length:=by omega
    have:=hso i j (Am _) hij (by simpa using hj')
    rw[getElem!_pos d j (by omega),getElem!_pos d i (by omega)]at this
    simpa[ltOf]using this
   ·unfold Sl at hS⊢
    rw[Ac,Gw]
    exact hS
   ·intro x hx
    obtain⟨e,_,rfl⟩:=An.1 hx
    exact⟨GH e,Qu e⟩
   ·simpa[Value.ownBlock]using hT
end Go.Proofs.YtjpmmkodoeipmaaGreatDoor
end
section
namespace Go.Proofs.YtjpmmkodoeipmaaGreatDoor
open Go.Sx Go.RowKit Go.Reg Go.Gr
set_option maxRecDepth 100000
def NS:MapE Tryz.prog ByteArray Value where
 t:=146
 kt:=9
 et:=149
 encK:=.string
 encV v:=v
 dK s:=.str s
 dV v:=.raw v
 z:=.pointer none
 ht:=Tryz.underlying146
 hk:=KeyOk.of_string Tryz.underlying9 (λem k w=>by kernel_rfl)
 hz:=by intro w;kernel_rfl
 repK:=by rintro O w k v h;exact PF h
 repV:=by
  rintro O w r v ⟨cs,h,rfl⟩
  simp only[RepC]at h
  subst h;rfl
 ofV:=by
  rintro O w r
  exact⟨[r],by simp only[RepC],rfl⟩
theorem AAm(y:Pt×List (List Int))(w:World)(u:Value)(F:List Nat)(z:Value)(h:(JP y).R w u F z):∃b,u=.pointer (some ⟨b,0,none⟩):=by
 obtain⟨b,_,_,_,_,_,h,_⟩:=h
 exact⟨b,h.ptr⟩
theorem sQ {p:Pt}(hp:Dk p=none):Ce (Ce p)=Ce p:=by
 have hpo:=Si hp
 obtain⟨_,hB,eF,_⟩:=GW hpo
 have:=sP hpo hB
 rwa [<-eF]at this
theorem rL {n:Nat} {b L:List Int}(hb:C6 n b)(hL:L.length=n)(h:L.Nodup):(JR b L).Nodup:=aB λi j x hi hj=>by
 obtain⟨a,ha,rfl,h1⟩:=aE hb hL hi
 obtain⟨c,hc,rfl,h2⟩:=aE hb hL hj
 obtain⟨g1,e1⟩:=Ae.1 h1
 obtain⟨g2,e2⟩:=Ae.1 h2
 rw[(List.getElem_inj h).1 (e1.trans e2.symm)]
def Np(m:List (ByteArray×Value))(ys:List (Pt×List (List Int))):Prop:=m.map (·.1)=(ys.map λy=>bs (DW y.1))/\∀y∈ys,Dk y.1=none
theorem Np.len {m:List (ByteArray×Value)} {ys:List (Pt×List (List Int))}(h:Np m ys):m.length=ys.length:=by
 have:=congrArg List.length h.1
 rwa [Ac,Ac]at this
theorem Np.idx {m:List (ByteArray×Value)} {ys:List (Pt×List (List Int))}(h:Np m ys) {F:Pt}(hF:Dk F=none) {i:Nat}(hi:(m.map (·.1)).findIdx? (λx=>@BEq.beq ByteArray instBEqOfDecidableEq x (bs (DW F)))=some i):∃W,ys[i]? =some (F,W):=by
 rw[h.1,Ba]at hi
 obtain⟨hl,he,_⟩:=hi
 rw[Ac]at hl
 have hy:=Ab hl
 simp only[List.getElem_map,beq_iff_eq]at he
 have e:=Uv (Nv (h.2 _ (AZ hl))).2 (Nv hF).2 (lA (by simpa using he))
 exact⟨ys[i].2,by rw[hy,<-e]⟩
theorem Np.none {m:List (ByteArray×Value)} {ys:List (Pt×List (List Int))}(h:Np m ys) {F:Pt}(hF:Dk F=none)(hn:F∉ys.map (·.1)):(m.map (·.1)).findIdx? (λx=>@BEq.beq ByteArray instBEqOfDecidableEq x (bs (DW F)))=none:=by
 cases hf:(m.map (·.1)).findIdx? (λx=>@BEq.beq ByteArray instBEqOfDecidableEq x (bs (DW F)))with
 |none=>rfl
 |
  some i=>
  obtain⟨W,hW⟩:=h.idx hF hf
  exact absurd (An.2 ⟨_,A6 hW,rfl⟩) hn
theorem Np.some {m:List (ByteArray×Value)} {ys:List (Pt×List (List Int))}(h:Np m ys)(hn:(ys.map (·.1)).Nodup) {F:Pt}(hF:Dk F=Option.none) {W:List (List Int)} {k:Nat}(hk:ys[k]? =Option.some (F,W)):∃u,m[k]? =Option.some (bs (DW F),u)/\Reg.get m (bs (DW F))=Option.some u:=by
 cases hf:(m.map (·.1)).findIdx? (λx=>@BEq.beq ByteArray instBEqOfDecidableEq x (bs (DW F)))with
 |
  none=>
  rw[h.1,Bd]at hf
  have:=hf _ (An.2 ⟨_,A6 hk,rfl⟩)
  simp at this
 |
  some i=>
  obtain⟨W',hW⟩:=h.idx hF hf
  obtain⟨⟨q,u⟩,hq,hqk,hg⟩:=Fp m _ i hf
  have e:i=k:=by
   have h1:(ys.map (·.1))[i]? =Option.some F:=by rw[Ad,hW];rfl
   have h2:(ys.map (·.1))[k]? =Option.some F:=by rw[Ad,hk];rfl
   obtain⟨a1,a2⟩:=Ae.1 h1
   obtain⟨b1,b2⟩:=Ae.1 h2
   exact(List.getElem_inj hn).1 (a2.trans b2.symm)
  subst e
  simp only at hqk hg
  subst hqk
  exact⟨u,hq,hg⟩
theorem oC {m:List (ByteArray×Value)} {b c:List (Bg (Pt×List (List Int)))}(h:b=c):Option.some (DS NS JP .off m b)=Option.some (DS NS JP .off m c):=by rw[h]
section
variable {G:Gr} {e:Bool} {d:Int} {l:List Opp}
def xB:List (Nat×Plan):=[]
def ADh:List FuncId:=[]
theorem ACr:CI Tryz.prog ADh xB (Tryz.f74.body.getD .skip)=true:=by kernel_rfl
theorem ABs(vs:Array Value)(w:World):(callFunc 74 vs).run C1.P w=.ok (.enter 74 vs) w:=by kernel_rfl
set_option maxHeartbeats 16000000 in
theorem ZD(L:List (List (List Int)))(q:List Int->Pt)(V:List Int->List Int)(hLl:L.length<=1000)(hL:L.flatten.length<=10000)(hq:∀R∈L,∀X∈R,PatAt G e d l q V X):
  DY C3 74 [.d (dJ G e d l),.d (Pd L)] [] [] (λdd σ=>∃z:List (ByteArray×Value)×List (Pt×List (List Int)),dd=.tuple [.own 900,.d .nili]/\σ=[(900,DS NS JP .off z.1 (z.2.map .here))]/\GrpOk (λX=>Ce (q X)) (λX=>JR (Nl (q X)) (V X)) L.flatten z.2/\Np z.1 z.2):=by
 have hdL:(L.map NT).length=L.length:=Ac _
 have hfl:∀n,((L.take n).flatten).length<=L.flatten.length:=λn=>by
  conv=>rhs;rw[<-BP n L,D7,Ah]
  omega
 refine Me Iv (pl:=xB) (G:=ADh) Tryz.func74 rfl Tryz.ntmps74 ABs ACr (by simp) 999 rfl ?_
 intro vs
 (conv=>whnf)
 (repeat' ((first|refine Aj ?_ ?_|refine iN NS JP 900 rfl rfl (by decide) rfl ?_|refine nx ?_|refine AB (λ_=>?_) (λ_=>?_)|exact AE)<;>conv=>whnf))
 refine AQ (ι:=Nat×List (ByteArray×Value)×List (Pt×List (List Int))) (λx=>x.1<=L.length/\GrpOk (λX=>Ce (q X)) (λX=>JR (Nl (q X)) (V X)) (L.take x.1).flatten x.2.2/\Np x.2.1 x.2.2) (λx=>[(21,.d (.int .i64 x.1)),(20,.d (.int .i64 (L.map NT).length)),(19,.d (Pd L)),(6,.own 900),(2,.own 2)])
  (λx=>[(2,.cells 43 [.d (dG G),.d (.bool e),.d (.int .i64 d),.d (JS l)]),(900,DS NS JP .off x.2.1 (x.2.2.map .here)),(999,.ghost vs [])]) (λx=>L.length-x.1) (0,[],[]) (λ_=>rfl) ⟨Am _,ACa,rfl,λy hy=>(by cases hy)⟩ (.refl _ _) ⟨rfl,rfl,rfl,rfl,rfl,trivial⟩ ⟨rfl,rfl,rfl,trivial⟩ ?_
 rintro⟨n,m,ys⟩ ⟨hn,hG,hM⟩
 simp only at hn hG hM
 refine GZ [] [] ?_
 by_cases hnl:n<L.length
 ·have hx:L[n]? =some L[n]:=Ab hnl
  have hxm:=A6 hx
  have htk:(L.take (n+1)).flatten=(L.take n).flatten++L[n]:=by rw[Au,hx,AS,D7];simp
  have hln:=hfl (n+1)
  generalize L[n]=R at hx hxm htk
  have hxd:(L.map NT)[n]? =some (.list 1 (R.map Bh)):=by rw[Ad,hx];rfl
  have hdR:(R.map Bh).length=R.length:=Ac _
  have hrl:=congrArg List.length htk
  rw[Ah]at hrl
  (conv=>whnf)
  (repeat' ((first|refine Aj ?_ ?_|refine AO hxd rfl ?_|refine nx ?_|refine AB (λ_=>?_) (λ_=>?_)|exact AE)<;>conv=>whnf))
  refine aQ (ι:=Nat×List (ByteArray×Value)×List (Pt×List (List Int))) (λx=>x.1<=R.length/\GrpOk (λX=>Ce (q X)) (λX=>JR (Nl (q X)) (V X)) ((L.take n).flatten++R.take x.1) x.2.2/\Np x.2.1 x.2.2) (λx=>[(27,.d (.int .i64 x.1)),(26,.d (.int .i64 (R.map Bh).length)),(25,.d (.list 1 (R.map Bh))),(21,.d (.int .i64 n)),(20,.d (.int .i64 (L.map NT).length)),(19,.d (Pd L)),(6,.own 900),(2,.own 2)])
   (λx=>[(2,.cells 43 [.d (dG G),.d (.bool e),.d (.int .i64 d),.d (JS l)]),(900,DS NS JP .off x.2.1 (x.2.2.map .here)),(999,.ghost vs [])]) (λx=>R.length-x.1) (0,m,ys) (λ_=>rfl) ⟨Am _,by simpa using hG,hM⟩ .refl ⟨rfl,rfl,rfl,rfl,rfl,rfl,rfl,rfl,trivial⟩ ⟨rfl,rfl,rfl,trivial⟩ ?_
  rintro⟨i,m,ys⟩ ⟨hi,hG,hM⟩
  simp only at hi hG hM
  refine GZ [] [] ?_
  by_cases hil:i<R.length
  ·have hy:R[i]? =some R[i]:=Ab hil
   have hym:=A6 hy
   have hsn:(L.take n).flatten++R.take (i+1)=((L.take n).flatten++R.take i)++[R[i]]:=by rw[Au,hy,AS,<-Bk]
   have hzl:((L.take n).flatten++R.take i).length<=10000:=by rw[Ah,A8];omega
   generalize R[i]=X at hy hym hsn
   have hyd:(R.map Bh)[i]? =some (Bh X):=by rw[Ad,hy];rfl
   have hp:=hq R hxm X hym
   have hpt:=Pure.up3 hp.pat
   have hfo:=Pure.up3 (gS hp.err (V X) hp.len)
   have hF:=KH hp.err
   have hFF:=sQ hp.err
   have hFl:=(UY hp.err).1
   obtain⟨_,hB,_⟩:=GW (Si hp.err)
   have hWl:(JR (Nl (q X)) (V X)).length=(Ce (q X)).labels.length:=by rw[mZ,hFl];exact hp.len
   have hWn:=rL hB hp.len hp.nodup
   have hF0:(Ce (q X)).labels≠[]:=λe=>hp.ne (AF (by rw[<-hFl,e];rfl))
   obtain⟨⟨_,x1,x2,x3,x4⟩,_⟩:=Nv hF
   have htx:=Lc _ x1 x2 x3 x4
   have hnw:=ACl hF hFF hF0
   generalize ((L.take n).flatten++R.take i)=Z at hG hsn hzl
   obtain⟨F,hFe⟩:∃F,Ce (q X)=F:=⟨_,rfl⟩
   obtain⟨W,hWe⟩:∃W,JR (Nl (q X)) (V X)=W:=⟨_,rfl⟩
   rw[hFe]at hF hFF hWl hF0 htx hnw
   rw[hFe,hWe]at hfo
   rw[hWe]at hWl hWn
   by_cases hk:F∈ys.map (·.1)
   ·obtain⟨⟨F',W0⟩,hm0,hf0⟩:=An.1 hk
    simp only at hf0
    subst hf0
    obtain⟨k,hyk⟩:=EV.1 hm0
    obtain⟨u,hmk,hgu⟩:=hM.some hG.nodup hF hyk
    have hb:(ys.map Bg.here)[k]? =some (Bg.here (F',W0)):=by rw[Ad,hyk];rfl
    have hbl:k<(ys.map Bg.here).length:=(Ae.1 hb).1
    have hW0:W0.length<=10000:=by
     have:=hG.img _ hm0
     simp only at this
     rw[this]
     unfold Hw
     rw[Ac]
     exact BI (CM _ _) hzl
    have htake:=Xo hF W0 hW0 hWl hWn
    have hgn:=hG.old (X:=X) (k:=k) (W:=W0) (by simp only[hFe];exact hyk)
    simp only[hFe,hWe]at hgn
    rw[<-hsn]at hgn
    (conv=>whnf)
    (repeat' ((first|refine Aj ?_ ?_|refine AO hyd rfl ?_|refine Af rfl hpt ?_|refine Af rfl hfo ?_|refine Af rfl htx ?_|refine nx ?_|refine AB (λ_=>?_) (λ_=>?_)|exact AE)<;>conv=>whnf))
    refine rA (M:=NS) (A:=JP) (bs:=ys.map .here) 900 k (bs (DW F')) rfl (λ_=>rfl) rfl rfl rfl hmk hgu hb (λw F z h=>AAm (F',W0) w u F z h) ⟨by decide,by decide⟩ rfl ?_
    rintro b rfl
    (conv=>whnf)
    refine qY Iv rfl rfl rfl rfl rfl rfl ?_
    ((conv=>whnf);repeat' ((first|refine odw ?_|refine nx ?_|refine AB (λ_=>?_) (λ_=>?_))<;>conv=>whnf))
    refine Uy (M:=NS) (A:=JP) (bs:=ys.map .here) (λ_=>rfl) 900 920 921 k (bs (DW F')) rfl rfl rfl rfl hmk hgu hb rfl rfl (by decide) rfl rfl ?_
    ((conv=>whnf);repeat' ((first|refine odw ?_|refine nx ?_|refine AB (λ_=>?_) (λ_=>?_))<;>conv=>whnf))
    refine Iu [(920,900)] [920] htake rfl rfl rfl rfl rfl rfl rfl ?_
    ((conv=>whnf);repeat' ((first|refine odw ?_|refine nx ?_|refine AB (λ_=>?_) (λ_=>?_))<;>conv=>whnf))
    refine⟨(i+1,m,ys.set k (F',W0++[W])),_,_,⟨hil,hgn,?_⟩,QE.badBack (A:=JP) (bs:=(ys.map .here).set k .pin) (y:=(F',W0++[W])) 900 920 921 k (by decide) rfl (by rw[I4 hbl]) hmk rfl rfl,⟨rfl,rfl,rfl,rfl,rfl,rfl,rfl,rfl,trivial⟩,⟨rfl,oC (by rw[List.set_set,Dz]),rfl,trivial⟩,by simp only;omega⟩
    refine⟨?_,λy hy=>?_⟩
    ·rw[hM.1]
     refine BY λj=>?_
     rw[Ad,Ad,Be]
     by_cases e:k=j
     ·subst e
      rw[if_pos rfl,if_pos (by simpa using hbl),hyk];rfl
     ·rw[if_neg e]
    ·rcases KK hy with h|h
     ·exact hM.2 y h
     ·rw[h];exact hF
   ·have hnone:=hM.none hF hk
    have hgN:Reg.get m (bs (DW F))=none:=(IG m _ hnone).1
    have hput:∀u,Reg.put m (bs (DW F)) u=m++[(bs (DW F),u)]:=λu=>by unfold Reg.put;rw[hnone]
    have htake:=Xo hF [] (Am _) hWl hWn
    have hgn:=hG.new (X:=X) (by simp only[hFe];exact hk)
    simp only[hFe,hWe]at hgn
    rw[<-hsn]at hgn
    have hml:=hM.len
    (conv=>whnf)
    (repeat' ((first|refine Aj ?_ ?_|refine AO hyd rfl ?_|refine Af rfl hpt ?_|refine Af rfl hfo ?_|refine Af rfl htx ?_|refine nx ?_|refine AB (λ_=>?_) (λ_=>?_)|exact AE)<;>conv=>whnf))
    refine iL (M:=NS) (A:=JP) (bs:=ys.map .here) 900 (bs (DW F)) rfl rfl rfl rfl rfl hgN ⟨by decide,by decide⟩ rfl ?_
    ((conv=>whnf);repeat' ((first|refine odw ?_|refine nx ?_|refine AB (λ_=>?_) (λ_=>?_))<;>conv=>whnf))
    refine Iu [(920,900)] [] hnw rfl rfl rfl rfl rfl rfl rfl ?_
    ((conv=>whnf);repeat' ((first|refine odw ?_|refine nx ?_|refine AB (λ_=>?_) (λ_=>?_))<;>conv=>whnf))
    refine rB (M:=NS) (A:=JP) (bs:=ys.map .here) 900 920 (bs (DW F)) (y:=(F,[])) rfl (λ_=>rfl) rfl rfl rfl rfl hput rfl (by decide) rfl rfl ?_
    intro u
    have hmk:(m++[(bs (DW F),u)])[ys.length]? =some (bs (DW F),u):=by rw[Bu (by omega),hml,Dy];rfl
    have hb:(ys.map Bg.here++[Bg.here (F,[])])[ys.length]? =some (Bg.here (F,([]:List (List Int)))):=by rw[Bu (by simp),Ac,Dy];rfl
    have hbl:=(Ae.1 hb).1
    ((conv=>whnf);repeat' ((first|refine odw ?_|refine nx ?_|refine AB (λ_=>?_) (λ_=>?_))<;>conv=>whnf))
    refine Uy (M:=NS) (A:=JP) (bs:=ys.map .here++[.here (F,[])]) (λ_=>rfl) 900 920 921 ys.length (bs (DW F)) rfl rfl rfl rfl hmk (SH hgN) hb rfl rfl (by decide) rfl rfl ?_
    ((conv=>whnf);repeat' ((first|refine odw ?_|refine nx ?_|refine AB (λ_=>?_) (λ_=>?_))<;>conv=>whnf))
    refine Iu [(920,900)] [920] htake rfl rfl rfl rfl rfl rfl rfl ?_
    ((conv=>whnf);repeat' ((first|refine odw ?_|refine nx ?_|refine AB (λ_=>?_) (λ_=>?_))<;>conv=>whnf))
    refine⟨(i+1,m++[(bs (DW F),u)],ys++[(F,[W])]),_,_,⟨hil,hgn,?_⟩,QE.badBack (A:=JP) (bs:=(ys.map Bg.here++[Bg.here (F,[])]).set ys.length .pin) (y:=(F,[]++[W])) 900 920 921 ys.length (by decide) rfl (by rw[I4 hbl]) hmk rfl rfl,⟨rfl,rfl,rfl,rfl,rfl,rfl,rfl,rfl,trivial⟩,⟨rfl,oC (by rw[List.set_set,Ju _ _ (by simp),Ac,Dy,A7];rfl),rfl,trivial⟩,by simp only;omega⟩
    refine⟨by rw[A7,A7,hM.1];rfl,λy hy=>?_⟩
    rcases Ag.1 hy with h|h
    ·exact hM.2 y h
    ·rw[As.1 h];exact hF
  ·rw[Ak (show R.length<=i by omega),<-htk]at hG
   ((conv=>whnf);repeat' ((first|refine odw ?_|refine nx ?_|refine AB (λ_=>?_) (λ_=>?_))<;>conv=>whnf))
   exact⟨(n+1,m,ys),_,_,⟨hnl,hG,hM⟩,.refl _ _,⟨rfl,rfl,rfl,rfl,rfl,trivial⟩,⟨rfl,rfl,rfl,trivial⟩,by simp only;omega⟩
 ·rw[Ak (show L.length<=n by omega)]at hG
  ((conv=>whnf);repeat' ((first|refine odw ?_|refine nx ?_|refine AB (λ_=>?_) (λ_=>?_))<;>conv=>whnf))
  exact⟨_,_,[],[(900,DS NS JP .off m (ys.map .here))],.lo (.refl _ _),rfl,⟨rfl,trivial⟩,rfl,(m,ys),rfl,rfl,hG,hM⟩
end
end Go.Proofs.YtjpmmkodoeipmaaGreatDoor
end
section
namespace Go.Proofs.YtjpmmkodoeipmaaGreatDoor
open Go.Sx Go.RowKit Go.Reg Go.Gr
set_option maxRecDepth 100000
section
variable {G:Gr} {e:Bool} {d:Int} {l:List Opp}
set_option maxHeartbeats 16000000 in
theorem gO(L:List (List (List Int)))(s:Int)(q:List Int->Pt)(V:List Int->List Int)(hLl:L.length<=1000)(hL:L.flatten.length<=10000)(hq:∀R∈L,∀X∈R,PatAt G e d l q V X):
  Pure C3 29 [dJ G e d l,Pd L,.int .i64 s] (λy=>y=.tuple [.list 3 ((SI (λX=>Ce (q X)) (λX=>JR (Nl (q X)) (V X)) L.flatten s).map Dp),.nili]):=by
 have hdm:=ZD (G:=G) (e:=e) (d:=d) (l:=l) L q V hLl hL hq
 refine On Tryz.func29 Tryz.ntmps29 [] [] ?_
 (conv=>whnf)
 ((conv=>whnf);repeat' ((first|refine odw ?_|refine nx ?_|refine AB (λ_=>?_) (λ_=>?_))<;>conv=>whnf))
 refine IQ [] [] hdm (λd σ h=>h) rfl rfl rfl rfl rfl rfl (λ_=>rfl) ?_
 rintro⟨m,ys⟩ ⟨hG,hM⟩
 simp only at hG hM
 have hml:=hM.len
 have hfrm:∀y∈ys,Dk y.1=none/\y.1.labels≠[]/\y.2.length<=10000:=λy hy=>by
  refine⟨hM.2 y hy,?_,?_⟩
  ·obtain⟨X,hX,e⟩:=(hG.mem y.1).1 (Cw hy)
   obtain⟨R,hR,hXR⟩:=List.mem_flatten.1 hX
   have hp:=hq R hR X hXR
   rw[<-e]
   exactλe2=>hp.ne (AF (by rw[<-(UY hp.err).1,e2];rfl))
  ·rw[hG.img y hy]
   unfold Hw
   rw[Ac]
   exact BI (CM _ _) hL
 have hz1:(List.zip m ys).map (·.1)=m:=List.map_fst_zip (by omega)
 have hz2:(List.zip m ys).map (·.2)=ys:=List.map_snd_zip (by omega)
 have hrw:((List.zip m ys).map λz=>Rb z.2)=ys.map Rb:=by
  conv=>rhs;rw[<-hz2,ED]
  rfl
 obtain⟨Z,hZ⟩:∃Z,List.zip m ys=Z:=⟨_,rfl⟩
 rw[hZ]at hz1 hz2 hrw
 have hfin:((Z.map λz=>Rb z.2).filter λx=>decide (s<=x.2)).Perm (SI (λX=>Ce (q X)) (λX=>JR (Nl (q X)) (V X)) L.flatten s):=by
  rw[hrw]
  exact hG.rows.filter _
 have h0:TodoOk s Z (ys.map .here) Z []:=⟨.refl _,λz hz=>by
  obtain⟨k,hk⟩:=EV.1 hz
  refine⟨k,hk,?_⟩
  rw[Ad,<-hz2,Ad,hk];rfl,by
  have e:Z.map (·.2.1)=ys.map (·.1):=by
   conv=>rhs;rw[<-hz2,ED]
   rfl
  rw[e];exact hG.nodup⟩
 have hys:ys.length<=10000:=by
  have h1:=hG.nodup
  have:=FI h1 (m:=L.flatten.map λX=>Ce (q X)) λF hF=>by
   obtain⟨X,hX,e⟩:=(hG.mem F).1 hF
   exact An.2 ⟨X,hX,e⟩
  rw[Ac,Ac]at this
  omega
 have hZl:Z.length<=10000:=by
  have:=congrArg List.length hz2
  rw[Ac]at this
  omega
 (conv=>whnf)
 ((conv=>whnf);repeat' ((first|refine odw ?_|refine nx ?_|refine AB (λ_=>?_) (λ_=>?_))<;>conv=>whnf))
 refine ZV (M:=NS) (A:=JP) (bs:=ys.map .here) 900 rfl rfl rfl ⟨by decide,by decide,by decide⟩ rfl ?_
 intro r
 (conv=>whnf)
 refine AQ (ι:=List ((ByteArray×Value)×(Pt×List (List Int)))×List (ByteArray×Value)×List (Bg (Pt×List (List Int)))×List (Pt×Int)) (λx=>x.2.1.Perm (x.1.map (·.1))/\TodoOk s Z x.2.2.1 x.1 x.2.2.2) (λ_=>[(24,.d (.raw (.pointer (some ⟨r,0,none⟩)))),(10,.own 300),(2,.d (.int .i64 s))])
  (λx=>[(900,DS NS JP (.it r x.2.1) m x.2.2.1),(300,.slice 56 3 (x.2.2.2.map Dp))]) (λx=>x.2.1.length) (Z,m,ys.map .here,[]) (λ_=>rfl) ⟨by rw[hz1],h0⟩ (.own 10 300 56 3 rfl rfl (.refl _ _)) ⟨rfl,rfl,rfl,trivial⟩ ⟨rfl,rfl,trivial⟩ ?_
 rintro⟨zt,todo,bs,done⟩ ⟨hpe,hT⟩
 simp only at hpe hT
 have hdl:done.length<=10000:=by
  have:=hT.perm.length_eq
  rw[Ah]at this
  have h2:=CM (λx:Pt×Int=>decide (s<=x.2)) (Z.map λz=>Rb z.2)
  rw[Ac]at h2
  omega
 have hdm2:(done.map Dp).length=done.length:=Ac _
 refine GZ [] [] ?_
 (conv=>whnf)
 refine iM (M:=NS) (A:=JP) (bs:=bs) 900 r rfl rfl rfl rfl ⟨by decide,by decide,by decide⟩ rfl ?_ ?_
 ·rintro rfl
  have hzt:zt=[]:=List.map_eq_nil_iff.1 (List.Perm.nil_eq hpe).symm
  subst hzt
  have hpd:=hT.perm
  rw[Bt,List.filter_nil,Cq]at hpd
  ((conv=>whnf);repeat' ((first|refine odw ?_|refine nx ?_|refine AB (λ_=>?_) (λ_=>?_))<;>conv=>whnf))
  refine Nj (i:=300) rfl rfl (pK done (by omega)) ?_
  rintro y ds ⟨out,rfl,ho1,ho2⟩
  have e:=Wl Ij (ho1.trans (hpd.trans hfin)) (sN _ _ _ _) ho2
  subst e
  ((conv=>whnf);repeat' ((first|refine odw ?_|refine nx ?_|refine AB (λ_=>?_) (λ_=>?_))<;>conv=>whnf))
  exact rfl
 ·intro p todo' hp
  obtain⟨z,zt',hz,hzt,htd⟩:=qQ hpe hp
  obtain⟨k,hk1,hk2,hnx⟩:=hT.next hzt
  have hmk:m[k]? =some p:=by rw[<-hz1,Ad,hk1,<-hz];rfl
  have hzy:z.2∈ys:=by rw[<-hz2];exact Cw (A6 hk1)
  obtain⟨hF,hF0,hW⟩:=hfrm _ hzy
  obtain⟨z1,F,W⟩:=z
  simp only at hF hF0 hW hk2 hnx
  have hp8:=(CQ (BK hF).1).1
  have hpos:=FV.2 hF0
  have hO:=xW (Si hF) hp8
  have hcl:∀t∈Et F.labels.length (Jw F W),t.length<=1000000000:=λt ht=>by
   obtain⟨i,_,rfl⟩:=rQ.1 ht
   have h1:=dA (Jw F W) i
   rw[ZR]at h1
   have h2:=DN hW hO
   omega
  have hsup:=Pure.up3 (VQ F (Es F F) (Et F.labels.length (Jw F W)) (AAr hpos _) (by rw[NF];omega) hcl)
  have hpat:=Pure.up3 (tD F (Es F F) (Et F.labels.length (Jw F W)) (by omega) (by have:=Kk hF;omega))
  have hle:todo'.length<todo.length:=by have:=hp.length_eq;simp only[Ax]at this;omega
  (conv=>whnf)
  refine ZW (M:=NS) (A:=JP) (bs:=bs) 900 920 921 k r rfl (λ_=>rfl) rfl rfl hmk hk2 rfl rfl (by decide) rfl rfl ?_
  ((conv=>whnf);repeat' ((first|refine odw ?_|refine nx ?_|refine AB (λ_=>?_) (λ_=>?_))<;>conv=>whnf))
  refine YD 920 922 (Gn _ _) (Gn _ _) (Gn _ _) (ocS _) rfl rfl ?_
  by_cases hs:s<=(P1 F W:Int)
  ·rw[if_pos hs]at hnx
   have hsw:(s<=((OT (Et F.labels.length (Jw F W)):Nat):Int)):=hs
   have hfin2:done.map Dp++[Dp (Rb (F,W))]=(done++[Rb (F,W)]).map Dp:=by rw[A7];rfl
   (conv=>whnf)
   (repeat' ((first|refine Aj ?_ ?_|refine Dq 922 rfl ?_|refine RJ 920 rfl rfl ?_|refine Af (xs:=[dD F (Es F F) (Et F.labels.length (Jw F W))]) rfl hsup ?_|refine Af (xs:=[dD F (Es F F) (Et F.labels.length (Jw F W))]) rfl hpat ?_|refine nx ?_|refine AB (λ_=>?_) (λ_=>?_)|exact AE)<;>conv=>whnf))
   exact⟨(zt',todo',bs.set k .pin,done++[Rb (F,W)]),_,_,⟨htd,hnx⟩,.refl _ _,⟨rfl,rfl,rfl,trivial⟩,⟨rfl,Bj hfin2,trivial⟩,hle⟩
  ·rw[if_neg hs]at hnx
   have hsw:¬(s<=((OT (Et F.labels.length (Jw F W)):Nat):Int)):=hs
   (conv=>whnf)
   (repeat' ((first|refine Aj ?_ ?_|refine Dq 922 rfl ?_|refine RJ 920 rfl rfl ?_|refine Af (xs:=[dD F (Es F F) (Et F.labels.length (Jw F W))]) rfl hsup ?_|refine nx ?_|refine AB (λ_=>?_) (λ_=>?_)|exact AE)<;>conv=>whnf))
   exact⟨(zt',todo',bs.set k .pin,done),_,_,⟨htd,hnx⟩,.refl _ _,⟨rfl,rfl,rfl,trivial⟩,⟨rfl,rfl,trivial⟩,hle⟩
end
end Go.Proofs.YtjpmmkodoeipmaaGreatDoor
end
section
namespace Go.Proofs.YtjpmmkodoeipmaaGreatDoor
open Go.Sx Go.RowKit Go.Reg Go.Gr
set_option maxRecDepth 100000
theorem ADY {O:List Nat} {w:World} {l:List Int} {v:Value}(h:Rep O w (Bh l) v):l.length<=9223372036854775807:=by
 obtain⟨cs,h,-⟩:=h
 simp only[Bh,RepC]at h
 obtain⟨a,c,css,-,h1,h2,-⟩:=h
 rw[Ac]at h1
 unfold maxLen at h2;omega
def xO:List (Nat×Plan):=[(6,.leaf [0,0,0,1,0,0,0,1,0] [0,1,2,4,5,6,3,7,8] [0,0,3,7,0,0,48,112,255])]
theorem AAc(a b:List Int):Pure C1 39 [Bh a,Bh b] (λy=>y=.bool (decide (a=b))):=by
 refine Pure.assume (λO w us hr=>by obtain⟨v,vs,rfl,h1,_⟩:=Cg hr;exact ADY h1) λhm=>?_
 have hal:(a.map dI).length=a.length:=Ac _
 have hbl:(b.map dI).length=b.length:=Ac _
 refine AU Tryz.func39 Tryz.ntmps39 [] xO ?_
 by_cases hlen:a.length=b.length
 ·((conv=>whnf);repeat' ((first|refine odw ?_|refine nx ?_|refine AB (λ_=>?_) (λ_=>?_))<;>conv=>whnf))
  refine AQ (ι:=Nat) (λi=>i<=a.length/\∀j,j<i->a[j]? =b[j]?) (λi=>[(13,.d (.int .i64 i)),(12,.d (.int .i64 (a.map dI).length)),(1,.d (Bh b)),(0,.d (Bh a))]) (λ_=>[]) (λi=>a.length-i) 0 (λ_=>rfl) ⟨Am _,by intro j h;omega⟩ (.refl _ _) ⟨rfl,rfl,rfl,rfl,trivial⟩ trivial ?_
  rintro i ⟨hi,he⟩
  refine Ca [] xO ?_
  by_cases hlt:i<a.length
  ·have hx:=Ab hlt
   have hy:=Ab (l:=b) (i:=i) (by omega)
   generalize a[i]=x at hx
   generalize b[i]'(by omega)=z at hy
   have hxd:(a.map dI)[i]? =some (.int .i64 x):=by rw[Ad,hx];rfl
   have hyd:(b.map dI)[i]? =some (.int .i64 z):=by rw[Ad,hy];rfl
   by_cases hxz:x=z
   ·(conv=>whnf)
    (repeat' ((first|refine Aj ?_ ?_|refine AO hxd rfl ?_|refine AO hyd rfl ?_|refine nx ?_|refine AB (λ_=>?_) (λ_=>?_)|exact AE)<;>conv=>whnf))
    refine⟨i+1,_,_,⟨hlt,λj hj=>?_⟩,.refl _ _,⟨rfl,rfl,rfl,rfl,trivial⟩,trivial,by omega⟩
    by_cases hji:j=i
    ·subst hji;rw[hx,hy,hxz]
    ·exact he j (by omega)
   ·rw[decide_eq_false (λh=>by subst h;rw[hx]at hy;cases hy;exact hxz rfl)]
    (conv=>whnf)
    (repeat' ((first|refine Aj ?_ ?_|refine AO hxd rfl ?_|refine AO hyd rfl ?_|refine nx ?_|refine AB (λ_=>?_) (λ_=>?_)|exact AE)<;>conv=>whnf))
    exact rfl
  ·rw[decide_eq_true (BY λj=>by
    by_cases hj:j<a.length
    ·exact he j (by omega)
    ·rw[AI (by omega),AI (by omega)])]
   ((conv=>whnf);repeat' ((first|refine odw ?_|refine nx ?_|refine AB (λ_=>?_) (λ_=>?_))<;>conv=>whnf))
   exact rfl
 ·rw[decide_eq_false (λh=>hlen (by rw[h]))]
  ((conv=>whnf);repeat' ((first|refine odw ?_|refine nx ?_|refine AB (λ_=>?_) (λ_=>?_))<;>conv=>whnf))
  exact rfl
end Go.Proofs.YtjpmmkodoeipmaaGreatDoor
end
section
namespace Go.Proofs.YtjpmmkodoeipmaaGreatDoor
open Go.Sx Go.RowKit Go.Reg Go.Gr
set_option maxRecDepth 100000
theorem eT:Pure C1 24 [.list 1 [.nili,.nili]] (λy=>y=.nili):=by
 refine AU Tryz.func24 Tryz.ntmps24 [] [] ?_
 (conv=>whnf)
 ((conv=>whnf);repeat' ((first|refine odw ?_|refine nx ?_|refine AB (λ_=>?_) (λ_=>?_))<;>conv=>whnf))
 refine AQ (ι:=Nat) (λi=>i<=2) (λi=>[(7,.d (.int .i64 i)),(6,.d (.int .i64 2)),(5,.d (.list 1 [.nili,.nili]))]) (λ_=>[]) (λi=>2-i) 0 (λ_=>rfl) (Am _) (.refl _ _) ⟨rfl,rfl,rfl,trivial⟩ trivial ?_
 intro i hi
 refine Ca [] [] ?_
 by_cases hlt:i<2
 ·have hxd:([.nili,.nili]:List Da)[i]? =some .nili:=by
   match i,hlt with
   |0,_=>rfl
   |1,_=>rfl
  (conv=>whnf)
  (repeat' ((first|refine Aj ?_ ?_|refine oE hxd rfl ?_|refine nx ?_|refine AB (λ_=>?_) (λ_=>?_)|exact AE)<;>conv=>whnf))
  exact⟨i+1,_,_,hlt,.refl _ _,⟨rfl,rfl,rfl,trivial⟩,trivial,by omega⟩
 ·((conv=>whnf);repeat' ((first|refine odw ?_|refine nx ?_|refine AB (λ_=>?_) (λ_=>?_))<;>conv=>whnf))
  exact rfl
def s2(m:List (ByteArray×RowV))(X:List (Value×Da)):Sg:=[(920,.cells 185 [.own 921]),(921,(Gz NP m X).own)]
end Go.Proofs.YtjpmmkodoeipmaaGreatDoor
end
section
namespace Go.Proofs
open Go.Shelf
def Tryz.fmtL_ren:Go.Shelf.Ren:=⟨λ|173=>41|246=>82|283=>132|284=>133|285=>134|286=>135|129=>181|317=>197|318=>198|319=>199|320=>200|337=>257|338=>258|n=>n,λ|2=>2|3=>3|9=>9|4=>4|171=>214|0=>0|53=>215|37=>97|5=>5|173=>218|212=>261|51=>250|20=>20|213=>262|46=>202|232=>323|233=>324|n=>n,λ|17=>0|18=>2|19=>3|n=>n⟩
theorem Tryz.fmtL:Go.Proofs.LaysM.n173 Tryz.prog Tryz.fmtL_ren:={
 mixed:=by kernel_rfl
 f129:=Tryz.func181.trans (congrArg some (by kernel_rfl))
 f173:=Tryz.func41.trans (congrArg some (by kernel_rfl))
 f246:=Tryz.func82.trans (congrArg some (by kernel_rfl))
 f283:=Tryz.func132.trans (congrArg some (by kernel_rfl))
 f284:=Tryz.func133.trans (congrArg some (by kernel_rfl))
 f285:=Tryz.func134.trans (congrArg some (by kernel_rfl))
 f286:=Tryz.func135.trans (congrArg some (by kernel_rfl))
 f317:=Tryz.func197.trans (congrArg some (by kernel_rfl))
 f318:=Tryz.func198.trans (congrArg some (by kernel_rfl))
 f319:=Tryz.func199.trans (congrArg some (by kernel_rfl))
 f320:=Tryz.func200.trans (congrArg some (by kernel_rfl))
 f337:=Tryz.func257.trans (congrArg some (by kernel_rfl))
 f338:=Tryz.func258.trans (congrArg some (by kernel_rfl))
 t0:=Tryz.underlying0
 a0:=Tryz.isAgg0
 z0:=Tryz.sizeOf0
 v0:=Tryz.zeroValue0
 t2:=Tryz.underlying2
 a2:=Tryz.isAgg2
 z2:=Tryz.sizeOf2
 v2:=Tryz.zeroValue2
 t3:=Tryz.underlying3
 a3:=Tryz.isAgg3
 z3:=Tryz.sizeOf3
 v3:=Tryz.zeroValue3
 t4:=Tryz.underlying4
 a4:=Tryz.isAgg4
 z4:=Tryz.sizeOf4
 v4:=Tryz.zeroValue4
 t5:=Tryz.underlying5
 a5:=Tryz.isAgg5
 z5:=Tryz.sizeOf5
 v5:=Tryz.zeroValue5
 t9:=Tryz.underlying9
 a9:=Tryz.isAgg9
 z9:=Tryz.sizeOf9
 v9:=Tryz.zeroValue9
 t20:=Tryz.underlying20
 a20:=Tryz.isAgg20
 z20:=Tryz.sizeOf20
 v20:=Tryz.zeroValue20
 t37:=Tryz.underlying97
 a37:=Tryz.isAgg97
 z37:=Tryz.sizeOf97
 v37:=Tryz.zeroValue97
 t46:=Tryz.underlying202
 a46:=Tryz.isAgg202
 z46:=Tryz.sizeOf202
 v46:=Tryz.zeroValue202
 t51:=Tryz.underlying250
 a51:=Tryz.isAgg250
 z51:=Tryz.sizeOf250
 v51:=Tryz.zeroValue250
 t53:=Tryz.underlying215
 a53:=Tryz.isAgg215
 z53:=Tryz.sizeOf215
 v53:=Tryz.zeroValue215
 t171:=Tryz.underlying214
 a171:=Tryz.isAgg214
 z171:=Tryz.sizeOf214
 v171:=Tryz.zeroValue214
 t173:=Tryz.underlying218
 a173:=Tryz.isAgg218
 z173:=Tryz.sizeOf218
 v173:=Tryz.zeroValue218
 t212:=Tryz.underlying261
 a212:=Tryz.isAgg261
 z212:=Tryz.sizeOf261
 v212:=Tryz.zeroValue261
 t213:=Tryz.underlying262
 a213:=Tryz.isAgg262
 z213:=Tryz.sizeOf262
 t232:=Tryz.underlying323
 a232:=Tryz.isAgg323
 z232:=Tryz.sizeOf323
 v232:=Tryz.zeroValue323
 t233:=Tryz.underlying324
 a233:=Tryz.isAgg324
 z233:=Tryz.sizeOf324
 v233:=Tryz.zeroValue324
 g17:=by kernel_rfl
 g18:=by kernel_rfl
 g19:=by kernel_rfl
 i0:=by kernel_rfl
 i2:=by kernel_rfl
 i3:=by kernel_rfl
 i4:=by kernel_rfl
 i5:=by kernel_rfl
 i9:=by kernel_rfl
 i20:=by kernel_rfl
 i37:=by kernel_rfl
 i46:=by kernel_rfl
 i51:=by kernel_rfl
 i53:=by kernel_rfl
 i171:=by kernel_rfl
 i173:=by kernel_rfl
 i212:=by kernel_rfl
 i232:=by kernel_rfl
 i233:=by kernel_rfl
 m17:=by kernel_rfl
 m18:=by kernel_rfl
 m19:=by kernel_rfl}
end Go.Proofs
end
section
namespace Go.Proofs.YtjpmmkodoeipmaaGreatDoor
open Go.Sx Go.RowKit Go.Reg Go.Gr
set_option maxRecDepth 100000
def tI(k:Int)(A:List (Pt×Int))(S:List (List Int)):Da:=.agg [.int .i64 k,.list 3 (A.map Dp),.list 1 (S.map Bh)]
def AFe:List FuncId:=[10]
theorem Zx(x y:Pt×Int)(hx:Dk x.1=none)(hy:Dk y.1=none):Pure C1 37 [Dp x,Dp y] (λz=>z=.bool (decide (x=y))):=by
 have hc:=AEl hx hy
 have he:decide (x=y)=(decide (x.2=y.2)&&decide (D4 x.1 y.1=0)):=by
  rw[<-Bool.decide_and,decide_eq_decide,Ij.eq0]
  exact⟨λh=>⟨by rw[h],by rw[h]⟩,λh=>Prod.ext h.2 h.1⟩
 rw[he]
 refine AU Tryz.func37 Tryz.ntmps37 AFe [] ?_
 by_cases h:x.2=y.2
 ·rw[decide_eq_true h,lT]
  (conv=>whnf)
  (repeat' ((first|refine Aj ?_ ?_|refine Af rfl hc ?_|refine nx ?_|refine AB (λ_=>?_) (λ_=>?_)|exact AE)<;>conv=>whnf))
  exact rfl
 ·rw[decide_eq_false h]
  (conv=>whnf)
  (repeat' ((first|refine Aj ?_ ?_|refine Af rfl hc ?_|refine nx ?_|refine AB (λ_=>?_) (λ_=>?_)|exact AE)<;>conv=>whnf))
  exact rfl
def V7(A:List (Pt×Int)):Prop:=∀x∈A,Dk x.1=none
theorem qG(A B:List (Pt×Int))(hA:V7 A)(hB:V7 B)(_hm:A.length<=1000000)(hm2:B.length<=1000000):Pure C1 36 [.list 3 (A.map Dp),.list 3 (B.map Dp),.func (.func 37) [] []] (λz=>z=.bool (decide (A=B))):=by
 have hdA:(A.map Dp).length=A.length:=Ac _
 have hdB:(B.map Dp).length=B.length:=Ac _
 refine AU Tryz.func36 Tryz.ntmps36 [] [] ?_
 by_cases hl:A.length=B.length
 case neg=>
  rw[decide_eq_false λe=>hl (by rw[e])]
  ((conv=>whnf);repeat' ((first|refine odw ?_|refine nx ?_|refine AB (λ_=>?_) (λ_=>?_))<;>conv=>whnf))
  exact rfl
 ((conv=>whnf);repeat' ((first|refine odw ?_|refine nx ?_|refine AB (λ_=>?_) (λ_=>?_))<;>conv=>whnf))
 refine AQ (ι:=Nat) (λi=>i<=A.length/\A.take i=B.take i) (λi=>[(17,.d (.int .i64 i)),(16,.d (.int .i64 (A.map Dp).length)),(15,.d (.list 3 (A.map Dp))),(2,.d (.func (.func 37) [] [])),(1,.d (.list 3 (B.map Dp)))]) (λ_=>[]) (λi=>A.length-i) 0 (λ_=>rfl) ⟨Am _,rfl⟩ (.refl _ _) ⟨rfl,rfl,rfl,rfl,rfl,trivial⟩ trivial ?_
 rintro i ⟨hi,ht⟩
 refine Ca [] [] ?_
 by_cases hlt:i<A.length
 ·have hx:A[i]? =some A[i]:=Ab hlt
  have hy:B[i]? =some (B[i]'(by omega)):=Ab (by omega)
  have hxm:=hA _ (A6 hx)
  have hym:=hB _ (A6 hy)
  generalize A[i]=x at hx hxm
  generalize B[i]'(by omega)=y at hy hym
  have hxd:(A.map Dp)[i]? =some (.agg [.agg [Bh x.1.labels,ET x.1.edges],.int .i64 x.2]):=by rw[Ad,hx];rfl
  have hyd:(B.map Dp)[i]? =some (.agg [.agg [Bh y.1.labels,ET y.1.edges],.int .i64 y.2]):=by rw[Ad,hy];rfl
  have hc:=Zx x y hxm hym
  by_cases e:x=y
  ·rw[decide_eq_true e]at hc
   (conv=>whnf)
   (repeat' ((first|refine Aj ?_ ?_|refine AO hxd rfl ?_|refine AO hyd rfl ?_|refine Af rfl hc ?_|refine nx ?_|refine AB (λ_=>?_) (λ_=>?_)|exact AE)<;>conv=>whnf))
   exact⟨i+1,_,_,⟨hlt,by rw[Au,Au,ht,hx,hy,e]⟩,.refl _ _,⟨rfl,rfl,rfl,rfl,rfl,trivial⟩,trivial,by omega⟩
  ·rw[decide_eq_false e]at hc
   rw[decide_eq_false (p:=A=B) λh=>e (by rw[h,hy]at hx;exact(Cc hx).symm)]
   (conv=>whnf)
   (repeat' ((first|refine Aj ?_ ?_|refine AO hxd rfl ?_|refine AO hyd rfl ?_|refine Af rfl hc ?_|refine nx ?_|refine AB (λ_=>?_) (λ_=>?_)|exact AE)<;>conv=>whnf))
   exact rfl
 ·rw[Ak (show A.length<=i by omega),Ak (show B.length<=i by omega)]at ht
  rw[decide_eq_true ht]
  ((conv=>whnf);repeat' ((first|refine odw ?_|refine nx ?_|refine AB (λ_=>?_) (λ_=>?_))<;>conv=>whnf))
  exact rfl
theorem qF(A B:List (List Int))(_hm:A.length<=1000000)(hm2:B.length<=1000000):Pure C1 38 [.list 1 (A.map Bh),.list 1 (B.map Bh),.func (.func 39) [] []] (λz=>z=.bool (decide (A=B))):=by
 have hdA:(A.map Bh).length=A.length:=Ac _
 have hdB:(B.map Bh).length=B.length:=Ac _
 refine AU Tryz.func38 Tryz.ntmps38 [] [] ?_
 by_cases hl:A.length=B.length
 case neg=>
  rw[decide_eq_false λe=>hl (by rw[e])]
  ((conv=>whnf);repeat' ((first|refine odw ?_|refine nx ?_|refine AB (λ_=>?_) (λ_=>?_))<;>conv=>whnf))
  exact rfl
 ((conv=>whnf);repeat' ((first|refine odw ?_|refine nx ?_|refine AB (λ_=>?_) (λ_=>?_))<;>conv=>whnf))
 refine AQ (ι:=Nat) (λi=>i<=A.length/\A.take i=B.take i) (λi=>[(17,.d (.int .i64 i)),(16,.d (.int .i64 (A.map Bh).length)),(15,.d (.list 1 (A.map Bh))),(2,.d (.func (.func 39) [] [])),(1,.d (.list 1 (B.map Bh)))]) (λ_=>[]) (λi=>A.length-i) 0 (λ_=>rfl) ⟨Am _,rfl⟩ (.refl _ _) ⟨rfl,rfl,rfl,rfl,rfl,trivial⟩ trivial ?_
 rintro i ⟨hi,ht⟩
 refine Ca [] [] ?_
 by_cases hlt:i<A.length
 ·have hx:A[i]? =some A[i]:=Ab hlt
  have hy:B[i]? =some (B[i]'(by omega)):=Ab (by omega)
  generalize A[i]=x at hx
  generalize B[i]'(by omega)=y at hy
  have hxd:(A.map Bh)[i]? =some (Bh x):=by rw[Ad,hx];rfl
  have hyd:(B.map Bh)[i]? =some (Bh y):=by rw[Ad,hy];rfl
  have hc:=AAc x y
  by_cases e:x=y
  ·rw[decide_eq_true e]at hc
   (conv=>whnf)
   (repeat' ((first|refine Aj ?_ ?_|refine AO hxd rfl ?_|refine AO hyd rfl ?_|refine Af rfl hc ?_|refine nx ?_|refine AB (λ_=>?_) (λ_=>?_)|exact AE)<;>conv=>whnf))
   exact⟨i+1,_,_,⟨hlt,by rw[Au,Au,ht,hx,hy,e]⟩,.refl _ _,⟨rfl,rfl,rfl,rfl,rfl,trivial⟩,trivial,by omega⟩
  ·rw[decide_eq_false e]at hc
   rw[decide_eq_false (p:=A=B) λh=>e (by rw[h,hy]at hx;exact(Cc hx).symm)]
   (conv=>whnf)
   (repeat' ((first|refine Aj ?_ ?_|refine AO hxd rfl ?_|refine AO hyd rfl ?_|refine Af rfl hc ?_|refine nx ?_|refine AB (λ_=>?_) (λ_=>?_)|exact AE)<;>conv=>whnf))
   exact rfl
 ·rw[Ak (show A.length<=i by omega),Ak (show B.length<=i by omega)]at ht
  rw[decide_eq_true ht]
  ((conv=>whnf);repeat' ((first|refine odw ?_|refine nx ?_|refine AB (λ_=>?_) (λ_=>?_))<;>conv=>whnf))
  exact rfl
theorem O7(k k':Int)(A A':List (Pt×Int))(S S':List (List Int))(hA:V7 A)(hA':V7 A')(hm:A.length<=1000000)(hm2:A'.length<=1000000)(hs:S.length<=1000000)(hs2:S'.length<=1000000):Pure C1 13 [tI k A S,tI k' A' S'] (λz=>z=.bool (decide (k=k')&&decide (A=A')&&decide (S=S'))):=by
 have h1:=qG A A' hA hA' hm hm2
 have h2:=qF S S' hs hs2
 refine AU Tryz.func13 Tryz.ntmps13 [] [] ?_
 by_cases hk:k=k'
 ·by_cases hAA:A=A'
  ·rw[decide_eq_true hAA]at h1⊢
   rw[decide_eq_true hk]
   (conv=>whnf)
   (repeat' ((first|refine Aj ?_ ?_|refine Af rfl h1 ?_|refine Af rfl h2 ?_|refine nx ?_|refine AB (λ_=>?_) (λ_=>?_)|exact AE)<;>conv=>whnf))
   exact rfl
  ·rw[decide_eq_false hAA]at h1⊢
   rw[decide_eq_true hk]
   (conv=>whnf)
   (repeat' ((first|refine Aj ?_ ?_|refine Af rfl h1 ?_|refine Af rfl h2 ?_|refine nx ?_|refine AB (λ_=>?_) (λ_=>?_)|exact AE)<;>conv=>whnf))
   exact rfl
 ·rw[decide_eq_false hk]
  (conv=>whnf)
  (repeat' ((first|refine Aj ?_ ?_|refine Af rfl h1 ?_|refine Af rfl h2 ?_|refine nx ?_|refine AB (λ_=>?_) (λ_=>?_)|exact AE)<;>conv=>whnf))
  exact rfl
def Jl(x:Pt×Int):List UInt8:=Lib.itoa x.2++32::(DW x.1++[10])
def P7(s:List Int):List UInt8:=Lib.join (s.map Lib.itoa) [32]++[10]
def VZ(A:List (Pt×Int))(S:List (List Int)):List UInt8:=A.flatMap Jl++S.flatMap P7
theorem zV(n:Int)(h0:-9223372036854775808<=n)(h1:n<=9223372036854775807):Sx.Pure C3 41 [.int .i64 n,.int .i64 10] (λy=>y=.str (bs (Lib.itoa n))):=by
 intro O w us hO hg hr
 obtain⟨v,vs,rfl,h3,h2⟩:=Cg hr
 obtain⟨v2,vs2,rfl,h5,h4⟩:=Cg h2
 obtain rfl:=Dv h4
 obtain rfl:=EW h3
 obtain rfl:=EW h5
 refine⟨by kernel_rfl,(Any.strconv_FormatInt_10 Tryz.fmtL n h0 h1 w (uW hg nD (by kernel_rfl))).mono ?_⟩
 rintro e w' ⟨rfl,k,os,rfl⟩
 refine⟨_,_,rfl,rfl,⟨[_],by simp only[RepC];rfl,rfl⟩,⟨rfl,rfl,rfl,by rw[Go.Sort.size_grow];exact Nat.le_add_right _ _,λb hb _=>Go.Sort.heap_grow_old (w.drewN k) os hb⟩⟩
def gX:List (Nat×Plan):=[(2,.leaf [1,2,1,2,6,2,0] [0,2,1,3,4,5,6] [0,1,0,7,15,31,63])]
def AAO:List FuncId:=[25,26,24]
theorem PE {G:Gr} {c:Cnf}(hJ:JobOk G (decide (c.kind=3)) c.size (J5 c))(hC:CnfOk c)(L:List (List (List Int)))(q:List Int->Pt)(V:List Int->List Int)(hLl:L.length<=1000)(hL:L.flatten.length<=10000)(hR:∀R∈L,R.length<=10000)(hX:∀R∈L,∀X∈R,X.length<=1000)(hq:∀R∈L,∀X∈R,PatAt G (decide (c.kind=3)) c.size (J5 c) q V X):
  Pure C3 9 [Is c,dG G,Pd L] (λy=>y=.tuple [tI c.kind (Hr c.kind c.size.toNat c.sup (λX=>Ce (q X)) (λX=>JR (Nl (q X)) (V X)) L) (I7 c.kind L),.nili]):=by
 have hjb:=Pure.up3 (Rc G c (by have:=hC.l15;omega))
 have hcr:=Pure.up3 (cX hC)
 have hlr:=Pure.up3 (Su hJ)
 have hff:=Pure.up3 eT
 have hk:=hC.kind
 have hsz:=hC.size
 obtain⟨D,hD⟩:=A9 (show 0<=c.size by omega)
 have hDn:c.size.toNat=D:=by omega
 rw[hDn]
 have hk3:c.kind=1\/c.kind=2\/c.kind=3:=by omega
 rcases hk3 with e|e|e
 ·have hm:=XJ (G:=G) (e:=decide (c.kind=3)) (l:=J5 c) D (by omega) (by omega) L q V (λR h=>by have:=hR R h;omega) (by rw[<-hD];exact hq)
  rw[<-hD]at hm
  have eL:Hr c.kind D c.sup (λX=>Ce (q X)) (λX=>JR (Nl (q X)) (V X)) L=(if D<=L.length then Em (((L[D-1]?).getD []).map λX=>Ce (q X))else[]):=by unfold Hr;rw[if_pos e]
  have eS:I7 c.kind L=[]:=by unfold I7;rw[if_neg (by omega)]
  rw[eL,eS]
  generalize (if D<=L.length then Em (((L[D-1]?).getD []).map λX=>Ce (q X))else[])=A at hm
  refine Pure.laxR (Q:=λy=>y=.tuple [.agg [.int .i64 c.kind,.list 3 (A.map Dp),.nils],.nili]) (λy hy=>by rw[hy];exact .tuple (.cons (.agg (.cons (.refl _) (.cons (.refl _) (.cons (.nils 1) .nil)))) (.cons (.refl _) .nil))) ?_
  refine On Tryz.func9 Tryz.ntmps9 AAO gX ?_
  (conv=>whnf)
  (repeat' ((first|refine Aj ?_ ?_|refine Af rfl hjb ?_|refine Af rfl hcr ?_|refine Af rfl hlr ?_|refine Dq 19 rfl ?_|refine Af rfl hff ?_|refine Af rfl hm ?_|refine nx ?_|refine AB (λ_=>?_) (λ_=>?_)|exact AE)<;>conv=>whnf))
  exact rfl
 ·have hm:=VN (G:=G) (e:=decide (c.kind=3)) (d:=c.size) (l:=J5 c) L q V hLl (by omega) hX hq
  have eL:Hr c.kind D c.sup (λX=>Ce (q X)) (λX=>JR (Nl (q X)) (V X)) L=[]:=by unfold Hr;rw[if_neg (by omega),if_pos e]
  have eS:I7 c.kind L=sortC (L.flatten.map KT):=by unfold I7;rw[if_pos e]
  rw[eL,eS]
  generalize sortC (L.flatten.map KT)=S at hm
  refine Pure.laxR (Q:=λy=>y=.tuple [.agg [.int .i64 c.kind,.nils,.list 1 (S.map Bh)],.nili]) (λy hy=>by rw[hy];exact .tuple (.cons (.agg (.cons (.refl _) (.cons (.nils 3) (.cons (.refl _) .nil)))) (.cons (.refl _) .nil))) ?_
  refine On Tryz.func9 Tryz.ntmps9 AAO gX ?_
  (conv=>whnf)
  (repeat' ((first|refine Aj ?_ ?_|refine Af rfl hjb ?_|refine Af rfl hcr ?_|refine Af rfl hlr ?_|refine Dq 19 rfl ?_|refine Af rfl hff ?_|refine Af rfl hm ?_|refine nx ?_|refine AB (λ_=>?_) (λ_=>?_)|exact AE)<;>conv=>whnf))
  exact rfl
 ·have hm:=gO (G:=G) (e:=decide (c.kind=3)) (d:=c.size) (l:=J5 c) L c.sup q V hLl hL hq
  have eL:Hr c.kind D c.sup (λX=>Ce (q X)) (λX=>JR (Nl (q X)) (V X)) L=SI (λX=>Ce (q X)) (λX=>JR (Nl (q X)) (V X)) L.flatten c.sup:=by unfold Hr;rw[if_neg (by omega),if_neg (by omega)]
  have eS:I7 c.kind L=[]:=by unfold I7;rw[if_neg (by omega)]
  rw[eL,eS]
  generalize SI (λX=>Ce (q X)) (λX=>JR (Nl (q X)) (V X)) L.flatten c.sup=A at hm
  refine Pure.laxR (Q:=λy=>y=.tuple [.agg [.int .i64 c.kind,.list 3 (A.map Dp),.nils],.nili]) (λy hy=>by rw[hy];exact .tuple (.cons (.agg (.cons (.refl _) (.cons (.refl _) (.cons (.nils 1) .nil)))) (.cons (.refl _) .nil))) ?_
  refine On Tryz.func9 Tryz.ntmps9 AAO gX ?_
  (conv=>whnf)
  (repeat' ((first|refine Aj ?_ ?_|refine Af rfl hjb ?_|refine Af rfl hcr ?_|refine Af rfl hlr ?_|refine Dq 19 rfl ?_|refine Af rfl hff ?_|refine Af rfl hm ?_|refine nx ?_|refine AB (λ_=>?_) (λ_=>?_)|exact AE)<;>conv=>whnf))
  exact rfl
end Go.Proofs.YtjpmmkodoeipmaaGreatDoor
end
section
namespace Go.Gr
open Go.Proofs.YtjpmmkodoeipmaaGreatDoor
structure JobC(G:Gr)(c:Cnf):Prop where
 ok:G.Ok
 n:G.labels.length<=6
 m:G.edges.length<=8
 cnf:CnfOk c
 size:c.size<=4
 s3:c.kind=3->c.size<=3
 k3:c.kind=3->∀o∈c.keep,o.kind≠1
theorem JobC.job {G:Gr} {c:Cnf}(h:JobC G c):JobOk G (decide (c.kind=3)) c.size (J5 c):=by
 have h15:=h.cnf.l15
 refine⟨h.ok,by have:=h.n;omega,by have:=h.m;omega,λ_=>h.m,h.cnf.size,?_,?_⟩
 ·unfold J5
  split
  ·simp only[Ax];omega
  ·omega
 ·unfold J5
  split
  ·intro o ho
   rcases Ai.1 ho with rfl|ho
   ·decide
   ·exact h.cnf.lok o ho
  ·exact h.cnf.lok
end Go.Gr
namespace Go.Proofs.YtjpmmkodoeipmaaGreatDoor
open Go.Sx Go.RowKit Go.Reg Go.Gr
set_option maxRecDepth 100000
theorem LZ(n m:Int):Pure C1 50 [.int .i64 n,.int .i64 m] (λy=>y=.bool (decide (1<=n/\n<=m))):=by
 refine AU Tryz.func50 Tryz.ntmps50 [] [] ?_
 by_cases h:1<=n
 ·((conv=>whnf);repeat' ((first|refine odw ?_|refine nx ?_|refine AB (λ_=>?_) (λ_=>?_))<;>conv=>whnf))
  exact congrArg Da.bool (decide_eq_decide.2 ⟨λx=>⟨h,x⟩,λx=>x.2⟩)
 ·((conv=>whnf);repeat' ((first|refine odw ?_|refine nx ?_|refine AB (λ_=>?_) (λ_=>?_))<;>conv=>whnf))
  exact congrArg Da.bool (decide_eq_false (λx=>h x.1)).symm
def AFi:List FuncId:=[50]
set_option maxHeartbeats 4000000 in
theorem VO(c:Cnf)(hpl:c.keep.length<=9223372036854775807):Pure C1 16 [Is c] (λy=>(y=.bool true/\CnfOk c)\/y=.bool false):=by
 have hlen:(c.keep.map dO).length=c.keep.length:=Ac _
 have hrr:=VK c.keep hpl
 have hw0:=LZ c.kind 3
 have hw1:=LZ c.size 8
 have hw2:=LZ c.workers 64
 have hw3:=LZ c.cap 1000000
 have hw4:=LZ c.sup 1000000
 refine AU Tryz.func16 Tryz.ntmps16 AFi [] ?_
 (conv=>whnf)
 refine AR rfl hrr ?_
 rintro y (⟨rfl,hl16,hlok⟩|⟨c,i,hc,rfl⟩)
 ·by_cases k15:c.keep.length<=15
  case neg=>
   ((conv=>whnf);repeat' ((first|refine odw ?_|refine nx ?_|refine AB (λ_=>?_) (λ_=>?_))<;>conv=>whnf))
   exact .inr rfl
  by_cases k0:1<=c.kind/\c.kind<=3
  case neg=>
   rw[decide_eq_false k0]at hw0
   (conv=>whnf)
   (repeat' ((first|refine Aj ?_ ?_|refine Af rfl hw0 ?_|refine Af rfl hw1 ?_|refine Af rfl hw2 ?_|refine Af rfl hw3 ?_|refine Af rfl hw4 ?_|refine nx ?_|refine AB (λ_=>?_) (λ_=>?_)|exact AE)<;>conv=>whnf))
   exact .inr rfl
  rw[decide_eq_true k0]at hw0
  by_cases k1:1<=c.size/\c.size<=8
  case neg=>
   rw[decide_eq_false k1]at hw1
   (conv=>whnf)
   (repeat' ((first|refine Aj ?_ ?_|refine Af rfl hw0 ?_|refine Af rfl hw1 ?_|refine Af rfl hw2 ?_|refine Af rfl hw3 ?_|refine Af rfl hw4 ?_|refine nx ?_|refine AB (λ_=>?_) (λ_=>?_)|exact AE)<;>conv=>whnf))
   exact .inr rfl
  rw[decide_eq_true k1]at hw1
  by_cases k2:1<=c.workers/\c.workers<=64
  case neg=>
   rw[decide_eq_false k2]at hw2
   (conv=>whnf)
   (repeat' ((first|refine Aj ?_ ?_|refine Af rfl hw0 ?_|refine Af rfl hw1 ?_|refine Af rfl hw2 ?_|refine Af rfl hw3 ?_|refine Af rfl hw4 ?_|refine nx ?_|refine AB (λ_=>?_) (λ_=>?_)|exact AE)<;>conv=>whnf))
   exact .inr rfl
  rw[decide_eq_true k2]at hw2
  by_cases k3:1<=c.cap/\c.cap<=1000000
  case neg=>
   rw[decide_eq_false k3]at hw3
   (conv=>whnf)
   (repeat' ((first|refine Aj ?_ ?_|refine Af rfl hw0 ?_|refine Af rfl hw1 ?_|refine Af rfl hw2 ?_|refine Af rfl hw3 ?_|refine Af rfl hw4 ?_|refine nx ?_|refine AB (λ_=>?_) (λ_=>?_)|exact AE)<;>conv=>whnf))
   exact .inr rfl
  rw[decide_eq_true k3]at hw3
  by_cases e:c.kind=3
  ·by_cases k5:1<=c.sup/\c.sup<=1000000
   ·rw[decide_eq_true k5]at hw4
    (conv=>whnf)
    (repeat' ((first|refine Aj ?_ ?_|refine Af rfl hw0 ?_|refine Af rfl hw1 ?_|refine Af rfl hw2 ?_|refine Af rfl hw3 ?_|refine Af rfl hw4 ?_|refine nx ?_|refine AB (λ_=>?_) (λ_=>?_)|exact AE)<;>conv=>whnf))
    exact .inl ⟨rfl,⟨k0,k1,k2,k3,k15,hlok,by rw[if_pos e];exact k5⟩⟩
   ·rw[decide_eq_false k5]at hw4
    (conv=>whnf)
    (repeat' ((first|refine Aj ?_ ?_|refine Af rfl hw0 ?_|refine Af rfl hw1 ?_|refine Af rfl hw2 ?_|refine Af rfl hw3 ?_|refine Af rfl hw4 ?_|refine nx ?_|refine AB (λ_=>?_) (λ_=>?_)|exact AE)<;>conv=>whnf))
    exact .inr rfl
  ·by_cases k5:c.sup=0
   ·(conv=>whnf)
    (repeat' ((first|refine Aj ?_ ?_|refine Af rfl hw0 ?_|refine Af rfl hw1 ?_|refine Af rfl hw2 ?_|refine Af rfl hw3 ?_|refine Af rfl hw4 ?_|refine nx ?_|refine AB (λ_=>?_) (λ_=>?_)|exact AE)<;>conv=>whnf))
    exact .inl ⟨congrArg Da.bool (decide_eq_true k5),⟨k0,k1,k2,k3,k15,hlok,by rw[if_neg e];exact k5⟩⟩
   ·(conv=>whnf)
    (repeat' ((first|refine Aj ?_ ?_|refine Af rfl hw0 ?_|refine Af rfl hw1 ?_|refine Af rfl hw2 ?_|refine Af rfl hw3 ?_|refine Af rfl hw4 ?_|refine nx ?_|refine AB (λ_=>?_) (λ_=>?_)|exact AE)<;>conv=>whnf))
    exact .inr (congrArg Da.bool (decide_eq_false k5))
 ·((conv=>whnf);repeat' ((first|refine odw ?_|refine nx ?_|refine AB (λ_=>?_) (λ_=>?_))<;>conv=>whnf))
  exact .inr rfl
def ADJ:List (Nat×Plan):=[(1,.leaf [0,1,0,1,0,1,0,1,0,1,0,1,2,0,3] [0,2,4,6,8,10,1,3,5,7,9,11,12,13,14] [0,1,0,4,0,16,0,64,0,256,0,1024,3072,8191,16383])]
def AF1:List FuncId:=[51]
theorem jK(c:Cnf)(hpl:c.keep.length<=500):Pure C1 17 [Is c] (λy=>y=Is c):=by
 have hof:=Yn c.keep (by omega)
 refine AU Tryz.func17 Tryz.ntmps17 AF1 ADJ ?_
 (conv=>whnf)
 (repeat' ((first|refine Aj ?_ ?_|refine Af rfl hof ?_|refine nx ?_|refine AB (λ_=>?_) (λ_=>?_)|exact AE)<;>conv=>whnf))
 exact rfl
def AD6:Da:=.tuple [.nilp,.agg [.nils,.nils],.agg [.int .i64 0,.int .i64 0,.int .i64 0,.int .i64 0,.int .i64 0,.nils],.bool false]
def gY:List (Nat×Plan):=[(9,.leaf [0,1,1,2,0,3,3,0] [0,1,2,3,4,5,6,7] [0,0,0,4,13,31,63,127])]
def AAP:List FuncId:=[17]
set_option maxHeartbeats 4000000 in
theorem gN(labels:List Int)(edges:List Edg)(c:Cnf):Pure C1 6 [Bh labels,ET edges,Is c] (λy=>y=AD6\/∃G,y=.tuple [dG G,dM G.labels G.edges,Is c,.bool true]/\JobC G c):=by
 refine Pure.assume (P:=c.keep.length<=9223372036854775807) (λO w us hr=>?_) λhpl=>?_
 ·obtain⟨v0,vs0,rfl,_,h0⟩:=Cg hr
  obtain⟨v1,vs1,rfl,_,h1⟩:=Cg h0
  obtain⟨v,vs,rfl,⟨cs,h2,_⟩,_⟩:=Cg h1
  simp only[Is,RepC,RepCs]at h2
  obtain⟨_,_,_,_,_,_,_,_,_,_,_,_,_,_,_,_,_,_,_,_,c6,_,_,h6,_⟩:=h2
  have:=ABD (l:=c.keep) (v:=DZ (JS c.keep) c6) ⟨c6,h6,rfl⟩
  exact this
 have hll:(labels.map dI).length=labels.length:=Ac _
 have hel:(edges.map dE).length=edges.length:=Ac _
 have hkl:(c.keep.map dO).length=c.keep.length:=Ac _
 have hmd:=WR labels edges
 have hrt:=VO c hpl
 refine AU Tryz.func6 Tryz.ntmps6 AAP gY ?_
 (conv=>whnf)
 rcases rU labels edges with hy|⟨G,hy,hG,_,hm,hGe,_,hlen⟩
 ·rw[hy]at hmd
  (repeat' ((first|refine Aj ?_ ?_|refine Af rfl hmd ?_|refine nx ?_|refine AB (λ_=>?_) (λ_=>?_)|exact AE)<;>conv=>whnf))
  exact .inl rfl
 rw[hy]at hmd
 have hGl:G.labels=labels:=by rw[hGe]
 by_cases h6:6<labels.length
 ·(repeat' ((first|refine Aj ?_ ?_|refine Af rfl hmd ?_|refine nx ?_|refine AB (λ_=>?_) (λ_=>?_)|exact AE)<;>conv=>whnf))
  exact .inl rfl
 by_cases h8:8<edges.length
 ·(repeat' ((first|refine Aj ?_ ?_|refine Af rfl hmd ?_|refine nx ?_|refine AB (λ_=>?_) (λ_=>?_)|exact AE)<;>conv=>whnf))
  exact .inl rfl
 (repeat' ((first|refine Aj ?_ ?_|refine Af rfl hmd ?_|refine nx ?_|refine AB (λ_=>?_) (λ_=>?_)|exact AE)<;>conv=>whnf))
 refine AR rfl hrt ?_
 rintro y (⟨rfl,hC⟩|rfl)
 case inr=>
  ((conv=>whnf);repeat' ((first|refine odw ?_|refine nx ?_|refine AB (λ_=>?_) (λ_=>?_))<;>conv=>whnf))
  exact .inl rfl
 have hof:=jK c (by have:=hC.l15;omega)
 by_cases s4:4<c.size
 ·((conv=>whnf);repeat' ((first|refine odw ?_|refine nx ?_|refine AB (λ_=>?_) (λ_=>?_))<;>conv=>whnf))
  exact .inl rfl
 by_cases k3:c.kind=3
 ·by_cases s3:3<c.size
  ·((conv=>whnf);repeat' ((first|refine odw ?_|refine nx ?_|refine AB (λ_=>?_) (λ_=>?_))<;>conv=>whnf))
   exact .inl rfl
  ((conv=>whnf);repeat' ((first|refine odw ?_|refine nx ?_|refine AB (λ_=>?_) (λ_=>?_))<;>conv=>whnf))
  refine AQ (ι:=Nat) (λi=>i<=c.keep.length/\(c.kind=3->∀o∈c.keep.take i,o.kind≠1)) (λi=>[(13,.d (.int .i64 i)),(11,.own 11),(10,.d (dG G)),(8,.own 8),(7,.own 7),(5,.own 5)]) (λ_=>[(5,.cells 26 [.d (.int .i64 c.kind),.d (.int .i64 c.size),.d (.int .i64 c.sup),.d (.int .i64 c.workers),.d (.int .i64 c.cap),.d (JS c.keep)]),(7,.cells 30 [.d .nils,.d .nils]),(8,.cells 34 [.d (.int .i64 0),.d (.int .i64 0),.d (.int .i64 0),.d (.int .i64 0),.d (.int .i64 0),.d .nils]),(11,.cells 30 [.d (Bh G.labels),.d (ET G.edges)])]) (λi=>c.keep.length-i) 0 (λ_=>rfl) ⟨Am _,λ_ o ho=>(by cases ho)⟩ (.refl _ _) ⟨rfl,rfl,rfl,rfl,rfl,rfl,trivial⟩ ⟨rfl,rfl,rfl,rfl,trivial⟩ ?_
  rintro i ⟨hi,hk⟩
  refine Ca AAP gY ?_
  by_cases hil:i<c.keep.length
  ·have hx:=Ab hil
   have htk:c.keep.take (i+1)=c.keep.take i++[c.keep[i]]:=by rw[Au,hx];rfl
   generalize c.keep[i]=o at hx htk
   have hxd:(c.keep.map dO)[i]? =some (.agg [.int .i64 o.kind,.int .i64 o.n]):=by rw[Ad,hx];rfl
   by_cases h1:o.kind=1
   ·(conv=>whnf)
    (repeat' ((first|refine Aj ?_ ?_|refine AO hxd rfl ?_|refine nx ?_|refine AB (λ_=>?_) (λ_=>?_)|exact AE)<;>conv=>whnf))
    exact .inl rfl
   ·(conv=>whnf)
    (repeat' ((first|refine Aj ?_ ?_|refine AO hxd rfl ?_|refine nx ?_|refine AB (λ_=>?_) (λ_=>?_)|exact AE)<;>conv=>whnf))
    exact⟨i+1,_,_,⟨hil,λe p hp=>by
     rw[htk]at hp
     rcases Ag.1 hp with h|h
     ·exact hk e p h
     ·rw[As.1 h];exact h1⟩,.refl _ _,⟨rfl,rfl,rfl,rfl,rfl,rfl,trivial⟩,⟨rfl,rfl,rfl,rfl,trivial⟩,by omega⟩
  ·rw[Ak (show c.keep.length<=i by omega)]at hk
   (conv=>whnf)
   (repeat' ((first|refine Aj ?_ ?_|refine Af rfl hof ?_|refine nx ?_|refine AB (λ_=>?_) (λ_=>?_)|exact AE)<;>conv=>whnf))
   exact .inr ⟨G,rfl,hG,by rw[hGl];omega,by omega,hC,by omega,λ_=>by omega,hk⟩
 ·((conv=>whnf);repeat' ((first|refine odw ?_|refine nx ?_|refine AB (λ_=>?_) (λ_=>?_))<;>conv=>whnf))
  refine AQ (ι:=Nat) (λi=>i<=c.keep.length/\(c.kind=3->∀o∈c.keep.take i,o.kind≠1)) (λi=>[(13,.d (.int .i64 i)),(11,.own 11),(10,.d (dG G)),(8,.own 8),(7,.own 7),(5,.own 5)]) (λ_=>[(5,.cells 26 [.d (.int .i64 c.kind),.d (.int .i64 c.size),.d (.int .i64 c.sup),.d (.int .i64 c.workers),.d (.int .i64 c.cap),.d (JS c.keep)]),(7,.cells 30 [.d .nils,.d .nils]),(8,.cells 34 [.d (.int .i64 0),.d (.int .i64 0),.d (.int .i64 0),.d (.int .i64 0),.d (.int .i64 0),.d .nils]),(11,.cells 30 [.d (Bh G.labels),.d (ET G.edges)])]) (λi=>c.keep.length-i) 0 (λ_=>rfl) ⟨Am _,λ_ o ho=>(by cases ho)⟩ (.refl _ _) ⟨rfl,rfl,rfl,rfl,rfl,rfl,trivial⟩ ⟨rfl,rfl,rfl,rfl,trivial⟩ ?_
  rintro i ⟨hi,hk⟩
  refine Ca AAP gY ?_
  by_cases hil:i<c.keep.length
  ·have hx:=Ab hil
   have htk:c.keep.take (i+1)=c.keep.take i++[c.keep[i]]:=by rw[Au,hx];rfl
   generalize c.keep[i]=o at hx htk
   have hxd:(c.keep.map dO)[i]? =some (.agg [.int .i64 o.kind,.int .i64 o.n]):=by rw[Ad,hx];rfl
   (conv=>whnf)
   (repeat' ((first|refine Aj ?_ ?_|refine AO hxd rfl ?_|refine nx ?_|refine AB (λ_=>?_) (λ_=>?_)|exact AE)<;>conv=>whnf))
   exact⟨i+1,_,_,⟨hil,λe=>absurd e k3⟩,.refl _ _,⟨rfl,rfl,rfl,rfl,rfl,rfl,trivial⟩,⟨rfl,rfl,rfl,rfl,trivial⟩,by omega⟩
  ·rw[Ak (show c.keep.length<=i by omega)]at hk
   (conv=>whnf)
   (repeat' ((first|refine Aj ?_ ?_|refine Af rfl hof ?_|refine nx ?_|refine AB (λ_=>?_) (λ_=>?_)|exact AE)<;>conv=>whnf))
   exact .inr ⟨G,rfl,hG,by rw[hGl];omega,by omega,hC,by omega,λ_=>by omega,hk⟩
end Go.Proofs.YtjpmmkodoeipmaaGreatDoor
end
section
namespace Go.Proofs.YtjpmmkodoeipmaaGreatDoor
open Go.Sx Go.RowKit Go.Reg Go.Gr
section
variable {G:Gr} {e:Bool} {d:Int} {l:List Opp}
theorem Z0(h:JobOk G e d l) {k:Nat} {X:List Int}(hX:X∈CF (CL G e) (Ld G e l) k):X≠[]/\X.length=k+1/\C9 (CL G e) X=true/\(Tp G e X).length<=8:=by
 have hok:=JV h.ok (by have:=h.n;omega) h.m e
 obtain⟨h1,h2,h3⟩:=(Hm hok k).1 hX
 have hl:=II hok h1
 unfold lH at h3
 have hp:=Dn.1 h3 (X.length-1) (AN.2 (by omega))
 rw[show X.length-1+1=X.length by omega,E0]at hp
 rw[ADB h hl,Ar,decide_eq_true_eq]at hp
 exact⟨λe=>by rw[e]at h2;simp at h2,h2,hl,hp.1⟩
theorem Xk {E:List Edg}:∀{l:List Int},(∀u∈l,0<=u/\u<E.length)->(C0 E l).length=l.length
 |[],_=>rfl
 |
  u::l,h=>by
  have h1:=h u (by simp)
  obtain⟨m,rfl⟩:=A9 h1.1
  have hx:=Ab (l:=E) (i:=m) (by omega)
  have ih:=Xk (l:=l) λv hv=>h v (by simp[hv])
  unfold C0 at ih⊢
  rw[List.filterMap_cons_some (b:=E[m]'(by omega)) (by rw[if_pos h1,Bi];exact hx),Ax,Ax,ih]
theorem AE6(h:JobOk G e d l) {X:List Int}(h0:X≠[])(hl:C9 (CL G e) X=true):Tp G e X≠[]/\(Tp G e X).Nodup:=by
 cases e with
 |false=>exact⟨h0,OP hl⟩
 |
  true=>
  have hr:=jB h hl
  have hs:=KN (C0 G.edges X)
  refine⟨λe=>?_,hs.1⟩
  have hlen:=Xk hr
  cases hE:C0 G.edges X with
  |nil=>rw[hE]at hlen;exact h0 (AF hlen.symm)
  |
   cons y E=>
   have:y.a∈C8 (C0 G.edges X):=(hs.2 _).2 ⟨y,by rw[hE];exact .head _,.inl rfl⟩
   have e2:C8 (C0 G.edges X)=[]:=e
   rw[e2]at this;cases this
theorem ADN(h:JobOk G e d l) {k:Nat}(hk:k<=500) {X:List Int}(hX:X∈CF (CL G e) (Ld G e l) k):PatAt G e d l (Jb G e) (Tp G e) X:=by
 obtain⟨h0,hlen,hl,h8⟩:=Z0 h hX
 obtain⟨v0,vn⟩:=AE6 h h0 hl
 have hlb:(Jb G e X).labels=(Tp G e X).map (EO G):=by cases e<;>rfl
 refine⟨ZL h hl h8,λe=>v0 (List.map_eq_nil_iff.1 (hlb▸e)),by rw[hlb,Ac],vn,?_⟩
 have:=Ot h X h0 (by omega)
 rwa [xS h hl h8]at this
theorem mJ {w:Gr} {ps:List Int->Bool} {D:Nat} {R:List (List Int)}(hR:R∈FO w ps D):∃k,k<D/\R=CF w ps k:=by
 obtain⟨k,hk⟩:=EV.1 hR
 have:=(Ae.1 hk).1
 exact⟨k,Bv this (Uc w ps D),AB1 hk⟩
theorem Zy(h:JobOk G e d l) {D:Nat}(hD:D<=8) {R:List (List Int)}(hR:R∈FO (CL G e) (Ld G e l) D) {X:List Int}(hX:X∈R):PatAt G e d l (Jb G e) (Tp G e) X/\X.Nodup/\X.length<=8:=by
 obtain⟨k,hk,rfl⟩:=mJ hR
 obtain⟨_,hlen,hl,_⟩:=Z0 h hX
 exact⟨ADN h (by omega) hX,OP hl,by omega⟩
theorem wB(h:JobOk G e d l) {D:Nat}(hD:D<=8):(FO (CL G e) (Ld G e l) D).flatten.length<=2048/\∀R∈FO (CL G e) (Ld G e l) D,R.length<=256:=by
 have hok:=JV h.ok (by have:=h.n;omega) h.m e
 have hsm:=Nz h
 have hr:∀R∈FO (CL G e) (Ld G e l) D,R.length<=256:=λR hR=>by
  obtain⟨k,hk,rfl⟩:=mJ hR
  exact BI (Ug hok _ k) (BI (JQ (by decide) hsm) (by decide))
 refine⟨?_,hr⟩
 have h8:=Uc (CL G e) (Ld G e l) D
 generalize FO (CL G e) (Ld G e l) D=L at hr h8
 suffices H:∀L:List (List (List Int)),(∀R∈L,R.length<=256)->L.flatten.length<=256*L.length by
  have:=H L hr
  omega
 intro L hr
 induction L with
 |nil=>simp
 |
  cons R L ih=>
  have h1:=hr R (.head _)
  have h2:=ih λS hS=>hr S (.tail _ hS)
  simp only[Cs,Ah,Ax];omega
theorem vP {X:List Int}(h:X.Nodup):D3 (KT X)=KT X:=by
 refine TK ?_
 have hp:(KT X).Perm X:=L5 _ _
 have h1:(KT X).Pairwise λx y=>x<=y:=by
  have:=NM (le:=λx y:Int=>decide (x<=y)) (λa b c h1 h2=>by
   simp only[decide_eq_true_eq]at*;omega) (λa b=>by
   simp only[Dj,decide_eq_true_eq];omega) X
  exact this.imp λh=>by simpa using h
 have h2:(KT X).Nodup:=hp.nodup_iff.2 h
 exact(h1.and h2).imp λh=>by omega
end
end Go.Proofs.YtjpmmkodoeipmaaGreatDoor
end
section
namespace Go.Sx
open Go Go.RowKit Go.Reg
section
variable {C:Cx} {T:Hb} {B S:List Nat} {w0 w w':World} {n kd:Nat} {fr:Fr} {σ:Sg} {η:Nat->Value} {φ:Nat->List Nat} {a:Act}
theorem Models.absn(hM:Models C B S w0 n fr σ η φ a w) {i:Nat} {t:TypeId} {ds:List Dat}(r:Absn)(hg:BJ i σ=some (.cells t ds))(hr:∀η I O w v F,(Own.cells t ds).holds η I O w v F->r.R w v F):Models C B S w0 n fr (AX id i r.own σ) η φ a w:=by
 have hi:=AW (AT hg)
 have he:CE φ i (φ i)=φ:=by funext j;by_cases e:j=i<;>simp[CE,e]
 have hll:=Later.turn (X:=[]) (w':=w) B (Tch.refl [] w) (by simp) hi (F:=φ i) (λb hb=>.inl hb) id r.own
 have:=hM.mem.turnSame (X:=[]) (w':=w) (Tch.refl [] w) (by simp) hi (F:=φ i) (λb hb=>.inl hb) (o:=r.own) (hr _ _ _ _ _ _ (hM.mem.own _ (AT hg)))
 rw[he]at this hll
 exact⟨this,hM.fr.later hll (λj hj=>⟨by rw[AY];exact hj,rfl⟩),hM.defers,hM.size⟩
theorem tT {c:Code} {K:KE}(i:Nat)(r:Absn) {t:TypeId} {ds:List Dat}(hg:BJ i σ=some (.cells t ds))(hr:∀η I O w v F,(Own.cells t ds).holds η I O w v F->r.R w v F)(h:Ch (AX id i r.own σ) λσ=>F9 C n c K fr σ):F9 C n c K fr σ:=by
 rw[Bw]at h
 refine Cb.2 λB S w0 η φ a w hM=>?_
 exact Cb.1 h B S w0 η φ a w (hM.absn r hg hr)
end
theorem Rg {w w':World} {S:List Nat} {e:TypeId} {v:Value} {k:Nat} {xs:List Value}(h:w.ownsRowF 0 e 1 v k xs)(t:Tch S w w')(hS:∀g,v.ownBlock=some g->g∉S):w'.ownsRowF 0 e 1 v k xs:=by
 refine⟨h.1,?_⟩
 rcases h.2 with hn|⟨g,cap,cur,fz,rfl,hb,hgg,rest⟩
 ·exact .inl hn
 ·exact .inr ⟨g,cap,cur,fz,rfl,hb,by rw[t.blk g (Al.1 hgg).1 (hS g rfl)];exact hgg,rest⟩
def ACU:Absn where
 R _ v F:=F=[]/\v.oneCell'=true
 keep:=by rintro S w w' v F h _ _;exact h
 lt:=by rintro w v F ⟨rfl,_⟩ x hx;cases hx
 one:=by rintro w v F ⟨_,h⟩;exact h
def AET(T e:TypeId)(l:List UInt8):Absn where
 R w v F:=∃b p sv,v=.pointer (some ⟨b,0,none⟩)/\F=b::sv.ownBlock.toList/\(p=.pointer none\/p=.pointer (some ⟨b,0,none⟩))/\w.heap[b]? =some (.cells #[p,sv] T (0,0))/\w.ownsRowF 0 e 1 sv l.length (Lib.byteCells l)/\(l=[]->sv=.slice none 0 0)
 keep:=by
  rintro S w w' v F ⟨b,p,sv,rfl,rfl,h1,h2,h3,h4⟩ t hd
  exact⟨b,p,sv,rfl,rfl,h1,by rw[t.blk b (Al.1 h2).1 (hd b (.head _))];exact h2,Rg h3 t (λg hg=>hd g (by simp[hg])),h4⟩
 lt:=by
  rintro w v F ⟨b,p,sv,rfl,rfl,h1,h2,h3,h4⟩ x hx
  rcases Ai.1 hx with rfl|hx
  ·exact(Al.1 h2).1
  ·exact(h3.lt x (by simpa using hx)).2
 one:=by rintro w v F ⟨b,p,sv,rfl,_⟩;rfl
theorem AC3 {T e:TypeId} {η:Nat->Value} {I O:List Nat} {w:World} {v:Value} {F:List Nat}(h:(Own.cells T [.d .nilp,.d .nils]).holds η I O w v F):(AET T e []).R w v F:=by
 obtain⟨b,cs,rfl,rfl,h1,h2⟩:=h
 simp only[B6,AJ,RepC]at h2
 obtain⟨c1,c2,rfl,rfl,c3,c4,rfl,rfl,rfl⟩:=h2
 exact⟨b,_,_,rfl,rfl,.inl rfl,h1,World.ownsRowF_nil _ _ _ _,λ_=>rfl⟩
theorem ABz {P:Program}(w:World)(t u ty e:TypeId)(i:TypeInfo)(ht:P.underlying t=some (.slice e))(hu:P.underlying u=some .string)(hi:P.info? e=some i)(hz:i.zero=some (.int .u8 0))(hsize:i.size=1)(hby:i.bytes=1)
  (v:Value) (n:Nat) (xs:List Value) (hown:w.ownsRowF 0 e 1 v n xs) (s:ByteArray) (h63:n+s.size<=maxLen) (hbytes:n+s.size<=140737488355328):
  ∃v' w',(Builtin.append_ #[t,u] ty #[v,.string s]).run P w=.ok v' w'/\w'.ownsRowF 0 e 1 v' (n+s.size) (xs++Lib.strCells s)/\w.grownBy w' v.ownBlock/\(v'=.slice none 0 0↔v=.slice none 0 0/\s.size=0)/\∀g,v'.ownBlock=some g->v.ownBlock=some g\/w.heap.size<=g:=by
 rcases hown.2 with⟨rfl,rfl⟩|⟨g,cap,cur,fz,rfl,hbg,hg,hfz,hnc,hcm,hcs,htake⟩
 ·obtain⟨v',w',h1,h2,h3,h4⟩:=Lib.run_append_own_stringF (P:=P) w w.heap.size t u ty e i ht hu hi hz hsize hby (.slice none 0 0) 0 xs ⟨hown.1,.inl ⟨rfl,rfl⟩⟩ s h63 hbytes (Ay _)
  refine⟨v',w',h1,⟨h2.1,?_⟩,h3,h4,λg hg=>.inr (h2.lt g hg).1⟩
  rcases h2.2 with hn|⟨g,cap,cur,fz,h5,_,h6⟩
  ·exact .inl hn
  ·exact .inr ⟨g,cap,cur,fz,h5,Am _,h6⟩
 ·by_cases hroom:n+s.size<=cap
  ·obtain⟨v',w',h1,h2,h3,h4⟩:=Lib.run_append_own_stringF (P:=P) w 0 t u ty e i ht hu hi hz hsize hby _ n xs hown s h63 hbytes (Am _)
   refine⟨v',w',h1,h2,h3,h4,λg' hg'=>.inl ?_⟩
   have hcs2:cur.size=cap:=by simpa using hcs
   have hroom2:n+s.size<=cur.size:=by omega
   have hr:=Lib.run_append_room_stringF (P:=P) w t u ty e i ht hu hi hsize g n cap cur fz hg (by simpa using hfz) s hroom hroom2
   rw[hr]at h1
   injection h1 with h1 _
   rw[<-h1]at hg'
   exact hg'
  ·obtain⟨v',w',h1,h2,h3,h4⟩:=Lib.run_append_own_stringF (P:=P) w 0 t u ty e i ht hu hi hz hsize hby _ n xs hown s h63 hbytes (Am _)
   refine⟨v',w',h1,h2,h3,h4,λg' hg'=>.inr ?_⟩
   have holds:∀j u,xs[j]? =some u->w.cell? ((⟨g,0,none⟩:Addr).add j)=some u:=hown.cells (g:=g) rfl
   have hxl:xs.length=n:=by simpa using hown.1
   have hsmall:n+s.size<=9223372036854775807:=by simp only[maxLen]at h63;omega
   have hr:=Lib.run_append_grow_string (P:=P) w t u ty e i (.int .u8 0) ht hu hi hz ⟨g,0,none⟩ n cap xs (by rw[hsize];simpa using hxl) holds s (by omega) (by omega) (by rw[hby];exact growslice_fits (by omega) (by omega))
   rw[hr]at h1
   injection h1 with h1 _
   rw[<-h1]at hg'
   simp only[Value.ownBlock,AD]at hg'
   omega
theorem ADz {P:Program} {w:World} {ops:Array Oper} {rest:List Oper} {o:Oper} {a:Act} {Q:Exit->Act->World->Prop}(hgd:o.guard=none)(sl x:Operand)(t u:TypeId)
  (ho:o.op=.call {callee:=.builtin .append,args:=#[sl,x],argTypes:=#[t,u]})
  (e:TypeId) (i:TypeInfo) (ht:P.underlying t=some (.slice e)) (hu:P.underlying u=some .string) (hi:P.info? e=some i) (hz:i.zero=some (.int .u8 0))
  (hsize:i.size=1) (hby:i.bytes=1)
  (v:Value) (n:Nat) (xs:List Value) (hs:a.eval sl=v) (hown:w.ownsRowF 0 e 1 v n xs) (s:ByteArray) (hx:a.eval x=.string s)
  (h63:n+s.size<=maxLen) (hbytes:n+s.size<=140737488355328)
  (h:∀v' w',w'.ownsRowF 0 e 1 v' (n+s.size) (xs++Lib.strCells s)->w.grownBy w' v.ownBlock->(v'=.slice none 0 0↔v=.slice none 0 0/\s.size=0)->(∀g,v'.ownBlock=some g->v.ownBlock=some g\/w.heap.size<=g)->wpList P ops Q rest (a.put o.dst v') w'):wpList P ops Q (o::rest) a w:=by
 refine wpList_plain hgd λK hK=>?_
 obtain⟨v',w',hr,h2,h3,h4,h5⟩:=ABz (P:=P) w t u o.type e i ht hu hi hz hsize hby v n xs hown s h63 hbytes
 unfold Oper.wp execOp
 simp only[ho,resolve,invoke,builtin,AK,Bn,AH,HW,Ap,Bt,hs,hx,hr]
 exact hK _ _ (h v' w' h2 h3 h4 h5)
end Go.Sx
namespace Go.Proofs.YtjpmmkodoeipmaaGreatDoor
open Go.Sx Go.RowKit Go.Reg Go.Gr
set_option maxRecDepth 100000
theorem bH:(Tryz.prog.info? 99).map (·.size)=some 2:=by kernel_rfl
theorem ABS:(Tryz.prog.info? 5).map (λi=>(i.zero,i.size,i.bytes))=some (some (.int .u8 0),1,1):=by kernel_rfl
theorem zG:liesAt Tryz.prog Tryz.prog.depth 99 (2/Tryz.prog.cellsOf 99) 0 99 1=true:=by kernel_rfl
set_option maxHeartbeats 1000000 in
theorem AC1(b:Nat)(w:World)(h0:w.cell? ⟨b,0,none⟩=some (.pointer (some ⟨b,0,none⟩))):
  Calls Tryz.prog 81 #[.pointer (some ⟨b,0,none⟩)] w λe w'=>e=.returned (.tuple #[])/\w'=w:=by
 obtain⟨j,hj,_⟩:=Ck.1 bH
 go_enter Tryz.func81,Tryz.ntmps81
 go_wp2
 rw[Lib.run_neq_ptr_same w _ Tryz.underlying96 hj]
 go_wp2
 go_end0
 exact⟨rfl,rfl⟩
set_option maxHeartbeats 1000000 in
theorem AAy(b:Nat)(w:World)(h0:w.cell? ⟨b,0,none⟩=some (.pointer none))(hsh:w.shape? b=some (99,2))(hfz:w.frozen? ⟨b,0,none⟩=false):
  Calls Tryz.prog 81 #[.pointer (some ⟨b,0,none⟩)] w λe w'=>e=.returned (.tuple #[])/\w'=w.setCell ⟨b,0,none⟩ (.pointer (some ⟨b,0,none⟩)):=by
 obtain⟨j,hj,hjs⟩:=Ck.1 bH
 go_enter Tryz.func81,Tryz.ntmps81
 go_wp2
 rw[Lib.run_to_unsafe w ⟨b,0,none⟩ Tryz.underlying96 Tryz.underlying212 hj (by rw[hjs];decide) hsh (Nat.zero_lt_succ 1)]
 simp only[Result.andThen]
 rw[Oper.upon_value]
 go_wp2
 rw[run_callFunc_extern Tryz.func131 (by kernel_rfl) (by kernel_rfl) (by kernel_rfl) (e:=Extern.AbiNoEscape.same) (by kernel_rfl)]
 rw[Lib.run_noEscape]
 simp only[Result.andThen]
 rw[Oper.upon_value]
 go_wp2
 rw[Lib.run_from_unsafe w ⟨b,0,none⟩ Tryz.underlying212 Tryz.underlying96 hj hsh zG]
 simp only[Result.andThen]
 rw[Oper.upon_value]
 go_wp2
 go_end0
 exact⟨rfl,rfl⟩
def bld(l:List UInt8):Absn:=AET 99 5 l
theorem AEn(b:Nat)(p sv:Value)(w:World)(hp:p=.pointer none\/p=.pointer (some ⟨b,0,none⟩))(hb:w.heap[b]? =some (.cells #[p,sv] 99 (0,0))):
  Calls Tryz.prog 81 #[.pointer (some ⟨b,0,none⟩)] w λe w'=>e=.returned (.tuple #[])/\w'.heap[b]? =some (.cells #[.pointer (some ⟨b,0,none⟩),sv] 99 (0,0))/\Tch [b] w w':=by
 have hB:IT w b 99 [p,sv]:=hb
 rcases hp with rfl|rfl
 ·refine(AAy b w (hB.cell (i:=0) rfl) (by simp[World.shape?,hb]) (hB.frozen 0)).mono ?_
  rintro e w' ⟨rfl,rfl⟩
  exact⟨rfl,hB.set 0 _,Tch.setCell w (.inl (.head _)) _⟩
 ·refine(AC1 b w (hB.cell (i:=0) rfl)).mono ?_
  rintro e w' ⟨rfl,rfl⟩
  exact⟨rfl,hb,Tch.refl _ _⟩
theorem sI {w w':World} {row:Option Nat}(h:w.grownBy w' row):Tch row.toList w w':=⟨h.os,h.tape,h.output,h.size,λk hk hn=>h.block k hk (λe=>hn (by rw[<-e];exact .head _))⟩
set_option maxHeartbeats 2000000 in
theorem YN(l s:List UInt8)(hl:l.length+s.length<=1000000000):Th C3 40 (bld l) [.str (bs s)] (λy r'=>y=.tuple [.int .i64 s.length,.nili]/\r'=bld (l++s)):=by
 rintro O w v F us ⟨b,p,sv,rfl,rfl,hp,hb,hown,hnil⟩ hF hO hg hr
 obtain⟨v1,vs,rfl,h1,h2⟩:=Cg hr
 obtain rfl:=Dv h2
 obtain rfl:=PF h1
 clear hr h1 h2 hg hO hF
 refine⟨by kernel_rfl,?_⟩
 have hblt:b<w.heap.size:=(Al.1 hb).1
 have hne:sv.ownBlock≠some b:=Lib.ownBlock_neF hown hb (by decide)
 obtain⟨i0,hi,hz0,hz1,hz2⟩:=info_parts ABS
 have hcc:=AEn b p sv w hp hb
 show Calls Tryz.prog _ _ _ _
 go_enter Tryz.func40,Tryz.ntmps40
 go_wp2_with fail
 refine hcc.mono ?_
 rintro e w1 ⟨rfl,hb1,ht1⟩
 have own1:=Rg hown ht1 (by intro g hg hx;simp at hx;subst hx;exact hne hg)
 have c1:w1.cell? ⟨b,1,none⟩=some sv:=by rw[uL hb1];rfl
 go_wp2_with (at_builtin;refine ADz rfl _ _ 97 9 rfl 5 i0 Tryz.underlying97 Tryz.underlying9 hi hz0 hz1 hz2 _ _ _ rfl own1 (bs s) rfl ?c3 ?c4 ?_)
 case c3=>rw[Ek];unfold maxLen;omega
 case c4=>rw[Ek];omega
 intro v' w2 hown' hgrow hnil' hwh
 have hb1lt:b<w1.heap.size:=(Al.1 hb1).1
 have hb2:w2.heap[b]? =some (.cells #[.pointer (some ⟨b,0,none⟩),sv] 99 (0,0)):=by
  rw[hgrow.block b hb1lt (λe=>hne e.symm)];exact hb1
 have d1:w2.cell? ⟨b,1,none⟩=some sv:=by rw[uL hb2];rfl
 have f1:w2.frozen? ⟨b,1,none⟩=false:=Lib.frozen_of_heap hb2 1
 obtain⟨ao,n',cap,rfl⟩:∃ao n' cap,v'=.slice ao n' cap:=by
  rcases hown'.2 with⟨hv,_⟩|⟨g,cap,cur,fz,hv,_⟩
  ·exact⟨_,_,_,hv⟩
  ·exact⟨_,_,_,hv⟩
 go_wp2
 go_ret2
 have hne':(Value.slice ao n' cap).ownBlock≠some b:=Lib.ownBlock_neF hown' hb2 (by decide)
 have hB2:IT w2 b 99 [.pointer (some ⟨b,0,none⟩),sv]:=hb2
 have hcells:Lib.byteCells l++Lib.strCells (bs s)=Lib.byteCells (l++s):=by rw[Lib.byteCells_append,Lib.strCells_eq];simp[bs]
 rw[hcells,Ek,<-Ah]at hown'
 refine⟨_,_,bld (l++s),b::(Value.slice ao n' cap).ownBlock.toList,rfl,⟨rfl,rfl⟩,⟨b,_,_,rfl,rfl,.inr rfl,hB2.set 1 _,Rg hown' (Tch.setCell w2 (S:=[b]) (.inl (.head _)) _) (by intro g hg hx;simp at hx;subst hx;exact hne' hg),?_⟩,?_,?_,?_⟩
 ·intro h
  rw[List.append_eq_nil_iff]at h
  exact hnil'.2 ⟨hnil h.1,by rw[h.2];rfl⟩
 ·intro x hx
  rcases Ai.1 hx with rfl|hx
  ·exact .inl (.head _)
  ·rcases hwh x (by simpa using hx)with h|h
   ·exact .inl (AA _ (by simpa using h))
   ·exact .inr (BI ht1.size h)
 ·intro O' _
  refine⟨[_],?_,rfl⟩
  simp only[RepC,Aq]
  exact⟨[[.int .i64 s.length],[.nilIface]],⟨_,_,rfl,rfl,_,_,rfl,rfl,rfl⟩,by rw[Ek];rfl⟩
 ·have t1:Tch (b::sv.ownBlock.toList) w w1:=ht1.mono (λx hx=>by simp at hx;subst hx;exact .head _)
  have t2:Tch (b::sv.ownBlock.toList) w1 w2:=(sI hgrow).mono (λx hx=>.tail _ hx)
  exact(t1.trans0 t2).andSet (.inl (.head _)) _
theorem fQ(w:World) {S:List Nat} {g:Nat}(hg:g∈S)(n:Nat):Tch S w (w.freeze ⟨g,0,none⟩ n):=by
 unfold World.freeze
 split
 ·exact Tch.refl _ _
 ·refine⟨rfl,rfl,rfl,by simp,λk hk hn=>?_⟩
  simp only[CB]
  rw[if_neg (λ(e:g=k)=>hn (e▸hg))]
set_option maxHeartbeats 2000000 in
theorem ABp(l:List UInt8)(hl:l.length<=1000000000):Th C3 45 (bld l) [] (λy r'=>y=.str (bs l)/\r'=ACU):=by
 rintro O w v F us ⟨b,p,sv,rfl,rfl,hp,hb,hown,hnil⟩ hF hO hg hr
 obtain rfl:=Dv hr
 clear hr hg hO hF
 refine⟨by kernel_rfl,?_⟩
 have hblt:b<w.heap.size:=(Al.1 hb).1
 have fin:∀w',Tch (b::sv.ownBlock.toList) w w'->∃u y r' F',Ending.returned (.string (bs l))=.returned u/\(y=.str (bs l)/\r'=ACU)/\r'.R w' (.pointer (some ⟨b,0,none⟩)) F'/\(∀x∈F',x∈b::sv.ownBlock.toList\/w.heap.size<=x)/\(∀O',(∀x∈O',x∈O\/x∈F')->Rep O' w' y u)/\Tch (b::sv.ownBlock.toList) w w':=
  λw' t=>⟨_,_,_,[],rfl,⟨rfl,rfl⟩,⟨rfl,rfl⟩,(by simp),(λO' _=>⟨[_],(by simp only[RepC]),rfl⟩),t⟩
 show Calls Tryz.prog _ _ _ _
 have mixed:Tryz.prog.follows .mixedOrders=true:=by kernel_rfl
 by_cases h0:l=[]
 ·obtain rfl:=hnil h0
  subst h0
  have hUS:=Lib.run_unsafeString_none (P:=Tryz.prog) w.drew 157 3 9 none
  have hSD:(Builtin.unsafeSliceData_ #[97] 157 #[.slice none 0 0]).run Tryz.prog w.drew=.ok (.pointer none) w.drew:=rfl
  have c1:w.drew.cell? ⟨b,1,none⟩=some (.slice none 0 0):=by
   have:w.drew.heap[b]? =some (.cells #[p,.slice none 0 0] 99 (0,0)):=hb
   rw[uL this];rfl
  go_enter Tryz.func45,Tryz.ntmps45
  go_wp2
  go_region_o
  all_goals (go_wp2;go_ret;exact fin _ (Tch.drew w _))
 ·have hl0:l.length≠0:=by simpa using h0
  obtain⟨g,cap,cur,fz,rfl,hbg,hg,hfz,hnc,hcm,hcs,htake⟩:∃g cap cur fz,sv=.slice (some ⟨g,0,none⟩) l.length cap/\0<=g/\w.heap[g]? =some (.cells cur 5 fz)/\fz.2<=l.length*1/\l.length<=cap/\cap<=maxLen/\cur.size=cap*1/\cur.toList.take (l.length*1)=Lib.byteCells l:=by
   rcases hown.2 with⟨_,hz⟩|⟨g,cap,cur,fz,hv,r⟩
   ·exact absurd hz hl0
   ·exact⟨g,cap,cur,fz,hv,r⟩
  have c1:w.drew.cell? ⟨b,1,none⟩=some (.slice (some ⟨g,0,none⟩) l.length cap):=by
   have:w.drew.heap[b]? =some (.cells #[p,.slice (some ⟨g,0,none⟩) l.length cap] 99 (0,0)):=hb
   rw[uL this];rfl
  have hSD:(Builtin.unsafeSliceData_ #[97] 157 #[.slice (some ⟨g,0,none⟩) l.length cap]).run Tryz.prog w.drew=.ok (.pointer (some ⟨g,0,none⟩)) w.drew:=
   Lib.run_unsafeSliceData_row _ _ _ _ _ _ (by omega)
  have hUS:(Builtin.unsafeString_ #[157,3] 9 #[.pointer (some ⟨g,0,none⟩),.int .i64 l.length]).run Tryz.prog w.drew=.ok (.string ⟨l.toArray⟩) (w.drew.freeze ⟨g,0,none⟩ l.length):=by
   refine Lib.run_unsafeString_row w.drew 157 3 9 5 Tryz.underlying157 (by kernel_rfl) g cur.size (by have hg':w.drew.heap[g]? =some (.cells cur 5 fz):=hg;simp[World.shape?,hg']) l h0 (by omega) (by unfold maxLen at hcm;omega) ?_
   intro j x hx
   have:=hown.cells (g:=g) rfl j (.int .u8 x.toNat) (by simp[Lib.byteCells,hx])
   exact this
  go_enter Tryz.func45,Tryz.ntmps45
  go_wp2
  go_region_o
  all_goals (go_wp2;go_ret;exact fin _ ((Tch.drew w _).trans0 (fQ w.drew (.tail _ (.head _)) l.length)))
end Go.Proofs.YtjpmmkodoeipmaaGreatDoor
end
