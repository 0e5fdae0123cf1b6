/- Merged: Itr Sea Cpa Cpb Agp. -/
import Derived.RangeFuncNested
import Derived.Test.YtjejpdfldmempaaGreatDooragan
import Derived.Test.YtjejpdfldmempaaGreatDooragau
import Derived.Test.YtjejpdfldmempaaGreatDooragar
section
namespace Go.Sx
open Go Go.RowKit Go.Reg
def DP(l:List Int):Da:=.list 1 (l.map λn=>Da.int .i64 n)
structure Grow(S:List Nat)(A:World)(S':List Nat)(B:World):Prop where
 tch:Tch S A B
 sub:∀b∈S,b∈S'
 new:∀b∈S',b∈S\/A.heap.size<=b
 lt:∀b∈S',b<B.heap.size
theorem Grow.refl {S:List Nat} {A:World}(h:∀b∈S,b<A.heap.size):Grow S A S A:=⟨Tch.refl _ _,λ_ h=>h,λ_ h=>.inl h,h⟩
theorem Grow.same {S:List Nat} {A B:World}(t:Tch S A B)(h:∀b∈S,b<A.heap.size):Grow S A S B:=⟨t,λ_ h=>h,λ_ h=>.inl h,λb hb=>Bw (h b hb) t.size⟩
theorem Grow.trans {S S' S2:List Nat} {A B C:World}(h:Grow S A S' B)(k:Grow S' B S2 C):Grow S A S2 C:=
 ⟨h.tch.trans k.tch (λ_ h=>h) (λb hb=>h.new b hb),λb hb=>k.sub b (h.sub b hb),λb hb=>(k.new b hb).elim (λhb=>h.new b hb) (λhb=>.inr (CM h.tch.size hb)),k.lt⟩
theorem Grow.later {S S':List Nat} {A B:World}(h:Grow S A S' B):Later S A S' B:=⟨h.tch.size,λb hb hn=>h.tch.blk b hb hn,λb hn hb hm=>(h.new b hm).elim hn (λh=>by omega)⟩
def X9(C:Cx)(fv:Value)(xs:List (List Int))(O:List Nat)(l:Nat)(W:World):Prop:=
 ∃g lb,fv=.func (.func g) #[] lb/\(∀args w,(callFunc g args).run C.P w=.ok (.enter g args) w)/\
 ∀(J Jx:List Nat->List Nat->List (List Int)->World->Prop),
  (∀R S pre A B,(∀r∈R,W.heap.size<=r)->J R S pre A->Tch R A B->J R S pre B)->(∀R S pre A B,(∀r∈R,W.heap.size<=r)->Jx R S pre A->Tch R A B->Jx R S pre B)->
  (∀R S pre x v A,(∀r∈R,W.heap.size<=r)->(∀b∈S,b<A.heap.size)->J R S pre A->pre++[x]<+:xs->Rep (S++R) A (DP x) v->(W.heap.size<=A.heap.size/\∀r∈R,r<A.heap.size)->YieldAt Fence.wide 2 C.P l #[v] A λe B=>
   ∃S',Grow S A S' B/\((e=.returned (.bool true)/\J R S' (pre++[x]) B)\/(e=.returned (.bool false)/\Jx R S' (pre++[x]) B)))->
  (∀R,(∀r∈R,W.heap.size<=r)->J R O [] W)->
  CallsIn Fence.wide 3 C.P g (#[.func (.yield l) #[] #[]]++lb) W λe B=>(∃u,e=.returned u)/\∃R S:List Nat,(∀r∈R,W.heap.size<=r)/\Tch (O++R) W B/\(∀b∈S,b∈O\/W.heap.size<=b)/\(J R S xs B\/∃pre,pre<+:xs/\Jx R S pre B)
theorem D4(W:World)(l:Nat)(o:Obj):Tch [l] W (W.putObj l o):=
 ⟨rfl,rfl,rfl,by simp,λk _ hn=>World.putObj_heap_other (by simpa using hn)⟩
def WR(I Ix:List Nat->World->Prop)(S:List Nat)(A:World):Exit->Act->World->Prop
 |.normal,_,B=>∃S',Grow S A S' B/\I S' B
 |.ret,_,B=>∃S',Grow S A S' B/\Ix S' B
 |_,_,_=>False
theorem Uk {C:Cx} {g:Operand} {ps:Array Tmp} {assign body:Code} {Q:Exit->Act->World->Prop} {a:Act} {w:World} {n:Nat}(xs:List (List Int))(Ob:List Nat)(hOb:∀b∈Ob,b<w.heap.size)
  (hps:ps.size=1) (hseq:∀W,Tch [] w W->W.heap.size=w.heap.size+2->X9 C (a.eval g) xs (w.heap.size::(w.heap.size+1)::Ob) (w.heap.size+1) W)
  (I Ix:List Nat->List Nat->List (List Int)->World->Prop)
  (hI:∀R S pre A B,(∀r∈R,w.heap.size<=r)->I R S pre A->Tch R A B->I R S pre B) (hIx:∀R S pre A B,(∀r∈R,w.heap.size<=r)->Ix R S pre A->Tch R A B->Ix R S pre B)
  (h0:∀R W,(∀r∈R,w.heap.size<=r)->Tch [] w W->I R Ob [] W)
  (hbody:∀(l:Nat) (R S:List Nat) (pre:List (List Int)) (x:List Int) (v:Value) (A:World),w.heap.size<=l->l∈R->(∀r∈R,w.heap.size<=r)->(∀b∈S,b<A.heap.size)->(∀b∈S,b∉R)->I R S pre A->pre++[x]<+:xs->Rep (S++R) A (DP x) v->w.heap.size<=A.heap.size->(∀r∈R,r<A.heap.size)->
   assign.wpIn (Fence.wide.inRound l) 2 C.P (Exit.then (λa₁ A₁=>Tch [] A A₁/\∀A₂,Tch [l] A₁ A₂->body.wpIn (Fence.wide.inRound l) 2 C.P (WR (λS'=>I R S' (pre++[x])) (λS'=>Ix R S' (pre++[x])) S A₂) a₁ A₂) (λ_ _ _=>False)) {tmps:=(ps.zip #[v]).foldl (λt (p,v)=>t.setIfInBounds p v) a.tmps,defers:=[]} A)
  (hdone:∀(D:Nat) (R S:List Nat) (W:World),w.heap.size<=D->D∈R->(∀r∈R,w.heap.size<=r)->(∀b∈S,b∉R)->I R S xs W->Tch Ob w W->W.heap[D]? =some (.deferred (some []))->Q .normal {a with defers:={target:=.collected D,args:=#[]}::a.defers} W)
  (hstop:∀(D:Nat) (R S:List Nat) (pre:List (List Int)) (W:World),w.heap.size<=D->D∈R->(∀r∈R,w.heap.size<=r)->(∀b∈S,b∉R)->pre<+:xs->Ix R S pre W->Tch Ob w W->W.heap[D]? =some (.deferred (some []))->Code.ret.wpIn Fence.wide n C.P Q {a with defers:={target:=.collected D,args:=#[]}::a.defers} W):
  (Code.rangeFunc g ps assign body).wpIn Fence.wide n C.P Q a w:=by
 refine wpIn_rangeFunc ?_
 intro fn hfn
 obtain⟨rec,hrec⟩:∃rec:LoopState->Option Code->Loop,rec=λst pe=>{state:=st,pending:=pe,fn,tmps:=a.tmps,params:=ps,assign,body,defers:=w.heap.size}:=⟨_,rfl⟩
 obtain⟨W1,hW1⟩:∃W1,(w.alloc (.deferred (some []))).alloc (.loop (rec .ready none))=W1:=⟨_,rfl⟩
 have hL1:W1.heap[w.heap.size+1]? =some (.loop (rec .ready none)):=by
  rw[<-hW1];have:=World.alloc_heap_new (w.alloc (.deferred (some []))) (.loop (rec .ready none));rwa [Ku]at this
 have hK1:W1.heap[w.heap.size]? =some (.deferred (some [])):=by
  rw[<-hW1];exact(Below.heap_alloc _ _ _ (by simp)).trans (World.alloc_heap_new w _)
 have hT1:Tch [] w W1:=by rw[<-hW1];exact(Tch.alloc w _ []).andAlloc _
 have hs1:W1.heap.size=w.heap.size+2:=by rw[<-hW1];simp
 obtain⟨gf,lb,hg,eg,hcall⟩:=hseq W1 hT1 hs1
 have hRo:∀R:List Nat,(∀r∈R,W1.heap.size<=r)->∀r∈w.heap.size::(w.heap.size+1)::R,w.heap.size<=r:=λR hR r hm=>by
  rcases Ad.1 hm with e|hm
  ·omega
  rcases Ad.1 hm with e|hm
  ·omega
  ·have:=hR r hm;omega
 refine⟨w.heap.size+1,[{target:=.collected w.heap.size,args:=#[]}],W1,{target:=.fn (.func gf) lb,args:=#[.func (.yield (w.heap.size+1)) #[] #[]]},W1,gf,
  #[.func (.yield (w.heap.size + 1)) #[] #[]] ++ lb, W1, ?_, ?_, ?_, ?_, fun h => (by cases h), ?_⟩
 ·rw[<-hW1,hrec];exact run_enterLoop_outer _ _ _ _ _
 ·simp only[resolve,hg]
  simp[go_sem]
 ·intro f' hf';trivial
 ·simp[invoke,go_sem,eg]
 ·have hcall':=hcall
   (λR S pre W=>∃Sc,S=w.heap.size::(w.heap.size+1)::Sc/\I (w.heap.size::(w.heap.size+1)::R) Sc pre W/\(∀b∈Sc,b∉w.heap.size::(w.heap.size+1)::R)/\W.heap[w.heap.size+1]? =some (.loop (rec .ready none))/\W.heap[w.heap.size]? =some (.deferred (some [])))
   (λR S pre W=>∃Sc,S=w.heap.size::(w.heap.size+1)::Sc/\Ix (w.heap.size::(w.heap.size+1)::R) Sc pre W/\(∀b∈Sc,b∉w.heap.size::(w.heap.size+1)::R)/\W.heap[w.heap.size+1]? =some (.loop (rec .done (some .ret)))/\W.heap[w.heap.size]? =some (.deferred (some [])))
   (λR S pre A B hR ⟨Sc,hS,h1,hn,h2,h3⟩ ht=>⟨Sc,hS,hI _ _ pre A B (hRo R hR) h1 (ht.mono (by simp+contextual)),hn,by rw[ht.blk _ (Ae.1 h2).1 (λhm=>by have:=hR _ hm;omega)];exact h2,by rw[ht.blk _ (Ae.1 h3).1 (λhm=>by have:=hR _ hm;omega)];exact h3⟩)
   (λR S pre A B hR ⟨Sc,hS,h1,hn,h2,h3⟩ ht=>⟨Sc,hS,hIx _ _ pre A B (hRo R hR) h1 (ht.mono (by simp+contextual)),hn,by rw[ht.blk _ (Ae.1 h2).1 (λhm=>by have:=hR _ hm;omega)];exact h2,by rw[ht.blk _ (Ae.1 h3).1 (λhm=>by have:=hR _ hm;omega)];exact h3⟩)
   ?_ (λR hR=>⟨Ob,rfl,h0 _ _ (hRo R hR) hT1,λb hb hm=>by have:=hOb b hb;have:=hRo R hR b hm;omega,hL1,hK1⟩)
  ·
   refine(callsIn_wide.2 (callsIn_wide.1 hcall')).mono ?_
   rintro e W2 ⟨⟨v,rfl⟩,R,S,hR,ht,hSn,h⟩
   have htw:∀o,Tch Ob w (W2.putObj (w.heap.size+1) o):=λo=>by
    refine(hT1.trans (S':=(w.heap.size::(w.heap.size+1)::Ob)++R) (T:=Ob) ht (by simp) (λx hx=>?_)).trans (D4 _ _ _) (λ_ h=>h) (λx hx=>?_)
    ·simp only[A9,Ad,Af]at hx
     rcases hx with rfl|rfl|hx|hx
     ·exact .inr (by omega)
     ·exact .inr (by omega)
     ·exact .inl hx
     ·exact .inr (by have:=hR x hx;omega)
    ·simp at hx;exact .inr (by omega)
   rcases h with⟨Sc,rfl,hi,hn,hl,hk⟩|⟨pre,hpre,Sc,rfl,hi,hn,hl,hk⟩
   ·have hen:=run_endLoop (P:=C.P) hl (by rw[hrec];simp)
    refine⟨none,_,by rw[hrec]at hen;exact hen,?_⟩
    exact hdone _ _ _ _ (Az _) (by simp) (hRo R hR) hn (hI _ _ _ _ _ (hRo R hR) hi ((D4 _ _ _).mono (by simp))) (htw _) ((World.putObj_heap_other (by omega)).trans hk)
   ·have hen:=run_endLoop (P:=C.P) hl (by rw[hrec];simp)
    refine⟨some .ret,_,by rw[hrec]at hen;exact hen,?_⟩
    exact hstop _ _ _ pre _ (Az _) (by simp) (hRo R hR) hn hpre (hIx _ _ _ _ _ (hRo R hR) hi ((D4 _ _ _).mono (by simp))) (htw _) ((World.putObj_heap_other (by omega)).trans hk)
  ·
   rintro R S pre x v A hR hSA ⟨Sc,rfl,hi,hn,hl,hk⟩ hp hrep hsz
   have hlA:=(Ae.1 hl).1
   have hkA:=(Ae.1 hk).1
   have hy:=run_yield (P:=C.P) (args:=#[v]) hl (by rw[hrec];simp[hps])
   rw[hrec]at hy
   have hrep':Rep (Sc++(w.heap.size::(w.heap.size+1)::R)) A (DP x) v:=by
    obtain⟨cs,r,rfl⟩:=hrep
    exact⟨cs,RepC.later ⟨Az _,λ_ _ _=>rfl,λb hb _=>by simp only[Af,Ad,not_or]at hb⊢;exact⟨hb.1.2.2,hb.1.1,hb.1.2.1,hb.2⟩⟩ _ cs r,rfl⟩
   have hlO:(w.heap.size+1)∉Sc:=λhm=>hn _ hm (by simp)
   have hkO:w.heap.size∉Sc:=λhm=>hn _ hm (by simp)
   have hSc:∀b∈Sc,b<A.heap.size:=λb hb=>hSA b (by simp[hb])
   have hRA:∀r∈w.heap.size::(w.heap.size+1)::R,r<A.heap.size:=λr hr=>by
    rcases Ad.1 hr with e|hr
    ·rw[e];exact hkA
    rcases Ad.1 hr with e|hr
    ·rw[e];exact hlA
    ·exact hsz.2 r hr
   refine⟨fn,_,assign,body,hy,roundIn_of_wpIn trivial (wpIn_mono (hbody (w.heap.size+1) _ Sc pre x v A (by omega) (by simp) (hRo R hR) hSc hn hi hp hrep' (by omega) hRA) ?_)⟩
   clear hy
   intro e a1 A1 he
   cases e with
   |
    normal=>
    obtain⟨ht1,hbd⟩:=he
    have hl1:A1.heap[w.heap.size+1]? =some (.loop (rec .ready none)):=by rw[ht1.blk _ hlA (by simp)];exact hl
    have hk1:A1.heap[w.heap.size]? =some (.deferred (some [])):=by rw[ht1.blk _ hkA (by simp)];exact hk
    have hlt1:=(Ae.1 hl1).1
    have hbg:=run_beginRound (P:=C.P) hl1 (by rw[hrec])
    obtain⟨A2,hA2⟩:∃A2,A1.putObj (w.heap.size+1) (.loop {rec .ready none with state:=.busy})=A2:=⟨_,rfl⟩
    have hl2:A2.heap[w.heap.size+1]? =some (.loop {rec .ready none with state:=.busy}):=by rw[<-hA2];exact World.putObj_heap_same hlt1
    have ht2:Tch [w.heap.size+1] A1 A2:=by rw[<-hA2];exact D4 _ _ _
    have hk2:A2.heap[w.heap.size]? =some (.deferred (some [])):=by rw[ht2.blk _ (Ae.1 hk1).1 (by simp)];exact hk1
    refine⟨A2,by rw[<-hA2];exact hbg,wpIn_mono (hbd A2 ht2) ?_⟩
    intro e2 a3 A3 hp3
    have fin:∀(jump:Option Code) (S':List Nat),Grow Sc A2 S' A3->
      (Instr.endRound (w.heap.size+1) jump).run C.P A3=.ok (.bool jump.isNone) (A3.putObj (w.heap.size+1) (.loop (rec (if jump.isNone then .ready else .done) jump)))/\
      (A3.putObj (w.heap.size+1) (.loop (rec (if jump.isNone then .ready else .done) jump))).heap[w.heap.size+1]? =some (.loop (rec (if jump.isNone then .ready else .done) jump))/\
      (A3.putObj (w.heap.size+1) (.loop (rec (if jump.isNone then .ready else .done) jump))).heap[w.heap.size]? =some (.deferred (some []))/\
      Grow (w.heap.size::(w.heap.size+1)::Sc) A (w.heap.size::(w.heap.size+1)::S') (A3.putObj (w.heap.size+1) (.loop (rec (if jump.isNone then .ready else .done) jump)))/\(∀b∈S',b∉w.heap.size::(w.heap.size+1)::R):=λjump S' hg=>by
     have ht3:=hg.tch
     have hl3:A3.heap[w.heap.size+1]? =some (.loop {rec .ready none with state:=.busy}):=by rw[ht3.blk _ (Ae.1 hl2).1 hlO];exact hl2
     have hk3:A3.heap[w.heap.size]? =some (.deferred (some [])):=by rw[ht3.blk _ (Ae.1 hk2).1 hkO];exact hk2
     have hen:=run_endRound (P:=C.P) jump hl3
     have hs2:A.heap.size<=A2.heap.size:=CM ht1.size ht2.size
     refine⟨by rw[hrec]at hen⊢;exact hen,World.putObj_heap_same (Ae.1 hl3).1,(World.putObj_heap_other (by omega)).trans hk3,⟨?_,?_,?_,?_⟩,?_⟩
     ·have h12:Tch (w.heap.size::(w.heap.size+1)::Sc) A A2:=(ht1.mono (by simp)).trans0 (ht2.mono (by simp))
      exact(h12.trans0 (ht3.mono (by simp+contextual))).trans0 ((D4 _ _ _).mono (by simp))
     ·intro b hb
      rcases Ad.1 hb with e|hb
      ·simp[e]
      rcases Ad.1 hb with e|hb
      ·simp[e]
      ·simp[hg.sub b hb]
     ·intro b hb
      rcases Ad.1 hb with e|hb
      ·simp[e]
      rcases Ad.1 hb with e|hb
      ·simp[e]
      ·rcases hg.new b hb with h|h
       ·simp[h]
       ·right;omega
     ·intro b hb
      have hps:(A3.putObj (w.heap.size+1) (.loop (rec (if jump.isNone then .ready else .done) jump))).heap.size=A3.heap.size:=by simp
      rw[hps]
      rcases Ad.1 hb with e|hb
      ·rw[e];exact(Ae.1 hk3).1
      rcases Ad.1 hb with e|hb
      ·rw[e];exact(Ae.1 hl3).1
      ·exact hg.lt b hb
     ·intro b hb hm
      rcases hg.new b hb with h|h
      ·exact hn b h hm
      ·have:=hRA b hm;omega
    cases e2 with
    |
     normal=>
     obtain⟨S',hg,hi3⟩:=hp3
     obtain⟨hr,hl4,hk4,ht4,hn4⟩:=fin none S' hg
     exact⟨_,_,hr,_,ht4,.inl ⟨rfl,S',rfl,hI _ _ _ _ _ (hRo R hR) hi3 ((D4 _ _ _).mono (by simp)),hn4,hl4,hk4⟩⟩
    |
     ret=>
     obtain⟨S',hg,hi3⟩:=hp3
     obtain⟨hr,hl4,hk4,ht4,hn4⟩:=fin (some .ret) S' hg
     exact⟨_,_,hr,_,ht4,.inr ⟨rfl,S',rfl,hIx _ _ _ _ _ (hRo R hR) hi3 ((D4 _ _ _).mono (by simp)),hn4,hl4,hk4⟩⟩
    |_=>exact hp3.elim
   |_=>exact he.elim
end Go.Sx
end
section
namespace Go.Gr
def FN(fr to:List Int):Nat->List Nat->List (List Int)
 |0,ah=>[ah.map λj:Nat=>(j:Int)]
 |k+1,ah=>((List.range to.length).filter λj=>!(ah.contains j)&&decide (to[j]? =fr[ah.length]?)).flatMap λj=>FN fr to k (ah++[j])
def F0(fr to:List Int)(k m:Nat)(ah:List Nat):List (List Int):=((List.range m).filter λj=>!(ah.contains j)&&decide (to[j]? =fr[ah.length]?)).flatMap λj=>FN fr to k (ah++[j])
theorem NB(fr to:List Int)(k m:Nat)(ah:List Nat):F0 fr to k (m+1) ah=F0 fr to k m ah++if !(ah.contains m)&&decide (to[m]? =fr[ah.length]?)then FN fr to k (ah++[m])else[]:=by
 unfold F0
 rw[List.range_succ,List.filter_append,GS]
 congr 1
 have e:∀(p:Nat->Bool) (f:Nat->List (List Int)),([m].filter p).flatMap f=if p m then f m else[]:=λp f=>by
  cases h:p m with
  |true=>rw[Uc h];simp
  |false=>rw[List.filter_cons_of_neg (by rw[h];decide)];simp
 rw[e]
theorem Ht(fr to:List Int)(k:Nat)(ah:List Nat):F0 fr to k to.length ah=FN fr to (k+1) ah:=rfl
end Go.Gr
namespace Go.Proofs.YtjejpdfldmempaaGreatDoor
open Go.Sx Go.RowKit Go.Reg Go.Gr
set_option maxRecDepth 100000
def J4(fr to:List Int)(k:Nat):Prop:=
 ∀(ah:List Nat),ah.length+k=fr.length->(∀j∈ah,j<to.length)->fr.length<=8->to.length<=8->
 ∀(l:Nat) (XS:List (List Int)) (J Jx:List Nat->List (List Int)->World->Prop),
  (∀S pre A B,J S pre A->Tch [] A B->J S pre B)->
  (∀S pre x v A,(∀b∈S,b<A.heap.size)->J S pre A->pre++[x]<+:XS->Rep S A (DP x) v->YieldAt Fence.wide 2 Tryz.prog l #[v] A λe B=>
   ∃S',Grow S A S' B/\((e=.returned (.bool true)/\J S' (pre++[x]) B)\/(e=.returned (.bool false)/\Jx S' (pre++[x]) B)))->
 ∀(S:List Nat) (A:World) (vf vt va:Value) (pre:List (List Int)),(∀b∈S,b<A.heap.size)->Glob C1 S A->Rep S A (DP fr) vf->Rep S A (DP to) vt->Rep S A (DP (ah.map λj:Nat=>(j:Int))) va->
  J S pre A->pre++FN fr to k ah<+:XS->
  CallsIn Fence.wide 3 Tryz.prog 219 #[vf,vt,va,.int .u64 (Cd ah:Nat),.func (.yield l) #[] #[]] A λe B=>
   ∃S',Grow S A S' B/\((e=.returned (.bool true)/\J S' (pre++FN fr to k ah) B)\/(e=.returned (.bool false)/\∃q,q<+:FN fr to k ah/\Jx S' (pre++q) B))
end Go.Proofs.YtjejpdfldmempaaGreatDoor
end
section
namespace Go.Gr
open Go.Proofs.YtjejpdfldmempaaGreatDoor
theorem EF {α:Type} [DecidableEq α]:∀{l m:List α},l.Nodup->(∀x∈l,x∈m)->m.length<=l.length->l.Perm m
 |
  [],m,_,_,h=>by
  have:m=[]:=Aw (by simpa using h)
  subst this;exact .refl _
 |
  x::l,m,hn,hs,h=>by
  obtain⟨h1,h2⟩:=C7.1 hn
  have hx:x∈m:=hs x (by simp)
  have hp:=List.perm_cons_erase hx
  have hl:m.length=(m.erase x).length+1:=by have:=hp.length_eq;simpa using this
  refine(List.Perm.cons x (EF h2 (λy hy=>?_) ?_)).trans hp.symm
  ·exact(List.mem_erase_of_ne (λe=>by subst e;exact h1 hy)).2 (hs y (by simp[hy]))
  ·simp only[Au]at h;omega
theorem NH {α:Type} [DecidableEq α] {l m:List α}(hn:l.Nodup)(hs:∀x∈l,x∈m):l.length<=m.length:=by
 rcases Ei m.length l.length with h|h
 ·have:=(EF hn hs (by omega)).length_eq;omega
 ·exact h
def Bx(n:Nat)(b:List Int):Prop:=b.length=n/\(∀x∈b,0<=x/\x<(n:Int))/\b.Nodup
instance(n:Nat)(b:List Int):Decidable (Bx n b):=by unfold Bx;exact inferInstance
def pl(b:List Int)(i:Nat):Nat:=((b[i]?).getD 0).toNat
theorem Sn {b:List Int}(h8:b.length<=8):GF b=true↔Bx b.length b:=by
 unfold GF Bx
 simp[h8]
section
variable {n:Nat} {a b:List Int}
theorem Gb(h:Bx n b) {i:Nat}(hi:i<n):b[i]? =some (pl b i:Int):=by
 have hx:=Ab (l:=b) (i:=i) (by rw[h.1];exact hi)
 have:=h.2.1 _ (Gv (l:=b) (n:=i) (by rw[h.1];exact hi))
 unfold pl
 rw[hx,Option.getD_some]
 congr 1;omega
theorem F9(h:Bx n b) {i:Nat}(hi:i<n):pl b i<n:=by
 have:=h.2.1 _ (AY (Gb h hi));omega
theorem JG(h:Bx n b) {i j:Nat}(hi:i<n)(hj:j<n)(e:pl b i=pl b j):i=j:=by
 refine(IQ (by rw[h.1];exact hi) h.2.2).1 ?_
 rw[Gb h hi,Gb h hj,e]
theorem Ve(h:Bx n b):b.Perm ((List.range n).map λi:Nat=>(i:Int)):=by
 refine EF h.2.2 (λx hx=>?_) (by rw[Ac,QR,h.1];exact Az _)
 have:=h.2.1 x hx
 exact Av.2 ⟨x.toNat,Bk.2 (by omega),by omega⟩
theorem Li(h:Bx n b) {k:Nat}(hk:k<n):∃i,i<n/\pl b i=k:=by
 have hm:(k:Int)∈b:=(Ve h).mem_iff.2 (Av.2 ⟨k,Bk.2 hk,rfl⟩)
 obtain⟨i,hi,e⟩:=Lb.1 hm
 have hi':i<n:=by rw[<-h.1];exact hi
 refine⟨i,hi',?_⟩
 have:=Gb h hi'
 rw[Ab hi,e]at this
 have h9:(k:Int)=(pl b i:Int):=EZ this
 omega
theorem WH(ha:Bx n a)(hb:Bx n b)(h:∀i,i<n->pl a i=pl b i):a=b:=by
 apply Bv
 intro i
 by_cases hi:i<n
 ·rw[Gb ha hi,Gb hb hi,h i hi]
 ·rw[AD (by rw[ha.1];omega),AD (by rw[hb.1];omega)]
theorem OH {f:Nat->Nat}(h1:∀i,i<n->f i<n)(h2:∀i j,i<n->j<n->f i=f j->i=j):Bx n ((List.range n).map λi=>(f i:Int)):=by
 refine⟨by simp,λx hx=>?_,?_⟩
 ·obtain⟨i,hi,rfl⟩:=Av.1 hx
  have:=h1 i (Bk.1 hi);omega
 ·refine Fy.2 (List.Pairwise.imp_of_mem ?_ List.nodup_range)
  intro i j hi hj hne e
  exact hne (h2 i j (Bk.1 hi) (Bk.1 hj) (by omega))
theorem UW {f:Nat->Nat} {i:Nat}(hi:i<n):pl ((List.range n).map λi=>(f i:Int)) i=f i:=by
 unfold pl;simp[hi]
def KN(n:Nat):List Int:=(List.range n).map λi:Nat=>(i:Int)
theorem GJ(n:Nat):Bx n (KN n):=OH (f:=id) (λ_ h=>h) (λ_ _ _ _ h=>h)
theorem Sk {i:Nat}(hi:i<n):pl (KN n) i=i:=UW (f:=id) hi
def He(a b:List Int):List Int:=a.map λx=>(b[x.toNat]?).getD 0
theorem Ur(ha:Bx n a)(hb:Bx n b) {i:Nat}(hi:i<n):(He a b)[i]? =some (pl b (pl a i):Int):=by
 unfold He
 rw[Al,Gb ha hi,CS,Dx,Gb hb (F9 ha hi)];rfl
theorem Pv(ha:Bx n a)(hb:Bx n b):He a b=(List.range n).map λi=>((pl b (pl a i):Nat):Int):=by
 apply Bv
 intro i
 by_cases hi:i<n
 ·rw[Ur ha hb hi];simp[hi]
 ·rw[AD (by unfold He;rw[Ac,ha.1];omega),AD (by simp;omega)]
theorem E0(ha:Bx n a)(hb:Bx n b):Bx n (He a b):=by
 rw[Pv ha hb]
 exact OH (λi hi=>F9 hb (F9 ha hi)) (λi j hi hj e=>JG ha hi hj (JG hb (F9 ha hi) (F9 ha hj) e))
theorem Lg(ha:Bx n a)(hb:Bx n b) {i:Nat}(hi:i<n):pl (He a b) i=pl b (pl a i):=by
 rw[Pv ha hb,UW (f:=λi=>pl b (pl a i)) hi]
theorem Ts(hb:Bx n b) {l:List Int}(hl:l.length=n):∀m,m<=n->∀i,i<m->(Ha b l m)[pl b i]? =l[i]? :=by
 intro m
 induction m with
 |zero=>intro _ i hi;omega
 |
  succ m ih=>
  intro hm i hi
  have hx:=Gb hb (show m<n by omega)
  have hy:=Ab (l:=l) (i:=m) (by omega)
  rw[N6 hx hy,Dx,List.getElem?_set]
  by_cases e:m=i
  ·subst e
   rw[if_pos rfl,if_pos (by rw[Hn,hl];exact F9 hb (by omega)),hy]
  ·rw[if_neg (λh=>e (JG hb (by omega) (by omega) h)),ih (by omega) i (by omega)]
theorem OA(hb:Bx n b) {l:List Int}(hl:l.length=n) {i:Nat}(hi:i<n):(Ha b l b.length)[pl b i]? =l[i]? :=by
 rw[hb.1];exact Ts hb hl n (Az _) i hi
def Gt(b:List Int):List Int:=Ha b (KN b.length) b.length
theorem Xl(hb:Bx n b) {i:Nat}(hi:i<n):pl (Gt b) (pl b i)=i:=by
 unfold Gt pl
 have:=OA hb (l:=KN b.length) (by unfold KN;simp[hb.1]) hi
 unfold pl at this
 rw[this]
 have:(KN b.length)[i]? =some (i:Int):=by rw[hb.1];unfold KN;simp[hi]
 rw[this];simp
theorem HJ(hb:Bx n b):Bx n (Gt b):=by
 have hl:(Gt b).length=n:=by unfold Gt;rw[Hn];unfold KN;simp[hb.1]
 have key:∀k,k<n->∃i,i<n/\pl b i=k/\(Gt b)[k]? =some (i:Int):=λk hk=>by
  obtain⟨i,hi,rfl⟩:=Li hb hk
  refine⟨i,hi,rfl,?_⟩
  have:=OA hb (l:=KN b.length) (by unfold KN;simp[hb.1]) hi
  unfold Gt
  rw[this,hb.1];unfold KN;simp[hi]
 have e:Gt b=(List.range n).map λk=>(pl (Gt b) k:Int):=by
  apply Bv
  intro k
  by_cases hk:k<n
  ·obtain⟨i,hi,hp,hk'⟩:=key k hk
   have:pl (Gt b) k=i:=by unfold pl;rw[hk'];simp
   rw[hk'];simp[hk,this]
  ·rw[AD (by omega),AD (by simp;omega)]
 rw[e]
 refine OH (λk hk=>?_) (λj k hj hk h=>?_)
 ·obtain⟨i,hi,hp,hk'⟩:=key k hk
  unfold pl;rw[hk'];simpa using hi
 ·obtain⟨i,hi,hp,hk'⟩:=key j hj
  obtain⟨i2,hi2,hp2,hk2⟩:=key k hk
  unfold pl at h;rw[hk',hk2]at h
  have:i=i2:=by simpa using h
  subst this;omega
theorem Te(hb:Bx n b):He b (Gt b)=KN n:=WH (E0 hb (HJ hb)) (GJ n) λi hi=>by
 rw[Lg hb (HJ hb) hi,Xl hb hi,Sk hi]
end
structure PtOk(n:Nat)(p:Pt):Prop where
 len:p.labels.length=n
 edge:∀e∈p.edges,0<=e.a/\e.a<e.b/\e.b<(n:Int)
 strict:CC p.edges
section
variable {n:Nat} {a b:List Int} {p q:Pt}
theorem Rc {E F:List Edg}(hE:CC E)(hF:CC F)(h:∀e,e∈E↔e∈F):E=F:=by
 have:DecidableEq Edg:=λx y=>decidable_of_iff (BR x y=0) (Xg x y)
 refine HY (EF hE.nodup (λx hx=>(h x).1 hx) ?_) hE hF
 exact NH hF.nodup (λx hx=>(h x).2 hx)
theorem UN(hp:PtOk n p)(hq:PtOk n q)(h1:∀i,i<n->p.labels[i]? =q.labels[i]?)(h2:∀e,e∈p.edges↔e∈q.edges):p=q:=by
 cases p;cases q
 simp only[Pt.mk.injEq]
 refine⟨Bv λi=>?_,Rc hp.strict hq.strict h2⟩
 by_cases hi:i<n
 ·exact h1 i hi
 ·have:=hp.len;have:=hq.len
  rw[AD (by simp only at*;omega),AD (by simp only at*;omega)]
theorem NJ(b:List Int) {i j:Nat}(hb:Bx n b)(hi:i<n)(hj:j<n):Mf b ⟨i,j⟩=turn ⟨(pl b i:Int),(pl b j:Int)⟩:=by
 unfold Mf
 simp only[Dx]
 rw[Gb hb hi,Gb hb hj];rfl
theorem M9 {e:Edg}(h:0<=e.a/\e.a<e.b/\e.b<(n:Int)):∃i j:Nat,i<j/\j<n/\e=⟨i,j⟩:=by
 obtain⟨x,y⟩:=e
 simp only at h
 obtain⟨i,rfl⟩:=Ch h.1
 obtain⟨j,rfl⟩:=Ch (show 0<=y by omega)
 exact⟨i,j,by omega,by omega,rfl⟩
theorem YG(hb:Bx n b) {e:Edg}(h:0<=e.a/\e.a<e.b/\e.b<(n:Int)):0<=(Mf b e).a/\(Mf b e).a<(Mf b e).b/\(Mf b e).b<(n:Int):=by
 obtain⟨i,j,hij,hj,rfl⟩:=M9 h
 rw[NJ b hb (by omega) hj]
 have h1:=F9 hb (show i<n by omega)
 have h2:=F9 hb hj
 have h3:pl b i≠pl b j:=λe=>by have:=JG hb (by omega) hj e;omega
 unfold turn;simp only;omega
theorem Ec(hb:Bx n b)(hp:PtOk n p):CC (AQ p b).edges/\∀e,e∈(AQ p b).edges↔∃x∈p.edges,e=Mf b x:=by
 have hn:=Me hb.2.2 (E:=p.edges) (λe he=>by rw[hb.1];exact hp.edge e he) hp.strict.nodup
 obtain⟨h1,h2⟩:=Mx _ hn [] List.Pairwise.nil (by simp)
 rw[C8]at h2
 refine⟨h1,λe=>?_⟩
 rw[show(AQ p b).edges=(p.edges.map (Mf b)).foldl Mt []from rfl,h2.mem_iff,Av]
 exact⟨λ⟨x,hx,e⟩=>⟨x,hx,e.symm⟩,λ⟨x,hx,e⟩=>⟨x,hx,e.symm⟩⟩
theorem Eb(p:Pt)(b:List Int):(AQ p b).labels.length=p.labels.length:=Hn _ _ _
theorem Fh(hb:Bx n b)(hp:PtOk n p) {i:Nat}(hi:i<n):(AQ p b).labels[pl b i]? =p.labels[i]? :=OA hb hp.len hi
theorem FU(hb:Bx n b)(hp:PtOk n p):PtOk n (AQ p b):=by
 obtain⟨h1,h2⟩:=Ec hb hp
 refine⟨by rw[Eb,hp.len],λe he=>?_,h1⟩
 obtain⟨x,hx,rfl⟩:=(h2 e).1 he
 exact YG hb (hp.edge x hx)
theorem Hc(hb:Bx n b)(hp:PtOk n p):(AQ p b).edges.length=p.edges.length:=by
 have hn:=Me hb.2.2 (E:=p.edges) (λe he=>by rw[hb.1];exact hp.edge e he) hp.strict.nodup
 obtain⟨h1,h2⟩:=Mx _ hn [] List.Pairwise.nil (by simp)
 rw[C8]at h2
 rw[show(AQ p b).edges=(p.edges.map (Mf b)).foldl Mt []from rfl,h2.length_eq,Ac]
theorem Sv(ha:Bx n a)(hb:Bx n b) {e:Edg}(h:0<=e.a/\e.a<e.b/\e.b<(n:Int)):Mf b (Mf a e)=Mf (He a b) e:=by
 obtain⟨i,j,hij,hj,rfl⟩:=M9 h
 have hi:i<n:=by omega
 rw[NJ a ha hi hj,NJ _ (E0 ha hb) hi hj,Lg ha hb hi,Lg ha hb hj]
 have hcase:turn ⟨(pl a i:Int),(pl a j:Int)⟩=⟨(pl a i:Int),(pl a j:Int)⟩\/turn ⟨(pl a i:Int),(pl a j:Int)⟩=⟨(pl a j:Int),(pl a i:Int)⟩:=by
  unfold turn;simp only[Edg.mk.injEq];omega
 rcases hcase with e|e
 ·rw[e,NJ b hb (F9 ha hi) (F9 ha hj)]
 ·rw[e,NJ b hb (F9 ha hj) (F9 ha hi),Up]
theorem J6(ha:Bx n a)(hb:Bx n b)(hp:PtOk n p):AQ (AQ p a) b=AQ p (He a b):=by
 have ho:=FU ha hp
 refine UN (FU hb ho) (FU (E0 ha hb) hp) (λk hk=>?_) (λe=>?_)
 ·obtain⟨j,hj,rfl⟩:=Li hb hk
  obtain⟨i,hi,rfl⟩:=Li ha hj
  rw[Fh hb ho hj,Fh ha hp hi,<-Lg ha hb hi,Fh (E0 ha hb) hp hi]
 ·rw[(Ec hb ho).2,(Ec (E0 ha hb) hp).2]
  constructor
  ·rintro⟨x,hx,rfl⟩
   obtain⟨y,hy,rfl⟩:=((Ec ha hp).2 x).1 hx
   exact⟨y,hy,Sv ha hb (hp.edge y hy)⟩
  ·rintro⟨y,hy,rfl⟩
   exact⟨Mf a y,((Ec ha hp).2 _).2 ⟨y,hy,rfl⟩,(Sv ha hb (hp.edge y hy)).symm⟩
theorem Wp(hp:PtOk n p):AQ p (KN n)=p:=by
 refine UN (FU (GJ n) hp) hp (λk hk=>?_) (λe=>?_)
 ·have:=Fh (GJ n) hp hk;rwa [Sk hk]at this
 ·have hm:∀x∈p.edges,Mf (KN n) x=x:=λx hx=>by
   obtain⟨i,j,hij,hj,rfl⟩:=M9 (hp.edge x hx)
   rw[NJ _ (GJ n) (by omega) hj,Sk (by omega),Sk hj]
   exact Wo (by simp only;omega)
  rw[(Ec (GJ n) hp).2]
  constructor
  ·rintro⟨x,hx,rfl⟩;rw[hm x hx];exact hx
  ·intro h;exact⟨e,h,(hm e h).symm⟩
theorem Tc(ha:Bx n a)(hp:PtOk n p):AQ (AQ p a) (Gt a)=p:=by rw[J6 ha (HJ ha) hp,Te ha,Wp hp]
end
end Go.Gr
end
section
namespace Go.Gr
open Go.Proofs.YtjejpdfldmempaaGreatDoor
structure TOrd {α:Type}(f:α->α->Int):Prop where
 eq0:∀x y,f x y=0↔x=y
 anti:∀x y,f y x<0↔0<f x y
 trans:∀x y z,f x y<0->f y z<0->f x z<0
theorem Uq:TOrd BV:=⟨FD,λx y=>by rw[TT];omega,λx y z=>by rw[Iq,Iq,Iq];omega⟩
theorem Wq {α:Type} {f:α->α->Int}(h:TOrd f):TOrd (CB f):=by
 refine⟨λx=>?_,λx=>?_,λx=>?_⟩
 ·induction x with
  |nil=>intro y;cases y<;>simp[CB]
  |
   cons a x ih=>
   intro y
   cases y with
   |nil=>simp[CB]
   |
    cons b y=>
    rw[Cg]
    by_cases e:f a b=0
    ·rw[if_pos e,ih y]
     have:=(h.eq0 a b).1 e
     subst this;simp
    ·rw[if_neg e]
     have:a≠b:=λhh=>e ((h.eq0 a b).2 hh)
     simp[e,this]
 ·induction x with
  |nil=>intro y;cases y<;>simp[CB]
  |
   cons a x ih=>
   intro y
   cases y with
   |nil=>simp[CB]
   |
    cons b y=>
    rw[Cg,Cg]
    by_cases e:f a b=0
    ·have:=(h.eq0 a b).1 e
     subst this
     rw[if_pos e,if_pos e];exact ih y
    ·have e2:f b a≠0:=λhh=>e ((h.eq0 a b).2 ((h.eq0 b a).1 hh).symm)
     rw[if_neg e,if_neg e2];exact h.anti a b
 ·induction x with
  |nil=>intro y z;cases y<;>cases z<;>simp[CB]
  |
   cons a x ih=>
   intro y z
   cases y with
   |nil=>simp[CB]
   |
    cons b y=>
    cases z with
    |nil=>simp[CB]
    |
     cons c z=>
     rw[Cg,Cg,Cg]
     by_cases e1:f a b=0
     ·have:=(h.eq0 a b).1 e1
      subst this
      rw[if_pos e1]
      by_cases e2:f a c=0
      ·rw[if_pos e2,if_pos e2];exact ih y z
      ·rw[if_neg e2,if_neg e2];exactλ_ h=>h
     ·rw[if_neg e1]
      by_cases e2:f b c=0
      ·have:=(h.eq0 b c).1 e2
       subst this
       rw[if_pos e2,if_neg e1];exactλh _=>h
      ·rw[if_neg e2]
       intro h1 h2
       have h3:=h.trans _ _ _ h1 h2
       rw[if_neg (by omega)];exact h3
theorem KJ {α:Type} {f:α->α->Int}(h:TOrd f):∀{a b:List α} (c d:List α),a.length=b.length->CB f (a++c) (b++d)=if CB f a b=0 then CB f c d else CB f a b
 |[],[],c,d,_=>by simp[CB]
 |
  x::a,y::b,c,d,hl=>by
  rw[A9,A9,Cg,Cg,KJ h (a:=a) (b:=b) c d (by simpa using hl)]
  by_cases e:f x y=0
  ·simp[e]
  ·simp[e]
 |[],_::_,_,_,hl=>by simp at hl
 |_::_,[],_,_,hl=>by simp at hl
def TG(p:Pt):List Int:=(p.labels.length:Int)::(p.labels++(p.edges.length:Int)::p.edges.flatMap λe=>[e.a,e.b])
theorem MB:∀E F:List Edg,CB BR E F=CB BV (E.flatMap λe=>[e.a,e.b]) (F.flatMap λe=>[e.a,e.b])
 |[],[]=>rfl
 |[],_::_=>rfl
 |_::_,[]=>rfl
 |
  x::E,y::F=>by
  simp only[Dw,A9,AR,Cg]
  rw[MB E F]
  unfold BR
  by_cases h:BV x.a y.a=0
  ·simp[h]
  ·simp[h]
theorem Gp(p q:Pt):B9 p q=CB BV (TG p) (TG q):=by
 unfold B9 TG LV
 rw[Cg]
 by_cases h1:BV (p.labels.length:Int) (q.labels.length:Int)=0
 ·rw[if_pos h1,if_pos h1,KJ Uq _ _ (by have:=(FD _ _).1 h1;omega)]
  unfold LV
  by_cases h2:CB BV p.labels q.labels=0
  ·rw[if_pos h2,if_pos h2,Cg,<-MB]
   unfold LV
   by_cases h3:BV (p.edges.length:Int) (q.edges.length:Int)=0
   ·rw[if_pos h3,if_pos h3];unfold LV
    by_cases h4:CB BR p.edges q.edges=0
    ·rw[if_pos h4,h4];rfl
    ·rw[if_neg h4]
   ·rw[if_neg h3,if_neg h3]
  ·rw[if_neg h2,if_neg h2]
 ·rw[if_neg h1,if_neg h1]
theorem Qx:∀{E F:List Edg},(E.flatMap λe=>[e.a,e.b])=(F.flatMap λe=>[e.a,e.b])->E=F
 |[],[],_=>rfl
 |[],_::_,h=>by simp at h
 |_::_,[],h=>by simp at h
 |
  x::E,y::F,h=>by
  simp only[Dw,A9,AR,Co]at h
  rw[Qx h.2.2]
  cases x;cases y;simp only at h;simp[h.1,h.2.1]
theorem Vw {p q:Pt}(h:TG p=TG q):p=q:=by
 unfold TG at h
 rw[Co]at h
 obtain⟨h1,h2⟩:=List.append_inj h.2 (by have:=h.1;omega)
 rw[Co]at h2
 cases p;cases q
 simp only at h1 h2
 simp[h1,Qx h2.2]
theorem EX:TOrd B9:=⟨λx y=>by
  rw[Gp,(Wq Uq).eq0];exact⟨Vw,λh=>by rw[h]⟩,λx y=>by
  rw[Gp,Gp];exact(Wq Uq).anti _ _,λx y z=>by
  rw[Gp,Gp,Gp];exact(Wq Uq).trans _ _ _⟩
instance:DecidableEq Pt:=λp q=>decidable_of_iff (B9 p q=0) (EX.eq0 p q)
section
variable {α:Type} {f:α->α->Int}(h:TOrd f)
include h
theorem TOrd.not_lt {x y:α}:¬f x y<0↔f y x<=0:=by
 rw[h.anti y x];omega
theorem TOrd.le_of {x y:α}(hxy:f x y<=0):f x y<0\/x=y:=by
 rcases Int.lt_or_eq_of_le hxy with h1|h1
 ·exact .inl h1
 ·exact .inr ((h.eq0 _ _).1 h1)
theorem TOrd.self(x:α):f x x=0:=(h.eq0 x x).2 rfl
theorem TOrd.le_trans {x y z:α}(h1:f x y<=0)(h2:f y z<=0):f x z<=0:=by
 rcases h.le_of h1 with h1|rfl
 ·rcases h.le_of h2 with h2|rfl
  ·exact Int.le_of_lt (h.trans _ _ _ h1 h2)
  ·omega
 ·exact h2
theorem TOrd.antisymm {x y:α}(h1:f x y<=0)(h2:f y x<=0):x=y:=by
 rcases h.le_of h1 with h1|rfl
 ·have:=(h.anti y x).1 h1;omega
 ·rfl
end
theorem Jb:∀{S T:List Int},S.Pairwise (· <= ·)->T.Perm S->CB BV S T<=0
 |[],T,_,hp=>by rw[hp.eq_nil];exact Int.le_refl _
 |s::S,[],_,hp=>by have:=hp.length_eq;simp at this
 |
  s::S,t::T,hs,hp=>by
  obtain⟨h1,h2⟩:=BQ.1 hs
  rw[Cg]
  by_cases e:s=t
  ·subst e
   rw[if_pos ((FD s s).2 rfl)]
   exact Jb h2 ((List.perm_cons s).1 hp)
  ·have:t∈S:=by
    have:=hp.mem_iff.1 (List.mem_cons_self (a:=t) (l:=T))
    rcases Ad.1 this with h|h
    ·exact absurd h.symm e
    ·exact h
   have hlt:s<t:=by have:=h1 t this;omega
   rw[if_neg (by rw[FD];exact e)]
   have:=(Iq s t).2 hlt;omega
theorem Q9 {p q:Pt}(hl:p.labels.length=q.labels.length)(h:CB BV p.labels q.labels<0):B9 p q<0:=by
 unfold B9
 rw[show BV (p.labels.length:Int) (q.labels.length:Int)=0 from(FD _ _).2 (by omega)]
 unfold LV;rw[if_pos rfl];unfold LV
 rw[if_neg (by omega)];exact h
theorem Mg(fr to:List Int):∀(k:Nat) (ah:List Nat) (o:List Int),o∈FN fr to k ah↔∃t:List Nat,t.length=k/\o=(ah++t).map (λj:Nat=>(j:Int))/\
  ∀i j,t[i]? =some j->j∉ah++t.take i/\j<to.length/\to[j]? =fr[ah.length+i]?
 |
  0,ah,o=>by
  simp only[FN,A7]
  constructor
  ·rintro rfl;exact⟨[],rfl,by simp,by simp⟩
  ·rintro⟨t,ht,rfl,_⟩
   rw[Aw ht];simp
 |
  k+1,ah,o=>by
  simp only[FN,AB,Bg,Bk,Aj,decide_eq_true_eq,Ej]
  constructor
  ·rintro⟨j,⟨hj,hc,he⟩,ho⟩
   obtain⟨t,ht,rfl,hh⟩:=(Mg fr to k (ah++[j]) o).1 ho
   refine⟨j::t,by simp[ht],by simp,λi j' hi=>?_⟩
   cases i with
   |
    zero=>
    simp at hi;subst hi
    refine⟨by simpa using hc,hj,by simpa using he⟩
   |
    succ i=>
    have:=hh i j' (by simpa using hi)
    refine⟨by simpa using this.1,this.2.1,?_⟩
    rw[this.2.2,Ao,CX,Ev,Nat.add_comm 1 i]
  ·rintro⟨t,ht,rfl,hh⟩
   cases t with
   |nil=>simp at ht
   |
    cons j t=>
    have h0:=hh 0 j rfl
    refine⟨j,⟨h0.2.1,by simpa using h0.1,by simpa using h0.2.2⟩,(Mg fr to k (ah++[j]) _).2 ⟨t,by simpa using ht,by simp,λi j' hi=>?_⟩⟩
    have:=hh (i+1) j' (by simpa using hi)
    refine⟨by simpa using this.1,this.2.1,?_⟩
    rw[this.2.2,Ao,CX,Ev,Nat.add_comm 1 i]
theorem Vr {fr to:List Int} {n:Nat}(ht:to.length=n) {o:List Int}:o∈FN fr to n []↔Bx n o/\∀i,i<n->to[pl o i]? =fr[i]? :=by
 rw[Mg]
 constructor
 ·rintro⟨t,hl,rfl,hh⟩
  simp only[AR,Bh,DE]at hh⊢
  refine⟨⟨by simp[hl],λx hx=>?_,?_⟩,λi hi=>?_⟩
  ·obtain⟨j,hj,rfl⟩:=Av.1 hx
   obtain⟨i,hi,rfl⟩:=Lb.1 hj
   have:=(hh i _ (Ab hi)).2.1
   omega
  ·refine Fy.2 ?_
   rw[Ct]
   intro i j hi hj hij e
   have:=(hh j _ (Ab hj)).1
   refine this (List.mem_take_iff_getElem.2 ⟨i,by omega,?_⟩)
   omega
  ·have hx:=Ab (l:=t) (i:=i) (by omega)
   have:=(hh i _ hx).2.2
   rw[<-this]
   congr 1
   unfold pl
   rw[Al,hx];simp
 ·rintro⟨ho,hh⟩
  refine⟨o.map Int.toNat,by simp[ho.1],?_,λi j hi=>?_⟩
  ·rw[AR,Np]
   refine(List.map_id _).symm.trans (List.map_congr_left λx hx=>?_)
   have:=ho.2.1 x hx
   simp only[Function.comp_apply,id];omega
  ·have hin:i<n:=by
    have:=(Ak.1 hi).1
    rw[Ac,ho.1]at this;exact this
   rw[Al,Gb ho hin]at hi
   simp only[CS,Dx,Ax]at hi
   subst hi
   refine⟨?_,by rw[ht];exact F9 ho hin,by simpa using hh i hin⟩
   rw[AR]
   intro hm
   obtain⟨k,hk,e⟩:=List.mem_take_iff_getElem.1 hm
   rw[List.getElem_map]at e
   have hkn:k<n:=by omega
   have:=Gb ho hkn
   have hkl:k<o.length:=by rw[ho.1];exact hkn
   rw[Ab hkl]at this
   have e2:pl o k=pl o i:=by
    rw[EZ this]at e
    simpa using e
   have:=JG ho hkn hin e2;omega
def DS:Nat->Nat
 |0=>1
 |n+1=>(n+1)*DS n
theorem KH {α:Type}(p:α->Bool):∀l:List α,l.length=(l.filter p).length+(l.filter λx=>!p x).length
 |[]=>rfl
 |
  x::l=>by
  have:=KH p l
  cases h:p x with
  |true=>rw[Uc h,List.filter_cons_of_neg (by simp[h]),Au,Au];omega
  |false=>rw[List.filter_cons_of_neg (by simp[h]),Uc (by simp[h]),Au,Au];omega
theorem Xh {α β:Type} [DecidableEq β](f:α->β)(k:Nat):∀(m:Nat) (l:List α),l.length<=m->(∀y∈l,(l.filter λx=>decide (f x=f y)).length=k)->∃c:List β,c.Nodup/\(∀b,b∈c↔∃x∈l,f x=b)/\l.length=c.length*k
 |_,[],_,_=>⟨[],by simp,by simp,by simp⟩
 |0,x::l,h,_=>by simp at h
 |
  m+1,x::l,h,hk=>by
  have h2:=KH (λy=>decide (f y=f x)) (x::l)
  have hx:=hk x (by simp)
  have hlt:((x::l).filter λy=>!decide (f y=f x)).length<=m:=by
   have:1<=((x::l).filter λy=>decide (f y=f x)).length:=by
    rw[Uc (by simp)];simp
   simp only[Au]at h h2
   omega
  obtain⟨c,h3,h4,h5⟩:=Xh f k m ((x::l).filter λy=>!decide (f y=f x)) hlt (λy hy=>by
   obtain⟨hy1,hy2⟩:=Bg.1 hy
   rw[<-hk y hy1,List.filter_filter]
   congr 1
   refine List.filter_congr λz _=>?_
   simp only[Ej,decide_eq_false_iff_not]at hy2
   by_cases e:f z=f y
   ·rw[e];simp[hy2]
   ·simp[e])
  refine⟨f x::c,C7.2 ⟨λhm=>?_,h3⟩,λb=>?_,?_⟩
  ·obtain⟨y,hy,e⟩:=(h4 _).1 hm
   have:=(Bg.1 hy).2
   simp[e]at this
  ·rw[Ad,h4]
   constructor
   ·rintro(rfl|⟨y,hy,rfl⟩)
    ·exact⟨x,by simp,rfl⟩
    ·exact⟨y,(Bg.1 hy).1,rfl⟩
   ·rintro⟨y,hy,rfl⟩
    by_cases e:f y=f x
    ·exact .inl e
    ·exact .inr ⟨y,Bg.2 ⟨hy,by simpa using e⟩,rfl⟩
  ·rw[h2,hx,h5,Au,Cl];omega
end Go.Gr
end
section
namespace Go.Gr
open Go.Reg
section
variable {α:Type} {f:α->α->Int}
def BS(f:α->α->Int):List (α×Int)->α->Int->List (α×Int)
 |[],p,n=>[(p,n)]
 |(q,m)::l,p,n=>if f q p<0 then(q,m)::BS f l p n else if f q p=0 then(p,m+n)::l else(p,n)::(q,m)::l
def FJ(f:α->α->Int)(l:List (α×Int)):Prop:=l.Pairwise (λa b=>f a.1 b.1<0)
theorem MT {l:List (α×Int)} {p:α} {n:Int}:∀x∈BS f l p n,x.1=p\/x∈l:=by
 induction l with
 |nil=>intro x hx;simp only[BS,A7]at hx;exact .inl (by rw[hx])
 |
  cons y l ih=>
  obtain⟨q,m⟩:=y
  intro x hx
  simp only[BS]at hx
  split at hx
  ·rcases Ad.1 hx with rfl|hx
   ·exact .inr (by simp)
   ·exact(ih x hx).imp id λh=>by simp[h]
  ·split at hx
   ·rcases Ad.1 hx with rfl|hx
    ·exact .inl rfl
    ·exact .inr (by simp[hx])
   ·rcases Ad.1 hx with rfl|hx
    ·exact .inl rfl
    ·exact .inr hx
theorem Ks(h:TOrd f) {l:List (α×Int)} {p:α} {n:Int}(hs:FJ f l):FJ f (BS f l p n):=by
 unfold FJ at hs⊢
 induction l with
 |nil=>exact List.pairwise_singleton _ _
 |
  cons y l ih=>
  obtain⟨q,m⟩:=y
  obtain⟨h1,h2⟩:=BQ.1 hs
  simp only[BS]
  split
  ·rename_i hq
   refine BQ.2 ⟨λx hx=>?_,ih h2⟩
   rcases MT x hx with e|hx
   ·rw[e];exact hq
   ·exact h1 x hx
  ·split
   ·rename_i hq0
    have e:=(h.eq0 q p).1 hq0
    subst e
    exact BQ.2 ⟨h1,h2⟩
   ·rename_i hq hq0
    have hpq:f p q<0:=by have:=h.anti q p;omega
    refine BQ.2 ⟨λx hx=>?_,hs⟩
    rcases Ad.1 hx with rfl|hx
    ·exact hpq
    ·exact h.trans _ _ _ hpq (h1 x hx)
theorem VU(h:TOrd f) {l:List (α×Int)} {p:α} {n:Int}(hp:∀x∈l,x.1≠p):(BS f l p n).Perm ((p,n)::l):=by
 induction l with
 |nil=>exact .refl _
 |
  cons y l ih=>
  obtain⟨q,m⟩:=y
  simp only[BS]
  split
  ·exact((ih λx hx=>hp x (by simp[hx])).cons _).trans (.swap _ _ _)
  ·split
   ·rename_i hq0
    exact absurd ((h.eq0 q p).1 hq0) (hp (q,m) (by simp))
   ·exact .refl _
theorem VT [DecidableEq α](h:TOrd f) {l:List (α×Int)} {p:α} {n s:Int}(hs:FJ f l)(hp:(p,s)∈l):(BS f l p n).Perm ((p,s+n)::l.erase (p,s)):=by
 unfold FJ at hs
 induction l with
 |nil=>cases hp
 |
  cons y l ih=>
  obtain⟨q,m⟩:=y
  obtain⟨h1,h2⟩:=BQ.1 hs
  simp only[BS]
  rcases Ad.1 hp with e|hp
  ·cases e
   have h0:=h.self p
   rw[if_neg (by omega),if_pos h0]
   simp
  ·have hq:=h1 _ hp
   simp only at hq
   have hne:(q,m)≠(p,s):=λe=>by
    cases e
    have:=h.self p
    omega
   rw[if_pos hq,List.erase_cons_tail (by simpa using hne)]
   exact((ih h2 hp).cons _).trans (.swap _ _ _)
theorem Tp(h:TOrd f) {l out:List (α×Int)}(hp:out.Perm l)(hs:FJ f l)(ho:out.Pairwise (λa b=>¬f b.1 a.1<0)):out=l:=by
 unfold FJ at hs
 refine hp.eq_of_pairwise (le:=λa b=>¬f b.1 a.1<0) (λa b ha hb h1 h2=>?_) ho (hs.imp λ{a b} hab hba=>?_)
 ·have e:a.1=b.1:=by
   have:=h.anti a.1 b.1
   exact(h.eq0 _ _).1 (by omega)
  have ha':=hp.mem_iff.1 ha
  by_cases hab:a=b
  ·exact hab
  ·exfalso
   obtain⟨i,hi⟩:=Lc ha'
   obtain⟨j,hj⟩:=Lc hb
   obtain⟨hi',ei⟩:=Ak.1 hi
   obtain⟨hj',ej⟩:=Ak.1 hj
   have h0:=h.self b.1
   rcases Nat.lt_trichotomy i j with hlt|heq|hgt
   ·have:=Ct.1 hs i j hi' hj' hlt
    rw[ei,ej,e]at this;omega
   ·subst heq;exact hab (ei.symm.trans ej)
   ·have:=Ct.1 hs j i hj' hi' hgt
    rw[ei,ej,e]at this;omega
 ·have:=h.anti a.1 b.1;omega
structure TabIs {κ:Type} [DecidableEq κ](f:α->α->Int)(key:α->κ)(ok:α->Prop)(m:List (κ×(α×Int)))(l:List (α×Int)):Prop where
 sort:FJ f l
 perm:(m.map (·.2)).Perm l
 keys:∀x∈m,x.1=key x.2.1/\ok x.2.1
 nodup:(m.map (·.1)).Nodup
theorem TabIs.nil {κ:Type} [DecidableEq κ] {key:α->κ} {ok:α->Prop}:TabIs f key ok [] []:=⟨.nil,.refl _,by simp,by simp⟩
theorem Sm {β:Type}:∀{l:List β} {i:Nat} {x:β},l[i]? =some x->l.Perm (x::l.eraseIdx i)
 |[],i,x,h=>by simp at h
 |y::l,0,x,h=>by simp at h;subst h;exact .refl _
 |
  y::l,i+1,x,h=>by
  have:=Sm (l:=l) (i:=i) (x:=x) (by simpa using h)
  exact(this.cons y).trans (.swap _ _ _)
theorem UF {β:Type}:∀{l:List β} {i:Nat} (y:β),i<l.length->(l.set i y).Perm (y::l.eraseIdx i)
 |[],i,y,h=>by simp at h
 |x::l,0,y,h=>by simp
 |
  x::l,i+1,y,h=>by
  have:=UF (l:=l) (i:=i) y (by simpa using h)
  exact(this.cons x).trans (.swap _ _ _)
theorem TabIs.add [DecidableEq α] {κ:Type} [DecidableEq κ] {key:α->κ} {ok:α->Prop}(h:TOrd f)(hk:∀p q,ok p->ok q->key p=key q->p=q) {m:List (κ×(α×Int))} {l:List (α×Int)}(t:TabIs f key ok m l) {p:α}(hp:ok p)(n:Int):
  (∀r,get m (key p)=some r->r.1=p/\TabIs f key ok (put m (key p) (p,r.2+n)) (BS f l p n))/\(get m (key p)=none->TabIs f key ok (put m (key p) (p,n)) (BS f l p n)):=by
 have hkeys:∀v:Int,∀x∈put m (key p) (p,v),x.1=key x.2.1/\ok x.2.1:=λv x hx=>by
  unfold put at hx
  split at hx
  ·rcases List.mem_or_eq_of_mem_set hx with hx|rfl
   ·exact t.keys x hx
   ·exact⟨rfl,hp⟩
  ·rcases Af.1 hx with hx|hx
   ·exact t.keys x hx
   ·rw[A7.1 hx];exact⟨rfl,hp⟩
 have hnod:∀v:Int,((put m (key p) (p,v)).map (·.1)).Nodup:=λv=>by
  unfold put
  cases hf:(m.map (·.1)).findIdx? (· ==key p)with
  |
   some i=>
   obtain⟨q,hq,hqk,_⟩:=DB m (key p) i hf
   simp only[EN]
   rw[Jc (by rw[Al,hq];simp[hqk])]
   exact t.nodup
  |
   none=>
   simp only[AZ,Am,Bp]
   refine QQ.2 ⟨t.nodup,by simp,λa ha b hb=>?_⟩
   simp at hb;subst hb
   rw[QL]at hf
   have:=hf a ha
   simpa using this
 constructor
 ·intro r hr
  cases hf:(m.map (·.1)).findIdx? (· ==key p)with
  |none=>rw[(GO m (key p) hf).1]at hr;cases hr
  |
   some i=>
   obtain⟨q,hq,hqk,hg⟩:=DB m (key p) i hf
   rw[hr]at hg
   have hrq:r=q.2:=EZ hg
   have hmem:=AY hq
   obtain⟨k1,k2⟩:=t.keys q hmem
   have e:r.1=p:=by rw[hrq];exact hk _ _ k2 hp (by rw[<-k1,hqk])
   refine⟨e,Ks h t.sort,?_,hkeys _,hnod _⟩
   have hq2:(m.map (·.2))[i]? =some (p,r.2):=by rw[Al,hq];simp[<-hrq,<-e]
   have h1:=Sm hq2
   have hil:i<(m.map (·.2)).length:=(Ak.1 hq2).1
   have hput:(put m (key p) (p,r.2+n)).map (·.2)=(m.map (·.2)).set i (p,r.2+n):=by unfold put;rw[hf];simp
   rw[hput]
   have hin:(p,r.2)∈l:=t.perm.mem_iff.1 (AY hq2)
   refine(UF _ hil).trans (.trans ?_ (VT h t.sort hin).symm)
   refine .cons _ ?_
   have h2:l.Perm ((p,r.2)::(m.map (·.2)).eraseIdx i):=t.perm.symm.trans h1
   have h3:=h2.erase (p,r.2)
   rw[List.erase_cons_head]at h3
   exact h3.symm
 ·intro hr
  cases hf:(m.map (·.1)).findIdx? (· ==key p)with
  |
   some i=>
   obtain⟨q,hq,hqk,hg⟩:=DB m (key p) i hf
   rw[hr]at hg;cases hg
  |
   none=>
   refine⟨Ks h t.sort,?_,hkeys _,hnod _⟩
   have hput:(put m (key p) (p,n)).map (·.2)=m.map (·.2)++[(p,n)]:=by unfold put;rw[hf];simp
   rw[hput]
   have hne:∀x∈l,x.1≠p:=λx hx e=>by
    obtain⟨y,hy,rfl⟩:=Av.1 (t.perm.mem_iff.2 hx)
    have h1:=t.keys y hy
    rw[QL]at hf
    have:=hf y.1 (BW hy)
    rw[h1.1,e]at this
    simp at this
   refine List.Perm.trans ?_ (VU h hne).symm
   have hc:([(p,n)]++m.map (·.2)).Perm ((p,n)::l):=List.Perm.cons (p,n) t.perm
   exact List.perm_append_comm.trans hc
def CL(l:List (α×Int)):Int:=(l.map (·.2)).foldr (· + ·) 0
theorem U9 {l:List (α×Int)} {p:α} {n:Int}:CL (BS f l p n)=CL l+n:=by
 induction l with
 |nil=>simp[BS,CL]
 |
  cons y l ih=>
  obtain⟨q,m⟩:=y
  unfold CL at ih⊢
  simp only[BS]
  split
  ·simp only[Am,List.foldr_cons,ih];omega
  ·split<;>simp only[Am,List.foldr_cons]<;>omega
end
end Go.Gr
end
