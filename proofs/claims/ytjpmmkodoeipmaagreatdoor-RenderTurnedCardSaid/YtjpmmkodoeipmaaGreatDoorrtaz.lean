/- Merged: Frm Pid Afo Rmo Lrc Rso Rcl Lgi Mnb Mnc Dom Mps Mpo. -/
import Derived.Test.YtjpmmkodoeipmaaGreatDoorrtay
import Derived.Test.YtjpmmkodoeipmaaGreatDoorrtat
import Derived.Test.YtjpmmkodoeipmaaGreatDoorrtau
import Derived.RangeFuncBox
import Derived.RangeFuncLeaves
import Derived.RangeFuncCalls
import Derived.Test.YtjpmmkodoeipmaaGreatDoorrtas
import Derived.Test.YtjpmmkodoeipmaaGreatDoorrtax
import Derived.Shelf.SlSortCmp.Whole1
import Derived.Test.YtjpmmkodoeipmaaGreatDoorRows
import Derived.Shelf.Spec.SlicesGrow
import Derived.Test.YtjpmmkodoeipmaaGreatDoorrtav
section
namespace Go.Proofs.YtjpmmkodoeipmaaGreatDoor
open Go.Sx Go.RowKit Go.Reg Go.Gr
set_option maxRecDepth 100000
attribute [local go_sem] Oper.semAt_some
theorem Sp(p:Pt)(labels:List Int):Pure C1 225 [FC p,Bh labels] (λy=>y=Ya p labels):=by
 refine AU Tryz.func225 Tryz.ntmps225 [] [] ?_
 ((conv=>whnf);repeat' ((first|refine odw ?_|refine nx ?_|refine AB (λ_=>?_) (λ_=>?_))<;>conv=>whnf))
 exact rfl
theorem Hj {O:List Nat} {w:World} {k:Nat} {ds:List Da} {cs:List Value}(h:RepC O w (.list k ds) cs):∃a c,cs=[.slice a ds.length c]/\Rep O w (.list k ds) (.slice a ds.length c)/\ds.length<=c/\c<=maxLen:=by
 have h':=h
 simp only[RepC]at h
 obtain⟨a,c,css,rfl,h1,h2,_⟩:=h
 exact⟨a,c,rfl,⟨_,h',rfl⟩,h1,h2⟩
theorem XK {O:List Nat} {w:World} {p:Pt} {v:Value}(h:Rep O w (FC p) v):∃a1 c1 a2 c2,v=.agg #[.slice a1 p.labels.length c1,.slice a2 p.edges.length c2]/\Rep O w (Bh p.labels) (.slice a1 p.labels.length c1)/\Rep O w (ET p.edges) (.slice a2 p.edges.length c2):=by
 obtain⟨cs,r,rfl⟩:=h
 simp only[FC,RepC,RepCs]at r
 obtain⟨k1,k2,rfl,r1,k3,k4,rfl,r2,rfl⟩:=r
 obtain⟨a1,c1,rfl,g1,_⟩:=Hj r1
 obtain⟨a2,c2,rfl,g2,_⟩:=Hj r2
 rw[Ac]at g1 g2
 exact⟨a1,c1,a2,c2,by rw[Ac,Ac];rfl,g1,g2⟩
theorem Pure.at' {C:Cx} {f:FuncId} {xs:List Da} {Q:Da->Prop}(h:Pure C f xs Q)(n:Nat) {O:List Nat} {W:World} {us:List Value}(hO:∀b∈O,b<W.heap.size)(hg:Glob C O W)(hr:Jt O W xs us):
  CallsIn Fence.wide n C.P f us.toArray W λe B=>∃u y,e=.returned u/\Q y/\Rep O B y u/\Tch [] W B:=callsIn_wide.2 (h O W us hO hg hr).2
theorem Tch.up {O:List Nat} {A B:World}(h:Tch [] A B):Tch O A B:=h.mono (by simp)
theorem BU {A B:World}(h:Tch [] A B) {b:Nat} {o:Obj}(hb:A.heap[b]? =some o):B.heap[b]? =some o:=by
 rw[h.blk b (Al.1 hb).1 (by simp)];exact hb
theorem N7 {O X:List Nat} {w W:World}(t:Tch [] w W)(hX:∀x∈X,w.heap.size<=x\/x∈O):Later O w X W:=
 ⟨t.size,λb hb _=>t.blk b hb (by simp),λb hn hb hm=>(hX b hm).elim (λh=>by omega) hn⟩
theorem Gd {C:Cx} {O X:List Nat} {A B:World}(h:Later O A X B)(r:Glob C O A):Glob C X B:=λg hg=>(r g hg).later h
def oO(p:Pt)(b6 b7 b8:Nat)(O:List Nat)(W0:World)(R:List Nat)(pre:List (List Int))(W:World):Prop:=
 Tch ([b6,b7,b8]++R) W0 W/\match pre.foldl (Kd p) none with
  |none=>W.heap[b6]? =some (Obj.cells #[Value.slice none 0 0,Value.slice none 0 0] 54)/\W.heap[b7]? =some (Obj.cells #[Value.slice none 0 0] 22)/\W.heap[b8]? =some (Obj.cells #[Value.bool true] 4)
  |some (q,b)=>∃u1 u2 u3,W.heap[b6]? =some (Obj.cells #[u1,u2] 54)/\W.heap[b7]? =some (Obj.cells #[u3] 22)/\W.heap[b8]? =some (Obj.cells #[Value.bool false] 4)/\
    Rep ([b6,b7,b8]++O++R) W (FC q) (.agg #[u1,u2])/\Rep ([b6,b7,b8]++O++R) W (Bh b) u3/\q.labels.length<=1000/\q.edges.length<=1000
theorem Um {O:List Nat} {B:World} {q:Pt} {u:Value}(h:Rep O B (.tuple [FC q,.nili]) u):∃d1 m1 d2 m2,u=.tuple #[.agg #[.slice d1 q.labels.length m1,.slice d2 q.edges.length m2],.nilIface]/\Rep O B (FC q) (.agg #[.slice d1 q.labels.length m1,.slice d2 q.edges.length m2]):=by
 obtain⟨cs,r,rfl⟩:=h
 simp only[RepC,Aq]at r
 obtain⟨css,⟨k1,k2,rfl,r1,k3,k4,rfl,r2,rfl⟩,rfl⟩:=r
 obtain⟨d1,m1,d2,m2,e,_⟩:=XK (v:=DZ (FC q) k1) ⟨k1,r1,rfl⟩
 obtain rfl:k3=[Value.nilIface]:=r2
 refine⟨d1,m1,d2,m2,?_,k1,r1,e.symm⟩
 show Value.tuple #[DZ (FC q) k1,Value.nilIface]=_
 rw[e]
theorem Ho {S:List Nat} {A B:World}(h:Tch S A B) {b:Nat} {o:Obj}(hb:A.heap[b]? =some o)(hn:b∉S):B.heap[b]? =some o:=by
 rw[h.blk b (Al.1 hb).1 hn];exact hb
theorem Qp {p:Pt} {b6 b7 b8:Nat} {O:List Nat} {W0:World} {R:List Nat} {pre:List (List Int)} {A B:World}(h6:b6<W0.heap.size)(h7:b7<W0.heap.size)(h8:b8<W0.heap.size)(hR:∀r∈R,W0.heap.size<=r)(h:oO p b6 b7 b8 O W0 R pre A)(t:Tch R A B):
  oO p b6 b7 b8 O W0 R pre B:=by
 obtain⟨h1,h2⟩:=h
 have n6:b6∉R:=λhm=>by have:=hR _ hm;omega
 have n7:b7∉R:=λhm=>by have:=hR _ hm;omega
 have n8:b8∉R:=λhm=>by have:=hR _ hm;omega
 refine⟨h1.trans0 (t.mono (by simp+contextual)),?_⟩
 split at h2
 ·obtain⟨g1,g2,g3⟩:=h2
  exact⟨Ho t g1 n6,Ho t g2 n7,Ho t g3 n8⟩
 ·obtain⟨u1,u2,u3,g1,g2,g3,g4,g5,g6⟩:=h2
  exact⟨u1,u2,u3,Ho t g1 n6,Ho t g2 n7,Ho t g3 n8,DL (t.mono (by simp+contextual)) g4,DL (t.mono (by simp+contextual)) g5,g6⟩
theorem Vu {W:World} {b:Nat} {t:TypeId} {x y:Value}(h:W.heap[b]? =some (Obj.cells #[x,y] t)) (u v:Value):((W.setCell ⟨b,0,none⟩ u).setCell ⟨b,1,none⟩ v).heap[b]? =some (Obj.cells #[u,v] t):=by
 have one:∀{W:World} {cs:Array Value} (i:Nat) (z:Value),W.heap[b]? =some (Obj.cells cs t)->(W.setCell ⟨b,i,none⟩ z).heap[b]? =some (Obj.cells (cs.setIfInBounds i z) t):=λ{W cs} i z h=>by
  obtain⟨hlt,hk⟩:=Al.1 h
  show(W.heap.modify b _)[b]? =_
  rw[BT (by rw[Array.size_modify];exact hlt),Array.getElem_modify_self,hk]
  rfl
 exact one 1 v (one 0 u h)
theorem GC {W:World} {b i k:Nat} {v:Value} {o:Obj}(hne:¬b=k)(h:W.heap[k]? =some o):(W.setCell ⟨b,i,none⟩ v).heap[k]? =some o:=(Below.heap_setCell W ⟨b,i,none⟩ v k (λe=>hne e.symm)).trans h
theorem UX {p:Pt} {b6 b7 b8:Nat} {O R:List Nat} {W7 A2 A4:World} {pre:List (List Int)} {x:List Int} {t6 t6' t7 t8 u v z:Value}(q4:¬b6=b7)(q5:¬b6=b8)(q6:¬b7=b8)
  (tA:Tch ([b6,b7,b8]++R) W7 A2) (T:Tch [] A2 A4) (G6:A4.heap[b6]? =some (Obj.cells #[t6,t6'] 54)) (G7:A4.heap[b7]? =some (Obj.cells #[t7] 22)) (G8:A4.heap[b8]? =some (Obj.cells #[t8] 4))
  (hf:(pre++[x]).foldl (Kd p) none=some (Bl p x,x)) (r1:Rep ([b6,b7,b8]++O++R) A4 (FC (Bl p x)) (.agg #[u,v])) (r2:Rep ([b6,b7,b8]++O++R) A4 (Bh x) z) (hl:(Bl p x).labels.length<=1000/\(Bl p x).edges.length<=1000):
  oO p b6 b7 b8 O W7 R (pre++[x]) ((((A4.setCell ⟨b6,0,none⟩ u).setCell ⟨b6,1,none⟩ v).setCell ⟨b7,0,none⟩ z).setCell ⟨b8,0,none⟩ (.bool false))/\
  Tch ([b6,b7,b8]++O) A2 ((((A4.setCell ⟨b6,0,none⟩ u).setCell ⟨b6,1,none⟩ v).setCell ⟨b7,0,none⟩ z).setCell ⟨b8,0,none⟩ (.bool false)):=by
 have TS:Tch [b6,b7,b8] A4 ((((A4.setCell ⟨b6,0,none⟩ u).setCell ⟨b6,1,none⟩ v).setCell ⟨b7,0,none⟩ z).setCell ⟨b8,0,none⟩ (.bool false)):=
  ((((Tch.refl [b6,b7,b8] A4).andSet (.inl (by simp)) u).andSet (.inl (by simp)) v).andSet (.inl (by simp)) z).andSet (.inl (by simp)) _
 have E6:=GC (i:=0) (v:=.bool false) (λe=>q5 e.symm) (GC (i:=0) (v:=z) (λe=>q4 e.symm) (Vu G6 u v))
 have E7:((((A4.setCell ⟨b6,0,none⟩ u).setCell ⟨b6,1,none⟩ v).setCell ⟨b7,0,none⟩ z).setCell ⟨b8,0,none⟩ (.bool false)).heap[b7]? =some (Obj.cells #[z] 22):=
  GC (λe=>q6 e.symm) (Boxed.set z (GC q4 (GC q4 G7)))
 have E8:((((A4.setCell ⟨b6,0,none⟩ u).setCell ⟨b6,1,none⟩ v).setCell ⟨b7,0,none⟩ z).setCell ⟨b8,0,none⟩ (.bool false)).heap[b8]? =some (Obj.cells #[.bool false] 4):=
  Boxed.set (.bool false) (GC q6 (GC q5 (GC q5 G8)))
 refine⟨⟨(tA.then0 T).trans0 (TS.mono (by simp+contextual)),?_⟩,T.ahead0 (TS.mono (by simp+contextual))⟩
 rw[hf]
 exact⟨u,v,z,E6,E7,E8,DL (TS.mono (by simp+contextual)) r1,DL (TS.mono (by simp+contextual)) r2,hl⟩
theorem fL {A2 A3:World}(T3:Tch [] A2 A3) {b6 b8:Nat} {t t' ty:TypeId} {x6 x6' x8:Value}(g6:A2.heap[b6]? =some (Obj.cells #[x6,x6'] t)) (g8:A2.heap[b8]? =some (Obj.cells #[x8] t')) (y y':Value):
  (A3.alloc (Obj.cells #[y,y'] ty)).cell? ⟨b8,0,none⟩=some x8/\(A3.alloc (Obj.cells #[y,y'] ty)).cell? ⟨b6,0,none⟩=some x6/\(A3.alloc (Obj.cells #[y,y'] ty)).cell? ⟨b6,1,none⟩=some x6'/\
  (A3.alloc (Obj.cells #[y,y'] ty)).cell? ⟨A3.heap.size,0,none⟩=some y/\(A3.alloc (Obj.cells #[y,y'] ty)).cell? ⟨A3.heap.size,1,none⟩=some y':=by
 have G6:=BU (T3.andAlloc (Obj.cells #[y,y'] ty)) g6
 have G8:=BU (T3.andAlloc (Obj.cells #[y,y'] ty)) g8
 have G10:=World.alloc_heap_new A3 (Obj.cells #[y,y'] ty)
 refine⟨?_,?_,?_,?_,?_⟩
 ·simp only[World.cell?,G8];rfl
 ·simp only[World.cell?,G6];rfl
 ·simp only[World.cell?,G6];rfl
 ·simp only[World.cell?,G10];rfl
 ·simp only[World.cell?,G10];rfl
theorem Z9 {fn:Func} {P:Program} {t u v ty:Nat}(h:fn.results=#[.cell t ty,.tmp u,.tmp v]) {tmps:Array Value} {W:World} {b:Nat} {x:Value} (ht:tmps.getD t undef=.pointer (some ⟨b,0,none⟩)) (hl:(loadVar ty ⟨b,0,none⟩).run P W=.ok x W):
  (results fn tmps).run P W=.ok (.tuple #[x,tmps.getD u undef,tmps.getD v undef]) W:=by
 have hm:(fn.results.mapM (ZA tmps)).run P W=.ok #[x,tmps.getD u undef,tmps.getD v undef] W:=by
  rw[h,fC,Sem.run_map]
  have:(List.mapM (ZA tmps) #[ResultVar.cell t ty,ResultVar.tmp u,ResultVar.tmp v].toList).run P W=.ok [x,tmps.getD u undef,tmps.getD v undef] W:=by
   simp only[List.mapM_cons,List.mapM_nil,ZA,AK,Bn,ht,asAddr,AH,hl]
  rw[this];rfl
 rw[KZ,AK,hm]
 simp
theorem bV {q:Pt} {by':List Int} {O X:List Nat} {w W V:World} {b2 D:Nat} {tmps:Array Value} {u v z x2 x2':Value}(hX:∀b∈O,b∈X)(hb2X:b2∈X)(hb2w:w.heap.size<=b2)(hDR:D∈X)(hDw:w.heap.size<=D)(hD2:¬b2=D)
  (TW:Tch [] w W) (TV:Tch [] W V) (r1:Rep X W (FC q) (.agg #[u,v])) (r2:Rep X W (Bh by') z) (hDef:W.heap[D]? =some (.deferred (some []))) (g2:W.heap[b2]? =some (Obj.cells #[x2,x2'] 54))
  (e2:tmps.getD 2 undef=.pointer (some ⟨b2,0,none⟩)) (e3:tmps.getD 3 undef=z) (e4:tmps.getD 4 undef=.nilIface):
  bodyPostM Fence.wide 4 Tryz.prog Tryz.f168 (λe w'=>∃v y,e=Ending.returned v/\y=Da.tuple [FC q,Bh by',Da.nili]/\Rep O w' y v/\Tch [] w w') Exit.ret {tmps:=tmps,defers:=[{target:=.collected D,args:=#[]}]} ((V.setCell ⟨b2,0,none⟩ u).setCell ⟨b2,1,none⟩ v):=by
 have G2:=Vu (BU TV g2) u v
 have GD:((V.setCell ⟨b2,0,none⟩ u).setCell ⟨b2,1,none⟩ v).heap[D]? =some (.deferred (some [])):=GC hD2 (GC hD2 (BU TV hDef))
 obtain⟨Y,hY⟩:∃Y,(V.setCell ⟨b2,0,none⟩ u).setCell ⟨b2,1,none⟩ v=Y:=⟨_,rfl⟩
 have TY:Tch [b2] V Y:=by rw[<-hY];exact((Tch.refl [b2] V).andSet (.inl (by simp)) u).andSet (.inl (by simp)) v
 rw[hY]at G2 GD
 rw[hY]
 have TE:Tch [b2,D] W (Y.putObj D (.deferred none)):=((Tch.up (O:=[b2,D]) TV).trans0 (TY.mono (by simp))).trans0 ((DE _ _ _).mono (by simp))
 have hbW:=(Al.1 g2).1
 have G2':(Y.putObj D (.deferred none)).heap[b2]? =some (Obj.cells #[u,v] 54):=(World.putObj_heap_other (λe=>hD2 e)).trans G2
 have LX:Later X W O (Y.putObj D (.deferred none)):=⟨TE.size,λb hb hn=>TE.blk b hb (λhm=>by
  simp only[Ai,CS,or_false]at hm
  rcases hm with rfl|rfl
  ·exact hn hb2X
  ·exact hn hDR),λb hn _ hm=>hn (hX b hm)⟩
 have TF:Tch [] w (Y.putObj D (.deferred none)):=TW.trans TE (λ_ h=>h) (λx hx=>by
  simp only[Ai,CS,or_false]at hx
  rcases hx with rfl|rfl
  ·exact .inr hb2w
  ·exact .inr hDw)
 refine⟨by simp,.inl ⟨D,_,rfl,run_takeDeferred GD,?_⟩⟩
 have hload:(loadVar 54 ⟨b2,0,none⟩).run Tryz.prog (Y.putObj D (.deferred none))=.ok (.agg #[u,v]) (Y.putObj D (.deferred none)):=by
  have:=IY (P:=Tryz.prog) (EM.ty (t:=54) rfl) (w:=Y.putObj D (.deferred none)) (b:=b2) (o:=0) (cs:=[u,v]) (λj x hj=>by
   cases j with
   |zero=>simp only[World.cell?,G2'];simpa using hj
   |
    succ j=>
    cases j with
    |zero=>simp only[World.cell?,G2'];simpa using hj
    |succ j=>simp at hj) rfl (by decide)
  exact this
 refine⟨_,Z9 Tryz.results168 e2 hload,_,_,rfl,rfl,?_,TF⟩
 rw[e3,e4]
 obtain⟨k1,h1,e1⟩:=r1.later LX
 obtain⟨k2,h2,e2'⟩:=r2.later LX
 refine⟨[_],by simp only[RepC];exact⟨[k1,k2,[.nilIface]],by simp only[Aq];exact⟨k1,_,rfl,h1,k2,_,rfl,h2,[.nilIface],_,rfl,by simp only[RepC],rfl⟩,rfl⟩,?_⟩
 simp only[Bf,List.zipWith_nil_left]
 rw[<-e1,<-e2']
 rfl
set_option maxHeartbeats 1000000 in
theorem R6(p:Pt)(hp:Dk p=none)(hE:p.edges.length<=1000):Pure C1 168 [FC p] (λy=>y=.tuple [FC (Ce p),Bh (Nl p),.nili]):=by
 intro O w vs hO hg hr
 obtain⟨v,vs',rfl,hv,hr'⟩:=Cg hr
 obtain rfl:=Dv hr'
 obtain⟨a1,c1,a2,c2,rfl,g1,g2⟩:=XK hv
 refine⟨by kernel_rfl,?_⟩
 show Calls Tryz.prog _ _ _ _
 refine callsIn_wide.1 (callsIn_of_wp_marks (n:=4) Tryz.func168 rfl trivial ?_ rfl)
 simp only[Tryz.ntmps168,BD,Ax,Br,Nat.reduceAdd,Nat.reduceSub,CW,CV,DA,Dg,BC,AV]
 have hri:=EK p (by have:=(CQ (BK hp).1).1;omega) (by omega)
 rw[Fm hp]at hri
 have T0:Tch [] w ((w.alloc (Obj.cells #[Value.slice a1 p.labels.length c1,Value.slice a2 p.edges.length c2] 54)).alloc (Obj.cells #[Value.slice none 0 0,Value.slice none 0 0] 54)):=(Tch.alloc w _ []).andAlloc _
 have hR:=Pure.at' hri 3 (Gh (Tch.up T0) hO) (Hp (Tch.up T0) hg) (reps_cons (DL (Tch.up T0) hv) reps_nil)
 have B1:((w.alloc (Obj.cells #[Value.slice a1 p.labels.length c1,Value.slice a2 p.edges.length c2] 54)).alloc (Obj.cells #[Value.slice none 0 0,Value.slice none 0 0] 54)).heap[w.heap.size]? =some (Obj.cells #[Value.slice a1 p.labels.length c1,Value.slice a2 p.edges.length c2] 54):=BU (Tch.alloc _ _ []) (World.alloc_heap_new w _)
 have B2:((w.alloc (Obj.cells #[Value.slice a1 p.labels.length c1,Value.slice a2 p.edges.length c2] 54)).alloc (Obj.cells #[Value.slice none 0 0,Value.slice none 0 0] 54)).heap[w.heap.size+1]? =some (Obj.cells #[Value.slice none 0 0,Value.slice none 0 0] 54):=by
  have:=World.alloc_heap_new (w.alloc (Obj.cells #[Value.slice a1 p.labels.length c1,Value.slice a2 p.edges.length c2] 54)) (Obj.cells #[Value.slice none 0 0,Value.slice none 0 0] 54)
  rwa [RP]at this
 gi_wp2_with (refine⟨trivial,?_⟩;gi_at_call 113;refine hR.mono ?_;rintro e W1 ⟨u,y,rfl,rfl,hu,T1⟩;obtain⟨cu,hcu,rfl⟩:=hu;simp only[RepC]at hcu;subst hcu;simp only[DZ,ABd])
 have B1':=BU T1 B1
 have B2':=BU T1 B2
 have T01:=T0.then0 T1
 clear hR B1 B2 T1 T0
 have hw1:=T01.size
 have hb2lt:=(Al.1 B2').1
 obtain⟨W3,hW3⟩:∃W3,((W1.alloc (Obj.cells #[Value.slice none 0 0,Value.slice none 0 0] 54)).alloc (Obj.cells #[Value.slice none 0 0] 22)).alloc (Obj.cells #[Value.bool true] 4)=W3:=⟨_,rfl⟩
 have T13:Tch [] W1 W3:=by rw[<-hW3];exact((Tch.alloc _ _ []).andAlloc _).andAlloc _
 have hs3:W3.heap.size=W1.heap.size+3:=by rw[<-hW3];simp
 have H1:=BU T13 B1'
 have H2:=BU T13 B2'
 have H6:W3.heap[W1.heap.size]? =some (Obj.cells #[Value.slice none 0 0,Value.slice none 0 0] 54):=by
  rw[<-hW3];exact BU ((Tch.alloc _ _ []).andAlloc _) (World.alloc_heap_new _ _)
 have H7:W3.heap[W1.heap.size+1]? =some (Obj.cells #[Value.slice none 0 0] 22):=by
  rw[<-hW3];refine BU (Tch.alloc _ _ []) ?_
  have:=World.alloc_heap_new (W1.alloc (Obj.cells #[Value.slice none 0 0,Value.slice none 0 0] 54)) (Obj.cells #[Value.slice none 0 0] 22)
  rwa [RP]at this
 have H8:W3.heap[W1.heap.size+1+1]? =some (Obj.cells #[Value.bool true] 4):=by
  rw[<-hW3]
  have:=World.alloc_heap_new ((W1.alloc (Obj.cells #[Value.slice none 0 0,Value.slice none 0 0] 54)).alloc (Obj.cells #[Value.slice none 0 0] 22)) (Obj.cells #[Value.bool true] 4)
  rwa [RP,RP]at this
 have T3:=T01.then0 T13
 rw[hW3]
 clear hW3 T13 B1' B2'
 obtain⟨b1,hb1⟩:∃b,w.heap.size=b:=⟨_,rfl⟩
 obtain⟨b6,hb6⟩:∃b,W1.heap.size=b:=⟨_,rfl⟩
 obtain⟨b2,hb2⟩:∃b,b1+1=b:=⟨_,rfl⟩
 obtain⟨b7,hb7⟩:∃b,b6+1=b:=⟨_,rfl⟩
 obtain⟨b8,hb8⟩:∃b,b7+1=b:=⟨_,rfl⟩
 rw[hb6,hb7,hb8]at H8
 rw[hb1,hb2]at H2
 rw[hb1,hb2]at hb2lt
 rw[hb1]at H1
 rw[hb6,hb7]at H7
 rw[hb6]at H6
 rw[hb6]at hb2lt
 simp only[hb1,hb6]
 simp only[hb2,hb7]
 simp only[hb8]
 have hSl:=QS p.labels
 have h8:=(CQ (BK hp).1).1
 have d6:b6<W3.heap.size:=by omega
 have d7:b7<W3.heap.size:=by omega
 have d8:b8<W3.heap.size:=by omega
 obtain⟨O3,hO3⟩:∃O3,[b6,b7,b8]++(b2::O)=O3:=⟨_,rfl⟩
 have LO:Later O w O3 W3:=N7 T3 (λx hx=>by
  rw[<-hO3]at hx
  simp only[AV,BC,Ai]at hx
  rcases hx with rfl|rfl|rfl|rfl|hx
  ·left;omega
  ·left;omega
  ·left;omega
  ·left;omega
  ·exact .inr hx)
 have hO':∀b∈O3,b<W3.heap.size:=λb hb=>by
  rw[<-hO3]at hb
  simp only[AV,BC,Ai]at hb
  rcases hb with rfl|rfl|rfl|rfl|hb
  ·exact d6
  ·exact d7
  ·exact d8
  ·omega
  ·have:=hO b hb;have:=T3.size;omega
 have hg':Glob C1 O3 W3:=Gd LO hg
 have hv':Rep O3 W3 (FC p) _:=hv.later LO
 have g1':Rep O3 W3 (Bh p.labels) _:=g1.later LO
 refine wpIn_wide.2 ?_
 refine LJ [71,70,225] [1,0,1,2,2,2] [1,0,2,3,4,5] [0,0,2,6,14,31] (by kernel_rfl) (by kernel_rfl) ?_
 intro W4 T4
 have T34:=T4
 have G1:=BU T4 H1
 have e1:W4.cell? ⟨b1,0,none⟩=some (Value.slice a1 p.labels.length c1):=by simp only[World.cell?,G1];rfl
 have e2:W4.cell? ⟨b1,1,none⟩=some (Value.slice a2 p.edges.length c2):=by simp only[World.cell?,G1];rfl
 have hV:=Pure.at' (Ic p.labels) 3 (Gh (Tch.up T34) hO') (Hp (Tch.up T34) hg') (reps_cons (DL (Tch.up T34) g1') reps_nil)
 go_wp2_with (first|(refine Cz rfl rfl rfl rfl (λ_ _=>?_))|(refine Dw rfl rfl rfl (λ_ _=>?_)))
 refine EH rfl rfl rfl (λK1 hK1=>?_)
 go_wp2_with (go_at_call 71;refine(callsIn_wide.1 hV).mono ?_;rintro e W5 ⟨u5,y,rfl,rfl,hu5,T5⟩)
 refine hK1 _ _ T5.ext ?_
 have T35:=T34.then0 T5
 have hS:=Pure.at' (LR p.labels (by omega)) 3 (Gh (Tch.up T35) hO') (Hp (Tch.up T35) hg') (reps_cons hu5 reps_nil)
 refine EH rfl rfl rfl (λK2 hK2=>?_)
 go_wp2_with (go_at_call 70;refine(callsIn_wide.1 hS).mono ?_;rintro e W6 ⟨u6,y,rfl,rfl,hu6,T6⟩)
 refine hK2 _ _ T6.ext ?_
 have T36:=T35.then0 T6
 have hOr:=Pure.at' (Sp p (sortI p.labels)) 3 (Gh (Tch.up T36) hO') (Hp (Tch.up T36) hg') (reps_cons (DL (Tch.up T36) hv') (reps_cons hu6 reps_nil))
 refine EH rfl rfl rfl (λK3 hK3=>?_)
 go_wp2_with (go_at_call 225;refine(callsIn_wide.1 hOr).mono ?_;rintro e W7 ⟨u7,y,rfl,rfl,hu7,T7⟩)
 refine hK3 _ _ T7.ext ?_
 go_wp2_with (first|(refine Cz rfl rfl rfl rfl (λ_ _=>?_))|refine GI ?_)
 have T37:=T36.then0 T7
 have F1:=BU T37 H1
 have F2:=BU T37 H2
 have F6:=BU T37 H6
 have F7:=BU T37 H7
 have F8:=BU T37 H8
 have hs7:=T37.size
 have hO7:=Gh (Tch.up T37) hO'
 have hg7:=Hp (Tch.up (O:=O3) T37) hg'
 have hv7:=DL (Tch.up (O:=O3) T37) hv'
 have TW:=T3.then0 T37
 clear hV hS hOr hK1 hK2 hK3 e1 e2 G1
 refine wpIn_block ?_
 refine Tn (C:=C1) (Ou p) O3 hO7 rfl (λW t hs=>?_) (λR S pre W=>S=O3/\oO p b6 b7 b8 (b2::O) W7 R pre W) (λ_ _ _ _=>False) (λR S pre A B hR h t=>⟨h.1,Qp (by omega) (by omega) (by omega) hR h.2 t⟩) (λ_ _ _ _ _ _ h _=>h) (λR W hR t=>⟨rfl,?_⟩) ?_ ?_ (λ_ _ _ _ _ _ _ _ _ _ h=>h.elim)
 ·have LW:Later O3 W7 (W7.heap.size::(W7.heap.size+1)::O3) W:=N7 t (λx hx=>by
   rcases Ai.1 hx with rfl|hx
   ·left;omega
   rcases Ai.1 hx with rfl|hx
   ·left;omega
   ·exact .inr hx)
  exact Uw h8 (by omega) (λb hb=>by
   rcases Ai.1 hb with rfl|hb
   ·omega
   rcases Ai.1 hb with rfl|hb
   ·omega
   ·have:=hO7 b hb;omega) (Gd LW hg7) (hu7.later LW)
 ·exact⟨t.mono (by simp),BU t F6,BU t F7,BU t F8⟩
 ·intro l R S pre x v A hl hlR hR hSA hSR hI hpx hrep hsz hRA
  obtain⟨hSO,hI⟩:=hI
  rw[hSO]at hrep
  rw[hSO]
  clear hSA hSR hSO
  rw[show C1.P=Tryz.prog from rfl]
  obtain⟨av,cv,rfl,_,_⟩:=Dx hrep
  gi_wp2
  refine⟨Tch.refl _ _,λA2 TA2=>?_⟩
  have hI2:=Qp (by omega) (by omega) (by omega) hR hI (TA2.mono (T:=R) (by simpa using hlR))
  have hrep2:=DL (TA2.mono (T:=O3++R) (by simp[hlR])) hrep
  have hRA2:∀r∈R,r<A2.heap.size:=λr hr=>Bv (hRA r hr) TA2.size
  clear hI hrep hRA TA2 hsz
  obtain⟨tA,hst⟩:=hI2
  have n1:b1∉[b6,b7,b8]++R:=λhm=>by
   simp only[AV,BC,Ai]at hm
   rcases hm with hm|hm|hm|hm
   ·omega
   ·omega
   ·omega
   ·have:=hR _ hm;omega
  have A1:=Ho tA F1 n1
  have LA:Later O3 W7 (O3++R) A2:=⟨tA.size,λb hb hn=>tA.blk b hb (λhm=>by
   rcases Ag.1 hm with hm|hm
   ·exact hn (by rw[<-hO3];exact Av _ hm)
   ·have:=hR _ hm;omega),λb hn hb hm=>by
   rcases Ag.1 hm with hm|hm
   ·exact hn hm
   ·have:=hR _ hm;omega⟩
  have hOA:∀b∈O3++R,b<A2.heap.size:=λb hb=>by
   rcases Ag.1 hb with hb|hb
   ·have:=hO7 b hb;have:=tA.size;omega
   ·exact hRA2 b hb
  have hxm:x∈Ou p:=hpx.subset (by simp)
  have hord:=(Rt (n:=p.labels.length) ⟨rfl,(BK hp).2.1,(BK hp).2.2⟩).1 hxm
  have hTu:=Pure.at' (Uo p hp hE x ((Yc (by rw[hord.1.1];omega)).2 (by rw[hord.1.1];exact hord.1)) hord.1.1) 1 hOA (Gd LA hg7) (reps_cons (hv7.later LA) (reps_cons hrep2 reps_nil))
  have e1:A2.cell? ⟨b1,0,none⟩=some (Value.slice a1 p.labels.length c1):=by simp only[World.cell?,A1];rfl
  have e2:A2.cell? ⟨b1,1,none⟩=some (Value.slice a2 p.edges.length c2):=by simp only[World.cell?,A1];rfl
  have hTu:CallsIn Fence.wide 1 Tryz.prog 226 _ A2 _:=hTu.mono (R':=λe B=>∃d1 m1 d2 m2,e=.returned (.tuple #[.agg #[.slice d1 (Bl p x).labels.length m1,.slice d2 (Bl p x).edges.length m2],.nilIface])/\Rep (O3++R) B (FC (Bl p x)) (.agg #[.slice d1 (Bl p x).labels.length m1,.slice d2 (Bl p x).edges.length m2])/\Tch [] A2 B) (by
   rintro e B ⟨u,y,rfl,rfl,hu,t⟩
   obtain⟨d1,m1,d2,m2,rfl,h⟩:=Um hu
   exact⟨d1,m1,d2,m2,rfl,h,t⟩)
  split at hst
  ·rename_i hfold
   obtain⟨g6,g7,g8⟩:=hst
   gi_wp2_with (refine⟨trivial,?_⟩;gi_at_call 226;refine(CallsIn.inRound l hTu).mono ?_;rintro e A3 ⟨d1,m1,d2,m2,rfl,huT,T3⟩;have G6:=BU (T3.andAlloc (Obj.cells #[Value.slice d1 (Bl p x).labels.length m1,Value.slice d2 (Bl p x).edges.length m2] 54)) g6;have G7:=BU (T3.andAlloc (Obj.cells #[Value.slice d1 (Bl p x).labels.length m1,Value.slice d2 (Bl p x).edges.length m2] 54)) g7;have G8:=BU (T3.andAlloc (Obj.cells #[Value.slice d1 (Bl p x).labels.length m1,Value.slice d2 (Bl p x).edges.length m2] 54)) g8;have E8:(A3.alloc (Obj.cells #[Value.slice d1 (Bl p x).labels.length m1,Value.slice d2 (Bl p x).edges.length m2] 54)).cell? ⟨b8,0,none⟩=some (Value.bool true):=by(simp only[World.cell?,G8];rfl))
   refine⟨trivial,?_⟩
   obtain⟨A4,hA4⟩:∃A4,A3.alloc (Obj.cells #[Value.slice d1 (Bl p x).labels.length m1,Value.slice d2 (Bl p x).edges.length m2] 54)=A4:=⟨_,rfl⟩
   have T4:Tch [] A3 A4:=by rw[<-hA4];exact Tch.alloc _ _ _
   have G10:A4.heap[A3.heap.size]? =some (Obj.cells #[Value.slice d1 (Bl p x).labels.length m1,Value.slice d2 (Bl p x).edges.length m2] 54):=by rw[<-hA4];exact World.alloc_heap_new _ _
   rw[hA4]at G6 G7 G8 E8
   rw[hA4]
   obtain⟨b10,hb10⟩:∃b,A3.heap.size=b:=⟨_,rfl⟩
   rw[hb10]at G10
   simp only[hb10]
   have hs23:=T3.size
   have hsA:=tA.size
   have q1:¬b10=b6:=by omega
   have q2:¬b10=b7:=by omega
   have q3:¬b10=b8:=by omega
   have q4:¬b6=b7:=by omega
   have q5:¬b6=b8:=by omega
   have q6:¬b7=b8:=by omega
   have q4':¬b7=b6:=by omega
   have q5':¬b8=b6:=by omega
   have q6':¬b8=b7:=by omega
   have c10:A4.cell? ⟨b10,0,none⟩=some (Value.slice d1 (Bl p x).labels.length m1):=by simp only[World.cell?,G10];rfl
   have c10':A4.cell? ⟨b10,1,none⟩=some (Value.slice d2 (Bl p x).edges.length m2):=by simp only[World.cell?,G10];rfl
   have c6:A4.cell? ⟨b6,0,none⟩=some (Value.slice none 0 0):=by simp only[World.cell?,G6];rfl
   have c6':A4.cell? ⟨b6,1,none⟩=some (Value.slice none 0 0):=by simp only[World.cell?,G6];rfl
   have c7:A4.cell? ⟨b7,0,none⟩=some (Value.slice none 0 0):=by simp only[World.cell?,G7];rfl
   have f6:A4.frozen? ⟨b6,0,none⟩=false:=by simp[World.frozen?,G6]
   have f6':A4.frozen? ⟨b6,1,none⟩=false:=by simp[World.frozen?,G6]
   have f7:A4.frozen? ⟨b7,0,none⟩=false:=by simp[World.frozen?,G7]
   have f8:A4.frozen? ⟨b8,0,none⟩=false:=by simp[World.frozen?,G8]
   clear hA4
   gi_wp2
   have hfold2:(pre++[x]).foldl (Kd p) none=some (Bl p x,x):=by rw[EE,hfold];rfl
   have hpo:PtOk p.labels.length p:=⟨rfl,(BK hp).2.1,(BK hp).2.2⟩
   have:=UX (O:=b2::O) q4 q5 q6 tA (T3.then0 T4) G6 G7 G8 hfold2 (by rw[hO3];exact DL (Tch.up T4) huT) (by rw[hO3];exact DL (Tch.up (T3.then0 T4)) hrep2) ⟨by rw[EY];omega,by rw[Hg hord.1 hpo];exact hE⟩
   rw[hO3]at this
   exact⟨O3,Grow.same this.2 (λb hb=>hOA b (Av _ hb)),rfl,this.1⟩
  ·rename_i q b hfold
   obtain⟨u1,u2,u3,g6,g7,g8,r6,r7,hq1,hq2⟩:=hst
   obtain⟨s1,n1',s2,n2',eu,_⟩:=XK r6
   simp only[Value.agg.injEq,Array.mk.injEq,D0,and_true]at eu
   obtain⟨rfl,rfl⟩:=eu
   gi_wp2_with (refine⟨trivial,?_⟩;gi_at_call 226;refine(CallsIn.inRound l hTu).mono ?_;rintro e A3 ⟨d1,m1,d2,m2,rfl,huT,T3⟩;obtain⟨E8,E6,E6',E10,E10'⟩:=fL (ty:=54) T3 g6 g8 (Value.slice d1 (Bl p x).labels.length m1) (Value.slice d2 (Bl p x).edges.length m2))
   obtain⟨A4,hA4⟩:∃A4,A3.alloc (Obj.cells #[Value.slice d1 (Bl p x).labels.length m1,Value.slice d2 (Bl p x).edges.length m2] 54)=A4:=⟨_,rfl⟩
   have T4:Tch [] A3 A4:=by rw[<-hA4];exact Tch.alloc _ _ _
   have T24:=T3.then0 T4
   have G10:A4.heap[A3.heap.size]? =some (Obj.cells #[Value.slice d1 (Bl p x).labels.length m1,Value.slice d2 (Bl p x).edges.length m2] 54):=by rw[<-hA4];exact World.alloc_heap_new _ _
   rw[hA4]
   rw[hO3]at r6 r7
   have hTuA:Tch (O3++R) A2 A4:=Tch.up T24
   have hpo:PtOk p.labels.length p:=⟨rfl,(BK hp).2.1,(BK hp).2.2⟩
   have hl1:(Bl p x).labels.length<=1000:=by rw[EY];omega
   have hl2:(Bl p x).edges.length<=1000:=by rw[Hg hord.1 hpo];exact hE
   have hCm:=Pure.at' (Hl (Bl p x) q (by omega) (by omega) (by omega) (by omega)) 1 (Gh hTuA hOA) (Hp hTuA (Gd LA hg7)) (reps_cons (DL (Tch.up T4) huT) (reps_cons (DL hTuA r6) reps_nil))
   have hCm:CallsIn Fence.wide 1 Tryz.prog 10 _ A4 _:=hCm.mono (R':=λe B=>e=.returned (.int .i64 (D4 (Bl p x) q))/\Tch [] A4 B) (by
    rintro e B ⟨u,y,rfl,rfl,hu,t⟩
    obtain⟨cs,hcs,rfl⟩:=hu
    simp only[RepC]at hcs
    subst hcs
    exact⟨rfl,t⟩)
   refine⟨trivial,(CallsIn.inRound l hCm).mono ?_⟩
   rintro e A5 ⟨rfl,T5⟩
   have T25:=T24.then0 T5
   have G6:=BU T25 g6
   have G7:=BU T25 g7
   have G8:=BU T25 g8
   have G10:=BU T5 G10
   obtain⟨b10,hb10⟩:∃b,A3.heap.size=b:=⟨_,rfl⟩
   rw[hb10]at G10
   simp only[hb10]
   have hs23:=T3.size
   have hsA:=tA.size
   have q1:¬b10=b6:=by omega
   have q2:¬b10=b7:=by omega
   have q3:¬b10=b8:=by omega
   have q4:¬b6=b7:=by omega
   have q5:¬b6=b8:=by omega
   have q6:¬b7=b8:=by omega
   have q4':¬b7=b6:=by omega
   have q5':¬b8=b6:=by omega
   have q6':¬b8=b7:=by omega
   have c10:A5.cell? ⟨b10,0,none⟩=some (Value.slice d1 (Bl p x).labels.length m1):=by simp only[World.cell?,G10];rfl
   have c10':A5.cell? ⟨b10,1,none⟩=some (Value.slice d2 (Bl p x).edges.length m2):=by simp only[World.cell?,G10];rfl
   have f6:A5.frozen? ⟨b6,0,none⟩=false:=by simp[World.frozen?,G6]
   have f6':A5.frozen? ⟨b6,1,none⟩=false:=by simp[World.frozen?,G6]
   have f7:A5.frozen? ⟨b7,0,none⟩=false:=by simp[World.frozen?,G7]
   have f8:A5.frozen? ⟨b8,0,none⟩=false:=by simp[World.frozen?,G8]
   have c6:A5.cell? ⟨b6,0,none⟩=some (Value.slice s1 q.labels.length n1'):=by simp only[World.cell?,G6];rfl
   have c6':A5.cell? ⟨b6,1,none⟩=some (Value.slice s2 q.edges.length n2'):=by simp only[World.cell?,G6];rfl
   have c7:A5.cell? ⟨b7,0,none⟩=some u3:=by simp only[World.cell?,G7];rfl
   have c8:A5.cell? ⟨b8,0,none⟩=some (Value.bool false):=by simp only[World.cell?,G8];rfl
   clear hA4 E8 E6 E6' E10 E10'
   by_cases hlt:D4 (Bl p x) q<0
   ·have hfold2:(pre++[x]).foldl (Kd p) none=some (Bl p x,x):=by rw[EE,hfold];simp only[VB,List.foldl_nil,Kd];rw[if_pos hlt]
    gi_wp2
    have:=UX (O:=b2::O) q4 q5 q6 tA T25 G6 G7 G8 hfold2 (by rw[hO3];exact DL (Tch.up (T4.then0 T5)) huT) (by rw[hO3];exact DL (Tch.up T25) hrep2) ⟨hl1,hl2⟩
    rw[hO3]at this
    exact⟨O3,Grow.same this.2 (λb hb=>hOA b (Av _ hb)),rfl,this.1⟩
   ·have hfold2:(pre++[x]).foldl (Kd p) none=some (q,b):=by rw[EE,hfold];simp only[VB,List.foldl_nil,Kd];rw[if_neg hlt]
    gi_wp2
    refine⟨O3,Grow.same (Tch.up T25) (λb hb=>hOA b (Av _ hb)),rfl,tA.then0 T25,?_⟩
    rw[hfold2]
    rw[hO3]
    exact⟨_,_,_,G6,G7,G8,DL (Tch.up T25) r6,DL (Tch.up T25) r7,hq1,hq2⟩
 ·intro D R S W hD hDR hR hSR hI ht hDef
  gi_wp2
  have hpo:PtOk p.labels.length p:=⟨rfl,(BK hp).2.1,(BK hp).2.2⟩
  obtain⟨_,tW,hst⟩:=hI
  rw[show(Ou p).foldl (Kd p) none=some (Ce p,Nl p)from(GW hpo).1]at hst
  obtain⟨u1,u2,u3,g6,g7,g8,r6,r7,_,_⟩:=hst
  obtain⟨s1,n1',s2,n2',eu,_⟩:=XK r6
  simp only[Value.agg.injEq,Array.mk.injEq,D0,and_true]at eu
  obtain⟨rfl,rfl⟩:=eu
  obtain⟨s3,n3',rfl,_,_⟩:=Dx (l:=Nl p) r7
  have n2:b2∉[b6,b7,b8]++R:=λhm=>by
   simp only[AV,BC,Ai]at hm
   rcases hm with hm|hm|hm|hm
   ·omega
   ·omega
   ·omega
   ·have:=hR _ hm;omega
  have g2':=Ho tW F2 n2
  refine wpIn_wide.2 ?_
  refine Pu [] [1,1,3,0,0] 1 2 [0,1,2,3,4] [0,0,3,7,15] [0,2,1,3,4] [0,5,1,7,15] (by kernel_rfl) (by decide) (by kernel_rfl) (by kernel_rfl) ?_ ?_
  ·intro V TV
   have c6:V.cell? ⟨b6,0,none⟩=some (Value.slice s1 (Ce p).labels.length n1'):=by simp only[World.cell?,BU TV g6];rfl
   have c6':V.cell? ⟨b6,1,none⟩=some (Value.slice s2 (Ce p).edges.length n2'):=by simp only[World.cell?,BU TV g6];rfl
   have c7:V.cell? ⟨b7,0,none⟩=some (Value.slice s3 (Nl p).length n3'):=by simp only[World.cell?,BU TV g7];rfl
   have c2:V.cell? ⟨b2,0,none⟩=some (Value.slice none 0 0):=by simp only[World.cell?,BU TV g2'];rfl
   have c2':V.cell? ⟨b2,1,none⟩=some (Value.slice none 0 0):=by simp only[World.cell?,BU TV g2'];rfl
   have f2:V.frozen? ⟨b2,0,none⟩=false:=by simp[World.frozen?,BU TV g2']
   have f2':V.frozen? ⟨b2,1,none⟩=false:=by simp[World.frozen?,BU TV g2']
   have q27:¬b2=b7:=by omega
   have q72:¬b7=b2:=by omega
   have HTV:=FW TV
   clear TV
   go_wp2_with (first|(refine Cz rfl rfl rfl rfl (λ_ _=>?_))|(refine Dw rfl rfl rfl (λ_ _=>?_)))
   refine Hf rfl rfl rfl (λK1 hK1=>?_)
   go_wp2_with (first|(refine Cz rfl rfl rfl rfl (λ_ _=>?_))|(refine Dw rfl rfl rfl (λ_ _=>?_))|refine GI ?_)
   gi_wp2
   exact bV (X:=O3++R) (λb hb=>Av _ (by rw[<-hO3];simp[hb])) (Av _ (by rw[<-hO3];simp)) (by omega) (Aw _ hDR) (by omega) (by omega) (TW.trans tW (λ_ h=>h) (λx hx=>by
    simp only[AV,BC,Ai]at hx
    rcases hx with hx|hx|hx|hx
    ·right;omega
    ·right;omega
    ·right;omega
    ·right;have:=hR _ hx;omega)) HTV.out (by rw[<-hO3];exact r6) (by rw[<-hO3];exact r7) hDef g2' rfl rfl rfl
  ·intro V TV
   have c6:V.cell? ⟨b6,0,none⟩=some (Value.slice s1 (Ce p).labels.length n1'):=by simp only[World.cell?,BU TV g6];rfl
   have c6':V.cell? ⟨b6,1,none⟩=some (Value.slice s2 (Ce p).edges.length n2'):=by simp only[World.cell?,BU TV g6];rfl
   have c7:V.cell? ⟨b7,0,none⟩=some (Value.slice s3 (Nl p).length n3'):=by simp only[World.cell?,BU TV g7];rfl
   have c2:V.cell? ⟨b2,0,none⟩=some (Value.slice none 0 0):=by simp only[World.cell?,BU TV g2'];rfl
   have c2':V.cell? ⟨b2,1,none⟩=some (Value.slice none 0 0):=by simp only[World.cell?,BU TV g2'];rfl
   have f2:V.frozen? ⟨b2,0,none⟩=false:=by simp[World.frozen?,BU TV g2']
   have f2':V.frozen? ⟨b2,1,none⟩=false:=by simp[World.frozen?,BU TV g2']
   have q27:¬b2=b7:=by omega
   have q72:¬b7=b2:=by omega
   have HTV:=FW TV
   clear TV
   go_wp2_with (first|(refine Cz rfl rfl rfl rfl (λ_ _=>?_))|(refine Dw rfl rfl rfl (λ_ _=>?_)))
   refine Hf rfl rfl rfl (λK1 hK1=>?_)
   go_wp2_with (first|(refine Cz rfl rfl rfl rfl (λ_ _=>?_))|(refine Dw rfl rfl rfl (λ_ _=>?_))|refine GI ?_)
   gi_wp2
   exact bV (X:=O3++R) (λb hb=>Av _ (by rw[<-hO3];simp[hb])) (Av _ (by rw[<-hO3];simp)) (by omega) (Aw _ hDR) (by omega) (by omega) (TW.trans tW (λ_ h=>h) (λx hx=>by
    simp only[AV,BC,Ai]at hx
    rcases hx with hx|hx|hx|hx
    ·right;omega
    ·right;omega
    ·right;omega
    ·right;have:=hR _ hx;omega)) HTV.out (by rw[<-hO3];exact r6) (by rw[<-hO3];exact r7) hDef g2' rfl rfl rfl
end Go.Proofs.YtjpmmkodoeipmaaGreatDoor
end
section
namespace Go.Gr
open Go.Proofs.YtjpmmkodoeipmaaGreatDoor
theorem cI:∀n,0<Y1 n
 |0=>by decide
 |n+1=>Nat.mul_pos (by omega) (cI n)
theorem ACe:∀n,n<=8->Y1 n<=40320:=by decide
end Go.Gr
namespace Go.Proofs.YtjpmmkodoeipmaaGreatDoor
open Go.Sx Go.RowKit Go.Reg Go.Gr
set_option maxRecDepth 100000
structure OfI(n:Nat)(s:Nat×Int×List Int×List Int×Nat):Prop where
 z:s.2.1=(s.1:Int)-1
 len:s.2.2.2.1.length=s.1
 all:(s.2.2.1++s.2.2.2.1).Perm (bM n)
 rank:s.2.2.2.2<Y1 s.1
end Go.Proofs.YtjpmmkodoeipmaaGreatDoor
end
section
namespace Go.Proofs.YtjpmmkodoeipmaaGreatDoor
open Go.Sx Go.RowKit Go.Reg Go.Gr
set_option maxRecDepth 100000
theorem lE {p:Pt}(hp:Dk p=none):PtOk p.labels.length p:=⟨rfl,(BK hp).2.1,(BK hp).2.2⟩
theorem uI {p:Pt}(hp:Dk p=none) {b:List Int}(hb:C6 p.labels.length b):Dk (Bl p b)=none:=by
 have hl:=CQ (BK hp).1
 exact nN (Ih hb (lE hp)) hl.1 λx hx=>hl.2 x ((Pz (lE hp) hb).mem_iff.1 hx)
theorem KH {p:Pt}(hp:Dk p=none):Dk (Ce p)=none:=by
 obtain⟨_,h1,h2,_⟩:=GW (lE hp)
 rw[h2];exact uI hp h1
def AFB:List FuncId:=[168]
theorem lK {p:Pt}(hp:Dk p=none):Pure C1 117 [FC p] (λy=>y=FC (Ce p)):=by
 have hf:=R6 p hp (by have:=(Mh hp).2;omega)
 refine AU Tryz.func117 Tryz.ntmps117 AFB [] ?_
 (conv=>whnf)
 (repeat' ((first|refine Aj ?_ ?_|refine Af rfl hf ?_|refine nx ?_|refine AB (λ_=>?_) (λ_=>?_)|exact AE)<;>conv=>whnf))
 exact rfl
def L3(l:List (Pt×Int)):Prop:=(∀x∈l,Dk x.1=none/\0<=x.2)/\GM l<=4611686018427387000/\l.length<=50000
def iC:List (Nat×Plan):=[(4,.leaf [0,0,0,1,2,0,1,3,0] [0,1,2,5,3,6,4,7,8] [0,0,0,4,14,0,32,127,255])]
def ADx:List FuncId:=[]
theorem ACy:CI Tryz.prog ADx iC (Tryz.f116.body.getD .skip)=true:=by kernel_rfl
theorem AB0(vs:Array Value)(w:World):(callFunc 116 vs).run C1.P w=.ok (.enter 116 vs) w:=by kernel_rfl
theorem AEr(g:FuncId)(u:Pt->Pt)(hg:∀p,Dk p=none->Dk (u p)=none/\Pure C1 g [FC p] (λy=>y=FC (u p)))(s l:List (Pt×Int))(m:List (ByteArray×RowV))(X:List (Value×Da))(ht:Nn s m)(hs:L3 s)(ho:H5 D4 s)(hl:L3 l):
  DY C3 116 [.own 900,.d (dRs l),.d (.func (.func g) [] [])] (sT m X) [900] (λd σ=>∃z:List (ByteArray×RowV)×List (Value×Da),d=.d .nili/\σ=sT z.1 z.2/\Nn (HU D4 u s l) z.1):=by
 have hlm:(l.map Dp).length=l.length:=Ac _
 have hl3:=hl.2.2
 refine Me Iv (pl:=iC) (G:=ADx) Tryz.func116 rfl Tryz.ntmps116 AB0 ACy (by simp) 999 rfl ?_
 intro vs
 (conv=>whnf)
 ((conv=>whnf);repeat' ((first|refine odw ?_|refine nx ?_|refine AB (λ_=>?_) (λ_=>?_))<;>conv=>whnf))
 refine AQ (ι:=Nat×List (ByteArray×RowV)×List (Value×Da)) (λx=>x.1<=l.length/\Nn (HU D4 u s (l.take x.1)) x.2.1) (λx=>[(12,.d (.int .i64 x.1)),(11,.d (.int .i64 (l.map Dp).length)),(10,.d (dRs l)),(2,.d (.func (.func g) [] [])),(0,.own 900)])
  (λx=>(999,.ghost vs [.own 900])::sT x.2.1 x.2.2) (λx=>l.length-x.1) (0,m,X) (λ_=>rfl) ⟨Am _,ht⟩ (.refl _ _) ⟨rfl,rfl,rfl,rfl,rfl,trivial⟩ ⟨rfl,rfl,rfl,trivial⟩ ?_
 rintro⟨i,m,X⟩ ⟨hi,hT⟩
 simp only at hi hT
 refine GZ [] iC ?_
 by_cases hlt:i<l.length
 ·have hx:l[i]? =some l[i]:=Ab hlt
  have hxm:=hl.1 _ (A6 hx)
  have htk:l.take (i+1)=l.take i++[l[i]]:=by rw[Au,hx];rfl
  generalize l[i]=x at hx hxm htk
  have hxd:(l.map Dp)[i]? =some (.agg [.agg [Bh x.1.labels,ET x.1.edges],.int .i64 x.2]):=by rw[Ad,hx];rfl
  obtain⟨he,hgp⟩:=hg x.1 hxm.1
  have hgp:=Pure.up3 hgp
  obtain⟨t1,t2,_,_,_⟩:=uF Ij u (l:=l.take i) (λy hy=>(hl.1 y (DO hy)).2) (λy hy=>(hs.1 y hy).2) ho
  obtain⟨g1,g2,g3⟩:=pF (λy hy=>(hl.1 y hy).2) hx
  have had:=mA X hT he (n:=x.2) hxm.2 t2 (by rw[t1];have:=hs.2.1;have:=hl.2.1;omega)
  rw[<-uG,<-htk]at had
  (conv=>whnf)
  (repeat' ((first|refine Aj ?_ ?_|refine AO hxd rfl ?_|refine Af rfl hgp ?_|refine nx ?_|refine AB (λ_=>?_) (λ_=>?_)|exact AE)<;>conv=>whnf))
  refine IQ [] [900,901] had (λd σ h=>h) rfl rfl rfl rfl rfl rfl (λ_=>rfl) ?_
  rintro⟨m',X'⟩ hT'
  ((conv=>whnf);repeat' ((first|refine odw ?_|refine nx ?_|refine AB (λ_=>?_) (λ_=>?_))<;>conv=>whnf))
  exact⟨(i+1,m',X'),_,_,⟨hlt,hT'⟩,.refl _ _,⟨rfl,rfl,rfl,rfl,rfl,trivial⟩,⟨rfl,rfl,rfl,trivial⟩,by simp only;omega⟩
 ·have e:l.take i=l:=Ak (by omega)
  rw[e]at hT
  ((conv=>whnf);repeat' ((first|refine odw ?_|refine nx ?_|refine AB (λ_=>?_) (λ_=>?_))<;>conv=>whnf))
  exact⟨_,_,[],sT m X,.lo (.refl _ _),rfl,⟨rfl,rfl,trivial⟩,rfl,(m,X),rfl,rfl,hT⟩
theorem gL:L3 []:=⟨λx hx=>(by cases hx),by decide,Am _⟩
theorem O8 {l:List (Pt×Int)}(h:L3 l):∀x∈l,x.1.labels.length<=1000/\x.1.edges.length<=1000:=λx hx=>(AE4 (h.1 x hx).1).1
def xN:List (Nat×Plan):=[]
def ADv:List FuncId:=[]
theorem ACv:CI Tryz.prog ADv xN (Tryz.f68.body.getD .skip)=true:=by kernel_rfl
theorem ABw(vs:Array Value)(w:World):(callFunc 68 vs).run C1.P w=.ok (.enter 68 vs) w:=by kernel_rfl
theorem nU(l:List (Pt×Int))(m:List (ByteArray×RowV))(X:List (Value×Da))(ht:Nn l m)(hl:L3 l):
  DY C3 68 [.own 900] (sT m X) [900] (λd σ=>∃z:List (ByteArray×RowV)×List (Value×Da),d=.tuple [.own 920,.d .nili]/\σ=sT m []++[(920,.cells 185 [.own 921]),(921,(Gz NP z.1 z.2).own)]/\Nn (HU D4 Ce [] l) z.1):=by
 have hrw:=Tr l m X ht (by have:=hl.2.2;omega) (O8 hl)
 have hall:=AEr 117 Ce (λp hp=>⟨KH hp,lK hp⟩) [] l [] [] Tu gL .nil hl
 refine Me Iv (pl:=xN) (G:=ADv) Tryz.func68 rfl Tryz.ntmps68 ABw ACv (by simp) 999 rfl ?_
 intro vs
 (conv=>whnf)
 ((conv=>whnf);repeat' ((first|refine odw ?_|refine nx ?_|refine AB (λ_=>?_) (λ_=>?_))<;>conv=>whnf))
 refine Iu [(920,900),(921,901)] [] lX rfl rfl rfl rfl rfl rfl rfl ?_
 (conv=>whnf)
 ((conv=>whnf);repeat' ((first|refine odw ?_|refine nx ?_|refine AB (λ_=>?_) (λ_=>?_))<;>conv=>whnf))
 refine Iu [] [900,901] hrw rfl rfl rfl rfl rfl rfl rfl ?_
 (conv=>whnf)
 (repeat' ((first|refine Aj ?_ ?_|refine Dq 910 rfl ?_|refine nx ?_|refine AB (λ_=>?_) (λ_=>?_)|exact AE)<;>conv=>whnf))
 refine IQ [(920,900),(921,901)] [920,921] hall (λd σ h=>h) rfl rfl rfl rfl rfl rfl (λ_=>rfl) ?_
 rintro⟨m2,X2⟩ hT2
 (conv=>whnf)
 ((conv=>whnf);repeat' ((first|refine odw ?_|refine nx ?_|refine AB (λ_=>?_) (λ_=>?_))<;>conv=>whnf))
 exact⟨_,_,[],[(900,.cells 185 [.own 901]),(901,(Gz NP m []).own),(920,.cells 185 [.own 921]),(921,(Gz NP m2 X2).own)],.lo (.refl _ _),rfl,⟨rfl,rfl,rfl,rfl,trivial⟩,rfl,(m2,X2),rfl,rfl,hT2⟩
end Go.Proofs.YtjpmmkodoeipmaaGreatDoor
end
section
namespace Go.Proofs.YtjpmmkodoeipmaaGreatDoor
open Go.Sx Go.RowKit Go.Reg Go.Gr
set_option maxRecDepth 100000
def Pd(L:List (List (List Int))):Da:=.list 1 (L.map NT)
section
variable {G:Gr} {e:Bool} {d:Int} {l:List Opp}
structure PatAt(G:Gr)(e:Bool)(d:Int)(l:List Opp)(q:List Int->Pt)(V:List Int->List Int)(X:List Int):Prop where
 err:Dk (q X)=none
 ne:(q X).labels≠[]
 len:(V X).length=(q X).labels.length
 nodup:(V X).Nodup
 pat:Pure C1 65 [dJ G e d l,Bh X] (λz=>z=.tuple [FC (q X),Bh (V X),.nili])
set_option maxHeartbeats 4000000 in
theorem XJ(D:Nat)(hD:1<=D)(hD8:D<=8)(L:List (List (List Int)))(q:List Int->Pt)(V:List Int->List Int)(hR:∀R∈L,R.length<=40000)(hq:∀R∈L,∀X∈R,PatAt G e D l q V X):
  Pure C3 27 [dJ G e D l,Pd L] (λy=>y=.tuple [.list 3 ((if D<=L.length then Em (((L[D-1]?).getD []).map λX=>Ce (q X))else[]).map Dp),.nili]):=by
 have hdL:(L.map NT).length=L.length:=Ac _
 refine On Tryz.func27 Tryz.ntmps27 [] [] ?_
 (conv=>whnf)
 refine Iu [] [] lX rfl rfl rfl rfl rfl rfl rfl ?_
 (conv=>whnf)
 by_cases hDl:D<=L.length
 ·have hx:L[D-1]? =some (L[D-1]'(by omega)):=Ab (by omega)
  have hxm:=A6 hx
  generalize L[D-1]'(by omega)=R at hx hxm
  have hxd:(L.map NT)[D-1]? =some (.list 1 (R.map Bh)):=by rw[Ad,hx];rfl
  have hRl:(R.map Bh).length=R.length:=Ac _
  have hRm:=hR R hxm
  (conv=>whnf)
  (repeat' ((first|refine Aj ?_ ?_|refine AO hxd (by omega) ?_|refine nx ?_|refine AB (λ_=>?_) (λ_=>?_)|exact AE)<;>conv=>whnf))
  refine AQ (ι:=Nat×List (ByteArray×RowV)×List (Value×Da)) (λx=>x.1<=R.length/\Nn (Em ((R.take x.1).map q)) x.2.1) (λx=>[(31,.d (.int .i64 x.1)),(30,.d (.int .i64 (R.map Bh).length)),(29,.d (.list 1 (R.map Bh))),(6,.own 900),(2,.own 2)])
   (λx=>[(2,.cells 43 [.d (dG G),.d (.bool e),.d (.int .i64 D),.d (JS l)]),(900,.cells 185 [.own 901]),(901,(Gz NP x.2.1 x.2.2).own)]) (λx=>R.length-x.1) (0,[],[]) (λ_=>rfl) ⟨Am _,Tu⟩ (.refl _ _) ⟨rfl,rfl,rfl,rfl,rfl,trivial⟩ ⟨rfl,rfl,rfl,trivial⟩ ?_
  rintro⟨i,m,X⟩ ⟨hi,hT⟩
  simp only at hi hT
  refine GZ [] [] ?_
  by_cases hlt:i<R.length
  ·have hy:R[i]? =some R[i]:=Ab hlt
   have hym:=A6 hy
   have htk:(R.take (i+1)).map q=(R.take i).map q++[q R[i]]:=by rw[Au,hy,AS,A7];rfl
   generalize R[i]=x at hy hym htk
   have hp:=hq R hxm x hym
   have hpt:=Pure.up3 hp.pat
   have hyd:(R.map Bh)[i]? =some (Bh x):=by rw[Ad,hy];rfl
   obtain⟨t1,t2,t3,t4,t5⟩:=Gj ((R.take i).map q)
   have hsl:GM (Em ((R.take i).map q))<=1000000:=by rw[t1,Ac,A8];omega
   have had:=mA X hT hp.err (n:=1) (by omega) t2 (by omega)
   rw[<-JZ,<-htk]at had
   (conv=>whnf)
   (repeat' ((first|refine Aj ?_ ?_|refine AO hyd rfl ?_|refine Af rfl hpt ?_|refine nx ?_|refine AB (λ_=>?_) (λ_=>?_)|exact AE)<;>conv=>whnf))
   refine IQ [] [900,901] had (λd σ h=>h) rfl rfl rfl rfl rfl rfl (λ_=>rfl) ?_
   rintro⟨m',X'⟩ hT'
   ((conv=>whnf);repeat' ((first|refine odw ?_|refine nx ?_|refine AB (λ_=>?_) (λ_=>?_))<;>conv=>whnf))
   exact⟨(i+1,m',X'),_,_,⟨hlt,hT'⟩,.refl _ _,⟨rfl,rfl,rfl,rfl,rfl,trivial⟩,⟨rfl,rfl,rfl,trivial⟩,by simp only;omega⟩
  ·have e:R.take i=R:=Ak (by omega)
   rw[e]at hT
   ((conv=>whnf);repeat' ((first|refine odw ?_|refine nx ?_|refine AB (λ_=>?_) (λ_=>?_))<;>conv=>whnf))
   obtain⟨ps,hps0⟩:∃ps,R.map q=ps:=⟨_,rfl⟩
   rw[hps0]at hT
   have hl:ps.length<=40000:=by rw[<-hps0,Ac];exact hRm
   have hp:∀p∈ps,Dk p=none:=λp hp=>by
    rw[<-hps0]at hp
    obtain⟨X,hX,rfl⟩:=An.1 hp
    exact(hq R hxm X hX).err
   have he:ps.map Ce=(if D<=L.length then((L[D-1]?).getD []).map λX=>Ce (q X)else[]):=by rw[if_pos hDl,hx,<-hps0,ED];rfl
   obtain⟨t1,t2,t3,t4,t5⟩:=Gj ps
   have hok:L3 (Em ps):=⟨λx hx=>⟨hp _ (t4 x hx),t2 x hx⟩,by rw[t1];omega,by omega⟩
   have hf:=nU (Em ps) m X hT hok
   rw[eV,he]at hf
   have hps:∀p∈ps.map Ce,Dk p=none:=λp hm=>by
    obtain⟨p',h',rfl⟩:=An.1 hm
    exact KH (hp p' h')
   rw[he]at hps
   have hcl:(if D<=L.length then((L[D-1]?).getD []).map λX=>Ce (q X)else[]).length<=40000:=by rw[<-he,Ac];exact hl
   have hio:(if D<=L.length then Em (((L[D-1]?).getD []).map λX=>Ce (q X))else[])=Em (if D<=L.length then((L[D-1]?).getD []).map λX=>Ce (q X)else[]):=by split<;>rfl
   rw[hio]
   generalize (if D<=L.length then((L[D-1]?).getD []).map λX=>Ce (q X)else[])=cs at hf hps hcl⊢
   obtain⟨c1,c2,c3,c4,c5⟩:=Gj cs
   have hck:L3 (Em cs):=⟨λx hx=>⟨hps _ (c4 x hx),c2 x hx⟩,by rw[c1];omega,by omega⟩
   refine IQ [] [900,901] hf (λd σ h=>h) rfl rfl rfl rfl rfl rfl (λ_=>rfl) ?_
   rintro⟨m2,X2⟩ hT2
   have hr:=Tr (Em cs) m2 X2 hT2 (by omega) (O8 hck)
   generalize Em cs=rs at hr c3
   have hdr:(rs.map Dp).length=rs.length:=Ac _
   (conv=>whnf)
   ((conv=>whnf);repeat' ((first|refine odw ?_|refine nx ?_|refine AB (λ_=>?_) (λ_=>?_))<;>conv=>whnf))
   refine Iu [(920,900),(921,901)] [920,921] hr rfl rfl rfl rfl rfl rfl rfl ?_
   ((conv=>whnf);repeat' ((first|refine odw ?_|refine nx ?_|refine AB (λ_=>?_) (λ_=>?_))<;>conv=>whnf))
   refine AQ (ι:=Nat) (λi=>i<=rs.length) (λi=>[(64,.d (.int .i64 i)),(63,.d (.int .i64 (rs.map Dp).length)),(62,.d (.list 3 (rs.map Dp))),(15,.own 300)]) (λi=>[(300,.slice 56 3 ((rs.take i).map Dp))]) (λi=>rs.length-i) 0 (λ_=>rfl) (Am _) (.frz 910 rfl (.own 15 300 56 3 rfl rfl (.refl _ _))) ⟨rfl,rfl,rfl,rfl,trivial⟩ ⟨rfl,trivial⟩ ?_
   intro i hi
   refine GZ [] [] ?_
   by_cases hil:i<rs.length
   ·have hx:rs[i]? =some rs[i]:=Ab hil
    have hsn:(rs.take (i+1)).map Dp=(rs.take i).map Dp++[Dp rs[i]]:=by rw[Au,hx,AS,A7];rfl
    generalize rs[i]=x at hx hsn
    have hxd:(rs.map Dp)[i]? =some (.agg [.agg [Bh x.1.labels,ET x.1.edges],.int .i64 x.2]):=by rw[Ad,hx];rfl
    have hzl:((rs.take i).map Dp).length<=40000:=by rw[Ac,A8];omega
    generalize (rs.take i).map Dp=Z at hsn hzl⊢
    (conv=>whnf)
    (repeat' ((first|refine Aj ?_ ?_|refine AO hxd rfl ?_|refine nx ?_|refine AB (λ_=>?_) (λ_=>?_)|exact AE)<;>conv=>whnf))
    exact⟨i+1,_,_,hil,.refl _ _,⟨rfl,rfl,rfl,rfl,trivial⟩,⟨Bj hsn.symm,trivial⟩,by omega⟩
   ·rw[Ak (show rs.length<=i by omega)]
    ((conv=>whnf);repeat' ((first|refine odw ?_|refine nx ?_|refine AB (λ_=>?_) (λ_=>?_))<;>conv=>whnf))
    exact rfl
 ·have hT:=Tu
  obtain⟨ps,hps0⟩:∃ps:List Pt,[]=ps:=⟨_,rfl⟩
  rw[show([]:List (Pt×Int))=Em []from rfl,hps0]at hT
  have hl:ps.length<=40000:=by rw[<-hps0];exact Am _
  have hp:∀p∈ps,Dk p=none:=λp hp=>by rw[<-hps0]at hp;cases hp
  have he:ps.map Ce=(if D<=L.length then((L[D-1]?).getD []).map λX=>Ce (q X)else[]):=by rw[if_neg hDl,<-hps0];rfl
  (conv=>whnf)
  ((conv=>whnf);repeat' ((first|refine odw ?_|refine nx ?_|refine AB (λ_=>?_) (λ_=>?_))<;>conv=>whnf))
  obtain⟨t1,t2,t3,t4,t5⟩:=Gj ps
  have hok:L3 (Em ps):=⟨λx hx=>⟨hp _ (t4 x hx),t2 x hx⟩,by rw[t1];omega,by omega⟩
  have hf:=nU (Em ps) [] [] hT hok
  rw[eV,he]at hf
  have hps:∀p∈ps.map Ce,Dk p=none:=λp hm=>by
   obtain⟨p',h',rfl⟩:=An.1 hm
   exact KH (hp p' h')
  rw[he]at hps
  have hcl:(if D<=L.length then((L[D-1]?).getD []).map λX=>Ce (q X)else[]).length<=40000:=by rw[<-he,Ac];exact hl
  have hio:(if D<=L.length then Em (((L[D-1]?).getD []).map λX=>Ce (q X))else[])=Em (if D<=L.length then((L[D-1]?).getD []).map λX=>Ce (q X)else[]):=by split<;>rfl
  rw[hio]
  generalize (if D<=L.length then((L[D-1]?).getD []).map λX=>Ce (q X)else[])=cs at hf hps hcl⊢
  obtain⟨c1,c2,c3,c4,c5⟩:=Gj cs
  have hck:L3 (Em cs):=⟨λx hx=>⟨hps _ (c4 x hx),c2 x hx⟩,by rw[c1];omega,by omega⟩
  refine IQ [] [900,901] hf (λd σ h=>h) rfl rfl rfl rfl rfl rfl (λ_=>rfl) ?_
  rintro⟨m2,X2⟩ hT2
  have hr:=Tr (Em cs) m2 X2 hT2 (by omega) (O8 hck)
  generalize Em cs=rs at hr c3
  have hdr:(rs.map Dp).length=rs.length:=Ac _
  (conv=>whnf)
  ((conv=>whnf);repeat' ((first|refine odw ?_|refine nx ?_|refine AB (λ_=>?_) (λ_=>?_))<;>conv=>whnf))
  refine Iu [(920,900),(921,901)] [920,921] hr rfl rfl rfl rfl rfl rfl rfl ?_
  ((conv=>whnf);repeat' ((first|refine odw ?_|refine nx ?_|refine AB (λ_=>?_) (λ_=>?_))<;>conv=>whnf))
  refine AQ (ι:=Nat) (λi=>i<=rs.length) (λi=>[(64,.d (.int .i64 i)),(63,.d (.int .i64 (rs.map Dp).length)),(62,.d (.list 3 (rs.map Dp))),(15,.own 300)]) (λi=>[(300,.slice 56 3 ((rs.take i).map Dp))]) (λi=>rs.length-i) 0 (λ_=>rfl) (Am _) (.frz 910 rfl (.own 15 300 56 3 rfl rfl (.refl _ _))) ⟨rfl,rfl,rfl,rfl,trivial⟩ ⟨rfl,trivial⟩ ?_
  intro i hi
  refine GZ [] [] ?_
  by_cases hil:i<rs.length
  ·have hx:rs[i]? =some rs[i]:=Ab hil
   have hsn:(rs.take (i+1)).map Dp=(rs.take i).map Dp++[Dp rs[i]]:=by rw[Au,hx,AS,A7];rfl
   generalize rs[i]=x at hx hsn
   have hxd:(rs.map Dp)[i]? =some (.agg [.agg [Bh x.1.labels,ET x.1.edges],.int .i64 x.2]):=by rw[Ad,hx];rfl
   have hzl:((rs.take i).map Dp).length<=40000:=by rw[Ac,A8];omega
   generalize (rs.take i).map Dp=Z at hsn hzl⊢
   (conv=>whnf)
   (repeat' ((first|refine Aj ?_ ?_|refine AO hxd rfl ?_|refine nx ?_|refine AB (λ_=>?_) (λ_=>?_)|exact AE)<;>conv=>whnf))
   exact⟨i+1,_,_,hil,.refl _ _,⟨rfl,rfl,rfl,rfl,trivial⟩,⟨Bj hsn.symm,trivial⟩,by omega⟩
  ·rw[Ak (show rs.length<=i by omega)]
   ((conv=>whnf);repeat' ((first|refine odw ?_|refine nx ?_|refine AB (λ_=>?_) (λ_=>?_))<;>conv=>whnf))
   exact rfl
end
end Go.Proofs.YtjpmmkodoeipmaaGreatDoor
end
section
namespace Go.Proofs
open Go.Shelf
def Tryz.sortC_ren:Go.Shelf.Ren:=⟨λ|6=>72|15=>124|14=>123|28=>180|29=>181|20=>172|21=>173|22=>174|23=>175|24=>176|25=>177|26=>178|27=>179|46=>244|47=>245|48=>246|49=>247|50=>248|57=>275|n=>n,λ|22=>46|24=>22|25=>88|3=>3|39=>202|0=>0|53=>250|55=>215|4=>4|46=>243|45=>242|50=>247|5=>5|9=>9|66=>293|70=>297|76=>318|77=>112|n=>n,λ|n=>n⟩
theorem Tryz.sortC:Go.Proofs.SlLaysF.n6 Tryz.prog Tryz.sortC_ren:={
 mixed:=by kernel_rfl
 f6:=⟨Tryz.f72.name,by decide,Tryz.func72.trans (congrArg some (by kernel_rfl))⟩
 f14:=⟨Tryz.f123.name,by decide,Tryz.func123.trans (congrArg some (by kernel_rfl))⟩
 f15:=Tryz.func124.trans (congrArg some (by kernel_rfl))
 f20:=⟨Tryz.f172.name,by decide,Tryz.func172.trans (congrArg some (by kernel_rfl))⟩
 f21:=⟨Tryz.f173.name,by decide,Tryz.func173.trans (congrArg some (by kernel_rfl))⟩
 f22:=⟨Tryz.f174.name,by decide,Tryz.func174.trans (congrArg some (by kernel_rfl))⟩
 f23:=⟨Tryz.f175.name,by decide,Tryz.func175.trans (congrArg some (by kernel_rfl))⟩
 f24:=⟨Tryz.f176.name,by decide,Tryz.func176.trans (congrArg some (by kernel_rfl))⟩
 f25:=⟨Tryz.f177.name,by decide,Tryz.func177.trans (congrArg some (by kernel_rfl))⟩
 f26:=⟨Tryz.f178.name,by decide,Tryz.func178.trans (congrArg some (by kernel_rfl))⟩
 f27:=⟨Tryz.f179.name,by decide,Tryz.func179.trans (congrArg some (by kernel_rfl))⟩
 f28:=Tryz.func180.trans (congrArg some (by kernel_rfl))
 f29:=Tryz.func181.trans (congrArg some (by kernel_rfl))
 f46:=⟨Tryz.f244.name,by decide,Tryz.func244.trans (congrArg some (by kernel_rfl))⟩
 f47:=Tryz.func245.trans (congrArg some (by kernel_rfl))
 f48:=Tryz.func246.trans (congrArg some (by kernel_rfl))
 f49:=⟨Tryz.f247.name,by decide,Tryz.func247.trans (congrArg some (by kernel_rfl))⟩
 f50:=⟨Tryz.f248.name,by decide,Tryz.func248.trans (congrArg some (by kernel_rfl))⟩
 f57:=⟨Tryz.f275.name,by decide,Tryz.func275.trans (congrArg some (by kernel_rfl))⟩
 t0:=Tryz.underlying0
 a0:=Tryz.isAgg0
 z0:=Tryz.sizeOf0
 v0:=Tryz.zeroValue0
 t3:=Tryz.underlying3
 a3:=Tryz.isAgg3
 z3:=Tryz.sizeOf3
 v3:=Tryz.zeroValue3
 t4:=Tryz.underlying4
 a4:=Tryz.isAgg4
 z4:=Tryz.sizeOf4
 v4:=Tryz.zeroValue4
 t5:=Tryz.underlying5
 a5:=Tryz.isAgg5
 z5:=Tryz.sizeOf5
 v5:=Tryz.zeroValue5
 t9:=Tryz.underlying9
 a9:=Tryz.isAgg9
 z9:=Tryz.sizeOf9
 v9:=Tryz.zeroValue9
 t22:=Tryz.underlying46
 a22:=Tryz.isAgg46
 z22:=Tryz.sizeOf46
 v22:=Tryz.zeroValue46
 a24:=Tryz.isAgg22
 z24:=Tryz.sizeOf22
 t25:=Tryz.underlying88
 a25:=Tryz.isAgg88
 z25:=Tryz.sizeOf88
 v25:=Tryz.zeroValue88
 t39:=Tryz.underlying202
 a39:=Tryz.isAgg202
 z39:=Tryz.sizeOf202
 v39:=Tryz.zeroValue202
 t45:=Tryz.underlying242
 a45:=Tryz.isAgg242
 z45:=Tryz.sizeOf242
 v45:=Tryz.zeroValue242
 t46:=Tryz.underlying243
 a46:=Tryz.isAgg243
 z46:=Tryz.sizeOf243
 v46:=Tryz.zeroValue243
 t50:=Tryz.underlying247
 a50:=Tryz.isAgg247
 z50:=Tryz.sizeOf247
 v50:=Tryz.zeroValue247
 t53:=Tryz.underlying250
 a53:=Tryz.isAgg250
 z53:=Tryz.sizeOf250
 v53:=Tryz.zeroValue250
 t55:=Tryz.underlying215
 a55:=Tryz.isAgg215
 z55:=Tryz.sizeOf215
 v55:=Tryz.zeroValue215
 t66:=Tryz.underlying293
 a66:=Tryz.isAgg293
 z66:=Tryz.sizeOf293
 v66:=Tryz.zeroValue293
 t70:=Tryz.underlying297
 a70:=Tryz.isAgg297
 z70:=Tryz.sizeOf297
 v70:=Tryz.zeroValue297
 t76:=Tryz.underlying318
 a76:=Tryz.isAgg318
 z76:=Tryz.sizeOf318
 v76:=Tryz.zeroValue318
 t77:=Tryz.underlying112
 a77:=Tryz.isAgg112
 z77:=Tryz.sizeOf112
 v77:=Tryz.zeroValue112}
end Go.Proofs
end
section
namespace Go.Reg
open Go Go.RowKit Go.Sort Go.Proofs
section
variable {α:Type} [Inhabited α] {enc:α->Value} {E:Nat} {w:World} {l:List α} {g cap:Nat}
theorem Xh(d:Array α)(t:Nat)(h:t<d.size):(flatK (λx=>[enc x]) 1 d)[t]! =enc d[t]! :=by
 rw[get_flatK _ _ _ _ (by omega)]
 simp[Nat.mod_one]
theorem put1(w:World)(g:Nat)(d:Array α):putRow enc w g 0 d=putRowK (λx=>[enc x]) 1 w g 0 d:=by
 unfold putRowK putRow
 congr 1
 funext c
 unfold putCells
 congr 1
 funext k x
 simp only[size_flatK,F4,DT,Nat.sub_zero,Am,true_and]
 split
 ·rename_i h;rw[Xh _ _ h];rfl
 ·rfl
theorem ACR(n:Nat)(d:Array α)(os:Array Obj):sortWorld enc w g 0 n d os=sortWorldK (λx=>[enc x]) 1 w g 0 n d os:=by unfold sortWorld sortWorldK;rw[put1]
theorem Sl.holdsV(h:Sl E 1 (λx=>[enc x]) w (.slice (some ⟨g,0,none⟩) l.length cap) l):Go.Sort.Holds enc w g 0 l.toArray:=by
 intro j hj
 have:=Sl.holdsK (enc:=λx=>[enc x]) (k:=1) (λ_=>rfl) (by decide) h j (by simpa using hj)
 rwa [Xh _ _ hj]at this
end
end Go.Reg
namespace Go.Proofs.YtjpmmkodoeipmaaGreatDoor
open Go.Sx Go.RowKit Go.Reg Go.Gr Go.Sort
set_option maxRecDepth 100000
theorem ADP(s:Nat)(a b:Int)(W:World)(c0:W.cell? ⟨s,0,none⟩=some (.int .i64 a))(c1:W.cell? ⟨s,1,none⟩=some (.int .i64 b)):
  Calls Tryz.prog 30 #[.slice (some ⟨s,0,none⟩) 2 2] W λe w'=>e=.returned (.int .i64 (OI [a,b]))/\W=w':=by
 have hz:((0:Int) !=0)=false:=by simp
 by_cases ha:a=0
 ·subst ha
  by_cases hb:b=0
  ·subst hb
   go_enter Tryz.func30,Tryz.ntmps30
   go_wp2_with fail
   refine wp_loop_rounds 3 ?_
   rw[rounds_succ]
   go_wp2_with fail
   rw[rounds_succ]
   go_wp2_with fail
   rw[rounds_succ]
   go_wp2_with fail
   go_ret
   exact⟨rfl,rfl⟩
  ·have hb':(b !=0)=true:=by simpa using hb
   have e1:OI [0,b]=b:=by simp[OI,hb]
   rw[e1]
   clear e1 hb
   go_enter Tryz.func30,Tryz.ntmps30
   go_wp2_with fail
   refine wp_loop_rounds 2 ?_
   rw[rounds_succ]
   go_wp2_with fail
   rw[rounds_succ]
   go_wp2_with fail
   go_ret
   exact⟨rfl,rfl⟩
 ·have ha':(a !=0)=true:=by simpa using ha
  have e1:OI [a,b]=a:=by simp[OI,ha]
  rw[e1]
  clear e1 ha
  go_enter Tryz.func30,Tryz.ntmps30
  go_wp2_with fail
  refine wp_loop_rounds 1 ?_
  rw[rounds_succ]
  go_wp2_with fail
  go_ret
  exact⟨rfl,rfl⟩
theorem AAw(s1 s2:Value)(l r:List Int)(W:World)(h1:EA 1 JD W s1 l)(h2:EA 1 JD W s2 r):
  Calls Tryz.prog 73 #[s1,s2] W λe w'=>e=.returned (.int .i64 (RG l r))/\∃n os,w'=grow (W.drewN n) os:=by
 obtain⟨a1,c1,rfl⟩:=D6 h1
 obtain⟨a2,c2,rfl⟩:=D6 h2
 have H1:=FW h1
 have H2:=FW h2
 clear h1 h2
 rw[ACz]
 go_enter Tryz.func73,Tryz.ntmps73
 go_wp2_with (first|(go_at_call 31;refine(F0 _ _ _).mono ?_;rintro e w' ⟨rfl,rfl⟩)|(go_at_call 32;refine(P4 _ _ l r _ H1.out H2.out).mono ?_;rintro e w' ⟨rfl,rfl⟩)|(go_at_call 30;refine(ADP _ _ _ _ (NJ _ _ _ rfl rfl) (NJ _ _ _ rfl rfl)).mono ?_;rintro e w' ⟨rfl,rfl⟩))
 go_ret
 exact⟨rfl,zQ (q:=0) (os:=#[]) (by rw[grow_empty];rfl)⟩
abbrev YI(O:List Nat)(w:World):={c:Value×List Int//RepC O w (Bh c.2) [c.1]}
def cL {O:List Nat} {w:World}(x:YI O w):Value:=x.1.1
instance {O:List Nat} {w:World}:Inhabited (YI O w):=⟨⟨(.slice none 0 0,[]),iR O w 1⟩⟩
theorem WT {O:List Nat} {w:World}:∀{L:List (List Int)} {css:List (List Value)},Aq O w (L.map Bh) css->∃xs:List (YI O w),xs.map (λx=>[cL x])=css/\xs.map (λx=>x.1.2)=L
 |[],css,h=>by simp only[Bt,Aq]at h;subst h;exact⟨[],rfl,rfl⟩
 |
  r::L,css,h=>by
  simp only[Ap,Aq]at h
  obtain⟨c1,c2,rfl,h1,h2⟩:=h
  obtain⟨xs,e1,e2⟩:=WT h2
  obtain⟨v,rfl⟩:=C4.1 (show c1.length=1 from FD _ _ h1)
  exact⟨⟨(v,r),h1⟩::xs,by rw[Ap,e1];rfl,by rw[Ap,e2]⟩
theorem Wf {O:List Nat} {w:World}:∀xs:List (YI O w),Aq O w ((xs.map λx=>x.1.2).map Bh) (xs.map λx=>[cL x])
 |[]=>by simp[Aq]
 |
  x::xs=>by
  simp only[Ap,Aq]
  exact⟨_,_,rfl,x.2,Wf xs⟩
theorem cK {O:List Nat} {w:World}(x:YI O w):(cL x).oneCell'=true:=by
 obtain⟨_,_,e⟩:=D6 (AC9 x.2)
 show x.1.1.oneCell'=true
 rw[e];rfl
theorem AFG {α:Type} {f:α->List Int}:SWO (ltOf λx y=>RG (f x) (f y))where
 irrefl x:=by have:=VH.self (f x);simp[ltOf];omega
 trans x y z h1 h2:=by
  simp only[ltOf,decide_eq_true_eq]at*
  exact VH.trans _ _ _ h1 h2
 ntrans x y z h1 h2:=by
  simp only[ltOf,decide_eq_false_iff_not]at*
  intro h3
  by_cases h0:RG (f x) (f y)=0
  ·rw[(VH.eq0 _ _).1 h0]at h3;exact h2 h3
  ·exact h2 (VH.trans _ _ _ ((VH.anti (f x) (f y)).2 (by omega)) h3)
theorem pL(L:List (List Int))(hl:L.length<=4294967296):RQ C3 72 22 1 (L.map Bh) [.func (.func 73) [] []] (λ_ ds=>ds=(sortC L).map Bh):=by
 intro O w v css us hs hb hO hr hk hg hus
 obtain⟨u,us',rfl,h1,h2⟩:=Cg hus
 obtain rfl:=Dv h2
 obtain⟨cs,r,rfl⟩:=h1
 simp only[RepC,Aq]at r
 obtain⟨_,_,rfl,rfl,rfl⟩:=r
 obtain⟨xs,rfl,rfl⟩:=WT hr
 have hun:∀w':World,Rep O w' (.tuple []) (.tuple #[]):=λw'=>⟨[.tuple #[]],by simp only[RepC,Aq];exact⟨[],rfl,rfl⟩,rfl⟩
 have hs2:Sl 22 1 (λx:YI O w=>[cL x]) w v xs:=by
  unfold Sl at hs⊢
  rw[Ac,Gw]at hs
  exact hs
 refine⟨by kernel_rfl,?_⟩
 rcases hs2.shape with⟨rfl,rfl⟩|⟨g,cap,rfl,hc⟩
 ·refine(AnyF.slices_SortFunc_none {Tryz.sortC with} none 0 _ w).mono ?_
  rintro e w' ⟨rfl,rfl⟩
  exact⟨.tuple #[],.tuple [],[],[],rfl,by simp[sortC],hs,by simp[Aq],by simp,hun _,Tch.refl _ _⟩
 ·have hgO:∀b∈[g],b∈O:=λb hb2=>hb b (by rw[As.1 hb2];simp[Value.ownBlock])
  rw[Ac]at hl
  refine(Any.slices_SortFunc Tryz.sortC cL cK (λx y=>RG x.1.2 y.1.2) (AFG (f:=λx:YI O w=>x.1.2)) 73 #[] g 0 cap xs.toArray w
   (enters_of Tryz.func73 (by kernel_rfl) rfl) (λm os dk hdk x y=>?_) hs2.holdsV (hs2.lt rfl) (by simp;omega)).mono ?_
  ·obtain⟨_,hT⟩:=Sl.sorted (enc:=λx:YI O w=>[cL x]) (k:=1) (λ_=>rfl) (by decide) hs2 dk (by simpa using hdk) m os
   rw[ACR]
   exact AAw _ _ _ _ _ (AC9 (RepC.later (Hn hT hgO) _ _ x.2)) (AC9 (RepC.later (Hn hT hgO) _ _ y.2))
  ·rintro e w' ⟨rfl,d,n,os,hp,hso,rfl⟩
   obtain⟨hp1,hp2,hp3⟩:=hp
   have hd:d.size=xs.length:=by simpa using hp1
   rw[ACR]
   obtain⟨hS,hT⟩:=Sl.sorted (enc:=λx:YI O w=>[cL x]) (k:=1) (λ_=>rfl) (by decide) hs2 d hd n os
   have hperm:d.toList.Perm xs:=by
    have e1:d.extract 0 xs.toArray.size=d:=by rw[<-hp1];exact Ey
    have e2:xs.toArray.extract 0 xs.toArray.size=xs.toArray:=Ey
    rw[e1,e2]at hp3
    exact hp3
   have hsrt:(d.toList.map λx=>x.1.2)=sortC (xs.map λx=>x.1.2):=by
    refine Zj (hperm.map _) ?_
    rw[B7,AM]
    intro i j hi hj hij
    have hj':j<xs.length:=by rw[<-hd];simpa using hj
    have hi':i<xs.length:=by omega
    have:=hso i j (Am _) hij (by simpa using hj')
    rw[getElem!_pos d j (by omega),getElem!_pos d i (by omega)]at this
    simpa[ltOf]using this
   refine⟨.tuple #[],.tuple [],(d.toList.map λx=>x.1.2).map Bh,d.toList.map λx=>[cL x],rfl,by rw[hsrt],?_,Aq.later (Hn hT hgO) _ _ (Wf _),?_,hun _,?_⟩
   ·unfold Sl at hS⊢
    rw[Ac,Gw]
    exact hS
   ·intro x hx
    obtain⟨e,_,rfl⟩:=An.1 hx
    exact⟨rfl,λu hu=>by rw[As.1 hu];exact cK e⟩
   ·simpa[Value.ownBlock]using hT
end Go.Proofs.YtjpmmkodoeipmaaGreatDoor
end
section
namespace Go.Proofs.YtjpmmkodoeipmaaGreatDoor
open Go.Sx Go.RowKit Go.Reg Go.Gr
set_option maxRecDepth 100000
section
variable {G:Gr} {e:Bool} {d:Int} {l:List Opp}
set_option maxHeartbeats 4000000 in
theorem VN(L:List (List (List Int)))(q:List Int->Pt)(V:List Int->List Int)(hLl:L.length<=1000)(hL:L.flatten.length<=40000)(hX:∀R∈L,∀X∈R,X.length<=1000)(hq:∀R∈L,∀X∈R,PatAt G e d l q V X):
  Pure C3 28 [dJ G e d l,Pd L] (λy=>y=.tuple [.list 1 ((sortC (L.flatten.map KT)).map Bh),.nili]):=by
 have hdL:(L.map NT).length=L.length:=Ac _
 have hfl:∀n,((L.take n).flatten).length<=L.flatten.length:=λn=>by
  conv=>rhs;rw[<-BP n L,D7,Ah]
  omega
 refine On Tryz.func28 Tryz.ntmps28 [] [] ?_
 (conv=>whnf)
 refine AQ (ι:=Nat) (λn=>n<=L.length) (λn=>[(16,.d (.int .i64 n)),(15,.d (.int .i64 (L.map NT).length)),(14,.d (Pd L)),(6,.own 300),(2,.own 2)]) (λn=>[(300,.slice 22 1 (((L.take n).flatten.map KT).map Bh)),(2,.cells 43 [.d (dG G),.d (.bool e),.d (.int .i64 d),.d (JS l)])]) (λn=>L.length-n) 0 (λ_=>rfl) (Am _) (.own 6 300 22 1 rfl rfl (.refl _ _)) ⟨rfl,rfl,rfl,rfl,rfl,trivial⟩ ⟨rfl,rfl,trivial⟩ ?_
 intro n hn
 refine GZ [] [] ?_
 by_cases hnl:n<L.length
 ·have hx:L[n]? =some L[n]:=Ab hnl
  have hxm:=A6 hx
  have htk:(L.take (n+1)).flatten=(L.take n).flatten++L[n]:=by rw[Au,hx,AS,D7];simp
  have hln:=hfl (n+1)
  generalize L[n]=R at hx hxm htk
  have hxd:(L.map NT)[n]? =some (.list 1 (R.map Bh)):=by rw[Ad,hx];rfl
  have hdR:(R.map Bh).length=R.length:=Ac _
  have hrl:=congrArg List.length htk
  rw[Ah]at hrl
  (conv=>whnf)
  (repeat' ((first|refine Aj ?_ ?_|refine AO hxd rfl ?_|refine nx ?_|refine AB (λ_=>?_) (λ_=>?_)|exact AE)<;>conv=>whnf))
  refine AQ (ι:=Nat) (λi=>i<=R.length) (λi=>[(22,.d (.int .i64 i)),(21,.d (.int .i64 (R.map Bh).length)),(20,.d (.list 1 (R.map Bh))),(16,.d (.int .i64 n)),(15,.d (.int .i64 (L.map NT).length)),(14,.d (Pd L)),(6,.own 300),(2,.own 2)]) (λi=>[(300,.slice 22 1 ((((L.take n).flatten++R.take i).map KT).map Bh)),(2,.cells 43 [.d (dG G),.d (.bool e),.d (.int .i64 d),.d (JS l)])]) (λi=>R.length-i) 0 (λ_=>rfl) (Am _) (.refl _ _) ⟨rfl,rfl,rfl,rfl,rfl,rfl,rfl,rfl,trivial⟩ ⟨Bj (by simp),rfl,trivial⟩ ?_
  intro i hi
  refine GZ [] [] ?_
  by_cases hil:i<R.length
  ·have hy:R[i]? =some R[i]:=Ab hil
   have hym:=A6 hy
   have hsn:((L.take n).flatten++R.take (i+1)).map KT=((L.take n).flatten++R.take i).map KT++[KT R[i]]:=by rw[Au,hy,AS,<-Bk,A7];rfl
   have hzl:((L.take n).flatten++R.take i).length<=40000:=by rw[Ah,A8];omega
   generalize R[i]=X at hy hym hsn
   have hyd:(R.map Bh)[i]? =some (Bh X):=by rw[Ad,hy];rfl
   have hpt:=Pure.up3 (hq R hxm X hym).pat
   have hso:=Pure.up3 (LR X (by have:=hX R hxm X hym;omega))
   have hdz:(((L.take n).flatten++R.take i).map KT).length<=40000:=by rw[Ac];exact hzl
   generalize ((L.take n).flatten++R.take i).map KT=Z at hsn hdz⊢
   have hdz2:(Z.map Bh).length=Z.length:=Ac _
   (conv=>whnf)
   (repeat' ((first|refine Aj ?_ ?_|refine AO hyd rfl ?_|refine Af rfl hpt ?_|refine Af rfl (Pure.up3 (Ic X)) ?_|refine Af rfl hso ?_|refine nx ?_|refine AB (λ_=>?_) (λ_=>?_)|exact AE)<;>conv=>whnf))
   exact⟨i+1,_,_,hil,.refl _ _,⟨rfl,rfl,rfl,rfl,rfl,rfl,rfl,rfl,trivial⟩,⟨Bj (by rw[hsn,A7];rfl),rfl,trivial⟩,by omega⟩
  ·rw[Ak (show R.length<=i by omega),<-htk]
   ((conv=>whnf);repeat' ((first|refine odw ?_|refine nx ?_|refine AB (λ_=>?_) (λ_=>?_))<;>conv=>whnf))
   exact⟨n+1,_,_,hnl,.refl _ _,⟨rfl,rfl,rfl,rfl,rfl,trivial⟩,⟨rfl,rfl,trivial⟩,by omega⟩
 ·rw[Ak (show L.length<=n by omega)]
  ((conv=>whnf);repeat' ((first|refine odw ?_|refine nx ?_|refine AB (λ_=>?_) (λ_=>?_))<;>conv=>whnf))
  refine Nj (i:=300) rfl rfl (pL (L.flatten.map KT) (by rw[Ac];omega)) ?_
  rintro y ds rfl
  ((conv=>whnf);repeat' ((first|refine odw ?_|refine nx ?_|refine AB (λ_=>?_) (λ_=>?_))<;>conv=>whnf))
  exact rfl
end
end Go.Proofs.YtjpmmkodoeipmaaGreatDoor
end
section
namespace Go.Proofs
open Go.Shelf
def Tryz.growI_ren:Go.Shelf.Ren:=⟨λ|4=>281|n=>n,λ|22=>22|25=>3|3=>3|4=>4|9=>9|20=>20|0=>0|n=>n,λ|n=>n⟩
theorem Tryz.growI:Go.Proofs.Lays8.n4 Tryz.prog Tryz.growI_ren:={
 mixed:=by kernel_rfl
 f4:=⟨Tryz.f281.name,by decide,Tryz.func281.trans (congrArg some (by kernel_rfl))⟩
 t0:=Tryz.underlying0
 a0:=Tryz.isAgg0
 z0:=Tryz.sizeOf0
 v0:=Tryz.zeroValue0
 t3:=Tryz.underlying3
 a3:=Tryz.isAgg3
 z3:=Tryz.sizeOf3
 v3:=Tryz.zeroValue3
 t4:=Tryz.underlying4
 a4:=Tryz.isAgg4
 z4:=Tryz.sizeOf4
 v4:=Tryz.zeroValue4
 t9:=Tryz.underlying9
 a9:=Tryz.isAgg9
 z9:=Tryz.sizeOf9
 v9:=Tryz.zeroValue9
 t20:=Tryz.underlying20
 a20:=Tryz.isAgg20
 z20:=Tryz.sizeOf20
 v20:=Tryz.zeroValue20
 t22:=Tryz.underlying22
 a22:=Tryz.isAgg22
 z22:=Tryz.sizeOf22
 v22:=Tryz.zeroValue22}
end Go.Proofs
end
section
namespace Go.Proofs.YtjpmmkodoeipmaaGreatDoor
open Go.Sx Go.RowKit Go.Reg Go.Gr
set_option maxRecDepth 100000
theorem ABR:(Tryz.prog.info? 3).map (λi=>(i.zero,i.size,i.bytes))=some (some (.int .i64 0),1,8):=by kernel_rfl
theorem jY(m:Nat)(hm:m<=2000000000):E5 C1 281 [.nils,.int .i64 m] 3 1 (λds=>ds=[]):=by
 intro O w us hO hg hr
 obtain⟨v,vs,rfl,h1,h2⟩:=Cg hr
 obtain⟨v2,vs2,rfl,h3,h4⟩:=Cg h2
 obtain rfl:=Dv h4
 have e1:v=.slice none 0 0:=by
  obtain⟨cs,r,e⟩:=h1
  simp only[RepC]at r
  subst r;exact e
 have e2:v2=.int .i64 m:=by
  obtain⟨cs,r,e⟩:=h3
  simp only[RepC]at r
  subst r;exact e
 subst e1 e2
 refine⟨by kernel_rfl,?_⟩
 obtain⟨i0,hi0,ez,es,eb⟩:∃i0,Tryz.prog.info? 3=some i0/\i0.zero=some (.int .i64 0)/\i0.size=1/\i0.bytes=8:=by
  have:=ABR
  cases hq:Tryz.prog.info? 3 with
  |none=>rw[hq]at this;cases this
  |some i=>rw[hq]at this;simp only[Cv,AD,Prod.mk.injEq]at this;exact⟨i,rfl,this⟩
 by_cases h0:m=0
 ·subst h0
  refine(Any8.slices_Grow_room Tryz.growI none 0 0 0 w (by omega) (by omega) (by omega) (by omega)).mono ?_
  rintro e w' ⟨rfl,rfl⟩
  exact⟨_,[],[],rfl,rfl,fD _ 0 _ _,(λb hb=>by cases hb),rfl,(λx hx=>by cases hx),Tch.refl _ _⟩
 ·refine(Any8.slices_Grow_grow Tryz.growI i0 (.int .i64 0) hi0 ez (by omega) none 0 0 m [] w (by omega) (by omega) (by rw[eb];omega) (by omega) (by simp) (λ_=>rfl) (λa ha=>by cases ha)).mono ?_
  rintro e w' ⟨rfl,rfl⟩
  have hGn:0+m<=grownCap w (0+m) 0 3:=grownCap_ge w _ _ _
  have hGm:grownCap w (0+m) 0 3<=maxLen:=grownCap_le_maxLen w (0+m) 0 _ (by unfold maxLen;omega)
  have hren:Tryz.growI_ren.t 25=3:=rfl
  rw[hren]
  generalize grownCap w (0+m) 0 3=G at hGn hGm⊢
  obtain⟨ROW,hROW⟩:∃R,R=(([]:List Value).toArray++Builtin.zeroCells (Value.int .i64 0).cells (0+m-0)++Builtin.zeroCells (Value.int .i64 0).cells (G- (0+m))):=⟨_,rfl⟩
  have hs:ROW.size=G*1:=by
   rw[hROW]
   simp only[Pr,BD,Br,size_zeroCells,Value.cells]
   simp;omega
  rw[<-hROW]
  refine⟨_,[],[],rfl,rfl,?_,?_,rfl,(λx hx=>by cases hx),(Tch.drew w []).trans0 (Tch.alloc _ _ _)⟩
  ·exact⟨rfl,.inr ⟨w.heap.size,G,ROW,rfl,Am _,(by show(w.heap.push (Obj.cells ROW 3))[w.heap.size]? =_;simp),Am _,hGm,hs,by simp⟩⟩
  ·intro b hb
   simp only[Value.ownBlock,AD]at hb
   omega
theorem Vd {L:List (List Int)} {i:Nat} {l:List Int}(h:L[i]? =some l):(L.take (i+1)).flatten=(L.take i).flatten++l:=by
 rw[Au,h,AS,D7];simp
theorem zY(L:List (List Int))(i:Nat):(L.take i).flatten.length<=L.flatten.length:=by
 conv=>rhs;rw[<-BP i L,D7,Ah]
 omega
set_option maxHeartbeats 4000000 in
theorem Y9(L:List (List Int))(hL:L.length<=1000)(hf:L.flatten.length<=2000000000):Pure C1 253 [.list 1 (L.map Bh)] (λy=>y=Bh L.flatten):=by
 have hdL:(L.map Bh).length=L.length:=Ac _
 have hfl:=zY L
 refine AU Tryz.func253 Tryz.ntmps253 [] [] ?_
 ((conv=>whnf);repeat' ((first|refine odw ?_|refine nx ?_|refine AB (λ_=>?_) (λ_=>?_))<;>conv=>whnf))
 refine AQ (ι:=Nat) (λi=>i<=L.length) (λi=>[(11,.d (.int .i64 i)),(10,.d (.int .i64 (L.map Bh).length)),(9,.d (.list 1 (L.map Bh))),(3,.d (.int .i64 ((L.take i).flatten.length:Nat))),(0,.d (.list 1 (L.map Bh)))]) (λ_=>[]) (λi=>L.length-i) 0 (λ_=>rfl) (Am _) (.refl _ _) ⟨rfl,rfl,rfl,rfl,rfl,trivial⟩ trivial ?_
 intro i hi
 refine Ca [] [] ?_
 by_cases hil:i<L.length
 ·have hx:=Ab hil
  generalize L[i]=x at hx
  have hxd:(L.map Bh)[i]? =some (Bh x):=by rw[Ad,hx];rfl
  have hdx:(x.map dI).length=x.length:=Ac _
  have hst:=congrArg List.length (Vd hx)
  rw[Ah]at hst
  have h1:=hfl (i+1)
  (conv=>whnf)
  (repeat' ((first|refine Aj ?_ ?_|refine AO hxd rfl ?_|refine nx ?_|refine AB (λ_=>?_) (λ_=>?_)|exact AE)<;>conv=>whnf))
  exact⟨i+1,_,_,hil,.refl _ _,⟨rfl,rfl,rfl,OU (by omega),rfl,trivial⟩,trivial,by omega⟩
 ·have e:L.take i=L:=Ak (by omega)
  rw[e]
  ((conv=>whnf);repeat' ((first|refine odw ?_|refine nx ?_|refine AB (λ_=>?_) (λ_=>?_))<;>conv=>whnf))
  refine EF 24 rfl rfl (jY _ hf) ?_;rintro ds rfl
  ((conv=>whnf);repeat' ((first|refine odw ?_|refine nx ?_|refine AB (λ_=>?_) (λ_=>?_))<;>conv=>whnf))
  refine AQ (ι:=Nat) (λi=>i<=L.length) (λi=>[(27,.d (.int .i64 i)),(26,.d (.int .i64 (L.map Bh).length)),(25,.d (.list 1 (L.map Bh))),(6,.own 24)]) (λi=>[(24,.slice 3 1 ((L.take i).flatten.map dI))]) (λi=>L.length-i) 0 (λ_=>rfl) (Am _) (.refl _ _) ⟨rfl,rfl,rfl,rfl,trivial⟩ ⟨rfl,trivial⟩ ?_
  intro i hi
  refine Ca [] [] ?_
  by_cases hil:i<L.length
  ·have hx:=Ab hil
   generalize L[i]=x at hx
   have hxd:(L.map Bh)[i]? =some (Bh x):=by rw[Ad,hx];rfl
   have hdx:(x.map dI).length=x.length:=Ac _
   have hst:=Vd hx
   have hsl:=congrArg List.length hst
   rw[Ah]at hsl
   have h1:=hfl (i+1)
   generalize (L.take i).flatten=Z at hst hsl⊢
   have hdz:(Z.map dI).length=Z.length:=Ac _
   (conv=>whnf)
   (repeat' ((first|refine Aj ?_ ?_|refine AO hxd rfl ?_|refine nx ?_|refine AB (λ_=>?_) (λ_=>?_)|exact AE)<;>conv=>whnf))
   exact⟨i+1,_,_,hil,.refl _ _,⟨rfl,rfl,rfl,rfl,trivial⟩,⟨Bj (by rw[hst,A7]),trivial⟩,by omega⟩
  ·have e:L.take i=L:=Ak (by omega)
   rw[e]
   ((conv=>whnf);repeat' ((first|refine odw ?_|refine nx ?_|refine AB (λ_=>?_) (λ_=>?_))<;>conv=>whnf))
   exact rfl
theorem AA0(l:List Int)(hr:l.Pairwise (· < ·))(hl:l.length<=4294967296)(e:Int):Pure C1 252 [Bh l,.int .i64 e] (λy=>∃m:Nat,(m<=l.length/\(∀z∈l.take m,z<e)/\∀z∈l.drop m,¬z<e)/\y=.tuple [.int .i64 m,.bool (decide (e∈l))]):=by
 have hlm:(l.map dI).length=l.length:=Ac _
 refine AU Tryz.func252 Tryz.ntmps252 [] [] ?_
 ((conv=>whnf);repeat' ((first|refine odw ?_|refine nx ?_|refine AB (λ_=>?_) (λ_=>?_))<;>conv=>whnf))
 refine AQ (ι:=Nat×Nat) (λx=>x.1<=x.2/\x.2<=l.length/\(∀z∈l.take x.1,z<e)/\∀z∈l.drop x.2,¬z<e)
  (λx=>[(8,.d (.int .i64 x.2)),(7,.d (.int .i64 x.1)),(6,.d (.int .i64 (l.map dI).length)),(1,.d (.int .i64 e)),(0,.d (Bh l))])
  (λ_=>[]) (λx=>x.2-x.1) (0,(l.map dI).length) (λ_=>rfl) ⟨Am _,by rw[hlm];exact Ay _,by simp,by rw[hlm];simp⟩ (.refl _ _) ⟨rfl,rfl,rfl,rfl,rfl,trivial⟩ trivial ?_
 rintro⟨lo,hi⟩ ⟨h1,h2,h3,h4⟩
 dsimp only at h1 h2 h3 h4
 refine Ca [] [] ?_
 by_cases hlt:lo<hi
 ·have hx:=Ab (l:=l) (i:=(lo+hi)/2) (by omega)
  generalize l[(lo+hi)/2]'(by omega)=z at hx
  have hxd:(l.map dI)[(lo+hi)/2]? =some (.int .i64 z):=by rw[Ad,hx];rfl
  have hle:=WX z e
  by_cases hz:z<e
  ·rw[decide_eq_true hz]at hle
   (conv=>whnf)
   (repeat' ((first|refine Aj ?_ ?_|refine QM (by omega) ?_|refine nx ?_|refine AB (λ_=>?_) (λ_=>?_)|exact AE)<;>conv=>whnf))
   refine OJ 1 rfl rfl rfl (by decide) rfl rfl ?_
   (conv=>whnf)
   (repeat' ((first|refine Aj ?_ ?_|refine R5 ((lo+hi)/2) (Kx lo hi) (by omega) ?_|refine AO hxd rfl ?_|refine Af rfl hle ?_|refine nx ?_|refine AB (λ_=>?_) (λ_=>?_)|exact AE)<;>conv=>whnf))
   exact⟨((lo+hi)/2+1,hi),_,_,⟨by dsimp only;omega,h2,Wp hr hx hz,h4⟩,.refl _ _,⟨rfl,rfl,rfl,rfl,rfl,trivial⟩,trivial,by dsimp only;omega⟩
  ·rw[decide_eq_false hz]at hle
   (conv=>whnf)
   (repeat' ((first|refine Aj ?_ ?_|refine QM (by omega) ?_|refine nx ?_|refine AB (λ_=>?_) (λ_=>?_)|exact AE)<;>conv=>whnf))
   refine OJ 1 rfl rfl rfl (by decide) rfl rfl ?_
   (conv=>whnf)
   (repeat' ((first|refine Aj ?_ ?_|refine R5 ((lo+hi)/2) (Kx lo hi) (by omega) ?_|refine AO hxd rfl ?_|refine Af rfl hle ?_|refine nx ?_|refine AB (λ_=>?_) (λ_=>?_)|exact AE)<;>conv=>whnf))
   exact⟨(lo,(lo+hi)/2),_,_,⟨by dsimp only;omega,by dsimp only;omega,h3,Wq hr hx hz⟩,.refl _ _,⟨rfl,rfl,rfl,rfl,rfl,trivial⟩,trivial,by dsimp only;omega⟩
 ·have h4':∀z∈l.drop lo,¬z<e:=by rw[show lo=hi by omega];exact h4
  have hm:=Z6 hr h3 h4'
  by_cases hln:lo<l.length
  ·have hx:=Ab hln
   generalize l[lo]=z at hx
   have hxd:(l.map dI)[lo]? =some (.int .i64 z):=by rw[Ad,hx];rfl
   have hnz:=Wh z
   by_cases hz:z=e
   ·rw[decide_eq_true (hm.2 (by rw[hx,hz]))]
    (conv=>whnf)
    (repeat' ((first|refine Aj ?_ ?_|refine AO hxd rfl ?_|refine Af rfl hnz ?_|refine nx ?_|refine AB (λ_=>?_) (λ_=>?_)|exact AE)<;>conv=>whnf))
    exact⟨lo,⟨by omega,h3,h4'⟩,rfl⟩
   ·rw[decide_eq_false (λh=>hz (by have:=hm.1 h;rw[hx]at this;exact Cc this))]
    (conv=>whnf)
    (repeat' ((first|refine Aj ?_ ?_|refine AO hxd rfl ?_|refine Af rfl hnz ?_|refine nx ?_|refine AB (λ_=>?_) (λ_=>?_)|exact AE)<;>conv=>whnf))
    exact⟨lo,⟨by omega,h3,h4'⟩,rfl⟩
  ·rw[decide_eq_false (λh=>by have:=hm.1 h;rw[AI (by omega)]at this;cases this)]
   ((conv=>whnf);repeat' ((first|refine odw ?_|refine nx ?_|refine AB (λ_=>?_) (λ_=>?_))<;>conv=>whnf))
   exact⟨lo,⟨by omega,h3,h4'⟩,rfl⟩
theorem SA(x:Int)(l:List Int)(hl:(x::l).length<=2000000000):Pure C1 88 [Bh (x::l)] (λy=>y=Bh (x::l)):=by
 have hlm:((x::l).map dI).length=(x::l).length:=Ac _
 refine AU Tryz.func88 Tryz.ntmps88 QG Mj ?_
 have hlm2:(([]:List Da).length+((x::l).map dI).length)<=4294967296:=by rw[hlm];simp at hl⊢;omega
 ((conv=>whnf);repeat' ((first|refine odw ?_|refine nx ?_|refine AB (λ_=>?_) (λ_=>?_))<;>conv=>whnf))
 all_goals first|exact rfl|(refine J9 hlm2 ?_;((conv=>whnf);repeat' ((first|refine odw ?_|refine nx ?_|refine AB (λ_=>?_) (λ_=>?_))<;>conv=>whnf));exact rfl)
theorem AA8 {s:List Int} {n:Int}(hs:s.Pairwise (· < ·))(h:n∈s):V5 s n=s:=Hi (BG _).1 hs λx=>by
 rw[Qe]
 exact⟨λh'=>h'.elim (λe=>e▸h) id,.inr⟩
theorem AA9 {s:List Int} {n:Int} {m:Nat}(hs:s.Pairwise (· < ·))(hn:n∉s)(h1:∀z∈s.take m,z<n)(h2:∀z∈s.drop m,¬z<n):V5 s n=s.take m++([n]++s.drop m):=by
 refine Hi (BG _).1 ?_ λx=>?_
 ·rw[CU,CU]
  refine⟨hs.sublist (Pn _ _),⟨by simp,hs.sublist (List.drop_sublist _ _),λa ha b hb=>?_⟩,λa ha b hb=>?_⟩
  ·rw[As]at ha;subst ha
   have:=h2 b hb
   have hne:b≠a:=λe=>hn (e▸SL hb)
   omega
  ·have h3:=h1 a ha
   rcases Ag.1 hb with hb|hb
   ·rw[As]at hb;subst hb;exact h3
   ·have:=h2 b hb;omega
 ·rw[Qe]
  have:x∈s↔x∈s.take m\/x∈s.drop m:=by rw[<-Ag,BP]
  rw[this]
  simp only[Ag,As]
  constructor
  ·rintro(h|h|h)
   ·exact .inr (.inl h)
   ·exact .inl h
   ·exact .inr (.inr h)
  ·rintro(h|h|h)
   ·exact .inr (.inl h)
   ·exact .inl h
   ·exact .inr (.inr h)
def AB8:List (Nat×Plan):=[(4,.leaf [0,0,0,0,6,0,0,0,6,2,0] [0,1,2,3,5,6,7,4,8,9,10] [0,0,3,0,8,0,0,96,255,511,1023])]
def AEt:List FuncId:=[252,88,253]
set_option maxHeartbeats 4000000 in
theorem pR(s:List Int)(hs:s.Pairwise (· < ·))(hl:s.length<=1000000000)(n:Int):Pure C1 186 [Bh s,.int .i64 n] (λy=>y=Bh (V5 s n)):=by
 have hsl:(s.map dI).length=s.length:=Ac _
 have hb:=AA0 s hs (by omega) n
 refine AU Tryz.func186 Tryz.ntmps186 AEt AB8 ?_
 by_cases hn:n∈s
 ·rw[decide_eq_true hn]at hb
  rw[AA8 hs hn]
  have hcl:Pure C1 88 [Bh s] (λy=>y=Bh s):=by
   cases s with
   |nil=>cases hn
   |cons x l=>exact SA x l (by omega)
  (conv=>whnf)
  refine AR rfl hb ?_;rintro y ⟨m,_,rfl⟩
  (conv=>whnf)
  (repeat' ((first|refine Aj ?_ ?_|refine Af rfl hcl ?_|refine nx ?_|refine AB (λ_=>?_) (λ_=>?_)|exact AE)<;>conv=>whnf))
  exact rfl
 ·rw[decide_eq_false hn]at hb
  (conv=>whnf)
  refine AR rfl hb ?_;rintro y ⟨m,⟨hm,h1,h2⟩,rfl⟩
  rw[AA9 hs hn h1 h2]
  have hcc:Pure C1 253 [.list 1 [.list 1 ((s.map dI).take m),.list 1 [.int .i64 n],.list 1 ((s.map dI).drop m)]] (λy=>y=Bh (s.take m++([n]++s.drop m))):=by
   have:=Y9 [s.take m,[n],s.drop m] (by simp) (by simp;omega)
   simp only[Ap,Bt,Cs,List.flatten_nil,Cq]at this
   rw[<-Fj,<-lO]
   exact this
  (conv=>whnf)
  (repeat' ((first|refine Aj ?_ ?_|refine upto_is rfl (show m<=(s.map dI).length by omega) ?_|refine TI m rfl (by omega) ?_|refine nx ?_|refine AB (λ_=>?_) (λ_=>?_)|exact AE)<;>conv=>whnf))
  refine Mp EM (G:=[]) (.frz 20 rfl (.refl _ _)) (.inl rfl) ?_
  (conv=>whnf)
  (repeat' ((first|refine Aj ?_ ?_|refine Dq 24 rfl ?_|refine Af rfl hcc ?_|refine nx ?_|refine AB (λ_=>?_) (λ_=>?_)|exact AE)<;>conv=>whnf))
  exact rfl
end Go.Proofs.YtjpmmkodoeipmaaGreatDoor
end
section
namespace Go.Proofs.YtjpmmkodoeipmaaGreatDoor
open Go.Sx Go.RowKit Go.Reg Go.Gr
set_option maxRecDepth 100000
def dN(s:List Int):Da:=if s=[]then .nils else Bh s
theorem ACq(x:Int)(s:List Int):dN (x::s)=Bh (x::s):=rfl
theorem ADZ(s:List Int):LaxA (dN s) (Bh s):=by
 cases s with
 |nil=>exact .nils 1
 |cons x s=>exact .refl _
theorem AES {s:List Int}(h:s≠[]):dN s=Bh s:=by unfold dN;rw[if_neg h]
theorem ACB(s:List Int)(n:Int):V5 s n≠[]:=λe=>by
 have:n∈V5 s n:=Qe.2 (.inl rfl)
 rw[e]at this;cases this
theorem Vq(s:List Int):dN s=.nils\/dN s=Bh s:=by unfold dN;split<;>simp
theorem aX(a b:List Int)(ha:a.length<=1000000000)(hb:b.length<=1000000000):Pure C1 188 [dN a,dN b] (λy=>y=.int .i64 ((a.length:Int)-b.length)):=by
 have hda:(a.map dI).length=a.length:=Ac _
 have hdb:(b.map dI).length=b.length:=Ac _
 refine Sx.Pure.lax (.cons (ADZ a) (.cons (ADZ b) .nil)) ?_
 refine AU Tryz.func188 Tryz.ntmps188 [] [] ?_
 ((conv=>whnf);repeat' ((first|refine odw ?_|refine nx ?_|refine AB (λ_=>?_) (λ_=>?_))<;>conv=>whnf))
 exact congrArg (Da.int .i64) (by omega)
set_option maxHeartbeats 4000000 in
theorem rN(l:List (List Int))(h0:l≠[])(hm:l.length<=1000)(hs:∀s∈l,s.length<=1000000000):Pure C1 187 [.list 1 (l.map dN),.func (.func 188) [] []] (λy=>∃s∈l,y=dN s/\∀t∈l,s.length<=t.length):=by
 have hdl:(l.map dN).length=l.length:=Ac _
 have hpos:0<l.length:=FV.2 h0
 have hx:=Ab hpos
 have hxm:=AZ hpos
 generalize l[0]=s0 at hx hxm
 have hxd:(l.map dN)[0]? =some (dN s0):=by rw[Ad,hx];rfl
 refine AU Tryz.func187 Tryz.ntmps187 [] [] ?_
 have hstart:∃z,z=dN s0/\(z=.nils\/z=Bh s0):=⟨_,rfl,Vq s0⟩
 obtain⟨z,hz,hzo⟩:=hstart
 rw[<-hz]at hxd
 rcases hzo with rfl|rfl<;>(conv=>whnf)<;>(repeat' ((first|refine Aj ?_ ?_|refine AO hxd rfl ?_|refine nx ?_|refine AB (λ_=>?_) (λ_=>?_)|exact AE)<;>conv=>whnf))
 all_goals
  refine AQ (ι:=Nat×List Int×Da) (λx=>(1<=x.1/\x.1<=l.length)/\x.2.2=dN x.2.1/\x.2.1∈l/\∀k t,k<x.1->l[k]? =some t->x.2.1.length<=t.length) (λx=>[(6,.d (.int .i64 x.1)),(5,.d x.2.2),(1,.d (.func (.func 188) [] [])),(0,.d (.list 1 (l.map dN)))]) (λ_=>[]) (λx=>l.length-x.1) (1,s0,_) (λ_=>rfl) ⟨⟨Ay _,hpos⟩,hz,hxm,λk t hk ht=>by rw[show k=0 by omega,hx]at ht;cases ht;exact Ay _⟩ (.refl _ _) ⟨rfl,rfl,rfl,rfl,trivial⟩ trivial ?_
  rintro⟨i,s,d⟩ ⟨⟨h1,h2⟩,hd,hsm,hle⟩
  dsimp only at h1 h2 hd hsm hle
  refine Ca [] [] ?_
  by_cases hlt:i<l.length
  ·have hy:=Ab hlt
   have hym:=AZ hlt
   generalize l[i]=x at hy hym
   have hyd:(l.map dN)[i]? =some (dN x):=by rw[Ad,hy];rfl
   have hc:=aX x s (hs x hym) (hs s hsm)
   have hst:∀z,(∀k t,k<i->l[k]? =some t->z<=t.length)->z<=x.length->∀k t,k<i+1->l[k]? =some t->z<=t.length:=by
    intro z hz hzx k t hk ht
    rcases BN k i with h|h
    ·exact hz k t h ht
    ·rw[show k=i by omega,hy]at ht;cases ht;exact hzx
   have hsx:=Vq s
   have hxx:=Vq x
   rw[<-hd]at hc hsx
   generalize hX:dN x=xd at hyd hc hxx
   by_cases hxs:x.length<s.length
   ·have hneg:(x.length:Int)-s.length<0:=by omega
    rcases hsx with rfl|rfl<;>rcases hxx with rfl|rfl<;>(conv=>whnf)<;>(repeat' ((first|refine Aj ?_ ?_|refine AO hyd rfl ?_|refine Af rfl hc ?_|refine nx ?_|refine AB (λ_=>?_) (λ_=>?_)|exact AE)<;>conv=>whnf))
    all_goals exact⟨(i+1,x,_),_,_,⟨⟨by dsimp only;omega,hlt⟩,hX.symm,hym,hst _ (λk t hk ht=>BI (Nat.le_of_lt hxs) (hle k t hk ht)) (Ay _)⟩,.refl _ _,⟨rfl,rfl,rfl,rfl,trivial⟩,trivial,by dsimp only;omega⟩
   ·rcases hsx with rfl|rfl<;>rcases hxx with rfl|rfl<;>(conv=>whnf)<;>(repeat' ((first|refine Aj ?_ ?_|refine AO hyd rfl ?_|refine Af rfl hc ?_|refine nx ?_|refine AB (λ_=>?_) (λ_=>?_)|exact AE)<;>conv=>whnf))
    all_goals exact⟨(i+1,s,_),_,_,⟨⟨by dsimp only;omega,hlt⟩,hd,hsm,hst s.length hle (by omega)⟩,.refl _ _,⟨rfl,rfl,rfl,rfl,trivial⟩,trivial,by dsimp only;omega⟩
  ·have hsx:=Vq s
   rw[<-hd]at hsx
   rcases hsx with rfl|rfl<;>((conv=>whnf);repeat' ((first|refine odw ?_|refine nx ?_|refine AB (λ_=>?_) (λ_=>?_))<;>conv=>whnf))
   all_goals
    refine⟨s,hsm,hd,λt ht=>?_⟩
    obtain⟨k,hk⟩:=EV.1 ht
    have:=(Ae.1 hk).1
    exact hle k t (by omega) hk
def AFv:List FuncId:=[187]
theorem jF(l:List (List Int))(h0:l≠[])(hm:l.length<=1000)(hs:∀s∈l,s.length<=1000000000):Pure C1 128 [.list 1 (l.map dN)] (λy=>y=.int .i64 (OT l:Nat)):=by
 have hdl:(l.map dN).length=l.length:=Ac _
 have hpos:0<l.length:=FV.2 h0
 refine AU Tryz.func128 Tryz.ntmps128 AFv [] ?_
 ((conv=>whnf);repeat' ((first|refine odw ?_|refine nx ?_|refine AB (λ_=>?_) (λ_=>?_))<;>conv=>whnf))
 refine AR rfl (rN l h0 hm hs) ?_;rintro y ⟨s,hsm,rfl,hle⟩
 rw[rX hsm hle]
 cases s with
 |
  nil=>
  rw[show dN []=Da.nils from rfl]
  ((conv=>whnf);repeat' ((first|refine odw ?_|refine nx ?_|refine AB (λ_=>?_) (λ_=>?_))<;>conv=>whnf))
  exact rfl
 |
  cons x s=>
  have hds:((x::s).map dI).length=(x::s).length:=Ac _
  rw[ACq]
  ((conv=>whnf);repeat' ((first|refine odw ?_|refine nx ?_|refine AB (λ_=>?_) (λ_=>?_))<;>conv=>whnf))
  exact congrArg (Da.int .i64) (by omega)
def AFu:List FuncId:=[113,20]
theorem aF {p:Pt}(hp:Dk p=none)(h0:p.labels≠[])(hm:p.labels.length<=1000)(hme:p.edges.length<=1000):Pure C1 183 [FC p] (λy=>y=.nili):=by
 have hdl:(p.labels.map dI).length=p.labels.length:=Ac _
 have hpos:0<p.labels.length:=FV.2 h0
 have hr:=EK p (by omega) (by omega)
 rw[Fm hp]at hr
 refine AU Tryz.func183 Tryz.ntmps183 AFu [] ?_
 (conv=>whnf)
 (repeat' ((first|refine Aj ?_ ?_|refine Af rfl hr ?_|refine nx ?_|refine AB (λ_=>?_) (λ_=>?_)|exact AE)<;>conv=>whnf))
 exact rfl
theorem vX(s:List Int)(hs:s.Pairwise (· < ·))(hl:s.length<=1000000000)(n:Int):Pure C1 186 [dN s,.int .i64 n] (λy=>y=Bh (V5 s n)):=
 Sx.Pure.lax (.cons (ADZ s) (.cons (.refl _) .nil)) (pR s hs hl n)
end Go.Proofs.YtjpmmkodoeipmaaGreatDoor
end
section
namespace Go.Proofs.YtjpmmkodoeipmaaGreatDoor
open Go.Sx Go.RowKit Go.Reg Go.Gr
set_option maxRecDepth 100000
theorem dR(s:List Int)(hl:s.length<=1000000000):Pure C1 88 [dN s] (λy=>y=dN s):=by
 cases s with
 |cons x s=>exact SA x s (by omega)
 |
  nil=>
  show Pure C1 _ [.nils] (λy=>y=.nils)
  refine AU Tryz.func88 Tryz.ntmps88 QG Mj ?_
  ((conv=>whnf);repeat' ((first|refine odw ?_|refine nx ?_|refine AB (λ_=>?_) (λ_=>?_))<;>conv=>whnf))
  all_goals exact rfl
def dD(p:Pt)(O S:List (List Int)):Da:=.ref (.agg [FC p,dLL O,.list 1 (S.map dN)])
def ADw:List FuncId:=[88]
theorem kO(p:Pt)(O S:List (List Int))(h0:S≠[])(hm:S.length<=1000)(hs:∀s∈S,s.length<=1000000000):Pure C1 129 [dD p O S] (λy=>y=.list 1 (S.map dN)):=by
 have hdS:(S.map dN).length=S.length:=Ac _
 have hpos:0<S.length:=FV.2 h0
 refine AU Tryz.func129 Tryz.ntmps129 ADw [] ?_
 ((conv=>whnf);repeat' ((first|refine odw ?_|refine nx ?_|refine AB (λ_=>?_) (λ_=>?_))<;>conv=>whnf))
 refine AQ (ι:=Nat) (λi=>i<=S.length) (λi=>[(13,.d (.int .i64 i)),(12,.d (.int .i64 S.length)),(11,.d (.list 1 (S.map dN))),(3,.own 300)]) (λi=>[(300,.slice 22 1 ((S.take i).map dN))]) (λi=>S.length-i) 0 (λ_=>rfl) (Am _) (.own 3 300 22 1 rfl rfl (.refl _ _)) ⟨rfl,by rw[<-hdS];rfl,rfl,rfl,trivial⟩ ⟨rfl,trivial⟩ ?_
 intro i hi
 refine Ca ADw [] ?_
 by_cases hil:i<S.length
 ·have hx:=Ab hil
  have hxm:=AZ hil
  generalize S[i]=x at hx hxm
  have hcl:=dR x (hs x hxm)
  have hxd:(S.map dN)[i]? =some (dN x):=by rw[Ad,hx];rfl
  have hfin:(S.take i).map dN++[dN x]=(S.take (i+1)).map dN:=by rw[Au,hx,A7];rfl
  have htl:((S.take i).map dN).length=i:=by rw[Ac,A8];omega
  generalize (S.take i).map dN=Z at htl hfin⊢
  have hxx:=Vq x
  generalize dN x=xd at hcl hxd hfin hxx
  rcases hxx with rfl|rfl<;>(conv=>whnf)<;>(repeat' ((first|refine Aj ?_ ?_|refine AO hxd rfl ?_|refine Af rfl hcl ?_|refine nx ?_|refine AB (λ_=>?_) (λ_=>?_)|exact AE)<;>conv=>whnf))
  all_goals exact⟨i+1,_,_,hil,.refl _ _,⟨rfl,rfl,rfl,rfl,trivial⟩,⟨Bj hfin,trivial⟩,by omega⟩
 ·rw[Ak (show S.length<=i by omega)]
  ((conv=>whnf);repeat' ((first|refine odw ?_|refine nx ?_|refine AB (λ_=>?_) (λ_=>?_))<;>conv=>whnf))
  exact rfl
def AF5:List FuncId:=[129,128]
theorem VQ(p:Pt)(O S:List (List Int))(h0:S≠[])(hm:S.length<=1000)(hs:∀s∈S,s.length<=1000000000):Pure C1 75 [dD p O S] (λy=>y=.int .i64 (OT S:Nat)):=by
 have h1:=kO p O S h0 hm hs
 have h2:=jF S h0 hm hs
 refine AU Tryz.func75 Tryz.ntmps75 AF5 [] ?_
 (conv=>whnf)
 (repeat' ((first|refine Aj ?_ ?_|refine Af rfl h1 ?_|refine Af rfl h2 ?_|refine nx ?_|refine AB (λ_=>?_) (λ_=>?_)|exact AE)<;>conv=>whnf))
 exact rfl
end Go.Proofs.YtjpmmkodoeipmaaGreatDoor
end
section
namespace Go.Proofs.YtjpmmkodoeipmaaGreatDoor
open Go.Sx Go.RowKit Go.Reg Go.Gr
set_option maxRecDepth 100000
attribute [local go_sem] Oper.semAt_some
def nG(p q:Pt):Da:=.func (.func 279) [] [.ref (FC p),.ref (FC q)]
theorem rR(p q:Pt):Pure C1 251 [FC p,FC q] (λy=>y=nG p q):=by
 refine AU Tryz.func251 Tryz.ntmps251 [] [] ?_
 ((conv=>whnf);repeat' ((first|refine odw ?_|refine nx ?_|refine AB (λ_=>?_) (λ_=>?_))<;>conv=>whnf))
 exact rfl
theorem Z7 {p:Pt}(hp:Dk p=none)(hE:p.edges.length<=1000)(n:Nat) {O:List Nat} {W:World} {v:Value}(hO:∀b∈O,b<W.heap.size)(hg:Glob C1 O W)(hv:Rep O W (FC p) v):
  CallsIn Fence.wide n Tryz.prog 113 #[v] W λe B=>e=.returned .nilIface/\Tch [] W B:=by
 have hri:=EK p (by have:=(CQ (BK hp).1).1;omega) (by omega)
 rw[Fm hp]at hri
 refine(Pure.at' hri n hO hg (reps_cons hv reps_nil)).mono ?_
 rintro e B ⟨u,y,rfl,rfl,⟨cs,hcs,rfl⟩,t⟩
 simp only[RepC]at hcs
 subst hcs
 exact⟨rfl,t⟩
theorem ABk {p:Pt}(hp:Dk p=none)(hE:p.edges.length<=1000) {x:List Int}(hx:C6 p.labels.length x)(n:Nat) {O:List Nat} {W:World} {v u:Value}(hO:∀b∈O,b<W.heap.size)(hg:Glob C1 O W)(hv:Rep O W (FC p) v)(hu:Rep O W (DU x) u):
  CallsIn Fence.wide n Tryz.prog 226 #[v,u] W λe B=>∃d1 m1 d2 m2,e=.returned (.tuple #[.agg #[.slice d1 (Bl p x).labels.length m1,.slice d2 (Bl p x).edges.length m2],.nilIface])/\Rep O B (FC (Bl p x)) (.agg #[.slice d1 (Bl p x).labels.length m1,.slice d2 (Bl p x).edges.length m2])/\Tch [] W B:=by
 have h8:=(CQ (BK hp).1).1
 refine(Pure.at' (Uo p hp hE x ((Yc (by rw[hx.1];omega)).2 (by rw[hx.1];exact hx)) hx.1) n hO hg (reps_cons hv (reps_cons hu reps_nil))).mono ?_
 rintro e B ⟨u,y,rfl,rfl,hu,t⟩
 obtain⟨d1,m1,d2,m2,rfl,h⟩:=Um hu
 exact⟨d1,m1,d2,m2,rfl,h,t⟩
theorem AEm {p q:Pt}(h1:p.labels.length<=1000)(h2:q.labels.length<=1000)(h3:p.edges.length<=1000)(h4:q.edges.length<=1000)(n:Nat) {O:List Nat} {W:World} {v u:Value}(hO:∀b∈O,b<W.heap.size)(hg:Glob C1 O W)(hv:Rep O W (FC p) v)(hu:Rep O W (FC q) u):
  CallsIn Fence.wide n Tryz.prog 10 #[v,u] W λe B=>e=.returned (.int .i64 (D4 p q))/\Tch [] W B:=by
 refine(Pure.at' (Hl p q (by omega) (by omega) (by omega) (by omega)) n hO hg (reps_cons hv (reps_cons hu reps_nil))).mono ?_
 rintro e B ⟨u,y,rfl,rfl,⟨cs,hcs,rfl⟩,t⟩
 simp only[RepC]at hcs
 subst hcs
 exact⟨rfl,t⟩
theorem wL {O:List Nat} {W:World} {p:Pt} {c:List Value}(h:∃b o c',c=[Value.pointer (some ⟨b,o,none⟩)]/\b∉O/\b<W.heap.size/\RepC O W (FC p) c'/\Fs W b o c'):
  ∃b o a1 c1 a2 c2,c=[Value.pointer (some ⟨b,o,none⟩)]/\b∉O/\b<W.heap.size/\W.cell? ⟨b,o,none⟩=some (.slice a1 p.labels.length c1)/\W.cell? ⟨b,o+1,none⟩=some (.slice a2 p.edges.length c2)/\
   Rep O W (FC p) (.agg #[.slice a1 p.labels.length c1,.slice a2 p.edges.length c2])/\Rep O W (Bh p.labels) (.slice a1 p.labels.length c1):=by
 obtain⟨b,o,c',rfl,hb,hbl,hr,hc⟩:=h
 have hr':=hr
 simp only[FC,RepC,RepCs]at hr
 obtain⟨k1,k2,rfl,r1,k3,k4,rfl,r2,rfl⟩:=hr
 obtain⟨a1,c1,rfl,g1,_⟩:=Hj r1
 obtain⟨a2,c2,rfl,g2,_⟩:=Hj r2
 rw[Ac]at g1 g2
 have e1:=hc 0 _ rfl
 have e2:=hc 1 _ rfl
 rw[Ac]at e1 e2
 refine⟨b,o,a1,c1,a2,c2,rfl,hb,hbl,e1,e2,⟨_,hr',?_⟩,g1⟩
 rw[Ac,Ac];rfl
theorem gM {n m l l':Nat} {P:Program} {f:FuncId} {tmps:Array Value} {assign body:Code} {w:World} {R:Ending->World->Prop}(h:RoundIn Fence.wide n P l f tmps assign body w R):RoundIn (Fence.wide.inRound l') m P l f tmps assign body w R:=
 ⟨trivial,λc cs _=>h.2 c cs (room_wide _)⟩
theorem aP {p q:Pt}(h:p.labels.length≠q.labels.length):Es p q=[]:=by
 unfold Es
 rw[AAL]
 intro o _ hd
 have:=(Ij.eq0 _ _).1 (of_decide_eq_true hd)
 exact h (by rw[<-this,EY])
set_option maxHeartbeats 1000000 in
theorem yX {p q:Pt}(hp:Dk p=none)(hq:Dk q=none)(hE:p.edges.length<=1000)(hE':q.edges.length<=1000) {O:List Nat} {l:Nat} {W:World} {fv:Value}(hO:∀b∈O,b<W.heap.size)(hg:Glob C1 O W)(hr:Rep O W (nG p q) fv):
  oI C1 fv (Es p q) O l W:=by
 obtain⟨cs,r,rfl⟩:=hr
 rw[nG,RepC]at r
 simp only[Aq]at r
 obtain⟨fs,cs',rfl,⟨k1,k2,rfl,r1,k3,k4,rfl,r2,rfl⟩,rfl⟩:=r
 rw[RepC]at r1 r2
 obtain⟨b1,o1,a1,c1,a2,c2,rfl,hb1,hs1,e1,e1',rp,rp1⟩:=wL r1
 obtain⟨b2,o2,a3,c3,a4,c4,rfl,hb2,hs2,e2,e2',rq,rq1⟩:=wL r2
 refine⟨279,#[.pointer (some ⟨b1,o1,none⟩),.pointer (some ⟨b2,o2,none⟩)],rfl,λ_ _=>rfl,?_⟩
 intro J Jx hJ hJx hY hj
 show CallsIn Fence.wide 3 Tryz.prog 279 _ W _
 refine callsIn_of_wp_marks (n:=3) Tryz.func279 rfl trivial ?_ rfl
 simp only[Tryz.ntmps279,BD,Ax,Br,Nat.reduceAdd,Nat.reduceSub,CW,CV,DA,Dg,BC,AV]
 have T0:Tch [] W (W.alloc (Obj.cells #[Value.func (.yield l) #[] #[]] 170)):=Tch.alloc _ _ _
 gi_wp2
 refine⟨trivial,(Z7 hp hE 2 (Gh (Tch.up T0) hO) (Hp (Tch.up T0) hg) (DL (Tch.up T0) rp)).mono ?_⟩
 rintro e W1 ⟨rfl,T1⟩
 have T01:=T0.then0 T1
 have f1:=T01.cell e1 (by simp)
 have f1':=T01.cell e1' (by simp)
 have f2:=T01.cell e2 (by simp)
 have f2':=T01.cell e2' (by simp)
 have B3:=BU T1 (World.alloc_heap_new W (Obj.cells #[Value.func (.yield l) #[] #[]] 170))
 clear T0 T1
 gi_wp2
 refine⟨trivial,(Z7 hq hE' 2 (Gh (Tch.up T01) hO) (Hp (Tch.up T01) hg) (DL (Tch.up T01) rq)).mono ?_⟩
 rintro e W2 ⟨rfl,T2⟩
 have T02:=T01.then0 T2
 have B3:=BU T2 B3
 clear f1 f1' f2 f2' T2 T01
 have f1:=T02.cell e1 (by simp)
 have f1':=T02.cell e1' (by simp)
 have f2:=T02.cell e2 (by simp)
 have f2':=T02.cell e2' (by simp)
 by_cases hl:p.labels.length=q.labels.length
 ·have hl2:((p.labels.length:Int) !=(q.labels.length:Int))=false:=by simp[hl]
  have HL:=FW hl
  clear hl
  gi_wp2
  have hOr:=Pure.at' (Sp p q.labels) 2 (Gh (Tch.up T02) hO) (Hp (Tch.up T02) hg) (reps_cons (DL (Tch.up T02) rp) (reps_cons (DL (Tch.up T02) rq1) reps_nil))
  refine⟨trivial,hOr.mono ?_⟩
  rintro e W3 ⟨u7,y,rfl,rfl,hu7,T3⟩
  have T03:=T02.then0 T3
  have B3:=BU T3 B3
  clear f1 f1' f2 f2' T3 T02 hOr
  obtain⟨b3,hb3⟩:∃b,W.heap.size=b:=⟨_,rfl⟩
  rw[hb3]at B3
  simp only[hb3]
  have hb3lt:=(Al.1 B3).1
  have hO3:=Gh (Tch.up T03) hO
  have hg3:=Hp (Tch.up (O:=O) T03) hg
  have rp3:=DL (Tch.up (O:=O) T03) rp
  have rq3:=DL (Tch.up (O:=O) T03) rq
  have h8:=(CQ (BK hp).1).1
  have h8':=(CQ (BK hq).1).1
  gi_wp2
  refine Tn (C:=C1) (GN p.labels q.labels p.labels.length []) O hO3 rfl (λV t hs=>?_) (λR S pre A=>((∀b∈S,b∈O\/W3.heap.size<=b)/\Tch (O++R) W3 A)/\J R S (pre.filter λo=>decide (D4 (Bl p o) q=0)) A) (λR S pre A=>((∀b∈S,b∈O\/W3.heap.size<=b)/\Tch (O++R) W3 A)/\∃pre',pre'<+:Es p q/\Jx R S pre' A)
   (λR S pre A B hR h t=>⟨⟨h.1.1,h.1.2.trans0 (t.mono (by simp+contextual))⟩,hJ _ _ _ _ _ (λr hr=>by have:=hR r hr;have:=T03.size;omega) h.2 t⟩)
   (λR S pre A B hR h t=>⟨⟨h.1.1,h.1.2.trans0 (t.mono (by simp+contextual))⟩,h.2.imp λpre' h'=>⟨h'.1,hJx _ _ _ _ _ (λr hr=>by have:=hR r hr;have:=T03.size;omega) h'.2 t⟩⟩)
   (λR V hR t=>⟨⟨λb hb=>.inl hb,t.mono (by simp)⟩,hJ _ _ _ _ _ (λr hr=>by have:=hR r hr;have:=T03.size;omega) (hj R (λr hr=>by have:=hR r hr;have:=T03.size;omega)) ((T03.then0 t).mono (by simp))⟩) ?_ ?_ ?_
  ·have LW:Later O W3 (W3.heap.size::(W3.heap.size+1)::O) V:=N7 t (λx hx=>by
    rcases Ai.1 hx with rfl|hx
    ·left;omega
    rcases Ai.1 hx with rfl|hx
    ·left;omega
    ·exact .inr hx)
   exact Uw h8 h8' (λb hb=>by
    rcases Ai.1 hb with rfl|hb
    ·omega
    rcases Ai.1 hb with rfl|hb
    ·omega
    ·have:=hO3 b hb;omega) (Gd LW hg3) (hu7.later LW)
  ·intro l' R S pre x v A hl hlR hR hSA hSR hI hpx hrep hsz hRA
   rw[show C1.P=Tryz.prog from rfl]
   obtain⟨av,cv,rfl,_,_⟩:=Dx hrep
   gi_wp2
   refine⟨Tch.refl _ _,λA2 TA2=>?_⟩
   have hR':∀r∈R,W.heap.size<=r:=λr hr=>by have:=hR r hr;have:=T03.size;omega
   have hSn:=hI.1.1
   have hSA2:∀b∈S,b<A2.heap.size:=λb hb=>Bv (hSA b hb) TA2.size
   have TA:Tch (O++R) W3 A2:=hI.1.2.trans0 (TA2.mono (by simp[hlR]))
   have hJ2:=hJ _ _ _ _ _ hR' hI.2 (TA2.mono (T:=R) (by simpa using hlR))
   have hrep2:=DL (TA2.mono (T:=S++R) (by simp[hlR])) hrep
   have hRA2:∀r∈R,r<A2.heap.size:=λr hr=>Bv (hRA r hr) TA2.size
   clear hI hrep hRA TA2 hsz hSA
   have nOR:∀b,b∉O->b<W3.heap.size->b∉O++R:=λb h1 h2 hm=>by
    rcases Ag.1 hm with hm|hm
    ·exact h1 hm
    ·have:=hR b hm;omega
   have hs03:=T03.size
   have n1:=nOR b1 hb1 (by omega)
   have n2:=nOR b2 hb2 (by omega)
   have n3:=nOR b3 (λhm=>by have:=hO b3 hm;omega) hb3lt
   have LA:Later O W3 (S++R) A2:=⟨TA.size,λb hb hn=>TA.blk b hb (nOR b hn hb),λb hn hb hm=>by
    rcases Ag.1 hm with hm|hm
    ·rcases hSn b hm with h|h
     ·exact hn h
     ·omega
    ·have:=hR b hm;omega⟩
   have hOA:∀b∈S++R,b<A2.heap.size:=λb hb=>by
    rcases Ag.1 hb with hb|hb
    ·exact hSA2 b hb
    ·exact hRA2 b hb
   have f1:=TA.cell (T03.cell e1 (by simp)) n1
   have f1':=TA.cell (T03.cell e1' (by simp)) n1
   have f2:=TA.cell (T03.cell e2 (by simp)) n2
   have f2':=TA.cell (T03.cell e2' (by simp)) n2
   have C3:=Ho TA B3 n3
   have hxm:x∈GN p.labels q.labels p.labels.length []:=hpx.subset (by simp)
   have hord:=((Mx (n:=p.labels.length) HL.out.symm).1 hxm).1
   have hpo:PtOk p.labels.length p:=⟨rfl,(BK hp).2.1,(BK hp).2.2⟩
   gi_wp2
   refine⟨trivial,(CallsIn.inRound l' (ABk hp hE hord 1 hOA (Gd LA hg3) (rp3.later LA) hrep2)).mono ?_⟩
   rintro e A3 ⟨d1,m1,d2,m2,rfl,huT,TT⟩
   have TT4:Tch [] A2 (A3.alloc (Obj.cells #[Value.slice d1 (Bl p x).labels.length m1,Value.slice d2 (Bl p x).edges.length m2] 54)):=TT.andAlloc _
   have G10:=World.alloc_heap_new A3 (Obj.cells #[Value.slice d1 (Bl p x).labels.length m1,Value.slice d2 (Bl p x).edges.length m2] 54)
   have E10:(A3.alloc (Obj.cells #[Value.slice d1 (Bl p x).labels.length m1,Value.slice d2 (Bl p x).edges.length m2] 54)).cell? ⟨A3.heap.size,0,none⟩=some (Value.slice d1 (Bl p x).labels.length m1):=by simp only[World.cell?,G10];rfl
   have E10':(A3.alloc (Obj.cells #[Value.slice d1 (Bl p x).labels.length m1,Value.slice d2 (Bl p x).edges.length m2] 54)).cell? ⟨A3.heap.size,1,none⟩=some (Value.slice d2 (Bl p x).edges.length m2):=by simp only[World.cell?,G10];rfl
   have f2:=TT4.cell f2 (by simp)
   have f2':=TT4.cell f2' (by simp)
   have C3:=BU TT4 C3
   gi_wp2
   refine⟨trivial,(CallsIn.inRound l' (AEm (p:=Bl p x) (q:=q) (by rw[EY];omega) (by omega) (by rw[Hg hord hpo];exact hE) hE' 1 (Gh (Tch.up TT4) hOA) (Hp (Tch.up TT4) (Gd LA hg3)) (DL (Tch.up (Tch.alloc _ _ _)) huT) (DL (Tch.up TT4) (rq3.later LA)))).mono ?_⟩
   rintro e A5 ⟨rfl,T5⟩
   have T25:=TT4.then0 T5
   have C3:=BU T5 C3
   have c3:A5.cell? ⟨b3,0,none⟩=some (Value.func (.yield l) #[] #[]):=by simp only[World.cell?,C3];rfl
   clear G10 E10 E10' f1 f1' f2 f2' T5 TT
   by_cases heq:D4 (Bl p x) q=0
   ·have heq2:(D4 (Bl p x) q==0)=true:=by simpa using heq
    have hfl:(pre++[x]).filter (λo=>decide (D4 (Bl p o) q=0))=pre.filter (λo=>decide (D4 (Bl p o) q=0))++[x]:=by rw[Cd];simp[heq]
    have hpm:pre.filter (λo=>decide (D4 (Bl p o) q=0))++[x]<+:Es p q:=by rw[<-hfl];exact hpx.filter _
    have hYA:YieldAt Fence.wide 2 Tryz.prog l #[Value.slice av x.length cv] A5 _:=hY R S _ x _ A5 hR' (λb hb=>Bv (hSA2 b hb) T25.size) (hJ _ _ _ _ _ hR' hJ2 (T25.mono (by simp))) hpm (DL (Tch.up T25) hrep2) ⟨by have:=TA.size;have:=T25.size;omega,λr hr=>Bv (hRA2 r hr) T25.size⟩
    obtain⟨fn,tmps,assign,body,hy,hRd⟩:=hYA
    gi_wp2
    refine(gM hRd).mono ?_
    rintro e B ⟨S',hg2,hor⟩
    have TB:Tch (O++R) W3 B:=(TA.then0 T25).trans hg2.tch (λ_ h=>h) (λb hb=>(hSn b hb).imp (λh=>Av _ h) id)
    have hSn':∀b∈S',b∈O\/W3.heap.size<=b:=λb hb=>(hg2.new b hb).elim (λh=>hSn b h) (λh=>.inr (by have:=TA.size;have:=T25.size;omega))
    have hgr:Grow S A2 S' B:=(Grow.same (Tch.up T25) hSA2).trans hg2
    rcases hor with⟨rfl,hj2⟩|⟨rfl,hx2⟩
    ·gi_wp2
     have hres:((∀b∈S',b∈O\/W3.heap.size<=b)/\Tch (O++R) W3 B)/\J R S' ((pre++[x]).filter λo=>decide (D4 (Bl p o) q=0)) B:=⟨⟨hSn',TB⟩,by rw[hfl];exact hj2⟩
     exact⟨S',hgr,hres⟩
    ·gi_wp2
     have hres:((∀b∈S',b∈O\/W3.heap.size<=b)/\Tch (O++R) W3 B)/\∃pre',pre'<+:Es p q/\Jx R S' pre' B:=⟨⟨hSn',TB⟩,_,hpm,hx2⟩
     exact⟨S',hgr,hres⟩
   ·have heq2:(D4 (Bl p x) q==0)=false:=by simpa using heq
    have hfl:(pre++[x]).filter (λo=>decide (D4 (Bl p o) q=0))=pre.filter (λo=>decide (D4 (Bl p o) q=0)):=by rw[Cd];simp[heq]
    gi_wp2
    refine⟨(λf hf=>by cases hf),?_⟩
    gi_wp2
    have hres:((∀b∈S,b∈O\/W3.heap.size<=b)/\Tch (O++R) W3 A5)/\J R S ((pre++[x]).filter λo=>decide (D4 (Bl p o) q=0)) A5:=⟨⟨hSn,TA.then0 T25⟩,by rw[hfl];exact hJ _ _ _ _ _ hR' hJ2 (T25.mono (by simp))⟩
    exact⟨S,Grow.same (Tch.up T25) hSA2,hres⟩
  ·intro D R S V hD hDR hR hSR hI ht hDef
   have hR':∀r∈R,W.heap.size<=r:=λr hr=>by have:=hR r hr;have:=T03.size;omega
   have TP:Tch (O++R) V (V.putObj D (.deferred none)):=(DE _ _ _).mono (by simp[hDR])
   gi_wp2
   refine⟨by simp,.inl ⟨D,_,rfl,run_takeDeferred hDef,?_⟩⟩
   exact⟨_,results_none rfl _ _ _,⟨_,rfl⟩,R,S,hR',(T03.ahead0 hI.1.2).trans0 TP,λb hb=>(hI.1.1 b hb).imp id (λh=>by have:=T03.size;omega),.inl (hJ _ _ _ _ _ hR' hI.2 ((DE _ _ _).mono (by simp[hDR])))⟩
  ·intro D R S pre V hD hDR hR hSR hpre hI ht hDef
   have hR':∀r∈R,W.heap.size<=r:=λr hr=>by have:=hR r hr;have:=T03.size;omega
   have TP:Tch (O++R) V (V.putObj D (.deferred none)):=(DE _ _ _).mono (by simp[hDR])
   gi_wp2
   refine⟨by simp,.inl ⟨D,_,rfl,run_takeDeferred hDef,?_⟩⟩
   obtain⟨pre',h1,h2⟩:=hI.2
   exact⟨_,results_none rfl _ _ _,⟨_,rfl⟩,R,S,hR',(T03.ahead0 hI.1.2).trans0 TP,λb hb=>(hI.1.1 b hb).imp id (λh=>by have:=T03.size;omega),.inr ⟨pre',h1,hJx _ _ _ _ _ hR' h2 ((DE _ _ _).mono (by simp[hDR]))⟩⟩
 ·have hl2:((p.labels.length:Int) !=(q.labels.length:Int))=true:=by simp;omega
  gi_wp2
  exact⟨_,results_none rfl _ _ _,⟨_,rfl⟩,[],O,by simp,Tch.up T02,λb hb=>.inl hb,.inl (by rw[aP hl];exact hJ [] O [] W W2 (by simp) (hj [] (by simp)) T02)⟩
end Go.Proofs.YtjpmmkodoeipmaaGreatDoor
end
