/- Merged: Frm Pid Afo. -/
import Derived.Test.YtjejpdfldmempaaGreatDooragay
import Derived.Test.YtjejpdfldmempaaGreatDooragaw
import Derived.Test.YtjejpdfldmempaaGreatDooragax
import Derived.RangeFuncBox
import Derived.RangeFuncLeaves
import Derived.RangeFuncCalls
import Derived.Test.YtjejpdfldmempaaGreatDooragau
import Derived.Test.YtjejpdfldmempaaGreatDooragav
section
namespace Go.Proofs.YtjejpdfldmempaaGreatDoor
open Go.Sx Go.RowKit Go.Reg Go.Gr
set_option maxRecDepth 100000
attribute [local go_sem] Oper.semAt_some
theorem PT(p:Pt)(labels:List Int):Pure C1 159 [Fv p,D1 labels] (λy=>y=OG p labels):=by
 refine CI Tryz.func159 Tryz.ntmps159 [] [] ?_
 ((conv=>whnf);repeat' ((first|refine odw ?_|refine nx ?_|refine AX (λ_=>?_) (λ_=>?_))<;>conv=>whnf))
 exact rfl
theorem Jj {O:List Nat} {w:World} {k:Nat} {ds:List Da} {cs:List Value}(h:RepC O w (.list k ds) cs):∃a c,cs=[.slice a ds.length c]/\Rep O w (.list k ds) (.slice a ds.length c)/\ds.length<=c/\c<=maxLen:=by
 have h':=h
 simp only[RepC]at h
 obtain⟨a,c,css,rfl,h1,h2,_⟩:=h
 exact⟨a,c,rfl,⟨_,h',rfl⟩,h1,h2⟩
theorem O7 {O:List Nat} {w:World} {p:Pt} {v:Value}(h:Rep O w (Fv p) v):∃a1 c1 a2 c2,v=.agg #[.slice a1 p.labels.length c1,.slice a2 p.edges.length c2]/\Rep O w (D1 p.labels) (.slice a1 p.labels.length c1)/\Rep O w (Ip p.edges) (.slice a2 p.edges.length c2):=by
 obtain⟨cs,r,rfl⟩:=h
 simp only[Fv,RepC,RepCs]at r
 obtain⟨k1,k2,rfl,r1,k3,k4,rfl,r2,rfl⟩:=r
 obtain⟨a1,c1,rfl,g1,_⟩:=Jj r1
 obtain⟨a2,c2,rfl,g2,_⟩:=Jj r2
 rw[Ac]at g1 g2
 exact⟨a1,c1,a2,c2,by rw[Ac,Ac];rfl,g1,g2⟩
theorem Pure.at' {C:Cx} {f:FuncId} {xs:List Da} {Q:Da->Prop}(h:Pure C f xs Q)(n:Nat) {O:List Nat} {W:World} {us:List Value}(hO:∀b∈O,b<W.heap.size)(hg:Glob C O W)(hr:HM O W xs us):
  CallsIn Fence.wide n C.P f us.toArray W λe B=>∃u y,e=.returned u/\Q y/\Rep O B y u/\Tch [] W B:=callsIn_wide.2 (h O W us hO hg hr).2
theorem Tch.up {O:List Nat} {A B:World}(h:Tch [] A B):Tch O A B:=h.mono (by simp)
theorem Bd {A B:World}(h:Tch [] A B) {b:Nat} {o:Obj}(hb:A.heap[b]? =some o):B.heap[b]? =some o:=by
 rw[h.blk b (Ae.1 hb).1 (by simp)];exact hb
theorem NN {O X:List Nat} {w W:World}(t:Tch [] w W)(hX:∀x∈X,w.heap.size<=x\/x∈O):Later O w X W:=
 ⟨t.size,λb hb _=>t.blk b hb (by simp),λb hn hb hm=>(hX b hm).elim (λh=>by omega) hn⟩
theorem GL {C:Cx} {O X:List Nat} {A B:World}(h:Later O A X B)(r:Glob C O A):Glob C X B:=λg hg=>(r g hg).later h
def SU(p:Pt)(b6 b7 b8:Nat)(O:List Nat)(W0:World)(R:List Nat)(pre:List (List Int))(W:World):Prop:=
 Tch ([b6,b7,b8]++R) W0 W/\match pre.foldl (FW p) none with
  |none=>W.heap[b6]? =some (Obj.cells #[Value.slice none 0 0,Value.slice none 0 0] 31)/\W.heap[b7]? =some (Obj.cells #[Value.slice none 0 0] 28)/\W.heap[b8]? =some (Obj.cells #[Value.bool true] 4)
  |some (q,b)=>∃u1 u2 u3,W.heap[b6]? =some (Obj.cells #[u1,u2] 31)/\W.heap[b7]? =some (Obj.cells #[u3] 28)/\W.heap[b8]? =some (Obj.cells #[Value.bool false] 4)/\
    Rep ([b6,b7,b8]++O++R) W (Fv q) (.agg #[u1,u2])/\Rep ([b6,b7,b8]++O++R) W (D1 b) u3/\q.labels.length<=1000/\q.edges.length<=1000
theorem Rp {O:List Nat} {B:World} {q:Pt} {u:Value}(h:Rep O B (.tuple [Fv q,.nili]) u):∃d1 m1 d2 m2,u=.tuple #[.agg #[.slice d1 q.labels.length m1,.slice d2 q.edges.length m2],.nilIface]/\Rep O B (Fv q) (.agg #[.slice d1 q.labels.length m1,.slice d2 q.edges.length m2]):=by
 obtain⟨cs,r,rfl⟩:=h
 simp only[RepC,Ai]at r
 obtain⟨css,⟨k1,k2,rfl,r1,k3,k4,rfl,r2,rfl⟩,rfl⟩:=r
 obtain⟨d1,m1,d2,m2,e,_⟩:=O7 (v:=EB (Fv q) k1) ⟨k1,r1,rfl⟩
 obtain rfl:k3=[Value.nilIface]:=r2
 refine⟨d1,m1,d2,m2,?_,k1,r1,e.symm⟩
 show Value.tuple #[EB (Fv q) k1,Value.nilIface]=_
 rw[e]
theorem FB {S:List Nat} {A B:World}(h:Tch S A B) {b:Nat} {o:Obj}(hb:A.heap[b]? =some o)(hn:b∉S):B.heap[b]? =some o:=by
 rw[h.blk b (Ae.1 hb).1 hn];exact hb
theorem Jt {p:Pt} {b6 b7 b8:Nat} {O:List Nat} {W0:World} {R:List Nat} {pre:List (List Int)} {A B:World}(h6:b6<W0.heap.size)(h7:b7<W0.heap.size)(h8:b8<W0.heap.size)(hR:∀r∈R,W0.heap.size<=r)(h:SU p b6 b7 b8 O W0 R pre A)(t:Tch R A B):
  SU p b6 b7 b8 O W0 R pre B:=by
 obtain⟨h1,h2⟩:=h
 have n6:b6∉R:=λhm=>by have:=hR _ hm;omega
 have n7:b7∉R:=λhm=>by have:=hR _ hm;omega
 have n8:b8∉R:=λhm=>by have:=hR _ hm;omega
 refine⟨h1.trans0 (t.mono (by simp+contextual)),?_⟩
 split at h2
 ·obtain⟨g1,g2,g3⟩:=h2
  exact⟨FB t g1 n6,FB t g2 n7,FB t g3 n8⟩
 ·obtain⟨u1,u2,u3,g1,g2,g3,g4,g5,g6⟩:=h2
  exact⟨u1,u2,u3,FB t g1 n6,FB t g2 n7,FB t g3 n8,D8 (t.mono (by simp+contextual)) g4,D8 (t.mono (by simp+contextual)) g5,g6⟩
theorem ME {W:World} {b:Nat} {t:TypeId} {x y:Value}(h:W.heap[b]? =some (Obj.cells #[x,y] t)) (u v:Value):((W.setCell ⟨b,0,none⟩ u).setCell ⟨b,1,none⟩ v).heap[b]? =some (Obj.cells #[u,v] t):=by
 have one:∀{W:World} {cs:Array Value} (i:Nat) (z:Value),W.heap[b]? =some (Obj.cells cs t)->(W.setCell ⟨b,i,none⟩ z).heap[b]? =some (Obj.cells (cs.setIfInBounds i z) t):=λ{W cs} i z h=>by
  obtain⟨hlt,hk⟩:=Ae.1 h
  show(W.heap.modify b _)[b]? =_
  rw[AT (by rw[Array.size_modify];exact hlt),Array.getElem_modify_self,hk]
  rfl
 exact one 1 v (one 0 u h)
theorem DX {W:World} {b i k:Nat} {v:Value} {o:Obj}(hne:¬b=k)(h:W.heap[k]? =some o):(W.setCell ⟨b,i,none⟩ v).heap[k]? =some o:=(Below.heap_setCell W ⟨b,i,none⟩ v k (λe=>hne e.symm)).trans h
theorem Mv {p:Pt} {b6 b7 b8:Nat} {O R:List Nat} {W7 A2 A4:World} {pre:List (List Int)} {x:List Int} {t6 t6' t7 t8 u v z:Value}(q4:¬b6=b7)(q5:¬b6=b8)(q6:¬b7=b8)
  (tA:Tch ([b6,b7,b8]++R) W7 A2) (T:Tch [] A2 A4) (G6:A4.heap[b6]? =some (Obj.cells #[t6,t6'] 31)) (G7:A4.heap[b7]? =some (Obj.cells #[t7] 28)) (G8:A4.heap[b8]? =some (Obj.cells #[t8] 4))
  (hf:(pre++[x]).foldl (FW p) none=some (AQ p x,x)) (r1:Rep ([b6,b7,b8]++O++R) A4 (Fv (AQ p x)) (.agg #[u,v])) (r2:Rep ([b6,b7,b8]++O++R) A4 (D1 x) z) (hl:(AQ p x).labels.length<=1000/\(AQ p x).edges.length<=1000):
  SU p b6 b7 b8 O W7 R (pre++[x]) ((((A4.setCell ⟨b6,0,none⟩ u).setCell ⟨b6,1,none⟩ v).setCell ⟨b7,0,none⟩ z).setCell ⟨b8,0,none⟩ (.bool false))/\
  Tch ([b6,b7,b8]++O) A2 ((((A4.setCell ⟨b6,0,none⟩ u).setCell ⟨b6,1,none⟩ v).setCell ⟨b7,0,none⟩ z).setCell ⟨b8,0,none⟩ (.bool false)):=by
 have TS:Tch [b6,b7,b8] A4 ((((A4.setCell ⟨b6,0,none⟩ u).setCell ⟨b6,1,none⟩ v).setCell ⟨b7,0,none⟩ z).setCell ⟨b8,0,none⟩ (.bool false)):=
  ((((Tch.refl [b6,b7,b8] A4).andSet (.inl (by simp)) u).andSet (.inl (by simp)) v).andSet (.inl (by simp)) z).andSet (.inl (by simp)) _
 have E6:=DX (i:=0) (v:=.bool false) (λe=>q5 e.symm) (DX (i:=0) (v:=z) (λe=>q4 e.symm) (ME G6 u v))
 have E7:((((A4.setCell ⟨b6,0,none⟩ u).setCell ⟨b6,1,none⟩ v).setCell ⟨b7,0,none⟩ z).setCell ⟨b8,0,none⟩ (.bool false)).heap[b7]? =some (Obj.cells #[z] 28):=
  DX (λe=>q6 e.symm) (Boxed.set z (DX q4 (DX q4 G7)))
 have E8:((((A4.setCell ⟨b6,0,none⟩ u).setCell ⟨b6,1,none⟩ v).setCell ⟨b7,0,none⟩ z).setCell ⟨b8,0,none⟩ (.bool false)).heap[b8]? =some (Obj.cells #[.bool false] 4):=
  Boxed.set (.bool false) (DX q6 (DX q5 (DX q5 G8)))
 refine⟨⟨(tA.then0 T).trans0 (TS.mono (by simp+contextual)),?_⟩,T.ahead0 (TS.mono (by simp+contextual))⟩
 rw[hf]
 exact⟨u,v,z,E6,E7,E8,D8 (TS.mono (by simp+contextual)) r1,D8 (TS.mono (by simp+contextual)) r2,hl⟩
theorem QW {A2 A3:World}(T3:Tch [] A2 A3) {b6 b8:Nat} {t t' ty:TypeId} {x6 x6' x8:Value}(g6:A2.heap[b6]? =some (Obj.cells #[x6,x6'] t)) (g8:A2.heap[b8]? =some (Obj.cells #[x8] t')) (y y':Value):
  (A3.alloc (Obj.cells #[y,y'] ty)).cell? ⟨b8,0,none⟩=some x8/\(A3.alloc (Obj.cells #[y,y'] ty)).cell? ⟨b6,0,none⟩=some x6/\(A3.alloc (Obj.cells #[y,y'] ty)).cell? ⟨b6,1,none⟩=some x6'/\
  (A3.alloc (Obj.cells #[y,y'] ty)).cell? ⟨A3.heap.size,0,none⟩=some y/\(A3.alloc (Obj.cells #[y,y'] ty)).cell? ⟨A3.heap.size,1,none⟩=some y':=by
 have G6:=Bd (T3.andAlloc (Obj.cells #[y,y'] ty)) g6
 have G8:=Bd (T3.andAlloc (Obj.cells #[y,y'] ty)) g8
 have G10:=World.alloc_heap_new A3 (Obj.cells #[y,y'] ty)
 refine⟨?_,?_,?_,?_,?_⟩
 ·simp only[World.cell?,G8];rfl
 ·simp only[World.cell?,G6];rfl
 ·simp only[World.cell?,G6];rfl
 ·simp only[World.cell?,G10];rfl
 ·simp only[World.cell?,G10];rfl
theorem PF {fn:Func} {P:Program} {t u v ty:Nat}(h:fn.results=#[.cell t ty,.tmp u,.tmp v]) {tmps:Array Value} {W:World} {b:Nat} {x:Value} (ht:tmps.getD t undef=.pointer (some ⟨b,0,none⟩)) (hl:(loadVar ty ⟨b,0,none⟩).run P W=.ok x W):
  (results fn tmps).run P W=.ok (.tuple #[x,tmps.getD u undef,tmps.getD v undef]) W:=by
 have hm:(fn.results.mapM (PG tmps)).run P W=.ok #[x,tmps.getD u undef,tmps.getD v undef] W:=by
  rw[h,QO,Sem.run_map]
  have:(List.mapM (PG tmps) #[ResultVar.cell t ty,ResultVar.tmp u,ResultVar.tmp v].toList).run P W=.ok [x,tmps.getD u undef,tmps.getD v undef] W:=by
   simp only[List.mapM_cons,List.mapM_nil,PG,Ar,AH,ht,asAddr,Ap,hl]
  rw[this];rfl
 rw[GA,Ar,hm]
 simp
theorem Qv {q:Pt} {by':List Int} {O X:List Nat} {w W V:World} {b2 D:Nat} {tmps:Array Value} {u v z x2 x2':Value}(hX:∀b∈O,b∈X)(hb2X:b2∈X)(hb2w:w.heap.size<=b2)(hDR:D∈X)(hDw:w.heap.size<=D)(hD2:¬b2=D)
  (TW:Tch [] w W) (TV:Tch [] W V) (r1:Rep X W (Fv q) (.agg #[u,v])) (r2:Rep X W (D1 by') z) (hDef:W.heap[D]? =some (.deferred (some []))) (g2:W.heap[b2]? =some (Obj.cells #[x2,x2'] 31))
  (e2:tmps.getD 2 undef=.pointer (some ⟨b2,0,none⟩)) (e3:tmps.getD 3 undef=z) (e4:tmps.getD 4 undef=.nilIface):
  bodyPostM Fence.wide 4 Tryz.prog Tryz.f108 (λe w'=>∃v y,e=Ending.returned v/\y=Da.tuple [Fv q,D1 by',Da.nili]/\Rep O w' y v/\Tch [] w w') Exit.ret {tmps:=tmps,defers:=[{target:=.collected D,args:=#[]}]} ((V.setCell ⟨b2,0,none⟩ u).setCell ⟨b2,1,none⟩ v):=by
 have G2:=ME (Bd TV g2) u v
 have GD:((V.setCell ⟨b2,0,none⟩ u).setCell ⟨b2,1,none⟩ v).heap[D]? =some (.deferred (some [])):=DX hD2 (DX hD2 (Bd TV hDef))
 obtain⟨Y,hY⟩:∃Y,(V.setCell ⟨b2,0,none⟩ u).setCell ⟨b2,1,none⟩ v=Y:=⟨_,rfl⟩
 have TY:Tch [b2] V Y:=by rw[<-hY];exact((Tch.refl [b2] V).andSet (.inl (by simp)) u).andSet (.inl (by simp)) v
 rw[hY]at G2 GD
 rw[hY]
 have TE:Tch [b2,D] W (Y.putObj D (.deferred none)):=((Tch.up (O:=[b2,D]) TV).trans0 (TY.mono (by simp))).trans0 ((D4 _ _ _).mono (by simp))
 have hbW:=(Ae.1 g2).1
 have G2':(Y.putObj D (.deferred none)).heap[b2]? =some (Obj.cells #[u,v] 31):=(World.putObj_heap_other (λe=>hD2 e)).trans G2
 have LX:Later X W O (Y.putObj D (.deferred none)):=⟨TE.size,λb hb hn=>TE.blk b hb (λhm=>by
  simp only[Ad,Ua,or_false]at hm
  rcases hm with rfl|rfl
  ·exact hn hb2X
  ·exact hn hDR),λb hn _ hm=>hn (hX b hm)⟩
 have TF:Tch [] w (Y.putObj D (.deferred none)):=TW.trans TE (λ_ h=>h) (λx hx=>by
  simp only[Ad,Ua,or_false]at hx
  rcases hx with rfl|rfl
  ·exact .inr hb2w
  ·exact .inr hDw)
 refine⟨by simp,.inl ⟨D,_,rfl,run_takeDeferred GD,?_⟩⟩
 have hload:(loadVar 31 ⟨b2,0,none⟩).run Tryz.prog (Y.putObj D (.deferred none))=.ok (.agg #[u,v]) (Y.putObj D (.deferred none)):=by
  have:=Fo (P:=Tryz.prog) (J2.ty (t:=31) rfl) (w:=Y.putObj D (.deferred none)) (b:=b2) (o:=0) (cs:=[u,v]) (λj x hj=>by
   cases j with
   |zero=>simp only[World.cell?,G2'];simpa using hj
   |
    succ j=>
    cases j with
    |zero=>simp only[World.cell?,G2'];simpa using hj
    |succ j=>simp at hj) rfl (by decide)
  exact this
 refine⟨_,PF Tryz.results108 e2 hload,_,_,rfl,rfl,?_,TF⟩
 rw[e3,e4]
 obtain⟨k1,h1,e1⟩:=r1.later LX
 obtain⟨k2,h2,e2'⟩:=r2.later LX
 refine⟨[_],by simp only[RepC];exact⟨[k1,k2,[.nilIface]],by simp only[Ai];exact⟨k1,_,rfl,h1,k2,_,rfl,h2,[.nilIface],_,rfl,by simp only[RepC],rfl⟩,rfl⟩,?_⟩
 simp only[B6,List.zipWith_nil_left]
 rw[<-e1,<-e2']
 rfl
set_option maxHeartbeats 1000000 in
theorem TH(p:Pt)(hp:Dr p=none)(hE:p.edges.length<=1000):Pure C1 108 [Fv p] (λy=>y=.tuple [Fv (BC p),D1 (Uf p),.nili]):=by
 intro O w vs hO hg hr
 obtain⟨v,vs',rfl,hv,hr'⟩:=D7 hr
 obtain rfl:=Ee hr'
 obtain⟨a1,c1,a2,c2,rfl,g1,g2⟩:=O7 hv
 refine⟨by kernel_rfl,?_⟩
 show Calls Tryz.prog _ _ _ _
 refine callsIn_wide.1 (callsIn_of_wp_marks (n:=4) Tryz.func108 rfl trivial ?_ rfl)
 simp only[Tryz.ntmps108,BI,Au,Bh,Nat.reduceAdd,Nat.reduceSub,CE,CD,Dv,CN,AR,A9]
 have hri:=DA p (by have:=(Fb (BL hp).1).1;omega) (by omega)
 rw[Ed hp]at hri
 have T0:Tch [] w ((w.alloc (Obj.cells #[Value.slice a1 p.labels.length c1,Value.slice a2 p.edges.length c2] 31)).alloc (Obj.cells #[Value.slice none 0 0,Value.slice none 0 0] 31)):=(Tch.alloc w _ []).andAlloc _
 have hR:=Pure.at' hri 3 (Gs (Tch.up T0) hO) (Ik (Tch.up T0) hg) (reps_cons (D8 (Tch.up T0) hv) reps_nil)
 have B1:((w.alloc (Obj.cells #[Value.slice a1 p.labels.length c1,Value.slice a2 p.edges.length c2] 31)).alloc (Obj.cells #[Value.slice none 0 0,Value.slice none 0 0] 31)).heap[w.heap.size]? =some (Obj.cells #[Value.slice a1 p.labels.length c1,Value.slice a2 p.edges.length c2] 31):=Bd (Tch.alloc _ _ []) (World.alloc_heap_new w _)
 have B2:((w.alloc (Obj.cells #[Value.slice a1 p.labels.length c1,Value.slice a2 p.edges.length c2] 31)).alloc (Obj.cells #[Value.slice none 0 0,Value.slice none 0 0] 31)).heap[w.heap.size+1]? =some (Obj.cells #[Value.slice none 0 0,Value.slice none 0 0] 31):=by
  have:=World.alloc_heap_new (w.alloc (Obj.cells #[Value.slice a1 p.labels.length c1,Value.slice a2 p.edges.length c2] 31)) (Obj.cells #[Value.slice none 0 0,Value.slice none 0 0] 31)
  rwa [Ku]at this
 gi_wp2_with (refine⟨trivial,?_⟩;gi_at_call 13;refine hR.mono ?_;rintro e W1 ⟨u,y,rfl,rfl,hu,T1⟩;obtain⟨cu,hcu,rfl⟩:=hu;simp only[RepC]at hcu;subst hcu;simp only[EB,MV])
 have B1':=Bd T1 B1
 have B2':=Bd T1 B2
 have T01:=T0.then0 T1
 clear hR B1 B2 T1 T0
 have hw1:=T01.size
 have hb2lt:=(Ae.1 B2').1
 obtain⟨W3,hW3⟩:∃W3,((W1.alloc (Obj.cells #[Value.slice none 0 0,Value.slice none 0 0] 31)).alloc (Obj.cells #[Value.slice none 0 0] 28)).alloc (Obj.cells #[Value.bool true] 4)=W3:=⟨_,rfl⟩
 have T13:Tch [] W1 W3:=by rw[<-hW3];exact((Tch.alloc _ _ []).andAlloc _).andAlloc _
 have hs3:W3.heap.size=W1.heap.size+3:=by rw[<-hW3];simp
 have H1:=Bd T13 B1'
 have H2:=Bd T13 B2'
 have H6:W3.heap[W1.heap.size]? =some (Obj.cells #[Value.slice none 0 0,Value.slice none 0 0] 31):=by
  rw[<-hW3];exact Bd ((Tch.alloc _ _ []).andAlloc _) (World.alloc_heap_new _ _)
 have H7:W3.heap[W1.heap.size+1]? =some (Obj.cells #[Value.slice none 0 0] 28):=by
  rw[<-hW3];refine Bd (Tch.alloc _ _ []) ?_
  have:=World.alloc_heap_new (W1.alloc (Obj.cells #[Value.slice none 0 0,Value.slice none 0 0] 31)) (Obj.cells #[Value.slice none 0 0] 28)
  rwa [Ku]at this
 have H8:W3.heap[W1.heap.size+1+1]? =some (Obj.cells #[Value.bool true] 4):=by
  rw[<-hW3]
  have:=World.alloc_heap_new ((W1.alloc (Obj.cells #[Value.slice none 0 0,Value.slice none 0 0] 31)).alloc (Obj.cells #[Value.slice none 0 0] 28)) (Obj.cells #[Value.bool true] 4)
  rwa [Ku,Ku]at this
 have T3:=T01.then0 T13
 rw[hW3]
 clear hW3 T13 B1' B2'
 obtain⟨b1,hb1⟩:∃b,w.heap.size=b:=⟨_,rfl⟩
 obtain⟨b6,hb6⟩:∃b,W1.heap.size=b:=⟨_,rfl⟩
 obtain⟨b2,hb2⟩:∃b,b1+1=b:=⟨_,rfl⟩
 obtain⟨b7,hb7⟩:∃b,b6+1=b:=⟨_,rfl⟩
 obtain⟨b8,hb8⟩:∃b,b7+1=b:=⟨_,rfl⟩
 rw[hb6,hb7,hb8]at H8
 rw[hb1,hb2]at H2
 rw[hb1,hb2]at hb2lt
 rw[hb1]at H1
 rw[hb6,hb7]at H7
 rw[hb6]at H6
 rw[hb6]at hb2lt
 simp only[hb1,hb6]
 simp only[hb2,hb7]
 simp only[hb8]
 have hSl:=JB p.labels
 have h8:=(Fb (BL hp).1).1
 have d6:b6<W3.heap.size:=by omega
 have d7:b7<W3.heap.size:=by omega
 have d8:b8<W3.heap.size:=by omega
 obtain⟨O3,hO3⟩:∃O3,[b6,b7,b8]++(b2::O)=O3:=⟨_,rfl⟩
 have LO:Later O w O3 W3:=NN T3 (λx hx=>by
  rw[<-hO3]at hx
  simp only[A9,AR,Ad]at hx
  rcases hx with rfl|rfl|rfl|rfl|hx
  ·left;omega
  ·left;omega
  ·left;omega
  ·left;omega
  ·exact .inr hx)
 have hO':∀b∈O3,b<W3.heap.size:=λb hb=>by
  rw[<-hO3]at hb
  simp only[A9,AR,Ad]at hb
  rcases hb with rfl|rfl|rfl|rfl|hb
  ·exact d6
  ·exact d7
  ·exact d8
  ·omega
  ·have:=hO b hb;have:=T3.size;omega
 have hg':Glob C1 O3 W3:=GL LO hg
 have hv':Rep O3 W3 (Fv p) _:=hv.later LO
 have g1':Rep O3 W3 (D1 p.labels) _:=g1.later LO
 refine wpIn_wide.2 ?_
 refine Pk [161,160,159] [1,0,1,2,2,2] [1,0,2,3,4,5] [0,0,2,6,14,31] (by kernel_rfl) (by kernel_rfl) ?_
 intro W4 T4
 have T34:=T4
 have G1:=Bd T4 H1
 have e1:W4.cell? ⟨b1,0,none⟩=some (Value.slice a1 p.labels.length c1):=by simp only[World.cell?,G1];rfl
 have e2:W4.cell? ⟨b1,1,none⟩=some (Value.slice a2 p.edges.length c2):=by simp only[World.cell?,G1];rfl
 have hV:=Pure.at' (Pr p.labels) 3 (Gs (Tch.up T34) hO') (Ik (Tch.up T34) hg') (reps_cons (D8 (Tch.up T34) g1') reps_nil)
 go_wp2_with (first|(refine BD rfl rfl rfl rfl (λ_ _=>?_))|(refine Cu rfl rfl rfl (λ_ _=>?_)))
 refine Dq rfl rfl rfl (λK1 hK1=>?_)
 go_wp2_with (go_at_call 161;refine(callsIn_wide.1 hV).mono ?_;rintro e W5 ⟨u5,y,rfl,rfl,hu5,T5⟩)
 refine hK1 _ _ T5.ext ?_
 have T35:=T34.then0 T5
 have hS:=Pure.at' (P2 p.labels (by omega)) 3 (Gs (Tch.up T35) hO') (Ik (Tch.up T35) hg') (reps_cons hu5 reps_nil)
 refine Dq rfl rfl rfl (λK2 hK2=>?_)
 go_wp2_with (go_at_call 160;refine(callsIn_wide.1 hS).mono ?_;rintro e W6 ⟨u6,y,rfl,rfl,hu6,T6⟩)
 refine hK2 _ _ T6.ext ?_
 have T36:=T35.then0 T6
 have hOr:=Pure.at' (PT p (sortI p.labels)) 3 (Gs (Tch.up T36) hO') (Ik (Tch.up T36) hg') (reps_cons (D8 (Tch.up T36) hv') (reps_cons hu6 reps_nil))
 refine Dq rfl rfl rfl (λK3 hK3=>?_)
 go_wp2_with (go_at_call 159;refine(callsIn_wide.1 hOr).mono ?_;rintro e W7 ⟨u7,y,rfl,rfl,hu7,T7⟩)
 refine hK3 _ _ T7.ext ?_
 go_wp2_with (first|(refine BD rfl rfl rfl rfl (λ_ _=>?_))|refine ET ?_)
 have T37:=T36.then0 T7
 have F1:=Bd T37 H1
 have F2:=Bd T37 H2
 have F6:=Bd T37 H6
 have F7:=Bd T37 H7
 have F8:=Bd T37 H8
 have hs7:=T37.size
 have hO7:=Gs (Tch.up T37) hO'
 have hg7:=Ik (Tch.up (O:=O3) T37) hg'
 have hv7:=D8 (Tch.up (O:=O3) T37) hv'
 have TW:=T3.then0 T37
 clear hV hS hOr hK1 hK2 hK3 e1 e2 G1
 refine wpIn_block ?_
 refine Uk (C:=C1) (Js p) O3 hO7 rfl (λW t hs=>?_) (λR S pre W=>S=O3/\SU p b6 b7 b8 (b2::O) W7 R pre W) (λ_ _ _ _=>False) (λR S pre A B hR h t=>⟨h.1,Jt (by omega) (by omega) (by omega) hR h.2 t⟩) (λ_ _ _ _ _ _ h _=>h) (λR W hR t=>⟨rfl,?_⟩) ?_ ?_ (λ_ _ _ _ _ _ _ _ _ _ h=>h.elim)
 ·have LW:Later O3 W7 (W7.heap.size::(W7.heap.size+1)::O3) W:=NN t (λx hx=>by
   rcases Ad.1 hx with rfl|hx
   ·left;omega
   rcases Ad.1 hx with rfl|hx
   ·left;omega
   ·exact .inr hx)
  exact R1 h8 (by omega) (λb hb=>by
   rcases Ad.1 hb with rfl|hb
   ·omega
   rcases Ad.1 hb with rfl|hb
   ·omega
   ·have:=hO7 b hb;omega) (GL LW hg7) (hu7.later LW)
 ·exact⟨t.mono (by simp),Bd t F6,Bd t F7,Bd t F8⟩
 ·intro l R S pre x v A hl hlR hR hSA hSR hI hpx hrep hsz hRA
  obtain⟨hSO,hI⟩:=hI
  rw[hSO]at hrep
  rw[hSO]
  clear hSA hSR hSO
  rw[show C1.P=Tryz.prog from rfl]
  obtain⟨av,cv,rfl,_,_⟩:=Cz hrep
  gi_wp2
  refine⟨Tch.refl _ _,λA2 TA2=>?_⟩
  have hI2:=Jt (by omega) (by omega) (by omega) hR hI (TA2.mono (T:=R) (by simpa using hlR))
  have hrep2:=D8 (TA2.mono (T:=O3++R) (by simp[hlR])) hrep
  have hRA2:∀r∈R,r<A2.heap.size:=λr hr=>Bw (hRA r hr) TA2.size
  clear hI hrep hRA TA2 hsz
  obtain⟨tA,hst⟩:=hI2
  have n1:b1∉[b6,b7,b8]++R:=λhm=>by
   simp only[A9,AR,Ad]at hm
   rcases hm with hm|hm|hm|hm
   ·omega
   ·omega
   ·omega
   ·have:=hR _ hm;omega
  have A1:=FB tA F1 n1
  have LA:Later O3 W7 (O3++R) A2:=⟨tA.size,λb hb hn=>tA.blk b hb (λhm=>by
   rcases Af.1 hm with hm|hm
   ·exact hn (by rw[<-hO3];exact Aq _ hm)
   ·have:=hR _ hm;omega),λb hn hb hm=>by
   rcases Af.1 hm with hm|hm
   ·exact hn hm
   ·have:=hR _ hm;omega⟩
  have hOA:∀b∈O3++R,b<A2.heap.size:=λb hb=>by
   rcases Af.1 hb with hb|hb
   ·have:=hO7 b hb;have:=tA.size;omega
   ·exact hRA2 b hb
  have hxm:x∈Js p:=hpx.subset (by simp)
  have hord:=(JL (n:=p.labels.length) ⟨rfl,(BL hp).2.1,(BL hp).2.2⟩).1 hxm
  have hTu:=Pure.at' (LM p hp hE x ((Sn (by rw[hord.1.1];omega)).2 (by rw[hord.1.1];exact hord.1)) hord.1.1) 1 hOA (GL LA hg7) (reps_cons (hv7.later LA) (reps_cons hrep2 reps_nil))
  have e1:A2.cell? ⟨b1,0,none⟩=some (Value.slice a1 p.labels.length c1):=by simp only[World.cell?,A1];rfl
  have e2:A2.cell? ⟨b1,1,none⟩=some (Value.slice a2 p.edges.length c2):=by simp only[World.cell?,A1];rfl
  have hTu:CallsIn Fence.wide 1 Tryz.prog 15 _ A2 _:=hTu.mono (R':=λe B=>∃d1 m1 d2 m2,e=.returned (.tuple #[.agg #[.slice d1 (AQ p x).labels.length m1,.slice d2 (AQ p x).edges.length m2],.nilIface])/\Rep (O3++R) B (Fv (AQ p x)) (.agg #[.slice d1 (AQ p x).labels.length m1,.slice d2 (AQ p x).edges.length m2])/\Tch [] A2 B) (by
   rintro e B ⟨u,y,rfl,rfl,hu,t⟩
   obtain⟨d1,m1,d2,m2,rfl,h⟩:=Rp hu
   exact⟨d1,m1,d2,m2,rfl,h,t⟩)
  split at hst
  ·rename_i hfold
   obtain⟨g6,g7,g8⟩:=hst
   gi_wp2_with (refine⟨trivial,?_⟩;gi_at_call 15;refine(CallsIn.inRound l hTu).mono ?_;rintro e A3 ⟨d1,m1,d2,m2,rfl,huT,T3⟩;have G6:=Bd (T3.andAlloc (Obj.cells #[Value.slice d1 (AQ p x).labels.length m1,Value.slice d2 (AQ p x).edges.length m2] 31)) g6;have G7:=Bd (T3.andAlloc (Obj.cells #[Value.slice d1 (AQ p x).labels.length m1,Value.slice d2 (AQ p x).edges.length m2] 31)) g7;have G8:=Bd (T3.andAlloc (Obj.cells #[Value.slice d1 (AQ p x).labels.length m1,Value.slice d2 (AQ p x).edges.length m2] 31)) g8;have E8:(A3.alloc (Obj.cells #[Value.slice d1 (AQ p x).labels.length m1,Value.slice d2 (AQ p x).edges.length m2] 31)).cell? ⟨b8,0,none⟩=some (Value.bool true):=by(simp only[World.cell?,G8];rfl))
   refine⟨trivial,?_⟩
   obtain⟨A4,hA4⟩:∃A4,A3.alloc (Obj.cells #[Value.slice d1 (AQ p x).labels.length m1,Value.slice d2 (AQ p x).edges.length m2] 31)=A4:=⟨_,rfl⟩
   have T4:Tch [] A3 A4:=by rw[<-hA4];exact Tch.alloc _ _ _
   have G10:A4.heap[A3.heap.size]? =some (Obj.cells #[Value.slice d1 (AQ p x).labels.length m1,Value.slice d2 (AQ p x).edges.length m2] 31):=by rw[<-hA4];exact World.alloc_heap_new _ _
   rw[hA4]at G6 G7 G8 E8
   rw[hA4]
   obtain⟨b10,hb10⟩:∃b,A3.heap.size=b:=⟨_,rfl⟩
   rw[hb10]at G10
   simp only[hb10]
   have hs23:=T3.size
   have hsA:=tA.size
   have q1:¬b10=b6:=by omega
   have q2:¬b10=b7:=by omega
   have q3:¬b10=b8:=by omega
   have q4:¬b6=b7:=by omega
   have q5:¬b6=b8:=by omega
   have q6:¬b7=b8:=by omega
   have q4':¬b7=b6:=by omega
   have q5':¬b8=b6:=by omega
   have q6':¬b8=b7:=by omega
   have c10:A4.cell? ⟨b10,0,none⟩=some (Value.slice d1 (AQ p x).labels.length m1):=by simp only[World.cell?,G10];rfl
   have c10':A4.cell? ⟨b10,1,none⟩=some (Value.slice d2 (AQ p x).edges.length m2):=by simp only[World.cell?,G10];rfl
   have c6:A4.cell? ⟨b6,0,none⟩=some (Value.slice none 0 0):=by simp only[World.cell?,G6];rfl
   have c6':A4.cell? ⟨b6,1,none⟩=some (Value.slice none 0 0):=by simp only[World.cell?,G6];rfl
   have c7:A4.cell? ⟨b7,0,none⟩=some (Value.slice none 0 0):=by simp only[World.cell?,G7];rfl
   have f6:A4.frozen? ⟨b6,0,none⟩=false:=by simp[World.frozen?,G6]
   have f6':A4.frozen? ⟨b6,1,none⟩=false:=by simp[World.frozen?,G6]
   have f7:A4.frozen? ⟨b7,0,none⟩=false:=by simp[World.frozen?,G7]
   have f8:A4.frozen? ⟨b8,0,none⟩=false:=by simp[World.frozen?,G8]
   clear hA4
   gi_wp2
   have hfold2:(pre++[x]).foldl (FW p) none=some (AQ p x,x):=by rw[IS,hfold];rfl
   have hpo:PtOk p.labels.length p:=⟨rfl,(BL hp).2.1,(BL hp).2.2⟩
   have:=Mv (O:=b2::O) q4 q5 q6 tA (T3.then0 T4) G6 G7 G8 hfold2 (by rw[hO3];exact D8 (Tch.up T4) huT) (by rw[hO3];exact D8 (Tch.up (T3.then0 T4)) hrep2) ⟨by rw[Eb];omega,by rw[Hc hord.1 hpo];exact hE⟩
   rw[hO3]at this
   exact⟨O3,Grow.same this.2 (λb hb=>hOA b (Aq _ hb)),rfl,this.1⟩
  ·rename_i q b hfold
   obtain⟨u1,u2,u3,g6,g7,g8,r6,r7,hq1,hq2⟩:=hst
   obtain⟨s1,n1',s2,n2',eu,_⟩:=O7 r6
   simp only[Value.agg.injEq,Array.mk.injEq,Co,and_true]at eu
   obtain⟨rfl,rfl⟩:=eu
   gi_wp2_with (refine⟨trivial,?_⟩;gi_at_call 15;refine(CallsIn.inRound l hTu).mono ?_;rintro e A3 ⟨d1,m1,d2,m2,rfl,huT,T3⟩;obtain⟨E8,E6,E6',E10,E10'⟩:=QW (ty:=31) T3 g6 g8 (Value.slice d1 (AQ p x).labels.length m1) (Value.slice d2 (AQ p x).edges.length m2))
   obtain⟨A4,hA4⟩:∃A4,A3.alloc (Obj.cells #[Value.slice d1 (AQ p x).labels.length m1,Value.slice d2 (AQ p x).edges.length m2] 31)=A4:=⟨_,rfl⟩
   have T4:Tch [] A3 A4:=by rw[<-hA4];exact Tch.alloc _ _ _
   have T24:=T3.then0 T4
   have G10:A4.heap[A3.heap.size]? =some (Obj.cells #[Value.slice d1 (AQ p x).labels.length m1,Value.slice d2 (AQ p x).edges.length m2] 31):=by rw[<-hA4];exact World.alloc_heap_new _ _
   rw[hA4]
   rw[hO3]at r6 r7
   have hTuA:Tch (O3++R) A2 A4:=Tch.up T24
   have hpo:PtOk p.labels.length p:=⟨rfl,(BL hp).2.1,(BL hp).2.2⟩
   have hl1:(AQ p x).labels.length<=1000:=by rw[Eb];omega
   have hl2:(AQ p x).edges.length<=1000:=by rw[Hc hord.1 hpo];exact hE
   have hCm:=Pure.at' (LP (AQ p x) q (by omega) (by omega) (by omega) (by omega)) 1 (Gs hTuA hOA) (Ik hTuA (GL LA hg7)) (reps_cons (D8 (Tch.up T4) huT) (reps_cons (D8 hTuA r6) reps_nil))
   have hCm:CallsIn Fence.wide 1 Tryz.prog 99 _ A4 _:=hCm.mono (R':=λe B=>e=.returned (.int .i64 (B9 (AQ p x) q))/\Tch [] A4 B) (by
    rintro e B ⟨u,y,rfl,rfl,hu,t⟩
    obtain⟨cs,hcs,rfl⟩:=hu
    simp only[RepC]at hcs
    subst hcs
    exact⟨rfl,t⟩)
   refine⟨trivial,(CallsIn.inRound l hCm).mono ?_⟩
   rintro e A5 ⟨rfl,T5⟩
   have T25:=T24.then0 T5
   have G6:=Bd T25 g6
   have G7:=Bd T25 g7
   have G8:=Bd T25 g8
   have G10:=Bd T5 G10
   obtain⟨b10,hb10⟩:∃b,A3.heap.size=b:=⟨_,rfl⟩
   rw[hb10]at G10
   simp only[hb10]
   have hs23:=T3.size
   have hsA:=tA.size
   have q1:¬b10=b6:=by omega
   have q2:¬b10=b7:=by omega
   have q3:¬b10=b8:=by omega
   have q4:¬b6=b7:=by omega
   have q5:¬b6=b8:=by omega
   have q6:¬b7=b8:=by omega
   have q4':¬b7=b6:=by omega
   have q5':¬b8=b6:=by omega
   have q6':¬b8=b7:=by omega
   have c10:A5.cell? ⟨b10,0,none⟩=some (Value.slice d1 (AQ p x).labels.length m1):=by simp only[World.cell?,G10];rfl
   have c10':A5.cell? ⟨b10,1,none⟩=some (Value.slice d2 (AQ p x).edges.length m2):=by simp only[World.cell?,G10];rfl
   have f6:A5.frozen? ⟨b6,0,none⟩=false:=by simp[World.frozen?,G6]
   have f6':A5.frozen? ⟨b6,1,none⟩=false:=by simp[World.frozen?,G6]
   have f7:A5.frozen? ⟨b7,0,none⟩=false:=by simp[World.frozen?,G7]
   have f8:A5.frozen? ⟨b8,0,none⟩=false:=by simp[World.frozen?,G8]
   have c6:A5.cell? ⟨b6,0,none⟩=some (Value.slice s1 q.labels.length n1'):=by simp only[World.cell?,G6];rfl
   have c6':A5.cell? ⟨b6,1,none⟩=some (Value.slice s2 q.edges.length n2'):=by simp only[World.cell?,G6];rfl
   have c7:A5.cell? ⟨b7,0,none⟩=some u3:=by simp only[World.cell?,G7];rfl
   have c8:A5.cell? ⟨b8,0,none⟩=some (Value.bool false):=by simp only[World.cell?,G8];rfl
   clear hA4 E8 E6 E6' E10 E10'
   by_cases hlt:B9 (AQ p x) q<0
   ·have hfold2:(pre++[x]).foldl (FW p) none=some (AQ p x,x):=by rw[IS,hfold];simp only[MW,List.foldl_nil,FW];rw[if_pos hlt]
    gi_wp2
    have:=Mv (O:=b2::O) q4 q5 q6 tA T25 G6 G7 G8 hfold2 (by rw[hO3];exact D8 (Tch.up (T4.then0 T5)) huT) (by rw[hO3];exact D8 (Tch.up T25) hrep2) ⟨hl1,hl2⟩
    rw[hO3]at this
    exact⟨O3,Grow.same this.2 (λb hb=>hOA b (Aq _ hb)),rfl,this.1⟩
   ·have hfold2:(pre++[x]).foldl (FW p) none=some (q,b):=by rw[IS,hfold];simp only[MW,List.foldl_nil,FW];rw[if_neg hlt]
    gi_wp2
    refine⟨O3,Grow.same (Tch.up T25) (λb hb=>hOA b (Aq _ hb)),rfl,tA.then0 T25,?_⟩
    rw[hfold2]
    rw[hO3]
    exact⟨_,_,_,G6,G7,G8,D8 (Tch.up T25) r6,D8 (Tch.up T25) r7,hq1,hq2⟩
 ·intro D R S W hD hDR hR hSR hI ht hDef
  gi_wp2
  have hpo:PtOk p.labels.length p:=⟨rfl,(BL hp).2.1,(BL hp).2.2⟩
  obtain⟨_,tW,hst⟩:=hI
  rw[show(Js p).foldl (FW p) none=some (BC p,Uf p)from(Il hpo).1]at hst
  obtain⟨u1,u2,u3,g6,g7,g8,r6,r7,_,_⟩:=hst
  obtain⟨s1,n1',s2,n2',eu,_⟩:=O7 r6
  simp only[Value.agg.injEq,Array.mk.injEq,Co,and_true]at eu
  obtain⟨rfl,rfl⟩:=eu
  obtain⟨s3,n3',rfl,_,_⟩:=Cz (l:=Uf p) r7
  have n2:b2∉[b6,b7,b8]++R:=λhm=>by
   simp only[A9,AR,Ad]at hm
   rcases hm with hm|hm|hm|hm
   ·omega
   ·omega
   ·omega
   ·have:=hR _ hm;omega
  have g2':=FB tW F2 n2
  refine wpIn_wide.2 ?_
  refine IV [] [1,1,3,0,0] 1 2 [0,1,2,3,4] [0,0,3,7,15] [0,2,1,3,4] [0,5,1,7,15] (by kernel_rfl) (by decide) (by kernel_rfl) (by kernel_rfl) ?_ ?_
  ·intro V TV
   have c6:V.cell? ⟨b6,0,none⟩=some (Value.slice s1 (BC p).labels.length n1'):=by simp only[World.cell?,Bd TV g6];rfl
   have c6':V.cell? ⟨b6,1,none⟩=some (Value.slice s2 (BC p).edges.length n2'):=by simp only[World.cell?,Bd TV g6];rfl
   have c7:V.cell? ⟨b7,0,none⟩=some (Value.slice s3 (Uf p).length n3'):=by simp only[World.cell?,Bd TV g7];rfl
   have c2:V.cell? ⟨b2,0,none⟩=some (Value.slice none 0 0):=by simp only[World.cell?,Bd TV g2'];rfl
   have c2':V.cell? ⟨b2,1,none⟩=some (Value.slice none 0 0):=by simp only[World.cell?,Bd TV g2'];rfl
   have f2:V.frozen? ⟨b2,0,none⟩=false:=by simp[World.frozen?,Bd TV g2']
   have f2':V.frozen? ⟨b2,1,none⟩=false:=by simp[World.frozen?,Bd TV g2']
   have q27:¬b2=b7:=by omega
   have q72:¬b7=b2:=by omega
   have HTV:=Eh TV
   clear TV
   go_wp2_with (first|(refine BD rfl rfl rfl rfl (λ_ _=>?_))|(refine Cu rfl rfl rfl (λ_ _=>?_)))
   refine F4 rfl rfl rfl (λK1 hK1=>?_)
   go_wp2_with (first|(refine BD rfl rfl rfl rfl (λ_ _=>?_))|(refine Cu rfl rfl rfl (λ_ _=>?_))|refine ET ?_)
   gi_wp2
   exact Qv (X:=O3++R) (λb hb=>Aq _ (by rw[<-hO3];simp[hb])) (Aq _ (by rw[<-hO3];simp)) (by omega) (An _ hDR) (by omega) (by omega) (TW.trans tW (λ_ h=>h) (λx hx=>by
    simp only[A9,AR,Ad]at hx
    rcases hx with hx|hx|hx|hx
    ·right;omega
    ·right;omega
    ·right;omega
    ·right;have:=hR _ hx;omega)) HTV.out (by rw[<-hO3];exact r6) (by rw[<-hO3];exact r7) hDef g2' rfl rfl rfl
  ·intro V TV
   have c6:V.cell? ⟨b6,0,none⟩=some (Value.slice s1 (BC p).labels.length n1'):=by simp only[World.cell?,Bd TV g6];rfl
   have c6':V.cell? ⟨b6,1,none⟩=some (Value.slice s2 (BC p).edges.length n2'):=by simp only[World.cell?,Bd TV g6];rfl
   have c7:V.cell? ⟨b7,0,none⟩=some (Value.slice s3 (Uf p).length n3'):=by simp only[World.cell?,Bd TV g7];rfl
   have c2:V.cell? ⟨b2,0,none⟩=some (Value.slice none 0 0):=by simp only[World.cell?,Bd TV g2'];rfl
   have c2':V.cell? ⟨b2,1,none⟩=some (Value.slice none 0 0):=by simp only[World.cell?,Bd TV g2'];rfl
   have f2:V.frozen? ⟨b2,0,none⟩=false:=by simp[World.frozen?,Bd TV g2']
   have f2':V.frozen? ⟨b2,1,none⟩=false:=by simp[World.frozen?,Bd TV g2']
   have q27:¬b2=b7:=by omega
   have q72:¬b7=b2:=by omega
   have HTV:=Eh TV
   clear TV
   go_wp2_with (first|(refine BD rfl rfl rfl rfl (λ_ _=>?_))|(refine Cu rfl rfl rfl (λ_ _=>?_)))
   refine F4 rfl rfl rfl (λK1 hK1=>?_)
   go_wp2_with (first|(refine BD rfl rfl rfl rfl (λ_ _=>?_))|(refine Cu rfl rfl rfl (λ_ _=>?_))|refine ET ?_)
   gi_wp2
   exact Qv (X:=O3++R) (λb hb=>Aq _ (by rw[<-hO3];simp[hb])) (Aq _ (by rw[<-hO3];simp)) (by omega) (An _ hDR) (by omega) (by omega) (TW.trans tW (λ_ h=>h) (λx hx=>by
    simp only[A9,AR,Ad]at hx
    rcases hx with hx|hx|hx|hx
    ·right;omega
    ·right;omega
    ·right;omega
    ·right;have:=hR _ hx;omega)) HTV.out (by rw[<-hO3];exact r6) (by rw[<-hO3];exact r7) hDef g2' rfl rfl rfl
end Go.Proofs.YtjejpdfldmempaaGreatDoor
end
section
namespace Go.Gr
open Go.Proofs.YtjejpdfldmempaaGreatDoor
theorem Vz(i:Nat):KN (i+1)=KN i++[(i:Int)]:=by unfold KN;rw[List.range_succ,AZ];rfl
theorem Lm(n:Nat):(KN n).length=n:=by unfold KN;simp
theorem M4:∀n,0<DS n
 |0=>by decide
 |n+1=>Nat.mul_pos (by omega) (M4 n)
theorem UZ {n:Nat} {P:List Int}(h:P.Perm (KN n)):Bx n P:=⟨by rw[h.length_eq,Lm],λx hx=>(GJ n).2.1 x (h.mem_iff.1 hx),h.nodup_iff.2 (GJ n).2.2⟩
theorem Tg {L:List Int} {q:Nat} {x:Int}(h:L[q]? =some x):L.Perm (x::L.eraseIdx q):=by
 obtain⟨hk,e⟩:=Ak.1 h
 subst e
 conv=>lhs;rw[<-C6 q L,AO hk]
 rw[List.eraseIdx_eq_take_drop_succ]
 exact List.perm_middle
theorem Lp:∀n,n<=8->DS n<=40320:=by decide
end Go.Gr
namespace Go.Proofs.YtjejpdfldmempaaGreatDoor
open Go.Sx Go.RowKit Go.Reg Go.Gr
set_option maxRecDepth 100000
theorem Vx {k:IntKind} {e z:Int} {K:Int->Prop}(h:k.wrap e=z)(hK:K z):∃n,k.wrap e=n/\K n:=⟨z,h,hK⟩
theorem PL(n:Nat)(hn:n<=8):DF C1 53 [.int .i64 n] 3 1 (λds=>ds=(KN n).map dI):=by
 refine X0 Tryz.func53 Tryz.ntmps53 [] [] ?_
 ((conv=>whnf);repeat' ((first|refine odw ?_|refine nx ?_|refine AX (λ_=>?_) (λ_=>?_))<;>conv=>whnf))
 refine BK (ι:=Nat) (λi=>i<=n) (λi=>[(4,.d (.int .i64 i)),(3,.own 300),(0,.d (.int .i64 n))]) (λi=>[(300,.slice 3 1 ((KN i).map dI))]) (λi=>n-i) 0 (λ_=>rfl) (AA _) (.own 3 300 3 1 rfl rfl (.refl _ _)) ⟨rfl,rfl,rfl,trivial⟩ ⟨rfl,trivial⟩ ?_
 intro i hi
 refine Fw [] [] ?_
 have hil:=Lm i
 by_cases hlt:i<n
 ·((conv=>whnf);repeat' ((first|refine odw ?_|refine nx ?_|refine AX (λ_=>?_) (λ_=>?_))<;>conv=>whnf))
  exact⟨i+1,_,_,by omega,.refl _ _,⟨rfl,rfl,rfl,trivial⟩,⟨El (by rw[Vz,AZ];rfl),trivial⟩,by omega⟩
 ·have:i=n:=by omega
  subst this
  ((conv=>whnf);repeat' ((first|refine odw ?_|refine nx ?_|refine AX (λ_=>?_) (λ_=>?_))<;>conv=>whnf))
  exact⟨rfl,rfl,rfl⟩
theorem L2(n:Nat)(hn:n<=8):Pure C1 51 [.int .i64 n] (λy=>y=.int .i64 (DS n:Nat)):=by
 refine CI Tryz.func51 Tryz.ntmps51 [] [] ?_
 ((conv=>whnf);repeat' ((first|refine odw ?_|refine nx ?_|refine AX (λ_=>?_) (λ_=>?_))<;>conv=>whnf))
 refine BK (ι:=Nat) (λi=>i+1<=n\/i=1\/i=n) (λi=>[(4,.d (.int .i64 (i+1:Nat))),(3,.d (.int .i64 (DS i:Nat))),(0,.d (.int .i64 n))]) (λ_=>[]) (λi=>n+1-i) 1 (λ_=>rfl) (.inr (.inl rfl)) (.refl _ _) ⟨rfl,rfl,rfl,trivial⟩ trivial ?_
 intro i hi
 refine Fw [] [] ?_
 by_cases hlt:i+1<=n
 ·have hf:=Lp (i+1) (by omega)
  have hm:(DS i:Int)*((i+1:Nat):Int)=((DS (i+1):Nat):Int):=by
   rw[show DS (i+1)=(i+1)*DS i from rfl,Int.natCast_mul,Int.mul_comm]
  have hw:IntKind.i64.wrap ((DS i:Int)*((i+1:Nat):Int))=((DS (i+1):Nat):Int):=by
   rw[hm];exact FT ⟨by omega,by omega⟩
  (conv=>whnf)
  (repeat' ((first|refine A6 ?_ ?_|refine Vx hw ?_|refine nx ?_|refine AX (λ_=>?_) (λ_=>?_)|exact Bj)<;>conv=>whnf))
  refine⟨i+1,_,_,by omega,.refl _ _,⟨Vy (by omega),rfl,rfl,trivial⟩,trivial,by omega⟩
 ·have hi2:i=n\/(i=1/\n=0):=by omega
  have:DS i=DS n:=by
   rcases hi2 with rfl|⟨rfl,rfl⟩<;>rfl
  ((conv=>whnf);repeat' ((first|refine odw ?_|refine nx ?_|refine AX (λ_=>?_) (λ_=>?_))<;>conv=>whnf))
  exact congrArg (λz:Nat=>Da.int .i64 (z:Int)) this
structure OfI(n:Nat)(s:Nat×Int×List Int×List Int×Nat):Prop where
 z:s.2.1=(s.1:Int)-1
 len:s.2.2.2.1.length=s.1
 all:(s.2.2.1++s.2.2.2.1).Perm (KN n)
 rank:s.2.2.2.2<DS s.1
def XI:List FuncId:=[51,52,53]
set_option maxHeartbeats 4000000 in
theorem PK(n r:Nat)(hn:n<=8)(hr:r<DS n):Pure C1 14 [.int .i64 n,.int .i64 r] (λy=>∃b,Bx n b/\y=.tuple [D1 b,.nili]):=by
 have ht:=L2 n hn
 have hfn:=Lp n hn
 refine CI Tryz.func14 Tryz.ntmps14 XI [] ?_
 (conv=>whnf)
 (repeat' ((first|refine A6 ?_ ?_|refine A8 rfl ht ?_|refine nx ?_|refine AX (λ_=>?_) (λ_=>?_)|exact Bj)<;>conv=>whnf))
 refine Ko 401 rfl rfl (PL n hn) ?_;rintro ds rfl
 ((conv=>whnf);repeat' ((first|refine odw ?_|refine nx ?_|refine AX (λ_=>?_) (λ_=>?_))<;>conv=>whnf))
 refine BK (ι:=Nat×Int×List Int×List Int×Nat) (OfI n) (λs=>[(8,.d (.int .i64 s.2.1)),(7,.own 401),(6,.own 300),(1,.d (.int .i64 s.2.2.2.2))]) (λs=>[(300,.slice 3 1 (s.2.2.1.map dI)),(401,.slice 3 1 (s.2.2.2.1.map dI))]) (λs=>s.1) (n,(n:Int)-1,[],KN n,r) (λ_=>rfl) ⟨rfl,Lm n,.refl _,hr⟩ (.own 6 300 3 1 rfl rfl (.refl _ _)) ⟨rfl,rfl,rfl,rfl,trivial⟩ ⟨rfl,rfl,trivial⟩ ?_
 rintro⟨c,z,P,L,r⟩ ⟨hz,hL,hall,hrk⟩
 simp only at hz hL hall hrk
 refine Fw XI [] ?_
 dsimp only
 have hlen:=hall.length_eq
 rw[Ao,Lm]at hlen
 cases c with
 |
  zero=>
  have:L=[]:=Aw hL
  subst this
  have hz':z=-1:=by omega
  subst hz'
  ((conv=>whnf);repeat' ((first|refine odw ?_|refine nx ?_|refine AX (λ_=>?_) (λ_=>?_))<;>conv=>whnf))
  rw[C8]at hall
  exact⟨P,UZ hall,rfl⟩
 |
  succ k=>
  have hz':z=(k:Int):=by omega
  subst hz'
  have hk:=L2 k (by omega)
  have hfp:=M4 k
  have hfk:=Lp k (by omega)
  have hdl:(L.map dI).length=k+1:=by rw[Ac];exact hL
  have hdp:(P.map dI).length=P.length:=Ac _
  have hq:r/DS k<k+1:=(Nat.div_lt_iff_lt_mul hfp).2 hrk
  have hq1:IntKind.i64.wrap ((r:Int).tdiv (DS k:Int))=((r/DS k:Nat):Int):=by
   rw[Int.tdiv_eq_ediv_of_nonneg (by omega),<-Int.natCast_ediv]
   generalize r/DS k=q at hq
   exact FT ⟨by omega,by omega⟩
  have hr1:(r:Int).tmod (DS k:Int)=((r % DS k:Nat):Int):=by rw[Int.tmod_eq_emod_of_nonneg (by omega),<-Int.natCast_emod]
  have hrm:=Nat.mod_lt r hfp
  generalize hQ:r/DS k=q at hq hq1
  generalize hM:r % DS k=m at hr1 hrm
  have hx:=Ab (l:=L) (i:=q) (by omega)
  generalize L[q]'(by omega)=x at hx
  have hxd:(L.map dI)[q]? =some (.int .i64 x):=by rw[Al,hx];rfl
  (conv=>whnf)
  (repeat' ((first|refine A6 ?_ ?_|refine A8 rfl hk ?_|refine Vx hq1 ?_|refine V9 (i:=q) rfl (by omega) ?_|refine V8 hxd ?_|refine nx ?_|refine AX (λ_=>?_) (λ_=>?_)|exact Bj)<;>conv=>whnf))
  refine J1 rfl rfl (RH L q (by omega)) ?_;rintro ds rfl
  ((conv=>whnf);repeat' ((first|refine odw ?_|refine nx ?_|refine AX (λ_=>?_) (λ_=>?_))<;>conv=>whnf))
  refine⟨(k,(k:Int)-1,P++[x],L.eraseIdx q,m),_,_,⟨rfl,?_,?_,hrm⟩,.refl _ _,⟨rfl,rfl,rfl,Vy (by first|exact hr1|exact hr1.symm),trivial⟩,⟨El (by rw[AZ];rfl),rfl,trivial⟩,Nat.lt_succ_self k⟩
  ·show(L.eraseIdx q).length=k
   rw[List.length_eraseIdx_of_lt (by omega)];omega
  ·show(P++[x]++L.eraseIdx q).Perm (KN n)
   rw[Bl]
   exact(List.Perm.append_left P (Tg hx).symm).trans hall
end Go.Proofs.YtjejpdfldmempaaGreatDoor
end
section
namespace Go.Proofs.YtjejpdfldmempaaGreatDoor
open Go.Sx Go.RowKit Go.Reg Go.Gr
set_option maxRecDepth 100000
theorem MN {p:Pt}(hp:Dr p=none):PtOk p.labels.length p:=⟨rfl,(BL hp).2.1,(BL hp).2.2⟩
theorem Kt {p:Pt}(hp:Dr p=none) {b:List Int}(hb:Bx p.labels.length b):Dr (AQ p b)=none:=by
 have hl:=Fb (BL hp).1
 exact WQ (FU hb (MN hp)) hl.1 λx hx=>hl.2 x ((IY (MN hp) hb).mem_iff.1 hx)
theorem It {p:Pt}(hp:Dr p=none):Dr (BC p)=none:=by
 obtain⟨_,h1,h2,_⟩:=Il (MN hp)
 rw[h2];exact Kt hp h1
theorem VR {p:Pt}(hp:Dr p=none) {b:List Int}(hb:Bx p.labels.length b):Pure C1 15 [Fv p,D1 b] (λy=>y=.tuple [Fv (AQ p b),.nili]):=
 LM p hp (by have:=(Hp hp).2;omega) b ((Sn (by have:=(Fb (BL hp).1).1;rw[hb.1];omega)).2 (by rw[hb.1];exact hb)) hb.1
def Zd:List FuncId:=[108]
theorem RO {p:Pt}(hp:Dr p=none):Pure C1 64 [Fv p] (λy=>y=Fv (BC p)):=by
 have hf:=TH p hp (by have:=(Hp hp).2;omega)
 refine CI Tryz.func64 Tryz.ntmps64 Zd [] ?_
 (conv=>whnf)
 (repeat' ((first|refine A6 ?_ ?_|refine A8 rfl hf ?_|refine nx ?_|refine AX (λ_=>?_) (λ_=>?_)|exact Bj)<;>conv=>whnf))
 exact rfl
theorem ML(p:Pt):Pure C1 71 [Fv p] (λy=>y=Fv p):=by
 refine CI Tryz.func71 Tryz.ntmps71 [] [] ?_
 (conv=>whnf)
 ((conv=>whnf);repeat' ((first|refine odw ?_|refine nx ?_|refine AX (λ_=>?_) (λ_=>?_))<;>conv=>whnf))
 exact rfl
def Dz(l:List (Pt×Int)):Prop:=(∀x∈l,Dr x.1=none/\0<=x.2)/\CL l<=4611686018427387000/\l.length<=50000
def Ry:List (Nat×Plan):=[(4,.leaf [0,0,0,1,2,0,1,3,0] [0,1,2,5,3,6,4,7,8] [0,0,0,4,14,0,32,127,255])]
def XM:List FuncId:=[]
theorem Xf:BA Tryz.prog XM Ry (Tryz.f63.body.getD .skip)=true:=by kernel_rfl
theorem W9(vs:Array Value)(w:World):(callFunc 63 vs).run C1.P w=.ok (.enter 63 vs) w:=by kernel_rfl
theorem MR(g:FuncId)(u:Pt->Pt)(hg:∀p,Dr p=none->Dr (u p)=none/\Pure C1 g [Fv p] (λy=>y=Fv (u p)))(s l:List (Pt×Int))(m:List (ByteArray×RowV))(X:List (Value×Da))(ht:Ew s m)(hs:Dz s)(ho:FJ B9 s)(hl:Dz l):
  BH C3 63 [.own 900,.d (RI l),.d (.func (.func g) [] [])] (sT m X) [900] (λd σ=>∃z:List (ByteArray×RowV)×List (Value×Da),d=.d .nili/\σ=sT z.1 z.2/\Ew (BB B9 u s l) z.1):=by
 have hlm:(l.map Dl).length=l.length:=Ac _
 have hl3:=hl.2.2
 refine D9 Dc (pl:=Ry) (G:=XM) Tryz.func63 rfl Tryz.ntmps63 W9 Xf (by simp) 999 rfl ?_
 intro vs
 (conv=>whnf)
 ((conv=>whnf);repeat' ((first|refine odw ?_|refine nx ?_|refine AX (λ_=>?_) (λ_=>?_))<;>conv=>whnf))
 refine BK (ι:=Nat×List (ByteArray×RowV)×List (Value×Da)) (λx=>x.1<=l.length/\Ew (BB B9 u s (l.take x.1)) x.2.1) (λx=>[(12,.d (.int .i64 x.1)),(11,.d (.int .i64 (l.map Dl).length)),(10,.d (RI l)),(2,.d (.func (.func g) [] [])),(0,.own 900)])
  (λx=>(999,.ghost vs [.own 900])::sT x.2.1 x.2.2) (λx=>l.length-x.1) (0,m,X) (λ_=>rfl) ⟨AA _,ht⟩ (.refl _ _) ⟨rfl,rfl,rfl,rfl,rfl,trivial⟩ ⟨rfl,rfl,rfl,trivial⟩ ?_
 rintro⟨i,m,X⟩ ⟨hi,hT⟩
 simp only at hi hT
 refine GX [] Ry ?_
 by_cases hlt:i<l.length
 ·have hx:l[i]? =some l[i]:=Ab hlt
  have hxm:=hl.1 _ (AY hx)
  have htk:l.take (i+1)=l.take i++[l[i]]:=by rw[Bc,hx];rfl
  generalize l[i]=x at hx hxm htk
  have hxd:(l.map Dl)[i]? =some (.agg [.agg [D1 x.1.labels,Ip x.1.edges],.int .i64 x.2]):=by rw[Al,hx];rfl
  obtain⟨he,hgp⟩:=hg x.1 hxm.1
  have hgp:=Pure.up3 hgp
  obtain⟨t1,t2,_,_,_⟩:=Kr EX u (l:=l.take i) (λy hy=>(hl.1 y (FQ hy)).2) (λy hy=>(hs.1 y hy).2) ho
  obtain⟨g1,g2,g3⟩:=Tj (λy hy=>(hl.1 y hy).2) hx
  have had:=HV X hT he (n:=x.2) hxm.2 t2 (by rw[t1];have:=hs.2.1;have:=hl.2.1;omega)
  rw[<-Fg,<-htk]at had
  (conv=>whnf)
  (repeat' ((first|refine A6 ?_ ?_|refine Bq hxd rfl ?_|refine A8 rfl hgp ?_|refine nx ?_|refine AX (λ_=>?_) (λ_=>?_)|exact Bj)<;>conv=>whnf))
  refine BM [] [900,901] had (λd σ h=>h) rfl rfl rfl rfl rfl rfl (λ_=>rfl) ?_
  rintro⟨m',X'⟩ hT'
  ((conv=>whnf);repeat' ((first|refine odw ?_|refine nx ?_|refine AX (λ_=>?_) (λ_=>?_))<;>conv=>whnf))
  exact⟨(i+1,m',X'),_,_,⟨hlt,hT'⟩,.refl _ _,⟨rfl,rfl,rfl,rfl,rfl,trivial⟩,⟨rfl,rfl,rfl,trivial⟩,by simp only;omega⟩
 ·have e:l.take i=l:=AN (by omega)
  rw[e]at hT
  ((conv=>whnf);repeat' ((first|refine odw ?_|refine nx ?_|refine AX (λ_=>?_) (λ_=>?_))<;>conv=>whnf))
  exact⟨_,_,[],sT m X,.lo (.refl _ _),rfl,⟨rfl,rfl,trivial⟩,rfl,(m,X),rfl,rfl,hT⟩
theorem Ir {u:Pt->Pt}(hu:∀p,Dr p=none->Dr (u p)=none) {s l:List (Pt×Int)}(hs:Dz s)(hl:Dz l)(ho:FJ B9 s)(h1:CL s+CL l<=4611686018427387000)(h2:s.length+l.length<=50000):Dz (BB B9 u s l)/\FJ B9 (BB B9 u s l):=by
 obtain⟨t1,t2,t3,t4,t5⟩:=Kr EX u (λy hy=>(hl.1 y hy).2) (λy hy=>(hs.1 y hy).2) ho
 refine⟨⟨λx hx=>⟨?_,t2 x hx⟩,by omega,by omega⟩,t5⟩
 rcases t4 x hx with h|⟨y,hy,e⟩|⟨y,hy,e⟩
 ·exact(hs.1 x h).1
 ·rw[e];exact hu _ (hl.1 y hy).1
 ·rw[e];exact(hs.1 y hy).1
theorem D6:Dz []:=⟨λx hx=>(by cases hx),by decide,AA _⟩
theorem E4 {l:List (Pt×Int)}(h:Dz l):∀x∈l,x.1.labels.length<=1000/\x.1.edges.length<=1000:=λx hx=>(Xu (h.1 x hx).1).1
def UY:List (Nat×Plan):=[]
def XL:List FuncId:=[]
theorem Xe:BA Tryz.prog XL UY (Tryz.f17.body.getD .skip)=true:=by kernel_rfl
theorem W8(vs:Array Value)(w:World):(callFunc 17 vs).run C1.P w=.ok (.enter 17 vs) w:=by kernel_rfl
theorem Jw(l:List (Pt×Int))(m:List (ByteArray×RowV))(X:List (Value×Da))(ht:Ew l m)(hl:Dz l):
  BH C3 17 [.own 900] (sT m X) [900] (λd σ=>∃z:List (ByteArray×RowV)×List (Value×Da),d=.tuple [.own 920,.d .nili]/\σ=sT m []++[(920,.cells 106 [.own 921]),(921,(Cy En z.1 z.2).own)]/\Ew (BB B9 BC [] l) z.1):=by
 have hrw:=Fi l m X ht (by have:=hl.2.2;omega) (E4 hl)
 have hall:=MR 64 BC (λp hp=>⟨It hp,RO hp⟩) [] l [] [] Fj D6 .nil hl
 refine D9 Dc (pl:=UY) (G:=XL) Tryz.func17 rfl Tryz.ntmps17 W8 Xe (by simp) 999 rfl ?_
 intro vs
 (conv=>whnf)
 ((conv=>whnf);repeat' ((first|refine odw ?_|refine nx ?_|refine AX (λ_=>?_) (λ_=>?_))<;>conv=>whnf))
 refine Bm [(920,900),(921,901)] [] Gz rfl rfl rfl rfl rfl rfl rfl ?_
 (conv=>whnf)
 ((conv=>whnf);repeat' ((first|refine odw ?_|refine nx ?_|refine AX (λ_=>?_) (λ_=>?_))<;>conv=>whnf))
 refine Bm [] [900,901] hrw rfl rfl rfl rfl rfl rfl rfl ?_
 (conv=>whnf)
 (repeat' ((first|refine A6 ?_ ?_|refine CG 910 rfl ?_|refine nx ?_|refine AX (λ_=>?_) (λ_=>?_)|exact Bj)<;>conv=>whnf))
 refine BM [(920,900),(921,901)] [920,921] hall (λd σ h=>h) rfl rfl rfl rfl rfl rfl (λ_=>rfl) ?_
 rintro⟨m2,X2⟩ hT2
 (conv=>whnf)
 ((conv=>whnf);repeat' ((first|refine odw ?_|refine nx ?_|refine AX (λ_=>?_) (λ_=>?_))<;>conv=>whnf))
 exact⟨_,_,[],[(900,.cells 106 [.own 901]),(901,(Cy En m []).own),(920,.cells 106 [.own 921]),(921,(Cy En m2 X2).own)],.lo (.refl _ _),rfl,⟨rfl,rfl,rfl,rfl,trivial⟩,rfl,(m2,X2),rfl,rfl,hT2⟩
end Go.Proofs.YtjejpdfldmempaaGreatDoor
end
