/- Merged: Adw Agx Agy. -/
import Derived.Test.YtjejpdfldmempaaGreatDooragba
import Derived.Test.YtjejpdfldmempaaGreatDooragaw
import Derived.Test.YtjejpdfldmempaaGreatDoorRows
import Derived.JoinedCond
section
namespace Go.Proofs.YtjejpdfldmempaaGreatDoor
open Go.ChangeShapes Go.WideShapes Go.ChangeAt Go.RowKit Go.Reg Go.Gr Go.Sx Go.ChangeMaps
theorem LK {α:Type} {D:α->Da} {enc:α->List Value} {w:World}:∀{l:List α},(∀x∈l,RepC [] w (D x) (enc x))->Ai [] w (l.map D) (l.map enc)
 |[],_=>by simp[Ai]
 |
  x::l,h=>by
  simp only[Am,Ai]
  exact⟨_,_,rfl,h x (by simp),LK λy hy=>h y (by simp[hy])⟩
theorem UL {α:Type} {D:α->Da} {enc:α->List Value} {k:Nat} {w:World} {v:Value} {l:List α}(hk:0<k)(hlen:∀x,(enc x).length=k)(hone:∀x∈l,∀u∈enc x,u.oneCell'=true)(hrep:∀x∈l,RepC [] w (D x) (enc x))(h:Dt k enc w v l)(hcap:∀a n c,v=.slice a n c->n<=c/\c<=maxLen):Rep [] w (.list k (l.map D)) v:=by
 obtain⟨a,c,rfl,hm,hc⟩:=h
 obtain⟨c1,c2⟩:=hcap _ _ _ rfl
 refine⟨[_],?_,rfl⟩
 simp only[RepC]
 refine⟨a,c,l.map enc,by simp,by simpa using c1,c2,LK hrep,λx hx=>?_,?_⟩
 ·obtain⟨y,hy,rfl⟩:=Av.1 hx
  exact⟨hlen y,hone y hy⟩
 cases l with
 |nil=>exact .inl rfl
 |
  cons x l=>
  right
  obtain⟨b,o,rfl,h0⟩:=hc 0 x rfl
  have hcell:Ds w b o ((x::l).map enc).flatten:=by
   intro j u hj
   have hlen2:∀(m:List α),(m.map enc).flatten.length=m.length*k:=λm=>by
    induction m with
    |nil=>simp
    |cons y m ih=>simp only[Am,Bu,Ao,ih,hlen,Au,Nat.succ_mul];omega
   have hjl:j<(x::l).length*k:=by rw[<-hlen2];exact(Ak.1 hj).1
   have hi:j/k<(x::l).length:=(Nat.div_lt_iff_lt_mul hk).2 hjl
   have hy:=Ab hi
   obtain⟨b',o',he,h2⟩:=hc (j/k) _ hy
   cases he
   have:=h2 (j % k) u (by
    have h3:=Im hlen (x::l) (j/k) ((x::l)[j/k]) (j % k) hy (Nat.mod_lt _ hk)
    rw[<-h3,List.flatMap_def,Nn,Nat.div_add_mod]
    exact hj)
   rwa [Ev,Nn,Nat.div_add_mod]at this
  refine⟨b,o,rfl,by simp,?_,hcell⟩
  have hx:∃u,(enc x)[0]? =some u:=⟨_,Ab (by rw[hlen];exact hk)⟩
  obtain⟨u,hu⟩:=hx
  have:=h0 0 u hu
  unfold World.cell? at this
  rcases Ei b w.heap.size with hl|hl
  ·exact hl
  ·rw[Array.getElem?_eq_none (by omega)]at this;cases this
theorem NF {w:World} {ds:List Da} {k:Nat} {v:Value}(h:Rep [] w (.list k ds) v):RepC [] w (.list k ds) [v]/\∃a n c,v=.slice a n c:=by
 obtain⟨cs,h1,h2⟩:=h
 have h1':=h1
 simp only[RepC]at h1'
 obtain⟨a,c,_,rfl,_⟩:=h1'
 have:v=.slice a ds.length c:=h2
 subst this
 exact⟨h1,_,_,_,rfl⟩
set_option maxRecDepth 100000 in
theorem XZ {H:Type} {e':TypeId×Value->H} {w:World} {spare:Nat->Bool} {held:Bool}(n:Nat)(cs:List Value)(y:DataW H×List MemPlace)
  (h:DataW.trod e' Tryz.prog w 0 spare held n 37 cs=some y):∃x:(Pt×Int)×Value×Value,cs=[x.2.1,x.2.2,.int .i64 x.1.2]/\(RepC [] w (D1 x.1.1.labels) [x.2.1]/\(∃a n c,x.2.1=.slice a n c))/\RepC [] w (Ip x.1.1.edges) [x.2.2]/\∃a n c,x.2.2=.slice a n c:=by
 obtain⟨xs,k,_,_,hcl,hxl,hf⟩:=DataW.trod_struct Tryz.underlying37 h
 have cl:cs.length=3:=hcl.trans (by kernel_rfl)
 match cs,cl with
 |
  [c0,c1,c2],_=>
  have hx2:xs.length=2:=hxl
  match xs,hx2 with
  |
   [y0,y1],_=>
   have k1:Tryz.prog.cellsOf 35=2:=by kernel_rfl
   have k2:Tryz.prog.cellsOf 2=1:=by kernel_rfl
   have g0:=hf 0 _ rfl
   have g1:=hf 1 _ rfl
   simp[k1,k2]at g0 g1
   obtain⟨n1,h1,_⟩:=DataW.trod_int Tryz.underlying2 g1
   simp at h1
   subst h1
   obtain⟨zs,k3,_,_,_,hzl,hf2⟩:=DataW.trod_struct Tryz.underlying35 g0
   have hz2:zs.length=2:=hzl
   match zs,hz2 with
   |
    [z0,z1],_=>
    have k4:Tryz.prog.cellsOf 28=1:=by kernel_rfl
    have k5:Tryz.prog.cellsOf 33=1:=by kernel_rfl
    have q0:=hf2 0 _ rfl
    have q1:=hf2 1 _ rfl
    simp[k4,k5]at q0 q1
    obtain⟨a0,n0,m0,e0,h00,h01⟩:=FV Tryz.underlying28 q0
    obtain⟨a1,n1',m1,e1,h10,h11⟩:=FV Tryz.underlying33 q1
    simp only[Co,and_true]at e0 e1
    subst e0 e1
    obtain⟨l,r0,_⟩:=KK (enc:=eI.enc) (λ_=>True) Tryz.underlying28 (k:=1) (by kernel_rfl) (by decide) (λ_=>rfl) Yo ⟨_,_,_,rfl⟩ (⟨k3,q0⟩:DataW.Trod e' Tryz.prog w 0 spare held 28 (.slice a0 n0 m0) z0.1 z0.2)
    obtain⟨E,r1,_⟩:=KK (enc:=eE.enc) (λ_=>True) Tryz.underlying33 (k:=2) (by kernel_rfl) (by decide) (λ_=>rfl) WU ⟨_,_,_,rfl⟩ (⟨k3,q1⟩:DataW.Trod e' Tryz.prog w 0 spare held 33 (.slice a1 n1' m1) z1.1 z1.2)
    have s0:=eI.rep_arg (by decide) r0 (λa n c e=>by cases e;exact⟨h00,h01⟩)
    have s1:=eE.rep_arg (by decide) r1 (λa n c e=>by cases e;exact⟨h10,h11⟩)
    exact⟨((⟨l,E⟩,n1),.slice a0 n0 m0,.slice a1 n1' m1),rfl,NF s0,NF s1⟩
set_option maxRecDepth 100000 in
theorem NC {H:Type} {e':TypeId×Value->H} {w:World} {held:Bool} {spare:Nat->Bool} {r:Reach} {b0:Nat} {v:Value} {d:DataW H} {ps:List MemPlace}(hval:Value.okWide Tryz.prog w r b0 22 v)(h:DataW.Trod e' Tryz.prog w 0 spare held 22 v d ps):∃l:List (Pt×Int),Sx.Rep [] w (.list 3 (l.map Dl)) v:=by
 have hc:=Sx.cap_of Tryz.underlying22 hval h
 obtain⟨l,a,hl⟩:=VS (α:=(Pt×Int)×Value×Value) (enc:=λx=>[x.2.1,x.2.2,.int .i64 x.1.2]) (λx=>(RepC [] w (D1 x.1.1.labels) [x.2.1]/\(∃a n c,x.2.1=.slice a n c))/\RepC [] w (Ip x.1.1.edges) [x.2.2]/\∃a n c,x.2.2=.slice a n c) Tryz.underlying22 (k:=3) (by kernel_rfl) (by decide) (λ_=>rfl) XZ hval h
 refine⟨l.map (·.1),?_⟩
 rw[Np]
 refine UL (k:=3) (enc:=λx:(Pt×Int)×Value×Value=>[x.2.1,x.2.2,.int .i64 x.1.2]) (D:=λx:(Pt×Int)×Value×Value=>Dl x.1) (by decide) (λ_=>rfl) (λx hx u hu=>?_) (λx hx=>?_) a hc
 ·obtain⟨⟨_,a0,n0,m0,e0⟩,_,a1,n1,m1,e1⟩:=hl x hx
  simp only[Ad,Ua,or_false]at hu
  rcases hu with rfl|rfl|rfl
  ·rw[e0];rfl
  ·rw[e1];rfl
  ·rfl
 ·obtain⟨⟨p0,_⟩,p1,_⟩:=hl x hx
  simp only[Dl,Fv,RepC,RepCs]
  exact⟨[x.2.1,x.2.2],_,rfl,⟨_,_,rfl,p0,_,_,rfl,p1,rfl⟩,_,_,rfl,rfl,rfl⟩
end Go.Proofs.YtjejpdfldmempaaGreatDoor
end
section
namespace Go.Proofs.YtjejpdfldmempaaGreatDoor
open Go.ChangeShapes Go.WideShapes Go.ChangeAt Go.RowKit Go.Reg Go.Gr Go.ChangeMaps
set_option maxRecDepth 100000 in
theorem JQ(H:Type)(enc:TypeId×Value->H)(W:World)(base:Nat)(args:Array Value)(ds gs:List (DataW H))(before:List MemPlace)
  (hval:∀(j:Nat) t v,Tryz.f3.params[j]? =some t->args[j]? =some v->Value.okWide Tryz.prog W .any base t v)
  (hW:DataW.Whole enc Tryz.prog Tryz.f3.params.toList Rows.aggFoldsSpec.vars false W args.toList ds gs before) (hsz0:(DataW.weightsEach Tryz.prog (Tryz.f3.params.toList++(OpenSpec.ofChange Rows.aggFoldsSpec).bare.plain.varTypes Tryz.prog) (ds++gs)).all (· <=reachBytes)=true) (hL:laidMetH Tryz.prog Rows.aggFoldsRow.laid W) (_hsh:W.ShapedOpen Tryz.prog):
  Calls Tryz.prog 3 args W λe W'=>∃v,e=.returned v/\Rows.aggFoldsSpec.post enc Tryz.prog Tryz.f3 false true false false W args v W':=by
 have hsz:=hsz0
 clear hsz0
 have hW':=hW
 obtain⟨p,q,hA0,hV,rfl,hfz,hnd⟩:=hW
 have hA:DataW.TrodAll enc Tryz.prog W 0 (λ_=>true) true Tryz.f3.params.toList args.toList ds p:=hA0
 rw[Tryz.params3]at hA hval hsz
 obtain⟨v0,v1,v2,d0,d1,d2,p0,p1,p2,rfl,rfl,rfl,h0,h1,h2⟩:=trodAll_three hA
 obtain⟨rfl,rfl⟩:=trodVars_none hV
 obtain⟨x0,r0⟩:=NC (hval 0 _ _ rfl rfl) h0
 obtain⟨x1,r1⟩:=NC (hval 1 _ _ rfl rfl) h1
 obtain⟨x2,rfl,rfl,rfl,w2⟩:=open_int Tryz.underlying23 (hval 2 _ _ rfl rfl) h2
 have b2:0<=x2/\x2<=65535:=by
  have e1:IntKind.u16.min=0:=by decide
  have e2:IntKind.u16.max=65535:=by decide
  have:=w2
  simp[Lit.wf,e1,e2]at this;omega
 have hg:=V3 (show laidMetH Tryz.prog Ij W from hL)
 have l0:∀x∈p0,x.block<W.heap.size:=λx hx=>by have:=hW'.lt x (by simp[hx]);simpa using this
 have l1:∀x∈p1,x.block<W.heap.size:=λx hx=>by have:=hW'.lt x (by simp[hx]);simpa using this
 refine((QI x0 x1 x2 b2).calls hg (Sx.reps_cons r0 (Sx.reps_cons r1 (Sx.reps_cons (Sx.rep_of_int .u16 x2) Sx.reps_nil)))).mono λe W' ⟨u,y,he,hy,hr,ht⟩=>?_
 subst hy
 obtain rfl:=UK hr
 subst he
 refine⟨_,rfl,_,_,_,[],p0++(p1++[]),[],hW',?_,?_,?_,?_,λh=>by cases h⟩
 ·exact trodAll_mk1 (shut_bool Tryz.underlying4 true)
 ·exact trodAll_mk3 (Below.trod S6 (by kernel_rfl) (of_decide_eq_true (by kernel_rfl)) h0 ht.below l0) (Below.trod S6 (by kernel_rfl) (of_decide_eq_true (by kernel_rfl)) h1 ht.below l1) (shut_int Tryz.underlying23 w2)
 ·rfl
 ·refine⟨ht.os,ht.output,λi hi=>?_⟩
  rw[ht.blk i hi (by simp)]
  have hsome:∃o,W.heap[i]? =some o:=⟨_,AT hi⟩
  obtain⟨o,ho⟩:=hsome
  rw[ho]
  cases o<;>simp
theorem Ng(os:Os) {H:Type}(enc:TypeId×Value->H):∃places,DataW.whole enc Tryz.prog ((JM os).forCall (λ_ _=>0) ⟨#[],#[.slice none 0 0,.slice none 0 0,.int .u16 0],[]⟩).memory Tryz.f3.params.toList Rows.aggFoldsSpec.vars false #[.slice none 0 0,.slice none 0 0,.int .u16 0].toList 8=some ([.nil,.nil,.lit (.int .u16 0)],[],places):=
 ⟨[],by kernel_rfl⟩
set_option maxRecDepth 100000 in
theorem Mj(os:Os)(started:os.Started)(H:Type)(enc:TypeId×Value->H)(F:Stop.Interp):
  ReturnsInHanded {} Tryz.checked os 3 .any ((OpenSpec.ofChange Rows.aggFoldsSpec).preRow enc Tryz.prog Tryz.f3 Rows.aggFoldsRow.domain false Rows.aggFoldsRow.laid) (((OpenSpec.ofChange Rows.aggFoldsSpec).at F).post enc Tryz.prog Tryz.f3 false true false false):=by
 obtain⟨places,hx⟩:=Ng os enc
 refine returnsInHanded_of_row (C:=Tryz.checked) (s:=OpenSpec.ofChange Rows.aggFoldsSpec) own started (by kernel_rfl) Tryz.func3
  (witness_row_at (enc:=enc) (C:=Tryz.checked) false (JM os) #[.slice none 0 0,.slice none 0 0,.int .u16 0] rfl (by kernel_rfl) (by kernel_rfl) (by kernel_rfl)
   (OpenSpec.preRow_of_cond 8 hx (by kernel_rfl) (λk hk=>by cases hk) (by kernel_rfl) (Nj os _))) ?_
 intro W base args ds gs before hval hW _ _ hsz hL hsh _
 exact JQ H enc W base args ds gs before hval hW hsz hL hsh
end Go.Proofs.YtjejpdfldmempaaGreatDoor
end
section
namespace Go.Proofs.YtjejpdfldmempaaGreatDoor
open Go.ChangeShapes Go.WideShapes Go.ChangeAt
theorem KX:(Rows.aggFoldsRow.wf (OpenSpec.ofChange (OpenSpec.ofChange Rows.aggFoldsSpec).bare))=true:=by kernel_rfl
theorem KW:(laidOutB Tryz.pinned.checked.prog)=true:=by kernel_rfl
theorem KV:(mapsRowed Tryz.pinned.checked.prog)=true:=by kernel_rfl
theorem KU:(Tryz.f3.params.all (Tryz.pinned.checked.prog.readableRec ·))=true:=by kernel_rfl
theorem KT:(namedTie Tryz.pinned.checked.prog Rows.aggFoldsRow.named (OpenSpec.ofChange Rows.aggFoldsSpec).bare.vars)=true:=by kernel_rfl
theorem KS:((Rows.aggFoldsRow.stops==[]))=true:=by kernel_rfl
theorem KR:((Tryz.pinned.checked.prog.stops==[]))=true:=by kernel_rfl
theorem KQ:((Rows.aggFoldsRow.knobs==[]))=true:=by kernel_rfl
theorem KP:((Tryz.pinned.checked.prog.stopKnobs==[]))=true:=by kernel_rfl
theorem KO:((Rows.aggFoldsRow.inPlace==Tryz.pinned.checked.prog.inPlace 3))=true:=by kernel_rfl
theorem Km:((Rows.aggFoldsRow.unfollowed==Tryz.pinned.checked.prog.unfollowed 3))=true:=by kernel_rfl
theorem Kl:((Rows.aggFoldsRow.recurses==Tryz.pinned.checked.prog.recurses 3))=true:=by kernel_rfl
theorem Kk:((Rows.aggFoldsRow.named==Tryz.pinned.checked.prog.varsNamed 3))=true:=by kernel_rfl
theorem Kj:((Rows.aggFoldsRow.maps==(Tryz.f3.params.toList++(OpenSpec.ofChange Rows.aggFoldsSpec).bare.plain.varTypes Tryz.pinned.checked.prog).any (Tryz.pinned.checked.prog.mapsRec ·)))=true:=by kernel_rfl
theorem Ki:((Rows.aggFoldsRow.ifaces==(Tryz.f3.params.toList++(OpenSpec.ofChange Rows.aggFoldsSpec).bare.plain.varTypes Tryz.pinned.checked.prog).any (Tryz.pinned.checked.prog.ifacesRec ·)))=true:=by kernel_rfl
theorem Kh:((Rows.aggFoldsRow.mapsOut==Tryz.pinned.checked.prog.mapsAmong Tryz.f3.resultTypes.toList))=true:=by kernel_rfl
theorem Kg:((Rows.aggFoldsRow.loops==(Tryz.f3.params.toList++(OpenSpec.ofChange Rows.aggFoldsSpec).bare.plain.varTypes Tryz.pinned.checked.prog).any (Tryz.pinned.checked.prog.loopsFrom ·)))=true:=by kernel_rfl
theorem Kf:((Rows.aggFoldsRow.wideKeys==(Tryz.f3.params.toList++(OpenSpec.ofChange Rows.aggFoldsSpec).bare.plain.varTypes Tryz.pinned.checked.prog++Tryz.f3.resultTypes.toList).any (Tryz.pinned.checked.prog.wideKeysFrom ·)))=true:=by kernel_rfl
theorem Ke:((OpenSpec.ofChange Rows.aggFoldsSpec).bare.vars.all (Tryz.pinned.checked.prog.varReadable ·))=true:=by kernel_rfl
theorem Kd:(Tryz.f3.resultTypes.all (λt=>Tryz.pinned.checked.prog.readableRec t&&decide (t<Tryz.pinned.checked.prog.types.size)))=true:=by kernel_rfl
theorem Kc:((Rows.aggFoldsRow.ifacesOut==Tryz.f3.resultTypes.toList.any (Tryz.pinned.checked.prog.ifacesRec ·)))=true:=by kernel_rfl
theorem Kb:((Rows.aggFoldsRow.loopsOut==Tryz.f3.resultTypes.toList.any (Tryz.pinned.checked.prog.loopsFrom ·)))=true:=by kernel_rfl
theorem Ka:((Rows.aggFoldsRow.plainKeys==Tryz.pinned.checked.prog.plainKeys))=true:=by kernel_rfl
theorem JZ:(Rows.aggFoldsRow.shortTexts.isNone)=true:=by kernel_rfl
theorem JY:(Tryz.pinned.checked.prog.stopsHeard)=true:=by kernel_rfl
theorem JX:(Tryz.pinned.checked.prog.mayEnter)=true:=by kernel_rfl
theorem JW:((Rows.aggFoldsRow.lifted==Tryz.pinned.checked.prog.liftsFinal))=true:=by kernel_rfl
theorem JV:((Tryz.pinned.checked.prog.make==some Rows.aggFoldsRow.make))=true:=by kernel_rfl
theorem JU:((Rows.aggFoldsRow.pinned==Rows.aggFoldsRow.pinnedBy))=true:=by kernel_rfl
theorem JT:((Rows.aggFoldsRow.veiled==(Tryz.f3.params.toList++(OpenSpec.ofChange Rows.aggFoldsSpec).bare.plain.varTypes Tryz.pinned.checked.prog++Tryz.f3.resultTypes.toList).any (Tryz.pinned.checked.prog.veiledRec ·)))=true:=by kernel_rfl
theorem JS:(Rows.aggFoldsRow.veiledFits Tryz.pinned.checked.prog Tryz.f3.params.toList (Tryz.f3.params.toList++(OpenSpec.ofChange Rows.aggFoldsSpec).bare.plain.varTypes Tryz.pinned.checked.prog++Tryz.f3.resultTypes.toList))=true:=by kernel_rfl
theorem MC:joinedFacts Tryz.pinned.checked.prog 3 Tryz.f3 (OpenSpec.ofChange Rows.aggFoldsSpec).bare Rows.aggFoldsRow=true:=by
 unfold joinedFacts
 rw[KX,KW,KV,KU,KT,KS,KR,KQ,KP,KO,Km,Kl,Kk,Kj,Ki,Kh,Kg,Kf,Ke,Kd,Kc,Kb,Ka,JZ,JY,JX,JW,JV,JU,JT,JS]
 simp only[Bool.true_and,Bool.and_true]
 kernel_rfl
end Go.Proofs.YtjejpdfldmempaaGreatDoor
end
