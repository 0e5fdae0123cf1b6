/- Sxn. -/
import Derived.Test.YtjpmmkodoeipmaaGreatDoorrkai
import Derived.Laws.StructEq
import Derived.Deep.LoopGhost
namespace Go.Sx
open Go Go.RowKit Go.Reg
theorem CQ:∀{σ:Sg} {i:Nat},BI i σ=none->i∉BA σ
 |[],i,_=>by simp[BA]
 |
  (j,o)::σ,i,h=>by
  rcases BN j i with⟨hb,_⟩|⟨hb,e⟩
  ·simp[BI,hb]at h
  ·simp only[BI,hb]at h
   have:=CQ h
   intro hm
   rcases Ai.1 hm with e2|hm
   ·exact e e2.symm
   ·exact this hm
theorem MF {i:Nat} {σ:Sg} {K:Nat->Prop} {no:Prop}(h:UU i σ K no):no\/∃j,j∉BA σ/\K j:=by
 unfold UU at h
 split at h
 ·rename_i hg;exact .inr ⟨_,CQ hg,h⟩
 ·split at h
  ·rename_i hg;exact .inr ⟨_,CQ hg,h⟩
  ·split at h
   ·rename_i hg;exact .inr ⟨_,CQ hg,h⟩
   ·exact .inl h
section
variable {C:Cx} {T:Hh} {B S:List Nat} {w0 w:World} {n:Nat} {fr:Fr} {σ:Sg} {η:Nat->Value} {φ:Nat->List Nat} {a:Act} {v vx vy:Value} {no:Prop}
theorem Models.add(h:Models C B S w0 n fr σ η φ a w) {w':World}(t:Tch [] w w') {i:Nat}(hi:i∉BA σ) {o:Own} {v:Value} {F:List Nat}(hF:∀b∈F,w.heap.size<=b)
  (ho:∀O',Later (B++Ao φ σ) w O' w'->o.holds (CE η i v) (i::BA σ) O' w' v F) {dst:Option Nat} (hd:Dh dst n=true):Models C B S w0 n (CF dst (.own i) fr) ((i,o)::σ) (CE η i v) (CE φ i F) (a.put dst v) w':=by
 have hl:Later (B++Ao φ σ) w (B++(F++Ao φ σ)) w':=by
  refine⟨t.size,λb h _=>t.blk b h (by simp),λb hn hs hm=>?_⟩
  rcases Ag.1 hm with hm|hm
  ·exact hn (Au _ hm)
  ·rcases Ag.1 hm with hm|hm
   ·have:=hF b hm;omega
   ·exact hn (Av _ hm)
 obtain⟨m1,m2⟩:=h.mem.add t hi hF (ho _ hl)
 have M:Models C B S w0 n fr ((i,o)::σ) (CE η i v) (CE φ i F) a w':=⟨m1,HE.add (w':=w') h.fr hi m2,h.defers,h.size⟩
 exact M.put hd ⟨[v],by simp only[AH];exact⟨by simp[BA],by rw[Ck]⟩,rfl⟩
theorem P4(i:Nat)(o:Own):∀(σ:Sg) (p:Nat×Own),p∈Fm i o σ↔p∈(i,o)::σ
 |[],p=>by simp[Fm]
 |
  (j,q)::σ,p=>by
  simp only[Fm]
  split
  ·exact SD
  ·simp only[Ai,P4 i o σ p]
   constructor
   ·rintro(h|h|h)
    ·exact .inr (.inl h)
    ·exact .inl h
    ·exact .inr (.inr h)
   ·rintro(h|h|h)
    ·exact .inr (.inl h)
    ·exact .inl h
    ·exact .inr (.inr h)
theorem C7(i:Nat)(o:Own):∀(σ:Sg),(Fm i o σ).Perm ((i,o)::σ)
 |[]=>Po _
 |
  (j,q)::σ=>by
  simp only[Fm]
  split
  ·exact Po _
  ·exact((C7 i o σ).cons _).trans (List.Perm.swap _ _ _)
theorem Models.perm(h:Models C B S w0 n fr σ η φ a w) {σ':Sg}(hp:σ'.Perm σ):Models C B S w0 n fr σ' η φ a w:=by
 have hids:∀i,i∈BA σ'↔i∈BA σ:=λi=>(hp.map (·.1)).mem_iff
 have hbl:∀b,b∈B++Ao φ σ'↔b∈B++Ao φ σ:=λb=>by
  simp only[Ag]
  refine or_congr SD ?_
  simp only[Ao,AL]
  constructor
  ·rintro⟨p,h1,h2⟩;exact⟨p,hp.mem_iff.1 h1,h2⟩
  ·rintro⟨p,h1,h2⟩;exact⟨p,hp.mem_iff.2 h1,h2⟩
 have hl:Later (B++Ao φ σ) w (B++Ao φ σ') w:=⟨Ax _,λ_ _ _=>rfl,λb hn _ hm=>hn ((hbl b).1 hm)⟩
 have hI:∀i∈BA σ,i∈BA σ'/\η i=η i:=λi hi=>⟨(hids i).2 hi,rfl⟩
 refine⟨⟨h.mem.tch,λp hpm=>(h.mem.own p (hp.mem_iff.1 hpm)).later hl hI (Tch.refl [] w) (λ_ _=>by simp),(hp.map (λp:Nat×Own=>p.1)).nodup_iff.2 h.mem.nodup,λi hi j hj=>h.mem.disj i ((hids i).1 hi) j ((hids j).1 hj),λi hi=>h.mem.new i ((hids i).1 hi),h.mem.out,λg hg=>(h.mem.glob g hg).later hl⟩,h.fr.later hl hI,h.defers,h.size⟩
theorem Models.newCells(h:Models C B S w0 n fr σ η φ a w) {t:TypeId} {ds:List Dat} {cs:List Value}(hr:B6 η (BA σ) (B++Ao φ σ) w ds cs) {i:Nat}(hi:i∉BA σ) {dst:Option Nat}(hd:Dh dst n=true):
  ∃η' φ',Models C B S w0 n (CF dst (.own i) fr) (Fm i (.cells t ds) σ) η' φ' (a.put dst (.pointer (some ⟨w.heap.size,0,none⟩))) (w.alloc (.cells cs.toArray t)):=
 ⟨_,_,(h.add (Tch.alloc w _ []) hi (o:=.cells t ds) (v:=.pointer (some ⟨w.heap.size,0,none⟩)) (F:=[w.heap.size]) (by simp) (λO' hl=>⟨w.heap.size,cs,rfl,rfl,IV.new w t cs,B6.later hl (λj hj=>⟨A9 _ hj,BU _ _ _ (λ(e:j=i)=>hi (e▸hj))⟩) _ _ hr⟩) hd).perm (C7 _ _ _)⟩
theorem NY {η:Nat->Value} {I O:List Nat} {w:World} {x:Dat} {cx:List Value}(hx:AH η I O w x cx):∀{ds:List Dat} {cs:List Value} {i:Nat} {d:Dat},B6 η I O w ds cs->CP i ds=some d->d.size=x.size->B6 η I O w (Gd i x ds) (splice cs (DQ i ds) cx)/\DQ i ds+cx.length<=cs.length
 |[],cs,i,d,h,hf,hs=>by simp[CP]at hf
 |
  y::ds,cs,i,d,h,hf,hs=>by
  simp only[B6]at h
  obtain⟨c1,c2,rfl,h1,h2⟩:=h
  have hl:=EL y c1 h1
  have hlx:=EL x cx hx
  cases i with
  |
   zero=>
   simp only[CP,AB]at hf
   subst hf
   have:splice (c1++c2) 0 cx=cx++c2:=by
    unfold splice
    rw[uG,C0 (by omega)]
    simp
    rw[show cx.length-c1.length=0 by omega];rfl
   simp only[Gd,DQ,this]
   exact⟨by simp only[B6];exact⟨cx,c2,rfl,hx,h2⟩,by simp;omega⟩
  |
   succ i=>
   simp only[CP]at hf
   obtain⟨g1,g2⟩:=NY hx h2 hf hs
   simp only[Gd,DQ]
   rw[Fw (by omega),hl,show y.size+DQ i ds-y.size=DQ i ds by omega]
   exact⟨by simp only[B6];exact⟨c1,_,rfl,h1,g1⟩,by simp;omega⟩
theorem NZ {x:Dat}:∀{ds:List Dat} {i:Nat} {d:Dat},CP i ds=some d->d.size=x.size->d.isAgg=x.isAgg->(∀j e,CP j (Gd i x ds)=some e->∃e0,CP j ds=some e0/\e0.size=e.size/\e0.isAgg=e.isAgg)/\(∀j,DQ j (Gd i x ds)=DQ j ds)/\(∀j e0,CP j ds=some e0->∃e,CP j (Gd i x ds)=some e/\e.size=e0.size/\e.isAgg=e0.isAgg)
 |[],i,d,hf,hs,ha=>by simp[CP]at hf
 |
  y::ds,i,d,hf,hs,ha=>by
  cases i with
  |
   zero=>
   simp only[CP,AB]at hf
   subst hf
   refine⟨λj e he=>?_,λj=>?_,λj e he=>?_⟩
   ·cases j with
    |zero=>simp only[Gd,CP,AB]at he;subst he;exact⟨y,rfl,hs,ha⟩
    |succ j=>exact⟨e,he,rfl,rfl⟩
   ·cases j with
    |zero=>rfl
    |succ j=>simp only[Gd,DQ,hs]
   ·cases j with
    |zero=>simp only[CP,AB]at he;subst he;exact⟨x,rfl,hs.symm,ha.symm⟩
    |succ j=>exact⟨e,he,rfl,rfl⟩
  |
   succ i=>
   simp only[CP]at hf
   obtain⟨g1,g2,g3⟩:=NZ hf hs ha
   refine⟨λj e he=>?_,λj=>?_,λj e he=>?_⟩
   ·cases j with
    |zero=>exact⟨e,he,rfl,rfl⟩
    |succ j=>exact g1 j e he
   ·cases j with
    |zero=>rfl
    |succ j=>simp only[Gd,DQ,g2 j]
   ·cases j with
    |zero=>exact⟨e,he,rfl,rfl⟩
    |succ j=>exact g3 j e he
theorem JH {η:Nat->Value} {I O:List Nat} {w:World}:∀{ds:List Dat} {cs:List Value} {i:Nat} {d:Dat},B6 η I O w ds cs->CP i ds=some d->∃c,AH η I O w d c/\∀(j:Nat) (u:Value),c[j]? =some u->cs[DQ i ds+j]? =some u
 |[],cs,i,d,h,hf=>by simp[CP]at hf
 |
  y::ds,cs,i,d,h,hf=>by
  simp only[B6]at h
  obtain⟨c1,c2,rfl,h1,h2⟩:=h
  have hl:=EL y c1 h1
  cases i with
  |
   zero=>
   simp only[CP,AB]at hf
   subst hf
   exact⟨c1,h1,λj u hj=>by simp only[DQ,DT];rw[Bi (Ae.1 hj).1];exact hj⟩
  |
   succ i=>
   simp only[CP]at hf
   obtain⟨c,g1,g2⟩:=JH h2 hf
   exact⟨c,g1,λj u hj=>by simp only[DQ];rw[Bv (by omega),hl,show y.size+DQ i ds+j-y.size=DQ i ds+j by omega];exact g2 j u hj⟩
theorem Qx {O:List Nat} {w:World}:∀{ds:List Da} {cs:List Value} {i:Nat} {d:Da},RepCs O w ds cs->Gk i ds=some d->∃c,RepC O w d c/\∀(j:Nat) (u:Value),c[j]? =some u->cs[L1 i ds+j]? =some u
 |[],cs,i,d,h,hf=>by simp[Gk]at hf
 |
  y::ds,cs,i,d,h,hf=>by
  simp only[RepCs]at h
  obtain⟨c1,c2,rfl,h1,h2⟩:=h
  have hl:=FF y c1 h1
  cases i with
  |
   zero=>
   simp only[Gk,AB]at hf
   subst hf
   exact⟨c1,h1,λj u hj=>by simp only[L1,DT];rw[Bi (Ae.1 hj).1];exact hj⟩
  |
   succ i=>
   simp only[Gk]at hf
   obtain⟨c,g1,g2⟩:=Qx h2 hf
   exact⟨c,g1,λj u hj=>by simp only[L1];rw[Bv (by omega),hl,show y.size+L1 i ds+j-y.size=L1 i ds+j by omega];exact g2 j u hj⟩
theorem TZ {P:Program} {t:TypeId} {e:TyI}(h:TyOk P t e) {m:Nat} {os:Nat×TypeId}(hf:e.flds[m]? =some os)(ha:e.agg=true)(b o:Nat):(Instr.fieldAt t (.pointer (some ⟨b,o,none⟩)) m).run P w=.ok (.pointer (some ⟨b,o+os.1,none⟩)) w:=by
 obtain⟨d,h1,_,_,h4,_,h5,_⟩:=h.desc
 obtain⟨fs,rfl⟩:=h5 ha
 obtain⟨g1,g2⟩:=h4 fs rfl
 have hm:(fs.toList.map (λf=>(f.offset,f.type)))[m]? =some os:=by rw[g1];exact hf
 simp only[Ad,Cl]at hm
 obtain⟨f,hf1,hf2⟩:=hm
 obtain⟨i,hi,hpos⟩:=g2 f (A8 hf1)
 have hf3:fs[m]? =some f:=by simpa using hf1
 subst hf2
 simp only[Instr.fieldAt,AK,run_underlying h1,AF,hf3,Instr.sureAddr,Bo]
 have:(fieldPlace ⟨b,o,none⟩ f).run P w=.ok ⟨b,o+f.offset,none⟩ w:=by
  unfold fieldPlace
  have hs:(Go.sizeOf f.type).run P w=.ok i.size w:=by simp[Go.sizeOf,typeInfo,program,Sem.run,hi]
  simp only[AK,hs,AF]
  rw[if_neg (by omega)]
  simp[DA]
 rw[this];rfl
theorem T8(hC:C.Ok T)(hm:Mem C B S w0 σ η φ w) {t:TypeId} {x:Dat} {m:Nat}(hx:RD B σ η φ w x vx) {K:Dat->Prop}(h:LV T t x m σ K no):no\/∃d v,K d/\(Instr.fieldAt t vx m).run C.P w=.ok v w/\RD B σ η φ w d v:=by
 unfold LV at h
 rcases BO h with h|⟨e,he,h⟩
 ·exact .inl h
 have ht:=hC.ty he
 rcases Bz h with h|⟨os,hos,h⟩
 ·exact .inl h
 rcases B9 h with h|⟨ha,h⟩
 ·exact .inl h
 have run:=λb o=>TZ (w:=w) ht hos ha b o
 split at h
 ·rcases B9 h with h|⟨hp,h⟩
  ·exact .inl h
  rcases Bz h with h|⟨d,hd,h⟩
  ·exact .inl h
  have hp:=A0 hp
  obtain⟨cs,h1,h2⟩:=hx
  simp only[AH,RepC]at h1
  obtain⟨b,o,c,rfl,h3,h4,h5,h6⟩:=h1
  obtain⟨c',g1,g2⟩:=Qx h5 hd
  refine .inr ⟨_,_,h,by rw[h2];exact run b o,[_],?_,rfl⟩
  simp only[AH,RepC]
  exact⟨b,o+os.1,c',rfl,h3,h4,g1,Fv.mono h6 (λj u hj=>by rw[<-hp];exact g2 j u hj)⟩
 ·rcases Bz h with h|⟨ow,hg,h⟩
  ·exact .inl h
  split at h
  ·obtain⟨b,cs,e1,_⟩:=DX hm hg
   obtain⟨cs',h1,h2⟩:=hx
   simp only[AH]at h1
   obtain⟨hi,rfl⟩:=h1
   have h2:vx=.pointer (some ⟨b,0,none⟩):=h2.trans (by rw[e1];rfl)
   refine .inr ⟨_,_,h,by rw[h2];exact run b 0,[_],?_,rfl⟩
   simp only[AH]
   exact⟨hi,b,e1,by simp⟩
  ·exact .inl h
 ·obtain⟨cs',h1,h2⟩:=hx
  simp only[AH]at h1
  obtain⟨hi,b,e1,rfl⟩:=h1
  refine .inr ⟨_,_,h,by rw[h2];exact run b _,[_],?_,rfl⟩
  simp only[AH]
  exact⟨hi,b,e1,rfl⟩
 ·obtain⟨cs',h1,h2⟩:=hx
  simp only[AH]at h1
  obtain⟨hi,b,l,c,e1,rfl⟩:=h1
  refine .inr ⟨_,_,h,by rw[h2];exact run b _,[_],?_,rfl⟩
  simp only[AH]
  exact⟨hi,b,l,c,e1,by rw[Hv]⟩
 ·exact .inl h
theorem Mc {P:Program} {t:TypeId} {e ee:TyI}(h:TyOk P t e)(hk:e.kd=2)(h2:TyOk P e.elem ee) {b o len cap:Nat} {k:IntKind} {j:Nat}(hj:j<len):(Instr.indexAt t (.slice (some ⟨b,o,none⟩) len cap) (.int k j)).run P w=.ok (.pointer (some ⟨b,o+j*ee.size,none⟩)) w:=by
 obtain⟨d,h1,_,h3,_,_,_,_,h8⟩:=h.desc
 rw[hk]at h8
 cases d<;>simp at h8
 have he:=h3 _ rfl
 subst he
 have hlt:(j:Int)<(len:Int):=by omega
 simp only[Instr.indexAt,asIntOf,AK,Bo,AF,run_underlying h1]
 simp[hlt,h2.sizeOf,DA]
theorem Tz(hC:C.Ok T)(hm:Mem C B S w0 σ η φ w) {t:TypeId} {x ix:Dat}(hx:RD B σ η φ w x vx)(hi:RD B σ η φ w ix vy) {K:Dat->Prop}(h:LU T t x ix σ K no):no\/∃d v,K d/\(Instr.indexAt t vx vy).run C.P w=.ok v w/\RD B σ η φ w d v:=by
 unfold LU at h
 rcases BO h with h|⟨e,he,h⟩
 ·exact .inl h
 rcases BO h with h|⟨ee,hee,h⟩
 ·exact .inl h
 rcases B9 h with h|⟨hk2,h⟩
 ·exact .inl h
 have hk2:=A0 hk2
 split at h
 ·rw[hi.int]
  split at h
  ·rcases B9 h with h|⟨hk,j,d,rfl,hd,h⟩
   ·exact .inl h
   have hk:=A0 hk
   obtain⟨cs,h1,h2⟩:=hx
   simp only[AH,RepC]at h1
   obtain⟨aa,c,css,rfl,_,_,h4,h5,h6⟩:=h1
   have hlt:=(Ae.1 hd).1
   rcases h6 with h6|⟨b,o,rfl,h7,h8,h9⟩
   ·rw[h6]at hlt;simp at hlt
   ·obtain⟨c0,hc0,hr0⟩:=IM h4 hd
    refine .inr ⟨_,_,h,by rw[h2];exact Mc (hC.ty he) hk2 (hC.ty hee) hlt,[_],?_,rfl⟩
    simp only[AH,RepC]
    refine⟨b,_,c0,rfl,h7,h8,hr0,?_⟩
    rw[<-hk]
    exact Fv.mono h9 (λi u hj=>Va (λx hx=>(h5 x hx).1) hc0 hj)
  ·rcases Bz h with h|⟨ow,hg,h⟩
   ·exact .inl h
   split at h
   ·rcases B9 h with h|⟨hk,j,rfl,hlt,h⟩
    ·exact .inl h
    have hk:=A0 hk
    obtain⟨css,hs,_,hr,_⟩:=BV hm hg
    have hl:=De hr
    obtain⟨cs',h1,h2⟩:=hx
    simp only[AH]at h1
    obtain⟨hi,rfl⟩:=h1
    rcases hs.shape with⟨_,he0⟩|⟨g,cap,he0,_⟩
    ·rw[he0]at hl;simp at hl;omega
    ·have h2:=h2.trans he0
     refine .inr ⟨_,_,h,by rw[h2];exact Mc (hC.ty he) hk2 (hC.ty hee) (by omega),[_],?_,rfl⟩
     simp only[AH]
     exact⟨hi,g,_,_,he0,by rw[hk];simp⟩
   ·exact .inl h
  ·exact .inl h
 ·exact .inl h
theorem gA(hC:C.Ok T) {t:TypeId} {x:Dat} {m:Nat}(hx:RD B σ η φ w x vx) {K:Dat->Prop}(h:X9 T t x m K no):no\/∃d v,K d/\(Instr.field t vx m).run C.P w=.ok v w/\RD B σ η φ w d v:=by
 unfold X9 at h
 rcases BO h with h|⟨e,he,h⟩
 ·exact .inl h
 have ht:=hC.ty he
 rcases Bz h with h|⟨os,hos,h⟩
 ·exact .inl h
 rcases BO h with h|⟨fe,hfe,h⟩
 ·exact .inl h
 have hft:=hC.ty hfe
 rcases Bz h with h|⟨ds,hds,h⟩
 ·exact .inl h
 rcases Bz h with h|⟨d,hd,h⟩
 ·exact .inl h
 rcases B9 h with h|⟨hb,h9⟩
 ·exact .inl h
 simp only[Ap]at hb
 obtain⟨⟨hf,hp⟩,ha⟩:=hb
 have hp:=A0 hp
 obtain⟨f1,f2⟩:=Ly hf
 obtain⟨cs,h1,h2⟩:=hx
 obtain⟨g1,g2⟩:=Ks hds h1
 obtain⟨c,r1,r2⟩:=JH g1 hd
 have hl:=EL d c r1
 obtain⟨dd,q1,_,_,q4,_,q5,_⟩:=ht.desc
 obtain⟨fs,rfl⟩:=q5 ha
 obtain⟨p1,_⟩:=q4 fs rfl
 have hm:(fs.toList.map (λf=>(f.offset,f.type)))[m]? =some os:=by rw[p1];exact hos
 simp only[Ad,Cl]at hm
 obtain⟨f,hf1,hf2⟩:=hm
 have hf3:fs[m]? =some f:=by simpa using hf1
 subst hf2
 refine .inr ⟨d,_,RD.force h9,?_,c,r1,rfl⟩
 rw[h2,IK,g2]
 simp only[if_true,Instr.field,AK,run_underlying q1,AF,hf3,asAgg,Bo,part,hft.isAgg]
 rw[IK,f1]
 cases hfa:fe.agg
 ·have hs1:=QU (by rw[f1];exact hfa)
  have:c.length=1:=by omega
  obtain⟨u,rfl⟩:=Cz.1 this
  have:=r2 0 u rfl
  rw[hp]at this
  simp at this
  simp[this]
 ·simp only[if_true,AK,hft.sizeOf,AF,Bo]
  congr 2
  apply Ey
  simp only[Array.toList_extract]
  apply Cb
  intro j
  simp only[List.extract,CY,MW]
  by_cases hj:j<c.length
  ·have:=r2 j c[j] (Ab hj)
   rw[hp]at this
   rw[if_pos (by omega),Ab hj]
   exact this
  ·rw[if_neg (by omega),AI (by omega)]
end
section
variable {C:Cx} {T:Hh} {B S:List Nat} {w0 w:World} {σ:Sg} {η:Nat->Value} {φ:Nat->List Nat} {vx vy:Value}
theorem ACk {p q:Prop} {i:Decidable p} {j:Decidable q}(h:p↔q):@decide p i=@decide q j:=by
 by_cases hp:p
 ·have hq:=h.1 hp;simp[hp,hq]
 ·have hq:¬q:=λhq=>hp (h.2 hq);simp[hp,hq]
theorem Yr {P:Program} {t:TypeId} {e:TyI}(h:TyOk P t e)(hk:e.kd=7\/e.kd=8\/e.kd=9):e.agg=false:=by
 obtain⟨d,h1,h2,_,_,_,_,_,h3⟩:=h.desc
 rw[<-h2]
 cases d<;>first|rfl|(simp at h3;omega)
theorem Wv {P:Program} {t:TypeId} {e:TyI}(h:TyOk P t e)(ha:e.agg=false) {cs:Array Value} {off:Nat} {v:Value}(hv:cs.toList[off]? =some v):(part t cs off).run P w=.ok v w:=by
 have:cs[off]? =some v:=by simpa using hv
 simp only[part,AK,h.isAgg,AF,ha]
 simp[this]
theorem zW {P:Program} {t:TypeId} {e:TyI}(h:TyOk P t e) {a b:Dat} {p:PD}(hp:nX e.kd a b=some p) {u v:Value}(ha:RD B σ η φ w a u)(hb:RD B σ η φ w b v)(d:Nat):e.agg=false/\(Op.equalIn (d+1) t u v).run P w=.ok (@decide p.p p.d) w:=by
 unfold nX at hp
 obtain⟨dd,h1,h2⟩:=h.kd_desc
 split at hp
 ·rename_i k x k' y hk
  split at hp
  ·rename_i hkk
   simp at hp;subst hp
   simp at hkk;subst hkk
   refine⟨Yr h (by omega),?_⟩
   rw[ha.int,hb.int]
   rw[hk]at h2
   cases dd<;>simp at h2
   rw[run_equalIn_int w d t k _ x y h1]
   rfl
  ·cases hp
 ·rename_i x y hk
  simp at hp;subst hp
  refine⟨Yr h (by omega),?_⟩
  rw[ha.str,hb.str]
  rw[hk]at h2
  cases dd<;>simp at h2
  rw[run_equalIn_string w d t x y h1,XA]
  rfl
 ·rename_i x y hk
  simp at hp;subst hp
  refine⟨Yr h (by omega),?_⟩
  rw[ha.bool,hb.bool]
  rw[hk]at h2
  cases dd<;>simp at h2
  rw[run_equalIn_bool w d t x y h1]
  congr 1
 ·cases hp
theorem Xg(hC:C.Ok T) {dx dy:List Dat} {cx cy:Array Value}(hx:B6 η (BA σ) (B++Ao φ σ) w dx cx.toList)(hy:B6 η (BA σ) (B++Ao φ σ) w dy cy.toList)(d:Nat):∀(fs:List Field) (fl:List (Nat×TypeId)) (i:Nat) {p:PD},fs.map (λf=>(f.offset,f.type))=fl->(∀f∈fs,f.name≠ "_")->R9 T dx dy fl i=some p->
  (Op.eqFields (d+1) cx cy fs).run C.P w=.ok (@decide p.p p.d) w
 |
  [],fl,i,p,hfl,hn,hp=>by
  subst hfl
  simp[R9]at hp;subst hp
  simp only[Op.eqFields,Bo]
  congr 1
 |
  f::fs,fl,i,p,hfl,hn,hp=>by
  subst hfl
  simp only[Ar,R9]at hp
  split at hp
  ·rename_i fe a b hfe ha hb
   split at hp
   ·rename_i q hq hoff
    simp only[Ap]at hoff
    have o1:=A0 hoff.1
    have o2:=A0 hoff.2
    obtain⟨ca,r1,r2⟩:=JH hx ha
    obtain⟨cb,r3,r4⟩:=JH hy hb
    have ht:=hC.ty hfe
    obtain⟨hagg,heq⟩:=zW (w:=w) (B:=B) (σ:=σ) (η:=η) (φ:=φ) ht hq ⟨ca,r1,rfl⟩ ⟨cb,r3,rfl⟩ d
    have sing:∀{z:Dat} {c:List Value},AH η (BA σ) (B++Ao φ σ) w z c->z.isAgg=false->c=[Ch z c]:=by
     intro z c hr hz
     have hl:=EL z c hr
     rw[QU hz]at hl
     obtain⟨v,rfl⟩:=Cz.1 hl
     rw[IK,hz];rfl
    have notagg:a.isAgg=false/\b.isAgg=false:=by
     unfold nX at hq
     split at hq
     ·exact⟨rfl,rfl⟩
     ·exact⟨rfl,rfl⟩
     ·exact⟨rfl,rfl⟩
     ·cases hq
    have e1:=sing r1 notagg.1
    have e2:=sing r3 notagg.2
    have g1:=r2 0 (Ch a ca) (by have:([Ch a ca]:List Value)[0]? =some (Ch a ca):=rfl;rw[<-e1]at this;exact this)
    have g2:=r4 0 (Ch b cb) (by have:([Ch b cb]:List Value)[0]? =some (Ch b cb):=rfl;rw[<-e2]at this;exact this)
    rw[o1,Et]at g1
    rw[o2,Et]at g2
    have hname:=hn f (by simp)
    simp only[Op.eqFields]
    rw[if_pos hname]
    simp only[AK,Wv ht hagg g1,Wv ht hagg g2,AF,heq]
    split at hp
    ·rename_i hnil
     have hnil':fs=[]:=by simpa using hnil
     subst hnil'
     simp at hp;subst hp
     by_cases hh:q.p
     ·simp[hh,Op.eqFields]
     ·simp[hh]
    ·rename_i hd tl hcons
     split at hp
     ·rename_i r hr
      simp at hp;subst hp
      have ih:=Xg hC hx hy d fs _ (i+1) rfl (λg hg=>hn g (by simp[hg])) hr
      by_cases hh:q.p
      ·simp only[hh,decide_true,Bool.not_true,CL,if_false]
       rw[ih]
       congr 1
       exact ACk ⟨λh=>⟨hh,h⟩,λh=>h.2⟩
      ·simp only[hh,decide_false,Bool.not_false,if_true,Bo]
       congr 1
       exact(@decide_eq_false _ (q.and r).d (λ(h:(q.and r).p)=>hh h.1)).symm
     ·cases hp
   ·cases hp
  ·cases hp
theorem AEL(hC:C.Ok T) {t:TypeId} {e:TyI}(he:GQ t T=some e)(hc:e.cmp=true) {x y:Dat} {dx dy:List Dat}(hpx:x.parts=some dx)(hpy:y.parts=some dy)(hx:RD B σ η φ w x vx)(hy:RD B σ η φ w y vy) {p:PD}(hp:R9 T dx dy e.flds 0=some p) {op:BinOp} {K:Dat->Prop} {no:Prop}(h:AD0 op p K no)(xo yo:Operand):
  no\/∃d v,K d/\(do eqGuard op t xo yo vx vy;binOp op t vx vy).run C.P w=.ok v w/\RD B σ η φ w d v:=by
 obtain⟨fs,h1,h2,h3,h4⟩:=(hC.ty he).cmp hc
 obtain⟨cx,g1,g2⟩:=hx
 obtain⟨cy,g3,g4⟩:=hy
 obtain⟨r1,a1⟩:=Ks hpx g1
 obtain⟨r2,a2⟩:=Ks hpy g3
 have e1:vx=.agg cx.toArray:=by rw[g2,IK,a1];rfl
 have e2:vy=.agg cy.toArray:=by rw[g4,IK,a2];rfl
 obtain⟨d,q1,_,_,q4,_⟩:=(hC.ty he).desc
 rw[h1]at q1
 cases q1
 have hfo:C.P.fieldsOf t=fs:=by simp[Program.fieldsOf,h1]
 have hEq:(Op.equalIn 10000 t vx vy).run C.P w=.ok (@decide p.p p.d) w:=by
  rw[e1,e2,show(10000:Nat)=9999+1 from rfl,run_equalIn_struct w 9999 t _ _ (by rw[hfo];exact h1) h2,hfo]
  exact Xg hC (by simpa using r1) (by simpa using r2) 9998 fs.toList e.flds 0 (q4 fs rfl).1 h4 hp
 have hg:(eqGuard op t xo yo vx vy).run C.P w=.ok () w:=by rw[e1,e2];exact run_eqGuard_agg w op t xo yo _ _ h3
 unfold AD0 at h
 split at h
 ·refine .inr ⟨_,_,h,?_,Gs _ _⟩
  rw[AK,hg]
  simp only[AF]
  rw[e1,e2]at hEq⊢
  rw[run_eql_struct,hEq];rfl
 ·refine .inr ⟨_,_,h,?_,Gs _ _⟩
  rw[AK,hg]
  simp only[AF]
  rw[e1,e2]at hEq⊢
  rw[run_neq_struct,hEq]
  simp only[AF]
  congr 2
  by_cases hh:p.p<;>simp[hh]
 ·exact .inl h
end
end Go.Sx
namespace Go.Sx
open Go Go.RowKit Go.Reg
theorem Qo(off:Nat):∀(xs:List Value) (k:Nat) (cells:Array Value),off+k+xs.length<=cells.size->
  ((xs.zipIdx k).foldl (λ(cs:Array Value) (p:Value×Nat)=>cs.setIfInBounds (off+p.2) p.1) cells).toList=splice cells.toList (off+k) xs
 |[],k,cells,_=>by simp[splice]
 |
  x::xs,k,cells,h=>by
  simp only[Aw]at h
  simp only[RS,AAX]
  rw[Qo off xs (k+1) _ (by simp;omega)]
  rw[Array.toList_setIfInBounds,show off+(k+1)=off+k+1 by omega]
  have hlen:off+k+(xs.length+1)<=cells.toList.length:=by simpa using h
  generalize cells.toList=cs at hlen
  generalize off+k=o at hlen
  have hlt:o<cs.length:=by omega
  have e0:cs=cs.take o++cs[o]::cs.drop (o+1):=by rw[List.getElem_cons_drop,Cf]
  generalize hA:cs.take o=A at e0
  generalize cs.drop (o+1)=R at e0
  generalize cs[o]=y at e0
  have hAl:A.length=o:=by rw[<-hA];simp;omega
  subst hAl
  rw[e0,Jy _ _ (Ax _),Dy,List.set_cons_zero,Fw (by omega),Fw (Ax _)]
  rw[show A.length+1-A.length=1 by omega,Dy]
  have e1:=Fw (c1:=[x]) (c2:=R) (x:=xs) (o:=1) (by simp)
  simp only[ACC]at e1
  rw[e1]
  simp[splice]
theorem Xf {place:Nat->Option (Nat×Nat)} {cells:Array Value} {i off size:Nat} {v:Value} {rest:List (Nat×Value)}(hp:place i=some (off,size))(hs:v.cells.size=size)(hl:off+size<=cells.size):
  Instr.fill place cells ((i,v)::rest)=Instr.fill place (splice cells.toList off v.cells.toList).toArray rest:=by
 have e:=Qo off v.cells.toList 0 cells (by simp;omega)
 simp only[Instr.fill,hp]
 rw[if_neg (by simp;omega)]
 congr 1
 apply Ey
 rw[show off+0=off by rfl]at e
 rw[<-e,<-Array.foldl_toList,Array.toList_zipIdx]
theorem cM {size:Nat} {place:Nat->Option (Nat×Nat)}(hp:∀i,place i=some (i*size,size)):∀(vs:List Value) (i:Nat) (done rest:List Value),done.length=i*size->rest.length=vs.length*size->(∀v∈vs,v.cells.size=size)->
  Instr.fill place (done++rest).toArray ((vs.zipIdx i).map λp=>(p.2,p.1))=some (done++(vs.map (·.cells.toList)).flatten).toArray
 |[],i,done,rest,hd,hr,hs=>by simp[Instr.fill]at hr⊢;exact hr
 |
  v::vs,i,done,rest,hd,hr,hs=>by
  have hv:=hs v (by simp)
  have hvl:v.cells.toList.length=size:=by simpa using hv
  simp only[Aw,CV,Nat.one_mul]at hr
  simp only[RS,Ar]
  rw[Xf (hp i) hv (by simp;omega)]
  have e:splice (done++rest) (i*size) v.cells.toList=(done++v.cells.toList)++rest.drop size:=by
   rw[Fw (by omega),hd,Dy]
   simp[splice,hvl]
  rw[show(done++rest).toArray.toList=done++rest by simp,e,cM hp vs (i+1) _ _ (by simp[CV];omega) (by simp;omega) (λu hu=>hs u (by simp[hu]))]
  simp
section
variable {C:Cx} {T:Hh} {B S:List Nat} {w0 w:World} {n:Nat} {fr:Fr} {σ:Sg} {η:Nat->Value} {φ:Nat->List Nat} {a:Act} {v vx vy:Value} {no:Prop}
theorem PB {P:Program} {t:TypeId} {e ee:TyI}(h:TyOk P t e)(hk:e.kd=2)(h2:TyOk P e.elem ee) {vs:List Value}(hv:∀v∈vs,v.cells.size=ee.size)(hm:vs.length<=1000)(hs:ee.size<=1000):
  (Instr.buildSlice t vs.length ((vs.zipIdx 0).map λp=>(p.2,p.1)).toArray).run P w=.ok (.slice (some ⟨w.heap.size,0,none⟩) vs.length vs.length) (w.alloc (.cells (vs.map (·.cells.toList)).flatten.toArray e.elem)):=by
 obtain⟨d,h1,_,h3,_,_,_,_,h8⟩:=h.desc
 rw[hk]at h8
 cases d<;>simp at h8
 have he:=h3 _ rfl
 subst he
 obtain⟨z,hz,_,_⟩:=h2.zero
 have hms:vs.length*ee.size<=1000*1000:=DO hm hs
 have hlt:¬(2^24<vs.length*ee.size):=by omega
 have hfill:∀cells:Array Value,cells.size=vs.length*ee.size->Instr.fill (λi=>some (i*ee.size,ee.size)) cells ((vs.zipIdx 0).map λp=>(p.2,p.1))=some ((vs.map (·.cells.toList)).flatten).toArray:=λcells hc=>by
  have:=cM (size:=ee.size) (place:=λi=>some (i*ee.size,ee.size)) (λ_=>rfl) vs 0 [] cells.toList (by simp) (by simpa using hc) hv
  simpa using this
 simp only[Instr.buildSlice,AK,run_underlying h1,AF,h2.sizeOf,Sem.run_ite]
 rw[if_neg hlt]
 by_cases h0:vs.length*ee.size=0
 ·simp only[AF,Bo,h0,if_true]
  rw[hfill _ (by simp[h0])]
  rfl
 ·simp only[AF,Bo,h0,if_false,hz]
  rw[hfill _ (by simp)]
  rfl
theorem Kp {O:List Nat} {w:World} {d:Da} {cs:List Value}(h:RepC O w d cs):∀m,Aq O w (List.replicate m d) (List.replicate m cs)
 |0=>by simp[Aq]
 |m+1=>by simp only[List.replicate_succ,Aq];exact⟨cs,_,rfl,h,Kp h m⟩
theorem UD(z:Array Value):∀m,madeCells z (m*z.size)=(List.replicate m z.toList).flatten.toArray:=by
 intro m
 apply Ey
 simp only[madeCells,Array.toList_map,Array.toList_range]
 induction m with
 |zero=>simp
 |
  succ m ih=>
  rw[Nat.succ_mul,List.range_add,A7,ih,List.replicate_succ',Df]
  congr 1
  simp only[EE,CI,List.flatten_nil,Cg]
  apply Cb
  intro j
  rw[Ad]
  by_cases hj:j<z.size
  ·rw[CN hj]
   have:(m*z.size+j) % z.size=j:=by rw[AAC,Nat.mul_add_mod];exact uF hj
   simp[this,hj]
  ·rw[AI (by simp;omega),AI (by simp;omega)];rfl
theorem QY {P:Program} {t:TypeId} {e ee:TyI}(h:TyOk P t e)(hk:e.kd=2)(h2:TyOk P e.elem ee)(hst:ee.zero.stor=true)(hby:ee.bytes<=1000) {k1 k2:IntKind} {m:Nat}(hm:m<=PW):
  ∃z:List Value,(Instr.makeSlice t (.int k1 m) (.int k2 m)).run P w=.ok (.slice (some ⟨w.heap.size,0,none⟩) m m) (w.alloc (.cells (List.replicate m z).flatten.toArray e.elem))/\ER ee.size z/\(∀O w,RepC O w ee.zero z)/\True:=by
 obtain⟨d,h1,_,h3,_,_,_,_,h8⟩:=h.desc
 rw[hk]at h8
 cases d<;>simp at h8
 have he:=h3 _ rfl
 subst he
 obtain⟨i,z,i1,i2,i3,i4,i5,i6⟩:=h2.info
 have hlen:z.cells.size=ee.size:=by
  have:=FF _ _ (i6 [] w)
  rw[h2.zsize]at this
  simpa using this
 unfold PW at hm
 have hb:(i.bytes:Int)*(m:Int)<=281474976710656:=by
  have:i.bytes*m<=1000*4294967296:=DO (by omega) hm
  have h':((i.bytes*m:Nat):Int)<=281474976710656:=by omega
  rwa [Int.natCast_mul]at h'
 have hr:=run_make (P:=P) w t e.elem i z h1 i1 i4 k1 k2 m m (by omega) (Int.le_refl _) hb (by omega)
 simp only[AY]at hr
 rw[i2,<-hlen,UD]at hr
 exact⟨z.cells.toList,hr,⟨by simpa using hlen,Mi _ _ hst (i6 [] w)⟩,i6,trivial⟩
theorem vK {E k:Nat} {css:List (List Value)}(hk:∀x∈css,ER k x)(hm:css.length<=maxLen)(w:World):Sl E k id (w.alloc (.cells css.flatten.toArray E)) (.slice (some ⟨w.heap.size,0,none⟩) css.length css.length) css:=by
 have hfl:=KC (λx hx=>(hk x hx).1)
 refine⟨by rw[flatMap_id];exact hfl,.inr ⟨w.heap.size,css.length,css.flatten.toArray,rfl,Am _,(YG w _).1,Ax _,hm,by simpa using hfl,?_⟩⟩
 rw[flatMap_id];simp only[];rw[Al (by rw[hfl];exact Ax _)]
structure Src(k:Nat)(O:List Nat)(w:World)(es:List Da)(v:Value):Prop where
 ex:∃a c css,v=.slice a es.length c/\Aq O w es css/\(∀x∈css,ER k x)/\(es=[]\/∃b o,a=some ⟨b,o,none⟩/\Fv w b o css.flatten)
theorem Vj(hm:Mem C B S w0 σ η φ w) {x:Dat} {k:Nat} {es:List Da}(h:cT x k σ=some es)(hx:RD B σ η φ w x vx):Src k (B++Ao φ σ) w es vx:=by
 unfold cT at h
 split at h
 ·split at h
  ·rename_i hb
   have hb:=A0 hb
   simp at h;subst h;subst hb
   obtain⟨cs,h1,h2⟩:=hx
   simp only[AH,RepC]at h1
   obtain⟨aa,c,css,rfl,_,_,h4,h5,h6⟩:=h1
   exact⟨aa,c,css,h2,h4,h5,h6.imp id (λ⟨b,o,g1,_,_,g4⟩=>⟨b,o,g1,g4⟩)⟩
  ·cases h
 ·simp at h;subst h
  exact⟨none,0,[],hx.nils,by simp[Aq],by simp,.inl rfl⟩
 ·split at h
  ·rename_i hg
   split at h
   ·rename_i hb
    have hb:=A0 hb
    simp at h;have h:=h.symm;subst h;subst hb
    obtain⟨css,hs,_,hr,hk⟩:=BV hm hg
    have hl:=De hr
    obtain⟨cs',h1,h2⟩:=hx
    simp only[AH]at h1
    obtain⟨_,rfl⟩:=h1
    rcases hs.shape with⟨he,he2⟩|⟨g,cap,he,_⟩
    ·subst he2
     have:es=[]:=by simpa using hl.symm
     subst this
     exact⟨none,0,[],h2.trans he,by simp[Aq],by simp,.inl rfl⟩
    ·exact⟨_,cap,css,h2.trans (by rw[he,hl];rfl),hr,hk,.inr ⟨g,0,rfl,Kl hs he⟩⟩
   ·cases h
  ·cases h
 ·cases h
theorem RH {b o:Nat} {cs:List Value}(h:Fv w b o cs):∀(j:Nat) (u:Value),cs[j]? =some u->w.cell? ((⟨b,o,none⟩:Addr).add j)=some u:=λj u hj=>by
 have:=h j u hj
 simpa[DA]using this
theorem L7 {P:Program} {t:TypeId} {e ee:TyI}(h:TyOk P t e)(hk:e.kd=2)(h2:TyOk P e.elem ee)(hk0:0<ee.size)(_hb0:ee.bytes<=1000) {css:List (List Value)}(hs:Sl e.elem ee.size id w v css) {O:List Nat} {es:List Da}(hy:Src ee.size O w es vy)(hlen:css.length+es.length<=HN ee.bytes)(ty:TypeId):
  ∃v' w' css2,(Builtin.append_ #[t,t] ty #[v,vy]).run P w=.ok v' w'/\Sl e.elem ee.size id w' v' (css++css2)/\Aq O w es css2/\(∀x∈css2,ER ee.size x)/\Tch v.ownBlock.toList w w'/\(v'.ownBlock=v.ownBlock\/v'.ownBlock=some w.heap.size):=by
 obtain⟨d,h1,_,h3,_,_,_,_,h8⟩:=h.desc
 rw[hk]at h8
 cases d<;>simp at h8
 have he:=h3 _ rfl
 subst he
 obtain⟨i,z,hi,hsize,hby,hz,_,_⟩:=h2.info
 obtain⟨av,c,css2,rfl,hr2,hk2,hsrc⟩:=hy.ex
 have hl2:=De hr2
 have hfl2:=KC (λx hx=>(hk2 x hx).1)
 unfold HN at hlen
 have hbb:=Nat.mul_le_of_le_div _ _ _ hlen
 have hl0:css.length+es.length<=140737488355328:=BH hlen (Nat.div_le_self _ _)
 by_cases h0:es.length=0
 ·have hes:es=[]:=AJ h0
  subst hes
  have hc2:css2=[]:=by simpa using hl2
  subst hc2
  refine⟨v,w,[],?_,by simpa using hs,hr2,hk2,Tch.refl _ _,.inl rfl⟩
  have hf:(Builtin.firstCells ee.size 0 (.slice av 0 c)).run P w=.ok #[] w:=by
   cases av<;>simp[Builtin.firstCells,loadCells,loadCellsFrom]
  rcases hs.shape with⟨rfl,hn⟩|⟨g,cap,rfl,hc⟩
  ·simp[Builtin.append_,run_underlying h1,h2.sizeOf,Builtin.lenOf,hf]
  ·have:css.length<=cap:=hc
   simp[Builtin.append_,run_underlying h1,h2.sizeOf,Builtin.lenOf,hf,this,storeCells]
 ·obtain⟨b,o,rfl,hcell⟩:∃b o,av=some ⟨b,o,none⟩/\Fv w b o css2.flatten:=hsrc.resolve_left (λe=>h0 (by rw[e];rfl))
  have hnews:=RH hcell
  have hln:css2.flatten.length=es.length*ee.size:=by rw[hfl2,hl2]
  have hone:=zR hk2
  have hbb2:es.length*ee.bytes<=(css.length+es.length)*ee.bytes:=Hi _ (by omega)
  have hzs:z.cells.size=ee.size:=by
   obtain⟨i',z',g1,g2,_,g4,_,g6⟩:=h2.info
   rw[hi]at g1;cases g1
   rw[hz]at g4;cases g4
   have:=FF _ _ (g6 [] w)
   have hsz:=h2.zsize
   simp at this
   omega
  obtain⟨v',w',hr,ho,hg,_⟩:=run_append_own (P:=P) w 0 t ty e.elem i z ee.size ee.bytes h1 hi hz hsize hby hzs hk0 v css.length (css.flatMap id) hs ⟨b,o,none⟩ es.length c css2.flatten hln hnews hone (by simp only[maxLen];omega) (by omega) (Am _)
  refine⟨v',w',css2,hr,?_,hr2,hk2,⟨hg.os,hg.tape,hg.output,hg.size,λj hj hn=>hg.block j hj (λe=>hn (by rw[<-e];simp))⟩,?_⟩
  ·unfold Sl
   rw[CO,flatMap_id css2,Ah,hl2];exact ho
  ·have hln':css2.flatten.length=es.length*i.size:=by rw[hsize];exact hln
   rcases hs.2 with⟨rfl,hn⟩|⟨g,cap,cur,rfl,_,hcur,hnc,hcm,hcs,htake⟩
   ·have hx':=run_append_nil (P:=P) w t ty e.elem i z h1 hi hz ⟨b,o,none⟩ es.length c css2.flatten hln' hnews (by omega) (by omega) (by rw[hby];omega)
    rw[hx']at hr
    simp at hr
    exact .inr (by rw[<-hr.1];rfl)
   ·by_cases hroom:css.length+es.length<=cap
    ·have hfit2:css.length*i.size+css2.flatten.length<=cur.size:=by rw[hln,hcs,hsize,<-CV];exact Hi _ hroom
     have hx':=run_append_room (P:=P) w t ty e.elem i h1 hi g css.length cap cur hcur ⟨b,o,none⟩ es.length c css2.flatten hln' hnews hone hroom hfit2
     rw[hx']at hr
     simp at hr
     exact .inl (by rw[<-hr.1];rfl)
    ·have holds:∀j u,(css.flatMap id)[j]? =some u->w.cell? ((⟨g,0,none⟩:Addr).add j)=some u:=VB hs (g:=g) rfl
     have hx':=run_append_grow (P:=P) w t ty e.elem i z h1 hi hz ⟨g,0,none⟩ css.length cap (css.flatMap id) (by rw[hsize];exact hs.1) holds ⟨b,o,none⟩ es.length c css2.flatten hln' hnews (by omega) (by omega) (growslice_fits (by omega) (by rw[hby];omega))
     rw[hx']at hr
     simp at hr
     exact .inr (by rw[<-hr.1];rfl)
end
end Go.Sx
namespace Go.Sx
open Go Go.RowKit Go.Reg
section
variable {C:Cx} {T:Hh} {B S:List Nat} {w0 w:World} {n:Nat} {fr:Fr} {σ:Sg} {η:Nat->Value} {φ:Nat->List Nat} {a:Act} {v vx vy:Value} {no:Prop}
def AFF(C:Cx)(B S:List Nat)(w0:World)(n:Nat)(s:Sem Value)(dst:Option Nat)(K:Fr->Sg->Prop)(a:Act)(w:World):Prop:=
 ∃v w',s.run C.P w=.ok v w'/\J4 C B S w0 n K (a.put dst v) w'
theorem Zb(hC:C.Ok T)(hM:Models C B S w0 n fr σ η φ a w) {t:TypeId} {x y:Dat} {dst:Option Nat}(hd:Dh dst n=true)(hx:RD B σ η φ w x vx)(hy:RD B σ η φ w y vy) {K:Fr->Sg->Prop}(ty:TypeId)
  (h:T9 T t x y dst fr σ (λd fr σ=>K (CF dst d fr) σ) no):no\/AFF C B S w0 n (Builtin.append_ #[t,t] ty #[vx,vy]) dst K a w:=by
 unfold T9 at h
 rcases BO h with h|⟨e,he,h⟩
 ·exact .inl h
 rcases BO h with h|⟨ee,hee,h⟩
 ·exact .inl h
 rcases B9 h with h|⟨hb,h⟩
 ·exact .inl h
 simp only[Ap,decide_eq_true_eq]at hb
 obtain⟨⟨hk0,hb0⟩,hk2⟩:=hb
 have hk2:=A0 hk2
 have ht:=hC.ty he
 have ht2:=hC.ty hee
 split at h
 ·rename_i i _ _ _
  rcases Bz h with h|⟨ow,hg,h⟩
  ·exact .inl h
  split at h
  ·rename_i E k ds
   rcases B9 h with h|⟨hb,h⟩
   ·exact .inl h
   simp only[Ap]at hb
   obtain⟨⟨hk,hE⟩,hno⟩:=hb
   have hk:=A0 hk
   have hE:=A0 hE
   subst hk;subst hE
   rcases Bz h with h|⟨es,hes,hlen,h⟩
   ·exact .inl h
   obtain⟨css,hs,e2,hr,hrk⟩:=BV hM.mem hg
   have hl:=De hr
   obtain⟨cs',h1,h2⟩:=hx
   simp only[AH]at h1
   obtain⟨hi,rfl⟩:=h1
   have h2:vx=η i:=h2
   have hsrc:=Vj hM.mem hes hy
   obtain⟨v',w',css2,g1,g2,g3,g4,g5,g6⟩:=L7 ht hk2 ht2 hk0 hb0 hs hsrc (by rw[hl];exact hlen) ty
   rw[<-e2]at g5
   have hX:∀b∈φ i,b∈φ i:=λ_ h=>h
   have hF:∀b∈v'.ownBlock.toList,b∈φ i\/w.heap.size<=b:=λb hb=>by
    rcases g6 with g6|g6
    ·left;rw[e2,<-g6];exact hb
    ·right;rw[g6]at hb;simp at hb;omega
   have hlt:=Later.turn (σ:=σ) B g5 hX hi hF (BM i .undef) (.slice e.elem ee.size (ds++es))
   have hm':=hM.mem.turnKill (o:=.slice e.elem ee.size (ds++es)) (v:=v') g5 hX hi hF (by
    refine⟨css++css2,g2,rfl,Aq.later hlt _ _ (FJ hr g3),λx hx=>?_⟩
    rcases Ag.1 hx with hx|hx
    ·exact hrk x hx
    ·exact g4 x hx)
   have hfr:=hM.fr.kill (x:=.undef) rfl hlt (I':=BA (AX (BM i .undef) i (.slice e.elem ee.size (ds++es)) σ)) (η':=CE η i v') (i:=i) (λj hj hne=>⟨by rw[AZ];exact hj,BU _ _ _ hne⟩) (RepC.undef_ex _ _ _)
   have M':Models C B S w0 n (Fj i .undef fr) (AX (BM i .undef) i (.slice e.elem ee.size (ds++es)) σ) (CE η i v') (CE φ i v'.ownBlock.toList) a w':=⟨hm',hfr,hM.defers,hM.size⟩
   rw[Ei,Bw]at h
   exact .inr ⟨v',w',by rw[h2];exact g1,_,_,_,_,M'.put hd ⟨[v'],by simp only[AH];exact⟨by rw[AZ];exact hi,by rw[Ck]⟩,rfl⟩,h⟩
  ·exact .inl h
 ·rcases Bz h with h|⟨es,hes,hlen,h⟩
  ·exact .inl h
  rcases Bz h with h|⟨t0,ht0,h⟩
  ·exact .inl h
  rcases MF h with h|⟨j,hj,h⟩
  ·exact .inl h
  have hsrc:=Vj hM.mem hes hy
  obtain⟨v',w',css2,g1,g2,g3,g4,g5,g6⟩:=L7 (v:=.slice none 0 0) (css:=[]) ht hk2 ht2 hk0 hb0 (by exact fI w 0 _ _) hsrc (by simpa using hlen) ty
  rw[hx.nils]
  have:=hM.add (o:=.slice e.elem ee.size es) (v:=v') (F:=v'.ownBlock.toList) g5 hj (λb hb=>by
   rcases g6 with g6|g6
   ·rw[g6]at hb;simp[Value.ownBlock]at hb
   ·rw[g6]at hb;simp at hb;omega) (λO' hl=>⟨css2,by simpa using g2,rfl,Aq.later hl _ _ g3,g4⟩) hd
  rw[Bw]at h
  exact .inr ⟨v',w',g1,_,_,_,_,this.perm (C7 _ _ _),h⟩
 ·exact .inl h
theorem vA(hC:C.Ok T)(hm:Mem C B S w0 σ η φ w) {t:TypeId} {x:Dat}(hx:RD B σ η φ w x vx) {K:Dat->Prop}(ty:TypeId)(h:vB T t x σ K no):no\/∃d v,K d/\(Builtin.len_ #[t] ty #[vx]).run C.P w=.ok v w/\RD B σ η φ w d v:=by
 unfold vB at h
 rcases BO h with h|⟨e,he,h⟩
 ·exact .inl h
 have ht:=hC.ty he
 rcases B9 h with h|⟨_,h⟩
 ·exact .inl h
 obtain⟨d,h1,h2⟩:=ht.kd_desc
 have run2:e.kd=2->∀(a:Option Addr) (l c:Nat),(Builtin.len_ #[t] ty #[.slice a l c]).run C.P w=.ok (.int .i64 l) w:=λhk a l c=>by
  rw[hk]at h2
  cases d<;>simp at h2
  simp[Builtin.len_,run_underlying h1,goInt]
 split at h
 ·rcases B9 h with h|⟨hk,h⟩
  ·exact .inl h
  have hk:=A0 hk
  obtain⟨cs,g1,g2⟩:=hx
  simp only[AH,RepC]at g1
  obtain⟨aa,c,css,rfl,_⟩:=g1
  exact .inr ⟨_,_,h,by rw[g2];exact run2 hk _ _ _,Fz _ _⟩
 ·rcases B9 h with h|⟨hk,h⟩
  ·exact .inl h
  have hk:=A0 hk
  exact .inr ⟨_,_,h,by rw[hx.nils];exact run2 hk _ _ _,Fz _ _⟩
 ·rcases B9 h with h|⟨hk,h⟩
  ·exact .inl h
  have hk:=A0 hk
  rw[hk]at h2
  cases d<;>simp at h2
  exact .inr ⟨_,_,h,by rw[hx.str];simp[Builtin.len_,run_underlying h1,goInt],Fz _ _⟩
 ·rcases Bz h with h|⟨ow,hg,h⟩
  ·exact .inl h
  split at h
  ·rcases B9 h with h|⟨hk,h⟩
   ·exact .inl h
   have hk:=A0 hk
   obtain⟨css,hs,_,hr,_⟩:=BV hm hg
   have hl:=De hr
   obtain⟨cs',g1,g2⟩:=hx
   simp only[AH]at g1
   obtain⟨_,rfl⟩:=g1
   rcases hs.shape with⟨he0,hn⟩|⟨g,cap,he0,_⟩
   ·rw[hn]at hl
    refine .inr ⟨_,_,h,by rw[g2.trans he0];exact run2 hk _ _ _,?_⟩
    rw[show(0:Nat)=_ from hl];exact Fz _ _
   ·refine .inr ⟨_,_,h,by rw[g2.trans he0];exact run2 hk _ _ _,?_⟩
    rw[hl];exact Fz _ _
  ·exact .inl h
 ·exact .inl h
theorem Hm {P:Program} {k:IntKind} {j y:Nat}(h:j<=y)(c:BoundsCode):(Instr.sliceBound (.int k j) y c).run P w=.ok j w:=by
 have:(j:Int)<=(y:Int):=by omega
 simp[Instr.sliceBound,asIntOf,this]
theorem Gq {P:Program} {t:TypeId} {e ee:TyI}(h:TyOk P t e)(hk:e.kd=2)(h2:TyOk P e.elem ee) {ad:Option Addr} {len cap:Nat}(hc:len<=cap) {lo hi:Option Value} {l m:Nat}(hlo:match lo with|none=>l=0|some v=>∃k,v=.int k l)(hhi:match hi with|none=>m=len|some v=>∃k,v=.int k m)(hlm:l<=m)(hml:m<=len):
  (Instr.sliceAt t (.slice ad len cap) lo hi none).run P w=.ok (.slice (if cap=l then ad else ad.map (·.add (l*ee.size))) (m-l) (cap-l)) w:=by
 obtain⟨d,h1,_,h3,_,_,_,_,h8⟩:=h.desc
 rw[hk]at h8
 cases d<;>simp at h8
 have he:=h3 _ rfl
 subst he
 have hb:(Instr.sliceBounds true len cap lo hi none).run P w=.ok (l,m,cap) w:=by
  cases lo with
  |
   none=>
   simp only at hlo;subst hlo
   cases hi with
   |none=>simp only at hhi;subst hhi;simp[Instr.sliceBounds]
   |some v=>obtain⟨k,rfl⟩:=hhi;simp[Instr.sliceBounds,Hm (w:=w) (P:=P) (k:=k) (show m<=cap by omega)]
  |
   some u=>
   obtain⟨k',rfl⟩:=hlo
   cases hi with
   |none=>simp only at hhi;subst hhi;simp[Instr.sliceBounds,Hm (w:=w) (P:=P) (k:=k') hlm]
   |some v=>obtain⟨k,rfl⟩:=hhi;simp[Instr.sliceBounds,Hm (w:=w) (P:=P) (k:=k) (show m<=cap by omega),Hm (w:=w) (P:=P) (k:=k') hlm]
 simp only[Instr.sliceAt,AK,run_underlying h1,AF,Instr.slice,hb,h2.sizeOf,Bo]
theorem gG(hC:C.Ok T) {t:TypeId} {e ee:TyI}(he:GQ t T=some e)(hk:e.kd=2)(hee:GQ e.elem T=some ee) {k:Nat} {ds:List Da}(hx:RD B σ η φ w (.d (.list k ds)) vx)(hke:k=ee.size) {lo hi:Option Value} {l m:Nat}(hlo:match lo with|none=>l=0|some v=>∃k,v=.int k l)(hhi:match hi with|none=>m=ds.length|some v=>∃k,v=.int k m)(hlm:l<=m)(hml:m<=ds.length):
  ∃v,(Instr.sliceAt t vx lo hi none).run C.P w=.ok v w/\RD B σ η φ w (.d (.list k ((ds.take m).drop l))) v:=by
 obtain⟨cs,g1,g2⟩:=hx
 simp only[AH,RepC]at g1
 obtain⟨aa,c,css,rfl,q1,q2,q3,q4,q5⟩:=g1
 have hcl:=De q3
 refine⟨_,by rw[g2];exact Gq (hC.ty he) hk (hC.ty hee) q1 hlo hhi hlm hml,[_],?_,rfl⟩
 simp only[AH,RepC]
 have hlen:((ds.take m).drop l).length=m-l:=by simp;omega
 refine⟨_,_,(css.take m).drop l,by rw[hlen],by rw[hlen];omega,by omega,Sf (Mh q3 m) l,λx hx=>q4 x (DP (SL hx)),?_⟩
 by_cases hz:m-l=0
 ·left;exact AJ (by rw[hlen];exact hz)
 ·right
  rcases q5 with q5|⟨b,o,rfl,q6,q7,q8⟩
  ·subst q5;simp at hml;omega
  ·rw[if_neg (by omega)]
   refine⟨b,o+l*ee.size,by simp[DA],q6,q7,?_⟩
   refine Fv.mono q8 (λj u hj=>?_)
   have hk':∀x∈css.take m,x.length=k:=λx hx=>(q4 x (DP hx)).1
   rw[Xc hk' l,MW,hke]at hj
   have e1:css=css.take m++css.drop m:=(Cf m css).symm
   rw[e1,Df,Bi (Ae.1 hj).1]
   exact hj
theorem fY(hC:C.Ok T) {t:TypeId} {x:Dat} {lo hi mx:Option Dat} {vlo vhi vmx:Option Value}(hx:RD B σ η φ w x vx)(hlo:∀d,lo=some d->∃v,vlo=some v/\RD B σ η φ w d v)(hlo0:lo=none->vlo=none)(hhi:∀d,hi=some d->∃v,vhi=some v/\RD B σ η φ w d v)(hhi0:hi=none->vhi=none)(hmx0:mx=none->vmx=none) {K:Dat->Prop}
  (h:X5 T t x lo hi mx K no):no\/∃d v,K d/\(Instr.sliceAt t vx vlo vhi vmx).run C.P w=.ok v w/\RD B σ η φ w d v:=by
 unfold X5 at h
 rcases BO h with h|⟨e,he,h⟩
 ·exact .inl h
 rcases BO h with h|⟨ee,hee,h⟩
 ·exact .inl h
 rcases B9 h with h|⟨hk2,h⟩
 ·exact .inl h
 have hk2:=A0 hk2
 split at h
 ·rcases B9 h with h|⟨hk,h⟩
  ·exact .inl h
  have hk:=A0 hk
  rw[hmx0 rfl]
  have go:=λ(l m:Nat) h1 h2 h3 h4=>gG hC he hk2 hee hx hk (lo:=vlo) (hi:=vhi) (l:=l) (m:=m) h1 h2 h3 h4
  split at h
  ·rw[hlo0 rfl,hhi0 rfl]at go⊢
   obtain⟨v,r1,r2⟩:=go 0 _ rfl rfl (Am _) (Ax _)
   exact .inr ⟨_,v,h,r1,by simpa using r2⟩
  ·obtain⟨j,rfl,hj,h⟩:=h
   obtain⟨v1,e1,hv1⟩:=hlo _ rfl
   rw[e1,hhi0 rfl,hv1.int]at go
   rw[e1,hhi0 rfl,hv1.int]
   obtain⟨v,r1,r2⟩:=go j _ ⟨_,rfl⟩ rfl hj (Ax _)
   exact .inr ⟨_,v,h,r1,by simpa using r2⟩
  ·obtain⟨j,rfl,hj,h⟩:=h
   obtain⟨v1,e1,hv1⟩:=hhi _ rfl
   rw[e1,hlo0 rfl,hv1.int]at go
   rw[e1,hlo0 rfl,hv1.int]
   obtain⟨v,r1,r2⟩:=go 0 j rfl ⟨_,rfl⟩ (Am _) hj
   exact .inr ⟨_,v,h,r1,by simpa using r2⟩
  ·obtain⟨j,m,rfl,rfl,hj,hm,h⟩:=h
   obtain⟨v1,e1,hv1⟩:=hlo _ rfl
   obtain⟨v2,e2,hv2⟩:=hhi _ rfl
   rw[e1,e2,hv1.int,hv2.int]at go
   rw[e1,e2,hv1.int,hv2.int]
   obtain⟨v,r1,r2⟩:=go j m ⟨_,rfl⟩ ⟨_,rfl⟩ hj hm
   exact .inr ⟨_,v,h,r1,r2⟩
  ·exact .inl h
 ·rw[hmx0 rfl,hx.nils]
  have go:=λh1 h2=>Gq (w:=w) (hC.ty he) hk2 (hC.ty hee) (ad:=none) (len:=0) (cap:=0) (Ax _) (lo:=vlo) (hi:=vhi) (l:=0) (m:=0) h1 h2 (Ax _) (Ax _)
  have hn:RD B σ η φ w (.d .nils) (.slice none 0 0):=⟨[_],by simp only[AH,RepC],rfl⟩
  split at h
  ·rw[hlo0 rfl,hhi0 rfl]at go⊢
   exact .inr ⟨_,_,h,by simpa using go rfl rfl,hn⟩
  ·obtain⟨rfl,h9⟩:=h
   obtain⟨v1,e1,hv1⟩:=hlo _ rfl
   rw[e1,hhi0 rfl,hv1.int]at go
   rw[e1,hhi0 rfl,hv1.int]
   exact .inr ⟨_,_,h9,by simpa using go ⟨_,rfl⟩ rfl,hn⟩
  ·obtain⟨rfl,h9⟩:=h
   obtain⟨v1,e1,hv1⟩:=hhi _ rfl
   rw[e1,hlo0 rfl,hv1.int]at go
   rw[e1,hlo0 rfl,hv1.int]
   exact .inr ⟨_,_,h9,by simpa using go rfl ⟨_,rfl⟩,hn⟩
  ·obtain⟨rfl,rfl,h9⟩:=h
   obtain⟨v1,e1,hv1⟩:=hlo _ rfl
   obtain⟨v2,e2,hv2⟩:=hhi _ rfl
   rw[e1,e2,hv1.int,hv2.int]at go
   rw[e1,e2,hv1.int,hv2.int]
   exact .inr ⟨_,_,h9,by simpa using go ⟨_,rfl⟩ ⟨_,rfl⟩,hn⟩
  ·exact .inl h
 ·exact .inl h
theorem Of {e:TyI} {f:Operand->Dat} {ds ds':List Dat}(h1:∀j e0,CP j ds=some e0->∃e,CP j ds'=some e/\e.size=e0.size/\e.isAgg=e0.isAgg)(h2:∀j,DQ j ds'=DQ j ds):∀{ps:List (Nat×Operand)},Il T e ps f ds=true->Il T e ps f ds'=true
 |[],_=>rfl
 |
  (i,x)::ps,h=>by
  simp only[Il]at h⊢
  split at h
  ·rename_i d off ft hd hfl
   obtain⟨d',g1,g2,g3⟩:=h1 i d hd
   simp only[g1,hfl,g2,g3,h2]
   split at h
   ·simp only[Ap]at h⊢
    exact⟨h.1,Of h1 h2 h.2⟩
   ·cases h
  ·cases h
theorem Vf {P:Program} {t:TypeId} {e:TyI}(ht:TyOk P t e)(hT:pG P T=true) {fs:Array Field}(hfs:P.underlying t=some (.struct fs))(hpl:fs.toList.map (λf=>(f.offset,f.type))=e.flds) {I O:List Nat}(hη:AAB η I) {pl:Array (Nat×Nat)}(hp:∀(i off:Nat) (ft:TypeId) (fe:TyI),e.flds[i]? =some (off,ft)->GQ ft T=some fe->pl[i]? =some (off,fe.size)) {f:Operand->Dat} {g:Operand->Value}(hfg:∀x,∃cs,AH η I O w (f x) cs/\g x=Ch (f x) cs):
  ∀(ps:List (Nat×Operand)) (ds:List Dat) (cs:List Value),Il T e ps f ds=true->B6 η I O w ds cs->∃cs',Instr.fill (pl[·]?) cs.toArray (ps.map λp=>(p.1,g p.2))=some cs'.toArray/\B6 η I O w (Mb ps f ds) cs'
 |[],ds,cs,_,hr=>⟨cs,rfl,hr⟩
 |
  (i,x)::ps,ds,cs,hf,hr=>by
  simp only[Il]at hf
  split at hf
  ·rename_i d off ft hd hfl
   split at hf
   ·rename_i fe hfe
    simp only[Ap,beq_iff_eq]at hf
    obtain⟨⟨⟨⟨⟨h1,h2⟩,h3⟩,h4⟩,h5⟩,h6⟩:=hf
    have h2:=A0 h2
    have h3:=A0 h3
    have h4:=A0 h4
    obtain⟨cx,hcx,hg⟩:=hfg x
    have hlx:=EL _ _ hcx
    obtain⟨g1,g2⟩:=NY hcx hr hd h2
    have hcl:=(KV hη hcx h5).1
    have hsz:(g x).cells.size=fe.size:=by rw[hg,<-HG,hcl];omega
    have e1:=Xf (place:=(pl[·]?)) (cells:=cs.toArray) (rest:=ps.map λp=>(p.1,g p.2)) (hp i off ft fe hfl hfe) hsz (by simp only[BC];omega)
    simp only[Ar,Mb]
    rw[e1,hg,hcl,<-h4]
    obtain⟨_,q2,q3⟩:=NZ hd h2 h1
    exact Vf ht hT hfs hpl hη hp hfg ps _ _ (Of q3 q2 h6) g1
   ·cases hf
  ·cases hf
theorem St {P:Program}(hT:pG P T=true):∀(l:List Field),(∀f∈l,∃i,P.info? f.type=some i/\0<i.size)->(l.mapM (λf=>do pure (f.offset,<-Go.sizeOf f.type):Field->Sem (Nat×Nat))).run P w=.ok (l.map λf=>(f.offset,match P.info? f.type with|some i=>i.size|none=>0)) w
 |[],_=>by simp
 |
  f::l,h=>by
  obtain⟨i,hi,_⟩:=h f (by simp)
  have hs:(Go.sizeOf f.type).run P w=.ok i.size w:=by simp[Go.sizeOf,typeInfo,program,Sem.run,hi]
  have ih:=St hT l (λg hg=>h g (by simp[hg]))
  simp only[List.mapM_cons,AK,hs,AF,Bo,ih,Ar,hi]
theorem AAt(hC:C.Ok T)(hM:Models C B S w0 n fr σ η φ a w) {t:TypeId} {e:TyI}(he:GQ t T=some e)(ha:e.agg=true) {ps:List (Nat×Operand)}(hf:Il T e ps (ev C.Γ fr) (Dat.cellsOf (.d e.zero))=true):
  ∃v,(Instr.build t (ps.map λp=>(p.1,a.eval p.2)).toArray).run C.P w=.ok v w/\RD B σ η φ w (aP (Mb ps (ev C.Γ fr) (Dat.cellsOf (.d e.zero)))) v:=by
 have ht:=hC.ty he
 obtain⟨d,h1,_,_,h4,_,h6,_⟩:=ht.desc
 obtain⟨fs,rfl⟩:=h6 ha
 obtain⟨hpl,hpos⟩:=h4 fs rfl
 obtain⟨z,hz,hz1,hz2⟩:=ht.zero
 have hzr:B6 η (BA σ) (B++Ao φ σ) w (Dat.cellsOf (.d e.zero)) z.cells.toList:=JM (by simpa only[AH]using hz2 (B++Ao φ σ) w)
 have hmp:=St (w:=w) (P:=C.P) hC.tab fs.toList hpos
 have hpl2:∀(i off:Nat) (ft:TypeId) (fe:TyI),e.flds[i]? =some (off,ft)->GQ ft T=some fe->(fs.toList.map λf=>(f.offset,match C.P.info? f.type with|some i=>i.size|none=>0)).toArray[i]? =some (off,fe.size):=λi off ft fe hi hft=>by
  rw[<-hpl]at hi
  simp only[Ad,Cl]at hi
  obtain⟨f,hf1,hf2⟩:=hi
  simp only[Prod.mk.injEq]at hf2
  obtain⟨i0,z0,q1,q2,_⟩:=(hC.ty hft).info
  rw[<-hf2.2]at q1
  rw[<-hf2.1]
  simp only[ACE,Ad,hf1,CA,q1,q2]
 obtain⟨cs',g1,g2⟩:=Vf ht hC.tab h1 hpl hM.mem.oneV hpl2 (λx=>Bb hM x) ps _ _ hf hzr
 refine⟨.agg cs'.toArray,?_,?_⟩
 ·have hmp2:(fs.mapM (λf=>do pure (f.offset,<-Go.sizeOf f.type):Field->Sem (Nat×Nat))).run C.P w=.ok (fs.toList.map λf=>(f.offset,match C.P.info? f.type with|some i=>i.size|none=>0)).toArray w:=by
   have e1:fs.mapM (λf=>do pure (f.offset,<-Go.sizeOf f.type):Field->Sem (Nat×Nat))=(List.toArray<$>fs.toList.mapM (λf=>do pure (f.offset,<-Go.sizeOf f.type):Field->Sem (Nat×Nat))):=by
    rw[fH]
   rw[e1,Sem.run_map,hmp];rfl
  simp only[Instr.build,AK,hz,AF,run_underlying h1,hmp2]
  simp only[FD]at g1
  rw[g1];rfl
 ·exact ZJ g2
end
end Go.Sx
namespace Go.Sx
open Go Go.RowKit Go.Reg
section
variable {C:Cx} {T:Hh} {B S:List Nat} {w0 w:World} {n kd:Nat} {fr:Fr} {σ:Sg} {η:Nat->Value} {φ:Nat->List Nat} {a:Act} {v vx vy:Value} {no:Prop} {o:Oper} {K:Fr->Sg->Prop}
theorem Jg(hk:kd≠5)(hk2:kd≠2)(h:∀(B S:List Nat) (w0:World) (η:Nat->Value) (φ:Nat->List Nat) (a:Act) (w:World),Models C B S w0 n fr σ η φ a w->
  Bm C n kd o K fr σ\/((kd=0->BG a o=true)/\((∃v w',(execOp a.eval o).run C.P w=.ok (.value v) w'/\J4 C B S w0 n K (a.put o.dst v) w')\/(∃w',(execOp a.eval o).run C.P w=.ok .skip w'/\J4 C B S w0 n K (a.put o.dst Go.undef) w')))):Bm C n kd o K fr σ:=by
 by_cases hh:Bm C n kd o K fr σ
 ·exact hh
 ·exact CC hk hk2 (λB S w0 η φ a w hM=>(h B S w0 η φ a w hM).resolve_left hh)
theorem CZ {P:Program} {s:Sem Value} {w w':World}(h:s.run P w=.ok v w'):(do pure (Next.value (<-s)):Sem Next).run P w=.ok (.value v) w':=ABm h
theorem Wf {P:Program} {s:Sem Unit} {w w':World}(h:s.run P w=.ok () w'):(do s;pure Next.skip:Sem Next).run P w=.ok .skip w':=vS h
theorem BQ(hk:kd≠5)(hk2:kd≠2)(hd:Dh o.dst n=true)(h:∀(B S:List Nat) (w0:World) (η:Nat->Value) (φ:Nat->List Nat) (a:Act) (w:World),Models C B S w0 n fr σ η φ a w->
  Bm C n kd o K fr σ\/∃d v,K (CF o.dst d fr) σ/\(execOp a.eval o).run C.P w=.ok (.value v) w/\RD B σ η φ w d v/\(kd=0->BG a o=true)):Bm C n kd o K fr σ:=
 Jg hk hk2 λB S w0 η φ a w hM=>(h B S w0 η φ a w hM).imp id λ⟨_,v,h1,h2,h3,h4⟩=>⟨h4,.inl ⟨v,w,h2,UT hM hd h3 h1⟩⟩
theorem cE {d:Dat} {yes no':Dat->Prop} {bad:Prop}(h:ABi d yes no' bad):bad\/(d=.d (.bool true)/\yes (.d (.bool true)))\/(d=.d (.bool false)/\no' (.d (.bool false)))\/∃p i,d=.d (.prop p i)/\(p->yes (.d (.bool true)))/\(¬p->no' (.d (.bool false))):=by
 unfold ABi at h
 split at h
 ·exact .inr (.inl ⟨rfl,h⟩)
 ·exact .inr (.inr (.inl ⟨rfl,h⟩))
 ·exact .inr (.inr (.inr ⟨_,_,rfl,h.1,h.2⟩))
 ·exact .inl h
theorem Ek {η:Nat->Value} {I O:List Nat} {w:World}:∀{xs:List Da} {css:List (List Value)},AE η I O w (Ct xs) css↔Aq O w xs css
 |[],css=>by simp[Ct,AE,Aq]
 |x::xs,css=>by simp only[Ct,AE,Aq,AH,Ek (xs:=xs)]
theorem Ej:∀(xs:List Da) (css:List (List Value)),List.zipWith Ch (Ct xs) css=List.zipWith Ea xs css
 |[],css=>by simp[Ct]
 |x::xs,[]=>by simp[Ct]
 |x::xs,c::css=>by simp[Ct,Ch,Ej xs css]
theorem GG {η:Nat->Value} {I O:List Nat} {w:World}:∀{xs ys:List Dat} {c1 c2:List (List Value)},AE η I O w xs c1->AE η I O w ys c2->AE η I O w (xs++ys) (c1++c2)/\List.zipWith Ch (xs++ys) (c1++c2)=List.zipWith Ch xs c1++List.zipWith Ch ys c2
 |[],ys,c1,c2,h1,h2=>by simp only[AE]at h1;subst h1;simpa using h2
 |
  x::xs,ys,c1,c2,h1,h2=>by
  simp only[AE]at h1
  obtain⟨a1,a2,rfl,h3,h4⟩:=h1
  obtain⟨g1,g2⟩:=GG h4 h2
  exact⟨⟨a1,a2++c2,rfl,h3,g1⟩,by simp[g2]⟩
theorem qI {fn:Fn} {f c:List Dat} {fs cs:List (List Value)}(h1:AE η (BA σ) (B++Ao φ σ) w f fs)(h2:AE η (BA σ) (B++Ao φ σ) w c cs):RD B σ η φ w (iY fn f c) (.func fn (List.zipWith Ch f fs).toArray (List.zipWith Ch c cs).toArray):=by
 unfold iY
 split
 ·rename_i xs ys hx hy
  rw[E4 hx]at h1⊢
  rw[E4 hy]at h2⊢
  exact⟨[_],by simp only[AH,RepC];exact⟨fs,cs,Ek.1 h1,Ek.1 h2,by rw[Ej,Ej]⟩,rfl⟩
 ·exact⟨[_],by simp only[AH];exact⟨fs,cs,h1,h2,rfl⟩,rfl⟩
theorem gW {t:TypeId} {d:Dat}(h:RD B σ η φ w d v):RD B σ η φ w (Yi t d) (.iface t v):=by
 obtain⟨cs,h1,rfl⟩:=h
 unfold Yi
 split
 ·rename_i x;exact⟨[_],by simp only[AH,RepC];exact⟨cs,by simpa only[AH]using h1,rfl⟩,rfl⟩
 ·exact⟨[_],by simp only[AH];exact⟨cs,h1,rfl⟩,rfl⟩
theorem AD7 {ds:List Dat} {css:List (List Value)}(h:AE η (BA σ) (B++Ao φ σ) w ds css):∀{m:Nat} {d:Dat},CP m ds=some d->∃v,(List.zipWith Ch ds css)[m]? =some v/\RD B σ η φ w d v:=by
 induction ds generalizing css with
 |nil=>intro m d hd;simp[CP]at hd
 |
  cons x ds ih=>
  intro m d hd
  simp only[AE]at h
  obtain⟨c1,c2,rfl,h1,h2⟩:=h
  cases m with
  |zero=>simp only[CP,AB]at hd;subst hd;exact⟨_,rfl,c1,h1,rfl⟩
  |succ m=>simp only[CP]at hd;obtain⟨v,g1,g2⟩:=ih h2 hd;exact⟨v,by simpa using g1,g2⟩
theorem ABz {ds:List Da} {css:List (List Value)}(h:Aq (B++Ao φ σ) w ds css):∀{m:Nat} {d:Da},Gk m ds=some d->∃v,(List.zipWith Ea ds css)[m]? =some v/\RD B σ η φ w (.d d) v:=by
 induction ds generalizing css with
 |nil=>intro m d hd;simp[Gk]at hd
 |
  cons x ds ih=>
  intro m d hd
  simp only[Aq]at h
  obtain⟨c1,c2,rfl,h1,h2⟩:=h
  cases m with
  |zero=>simp only[Gk,AB]at hd;subst hd;exact⟨_,rfl,c1,by simpa only[AH]using h1,rfl⟩
  |succ m=>simp only[Gk]at hd;obtain⟨v,g1,g2⟩:=ih h2 hd;exact⟨v,by simpa using g1,g2⟩
theorem AEC {P:Program} {G:List FuncId} {o:Oper}(h:DN P G o=5):∃t x i c,o.op=.lookup t x i c:=by
 unfold DN at h
 split at h<;>first|(cases h;done)|skip
 all_goals first|exact⟨_,_,_,_,‹_›⟩|(exfalso;(repeat' split at h)<;>simp at h)
theorem ACU {P:Program} {G:List FuncId} {o:Oper}(h:DN P G o=2):(∃c f,o.op=.call c/\c.callee=.value f)\/∃t l c,o.op=.makeSlice t l c:=by
 unfold DN at h
 split at h<;>first|(cases h;done)|skip
 all_goals first|(exfalso;(repeat' split at h)<;>simp at h;done)|skip
 ·rename_i c hc
  split at h
  ·exfalso;(repeat' split at h)<;>simp at h
  ·exact .inl ⟨c,_,hc,‹_›⟩
  ·exact .inl ⟨c,_,hc,‹_›⟩
  ·cases h
 ·rename_i t l c hc
  exact .inr ⟨t,l,c,hc⟩
theorem rD {kd:Nat} {o:Oper} {K:Fr->Sg->Prop}(hk:kd≠5)(h:∀(B S:List Nat) (w0:World) (η:Nat->Value) (φ:Nat->List Nat) (a:Act) (w:World),Models C B S w0 n fr σ η φ a w->
  (kd=0->BG a o=true)/\∃v w',(execOp a.eval o).run C.P w=.ok (.value v) w'/\Kb w w'/\J4 C B S w0 n K (a.put o.dst v) w'):Bm C n kd o K fr σ:=by
 unfold Bm
 intro B S w0 η φ a w hm
 obtain⟨h0,v,w',hr,he,hg⟩:=h B S w0 η φ a w hm
 split
 ·exact⟨h0 rfl,Xy hr hg⟩
 ·exact absurd rfl hk
 ·exact Xy hr ⟨he,hg⟩
 ·exact Xy hr hg
theorem AC0 {c:Call}(ho:o.op=.call c) {f:Operand}(hf:c.callee=.value f) {g:FuncId} {fs cs:List Dat}(hfun:∀(B S:List Nat) (w0:World) (η:Nat->Value) (φ:Nat->List Nat) (a:Act) (w:World),Models C B S w0 n fr σ η φ a w->∃c1 c2,AE η (BA σ) (B++Ao φ σ) w fs c1/\AE η (BA σ) (B++Ao φ σ) w cs c2/\a.eval f=.func (.func g) (List.zipWith Ch fs c1).toArray (List.zipWith Ch cs c2).toArray)
  (hd:Dh o.dst n=true) {q:Bool} (h:Cj C q g (fs++(uJ C.Γ fr c.args.toList++cs)) (λd fr σ=>K (CF o.dst d fr) σ) fr σ) (hM:Models C B S w0 n fr σ η φ a w):
  o.wp C.P a w (λa' w'=>(q=true->Kb w w')/\J4 C B S w0 n K a' w') No:=by
 unfold Cj at h
 obtain⟨c1,c2,r1,r2,r3⟩:=hfun B S w0 η φ a w hM
 obtain⟨c3,r4,r5⟩:=Te hM c.args.toList
 obtain⟨p1,p2⟩:=GG r4 r2
 obtain⟨p3,p4⟩:=GG r1 p1
 obtain⟨g1,g2⟩:=h B S w0 η φ n a w _ hM ⟨_,p3,rfl⟩
 rw[p4,p2,<-r5]at g1 g2
 have e:(List.zipWith Ch fs c1++(List.map a.eval c.args.toList++List.zipWith Ch cs c2)).toArray=(List.zipWith Ch fs c1).toArray++c.args.map a.eval++(List.zipWith Ch cs c2).toArray:=by
  apply Ey;simp
 rw[e]at g1 g2
 unfold Oper.wp
 have hr:(execOp a.eval o).run C.P w=.ok (.enter g ((List.zipWith Ch fs c1).toArray++c.args.map a.eval++(List.zipWith Ch cs c2).toArray)) w:=by
  simp only[execOp,ho,resolve,hf,r3,Deferred.ofValue,AK,Bo,AF,invoke]
  exact g1
 rw[hr,Oper.upon_enter]
 refine g2.mono ?_
 rintro e w' ⟨v,d,fr',σ',η',φ',rfl,hK,hM',hd',hq⟩
 exact⟨hq,_,_,_,_,hM'.put hd hd',hK⟩
theorem KW(hC:C.Ok T) {G:List FuncId}(hk:DN C.P G o=kd\/kd=3)(h:Ty C T n kd o K fr σ):Bm C n kd o K fr σ:=by
 unfold Ty at h
 rcases B9 h with h|⟨hd,h⟩
 ·exact h
 have k5:(∀t x i c,o.op≠.lookup t x i c)->kd≠5:=λhn=>by
  rintro rfl
  rcases hk with hk|hk
  ·obtain⟨t,x,i,c,e⟩:=AEC hk;exact hn _ _ _ _ e
  ·cases hk
 have k2:((∀c,o.op≠.call c)/\∀t l c,o.op≠.makeSlice t l c)->kd≠2:=λhn=>by
  rintro rfl
  rcases hk with hk|hk
  ·rcases ACU hk with⟨c,f,e,_⟩|⟨t,l,c,e⟩
   ·exact hn.1 _ e
   ·exact hn.2 _ _ _ e
  ·cases hk
 have k2':∀c,o.op=.call c->(∀f,c.callee≠.value f)->kd≠2:=λc hc hn=>by
  rintro rfl
  rcases hk with hk|hk
  ·rcases ACU hk with⟨c',f,e,e2⟩|⟨t,l,c',e⟩
   ·rw[hc]at e;cases e;exact hn _ e2
   ·rw[hc]at e;cases e
  ·cases hk
 split at h
 ·
  rename_i x ho
  refine BQ (k5 (by simp[ho])) (k2 (by simp[ho])) hd λB S w0 η φ a w hM=>.inr ⟨_,a.eval x,RD.force h,?_,Bb hM x,λ_=>by simp[BG,ho]⟩
  simp[execOp,ho]
 ·
  rename_i x ho
  refine BQ (k5 (by simp[ho])) (k2 (by simp[ho])) hd λB S w0 η φ a w hM=>.inr ⟨_,a.eval x,RD.force h,?_,Bb hM x,λ_=>by simp[BG,ho]⟩
  simp[execOp,ho]
 ·
  rename_i c x y ho
  refine BQ (k5 (by simp[ho])) (k2 (by simp[ho])) hd λB S w0 η φ a w hM=>?_
  have hc:=Bb hM c
  have run:∀b:Bool,a.eval c=.bool b->(execOp a.eval o).run C.P w=.ok (.value (if b then a.eval x else a.eval y)) w:=λb hb=>by simp[execOp,ho,hb,asBool]
  have dyn:kd=0->BG a o=true:=λ_=>by simp[BG,ho]
  rcases cE h with h|⟨e,h⟩|⟨e,h⟩|⟨p,i,e,h1,h2⟩
  ·exact .inl h
  ·rw[e]at hc
   exact .inr ⟨_,_,RD.force h,run true hc.bool,by simpa using Bb hM x,dyn⟩
  ·rw[e]at hc
   exact .inr ⟨_,_,RD.force h,run false hc.bool,by simpa using Bb hM y,dyn⟩
  ·rw[e]at hc
   by_cases hp:p
   ·exact .inr ⟨_,_,RD.force (h1 hp),run _ hc.prop,by simpa[hp]using Bb hM x,dyn⟩
   ·exact .inr ⟨_,_,RD.force (h2 hp),run _ hc.prop,by simpa[hp]using Bb hM y,dyn⟩
 ·
  rename_i t ho
  rcases BO h with h|⟨e,he,h⟩
  ·exact h
  rcases Bz h with h|⟨t0,ht0,h⟩
  ·exact h
  rcases MF h with h|⟨j,hj,h⟩
  ·exact h
  refine Jg (k5 (by simp[ho])) (k2 (by simp[ho])) λB S w0 η φ a w hM=>.inr ⟨λ_=>by simp[BG,ho],.inl ?_⟩
  obtain⟨z,hz,hz1,hz2⟩:=(hC.ty he).zero
  have hr:B6 η (BA σ) (B++Ao φ σ) w (Dat.cellsOf (.d e.zero)) z.cells.toList:=JM (by simpa only[AH]using hz2 (B++Ao φ σ) w)
  obtain⟨η',φ',M'⟩:=hM.newCells (t:=t) hr hj hd
  rw[Bw]at h
  refine⟨_,_,?_,_,_,_,_,M',h⟩
  simp only[execOp,ho]
  exact CZ (by simp[Instr.alloc,hz,newVar,newRow])
 ·
  rename_i t x ho
  rcases B9 h with h|⟨hst,h⟩
  ·exact h
  rcases Bz h with h|⟨t0,ht0,h⟩
  ·exact h
  rcases MF h with h|⟨j,hj,h⟩
  ·exact h
  refine Jg (k5 (by simp[ho])) (k2 (by simp[ho])) λB S w0 η φ a w hM=>.inr ⟨λ_=>by simp[BG,ho],.inl ?_⟩
  obtain⟨cs,h1,h2⟩:=Bb hM x
  obtain⟨η',φ',M'⟩:=hM.newCells (t:=t) (JM h1) hj hd
  have hcl:=(KV hM.mem.oneV h1 hst).1
  have h:=RD.force h
  rw[Bw]at h
  refine⟨_,_,?_,_,_,_,_,M',h⟩
  simp only[execOp,ho]
  have e1:(a.eval x).cells=cs.toArray:=by apply Ey;rw[h2,hcl]
  exact CZ (by simp[Instr.box,newVar,newRow,e1])
 ·
  rename_i t ps ho
  rcases BO h with h|⟨e,he,h⟩
  ·exact h
  rcases B9 h with h|⟨hb,h⟩
  ·exact h
  simp only[Ap]at hb
  refine BQ (k5 (by simp[ho])) (k2 (by simp[ho])) hd λB S w0 η φ a w hM=>?_
  obtain⟨v,r1,r2⟩:=AAt hC hM he hb.1 hb.2
  refine .inr ⟨_,v,RD.force h,?_,r2,λ_=>by simp[BG,ho]⟩
  simp only[execOp,ho]
  refine CZ ?_
  have:(ps.map λ(x:Nat×Operand)=>(x.1,a.eval x.2))=(ps.toList.map λp=>(p.1,a.eval p.2)).toArray:=by apply Ey;simp
  rw[<-this]at r1
  exact r1
 ·
  rename_i t m ps ho
  rcases BO h with h|⟨e,he,h⟩
  ·exact h
  rcases BO h with h|⟨ee,hee,h⟩
  ·exact h
  rcases B9 h with h|⟨hb,h⟩
  ·exact h
  simp only[Ap,decide_eq_true_eq,CU,beq_iff_eq]at hb
  obtain⟨⟨⟨⟨⟨hk2,hm⟩,hm1⟩,hs1⟩,hix⟩,hall⟩:=hb
  have hk2:=A0 hk2
  have hm:=A0 hm
  rcases Bz h with h|⟨xs,hxs,h⟩
  ·exact h
  rcases Bz h with h|⟨t0,ht0,h⟩
  ·exact h
  rcases MF h with h|⟨j,hj,h⟩
  ·exact h
  refine Jg (k5 (by simp[ho])) (k2 (by simp[ho])) λB S w0 η φ a w hM=>.inr ⟨λ_=>by simp[BG,ho],.inl ?_⟩
  have reps:∀l:List (Nat×Operand),(∀p∈l,(ev C.Γ fr p.2).fits ee=true/\(ev C.Γ fr p.2).stor=true)->∀ys,EX (l.map λp=>ev C.Γ fr p.2)=some ys->∃css,Aq (B++Ao φ σ) w ys css/\(l.map λp=>(a.eval p.2).cells.toList)=css/\∀x∈css,ER ee.size x:=by
   intro l
   induction l with
   |nil=>intro _ ys hy;simp[EX]at hy;subst hy;exact⟨[],by simp[Aq],rfl,by simp⟩
   |
    cons p l ih=>
    intro hl ys hy
    obtain⟨f1,f2⟩:=hl p (by simp)
    obtain⟨cs,h1,h2⟩:=Bb hM p.2
    have hcl:=(KV hM.mem.oneV h1 f2).1
    have hone:=PG hM.mem.oneV _ _ f2 h1
    have hlen:=EL _ _ h1
    have hfit:=Ly f1
    simp only[Ar]at hy
    cases hev:ev C.Γ fr p.2 with
    |
     d x=>
     rw[hev]at hy h1
     simp only[EX]at hy
     split at hy
     ·rename_i zs hz
      simp at hy;subst hy
      obtain⟨css,q1,q2,q3⟩:=ih (λp hp=>hl p (by simp[hp])) zs hz
      refine⟨cs::css,⟨cs,css,rfl,by simpa only[AH]using h1,q1⟩,by simp[q2,h2,hcl],λy hy=>?_⟩
      rcases Ai.1 hy with rfl|hy
      ·exact⟨by omega,hone⟩
      ·exact q3 y hy
     ·cases hy
    |_=>rw[hev]at hy;simp[EX]at hy
  obtain⟨css,q1,q2,q3⟩:=reps ps.toList (λp hp=>by have:=hall p hp;simpa using this) xs hxs
  have hcl:css.length=m:=by rw[<-q2];simp;exact hm.symm
  have hvs:∀v∈ps.toList.map (λp=>a.eval p.2),v.cells.size=ee.size:=λv hv=>by
   obtain⟨p,hp,rfl⟩:=An.1 hv
   have:=(q3 (a.eval p.2).cells.toList (by rw[<-q2];exact An.2 ⟨p,hp,rfl⟩)).1
   simpa using this
  have hr:=PB (w:=w) (hC.ty he) hk2 (hC.ty hee) hvs (by simp;omega) hs1
  have hlen:(ps.toList.map (λp=>a.eval p.2)).length=m:=by simp;exact hm.symm
  have hpar:(((ps.toList.map (λp=>a.eval p.2)).zipIdx 0).map λp=>(p.2,p.1)).toArray=ps.map λ(x:Nat×Operand)=>(x.1,a.eval x.2):=by
   apply Ey
   simp only[Array.toList_map]
   have g:∀(l:List (Nat×Operand)) (i:Nat),l.map (·.1)=List.range' i l.length->((l.map (λp=>a.eval p.2)).zipIdx i).map (λp=>(p.2,p.1))=l.map (λx=>(x.1,a.eval x.2)):=by
    intro l
    induction l with
    |nil=>intro i _;rfl
    |
     cons p l ih=>
     intro i hi
     simp only[Ar,Aw,List.range'_succ,D2]at hi
     simp only[Ar,RS,hi.1,ih (i+1) hi.2]
   refine g ps.toList 0 ?_
   rw[hix,List.range_eq_range',hm];simp
  rw[hlen,hpar]at hr
  have e3:(List.map (·.cells.toList) (ps.toList.map (λp=>a.eval p.2)))=css:=by rw[<-q2];simp
  rw[e3]at hr
  have hsl:=vK (E:=e.elem) q3 (by rw[hcl];unfold maxLen;omega) w
  rw[hcl]at hsl
  have M':=hM.add (o:=.slice e.elem ee.size xs) (v:=.slice (some ⟨w.heap.size,0,none⟩) m m) (F:=[w.heap.size]) (Tch.alloc w _ []) hj (by simp) (λO' hl=>⟨css,hsl,rfl,Aq.later hl _ _ q1,q3⟩) hd
  rw[Bw]at h
  refine⟨_,_,?_,_,_,_,_,M'.perm (C7 _ _ _),h⟩
  simp only[execOp,ho]
  exact CZ hr
 ·
  rename_i t l c ho
  rcases BO h with h|⟨e,he,h⟩
  ·exact h
  rcases BO h with h|⟨ee,hee,h⟩
  ·exact h
  rcases B9 h with h|⟨hb,h⟩
  ·exact h
  simp only[Ap,decide_eq_true_eq]at hb
  obtain⟨⟨hk2,hst⟩,hby⟩:=hb
  have hk2:=A0 hk2
  split at h
  ·rename_i k1 x k2' y hx hy
   obtain⟨m,rfl,rfl,hm,h⟩:=h
   rcases Bz h with h|⟨t0,ht0,h⟩
   ·exact h
   rcases MF h with h|⟨j,hj,h⟩
   ·exact h
   refine rD (k5 (by simp[ho])) λB S w0 η φ a w hM=>⟨λ_=>by simp[BG,ho],?_⟩
   obtain⟨z,g1,g2,g3,g4⟩:=QY (w:=w) (hC.ty he) hk2 (hC.ty hee) hst hby (k1:=k1) (k2:=k2') hm
   have ex:a.eval l=.int k1 m:=by have:=Bb hM l;rw[hx]at this;obtain⟨cs,r1,r2⟩:=this;simp only[AH,RepC]at r1;subst r1;exact r2
   have ey:a.eval c=.int k2' m:=by have:=Bb hM c;rw[hy]at this;obtain⟨cs,r1,r2⟩:=this;simp only[AH,RepC]at r1;subst r1;exact r2
   have hsl:=vK (E:=e.elem) (k:=ee.size) (css:=List.replicate m z) (λx hx=>by rw[lT hx];exact g2) (by simp;unfold PW at hm;unfold maxLen;omega) w
   rw[B8]at hsl
   have M':=hM.add (o:=.slice e.elem ee.size (List.replicate m ee.zero)) (v:=.slice (some ⟨w.heap.size,0,none⟩) m m) (F:=[w.heap.size]) (Tch.alloc w _ []) hj (by simp) (λO' hl=>⟨List.replicate m z,hsl,rfl,Kp (g3 _ _) m,λx hx=>by rw[lT hx];exact g2⟩) hd
   rw[Bw]at h
   refine⟨_,_,?_,(Tch.alloc w _ []).ext,_,_,_,_,M'.perm (C7 _ _ _),h⟩
   simp only[execOp,ho,ex,ey]
   exact CZ g1
  ·exact h
 ·
  rename_i t x ho
  refine BQ (k5 (by simp[ho])) (k2 (by simp[ho])) hd λB S w0 η φ a w hM=>?_
  rcases VZ hC hM.mem (Bb hM x) h with h|⟨d,v,h1,h2,h3⟩
  ·exact .inl h
  ·refine .inr ⟨d,v,h1,?_,h3,λ_=>by simp[BG,ho]⟩
   simp only[execOp,ho];exact CZ h2
 ·
  rename_i t x y ho
  refine Jg (k5 (by simp[ho])) (k2 (by simp[ho])) λB S w0 η φ a w hM=>?_
  rcases fX hC hM.mem (Bb hM x) (Bb hM y) h with h|⟨σ',w',h1,h2,h3⟩
  ·exact .inl h
  ·refine .inr ⟨λ_=>by simp[BG,ho],.inr ⟨w',?_,?_⟩⟩
   ·simp only[execOp,ho];exact Wf h2
   ·have M':Models C B S w0 n fr σ' η φ a w':=⟨h3.1,h3.frame hM.fr,hM.defers,hM.size⟩
    rw[Bw]at h1
    exact⟨_,_,_,_,M'.put hd ⟨[Go.undef],by simp[AH,RepC],rfl⟩,h1⟩
 ·
  rename_i x ho
  refine BQ (k5 (by simp[ho])) (k2 (by simp[ho])) hd λB S w0 η φ a w hM=>?_
  have hx:=Bb hM x
  have run:∀b off,a.eval x=.pointer (some ⟨b,off,none⟩)->(execOp a.eval o).run C.P w=.ok (.value (a.eval x)) w/\(kd=0->BG a o=true):=λb off e=>⟨by simp[execOp,ho,e],λ_=>by simp[BG,ho,e]⟩
  have h:=RD.force h
  split at h
  ·rename_i y hev
   rw[hev]at hx
   obtain⟨cs,g1,g2⟩:=id hx
   simp only[AH,RepC]at g1
   obtain⟨b,off,c,rfl,_⟩:=g1
   obtain⟨r1,r2⟩:=run b off g2
   exact .inr ⟨_,_,h,r1,by rw[hev];exact hx,r2⟩
  ·rename_i i off hev
   rw[hev]at hx
   obtain⟨cs,g1,g2⟩:=id hx
   simp only[AH]at g1
   obtain⟨_,b,_,rfl⟩:=g1
   obtain⟨r1,r2⟩:=run b off g2
   exact .inr ⟨_,_,h,r1,by rw[hev];exact hx,r2⟩
  ·rename_i i k m off hev
   rw[hev]at hx
   obtain⟨cs,g1,g2⟩:=id hx
   simp only[AH]at g1
   obtain⟨_,b,l,c,_,rfl⟩:=g1
   obtain⟨r1,r2⟩:=run b _ g2
   exact .inr ⟨_,_,h,r1,by rw[hev];exact hx,r2⟩
  ·rename_i i hev
   rw[hev]at hx
   rcases Bz h with h|⟨ow,hg,h⟩
   ·exact .inl h
   split at h
   ·obtain⟨b,cs,e1,_⟩:=DX hM.mem hg
    obtain⟨cs',g1,g2⟩:=id hx
    simp only[AH]at g1
    obtain⟨_,rfl⟩:=g1
    obtain⟨r1,r2⟩:=run b 0 (g2.trans (by rw[e1];rfl))
    exact .inr ⟨_,_,h,r1,by rw[hev];exact hx,r2⟩
   ·exact .inl h
  ·exact .inl h
 ·
  rename_i op t x y t' ho
  split at h
  ·rename_i dx dy hpx hpy
   rcases BO h with h|⟨e,he,h⟩
   ·exact h
   rcases B9 h with h|⟨hb,h⟩
   ·exact h
   rcases Bz h with h|⟨p,hp,h⟩
   ·exact h
   simp only[Ap]at hb
   have hk0:kd≠0:=λe=>by rw[e]at hb;simp at hb
   refine BQ (k5 (by simp[ho])) (k2 (by simp[ho])) hd λB S w0 η φ a w hM=>?_
   rcases AEL hC he hb.1 hpx hpy (Bb hM x) (Bb hM y) hp h x y with h|⟨d,v,h1,h2,h3⟩
   ·exact .inl h
   ·refine .inr ⟨d,v,h1,?_,h3,λe=>absurd e hk0⟩
    simp only[execOp,ho]
    exact CZ h2
  refine BQ (k5 (by simp[ho])) (k2 (by simp[ho])) hd λB S w0 η φ a w hM=>?_
  rcases vE (xo:=x) hC hM.mem (Bb hM x) (Bb hM y) h with h|⟨⟨d,v,h1,h2,h3⟩,h4⟩
  ·exact .inl h
  ·refine .inr ⟨d,v,h1,?_,h3,λ_=>by simp only[BG,ho];exact h4⟩
   simp only[execOp,ho]
   exact CZ h2
 ·
  rename_i op t x ho
  refine BQ (k5 (by simp[ho])) (k2 (by simp[ho])) hd λB S w0 η φ a w hM=>?_
  rcases ABh (w:=w) (P:=C.P) (Bb hM x) h with h|⟨d,v,h1,h2,h3⟩
  ·exact .inl h
  ·refine .inr ⟨d,v,h1,?_,h3,λ_=>by simp[BG,ho]⟩
   simp only[execOp,ho];exact CZ h2
 ·
  rename_i s t x ho
  rcases BO h with h|⟨e,he,h⟩
  ·exact h
  rcases BO h with h|⟨e',he',h⟩
  ·exact h
  refine BQ (k5 (by simp[ho])) (k2 (by simp[ho])) hd λB S w0 η φ a w hM=>?_
  split at h
  ·rename_i k k' m hik hev
   obtain⟨b,h1,h2⟩:=h
   have hx:=Bb hM x
   rw[hev]at hx
   obtain⟨d,g1,_,_,_,_,_,g2,_⟩:=(hC.ty he).desc
   obtain⟨d',g3,_⟩:=(hC.ty he').desc
   have:=g2 k hik
   subst this
   refine .inr ⟨_,.int k b,h2,?_,Fz k b,λ_=>by simp[BG,ho,hx.int]⟩
   simp only[execOp,ho]
   refine CZ ?_
   rw[hx.int]
   simp only[convert,AK,run_underlying g3,run_underlying g1,AF]
   simp[Conv.intToInt,h1]
  ·exact .inl h
 ·
  rename_i t x ho
  rcases BO h with h|⟨e,he,h⟩
  ·exact h
  rcases B9 h with h|⟨hb,h⟩
  ·exact h
  refine BQ (k5 (by simp[ho])) (k2 (by simp[ho])) hd λB S w0 η φ a w hM=>?_
  refine .inr ⟨_,.iface t (a.eval x),RD.force h,?_,gW (Bb hM x),λ_=>by simp[BG,ho]⟩
  simp only[execOp,ho]
  refine CZ ?_
  obtain⟨d,h1,h2⟩:=(hC.ty he).kd_desc
  simp only[Instr.makeInterface,AK,run_underlying h1,AF]
  have hne:e.kd≠5:=λh=>by rw[h]at hb;cases hb
  split
  ·rename_i ms;exact absurd h2 hne
  ·rfl
 ·
  rename_i f p q ho
  refine BQ (k5 (by simp[ho])) (k2 (by simp[ho])) hd λB S w0 η φ a w hM=>?_
  obtain⟨c1,r1,r2⟩:=Te hM p.toList
  obtain⟨c2,r3,r4⟩:=Te hM q.toList
  refine .inr ⟨_,_,RD.force h,?_,qI r1 r3,λ_=>by simp[BG,ho]⟩
  simp only[execOp,ho]
  refine CZ ?_
  rw[<-r2,<-r4]
  simp only[Instr.makeFunc,Bo]
  congr 2<;>(apply Ey;simp)
 ·
  rename_i t x m ho
  refine BQ (k5 (by simp[ho])) (k2 (by simp[ho])) hd λB S w0 η φ a w hM=>?_
  rcases T8 hC hM.mem (Bb hM x) h with h|⟨d,v,h1,h2,h3⟩
  ·exact .inl h
  ·refine .inr ⟨d,v,h1,?_,h3,λ_=>by simp[BG,ho]⟩
   simp only[execOp,ho];exact CZ h2
 ·
  rename_i t x ix ho
  refine BQ (k5 (by simp[ho])) (k2 (by simp[ho])) hd λB S w0 η φ a w hM=>?_
  rcases Tz hC hM.mem (Bb hM x) (Bb hM ix) h with h|⟨d,v,h1,h2,h3⟩
  ·exact .inl h
  ·refine .inr ⟨d,v,h1,?_,h3,λ_=>by simp[BG,ho]⟩
   simp only[execOp,ho];exact CZ h2
 ·
  rename_i t x ix ho
  rcases BO h with h|⟨e,he,h⟩
  ·exact h
  rcases B9 h with h|⟨hb,h⟩
  ·exact h
  refine BQ (k5 (by simp[ho])) (k2 (by simp[ho])) hd λB S w0 η φ a w hM=>?_
  split at h
  ·rename_i s k i hev hev2
   obtain⟨j,rfl,hj,h⟩:=h
   have hx:=Bb hM x
   have hi:=Bb hM ix
   rw[hev]at hx
   rw[hev2]at hi
   obtain⟨d,g1,g2⟩:=(hC.ty he).kd_desc
   have hne:=A0 hb
   rw[hne]at g2
   cases d<;>simp at g2
   refine .inr ⟨_,_,h,?_,Fz _ _,λ_=>by simp[BG,ho]⟩
   simp only[execOp,ho]
   refine CZ ?_
   rw[hx.str,hi.int]
   simp only[Instr.index,asIntOf,AK,Bo,AF,run_underlying g1]
   simp[hj]
  ·exact .inl h
 ·
  rename_i t x m ho
  refine BQ (k5 (by simp[ho])) (k2 (by simp[ho])) hd λB S w0 η φ a w hM=>?_
  rcases gA hC (Bb hM x) h with h|⟨d,v,h1,h2,h3⟩
  ·exact .inl h
  ·refine .inr ⟨d,v,h1,?_,h3,λ_=>by simp[BG,ho]⟩
   simp only[execOp,ho];exact CZ h2
 ·
  rename_i t x lo hi mx ho
  refine BQ (k5 (by simp[ho])) (k2 (by simp[ho])) hd λB S w0 η φ a w hM=>?_
  have hopt:∀(q:Option Operand) (d:Dat),q.map (ev C.Γ fr)=some d->∃v,q.map a.eval=some v/\RD B σ η φ w d v:=λq d hq=>by
   cases q with
   |none=>cases hq
   |some x=>simp at hq;subst hq;exact⟨_,rfl,Bb hM x⟩
  have hopt0:∀(q:Option Operand),q.map (ev C.Γ fr)=none->q.map a.eval=none:=λq hq=>by
   cases q with
   |none=>rfl
   |some x=>cases hq
  rcases fY hC (vlo:=lo.map a.eval) (vhi:=hi.map a.eval) (vmx:=mx.map a.eval) (Bb hM x) (hopt lo) (hopt0 lo) (hopt hi) (hopt0 hi) (hopt0 mx) h with h|⟨d,v,h1,h2,h3⟩
  ·exact .inl h
  ·refine .inr ⟨d,v,h1,?_,h3,λ_=>by simp[BG,ho]⟩
   simp only[execOp,ho];exact CZ h2
 ·
  rename_i x m ho
  refine BQ (k5 (by simp[ho])) (k2 (by simp[ho])) hd λB S w0 η φ a w hM=>?_
  have hx:=Bb hM x
  have run:∀(vs:List Value) v,a.eval x=.tuple vs.toArray->vs[m]? =some v->(execOp a.eval o).run C.P w=.ok (.value v) w:=λvs v e e2=>by
   simp only[execOp,ho,e,Instr.extract]
   simp[e2]
  split at h
  ·rename_i ds hev
   rw[hev]at hx
   rcases Bz h with h|⟨d,hdd,h⟩
   ·exact .inl h
   obtain⟨cs,g1,g2⟩:=hx
   simp only[AH,RepC]at g1
   obtain⟨css,g3,rfl⟩:=g1
   obtain⟨v,q1,q2⟩:=ABz (η:=η) g3 hdd
   exact .inr ⟨_,v,h,run _ v g2 q1,q2,λ_=>by simp[BG,ho]⟩
  ·rename_i ds hev
   rw[hev]at hx
   rcases Bz h with h|⟨d,hdd,h⟩
   ·exact .inl h
   obtain⟨cs,g1,g2⟩:=hx
   simp only[AH]at g1
   obtain⟨css,g3,rfl⟩:=g1
   obtain⟨v,q1,q2⟩:=AD7 g3 hdd
   exact .inr ⟨_,v,RD.force h,run _ v g2 q1,q2,λ_=>by simp[BG,ho]⟩
  ·exact .inl h
 ·
  rename_i c ho
  have exec:∀(b:Builtin) (w w':World) (a:Act) (v:Value),c.callee=.builtin b->(builtin b c.argTypes o.type (c.args.map λ|.const _=>true|_=>false) (c.args.map a.eval)).run C.P w=.ok (.value v) w'->(execOp a.eval o).run C.P w=.ok (.value v) w':=λb w w' a v hb hr=>by
   simp only[execOp,ho,resolve,hb,AK,Bo,AF,invoke]
   exact hr
  split at h
  ·rename_i hc
   split at h
   ·rename_i x t hx ht
    refine BQ (k5 (by simp[ho])) (k2' c ho (by simp[hc])) hd λB S w0 η φ a w hM=>?_
    rcases vA hC hM.mem (Bb hM x) o.type h with h|⟨d,v,h1,h2,h3⟩
    ·exact .inl h
    ·have e1:c.args=#[x]:=by apply Ey;simpa using hx
     have e2:c.argTypes=#[t]:=by apply Ey;simpa using ht
     refine .inr ⟨d,v,h1,exec .len w w a v hc ?_,h3,λ_=>by simp[BG,ho]⟩
     simp only[builtin,e1,e2,HX,Ar,Bu]
     exact CZ h2
   ·exact h
  ·rename_i hc
   split at h
   ·rename_i x y t t' hx ht
    rcases B9 h with h|⟨hb,h9⟩
    ·exact h
    have hb:=A0 hb
    subst hb
    refine Jg (k5 (by simp[ho])) (k2' c ho (by simp[hc])) λB S w0 η φ a w hM=>?_
    rcases Zb hC hM hd (Bb hM x) (Bb hM y) o.type h9 with h|⟨v,w',h1,h2⟩
    ·exact .inl h
    ·have e1:c.args=#[x,y]:=by apply Ey;simpa using hx
     have e2:c.argTypes=#[t,t]:=by apply Ey;simpa using ht
     refine .inr ⟨λ_=>by simp[BG,ho],.inl ⟨v,w',exec .append w w' a v hc ?_,h2⟩⟩
     simp only[builtin,e1,e2,HX,Ar,Bu]
     exact CZ h1
   ·exact h
  ·rename_i hc
   refine BQ (k5 (by simp[ho])) (k2' c ho (by simp[hc])) hd λB S w0 η φ a w hM=>?_
   split at h
   ·rename_i k x k' y hl
    obtain⟨p,q,hpq⟩:∃p q,c.args.toList=[p,q]:=by
     have:=congrArg List.length hl
     simp at this
     have this:c.args.toList.length=2:=by simpa using this
     generalize c.args.toList=l at this
     rcases l with _|⟨p,_|⟨q,_|⟨r,l⟩⟩⟩<;>simp at this
     exact⟨p,q,rfl⟩
    rw[hpq]at hl
    simp at hl
    have hp:=Bb hM p
    have hq:=Bb hM q
    rw[hl.1]at hp
    rw[hl.2]at hq
    have e1:c.args=#[p,q]:=by apply Ey;simpa using hpq
    refine .inr ⟨_,.int k (min x y),h,exec .min w w a _ hc ?_,Fz _ _,λ_=>by simp[BG,ho]⟩
    simp only[builtin,e1,HX,Ar,Bu,hp.int,hq.int]
    refine CZ ?_
    simp[Builtin.min_,Builtin.min2]
    omega
   ·exact .inl h
  ·rename_i hc
   refine BQ (k5 (by simp[ho])) (k2' c ho (by simp[hc])) hd λB S w0 η φ a w hM=>?_
   split at h
   ·rename_i k x k' y hl
    obtain⟨p,q,hpq⟩:∃p q,c.args.toList=[p,q]:=by
     have:=congrArg List.length hl
     simp at this
     have this:c.args.toList.length=2:=by simpa using this
     generalize c.args.toList=l at this
     rcases l with _|⟨p,_|⟨q,_|⟨r,l⟩⟩⟩<;>simp at this
     exact⟨p,q,rfl⟩
    rw[hpq]at hl
    simp at hl
    have hp:=Bb hM p
    have hq:=Bb hM q
    rw[hl.1]at hp
    rw[hl.2]at hq
    have e1:c.args=#[p,q]:=by apply Ey;simpa using hpq
    refine .inr ⟨_,.int k (max x y),h,exec .max w w a _ hc ?_,Fz _ _,λ_=>by simp[BG,ho]⟩
    simp only[builtin,e1,HX,Ar,Bu,hp.int,hq.int]
    refine CZ ?_
    simp[Builtin.max_,Builtin.max2]
    omega
   ·exact .inl h
  ·rename_i f hc
   have fin:∀{g:FuncId} {fs cs:List Dat},Cj C (Nat.beq kd 2) g (fs++(uJ C.Γ fr c.args.toList++cs)) (λd fr σ=>K (CF o.dst d fr) σ) fr σ->(∀(B S:List Nat) (w0:World) (η:Nat->Value) (φ:Nat->List Nat) (a:Act) (w:World),Models C B S w0 n fr σ η φ a w->∃c1 c2,AE η (BA σ) (B++Ao φ σ) w fs c1/\AE η (BA σ) (B++Ao φ σ) w cs c2/\a.eval f=.func (.func g) (List.zipWith Ch fs c1).toArray (List.zipWith Ch cs c2).toArray)->Bm C n kd o K fr σ:=by
    intro g fs cs h hfun
    unfold Bm
    intro B S w0 η φ a w hM
    have hw:=AC0 ho hc hfun hd h hM
    have h5:=k5 (by simp[ho])
    split
    ·refine⟨by simp[BG,ho],?_⟩
     exact Oper.wp_imp (λa w h=>h.2) hw
    ·exact absurd rfl h5
    ·exact Oper.wp_imp (λa w h=>⟨h.1 rfl,h.2⟩) hw
    ·exact Oper.wp_imp (λa w h=>h.2) hw
   split at h
   ·rename_i g fs cs hev
    refine fin h λB S w0 η φ a w hM=>?_
    have hx:=Bb hM f
    rw[hev]at hx
    obtain⟨cc,g1,g2⟩:=hx
    simp only[AH,RepC]at g1
    obtain⟨c1,c2,r1,r2,rfl⟩:=g1
    exact⟨c1,c2,Ek.2 r1,Ek.2 r2,by rw[Ej,Ej];exact g2⟩
   ·rename_i g fs cs hev
    refine fin h λB S w0 η φ a w hM=>?_
    have hx:=Bb hM f
    rw[hev]at hx
    obtain⟨cc,g1,g2⟩:=hx
    simp only[AH]at g1
    obtain⟨c1,c2,r1,r2,rfl⟩:=g1
    exact⟨c1,c2,r1,r2,g2⟩
   ·exact h
  ·exact h
 ·exact h
end
end Go.Sx
namespace Go.Sx
open Go Go.RowKit Go.Reg
section
variable {C:Cx} {T:Hh} {B S:List Nat} {w0 w:World} {n kd:Nat} {fr:Fr} {σ:Sg} {η:Nat->Value} {φ:Nat->List Nat} {a:Act} {v:Value} {K:Fr->Sg->Prop} {G:List FuncId}
theorem Models.refine(h:Models C B S w0 n fr σ η φ a w) {t:Nat} {d:Dat}(hd:RD B σ η φ w d (a.tmps.getD t Go.undef)):Models C B S w0 n ((t,d)::fr) σ η φ a w:=by
 refine⟨h.mem,λs=>?_,h.defers,h.size⟩
 simp only[get]
 rcases BN t s with⟨hb,e⟩|⟨hb,e⟩
 ·subst e;rw[hb];exact hd
 ·rw[hb];exact h.fr s
theorem YQ {o:Oper} {y:Nat->Option Bool}(h:o.guard=none):Region.wanted o y=true:=by unfold Region.wanted;rw[h]
theorem Fo {o:Oper} {y:Nat->Option Bool} {g:Nat} {b:Bool}(h:o.guard=some (g,b)):Region.wanted o y=(y g==some b):=by unfold Region.wanted;rw[h]
theorem Ps {l:List Oper} {tmps:Array Value} {g t:Nat}(h:(l[g]?).bind (·.dst)=some t) {c:Bool}(hv:tmps.getD t Go.undef=.bool c):yielded l.toArray tmps g=some c:=by
 unfold yielded
 simp only[ACE,h,RR]
 by_cases ht:t<tmps.size
 ·have e:tmps[t]? =some tmps[t]:=BS ht
  have e2:tmps[t]=.bool c:=by simpa[Array.getD,ht]using hv
  rw[e,e2]
 ·simp[Array.getD,ht]at hv
  unfold Go.undef at hv;cases hv
theorem VC {l:List Oper} {tmps:Array Value} {g t:Nat}(h:(l[g]?).bind (·.dst)=some t)(hv:tmps.getD t Go.undef=.tuple #[]):yielded l.toArray tmps g=none:=by
 unfold yielded
 simp only[ACE,h,RR]
 by_cases ht:t<tmps.size
 ·have e:tmps[t]? =some tmps[t]:=BS ht
  have e2:tmps[t]=.tuple #[]:=by simpa[Array.getD,ht]using hv
  rw[e,e2]
 ·have e:tmps[t]? =none:=by simp;omega
  rw[e]
theorem zI(hM:Models C B S w0 n fr σ η φ a w) {o:Oper} {l:List Oper} {yes no:Fr->Prop}(h:X8 o l fr yes no):
  (Region.wanted o (yielded l.toArray a.tmps)=true/\∃fr',Models C B S w0 n fr' σ η φ a w/\yes fr')\/(Region.wanted o (yielded l.toArray a.tmps)=false/\∃fr',Models C B S w0 n fr' σ η φ a w/\no fr'):=by
 unfold X8 at h
 split at h
 ·rename_i hg;exact .inl ⟨YQ hg,fr,hM,h⟩
 ·rename_i g b hg
  split at h
  ·exact h.elim
  ·rename_i t ht
   have hslot:=hM.fr t
   split at h
   ·rename_i c hget
    rw[hget]at hslot
    have hv:a.tmps.getD t Go.undef=.bool c:=RD.bool (η:=η) (σ:=σ) (φ:=φ) (B:=B) (w:=w) hslot
    have hy:=Ps ht hv
    split at h
    ·exact .inl ⟨by rw[Fo hg,hy];rfl,fr,hM,h⟩
    ·exact .inl ⟨by rw[Fo hg,hy];rfl,fr,hM,h⟩
    ·rename_i hn1 hn2
     refine .inr ⟨?_,fr,hM,h⟩
     rw[Fo hg,hy]
     cases c<;>cases b<;>first|rfl|exact absurd rfl (hn1 rfl)|exact absurd rfl (hn2 rfl)|exact(hn1 rfl rfl).elim|exact(hn2 rfl rfl).elim
   ·rename_i p i hget
    rw[hget]at hslot
    have hv:a.tmps.getD t Go.undef=.bool (decide p):=RD.prop (η:=η) (σ:=σ) (φ:=φ) (B:=B) (w:=w) hslot
    have hy:=Ps ht hv
    have md:∀c:Bool,decide p=c->Models C B S w0 n ((t,.d (.bool c))::fr) σ η φ a w:=λc hc=>hM.refine (by rw[hv,hc];exact Ng c)
    split at h
    ·by_cases hp:p
     ·exact .inl ⟨by rw[Fo hg,hy];simp[hp],_,md true (by simp[hp]),h.1 hp⟩
     ·exact .inr ⟨by rw[Fo hg,hy];simp[hp],_,md false (by simp[hp]),h.2 hp⟩
    ·by_cases hp:p
     ·exact .inr ⟨by rw[Fo hg,hy];simp[hp],_,md true (by simp[hp]),h.1 hp⟩
     ·exact .inl ⟨by rw[Fo hg,hy];simp[hp],_,md false (by simp[hp]),h.2 hp⟩
   ·rename_i hget
    rw[hget]at hslot
    obtain⟨cs,h1,h2⟩:=hslot
    simp only[AH,RepC]at h1
    obtain⟨css,_,rfl⟩:=h1
    have hv:a.tmps.getD t Go.undef=.tuple #[]:=by rw[h2];simp[Ch,Ea]
    exact .inr ⟨by rw[Fo hg,VC ht hv];rfl,fr,hM,h⟩
   ·exact h.elim
theorem ABy:RD B σ η φ w (.d (.tuple [])) Go.undef:=⟨[.tuple #[]],by simp only[AH,RepC];exact⟨[],by simp[Aq],by simp⟩,rfl⟩
theorem Nc(hC:C.Ok T) {G:List FuncId} {l:List Oper} {ks:List Nat}(hks:∀(j:Nat) (o:Oper),l[j]? =some o->DN C.P G o=ks.getD j 3\/ks.getD j 3=3):∀(p:List Nat) (fr:Fr) (σ:Sg) (η:Nat->Value) (φ:Nat->List Nat) (a:Act) (w:World),
  I5 C T n l ks K p fr σ->Models C B S w0 n fr σ η φ a w->I8 C.P l ks (J4 C B S w0 n K) p a w
 |[],fr,σ,η,φ,a,w,h,hM=>⟨fr,σ,η,φ,hM,h⟩
 |
  i::p,fr,σ,η,φ,a,w,h,hM=>by
  simp only[I5]at h
  simp only[I8]
  split at h
  ·exact h.elim
  ·rename_i o hi
   simp only[hi]
   have ih:∀a w,J4 C B S w0 n (I5 C T n l ks K p) a w->I8 C.P l ks (J4 C B S w0 n K) p a w:=λa w ⟨fr',σ',η',φ',hM',h'⟩=>Nc hC hks p fr' σ' η' φ' a w h' hM'
   rcases zI hM h with⟨hw,fr',hM',h'⟩|⟨hw,fr',hM',h'⟩
   ·rw[if_pos hw]
    have hs:=KW hC (hks i o hi) h'
    unfold Bm at hs
    have hs:=hs B S w0 η φ a w hM'
    revert hs
    generalize ks.getD i 3=kd
    intro hs
    split at hs
    ·exact⟨hs.1,Oper.wp_imp ih hs.2⟩
    ·obtain⟨v,h1,h2⟩:=hs;exact⟨v,h1,ih _ _ h2⟩
    ·exact Oper.wp_imp (λa w h=>⟨h.1,ih _ _ h.2⟩) hs
    ·rename_i n0 n5 n2
     split
     ·exact(n0 rfl).elim
     ·exact(n5 rfl).elim
     ·exact(n2 rfl).elim
     ·exact Oper.wp_imp ih hs
   ·rw[hw]
    simp only[CL,if_false]
    rcases B9 h' with h'|⟨hd,h'⟩
    ·exact h'.elim
    refine Nc hC hks p _ σ η φ _ w h' ?_
    have:=hM'.put hd ABy
    cases hdst:o.dst with
    |none=>rw[hdst]at this;exact this
    |some t=>rw[hdst]at this;exact this
theorem Om {P:Program} {l:List Oper} {Q:Exit->Act->World->Prop}:∀(p:List Nat) (a:Act) (w:World),I8 P l [] (λa w=>Q .normal a w) p a w->wpOps P l.toArray Q p a w
 |[],a,w,h=>h
 |
  i::p,a,w,h=>by
  simp only[I8]at h
  simp only[wpOps]
  cases ho:l[i]? with
  |none=>simp[ho]at h
  |
   some o=>
   have ho':l.toArray[i]? =some o:=by simpa using ho
   simp only[ho,List.getD_nil]at h
   simp only[ho']
   split
   ·rename_i hw
    rw[if_pos hw]at h
    exact .inl (Oper.wp_imp (Om p) h)
   ·rename_i hw
    rw[if_neg hw]at h
    exact Om p _ _ h
theorem fE.get:∀{l fr:Fr},fE l fr->∀t,get l t=.d .undef\/get l t=get fr t
 |[],fr,_,t=>.inl rfl
 |
  (s,d)::l,fr,h,t=>by
  simp only[Sx.get]
  rcases BN s t with⟨hb,e⟩|⟨hb,e⟩
  ·subst e;rw[hb];exact .inr h.1.symm
  ·rw[hb];exact fE.get h.2 t
theorem Models.sub(h:Models C B S w0 n fr σ η φ a w) {fr':Fr}(hs:fE fr' fr):Models C B S w0 n fr' σ η φ a w:=by
 refine⟨h.mem,λt=>?_,h.defers,h.size⟩
 rcases hs.get t with e|e
 ·rw[e];exact⟨[a.tmps.getD t Go.undef],by simp[AH,RepC],rfl⟩
 ·rw[e];exact h.fr t
def Lj(P:Program)(G:List FuncId):List Oper->Plan->Bool
 |l,.leaf ks p A=>Mv P G l ks p A
 |l,.split i j x y=>decide (i<l.length)&&decide (j<l.length)&&i !=j&&Lj P G (more l.toArray i j).toList x&&Lj P G (more l.toArray j i).toList y
theorem aK(l:List Oper)(i j k:Nat):((more l.toArray i j).toList[k]?).map (·.op)=(l[k]?).map (·.op):=by
 rw[ACN,Jj]
 simp only[ACE,Option.map_map]
 congr 1
 funext o
 simp only[Function.comp]
 split<;>rfl
theorem O0 {P:Program} {G:List FuncId} {l0:List Oper}:∀(pl:Plan) (l:List Oper),Lj P G l pl=true->(∀k:Nat,(l[k]?).map Oper.op=(l0[k]?).map Oper.op)->∀kp∈I0 pl,∀(j:Nat) (o:Oper),l0[j]? =some o->DN P G o=kp.1.getD j 3\/kp.1.getD j 3=3
 |
  .leaf ks p A,l,hp,hsame,kp,hkp,j,o,hj=>by
  simp only[I0,As]at hkp
  subst hkp
  simp only[Lj,Mv,Ap]at hp
  have e:=hsame j
  rw[hj]at e
  simp only[CA,Cl]at e
  obtain⟨o',ho',hop⟩:=e
  have:=((TH hp.1.1.1.1).1 j o' ho').1
  unfold DN at this⊢
  rw[hop]at this;exact this
 |
  .split i j x y,l,hp,hsame,kp,hkp,k,o,hk=>by
  simp only[Lj,Ap]at hp
  simp only[I0,Ag]at hkp
  rcases hkp with hkp|hkp
  ·exact O0 x _ hp.1.2 (λk=>by rw[aK];exact hsame k) kp hkp k o hk
  ·exact O0 y _ hp.2 (λk=>by rw[aK];exact hsame k) kp hkp k o hk
theorem Up {P:Program} {G:List FuncId} {l0:List Oper} {Q:Exit->Act->World->Prop} {a:Act} {w:World}:∀(pl:Plan) (l:List Oper),Lj P G l pl=true->(∀ks (Q:Act->World->Prop) p a w,I8 P l0 ks Q p a w->I8 P l ks Q p a w)->
  (∀kp∈I0 pl,I8 P l0 kp.1 (λa w=>Q .normal a w) kp.2 a w)->∀s,LF .any l.toArray l.toArray.size (Array.replicate l.toArray.size false) s->wpOps P l.toArray Q s a w
 |
  .leaf ks p A,l,hp,hmore,h,s,hs=>by
  simp only[Lj]at hp
  exact KS _ _ s _ _ (V1 G ks p A hp (hmore ks _ p a w (h (ks,p) (by simp[I0])))) hs
 |
  .split i j x y,l,hp,hmore,h,s,hs=>by
  simp only[Lj,Ap,decide_eq_true_eq,bne_iff_ne,ne_eq]at hp
  obtain⟨⟨⟨⟨h1,h2⟩,h3⟩,h4⟩,h5⟩:=hp
  have step:∀(i j:Nat),i<l.length->(∀s,LF .any (more l.toArray i j).toList.toArray (more l.toArray i j).toList.toArray.size (Array.replicate (more l.toArray i j).toList.toArray.size false) s->wpOps P (more l.toArray i j).toList.toArray Q s a w)->Go.Reg.ahead i j s->wpOps P l.toArray Q s a w:=λi j hi hx ha=>by
   refine GP (i:=i) (j:=j) s a w ?_
   have:=hx s (by rw[FD,WG];exact Vg (by simpa using hi) _ s _ (by simp) hs (.inr ha))
   rwa [FD]at this
  rcases V3 h3 s with ha|ha
  ·exact step i j h1 (Up x (more l.toArray i j).toList h4 (λks Q p a w h=>Pv p a w (hmore ks Q p a w h)) (λkp hk=>h kp (by simp[I0,hk]))) ha
  ·exact step j i h2 (Up y (more l.toArray j i).toList h5 (λks Q p a w h=>Pv p a w (hmore ks Q p a w h)) (λkp hk=>h kp (by simp[I0,hk]))) ha
theorem Pw {P:Program} {l:List Oper} {ks:List Nat} {Q Q':Act->World->Prop}(hQ:∀a w,Q a w->Q' a w):∀(p:List Nat) (a:Act) (w:World),I8 P l ks Q p a w->I8 P l ks Q' p a w
 |[],a,w,h=>hQ a w h
 |
  i::p,a,w,h=>by
  have ih:=Pw (P:=P) (l:=l) (ks:=ks) hQ p
  simp only[I8]at h⊢
  cases ho:l[i]? with
  |none=>simp[ho]at h
  |
   some o=>
   simp only[ho]at h⊢
   split
   ·rename_i hw
    rw[if_pos hw]at h
    revert h
    generalize ks.getD i 3=c
    intro h
    split at h
    ·exact⟨h.1,Oper.wp_imp ih h.2⟩
    ·obtain⟨v,h1,h2⟩:=h;exact⟨v,h1,ih _ _ h2⟩
    ·exact Oper.wp_imp (λa w h=>⟨h.1,ih _ _ h.2⟩) h
    ·exact Oper.wp_imp ih h
   ·rename_i hw
    rw[if_neg hw]at h
    exact ih _ _ h
theorem YO {P:Program} {l:List Oper} {ks:List Nat} {Q:Act->World->Prop}:∀(p:List Nat) (a:Act) (w:World),I8 P l ks Q p a w->∃a' w',Q a' w'
 |[],a,w,h=>⟨a,w,h⟩
 |
  i::p,a,w,h=>by
  have ih:=YO (P:=P) (l:=l) (ks:=ks) (Q:=Q) p
  simp only[I8]at h
  cases ho:l[i]? with
  |none=>simp[ho]at h
  |
   some o=>
   simp only[ho]at h
   split at h
   ·split at h
    ·obtain⟨a',w',h'⟩:=SO h.2;exact ih _ _ h'
    ·obtain⟨v,h1,h2⟩:=h;exact ih _ _ h2
    ·obtain⟨a',w',h'⟩:=SO h;exact ih _ _ h'.2
    ·obtain⟨a',w',h'⟩:=SO h;exact ih _ _ h'
   ·exact ih _ _ h
theorem SZ:∀(fr acc:Fr) {K:Fr->Prop},yC fr acc K->∃F,K F/\∀t,get F t=.d .undef\/get F t=get (acc++fr) t
 |[],acc,K,h=>⟨acc,h,λt=>by simp⟩
 |
  (t,d)::fr,acc,K,h=>by
  have app:∀(a b:Fr) (s:Nat),(∀p∈a,Nat.beq p.1 s=false)->get (a++b) s=get b s:=by
   intro a
   induction a with
   |nil=>intro b s _;rfl
   |
    cons p a ih=>
    intro b s hp
    obtain⟨u,e⟩:=p
    simp only[AT,get,hp (u,e) (by simp)]
    exact ih b s (λq hq=>hp q (by simp[hq]))
  have app2:∀(a b:Fr) (s:Nat),(∃p∈a,Nat.beq p.1 s=true)->get (a++b) s=get a s:=by
   intro a
   induction a with
   |nil=>rintro b s ⟨p,hp,_⟩;simp at hp
   |
    cons p a ih=>
    rintro b s ⟨q,hq,hs⟩
    obtain⟨u,e⟩:=p
    simp only[AT,get]
    cases hu:Nat.beq u s with
    |true=>rfl
    |
     false=>
     rcases Ai.1 hq with rfl|hq
     ·simp only at hs;rw[hu]at hs;cases hs
     ·exact ih b s ⟨q,hq,hs⟩
  have dich:∀s,(∀p∈acc,Nat.beq p.1 s=false)\/(∃p∈acc,Nat.beq p.1 s=true):=λs=>by
   by_cases hx:∃p∈acc,Nat.beq p.1 s=true
   ·exact .inr hx
   ·refine .inl λp hp=>?_
    cases hb:Nat.beq p.1 s
    ·rfl
    ·exact(hx ⟨p,hp,hb⟩).elim
  simp only[yC]at h
  split at h
  ·rename_i hany
   obtain⟨F,h1,h2⟩:=SZ fr acc h
   refine⟨F,h1,λs=>(h2 s).imp id λe=>?_⟩
   rw[e]
   rcases dich s with hs|hs
   ·rw[app _ _ _ hs,app _ _ _ hs]
    simp only[get]
    have:Nat.beq t s=false:=by
     rcases BN t s with⟨hb,he⟩|⟨hb,_⟩
     ·subst he
      simp only[Cp]at hany
      obtain⟨p,hp,hpt⟩:=hany
      rw[hs p hp]at hpt;cases hpt
     ·exact hb
    rw[this]
   ·rw[app2 _ _ _ hs,app2 _ _ _ hs]
  ·rw[KA]at h
   obtain⟨F,h1,h2⟩:=SZ fr _ h
   refine⟨F,h1,λs=>(h2 s).imp id λe=>?_⟩
   rw[e]
   rename_i hany
   have hno:∀p∈acc,Nat.beq p.1 t=false:=λp hp=>by
    cases hb:Nat.beq p.1 t
    ·rfl
    ·have:=List.any_eq_false.1 hany p hp;exact absurd hb this
   rcases BN t s with⟨hb,e2⟩|⟨hb,e2⟩
   ·subst e2
    rw[app _ _ _ hno]
    simp[get]
   ·rcases dich s with hs|hs
    ·rw[app _ _ _ hs]
     simp only[AT,get,hb]
     rw[app _ _ _ hs]
    ·rw[app2 _ _ _ hs]
     simp only[AT,get,hb]
     rw[app2 _ _ _ hs]
theorem Models.sub'(h:Models C B S w0 n fr σ η φ a w) {fr':Fr}(hs:∀t,get fr' t=.d .undef\/get fr' t=get fr t):Models C B S w0 n fr' σ η φ a w:=by
 refine⟨h.mem,λt=>?_,h.defers,h.size⟩
 rcases hs t with e|e
 ·rw[e];exact⟨[a.tmps.getD t Go.undef],by simp[AH,RepC],rfl⟩
 ·rw[e];exact h.fr t
theorem uX(hC:C.Ok T) {l:List Oper} {pl:Plan}(hks:∀kp∈I0 pl,∀(j:Nat) (o:Oper),l[j]? =some o->DN C.P G o=kp.1.getD j 3\/kp.1.getD j 3=3)(h:fZ C T n l K pl fr σ)(hM:Models C B S w0 n fr σ η φ a w):∀kp∈I0 pl,I8 C.P l kp.1 (J4 C B S w0 n K) kp.2 a w:=by
 unfold fZ at h
 split at h
 ·exact h.elim
 ·rename_i ks p hl
  intro kp hkp
  rw[hl]at hkp hks
  simp only[As]at hkp
  subst hkp
  exact Nc hC (hks (ks,p) (by simp)) p fr σ η φ a w h hM
 ·rename_i ks p r _ hl
  rw[hl]at hks
  have h1:=Nc hC (hks (ks,p) (by simp)) p fr σ η φ a w h hM
  have rest:∀{F:Fr} {Z:Sg} {k:Prop} (r:List (List Nat×List Nat)),X6 C T n l F Z fr σ k r->k/\∀kp∈r,I5 C T n l kp.1 (λfr' σ'=>fE F fr'/\σ'=Z) kp.2 fr σ:=by
   intro F Z k r
   induction r with
   |nil=>intro h;exact⟨h,by simp⟩
   |
    cons kp r ih=>
    intro h
    obtain⟨ks,p⟩:=kp
    simp only[X6]at h
    obtain⟨g1,g2⟩:=ih h.2
    refine⟨g1,λkp hkp=>?_⟩
    rcases Ai.1 hkp with rfl|hkp
    ·exact h.1
    ·exact g2 kp hkp
  intro kp hkp
  rw[hl]at hkp
  rcases Ai.1 hkp with rfl|hkp
  ·refine Pw ?_ p a w h1
   rintro a' w' ⟨fr1,σ1,η1,φ1,hM1,hK1⟩
   obtain⟨F,h2,h3⟩:=SZ fr1 [] hK1
   exact⟨F,σ1,η1,φ1,hM1.sub' (by simpa using h3),(rest r h2).1⟩
  ·obtain⟨a',w',fr1,σ1,η1,φ1,hM1,hK1⟩:=YO p a w h1
   obtain⟨F,h2,h3⟩:=SZ fr1 [] hK1
   obtain⟨g1,g2⟩:=rest r h2
   have h4:=Nc hC (hks kp (by simp[hkp])) kp.2 fr σ η φ a w (g2 kp hkp) hM
   refine Pw ?_ kp.2 a w h4
   rintro a2 w2 ⟨fr2,σ2,η2,φ2,hM2,hs2,rfl⟩
   exact⟨F,σ2,η2,φ2,hM2.sub hs2,g1⟩
def CH(P:Program)(G:List FuncId)(pl:List (Nat×Plan)):Code->Bool
 |
  .region id ops dr=>(match dr with
  |false=>true
  |
   true=>match iB id pl with
   |some p=>Lj P G ops.toList p
   |none=>true)
 |.seq a b=>CH P G pl a&&CH P G pl b
 |.cond _ a b=>CH P G pl a&&CH P G pl b
 |.block _ b=>CH P G pl b
 |.loop b=>CH P G pl b
 |_=>true
def QK(C:Cx)(B S:List Nat)(w0:World)(n:Nat)(K:KE):Exit->Act->World->Prop:=λe a' w'=>match e with
 |.panic _=>False
 |.outgrown=>False
 |e=>J4 C B S w0 n (K e) a' w'
theorem BY {c:Code} {K:KE}:FB C n c K fr σ↔∀(B S:List Nat) (w0:World) (η:Nat->Value) (φ:Nat->List Nat) (a:Act) (w:World),Models C B S w0 n fr σ η φ a w->c.wp C.P (QK C B S w0 n K) a w:=by
 unfold FB;exact SD
theorem Models.drew(h:Models C B S w0 n fr σ η φ a w):Models C B S w0 n fr σ η φ a w.drew:=
 ⟨h.mem.grow (Tch.drew w []),h.fr.later (Later.same (Tch.drew w []) _) (λ_i hi=>⟨hi,rfl⟩),h.defers,h.size⟩
theorem DE(hC:C.Ok T) {G:List FuncId} {pl:List (Nat×Plan)}:∀(c:Code) (K:KE) (fr:Fr) (σ:Sg),CH C.P G pl c=true->En C T n pl c K fr σ->FB C n c K fr σ
 |.skip,K,fr,σ,_,h=>BY.2 λB S w0 η φ a w hM=>wp_skip ⟨fr,σ,η,φ,hM,h⟩
 |.label _,K,fr,σ,_,h=>BY.2 λB S w0 η φ a w hM=>wp_label ⟨fr,σ,η,φ,hM,h⟩
 |.exit _,K,fr,σ,_,h=>BY.2 λB S w0 η φ a w hM=>wp_exit ⟨fr,σ,η,φ,hM,h⟩
 |.ret,K,fr,σ,_,h=>BY.2 λB S w0 η φ a w hM=>wp_ret ⟨fr,σ,η,φ,hM,h⟩
 |
  .seq x y,K,fr,σ,hk,h=>BY.2 λB S w0 η φ a w hM=>by
  simp only[CH,Ap]at hk
  simp only[En]at h
  refine wp_seq (wp_mono (BY.1 (DE hC x _ fr σ hk.1 h) B S w0 η φ a w hM) ?_)
  intro e a' w' hq
  cases e with
  |
   normal=>
   obtain⟨fr',σ',η',φ',hM',h'⟩:=hq
   exact BY.1 (DE hC y K fr' σ' hk.2 h') B S w0 η' φ' a' w' hM'
  |exit id=>exact hq
  |goto l=>exact hq
  |ret=>exact hq
  |panic ch=>exact hq
  |outgrown=>exact hq
 |
  .cond c x y,K,fr,σ,hk,h=>BY.2 λB S w0 η φ a w hM=>by
  simp only[CH,Ap]at hk
  simp only[En]at h
  have hc:=Bb hM c
  have md:∀b:Bool,a.eval c=.bool b->Models C B S w0 n (oA c (.d (.bool b)) fr) σ η φ a w:=λb hb=>by
   unfold oA
   split
   ·rename_i t
    exact hM.refine (by have:a.tmps.getD t Go.undef=.bool b:=hb;rw[this];exact Ng b)
   ·exact hM
  rcases cE h with h|⟨e,h⟩|⟨e,h⟩|⟨p,i,e,h1,h2⟩
  ·exact h.elim
  ·rw[e]at hc
   exact wp_cond_true hc.bool (BY.1 (DE hC x K _ σ hk.1 h) B S w0 η φ a w (md true hc.bool))
  ·rw[e]at hc
   exact wp_cond_false hc.bool (BY.1 (DE hC y K _ σ hk.2 h) B S w0 η φ a w (md false hc.bool))
  ·rw[e]at hc
   have hv:=hc.prop
   by_cases hp:p
   ·have hv':a.eval c=.bool true:=by rw[hv];simp[hp]
    exact wp_cond_true hv' (BY.1 (DE hC x K _ σ hk.1 (h1 hp)) B S w0 η φ a w (md true hv'))
   ·have hv':a.eval c=.bool false:=by rw[hv];simp[hp]
    exact wp_cond_false hv' (BY.1 (DE hC y K _ σ hk.2 (h2 hp)) B S w0 η φ a w (md false hv'))
 |
  .block id b,K,fr,σ,hk,h=>BY.2 λB S w0 η φ a w hM=>by
  simp only[CH]at hk
  simp only[En]at h
  refine wp_block (wp_mono (BY.1 (DE hC b _ fr σ hk h) B S w0 η φ a w hM) ?_)
  intro e a' w' hq
  cases e with
  |
   exit j=>
   simp only[Exit.inBlock]
   have hq':J4 C B S w0 n (lJ id K (.exit j)) a' w':=hq
   simp only[lJ]at hq'
   rcases BN j id with⟨hb,e⟩|⟨hb,e⟩
   ·rw[if_pos e];rw[hb]at hq';exact hq'
   ·rw[if_neg e];rw[hb]at hq';exact hq'
  |normal=>exact hq
  |goto l=>exact hq
  |ret=>exact hq
  |panic ch=>exact hq
  |outgrown=>exact hq
 |
  .region id ops dr,K,fr,σ,hk,h=>BY.2 λB S w0 η φ a w hM=>by
  simp only[CH]at hk
  simp only[En]at h
  cases dr with
  |
   false=>
   simp only at h
   have hT:=Nc (G:=[]) (ks:=[]) hC (λj o _=>.inr (by simp)) _ fr σ η φ a w h hM
   have:=Om (Q:=QK C B S w0 n K) _ a w hT
   rw[FD]at this
   refine wp_region ?_
   simpa using this
  |
   true=>
   simp only at h hk
   split at h
   ·rename_i p hp
    rw[hp]at hk
    simp only at hk
    refine wp_region_draw λt=>?_
    simp only[Region.schedule,hC.mixed,Bool.true_or,if_true]
    have hx:=JV (md:=.any) (ops:=ops) ops.size t (Array.replicate ops.size false)
    change LF .any ops _ _ (Region.linearise .any ops t)at hx
    have hT:=uX (G:=G) (K:=K .normal) (B:=B) (S:=S) (w0:=w0) hC (O0 p _ hk (λk=>rfl)) h hM.drew
    have:=Up (Q:=QK C B S w0 n K) p ops.toList hk (λks Q p a w h=>h) (λkp hkp=>Pw (λa w h=>h) _ _ _ (hT kp hkp)) (Region.linearise .any ops t) (by rw[FD];exact hx)
    rw[FD]at this
    exact this
   ·exact h.elim
 |.loop b,K,fr,σ,_,h=>h
 |.rangeFunc f p q b,K,fr,σ,_,h=>h
 |.scope b,K,fr,σ,_,h=>h
 |.goto l,K,fr,σ,_,h=>h
 |.refuse y,K,fr,σ,_,h=>h
end
end Go.Sx
