/- Sxi. -/
import Derived.Test.YtjpmmkodoeipmaaGreatDoorrkah
import Derived.WalkKit
import Derived.WalkSpells
import Derived.WalkLawsBesides
namespace Go.Sx
open Go Go.RowKit Go.Reg
inductive Da where
 |undef
 |int (k:IntKind) (n:Int)
 |bool (b:Bool)
 |prop (p:Prop) (i:Decidable p)
 |str (s:ByteArray)
 |agg (ds:List Da)
 |tuple (ds:List Da)
 |nilp
 |nils
 |nilm
 |nilf
 |nili
 |iface (t:TypeId) (d:Da)
 |ref (d:Da)
 |list (k:Nat) (ds:List Da)
 |func (fn:Fn) (first captured:List Da)
 |raw (v:Value)
def Ea:Da->List Value->Value
 |.agg _,cs=>.agg cs.toArray
 |_,cs=>cs.headD undef
def Fv(w:World)(b o:Nat)(cs:List Value):Prop:=∀j u,cs[j]? =some u->w.cell? ⟨b,o+j,none⟩=some u
def ER(k:Nat)(x:List Value):Prop:=x.length=k/\∀v∈x,v.oneCell'=true
mutual
def RepC(O:List Nat)(w:World):Da->List Value->Prop
 |.undef,cs=>∃v,cs=[v]
 |.int k n,cs=>cs=[.int k n]
 |.bool b,cs=>cs=[.bool b]
 |.prop p i,cs=>cs=[.bool (@decide p i)]
 |.str s,cs=>cs=[.string s]
 |.agg ds,cs=>RepCs O w ds cs
 |.tuple ds,cs=>∃css,Aq O w ds css/\cs=[.tuple (List.zipWith Ea ds css).toArray]
 |.nilp,cs=>cs=[.pointer none]
 |.nils,cs=>cs=[.slice none 0 0]
 |.nilm,cs=>cs=[.map none]
 |.nilf,cs=>cs=[.nilFunc]
 |.nili,cs=>cs=[.nilIface]
 |.iface t d,cs=>∃c,RepC O w d c/\cs=[.iface t (Ea d c)]
 |.ref d,cs=>∃b o c,cs=[.pointer (some ⟨b,o,none⟩)]/\b∉O/\b<w.heap.size/\RepC O w d c/\Fv w b o c
 |.list k ds,cs=>∃a c css,cs=[.slice a ds.length c]/\ds.length<=c/\c<=maxLen/\Aq O w ds css/\(∀x∈css,ER k x)/\
   (ds=[]\/∃b o,a=some ⟨b,o,none⟩/\b∉O/\b<w.heap.size/\Fv w b o css.flatten)
 |.func fn f c,cs=>∃fs cs',Aq O w f fs/\Aq O w c cs'/\cs=[.func fn (List.zipWith Ea f fs).toArray (List.zipWith Ea c cs').toArray]
 |.raw v,cs=>cs=[v]
def RepCs(O:List Nat)(w:World):List Da->List Value->Prop
 |[],cs=>cs=[]
 |d::ds,cs=>∃c1 c2,cs=c1++c2/\RepC O w d c1/\RepCs O w ds c2
def Aq(O:List Nat)(w:World):List Da->List (List Value)->Prop
 |[],css=>css=[]
 |d::ds,css=>∃c1 c2,css=c1::c2/\RepC O w d c1/\Aq O w ds c2
end
def Rep(O:List Nat)(w:World)(d:Da)(v:Value):Prop:=∃cs,RepC O w d cs/\v=Ea d cs
def Jw(O:List Nat)(w:World)(ds:List Da)(vs:List Value):Prop:=∃css,Aq O w ds css/\vs=List.zipWith Ea ds css
structure Later(O:List Nat)(w:World)(O':List Nat)(w':World):Prop where
 size:w.heap.size<=w'.heap.size
 blk:∀b,b<w.heap.size->b∉O->w'.heap[b]? =w.heap[b]?
 new:∀b,b∉O->b<w.heap.size->b∉O'
theorem Later.cells {O O':List Nat} {w w':World}(h:Later O w O' w') {b o:Nat} {cs:List Value}(hb:b<w.heap.size)(hn:b∉O)(hc:Fv w b o cs):Fv w' b o cs:=by
 intro j u hj
 have:=hc j u hj
 rw[World.cell?_of_block (w:=w) (h.blk b hb hn)];exact this
mutual
theorem RepC.later {O O':List Nat} {w w':World}(h:Later O w O' w'):∀(d:Da) (cs:List Value),RepC O w d cs->RepC O' w' d cs
 |.undef,cs,r=>r
 |.int _ _,cs,r=>r
 |.bool _,cs,r=>r
 |.prop _ _,cs,r=>r
 |.str _,cs,r=>r
 |.agg ds,cs,r=>by simp only[RepC]at r⊢;exact RepCs.later h ds cs r
 |.tuple ds,cs,r=>by simp only[RepC]at r⊢;obtain⟨css,h1,h2⟩:=r;exact⟨css,Aq.later h ds css h1,h2⟩
 |.nilp,cs,r=>r
 |.nils,cs,r=>r
 |.nilm,cs,r=>r
 |.nilf,cs,r=>r
 |.nili,cs,r=>r
 |.iface t d,cs,r=>by simp only[RepC]at r⊢;obtain⟨c,h1,h2⟩:=r;exact⟨c,RepC.later h d c h1,h2⟩
 |
  .ref d,cs,r=>by
  simp only[RepC]at r⊢
  obtain⟨b,o,c,h1,h2,h3,h4,h5⟩:=r
  exact⟨b,o,c,h1,h.new b h2 h3,Bq h3 h.size,RepC.later h d c h4,h.cells h3 h2 h5⟩
 |
  .list k ds,cs,r=>by
  simp only[RepC]at r⊢
  obtain⟨a,c,css,h1,h2,h3,h4,h5,h6⟩:=r
  refine⟨a,c,css,h1,h2,h3,Aq.later h ds css h4,h5,h6.imp id ?_⟩
  rintro⟨b,o,g1,g2,g3,g4⟩
  exact⟨b,o,g1,h.new b g2 g3,Bq g3 h.size,h.cells g3 g2 g4⟩
 |
  .func fn f c,cs,r=>by
  simp only[RepC]at r⊢
  obtain⟨fs,cs',h1,h2,h3⟩:=r
  exact⟨fs,cs',Aq.later h f fs h1,Aq.later h c cs' h2,h3⟩
 |.raw _,cs,r=>r
theorem RepCs.later {O O':List Nat} {w w':World}(h:Later O w O' w'):∀(ds:List Da) (cs:List Value),RepCs O w ds cs->RepCs O' w' ds cs
 |[],cs,r=>r
 |
  d::ds,cs,r=>by
  simp only[RepCs]at r⊢
  obtain⟨c1,c2,h1,h2,h3⟩:=r
  exact⟨c1,c2,h1,RepC.later h d c1 h2,RepCs.later h ds c2 h3⟩
theorem Aq.later {O O':List Nat} {w w':World}(h:Later O w O' w'):∀(ds:List Da) (cs:List (List Value)),Aq O w ds cs->Aq O' w' ds cs
 |[],cs,r=>r
 |
  d::ds,cs,r=>by
  simp only[Aq]at r⊢
  obtain⟨c1,c2,h1,h2,h3⟩:=r
  exact⟨c1,c2,h1,RepC.later h d c1 h2,Aq.later h ds c2 h3⟩
end
theorem Rep.later {O O':List Nat} {w w':World}(h:Later O w O' w') {d:Da} {v:Value}(r:Rep O w d v):Rep O' w' d v:=by
 obtain⟨cs,h1,h2⟩:=r;exact⟨cs,RepC.later h d cs h1,h2⟩
theorem Jw.later {O O':List Nat} {w w':World}(h:Later O w O' w') {d:List Da} {v:List Value}(r:Jw O w d v):Jw O' w' d v:=by
 obtain⟨cs,h1,h2⟩:=r;exact⟨cs,Aq.later h d cs h1,h2⟩
def gsz:Da->Nat
 |.agg ds=>ds.length
 |_=>1
def GRep(O:List Nat)(w:World)(p:Nat×Da):Prop:=Rep O w (.ref p.2) (.pointer (some ⟨p.1,0,none⟩))/\p.1∉O/\∃cs t fr,w.heap[p.1]? =some (.cells cs t fr)/\cs.size=gsz p.2
theorem GRep.later {O O':List Nat} {w w':World}(h:Later O w O' w') {p:Nat×Da}(r:GRep O w p):GRep O' w' p:=by
 obtain⟨r1,r2,cs,t,fr,r3,r4⟩:=r
 have hlt:p.1<w.heap.size:=(Ak.1 r3).1
 exact⟨r1.later h,h.new _ r2 hlt,cs,t,fr,by rw[h.blk _ hlt r2];exact r3,r4⟩
end Go.Sx
namespace Go.Sx
open Go Go.RowKit Go.Reg
inductive Dat where
 |d (x:Da)
 |own (i:Nat)
 |at_ (i off:Nat)
 |el (i k n off:Nat)
 |agg (ds:List Dat)
 |tuple (ds:List Dat)
 |iface (t:TypeId) (d:Dat)
 |func (fn:Fn) (first captured:List Dat)
def Ch:Dat->List Value->Value
 |.d x,cs=>Ea x cs
 |.agg _,cs=>.agg cs.toArray
 |_,cs=>cs.headD undef
mutual
def AH(η:Nat->Value)(I O:List Nat)(w:World):Dat->List Value->Prop
 |.d x,cs=>RepC O w x cs
 |.own i,cs=>i∈I/\cs=[η i]
 |.at_ i off,cs=>i∈I/\∃b,η i=.pointer (some ⟨b,0,none⟩)/\cs=[.pointer (some ⟨b,off,none⟩)]
 |.el i k n off,cs=>i∈I/\∃b l c,η i=.slice (some ⟨b,0,none⟩) l c/\cs=[.pointer (some ⟨b,n*k+off,none⟩)]
 |.agg ds,cs=>B6 η I O w ds cs
 |.tuple ds,cs=>∃css,AE η I O w ds css/\cs=[.tuple (List.zipWith Ch ds css).toArray]
 |.iface t d,cs=>∃c,AH η I O w d c/\cs=[.iface t (Ch d c)]
 |.func fn f c,cs=>∃fs cs',AE η I O w f fs/\AE η I O w c cs'/\cs=[.func fn (List.zipWith Ch f fs).toArray (List.zipWith Ch c cs').toArray]
def B6(η:Nat->Value)(I O:List Nat)(w:World):List Dat->List Value->Prop
 |[],cs=>cs=[]
 |d::ds,cs=>∃c1 c2,cs=c1++c2/\AH η I O w d c1/\B6 η I O w ds c2
def AE(η:Nat->Value)(I O:List Nat)(w:World):List Dat->List (List Value)->Prop
 |[],css=>css=[]
 |d::ds,css=>∃c1 c2,css=c1::c2/\AH η I O w d c1/\AE η I O w ds c2
end
mutual
def kill(i:Nat)(x:Da):Dat->Dat
 |.own j=>match Nat.beq j i with|true=>.d x|false=>.own j
 |.at_ j o=>match Nat.beq j i with|true=>.d .undef|false=>.at_ j o
 |.el j k n o=>match Nat.beq j i with|true=>.d .undef|false=>.el j k n o
 |.agg ds=>.agg (GI i x ds)
 |.tuple ds=>.tuple (GI i x ds)
 |.iface t d=>.iface t (kill i x d)
 |.func fn f c=>.func fn (GI i x f) (GI i x c)
 |.d x=>.d x
def GI(i:Nat)(x:Da):List Dat->List Dat
 |[]=>[]
 |d::ds=>kill i x d::GI i x ds
end
mutual
theorem AH.later {η η':Nat->Value} {I I' O O':List Nat} {w w':World}(h:Later O w O' w')(hI:∀i∈I,i∈I'/\η' i=η i):∀(d:Dat) (cs:List Value),AH η I O w d cs->AH η' I' O' w' d cs
 |.d x,cs,r=>RepC.later h x cs r
 |.own i,cs,r=>by simp only[AH]at r⊢;exact⟨(hI i r.1).1,by rw[(hI i r.1).2];exact r.2⟩
 |.at_ i off,cs,r=>by simp only[AH]at r⊢;exact⟨(hI i r.1).1,by rw[(hI i r.1).2];exact r.2⟩
 |.el i k n off,cs,r=>by simp only[AH]at r⊢;exact⟨(hI i r.1).1,by rw[(hI i r.1).2];exact r.2⟩
 |.agg ds,cs,r=>by simp only[AH]at r⊢;exact B6.later h hI ds cs r
 |.tuple ds,cs,r=>by simp only[AH]at r⊢;obtain⟨css,h1,h2⟩:=r;exact⟨css,AE.later h hI ds css h1,h2⟩
 |.iface t d,cs,r=>by simp only[AH]at r⊢;obtain⟨c,h1,h2⟩:=r;exact⟨c,AH.later h hI d c h1,h2⟩
 |
  .func fn f c,cs,r=>by
  simp only[AH]at r⊢
  obtain⟨fs,cs',h1,h2,h3⟩:=r
  exact⟨fs,cs',AE.later h hI f fs h1,AE.later h hI c cs' h2,h3⟩
theorem B6.later {η η':Nat->Value} {I I' O O':List Nat} {w w':World}(h:Later O w O' w')(hI:∀i∈I,i∈I'/\η' i=η i):∀(ds:List Dat) (cs:List Value),B6 η I O w ds cs->B6 η' I' O' w' ds cs
 |[],cs,r=>r
 |
  d::ds,cs,r=>by
  simp only[B6]at r⊢
  obtain⟨c1,c2,h1,h2,h3⟩:=r
  exact⟨c1,c2,h1,AH.later h hI d c1 h2,B6.later h hI ds c2 h3⟩
theorem AE.later {η η':Nat->Value} {I I' O O':List Nat} {w w':World}(h:Later O w O' w')(hI:∀i∈I,i∈I'/\η' i=η i):∀(ds:List Dat) (cs:List (List Value)),AE η I O w ds cs->AE η' I' O' w' ds cs
 |[],cs,r=>r
 |
  d::ds,cs,r=>by
  simp only[AE]at r⊢
  obtain⟨c1,c2,h1,h2,h3⟩:=r
  exact⟨c1,c2,h1,AH.later h hI d c1 h2,AE.later h hI ds c2 h3⟩
end
theorem BN(j i:Nat):(Nat.beq j i=true/\j=i)\/(Nat.beq j i=false/\j≠i):=by
 cases hb:Nat.beq j i
 ·exact .inr ⟨rfl,λe=>by subst e;simp at hb⟩
 ·exact .inl ⟨rfl,A0 hb⟩
def Da.one:Da->Bool
 |.agg _=>false
 |_=>true
theorem SR {x:Da}(h:x.one=true)(cs:List Value):Ea x cs=cs.headD undef:=by
 cases x<;>first|rfl|cases h
theorem QR {i:Nat} {x:Da}(hx:x.one=true)(d:Dat)(cs:List Value):Ch (kill i x d) cs=Ch d cs:=by
 cases d with
 |own j=>rcases BN j i with⟨h,_⟩|⟨h,_⟩<;>simp only[kill,h,Ch,SR hx]
 |at_ j o=>rcases BN j i with⟨h,_⟩|⟨h,_⟩<;>simp only[kill,h,Ch,Ea]
 |el j k n o=>rcases BN j i with⟨h,_⟩|⟨h,_⟩<;>simp only[kill,h,Ch,Ea]
 |_=>rfl
theorem FI {i:Nat} {x:Da}(hx:x.one=true):∀(ds:List Dat) (css:List (List Value)),List.zipWith Ch (GI i x ds) css=List.zipWith Ch ds css
 |[],css=>rfl
 |d::ds,[]=>by simp[GI]
 |d::ds,c::css=>by simp only[GI,Bh];rw[QR hx d c,FI hx ds css]
section
variable {η η':Nat->Value} {I I' O O':List Nat} {w w':World} {i:Nat} {x:Da}
mutual
theorem AH.kill(hx:x.one=true)(hl:Later O w O' w')(hI:∀j∈I,j≠i->j∈I'/\η' j=η j)(hr:RepC O' w' x [η i]):∀(d:Dat) (cs:List Value),AH η I O w d cs->AH η' I' O' w' (kill i x d) cs
 |.d y,cs,r=>RepC.later hl y cs r
 |
  .own j,cs,r=>by
  simp only[AH]at r
  rcases BN j i with⟨h,e⟩|⟨h,e⟩
  ·subst e;simp only[Sx.kill,h,AH];rw[r.2];exact hr
  ·simp only[Sx.kill,h,AH];exact⟨(hI j r.1 e).1,by rw[(hI j r.1 e).2];exact r.2⟩
 |
  .at_ j off,cs,r=>by
  simp only[AH]at r
  rcases BN j i with⟨h,e⟩|⟨h,e⟩
  ·simp only[Sx.kill,h,AH,RepC];obtain⟨_,b,_,h⟩:=r;exact⟨_,h⟩
  ·simp only[Sx.kill,h,AH];exact⟨(hI j r.1 e).1,by rw[(hI j r.1 e).2];exact r.2⟩
 |
  .el j k n off,cs,r=>by
  simp only[AH]at r
  rcases BN j i with⟨h,e⟩|⟨h,e⟩
  ·simp only[Sx.kill,h,AH,RepC];obtain⟨_,b,l,c,_,h⟩:=r;exact⟨_,h⟩
  ·simp only[Sx.kill,h,AH];exact⟨(hI j r.1 e).1,by rw[(hI j r.1 e).2];exact r.2⟩
 |.agg ds,cs,r=>by simp only[AH,Sx.kill]at r⊢;exact B6.kill hx hl hI hr ds cs r
 |.tuple ds,cs,r=>by simp only[AH,Sx.kill]at r⊢;obtain⟨css,h1,h2⟩:=r;exact⟨css,AE.kill hx hl hI hr ds css h1,by rw[FI hx];exact h2⟩
 |.iface t d,cs,r=>by simp only[AH,Sx.kill]at r⊢;obtain⟨c,h1,h2⟩:=r;exact⟨c,AH.kill hx hl hI hr d c h1,by rw[QR hx];exact h2⟩
 |
  .func fn f c,cs,r=>by
  simp only[AH,Sx.kill]at r⊢
  obtain⟨fs,cs',h1,h2,h3⟩:=r
  exact⟨fs,cs',AE.kill hx hl hI hr f fs h1,AE.kill hx hl hI hr c cs' h2,by rw[FI hx,FI hx];exact h3⟩
theorem B6.kill(hx:x.one=true)(hl:Later O w O' w')(hI:∀j∈I,j≠i->j∈I'/\η' j=η j)(hr:RepC O' w' x [η i]):∀(ds:List Dat) (cs:List Value),B6 η I O w ds cs->B6 η' I' O' w' (GI i x ds) cs
 |[],cs,r=>r
 |
  d::ds,cs,r=>by
  simp only[B6,GI]at r⊢
  obtain⟨c1,c2,h1,h2,h3⟩:=r
  exact⟨c1,c2,h1,AH.kill hx hl hI hr d c1 h2,B6.kill hx hl hI hr ds c2 h3⟩
theorem AE.kill(hx:x.one=true)(hl:Later O w O' w')(hI:∀j∈I,j≠i->j∈I'/\η' j=η j)(hr:RepC O' w' x [η i]):∀(ds:List Dat) (cs:List (List Value)),AE η I O w ds cs->AE η' I' O' w' (GI i x ds) cs
 |[],cs,r=>r
 |
  d::ds,cs,r=>by
  simp only[AE,GI]at r⊢
  obtain⟨c1,c2,h1,h2,h3⟩:=r
  exact⟨c1,c2,h1,AH.kill hx hl hI hr d c1 h2,AE.kill hx hl hI hr ds c2 h3⟩
end
end
inductive Own where
 |cells (T:TypeId) (ds:List Dat)
 |slice (E k:Nat) (ds:List Da)
 |abs (R:World->Value->List Nat->Prop) (keep:∀(S:List Nat) w w' v F,R w v F->Tch S w w'->(∀x∈F,x∉S)->R w' v F) (lt:∀w v F,R w v F->∀x∈F,x<w.heap.size) (one:∀w v F,R w v F->v.oneCell'=true)
 |ghost (vs:List Value) (ds:List Dat)
 |absd (R:World->Value->List Nat->List Value->Prop) (keep:∀(S:List Nat) w w' v F us,R w v F us->Tch S w w'->(∀x∈F,x∉S)->R w' v F us) (lt:∀w v F us,R w v F us->∀x∈F,x<w.heap.size) (one:∀w v F us,R w v F us->v.oneCell'=true) (ds:List Dat)
def Own.holds(η:Nat->Value)(I O:List Nat)(w:World):Own->Value->List Nat->Prop
 |.cells T ds,v,F=>∃b cs,v=.pointer (some ⟨b,0,none⟩)/\F=[b]/\IV w b T cs/\B6 η I O w ds cs
 |.slice E k ds,v,F=>∃css,Sl E k id w v css/\F=v.ownBlock.toList/\Aq O w ds css/\(∀x∈css,ER k x)
 |.abs R _ _ _,v,F=>R w v F
 |.ghost vs ds,v,F=>v=.nilFunc/\F=[]/\∃css,AE η I O w ds css/\vs=List.zipWith Ch ds css
 |.absd R _ _ _ ds,v,F=>∃css,AE η I O w ds css/\R w v F (List.zipWith Ch ds css)
theorem Own.holds.lt {η:Nat->Value} {I O:List Nat} {w:World} {o:Own} {v:Value} {F:List Nat}(h:o.holds η I O w v F):∀b∈F,b<w.heap.size:=by
 cases o with
 |
  cells T ds=>
  obtain⟨b,cs,rfl,rfl,hb,_⟩:=h
  intro x hx;simp at hx;subst hx;exact hb.lt
 |
  slice E k ds=>
  obtain⟨css,hs,rfl,_⟩:=h
  intro x hx;exact hs.lt (by simpa using hx)
 |abs R k lt _=>exact lt _ _ _ h
 |ghost vs ds=>obtain⟨_,rfl,_⟩:=h;simp
 |absd R k lt _ ds=>obtain⟨css,_,h⟩:=h;exact lt _ _ _ _ h
theorem Own.holds.later {η η':Nat->Value} {I I' O O' S:List Nat} {w w':World} {o:Own} {v:Value} {F:List Nat}(h:o.holds η I O w v F)(hl:Later O w O' w')(hI:∀i∈I,i∈I'/\η' i=η i)(ht:Tch S w w')(hF:∀x∈F,x∉S):o.holds η' I' O' w' v F:=by
 cases o with
 |
  cells T ds=>
  obtain⟨b,cs,rfl,rfl,hb,hr⟩:=h
  exact⟨b,cs,rfl,rfl,hb.keep ht (hF b (by simp)),B6.later hl hI _ _ hr⟩
 |
  slice E k ds=>
  obtain⟨css,hs,rfl,hr,hk⟩:=h
  exact⟨css,hs.keep ht (λb hb=>hF b (by simpa using hb)),rfl,Aq.later hl _ _ hr,hk⟩
 |abs R k lt _=>exact k S w w' v F h ht hF
 |ghost vs ds=>obtain⟨h1,h2,css,h3,h4⟩:=h;exact⟨h1,h2,css,AE.later hl hI _ _ h3,h4⟩
 |absd R k lt _ ds=>obtain⟨css,h3,h4⟩:=h;exact⟨css,AE.later hl hI _ _ h3,k S w w' v F _ h4 ht hF⟩
abbrev Sg:=List (Nat×Own)
abbrev Fr:=List (Nat×Dat)
def BA(σ:Sg):List Nat:=σ.map (·.1)
def Ao(φ:Nat->List Nat)(σ:Sg):List Nat:=σ.flatMap λp=>φ p.1
def BM(i:Nat)(x:Da):Own->Own
 |.cells T ds=>.cells T (GI i x ds)
 |.slice E k ds=>.slice E k ds
 |.abs R h l o=>.abs R h l o
 |.ghost vs ds=>.ghost vs (GI i x ds)
 |.absd R h l o ds=>.absd R h l o (GI i x ds)
structure Cx where
 P:Program
 Γ:List (Nat×Da)
structure Mem(C:Cx)(B S:List Nat)(w0:World)(σ:Sg)(η:Nat->Value)(φ:Nat->List Nat)(w:World):Prop where
 tch:Tch S w0 w
 own:∀p∈σ,p.2.holds η (BA σ) (B++Ao φ σ) w (η p.1) (φ p.1)
 nodup:(BA σ).Nodup
 disj:∀i∈BA σ,∀j∈BA σ,i≠j->∀b∈φ i,b∉φ j
 new:∀i∈BA σ,∀b∈φ i,(b∈S/\b∉B)\/w0.heap.size<=b
 out:∀b∈B,b<w0.heap.size
 glob:∀g∈C.Γ,GRep (B++Ao φ σ) w g
def get:Fr->Nat->Dat
 |[],_=>.d .undef
 |
  (t,d)::fr,s=>match Nat.beq t s with
  |true=>d
  |false=>get fr s
def HE(η:Nat->Value)(I O:List Nat)(w:World)(fr:Fr)(a:Act):Prop:=∀t,∃cs,AH η I O w (get fr t) cs/\a.tmps.getD t undef=Ch (get fr t) cs
structure Models(C:Cx)(B S:List Nat)(w0:World)(n:Nat)(fr:Fr)(σ:Sg)(η:Nat->Value)(φ:Nat->List Nat)(a:Act)(w:World):Prop where
 mem:Mem C B S w0 σ η φ w
 fr:HE η (BA σ) (B++Ao φ σ) w fr a
 defers:a.defers=[]
 size:a.tmps.size=n
theorem Mem.lt {C:Cx} {B S:List Nat} {w0 w:World} {σ:Sg} {η:Nat->Value} {φ:Nat->List Nat}(h:Mem C B S w0 σ η φ w):∀b∈B++Ao φ σ,b<w.heap.size:=by
 intro b hb
 rcases Ag.1 hb with hb|hb
 ·exact Bq (h.out b hb) h.tch.size
 ·obtain⟨p,hp,hb⟩:=AL.1 hb
  exact(h.own p hp).lt b hb
theorem AV {σ:Sg} {p:Nat×Own}(h:p∈σ):p.1∈BA σ:=Co h
theorem B5 {φ:Nat->List Nat} {σ:Sg} {i:Nat} {b:Nat}(h:i∈BA σ)(hb:b∈φ i):b∈Ao φ σ:=by
 obtain⟨p,hp,rfl⟩:=An.1 h
 exact AL.2 ⟨p,hp,hb⟩
theorem RepC.undef_ex(O:List Nat)(w:World)(v:Value):RepC O w .undef [v]:=by simp[RepC]
theorem HE.put {η:Nat->Value} {I O:List Nat} {w:World} {fr:Fr} {a:Act}(h:HE η I O w fr a) {t:Nat}(ht:t<a.tmps.size) {d:Dat} {v:Value} {cs:List Value}(hd:AH η I O w d cs)(hv:v=Ch d cs):HE η I O w ((t,d)::fr) (a.put (some t) v):=by
 intro s
 simp only[get,Act.put]
 by_cases hs:t=s
 ·subst hs
  simp only[Nat.beq_refl]
  exact⟨cs,hd,by simp[Array.getD,ht,hv]⟩
 ·have:Nat.beq t s=false:=by
   cases hb:Nat.beq t s
   ·rfl
   ·exact absurd (A0 hb) hs
  rw[this]
  obtain⟨c,h1,h2⟩:=h s
  refine⟨c,h1,?_⟩
  rw[<-h2]
  simp[Array.getElem?_setIfInBounds_ne hs]
theorem HE.later {η η':Nat->Value} {I I' O O':List Nat} {w w':World} {fr:Fr} {a:Act}(h:HE η I O w fr a)(hl:Later O w O' w')(hI:∀i∈I,i∈I'/\η' i=η i):HE η' I' O' w' fr a:=by
 intro t
 obtain⟨cs,h1,h2⟩:=h t
 exact⟨cs,AH.later hl hI _ _ h1,h2⟩
def Fj(i:Nat)(x:Da):Fr->Fr
 |[]=>[]
 |(t,d)::fr=>(t,kill i x d)::Fj i x fr
theorem WY(i:Nat)(x:Da):∀(fr:Fr) (t:Nat),get (Fj i x fr) t=kill i x (get fr t)
 |[],t=>rfl
 |
  (s,d)::fr,t=>by
  simp only[Fj,get]
  cases Nat.beq s t
  ·exact WY i x fr t
  ·rfl
theorem HE.kill {η η':Nat->Value} {I I' O O':List Nat} {w w':World} {fr:Fr} {a:Act} {i:Nat} {x:Da}(h:HE η I O w fr a)(hx:x.one=true)(hl:Later O w O' w')(hI:∀j∈I,j≠i->j∈I'/\η' j=η j)(hr:RepC O' w' x [η i]):HE η' I' O' w' (Fj i x fr) a:=by
 intro t
 obtain⟨cs,h1,h2⟩:=h t
 rw[WY]
 exact⟨cs,AH.kill hx hl hI hr _ _ h1,by rw[QR hx];exact h2⟩
theorem Own.holds.kill {η η':Nat->Value} {I I' O O' S:List Nat} {w w':World} {o:Own} {v:Value} {F:List Nat} {i:Nat} {x:Da}(h:o.holds η I O w v F)(hx:x.one=true)(hl:Later O w O' w')(hI:∀j∈I,j≠i->j∈I'/\η' j=η j)(hr:RepC O' w' x [η i])(ht:Tch S w w')(hF:∀y∈F,y∉S):(BM i x o).holds η' I' O' w' v F:=by
 cases o with
 |
  cells T ds=>
  obtain⟨b,cs,rfl,rfl,hb,hd⟩:=h
  exact⟨b,cs,rfl,rfl,hb.keep ht (hF b (by simp)),B6.kill hx hl hI hr _ _ hd⟩
 |
  slice E k ds=>
  obtain⟨css,hs,rfl,hd,hk⟩:=h
  exact⟨css,hs.keep ht (λb hb=>hF b (by simpa using hb)),rfl,Aq.later hl _ _ hd,hk⟩
 |abs R k lt _=>exact k S w w' v F h ht hF
 |ghost vs ds=>obtain⟨h1,h2,css,h3,h4⟩:=h;exact⟨h1,h2,css,AE.kill hx hl hI hr _ _ h3,by rw[FI hx];exact h4⟩
 |absd R k lt _ ds=>obtain⟨css,h3,h4⟩:=h;exact⟨css,AE.kill hx hl hI hr _ _ h3,by rw[FI hx];exact k S w w' v F _ h4 ht hF⟩
end Go.Sx
namespace Go.Sx
open Go Go.RowKit Go.Reg
variable {C:Cx} {B S:List Nat} {w0 w w':World} {σ:Sg} {η η':Nat->Value} {φ φ':Nat->List Nat} {i:Nat} {o:Own}
theorem Later.same(h:Tch [] w w')(O:List Nat):Later O w O w':=⟨h.size,λb hb _=>h.blk b hb (by simp),λ_ h _=>h⟩
theorem Later.touch {X O:List Nat}(h:Tch X w w')(hX:∀b∈X,b∈O):Later O w O w':=⟨h.size,λb hb hn=>h.blk b hb (λhm=>hn (hX b hm)),λ_ h _=>h⟩
theorem Mem.grow(h:Mem C B S w0 σ η φ w)(t:Tch [] w w'):Mem C B S w0 σ η φ w':=
 ⟨h.tch.then0 t,λp hp=>(h.own p hp).later (Later.same t _) (λi hi=>⟨hi,rfl⟩) t (λ_ _=>by simp),h.nodup,h.disj,h.new,h.out,λg hg=>(h.glob g hg).later (Later.same t _)⟩
def CE {α:Type}(f:Nat->α)(i:Nat)(v:α):Nat->α:=λj=>if j=i then v else f j
theorem Ck {α:Type}(f:Nat->α)(i:Nat)(v:α):CE f i v i=v:=by simp[CE]
theorem BU {α:Type}(f:Nat->α)(i:Nat)(v:α) {j:Nat}(h:j≠i):CE f i v j=f j:=by simp[CE,h]
theorem L6:∀{σ:Sg},(∀j∈BA σ,φ' j=φ j)->Ao φ' σ=Ao φ σ
 |[],_=>rfl
 |
  p::σ,h=>by
  have h1:=h p.1 (by simp[BA])
  have h2:=L6 (σ:=σ) (λj hj=>h j (by simp only[BA,Ar,Ai]at hj⊢;exact .inr hj))
  simp only[Ao,BD]at h2⊢
  rw[h1,h2]
theorem lI {F:List Nat}(hi:i∉BA σ):Ao (CE φ i F) ((i,o)::σ)=F++Ao φ σ:=by
 have:=L6 (φ:=φ) (φ':=CE φ i F) (σ:=σ) (λj hj=>BU _ _ _ (λe=>hi (e▸hj)))
 simp only[Ao,BD,Ck]at this⊢
 rw[this]
theorem Mem.add(h:Mem C B S w0 σ η φ w)(t:Tch [] w w')(hi:i∉BA σ) {v:Value} {F:List Nat}(hF:∀b∈F,w.heap.size<=b)
  (ho:o.holds (CE η i v) (i::BA σ) (B++(F++Ao φ σ)) w' v F):Mem C B S w0 ((i,o)::σ) (CE η i v) (CE φ i F) w'/\Later (B++Ao φ σ) w (B++Ao (CE φ i F) ((i,o)::σ)) w':=by
 have hb:=lI (φ:=φ) (o:=o) (F:=F) hi
 have hl:Later (B++Ao φ σ) w (B++Ao (CE φ i F) ((i,o)::σ)) w':=by
  refine⟨t.size,λb h _=>t.blk b h (by simp),λb hn hs hm=>?_⟩
  rw[hb]at hm
  rcases Ag.1 hm with hm|hm
  ·exact hn (Au _ hm)
  ·rcases Ag.1 hm with hm|hm
   ·have:=hF b hm;omega
   ·exact hn (Av _ hm)
 refine⟨⟨h.tch.then0 t,?_,?_,?_,?_,h.out,λg hg=>(h.glob g hg).later hl⟩,hl⟩
 ·intro p hp
  rcases Ai.1 hp with rfl|hp
  ·simp only[Ck];rw[hb];exact ho
  ·have hne:p.1≠i:=λe=>hi (e▸AV hp)
   rw[BU _ _ _ hne,BU _ _ _ hne]
   exact(h.own p hp).later hl (λ_ hj=>⟨A9 _ hj,BU _ _ _ (λe=>hi (e▸hj))⟩) t (λ_ _=>by simp)
 ·exact Cs.2 ⟨hi,h.nodup⟩
 ·intro j hj k hk hjk b hb1 hb2
  have hlt:∀m∈BA σ,∀b∈φ m,b<w.heap.size:=λm hm b hb=>h.lt b (Av _ (B5 hm hb))
  rcases Ai.1 hj with e0|hj
  ·replace e0:j=i:=e0
   rcases Ai.1 hk with e3|hk
   ·exact hjk (e0.trans (Eq.symm e3))
   ·rw[e0,Ck]at hb1;rw[BU _ _ _ (λe=>hjk (e0.trans e.symm))]at hb2
    have:=hF b hb1;have:=hlt k hk b hb2;omega
  ·rcases Ai.1 hk with e3|hk
   ·replace e3:k=i:=e3
    rw[e3,Ck]at hb2;rw[BU _ _ _ (λe=>hjk (e.trans e3.symm))]at hb1
    have:=hF b hb2;have:=hlt j hj b hb1;omega
   ·have e1:j≠i:=λe=>hi (e▸hj)
    have e2:k≠i:=λe=>hi (e▸hk)
    rw[BU _ _ _ e1]at hb1;rw[BU _ _ _ e2]at hb2
    exact h.disj j hj k hk hjk b hb1 hb2
 ·intro j hj b hb1
  rcases Ai.1 hj with e0|hj
  ·replace e0:j=i:=e0
   rw[e0,Ck]at hb1
   have:=hF b hb1;have:=h.tch.size;right;omega
  ·have e1:j≠i:=λe=>hi (e▸hj)
   rw[BU _ _ _ e1]at hb1
   exact h.new j hj b hb1
theorem HE.add {fr:Fr} {a:Act}(h:HE η (BA σ) (B++Ao φ σ) w fr a)(hi:i∉BA σ) {v:Value} {F:List Nat}(hl:Later (B++Ao φ σ) w (B++Ao (CE φ i F) ((i,o)::σ)) w'):
  HE (CE η i v) (BA ((i,o)::σ)) (B++Ao (CE φ i F) ((i,o)::σ)) w' fr a:=
 h.later hl (λ_ hj=>⟨A9 _ hj,BU _ _ _ (λe=>hi (e▸hj))⟩)
def BI(i:Nat):Sg->Option Own
 |[]=>none
 |
  (j,o)::σ=>match Nat.beq j i with
  |true=>some o
  |false=>BI i σ
def AX(g:Own->Own)(i:Nat)(o:Own):Sg->Sg
 |[]=>[]
 |
  (j,p)::σ=>match Nat.beq j i with
  |true=>(j,o)::AX g i o σ
  |false=>(j,g p)::AX g i o σ
def Dc(g:Own->Own)(i:Nat):Sg->Sg
 |[]=>[]
 |
  (j,p)::σ=>match Nat.beq j i with
  |true=>Dc g i σ
  |false=>(j,g p)::Dc g i σ
theorem AQ:∀{σ:Sg},BI i σ=some o->(i,o)∈σ
 |[],h=>by simp[BI]at h
 |
  (j,p)::σ,h=>by
  rcases BN j i with⟨hb,e⟩|⟨hb,e⟩
  ·simp only[BI,hb,AB]at h;subst e;subst h;simp
  ·simp only[BI,hb]at h;exact A9 _ (AQ h)
theorem AZ(g:Own->Own)(i:Nat)(o:Own):∀σ:Sg,BA (AX g i o σ)=BA σ
 |[]=>rfl
 |
  (j,p)::σ=>by
  have ih:=AZ g i o σ
  simp only[BA]at ih
  rcases BN j i with⟨hb,e⟩|⟨hb,e⟩<;>simp only[AX,hb,BA,Ar,ih]
theorem Gx {g:Own->Own}:∀{σ:Sg} {p:Nat×Own},p∈AX g i o σ->p=(i,o)\/∃q∈σ,q.1≠i/\p=(q.1,g q.2)
 |[],p,h=>by simp[AX]at h
 |
  (j,q)::σ,p,h=>by
  rcases BN j i with⟨hb,e⟩|⟨hb,e⟩
  ·simp only[AX,hb]at h
   rcases Ai.1 h with rfl|h
   ·subst e;exact .inl rfl
   ·rcases Gx h with h|⟨q',hq,h1,h2⟩
    ·exact .inl h
    ·exact .inr ⟨q',A9 _ hq,h1,h2⟩
  ·simp only[AX,hb]at h
   rcases Ai.1 h with rfl|h
   ·exact .inr ⟨(j,q),by simp,e,rfl⟩
   ·rcases Gx h with h|⟨q',hq,h1,h2⟩
    ·exact .inl h
    ·exact .inr ⟨q',A9 _ hq,h1,h2⟩
theorem Fh {g:Own->Own}:∀{σ:Sg} {p:Nat×Own},p∈Dc g i σ->∃q∈σ,q.1≠i/\p=(q.1,g q.2)
 |[],p,h=>by simp[Dc]at h
 |
  (j,q)::σ,p,h=>by
  rcases BN j i with⟨hb,e⟩|⟨hb,e⟩
  ·simp only[Dc,hb]at h
   obtain⟨q',hq,h1,h2⟩:=Fh h
   exact⟨q',A9 _ hq,h1,h2⟩
  ·simp only[Dc,hb]at h
   rcases Ai.1 h with rfl|h
   ·exact⟨(j,q),by simp,e,rfl⟩
   ·obtain⟨q',hq,h1,h2⟩:=Fh h
    exact⟨q',A9 _ hq,h1,h2⟩
theorem DI(g:Own->Own)(i:Nat):∀σ:Sg,BA (Dc g i σ)=(BA σ).filter (· !=i)
 |[]=>rfl
 |
  (j,p)::σ=>by
  have ih:=DI g i σ
  simp only[BA]at ih
  rcases BN j i with⟨hb,e⟩|⟨hb,e⟩
  ·subst e;simp only[Dc,hb,BA,Ar,ih];simp
  ·simp only[Dc,hb,BA,Ar,ih];simp[e]
theorem Gp {g:Own->Own}(F:List Nat):∀b,b∈Ao (CE φ i F) (AX g i o σ)->b∈F\/∃j∈BA σ,j≠i/\b∈φ j:=by
 intro b hb
 obtain⟨p,hp,hb⟩:=AL.1 hb
 rcases Gx hp with rfl|⟨q,hq,h1,rfl⟩
 ·simp only[Ck]at hb;exact .inl hb
 ·simp only[BU _ _ _ h1]at hb;exact .inr ⟨q.1,AV hq,h1,hb⟩
theorem Mem.turn(h:Mem C B S w0 σ η φ w) {X:List Nat}(t:Tch X w w')(hX:∀b∈X,b∈φ i)(hi:i∈BA σ) {v:Value} {F:List Nat}(hF:∀b∈F,b∈φ i\/w.heap.size<=b) {g:Own->Own}
  (hl:Later (B++Ao φ σ) w (B++Ao (CE φ i F) (AX g i o σ)) w')
  (hg:∀q∈σ,q.1≠i->q.2.holds η (BA σ) (B++Ao φ σ) w (η q.1) (φ q.1)->(g q.2).holds (CE η i v) (BA σ) (B++Ao (CE φ i F) (AX g i o σ)) w' (η q.1) (φ q.1))
  (ho:o.holds (CE η i v) (BA σ) (B++Ao (CE φ i F) (AX g i o σ)) w' v F):Mem C B S w0 (AX g i o σ) (CE η i v) (CE φ i F) w':=by
 have hX':∀b∈X,b∈S\/w0.heap.size<=b:=λb hb=>(h.new i hi b (hX b hb)).imp (λh=>h.1) id
 have hlt:∀m∈BA σ,∀b∈φ m,b<w.heap.size:=λm hm b hb=>h.lt b (Av _ (B5 hm hb))
 refine⟨h.tch.trans t (λ_ h=>h) hX',?_,by rw[AZ];exact h.nodup,?_,?_,h.out,λg hg=>(h.glob g hg).later hl⟩
 ·intro p hp
  rw[AZ]
  rcases Gx hp with rfl|⟨q,hq,h1,rfl⟩
  ·simp only[Ck];exact ho
  ·simp only[BU _ _ _ h1]
   exact hg q hq h1 (h.own q hq)
 ·rw[AZ]
  intro j hj k hk hjk b hb1 hb2
  by_cases e1:j=i
  ·subst e1
   rw[Ck]at hb1;rw[BU _ _ _ (Ne.symm hjk)]at hb2
   rcases hF b hb1 with h1|h1
   ·exact h.disj j hj k hk hjk b h1 hb2
   ·have:=hlt k hk b hb2;omega
  ·rw[BU _ _ _ e1]at hb1
   by_cases e2:k=i
   ·subst e2
    rw[Ck]at hb2
    rcases hF b hb2 with h1|h1
    ·exact h.disj j hj k hk hjk b hb1 h1
    ·have:=hlt j hj b hb1;omega
   ·rw[BU _ _ _ e2]at hb2
    exact h.disj j hj k hk hjk b hb1 hb2
 ·rw[AZ]
  intro j hj b hb1
  by_cases e1:j=i
  ·subst e1
   rw[Ck]at hb1
   rcases hF b hb1 with h1|h1
   ·exact h.new j hj b h1
   ·have:=h.tch.size;right;omega
  ·rw[BU _ _ _ e1]at hb1
   exact h.new j hj b hb1
theorem Later.turn(B:List Nat) {X:List Nat}(t:Tch X w w')(hX:∀b∈X,b∈φ i)(hi:i∈BA σ) {F:List Nat}(hF:∀b∈F,b∈φ i\/w.heap.size<=b)(g:Own->Own)(o:Own):
  Later (B++Ao φ σ) w (B++Ao (CE φ i F) (AX g i o σ)) w':=by
 refine⟨t.size,λb hb hn=>t.blk b hb (λhm=>hn (Av _ (B5 hi (hX b hm)))),λb hn hs hm=>?_⟩
 rcases Ag.1 hm with hm|hm
 ·exact hn (Au _ hm)
 ·rcases Gp F b hm with hm|⟨j,hj,_,hm⟩
  ·rcases hF b hm with hm|hm
   ·exact hn (Av _ (B5 hi hm))
   ·omega
  ·exact hn (Av _ (B5 hj hm))
theorem Mem.turnSame(h:Mem C B S w0 σ η φ w) {X:List Nat}(t:Tch X w w')(hX:∀b∈X,b∈φ i)(hi:i∈BA σ) {F:List Nat}(hF:∀b∈F,b∈φ i\/w.heap.size<=b)
  (ho:o.holds η (BA σ) (B++Ao (CE φ i F) (AX id i o σ)) w' (η i) F):Mem C B S w0 (AX id i o σ) η (CE φ i F) w':=by
 have he:CE η i (η i)=η:=by funext j;by_cases e:j=i<;>simp[CE,e]
 have hl:=Later.turn B t hX hi hF id o
 have:=h.turn (v:=η i) (g:=id) t hX hi hF hl (λq hq hne hh=>by
  rw[he]
  exact hh.later hl (λj hj=>⟨hj,rfl⟩) t (λb hb hm=>h.disj q.1 (AV hq) i hi hne b hb (hX b hm))) (by rw[he];exact ho)
 rw[he]at this
 exact this
theorem Mem.turnKill(h:Mem C B S w0 σ η φ w) {X:List Nat}(t:Tch X w w')(hX:∀b∈X,b∈φ i)(hi:i∈BA σ) {v:Value} {F:List Nat}(hF:∀b∈F,b∈φ i\/w.heap.size<=b)
  (ho:o.holds (CE η i v) (BA σ) (B++Ao (CE φ i F) (AX (BM i .undef) i o σ)) w' v F):Mem C B S w0 (AX (BM i .undef) i o σ) (CE η i v) (CE φ i F) w':=by
 have hl:=Later.turn B t hX hi hF (BM i .undef) o
 exact h.turn t hX hi hF hl (λq hq hne hh=>hh.kill rfl hl (λj hj hne=>⟨hj,BU _ _ _ hne⟩) ⟨_,rfl⟩ t (λb hb hm=>h.disj q.1 (AV hq) i hi hne b hb (hX b hm))) ho
theorem Mem.del(h:Mem C B S w0 σ η φ w) {x:Da}(hx:x.one=true)(hr:RepC (B++Ao φ (Dc (BM i x) i σ)) w x [η i]):
  Mem C B S w0 (Dc (BM i x) i σ) η φ w/\Later (B++Ao φ σ) w (B++Ao φ (Dc (BM i x) i σ)) w:=by
 have hl:Later (B++Ao φ σ) w (B++Ao φ (Dc (BM i x) i σ)) w:=by
  refine⟨Ax _,λ_ _ _=>rfl,λb hn hs hm=>?_⟩
  rcases Ag.1 hm with hm|hm
  ·exact hn (Au _ hm)
  ·obtain⟨p,hp,hb⟩:=AL.1 hm
   obtain⟨q,hq,_,rfl⟩:=Fh hp
   exact hn (Av _ (B5 (AV hq) hb))
 have hI:∀j∈BA σ,j≠i->j∈BA (Dc (BM i x) i σ)/\η j=η j:=λj hj hne=>⟨by rw[DI];exact Az.2 ⟨hj,by simpa using hne⟩,rfl⟩
 have hsub:∀j∈BA (Dc (BM i x) i σ),j∈BA σ:=λj hj=>by rw[DI]at hj;exact(Az.1 hj).1
 refine⟨⟨h.tch,?_,?_,?_,?_,h.out,λg hg=>(h.glob g hg).later hl⟩,hl⟩
 ·intro p hp
  obtain⟨q,hq,hne,rfl⟩:=Fh hp
  exact(h.own q hq).kill hx hl hI hr (Tch.refl [] w) (λ_ _=>by simp)
 ·rw[DI];exact h.nodup.filter _
 ·exactλj hj k hk=>h.disj j (hsub j hj) k (hsub k hk)
 ·exactλj hj=>h.new j (hsub j hj)
end Go.Sx
namespace Go.Sx
open Go Go.RowKit Go.Reg
structure TyI where
 agg:Bool
 size:Nat
 bytes:Nat
 flds:List (Nat×TypeId)
 zero:Da
 elem:TypeId
 ik:Option IntKind
 kd:Nat
 cmp:Bool
abbrev Hh:=List (TypeId×TyI)
def GQ(t:TypeId):Hh->Option TyI
 |[]=>none
 |
  (u,e)::l=>match Nat.beq u t with
  |true=>some e
  |false=>GQ t l
mutual
def Da.size:Da->Nat
 |.agg ds=>mK ds
 |_=>1
def mK:List Da->Nat
 |[]=>0
 |d::ds=>d.size+mK ds
end
def Da.isAgg:Da->Bool
 |.agg _=>true
 |_=>false
mutual
def Dat.size:Dat->Nat
 |.d x=>x.size
 |.agg ds=>Ot ds
 |_=>1
def Ot:List Dat->Nat
 |[]=>0
 |d::ds=>d.size+Ot ds
end
def Dat.isAgg:Dat->Bool
 |.d x=>x.isAgg
 |.agg _=>true
 |_=>false
def Dat.fits(d:Dat)(e:TyI):Bool:=(d.isAgg==e.agg)&&Nat.beq d.size e.size
def Da.fits(d:Da)(e:TyI):Bool:=(d.isAgg==e.agg)&&Nat.beq d.size e.size
mutual
def Da.stor:Da->Bool
 |.undef|.tuple _|.raw _=>false
 |.agg ds=>mH ds
 |_=>true
def mH:List Da->Bool
 |[]=>true
 |d::ds=>d.stor&&mH ds
end
mutual
def Dat.stor:Dat->Bool
 |.d x=>x.stor
 |.tuple _=>false
 |.agg ds=>XB ds
 |_=>true
def XB:List Dat->Bool
 |[]=>true
 |d::ds=>d.stor&&XB ds
end
def Ct:List Da->List Dat
 |[]=>[]
 |x::xs=>.d x::Ct xs
def Dat.parts:Dat->Option (List Dat)
 |.d (.agg xs)=>some (Ct xs)
 |.agg ds=>some ds
 |_=>none
def Dat.cellsOf(d:Dat):List Dat:=match d with
 |.d (.agg xs)=>Ct xs
 |.agg ds=>ds
 |d=>[d]
def Lr(e:TyI):Nat->List Dat->Nat->Option Dat
 |0,_,_=>none
 |_+1,[],_=>none
 |
  f+1,d::ds,o=>match Nat.blt o d.size with
  |false=>Lr e f ds (o-d.size)
  |
   true=>match Nat.beq o 0&&d.fits e with
   |true=>some d
   |
    false=>match d.parts with
    |some es=>Lr e f es o
    |none=>none
def ACY(d:Dat):Option (List Dat)->Option (List Dat)
 |some l=>some (d::l)
 |none=>none
def AER(ds:List Dat):Option (List Dat)->Option (List Dat)
 |some l=>some (.agg l::ds)
 |none=>none
def PJ(x:Dat):Nat->List Dat->Nat->Option (List Dat)
 |0,_,_=>none
 |_+1,[],_=>none
 |
  f+1,d::ds,o=>match Nat.blt o d.size with
  |false=>ACY d (PJ x f ds (o-d.size))
  |
   true=>match Nat.beq o 0&&(d.isAgg==x.isAgg)&&Nat.beq d.size x.size with
   |true=>some (x::ds)
   |
    false=>match d.parts with
    |some es=>AER ds (PJ x f es o)
    |none=>none
def EX:List Dat->Option (List Da)
 |[]=>some []
 |
  .d x::ds=>match EX ds with
  |some xs=>some (x::xs)
  |none=>none
 |_::_=>none
def aP(ds:List Dat):Dat:=match EX ds with
 |some xs=>.d (.agg xs)
 |none=>.agg ds
def nD(ds:List Dat):Dat:=match EX ds with
 |some xs=>.d (.tuple xs)
 |none=>.tuple ds
def Yi(t:TypeId):Dat->Dat
 |.d x=>.d (.iface t x)
 |d=>.iface t d
def iY(fn:Fn)(f c:List Dat):Dat:=match EX f,EX c with
 |some fs,some cs=>.d (.func fn fs cs)
 |_,_=>.func fn f c
def Rk:Value->Da
 |.int k n=>.int k n
 |.bool b=>.bool b
 |.string s=>.str s
 |.pointer none=>.nilp
 |.slice none 0 0=>.nils
 |.map none=>.nilm
 |.nilFunc=>.nilf
 |.nilIface=>.nili
 |v=>.raw v
def mX:Value->Da
 |.agg cs=>.agg (cs.toList.map Rk)
 |v=>Rk v
def glob(g:Nat):List (Nat×Da)->Da
 |[]=>.raw (.pointer (some ⟨g,0,none⟩))
 |
  (h,x)::l=>match Nat.beq h g with
  |true=>.ref x
  |false=>glob g l
def ev(Γ:List (Nat×Da))(fr:Fr):Operand->Dat
 |.tmp t=>get fr t
 |.const v=>.d (mX v)
 |.global g=>.d (glob g Γ)
 |.func f=>.d (.func (.func f) [] [])
def uJ(Γ:List (Nat×Da))(fr:Fr):List Operand->List Dat
 |[]=>[]
 |x::xs=>ev Γ fr x::uJ Γ fr xs
abbrev KD:=Dat->Fr->Sg->Prop
def force(d:Dat)(K:Dat->Prop):Prop:=match d with
 |.d x=>K (.d x)
 |.own i=>K (.own i)
 |.at_ i o=>K (.at_ i o)
 |.el i k n o=>K (.el i k n o)
 |.agg ds=>K (.agg ds)
 |.tuple ds=>K (.tuple ds)
 |.iface t d=>K (.iface t d)
 |.func f a b=>K (.func f a b)
theorem KA(d:Dat)(K:Dat->Prop):force d K=K d:=by cases d<;>rfl
def SxI(k:IntKind)(e:Int)(K:Int->Prop):Prop:=∃n,k.wrap e=n/\K n
def L1:Nat->List Da->Nat
 |0,_=>0
 |_+1,[]=>0
 |n+1,d::ds=>d.size+L1 n ds
def DQ:Nat->List Dat->Nat
 |0,_=>0
 |_+1,[]=>0
 |n+1,d::ds=>d.size+DQ n ds
def D6(T:Hh)(t:TypeId)(no:Prop)(K:TyI->Prop):Prop:=match GQ t T with
 |some e=>K e
 |none=>no
def DB {α:Type}(o:Option α)(no:Prop)(K:α->Prop):Prop:=match o with
 |some x=>K x
 |none=>no
def DC(b:Bool)(no K:Prop):Prop:=match b with
 |true=>K
 |false=>no
def yG(kd:Nat)(x:Dat)(σ:Sg):Option Bool:=match kd with
 |
  1=>(match x with
  |.d .nilp=>some true
  |.d (.ref _)|.at_ _ _|.el _ _ _ _=>some false
  |.own i=>(match BI i σ with|some (.cells _ _)=>some false|_=>none)
  |_=>none)
 |
  2=>(match x with
  |.d .nils=>some true
  |.d (.list _ (_::_))=>some false
  |.own i=>(match BI i σ with|some (.slice _ _ (_::_))=>some false|_=>none)
  |_=>none)
 |
  3=>(match x with
  |.d .nilm=>some true
  |_=>none)
 |
  4=>(match x with
  |.d .nilf=>some true
  |.d (.func _ _ _)|.func _ _ _=>some false
  |_=>none)
 |
  5=>(match x with
  |.d .nili=>some true
  |.d (.iface _ _)|.iface _ _=>some false
  |_=>none)
 |_=>none
def UM(kd:Nat)(x:Dat):Bool:=match kd,x with
 |1,.d .nilp=>true
 |2,.d .nils=>true
 |3,.d .nilm=>true
 |4,.d .nilf=>true
 |5,.d .nili=>true
 |_,_=>false
def pr(p:Prop) [i:Decidable p]:Dat:=.d (.prop p i)
def vD(op:BinOp)(k:IntKind)(a b:Int)(K:Dat->Prop)(no:Prop):Prop:=match op with
 |.add=>SxI k (a+b) λn=>K (.d (.int k n))
 |.sub=>SxI k (a-b) λn=>K (.d (.int k n))
 |.mul=>SxI k (a*b) λn=>K (.d (.int k n))
 |.quo=>b≠0/\SxI k (a.tdiv b) λn=>K (.d (.int k n))
 |.rem=>b≠0/\K (.d (.int k (a.tmod b)))
 |.eql=>K (pr (a=b))
 |.neq=>K (pr (¬a=b))
 |.lss=>K (pr (a<b))
 |.leq=>K (pr (a<=b))
 |.gtr=>K (pr (b<a))
 |.geq=>K (pr (b<=a))
 |_=>no
def Nd(op:BinOp)(p q:Prop) [Decidable p] [Decidable q](K:Dat->Prop)(no:Prop):Prop:=match op with
 |.eql=>K (pr (p↔q))
 |.neq=>K (pr (¬(p↔q)))
 |_=>no
def uW(op:BinOp)(a b:ByteArray)(K:Dat->Prop)(no:Prop):Prop:=match op with
 |.eql=>K (pr (a=b))
 |.neq=>K (pr (¬a=b))
 |.add=>a.size+b.size<=9223372036854775807/\K (.d (.str (a++b)))
 |_=>no
def uZ(kd:Nat)(op:BinOp)(x y:Dat)(σ:Sg)(K:Dat->Prop)(no:Prop):Prop:=
 match UM kd y,yG kd x σ,op with
 |true,some b,.eql=>K (.d (.bool b))
 |true,some b,.neq=>K (.d (.bool (!b)))
 |_,_,_=>no
def Ys:Operand->Bool
 |.const .nilIface=>true
 |_=>false
def vF(T:Hh)(t:TypeId)(op:BinOp)(yc:Bool)(x y:Dat)(σ:Sg)(K:Dat->Prop)(no:Prop):Prop:=
 match x,y with
 |.d (.int k a),.d (.int k' b)=>DC (decide (k=k')) no (vD op k a b K no)
 |.d (.str a),.d (.str b)=>uW op a b K no
 |.d (.bool a),.d (.bool b)=>D6 T t no λe=>DC (Nat.beq e.kd 9) no (Nd op (a=true) (b=true) K no)
 |.d (.bool a),.d (.prop q _)=>D6 T t no λe=>DC (Nat.beq e.kd 9) no (Nd op (a=true) q K no)
 |.d (.prop p _),.d (.bool b)=>D6 T t no λe=>DC (Nat.beq e.kd 9) no (Nd op p (b=true) K no)
 |.d (.prop p _),.d (.prop q _)=>D6 T t no λe=>DC (Nat.beq e.kd 9) no (Nd op p q K no)
 |x,y=>D6 T t no λe=>DC (yc||!(Nat.beq e.kd 5)) no (uZ e.kd op x y σ K no)
def ADz(op:UnOp)(x:Dat)(K:Dat->Prop)(no:Prop):Prop:=match op,x with
 |.not,.d (.bool b)=>K (.d (.bool (!b)))
 |.not,.d (.prop p _)=>K (pr (¬p))
 |.neg,.d (.int k n)=>SxI k (-n) λm=>K (.d (.int k m))
 |_,_=>no
def ABi(d:Dat)(yes no:Dat->Prop)(bad:Prop):Prop:=match d with
 |.d (.bool true)=>yes (.d (.bool true))
 |.d (.bool false)=>no (.d (.bool false))
 |.d (.prop p _)=>(p->yes (.d (.bool true)))/\(¬p->no (.d (.bool false)))
 |_=>bad
def UU(i:Nat)(σ:Sg)(K:Nat->Prop)(no:Prop):Prop:=match BI i σ with
 |none=>K i
 |
  some _=>match BI (i+1000) σ with
  |none=>K (i+1000)
  |
   some _=>match BI (i+2000) σ with
   |none=>K (i+2000)
   |some _=>no
def CP(n:Nat):List Dat->Option Dat
 |[]=>none
 |
  d::ds=>match n with
  |0=>some d
  |m+1=>CP m ds
def Gd(n:Nat)(x:Dat):List Dat->List Dat
 |[]=>[]
 |
  d::ds=>match n with
  |0=>x::ds
  |m+1=>d::Gd m x ds
def Gk(n:Nat):List Da->Option Da
 |[]=>none
 |
  d::ds=>match n with
  |0=>some d
  |m+1=>Gk m ds
def X7(T:Hh)(t:TypeId)(x:Dat)(σ:Sg)(K:Dat->Prop)(no:Prop):Prop:=D6 T t no λe=>match x with
 |.d (.ref y)=>DC (y.fits e) no (K (.d y))
 |
  .own i=>DB (BI i σ) no λo=>(match o with
  |
   .cells t0 ds=>(match Nat.beq t t0&&e.agg with
   |true=>DC (Nat.beq (Ot ds) e.size) no (force (aP ds) K)
   |false=>DB (Lr e 200 ds 0) no λd=>force d K)
  |_=>no)
 |
  .at_ i off=>DB (BI i σ) no λo=>(match o with
  |.cells _ ds=>DB (Lr e 200 ds off) no λd=>force d K
  |_=>no)
 |
  .el i k0 n off=>DB (BI i σ) no λo=>(match o with
  |.slice _ k ds=>DC (Nat.beq k0 k) no (∃d,ds[n]? =some d/\DB (Lr e 200 [.d d] off) no λd=>force d K)
  |_=>no)
 |_=>no
def X4(T:Hh)(t:TypeId)(x v:Dat)(σ:Sg)(K:Sg->Prop)(no:Prop):Prop:=D6 T t no λe=>DC (v.fits e&&v.stor) no (match x with
 |
  .own i=>DB (BI i σ) no λo=>(match o with
  |
   .cells t0 ds=>(match Nat.beq t t0&&e.agg with
   |true=>DC (Nat.beq (Ot ds) e.size) no (K (AX id i (.cells t0 v.cellsOf) σ))
   |false=>DB (PJ v 200 ds 0) no λds'=>K (AX id i (.cells t0 ds') σ))
  |_=>no)
 |
  .at_ i off=>DB (BI i σ) no λo=>(match o with
  |.cells T ds=>DB (PJ v 200 ds off) no λds'=>K (AX id i (.cells T ds') σ)
  |_=>no)
 |
  .el i k0 n off=>DB (BI i σ) no λo=>(match o with
  |
   .slice E k ds=>DC (Nat.beq k0 k) no (∃d,ds[n]? =some d/\DB (PJ v 200 [.d d] off) no λds'=>DB (EX ds') no λxs=>(match xs with
   |[y]=>K (AX id i (.slice E k (ds.set n y)) σ)
   |_=>no))
  |_=>no)
 |_=>no)
def LV(T:Hh)(t:TypeId)(x:Dat)(n:Nat)(σ:Sg)(K:Dat->Prop)(no:Prop):Prop:=D6 T t no λe=>DB e.flds[n]? no λos=>DC e.agg no<|match x with
 |.d (.ref (.agg ds))=>DC (Nat.beq (L1 n ds) os.1) no (DB (Gk n ds) no λd=>K (.d (.ref d)))
 |.own i=>DB (BI i σ) no λo=>(match o with|.cells _ _=>K (.at_ i os.1)|_=>no)
 |.at_ i off=>K (.at_ i (off+os.1))
 |.el i k m off=>K (.el i k m (off+os.1))
 |_=>no
def AFA(n:Int)(len:Nat)(K:Nat->Prop):Prop:=∃j:Nat,n=j/\j<len/\K j
def LU(T:Hh)(t:TypeId)(x ix:Dat)(σ:Sg)(K:Dat->Prop)(no:Prop):Prop:=D6 T t no λe=>D6 T e.elem no λee=>DC (Nat.beq e.kd 2) no<|match ix with
 |
  .d (.int _ n)=>(match x with
  |.d (.list k ds)=>DC (Nat.beq k ee.size) no (∃(j:Nat) (d:Da),n=j/\ds[j]? =some d/\K (.d (.ref d)))
  |
   .own i=>DB (BI i σ) no λo=>(match o with
   |.slice _ k ds=>DC (Nat.beq k ee.size) no (AFA n ds.length λj=>K (.el i k j 0))
   |_=>no)
  |_=>no)
 |_=>no
def vB(T:Hh)(t:TypeId)(x:Dat)(σ:Sg)(K:Dat->Prop)(no:Prop):Prop:=D6 T t no λe=>DC (Nat.beq e.kd 2||Nat.beq e.kd 7) no<|match x with
 |.d (.list _ ds)=>DC (Nat.beq e.kd 2) no (K (.d (.int .i64 ds.length)))
 |.d .nils=>DC (Nat.beq e.kd 2) no (K (.d (.int .i64 0)))
 |.d (.str s)=>DC (Nat.beq e.kd 7) no (K (.d (.int .i64 s.size)))
 |
  .own i=>DB (BI i σ) no λo=>(match o with
  |.slice _ _ ds=>DC (Nat.beq e.kd 2) no (K (.d (.int .i64 ds.length)))
  |_=>no)
 |_=>no
def cT(x:Dat)(k:Nat)(σ:Sg):Option (List Da):=match x with
 |.d (.list k' ds)=>(match Nat.beq k' k with|true=>some ds|false=>none)
 |.d .nils=>some []
 |
  .own i=>(match BI i σ with
  |some (.slice _ k' ds)=>(match Nat.beq k' k with|true=>some ds|false=>none)
  |_=>none)
 |_=>none
def ADT(i:Nat):Dat->Bool
 |.own j=>!(Nat.beq i j)
 |_=>true
def PW:Nat:=4294967296
def HN(b:Nat):Nat:=140737488355328/b
def Nt:List Dat->(List Dat->Prop)->Prop
 |[],K=>K []
 |d::ds,K=>force d λd=>Nt ds λds=>K (d::ds)
def kI(o:Own)(K:Own->Prop):Prop:=match o with
 |.cells T ds=>Nt ds λds=>K (.cells T ds)
 |.slice E k ds=>K (.slice E k ds)
 |.abs R a b c=>K (.abs R a b c)
 |.ghost vs ds=>Nt ds λds=>K (.ghost vs ds)
 |.absd R a b c ds=>Nt ds λds=>K (.absd R a b c ds)
def Ci:Sg->(Sg->Prop)->Prop
 |[],K=>K []
 |(i,o)::σ,K=>kI o λo=>Ci σ λσ=>K ((i,o)::σ)
def Gi:Fr->(Fr->Prop)->Prop
 |[],K=>K []
 |(t,d)::fr,K=>force d λd=>Gi fr λfr=>K ((t,d)::fr)
theorem UY:∀(ds:List Dat) (K:List Dat->Prop),Nt ds K=K ds
 |[],K=>rfl
 |d::ds,K=>by simp only[Nt,KA,UY ds]
theorem sP(o:Own)(K:Own->Prop):kI o K=K o:=by cases o<;>simp[kI,UY]
theorem Bw:∀(σ:Sg) (K:Sg->Prop),Ci σ K=K σ
 |[],K=>rfl
 |(i,o)::σ,K=>by simp only[Ci,sP,Bw σ]
theorem Ei:∀(fr:Fr) (K:Fr->Prop),Gi fr K=K fr
 |[],K=>rfl
 |(t,d)::fr,K=>by simp only[Gi,KA,Ei fr]
def Fm(i:Nat)(o:Own):Sg->Sg
 |[]=>[(i,o)]
 |
  (j,p)::σ=>match Nat.blt i j with
  |true=>(i,o)::(j,p)::σ
  |false=>(j,p)::Fm i o σ
def T9(T:Hh)(t:TypeId)(x y:Dat)(dst:Option Nat)(fr:Fr)(σ:Sg)(K:KD)(no:Prop):Prop:=D6 T t no λe=>D6 T e.elem no λee=>DC (decide (0<ee.size)&&decide (ee.bytes<=1000)&&Nat.beq e.kd 2) no<|match x with
 |
  .own i=>DB (BI i σ) no λo=>(match o with
  |.slice E k ds=>DC (Nat.beq k ee.size&&Nat.beq E e.elem&&ADT i y) no<|DB (cT y k σ) no λes=>
    ds.length+es.length<=HN ee.bytes/\Gi (Fj i .undef fr) λfr=>Ci (AX (BM i .undef) i (.slice E k (ds++es)) σ) λσ=>K (.own i) fr σ
  |_=>no)
 |.d .nils=>DB (cT y ee.size σ) no λes=>es.length<=HN ee.bytes/\DB dst no λt=>UU t σ (λi=>Ci (Fm i (.slice e.elem ee.size es) σ) λσ=>K (.own i) fr σ) no
 |_=>no
def Mb:List (Nat×Operand)->(Operand->Dat)->List Dat->List Dat
 |[],_,ds=>ds
 |(i,x)::ps,f,ds=>Mb ps f (Gd i (f x) ds)
def Il(T:Hh)(e:TyI):List (Nat×Operand)->(Operand->Dat)->List Dat->Bool
 |[],_,_=>true
 |
  (i,x)::ps,f,ds=>(match CP i ds,e.flds[i]? with
  |
   some d,some (off,ft)=>(match GQ ft T with
   |some fe=>(d.isAgg==(f x).isAgg)&&Nat.beq d.size (f x).size&&Nat.beq fe.size (f x).size&&Nat.beq (DQ i ds) off&&(f x).stor&&Il T e ps f ds
   |none=>false)
  |_,_=>false)
structure PD where
 p:Prop
 d:Decidable p
def PD.of(p:Prop) [i:Decidable p]:PD:=⟨p,i⟩
def PD.and(x y:PD):PD:=⟨x.p/\y.p,@instDecidableAnd _ _ x.d y.d⟩
def nX(kd:Nat)(a b:Dat):Option PD:=match kd,a,b with
 |8,.d (.int k x),.d (.int k' y)=>(match decide (k=k')with|true=>some (PD.of (x=y))|false=>none)
 |7,.d (.str x),.d (.str y)=>some (PD.of (x=y))
 |9,.d (.bool x),.d (.bool y)=>some (PD.of (x=y))
 |_,_,_=>none
def R9(T:Hh)(dx dy:List Dat):List (Nat×TypeId)->Nat->Option PD
 |[],_=>some (PD.of True)
 |
  (off,ft)::l,i=>match GQ ft T,CP i dx,CP i dy with
  |
   some fe,some a,some b=>(match nX fe.kd a b,Nat.beq (DQ i dx) off&&Nat.beq (DQ i dy) off with
   |
    some p,true=>(match l with
    |[]=>some p
    |
     _::_=>match R9 T dx dy l (i+1)with
     |some q=>some (p.and q)
     |none=>none)
   |_,_=>none)
  |_,_,_=>none
def AD0(op:BinOp)(p:PD)(K:Dat->Prop)(no:Prop):Prop:=match op with
 |.eql=>K (.d (.prop p.p p.d))
 |.neq=>K (.d (.prop (¬p.p) (@instDecidableNot _ p.d)))
 |_=>no
def X9(T:Hh)(t:TypeId)(x:Dat)(n:Nat)(K:Dat->Prop)(no:Prop):Prop:=D6 T t no λe=>DB e.flds[n]? no λos=>D6 T os.2 no λfe=>DB x.parts no λds=>DB (CP n ds) no λd=>DC (d.fits fe&&Nat.beq (DQ n ds) os.1&&e.agg) no (force d K)
end Go.Sx
namespace Go.Sx
open Go Go.RowKit Go.Reg
def J4(C:Cx)(B S:List Nat)(w0:World)(n:Nat)(K:Fr->Sg->Prop)(a:Act)(w:World):Prop:=
 ∃fr σ η φ,Models C B S w0 n fr σ η φ a w/\K fr σ
def Bm(C:Cx)(n kd:Nat)(o:Oper)(K:Fr->Sg->Prop)(fr:Fr)(σ:Sg):Prop:=
 ∀(B S:List Nat) (w0:World) (η:Nat->Value) (φ:Nat->List Nat) (a:Act) (w:World),Models C B S w0 n fr σ η φ a w->match kd with
  |0=>BG a o=true/\o.wp C.P a w (J4 C B S w0 n K) No
  |5=>∃v,(∀w2,Kb w w2->(execOp a.eval o).run C.P w2=.ok (.value v) w2)/\J4 C B S w0 n K (a.put o.dst v) w
  |2=>o.wp C.P a w (λa' w'=>Kb w w'/\J4 C B S w0 n K a' w') No
  |_=>o.wp C.P a w (J4 C B S w0 n K) No
def Cj(C:Cx)(quiet:Bool)(f:FuncId)(args:List Dat)(K:KD)(fr:Fr)(σ:Sg):Prop:=
 ∀(B S:List Nat) (w0:World) (η:Nat->Value) (φ:Nat->List Nat) (n:Nat) (a:Act) (w:World) (vs:List Value),Models C B S w0 n fr σ η φ a w->
  (∃css,AE η (BA σ) (B++Ao φ σ) w args css/\vs=List.zipWith Ch args css)->
  (callFunc f vs.toArray).run C.P w=.ok (.enter f vs.toArray) w/\Calls C.P f vs.toArray w λe w'=>∃v d fr' σ' η' φ',e=.returned v/\K d fr' σ'/\Models C B S w0 n fr' σ' η' φ' a w'/\(∃cs,AH η' (BA σ') (B++Ao φ' σ') w' d cs/\v=Ch d cs)/\(quiet=true->Kb w w')
def FB(C:Cx)(n:Nat)(c:Code)(K:Exit->Fr->Sg->Prop)(fr:Fr)(σ:Sg):Prop:=
 ∀(B S:List Nat) (w0:World) (η:Nat->Value) (φ:Nat->List Nat) (a:Act) (w:World),Models C B S w0 n fr σ η φ a w->
  c.wp C.P (λe a' w'=>match e with
   |.panic _=>False
   |.outgrown=>False
   |e=>J4 C B S w0 n (K e) a' w') a w
attribute [irreducible] Bm Cj FB
def CF(t:Option Nat)(d:Dat)(fr:Fr):Fr:=match t with
 |some t=>(t,d)::fr
 |none=>fr
def Dh(t:Option Nat)(n:Nat):Bool:=match t with
 |some t=>Nat.blt t n
 |none=>true
def X5(T:Hh)(t:TypeId)(x:Dat)(lo hi mx:Option Dat)(K:Dat->Prop)(no:Prop):Prop:=D6 T t no λe=>D6 T e.elem no λee=>DC (Nat.beq e.kd 2) no<|match x,mx with
 |
  .d (.list k ds),none=>DC (Nat.beq k ee.size) no (match lo,hi with
  |none,none=>K (.d (.list k ds))
  |some (.d (.int _ l)),none=>∃j:Nat,l=j/\j<=ds.length/\K (.d (.list k (ds.drop j)))
  |none,some (.d (.int _ h))=>∃m:Nat,h=m/\m<=ds.length/\K (.d (.list k (ds.take m)))
  |some (.d (.int _ l)),some (.d (.int _ h))=>∃j m:Nat,l=j/\h=m/\j<=m/\m<=ds.length/\K (.d (.list k ((ds.take m).drop j)))
  |_,_=>no)
 |
  .d .nils,none=>(match lo,hi with
  |none,none=>K (.d .nils)
  |some (.d (.int _ l)),none=>l=0/\K (.d .nils)
  |none,some (.d (.int _ h))=>h=0/\K (.d .nils)
  |some (.d (.int _ l)),some (.d (.int _ h))=>l=0/\h=0/\K (.d .nils)
  |_,_=>no)
 |_,_=>no
def Ty(C:Cx)(T:Hh)(n kd:Nat)(o:Oper)(K:Fr->Sg->Prop)(fr:Fr)(σ:Sg):Prop:=
 DC (Dh o.dst n) (Bm C n kd o K fr σ)<|match o.op with
 |.move x=>force (ev C.Γ fr x) λd=>K (CF o.dst d fr) σ
 |.assign x=>force (ev C.Γ fr x) λd=>K (CF o.dst d fr) σ
 |.pick c x y=>ABi (ev C.Γ fr c) (λ_=>force (ev C.Γ fr x) λd=>K (CF o.dst d fr) σ) (λ_=>force (ev C.Γ fr y) λd=>K (CF o.dst d fr) σ) (Bm C n kd o K fr σ)
 |.alloc t=>D6 T t (Bm C n kd o K fr σ) λe=>DB o.dst (Bm C n kd o K fr σ) λd=>UU d σ (λi=>Ci (Fm i (.cells t (Dat.cellsOf (.d e.zero))) σ) λσ=>K (CF o.dst (.own i) fr) σ) (Bm C n kd o K fr σ)
 |.box t x=>DC (ev C.Γ fr x).stor (Bm C n kd o K fr σ)<|DB o.dst (Bm C n kd o K fr σ) λd=>UU d σ (λi=>force (ev C.Γ fr x) λy=>Ci (Fm i (.cells t y.cellsOf) σ) λσ=>K (CF o.dst (.own i) fr) σ) (Bm C n kd o K fr σ)
 |.build t ps=>D6 T t (Bm C n kd o K fr σ) λe=>DC (e.agg&&Il T e ps.toList (ev C.Γ fr) (Dat.cellsOf (.d e.zero))) (Bm C n kd o K fr σ)<|force (aP (Mb ps.toList (ev C.Γ fr) (Dat.cellsOf (.d e.zero)))) λd=>K (CF o.dst d fr) σ
 |.buildSlice t m ps=>D6 T t (Bm C n kd o K fr σ) λe=>D6 T e.elem (Bm C n kd o K fr σ) λee=>DC (Nat.beq e.kd 2&&Nat.beq m ps.size&&decide (m<=1000)&&decide (ee.size<=1000)&&((ps.toList.map (·.1))==List.range m)&&ps.toList.all (λp=>(ev C.Γ fr p.2).fits ee&&(ev C.Γ fr p.2).stor)) (Bm C n kd o K fr σ)<|
   DB (EX (ps.toList.map λp=>ev C.Γ fr p.2)) (Bm C n kd o K fr σ) λxs=>DB o.dst (Bm C n kd o K fr σ) λd=>UU d σ (λi=>Ci (Fm i (.slice e.elem ee.size xs) σ) λσ=>K (CF o.dst (.own i) fr) σ) (Bm C n kd o K fr σ)
 |
  .makeSlice t l c=>D6 T t (Bm C n kd o K fr σ) λe=>D6 T e.elem (Bm C n kd o K fr σ) λee=>DC (Nat.beq e.kd 2&&ee.zero.stor&&decide (ee.bytes<=1000)) (Bm C n kd o K fr σ) (match ev C.Γ fr l,ev C.Γ fr c with
  |.d (.int _ x),.d (.int _ y)=>∃m:Nat,x=m/\y=m/\m<=PW/\DB o.dst (Bm C n kd o K fr σ) λd=>UU d σ (λi=>Ci (Fm i (.slice e.elem ee.size (List.replicate m ee.zero)) σ) λσ=>K (CF o.dst (.own i) fr) σ) (Bm C n kd o K fr σ)
  |_,_=>Bm C n kd o K fr σ)
 |.load t x=>X7 T t (ev C.Γ fr x) σ (λd=>K (CF o.dst d fr) σ) (Bm C n kd o K fr σ)
 |.store t x v=>X4 T t (ev C.Γ fr x) (ev C.Γ fr v) σ (λσ'=>Ci σ' λσ'=>K (CF o.dst (.d .undef) fr) σ') (Bm C n kd o K fr σ)
 |
  .nilCheck x=>force (ev C.Γ fr x) λd=>(match d with
  |.d (.ref _)=>K (CF o.dst d fr) σ
  |.at_ _ _=>K (CF o.dst d fr) σ
  |.el _ _ _ _=>K (CF o.dst d fr) σ
  |
   .own i=>DB (BI i σ) (Bm C n kd o K fr σ) λow=>(match ow with
   |.cells _ _=>K (CF o.dst d fr) σ
   |_=>Bm C n kd o K fr σ)
  |_=>Bm C n kd o K fr σ)
 |
  .binOp op t x y _=>(match(ev C.Γ fr x).parts,(ev C.Γ fr y).parts with
  |some dx,some dy=>D6 T t (Bm C n kd o K fr σ) λe=>DC (e.cmp&&!(Nat.beq kd 0)) (Bm C n kd o K fr σ)<|DB (R9 T dx dy e.flds 0) (Bm C n kd o K fr σ) λp=>AD0 op p (λd=>K (CF o.dst d fr) σ) (Bm C n kd o K fr σ)
  |_,_=>vF T t op (Ys y) (ev C.Γ fr x) (ev C.Γ fr y) σ (λd=>K (CF o.dst d fr) σ) (Bm C n kd o K fr σ))
 |.unOp op _ x=>ADz op (ev C.Γ fr x) (λd=>K (CF o.dst d fr) σ) (Bm C n kd o K fr σ)
 |
  .convert s t x=>D6 T t (Bm C n kd o K fr σ) λe=>D6 T s (Bm C n kd o K fr σ) λ_=>(match e.ik,ev C.Γ fr x with
  |some k,.d (.int _ a)=>SxI k a λb=>K (CF o.dst (.d (.int k b)) fr) σ
  |_,_=>Bm C n kd o K fr σ)
 |.makeInterface t x=>D6 T t (Bm C n kd o K fr σ) λe=>DC (!(Nat.beq e.kd 5)) (Bm C n kd o K fr σ)<|force (Yi t (ev C.Γ fr x)) λd=>K (CF o.dst d fr) σ
 |.makeFunc f p q=>force (iY f (uJ C.Γ fr p.toList) (uJ C.Γ fr q.toList)) λd=>K (CF o.dst d fr) σ
 |.fieldAddr t x m=>LV T t (ev C.Γ fr x) m σ (λd=>K (CF o.dst d fr) σ) (Bm C n kd o K fr σ)
 |.indexAddr t x ix=>LU T t (ev C.Γ fr x) (ev C.Γ fr ix) σ (λd=>K (CF o.dst d fr) σ) (Bm C n kd o K fr σ)
 |
  .index t x ix=>D6 T t (Bm C n kd o K fr σ) λe=>DC (Nat.beq e.kd 7) (Bm C n kd o K fr σ) (match ev C.Γ fr x,ev C.Γ fr ix with
  |.d (.str s),.d (.int _ i)=>∃j:Nat,i=j/\∃h:j<s.size,K (CF o.dst (.d (.int .u8 (s[j]'h).toNat)) fr) σ
  |_,_=>Bm C n kd o K fr σ)
 |.field t x m=>X9 T t (ev C.Γ fr x) m (λd=>K (CF o.dst d fr) σ) (Bm C n kd o K fr σ)
 |.slice t x lo hi mx=>X5 T t (ev C.Γ fr x) (lo.map (ev C.Γ fr)) (hi.map (ev C.Γ fr)) (mx.map (ev C.Γ fr)) (λd=>K (CF o.dst d fr) σ) (Bm C n kd o K fr σ)
 |
  .extract x m=>(match ev C.Γ fr x with
  |.d (.tuple ds)=>DB (Gk m ds) (Bm C n kd o K fr σ) λd=>K (CF o.dst (.d d) fr) σ
  |.tuple ds=>DB (CP m ds) (Bm C n kd o K fr σ) λd=>force d λd=>K (CF o.dst d fr) σ
  |_=>Bm C n kd o K fr σ)
 |
  .call c=>(match c.callee with
  |
   .builtin .len=>(match c.args.toList,c.argTypes.toList with
   |[x],[t]=>vB T t (ev C.Γ fr x) σ (λd=>K (CF o.dst d fr) σ) (Bm C n kd o K fr σ)
   |_,_=>Bm C n kd o K fr σ)
  |
   .builtin .append=>(match c.args.toList,c.argTypes.toList with
   |[x,y],[t,t']=>DC (Nat.beq t t') (Bm C n kd o K fr σ)<|T9 T t (ev C.Γ fr x) (ev C.Γ fr y) o.dst fr σ (λd fr σ=>K (CF o.dst d fr) σ) (Bm C n kd o K fr σ)
   |_,_=>Bm C n kd o K fr σ)
  |
   .builtin .min=>(match c.args.toList.map (ev C.Γ fr)with
   |[.d (.int k x),.d (.int _ y)]=>K (CF o.dst (.d (.int k (min x y))) fr) σ
   |_=>Bm C n kd o K fr σ)
  |
   .builtin .max=>(match c.args.toList.map (ev C.Γ fr)with
   |[.d (.int k x),.d (.int _ y)]=>K (CF o.dst (.d (.int k (max x y))) fr) σ
   |_=>Bm C n kd o K fr σ)
  |
   .value f=>(match ev C.Γ fr f with
   |.d (.func (.func g) fs cs)=>Cj C (Nat.beq kd 2) g (Ct fs++(uJ C.Γ fr c.args.toList++Ct cs)) (λd fr σ=>K (CF o.dst d fr) σ) fr σ
   |.func (.func g) fs cs=>Cj C (Nat.beq kd 2) g (fs++(uJ C.Γ fr c.args.toList++cs)) (λd fr σ=>K (CF o.dst d fr) σ) fr σ
   |_=>Bm C n kd o K fr σ)
  |_=>Bm C n kd o K fr σ)
 |_=>Bm C n kd o K fr σ
def X8(o:Oper)(l:List Oper)(fr:Fr)(yes no:Fr->Prop):Prop:=match o.guard with
 |none=>yes fr
 |
  some (g,b)=>match(l[g]?).bind (·.dst)with
  |none=>False
  |
   some t=>match get fr t with
   |
    .d (.bool c)=>(match c,b with
    |true,true=>yes fr
    |false,false=>yes fr
    |_,_=>no fr)
   |
    .d (.prop p _)=>(match b with
    |true=>(p->yes ((t,.d (.bool true))::fr))/\(¬p->no ((t,.d (.bool false))::fr))
    |false=>(p->no ((t,.d (.bool true))::fr))/\(¬p->yes ((t,.d (.bool false))::fr)))
   |.d (.tuple [])=>no fr
   |_=>False
def AE3(t:Option Nat)(fr:Fr):Fr:=match t with
 |some t=>(t,.d (.tuple []))::fr
 |none=>fr
def I5(C:Cx)(T:Hh)(n:Nat)(l:List Oper)(ks:List Nat)(K:Fr->Sg->Prop):List Nat->Fr->Sg->Prop
 |[],fr,σ=>K fr σ
 |
  i::p,fr,σ=>match l[i]? with
  |none=>False
  |some o=>X8 o l fr (λfr=>Ty C T n (ks.getD i 3) o (I5 C T n l ks K p) fr σ) (λfr=>DC (Dh o.dst n) False (I5 C T n l ks K p (AE3 o.dst fr) σ))
inductive Plan where
 |leaf (ks p A:List Nat)
 |split (i j:Nat) (x y:Plan)
def I0:Plan->List (List Nat×List Nat)
 |.leaf ks p _=>[(ks,p)]
 |.split _ _ x y=>I0 x++I0 y
def fE:Fr->Fr->Prop
 |[],_=>True
 |(t,d)::l,fr=>get fr t=d/\fE l fr
def yC:Fr->Fr->(Fr->Prop)->Prop
 |[],acc,K=>K acc
 |
  (t,d)::fr,acc,K=>match acc.any (λp=>Nat.beq p.1 t)with
  |true=>yC fr acc K
  |false=>force d λd=>yC fr ((t,d)::acc) K
def X6(C:Cx)(T:Hh)(n:Nat)(l:List Oper)(F:Fr)(Z:Sg)(fr:Fr)(σ:Sg)(k:Prop):List (List Nat×List Nat)->Prop
 |[]=>k
 |(ks,p)::r=>I5 C T n l ks (λfr' σ'=>fE F fr'/\σ'=Z) p fr σ/\X6 C T n l F Z fr σ k r
def fZ(C:Cx)(T:Hh)(n:Nat)(l:List Oper)(K:Fr->Sg->Prop)(pl:Plan)(fr:Fr)(σ:Sg):Prop:=match I0 pl with
 |[]=>False
 |[(ks,p)]=>I5 C T n l ks K p fr σ
 |(ks,p)::r=>I5 C T n l ks (λfr1 σ1=>yC fr1 [] λF=>X6 C T n l F σ1 fr σ (K F σ1) r) p fr σ
def iB(i:Nat):List (Nat×Plan)->Option Plan
 |[]=>none
 |
  (j,p)::l=>match Nat.beq j i with
  |true=>some p
  |false=>iB i l
abbrev KE:=Exit->Fr->Sg->Prop
def AFC(nx:Fr->Sg->Prop)(K:KE):KE:=λe=>match e with
 |.normal=>nx
 |e=>K e
def lJ(id:Nat)(K:KE):KE:=λe=>match e with
 |
  .exit j=>(match Nat.beq j id with
  |true=>K .normal
  |false=>K (.exit j))
 |e=>K e
def oA(c:Operand)(d:Dat)(fr:Fr):Fr:=match c with
 |.tmp t=>(t,d)::fr
 |_=>fr
def En(C:Cx)(T:Hh)(n:Nat)(pl:List (Nat×Plan)):Code->KE->Fr->Sg->Prop
 |.skip,K,fr,σ=>K .normal fr σ
 |
  .region id ops dr,K,fr,σ=>(match dr with
  |false=>I5 C T n ops.toList [] (K .normal) (List.range ops.toList.length) fr σ
  |
   true=>match iB id pl with
   |some p=>fZ C T n ops.toList (K .normal) p fr σ
   |none=>False)
 |.seq a b,K,fr,σ=>En C T n pl a (AFC (En C T n pl b K) K) fr σ
 |.cond c a b,K,fr,σ=>ABi (ev C.Γ fr c) (λd=>En C T n pl a K (oA c d fr) σ) (λd=>En C T n pl b K (oA c d fr) σ) False
 |.block id b,K,fr,σ=>En C T n pl b (lJ id K) fr σ
 |.exit id,K,fr,σ=>K (.exit id) fr σ
 |.label _,K,fr,σ=>K .normal fr σ
 |.ret,K,fr,σ=>K .ret fr σ
 |c,K,fr,σ=>FB C n c K fr σ
def Tx(T:Hh):List ResultVar->Fr->Sg->(List Dat->Prop)->Prop
 |[],_,_,K=>K []
 |.tmp t::l,fr,σ,K=>force (get fr t) λd=>Tx T l fr σ λds=>K (d::ds)
 |.cell t ty::l,fr,σ,K=>X7 T ty (get fr t) σ (λd=>Tx T l fr σ λds=>K (d::ds)) False
def J8(T:Hh)(rs:List ResultVar)(K:Dat->Sg->Prop):KE:=λe fr σ=>match e with
 |
  .normal|.ret=>Tx T rs fr σ λds=>(match ds with
  |[d]=>K d σ
  |ds=>force (nD ds) λd=>K d σ)
 |_=>False
end Go.Sx
namespace Go.Sx
open Go Go.RowKit Go.Reg
def ADx:Value->Value->Bool
 |.int k n,.int k' n'=>decide (k=k')&&decide (n=n')
 |.bool b,.bool c=>b==c
 |.string s,.string t=>decide (s=t)
 |.pointer none,.pointer none=>true
 |.slice none 0 0,.slice none 0 0=>true
 |.map none,.map none=>true
 |.nilFunc,.nilFunc=>true
 |.nilIface,.nilIface=>true
 |_,_=>false
theorem ABa {a b:Value}(h:ADx a b=true):a=b:=by
 unfold ADx at h
 split at h<;>simp at h<;>simp[h]
def VR:List Value->List Value->Bool
 |[],[]=>true
 |a::Aa,b::bs=>ADx a b&&VR Aa bs
 |_,_=>false
theorem YU:∀{a b:List Value},VR a b=true->a=b
 |[],[],_=>rfl
 |
  a::Aa,b::bs,h=>by
  simp only[VR,Ap]at h
  rw[ABa h.1,YU h.2]
 |[],_::_,h=>by simp[VR]at h
 |_::_,[],h=>by simp[VR]at h
mutual
def EC:Da->Option (List Value)
 |.int k n=>some [.int k n]
 |.bool b=>some [.bool b]
 |.str s=>some [.string s]
 |.nilp=>some [.pointer none]
 |.nils=>some [.slice none 0 0]
 |.nilm=>some [.map none]
 |.nilf=>some [.nilFunc]
 |.nili=>some [.nilIface]
 |.agg ds=>MX ds
 |_=>none
def MX:List Da->Option (List Value)
 |[]=>some []
 |
  d::ds=>match EC d,MX ds with
  |some a,some b=>some (a++b)
  |_,_=>none
end
mutual
theorem Sh {O:List Nat} {w:World}:∀(d:Da) (cs:List Value),EC d=some cs->RepC O w d cs
 |.int k n,cs,h=>by simp only[EC,AB]at h;simp only[RepC];exact h.symm
 |.bool b,cs,h=>by simp only[EC,AB]at h;simp only[RepC];exact h.symm
 |.str s,cs,h=>by simp only[EC,AB]at h;simp only[RepC];exact h.symm
 |.nilp,cs,h=>by simp only[EC,AB]at h;simp only[RepC];exact h.symm
 |.nils,cs,h=>by simp only[EC,AB]at h;simp only[RepC];exact h.symm
 |.nilm,cs,h=>by simp only[EC,AB]at h;simp only[RepC];exact h.symm
 |.nilf,cs,h=>by simp only[EC,AB]at h;simp only[RepC];exact h.symm
 |.nili,cs,h=>by simp only[EC,AB]at h;simp only[RepC];exact h.symm
 |.agg ds,cs,h=>by simp only[EC]at h;simp only[RepC];exact PH ds cs h
 |.undef,cs,h=>by simp[EC]at h
 |.prop _ _,cs,h=>by simp[EC]at h
 |.tuple _,cs,h=>by simp[EC]at h
 |.iface _ _,cs,h=>by simp[EC]at h
 |.ref _,cs,h=>by simp[EC]at h
 |.list _ _,cs,h=>by simp[EC]at h
 |.func _ _ _,cs,h=>by simp[EC]at h
 |.raw _,cs,h=>by simp[EC]at h
theorem PH {O:List Nat} {w:World}:∀(ds:List Da) (cs:List Value),MX ds=some cs->RepCs O w ds cs
 |[],cs,h=>by simp only[MX,AB]at h;simp only[RepCs];exact h.symm
 |
  d::ds,cs,h=>by
  simp only[MX]at h
  cases h1:EC d with
  |none=>rw[h1]at h;cases h
  |
   some a=>
   cases h2:MX ds with
   |none=>rw[h1,h2]at h;cases h
   |
    some b=>
    rw[h1,h2]at h
    simp only[AB]at h
    exact⟨a,b,h.symm,Sh d a h1,PH ds b h2⟩
end
def ABb:Value->Bool
 |.agg _=>true
 |_=>false
def tyB(P:Program)(t:TypeId)(e:TyI):Bool:=
 match P.info? t,P.underlying t with
 |some i,some d=>Nat.beq i.size e.size&&Nat.beq i.bytes e.bytes&&
   (match i.zero,EC e.zero with
    |some z,some cs=>VR z.cells.toList cs&&(ABb z==e.agg)
    |_,_=>false)&&((e.zero.isAgg==e.agg)&&Nat.beq e.zero.size e.size)&&
   (match d with
    |.struct fs=>e.agg&&decide (fs.toList.map (λf=>(f.offset,f.type))=e.flds)&&fs.toList.all (λf=>match P.info? f.type with|some i=>Nat.blt 0 i.size|none=>false)
    |.array _ _=>false
    |.slice el=>!e.agg&&Nat.beq el e.elem
    |.int k=>!e.agg&&decide (e.ik=some k)
    |_=>!e.agg)&&
   ((match d with|.int _=>false|_=>true)==e.ik.isNone)&&
   Nat.beq e.kd (match d with|.pointer _=>1|.slice _=>2|.map _ _=>3|.func _ _ _=>4|.interface _=>5|.struct _=>6|.string=>7|.int _=>8|.bool=>9|_=>0)&&
   (!e.cmp||(match d with|.struct fs=>!(P.stoodInHeld t)&&!(P.eqGuardType P.depth t)&&fs.toList.all (λf=>f.name != "_")|_=>false))
 |_,_=>false
def pG(P:Program):Hh->Bool
 |[]=>true
 |(t,e)::l=>tyB P t e&&pG P l
theorem mE {P:Program}:∀{T:Hh},pG P T=true->∀{t:TypeId} {e:TyI},GQ t T=some e->tyB P t e=true
 |[],_,t,e,h=>by simp[GQ]at h
 |
  (u,x)::l,hT,t,e,h=>by
  simp only[pG,Ap]at hT
  rcases BN u t with⟨hb,he⟩|⟨hb,he⟩
  ·simp only[GQ,hb,AB]at h
   subst he;subst h;exact hT.1
  ·simp only[GQ,hb]at h
   exact mE hT.2 h
structure TyOk(P:Program)(t:TypeId)(e:TyI):Prop where
 zsize:e.zero.size=e.size
 cmp:e.cmp=true->∃fs,P.underlying t=some (.struct fs)/\P.stoodInHeld t=false/\P.eqGuardType P.depth t=false/\∀f∈fs.toList,f.name≠ "_"
 info:∃i z,P.info? t=some i/\i.size=e.size/\i.bytes=e.bytes/\i.zero=some z/\z=Ea e.zero z.cells.toList/\(∀O w,RepC O w e.zero z.cells.toList)
 desc:∃d,P.underlying t=some d/\(match d with|.struct _|.array _ _=>true|_=>false)=e.agg/\(∀el,d=.slice el->el=e.elem)/\
  (∀fs,d=.struct fs->fs.toList.map (λf=>(f.offset,f.type))=e.flds/\∀f∈fs.toList,∃i,P.info? f.type=some i/\0<i.size)/\
  (∀n el,d≠.array n el)/\(e.agg=true->∃fs,d=.struct fs)/\(∀k,e.ik=some k->d=.int k)/\e.kd=(match d with|.pointer _=>1|.slice _=>2|.map _ _=>3|.func _ _ _=>4|.interface _=>5|.struct _=>6|.string=>7|.int _=>8|.bool=>9|_=>0)
theorem VG {z:Value} {d:Da} {cs:List Value}(h1:z.cells.toList=cs)(h2:ABb z=d.isAgg)(h3:d.isAgg=false->z=Ea d [z]):z=Ea d cs:=by
 cases z with
 |
  agg xs=>
  cases d<;>first|(simp[Da.isAgg,ABb]at h2;done)|(simp only[Value.cells]at h1;subst h1;simp[Ea])
 |
  _=>
  simp only[Value.cells]at h1
  subst h1
  exact h3 (by simpa[ABb]using h2.symm)
theorem ADy {P:Program} {t:TypeId} {e:TyI}(h:tyB P t e=true):TyOk P t e:=by
 unfold tyB at h
 cases hi:P.info? t with
 |none=>rw[hi]at h;cases h
 |
  some i=>
  cases hd:P.underlying t with
  |none=>rw[hi,hd]at h;cases h
  |
   some d=>
   rw[hi,hd]at h
   simp only[Ap]at h
   obtain⟨⟨⟨⟨⟨⟨⟨h1,h2⟩,h3⟩,h4⟩,h5⟩,h6⟩,h7⟩,h8⟩:=h
   refine⟨by simp only[beq_iff_eq]at h4;exact A0 h4.2,?_,?_,?_⟩
   ·intro hc
    rw[hc]at h8
    simp only[Bool.not_true,Bool.false_or]at h8
    split at h8
    ·rename_i fs
     simp only[Ap,Cm,CU]at h8
     exact⟨fs,hd,h8.1.1,h8.1.2,λf hf=>by simpa using h8.2 f hf⟩
    ·cases h8
   ·cases hz:i.zero with
    |none=>rw[hz]at h3;cases h3
    |
     some z=>
     cases hc:EC e.zero with
     |none=>rw[hz,hc]at h3;cases h3
     |
      some cs=>
      rw[hz,hc]at h3
      simp only[Ap]at h3
      have e1:=YU h3.1
      refine⟨i,z,hi,A0 h1,A0 h2,hz,?_,λO w=>by rw[e1];exact Sh _ _ hc⟩
      rw[e1]
      refine VG e1 ?_ (λhn=>?_)
      ·have h4':e.zero.isAgg=e.agg:=by simp only[beq_iff_eq]at h4;exact h4.1
       rw[h4'];simpa using h3.2
      ·cases hh:e.zero<;>simp[Ea]<;>rw[hh]at hn<;>simp[Da.isAgg]at hn
   ·refine⟨d,hd,?_,?_,?_,?_,?_,?_,?_⟩
    ·cases d<;>simp at h5<;>simp[h5]
    ·rintro el rfl
     simp only[Ap]at h5
     exact A0 h5.2
    ·rintro fs rfl
     simp only[Ap,decide_eq_true_eq,CU]at h5
     refine⟨h5.1.2,λf hf=>?_⟩
     have:=h5.2 f hf
     cases hfi:P.info? f.type with
     |none=>rw[hfi]at this;cases this
     |
      some j=>
      rw[hfi]at this
      exact⟨j,rfl,by simpa[Nat.blt_eq]using this⟩
    ·rintro n el rfl;simp at h5
    ·intro ha
     cases d<;>simp[ha]at h5
     exact⟨_,rfl⟩
    ·intro k hk
     rw[hk]at h6 h5
     cases d<;>simp at h6
     simp at h5
     rw[h5.2]
    ·exact A0 h7
structure Cx.Ok(C:Cx)(T:Hh):Prop where
 tab:pG C.P T=true
 mixed:C.P.follows .mixedOrders=true
theorem Cx.Ok.ty {C:Cx} {T:Hh}(h:C.Ok T) {t:TypeId} {e:TyI}(ht:GQ t T=some e):TyOk C.P t e:=ADy (mE h.tab ht)
section
variable {P:Program} {t:TypeId} {e:TyI}
theorem TyOk.sizeOf(h:TyOk P t e)(w:World):(sizeOf t).run P w=.ok e.size w:=by
 obtain⟨i,z,h1,h2,_⟩:=h.info
 simp[Go.sizeOf,typeInfo,program,Sem.run,h1,h2]
theorem TyOk.isAgg(h:TyOk P t e)(w:World):(isAgg t).run P w=.ok e.agg w:=by
 obtain⟨d,h1,h2,_⟩:=h.desc
 simp only[Go.isAgg,AK,run_underlying h1,AF]
 rw[<-h2]
 cases d<;>simp
theorem TyOk.zero(h:TyOk P t e):∃z,(∀w,(zeroValue t).run P w=.ok z w)/\z=Ea e.zero z.cells.toList/\∀O w,RepC O w e.zero z.cells.toList:=by
 obtain⟨i,z,h1,h2,h3,h4,h5,h6⟩:=h.info
 exact⟨z,λw=>by simp[zeroValue,typeInfo,program,Sem.run,h1,h4],h5,h6⟩
end
section
variable {C:Cx} {B S:List Nat} {w0 w:World} {n:Nat} {fr:Fr} {σ:Sg} {η:Nat->Value} {φ:Nat->List Nat} {a:Act}
abbrev RD(B:List Nat)(σ:Sg)(η:Nat->Value)(φ:Nat->List Nat)(w:World)(d:Dat)(v:Value):Prop:=∃cs,AH η (BA σ) (B++Ao φ σ) w d cs/\v=Ch d cs
theorem Ux(O:List Nat)(w:World)(v:Value):RepC O w (Rk v) [v]:=by
 unfold Rk
 split<;>simp[RepC]
theorem fU(v:Value):Ea (Rk v) [v]=v:=by
 unfold Rk
 split<;>simp[Ea]
theorem rF(O:List Nat)(w:World)(v:Value):∃cs,RepC O w (mX v) cs/\v=Ea (mX v) cs:=by
 unfold mX
 split
 ·rename_i cs
  refine⟨cs.toList,?_,by simp[Ea]⟩
  simp only[RepC]
  generalize cs.toList=l
  induction l with
  |nil=>simp[RepCs]
  |cons x l ih=>exact⟨[x],l,rfl,Ux O w x,ih⟩
 ·exact⟨[v],Ux O w v,(fU v).symm⟩
theorem bW {O:List Nat} {w:World} {g:Nat}:∀{Γ:List (Nat×Da)},(∀p∈Γ,Rep O w (.ref p.2) (.pointer (some ⟨p.1,0,none⟩)))->∃cs,RepC O w (glob g Γ) cs/\Value.pointer (some ⟨g,0,none⟩)=Ea (glob g Γ) cs
 |[],_=>⟨[.pointer (some ⟨g,0,none⟩)],by simp[glob,RepC],by simp[glob,Ea]⟩
 |
  (h,x)::Γ,hh=>by
  rcases BN h g with⟨hb,he⟩|⟨hb,he⟩
  ·simp only[glob,hb]
   have:=hh (h,x) (by simp)
   subst he;exact this
  ·simp only[glob,hb]
   exact bW (λp hp=>hh p (A9 _ hp))
theorem Bb(h:Models C B S w0 n fr σ η φ a w)(x:Operand):RD B σ η φ w (ev C.Γ fr x) (a.eval x):=by
 cases x with
 |tmp t=>obtain⟨cs,h1,h2⟩:=h.fr t;exact⟨cs,h1,h2⟩
 |const v=>obtain⟨cs,h1,h2⟩:=rF (B++Ao φ σ) w v;exact⟨cs,h1,h2⟩
 |«global» g=>obtain⟨cs,h1,h2⟩:=bW (g:=g) (λp hp=>(h.mem.glob p hp).1);exact⟨cs,h1,h2⟩
 |func f=>exact⟨[.func (.func f) #[] #[]],by simp[ev,AH,RepC,Aq],by simp[ev,Ch,Ea,Act.eval]⟩
theorem Te(h:Models C B S w0 n fr σ η φ a w):∀xs:List Operand,∃css,AE η (BA σ) (B++Ao φ σ) w (uJ C.Γ fr xs) css/\xs.map a.eval=List.zipWith Ch (uJ C.Γ fr xs) css
 |[]=>⟨[],by simp[uJ,AE],by simp[uJ]⟩
 |
  x::xs=>by
  obtain⟨cs,h1,h2⟩:=Bb h x
  obtain⟨css,h3,h4⟩:=Te h xs
  exact⟨cs::css,⟨cs,css,rfl,h1,h3⟩,by simp[uJ,h2,h4]⟩
theorem Models.put(h:Models C B S w0 n fr σ η φ a w) {t:Option Nat}(ht:Dh t n=true) {d:Dat} {v:Value}(hd:RD B σ η φ w d v):Models C B S w0 n (CF t d fr) σ η φ (a.put t v) w:=by
 obtain⟨cs,h1,h2⟩:=hd
 cases t with
 |none=>exact h
 |
  some t=>
  have:t<a.tmps.size:=by rw[h.size];simpa[Dh,Nat.blt_eq]using ht
  exact⟨h.mem,h.fr.put this h1 h2,h.defers,by simp[Act.put,h.size]⟩
theorem RD.d {x:Da} {v:Value}(h:RD B σ η φ w (.d x) v):Rep (B++Ao φ σ) w x v:=h
theorem CC {kd:Nat} {o:Oper} {K:Fr->Sg->Prop}(hk:kd≠5)(hk2:kd≠2)(h:∀(B S:List Nat) (w0:World) (η:Nat->Value) (φ:Nat->List Nat) (a:Act) (w:World),Models C B S w0 n fr σ η φ a w->
  (kd=0->BG a o=true)/\((∃v w',(execOp a.eval o).run C.P w=.ok (.value v) w'/\J4 C B S w0 n K (a.put o.dst v) w')\/(∃w',(execOp a.eval o).run C.P w=.ok .skip w'/\J4 C B S w0 n K (a.put o.dst Go.undef) w'))):Bm C n kd o K fr σ:=by
 unfold Bm
 intro B S w0 η φ a w hm
 obtain⟨h0,h1⟩:=h B S w0 η φ a w hm
 have hw:o.wp C.P a w (J4 C B S w0 n K) No:=by
  rcases h1 with⟨v,w',hr,hg⟩|⟨w',hr,hg⟩
  ·exact Xy hr hg
  ·exact uL hr hg
 split
 ·exact⟨h0 rfl,hw⟩
 ·exact absurd rfl hk
 ·exact absurd rfl hk2
 ·exact hw
theorem UT {K:Fr->Sg->Prop} {o:Oper}(h:Models C B S w0 n fr σ η φ a w)(ht:Dh o.dst n=true) {d:Dat} {v:Value}(hd:RD B σ η φ w d v)(hK:K (CF o.dst d fr) σ):J4 C B S w0 n K (a.put o.dst v) w:=
 ⟨_,σ,η,φ,h.put ht hd,hK⟩
end
end Go.Sx
namespace Go.Sx
open Go Go.RowKit Go.Reg
section
variable {C:Cx} {T:Hh} {B S:List Nat} {w0 w:World} {n:Nat} {fr:Fr} {σ:Sg} {η:Nat->Value} {φ:Nat->List Nat} {a:Act} {v vx vy:Value} {no:Prop}
theorem RD.int {k:IntKind} {m:Int}(h:RD B σ η φ w (.d (.int k m)) v):v=.int k m:=by
 obtain⟨cs,h1,h2⟩:=h;simp only[AH,RepC]at h1;subst h1;exact h2
theorem RD.bool {b:Bool}(h:RD B σ η φ w (.d (.bool b)) v):v=.bool b:=by
 obtain⟨cs,h1,h2⟩:=h;simp only[AH,RepC]at h1;subst h1;exact h2
theorem RD.prop {p:Prop} {i:Decidable p}(h:RD B σ η φ w (.d (.prop p i)) v):v=.bool (decide p):=by
 obtain⟨cs,h1,h2⟩:=h;simp only[AH,RepC]at h1;subst h1;exact h2
theorem RD.str {s:ByteArray}(h:RD B σ η φ w (.d (.str s)) v):v=.string s:=by
 obtain⟨cs,h1,h2⟩:=h;simp only[AH,RepC]at h1;subst h1;exact h2
theorem RD.nilp(h:RD B σ η φ w (.d .nilp) v):v=.pointer none:=by
 obtain⟨cs,h1,h2⟩:=h;simp only[AH,RepC]at h1;subst h1;exact h2
theorem RD.nils(h:RD B σ η φ w (.d .nils) v):v=.slice none 0 0:=by
 obtain⟨cs,h1,h2⟩:=h;simp only[AH,RepC]at h1;subst h1;exact h2
theorem RD.nilm(h:RD B σ η φ w (.d .nilm) v):v=.map none:=by
 obtain⟨cs,h1,h2⟩:=h;simp only[AH,RepC]at h1;subst h1;exact h2
theorem RD.nilf(h:RD B σ η φ w (.d .nilf) v):v=.nilFunc:=by
 obtain⟨cs,h1,h2⟩:=h;simp only[AH,RepC]at h1;subst h1;exact h2
theorem RD.nili(h:RD B σ η φ w (.d .nili) v):v=.nilIface:=by
 obtain⟨cs,h1,h2⟩:=h;simp only[AH,RepC]at h1;subst h1;exact h2
theorem Fz(k:IntKind)(m:Int):RD B σ η φ w (.d (.int k m)) (.int k m):=⟨[_],by simp[AH,RepC],rfl⟩
theorem Ng(b:Bool):RD B σ η φ w (.d (.bool b)) (.bool b):=⟨[_],by simp[AH,RepC],rfl⟩
theorem Gs(p:Prop)(i:Decidable p):RD B σ η φ w (.d (.prop p i)) (.bool (decide p)):=⟨[_],by simp[AH,RepC],rfl⟩
theorem AD5(s:ByteArray):RD B σ η φ w (.d (.str s)) (.string s):=⟨[_],by simp[AH,RepC],rfl⟩
def fG(P:Program)(op:BinOp)(t:TypeId)(vx vy:Value)(w:World)(B:List Nat)(σ:Sg)(η:Nat->Value)(φ:Nat->List Nat)(K:Dat->Prop):Prop:=
 ∃d v,K d/\(binOp op t vx vy).run P w=.ok v w/\RD B σ η φ w d v
theorem XA(s t:ByteArray):(s.toList==t.toList)=decide (s=t):=by
 by_cases h:s=t
 ·subst h;simp
 ·have:s.toList≠t.toList:=λe=>h (by
   rw[ByteArray.toList_eq,ByteArray.toList_eq]at e
   cases s;cases t;simp at e;simp[e])
  simp[h,this]
theorem vC {P:Program} {op:BinOp} {t:TypeId} {k:IntKind} {x y:Int} {K:Dat->Prop}(h:vD op k x y K no):no\/(fG P op t (.int k x) (.int k y) w B σ η φ K/\yF op=true):=by
 unfold vD at h
 split at h
 ·obtain⟨m,h1,h2⟩:=h;exact .inr ⟨⟨_,_,h2,by simp[binOp_add,Op.intArith,h1],Fz k m⟩,rfl⟩
 ·obtain⟨m,h1,h2⟩:=h;exact .inr ⟨⟨_,_,h2,by simp[binOp_sub,Op.intArith,h1],Fz k m⟩,rfl⟩
 ·obtain⟨m,h1,h2⟩:=h;exact .inr ⟨⟨_,_,h2,by simp[binOp_mul,Op.intArith,h1],Fz k m⟩,rfl⟩
 ·obtain⟨h0,m,h1,h2⟩:=h;exact .inr ⟨⟨_,_,h2,by simp[binOp_quo,Op.intDiv,h0,h1],Fz k m⟩,rfl⟩
 ·obtain⟨h0,h2⟩:=h;exact .inr ⟨⟨_,_,h2,by simp[binOp_rem,Op.intDiv,h0],Fz k _⟩,rfl⟩
 ·exact .inr ⟨⟨_,_,h,by simp only[binOp_eql,Bo];rfl,Gs _ _⟩,rfl⟩
 ·exact .inr ⟨⟨_,_,h,by simp only[binOp_neq,Bo];congr 2;by_cases e:x=y<;>simp[bne,e],Gs _ _⟩,rfl⟩
 ·exact .inr ⟨⟨_,_,h,by simp only[binOp_lss,Bo],Gs _ _⟩,rfl⟩
 ·exact .inr ⟨⟨_,_,h,by simp only[binOp_leq,Bo],Gs _ _⟩,rfl⟩
 ·exact .inr ⟨⟨_,_,h,by simp only[binOp_gtr,Bo],Gs _ _⟩,rfl⟩
 ·exact .inr ⟨⟨_,_,h,by simp only[binOp_geq,Bo],Gs _ _⟩,rfl⟩
 ·exact .inl h
theorem uV {P:Program} {op:BinOp} {t:TypeId} {x y:ByteArray} {K:Dat->Prop}(h:uW op x y K no):no\/fG P op t (.string x) (.string y) w B σ η φ K:=by
 unfold uW at h
 split at h
 ·exact .inr ⟨_,_,h,by rw[binOp_string_eql,XA];rfl,Gs _ _⟩
 ·exact .inr ⟨_,_,h,by rw[binOp_string_neq,XA];simp only[Bo];congr 2;simp,Gs _ _⟩
 ·obtain⟨h1,h2⟩:=h;exact .inr ⟨_,_,h2,by rw[binOp_string_add];exact run_string_add_sum _ _ _ h1,AD5 _⟩
 ·exact .inl h
theorem KX {P:Program} {op:BinOp} {t:TypeId} {x y:Bool} {p q:Prop} {ip:Decidable p} {iq:Decidable q}(hp:x=decide p)(hq:y=decide q)(ht:P.underlying t=some .bool) {K:Dat->Prop}(h:Nd op p q K no):no\/(fG P op t (.bool x) (.bool y) w B σ η φ K/\N7 op=true):=by
 subst hp;subst hq
 unfold Nd at h
 split at h
 ·refine .inr ⟨⟨_,_,h,?_,Gs _ _⟩,rfl⟩
  simp only[binOp,AK,run_equal_bool w t _ _ ht,AF,Bo]
  congr 2
  by_cases h1:p<;>by_cases h2:q<;>simp[h1,h2]
 ·refine .inr ⟨⟨_,_,h,?_,Gs _ _⟩,rfl⟩
  simp only[binOp,AK,run_equal_bool w t _ _ ht,AF,Bo]
  congr 2
  by_cases h1:p<;>by_cases h2:q<;>simp[h1,h2]
 ·exact .inl h
theorem TyOk.kd_desc {P:Program} {t:TypeId} {e:TyI}(h:TyOk P t e):∃d,P.underlying t=some d/\e.kd=(match d with|.pointer _=>1|.slice _=>2|.map _ _=>3|.func _ _ _=>4|.interface _=>5|.struct _=>6|.string=>7|.int _=>8|.bool=>9|_=>0):=by
 obtain⟨d,h1,_,_,_,_,_,_,h2⟩:=h.desc
 exact⟨d,h1,h2⟩
theorem TyOk.bool_desc {P:Program} {t:TypeId} {e:TyI}(h:TyOk P t e)(hk:e.kd=9):P.underlying t=some .bool:=by
 obtain⟨d,h1,h2⟩:=h.kd_desc
 rw[hk]at h2
 cases d<;>first|exact h1|(simp at h2;done)
def EW:Nat->Value->Prop
 |1,v=>v=.pointer none
 |2,v=>v=.slice none 0 0
 |3,v=>v=.map none
 |4,v=>v=.nilFunc
 |5,v=>v=.nilIface
 |_,_=>False
def Fp:Nat->Value->Prop
 |1,v=>∃a,v=.pointer (some a)
 |2,v=>∃a l c,v=.slice (some a) l c
 |3,v=>∃a,v=.map (some a)
 |4,v=>∃f p q,v=.func f p q
 |5,v=>∃t u,v=.iface t u
 |_,_=>False
theorem Sy {kd:Nat} {y:Dat}(h:UM kd y=true)(hy:RD B σ η φ w y vy):EW kd vy:=by
 unfold UM at h
 split at h
 ·exact hy.nilp
 ·exact hy.nils
 ·exact hy.nilm
 ·exact hy.nilf
 ·exact hy.nili
 ·cases h
theorem DX(hm:Mem C B S w0 σ η φ w) {i:Nat} {t:TypeId} {ds:List Dat}(h:BI i σ=some (.cells t ds)):∃b cs,η i=.pointer (some ⟨b,0,none⟩)/\φ i=[b]/\IV w b t cs/\B6 η (BA σ) (B++Ao φ σ) w ds cs:=by
 obtain⟨b,cs,h1,h2,h3,h4⟩:=hm.own _ (AQ h)
 exact⟨b,cs,h1,h2,h3,h4⟩
theorem BV(hm:Mem C B S w0 σ η φ w) {i:Nat} {E k:Nat} {ds:List Da}(h:BI i σ=some (.slice E k ds)):∃css,Sl E k id w (η i) css/\φ i=(η i).ownBlock.toList/\Aq (B++Ao φ σ) w ds css/\(∀x∈css,ER k x):=by
 obtain⟨css,h1,h2,h3,h4⟩:=hm.own _ (AQ h)
 exact⟨css,h1,h2,h3,h4⟩
theorem De {O:List Nat} {w:World}:∀{ds:List Da} {css:List (List Value)},Aq O w ds css->css.length=ds.length
 |[],css,h=>by simp only[Aq]at h;subst h;rfl
 |
  d::ds,css,h=>by
  simp only[Aq]at h
  obtain⟨c1,c2,rfl,_,h3⟩:=h
  simp[De h3]
theorem aG(hm:Mem C B S w0 σ η φ w) {kd:Nat} {x:Dat} {b:Bool}(h:yG kd x σ=some b)(hx:RD B σ η φ w x vx):(b=true/\EW kd vx)\/(b=false/\Fp kd vx):=by
 unfold yG at h
 split at h
 ·split at h
  ·simp at h;exact .inl ⟨h,hx.nilp⟩
  ·simp at h
   obtain⟨cs,h1,h2⟩:=hx
   simp only[AH,RepC]at h1
   obtain⟨bb,o,c,rfl,_⟩:=h1
   exact .inr ⟨h,_,h2⟩
  ·simp at h
   obtain⟨cs,h1,h2⟩:=hx
   simp only[AH]at h1
   obtain⟨_,bb,_,rfl⟩:=h1
   exact .inr ⟨h,_,h2⟩
  ·simp at h
   obtain⟨cs,h1,h2⟩:=hx
   simp only[AH]at h1
   obtain⟨_,bb,l,c,_,rfl⟩:=h1
   exact .inr ⟨h,_,h2⟩
  ·split at h
   ·rename_i hg
    simp at h
    obtain⟨bb,cs,h1,_⟩:=DX hm hg
    obtain⟨cs',h3,h4⟩:=hx
    simp only[AH]at h3
    obtain⟨_,rfl⟩:=h3
    refine .inr ⟨h,_,h4.trans h1⟩
   ·cases h
  ·cases h
 ·split at h
  ·simp at h;exact .inl ⟨h,hx.nils⟩
  ·simp at h
   obtain⟨cs,h1,h2⟩:=hx
   simp only[AH,RepC]at h1
   obtain⟨aa,c,css,rfl,_,_,_,_,h6⟩:=h1
   rcases h6 with h6|⟨b,o,rfl,_⟩
   ·cases h6
   ·exact .inr ⟨h,_,_,_,h2⟩
  ·split at h
   ·rename_i hg
    simp at h
    obtain⟨css,hs,_,hr,_⟩:=BV hm hg
    obtain⟨cs',h3,h4⟩:=hx
    simp only[AH]at h3
    obtain⟨_,rfl⟩:=h3
    have hl:=De hr
    rcases hs.shape with⟨_,he⟩|⟨g,cap,he,_⟩
    ·rw[he]at hl;simp at hl
    ·exact .inr ⟨h,_,_,_,h4.trans he⟩
   ·cases h
  ·cases h
 ·split at h
  ·simp at h;exact .inl ⟨h,hx.nilm⟩
  ·cases h
 ·split at h
  ·simp at h;exact .inl ⟨h,hx.nilf⟩
  ·simp at h
   obtain⟨cs,h1,h2⟩:=hx
   simp only[AH,RepC]at h1
   obtain⟨fs,c,_,_,rfl⟩:=h1
   exact .inr ⟨h,_,_,_,h2⟩
  ·simp at h
   obtain⟨cs,h1,h2⟩:=hx
   simp only[AH]at h1
   obtain⟨fs,c,_,_,rfl⟩:=h1
   exact .inr ⟨h,_,_,_,h2⟩
  ·cases h
 ·split at h
  ·simp at h;exact .inl ⟨h,hx.nili⟩
  ·simp at h
   obtain⟨cs,h1,h2⟩:=hx
   simp only[AH,RepC]at h1
   obtain⟨c,_,rfl⟩:=h1
   exact .inr ⟨h,_,_,h2⟩
  ·simp at h
   obtain⟨cs,h1,h2⟩:=hx
   simp only[AH]at h1
   obtain⟨c,_,rfl⟩:=h1
   exact .inr ⟨h,_,_,h2⟩
  ·cases h
 ·cases h
theorem R8 {P:Program} {t:TypeId} {e:TyI}(ht:TyOk P t e) {b:Bool}(hx:(b=true/\EW e.kd vx)\/(b=false/\Fp e.kd vx))(hy:EW e.kd vy):(Op.equal t vx vy).run P w=.ok b w:=by
 obtain⟨d,h1,h2⟩:=ht.kd_desc
 unfold Op.equal
 rw[show Op.maxDepth=9999+1 from rfl,Op.equalIn]
 simp only[AK,run_underlying h1,AF]
 rcases hx with⟨rfl,hx⟩|⟨rfl,hx⟩
 ·cases d<;>simp only at h2<;>rw[h2]at hx hy<;>simp only[EW]at hx hy<;>subst hx<;>subst hy<;>rfl
 ·cases d<;>simp only at h2<;>rw[h2]at hx hy<;>simp only[EW,Fp]at hx hy<;>subst hy<;>(first|(obtain⟨_,rfl⟩:=hx;rfl)|(obtain⟨_,_,rfl⟩:=hx;rfl)|(obtain⟨_,_,_,rfl⟩:=hx;rfl))
theorem uY(hm:Mem C B S w0 σ η φ w) {t:TypeId} {e:TyI}(ht:TyOk C.P t e) {op:BinOp} {x y:Dat}(hx:RD B σ η φ w x vx)(hy:RD B σ η φ w y vy) {K:Dat->Prop}(h:uZ e.kd op x y σ K no):
  no\/(fG C.P op t vx vy w B σ η φ K/\N7 op=true/\(EW e.kd vx\/Fp e.kd vx)/\EW e.kd vy):=by
 unfold uZ at h
 split at h
 ·rename_i h1 h2
  have g1:=Sy h1 hy
  have g2:=aG hm h2 hx
  have g3:=R8 (w:=w) ht g2 g1
  refine .inr ⟨⟨_,_,h,?_,Ng _⟩,rfl,g2.elim (λh=>.inl h.2) (λh=>.inr h.2),g1⟩
  have:binOp .eql t vx vy=(do pure (.bool (<-Op.equal t vx vy))):=by
   generalize e.kd=kd at g1 g2
   match kd,g1 with
   |1,h=>simp only[EW]at h;subst h;rcases g2 with⟨_,g⟩|⟨_,g⟩<;>simp only[EW,Fp]at g<;>(first|subst g|(obtain⟨_,rfl⟩:=g))<;>rfl
   |2,h=>simp only[EW]at h;subst h;rcases g2 with⟨_,g⟩|⟨_,g⟩<;>simp only[EW,Fp]at g<;>(first|subst g|(obtain⟨_,_,_,rfl⟩:=g))<;>rfl
   |3,h=>simp only[EW]at h;subst h;rcases g2 with⟨_,g⟩|⟨_,g⟩<;>simp only[EW,Fp]at g<;>(first|subst g|(obtain⟨_,rfl⟩:=g))<;>rfl
   |4,h=>simp only[EW]at h;subst h;rcases g2 with⟨_,g⟩|⟨_,g⟩<;>simp only[EW,Fp]at g<;>(first|subst g|(obtain⟨_,_,_,rfl⟩:=g))<;>rfl
   |5,h=>simp only[EW]at h;subst h;rcases g2 with⟨_,g⟩|⟨_,g⟩<;>simp only[EW,Fp]at g<;>(first|subst g|(obtain⟨_,_,rfl⟩:=g))<;>rfl
  rw[this]
  simp[g3]
 ·rename_i h1 h2
  have g1:=Sy h1 hy
  have g2:=aG hm h2 hx
  have g3:=R8 (w:=w) ht g2 g1
  refine .inr ⟨⟨_,_,h,?_,Ng _⟩,rfl,g2.elim (λh=>.inl h.2) (λh=>.inr h.2),g1⟩
  have:binOp .neq t vx vy=(do pure (.bool (!(<-Op.equal t vx vy)))):=by
   generalize e.kd=kd at g1 g2
   match kd,g1 with
   |1,h=>simp only[EW]at h;subst h;rcases g2 with⟨_,g⟩|⟨_,g⟩<;>simp only[EW,Fp]at g<;>(first|subst g|(obtain⟨_,rfl⟩:=g))<;>rfl
   |2,h=>simp only[EW]at h;subst h;rcases g2 with⟨_,g⟩|⟨_,g⟩<;>simp only[EW,Fp]at g<;>(first|subst g|(obtain⟨_,_,_,rfl⟩:=g))<;>rfl
   |3,h=>simp only[EW]at h;subst h;rcases g2 with⟨_,g⟩|⟨_,g⟩<;>simp only[EW,Fp]at g<;>(first|subst g|(obtain⟨_,rfl⟩:=g))<;>rfl
   |4,h=>simp only[EW]at h;subst h;rcases g2 with⟨_,g⟩|⟨_,g⟩<;>simp only[EW,Fp]at g<;>(first|subst g|(obtain⟨_,_,_,rfl⟩:=g))<;>rfl
   |5,h=>simp only[EW]at h;subst h;rcases g2 with⟨_,g⟩|⟨_,g⟩<;>simp only[EW,Fp]at g<;>(first|subst g|(obtain⟨_,_,rfl⟩:=g))<;>rfl
  rw[this]
  simp[g3]
 ·exact .inl h
theorem BO {t:TypeId} {K:TyI->Prop}(h:D6 T t no K):no\/∃e,GQ t T=some e/\K e:=by
 unfold D6 at h
 split at h
 ·rename_i e he;exact .inr ⟨e,he,h⟩
 ·exact .inl h
theorem Bz {α:Type} {o:Option α} {K:α->Prop}(h:DB o no K):no\/∃x,o=some x/\K x:=by
 unfold DB at h
 split at h
 ·rename_i x;exact .inr ⟨x,rfl,h⟩
 ·exact .inl h
theorem B9 {b:Bool} {K:Prop}(h:DC b no K):no\/(b=true/\K):=by
 cases b
 ·exact .inl h
 ·exact .inr ⟨rfl,h⟩
theorem kQ {P:Program} {op:BinOp} {t:TypeId} {x y:Operand} {kd:Nat}(hx:EW kd vx\/Fp kd vx)(hy:EW kd vy)(hc:kd=5->y=.const .nilIface):(eqGuard op t x y vx vy).run P w=.ok () w:=by
 match kd,hy with
 |1,h=>simp only[EW,Fp]at h hx;subst h;rcases hx with rfl|⟨_,rfl⟩<;>simp[eqGuard]
 |2,h=>simp only[EW,Fp]at h hx;subst h;rcases hx with rfl|⟨_,_,_,rfl⟩<;>simp[eqGuard]
 |3,h=>simp only[EW,Fp]at h hx;subst h;rcases hx with rfl|⟨_,rfl⟩<;>simp[eqGuard]
 |4,h=>simp only[EW,Fp]at h hx;subst h;rcases hx with rfl|⟨_,_,_,rfl⟩<;>simp[eqGuard]
 |5,h=>simp only[EW,Fp]at h hx;subst h;rw[hc rfl];rcases hx with rfl|⟨_,_,rfl⟩<;>simp[eqGuard]
theorem qP {op:BinOp} {kd:Nat} {y:Operand}(ho:N7 op=true)(hx:EW kd vx\/Fp kd vx)(hy:EW kd vy)(hc:kd=5->y=.const .nilIface):(F0 op vx vy||Lp op vx y)=true:=by
 match kd,hy with
 |1,h=>simp only[EW,Fp]at h hx;subst h;rcases hx with rfl|⟨_,rfl⟩<;>simp[F0,ho]
 |2,h=>simp only[EW,Fp]at h hx;subst h;rcases hx with rfl|⟨_,_,_,rfl⟩<;>simp[F0,ho]
 |3,h=>simp only[EW,Fp]at h hx;subst h;rcases hx with rfl|⟨_,rfl⟩<;>simp[F0,ho]
 |4,h=>simp only[EW,Fp]at h hx;subst h;rcases hx with rfl|⟨_,_,_,rfl⟩<;>simp[F0,ho]
 |5,h=>simp only[EW,Fp]at h hx;subst h;rw[hc rfl];rcases hx with rfl|⟨_,_,rfl⟩<;>simp[F0,Lp,ho]
theorem vE(hC:C.Ok T)(hm:Mem C B S w0 σ η φ w) {op:BinOp} {t:TypeId} {x y:Dat} {yo xo:Operand}(hx:RD B σ η φ w x vx)(hy:RD B σ η φ w y vy) {K:Dat->Prop}(h:vF T t op (Ys yo) x y σ K no):
  no\/(∃d v,K d/\(do eqGuard op t xo yo vx vy;binOp op t vx vy).run C.P w=.ok v w/\RD B σ η φ w d v)/\(F0 op vx vy||Lp op vx yo)=true:=by
 have fin:∀{vx vy},fG C.P op t vx vy w B σ η φ K->(eqGuard op t xo yo vx vy).run C.P w=.ok () w->(F0 op vx vy||Lp op vx yo)=true->no\/(∃d v,K d/\(do eqGuard op t xo yo vx vy;binOp op t vx vy).run C.P w=.ok v w/\RD B σ η φ w d v)/\(F0 op vx vy||Lp op vx yo)=true:=by
  rintro vx vy ⟨d,v,h1,h2,h3⟩ hg hp
  exact .inr ⟨⟨d,v,h1,by rw[AK,hg];exact h2,h3⟩,hp⟩
 have hb:∀b:Bool,b=decide (b=true):=by simp
 unfold vF at h
 split at h
 ·rcases B9 h with h|⟨hk,h1⟩
  ·exact .inl h
  ·simp at hk;subst hk
   rw[hx.int,hy.int]
   rcases vC (w:=w) (B:=B) (σ:=σ) (η:=η) (φ:=φ) (P:=C.P) (t:=t) h1 with h|⟨h,h2⟩
   ·exact .inl h
   ·exact fin h (by rw[eqGuard_at_int];rfl) (by simp[F0])
 ·rw[hx.str,hy.str]
  rcases uV (w:=w) (B:=B) (σ:=σ) (η:=η) (φ:=φ) (P:=C.P) (t:=t) h with h|h
  ·exact .inl h
  ·exact fin h (by rw[eqGuard_at_string];rfl) (by simp[F0])
 ·rcases BO h with h|⟨e,he,h⟩
  ·exact .inl h
  rcases B9 h with h|⟨hk,h⟩
  ·exact .inl h
  rw[hx.bool,hy.bool]
  rcases KX (w:=w) (B:=B) (σ:=σ) (η:=η) (φ:=φ) (P:=C.P) (t:=t) (hb _) (hb _) ((hC.ty he).bool_desc (A0 hk)) h with h|⟨h,h2⟩
  ·exact .inl h
  ·exact fin h (by rw[eqGuard_at_bool];rfl) (by simp[F0,h2])
 ·rcases BO h with h|⟨e,he,h⟩
  ·exact .inl h
  rcases B9 h with h|⟨hk,h⟩
  ·exact .inl h
  rw[hx.bool,hy.prop]
  rcases KX (w:=w) (B:=B) (σ:=σ) (η:=η) (φ:=φ) (P:=C.P) (t:=t) (hb _) rfl ((hC.ty he).bool_desc (A0 hk)) h with h|⟨h,h2⟩
  ·exact .inl h
  ·exact fin h (by rw[eqGuard_at_bool];rfl) (by simp[F0,h2])
 ·rcases BO h with h|⟨e,he,h⟩
  ·exact .inl h
  rcases B9 h with h|⟨hk,h⟩
  ·exact .inl h
  rw[hx.prop,hy.bool]
  rcases KX (w:=w) (B:=B) (σ:=σ) (η:=η) (φ:=φ) (P:=C.P) (t:=t) rfl (hb _) ((hC.ty he).bool_desc (A0 hk)) h with h|⟨h,h2⟩
  ·exact .inl h
  ·exact fin h (by rw[eqGuard_at_bool];rfl) (by simp[F0,h2])
 ·rcases BO h with h|⟨e,he,h⟩
  ·exact .inl h
  rcases B9 h with h|⟨hk,h⟩
  ·exact .inl h
  rw[hx.prop,hy.prop]
  rcases KX (w:=w) (B:=B) (σ:=σ) (η:=η) (φ:=φ) (P:=C.P) (t:=t) rfl rfl ((hC.ty he).bool_desc (A0 hk)) h with h|⟨h,h2⟩
  ·exact .inl h
  ·exact fin h (by rw[eqGuard_at_bool];rfl) (by simp[F0,h2])
 ·rcases BO h with h|⟨e,he,h⟩
  ·exact .inl h
  rcases B9 h with h|⟨hk,h⟩
  ·exact .inl h
  have hc:e.kd=5->yo=.const .nilIface:=λh5=>by
   rw[h5]at hk
   have:Ys yo=true:=by simpa using hk
   unfold Ys at this
   split at this
   ·rfl
   ·cases this
  rcases uY hm (hC.ty he) hx hy h with h|⟨h,h2,h3,h4⟩
  ·exact .inl h
  ·exact fin h (kQ h3 h4 hc) (qP h2 h3 h4 hc)
theorem ABh {P:Program} {op:UnOp} {x:Dat}(hx:RD B σ η φ w x vx) {K:Dat->Prop}(h:ADz op x K no):no\/∃d v,K d/\(Op.unary op vx).run P w=.ok v w/\RD B σ η φ w d v:=by
 unfold ADz at h
 split at h
 ·rw[hx.bool];exact .inr ⟨_,_,h,rfl,Ng _⟩
 ·rw[hx.prop];exact .inr ⟨_,_,h,by simp[Op.unary],Gs _ _⟩
 ·rw[hx.int];obtain⟨m,h1,h2⟩:=h;exact .inr ⟨_,_,h2,by simp[Op.unary,Op.intArith,h1],Fz _ _⟩
 ·exact .inl h
end
end Go.Sx
namespace Go.Sx
open Go Go.RowKit Go.Reg
mutual
theorem FF {O:List Nat} {w:World}:∀(d:Da) (cs:List Value),RepC O w d cs->cs.length=d.size
 |.agg ds,cs,h=>by simp only[RepC]at h;simp only[Da.size];exact Wo ds cs h
 |.undef,cs,h=>by simp only[RepC]at h;obtain⟨v,rfl⟩:=h;rfl
 |.int _ _,cs,h=>by simp only[RepC]at h;subst h;rfl
 |.bool _,cs,h=>by simp only[RepC]at h;subst h;rfl
 |.prop _ _,cs,h=>by simp only[RepC]at h;subst h;rfl
 |.str _,cs,h=>by simp only[RepC]at h;subst h;rfl
 |.tuple _,cs,h=>by simp only[RepC]at h;obtain⟨_,_,rfl⟩:=h;rfl
 |.nilp,cs,h=>by simp only[RepC]at h;subst h;rfl
 |.nils,cs,h=>by simp only[RepC]at h;subst h;rfl
 |.nilm,cs,h=>by simp only[RepC]at h;subst h;rfl
 |.nilf,cs,h=>by simp only[RepC]at h;subst h;rfl
 |.nili,cs,h=>by simp only[RepC]at h;subst h;rfl
 |.iface _ _,cs,h=>by simp only[RepC]at h;obtain⟨_,_,rfl⟩:=h;rfl
 |.ref _,cs,h=>by simp only[RepC]at h;obtain⟨_,_,_,rfl,_⟩:=h;rfl
 |.list _ _,cs,h=>by simp only[RepC]at h;obtain⟨_,_,_,rfl,_⟩:=h;rfl
 |.func _ _ _,cs,h=>by simp only[RepC]at h;obtain⟨_,_,_,_,rfl⟩:=h;rfl
 |.raw _,cs,h=>by simp only[RepC]at h;subst h;rfl
theorem Wo {O:List Nat} {w:World}:∀(ds:List Da) (cs:List Value),RepCs O w ds cs->cs.length=mK ds
 |[],cs,h=>by simp only[RepCs]at h;subst h;rfl
 |
  d::ds,cs,h=>by
  simp only[RepCs]at h
  obtain⟨c1,c2,rfl,h1,h2⟩:=h
  simp only[Ah,mK,FF d c1 h1,Wo ds c2 h2]
end
mutual
theorem EL {η:Nat->Value} {I O:List Nat} {w:World}:∀(d:Dat) (cs:List Value),AH η I O w d cs->cs.length=d.size
 |.d x,cs,h=>FF x cs h
 |.agg ds,cs,h=>by simp only[AH]at h;simp only[Dat.size];exact Ko ds cs h
 |.own _,cs,h=>by simp only[AH]at h;obtain⟨_,rfl⟩:=h;rfl
 |.at_ _ _,cs,h=>by simp only[AH]at h;obtain⟨_,_,_,rfl⟩:=h;rfl
 |.el _ _ _ _,cs,h=>by simp only[AH]at h;obtain⟨_,_,_,_,_,rfl⟩:=h;rfl
 |.tuple _,cs,h=>by simp only[AH]at h;obtain⟨_,_,rfl⟩:=h;rfl
 |.iface _ _,cs,h=>by simp only[AH]at h;obtain⟨_,_,rfl⟩:=h;rfl
 |.func _ _ _,cs,h=>by simp only[AH]at h;obtain⟨_,_,_,_,rfl⟩:=h;rfl
theorem Ko {η:Nat->Value} {I O:List Nat} {w:World}:∀(ds:List Dat) (cs:List Value),B6 η I O w ds cs->cs.length=Ot ds
 |[],cs,h=>by simp only[B6]at h;subst h;rfl
 |
  d::ds,cs,h=>by
  simp only[B6]at h
  obtain⟨c1,c2,rfl,h1,h2⟩:=h
  simp only[Ah,Ot,EL d c1 h1,Ko ds c2 h2]
end
mutual
theorem Mi {O:List Nat} {w:World}:∀(d:Da) (cs:List Value),d.stor=true->RepC O w d cs->∀v∈cs,v.oneCell'=true
 |.agg ds,cs,hs,h=>by simp only[RepC]at h;simp only[Da.stor]at hs;exact Wn ds cs hs h
 |.undef,cs,hs,h=>by cases hs
 |.int _ _,cs,hs,h=>by simp only[RepC]at h;subst h;simp[Value.oneCell']
 |.bool _,cs,hs,h=>by simp only[RepC]at h;subst h;simp[Value.oneCell']
 |.prop _ _,cs,hs,h=>by simp only[RepC]at h;subst h;simp[Value.oneCell']
 |.str _,cs,hs,h=>by simp only[RepC]at h;subst h;simp[Value.oneCell']
 |.tuple _,cs,hs,h=>by cases hs
 |.nilp,cs,hs,h=>by simp only[RepC]at h;subst h;simp[Value.oneCell']
 |.nils,cs,hs,h=>by simp only[RepC]at h;subst h;simp[Value.oneCell']
 |.nilm,cs,hs,h=>by simp only[RepC]at h;subst h;simp[Value.oneCell']
 |.nilf,cs,hs,h=>by simp only[RepC]at h;subst h;simp[Value.oneCell']
 |.nili,cs,hs,h=>by simp only[RepC]at h;subst h;simp[Value.oneCell']
 |.iface _ _,cs,hs,h=>by simp only[RepC]at h;obtain⟨_,_,rfl⟩:=h;simp[Value.oneCell']
 |.ref _,cs,hs,h=>by simp only[RepC]at h;obtain⟨_,_,_,rfl,_⟩:=h;simp[Value.oneCell']
 |.list _ _,cs,hs,h=>by simp only[RepC]at h;obtain⟨_,_,_,rfl,_⟩:=h;simp[Value.oneCell']
 |.func _ _ _,cs,hs,h=>by simp only[RepC]at h;obtain⟨_,_,_,_,rfl⟩:=h;simp[Value.oneCell']
 |.raw _,cs,hs,h=>by cases hs
theorem Wn {O:List Nat} {w:World}:∀(ds:List Da) (cs:List Value),mH ds=true->RepCs O w ds cs->∀v∈cs,v.oneCell'=true
 |[],cs,hs,h=>by simp only[RepCs]at h;subst h;simp
 |
  d::ds,cs,hs,h=>by
  simp only[RepCs]at h
  obtain⟨c1,c2,rfl,h1,h2⟩:=h
  simp only[mH,Ap]at hs
  intro v hv
  rcases Ag.1 hv with hv|hv
  ·exact Mi d c1 hs.1 h1 v hv
  ·exact Wn ds c2 hs.2 h2 v hv
end
def AAB(η:Nat->Value)(I:List Nat):Prop:=∀i∈I,(η i).oneCell'=true
mutual
theorem PG {η:Nat->Value} {I O:List Nat} {w:World}(hη:AAB η I):∀(d:Dat) (cs:List Value),d.stor=true->AH η I O w d cs->∀v∈cs,v.oneCell'=true
 |.d x,cs,hs,h=>Mi x cs hs h
 |.agg ds,cs,hs,h=>by simp only[AH]at h;simp only[Dat.stor]at hs;exact Wm hη ds cs hs h
 |.own i,cs,hs,h=>by simp only[AH]at h;obtain⟨h1,rfl⟩:=h;simpa using hη i h1
 |.at_ _ _,cs,hs,h=>by simp only[AH]at h;obtain⟨_,_,_,rfl⟩:=h;simp[Value.oneCell']
 |.el _ _ _ _,cs,hs,h=>by simp only[AH]at h;obtain⟨_,_,_,_,_,rfl⟩:=h;simp[Value.oneCell']
 |.tuple _,cs,hs,h=>by cases hs
 |.iface _ _,cs,hs,h=>by simp only[AH]at h;obtain⟨_,_,rfl⟩:=h;simp[Value.oneCell']
 |.func _ _ _,cs,hs,h=>by simp only[AH]at h;obtain⟨_,_,_,_,rfl⟩:=h;simp[Value.oneCell']
theorem Wm {η:Nat->Value} {I O:List Nat} {w:World}(hη:AAB η I):∀(ds:List Dat) (cs:List Value),XB ds=true->B6 η I O w ds cs->∀v∈cs,v.oneCell'=true
 |[],cs,hs,h=>by simp only[B6]at h;subst h;simp
 |
  d::ds,cs,hs,h=>by
  simp only[B6]at h
  obtain⟨c1,c2,rfl,h1,h2⟩:=h
  simp only[XB,Ap]at hs
  intro v hv
  rcases Ag.1 hv with hv|hv
  ·exact PG hη d c1 hs.1 h1 v hv
  ·exact Wm hη ds c2 hs.2 h2 v hv
end
theorem pB {O:List Nat} {w:World} {d:Da} {cs:List Value}(h:RepC O w d cs)(hs:d.stor=true):(Ea d cs).cells.toList=cs/\(d.isAgg=false->cs=[Ea d cs]):=by
 have hl:=FF d cs h
 have ho:=Mi d cs hs h
 cases d with
 |agg ds=>exact⟨by simp[Ea,Value.cells],λh=>by cases h⟩
 |
  _=>
  all_goals
   simp only[Da.size]at hl
   obtain⟨v,rfl⟩:=Cz.1 hl
   have:=ho v (by simp)
   refine⟨?_,λ_=>rfl⟩
   simp only[Ea,AAW]
   cases v<;>simp[Value.oneCell']at this<;>rfl
theorem KV {η:Nat->Value} {I O:List Nat} {w:World} {d:Dat} {cs:List Value}(hη:AAB η I)(h:AH η I O w d cs)(hs:d.stor=true):(Ch d cs).cells.toList=cs/\(d.isAgg=false->cs=[Ch d cs]):=by
 have hl:=EL d cs h
 have ho:=PG hη d cs hs h
 cases d with
 |d x=>exact pB h hs
 |agg ds=>exact⟨by simp[Ch,Value.cells],λh=>by cases h⟩
 |
  _=>
  all_goals
   simp only[Dat.size]at hl
   obtain⟨v,rfl⟩:=Cz.1 hl
   have:=ho v (by simp)
   refine⟨?_,λ_=>rfl⟩
   simp only[Ch,AAW]
   cases v<;>simp[Value.oneCell']at this<;>rfl
theorem Jb {P:Program} {t:TypeId} {e:TyI}(h:TyOk P t e) {w:World} {b o:Nat} {cs:List Value}(hc:Fv w b o cs)(hl:cs.length=e.size)(hs:e.agg=false->e.size=1):
  (loadVar t ⟨b,o,none⟩).run P w=.ok (if e.agg then .agg cs.toArray else cs.headD undef) w:=by
 unfold loadVar
 simp only[AK,h.isAgg,AF]
 cases ha:e.agg
 ·have h1:=hs ha
  rw[h1]at hl
  obtain⟨v,rfl⟩:=Cz.1 hl
  have h2:w.cell? ⟨b,o,none⟩=some v:=hc 0 v rfl
  simp[h2]
 ·have:=run_loadCells_list (P:=P) w ⟨b,o,none⟩ cs (λj v hj=>by
   have:=hc j v hj
   by_cases hj0:j=0
   ·subst hj0;exact this
   ·simpa[Addr.add,hj0]using this)
  rw[hl]at this
  simp only[if_true,AK,h.sizeOf,AF,this,Bo]
theorem Ly {d:Dat} {e:TyI}(h:d.fits e=true):d.isAgg=e.agg/\d.size=e.size:=by
 simp only[Dat.fits,Ap,beq_iff_eq]at h
 exact⟨h.1,A0 h.2⟩
theorem vL {d:Da}(h:d.isAgg=false):d.size=1:=by
 cases d<;>first|rfl|cases h
theorem QU {d:Dat}(h:d.isAgg=false):d.size=1:=by
 cases d with
 |d x=>exact vL h
 |agg ds=>cases h
 |_=>rfl
theorem IK {d:Dat} {cs:List Value}:Ch d cs=if d.isAgg then .agg cs.toArray else cs.headD undef:=by
 cases d with
 |d x=>cases x<;>rfl
 |_=>rfl
theorem GY {η:Nat->Value} {I O:List Nat} {w:World}:∀{xs:List Da} {cs:List Value},B6 η I O w (Ct xs) cs↔RepCs O w xs cs
 |[],cs=>by simp[Ct,B6,RepCs]
 |x::xs,cs=>by simp only[Ct,B6,RepCs,AH,GY (xs:=xs)]
theorem Ks {η:Nat->Value} {I O:List Nat} {w:World} {d:Dat} {es:List Dat} {cs:List Value}(h:d.parts=some es)(hd:AH η I O w d cs):B6 η I O w es cs/\d.isAgg=true:=by
 unfold Dat.parts at h
 split at h
 ·simp at h;subst h;exact⟨GY.2 (by simpa only[AH,RepC]using hd),rfl⟩
 ·simp at h;subst h;exact⟨by simpa only[AH]using hd,rfl⟩
 ·cases h
theorem Ky {η:Nat->Value} {I O:List Nat} {w:World} {e:TyI}:∀(f:Nat) (ds:List Dat) (o:Nat) {d:Dat} {cs:List Value},Lr e f ds o=some d->B6 η I O w ds cs->d.fits e=true/\∃c,AH η I O w d c/\∀(j:Nat) (u:Value),c[j]? =some u->cs[o+j]? =some u
 |0,_,_,_,_,h,_=>by simp[Lr]at h
 |f+1,[],_,_,_,h,_=>by simp[Lr]at h
 |
  f+1,d::ds,o,x,cs,h,hr=>by
  simp only[B6]at hr
  obtain⟨c1,c2,rfl,h1,h2⟩:=hr
  have hl:=EL d c1 h1
  simp only[Lr]at h
  split at h
  ·rename_i hb
   have hlt:¬o<d.size:=by
    intro hh;rw[(by simpa[Nat.blt_eq]using hh:Nat.blt o d.size=true)]at hb;cases hb
   obtain⟨g1,c,g2,g3⟩:=Ky f ds _ h h2
   refine⟨g1,c,g2,λj u hj=>?_⟩
   rw[Bv (by omega),hl]
   have:=g3 j u hj
   rwa [show o+j-d.size=o-d.size+j by omega]
  ·split at h
   ·rename_i hb2
    simp only[Ap]at hb2
    have h0:=A0 hb2.1
    simp at h;subst h;subst h0
    exact⟨hb2.2,c1,h1,λj u hj=>by rw[Bi (by have:=(Ae.1 hj).1;omega),DT];exact hj⟩
   ·split at h
    ·rename_i es hp
     obtain⟨g1,c,g2,g3⟩:=Ky f es o h (Ks hp h1).1
     refine⟨g1,c,g2,λj u hj=>?_⟩
     have:=g3 j u hj
     rw[Bi (Ae.1 this).1]
     exact this
    ·cases h
def splice(cs:List Value)(o:Nat)(x:List Value):List Value:=cs.take o++x++cs.drop (o+x.length)
theorem LZ {c1 c2 x:List Value} {o:Nat}(h:o+x.length<=c1.length):splice (c1++c2) o x=splice c1 o x++c2:=by
 unfold splice
 rw[BW (by omega),List.drop_append_of_le_length h]
 simp
theorem Fw {c1 c2 x:List Value} {o:Nat}(h:c1.length<=o):splice (c1++c2) o x=c1++splice c2 (o-c1.length) x:=by
 unfold splice
 rw[List.take_append,uG,Al (by omega),C0 (by omega:c1.length<=o+x.length),show o+x.length-c1.length=o-c1.length+x.length by omega]
 simp
theorem Mk {η:Nat->Value} {I O:List Nat} {w:World} {x:Dat} {cx:List Value}(hx:AH η I O w x cx):∀(f:Nat) (ds:List Dat) (o:Nat) {ds':List Dat} {cs:List Value},PJ x f ds o=some ds'->B6 η I O w ds cs->B6 η I O w ds' (splice cs o cx)/\o+cx.length<=cs.length
 |0,_,_,_,_,h,_=>by simp[PJ]at h
 |f+1,[],_,_,_,h,_=>by simp[PJ]at h
 |
  f+1,d::ds,o,ds',cs,h,hr=>by
  simp only[B6]at hr
  obtain⟨c1,c2,rfl,h1,h2⟩:=hr
  have hl:=EL d c1 h1
  have hlx:=EL x cx hx
  simp only[PJ]at h
  split at h
  ·rename_i hb
   have hlt:¬o<d.size:=by
    intro hh;rw[(by simpa[Nat.blt_eq]using hh:Nat.blt o d.size=true)]at hb;cases hb
   unfold ACY at h
   split at h
   ·rename_i l hp
    simp at h;subst h
    obtain⟨g1,g2⟩:=Mk hx f ds _ hp h2
    rw[Fw (by omega),hl]
    refine⟨?_,by simp;omega⟩
    simp only[B6]
    exact⟨c1,_,rfl,h1,g1⟩
   ·cases h
  ·split at h
   ·rename_i hb2
    simp only[Ap,beq_iff_eq]at hb2
    obtain⟨⟨h0,_⟩,h3⟩:=hb2
    have h0:=A0 h0
    have h3:=A0 h3
    simp at h;subst h;subst h0
    have:splice (c1++c2) 0 cx=cx++c2:=by
     unfold splice
     rw[uG,C0 (by omega)]
     simp
     rw[show cx.length-c1.length=0 by omega];rfl
    rw[this]
    refine⟨?_,by simp;omega⟩
    simp only[B6]
    exact⟨cx,c2,rfl,hx,h2⟩
   ·split at h
    ·rename_i es hp
     unfold AER at h
     split at h
     ·rename_i l hp2
      simp at h;subst h
      obtain⟨g1,g2⟩:=Mk hx f es o hp2 (Ks hp h1).1
      rw[LZ (by omega)]
      refine⟨?_,by simp;omega⟩
      simp only[B6,AH]
      exact⟨_,c2,rfl,g1,h2⟩
     ·cases h
    ·cases h
theorem IV.splice {P:Program} {w:World} {b:Nat} {T:TypeId} {cs x:List Value} {o:Nat}(h:IV w b T cs)(hl:o+x.length<=cs.length)(h1:∀v∈x,v.oneCell'=true):
  ∃w',(storeCells ⟨b,o,none⟩ x).run P w=.ok () w'/\IV w' b T (splice cs o x)/\Tch [b] w w':=by
 have:=run_storeCells_at P b o T x 0 cs.toArray w h (by simpa using hl) h1
 refine⟨_,this,?_,?_⟩
 ·have e:=setRow_heap w b cs.toArray (cs.toArray.toList.take (o+0)++x++cs.toArray.toList.drop (o+0+x.length)).toArray T (0,0) h
  unfold IV;rw[e];simp[Sx.splice]
 ·exact⟨rfl,rfl,rfl,by simp[World.setRow],λk hk hn=>by
   have:b≠k:=λe=>hn (by simp[e])
   simp[World.setRow,C9,this]⟩
end Go.Sx
namespace Go.Sx
open Go Go.RowKit Go.Reg
theorem IM {O:List Nat} {w:World}:∀{ds:List Da} {css:List (List Value)},Aq O w ds css->∀{n:Nat} {d:Da},ds[n]? =some d->∃c,css[n]? =some c/\RepC O w d c
 |[],css,h,n,d,hn=>by simp at hn
 |
  x::ds,css,h,n,d,hn=>by
  simp only[Aq]at h
  obtain⟨c1,c2,rfl,h1,h2⟩:=h
  cases n with
  |zero=>simp at hn;subst hn;exact⟨c1,rfl,h1⟩
  |succ n=>exact IM h2 (by simpa using hn)
theorem FJ {O:List Nat} {w:World}:∀{ds es:List Da} {css css2:List (List Value)},Aq O w ds css->Aq O w es css2->Aq O w (ds++es) (css++css2)
 |[],es,css,css2,h,h2=>by simp only[Aq]at h;subst h;simpa using h2
 |
  x::ds,es,css,css2,h,h2=>by
  simp only[Aq]at h
  obtain⟨c1,c2,rfl,h1,h3⟩:=h
  exact⟨c1,c2++css2,rfl,h1,FJ h3 h2⟩
theorem Jd {O:List Nat} {w:World}:∀{ds:List Da} {css:List (List Value)},Aq O w ds css->∀(n:Nat) {d:Da} {c:List Value},RepC O w d c->Aq O w (ds.set n d) (css.set n c)
 |[],css,h,n,d,c,hc=>by simp only[Aq]at h;subst h;simp[Aq]
 |
  x::ds,css,h,n,d,c,hc=>by
  simp only[Aq]at h
  obtain⟨c1,c2,rfl,h1,h2⟩:=h
  cases n with
  |zero=>exact⟨c,c2,rfl,hc,h2⟩
  |succ n=>exact⟨c1,c2.set n c,rfl,h1,Jd h2 n hc⟩
theorem Mh {O:List Nat} {w:World}:∀{ds:List Da} {css:List (List Value)},Aq O w ds css->∀n,Aq O w (ds.take n) (css.take n)
 |[],css,h,n=>by simp only[Aq]at h;subst h;simp[Aq]
 |
  x::ds,css,h,n=>by
  simp only[Aq]at h
  obtain⟨c1,c2,rfl,h1,h2⟩:=h
  cases n with
  |zero=>simp[Aq]
  |succ n=>exact⟨c1,c2.take n,rfl,h1,Mh h2 n⟩
theorem Sf {O:List Nat} {w:World}:∀{ds:List Da} {css:List (List Value)},Aq O w ds css->∀n,Aq O w (ds.drop n) (css.drop n)
 |[],css,h,n=>by simp only[Aq]at h;subst h;simp[Aq]
 |
  x::ds,css,h,n=>by
  simp only[Aq]at h
  obtain⟨c1,c2,rfl,h1,h2⟩:=h
  cases n with
  |zero=>exact⟨c1,c2,rfl,h1,h2⟩
  |succ n=>exact Sf h2 n
theorem Va {k:Nat}:∀{css:List (List Value)},(∀x∈css,x.length=k)->∀{n:Nat} {c:List Value},css[n]? =some c->∀{j:Nat} {u:Value},c[j]? =some u->css.flatten[n*k+j]? =some u
 |[],h,n,c,hn,j,u,hj=>by simp at hn
 |
  x::css,h,n,c,hn,j,u,hj=>by
  have hx:=h x (by simp)
  cases n with
  |
   zero=>
   simp at hn;subst hn
   have:=(Ae.1 hj).1
   simp only[CI,Nat.zero_mul,DT]
   rw[Bi (by omega)];exact hj
  |
   succ n=>
   simp only[CI]
   rw[Bv (by rw[hx,CV];omega),hx,show(n+1)*k+j-k=n*k+j by rw[CV];omega]
   exact Va (λy hy=>h y (by simp[hy])) (by simpa using hn) hj
theorem KC {k:Nat}:∀{css:List (List Value)},(∀x∈css,x.length=k)->css.flatten.length=css.length*k
 |[],h=>by simp
 |
  x::css,h=>by
  have ih:=KC (css:=css) (λy hy=>h y (A9 _ hy))
  simp only[CI,Ah,Aw,h x (by simp),ih,CV];omega
theorem zR {k:Nat} {css:List (List Value)}(h:∀x∈css,ER k x):∀v∈css.flatten,v.oneCell'=true:=λv hv=>by
 obtain⟨x,hx,hv⟩:=RT.1 hv
 exact(h x hx).2 v hv
theorem flatMap_id(css:List (List Value)):css.flatMap id=css.flatten:=by simp[List.flatMap]
theorem Xc {k:Nat}:∀{css:List (List Value)},(∀x∈css,x.length=k)->∀n,(css.drop n).flatten=css.flatten.drop (n*k)
 |[],h,n=>by simp
 |x::css,h,0=>by simp
 |
  x::css,h,n+1=>by
  have hx:=h x (by simp)
  simp only[List.drop_succ_cons,CI]
  have e:x.drop ((n+1)*k)=[]:=C0 (by rw[hx,CV];omega)
  rw[Xc (λy hy=>h y (by simp[hy])) n,uG,e,BB,hx,show(n+1)*k-k=n*k by rw[CV];omega]
theorem Fv.mono {w:World} {b o:Nat} {cs:List Value} {m:Nat} {x:List Value}(h:Fv w b o cs)(hx:∀(j:Nat) (u:Value),x[j]? =some u->cs[m+j]? =some u):Fv w b (o+m) x:=λj u hj=>by
 have:=h (m+j) u (hx j u hj)
 rwa [<-Hv]at this
section
variable {C:Cx} {T:Hh} {B S:List Nat} {w0 w:World} {n:Nat} {fr:Fr} {σ:Sg} {η:Nat->Value} {φ:Nat->List Nat} {a:Act} {v vx vy:Value} {no:Prop}
theorem Mem.oneV(h:Mem C B S w0 σ η φ w):AAB η (BA σ):=by
 intro i hi
 obtain⟨p,hp,rfl⟩:=An.1 hi
 have:=h.own p hp
 cases ho:p.2 with
 |cells t ds=>rw[ho]at this;obtain⟨b,cs,h1,_⟩:=this;rw[h1];rfl
 |
  slice E k ds=>
  rw[ho]at this
  obtain⟨css,hs,_⟩:=this
  rcases hs.shape with⟨he,_⟩|⟨g,c,he,_⟩<;>rw[he]<;>rfl
 |abs R k l o=>rw[ho]at this;exact o _ _ _ this
 |ghost vs ds=>rw[ho]at this;obtain⟨h1,_⟩:=this;rw[h1];rfl
 |absd R k l o ds=>rw[ho]at this;obtain⟨css,_,h1⟩:=this;exact o _ _ _ _ h1
theorem Kl {E k:Nat} {css:List (List Value)}(h:Sl E k id w v css) {g l c:Nat}(hv:v=.slice (some ⟨g,0,none⟩) l c):Fv w g 0 css.flatten:=by
 intro j u hj
 have:=VB h (g:=g) (by rw[hv];rfl) j u (by rw[flatMap_id];exact hj)
 simpa[DA]using this
theorem RD.force {d:Dat} {K:Dat->Prop}(h:force d K):K d:=by rwa [KA]at h
theorem E4:∀{ds:List Dat} {xs:List Da},EX ds=some xs->ds=Ct xs
 |[],xs,h=>by simp[EX]at h;subst h;rfl
 |
  .d x::ds,xs,h=>by
  simp only[EX]at h
  split at h
  ·rename_i ys hy;simp at h;subst h;simp[Ct,E4 hy]
  ·cases h
 |.own _::ds,xs,h=>by simp[EX]at h
 |.at_ _ _::ds,xs,h=>by simp[EX]at h
 |.el _ _ _ _::ds,xs,h=>by simp[EX]at h
 |.agg _::ds,xs,h=>by simp[EX]at h
 |.tuple _::ds,xs,h=>by simp[EX]at h
 |.iface _ _::ds,xs,h=>by simp[EX]at h
 |.func _ _ _::ds,xs,h=>by simp[EX]at h
theorem ZJ {ds:List Dat} {cs:List Value}(h:B6 η (BA σ) (B++Ao φ σ) w ds cs):RD B σ η φ w (aP ds) (.agg cs.toArray):=by
 unfold aP
 split
 ·rename_i xs hxs
  rw[E4 hxs]at h
  exact⟨cs,by simp only[AH,RepC];exact GY.1 h,rfl⟩
 ·exact⟨cs,by simpa only[AH]using h,rfl⟩
theorem JM {η:Nat->Value} {I O:List Nat} {w:World} {d:Dat} {cs:List Value}(h:AH η I O w d cs):B6 η I O w d.cellsOf cs:=by
 have one:∀{d:Dat},AH η I O w d cs->B6 η I O w [d] cs:=λh=>by simp only[B6];exact⟨cs,[],by simp,h,rfl⟩
 unfold Dat.cellsOf
 split
 ·exact GY.2 (by simpa only[AH,RepC]using h)
 ·simpa only[AH]using h
 ·exact one h
theorem VZ(hC:C.Ok T)(hm:Mem C B S w0 σ η φ w) {t:TypeId} {x:Dat}(hx:RD B σ η φ w x vx) {K:Dat->Prop}(h:X7 T t x σ K no):no\/∃d v,K d/\(Instr.loadAt t vx).run C.P w=.ok v w/\RD B σ η φ w d v:=by
 unfold X7 at h
 rcases BO h with h|⟨e,he,h⟩
 ·exact .inl h
 have ht:=hC.ty he
 have key:∀{d:Dat} {cs:List Value} {b o:Nat},d.fits e=true->AH η (BA σ) (B++Ao φ σ) w d cs->Fv w b o cs->vx=.pointer (some ⟨b,o,none⟩)->∃v,(Instr.loadAt t vx).run C.P w=.ok v w/\RD B σ η φ w d v:=by
  intro d cs b o hf hr hc hv
  obtain⟨g1,g2⟩:=Ly hf
  have hl:=EL d cs hr
  refine⟨_,?_,cs,hr,rfl⟩
  rw[hv,IK,g1]
  simp only[Instr.loadAt,Instr.sureAddr,AK,Bo,AF]
  exact Jb ht hc (by omega) (λhh=>by rw[<-g2];exact QU (by rw[g1];exact hh))
 split at h
 ·rcases B9 h with h|⟨hf,h⟩
  ·exact .inl h
  obtain⟨cs,h1,h2⟩:=hx
  simp only[AH,RepC]at h1
  obtain⟨b,o,c,rfl,_,_,h4,h5⟩:=h1
  obtain⟨v,g1,g2⟩:=key (d:=.d _) (cs:=c) hf (by simpa only[AH]using h4) h5 h2
  exact .inr ⟨_,v,h,g1,g2⟩
 ·rcases Bz h with h|⟨ow,hg,h⟩
  ·exact .inl h
  split at h
  ·obtain⟨b,cs,e1,_,hb,hr⟩:=DX hm hg
   obtain⟨cs',h1,h2⟩:=hx
   simp only[AH]at h1
   obtain⟨_,rfl⟩:=h1
   split at h
   ·rename_i hcond
    simp only[Ap]at hcond
    rcases B9 h with h|⟨hsz,h⟩
    ·exact .inl h
    have hsz:=A0 hsz
    have hl:=Ko _ _ hr
    refine .inr ⟨_,_,RD.force h,?_,ZJ hr⟩
    rw[show vx=.pointer (some ⟨b,0,none⟩)from h2.trans (by rw[e1];rfl)]
    simp only[Instr.loadAt,Instr.sureAddr,AK,Bo,AF]
    have:=Jb ht (w:=w) (b:=b) (o:=0) (cs:=cs) (λj u hj=>by have:=hb.cell hj;simpa using this) (by omega) (λhh=>by rw[hcond.2]at hh;cases hh)
    rw[this,hcond.2];rfl
   rcases Bz h with h|⟨d,hd,h⟩
   ·exact .inl h
   obtain⟨g1,c,g2,g3⟩:=Ky _ _ _ hd hr
   obtain⟨v,g4,g5⟩:=key g1 g2 (Fv.mono (o:=0) (cs:=cs) (λj u hj=>by have:=hb.cell hj;simpa using this) g3) (h2.trans (by rw[e1];rfl))
   exact .inr ⟨_,v,RD.force h,g4,g5⟩
  ·exact .inl h
 ·rcases Bz h with h|⟨ow,hg,h⟩
  ·exact .inl h
  split at h
  ·rcases Bz h with h|⟨d,hd,h⟩
   ·exact .inl h
   obtain⟨b,cs,e1,_,hb,hr⟩:=DX hm hg
   obtain⟨cs',h1,h2⟩:=hx
   simp only[AH]at h1
   obtain⟨_,b',e2,rfl⟩:=h1
   rw[e1]at e2
   cases e2
   obtain⟨g1,c,g2,g3⟩:=Ky _ _ _ hd hr
   obtain⟨v,g4,g5⟩:=key g1 g2 (Fv.mono (o:=0) (cs:=cs) (λj u hj=>by have:=hb.cell hj;simpa using this) g3) (h2.trans (by simp[Ch]))
   exact .inr ⟨_,v,RD.force h,g4,g5⟩
  ·exact .inl h
 ·rcases Bz h with h|⟨ow,hg,h⟩
  ·exact .inl h
  split at h
  ·rename_i i k0 m off _ _ _ E k ds
   rcases B9 h with h|⟨hk0,d0,hd0,h⟩
   ·exact .inl h
   have hk0:=A0 hk0
   rcases Bz h with h|⟨d,hd,h⟩
   ·exact .inl h
   obtain⟨css,hs,_,hr,hk⟩:=BV hm hg
   obtain⟨cs',h1,h2⟩:=hx
   simp only[AH]at h1
   obtain⟨_,b',l,c',e2,rfl⟩:=h1
   obtain⟨c0,hc0,hr0⟩:=IM hr hd0
   obtain⟨g1,c,g2,g3⟩:=Ky _ _ _ hd (cs:=c0) (by simp only[B6,AH];exact⟨c0,[],by simp,hr0,rfl⟩)
   obtain⟨v,g4,g5⟩:=key g1 g2 (b:=b') (o:=0+(m*k+off)) (Fv.mono (o:=0) (Kl hs e2) (λj u hj=>by
    rw[Hv];exact Va (λx hx=>(hk x hx).1) hc0 (g3 j u hj))) (h2.trans (by simp[Ch,hk0]))
   exact .inr ⟨_,v,RD.force h,g4,g5⟩
  ·exact .inl h
 ·exact .inl h
theorem MH {k off:Nat} {x:List Value}:∀{css:List (List Value)},(∀y∈css,y.length=k)->∀{n:Nat} {c:List Value},css[n]? =some c->off+x.length<=k->splice css.flatten (n*k+off) x=(css.set n (splice c off x)).flatten
 |[],h,n,c,hn,hl=>by simp at hn
 |
  y::css,h,n,c,hn,hl=>by
  have hy:=h y (by simp)
  cases n with
  |
   zero=>
   simp at hn;subst hn
   simp only[CI,List.set_cons_zero,Nat.zero_mul,DT]
   exact LZ (by omega)
  |
   succ n=>
   simp only[CI,List.set_cons_succ]
   rw[Fw (by rw[hy,CV];omega),hy,show(n+1)*k+off-k=n*k+off by rw[CV];omega]
   rw[MH (λz hz=>h z (A9 _ hz)) (by simpa using hn) hl]
theorem KZ {cs x:List Value} {o:Nat}(h:o+x.length<=cs.length):(splice cs o x).length=cs.length:=by
 unfold splice;simp;omega
theorem Zh {cs x:List Value} {o m:Nat}(h:o+x.length<=m)(hm:m<=cs.length):(splice cs o x).take m=splice (cs.take m) o x:=by
 have hl:(cs.take m).length=m:=by simp;omega
 have e:=LZ (c1:=cs.take m) (c2:=cs.drop m) (x:=x) (o:=o) (by omega)
 rw[Cf]at e
 rw[e]
 have:=KZ (cs:=cs.take m) (x:=x) (o:=o) (by omega)
 rw[BW (by omega),Al (by omega)]
theorem gF {cs x:List Value} {o:Nat}(h1:∀v∈cs,v.oneCell'=true)(h2:∀v∈x,v.oneCell'=true):∀v∈splice cs o x,v.oneCell'=true:=by
 intro v hv
 unfold splice at hv
 rcases Ag.1 hv with hv|hv
 ·rcases Ag.1 hv with hv|hv
  ·exact h1 v (DP hv)
  ·exact h2 v hv
 ·exact h1 v (SL hv)
theorem Sl.spliceAt {P:Program} {E k:Nat} {css:List (List Value)}(hk:∀x∈css,ER k x)(h:Sl E k id w v css) {g l c:Nat}(hv:v=.slice (some ⟨g,0,none⟩) l c) {m off:Nat} {c0 x:List Value}(hm:css[m]? =some c0)(hl:off+x.length<=k)(h1:∀u∈x,u.oneCell'=true):
  ∃w',(storeCells ⟨g,m*k+off,none⟩ x).run P w=.ok () w'/\Sl E k id w' v (css.set m (splice c0 off x))/\Tch [g] w w':=by
 have hk':∀y∈css,y.length=k:=λy hy=>(hk y hy).1
 have hfl:css.flatten.length=css.length*k:=KC hk'
 have hml:m<css.length:=(Ae.1 hm).1
 have hmk:m*k+k<=css.length*k:=by rw[<-Nat.succ_mul];exact Hi k hml
 rcases h.2 with⟨hn,_⟩|⟨g',cap,cur,he,_,hg,hc,hcm,hcs,ht⟩
 ·rw[hn]at hv;cases hv
 ·rw[he]at hv;cases hv
  rw[flatMap_id]at ht
  have hle:css.length*k<=cur.size:=by rw[hcs];exact Hi k hc
  have hr:=run_storeCells_at P g (m*k+off) E x 0 cur w hg (by omega) h1
  refine⟨_,hr,⟨?_,.inr ⟨g,c,(splice cur.toList (m*k+off) x).toArray,?_,Am _,?_,by simpa using hc,hcm,?_,?_⟩⟩,?_⟩
  ·rw[flatMap_id,<-MH hk' hm hl,KZ (by omega),hfl];simp
  ·rw[he];simp
  ·have e:=setRow_heap w g cur (cur.toList.take (m*k+off+0)++x++cur.toList.drop (m*k+off+0+x.length)).toArray E (0,0) hg
   rw[e];simp[splice]
  ·simp only[BC,KZ (cs:=cur.toList) (x:=x) (o:=m*k+off) (by simp;omega)];simpa using hcs
  ·rw[flatMap_id,<-MH hk' hm hl,Di,<-ht]
   exact Zh (by omega) (by simpa using hle)
  ·exact⟨rfl,rfl,rfl,by simp[World.setRow],λj hj hn=>by
    have:g≠j:=λe=>hn (by simp[e])
    simp[World.setRow,C9,this]⟩
theorem Pz {α:Type}(f:Nat->α)(i:Nat):CE f i (f i)=f:=by funext j;by_cases h:j=i<;>simp[CE,h]
def YF(C:Cx)(B S:List Nat)(w0:World)(σ σ':Sg)(η:Nat->Value)(φ:Nat->List Nat)(w w':World):Prop:=
 Mem C B S w0 σ' η φ w'/\Later (B++Ao φ σ) w (B++Ao φ σ') w'/\BA σ'=BA σ
theorem YF.frame {σ':Sg} {w':World}(h:YF C B S w0 σ σ' η φ w w') {fr:Fr} {a:Act}(hf:HE η (BA σ) (B++Ao φ σ) w fr a):HE η (BA σ') (B++Ao φ σ') w' fr a:=
 hf.later h.2.1 (λi hi=>⟨by rw[h.2.2];exact hi,rfl⟩)
theorem IA(hm:Mem C B S w0 σ η φ w) {i:Nat} {t:TypeId} {ds ds':List Dat}(hg:BI i σ=some (.cells t ds)) {b:Nat} {cs':List Value} {w':World}(he:η i=.pointer (some ⟨b,0,none⟩))(hf:φ i=[b])(hr:B6 η (BA σ) (B++Ao φ σ) w ds' cs')(hb:IV w' b t cs')(ht:Tch [b] w w'):
  YF C B S w0 σ (AX id i (.cells t ds') σ) η φ w w':=by
 have hi:=AV (AQ hg)
 have hX:∀x∈[b],x∈φ i:=λx hx=>by rw[hf];exact hx
 have hF:∀x∈φ i,x∈φ i\/w.heap.size<=x:=λx hx=>.inl hx
 have hl:=Later.turn (σ:=σ) B ht hX hi hF id (.cells t ds')
 have hM:=hm.turnSame (o:=.cells t ds') ht hX hi hF (by
  exact⟨b,cs',he,hf,hb,B6.later hl (λj hj=>⟨hj,rfl⟩) _ _ hr⟩)
 rw[Pz]at hM hl
 exact⟨hM,hl,AZ _ _ _ _⟩
theorem fX(hC:C.Ok T)(hm:Mem C B S w0 σ η φ w) {t:TypeId} {x d:Dat}(hx:RD B σ η φ w x vx)(hd:RD B σ η φ w d vy) {K:Sg->Prop}(h:X4 T t x d σ K no):
  no\/∃σ' w',K σ'/\(Instr.storeAt t vx vy).run C.P w=.ok () w'/\YF C B S w0 σ σ' η φ w w':=by
 unfold X4 at h
 rcases BO h with h|⟨e,he,h⟩
 ·exact .inl h
 have ht:=hC.ty he
 rcases B9 h with h|⟨hb,h⟩
 ·exact .inl h
 simp only[Ap]at hb
 obtain⟨hf,hst⟩:=hb
 obtain⟨f1,f2⟩:=Ly hf
 obtain⟨cx,hcx,rfl⟩:=hd
 have hcl:=(KV hm.oneV hcx hst).1
 have hone:=PG hm.oneV d cx hst hcx
 have hlx:=EL d cx hcx
 have store:∀{b o:Nat} {w':World},vx=.pointer (some ⟨b,o,none⟩)->(storeCells ⟨b,o,none⟩ cx).run C.P w=.ok () w'->(Instr.storeAt t vx (Ch d cx)).run C.P w=.ok () w':=by
  intro b o w' hv hr
  have hsz:(Ch d cx).cells.size=e.size:=by rw[<-HG,hcl];omega
  rw[hv]
  simp only[Instr.storeAt,Instr.sureAddr,AK,Bo,AF,storeVar,ht.sizeOf,hcl,hsz]
  simp[hr]
 split at h
 ·rcases Bz h with h|⟨ow,hg,h⟩
  ·exact .inl h
  split at h
  ·obtain⟨b,cs,e1,e2,hb,hr⟩:=DX hm hg
   obtain⟨cs',h1,h2⟩:=hx
   simp only[AH]at h1
   obtain⟨_,rfl⟩:=h1
   split at h
   ·rename_i hcond
    simp only[Ap]at hcond
    rcases B9 h with h|⟨hsz,h⟩
    ·exact .inl h
    have hsz:=A0 hsz
    have hl:=Ko _ _ hr
    have hll:cx.length=cs.length:=by omega
    obtain⟨w',r1,r2,r3⟩:=IV.splice (P:=C.P) hb (o:=0) (x:=cx) (by omega) hone
    have e4:splice cs 0 cx=cx:=by simp[splice,hll]
    rw[e4]at r2
    exact .inr ⟨_,w',h,store (h2.trans (by rw[e1];rfl)) r1,IA hm hg e1 e2 (JM hcx) r2 r3⟩
   rcases Bz h with h|⟨ds',hp,h⟩
   ·exact .inl h
   obtain⟨g1,g2⟩:=Mk hcx _ _ _ hp hr
   obtain⟨w',r1,r2,r3⟩:=IV.splice (P:=C.P) hb g2 hone
   exact .inr ⟨_,w',h,store (h2.trans (by rw[e1];rfl)) r1,IA hm hg e1 e2 g1 r2 r3⟩
  ·exact .inl h
 ·rcases Bz h with h|⟨ow,hg,h⟩
  ·exact .inl h
  split at h
  ·rcases Bz h with h|⟨ds',hp,h⟩
   ·exact .inl h
   obtain⟨b,cs,e1,e2,hb,hr⟩:=DX hm hg
   obtain⟨cs',h1,h2⟩:=hx
   simp only[AH]at h1
   obtain⟨_,b',e3,rfl⟩:=h1
   rw[e1]at e3
   cases e3
   obtain⟨g1,g2⟩:=Mk hcx _ _ _ hp hr
   obtain⟨w',r1,r2,r3⟩:=IV.splice (P:=C.P) hb g2 hone
   exact .inr ⟨_,w',h,store h2 r1,IA hm hg e1 e2 g1 r2 r3⟩
  ·exact .inl h
 ·rcases Bz h with h|⟨ow,hg,h⟩
  ·exact .inl h
  split at h
  ·rename_i i k0 m off _ _ _ _ E k ds
   rcases B9 h with h|⟨hk0,d0,hd0,h⟩
   ·exact .inl h
   have hk0:=A0 hk0
   subst hk0
   rcases Bz h with h|⟨ds',hp,h⟩
   ·exact .inl h
   rcases Bz h with h|⟨xs,hp2,h⟩
   ·exact .inl h
   split at h
   ·rename_i y
    obtain⟨css,hs,e2,hr,hk⟩:=BV hm hg
    obtain⟨cs',h1,h2⟩:=hx
    simp only[AH]at h1
    obtain⟨_,b',l,c',e3,rfl⟩:=h1
    obtain⟨c0,hc0,hr0⟩:=IM hr hd0
    have hc0k:=hk c0 (A8 hc0)
    obtain⟨g1,g2⟩:=Mk hcx _ _ _ hp (cs:=c0) (by simp only[B6,AH];exact⟨c0,[],by simp,hr0,rfl⟩)
    rw[E4 hp2]at g1
    have g3:RepC (B++Ao φ σ) w y (splice c0 off cx):=by
     have:=GY.1 g1
     simp only[RepCs]at this
     obtain⟨a1,a2,e4,r1,rfl⟩:=this
     rw[e4];simpa using r1
    obtain⟨w',r1,r2,r3⟩:=Sl.spliceAt (P:=C.P) hk hs e3 hc0 (x:=cx) (off:=off) (by rw[hc0k.1]at g2;exact g2) hone
    have hi:=AV (AQ hg)
    have hX:∀x∈[b'],x∈φ i:=λx hx=>by rw[e2,e3];simpa[Value.ownBlock]using hx
    have hF:∀x∈φ i,x∈φ i\/w.heap.size<=x:=λx hx=>.inl hx
    have hl:=Later.turn (σ:=σ) B r3 hX hi hF id (.slice E k0 (ds.set m y))
    have hM:=hm.turnSame (o:=.slice E k0 (ds.set m y)) r3 hX hi hF (by
     refine⟨_,r2,e2,Aq.later hl _ _ (Jd hr m g3),λx hx=>?_⟩
     rcases KP hx with hx|rfl
     ·exact hk x hx
     ·exact⟨by rw[KZ g2];exact hc0k.1,gF hc0k.2 hone⟩)
    rw[Pz]at hM hl
    exact .inr ⟨_,w',h,store (h2.trans (by simp[Ch])) r1,hM,hl,AZ _ _ _ _⟩
   ·exact .inl h
  ·exact .inl h
 ·exact .inl h
end
end Go.Sx
