/- Sxi. -/
import Derived.Test.YtjpmmkodoeipmaaGreatDoorrtah
import Derived.WalkKit
import Derived.WalkSpells
import Derived.WalkLawsBesides
namespace Go.Sx
open Go Go.RowKit Go.Reg
inductive Da where
 |undef
 |int (k:IntKind) (n:Int)
 |bool (b:Bool)
 |prop (p:Prop) (i:Decidable p)
 |str (s:ByteArray)
 |agg (ds:List Da)
 |tuple (ds:List Da)
 |nilp
 |nils
 |nilm
 |nilf
 |nili
 |iface (t:TypeId) (d:Da)
 |ref (d:Da)
 |list (k:Nat) (ds:List Da)
 |func (fn:Fn) (first captured:List Da)
 |raw (v:Value)
def DZ:Da->List Value->Value
 |.agg _,cs=>.agg cs.toArray
 |_,cs=>cs.headD undef
def Fs(w:World)(b o:Nat)(cs:List Value):Prop:=∀j u,cs[j]? =some u->w.cell? ⟨b,o+j,none⟩=some u
def EN(k:Nat)(x:List Value):Prop:=x.length=k/\∀v∈x,v.oneCell'=true
mutual
def RepC(O:List Nat)(w:World):Da->List Value->Prop
 |.undef,cs=>∃v,cs=[v]
 |.int k n,cs=>cs=[.int k n]
 |.bool b,cs=>cs=[.bool b]
 |.prop p i,cs=>cs=[.bool (@decide p i)]
 |.str s,cs=>cs=[.string s]
 |.agg ds,cs=>RepCs O w ds cs
 |.tuple ds,cs=>∃css,Aq O w ds css/\cs=[.tuple (List.zipWith DZ ds css).toArray]
 |.nilp,cs=>cs=[.pointer none]
 |.nils,cs=>cs=[.slice none 0 0]
 |.nilm,cs=>cs=[.map none]
 |.nilf,cs=>cs=[.nilFunc]
 |.nili,cs=>cs=[.nilIface]
 |.iface t d,cs=>∃c,RepC O w d c/\cs=[.iface t (DZ d c)]
 |.ref d,cs=>∃b o c,cs=[.pointer (some ⟨b,o,none⟩)]/\b∉O/\b<w.heap.size/\RepC O w d c/\Fs w b o c
 |.list k ds,cs=>∃a c css,cs=[.slice a ds.length c]/\ds.length<=c/\c<=maxLen/\Aq O w ds css/\(∀x∈css,EN k x)/\
   (ds=[]\/∃b o,a=some ⟨b,o,none⟩/\b∉O/\b<w.heap.size/\Fs w b o css.flatten)
 |.func fn f c,cs=>∃fs cs',Aq O w f fs/\Aq O w c cs'/\cs=[.func fn (List.zipWith DZ f fs).toArray (List.zipWith DZ c cs').toArray]
 |.raw v,cs=>cs=[v]
def RepCs(O:List Nat)(w:World):List Da->List Value->Prop
 |[],cs=>cs=[]
 |d::ds,cs=>∃c1 c2,cs=c1++c2/\RepC O w d c1/\RepCs O w ds c2
def Aq(O:List Nat)(w:World):List Da->List (List Value)->Prop
 |[],css=>css=[]
 |d::ds,css=>∃c1 c2,css=c1::c2/\RepC O w d c1/\Aq O w ds c2
end
def Rep(O:List Nat)(w:World)(d:Da)(v:Value):Prop:=∃cs,RepC O w d cs/\v=DZ d cs
def Jt(O:List Nat)(w:World)(ds:List Da)(vs:List Value):Prop:=∃css,Aq O w ds css/\vs=List.zipWith DZ ds css
structure Later(O:List Nat)(w:World)(O':List Nat)(w':World):Prop where
 size:w.heap.size<=w'.heap.size
 blk:∀b,b<w.heap.size->b∉O->w'.heap[b]? =w.heap[b]?
 new:∀b,b∉O->b<w.heap.size->b∉O'
theorem Later.cells {O O':List Nat} {w w':World}(h:Later O w O' w') {b o:Nat} {cs:List Value}(hb:b<w.heap.size)(hn:b∉O)(hc:Fs w b o cs):Fs w' b o cs:=by
 intro j u hj
 have:=hc j u hj
 rw[World.cell?_of_block (w:=w) (h.blk b hb hn)];exact this
mutual
theorem RepC.later {O O':List Nat} {w w':World}(h:Later O w O' w'):∀(d:Da) (cs:List Value),RepC O w d cs->RepC O' w' d cs
 |.undef,cs,r=>r
 |.int _ _,cs,r=>r
 |.bool _,cs,r=>r
 |.prop _ _,cs,r=>r
 |.str _,cs,r=>r
 |.agg ds,cs,r=>by simp only[RepC]at r⊢;exact RepCs.later h ds cs r
 |.tuple ds,cs,r=>by simp only[RepC]at r⊢;obtain⟨css,h1,h2⟩:=r;exact⟨css,Aq.later h ds css h1,h2⟩
 |.nilp,cs,r=>r
 |.nils,cs,r=>r
 |.nilm,cs,r=>r
 |.nilf,cs,r=>r
 |.nili,cs,r=>r
 |.iface t d,cs,r=>by simp only[RepC]at r⊢;obtain⟨c,h1,h2⟩:=r;exact⟨c,RepC.later h d c h1,h2⟩
 |
  .ref d,cs,r=>by
  simp only[RepC]at r⊢
  obtain⟨b,o,c,h1,h2,h3,h4,h5⟩:=r
  exact⟨b,o,c,h1,h.new b h2 h3,Bv h3 h.size,RepC.later h d c h4,h.cells h3 h2 h5⟩
 |
  .list k ds,cs,r=>by
  simp only[RepC]at r⊢
  obtain⟨a,c,css,h1,h2,h3,h4,h5,h6⟩:=r
  refine⟨a,c,css,h1,h2,h3,Aq.later h ds css h4,h5,h6.imp id ?_⟩
  rintro⟨b,o,g1,g2,g3,g4⟩
  exact⟨b,o,g1,h.new b g2 g3,Bv g3 h.size,h.cells g3 g2 g4⟩
 |
  .func fn f c,cs,r=>by
  simp only[RepC]at r⊢
  obtain⟨fs,cs',h1,h2,h3⟩:=r
  exact⟨fs,cs',Aq.later h f fs h1,Aq.later h c cs' h2,h3⟩
 |.raw _,cs,r=>r
theorem RepCs.later {O O':List Nat} {w w':World}(h:Later O w O' w'):∀(ds:List Da) (cs:List Value),RepCs O w ds cs->RepCs O' w' ds cs
 |[],cs,r=>r
 |
  d::ds,cs,r=>by
  simp only[RepCs]at r⊢
  obtain⟨c1,c2,h1,h2,h3⟩:=r
  exact⟨c1,c2,h1,RepC.later h d c1 h2,RepCs.later h ds c2 h3⟩
theorem Aq.later {O O':List Nat} {w w':World}(h:Later O w O' w'):∀(ds:List Da) (cs:List (List Value)),Aq O w ds cs->Aq O' w' ds cs
 |[],cs,r=>r
 |
  d::ds,cs,r=>by
  simp only[Aq]at r⊢
  obtain⟨c1,c2,h1,h2,h3⟩:=r
  exact⟨c1,c2,h1,RepC.later h d c1 h2,Aq.later h ds c2 h3⟩
end
theorem Rep.later {O O':List Nat} {w w':World}(h:Later O w O' w') {d:Da} {v:Value}(r:Rep O w d v):Rep O' w' d v:=by
 obtain⟨cs,h1,h2⟩:=r;exact⟨cs,RepC.later h d cs h1,h2⟩
theorem Jt.later {O O':List Nat} {w w':World}(h:Later O w O' w') {d:List Da} {v:List Value}(r:Jt O w d v):Jt O' w' d v:=by
 obtain⟨cs,h1,h2⟩:=r;exact⟨cs,Aq.later h d cs h1,h2⟩
def gsz:Da->Nat
 |.agg ds=>ds.length
 |_=>1
def GRep(O:List Nat)(w:World)(p:Nat×Da):Prop:=Rep O w (.ref p.2) (.pointer (some ⟨p.1,0,none⟩))/\p.1∉O/\∃cs t fr,w.heap[p.1]? =some (.cells cs t fr)/\cs.size=gsz p.2
theorem GRep.later {O O':List Nat} {w w':World}(h:Later O w O' w') {p:Nat×Da}(r:GRep O w p):GRep O' w' p:=by
 obtain⟨r1,r2,cs,t,fr,r3,r4⟩:=r
 have hlt:p.1<w.heap.size:=(Al.1 r3).1
 exact⟨r1.later h,h.new _ r2 hlt,cs,t,fr,by rw[h.blk _ hlt r2];exact r3,r4⟩
end Go.Sx
namespace Go.Sx
open Go Go.RowKit Go.Reg
inductive Dat where
 |d (x:Da)
 |own (i:Nat)
 |at_ (i off:Nat)
 |el (i k n off:Nat)
 |agg (ds:List Dat)
 |tuple (ds:List Dat)
 |iface (t:TypeId) (d:Dat)
 |func (fn:Fn) (first captured:List Dat)
def Cf:Dat->List Value->Value
 |.d x,cs=>DZ x cs
 |.agg _,cs=>.agg cs.toArray
 |_,cs=>cs.headD undef
mutual
def AJ(η:Nat->Value)(I O:List Nat)(w:World):Dat->List Value->Prop
 |.d x,cs=>RepC O w x cs
 |.own i,cs=>i∈I/\cs=[η i]
 |.at_ i off,cs=>i∈I/\∃b,η i=.pointer (some ⟨b,0,none⟩)/\cs=[.pointer (some ⟨b,off,none⟩)]
 |.el i k n off,cs=>i∈I/\∃b l c,η i=.slice (some ⟨b,0,none⟩) l c/\cs=[.pointer (some ⟨b,n*k+off,none⟩)]
 |.agg ds,cs=>B6 η I O w ds cs
 |.tuple ds,cs=>∃css,AG η I O w ds css/\cs=[.tuple (List.zipWith Cf ds css).toArray]
 |.iface t d,cs=>∃c,AJ η I O w d c/\cs=[.iface t (Cf d c)]
 |.func fn f c,cs=>∃fs cs',AG η I O w f fs/\AG η I O w c cs'/\cs=[.func fn (List.zipWith Cf f fs).toArray (List.zipWith Cf c cs').toArray]
def B6(η:Nat->Value)(I O:List Nat)(w:World):List Dat->List Value->Prop
 |[],cs=>cs=[]
 |d::ds,cs=>∃c1 c2,cs=c1++c2/\AJ η I O w d c1/\B6 η I O w ds c2
def AG(η:Nat->Value)(I O:List Nat)(w:World):List Dat->List (List Value)->Prop
 |[],css=>css=[]
 |d::ds,css=>∃c1 c2,css=c1::c2/\AJ η I O w d c1/\AG η I O w ds c2
end
mutual
def kill(i:Nat)(x:Da):Dat->Dat
 |.own j=>match Nat.beq j i with|true=>.d x|false=>.own j
 |.at_ j o=>match Nat.beq j i with|true=>.d .undef|false=>.at_ j o
 |.el j k n o=>match Nat.beq j i with|true=>.d .undef|false=>.el j k n o
 |.agg ds=>.agg (GB i x ds)
 |.tuple ds=>.tuple (GB i x ds)
 |.iface t d=>.iface t (kill i x d)
 |.func fn f c=>.func fn (GB i x f) (GB i x c)
 |.d x=>.d x
def GB(i:Nat)(x:Da):List Dat->List Dat
 |[]=>[]
 |d::ds=>kill i x d::GB i x ds
end
mutual
theorem AJ.later {η η':Nat->Value} {I I' O O':List Nat} {w w':World}(h:Later O w O' w')(hI:∀i∈I,i∈I'/\η' i=η i):∀(d:Dat) (cs:List Value),AJ η I O w d cs->AJ η' I' O' w' d cs
 |.d x,cs,r=>RepC.later h x cs r
 |.own i,cs,r=>by simp only[AJ]at r⊢;exact⟨(hI i r.1).1,by rw[(hI i r.1).2];exact r.2⟩
 |.at_ i off,cs,r=>by simp only[AJ]at r⊢;exact⟨(hI i r.1).1,by rw[(hI i r.1).2];exact r.2⟩
 |.el i k n off,cs,r=>by simp only[AJ]at r⊢;exact⟨(hI i r.1).1,by rw[(hI i r.1).2];exact r.2⟩
 |.agg ds,cs,r=>by simp only[AJ]at r⊢;exact B6.later h hI ds cs r
 |.tuple ds,cs,r=>by simp only[AJ]at r⊢;obtain⟨css,h1,h2⟩:=r;exact⟨css,AG.later h hI ds css h1,h2⟩
 |.iface t d,cs,r=>by simp only[AJ]at r⊢;obtain⟨c,h1,h2⟩:=r;exact⟨c,AJ.later h hI d c h1,h2⟩
 |
  .func fn f c,cs,r=>by
  simp only[AJ]at r⊢
  obtain⟨fs,cs',h1,h2,h3⟩:=r
  exact⟨fs,cs',AG.later h hI f fs h1,AG.later h hI c cs' h2,h3⟩
theorem B6.later {η η':Nat->Value} {I I' O O':List Nat} {w w':World}(h:Later O w O' w')(hI:∀i∈I,i∈I'/\η' i=η i):∀(ds:List Dat) (cs:List Value),B6 η I O w ds cs->B6 η' I' O' w' ds cs
 |[],cs,r=>r
 |
  d::ds,cs,r=>by
  simp only[B6]at r⊢
  obtain⟨c1,c2,h1,h2,h3⟩:=r
  exact⟨c1,c2,h1,AJ.later h hI d c1 h2,B6.later h hI ds c2 h3⟩
theorem AG.later {η η':Nat->Value} {I I' O O':List Nat} {w w':World}(h:Later O w O' w')(hI:∀i∈I,i∈I'/\η' i=η i):∀(ds:List Dat) (cs:List (List Value)),AG η I O w ds cs->AG η' I' O' w' ds cs
 |[],cs,r=>r
 |
  d::ds,cs,r=>by
  simp only[AG]at r⊢
  obtain⟨c1,c2,h1,h2,h3⟩:=r
  exact⟨c1,c2,h1,AJ.later h hI d c1 h2,AG.later h hI ds c2 h3⟩
end
theorem BM(j i:Nat):(Nat.beq j i=true/\j=i)\/(Nat.beq j i=false/\j≠i):=by
 cases hb:Nat.beq j i
 ·exact .inr ⟨rfl,λe=>by subst e;simp at hb⟩
 ·exact .inl ⟨rfl,Az hb⟩
def Da.one:Da->Bool
 |.agg _=>false
 |_=>true
theorem SR {x:Da}(h:x.one=true)(cs:List Value):DZ x cs=cs.headD undef:=by
 cases x<;>first|rfl|cases h
theorem QR {i:Nat} {x:Da}(hx:x.one=true)(d:Dat)(cs:List Value):Cf (kill i x d) cs=Cf d cs:=by
 cases d with
 |own j=>rcases BM j i with⟨h,_⟩|⟨h,_⟩<;>simp only[kill,h,Cf,SR hx]
 |at_ j o=>rcases BM j i with⟨h,_⟩|⟨h,_⟩<;>simp only[kill,h,Cf,DZ]
 |el j k n o=>rcases BM j i with⟨h,_⟩|⟨h,_⟩<;>simp only[kill,h,Cf,DZ]
 |_=>rfl
theorem FF {i:Nat} {x:Da}(hx:x.one=true):∀(ds:List Dat) (css:List (List Value)),List.zipWith Cf (GB i x ds) css=List.zipWith Cf ds css
 |[],css=>rfl
 |d::ds,[]=>by simp[GB]
 |d::ds,c::css=>by simp only[GB,Bf];rw[QR hx d c,FF hx ds css]
section
variable {η η':Nat->Value} {I I' O O':List Nat} {w w':World} {i:Nat} {x:Da}
mutual
theorem AJ.kill(hx:x.one=true)(hl:Later O w O' w')(hI:∀j∈I,j≠i->j∈I'/\η' j=η j)(hr:RepC O' w' x [η i]):∀(d:Dat) (cs:List Value),AJ η I O w d cs->AJ η' I' O' w' (kill i x d) cs
 |.d y,cs,r=>RepC.later hl y cs r
 |
  .own j,cs,r=>by
  simp only[AJ]at r
  rcases BM j i with⟨h,e⟩|⟨h,e⟩
  ·subst e;simp only[Sx.kill,h,AJ];rw[r.2];exact hr
  ·simp only[Sx.kill,h,AJ];exact⟨(hI j r.1 e).1,by rw[(hI j r.1 e).2];exact r.2⟩
 |
  .at_ j off,cs,r=>by
  simp only[AJ]at r
  rcases BM j i with⟨h,e⟩|⟨h,e⟩
  ·simp only[Sx.kill,h,AJ,RepC];obtain⟨_,b,_,h⟩:=r;exact⟨_,h⟩
  ·simp only[Sx.kill,h,AJ];exact⟨(hI j r.1 e).1,by rw[(hI j r.1 e).2];exact r.2⟩
 |
  .el j k n off,cs,r=>by
  simp only[AJ]at r
  rcases BM j i with⟨h,e⟩|⟨h,e⟩
  ·simp only[Sx.kill,h,AJ,RepC];obtain⟨_,b,l,c,_,h⟩:=r;exact⟨_,h⟩
  ·simp only[Sx.kill,h,AJ];exact⟨(hI j r.1 e).1,by rw[(hI j r.1 e).2];exact r.2⟩
 |.agg ds,cs,r=>by simp only[AJ,Sx.kill]at r⊢;exact B6.kill hx hl hI hr ds cs r
 |.tuple ds,cs,r=>by simp only[AJ,Sx.kill]at r⊢;obtain⟨css,h1,h2⟩:=r;exact⟨css,AG.kill hx hl hI hr ds css h1,by rw[FF hx];exact h2⟩
 |.iface t d,cs,r=>by simp only[AJ,Sx.kill]at r⊢;obtain⟨c,h1,h2⟩:=r;exact⟨c,AJ.kill hx hl hI hr d c h1,by rw[QR hx];exact h2⟩
 |
  .func fn f c,cs,r=>by
  simp only[AJ,Sx.kill]at r⊢
  obtain⟨fs,cs',h1,h2,h3⟩:=r
  exact⟨fs,cs',AG.kill hx hl hI hr f fs h1,AG.kill hx hl hI hr c cs' h2,by rw[FF hx,FF hx];exact h3⟩
theorem B6.kill(hx:x.one=true)(hl:Later O w O' w')(hI:∀j∈I,j≠i->j∈I'/\η' j=η j)(hr:RepC O' w' x [η i]):∀(ds:List Dat) (cs:List Value),B6 η I O w ds cs->B6 η' I' O' w' (GB i x ds) cs
 |[],cs,r=>r
 |
  d::ds,cs,r=>by
  simp only[B6,GB]at r⊢
  obtain⟨c1,c2,h1,h2,h3⟩:=r
  exact⟨c1,c2,h1,AJ.kill hx hl hI hr d c1 h2,B6.kill hx hl hI hr ds c2 h3⟩
theorem AG.kill(hx:x.one=true)(hl:Later O w O' w')(hI:∀j∈I,j≠i->j∈I'/\η' j=η j)(hr:RepC O' w' x [η i]):∀(ds:List Dat) (cs:List (List Value)),AG η I O w ds cs->AG η' I' O' w' (GB i x ds) cs
 |[],cs,r=>r
 |
  d::ds,cs,r=>by
  simp only[AG,GB]at r⊢
  obtain⟨c1,c2,h1,h2,h3⟩:=r
  exact⟨c1,c2,h1,AJ.kill hx hl hI hr d c1 h2,AG.kill hx hl hI hr ds c2 h3⟩
end
end
inductive Own where
 |cells (T:TypeId) (ds:List Dat)
 |slice (E k:Nat) (ds:List Da)
 |abs (R:World->Value->List Nat->Prop) (keep:∀(S:List Nat) w w' v F,R w v F->Tch S w w'->(∀x∈F,x∉S)->R w' v F) (lt:∀w v F,R w v F->∀x∈F,x<w.heap.size) (one:∀w v F,R w v F->v.oneCell'=true)
 |ghost (vs:List Value) (ds:List Dat)
 |absd (R:World->Value->List Nat->List Value->Prop) (keep:∀(S:List Nat) w w' v F us,R w v F us->Tch S w w'->(∀x∈F,x∉S)->R w' v F us) (lt:∀w v F us,R w v F us->∀x∈F,x<w.heap.size) (one:∀w v F us,R w v F us->v.oneCell'=true) (ds:List Dat)
def Own.holds(η:Nat->Value)(I O:List Nat)(w:World):Own->Value->List Nat->Prop
 |.cells T ds,v,F=>∃b cs,v=.pointer (some ⟨b,0,none⟩)/\F=[b]/\IT w b T cs/\B6 η I O w ds cs
 |.slice E k ds,v,F=>∃css,Sl E k id w v css/\F=v.ownBlock.toList/\Aq O w ds css/\(∀x∈css,EN k x)
 |.abs R _ _ _,v,F=>R w v F
 |.ghost vs ds,v,F=>v=.nilFunc/\F=[]/\∃css,AG η I O w ds css/\vs=List.zipWith Cf ds css
 |.absd R _ _ _ ds,v,F=>∃css,AG η I O w ds css/\R w v F (List.zipWith Cf ds css)
theorem Own.holds.lt {η:Nat->Value} {I O:List Nat} {w:World} {o:Own} {v:Value} {F:List Nat}(h:o.holds η I O w v F):∀b∈F,b<w.heap.size:=by
 cases o with
 |
  cells T ds=>
  obtain⟨b,cs,rfl,rfl,hb,_⟩:=h
  intro x hx;simp at hx;subst hx;exact hb.lt
 |
  slice E k ds=>
  obtain⟨css,hs,rfl,_⟩:=h
  intro x hx;exact hs.lt (by simpa using hx)
 |abs R k lt _=>exact lt _ _ _ h
 |ghost vs ds=>obtain⟨_,rfl,_⟩:=h;simp
 |absd R k lt _ ds=>obtain⟨css,_,h⟩:=h;exact lt _ _ _ _ h
theorem Own.holds.later {η η':Nat->Value} {I I' O O' S:List Nat} {w w':World} {o:Own} {v:Value} {F:List Nat}(h:o.holds η I O w v F)(hl:Later O w O' w')(hI:∀i∈I,i∈I'/\η' i=η i)(ht:Tch S w w')(hF:∀x∈F,x∉S):o.holds η' I' O' w' v F:=by
 cases o with
 |
  cells T ds=>
  obtain⟨b,cs,rfl,rfl,hb,hr⟩:=h
  exact⟨b,cs,rfl,rfl,hb.keep ht (hF b (by simp)),B6.later hl hI _ _ hr⟩
 |
  slice E k ds=>
  obtain⟨css,hs,rfl,hr,hk⟩:=h
  exact⟨css,hs.keep ht (λb hb=>hF b (by simpa using hb)),rfl,Aq.later hl _ _ hr,hk⟩
 |abs R k lt _=>exact k S w w' v F h ht hF
 |ghost vs ds=>obtain⟨h1,h2,css,h3,h4⟩:=h;exact⟨h1,h2,css,AG.later hl hI _ _ h3,h4⟩
 |absd R k lt _ ds=>obtain⟨css,h3,h4⟩:=h;exact⟨css,AG.later hl hI _ _ h3,k S w w' v F _ h4 ht hF⟩
abbrev Sg:=List (Nat×Own)
abbrev Fr:=List (Nat×Dat)
def BB(σ:Sg):List Nat:=σ.map (·.1)
def Ao(φ:Nat->List Nat)(σ:Sg):List Nat:=σ.flatMap λp=>φ p.1
def BL(i:Nat)(x:Da):Own->Own
 |.cells T ds=>.cells T (GB i x ds)
 |.slice E k ds=>.slice E k ds
 |.abs R h l o=>.abs R h l o
 |.ghost vs ds=>.ghost vs (GB i x ds)
 |.absd R h l o ds=>.absd R h l o (GB i x ds)
structure Cx where
 P:Program
 Γ:List (Nat×Da)
structure Mem(C:Cx)(B S:List Nat)(w0:World)(σ:Sg)(η:Nat->Value)(φ:Nat->List Nat)(w:World):Prop where
 tch:Tch S w0 w
 own:∀p∈σ,p.2.holds η (BB σ) (B++Ao φ σ) w (η p.1) (φ p.1)
 nodup:(BB σ).Nodup
 disj:∀i∈BB σ,∀j∈BB σ,i≠j->∀b∈φ i,b∉φ j
 new:∀i∈BB σ,∀b∈φ i,(b∈S/\b∉B)\/w0.heap.size<=b
 out:∀b∈B,b<w0.heap.size
 glob:∀g∈C.Γ,GRep (B++Ao φ σ) w g
def get:Fr->Nat->Dat
 |[],_=>.d .undef
 |
  (t,d)::fr,s=>match Nat.beq t s with
  |true=>d
  |false=>get fr s
def HD(η:Nat->Value)(I O:List Nat)(w:World)(fr:Fr)(a:Act):Prop:=∀t,∃cs,AJ η I O w (get fr t) cs/\a.tmps.getD t undef=Cf (get fr t) cs
structure Models(C:Cx)(B S:List Nat)(w0:World)(n:Nat)(fr:Fr)(σ:Sg)(η:Nat->Value)(φ:Nat->List Nat)(a:Act)(w:World):Prop where
 mem:Mem C B S w0 σ η φ w
 fr:HD η (BB σ) (B++Ao φ σ) w fr a
 defers:a.defers=[]
 size:a.tmps.size=n
theorem Mem.lt {C:Cx} {B S:List Nat} {w0 w:World} {σ:Sg} {η:Nat->Value} {φ:Nat->List Nat}(h:Mem C B S w0 σ η φ w):∀b∈B++Ao φ σ,b<w.heap.size:=by
 intro b hb
 rcases Ag.1 hb with hb|hb
 ·exact Bv (h.out b hb) h.tch.size
 ·obtain⟨p,hp,hb⟩:=AL.1 hb
  exact(h.own p hp).lt b hb
theorem AW {σ:Sg} {p:Nat×Own}(h:p∈σ):p.1∈BB σ:=Cw h
theorem B5 {φ:Nat->List Nat} {σ:Sg} {i:Nat} {b:Nat}(h:i∈BB σ)(hb:b∈φ i):b∈Ao φ σ:=by
 obtain⟨p,hp,rfl⟩:=An.1 h
 exact AL.2 ⟨p,hp,hb⟩
theorem RepC.undef_ex(O:List Nat)(w:World)(v:Value):RepC O w .undef [v]:=by simp[RepC]
theorem HD.put {η:Nat->Value} {I O:List Nat} {w:World} {fr:Fr} {a:Act}(h:HD η I O w fr a) {t:Nat}(ht:t<a.tmps.size) {d:Dat} {v:Value} {cs:List Value}(hd:AJ η I O w d cs)(hv:v=Cf d cs):HD η I O w ((t,d)::fr) (a.put (some t) v):=by
 intro s
 simp only[get,Act.put]
 by_cases hs:t=s
 ·subst hs
  simp only[Nat.beq_refl]
  exact⟨cs,hd,by simp[Array.getD,ht,hv]⟩
 ·have:Nat.beq t s=false:=by
   cases hb:Nat.beq t s
   ·rfl
   ·exact absurd (Az hb) hs
  rw[this]
  obtain⟨c,h1,h2⟩:=h s
  refine⟨c,h1,?_⟩
  rw[<-h2]
  simp[Array.getElem?_setIfInBounds_ne hs]
theorem HD.later {η η':Nat->Value} {I I' O O':List Nat} {w w':World} {fr:Fr} {a:Act}(h:HD η I O w fr a)(hl:Later O w O' w')(hI:∀i∈I,i∈I'/\η' i=η i):HD η' I' O' w' fr a:=by
 intro t
 obtain⟨cs,h1,h2⟩:=h t
 exact⟨cs,AJ.later hl hI _ _ h1,h2⟩
def Fe(i:Nat)(x:Da):Fr->Fr
 |[]=>[]
 |(t,d)::fr=>(t,kill i x d)::Fe i x fr
theorem Xd(i:Nat)(x:Da):∀(fr:Fr) (t:Nat),get (Fe i x fr) t=kill i x (get fr t)
 |[],t=>rfl
 |
  (s,d)::fr,t=>by
  simp only[Fe,get]
  cases Nat.beq s t
  ·exact Xd i x fr t
  ·rfl
theorem HD.kill {η η':Nat->Value} {I I' O O':List Nat} {w w':World} {fr:Fr} {a:Act} {i:Nat} {x:Da}(h:HD η I O w fr a)(hx:x.one=true)(hl:Later O w O' w')(hI:∀j∈I,j≠i->j∈I'/\η' j=η j)(hr:RepC O' w' x [η i]):HD η' I' O' w' (Fe i x fr) a:=by
 intro t
 obtain⟨cs,h1,h2⟩:=h t
 rw[Xd]
 exact⟨cs,AJ.kill hx hl hI hr _ _ h1,by rw[QR hx];exact h2⟩
theorem Own.holds.kill {η η':Nat->Value} {I I' O O' S:List Nat} {w w':World} {o:Own} {v:Value} {F:List Nat} {i:Nat} {x:Da}(h:o.holds η I O w v F)(hx:x.one=true)(hl:Later O w O' w')(hI:∀j∈I,j≠i->j∈I'/\η' j=η j)(hr:RepC O' w' x [η i])(ht:Tch S w w')(hF:∀y∈F,y∉S):(BL i x o).holds η' I' O' w' v F:=by
 cases o with
 |
  cells T ds=>
  obtain⟨b,cs,rfl,rfl,hb,hd⟩:=h
  exact⟨b,cs,rfl,rfl,hb.keep ht (hF b (by simp)),B6.kill hx hl hI hr _ _ hd⟩
 |
  slice E k ds=>
  obtain⟨css,hs,rfl,hd,hk⟩:=h
  exact⟨css,hs.keep ht (λb hb=>hF b (by simpa using hb)),rfl,Aq.later hl _ _ hd,hk⟩
 |abs R k lt _=>exact k S w w' v F h ht hF
 |ghost vs ds=>obtain⟨h1,h2,css,h3,h4⟩:=h;exact⟨h1,h2,css,AG.kill hx hl hI hr _ _ h3,by rw[FF hx];exact h4⟩
 |absd R k lt _ ds=>obtain⟨css,h3,h4⟩:=h;exact⟨css,AG.kill hx hl hI hr _ _ h3,by rw[FF hx];exact k S w w' v F _ h4 ht hF⟩
end Go.Sx
namespace Go.Sx
open Go Go.RowKit Go.Reg
variable {C:Cx} {B S:List Nat} {w0 w w':World} {σ:Sg} {η η':Nat->Value} {φ φ':Nat->List Nat} {i:Nat} {o:Own}
theorem Later.same(h:Tch [] w w')(O:List Nat):Later O w O w':=⟨h.size,λb hb _=>h.blk b hb (by simp),λ_ h _=>h⟩
theorem Later.touch {X O:List Nat}(h:Tch X w w')(hX:∀b∈X,b∈O):Later O w O w':=⟨h.size,λb hb hn=>h.blk b hb (λhm=>hn (hX b hm)),λ_ h _=>h⟩
theorem Mem.grow(h:Mem C B S w0 σ η φ w)(t:Tch [] w w'):Mem C B S w0 σ η φ w':=
 ⟨h.tch.then0 t,λp hp=>(h.own p hp).later (Later.same t _) (λi hi=>⟨hi,rfl⟩) t (λ_ _=>by simp),h.nodup,h.disj,h.new,h.out,λg hg=>(h.glob g hg).later (Later.same t _)⟩
def CE {α:Type}(f:Nat->α)(i:Nat)(v:α):Nat->α:=λj=>if j=i then v else f j
theorem Cj {α:Type}(f:Nat->α)(i:Nat)(v:α):CE f i v i=v:=by simp[CE]
theorem BV {α:Type}(f:Nat->α)(i:Nat)(v:α) {j:Nat}(h:j≠i):CE f i v j=f j:=by simp[CE,h]
theorem L0:∀{σ:Sg},(∀j∈BB σ,φ' j=φ j)->Ao φ' σ=Ao φ σ
 |[],_=>rfl
 |
  p::σ,h=>by
  have h1:=h p.1 (by simp[BB])
  have h2:=L0 (σ:=σ) (λj hj=>h j (by simp only[BB,Ap,Ai]at hj⊢;exact .inr hj))
  simp only[Ao,BE]at h2⊢
  rw[h1,h2]
theorem lB {F:List Nat}(hi:i∉BB σ):Ao (CE φ i F) ((i,o)::σ)=F++Ao φ σ:=by
 have:=L0 (φ:=φ) (φ':=CE φ i F) (σ:=σ) (λj hj=>BV _ _ _ (λe=>hi (e▸hj)))
 simp only[Ao,BE,Cj]at this⊢
 rw[this]
theorem Mem.add(h:Mem C B S w0 σ η φ w)(t:Tch [] w w')(hi:i∉BB σ) {v:Value} {F:List Nat}(hF:∀b∈F,w.heap.size<=b)
  (ho:o.holds (CE η i v) (i::BB σ) (B++(F++Ao φ σ)) w' v F):Mem C B S w0 ((i,o)::σ) (CE η i v) (CE φ i F) w'/\Later (B++Ao φ σ) w (B++Ao (CE φ i F) ((i,o)::σ)) w':=by
 have hb:=lB (φ:=φ) (o:=o) (F:=F) hi
 have hl:Later (B++Ao φ σ) w (B++Ao (CE φ i F) ((i,o)::σ)) w':=by
  refine⟨t.size,λb h _=>t.blk b h (by simp),λb hn hs hm=>?_⟩
  rw[hb]at hm
  rcases Ag.1 hm with hm|hm
  ·exact hn (Av _ hm)
  ·rcases Ag.1 hm with hm|hm
   ·have:=hF b hm;omega
   ·exact hn (Aw _ hm)
 refine⟨⟨h.tch.then0 t,?_,?_,?_,?_,h.out,λg hg=>(h.glob g hg).later hl⟩,hl⟩
 ·intro p hp
  rcases Ai.1 hp with rfl|hp
  ·simp only[Cj];rw[hb];exact ho
  ·have hne:p.1≠i:=λe=>hi (e▸AW hp)
   rw[BV _ _ _ hne,BV _ _ _ hne]
   exact(h.own p hp).later hl (λ_ hj=>⟨AA _ hj,BV _ _ _ (λe=>hi (e▸hj))⟩) t (λ_ _=>by simp)
 ·exact Cp.2 ⟨hi,h.nodup⟩
 ·intro j hj k hk hjk b hb1 hb2
  have hlt:∀m∈BB σ,∀b∈φ m,b<w.heap.size:=λm hm b hb=>h.lt b (Aw _ (B5 hm hb))
  rcases Ai.1 hj with e0|hj
  ·replace e0:j=i:=e0
   rcases Ai.1 hk with e3|hk
   ·exact hjk (e0.trans (Eq.symm e3))
   ·rw[e0,Cj]at hb1;rw[BV _ _ _ (λe=>hjk (e0.trans e.symm))]at hb2
    have:=hF b hb1;have:=hlt k hk b hb2;omega
  ·rcases Ai.1 hk with e3|hk
   ·replace e3:k=i:=e3
    rw[e3,Cj]at hb2;rw[BV _ _ _ (λe=>hjk (e.trans e3.symm))]at hb1
    have:=hF b hb2;have:=hlt j hj b hb1;omega
   ·have e1:j≠i:=λe=>hi (e▸hj)
    have e2:k≠i:=λe=>hi (e▸hk)
    rw[BV _ _ _ e1]at hb1;rw[BV _ _ _ e2]at hb2
    exact h.disj j hj k hk hjk b hb1 hb2
 ·intro j hj b hb1
  rcases Ai.1 hj with e0|hj
  ·replace e0:j=i:=e0
   rw[e0,Cj]at hb1
   have:=hF b hb1;have:=h.tch.size;right;omega
  ·have e1:j≠i:=λe=>hi (e▸hj)
   rw[BV _ _ _ e1]at hb1
   exact h.new j hj b hb1
theorem HD.add {fr:Fr} {a:Act}(h:HD η (BB σ) (B++Ao φ σ) w fr a)(hi:i∉BB σ) {v:Value} {F:List Nat}(hl:Later (B++Ao φ σ) w (B++Ao (CE φ i F) ((i,o)::σ)) w'):
  HD (CE η i v) (BB ((i,o)::σ)) (B++Ao (CE φ i F) ((i,o)::σ)) w' fr a:=
 h.later hl (λ_ hj=>⟨AA _ hj,BV _ _ _ (λe=>hi (e▸hj))⟩)
def BJ(i:Nat):Sg->Option Own
 |[]=>none
 |
  (j,o)::σ=>match Nat.beq j i with
  |true=>some o
  |false=>BJ i σ
def AX(g:Own->Own)(i:Nat)(o:Own):Sg->Sg
 |[]=>[]
 |
  (j,p)::σ=>match Nat.beq j i with
  |true=>(j,o)::AX g i o σ
  |false=>(j,g p)::AX g i o σ
def Db(g:Own->Own)(i:Nat):Sg->Sg
 |[]=>[]
 |
  (j,p)::σ=>match Nat.beq j i with
  |true=>Db g i σ
  |false=>(j,g p)::Db g i σ
theorem AT:∀{σ:Sg},BJ i σ=some o->(i,o)∈σ
 |[],h=>by simp[BJ]at h
 |
  (j,p)::σ,h=>by
  rcases BM j i with⟨hb,e⟩|⟨hb,e⟩
  ·simp only[BJ,hb,AD]at h;subst e;subst h;simp
  ·simp only[BJ,hb]at h;exact AA _ (AT h)
theorem AY(g:Own->Own)(i:Nat)(o:Own):∀σ:Sg,BB (AX g i o σ)=BB σ
 |[]=>rfl
 |
  (j,p)::σ=>by
  have ih:=AY g i o σ
  simp only[BB]at ih
  rcases BM j i with⟨hb,e⟩|⟨hb,e⟩<;>simp only[AX,hb,BB,Ap,ih]
theorem Gt {g:Own->Own}:∀{σ:Sg} {p:Nat×Own},p∈AX g i o σ->p=(i,o)\/∃q∈σ,q.1≠i/\p=(q.1,g q.2)
 |[],p,h=>by simp[AX]at h
 |
  (j,q)::σ,p,h=>by
  rcases BM j i with⟨hb,e⟩|⟨hb,e⟩
  ·simp only[AX,hb]at h
   rcases Ai.1 h with rfl|h
   ·subst e;exact .inl rfl
   ·rcases Gt h with h|⟨q',hq,h1,h2⟩
    ·exact .inl h
    ·exact .inr ⟨q',AA _ hq,h1,h2⟩
  ·simp only[AX,hb]at h
   rcases Ai.1 h with rfl|h
   ·exact .inr ⟨(j,q),by simp,e,rfl⟩
   ·rcases Gt h with h|⟨q',hq,h1,h2⟩
    ·exact .inl h
    ·exact .inr ⟨q',AA _ hq,h1,h2⟩
theorem Fc {g:Own->Own}:∀{σ:Sg} {p:Nat×Own},p∈Db g i σ->∃q∈σ,q.1≠i/\p=(q.1,g q.2)
 |[],p,h=>by simp[Db]at h
 |
  (j,q)::σ,p,h=>by
  rcases BM j i with⟨hb,e⟩|⟨hb,e⟩
  ·simp only[Db,hb]at h
   obtain⟨q',hq,h1,h2⟩:=Fc h
   exact⟨q',AA _ hq,h1,h2⟩
  ·simp only[Db,hb]at h
   rcases Ai.1 h with rfl|h
   ·exact⟨(j,q),by simp,e,rfl⟩
   ·obtain⟨q',hq,h1,h2⟩:=Fc h
    exact⟨q',AA _ hq,h1,h2⟩
theorem DI(g:Own->Own)(i:Nat):∀σ:Sg,BB (Db g i σ)=(BB σ).filter (· !=i)
 |[]=>rfl
 |
  (j,p)::σ=>by
  have ih:=DI g i σ
  simp only[BB]at ih
  rcases BM j i with⟨hb,e⟩|⟨hb,e⟩
  ·subst e;simp only[Db,hb,BB,Ap,ih];simp
  ·simp only[Db,hb,BB,Ap,ih];simp[e]
theorem Gk {g:Own->Own}(F:List Nat):∀b,b∈Ao (CE φ i F) (AX g i o σ)->b∈F\/∃j∈BB σ,j≠i/\b∈φ j:=by
 intro b hb
 obtain⟨p,hp,hb⟩:=AL.1 hb
 rcases Gt hp with rfl|⟨q,hq,h1,rfl⟩
 ·simp only[Cj]at hb;exact .inl hb
 ·simp only[BV _ _ _ h1]at hb;exact .inr ⟨q.1,AW hq,h1,hb⟩
theorem Mem.turn(h:Mem C B S w0 σ η φ w) {X:List Nat}(t:Tch X w w')(hX:∀b∈X,b∈φ i)(hi:i∈BB σ) {v:Value} {F:List Nat}(hF:∀b∈F,b∈φ i\/w.heap.size<=b) {g:Own->Own}
  (hl:Later (B++Ao φ σ) w (B++Ao (CE φ i F) (AX g i o σ)) w')
  (hg:∀q∈σ,q.1≠i->q.2.holds η (BB σ) (B++Ao φ σ) w (η q.1) (φ q.1)->(g q.2).holds (CE η i v) (BB σ) (B++Ao (CE φ i F) (AX g i o σ)) w' (η q.1) (φ q.1))
  (ho:o.holds (CE η i v) (BB σ) (B++Ao (CE φ i F) (AX g i o σ)) w' v F):Mem C B S w0 (AX g i o σ) (CE η i v) (CE φ i F) w':=by
 have hX':∀b∈X,b∈S\/w0.heap.size<=b:=λb hb=>(h.new i hi b (hX b hb)).imp (λh=>h.1) id
 have hlt:∀m∈BB σ,∀b∈φ m,b<w.heap.size:=λm hm b hb=>h.lt b (Aw _ (B5 hm hb))
 refine⟨h.tch.trans t (λ_ h=>h) hX',?_,by rw[AY];exact h.nodup,?_,?_,h.out,λg hg=>(h.glob g hg).later hl⟩
 ·intro p hp
  rw[AY]
  rcases Gt hp with rfl|⟨q,hq,h1,rfl⟩
  ·simp only[Cj];exact ho
  ·simp only[BV _ _ _ h1]
   exact hg q hq h1 (h.own q hq)
 ·rw[AY]
  intro j hj k hk hjk b hb1 hb2
  by_cases e1:j=i
  ·subst e1
   rw[Cj]at hb1;rw[BV _ _ _ (Ne.symm hjk)]at hb2
   rcases hF b hb1 with h1|h1
   ·exact h.disj j hj k hk hjk b h1 hb2
   ·have:=hlt k hk b hb2;omega
  ·rw[BV _ _ _ e1]at hb1
   by_cases e2:k=i
   ·subst e2
    rw[Cj]at hb2
    rcases hF b hb2 with h1|h1
    ·exact h.disj j hj k hk hjk b hb1 h1
    ·have:=hlt j hj b hb1;omega
   ·rw[BV _ _ _ e2]at hb2
    exact h.disj j hj k hk hjk b hb1 hb2
 ·rw[AY]
  intro j hj b hb1
  by_cases e1:j=i
  ·subst e1
   rw[Cj]at hb1
   rcases hF b hb1 with h1|h1
   ·exact h.new j hj b h1
   ·have:=h.tch.size;right;omega
  ·rw[BV _ _ _ e1]at hb1
   exact h.new j hj b hb1
theorem Later.turn(B:List Nat) {X:List Nat}(t:Tch X w w')(hX:∀b∈X,b∈φ i)(hi:i∈BB σ) {F:List Nat}(hF:∀b∈F,b∈φ i\/w.heap.size<=b)(g:Own->Own)(o:Own):
  Later (B++Ao φ σ) w (B++Ao (CE φ i F) (AX g i o σ)) w':=by
 refine⟨t.size,λb hb hn=>t.blk b hb (λhm=>hn (Aw _ (B5 hi (hX b hm)))),λb hn hs hm=>?_⟩
 rcases Ag.1 hm with hm|hm
 ·exact hn (Av _ hm)
 ·rcases Gk F b hm with hm|⟨j,hj,_,hm⟩
  ·rcases hF b hm with hm|hm
   ·exact hn (Aw _ (B5 hi hm))
   ·omega
  ·exact hn (Aw _ (B5 hj hm))
theorem Mem.turnSame(h:Mem C B S w0 σ η φ w) {X:List Nat}(t:Tch X w w')(hX:∀b∈X,b∈φ i)(hi:i∈BB σ) {F:List Nat}(hF:∀b∈F,b∈φ i\/w.heap.size<=b)
  (ho:o.holds η (BB σ) (B++Ao (CE φ i F) (AX id i o σ)) w' (η i) F):Mem C B S w0 (AX id i o σ) η (CE φ i F) w':=by
 have he:CE η i (η i)=η:=by funext j;by_cases e:j=i<;>simp[CE,e]
 have hl:=Later.turn B t hX hi hF id o
 have:=h.turn (v:=η i) (g:=id) t hX hi hF hl (λq hq hne hh=>by
  rw[he]
  exact hh.later hl (λj hj=>⟨hj,rfl⟩) t (λb hb hm=>h.disj q.1 (AW hq) i hi hne b hb (hX b hm))) (by rw[he];exact ho)
 rw[he]at this
 exact this
theorem Mem.turnKill(h:Mem C B S w0 σ η φ w) {X:List Nat}(t:Tch X w w')(hX:∀b∈X,b∈φ i)(hi:i∈BB σ) {v:Value} {F:List Nat}(hF:∀b∈F,b∈φ i\/w.heap.size<=b)
  (ho:o.holds (CE η i v) (BB σ) (B++Ao (CE φ i F) (AX (BL i .undef) i o σ)) w' v F):Mem C B S w0 (AX (BL i .undef) i o σ) (CE η i v) (CE φ i F) w':=by
 have hl:=Later.turn B t hX hi hF (BL i .undef) o
 exact h.turn t hX hi hF hl (λq hq hne hh=>hh.kill rfl hl (λj hj hne=>⟨hj,BV _ _ _ hne⟩) ⟨_,rfl⟩ t (λb hb hm=>h.disj q.1 (AW hq) i hi hne b hb (hX b hm))) ho
theorem Mem.del(h:Mem C B S w0 σ η φ w) {x:Da}(hx:x.one=true)(hr:RepC (B++Ao φ (Db (BL i x) i σ)) w x [η i]):
  Mem C B S w0 (Db (BL i x) i σ) η φ w/\Later (B++Ao φ σ) w (B++Ao φ (Db (BL i x) i σ)) w:=by
 have hl:Later (B++Ao φ σ) w (B++Ao φ (Db (BL i x) i σ)) w:=by
  refine⟨Ay _,λ_ _ _=>rfl,λb hn hs hm=>?_⟩
  rcases Ag.1 hm with hm|hm
  ·exact hn (Av _ hm)
  ·obtain⟨p,hp,hb⟩:=AL.1 hm
   obtain⟨q,hq,_,rfl⟩:=Fc hp
   exact hn (Aw _ (B5 (AW hq) hb))
 have hI:∀j∈BB σ,j≠i->j∈BB (Db (BL i x) i σ)/\η j=η j:=λj hj hne=>⟨by rw[DI];exact A0.2 ⟨hj,by simpa using hne⟩,rfl⟩
 have hsub:∀j∈BB (Db (BL i x) i σ),j∈BB σ:=λj hj=>by rw[DI]at hj;exact(A0.1 hj).1
 refine⟨⟨h.tch,?_,?_,?_,?_,h.out,λg hg=>(h.glob g hg).later hl⟩,hl⟩
 ·intro p hp
  obtain⟨q,hq,hne,rfl⟩:=Fc hp
  exact(h.own q hq).kill hx hl hI hr (Tch.refl [] w) (λ_ _=>by simp)
 ·rw[DI];exact h.nodup.filter _
 ·exactλj hj k hk=>h.disj j (hsub j hj) k (hsub k hk)
 ·exactλj hj=>h.new j (hsub j hj)
end Go.Sx
namespace Go.Sx
open Go Go.RowKit Go.Reg
structure TyI where
 agg:Bool
 size:Nat
 bytes:Nat
 flds:List (Nat×TypeId)
 zero:Da
 elem:TypeId
 ik:Option IntKind
 kd:Nat
 cmp:Bool
abbrev Hb:=List (TypeId×TyI)
def GL(t:TypeId):Hb->Option TyI
 |[]=>none
 |
  (u,e)::l=>match Nat.beq u t with
  |true=>some e
  |false=>GL t l
mutual
def Da.size:Da->Nat
 |.agg ds=>mH ds
 |_=>1
def mH:List Da->Nat
 |[]=>0
 |d::ds=>d.size+mH ds
end
def Da.isAgg:Da->Bool
 |.agg _=>true
 |_=>false
mutual
def Dat.size:Dat->Nat
 |.d x=>x.size
 |.agg ds=>O4 ds
 |_=>1
def O4:List Dat->Nat
 |[]=>0
 |d::ds=>d.size+O4 ds
end
def Dat.isAgg:Dat->Bool
 |.d x=>x.isAgg
 |.agg _=>true
 |_=>false
def Dat.fits(d:Dat)(e:TyI):Bool:=(d.isAgg==e.agg)&&Nat.beq d.size e.size
def Da.fits(d:Da)(e:TyI):Bool:=(d.isAgg==e.agg)&&Nat.beq d.size e.size
mutual
def Da.stor:Da->Bool
 |.undef|.tuple _|.raw _=>false
 |.agg ds=>mE ds
 |_=>true
def mE:List Da->Bool
 |[]=>true
 |d::ds=>d.stor&&mE ds
end
mutual
def Dat.stor:Dat->Bool
 |.d x=>x.stor
 |.tuple _=>false
 |.agg ds=>XC ds
 |_=>true
def XC:List Dat->Bool
 |[]=>true
 |d::ds=>d.stor&&XC ds
end
def Cr:List Da->List Dat
 |[]=>[]
 |x::xs=>.d x::Cr xs
def Dat.parts:Dat->Option (List Dat)
 |.d (.agg xs)=>some (Cr xs)
 |.agg ds=>some ds
 |_=>none
def Dat.cellsOf(d:Dat):List Dat:=match d with
 |.d (.agg xs)=>Cr xs
 |.agg ds=>ds
 |d=>[d]
def Lm(e:TyI):Nat->List Dat->Nat->Option Dat
 |0,_,_=>none
 |_+1,[],_=>none
 |
  f+1,d::ds,o=>match Nat.blt o d.size with
  |false=>Lm e f ds (o-d.size)
  |
   true=>match Nat.beq o 0&&d.fits e with
   |true=>some d
   |
    false=>match d.parts with
    |some es=>Lm e f es o
    |none=>none
def ACZ(d:Dat):Option (List Dat)->Option (List Dat)
 |some l=>some (d::l)
 |none=>none
def AEW(ds:List Dat):Option (List Dat)->Option (List Dat)
 |some l=>some (.agg l::ds)
 |none=>none
def PL(x:Dat):Nat->List Dat->Nat->Option (List Dat)
 |0,_,_=>none
 |_+1,[],_=>none
 |
  f+1,d::ds,o=>match Nat.blt o d.size with
  |false=>ACZ d (PL x f ds (o-d.size))
  |
   true=>match Nat.beq o 0&&(d.isAgg==x.isAgg)&&Nat.beq d.size x.size with
   |true=>some (x::ds)
   |
    false=>match d.parts with
    |some es=>AEW ds (PL x f es o)
    |none=>none
def EU:List Dat->Option (List Da)
 |[]=>some []
 |
  .d x::ds=>match EU ds with
  |some xs=>some (x::xs)
  |none=>none
 |_::_=>none
def aL(ds:List Dat):Dat:=match EU ds with
 |some xs=>.d (.agg xs)
 |none=>.agg ds
def nB(ds:List Dat):Dat:=match EU ds with
 |some xs=>.d (.tuple xs)
 |none=>.tuple ds
def Yi(t:TypeId):Dat->Dat
 |.d x=>.d (.iface t x)
 |d=>.iface t d
def iS(fn:Fn)(f c:List Dat):Dat:=match EU f,EU c with
 |some fs,some cs=>.d (.func fn fs cs)
 |_,_=>.func fn f c
def Rj:Value->Da
 |.int k n=>.int k n
 |.bool b=>.bool b
 |.string s=>.str s
 |.pointer none=>.nilp
 |.slice none 0 0=>.nils
 |.map none=>.nilm
 |.nilFunc=>.nilf
 |.nilIface=>.nili
 |v=>.raw v
def mV:Value->Da
 |.agg cs=>.agg (cs.toList.map Rj)
 |v=>Rj v
def glob(g:Nat):List (Nat×Da)->Da
 |[]=>.raw (.pointer (some ⟨g,0,none⟩))
 |
  (h,x)::l=>match Nat.beq h g with
  |true=>.ref x
  |false=>glob g l
def ev(Γ:List (Nat×Da))(fr:Fr):Operand->Dat
 |.tmp t=>get fr t
 |.const v=>.d (mV v)
 |.global g=>.d (glob g Γ)
 |.func f=>.d (.func (.func f) [] [])
def uN(Γ:List (Nat×Da))(fr:Fr):List Operand->List Dat
 |[]=>[]
 |x::xs=>ev Γ fr x::uN Γ fr xs
abbrev KD:=Dat->Fr->Sg->Prop
def force(d:Dat)(K:Dat->Prop):Prop:=match d with
 |.d x=>K (.d x)
 |.own i=>K (.own i)
 |.at_ i o=>K (.at_ i o)
 |.el i k n o=>K (.el i k n o)
 |.agg ds=>K (.agg ds)
 |.tuple ds=>K (.tuple ds)
 |.iface t d=>K (.iface t d)
 |.func f a b=>K (.func f a b)
theorem Kz(d:Dat)(K:Dat->Prop):force d K=K d:=by cases d<;>rfl
def SxI(k:IntKind)(e:Int)(K:Int->Prop):Prop:=∃n,k.wrap e=n/\K n
def Lv:Nat->List Da->Nat
 |0,_=>0
 |_+1,[]=>0
 |n+1,d::ds=>d.size+Lv n ds
def DP:Nat->List Dat->Nat
 |0,_=>0
 |_+1,[]=>0
 |n+1,d::ds=>d.size+DP n ds
def D8(T:Hb)(t:TypeId)(no:Prop)(K:TyI->Prop):Prop:=match GL t T with
 |some e=>K e
 |none=>no
def DC {α:Type}(o:Option α)(no:Prop)(K:α->Prop):Prop:=match o with
 |some x=>K x
 |none=>no
def DD(b:Bool)(no K:Prop):Prop:=match b with
 |true=>K
 |false=>no
def yL(kd:Nat)(x:Dat)(σ:Sg):Option Bool:=match kd with
 |
  1=>(match x with
  |.d .nilp=>some true
  |.d (.ref _)|.at_ _ _|.el _ _ _ _=>some false
  |.own i=>(match BJ i σ with|some (.cells _ _)=>some false|_=>none)
  |_=>none)
 |
  2=>(match x with
  |.d .nils=>some true
  |.d (.list _ (_::_))=>some false
  |.own i=>(match BJ i σ with|some (.slice _ _ (_::_))=>some false|_=>none)
  |_=>none)
 |
  3=>(match x with
  |.d .nilm=>some true
  |_=>none)
 |
  4=>(match x with
  |.d .nilf=>some true
  |.d (.func _ _ _)|.func _ _ _=>some false
  |_=>none)
 |
  5=>(match x with
  |.d .nili=>some true
  |.d (.iface _ _)|.iface _ _=>some false
  |_=>none)
 |_=>none
def UN(kd:Nat)(x:Dat):Bool:=match kd,x with
 |1,.d .nilp=>true
 |2,.d .nils=>true
 |3,.d .nilm=>true
 |4,.d .nilf=>true
 |5,.d .nili=>true
 |_,_=>false
def pr(p:Prop) [i:Decidable p]:Dat:=.d (.prop p i)
def vI(op:BinOp)(k:IntKind)(a b:Int)(K:Dat->Prop)(no:Prop):Prop:=match op with
 |.add=>SxI k (a+b) λn=>K (.d (.int k n))
 |.sub=>SxI k (a-b) λn=>K (.d (.int k n))
 |.mul=>SxI k (a*b) λn=>K (.d (.int k n))
 |.quo=>b≠0/\SxI k (a.tdiv b) λn=>K (.d (.int k n))
 |.rem=>b≠0/\K (.d (.int k (a.tmod b)))
 |.eql=>K (pr (a=b))
 |.neq=>K (pr (¬a=b))
 |.lss=>K (pr (a<b))
 |.leq=>K (pr (a<=b))
 |.gtr=>K (pr (b<a))
 |.geq=>K (pr (b<=a))
 |_=>no
def Ny(op:BinOp)(p q:Prop) [Decidable p] [Decidable q](K:Dat->Prop)(no:Prop):Prop:=match op with
 |.eql=>K (pr (p↔q))
 |.neq=>K (pr (¬(p↔q)))
 |_=>no
def vB(op:BinOp)(a b:ByteArray)(K:Dat->Prop)(no:Prop):Prop:=match op with
 |.eql=>K (pr (a=b))
 |.neq=>K (pr (¬a=b))
 |.add=>a.size+b.size<=9223372036854775807/\K (.d (.str (a++b)))
 |_=>no
def vE(kd:Nat)(op:BinOp)(x y:Dat)(σ:Sg)(K:Dat->Prop)(no:Prop):Prop:=
 match UN kd y,yL kd x σ,op with
 |true,some b,.eql=>K (.d (.bool b))
 |true,some b,.neq=>K (.d (.bool (!b)))
 |_,_,_=>no
def Yt:Operand->Bool
 |.const .nilIface=>true
 |_=>false
def vK(T:Hb)(t:TypeId)(op:BinOp)(yc:Bool)(x y:Dat)(σ:Sg)(K:Dat->Prop)(no:Prop):Prop:=
 match x,y with
 |.d (.int k a),.d (.int k' b)=>DD (decide (k=k')) no (vI op k a b K no)
 |.d (.str a),.d (.str b)=>vB op a b K no
 |.d (.bool a),.d (.bool b)=>D8 T t no λe=>DD (Nat.beq e.kd 9) no (Ny op (a=true) (b=true) K no)
 |.d (.bool a),.d (.prop q _)=>D8 T t no λe=>DD (Nat.beq e.kd 9) no (Ny op (a=true) q K no)
 |.d (.prop p _),.d (.bool b)=>D8 T t no λe=>DD (Nat.beq e.kd 9) no (Ny op p (b=true) K no)
 |.d (.prop p _),.d (.prop q _)=>D8 T t no λe=>DD (Nat.beq e.kd 9) no (Ny op p q K no)
 |x,y=>D8 T t no λe=>DD (yc||!(Nat.beq e.kd 5)) no (vE e.kd op x y σ K no)
def AD2(op:UnOp)(x:Dat)(K:Dat->Prop)(no:Prop):Prop:=match op,x with
 |.not,.d (.bool b)=>K (.d (.bool (!b)))
 |.not,.d (.prop p _)=>K (pr (¬p))
 |.neg,.d (.int k n)=>SxI k (-n) λm=>K (.d (.int k m))
 |_,_=>no
def ABn(d:Dat)(yes no:Dat->Prop)(bad:Prop):Prop:=match d with
 |.d (.bool true)=>yes (.d (.bool true))
 |.d (.bool false)=>no (.d (.bool false))
 |.d (.prop p _)=>(p->yes (.d (.bool true)))/\(¬p->no (.d (.bool false)))
 |_=>bad
def UW(i:Nat)(σ:Sg)(K:Nat->Prop)(no:Prop):Prop:=match BJ i σ with
 |none=>K i
 |
  some _=>match BJ (i+1000) σ with
  |none=>K (i+1000)
  |
   some _=>match BJ (i+2000) σ with
   |none=>K (i+2000)
   |some _=>no
def CN(n:Nat):List Dat->Option Dat
 |[]=>none
 |
  d::ds=>match n with
  |0=>some d
  |m+1=>CN m ds
def FZ(n:Nat)(x:Dat):List Dat->List Dat
 |[]=>[]
 |
  d::ds=>match n with
  |0=>x::ds
  |m+1=>d::FZ m x ds
def Gg(n:Nat):List Da->Option Da
 |[]=>none
 |
  d::ds=>match n with
  |0=>some d
  |m+1=>Gg m ds
def X8(T:Hb)(t:TypeId)(x:Dat)(σ:Sg)(K:Dat->Prop)(no:Prop):Prop:=D8 T t no λe=>match x with
 |.d (.ref y)=>DD (y.fits e) no (K (.d y))
 |
  .own i=>DC (BJ i σ) no λo=>(match o with
  |
   .cells t0 ds=>(match Nat.beq t t0&&e.agg with
   |true=>DD (Nat.beq (O4 ds) e.size) no (force (aL ds) K)
   |false=>DC (Lm e 200 ds 0) no λd=>force d K)
  |_=>no)
 |
  .at_ i off=>DC (BJ i σ) no λo=>(match o with
  |.cells _ ds=>DC (Lm e 200 ds off) no λd=>force d K
  |_=>no)
 |
  .el i k0 n off=>DC (BJ i σ) no λo=>(match o with
  |.slice _ k ds=>DD (Nat.beq k0 k) no (∃d,ds[n]? =some d/\DC (Lm e 200 [.d d] off) no λd=>force d K)
  |_=>no)
 |_=>no
def X5(T:Hb)(t:TypeId)(x v:Dat)(σ:Sg)(K:Sg->Prop)(no:Prop):Prop:=D8 T t no λe=>DD (v.fits e&&v.stor) no (match x with
 |
  .own i=>DC (BJ i σ) no λo=>(match o with
  |
   .cells t0 ds=>(match Nat.beq t t0&&e.agg with
   |true=>DD (Nat.beq (O4 ds) e.size) no (K (AX id i (.cells t0 v.cellsOf) σ))
   |false=>DC (PL v 200 ds 0) no λds'=>K (AX id i (.cells t0 ds') σ))
  |_=>no)
 |
  .at_ i off=>DC (BJ i σ) no λo=>(match o with
  |.cells T ds=>DC (PL v 200 ds off) no λds'=>K (AX id i (.cells T ds') σ)
  |_=>no)
 |
  .el i k0 n off=>DC (BJ i σ) no λo=>(match o with
  |
   .slice E k ds=>DD (Nat.beq k0 k) no (∃d,ds[n]? =some d/\DC (PL v 200 [.d d] off) no λds'=>DC (EU ds') no λxs=>(match xs with
   |[y]=>K (AX id i (.slice E k (ds.set n y)) σ)
   |_=>no))
  |_=>no)
 |_=>no)
def LN(T:Hb)(t:TypeId)(x:Dat)(n:Nat)(σ:Sg)(K:Dat->Prop)(no:Prop):Prop:=D8 T t no λe=>DC e.flds[n]? no λos=>DD e.agg no<|match x with
 |.d (.ref (.agg ds))=>DD (Nat.beq (Lv n ds) os.1) no (DC (Gg n ds) no λd=>K (.d (.ref d)))
 |.own i=>DC (BJ i σ) no λo=>(match o with|.cells _ _=>K (.at_ i os.1)|_=>no)
 |.at_ i off=>K (.at_ i (off+os.1))
 |.el i k m off=>K (.el i k m (off+os.1))
 |_=>no
def AFF(n:Int)(len:Nat)(K:Nat->Prop):Prop:=∃j:Nat,n=j/\j<len/\K j
def LM(T:Hb)(t:TypeId)(x ix:Dat)(σ:Sg)(K:Dat->Prop)(no:Prop):Prop:=D8 T t no λe=>D8 T e.elem no λee=>DD (Nat.beq e.kd 2) no<|match ix with
 |
  .d (.int _ n)=>(match x with
  |.d (.list k ds)=>DD (Nat.beq k ee.size) no (∃(j:Nat) (d:Da),n=j/\ds[j]? =some d/\K (.d (.ref d)))
  |
   .own i=>DC (BJ i σ) no λo=>(match o with
   |.slice _ k ds=>DD (Nat.beq k ee.size) no (AFF n ds.length λj=>K (.el i k j 0))
   |_=>no)
  |_=>no)
 |_=>no
def vG(T:Hb)(t:TypeId)(x:Dat)(σ:Sg)(K:Dat->Prop)(no:Prop):Prop:=D8 T t no λe=>DD (Nat.beq e.kd 2||Nat.beq e.kd 7) no<|match x with
 |.d (.list _ ds)=>DD (Nat.beq e.kd 2) no (K (.d (.int .i64 ds.length)))
 |.d .nils=>DD (Nat.beq e.kd 2) no (K (.d (.int .i64 0)))
 |.d (.str s)=>DD (Nat.beq e.kd 7) no (K (.d (.int .i64 s.size)))
 |
  .own i=>DC (BJ i σ) no λo=>(match o with
  |.slice _ _ ds=>DD (Nat.beq e.kd 2) no (K (.d (.int .i64 ds.length)))
  |_=>no)
 |_=>no
def cN(x:Dat)(k:Nat)(σ:Sg):Option (List Da):=match x with
 |.d (.list k' ds)=>(match Nat.beq k' k with|true=>some ds|false=>none)
 |.d .nils=>some []
 |
  .own i=>(match BJ i σ with
  |some (.slice _ k' ds)=>(match Nat.beq k' k with|true=>some ds|false=>none)
  |_=>none)
 |_=>none
def ADW(i:Nat):Dat->Bool
 |.own j=>!(Nat.beq i j)
 |_=>true
def PY:Nat:=4294967296
def HM(b:Nat):Nat:=140737488355328/b
def NB:List Dat->(List Dat->Prop)->Prop
 |[],K=>K []
 |d::ds,K=>force d λd=>NB ds λds=>K (d::ds)
def kC(o:Own)(K:Own->Prop):Prop:=match o with
 |.cells T ds=>NB ds λds=>K (.cells T ds)
 |.slice E k ds=>K (.slice E k ds)
 |.abs R a b c=>K (.abs R a b c)
 |.ghost vs ds=>NB ds λds=>K (.ghost vs ds)
 |.absd R a b c ds=>NB ds λds=>K (.absd R a b c ds)
def Ch:Sg->(Sg->Prop)->Prop
 |[],K=>K []
 |(i,o)::σ,K=>kC o λo=>Ch σ λσ=>K ((i,o)::σ)
def Ge:Fr->(Fr->Prop)->Prop
 |[],K=>K []
 |(t,d)::fr,K=>force d λd=>Ge fr λfr=>K ((t,d)::fr)
theorem UZ:∀(ds:List Dat) (K:List Dat->Prop),NB ds K=K ds
 |[],K=>rfl
 |d::ds,K=>by simp only[NB,Kz,UZ ds]
theorem sR(o:Own)(K:Own->Prop):kC o K=K o:=by cases o<;>simp[kC,UZ]
theorem Bw:∀(σ:Sg) (K:Sg->Prop),Ch σ K=K σ
 |[],K=>rfl
 |(i,o)::σ,K=>by simp only[Ch,sR,Bw σ]
theorem Eg:∀(fr:Fr) (K:Fr->Prop),Ge fr K=K fr
 |[],K=>rfl
 |(t,d)::fr,K=>by simp only[Ge,Kz,Eg fr]
def Fi(i:Nat)(o:Own):Sg->Sg
 |[]=>[(i,o)]
 |
  (j,p)::σ=>match Nat.blt i j with
  |true=>(i,o)::(j,p)::σ
  |false=>(j,p)::Fi i o σ
def T8(T:Hb)(t:TypeId)(x y:Dat)(dst:Option Nat)(fr:Fr)(σ:Sg)(K:KD)(no:Prop):Prop:=D8 T t no λe=>D8 T e.elem no λee=>DD (decide (0<ee.size)&&decide (ee.bytes<=1000)&&Nat.beq e.kd 2) no<|match x with
 |
  .own i=>DC (BJ i σ) no λo=>(match o with
  |.slice E k ds=>DD (Nat.beq k ee.size&&Nat.beq E e.elem&&ADW i y) no<|DC (cN y k σ) no λes=>
    ds.length+es.length<=HM ee.bytes/\Ge (Fe i .undef fr) λfr=>Ch (AX (BL i .undef) i (.slice E k (ds++es)) σ) λσ=>K (.own i) fr σ
  |_=>no)
 |.d .nils=>DC (cN y ee.size σ) no λes=>es.length<=HM ee.bytes/\DC dst no λt=>UW t σ (λi=>Ch (Fi i (.slice e.elem ee.size es) σ) λσ=>K (.own i) fr σ) no
 |_=>no
def LU:List (Nat×Operand)->(Operand->Dat)->List Dat->List Dat
 |[],_,ds=>ds
 |(i,x)::ps,f,ds=>LU ps f (FZ i (f x) ds)
def Ik(T:Hb)(e:TyI):List (Nat×Operand)->(Operand->Dat)->List Dat->Bool
 |[],_,_=>true
 |
  (i,x)::ps,f,ds=>(match CN i ds,e.flds[i]? with
  |
   some d,some (off,ft)=>(match GL ft T with
   |some fe=>(d.isAgg==(f x).isAgg)&&Nat.beq d.size (f x).size&&Nat.beq fe.size (f x).size&&Nat.beq (DP i ds) off&&(f x).stor&&Ik T e ps f ds
   |none=>false)
  |_,_=>false)
structure PD where
 p:Prop
 d:Decidable p
def PD.of(p:Prop) [i:Decidable p]:PD:=⟨p,i⟩
def PD.and(x y:PD):PD:=⟨x.p/\y.p,@instDecidableAnd _ _ x.d y.d⟩
def nV(kd:Nat)(a b:Dat):Option PD:=match kd,a,b with
 |8,.d (.int k x),.d (.int k' y)=>(match decide (k=k')with|true=>some (PD.of (x=y))|false=>none)
 |7,.d (.str x),.d (.str y)=>some (PD.of (x=y))
 |9,.d (.bool x),.d (.bool y)=>some (PD.of (x=y))
 |_,_,_=>none
def R8(T:Hb)(dx dy:List Dat):List (Nat×TypeId)->Nat->Option PD
 |[],_=>some (PD.of True)
 |
  (off,ft)::l,i=>match GL ft T,CN i dx,CN i dy with
  |
   some fe,some a,some b=>(match nV fe.kd a b,Nat.beq (DP i dx) off&&Nat.beq (DP i dy) off with
   |
    some p,true=>(match l with
    |[]=>some p
    |
     _::_=>match R8 T dx dy l (i+1)with
     |some q=>some (p.and q)
     |none=>none)
   |_,_=>none)
  |_,_,_=>none
def AD3(op:BinOp)(p:PD)(K:Dat->Prop)(no:Prop):Prop:=match op with
 |.eql=>K (.d (.prop p.p p.d))
 |.neq=>K (.d (.prop (¬p.p) (@instDecidableNot _ p.d)))
 |_=>no
def XA(T:Hb)(t:TypeId)(x:Dat)(n:Nat)(K:Dat->Prop)(no:Prop):Prop:=D8 T t no λe=>DC e.flds[n]? no λos=>D8 T os.2 no λfe=>DC x.parts no λds=>DC (CN n ds) no λd=>DD (d.fits fe&&Nat.beq (DP n ds) os.1&&e.agg) no (force d K)
end Go.Sx
namespace Go.Sx
open Go Go.RowKit Go.Reg
def Jz(C:Cx)(B S:List Nat)(w0:World)(n:Nat)(K:Fr->Sg->Prop)(a:Act)(w:World):Prop:=
 ∃fr σ η φ,Models C B S w0 n fr σ η φ a w/\K fr σ
def Bm(C:Cx)(n kd:Nat)(o:Oper)(K:Fr->Sg->Prop)(fr:Fr)(σ:Sg):Prop:=
 ∀(B S:List Nat) (w0:World) (η:Nat->Value) (φ:Nat->List Nat) (a:Act) (w:World),Models C B S w0 n fr σ η φ a w->match kd with
  |0=>BH a o=true/\o.wp C.P a w (Jz C B S w0 n K) No
  |5=>∃v,(∀w2,JT w w2->(execOp a.eval o).run C.P w2=.ok (.value v) w2)/\Jz C B S w0 n K (a.put o.dst v) w
  |2=>o.wp C.P a w (λa' w'=>JT w w'/\Jz C B S w0 n K a' w') No
  |_=>o.wp C.P a w (Jz C B S w0 n K) No
def Ci(C:Cx)(quiet:Bool)(f:FuncId)(args:List Dat)(K:KD)(fr:Fr)(σ:Sg):Prop:=
 ∀(B S:List Nat) (w0:World) (η:Nat->Value) (φ:Nat->List Nat) (n:Nat) (a:Act) (w:World) (vs:List Value),Models C B S w0 n fr σ η φ a w->
  (∃css,AG η (BB σ) (B++Ao φ σ) w args css/\vs=List.zipWith Cf args css)->
  (callFunc f vs.toArray).run C.P w=.ok (.enter f vs.toArray) w/\Calls C.P f vs.toArray w λe w'=>∃v d fr' σ' η' φ',e=.returned v/\K d fr' σ'/\Models C B S w0 n fr' σ' η' φ' a w'/\(∃cs,AJ η' (BB σ') (B++Ao φ' σ') w' d cs/\v=Cf d cs)/\(quiet=true->JT w w')
def F9(C:Cx)(n:Nat)(c:Code)(K:Exit->Fr->Sg->Prop)(fr:Fr)(σ:Sg):Prop:=
 ∀(B S:List Nat) (w0:World) (η:Nat->Value) (φ:Nat->List Nat) (a:Act) (w:World),Models C B S w0 n fr σ η φ a w->
  c.wp C.P (λe a' w'=>match e with
   |.panic _=>False
   |.outgrown=>False
   |e=>Jz C B S w0 n (K e) a' w') a w
attribute [irreducible] Bm Ci F9
def CG(t:Option Nat)(d:Dat)(fr:Fr):Fr:=match t with
 |some t=>(t,d)::fr
 |none=>fr
def Dh(t:Option Nat)(n:Nat):Bool:=match t with
 |some t=>Nat.blt t n
 |none=>true
def X6(T:Hb)(t:TypeId)(x:Dat)(lo hi mx:Option Dat)(K:Dat->Prop)(no:Prop):Prop:=D8 T t no λe=>D8 T e.elem no λee=>DD (Nat.beq e.kd 2) no<|match x,mx with
 |
  .d (.list k ds),none=>DD (Nat.beq k ee.size) no (match lo,hi with
  |none,none=>K (.d (.list k ds))
  |some (.d (.int _ l)),none=>∃j:Nat,l=j/\j<=ds.length/\K (.d (.list k (ds.drop j)))
  |none,some (.d (.int _ h))=>∃m:Nat,h=m/\m<=ds.length/\K (.d (.list k (ds.take m)))
  |some (.d (.int _ l)),some (.d (.int _ h))=>∃j m:Nat,l=j/\h=m/\j<=m/\m<=ds.length/\K (.d (.list k ((ds.take m).drop j)))
  |_,_=>no)
 |
  .d .nils,none=>(match lo,hi with
  |none,none=>K (.d .nils)
  |some (.d (.int _ l)),none=>l=0/\K (.d .nils)
  |none,some (.d (.int _ h))=>h=0/\K (.d .nils)
  |some (.d (.int _ l)),some (.d (.int _ h))=>l=0/\h=0/\K (.d .nils)
  |_,_=>no)
 |_,_=>no
def Tx(C:Cx)(T:Hb)(n kd:Nat)(o:Oper)(K:Fr->Sg->Prop)(fr:Fr)(σ:Sg):Prop:=
 DD (Dh o.dst n) (Bm C n kd o K fr σ)<|match o.op with
 |.move x=>force (ev C.Γ fr x) λd=>K (CG o.dst d fr) σ
 |.assign x=>force (ev C.Γ fr x) λd=>K (CG o.dst d fr) σ
 |.pick c x y=>ABn (ev C.Γ fr c) (λ_=>force (ev C.Γ fr x) λd=>K (CG o.dst d fr) σ) (λ_=>force (ev C.Γ fr y) λd=>K (CG o.dst d fr) σ) (Bm C n kd o K fr σ)
 |.alloc t=>D8 T t (Bm C n kd o K fr σ) λe=>DC o.dst (Bm C n kd o K fr σ) λd=>UW d σ (λi=>Ch (Fi i (.cells t (Dat.cellsOf (.d e.zero))) σ) λσ=>K (CG o.dst (.own i) fr) σ) (Bm C n kd o K fr σ)
 |.box t x=>DD (ev C.Γ fr x).stor (Bm C n kd o K fr σ)<|DC o.dst (Bm C n kd o K fr σ) λd=>UW d σ (λi=>force (ev C.Γ fr x) λy=>Ch (Fi i (.cells t y.cellsOf) σ) λσ=>K (CG o.dst (.own i) fr) σ) (Bm C n kd o K fr σ)
 |.build t ps=>D8 T t (Bm C n kd o K fr σ) λe=>DD (e.agg&&Ik T e ps.toList (ev C.Γ fr) (Dat.cellsOf (.d e.zero))) (Bm C n kd o K fr σ)<|force (aL (LU ps.toList (ev C.Γ fr) (Dat.cellsOf (.d e.zero)))) λd=>K (CG o.dst d fr) σ
 |.buildSlice t m ps=>D8 T t (Bm C n kd o K fr σ) λe=>D8 T e.elem (Bm C n kd o K fr σ) λee=>DD (Nat.beq e.kd 2&&Nat.beq m ps.size&&decide (m<=1000)&&decide (ee.size<=1000)&&((ps.toList.map (·.1))==List.range m)&&ps.toList.all (λp=>(ev C.Γ fr p.2).fits ee&&(ev C.Γ fr p.2).stor)) (Bm C n kd o K fr σ)<|
   DC (EU (ps.toList.map λp=>ev C.Γ fr p.2)) (Bm C n kd o K fr σ) λxs=>DC o.dst (Bm C n kd o K fr σ) λd=>UW d σ (λi=>Ch (Fi i (.slice e.elem ee.size xs) σ) λσ=>K (CG o.dst (.own i) fr) σ) (Bm C n kd o K fr σ)
 |
  .makeSlice t l c=>D8 T t (Bm C n kd o K fr σ) λe=>D8 T e.elem (Bm C n kd o K fr σ) λee=>DD (Nat.beq e.kd 2&&ee.zero.stor&&decide (ee.bytes<=1000)) (Bm C n kd o K fr σ) (match ev C.Γ fr l,ev C.Γ fr c with
  |.d (.int _ x),.d (.int _ y)=>∃m:Nat,x=m/\y=m/\m<=PY/\DC o.dst (Bm C n kd o K fr σ) λd=>UW d σ (λi=>Ch (Fi i (.slice e.elem ee.size (List.replicate m ee.zero)) σ) λσ=>K (CG o.dst (.own i) fr) σ) (Bm C n kd o K fr σ)
  |_,_=>Bm C n kd o K fr σ)
 |.load t x=>X8 T t (ev C.Γ fr x) σ (λd=>K (CG o.dst d fr) σ) (Bm C n kd o K fr σ)
 |.store t x v=>X5 T t (ev C.Γ fr x) (ev C.Γ fr v) σ (λσ'=>Ch σ' λσ'=>K (CG o.dst (.d .undef) fr) σ') (Bm C n kd o K fr σ)
 |
  .nilCheck x=>force (ev C.Γ fr x) λd=>(match d with
  |.d (.ref _)=>K (CG o.dst d fr) σ
  |.at_ _ _=>K (CG o.dst d fr) σ
  |.el _ _ _ _=>K (CG o.dst d fr) σ
  |
   .own i=>DC (BJ i σ) (Bm C n kd o K fr σ) λow=>(match ow with
   |.cells _ _=>K (CG o.dst d fr) σ
   |_=>Bm C n kd o K fr σ)
  |_=>Bm C n kd o K fr σ)
 |
  .binOp op t x y _=>(match(ev C.Γ fr x).parts,(ev C.Γ fr y).parts with
  |some dx,some dy=>D8 T t (Bm C n kd o K fr σ) λe=>DD (e.cmp&&!(Nat.beq kd 0)) (Bm C n kd o K fr σ)<|DC (R8 T dx dy e.flds 0) (Bm C n kd o K fr σ) λp=>AD3 op p (λd=>K (CG o.dst d fr) σ) (Bm C n kd o K fr σ)
  |_,_=>vK T t op (Yt y) (ev C.Γ fr x) (ev C.Γ fr y) σ (λd=>K (CG o.dst d fr) σ) (Bm C n kd o K fr σ))
 |.unOp op _ x=>AD2 op (ev C.Γ fr x) (λd=>K (CG o.dst d fr) σ) (Bm C n kd o K fr σ)
 |
  .convert s t x=>D8 T t (Bm C n kd o K fr σ) λe=>D8 T s (Bm C n kd o K fr σ) λ_=>(match e.ik,ev C.Γ fr x with
  |some k,.d (.int _ a)=>SxI k a λb=>K (CG o.dst (.d (.int k b)) fr) σ
  |_,_=>Bm C n kd o K fr σ)
 |.makeInterface t x=>D8 T t (Bm C n kd o K fr σ) λe=>DD (!(Nat.beq e.kd 5)) (Bm C n kd o K fr σ)<|force (Yi t (ev C.Γ fr x)) λd=>K (CG o.dst d fr) σ
 |.makeFunc f p q=>force (iS f (uN C.Γ fr p.toList) (uN C.Γ fr q.toList)) λd=>K (CG o.dst d fr) σ
 |.fieldAddr t x m=>LN T t (ev C.Γ fr x) m σ (λd=>K (CG o.dst d fr) σ) (Bm C n kd o K fr σ)
 |.indexAddr t x ix=>LM T t (ev C.Γ fr x) (ev C.Γ fr ix) σ (λd=>K (CG o.dst d fr) σ) (Bm C n kd o K fr σ)
 |
  .index t x ix=>D8 T t (Bm C n kd o K fr σ) λe=>DD (Nat.beq e.kd 7) (Bm C n kd o K fr σ) (match ev C.Γ fr x,ev C.Γ fr ix with
  |.d (.str s),.d (.int _ i)=>∃j:Nat,i=j/\∃h:j<s.size,K (CG o.dst (.d (.int .u8 (s[j]'h).toNat)) fr) σ
  |_,_=>Bm C n kd o K fr σ)
 |.field t x m=>XA T t (ev C.Γ fr x) m (λd=>K (CG o.dst d fr) σ) (Bm C n kd o K fr σ)
 |.slice t x lo hi mx=>X6 T t (ev C.Γ fr x) (lo.map (ev C.Γ fr)) (hi.map (ev C.Γ fr)) (mx.map (ev C.Γ fr)) (λd=>K (CG o.dst d fr) σ) (Bm C n kd o K fr σ)
 |
  .extract x m=>(match ev C.Γ fr x with
  |.d (.tuple ds)=>DC (Gg m ds) (Bm C n kd o K fr σ) λd=>K (CG o.dst (.d d) fr) σ
  |.tuple ds=>DC (CN m ds) (Bm C n kd o K fr σ) λd=>force d λd=>K (CG o.dst d fr) σ
  |_=>Bm C n kd o K fr σ)
 |
  .call c=>(match c.callee with
  |
   .builtin .len=>(match c.args.toList,c.argTypes.toList with
   |[x],[t]=>vG T t (ev C.Γ fr x) σ (λd=>K (CG o.dst d fr) σ) (Bm C n kd o K fr σ)
   |_,_=>Bm C n kd o K fr σ)
  |
   .builtin .append=>(match c.args.toList,c.argTypes.toList with
   |[x,y],[t,t']=>DD (Nat.beq t t') (Bm C n kd o K fr σ)<|T8 T t (ev C.Γ fr x) (ev C.Γ fr y) o.dst fr σ (λd fr σ=>K (CG o.dst d fr) σ) (Bm C n kd o K fr σ)
   |_,_=>Bm C n kd o K fr σ)
  |
   .builtin .min=>(match c.args.toList.map (ev C.Γ fr)with
   |[.d (.int k x),.d (.int _ y)]=>K (CG o.dst (.d (.int k (min x y))) fr) σ
   |_=>Bm C n kd o K fr σ)
  |
   .builtin .max=>(match c.args.toList.map (ev C.Γ fr)with
   |[.d (.int k x),.d (.int _ y)]=>K (CG o.dst (.d (.int k (max x y))) fr) σ
   |_=>Bm C n kd o K fr σ)
  |
   .value f=>(match ev C.Γ fr f with
   |.d (.func (.func g) fs cs)=>Ci C (Nat.beq kd 2) g (Cr fs++(uN C.Γ fr c.args.toList++Cr cs)) (λd fr σ=>K (CG o.dst d fr) σ) fr σ
   |.func (.func g) fs cs=>Ci C (Nat.beq kd 2) g (fs++(uN C.Γ fr c.args.toList++cs)) (λd fr σ=>K (CG o.dst d fr) σ) fr σ
   |_=>Bm C n kd o K fr σ)
  |_=>Bm C n kd o K fr σ)
 |_=>Bm C n kd o K fr σ
def X9(o:Oper)(l:List Oper)(fr:Fr)(yes no:Fr->Prop):Prop:=match o.guard with
 |none=>yes fr
 |
  some (g,b)=>match(l[g]?).bind (·.dst)with
  |none=>False
  |
   some t=>match get fr t with
   |
    .d (.bool c)=>(match c,b with
    |true,true=>yes fr
    |false,false=>yes fr
    |_,_=>no fr)
   |
    .d (.prop p _)=>(match b with
    |true=>(p->yes ((t,.d (.bool true))::fr))/\(¬p->no ((t,.d (.bool false))::fr))
    |false=>(p->no ((t,.d (.bool true))::fr))/\(¬p->yes ((t,.d (.bool false))::fr)))
   |.d (.tuple [])=>no fr
   |_=>False
def AE8(t:Option Nat)(fr:Fr):Fr:=match t with
 |some t=>(t,.d (.tuple []))::fr
 |none=>fr
def I6(C:Cx)(T:Hb)(n:Nat)(l:List Oper)(ks:List Nat)(K:Fr->Sg->Prop):List Nat->Fr->Sg->Prop
 |[],fr,σ=>K fr σ
 |
  i::p,fr,σ=>match l[i]? with
  |none=>False
  |some o=>X9 o l fr (λfr=>Tx C T n (ks.getD i 3) o (I6 C T n l ks K p) fr σ) (λfr=>DD (Dh o.dst n) False (I6 C T n l ks K p (AE8 o.dst fr) σ))
inductive Plan where
 |leaf (ks p A:List Nat)
 |split (i j:Nat) (x y:Plan)
def I1:Plan->List (List Nat×List Nat)
 |.leaf ks p _=>[(ks,p)]
 |.split _ _ x y=>I1 x++I1 y
def eZ:Fr->Fr->Prop
 |[],_=>True
 |(t,d)::l,fr=>get fr t=d/\eZ l fr
def yH:Fr->Fr->(Fr->Prop)->Prop
 |[],acc,K=>K acc
 |
  (t,d)::fr,acc,K=>match acc.any (λp=>Nat.beq p.1 t)with
  |true=>yH fr acc K
  |false=>force d λd=>yH fr ((t,d)::acc) K
def X7(C:Cx)(T:Hb)(n:Nat)(l:List Oper)(F:Fr)(Z:Sg)(fr:Fr)(σ:Sg)(k:Prop):List (List Nat×List Nat)->Prop
 |[]=>k
 |(ks,p)::r=>I6 C T n l ks (λfr' σ'=>eZ F fr'/\σ'=Z) p fr σ/\X7 C T n l F Z fr σ k r
def fU(C:Cx)(T:Hb)(n:Nat)(l:List Oper)(K:Fr->Sg->Prop)(pl:Plan)(fr:Fr)(σ:Sg):Prop:=match I1 pl with
 |[]=>False
 |[(ks,p)]=>I6 C T n l ks K p fr σ
 |(ks,p)::r=>I6 C T n l ks (λfr1 σ1=>yH fr1 [] λF=>X7 C T n l F σ1 fr σ (K F σ1) r) p fr σ
def gW(i:Nat):List (Nat×Plan)->Option Plan
 |[]=>none
 |
  (j,p)::l=>match Nat.beq j i with
  |true=>some p
  |false=>gW i l
abbrev KE:=Exit->Fr->Sg->Prop
def AFH(nx:Fr->Sg->Prop)(K:KE):KE:=λe=>match e with
 |.normal=>nx
 |e=>K e
def lC(id:Nat)(K:KE):KE:=λe=>match e with
 |
  .exit j=>(match Nat.beq j id with
  |true=>K .normal
  |false=>K (.exit j))
 |e=>K e
def nY(c:Operand)(d:Dat)(fr:Fr):Fr:=match c with
 |.tmp t=>(t,d)::fr
 |_=>fr
def En(C:Cx)(T:Hb)(n:Nat)(pl:List (Nat×Plan)):Code->KE->Fr->Sg->Prop
 |.skip,K,fr,σ=>K .normal fr σ
 |
  .region id ops dr,K,fr,σ=>(match dr with
  |false=>I6 C T n ops.toList [] (K .normal) (List.range ops.toList.length) fr σ
  |
   true=>match gW id pl with
   |some p=>fU C T n ops.toList (K .normal) p fr σ
   |none=>False)
 |.seq a b,K,fr,σ=>En C T n pl a (AFH (En C T n pl b K) K) fr σ
 |.cond c a b,K,fr,σ=>ABn (ev C.Γ fr c) (λd=>En C T n pl a K (nY c d fr) σ) (λd=>En C T n pl b K (nY c d fr) σ) False
 |.block id b,K,fr,σ=>En C T n pl b (lC id K) fr σ
 |.exit id,K,fr,σ=>K (.exit id) fr σ
 |.label _,K,fr,σ=>K .normal fr σ
 |.ret,K,fr,σ=>K .ret fr σ
 |c,K,fr,σ=>F9 C n c K fr σ
def Tw(T:Hb):List ResultVar->Fr->Sg->(List Dat->Prop)->Prop
 |[],_,_,K=>K []
 |.tmp t::l,fr,σ,K=>force (get fr t) λd=>Tw T l fr σ λds=>K (d::ds)
 |.cell t ty::l,fr,σ,K=>X8 T ty (get fr t) σ (λd=>Tw T l fr σ λds=>K (d::ds)) False
def J3(T:Hb)(rs:List ResultVar)(K:Dat->Sg->Prop):KE:=λe fr σ=>match e with
 |
  .normal|.ret=>Tw T rs fr σ λds=>(match ds with
  |[d]=>K d σ
  |ds=>force (nB ds) λd=>K d σ)
 |_=>False
end Go.Sx
namespace Go.Sx
open Go Go.RowKit Go.Reg
def AD0:Value->Value->Bool
 |.int k n,.int k' n'=>decide (k=k')&&decide (n=n')
 |.bool b,.bool c=>b==c
 |.string s,.string t=>decide (s=t)
 |.pointer none,.pointer none=>true
 |.slice none 0 0,.slice none 0 0=>true
 |.map none,.map none=>true
 |.nilFunc,.nilFunc=>true
 |.nilIface,.nilIface=>true
 |_,_=>false
theorem ABg {a b:Value}(h:AD0 a b=true):a=b:=by
 unfold AD0 at h
 split at h<;>simp at h<;>simp[h]
def VU:List Value->List Value->Bool
 |[],[]=>true
 |a::Aa,b::bs=>AD0 a b&&VU Aa bs
 |_,_=>false
theorem YV:∀{a b:List Value},VU a b=true->a=b
 |[],[],_=>rfl
 |
  a::Aa,b::bs,h=>by
  simp only[VU,Ar]at h
  rw[ABg h.1,YV h.2]
 |[],_::_,h=>by simp[VU]at h
 |_::_,[],h=>by simp[VU]at h
mutual
def EB:Da->Option (List Value)
 |.int k n=>some [.int k n]
 |.bool b=>some [.bool b]
 |.str s=>some [.string s]
 |.nilp=>some [.pointer none]
 |.nils=>some [.slice none 0 0]
 |.nilm=>some [.map none]
 |.nilf=>some [.nilFunc]
 |.nili=>some [.nilIface]
 |.agg ds=>Ns ds
 |_=>none
def Ns:List Da->Option (List Value)
 |[]=>some []
 |
  d::ds=>match EB d,Ns ds with
  |some a,some b=>some (a++b)
  |_,_=>none
end
mutual
theorem Sh {O:List Nat} {w:World}:∀(d:Da) (cs:List Value),EB d=some cs->RepC O w d cs
 |.int k n,cs,h=>by simp only[EB,AD]at h;simp only[RepC];exact h.symm
 |.bool b,cs,h=>by simp only[EB,AD]at h;simp only[RepC];exact h.symm
 |.str s,cs,h=>by simp only[EB,AD]at h;simp only[RepC];exact h.symm
 |.nilp,cs,h=>by simp only[EB,AD]at h;simp only[RepC];exact h.symm
 |.nils,cs,h=>by simp only[EB,AD]at h;simp only[RepC];exact h.symm
 |.nilm,cs,h=>by simp only[EB,AD]at h;simp only[RepC];exact h.symm
 |.nilf,cs,h=>by simp only[EB,AD]at h;simp only[RepC];exact h.symm
 |.nili,cs,h=>by simp only[EB,AD]at h;simp only[RepC];exact h.symm
 |.agg ds,cs,h=>by simp only[EB]at h;simp only[RepC];exact PI ds cs h
 |.undef,cs,h=>by simp[EB]at h
 |.prop _ _,cs,h=>by simp[EB]at h
 |.tuple _,cs,h=>by simp[EB]at h
 |.iface _ _,cs,h=>by simp[EB]at h
 |.ref _,cs,h=>by simp[EB]at h
 |.list _ _,cs,h=>by simp[EB]at h
 |.func _ _ _,cs,h=>by simp[EB]at h
 |.raw _,cs,h=>by simp[EB]at h
theorem PI {O:List Nat} {w:World}:∀(ds:List Da) (cs:List Value),Ns ds=some cs->RepCs O w ds cs
 |[],cs,h=>by simp only[Ns,AD]at h;simp only[RepCs];exact h.symm
 |
  d::ds,cs,h=>by
  simp only[Ns]at h
  cases h1:EB d with
  |none=>rw[h1]at h;cases h
  |
   some a=>
   cases h2:Ns ds with
   |none=>rw[h1,h2]at h;cases h
   |
    some b=>
    rw[h1,h2]at h
    simp only[AD]at h
    exact⟨a,b,h.symm,Sh d a h1,PI ds b h2⟩
end
def ABh:Value->Bool
 |.agg _=>true
 |_=>false
def tyB(P:Program)(t:TypeId)(e:TyI):Bool:=
 match P.info? t,P.underlying t with
 |some i,some d=>Nat.beq i.size e.size&&Nat.beq i.bytes e.bytes&&
   (match i.zero,EB e.zero with
    |some z,some cs=>VU z.cells.toList cs&&(ABh z==e.agg)
    |_,_=>false)&&((e.zero.isAgg==e.agg)&&Nat.beq e.zero.size e.size)&&
   (match d with
    |.struct fs=>e.agg&&decide (fs.toList.map (λf=>(f.offset,f.type))=e.flds)&&fs.toList.all (λf=>match P.info? f.type with|some i=>Nat.blt 0 i.size|none=>false)
    |.array _ _=>false
    |.slice el=>!e.agg&&Nat.beq el e.elem
    |.int k=>!e.agg&&decide (e.ik=some k)
    |_=>!e.agg)&&
   ((match d with|.int _=>false|_=>true)==e.ik.isNone)&&
   Nat.beq e.kd (match d with|.pointer _=>1|.slice _=>2|.map _ _=>3|.func _ _ _=>4|.interface _=>5|.struct _=>6|.string=>7|.int _=>8|.bool=>9|_=>0)&&
   (!e.cmp||(match d with|.struct fs=>!(P.stoodInHeld t)&&!(P.eqGuardType P.depth t)&&fs.toList.all (λf=>f.name != "_")|_=>false))
 |_,_=>false
def pE(P:Program):Hb->Bool
 |[]=>true
 |(t,e)::l=>tyB P t e&&pE P l
theorem mB {P:Program}:∀{T:Hb},pE P T=true->∀{t:TypeId} {e:TyI},GL t T=some e->tyB P t e=true
 |[],_,t,e,h=>by simp[GL]at h
 |
  (u,x)::l,hT,t,e,h=>by
  simp only[pE,Ar]at hT
  rcases BM u t with⟨hb,he⟩|⟨hb,he⟩
  ·simp only[GL,hb,AD]at h
   subst he;subst h;exact hT.1
  ·simp only[GL,hb]at h
   exact mB hT.2 h
structure TyOk(P:Program)(t:TypeId)(e:TyI):Prop where
 zsize:e.zero.size=e.size
 cmp:e.cmp=true->∃fs,P.underlying t=some (.struct fs)/\P.stoodInHeld t=false/\P.eqGuardType P.depth t=false/\∀f∈fs.toList,f.name≠ "_"
 info:∃i z,P.info? t=some i/\i.size=e.size/\i.bytes=e.bytes/\i.zero=some z/\z=DZ e.zero z.cells.toList/\(∀O w,RepC O w e.zero z.cells.toList)
 desc:∃d,P.underlying t=some d/\(match d with|.struct _|.array _ _=>true|_=>false)=e.agg/\(∀el,d=.slice el->el=e.elem)/\
  (∀fs,d=.struct fs->fs.toList.map (λf=>(f.offset,f.type))=e.flds/\∀f∈fs.toList,∃i,P.info? f.type=some i/\0<i.size)/\
  (∀n el,d≠.array n el)/\(e.agg=true->∃fs,d=.struct fs)/\(∀k,e.ik=some k->d=.int k)/\e.kd=(match d with|.pointer _=>1|.slice _=>2|.map _ _=>3|.func _ _ _=>4|.interface _=>5|.struct _=>6|.string=>7|.int _=>8|.bool=>9|_=>0)
theorem VI {z:Value} {d:Da} {cs:List Value}(h1:z.cells.toList=cs)(h2:ABh z=d.isAgg)(h3:d.isAgg=false->z=DZ d [z]):z=DZ d cs:=by
 cases z with
 |
  agg xs=>
  cases d<;>first|(simp[Da.isAgg,ABh]at h2;done)|(simp only[Value.cells]at h1;subst h1;simp[DZ])
 |
  _=>
  simp only[Value.cells]at h1
  subst h1
  exact h3 (by simpa[ABh]using h2.symm)
theorem AD1 {P:Program} {t:TypeId} {e:TyI}(h:tyB P t e=true):TyOk P t e:=by
 unfold tyB at h
 cases hi:P.info? t with
 |none=>rw[hi]at h;cases h
 |
  some i=>
  cases hd:P.underlying t with
  |none=>rw[hi,hd]at h;cases h
  |
   some d=>
   rw[hi,hd]at h
   simp only[Ar]at h
   obtain⟨⟨⟨⟨⟨⟨⟨h1,h2⟩,h3⟩,h4⟩,h5⟩,h6⟩,h7⟩,h8⟩:=h
   refine⟨by simp only[beq_iff_eq]at h4;exact Az h4.2,?_,?_,?_⟩
   ·intro hc
    rw[hc]at h8
    simp only[Bool.not_true,Bool.false_or]at h8
    split at h8
    ·rename_i fs
     simp only[Ar,Cm,Dn]at h8
     exact⟨fs,hd,h8.1.1,h8.1.2,λf hf=>by simpa using h8.2 f hf⟩
    ·cases h8
   ·cases hz:i.zero with
    |none=>rw[hz]at h3;cases h3
    |
     some z=>
     cases hc:EB e.zero with
     |none=>rw[hz,hc]at h3;cases h3
     |
      some cs=>
      rw[hz,hc]at h3
      simp only[Ar]at h3
      have e1:=YV h3.1
      refine⟨i,z,hi,Az h1,Az h2,hz,?_,λO w=>by rw[e1];exact Sh _ _ hc⟩
      rw[e1]
      refine VI e1 ?_ (λhn=>?_)
      ·have h4':e.zero.isAgg=e.agg:=by simp only[beq_iff_eq]at h4;exact h4.1
       rw[h4'];simpa using h3.2
      ·cases hh:e.zero<;>simp[DZ]<;>rw[hh]at hn<;>simp[Da.isAgg]at hn
   ·refine⟨d,hd,?_,?_,?_,?_,?_,?_,?_⟩
    ·cases d<;>simp at h5<;>simp[h5]
    ·rintro el rfl
     simp only[Ar]at h5
     exact Az h5.2
    ·rintro fs rfl
     simp only[Ar,decide_eq_true_eq,Dn]at h5
     refine⟨h5.1.2,λf hf=>?_⟩
     have:=h5.2 f hf
     cases hfi:P.info? f.type with
     |none=>rw[hfi]at this;cases this
     |
      some j=>
      rw[hfi]at this
      exact⟨j,rfl,by simpa[Nat.blt_eq]using this⟩
    ·rintro n el rfl;simp at h5
    ·intro ha
     cases d<;>simp[ha]at h5
     exact⟨_,rfl⟩
    ·intro k hk
     rw[hk]at h6 h5
     cases d<;>simp at h6
     simp at h5
     rw[h5.2]
    ·exact Az h7
structure Cx.Ok(C:Cx)(T:Hb):Prop where
 tab:pE C.P T=true
 mixed:C.P.follows .mixedOrders=true
theorem Cx.Ok.ty {C:Cx} {T:Hb}(h:C.Ok T) {t:TypeId} {e:TyI}(ht:GL t T=some e):TyOk C.P t e:=AD1 (mB h.tab ht)
section
variable {P:Program} {t:TypeId} {e:TyI}
theorem TyOk.sizeOf(h:TyOk P t e)(w:World):(sizeOf t).run P w=.ok e.size w:=by
 obtain⟨i,z,h1,h2,_⟩:=h.info
 simp[Go.sizeOf,typeInfo,program,Sem.run,h1,h2]
theorem TyOk.isAgg(h:TyOk P t e)(w:World):(isAgg t).run P w=.ok e.agg w:=by
 obtain⟨d,h1,h2,_⟩:=h.desc
 simp only[Go.isAgg,AK,run_underlying h1,AH]
 rw[<-h2]
 cases d<;>simp
theorem TyOk.zero(h:TyOk P t e):∃z,(∀w,(zeroValue t).run P w=.ok z w)/\z=DZ e.zero z.cells.toList/\∀O w,RepC O w e.zero z.cells.toList:=by
 obtain⟨i,z,h1,h2,h3,h4,h5,h6⟩:=h.info
 exact⟨z,λw=>by simp[zeroValue,typeInfo,program,Sem.run,h1,h4],h5,h6⟩
end
section
variable {C:Cx} {B S:List Nat} {w0 w:World} {n:Nat} {fr:Fr} {σ:Sg} {η:Nat->Value} {φ:Nat->List Nat} {a:Act}
abbrev RD(B:List Nat)(σ:Sg)(η:Nat->Value)(φ:Nat->List Nat)(w:World)(d:Dat)(v:Value):Prop:=∃cs,AJ η (BB σ) (B++Ao φ σ) w d cs/\v=Cf d cs
theorem Uz(O:List Nat)(w:World)(v:Value):RepC O w (Rj v) [v]:=by
 unfold Rj
 split<;>simp[RepC]
theorem fP(v:Value):DZ (Rj v) [v]=v:=by
 unfold Rj
 split<;>simp[DZ]
theorem rE(O:List Nat)(w:World)(v:Value):∃cs,RepC O w (mV v) cs/\v=DZ (mV v) cs:=by
 unfold mV
 split
 ·rename_i cs
  refine⟨cs.toList,?_,by simp[DZ]⟩
  simp only[RepC]
  generalize cs.toList=l
  induction l with
  |nil=>simp[RepCs]
  |cons x l ih=>exact⟨[x],l,rfl,Uz O w x,ih⟩
 ·exact⟨[v],Uz O w v,(fP v).symm⟩
theorem bQ {O:List Nat} {w:World} {g:Nat}:∀{Γ:List (Nat×Da)},(∀p∈Γ,Rep O w (.ref p.2) (.pointer (some ⟨p.1,0,none⟩)))->∃cs,RepC O w (glob g Γ) cs/\Value.pointer (some ⟨g,0,none⟩)=DZ (glob g Γ) cs
 |[],_=>⟨[.pointer (some ⟨g,0,none⟩)],by simp[glob,RepC],by simp[glob,DZ]⟩
 |
  (h,x)::Γ,hh=>by
  rcases BM h g with⟨hb,he⟩|⟨hb,he⟩
  ·simp only[glob,hb]
   have:=hh (h,x) (by simp)
   subst he;exact this
  ·simp only[glob,hb]
   exact bQ (λp hp=>hh p (AA _ hp))
theorem Bb(h:Models C B S w0 n fr σ η φ a w)(x:Operand):RD B σ η φ w (ev C.Γ fr x) (a.eval x):=by
 cases x with
 |tmp t=>obtain⟨cs,h1,h2⟩:=h.fr t;exact⟨cs,h1,h2⟩
 |const v=>obtain⟨cs,h1,h2⟩:=rE (B++Ao φ σ) w v;exact⟨cs,h1,h2⟩
 |«global» g=>obtain⟨cs,h1,h2⟩:=bQ (g:=g) (λp hp=>(h.mem.glob p hp).1);exact⟨cs,h1,h2⟩
 |func f=>exact⟨[.func (.func f) #[] #[]],by simp[ev,AJ,RepC,Aq],by simp[ev,Cf,DZ,Act.eval]⟩
theorem Te(h:Models C B S w0 n fr σ η φ a w):∀xs:List Operand,∃css,AG η (BB σ) (B++Ao φ σ) w (uN C.Γ fr xs) css/\xs.map a.eval=List.zipWith Cf (uN C.Γ fr xs) css
 |[]=>⟨[],by simp[uN,AG],by simp[uN]⟩
 |
  x::xs=>by
  obtain⟨cs,h1,h2⟩:=Bb h x
  obtain⟨css,h3,h4⟩:=Te h xs
  exact⟨cs::css,⟨cs,css,rfl,h1,h3⟩,by simp[uN,h2,h4]⟩
theorem Models.put(h:Models C B S w0 n fr σ η φ a w) {t:Option Nat}(ht:Dh t n=true) {d:Dat} {v:Value}(hd:RD B σ η φ w d v):Models C B S w0 n (CG t d fr) σ η φ (a.put t v) w:=by
 obtain⟨cs,h1,h2⟩:=hd
 cases t with
 |none=>exact h
 |
  some t=>
  have:t<a.tmps.size:=by rw[h.size];simpa[Dh,Nat.blt_eq]using ht
  exact⟨h.mem,h.fr.put this h1 h2,h.defers,by simp[Act.put,h.size]⟩
theorem RD.d {x:Da} {v:Value}(h:RD B σ η φ w (.d x) v):Rep (B++Ao φ σ) w x v:=h
theorem CD {kd:Nat} {o:Oper} {K:Fr->Sg->Prop}(hk:kd≠5)(hk2:kd≠2)(h:∀(B S:List Nat) (w0:World) (η:Nat->Value) (φ:Nat->List Nat) (a:Act) (w:World),Models C B S w0 n fr σ η φ a w->
  (kd=0->BH a o=true)/\((∃v w',(execOp a.eval o).run C.P w=.ok (.value v) w'/\Jz C B S w0 n K (a.put o.dst v) w')\/(∃w',(execOp a.eval o).run C.P w=.ok .skip w'/\Jz C B S w0 n K (a.put o.dst Go.undef) w'))):Bm C n kd o K fr σ:=by
 unfold Bm
 intro B S w0 η φ a w hm
 obtain⟨h0,h1⟩:=h B S w0 η φ a w hm
 have hw:o.wp C.P a w (Jz C B S w0 n K) No:=by
  rcases h1 with⟨v,w',hr,hg⟩|⟨w',hr,hg⟩
  ·exact Xz hr hg
  ·exact uP hr hg
 split
 ·exact⟨h0 rfl,hw⟩
 ·exact absurd rfl hk
 ·exact absurd rfl hk2
 ·exact hw
theorem UU {K:Fr->Sg->Prop} {o:Oper}(h:Models C B S w0 n fr σ η φ a w)(ht:Dh o.dst n=true) {d:Dat} {v:Value}(hd:RD B σ η φ w d v)(hK:K (CG o.dst d fr) σ):Jz C B S w0 n K (a.put o.dst v) w:=
 ⟨_,σ,η,φ,h.put ht hd,hK⟩
end
end Go.Sx
namespace Go.Sx
open Go Go.RowKit Go.Reg
section
variable {C:Cx} {T:Hb} {B S:List Nat} {w0 w:World} {n:Nat} {fr:Fr} {σ:Sg} {η:Nat->Value} {φ:Nat->List Nat} {a:Act} {v vx vy:Value} {no:Prop}
theorem RD.int {k:IntKind} {m:Int}(h:RD B σ η φ w (.d (.int k m)) v):v=.int k m:=by
 obtain⟨cs,h1,h2⟩:=h;simp only[AJ,RepC]at h1;subst h1;exact h2
theorem RD.bool {b:Bool}(h:RD B σ η φ w (.d (.bool b)) v):v=.bool b:=by
 obtain⟨cs,h1,h2⟩:=h;simp only[AJ,RepC]at h1;subst h1;exact h2
theorem RD.prop {p:Prop} {i:Decidable p}(h:RD B σ η φ w (.d (.prop p i)) v):v=.bool (decide p):=by
 obtain⟨cs,h1,h2⟩:=h;simp only[AJ,RepC]at h1;subst h1;exact h2
theorem RD.str {s:ByteArray}(h:RD B σ η φ w (.d (.str s)) v):v=.string s:=by
 obtain⟨cs,h1,h2⟩:=h;simp only[AJ,RepC]at h1;subst h1;exact h2
theorem RD.nilp(h:RD B σ η φ w (.d .nilp) v):v=.pointer none:=by
 obtain⟨cs,h1,h2⟩:=h;simp only[AJ,RepC]at h1;subst h1;exact h2
theorem RD.nils(h:RD B σ η φ w (.d .nils) v):v=.slice none 0 0:=by
 obtain⟨cs,h1,h2⟩:=h;simp only[AJ,RepC]at h1;subst h1;exact h2
theorem RD.nilm(h:RD B σ η φ w (.d .nilm) v):v=.map none:=by
 obtain⟨cs,h1,h2⟩:=h;simp only[AJ,RepC]at h1;subst h1;exact h2
theorem RD.nilf(h:RD B σ η φ w (.d .nilf) v):v=.nilFunc:=by
 obtain⟨cs,h1,h2⟩:=h;simp only[AJ,RepC]at h1;subst h1;exact h2
theorem RD.nili(h:RD B σ η φ w (.d .nili) v):v=.nilIface:=by
 obtain⟨cs,h1,h2⟩:=h;simp only[AJ,RepC]at h1;subst h1;exact h2
theorem Fv(k:IntKind)(m:Int):RD B σ η φ w (.d (.int k m)) (.int k m):=⟨[_],by simp[AJ,RepC],rfl⟩
theorem N0(b:Bool):RD B σ η φ w (.d (.bool b)) (.bool b):=⟨[_],by simp[AJ,RepC],rfl⟩
theorem Gm(p:Prop)(i:Decidable p):RD B σ η φ w (.d (.prop p i)) (.bool (decide p)):=⟨[_],by simp[AJ,RepC],rfl⟩
theorem AD8(s:ByteArray):RD B σ η φ w (.d (.str s)) (.string s):=⟨[_],by simp[AJ,RepC],rfl⟩
def fB(P:Program)(op:BinOp)(t:TypeId)(vx vy:Value)(w:World)(B:List Nat)(σ:Sg)(η:Nat->Value)(φ:Nat->List Nat)(K:Dat->Prop):Prop:=
 ∃d v,K d/\(binOp op t vx vy).run P w=.ok v w/\RD B σ η φ w d v
theorem XB(s t:ByteArray):(s.toList==t.toList)=decide (s=t):=by
 by_cases h:s=t
 ·subst h;simp
 ·have:s.toList≠t.toList:=λe=>h (by
   rw[ByteArray.toList_eq,ByteArray.toList_eq]at e
   cases s;cases t;simp at e;simp[e])
  simp[h,this]
theorem vH {P:Program} {op:BinOp} {t:TypeId} {k:IntKind} {x y:Int} {K:Dat->Prop}(h:vI op k x y K no):no\/(fB P op t (.int k x) (.int k y) w B σ η φ K/\yK op=true):=by
 unfold vI at h
 split at h
 ·obtain⟨m,h1,h2⟩:=h;exact .inr ⟨⟨_,_,h2,by simp[binOp_add,Op.intArith,h1],Fv k m⟩,rfl⟩
 ·obtain⟨m,h1,h2⟩:=h;exact .inr ⟨⟨_,_,h2,by simp[binOp_sub,Op.intArith,h1],Fv k m⟩,rfl⟩
 ·obtain⟨m,h1,h2⟩:=h;exact .inr ⟨⟨_,_,h2,by simp[binOp_mul,Op.intArith,h1],Fv k m⟩,rfl⟩
 ·obtain⟨h0,m,h1,h2⟩:=h;exact .inr ⟨⟨_,_,h2,by simp[binOp_quo,Op.intDiv,h0,h1],Fv k m⟩,rfl⟩
 ·obtain⟨h0,h2⟩:=h;exact .inr ⟨⟨_,_,h2,by simp[binOp_rem,Op.intDiv,h0],Fv k _⟩,rfl⟩
 ·exact .inr ⟨⟨_,_,h,by simp only[binOp_eql,Bn];rfl,Gm _ _⟩,rfl⟩
 ·exact .inr ⟨⟨_,_,h,by simp only[binOp_neq,Bn];congr 2;by_cases e:x=y<;>simp[bne,e],Gm _ _⟩,rfl⟩
 ·exact .inr ⟨⟨_,_,h,by simp only[binOp_lss,Bn],Gm _ _⟩,rfl⟩
 ·exact .inr ⟨⟨_,_,h,by simp only[binOp_leq,Bn],Gm _ _⟩,rfl⟩
 ·exact .inr ⟨⟨_,_,h,by simp only[binOp_gtr,Bn],Gm _ _⟩,rfl⟩
 ·exact .inr ⟨⟨_,_,h,by simp only[binOp_geq,Bn],Gm _ _⟩,rfl⟩
 ·exact .inl h
theorem vA {P:Program} {op:BinOp} {t:TypeId} {x y:ByteArray} {K:Dat->Prop}(h:vB op x y K no):no\/fB P op t (.string x) (.string y) w B σ η φ K:=by
 unfold vB at h
 split at h
 ·exact .inr ⟨_,_,h,by rw[binOp_string_eql,XB];rfl,Gm _ _⟩
 ·exact .inr ⟨_,_,h,by rw[binOp_string_neq,XB];simp only[Bn];congr 2;simp,Gm _ _⟩
 ·obtain⟨h1,h2⟩:=h;exact .inr ⟨_,_,h2,by rw[binOp_string_add];exact run_string_add_sum _ _ _ h1,AD8 _⟩
 ·exact .inl h
theorem KR {P:Program} {op:BinOp} {t:TypeId} {x y:Bool} {p q:Prop} {ip:Decidable p} {iq:Decidable q}(hp:x=decide p)(hq:y=decide q)(ht:P.underlying t=some .bool) {K:Dat->Prop}(h:Ny op p q K no):no\/(fB P op t (.bool x) (.bool y) w B σ η φ K/\NR op=true):=by
 subst hp;subst hq
 unfold Ny at h
 split at h
 ·refine .inr ⟨⟨_,_,h,?_,Gm _ _⟩,rfl⟩
  simp only[binOp,AK,run_equal_bool w t _ _ ht,AH,Bn]
  congr 2
  by_cases h1:p<;>by_cases h2:q<;>simp[h1,h2]
 ·refine .inr ⟨⟨_,_,h,?_,Gm _ _⟩,rfl⟩
  simp only[binOp,AK,run_equal_bool w t _ _ ht,AH,Bn]
  congr 2
  by_cases h1:p<;>by_cases h2:q<;>simp[h1,h2]
 ·exact .inl h
theorem TyOk.kd_desc {P:Program} {t:TypeId} {e:TyI}(h:TyOk P t e):∃d,P.underlying t=some d/\e.kd=(match d with|.pointer _=>1|.slice _=>2|.map _ _=>3|.func _ _ _=>4|.interface _=>5|.struct _=>6|.string=>7|.int _=>8|.bool=>9|_=>0):=by
 obtain⟨d,h1,_,_,_,_,_,_,h2⟩:=h.desc
 exact⟨d,h1,h2⟩
theorem TyOk.bool_desc {P:Program} {t:TypeId} {e:TyI}(h:TyOk P t e)(hk:e.kd=9):P.underlying t=some .bool:=by
 obtain⟨d,h1,h2⟩:=h.kd_desc
 rw[hk]at h2
 cases d<;>first|exact h1|(simp at h2;done)
def ES:Nat->Value->Prop
 |1,v=>v=.pointer none
 |2,v=>v=.slice none 0 0
 |3,v=>v=.map none
 |4,v=>v=.nilFunc
 |5,v=>v=.nilIface
 |_,_=>False
def Fl:Nat->Value->Prop
 |1,v=>∃a,v=.pointer (some a)
 |2,v=>∃a l c,v=.slice (some a) l c
 |3,v=>∃a,v=.map (some a)
 |4,v=>∃f p q,v=.func f p q
 |5,v=>∃t u,v=.iface t u
 |_,_=>False
theorem Sy {kd:Nat} {y:Dat}(h:UN kd y=true)(hy:RD B σ η φ w y vy):ES kd vy:=by
 unfold UN at h
 split at h
 ·exact hy.nilp
 ·exact hy.nils
 ·exact hy.nilm
 ·exact hy.nilf
 ·exact hy.nili
 ·cases h
theorem DX(hm:Mem C B S w0 σ η φ w) {i:Nat} {t:TypeId} {ds:List Dat}(h:BJ i σ=some (.cells t ds)):∃b cs,η i=.pointer (some ⟨b,0,none⟩)/\φ i=[b]/\IT w b t cs/\B6 η (BB σ) (B++Ao φ σ) w ds cs:=by
 obtain⟨b,cs,h1,h2,h3,h4⟩:=hm.own _ (AT h)
 exact⟨b,cs,h1,h2,h3,h4⟩
theorem BW(hm:Mem C B S w0 σ η φ w) {i:Nat} {E k:Nat} {ds:List Da}(h:BJ i σ=some (.slice E k ds)):∃css,Sl E k id w (η i) css/\φ i=(η i).ownBlock.toList/\Aq (B++Ao φ σ) w ds css/\(∀x∈css,EN k x):=by
 obtain⟨css,h1,h2,h3,h4⟩:=hm.own _ (AT h)
 exact⟨css,h1,h2,h3,h4⟩
theorem Dd {O:List Nat} {w:World}:∀{ds:List Da} {css:List (List Value)},Aq O w ds css->css.length=ds.length
 |[],css,h=>by simp only[Aq]at h;subst h;rfl
 |
  d::ds,css,h=>by
  simp only[Aq]at h
  obtain⟨c1,c2,rfl,_,h3⟩:=h
  simp[Dd h3]
theorem aC(hm:Mem C B S w0 σ η φ w) {kd:Nat} {x:Dat} {b:Bool}(h:yL kd x σ=some b)(hx:RD B σ η φ w x vx):(b=true/\ES kd vx)\/(b=false/\Fl kd vx):=by
 unfold yL at h
 split at h
 ·split at h
  ·simp at h;exact .inl ⟨h,hx.nilp⟩
  ·simp at h
   obtain⟨cs,h1,h2⟩:=hx
   simp only[AJ,RepC]at h1
   obtain⟨bb,o,c,rfl,_⟩:=h1
   exact .inr ⟨h,_,h2⟩
  ·simp at h
   obtain⟨cs,h1,h2⟩:=hx
   simp only[AJ]at h1
   obtain⟨_,bb,_,rfl⟩:=h1
   exact .inr ⟨h,_,h2⟩
  ·simp at h
   obtain⟨cs,h1,h2⟩:=hx
   simp only[AJ]at h1
   obtain⟨_,bb,l,c,_,rfl⟩:=h1
   exact .inr ⟨h,_,h2⟩
  ·split at h
   ·rename_i hg
    simp at h
    obtain⟨bb,cs,h1,_⟩:=DX hm hg
    obtain⟨cs',h3,h4⟩:=hx
    simp only[AJ]at h3
    obtain⟨_,rfl⟩:=h3
    refine .inr ⟨h,_,h4.trans h1⟩
   ·cases h
  ·cases h
 ·split at h
  ·simp at h;exact .inl ⟨h,hx.nils⟩
  ·simp at h
   obtain⟨cs,h1,h2⟩:=hx
   simp only[AJ,RepC]at h1
   obtain⟨aa,c,css,rfl,_,_,_,_,h6⟩:=h1
   rcases h6 with h6|⟨b,o,rfl,_⟩
   ·cases h6
   ·exact .inr ⟨h,_,_,_,h2⟩
  ·split at h
   ·rename_i hg
    simp at h
    obtain⟨css,hs,_,hr,_⟩:=BW hm hg
    obtain⟨cs',h3,h4⟩:=hx
    simp only[AJ]at h3
    obtain⟨_,rfl⟩:=h3
    have hl:=Dd hr
    rcases hs.shape with⟨_,he⟩|⟨g,cap,he,_⟩
    ·rw[he]at hl;simp at hl
    ·exact .inr ⟨h,_,_,_,h4.trans he⟩
   ·cases h
  ·cases h
 ·split at h
  ·simp at h;exact .inl ⟨h,hx.nilm⟩
  ·cases h
 ·split at h
  ·simp at h;exact .inl ⟨h,hx.nilf⟩
  ·simp at h
   obtain⟨cs,h1,h2⟩:=hx
   simp only[AJ,RepC]at h1
   obtain⟨fs,c,_,_,rfl⟩:=h1
   exact .inr ⟨h,_,_,_,h2⟩
  ·simp at h
   obtain⟨cs,h1,h2⟩:=hx
   simp only[AJ]at h1
   obtain⟨fs,c,_,_,rfl⟩:=h1
   exact .inr ⟨h,_,_,_,h2⟩
  ·cases h
 ·split at h
  ·simp at h;exact .inl ⟨h,hx.nili⟩
  ·simp at h
   obtain⟨cs,h1,h2⟩:=hx
   simp only[AJ,RepC]at h1
   obtain⟨c,_,rfl⟩:=h1
   exact .inr ⟨h,_,_,h2⟩
  ·simp at h
   obtain⟨cs,h1,h2⟩:=hx
   simp only[AJ]at h1
   obtain⟨c,_,rfl⟩:=h1
   exact .inr ⟨h,_,_,h2⟩
  ·cases h
 ·cases h
theorem R7 {P:Program} {t:TypeId} {e:TyI}(ht:TyOk P t e) {b:Bool}(hx:(b=true/\ES e.kd vx)\/(b=false/\Fl e.kd vx))(hy:ES e.kd vy):(Op.equal t vx vy).run P w=.ok b w:=by
 obtain⟨d,h1,h2⟩:=ht.kd_desc
 unfold Op.equal
 rw[show Op.maxDepth=9999+1 from rfl,Op.equalIn]
 simp only[AK,run_underlying h1,AH]
 rcases hx with⟨rfl,hx⟩|⟨rfl,hx⟩
 ·cases d<;>simp only at h2<;>rw[h2]at hx hy<;>simp only[ES]at hx hy<;>subst hx<;>subst hy<;>rfl
 ·cases d<;>simp only at h2<;>rw[h2]at hx hy<;>simp only[ES,Fl]at hx hy<;>subst hy<;>(first|(obtain⟨_,rfl⟩:=hx;rfl)|(obtain⟨_,_,rfl⟩:=hx;rfl)|(obtain⟨_,_,_,rfl⟩:=hx;rfl))
theorem vD(hm:Mem C B S w0 σ η φ w) {t:TypeId} {e:TyI}(ht:TyOk C.P t e) {op:BinOp} {x y:Dat}(hx:RD B σ η φ w x vx)(hy:RD B σ η φ w y vy) {K:Dat->Prop}(h:vE e.kd op x y σ K no):
  no\/(fB C.P op t vx vy w B σ η φ K/\NR op=true/\(ES e.kd vx\/Fl e.kd vx)/\ES e.kd vy):=by
 unfold vE at h
 split at h
 ·rename_i h1 h2
  have g1:=Sy h1 hy
  have g2:=aC hm h2 hx
  have g3:=R7 (w:=w) ht g2 g1
  refine .inr ⟨⟨_,_,h,?_,N0 _⟩,rfl,g2.elim (λh=>.inl h.2) (λh=>.inr h.2),g1⟩
  have:binOp .eql t vx vy=(do pure (.bool (<-Op.equal t vx vy))):=by
   generalize e.kd=kd at g1 g2
   match kd,g1 with
   |1,h=>simp only[ES]at h;subst h;rcases g2 with⟨_,g⟩|⟨_,g⟩<;>simp only[ES,Fl]at g<;>(first|subst g|(obtain⟨_,rfl⟩:=g))<;>rfl
   |2,h=>simp only[ES]at h;subst h;rcases g2 with⟨_,g⟩|⟨_,g⟩<;>simp only[ES,Fl]at g<;>(first|subst g|(obtain⟨_,_,_,rfl⟩:=g))<;>rfl
   |3,h=>simp only[ES]at h;subst h;rcases g2 with⟨_,g⟩|⟨_,g⟩<;>simp only[ES,Fl]at g<;>(first|subst g|(obtain⟨_,rfl⟩:=g))<;>rfl
   |4,h=>simp only[ES]at h;subst h;rcases g2 with⟨_,g⟩|⟨_,g⟩<;>simp only[ES,Fl]at g<;>(first|subst g|(obtain⟨_,_,_,rfl⟩:=g))<;>rfl
   |5,h=>simp only[ES]at h;subst h;rcases g2 with⟨_,g⟩|⟨_,g⟩<;>simp only[ES,Fl]at g<;>(first|subst g|(obtain⟨_,_,rfl⟩:=g))<;>rfl
  rw[this]
  simp[g3]
 ·rename_i h1 h2
  have g1:=Sy h1 hy
  have g2:=aC hm h2 hx
  have g3:=R7 (w:=w) ht g2 g1
  refine .inr ⟨⟨_,_,h,?_,N0 _⟩,rfl,g2.elim (λh=>.inl h.2) (λh=>.inr h.2),g1⟩
  have:binOp .neq t vx vy=(do pure (.bool (!(<-Op.equal t vx vy)))):=by
   generalize e.kd=kd at g1 g2
   match kd,g1 with
   |1,h=>simp only[ES]at h;subst h;rcases g2 with⟨_,g⟩|⟨_,g⟩<;>simp only[ES,Fl]at g<;>(first|subst g|(obtain⟨_,rfl⟩:=g))<;>rfl
   |2,h=>simp only[ES]at h;subst h;rcases g2 with⟨_,g⟩|⟨_,g⟩<;>simp only[ES,Fl]at g<;>(first|subst g|(obtain⟨_,_,_,rfl⟩:=g))<;>rfl
   |3,h=>simp only[ES]at h;subst h;rcases g2 with⟨_,g⟩|⟨_,g⟩<;>simp only[ES,Fl]at g<;>(first|subst g|(obtain⟨_,rfl⟩:=g))<;>rfl
   |4,h=>simp only[ES]at h;subst h;rcases g2 with⟨_,g⟩|⟨_,g⟩<;>simp only[ES,Fl]at g<;>(first|subst g|(obtain⟨_,_,_,rfl⟩:=g))<;>rfl
   |5,h=>simp only[ES]at h;subst h;rcases g2 with⟨_,g⟩|⟨_,g⟩<;>simp only[ES,Fl]at g<;>(first|subst g|(obtain⟨_,_,rfl⟩:=g))<;>rfl
  rw[this]
  simp[g3]
 ·exact .inl h
theorem BO {t:TypeId} {K:TyI->Prop}(h:D8 T t no K):no\/∃e,GL t T=some e/\K e:=by
 unfold D8 at h
 split at h
 ·rename_i e he;exact .inr ⟨e,he,h⟩
 ·exact .inl h
theorem Bz {α:Type} {o:Option α} {K:α->Prop}(h:DC o no K):no\/∃x,o=some x/\K x:=by
 unfold DC at h
 split at h
 ·rename_i x;exact .inr ⟨x,rfl,h⟩
 ·exact .inl h
theorem BA {b:Bool} {K:Prop}(h:DD b no K):no\/(b=true/\K):=by
 cases b
 ·exact .inl h
 ·exact .inr ⟨rfl,h⟩
theorem kI {P:Program} {op:BinOp} {t:TypeId} {x y:Operand} {kd:Nat}(hx:ES kd vx\/Fl kd vx)(hy:ES kd vy)(hc:kd=5->y=.const .nilIface):(eqGuard op t x y vx vy).run P w=.ok () w:=by
 match kd,hy with
 |1,h=>simp only[ES,Fl]at h hx;subst h;rcases hx with rfl|⟨_,rfl⟩<;>simp[eqGuard]
 |2,h=>simp only[ES,Fl]at h hx;subst h;rcases hx with rfl|⟨_,_,_,rfl⟩<;>simp[eqGuard]
 |3,h=>simp only[ES,Fl]at h hx;subst h;rcases hx with rfl|⟨_,rfl⟩<;>simp[eqGuard]
 |4,h=>simp only[ES,Fl]at h hx;subst h;rcases hx with rfl|⟨_,_,_,rfl⟩<;>simp[eqGuard]
 |5,h=>simp only[ES,Fl]at h hx;subst h;rw[hc rfl];rcases hx with rfl|⟨_,_,rfl⟩<;>simp[eqGuard]
theorem qO {op:BinOp} {kd:Nat} {y:Operand}(ho:NR op=true)(hx:ES kd vx\/Fl kd vx)(hy:ES kd vy)(hc:kd=5->y=.const .nilIface):(Fw op vx vy||Lk op vx y)=true:=by
 match kd,hy with
 |1,h=>simp only[ES,Fl]at h hx;subst h;rcases hx with rfl|⟨_,rfl⟩<;>simp[Fw,ho]
 |2,h=>simp only[ES,Fl]at h hx;subst h;rcases hx with rfl|⟨_,_,_,rfl⟩<;>simp[Fw,ho]
 |3,h=>simp only[ES,Fl]at h hx;subst h;rcases hx with rfl|⟨_,rfl⟩<;>simp[Fw,ho]
 |4,h=>simp only[ES,Fl]at h hx;subst h;rcases hx with rfl|⟨_,_,_,rfl⟩<;>simp[Fw,ho]
 |5,h=>simp only[ES,Fl]at h hx;subst h;rw[hc rfl];rcases hx with rfl|⟨_,_,rfl⟩<;>simp[Fw,Lk,ho]
theorem vJ(hC:C.Ok T)(hm:Mem C B S w0 σ η φ w) {op:BinOp} {t:TypeId} {x y:Dat} {yo xo:Operand}(hx:RD B σ η φ w x vx)(hy:RD B σ η φ w y vy) {K:Dat->Prop}(h:vK T t op (Yt yo) x y σ K no):
  no\/(∃d v,K d/\(do eqGuard op t xo yo vx vy;binOp op t vx vy).run C.P w=.ok v w/\RD B σ η φ w d v)/\(Fw op vx vy||Lk op vx yo)=true:=by
 have fin:∀{vx vy},fB C.P op t vx vy w B σ η φ K->(eqGuard op t xo yo vx vy).run C.P w=.ok () w->(Fw op vx vy||Lk op vx yo)=true->no\/(∃d v,K d/\(do eqGuard op t xo yo vx vy;binOp op t vx vy).run C.P w=.ok v w/\RD B σ η φ w d v)/\(Fw op vx vy||Lk op vx yo)=true:=by
  rintro vx vy ⟨d,v,h1,h2,h3⟩ hg hp
  exact .inr ⟨⟨d,v,h1,by rw[AK,hg];exact h2,h3⟩,hp⟩
 have hb:∀b:Bool,b=decide (b=true):=by simp
 unfold vK at h
 split at h
 ·rcases BA h with h|⟨hk,h1⟩
  ·exact .inl h
  ·simp at hk;subst hk
   rw[hx.int,hy.int]
   rcases vH (w:=w) (B:=B) (σ:=σ) (η:=η) (φ:=φ) (P:=C.P) (t:=t) h1 with h|⟨h,h2⟩
   ·exact .inl h
   ·exact fin h (by rw[eqGuard_at_int];rfl) (by simp[Fw])
 ·rw[hx.str,hy.str]
  rcases vA (w:=w) (B:=B) (σ:=σ) (η:=η) (φ:=φ) (P:=C.P) (t:=t) h with h|h
  ·exact .inl h
  ·exact fin h (by rw[eqGuard_at_string];rfl) (by simp[Fw])
 ·rcases BO h with h|⟨e,he,h⟩
  ·exact .inl h
  rcases BA h with h|⟨hk,h⟩
  ·exact .inl h
  rw[hx.bool,hy.bool]
  rcases KR (w:=w) (B:=B) (σ:=σ) (η:=η) (φ:=φ) (P:=C.P) (t:=t) (hb _) (hb _) ((hC.ty he).bool_desc (Az hk)) h with h|⟨h,h2⟩
  ·exact .inl h
  ·exact fin h (by rw[eqGuard_at_bool];rfl) (by simp[Fw,h2])
 ·rcases BO h with h|⟨e,he,h⟩
  ·exact .inl h
  rcases BA h with h|⟨hk,h⟩
  ·exact .inl h
  rw[hx.bool,hy.prop]
  rcases KR (w:=w) (B:=B) (σ:=σ) (η:=η) (φ:=φ) (P:=C.P) (t:=t) (hb _) rfl ((hC.ty he).bool_desc (Az hk)) h with h|⟨h,h2⟩
  ·exact .inl h
  ·exact fin h (by rw[eqGuard_at_bool];rfl) (by simp[Fw,h2])
 ·rcases BO h with h|⟨e,he,h⟩
  ·exact .inl h
  rcases BA h with h|⟨hk,h⟩
  ·exact .inl h
  rw[hx.prop,hy.bool]
  rcases KR (w:=w) (B:=B) (σ:=σ) (η:=η) (φ:=φ) (P:=C.P) (t:=t) rfl (hb _) ((hC.ty he).bool_desc (Az hk)) h with h|⟨h,h2⟩
  ·exact .inl h
  ·exact fin h (by rw[eqGuard_at_bool];rfl) (by simp[Fw,h2])
 ·rcases BO h with h|⟨e,he,h⟩
  ·exact .inl h
  rcases BA h with h|⟨hk,h⟩
  ·exact .inl h
  rw[hx.prop,hy.prop]
  rcases KR (w:=w) (B:=B) (σ:=σ) (η:=η) (φ:=φ) (P:=C.P) (t:=t) rfl rfl ((hC.ty he).bool_desc (Az hk)) h with h|⟨h,h2⟩
  ·exact .inl h
  ·exact fin h (by rw[eqGuard_at_bool];rfl) (by simp[Fw,h2])
 ·rcases BO h with h|⟨e,he,h⟩
  ·exact .inl h
  rcases BA h with h|⟨hk,h⟩
  ·exact .inl h
  have hc:e.kd=5->yo=.const .nilIface:=λh5=>by
   rw[h5]at hk
   have:Yt yo=true:=by simpa using hk
   unfold Yt at this
   split at this
   ·rfl
   ·cases this
  rcases vD hm (hC.ty he) hx hy h with h|⟨h,h2,h3,h4⟩
  ·exact .inl h
  ·exact fin h (kI h3 h4 hc) (qO h2 h3 h4 hc)
theorem ABm {P:Program} {op:UnOp} {x:Dat}(hx:RD B σ η φ w x vx) {K:Dat->Prop}(h:AD2 op x K no):no\/∃d v,K d/\(Op.unary op vx).run P w=.ok v w/\RD B σ η φ w d v:=by
 unfold AD2 at h
 split at h
 ·rw[hx.bool];exact .inr ⟨_,_,h,rfl,N0 _⟩
 ·rw[hx.prop];exact .inr ⟨_,_,h,by simp[Op.unary],Gm _ _⟩
 ·rw[hx.int];obtain⟨m,h1,h2⟩:=h;exact .inr ⟨_,_,h2,by simp[Op.unary,Op.intArith,h1],Fv _ _⟩
 ·exact .inl h
end
end Go.Sx
namespace Go.Sx
open Go Go.RowKit Go.Reg
mutual
theorem FD {O:List Nat} {w:World}:∀(d:Da) (cs:List Value),RepC O w d cs->cs.length=d.size
 |.agg ds,cs,h=>by simp only[RepC]at h;simp only[Da.size];exact Wt ds cs h
 |.undef,cs,h=>by simp only[RepC]at h;obtain⟨v,rfl⟩:=h;rfl
 |.int _ _,cs,h=>by simp only[RepC]at h;subst h;rfl
 |.bool _,cs,h=>by simp only[RepC]at h;subst h;rfl
 |.prop _ _,cs,h=>by simp only[RepC]at h;subst h;rfl
 |.str _,cs,h=>by simp only[RepC]at h;subst h;rfl
 |.tuple _,cs,h=>by simp only[RepC]at h;obtain⟨_,_,rfl⟩:=h;rfl
 |.nilp,cs,h=>by simp only[RepC]at h;subst h;rfl
 |.nils,cs,h=>by simp only[RepC]at h;subst h;rfl
 |.nilm,cs,h=>by simp only[RepC]at h;subst h;rfl
 |.nilf,cs,h=>by simp only[RepC]at h;subst h;rfl
 |.nili,cs,h=>by simp only[RepC]at h;subst h;rfl
 |.iface _ _,cs,h=>by simp only[RepC]at h;obtain⟨_,_,rfl⟩:=h;rfl
 |.ref _,cs,h=>by simp only[RepC]at h;obtain⟨_,_,_,rfl,_⟩:=h;rfl
 |.list _ _,cs,h=>by simp only[RepC]at h;obtain⟨_,_,_,rfl,_⟩:=h;rfl
 |.func _ _ _,cs,h=>by simp only[RepC]at h;obtain⟨_,_,_,_,rfl⟩:=h;rfl
 |.raw _,cs,h=>by simp only[RepC]at h;subst h;rfl
theorem Wt {O:List Nat} {w:World}:∀(ds:List Da) (cs:List Value),RepCs O w ds cs->cs.length=mH ds
 |[],cs,h=>by simp only[RepCs]at h;subst h;rfl
 |
  d::ds,cs,h=>by
  simp only[RepCs]at h
  obtain⟨c1,c2,rfl,h1,h2⟩:=h
  simp only[Ah,mH,FD d c1 h1,Wt ds c2 h2]
end
mutual
theorem EJ {η:Nat->Value} {I O:List Nat} {w:World}:∀(d:Dat) (cs:List Value),AJ η I O w d cs->cs.length=d.size
 |.d x,cs,h=>FD x cs h
 |.agg ds,cs,h=>by simp only[AJ]at h;simp only[Dat.size];exact Kh ds cs h
 |.own _,cs,h=>by simp only[AJ]at h;obtain⟨_,rfl⟩:=h;rfl
 |.at_ _ _,cs,h=>by simp only[AJ]at h;obtain⟨_,_,_,rfl⟩:=h;rfl
 |.el _ _ _ _,cs,h=>by simp only[AJ]at h;obtain⟨_,_,_,_,_,rfl⟩:=h;rfl
 |.tuple _,cs,h=>by simp only[AJ]at h;obtain⟨_,_,rfl⟩:=h;rfl
 |.iface _ _,cs,h=>by simp only[AJ]at h;obtain⟨_,_,rfl⟩:=h;rfl
 |.func _ _ _,cs,h=>by simp only[AJ]at h;obtain⟨_,_,_,_,rfl⟩:=h;rfl
theorem Kh {η:Nat->Value} {I O:List Nat} {w:World}:∀(ds:List Dat) (cs:List Value),B6 η I O w ds cs->cs.length=O4 ds
 |[],cs,h=>by simp only[B6]at h;subst h;rfl
 |
  d::ds,cs,h=>by
  simp only[B6]at h
  obtain⟨c1,c2,rfl,h1,h2⟩:=h
  simp only[Ah,O4,EJ d c1 h1,Kh ds c2 h2]
end
mutual
theorem Md {O:List Nat} {w:World}:∀(d:Da) (cs:List Value),d.stor=true->RepC O w d cs->∀v∈cs,v.oneCell'=true
 |.agg ds,cs,hs,h=>by simp only[RepC]at h;simp only[Da.stor]at hs;exact Ws ds cs hs h
 |.undef,cs,hs,h=>by cases hs
 |.int _ _,cs,hs,h=>by simp only[RepC]at h;subst h;simp[Value.oneCell']
 |.bool _,cs,hs,h=>by simp only[RepC]at h;subst h;simp[Value.oneCell']
 |.prop _ _,cs,hs,h=>by simp only[RepC]at h;subst h;simp[Value.oneCell']
 |.str _,cs,hs,h=>by simp only[RepC]at h;subst h;simp[Value.oneCell']
 |.tuple _,cs,hs,h=>by cases hs
 |.nilp,cs,hs,h=>by simp only[RepC]at h;subst h;simp[Value.oneCell']
 |.nils,cs,hs,h=>by simp only[RepC]at h;subst h;simp[Value.oneCell']
 |.nilm,cs,hs,h=>by simp only[RepC]at h;subst h;simp[Value.oneCell']
 |.nilf,cs,hs,h=>by simp only[RepC]at h;subst h;simp[Value.oneCell']
 |.nili,cs,hs,h=>by simp only[RepC]at h;subst h;simp[Value.oneCell']
 |.iface _ _,cs,hs,h=>by simp only[RepC]at h;obtain⟨_,_,rfl⟩:=h;simp[Value.oneCell']
 |.ref _,cs,hs,h=>by simp only[RepC]at h;obtain⟨_,_,_,rfl,_⟩:=h;simp[Value.oneCell']
 |.list _ _,cs,hs,h=>by simp only[RepC]at h;obtain⟨_,_,_,rfl,_⟩:=h;simp[Value.oneCell']
 |.func _ _ _,cs,hs,h=>by simp only[RepC]at h;obtain⟨_,_,_,_,rfl⟩:=h;simp[Value.oneCell']
 |.raw _,cs,hs,h=>by cases hs
theorem Ws {O:List Nat} {w:World}:∀(ds:List Da) (cs:List Value),mE ds=true->RepCs O w ds cs->∀v∈cs,v.oneCell'=true
 |[],cs,hs,h=>by simp only[RepCs]at h;subst h;simp
 |
  d::ds,cs,hs,h=>by
  simp only[RepCs]at h
  obtain⟨c1,c2,rfl,h1,h2⟩:=h
  simp only[mE,Ar]at hs
  intro v hv
  rcases Ag.1 hv with hv|hv
  ·exact Md d c1 hs.1 h1 v hv
  ·exact Ws ds c2 hs.2 h2 v hv
end
def AAF(η:Nat->Value)(I:List Nat):Prop:=∀i∈I,(η i).oneCell'=true
mutual
theorem PH {η:Nat->Value} {I O:List Nat} {w:World}(hη:AAF η I):∀(d:Dat) (cs:List Value),d.stor=true->AJ η I O w d cs->∀v∈cs,v.oneCell'=true
 |.d x,cs,hs,h=>Md x cs hs h
 |.agg ds,cs,hs,h=>by simp only[AJ]at h;simp only[Dat.stor]at hs;exact Wr hη ds cs hs h
 |.own i,cs,hs,h=>by simp only[AJ]at h;obtain⟨h1,rfl⟩:=h;simpa using hη i h1
 |.at_ _ _,cs,hs,h=>by simp only[AJ]at h;obtain⟨_,_,_,rfl⟩:=h;simp[Value.oneCell']
 |.el _ _ _ _,cs,hs,h=>by simp only[AJ]at h;obtain⟨_,_,_,_,_,rfl⟩:=h;simp[Value.oneCell']
 |.tuple _,cs,hs,h=>by cases hs
 |.iface _ _,cs,hs,h=>by simp only[AJ]at h;obtain⟨_,_,rfl⟩:=h;simp[Value.oneCell']
 |.func _ _ _,cs,hs,h=>by simp only[AJ]at h;obtain⟨_,_,_,_,rfl⟩:=h;simp[Value.oneCell']
theorem Wr {η:Nat->Value} {I O:List Nat} {w:World}(hη:AAF η I):∀(ds:List Dat) (cs:List Value),XC ds=true->B6 η I O w ds cs->∀v∈cs,v.oneCell'=true
 |[],cs,hs,h=>by simp only[B6]at h;subst h;simp
 |
  d::ds,cs,hs,h=>by
  simp only[B6]at h
  obtain⟨c1,c2,rfl,h1,h2⟩:=h
  simp only[XC,Ar]at hs
  intro v hv
  rcases Ag.1 hv with hv|hv
  ·exact PH hη d c1 hs.1 h1 v hv
  ·exact Wr hη ds c2 hs.2 h2 v hv
end
theorem oZ {O:List Nat} {w:World} {d:Da} {cs:List Value}(h:RepC O w d cs)(hs:d.stor=true):(DZ d cs).cells.toList=cs/\(d.isAgg=false->cs=[DZ d cs]):=by
 have hl:=FD d cs h
 have ho:=Md d cs hs h
 cases d with
 |agg ds=>exact⟨by simp[DZ,Value.cells],λh=>by cases h⟩
 |
  _=>
  all_goals
   simp only[Da.size]at hl
   obtain⟨v,rfl⟩:=C4.1 hl
   have:=ho v (by simp)
   refine⟨?_,λ_=>rfl⟩
   simp only[DZ,ABd]
   cases v<;>simp[Value.oneCell']at this<;>rfl
theorem KP {η:Nat->Value} {I O:List Nat} {w:World} {d:Dat} {cs:List Value}(hη:AAF η I)(h:AJ η I O w d cs)(hs:d.stor=true):(Cf d cs).cells.toList=cs/\(d.isAgg=false->cs=[Cf d cs]):=by
 have hl:=EJ d cs h
 have ho:=PH hη d cs hs h
 cases d with
 |d x=>exact oZ h hs
 |agg ds=>exact⟨by simp[Cf,Value.cells],λh=>by cases h⟩
 |
  _=>
  all_goals
   simp only[Dat.size]at hl
   obtain⟨v,rfl⟩:=C4.1 hl
   have:=ho v (by simp)
   refine⟨?_,λ_=>rfl⟩
   simp only[Cf,ABd]
   cases v<;>simp[Value.oneCell']at this<;>rfl
theorem IY {P:Program} {t:TypeId} {e:TyI}(h:TyOk P t e) {w:World} {b o:Nat} {cs:List Value}(hc:Fs w b o cs)(hl:cs.length=e.size)(hs:e.agg=false->e.size=1):
  (loadVar t ⟨b,o,none⟩).run P w=.ok (if e.agg then .agg cs.toArray else cs.headD undef) w:=by
 unfold loadVar
 simp only[AK,h.isAgg,AH]
 cases ha:e.agg
 ·have h1:=hs ha
  rw[h1]at hl
  obtain⟨v,rfl⟩:=C4.1 hl
  have h2:w.cell? ⟨b,o,none⟩=some v:=hc 0 v rfl
  simp[h2]
 ·have:=run_loadCells_list (P:=P) w ⟨b,o,none⟩ cs (λj v hj=>by
   have:=hc j v hj
   by_cases hj0:j=0
   ·subst hj0;exact this
   ·simpa[Addr.add,hj0]using this)
  rw[hl]at this
  simp only[if_true,AK,h.sizeOf,AH,this,Bn]
theorem Lt {d:Dat} {e:TyI}(h:d.fits e=true):d.isAgg=e.agg/\d.size=e.size:=by
 simp only[Dat.fits,Ar,beq_iff_eq]at h
 exact⟨h.1,Az h.2⟩
theorem vS {d:Da}(h:d.isAgg=false):d.size=1:=by
 cases d<;>first|rfl|cases h
theorem QU {d:Dat}(h:d.isAgg=false):d.size=1:=by
 cases d with
 |d x=>exact vS h
 |agg ds=>cases h
 |_=>rfl
theorem IJ {d:Dat} {cs:List Value}:Cf d cs=if d.isAgg then .agg cs.toArray else cs.headD undef:=by
 cases d with
 |d x=>cases x<;>rfl
 |_=>rfl
theorem GS {η:Nat->Value} {I O:List Nat} {w:World}:∀{xs:List Da} {cs:List Value},B6 η I O w (Cr xs) cs↔RepCs O w xs cs
 |[],cs=>by simp[Cr,B6,RepCs]
 |x::xs,cs=>by simp only[Cr,B6,RepCs,AJ,GS (xs:=xs)]
theorem Kl {η:Nat->Value} {I O:List Nat} {w:World} {d:Dat} {es:List Dat} {cs:List Value}(h:d.parts=some es)(hd:AJ η I O w d cs):B6 η I O w es cs/\d.isAgg=true:=by
 unfold Dat.parts at h
 split at h
 ·simp at h;subst h;exact⟨GS.2 (by simpa only[AJ,RepC]using hd),rfl⟩
 ·simp at h;subst h;exact⟨by simpa only[AJ]using hd,rfl⟩
 ·cases h
theorem Kr {η:Nat->Value} {I O:List Nat} {w:World} {e:TyI}:∀(f:Nat) (ds:List Dat) (o:Nat) {d:Dat} {cs:List Value},Lm e f ds o=some d->B6 η I O w ds cs->d.fits e=true/\∃c,AJ η I O w d c/\∀(j:Nat) (u:Value),c[j]? =some u->cs[o+j]? =some u
 |0,_,_,_,_,h,_=>by simp[Lm]at h
 |f+1,[],_,_,_,h,_=>by simp[Lm]at h
 |
  f+1,d::ds,o,x,cs,h,hr=>by
  simp only[B6]at hr
  obtain⟨c1,c2,rfl,h1,h2⟩:=hr
  have hl:=EJ d c1 h1
  simp only[Lm]at h
  split at h
  ·rename_i hb
   have hlt:¬o<d.size:=by
    intro hh;rw[(by simpa[Nat.blt_eq]using hh:Nat.blt o d.size=true)]at hb;cases hb
   obtain⟨g1,c,g2,g3⟩:=Kr f ds _ h h2
   refine⟨g1,c,g2,λj u hj=>?_⟩
   rw[Bu (by omega),hl]
   have:=g3 j u hj
   rwa [show o+j-d.size=o-d.size+j by omega]
  ·split at h
   ·rename_i hb2
    simp only[Ar]at hb2
    have h0:=Az hb2.1
    simp at h;subst h;subst h0
    exact⟨hb2.2,c1,h1,λj u hj=>by rw[Bo (by have:=(Ae.1 hj).1;omega),DT];exact hj⟩
   ·split at h
    ·rename_i es hp
     obtain⟨g1,c,g2,g3⟩:=Kr f es o h (Kl hp h1).1
     refine⟨g1,c,g2,λj u hj=>?_⟩
     have:=g3 j u hj
     rw[Bo (Ae.1 this).1]
     exact this
    ·cases h
def splice(cs:List Value)(o:Nat)(x:List Value):List Value:=cs.take o++x++cs.drop (o+x.length)
theorem LQ {c1 c2 x:List Value} {o:Nat}(h:o+x.length<=c1.length):splice (c1++c2) o x=splice c1 o x++c2:=by
 unfold splice
 rw[BX (by omega),List.drop_append_of_le_length h]
 simp
theorem Ft {c1 c2 x:List Value} {o:Nat}(h:c1.length<=o):splice (c1++c2) o x=c1++splice c2 (o-c1.length) x:=by
 unfold splice
 rw[List.take_append,uK,Ak (by omega),C5 (by omega:c1.length<=o+x.length),show o+x.length-c1.length=o-c1.length+x.length by omega]
 simp
theorem Mf {η:Nat->Value} {I O:List Nat} {w:World} {x:Dat} {cx:List Value}(hx:AJ η I O w x cx):∀(f:Nat) (ds:List Dat) (o:Nat) {ds':List Dat} {cs:List Value},PL x f ds o=some ds'->B6 η I O w ds cs->B6 η I O w ds' (splice cs o cx)/\o+cx.length<=cs.length
 |0,_,_,_,_,h,_=>by simp[PL]at h
 |f+1,[],_,_,_,h,_=>by simp[PL]at h
 |
  f+1,d::ds,o,ds',cs,h,hr=>by
  simp only[B6]at hr
  obtain⟨c1,c2,rfl,h1,h2⟩:=hr
  have hl:=EJ d c1 h1
  have hlx:=EJ x cx hx
  simp only[PL]at h
  split at h
  ·rename_i hb
   have hlt:¬o<d.size:=by
    intro hh;rw[(by simpa[Nat.blt_eq]using hh:Nat.blt o d.size=true)]at hb;cases hb
   unfold ACZ at h
   split at h
   ·rename_i l hp
    simp at h;subst h
    obtain⟨g1,g2⟩:=Mf hx f ds _ hp h2
    rw[Ft (by omega),hl]
    refine⟨?_,by simp;omega⟩
    simp only[B6]
    exact⟨c1,_,rfl,h1,g1⟩
   ·cases h
  ·split at h
   ·rename_i hb2
    simp only[Ar,beq_iff_eq]at hb2
    obtain⟨⟨h0,_⟩,h3⟩:=hb2
    have h0:=Az h0
    have h3:=Az h3
    simp at h;subst h;subst h0
    have:splice (c1++c2) 0 cx=cx++c2:=by
     unfold splice
     rw[uK,C5 (by omega)]
     simp
     rw[show cx.length-c1.length=0 by omega];rfl
    rw[this]
    refine⟨?_,by simp;omega⟩
    simp only[B6]
    exact⟨cx,c2,rfl,hx,h2⟩
   ·split at h
    ·rename_i es hp
     unfold AEW at h
     split at h
     ·rename_i l hp2
      simp at h;subst h
      obtain⟨g1,g2⟩:=Mf hx f es o hp2 (Kl hp h1).1
      rw[LQ (by omega)]
      refine⟨?_,by simp;omega⟩
      simp only[B6,AJ]
      exact⟨_,c2,rfl,g1,h2⟩
     ·cases h
    ·cases h
theorem IT.splice {P:Program} {w:World} {b:Nat} {T:TypeId} {cs x:List Value} {o:Nat}(h:IT w b T cs)(hl:o+x.length<=cs.length)(h1:∀v∈x,v.oneCell'=true):
  ∃w',(storeCells ⟨b,o,none⟩ x).run P w=.ok () w'/\IT w' b T (splice cs o x)/\Tch [b] w w':=by
 have:=run_storeCells_at P b o T x 0 cs.toArray w h (by simpa using hl) h1
 refine⟨_,this,?_,?_⟩
 ·have e:=setRow_heap w b cs.toArray (cs.toArray.toList.take (o+0)++x++cs.toArray.toList.drop (o+0+x.length)).toArray T (0,0) h
  unfold IT;rw[e];simp[Sx.splice]
 ·exact⟨rfl,rfl,rfl,by simp[World.setRow],λk hk hn=>by
   have:b≠k:=λe=>hn (by simp[e])
   simp[World.setRow,CB,this]⟩
end Go.Sx
namespace Go.Sx
open Go Go.RowKit Go.Reg
theorem IK {O:List Nat} {w:World}:∀{ds:List Da} {css:List (List Value)},Aq O w ds css->∀{n:Nat} {d:Da},ds[n]? =some d->∃c,css[n]? =some c/\RepC O w d c
 |[],css,h,n,d,hn=>by simp at hn
 |
  x::ds,css,h,n,d,hn=>by
  simp only[Aq]at h
  obtain⟨c1,c2,rfl,h1,h2⟩:=h
  cases n with
  |zero=>simp at hn;subst hn;exact⟨c1,rfl,h1⟩
  |succ n=>exact IK h2 (by simpa using hn)
theorem FH {O:List Nat} {w:World}:∀{ds es:List Da} {css css2:List (List Value)},Aq O w ds css->Aq O w es css2->Aq O w (ds++es) (css++css2)
 |[],es,css,css2,h,h2=>by simp only[Aq]at h;subst h;simpa using h2
 |
  x::ds,es,css,css2,h,h2=>by
  simp only[Aq]at h
  obtain⟨c1,c2,rfl,h1,h3⟩:=h
  exact⟨c1,c2++css2,rfl,h1,FH h3 h2⟩
theorem Ja {O:List Nat} {w:World}:∀{ds:List Da} {css:List (List Value)},Aq O w ds css->∀(n:Nat) {d:Da} {c:List Value},RepC O w d c->Aq O w (ds.set n d) (css.set n c)
 |[],css,h,n,d,c,hc=>by simp only[Aq]at h;subst h;simp[Aq]
 |
  x::ds,css,h,n,d,c,hc=>by
  simp only[Aq]at h
  obtain⟨c1,c2,rfl,h1,h2⟩:=h
  cases n with
  |zero=>exact⟨c,c2,rfl,hc,h2⟩
  |succ n=>exact⟨c1,c2.set n c,rfl,h1,Ja h2 n hc⟩
theorem Mc {O:List Nat} {w:World}:∀{ds:List Da} {css:List (List Value)},Aq O w ds css->∀n,Aq O w (ds.take n) (css.take n)
 |[],css,h,n=>by simp only[Aq]at h;subst h;simp[Aq]
 |
  x::ds,css,h,n=>by
  simp only[Aq]at h
  obtain⟨c1,c2,rfl,h1,h2⟩:=h
  cases n with
  |zero=>simp[Aq]
  |succ n=>exact⟨c1,c2.take n,rfl,h1,Mc h2 n⟩
theorem Sf {O:List Nat} {w:World}:∀{ds:List Da} {css:List (List Value)},Aq O w ds css->∀n,Aq O w (ds.drop n) (css.drop n)
 |[],css,h,n=>by simp only[Aq]at h;subst h;simp[Aq]
 |
  x::ds,css,h,n=>by
  simp only[Aq]at h
  obtain⟨c1,c2,rfl,h1,h2⟩:=h
  cases n with
  |zero=>exact⟨c1,c2,rfl,h1,h2⟩
  |succ n=>exact Sf h2 n
theorem Vb {k:Nat}:∀{css:List (List Value)},(∀x∈css,x.length=k)->∀{n:Nat} {c:List Value},css[n]? =some c->∀{j:Nat} {u:Value},c[j]? =some u->css.flatten[n*k+j]? =some u
 |[],h,n,c,hn,j,u,hj=>by simp at hn
 |
  x::css,h,n,c,hn,j,u,hj=>by
  have hx:=h x (by simp)
  cases n with
  |
   zero=>
   simp at hn;subst hn
   have:=(Ae.1 hj).1
   simp only[Cs,Nat.zero_mul,DT]
   rw[Bo (by omega)];exact hj
  |
   succ n=>
   simp only[Cs]
   rw[Bu (by rw[hx,CT];omega),hx,show(n+1)*k+j-k=n*k+j by rw[CT];omega]
   exact Vb (λy hy=>h y (by simp[hy])) (by simpa using hn) hj
theorem K6 {k:Nat}:∀{css:List (List Value)},(∀x∈css,x.length=k)->css.flatten.length=css.length*k
 |[],h=>by simp
 |
  x::css,h=>by
  have ih:=K6 (css:=css) (λy hy=>h y (AA _ hy))
  simp only[Cs,Ah,Ax,h x (by simp),ih,CT];omega
theorem zW {k:Nat} {css:List (List Value)}(h:∀x∈css,EN k x):∀v∈css.flatten,v.oneCell'=true:=λv hv=>by
 obtain⟨x,hx,hv⟩:=List.mem_flatten.1 hv
 exact(h x hx).2 v hv
theorem flatMap_id(css:List (List Value)):css.flatMap id=css.flatten:=by simp[List.flatMap]
theorem Xg {k:Nat}:∀{css:List (List Value)},(∀x∈css,x.length=k)->∀n,(css.drop n).flatten=css.flatten.drop (n*k)
 |[],h,n=>by simp
 |x::css,h,0=>by simp
 |
  x::css,h,n+1=>by
  have hx:=h x (by simp)
  simp only[List.drop_succ_cons,Cs]
  have e:x.drop ((n+1)*k)=[]:=C5 (by rw[hx,CT];omega)
  rw[Xg (λy hy=>h y (by simp[hy])) n,uK,e,BC,hx,show(n+1)*k-k=n*k by rw[CT];omega]
theorem Fs.mono {w:World} {b o:Nat} {cs:List Value} {m:Nat} {x:List Value}(h:Fs w b o cs)(hx:∀(j:Nat) (u:Value),x[j]? =some u->cs[m+j]? =some u):Fs w b (o+m) x:=λj u hj=>by
 have:=h (m+j) u (hx j u hj)
 rwa [<-Ht]at this
section
variable {C:Cx} {T:Hb} {B S:List Nat} {w0 w:World} {n:Nat} {fr:Fr} {σ:Sg} {η:Nat->Value} {φ:Nat->List Nat} {a:Act} {v vx vy:Value} {no:Prop}
theorem Mem.oneV(h:Mem C B S w0 σ η φ w):AAF η (BB σ):=by
 intro i hi
 obtain⟨p,hp,rfl⟩:=An.1 hi
 have:=h.own p hp
 cases ho:p.2 with
 |cells t ds=>rw[ho]at this;obtain⟨b,cs,h1,_⟩:=this;rw[h1];rfl
 |
  slice E k ds=>
  rw[ho]at this
  obtain⟨css,hs,_⟩:=this
  rcases hs.shape with⟨he,_⟩|⟨g,c,he,_⟩<;>rw[he]<;>rfl
 |abs R k l o=>rw[ho]at this;exact o _ _ _ this
 |ghost vs ds=>rw[ho]at this;obtain⟨h1,_⟩:=this;rw[h1];rfl
 |absd R k l o ds=>rw[ho]at this;obtain⟨css,_,h1⟩:=this;exact o _ _ _ _ h1
theorem Ke {E k:Nat} {css:List (List Value)}(h:Sl E k id w v css) {g l c:Nat}(hv:v=.slice (some ⟨g,0,none⟩) l c):Fs w g 0 css.flatten:=by
 intro j u hj
 have:=VE h (g:=g) (by rw[hv];rfl) j u (by rw[flatMap_id];exact hj)
 simpa[DB]using this
theorem RD.force {d:Dat} {K:Dat->Prop}(h:force d K):K d:=by rwa [Kz]at h
theorem E4:∀{ds:List Dat} {xs:List Da},EU ds=some xs->ds=Cr xs
 |[],xs,h=>by simp[EU]at h;subst h;rfl
 |
  .d x::ds,xs,h=>by
  simp only[EU]at h
  split at h
  ·rename_i ys hy;simp at h;subst h;simp[Cr,E4 hy]
  ·cases h
 |.own _::ds,xs,h=>by simp[EU]at h
 |.at_ _ _::ds,xs,h=>by simp[EU]at h
 |.el _ _ _ _::ds,xs,h=>by simp[EU]at h
 |.agg _::ds,xs,h=>by simp[EU]at h
 |.tuple _::ds,xs,h=>by simp[EU]at h
 |.iface _ _::ds,xs,h=>by simp[EU]at h
 |.func _ _ _::ds,xs,h=>by simp[EU]at h
theorem ZF {ds:List Dat} {cs:List Value}(h:B6 η (BB σ) (B++Ao φ σ) w ds cs):RD B σ η φ w (aL ds) (.agg cs.toArray):=by
 unfold aL
 split
 ·rename_i xs hxs
  rw[E4 hxs]at h
  exact⟨cs,by simp only[AJ,RepC];exact GS.1 h,rfl⟩
 ·exact⟨cs,by simpa only[AJ]using h,rfl⟩
theorem JH {η:Nat->Value} {I O:List Nat} {w:World} {d:Dat} {cs:List Value}(h:AJ η I O w d cs):B6 η I O w d.cellsOf cs:=by
 have one:∀{d:Dat},AJ η I O w d cs->B6 η I O w [d] cs:=λh=>by simp only[B6];exact⟨cs,[],by simp,h,rfl⟩
 unfold Dat.cellsOf
 split
 ·exact GS.2 (by simpa only[AJ,RepC]using h)
 ·simpa only[AJ]using h
 ·exact one h
theorem We(hC:C.Ok T)(hm:Mem C B S w0 σ η φ w) {t:TypeId} {x:Dat}(hx:RD B σ η φ w x vx) {K:Dat->Prop}(h:X8 T t x σ K no):no\/∃d v,K d/\(Instr.loadAt t vx).run C.P w=.ok v w/\RD B σ η φ w d v:=by
 unfold X8 at h
 rcases BO h with h|⟨e,he,h⟩
 ·exact .inl h
 have ht:=hC.ty he
 have key:∀{d:Dat} {cs:List Value} {b o:Nat},d.fits e=true->AJ η (BB σ) (B++Ao φ σ) w d cs->Fs w b o cs->vx=.pointer (some ⟨b,o,none⟩)->∃v,(Instr.loadAt t vx).run C.P w=.ok v w/\RD B σ η φ w d v:=by
  intro d cs b o hf hr hc hv
  obtain⟨g1,g2⟩:=Lt hf
  have hl:=EJ d cs hr
  refine⟨_,?_,cs,hr,rfl⟩
  rw[hv,IJ,g1]
  simp only[Instr.loadAt,Instr.sureAddr,AK,Bn,AH]
  exact IY ht hc (by omega) (λhh=>by rw[<-g2];exact QU (by rw[g1];exact hh))
 split at h
 ·rcases BA h with h|⟨hf,h⟩
  ·exact .inl h
  obtain⟨cs,h1,h2⟩:=hx
  simp only[AJ,RepC]at h1
  obtain⟨b,o,c,rfl,_,_,h4,h5⟩:=h1
  obtain⟨v,g1,g2⟩:=key (d:=.d _) (cs:=c) hf (by simpa only[AJ]using h4) h5 h2
  exact .inr ⟨_,v,h,g1,g2⟩
 ·rcases Bz h with h|⟨ow,hg,h⟩
  ·exact .inl h
  split at h
  ·obtain⟨b,cs,e1,_,hb,hr⟩:=DX hm hg
   obtain⟨cs',h1,h2⟩:=hx
   simp only[AJ]at h1
   obtain⟨_,rfl⟩:=h1
   split at h
   ·rename_i hcond
    simp only[Ar]at hcond
    rcases BA h with h|⟨hsz,h⟩
    ·exact .inl h
    have hsz:=Az hsz
    have hl:=Kh _ _ hr
    refine .inr ⟨_,_,RD.force h,?_,ZF hr⟩
    rw[show vx=.pointer (some ⟨b,0,none⟩)from h2.trans (by rw[e1];rfl)]
    simp only[Instr.loadAt,Instr.sureAddr,AK,Bn,AH]
    have:=IY ht (w:=w) (b:=b) (o:=0) (cs:=cs) (λj u hj=>by have:=hb.cell hj;simpa using this) (by omega) (λhh=>by rw[hcond.2]at hh;cases hh)
    rw[this,hcond.2];rfl
   rcases Bz h with h|⟨d,hd,h⟩
   ·exact .inl h
   obtain⟨g1,c,g2,g3⟩:=Kr _ _ _ hd hr
   obtain⟨v,g4,g5⟩:=key g1 g2 (Fs.mono (o:=0) (cs:=cs) (λj u hj=>by have:=hb.cell hj;simpa using this) g3) (h2.trans (by rw[e1];rfl))
   exact .inr ⟨_,v,RD.force h,g4,g5⟩
  ·exact .inl h
 ·rcases Bz h with h|⟨ow,hg,h⟩
  ·exact .inl h
  split at h
  ·rcases Bz h with h|⟨d,hd,h⟩
   ·exact .inl h
   obtain⟨b,cs,e1,_,hb,hr⟩:=DX hm hg
   obtain⟨cs',h1,h2⟩:=hx
   simp only[AJ]at h1
   obtain⟨_,b',e2,rfl⟩:=h1
   rw[e1]at e2
   cases e2
   obtain⟨g1,c,g2,g3⟩:=Kr _ _ _ hd hr
   obtain⟨v,g4,g5⟩:=key g1 g2 (Fs.mono (o:=0) (cs:=cs) (λj u hj=>by have:=hb.cell hj;simpa using this) g3) (h2.trans (by simp[Cf]))
   exact .inr ⟨_,v,RD.force h,g4,g5⟩
  ·exact .inl h
 ·rcases Bz h with h|⟨ow,hg,h⟩
  ·exact .inl h
  split at h
  ·rename_i i k0 m off _ _ _ E k ds
   rcases BA h with h|⟨hk0,d0,hd0,h⟩
   ·exact .inl h
   have hk0:=Az hk0
   rcases Bz h with h|⟨d,hd,h⟩
   ·exact .inl h
   obtain⟨css,hs,_,hr,hk⟩:=BW hm hg
   obtain⟨cs',h1,h2⟩:=hx
   simp only[AJ]at h1
   obtain⟨_,b',l,c',e2,rfl⟩:=h1
   obtain⟨c0,hc0,hr0⟩:=IK hr hd0
   obtain⟨g1,c,g2,g3⟩:=Kr _ _ _ hd (cs:=c0) (by simp only[B6,AJ];exact⟨c0,[],by simp,hr0,rfl⟩)
   obtain⟨v,g4,g5⟩:=key g1 g2 (b:=b') (o:=0+(m*k+off)) (Fs.mono (o:=0) (Ke hs e2) (λj u hj=>by
    rw[Ht];exact Vb (λx hx=>(hk x hx).1) hc0 (g3 j u hj))) (h2.trans (by simp[Cf,hk0]))
   exact .inr ⟨_,v,RD.force h,g4,g5⟩
  ·exact .inl h
 ·exact .inl h
theorem MC {k off:Nat} {x:List Value}:∀{css:List (List Value)},(∀y∈css,y.length=k)->∀{n:Nat} {c:List Value},css[n]? =some c->off+x.length<=k->splice css.flatten (n*k+off) x=(css.set n (splice c off x)).flatten
 |[],h,n,c,hn,hl=>by simp at hn
 |
  y::css,h,n,c,hn,hl=>by
  have hy:=h y (by simp)
  cases n with
  |
   zero=>
   simp at hn;subst hn
   simp only[Cs,List.set_cons_zero,Nat.zero_mul,DT]
   exact LQ (by omega)
  |
   succ n=>
   simp only[Cs,List.set_cons_succ]
   rw[Ft (by rw[hy,CT];omega),hy,show(n+1)*k+off-k=n*k+off by rw[CT];omega]
   rw[MC (λz hz=>h z (AA _ hz)) (by simpa using hn) hl]
theorem KU {cs x:List Value} {o:Nat}(h:o+x.length<=cs.length):(splice cs o x).length=cs.length:=by
 unfold splice;simp;omega
theorem Zf {cs x:List Value} {o m:Nat}(h:o+x.length<=m)(hm:m<=cs.length):(splice cs o x).take m=splice (cs.take m) o x:=by
 have hl:(cs.take m).length=m:=by simp;omega
 have e:=LQ (c1:=cs.take m) (c2:=cs.drop m) (x:=x) (o:=o) (by omega)
 rw[BP]at e
 rw[e]
 have:=KU (cs:=cs.take m) (x:=x) (o:=o) (by omega)
 rw[BX (by omega),Ak (by omega)]
theorem gA {cs x:List Value} {o:Nat}(h1:∀v∈cs,v.oneCell'=true)(h2:∀v∈x,v.oneCell'=true):∀v∈splice cs o x,v.oneCell'=true:=by
 intro v hv
 unfold splice at hv
 rcases Ag.1 hv with hv|hv
 ·rcases Ag.1 hv with hv|hv
  ·exact h1 v (DO hv)
  ·exact h2 v hv
 ·exact h1 v (SL hv)
theorem Sl.spliceAt {P:Program} {E k:Nat} {css:List (List Value)}(hk:∀x∈css,EN k x)(h:Sl E k id w v css) {g l c:Nat}(hv:v=.slice (some ⟨g,0,none⟩) l c) {m off:Nat} {c0 x:List Value}(hm:css[m]? =some c0)(hl:off+x.length<=k)(h1:∀u∈x,u.oneCell'=true):
  ∃w',(storeCells ⟨g,m*k+off,none⟩ x).run P w=.ok () w'/\Sl E k id w' v (css.set m (splice c0 off x))/\Tch [g] w w':=by
 have hk':∀y∈css,y.length=k:=λy hy=>(hk y hy).1
 have hfl:css.flatten.length=css.length*k:=K6 hk'
 have hml:m<css.length:=(Ae.1 hm).1
 have hmk:m*k+k<=css.length*k:=by rw[<-Nat.succ_mul];exact Hc k hml
 rcases h.2 with⟨hn,_⟩|⟨g',cap,cur,he,_,hg,hc,hcm,hcs,ht⟩
 ·rw[hn]at hv;cases hv
 ·rw[he]at hv;cases hv
  rw[flatMap_id]at ht
  have hle:css.length*k<=cur.size:=by rw[hcs];exact Hc k hc
  have hr:=run_storeCells_at P g (m*k+off) E x 0 cur w hg (by omega) h1
  refine⟨_,hr,⟨?_,.inr ⟨g,c,(splice cur.toList (m*k+off) x).toArray,?_,Am _,?_,by simpa using hc,hcm,?_,?_⟩⟩,?_⟩
  ·rw[flatMap_id,<-MC hk' hm hl,KU (by omega),hfl];simp
  ·rw[he];simp
  ·have e:=setRow_heap w g cur (cur.toList.take (m*k+off+0)++x++cur.toList.drop (m*k+off+0+x.length)).toArray E (0,0) hg
   rw[e];simp[splice]
  ·simp only[BD,KU (cs:=cur.toList) (x:=x) (o:=m*k+off) (by simp;omega)];simpa using hcs
  ·rw[flatMap_id,<-MC hk' hm hl,Di,<-ht]
   exact Zf (by omega) (by simpa using hle)
  ·exact⟨rfl,rfl,rfl,by simp[World.setRow],λj hj hn=>by
    have:g≠j:=λe=>hn (by simp[e])
    simp[World.setRow,CB,this]⟩
theorem Py {α:Type}(f:Nat->α)(i:Nat):CE f i (f i)=f:=by funext j;by_cases h:j=i<;>simp[CE,h]
def YG(C:Cx)(B S:List Nat)(w0:World)(σ σ':Sg)(η:Nat->Value)(φ:Nat->List Nat)(w w':World):Prop:=
 Mem C B S w0 σ' η φ w'/\Later (B++Ao φ σ) w (B++Ao φ σ') w'/\BB σ'=BB σ
theorem YG.frame {σ':Sg} {w':World}(h:YG C B S w0 σ σ' η φ w w') {fr:Fr} {a:Act}(hf:HD η (BB σ) (B++Ao φ σ) w fr a):HD η (BB σ') (B++Ao φ σ') w' fr a:=
 hf.later h.2.1 (λi hi=>⟨by rw[h.2.2];exact hi,rfl⟩)
theorem IA(hm:Mem C B S w0 σ η φ w) {i:Nat} {t:TypeId} {ds ds':List Dat}(hg:BJ i σ=some (.cells t ds)) {b:Nat} {cs':List Value} {w':World}(he:η i=.pointer (some ⟨b,0,none⟩))(hf:φ i=[b])(hr:B6 η (BB σ) (B++Ao φ σ) w ds' cs')(hb:IT w' b t cs')(ht:Tch [b] w w'):
  YG C B S w0 σ (AX id i (.cells t ds') σ) η φ w w':=by
 have hi:=AW (AT hg)
 have hX:∀x∈[b],x∈φ i:=λx hx=>by rw[hf];exact hx
 have hF:∀x∈φ i,x∈φ i\/w.heap.size<=x:=λx hx=>.inl hx
 have hl:=Later.turn (σ:=σ) B ht hX hi hF id (.cells t ds')
 have hM:=hm.turnSame (o:=.cells t ds') ht hX hi hF (by
  exact⟨b,cs',he,hf,hb,B6.later hl (λj hj=>⟨hj,rfl⟩) _ _ hr⟩)
 rw[Py]at hM hl
 exact⟨hM,hl,AY _ _ _ _⟩
theorem fS(hC:C.Ok T)(hm:Mem C B S w0 σ η φ w) {t:TypeId} {x d:Dat}(hx:RD B σ η φ w x vx)(hd:RD B σ η φ w d vy) {K:Sg->Prop}(h:X5 T t x d σ K no):
  no\/∃σ' w',K σ'/\(Instr.storeAt t vx vy).run C.P w=.ok () w'/\YG C B S w0 σ σ' η φ w w':=by
 unfold X5 at h
 rcases BO h with h|⟨e,he,h⟩
 ·exact .inl h
 have ht:=hC.ty he
 rcases BA h with h|⟨hb,h⟩
 ·exact .inl h
 simp only[Ar]at hb
 obtain⟨hf,hst⟩:=hb
 obtain⟨f1,f2⟩:=Lt hf
 obtain⟨cx,hcx,rfl⟩:=hd
 have hcl:=(KP hm.oneV hcx hst).1
 have hone:=PH hm.oneV d cx hst hcx
 have hlx:=EJ d cx hcx
 have store:∀{b o:Nat} {w':World},vx=.pointer (some ⟨b,o,none⟩)->(storeCells ⟨b,o,none⟩ cx).run C.P w=.ok () w'->(Instr.storeAt t vx (Cf d cx)).run C.P w=.ok () w':=by
  intro b o w' hv hr
  have hsz:(Cf d cx).cells.size=e.size:=by rw[<-HE,hcl];omega
  rw[hv]
  simp only[Instr.storeAt,Instr.sureAddr,AK,Bn,AH,storeVar,ht.sizeOf,hcl,hsz]
  simp[hr]
 split at h
 ·rcases Bz h with h|⟨ow,hg,h⟩
  ·exact .inl h
  split at h
  ·obtain⟨b,cs,e1,e2,hb,hr⟩:=DX hm hg
   obtain⟨cs',h1,h2⟩:=hx
   simp only[AJ]at h1
   obtain⟨_,rfl⟩:=h1
   split at h
   ·rename_i hcond
    simp only[Ar]at hcond
    rcases BA h with h|⟨hsz,h⟩
    ·exact .inl h
    have hsz:=Az hsz
    have hl:=Kh _ _ hr
    have hll:cx.length=cs.length:=by omega
    obtain⟨w',r1,r2,r3⟩:=IT.splice (P:=C.P) hb (o:=0) (x:=cx) (by omega) hone
    have e4:splice cs 0 cx=cx:=by simp[splice,hll]
    rw[e4]at r2
    exact .inr ⟨_,w',h,store (h2.trans (by rw[e1];rfl)) r1,IA hm hg e1 e2 (JH hcx) r2 r3⟩
   rcases Bz h with h|⟨ds',hp,h⟩
   ·exact .inl h
   obtain⟨g1,g2⟩:=Mf hcx _ _ _ hp hr
   obtain⟨w',r1,r2,r3⟩:=IT.splice (P:=C.P) hb g2 hone
   exact .inr ⟨_,w',h,store (h2.trans (by rw[e1];rfl)) r1,IA hm hg e1 e2 g1 r2 r3⟩
  ·exact .inl h
 ·rcases Bz h with h|⟨ow,hg,h⟩
  ·exact .inl h
  split at h
  ·rcases Bz h with h|⟨ds',hp,h⟩
   ·exact .inl h
   obtain⟨b,cs,e1,e2,hb,hr⟩:=DX hm hg
   obtain⟨cs',h1,h2⟩:=hx
   simp only[AJ]at h1
   obtain⟨_,b',e3,rfl⟩:=h1
   rw[e1]at e3
   cases e3
   obtain⟨g1,g2⟩:=Mf hcx _ _ _ hp hr
   obtain⟨w',r1,r2,r3⟩:=IT.splice (P:=C.P) hb g2 hone
   exact .inr ⟨_,w',h,store h2 r1,IA hm hg e1 e2 g1 r2 r3⟩
  ·exact .inl h
 ·rcases Bz h with h|⟨ow,hg,h⟩
  ·exact .inl h
  split at h
  ·rename_i i k0 m off _ _ _ _ E k ds
   rcases BA h with h|⟨hk0,d0,hd0,h⟩
   ·exact .inl h
   have hk0:=Az hk0
   subst hk0
   rcases Bz h with h|⟨ds',hp,h⟩
   ·exact .inl h
   rcases Bz h with h|⟨xs,hp2,h⟩
   ·exact .inl h
   split at h
   ·rename_i y
    obtain⟨css,hs,e2,hr,hk⟩:=BW hm hg
    obtain⟨cs',h1,h2⟩:=hx
    simp only[AJ]at h1
    obtain⟨_,b',l,c',e3,rfl⟩:=h1
    obtain⟨c0,hc0,hr0⟩:=IK hr hd0
    have hc0k:=hk c0 (A6 hc0)
    obtain⟨g1,g2⟩:=Mf hcx _ _ _ hp (cs:=c0) (by simp only[B6,AJ];exact⟨c0,[],by simp,hr0,rfl⟩)
    rw[E4 hp2]at g1
    have g3:RepC (B++Ao φ σ) w y (splice c0 off cx):=by
     have:=GS.1 g1
     simp only[RepCs]at this
     obtain⟨a1,a2,e4,r1,rfl⟩:=this
     rw[e4];simpa using r1
    obtain⟨w',r1,r2,r3⟩:=Sl.spliceAt (P:=C.P) hk hs e3 hc0 (x:=cx) (off:=off) (by rw[hc0k.1]at g2;exact g2) hone
    have hi:=AW (AT hg)
    have hX:∀x∈[b'],x∈φ i:=λx hx=>by rw[e2,e3];simpa[Value.ownBlock]using hx
    have hF:∀x∈φ i,x∈φ i\/w.heap.size<=x:=λx hx=>.inl hx
    have hl:=Later.turn (σ:=σ) B r3 hX hi hF id (.slice E k0 (ds.set m y))
    have hM:=hm.turnSame (o:=.slice E k0 (ds.set m y)) r3 hX hi hF (by
     refine⟨_,r2,e2,Aq.later hl _ _ (Ja hr m g3),λx hx=>?_⟩
     rcases KK hx with hx|rfl
     ·exact hk x hx
     ·exact⟨by rw[KU g2];exact hc0k.1,gA hc0k.2 hone⟩)
    rw[Py]at hM hl
    exact .inr ⟨_,w',h,store (h2.trans (by simp[Cf])) r1,hM,hl,AY _ _ _ _⟩
   ·exact .inl h
  ·exact .inl h
 ·exact .inl h
end
end Go.Sx
