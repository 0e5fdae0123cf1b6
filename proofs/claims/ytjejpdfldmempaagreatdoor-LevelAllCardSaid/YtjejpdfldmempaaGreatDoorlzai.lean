/- Sxi. -/
import Derived.Test.YtjejpdfldmempaaGreatDoorlzah
import Derived.WalkKit
import Derived.WalkSpells
import Derived.WalkLawsBesides
namespace Go.Sx
open Go Go.RowKit Go.Reg
inductive Da where
 |undef
 |int (k:IntKind) (n:Int)
 |bool (b:Bool)
 |prop (p:Prop) (i:Decidable p)
 |str (s:ByteArray)
 |agg (ds:List Da)
 |tuple (ds:List Da)
 |nilp
 |nils
 |nilm
 |nilf
 |nili
 |iface (t:TypeId) (d:Da)
 |ref (d:Da)
 |list (k:Nat) (ds:List Da)
 |func (fn:Fn) (first captured:List Da)
 |raw (v:Value)
def Ft:Da->List Value->Value
 |.agg _,cs=>.agg cs.toArray
 |_,cs=>cs.headD undef
def En(w:World)(b o:Nat)(cs:List Value):Prop:=∀j u,cs[j]? =some u->w.cell? ⟨b,o+j,none⟩=some u
def Ec(k:Nat)(x:List Value):Prop:=x.length=k/\∀v∈x,v.oneCell'=true
mutual
def RepC(O:List Nat)(w:World):Da->List Value->Prop
 |.undef,cs=>∃v,cs=[v]
 |.int k n,cs=>cs=[.int k n]
 |.bool b,cs=>cs=[.bool b]
 |.prop p i,cs=>cs=[.bool (@decide p i)]
 |.str s,cs=>cs=[.string s]
 |.agg ds,cs=>RepCs O w ds cs
 |.tuple ds,cs=>∃css,Am O w ds css/\cs=[.tuple (List.zipWith Ft ds css).toArray]
 |.nilp,cs=>cs=[.pointer none]
 |.nils,cs=>cs=[.slice none 0 0]
 |.nilm,cs=>cs=[.map none]
 |.nilf,cs=>cs=[.nilFunc]
 |.nili,cs=>cs=[.nilIface]
 |.iface t d,cs=>∃c,RepC O w d c/\cs=[.iface t (Ft d c)]
 |.ref d,cs=>∃b o c,cs=[.pointer (some ⟨b,o,none⟩)]/\b∉O/\b<w.heap.size/\RepC O w d c/\En w b o c
 |.list k ds,cs=>∃a c css,cs=[.slice a ds.length c]/\ds.length<=c/\c<=maxLen/\Am O w ds css/\(∀x∈css,Ec k x)/\
   (ds=[]\/∃b o,a=some ⟨b,o,none⟩/\b∉O/\b<w.heap.size/\En w b o css.flatten)
 |.func fn f c,cs=>∃fs cs',Am O w f fs/\Am O w c cs'/\cs=[.func fn (List.zipWith Ft f fs).toArray (List.zipWith Ft c cs').toArray]
 |.raw v,cs=>cs=[v]
def RepCs(O:List Nat)(w:World):List Da->List Value->Prop
 |[],cs=>cs=[]
 |d::ds,cs=>∃c1 c2,cs=c1++c2/\RepC O w d c1/\RepCs O w ds c2
def Am(O:List Nat)(w:World):List Da->List (List Value)->Prop
 |[],css=>css=[]
 |d::ds,css=>∃c1 c2,css=c1::c2/\RepC O w d c1/\Am O w ds c2
end
def Rep(O:List Nat)(w:World)(d:Da)(v:Value):Prop:=∃cs,RepC O w d cs/\v=Ft d cs
def I1(O:List Nat)(w:World)(ds:List Da)(vs:List Value):Prop:=∃css,Am O w ds css/\vs=List.zipWith Ft ds css
structure Later(O:List Nat)(w:World)(O':List Nat)(w':World):Prop where
 size:w.heap.size<=w'.heap.size
 blk:∀b,b<w.heap.size->b∉O->w'.heap[b]? =w.heap[b]?
 new:∀b,b∉O->b<w.heap.size->b∉O'
theorem Later.cells {O O':List Nat} {w w':World}(h:Later O w O' w') {b o:Nat} {cs:List Value}(hb:b<w.heap.size)(hn:b∉O)(hc:En w b o cs):En w' b o cs:=by
 intro j u hj
 have:=hc j u hj
 rw[World.cell?_of_block (w:=w) (h.blk b hb hn)];exact this
mutual
theorem RepC.later {O O':List Nat} {w w':World}(h:Later O w O' w'):∀(d:Da) (cs:List Value),RepC O w d cs->RepC O' w' d cs
 |.undef,cs,r=>r
 |.int _ _,cs,r=>r
 |.bool _,cs,r=>r
 |.prop _ _,cs,r=>r
 |.str _,cs,r=>r
 |.agg ds,cs,r=>by simp only[RepC]at r⊢;exact RepCs.later h ds cs r
 |.tuple ds,cs,r=>by simp only[RepC]at r⊢;obtain⟨css,h1,h2⟩:=r;exact⟨css,Am.later h ds css h1,h2⟩
 |.nilp,cs,r=>r
 |.nils,cs,r=>r
 |.nilm,cs,r=>r
 |.nilf,cs,r=>r
 |.nili,cs,r=>r
 |.iface t d,cs,r=>by simp only[RepC]at r⊢;obtain⟨c,h1,h2⟩:=r;exact⟨c,RepC.later h d c h1,h2⟩
 |
  .ref d,cs,r=>by
  simp only[RepC]at r⊢
  obtain⟨b,o,c,h1,h2,h3,h4,h5⟩:=r
  exact⟨b,o,c,h1,h.new b h2 h3,CS h3 h.size,RepC.later h d c h4,h.cells h3 h2 h5⟩
 |
  .list k ds,cs,r=>by
  simp only[RepC]at r⊢
  obtain⟨a,c,css,h1,h2,h3,h4,h5,h6⟩:=r
  refine⟨a,c,css,h1,h2,h3,Am.later h ds css h4,h5,h6.imp id ?_⟩
  rintro⟨b,o,g1,g2,g3,g4⟩
  exact⟨b,o,g1,h.new b g2 g3,CS g3 h.size,h.cells g3 g2 g4⟩
 |
  .func fn f c,cs,r=>by
  simp only[RepC]at r⊢
  obtain⟨fs,cs',h1,h2,h3⟩:=r
  exact⟨fs,cs',Am.later h f fs h1,Am.later h c cs' h2,h3⟩
 |.raw _,cs,r=>r
theorem RepCs.later {O O':List Nat} {w w':World}(h:Later O w O' w'):∀(ds:List Da) (cs:List Value),RepCs O w ds cs->RepCs O' w' ds cs
 |[],cs,r=>r
 |
  d::ds,cs,r=>by
  simp only[RepCs]at r⊢
  obtain⟨c1,c2,h1,h2,h3⟩:=r
  exact⟨c1,c2,h1,RepC.later h d c1 h2,RepCs.later h ds c2 h3⟩
theorem Am.later {O O':List Nat} {w w':World}(h:Later O w O' w'):∀(ds:List Da) (cs:List (List Value)),Am O w ds cs->Am O' w' ds cs
 |[],cs,r=>r
 |
  d::ds,cs,r=>by
  simp only[Am]at r⊢
  obtain⟨c1,c2,h1,h2,h3⟩:=r
  exact⟨c1,c2,h1,RepC.later h d c1 h2,Am.later h ds c2 h3⟩
end
theorem Rep.later {O O':List Nat} {w w':World}(h:Later O w O' w') {d:Da} {v:Value}(r:Rep O w d v):Rep O' w' d v:=by
 obtain⟨cs,h1,h2⟩:=r;exact⟨cs,RepC.later h d cs h1,h2⟩
theorem I1.later {O O':List Nat} {w w':World}(h:Later O w O' w') {d:List Da} {v:List Value}(r:I1 O w d v):I1 O' w' d v:=by
 obtain⟨cs,h1,h2⟩:=r;exact⟨cs,Am.later h d cs h1,h2⟩
def gsz:Da->Nat
 |.agg ds=>ds.length
 |_=>1
def GRep(O:List Nat)(w:World)(p:Nat×Da):Prop:=Rep O w (.ref p.2) (.pointer (some ⟨p.1,0,none⟩))/\p.1∉O/\∃cs t fr,w.heap[p.1]? =some (.cells cs t fr)/\cs.size=gsz p.2
theorem GRep.later {O O':List Nat} {w w':World}(h:Later O w O' w') {p:Nat×Da}(r:GRep O w p):GRep O' w' p:=by
 obtain⟨r1,r2,cs,t,fr,r3,r4⟩:=r
 have hlt:p.1<w.heap.size:=(A8.1 r3).1
 exact⟨r1.later h,h.new _ r2 hlt,cs,t,fr,by rw[h.blk _ hlt r2];exact r3,r4⟩
end Go.Sx
namespace Go.Sx
open Go Go.RowKit Go.Reg
inductive Dat where
 |d (x:Da)
 |own (i:Nat)
 |at_ (i off:Nat)
 |el (i k n off:Nat)
 |agg (ds:List Dat)
 |tuple (ds:List Dat)
 |iface (t:TypeId) (d:Dat)
 |func (fn:Fn) (first captured:List Dat)
def BR:Dat->List Value->Value
 |.d x,cs=>Ft x cs
 |.agg _,cs=>.agg cs.toArray
 |_,cs=>cs.headD undef
mutual
def A7(η:Nat->Value)(I O:List Nat)(w:World):Dat->List Value->Prop
 |.d x,cs=>RepC O w x cs
 |.own i,cs=>i∈I/\cs=[η i]
 |.at_ i off,cs=>i∈I/\∃b,η i=.pointer (some ⟨b,0,none⟩)/\cs=[.pointer (some ⟨b,off,none⟩)]
 |.el i k n off,cs=>i∈I/\∃b l c,η i=.slice (some ⟨b,0,none⟩) l c/\cs=[.pointer (some ⟨b,n*k+off,none⟩)]
 |.agg ds,cs=>Bc η I O w ds cs
 |.tuple ds,cs=>∃css,A9 η I O w ds css/\cs=[.tuple (List.zipWith BR ds css).toArray]
 |.iface t d,cs=>∃c,A7 η I O w d c/\cs=[.iface t (BR d c)]
 |.func fn f c,cs=>∃fs cs',A9 η I O w f fs/\A9 η I O w c cs'/\cs=[.func fn (List.zipWith BR f fs).toArray (List.zipWith BR c cs').toArray]
def Bc(η:Nat->Value)(I O:List Nat)(w:World):List Dat->List Value->Prop
 |[],cs=>cs=[]
 |d::ds,cs=>∃c1 c2,cs=c1++c2/\A7 η I O w d c1/\Bc η I O w ds c2
def A9(η:Nat->Value)(I O:List Nat)(w:World):List Dat->List (List Value)->Prop
 |[],css=>css=[]
 |d::ds,css=>∃c1 c2,css=c1::c2/\A7 η I O w d c1/\A9 η I O w ds c2
end
mutual
def kill(i:Nat)(x:Da):Dat->Dat
 |.own j=>match Nat.beq j i with|true=>.d x|false=>.own j
 |.at_ j o=>match Nat.beq j i with|true=>.d .undef|false=>.at_ j o
 |.el j k n o=>match Nat.beq j i with|true=>.d .undef|false=>.el j k n o
 |.agg ds=>.agg (Fw i x ds)
 |.tuple ds=>.tuple (Fw i x ds)
 |.iface t d=>.iface t (kill i x d)
 |.func fn f c=>.func fn (Fw i x f) (Fw i x c)
 |.d x=>.d x
def Fw(i:Nat)(x:Da):List Dat->List Dat
 |[]=>[]
 |d::ds=>kill i x d::Fw i x ds
end
mutual
theorem A7.later {η η':Nat->Value} {I I' O O':List Nat} {w w':World}(h:Later O w O' w')(hI:∀i∈I,i∈I'/\η' i=η i):∀(d:Dat) (cs:List Value),A7 η I O w d cs->A7 η' I' O' w' d cs
 |.d x,cs,r=>RepC.later h x cs r
 |.own i,cs,r=>by simp only[A7]at r⊢;exact⟨(hI i r.1).1,by rw[(hI i r.1).2];exact r.2⟩
 |.at_ i off,cs,r=>by simp only[A7]at r⊢;exact⟨(hI i r.1).1,by rw[(hI i r.1).2];exact r.2⟩
 |.el i k n off,cs,r=>by simp only[A7]at r⊢;exact⟨(hI i r.1).1,by rw[(hI i r.1).2];exact r.2⟩
 |.agg ds,cs,r=>by simp only[A7]at r⊢;exact Bc.later h hI ds cs r
 |.tuple ds,cs,r=>by simp only[A7]at r⊢;obtain⟨css,h1,h2⟩:=r;exact⟨css,A9.later h hI ds css h1,h2⟩
 |.iface t d,cs,r=>by simp only[A7]at r⊢;obtain⟨c,h1,h2⟩:=r;exact⟨c,A7.later h hI d c h1,h2⟩
 |
  .func fn f c,cs,r=>by
  simp only[A7]at r⊢
  obtain⟨fs,cs',h1,h2,h3⟩:=r
  exact⟨fs,cs',A9.later h hI f fs h1,A9.later h hI c cs' h2,h3⟩
theorem Bc.later {η η':Nat->Value} {I I' O O':List Nat} {w w':World}(h:Later O w O' w')(hI:∀i∈I,i∈I'/\η' i=η i):∀(ds:List Dat) (cs:List Value),Bc η I O w ds cs->Bc η' I' O' w' ds cs
 |[],cs,r=>r
 |
  d::ds,cs,r=>by
  simp only[Bc]at r⊢
  obtain⟨c1,c2,h1,h2,h3⟩:=r
  exact⟨c1,c2,h1,A7.later h hI d c1 h2,Bc.later h hI ds c2 h3⟩
theorem A9.later {η η':Nat->Value} {I I' O O':List Nat} {w w':World}(h:Later O w O' w')(hI:∀i∈I,i∈I'/\η' i=η i):∀(ds:List Dat) (cs:List (List Value)),A9 η I O w ds cs->A9 η' I' O' w' ds cs
 |[],cs,r=>r
 |
  d::ds,cs,r=>by
  simp only[A9]at r⊢
  obtain⟨c1,c2,h1,h2,h3⟩:=r
  exact⟨c1,c2,h1,A7.later h hI d c1 h2,A9.later h hI ds c2 h3⟩
end
theorem Br(j i:Nat):(Nat.beq j i=true/\j=i)\/(Nat.beq j i=false/\j≠i):=by
 cases hb:Nat.beq j i
 ·exact .inr ⟨rfl,λe=>by subst e;simp at hb⟩
 ·exact .inl ⟨rfl,Ao hb⟩
def Da.one:Da->Bool
 |.agg _=>false
 |_=>true
theorem Pa {x:Da}(h:x.one=true)(cs:List Value):Ft x cs=cs.headD undef:=by
 cases x<;>first|rfl|cases h
theorem MK {i:Nat} {x:Da}(hx:x.one=true)(d:Dat)(cs:List Value):BR (kill i x d) cs=BR d cs:=by
 cases d with
 |own j=>rcases Br j i with⟨h,_⟩|⟨h,_⟩<;>simp only[kill,h,BR,Pa hx]
 |at_ j o=>rcases Br j i with⟨h,_⟩|⟨h,_⟩<;>simp only[kill,h,BR,Ft]
 |el j k n o=>rcases Br j i with⟨h,_⟩|⟨h,_⟩<;>simp only[kill,h,BR,Ft]
 |_=>rfl
theorem EP {i:Nat} {x:Da}(hx:x.one=true):∀(ds:List Dat) (css:List (List Value)),List.zipWith BR (Fw i x ds) css=List.zipWith BR ds css
 |[],css=>rfl
 |d::ds,[]=>by simp[Fw]
 |d::ds,c::css=>by simp only[Fw,AT];rw[MK hx d c,EP hx ds css]
section
variable {η η':Nat->Value} {I I' O O':List Nat} {w w':World} {i:Nat} {x:Da}
mutual
theorem A7.kill(hx:x.one=true)(hl:Later O w O' w')(hI:∀j∈I,j≠i->j∈I'/\η' j=η j)(hr:RepC O' w' x [η i]):∀(d:Dat) (cs:List Value),A7 η I O w d cs->A7 η' I' O' w' (kill i x d) cs
 |.d y,cs,r=>RepC.later hl y cs r
 |
  .own j,cs,r=>by
  simp only[A7]at r
  rcases Br j i with⟨h,e⟩|⟨h,e⟩
  ·subst e;simp only[Sx.kill,h,A7];rw[r.2];exact hr
  ·simp only[Sx.kill,h,A7];exact⟨(hI j r.1 e).1,by rw[(hI j r.1 e).2];exact r.2⟩
 |
  .at_ j off,cs,r=>by
  simp only[A7]at r
  rcases Br j i with⟨h,e⟩|⟨h,e⟩
  ·simp only[Sx.kill,h,A7,RepC];obtain⟨_,b,_,h⟩:=r;exact⟨_,h⟩
  ·simp only[Sx.kill,h,A7];exact⟨(hI j r.1 e).1,by rw[(hI j r.1 e).2];exact r.2⟩
 |
  .el j k n off,cs,r=>by
  simp only[A7]at r
  rcases Br j i with⟨h,e⟩|⟨h,e⟩
  ·simp only[Sx.kill,h,A7,RepC];obtain⟨_,b,l,c,_,h⟩:=r;exact⟨_,h⟩
  ·simp only[Sx.kill,h,A7];exact⟨(hI j r.1 e).1,by rw[(hI j r.1 e).2];exact r.2⟩
 |.agg ds,cs,r=>by simp only[A7,Sx.kill]at r⊢;exact Bc.kill hx hl hI hr ds cs r
 |.tuple ds,cs,r=>by simp only[A7,Sx.kill]at r⊢;obtain⟨css,h1,h2⟩:=r;exact⟨css,A9.kill hx hl hI hr ds css h1,by rw[EP hx];exact h2⟩
 |.iface t d,cs,r=>by simp only[A7,Sx.kill]at r⊢;obtain⟨c,h1,h2⟩:=r;exact⟨c,A7.kill hx hl hI hr d c h1,by rw[MK hx];exact h2⟩
 |
  .func fn f c,cs,r=>by
  simp only[A7,Sx.kill]at r⊢
  obtain⟨fs,cs',h1,h2,h3⟩:=r
  exact⟨fs,cs',A9.kill hx hl hI hr f fs h1,A9.kill hx hl hI hr c cs' h2,by rw[EP hx,EP hx];exact h3⟩
theorem Bc.kill(hx:x.one=true)(hl:Later O w O' w')(hI:∀j∈I,j≠i->j∈I'/\η' j=η j)(hr:RepC O' w' x [η i]):∀(ds:List Dat) (cs:List Value),Bc η I O w ds cs->Bc η' I' O' w' (Fw i x ds) cs
 |[],cs,r=>r
 |
  d::ds,cs,r=>by
  simp only[Bc,Fw]at r⊢
  obtain⟨c1,c2,h1,h2,h3⟩:=r
  exact⟨c1,c2,h1,A7.kill hx hl hI hr d c1 h2,Bc.kill hx hl hI hr ds c2 h3⟩
theorem A9.kill(hx:x.one=true)(hl:Later O w O' w')(hI:∀j∈I,j≠i->j∈I'/\η' j=η j)(hr:RepC O' w' x [η i]):∀(ds:List Dat) (cs:List (List Value)),A9 η I O w ds cs->A9 η' I' O' w' (Fw i x ds) cs
 |[],cs,r=>r
 |
  d::ds,cs,r=>by
  simp only[A9,Fw]at r⊢
  obtain⟨c1,c2,h1,h2,h3⟩:=r
  exact⟨c1,c2,h1,A7.kill hx hl hI hr d c1 h2,A9.kill hx hl hI hr ds c2 h3⟩
end
end
inductive Own where
 |cells (T:TypeId) (ds:List Dat)
 |slice (E k:Nat) (ds:List Da)
 |abs (R:World->Value->List Nat->Prop) (keep:∀(S:List Nat) w w' v F,R w v F->Tch S w w'->(∀x∈F,x∉S)->R w' v F) (lt:∀w v F,R w v F->∀x∈F,x<w.heap.size) (one:∀w v F,R w v F->v.oneCell'=true)
 |ghost (vs:List Value) (ds:List Dat)
def Own.holds(η:Nat->Value)(I O:List Nat)(w:World):Own->Value->List Nat->Prop
 |.cells T ds,v,F=>∃b cs,v=.pointer (some ⟨b,0,none⟩)/\F=[b]/\Hk w b T cs/\Bc η I O w ds cs
 |.slice E k ds,v,F=>∃css,Sl E k id w v css/\F=v.ownBlock.toList/\Am O w ds css/\(∀x∈css,Ec k x)
 |.abs R _ _ _,v,F=>R w v F
 |.ghost vs ds,v,F=>v=.nilFunc/\F=[]/\∃css,A9 η I O w ds css/\vs=List.zipWith BR ds css
theorem Own.holds.lt {η:Nat->Value} {I O:List Nat} {w:World} {o:Own} {v:Value} {F:List Nat}(h:o.holds η I O w v F):∀b∈F,b<w.heap.size:=by
 cases o with
 |
  cells T ds=>
  obtain⟨b,cs,rfl,rfl,hb,_⟩:=h
  intro x hx;simp at hx;subst hx;exact hb.lt
 |
  slice E k ds=>
  obtain⟨css,hs,rfl,_⟩:=h
  intro x hx;exact hs.lt (by simpa using hx)
 |abs R k lt _=>exact lt _ _ _ h
 |ghost vs ds=>obtain⟨_,rfl,_⟩:=h;simp
theorem Own.holds.later {η η':Nat->Value} {I I' O O' S:List Nat} {w w':World} {o:Own} {v:Value} {F:List Nat}(h:o.holds η I O w v F)(hl:Later O w O' w')(hI:∀i∈I,i∈I'/\η' i=η i)(ht:Tch S w w')(hF:∀x∈F,x∉S):o.holds η' I' O' w' v F:=by
 cases o with
 |
  cells T ds=>
  obtain⟨b,cs,rfl,rfl,hb,hr⟩:=h
  exact⟨b,cs,rfl,rfl,hb.keep ht (hF b (by simp)),Bc.later hl hI _ _ hr⟩
 |
  slice E k ds=>
  obtain⟨css,hs,rfl,hr,hk⟩:=h
  exact⟨css,hs.keep ht (λb hb=>hF b (by simpa using hb)),rfl,Am.later hl _ _ hr,hk⟩
 |abs R k lt _=>exact k S w w' v F h ht hF
 |ghost vs ds=>obtain⟨h1,h2,css,h3,h4⟩:=h;exact⟨h1,h2,css,A9.later hl hI _ _ h3,h4⟩
abbrev Sg:=List (Nat×Own)
abbrev Fr:=List (Nat×Dat)
def B3(σ:Sg):List Nat:=σ.map (·.1)
def Al(φ:Nat->List Nat)(σ:Sg):List Nat:=σ.flatMap λp=>φ p.1
def BH(i:Nat)(x:Da):Own->Own
 |.cells T ds=>.cells T (Fw i x ds)
 |.slice E k ds=>.slice E k ds
 |.abs R h l o=>.abs R h l o
 |.ghost vs ds=>.ghost vs (Fw i x ds)
structure Cx where
 P:Program
 Γ:List (Nat×Da)
structure Mem(C:Cx)(B S:List Nat)(w0:World)(σ:Sg)(η:Nat->Value)(φ:Nat->List Nat)(w:World):Prop where
 tch:Tch S w0 w
 own:∀p∈σ,p.2.holds η (B3 σ) (B++Al φ σ) w (η p.1) (φ p.1)
 nodup:(B3 σ).Nodup
 disj:∀i∈B3 σ,∀j∈B3 σ,i≠j->∀b∈φ i,b∉φ j
 new:∀i∈B3 σ,∀b∈φ i,(b∈S/\b∉B)\/w0.heap.size<=b
 out:∀b∈B,b<w0.heap.size
 glob:∀g∈C.Γ,GRep (B++Al φ σ) w g
def get:Fr->Nat->Dat
 |[],_=>.d .undef
 |
  (t,d)::fr,s=>match Nat.beq t s with
  |true=>d
  |false=>get fr s
def Gy(η:Nat->Value)(I O:List Nat)(w:World)(fr:Fr)(a:Act):Prop:=∀t,∃cs,A7 η I O w (get fr t) cs/\a.tmps.getD t undef=BR (get fr t) cs
structure Models(C:Cx)(B S:List Nat)(w0:World)(n:Nat)(fr:Fr)(σ:Sg)(η:Nat->Value)(φ:Nat->List Nat)(a:Act)(w:World):Prop where
 mem:Mem C B S w0 σ η φ w
 fr:Gy η (B3 σ) (B++Al φ σ) w fr a
 defers:a.defers=[]
 size:a.tmps.size=n
theorem Mem.lt {C:Cx} {B S:List Nat} {w0 w:World} {σ:Sg} {η:Nat->Value} {φ:Nat->List Nat}(h:Mem C B S w0 σ η φ w):∀b∈B++Al φ σ,b<w.heap.size:=by
 intro b hb
 rcases Ag.1 hb with hb|hb
 ·exact CS (h.out b hb) h.tch.size
 ·obtain⟨p,hp,hb⟩:=AG.1 hb
  exact(h.own p hp).lt b hb
theorem AY {σ:Sg} {p:Nat×Own}(h:p∈σ):p.1∈B3 σ:=C2 h
theorem Bf {φ:Nat->List Nat} {σ:Sg} {i:Nat} {b:Nat}(h:i∈B3 σ)(hb:b∈φ i):b∈Al φ σ:=by
 obtain⟨p,hp,rfl⟩:=Ar.1 h
 exact AG.2 ⟨p,hp,hb⟩
theorem RepC.undef_ex(O:List Nat)(w:World)(v:Value):RepC O w .undef [v]:=by simp[RepC]
theorem Gy.put {η:Nat->Value} {I O:List Nat} {w:World} {fr:Fr} {a:Act}(h:Gy η I O w fr a) {t:Nat}(ht:t<a.tmps.size) {d:Dat} {v:Value} {cs:List Value}(hd:A7 η I O w d cs)(hv:v=BR d cs):Gy η I O w ((t,d)::fr) (a.put (some t) v):=by
 intro s
 simp only[get,Act.put]
 by_cases hs:t=s
 ·subst hs
  simp only[Nat.beq_refl]
  exact⟨cs,hd,by simp[Array.getD,ht,hv]⟩
 ·have:Nat.beq t s=false:=by
   cases hb:Nat.beq t s
   ·rfl
   ·exact absurd (Ao hb) hs
  rw[this]
  obtain⟨c,h1,h2⟩:=h s
  refine⟨c,h1,?_⟩
  rw[<-h2]
  simp[Array.getElem?_setIfInBounds_ne hs]
theorem Gy.later {η η':Nat->Value} {I I' O O':List Nat} {w w':World} {fr:Fr} {a:Act}(h:Gy η I O w fr a)(hl:Later O w O' w')(hI:∀i∈I,i∈I'/\η' i=η i):Gy η' I' O' w' fr a:=by
 intro t
 obtain⟨cs,h1,h2⟩:=h t
 exact⟨cs,A7.later hl hI _ _ h1,h2⟩
def EZ(i:Nat)(x:Da):Fr->Fr
 |[]=>[]
 |(t,d)::fr=>(t,kill i x d)::EZ i x fr
theorem Sy(i:Nat)(x:Da):∀(fr:Fr) (t:Nat),get (EZ i x fr) t=kill i x (get fr t)
 |[],t=>rfl
 |
  (s,d)::fr,t=>by
  simp only[EZ,get]
  cases Nat.beq s t
  ·exact Sy i x fr t
  ·rfl
theorem Gy.kill {η η':Nat->Value} {I I' O O':List Nat} {w w':World} {fr:Fr} {a:Act} {i:Nat} {x:Da}(h:Gy η I O w fr a)(hx:x.one=true)(hl:Later O w O' w')(hI:∀j∈I,j≠i->j∈I'/\η' j=η j)(hr:RepC O' w' x [η i]):Gy η' I' O' w' (EZ i x fr) a:=by
 intro t
 obtain⟨cs,h1,h2⟩:=h t
 rw[Sy]
 exact⟨cs,A7.kill hx hl hI hr _ _ h1,by rw[MK hx];exact h2⟩
theorem Own.holds.kill {η η':Nat->Value} {I I' O O' S:List Nat} {w w':World} {o:Own} {v:Value} {F:List Nat} {i:Nat} {x:Da}(h:o.holds η I O w v F)(hx:x.one=true)(hl:Later O w O' w')(hI:∀j∈I,j≠i->j∈I'/\η' j=η j)(hr:RepC O' w' x [η i])(ht:Tch S w w')(hF:∀y∈F,y∉S):(BH i x o).holds η' I' O' w' v F:=by
 cases o with
 |
  cells T ds=>
  obtain⟨b,cs,rfl,rfl,hb,hd⟩:=h
  exact⟨b,cs,rfl,rfl,hb.keep ht (hF b (by simp)),Bc.kill hx hl hI hr _ _ hd⟩
 |
  slice E k ds=>
  obtain⟨css,hs,rfl,hd,hk⟩:=h
  exact⟨css,hs.keep ht (λb hb=>hF b (by simpa using hb)),rfl,Am.later hl _ _ hd,hk⟩
 |abs R k lt _=>exact k S w w' v F h ht hF
 |ghost vs ds=>obtain⟨h1,h2,css,h3,h4⟩:=h;exact⟨h1,h2,css,A9.kill hx hl hI hr _ _ h3,by rw[EP hx];exact h4⟩
end Go.Sx
namespace Go.Sx
open Go Go.RowKit Go.Reg
variable {C:Cx} {B S:List Nat} {w0 w w':World} {σ:Sg} {η η':Nat->Value} {φ φ':Nat->List Nat} {i:Nat} {o:Own}
theorem Later.same(h:Tch [] w w')(O:List Nat):Later O w O w':=⟨h.size,λb hb _=>h.blk b hb (by simp),λ_ h _=>h⟩
theorem Later.touch {X O:List Nat}(h:Tch X w w')(hX:∀b∈X,b∈O):Later O w O w':=⟨h.size,λb hb hn=>h.blk b hb (λhm=>hn (hX b hm)),λ_ h _=>h⟩
theorem Mem.grow(h:Mem C B S w0 σ η φ w)(t:Tch [] w w'):Mem C B S w0 σ η φ w':=
 ⟨h.tch.then0 t,λp hp=>(h.own p hp).later (Later.same t _) (λi hi=>⟨hi,rfl⟩) t (λ_ _=>by simp),h.nodup,h.disj,h.new,h.out,λg hg=>(h.glob g hg).later (Later.same t _)⟩
def DB {α:Type}(f:Nat->α)(i:Nat)(v:α):Nat->α:=λj=>if j=i then v else f j
theorem Db {α:Type}(f:Nat->α)(i:Nat)(v:α):DB f i v i=v:=by simp[DB]
theorem CD {α:Type}(f:Nat->α)(i:Nat)(v:α) {j:Nat}(h:j≠i):DB f i v j=f j:=by simp[DB,h]
theorem Jc:∀{σ:Sg},(∀j∈B3 σ,φ' j=φ j)->Al φ' σ=Al φ σ
 |[],_=>rfl
 |
  p::σ,h=>by
  have h1:=h p.1 (by simp[B3])
  have h2:=Jc (σ:=σ) (λj hj=>h j (by simp only[B3,Au,An]at hj⊢;exact .inr hj))
  simp only[Al,Bp]at h2⊢
  rw[h1,h2]
theorem YE {F:List Nat}(hi:i∉B3 σ):Al (DB φ i F) ((i,o)::σ)=F++Al φ σ:=by
 have:=Jc (φ:=φ) (φ':=DB φ i F) (σ:=σ) (λj hj=>CD _ _ _ (λe=>hi (e▸hj)))
 simp only[Al,Bp,Db]at this⊢
 rw[this]
theorem Mem.add(h:Mem C B S w0 σ η φ w)(t:Tch [] w w')(hi:i∉B3 σ) {v:Value} {F:List Nat}(hF:∀b∈F,w.heap.size<=b)
  (ho:o.holds (DB η i v) (i::B3 σ) (B++(F++Al φ σ)) w' v F):Mem C B S w0 ((i,o)::σ) (DB η i v) (DB φ i F) w'/\Later (B++Al φ σ) w (B++Al (DB φ i F) ((i,o)::σ)) w':=by
 have hb:=YE (φ:=φ) (o:=o) (F:=F) hi
 have hl:Later (B++Al φ σ) w (B++Al (DB φ i F) ((i,o)::σ)) w':=by
  refine⟨t.size,λb h _=>t.blk b h (by simp),λb hn hs hm=>?_⟩
  rw[hb]at hm
  rcases Ag.1 hm with hm|hm
  ·exact hn (A2 _ hm)
  ·rcases Ag.1 hm with hm|hm
   ·have:=hF b hm;omega
   ·exact hn (Ap _ hm)
 refine⟨⟨h.tch.then0 t,?_,?_,?_,?_,h.out,λg hg=>(h.glob g hg).later hl⟩,hl⟩
 ·intro p hp
  rcases An.1 hp with rfl|hp
  ·simp only[Db];rw[hb];exact ho
  ·have hne:p.1≠i:=λe=>hi (e▸AY hp)
   rw[CD _ _ _ hne,CD _ _ _ hne]
   exact(h.own p hp).later hl (λ_ hj=>⟨AE _ hj,CD _ _ _ (λe=>hi (e▸hj))⟩) t (λ_ _=>by simp)
 ·exact Ck.2 ⟨hi,h.nodup⟩
 ·intro j hj k hk hjk b hb1 hb2
  have hlt:∀m∈B3 σ,∀b∈φ m,b<w.heap.size:=λm hm b hb=>h.lt b (Ap _ (Bf hm hb))
  rcases An.1 hj with e0|hj
  ·replace e0:j=i:=e0
   rcases An.1 hk with e3|hk
   ·exact hjk (e0.trans (Eq.symm e3))
   ·rw[e0,Db]at hb1;rw[CD _ _ _ (λe=>hjk (e0.trans e.symm))]at hb2
    have:=hF b hb1;have:=hlt k hk b hb2;omega
  ·rcases An.1 hk with e3|hk
   ·replace e3:k=i:=e3
    rw[e3,Db]at hb2;rw[CD _ _ _ (λe=>hjk (e.trans e3.symm))]at hb1
    have:=hF b hb2;have:=hlt j hj b hb1;omega
   ·have e1:j≠i:=λe=>hi (e▸hj)
    have e2:k≠i:=λe=>hi (e▸hk)
    rw[CD _ _ _ e1]at hb1;rw[CD _ _ _ e2]at hb2
    exact h.disj j hj k hk hjk b hb1 hb2
 ·intro j hj b hb1
  rcases An.1 hj with e0|hj
  ·replace e0:j=i:=e0
   rw[e0,Db]at hb1
   have:=hF b hb1;have:=h.tch.size;right;omega
  ·have e1:j≠i:=λe=>hi (e▸hj)
   rw[CD _ _ _ e1]at hb1
   exact h.new j hj b hb1
theorem Gy.add {fr:Fr} {a:Act}(h:Gy η (B3 σ) (B++Al φ σ) w fr a)(hi:i∉B3 σ) {v:Value} {F:List Nat}(hl:Later (B++Al φ σ) w (B++Al (DB φ i F) ((i,o)::σ)) w'):
  Gy (DB η i v) (B3 ((i,o)::σ)) (B++Al (DB φ i F) ((i,o)::σ)) w' fr a:=
 h.later hl (λ_ hj=>⟨AE _ hj,CD _ _ _ (λe=>hi (e▸hj))⟩)
def BP(i:Nat):Sg->Option Own
 |[]=>none
 |
  (j,o)::σ=>match Nat.beq j i with
  |true=>some o
  |false=>BP i σ
def BG(g:Own->Own)(i:Nat)(o:Own):Sg->Sg
 |[]=>[]
 |
  (j,p)::σ=>match Nat.beq j i with
  |true=>(j,o)::BG g i o σ
  |false=>(j,g p)::BG g i o σ
def Di(g:Own->Own)(i:Nat):Sg->Sg
 |[]=>[]
 |
  (j,p)::σ=>match Nat.beq j i with
  |true=>Di g i σ
  |false=>(j,g p)::Di g i σ
theorem Bm:∀{σ:Sg},BP i σ=some o->(i,o)∈σ
 |[],h=>by simp[BP]at h
 |
  (j,p)::σ,h=>by
  rcases Br j i with⟨hb,e⟩|⟨hb,e⟩
  ·simp only[BP,hb,Aq]at h;subst e;subst h;simp
  ·simp only[BP,hb]at h;exact AE _ (Bm h)
theorem By(g:Own->Own)(i:Nat)(o:Own):∀σ:Sg,B3 (BG g i o σ)=B3 σ
 |[]=>rfl
 |
  (j,p)::σ=>by
  have ih:=By g i o σ
  simp only[B3]at ih
  rcases Br j i with⟨hb,e⟩|⟨hb,e⟩<;>simp only[BG,hb,B3,Au,ih]
theorem Ie {g:Own->Own}:∀{σ:Sg} {p:Nat×Own},p∈BG g i o σ->p=(i,o)\/∃q∈σ,q.1≠i/\p=(q.1,g q.2)
 |[],p,h=>by simp[BG]at h
 |
  (j,q)::σ,p,h=>by
  rcases Br j i with⟨hb,e⟩|⟨hb,e⟩
  ·simp only[BG,hb]at h
   rcases An.1 h with rfl|h
   ·subst e;exact .inl rfl
   ·rcases Ie h with h|⟨q',hq,h1,h2⟩
    ·exact .inl h
    ·exact .inr ⟨q',AE _ hq,h1,h2⟩
  ·simp only[BG,hb]at h
   rcases An.1 h with rfl|h
   ·exact .inr ⟨(j,q),by simp,e,rfl⟩
   ·rcases Ie h with h|⟨q',hq,h1,h2⟩
    ·exact .inl h
    ·exact .inr ⟨q',AE _ hq,h1,h2⟩
theorem EC {g:Own->Own}:∀{σ:Sg} {p:Nat×Own},p∈Di g i σ->∃q∈σ,q.1≠i/\p=(q.1,g q.2)
 |[],p,h=>by simp[Di]at h
 |
  (j,q)::σ,p,h=>by
  rcases Br j i with⟨hb,e⟩|⟨hb,e⟩
  ·simp only[Di,hb]at h
   obtain⟨q',hq,h1,h2⟩:=EC h
   exact⟨q',AE _ hq,h1,h2⟩
  ·simp only[Di,hb]at h
   rcases An.1 h with rfl|h
   ·exact⟨(j,q),by simp,e,rfl⟩
   ·obtain⟨q',hq,h1,h2⟩:=EC h
    exact⟨q',AE _ hq,h1,h2⟩
theorem Em(g:Own->Own)(i:Nat):∀σ:Sg,B3 (Di g i σ)=(B3 σ).filter (· !=i)
 |[]=>rfl
 |
  (j,p)::σ=>by
  have ih:=Em g i σ
  simp only[B3]at ih
  rcases Br j i with⟨hb,e⟩|⟨hb,e⟩
  ·subst e;simp only[Di,hb,B3,Au,ih];simp
  ·simp only[Di,hb,B3,Au,ih];simp[e]
theorem F5 {g:Own->Own}(F:List Nat):∀b,b∈Al (DB φ i F) (BG g i o σ)->b∈F\/∃j∈B3 σ,j≠i/\b∈φ j:=by
 intro b hb
 obtain⟨p,hp,hb⟩:=AG.1 hb
 rcases Ie hp with rfl|⟨q,hq,h1,rfl⟩
 ·simp only[Db]at hb;exact .inl hb
 ·simp only[CD _ _ _ h1]at hb;exact .inr ⟨q.1,AY hq,h1,hb⟩
theorem Mem.turn(h:Mem C B S w0 σ η φ w) {X:List Nat}(t:Tch X w w')(hX:∀b∈X,b∈φ i)(hi:i∈B3 σ) {v:Value} {F:List Nat}(hF:∀b∈F,b∈φ i\/w.heap.size<=b) {g:Own->Own}
  (hl:Later (B++Al φ σ) w (B++Al (DB φ i F) (BG g i o σ)) w')
  (hg:∀q∈σ,q.1≠i->q.2.holds η (B3 σ) (B++Al φ σ) w (η q.1) (φ q.1)->(g q.2).holds (DB η i v) (B3 σ) (B++Al (DB φ i F) (BG g i o σ)) w' (η q.1) (φ q.1))
  (ho:o.holds (DB η i v) (B3 σ) (B++Al (DB φ i F) (BG g i o σ)) w' v F):Mem C B S w0 (BG g i o σ) (DB η i v) (DB φ i F) w':=by
 have hX':∀b∈X,b∈S\/w0.heap.size<=b:=λb hb=>(h.new i hi b (hX b hb)).imp (λh=>h.1) id
 have hlt:∀m∈B3 σ,∀b∈φ m,b<w.heap.size:=λm hm b hb=>h.lt b (Ap _ (Bf hm hb))
 refine⟨h.tch.trans t (λ_ h=>h) hX',?_,by rw[By];exact h.nodup,?_,?_,h.out,λg hg=>(h.glob g hg).later hl⟩
 ·intro p hp
  rw[By]
  rcases Ie hp with rfl|⟨q,hq,h1,rfl⟩
  ·simp only[Db];exact ho
  ·simp only[CD _ _ _ h1]
   exact hg q hq h1 (h.own q hq)
 ·rw[By]
  intro j hj k hk hjk b hb1 hb2
  by_cases e1:j=i
  ·subst e1
   rw[Db]at hb1;rw[CD _ _ _ (Ne.symm hjk)]at hb2
   rcases hF b hb1 with h1|h1
   ·exact h.disj j hj k hk hjk b h1 hb2
   ·have:=hlt k hk b hb2;omega
  ·rw[CD _ _ _ e1]at hb1
   by_cases e2:k=i
   ·subst e2
    rw[Db]at hb2
    rcases hF b hb2 with h1|h1
    ·exact h.disj j hj k hk hjk b hb1 h1
    ·have:=hlt j hj b hb1;omega
   ·rw[CD _ _ _ e2]at hb2
    exact h.disj j hj k hk hjk b hb1 hb2
 ·rw[By]
  intro j hj b hb1
  by_cases e1:j=i
  ·subst e1
   rw[Db]at hb1
   rcases hF b hb1 with h1|h1
   ·exact h.new j hj b h1
   ·have:=h.tch.size;right;omega
  ·rw[CD _ _ _ e1]at hb1
   exact h.new j hj b hb1
theorem Later.turn(B:List Nat) {X:List Nat}(t:Tch X w w')(hX:∀b∈X,b∈φ i)(hi:i∈B3 σ) {F:List Nat}(hF:∀b∈F,b∈φ i\/w.heap.size<=b)(g:Own->Own)(o:Own):
  Later (B++Al φ σ) w (B++Al (DB φ i F) (BG g i o σ)) w':=by
 refine⟨t.size,λb hb hn=>t.blk b hb (λhm=>hn (Ap _ (Bf hi (hX b hm)))),λb hn hs hm=>?_⟩
 rcases Ag.1 hm with hm|hm
 ·exact hn (A2 _ hm)
 ·rcases F5 F b hm with hm|⟨j,hj,_,hm⟩
  ·rcases hF b hm with hm|hm
   ·exact hn (Ap _ (Bf hi hm))
   ·omega
  ·exact hn (Ap _ (Bf hj hm))
theorem Mem.turnSame(h:Mem C B S w0 σ η φ w) {X:List Nat}(t:Tch X w w')(hX:∀b∈X,b∈φ i)(hi:i∈B3 σ) {F:List Nat}(hF:∀b∈F,b∈φ i\/w.heap.size<=b)
  (ho:o.holds η (B3 σ) (B++Al (DB φ i F) (BG id i o σ)) w' (η i) F):Mem C B S w0 (BG id i o σ) η (DB φ i F) w':=by
 have he:DB η i (η i)=η:=by funext j;by_cases e:j=i<;>simp[DB,e]
 have hl:=Later.turn B t hX hi hF id o
 have:=h.turn (v:=η i) (g:=id) t hX hi hF hl (λq hq hne hh=>by
  rw[he]
  exact hh.later hl (λj hj=>⟨hj,rfl⟩) t (λb hb hm=>h.disj q.1 (AY hq) i hi hne b hb (hX b hm))) (by rw[he];exact ho)
 rw[he]at this
 exact this
theorem Mem.turnKill(h:Mem C B S w0 σ η φ w) {X:List Nat}(t:Tch X w w')(hX:∀b∈X,b∈φ i)(hi:i∈B3 σ) {v:Value} {F:List Nat}(hF:∀b∈F,b∈φ i\/w.heap.size<=b)
  (ho:o.holds (DB η i v) (B3 σ) (B++Al (DB φ i F) (BG (BH i .undef) i o σ)) w' v F):Mem C B S w0 (BG (BH i .undef) i o σ) (DB η i v) (DB φ i F) w':=by
 have hl:=Later.turn B t hX hi hF (BH i .undef) o
 exact h.turn t hX hi hF hl (λq hq hne hh=>hh.kill rfl hl (λj hj hne=>⟨hj,CD _ _ _ hne⟩) ⟨_,rfl⟩ t (λb hb hm=>h.disj q.1 (AY hq) i hi hne b hb (hX b hm))) ho
theorem Mem.del(h:Mem C B S w0 σ η φ w) {x:Da}(hx:x.one=true)(hr:RepC (B++Al φ (Di (BH i x) i σ)) w x [η i]):
  Mem C B S w0 (Di (BH i x) i σ) η φ w/\Later (B++Al φ σ) w (B++Al φ (Di (BH i x) i σ)) w:=by
 have hl:Later (B++Al φ σ) w (B++Al φ (Di (BH i x) i σ)) w:=by
  refine⟨Az _,λ_ _ _=>rfl,λb hn hs hm=>?_⟩
  rcases Ag.1 hm with hm|hm
  ·exact hn (A2 _ hm)
  ·obtain⟨p,hp,hb⟩:=AG.1 hm
   obtain⟨q,hq,_,rfl⟩:=EC hp
   exact hn (Ap _ (Bf (AY hq) hb))
 have hI:∀j∈B3 σ,j≠i->j∈B3 (Di (BH i x) i σ)/\η j=η j:=λj hj hne=>⟨by rw[Em];exact A5.2 ⟨hj,by simpa using hne⟩,rfl⟩
 have hsub:∀j∈B3 (Di (BH i x) i σ),j∈B3 σ:=λj hj=>by rw[Em]at hj;exact(A5.1 hj).1
 refine⟨⟨h.tch,?_,?_,?_,?_,h.out,λg hg=>(h.glob g hg).later hl⟩,hl⟩
 ·intro p hp
  obtain⟨q,hq,hne,rfl⟩:=EC hp
  exact(h.own q hq).kill hx hl hI hr (Tch.refl [] w) (λ_ _=>by simp)
 ·rw[Em];exact h.nodup.filter _
 ·exactλj hj k hk=>h.disj j (hsub j hj) k (hsub k hk)
 ·exactλj hj=>h.new j (hsub j hj)
end Go.Sx
namespace Go.Sx
open Go Go.RowKit Go.Reg
structure TyI where
 agg:Bool
 size:Nat
 bytes:Nat
 flds:List (Nat×TypeId)
 zero:Da
 elem:TypeId
 ik:Option IntKind
 kd:Nat
 cmp:Bool
abbrev FF:=List (TypeId×TyI)
def Fz(t:TypeId):FF->Option TyI
 |[]=>none
 |
  (u,e)::l=>match Nat.beq u t with
  |true=>some e
  |false=>Fz t l
mutual
def Da.size:Da->Nat
 |.agg ds=>Zd ds
 |_=>1
def Zd:List Da->Nat
 |[]=>0
 |d::ds=>d.size+Zd ds
end
def Da.isAgg:Da->Bool
 |.agg _=>true
 |_=>false
mutual
def Dat.size:Dat->Nat
 |.d x=>x.size
 |.agg ds=>KY ds
 |_=>1
def KY:List Dat->Nat
 |[]=>0
 |d::ds=>d.size+KY ds
end
def Dat.isAgg:Dat->Bool
 |.d x=>x.isAgg
 |.agg _=>true
 |_=>false
def Dat.fits(d:Dat)(e:TyI):Bool:=(d.isAgg==e.agg)&&Nat.beq d.size e.size
def Da.fits(d:Da)(e:TyI):Bool:=(d.isAgg==e.agg)&&Nat.beq d.size e.size
mutual
def Da.stor:Da->Bool
 |.undef|.tuple _|.raw _=>false
 |.agg ds=>Za ds
 |_=>true
def Za:List Da->Bool
 |[]=>true
 |d::ds=>d.stor&&Za ds
end
mutual
def Dat.stor:Dat->Bool
 |.d x=>x.stor
 |.tuple _=>false
 |.agg ds=>Tb ds
 |_=>true
def Tb:List Dat->Bool
 |[]=>true
 |d::ds=>d.stor&&Tb ds
end
def BO:List Da->List Dat
 |[]=>[]
 |x::xs=>.d x::BO xs
def Dat.parts:Dat->Option (List Dat)
 |.d (.agg xs)=>some (BO xs)
 |.agg ds=>some ds
 |_=>none
def Dat.cellsOf(d:Dat):List Dat:=match d with
 |.d (.agg xs)=>BO xs
 |.agg ds=>ds
 |d=>[d]
def zI(e:TyI):Nat->List Dat->Nat->Option Dat
 |0,_,_=>none
 |_+1,[],_=>none
 |
  f+1,d::ds,o=>match Nat.blt o d.size with
  |false=>zI e f ds (o-d.size)
  |
   true=>match Nat.beq o 0&&d.fits e with
   |true=>some d
   |
    false=>match d.parts with
    |some es=>zI e f es o
    |none=>none
def qS(d:Dat):Option (List Dat)->Option (List Dat)
 |some l=>some (d::l)
 |none=>none
def vC(ds:List Dat):Option (List Dat)->Option (List Dat)
 |some l=>some (.agg l::ds)
 |none=>none
def LT(x:Dat):Nat->List Dat->Nat->Option (List Dat)
 |0,_,_=>none
 |_+1,[],_=>none
 |
  f+1,d::ds,o=>match Nat.blt o d.size with
  |false=>qS d (LT x f ds (o-d.size))
  |
   true=>match Nat.beq o 0&&(d.isAgg==x.isAgg)&&Nat.beq d.size x.size with
   |true=>some (x::ds)
   |
    false=>match d.parts with
    |some es=>vC ds (LT x f es o)
    |none=>none
def Ei:List Dat->Option (List Da)
 |[]=>some []
 |
  .d x::ds=>match Ei ds with
  |some xs=>some (x::xs)
  |none=>none
 |_::_=>none
def Vu(ds:List Dat):Dat:=match Ei ds with
 |some xs=>.d (.agg xs)
 |none=>.agg ds
def Zu(ds:List Dat):Dat:=match Ei ds with
 |some xs=>.d (.tuple xs)
 |none=>.tuple ds
def T1(t:TypeId):Dat->Dat
 |.d x=>.d (.iface t x)
 |d=>.iface t d
def XS(fn:Fn)(f c:List Dat):Dat:=match Ei f,Ei c with
 |some fs,some cs=>.d (.func fn fs cs)
 |_,_=>.func fn f c
def Nb:Value->Da
 |.int k n=>.int k n
 |.bool b=>.bool b
 |.string s=>.str s
 |.pointer none=>.nilp
 |.slice none 0 0=>.nils
 |.map none=>.nilm
 |.nilFunc=>.nilf
 |.nilIface=>.nili
 |v=>.raw v
def Zq:Value->Da
 |.agg cs=>.agg (cs.toList.map Nb)
 |v=>Nb v
def glob(g:Nat):List (Nat×Da)->Da
 |[]=>.raw (.pointer (some ⟨g,0,none⟩))
 |
  (h,x)::l=>match Nat.beq h g with
  |true=>.ref x
  |false=>glob g l
def ev(Γ:List (Nat×Da))(fr:Fr):Operand->Dat
 |.tmp t=>get fr t
 |.const v=>.d (Zq v)
 |.global g=>.d (glob g Γ)
 |.func f=>.d (.func (.func f) [] [])
def fC(Γ:List (Nat×Da))(fr:Fr):List Operand->List Dat
 |[]=>[]
 |x::xs=>ev Γ fr x::fC Γ fr xs
abbrev KD:=Dat->Fr->Sg->Prop
def force(d:Dat)(K:Dat->Prop):Prop:=match d with
 |.d x=>K (.d x)
 |.own i=>K (.own i)
 |.at_ i o=>K (.at_ i o)
 |.el i k n o=>K (.el i k n o)
 |.agg ds=>K (.agg ds)
 |.tuple ds=>K (.tuple ds)
 |.iface t d=>K (.iface t d)
 |.func f a b=>K (.func f a b)
theorem Iq(d:Dat)(K:Dat->Prop):force d K=K d:=by cases d<;>rfl
def uH(k:IntKind)(e:Int)(K:Int->Prop):Prop:=∃n,k.wrap e=n/\K n
def IZ:Nat->List Da->Nat
 |0,_=>0
 |_+1,[]=>0
 |n+1,d::ds=>d.size+IZ n ds
def CU:Nat->List Dat->Nat
 |0,_=>0
 |_+1,[]=>0
 |n+1,d::ds=>d.size+CU n ds
def CC(T:FF)(t:TypeId)(no:Prop)(K:TyI->Prop):Prop:=match Fz t T with
 |some e=>K e
 |none=>no
def CI {α:Type}(o:Option α)(no:Prop)(K:α->Prop):Prop:=match o with
 |some x=>K x
 |none=>no
def CJ(b:Bool)(no K:Prop):Prop:=match b with
 |true=>K
 |false=>no
def jQ(kd:Nat)(x:Dat)(σ:Sg):Option Bool:=match kd with
 |
  1=>(match x with
  |.d .nilp=>some true
  |.d (.ref _)|.at_ _ _|.el _ _ _ _=>some false
  |.own i=>(match BP i σ with|some (.cells _ _)=>some false|_=>none)
  |_=>none)
 |
  2=>(match x with
  |.d .nils=>some true
  |.d (.list _ (_::_))=>some false
  |.own i=>(match BP i σ with|some (.slice _ _ (_::_))=>some false|_=>none)
  |_=>none)
 |
  3=>(match x with
  |.d .nilm=>some true
  |_=>none)
 |
  4=>(match x with
  |.d .nilf=>some true
  |.d (.func _ _ _)|.func _ _ _=>some false
  |_=>none)
 |
  5=>(match x with
  |.d .nili=>some true
  |.d (.iface _ _)|.iface _ _=>some false
  |_=>none)
 |_=>none
def Q2(kd:Nat)(x:Dat):Bool:=match kd,x with
 |1,.d .nilp=>true
 |2,.d .nils=>true
 |3,.d .nilm=>true
 |4,.d .nilf=>true
 |5,.d .nili=>true
 |_,_=>false
def pr(p:Prop) [i:Decidable p]:Dat:=.d (.prop p i)
def gC(op:BinOp)(k:IntKind)(a b:Int)(K:Dat->Prop)(no:Prop):Prop:=match op with
 |.add=>uH k (a+b) λn=>K (.d (.int k n))
 |.sub=>uH k (a-b) λn=>K (.d (.int k n))
 |.mul=>uH k (a*b) λn=>K (.d (.int k n))
 |.quo=>b≠0/\uH k (a.tdiv b) λn=>K (.d (.int k n))
 |.rem=>b≠0/\K (.d (.int k (a.tmod b)))
 |.eql=>K (pr (a=b))
 |.neq=>K (pr (¬a=b))
 |.lss=>K (pr (a<b))
 |.leq=>K (pr (a<=b))
 |.gtr=>K (pr (b<a))
 |.geq=>K (pr (b<=a))
 |_=>no
def Kk(op:BinOp)(p q:Prop) [Decidable p] [Decidable q](K:Dat->Prop)(no:Prop):Prop:=match op with
 |.eql=>K (pr (p↔q))
 |.neq=>K (pr (¬(p↔q)))
 |_=>no
def fV(op:BinOp)(a b:ByteArray)(K:Dat->Prop)(no:Prop):Prop:=match op with
 |.eql=>K (pr (a=b))
 |.neq=>K (pr (¬a=b))
 |.add=>a.size+b.size<=9223372036854775807/\K (.d (.str (a++b)))
 |_=>no
def fY(kd:Nat)(op:BinOp)(x y:Dat)(σ:Sg)(K:Dat->Prop)(no:Prop):Prop:=
 match Q2 kd y,jQ kd x σ,op with
 |true,some b,.eql=>K (.d (.bool b))
 |true,some b,.neq=>K (.d (.bool (!b)))
 |_,_,_=>no
def T8:Operand->Bool
 |.const .nilIface=>true
 |_=>false
def gE(T:FF)(t:TypeId)(op:BinOp)(yc:Bool)(x y:Dat)(σ:Sg)(K:Dat->Prop)(no:Prop):Prop:=
 match x,y with
 |.d (.int k a),.d (.int k' b)=>CJ (decide (k=k')) no (gC op k a b K no)
 |.d (.str a),.d (.str b)=>fV op a b K no
 |.d (.bool a),.d (.bool b)=>CC T t no λe=>CJ (Nat.beq e.kd 9) no (Kk op (a=true) (b=true) K no)
 |.d (.bool a),.d (.prop q _)=>CC T t no λe=>CJ (Nat.beq e.kd 9) no (Kk op (a=true) q K no)
 |.d (.prop p _),.d (.bool b)=>CC T t no λe=>CJ (Nat.beq e.kd 9) no (Kk op p (b=true) K no)
 |.d (.prop p _),.d (.prop q _)=>CC T t no λe=>CJ (Nat.beq e.kd 9) no (Kk op p q K no)
 |x,y=>CC T t no λe=>CJ (yc||!(Nat.beq e.kd 5)) no (fY e.kd op x y σ K no)
def rX(op:UnOp)(x:Dat)(K:Dat->Prop)(no:Prop):Prop:=match op,x with
 |.not,.d (.bool b)=>K (.d (.bool (!b)))
 |.not,.d (.prop p _)=>K (pr (¬p))
 |.neg,.d (.int k n)=>uH k (-n) λm=>K (.d (.int k m))
 |_,_=>no
def nO(d:Dat)(yes no:Dat->Prop)(bad:Prop):Prop:=match d with
 |.d (.bool true)=>yes (.d (.bool true))
 |.d (.bool false)=>no (.d (.bool false))
 |.d (.prop p _)=>(p->yes (.d (.bool true)))/\(¬p->no (.d (.bool false)))
 |_=>bad
def QB(i:Nat)(σ:Sg)(K:Nat->Prop)(no:Prop):Prop:=match BP i σ with
 |none=>K i
 |
  some _=>match BP (i+1000) σ with
  |none=>K (i+1000)
  |
   some _=>match BP (i+2000) σ with
   |none=>K (i+2000)
   |some _=>no
def Cq(n:Nat):List Dat->Option Dat
 |[]=>none
 |
  d::ds=>match n with
  |0=>some d
  |m+1=>Cq m ds
def E8(n:Nat)(x:Dat):List Dat->List Dat
 |[]=>[]
 |
  d::ds=>match n with
  |0=>x::ds
  |m+1=>d::E8 m x ds
def EH(n:Nat):List Da->Option Da
 |[]=>none
 |
  d::ds=>match n with
  |0=>some d
  |m+1=>EH m ds
def SX(T:FF)(t:TypeId)(x:Dat)(σ:Sg)(K:Dat->Prop)(no:Prop):Prop:=CC T t no λe=>match x with
 |.d (.ref y)=>CJ (y.fits e) no (K (.d y))
 |
  .own i=>CI (BP i σ) no λo=>(match o with
  |
   .cells t0 ds=>(match Nat.beq t t0&&e.agg with
   |true=>CJ (Nat.beq (KY ds) e.size) no (force (Vu ds) K)
   |false=>CI (zI e 200 ds 0) no λd=>force d K)
  |_=>no)
 |
  .at_ i off=>CI (BP i σ) no λo=>(match o with
  |.cells _ ds=>CI (zI e 200 ds off) no λd=>force d K
  |_=>no)
 |
  .el i k0 n off=>CI (BP i σ) no λo=>(match o with
  |.slice _ k ds=>CJ (Nat.beq k0 k) no (∃d,ds[n]? =some d/\CI (zI e 200 [.d d] off) no λd=>force d K)
  |_=>no)
 |_=>no
def SU(T:FF)(t:TypeId)(x v:Dat)(σ:Sg)(K:Sg->Prop)(no:Prop):Prop:=CC T t no λe=>CJ (v.fits e&&v.stor) no (match x with
 |
  .own i=>CI (BP i σ) no λo=>(match o with
  |
   .cells t0 ds=>(match Nat.beq t t0&&e.agg with
   |true=>CJ (Nat.beq (KY ds) e.size) no (K (BG id i (.cells t0 v.cellsOf) σ))
   |false=>CI (LT v 200 ds 0) no λds'=>K (BG id i (.cells t0 ds') σ))
  |_=>no)
 |
  .at_ i off=>CI (BP i σ) no λo=>(match o with
  |.cells T ds=>CI (LT v 200 ds off) no λds'=>K (BG id i (.cells T ds') σ)
  |_=>no)
 |
  .el i k0 n off=>CI (BP i σ) no λo=>(match o with
  |
   .slice E k ds=>CJ (Nat.beq k0 k) no (∃d,ds[n]? =some d/\CI (LT v 200 [.d d] off) no λds'=>CI (Ei ds') no λxs=>(match xs with
   |[y]=>K (BG id i (.slice E k (ds.set n y)) σ)
   |_=>no))
  |_=>no)
 |_=>no)
def Jr(T:FF)(t:TypeId)(x:Dat)(n:Nat)(σ:Sg)(K:Dat->Prop)(no:Prop):Prop:=CC T t no λe=>CI e.flds[n]? no λos=>CJ e.agg no<|match x with
 |.d (.ref (.agg ds))=>CJ (Nat.beq (IZ n ds) os.1) no (CI (EH n ds) no λd=>K (.d (.ref d)))
 |.own i=>CI (BP i σ) no λo=>(match o with|.cells _ _=>K (.at_ i os.1)|_=>no)
 |.at_ i off=>K (.at_ i (off+os.1))
 |.el i k m off=>K (.el i k m (off+os.1))
 |_=>no
def wE(n:Int)(len:Nat)(K:Nat->Prop):Prop:=∃j:Nat,n=j/\j<len/\K j
def Jq(T:FF)(t:TypeId)(x ix:Dat)(σ:Sg)(K:Dat->Prop)(no:Prop):Prop:=CC T t no λe=>CC T e.elem no λee=>CJ (Nat.beq e.kd 2) no<|match ix with
 |
  .d (.int _ n)=>(match x with
  |.d (.list k ds)=>CJ (Nat.beq k ee.size) no (∃(j:Nat) (d:Da),n=j/\ds[j]? =some d/\K (.d (.ref d)))
  |
   .own i=>CI (BP i σ) no λo=>(match o with
   |.slice _ k ds=>CJ (Nat.beq k ee.size) no (wE n ds.length λj=>K (.el i k j 0))
   |_=>no)
  |_=>no)
 |_=>no
def gA(T:FF)(t:TypeId)(x:Dat)(σ:Sg)(K:Dat->Prop)(no:Prop):Prop:=CC T t no λe=>CJ (Nat.beq e.kd 2||Nat.beq e.kd 7) no<|match x with
 |.d (.list _ ds)=>CJ (Nat.beq e.kd 2) no (K (.d (.int .i64 ds.length)))
 |.d .nils=>CJ (Nat.beq e.kd 2) no (K (.d (.int .i64 0)))
 |.d (.str s)=>CJ (Nat.beq e.kd 7) no (K (.d (.int .i64 s.size)))
 |
  .own i=>CI (BP i σ) no λo=>(match o with
  |.slice _ _ ds=>CJ (Nat.beq e.kd 2) no (K (.d (.int .i64 ds.length)))
  |_=>no)
 |_=>no
def Wf(x:Dat)(k:Nat)(σ:Sg):Option (List Da):=match x with
 |.d (.list k' ds)=>(match Nat.beq k' k with|true=>some ds|false=>none)
 |.d .nils=>some []
 |
  .own i=>(match BP i σ with
  |some (.slice _ k' ds)=>(match Nat.beq k' k with|true=>some ds|false=>none)
  |_=>none)
 |_=>none
def tC(i:Nat):Dat->Bool
 |.own j=>!(Nat.beq i j)
 |_=>true
def Mc:Nat:=4294967296
def FY(b:Nat):Nat:=140737488355328/b
def Mp:List Dat->(List Dat->Prop)->Prop
 |[],K=>K []
 |d::ds,K=>force d λd=>Mp ds λds=>K (d::ds)
def Yv(o:Own)(K:Own->Prop):Prop:=match o with
 |.cells T ds=>Mp ds λds=>K (.cells T ds)
 |.slice E k ds=>K (.slice E k ds)
 |.abs R a b c=>K (.abs R a b c)
 |.ghost vs ds=>Mp ds λds=>K (.ghost vs ds)
def Cf:Sg->(Sg->Prop)->Prop
 |[],K=>K []
 |(i,o)::σ,K=>Yv o λo=>Cf σ λσ=>K ((i,o)::σ)
def Fk:Fr->(Fr->Prop)->Prop
 |[],K=>K []
 |(t,d)::fr,K=>force d λd=>Fk fr λfr=>K ((t,d)::fr)
theorem QC:∀(ds:List Dat) (K:List Dat->Prop),Mp ds K=K ds
 |[],K=>rfl
 |d::ds,K=>by simp only[Mp,Iq,QC ds]
theorem dQ(o:Own)(K:Own->Prop):Yv o K=K o:=by cases o<;>simp[Yv,QC]
theorem Bz:∀(σ:Sg) (K:Sg->Prop),Cf σ K=K σ
 |[],K=>rfl
 |(i,o)::σ,K=>by simp only[Cf,dQ,Bz σ]
theorem DD:∀(fr:Fr) (K:Fr->Prop),Fk fr K=K fr
 |[],K=>rfl
 |(t,d)::fr,K=>by simp only[Fk,Iq,DD fr]
def F0(i:Nat)(o:Own):Sg->Sg
 |[]=>[(i,o)]
 |
  (j,p)::σ=>match Nat.blt i j with
  |true=>(i,o)::(j,p)::σ
  |false=>(j,p)::F0 i o σ
def P9(T:FF)(t:TypeId)(x y:Dat)(dst:Option Nat)(fr:Fr)(σ:Sg)(K:KD)(no:Prop):Prop:=CC T t no λe=>CC T e.elem no λee=>CJ (decide (0<ee.size)&&decide (ee.bytes<=1000)&&Nat.beq e.kd 2) no<|match x with
 |
  .own i=>CI (BP i σ) no λo=>(match o with
  |.slice E k ds=>CJ (Nat.beq k ee.size&&Nat.beq E e.elem&&tC i y) no<|CI (Wf y k σ) no λes=>
    ds.length+es.length<=FY ee.bytes/\Fk (EZ i .undef fr) λfr=>Cf (BG (BH i .undef) i (.slice E k (ds++es)) σ) λσ=>K (.own i) fr σ
  |_=>no)
 |.d .nils=>CI (Wf y ee.size σ) no λes=>es.length<=FY ee.bytes/\CI dst no λt=>QB t σ (λi=>Cf (F0 i (.slice e.elem ee.size es) σ) λσ=>K (.own i) fr σ) no
 |_=>no
def Jt:List (Nat×Operand)->(Operand->Dat)->List Dat->List Dat
 |[],_,ds=>ds
 |(i,x)::ps,f,ds=>Jt ps f (E8 i (f x) ds)
def Gj(T:FF)(e:TyI):List (Nat×Operand)->(Operand->Dat)->List Dat->Bool
 |[],_,_=>true
 |
  (i,x)::ps,f,ds=>(match Cq i ds,e.flds[i]? with
  |
   some d,some (off,ft)=>(match Fz ft T with
   |some fe=>(d.isAgg==(f x).isAgg)&&Nat.beq d.size (f x).size&&Nat.beq fe.size (f x).size&&Nat.beq (CU i ds) off&&(f x).stor&&Gj T e ps f ds
   |none=>false)
  |_,_=>false)
structure PD where
 p:Prop
 d:Decidable p
def PD.of(p:Prop) [i:Decidable p]:PD:=⟨p,i⟩
def PD.and(x y:PD):PD:=⟨x.p/\y.p,@instDecidableAnd _ _ x.d y.d⟩
def Z6(kd:Nat)(a b:Dat):Option PD:=match kd,a,b with
 |8,.d (.int k x),.d (.int k' y)=>(match decide (k=k')with|true=>some (PD.of (x=y))|false=>none)
 |7,.d (.str x),.d (.str y)=>some (PD.of (x=y))
 |9,.d (.bool x),.d (.bool y)=>some (PD.of (x=y))
 |_,_,_=>none
def Nv(T:FF)(dx dy:List Dat):List (Nat×TypeId)->Nat->Option PD
 |[],_=>some (PD.of True)
 |
  (off,ft)::l,i=>match Fz ft T,Cq i dx,Cq i dy with
  |
   some fe,some a,some b=>(match Z6 fe.kd a b,Nat.beq (CU i dx) off&&Nat.beq (CU i dy) off with
   |
    some p,true=>(match l with
    |[]=>some p
    |
     _::_=>match Nv T dx dy l (i+1)with
     |some q=>some (p.and q)
     |none=>none)
   |_,_=>none)
  |_,_,_=>none
def rY(op:BinOp)(p:PD)(K:Dat->Prop)(no:Prop):Prop:=match op with
 |.eql=>K (.d (.prop p.p p.d))
 |.neq=>K (.d (.prop (¬p.p) (@instDecidableNot _ p.d)))
 |_=>no
def SZ(T:FF)(t:TypeId)(x:Dat)(n:Nat)(K:Dat->Prop)(no:Prop):Prop:=CC T t no λe=>CI e.flds[n]? no λos=>CC T os.2 no λfe=>CI x.parts no λds=>CI (Cq n ds) no λd=>CJ (d.fits fe&&Nat.beq (CU n ds) os.1&&e.agg) no (force d K)
end Go.Sx
namespace Go.Sx
open Go Go.RowKit Go.Reg
def Hn(C:Cx)(B S:List Nat)(w0:World)(n:Nat)(K:Fr->Sg->Prop)(a:Act)(w:World):Prop:=
 ∃fr σ η φ,Models C B S w0 n fr σ η φ a w/\K fr σ
def Bd(C:Cx)(n kd:Nat)(o:Oper)(K:Fr->Sg->Prop)(fr:Fr)(σ:Sg):Prop:=
 ∀(B S:List Nat) (w0:World) (η:Nat->Value) (φ:Nat->List Nat) (a:Act) (w:World),Models C B S w0 n fr σ η φ a w->match kd with
  |0=>Bo a o=true/\o.wp C.P a w (Hn C B S w0 n K) No
  |5=>∃v,(∀w2,I5 w w2->(execOp a.eval o).run C.P w2=.ok (.value v) w2)/\Hn C B S w0 n K (a.put o.dst v) w
  |2=>o.wp C.P a w (λa' w'=>I5 w w'/\Hn C B S w0 n K a' w') No
  |_=>o.wp C.P a w (Hn C B S w0 n K) No
def BU(C:Cx)(quiet:Bool)(f:FuncId)(args:List Dat)(K:KD)(fr:Fr)(σ:Sg):Prop:=
 ∀(B S:List Nat) (w0:World) (η:Nat->Value) (φ:Nat->List Nat) (n:Nat) (a:Act) (w:World) (vs:List Value),Models C B S w0 n fr σ η φ a w->
  (∃css,A9 η (B3 σ) (B++Al φ σ) w args css/\vs=List.zipWith BR args css)->
  (callFunc f vs.toArray).run C.P w=.ok (.enter f vs.toArray) w/\Calls C.P f vs.toArray w λe w'=>∃v d fr' σ' η' φ',e=.returned v/\K d fr' σ'/\Models C B S w0 n fr' σ' η' φ' a w'/\(∃cs,A7 η' (B3 σ') (B++Al φ' σ') w' d cs/\v=BR d cs)/\(quiet=true->I5 w w')
def DJ(C:Cx)(n:Nat)(c:Code)(K:Exit->Fr->Sg->Prop)(fr:Fr)(σ:Sg):Prop:=
 ∀(B S:List Nat) (w0:World) (η:Nat->Value) (φ:Nat->List Nat) (a:Act) (w:World),Models C B S w0 n fr σ η φ a w->
  c.wp C.P (λe a' w'=>match e with
   |.panic _=>False
   |.outgrown=>False
   |e=>Hn C B S w0 n (K e) a' w') a w
attribute [irreducible] Bd BU DJ
def C4(t:Option Nat)(d:Dat)(fr:Fr):Fr:=match t with
 |some t=>(t,d)::fr
 |none=>fr
def Dv(t:Option Nat)(n:Nat):Bool:=match t with
 |some t=>Nat.blt t n
 |none=>true
def SV(T:FF)(t:TypeId)(x:Dat)(lo hi mx:Option Dat)(K:Dat->Prop)(no:Prop):Prop:=CC T t no λe=>CC T e.elem no λee=>CJ (Nat.beq e.kd 2) no<|match x,mx with
 |
  .d (.list k ds),none=>CJ (Nat.beq k ee.size) no (match lo,hi with
  |none,none=>K (.d (.list k ds))
  |some (.d (.int _ l)),none=>∃j:Nat,l=j/\j<=ds.length/\K (.d (.list k (ds.drop j)))
  |none,some (.d (.int _ h))=>∃m:Nat,h=m/\m<=ds.length/\K (.d (.list k (ds.take m)))
  |some (.d (.int _ l)),some (.d (.int _ h))=>∃j m:Nat,l=j/\h=m/\j<=m/\m<=ds.length/\K (.d (.list k ((ds.take m).drop j)))
  |_,_=>no)
 |
  .d .nils,none=>(match lo,hi with
  |none,none=>K (.d .nils)
  |some (.d (.int _ l)),none=>l=0/\K (.d .nils)
  |none,some (.d (.int _ h))=>h=0/\K (.d .nils)
  |some (.d (.int _ l)),some (.d (.int _ h))=>l=0/\h=0/\K (.d .nils)
  |_,_=>no)
 |_,_=>no
def P6(C:Cx)(T:FF)(n kd:Nat)(o:Oper)(K:Fr->Sg->Prop)(fr:Fr)(σ:Sg):Prop:=
 CJ (Dv o.dst n) (Bd C n kd o K fr σ)<|match o.op with
 |.move x=>force (ev C.Γ fr x) λd=>K (C4 o.dst d fr) σ
 |.assign x=>force (ev C.Γ fr x) λd=>K (C4 o.dst d fr) σ
 |.pick c x y=>nO (ev C.Γ fr c) (λ_=>force (ev C.Γ fr x) λd=>K (C4 o.dst d fr) σ) (λ_=>force (ev C.Γ fr y) λd=>K (C4 o.dst d fr) σ) (Bd C n kd o K fr σ)
 |.alloc t=>CC T t (Bd C n kd o K fr σ) λe=>CI o.dst (Bd C n kd o K fr σ) λd=>QB d σ (λi=>Cf (F0 i (.cells t (Dat.cellsOf (.d e.zero))) σ) λσ=>K (C4 o.dst (.own i) fr) σ) (Bd C n kd o K fr σ)
 |.box t x=>CJ (ev C.Γ fr x).stor (Bd C n kd o K fr σ)<|CI o.dst (Bd C n kd o K fr σ) λd=>QB d σ (λi=>force (ev C.Γ fr x) λy=>Cf (F0 i (.cells t y.cellsOf) σ) λσ=>K (C4 o.dst (.own i) fr) σ) (Bd C n kd o K fr σ)
 |.build t ps=>CC T t (Bd C n kd o K fr σ) λe=>CJ (e.agg&&Gj T e ps.toList (ev C.Γ fr) (Dat.cellsOf (.d e.zero))) (Bd C n kd o K fr σ)<|force (Vu (Jt ps.toList (ev C.Γ fr) (Dat.cellsOf (.d e.zero)))) λd=>K (C4 o.dst d fr) σ
 |.buildSlice t m ps=>CC T t (Bd C n kd o K fr σ) λe=>CC T e.elem (Bd C n kd o K fr σ) λee=>CJ (Nat.beq e.kd 2&&Nat.beq m ps.size&&decide (m<=1000)&&decide (ee.size<=1000)&&((ps.toList.map (·.1))==List.range m)&&ps.toList.all (λp=>(ev C.Γ fr p.2).fits ee&&(ev C.Γ fr p.2).stor)) (Bd C n kd o K fr σ)<|
   CI (Ei (ps.toList.map λp=>ev C.Γ fr p.2)) (Bd C n kd o K fr σ) λxs=>CI o.dst (Bd C n kd o K fr σ) λd=>QB d σ (λi=>Cf (F0 i (.slice e.elem ee.size xs) σ) λσ=>K (C4 o.dst (.own i) fr) σ) (Bd C n kd o K fr σ)
 |
  .makeSlice t l c=>CC T t (Bd C n kd o K fr σ) λe=>CC T e.elem (Bd C n kd o K fr σ) λee=>CJ (Nat.beq e.kd 2&&ee.zero.stor&&decide (ee.bytes<=1000)) (Bd C n kd o K fr σ) (match ev C.Γ fr l,ev C.Γ fr c with
  |.d (.int _ x),.d (.int _ y)=>∃m:Nat,x=m/\y=m/\m<=Mc/\CI o.dst (Bd C n kd o K fr σ) λd=>QB d σ (λi=>Cf (F0 i (.slice e.elem ee.size (List.replicate m ee.zero)) σ) λσ=>K (C4 o.dst (.own i) fr) σ) (Bd C n kd o K fr σ)
  |_,_=>Bd C n kd o K fr σ)
 |.load t x=>SX T t (ev C.Γ fr x) σ (λd=>K (C4 o.dst d fr) σ) (Bd C n kd o K fr σ)
 |.store t x v=>SU T t (ev C.Γ fr x) (ev C.Γ fr v) σ (λσ'=>Cf σ' λσ'=>K (C4 o.dst (.d .undef) fr) σ') (Bd C n kd o K fr σ)
 |
  .nilCheck x=>force (ev C.Γ fr x) λd=>(match d with
  |.d (.ref _)=>K (C4 o.dst d fr) σ
  |.at_ _ _=>K (C4 o.dst d fr) σ
  |.el _ _ _ _=>K (C4 o.dst d fr) σ
  |
   .own i=>CI (BP i σ) (Bd C n kd o K fr σ) λow=>(match ow with
   |.cells _ _=>K (C4 o.dst d fr) σ
   |_=>Bd C n kd o K fr σ)
  |_=>Bd C n kd o K fr σ)
 |
  .binOp op t x y _=>(match(ev C.Γ fr x).parts,(ev C.Γ fr y).parts with
  |some dx,some dy=>CC T t (Bd C n kd o K fr σ) λe=>CJ (e.cmp&&!(Nat.beq kd 0)) (Bd C n kd o K fr σ)<|CI (Nv T dx dy e.flds 0) (Bd C n kd o K fr σ) λp=>rY op p (λd=>K (C4 o.dst d fr) σ) (Bd C n kd o K fr σ)
  |_,_=>gE T t op (T8 y) (ev C.Γ fr x) (ev C.Γ fr y) σ (λd=>K (C4 o.dst d fr) σ) (Bd C n kd o K fr σ))
 |.unOp op _ x=>rX op (ev C.Γ fr x) (λd=>K (C4 o.dst d fr) σ) (Bd C n kd o K fr σ)
 |
  .convert s t x=>CC T t (Bd C n kd o K fr σ) λe=>CC T s (Bd C n kd o K fr σ) λ_=>(match e.ik,ev C.Γ fr x with
  |some k,.d (.int _ a)=>uH k a λb=>K (C4 o.dst (.d (.int k b)) fr) σ
  |_,_=>Bd C n kd o K fr σ)
 |.makeInterface t x=>CC T t (Bd C n kd o K fr σ) λe=>CJ (!(Nat.beq e.kd 5)) (Bd C n kd o K fr σ)<|force (T1 t (ev C.Γ fr x)) λd=>K (C4 o.dst d fr) σ
 |.makeFunc f p q=>force (XS f (fC C.Γ fr p.toList) (fC C.Γ fr q.toList)) λd=>K (C4 o.dst d fr) σ
 |.fieldAddr t x m=>Jr T t (ev C.Γ fr x) m σ (λd=>K (C4 o.dst d fr) σ) (Bd C n kd o K fr σ)
 |.indexAddr t x ix=>Jq T t (ev C.Γ fr x) (ev C.Γ fr ix) σ (λd=>K (C4 o.dst d fr) σ) (Bd C n kd o K fr σ)
 |
  .index t x ix=>CC T t (Bd C n kd o K fr σ) λe=>CJ (Nat.beq e.kd 7) (Bd C n kd o K fr σ) (match ev C.Γ fr x,ev C.Γ fr ix with
  |.d (.str s),.d (.int _ i)=>∃j:Nat,i=j/\∃h:j<s.size,K (C4 o.dst (.d (.int .u8 (s[j]'h).toNat)) fr) σ
  |_,_=>Bd C n kd o K fr σ)
 |.field t x m=>SZ T t (ev C.Γ fr x) m (λd=>K (C4 o.dst d fr) σ) (Bd C n kd o K fr σ)
 |.slice t x lo hi mx=>SV T t (ev C.Γ fr x) (lo.map (ev C.Γ fr)) (hi.map (ev C.Γ fr)) (mx.map (ev C.Γ fr)) (λd=>K (C4 o.dst d fr) σ) (Bd C n kd o K fr σ)
 |
  .extract x m=>(match ev C.Γ fr x with
  |.d (.tuple ds)=>CI (EH m ds) (Bd C n kd o K fr σ) λd=>K (C4 o.dst (.d d) fr) σ
  |.tuple ds=>CI (Cq m ds) (Bd C n kd o K fr σ) λd=>force d λd=>K (C4 o.dst d fr) σ
  |_=>Bd C n kd o K fr σ)
 |
  .call c=>(match c.callee with
  |
   .builtin .len=>(match c.args.toList,c.argTypes.toList with
   |[x],[t]=>gA T t (ev C.Γ fr x) σ (λd=>K (C4 o.dst d fr) σ) (Bd C n kd o K fr σ)
   |_,_=>Bd C n kd o K fr σ)
  |
   .builtin .append=>(match c.args.toList,c.argTypes.toList with
   |[x,y],[t,t']=>CJ (Nat.beq t t') (Bd C n kd o K fr σ)<|P9 T t (ev C.Γ fr x) (ev C.Γ fr y) o.dst fr σ (λd fr σ=>K (C4 o.dst d fr) σ) (Bd C n kd o K fr σ)
   |_,_=>Bd C n kd o K fr σ)
  |
   .builtin .min=>(match c.args.toList.map (ev C.Γ fr)with
   |[.d (.int k x),.d (.int _ y)]=>K (C4 o.dst (.d (.int k (min x y))) fr) σ
   |_=>Bd C n kd o K fr σ)
  |
   .builtin .max=>(match c.args.toList.map (ev C.Γ fr)with
   |[.d (.int k x),.d (.int _ y)]=>K (C4 o.dst (.d (.int k (max x y))) fr) σ
   |_=>Bd C n kd o K fr σ)
  |
   .value f=>(match ev C.Γ fr f with
   |.d (.func (.func g) fs cs)=>BU C (Nat.beq kd 2) g (BO fs++(fC C.Γ fr c.args.toList++BO cs)) (λd fr σ=>K (C4 o.dst d fr) σ) fr σ
   |.func (.func g) fs cs=>BU C (Nat.beq kd 2) g (fs++(fC C.Γ fr c.args.toList++cs)) (λd fr σ=>K (C4 o.dst d fr) σ) fr σ
   |_=>Bd C n kd o K fr σ)
  |_=>Bd C n kd o K fr σ)
 |_=>Bd C n kd o K fr σ
def SY(o:Oper)(l:List Oper)(fr:Fr)(yes no:Fr->Prop):Prop:=match o.guard with
 |none=>yes fr
 |
  some (g,b)=>match(l[g]?).bind (·.dst)with
  |none=>False
  |
   some t=>match get fr t with
   |
    .d (.bool c)=>(match c,b with
    |true,true=>yes fr
    |false,false=>yes fr
    |_,_=>no fr)
   |
    .d (.prop p _)=>(match b with
    |true=>(p->yes ((t,.d (.bool true))::fr))/\(¬p->no ((t,.d (.bool false))::fr))
    |false=>(p->no ((t,.d (.bool true))::fr))/\(¬p->yes ((t,.d (.bool false))::fr)))
   |.d (.tuple [])=>no fr
   |_=>False
def uK(t:Option Nat)(fr:Fr):Fr:=match t with
 |some t=>(t,.d (.tuple []))::fr
 |none=>fr
def Gw(C:Cx)(T:FF)(n:Nat)(l:List Oper)(ks:List Nat)(K:Fr->Sg->Prop):List Nat->Fr->Sg->Prop
 |[],fr,σ=>K fr σ
 |
  i::p,fr,σ=>match l[i]? with
  |none=>False
  |some o=>SY o l fr (λfr=>P6 C T n (ks.getD i 3) o (Gw C T n l ks K p) fr σ) (λfr=>CJ (Dv o.dst n) False (Gw C T n l ks K p (uK o.dst fr) σ))
inductive Plan where
 |leaf (ks p A:List Nat)
 |split (i j:Nat) (x y:Plan)
def Gt:Plan->List (List Nat×List Nat)
 |.leaf ks p _=>[(ks,p)]
 |.split _ _ x y=>Gt x++Gt y
def Uc:Fr->Fr->Prop
 |[],_=>True
 |(t,d)::l,fr=>get fr t=d/\Uc l fr
def jL:Fr->Fr->(Fr->Prop)->Prop
 |[],acc,K=>K acc
 |
  (t,d)::fr,acc,K=>match acc.any (λp=>Nat.beq p.1 t)with
  |true=>jL fr acc K
  |false=>force d λd=>jL fr ((t,d)::acc) K
def SW(C:Cx)(T:FF)(n:Nat)(l:List Oper)(F:Fr)(Z:Sg)(fr:Fr)(σ:Sg)(k:Prop):List (List Nat×List Nat)->Prop
 |[]=>k
 |(ks,p)::r=>Gw C T n l ks (λfr' σ'=>Uc F fr'/\σ'=Z) p fr σ/\SW C T n l F Z fr σ k r
def Xf(C:Cx)(T:FF)(n:Nat)(l:List Oper)(K:Fr->Sg->Prop)(pl:Plan)(fr:Fr)(σ:Sg):Prop:=match Gt pl with
 |[]=>False
 |[(ks,p)]=>Gw C T n l ks K p fr σ
 |(ks,p)::r=>Gw C T n l ks (λfr1 σ1=>jL fr1 [] λF=>SW C T n l F σ1 fr σ (K F σ1) r) p fr σ
def X7(i:Nat):List (Nat×Plan)->Option Plan
 |[]=>none
 |
  (j,p)::l=>match Nat.beq j i with
  |true=>some p
  |false=>X7 i l
abbrev KE:=Exit->Fr->Sg->Prop
def wG(nx:Fr->Sg->Prop)(K:KE):KE:=λe=>match e with
 |.normal=>nx
 |e=>K e
def YF(id:Nat)(K:KE):KE:=λe=>match e with
 |
  .exit j=>(match Nat.beq j id with
  |true=>K .normal
  |false=>K (.exit j))
 |e=>K e
def ZA(c:Operand)(d:Dat)(fr:Fr):Fr:=match c with
 |.tmp t=>(t,d)::fr
 |_=>fr
def D1(C:Cx)(T:FF)(n:Nat)(pl:List (Nat×Plan)):Code->KE->Fr->Sg->Prop
 |.skip,K,fr,σ=>K .normal fr σ
 |
  .region id ops dr,K,fr,σ=>(match dr with
  |false=>Gw C T n ops.toList [] (K .normal) (List.range ops.toList.length) fr σ
  |
   true=>match X7 id pl with
   |some p=>Xf C T n ops.toList (K .normal) p fr σ
   |none=>False)
 |.seq a b,K,fr,σ=>D1 C T n pl a (wG (D1 C T n pl b K) K) fr σ
 |.cond c a b,K,fr,σ=>nO (ev C.Γ fr c) (λd=>D1 C T n pl a K (ZA c d fr) σ) (λd=>D1 C T n pl b K (ZA c d fr) σ) False
 |.block id b,K,fr,σ=>D1 C T n pl b (YF id K) fr σ
 |.exit id,K,fr,σ=>K (.exit id) fr σ
 |.label _,K,fr,σ=>K .normal fr σ
 |.ret,K,fr,σ=>K .ret fr σ
 |c,K,fr,σ=>DJ C n c K fr σ
def P5(T:FF):List ResultVar->Fr->Sg->(List Dat->Prop)->Prop
 |[],_,_,K=>K []
 |.tmp t::l,fr,σ,K=>force (get fr t) λd=>P5 T l fr σ λds=>K (d::ds)
 |.cell t ty::l,fr,σ,K=>SX T ty (get fr t) σ (λd=>P5 T l fr σ λds=>K (d::ds)) False
def Jg(T:FF)(rs:List ResultVar)(K:Dat->Sg->Prop):KE:=λe fr σ=>match e with
 |
  .normal|.ret=>P5 T rs fr σ λds=>(match ds with
  |[d]=>K d σ
  |ds=>force (Zu ds) λd=>K d σ)
 |_=>False
end Go.Sx
namespace Go.Sx
open Go Go.RowKit Go.Reg
def rU:Value->Value->Bool
 |.int k n,.int k' n'=>decide (k=k')&&decide (n=n')
 |.bool b,.bool c=>b==c
 |.string s,.string t=>decide (s=t)
 |.pointer none,.pointer none=>true
 |.slice none 0 0,.slice none 0 0=>true
 |.map none,.map none=>true
 |.nilFunc,.nilFunc=>true
 |.nilIface,.nilIface=>true
 |_,_=>false
theorem nE {a b:Value}(h:rU a b=true):a=b:=by
 unfold rU at h
 split at h<;>simp at h<;>simp[h]
def R9:List Value->List Value->Bool
 |[],[]=>true
 |a::as,b::bs=>rU a b&&R9 as bs
 |_,_=>false
theorem Uk:∀{a b:List Value},R9 a b=true->a=b
 |[],[],_=>rfl
 |
  a::as,b::bs,h=>by
  simp only[R9,Ai]at h
  rw[nE h.1,Uk h.2]
 |[],_::_,h=>by simp[R9]at h
 |_::_,[],h=>by simp[R9]at h
mutual
def D9:Da->Option (List Value)
 |.int k n=>some [.int k n]
 |.bool b=>some [.bool b]
 |.str s=>some [.string s]
 |.nilp=>some [.pointer none]
 |.nils=>some [.slice none 0 0]
 |.nilm=>some [.map none]
 |.nilf=>some [.nilFunc]
 |.nili=>some [.nilIface]
 |.agg ds=>Kf ds
 |_=>none
def Kf:List Da->Option (List Value)
 |[]=>some []
 |
  d::ds=>match D9 d,Kf ds with
  |some a,some b=>some (a++b)
  |_,_=>none
end
mutual
theorem Om {O:List Nat} {w:World}:∀(d:Da) (cs:List Value),D9 d=some cs->RepC O w d cs
 |.int k n,cs,h=>by simp only[D9,Aq]at h;simp only[RepC];exact h.symm
 |.bool b,cs,h=>by simp only[D9,Aq]at h;simp only[RepC];exact h.symm
 |.str s,cs,h=>by simp only[D9,Aq]at h;simp only[RepC];exact h.symm
 |.nilp,cs,h=>by simp only[D9,Aq]at h;simp only[RepC];exact h.symm
 |.nils,cs,h=>by simp only[D9,Aq]at h;simp only[RepC];exact h.symm
 |.nilm,cs,h=>by simp only[D9,Aq]at h;simp only[RepC];exact h.symm
 |.nilf,cs,h=>by simp only[D9,Aq]at h;simp only[RepC];exact h.symm
 |.nili,cs,h=>by simp only[D9,Aq]at h;simp only[RepC];exact h.symm
 |.agg ds,cs,h=>by simp only[D9]at h;simp only[RepC];exact LR ds cs h
 |.undef,cs,h=>by simp[D9]at h
 |.prop _ _,cs,h=>by simp[D9]at h
 |.tuple _,cs,h=>by simp[D9]at h
 |.iface _ _,cs,h=>by simp[D9]at h
 |.ref _,cs,h=>by simp[D9]at h
 |.list _ _,cs,h=>by simp[D9]at h
 |.func _ _ _,cs,h=>by simp[D9]at h
 |.raw _,cs,h=>by simp[D9]at h
theorem LR {O:List Nat} {w:World}:∀(ds:List Da) (cs:List Value),Kf ds=some cs->RepCs O w ds cs
 |[],cs,h=>by simp only[Kf,Aq]at h;simp only[RepCs];exact h.symm
 |
  d::ds,cs,h=>by
  simp only[Kf]at h
  cases h1:D9 d with
  |none=>rw[h1]at h;cases h
  |
   some a=>
   cases h2:Kf ds with
   |none=>rw[h1,h2]at h;cases h
   |
    some b=>
    rw[h1,h2]at h
    simp only[Aq]at h
    exact⟨a,b,h.symm,Om d a h1,LR ds b h2⟩
end
def nF:Value->Bool
 |.agg _=>true
 |_=>false
def wC(P:Program)(t:TypeId)(e:TyI):Bool:=
 match P.info? t,P.underlying t with
 |some i,some d=>Nat.beq i.size e.size&&Nat.beq i.bytes e.bytes&&
   (match i.zero,D9 e.zero with
    |some z,some cs=>R9 z.cells.toList cs&&(nF z==e.agg)
    |_,_=>false)&&((e.zero.isAgg==e.agg)&&Nat.beq e.zero.size e.size)&&
   (match d with
    |.struct fs=>e.agg&&decide (fs.toList.map (λf=>(f.offset,f.type))=e.flds)&&fs.toList.all (λf=>match P.info? f.type with|some i=>Nat.blt 0 i.size|none=>false)
    |.array _ _=>false
    |.slice el=>!e.agg&&Nat.beq el e.elem
    |.int k=>!e.agg&&decide (e.ik=some k)
    |_=>!e.agg)&&
   ((match d with|.int _=>false|_=>true)==e.ik.isNone)&&
   Nat.beq e.kd (match d with|.pointer _=>1|.slice _=>2|.map _ _=>3|.func _ _ _=>4|.interface _=>5|.struct _=>6|.string=>7|.int _=>8|.bool=>9|_=>0)&&
   (!e.cmp||(match d with|.struct fs=>!(P.stoodInHeld t)&&!(P.eqGuardType P.depth t)&&fs.toList.all (λf=>f.name != "_")|_=>false))
 |_,_=>false
def aH(P:Program):FF->Bool
 |[]=>true
 |(t,e)::l=>wC P t e&&aH P l
theorem YY {P:Program}:∀{T:FF},aH P T=true->∀{t:TypeId} {e:TyI},Fz t T=some e->wC P t e=true
 |[],_,t,e,h=>by simp[Fz]at h
 |
  (u,x)::l,hT,t,e,h=>by
  simp only[aH,Ai]at hT
  rcases Br u t with⟨hb,he⟩|⟨hb,he⟩
  ·simp only[Fz,hb,Aq]at h
   subst he;subst h;exact hT.1
  ·simp only[Fz,hb]at h
   exact YY hT.2 h
structure TyOk(P:Program)(t:TypeId)(e:TyI):Prop where
 zsize:e.zero.size=e.size
 cmp:e.cmp=true->∃fs,P.underlying t=some (.struct fs)/\P.stoodInHeld t=false/\P.eqGuardType P.depth t=false/\∀f∈fs.toList,f.name≠ "_"
 info:∃i z,P.info? t=some i/\i.size=e.size/\i.bytes=e.bytes/\i.zero=some z/\z=Ft e.zero z.cells.toList/\(∀O w,RepC O w e.zero z.cells.toList)
 desc:∃d,P.underlying t=some d/\(match d with|.struct _|.array _ _=>true|_=>false)=e.agg/\(∀el,d=.slice el->el=e.elem)/\
  (∀fs,d=.struct fs->fs.toList.map (λf=>(f.offset,f.type))=e.flds/\∀f∈fs.toList,∃i,P.info? f.type=some i/\0<i.size)/\
  (∀n el,d≠.array n el)/\(e.agg=true->∃fs,d=.struct fs)/\(∀k,e.ik=some k->d=.int k)/\e.kd=(match d with|.pointer _=>1|.slice _=>2|.map _ _=>3|.func _ _ _=>4|.interface _=>5|.struct _=>6|.string=>7|.int _=>8|.bool=>9|_=>0)
theorem Rq {z:Value} {d:Da} {cs:List Value}(h1:z.cells.toList=cs)(h2:nF z=d.isAgg)(h3:d.isAgg=false->z=Ft d [z]):z=Ft d cs:=by
 cases z with
 |
  agg xs=>
  cases d<;>first|(simp[Da.isAgg,nF]at h2;done)|(simp only[Value.cells]at h1;subst h1;simp[Ft])
 |
  _=>
  simp only[Value.cells]at h1
  subst h1
  exact h3 (by simpa[nF]using h2.symm)
theorem rV {P:Program} {t:TypeId} {e:TyI}(h:wC P t e=true):TyOk P t e:=by
 unfold wC at h
 cases hi:P.info? t with
 |none=>rw[hi]at h;cases h
 |
  some i=>
  cases hd:P.underlying t with
  |none=>rw[hi,hd]at h;cases h
  |
   some d=>
   rw[hi,hd]at h
   simp only[Ai]at h
   obtain⟨⟨⟨⟨⟨⟨⟨h1,h2⟩,h3⟩,h4⟩,h5⟩,h6⟩,h7⟩,h8⟩:=h
   refine⟨by simp only[beq_iff_eq]at h4;exact Ao h4.2,?_,?_,?_⟩
   ·intro hc
    rw[hc]at h8
    simp only[Bool.not_true,Bool.false_or]at h8
    split at h8
    ·rename_i fs
     simp only[Ai,B7,BY]at h8
     exact⟨fs,hd,h8.1.1,h8.1.2,λf hf=>by simpa using h8.2 f hf⟩
    ·cases h8
   ·cases hz:i.zero with
    |none=>rw[hz]at h3;cases h3
    |
     some z=>
     cases hc:D9 e.zero with
     |none=>rw[hz,hc]at h3;cases h3
     |
      some cs=>
      rw[hz,hc]at h3
      simp only[Ai]at h3
      have e1:=Uk h3.1
      refine⟨i,z,hi,Ao h1,Ao h2,hz,?_,λO w=>by rw[e1];exact Om _ _ hc⟩
      rw[e1]
      refine Rq e1 ?_ (λhn=>?_)
      ·have h4':e.zero.isAgg=e.agg:=by simp only[beq_iff_eq]at h4;exact h4.1
       rw[h4'];simpa using h3.2
      ·cases hh:e.zero<;>simp[Ft]<;>rw[hh]at hn<;>simp[Da.isAgg]at hn
   ·refine⟨d,hd,?_,?_,?_,?_,?_,?_,?_⟩
    ·cases d<;>simp at h5<;>simp[h5]
    ·rintro el rfl
     simp only[Ai]at h5
     exact Ao h5.2
    ·rintro fs rfl
     simp only[Ai,decide_eq_true_eq,BY]at h5
     refine⟨h5.1.2,λf hf=>?_⟩
     have:=h5.2 f hf
     cases hfi:P.info? f.type with
     |none=>rw[hfi]at this;cases this
     |
      some j=>
      rw[hfi]at this
      exact⟨j,rfl,by simpa[Nat.blt_eq]using this⟩
    ·rintro n el rfl;simp at h5
    ·intro ha
     cases d<;>simp[ha]at h5
     exact⟨_,rfl⟩
    ·intro k hk
     rw[hk]at h6 h5
     cases d<;>simp at h6
     simp at h5
     rw[h5.2]
    ·exact Ao h7
structure Cx.Ok(C:Cx)(T:FF):Prop where
 tab:aH C.P T=true
 mixed:C.P.follows .mixedOrders=true
theorem Cx.Ok.ty {C:Cx} {T:FF}(h:C.Ok T) {t:TypeId} {e:TyI}(ht:Fz t T=some e):TyOk C.P t e:=rV (YY h.tab ht)
section
variable {P:Program} {t:TypeId} {e:TyI}
theorem TyOk.sizeOf(h:TyOk P t e)(w:World):(sizeOf t).run P w=.ok e.size w:=by
 obtain⟨i,z,h1,h2,_⟩:=h.info
 simp[Go.sizeOf,typeInfo,program,Sem.run,h1,h2]
theorem TyOk.isAgg(h:TyOk P t e)(w:World):(isAgg t).run P w=.ok e.agg w:=by
 obtain⟨d,h1,h2,_⟩:=h.desc
 simp only[Go.isAgg,A6,run_underlying h1,A3]
 rw[<-h2]
 cases d<;>simp
theorem TyOk.zero(h:TyOk P t e):∃z,(∀w,(zeroValue t).run P w=.ok z w)/\z=Ft e.zero z.cells.toList/\∀O w,RepC O w e.zero z.cells.toList:=by
 obtain⟨i,z,h1,h2,h3,h4,h5,h6⟩:=h.info
 exact⟨z,λw=>by simp[zeroValue,typeInfo,program,Sem.run,h1,h4],h5,h6⟩
end
section
variable {C:Cx} {B S:List Nat} {w0 w:World} {n:Nat} {fr:Fr} {σ:Sg} {η:Nat->Value} {φ:Nat->List Nat} {a:Act}
abbrev RD(B:List Nat)(σ:Sg)(η:Nat->Value)(φ:Nat->List Nat)(w:World)(d:Dat)(v:Value):Prop:=∃cs,A7 η (B3 σ) (B++Al φ σ) w d cs/\v=BR d cs
theorem Qf(O:List Nat)(w:World)(v:Value):RepC O w (Nb v) [v]:=by
 unfold Nb
 split<;>simp[RepC]
theorem Xb(v:Value):Ft (Nb v) [v]=v:=by
 unfold Nb
 split<;>simp[Ft]
theorem cC(O:List Nat)(w:World)(v:Value):∃cs,RepC O w (Zq v) cs/\v=Ft (Zq v) cs:=by
 unfold Zq
 split
 ·rename_i cs
  refine⟨cs.toList,?_,by simp[Ft]⟩
  simp only[RepC]
  generalize cs.toList=l
  induction l with
  |nil=>simp[RepCs]
  |cons x l ih=>exact⟨[x],l,rfl,Qf O w x,ih⟩
 ·exact⟨[v],Qf O w v,(Xb v).symm⟩
theorem VL {O:List Nat} {w:World} {g:Nat}:∀{Γ:List (Nat×Da)},(∀p∈Γ,Rep O w (.ref p.2) (.pointer (some ⟨p.1,0,none⟩)))->∃cs,RepC O w (glob g Γ) cs/\Value.pointer (some ⟨g,0,none⟩)=Ft (glob g Γ) cs
 |[],_=>⟨[.pointer (some ⟨g,0,none⟩)],by simp[glob,RepC],by simp[glob,Ft]⟩
 |
  (h,x)::Γ,hh=>by
  rcases Br h g with⟨hb,he⟩|⟨hb,he⟩
  ·simp only[glob,hb]
   have:=hh (h,x) (by simp)
   subst he;exact this
  ·simp only[glob,hb]
   exact VL (λp hp=>hh p (AE _ hp))
theorem Be(h:Models C B S w0 n fr σ η φ a w)(x:Operand):RD B σ η φ w (ev C.Γ fr x) (a.eval x):=by
 cases x with
 |tmp t=>obtain⟨cs,h1,h2⟩:=h.fr t;exact⟨cs,h1,h2⟩
 |const v=>obtain⟨cs,h1,h2⟩:=cC (B++Al φ σ) w v;exact⟨cs,h1,h2⟩
 |«global» g=>obtain⟨cs,h1,h2⟩:=VL (g:=g) (λp hp=>(h.mem.glob p hp).1);exact⟨cs,h1,h2⟩
 |func f=>exact⟨[.func (.func f) #[] #[]],by simp[ev,A7,RepC,Am],by simp[ev,BR,Ft,Act.eval]⟩
theorem Po(h:Models C B S w0 n fr σ η φ a w):∀xs:List Operand,∃css,A9 η (B3 σ) (B++Al φ σ) w (fC C.Γ fr xs) css/\xs.map a.eval=List.zipWith BR (fC C.Γ fr xs) css
 |[]=>⟨[],by simp[fC,A9],by simp[fC]⟩
 |
  x::xs=>by
  obtain⟨cs,h1,h2⟩:=Be h x
  obtain⟨css,h3,h4⟩:=Po h xs
  exact⟨cs::css,⟨cs,css,rfl,h1,h3⟩,by simp[fC,h2,h4]⟩
theorem Models.put(h:Models C B S w0 n fr σ η φ a w) {t:Option Nat}(ht:Dv t n=true) {d:Dat} {v:Value}(hd:RD B σ η φ w d v):Models C B S w0 n (C4 t d fr) σ η φ (a.put t v) w:=by
 obtain⟨cs,h1,h2⟩:=hd
 cases t with
 |none=>exact h
 |
  some t=>
  have:t<a.tmps.size:=by rw[h.size];simpa[Dv,Nat.blt_eq]using ht
  exact⟨h.mem,h.fr.put this h1 h2,h.defers,by simp[Act.put,h.size]⟩
theorem RD.d {x:Da} {v:Value}(h:RD B σ η φ w (.d x) v):Rep (B++Al φ σ) w x v:=h
theorem CO {kd:Nat} {o:Oper} {K:Fr->Sg->Prop}(hk:kd≠5)(hk2:kd≠2)(h:∀(B S:List Nat) (w0:World) (η:Nat->Value) (φ:Nat->List Nat) (a:Act) (w:World),Models C B S w0 n fr σ η φ a w->
  (kd=0->Bo a o=true)/\((∃v w',(execOp a.eval o).run C.P w=.ok (.value v) w'/\Hn C B S w0 n K (a.put o.dst v) w')\/(∃w',(execOp a.eval o).run C.P w=.ok .skip w'/\Hn C B S w0 n K (a.put o.dst Go.undef) w'))):Bd C n kd o K fr σ:=by
 unfold Bd
 intro B S w0 η φ a w hm
 obtain⟨h0,h1⟩:=h B S w0 η φ a w hm
 have hw:o.wp C.P a w (Hn C B S w0 n K) No:=by
  rcases h1 with⟨v,w',hr,hg⟩|⟨w',hr,hg⟩
  ·exact SQ hr hg
  ·exact fH hr hg
 split
 ·exact⟨h0 rfl,hw⟩
 ·exact absurd rfl hk
 ·exact absurd rfl hk2
 ·exact hw
theorem QA {K:Fr->Sg->Prop} {o:Oper}(h:Models C B S w0 n fr σ η φ a w)(ht:Dv o.dst n=true) {d:Dat} {v:Value}(hd:RD B σ η φ w d v)(hK:K (C4 o.dst d fr) σ):Hn C B S w0 n K (a.put o.dst v) w:=
 ⟨_,σ,η,φ,h.put ht hd,hK⟩
end
end Go.Sx
namespace Go.Sx
open Go Go.RowKit Go.Reg
section
variable {C:Cx} {T:FF} {B S:List Nat} {w0 w:World} {n:Nat} {fr:Fr} {σ:Sg} {η:Nat->Value} {φ:Nat->List Nat} {a:Act} {v vx vy:Value} {no:Prop}
theorem RD.int {k:IntKind} {m:Int}(h:RD B σ η φ w (.d (.int k m)) v):v=.int k m:=by
 obtain⟨cs,h1,h2⟩:=h;simp only[A7,RepC]at h1;subst h1;exact h2
theorem RD.bool {b:Bool}(h:RD B σ η φ w (.d (.bool b)) v):v=.bool b:=by
 obtain⟨cs,h1,h2⟩:=h;simp only[A7,RepC]at h1;subst h1;exact h2
theorem RD.prop {p:Prop} {i:Decidable p}(h:RD B σ η φ w (.d (.prop p i)) v):v=.bool (decide p):=by
 obtain⟨cs,h1,h2⟩:=h;simp only[A7,RepC]at h1;subst h1;exact h2
theorem RD.str {s:ByteArray}(h:RD B σ η φ w (.d (.str s)) v):v=.string s:=by
 obtain⟨cs,h1,h2⟩:=h;simp only[A7,RepC]at h1;subst h1;exact h2
theorem RD.nilp(h:RD B σ η φ w (.d .nilp) v):v=.pointer none:=by
 obtain⟨cs,h1,h2⟩:=h;simp only[A7,RepC]at h1;subst h1;exact h2
theorem RD.nils(h:RD B σ η φ w (.d .nils) v):v=.slice none 0 0:=by
 obtain⟨cs,h1,h2⟩:=h;simp only[A7,RepC]at h1;subst h1;exact h2
theorem RD.nilm(h:RD B σ η φ w (.d .nilm) v):v=.map none:=by
 obtain⟨cs,h1,h2⟩:=h;simp only[A7,RepC]at h1;subst h1;exact h2
theorem RD.nilf(h:RD B σ η φ w (.d .nilf) v):v=.nilFunc:=by
 obtain⟨cs,h1,h2⟩:=h;simp only[A7,RepC]at h1;subst h1;exact h2
theorem RD.nili(h:RD B σ η φ w (.d .nili) v):v=.nilIface:=by
 obtain⟨cs,h1,h2⟩:=h;simp only[A7,RepC]at h1;subst h1;exact h2
theorem EA(k:IntKind)(m:Int):RD B σ η φ w (.d (.int k m)) (.int k m):=⟨[_],by simp[A7,RepC],rfl⟩
theorem Kp(b:Bool):RD B σ η φ w (.d (.bool b)) (.bool b):=⟨[_],by simp[A7,RepC],rfl⟩
theorem ES(p:Prop)(i:Decidable p):RD B σ η φ w (.d (.prop p i)) (.bool (decide p)):=⟨[_],by simp[A7,RepC],rfl⟩
theorem sE(s:ByteArray):RD B σ η φ w (.d (.str s)) (.string s):=⟨[_],by simp[A7,RepC],rfl⟩
def WJ(P:Program)(op:BinOp)(t:TypeId)(vx vy:Value)(w:World)(B:List Nat)(σ:Sg)(η:Nat->Value)(φ:Nat->List Nat)(K:Dat->Prop):Prop:=
 ∃d v,K d/\(binOp op t vx vy).run P w=.ok v w/\RD B σ η φ w d v
theorem Ta(s t:ByteArray):(s.toList==t.toList)=decide (s=t):=by
 by_cases h:s=t
 ·subst h;simp
 ·have:s.toList≠t.toList:=λe=>h (by
   rw[ByteArray.toList_eq,ByteArray.toList_eq]at e
   cases s;cases t;simp at e;simp[e])
  simp[h,this]
theorem gB {P:Program} {op:BinOp} {t:TypeId} {k:IntKind} {x y:Int} {K:Dat->Prop}(h:gC op k x y K no):no\/(WJ P op t (.int k x) (.int k y) w B σ η φ K/\jO op=true):=by
 unfold gC at h
 split at h
 ·obtain⟨m,h1,h2⟩:=h;exact .inr ⟨⟨_,_,h2,by simp[binOp_add,Op.intArith,h1],EA k m⟩,rfl⟩
 ·obtain⟨m,h1,h2⟩:=h;exact .inr ⟨⟨_,_,h2,by simp[binOp_sub,Op.intArith,h1],EA k m⟩,rfl⟩
 ·obtain⟨m,h1,h2⟩:=h;exact .inr ⟨⟨_,_,h2,by simp[binOp_mul,Op.intArith,h1],EA k m⟩,rfl⟩
 ·obtain⟨h0,m,h1,h2⟩:=h;exact .inr ⟨⟨_,_,h2,by simp[binOp_quo,Op.intDiv,h0,h1],EA k m⟩,rfl⟩
 ·obtain⟨h0,h2⟩:=h;exact .inr ⟨⟨_,_,h2,by simp[binOp_rem,Op.intDiv,h0],EA k _⟩,rfl⟩
 ·exact .inr ⟨⟨_,_,h,by simp only[binOp_eql,Bb];rfl,ES _ _⟩,rfl⟩
 ·exact .inr ⟨⟨_,_,h,by simp only[binOp_neq,Bb];congr 2;by_cases e:x=y<;>simp[bne,e],ES _ _⟩,rfl⟩
 ·exact .inr ⟨⟨_,_,h,by simp only[binOp_lss,Bb],ES _ _⟩,rfl⟩
 ·exact .inr ⟨⟨_,_,h,by simp only[binOp_leq,Bb],ES _ _⟩,rfl⟩
 ·exact .inr ⟨⟨_,_,h,by simp only[binOp_gtr,Bb],ES _ _⟩,rfl⟩
 ·exact .inr ⟨⟨_,_,h,by simp only[binOp_geq,Bb],ES _ _⟩,rfl⟩
 ·exact .inl h
theorem fU {P:Program} {op:BinOp} {t:TypeId} {x y:ByteArray} {K:Dat->Prop}(h:fV op x y K no):no\/WJ P op t (.string x) (.string y) w B σ η φ K:=by
 unfold fV at h
 split at h
 ·exact .inr ⟨_,_,h,by rw[binOp_string_eql,Ta];rfl,ES _ _⟩
 ·exact .inr ⟨_,_,h,by rw[binOp_string_neq,Ta];simp only[Bb];congr 2;simp,ES _ _⟩
 ·obtain⟨h1,h2⟩:=h;exact .inr ⟨_,_,h2,by rw[binOp_string_add];exact run_string_add_sum _ _ _ h1,sE _⟩
 ·exact .inl h
theorem IA {P:Program} {op:BinOp} {t:TypeId} {x y:Bool} {p q:Prop} {ip:Decidable p} {iq:Decidable q}(hp:x=decide p)(hq:y=decide q)(ht:P.underlying t=some .bool) {K:Dat->Prop}(h:Kk op p q K no):no\/(WJ P op t (.bool x) (.bool y) w B σ η φ K/\KB op=true):=by
 subst hp;subst hq
 unfold Kk at h
 split at h
 ·refine .inr ⟨⟨_,_,h,?_,ES _ _⟩,rfl⟩
  simp only[binOp,A6,run_equal_bool w t _ _ ht,A3,Bb]
  congr 2
  by_cases h1:p<;>by_cases h2:q<;>simp[h1,h2]
 ·refine .inr ⟨⟨_,_,h,?_,ES _ _⟩,rfl⟩
  simp only[binOp,A6,run_equal_bool w t _ _ ht,A3,Bb]
  congr 2
  by_cases h1:p<;>by_cases h2:q<;>simp[h1,h2]
 ·exact .inl h
theorem TyOk.kd_desc {P:Program} {t:TypeId} {e:TyI}(h:TyOk P t e):∃d,P.underlying t=some d/\e.kd=(match d with|.pointer _=>1|.slice _=>2|.map _ _=>3|.func _ _ _=>4|.interface _=>5|.struct _=>6|.string=>7|.int _=>8|.bool=>9|_=>0):=by
 obtain⟨d,h1,_,_,_,_,_,_,h2⟩:=h.desc
 exact⟨d,h1,h2⟩
theorem TyOk.bool_desc {P:Program} {t:TypeId} {e:TyI}(h:TyOk P t e)(hk:e.kd=9):P.underlying t=some .bool:=by
 obtain⟨d,h1,h2⟩:=h.kd_desc
 rw[hk]at h2
 cases d<;>first|exact h1|(simp at h2;done)
def DO:Nat->Value->Prop
 |1,v=>v=.pointer none
 |2,v=>v=.slice none 0 0
 |3,v=>v=.map none
 |4,v=>v=.nilFunc
 |5,v=>v=.nilIface
 |_,_=>False
def DZ:Nat->Value->Prop
 |1,v=>∃a,v=.pointer (some a)
 |2,v=>∃a l c,v=.slice (some a) l c
 |3,v=>∃a,v=.map (some a)
 |4,v=>∃f p q,v=.func f p q
 |5,v=>∃t u,v=.iface t u
 |_,_=>False
theorem O1 {kd:Nat} {y:Dat}(h:Q2 kd y=true)(hy:RD B σ η φ w y vy):DO kd vy:=by
 unfold Q2 at h
 split at h
 ·exact hy.nilp
 ·exact hy.nils
 ·exact hy.nilm
 ·exact hy.nilf
 ·exact hy.nili
 ·cases h
theorem Dj(hm:Mem C B S w0 σ η φ w) {i:Nat} {t:TypeId} {ds:List Dat}(h:BP i σ=some (.cells t ds)):∃b cs,η i=.pointer (some ⟨b,0,none⟩)/\φ i=[b]/\Hk w b t cs/\Bc η (B3 σ) (B++Al φ σ) w ds cs:=by
 obtain⟨b,cs,h1,h2,h3,h4⟩:=hm.own _ (Bm h)
 exact⟨b,cs,h1,h2,h3,h4⟩
theorem B8(hm:Mem C B S w0 σ η φ w) {i:Nat} {E k:Nat} {ds:List Da}(h:BP i σ=some (.slice E k ds)):∃css,Sl E k id w (η i) css/\φ i=(η i).ownBlock.toList/\Am (B++Al φ σ) w ds css/\(∀x∈css,Ec k x):=by
 obtain⟨css,h1,h2,h3,h4⟩:=hm.own _ (Bm h)
 exact⟨css,h1,h2,h3,h4⟩
theorem CL {O:List Nat} {w:World}:∀{ds:List Da} {css:List (List Value)},Am O w ds css->css.length=ds.length
 |[],css,h=>by simp only[Am]at h;subst h;rfl
 |
  d::ds,css,h=>by
  simp only[Am]at h
  obtain⟨c1,c2,rfl,_,h3⟩:=h
  simp[CL h3]
theorem Vm(hm:Mem C B S w0 σ η φ w) {kd:Nat} {x:Dat} {b:Bool}(h:jQ kd x σ=some b)(hx:RD B σ η φ w x vx):(b=true/\DO kd vx)\/(b=false/\DZ kd vx):=by
 unfold jQ at h
 split at h
 ·split at h
  ·simp at h;exact .inl ⟨h,hx.nilp⟩
  ·simp at h
   obtain⟨cs,h1,h2⟩:=hx
   simp only[A7,RepC]at h1
   obtain⟨bb,o,c,rfl,_⟩:=h1
   exact .inr ⟨h,_,h2⟩
  ·simp at h
   obtain⟨cs,h1,h2⟩:=hx
   simp only[A7]at h1
   obtain⟨_,bb,_,rfl⟩:=h1
   exact .inr ⟨h,_,h2⟩
  ·simp at h
   obtain⟨cs,h1,h2⟩:=hx
   simp only[A7]at h1
   obtain⟨_,bb,l,c,_,rfl⟩:=h1
   exact .inr ⟨h,_,h2⟩
  ·split at h
   ·rename_i hg
    simp at h
    obtain⟨bb,cs,h1,_⟩:=Dj hm hg
    obtain⟨cs',h3,h4⟩:=hx
    simp only[A7]at h3
    obtain⟨_,rfl⟩:=h3
    refine .inr ⟨h,_,h4.trans h1⟩
   ·cases h
  ·cases h
 ·split at h
  ·simp at h;exact .inl ⟨h,hx.nils⟩
  ·simp at h
   obtain⟨cs,h1,h2⟩:=hx
   simp only[A7,RepC]at h1
   obtain⟨aa,c,css,rfl,_,_,_,_,h6⟩:=h1
   rcases h6 with h6|⟨b,o,rfl,_⟩
   ·cases h6
   ·exact .inr ⟨h,_,_,_,h2⟩
  ·split at h
   ·rename_i hg
    simp at h
    obtain⟨css,hs,_,hr,_⟩:=B8 hm hg
    obtain⟨cs',h3,h4⟩:=hx
    simp only[A7]at h3
    obtain⟨_,rfl⟩:=h3
    have hl:=CL hr
    rcases hs.shape with⟨_,he⟩|⟨g,cap,he,_⟩
    ·rw[he]at hl;simp at hl
    ·exact .inr ⟨h,_,_,_,h4.trans he⟩
   ·cases h
  ·cases h
 ·split at h
  ·simp at h;exact .inl ⟨h,hx.nilm⟩
  ·cases h
 ·split at h
  ·simp at h;exact .inl ⟨h,hx.nilf⟩
  ·simp at h
   obtain⟨cs,h1,h2⟩:=hx
   simp only[A7,RepC]at h1
   obtain⟨fs,c,_,_,rfl⟩:=h1
   exact .inr ⟨h,_,_,_,h2⟩
  ·simp at h
   obtain⟨cs,h1,h2⟩:=hx
   simp only[A7]at h1
   obtain⟨fs,c,_,_,rfl⟩:=h1
   exact .inr ⟨h,_,_,_,h2⟩
  ·cases h
 ·split at h
  ·simp at h;exact .inl ⟨h,hx.nili⟩
  ·simp at h
   obtain⟨cs,h1,h2⟩:=hx
   simp only[A7,RepC]at h1
   obtain⟨c,_,rfl⟩:=h1
   exact .inr ⟨h,_,_,h2⟩
  ·simp at h
   obtain⟨cs,h1,h2⟩:=hx
   simp only[A7]at h1
   obtain⟨c,_,rfl⟩:=h1
   exact .inr ⟨h,_,_,h2⟩
  ·cases h
 ·cases h
theorem S6 {P:Program} {t:TypeId} {e:TyI}(ht:TyOk P t e) {b:Bool}(hx:(b=true/\DO e.kd vx)\/(b=false/\DZ e.kd vx))(hy:DO e.kd vy):(Op.equal t vx vy).run P w=.ok b w:=by
 obtain⟨d,h1,h2⟩:=ht.kd_desc
 unfold Op.equal
 rw[show Op.maxDepth=9999+1 from rfl,Op.equalIn]
 simp only[A6,run_underlying h1,A3]
 rcases hx with⟨rfl,hx⟩|⟨rfl,hx⟩
 ·cases d<;>simp only at h2<;>rw[h2]at hx hy<;>simp only[DO]at hx hy<;>subst hx<;>subst hy<;>rfl
 ·cases d<;>simp only at h2<;>rw[h2]at hx hy<;>simp only[DO,DZ]at hx hy<;>subst hy<;>(first|(obtain⟨_,rfl⟩:=hx;rfl)|(obtain⟨_,_,rfl⟩:=hx;rfl)|(obtain⟨_,_,_,rfl⟩:=hx;rfl))
theorem fX(hm:Mem C B S w0 σ η φ w) {t:TypeId} {e:TyI}(ht:TyOk C.P t e) {op:BinOp} {x y:Dat}(hx:RD B σ η φ w x vx)(hy:RD B σ η φ w y vy) {K:Dat->Prop}(h:fY e.kd op x y σ K no):
  no\/(WJ C.P op t vx vy w B σ η φ K/\KB op=true/\(DO e.kd vx\/DZ e.kd vx)/\DO e.kd vy):=by
 unfold fY at h
 split at h
 ·rename_i h1 h2
  have g1:=O1 h1 hy
  have g2:=Vm hm h2 hx
  have g3:=S6 (w:=w) ht g2 g1
  refine .inr ⟨⟨_,_,h,?_,Kp _⟩,rfl,g2.elim (λh=>.inl h.2) (λh=>.inr h.2),g1⟩
  have:binOp .eql t vx vy=(do pure (.bool (<-Op.equal t vx vy))):=by
   generalize e.kd=kd at g1 g2
   match kd,g1 with
   |1,h=>simp only[DO]at h;subst h;rcases g2 with⟨_,g⟩|⟨_,g⟩<;>simp only[DO,DZ]at g<;>(first|subst g|(obtain⟨_,rfl⟩:=g))<;>rfl
   |2,h=>simp only[DO]at h;subst h;rcases g2 with⟨_,g⟩|⟨_,g⟩<;>simp only[DO,DZ]at g<;>(first|subst g|(obtain⟨_,_,_,rfl⟩:=g))<;>rfl
   |3,h=>simp only[DO]at h;subst h;rcases g2 with⟨_,g⟩|⟨_,g⟩<;>simp only[DO,DZ]at g<;>(first|subst g|(obtain⟨_,rfl⟩:=g))<;>rfl
   |4,h=>simp only[DO]at h;subst h;rcases g2 with⟨_,g⟩|⟨_,g⟩<;>simp only[DO,DZ]at g<;>(first|subst g|(obtain⟨_,_,_,rfl⟩:=g))<;>rfl
   |5,h=>simp only[DO]at h;subst h;rcases g2 with⟨_,g⟩|⟨_,g⟩<;>simp only[DO,DZ]at g<;>(first|subst g|(obtain⟨_,_,rfl⟩:=g))<;>rfl
  rw[this]
  simp[g3]
 ·rename_i h1 h2
  have g1:=O1 h1 hy
  have g2:=Vm hm h2 hx
  have g3:=S6 (w:=w) ht g2 g1
  refine .inr ⟨⟨_,_,h,?_,Kp _⟩,rfl,g2.elim (λh=>.inl h.2) (λh=>.inr h.2),g1⟩
  have:binOp .neq t vx vy=(do pure (.bool (!(<-Op.equal t vx vy)))):=by
   generalize e.kd=kd at g1 g2
   match kd,g1 with
   |1,h=>simp only[DO]at h;subst h;rcases g2 with⟨_,g⟩|⟨_,g⟩<;>simp only[DO,DZ]at g<;>(first|subst g|(obtain⟨_,rfl⟩:=g))<;>rfl
   |2,h=>simp only[DO]at h;subst h;rcases g2 with⟨_,g⟩|⟨_,g⟩<;>simp only[DO,DZ]at g<;>(first|subst g|(obtain⟨_,_,_,rfl⟩:=g))<;>rfl
   |3,h=>simp only[DO]at h;subst h;rcases g2 with⟨_,g⟩|⟨_,g⟩<;>simp only[DO,DZ]at g<;>(first|subst g|(obtain⟨_,rfl⟩:=g))<;>rfl
   |4,h=>simp only[DO]at h;subst h;rcases g2 with⟨_,g⟩|⟨_,g⟩<;>simp only[DO,DZ]at g<;>(first|subst g|(obtain⟨_,_,_,rfl⟩:=g))<;>rfl
   |5,h=>simp only[DO]at h;subst h;rcases g2 with⟨_,g⟩|⟨_,g⟩<;>simp only[DO,DZ]at g<;>(first|subst g|(obtain⟨_,_,rfl⟩:=g))<;>rfl
  rw[this]
  simp[g3]
 ·exact .inl h
theorem Bt {t:TypeId} {K:TyI->Prop}(h:CC T t no K):no\/∃e,Fz t T=some e/\K e:=by
 unfold CC at h
 split at h
 ·rename_i e he;exact .inr ⟨e,he,h⟩
 ·exact .inl h
theorem AW {α:Type} {o:Option α} {K:α->Prop}(h:CI o no K):no\/∃x,o=some x/\K x:=by
 unfold CI at h
 split at h
 ·rename_i x;exact .inr ⟨x,rfl,h⟩
 ·exact .inl h
theorem AZ {b:Bool} {K:Prop}(h:CJ b no K):no\/(b=true/\K):=by
 cases b
 ·exact .inl h
 ·exact .inr ⟨rfl,h⟩
theorem Y2 {P:Program} {op:BinOp} {t:TypeId} {x y:Operand} {kd:Nat}(hx:DO kd vx\/DZ kd vx)(hy:DO kd vy)(hc:kd=5->y=.const .nilIface):(eqGuard op t x y vx vy).run P w=.ok () w:=by
 match kd,hy with
 |1,h=>simp only[DO,DZ]at h hx;subst h;rcases hx with rfl|⟨_,rfl⟩<;>simp[eqGuard]
 |2,h=>simp only[DO,DZ]at h hx;subst h;rcases hx with rfl|⟨_,_,_,rfl⟩<;>simp[eqGuard]
 |3,h=>simp only[DO,DZ]at h hx;subst h;rcases hx with rfl|⟨_,rfl⟩<;>simp[eqGuard]
 |4,h=>simp only[DO,DZ]at h hx;subst h;rcases hx with rfl|⟨_,_,_,rfl⟩<;>simp[eqGuard]
 |5,h=>simp only[DO,DZ]at h hx;subst h;rw[hc rfl];rcases hx with rfl|⟨_,_,rfl⟩<;>simp[eqGuard]
theorem bQ {op:BinOp} {kd:Nat} {y:Operand}(ho:KB op=true)(hx:DO kd vx\/DZ kd vx)(hy:DO kd vy)(hc:kd=5->y=.const .nilIface):(Ef op vx vy||IM op vx y)=true:=by
 match kd,hy with
 |1,h=>simp only[DO,DZ]at h hx;subst h;rcases hx with rfl|⟨_,rfl⟩<;>simp[Ef,ho]
 |2,h=>simp only[DO,DZ]at h hx;subst h;rcases hx with rfl|⟨_,_,_,rfl⟩<;>simp[Ef,ho]
 |3,h=>simp only[DO,DZ]at h hx;subst h;rcases hx with rfl|⟨_,rfl⟩<;>simp[Ef,ho]
 |4,h=>simp only[DO,DZ]at h hx;subst h;rcases hx with rfl|⟨_,_,_,rfl⟩<;>simp[Ef,ho]
 |5,h=>simp only[DO,DZ]at h hx;subst h;rw[hc rfl];rcases hx with rfl|⟨_,_,rfl⟩<;>simp[Ef,IM,ho]
theorem gD(hC:C.Ok T)(hm:Mem C B S w0 σ η φ w) {op:BinOp} {t:TypeId} {x y:Dat} {yo xo:Operand}(hx:RD B σ η φ w x vx)(hy:RD B σ η φ w y vy) {K:Dat->Prop}(h:gE T t op (T8 yo) x y σ K no):
  no\/(∃d v,K d/\(do eqGuard op t xo yo vx vy;binOp op t vx vy).run C.P w=.ok v w/\RD B σ η φ w d v)/\(Ef op vx vy||IM op vx yo)=true:=by
 have fin:∀{vx vy},WJ C.P op t vx vy w B σ η φ K->(eqGuard op t xo yo vx vy).run C.P w=.ok () w->(Ef op vx vy||IM op vx yo)=true->no\/(∃d v,K d/\(do eqGuard op t xo yo vx vy;binOp op t vx vy).run C.P w=.ok v w/\RD B σ η φ w d v)/\(Ef op vx vy||IM op vx yo)=true:=by
  rintro vx vy ⟨d,v,h1,h2,h3⟩ hg hp
  exact .inr ⟨⟨d,v,h1,by rw[A6,hg];exact h2,h3⟩,hp⟩
 have hb:∀b:Bool,b=decide (b=true):=by simp
 unfold gE at h
 split at h
 ·rcases AZ h with h|⟨hk,h1⟩
  ·exact .inl h
  ·simp at hk;subst hk
   rw[hx.int,hy.int]
   rcases gB (w:=w) (B:=B) (σ:=σ) (η:=η) (φ:=φ) (P:=C.P) (t:=t) h1 with h|⟨h,h2⟩
   ·exact .inl h
   ·exact fin h (by rw[eqGuard_at_int];rfl) (by simp[Ef])
 ·rw[hx.str,hy.str]
  rcases fU (w:=w) (B:=B) (σ:=σ) (η:=η) (φ:=φ) (P:=C.P) (t:=t) h with h|h
  ·exact .inl h
  ·exact fin h (by rw[eqGuard_at_string];rfl) (by simp[Ef])
 ·rcases Bt h with h|⟨e,he,h⟩
  ·exact .inl h
  rcases AZ h with h|⟨hk,h⟩
  ·exact .inl h
  rw[hx.bool,hy.bool]
  rcases IA (w:=w) (B:=B) (σ:=σ) (η:=η) (φ:=φ) (P:=C.P) (t:=t) (hb _) (hb _) ((hC.ty he).bool_desc (Ao hk)) h with h|⟨h,h2⟩
  ·exact .inl h
  ·exact fin h (by rw[eqGuard_at_bool];rfl) (by simp[Ef,h2])
 ·rcases Bt h with h|⟨e,he,h⟩
  ·exact .inl h
  rcases AZ h with h|⟨hk,h⟩
  ·exact .inl h
  rw[hx.bool,hy.prop]
  rcases IA (w:=w) (B:=B) (σ:=σ) (η:=η) (φ:=φ) (P:=C.P) (t:=t) (hb _) rfl ((hC.ty he).bool_desc (Ao hk)) h with h|⟨h,h2⟩
  ·exact .inl h
  ·exact fin h (by rw[eqGuard_at_bool];rfl) (by simp[Ef,h2])
 ·rcases Bt h with h|⟨e,he,h⟩
  ·exact .inl h
  rcases AZ h with h|⟨hk,h⟩
  ·exact .inl h
  rw[hx.prop,hy.bool]
  rcases IA (w:=w) (B:=B) (σ:=σ) (η:=η) (φ:=φ) (P:=C.P) (t:=t) rfl (hb _) ((hC.ty he).bool_desc (Ao hk)) h with h|⟨h,h2⟩
  ·exact .inl h
  ·exact fin h (by rw[eqGuard_at_bool];rfl) (by simp[Ef,h2])
 ·rcases Bt h with h|⟨e,he,h⟩
  ·exact .inl h
  rcases AZ h with h|⟨hk,h⟩
  ·exact .inl h
  rw[hx.prop,hy.prop]
  rcases IA (w:=w) (B:=B) (σ:=σ) (η:=η) (φ:=φ) (P:=C.P) (t:=t) rfl rfl ((hC.ty he).bool_desc (Ao hk)) h with h|⟨h,h2⟩
  ·exact .inl h
  ·exact fin h (by rw[eqGuard_at_bool];rfl) (by simp[Ef,h2])
 ·rcases Bt h with h|⟨e,he,h⟩
  ·exact .inl h
  rcases AZ h with h|⟨hk,h⟩
  ·exact .inl h
  have hc:e.kd=5->yo=.const .nilIface:=λh5=>by
   rw[h5]at hk
   have:T8 yo=true:=by simpa using hk
   unfold T8 at this
   split at this
   ·rfl
   ·cases this
  rcases fX hm (hC.ty he) hx hy h with h|⟨h,h2,h3,h4⟩
  ·exact .inl h
  ·exact fin h (Y2 h3 h4 hc) (bQ h2 h3 h4 hc)
theorem nN {P:Program} {op:UnOp} {x:Dat}(hx:RD B σ η φ w x vx) {K:Dat->Prop}(h:rX op x K no):no\/∃d v,K d/\(Op.unary op vx).run P w=.ok v w/\RD B σ η φ w d v:=by
 unfold rX at h
 split at h
 ·rw[hx.bool];exact .inr ⟨_,_,h,rfl,Kp _⟩
 ·rw[hx.prop];exact .inr ⟨_,_,h,by simp[Op.unary],ES _ _⟩
 ·rw[hx.int];obtain⟨m,h1,h2⟩:=h;exact .inr ⟨_,_,h2,by simp[Op.unary,Op.intArith,h1],EA _ _⟩
 ·exact .inl h
end
end Go.Sx
namespace Go.Sx
open Go Go.RowKit Go.Reg
mutual
theorem E9 {O:List Nat} {w:World}:∀(d:Da) (cs:List Value),RepC O w d cs->cs.length=d.size
 |.agg ds,cs,h=>by simp only[RepC]at h;simp only[Da.size];exact RS ds cs h
 |.undef,cs,h=>by simp only[RepC]at h;obtain⟨v,rfl⟩:=h;rfl
 |.int _ _,cs,h=>by simp only[RepC]at h;subst h;rfl
 |.bool _,cs,h=>by simp only[RepC]at h;subst h;rfl
 |.prop _ _,cs,h=>by simp only[RepC]at h;subst h;rfl
 |.str _,cs,h=>by simp only[RepC]at h;subst h;rfl
 |.tuple _,cs,h=>by simp only[RepC]at h;obtain⟨_,_,rfl⟩:=h;rfl
 |.nilp,cs,h=>by simp only[RepC]at h;subst h;rfl
 |.nils,cs,h=>by simp only[RepC]at h;subst h;rfl
 |.nilm,cs,h=>by simp only[RepC]at h;subst h;rfl
 |.nilf,cs,h=>by simp only[RepC]at h;subst h;rfl
 |.nili,cs,h=>by simp only[RepC]at h;subst h;rfl
 |.iface _ _,cs,h=>by simp only[RepC]at h;obtain⟨_,_,rfl⟩:=h;rfl
 |.ref _,cs,h=>by simp only[RepC]at h;obtain⟨_,_,_,rfl,_⟩:=h;rfl
 |.list _ _,cs,h=>by simp only[RepC]at h;obtain⟨_,_,_,rfl,_⟩:=h;rfl
 |.func _ _ _,cs,h=>by simp only[RepC]at h;obtain⟨_,_,_,_,rfl⟩:=h;rfl
 |.raw _,cs,h=>by simp only[RepC]at h;subst h;rfl
theorem RS {O:List Nat} {w:World}:∀(ds:List Da) (cs:List Value),RepCs O w ds cs->cs.length=Zd ds
 |[],cs,h=>by simp only[RepCs]at h;subst h;rfl
 |
  d::ds,cs,h=>by
  simp only[RepCs]at h
  obtain⟨c1,c2,rfl,h1,h2⟩:=h
  simp only[Ah,Zd,E9 d c1 h1,RS ds c2 h2]
end
mutual
theorem DI {η:Nat->Value} {I O:List Nat} {w:World}:∀(d:Dat) (cs:List Value),A7 η I O w d cs->cs.length=d.size
 |.d x,cs,h=>E9 x cs h
 |.agg ds,cs,h=>by simp only[A7]at h;simp only[Dat.size];exact HV ds cs h
 |.own _,cs,h=>by simp only[A7]at h;obtain⟨_,rfl⟩:=h;rfl
 |.at_ _ _,cs,h=>by simp only[A7]at h;obtain⟨_,_,_,rfl⟩:=h;rfl
 |.el _ _ _ _,cs,h=>by simp only[A7]at h;obtain⟨_,_,_,_,_,rfl⟩:=h;rfl
 |.tuple _,cs,h=>by simp only[A7]at h;obtain⟨_,_,rfl⟩:=h;rfl
 |.iface _ _,cs,h=>by simp only[A7]at h;obtain⟨_,_,rfl⟩:=h;rfl
 |.func _ _ _,cs,h=>by simp only[A7]at h;obtain⟨_,_,_,_,rfl⟩:=h;rfl
theorem HV {η:Nat->Value} {I O:List Nat} {w:World}:∀(ds:List Dat) (cs:List Value),Bc η I O w ds cs->cs.length=KY ds
 |[],cs,h=>by simp only[Bc]at h;subst h;rfl
 |
  d::ds,cs,h=>by
  simp only[Bc]at h
  obtain⟨c1,c2,rfl,h1,h2⟩:=h
  simp only[Ah,KY,DI d c1 h1,HV ds c2 h2]
end
mutual
theorem J2 {O:List Nat} {w:World}:∀(d:Da) (cs:List Value),d.stor=true->RepC O w d cs->∀v∈cs,v.oneCell'=true
 |.agg ds,cs,hs,h=>by simp only[RepC]at h;simp only[Da.stor]at hs;exact RR ds cs hs h
 |.undef,cs,hs,h=>by cases hs
 |.int _ _,cs,hs,h=>by simp only[RepC]at h;subst h;simp[Value.oneCell']
 |.bool _,cs,hs,h=>by simp only[RepC]at h;subst h;simp[Value.oneCell']
 |.prop _ _,cs,hs,h=>by simp only[RepC]at h;subst h;simp[Value.oneCell']
 |.str _,cs,hs,h=>by simp only[RepC]at h;subst h;simp[Value.oneCell']
 |.tuple _,cs,hs,h=>by cases hs
 |.nilp,cs,hs,h=>by simp only[RepC]at h;subst h;simp[Value.oneCell']
 |.nils,cs,hs,h=>by simp only[RepC]at h;subst h;simp[Value.oneCell']
 |.nilm,cs,hs,h=>by simp only[RepC]at h;subst h;simp[Value.oneCell']
 |.nilf,cs,hs,h=>by simp only[RepC]at h;subst h;simp[Value.oneCell']
 |.nili,cs,hs,h=>by simp only[RepC]at h;subst h;simp[Value.oneCell']
 |.iface _ _,cs,hs,h=>by simp only[RepC]at h;obtain⟨_,_,rfl⟩:=h;simp[Value.oneCell']
 |.ref _,cs,hs,h=>by simp only[RepC]at h;obtain⟨_,_,_,rfl,_⟩:=h;simp[Value.oneCell']
 |.list _ _,cs,hs,h=>by simp only[RepC]at h;obtain⟨_,_,_,rfl,_⟩:=h;simp[Value.oneCell']
 |.func _ _ _,cs,hs,h=>by simp only[RepC]at h;obtain⟨_,_,_,_,rfl⟩:=h;simp[Value.oneCell']
 |.raw _,cs,hs,h=>by cases hs
theorem RR {O:List Nat} {w:World}:∀(ds:List Da) (cs:List Value),Za ds=true->RepCs O w ds cs->∀v∈cs,v.oneCell'=true
 |[],cs,hs,h=>by simp only[RepCs]at h;subst h;simp
 |
  d::ds,cs,hs,h=>by
  simp only[RepCs]at h
  obtain⟨c1,c2,rfl,h1,h2⟩:=h
  simp only[Za,Ai]at hs
  intro v hv
  rcases Ag.1 hv with hv|hv
  ·exact J2 d c1 hs.1 h1 v hv
  ·exact RR ds c2 hs.2 h2 v hv
end
def lX(η:Nat->Value)(I:List Nat):Prop:=∀i∈I,(η i).oneCell'=true
mutual
theorem LQ {η:Nat->Value} {I O:List Nat} {w:World}(hη:lX η I):∀(d:Dat) (cs:List Value),d.stor=true->A7 η I O w d cs->∀v∈cs,v.oneCell'=true
 |.d x,cs,hs,h=>J2 x cs hs h
 |.agg ds,cs,hs,h=>by simp only[A7]at h;simp only[Dat.stor]at hs;exact RQ hη ds cs hs h
 |.own i,cs,hs,h=>by simp only[A7]at h;obtain⟨h1,rfl⟩:=h;simpa using hη i h1
 |.at_ _ _,cs,hs,h=>by simp only[A7]at h;obtain⟨_,_,_,rfl⟩:=h;simp[Value.oneCell']
 |.el _ _ _ _,cs,hs,h=>by simp only[A7]at h;obtain⟨_,_,_,_,_,rfl⟩:=h;simp[Value.oneCell']
 |.tuple _,cs,hs,h=>by cases hs
 |.iface _ _,cs,hs,h=>by simp only[A7]at h;obtain⟨_,_,rfl⟩:=h;simp[Value.oneCell']
 |.func _ _ _,cs,hs,h=>by simp only[A7]at h;obtain⟨_,_,_,_,rfl⟩:=h;simp[Value.oneCell']
theorem RQ {η:Nat->Value} {I O:List Nat} {w:World}(hη:lX η I):∀(ds:List Dat) (cs:List Value),Tb ds=true->Bc η I O w ds cs->∀v∈cs,v.oneCell'=true
 |[],cs,hs,h=>by simp only[Bc]at h;subst h;simp
 |
  d::ds,cs,hs,h=>by
  simp only[Bc]at h
  obtain⟨c1,c2,rfl,h1,h2⟩:=h
  simp only[Tb,Ai]at hs
  intro v hv
  rcases Ag.1 hv with hv|hv
  ·exact LQ hη d c1 hs.1 h1 v hv
  ·exact RQ hη ds c2 hs.2 h2 v hv
end
theorem aC {O:List Nat} {w:World} {d:Da} {cs:List Value}(h:RepC O w d cs)(hs:d.stor=true):(Ft d cs).cells.toList=cs/\(d.isAgg=false->cs=[Ft d cs]):=by
 have hl:=E9 d cs h
 have ho:=J2 d cs hs h
 cases d with
 |agg ds=>exact⟨by simp[Ft,Value.cells],λh=>by cases h⟩
 |
  _=>
  all_goals
   simp only[Da.size]at hl
   obtain⟨v,rfl⟩:=Ch.1 hl
   have:=ho v (by simp)
   refine⟨?_,λ_=>rfl⟩
   simp only[Ft,mX]
   cases v<;>simp[Value.oneCell']at this<;>rfl
theorem I8 {η:Nat->Value} {I O:List Nat} {w:World} {d:Dat} {cs:List Value}(hη:lX η I)(h:A7 η I O w d cs)(hs:d.stor=true):(BR d cs).cells.toList=cs/\(d.isAgg=false->cs=[BR d cs]):=by
 have hl:=DI d cs h
 have ho:=LQ hη d cs hs h
 cases d with
 |d x=>exact aC h hs
 |agg ds=>exact⟨by simp[BR,Value.cells],λh=>by cases h⟩
 |
  _=>
  all_goals
   simp only[Dat.size]at hl
   obtain⟨v,rfl⟩:=Ch.1 hl
   have:=ho v (by simp)
   refine⟨?_,λ_=>rfl⟩
   simp only[BR,mX]
   cases v<;>simp[Value.oneCell']at this<;>rfl
theorem Jv {P:Program} {t:TypeId} {e:TyI}(h:TyOk P t e) {w:World} {b o:Nat} {cs:List Value}(hc:En w b o cs)(hl:cs.length=e.size)(hs:e.agg=false->e.size=1):
  (loadVar t ⟨b,o,none⟩).run P w=.ok (if e.agg then .agg cs.toArray else cs.headD undef) w:=by
 unfold loadVar
 simp only[A6,h.isAgg,A3]
 cases ha:e.agg
 ·have h1:=hs ha
  rw[h1]at hl
  obtain⟨v,rfl⟩:=Ch.1 hl
  have h2:w.cell? ⟨b,o,none⟩=some v:=hc 0 v rfl
  simp[h2]
 ·have:=run_loadCells_list (P:=P) w ⟨b,o,none⟩ cs (λj v hj=>by
   have:=hc j v hj
   by_cases hj0:j=0
   ·subst hj0;exact this
   ·simpa[Addr.add,hj0]using this)
  rw[hl]at this
  simp only[if_true,A6,h.sizeOf,A3,this,Bb]
theorem IW {d:Dat} {e:TyI}(h:d.fits e=true):d.isAgg=e.agg/\d.size=e.size:=by
 simp only[Dat.fits,Ai,beq_iff_eq]at h
 exact⟨h.1,Ao h.2⟩
theorem gK {d:Da}(h:d.isAgg=false):d.size=1:=by
 cases d<;>first|rfl|cases h
theorem MQ {d:Dat}(h:d.isAgg=false):d.size=1:=by
 cases d with
 |d x=>exact gK h
 |agg ds=>cases h
 |_=>rfl
theorem G8 {d:Dat} {cs:List Value}:BR d cs=if d.isAgg then .agg cs.toArray else cs.headD undef:=by
 cases d with
 |d x=>cases x<;>rfl
 |_=>rfl
theorem Fu {η:Nat->Value} {I O:List Nat} {w:World}:∀{xs:List Da} {cs:List Value},Bc η I O w (BO xs) cs↔RepCs O w xs cs
 |[],cs=>by simp[BO,Bc,RepCs]
 |x::xs,cs=>by simp only[BO,Bc,RepCs,A7,Fu (xs:=xs)]
theorem Ib {η:Nat->Value} {I O:List Nat} {w:World} {d:Dat} {es:List Dat} {cs:List Value}(h:d.parts=some es)(hd:A7 η I O w d cs):Bc η I O w es cs/\d.isAgg=true:=by
 unfold Dat.parts at h
 split at h
 ·simp at h;subst h;exact⟨Fu.2 (by simpa only[A7,RepC]using hd),rfl⟩
 ·simp at h;subst h;exact⟨by simpa only[A7]using hd,rfl⟩
 ·cases h
theorem Ih {η:Nat->Value} {I O:List Nat} {w:World} {e:TyI}:∀(f:Nat) (ds:List Dat) (o:Nat) {d:Dat} {cs:List Value},zI e f ds o=some d->Bc η I O w ds cs->d.fits e=true/\∃c,A7 η I O w d c/\∀(j:Nat) (u:Value),c[j]? =some u->cs[o+j]? =some u
 |0,_,_,_,_,h,_=>by simp[zI]at h
 |f+1,[],_,_,_,h,_=>by simp[zI]at h
 |
  f+1,d::ds,o,x,cs,h,hr=>by
  simp only[Bc]at hr
  obtain⟨c1,c2,rfl,h1,h2⟩:=hr
  have hl:=DI d c1 h1
  simp only[zI]at h
  split at h
  ·rename_i hb
   have hlt:¬o<d.size:=by
    intro hh;rw[(by simpa[Nat.blt_eq]using hh:Nat.blt o d.size=true)]at hb;cases hb
   obtain⟨g1,c,g2,g3⟩:=Ih f ds _ h h2
   refine⟨g1,c,g2,λj u hj=>?_⟩
   rw[Cm (by omega),hl]
   have:=g3 j u hj
   rwa [show o+j-d.size=o-d.size+j by omega]
  ·split at h
   ·rename_i hb2
    simp only[Ai]at hb2
    have h0:=Ao hb2.1
    simp at h;subst h;subst h0
    exact⟨hb2.2,c1,h1,λj u hj=>by rw[BC (by have:=(Ae.1 hj).1;omega),EL];exact hj⟩
   ·split at h
    ·rename_i es hp
     obtain⟨g1,c,g2,g3⟩:=Ih f es o h (Ib hp h1).1
     refine⟨g1,c,g2,λj u hj=>?_⟩
     have:=g3 j u hj
     rw[BC (Ae.1 this).1]
     exact this
    ·cases h
def splice(cs:List Value)(o:Nat)(x:List Value):List Value:=cs.take o++x++cs.drop (o+x.length)
theorem Js {c1 c2 x:List Value} {o:Nat}(h:o+x.length<=c1.length):splice (c1++c2) o x=splice c1 o x++c2:=by
 unfold splice
 rw[Bg (by omega),List.drop_append_of_le_length h]
 simp
theorem Ed {c1 c2 x:List Value} {o:Nat}(h:c1.length<=o):splice (c1++c2) o x=c1++splice c2 (o-c1.length) x:=by
 unfold splice
 rw[List.take_append,eZ,Ak (by omega),Gv (by omega:c1.length<=o+x.length),show o+x.length-c1.length=o-c1.length+x.length by omega]
 simp
theorem J4 {η:Nat->Value} {I O:List Nat} {w:World} {x:Dat} {cx:List Value}(hx:A7 η I O w x cx):∀(f:Nat) (ds:List Dat) (o:Nat) {ds':List Dat} {cs:List Value},LT x f ds o=some ds'->Bc η I O w ds cs->Bc η I O w ds' (splice cs o cx)/\o+cx.length<=cs.length
 |0,_,_,_,_,h,_=>by simp[LT]at h
 |f+1,[],_,_,_,h,_=>by simp[LT]at h
 |
  f+1,d::ds,o,ds',cs,h,hr=>by
  simp only[Bc]at hr
  obtain⟨c1,c2,rfl,h1,h2⟩:=hr
  have hl:=DI d c1 h1
  have hlx:=DI x cx hx
  simp only[LT]at h
  split at h
  ·rename_i hb
   have hlt:¬o<d.size:=by
    intro hh;rw[(by simpa[Nat.blt_eq]using hh:Nat.blt o d.size=true)]at hb;cases hb
   unfold qS at h
   split at h
   ·rename_i l hp
    simp at h;subst h
    obtain⟨g1,g2⟩:=J4 hx f ds _ hp h2
    rw[Ed (by omega),hl]
    refine⟨?_,by simp;omega⟩
    simp only[Bc]
    exact⟨c1,_,rfl,h1,g1⟩
   ·cases h
  ·split at h
   ·rename_i hb2
    simp only[Ai,beq_iff_eq]at hb2
    obtain⟨⟨h0,_⟩,h3⟩:=hb2
    have h0:=Ao h0
    have h3:=Ao h3
    simp at h;subst h;subst h0
    have:splice (c1++c2) 0 cx=cx++c2:=by
     unfold splice
     rw[eZ,Gv (by omega)]
     simp
     rw[show cx.length-c1.length=0 by omega];rfl
    rw[this]
    refine⟨?_,by simp;omega⟩
    simp only[Bc]
    exact⟨cx,c2,rfl,hx,h2⟩
   ·split at h
    ·rename_i es hp
     unfold vC at h
     split at h
     ·rename_i l hp2
      simp at h;subst h
      obtain⟨g1,g2⟩:=J4 hx f es o hp2 (Ib hp h1).1
      rw[Js (by omega)]
      refine⟨?_,by simp;omega⟩
      simp only[Bc,A7]
      exact⟨_,c2,rfl,g1,h2⟩
     ·cases h
    ·cases h
theorem Hk.splice {P:Program} {w:World} {b:Nat} {T:TypeId} {cs x:List Value} {o:Nat}(h:Hk w b T cs)(hl:o+x.length<=cs.length)(h1:∀v∈x,v.oneCell'=true):
  ∃w',(storeCells ⟨b,o,none⟩ x).run P w=.ok () w'/\Hk w' b T (splice cs o x)/\Tch [b] w w':=by
 have:=run_storeCells_at P b o T x 0 cs.toArray w h (by simpa using hl) h1
 refine⟨_,this,?_,?_⟩
 ·have e:=setRow_heap w b cs.toArray (cs.toArray.toList.take (o+0)++x++cs.toArray.toList.drop (o+0+x.length)).toArray T (0,0) h
  unfold Hk;rw[e];simp[Sx.splice]
 ·exact⟨rfl,rfl,rfl,by simp[World.setRow],λk hk hn=>by
   have:b≠k:=λe=>hn (by simp[e])
   simp[World.setRow,Cp,this]⟩
end Go.Sx
namespace Go.Sx
open Go Go.RowKit Go.Reg
theorem Ko {O:List Nat} {w:World}:∀{ds:List Da} {css:List (List Value)},Am O w ds css->∀{n:Nat} {d:Da},ds[n]? =some d->∃c,css[n]? =some c/\RepC O w d c
 |[],css,h,n,d,hn=>by simp at hn
 |
  x::ds,css,h,n,d,hn=>by
  simp only[Am]at h
  obtain⟨c1,c2,rfl,h1,h2⟩:=h
  cases n with
  |zero=>simp at hn;subst hn;exact⟨c1,rfl,h1⟩
  |succ n=>exact Ko h2 (by simpa using hn)
theorem HE {O:List Nat} {w:World}:∀{ds es:List Da} {css css2:List (List Value)},Am O w ds css->Am O w es css2->Am O w (ds++es) (css++css2)
 |[],es,css,css2,h,h2=>by simp only[Am]at h;subst h;simpa using h2
 |
  x::ds,es,css,css2,h,h2=>by
  simp only[Am]at h
  obtain⟨c1,c2,rfl,h1,h3⟩:=h
  exact⟨c1,c2++css2,rfl,h1,HE h3 h2⟩
theorem PT {O:List Nat} {w:World}:∀{ds:List Da} {css:List (List Value)},Am O w ds css->∀(n:Nat) {d:Da} {c:List Value},RepC O w d c->Am O w (ds.set n d) (css.set n c)
 |[],css,h,n,d,c,hc=>by simp only[Am]at h;subst h;simp[Am]
 |
  x::ds,css,h,n,d,c,hc=>by
  simp only[Am]at h
  obtain⟨c1,c2,rfl,h1,h2⟩:=h
  cases n with
  |zero=>exact⟨c,c2,rfl,hc,h2⟩
  |succ n=>exact⟨c1,c2.set n c,rfl,h1,PT h2 n hc⟩
theorem J1 {O:List Nat} {w:World}:∀{ds:List Da} {css:List (List Value)},Am O w ds css->∀n,Am O w (ds.take n) (css.take n)
 |[],css,h,n=>by simp only[Am]at h;subst h;simp[Am]
 |
  x::ds,css,h,n=>by
  simp only[Am]at h
  obtain⟨c1,c2,rfl,h1,h2⟩:=h
  cases n with
  |zero=>simp[Am]
  |succ n=>exact⟨c1,c2.take n,rfl,h1,J1 h2 n⟩
theorem Ol {O:List Nat} {w:World}:∀{ds:List Da} {css:List (List Value)},Am O w ds css->∀n,Am O w (ds.drop n) (css.drop n)
 |[],css,h,n=>by simp only[Am]at h;subst h;simp[Am]
 |
  x::ds,css,h,n=>by
  simp only[Am]at h
  obtain⟨c1,c2,rfl,h1,h2⟩:=h
  cases n with
  |zero=>exact⟨c1,c2,rfl,h1,h2⟩
  |succ n=>exact Ol h2 n
theorem QE {k:Nat}:∀{css:List (List Value)},(∀x∈css,x.length=k)->∀{n:Nat} {c:List Value},css[n]? =some c->∀{j:Nat} {u:Value},c[j]? =some u->css.flatten[n*k+j]? =some u
 |[],h,n,c,hn,j,u,hj=>by simp at hn
 |
  x::css,h,n,c,hn,j,u,hj=>by
  have hx:=h x (by simp)
  cases n with
  |
   zero=>
   simp at hn;subst hn
   have:=(Ae.1 hj).1
   simp only[CG,Nat.zero_mul,EL]
   rw[BC (by omega)];exact hj
  |
   succ n=>
   simp only[CG]
   rw[Cm (by rw[hx,C0];omega),hx,show(n+1)*k+j-k=n*k+j by rw[C0];omega]
   exact QE (λy hy=>h y (by simp[hy])) (by simpa using hn) hj
theorem Is {k:Nat}:∀{css:List (List Value)},(∀x∈css,x.length=k)->css.flatten.length=css.length*k
 |[],h=>by simp
 |
  x::css,h=>by
  have ih:=Is (css:=css) (λy hy=>h y (AE _ hy))
  simp only[CG,Ah,A4,h x (by simp),ih,C0];omega
theorem kQ {k:Nat} {css:List (List Value)}(h:∀x∈css,Ec k x):∀v∈css.flatten,v.oneCell'=true:=λv hv=>by
 obtain⟨x,hx,hv⟩:=List.mem_flatten.1 hv
 exact(h x hx).2 v hv
theorem flatMap_id(css:List (List Value)):css.flatMap id=css.flatten:=by simp[List.flatMap]
theorem S0 {k:Nat}:∀{css:List (List Value)},(∀x∈css,x.length=k)->∀n,(css.drop n).flatten=css.flatten.drop (n*k)
 |[],h,n=>by simp
 |x::css,h,0=>by simp
 |
  x::css,h,n+1=>by
  have hx:=h x (by simp)
  simp only[List.drop_succ_cons,CG]
  have e:x.drop ((n+1)*k)=[]:=Gv (by rw[hx,C0];omega)
  rw[S0 (λy hy=>h y (by simp[hy])) n,eZ,e,Ca,hx,show(n+1)*k-k=n*k by rw[C0];omega]
theorem En.mono {w:World} {b o:Nat} {cs:List Value} {m:Nat} {x:List Value}(h:En w b o cs)(hx:∀(j:Nat) (u:Value),x[j]? =some u->cs[m+j]? =some u):En w b (o+m) x:=λj u hj=>by
 have:=h (m+j) u (hx j u hj)
 rwa [<-Jl]at this
section
variable {C:Cx} {T:FF} {B S:List Nat} {w0 w:World} {n:Nat} {fr:Fr} {σ:Sg} {η:Nat->Value} {φ:Nat->List Nat} {a:Act} {v vx vy:Value} {no:Prop}
theorem Mem.oneV(h:Mem C B S w0 σ η φ w):lX η (B3 σ):=by
 intro i hi
 obtain⟨p,hp,rfl⟩:=Ar.1 hi
 have:=h.own p hp
 cases ho:p.2 with
 |cells t ds=>rw[ho]at this;obtain⟨b,cs,h1,_⟩:=this;rw[h1];rfl
 |
  slice E k ds=>
  rw[ho]at this
  obtain⟨css,hs,_⟩:=this
  rcases hs.shape with⟨he,_⟩|⟨g,c,he,_⟩<;>rw[he]<;>rfl
 |abs R k l o=>rw[ho]at this;exact o _ _ _ this
 |ghost vs ds=>rw[ho]at this;obtain⟨h1,_⟩:=this;rw[h1];rfl
theorem HQ {E k:Nat} {css:List (List Value)}(h:Sl E k id w v css) {g l c:Nat}(hv:v=.slice (some ⟨g,0,none⟩) l c):En w g 0 css.flatten:=by
 intro j u hj
 have:=Rl h (g:=g) (by rw[hv];rfl) j u (by rw[flatMap_id];exact hj)
 simpa[CH]using this
theorem RD.force {d:Dat} {K:Dat->Prop}(h:force d K):K d:=by rwa [Iq]at h
theorem D5:∀{ds:List Dat} {xs:List Da},Ei ds=some xs->ds=BO xs
 |[],xs,h=>by simp[Ei]at h;subst h;rfl
 |
  .d x::ds,xs,h=>by
  simp only[Ei]at h
  split at h
  ·rename_i ys hy;simp at h;subst h;simp[BO,D5 hy]
  ·cases h
 |.own _::ds,xs,h=>by simp[Ei]at h
 |.at_ _ _::ds,xs,h=>by simp[Ei]at h
 |.el _ _ _ _::ds,xs,h=>by simp[Ei]at h
 |.agg _::ds,xs,h=>by simp[Ei]at h
 |.tuple _::ds,xs,h=>by simp[Ei]at h
 |.iface _ _::ds,xs,h=>by simp[Ei]at h
 |.func _ _ _::ds,xs,h=>by simp[Ei]at h
theorem UP {ds:List Dat} {cs:List Value}(h:Bc η (B3 σ) (B++Al φ σ) w ds cs):RD B σ η φ w (Vu ds) (.agg cs.toArray):=by
 unfold Vu
 split
 ·rename_i xs hxs
  rw[D5 hxs]at h
  exact⟨cs,by simp only[A7,RepC];exact Fu.1 h,rfl⟩
 ·exact⟨cs,by simpa only[A7]using h,rfl⟩
theorem H6 {η:Nat->Value} {I O:List Nat} {w:World} {d:Dat} {cs:List Value}(h:A7 η I O w d cs):Bc η I O w d.cellsOf cs:=by
 have one:∀{d:Dat},A7 η I O w d cs->Bc η I O w [d] cs:=λh=>by simp only[Bc];exact⟨cs,[],by simp,h,rfl⟩
 unfold Dat.cellsOf
 split
 ·exact Fu.2 (by simpa only[A7,RepC]using h)
 ·simpa only[A7]using h
 ·exact one h
theorem RG(hC:C.Ok T)(hm:Mem C B S w0 σ η φ w) {t:TypeId} {x:Dat}(hx:RD B σ η φ w x vx) {K:Dat->Prop}(h:SX T t x σ K no):no\/∃d v,K d/\(Instr.loadAt t vx).run C.P w=.ok v w/\RD B σ η φ w d v:=by
 unfold SX at h
 rcases Bt h with h|⟨e,he,h⟩
 ·exact .inl h
 have ht:=hC.ty he
 have key:∀{d:Dat} {cs:List Value} {b o:Nat},d.fits e=true->A7 η (B3 σ) (B++Al φ σ) w d cs->En w b o cs->vx=.pointer (some ⟨b,o,none⟩)->∃v,(Instr.loadAt t vx).run C.P w=.ok v w/\RD B σ η φ w d v:=by
  intro d cs b o hf hr hc hv
  obtain⟨g1,g2⟩:=IW hf
  have hl:=DI d cs hr
  refine⟨_,?_,cs,hr,rfl⟩
  rw[hv,G8,g1]
  simp only[Instr.loadAt,Instr.sureAddr,A6,Bb,A3]
  exact Jv ht hc (by omega) (λhh=>by rw[<-g2];exact MQ (by rw[g1];exact hh))
 split at h
 ·rcases AZ h with h|⟨hf,h⟩
  ·exact .inl h
  obtain⟨cs,h1,h2⟩:=hx
  simp only[A7,RepC]at h1
  obtain⟨b,o,c,rfl,_,_,h4,h5⟩:=h1
  obtain⟨v,g1,g2⟩:=key (d:=.d _) (cs:=c) hf (by simpa only[A7]using h4) h5 h2
  exact .inr ⟨_,v,h,g1,g2⟩
 ·rcases AW h with h|⟨ow,hg,h⟩
  ·exact .inl h
  split at h
  ·obtain⟨b,cs,e1,_,hb,hr⟩:=Dj hm hg
   obtain⟨cs',h1,h2⟩:=hx
   simp only[A7]at h1
   obtain⟨_,rfl⟩:=h1
   split at h
   ·rename_i hcond
    simp only[Ai]at hcond
    rcases AZ h with h|⟨hsz,h⟩
    ·exact .inl h
    have hsz:=Ao hsz
    have hl:=HV _ _ hr
    refine .inr ⟨_,_,RD.force h,?_,UP hr⟩
    rw[show vx=.pointer (some ⟨b,0,none⟩)from h2.trans (by rw[e1];rfl)]
    simp only[Instr.loadAt,Instr.sureAddr,A6,Bb,A3]
    have:=Jv ht (w:=w) (b:=b) (o:=0) (cs:=cs) (λj u hj=>by have:=hb.cell hj;simpa using this) (by omega) (λhh=>by rw[hcond.2]at hh;cases hh)
    rw[this,hcond.2];rfl
   rcases AW h with h|⟨d,hd,h⟩
   ·exact .inl h
   obtain⟨g1,c,g2,g3⟩:=Ih _ _ _ hd hr
   obtain⟨v,g4,g5⟩:=key g1 g2 (En.mono (o:=0) (cs:=cs) (λj u hj=>by have:=hb.cell hj;simpa using this) g3) (h2.trans (by rw[e1];rfl))
   exact .inr ⟨_,v,RD.force h,g4,g5⟩
  ·exact .inl h
 ·rcases AW h with h|⟨ow,hg,h⟩
  ·exact .inl h
  split at h
  ·rcases AW h with h|⟨d,hd,h⟩
   ·exact .inl h
   obtain⟨b,cs,e1,_,hb,hr⟩:=Dj hm hg
   obtain⟨cs',h1,h2⟩:=hx
   simp only[A7]at h1
   obtain⟨_,b',e2,rfl⟩:=h1
   rw[e1]at e2
   cases e2
   obtain⟨g1,c,g2,g3⟩:=Ih _ _ _ hd hr
   obtain⟨v,g4,g5⟩:=key g1 g2 (En.mono (o:=0) (cs:=cs) (λj u hj=>by have:=hb.cell hj;simpa using this) g3) (h2.trans (by simp[BR]))
   exact .inr ⟨_,v,RD.force h,g4,g5⟩
  ·exact .inl h
 ·rcases AW h with h|⟨ow,hg,h⟩
  ·exact .inl h
  split at h
  ·rename_i i k0 m off _ _ _ E k ds
   rcases AZ h with h|⟨hk0,d0,hd0,h⟩
   ·exact .inl h
   have hk0:=Ao hk0
   rcases AW h with h|⟨d,hd,h⟩
   ·exact .inl h
   obtain⟨css,hs,_,hr,hk⟩:=B8 hm hg
   obtain⟨cs',h1,h2⟩:=hx
   simp only[A7]at h1
   obtain⟨_,b',l,c',e2,rfl⟩:=h1
   obtain⟨c0,hc0,hr0⟩:=Ko hr hd0
   obtain⟨g1,c,g2,g3⟩:=Ih _ _ _ hd (cs:=c0) (by simp only[Bc,A7];exact⟨c0,[],by simp,hr0,rfl⟩)
   obtain⟨v,g4,g5⟩:=key g1 g2 (b:=b') (o:=0+(m*k+off)) (En.mono (o:=0) (HQ hs e2) (λj u hj=>by
    rw[Jl];exact QE (λx hx=>(hk x hx).1) hc0 (g3 j u hj))) (h2.trans (by simp[BR,hk0]))
   exact .inr ⟨_,v,RD.force h,g4,g5⟩
  ·exact .inl h
 ·exact .inl h
theorem JO {k off:Nat} {x:List Value}:∀{css:List (List Value)},(∀y∈css,y.length=k)->∀{n:Nat} {c:List Value},css[n]? =some c->off+x.length<=k->splice css.flatten (n*k+off) x=(css.set n (splice c off x)).flatten
 |[],h,n,c,hn,hl=>by simp at hn
 |
  y::css,h,n,c,hn,hl=>by
  have hy:=h y (by simp)
  cases n with
  |
   zero=>
   simp at hn;subst hn
   simp only[CG,List.set_cons_zero,Nat.zero_mul,EL]
   exact Js (by omega)
  |
   succ n=>
   simp only[CG,List.set_cons_succ]
   rw[Ed (by rw[hy,C0];omega),hy,show(n+1)*k+off-k=n*k+off by rw[C0];omega]
   rw[JO (λz hz=>h z (AE _ hz)) (by simpa using hn) hl]
theorem IB {cs x:List Value} {o:Nat}(h:o+x.length<=cs.length):(splice cs o x).length=cs.length:=by
 unfold splice;simp;omega
theorem Uv {cs x:List Value} {o m:Nat}(h:o+x.length<=m)(hm:m<=cs.length):(splice cs o x).take m=splice (cs.take m) o x:=by
 have hl:(cs.take m).length=m:=by simp;omega
 have e:=Js (c1:=cs.take m) (c2:=cs.drop m) (x:=x) (o:=o) (by omega)
 rw[BZ]at e
 rw[e]
 have:=IB (cs:=cs.take m) (x:=x) (o:=o) (by omega)
 rw[Bg (by omega),Ak (by omega)]
theorem Xk {cs x:List Value} {o:Nat}(h1:∀v∈cs,v.oneCell'=true)(h2:∀v∈x,v.oneCell'=true):∀v∈splice cs o x,v.oneCell'=true:=by
 intro v hv
 unfold splice at hv
 rcases Ag.1 hv with hv|hv
 ·rcases Ag.1 hv with hv|hv
  ·exact h1 v (Ek hv)
  ·exact h2 v hv
 ·exact h1 v (List.mem_of_mem_drop hv)
theorem Sl.spliceAt {P:Program} {E k:Nat} {css:List (List Value)}(hk:∀x∈css,Ec k x)(h:Sl E k id w v css) {g l c:Nat}(hv:v=.slice (some ⟨g,0,none⟩) l c) {m off:Nat} {c0 x:List Value}(hm:css[m]? =some c0)(hl:off+x.length<=k)(h1:∀u∈x,u.oneCell'=true):
  ∃w',(storeCells ⟨g,m*k+off,none⟩ x).run P w=.ok () w'/\Sl E k id w' v (css.set m (splice c0 off x))/\Tch [g] w w':=by
 have hk':∀y∈css,y.length=k:=λy hy=>(hk y hy).1
 have hfl:css.flatten.length=css.length*k:=Is hk'
 have hml:m<css.length:=(Ae.1 hm).1
 have hmk:m*k+k<=css.length*k:=by rw[<-Nat.succ_mul];exact Ej k hml
 rcases h.2 with⟨hn,_⟩|⟨g',cap,cur,he,_,hg,hc,hcm,hcs,ht⟩
 ·rw[hn]at hv;cases hv
 ·rw[he]at hv;cases hv
  rw[flatMap_id]at ht
  have hle:css.length*k<=cur.size:=by rw[hcs];exact Ej k hc
  have hr:=run_storeCells_at P g (m*k+off) E x 0 cur w hg (by omega) h1
  refine⟨_,hr,⟨?_,.inr ⟨g,c,(splice cur.toList (m*k+off) x).toArray,?_,Aj _,?_,by simpa using hc,hcm,?_,?_⟩⟩,?_⟩
  ·rw[flatMap_id,<-JO hk' hm hl,IB (by omega),hfl];simp
  ·rw[he];simp
  ·have e:=setRow_heap w g cur (cur.toList.take (m*k+off+0)++x++cur.toList.drop (m*k+off+0+x.length)).toArray E (0,0) hg
   rw[e];simp[splice]
  ·simp only[Cs,IB (cs:=cur.toList) (x:=x) (o:=m*k+off) (by simp;omega)];simpa using hcs
  ·rw[flatMap_id,<-JO hk' hm hl,mW,<-ht]
   exact Uv (by omega) (by simpa using hle)
  ·exact⟨rfl,rfl,rfl,by simp[World.setRow],λj hj hn=>by
    have:g≠j:=λe=>hn (by simp[e])
    simp[World.setRow,Cp,this]⟩
theorem LB {α:Type}(f:Nat->α)(i:Nat):DB f i (f i)=f:=by funext j;by_cases h:j=i<;>simp[DB,h]
def TS(C:Cx)(B S:List Nat)(w0:World)(σ σ':Sg)(η:Nat->Value)(φ:Nat->List Nat)(w w':World):Prop:=
 Mem C B S w0 σ' η φ w'/\Later (B++Al φ σ) w (B++Al φ σ') w'/\B3 σ'=B3 σ
theorem TS.frame {σ':Sg} {w':World}(h:TS C B S w0 σ σ' η φ w w') {fr:Fr} {a:Act}(hf:Gy η (B3 σ) (B++Al φ σ) w fr a):Gy η (B3 σ') (B++Al φ σ') w' fr a:=
 hf.later h.2.1 (λi hi=>⟨by rw[h.2.2];exact hi,rfl⟩)
theorem G0(hm:Mem C B S w0 σ η φ w) {i:Nat} {t:TypeId} {ds ds':List Dat}(hg:BP i σ=some (.cells t ds)) {b:Nat} {cs':List Value} {w':World}(he:η i=.pointer (some ⟨b,0,none⟩))(hf:φ i=[b])(hr:Bc η (B3 σ) (B++Al φ σ) w ds' cs')(hb:Hk w' b t cs')(ht:Tch [b] w w'):
  TS C B S w0 σ (BG id i (.cells t ds') σ) η φ w w':=by
 have hi:=AY (Bm hg)
 have hX:∀x∈[b],x∈φ i:=λx hx=>by rw[hf];exact hx
 have hF:∀x∈φ i,x∈φ i\/w.heap.size<=x:=λx hx=>.inl hx
 have hl:=Later.turn (σ:=σ) B ht hX hi hF id (.cells t ds')
 have hM:=hm.turnSame (o:=.cells t ds') ht hX hi hF (by
  exact⟨b,cs',he,hf,hb,Bc.later hl (λj hj=>⟨hj,rfl⟩) _ _ hr⟩)
 rw[LB]at hM hl
 exact⟨hM,hl,By _ _ _ _⟩
theorem Xd(hC:C.Ok T)(hm:Mem C B S w0 σ η φ w) {t:TypeId} {x d:Dat}(hx:RD B σ η φ w x vx)(hd:RD B σ η φ w d vy) {K:Sg->Prop}(h:SU T t x d σ K no):
  no\/∃σ' w',K σ'/\(Instr.storeAt t vx vy).run C.P w=.ok () w'/\TS C B S w0 σ σ' η φ w w':=by
 unfold SU at h
 rcases Bt h with h|⟨e,he,h⟩
 ·exact .inl h
 have ht:=hC.ty he
 rcases AZ h with h|⟨hb,h⟩
 ·exact .inl h
 simp only[Ai]at hb
 obtain⟨hf,hst⟩:=hb
 obtain⟨f1,f2⟩:=IW hf
 obtain⟨cx,hcx,rfl⟩:=hd
 have hcl:=(I8 hm.oneV hcx hst).1
 have hone:=LQ hm.oneV d cx hst hcx
 have hlx:=DI d cx hcx
 have store:∀{b o:Nat} {w':World},vx=.pointer (some ⟨b,o,none⟩)->(storeCells ⟨b,o,none⟩ cx).run C.P w=.ok () w'->(Instr.storeAt t vx (BR d cx)).run C.P w=.ok () w':=by
  intro b o w' hv hr
  have hsz:(BR d cx).cells.size=e.size:=by rw[<-FQ,hcl];omega
  rw[hv]
  simp only[Instr.storeAt,Instr.sureAddr,A6,Bb,A3,storeVar,ht.sizeOf,hcl,hsz]
  simp[hr]
 split at h
 ·rcases AW h with h|⟨ow,hg,h⟩
  ·exact .inl h
  split at h
  ·obtain⟨b,cs,e1,e2,hb,hr⟩:=Dj hm hg
   obtain⟨cs',h1,h2⟩:=hx
   simp only[A7]at h1
   obtain⟨_,rfl⟩:=h1
   split at h
   ·rename_i hcond
    simp only[Ai]at hcond
    rcases AZ h with h|⟨hsz,h⟩
    ·exact .inl h
    have hsz:=Ao hsz
    have hl:=HV _ _ hr
    have hll:cx.length=cs.length:=by omega
    obtain⟨w',r1,r2,r3⟩:=Hk.splice (P:=C.P) hb (o:=0) (x:=cx) (by omega) hone
    have e4:splice cs 0 cx=cx:=by simp[splice,hll]
    rw[e4]at r2
    exact .inr ⟨_,w',h,store (h2.trans (by rw[e1];rfl)) r1,G0 hm hg e1 e2 (H6 hcx) r2 r3⟩
   rcases AW h with h|⟨ds',hp,h⟩
   ·exact .inl h
   obtain⟨g1,g2⟩:=J4 hcx _ _ _ hp hr
   obtain⟨w',r1,r2,r3⟩:=Hk.splice (P:=C.P) hb g2 hone
   exact .inr ⟨_,w',h,store (h2.trans (by rw[e1];rfl)) r1,G0 hm hg e1 e2 g1 r2 r3⟩
  ·exact .inl h
 ·rcases AW h with h|⟨ow,hg,h⟩
  ·exact .inl h
  split at h
  ·rcases AW h with h|⟨ds',hp,h⟩
   ·exact .inl h
   obtain⟨b,cs,e1,e2,hb,hr⟩:=Dj hm hg
   obtain⟨cs',h1,h2⟩:=hx
   simp only[A7]at h1
   obtain⟨_,b',e3,rfl⟩:=h1
   rw[e1]at e3
   cases e3
   obtain⟨g1,g2⟩:=J4 hcx _ _ _ hp hr
   obtain⟨w',r1,r2,r3⟩:=Hk.splice (P:=C.P) hb g2 hone
   exact .inr ⟨_,w',h,store h2 r1,G0 hm hg e1 e2 g1 r2 r3⟩
  ·exact .inl h
 ·rcases AW h with h|⟨ow,hg,h⟩
  ·exact .inl h
  split at h
  ·rename_i i k0 m off _ _ _ _ E k ds
   rcases AZ h with h|⟨hk0,d0,hd0,h⟩
   ·exact .inl h
   have hk0:=Ao hk0
   subst hk0
   rcases AW h with h|⟨ds',hp,h⟩
   ·exact .inl h
   rcases AW h with h|⟨xs,hp2,h⟩
   ·exact .inl h
   split at h
   ·rename_i y
    obtain⟨css,hs,e2,hr,hk⟩:=B8 hm hg
    obtain⟨cs',h1,h2⟩:=hx
    simp only[A7]at h1
    obtain⟨_,b',l,c',e3,rfl⟩:=h1
    obtain⟨c0,hc0,hr0⟩:=Ko hr hd0
    have hc0k:=hk c0 (AB hc0)
    obtain⟨g1,g2⟩:=J4 hcx _ _ _ hp (cs:=c0) (by simp only[Bc,A7];exact⟨c0,[],by simp,hr0,rfl⟩)
    rw[D5 hp2]at g1
    have g3:RepC (B++Al φ σ) w y (splice c0 off cx):=by
     have:=Fu.1 g1
     simp only[RepCs]at this
     obtain⟨a1,a2,e4,r1,rfl⟩:=this
     rw[e4];simpa using r1
    obtain⟨w',r1,r2,r3⟩:=Sl.spliceAt (P:=C.P) hk hs e3 hc0 (x:=cx) (off:=off) (by rw[hc0k.1]at g2;exact g2) hone
    have hi:=AY (Bm hg)
    have hX:∀x∈[b'],x∈φ i:=λx hx=>by rw[e2,e3];simpa[Value.ownBlock]using hx
    have hF:∀x∈φ i,x∈φ i\/w.heap.size<=x:=λx hx=>.inl hx
    have hl:=Later.turn (σ:=σ) B r3 hX hi hF id (.slice E k0 (ds.set m y))
    have hM:=hm.turnSame (o:=.slice E k0 (ds.set m y)) r3 hX hi hF (by
     refine⟨_,r2,e2,Am.later hl _ _ (PT hr m g3),λx hx=>?_⟩
     rcases List.mem_or_eq_of_mem_set hx with hx|rfl
     ·exact hk x hx
     ·exact⟨by rw[IB g2];exact hc0k.1,Xk hc0k.2 hone⟩)
    rw[LB]at hM hl
    exact .inr ⟨_,w',h,store (h2.trans (by simp[BR])) r1,hM,hl,By _ _ _ _⟩
   ·exact .inl h
  ·exact .inl h
 ·exact .inl h
end
end Go.Sx
