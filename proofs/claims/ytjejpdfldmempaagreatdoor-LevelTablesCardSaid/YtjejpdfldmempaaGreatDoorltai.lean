/- Sxi. -/
import Derived.Test.YtjejpdfldmempaaGreatDoorltah
import Derived.WalkKit
import Derived.WalkSpells
import Derived.WalkLawsBesides
namespace Go.Sx
open Go Go.RowKit Go.Reg
inductive Da where
 |undef
 |int (k:IntKind) (n:Int)
 |bool (b:Bool)
 |prop (p:Prop) (i:Decidable p)
 |str (s:ByteArray)
 |agg (ds:List Da)
 |tuple (ds:List Da)
 |nilp
 |nils
 |nilm
 |nilf
 |nili
 |iface (t:TypeId) (d:Da)
 |ref (d:Da)
 |list (k:Nat) (ds:List Da)
 |func (fn:Fn) (first captured:List Da)
 |raw (v:Value)
def Fc:Da->List Value->Value
 |.agg _,cs=>.agg cs.toArray
 |_,cs=>cs.headD undef
def Ed(w:World)(b o:Nat)(cs:List Value):Prop:=∀j u,cs[j]? =some u->w.cell? ⟨b,o+j,none⟩=some u
def DS(k:Nat)(x:List Value):Prop:=x.length=k/\∀v∈x,v.oneCell'=true
mutual
def RepC(O:List Nat)(w:World):Da->List Value->Prop
 |.undef,cs=>∃v,cs=[v]
 |.int k n,cs=>cs=[.int k n]
 |.bool b,cs=>cs=[.bool b]
 |.prop p i,cs=>cs=[.bool (@decide p i)]
 |.str s,cs=>cs=[.string s]
 |.agg ds,cs=>RepCs O w ds cs
 |.tuple ds,cs=>∃css,Al O w ds css/\cs=[.tuple (List.zipWith Fc ds css).toArray]
 |.nilp,cs=>cs=[.pointer none]
 |.nils,cs=>cs=[.slice none 0 0]
 |.nilm,cs=>cs=[.map none]
 |.nilf,cs=>cs=[.nilFunc]
 |.nili,cs=>cs=[.nilIface]
 |.iface t d,cs=>∃c,RepC O w d c/\cs=[.iface t (Fc d c)]
 |.ref d,cs=>∃b o c,cs=[.pointer (some ⟨b,o,none⟩)]/\b∉O/\b<w.heap.size/\RepC O w d c/\Ed w b o c
 |.list k ds,cs=>∃a c css,cs=[.slice a ds.length c]/\ds.length<=c/\c<=maxLen/\Al O w ds css/\(∀x∈css,DS k x)/\
   (ds=[]\/∃b o,a=some ⟨b,o,none⟩/\b∉O/\b<w.heap.size/\Ed w b o css.flatten)
 |.func fn f c,cs=>∃fs cs',Al O w f fs/\Al O w c cs'/\cs=[.func fn (List.zipWith Fc f fs).toArray (List.zipWith Fc c cs').toArray]
 |.raw v,cs=>cs=[v]
def RepCs(O:List Nat)(w:World):List Da->List Value->Prop
 |[],cs=>cs=[]
 |d::ds,cs=>∃c1 c2,cs=c1++c2/\RepC O w d c1/\RepCs O w ds c2
def Al(O:List Nat)(w:World):List Da->List (List Value)->Prop
 |[],css=>css=[]
 |d::ds,css=>∃c1 c2,css=c1::c2/\RepC O w d c1/\Al O w ds c2
end
def Rep(O:List Nat)(w:World)(d:Da)(v:Value):Prop:=∃cs,RepC O w d cs/\v=Fc d cs
def Ig(O:List Nat)(w:World)(ds:List Da)(vs:List Value):Prop:=∃css,Al O w ds css/\vs=List.zipWith Fc ds css
structure Later(O:List Nat)(w:World)(O':List Nat)(w':World):Prop where
 size:w.heap.size<=w'.heap.size
 blk:∀b,b<w.heap.size->b∉O->w'.heap[b]? =w.heap[b]?
 new:∀b,b∉O->b<w.heap.size->b∉O'
theorem Later.cells {O O':List Nat} {w w':World}(h:Later O w O' w') {b o:Nat} {cs:List Value}(hb:b<w.heap.size)(hn:b∉O)(hc:Ed w b o cs):Ed w' b o cs:=by
 intro j u hj
 have:=hc j u hj
 rw[World.cell?_of_block (w:=w) (h.blk b hb hn)];exact this
mutual
theorem RepC.later {O O':List Nat} {w w':World}(h:Later O w O' w'):∀(d:Da) (cs:List Value),RepC O w d cs->RepC O' w' d cs
 |.undef,cs,r=>r
 |.int _ _,cs,r=>r
 |.bool _,cs,r=>r
 |.prop _ _,cs,r=>r
 |.str _,cs,r=>r
 |.agg ds,cs,r=>by simp only[RepC]at r⊢;exact RepCs.later h ds cs r
 |.tuple ds,cs,r=>by simp only[RepC]at r⊢;obtain⟨css,h1,h2⟩:=r;exact⟨css,Al.later h ds css h1,h2⟩
 |.nilp,cs,r=>r
 |.nils,cs,r=>r
 |.nilm,cs,r=>r
 |.nilf,cs,r=>r
 |.nili,cs,r=>r
 |.iface t d,cs,r=>by simp only[RepC]at r⊢;obtain⟨c,h1,h2⟩:=r;exact⟨c,RepC.later h d c h1,h2⟩
 |
  .ref d,cs,r=>by
  simp only[RepC]at r⊢
  obtain⟨b,o,c,h1,h2,h3,h4,h5⟩:=r
  exact⟨b,o,c,h1,h.new b h2 h3,CK h3 h.size,RepC.later h d c h4,h.cells h3 h2 h5⟩
 |
  .list k ds,cs,r=>by
  simp only[RepC]at r⊢
  obtain⟨a,c,css,h1,h2,h3,h4,h5,h6⟩:=r
  refine⟨a,c,css,h1,h2,h3,Al.later h ds css h4,h5,h6.imp id ?_⟩
  rintro⟨b,o,g1,g2,g3,g4⟩
  exact⟨b,o,g1,h.new b g2 g3,CK g3 h.size,h.cells g3 g2 g4⟩
 |
  .func fn f c,cs,r=>by
  simp only[RepC]at r⊢
  obtain⟨fs,cs',h1,h2,h3⟩:=r
  exact⟨fs,cs',Al.later h f fs h1,Al.later h c cs' h2,h3⟩
 |.raw _,cs,r=>r
theorem RepCs.later {O O':List Nat} {w w':World}(h:Later O w O' w'):∀(ds:List Da) (cs:List Value),RepCs O w ds cs->RepCs O' w' ds cs
 |[],cs,r=>r
 |
  d::ds,cs,r=>by
  simp only[RepCs]at r⊢
  obtain⟨c1,c2,h1,h2,h3⟩:=r
  exact⟨c1,c2,h1,RepC.later h d c1 h2,RepCs.later h ds c2 h3⟩
theorem Al.later {O O':List Nat} {w w':World}(h:Later O w O' w'):∀(ds:List Da) (cs:List (List Value)),Al O w ds cs->Al O' w' ds cs
 |[],cs,r=>r
 |
  d::ds,cs,r=>by
  simp only[Al]at r⊢
  obtain⟨c1,c2,h1,h2,h3⟩:=r
  exact⟨c1,c2,h1,RepC.later h d c1 h2,Al.later h ds c2 h3⟩
end
theorem Rep.later {O O':List Nat} {w w':World}(h:Later O w O' w') {d:Da} {v:Value}(r:Rep O w d v):Rep O' w' d v:=by
 obtain⟨cs,h1,h2⟩:=r;exact⟨cs,RepC.later h d cs h1,h2⟩
theorem Ig.later {O O':List Nat} {w w':World}(h:Later O w O' w') {d:List Da} {v:List Value}(r:Ig O w d v):Ig O' w' d v:=by
 obtain⟨cs,h1,h2⟩:=r;exact⟨cs,Al.later h d cs h1,h2⟩
def gsz:Da->Nat
 |.agg ds=>ds.length
 |_=>1
def GRep(O:List Nat)(w:World)(p:Nat×Da):Prop:=Rep O w (.ref p.2) (.pointer (some ⟨p.1,0,none⟩))/\p.1∉O/\∃cs t fr,w.heap[p.1]? =some (.cells cs t fr)/\cs.size=gsz p.2
theorem GRep.later {O O':List Nat} {w w':World}(h:Later O w O' w') {p:Nat×Da}(r:GRep O w p):GRep O' w' p:=by
 obtain⟨r1,r2,cs,t,fr,r3,r4⟩:=r
 have hlt:p.1<w.heap.size:=(A6.1 r3).1
 exact⟨r1.later h,h.new _ r2 hlt,cs,t,fr,by rw[h.blk _ hlt r2];exact r3,r4⟩
end Go.Sx
namespace Go.Sx
open Go Go.RowKit Go.Reg
inductive Dat where
 |d (x:Da)
 |own (i:Nat)
 |at_ (i off:Nat)
 |el (i k n off:Nat)
 |agg (ds:List Dat)
 |tuple (ds:List Dat)
 |iface (t:TypeId) (d:Dat)
 |func (fn:Fn) (first captured:List Dat)
def BD:Dat->List Value->Value
 |.d x,cs=>Fc x cs
 |.agg _,cs=>.agg cs.toArray
 |_,cs=>cs.headD undef
mutual
def A4(η:Nat->Value)(I O:List Nat)(w:World):Dat->List Value->Prop
 |.d x,cs=>RepC O w x cs
 |.own i,cs=>i∈I/\cs=[η i]
 |.at_ i off,cs=>i∈I/\∃b,η i=.pointer (some ⟨b,0,none⟩)/\cs=[.pointer (some ⟨b,off,none⟩)]
 |.el i k n off,cs=>i∈I/\∃b l c,η i=.slice (some ⟨b,0,none⟩) l c/\cs=[.pointer (some ⟨b,n*k+off,none⟩)]
 |.agg ds,cs=>AX η I O w ds cs
 |.tuple ds,cs=>∃css,A7 η I O w ds css/\cs=[.tuple (List.zipWith BD ds css).toArray]
 |.iface t d,cs=>∃c,A4 η I O w d c/\cs=[.iface t (BD d c)]
 |.func fn f c,cs=>∃fs cs',A7 η I O w f fs/\A7 η I O w c cs'/\cs=[.func fn (List.zipWith BD f fs).toArray (List.zipWith BD c cs').toArray]
def AX(η:Nat->Value)(I O:List Nat)(w:World):List Dat->List Value->Prop
 |[],cs=>cs=[]
 |d::ds,cs=>∃c1 c2,cs=c1++c2/\A4 η I O w d c1/\AX η I O w ds c2
def A7(η:Nat->Value)(I O:List Nat)(w:World):List Dat->List (List Value)->Prop
 |[],css=>css=[]
 |d::ds,css=>∃c1 c2,css=c1::c2/\A4 η I O w d c1/\A7 η I O w ds c2
end
mutual
def kill(i:Nat)(x:Da):Dat->Dat
 |.own j=>match Nat.beq j i with|true=>.d x|false=>.own j
 |.at_ j o=>match Nat.beq j i with|true=>.d .undef|false=>.at_ j o
 |.el j k n o=>match Nat.beq j i with|true=>.d .undef|false=>.el j k n o
 |.agg ds=>.agg (Fg i x ds)
 |.tuple ds=>.tuple (Fg i x ds)
 |.iface t d=>.iface t (kill i x d)
 |.func fn f c=>.func fn (Fg i x f) (Fg i x c)
 |.d x=>.d x
def Fg(i:Nat)(x:Da):List Dat->List Dat
 |[]=>[]
 |d::ds=>kill i x d::Fg i x ds
end
mutual
theorem A4.later {η η':Nat->Value} {I I' O O':List Nat} {w w':World}(h:Later O w O' w')(hI:∀i∈I,i∈I'/\η' i=η i):∀(d:Dat) (cs:List Value),A4 η I O w d cs->A4 η' I' O' w' d cs
 |.d x,cs,r=>RepC.later h x cs r
 |.own i,cs,r=>by simp only[A4]at r⊢;exact⟨(hI i r.1).1,by rw[(hI i r.1).2];exact r.2⟩
 |.at_ i off,cs,r=>by simp only[A4]at r⊢;exact⟨(hI i r.1).1,by rw[(hI i r.1).2];exact r.2⟩
 |.el i k n off,cs,r=>by simp only[A4]at r⊢;exact⟨(hI i r.1).1,by rw[(hI i r.1).2];exact r.2⟩
 |.agg ds,cs,r=>by simp only[A4]at r⊢;exact AX.later h hI ds cs r
 |.tuple ds,cs,r=>by simp only[A4]at r⊢;obtain⟨css,h1,h2⟩:=r;exact⟨css,A7.later h hI ds css h1,h2⟩
 |.iface t d,cs,r=>by simp only[A4]at r⊢;obtain⟨c,h1,h2⟩:=r;exact⟨c,A4.later h hI d c h1,h2⟩
 |
  .func fn f c,cs,r=>by
  simp only[A4]at r⊢
  obtain⟨fs,cs',h1,h2,h3⟩:=r
  exact⟨fs,cs',A7.later h hI f fs h1,A7.later h hI c cs' h2,h3⟩
theorem AX.later {η η':Nat->Value} {I I' O O':List Nat} {w w':World}(h:Later O w O' w')(hI:∀i∈I,i∈I'/\η' i=η i):∀(ds:List Dat) (cs:List Value),AX η I O w ds cs->AX η' I' O' w' ds cs
 |[],cs,r=>r
 |
  d::ds,cs,r=>by
  simp only[AX]at r⊢
  obtain⟨c1,c2,h1,h2,h3⟩:=r
  exact⟨c1,c2,h1,A4.later h hI d c1 h2,AX.later h hI ds c2 h3⟩
theorem A7.later {η η':Nat->Value} {I I' O O':List Nat} {w w':World}(h:Later O w O' w')(hI:∀i∈I,i∈I'/\η' i=η i):∀(ds:List Dat) (cs:List (List Value)),A7 η I O w ds cs->A7 η' I' O' w' ds cs
 |[],cs,r=>r
 |
  d::ds,cs,r=>by
  simp only[A7]at r⊢
  obtain⟨c1,c2,h1,h2,h3⟩:=r
  exact⟨c1,c2,h1,A4.later h hI d c1 h2,A7.later h hI ds c2 h3⟩
end
theorem Bh(j i:Nat):(Nat.beq j i=true/\j=i)\/(Nat.beq j i=false/\j≠i):=by
 cases hb:Nat.beq j i
 ·exact .inr ⟨rfl,λe=>by subst e;simp at hb⟩
 ·exact .inl ⟨rfl,Am hb⟩
def Da.one:Da->Bool
 |.agg _=>false
 |_=>true
theorem OA {x:Da}(h:x.one=true)(cs:List Value):Fc x cs=cs.headD undef:=by
 cases x<;>first|rfl|cases h
theorem MQ {i:Nat} {x:Da}(hx:x.one=true)(d:Dat)(cs:List Value):BD (kill i x d) cs=BD d cs:=by
 cases d with
 |own j=>rcases Bh j i with⟨h,_⟩|⟨h,_⟩<;>simp only[kill,h,BD,OA hx]
 |at_ j o=>rcases Bh j i with⟨h,_⟩|⟨h,_⟩<;>simp only[kill,h,BD,Fc]
 |el j k n o=>rcases Bh j i with⟨h,_⟩|⟨h,_⟩<;>simp only[kill,h,BD,Fc]
 |_=>rfl
theorem EB {i:Nat} {x:Da}(hx:x.one=true):∀(ds:List Dat) (css:List (List Value)),List.zipWith BD (Fg i x ds) css=List.zipWith BD ds css
 |[],css=>rfl
 |d::ds,[]=>by simp[Fg]
 |d::ds,c::css=>by simp only[Fg,AL];rw[MQ hx d c,EB hx ds css]
section
variable {η η':Nat->Value} {I I' O O':List Nat} {w w':World} {i:Nat} {x:Da}
mutual
theorem A4.kill(hx:x.one=true)(hl:Later O w O' w')(hI:∀j∈I,j≠i->j∈I'/\η' j=η j)(hr:RepC O' w' x [η i]):∀(d:Dat) (cs:List Value),A4 η I O w d cs->A4 η' I' O' w' (kill i x d) cs
 |.d y,cs,r=>RepC.later hl y cs r
 |
  .own j,cs,r=>by
  simp only[A4]at r
  rcases Bh j i with⟨h,e⟩|⟨h,e⟩
  ·subst e;simp only[Sx.kill,h,A4];rw[r.2];exact hr
  ·simp only[Sx.kill,h,A4];exact⟨(hI j r.1 e).1,by rw[(hI j r.1 e).2];exact r.2⟩
 |
  .at_ j off,cs,r=>by
  simp only[A4]at r
  rcases Bh j i with⟨h,e⟩|⟨h,e⟩
  ·simp only[Sx.kill,h,A4,RepC];obtain⟨_,b,_,h⟩:=r;exact⟨_,h⟩
  ·simp only[Sx.kill,h,A4];exact⟨(hI j r.1 e).1,by rw[(hI j r.1 e).2];exact r.2⟩
 |
  .el j k n off,cs,r=>by
  simp only[A4]at r
  rcases Bh j i with⟨h,e⟩|⟨h,e⟩
  ·simp only[Sx.kill,h,A4,RepC];obtain⟨_,b,l,c,_,h⟩:=r;exact⟨_,h⟩
  ·simp only[Sx.kill,h,A4];exact⟨(hI j r.1 e).1,by rw[(hI j r.1 e).2];exact r.2⟩
 |.agg ds,cs,r=>by simp only[A4,Sx.kill]at r⊢;exact AX.kill hx hl hI hr ds cs r
 |.tuple ds,cs,r=>by simp only[A4,Sx.kill]at r⊢;obtain⟨css,h1,h2⟩:=r;exact⟨css,A7.kill hx hl hI hr ds css h1,by rw[EB hx];exact h2⟩
 |.iface t d,cs,r=>by simp only[A4,Sx.kill]at r⊢;obtain⟨c,h1,h2⟩:=r;exact⟨c,A4.kill hx hl hI hr d c h1,by rw[MQ hx];exact h2⟩
 |
  .func fn f c,cs,r=>by
  simp only[A4,Sx.kill]at r⊢
  obtain⟨fs,cs',h1,h2,h3⟩:=r
  exact⟨fs,cs',A7.kill hx hl hI hr f fs h1,A7.kill hx hl hI hr c cs' h2,by rw[EB hx,EB hx];exact h3⟩
theorem AX.kill(hx:x.one=true)(hl:Later O w O' w')(hI:∀j∈I,j≠i->j∈I'/\η' j=η j)(hr:RepC O' w' x [η i]):∀(ds:List Dat) (cs:List Value),AX η I O w ds cs->AX η' I' O' w' (Fg i x ds) cs
 |[],cs,r=>r
 |
  d::ds,cs,r=>by
  simp only[AX,Fg]at r⊢
  obtain⟨c1,c2,h1,h2,h3⟩:=r
  exact⟨c1,c2,h1,A4.kill hx hl hI hr d c1 h2,AX.kill hx hl hI hr ds c2 h3⟩
theorem A7.kill(hx:x.one=true)(hl:Later O w O' w')(hI:∀j∈I,j≠i->j∈I'/\η' j=η j)(hr:RepC O' w' x [η i]):∀(ds:List Dat) (cs:List (List Value)),A7 η I O w ds cs->A7 η' I' O' w' (Fg i x ds) cs
 |[],cs,r=>r
 |
  d::ds,cs,r=>by
  simp only[A7,Fg]at r⊢
  obtain⟨c1,c2,h1,h2,h3⟩:=r
  exact⟨c1,c2,h1,A4.kill hx hl hI hr d c1 h2,A7.kill hx hl hI hr ds c2 h3⟩
end
end
inductive Own where
 |cells (T:TypeId) (ds:List Dat)
 |slice (E k:Nat) (ds:List Da)
 |abs (R:World->Value->List Nat->Prop) (keep:∀(S:List Nat) w w' v F,R w v F->Tch S w w'->(∀x∈F,x∉S)->R w' v F) (lt:∀w v F,R w v F->∀x∈F,x<w.heap.size) (one:∀w v F,R w v F->v.oneCell'=true)
 |ghost (vs:List Value) (ds:List Dat)
def Own.holds(η:Nat->Value)(I O:List Nat)(w:World):Own->Value->List Nat->Prop
 |.cells T ds,v,F=>∃b cs,v=.pointer (some ⟨b,0,none⟩)/\F=[b]/\GL w b T cs/\AX η I O w ds cs
 |.slice E k ds,v,F=>∃css,Sl E k id w v css/\F=v.ownBlock.toList/\Al O w ds css/\(∀x∈css,DS k x)
 |.abs R _ _ _,v,F=>R w v F
 |.ghost vs ds,v,F=>v=.nilFunc/\F=[]/\∃css,A7 η I O w ds css/\vs=List.zipWith BD ds css
theorem Own.holds.lt {η:Nat->Value} {I O:List Nat} {w:World} {o:Own} {v:Value} {F:List Nat}(h:o.holds η I O w v F):∀b∈F,b<w.heap.size:=by
 cases o with
 |
  cells T ds=>
  obtain⟨b,cs,rfl,rfl,hb,_⟩:=h
  intro x hx;simp at hx;subst hx;exact hb.lt
 |
  slice E k ds=>
  obtain⟨css,hs,rfl,_⟩:=h
  intro x hx;exact hs.lt (by simpa using hx)
 |abs R k lt _=>exact lt _ _ _ h
 |ghost vs ds=>obtain⟨_,rfl,_⟩:=h;simp
theorem Own.holds.later {η η':Nat->Value} {I I' O O' S:List Nat} {w w':World} {o:Own} {v:Value} {F:List Nat}(h:o.holds η I O w v F)(hl:Later O w O' w')(hI:∀i∈I,i∈I'/\η' i=η i)(ht:Tch S w w')(hF:∀x∈F,x∉S):o.holds η' I' O' w' v F:=by
 cases o with
 |
  cells T ds=>
  obtain⟨b,cs,rfl,rfl,hb,hr⟩:=h
  exact⟨b,cs,rfl,rfl,hb.keep ht (hF b (by simp)),AX.later hl hI _ _ hr⟩
 |
  slice E k ds=>
  obtain⟨css,hs,rfl,hr,hk⟩:=h
  exact⟨css,hs.keep ht (λb hb=>hF b (by simpa using hb)),rfl,Al.later hl _ _ hr,hk⟩
 |abs R k lt _=>exact k S w w' v F h ht hF
 |ghost vs ds=>obtain⟨h1,h2,css,h3,h4⟩:=h;exact⟨h1,h2,css,A7.later hl hI _ _ h3,h4⟩
abbrev Sg:=List (Nat×Own)
abbrev Fr:=List (Nat×Dat)
def Bp(σ:Sg):List Nat:=σ.map (·.1)
def Ak(φ:Nat->List Nat)(σ:Sg):List Nat:=σ.flatMap λp=>φ p.1
def Bw(i:Nat)(x:Da):Own->Own
 |.cells T ds=>.cells T (Fg i x ds)
 |.slice E k ds=>.slice E k ds
 |.abs R h l o=>.abs R h l o
 |.ghost vs ds=>.ghost vs (Fg i x ds)
structure Cx where
 P:Program
 Γ:List (Nat×Da)
structure Mem(C:Cx)(B S:List Nat)(w0:World)(σ:Sg)(η:Nat->Value)(φ:Nat->List Nat)(w:World):Prop where
 tch:Tch S w0 w
 own:∀p∈σ,p.2.holds η (Bp σ) (B++Ak φ σ) w (η p.1) (φ p.1)
 nodup:(Bp σ).Nodup
 disj:∀i∈Bp σ,∀j∈Bp σ,i≠j->∀b∈φ i,b∉φ j
 new:∀i∈Bp σ,∀b∈φ i,(b∈S/\b∉B)\/w0.heap.size<=b
 out:∀b∈B,b<w0.heap.size
 glob:∀g∈C.Γ,GRep (B++Ak φ σ) w g
def get:Fr->Nat->Dat
 |[],_=>.d .undef
 |
  (t,d)::fr,s=>match Nat.beq t s with
  |true=>d
  |false=>get fr s
def Gj(η:Nat->Value)(I O:List Nat)(w:World)(fr:Fr)(a:Act):Prop:=∀t,∃cs,A4 η I O w (get fr t) cs/\a.tmps.getD t undef=BD (get fr t) cs
structure Models(C:Cx)(B S:List Nat)(w0:World)(n:Nat)(fr:Fr)(σ:Sg)(η:Nat->Value)(φ:Nat->List Nat)(a:Act)(w:World):Prop where
 mem:Mem C B S w0 σ η φ w
 fr:Gj η (Bp σ) (B++Ak φ σ) w fr a
 defers:a.defers=[]
 size:a.tmps.size=n
theorem Mem.lt {C:Cx} {B S:List Nat} {w0 w:World} {σ:Sg} {η:Nat->Value} {φ:Nat->List Nat}(h:Mem C B S w0 σ η φ w):∀b∈B++Ak φ σ,b<w.heap.size:=by
 intro b hb
 rcases Ag.1 hb with hb|hb
 ·exact CK (h.out b hb) h.tch.size
 ·obtain⟨p,hp,hb⟩:=A9.1 hb
  exact(h.own p hp).lt b hb
theorem AP {σ:Sg} {p:Nat×Own}(h:p∈σ):p.1∈Bp σ:=C7 h
theorem Ba {φ:Nat->List Nat} {σ:Sg} {i:Nat} {b:Nat}(h:i∈Bp σ)(hb:b∈φ i):b∈Ak φ σ:=by
 obtain⟨p,hp,rfl⟩:=Aq.1 h
 exact A9.2 ⟨p,hp,hb⟩
theorem RepC.undef_ex(O:List Nat)(w:World)(v:Value):RepC O w .undef [v]:=by simp[RepC]
theorem Gj.put {η:Nat->Value} {I O:List Nat} {w:World} {fr:Fr} {a:Act}(h:Gj η I O w fr a) {t:Nat}(ht:t<a.tmps.size) {d:Dat} {v:Value} {cs:List Value}(hd:A4 η I O w d cs)(hv:v=BD d cs):Gj η I O w ((t,d)::fr) (a.put (some t) v):=by
 intro s
 simp only[get,Act.put]
 by_cases hs:t=s
 ·subst hs
  simp only[Nat.beq_refl]
  exact⟨cs,hd,by simp[Array.getD,ht,hv]⟩
 ·have:Nat.beq t s=false:=by
   cases hb:Nat.beq t s
   ·rfl
   ·exact absurd (Am hb) hs
  rw[this]
  obtain⟨c,h1,h2⟩:=h s
  refine⟨c,h1,?_⟩
  rw[<-h2]
  simp[Array.getElem?_setIfInBounds_ne hs]
theorem Gj.later {η η':Nat->Value} {I I' O O':List Nat} {w w':World} {fr:Fr} {a:Act}(h:Gj η I O w fr a)(hl:Later O w O' w')(hI:∀i∈I,i∈I'/\η' i=η i):Gj η' I' O' w' fr a:=by
 intro t
 obtain⟨cs,h1,h2⟩:=h t
 exact⟨cs,A4.later hl hI _ _ h1,h2⟩
def Ek(i:Nat)(x:Da):Fr->Fr
 |[]=>[]
 |(t,d)::fr=>(t,kill i x d)::Ek i x fr
theorem RL(i:Nat)(x:Da):∀(fr:Fr) (t:Nat),get (Ek i x fr) t=kill i x (get fr t)
 |[],t=>rfl
 |
  (s,d)::fr,t=>by
  simp only[Ek,get]
  cases Nat.beq s t
  ·exact RL i x fr t
  ·rfl
theorem Gj.kill {η η':Nat->Value} {I I' O O':List Nat} {w w':World} {fr:Fr} {a:Act} {i:Nat} {x:Da}(h:Gj η I O w fr a)(hx:x.one=true)(hl:Later O w O' w')(hI:∀j∈I,j≠i->j∈I'/\η' j=η j)(hr:RepC O' w' x [η i]):Gj η' I' O' w' (Ek i x fr) a:=by
 intro t
 obtain⟨cs,h1,h2⟩:=h t
 rw[RL]
 exact⟨cs,A4.kill hx hl hI hr _ _ h1,by rw[MQ hx];exact h2⟩
theorem Own.holds.kill {η η':Nat->Value} {I I' O O' S:List Nat} {w w':World} {o:Own} {v:Value} {F:List Nat} {i:Nat} {x:Da}(h:o.holds η I O w v F)(hx:x.one=true)(hl:Later O w O' w')(hI:∀j∈I,j≠i->j∈I'/\η' j=η j)(hr:RepC O' w' x [η i])(ht:Tch S w w')(hF:∀y∈F,y∉S):(Bw i x o).holds η' I' O' w' v F:=by
 cases o with
 |
  cells T ds=>
  obtain⟨b,cs,rfl,rfl,hb,hd⟩:=h
  exact⟨b,cs,rfl,rfl,hb.keep ht (hF b (by simp)),AX.kill hx hl hI hr _ _ hd⟩
 |
  slice E k ds=>
  obtain⟨css,hs,rfl,hd,hk⟩:=h
  exact⟨css,hs.keep ht (λb hb=>hF b (by simpa using hb)),rfl,Al.later hl _ _ hd,hk⟩
 |abs R k lt _=>exact k S w w' v F h ht hF
 |ghost vs ds=>obtain⟨h1,h2,css,h3,h4⟩:=h;exact⟨h1,h2,css,A7.kill hx hl hI hr _ _ h3,by rw[EB hx];exact h4⟩
end Go.Sx
namespace Go.Sx
open Go Go.RowKit Go.Reg
variable {C:Cx} {B S:List Nat} {w0 w w':World} {σ:Sg} {η η':Nat->Value} {φ φ':Nat->List Nat} {i:Nat} {o:Own}
theorem Later.same(h:Tch [] w w')(O:List Nat):Later O w O w':=⟨h.size,λb hb _=>h.blk b hb (by simp),λ_ h _=>h⟩
theorem Later.touch {X O:List Nat}(h:Tch X w w')(hX:∀b∈X,b∈O):Later O w O w':=⟨h.size,λb hb hn=>h.blk b hb (λhm=>hn (hX b hm)),λ_ h _=>h⟩
theorem Mem.grow(h:Mem C B S w0 σ η φ w)(t:Tch [] w w'):Mem C B S w0 σ η φ w':=
 ⟨h.tch.then0 t,λp hp=>(h.own p hp).later (Later.same t _) (λi hi=>⟨hi,rfl⟩) t (λ_ _=>by simp),h.nodup,h.disj,h.new,h.out,λg hg=>(h.glob g hg).later (Later.same t _)⟩
def Ds {α:Type}(f:Nat->α)(i:Nat)(v:α):Nat->α:=λj=>if j=i then v else f j
theorem CI {α:Type}(f:Nat->α)(i:Nat)(v:α):Ds f i v i=v:=by simp[Ds]
theorem C0 {α:Type}(f:Nat->α)(i:Nat)(v:α) {j:Nat}(h:j≠i):Ds f i v j=f j:=by simp[Ds,h]
theorem ID:∀{σ:Sg},(∀j∈Bp σ,φ' j=φ j)->Ak φ' σ=Ak φ σ
 |[],_=>rfl
 |
  p::σ,h=>by
  have h1:=h p.1 (by simp[Bp])
  have h2:=ID (σ:=σ) (λj hj=>h j (by simp only[Bp,Ap,Ar]at hj⊢;exact .inr hj))
  simp only[Ak,AZ]at h2⊢
  rw[h1,h2]
theorem XQ {F:List Nat}(hi:i∉Bp σ):Ak (Ds φ i F) ((i,o)::σ)=F++Ak φ σ:=by
 have:=ID (φ:=φ) (φ':=Ds φ i F) (σ:=σ) (λj hj=>C0 _ _ _ (λe=>hi (e▸hj)))
 simp only[Ak,AZ,CI]at this⊢
 rw[this]
theorem Mem.add(h:Mem C B S w0 σ η φ w)(t:Tch [] w w')(hi:i∉Bp σ) {v:Value} {F:List Nat}(hF:∀b∈F,w.heap.size<=b)
  (ho:o.holds (Ds η i v) (i::Bp σ) (B++(F++Ak φ σ)) w' v F):Mem C B S w0 ((i,o)::σ) (Ds η i v) (Ds φ i F) w'/\Later (B++Ak φ σ) w (B++Ak (Ds φ i F) ((i,o)::σ)) w':=by
 have hb:=XQ (φ:=φ) (o:=o) (F:=F) hi
 have hl:Later (B++Ak φ σ) w (B++Ak (Ds φ i F) ((i,o)::σ)) w':=by
  refine⟨t.size,λb h _=>t.blk b h (by simp),λb hn hs hm=>?_⟩
  rw[hb]at hm
  rcases Ag.1 hm with hm|hm
  ·exact hn (Az _ hm)
  ·rcases Ag.1 hm with hm|hm
   ·have:=hF b hm;omega
   ·exact hn (An _ hm)
 refine⟨⟨h.tch.then0 t,?_,?_,?_,?_,h.out,λg hg=>(h.glob g hg).later hl⟩,hl⟩
 ·intro p hp
  rcases Ar.1 hp with rfl|hp
  ·simp only[CI];rw[hb];exact ho
  ·have hne:p.1≠i:=λe=>hi (e▸AP hp)
   rw[C0 _ _ _ hne,C0 _ _ _ hne]
   exact(h.own p hp).later hl (λ_ hj=>⟨AB _ hj,C0 _ _ _ (λe=>hi (e▸hj))⟩) t (λ_ _=>by simp)
 ·exact Ce.2 ⟨hi,h.nodup⟩
 ·intro j hj k hk hjk b hb1 hb2
  have hlt:∀m∈Bp σ,∀b∈φ m,b<w.heap.size:=λm hm b hb=>h.lt b (An _ (Ba hm hb))
  rcases Ar.1 hj with e0|hj
  ·replace e0:j=i:=e0
   rcases Ar.1 hk with e3|hk
   ·exact hjk (e0.trans (Eq.symm e3))
   ·rw[e0,CI]at hb1;rw[C0 _ _ _ (λe=>hjk (e0.trans e.symm))]at hb2
    have:=hF b hb1;have:=hlt k hk b hb2;omega
  ·rcases Ar.1 hk with e3|hk
   ·replace e3:k=i:=e3
    rw[e3,CI]at hb2;rw[C0 _ _ _ (λe=>hjk (e.trans e3.symm))]at hb1
    have:=hF b hb2;have:=hlt j hj b hb1;omega
   ·have e1:j≠i:=λe=>hi (e▸hj)
    have e2:k≠i:=λe=>hi (e▸hk)
    rw[C0 _ _ _ e1]at hb1;rw[C0 _ _ _ e2]at hb2
    exact h.disj j hj k hk hjk b hb1 hb2
 ·intro j hj b hb1
  rcases Ar.1 hj with e0|hj
  ·replace e0:j=i:=e0
   rw[e0,CI]at hb1
   have:=hF b hb1;have:=h.tch.size;right;omega
  ·have e1:j≠i:=λe=>hi (e▸hj)
   rw[C0 _ _ _ e1]at hb1
   exact h.new j hj b hb1
theorem Gj.add {fr:Fr} {a:Act}(h:Gj η (Bp σ) (B++Ak φ σ) w fr a)(hi:i∉Bp σ) {v:Value} {F:List Nat}(hl:Later (B++Ak φ σ) w (B++Ak (Ds φ i F) ((i,o)::σ)) w'):
  Gj (Ds η i v) (Bp ((i,o)::σ)) (B++Ak (Ds φ i F) ((i,o)::σ)) w' fr a:=
 h.later hl (λ_ hj=>⟨AB _ hj,C0 _ _ _ (λe=>hi (e▸hj))⟩)
def BA(i:Nat):Sg->Option Own
 |[]=>none
 |
  (j,o)::σ=>match Nat.beq j i with
  |true=>some o
  |false=>BA i σ
def B2(g:Own->Own)(i:Nat)(o:Own):Sg->Sg
 |[]=>[]
 |
  (j,p)::σ=>match Nat.beq j i with
  |true=>(j,o)::B2 g i o σ
  |false=>(j,g p)::B2 g i o σ
def CS(g:Own->Own)(i:Nat):Sg->Sg
 |[]=>[]
 |
  (j,p)::σ=>match Nat.beq j i with
  |true=>CS g i σ
  |false=>(j,g p)::CS g i σ
theorem Bd:∀{σ:Sg},BA i σ=some o->(i,o)∈σ
 |[],h=>by simp[BA]at h
 |
  (j,p)::σ,h=>by
  rcases Bh j i with⟨hb,e⟩|⟨hb,e⟩
  ·simp only[BA,hb,Au]at h;subst e;subst h;simp
  ·simp only[BA,hb]at h;exact AB _ (Bd h)
theorem Bg(g:Own->Own)(i:Nat)(o:Own):∀σ:Sg,Bp (B2 g i o σ)=Bp σ
 |[]=>rfl
 |
  (j,p)::σ=>by
  have ih:=Bg g i o σ
  simp only[Bp]at ih
  rcases Bh j i with⟨hb,e⟩|⟨hb,e⟩<;>simp only[B2,hb,Bp,Ap,ih]
theorem H9 {g:Own->Own}:∀{σ:Sg} {p:Nat×Own},p∈B2 g i o σ->p=(i,o)\/∃q∈σ,q.1≠i/\p=(q.1,g q.2)
 |[],p,h=>by simp[B2]at h
 |
  (j,q)::σ,p,h=>by
  rcases Bh j i with⟨hb,e⟩|⟨hb,e⟩
  ·simp only[B2,hb]at h
   rcases Ar.1 h with rfl|h
   ·subst e;exact .inl rfl
   ·rcases H9 h with h|⟨q',hq,h1,h2⟩
    ·exact .inl h
    ·exact .inr ⟨q',AB _ hq,h1,h2⟩
  ·simp only[B2,hb]at h
   rcases Ar.1 h with rfl|h
   ·exact .inr ⟨(j,q),by simp,e,rfl⟩
   ·rcases H9 h with h|⟨q',hq,h1,h2⟩
    ·exact .inl h
    ·exact .inr ⟨q',AB _ hq,h1,h2⟩
theorem Ey {g:Own->Own}:∀{σ:Sg} {p:Nat×Own},p∈CS g i σ->∃q∈σ,q.1≠i/\p=(q.1,g q.2)
 |[],p,h=>by simp[CS]at h
 |
  (j,q)::σ,p,h=>by
  rcases Bh j i with⟨hb,e⟩|⟨hb,e⟩
  ·simp only[CS,hb]at h
   obtain⟨q',hq,h1,h2⟩:=Ey h
   exact⟨q',AB _ hq,h1,h2⟩
  ·simp only[CS,hb]at h
   rcases Ar.1 h with rfl|h
   ·exact⟨(j,q),by simp,e,rfl⟩
   ·obtain⟨q',hq,h1,h2⟩:=Ey h
    exact⟨q',AB _ hq,h1,h2⟩
theorem Eb(g:Own->Own)(i:Nat):∀σ:Sg,Bp (CS g i σ)=(Bp σ).filter (· !=i)
 |[]=>rfl
 |
  (j,p)::σ=>by
  have ih:=Eb g i σ
  simp only[Bp]at ih
  rcases Bh j i with⟨hb,e⟩|⟨hb,e⟩
  ·subst e;simp only[CS,hb,Bp,Ap,ih];simp
  ·simp only[CS,hb,Bp,Ap,ih];simp[e]
theorem Fp {g:Own->Own}(F:List Nat):∀b,b∈Ak (Ds φ i F) (B2 g i o σ)->b∈F\/∃j∈Bp σ,j≠i/\b∈φ j:=by
 intro b hb
 obtain⟨p,hp,hb⟩:=A9.1 hb
 rcases H9 hp with rfl|⟨q,hq,h1,rfl⟩
 ·simp only[CI]at hb;exact .inl hb
 ·simp only[C0 _ _ _ h1]at hb;exact .inr ⟨q.1,AP hq,h1,hb⟩
theorem Mem.turn(h:Mem C B S w0 σ η φ w) {X:List Nat}(t:Tch X w w')(hX:∀b∈X,b∈φ i)(hi:i∈Bp σ) {v:Value} {F:List Nat}(hF:∀b∈F,b∈φ i\/w.heap.size<=b) {g:Own->Own}
  (hl:Later (B++Ak φ σ) w (B++Ak (Ds φ i F) (B2 g i o σ)) w')
  (hg:∀q∈σ,q.1≠i->q.2.holds η (Bp σ) (B++Ak φ σ) w (η q.1) (φ q.1)->(g q.2).holds (Ds η i v) (Bp σ) (B++Ak (Ds φ i F) (B2 g i o σ)) w' (η q.1) (φ q.1))
  (ho:o.holds (Ds η i v) (Bp σ) (B++Ak (Ds φ i F) (B2 g i o σ)) w' v F):Mem C B S w0 (B2 g i o σ) (Ds η i v) (Ds φ i F) w':=by
 have hX':∀b∈X,b∈S\/w0.heap.size<=b:=λb hb=>(h.new i hi b (hX b hb)).imp (λh=>h.1) id
 have hlt:∀m∈Bp σ,∀b∈φ m,b<w.heap.size:=λm hm b hb=>h.lt b (An _ (Ba hm hb))
 refine⟨h.tch.trans t (λ_ h=>h) hX',?_,by rw[Bg];exact h.nodup,?_,?_,h.out,λg hg=>(h.glob g hg).later hl⟩
 ·intro p hp
  rw[Bg]
  rcases H9 hp with rfl|⟨q,hq,h1,rfl⟩
  ·simp only[CI];exact ho
  ·simp only[C0 _ _ _ h1]
   exact hg q hq h1 (h.own q hq)
 ·rw[Bg]
  intro j hj k hk hjk b hb1 hb2
  by_cases e1:j=i
  ·subst e1
   rw[CI]at hb1;rw[C0 _ _ _ (Ne.symm hjk)]at hb2
   rcases hF b hb1 with h1|h1
   ·exact h.disj j hj k hk hjk b h1 hb2
   ·have:=hlt k hk b hb2;omega
  ·rw[C0 _ _ _ e1]at hb1
   by_cases e2:k=i
   ·subst e2
    rw[CI]at hb2
    rcases hF b hb2 with h1|h1
    ·exact h.disj j hj k hk hjk b hb1 h1
    ·have:=hlt j hj b hb1;omega
   ·rw[C0 _ _ _ e2]at hb2
    exact h.disj j hj k hk hjk b hb1 hb2
 ·rw[Bg]
  intro j hj b hb1
  by_cases e1:j=i
  ·subst e1
   rw[CI]at hb1
   rcases hF b hb1 with h1|h1
   ·exact h.new j hj b h1
   ·have:=h.tch.size;right;omega
  ·rw[C0 _ _ _ e1]at hb1
   exact h.new j hj b hb1
theorem Later.turn(B:List Nat) {X:List Nat}(t:Tch X w w')(hX:∀b∈X,b∈φ i)(hi:i∈Bp σ) {F:List Nat}(hF:∀b∈F,b∈φ i\/w.heap.size<=b)(g:Own->Own)(o:Own):
  Later (B++Ak φ σ) w (B++Ak (Ds φ i F) (B2 g i o σ)) w':=by
 refine⟨t.size,λb hb hn=>t.blk b hb (λhm=>hn (An _ (Ba hi (hX b hm)))),λb hn hs hm=>?_⟩
 rcases Ag.1 hm with hm|hm
 ·exact hn (Az _ hm)
 ·rcases Fp F b hm with hm|⟨j,hj,_,hm⟩
  ·rcases hF b hm with hm|hm
   ·exact hn (An _ (Ba hi hm))
   ·omega
  ·exact hn (An _ (Ba hj hm))
theorem Mem.turnSame(h:Mem C B S w0 σ η φ w) {X:List Nat}(t:Tch X w w')(hX:∀b∈X,b∈φ i)(hi:i∈Bp σ) {F:List Nat}(hF:∀b∈F,b∈φ i\/w.heap.size<=b)
  (ho:o.holds η (Bp σ) (B++Ak (Ds φ i F) (B2 id i o σ)) w' (η i) F):Mem C B S w0 (B2 id i o σ) η (Ds φ i F) w':=by
 have he:Ds η i (η i)=η:=by funext j;by_cases e:j=i<;>simp[Ds,e]
 have hl:=Later.turn B t hX hi hF id o
 have:=h.turn (v:=η i) (g:=id) t hX hi hF hl (λq hq hne hh=>by
  rw[he]
  exact hh.later hl (λj hj=>⟨hj,rfl⟩) t (λb hb hm=>h.disj q.1 (AP hq) i hi hne b hb (hX b hm))) (by rw[he];exact ho)
 rw[he]at this
 exact this
theorem Mem.turnKill(h:Mem C B S w0 σ η φ w) {X:List Nat}(t:Tch X w w')(hX:∀b∈X,b∈φ i)(hi:i∈Bp σ) {v:Value} {F:List Nat}(hF:∀b∈F,b∈φ i\/w.heap.size<=b)
  (ho:o.holds (Ds η i v) (Bp σ) (B++Ak (Ds φ i F) (B2 (Bw i .undef) i o σ)) w' v F):Mem C B S w0 (B2 (Bw i .undef) i o σ) (Ds η i v) (Ds φ i F) w':=by
 have hl:=Later.turn B t hX hi hF (Bw i .undef) o
 exact h.turn t hX hi hF hl (λq hq hne hh=>hh.kill rfl hl (λj hj hne=>⟨hj,C0 _ _ _ hne⟩) ⟨_,rfl⟩ t (λb hb hm=>h.disj q.1 (AP hq) i hi hne b hb (hX b hm))) ho
theorem Mem.del(h:Mem C B S w0 σ η φ w) {x:Da}(hx:x.one=true)(hr:RepC (B++Ak φ (CS (Bw i x) i σ)) w x [η i]):
  Mem C B S w0 (CS (Bw i x) i σ) η φ w/\Later (B++Ak φ σ) w (B++Ak φ (CS (Bw i x) i σ)) w:=by
 have hl:Later (B++Ak φ σ) w (B++Ak φ (CS (Bw i x) i σ)) w:=by
  refine⟨Av _,λ_ _ _=>rfl,λb hn hs hm=>?_⟩
  rcases Ag.1 hm with hm|hm
  ·exact hn (Az _ hm)
  ·obtain⟨p,hp,hb⟩:=A9.1 hm
   obtain⟨q,hq,_,rfl⟩:=Ey hp
   exact hn (An _ (Ba (AP hq) hb))
 have hI:∀j∈Bp σ,j≠i->j∈Bp (CS (Bw i x) i σ)/\η j=η j:=λj hj hne=>⟨by rw[Eb];exact A3.2 ⟨hj,by simpa using hne⟩,rfl⟩
 have hsub:∀j∈Bp (CS (Bw i x) i σ),j∈Bp σ:=λj hj=>by rw[Eb]at hj;exact(A3.1 hj).1
 refine⟨⟨h.tch,?_,?_,?_,?_,h.out,λg hg=>(h.glob g hg).later hl⟩,hl⟩
 ·intro p hp
  obtain⟨q,hq,hne,rfl⟩:=Ey hp
  exact(h.own q hq).kill hx hl hI hr (Tch.refl [] w) (λ_ _=>by simp)
 ·rw[Eb];exact h.nodup.filter _
 ·exactλj hj k hk=>h.disj j (hsub j hj) k (hsub k hk)
 ·exactλj hj=>h.new j (hsub j hj)
end Go.Sx
namespace Go.Sx
open Go Go.RowKit Go.Reg
structure TyI where
 agg:Bool
 size:Nat
 bytes:Nat
 flds:List (Nat×TypeId)
 zero:Da
 elem:TypeId
 ik:Option IntKind
 kd:Nat
 cmp:Bool
abbrev Fm:=List (TypeId×TyI)
def En(t:TypeId):Fm->Option TyI
 |[]=>none
 |
  (u,e)::l=>match Nat.beq u t with
  |true=>some e
  |false=>En t l
mutual
def Da.size:Da->Nat
 |.agg ds=>Yn ds
 |_=>1
def Yn:List Da->Nat
 |[]=>0
 |d::ds=>d.size+Yn ds
end
def Da.isAgg:Da->Bool
 |.agg _=>true
 |_=>false
mutual
def Dat.size:Dat->Nat
 |.d x=>x.size
 |.agg ds=>KN ds
 |_=>1
def KN:List Dat->Nat
 |[]=>0
 |d::ds=>d.size+KN ds
end
def Dat.isAgg:Dat->Bool
 |.d x=>x.isAgg
 |.agg _=>true
 |_=>false
def Dat.fits(d:Dat)(e:TyI):Bool:=(d.isAgg==e.agg)&&Nat.beq d.size e.size
def Da.fits(d:Da)(e:TyI):Bool:=(d.isAgg==e.agg)&&Nat.beq d.size e.size
mutual
def Da.stor:Da->Bool
 |.undef|.tuple _|.raw _=>false
 |.agg ds=>Yj ds
 |_=>true
def Yj:List Da->Bool
 |[]=>true
 |d::ds=>d.stor&&Yj ds
end
mutual
def Dat.stor:Dat->Bool
 |.d x=>x.stor
 |.tuple _=>false
 |.agg ds=>Su ds
 |_=>true
def Su:List Dat->Bool
 |[]=>true
 |d::ds=>d.stor&&Su ds
end
def B8:List Da->List Dat
 |[]=>[]
 |x::xs=>.d x::B8 xs
def Dat.parts:Dat->Option (List Dat)
 |.d (.agg xs)=>some (B8 xs)
 |.agg ds=>some ds
 |_=>none
def Dat.cellsOf(d:Dat):List Dat:=match d with
 |.d (.agg xs)=>B8 xs
 |.agg ds=>ds
 |d=>[d]
def I2(e:TyI):Nat->List Dat->Nat->Option Dat
 |0,_,_=>none
 |_+1,[],_=>none
 |
  f+1,d::ds,o=>match Nat.blt o d.size with
  |false=>I2 e f ds (o-d.size)
  |
   true=>match Nat.beq o 0&&d.fits e with
   |true=>some d
   |
    false=>match d.parts with
    |some es=>I2 e f es o
    |none=>none
def oF(d:Dat):Option (List Dat)->Option (List Dat)
 |some l=>some (d::l)
 |none=>none
def sK(ds:List Dat):Option (List Dat)->Option (List Dat)
 |some l=>some (.agg l::ds)
 |none=>none
def LU(x:Dat):Nat->List Dat->Nat->Option (List Dat)
 |0,_,_=>none
 |_+1,[],_=>none
 |
  f+1,d::ds,o=>match Nat.blt o d.size with
  |false=>oF d (LU x f ds (o-d.size))
  |
   true=>match Nat.beq o 0&&(d.isAgg==x.isAgg)&&Nat.beq d.size x.size with
   |true=>some (x::ds)
   |
    false=>match d.parts with
    |some es=>sK ds (LU x f es o)
    |none=>none
def DY:List Dat->Option (List Da)
 |[]=>some []
 |
  .d x::ds=>match DY ds with
  |some xs=>some (x::xs)
  |none=>none
 |_::_=>none
def UC(ds:List Dat):Dat:=match DY ds with
 |some xs=>.d (.agg xs)
 |none=>.agg ds
def Y6(ds:List Dat):Dat:=match DY ds with
 |some xs=>.d (.tuple xs)
 |none=>.tuple ds
def SM(t:TypeId):Dat->Dat
 |.d x=>.d (.iface t x)
 |d=>.iface t d
def Xb(fn:Fn)(f c:List Dat):Dat:=match DY f,DY c with
 |some fs,some cs=>.d (.func fn fs cs)
 |_,_=>.func fn f c
def Ni:Value->Da
 |.int k n=>.int k n
 |.bool b=>.bool b
 |.string s=>.str s
 |.pointer none=>.nilp
 |.slice none 0 0=>.nils
 |.map none=>.nilm
 |.nilFunc=>.nilf
 |.nilIface=>.nili
 |v=>.raw v
def Y2:Value->Da
 |.agg cs=>.agg (cs.toList.map Ni)
 |v=>Ni v
def glob(g:Nat):List (Nat×Da)->Da
 |[]=>.raw (.pointer (some ⟨g,0,none⟩))
 |
  (h,x)::l=>match Nat.beq h g with
  |true=>.ref x
  |false=>glob g l
def ev(Γ:List (Nat×Da))(fr:Fr):Operand->Dat
 |.tmp t=>get fr t
 |.const v=>.d (Y2 v)
 |.global g=>.d (glob g Γ)
 |.func f=>.d (.func (.func f) [] [])
def bY(Γ:List (Nat×Da))(fr:Fr):List Operand->List Dat
 |[]=>[]
 |x::xs=>ev Γ fr x::bY Γ fr xs
abbrev KD:=Dat->Fr->Sg->Prop
def force(d:Dat)(K:Dat->Prop):Prop:=match d with
 |.d x=>K (.d x)
 |.own i=>K (.own i)
 |.at_ i o=>K (.at_ i o)
 |.el i k n o=>K (.el i k n o)
 |.agg ds=>K (.agg ds)
 |.tuple ds=>K (.tuple ds)
 |.iface t d=>K (.iface t d)
 |.func f a b=>K (.func f a b)
theorem HP(d:Dat)(K:Dat->Prop):force d K=K d:=by cases d<;>rfl
def rM(k:IntKind)(e:Int)(K:Int->Prop):Prop:=∃n,k.wrap e=n/\K n
def IA:Nat->List Da->Nat
 |0,_=>0
 |_+1,[]=>0
 |n+1,d::ds=>d.size+IA n ds
def CL:Nat->List Dat->Nat
 |0,_=>0
 |_+1,[]=>0
 |n+1,d::ds=>d.size+CL n ds
def C8(T:Fm)(t:TypeId)(no:Prop)(K:TyI->Prop):Prop:=match En t T with
 |some e=>K e
 |none=>no
def CC {α:Type}(o:Option α)(no:Prop)(K:α->Prop):Prop:=match o with
 |some x=>K x
 |none=>no
def CD(b:Bool)(no K:Prop):Prop:=match b with
 |true=>K
 |false=>no
def gC(kd:Nat)(x:Dat)(σ:Sg):Option Bool:=match kd with
 |
  1=>(match x with
  |.d .nilp=>some true
  |.d (.ref _)|.at_ _ _|.el _ _ _ _=>some false
  |.own i=>(match BA i σ with|some (.cells _ _)=>some false|_=>none)
  |_=>none)
 |
  2=>(match x with
  |.d .nils=>some true
  |.d (.list _ (_::_))=>some false
  |.own i=>(match BA i σ with|some (.slice _ _ (_::_))=>some false|_=>none)
  |_=>none)
 |
  3=>(match x with
  |.d .nilm=>some true
  |_=>none)
 |
  4=>(match x with
  |.d .nilf=>some true
  |.d (.func _ _ _)|.func _ _ _=>some false
  |_=>none)
 |
  5=>(match x with
  |.d .nili=>some true
  |.d (.iface _ _)|.iface _ _=>some false
  |_=>none)
 |_=>none
def Qa(kd:Nat)(x:Dat):Bool:=match kd,x with
 |1,.d .nilp=>true
 |2,.d .nils=>true
 |3,.d .nilm=>true
 |4,.d .nilf=>true
 |5,.d .nili=>true
 |_,_=>false
def pr(p:Prop) [i:Decidable p]:Dat:=.d (.prop p i)
def dA(op:BinOp)(k:IntKind)(a b:Int)(K:Dat->Prop)(no:Prop):Prop:=match op with
 |.add=>rM k (a+b) λn=>K (.d (.int k n))
 |.sub=>rM k (a-b) λn=>K (.d (.int k n))
 |.mul=>rM k (a*b) λn=>K (.d (.int k n))
 |.quo=>b≠0/\rM k (a.tdiv b) λn=>K (.d (.int k n))
 |.rem=>b≠0/\K (.d (.int k (a.tmod b)))
 |.eql=>K (pr (a=b))
 |.neq=>K (pr (¬a=b))
 |.lss=>K (pr (a<b))
 |.leq=>K (pr (a<=b))
 |.gtr=>K (pr (b<a))
 |.geq=>K (pr (b<=a))
 |_=>no
def JK(op:BinOp)(p q:Prop) [Decidable p] [Decidable q](K:Dat->Prop)(no:Prop):Prop:=match op with
 |.eql=>K (pr (p↔q))
 |.neq=>K (pr (¬(p↔q)))
 |_=>no
def cT(op:BinOp)(a b:ByteArray)(K:Dat->Prop)(no:Prop):Prop:=match op with
 |.eql=>K (pr (a=b))
 |.neq=>K (pr (¬a=b))
 |.add=>a.size+b.size<=9223372036854775807/\K (.d (.str (a++b)))
 |_=>no
def cW(kd:Nat)(op:BinOp)(x y:Dat)(σ:Sg)(K:Dat->Prop)(no:Prop):Prop:=
 match Qa kd y,gC kd x σ,op with
 |true,some b,.eql=>K (.d (.bool b))
 |true,some b,.neq=>K (.d (.bool (!b)))
 |_,_,_=>no
def SX:Operand->Bool
 |.const .nilIface=>true
 |_=>false
def dC(T:Fm)(t:TypeId)(op:BinOp)(yc:Bool)(x y:Dat)(σ:Sg)(K:Dat->Prop)(no:Prop):Prop:=
 match x,y with
 |.d (.int k a),.d (.int k' b)=>CD (decide (k=k')) no (dA op k a b K no)
 |.d (.str a),.d (.str b)=>cT op a b K no
 |.d (.bool a),.d (.bool b)=>C8 T t no λe=>CD (Nat.beq e.kd 9) no (JK op (a=true) (b=true) K no)
 |.d (.bool a),.d (.prop q _)=>C8 T t no λe=>CD (Nat.beq e.kd 9) no (JK op (a=true) q K no)
 |.d (.prop p _),.d (.bool b)=>C8 T t no λe=>CD (Nat.beq e.kd 9) no (JK op p (b=true) K no)
 |.d (.prop p _),.d (.prop q _)=>C8 T t no λe=>CD (Nat.beq e.kd 9) no (JK op p q K no)
 |x,y=>C8 T t no λe=>CD (yc||!(Nat.beq e.kd 5)) no (cW e.kd op x y σ K no)
def pG(op:UnOp)(x:Dat)(K:Dat->Prop)(no:Prop):Prop:=match op,x with
 |.not,.d (.bool b)=>K (.d (.bool (!b)))
 |.not,.d (.prop p _)=>K (pr (¬p))
 |.neg,.d (.int k n)=>rM k (-n) λm=>K (.d (.int k m))
 |_,_=>no
def kY(d:Dat)(yes no:Dat->Prop)(bad:Prop):Prop:=match d with
 |.d (.bool true)=>yes (.d (.bool true))
 |.d (.bool false)=>no (.d (.bool false))
 |.d (.prop p _)=>(p->yes (.d (.bool true)))/\(¬p->no (.d (.bool false)))
 |_=>bad
def Qj(i:Nat)(σ:Sg)(K:Nat->Prop)(no:Prop):Prop:=match BA i σ with
 |none=>K i
 |
  some _=>match BA (i+1000) σ with
  |none=>K (i+1000)
  |
   some _=>match BA (i+2000) σ with
   |none=>K (i+2000)
   |some _=>no
def Cc(n:Nat):List Dat->Option Dat
 |[]=>none
 |
  d::ds=>match n with
  |0=>some d
  |m+1=>Cc m ds
def Eu(n:Nat)(x:Dat):List Dat->List Dat
 |[]=>[]
 |
  d::ds=>match n with
  |0=>x::ds
  |m+1=>d::Eu m x ds
def E3(n:Nat):List Da->Option Da
 |[]=>none
 |
  d::ds=>match n with
  |0=>some d
  |m+1=>E3 m ds
def Sq(T:Fm)(t:TypeId)(x:Dat)(σ:Sg)(K:Dat->Prop)(no:Prop):Prop:=C8 T t no λe=>match x with
 |.d (.ref y)=>CD (y.fits e) no (K (.d y))
 |
  .own i=>CC (BA i σ) no λo=>(match o with
  |
   .cells t0 ds=>(match Nat.beq t t0&&e.agg with
   |true=>CD (Nat.beq (KN ds) e.size) no (force (UC ds) K)
   |false=>CC (I2 e 200 ds 0) no λd=>force d K)
  |_=>no)
 |
  .at_ i off=>CC (BA i σ) no λo=>(match o with
  |.cells _ ds=>CC (I2 e 200 ds off) no λd=>force d K
  |_=>no)
 |
  .el i k0 n off=>CC (BA i σ) no λo=>(match o with
  |.slice _ k ds=>CD (Nat.beq k0 k) no (∃d,ds[n]? =some d/\CC (I2 e 200 [.d d] off) no λd=>force d K)
  |_=>no)
 |_=>no
def Sm(T:Fm)(t:TypeId)(x v:Dat)(σ:Sg)(K:Sg->Prop)(no:Prop):Prop:=C8 T t no λe=>CD (v.fits e&&v.stor) no (match x with
 |
  .own i=>CC (BA i σ) no λo=>(match o with
  |
   .cells t0 ds=>(match Nat.beq t t0&&e.agg with
   |true=>CD (Nat.beq (KN ds) e.size) no (K (B2 id i (.cells t0 v.cellsOf) σ))
   |false=>CC (LU v 200 ds 0) no λds'=>K (B2 id i (.cells t0 ds') σ))
  |_=>no)
 |
  .at_ i off=>CC (BA i σ) no λo=>(match o with
  |.cells T ds=>CC (LU v 200 ds off) no λds'=>K (B2 id i (.cells T ds') σ)
  |_=>no)
 |
  .el i k0 n off=>CC (BA i σ) no λo=>(match o with
  |
   .slice E k ds=>CD (Nat.beq k0 k) no (∃d,ds[n]? =some d/\CC (LU v 200 [.d d] off) no λds'=>CC (DY ds') no λxs=>(match xs with
   |[y]=>K (B2 id i (.slice E k (ds.set n y)) σ)
   |_=>no))
  |_=>no)
 |_=>no)
def IX(T:Fm)(t:TypeId)(x:Dat)(n:Nat)(σ:Sg)(K:Dat->Prop)(no:Prop):Prop:=C8 T t no λe=>CC e.flds[n]? no λos=>CD e.agg no<|match x with
 |.d (.ref (.agg ds))=>CD (Nat.beq (IA n ds) os.1) no (CC (E3 n ds) no λd=>K (.d (.ref d)))
 |.own i=>CC (BA i σ) no λo=>(match o with|.cells _ _=>K (.at_ i os.1)|_=>no)
 |.at_ i off=>K (.at_ i (off+os.1))
 |.el i k m off=>K (.el i k m (off+os.1))
 |_=>no
def tP(n:Int)(len:Nat)(K:Nat->Prop):Prop:=∃j:Nat,n=j/\j<len/\K j
def IW(T:Fm)(t:TypeId)(x ix:Dat)(σ:Sg)(K:Dat->Prop)(no:Prop):Prop:=C8 T t no λe=>C8 T e.elem no λee=>CD (Nat.beq e.kd 2) no<|match ix with
 |
  .d (.int _ n)=>(match x with
  |.d (.list k ds)=>CD (Nat.beq k ee.size) no (∃(j:Nat) (d:Da),n=j/\ds[j]? =some d/\K (.d (.ref d)))
  |
   .own i=>CC (BA i σ) no λo=>(match o with
   |.slice _ k ds=>CD (Nat.beq k ee.size) no (tP n ds.length λj=>K (.el i k j 0))
   |_=>no)
  |_=>no)
 |_=>no
def cY(T:Fm)(t:TypeId)(x:Dat)(σ:Sg)(K:Dat->Prop)(no:Prop):Prop:=C8 T t no λe=>CD (Nat.beq e.kd 2||Nat.beq e.kd 7) no<|match x with
 |.d (.list _ ds)=>CD (Nat.beq e.kd 2) no (K (.d (.int .i64 ds.length)))
 |.d .nils=>CD (Nat.beq e.kd 2) no (K (.d (.int .i64 0)))
 |.d (.str s)=>CD (Nat.beq e.kd 7) no (K (.d (.int .i64 s.size)))
 |
  .own i=>CC (BA i σ) no λo=>(match o with
  |.slice _ _ ds=>CD (Nat.beq e.kd 2) no (K (.d (.int .i64 ds.length)))
  |_=>no)
 |_=>no
def Vy(x:Dat)(k:Nat)(σ:Sg):Option (List Da):=match x with
 |.d (.list k' ds)=>(match Nat.beq k' k with|true=>some ds|false=>none)
 |.d .nils=>some []
 |
  .own i=>(match BA i σ with
  |some (.slice _ k' ds)=>(match Nat.beq k' k with|true=>some ds|false=>none)
  |_=>none)
 |_=>none
def qF(i:Nat):Dat->Bool
 |.own j=>!(Nat.beq i j)
 |_=>true
def Mf:Nat:=4294967296
def FF(b:Nat):Nat:=140737488355328/b
def Mv:List Dat->(List Dat->Prop)->Prop
 |[],K=>K []
 |d::ds,K=>force d λd=>Mv ds λds=>K (d::ds)
def X6(o:Own)(K:Own->Prop):Prop:=match o with
 |.cells T ds=>Mv ds λds=>K (.cells T ds)
 |.slice E k ds=>K (.slice E k ds)
 |.abs R a b c=>K (.abs R a b c)
 |.ghost vs ds=>Mv ds λds=>K (.ghost vs ds)
def BP:Sg->(Sg->Prop)->Prop
 |[],K=>K []
 |(i,o)::σ,K=>X6 o λo=>BP σ λσ=>K ((i,o)::σ)
def EP:Fr->(Fr->Prop)->Prop
 |[],K=>K []
 |(t,d)::fr,K=>force d λd=>EP fr λfr=>K ((t,d)::fr)
theorem Qk:∀(ds:List Dat) (K:List Dat->Prop),Mv ds K=K ds
 |[],K=>rfl
 |d::ds,K=>by simp only[Mv,HP,Qk ds]
theorem aS(o:Own)(K:Own->Prop):X6 o K=K o:=by cases o<;>simp[X6,Qk]
theorem Bl:∀(σ:Sg) (K:Sg->Prop),BP σ K=K σ
 |[],K=>rfl
 |(i,o)::σ,K=>by simp only[BP,aS,Bl σ]
theorem Dp:∀(fr:Fr) (K:Fr->Prop),EP fr K=K fr
 |[],K=>rfl
 |(t,d)::fr,K=>by simp only[EP,HP,Dp fr]
def Fi(i:Nat)(o:Own):Sg->Sg
 |[]=>[(i,o)]
 |
  (j,p)::σ=>match Nat.blt i j with
  |true=>(i,o)::(j,p)::σ
  |false=>(j,p)::Fi i o σ
def Pg(T:Fm)(t:TypeId)(x y:Dat)(dst:Option Nat)(fr:Fr)(σ:Sg)(K:KD)(no:Prop):Prop:=C8 T t no λe=>C8 T e.elem no λee=>CD (decide (0<ee.size)&&decide (ee.bytes<=1000)&&Nat.beq e.kd 2) no<|match x with
 |
  .own i=>CC (BA i σ) no λo=>(match o with
  |.slice E k ds=>CD (Nat.beq k ee.size&&Nat.beq E e.elem&&qF i y) no<|CC (Vy y k σ) no λes=>
    ds.length+es.length<=FF ee.bytes/\EP (Ek i .undef fr) λfr=>BP (B2 (Bw i .undef) i (.slice E k (ds++es)) σ) λσ=>K (.own i) fr σ
  |_=>no)
 |.d .nils=>CC (Vy y ee.size σ) no λes=>es.length<=FF ee.bytes/\CC dst no λt=>Qj t σ (λi=>BP (Fi i (.slice e.elem ee.size es) σ) λσ=>K (.own i) fr σ) no
 |_=>no
def IZ:List (Nat×Operand)->(Operand->Dat)->List Dat->List Dat
 |[],_,ds=>ds
 |(i,x)::ps,f,ds=>IZ ps f (Eu i (f x) ds)
def FV(T:Fm)(e:TyI):List (Nat×Operand)->(Operand->Dat)->List Dat->Bool
 |[],_,_=>true
 |
  (i,x)::ps,f,ds=>(match Cc i ds,e.flds[i]? with
  |
   some d,some (off,ft)=>(match En ft T with
   |some fe=>(d.isAgg==(f x).isAgg)&&Nat.beq d.size (f x).size&&Nat.beq fe.size (f x).size&&Nat.beq (CL i ds) off&&(f x).stor&&FV T e ps f ds
   |none=>false)
  |_,_=>false)
structure PD where
 p:Prop
 d:Decidable p
def PD.of(p:Prop) [i:Decidable p]:PD:=⟨p,i⟩
def PD.and(x y:PD):PD:=⟨x.p/\y.p,@instDecidableAnd _ _ x.d y.d⟩
def YG(kd:Nat)(a b:Dat):Option PD:=match kd,a,b with
 |8,.d (.int k x),.d (.int k' y)=>(match decide (k=k')with|true=>some (PD.of (x=y))|false=>none)
 |7,.d (.str x),.d (.str y)=>some (PD.of (x=y))
 |9,.d (.bool x),.d (.bool y)=>some (PD.of (x=y))
 |_,_,_=>none
def N3(T:Fm)(dx dy:List Dat):List (Nat×TypeId)->Nat->Option PD
 |[],_=>some (PD.of True)
 |
  (off,ft)::l,i=>match En ft T,Cc i dx,Cc i dy with
  |
   some fe,some a,some b=>(match YG fe.kd a b,Nat.beq (CL i dx) off&&Nat.beq (CL i dy) off with
   |
    some p,true=>(match l with
    |[]=>some p
    |
     _::_=>match N3 T dx dy l (i+1)with
     |some q=>some (p.and q)
     |none=>none)
   |_,_=>none)
  |_,_,_=>none
def pH(op:BinOp)(p:PD)(K:Dat->Prop)(no:Prop):Prop:=match op with
 |.eql=>K (.d (.prop p.p p.d))
 |.neq=>K (.d (.prop (¬p.p) (@instDecidableNot _ p.d)))
 |_=>no
def Ss(T:Fm)(t:TypeId)(x:Dat)(n:Nat)(K:Dat->Prop)(no:Prop):Prop:=C8 T t no λe=>CC e.flds[n]? no λos=>C8 T os.2 no λfe=>CC x.parts no λds=>CC (Cc n ds) no λd=>CD (d.fits fe&&Nat.beq (CL n ds) os.1&&e.agg) no (force d K)
end Go.Sx
namespace Go.Sx
open Go Go.RowKit Go.Reg
def GN(C:Cx)(B S:List Nat)(w0:World)(n:Nat)(K:Fr->Sg->Prop)(a:Act)(w:World):Prop:=
 ∃fr σ η φ,Models C B S w0 n fr σ η φ a w/\K fr σ
def AY(C:Cx)(n kd:Nat)(o:Oper)(K:Fr->Sg->Prop)(fr:Fr)(σ:Sg):Prop:=
 ∀(B S:List Nat) (w0:World) (η:Nat->Value) (φ:Nat->List Nat) (a:Act) (w:World),Models C B S w0 n fr σ η φ a w->match kd with
  |0=>Bf a o=true/\o.wp C.P a w (GN C B S w0 n K) No
  |5=>∃v,(∀w2,Ij w w2->(execOp a.eval o).run C.P w2=.ok (.value v) w2)/\GN C B S w0 n K (a.put o.dst v) w
  |2=>o.wp C.P a w (λa' w'=>Ij w w'/\GN C B S w0 n K a' w') No
  |_=>o.wp C.P a w (GN C B S w0 n K) No
def BI(C:Cx)(quiet:Bool)(f:FuncId)(args:List Dat)(K:KD)(fr:Fr)(σ:Sg):Prop:=
 ∀(B S:List Nat) (w0:World) (η:Nat->Value) (φ:Nat->List Nat) (n:Nat) (a:Act) (w:World) (vs:List Value),Models C B S w0 n fr σ η φ a w->
  (∃css,A7 η (Bp σ) (B++Ak φ σ) w args css/\vs=List.zipWith BD args css)->
  (callFunc f vs.toArray).run C.P w=.ok (.enter f vs.toArray) w/\Calls C.P f vs.toArray w λe w'=>∃v d fr' σ' η' φ',e=.returned v/\K d fr' σ'/\Models C B S w0 n fr' σ' η' φ' a w'/\(∃cs,A4 η' (Bp σ') (B++Ak φ' σ') w' d cs/\v=BD d cs)/\(quiet=true->Ij w w')
def EJ(C:Cx)(n:Nat)(c:Code)(K:Exit->Fr->Sg->Prop)(fr:Fr)(σ:Sg):Prop:=
 ∀(B S:List Nat) (w0:World) (η:Nat->Value) (φ:Nat->List Nat) (a:Act) (w:World),Models C B S w0 n fr σ η φ a w->
  c.wp C.P (λe a' w'=>match e with
   |.panic _=>False
   |.outgrown=>False
   |e=>GN C B S w0 n (K e) a' w') a w
attribute [irreducible] AY BI EJ
def Cm(t:Option Nat)(d:Dat)(fr:Fr):Fr:=match t with
 |some t=>(t,d)::fr
 |none=>fr
def CZ(t:Option Nat)(n:Nat):Bool:=match t with
 |some t=>Nat.blt t n
 |none=>true
def Sn(T:Fm)(t:TypeId)(x:Dat)(lo hi mx:Option Dat)(K:Dat->Prop)(no:Prop):Prop:=C8 T t no λe=>C8 T e.elem no λee=>CD (Nat.beq e.kd 2) no<|match x,mx with
 |
  .d (.list k ds),none=>CD (Nat.beq k ee.size) no (match lo,hi with
  |none,none=>K (.d (.list k ds))
  |some (.d (.int _ l)),none=>∃j:Nat,l=j/\j<=ds.length/\K (.d (.list k (ds.drop j)))
  |none,some (.d (.int _ h))=>∃m:Nat,h=m/\m<=ds.length/\K (.d (.list k (ds.take m)))
  |some (.d (.int _ l)),some (.d (.int _ h))=>∃j m:Nat,l=j/\h=m/\j<=m/\m<=ds.length/\K (.d (.list k ((ds.take m).drop j)))
  |_,_=>no)
 |
  .d .nils,none=>(match lo,hi with
  |none,none=>K (.d .nils)
  |some (.d (.int _ l)),none=>l=0/\K (.d .nils)
  |none,some (.d (.int _ h))=>h=0/\K (.d .nils)
  |some (.d (.int _ l)),some (.d (.int _ h))=>l=0/\h=0/\K (.d .nils)
  |_,_=>no)
 |_,_=>no
def Pd(C:Cx)(T:Fm)(n kd:Nat)(o:Oper)(K:Fr->Sg->Prop)(fr:Fr)(σ:Sg):Prop:=
 CD (CZ o.dst n) (AY C n kd o K fr σ)<|match o.op with
 |.move x=>force (ev C.Γ fr x) λd=>K (Cm o.dst d fr) σ
 |.assign x=>force (ev C.Γ fr x) λd=>K (Cm o.dst d fr) σ
 |.pick c x y=>kY (ev C.Γ fr c) (λ_=>force (ev C.Γ fr x) λd=>K (Cm o.dst d fr) σ) (λ_=>force (ev C.Γ fr y) λd=>K (Cm o.dst d fr) σ) (AY C n kd o K fr σ)
 |.alloc t=>C8 T t (AY C n kd o K fr σ) λe=>CC o.dst (AY C n kd o K fr σ) λd=>Qj d σ (λi=>BP (Fi i (.cells t (Dat.cellsOf (.d e.zero))) σ) λσ=>K (Cm o.dst (.own i) fr) σ) (AY C n kd o K fr σ)
 |.box t x=>CD (ev C.Γ fr x).stor (AY C n kd o K fr σ)<|CC o.dst (AY C n kd o K fr σ) λd=>Qj d σ (λi=>force (ev C.Γ fr x) λy=>BP (Fi i (.cells t y.cellsOf) σ) λσ=>K (Cm o.dst (.own i) fr) σ) (AY C n kd o K fr σ)
 |.build t ps=>C8 T t (AY C n kd o K fr σ) λe=>CD (e.agg&&FV T e ps.toList (ev C.Γ fr) (Dat.cellsOf (.d e.zero))) (AY C n kd o K fr σ)<|force (UC (IZ ps.toList (ev C.Γ fr) (Dat.cellsOf (.d e.zero)))) λd=>K (Cm o.dst d fr) σ
 |.buildSlice t m ps=>C8 T t (AY C n kd o K fr σ) λe=>C8 T e.elem (AY C n kd o K fr σ) λee=>CD (Nat.beq e.kd 2&&Nat.beq m ps.size&&decide (m<=1000)&&decide (ee.size<=1000)&&((ps.toList.map (·.1))==List.range m)&&ps.toList.all (λp=>(ev C.Γ fr p.2).fits ee&&(ev C.Γ fr p.2).stor)) (AY C n kd o K fr σ)<|
   CC (DY (ps.toList.map λp=>ev C.Γ fr p.2)) (AY C n kd o K fr σ) λxs=>CC o.dst (AY C n kd o K fr σ) λd=>Qj d σ (λi=>BP (Fi i (.slice e.elem ee.size xs) σ) λσ=>K (Cm o.dst (.own i) fr) σ) (AY C n kd o K fr σ)
 |
  .makeSlice t l c=>C8 T t (AY C n kd o K fr σ) λe=>C8 T e.elem (AY C n kd o K fr σ) λee=>CD (Nat.beq e.kd 2&&ee.zero.stor&&decide (ee.bytes<=1000)) (AY C n kd o K fr σ) (match ev C.Γ fr l,ev C.Γ fr c with
  |.d (.int _ x),.d (.int _ y)=>∃m:Nat,x=m/\y=m/\m<=Mf/\CC o.dst (AY C n kd o K fr σ) λd=>Qj d σ (λi=>BP (Fi i (.slice e.elem ee.size (List.replicate m ee.zero)) σ) λσ=>K (Cm o.dst (.own i) fr) σ) (AY C n kd o K fr σ)
  |_,_=>AY C n kd o K fr σ)
 |.load t x=>Sq T t (ev C.Γ fr x) σ (λd=>K (Cm o.dst d fr) σ) (AY C n kd o K fr σ)
 |.store t x v=>Sm T t (ev C.Γ fr x) (ev C.Γ fr v) σ (λσ'=>BP σ' λσ'=>K (Cm o.dst (.d .undef) fr) σ') (AY C n kd o K fr σ)
 |
  .nilCheck x=>force (ev C.Γ fr x) λd=>(match d with
  |.d (.ref _)=>K (Cm o.dst d fr) σ
  |.at_ _ _=>K (Cm o.dst d fr) σ
  |.el _ _ _ _=>K (Cm o.dst d fr) σ
  |
   .own i=>CC (BA i σ) (AY C n kd o K fr σ) λow=>(match ow with
   |.cells _ _=>K (Cm o.dst d fr) σ
   |_=>AY C n kd o K fr σ)
  |_=>AY C n kd o K fr σ)
 |
  .binOp op t x y _=>(match(ev C.Γ fr x).parts,(ev C.Γ fr y).parts with
  |some dx,some dy=>C8 T t (AY C n kd o K fr σ) λe=>CD (e.cmp&&!(Nat.beq kd 0)) (AY C n kd o K fr σ)<|CC (N3 T dx dy e.flds 0) (AY C n kd o K fr σ) λp=>pH op p (λd=>K (Cm o.dst d fr) σ) (AY C n kd o K fr σ)
  |_,_=>dC T t op (SX y) (ev C.Γ fr x) (ev C.Γ fr y) σ (λd=>K (Cm o.dst d fr) σ) (AY C n kd o K fr σ))
 |.unOp op _ x=>pG op (ev C.Γ fr x) (λd=>K (Cm o.dst d fr) σ) (AY C n kd o K fr σ)
 |
  .convert s t x=>C8 T t (AY C n kd o K fr σ) λe=>C8 T s (AY C n kd o K fr σ) λ_=>(match e.ik,ev C.Γ fr x with
  |some k,.d (.int _ a)=>rM k a λb=>K (Cm o.dst (.d (.int k b)) fr) σ
  |_,_=>AY C n kd o K fr σ)
 |.makeInterface t x=>C8 T t (AY C n kd o K fr σ) λe=>CD (!(Nat.beq e.kd 5)) (AY C n kd o K fr σ)<|force (SM t (ev C.Γ fr x)) λd=>K (Cm o.dst d fr) σ
 |.makeFunc f p q=>force (Xb f (bY C.Γ fr p.toList) (bY C.Γ fr q.toList)) λd=>K (Cm o.dst d fr) σ
 |.fieldAddr t x m=>IX T t (ev C.Γ fr x) m σ (λd=>K (Cm o.dst d fr) σ) (AY C n kd o K fr σ)
 |.indexAddr t x ix=>IW T t (ev C.Γ fr x) (ev C.Γ fr ix) σ (λd=>K (Cm o.dst d fr) σ) (AY C n kd o K fr σ)
 |
  .index t x ix=>C8 T t (AY C n kd o K fr σ) λe=>CD (Nat.beq e.kd 7) (AY C n kd o K fr σ) (match ev C.Γ fr x,ev C.Γ fr ix with
  |.d (.str s),.d (.int _ i)=>∃j:Nat,i=j/\∃h:j<s.size,K (Cm o.dst (.d (.int .u8 (s[j]'h).toNat)) fr) σ
  |_,_=>AY C n kd o K fr σ)
 |.field t x m=>Ss T t (ev C.Γ fr x) m (λd=>K (Cm o.dst d fr) σ) (AY C n kd o K fr σ)
 |.slice t x lo hi mx=>Sn T t (ev C.Γ fr x) (lo.map (ev C.Γ fr)) (hi.map (ev C.Γ fr)) (mx.map (ev C.Γ fr)) (λd=>K (Cm o.dst d fr) σ) (AY C n kd o K fr σ)
 |
  .extract x m=>(match ev C.Γ fr x with
  |.d (.tuple ds)=>CC (E3 m ds) (AY C n kd o K fr σ) λd=>K (Cm o.dst (.d d) fr) σ
  |.tuple ds=>CC (Cc m ds) (AY C n kd o K fr σ) λd=>force d λd=>K (Cm o.dst d fr) σ
  |_=>AY C n kd o K fr σ)
 |
  .call c=>(match c.callee with
  |
   .builtin .len=>(match c.args.toList,c.argTypes.toList with
   |[x],[t]=>cY T t (ev C.Γ fr x) σ (λd=>K (Cm o.dst d fr) σ) (AY C n kd o K fr σ)
   |_,_=>AY C n kd o K fr σ)
  |
   .builtin .append=>(match c.args.toList,c.argTypes.toList with
   |[x,y],[t,t']=>CD (Nat.beq t t') (AY C n kd o K fr σ)<|Pg T t (ev C.Γ fr x) (ev C.Γ fr y) o.dst fr σ (λd fr σ=>K (Cm o.dst d fr) σ) (AY C n kd o K fr σ)
   |_,_=>AY C n kd o K fr σ)
  |
   .builtin .min=>(match c.args.toList.map (ev C.Γ fr)with
   |[.d (.int k x),.d (.int _ y)]=>K (Cm o.dst (.d (.int k (min x y))) fr) σ
   |_=>AY C n kd o K fr σ)
  |
   .builtin .max=>(match c.args.toList.map (ev C.Γ fr)with
   |[.d (.int k x),.d (.int _ y)]=>K (Cm o.dst (.d (.int k (max x y))) fr) σ
   |_=>AY C n kd o K fr σ)
  |
   .value f=>(match ev C.Γ fr f with
   |.d (.func (.func g) fs cs)=>BI C (Nat.beq kd 2) g (B8 fs++(bY C.Γ fr c.args.toList++B8 cs)) (λd fr σ=>K (Cm o.dst d fr) σ) fr σ
   |.func (.func g) fs cs=>BI C (Nat.beq kd 2) g (fs++(bY C.Γ fr c.args.toList++cs)) (λd fr σ=>K (Cm o.dst d fr) σ) fr σ
   |_=>AY C n kd o K fr σ)
  |_=>AY C n kd o K fr σ)
 |_=>AY C n kd o K fr σ
def Sr(o:Oper)(l:List Oper)(fr:Fr)(yes no:Fr->Prop):Prop:=match o.guard with
 |none=>yes fr
 |
  some (g,b)=>match(l[g]?).bind (·.dst)with
  |none=>False
  |
   some t=>match get fr t with
   |
    .d (.bool c)=>(match c,b with
    |true,true=>yes fr
    |false,false=>yes fr
    |_,_=>no fr)
   |
    .d (.prop p _)=>(match b with
    |true=>(p->yes ((t,.d (.bool true))::fr))/\(¬p->no ((t,.d (.bool false))::fr))
    |false=>(p->no ((t,.d (.bool true))::fr))/\(¬p->yes ((t,.d (.bool false))::fr)))
   |.d (.tuple [])=>no fr
   |_=>False
def rQ(t:Option Nat)(fr:Fr):Fr:=match t with
 |some t=>(t,.d (.tuple []))::fr
 |none=>fr
def Gi(C:Cx)(T:Fm)(n:Nat)(l:List Oper)(ks:List Nat)(K:Fr->Sg->Prop):List Nat->Fr->Sg->Prop
 |[],fr,σ=>K fr σ
 |
  i::p,fr,σ=>match l[i]? with
  |none=>False
  |some o=>Sr o l fr (λfr=>Pd C T n (ks.getD i 3) o (Gi C T n l ks K p) fr σ) (λfr=>CD (CZ o.dst n) False (Gi C T n l ks K p (rQ o.dst fr) σ))
inductive Plan where
 |leaf (ks p A:List Nat)
 |split (i j:Nat) (x y:Plan)
def Gc:Plan->List (List Nat×List Nat)
 |.leaf ks p _=>[(ks,p)]
 |.split _ _ x y=>Gc x++Gc y
def VW:Fr->Fr->Prop
 |[],_=>True
 |(t,d)::l,fr=>get fr t=d/\VW l fr
def fX:Fr->Fr->(Fr->Prop)->Prop
 |[],acc,K=>K acc
 |
  (t,d)::fr,acc,K=>match acc.any (λp=>Nat.beq p.1 t)with
  |true=>fX fr acc K
  |false=>force d λd=>fX fr ((t,d)::acc) K
def Sp(C:Cx)(T:Fm)(n:Nat)(l:List Oper)(F:Fr)(Z:Sg)(fr:Fr)(σ:Sg)(k:Prop):List (List Nat×List Nat)->Prop
 |[]=>k
 |(ks,p)::r=>Gi C T n l ks (λfr' σ'=>VW F fr'/\σ'=Z) p fr σ/\Sp C T n l F Z fr σ k r
def Wt(C:Cx)(T:Fm)(n:Nat)(l:List Oper)(K:Fr->Sg->Prop)(pl:Plan)(fr:Fr)(σ:Sg):Prop:=match Gc pl with
 |[]=>False
 |[(ks,p)]=>Gi C T n l ks K p fr σ
 |(ks,p)::r=>Gi C T n l ks (λfr1 σ1=>fX fr1 [] λF=>Sp C T n l F σ1 fr σ (K F σ1) r) p fr σ
def WJ(i:Nat):List (Nat×Plan)->Option Plan
 |[]=>none
 |
  (j,p)::l=>match Nat.beq j i with
  |true=>some p
  |false=>WJ i l
abbrev KE:=Exit->Fr->Sg->Prop
def tT(nx:Fr->Sg->Prop)(K:KE):KE:=λe=>match e with
 |.normal=>nx
 |e=>K e
def XR(id:Nat)(K:KE):KE:=λe=>match e with
 |
  .exit j=>(match Nat.beq j id with
  |true=>K .normal
  |false=>K (.exit j))
 |e=>K e
def YI(c:Operand)(d:Dat)(fr:Fr):Fr:=match c with
 |.tmp t=>(t,d)::fr
 |_=>fr
def Dj(C:Cx)(T:Fm)(n:Nat)(pl:List (Nat×Plan)):Code->KE->Fr->Sg->Prop
 |.skip,K,fr,σ=>K .normal fr σ
 |
  .region id ops dr,K,fr,σ=>(match dr with
  |false=>Gi C T n ops.toList [] (K .normal) (List.range ops.toList.length) fr σ
  |
   true=>match WJ id pl with
   |some p=>Wt C T n ops.toList (K .normal) p fr σ
   |none=>False)
 |.seq a b,K,fr,σ=>Dj C T n pl a (tT (Dj C T n pl b K) K) fr σ
 |.cond c a b,K,fr,σ=>kY (ev C.Γ fr c) (λd=>Dj C T n pl a K (YI c d fr) σ) (λd=>Dj C T n pl b K (YI c d fr) σ) False
 |.block id b,K,fr,σ=>Dj C T n pl b (XR id K) fr σ
 |.exit id,K,fr,σ=>K (.exit id) fr σ
 |.label _,K,fr,σ=>K .normal fr σ
 |.ret,K,fr,σ=>K .ret fr σ
 |c,K,fr,σ=>EJ C n c K fr σ
def Pc(T:Fm):List ResultVar->Fr->Sg->(List Dat->Prop)->Prop
 |[],_,_,K=>K []
 |.tmp t::l,fr,σ,K=>force (get fr t) λd=>Pc T l fr σ λds=>K (d::ds)
 |.cell t ty::l,fr,σ,K=>Sq T ty (get fr t) σ (λd=>Pc T l fr σ λds=>K (d::ds)) False
def Hr(T:Fm)(rs:List ResultVar)(K:Dat->Sg->Prop):KE:=λe fr σ=>match e with
 |
  .normal|.ret=>Pc T rs fr σ λds=>(match ds with
  |[d]=>K d σ
  |ds=>force (Y6 ds) λd=>K d σ)
 |_=>False
end Go.Sx
namespace Go.Sx
open Go Go.RowKit Go.Reg
def pC:Value->Value->Bool
 |.int k n,.int k' n'=>decide (k=k')&&decide (n=n')
 |.bool b,.bool c=>b==c
 |.string s,.string t=>decide (s=t)
 |.pointer none,.pointer none=>true
 |.slice none 0 0,.slice none 0 0=>true
 |.map none,.map none=>true
 |.nilFunc,.nilFunc=>true
 |.nilIface,.nilIface=>true
 |_,_=>false
theorem kN {a b:Value}(h:pC a b=true):a=b:=by
 unfold pC at h
 split at h<;>simp at h<;>simp[h]
def QX:List Value->List Value->Bool
 |[],[]=>true
 |a::Aa,b::bs=>pC a b&&QX Aa bs
 |_,_=>false
theorem T7:∀{a b:List Value},QX a b=true->a=b
 |[],[],_=>rfl
 |
  a::Aa,b::bs,h=>by
  simp only[QX,Ah]at h
  rw[kN h.1,T7 h.2]
 |[],_::_,h=>by simp[QX]at h
 |_::_,[],h=>by simp[QX]at h
mutual
def Dz:Da->Option (List Value)
 |.int k n=>some [.int k n]
 |.bool b=>some [.bool b]
 |.str s=>some [.string s]
 |.nilp=>some [.pointer none]
 |.nils=>some [.slice none 0 0]
 |.nilm=>some [.map none]
 |.nilf=>some [.nilFunc]
 |.nili=>some [.nilIface]
 |.agg ds=>JF ds
 |_=>none
def JF:List Da->Option (List Value)
 |[]=>some []
 |
  d::ds=>match Dz d,JF ds with
  |some a,some b=>some (a++b)
  |_,_=>none
end
mutual
theorem NY {O:List Nat} {w:World}:∀(d:Da) (cs:List Value),Dz d=some cs->RepC O w d cs
 |.int k n,cs,h=>by simp only[Dz,Au]at h;simp only[RepC];exact h.symm
 |.bool b,cs,h=>by simp only[Dz,Au]at h;simp only[RepC];exact h.symm
 |.str s,cs,h=>by simp only[Dz,Au]at h;simp only[RepC];exact h.symm
 |.nilp,cs,h=>by simp only[Dz,Au]at h;simp only[RepC];exact h.symm
 |.nils,cs,h=>by simp only[Dz,Au]at h;simp only[RepC];exact h.symm
 |.nilm,cs,h=>by simp only[Dz,Au]at h;simp only[RepC];exact h.symm
 |.nilf,cs,h=>by simp only[Dz,Au]at h;simp only[RepC];exact h.symm
 |.nili,cs,h=>by simp only[Dz,Au]at h;simp only[RepC];exact h.symm
 |.agg ds,cs,h=>by simp only[Dz]at h;simp only[RepC];exact LR ds cs h
 |.undef,cs,h=>by simp[Dz]at h
 |.prop _ _,cs,h=>by simp[Dz]at h
 |.tuple _,cs,h=>by simp[Dz]at h
 |.iface _ _,cs,h=>by simp[Dz]at h
 |.ref _,cs,h=>by simp[Dz]at h
 |.list _ _,cs,h=>by simp[Dz]at h
 |.func _ _ _,cs,h=>by simp[Dz]at h
 |.raw _,cs,h=>by simp[Dz]at h
theorem LR {O:List Nat} {w:World}:∀(ds:List Da) (cs:List Value),JF ds=some cs->RepCs O w ds cs
 |[],cs,h=>by simp only[JF,Au]at h;simp only[RepCs];exact h.symm
 |
  d::ds,cs,h=>by
  simp only[JF]at h
  cases h1:Dz d with
  |none=>rw[h1]at h;cases h
  |
   some a=>
   cases h2:JF ds with
   |none=>rw[h1,h2]at h;cases h
   |
    some b=>
    rw[h1,h2]at h
    simp only[Au]at h
    exact⟨a,b,h.symm,NY d a h1,LR ds b h2⟩
end
def kO:Value->Bool
 |.agg _=>true
 |_=>false
def tN(P:Program)(t:TypeId)(e:TyI):Bool:=
 match P.info? t,P.underlying t with
 |some i,some d=>Nat.beq i.size e.size&&Nat.beq i.bytes e.bytes&&
   (match i.zero,Dz e.zero with
    |some z,some cs=>QX z.cells.toList cs&&(kO z==e.agg)
    |_,_=>false)&&((e.zero.isAgg==e.agg)&&Nat.beq e.zero.size e.size)&&
   (match d with
    |.struct fs=>e.agg&&decide (fs.toList.map (λf=>(f.offset,f.type))=e.flds)&&fs.toList.all (λf=>match P.info? f.type with|some i=>Nat.blt 0 i.size|none=>false)
    |.array _ _=>false
    |.slice el=>!e.agg&&Nat.beq el e.elem
    |.int k=>!e.agg&&decide (e.ik=some k)
    |_=>!e.agg)&&
   ((match d with|.int _=>false|_=>true)==e.ik.isNone)&&
   Nat.beq e.kd (match d with|.pointer _=>1|.slice _=>2|.map _ _=>3|.func _ _ _=>4|.interface _=>5|.struct _=>6|.string=>7|.int _=>8|.bool=>9|_=>0)&&
   (!e.cmp||(match d with|.struct fs=>!(P.stoodInHeld t)&&!(P.eqGuardType P.depth t)&&fs.toList.all (λf=>f.name != "_")|_=>false))
 |_,_=>false
def Zo(P:Program):Fm->Bool
 |[]=>true
 |(t,e)::l=>tN P t e&&Zo P l
theorem Yh {P:Program}:∀{T:Fm},Zo P T=true->∀{t:TypeId} {e:TyI},En t T=some e->tN P t e=true
 |[],_,t,e,h=>by simp[En]at h
 |
  (u,x)::l,hT,t,e,h=>by
  simp only[Zo,Ah]at hT
  rcases Bh u t with⟨hb,he⟩|⟨hb,he⟩
  ·simp only[En,hb,Au]at h
   subst he;subst h;exact hT.1
  ·simp only[En,hb]at h
   exact Yh hT.2 h
structure TyOk(P:Program)(t:TypeId)(e:TyI):Prop where
 zsize:e.zero.size=e.size
 cmp:e.cmp=true->∃fs,P.underlying t=some (.struct fs)/\P.stoodInHeld t=false/\P.eqGuardType P.depth t=false/\∀f∈fs.toList,f.name≠ "_"
 info:∃i z,P.info? t=some i/\i.size=e.size/\i.bytes=e.bytes/\i.zero=some z/\z=Fc e.zero z.cells.toList/\(∀O w,RepC O w e.zero z.cells.toList)
 desc:∃d,P.underlying t=some d/\(match d with|.struct _|.array _ _=>true|_=>false)=e.agg/\(∀el,d=.slice el->el=e.elem)/\
  (∀fs,d=.struct fs->fs.toList.map (λf=>(f.offset,f.type))=e.flds/\∀f∈fs.toList,∃i,P.info? f.type=some i/\0<i.size)/\
  (∀n el,d≠.array n el)/\(e.agg=true->∃fs,d=.struct fs)/\(∀k,e.ik=some k->d=.int k)/\e.kd=(match d with|.pointer _=>1|.slice _=>2|.map _ _=>3|.func _ _ _=>4|.interface _=>5|.struct _=>6|.string=>7|.int _=>8|.bool=>9|_=>0)
theorem QI {z:Value} {d:Da} {cs:List Value}(h1:z.cells.toList=cs)(h2:kO z=d.isAgg)(h3:d.isAgg=false->z=Fc d [z]):z=Fc d cs:=by
 cases z with
 |
  agg xs=>
  cases d<;>first|(simp[Da.isAgg,kO]at h2;done)|(simp only[Value.cells]at h1;subst h1;simp[Fc])
 |
  _=>
  simp only[Value.cells]at h1
  subst h1
  exact h3 (by simpa[kO]using h2.symm)
theorem pD {P:Program} {t:TypeId} {e:TyI}(h:tN P t e=true):TyOk P t e:=by
 unfold tN at h
 cases hi:P.info? t with
 |none=>rw[hi]at h;cases h
 |
  some i=>
  cases hd:P.underlying t with
  |none=>rw[hi,hd]at h;cases h
  |
   some d=>
   rw[hi,hd]at h
   simp only[Ah]at h
   obtain⟨⟨⟨⟨⟨⟨⟨h1,h2⟩,h3⟩,h4⟩,h5⟩,h6⟩,h7⟩,h8⟩:=h
   refine⟨by simp only[beq_iff_eq]at h4;exact Am h4.2,?_,?_,?_⟩
   ·intro hc
    rw[hc]at h8
    simp only[Bool.not_true,Bool.false_or]at h8
    split at h8
    ·rename_i fs
     simp only[Ah,BC,Cr]at h8
     exact⟨fs,hd,h8.1.1,h8.1.2,λf hf=>by simpa using h8.2 f hf⟩
    ·cases h8
   ·cases hz:i.zero with
    |none=>rw[hz]at h3;cases h3
    |
     some z=>
     cases hc:Dz e.zero with
     |none=>rw[hz,hc]at h3;cases h3
     |
      some cs=>
      rw[hz,hc]at h3
      simp only[Ah]at h3
      have e1:=T7 h3.1
      refine⟨i,z,hi,Am h1,Am h2,hz,?_,λO w=>by rw[e1];exact NY _ _ hc⟩
      rw[e1]
      refine QI e1 ?_ (λhn=>?_)
      ·have h4':e.zero.isAgg=e.agg:=by simp only[beq_iff_eq]at h4;exact h4.1
       rw[h4'];simpa using h3.2
      ·cases hh:e.zero<;>simp[Fc]<;>rw[hh]at hn<;>simp[Da.isAgg]at hn
   ·refine⟨d,hd,?_,?_,?_,?_,?_,?_,?_⟩
    ·cases d<;>simp at h5<;>simp[h5]
    ·rintro el rfl
     simp only[Ah]at h5
     exact Am h5.2
    ·rintro fs rfl
     simp only[Ah,decide_eq_true_eq,Cr]at h5
     refine⟨h5.1.2,λf hf=>?_⟩
     have:=h5.2 f hf
     cases hfi:P.info? f.type with
     |none=>rw[hfi]at this;cases this
     |
      some j=>
      rw[hfi]at this
      exact⟨j,rfl,by simpa[Nat.blt_eq]using this⟩
    ·rintro n el rfl;simp at h5
    ·intro ha
     cases d<;>simp[ha]at h5
     exact⟨_,rfl⟩
    ·intro k hk
     rw[hk]at h6 h5
     cases d<;>simp at h6
     simp at h5
     rw[h5.2]
    ·exact Am h7
structure Cx.Ok(C:Cx)(T:Fm):Prop where
 tab:Zo C.P T=true
 mixed:C.P.follows .mixedOrders=true
theorem Cx.Ok.ty {C:Cx} {T:Fm}(h:C.Ok T) {t:TypeId} {e:TyI}(ht:En t T=some e):TyOk C.P t e:=pD (Yh h.tab ht)
section
variable {P:Program} {t:TypeId} {e:TyI}
theorem TyOk.sizeOf(h:TyOk P t e)(w:World):(sizeOf t).run P w=.ok e.size w:=by
 obtain⟨i,z,h1,h2,_⟩:=h.info
 simp[Go.sizeOf,typeInfo,program,Sem.run,h1,h2]
theorem TyOk.isAgg(h:TyOk P t e)(w:World):(isAgg t).run P w=.ok e.agg w:=by
 obtain⟨d,h1,h2,_⟩:=h.desc
 simp only[Go.isAgg,A0,run_underlying h1,Ay]
 rw[<-h2]
 cases d<;>simp
theorem TyOk.zero(h:TyOk P t e):∃z,(∀w,(zeroValue t).run P w=.ok z w)/\z=Fc e.zero z.cells.toList/\∀O w,RepC O w e.zero z.cells.toList:=by
 obtain⟨i,z,h1,h2,h3,h4,h5,h6⟩:=h.info
 exact⟨z,λw=>by simp[zeroValue,typeInfo,program,Sem.run,h1,h4],h5,h6⟩
end
section
variable {C:Cx} {B S:List Nat} {w0 w:World} {n:Nat} {fr:Fr} {σ:Sg} {η:Nat->Value} {φ:Nat->List Nat} {a:Act}
abbrev RD(B:List Nat)(σ:Sg)(η:Nat->Value)(φ:Nat->List Nat)(w:World)(d:Dat)(v:Value):Prop:=∃cs,A4 η (Bp σ) (B++Ak φ σ) w d cs/\v=BD d cs
theorem PC(O:List Nat)(w:World)(v:Value):RepC O w (Ni v) [v]:=by
 unfold Ni
 split<;>simp[RepC]
theorem Wp(v:Value):Fc (Ni v) [v]=v:=by
 unfold Ni
 split<;>simp[Fc]
theorem ZQ(O:List Nat)(w:World)(v:Value):∃cs,RepC O w (Y2 v) cs/\v=Fc (Y2 v) cs:=by
 unfold Y2
 split
 ·rename_i cs
  refine⟨cs.toList,?_,by simp[Fc]⟩
  simp only[RepC]
  generalize cs.toList=l
  induction l with
  |nil=>simp[RepCs]
  |cons x l ih=>exact⟨[x],l,rfl,PC O w x,ih⟩
 ·exact⟨[v],PC O w v,(Wp v).symm⟩
theorem Ve {O:List Nat} {w:World} {g:Nat}:∀{Γ:List (Nat×Da)},(∀p∈Γ,Rep O w (.ref p.2) (.pointer (some ⟨p.1,0,none⟩)))->∃cs,RepC O w (glob g Γ) cs/\Value.pointer (some ⟨g,0,none⟩)=Fc (glob g Γ) cs
 |[],_=>⟨[.pointer (some ⟨g,0,none⟩)],by simp[glob,RepC],by simp[glob,Fc]⟩
 |
  (h,x)::Γ,hh=>by
  rcases Bh h g with⟨hb,he⟩|⟨hb,he⟩
  ·simp only[glob,hb]
   have:=hh (h,x) (by simp)
   subst he;exact this
  ·simp only[glob,hb]
   exact Ve (λp hp=>hh p (AB _ hp))
theorem AV(h:Models C B S w0 n fr σ η φ a w)(x:Operand):RD B σ η φ w (ev C.Γ fr x) (a.eval x):=by
 cases x with
 |tmp t=>obtain⟨cs,h1,h2⟩:=h.fr t;exact⟨cs,h1,h2⟩
 |const v=>obtain⟨cs,h1,h2⟩:=ZQ (B++Ak φ σ) w v;exact⟨cs,h1,h2⟩
 |«global» g=>obtain⟨cs,h1,h2⟩:=Ve (g:=g) (λp hp=>(h.mem.glob p hp).1);exact⟨cs,h1,h2⟩
 |func f=>exact⟨[.func (.func f) #[] #[]],by simp[ev,A4,RepC,Al],by simp[ev,BD,Fc,Act.eval]⟩
theorem OK(h:Models C B S w0 n fr σ η φ a w):∀xs:List Operand,∃css,A7 η (Bp σ) (B++Ak φ σ) w (bY C.Γ fr xs) css/\xs.map a.eval=List.zipWith BD (bY C.Γ fr xs) css
 |[]=>⟨[],by simp[bY,A7],by simp[bY]⟩
 |
  x::xs=>by
  obtain⟨cs,h1,h2⟩:=AV h x
  obtain⟨css,h3,h4⟩:=OK h xs
  exact⟨cs::css,⟨cs,css,rfl,h1,h3⟩,by simp[bY,h2,h4]⟩
theorem Models.put(h:Models C B S w0 n fr σ η φ a w) {t:Option Nat}(ht:CZ t n=true) {d:Dat} {v:Value}(hd:RD B σ η φ w d v):Models C B S w0 n (Cm t d fr) σ η φ (a.put t v) w:=by
 obtain⟨cs,h1,h2⟩:=hd
 cases t with
 |none=>exact h
 |
  some t=>
  have:t<a.tmps.size:=by rw[h.size];simpa[CZ,Nat.blt_eq]using ht
  exact⟨h.mem,h.fr.put this h1 h2,h.defers,by simp[Act.put,h.size]⟩
theorem RD.d {x:Da} {v:Value}(h:RD B σ η φ w (.d x) v):Rep (B++Ak φ σ) w x v:=h
theorem C6 {kd:Nat} {o:Oper} {K:Fr->Sg->Prop}(hk:kd≠5)(hk2:kd≠2)(h:∀(B S:List Nat) (w0:World) (η:Nat->Value) (φ:Nat->List Nat) (a:Act) (w:World),Models C B S w0 n fr σ η φ a w->
  (kd=0->Bf a o=true)/\((∃v w',(execOp a.eval o).run C.P w=.ok (.value v) w'/\GN C B S w0 n K (a.put o.dst v) w')\/(∃w',(execOp a.eval o).run C.P w=.ok .skip w'/\GN C B S w0 n K (a.put o.dst Go.undef) w'))):AY C n kd o K fr σ:=by
 unfold AY
 intro B S w0 η φ a w hm
 obtain⟨h0,h1⟩:=h B S w0 η φ a w hm
 have hw:o.wp C.P a w (GN C B S w0 n K) No:=by
  rcases h1 with⟨v,w',hr,hg⟩|⟨w',hr,hg⟩
  ·exact Sf hr hg
  ·exact cE hr hg
 split
 ·exact⟨h0 rfl,hw⟩
 ·exact absurd rfl hk
 ·exact absurd rfl hk2
 ·exact hw
theorem Qi {K:Fr->Sg->Prop} {o:Oper}(h:Models C B S w0 n fr σ η φ a w)(ht:CZ o.dst n=true) {d:Dat} {v:Value}(hd:RD B σ η φ w d v)(hK:K (Cm o.dst d fr) σ):GN C B S w0 n K (a.put o.dst v) w:=
 ⟨_,σ,η,φ,h.put ht hd,hK⟩
end
end Go.Sx
namespace Go.Sx
open Go Go.RowKit Go.Reg
section
variable {C:Cx} {T:Fm} {B S:List Nat} {w0 w:World} {n:Nat} {fr:Fr} {σ:Sg} {η:Nat->Value} {φ:Nat->List Nat} {a:Act} {v vx vy:Value} {no:Prop}
theorem RD.int {k:IntKind} {m:Int}(h:RD B σ η φ w (.d (.int k m)) v):v=.int k m:=by
 obtain⟨cs,h1,h2⟩:=h;simp only[A4,RepC]at h1;subst h1;exact h2
theorem RD.bool {b:Bool}(h:RD B σ η φ w (.d (.bool b)) v):v=.bool b:=by
 obtain⟨cs,h1,h2⟩:=h;simp only[A4,RepC]at h1;subst h1;exact h2
theorem RD.prop {p:Prop} {i:Decidable p}(h:RD B σ η φ w (.d (.prop p i)) v):v=.bool (decide p):=by
 obtain⟨cs,h1,h2⟩:=h;simp only[A4,RepC]at h1;subst h1;exact h2
theorem RD.str {s:ByteArray}(h:RD B σ η φ w (.d (.str s)) v):v=.string s:=by
 obtain⟨cs,h1,h2⟩:=h;simp only[A4,RepC]at h1;subst h1;exact h2
theorem RD.nilp(h:RD B σ η φ w (.d .nilp) v):v=.pointer none:=by
 obtain⟨cs,h1,h2⟩:=h;simp only[A4,RepC]at h1;subst h1;exact h2
theorem RD.nils(h:RD B σ η φ w (.d .nils) v):v=.slice none 0 0:=by
 obtain⟨cs,h1,h2⟩:=h;simp only[A4,RepC]at h1;subst h1;exact h2
theorem RD.nilm(h:RD B σ η φ w (.d .nilm) v):v=.map none:=by
 obtain⟨cs,h1,h2⟩:=h;simp only[A4,RepC]at h1;subst h1;exact h2
theorem RD.nilf(h:RD B σ η φ w (.d .nilf) v):v=.nilFunc:=by
 obtain⟨cs,h1,h2⟩:=h;simp only[A4,RepC]at h1;subst h1;exact h2
theorem RD.nili(h:RD B σ η φ w (.d .nili) v):v=.nilIface:=by
 obtain⟨cs,h1,h2⟩:=h;simp only[A4,RepC]at h1;subst h1;exact h2
theorem Ew(k:IntKind)(m:Int):RD B σ η φ w (.d (.int k m)) (.int k m):=⟨[_],by simp[A4,RepC],rfl⟩
theorem JO(b:Bool):RD B σ η φ w (.d (.bool b)) (.bool b):=⟨[_],by simp[A4,RepC],rfl⟩
theorem EE(p:Prop)(i:Decidable p):RD B σ η φ w (.d (.prop p i)) (.bool (decide p)):=⟨[_],by simp[A4,RepC],rfl⟩
theorem eT(s:ByteArray):RD B σ η φ w (.d (.str s)) (.string s):=⟨[_],by simp[A4,RepC],rfl⟩
def VX(P:Program)(op:BinOp)(t:TypeId)(vx vy:Value)(w:World)(B:List Nat)(σ:Sg)(η:Nat->Value)(φ:Nat->List Nat)(K:Dat->Prop):Prop:=
 ∃d v,K d/\(binOp op t vx vy).run P w=.ok v w/\RD B σ η φ w d v
theorem St(s t:ByteArray):(s.toList==t.toList)=decide (s=t):=by
 by_cases h:s=t
 ·subst h;simp
 ·have:s.toList≠t.toList:=λe=>h (by
   rw[ByteArray.toList_eq,ByteArray.toList_eq]at e
   cases s;cases t;simp at e;simp[e])
  simp[h,this]
theorem cZ {P:Program} {op:BinOp} {t:TypeId} {k:IntKind} {x y:Int} {K:Dat->Prop}(h:dA op k x y K no):no\/(VX P op t (.int k x) (.int k y) w B σ η φ K/\gA op=true):=by
 unfold dA at h
 split at h
 ·obtain⟨m,h1,h2⟩:=h;exact .inr ⟨⟨_,_,h2,by simp[binOp_add,Op.intArith,h1],Ew k m⟩,rfl⟩
 ·obtain⟨m,h1,h2⟩:=h;exact .inr ⟨⟨_,_,h2,by simp[binOp_sub,Op.intArith,h1],Ew k m⟩,rfl⟩
 ·obtain⟨m,h1,h2⟩:=h;exact .inr ⟨⟨_,_,h2,by simp[binOp_mul,Op.intArith,h1],Ew k m⟩,rfl⟩
 ·obtain⟨h0,m,h1,h2⟩:=h;exact .inr ⟨⟨_,_,h2,by simp[binOp_quo,Op.intDiv,h0,h1],Ew k m⟩,rfl⟩
 ·obtain⟨h0,h2⟩:=h;exact .inr ⟨⟨_,_,h2,by simp[binOp_rem,Op.intDiv,h0],Ew k _⟩,rfl⟩
 ·exact .inr ⟨⟨_,_,h,by simp only[binOp_eql,AQ];rfl,EE _ _⟩,rfl⟩
 ·exact .inr ⟨⟨_,_,h,by simp only[binOp_neq,AQ];congr 2;by_cases e:x=y<;>simp[bne,e],EE _ _⟩,rfl⟩
 ·exact .inr ⟨⟨_,_,h,by simp only[binOp_lss,AQ],EE _ _⟩,rfl⟩
 ·exact .inr ⟨⟨_,_,h,by simp only[binOp_leq,AQ],EE _ _⟩,rfl⟩
 ·exact .inr ⟨⟨_,_,h,by simp only[binOp_gtr,AQ],EE _ _⟩,rfl⟩
 ·exact .inr ⟨⟨_,_,h,by simp only[binOp_geq,AQ],EE _ _⟩,rfl⟩
 ·exact .inl h
theorem cR {P:Program} {op:BinOp} {t:TypeId} {x y:ByteArray} {K:Dat->Prop}(h:cT op x y K no):no\/VX P op t (.string x) (.string y) w B σ η φ K:=by
 unfold cT at h
 split at h
 ·exact .inr ⟨_,_,h,by rw[binOp_string_eql,St];rfl,EE _ _⟩
 ·exact .inr ⟨_,_,h,by rw[binOp_string_neq,St];simp only[AQ];congr 2;simp,EE _ _⟩
 ·obtain⟨h1,h2⟩:=h;exact .inr ⟨_,_,h2,by rw[binOp_string_add];exact run_string_add_sum _ _ _ h1,eT _⟩
 ·exact .inl h
theorem Ir {P:Program} {op:BinOp} {t:TypeId} {x y:Bool} {p q:Prop} {ip:Decidable p} {iq:Decidable q}(hp:x=decide p)(hq:y=decide q)(ht:P.underlying t=some .bool) {K:Dat->Prop}(h:JK op p q K no):no\/(VX P op t (.bool x) (.bool y) w B σ η φ K/\Kb op=true):=by
 subst hp;subst hq
 unfold JK at h
 split at h
 ·refine .inr ⟨⟨_,_,h,?_,EE _ _⟩,rfl⟩
  simp only[binOp,A0,run_equal_bool w t _ _ ht,Ay,AQ]
  congr 2
  by_cases h1:p<;>by_cases h2:q<;>simp[h1,h2]
 ·refine .inr ⟨⟨_,_,h,?_,EE _ _⟩,rfl⟩
  simp only[binOp,A0,run_equal_bool w t _ _ ht,Ay,AQ]
  congr 2
  by_cases h1:p<;>by_cases h2:q<;>simp[h1,h2]
 ·exact .inl h
theorem TyOk.kd_desc {P:Program} {t:TypeId} {e:TyI}(h:TyOk P t e):∃d,P.underlying t=some d/\e.kd=(match d with|.pointer _=>1|.slice _=>2|.map _ _=>3|.func _ _ _=>4|.interface _=>5|.struct _=>6|.string=>7|.int _=>8|.bool=>9|_=>0):=by
 obtain⟨d,h1,_,_,_,_,_,_,h2⟩:=h.desc
 exact⟨d,h1,h2⟩
theorem TyOk.bool_desc {P:Program} {t:TypeId} {e:TyI}(h:TyOk P t e)(hk:e.kd=9):P.underlying t=some .bool:=by
 obtain⟨d,h1,h2⟩:=h.kd_desc
 rw[hk]at h2
 cases d<;>first|exact h1|(simp at h2;done)
def DE:Nat->Value->Prop
 |1,v=>v=.pointer none
 |2,v=>v=.slice none 0 0
 |3,v=>v=.map none
 |4,v=>v=.nilFunc
 |5,v=>v=.nilIface
 |_,_=>False
def DO:Nat->Value->Prop
 |1,v=>∃a,v=.pointer (some a)
 |2,v=>∃a l c,v=.slice (some a) l c
 |3,v=>∃a,v=.map (some a)
 |4,v=>∃f p q,v=.func f p q
 |5,v=>∃t u,v=.iface t u
 |_,_=>False
theorem Oj {kd:Nat} {y:Dat}(h:Qa kd y=true)(hy:RD B σ η φ w y vy):DE kd vy:=by
 unfold Qa at h
 split at h
 ·exact hy.nilp
 ·exact hy.nils
 ·exact hy.nilm
 ·exact hy.nilf
 ·exact hy.nili
 ·cases h
theorem CT(hm:Mem C B S w0 σ η φ w) {i:Nat} {t:TypeId} {ds:List Dat}(h:BA i σ=some (.cells t ds)):∃b cs,η i=.pointer (some ⟨b,0,none⟩)/\φ i=[b]/\GL w b t cs/\AX η (Bp σ) (B++Ak φ σ) w ds cs:=by
 obtain⟨b,cs,h1,h2,h3,h4⟩:=hm.own _ (Bd h)
 exact⟨b,cs,h1,h2,h3,h4⟩
theorem Bq(hm:Mem C B S w0 σ η φ w) {i:Nat} {E k:Nat} {ds:List Da}(h:BA i σ=some (.slice E k ds)):∃css,Sl E k id w (η i) css/\φ i=(η i).ownBlock.toList/\Al (B++Ak φ σ) w ds css/\(∀x∈css,DS k x):=by
 obtain⟨css,h1,h2,h3,h4⟩:=hm.own _ (Bd h)
 exact⟨css,h1,h2,h3,h4⟩
theorem C2 {O:List Nat} {w:World}:∀{ds:List Da} {css:List (List Value)},Al O w ds css->css.length=ds.length
 |[],css,h=>by simp only[Al]at h;subst h;rfl
 |
  d::ds,css,h=>by
  simp only[Al]at h
  obtain⟨c1,c2,rfl,_,h3⟩:=h
  simp[C2 h3]
theorem U4(hm:Mem C B S w0 σ η φ w) {kd:Nat} {x:Dat} {b:Bool}(h:gC kd x σ=some b)(hx:RD B σ η φ w x vx):(b=true/\DE kd vx)\/(b=false/\DO kd vx):=by
 unfold gC at h
 split at h
 ·split at h
  ·simp at h;exact .inl ⟨h,hx.nilp⟩
  ·simp at h
   obtain⟨cs,h1,h2⟩:=hx
   simp only[A4,RepC]at h1
   obtain⟨bb,o,c,rfl,_⟩:=h1
   exact .inr ⟨h,_,h2⟩
  ·simp at h
   obtain⟨cs,h1,h2⟩:=hx
   simp only[A4]at h1
   obtain⟨_,bb,_,rfl⟩:=h1
   exact .inr ⟨h,_,h2⟩
  ·simp at h
   obtain⟨cs,h1,h2⟩:=hx
   simp only[A4]at h1
   obtain⟨_,bb,l,c,_,rfl⟩:=h1
   exact .inr ⟨h,_,h2⟩
  ·split at h
   ·rename_i hg
    simp at h
    obtain⟨bb,cs,h1,_⟩:=CT hm hg
    obtain⟨cs',h3,h4⟩:=hx
    simp only[A4]at h3
    obtain⟨_,rfl⟩:=h3
    refine .inr ⟨h,_,h4.trans h1⟩
   ·cases h
  ·cases h
 ·split at h
  ·simp at h;exact .inl ⟨h,hx.nils⟩
  ·simp at h
   obtain⟨cs,h1,h2⟩:=hx
   simp only[A4,RepC]at h1
   obtain⟨aa,c,css,rfl,_,_,_,_,h6⟩:=h1
   rcases h6 with h6|⟨b,o,rfl,_⟩
   ·cases h6
   ·exact .inr ⟨h,_,_,_,h2⟩
  ·split at h
   ·rename_i hg
    simp at h
    obtain⟨css,hs,_,hr,_⟩:=Bq hm hg
    obtain⟨cs',h3,h4⟩:=hx
    simp only[A4]at h3
    obtain⟨_,rfl⟩:=h3
    have hl:=C2 hr
    rcases hs.shape with⟨_,he⟩|⟨g,cap,he,_⟩
    ·rw[he]at hl;simp at hl
    ·exact .inr ⟨h,_,_,_,h4.trans he⟩
   ·cases h
  ·cases h
 ·split at h
  ·simp at h;exact .inl ⟨h,hx.nilm⟩
  ·cases h
 ·split at h
  ·simp at h;exact .inl ⟨h,hx.nilf⟩
  ·simp at h
   obtain⟨cs,h1,h2⟩:=hx
   simp only[A4,RepC]at h1
   obtain⟨fs,c,_,_,rfl⟩:=h1
   exact .inr ⟨h,_,_,_,h2⟩
  ·simp at h
   obtain⟨cs,h1,h2⟩:=hx
   simp only[A4]at h1
   obtain⟨fs,c,_,_,rfl⟩:=h1
   exact .inr ⟨h,_,_,_,h2⟩
  ·cases h
 ·split at h
  ·simp at h;exact .inl ⟨h,hx.nili⟩
  ·simp at h
   obtain⟨cs,h1,h2⟩:=hx
   simp only[A4,RepC]at h1
   obtain⟨c,_,rfl⟩:=h1
   exact .inr ⟨h,_,_,h2⟩
  ·simp at h
   obtain⟨cs,h1,h2⟩:=hx
   simp only[A4]at h1
   obtain⟨c,_,rfl⟩:=h1
   exact .inr ⟨h,_,_,h2⟩
  ·cases h
 ·cases h
theorem RQ {P:Program} {t:TypeId} {e:TyI}(ht:TyOk P t e) {b:Bool}(hx:(b=true/\DE e.kd vx)\/(b=false/\DO e.kd vx))(hy:DE e.kd vy):(Op.equal t vx vy).run P w=.ok b w:=by
 obtain⟨d,h1,h2⟩:=ht.kd_desc
 unfold Op.equal
 rw[show Op.maxDepth=9999+1 from rfl,Op.equalIn]
 simp only[A0,run_underlying h1,Ay]
 rcases hx with⟨rfl,hx⟩|⟨rfl,hx⟩
 ·cases d<;>simp only at h2<;>rw[h2]at hx hy<;>simp only[DE]at hx hy<;>subst hx<;>subst hy<;>rfl
 ·cases d<;>simp only at h2<;>rw[h2]at hx hy<;>simp only[DE,DO]at hx hy<;>subst hy<;>(first|(obtain⟨_,rfl⟩:=hx;rfl)|(obtain⟨_,_,rfl⟩:=hx;rfl)|(obtain⟨_,_,_,rfl⟩:=hx;rfl))
theorem cV(hm:Mem C B S w0 σ η φ w) {t:TypeId} {e:TyI}(ht:TyOk C.P t e) {op:BinOp} {x y:Dat}(hx:RD B σ η φ w x vx)(hy:RD B σ η φ w y vy) {K:Dat->Prop}(h:cW e.kd op x y σ K no):
  no\/(VX C.P op t vx vy w B σ η φ K/\Kb op=true/\(DE e.kd vx\/DO e.kd vx)/\DE e.kd vy):=by
 unfold cW at h
 split at h
 ·rename_i h1 h2
  have g1:=Oj h1 hy
  have g2:=U4 hm h2 hx
  have g3:=RQ (w:=w) ht g2 g1
  refine .inr ⟨⟨_,_,h,?_,JO _⟩,rfl,g2.elim (λh=>.inl h.2) (λh=>.inr h.2),g1⟩
  have:binOp .eql t vx vy=(do pure (.bool (<-Op.equal t vx vy))):=by
   generalize e.kd=kd at g1 g2
   match kd,g1 with
   |1,h=>simp only[DE]at h;subst h;rcases g2 with⟨_,g⟩|⟨_,g⟩<;>simp only[DE,DO]at g<;>(first|subst g|(obtain⟨_,rfl⟩:=g))<;>rfl
   |2,h=>simp only[DE]at h;subst h;rcases g2 with⟨_,g⟩|⟨_,g⟩<;>simp only[DE,DO]at g<;>(first|subst g|(obtain⟨_,_,_,rfl⟩:=g))<;>rfl
   |3,h=>simp only[DE]at h;subst h;rcases g2 with⟨_,g⟩|⟨_,g⟩<;>simp only[DE,DO]at g<;>(first|subst g|(obtain⟨_,rfl⟩:=g))<;>rfl
   |4,h=>simp only[DE]at h;subst h;rcases g2 with⟨_,g⟩|⟨_,g⟩<;>simp only[DE,DO]at g<;>(first|subst g|(obtain⟨_,_,_,rfl⟩:=g))<;>rfl
   |5,h=>simp only[DE]at h;subst h;rcases g2 with⟨_,g⟩|⟨_,g⟩<;>simp only[DE,DO]at g<;>(first|subst g|(obtain⟨_,_,rfl⟩:=g))<;>rfl
  rw[this]
  simp[g3]
 ·rename_i h1 h2
  have g1:=Oj h1 hy
  have g2:=U4 hm h2 hx
  have g3:=RQ (w:=w) ht g2 g1
  refine .inr ⟨⟨_,_,h,?_,JO _⟩,rfl,g2.elim (λh=>.inl h.2) (λh=>.inr h.2),g1⟩
  have:binOp .neq t vx vy=(do pure (.bool (!(<-Op.equal t vx vy)))):=by
   generalize e.kd=kd at g1 g2
   match kd,g1 with
   |1,h=>simp only[DE]at h;subst h;rcases g2 with⟨_,g⟩|⟨_,g⟩<;>simp only[DE,DO]at g<;>(first|subst g|(obtain⟨_,rfl⟩:=g))<;>rfl
   |2,h=>simp only[DE]at h;subst h;rcases g2 with⟨_,g⟩|⟨_,g⟩<;>simp only[DE,DO]at g<;>(first|subst g|(obtain⟨_,_,_,rfl⟩:=g))<;>rfl
   |3,h=>simp only[DE]at h;subst h;rcases g2 with⟨_,g⟩|⟨_,g⟩<;>simp only[DE,DO]at g<;>(first|subst g|(obtain⟨_,rfl⟩:=g))<;>rfl
   |4,h=>simp only[DE]at h;subst h;rcases g2 with⟨_,g⟩|⟨_,g⟩<;>simp only[DE,DO]at g<;>(first|subst g|(obtain⟨_,_,_,rfl⟩:=g))<;>rfl
   |5,h=>simp only[DE]at h;subst h;rcases g2 with⟨_,g⟩|⟨_,g⟩<;>simp only[DE,DO]at g<;>(first|subst g|(obtain⟨_,_,rfl⟩:=g))<;>rfl
  rw[this]
  simp[g3]
 ·exact .inl h
theorem Bk {t:TypeId} {K:TyI->Prop}(h:C8 T t no K):no\/∃e,En t T=some e/\K e:=by
 unfold C8 at h
 split at h
 ·rename_i e he;exact .inr ⟨e,he,h⟩
 ·exact .inl h
theorem AR {α:Type} {o:Option α} {K:α->Prop}(h:CC o no K):no\/∃x,o=some x/\K x:=by
 unfold CC at h
 split at h
 ·rename_i x;exact .inr ⟨x,rfl,h⟩
 ·exact .inl h
theorem AW {b:Bool} {K:Prop}(h:CD b no K):no\/(b=true/\K):=by
 cases b
 ·exact .inl h
 ·exact .inr ⟨rfl,h⟩
theorem XD {P:Program} {op:BinOp} {t:TypeId} {x y:Operand} {kd:Nat}(hx:DE kd vx\/DO kd vx)(hy:DE kd vy)(hc:kd=5->y=.const .nilIface):(eqGuard op t x y vx vy).run P w=.ok () w:=by
 match kd,hy with
 |1,h=>simp only[DE,DO]at h hx;subst h;rcases hx with rfl|⟨_,rfl⟩<;>simp[eqGuard]
 |2,h=>simp only[DE,DO]at h hx;subst h;rcases hx with rfl|⟨_,_,_,rfl⟩<;>simp[eqGuard]
 |3,h=>simp only[DE,DO]at h hx;subst h;rcases hx with rfl|⟨_,rfl⟩<;>simp[eqGuard]
 |4,h=>simp only[DE,DO]at h hx;subst h;rcases hx with rfl|⟨_,_,_,rfl⟩<;>simp[eqGuard]
 |5,h=>simp only[DE,DO]at h hx;subst h;rw[hc rfl];rcases hx with rfl|⟨_,_,rfl⟩<;>simp[eqGuard]
theorem ZG {op:BinOp} {kd:Nat} {y:Operand}(ho:Kb op=true)(hx:DE kd vx\/DO kd vx)(hy:DE kd vy)(hc:kd=5->y=.const .nilIface):(DV op vx vy||I1 op vx y)=true:=by
 match kd,hy with
 |1,h=>simp only[DE,DO]at h hx;subst h;rcases hx with rfl|⟨_,rfl⟩<;>simp[DV,ho]
 |2,h=>simp only[DE,DO]at h hx;subst h;rcases hx with rfl|⟨_,_,_,rfl⟩<;>simp[DV,ho]
 |3,h=>simp only[DE,DO]at h hx;subst h;rcases hx with rfl|⟨_,rfl⟩<;>simp[DV,ho]
 |4,h=>simp only[DE,DO]at h hx;subst h;rcases hx with rfl|⟨_,_,_,rfl⟩<;>simp[DV,ho]
 |5,h=>simp only[DE,DO]at h hx;subst h;rw[hc rfl];rcases hx with rfl|⟨_,_,rfl⟩<;>simp[DV,I1,ho]
theorem dB(hC:C.Ok T)(hm:Mem C B S w0 σ η φ w) {op:BinOp} {t:TypeId} {x y:Dat} {yo xo:Operand}(hx:RD B σ η φ w x vx)(hy:RD B σ η φ w y vy) {K:Dat->Prop}(h:dC T t op (SX yo) x y σ K no):
  no\/(∃d v,K d/\(do eqGuard op t xo yo vx vy;binOp op t vx vy).run C.P w=.ok v w/\RD B σ η φ w d v)/\(DV op vx vy||I1 op vx yo)=true:=by
 have fin:∀{vx vy},VX C.P op t vx vy w B σ η φ K->(eqGuard op t xo yo vx vy).run C.P w=.ok () w->(DV op vx vy||I1 op vx yo)=true->no\/(∃d v,K d/\(do eqGuard op t xo yo vx vy;binOp op t vx vy).run C.P w=.ok v w/\RD B σ η φ w d v)/\(DV op vx vy||I1 op vx yo)=true:=by
  rintro vx vy ⟨d,v,h1,h2,h3⟩ hg hp
  exact .inr ⟨⟨d,v,h1,by rw[A0,hg];exact h2,h3⟩,hp⟩
 have hb:∀b:Bool,b=decide (b=true):=by simp
 unfold dC at h
 split at h
 ·rcases AW h with h|⟨hk,h1⟩
  ·exact .inl h
  ·simp at hk;subst hk
   rw[hx.int,hy.int]
   rcases cZ (w:=w) (B:=B) (σ:=σ) (η:=η) (φ:=φ) (P:=C.P) (t:=t) h1 with h|⟨h,h2⟩
   ·exact .inl h
   ·exact fin h (by rw[eqGuard_at_int];rfl) (by simp[DV])
 ·rw[hx.str,hy.str]
  rcases cR (w:=w) (B:=B) (σ:=σ) (η:=η) (φ:=φ) (P:=C.P) (t:=t) h with h|h
  ·exact .inl h
  ·exact fin h (by rw[eqGuard_at_string];rfl) (by simp[DV])
 ·rcases Bk h with h|⟨e,he,h⟩
  ·exact .inl h
  rcases AW h with h|⟨hk,h⟩
  ·exact .inl h
  rw[hx.bool,hy.bool]
  rcases Ir (w:=w) (B:=B) (σ:=σ) (η:=η) (φ:=φ) (P:=C.P) (t:=t) (hb _) (hb _) ((hC.ty he).bool_desc (Am hk)) h with h|⟨h,h2⟩
  ·exact .inl h
  ·exact fin h (by rw[eqGuard_at_bool];rfl) (by simp[DV,h2])
 ·rcases Bk h with h|⟨e,he,h⟩
  ·exact .inl h
  rcases AW h with h|⟨hk,h⟩
  ·exact .inl h
  rw[hx.bool,hy.prop]
  rcases Ir (w:=w) (B:=B) (σ:=σ) (η:=η) (φ:=φ) (P:=C.P) (t:=t) (hb _) rfl ((hC.ty he).bool_desc (Am hk)) h with h|⟨h,h2⟩
  ·exact .inl h
  ·exact fin h (by rw[eqGuard_at_bool];rfl) (by simp[DV,h2])
 ·rcases Bk h with h|⟨e,he,h⟩
  ·exact .inl h
  rcases AW h with h|⟨hk,h⟩
  ·exact .inl h
  rw[hx.prop,hy.bool]
  rcases Ir (w:=w) (B:=B) (σ:=σ) (η:=η) (φ:=φ) (P:=C.P) (t:=t) rfl (hb _) ((hC.ty he).bool_desc (Am hk)) h with h|⟨h,h2⟩
  ·exact .inl h
  ·exact fin h (by rw[eqGuard_at_bool];rfl) (by simp[DV,h2])
 ·rcases Bk h with h|⟨e,he,h⟩
  ·exact .inl h
  rcases AW h with h|⟨hk,h⟩
  ·exact .inl h
  rw[hx.prop,hy.prop]
  rcases Ir (w:=w) (B:=B) (σ:=σ) (η:=η) (φ:=φ) (P:=C.P) (t:=t) rfl rfl ((hC.ty he).bool_desc (Am hk)) h with h|⟨h,h2⟩
  ·exact .inl h
  ·exact fin h (by rw[eqGuard_at_bool];rfl) (by simp[DV,h2])
 ·rcases Bk h with h|⟨e,he,h⟩
  ·exact .inl h
  rcases AW h with h|⟨hk,h⟩
  ·exact .inl h
  have hc:e.kd=5->yo=.const .nilIface:=λh5=>by
   rw[h5]at hk
   have:SX yo=true:=by simpa using hk
   unfold SX at this
   split at this
   ·rfl
   ·cases this
  rcases cV hm (hC.ty he) hx hy h with h|⟨h,h2,h3,h4⟩
  ·exact .inl h
  ·exact fin h (XD h3 h4 hc) (ZG h2 h3 h4 hc)
theorem kX {P:Program} {op:UnOp} {x:Dat}(hx:RD B σ η φ w x vx) {K:Dat->Prop}(h:pG op x K no):no\/∃d v,K d/\(Op.unary op vx).run P w=.ok v w/\RD B σ η φ w d v:=by
 unfold pG at h
 split at h
 ·rw[hx.bool];exact .inr ⟨_,_,h,rfl,JO _⟩
 ·rw[hx.prop];exact .inr ⟨_,_,h,by simp[Op.unary],EE _ _⟩
 ·rw[hx.int];obtain⟨m,h1,h2⟩:=h;exact .inr ⟨_,_,h2,by simp[Op.unary,Op.intArith,h1],Ew _ _⟩
 ·exact .inl h
end
end Go.Sx
namespace Go.Sx
open Go Go.RowKit Go.Reg
mutual
theorem Ev {O:List Nat} {w:World}:∀(d:Da) (cs:List Value),RepC O w d cs->cs.length=d.size
 |.agg ds,cs,h=>by simp only[RepC]at h;simp only[Da.size];exact Rp ds cs h
 |.undef,cs,h=>by simp only[RepC]at h;obtain⟨v,rfl⟩:=h;rfl
 |.int _ _,cs,h=>by simp only[RepC]at h;subst h;rfl
 |.bool _,cs,h=>by simp only[RepC]at h;subst h;rfl
 |.prop _ _,cs,h=>by simp only[RepC]at h;subst h;rfl
 |.str _,cs,h=>by simp only[RepC]at h;subst h;rfl
 |.tuple _,cs,h=>by simp only[RepC]at h;obtain⟨_,_,rfl⟩:=h;rfl
 |.nilp,cs,h=>by simp only[RepC]at h;subst h;rfl
 |.nils,cs,h=>by simp only[RepC]at h;subst h;rfl
 |.nilm,cs,h=>by simp only[RepC]at h;subst h;rfl
 |.nilf,cs,h=>by simp only[RepC]at h;subst h;rfl
 |.nili,cs,h=>by simp only[RepC]at h;subst h;rfl
 |.iface _ _,cs,h=>by simp only[RepC]at h;obtain⟨_,_,rfl⟩:=h;rfl
 |.ref _,cs,h=>by simp only[RepC]at h;obtain⟨_,_,_,rfl,_⟩:=h;rfl
 |.list _ _,cs,h=>by simp only[RepC]at h;obtain⟨_,_,_,rfl,_⟩:=h;rfl
 |.func _ _ _,cs,h=>by simp only[RepC]at h;obtain⟨_,_,_,_,rfl⟩:=h;rfl
 |.raw _,cs,h=>by simp only[RepC]at h;subst h;rfl
theorem Rp {O:List Nat} {w:World}:∀(ds:List Da) (cs:List Value),RepCs O w ds cs->cs.length=Yn ds
 |[],cs,h=>by simp only[RepCs]at h;subst h;rfl
 |
  d::ds,cs,h=>by
  simp only[RepCs]at h
  obtain⟨c1,c2,rfl,h1,h2⟩:=h
  simp only[Ae,Yn,Ev d c1 h1,Rp ds c2 h2]
end
mutual
theorem DB {η:Nat->Value} {I O:List Nat} {w:World}:∀(d:Dat) (cs:List Value),A4 η I O w d cs->cs.length=d.size
 |.d x,cs,h=>Ev x cs h
 |.agg ds,cs,h=>by simp only[A4]at h;simp only[Dat.size];exact Hw ds cs h
 |.own _,cs,h=>by simp only[A4]at h;obtain⟨_,rfl⟩:=h;rfl
 |.at_ _ _,cs,h=>by simp only[A4]at h;obtain⟨_,_,_,rfl⟩:=h;rfl
 |.el _ _ _ _,cs,h=>by simp only[A4]at h;obtain⟨_,_,_,_,_,rfl⟩:=h;rfl
 |.tuple _,cs,h=>by simp only[A4]at h;obtain⟨_,_,rfl⟩:=h;rfl
 |.iface _ _,cs,h=>by simp only[A4]at h;obtain⟨_,_,rfl⟩:=h;rfl
 |.func _ _ _,cs,h=>by simp only[A4]at h;obtain⟨_,_,_,_,rfl⟩:=h;rfl
theorem Hw {η:Nat->Value} {I O:List Nat} {w:World}:∀(ds:List Dat) (cs:List Value),AX η I O w ds cs->cs.length=KN ds
 |[],cs,h=>by simp only[AX]at h;subst h;rfl
 |
  d::ds,cs,h=>by
  simp only[AX]at h
  obtain⟨c1,c2,rfl,h1,h2⟩:=h
  simp only[Ae,KN,DB d c1 h1,Hw ds c2 h2]
end
mutual
theorem Jg {O:List Nat} {w:World}:∀(d:Da) (cs:List Value),d.stor=true->RepC O w d cs->∀v∈cs,v.oneCell'=true
 |.agg ds,cs,hs,h=>by simp only[RepC]at h;simp only[Da.stor]at hs;exact Ro ds cs hs h
 |.undef,cs,hs,h=>by cases hs
 |.int _ _,cs,hs,h=>by simp only[RepC]at h;subst h;simp[Value.oneCell']
 |.bool _,cs,hs,h=>by simp only[RepC]at h;subst h;simp[Value.oneCell']
 |.prop _ _,cs,hs,h=>by simp only[RepC]at h;subst h;simp[Value.oneCell']
 |.str _,cs,hs,h=>by simp only[RepC]at h;subst h;simp[Value.oneCell']
 |.tuple _,cs,hs,h=>by cases hs
 |.nilp,cs,hs,h=>by simp only[RepC]at h;subst h;simp[Value.oneCell']
 |.nils,cs,hs,h=>by simp only[RepC]at h;subst h;simp[Value.oneCell']
 |.nilm,cs,hs,h=>by simp only[RepC]at h;subst h;simp[Value.oneCell']
 |.nilf,cs,hs,h=>by simp only[RepC]at h;subst h;simp[Value.oneCell']
 |.nili,cs,hs,h=>by simp only[RepC]at h;subst h;simp[Value.oneCell']
 |.iface _ _,cs,hs,h=>by simp only[RepC]at h;obtain⟨_,_,rfl⟩:=h;simp[Value.oneCell']
 |.ref _,cs,hs,h=>by simp only[RepC]at h;obtain⟨_,_,_,rfl,_⟩:=h;simp[Value.oneCell']
 |.list _ _,cs,hs,h=>by simp only[RepC]at h;obtain⟨_,_,_,rfl,_⟩:=h;simp[Value.oneCell']
 |.func _ _ _,cs,hs,h=>by simp only[RepC]at h;obtain⟨_,_,_,_,rfl⟩:=h;simp[Value.oneCell']
 |.raw _,cs,hs,h=>by cases hs
theorem Ro {O:List Nat} {w:World}:∀(ds:List Da) (cs:List Value),Yj ds=true->RepCs O w ds cs->∀v∈cs,v.oneCell'=true
 |[],cs,hs,h=>by simp only[RepCs]at h;subst h;simp
 |
  d::ds,cs,hs,h=>by
  simp only[RepCs]at h
  obtain⟨c1,c2,rfl,h1,h2⟩:=h
  simp only[Yj,Ah]at hs
  intro v hv
  rcases Ag.1 hv with hv|hv
  ·exact Jg d c1 hs.1 h1 v hv
  ·exact Ro ds c2 hs.2 h2 v hv
end
def jD(η:Nat->Value)(I:List Nat):Prop:=∀i∈I,(η i).oneCell'=true
mutual
theorem LQ {η:Nat->Value} {I O:List Nat} {w:World}(hη:jD η I):∀(d:Dat) (cs:List Value),d.stor=true->A4 η I O w d cs->∀v∈cs,v.oneCell'=true
 |.d x,cs,hs,h=>Jg x cs hs h
 |.agg ds,cs,hs,h=>by simp only[A4]at h;simp only[Dat.stor]at hs;exact Rn hη ds cs hs h
 |.own i,cs,hs,h=>by simp only[A4]at h;obtain⟨h1,rfl⟩:=h;simpa using hη i h1
 |.at_ _ _,cs,hs,h=>by simp only[A4]at h;obtain⟨_,_,_,rfl⟩:=h;simp[Value.oneCell']
 |.el _ _ _ _,cs,hs,h=>by simp only[A4]at h;obtain⟨_,_,_,_,_,rfl⟩:=h;simp[Value.oneCell']
 |.tuple _,cs,hs,h=>by cases hs
 |.iface _ _,cs,hs,h=>by simp only[A4]at h;obtain⟨_,_,rfl⟩:=h;simp[Value.oneCell']
 |.func _ _ _,cs,hs,h=>by simp only[A4]at h;obtain⟨_,_,_,_,rfl⟩:=h;simp[Value.oneCell']
theorem Rn {η:Nat->Value} {I O:List Nat} {w:World}(hη:jD η I):∀(ds:List Dat) (cs:List Value),Su ds=true->AX η I O w ds cs->∀v∈cs,v.oneCell'=true
 |[],cs,hs,h=>by simp only[AX]at h;subst h;simp
 |
  d::ds,cs,hs,h=>by
  simp only[AX]at h
  obtain⟨c1,c2,rfl,h1,h2⟩:=h
  simp only[Su,Ah]at hs
  intro v hv
  rcases Ag.1 hv with hv|hv
  ·exact LQ hη d c1 hs.1 h1 v hv
  ·exact Rn hη ds c2 hs.2 h2 v hv
end
theorem Zi {O:List Nat} {w:World} {d:Da} {cs:List Value}(h:RepC O w d cs)(hs:d.stor=true):(Fc d cs).cells.toList=cs/\(d.isAgg=false->cs=[Fc d cs]):=by
 have hl:=Ev d cs h
 have ho:=Jg d cs hs h
 cases d with
 |agg ds=>exact⟨by simp[Fc,Value.cells],λh=>by cases h⟩
 |
  _=>
  all_goals
   simp only[Da.size]at hl
   obtain⟨v,rfl⟩:=BS.1 hl
   have:=ho v (by simp)
   refine⟨?_,λ_=>rfl⟩
   simp only[Fc,kE]
   cases v<;>simp[Value.oneCell']at this<;>rfl
theorem Ip {η:Nat->Value} {I O:List Nat} {w:World} {d:Dat} {cs:List Value}(hη:jD η I)(h:A4 η I O w d cs)(hs:d.stor=true):(BD d cs).cells.toList=cs/\(d.isAgg=false->cs=[BD d cs]):=by
 have hl:=DB d cs h
 have ho:=LQ hη d cs hs h
 cases d with
 |d x=>exact Zi h hs
 |agg ds=>exact⟨by simp[BD,Value.cells],λh=>by cases h⟩
 |
  _=>
  all_goals
   simp only[Dat.size]at hl
   obtain⟨v,rfl⟩:=BS.1 hl
   have:=ho v (by simp)
   refine⟨?_,λ_=>rfl⟩
   simp only[BD,kE]
   cases v<;>simp[Value.oneCell']at this<;>rfl
theorem Ja {P:Program} {t:TypeId} {e:TyI}(h:TyOk P t e) {w:World} {b o:Nat} {cs:List Value}(hc:Ed w b o cs)(hl:cs.length=e.size)(hs:e.agg=false->e.size=1):
  (loadVar t ⟨b,o,none⟩).run P w=.ok (if e.agg then .agg cs.toArray else cs.headD undef) w:=by
 unfold loadVar
 simp only[A0,h.isAgg,Ay]
 cases ha:e.agg
 ·have h1:=hs ha
  rw[h1]at hl
  obtain⟨v,rfl⟩:=BS.1 hl
  have h2:w.cell? ⟨b,o,none⟩=some v:=hc 0 v rfl
  simp[h2]
 ·have:=run_loadCells_list (P:=P) w ⟨b,o,none⟩ cs (λj v hj=>by
   have:=hc j v hj
   by_cases hj0:j=0
   ·subst hj0;exact this
   ·simpa[Addr.add,hj0]using this)
  rw[hl]at this
  simp only[if_true,A0,h.sizeOf,Ay,this,AQ]
theorem I7 {d:Dat} {e:TyI}(h:d.fits e=true):d.isAgg=e.agg/\d.size=e.size:=by
 simp only[Dat.fits,Ah,beq_iff_eq]at h
 exact⟨h.1,Am h.2⟩
theorem dQ {d:Da}(h:d.isAgg=false):d.size=1:=by
 cases d<;>first|rfl|cases h
theorem MW {d:Dat}(h:d.isAgg=false):d.size=1:=by
 cases d with
 |d x=>exact dQ h
 |agg ds=>cases h
 |_=>rfl
theorem Gv {d:Dat} {cs:List Value}:BD d cs=if d.isAgg then .agg cs.toArray else cs.headD undef:=by
 cases d with
 |d x=>cases x<;>rfl
 |_=>rfl
theorem Fe {η:Nat->Value} {I O:List Nat} {w:World}:∀{xs:List Da} {cs:List Value},AX η I O w (B8 xs) cs↔RepCs O w xs cs
 |[],cs=>by simp[B8,AX,RepCs]
 |x::xs,cs=>by simp only[B8,AX,RepCs,A4,Fe (xs:=xs)]
theorem Hz {η:Nat->Value} {I O:List Nat} {w:World} {d:Dat} {es:List Dat} {cs:List Value}(h:d.parts=some es)(hd:A4 η I O w d cs):AX η I O w es cs/\d.isAgg=true:=by
 unfold Dat.parts at h
 split at h
 ·simp at h;subst h;exact⟨Fe.2 (by simpa only[A4,RepC]using hd),rfl⟩
 ·simp at h;subst h;exact⟨by simpa only[A4]using hd,rfl⟩
 ·cases h
theorem HG {η:Nat->Value} {I O:List Nat} {w:World} {e:TyI}:∀(f:Nat) (ds:List Dat) (o:Nat) {d:Dat} {cs:List Value},I2 e f ds o=some d->AX η I O w ds cs->d.fits e=true/\∃c,A4 η I O w d c/\∀(j:Nat) (u:Value),c[j]? =some u->cs[o+j]? =some u
 |0,_,_,_,_,h,_=>by simp[I2]at h
 |f+1,[],_,_,_,h,_=>by simp[I2]at h
 |
  f+1,d::ds,o,x,cs,h,hr=>by
  simp only[AX]at hr
  obtain⟨c1,c2,rfl,h1,h2⟩:=hr
  have hl:=DB d c1 h1
  simp only[I2]at h
  split at h
  ·rename_i hb
   have hlt:¬o<d.size:=by
    intro hh;rw[(by simpa[Nat.blt_eq]using hh:Nat.blt o d.size=true)]at hb;cases hb
   obtain⟨g1,c,g2,g3⟩:=HG f ds _ h h2
   refine⟨g1,c,g2,λj u hj=>?_⟩
   rw[Cq (by omega),hl]
   have:=g3 j u hj
   rwa [show o+j-d.size=o-d.size+j by omega]
  ·split at h
   ·rename_i hb2
    simp only[Ah]at hb2
    have h0:=Am hb2.1
    simp at h;subst h;subst h0
    exact⟨hb2.2,c1,h1,λj u hj=>by rw[BO (by have:=(Ad.1 hj).1;omega),E7];exact hj⟩
   ·split at h
    ·rename_i es hp
     obtain⟨g1,c,g2,g3⟩:=HG f es o h (Hz hp h1).1
     refine⟨g1,c,g2,λj u hj=>?_⟩
     have:=g3 j u hj
     rw[BO (Ad.1 this).1]
     exact this
    ·cases h
def splice(cs:List Value)(o:Nat)(x:List Value):List Value:=cs.take o++x++cs.drop (o+x.length)
theorem IY {c1 c2 x:List Value} {o:Nat}(h:o+x.length<=c1.length):splice (c1++c2) o x=splice c1 o x++c2:=by
 unfold splice
 rw[Br (by omega),List.drop_append_of_le_length h]
 simp
theorem DT {c1 c2 x:List Value} {o:Nat}(h:c1.length<=o):splice (c1++c2) o x=c1++splice c2 (o-c1.length) x:=by
 unfold splice
 rw[List.take_append,bW,Ao (by omega),Gg (by omega:c1.length<=o+x.length),show o+x.length-c1.length=o-c1.length+x.length by omega]
 simp
theorem Ji {η:Nat->Value} {I O:List Nat} {w:World} {x:Dat} {cx:List Value}(hx:A4 η I O w x cx):∀(f:Nat) (ds:List Dat) (o:Nat) {ds':List Dat} {cs:List Value},LU x f ds o=some ds'->AX η I O w ds cs->AX η I O w ds' (splice cs o cx)/\o+cx.length<=cs.length
 |0,_,_,_,_,h,_=>by simp[LU]at h
 |f+1,[],_,_,_,h,_=>by simp[LU]at h
 |
  f+1,d::ds,o,ds',cs,h,hr=>by
  simp only[AX]at hr
  obtain⟨c1,c2,rfl,h1,h2⟩:=hr
  have hl:=DB d c1 h1
  have hlx:=DB x cx hx
  simp only[LU]at h
  split at h
  ·rename_i hb
   have hlt:¬o<d.size:=by
    intro hh;rw[(by simpa[Nat.blt_eq]using hh:Nat.blt o d.size=true)]at hb;cases hb
   unfold oF at h
   split at h
   ·rename_i l hp
    simp at h;subst h
    obtain⟨g1,g2⟩:=Ji hx f ds _ hp h2
    rw[DT (by omega),hl]
    refine⟨?_,by simp;omega⟩
    simp only[AX]
    exact⟨c1,_,rfl,h1,g1⟩
   ·cases h
  ·split at h
   ·rename_i hb2
    simp only[Ah,beq_iff_eq]at hb2
    obtain⟨⟨h0,_⟩,h3⟩:=hb2
    have h0:=Am h0
    have h3:=Am h3
    simp at h;subst h;subst h0
    have:splice (c1++c2) 0 cx=cx++c2:=by
     unfold splice
     rw[bW,Gg (by omega)]
     simp
     rw[show cx.length-c1.length=0 by omega];rfl
    rw[this]
    refine⟨?_,by simp;omega⟩
    simp only[AX]
    exact⟨cx,c2,rfl,hx,h2⟩
   ·split at h
    ·rename_i es hp
     unfold sK at h
     split at h
     ·rename_i l hp2
      simp at h;subst h
      obtain⟨g1,g2⟩:=Ji hx f es o hp2 (Hz hp h1).1
      rw[IY (by omega)]
      refine⟨?_,by simp;omega⟩
      simp only[AX,A4]
      exact⟨_,c2,rfl,g1,h2⟩
     ·cases h
    ·cases h
theorem GL.splice {P:Program} {w:World} {b:Nat} {T:TypeId} {cs x:List Value} {o:Nat}(h:GL w b T cs)(hl:o+x.length<=cs.length)(h1:∀v∈x,v.oneCell'=true):
  ∃w',(storeCells ⟨b,o,none⟩ x).run P w=.ok () w'/\GL w' b T (splice cs o x)/\Tch [b] w w':=by
 have:=run_storeCells_at P b o T x 0 cs.toArray w h (by simpa using hl) h1
 refine⟨_,this,?_,?_⟩
 ·have e:=setRow_heap w b cs.toArray (cs.toArray.toList.take (o+0)++x++cs.toArray.toList.drop (o+0+x.length)).toArray T (0,0) h
  unfold GL;rw[e];simp[Sx.splice]
 ·exact⟨rfl,rfl,rfl,by simp[World.setRow],λk hk hn=>by
   have:b≠k:=λe=>hn (by simp[e])
   simp[World.setRow,Ca,this]⟩
end Go.Sx
namespace Go.Sx
open Go Go.RowKit Go.Reg
theorem JN {O:List Nat} {w:World}:∀{ds:List Da} {css:List (List Value)},Al O w ds css->∀{n:Nat} {d:Da},ds[n]? =some d->∃c,css[n]? =some c/\RepC O w d c
 |[],css,h,n,d,hn=>by simp at hn
 |
  x::ds,css,h,n,d,hn=>by
  simp only[Al]at h
  obtain⟨c1,c2,rfl,h1,h2⟩:=h
  cases n with
  |zero=>simp at hn;subst hn;exact⟨c1,rfl,h1⟩
  |succ n=>exact JN h2 (by simpa using hn)
theorem FQ {O:List Nat} {w:World}:∀{ds es:List Da} {css css2:List (List Value)},Al O w ds css->Al O w es css2->Al O w (ds++es) (css++css2)
 |[],es,css,css2,h,h2=>by simp only[Al]at h;subst h;simpa using h2
 |
  x::ds,es,css,css2,h,h2=>by
  simp only[Al]at h
  obtain⟨c1,c2,rfl,h1,h3⟩:=h
  exact⟨c1,c2++css2,rfl,h1,FQ h3 h2⟩
theorem P1 {O:List Nat} {w:World}:∀{ds:List Da} {css:List (List Value)},Al O w ds css->∀(n:Nat) {d:Da} {c:List Value},RepC O w d c->Al O w (ds.set n d) (css.set n c)
 |[],css,h,n,d,c,hc=>by simp only[Al]at h;subst h;simp[Al]
 |
  x::ds,css,h,n,d,c,hc=>by
  simp only[Al]at h
  obtain⟨c1,c2,rfl,h1,h2⟩:=h
  cases n with
  |zero=>exact⟨c,c2,rfl,hc,h2⟩
  |succ n=>exact⟨c1,c2.set n c,rfl,h1,P1 h2 n hc⟩
theorem Jf {O:List Nat} {w:World}:∀{ds:List Da} {css:List (List Value)},Al O w ds css->∀n,Al O w (ds.take n) (css.take n)
 |[],css,h,n=>by simp only[Al]at h;subst h;simp[Al]
 |
  x::ds,css,h,n=>by
  simp only[Al]at h
  obtain⟨c1,c2,rfl,h1,h2⟩:=h
  cases n with
  |zero=>simp[Al]
  |succ n=>exact⟨c1,c2.take n,rfl,h1,Jf h2 n⟩
theorem NX {O:List Nat} {w:World}:∀{ds:List Da} {css:List (List Value)},Al O w ds css->∀n,Al O w (ds.drop n) (css.drop n)
 |[],css,h,n=>by simp only[Al]at h;subst h;simp[Al]
 |
  x::ds,css,h,n=>by
  simp only[Al]at h
  obtain⟨c1,c2,rfl,h1,h2⟩:=h
  cases n with
  |zero=>exact⟨c1,c2,rfl,h1,h2⟩
  |succ n=>exact NX h2 n
theorem Qn {k:Nat}:∀{css:List (List Value)},(∀x∈css,x.length=k)->∀{n:Nat} {c:List Value},css[n]? =some c->∀{j:Nat} {u:Value},c[j]? =some u->css.flatten[n*k+j]? =some u
 |[],h,n,c,hn,j,u,hj=>by simp at hn
 |
  x::css,h,n,c,hn,j,u,hj=>by
  have hx:=h x (by simp)
  cases n with
  |
   zero=>
   simp at hn;subst hn
   have:=(Ad.1 hj).1
   simp only[Ci,Nat.zero_mul,E7]
   rw[BO (by omega)];exact hj
  |
   succ n=>
   simp only[Ci]
   rw[Cq (by rw[hx,Ct];omega),hx,show(n+1)*k+j-k=n*k+j by rw[Ct];omega]
   exact Qn (λy hy=>h y (by simp[hy])) (by simpa using hn) hj
theorem HS {k:Nat}:∀{css:List (List Value)},(∀x∈css,x.length=k)->css.flatten.length=css.length*k
 |[],h=>by simp
 |
  x::css,h=>by
  have ih:=HS (css:=css) (λy hy=>h y (AB _ hy))
  simp only[Ci,Ae,Ax,h x (by simp),ih,Ct];omega
theorem iA {k:Nat} {css:List (List Value)}(h:∀x∈css,DS k x):∀v∈css.flatten,v.oneCell'=true:=λv hv=>by
 obtain⟨x,hx,hv⟩:=List.mem_flatten.1 hv
 exact(h x hx).2 v hv
theorem flatMap_id(css:List (List Value)):css.flatMap id=css.flatten:=by simp[List.flatMap]
theorem RN {k:Nat}:∀{css:List (List Value)},(∀x∈css,x.length=k)->∀n,(css.drop n).flatten=css.flatten.drop (n*k)
 |[],h,n=>by simp
 |x::css,h,0=>by simp
 |
  x::css,h,n+1=>by
  have hx:=h x (by simp)
  simp only[List.drop_succ_cons,Ci]
  have e:x.drop ((n+1)*k)=[]:=Gg (by rw[hx,Ct];omega)
  rw[RN (λy hy=>h y (by simp[hy])) n,bW,e,CN,hx,show(n+1)*k-k=n*k by rw[Ct];omega]
theorem Ed.mono {w:World} {b o:Nat} {cs:List Value} {m:Nat} {x:List Value}(h:Ed w b o cs)(hx:∀(j:Nat) (u:Value),x[j]? =some u->cs[m+j]? =some u):Ed w b (o+m) x:=λj u hj=>by
 have:=h (m+j) u (hx j u hj)
 rwa [<-IP]at this
section
variable {C:Cx} {T:Fm} {B S:List Nat} {w0 w:World} {n:Nat} {fr:Fr} {σ:Sg} {η:Nat->Value} {φ:Nat->List Nat} {a:Act} {v vx vy:Value} {no:Prop}
theorem Mem.oneV(h:Mem C B S w0 σ η φ w):jD η (Bp σ):=by
 intro i hi
 obtain⟨p,hp,rfl⟩:=Aq.1 hi
 have:=h.own p hp
 cases ho:p.2 with
 |cells t ds=>rw[ho]at this;obtain⟨b,cs,h1,_⟩:=this;rw[h1];rfl
 |
  slice E k ds=>
  rw[ho]at this
  obtain⟨css,hs,_⟩:=this
  rcases hs.shape with⟨he,_⟩|⟨g,c,he,_⟩<;>rw[he]<;>rfl
 |abs R k l o=>rw[ho]at this;exact o _ _ _ this
 |ghost vs ds=>rw[ho]at this;obtain⟨h1,_⟩:=this;rw[h1];rfl
theorem Ht {E k:Nat} {css:List (List Value)}(h:Sl E k id w v css) {g l c:Nat}(hv:v=.slice (some ⟨g,0,none⟩) l c):Ed w g 0 css.flatten:=by
 intro j u hj
 have:=IE h (g:=g) (by rw[hv];rfl) j u (by rw[flatMap_id];exact hj)
 simpa[Cz]using this
theorem RD.force {d:Dat} {K:Dat->Prop}(h:force d K):K d:=by rwa [HP]at h
theorem Dv:∀{ds:List Dat} {xs:List Da},DY ds=some xs->ds=B8 xs
 |[],xs,h=>by simp[DY]at h;subst h;rfl
 |
  .d x::ds,xs,h=>by
  simp only[DY]at h
  split at h
  ·rename_i ys hy;simp at h;subst h;simp[B8,Dv hy]
  ·cases h
 |.own _::ds,xs,h=>by simp[DY]at h
 |.at_ _ _::ds,xs,h=>by simp[DY]at h
 |.el _ _ _ _::ds,xs,h=>by simp[DY]at h
 |.agg _::ds,xs,h=>by simp[DY]at h
 |.tuple _::ds,xs,h=>by simp[DY]at h
 |.iface _ _::ds,xs,h=>by simp[DY]at h
 |.func _ _ _::ds,xs,h=>by simp[DY]at h
theorem Uh {ds:List Dat} {cs:List Value}(h:AX η (Bp σ) (B++Ak φ σ) w ds cs):RD B σ η φ w (UC ds) (.agg cs.toArray):=by
 unfold UC
 split
 ·rename_i xs hxs
  rw[Dv hxs]at h
  exact⟨cs,by simp only[A4,RepC];exact Fe.1 h,rfl⟩
 ·exact⟨cs,by simpa only[A4]using h,rfl⟩
theorem Ha {η:Nat->Value} {I O:List Nat} {w:World} {d:Dat} {cs:List Value}(h:A4 η I O w d cs):AX η I O w d.cellsOf cs:=by
 have one:∀{d:Dat},A4 η I O w d cs->AX η I O w [d] cs:=λh=>by simp only[AX];exact⟨cs,[],by simp,h,rfl⟩
 unfold Dat.cellsOf
 split
 ·exact Fe.2 (by simpa only[A4,RepC]using h)
 ·simpa only[A4]using h
 ·exact one h
theorem Rg(hC:C.Ok T)(hm:Mem C B S w0 σ η φ w) {t:TypeId} {x:Dat}(hx:RD B σ η φ w x vx) {K:Dat->Prop}(h:Sq T t x σ K no):no\/∃d v,K d/\(Instr.loadAt t vx).run C.P w=.ok v w/\RD B σ η φ w d v:=by
 unfold Sq at h
 rcases Bk h with h|⟨e,he,h⟩
 ·exact .inl h
 have ht:=hC.ty he
 have key:∀{d:Dat} {cs:List Value} {b o:Nat},d.fits e=true->A4 η (Bp σ) (B++Ak φ σ) w d cs->Ed w b o cs->vx=.pointer (some ⟨b,o,none⟩)->∃v,(Instr.loadAt t vx).run C.P w=.ok v w/\RD B σ η φ w d v:=by
  intro d cs b o hf hr hc hv
  obtain⟨g1,g2⟩:=I7 hf
  have hl:=DB d cs hr
  refine⟨_,?_,cs,hr,rfl⟩
  rw[hv,Gv,g1]
  simp only[Instr.loadAt,Instr.sureAddr,A0,AQ,Ay]
  exact Ja ht hc (by omega) (λhh=>by rw[<-g2];exact MW (by rw[g1];exact hh))
 split at h
 ·rcases AW h with h|⟨hf,h⟩
  ·exact .inl h
  obtain⟨cs,h1,h2⟩:=hx
  simp only[A4,RepC]at h1
  obtain⟨b,o,c,rfl,_,_,h4,h5⟩:=h1
  obtain⟨v,g1,g2⟩:=key (d:=.d _) (cs:=c) hf (by simpa only[A4]using h4) h5 h2
  exact .inr ⟨_,v,h,g1,g2⟩
 ·rcases AR h with h|⟨ow,hg,h⟩
  ·exact .inl h
  split at h
  ·obtain⟨b,cs,e1,_,hb,hr⟩:=CT hm hg
   obtain⟨cs',h1,h2⟩:=hx
   simp only[A4]at h1
   obtain⟨_,rfl⟩:=h1
   split at h
   ·rename_i hcond
    simp only[Ah]at hcond
    rcases AW h with h|⟨hsz,h⟩
    ·exact .inl h
    have hsz:=Am hsz
    have hl:=Hw _ _ hr
    refine .inr ⟨_,_,RD.force h,?_,Uh hr⟩
    rw[show vx=.pointer (some ⟨b,0,none⟩)from h2.trans (by rw[e1];rfl)]
    simp only[Instr.loadAt,Instr.sureAddr,A0,AQ,Ay]
    have:=Ja ht (w:=w) (b:=b) (o:=0) (cs:=cs) (λj u hj=>by have:=hb.cell hj;simpa using this) (by omega) (λhh=>by rw[hcond.2]at hh;cases hh)
    rw[this,hcond.2];rfl
   rcases AR h with h|⟨d,hd,h⟩
   ·exact .inl h
   obtain⟨g1,c,g2,g3⟩:=HG _ _ _ hd hr
   obtain⟨v,g4,g5⟩:=key g1 g2 (Ed.mono (o:=0) (cs:=cs) (λj u hj=>by have:=hb.cell hj;simpa using this) g3) (h2.trans (by rw[e1];rfl))
   exact .inr ⟨_,v,RD.force h,g4,g5⟩
  ·exact .inl h
 ·rcases AR h with h|⟨ow,hg,h⟩
  ·exact .inl h
  split at h
  ·rcases AR h with h|⟨d,hd,h⟩
   ·exact .inl h
   obtain⟨b,cs,e1,_,hb,hr⟩:=CT hm hg
   obtain⟨cs',h1,h2⟩:=hx
   simp only[A4]at h1
   obtain⟨_,b',e2,rfl⟩:=h1
   rw[e1]at e2
   cases e2
   obtain⟨g1,c,g2,g3⟩:=HG _ _ _ hd hr
   obtain⟨v,g4,g5⟩:=key g1 g2 (Ed.mono (o:=0) (cs:=cs) (λj u hj=>by have:=hb.cell hj;simpa using this) g3) (h2.trans (by simp[BD]))
   exact .inr ⟨_,v,RD.force h,g4,g5⟩
  ·exact .inl h
 ·rcases AR h with h|⟨ow,hg,h⟩
  ·exact .inl h
  split at h
  ·rename_i i k0 m off _ _ _ E k ds
   rcases AW h with h|⟨hk0,d0,hd0,h⟩
   ·exact .inl h
   have hk0:=Am hk0
   rcases AR h with h|⟨d,hd,h⟩
   ·exact .inl h
   obtain⟨css,hs,_,hr,hk⟩:=Bq hm hg
   obtain⟨cs',h1,h2⟩:=hx
   simp only[A4]at h1
   obtain⟨_,b',l,c',e2,rfl⟩:=h1
   obtain⟨c0,hc0,hr0⟩:=JN hr hd0
   obtain⟨g1,c,g2,g3⟩:=HG _ _ _ hd (cs:=c0) (by simp only[AX,A4];exact⟨c0,[],by simp,hr0,rfl⟩)
   obtain⟨v,g4,g5⟩:=key g1 g2 (b:=b') (o:=0+(m*k+off)) (Ed.mono (o:=0) (Ht hs e2) (λj u hj=>by
    rw[IP];exact Qn (λx hx=>(hk x hx).1) hc0 (g3 j u hj))) (h2.trans (by simp[BD,hk0]))
   exact .inr ⟨_,v,RD.force h,g4,g5⟩
  ·exact .inl h
 ·exact .inl h
theorem J3 {k off:Nat} {x:List Value}:∀{css:List (List Value)},(∀y∈css,y.length=k)->∀{n:Nat} {c:List Value},css[n]? =some c->off+x.length<=k->splice css.flatten (n*k+off) x=(css.set n (splice c off x)).flatten
 |[],h,n,c,hn,hl=>by simp at hn
 |
  y::css,h,n,c,hn,hl=>by
  have hy:=h y (by simp)
  cases n with
  |
   zero=>
   simp at hn;subst hn
   simp only[Ci,List.set_cons_zero,Nat.zero_mul,E7]
   exact IY (by omega)
  |
   succ n=>
   simp only[Ci,List.set_cons_succ]
   rw[DT (by rw[hy,Ct];omega),hy,show(n+1)*k+off-k=n*k+off by rw[Ct];omega]
   rw[J3 (λz hz=>h z (AB _ hz)) (by simpa using hn) hl]
theorem Is {cs x:List Value} {o:Nat}(h:o+x.length<=cs.length):(splice cs o x).length=cs.length:=by
 unfold splice;simp;omega
theorem TJ {cs x:List Value} {o m:Nat}(h:o+x.length<=m)(hm:m<=cs.length):(splice cs o x).take m=splice (cs.take m) o x:=by
 have hl:(cs.take m).length=m:=by simp;omega
 have e:=IY (c1:=cs.take m) (c2:=cs.drop m) (x:=x) (o:=o) (by omega)
 rw[CA]at e
 rw[e]
 have:=Is (cs:=cs.take m) (x:=x) (o:=o) (by omega)
 rw[Br (by omega),Ao (by omega)]
theorem Wy {cs x:List Value} {o:Nat}(h1:∀v∈cs,v.oneCell'=true)(h2:∀v∈x,v.oneCell'=true):∀v∈splice cs o x,v.oneCell'=true:=by
 intro v hv
 unfold splice at hv
 rcases Ag.1 hv with hv|hv
 ·rcases Ag.1 hv with hv|hv
  ·exact h1 v (Ea hv)
  ·exact h2 v hv
 ·exact h1 v (List.mem_of_mem_drop hv)
theorem Sl.spliceAt {P:Program} {E k:Nat} {css:List (List Value)}(hk:∀x∈css,DS k x)(h:Sl E k id w v css) {g l c:Nat}(hv:v=.slice (some ⟨g,0,none⟩) l c) {m off:Nat} {c0 x:List Value}(hm:css[m]? =some c0)(hl:off+x.length<=k)(h1:∀u∈x,u.oneCell'=true):
  ∃w',(storeCells ⟨g,m*k+off,none⟩ x).run P w=.ok () w'/\Sl E k id w' v (css.set m (splice c0 off x))/\Tch [g] w w':=by
 have hk':∀y∈css,y.length=k:=λy hy=>(hk y hy).1
 have hfl:css.flatten.length=css.length*k:=HS hk'
 have hml:m<css.length:=(Ad.1 hm).1
 have hmk:m*k+k<=css.length*k:=by rw[<-Nat.succ_mul];exact Fj k hml
 rcases h.2 with⟨hn,_⟩|⟨g',cap,cur,he,_,hg,hc,hcm,hcs,ht⟩
 ·rw[hn]at hv;cases hv
 ·rw[he]at hv;cases hv
  rw[flatMap_id]at ht
  have hle:css.length*k<=cur.size:=by rw[hcs];exact Fj k hc
  have hr:=run_storeCells_at P g (m*k+off) E x 0 cur w hg (by omega) h1
  refine⟨_,hr,⟨?_,.inr ⟨g,c,(splice cur.toList (m*k+off) x).toArray,?_,As _,?_,by simpa using hc,hcm,?_,?_⟩⟩,?_⟩
  ·rw[flatMap_id,<-J3 hk' hm hl,Is (by omega),hfl];simp
  ·rw[he];simp
  ·have e:=setRow_heap w g cur (cur.toList.take (m*k+off+0)++x++cur.toList.drop (m*k+off+0+x.length)).toArray E (0,0) hg
   rw[e];simp[splice]
  ·simp only[Ch,Is (cs:=cur.toList) (x:=x) (o:=m*k+off) (by simp;omega)];simpa using hcs
  ·rw[flatMap_id,<-J3 hk' hm hl,kD,<-ht]
   exact TJ (by omega) (by simpa using hle)
  ·exact⟨rfl,rfl,rfl,by simp[World.setRow],λj hj hn=>by
    have:g≠j:=λe=>hn (by simp[e])
    simp[World.setRow,Ca,this]⟩
theorem LA {α:Type}(f:Nat->α)(i:Nat):Ds f i (f i)=f:=by funext j;by_cases h:j=i<;>simp[Ds,h]
def Tt(C:Cx)(B S:List Nat)(w0:World)(σ σ':Sg)(η:Nat->Value)(φ:Nat->List Nat)(w w':World):Prop:=
 Mem C B S w0 σ' η φ w'/\Later (B++Ak φ σ) w (B++Ak φ σ') w'/\Bp σ'=Bp σ
theorem Tt.frame {σ':Sg} {w':World}(h:Tt C B S w0 σ σ' η φ w w') {fr:Fr} {a:Act}(hf:Gj η (Bp σ) (B++Ak φ σ) w fr a):Gj η (Bp σ') (B++Ak φ σ') w' fr a:=
 hf.later h.2.1 (λi hi=>⟨by rw[h.2.2];exact hi,rfl⟩)
theorem Gl(hm:Mem C B S w0 σ η φ w) {i:Nat} {t:TypeId} {ds ds':List Dat}(hg:BA i σ=some (.cells t ds)) {b:Nat} {cs':List Value} {w':World}(he:η i=.pointer (some ⟨b,0,none⟩))(hf:φ i=[b])(hr:AX η (Bp σ) (B++Ak φ σ) w ds' cs')(hb:GL w' b t cs')(ht:Tch [b] w w'):
  Tt C B S w0 σ (B2 id i (.cells t ds') σ) η φ w w':=by
 have hi:=AP (Bd hg)
 have hX:∀x∈[b],x∈φ i:=λx hx=>by rw[hf];exact hx
 have hF:∀x∈φ i,x∈φ i\/w.heap.size<=x:=λx hx=>.inl hx
 have hl:=Later.turn (σ:=σ) B ht hX hi hF id (.cells t ds')
 have hM:=hm.turnSame (o:=.cells t ds') ht hX hi hF (by
  exact⟨b,cs',he,hf,hb,AX.later hl (λj hj=>⟨hj,rfl⟩) _ _ hr⟩)
 rw[LA]at hM hl
 exact⟨hM,hl,Bg _ _ _ _⟩
theorem Wr(hC:C.Ok T)(hm:Mem C B S w0 σ η φ w) {t:TypeId} {x d:Dat}(hx:RD B σ η φ w x vx)(hd:RD B σ η φ w d vy) {K:Sg->Prop}(h:Sm T t x d σ K no):
  no\/∃σ' w',K σ'/\(Instr.storeAt t vx vy).run C.P w=.ok () w'/\Tt C B S w0 σ σ' η φ w w':=by
 unfold Sm at h
 rcases Bk h with h|⟨e,he,h⟩
 ·exact .inl h
 have ht:=hC.ty he
 rcases AW h with h|⟨hb,h⟩
 ·exact .inl h
 simp only[Ah]at hb
 obtain⟨hf,hst⟩:=hb
 obtain⟨f1,f2⟩:=I7 hf
 obtain⟨cx,hcx,rfl⟩:=hd
 have hcl:=(Ip hm.oneV hcx hst).1
 have hone:=LQ hm.oneV d cx hst hcx
 have hlx:=DB d cx hcx
 have store:∀{b o:Nat} {w':World},vx=.pointer (some ⟨b,o,none⟩)->(storeCells ⟨b,o,none⟩ cx).run C.P w=.ok () w'->(Instr.storeAt t vx (BD d cx)).run C.P w=.ok () w':=by
  intro b o w' hv hr
  have hsz:(BD d cx).cells.size=e.size:=by rw[<-F7,hcl];omega
  rw[hv]
  simp only[Instr.storeAt,Instr.sureAddr,A0,AQ,Ay,storeVar,ht.sizeOf,hcl,hsz]
  simp[hr]
 split at h
 ·rcases AR h with h|⟨ow,hg,h⟩
  ·exact .inl h
  split at h
  ·obtain⟨b,cs,e1,e2,hb,hr⟩:=CT hm hg
   obtain⟨cs',h1,h2⟩:=hx
   simp only[A4]at h1
   obtain⟨_,rfl⟩:=h1
   split at h
   ·rename_i hcond
    simp only[Ah]at hcond
    rcases AW h with h|⟨hsz,h⟩
    ·exact .inl h
    have hsz:=Am hsz
    have hl:=Hw _ _ hr
    have hll:cx.length=cs.length:=by omega
    obtain⟨w',r1,r2,r3⟩:=GL.splice (P:=C.P) hb (o:=0) (x:=cx) (by omega) hone
    have e4:splice cs 0 cx=cx:=by simp[splice,hll]
    rw[e4]at r2
    exact .inr ⟨_,w',h,store (h2.trans (by rw[e1];rfl)) r1,Gl hm hg e1 e2 (Ha hcx) r2 r3⟩
   rcases AR h with h|⟨ds',hp,h⟩
   ·exact .inl h
   obtain⟨g1,g2⟩:=Ji hcx _ _ _ hp hr
   obtain⟨w',r1,r2,r3⟩:=GL.splice (P:=C.P) hb g2 hone
   exact .inr ⟨_,w',h,store (h2.trans (by rw[e1];rfl)) r1,Gl hm hg e1 e2 g1 r2 r3⟩
  ·exact .inl h
 ·rcases AR h with h|⟨ow,hg,h⟩
  ·exact .inl h
  split at h
  ·rcases AR h with h|⟨ds',hp,h⟩
   ·exact .inl h
   obtain⟨b,cs,e1,e2,hb,hr⟩:=CT hm hg
   obtain⟨cs',h1,h2⟩:=hx
   simp only[A4]at h1
   obtain⟨_,b',e3,rfl⟩:=h1
   rw[e1]at e3
   cases e3
   obtain⟨g1,g2⟩:=Ji hcx _ _ _ hp hr
   obtain⟨w',r1,r2,r3⟩:=GL.splice (P:=C.P) hb g2 hone
   exact .inr ⟨_,w',h,store h2 r1,Gl hm hg e1 e2 g1 r2 r3⟩
  ·exact .inl h
 ·rcases AR h with h|⟨ow,hg,h⟩
  ·exact .inl h
  split at h
  ·rename_i i k0 m off _ _ _ _ E k ds
   rcases AW h with h|⟨hk0,d0,hd0,h⟩
   ·exact .inl h
   have hk0:=Am hk0
   subst hk0
   rcases AR h with h|⟨ds',hp,h⟩
   ·exact .inl h
   rcases AR h with h|⟨xs,hp2,h⟩
   ·exact .inl h
   split at h
   ·rename_i y
    obtain⟨css,hs,e2,hr,hk⟩:=Bq hm hg
    obtain⟨cs',h1,h2⟩:=hx
    simp only[A4]at h1
    obtain⟨_,b',l,c',e3,rfl⟩:=h1
    obtain⟨c0,hc0,hr0⟩:=JN hr hd0
    have hc0k:=hk c0 (AD hc0)
    obtain⟨g1,g2⟩:=Ji hcx _ _ _ hp (cs:=c0) (by simp only[AX,A4];exact⟨c0,[],by simp,hr0,rfl⟩)
    rw[Dv hp2]at g1
    have g3:RepC (B++Ak φ σ) w y (splice c0 off cx):=by
     have:=Fe.1 g1
     simp only[RepCs]at this
     obtain⟨a1,a2,e4,r1,rfl⟩:=this
     rw[e4];simpa using r1
    obtain⟨w',r1,r2,r3⟩:=Sl.spliceAt (P:=C.P) hk hs e3 hc0 (x:=cx) (off:=off) (by rw[hc0k.1]at g2;exact g2) hone
    have hi:=AP (Bd hg)
    have hX:∀x∈[b'],x∈φ i:=λx hx=>by rw[e2,e3];simpa[Value.ownBlock]using hx
    have hF:∀x∈φ i,x∈φ i\/w.heap.size<=x:=λx hx=>.inl hx
    have hl:=Later.turn (σ:=σ) B r3 hX hi hF id (.slice E k0 (ds.set m y))
    have hM:=hm.turnSame (o:=.slice E k0 (ds.set m y)) r3 hX hi hF (by
     refine⟨_,r2,e2,Al.later hl _ _ (P1 hr m g3),λx hx=>?_⟩
     rcases List.mem_or_eq_of_mem_set hx with hx|rfl
     ·exact hk x hx
     ·exact⟨by rw[Is g2];exact hc0k.1,Wy hc0k.2 hone⟩)
    rw[LA]at hM hl
    exact .inr ⟨_,w',h,store (h2.trans (by simp[BD])) r1,hM,hl,Bg _ _ _ _⟩
   ·exact .inl h
  ·exact .inl h
 ·exact .inl h
end
end Go.Sx
