/- Sxi. -/
import Derived.Test.YtjejpdfldmempaaGreatDooragah
import Derived.WalkKit
import Derived.WalkSpells
import Derived.WalkLawsBesides
namespace Go.Sx
open Go Go.RowKit Go.Reg
inductive Da where
 |undef
 |int (k:IntKind) (n:Int)
 |bool (b:Bool)
 |prop (p:Prop) (i:Decidable p)
 |str (s:ByteArray)
 |agg (ds:List Da)
 |tuple (ds:List Da)
 |nilp
 |nils
 |nilm
 |nilf
 |nili
 |iface (t:TypeId) (d:Da)
 |ref (d:Da)
 |list (k:Nat) (ds:List Da)
 |func (fn:Fn) (first captured:List Da)
 |raw (v:Value)
def EB:Da->List Value->Value
 |.agg _,cs=>.agg cs.toArray
 |_,cs=>cs.headD undef
def Ds(w:World)(b o:Nat)(cs:List Value):Prop:=∀j u,cs[j]? =some u->w.cell? ⟨b,o+j,none⟩=some u
def DQ(k:Nat)(x:List Value):Prop:=x.length=k/\∀v∈x,v.oneCell'=true
mutual
def RepC(O:List Nat)(w:World):Da->List Value->Prop
 |.undef,cs=>∃v,cs=[v]
 |.int k n,cs=>cs=[.int k n]
 |.bool b,cs=>cs=[.bool b]
 |.prop p i,cs=>cs=[.bool (@decide p i)]
 |.str s,cs=>cs=[.string s]
 |.agg ds,cs=>RepCs O w ds cs
 |.tuple ds,cs=>∃css,Ai O w ds css/\cs=[.tuple (List.zipWith EB ds css).toArray]
 |.nilp,cs=>cs=[.pointer none]
 |.nils,cs=>cs=[.slice none 0 0]
 |.nilm,cs=>cs=[.map none]
 |.nilf,cs=>cs=[.nilFunc]
 |.nili,cs=>cs=[.nilIface]
 |.iface t d,cs=>∃c,RepC O w d c/\cs=[.iface t (EB d c)]
 |.ref d,cs=>∃b o c,cs=[.pointer (some ⟨b,o,none⟩)]/\b∉O/\b<w.heap.size/\RepC O w d c/\Ds w b o c
 |.list k ds,cs=>∃a c css,cs=[.slice a ds.length c]/\ds.length<=c/\c<=maxLen/\Ai O w ds css/\(∀x∈css,DQ k x)/\
   (ds=[]\/∃b o,a=some ⟨b,o,none⟩/\b∉O/\b<w.heap.size/\Ds w b o css.flatten)
 |.func fn f c,cs=>∃fs cs',Ai O w f fs/\Ai O w c cs'/\cs=[.func fn (List.zipWith EB f fs).toArray (List.zipWith EB c cs').toArray]
 |.raw v,cs=>cs=[v]
def RepCs(O:List Nat)(w:World):List Da->List Value->Prop
 |[],cs=>cs=[]
 |d::ds,cs=>∃c1 c2,cs=c1++c2/\RepC O w d c1/\RepCs O w ds c2
def Ai(O:List Nat)(w:World):List Da->List (List Value)->Prop
 |[],css=>css=[]
 |d::ds,css=>∃c1 c2,css=c1::c2/\RepC O w d c1/\Ai O w ds c2
end
def Rep(O:List Nat)(w:World)(d:Da)(v:Value):Prop:=∃cs,RepC O w d cs/\v=EB d cs
def HM(O:List Nat)(w:World)(ds:List Da)(vs:List Value):Prop:=∃css,Ai O w ds css/\vs=List.zipWith EB ds css
structure Later(O:List Nat)(w:World)(O':List Nat)(w':World):Prop where
 size:w.heap.size<=w'.heap.size
 blk:∀b,b<w.heap.size->b∉O->w'.heap[b]? =w.heap[b]?
 new:∀b,b∉O->b<w.heap.size->b∉O'
theorem Later.cells {O O':List Nat} {w w':World}(h:Later O w O' w') {b o:Nat} {cs:List Value}(hb:b<w.heap.size)(hn:b∉O)(hc:Ds w b o cs):Ds w' b o cs:=by
 intro j u hj
 have:=hc j u hj
 rw[World.cell?_of_block (w:=w) (h.blk b hb hn)];exact this
mutual
theorem RepC.later {O O':List Nat} {w w':World}(h:Later O w O' w'):∀(d:Da) (cs:List Value),RepC O w d cs->RepC O' w' d cs
 |.undef,cs,r=>r
 |.int _ _,cs,r=>r
 |.bool _,cs,r=>r
 |.prop _ _,cs,r=>r
 |.str _,cs,r=>r
 |.agg ds,cs,r=>by simp only[RepC]at r⊢;exact RepCs.later h ds cs r
 |.tuple ds,cs,r=>by simp only[RepC]at r⊢;obtain⟨css,h1,h2⟩:=r;exact⟨css,Ai.later h ds css h1,h2⟩
 |.nilp,cs,r=>r
 |.nils,cs,r=>r
 |.nilm,cs,r=>r
 |.nilf,cs,r=>r
 |.nili,cs,r=>r
 |.iface t d,cs,r=>by simp only[RepC]at r⊢;obtain⟨c,h1,h2⟩:=r;exact⟨c,RepC.later h d c h1,h2⟩
 |
  .ref d,cs,r=>by
  simp only[RepC]at r⊢
  obtain⟨b,o,c,h1,h2,h3,h4,h5⟩:=r
  exact⟨b,o,c,h1,h.new b h2 h3,Bw h3 h.size,RepC.later h d c h4,h.cells h3 h2 h5⟩
 |
  .list k ds,cs,r=>by
  simp only[RepC]at r⊢
  obtain⟨a,c,css,h1,h2,h3,h4,h5,h6⟩:=r
  refine⟨a,c,css,h1,h2,h3,Ai.later h ds css h4,h5,h6.imp id ?_⟩
  rintro⟨b,o,g1,g2,g3,g4⟩
  exact⟨b,o,g1,h.new b g2 g3,Bw g3 h.size,h.cells g3 g2 g4⟩
 |
  .func fn f c,cs,r=>by
  simp only[RepC]at r⊢
  obtain⟨fs,cs',h1,h2,h3⟩:=r
  exact⟨fs,cs',Ai.later h f fs h1,Ai.later h c cs' h2,h3⟩
 |.raw _,cs,r=>r
theorem RepCs.later {O O':List Nat} {w w':World}(h:Later O w O' w'):∀(ds:List Da) (cs:List Value),RepCs O w ds cs->RepCs O' w' ds cs
 |[],cs,r=>r
 |
  d::ds,cs,r=>by
  simp only[RepCs]at r⊢
  obtain⟨c1,c2,h1,h2,h3⟩:=r
  exact⟨c1,c2,h1,RepC.later h d c1 h2,RepCs.later h ds c2 h3⟩
theorem Ai.later {O O':List Nat} {w w':World}(h:Later O w O' w'):∀(ds:List Da) (cs:List (List Value)),Ai O w ds cs->Ai O' w' ds cs
 |[],cs,r=>r
 |
  d::ds,cs,r=>by
  simp only[Ai]at r⊢
  obtain⟨c1,c2,h1,h2,h3⟩:=r
  exact⟨c1,c2,h1,RepC.later h d c1 h2,Ai.later h ds c2 h3⟩
end
theorem Rep.later {O O':List Nat} {w w':World}(h:Later O w O' w') {d:Da} {v:Value}(r:Rep O w d v):Rep O' w' d v:=by
 obtain⟨cs,h1,h2⟩:=r;exact⟨cs,RepC.later h d cs h1,h2⟩
theorem HM.later {O O':List Nat} {w w':World}(h:Later O w O' w') {d:List Da} {v:List Value}(r:HM O w d v):HM O' w' d v:=by
 obtain⟨cs,h1,h2⟩:=r;exact⟨cs,Ai.later h d cs h1,h2⟩
def gsz:Da->Nat
 |.agg ds=>ds.length
 |_=>1
def GRep(O:List Nat)(w:World)(p:Nat×Da):Prop:=Rep O w (.ref p.2) (.pointer (some ⟨p.1,0,none⟩))/\p.1∉O/\∃cs t fr,w.heap[p.1]? =some (.cells cs t fr)/\cs.size=gsz p.2
theorem GRep.later {O O':List Nat} {w w':World}(h:Later O w O' w') {p:Nat×Da}(r:GRep O w p):GRep O' w' p:=by
 obtain⟨r1,r2,cs,t,fr,r3,r4⟩:=r
 have hlt:p.1<w.heap.size:=(Ae.1 r3).1
 exact⟨r1.later h,h.new _ r2 hlt,cs,t,fr,by rw[h.blk _ hlt r2];exact r3,r4⟩
end Go.Sx
namespace Go.Sx
open Go Go.RowKit Go.Reg
inductive Dat where
 |d (x:Da)
 |own (i:Nat)
 |at_ (i C9:Nat)
 |el (i k n C9:Nat)
 |agg (ds:List Dat)
 |tuple (ds:List Dat)
 |iface (t:TypeId) (d:Dat)
 |func (fn:Fn) (first captured:List Dat)
def Bo:Dat->List Value->Value
 |.d x,cs=>EB x cs
 |.agg _,cs=>.agg cs.toArray
 |_,cs=>cs.headD undef
mutual
def Ay(η:Nat->Value)(I O:List Nat)(w:World):Dat->List Value->Prop
 |.d x,cs=>RepC O w x cs
 |.own i,cs=>i∈I/\cs=[η i]
 |.at_ i C9,cs=>i∈I/\∃b,η i=.pointer (some ⟨b,0,none⟩)/\cs=[.pointer (some ⟨b,C9,none⟩)]
 |.el i k n C9,cs=>i∈I/\∃b l c,η i=.slice (some ⟨b,0,none⟩) l c/\cs=[.pointer (some ⟨b,n*k+C9,none⟩)]
 |.agg ds,cs=>AI η I O w ds cs
 |.tuple ds,cs=>∃css,A0 η I O w ds css/\cs=[.tuple (List.zipWith Bo ds css).toArray]
 |.iface t d,cs=>∃c,Ay η I O w d c/\cs=[.iface t (Bo d c)]
 |.func fn f c,cs=>∃fs cs',A0 η I O w f fs/\A0 η I O w c cs'/\cs=[.func fn (List.zipWith Bo f fs).toArray (List.zipWith Bo c cs').toArray]
def AI(η:Nat->Value)(I O:List Nat)(w:World):List Dat->List Value->Prop
 |[],cs=>cs=[]
 |d::ds,cs=>∃c1 c2,cs=c1++c2/\Ay η I O w d c1/\AI η I O w ds c2
def A0(η:Nat->Value)(I O:List Nat)(w:World):List Dat->List (List Value)->Prop
 |[],css=>css=[]
 |d::ds,css=>∃c1 c2,css=c1::c2/\Ay η I O w d c1/\A0 η I O w ds c2
end
mutual
def kill(i:Nat)(x:Da):Dat->Dat
 |.own j=>match Nat.beq j i with|true=>.d x|false=>.own j
 |.at_ j o=>match Nat.beq j i with|true=>.d .undef|false=>.at_ j o
 |.el j k n o=>match Nat.beq j i with|true=>.d .undef|false=>.el j k n o
 |.agg ds=>.agg (EI i x ds)
 |.tuple ds=>.tuple (EI i x ds)
 |.iface t d=>.iface t (kill i x d)
 |.func fn f c=>.func fn (EI i x f) (EI i x c)
 |.d x=>.d x
def EI(i:Nat)(x:Da):List Dat->List Dat
 |[]=>[]
 |d::ds=>kill i x d::EI i x ds
end
mutual
theorem Ay.later {η η':Nat->Value} {I I' O O':List Nat} {w w':World}(h:Later O w O' w')(hI:∀i∈I,i∈I'/\η' i=η i):∀(d:Dat) (cs:List Value),Ay η I O w d cs->Ay η' I' O' w' d cs
 |.d x,cs,r=>RepC.later h x cs r
 |.own i,cs,r=>by simp only[Ay]at r⊢;exact⟨(hI i r.1).1,by rw[(hI i r.1).2];exact r.2⟩
 |.at_ i C9,cs,r=>by simp only[Ay]at r⊢;exact⟨(hI i r.1).1,by rw[(hI i r.1).2];exact r.2⟩
 |.el i k n C9,cs,r=>by simp only[Ay]at r⊢;exact⟨(hI i r.1).1,by rw[(hI i r.1).2];exact r.2⟩
 |.agg ds,cs,r=>by simp only[Ay]at r⊢;exact AI.later h hI ds cs r
 |.tuple ds,cs,r=>by simp only[Ay]at r⊢;obtain⟨css,h1,h2⟩:=r;exact⟨css,A0.later h hI ds css h1,h2⟩
 |.iface t d,cs,r=>by simp only[Ay]at r⊢;obtain⟨c,h1,h2⟩:=r;exact⟨c,Ay.later h hI d c h1,h2⟩
 |
  .func fn f c,cs,r=>by
  simp only[Ay]at r⊢
  obtain⟨fs,cs',h1,h2,h3⟩:=r
  exact⟨fs,cs',A0.later h hI f fs h1,A0.later h hI c cs' h2,h3⟩
theorem AI.later {η η':Nat->Value} {I I' O O':List Nat} {w w':World}(h:Later O w O' w')(hI:∀i∈I,i∈I'/\η' i=η i):∀(ds:List Dat) (cs:List Value),AI η I O w ds cs->AI η' I' O' w' ds cs
 |[],cs,r=>r
 |
  d::ds,cs,r=>by
  simp only[AI]at r⊢
  obtain⟨c1,c2,h1,h2,h3⟩:=r
  exact⟨c1,c2,h1,Ay.later h hI d c1 h2,AI.later h hI ds c2 h3⟩
theorem A0.later {η η':Nat->Value} {I I' O O':List Nat} {w w':World}(h:Later O w O' w')(hI:∀i∈I,i∈I'/\η' i=η i):∀(ds:List Dat) (cs:List (List Value)),A0 η I O w ds cs->A0 η' I' O' w' ds cs
 |[],cs,r=>r
 |
  d::ds,cs,r=>by
  simp only[A0]at r⊢
  obtain⟨c1,c2,h1,h2,h3⟩:=r
  exact⟨c1,c2,h1,Ay.later h hI d c1 h2,A0.later h hI ds c2 h3⟩
end
theorem Bi(j i:Nat):(Nat.beq j i=true/\j=i)\/(Nat.beq j i=false/\j≠i):=by
 cases hb:Nat.beq j i
 ·exact .inr ⟨rfl,λe=>by subst e;simp at hb⟩
 ·exact .inl ⟨rfl,Ag hb⟩
def Da.one:Da->Bool
 |.agg _=>false
 |_=>true
theorem RV {x:Da}(h:x.one=true)(cs:List Value):EB x cs=cs.headD undef:=by
 cases x<;>first|rfl|cases h
theorem J8 {i:Nat} {x:Da}(hx:x.one=true)(d:Dat)(cs:List Value):Bo (kill i x d) cs=Bo d cs:=by
 cases d with
 |own j=>rcases Bi j i with⟨h,_⟩|⟨h,_⟩<;>simp only[kill,h,Bo,RV hx]
 |at_ j o=>rcases Bi j i with⟨h,_⟩|⟨h,_⟩<;>simp only[kill,h,Bo,EB]
 |el j k n o=>rcases Bi j i with⟨h,_⟩|⟨h,_⟩<;>simp only[kill,h,Bo,EB]
 |_=>rfl
theorem Ez {i:Nat} {x:Da}(hx:x.one=true):∀(ds:List Dat) (css:List (List Value)),List.zipWith Bo (EI i x ds) css=List.zipWith Bo ds css
 |[],css=>rfl
 |d::ds,[]=>by simp[EI]
 |d::ds,c::css=>by simp only[EI,B6];rw[J8 hx d c,Ez hx ds css]
section
variable {η η':Nat->Value} {I I' O O':List Nat} {w w':World} {i:Nat} {x:Da}
mutual
theorem Ay.kill(hx:x.one=true)(hl:Later O w O' w')(hI:∀j∈I,j≠i->j∈I'/\η' j=η j)(hr:RepC O' w' x [η i]):∀(d:Dat) (cs:List Value),Ay η I O w d cs->Ay η' I' O' w' (kill i x d) cs
 |.d y,cs,r=>RepC.later hl y cs r
 |
  .own j,cs,r=>by
  simp only[Ay]at r
  rcases Bi j i with⟨h,e⟩|⟨h,e⟩
  ·subst e;simp only[Sx.kill,h,Ay];rw[r.2];exact hr
  ·simp only[Sx.kill,h,Ay];exact⟨(hI j r.1 e).1,by rw[(hI j r.1 e).2];exact r.2⟩
 |
  .at_ j C9,cs,r=>by
  simp only[Ay]at r
  rcases Bi j i with⟨h,e⟩|⟨h,e⟩
  ·simp only[Sx.kill,h,Ay,RepC];obtain⟨_,b,_,h⟩:=r;exact⟨_,h⟩
  ·simp only[Sx.kill,h,Ay];exact⟨(hI j r.1 e).1,by rw[(hI j r.1 e).2];exact r.2⟩
 |
  .el j k n C9,cs,r=>by
  simp only[Ay]at r
  rcases Bi j i with⟨h,e⟩|⟨h,e⟩
  ·simp only[Sx.kill,h,Ay,RepC];obtain⟨_,b,l,c,_,h⟩:=r;exact⟨_,h⟩
  ·simp only[Sx.kill,h,Ay];exact⟨(hI j r.1 e).1,by rw[(hI j r.1 e).2];exact r.2⟩
 |.agg ds,cs,r=>by simp only[Ay,Sx.kill]at r⊢;exact AI.kill hx hl hI hr ds cs r
 |.tuple ds,cs,r=>by simp only[Ay,Sx.kill]at r⊢;obtain⟨css,h1,h2⟩:=r;exact⟨css,A0.kill hx hl hI hr ds css h1,by rw[Ez hx];exact h2⟩
 |.iface t d,cs,r=>by simp only[Ay,Sx.kill]at r⊢;obtain⟨c,h1,h2⟩:=r;exact⟨c,Ay.kill hx hl hI hr d c h1,by rw[J8 hx];exact h2⟩
 |
  .func fn f c,cs,r=>by
  simp only[Ay,Sx.kill]at r⊢
  obtain⟨fs,cs',h1,h2,h3⟩:=r
  exact⟨fs,cs',A0.kill hx hl hI hr f fs h1,A0.kill hx hl hI hr c cs' h2,by rw[Ez hx,Ez hx];exact h3⟩
theorem AI.kill(hx:x.one=true)(hl:Later O w O' w')(hI:∀j∈I,j≠i->j∈I'/\η' j=η j)(hr:RepC O' w' x [η i]):∀(ds:List Dat) (cs:List Value),AI η I O w ds cs->AI η' I' O' w' (EI i x ds) cs
 |[],cs,r=>r
 |
  d::ds,cs,r=>by
  simp only[AI,EI]at r⊢
  obtain⟨c1,c2,h1,h2,h3⟩:=r
  exact⟨c1,c2,h1,Ay.kill hx hl hI hr d c1 h2,AI.kill hx hl hI hr ds c2 h3⟩
theorem A0.kill(hx:x.one=true)(hl:Later O w O' w')(hI:∀j∈I,j≠i->j∈I'/\η' j=η j)(hr:RepC O' w' x [η i]):∀(ds:List Dat) (cs:List (List Value)),A0 η I O w ds cs->A0 η' I' O' w' (EI i x ds) cs
 |[],cs,r=>r
 |
  d::ds,cs,r=>by
  simp only[A0,EI]at r⊢
  obtain⟨c1,c2,h1,h2,h3⟩:=r
  exact⟨c1,c2,h1,Ay.kill hx hl hI hr d c1 h2,A0.kill hx hl hI hr ds c2 h3⟩
end
end
inductive Own where
 |cells (T:TypeId) (ds:List Dat)
 |slice (E k:Nat) (ds:List Da)
 |abs (R:World->Value->List Nat->Prop) (keep:∀(S:List Nat) w w' v F,R w v F->Tch S w w'->(∀x∈F,x∉S)->R w' v F) (lt:∀w v F,R w v F->∀x∈F,x<w.heap.size) (one:∀w v F,R w v F->v.oneCell'=true)
 |ghost (vs:List Value) (ds:List Dat)
def Own.holds(η:Nat->Value)(I O:List Nat)(w:World):Own->Value->List Nat->Prop
 |.cells T ds,v,F=>∃b cs,v=.pointer (some ⟨b,0,none⟩)/\F=[b]/\F3 w b T cs/\AI η I O w ds cs
 |.slice E k ds,v,F=>∃css,Sl E k id w v css/\F=v.ownBlock.toList/\Ai O w ds css/\(∀x∈css,DQ k x)
 |.abs R _ _ _,v,F=>R w v F
 |.ghost vs ds,v,F=>v=.nilFunc/\F=[]/\∃css,A0 η I O w ds css/\vs=List.zipWith Bo ds css
theorem Own.holds.lt {η:Nat->Value} {I O:List Nat} {w:World} {o:Own} {v:Value} {F:List Nat}(h:o.holds η I O w v F):∀b∈F,b<w.heap.size:=by
 cases o with
 |
  cells T ds=>
  obtain⟨b,cs,rfl,rfl,hb,_⟩:=h
  intro x hx;simp at hx;subst hx;exact hb.lt
 |
  slice E k ds=>
  obtain⟨css,hs,rfl,_⟩:=h
  intro x hx;exact hs.lt (by simpa using hx)
 |abs R k lt _=>exact lt _ _ _ h
 |ghost vs ds=>obtain⟨_,rfl,_⟩:=h;simp
theorem Own.holds.later {η η':Nat->Value} {I I' O O' S:List Nat} {w w':World} {o:Own} {v:Value} {F:List Nat}(h:o.holds η I O w v F)(hl:Later O w O' w')(hI:∀i∈I,i∈I'/\η' i=η i)(ht:Tch S w w')(hF:∀x∈F,x∉S):o.holds η' I' O' w' v F:=by
 cases o with
 |
  cells T ds=>
  obtain⟨b,cs,rfl,rfl,hb,hr⟩:=h
  exact⟨b,cs,rfl,rfl,hb.keep ht (hF b (by simp)),AI.later hl hI _ _ hr⟩
 |
  slice E k ds=>
  obtain⟨css,hs,rfl,hr,hk⟩:=h
  exact⟨css,hs.keep ht (λb hb=>hF b (by simpa using hb)),rfl,Ai.later hl _ _ hr,hk⟩
 |abs R k lt _=>exact k S w w' v F h ht hF
 |ghost vs ds=>obtain⟨h1,h2,css,h3,h4⟩:=h;exact⟨h1,h2,css,A0.later hl hI _ _ h3,h4⟩
abbrev Sg:=List (Nat×Own)
abbrev Fr:=List (Nat×Dat)
def Ba(σ:Sg):List Nat:=σ.map (·.1)
def Ah(φ:Nat->List Nat)(σ:Sg):List Nat:=σ.flatMap λp=>φ p.1
def BF(i:Nat)(x:Da):Own->Own
 |.cells T ds=>.cells T (EI i x ds)
 |.slice E k ds=>.slice E k ds
 |.abs R h l o=>.abs R h l o
 |.ghost vs ds=>.ghost vs (EI i x ds)
structure Cx where
 P:Program
 Γ:List (Nat×Da)
structure Mem(C:Cx)(B S:List Nat)(w0:World)(σ:Sg)(η:Nat->Value)(φ:Nat->List Nat)(w:World):Prop where
 tch:Tch S w0 w
 own:∀p∈σ,p.2.holds η (Ba σ) (B++Ah φ σ) w (η p.1) (φ p.1)
 nodup:(Ba σ).Nodup
 disj:∀i∈Ba σ,∀j∈Ba σ,i≠j->∀b∈φ i,b∉φ j
 new:∀i∈Ba σ,∀b∈φ i,(b∈S/\b∉B)\/w0.heap.size<=b
 out:∀b∈B,b<w0.heap.size
 glob:∀g∈C.Γ,GRep (B++Ah φ σ) w g
def get:Fr->Nat->Dat
 |[],_=>.d .undef
 |
  (t,d)::fr,s=>match Nat.beq t s with
  |true=>d
  |false=>get fr s
def ES(η:Nat->Value)(I O:List Nat)(w:World)(fr:Fr)(a:Act):Prop:=∀t,∃cs,Ay η I O w (get fr t) cs/\a.tmps.getD t undef=Bo (get fr t) cs
structure Models(C:Cx)(B S:List Nat)(w0:World)(n:Nat)(fr:Fr)(σ:Sg)(η:Nat->Value)(φ:Nat->List Nat)(a:Act)(w:World):Prop where
 mem:Mem C B S w0 σ η φ w
 fr:ES η (Ba σ) (B++Ah φ σ) w fr a
 defers:a.defers=[]
 size:a.tmps.size=n
theorem Mem.lt {C:Cx} {B S:List Nat} {w0 w:World} {σ:Sg} {η:Nat->Value} {φ:Nat->List Nat}(h:Mem C B S w0 σ η φ w):∀b∈B++Ah φ σ,b<w.heap.size:=by
 intro b hb
 rcases Af.1 hb with hb|hb
 ·exact Bw (h.out b hb) h.tch.size
 ·obtain⟨p,hp,hb⟩:=AB.1 hb
  exact(h.own p hp).lt b hb
theorem AW {σ:Sg} {p:Nat×Own}(h:p∈σ):p.1∈Ba σ:=BW h
theorem Bb {φ:Nat->List Nat} {σ:Sg} {i:Nat} {b:Nat}(h:i∈Ba σ)(hb:b∈φ i):b∈Ah φ σ:=by
 obtain⟨p,hp,rfl⟩:=Av.1 h
 exact AB.2 ⟨p,hp,hb⟩
theorem RepC.undef_ex(O:List Nat)(w:World)(v:Value):RepC O w .undef [v]:=by simp[RepC]
theorem ES.put {η:Nat->Value} {I O:List Nat} {w:World} {fr:Fr} {a:Act}(h:ES η I O w fr a) {t:Nat}(ht:t<a.tmps.size) {d:Dat} {v:Value} {cs:List Value}(hd:Ay η I O w d cs)(hv:v=Bo d cs):ES η I O w ((t,d)::fr) (a.put (some t) v):=by
 intro s
 simp only[get,Act.put]
 by_cases hs:t=s
 ·subst hs
  simp only[Nat.beq_refl]
  exact⟨cs,hd,by simp[Array.getD,ht,hv]⟩
 ·have:Nat.beq t s=false:=by
   cases hb:Nat.beq t s
   ·rfl
   ·exact absurd (Ag hb) hs
  rw[this]
  obtain⟨c,h1,h2⟩:=h s
  refine⟨c,h1,?_⟩
  rw[<-h2]
  simp[Array.getElem?_setIfInBounds_ne hs]
theorem ES.later {η η':Nat->Value} {I I' O O':List Nat} {w w':World} {fr:Fr} {a:Act}(h:ES η I O w fr a)(hl:Later O w O' w')(hI:∀i∈I,i∈I'/\η' i=η i):ES η' I' O' w' fr a:=by
 intro t
 obtain⟨cs,h1,h2⟩:=h t
 exact⟨cs,Ay.later hl hI _ _ h1,h2⟩
def FA(i:Nat)(x:Da):Fr->Fr
 |[]=>[]
 |(t,d)::fr=>(t,kill i x d)::FA i x fr
theorem NQ(i:Nat)(x:Da):∀(fr:Fr) (t:Nat),get (FA i x fr) t=kill i x (get fr t)
 |[],t=>rfl
 |
  (s,d)::fr,t=>by
  simp only[FA,get]
  cases Nat.beq s t
  ·exact NQ i x fr t
  ·rfl
theorem ES.kill {η η':Nat->Value} {I I' O O':List Nat} {w w':World} {fr:Fr} {a:Act} {i:Nat} {x:Da}(h:ES η I O w fr a)(hx:x.one=true)(hl:Later O w O' w')(hI:∀j∈I,j≠i->j∈I'/\η' j=η j)(hr:RepC O' w' x [η i]):ES η' I' O' w' (FA i x fr) a:=by
 intro t
 obtain⟨cs,h1,h2⟩:=h t
 rw[NQ]
 exact⟨cs,Ay.kill hx hl hI hr _ _ h1,by rw[J8 hx];exact h2⟩
theorem Own.holds.kill {η η':Nat->Value} {I I' O O' S:List Nat} {w w':World} {o:Own} {v:Value} {F:List Nat} {i:Nat} {x:Da}(h:o.holds η I O w v F)(hx:x.one=true)(hl:Later O w O' w')(hI:∀j∈I,j≠i->j∈I'/\η' j=η j)(hr:RepC O' w' x [η i])(ht:Tch S w w')(hF:∀y∈F,y∉S):(BF i x o).holds η' I' O' w' v F:=by
 cases o with
 |
  cells T ds=>
  obtain⟨b,cs,rfl,rfl,hb,hd⟩:=h
  exact⟨b,cs,rfl,rfl,hb.keep ht (hF b (by simp)),AI.kill hx hl hI hr _ _ hd⟩
 |
  slice E k ds=>
  obtain⟨css,hs,rfl,hd,hk⟩:=h
  exact⟨css,hs.keep ht (λb hb=>hF b (by simpa using hb)),rfl,Ai.later hl _ _ hd,hk⟩
 |abs R k lt _=>exact k S w w' v F h ht hF
 |ghost vs ds=>obtain⟨h1,h2,css,h3,h4⟩:=h;exact⟨h1,h2,css,A0.kill hx hl hI hr _ _ h3,by rw[Ez hx];exact h4⟩
end Go.Sx
namespace Go.Sx
open Go Go.RowKit Go.Reg
variable {C:Cx} {B S:List Nat} {w0 w w':World} {σ:Sg} {η η':Nat->Value} {φ φ':Nat->List Nat} {i:Nat} {o:Own}
theorem Later.same(h:Tch [] w w')(O:List Nat):Later O w O w':=⟨h.size,λb hb _=>h.blk b hb (by simp),λ_ h _=>h⟩
theorem Later.touch {X O:List Nat}(h:Tch X w w')(hX:∀b∈X,b∈O):Later O w O w':=⟨h.size,λb hb hn=>h.blk b hb (λhm=>hn (hX b hm)),λ_ h _=>h⟩
theorem Mem.grow(h:Mem C B S w0 σ η φ w)(t:Tch [] w w'):Mem C B S w0 σ η φ w':=
 ⟨h.tch.then0 t,λp hp=>(h.own p hp).later (Later.same t _) (λi hi=>⟨hi,rfl⟩) t (λ_ _=>by simp),h.nodup,h.disj,h.new,h.out,λg hg=>(h.glob g hg).later (Later.same t _)⟩
def Dy {α:Type}(f:Nat->α)(i:Nat)(v:α):Nat->α:=λj=>if j=i then v else f j
theorem CK {α:Type}(f:Nat->α)(i:Nat)(v:α):Dy f i v i=v:=by simp[Dy]
theorem CA {α:Type}(f:Nat->α)(i:Nat)(v:α) {j:Nat}(h:j≠i):Dy f i v j=f j:=by simp[Dy,h]
theorem GR:∀{σ:Sg},(∀j∈Ba σ,φ' j=φ j)->Ah φ' σ=Ah φ σ
 |[],_=>rfl
 |
  p::σ,h=>by
  have h1:=h p.1 (by simp[Ba])
  have h2:=GR (σ:=σ) (λj hj=>h j (by simp only[Ba,Am,Ad]at hj⊢;exact .inr hj))
  simp only[Ah,Dw]at h2⊢
  rw[h1,h2]
theorem RK {F:List Nat}(hi:i∉Ba σ):Ah (Dy φ i F) ((i,o)::σ)=F++Ah φ σ:=by
 have:=GR (φ:=φ) (φ':=Dy φ i F) (σ:=σ) (λj hj=>CA _ _ _ (λe=>hi (e▸hj)))
 simp only[Ah,Dw,CK]at this⊢
 rw[this]
theorem Mem.add(h:Mem C B S w0 σ η φ w)(t:Tch [] w w')(hi:i∉Ba σ) {v:Value} {F:List Nat}(hF:∀b∈F,w.heap.size<=b)
  (ho:o.holds (Dy η i v) (i::Ba σ) (B++(F++Ah φ σ)) w' v F):Mem C B S w0 ((i,o)::σ) (Dy η i v) (Dy φ i F) w'/\Later (B++Ah φ σ) w (B++Ah (Dy φ i F) ((i,o)::σ)) w':=by
 have hb:=RK (φ:=φ) (o:=o) (F:=F) hi
 have hl:Later (B++Ah φ σ) w (B++Ah (Dy φ i F) ((i,o)::σ)) w':=by
  refine⟨t.size,λb h _=>t.blk b h (by simp),λb hn hs hm=>?_⟩
  rw[hb]at hm
  rcases Af.1 hm with hm|hm
  ·exact hn (Aq _ hm)
  ·rcases Af.1 hm with hm|hm
   ·have:=hF b hm;omega
   ·exact hn (An _ hm)
 refine⟨⟨h.tch.then0 t,?_,?_,?_,?_,h.out,λg hg=>(h.glob g hg).later hl⟩,hl⟩
 ·intro p hp
  rcases Ad.1 hp with rfl|hp
  ·simp only[CK];rw[hb];exact ho
  ·have hne:p.1≠i:=λe=>hi (e▸AW hp)
   rw[CA _ _ _ hne,CA _ _ _ hne]
   exact(h.own p hp).later hl (λ_ hj=>⟨AK _ hj,CA _ _ _ (λe=>hi (e▸hj))⟩) t (λ_ _=>by simp)
 ·exact C7.2 ⟨hi,h.nodup⟩
 ·intro j hj k hk hjk b hb1 hb2
  have hlt:∀m∈Ba σ,∀b∈φ m,b<w.heap.size:=λm hm b hb=>h.lt b (An _ (Bb hm hb))
  rcases Ad.1 hj with e0|hj
  ·replace e0:j=i:=e0
   rcases Ad.1 hk with e3|hk
   ·exact hjk (e0.trans (Eq.symm e3))
   ·rw[e0,CK]at hb1;rw[CA _ _ _ (λe=>hjk (e0.trans e.symm))]at hb2
    have:=hF b hb1;have:=hlt k hk b hb2;omega
  ·rcases Ad.1 hk with e3|hk
   ·replace e3:k=i:=e3
    rw[e3,CK]at hb2;rw[CA _ _ _ (λe=>hjk (e.trans e3.symm))]at hb1
    have:=hF b hb2;have:=hlt j hj b hb1;omega
   ·have e1:j≠i:=λe=>hi (e▸hj)
    have e2:k≠i:=λe=>hi (e▸hk)
    rw[CA _ _ _ e1]at hb1;rw[CA _ _ _ e2]at hb2
    exact h.disj j hj k hk hjk b hb1 hb2
 ·intro j hj b hb1
  rcases Ad.1 hj with e0|hj
  ·replace e0:j=i:=e0
   rw[e0,CK]at hb1
   have:=hF b hb1;have:=h.tch.size;right;omega
  ·have e1:j≠i:=λe=>hi (e▸hj)
   rw[CA _ _ _ e1]at hb1
   exact h.new j hj b hb1
theorem ES.add {fr:Fr} {a:Act}(h:ES η (Ba σ) (B++Ah φ σ) w fr a)(hi:i∉Ba σ) {v:Value} {F:List Nat}(hl:Later (B++Ah φ σ) w (B++Ah (Dy φ i F) ((i,o)::σ)) w'):
  ES (Dy η i v) (Ba ((i,o)::σ)) (B++Ah (Dy φ i F) ((i,o)::σ)) w' fr a:=
 h.later hl (λ_ hj=>⟨AK _ hj,CA _ _ _ (λe=>hi (e▸hj))⟩)
def BO(i:Nat):Sg->Option Own
 |[]=>none
 |
  (j,o)::σ=>match Nat.beq j i with
  |true=>some o
  |false=>BO i σ
def Br(g:Own->Own)(i:Nat)(o:Own):Sg->Sg
 |[]=>[]
 |
  (j,p)::σ=>match Nat.beq j i with
  |true=>(j,o)::Br g i o σ
  |false=>(j,g p)::Br g i o σ
def Dj(g:Own->Own)(i:Nat):Sg->Sg
 |[]=>[]
 |
  (j,p)::σ=>match Nat.beq j i with
  |true=>Dj g i σ
  |false=>(j,g p)::Dj g i σ
theorem B8:∀{σ:Sg},BO i σ=some o->(i,o)∈σ
 |[],h=>by simp[BO]at h
 |
  (j,p)::σ,h=>by
  rcases Bi j i with⟨hb,e⟩|⟨hb,e⟩
  ·simp only[BO,hb,Ax]at h;subst e;subst h;simp
  ·simp only[BO,hb]at h;exact AK _ (B8 h)
theorem Bt(g:Own->Own)(i:Nat)(o:Own):∀σ:Sg,Ba (Br g i o σ)=Ba σ
 |[]=>rfl
 |
  (j,p)::σ=>by
  have ih:=Bt g i o σ
  simp only[Ba]at ih
  rcases Bi j i with⟨hb,e⟩|⟨hb,e⟩<;>simp only[Br,hb,Ba,Am,ih]
theorem Gg {g:Own->Own}:∀{σ:Sg} {p:Nat×Own},p∈Br g i o σ->p=(i,o)\/∃q∈σ,q.1≠i/\p=(q.1,g q.2)
 |[],p,h=>by simp[Br]at h
 |
  (j,q)::σ,p,h=>by
  rcases Bi j i with⟨hb,e⟩|⟨hb,e⟩
  ·simp only[Br,hb]at h
   rcases Ad.1 h with rfl|h
   ·subst e;exact .inl rfl
   ·rcases Gg h with h|⟨q',hq,h1,h2⟩
    ·exact .inl h
    ·exact .inr ⟨q',AK _ hq,h1,h2⟩
  ·simp only[Br,hb]at h
   rcases Ad.1 h with rfl|h
   ·exact .inr ⟨(j,q),by simp,e,rfl⟩
   ·rcases Gg h with h|⟨q',hq,h1,h2⟩
    ·exact .inl h
    ·exact .inr ⟨q',AK _ hq,h1,h2⟩
theorem Er {g:Own->Own}:∀{σ:Sg} {p:Nat×Own},p∈Dj g i σ->∃q∈σ,q.1≠i/\p=(q.1,g q.2)
 |[],p,h=>by simp[Dj]at h
 |
  (j,q)::σ,p,h=>by
  rcases Bi j i with⟨hb,e⟩|⟨hb,e⟩
  ·simp only[Dj,hb]at h
   obtain⟨q',hq,h1,h2⟩:=Er h
   exact⟨q',AK _ hq,h1,h2⟩
  ·simp only[Dj,hb]at h
   rcases Ad.1 h with rfl|h
   ·exact⟨(j,q),by simp,e,rfl⟩
   ·obtain⟨q',hq,h1,h2⟩:=Er h
    exact⟨q',AK _ hq,h1,h2⟩
theorem DW(g:Own->Own)(i:Nat):∀σ:Sg,Ba (Dj g i σ)=(Ba σ).filter (· !=i)
 |[]=>rfl
 |
  (j,p)::σ=>by
  have ih:=DW g i σ
  simp only[Ba]at ih
  rcases Bi j i with⟨hb,e⟩|⟨hb,e⟩
  ·subst e;simp only[Dj,hb,Ba,Am,ih];simp
  ·simp only[Dj,hb,Ba,Am,ih];simp[e]
theorem G4 {g:Own->Own}(F:List Nat):∀b,b∈Ah (Dy φ i F) (Br g i o σ)->b∈F\/∃j∈Ba σ,j≠i/\b∈φ j:=by
 intro b hb
 obtain⟨p,hp,hb⟩:=AB.1 hb
 rcases Gg hp with rfl|⟨q,hq,h1,rfl⟩
 ·simp only[CK]at hb;exact .inl hb
 ·simp only[CA _ _ _ h1]at hb;exact .inr ⟨q.1,AW hq,h1,hb⟩
theorem Mem.turn(h:Mem C B S w0 σ η φ w) {X:List Nat}(t:Tch X w w')(hX:∀b∈X,b∈φ i)(hi:i∈Ba σ) {v:Value} {F:List Nat}(hF:∀b∈F,b∈φ i\/w.heap.size<=b) {g:Own->Own}
  (hl:Later (B++Ah φ σ) w (B++Ah (Dy φ i F) (Br g i o σ)) w')
  (hg:∀q∈σ,q.1≠i->q.2.holds η (Ba σ) (B++Ah φ σ) w (η q.1) (φ q.1)->(g q.2).holds (Dy η i v) (Ba σ) (B++Ah (Dy φ i F) (Br g i o σ)) w' (η q.1) (φ q.1))
  (ho:o.holds (Dy η i v) (Ba σ) (B++Ah (Dy φ i F) (Br g i o σ)) w' v F):Mem C B S w0 (Br g i o σ) (Dy η i v) (Dy φ i F) w':=by
 have hX':∀b∈X,b∈S\/w0.heap.size<=b:=λb hb=>(h.new i hi b (hX b hb)).imp (λh=>h.1) id
 have hlt:∀m∈Ba σ,∀b∈φ m,b<w.heap.size:=λm hm b hb=>h.lt b (An _ (Bb hm hb))
 refine⟨h.tch.trans t (λ_ h=>h) hX',?_,by rw[Bt];exact h.nodup,?_,?_,h.out,λg hg=>(h.glob g hg).later hl⟩
 ·intro p hp
  rw[Bt]
  rcases Gg hp with rfl|⟨q,hq,h1,rfl⟩
  ·simp only[CK];exact ho
  ·simp only[CA _ _ _ h1]
   exact hg q hq h1 (h.own q hq)
 ·rw[Bt]
  intro j hj k hk hjk b hb1 hb2
  by_cases e1:j=i
  ·subst e1
   rw[CK]at hb1;rw[CA _ _ _ (Ne.symm hjk)]at hb2
   rcases hF b hb1 with h1|h1
   ·exact h.disj j hj k hk hjk b h1 hb2
   ·have:=hlt k hk b hb2;omega
  ·rw[CA _ _ _ e1]at hb1
   by_cases e2:k=i
   ·subst e2
    rw[CK]at hb2
    rcases hF b hb2 with h1|h1
    ·exact h.disj j hj k hk hjk b hb1 h1
    ·have:=hlt j hj b hb1;omega
   ·rw[CA _ _ _ e2]at hb2
    exact h.disj j hj k hk hjk b hb1 hb2
 ·rw[Bt]
  intro j hj b hb1
  by_cases e1:j=i
  ·subst e1
   rw[CK]at hb1
   rcases hF b hb1 with h1|h1
   ·exact h.new j hj b h1
   ·have:=h.tch.size;right;omega
  ·rw[CA _ _ _ e1]at hb1
   exact h.new j hj b hb1
theorem Later.turn(B:List Nat) {X:List Nat}(t:Tch X w w')(hX:∀b∈X,b∈φ i)(hi:i∈Ba σ) {F:List Nat}(hF:∀b∈F,b∈φ i\/w.heap.size<=b)(g:Own->Own)(o:Own):
  Later (B++Ah φ σ) w (B++Ah (Dy φ i F) (Br g i o σ)) w':=by
 refine⟨t.size,λb hb hn=>t.blk b hb (λhm=>hn (An _ (Bb hi (hX b hm)))),λb hn hs hm=>?_⟩
 rcases Af.1 hm with hm|hm
 ·exact hn (Aq _ hm)
 ·rcases G4 F b hm with hm|⟨j,hj,_,hm⟩
  ·rcases hF b hm with hm|hm
   ·exact hn (An _ (Bb hi hm))
   ·omega
  ·exact hn (An _ (Bb hj hm))
theorem Mem.turnSame(h:Mem C B S w0 σ η φ w) {X:List Nat}(t:Tch X w w')(hX:∀b∈X,b∈φ i)(hi:i∈Ba σ) {F:List Nat}(hF:∀b∈F,b∈φ i\/w.heap.size<=b)
  (ho:o.holds η (Ba σ) (B++Ah (Dy φ i F) (Br id i o σ)) w' (η i) F):Mem C B S w0 (Br id i o σ) η (Dy φ i F) w':=by
 have he:Dy η i (η i)=η:=by funext j;by_cases e:j=i<;>simp[Dy,e]
 have hl:=Later.turn B t hX hi hF id o
 have:=h.turn (v:=η i) (g:=id) t hX hi hF hl (λq hq hne hh=>by
  rw[he]
  exact hh.later hl (λj hj=>⟨hj,rfl⟩) t (λb hb hm=>h.disj q.1 (AW hq) i hi hne b hb (hX b hm))) (by rw[he];exact ho)
 rw[he]at this
 exact this
theorem Mem.turnKill(h:Mem C B S w0 σ η φ w) {X:List Nat}(t:Tch X w w')(hX:∀b∈X,b∈φ i)(hi:i∈Ba σ) {v:Value} {F:List Nat}(hF:∀b∈F,b∈φ i\/w.heap.size<=b)
  (ho:o.holds (Dy η i v) (Ba σ) (B++Ah (Dy φ i F) (Br (BF i .undef) i o σ)) w' v F):Mem C B S w0 (Br (BF i .undef) i o σ) (Dy η i v) (Dy φ i F) w':=by
 have hl:=Later.turn B t hX hi hF (BF i .undef) o
 exact h.turn t hX hi hF hl (λq hq hne hh=>hh.kill rfl hl (λj hj hne=>⟨hj,CA _ _ _ hne⟩) ⟨_,rfl⟩ t (λb hb hm=>h.disj q.1 (AW hq) i hi hne b hb (hX b hm))) ho
theorem Mem.del(h:Mem C B S w0 σ η φ w) {x:Da}(hx:x.one=true)(hr:RepC (B++Ah φ (Dj (BF i x) i σ)) w x [η i]):
  Mem C B S w0 (Dj (BF i x) i σ) η φ w/\Later (B++Ah φ σ) w (B++Ah φ (Dj (BF i x) i σ)) w:=by
 have hl:Later (B++Ah φ σ) w (B++Ah φ (Dj (BF i x) i σ)) w:=by
  refine⟨Az _,λ_ _ _=>rfl,λb hn hs hm=>?_⟩
  rcases Af.1 hm with hm|hm
  ·exact hn (Aq _ hm)
  ·obtain⟨p,hp,hb⟩:=AB.1 hm
   obtain⟨q,hq,_,rfl⟩:=Er hp
   exact hn (An _ (Bb (AW hq) hb))
 have hI:∀j∈Ba σ,j≠i->j∈Ba (Dj (BF i x) i σ)/\η j=η j:=λj hj hne=>⟨by rw[DW];exact Bg.2 ⟨hj,by simpa using hne⟩,rfl⟩
 have hsub:∀j∈Ba (Dj (BF i x) i σ),j∈Ba σ:=λj hj=>by rw[DW]at hj;exact(Bg.1 hj).1
 refine⟨⟨h.tch,?_,?_,?_,?_,h.out,λg hg=>(h.glob g hg).later hl⟩,hl⟩
 ·intro p hp
  obtain⟨q,hq,hne,rfl⟩:=Er hp
  exact(h.own q hq).kill hx hl hI hr (Tch.refl [] w) (λ_ _=>by simp)
 ·rw[DW];exact h.nodup.filter _
 ·exactλj hj k hk=>h.disj j (hsub j hj) k (hsub k hk)
 ·exactλj hj=>h.new j (hsub j hj)
end Go.Sx
namespace Go.Sx
open Go Go.RowKit Go.Reg
structure TyI where
 agg:Bool
 size:Nat
 bytes:Nat
 flds:List (Nat×TypeId)
 zero:Da
 elem:TypeId
 ik:Option IntKind
 kd:Nat
 cmp:Bool
abbrev ED:=List (TypeId×TyI)
def EV(t:TypeId):ED->Option TyI
 |[]=>none
 |
  (u,e)::l=>match Nat.beq u t with
  |true=>some e
  |false=>EV t l
mutual
def Da.size:Da->Nat
 |.agg ds=>Sa ds
 |_=>1
def Sa:List Da->Nat
 |[]=>0
 |d::ds=>d.size+Sa ds
end
def Da.isAgg:Da->Bool
 |.agg _=>true
 |_=>false
mutual
def Dat.size:Dat->Nat
 |.d x=>x.size
 |.agg ds=>IA ds
 |_=>1
def IA:List Dat->Nat
 |[]=>0
 |d::ds=>d.size+IA ds
end
def Dat.isAgg:Dat->Bool
 |.d x=>x.isAgg
 |.agg _=>true
 |_=>false
def Dat.fits(d:Dat)(e:TyI):Bool:=(d.isAgg==e.agg)&&Nat.beq d.size e.size
def Da.fits(d:Da)(e:TyI):Bool:=(d.isAgg==e.agg)&&Nat.beq d.size e.size
mutual
def Da.stor:Da->Bool
 |.undef|.tuple _|.raw _=>false
 |.agg ds=>RX ds
 |_=>true
def RX:List Da->Bool
 |[]=>true
 |d::ds=>d.stor&&RX ds
end
mutual
def Dat.stor:Dat->Bool
 |.d x=>x.stor
 |.tuple _=>false
 |.agg ds=>Ov ds
 |_=>true
def Ov:List Dat->Bool
 |[]=>true
 |d::ds=>d.stor&&Ov ds
end
def Cf:List Da->List Dat
 |[]=>[]
 |x::xs=>.d x::Cf xs
def Dat.parts:Dat->Option (List Dat)
 |.d (.agg xs)=>some (Cf xs)
 |.agg ds=>some ds
 |_=>none
def Dat.cellsOf(d:Dat):List Dat:=match d with
 |.d (.agg xs)=>Cf xs
 |.agg ds=>ds
 |d=>[d]
def GI(e:TyI):Nat->List Dat->Nat->Option Dat
 |0,_,_=>none
 |_+1,[],_=>none
 |
  f+1,d::ds,o=>match Nat.blt o d.size with
  |false=>GI e f ds (o-d.size)
  |
   true=>match Nat.beq o 0&&d.fits e with
   |true=>some d
   |
    false=>match d.parts with
    |some es=>GI e f es o
    |none=>none
def X8(d:Dat):Option (List Dat)->Option (List Dat)
 |some l=>some (d::l)
 |none=>none
def YX(ds:List Dat):Option (List Dat)->Option (List Dat)
 |some l=>some (.agg l::ds)
 |none=>none
def Jn(x:Dat):Nat->List Dat->Nat->Option (List Dat)
 |0,_,_=>none
 |_+1,[],_=>none
 |
  f+1,d::ds,o=>match Nat.blt o d.size with
  |false=>X8 d (Jn x f ds (o-d.size))
  |
   true=>match Nat.beq o 0&&(d.isAgg==x.isAgg)&&Nat.beq d.size x.size with
   |true=>some (x::ds)
   |
    false=>match d.parts with
    |some es=>YX ds (Jn x f es o)
    |none=>none
def Eu:List Dat->Option (List Da)
 |[]=>some []
 |
  .d x::ds=>match Eu ds with
  |some xs=>some (x::xs)
  |none=>none
 |_::_=>none
def Qg(ds:List Dat):Dat:=match Eu ds with
 |some xs=>.d (.agg xs)
 |none=>.agg ds
def Sw(ds:List Dat):Dat:=match Eu ds with
 |some xs=>.d (.tuple xs)
 |none=>.tuple ds
def OM(t:TypeId):Dat->Dat
 |.d x=>.d (.iface t x)
 |d=>.iface t d
def R4(fn:Fn)(f c:List Dat):Dat:=match Eu f,Eu c with
 |some fs,some cs=>.d (.func fn fs cs)
 |_,_=>.func fn f c
def JI:Value->Da
 |.int k n=>.int k n
 |.bool b=>.bool b
 |.string s=>.str s
 |.pointer none=>.nilp
 |.slice none 0 0=>.nils
 |.map none=>.nilm
 |.nilFunc=>.nilf
 |.nilIface=>.nili
 |v=>.raw v
def Ss:Value->Da
 |.agg cs=>.agg (cs.toList.map JI)
 |v=>JI v
def glob(g:Nat):List (Nat×Da)->Da
 |[]=>.raw (.pointer (some ⟨g,0,none⟩))
 |
  (h,x)::l=>match Nat.beq h g with
  |true=>.ref x
  |false=>glob g l
def ev(Γ:List (Nat×Da))(fr:Fr):Operand->Dat
 |.tmp t=>get fr t
 |.const v=>.d (Ss v)
 |.global g=>.d (glob g Γ)
 |.func f=>.d (.func (.func f) [] [])
def Ue(Γ:List (Nat×Da))(fr:Fr):List Operand->List Dat
 |[]=>[]
 |x::xs=>ev Γ fr x::Ue Γ fr xs
abbrev KD:=Dat->Fr->Sg->Prop
def force(d:Dat)(K:Dat->Prop):Prop:=match d with
 |.d x=>K (.d x)
 |.own i=>K (.own i)
 |.at_ i o=>K (.at_ i o)
 |.el i k n o=>K (.el i k n o)
 |.agg ds=>K (.agg ds)
 |.tuple ds=>K (.tuple ds)
 |.iface t d=>K (.iface t d)
 |.func f a b=>K (.func f a b)
theorem Gk(d:Dat)(K:Dat->Prop):force d K=K d:=by cases d<;>rfl
def Y9(k:IntKind)(e:Int)(K:Int->Prop):Prop:=∃n,k.wrap e=n/\K n
def GQ:Nat->List Da->Nat
 |0,_=>0
 |_+1,[]=>0
 |n+1,d::ds=>d.size+GQ n ds
def Cn:Nat->List Dat->Nat
 |0,_=>0
 |_+1,[]=>0
 |n+1,d::ds=>d.size+Cn n ds
def BX(T:ED)(t:TypeId)(no:Prop)(K:TyI->Prop):Prop:=match EV t T with
 |some e=>K e
 |none=>no
def Ci {α:Type}(o:Option α)(no:Prop)(K:α->Prop):Prop:=match o with
 |some x=>K x
 |none=>no
def Cj(b:Bool)(no K:Prop):Prop:=match b with
 |true=>K
 |false=>no
def Vn(kd:Nat)(x:Dat)(σ:Sg):Option Bool:=match kd with
 |
  1=>(match x with
  |.d .nilp=>some true
  |.d (.ref _)|.at_ _ _|.el _ _ _ _=>some false
  |.own i=>(match BO i σ with|some (.cells _ _)=>some false|_=>none)
  |_=>none)
 |
  2=>(match x with
  |.d .nils=>some true
  |.d (.list _ (_::_))=>some false
  |.own i=>(match BO i σ with|some (.slice _ _ (_::_))=>some false|_=>none)
  |_=>none)
 |
  3=>(match x with
  |.d .nilm=>some true
  |_=>none)
 |
  4=>(match x with
  |.d .nilf=>some true
  |.d (.func _ _ _)|.func _ _ _=>some false
  |_=>none)
 |
  5=>(match x with
  |.d .nili=>some true
  |.d (.iface _ _)|.iface _ _=>some false
  |_=>none)
 |_=>none
def Mq(kd:Nat)(x:Dat):Bool:=match kd,x with
 |1,.d .nilp=>true
 |2,.d .nils=>true
 |3,.d .nilm=>true
 |4,.d .nilf=>true
 |5,.d .nili=>true
 |_,_=>false
def pr(p:Prop) [i:Decidable p]:Dat:=.d (.prop p i)
def U6(op:BinOp)(k:IntKind)(a b:Int)(K:Dat->Prop)(no:Prop):Prop:=match op with
 |.add=>Y9 k (a+b) λn=>K (.d (.int k n))
 |.sub=>Y9 k (a-b) λn=>K (.d (.int k n))
 |.mul=>Y9 k (a*b) λn=>K (.d (.int k n))
 |.quo=>b≠0/\Y9 k (a.tdiv b) λn=>K (.d (.int k n))
 |.rem=>b≠0/\K (.d (.int k (a.tmod b)))
 |.eql=>K (pr (a=b))
 |.neq=>K (pr (¬a=b))
 |.lss=>K (pr (a<b))
 |.leq=>K (pr (a<=b))
 |.gtr=>K (pr (b<a))
 |.geq=>K (pr (b<=a))
 |_=>no
def HX(op:BinOp)(p q:Prop) [Decidable p] [Decidable q](K:Dat->Prop)(no:Prop):Prop:=match op with
 |.eql=>K (pr (p↔q))
 |.neq=>K (pr (¬(p↔q)))
 |_=>no
def Uz(op:BinOp)(a b:ByteArray)(K:Dat->Prop)(no:Prop):Prop:=match op with
 |.eql=>K (pr (a=b))
 |.neq=>K (pr (¬a=b))
 |.add=>a.size+b.size<=9223372036854775807/\K (.d (.str (a++b)))
 |_=>no
def U2(kd:Nat)(op:BinOp)(x y:Dat)(σ:Sg)(K:Dat->Prop)(no:Prop):Prop:=
 match Mq kd y,Vn kd x σ,op with
 |true,some b,.eql=>K (.d (.bool b))
 |true,some b,.neq=>K (.d (.bool (!b)))
 |_,_,_=>no
def OP:Operand->Bool
 |.const .nilIface=>true
 |_=>false
def U8(T:ED)(t:TypeId)(op:BinOp)(yc:Bool)(x y:Dat)(σ:Sg)(K:Dat->Prop)(no:Prop):Prop:=
 match x,y with
 |.d (.int k a),.d (.int k' b)=>Cj (decide (k=k')) no (U6 op k a b K no)
 |.d (.str a),.d (.str b)=>Uz op a b K no
 |.d (.bool a),.d (.bool b)=>BX T t no λe=>Cj (Nat.beq e.kd 9) no (HX op (a=true) (b=true) K no)
 |.d (.bool a),.d (.prop q _)=>BX T t no λe=>Cj (Nat.beq e.kd 9) no (HX op (a=true) q K no)
 |.d (.prop p _),.d (.bool b)=>BX T t no λe=>Cj (Nat.beq e.kd 9) no (HX op p (b=true) K no)
 |.d (.prop p _),.d (.prop q _)=>BX T t no λe=>Cj (Nat.beq e.kd 9) no (HX op p q K no)
 |x,y=>BX T t no λe=>Cj (yc||!(Nat.beq e.kd 5)) no (U2 e.kd op x y σ K no)
def XV(op:UnOp)(x:Dat)(K:Dat->Prop)(no:Prop):Prop:=match op,x with
 |.not,.d (.bool b)=>K (.d (.bool (!b)))
 |.not,.d (.prop p _)=>K (pr (¬p))
 |.neg,.d (.int k n)=>Y9 k (-n) λm=>K (.d (.int k m))
 |_,_=>no
def Wu(d:Dat)(yes no:Dat->Prop)(bad:Prop):Prop:=match d with
 |.d (.bool true)=>yes (.d (.bool true))
 |.d (.bool false)=>no (.d (.bool false))
 |.d (.prop p _)=>(p->yes (.d (.bool true)))/\(¬p->no (.d (.bool false)))
 |_=>bad
def Mu(i:Nat)(σ:Sg)(K:Nat->Prop)(no:Prop):Prop:=match BO i σ with
 |none=>K i
 |
  some _=>match BO (i+1000) σ with
  |none=>K (i+1000)
  |
   some _=>match BO (i+2000) σ with
   |none=>K (i+2000)
   |some _=>no
def Bz(n:Nat):List Dat->Option Dat
 |[]=>none
 |
  d::ds=>match n with
  |0=>some d
  |m+1=>Bz m ds
def D5(n:Nat)(x:Dat):List Dat->List Dat
 |[]=>[]
 |
  d::ds=>match n with
  |0=>x::ds
  |m+1=>d::D5 m x ds
def DC(n:Nat):List Da->Option Da
 |[]=>none
 |
  d::ds=>match n with
  |0=>some d
  |m+1=>DC m ds
def On(T:ED)(t:TypeId)(x:Dat)(σ:Sg)(K:Dat->Prop)(no:Prop):Prop:=BX T t no λe=>match x with
 |.d (.ref y)=>Cj (y.fits e) no (K (.d y))
 |
  .own i=>Ci (BO i σ) no λo=>(match o with
  |
   .cells t0 ds=>(match Nat.beq t t0&&e.agg with
   |true=>Cj (Nat.beq (IA ds) e.size) no (force (Qg ds) K)
   |false=>Ci (GI e 200 ds 0) no λd=>force d K)
  |_=>no)
 |
  .at_ i C9=>Ci (BO i σ) no λo=>(match o with
  |.cells _ ds=>Ci (GI e 200 ds C9) no λd=>force d K
  |_=>no)
 |
  .el i k0 n C9=>Ci (BO i σ) no λo=>(match o with
  |.slice _ k ds=>Cj (Nat.beq k0 k) no (∃d,ds[n]? =some d/\Ci (GI e 200 [.d d] C9) no λd=>force d K)
  |_=>no)
 |_=>no
def Oi(T:ED)(t:TypeId)(x v:Dat)(σ:Sg)(K:Sg->Prop)(no:Prop):Prop:=BX T t no λe=>Cj (v.fits e&&v.stor) no (match x with
 |
  .own i=>Ci (BO i σ) no λo=>(match o with
  |
   .cells t0 ds=>(match Nat.beq t t0&&e.agg with
   |true=>Cj (Nat.beq (IA ds) e.size) no (K (Br id i (.cells t0 v.cellsOf) σ))
   |false=>Ci (Jn v 200 ds 0) no λds'=>K (Br id i (.cells t0 ds') σ))
  |_=>no)
 |
  .at_ i C9=>Ci (BO i σ) no λo=>(match o with
  |.cells T ds=>Ci (Jn v 200 ds C9) no λds'=>K (Br id i (.cells T ds') σ)
  |_=>no)
 |
  .el i k0 n C9=>Ci (BO i σ) no λo=>(match o with
  |
   .slice E k ds=>Cj (Nat.beq k0 k) no (∃d,ds[n]? =some d/\Ci (Jn v 200 [.d d] C9) no λds'=>Ci (Eu ds') no λxs=>(match xs with
   |[y]=>K (Br id i (.slice E k (ds.set n y)) σ)
   |_=>no))
  |_=>no)
 |_=>no)
def Hh(T:ED)(t:TypeId)(x:Dat)(n:Nat)(σ:Sg)(K:Dat->Prop)(no:Prop):Prop:=BX T t no λe=>Ci e.flds[n]? no λos=>Cj e.agg no<|match x with
 |.d (.ref (.agg ds))=>Cj (Nat.beq (GQ n ds) os.1) no (Ci (DC n ds) no λd=>K (.d (.ref d)))
 |.own i=>Ci (BO i σ) no λo=>(match o with|.cells _ _=>K (.at_ i os.1)|_=>no)
 |.at_ i C9=>K (.at_ i (C9+os.1))
 |.el i k m C9=>K (.el i k m (C9+os.1))
 |_=>no
def Zf(n:Int)(len:Nat)(K:Nat->Prop):Prop:=∃j:Nat,n=j/\j<len/\K j
def Hg(T:ED)(t:TypeId)(x ix:Dat)(σ:Sg)(K:Dat->Prop)(no:Prop):Prop:=BX T t no λe=>BX T e.elem no λee=>Cj (Nat.beq e.kd 2) no<|match ix with
 |
  .d (.int _ n)=>(match x with
  |.d (.list k ds)=>Cj (Nat.beq k ee.size) no (∃(j:Nat) (d:Da),n=j/\ds[j]? =some d/\K (.d (.ref d)))
  |
   .own i=>Ci (BO i σ) no λo=>(match o with
   |.slice _ k ds=>Cj (Nat.beq k ee.size) no (Zf n ds.length λj=>K (.el i k j 0))
   |_=>no)
  |_=>no)
 |_=>no
def U4(T:ED)(t:TypeId)(x:Dat)(σ:Sg)(K:Dat->Prop)(no:Prop):Prop:=BX T t no λe=>Cj (Nat.beq e.kd 2||Nat.beq e.kd 7) no<|match x with
 |.d (.list _ ds)=>Cj (Nat.beq e.kd 2) no (K (.d (.int .i64 ds.length)))
 |.d .nils=>Cj (Nat.beq e.kd 2) no (K (.d (.int .i64 0)))
 |.d (.str s)=>Cj (Nat.beq e.kd 7) no (K (.d (.int .i64 s.size)))
 |
  .own i=>Ci (BO i σ) no λo=>(match o with
  |.slice _ _ ds=>Cj (Nat.beq e.kd 2) no (K (.d (.int .i64 ds.length)))
  |_=>no)
 |_=>no
def SI(x:Dat)(k:Nat)(σ:Sg):Option (List Da):=match x with
 |.d (.list k' ds)=>(match Nat.beq k' k with|true=>some ds|false=>none)
 |.d .nils=>some []
 |
  .own i=>(match BO i σ with
  |some (.slice _ k' ds)=>(match Nat.beq k' k with|true=>some ds|false=>none)
  |_=>none)
 |_=>none
def Yn(i:Nat):Dat->Bool
 |.own j=>!(Nat.beq i j)
 |_=>true
def Jp:Nat:=4294967296
def Ft(b:Nat):Nat:=140737488355328/b
def Ju:List Dat->(List Dat->Prop)->Prop
 |[],K=>K []
 |d::ds,K=>force d λd=>Ju ds λds=>K (d::ds)
def R9(o:Own)(K:Own->Prop):Prop:=match o with
 |.cells T ds=>Ju ds λds=>K (.cells T ds)
 |.slice E k ds=>K (.slice E k ds)
 |.abs R a b c=>K (.abs R a b c)
 |.ghost vs ds=>Ju ds λds=>K (.ghost vs ds)
def C0:Sg->(Sg->Prop)->Prop
 |[],K=>K []
 |(i,o)::σ,K=>R9 o λo=>C0 σ λσ=>K ((i,o)::σ)
def H9:Fr->(Fr->Prop)->Prop
 |[],K=>K []
 |(t,d)::fr,K=>force d λd=>H9 fr λfr=>K ((t,d)::fr)
theorem Mw:∀(ds:List Dat) (K:List Dat->Prop),Ju ds K=K ds
 |[],K=>rfl
 |d::ds,K=>by simp only[Ju,Gk,Mw ds]
theorem TI(o:Own)(K:Own->Prop):R9 o K=K o:=by cases o<;>simp[R9,Mw]
theorem B4:∀(σ:Sg) (K:Sg->Prop),C0 σ K=K σ
 |[],K=>rfl
 |(i,o)::σ,K=>by simp only[C0,TI,B4 σ]
theorem Fc:∀(fr:Fr) (K:Fr->Prop),H9 fr K=K fr
 |[],K=>rfl
 |(t,d)::fr,K=>by simp only[H9,Gk,Fc fr]
def G9(i:Nat)(o:Own):Sg->Sg
 |[]=>[(i,o)]
 |
  (j,p)::σ=>match Nat.blt i j with
  |true=>(i,o)::(j,p)::σ
  |false=>(j,p)::G9 i o σ
def L8(T:ED)(t:TypeId)(x y:Dat)(dst:Option Nat)(fr:Fr)(σ:Sg)(K:KD)(no:Prop):Prop:=BX T t no λe=>BX T e.elem no λee=>Cj (decide (0<ee.size)&&decide (ee.bytes<=1000)&&Nat.beq e.kd 2) no<|match x with
 |
  .own i=>Ci (BO i σ) no λo=>(match o with
  |.slice E k ds=>Cj (Nat.beq k ee.size&&Nat.beq E e.elem&&Yn i y) no<|Ci (SI y k σ) no λes=>
    ds.length+es.length<=Ft ee.bytes/\H9 (FA i .undef fr) λfr=>C0 (Br (BF i .undef) i (.slice E k (ds++es)) σ) λσ=>K (.own i) fr σ
  |_=>no)
 |.d .nils=>Ci (SI y ee.size σ) no λes=>es.length<=Ft ee.bytes/\Ci dst no λt=>Mu t σ (λi=>C0 (G9 i (.slice e.elem ee.size es) σ) λσ=>K (.own i) fr σ) no
 |_=>no
def Hj:List (Nat×Operand)->(Operand->Dat)->List Dat->List Dat
 |[],_,ds=>ds
 |(i,x)::ps,f,ds=>Hj ps f (D5 i (f x) ds)
def EG(T:ED)(e:TyI):List (Nat×Operand)->(Operand->Dat)->List Dat->Bool
 |[],_,_=>true
 |
  (i,x)::ps,f,ds=>(match Bz i ds,e.flds[i]? with
  |
   some d,some (C9,ft)=>(match EV ft T with
   |some fe=>(d.isAgg==(f x).isAgg)&&Nat.beq d.size (f x).size&&Nat.beq fe.size (f x).size&&Nat.beq (Cn i ds) C9&&(f x).stor&&EG T e ps f ds
   |none=>false)
  |_,_=>false)
structure PD where
 p:Prop
 d:Decidable p
def PD.of(p:Prop) [i:Decidable p]:PD:=⟨p,i⟩
def PD.and(x y:PD):PD:=⟨x.p/\y.p,@instDecidableAnd _ _ x.d y.d⟩
def SH(kd:Nat)(a b:Dat):Option PD:=match kd,a,b with
 |8,.d (.int k x),.d (.int k' y)=>(match decide (k=k')with|true=>some (PD.of (x=y))|false=>none)
 |7,.d (.str x),.d (.str y)=>some (PD.of (x=y))
 |9,.d (.bool x),.d (.bool y)=>some (PD.of (x=y))
 |_,_,_=>none
def JO(T:ED)(dx dy:List Dat):List (Nat×TypeId)->Nat->Option PD
 |[],_=>some (PD.of True)
 |
  (C9,ft)::l,i=>match EV ft T,Bz i dx,Bz i dy with
  |
   some fe,some a,some b=>(match SH fe.kd a b,Nat.beq (Cn i dx) C9&&Nat.beq (Cn i dy) C9 with
   |
    some p,true=>(match l with
    |[]=>some p
    |
     _::_=>match JO T dx dy l (i+1)with
     |some q=>some (p.and q)
     |none=>none)
   |_,_=>none)
  |_,_,_=>none
def XW(op:BinOp)(p:PD)(K:Dat->Prop)(no:Prop):Prop:=match op with
 |.eql=>K (.d (.prop p.p p.d))
 |.neq=>K (.d (.prop (¬p.p) (@instDecidableNot _ p.d)))
 |_=>no
def Oq(T:ED)(t:TypeId)(x:Dat)(n:Nat)(K:Dat->Prop)(no:Prop):Prop:=BX T t no λe=>Ci e.flds[n]? no λos=>BX T os.2 no λfe=>Ci x.parts no λds=>Ci (Bz n ds) no λd=>Cj (d.fits fe&&Nat.beq (Cn n ds) os.1&&e.agg) no (force d K)
end Go.Sx
namespace Go.Sx
open Go Go.RowKit Go.Reg
def Gw(C:Cx)(B S:List Nat)(w0:World)(n:Nat)(K:Fr->Sg->Prop)(a:Act)(w:World):Prop:=
 ∃fr σ η φ,Models C B S w0 n fr σ η φ a w/\K fr σ
def AL(C:Cx)(n kd:Nat)(o:Oper)(K:Fr->Sg->Prop)(fr:Fr)(σ:Sg):Prop:=
 ∀(B S:List Nat) (w0:World) (η:Nat->Value) (φ:Nat->List Nat) (a:Act) (w:World),Models C B S w0 n fr σ η φ a w->match kd with
  |0=>AU a o=true/\o.wp C.P a w (Gw C B S w0 n K) No
  |5=>∃v,(∀w2,GZ w w2->(execOp a.eval o).run C.P w2=.ok (.value v) w2)/\Gw C B S w0 n K (a.put o.dst v) w
  |2=>o.wp C.P a w (λa' w'=>GZ w w'/\Gw C B S w0 n K a' w') No
  |_=>o.wp C.P a w (Gw C B S w0 n K) No
def BG(C:Cx)(quiet:Bool)(f:FuncId)(args:List Dat)(K:KD)(fr:Fr)(σ:Sg):Prop:=
 ∀(B S:List Nat) (w0:World) (η:Nat->Value) (φ:Nat->List Nat) (n:Nat) (a:Act) (w:World) (vs:List Value),Models C B S w0 n fr σ η φ a w->
  (∃css,A0 η (Ba σ) (B++Ah φ σ) w args css/\vs=List.zipWith Bo args css)->
  (callFunc f vs.toArray).run C.P w=.ok (.enter f vs.toArray) w/\Calls C.P f vs.toArray w λe w'=>∃v d fr' σ' η' φ',e=.returned v/\K d fr' σ'/\Models C B S w0 n fr' σ' η' φ' a w'/\(∃cs,Ay η' (Ba σ') (B++Ah φ' σ') w' d cs/\v=Bo d cs)/\(quiet=true->GZ w w')
def DN(C:Cx)(n:Nat)(c:Code)(K:Exit->Fr->Sg->Prop)(fr:Fr)(σ:Sg):Prop:=
 ∀(B S:List Nat) (w0:World) (η:Nat->Value) (φ:Nat->List Nat) (a:Act) (w:World),Models C B S w0 n fr σ η φ a w->
  c.wp C.P (λe a' w'=>match e with
   |.panic _=>False
   |.outgrown=>False
   |e=>Gw C B S w0 n (K e) a' w') a w
attribute [irreducible] AL BG DN
def Ca(t:Option Nat)(d:Dat)(fr:Fr):Fr:=match t with
 |some t=>(t,d)::fr
 |none=>fr
def Db(t:Option Nat)(n:Nat):Bool:=match t with
 |some t=>Nat.blt t n
 |none=>true
def Oj(T:ED)(t:TypeId)(x:Dat)(lo hi mx:Option Dat)(K:Dat->Prop)(no:Prop):Prop:=BX T t no λe=>BX T e.elem no λee=>Cj (Nat.beq e.kd 2) no<|match x,mx with
 |
  .d (.list k ds),none=>Cj (Nat.beq k ee.size) no (match lo,hi with
  |none,none=>K (.d (.list k ds))
  |some (.d (.int _ l)),none=>∃j:Nat,l=j/\j<=ds.length/\K (.d (.list k (ds.drop j)))
  |none,some (.d (.int _ h))=>∃m:Nat,h=m/\m<=ds.length/\K (.d (.list k (ds.take m)))
  |some (.d (.int _ l)),some (.d (.int _ h))=>∃j m:Nat,l=j/\h=m/\j<=m/\m<=ds.length/\K (.d (.list k ((ds.take m).drop j)))
  |_,_=>no)
 |
  .d .nils,none=>(match lo,hi with
  |none,none=>K (.d .nils)
  |some (.d (.int _ l)),none=>l=0/\K (.d .nils)
  |none,some (.d (.int _ h))=>h=0/\K (.d .nils)
  |some (.d (.int _ l)),some (.d (.int _ h))=>l=0/\h=0/\K (.d .nils)
  |_,_=>no)
 |_,_=>no
def Om(C:Cx)(T:ED)(n kd:Nat)(o:Oper)(K:Fr->Sg->Prop)(fr:Fr)(σ:Sg):Prop:=
 Cj (Db o.dst n) (AL C n kd o K fr σ)<|match o.op with
 |.move x=>force (ev C.Γ fr x) λd=>K (Ca o.dst d fr) σ
 |.assign x=>force (ev C.Γ fr x) λd=>K (Ca o.dst d fr) σ
 |.pick c x y=>Wu (ev C.Γ fr c) (λ_=>force (ev C.Γ fr x) λd=>K (Ca o.dst d fr) σ) (λ_=>force (ev C.Γ fr y) λd=>K (Ca o.dst d fr) σ) (AL C n kd o K fr σ)
 |.alloc t=>BX T t (AL C n kd o K fr σ) λe=>Ci o.dst (AL C n kd o K fr σ) λd=>Mu d σ (λi=>C0 (G9 i (.cells t (Dat.cellsOf (.d e.zero))) σ) λσ=>K (Ca o.dst (.own i) fr) σ) (AL C n kd o K fr σ)
 |.box t x=>Cj (ev C.Γ fr x).stor (AL C n kd o K fr σ)<|Ci o.dst (AL C n kd o K fr σ) λd=>Mu d σ (λi=>force (ev C.Γ fr x) λy=>C0 (G9 i (.cells t y.cellsOf) σ) λσ=>K (Ca o.dst (.own i) fr) σ) (AL C n kd o K fr σ)
 |.build t ps=>BX T t (AL C n kd o K fr σ) λe=>Cj (e.agg&&EG T e ps.toList (ev C.Γ fr) (Dat.cellsOf (.d e.zero))) (AL C n kd o K fr σ)<|force (Qg (Hj ps.toList (ev C.Γ fr) (Dat.cellsOf (.d e.zero)))) λd=>K (Ca o.dst d fr) σ
 |.buildSlice t m ps=>BX T t (AL C n kd o K fr σ) λe=>BX T e.elem (AL C n kd o K fr σ) λee=>Cj (Nat.beq e.kd 2&&Nat.beq m ps.size&&decide (m<=1000)&&decide (ee.size<=1000)&&((ps.toList.map (·.1))==List.range m)&&ps.toList.all (λp=>(ev C.Γ fr p.2).fits ee&&(ev C.Γ fr p.2).stor)) (AL C n kd o K fr σ)<|
   Ci (Eu (ps.toList.map λp=>ev C.Γ fr p.2)) (AL C n kd o K fr σ) λxs=>Ci o.dst (AL C n kd o K fr σ) λd=>Mu d σ (λi=>C0 (G9 i (.slice e.elem ee.size xs) σ) λσ=>K (Ca o.dst (.own i) fr) σ) (AL C n kd o K fr σ)
 |
  .makeSlice t l c=>BX T t (AL C n kd o K fr σ) λe=>BX T e.elem (AL C n kd o K fr σ) λee=>Cj (Nat.beq e.kd 2&&ee.zero.stor&&decide (ee.bytes<=1000)) (AL C n kd o K fr σ) (match ev C.Γ fr l,ev C.Γ fr c with
  |.d (.int _ x),.d (.int _ y)=>∃m:Nat,x=m/\y=m/\m<=Jp/\Ci o.dst (AL C n kd o K fr σ) λd=>Mu d σ (λi=>C0 (G9 i (.slice e.elem ee.size (List.replicate m ee.zero)) σ) λσ=>K (Ca o.dst (.own i) fr) σ) (AL C n kd o K fr σ)
  |_,_=>AL C n kd o K fr σ)
 |.load t x=>On T t (ev C.Γ fr x) σ (λd=>K (Ca o.dst d fr) σ) (AL C n kd o K fr σ)
 |.store t x v=>Oi T t (ev C.Γ fr x) (ev C.Γ fr v) σ (λσ'=>C0 σ' λσ'=>K (Ca o.dst (.d .undef) fr) σ') (AL C n kd o K fr σ)
 |
  .nilCheck x=>force (ev C.Γ fr x) λd=>(match d with
  |.d (.ref _)=>K (Ca o.dst d fr) σ
  |.at_ _ _=>K (Ca o.dst d fr) σ
  |.el _ _ _ _=>K (Ca o.dst d fr) σ
  |
   .own i=>Ci (BO i σ) (AL C n kd o K fr σ) λow=>(match ow with
   |.cells _ _=>K (Ca o.dst d fr) σ
   |_=>AL C n kd o K fr σ)
  |_=>AL C n kd o K fr σ)
 |
  .binOp op t x y _=>(match(ev C.Γ fr x).parts,(ev C.Γ fr y).parts with
  |some dx,some dy=>BX T t (AL C n kd o K fr σ) λe=>Cj (e.cmp&&!(Nat.beq kd 0)) (AL C n kd o K fr σ)<|Ci (JO T dx dy e.flds 0) (AL C n kd o K fr σ) λp=>XW op p (λd=>K (Ca o.dst d fr) σ) (AL C n kd o K fr σ)
  |_,_=>U8 T t op (OP y) (ev C.Γ fr x) (ev C.Γ fr y) σ (λd=>K (Ca o.dst d fr) σ) (AL C n kd o K fr σ))
 |.unOp op _ x=>XV op (ev C.Γ fr x) (λd=>K (Ca o.dst d fr) σ) (AL C n kd o K fr σ)
 |
  .convert s t x=>BX T t (AL C n kd o K fr σ) λe=>BX T s (AL C n kd o K fr σ) λ_=>(match e.ik,ev C.Γ fr x with
  |some k,.d (.int _ a)=>Y9 k a λb=>K (Ca o.dst (.d (.int k b)) fr) σ
  |_,_=>AL C n kd o K fr σ)
 |.makeInterface t x=>BX T t (AL C n kd o K fr σ) λe=>Cj (!(Nat.beq e.kd 5)) (AL C n kd o K fr σ)<|force (OM t (ev C.Γ fr x)) λd=>K (Ca o.dst d fr) σ
 |.makeFunc f p q=>force (R4 f (Ue C.Γ fr p.toList) (Ue C.Γ fr q.toList)) λd=>K (Ca o.dst d fr) σ
 |.fieldAddr t x m=>Hh T t (ev C.Γ fr x) m σ (λd=>K (Ca o.dst d fr) σ) (AL C n kd o K fr σ)
 |.indexAddr t x ix=>Hg T t (ev C.Γ fr x) (ev C.Γ fr ix) σ (λd=>K (Ca o.dst d fr) σ) (AL C n kd o K fr σ)
 |
  .index t x ix=>BX T t (AL C n kd o K fr σ) λe=>Cj (Nat.beq e.kd 7) (AL C n kd o K fr σ) (match ev C.Γ fr x,ev C.Γ fr ix with
  |.d (.str s),.d (.int _ i)=>∃j:Nat,i=j/\∃h:j<s.size,K (Ca o.dst (.d (.int .u8 (s[j]'h).toNat)) fr) σ
  |_,_=>AL C n kd o K fr σ)
 |.field t x m=>Oq T t (ev C.Γ fr x) m (λd=>K (Ca o.dst d fr) σ) (AL C n kd o K fr σ)
 |.slice t x lo hi mx=>Oj T t (ev C.Γ fr x) (lo.map (ev C.Γ fr)) (hi.map (ev C.Γ fr)) (mx.map (ev C.Γ fr)) (λd=>K (Ca o.dst d fr) σ) (AL C n kd o K fr σ)
 |
  .extract x m=>(match ev C.Γ fr x with
  |.d (.tuple ds)=>Ci (DC m ds) (AL C n kd o K fr σ) λd=>K (Ca o.dst (.d d) fr) σ
  |.tuple ds=>Ci (Bz m ds) (AL C n kd o K fr σ) λd=>force d λd=>K (Ca o.dst d fr) σ
  |_=>AL C n kd o K fr σ)
 |
  .call c=>(match c.callee with
  |
   .builtin .len=>(match c.args.toList,c.argTypes.toList with
   |[x],[t]=>U4 T t (ev C.Γ fr x) σ (λd=>K (Ca o.dst d fr) σ) (AL C n kd o K fr σ)
   |_,_=>AL C n kd o K fr σ)
  |
   .builtin .append=>(match c.args.toList,c.argTypes.toList with
   |[x,y],[t,t']=>Cj (Nat.beq t t') (AL C n kd o K fr σ)<|L8 T t (ev C.Γ fr x) (ev C.Γ fr y) o.dst fr σ (λd fr σ=>K (Ca o.dst d fr) σ) (AL C n kd o K fr σ)
   |_,_=>AL C n kd o K fr σ)
  |
   .builtin .min=>(match c.args.toList.map (ev C.Γ fr)with
   |[.d (.int k x),.d (.int _ y)]=>K (Ca o.dst (.d (.int k (min x y))) fr) σ
   |_=>AL C n kd o K fr σ)
  |
   .builtin .max=>(match c.args.toList.map (ev C.Γ fr)with
   |[.d (.int k x),.d (.int _ y)]=>K (Ca o.dst (.d (.int k (max x y))) fr) σ
   |_=>AL C n kd o K fr σ)
  |
   .value f=>(match ev C.Γ fr f with
   |.d (.func (.func g) fs cs)=>BG C (Nat.beq kd 2) g (Cf fs++(Ue C.Γ fr c.args.toList++Cf cs)) (λd fr σ=>K (Ca o.dst d fr) σ) fr σ
   |.func (.func g) fs cs=>BG C (Nat.beq kd 2) g (fs++(Ue C.Γ fr c.args.toList++cs)) (λd fr σ=>K (Ca o.dst d fr) σ) fr σ
   |_=>AL C n kd o K fr σ)
  |_=>AL C n kd o K fr σ)
 |_=>AL C n kd o K fr σ
def Oo(o:Oper)(l:List Oper)(fr:Fr)(yes no:Fr->Prop):Prop:=match o.guard with
 |none=>yes fr
 |
  some (g,b)=>match(l[g]?).bind (·.dst)with
  |none=>False
  |
   some t=>match get fr t with
   |
    .d (.bool c)=>(match c,b with
    |true,true=>yes fr
    |false,false=>yes fr
    |_,_=>no fr)
   |
    .d (.prop p _)=>(match b with
    |true=>(p->yes ((t,.d (.bool true))::fr))/\(¬p->no ((t,.d (.bool false))::fr))
    |false=>(p->no ((t,.d (.bool true))::fr))/\(¬p->yes ((t,.d (.bool false))::fr)))
   |.d (.tuple [])=>no fr
   |_=>False
def YC(t:Option Nat)(fr:Fr):Fr:=match t with
 |some t=>(t,.d (.tuple []))::fr
 |none=>fr
def EP(C:Cx)(T:ED)(n:Nat)(l:List Oper)(ks:List Nat)(K:Fr->Sg->Prop):List Nat->Fr->Sg->Prop
 |[],fr,σ=>K fr σ
 |
  i::p,fr,σ=>match l[i]? with
  |none=>False
  |some o=>Oo o l fr (λfr=>Om C T n (ks.getD i 3) o (EP C T n l ks K p) fr σ) (λfr=>Cj (Db o.dst n) False (EP C T n l ks K p (YC o.dst fr) σ))
inductive Plan where
 |leaf (ks p A:List Nat)
 |split (i j:Nat) (x y:Plan)
def EM:Plan->List (List Nat×List Nat)
 |.leaf ks p _=>[(ks,p)]
 |.split _ _ x y=>EM x++EM y
def QP:Fr->Fr->Prop
 |[],_=>True
 |(t,d)::l,fr=>get fr t=d/\QP l fr
def Vi:Fr->Fr->(Fr->Prop)->Prop
 |[],acc,K=>K acc
 |
  (t,d)::fr,acc,K=>match acc.any (λp=>Nat.beq p.1 t)with
  |true=>Vi fr acc K
  |false=>force d λd=>Vi fr ((t,d)::acc) K
def Ol(C:Cx)(T:ED)(n:Nat)(l:List Oper)(F:Fr)(Z:Sg)(fr:Fr)(σ:Sg)(k:Prop):List (List Nat×List Nat)->Prop
 |[]=>k
 |(ks,p)::r=>EP C T n l ks (λfr' σ'=>QP F fr'/\σ'=Z) p fr σ/\Ol C T n l F Z fr σ k r
def Ra(C:Cx)(T:ED)(n:Nat)(l:List Oper)(K:Fr->Sg->Prop)(pl:Plan)(fr:Fr)(σ:Sg):Prop:=match EM pl with
 |[]=>False
 |[(ks,p)]=>EP C T n l ks K p fr σ
 |(ks,p)::r=>EP C T n l ks (λfr1 σ1=>Vi fr1 [] λF=>Ol C T n l F σ1 fr σ (K F σ1) r) p fr σ
def Rs(i:Nat):List (Nat×Plan)->Option Plan
 |[]=>none
 |
  (j,p)::l=>match Nat.beq j i with
  |true=>some p
  |false=>Rs i l
abbrev KE:=Exit->Fr->Sg->Prop
def Zh(nx:Fr->Sg->Prop)(K:KE):KE:=λe=>match e with
 |.normal=>nx
 |e=>K e
def RL(id:Nat)(K:KE):KE:=λe=>match e with
 |
  .exit j=>(match Nat.beq j id with
  |true=>K .normal
  |false=>K (.exit j))
 |e=>K e
def SJ(c:Operand)(d:Dat)(fr:Fr):Fr:=match c with
 |.tmp t=>(t,d)::fr
 |_=>fr
def CU(C:Cx)(T:ED)(n:Nat)(pl:List (Nat×Plan)):Code->KE->Fr->Sg->Prop
 |.skip,K,fr,σ=>K .normal fr σ
 |
  .region id ops dr,K,fr,σ=>(match dr with
  |false=>EP C T n ops.toList [] (K .normal) (List.range ops.toList.length) fr σ
  |
   true=>match Rs id pl with
   |some p=>Ra C T n ops.toList (K .normal) p fr σ
   |none=>False)
 |.seq a b,K,fr,σ=>CU C T n pl a (Zh (CU C T n pl b K) K) fr σ
 |.cond c a b,K,fr,σ=>Wu (ev C.Γ fr c) (λd=>CU C T n pl a K (SJ c d fr) σ) (λd=>CU C T n pl b K (SJ c d fr) σ) False
 |.block id b,K,fr,σ=>CU C T n pl b (RL id K) fr σ
 |.exit id,K,fr,σ=>K (.exit id) fr σ
 |.label _,K,fr,σ=>K .normal fr σ
 |.ret,K,fr,σ=>K .ret fr σ
 |c,K,fr,σ=>DN C n c K fr σ
def L5(T:ED):List ResultVar->Fr->Sg->(List Dat->Prop)->Prop
 |[],_,_,K=>K []
 |.tmp t::l,fr,σ,K=>force (get fr t) λd=>L5 T l fr σ λds=>K (d::ds)
 |.cell t ty::l,fr,σ,K=>On T ty (get fr t) σ (λd=>L5 T l fr σ λds=>K (d::ds)) False
def Iz(T:ED)(rs:List ResultVar)(K:Dat->Sg->Prop):KE:=λe fr σ=>match e with
 |
  .normal|.ret=>L5 T rs fr σ λds=>(match ds with
  |[d]=>K d σ
  |ds=>force (Sw ds) λd=>K d σ)
 |_=>False
end Go.Sx
namespace Go.Sx
open Go Go.RowKit Go.Reg
def XQ:Value->Value->Bool
 |.int k n,.int k' n'=>decide (k=k')&&decide (n=n')
 |.bool b,.bool c=>b==c
 |.string s,.string t=>decide (s=t)
 |.pointer none,.pointer none=>true
 |.slice none 0 0,.slice none 0 0=>true
 |.map none,.map none=>true
 |.nilFunc,.nilFunc=>true
 |.nilIface,.nilIface=>true
 |_,_=>false
theorem Wm {a b:Value}(h:XQ a b=true):a=b:=by
 unfold XQ at h
 split at h<;>simp at h<;>simp[h]
def Nt:List Value->List Value->Bool
 |[],[]=>true
 |a::Aa,b::bs=>XQ a b&&Nt Aa bs
 |_,_=>false
theorem Ps:∀{a b:List Value},Nt a b=true->a=b
 |[],[],_=>rfl
 |
  a::Aa,b::bs,h=>by
  simp only[Nt,Aj]at h
  rw[Wm h.1,Ps h.2]
 |[],_::_,h=>by simp[Nt]at h
 |_::_,[],h=>by simp[Nt]at h
mutual
def CJ:Da->Option (List Value)
 |.int k n=>some [.int k n]
 |.bool b=>some [.bool b]
 |.str s=>some [.string s]
 |.nilp=>some [.pointer none]
 |.nils=>some [.slice none 0 0]
 |.nilm=>some [.map none]
 |.nilf=>some [.nilFunc]
 |.nili=>some [.nilIface]
 |.agg ds=>HQ ds
 |_=>none
def HQ:List Da->Option (List Value)
 |[]=>some []
 |
  d::ds=>match CJ d,HQ ds with
  |some a,some b=>some (a++b)
  |_,_=>none
end
mutual
theorem K6 {O:List Nat} {w:World}:∀(d:Da) (cs:List Value),CJ d=some cs->RepC O w d cs
 |.int k n,cs,h=>by simp only[CJ,Ax]at h;simp only[RepC];exact h.symm
 |.bool b,cs,h=>by simp only[CJ,Ax]at h;simp only[RepC];exact h.symm
 |.str s,cs,h=>by simp only[CJ,Ax]at h;simp only[RepC];exact h.symm
 |.nilp,cs,h=>by simp only[CJ,Ax]at h;simp only[RepC];exact h.symm
 |.nils,cs,h=>by simp only[CJ,Ax]at h;simp only[RepC];exact h.symm
 |.nilm,cs,h=>by simp only[CJ,Ax]at h;simp only[RepC];exact h.symm
 |.nilf,cs,h=>by simp only[CJ,Ax]at h;simp only[RepC];exact h.symm
 |.nili,cs,h=>by simp only[CJ,Ax]at h;simp only[RepC];exact h.symm
 |.agg ds,cs,h=>by simp only[CJ]at h;simp only[RepC];exact Jl ds cs h
 |.undef,cs,h=>by simp[CJ]at h
 |.prop _ _,cs,h=>by simp[CJ]at h
 |.tuple _,cs,h=>by simp[CJ]at h
 |.iface _ _,cs,h=>by simp[CJ]at h
 |.ref _,cs,h=>by simp[CJ]at h
 |.list _ _,cs,h=>by simp[CJ]at h
 |.func _ _ _,cs,h=>by simp[CJ]at h
 |.raw _,cs,h=>by simp[CJ]at h
theorem Jl {O:List Nat} {w:World}:∀(ds:List Da) (cs:List Value),HQ ds=some cs->RepCs O w ds cs
 |[],cs,h=>by simp only[HQ,Ax]at h;simp only[RepCs];exact h.symm
 |
  d::ds,cs,h=>by
  simp only[HQ]at h
  cases h1:CJ d with
  |none=>rw[h1]at h;cases h
  |
   some a=>
   cases h2:HQ ds with
   |none=>rw[h1,h2]at h;cases h
   |
    some b=>
    rw[h1,h2]at h
    simp only[Ax]at h
    exact⟨a,b,h.symm,K6 d a h1,Jl ds b h2⟩
end
def Wn:Value->Bool
 |.agg _=>true
 |_=>false
def Ze(P:Program)(t:TypeId)(e:TyI):Bool:=
 match P.info? t,P.underlying t with
 |some i,some d=>Nat.beq i.size e.size&&Nat.beq i.bytes e.bytes&&
   (match i.zero,CJ e.zero with
    |some z,some cs=>Nt z.cells.toList cs&&(Wn z==e.agg)
    |_,_=>false)&&((e.zero.isAgg==e.agg)&&Nat.beq e.zero.size e.size)&&
   (match d with
    |.struct fs=>e.agg&&decide (fs.toList.map (λf=>(f.offset,f.type))=e.flds)&&fs.toList.all (λf=>match P.info? f.type with|some i=>Nat.blt 0 i.size|none=>false)
    |.array _ _=>false
    |.slice el=>!e.agg&&Nat.beq el e.elem
    |.int k=>!e.agg&&decide (e.ik=some k)
    |_=>!e.agg)&&
   ((match d with|.int _=>false|_=>true)==e.ik.isNone)&&
   Nat.beq e.kd (match d with|.pointer _=>1|.slice _=>2|.map _ _=>3|.func _ _ _=>4|.interface _=>5|.struct _=>6|.string=>7|.int _=>8|.bool=>9|_=>0)&&
   (!e.cmp||(match d with|.struct fs=>!(P.stoodInHeld t)&&!(P.eqGuardType P.depth t)&&fs.toList.all (λf=>f.name != "_")|_=>false))
 |_,_=>false
def Ti(P:Program):ED->Bool
 |[]=>true
 |(t,e)::l=>Ze P t e&&Ti P l
theorem RW {P:Program}:∀{T:ED},Ti P T=true->∀{t:TypeId} {e:TyI},EV t T=some e->Ze P t e=true
 |[],_,t,e,h=>by simp[EV]at h
 |
  (u,x)::l,hT,t,e,h=>by
  simp only[Ti,Aj]at hT
  rcases Bi u t with⟨hb,he⟩|⟨hb,he⟩
  ·simp only[EV,hb,Ax]at h
   subst he;subst h;exact hT.1
  ·simp only[EV,hb]at h
   exact RW hT.2 h
structure TyOk(P:Program)(t:TypeId)(e:TyI):Prop where
 zsize:e.zero.size=e.size
 cmp:e.cmp=true->∃fs,P.underlying t=some (.struct fs)/\P.stoodInHeld t=false/\P.eqGuardType P.depth t=false/\∀f∈fs.toList,f.name≠ "_"
 info:∃i z,P.info? t=some i/\i.size=e.size/\i.bytes=e.bytes/\i.zero=some z/\z=EB e.zero z.cells.toList/\(∀O w,RepC O w e.zero z.cells.toList)
 desc:∃d,P.underlying t=some d/\(match d with|.struct _|.array _ _=>true|_=>false)=e.agg/\(∀el,d=.slice el->el=e.elem)/\
  (∀fs,d=.struct fs->fs.toList.map (λf=>(f.offset,f.type))=e.flds/\∀f∈fs.toList,∃i,P.info? f.type=some i/\0<i.size)/\
  (∀n el,d≠.array n el)/\(e.agg=true->∃fs,d=.struct fs)/\(∀k,e.ik=some k->d=.int k)/\e.kd=(match d with|.pointer _=>1|.slice _=>2|.map _ _=>3|.func _ _ _=>4|.interface _=>5|.struct _=>6|.string=>7|.int _=>8|.bool=>9|_=>0)
theorem Nb {z:Value} {d:Da} {cs:List Value}(h1:z.cells.toList=cs)(h2:Wn z=d.isAgg)(h3:d.isAgg=false->z=EB d [z]):z=EB d cs:=by
 cases z with
 |
  agg xs=>
  cases d<;>first|(simp[Da.isAgg,Wn]at h2;done)|(simp only[Value.cells]at h1;subst h1;simp[EB])
 |
  _=>
  simp only[Value.cells]at h1
  subst h1
  exact h3 (by simpa[Wn]using h2.symm)
theorem XR {P:Program} {t:TypeId} {e:TyI}(h:Ze P t e=true):TyOk P t e:=by
 unfold Ze at h
 cases hi:P.info? t with
 |none=>rw[hi]at h;cases h
 |
  some i=>
  cases hd:P.underlying t with
  |none=>rw[hi,hd]at h;cases h
  |
   some d=>
   rw[hi,hd]at h
   simp only[Aj]at h
   obtain⟨⟨⟨⟨⟨⟨⟨h1,h2⟩,h3⟩,h4⟩,h5⟩,h6⟩,h7⟩,h8⟩:=h
   refine⟨by simp only[beq_iff_eq]at h4;exact Ag h4.2,?_,?_,?_⟩
   ·intro hc
    rw[hc]at h8
    simp only[Bool.not_true,Bool.false_or]at h8
    split at h8
    ·rename_i fs
     simp only[Aj,Ej,EA]at h8
     exact⟨fs,hd,h8.1.1,h8.1.2,λf hf=>by simpa using h8.2 f hf⟩
    ·cases h8
   ·cases hz:i.zero with
    |none=>rw[hz]at h3;cases h3
    |
     some z=>
     cases hc:CJ e.zero with
     |none=>rw[hz,hc]at h3;cases h3
     |
      some cs=>
      rw[hz,hc]at h3
      simp only[Aj]at h3
      have e1:=Ps h3.1
      refine⟨i,z,hi,Ag h1,Ag h2,hz,?_,λO w=>by rw[e1];exact K6 _ _ hc⟩
      rw[e1]
      refine Nb e1 ?_ (λhn=>?_)
      ·have h4':e.zero.isAgg=e.agg:=by simp only[beq_iff_eq]at h4;exact h4.1
       rw[h4'];simpa using h3.2
      ·cases hh:e.zero<;>simp[EB]<;>rw[hh]at hn<;>simp[Da.isAgg]at hn
   ·refine⟨d,hd,?_,?_,?_,?_,?_,?_,?_⟩
    ·cases d<;>simp at h5<;>simp[h5]
    ·rintro el rfl
     simp only[Aj]at h5
     exact Ag h5.2
    ·rintro fs rfl
     simp only[Aj,decide_eq_true_eq,EA]at h5
     refine⟨h5.1.2,λf hf=>?_⟩
     have:=h5.2 f hf
     cases hfi:P.info? f.type with
     |none=>rw[hfi]at this;cases this
     |
      some j=>
      rw[hfi]at this
      exact⟨j,rfl,by simpa[Nat.blt_eq]using this⟩
    ·rintro n el rfl;simp at h5
    ·intro ha
     cases d<;>simp[ha]at h5
     exact⟨_,rfl⟩
    ·intro k hk
     rw[hk]at h6 h5
     cases d<;>simp at h6
     simp at h5
     rw[h5.2]
    ·exact Ag h7
structure Cx.Ok(C:Cx)(T:ED):Prop where
 tab:Ti C.P T=true
 mixed:C.P.follows .mixedOrders=true
theorem Cx.Ok.ty {C:Cx} {T:ED}(h:C.Ok T) {t:TypeId} {e:TyI}(ht:EV t T=some e):TyOk C.P t e:=XR (RW h.tab ht)
section
variable {P:Program} {t:TypeId} {e:TyI}
theorem TyOk.sizeOf(h:TyOk P t e)(w:World):(sizeOf t).run P w=.ok e.size w:=by
 obtain⟨i,z,h1,h2,_⟩:=h.info
 simp[Go.sizeOf,typeInfo,program,Sem.run,h1,h2]
theorem TyOk.isAgg(h:TyOk P t e)(w:World):(isAgg t).run P w=.ok e.agg w:=by
 obtain⟨d,h1,h2,_⟩:=h.desc
 simp only[Go.isAgg,Ar,run_underlying h1,Ap]
 rw[<-h2]
 cases d<;>simp
theorem TyOk.zero(h:TyOk P t e):∃z,(∀w,(zeroValue t).run P w=.ok z w)/\z=EB e.zero z.cells.toList/\∀O w,RepC O w e.zero z.cells.toList:=by
 obtain⟨i,z,h1,h2,h3,h4,h5,h6⟩:=h.info
 exact⟨z,λw=>by simp[zeroValue,typeInfo,program,Sem.run,h1,h4],h5,h6⟩
end
section
variable {C:Cx} {B S:List Nat} {w0 w:World} {n:Nat} {fr:Fr} {σ:Sg} {η:Nat->Value} {φ:Nat->List Nat} {a:Act}
abbrev RD(B:List Nat)(σ:Sg)(η:Nat->Value)(φ:Nat->List Nat)(w:World)(d:Dat)(v:Value):Prop:=∃cs,Ay η (Ba σ) (B++Ah φ σ) w d cs/\v=Bo d cs
theorem Ma(O:List Nat)(w:World)(v:Value):RepC O w (JI v) [v]:=by
 unfold JI
 split<;>simp[RepC]
theorem QX(v:Value):EB (JI v) [v]=v:=by
 unfold JI
 split<;>simp[EB]
theorem Tz(O:List Nat)(w:World)(v:Value):∃cs,RepC O w (Ss v) cs/\v=EB (Ss v) cs:=by
 unfold Ss
 split
 ·rename_i cs
  refine⟨cs.toList,?_,by simp[EB]⟩
  simp only[RepC]
  generalize cs.toList=l
  induction l with
  |nil=>simp[RepCs]
  |cons x l ih=>exact⟨[x],l,rfl,Ma O w x,ih⟩
 ·exact⟨[v],Ma O w v,(QX v).symm⟩
theorem Qs {O:List Nat} {w:World} {g:Nat}:∀{Γ:List (Nat×Da)},(∀p∈Γ,Rep O w (.ref p.2) (.pointer (some ⟨p.1,0,none⟩)))->∃cs,RepC O w (glob g Γ) cs/\Value.pointer (some ⟨g,0,none⟩)=EB (glob g Γ) cs
 |[],_=>⟨[.pointer (some ⟨g,0,none⟩)],by simp[glob,RepC],by simp[glob,EB]⟩
 |
  (h,x)::Γ,hh=>by
  rcases Bi h g with⟨hb,he⟩|⟨hb,he⟩
  ·simp only[glob,hb]
   have:=hh (h,x) (by simp)
   subst he;exact this
  ·simp only[glob,hb]
   exact Qs (λp hp=>hh p (AK _ hp))
theorem AM(h:Models C B S w0 n fr σ η φ a w)(x:Operand):RD B σ η φ w (ev C.Γ fr x) (a.eval x):=by
 cases x with
 |tmp t=>obtain⟨cs,h1,h2⟩:=h.fr t;exact⟨cs,h1,h2⟩
 |const v=>obtain⟨cs,h1,h2⟩:=Tz (B++Ah φ σ) w v;exact⟨cs,h1,h2⟩
 |«global» g=>obtain⟨cs,h1,h2⟩:=Qs (g:=g) (λp hp=>(h.mem.glob p hp).1);exact⟨cs,h1,h2⟩
 |func f=>exact⟨[.func (.func f) #[] #[]],by simp[ev,Ay,RepC,Ai],by simp[ev,Bo,EB,Act.eval]⟩
theorem Lq(h:Models C B S w0 n fr σ η φ a w):∀xs:List Operand,∃css,A0 η (Ba σ) (B++Ah φ σ) w (Ue C.Γ fr xs) css/\xs.map a.eval=List.zipWith Bo (Ue C.Γ fr xs) css
 |[]=>⟨[],by simp[Ue,A0],by simp[Ue]⟩
 |
  x::xs=>by
  obtain⟨cs,h1,h2⟩:=AM h x
  obtain⟨css,h3,h4⟩:=Lq h xs
  exact⟨cs::css,⟨cs,css,rfl,h1,h3⟩,by simp[Ue,h2,h4]⟩
theorem Models.put(h:Models C B S w0 n fr σ η φ a w) {t:Option Nat}(ht:Db t n=true) {d:Dat} {v:Value}(hd:RD B σ η φ w d v):Models C B S w0 n (Ca t d fr) σ η φ (a.put t v) w:=by
 obtain⟨cs,h1,h2⟩:=hd
 cases t with
 |none=>exact h
 |
  some t=>
  have:t<a.tmps.size:=by rw[h.size];simpa[Db,Nat.blt_eq]using ht
  exact⟨h.mem,h.fr.put this h1 h2,h.defers,by simp[Act.put,h.size]⟩
theorem RD.d {x:Da} {v:Value}(h:RD B σ η φ w (.d x) v):Rep (B++Ah φ σ) w x v:=h
theorem Ef {kd:Nat} {o:Oper} {K:Fr->Sg->Prop}(hk:kd≠5)(hk2:kd≠2)(h:∀(B S:List Nat) (w0:World) (η:Nat->Value) (φ:Nat->List Nat) (a:Act) (w:World),Models C B S w0 n fr σ η φ a w->
  (kd=0->AU a o=true)/\((∃v w',(execOp a.eval o).run C.P w=.ok (.value v) w'/\Gw C B S w0 n K (a.put o.dst v) w')\/(∃w',(execOp a.eval o).run C.P w=.ok .skip w'/\Gw C B S w0 n K (a.put o.dst Go.undef) w'))):AL C n kd o K fr σ:=by
 unfold AL
 intro B S w0 η φ a w hm
 obtain⟨h0,h1⟩:=h B S w0 η φ a w hm
 have hw:o.wp C.P a w (Gw C B S w0 n K) No:=by
  rcases h1 with⟨v,w',hr,hg⟩|⟨w',hr,hg⟩
  ·exact Oe hr hg
  ·exact Uj hr hg
 split
 ·exact⟨h0 rfl,hw⟩
 ·exact absurd rfl hk
 ·exact absurd rfl hk2
 ·exact hw
theorem V2 {K:Fr->Sg->Prop} {o:Oper}(h:Models C B S w0 n fr σ η φ a w)(ht:Db o.dst n=true) {d:Dat} {v:Value}(hd:RD B σ η φ w d v)(hK:K (Ca o.dst d fr) σ):Gw C B S w0 n K (a.put o.dst v) w:=
 ⟨_,σ,η,φ,h.put ht hd,hK⟩
end
end Go.Sx
namespace Go.Sx
open Go Go.RowKit Go.Reg
section
variable {C:Cx} {T:ED} {B S:List Nat} {w0 w:World} {n:Nat} {fr:Fr} {σ:Sg} {η:Nat->Value} {φ:Nat->List Nat} {a:Act} {v vx vy:Value} {no:Prop}
theorem RD.int {k:IntKind} {m:Int}(h:RD B σ η φ w (.d (.int k m)) v):v=.int k m:=by
 obtain⟨cs,h1,h2⟩:=h;simp only[Ay,RepC]at h1;subst h1;exact h2
theorem RD.bool {b:Bool}(h:RD B σ η φ w (.d (.bool b)) v):v=.bool b:=by
 obtain⟨cs,h1,h2⟩:=h;simp only[Ay,RepC]at h1;subst h1;exact h2
theorem RD.prop {p:Prop} {i:Decidable p}(h:RD B σ η φ w (.d (.prop p i)) v):v=.bool (decide p):=by
 obtain⟨cs,h1,h2⟩:=h;simp only[Ay,RepC]at h1;subst h1;exact h2
theorem RD.str {s:ByteArray}(h:RD B σ η φ w (.d (.str s)) v):v=.string s:=by
 obtain⟨cs,h1,h2⟩:=h;simp only[Ay,RepC]at h1;subst h1;exact h2
theorem RD.nilp(h:RD B σ η φ w (.d .nilp) v):v=.pointer none:=by
 obtain⟨cs,h1,h2⟩:=h;simp only[Ay,RepC]at h1;subst h1;exact h2
theorem RD.nils(h:RD B σ η φ w (.d .nils) v):v=.slice none 0 0:=by
 obtain⟨cs,h1,h2⟩:=h;simp only[Ay,RepC]at h1;subst h1;exact h2
theorem RD.nilm(h:RD B σ η φ w (.d .nilm) v):v=.map none:=by
 obtain⟨cs,h1,h2⟩:=h;simp only[Ay,RepC]at h1;subst h1;exact h2
theorem RD.nilf(h:RD B σ η φ w (.d .nilf) v):v=.nilFunc:=by
 obtain⟨cs,h1,h2⟩:=h;simp only[Ay,RepC]at h1;subst h1;exact h2
theorem RD.nili(h:RD B σ η φ w (.d .nili) v):v=.nilIface:=by
 obtain⟨cs,h1,h2⟩:=h;simp only[Ay,RepC]at h1;subst h1;exact h2
theorem CZ(k:IntKind)(m:Int):RD B σ η φ w (.d (.int k m)) (.int k m):=⟨[_],by simp[Ay,RepC],rfl⟩
theorem Ie(b:Bool):RD B σ η φ w (.d (.bool b)) (.bool b):=⟨[_],by simp[Ay,RepC],rfl⟩
theorem DJ(p:Prop)(i:Decidable p):RD B σ η φ w (.d (.prop p i)) (.bool (decide p)):=⟨[_],by simp[Ay,RepC],rfl⟩
theorem UM(s:ByteArray):RD B σ η φ w (.d (.str s)) (.string s):=⟨[_],by simp[Ay,RepC],rfl⟩
def QN(P:Program)(op:BinOp)(t:TypeId)(vx vy:Value)(w:World)(B:List Nat)(σ:Sg)(η:Nat->Value)(φ:Nat->List Nat)(K:Dat->Prop):Prop:=
 ∃d v,K d/\(binOp op t vx vy).run P w=.ok v w/\RD B σ η φ w d v
theorem Ou(s t:ByteArray):(s.toList==t.toList)=decide (s=t):=by
 by_cases h:s=t
 ·subst h;simp
 ·have:s.toList≠t.toList:=λe=>h (by
   rw[ByteArray.toList_eq,ByteArray.toList_eq]at e
   cases s;cases t;simp at e;simp[e])
  simp[h,this]
theorem U5 {P:Program} {op:BinOp} {t:TypeId} {k:IntKind} {x y:Int} {K:Dat->Prop}(h:U6 op k x y K no):no\/(QN P op t (.int k x) (.int k y) w B σ η φ K/\Vl op=true):=by
 unfold U6 at h
 split at h
 ·obtain⟨m,h1,h2⟩:=h;exact .inr ⟨⟨_,_,h2,by simp[binOp_add,Op.intArith,h1],CZ k m⟩,rfl⟩
 ·obtain⟨m,h1,h2⟩:=h;exact .inr ⟨⟨_,_,h2,by simp[binOp_sub,Op.intArith,h1],CZ k m⟩,rfl⟩
 ·obtain⟨m,h1,h2⟩:=h;exact .inr ⟨⟨_,_,h2,by simp[binOp_mul,Op.intArith,h1],CZ k m⟩,rfl⟩
 ·obtain⟨h0,m,h1,h2⟩:=h;exact .inr ⟨⟨_,_,h2,by simp[binOp_quo,Op.intDiv,h0,h1],CZ k m⟩,rfl⟩
 ·obtain⟨h0,h2⟩:=h;exact .inr ⟨⟨_,_,h2,by simp[binOp_rem,Op.intDiv,h0],CZ k _⟩,rfl⟩
 ·exact .inr ⟨⟨_,_,h,by simp only[binOp_eql,AH];rfl,DJ _ _⟩,rfl⟩
 ·exact .inr ⟨⟨_,_,h,by simp only[binOp_neq,AH];congr 2;by_cases e:x=y<;>simp[bne,e],DJ _ _⟩,rfl⟩
 ·exact .inr ⟨⟨_,_,h,by simp only[binOp_lss,AH],DJ _ _⟩,rfl⟩
 ·exact .inr ⟨⟨_,_,h,by simp only[binOp_leq,AH],DJ _ _⟩,rfl⟩
 ·exact .inr ⟨⟨_,_,h,by simp only[binOp_gtr,AH],DJ _ _⟩,rfl⟩
 ·exact .inr ⟨⟨_,_,h,by simp only[binOp_geq,AH],DJ _ _⟩,rfl⟩
 ·exact .inl h
theorem Uy {P:Program} {op:BinOp} {t:TypeId} {x y:ByteArray} {K:Dat->Prop}(h:Uz op x y K no):no\/QN P op t (.string x) (.string y) w B σ η φ K:=by
 unfold Uz at h
 split at h
 ·exact .inr ⟨_,_,h,by rw[binOp_string_eql,Ou];rfl,DJ _ _⟩
 ·exact .inr ⟨_,_,h,by rw[binOp_string_neq,Ou];simp only[AH];congr 2;simp,DJ _ _⟩
 ·obtain⟨h1,h2⟩:=h;exact .inr ⟨_,_,h2,by rw[binOp_string_add];exact run_string_add_sum _ _ _ h1,UM _⟩
 ·exact .inl h
theorem G0 {P:Program} {op:BinOp} {t:TypeId} {x y:Bool} {p q:Prop} {ip:Decidable p} {iq:Decidable q}(hp:x=decide p)(hq:y=decide q)(ht:P.underlying t=some .bool) {K:Dat->Prop}(h:HX op p q K no):no\/(QN P op t (.bool x) (.bool y) w B σ η φ K/\Iy op=true):=by
 subst hp;subst hq
 unfold HX at h
 split at h
 ·refine .inr ⟨⟨_,_,h,?_,DJ _ _⟩,rfl⟩
  simp only[binOp,Ar,run_equal_bool w t _ _ ht,Ap,AH]
  congr 2
  by_cases h1:p<;>by_cases h2:q<;>simp[h1,h2]
 ·refine .inr ⟨⟨_,_,h,?_,DJ _ _⟩,rfl⟩
  simp only[binOp,Ar,run_equal_bool w t _ _ ht,Ap,AH]
  congr 2
  by_cases h1:p<;>by_cases h2:q<;>simp[h1,h2]
 ·exact .inl h
theorem TyOk.kd_desc {P:Program} {t:TypeId} {e:TyI}(h:TyOk P t e):∃d,P.underlying t=some d/\e.kd=(match d with|.pointer _=>1|.slice _=>2|.map _ _=>3|.func _ _ _=>4|.interface _=>5|.struct _=>6|.string=>7|.int _=>8|.bool=>9|_=>0):=by
 obtain⟨d,h1,_,_,_,_,_,_,h2⟩:=h.desc
 exact⟨d,h1,h2⟩
theorem TyOk.bool_desc {P:Program} {t:TypeId} {e:TyI}(h:TyOk P t e)(hk:e.kd=9):P.underlying t=some .bool:=by
 obtain⟨d,h1,h2⟩:=h.kd_desc
 rw[hk]at h2
 cases d<;>first|exact h1|(simp at h2;done)
def CW:Nat->Value->Prop
 |1,v=>v=.pointer none
 |2,v=>v=.slice none 0 0
 |3,v=>v=.map none
 |4,v=>v=.nilFunc
 |5,v=>v=.nilIface
 |_,_=>False
def Df:Nat->Value->Prop
 |1,v=>∃a,v=.pointer (some a)
 |2,v=>∃a l c,v=.slice (some a) l c
 |3,v=>∃a,v=.map (some a)
 |4,v=>∃f p q,v=.func f p q
 |5,v=>∃t u,v=.iface t u
 |_,_=>False
theorem KB {kd:Nat} {y:Dat}(h:Mq kd y=true)(hy:RD B σ η φ w y vy):CW kd vy:=by
 unfold Mq at h
 split at h
 ·exact hy.nilp
 ·exact hy.nils
 ·exact hy.nilm
 ·exact hy.nilf
 ·exact hy.nili
 ·cases h
theorem Cr(hm:Mem C B S w0 σ η φ w) {i:Nat} {t:TypeId} {ds:List Dat}(h:BO i σ=some (.cells t ds)):∃b cs,η i=.pointer (some ⟨b,0,none⟩)/\φ i=[b]/\F3 w b t cs/\AI η (Ba σ) (B++Ah φ σ) w ds cs:=by
 obtain⟨b,cs,h1,h2,h3,h4⟩:=hm.own _ (B8 h)
 exact⟨b,cs,h1,h2,h3,h4⟩
theorem Bn(hm:Mem C B S w0 σ η φ w) {i:Nat} {E k:Nat} {ds:List Da}(h:BO i σ=some (.slice E k ds)):∃css,Sl E k id w (η i) css/\φ i=(η i).ownBlock.toList/\Ai (B++Ah φ σ) w ds css/\(∀x∈css,DQ k x):=by
 obtain⟨css,h1,h2,h3,h4⟩:=hm.own _ (B8 h)
 exact⟨css,h1,h2,h3,h4⟩
theorem Cc {O:List Nat} {w:World}:∀{ds:List Da} {css:List (List Value)},Ai O w ds css->css.length=ds.length
 |[],css,h=>by simp only[Ai]at h;subst h;rfl
 |
  d::ds,css,h=>by
  simp only[Ai]at h
  obtain⟨c1,c2,rfl,_,h3⟩:=h
  simp[Cc h3]
theorem PY(hm:Mem C B S w0 σ η φ w) {kd:Nat} {x:Dat} {b:Bool}(h:Vn kd x σ=some b)(hx:RD B σ η φ w x vx):(b=true/\CW kd vx)\/(b=false/\Df kd vx):=by
 unfold Vn at h
 split at h
 ·split at h
  ·simp at h;exact .inl ⟨h,hx.nilp⟩
  ·simp at h
   obtain⟨cs,h1,h2⟩:=hx
   simp only[Ay,RepC]at h1
   obtain⟨bb,o,c,rfl,_⟩:=h1
   exact .inr ⟨h,_,h2⟩
  ·simp at h
   obtain⟨cs,h1,h2⟩:=hx
   simp only[Ay]at h1
   obtain⟨_,bb,_,rfl⟩:=h1
   exact .inr ⟨h,_,h2⟩
  ·simp at h
   obtain⟨cs,h1,h2⟩:=hx
   simp only[Ay]at h1
   obtain⟨_,bb,l,c,_,rfl⟩:=h1
   exact .inr ⟨h,_,h2⟩
  ·split at h
   ·rename_i hg
    simp at h
    obtain⟨bb,cs,h1,_⟩:=Cr hm hg
    obtain⟨cs',h3,h4⟩:=hx
    simp only[Ay]at h3
    obtain⟨_,rfl⟩:=h3
    refine .inr ⟨h,_,h4.trans h1⟩
   ·cases h
  ·cases h
 ·split at h
  ·simp at h;exact .inl ⟨h,hx.nils⟩
  ·simp at h
   obtain⟨cs,h1,h2⟩:=hx
   simp only[Ay,RepC]at h1
   obtain⟨aa,c,css,rfl,_,_,_,_,h6⟩:=h1
   rcases h6 with h6|⟨b,o,rfl,_⟩
   ·cases h6
   ·exact .inr ⟨h,_,_,_,h2⟩
  ·split at h
   ·rename_i hg
    simp at h
    obtain⟨css,hs,_,hr,_⟩:=Bn hm hg
    obtain⟨cs',h3,h4⟩:=hx
    simp only[Ay]at h3
    obtain⟨_,rfl⟩:=h3
    have hl:=Cc hr
    rcases hs.shape with⟨_,he⟩|⟨g,cap,he,_⟩
    ·rw[he]at hl;simp at hl
    ·exact .inr ⟨h,_,_,_,h4.trans he⟩
   ·cases h
  ·cases h
 ·split at h
  ·simp at h;exact .inl ⟨h,hx.nilm⟩
  ·cases h
 ·split at h
  ·simp at h;exact .inl ⟨h,hx.nilf⟩
  ·simp at h
   obtain⟨cs,h1,h2⟩:=hx
   simp only[Ay,RepC]at h1
   obtain⟨fs,c,_,_,rfl⟩:=h1
   exact .inr ⟨h,_,_,_,h2⟩
  ·simp at h
   obtain⟨cs,h1,h2⟩:=hx
   simp only[Ay]at h1
   obtain⟨fs,c,_,_,rfl⟩:=h1
   exact .inr ⟨h,_,_,_,h2⟩
  ·cases h
 ·split at h
  ·simp at h;exact .inl ⟨h,hx.nili⟩
  ·simp at h
   obtain⟨cs,h1,h2⟩:=hx
   simp only[Ay,RepC]at h1
   obtain⟨c,_,rfl⟩:=h1
   exact .inr ⟨h,_,_,h2⟩
  ·simp at h
   obtain⟨cs,h1,h2⟩:=hx
   simp only[Ay]at h1
   obtain⟨c,_,rfl⟩:=h1
   exact .inr ⟨h,_,_,h2⟩
  ·cases h
 ·cases h
theorem NU {P:Program} {t:TypeId} {e:TyI}(ht:TyOk P t e) {b:Bool}(hx:(b=true/\CW e.kd vx)\/(b=false/\Df e.kd vx))(hy:CW e.kd vy):(Op.equal t vx vy).run P w=.ok b w:=by
 obtain⟨d,h1,h2⟩:=ht.kd_desc
 unfold Op.equal
 rw[show Op.maxDepth=9999+1 from rfl,Op.equalIn]
 simp only[Ar,run_underlying h1,Ap]
 rcases hx with⟨rfl,hx⟩|⟨rfl,hx⟩
 ·cases d<;>simp only at h2<;>rw[h2]at hx hy<;>simp only[CW]at hx hy<;>subst hx<;>subst hy<;>rfl
 ·cases d<;>simp only at h2<;>rw[h2]at hx hy<;>simp only[CW,Df]at hx hy<;>subst hy<;>(first|(obtain⟨_,rfl⟩:=hx;rfl)|(obtain⟨_,_,rfl⟩:=hx;rfl)|(obtain⟨_,_,_,rfl⟩:=hx;rfl))
theorem U1(hm:Mem C B S w0 σ η φ w) {t:TypeId} {e:TyI}(ht:TyOk C.P t e) {op:BinOp} {x y:Dat}(hx:RD B σ η φ w x vx)(hy:RD B σ η φ w y vy) {K:Dat->Prop}(h:U2 e.kd op x y σ K no):
  no\/(QN C.P op t vx vy w B σ η φ K/\Iy op=true/\(CW e.kd vx\/Df e.kd vx)/\CW e.kd vy):=by
 unfold U2 at h
 split at h
 ·rename_i h1 h2
  have g1:=KB h1 hy
  have g2:=PY hm h2 hx
  have g3:=NU (w:=w) ht g2 g1
  refine .inr ⟨⟨_,_,h,?_,Ie _⟩,rfl,g2.elim (λh=>.inl h.2) (λh=>.inr h.2),g1⟩
  have:binOp .eql t vx vy=(do pure (.bool (<-Op.equal t vx vy))):=by
   generalize e.kd=kd at g1 g2
   match kd,g1 with
   |1,h=>simp only[CW]at h;subst h;rcases g2 with⟨_,g⟩|⟨_,g⟩<;>simp only[CW,Df]at g<;>(first|subst g|(obtain⟨_,rfl⟩:=g))<;>rfl
   |2,h=>simp only[CW]at h;subst h;rcases g2 with⟨_,g⟩|⟨_,g⟩<;>simp only[CW,Df]at g<;>(first|subst g|(obtain⟨_,_,_,rfl⟩:=g))<;>rfl
   |3,h=>simp only[CW]at h;subst h;rcases g2 with⟨_,g⟩|⟨_,g⟩<;>simp only[CW,Df]at g<;>(first|subst g|(obtain⟨_,rfl⟩:=g))<;>rfl
   |4,h=>simp only[CW]at h;subst h;rcases g2 with⟨_,g⟩|⟨_,g⟩<;>simp only[CW,Df]at g<;>(first|subst g|(obtain⟨_,_,_,rfl⟩:=g))<;>rfl
   |5,h=>simp only[CW]at h;subst h;rcases g2 with⟨_,g⟩|⟨_,g⟩<;>simp only[CW,Df]at g<;>(first|subst g|(obtain⟨_,_,rfl⟩:=g))<;>rfl
  rw[this]
  simp[g3]
 ·rename_i h1 h2
  have g1:=KB h1 hy
  have g2:=PY hm h2 hx
  have g3:=NU (w:=w) ht g2 g1
  refine .inr ⟨⟨_,_,h,?_,Ie _⟩,rfl,g2.elim (λh=>.inl h.2) (λh=>.inr h.2),g1⟩
  have:binOp .neq t vx vy=(do pure (.bool (!(<-Op.equal t vx vy)))):=by
   generalize e.kd=kd at g1 g2
   match kd,g1 with
   |1,h=>simp only[CW]at h;subst h;rcases g2 with⟨_,g⟩|⟨_,g⟩<;>simp only[CW,Df]at g<;>(first|subst g|(obtain⟨_,rfl⟩:=g))<;>rfl
   |2,h=>simp only[CW]at h;subst h;rcases g2 with⟨_,g⟩|⟨_,g⟩<;>simp only[CW,Df]at g<;>(first|subst g|(obtain⟨_,_,_,rfl⟩:=g))<;>rfl
   |3,h=>simp only[CW]at h;subst h;rcases g2 with⟨_,g⟩|⟨_,g⟩<;>simp only[CW,Df]at g<;>(first|subst g|(obtain⟨_,rfl⟩:=g))<;>rfl
   |4,h=>simp only[CW]at h;subst h;rcases g2 with⟨_,g⟩|⟨_,g⟩<;>simp only[CW,Df]at g<;>(first|subst g|(obtain⟨_,_,_,rfl⟩:=g))<;>rfl
   |5,h=>simp only[CW]at h;subst h;rcases g2 with⟨_,g⟩|⟨_,g⟩<;>simp only[CW,Df]at g<;>(first|subst g|(obtain⟨_,_,rfl⟩:=g))<;>rfl
  rw[this]
  simp[g3]
 ·exact .inl h
theorem AP {t:TypeId} {K:TyI->Prop}(h:BX T t no K):no\/∃e,EV t T=some e/\K e:=by
 unfold BX at h
 split at h
 ·rename_i e he;exact .inr ⟨e,he,h⟩
 ·exact .inl h
theorem AF {α:Type} {o:Option α} {K:α->Prop}(h:Ci o no K):no\/∃x,o=some x/\K x:=by
 unfold Ci at h
 split at h
 ·rename_i x;exact .inr ⟨x,rfl,h⟩
 ·exact .inl h
theorem AG {b:Bool} {K:Prop}(h:Cj b no K):no\/(b=true/\K):=by
 cases b
 ·exact .inl h
 ·exact .inr ⟨rfl,h⟩
theorem RE {P:Program} {op:BinOp} {t:TypeId} {x y:Operand} {kd:Nat}(hx:CW kd vx\/Df kd vx)(hy:CW kd vy)(hc:kd=5->y=.const .nilIface):(eqGuard op t x y vx vy).run P w=.ok () w:=by
 match kd,hy with
 |1,h=>simp only[CW,Df]at h hx;subst h;rcases hx with rfl|⟨_,rfl⟩<;>simp[eqGuard]
 |2,h=>simp only[CW,Df]at h hx;subst h;rcases hx with rfl|⟨_,_,_,rfl⟩<;>simp[eqGuard]
 |3,h=>simp only[CW,Df]at h hx;subst h;rcases hx with rfl|⟨_,rfl⟩<;>simp[eqGuard]
 |4,h=>simp only[CW,Df]at h hx;subst h;rcases hx with rfl|⟨_,_,_,rfl⟩<;>simp[eqGuard]
 |5,h=>simp only[CW,Df]at h hx;subst h;rw[hc rfl];rcases hx with rfl|⟨_,_,rfl⟩<;>simp[eqGuard]
theorem Tt {op:BinOp} {kd:Nat} {y:Operand}(ho:Iy op=true)(hx:CW kd vx\/Df kd vx)(hy:CW kd vy)(hc:kd=5->y=.const .nilIface):(Dk op vx vy||GH op vx y)=true:=by
 match kd,hy with
 |1,h=>simp only[CW,Df]at h hx;subst h;rcases hx with rfl|⟨_,rfl⟩<;>simp[Dk,ho]
 |2,h=>simp only[CW,Df]at h hx;subst h;rcases hx with rfl|⟨_,_,_,rfl⟩<;>simp[Dk,ho]
 |3,h=>simp only[CW,Df]at h hx;subst h;rcases hx with rfl|⟨_,rfl⟩<;>simp[Dk,ho]
 |4,h=>simp only[CW,Df]at h hx;subst h;rcases hx with rfl|⟨_,_,_,rfl⟩<;>simp[Dk,ho]
 |5,h=>simp only[CW,Df]at h hx;subst h;rw[hc rfl];rcases hx with rfl|⟨_,_,rfl⟩<;>simp[Dk,GH,ho]
theorem U7(hC:C.Ok T)(hm:Mem C B S w0 σ η φ w) {op:BinOp} {t:TypeId} {x y:Dat} {yo xo:Operand}(hx:RD B σ η φ w x vx)(hy:RD B σ η φ w y vy) {K:Dat->Prop}(h:U8 T t op (OP yo) x y σ K no):
  no\/(∃d v,K d/\(do eqGuard op t xo yo vx vy;binOp op t vx vy).run C.P w=.ok v w/\RD B σ η φ w d v)/\(Dk op vx vy||GH op vx yo)=true:=by
 have fin:∀{vx vy},QN C.P op t vx vy w B σ η φ K->(eqGuard op t xo yo vx vy).run C.P w=.ok () w->(Dk op vx vy||GH op vx yo)=true->no\/(∃d v,K d/\(do eqGuard op t xo yo vx vy;binOp op t vx vy).run C.P w=.ok v w/\RD B σ η φ w d v)/\(Dk op vx vy||GH op vx yo)=true:=by
  rintro vx vy ⟨d,v,h1,h2,h3⟩ hg hp
  exact .inr ⟨⟨d,v,h1,by rw[Ar,hg];exact h2,h3⟩,hp⟩
 have hb:∀b:Bool,b=decide (b=true):=by simp
 unfold U8 at h
 split at h
 ·rcases AG h with h|⟨hk,h1⟩
  ·exact .inl h
  ·simp at hk;subst hk
   rw[hx.int,hy.int]
   rcases U5 (w:=w) (B:=B) (σ:=σ) (η:=η) (φ:=φ) (P:=C.P) (t:=t) h1 with h|⟨h,h2⟩
   ·exact .inl h
   ·exact fin h (by rw[eqGuard_at_int];rfl) (by simp[Dk])
 ·rw[hx.str,hy.str]
  rcases Uy (w:=w) (B:=B) (σ:=σ) (η:=η) (φ:=φ) (P:=C.P) (t:=t) h with h|h
  ·exact .inl h
  ·exact fin h (by rw[eqGuard_at_string];rfl) (by simp[Dk])
 ·rcases AP h with h|⟨e,he,h⟩
  ·exact .inl h
  rcases AG h with h|⟨hk,h⟩
  ·exact .inl h
  rw[hx.bool,hy.bool]
  rcases G0 (w:=w) (B:=B) (σ:=σ) (η:=η) (φ:=φ) (P:=C.P) (t:=t) (hb _) (hb _) ((hC.ty he).bool_desc (Ag hk)) h with h|⟨h,h2⟩
  ·exact .inl h
  ·exact fin h (by rw[eqGuard_at_bool];rfl) (by simp[Dk,h2])
 ·rcases AP h with h|⟨e,he,h⟩
  ·exact .inl h
  rcases AG h with h|⟨hk,h⟩
  ·exact .inl h
  rw[hx.bool,hy.prop]
  rcases G0 (w:=w) (B:=B) (σ:=σ) (η:=η) (φ:=φ) (P:=C.P) (t:=t) (hb _) rfl ((hC.ty he).bool_desc (Ag hk)) h with h|⟨h,h2⟩
  ·exact .inl h
  ·exact fin h (by rw[eqGuard_at_bool];rfl) (by simp[Dk,h2])
 ·rcases AP h with h|⟨e,he,h⟩
  ·exact .inl h
  rcases AG h with h|⟨hk,h⟩
  ·exact .inl h
  rw[hx.prop,hy.bool]
  rcases G0 (w:=w) (B:=B) (σ:=σ) (η:=η) (φ:=φ) (P:=C.P) (t:=t) rfl (hb _) ((hC.ty he).bool_desc (Ag hk)) h with h|⟨h,h2⟩
  ·exact .inl h
  ·exact fin h (by rw[eqGuard_at_bool];rfl) (by simp[Dk,h2])
 ·rcases AP h with h|⟨e,he,h⟩
  ·exact .inl h
  rcases AG h with h|⟨hk,h⟩
  ·exact .inl h
  rw[hx.prop,hy.prop]
  rcases G0 (w:=w) (B:=B) (σ:=σ) (η:=η) (φ:=φ) (P:=C.P) (t:=t) rfl rfl ((hC.ty he).bool_desc (Ag hk)) h with h|⟨h,h2⟩
  ·exact .inl h
  ·exact fin h (by rw[eqGuard_at_bool];rfl) (by simp[Dk,h2])
 ·rcases AP h with h|⟨e,he,h⟩
  ·exact .inl h
  rcases AG h with h|⟨hk,h⟩
  ·exact .inl h
  have hc:e.kd=5->yo=.const .nilIface:=λh5=>by
   rw[h5]at hk
   have:OP yo=true:=by simpa using hk
   unfold OP at this
   split at this
   ·rfl
   ·cases this
  rcases U1 hm (hC.ty he) hx hy h with h|⟨h,h2,h3,h4⟩
  ·exact .inl h
  ·exact fin h (RE h3 h4 hc) (Tt h2 h3 h4 hc)
theorem Wt {P:Program} {op:UnOp} {x:Dat}(hx:RD B σ η φ w x vx) {K:Dat->Prop}(h:XV op x K no):no\/∃d v,K d/\(Op.unary op vx).run P w=.ok v w/\RD B σ η φ w d v:=by
 unfold XV at h
 split at h
 ·rw[hx.bool];exact .inr ⟨_,_,h,rfl,Ie _⟩
 ·rw[hx.prop];exact .inr ⟨_,_,h,by simp[Op.unary],DJ _ _⟩
 ·rw[hx.int];obtain⟨m,h1,h2⟩:=h;exact .inr ⟨_,_,h2,by simp[Op.unary,Op.intArith,h1],CZ _ _⟩
 ·exact .inl h
end
end Go.Sx
namespace Go.Sx
open Go Go.RowKit Go.Reg
mutual
theorem DU {O:List Nat} {w:World}:∀(d:Da) (cs:List Value),RepC O w d cs->cs.length=d.size
 |.agg ds,cs,h=>by simp only[RepC]at h;simp only[Da.size];exact N5 ds cs h
 |.undef,cs,h=>by simp only[RepC]at h;obtain⟨v,rfl⟩:=h;rfl
 |.int _ _,cs,h=>by simp only[RepC]at h;subst h;rfl
 |.bool _,cs,h=>by simp only[RepC]at h;subst h;rfl
 |.prop _ _,cs,h=>by simp only[RepC]at h;subst h;rfl
 |.str _,cs,h=>by simp only[RepC]at h;subst h;rfl
 |.tuple _,cs,h=>by simp only[RepC]at h;obtain⟨_,_,rfl⟩:=h;rfl
 |.nilp,cs,h=>by simp only[RepC]at h;subst h;rfl
 |.nils,cs,h=>by simp only[RepC]at h;subst h;rfl
 |.nilm,cs,h=>by simp only[RepC]at h;subst h;rfl
 |.nilf,cs,h=>by simp only[RepC]at h;subst h;rfl
 |.nili,cs,h=>by simp only[RepC]at h;subst h;rfl
 |.iface _ _,cs,h=>by simp only[RepC]at h;obtain⟨_,_,rfl⟩:=h;rfl
 |.ref _,cs,h=>by simp only[RepC]at h;obtain⟨_,_,_,rfl,_⟩:=h;rfl
 |.list _ _,cs,h=>by simp only[RepC]at h;obtain⟨_,_,_,rfl,_⟩:=h;rfl
 |.func _ _ _,cs,h=>by simp only[RepC]at h;obtain⟨_,_,_,_,rfl⟩:=h;rfl
 |.raw _,cs,h=>by simp only[RepC]at h;subst h;rfl
theorem N5 {O:List Nat} {w:World}:∀(ds:List Da) (cs:List Value),RepCs O w ds cs->cs.length=Sa ds
 |[],cs,h=>by simp only[RepCs]at h;subst h;rfl
 |
  d::ds,cs,h=>by
  simp only[RepCs]at h
  obtain⟨c1,c2,rfl,h1,h2⟩:=h
  simp only[Ao,Sa,DU d c1 h1,N5 ds c2 h2]
end
mutual
theorem CQ {η:Nat->Value} {I O:List Nat} {w:World}:∀(d:Dat) (cs:List Value),Ay η I O w d cs->cs.length=d.size
 |.d x,cs,h=>DU x cs h
 |.agg ds,cs,h=>by simp only[Ay]at h;simp only[Dat.size];exact FZ ds cs h
 |.own _,cs,h=>by simp only[Ay]at h;obtain⟨_,rfl⟩:=h;rfl
 |.at_ _ _,cs,h=>by simp only[Ay]at h;obtain⟨_,_,_,rfl⟩:=h;rfl
 |.el _ _ _ _,cs,h=>by simp only[Ay]at h;obtain⟨_,_,_,_,_,rfl⟩:=h;rfl
 |.tuple _,cs,h=>by simp only[Ay]at h;obtain⟨_,_,rfl⟩:=h;rfl
 |.iface _ _,cs,h=>by simp only[Ay]at h;obtain⟨_,_,rfl⟩:=h;rfl
 |.func _ _ _,cs,h=>by simp only[Ay]at h;obtain⟨_,_,_,_,rfl⟩:=h;rfl
theorem FZ {η:Nat->Value} {I O:List Nat} {w:World}:∀(ds:List Dat) (cs:List Value),AI η I O w ds cs->cs.length=IA ds
 |[],cs,h=>by simp only[AI]at h;subst h;rfl
 |
  d::ds,cs,h=>by
  simp only[AI]at h
  obtain⟨c1,c2,rfl,h1,h2⟩:=h
  simp only[Ao,IA,CQ d c1 h1,FZ ds c2 h2]
end
mutual
theorem Jm {O:List Nat} {w:World}:∀(d:Da) (cs:List Value),d.stor=true->RepC O w d cs->∀v∈cs,v.oneCell'=true
 |.agg ds,cs,hs,h=>by simp only[RepC]at h;simp only[Da.stor]at hs;exact N4 ds cs hs h
 |.undef,cs,hs,h=>by cases hs
 |.int _ _,cs,hs,h=>by simp only[RepC]at h;subst h;simp[Value.oneCell']
 |.bool _,cs,hs,h=>by simp only[RepC]at h;subst h;simp[Value.oneCell']
 |.prop _ _,cs,hs,h=>by simp only[RepC]at h;subst h;simp[Value.oneCell']
 |.str _,cs,hs,h=>by simp only[RepC]at h;subst h;simp[Value.oneCell']
 |.tuple _,cs,hs,h=>by cases hs
 |.nilp,cs,hs,h=>by simp only[RepC]at h;subst h;simp[Value.oneCell']
 |.nils,cs,hs,h=>by simp only[RepC]at h;subst h;simp[Value.oneCell']
 |.nilm,cs,hs,h=>by simp only[RepC]at h;subst h;simp[Value.oneCell']
 |.nilf,cs,hs,h=>by simp only[RepC]at h;subst h;simp[Value.oneCell']
 |.nili,cs,hs,h=>by simp only[RepC]at h;subst h;simp[Value.oneCell']
 |.iface _ _,cs,hs,h=>by simp only[RepC]at h;obtain⟨_,_,rfl⟩:=h;simp[Value.oneCell']
 |.ref _,cs,hs,h=>by simp only[RepC]at h;obtain⟨_,_,_,rfl,_⟩:=h;simp[Value.oneCell']
 |.list _ _,cs,hs,h=>by simp only[RepC]at h;obtain⟨_,_,_,rfl,_⟩:=h;simp[Value.oneCell']
 |.func _ _ _,cs,hs,h=>by simp only[RepC]at h;obtain⟨_,_,_,_,rfl⟩:=h;simp[Value.oneCell']
 |.raw _,cs,hs,h=>by cases hs
theorem N4 {O:List Nat} {w:World}:∀(ds:List Da) (cs:List Value),RX ds=true->RepCs O w ds cs->∀v∈cs,v.oneCell'=true
 |[],cs,hs,h=>by simp only[RepCs]at h;subst h;simp
 |
  d::ds,cs,hs,h=>by
  simp only[RepCs]at h
  obtain⟨c1,c2,rfl,h1,h2⟩:=h
  simp only[RX,Aj]at hs
  intro v hv
  rcases Af.1 hv with hv|hv
  ·exact Jm d c1 hs.1 h1 v hv
  ·exact N4 ds c2 hs.2 h2 v hv
end
def VW(η:Nat->Value)(I:List Nat):Prop:=∀i∈I,(η i).oneCell'=true
mutual
theorem Jk {η:Nat->Value} {I O:List Nat} {w:World}(hη:VW η I):∀(d:Dat) (cs:List Value),d.stor=true->Ay η I O w d cs->∀v∈cs,v.oneCell'=true
 |.d x,cs,hs,h=>Jm x cs hs h
 |.agg ds,cs,hs,h=>by simp only[Ay]at h;simp only[Dat.stor]at hs;exact N3 hη ds cs hs h
 |.own i,cs,hs,h=>by simp only[Ay]at h;obtain⟨h1,rfl⟩:=h;simpa using hη i h1
 |.at_ _ _,cs,hs,h=>by simp only[Ay]at h;obtain⟨_,_,_,rfl⟩:=h;simp[Value.oneCell']
 |.el _ _ _ _,cs,hs,h=>by simp only[Ay]at h;obtain⟨_,_,_,_,_,rfl⟩:=h;simp[Value.oneCell']
 |.tuple _,cs,hs,h=>by cases hs
 |.iface _ _,cs,hs,h=>by simp only[Ay]at h;obtain⟨_,_,rfl⟩:=h;simp[Value.oneCell']
 |.func _ _ _,cs,hs,h=>by simp only[Ay]at h;obtain⟨_,_,_,_,rfl⟩:=h;simp[Value.oneCell']
theorem N3 {η:Nat->Value} {I O:List Nat} {w:World}(hη:VW η I):∀(ds:List Dat) (cs:List Value),Ov ds=true->AI η I O w ds cs->∀v∈cs,v.oneCell'=true
 |[],cs,hs,h=>by simp only[AI]at h;subst h;simp
 |
  d::ds,cs,hs,h=>by
  simp only[AI]at h
  obtain⟨c1,c2,rfl,h1,h2⟩:=h
  simp only[Ov,Aj]at hs
  intro v hv
  rcases Af.1 hv with hv|hv
  ·exact Jk hη d c1 hs.1 h1 v hv
  ·exact N3 hη ds c2 hs.2 h2 v hv
end
theorem Td {O:List Nat} {w:World} {d:Da} {cs:List Value}(h:RepC O w d cs)(hs:d.stor=true):(EB d cs).cells.toList=cs/\(d.isAgg=false->cs=[EB d cs]):=by
 have hl:=DU d cs h
 have ho:=Jm d cs hs h
 cases d with
 |agg ds=>exact⟨by simp[EB,Value.cells],λh=>by cases h⟩
 |
  _=>
  all_goals
   simp only[Da.size]at hl
   obtain⟨v,rfl⟩:=DG.1 hl
   have:=ho v (by simp)
   refine⟨?_,λ_=>rfl⟩
   simp only[EB,MV]
   cases v<;>simp[Value.oneCell']at this<;>rfl
theorem Gy {η:Nat->Value} {I O:List Nat} {w:World} {d:Dat} {cs:List Value}(hη:VW η I)(h:Ay η I O w d cs)(hs:d.stor=true):(Bo d cs).cells.toList=cs/\(d.isAgg=false->cs=[Bo d cs]):=by
 have hl:=CQ d cs h
 have ho:=Jk hη d cs hs h
 cases d with
 |d x=>exact Td h hs
 |agg ds=>exact⟨by simp[Bo,Value.cells],λh=>by cases h⟩
 |
  _=>
  all_goals
   simp only[Dat.size]at hl
   obtain⟨v,rfl⟩:=DG.1 hl
   have:=ho v (by simp)
   refine⟨?_,λ_=>rfl⟩
   simp only[Bo,MV]
   cases v<;>simp[Value.oneCell']at this<;>rfl
theorem Fo {P:Program} {t:TypeId} {e:TyI}(h:TyOk P t e) {w:World} {b o:Nat} {cs:List Value}(hc:Ds w b o cs)(hl:cs.length=e.size)(hs:e.agg=false->e.size=1):
  (loadVar t ⟨b,o,none⟩).run P w=.ok (if e.agg then .agg cs.toArray else cs.headD undef) w:=by
 unfold loadVar
 simp only[Ar,h.isAgg,Ap]
 cases ha:e.agg
 ·have h1:=hs ha
  rw[h1]at hl
  obtain⟨v,rfl⟩:=DG.1 hl
  have h2:w.cell? ⟨b,o,none⟩=some v:=hc 0 v rfl
  simp[h2]
 ·have:=run_loadCells_list (P:=P) w ⟨b,o,none⟩ cs (λj v hj=>by
   have:=hc j v hj
   by_cases hj0:j=0
   ·subst hj0;exact this
   ·simpa[Addr.add,hj0]using this)
  rw[hl]at this
  simp only[if_true,Ar,h.sizeOf,Ap,this,AH]
theorem GN {d:Dat} {e:TyI}(h:d.fits e=true):d.isAgg=e.agg/\d.size=e.size:=by
 simp only[Dat.fits,Aj,beq_iff_eq]at h
 exact⟨h.1,Ag h.2⟩
theorem UE {d:Da}(h:d.isAgg=false):d.size=1:=by
 cases d<;>first|rfl|cases h
theorem JC {d:Dat}(h:d.isAgg=false):d.size=1:=by
 cases d with
 |d x=>exact UE h
 |agg ds=>cases h
 |_=>rfl
theorem Fa {d:Dat} {cs:List Value}:Bo d cs=if d.isAgg then .agg cs.toArray else cs.headD undef:=by
 cases d with
 |d x=>cases x<;>rfl
 |_=>rfl
theorem EE {η:Nat->Value} {I O:List Nat} {w:World}:∀{xs:List Da} {cs:List Value},AI η I O w (Cf xs) cs↔RepCs O w xs cs
 |[],cs=>by simp[Cf,AI,RepCs]
 |x::xs,cs=>by simp only[Cf,AI,RepCs,Ay,EE (xs:=xs)]
theorem Gc {η:Nat->Value} {I O:List Nat} {w:World} {d:Dat} {es:List Dat} {cs:List Value}(h:d.parts=some es)(hd:Ay η I O w d cs):AI η I O w es cs/\d.isAgg=true:=by
 unfold Dat.parts at h
 split at h
 ·simp at h;subst h;exact⟨EE.2 (by simpa only[Ay,RepC]using hd),rfl⟩
 ·simp at h;subst h;exact⟨by simpa only[Ay]using hd,rfl⟩
 ·cases h
theorem Gi {η:Nat->Value} {I O:List Nat} {w:World} {e:TyI}:∀(f:Nat) (ds:List Dat) (o:Nat) {d:Dat} {cs:List Value},GI e f ds o=some d->AI η I O w ds cs->d.fits e=true/\∃c,Ay η I O w d c/\∀(j:Nat) (u:Value),c[j]? =some u->cs[o+j]? =some u
 |0,_,_,_,_,h,_=>by simp[GI]at h
 |f+1,[],_,_,_,h,_=>by simp[GI]at h
 |
  f+1,d::ds,o,x,cs,h,hr=>by
  simp only[AI]at hr
  obtain⟨c1,c2,rfl,h1,h2⟩:=hr
  have hl:=CQ d c1 h1
  simp only[GI]at h
  split at h
  ·rename_i hb
   have hlt:¬o<d.size:=by
    intro hh;rw[(by simpa[Nat.blt_eq]using hh:Nat.blt o d.size=true)]at hb;cases hb
   obtain⟨g1,c,g2,g3⟩:=Gi f ds _ h h2
   refine⟨g1,c,g2,λj u hj=>?_⟩
   rw[Cm (by omega),hl]
   have:=g3 j u hj
   rwa [show o+j-d.size=o-d.size+j by omega]
  ·split at h
   ·rename_i hb2
    simp only[Aj]at hb2
    have h0:=Ag hb2.1
    simp at h;subst h;subst h0
    exact⟨hb2.2,c1,h1,λj u hj=>by rw[BN (by have:=(Ak.1 hj).1;omega),DE];exact hj⟩
   ·split at h
    ·rename_i es hp
     obtain⟨g1,c,g2,g3⟩:=Gi f es o h (Gc hp h1).1
     refine⟨g1,c,g2,λj u hj=>?_⟩
     have:=g3 j u hj
     rw[BN (Ak.1 this).1]
     exact this
    ·cases h
def splice(cs:List Value)(o:Nat)(x:List Value):List Value:=cs.take o++x++cs.drop (o+x.length)
theorem Hi {c1 c2 x:List Value} {o:Nat}(h:o+x.length<=c1.length):splice (c1++c2) o x=splice c1 o x++c2:=by
 unfold splice
 rw[List.take_append_of_le_length (by omega),List.drop_append_of_le_length h]
 simp
theorem Di {c1 c2 x:List Value} {o:Nat}(h:c1.length<=o):splice (c1++c2) o x=c1++splice c2 (o-c1.length) x:=by
 unfold splice
 rw[List.take_append,List.drop_append,AN (by omega),B7 (by omega:c1.length<=o+x.length),show o+x.length-c1.length=o-c1.length+x.length by omega]
 simp
theorem Ho {η:Nat->Value} {I O:List Nat} {w:World} {x:Dat} {cx:List Value}(hx:Ay η I O w x cx):∀(f:Nat) (ds:List Dat) (o:Nat) {ds':List Dat} {cs:List Value},Jn x f ds o=some ds'->AI η I O w ds cs->AI η I O w ds' (splice cs o cx)/\o+cx.length<=cs.length
 |0,_,_,_,_,h,_=>by simp[Jn]at h
 |f+1,[],_,_,_,h,_=>by simp[Jn]at h
 |
  f+1,d::ds,o,ds',cs,h,hr=>by
  simp only[AI]at hr
  obtain⟨c1,c2,rfl,h1,h2⟩:=hr
  have hl:=CQ d c1 h1
  have hlx:=CQ x cx hx
  simp only[Jn]at h
  split at h
  ·rename_i hb
   have hlt:¬o<d.size:=by
    intro hh;rw[(by simpa[Nat.blt_eq]using hh:Nat.blt o d.size=true)]at hb;cases hb
   unfold X8 at h
   split at h
   ·rename_i l hp
    simp at h;subst h
    obtain⟨g1,g2⟩:=Ho hx f ds _ hp h2
    rw[Di (by omega),hl]
    refine⟨?_,by simp;omega⟩
    simp only[AI]
    exact⟨c1,_,rfl,h1,g1⟩
   ·cases h
  ·split at h
   ·rename_i hb2
    simp only[Aj,beq_iff_eq]at hb2
    obtain⟨⟨h0,_⟩,h3⟩:=hb2
    have h0:=Ag h0
    have h3:=Ag h3
    simp at h;subst h;subst h0
    have:splice (c1++c2) 0 cx=cx++c2:=by
     unfold splice
     rw[List.drop_append,B7 (by omega)]
     simp
     rw[show cx.length-c1.length=0 by omega];rfl
    rw[this]
    refine⟨?_,by simp;omega⟩
    simp only[AI]
    exact⟨cx,c2,rfl,hx,h2⟩
   ·split at h
    ·rename_i es hp
     unfold YX at h
     split at h
     ·rename_i l hp2
      simp at h;subst h
      obtain⟨g1,g2⟩:=Ho hx f es o hp2 (Gc hp h1).1
      rw[Hi (by omega)]
      refine⟨?_,by simp;omega⟩
      simp only[AI,Ay]
      exact⟨_,c2,rfl,g1,h2⟩
     ·cases h
    ·cases h
theorem F3.splice {P:Program} {w:World} {b:Nat} {T:TypeId} {cs x:List Value} {o:Nat}(h:F3 w b T cs)(hl:o+x.length<=cs.length)(h1:∀v∈x,v.oneCell'=true):
  ∃w',(storeCells ⟨b,o,none⟩ x).run P w=.ok () w'/\F3 w' b T (splice cs o x)/\Tch [b] w w':=by
 have:=run_storeCells_at P b o T x 0 cs.toArray w h (by simpa using hl) h1
 refine⟨_,this,?_,?_⟩
 ·have e:=setRow_heap w b cs.toArray (cs.toArray.toList.take (o+0)++x++cs.toArray.toList.drop (o+0+x.length)).toArray T (0,0) h
  unfold F3;rw[e];simp[Sx.splice]
 ·exact⟨rfl,rfl,rfl,by simp[World.setRow],λk hk hn=>by
   have:b≠k:=λe=>hn (by simp[e])
   simp[World.setRow,BZ,this]⟩
end Go.Sx
namespace Go.Sx
open Go Go.RowKit Go.Reg
theorem Ic {O:List Nat} {w:World}:∀{ds:List Da} {css:List (List Value)},Ai O w ds css->∀{n:Nat} {d:Da},ds[n]? =some d->∃c,css[n]? =some c/\RepC O w d c
 |[],css,h,n,d,hn=>by simp at hn
 |
  x::ds,css,h,n,d,hn=>by
  simp only[Ai]at h
  obtain⟨c1,c2,rfl,h1,h2⟩:=h
  cases n with
  |zero=>simp at hn;subst hn;exact⟨c1,rfl,h1⟩
  |succ n=>exact Ic h2 (by simpa using hn)
theorem EC {O:List Nat} {w:World}:∀{ds es:List Da} {css css2:List (List Value)},Ai O w ds css->Ai O w es css2->Ai O w (ds++es) (css++css2)
 |[],es,css,css2,h,h2=>by simp only[Ai]at h;subst h;simpa using h2
 |
  x::ds,es,css,css2,h,h2=>by
  simp only[Ai]at h
  obtain⟨c1,c2,rfl,h1,h3⟩:=h
  exact⟨c1,c2++css2,rfl,h1,EC h3 h2⟩
theorem LL {O:List Nat} {w:World}:∀{ds:List Da} {css:List (List Value)},Ai O w ds css->∀(n:Nat) {d:Da} {c:List Value},RepC O w d c->Ai O w (ds.set n d) (css.set n c)
 |[],css,h,n,d,c,hc=>by simp only[Ai]at h;subst h;simp[Ai]
 |
  x::ds,css,h,n,d,c,hc=>by
  simp only[Ai]at h
  obtain⟨c1,c2,rfl,h1,h2⟩:=h
  cases n with
  |zero=>exact⟨c,c2,rfl,hc,h2⟩
  |succ n=>exact⟨c1,c2.set n c,rfl,h1,LL h2 n hc⟩
theorem Kz {O:List Nat} {w:World}:∀{ds:List Da} {css:List (List Value)},Ai O w ds css->∀n,Ai O w (ds.take n) (css.take n)
 |[],css,h,n=>by simp only[Ai]at h;subst h;simp[Ai]
 |
  x::ds,css,h,n=>by
  simp only[Ai]at h
  obtain⟨c1,c2,rfl,h1,h2⟩:=h
  cases n with
  |zero=>simp[Ai]
  |succ n=>exact⟨c1,c2.take n,rfl,h1,Kz h2 n⟩
theorem K0 {O:List Nat} {w:World}:∀{ds:List Da} {css:List (List Value)},Ai O w ds css->∀n,Ai O w (ds.drop n) (css.drop n)
 |[],css,h,n=>by simp only[Ai]at h;subst h;simp[Ai]
 |
  x::ds,css,h,n=>by
  simp only[Ai]at h
  obtain⟨c1,c2,rfl,h1,h2⟩:=h
  cases n with
  |zero=>exact⟨c1,c2,rfl,h1,h2⟩
  |succ n=>exact K0 h2 n
theorem My {k:Nat}:∀{css:List (List Value)},(∀x∈css,x.length=k)->∀{n:Nat} {c:List Value},css[n]? =some c->∀{j:Nat} {u:Value},c[j]? =some u->css.flatten[n*k+j]? =some u
 |[],h,n,c,hn,j,u,hj=>by simp at hn
 |
  x::css,h,n,c,hn,j,u,hj=>by
  have hx:=h x (by simp)
  cases n with
  |
   zero=>
   simp at hn;subst hn
   have:=(Ak.1 hj).1
   simp only[Bu,Nat.zero_mul,DE]
   rw[BN (by omega)];exact hj
  |
   succ n=>
   simp only[Bu]
   rw[Cm (by rw[hx,Cl];omega),hx,show(n+1)*k+j-k=n*k+j by rw[Cl];omega]
   exact My (λy hy=>h y (by simp[hy])) (by simpa using hn) hj
theorem Gl {k:Nat}:∀{css:List (List Value)},(∀x∈css,x.length=k)->css.flatten.length=css.length*k
 |[],h=>by simp
 |
  x::css,h=>by
  have ih:=Gl (css:=css) (λy hy=>h y (AK _ hy))
  simp only[Bu,Ao,Au,h x (by simp),ih,Cl];omega
theorem V5 {k:Nat} {css:List (List Value)}(h:∀x∈css,DQ k x):∀v∈css.flatten,v.oneCell'=true:=λv hv=>by
 obtain⟨x,hx,hv⟩:=List.mem_flatten.1 hv
 exact(h x hx).2 v hv
theorem flatMap_id(css:List (List Value)):css.flatMap id=css.flatten:=by simp[List.flatMap]
theorem NS {k:Nat}:∀{css:List (List Value)},(∀x∈css,x.length=k)->∀n,(css.drop n).flatten=css.flatten.drop (n*k)
 |[],h,n=>by simp
 |x::css,h,0=>by simp
 |
  x::css,h,n+1=>by
  have hx:=h x (by simp)
  simp only[List.drop_succ_cons,Bu]
  have e:x.drop ((n+1)*k)=[]:=B7 (by rw[hx,Cl];omega)
  rw[NS (λy hy=>h y (by simp[hy])) n,List.drop_append,e,AR,hx,show(n+1)*k-k=n*k by rw[Cl];omega]
theorem Ds.mono {w:World} {b o:Nat} {cs:List Value} {m:Nat} {x:List Value}(h:Ds w b o cs)(hx:∀(j:Nat) (u:Value),x[j]? =some u->cs[m+j]? =some u):Ds w b (o+m) x:=λj u hj=>by
 have:=h (m+j) u (hx j u hj)
 rwa [<-Ev]at this
section
variable {C:Cx} {T:ED} {B S:List Nat} {w0 w:World} {n:Nat} {fr:Fr} {σ:Sg} {η:Nat->Value} {φ:Nat->List Nat} {a:Act} {v vx vy:Value} {no:Prop}
theorem Mem.oneV(h:Mem C B S w0 σ η φ w):VW η (Ba σ):=by
 intro i hi
 obtain⟨p,hp,rfl⟩:=Av.1 hi
 have:=h.own p hp
 cases ho:p.2 with
 |cells t ds=>rw[ho]at this;obtain⟨b,cs,h1,_⟩:=this;rw[h1];rfl
 |
  slice E k ds=>
  rw[ho]at this
  obtain⟨css,hs,_⟩:=this
  rcases hs.shape with⟨he,_⟩|⟨g,c,he,_⟩<;>rw[he]<;>rfl
 |abs R k l o=>rw[ho]at this;exact o _ _ _ this
 |ghost vs ds=>rw[ho]at this;obtain⟨h1,_⟩:=this;rw[h1];rfl
theorem FX {E k:Nat} {css:List (List Value)}(h:Sl E k id w v css) {g l c:Nat}(hv:v=.slice (some ⟨g,0,none⟩) l c):Ds w g 0 css.flatten:=by
 intro j u hj
 have:=MZ h (g:=g) (by rw[hv];rfl) j u (by rw[flatMap_id];exact hj)
 simpa[IT]using this
theorem RD.force {d:Dat} {K:Dat->Prop}(h:force d K):K d:=by rwa [Gk]at h
theorem DZ:∀{ds:List Dat} {xs:List Da},Eu ds=some xs->ds=Cf xs
 |[],xs,h=>by simp[Eu]at h;subst h;rfl
 |
  .d x::ds,xs,h=>by
  simp only[Eu]at h
  split at h
  ·rename_i ys hy;simp at h;subst h;simp[Cf,DZ hy]
  ·cases h
 |.own _::ds,xs,h=>by simp[Eu]at h
 |.at_ _ _::ds,xs,h=>by simp[Eu]at h
 |.el _ _ _ _::ds,xs,h=>by simp[Eu]at h
 |.agg _::ds,xs,h=>by simp[Eu]at h
 |.tuple _::ds,xs,h=>by simp[Eu]at h
 |.iface _ _::ds,xs,h=>by simp[Eu]at h
 |.func _ _ _::ds,xs,h=>by simp[Eu]at h
theorem PI {ds:List Dat} {cs:List Value}(h:AI η (Ba σ) (B++Ah φ σ) w ds cs):RD B σ η φ w (Qg ds) (.agg cs.toArray):=by
 unfold Qg
 split
 ·rename_i xs hxs
  rw[DZ hxs]at h
  exact⟨cs,by simp only[Ay,RepC];exact EE.1 h,rfl⟩
 ·exact⟨cs,by simpa only[Ay]using h,rfl⟩
theorem FF {η:Nat->Value} {I O:List Nat} {w:World} {d:Dat} {cs:List Value}(h:Ay η I O w d cs):AI η I O w d.cellsOf cs:=by
 have one:∀{d:Dat},Ay η I O w d cs->AI η I O w [d] cs:=λh=>by simp only[AI];exact⟨cs,[],by simp,h,rfl⟩
 unfold Dat.cellsOf
 split
 ·exact EE.2 (by simpa only[Ay,RepC]using h)
 ·simpa only[Ay]using h
 ·exact one h
theorem Ny(hC:C.Ok T)(hm:Mem C B S w0 σ η φ w) {t:TypeId} {x:Dat}(hx:RD B σ η φ w x vx) {K:Dat->Prop}(h:On T t x σ K no):no\/∃d v,K d/\(Instr.loadAt t vx).run C.P w=.ok v w/\RD B σ η φ w d v:=by
 unfold On at h
 rcases AP h with h|⟨e,he,h⟩
 ·exact .inl h
 have ht:=hC.ty he
 have key:∀{d:Dat} {cs:List Value} {b o:Nat},d.fits e=true->Ay η (Ba σ) (B++Ah φ σ) w d cs->Ds w b o cs->vx=.pointer (some ⟨b,o,none⟩)->∃v,(Instr.loadAt t vx).run C.P w=.ok v w/\RD B σ η φ w d v:=by
  intro d cs b o hf hr hc hv
  obtain⟨g1,g2⟩:=GN hf
  have hl:=CQ d cs hr
  refine⟨_,?_,cs,hr,rfl⟩
  rw[hv,Fa,g1]
  simp only[Instr.loadAt,Instr.sureAddr,Ar,AH,Ap]
  exact Fo ht hc (by omega) (λhh=>by rw[<-g2];exact JC (by rw[g1];exact hh))
 split at h
 ·rcases AG h with h|⟨hf,h⟩
  ·exact .inl h
  obtain⟨cs,h1,h2⟩:=hx
  simp only[Ay,RepC]at h1
  obtain⟨b,o,c,rfl,_,_,h4,h5⟩:=h1
  obtain⟨v,g1,g2⟩:=key (d:=.d _) (cs:=c) hf (by simpa only[Ay]using h4) h5 h2
  exact .inr ⟨_,v,h,g1,g2⟩
 ·rcases AF h with h|⟨ow,hg,h⟩
  ·exact .inl h
  split at h
  ·obtain⟨b,cs,e1,_,hb,hr⟩:=Cr hm hg
   obtain⟨cs',h1,h2⟩:=hx
   simp only[Ay]at h1
   obtain⟨_,rfl⟩:=h1
   split at h
   ·rename_i hcond
    simp only[Aj]at hcond
    rcases AG h with h|⟨hsz,h⟩
    ·exact .inl h
    have hsz:=Ag hsz
    have hl:=FZ _ _ hr
    refine .inr ⟨_,_,RD.force h,?_,PI hr⟩
    rw[show vx=.pointer (some ⟨b,0,none⟩)from h2.trans (by rw[e1];rfl)]
    simp only[Instr.loadAt,Instr.sureAddr,Ar,AH,Ap]
    have:=Fo ht (w:=w) (b:=b) (o:=0) (cs:=cs) (λj u hj=>by have:=hb.cell hj;simpa using this) (by omega) (λhh=>by rw[hcond.2]at hh;cases hh)
    rw[this,hcond.2];rfl
   rcases AF h with h|⟨d,hd,h⟩
   ·exact .inl h
   obtain⟨g1,c,g2,g3⟩:=Gi _ _ _ hd hr
   obtain⟨v,g4,g5⟩:=key g1 g2 (Ds.mono (o:=0) (cs:=cs) (λj u hj=>by have:=hb.cell hj;simpa using this) g3) (h2.trans (by rw[e1];rfl))
   exact .inr ⟨_,v,RD.force h,g4,g5⟩
  ·exact .inl h
 ·rcases AF h with h|⟨ow,hg,h⟩
  ·exact .inl h
  split at h
  ·rcases AF h with h|⟨d,hd,h⟩
   ·exact .inl h
   obtain⟨b,cs,e1,_,hb,hr⟩:=Cr hm hg
   obtain⟨cs',h1,h2⟩:=hx
   simp only[Ay]at h1
   obtain⟨_,b',e2,rfl⟩:=h1
   rw[e1]at e2
   cases e2
   obtain⟨g1,c,g2,g3⟩:=Gi _ _ _ hd hr
   obtain⟨v,g4,g5⟩:=key g1 g2 (Ds.mono (o:=0) (cs:=cs) (λj u hj=>by have:=hb.cell hj;simpa using this) g3) (h2.trans (by simp[Bo]))
   exact .inr ⟨_,v,RD.force h,g4,g5⟩
  ·exact .inl h
 ·rcases AF h with h|⟨ow,hg,h⟩
  ·exact .inl h
  split at h
  ·rename_i i k0 m C9 _ _ _ E k ds
   rcases AG h with h|⟨hk0,d0,hd0,h⟩
   ·exact .inl h
   have hk0:=Ag hk0
   rcases AF h with h|⟨d,hd,h⟩
   ·exact .inl h
   obtain⟨css,hs,_,hr,hk⟩:=Bn hm hg
   obtain⟨cs',h1,h2⟩:=hx
   simp only[Ay]at h1
   obtain⟨_,b',l,c',e2,rfl⟩:=h1
   obtain⟨c0,hc0,hr0⟩:=Ic hr hd0
   obtain⟨g1,c,g2,g3⟩:=Gi _ _ _ hd (cs:=c0) (by simp only[AI,Ay];exact⟨c0,[],by simp,hr0,rfl⟩)
   obtain⟨v,g4,g5⟩:=key g1 g2 (b:=b') (o:=0+(m*k+C9)) (Ds.mono (o:=0) (FX hs e2) (λj u hj=>by
    rw[Ev];exact My (λx hx=>(hk x hx).1) hc0 (g3 j u hj))) (h2.trans (by simp[Bo,hk0]))
   exact .inr ⟨_,v,RD.force h,g4,g5⟩
  ·exact .inl h
 ·exact .inl h
theorem HA {k C9:Nat} {x:List Value}:∀{css:List (List Value)},(∀y∈css,y.length=k)->∀{n:Nat} {c:List Value},css[n]? =some c->C9+x.length<=k->splice css.flatten (n*k+C9) x=(css.set n (splice c C9 x)).flatten
 |[],h,n,c,hn,hl=>by simp at hn
 |
  y::css,h,n,c,hn,hl=>by
  have hy:=h y (by simp)
  cases n with
  |
   zero=>
   simp at hn;subst hn
   simp only[Bu,List.set_cons_zero,Nat.zero_mul,DE]
   exact Hi (by omega)
  |
   succ n=>
   simp only[Bu,List.set_cons_succ]
   rw[Di (by rw[hy,Cl];omega),hy,show(n+1)*k+C9-k=n*k+C9 by rw[Cl];omega]
   rw[HA (λz hz=>h z (AK _ hz)) (by simpa using hn) hl]
theorem G5 {cs x:List Value} {o:Nat}(h:o+x.length<=cs.length):(splice cs o x).length=cs.length:=by
 unfold splice;simp;omega
theorem P1 {cs x:List Value} {o m:Nat}(h:o+x.length<=m)(hm:m<=cs.length):(splice cs o x).take m=splice (cs.take m) o x:=by
 have hl:(cs.take m).length=m:=by simp;omega
 have e:=Hi (c1:=cs.take m) (c2:=cs.drop m) (x:=x) (o:=o) (by omega)
 rw[C6]at e
 rw[e]
 have:=G5 (cs:=cs.take m) (x:=x) (o:=o) (by omega)
 rw[List.take_append_of_le_length (by omega),AN (by omega)]
theorem Re {cs x:List Value} {o:Nat}(h1:∀v∈cs,v.oneCell'=true)(h2:∀v∈x,v.oneCell'=true):∀v∈splice cs o x,v.oneCell'=true:=by
 intro v hv
 unfold splice at hv
 rcases Af.1 hv with hv|hv
 ·rcases Af.1 hv with hv|hv
  ·exact h1 v (FQ hv)
  ·exact h2 v hv
 ·exact h1 v (List.mem_of_mem_drop hv)
theorem Sl.spliceAt {P:Program} {E k:Nat} {css:List (List Value)}(hk:∀x∈css,DQ k x)(h:Sl E k id w v css) {g l c:Nat}(hv:v=.slice (some ⟨g,0,none⟩) l c) {m C9:Nat} {c0 x:List Value}(hm:css[m]? =some c0)(hl:C9+x.length<=k)(h1:∀u∈x,u.oneCell'=true):
  ∃w',(storeCells ⟨g,m*k+C9,none⟩ x).run P w=.ok () w'/\Sl E k id w' v (css.set m (splice c0 C9 x))/\Tch [g] w w':=by
 have hk':∀y∈css,y.length=k:=λy hy=>(hk y hy).1
 have hfl:css.flatten.length=css.length*k:=Gl hk'
 have hml:m<css.length:=(Ak.1 hm).1
 have hmk:m*k+k<=css.length*k:=by rw[<-Nat.succ_mul];exact FP k hml
 rcases h.2 with⟨hn,_⟩|⟨g',cap,cur,he,_,hg,hc,hcm,hcs,ht⟩
 ·rw[hn]at hv;cases hv
 ·rw[he]at hv;cases hv
  rw[flatMap_id]at ht
  have hle:css.length*k<=cur.size:=by rw[hcs];exact FP k hc
  have hr:=run_storeCells_at P g (m*k+C9) E x 0 cur w hg (by omega) h1
  refine⟨_,hr,⟨?_,.inr ⟨g,c,(splice cur.toList (m*k+C9) x).toArray,?_,AA _,?_,by simpa using hc,hcm,?_,?_⟩⟩,?_⟩
  ·rw[flatMap_id,<-HA hk' hm hl,G5 (by omega),hfl];simp
  ·rw[he];simp
  ·have e:=setRow_heap w g cur (cur.toList.take (m*k+C9+0)++x++cur.toList.drop (m*k+C9+0+x.length)).toArray E (0,0) hg
   rw[e];simp[splice]
  ·simp only[BI,G5 (cs:=cur.toList) (x:=x) (o:=m*k+C9) (by simp;omega)];simpa using hcs
  ·rw[flatMap_id,<-HA hk' hm hl,List.length_set,<-ht]
   exact P1 (by omega) (by simpa using hle)
  ·exact⟨rfl,rfl,rfl,by simp[World.setRow],λj hj hn=>by
    have:g≠j:=λe=>hn (by simp[e])
    simp[World.setRow,BZ,this]⟩
theorem Pu {α:Type}(f:Nat->α)(i:Nat):Dy f i (f i)=f:=by funext j;by_cases h:j=i<;>simp[Dy,h]
def Pb(C:Cx)(B S:List Nat)(w0:World)(σ σ':Sg)(η:Nat->Value)(φ:Nat->List Nat)(w w':World):Prop:=
 Mem C B S w0 σ' η φ w'/\Later (B++Ah φ σ) w (B++Ah φ σ') w'/\Ba σ'=Ba σ
theorem Pb.frame {σ':Sg} {w':World}(h:Pb C B S w0 σ σ' η φ w w') {fr:Fr} {a:Act}(hf:ES η (Ba σ) (B++Ah φ σ) w fr a):ES η (Ba σ') (B++Ah φ σ') w' fr a:=
 hf.later h.2.1 (λi hi=>⟨by rw[h.2.2];exact hi,rfl⟩)
theorem EW(hm:Mem C B S w0 σ η φ w) {i:Nat} {t:TypeId} {ds ds':List Dat}(hg:BO i σ=some (.cells t ds)) {b:Nat} {cs':List Value} {w':World}(he:η i=.pointer (some ⟨b,0,none⟩))(hf:φ i=[b])(hr:AI η (Ba σ) (B++Ah φ σ) w ds' cs')(hb:F3 w' b t cs')(ht:Tch [b] w w'):
  Pb C B S w0 σ (Br id i (.cells t ds') σ) η φ w w':=by
 have hi:=AW (B8 hg)
 have hX:∀x∈[b],x∈φ i:=λx hx=>by rw[hf];exact hx
 have hF:∀x∈φ i,x∈φ i\/w.heap.size<=x:=λx hx=>.inl hx
 have hl:=Later.turn (σ:=σ) B ht hX hi hF id (.cells t ds')
 have hM:=hm.turnSame (o:=.cells t ds') ht hX hi hF (by
  exact⟨b,cs',he,hf,hb,AI.later hl (λj hj=>⟨hj,rfl⟩) _ _ hr⟩)
 rw[Pu]at hM hl
 exact⟨hM,hl,Bt _ _ _ _⟩
theorem QY(hC:C.Ok T)(hm:Mem C B S w0 σ η φ w) {t:TypeId} {x d:Dat}(hx:RD B σ η φ w x vx)(hd:RD B σ η φ w d vy) {K:Sg->Prop}(h:Oi T t x d σ K no):
  no\/∃σ' w',K σ'/\(Instr.storeAt t vx vy).run C.P w=.ok () w'/\Pb C B S w0 σ σ' η φ w w':=by
 unfold Oi at h
 rcases AP h with h|⟨e,he,h⟩
 ·exact .inl h
 have ht:=hC.ty he
 rcases AG h with h|⟨hb,h⟩
 ·exact .inl h
 simp only[Aj]at hb
 obtain⟨hf,hst⟩:=hb
 obtain⟨f1,f2⟩:=GN hf
 obtain⟨cx,hcx,rfl⟩:=hd
 have hcl:=(Gy hm.oneV hcx hst).1
 have hone:=Jk hm.oneV d cx hst hcx
 have hlx:=CQ d cx hcx
 have store:∀{b o:Nat} {w':World},vx=.pointer (some ⟨b,o,none⟩)->(storeCells ⟨b,o,none⟩ cx).run C.P w=.ok () w'->(Instr.storeAt t vx (Bo d cx)).run C.P w=.ok () w':=by
  intro b o w' hv hr
  have hsz:(Bo d cx).cells.size=e.size:=by rw[<-Array.length_toList,hcl];omega
  rw[hv]
  simp only[Instr.storeAt,Instr.sureAddr,Ar,AH,Ap,storeVar,ht.sizeOf,hcl,hsz]
  simp[hr]
 split at h
 ·rcases AF h with h|⟨ow,hg,h⟩
  ·exact .inl h
  split at h
  ·obtain⟨b,cs,e1,e2,hb,hr⟩:=Cr hm hg
   obtain⟨cs',h1,h2⟩:=hx
   simp only[Ay]at h1
   obtain⟨_,rfl⟩:=h1
   split at h
   ·rename_i hcond
    simp only[Aj]at hcond
    rcases AG h with h|⟨hsz,h⟩
    ·exact .inl h
    have hsz:=Ag hsz
    have hl:=FZ _ _ hr
    have hll:cx.length=cs.length:=by omega
    obtain⟨w',r1,r2,r3⟩:=F3.splice (P:=C.P) hb (o:=0) (x:=cx) (by omega) hone
    have e4:splice cs 0 cx=cx:=by simp[splice,hll]
    rw[e4]at r2
    exact .inr ⟨_,w',h,store (h2.trans (by rw[e1];rfl)) r1,EW hm hg e1 e2 (FF hcx) r2 r3⟩
   rcases AF h with h|⟨ds',hp,h⟩
   ·exact .inl h
   obtain⟨g1,g2⟩:=Ho hcx _ _ _ hp hr
   obtain⟨w',r1,r2,r3⟩:=F3.splice (P:=C.P) hb g2 hone
   exact .inr ⟨_,w',h,store (h2.trans (by rw[e1];rfl)) r1,EW hm hg e1 e2 g1 r2 r3⟩
  ·exact .inl h
 ·rcases AF h with h|⟨ow,hg,h⟩
  ·exact .inl h
  split at h
  ·rcases AF h with h|⟨ds',hp,h⟩
   ·exact .inl h
   obtain⟨b,cs,e1,e2,hb,hr⟩:=Cr hm hg
   obtain⟨cs',h1,h2⟩:=hx
   simp only[Ay]at h1
   obtain⟨_,b',e3,rfl⟩:=h1
   rw[e1]at e3
   cases e3
   obtain⟨g1,g2⟩:=Ho hcx _ _ _ hp hr
   obtain⟨w',r1,r2,r3⟩:=F3.splice (P:=C.P) hb g2 hone
   exact .inr ⟨_,w',h,store h2 r1,EW hm hg e1 e2 g1 r2 r3⟩
  ·exact .inl h
 ·rcases AF h with h|⟨ow,hg,h⟩
  ·exact .inl h
  split at h
  ·rename_i i k0 m C9 _ _ _ _ E k ds
   rcases AG h with h|⟨hk0,d0,hd0,h⟩
   ·exact .inl h
   have hk0:=Ag hk0
   subst hk0
   rcases AF h with h|⟨ds',hp,h⟩
   ·exact .inl h
   rcases AF h with h|⟨xs,hp2,h⟩
   ·exact .inl h
   split at h
   ·rename_i y
    obtain⟨css,hs,e2,hr,hk⟩:=Bn hm hg
    obtain⟨cs',h1,h2⟩:=hx
    simp only[Ay]at h1
    obtain⟨_,b',l,c',e3,rfl⟩:=h1
    obtain⟨c0,hc0,hr0⟩:=Ic hr hd0
    have hc0k:=hk c0 (AY hc0)
    obtain⟨g1,g2⟩:=Ho hcx _ _ _ hp (cs:=c0) (by simp only[AI,Ay];exact⟨c0,[],by simp,hr0,rfl⟩)
    rw[DZ hp2]at g1
    have g3:RepC (B++Ah φ σ) w y (splice c0 C9 cx):=by
     have:=EE.1 g1
     simp only[RepCs]at this
     obtain⟨a1,a2,e4,r1,rfl⟩:=this
     rw[e4];simpa using r1
    obtain⟨w',r1,r2,r3⟩:=Sl.spliceAt (P:=C.P) hk hs e3 hc0 (x:=cx) (C9:=C9) (by rw[hc0k.1]at g2;exact g2) hone
    have hi:=AW (B8 hg)
    have hX:∀x∈[b'],x∈φ i:=λx hx=>by rw[e2,e3];simpa[Value.ownBlock]using hx
    have hF:∀x∈φ i,x∈φ i\/w.heap.size<=x:=λx hx=>.inl hx
    have hl:=Later.turn (σ:=σ) B r3 hX hi hF id (.slice E k0 (ds.set m y))
    have hM:=hm.turnSame (o:=.slice E k0 (ds.set m y)) r3 hX hi hF (by
     refine⟨_,r2,e2,Ai.later hl _ _ (LL hr m g3),λx hx=>?_⟩
     rcases List.mem_or_eq_of_mem_set hx with hx|rfl
     ·exact hk x hx
     ·exact⟨by rw[G5 g2];exact hc0k.1,Re hc0k.2 hone⟩)
    rw[Pu]at hM hl
    exact .inr ⟨_,w',h,store (h2.trans (by simp[Bo])) r1,hM,hl,Bt _ _ _ _⟩
   ·exact .inl h
  ·exact .inl h
 ·exact .inl h
end
end Go.Sx
