/- Rgc. -/
import Derived.Test.YtjejpdfldmempaaGreatDooragab
namespace Go.Reg
open Go Go.RowKit
def QJ(s:Sem Next)(P:Program):Prop:=∀w n w1,s.run P w=.ok n w1->∃v,n=.value v
theorem BU {P:Program}(s:Sem Value):QJ (do pure (.value (<-s))) P:=λw n w1 h=>by
 rw[Ar]at h
 cases hs:s.run P w with
 |halt x w'=>rw[hs]at h;simp at h
 |ok a w'=>rw[hs]at h;simp at h;exact⟨a,h.1.symm⟩
theorem Jg {α β:Type} {P:Program} {s:Sem α} {f:α->Sem β} {d:α}(h:∀w,s.run P w=.ok d w)(hf:BY P (f d)):BY P (s>>=f):=by
 intro w b w1 hr
 rw[Ar,h w]at hr
 obtain⟨h1,h2⟩:=hf w b w1 hr
 exact⟨h1,λw2=>by rw[Ar,h w2];exact h2 w2⟩
theorem Vp {α β:Type} {P:Program} {s:Sem α} {f:α->Sem β} {d:α}(h:∀w,s.run P w=.ok d w)(hf:IP P (f d)):IP P (s>>=f):=by
 intro w b w1 hr
 rw[Ar,h w]at hr
 obtain⟨h1,h2⟩:=hf w b w1 hr
 exact⟨h1,λw2 he=>by rw[Ar,h w2];exact h2 w2 he⟩
theorem Jf {P:Program}(op:BinOp)(k:IntKind)(x y:Int):BY P (Op.intBits op k x y):=by
 unfold Op.intBits
 repeat' (first|exact As _|exact AE _|split|dsimp only[])
theorem Rh {P:Program}(op:UnOp)(x:Value):BY P (Op.unary op x):=by
 unfold Op.unary
 split<;>first|exact I3 _ _ _ _|exact Jf _ _ _ _|exact As _|exact AJ _|exact AE _
def GP:Value->Value->Bool
 |.bool _,.bool _|.pointer none,.pointer _|.pointer (some _),.pointer none|.iface _ _,.nilIface|.nilIface,.nilIface=>true
 |.slice none _ _,.slice _ _ _|.slice (some _) _ _,.slice none _ _|.map none,.map _|.map (some _),.map none|.nilFunc,.nilFunc|.func _ _ _,.nilFunc=>true
 |_,_=>false
theorem LG {P:Program}(t:TypeId) {x y:Value}(h:GP x y=true):BY P (Op.equal t x y):=by
 unfold Op.equal
 rw[show Op.maxDepth=9999+1 from rfl,Op.equalIn]
 refine AS (Be _) λd=>?_
 unfold GP at h
 split at h<;>first|(cases h;done)|skip
 ·cases d<;>first|exact As _|exact AE _|exact AJ _
 ·rename_i b
  cases b<;>cases d<;>first|exact As _|exact AE _|exact AJ _
 all_goals (cases d<;>first|exact As _|exact AE _|exact AJ _|(rename_i o _ _;cases o<;>first|exact As _|exact AE _|exact AJ _)|(rename_i o;cases o<;>first|exact As _|exact AE _|exact AJ _))
theorem O4 {P:Program}(op:BinOp)(t:TypeId)(x y:Operand) {a b:Value}(h:GP a b=true)(hn:a=.nilIface->b=.nilIface->y=.const .nilIface):BY P (eqGuard op t x y a b):=by
 unfold GP at h
 split at h<;>first|(cases h;done)|skip
 ·cases op<;>exact As _
 ·cases op<;>exact As _
 ·cases op<;>exact As _
 ·cases op<;>exact As _
 ·rw[hn rfl rfl]
  cases op<;>first|exact As _|(unfold eqGuard;simp only[Bool.or_true,if_true];exact As _)
 all_goals (cases op<;>exact As _)
theorem Rj {P:Program}(op:BinOp)(k:IntKind)(x:Int)(yk:IntKind)(y:Int):BY P (Op.shift op k x yk y):=by
 unfold Op.shift
 split
 ·exact BJ _
 ·dsimp only;split<;>first|exact As _|exact AE _
theorem Rn {P:Program}(op:BinOp)(t:TypeId)(x y:Operand) {a b:Value}(h:Dk op a b=true\/(a=.nilIface/\b=.nilIface/\y=.const .nilIface/\(op=.eql\/op=.neq))):
  BY P (do eqGuard op t x y a b;binOp op t a b):=by
 have viaEq:∀{a b:Value},GP a b=true->(a=.nilIface->b=.nilIface->y=.const .nilIface)->(op=.eql\/op=.neq)->
   (∀(k k':IntKind) i j,¬(a=.int k i/\b=.int k' j))->BY P (do eqGuard op t x y a b;binOp op t a b):=λ{a b} he hn hop hni=>by
  refine AS (O4 op t x y he hn) λ_=>?_
  rcases hop with rfl|rfl
  ·unfold GP at he
   split at he<;>first|(cases he;done)|exact AS (LG t rfl) λ_=>As _
  ·unfold GP at he
   split at he<;>first|(cases he;done)|exact AS (LG t rfl) λ_=>As _
 have eqOp:Iy op=true->(op=.eql\/op=.neq):=λhh=>by
  cases op<;>first|(cases hh;done)|exact Or.inl rfl|exact Or.inr rfl
 rcases h with h|⟨rfl,rfl,hy,hop⟩
 ·unfold Dk at h
  split at h<;>first|(cases h;done)|skip
  ·have g:∀(k k':IntKind) (i j:Int),BY P (eqGuard op t x y (.int k i) (.int k' j)):=λ_ _ _ _=>by
    cases op<;>exact As _
   refine AS (g _ _ _ _) λ_=>?_
   cases op<;>first|(cases h;done)|skip
   all_goals (unfold binOp;dsimp only;first|exact Rj _ _ _ _ _|(split<;>first|exact AE _|exact I3 _ _ _ _|exact P9 _ _ _ _|exact Jf _ _ _ _|exact PA _ _ _))
  ·have g:∀i j,BY P (eqGuard op t x y (.string i) (.string j)):=λ_ _=>by
    cases op<;>exact As _
   refine AS (g _ _) λ_=>?_
   cases op<;>(unfold binOp;dsimp only;first|exact Nd _ _ _|exact AE _)
  all_goals exact viaEq rfl (λh=>by cases h) (eqOp h) (λ_ _ _ _ h=>by cases h.1)
 ·exact viaEq rfl (λ_ _=>hy) hop (λ_ _ _ _ h=>by cases h.1)
theorem CO {P:Program} {s:Sem Value}(h:BY P s):BY P (do pure (Next.value (<-s))):=AS h λ_=>As _
theorem JK {α:Type} {P:Program}(a:α):IP P (pure a:Sem α):=(As a).mono
theorem Qb {P:Program} {s:Sem Value}(h:IP P s):IP P (do pure (Next.value (<-s))):=E5 h λ_=>JK _
theorem TB {α β:Type} {P:Program} {f:α->Sem β}(h:∀a,BY P (f a))(l:Array α):BY P (l.mapM f):=by
 rw[QO]
 have:∀l:List α,BY P (l.mapM f):=λl=>by
  induction l with
  |nil=>simp only[List.mapM_nil];exact As _
  |cons x l ih=>simp only[List.mapM_cons];exact AS (h x) λ_=>AS ih λ_=>As _
 exact AS (this _) λ_=>As _
theorem Rm {P:Program}(t:TypeId) {fs:Array Field}(ht:P.underlying t=some (.struct fs))(parts:Array (Nat×Value)):BY P (Instr.build t parts):=by
 unfold Instr.build
 refine AS (Fm _) λz=>?_
 dsimp only
 refine Jg (λw=>run_underlying ht w) ?_
 dsimp only
 refine AS (TB (λf=>AS (BE _) λ_=>As _) _) λplaces=>?_
 split<;>first|exact As _|exact AE _
theorem P8 {P:Program} {tys:Array TypeId} {t:TypeId} {args:Array Value}(ty:TypeId)(h0:tys[0]? =some t)(ht:P.underlying t=some .string\/∃e,P.underlying t=some (.slice e)):BY P (Builtin.len_ tys ty args):=by
 unfold Builtin.len_
 rw[h0]
 cases hx:args[0]? with
 |none=>exact AE _
 |
  some x=>
  dsimp only
  rcases ht with ht|⟨e,ht⟩
  ·refine Jg (λw=>run_underlying ht w) ?_
   cases x<;>first|exact As _|exact AE _
  ·refine Jg (λw=>run_underlying ht w) ?_
   cases x<;>first|exact As _|exact AE _
theorem Qe {P:Program}(r:Nat):IP P (getObj r):=λw o w1 h=>by
 simp only[getObj,Sem.run]at h⊢
 split at h<;>first|(simp at h;done)|skip
 rename_i o' h1 h2
 simp only[Result.ok.injEq]at h
 obtain⟨rfl,rfl⟩:=h
 refine⟨rfl,λw2 he=>?_⟩
 rw[he.of_some h2]
 cases o'<;>first|rfl|exact(h1 _ _ _ rfl).elim
theorem Qd {P:Program} {tys:Array TypeId} {t k e:TypeId} {args:Array Value}(ty:TypeId)(h0:tys[0]? =some t)(ht:P.underlying t=some (.map k e)):IP P (Builtin.len_ tys ty args):=by
 unfold Builtin.len_
 rw[h0]
 cases hx:args[0]? with
 |none=>exact(AE _).mono
 |
  some x=>
  dsimp only
  refine Vp (λw=>run_underlying ht w) ?_
  cases x<;>first|exact(As _).mono|exact(AE _).mono|skip
  rename_i r
  cases r
  ·exact(As _).mono
  ·refine E5 (Qe _) λo=>?_
   split<;>first|exact(As _).mono|exact(AE _).mono
theorem Tm {P:Program} {w:World} {x:Addr} {u:TypeId} {k:Addr} {at_:Bool}(e:w.heap[x.block]? =none) {r}(h:w.seen P x u k at_=.ok r):False:=by
 unfold World.seen at h
 rw[e]at h
 simp only[bind,Except.bind]at h
 repeat' (first|(cases h;done)|split at h)
theorem Of {P:Program} {w w2:World}(he:GZ w w2) {x:Addr} {u:TypeId} {k:Addr} {at_:Bool} {r:Value×List Addr}(h:w.viewLoad P x u k at_=.ok r):w2.viewLoad P x u k at_=.ok r:=by
 by_cases hb:x.block<w.heap.size
 ·have e:w2.heap[x.block]? =w.heap[x.block]? :=he _ hb
  have:w2.seen P x u k at_=w.seen P x u k at_:=by unfold World.seen;rw[e]
  unfold World.viewLoad at h⊢
  rw[this];exact h
 ·exfalso
  have e:w.heap[x.block]? =none:=by simp;omega
  unfold World.viewLoad at h
  cases hs:w.seen P x u k at_ with
  |error m=>rw[hs]at h;cases h
  |ok v=>exact Tm e hs
theorem NL {P:Program}(a:Addr):IP P (load a):=λw v w1 h=>by
 simp only[load,Sem.run]at h⊢
 cases hc:w.cell? a with
 |
  some u=>
  simp only[hc,Result.ok.injEq]at h
  obtain⟨rfl,rfl⟩:=h
  refine⟨rfl,λw2 he=>?_⟩
  have hb:a.block<w.heap.size:=by
   unfold World.cell? at hc
   split at hc
   ·rename_i h1;exact(Ae.1 h1).1
   ·cases hc
  have:w2.cell? a=w.cell? a:=by unfold World.cell?;rw[he _ hb]
  rw[this,hc]
 |
  none=>
  simp only[hc]at h
  unfold World.farLoad at h
  split at h
  ·rename_i x hx
   split at hx
   ·rename_i at_ u hb
    split at hx
    ·rename_i r hv
     cases hx
     simp only[Result.ok.injEq]at h
     obtain⟨rfl,rfl⟩:=h
     refine⟨rfl,λw2 he=>?_⟩
     have hb2:=he.of_some hb
     have hc2:w2.cell? a=none:=by unfold World.cell?;rw[hb2]
     rw[hc2]
     simp only[World.farLoad,hb2,Of he hv]
    ·cases hx
   ·cases hx
  ·simp at h
theorem Hw {P:Program}(a:Addr):∀(n i:Nat) (acc:Array Value),IP P (loadCellsFrom a i n acc)
 |0,_,_=>JK _
 |
  n+1,i,acc=>by
  unfold loadCellsFrom
  exact E5 (NL _) λ_=>Hw a n _ _
theorem Qc {P:Program}(t:TypeId)(v:Value):IP P (Instr.loadAt t v):=by
 unfold Instr.loadAt loadVar
 refine E5 (B3 _).mono λa=>E5 (LF _).mono λb=>?_
 split
 ·exact E5 (BE _).mono λn=>E5 (Hw a n 0 #[]) λ_=>JK _
 ·exact NL _
def MX {α:Type}(P:Program)(s:Sem α):Prop:=∀w a w1,s.run P w=.ok a w1->GZ w w1/\w.heap.size<=w1.heap.size
theorem BY.grows {α:Type} {P:Program} {s:Sem α}(h:BY P s):MX P s:=λw a w1 hr=>by
 obtain⟨rfl,_⟩:=h w a w1 hr;exact⟨GZ.refl _,Az _⟩
theorem CV {α β:Type} {P:Program} {s:Sem α} {f:α->Sem β}(h:MX P s)(hf:∀a,MX P (f a)):MX P (s>>=f):=by
 intro w b w1 hr
 rw[Ar]at hr
 cases hs:s.run P w with
 |halt x w'=>rw[hs]at hr;simp at hr
 |
  ok a w'=>
  rw[hs]at hr
  obtain⟨h1,h2⟩:=h w a w' hs
  obtain⟨h3,h4⟩:=hf a _ b w1 hr
  exact⟨h1.trans h3 h2,CM h2 h4⟩
theorem GK {P:Program}(o:Obj):MX P (newObj o):=λw r w1 h=>by
 simp only[newObj,Sem.run,Result.ok.injEq]at h
 obtain⟨_,rfl⟩:=h
 refine⟨λk hk=>?_,by simp⟩
 show(w.heap.push o)[k]? =_
 rw[Array.getElem?_push,if_neg (by omega)]
theorem Jr {P:Program}(t:TypeId)(v:Value):MX P (newVar t v):=by
 unfold newVar newRow
 exact CV (GK _) λ_=>(As _).grows
theorem YQ {P:Program} {G:List FuncId} {o:Oper} {a:Act}(hk:Cp P G o=0)(hd:AU a o=true):BY P (execOp a.eval o)/\QJ (execOp a.eval o) P:=by
 obtain⟨dst,op,type,pos,after,guard⟩:=o
 cases op<;>simp only[Cp]at hk<;>first|(cases hk;done)|skip
 case move x=>exact⟨As _,λw n w1 h=>by simp[execOp]at h;exact⟨_,h.1.symm⟩⟩
 case assign x=>exact⟨As _,λw n w1 h=>by simp[execOp]at h;exact⟨_,h.1.symm⟩⟩
 case pick c x y=>exact⟨AS (Ck _) λ_=>As _,λw n w1 h=>by
  simp only[execOp,Ar]at h
  cases hs:(asBool (a.eval c)).run P w with
  |halt x w'=>rw[hs]at h;simp at h
  |ok b w'=>rw[hs]at h;simp at h;exact⟨_,h.1.symm⟩⟩
 case build t parts=>
  split at hk
  ·rename_i fs ht;exact⟨CO (Rm t ht _),BU _⟩
  ·cases hk
 case nilCheck x=>
  simp only[AU]at hd
  unfold execOp
  dsimp only
  cases hx:a.eval x with
  |pointer p=>cases p<;>first|exact⟨BJ _,λw n w1 h=>absurd h (EH _ w n w1)⟩|exact⟨As _,λw n w1 h=>by simp at h;exact⟨_,h.1.symm⟩⟩
  |nilIface=>exact⟨BJ _,λw n w1 h=>absurd h (EH _ w n w1)⟩
  |nilFunc=>exact⟨BJ _,λw n w1 h=>absurd h (EH _ w n w1)⟩
  |func f u v=>rw[hx]at hd;cases hd
  |_=>exact⟨As _,λw n w1 h=>by simp at h;exact⟨_,h.1.symm⟩⟩
 case binOp op t x y yt=>
  simp only[AU,Wf]at hd
  refine⟨CO (Rn op t x y (hd.imp id λh=>?_)),BU _⟩
  unfold GH at h
  split at h
  ·rename_i hx
   refine⟨hx,rfl,rfl,?_⟩
   cases op<;>first|(cases h;done)|exact Or.inl rfl|exact Or.inr rfl
  ·cases h
 case unOp op t x=>exact⟨CO (Rh op _),BU _⟩
 case convert s d x=>
  split at hk
  ·rename_i k hd'
   refine⟨CO ?_,BU _⟩
   simp only[AU]at hd
   cases hx:a.eval x with
   |
    int j n=>
    unfold Go.convert
    refine AS (Be _) λe=>Jg (λw=>run_underlying hd' w) ?_
    cases e<;>(dsimp only;unfold Conv.intToInt;exact As _)
   |_=>rw[hx]at hd;cases hd
  ·cases hk
 case makeInterface t x=>exact⟨CO (IB _ _),BU _⟩
 case makeFunc f u v=>exact⟨CO (by unfold Instr.makeFunc;exact As _),BU _⟩
 case slice t x l h m=>exact⟨CO (Oz _ _ _ _ _),BU _⟩
 case fieldAddr s x f=>
  split at hk
  ·rename_i hs;exact⟨CO (O1 hs _ _),BU _⟩
  ·cases hk
 case field t x f=>exact⟨CO (Rl _ _ _),BU _⟩
 case indexAddr t x i=>exact⟨CO (O0 _ _ _),BU _⟩
 case index t x i=>exact⟨CO (Rk _ _ _),BU _⟩
 case extract t i=>exact⟨CO (O2 _ _),BU _⟩
 case makeMap t r=>cases r<;>cases hk
 case call c=>
  cases hc:c.callee with
  |value f=>simp only[hc]at hk;cases f<;>simp only at hk<;>first|(cases hk;done)|(split at hk<;>cases hk)
  |invoke r m=>simp only[hc]at hk;cases hk
  |
   builtin b=>
   simp only[hc]at hk
   cases b<;>simp only at hk<;>first|(cases hk;done)|skip
   have e:execOp a.eval {dst:=dst,op:=.call c,type:=type,pos:=pos,after:=after,guard:=guard}=(do pure (Next.value (<-Builtin.len_ c.argTypes type (c.args.map a.eval)))):=by
    simp only[execOp,resolve,hc,pure_bind,invoke,builtin]
   rw[e]
   cases h0:c.argTypes[0]? with
   |none=>rw[h0]at hk;cases hk
   |
    some t=>
    rw[h0]at hk
    simp only[Kv]at hk
    split at hk<;>first|(cases hk;done)|skip
    ·rename_i el ht;exact⟨CO (P8 _ h0 (Or.inr ⟨_,ht⟩)),BU _⟩
    ·rename_i ht;exact⟨CO (P8 _ h0 (Or.inl ht)),BU _⟩
theorem YP {P:Program} {G:List FuncId} {o:Oper} {a:Act}(hk:Cp P G o=1):IP P (execOp a.eval o)/\QJ (execOp a.eval o) P:=by
 obtain⟨dst,op,type,pos,after,guard⟩:=o
 cases op<;>simp only[Cp]at hk<;>first|(cases hk;done)|(split at hk<;>cases hk;done)|skip
 case load t x=>exact⟨Qb (Qc _ _),BU _⟩
 case makeMap t r=>cases r<;>cases hk
 case call c=>
  cases hc:c.callee with
  |value f=>simp only[hc]at hk;cases f<;>simp only at hk<;>first|(cases hk;done)|(split at hk<;>cases hk)
  |invoke r m=>simp only[hc]at hk;cases hk
  |
   builtin b=>
   simp only[hc]at hk
   cases b<;>simp only at hk<;>first|(cases hk;done)|skip
   have e:execOp a.eval {dst:=dst,op:=.call c,type:=type,pos:=pos,after:=after,guard:=guard}=(do pure (Next.value (<-Builtin.len_ c.argTypes type (c.args.map a.eval)))):=by
    simp only[execOp,resolve,hc,pure_bind,invoke,builtin]
   rw[e]
   cases h0:c.argTypes[0]? with
   |none=>rw[h0]at hk;cases hk
   |
    some t=>
    rw[h0]at hk
    simp only[Kv]at hk
    split at hk<;>first|(cases hk;done)|skip
    rename_i k el ht
    exact⟨Qb (Qd _ h0 ht),BU _⟩
theorem YO {P:Program} {G:List FuncId} {o:Oper} {a:Act}(hk:Cp P G o=6):MX P (execOp a.eval o)/\QJ (execOp a.eval o) P:=by
 obtain⟨dst,op,type,pos,after,guard⟩:=o
 cases op<;>simp only[Cp]at hk<;>first|(cases hk;done)|(split at hk<;>cases hk;done)|skip
 case alloc t=>
  refine⟨CV ?_ λ_=>(As _).grows,BU _⟩
  unfold Instr.alloc
  refine CV (Fm _).grows λz=>?_
  exact CV (Jr _ _) λ_=>(As _).grows
 case box t x=>
  refine⟨CV ?_ λ_=>(As _).grows,BU _⟩
  unfold Instr.box
  exact CV (Jr _ _) λ_=>(As _).grows
 case buildSlice t n parts=>
  refine⟨CV ?_ λ_=>(As _).grows,BU _⟩
  unfold Instr.buildSlice
  unfold newRow
  dsimp only
  repeat' (first|exact(As _).grows|exact(AE _).grows|exact(AJ _).grows|exact(Be _).grows|exact(BE _).grows|exact(Fm _).grows|exact GK _|refine CV ?_ (λ_=>?_)|split|dsimp only[])
 case makeMap t r=>
  cases r with
  |some x=>cases hk
  |
   none=>
   refine⟨CV ?_ λ_=>(As _).grows,BU _⟩
   unfold Instr.makeMap
   exact CV (GK _) λ_=>(As _).grows
 case call c=>
  cases hc:c.callee with
  |value f=>simp only[hc]at hk;cases f<;>simp only at hk<;>first|(cases hk;done)|(split at hk<;>cases hk)
  |invoke r m=>simp only[hc]at hk;cases hk
  |
   builtin b=>
   simp only[hc]at hk
   cases b<;>simp only at hk<;>first|(cases hk;done)|(split at hk<;>cases hk)
section
variable {P:Program} {l:List Oper} {ks A:List Nat} {G:List FuncId}
theorem L9 {p:List Nat}(h:Xv P G l ks p A=true):(∀j o,l[j]? =some o->(Cp P G o=ks.getD j 3\/ks.getD j 3=3)/\Cp P G o≠9)/\Stat l.toArray A (λi=>p.idxOf i):=by
 have g:∀j o,l[j]? =some o->(Cp P G o=ks.getD j 3\/ks.getD j 3=3)/\Cp P G o≠9/\(∀e∈o.after,Region.binds .any e=true->e.on<l.length/\p.idxOf e.on<p.idxOf j)/\
   ∀i,i<l.length->(A.getD j 0).testBit i=true->∃e∈o.after,Region.binds .any e=true/\(e.on=i\/(A.getD e.on 0).testBit i=true):=λj o hj=>by
  have hlt:=(Ak.1 hj).1
  have h1:=EA.1 h j (Bk.2 hlt)
  simp only[hj,Aj,Wf,beq_iff_eq,bne_iff_ne,ne_eq]at h1
  obtain⟨⟨⟨h1,h2⟩,h3⟩,h4⟩:=h1
  refine⟨h1,h2,λe he hb=>?_,λi hi hb=>?_⟩
  ·have:=Array.all_eq_true_iff_forall_mem.1 h3 e he
   simpa[hb]using this
  ·have h5:=EA.1 h4 i (Bk.2 hi)
   rw[hb]at h5
   simp only[Bool.not_true,Bool.false_or]at h5
   obtain⟨e,he,h6⟩:=Array.any_eq_true'.1 h5
   simp only[Aj,Wf,beq_iff_eq]at h6
   exact⟨e,he,h6.1,h6.2⟩
 refine⟨λj o hj=>⟨(g j o hj).1,(g j o hj).2.1⟩,⟨λj o hj e he hb=>by simpa using(g j o (by simpa using hj)).2.2.1 e he hb,λj o hj i hi hb=>(g j o (by simpa using hj)).2.2.2 i (by simpa using hi) hb⟩⟩
theorem P4 {o:Oper}(h:Cp P G o≠9)(cs:Array SelectCase)(b:Bool):o.op≠.select cs b:=λe=>h (by simp[Cp,e])
theorem R0 {i j:Nat}(h:Va l ks A i j=true):PairOk l.toArray (λi=>C4 (ks.getD i 3)) A i j:=by
 unfold Va at h
 split at h
 ·rename_i oi oj hi hj
  simp only[Aj,bne_iff_ne,ne_eq,Wf]at h
  obtain⟨⟨h1,h2⟩,h3⟩:=h
  refine⟨h1,λo ho e he hb=>?_,h3.imp id λh4 o o' ho ho'=>?_⟩
  ·have:o=oi:=by simp[hi]at ho;exact ho.symm
   subst this
   have:=Array.all_eq_true_iff_forall_mem.1 h2 e he
   simpa[hb]using this
  ·have e1:o=oi:=by simp[hi]at ho;exact ho.symm
   have e2:o'=oj:=by simp[hj]at ho';exact ho'.symm
   subst e1;subst e2
   exact h4
 ·cases h
theorem K8:∀{p:List Nat},OF l ks A p=true->p.Pairwise (PairOk l.toArray (λi=>C4 (ks.getD i 3)) A)
 |[],_=>List.Pairwise.nil
 |
  i::rest,h=>by
  simp only[OF,Aj]at h
  exact List.Pairwise.cons (λj hj=>R0 (EA.1 h.1 j hj)) (K8 h.2)
theorem Lw {o:Oper} {a:Act} {w:World} {K:Act->World->Prop}(hv:QJ (execOp a.eval o) P)(h:o.wp P a w K No):∃v w1,(execOp a.eval o).run P w=.ok (.value v) w1/\K (a.put o.dst v) w1:=by
 unfold Oper.wp at h
 cases hr:(execOp a.eval o).run P w with
 |
  ok n w1=>
  obtain⟨v,rfl⟩:=hv w n w1 hr
  rw[hr]at h
  exact⟨v,w1,rfl,h⟩
 |
  halt x w1=>
  rw[hr]at h
  cases x<;>simp only[Oper.upon]at h<;>exact h.elim
theorem Lx {Q:Act->World->Prop}(hs:∀j o,l[j]? =some o->(Cp P G o=ks.getD j 3\/ks.getD j 3=3)/\Cp P G o≠9):∀(p:List Nat) (a:Act) (w:World),
  EU P l ks Q p a w->Wk P l.toArray (λi=>C4 (ks.getD i 3)) Q p a w
 |[],_,_,h=>h
 |
  i::rest,a,w,h=>by
  have ih:=Lx (Q:=Q) hs rest
  simp only[EU,Wk]at h⊢
  cases hi:l[i]? with
  |none=>simp[hi]at h
  |
   some o=>
   have hi':l.toArray[i]? =some o:=by simpa using hi
   simp only[hi,hi']at h⊢
   obtain⟨hk0',h9⟩:=hs i o hi
   have hk:∀n,ks.getD i 3=n->n≠3->Cp P G o=n:=λn e hn=>by
    rcases hk0' with h'|h'
    ·exact h'.trans e
    ·exact absurd (e.symm.trans h') hn
   by_cases hw:Region.wanted o (yielded l.toArray a.tmps)=true
   ·simp only[hw,if_true]at h
    split at h
    ·rename_i hk0
     obtain⟨hd,h⟩:=h
     obtain⟨hS,hV⟩:=YQ (a:=a) (hk _ hk0 (by decide)) hd
     obtain⟨v,w1,hr,hK⟩:=Lw hV h
     obtain⟨rfl,h2⟩:=hS _ _ _ hr
     simp only[hk0,C4,Nz]
     exact⟨v,.inl ⟨hw,h2⟩,ih _ _ hK⟩
    ·rename_i hk5
     obtain⟨v,hv,hK⟩:=h
     simp only[hk5,C4,Nz]
     exact⟨v,.inl ⟨hw,hv⟩,ih _ _ hK⟩
    ·rename_i hk2
     simp only[hk2,C4,Nz,Kw,hw,if_true]
     exact Oper.wp_imp (λa' w' h=>⟨h.1,ih _ _ h.2⟩) h
    ·rename_i n0 n5 n2
     have any3:Nz P l.toArray 3 o (Wk P l.toArray (λi=>C4 (ks.getD i 3)) Q rest) a w:=by
      simp only[Nz,Kw,hw,if_true];exact Oper.wp_imp ih h
     by_cases h1:ks.getD i 3=1
     ·obtain⟨hM,hV⟩:=YP (a:=a) (hk _ h1 (by decide))
      obtain⟨v,w1,hr,hK⟩:=Lw hV h
      obtain⟨rfl,h2⟩:=hM _ _ _ hr
      simp only[h1,C4,Nz]
      exact⟨v,.inl ⟨hw,h2⟩,ih _ _ hK⟩
     ·by_cases h6:ks.getD i 3=6
      ·obtain⟨hG,hV⟩:=YO (a:=a) (hk _ h6 (by decide))
       obtain⟨v,w1,hr,hK⟩:=Lw hV h
       simp only[h6,C4,Nz,Kw,hw,if_true,Oper.wp,hr,Oper.upon]
       exact⟨(hG _ _ _ hr).1,ih _ _ hK⟩
      ·have:C4 (ks.getD i 3)=3:=by
        unfold C4
        split<;>simp_all
       rw[this];exact any3
   ·simp only[hw]at h
    have hw':Region.wanted o (yielded l.toArray a.tmps)=false:=by simpa using hw
    have hK:=ih _ _ h
    have hc:=SN (ks.getD i 3)
    have:C4 (ks.getD i 3)=0\/C4 (ks.getD i 3)=1\/C4 (ks.getD i 3)=2\/C4 (ks.getD i 3)=3:=by omega
    rcases this with h0|h0|h0|h0<;>rw[h0]<;>simp only[Nz]
    ·exact⟨undef,.inr ⟨hw',rfl⟩,hK⟩
    ·exact⟨undef,.inr ⟨hw',rfl⟩,hK⟩
    ·simp only[Kw,hw',Dd,if_false];exact⟨GZ.refl _,hK⟩
    ·simp only[Kw,hw',Dd,if_false];exact hK
theorem MP {Q:Exit->Act->World->Prop} {a:Act} {w:World}(G:List FuncId)(ks p A:List Nat)(hB:Hv P G l ks p A=true)
  (h:EU P l ks (λa w=>Q .normal a w) p a w):wpAny P .any l.toArray Q l.toArray.size (Array.replicate l.toArray.size false) a w:=by
 simp only[Hv,Aj,beq_iff_eq,EA,decide_eq_true_eq,Bk]at hB
 obtain⟨⟨⟨⟨h1,h2⟩,h3⟩,h4⟩,h5⟩:=hB
 obtain⟨hs,S⟩:=L9 h1
 have hp:=K8 h2
 have e:l.toArray.size=p.length:=by simp[h3]
 rw[e]
 refine QH (cls:=λi=>C4 (ks.getD i 3)) (A:=A) (λi=>SN _) (λj o cs b hj=>P4 (P:=P) (G:=G) (hs j o (by simpa using hj)).2 cs b) S (λa w h=>h) p.length p _ a _ rfl ?_ (Lx hs p a _ h)
 refine⟨by simp[h3],λj oj _ hl=>?_,λi hi=>?_,λi hi=>by simpa using h4 i hi,hp⟩
 ·have:∀(m j:Nat),(Array.replicate m false).getD j false=false:=λm j=>by
   rcases Ei j m with h|h<;>simp[h]
  rw[this]at hl;cases hl
 ·have hi':i<l.length:=by simpa using hi
  have hm:=h5 i hi'
  have hip:i<p.length:=by omega
  have e2:(Array.replicate p.length false).getD i true=false:=by simp[hip]
  rw[e2]
  simpa using hm
theorem Hb {id:Nat} {Q:Exit->Act->World->Prop} {a:Act} {w:World}(G:List FuncId)(ks p A:List Nat)(hm:P.follows .mixedOrders=true)(hB:Hv P G l ks p A=true)
  (h:EU P l ks (λa w=>Q .normal a w) p a w.drew):(Code.region id l.toArray true).wp P Q a w:=
 wp_region_any hm (MP G ks p A hB h)
end
end Go.Reg
