/- Rgc. -/
import Derived.Test.YtjejpdfldmempaaGreatDoorltab
namespace Go.Reg
open Go Go.RowKit
def VV(s:Sem Next)(P:Program):Prop:=∀w n w1,s.run P w=.ok n w1->∃v,n=.value v
theorem C5 {P:Program}(s:Sem Value):VV (do pure (.value (<-s))) P:=λw n w1 h=>by
 rw[A0]at h
 cases hs:s.run P w with
 |halt x w'=>rw[hs]at h;simp at h
 |ok a w'=>rw[hs]at h;simp at h;exact⟨a,h.1.symm⟩
theorem LL {α β:Type} {P:Program} {s:Sem α} {f:α->Sem β} {d:α}(h:∀w,s.run P w=.ok d w)(hf:C9 P (f d)):C9 P (s>>=f):=by
 intro w b w1 hr
 rw[A0,h w]at hr
 obtain⟨h1,h2⟩:=hf w b w1 hr
 exact⟨h1,λw2=>by rw[A0,h w2];exact h2 w2⟩
theorem gH {α β:Type} {P:Program} {s:Sem α} {f:α->Sem β} {d:α}(h:∀w,s.run P w=.ok d w)(hf:L0 P (f d)):L0 P (s>>=f):=by
 intro w b w1 hr
 rw[A0,h w]at hr
 obtain⟨h1,h2⟩:=hf w b w1 hr
 exact⟨h1,λw2 he=>by rw[A0,h w2];exact h2 w2 he⟩
theorem LK {P:Program}(op:BinOp)(k:IntKind)(x y:Int):C9 P (Op.intBits op k x y):=by
 unfold Op.intBits
 repeat' (first|exact A8 _|exact AS _|split|dsimp only[])
theorem W4 {P:Program}(op:UnOp)(x:Value):C9 P (Op.unary op x):=by
 unfold Op.unary
 split<;>first|exact K8 _ _ _ _|exact LK _ _ _ _|exact A8 _|exact Bb _|exact AS _
def I9:Value->Value->Bool
 |.bool _,.bool _|.pointer none,.pointer _|.pointer (some _),.pointer none|.iface _ _,.nilIface|.nilIface,.nilIface=>true
 |.slice none _ _,.slice _ _ _|.slice (some _) _ _,.slice none _ _|.map none,.map _|.map (some _),.map none|.nilFunc,.nilFunc|.func _ _ _,.nilFunc=>true
 |_,_=>false
theorem Pp {P:Program}(t:TypeId) {x y:Value}(h:I9 x y=true):C9 P (Op.equal t x y):=by
 unfold Op.equal
 rw[show Op.maxDepth=9999+1 from rfl,Op.equalIn]
 refine Bn (B6 _) λd=>?_
 unfold I9 at h
 split at h<;>first|(cases h;done)|skip
 ·cases d<;>first|exact A8 _|exact AS _|exact Bb _
 ·rename_i b
  cases b<;>cases d<;>first|exact A8 _|exact AS _|exact Bb _
 all_goals (cases d<;>first|exact A8 _|exact AS _|exact Bb _|(rename_i o _ _;cases o<;>first|exact A8 _|exact AS _|exact Bb _)|(rename_i o;cases o<;>first|exact A8 _|exact AS _|exact Bb _))
theorem S4 {P:Program}(op:BinOp)(t:TypeId)(x y:Operand) {a b:Value}(h:I9 a b=true)(hn:a=.nilIface->b=.nilIface->y=.const .nilIface):C9 P (eqGuard op t x y a b):=by
 unfold I9 at h
 split at h<;>first|(cases h;done)|skip
 ·cases op<;>exact A8 _
 ·cases op<;>exact A8 _
 ·cases op<;>exact A8 _
 ·cases op<;>exact A8 _
 ·rw[hn rfl rfl]
  cases op<;>first|exact A8 _|(unfold eqGuard;simp only[Bool.or_true,if_true];exact A8 _)
 all_goals (cases op<;>exact A8 _)
theorem W6 {P:Program}(op:BinOp)(k:IntKind)(x:Int)(yk:IntKind)(y:Int):C9 P (Op.shift op k x yk y):=by
 unfold Op.shift
 split
 ·exact Cs _
 ·dsimp only;split<;>first|exact A8 _|exact AS _
theorem WA {P:Program}(op:BinOp)(t:TypeId)(x y:Operand) {a b:Value}(h:DV op a b=true\/(a=.nilIface/\b=.nilIface/\y=.const .nilIface/\(op=.eql\/op=.neq))):
  C9 P (do eqGuard op t x y a b;binOp op t a b):=by
 have viaEq:∀{a b:Value},I9 a b=true->(a=.nilIface->b=.nilIface->y=.const .nilIface)->(op=.eql\/op=.neq)->
   (∀(k k':IntKind) i j,¬(a=.int k i/\b=.int k' j))->C9 P (do eqGuard op t x y a b;binOp op t a b):=λ{a b} he hn hop hni=>by
  refine Bn (S4 op t x y he hn) λ_=>?_
  rcases hop with rfl|rfl
  ·unfold I9 at he
   split at he<;>first|(cases he;done)|exact Bn (Pp t rfl) λ_=>A8 _
  ·unfold I9 at he
   split at he<;>first|(cases he;done)|exact Bn (Pp t rfl) λ_=>A8 _
 have eqOp:Kb op=true->(op=.eql\/op=.neq):=λhh=>by
  cases op<;>first|(cases hh;done)|exact Or.inl rfl|exact Or.inr rfl
 rcases h with h|⟨rfl,rfl,hy,hop⟩
 ·unfold DV at h
  split at h<;>first|(cases h;done)|skip
  ·have g:∀(k k':IntKind) (i j:Int),C9 P (eqGuard op t x y (.int k i) (.int k' j)):=λ_ _ _ _=>by
    cases op<;>exact A8 _
   refine Bn (g _ _ _ _) λ_=>?_
   cases op<;>first|(cases h;done)|skip
   all_goals (unfold binOp;dsimp only;first|exact W6 _ _ _ _ _|(split<;>first|exact AS _|exact K8 _ _ _ _|exact TQ _ _ _ _|exact LK _ _ _ _|exact TR _ _ _))
  ·have g:∀i j,C9 P (eqGuard op t x y (.string i) (.string j)):=λ_ _=>by
    cases op<;>exact A8 _
   refine Bn (g _ _) λ_=>?_
   cases op<;>(unfold binOp;dsimp only;first|exact QL _ _ _|exact AS _)
  all_goals exact viaEq rfl (λh=>by cases h) (eqOp h) (λ_ _ _ _ h=>by cases h.1)
 ·exact viaEq rfl (λ_ _=>hy) hop (λ_ _ _ _ h=>by cases h.1)
theorem D9 {P:Program} {s:Sem Value}(h:C9 P s):C9 P (do pure (Next.value (<-s))):=Bn h λ_=>A8 _
theorem Nr {α:Type} {P:Program}(a:α):L0 P (pure a:Sem α):=(A8 a).mono
theorem U7 {P:Program} {s:Sem Value}(h:L0 P s):L0 P (do pure (Next.value (<-s))):=FH h λ_=>Nr _
theorem ZY {α β:Type} {P:Program} {f:α->Sem β}(h:∀a,C9 P (f a))(l:Array α):C9 P (l.mapM f):=by
 rw[Array.mapM_eq_mapM_toList]
 have:∀l:List α,C9 P (l.mapM f):=λl=>by
  induction l with
  |nil=>simp only[List.mapM_nil];exact A8 _
  |cons x l ih=>simp only[List.mapM_cons];exact Bn (h x) λ_=>Bn ih λ_=>A8 _
 exact Bn (this _) λ_=>A8 _
theorem W9 {P:Program}(t:TypeId) {fs:Array Field}(ht:P.underlying t=some (.struct fs))(parts:Array (Nat×Value)):C9 P (Instr.build t parts):=by
 unfold Instr.build
 refine Bn (G4 _) λz=>?_
 dsimp only
 refine LL (λw=>run_underlying ht w) ?_
 dsimp only
 refine Bn (ZY (λf=>Bn (Cl _) λ_=>A8 _) _) λplaces=>?_
 split<;>first|exact A8 _|exact AS _
theorem TP {P:Program} {tys:Array TypeId} {t:TypeId} {args:Array Value}(ty:TypeId)(h0:tys[0]? =some t)(ht:P.underlying t=some .string\/∃e,P.underlying t=some (.slice e)):C9 P (Builtin.len_ tys ty args):=by
 unfold Builtin.len_
 rw[h0]
 cases hx:args[0]? with
 |none=>exact AS _
 |
  some x=>
  dsimp only
  rcases ht with ht|⟨e,ht⟩
  ·refine LL (λw=>run_underlying ht w) ?_
   cases x<;>first|exact A8 _|exact AS _
  ·refine LL (λw=>run_underlying ht w) ?_
   cases x<;>first|exact A8 _|exact AS _
theorem UA {P:Program}(r:Nat):L0 P (getObj r):=λw o w1 h=>by
 simp only[getObj,Sem.run]at h⊢
 split at h<;>first|(simp at h;done)|skip
 rename_i o' h1 h2
 simp only[Result.ok.injEq]at h
 obtain⟨rfl,rfl⟩:=h
 refine⟨rfl,λw2 he=>?_⟩
 rw[he.of_some h2]
 cases o'<;>first|rfl|exact(h1 _ _ _ rfl).elim
theorem U9 {P:Program} {tys:Array TypeId} {t k e:TypeId} {args:Array Value}(ty:TypeId)(h0:tys[0]? =some t)(ht:P.underlying t=some (.map k e)):L0 P (Builtin.len_ tys ty args):=by
 unfold Builtin.len_
 rw[h0]
 cases hx:args[0]? with
 |none=>exact(AS _).mono
 |
  some x=>
  dsimp only
  refine gH (λw=>run_underlying ht w) ?_
  cases x<;>first|exact(A8 _).mono|exact(AS _).mono|skip
  rename_i r
  cases r
  ·exact(A8 _).mono
  ·refine FH (UA _) λo=>?_
   split<;>first|exact(A8 _).mono|exact(AS _).mono
theorem Zx {P:Program} {w:World} {x:Addr} {u:TypeId} {k:Addr} {at_:Bool}(e:w.heap[x.block]? =none) {r}(h:w.seen P x u k at_=.ok r):False:=by
 unfold World.seen at h
 rw[e]at h
 simp only[bind,Except.bind]at h
 repeat' (first|(cases h;done)|split at h)
theorem Si {P:Program} {w w2:World}(he:Ij w w2) {x:Addr} {u:TypeId} {k:Addr} {at_:Bool} {r:Value×List Addr}(h:w.viewLoad P x u k at_=.ok r):w2.viewLoad P x u k at_=.ok r:=by
 by_cases hb:x.block<w.heap.size
 ·have e:w2.heap[x.block]? =w.heap[x.block]? :=he _ hb
  have:w2.seen P x u k at_=w.seen P x u k at_:=by unfold World.seen;rw[e]
  unfold World.viewLoad at h⊢
  rw[this];exact h
 ·exfalso
  have e:w.heap[x.block]? =none:=by simp;omega
  unfold World.viewLoad at h
  cases hs:w.seen P x u k at_ with
  |error m=>rw[hs]at h;cases h
  |ok v=>exact Zx e hs
theorem R6 {P:Program}(a:Addr):L0 P (load a):=λw v w1 h=>by
 simp only[load,Sem.run]at h⊢
 cases hc:w.cell? a with
 |
  some u=>
  simp only[hc,Result.ok.injEq]at h
  obtain⟨rfl,rfl⟩:=h
  refine⟨rfl,λw2 he=>?_⟩
  have hb:a.block<w.heap.size:=by
   unfold World.cell? at hc
   split at hc
   ·rename_i h1;exact(A6.1 h1).1
   ·cases hc
  have:w2.cell? a=w.cell? a:=by unfold World.cell?;rw[he _ hb]
  rw[this,hc]
 |
  none=>
  simp only[hc]at h
  unfold World.farLoad at h
  split at h
  ·rename_i x hx
   split at hx
   ·rename_i at_ u hb
    split at hx
    ·rename_i r hv
     cases hx
     simp only[Result.ok.injEq]at h
     obtain⟨rfl,rfl⟩:=h
     refine⟨rfl,λw2 he=>?_⟩
     have hb2:=he.of_some hb
     have hc2:w2.cell? a=none:=by unfold World.cell?;rw[hb2]
     rw[hc2]
     simp only[World.farLoad,hb2,Si he hv]
    ·cases hx
   ·cases hx
  ·simp at h
theorem Jo {P:Program}(a:Addr):∀(n i:Nat) (acc:Array Value),L0 P (loadCellsFrom a i n acc)
 |0,_,_=>Nr _
 |
  n+1,i,acc=>by
  unfold loadCellsFrom
  exact FH (R6 _) λ_=>Jo a n _ _
theorem U8 {P:Program}(t:TypeId)(v:Value):L0 P (Instr.loadAt t v):=by
 unfold Instr.loadAt loadVar
 refine FH (Cd _).mono λa=>FH (Po _).mono λb=>?_
 split
 ·exact FH (Cl _).mono λn=>FH (Jo a n 0 #[]) λ_=>Nr _
 ·exact R6 _
def QE {α:Type}(P:Program)(s:Sem α):Prop:=∀w a w1,s.run P w=.ok a w1->Ij w w1/\w.heap.size<=w1.heap.size
theorem C9.grows {α:Type} {P:Program} {s:Sem α}(h:C9 P s):QE P s:=λw a w1 hr=>by
 obtain⟨rfl,_⟩:=h w a w1 hr;exact⟨Ij.refl _,Av _⟩
theorem DD {α β:Type} {P:Program} {s:Sem α} {f:α->Sem β}(h:QE P s)(hf:∀a,QE P (f a)):QE P (s>>=f):=by
 intro w b w1 hr
 rw[A0]at hr
 cases hs:s.run P w with
 |halt x w'=>rw[hs]at hr;simp at hr
 |
  ok a w'=>
  rw[hs]at hr
  obtain⟨h1,h2⟩:=h w a w' hs
  obtain⟨h3,h4⟩:=hf a _ b w1 hr
  exact⟨h1.trans h3 h2,Cv h2 h4⟩
theorem I4 {P:Program}(o:Obj):QE P (newObj o):=λw r w1 h=>by
 simp only[newObj,Sem.run,Result.ok.injEq]at h
 obtain⟨_,rfl⟩:=h
 refine⟨λk hk=>?_,by simp⟩
 show(w.heap.push o)[k]? =_
 rw[Array.getElem?_push,if_neg (by omega)]
theorem Mt {P:Program}(t:TypeId)(v:Value):QE P (newVar t v):=by
 unfold newVar newRow
 exact DD (I4 _) λ_=>(A8 _).grows
theorem sF {P:Program} {G:List FuncId} {o:Oper} {a:Act}(hk:CJ P G o=0)(hd:Bf a o=true):C9 P (execOp a.eval o)/\VV (execOp a.eval o) P:=by
 obtain⟨dst,op,type,pos,after,guard⟩:=o
 cases op<;>simp only[CJ]at hk<;>first|(cases hk;done)|skip
 case move x=>exact⟨A8 _,λw n w1 h=>by simp[execOp]at h;exact⟨_,h.1.symm⟩⟩
 case assign x=>exact⟨A8 _,λw n w1 h=>by simp[execOp]at h;exact⟨_,h.1.symm⟩⟩
 case pick c x y=>exact⟨Bn (CH _) λ_=>A8 _,λw n w1 h=>by
  simp only[execOp,A0]at h
  cases hs:(asBool (a.eval c)).run P w with
  |halt x w'=>rw[hs]at h;simp at h
  |ok b w'=>rw[hs]at h;simp at h;exact⟨_,h.1.symm⟩⟩
 case build t parts=>
  split at hk
  ·rename_i fs ht;exact⟨D9 (W9 t ht _),C5 _⟩
  ·cases hk
 case nilCheck x=>
  simp only[Bf]at hd
  unfold execOp
  dsimp only
  cases hx:a.eval x with
  |pointer p=>cases p<;>first|exact⟨Cs _,λw n w1 h=>absurd h (FW _ w n w1)⟩|exact⟨A8 _,λw n w1 h=>by simp at h;exact⟨_,h.1.symm⟩⟩
  |nilIface=>exact⟨Cs _,λw n w1 h=>absurd h (FW _ w n w1)⟩
  |nilFunc=>exact⟨Cs _,λw n w1 h=>absurd h (FW _ w n w1)⟩
  |func f u v=>rw[hx]at hd;cases hd
  |_=>exact⟨A8 _,λw n w1 h=>by simp at h;exact⟨_,h.1.symm⟩⟩
 case binOp op t x y yt=>
  simp only[Bf,Di]at hd
  refine⟨D9 (WA op t x y (hd.imp id λh=>?_)),C5 _⟩
  unfold I1 at h
  split at h
  ·rename_i hx
   refine⟨hx,rfl,rfl,?_⟩
   cases op<;>first|(cases h;done)|exact Or.inl rfl|exact Or.inr rfl
  ·cases h
 case unOp op t x=>exact⟨D9 (W4 op _),C5 _⟩
 case convert s d x=>
  split at hk
  ·rename_i k hd'
   refine⟨D9 ?_,C5 _⟩
   simp only[Bf]at hd
   cases hx:a.eval x with
   |
    int j n=>
    unfold Go.convert
    refine Bn (B6 _) λe=>LL (λw=>run_underlying hd' w) ?_
    cases e<;>(dsimp only;unfold Conv.intToInt;exact A8 _)
   |_=>rw[hx]at hd;cases hd
  ·cases hk
 case makeInterface t x=>exact⟨D9 (KO _ _),C5 _⟩
 case makeFunc f u v=>exact⟨D9 (by unfold Instr.makeFunc;exact A8 _),C5 _⟩
 case slice t x l h m=>exact⟨D9 (Sy _ _ _ _ _),C5 _⟩
 case fieldAddr s x f=>
  split at hk
  ·rename_i hs;exact⟨D9 (S0 hs _ _),C5 _⟩
  ·cases hk
 case field t x f=>exact⟨D9 (W8 _ _ _),C5 _⟩
 case indexAddr t x i=>exact⟨D9 (Sz _ _ _),C5 _⟩
 case index t x i=>exact⟨D9 (W7 _ _ _),C5 _⟩
 case extract t i=>exact⟨D9 (S3 _ _),C5 _⟩
 case makeMap t r=>cases r<;>cases hk
 case call c=>
  cases hc:c.callee with
  |value f=>simp only[hc]at hk;cases f<;>simp only at hk<;>first|(cases hk;done)|(split at hk<;>cases hk)
  |invoke r m=>simp only[hc]at hk;cases hk
  |
   builtin b=>
   simp only[hc]at hk
   cases b<;>simp only at hk<;>first|(cases hk;done)|skip
   have e:execOp a.eval {dst:=dst,op:=.call c,type:=type,pos:=pos,after:=after,guard:=guard}=(do pure (Next.value (<-Builtin.len_ c.argTypes type (c.args.map a.eval)))):=by
    simp only[execOp,resolve,hc,pure_bind,invoke,builtin]
   rw[e]
   cases h0:c.argTypes[0]? with
   |none=>rw[h0]at hk;cases hk
   |
    some t=>
    rw[h0]at hk
    simp only[NJ]at hk
    split at hk<;>first|(cases hk;done)|skip
    ·rename_i el ht;exact⟨D9 (TP _ h0 (Or.inr ⟨_,ht⟩)),C5 _⟩
    ·rename_i ht;exact⟨D9 (TP _ h0 (Or.inl ht)),C5 _⟩
theorem sE {P:Program} {G:List FuncId} {o:Oper} {a:Act}(hk:CJ P G o=1):L0 P (execOp a.eval o)/\VV (execOp a.eval o) P:=by
 obtain⟨dst,op,type,pos,after,guard⟩:=o
 cases op<;>simp only[CJ]at hk<;>first|(cases hk;done)|(split at hk<;>cases hk;done)|skip
 case load t x=>exact⟨U7 (U8 _ _),C5 _⟩
 case makeMap t r=>cases r<;>cases hk
 case call c=>
  cases hc:c.callee with
  |value f=>simp only[hc]at hk;cases f<;>simp only at hk<;>first|(cases hk;done)|(split at hk<;>cases hk)
  |invoke r m=>simp only[hc]at hk;cases hk
  |
   builtin b=>
   simp only[hc]at hk
   cases b<;>simp only at hk<;>first|(cases hk;done)|skip
   have e:execOp a.eval {dst:=dst,op:=.call c,type:=type,pos:=pos,after:=after,guard:=guard}=(do pure (Next.value (<-Builtin.len_ c.argTypes type (c.args.map a.eval)))):=by
    simp only[execOp,resolve,hc,pure_bind,invoke,builtin]
   rw[e]
   cases h0:c.argTypes[0]? with
   |none=>rw[h0]at hk;cases hk
   |
    some t=>
    rw[h0]at hk
    simp only[NJ]at hk
    split at hk<;>first|(cases hk;done)|skip
    rename_i k el ht
    exact⟨U7 (U9 _ h0 ht),C5 _⟩
theorem sD {P:Program} {G:List FuncId} {o:Oper} {a:Act}(hk:CJ P G o=6):QE P (execOp a.eval o)/\VV (execOp a.eval o) P:=by
 obtain⟨dst,op,type,pos,after,guard⟩:=o
 cases op<;>simp only[CJ]at hk<;>first|(cases hk;done)|(split at hk<;>cases hk;done)|skip
 case alloc t=>
  refine⟨DD ?_ λ_=>(A8 _).grows,C5 _⟩
  unfold Instr.alloc
  refine DD (G4 _).grows λz=>?_
  exact DD (Mt _ _) λ_=>(A8 _).grows
 case box t x=>
  refine⟨DD ?_ λ_=>(A8 _).grows,C5 _⟩
  unfold Instr.box
  exact DD (Mt _ _) λ_=>(A8 _).grows
 case buildSlice t n parts=>
  refine⟨DD ?_ λ_=>(A8 _).grows,C5 _⟩
  unfold Instr.buildSlice
  unfold newRow
  dsimp only
  repeat' (first|exact(A8 _).grows|exact(AS _).grows|exact(Bb _).grows|exact(B6 _).grows|exact(Cl _).grows|exact(G4 _).grows|exact I4 _|refine DD ?_ (λ_=>?_)|split|dsimp only[])
 case makeMap t r=>
  cases r with
  |some x=>cases hk
  |
   none=>
   refine⟨DD ?_ λ_=>(A8 _).grows,C5 _⟩
   unfold Instr.makeMap
   exact DD (I4 _) λ_=>(A8 _).grows
 case call c=>
  cases hc:c.callee with
  |value f=>simp only[hc]at hk;cases f<;>simp only at hk<;>first|(cases hk;done)|(split at hk<;>cases hk)
  |invoke r m=>simp only[hc]at hk;cases hk
  |
   builtin b=>
   simp only[hc]at hk
   cases b<;>simp only at hk<;>first|(cases hk;done)|(split at hk<;>cases hk)
section
variable {P:Program} {l:List Oper} {ks A:List Nat} {G:List FuncId}
theorem Pk {p:List Nat}(h:nZ P G l ks p A=true):(∀j o,l[j]? =some o->(CJ P G o=ks.getD j 3\/ks.getD j 3=3)/\CJ P G o≠9)/\Stat l.toArray A (λi=>p.idxOf i):=by
 have g:∀j o,l[j]? =some o->(CJ P G o=ks.getD j 3\/ks.getD j 3=3)/\CJ P G o≠9/\(∀e∈o.after,Region.binds .any e=true->e.on<l.length/\p.idxOf e.on<p.idxOf j)/\
   ∀i,i<l.length->(A.getD j 0).testBit i=true->∃e∈o.after,Region.binds .any e=true/\(e.on=i\/(A.getD e.on 0).testBit i=true):=λj o hj=>by
  have hlt:=(Ad.1 hj).1
  have h1:=Cr.1 h j (AO.2 hlt)
  simp only[hj,Ah,Di,beq_iff_eq,bne_iff_ne,ne_eq]at h1
  obtain⟨⟨⟨h1,h2⟩,h3⟩,h4⟩:=h1
  refine⟨h1,h2,λe he hb=>?_,λi hi hb=>?_⟩
  ·have:=Array.all_eq_true_iff_forall_mem.1 h3 e he
   simpa[hb]using this
  ·have h5:=Cr.1 h4 i (AO.2 hi)
   rw[hb]at h5
   simp only[Bool.not_true,Bool.false_or]at h5
   obtain⟨e,he,h6⟩:=Array.any_eq_true'.1 h5
   simp only[Ah,Di,beq_iff_eq]at h6
   exact⟨e,he,h6.1,h6.2⟩
 refine⟨λj o hj=>⟨(g j o hj).1,(g j o hj).2.1⟩,⟨λj o hj e he hb=>by simpa using(g j o (by simpa using hj)).2.2.1 e he hb,λj o hj i hi hb=>(g j o (by simpa using hj)).2.2.2 i (by simpa using hi) hb⟩⟩
theorem TN {o:Oper}(h:CJ P G o≠9)(cs:Array SelectCase)(b:Bool):o.op≠.select cs b:=λe=>h (by simp[CJ,e])
theorem WT {i j:Nat}(h:fQ l ks A i j=true):PairOk l.toArray (λi=>Dd (ks.getD i 3)) A i j:=by
 unfold fQ at h
 split at h
 ·rename_i oi oj hi hj
  simp only[Ah,bne_iff_ne,ne_eq,Di]at h
  obtain⟨⟨h1,h2⟩,h3⟩:=h
  refine⟨h1,λo ho e he hb=>?_,h3.imp id λh4 o o' ho ho'=>?_⟩
  ·have:o=oi:=by simp[hi]at ho;exact ho.symm
   subst this
   have:=Array.all_eq_true_iff_forall_mem.1 h2 e he
   simpa[hb]using this
  ·have e1:o=oi:=by simp[hi]at ho;exact ho.symm
   have e2:o'=oj:=by simp[hj]at ho';exact ho'.symm
   subst e1;subst e2
   exact h4
 ·cases h
theorem Oc:∀{p:List Nat},SF l ks A p=true->p.Pairwise (PairOk l.toArray (λi=>Dd (ks.getD i 3)) A)
 |[],_=>List.Pairwise.nil
 |
  i::rest,h=>by
  simp only[SF,Ah]at h
  exact List.Pairwise.cons (λj hj=>WT (Cr.1 h.1 j hj)) (Oc h.2)
theorem OR {o:Oper} {a:Act} {w:World} {K:Act->World->Prop}(hv:VV (execOp a.eval o) P)(h:o.wp P a w K No):∃v w1,(execOp a.eval o).run P w=.ok (.value v) w1/\K (a.put o.dst v) w1:=by
 unfold Oper.wp at h
 cases hr:(execOp a.eval o).run P w with
 |
  ok n w1=>
  obtain⟨v,rfl⟩:=hv w n w1 hr
  rw[hr]at h
  exact⟨v,w1,rfl,h⟩
 |
  halt x w1=>
  rw[hr]at h
  cases x<;>simp only[Oper.upon]at h<;>exact h.elim
theorem OT {Q:Act->World->Prop}(hs:∀j o,l[j]? =some o->(CJ P G o=ks.getD j 3\/ks.getD j 3=3)/\CJ P G o≠9):∀(p:List Nat) (a:Act) (w:World),
  GQ P l ks Q p a w->kK P l.toArray (λi=>Dd (ks.getD i 3)) Q p a w
 |[],_,_,h=>h
 |
  i::rest,a,w,h=>by
  have ih:=OT (Q:=Q) hs rest
  simp only[GQ,kK]at h⊢
  cases hi:l[i]? with
  |none=>simp[hi]at h
  |
   some o=>
   have hi':l.toArray[i]? =some o:=by simpa using hi
   simp only[hi,hi']at h⊢
   obtain⟨hk0',h9⟩:=hs i o hi
   have hk:∀n,ks.getD i 3=n->n≠3->CJ P G o=n:=λn e hn=>by
    rcases hk0' with h'|h'
    ·exact h'.trans e
    ·exact absurd (e.symm.trans h') hn
   by_cases hw:Region.wanted o (yielded l.toArray a.tmps)=true
   ·simp only[hw,if_true]at h
    split at h
    ·rename_i hk0
     obtain⟨hd,h⟩:=h
     obtain⟨hS,hV⟩:=sF (a:=a) (hk _ hk0 (by decide)) hd
     obtain⟨v,w1,hr,hK⟩:=OR hV h
     obtain⟨rfl,h2⟩:=hS _ _ _ hr
     simp only[hk0,Dd,Rh]
     exact⟨v,.inl ⟨hw,h2⟩,ih _ _ hK⟩
    ·rename_i hk5
     obtain⟨v,hv,hK⟩:=h
     simp only[hk5,Dd,Rh]
     exact⟨v,.inl ⟨hw,hv⟩,ih _ _ hK⟩
    ·rename_i hk2
     simp only[hk2,Dd,Rh,NR,hw,if_true]
     exact Oper.wp_imp (λa' w' h=>⟨h.1,ih _ _ h.2⟩) h
    ·rename_i n0 n5 n2
     have any3:Rh P l.toArray 3 o (kK P l.toArray (λi=>Dd (ks.getD i 3)) Q rest) a w:=by
      simp only[Rh,NR,hw,if_true];exact Oper.wp_imp ih h
     by_cases h1:ks.getD i 3=1
     ·obtain⟨hM,hV⟩:=sE (a:=a) (hk _ h1 (by decide))
      obtain⟨v,w1,hr,hK⟩:=OR hV h
      obtain⟨rfl,h2⟩:=hM _ _ _ hr
      simp only[h1,Dd,Rh]
      exact⟨v,.inl ⟨hw,h2⟩,ih _ _ hK⟩
     ·by_cases h6:ks.getD i 3=6
      ·obtain⟨hG,hV⟩:=sD (a:=a) (hk _ h6 (by decide))
       obtain⟨v,w1,hr,hK⟩:=OR hV h
       simp only[h6,Dd,Rh,NR,hw,if_true,Oper.wp,hr,Oper.upon]
       exact⟨(hG _ _ _ hr).1,ih _ _ hK⟩
      ·have:Dd (ks.getD i 3)=3:=by
        unfold Dd
        split<;>simp_all
       rw[this];exact any3
   ·simp only[hw]at h
    have hw':Region.wanted o (yielded l.toArray a.tmps)=false:=by simpa using hw
    have hK:=ih _ _ h
    have hc:=YM (ks.getD i 3)
    have:Dd (ks.getD i 3)=0\/Dd (ks.getD i 3)=1\/Dd (ks.getD i 3)=2\/Dd (ks.getD i 3)=3:=by omega
    rcases this with h0|h0|h0|h0<;>rw[h0]<;>simp only[Rh]
    ·exact⟨undef,.inr ⟨hw',rfl⟩,hK⟩
    ·exact⟨undef,.inr ⟨hw',rfl⟩,hK⟩
    ·simp only[NR,hw',BZ,if_false];exact⟨Ij.refl _,hK⟩
    ·simp only[NR,hw',BZ,if_false];exact hK
theorem VP {Q:Exit->Act->World->Prop} {a:Act} {w:World}(G:List FuncId)(ks p A:List Nat)(hB:Ry P G l ks p A=true)
  (h:GQ P l ks (λa w=>Q .normal a w) p a w):wpAny P .any l.toArray Q l.toArray.size (Array.replicate l.toArray.size false) a w:=by
 simp only[Ry,Ah,beq_iff_eq,Cr,decide_eq_true_eq,AO]at hB
 obtain⟨⟨⟨⟨h1,h2⟩,h3⟩,h4⟩,h5⟩:=hB
 obtain⟨hs,S⟩:=Pk h1
 have hp:=Oc h2
 have e:l.toArray.size=p.length:=by simp[h3]
 rw[e]
 refine VQ (cls:=λi=>Dd (ks.getD i 3)) (A:=A) (λi=>YM _) (λj o cs b hj=>TN (P:=P) (G:=G) (hs j o (by simpa using hj)).2 cs b) S (λa w h=>h) p.length p _ a _ rfl ?_ (OT hs p a _ h)
 refine⟨by simp[h3],λj oj _ hl=>?_,λi hi=>?_,λi hi=>by simpa using h4 i hi,hp⟩
 ·have:∀(m j:Nat),(Array.replicate m false).getD j false=false:=λm j=>by
   rcases Bu j m with h|h<;>simp[h]
  rw[this]at hl;cases hl
 ·have hi':i<l.length:=by simpa using hi
  have hm:=h5 i hi'
  have hip:i<p.length:=by omega
  have e2:(Array.replicate p.length false).getD i true=false:=by simp[hip]
  rw[e2]
  simpa using hm
theorem GP {id:Nat} {Q:Exit->Act->World->Prop} {a:Act} {w:World}(G:List FuncId)(ks p A:List Nat)(hm:P.follows .mixedOrders=true)(hB:Ry P G l ks p A=true)
  (h:GQ P l ks (λa w=>Q .normal a w) p a w.drew):(Code.region id l.toArray true).wp P Q a w:=
 wp_region_any hm (VP G ks p A hB h)
end
end Go.Reg
