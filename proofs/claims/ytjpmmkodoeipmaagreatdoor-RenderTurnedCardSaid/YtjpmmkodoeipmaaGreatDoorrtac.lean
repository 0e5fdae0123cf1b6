/- Rgc. -/
import Derived.Test.YtjpmmkodoeipmaaGreatDoorrtab
namespace Go.Reg
open Go Go.RowKit
def eY(s:Sem Next)(P:Program):Prop:=∀w n w1,s.run P w=.ok n w1->∃v,n=.value v
theorem D1 {P:Program}(s:Sem Value):eY (do pure (.value (<-s))) P:=λw n w1 h=>by
 rw[AK]at h
 cases hs:s.run P w with
 |halt x w'=>rw[hs]at h;simp at h
 |ok a w'=>rw[hs]at h;simp at h;exact⟨a,h.1.symm⟩
theorem PA {α β:Type} {P:Program} {s:Sem α} {f:α->Sem β} {d:α}(h:∀w,s.run P w=.ok d w)(hf:D9 P (f d)):D9 P (s>>=f):=by
 intro w b w1 hr
 rw[AK,h w]at hr
 obtain⟨h1,h2⟩:=hf w b w1 hr
 exact⟨h1,λw2=>by rw[AK,h w2];exact h2 w2⟩
theorem yT {α β:Type} {P:Program} {s:Sem α} {f:α->Sem β} {d:α}(h:∀w,s.run P w=.ok d w)(hf:Pm P (f d)):Pm P (s>>=f):=by
 intro w b w1 hr
 rw[AK,h w]at hr
 obtain⟨h1,h2⟩:=hf w b w1 hr
 exact⟨h1,λw2 he=>by rw[AK,h w2];exact h2 w2 he⟩
theorem P9 {P:Program}(op:BinOp)(k:IntKind)(x y:Int):D9 P (Op.intBits op k x y):=by
 unfold Op.intBits
 repeat' (first|exact AP _|exact B4 _|split|dsimp only[])
theorem gD {P:Program}(op:UnOp)(x:Value):D9 P (Op.unary op x):=by
 unfold Op.unary
 split<;>first|exact Om _ _ _ _|exact P9 _ _ _ _|exact AP _|exact BF _|exact B4 _
def Lu:Value->Value->Bool
 |.bool _,.bool _|.pointer none,.pointer _|.pointer (some _),.pointer none|.iface _ _,.nilIface|.nilIface,.nilIface=>true
 |.slice none _ _,.slice _ _ _|.slice (some _) _ _,.slice none _ _|.map none,.map _|.map (some _),.map none|.nilFunc,.nilFunc|.func _ _ _,.nilFunc=>true
 |_,_=>false
theorem TR {P:Program}(t:TypeId) {x y:Value}(h:Lu x y=true):D9 P (Op.equal t x y):=by
 unfold Op.equal
 rw[show Op.maxDepth=9999+1 from rfl,Op.equalIn]
 refine BQ (Cn _) λd=>?_
 unfold Lu at h
 split at h<;>first|(cases h;done)|skip
 ·cases d<;>first|exact AP _|exact B4 _|exact BF _
 ·rename_i b
  cases b<;>cases d<;>first|exact AP _|exact B4 _|exact BF _
 all_goals (cases d<;>first|exact AP _|exact B4 _|exact BF _|(rename_i o _ _;cases o<;>first|exact AP _|exact B4 _|exact BF _)|(rename_i o;cases o<;>first|exact AP _|exact B4 _|exact BF _))
theorem XI {P:Program}(op:BinOp)(t:TypeId)(x y:Operand) {a b:Value}(h:Lu a b=true)(hn:a=.nilIface->b=.nilIface->y=.const .nilIface):D9 P (eqGuard op t x y a b):=by
 unfold Lu at h
 split at h<;>first|(cases h;done)|skip
 ·cases op<;>exact AP _
 ·cases op<;>exact AP _
 ·cases op<;>exact AP _
 ·cases op<;>exact AP _
 ·rw[hn rfl rfl]
  cases op<;>first|exact AP _|(unfold eqGuard;simp only[Bool.or_true,if_true];exact AP _)
 all_goals (cases op<;>exact AP _)
theorem gF {P:Program}(op:BinOp)(k:IntKind)(x:Int)(yk:IntKind)(y:Int):D9 P (Op.shift op k x yk y):=by
 unfold Op.shift
 split
 ·exact Du _
 ·dsimp only;split<;>first|exact AP _|exact B4 _
theorem gJ {P:Program}(op:BinOp)(t:TypeId)(x y:Operand) {a b:Value}(h:Fw op a b=true\/(a=.nilIface/\b=.nilIface/\y=.const .nilIface/\(op=.eql\/op=.neq))):
  D9 P (do eqGuard op t x y a b;binOp op t a b):=by
 have viaEq:∀{a b:Value},Lu a b=true->(a=.nilIface->b=.nilIface->y=.const .nilIface)->(op=.eql\/op=.neq)->
   (∀(k k':IntKind) i j,¬(a=.int k i/\b=.int k' j))->D9 P (do eqGuard op t x y a b;binOp op t a b):=λ{a b} he hn hop hni=>by
  refine BQ (XI op t x y he hn) λ_=>?_
  rcases hop with rfl|rfl
  ·unfold Lu at he
   split at he<;>first|(cases he;done)|exact BQ (TR t rfl) λ_=>AP _
  ·unfold Lu at he
   split at he<;>first|(cases he;done)|exact BQ (TR t rfl) λ_=>AP _
 have eqOp:NR op=true->(op=.eql\/op=.neq):=λhh=>by
  cases op<;>first|(cases hh;done)|exact Or.inl rfl|exact Or.inr rfl
 rcases h with h|⟨rfl,rfl,hy,hop⟩
 ·unfold Fw at h
  split at h<;>first|(cases h;done)|skip
  ·have g:∀(k k':IntKind) (i j:Int),D9 P (eqGuard op t x y (.int k i) (.int k' j)):=λ_ _ _ _=>by
    cases op<;>exact AP _
   refine BQ (g _ _ _ _) λ_=>?_
   cases op<;>first|(cases h;done)|skip
   all_goals (unfold binOp;dsimp only;first|exact gF _ _ _ _ _|(split<;>first|exact B4 _|exact Om _ _ _ _|exact Zs _ _ _ _|exact P9 _ _ _ _|exact Zt _ _ _))
  ·have g:∀i j,D9 P (eqGuard op t x y (.string i) (.string j)):=λ_ _=>by
    cases op<;>exact AP _
   refine BQ (g _ _) λ_=>?_
   cases op<;>(unfold binOp;dsimp only;first|exact VJ _ _ _|exact B4 _)
  all_goals exact viaEq rfl (λh=>by cases h) (eqOp h) (λ_ _ _ _ h=>by cases h.1)
 ·exact viaEq rfl (λ_ _=>hy) hop (λ_ _ _ _ h=>by cases h.1)
theorem EI {P:Program} {s:Sem Value}(h:D9 P s):D9 P (do pure (Next.value (<-s))):=BQ h λ_=>AP _
theorem Rq {α:Type} {P:Program}(a:α):Pm P (pure a:Sem α):=(AP a).mono
theorem aH {P:Program} {s:Sem Value}(h:Pm P s):Pm P (do pure (Next.value (<-s))):=HN h λ_=>Rq _
theorem rS {α β:Type} {P:Program} {f:α->Sem β}(h:∀a,D9 P (f a))(l:Array α):D9 P (l.mapM f):=by
 rw[fC]
 have:∀l:List α,D9 P (l.mapM f):=λl=>by
  induction l with
  |nil=>simp only[List.mapM_nil];exact AP _
  |cons x l ih=>simp only[List.mapM_cons];exact BQ (h x) λ_=>BQ ih λ_=>AP _
 exact BQ (this _) λ_=>AP _
theorem gI {P:Program}(t:TypeId) {fs:Array Field}(ht:P.underlying t=some (.struct fs))(parts:Array (Nat×Value)):D9 P (Instr.build t parts):=by
 unfold Instr.build
 refine BQ (IX _) λz=>?_
 dsimp only
 refine PA (λw=>run_underlying ht w) ?_
 dsimp only
 refine BQ (rS (λf=>BQ (Dc _) λ_=>AP _) _) λplaces=>?_
 split<;>first|exact AP _|exact B4 _
theorem Zr {P:Program} {tys:Array TypeId} {t:TypeId} {args:Array Value}(ty:TypeId)(h0:tys[0]? =some t)(ht:P.underlying t=some .string\/∃e,P.underlying t=some (.slice e)):D9 P (Builtin.len_ tys ty args):=by
 unfold Builtin.len_
 rw[h0]
 cases hx:args[0]? with
 |none=>exact B4 _
 |
  some x=>
  dsimp only
  rcases ht with ht|⟨e,ht⟩
  ·refine PA (λw=>run_underlying ht w) ?_
   cases x<;>first|exact AP _|exact B4 _
  ·refine PA (λw=>run_underlying ht w) ?_
   cases x<;>first|exact AP _|exact B4 _
theorem aK {P:Program}(r:Nat):Pm P (getObj r):=λw o w1 h=>by
 simp only[getObj,Sem.run]at h⊢
 split at h<;>first|(simp at h;done)|skip
 rename_i o' h1 h2
 simp only[Result.ok.injEq]at h
 obtain⟨rfl,rfl⟩:=h
 refine⟨rfl,λw2 he=>?_⟩
 rw[he.of_some h2]
 cases o'<;>first|rfl|exact(h1 _ _ _ rfl).elim
theorem aJ {P:Program} {tys:Array TypeId} {t k e:TypeId} {args:Array Value}(ty:TypeId)(h0:tys[0]? =some t)(ht:P.underlying t=some (.map k e)):Pm P (Builtin.len_ tys ty args):=by
 unfold Builtin.len_
 rw[h0]
 cases hx:args[0]? with
 |none=>exact(B4 _).mono
 |
  some x=>
  dsimp only
  refine yT (λw=>run_underlying ht w) ?_
  cases x<;>first|exact(AP _).mono|exact(B4 _).mono|skip
  rename_i r
  cases r
  ·exact(AP _).mono
  ·refine HN (aK _) λo=>?_
   split<;>first|exact(AP _).mono|exact(B4 _).mono
theorem pP {P:Program} {w:World} {x:Addr} {u:TypeId} {k:Addr} {at_:Bool}(e:w.heap[x.block]? =none) {r}(h:w.seen P x u k at_=.ok r):False:=by
 unfold World.seen at h
 rw[e]at h
 simp only[bind,Except.bind]at h
 repeat' (first|(cases h;done)|split at h)
theorem X1 {P:Program} {w w2:World}(he:JT w w2) {x:Addr} {u:TypeId} {k:Addr} {at_:Bool} {r:Value×List Addr}(h:w.viewLoad P x u k at_=.ok r):w2.viewLoad P x u k at_=.ok r:=by
 by_cases hb:x.block<w.heap.size
 ·have e:w2.heap[x.block]? =w.heap[x.block]? :=he _ hb
  have:w2.seen P x u k at_=w.seen P x u k at_:=by unfold World.seen;rw[e]
  unfold World.viewLoad at h⊢
  rw[this];exact h
 ·exfalso
  have e:w.heap[x.block]? =none:=by simp;omega
  unfold World.viewLoad at h
  cases hs:w.seen P x u k at_ with
  |error m=>rw[hs]at h;cases h
  |ok v=>exact pP e hs
theorem WM {P:Program}(a:Addr):Pm P (load a):=λw v w1 h=>by
 simp only[load,Sem.run]at h⊢
 cases hc:w.cell? a with
 |
  some u=>
  simp only[hc,Result.ok.injEq]at h
  obtain⟨rfl,rfl⟩:=h
  refine⟨rfl,λw2 he=>?_⟩
  have hb:a.block<w.heap.size:=by
   unfold World.cell? at hc
   split at hc
   ·rename_i h1;exact(Al.1 h1).1
   ·cases hc
  have:w2.cell? a=w.cell? a:=by unfold World.cell?;rw[he _ hb]
  rw[this,hc]
 |
  none=>
  simp only[hc]at h
  unfold World.farLoad at h
  split at h
  ·rename_i x hx
   split at hx
   ·rename_i at_ u hb
    split at hx
    ·rename_i r hv
     cases hx
     simp only[Result.ok.injEq]at h
     obtain⟨rfl,rfl⟩:=h
     refine⟨rfl,λw2 he=>?_⟩
     have hb2:=he.of_some hb
     have hc2:w2.cell? a=none:=by unfold World.cell?;rw[hb2]
     rw[hc2]
     simp only[World.farLoad,hb2,X1 he hv]
    ·cases hx
   ·cases hx
  ·simp at h
theorem Mu {P:Program}(a:Addr):∀(n i:Nat) (acc:Array Value),Pm P (loadCellsFrom a i n acc)
 |0,_,_=>Rq _
 |
  n+1,i,acc=>by
  unfold loadCellsFrom
  exact HN (WM _) λ_=>Mu a n _ _
theorem aI {P:Program}(t:TypeId)(v:Value):Pm P (Instr.loadAt t v):=by
 unfold Instr.loadAt loadVar
 refine HN (CP _).mono λa=>HN (TQ _).mono λb=>?_
 split
 ·exact HN (Dc _).mono λn=>HN (Mu a n 0 #[]) λ_=>Rq _
 ·exact WM _
def VC {α:Type}(P:Program)(s:Sem α):Prop:=∀w a w1,s.run P w=.ok a w1->JT w w1/\w.heap.size<=w1.heap.size
theorem D9.grows {α:Type} {P:Program} {s:Sem α}(h:D9 P s):VC P s:=λw a w1 hr=>by
 obtain⟨rfl,_⟩:=h w a w1 hr;exact⟨JT.refl _,Ay _⟩
theorem EP {α β:Type} {P:Program} {s:Sem α} {f:α->Sem β}(h:VC P s)(hf:∀a,VC P (f a)):VC P (s>>=f):=by
 intro w b w1 hr
 rw[AK]at hr
 cases hs:s.run P w with
 |halt x w'=>rw[hs]at hr;simp at hr
 |
  ok a w'=>
  rw[hs]at hr
  obtain⟨h1,h2⟩:=h w a w' hs
  obtain⟨h3,h4⟩:=hf a _ b w1 hr
  exact⟨h1.trans h3 h2,BI h2 h4⟩
theorem Lq {P:Program}(o:Obj):VC P (newObj o):=λw r w1 h=>by
 simp only[newObj,Sem.run,Result.ok.injEq]at h
 obtain⟨_,rfl⟩:=h
 refine⟨λk hk=>?_,by simp⟩
 show(w.heap.push o)[k]? =_
 rw[Array.getElem?_push,if_neg (by omega)]
theorem Qn {P:Program}(t:TypeId)(v:Value):VC P (newVar t v):=by
 unfold newVar newRow
 exact EP (Lq _) λ_=>(AP _).grows
theorem AEO {P:Program} {G:List FuncId} {o:Oper} {a:Act}(hk:DM P G o=0)(hd:BH a o=true):D9 P (execOp a.eval o)/\eY (execOp a.eval o) P:=by
 obtain⟨dst,op,type,pos,after,guard⟩:=o
 cases op<;>simp only[DM]at hk<;>first|(cases hk;done)|skip
 case move x=>exact⟨AP _,λw n w1 h=>by simp[execOp]at h;exact⟨_,h.1.symm⟩⟩
 case assign x=>exact⟨AP _,λw n w1 h=>by simp[execOp]at h;exact⟨_,h.1.symm⟩⟩
 case pick c x y=>exact⟨BQ (DK _) λ_=>AP _,λw n w1 h=>by
  simp only[execOp,AK]at h
  cases hs:(asBool (a.eval c)).run P w with
  |halt x w'=>rw[hs]at h;simp at h
  |ok b w'=>rw[hs]at h;simp at h;exact⟨_,h.1.symm⟩⟩
 case build t parts=>
  split at hk
  ·rename_i fs ht;exact⟨EI (gI t ht _),D1 _⟩
  ·cases hk
 case nilCheck x=>
  simp only[BH]at hd
  unfold execOp
  dsimp only
  cases hx:a.eval x with
  |pointer p=>cases p<;>first|exact⟨Du _,λw n w1 h=>absurd h (Il _ w n w1)⟩|exact⟨AP _,λw n w1 h=>by simp at h;exact⟨_,h.1.symm⟩⟩
  |nilIface=>exact⟨Du _,λw n w1 h=>absurd h (Il _ w n w1)⟩
  |nilFunc=>exact⟨Du _,λw n w1 h=>absurd h (Il _ w n w1)⟩
  |func f u v=>rw[hx]at hd;cases hd
  |_=>exact⟨AP _,λw n w1 h=>by simp at h;exact⟨_,h.1.symm⟩⟩
 case binOp op t x y yt=>
  simp only[BH,Dj]at hd
  refine⟨EI (gJ op t x y (hd.imp id λh=>?_)),D1 _⟩
  unfold Lk at h
  split at h
  ·rename_i hx
   refine⟨hx,rfl,rfl,?_⟩
   cases op<;>first|(cases h;done)|exact Or.inl rfl|exact Or.inr rfl
  ·cases h
 case unOp op t x=>exact⟨EI (gD op _),D1 _⟩
 case convert s d x=>
  split at hk
  ·rename_i k hd'
   refine⟨EI ?_,D1 _⟩
   simp only[BH]at hd
   cases hx:a.eval x with
   |
    int j n=>
    unfold Go.convert
    refine BQ (Cn _) λe=>PA (λw=>run_underlying hd' w) ?_
    cases e<;>(dsimp only;unfold Conv.intToInt;exact AP _)
   |_=>rw[hx]at hd;cases hd
  ·cases hk
 case makeInterface t x=>exact⟨EI (O5 _ _),D1 _⟩
 case makeFunc f u v=>exact⟨EI (by unfold Instr.makeFunc;exact AP _),D1 _⟩
 case slice t x l h m=>exact⟨EI (XE _ _ _ _ _),D1 _⟩
 case fieldAddr s x f=>
  split at hk
  ·rename_i hs;exact⟨EI (XG hs _ _),D1 _⟩
  ·cases hk
 case field t x f=>exact⟨EI (gH _ _ _),D1 _⟩
 case indexAddr t x i=>exact⟨EI (XF _ _ _),D1 _⟩
 case index t x i=>exact⟨EI (gG _ _ _),D1 _⟩
 case extract t i=>exact⟨EI (XH _ _),D1 _⟩
 case makeMap t r=>cases r<;>cases hk
 case call c=>
  cases hc:c.callee with
  |value f=>simp only[hc]at hk;cases f<;>simp only at hk<;>first|(cases hk;done)|(split at hk<;>cases hk)
  |invoke r m=>simp only[hc]at hk;cases hk
  |
   builtin b=>
   simp only[hc]at hk
   cases b<;>simp only at hk<;>first|(cases hk;done)|skip
   have e:execOp a.eval {dst:=dst,op:=.call c,type:=type,pos:=pos,after:=after,guard:=guard}=(do pure (Next.value (<-Builtin.len_ c.argTypes type (c.args.map a.eval)))):=by
    simp only[execOp,resolve,hc,pure_bind,invoke,builtin]
   rw[e]
   cases h0:c.argTypes[0]? with
   |none=>rw[h0]at hk;cases hk
   |
    some t=>
    rw[h0]at hk
    simp only[RS]at hk
    split at hk<;>first|(cases hk;done)|skip
    ·rename_i el ht;exact⟨EI (Zr _ h0 (Or.inr ⟨_,ht⟩)),D1 _⟩
    ·rename_i ht;exact⟨EI (Zr _ h0 (Or.inl ht)),D1 _⟩
theorem AEN {P:Program} {G:List FuncId} {o:Oper} {a:Act}(hk:DM P G o=1):Pm P (execOp a.eval o)/\eY (execOp a.eval o) P:=by
 obtain⟨dst,op,type,pos,after,guard⟩:=o
 cases op<;>simp only[DM]at hk<;>first|(cases hk;done)|(split at hk<;>cases hk;done)|skip
 case load t x=>exact⟨aH (aI _ _),D1 _⟩
 case makeMap t r=>cases r<;>cases hk
 case call c=>
  cases hc:c.callee with
  |value f=>simp only[hc]at hk;cases f<;>simp only at hk<;>first|(cases hk;done)|(split at hk<;>cases hk)
  |invoke r m=>simp only[hc]at hk;cases hk
  |
   builtin b=>
   simp only[hc]at hk
   cases b<;>simp only at hk<;>first|(cases hk;done)|skip
   have e:execOp a.eval {dst:=dst,op:=.call c,type:=type,pos:=pos,after:=after,guard:=guard}=(do pure (Next.value (<-Builtin.len_ c.argTypes type (c.args.map a.eval)))):=by
    simp only[execOp,resolve,hc,pure_bind,invoke,builtin]
   rw[e]
   cases h0:c.argTypes[0]? with
   |none=>rw[h0]at hk;cases hk
   |
    some t=>
    rw[h0]at hk
    simp only[RS]at hk
    split at hk<;>first|(cases hk;done)|skip
    rename_i k el ht
    exact⟨aH (aJ _ h0 ht),D1 _⟩
theorem AEM {P:Program} {G:List FuncId} {o:Oper} {a:Act}(hk:DM P G o=6):VC P (execOp a.eval o)/\eY (execOp a.eval o) P:=by
 obtain⟨dst,op,type,pos,after,guard⟩:=o
 cases op<;>simp only[DM]at hk<;>first|(cases hk;done)|(split at hk<;>cases hk;done)|skip
 case alloc t=>
  refine⟨EP ?_ λ_=>(AP _).grows,D1 _⟩
  unfold Instr.alloc
  refine EP (IX _).grows λz=>?_
  exact EP (Qn _ _) λ_=>(AP _).grows
 case box t x=>
  refine⟨EP ?_ λ_=>(AP _).grows,D1 _⟩
  unfold Instr.box
  exact EP (Qn _ _) λ_=>(AP _).grows
 case buildSlice t n parts=>
  refine⟨EP ?_ λ_=>(AP _).grows,D1 _⟩
  unfold Instr.buildSlice
  unfold newRow
  dsimp only
  repeat' (first|exact(AP _).grows|exact(B4 _).grows|exact(BF _).grows|exact(Cn _).grows|exact(Dc _).grows|exact(IX _).grows|exact Lq _|refine EP ?_ (λ_=>?_)|split|dsimp only[])
 case makeMap t r=>
  cases r with
  |some x=>cases hk
  |
   none=>
   refine⟨EP ?_ λ_=>(AP _).grows,D1 _⟩
   unfold Instr.makeMap
   exact EP (Lq _) λ_=>(AP _).grows
 case call c=>
  cases hc:c.callee with
  |value f=>simp only[hc]at hk;cases f<;>simp only at hk<;>first|(cases hk;done)|(split at hk<;>cases hk)
  |invoke r m=>simp only[hc]at hk;cases hk
  |
   builtin b=>
   simp only[hc]at hk
   cases b<;>simp only at hk<;>first|(cases hk;done)|(split at hk<;>cases hk)
section
variable {P:Program} {l:List Oper} {ks A:List Nat} {G:List FuncId}
theorem TD {p:List Nat}(h:ACQ P G l ks p A=true):(∀j o,l[j]? =some o->(DM P G o=ks.getD j 3\/ks.getD j 3=3)/\DM P G o≠9)/\Stat l.toArray A (λi=>p.idxOf i):=by
 have g:∀j o,l[j]? =some o->(DM P G o=ks.getD j 3\/ks.getD j 3=3)/\DM P G o≠9/\(∀e∈o.after,Region.binds .any e=true->e.on<l.length/\p.idxOf e.on<p.idxOf j)/\
   ∀i,i<l.length->(A.getD j 0).testBit i=true->∃e∈o.after,Region.binds .any e=true/\(e.on=i\/(A.getD e.on 0).testBit i=true):=λj o hj=>by
  have hlt:=(Ae.1 hj).1
  have h1:=Dn.1 h j (AN.2 hlt)
  simp only[hj,Ar,Dj,beq_iff_eq,bne_iff_ne,ne_eq]at h1
  obtain⟨⟨⟨h1,h2⟩,h3⟩,h4⟩:=h1
  refine⟨h1,h2,λe he hb=>?_,λi hi hb=>?_⟩
  ·have:=Array.all_eq_true_iff_forall_mem.1 h3 e he
   simpa[hb]using this
  ·have h5:=Dn.1 h4 i (AN.2 hi)
   rw[hb]at h5
   simp only[Bool.not_true,Bool.false_or]at h5
   obtain⟨e,he,h6⟩:=Array.any_eq_true'.1 h5
   simp only[Ar,Dj,beq_iff_eq]at h6
   exact⟨e,he,h6.1,h6.2⟩
 refine⟨λj o hj=>⟨(g j o hj).1,(g j o hj).2.1⟩,⟨λj o hj e he hb=>by simpa using(g j o (by simpa using hj)).2.2.1 e he hb,λj o hj i hi hb=>(g j o (by simpa using hj)).2.2.2 i (by simpa using hi) hb⟩⟩
theorem Zm {o:Oper}(h:DM P G o≠9)(cs:Array SelectCase)(b:Bool):o.op≠.select cs b:=λe=>h (by simp[DM,e])
theorem iG {i j:Nat}(h:xU l ks A i j=true):PairOk l.toArray (λi=>Ej (ks.getD i 3)) A i j:=by
 unfold xU at h
 split at h
 ·rename_i oi oj hi hj
  simp only[Ar,bne_iff_ne,ne_eq,Dj]at h
  obtain⟨⟨h1,h2⟩,h3⟩:=h
  refine⟨h1,λo ho e he hb=>?_,h3.imp id λh4 o o' ho ho'=>?_⟩
  ·have:o=oi:=by simp[hi]at ho;exact ho.symm
   subst this
   have:=Array.all_eq_true_iff_forall_mem.1 h2 e he
   simpa[hb]using this
  ·have e1:o=oi:=by simp[hi]at ho;exact ho.symm
   have e2:o'=oj:=by simp[hj]at ho';exact ho'.symm
   subst e1;subst e2
   exact h4
 ·cases h
theorem Sn:∀{p:List Nat},XX l ks A p=true->p.Pairwise (PairOk l.toArray (λi=>Ej (ks.getD i 3)) A)
 |[],_=>List.Pairwise.nil
 |
  i::rest,h=>by
  simp only[XX,Ar]at h
  exact List.Pairwise.cons (λj hj=>iG (Dn.1 h.1 j hj)) (Sn h.2)
theorem Tl {o:Oper} {a:Act} {w:World} {K:Act->World->Prop}(hv:eY (execOp a.eval o) P)(h:o.wp P a w K No):∃v w1,(execOp a.eval o).run P w=.ok (.value v) w1/\K (a.put o.dst v) w1:=by
 unfold Oper.wp at h
 cases hr:(execOp a.eval o).run P w with
 |
  ok n w1=>
  obtain⟨v,rfl⟩:=hv w n w1 hr
  rw[hr]at h
  exact⟨v,w1,rfl,h⟩
 |
  halt x w1=>
  rw[hr]at h
  cases x<;>simp only[Oper.upon]at h<;>exact h.elim
theorem Tm {Q:Act->World->Prop}(hs:∀j o,l[j]? =some o->(DM P G o=ks.getD j 3\/ks.getD j 3=3)/\DM P G o≠9):∀(p:List Nat) (a:Act) (w:World),
  I8 P l ks Q p a w->wpS P l.toArray (λi=>Ej (ks.getD i 3)) Q p a w
 |[],_,_,h=>h
 |
  i::rest,a,w,h=>by
  have ih:=Tm (Q:=Q) hs rest
  simp only[I8,wpS]at h⊢
  cases hi:l[i]? with
  |none=>simp[hi]at h
  |
   some o=>
   have hi':l.toArray[i]? =some o:=by simpa using hi
   simp only[hi,hi']at h⊢
   obtain⟨hk0',h9⟩:=hs i o hi
   have hk:∀n,ks.getD i 3=n->n≠3->DM P G o=n:=λn e hn=>by
    rcases hk0' with h'|h'
    ·exact h'.trans e
    ·exact absurd (e.symm.trans h') hn
   by_cases hw:Region.wanted o (yielded l.toArray a.tmps)=true
   ·simp only[hw,if_true]at h
    split at h
    ·rename_i hk0
     obtain⟨hd,h⟩:=h
     obtain⟨hS,hV⟩:=AEO (a:=a) (hk _ hk0 (by decide)) hd
     obtain⟨v,w1,hr,hK⟩:=Tl hV h
     obtain⟨rfl,h2⟩:=hS _ _ _ hr
     simp only[hk0,Ej,Wg]
     exact⟨v,.inl ⟨hw,h2⟩,ih _ _ hK⟩
    ·rename_i hk5
     obtain⟨v,hv,hK⟩:=h
     simp only[hk5,Ej,Wg]
     exact⟨v,.inl ⟨hw,hv⟩,ih _ _ hK⟩
    ·rename_i hk2
     simp only[hk2,Ej,Wg,RY,hw,if_true]
     exact Oper.wp_imp (λa' w' h=>⟨h.1,ih _ _ h.2⟩) h
    ·rename_i n0 n5 n2
     have any3:Wg P l.toArray 3 o (wpS P l.toArray (λi=>Ej (ks.getD i 3)) Q rest) a w:=by
      simp only[Wg,RY,hw,if_true];exact Oper.wp_imp ih h
     by_cases h1:ks.getD i 3=1
     ·obtain⟨hM,hV⟩:=AEN (a:=a) (hk _ h1 (by decide))
      obtain⟨v,w1,hr,hK⟩:=Tl hV h
      obtain⟨rfl,h2⟩:=hM _ _ _ hr
      simp only[h1,Ej,Wg]
      exact⟨v,.inl ⟨hw,h2⟩,ih _ _ hK⟩
     ·by_cases h6:ks.getD i 3=6
      ·obtain⟨hG,hV⟩:=AEM (a:=a) (hk _ h6 (by decide))
       obtain⟨v,w1,hr,hK⟩:=Tl hV h
       simp only[h6,Ej,Wg,RY,hw,if_true,Oper.wp,hr,Oper.upon]
       exact⟨(hG _ _ _ hr).1,ih _ _ hK⟩
      ·have:Ej (ks.getD i 3)=3:=by
        unfold Ej
        split<;>simp_all
       rw[this];exact any3
   ·simp only[hw]at h
    have hw':Region.wanted o (yielded l.toArray a.tmps)=false:=by simpa using hw
    have hK:=ih _ _ h
    have hc:=oB (ks.getD i 3)
    have:Ej (ks.getD i 3)=0\/Ej (ks.getD i 3)=1\/Ej (ks.getD i 3)=2\/Ej (ks.getD i 3)=3:=by omega
    rcases this with h0|h0|h0|h0<;>rw[h0]<;>simp only[Wg]
    ·exact⟨undef,.inr ⟨hw',rfl⟩,hK⟩
    ·exact⟨undef,.inr ⟨hw',rfl⟩,hK⟩
    ·simp only[RY,hw',CY,if_false];exact⟨JT.refl _,hK⟩
    ·simp only[RY,hw',CY,if_false];exact hK
theorem V2 {Q:Exit->Act->World->Prop} {a:Act} {w:World}(G:List FuncId)(ks p A:List Nat)(hB:Mr P G l ks p A=true)
  (h:I8 P l ks (λa w=>Q .normal a w) p a w):wpAny P .any l.toArray Q l.toArray.size (Array.replicate l.toArray.size false) a w:=by
 simp only[Mr,Ar,beq_iff_eq,Dn,decide_eq_true_eq,AN]at hB
 obtain⟨⟨⟨⟨h1,h2⟩,h3⟩,h4⟩,h5⟩:=hB
 obtain⟨hs,S⟩:=TD h1
 have hp:=Sn h2
 have e:l.toArray.size=p.length:=by simp[h3]
 rw[e]
 refine eN (cls:=λi=>Ej (ks.getD i 3)) (A:=A) (λi=>oB _) (λj o cs b hj=>Zm (P:=P) (G:=G) (hs j o (by simpa using hj)).2 cs b) S (λa w h=>h) p.length p _ a _ rfl ?_ (Tm hs p a _ h)
 refine⟨by simp[h3],λj oj _ hl=>?_,λi hi=>?_,λi hi=>by simpa using h4 i hi,hp⟩
 ·have:∀(m j:Nat),(Array.replicate m false).getD j false=false:=λm j=>by
   rcases BN j m with h|h<;>simp[h]
  rw[this]at hl;cases hl
 ·have hi':i<l.length:=by simpa using hi
  have hm:=h5 i hi'
  have hip:i<p.length:=by omega
  have e2:(Array.replicate p.length false).getD i true=false:=by simp[hip]
  rw[e2]
  simpa using hm
theorem J1 {id:Nat} {Q:Exit->Act->World->Prop} {a:Act} {w:World}(G:List FuncId)(ks p A:List Nat)(hm:P.follows .mixedOrders=true)(hB:Mr P G l ks p A=true)
  (h:I8 P l ks (λa w=>Q .normal a w) p a w.drew):(Code.region id l.toArray true).wp P Q a w:=
 wp_region_any hm (V2 G ks p A hB h)
end
end Go.Reg
