/- Rgc. -/
import Derived.Test.YtjpmmkodoeipmaaGreatDoorrkab
namespace Go.Reg
open Go Go.RowKit
def fD(s:Sem Next)(P:Program):Prop:=∀w n w1,s.run P w=.ok n w1->∃v,n=.value v
theorem D3 {P:Program}(s:Sem Value):fD (do pure (.value (<-s))) P:=λw n w1 h=>by
 rw[AK]at h
 cases hs:s.run P w with
 |halt x w'=>rw[hs]at h;simp at h
 |ok a w'=>rw[hs]at h;simp at h;exact⟨a,h.1.symm⟩
theorem PA {α β:Type} {P:Program} {s:Sem α} {f:α->Sem β} {d:α}(h:∀w,s.run P w=.ok d w)(hf:D7 P (f d)):D7 P (s>>=f):=by
 intro w b w1 hr
 rw[AK,h w]at hr
 obtain⟨h1,h2⟩:=hf w b w1 hr
 exact⟨h1,λw2=>by rw[AK,h w2];exact h2 w2⟩
theorem yO {α β:Type} {P:Program} {s:Sem α} {f:α->Sem β} {d:α}(h:∀w,s.run P w=.ok d w)(hf:Pm P (f d)):Pm P (s>>=f):=by
 intro w b w1 hr
 rw[AK,h w]at hr
 obtain⟨h1,h2⟩:=hf w b w1 hr
 exact⟨h1,λw2 he=>by rw[AK,h w2];exact h2 w2 he⟩
theorem P9 {P:Program}(op:BinOp)(k:IntKind)(x y:Int):D7 P (Op.intBits op k x y):=by
 unfold Op.intBits
 repeat' (first|exact AN _|exact B4 _|split|dsimp only[])
theorem gH {P:Program}(op:UnOp)(x:Value):D7 P (Op.unary op x):=by
 unfold Op.unary
 split<;>first|exact Od _ _ _ _|exact P9 _ _ _ _|exact AN _|exact BF _|exact B4 _
def L0:Value->Value->Bool
 |.bool _,.bool _|.pointer none,.pointer _|.pointer (some _),.pointer none|.iface _ _,.nilIface|.nilIface,.nilIface=>true
 |.slice none _ _,.slice _ _ _|.slice (some _) _ _,.slice none _ _|.map none,.map _|.map (some _),.map none|.nilFunc,.nilFunc|.func _ _ _,.nilFunc=>true
 |_,_=>false
theorem TU {P:Program}(t:TypeId) {x y:Value}(h:L0 x y=true):D7 P (Op.equal t x y):=by
 unfold Op.equal
 rw[show Op.maxDepth=9999+1 from rfl,Op.equalIn]
 refine BP (Cq _) λd=>?_
 unfold L0 at h
 split at h<;>first|(cases h;done)|skip
 ·cases d<;>first|exact AN _|exact B4 _|exact BF _
 ·rename_i b
  cases b<;>cases d<;>first|exact AN _|exact B4 _|exact BF _
 all_goals (cases d<;>first|exact AN _|exact B4 _|exact BF _|(rename_i o _ _;cases o<;>first|exact AN _|exact B4 _|exact BF _)|(rename_i o;cases o<;>first|exact AN _|exact B4 _|exact BF _))
theorem XH {P:Program}(op:BinOp)(t:TypeId)(x y:Operand) {a b:Value}(h:L0 a b=true)(hn:a=.nilIface->b=.nilIface->y=.const .nilIface):D7 P (eqGuard op t x y a b):=by
 unfold L0 at h
 split at h<;>first|(cases h;done)|skip
 ·cases op<;>exact AN _
 ·cases op<;>exact AN _
 ·cases op<;>exact AN _
 ·cases op<;>exact AN _
 ·rw[hn rfl rfl]
  cases op<;>first|exact AN _|(unfold eqGuard;simp only[Bool.or_true,if_true];exact AN _)
 all_goals (cases op<;>exact AN _)
theorem gJ {P:Program}(op:BinOp)(k:IntKind)(x:Int)(yk:IntKind)(y:Int):D7 P (Op.shift op k x yk y):=by
 unfold Op.shift
 split
 ·exact Dn _
 ·dsimp only;split<;>first|exact AN _|exact B4 _
theorem gN {P:Program}(op:BinOp)(t:TypeId)(x y:Operand) {a b:Value}(h:F0 op a b=true\/(a=.nilIface/\b=.nilIface/\y=.const .nilIface/\(op=.eql\/op=.neq))):
  D7 P (do eqGuard op t x y a b;binOp op t a b):=by
 have viaEq:∀{a b:Value},L0 a b=true->(a=.nilIface->b=.nilIface->y=.const .nilIface)->(op=.eql\/op=.neq)->
   (∀(k k':IntKind) i j,¬(a=.int k i/\b=.int k' j))->D7 P (do eqGuard op t x y a b;binOp op t a b):=λ{a b} he hn hop hni=>by
  refine BP (XH op t x y he hn) λ_=>?_
  rcases hop with rfl|rfl
  ·unfold L0 at he
   split at he<;>first|(cases he;done)|exact BP (TU t rfl) λ_=>AN _
  ·unfold L0 at he
   split at he<;>first|(cases he;done)|exact BP (TU t rfl) λ_=>AN _
 have eqOp:N7 op=true->(op=.eql\/op=.neq):=λhh=>by
  cases op<;>first|(cases hh;done)|exact Or.inl rfl|exact Or.inr rfl
 rcases h with h|⟨rfl,rfl,hy,hop⟩
 ·unfold F0 at h
  split at h<;>first|(cases h;done)|skip
  ·have g:∀(k k':IntKind) (i j:Int),D7 P (eqGuard op t x y (.int k i) (.int k' j)):=λ_ _ _ _=>by
    cases op<;>exact AN _
   refine BP (g _ _ _ _) λ_=>?_
   cases op<;>first|(cases h;done)|skip
   all_goals (unfold binOp;dsimp only;first|exact gJ _ _ _ _ _|(split<;>first|exact B4 _|exact Od _ _ _ _|exact Zv _ _ _ _|exact P9 _ _ _ _|exact Zw _ _ _))
  ·have g:∀i j,D7 P (eqGuard op t x y (.string i) (.string j)):=λ_ _=>by
    cases op<;>exact AN _
   refine BP (g _ _) λ_=>?_
   cases op<;>(unfold binOp;dsimp only;first|exact VH _ _ _|exact B4 _)
  all_goals exact viaEq rfl (λh=>by cases h) (eqOp h) (λ_ _ _ _ h=>by cases h.1)
 ·exact viaEq rfl (λ_ _=>hy) hop (λ_ _ _ _ h=>by cases h.1)
theorem EK {P:Program} {s:Sem Value}(h:D7 P s):D7 P (do pure (Next.value (<-s))):=BP h λ_=>AN _
theorem Rr {α:Type} {P:Program}(a:α):Pm P (pure a:Sem α):=(AN a).mono
theorem aL {P:Program} {s:Sem Value}(h:Pm P s):Pm P (do pure (Next.value (<-s))):=HO h λ_=>Rr _
theorem rS {α β:Type} {P:Program} {f:α->Sem β}(h:∀a,D7 P (f a))(l:Array α):D7 P (l.mapM f):=by
 rw[fH]
 have:∀l:List α,D7 P (l.mapM f):=λl=>by
  induction l with
  |nil=>simp only[List.mapM_nil];exact AN _
  |cons x l ih=>simp only[List.mapM_cons];exact BP (h x) λ_=>BP ih λ_=>AN _
 exact BP (this _) λ_=>AN _
theorem gM {P:Program}(t:TypeId) {fs:Array Field}(ht:P.underlying t=some (.struct fs))(parts:Array (Nat×Value)):D7 P (Instr.build t parts):=by
 unfold Instr.build
 refine BP (Ja _) λz=>?_
 dsimp only
 refine PA (λw=>run_underlying ht w) ?_
 dsimp only
 refine BP (rS (λf=>BP (Dd _) λ_=>AN _) _) λplaces=>?_
 split<;>first|exact AN _|exact B4 _
theorem Zu {P:Program} {tys:Array TypeId} {t:TypeId} {args:Array Value}(ty:TypeId)(h0:tys[0]? =some t)(ht:P.underlying t=some .string\/∃e,P.underlying t=some (.slice e)):D7 P (Builtin.len_ tys ty args):=by
 unfold Builtin.len_
 rw[h0]
 cases hx:args[0]? with
 |none=>exact B4 _
 |
  some x=>
  dsimp only
  rcases ht with ht|⟨e,ht⟩
  ·refine PA (λw=>run_underlying ht w) ?_
   cases x<;>first|exact AN _|exact B4 _
  ·refine PA (λw=>run_underlying ht w) ?_
   cases x<;>first|exact AN _|exact B4 _
theorem aO {P:Program}(r:Nat):Pm P (getObj r):=λw o w1 h=>by
 simp only[getObj,Sem.run]at h⊢
 split at h<;>first|(simp at h;done)|skip
 rename_i o' h1 h2
 simp only[Result.ok.injEq]at h
 obtain⟨rfl,rfl⟩:=h
 refine⟨rfl,λw2 he=>?_⟩
 rw[he.of_some h2]
 cases o'<;>first|rfl|exact(h1 _ _ _ rfl).elim
theorem aN {P:Program} {tys:Array TypeId} {t k e:TypeId} {args:Array Value}(ty:TypeId)(h0:tys[0]? =some t)(ht:P.underlying t=some (.map k e)):Pm P (Builtin.len_ tys ty args):=by
 unfold Builtin.len_
 rw[h0]
 cases hx:args[0]? with
 |none=>exact(B4 _).mono
 |
  some x=>
  dsimp only
  refine yO (λw=>run_underlying ht w) ?_
  cases x<;>first|exact(AN _).mono|exact(B4 _).mono|skip
  rename_i r
  cases r
  ·exact(AN _).mono
  ·refine HO (aO _) λo=>?_
   split<;>first|exact(AN _).mono|exact(B4 _).mono
theorem pS {P:Program} {w:World} {x:Addr} {u:TypeId} {k:Addr} {at_:Bool}(e:w.heap[x.block]? =none) {r}(h:w.seen P x u k at_=.ok r):False:=by
 unfold World.seen at h
 rw[e]at h
 simp only[bind,Except.bind]at h
 repeat' (first|(cases h;done)|split at h)
theorem X0 {P:Program} {w w2:World}(he:Kb w w2) {x:Addr} {u:TypeId} {k:Addr} {at_:Bool} {r:Value×List Addr}(h:w.viewLoad P x u k at_=.ok r):w2.viewLoad P x u k at_=.ok r:=by
 by_cases hb:x.block<w.heap.size
 ·have e:w2.heap[x.block]? =w.heap[x.block]? :=he _ hb
  have:w2.seen P x u k at_=w.seen P x u k at_:=by unfold World.seen;rw[e]
  unfold World.viewLoad at h⊢
  rw[this];exact h
 ·exfalso
  have e:w.heap[x.block]? =none:=by simp;omega
  unfold World.viewLoad at h
  cases hs:w.seen P x u k at_ with
  |error m=>rw[hs]at h;cases h
  |ok v=>exact pS e hs
theorem WH {P:Program}(a:Addr):Pm P (load a):=λw v w1 h=>by
 simp only[load,Sem.run]at h⊢
 cases hc:w.cell? a with
 |
  some u=>
  simp only[hc,Result.ok.injEq]at h
  obtain⟨rfl,rfl⟩:=h
  refine⟨rfl,λw2 he=>?_⟩
  have hb:a.block<w.heap.size:=by
   unfold World.cell? at hc
   split at hc
   ·rename_i h1;exact(Ak.1 h1).1
   ·cases hc
  have:w2.cell? a=w.cell? a:=by unfold World.cell?;rw[he _ hb]
  rw[this,hc]
 |
  none=>
  simp only[hc]at h
  unfold World.farLoad at h
  split at h
  ·rename_i x hx
   split at hx
   ·rename_i at_ u hb
    split at hx
    ·rename_i r hv
     cases hx
     simp only[Result.ok.injEq]at h
     obtain⟨rfl,rfl⟩:=h
     refine⟨rfl,λw2 he=>?_⟩
     have hb2:=he.of_some hb
     have hc2:w2.cell? a=none:=by unfold World.cell?;rw[hb2]
     rw[hc2]
     simp only[World.farLoad,hb2,X0 he hv]
    ·cases hx
   ·cases hx
  ·simp at h
theorem My {P:Program}(a:Addr):∀(n i:Nat) (acc:Array Value),Pm P (loadCellsFrom a i n acc)
 |0,_,_=>Rr _
 |
  n+1,i,acc=>by
  unfold loadCellsFrom
  exact HO (WH _) λ_=>My a n _ _
theorem aM {P:Program}(t:TypeId)(v:Value):Pm P (Instr.loadAt t v):=by
 unfold Instr.loadAt loadVar
 refine HO (CR _).mono λa=>HO (TR _).mono λb=>?_
 split
 ·exact HO (Dd _).mono λn=>HO (My a n 0 #[]) λ_=>Rr _
 ·exact WH _
def V9 {α:Type}(P:Program)(s:Sem α):Prop:=∀w a w1,s.run P w=.ok a w1->Kb w w1/\w.heap.size<=w1.heap.size
theorem D7.grows {α:Type} {P:Program} {s:Sem α}(h:D7 P s):V9 P s:=λw a w1 hr=>by
 obtain⟨rfl,_⟩:=h w a w1 hr;exact⟨Kb.refl _,Ax _⟩
theorem ET {α β:Type} {P:Program} {s:Sem α} {f:α->Sem β}(h:V9 P s)(hf:∀a,V9 P (f a)):V9 P (s>>=f):=by
 intro w b w1 hr
 rw[AK]at hr
 cases hs:s.run P w with
 |halt x w'=>rw[hs]at hr;simp at hr
 |
  ok a w'=>
  rw[hs]at hr
  obtain⟨h1,h2⟩:=h w a w' hs
  obtain⟨h3,h4⟩:=hf a _ b w1 hr
  exact⟨h1.trans h3 h2,BH h2 h4⟩
theorem Lv {P:Program}(o:Obj):V9 P (newObj o):=λw r w1 h=>by
 simp only[newObj,Sem.run,Result.ok.injEq]at h
 obtain⟨_,rfl⟩:=h
 refine⟨λk hk=>?_,by simp⟩
 show(w.heap.push o)[k]? =_
 rw[Array.getElem?_push,if_neg (by omega)]
theorem Ql {P:Program}(t:TypeId)(v:Value):V9 P (newVar t v):=by
 unfold newVar newRow
 exact ET (Lv _) λ_=>(AN _).grows
theorem AEJ {P:Program} {G:List FuncId} {o:Oper} {a:Act}(hk:DN P G o=0)(hd:BG a o=true):D7 P (execOp a.eval o)/\fD (execOp a.eval o) P:=by
 obtain⟨dst,op,type,pos,after,guard⟩:=o
 cases op<;>simp only[DN]at hk<;>first|(cases hk;done)|skip
 case move x=>exact⟨AN _,λw n w1 h=>by simp[execOp]at h;exact⟨_,h.1.symm⟩⟩
 case assign x=>exact⟨AN _,λw n w1 h=>by simp[execOp]at h;exact⟨_,h.1.symm⟩⟩
 case pick c x y=>exact⟨BP (DL _) λ_=>AN _,λw n w1 h=>by
  simp only[execOp,AK]at h
  cases hs:(asBool (a.eval c)).run P w with
  |halt x w'=>rw[hs]at h;simp at h
  |ok b w'=>rw[hs]at h;simp at h;exact⟨_,h.1.symm⟩⟩
 case build t parts=>
  split at hk
  ·rename_i fs ht;exact⟨EK (gM t ht _),D3 _⟩
  ·cases hk
 case nilCheck x=>
  simp only[BG]at hd
  unfold execOp
  dsimp only
  cases hx:a.eval x with
  |pointer p=>cases p<;>first|exact⟨Dn _,λw n w1 h=>absurd h (Im _ w n w1)⟩|exact⟨AN _,λw n w1 h=>by simp at h;exact⟨_,h.1.symm⟩⟩
  |nilIface=>exact⟨Dn _,λw n w1 h=>absurd h (Im _ w n w1)⟩
  |nilFunc=>exact⟨Dn _,λw n w1 h=>absurd h (Im _ w n w1)⟩
  |func f u v=>rw[hx]at hd;cases hd
  |_=>exact⟨AN _,λw n w1 h=>by simp at h;exact⟨_,h.1.symm⟩⟩
 case binOp op t x y yt=>
  simp only[BG,Dj]at hd
  refine⟨EK (gN op t x y (hd.imp id λh=>?_)),D3 _⟩
  unfold Lp at h
  split at h
  ·rename_i hx
   refine⟨hx,rfl,rfl,?_⟩
   cases op<;>first|(cases h;done)|exact Or.inl rfl|exact Or.inr rfl
  ·cases h
 case unOp op t x=>exact⟨EK (gH op _),D3 _⟩
 case convert s d x=>
  split at hk
  ·rename_i k hd'
   refine⟨EK ?_,D3 _⟩
   simp only[BG]at hd
   cases hx:a.eval x with
   |
    int j n=>
    unfold Go.convert
    refine BP (Cq _) λe=>PA (λw=>run_underlying hd' w) ?_
    cases e<;>(dsimp only;unfold Conv.intToInt;exact AN _)
   |_=>rw[hx]at hd;cases hd
  ·cases hk
 case makeInterface t x=>exact⟨EK (Ou _ _),D3 _⟩
 case makeFunc f u v=>exact⟨EK (by unfold Instr.makeFunc;exact AN _),D3 _⟩
 case slice t x l h m=>exact⟨EK (XD _ _ _ _ _),D3 _⟩
 case fieldAddr s x f=>
  split at hk
  ·rename_i hs;exact⟨EK (XF hs _ _),D3 _⟩
  ·cases hk
 case field t x f=>exact⟨EK (gL _ _ _),D3 _⟩
 case indexAddr t x i=>exact⟨EK (XE _ _ _),D3 _⟩
 case index t x i=>exact⟨EK (gK _ _ _),D3 _⟩
 case extract t i=>exact⟨EK (XG _ _),D3 _⟩
 case makeMap t r=>cases r<;>cases hk
 case call c=>
  cases hc:c.callee with
  |value f=>simp only[hc]at hk;cases f<;>simp only at hk<;>first|(cases hk;done)|(split at hk<;>cases hk)
  |invoke r m=>simp only[hc]at hk;cases hk
  |
   builtin b=>
   simp only[hc]at hk
   cases b<;>simp only at hk<;>first|(cases hk;done)|skip
   have e:execOp a.eval {dst:=dst,op:=.call c,type:=type,pos:=pos,after:=after,guard:=guard}=(do pure (Next.value (<-Builtin.len_ c.argTypes type (c.args.map a.eval)))):=by
    simp only[execOp,resolve,hc,pure_bind,invoke,builtin]
   rw[e]
   cases h0:c.argTypes[0]? with
   |none=>rw[h0]at hk;cases hk
   |
    some t=>
    rw[h0]at hk
    simp only[RR]at hk
    split at hk<;>first|(cases hk;done)|skip
    ·rename_i el ht;exact⟨EK (Zu _ h0 (Or.inr ⟨_,ht⟩)),D3 _⟩
    ·rename_i ht;exact⟨EK (Zu _ h0 (Or.inl ht)),D3 _⟩
theorem AEI {P:Program} {G:List FuncId} {o:Oper} {a:Act}(hk:DN P G o=1):Pm P (execOp a.eval o)/\fD (execOp a.eval o) P:=by
 obtain⟨dst,op,type,pos,after,guard⟩:=o
 cases op<;>simp only[DN]at hk<;>first|(cases hk;done)|(split at hk<;>cases hk;done)|skip
 case load t x=>exact⟨aL (aM _ _),D3 _⟩
 case makeMap t r=>cases r<;>cases hk
 case call c=>
  cases hc:c.callee with
  |value f=>simp only[hc]at hk;cases f<;>simp only at hk<;>first|(cases hk;done)|(split at hk<;>cases hk)
  |invoke r m=>simp only[hc]at hk;cases hk
  |
   builtin b=>
   simp only[hc]at hk
   cases b<;>simp only at hk<;>first|(cases hk;done)|skip
   have e:execOp a.eval {dst:=dst,op:=.call c,type:=type,pos:=pos,after:=after,guard:=guard}=(do pure (Next.value (<-Builtin.len_ c.argTypes type (c.args.map a.eval)))):=by
    simp only[execOp,resolve,hc,pure_bind,invoke,builtin]
   rw[e]
   cases h0:c.argTypes[0]? with
   |none=>rw[h0]at hk;cases hk
   |
    some t=>
    rw[h0]at hk
    simp only[RR]at hk
    split at hk<;>first|(cases hk;done)|skip
    rename_i k el ht
    exact⟨aL (aN _ h0 ht),D3 _⟩
theorem AEH {P:Program} {G:List FuncId} {o:Oper} {a:Act}(hk:DN P G o=6):V9 P (execOp a.eval o)/\fD (execOp a.eval o) P:=by
 obtain⟨dst,op,type,pos,after,guard⟩:=o
 cases op<;>simp only[DN]at hk<;>first|(cases hk;done)|(split at hk<;>cases hk;done)|skip
 case alloc t=>
  refine⟨ET ?_ λ_=>(AN _).grows,D3 _⟩
  unfold Instr.alloc
  refine ET (Ja _).grows λz=>?_
  exact ET (Ql _ _) λ_=>(AN _).grows
 case box t x=>
  refine⟨ET ?_ λ_=>(AN _).grows,D3 _⟩
  unfold Instr.box
  exact ET (Ql _ _) λ_=>(AN _).grows
 case buildSlice t n parts=>
  refine⟨ET ?_ λ_=>(AN _).grows,D3 _⟩
  unfold Instr.buildSlice
  unfold newRow
  dsimp only
  repeat' (first|exact(AN _).grows|exact(B4 _).grows|exact(BF _).grows|exact(Cq _).grows|exact(Dd _).grows|exact(Ja _).grows|exact Lv _|refine ET ?_ (λ_=>?_)|split|dsimp only[])
 case makeMap t r=>
  cases r with
  |some x=>cases hk
  |
   none=>
   refine⟨ET ?_ λ_=>(AN _).grows,D3 _⟩
   unfold Instr.makeMap
   exact ET (Lv _) λ_=>(AN _).grows
 case call c=>
  cases hc:c.callee with
  |value f=>simp only[hc]at hk;cases f<;>simp only at hk<;>first|(cases hk;done)|(split at hk<;>cases hk)
  |invoke r m=>simp only[hc]at hk;cases hk
  |
   builtin b=>
   simp only[hc]at hk
   cases b<;>simp only at hk<;>first|(cases hk;done)|(split at hk<;>cases hk)
section
variable {P:Program} {l:List Oper} {ks A:List Nat} {G:List FuncId}
theorem TH {p:List Nat}(h:ACP P G l ks p A=true):(∀j o,l[j]? =some o->(DN P G o=ks.getD j 3\/ks.getD j 3=3)/\DN P G o≠9)/\Stat l.toArray A (λi=>p.idxOf i):=by
 have g:∀j o,l[j]? =some o->(DN P G o=ks.getD j 3\/ks.getD j 3=3)/\DN P G o≠9/\(∀e∈o.after,Region.binds .any e=true->e.on<l.length/\p.idxOf e.on<p.idxOf j)/\
   ∀i,i<l.length->(A.getD j 0).testBit i=true->∃e∈o.after,Region.binds .any e=true/\(e.on=i\/(A.getD e.on 0).testBit i=true):=λj o hj=>by
  have hlt:=(Ae.1 hj).1
  have h1:=CU.1 h j (AM.2 hlt)
  simp only[hj,Ap,Dj,beq_iff_eq,bne_iff_ne,ne_eq]at h1
  obtain⟨⟨⟨h1,h2⟩,h3⟩,h4⟩:=h1
  refine⟨h1,h2,λe he hb=>?_,λi hi hb=>?_⟩
  ·have:=Array.all_eq_true_iff_forall_mem.1 h3 e he
   simpa[hb]using this
  ·have h5:=CU.1 h4 i (AM.2 hi)
   rw[hb]at h5
   simp only[Bool.not_true,Bool.false_or]at h5
   obtain⟨e,he,h6⟩:=Array.any_eq_true'.1 h5
   simp only[Ap,Dj,beq_iff_eq]at h6
   exact⟨e,he,h6.1,h6.2⟩
 refine⟨λj o hj=>⟨(g j o hj).1,(g j o hj).2.1⟩,⟨λj o hj e he hb=>by simpa using(g j o (by simpa using hj)).2.2.1 e he hb,λj o hj i hi hb=>(g j o (by simpa using hj)).2.2.2 i (by simpa using hi) hb⟩⟩
theorem Zp {o:Oper}(h:DN P G o≠9)(cs:Array SelectCase)(b:Bool):o.op≠.select cs b:=λe=>h (by simp[DN,e])
theorem iM {i j:Nat}(h:xP l ks A i j=true):PairOk l.toArray (λi=>El (ks.getD i 3)) A i j:=by
 unfold xP at h
 split at h
 ·rename_i oi oj hi hj
  simp only[Ap,bne_iff_ne,ne_eq,Dj]at h
  obtain⟨⟨h1,h2⟩,h3⟩:=h
  refine⟨h1,λo ho e he hb=>?_,h3.imp id λh4 o o' ho ho'=>?_⟩
  ·have:o=oi:=by simp[hi]at ho;exact ho.symm
   subst this
   have:=Array.all_eq_true_iff_forall_mem.1 h2 e he
   simpa[hb]using this
  ·have e1:o=oi:=by simp[hi]at ho;exact ho.symm
   have e2:o'=oj:=by simp[hj]at ho';exact ho'.symm
   subst e1;subst e2
   exact h4
 ·cases h
theorem Sn:∀{p:List Nat},XX l ks A p=true->p.Pairwise (PairOk l.toArray (λi=>El (ks.getD i 3)) A)
 |[],_=>List.Pairwise.nil
 |
  i::rest,h=>by
  simp only[XX,Ap]at h
  exact List.Pairwise.cons (λj hj=>iM (CU.1 h.1 j hj)) (Sn h.2)
theorem Tl {o:Oper} {a:Act} {w:World} {K:Act->World->Prop}(hv:fD (execOp a.eval o) P)(h:o.wp P a w K No):∃v w1,(execOp a.eval o).run P w=.ok (.value v) w1/\K (a.put o.dst v) w1:=by
 unfold Oper.wp at h
 cases hr:(execOp a.eval o).run P w with
 |
  ok n w1=>
  obtain⟨v,rfl⟩:=hv w n w1 hr
  rw[hr]at h
  exact⟨v,w1,rfl,h⟩
 |
  halt x w1=>
  rw[hr]at h
  cases x<;>simp only[Oper.upon]at h<;>exact h.elim
theorem Tm {Q:Act->World->Prop}(hs:∀j o,l[j]? =some o->(DN P G o=ks.getD j 3\/ks.getD j 3=3)/\DN P G o≠9):∀(p:List Nat) (a:Act) (w:World),
  I8 P l ks Q p a w->wpS P l.toArray (λi=>El (ks.getD i 3)) Q p a w
 |[],_,_,h=>h
 |
  i::rest,a,w,h=>by
  have ih:=Tm (Q:=Q) hs rest
  simp only[I8,wpS]at h⊢
  cases hi:l[i]? with
  |none=>simp[hi]at h
  |
   some o=>
   have hi':l.toArray[i]? =some o:=by simpa using hi
   simp only[hi,hi']at h⊢
   obtain⟨hk0',h9⟩:=hs i o hi
   have hk:∀n,ks.getD i 3=n->n≠3->DN P G o=n:=λn e hn=>by
    rcases hk0' with h'|h'
    ·exact h'.trans e
    ·exact absurd (e.symm.trans h') hn
   by_cases hw:Region.wanted o (yielded l.toArray a.tmps)=true
   ·simp only[hw,if_true]at h
    split at h
    ·rename_i hk0
     obtain⟨hd,h⟩:=h
     obtain⟨hS,hV⟩:=AEJ (a:=a) (hk _ hk0 (by decide)) hd
     obtain⟨v,w1,hr,hK⟩:=Tl hV h
     obtain⟨rfl,h2⟩:=hS _ _ _ hr
     simp only[hk0,El,Wb]
     exact⟨v,.inl ⟨hw,h2⟩,ih _ _ hK⟩
    ·rename_i hk5
     obtain⟨v,hv,hK⟩:=h
     simp only[hk5,El,Wb]
     exact⟨v,.inl ⟨hw,hv⟩,ih _ _ hK⟩
    ·rename_i hk2
     simp only[hk2,El,Wb,RY,hw,if_true]
     exact Oper.wp_imp (λa' w' h=>⟨h.1,ih _ _ h.2⟩) h
    ·rename_i n0 n5 n2
     have any3:Wb P l.toArray 3 o (wpS P l.toArray (λi=>El (ks.getD i 3)) Q rest) a w:=by
      simp only[Wb,RY,hw,if_true];exact Oper.wp_imp ih h
     by_cases h1:ks.getD i 3=1
     ·obtain⟨hM,hV⟩:=AEI (a:=a) (hk _ h1 (by decide))
      obtain⟨v,w1,hr,hK⟩:=Tl hV h
      obtain⟨rfl,h2⟩:=hM _ _ _ hr
      simp only[h1,El,Wb]
      exact⟨v,.inl ⟨hw,h2⟩,ih _ _ hK⟩
     ·by_cases h6:ks.getD i 3=6
      ·obtain⟨hG,hV⟩:=AEH (a:=a) (hk _ h6 (by decide))
       obtain⟨v,w1,hr,hK⟩:=Tl hV h
       simp only[h6,El,Wb,RY,hw,if_true,Oper.wp,hr,Oper.upon]
       exact⟨(hG _ _ _ hr).1,ih _ _ hK⟩
      ·have:El (ks.getD i 3)=3:=by
        unfold El
        split<;>simp_all
       rw[this];exact any3
   ·simp only[hw]at h
    have hw':Region.wanted o (yielded l.toArray a.tmps)=false:=by simpa using hw
    have hK:=ih _ _ h
    have hc:=oD (ks.getD i 3)
    have:El (ks.getD i 3)=0\/El (ks.getD i 3)=1\/El (ks.getD i 3)=2\/El (ks.getD i 3)=3:=by omega
    rcases this with h0|h0|h0|h0<;>rw[h0]<;>simp only[Wb]
    ·exact⟨undef,.inr ⟨hw',rfl⟩,hK⟩
    ·exact⟨undef,.inr ⟨hw',rfl⟩,hK⟩
    ·simp only[RY,hw',CL,if_false];exact⟨Kb.refl _,hK⟩
    ·simp only[RY,hw',CL,if_false];exact hK
theorem V1 {Q:Exit->Act->World->Prop} {a:Act} {w:World}(G:List FuncId)(ks p A:List Nat)(hB:Mv P G l ks p A=true)
  (h:I8 P l ks (λa w=>Q .normal a w) p a w):wpAny P .any l.toArray Q l.toArray.size (Array.replicate l.toArray.size false) a w:=by
 simp only[Mv,Ap,beq_iff_eq,CU,decide_eq_true_eq,AM]at hB
 obtain⟨⟨⟨⟨h1,h2⟩,h3⟩,h4⟩,h5⟩:=hB
 obtain⟨hs,S⟩:=TH h1
 have hp:=Sn h2
 have e:l.toArray.size=p.length:=by simp[h3]
 rw[e]
 refine eV (cls:=λi=>El (ks.getD i 3)) (A:=A) (λi=>oD _) (λj o cs b hj=>Zp (P:=P) (G:=G) (hs j o (by simpa using hj)).2 cs b) S (λa w h=>h) p.length p _ a _ rfl ?_ (Tm hs p a _ h)
 refine⟨by simp[h3],λj oj _ hl=>?_,λi hi=>?_,λi hi=>by simpa using h4 i hi,hp⟩
 ·have:∀(m j:Nat),(Array.replicate m false).getD j false=false:=λm j=>by
   rcases BL j m with h|h<;>simp[h]
  rw[this]at hl;cases hl
 ·have hi':i<l.length:=by simpa using hi
  have hm:=h5 i hi'
  have hip:i<p.length:=by omega
  have e2:(Array.replicate p.length false).getD i true=false:=by simp[hip]
  rw[e2]
  simpa using hm
theorem J6 {id:Nat} {Q:Exit->Act->World->Prop} {a:Act} {w:World}(G:List FuncId)(ks p A:List Nat)(hm:P.follows .mixedOrders=true)(hB:Mv P G l ks p A=true)
  (h:I8 P l ks (λa w=>Q .normal a w) p a w.drew):(Code.region id l.toArray true).wp P Q a w:=
 wp_region_any hm (V1 G ks p A hB h)
end
end Go.Reg
