/- Mem. -/
import Derived.Test.YtjpmmkodoeipmaaGreatDoorrkad
import Derived.Test.YtjpmmkodoeipmaaGreatDoorrkae
namespace Go.Reg
open Go Go.RowKit
theorem Ga {p:Prop}(h:p):Hid p:=h
structure Tch(S:List Nat)(w w':World):Prop where
 os:w'.os=w.os
 tape:w'.tape=w.tape
 output:w'.output=w.output
 size:w.heap.size<=w'.heap.size
 blk:∀k,k<w.heap.size->k∉S->w'.heap[k]? =w.heap[k]?
theorem Tch.refl(S:List Nat)(w:World):Tch S w w:=⟨rfl,rfl,rfl,Ax _,λ_ _ _=>rfl⟩
theorem Tch.trans {S S' T:List Nat} {a b c:World}(h:Tch S a b)(k:Tch S' b c)(hS:∀x∈S,x∈T)(hS':∀x∈S',x∈T\/a.heap.size<=x):Tch T a c:=
 ⟨k.os.trans h.os,k.tape.trans h.tape,k.output.trans h.output,BH h.size k.size,λi hi hn=>by
  have hn':i∉S':=λhm=>(hS' i hm).elim hn (λh=>by omega)
  have:=h.size
  rw[k.blk i (by omega) hn',h.blk i hi (λhm=>hn (hS i hm))]⟩
theorem Tch.mono {S T:List Nat} {a b:World}(h:Tch S a b)(hS:∀x∈S,x∈T):Tch T a b:=⟨h.os,h.tape,h.output,h.size,λk hk hn=>h.blk k hk (λhm=>hn (hS k hm))⟩
theorem Tch.trans0 {S:List Nat} {a b c:World}(h:Tch S a b)(k:Tch S b c):Tch S a c:=h.trans k (λ_ h=>h) (λ_ h=>.inl h)
theorem Tch.then0 {S:List Nat} {a b c:World}(h:Tch S a b)(k:Tch [] b c):Tch S a c:=h.trans k (λ_ h=>h) (λ_ h=>by cases h)
theorem Tch.ahead0 {S:List Nat} {a b c:World}(h:Tch [] a b)(k:Tch S b c):Tch S a c:=h.trans k (λ_ h=>by cases h) (λ_ h=>.inl h)
theorem Tch.drew(w:World)(S:List Nat):Tch S w w.drew:=⟨rfl,rfl,rfl,Ax _,λ_ _ _=>rfl⟩
theorem Tch.alloc(w:World)(o:Obj)(S:List Nat):Tch S w (w.alloc o):=⟨rfl,rfl,rfl,by simp,λk hk _=>Below.heap_alloc w o k hk⟩
theorem Tch.setCell(w:World) {S:List Nat} {b i:Nat}(hb:b∈S\/w.heap.size<=b)(v:Value):Tch S w (w.setCell ⟨b,i,none⟩ v):=
 ⟨rfl,rfl,rfl,by simp[World.setCell],λk hk hn=>Below.heap_setCell w _ v k (λe=>by
  have e':k=b:=e
  subst e'
  rcases hb with hb|hb
  ·exact hn hb
  ·omega)⟩
theorem Tch.andAlloc {S:List Nat} {a b:World}(h:Tch S a b)(o:Obj):Tch S a (b.alloc o):=h.then0 (Tch.alloc b o [])
theorem Tch.andSet {S:List Nat} {a b:World}(h:Tch S a b) {k i:Nat}(hk:k∈S\/a.heap.size<=k)(v:Value):Tch S a (b.setCell ⟨k,i,none⟩ v):=
 h.trans (Tch.setCell b (S:=[k]) (.inl (by simp)) v) (λ_ h=>h) (λx hx=>by simp at hx;subst hx;exact hk)
theorem Tch.below {w w':World}(h:Tch [] w w'):Below w.heap.size w w':=⟨h.os,h.tape,h.output,h.size,λk hk=>h.blk k hk (by simp)⟩
theorem Tch.ext {w w':World}(h:Tch [] w w'):Kb w w':=λk hk=>h.blk k hk (by simp)
theorem Tch.cell {S:List Nat} {w w':World}(h:Tch S w w') {b i:Nat} {v:Value}(hc:w.cell? ⟨b,i,none⟩=some v)(hn:b∉S):w'.cell? ⟨b,i,none⟩=some v:=by
 have hb:b<w.heap.size:=World.block_lt_of_cell? w ⟨b,i,none⟩ hc
 rw[World.cell?_of_block (w:=w) (h.blk b hb hn)];exact hc
def IV(w:World)(b:Nat)(T:TypeId)(cs:List Value):Prop:=w.heap[b]? =some (.cells cs.toArray T (0,0))
theorem IV.lt {w:World} {b:Nat} {T:TypeId} {cs:List Value}(h:IV w b T cs):b<w.heap.size:=(Ak.1 h).1
theorem IV.cell {w:World} {b:Nat} {T:TypeId} {cs:List Value}(h:IV w b T cs) {i:Nat} {v:Value}(hi:cs[i]? =some v):w.cell? ⟨b,i,none⟩=some v:=by
 unfold IV at h;simp[World.cell?,h,hi]
theorem IV.frozen {w:World} {b:Nat} {T:TypeId} {cs:List Value}(h:IV w b T cs)(i:Nat):w.frozen? ⟨b,i,none⟩=false:=by
 unfold IV at h;simp[World.frozen?,h]
theorem IV.keep {S:List Nat} {w w':World} {b:Nat} {T:TypeId} {cs:List Value}(h:IV w b T cs)(t:Tch S w w')(hn:b∉S):IV w' b T cs:=by
 unfold IV;rw[t.blk b h.lt hn];exact h
theorem IV.drew {w:World} {b:Nat} {T:TypeId} {cs:List Value}(h:IV w b T cs):IV w.drew b T cs:=h
theorem IV.alloc {w:World} {b:Nat} {T:TypeId} {cs:List Value}(h:IV w b T cs)(o:Obj):IV (w.alloc o) b T cs:=h.keep (Tch.alloc w o []) (by simp)
theorem IV.new(w:World)(T:TypeId)(cs:List Value):IV (w.alloc (.cells cs.toArray T)) w.heap.size T cs:=by
 unfold IV;exact(YG w _).1
theorem IV.set {w:World} {b:Nat} {T:TypeId} {cs:List Value}(h:IV w b T cs)(i:Nat)(v:Value):IV (w.setCell ⟨b,i,none⟩ v) b T (cs.set i v):=by
 unfold IV at h⊢
 simp[World.setCell,C9,h]
theorem IV.ne {w:World} {a b:Nat} {S T:TypeId} {cs ds:List Value}(h:IV w a S cs)(k:IV w b T ds)(hn:S≠T):a≠b:=by
 intro e;subst e
 unfold IV at h k
 rw[h]at k
 simp at k
 exact hn k.2
section
variable {P:Program} {l:List Oper} {ks:List Nat} {Q:Act->World->Prop} {i:Nat} {rest:List Nat} {a:Act} {w:World} {o:Oper}
theorem Du(hi:l[i]? =some o)(hk:(match ks.getD i 3 with|1|6=>true|_=>false)=true)(hw:Region.wanted o (yielded l.toArray a.tmps)=true)(h:∀K:Act->World->Prop,(∀a w,I8 P l ks Q rest a w->K a w)->o.wp P a w K No):I8 P l ks Q (i::rest) a w:=by
 refine Hj hi ?_ hw h
 revert hk
 generalize ks.getD i 3=k
 intro hk
 split at hk<;>first|rfl|cases hk
end
theorem LP {P:Program} {l:List Oper} {id:Nat} {Q:Exit->Act->World->Prop} {a:Act} {w:World}(G:List FuncId)(ks p A:List Nat)(hm:P.follows .mixedOrders=true)(hB:Mv P G l ks p A=true)
  (h:∀w1,Tch [] w w1->I8 P l ks (λa w=>Q .normal a w) p a w1):(Code.region id l.toArray true).wp P Q a w:=
 J6 G ks p A hm hB (h _ (Tch.drew w []))
theorem Pu {P:Program} {l:List Oper} {id:Nat} {Q:Exit->Act->World->Prop} {a:Act} {w:World}(G:List FuncId)(ks:List Nat)(i j:Nat)(p1 A1 p2 A2:List Nat)(hm:P.follows .mixedOrders=true)(hij:(decide (i<l.length)&&decide (j<l.length)&&i !=j)=true)
  (hB1:Mv P G (more l.toArray i j).toList ks p1 A1=true) (hB2:Mv P G (more l.toArray j i).toList ks p2 A2=true)
  (h1:∀w1,Tch [] w w1->I8 P l ks (λa w=>Q .normal a w) p1 a w1) (h2:∀w1,Tch [] w w1->I8 P l ks (λa w=>Q .normal a w) p2 a w1):(Code.region id l.toArray true).wp P Q a w:=by
 simp at hij
 exact YN G ks i j p1 A1 p2 A2 hm hij.1.1 hij.1.2 hij.2 hB1 hB2 (h1 _ (Tch.drew w [])) (h2 _ (Tch.drew w []))
theorem ABm {P:Program} {s:Sem Value} {v:Value} {w w':World}(h:s.run P w=.ok v w'):(do pure (Next.value (<-s)):Sem Next).run P w=.ok (.value v) w':=by
 rw[AK,h];rfl
theorem vS {P:Program} {s:Sem Unit} {w w':World}(h:s.run P w=.ok () w'):(do s;pure Next.skip:Sem Next).run P w=.ok .skip w':=by
 rw[AK,h];rfl
theorem Xy {P:Program} {o:Oper} {a:Act} {w w':World} {K:Act->World->Prop} {Q:Exit->Act->World->Prop} {v:Value}(h:(execOp a.eval o).run P w=.ok (.value v) w')(hK:K (a.put o.dst v) w'):o.wp P a w K Q:=by
 unfold Oper.wp;rw[h];exact hK
theorem uL {P:Program} {o:Oper} {a:Act} {w w':World} {K:Act->World->Prop} {Q:Exit->Act->World->Prop}(h:(execOp a.eval o).run P w=.ok .skip w')(hK:K (a.put o.dst undef) w'):o.wp P a w K Q:=by
 unfold Oper.wp;rw[h];exact hK
theorem Kc {P:Program} {o:Oper} {a:Act} {w w':World} {K:Act->World->Prop} {Q:Exit->Act->World->Prop} {x y:Operand} {tys:Array TypeId} {vx vy v:Value}(ho:o.op=.call {callee:=.builtin .append,args:=#[x,y],argTypes:=tys}) (hx:a.eval x=vx) (hy:a.eval y=vy)
  (h:(Builtin.append_ tys o.type #[vx,vy]).run P w=.ok v w') (hK:K (a.put o.dst v) w'):o.wp P a w K Q:=by
 unfold Oper.wp
 simp[execOp,ho,resolve,invoke,builtin,hx,hy,h]
 exact hK
end Go.Reg
