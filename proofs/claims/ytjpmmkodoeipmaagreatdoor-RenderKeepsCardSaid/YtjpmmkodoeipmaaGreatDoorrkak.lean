/- Arg. -/
import Derived.Test.YtjpmmkodoeipmaaGreatDoorrkaf
import Derived.Deep.Slices
import Derived.ChangeArms
import Derived.OpenShut
namespace Go.Reg
open Go Go.RowKit Go.Deep Go.WideShapes
section
variable {α H:Type}
def EB(k:Nat)(enc:α->List Value)(w:World)(v:Value)(l:List α):Prop:=
 ∃a c,v=.slice a l.length c/\l.length<=maxLen/\∀(i:Nat) (x:α),l[i]? =some x->∃b o,a=some ⟨b,o,none⟩/\∀(j:Nat) (u:Value),(enc x)[j]? =some u->w.cell? ⟨b,o+i*k+j,none⟩=some u
theorem HI {w w':World}(h:Tch [] w w') {x:Addr} {v:Value}(hc:w.cell? x=some v):w'.cell? x=some v:=by
 have hb:x.block<w.heap.size:=by
  rcases BL x.block w.heap.size with h|h
  ·exact h
  ·unfold World.cell? at hc
   rw[Array.getElem?_eq_none (by omega)]at hc
   cases hc
 unfold World.cell? at hc⊢
 rw[h.blk _ hb (by simp)]
 exact hc
theorem EB.keep {k:Nat} {enc:α->List Value} {w w':World} {v:Value} {l:List α}(h:EB k enc w v l)(t:Tch [] w w'):EB k enc w' v l:=by
 obtain⟨a,c,hv,hm,hc⟩:=h
 refine⟨a,c,hv,hm,λi x hi=>?_⟩
 obtain⟨b,o,ha,h2⟩:=hc i x hi
 exact⟨b,o,ha,λj u hj=>HI t (h2 j u hj)⟩
theorem nM {Q:Nat->α->Prop} {n:Nat}(h:∀i,i<n->∃x,Q i x):∃l:List α,l.length=n/\∀(i:Nat) (x:α),l[i]? =some x->Q i x:=by
 induction n with
 |zero=>exact⟨[],rfl,λi x hx=>by simp at hx⟩
 |
  succ n ih=>
  obtain⟨l,hl,hq⟩:=ih (λi hi=>h i (Nat.lt_succ_of_lt hi))
  obtain⟨x,hx⟩:=h n (Nat.lt_succ_self n)
  refine⟨l++[x],by simp[hl],λi y hy=>?_⟩
  rcases BL i n with hi|hi
  ·rw[Bi (by omega)]at hy
   exact hq i y hy
  ·rw[Bv (by omega)]at hy
   have hi':i=n:=by
    have:=(Ae.1 hy).1
    simp at this;omega
   subst hi'
   simp[hl]at hy
   subst hy
   exact hx
theorem eT {P:Program} {k:Nat} {enc:α->List Value} {e':TypeId×Value->H} {w:World} {base b0:Nat} {spare:Nat->Bool} {held:Bool} {r:Reach} {t e:TypeId} {v:Value} {d:DataW H} {ps:List MemPlace}(Q:α->Prop)
  (ht:P.underlying t=some (.slice e)) (hc:P.cellsOf e=k) (hk:0<k) (he:∀x,(enc x).length=k)
  (hel:∀n cs y,DataW.trod e' P w base spare held n e cs=some y->∃x,cs=enc x/\Q x)
  (hval:Value.okWide P w r b0 t v) (h:DataW.Trod e' P w base spare held t v d ps):∃l,EB k enc w v l/\∀x∈l,Q x:=by
 obtain⟨a0,len0,cap0,rfl⟩:=okWide_slice ht hval
 obtain⟨fuel,hf⟩:=h
 rcases open_slice ht hf with⟨h1,_⟩|⟨a,len,cap,m,n,D,Pl,h1,hb,hl,hm,hmm,_,hx⟩
 ·simp[Value.cells]at h1
  obtain⟨rfl,rfl,rfl⟩:=h1
  exact⟨[],⟨none,0,rfl,by simp,λi x hi=>by simp at hi⟩,by simp⟩
 ·simp[Value.cells]at h1
  obtain⟨rfl,rfl,rfl⟩:=h1
  have hlm:len0<=m:=by rw[hmm];split<;>omega
  obtain⟨l,hll,hq⟩:=nM (Q:=λi x=>Q x/\w.cells? base (a.add (i*k)) k=some (enc x)) (n:=len0) (λi hi=>by
   obtain⟨cs',h1,h2⟩:=hx i (by omega)
   obtain⟨x,rfl,hQ⟩:=hel _ _ _ h2
   rw[hc]at h1
   exact⟨x,hQ,h1⟩)
  refine⟨l,⟨some a,cap0,by rw[hll],by omega,λi x hi=>?_⟩,λx hx=>?_⟩
  ·have h2:=(hq i x hi).2
   obtain⟨_,_,hcell⟩:=World.cells?_some h2
   have h0:=hcell 0 hk
   obtain⟨b,o,sp⟩:=a
   have hi0:0<l.length:=by have:=(Ae.1 hi).1;omega
   have hz:=(hq 0 l[0] (by simp[hi0])).2
   obtain⟨_,_,hcell0⟩:=World.cells?_some hz
   have hsp:sp=none:=by
    have h00:=hcell0 0 hk
    rw[Nat.zero_mul,add_add]at h00
    have hsome:(w.cell? ⟨b,o,sp⟩).isSome=true:=by
     simp only[Addr.add,Et,if_true]at h00
     rw[h00]
     simp[he,hk]
    cases sp with
    |none=>rfl
    |
     some s=>
     exfalso
     unfold World.cell? at hsome
     simp at hsome
     split at hsome<;>simp at hsome
   subst hsp
   refine⟨b,o,rfl,λj u hj=>?_⟩
   have hjk:j<k:=by have:=(Ae.1 hj).1;rw[he]at this;exact this
   have:=hcell j hjk
   rw[add_add,hj]at this
   by_cases hz:i*k+j=0
   ·rw[hz]at this
    simp only[Addr.add,if_true]at this
    rw[show o+i*k+j=o by omega]
    exact this
   ·simp only[Addr.add,hz,if_false]at this
    rw[show o+i*k+j=o+(i*k+j)by omega]
    exact this
  ·obtain⟨i,hi⟩:=SM hx
   exact(hq i x hi).1
end
end Go.Reg
