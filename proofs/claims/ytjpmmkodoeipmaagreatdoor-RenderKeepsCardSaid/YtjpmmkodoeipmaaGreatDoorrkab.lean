/- Rgb. -/
import Derived.Test.YtjpmmkodoeipmaaGreatDoorrkaa
namespace Go.Reg
open Go Go.RowKit
section
variable {P:Program} {ops:Array Oper}
def wpS(P:Program)(ops:Array Oper)(cls:Nat->Nat)(Q:Act->World->Prop):List Nat->Act->World->Prop
 |[],a,w=>Q a w
 |
  i::rest,a,w=>match ops[i]? with
  |none=>False
  |some o=>Wb P ops (cls i) o (wpS P ops cls Q rest) a w
structure PairOk(ops:Array Oper)(cls:Nat->Nat)(A:List Nat)(i j:Nat):Prop where
 ne:i≠j
 noBack:∀oi,ops[i]? =some oi->∀e∈oi.after,Region.binds .any e=true->e.on≠j
 free:(A.getD j 0).testBit i=true\/∀oi oj,ops[i]? =some oi->ops[j]? =some oj->cC (cls i) (cls j)=true/\oi.apart ops oj=true
theorem AE5 {cls:Nat->Nat}(hc:∀i,cls i<=3)(hsel:∀(j:Nat) (o:Oper) cs b,ops[j]? =some o->o.op≠.select cs b) {Q:Act->World->Prop} {j:Nat} {oj:Oper}(hj:ops[j]? =some oj)(post:List Nat):
  ∀(pre:List Nat),(∀i∈pre,∀oi,ops[i]? =some oi->cC (cls i) (cls j)=true/\oi.apart ops oj=true)->∀(a:Act) (w:World),
   wpS P ops cls Q (pre++j::post) a w->Wb P ops (cls j) oj (wpS P ops cls Q (pre++post)) a w
 |[],_,a,w,h=>by simpa[wpS,hj]using h
 |
  i::pre,hp,a,w,h=>by
  simp only[AT,wpS]at h⊢
  cases hi:ops[i]? with
  |none=>simp[hi]at h
  |
   some oi=>
   simp only[hi]at h⊢
   obtain⟨hf,hap⟩:=hp i (by simp) oi hi
   exact swap (λcs b=>hsel i oi cs b hi) (λcs b=>hsel j oj cs b hj) hap (hc i) (hc j) hf
    (vG (λa' w' h'=>AE5 hc hsel hj post pre (λk hk=>hp k (by simp[hk])) a' w' h') h)
theorem YP {cls:Nat} {i:Nat} {o:Oper}(hi:ops[i]? =some o) {Q:Exit->Act->World->Prop} {K:Act->World->Prop} {a:Act} {w:World}(h:Wb P ops cls o K a w):wpOp P ops Q i K a w:=by
 have g:∀{K':Act->World->Prop},(∀a w,K' a w->K a w)->RY P ops o K' a w->wpOp P ops Q i K a w:=λhK hh=>by
  unfold wpOp
  simp only[hi]
  unfold RY at hh
  split
  ·rename_i hw;rw[if_pos hw]at hh;exact .inl (Oper.wp_imp hK hh)
  ·rename_i hw;rw[if_neg hw]at hh;exact hK _ _ hh
 unfold Wb at h
 split at h
 ·obtain⟨v,hy,hk⟩:=h;exact hy.wpOp hi hk
 ·obtain⟨v,hy,hk⟩:=h
  unfold wpOp
  simp only[hi]
  rcases hy with⟨hw,hv⟩|⟨hw,rfl⟩
  ·simp only[hw,if_true,Oper.wp,hv w (Kb.refl w),Oper.upon];exact .inl hk
  ·simp only[hw,CL,if_false];exact hk
 ·exact g (λ_ _ h=>h.2) h
 ·exact g (λ_ _ h=>h) h
structure Inv(ops:Array Oper)(cls:Nat->Nat)(A:List Nat)(R:List Nat)(listed:Array Bool):Prop where
 size:listed.size=ops.size
 closed:∀j oj,ops[j]? =some oj->listed.getD j false=true->∀e∈oj.after,Region.binds .any e=true->listed.getD e.on false=true
 mem:∀i,i<ops.size->(listed.getD i true=false↔i∈R)
 lt:∀i∈R,i<ops.size
 pairs:R.Pairwise (PairOk ops cls A)
structure Stat(ops:Array Oper)(A:List Nat)(rk:Nat->Nat):Prop where
 down:∀j oj,ops[j]? =some oj->∀e∈oj.after,Region.binds .any e=true->e.on<ops.size/\rk e.on<rk j
 anc:∀j oj,ops[j]? =some oj->∀i,i<ops.size->(A.getD j 0).testBit i=true->∃e∈oj.after,Region.binds .any e=true/\(e.on=i\/(A.getD e.on 0).testBit i=true)
theorem V2 {A:List Nat} {rk:Nat->Nat}(S:Stat ops A rk) {listed:Array Bool}(hcl:∀j oj,ops[j]? =some oj->listed.getD j false=true->∀e∈oj.after,Region.binds .any e=true->listed.getD e.on false=true):
  ∀(n j:Nat) (oj:Oper),rk j<n->ops[j]? =some oj->(∀e∈oj.after,Region.binds .any e=true->listed.getD e.on false=true)->∀i,i<ops.size->(A.getD j 0).testBit i=true->listed.getD i false=true
 |0,_,_,h,_,_,_,_,_=>by omega
 |
  n+1,j,oj,h,hj,hd,i,hi,hb=>by
  obtain⟨e,he,hbind,hor⟩:=S.anc j oj hj i hi hb
  have h1:=hd e he hbind
  have hlt:=S.down j oj hj e he hbind
  rcases hor with rfl|hor
  ·exact h1
  ·have hs:e.on<ops.size:=hlt.1
   exact V2 S hcl n e.on ops[e.on] (by omega) (BS hs) (hcl e.on _ (BS hs) h1) i hi hor
theorem eV {cls:Nat->Nat} {A:List Nat}(hc:∀i,cls i<=3)(hsel:∀(j:Nat) (o:Oper) cs b,ops[j]? =some o->o.op≠.select cs b) {rk:Nat->Nat}(S:Stat ops A rk) {Q:Act->World->Prop} {Q':Exit->Act->World->Prop}(hQ:∀a w,Q a w->Q' .normal a w):
  ∀(n:Nat) (R:List Nat) (listed:Array Bool) (a:Act) (w:World),R.length=n->Inv ops cls A R listed->wpS P ops cls Q R a w->wpAny P .any ops Q' n listed a w
 |
  0,R,listed,a,w,hn,inv,h=>by
  have hR:R=[]:=AJ hn
  subst hR
  refine⟨?_,hQ _ _ h⟩
  apply List.eq_nil_iff_forall_not_mem.2
  intro i hi
  obtain⟨h1,o,ho,_⟩:=mem_ready.1 hi
  exact absurd ((inv.mem i (Ak.1 ho).1).1 h1) (by simp)
 |
  n+1,R,listed,a,w,hn,inv,h=>by
  refine⟨λh0=>?_,λj hj=>?_⟩
  ·exfalso
   obtain⟨i,R',rfl⟩:∃i R',R=i::R':=by cases R with|nil=>simp at hn|cons i R'=>exact⟨i,R',rfl⟩
   have hi:=inv.lt i (by simp)
   have:i∈Region.ready .any ops listed:=by
    refine mem_ready.2 ⟨(inv.mem i hi).2 (by simp),ops[i],BS hi,λe he hb=>?_⟩
    have hlt:=S.down i _ (BS hi) e he hb
    have hes:e.on<ops.size:=hlt.1
    cases hl:listed.getD e.on false with
    |true=>rfl
    |
     false=>
     exfalso
     have hl':listed.getD e.on true=false:=by
      have:e.on<listed.size:=by rw[inv.size];exact hes
      simp[this]at hl⊢;exact hl
     have hm:=(inv.mem e.on hes).1 hl'
     rcases Ai.1 hm with h1|h1
     ·rw[h1]at hlt;omega
     ·exact(List.rel_of_pairwise_cons inv.pairs h1).noBack _ (BS hi) e he hb rfl
   rw[h0]at this
   cases this
  ·obtain⟨hun,oj,hoj,hdeps⟩:=mem_ready.1 hj
   have hjs:=(Ak.1 hoj).1
   have hjR:=(inv.mem j hjs).1 hun
   obtain⟨pre,post,rfl⟩:=List.append_of_mem hjR
   have hpw:=inv.pairs
   have hpre:∀i∈pre,PairOk ops cls A i j:=λi hi=>(Dr.1 hpw).2.2 i hi j (by simp)
   have hfree:∀i∈pre,∀oi,ops[i]? =some oi->cC (cls i) (cls j)=true/\oi.apart ops oj=true:=λi hi oi hoi=>by
    have hp:=hpre i hi
    rcases hp.free with h1|h1
    ·exfalso
     have his:=(Ak.1 hoi).1
     have:=V2 S inv.closed (rk j+1) j oj (by omega) hoj hdeps i his h1
     have h2:=(inv.mem i his).2 (by simp[hi])
     have:i<listed.size:=by rw[inv.size];exact his
     simp_all
    ·exact h1 oi oj hoi hoj
   have h':=AE5 hc hsel hoj post pre hfree a w h
   have hnd:(pre++j::post).Nodup:=Pp (λh=>h.ne) hpw
   have hnj:j∉pre++post:=by
    intro hm
    rw[Dm]at hnd
    simp at hnd hm
    rcases hm with hm|hm
    ·exact hnd.2.2 j hm|>.1 rfl
    ·exact hnd.2.1.1 hm
   refine wpOp_mono (λa' w' hk=>eV hc hsel S hQ n (pre++post) _ a' w' (by simp at hn⊢;omega) ?_ hk) (YP hoj h')
   refine⟨by simp[inv.size],λk ok hk hl e he hb=>?_,λi hi=>?_,λi hi=>inv.lt i (by simp at hi⊢;rcases hi with hi|hi<;>simp[hi]),?_⟩
   ·by_cases hkj:j=k
    ·subst hkj
     have:ok=oj:=Ce (hk.symm.trans hoj)
     subst this
     exact getD_set_true (hdeps e he hb)
    ·rw[getD_set_ne false hkj]at hl
     exact getD_set_true (inv.closed k ok hk hl e he hb)
   ·by_cases hij:j=i
    ·subst hij
     have hjl:j<listed.size:=by rw[inv.size];exact hjs
     simp[hjl]
     simpa using hnj
    ·rw[getD_set_ne true hij,inv.mem i hi]
     have hij':i≠j:=λh=>hij h.symm
     simp[hij']
   ·refine hpw.sublist ?_
    exact List.Sublist.append (List.Sublist.refl _) (List.sublist_cons_self _ _)
end
def xP(l:List Oper)(ks A:List Nat)(i j:Nat):Bool:=
 match l[i]?,l[j]? with
 |some oi,some oj=>i !=j&&oi.after.all (λe=>!Region.binds .any e||e.on !=j)&&((A.getD j 0).testBit i||(cC (El (ks.getD i 3)) (El (ks.getD j 3))&&oi.apart l.toArray oj))
 |_,_=>false
def XX(l:List Oper)(ks A:List Nat):List Nat->Bool
 |[]=>true
 |i::rest=>rest.all (xP l ks A i)&&XX l ks A rest
def ACP(P:Program)(G:List FuncId)(l:List Oper)(ks p A:List Nat):Bool:=
 (List.range l.length).all λj=>match l[j]? with
  |none=>false
  |
   some o=>(DN P G o==ks.getD j 3||ks.getD j 3==3)&&DN P G o !=9&&o.after.all (λe=>!Region.binds .any e||(decide (e.on<l.length)&&decide (p.idxOf e.on<p.idxOf j)))&&
   (List.range l.length).all λi=>!(A.getD j 0).testBit i||o.after.any λe=>Region.binds .any e&&(e.on==i||(A.getD e.on 0).testBit i)
def Mv(P:Program)(G:List FuncId)(l:List Oper)(ks p A:List Nat):Bool:=
 ACP P G l ks p A&&XX l ks A p&&p.length==l.length&&p.all (λi=>decide (i<l.length))&&(List.range l.length).all (λi=>p.contains i)
def I8(P:Program)(l:List Oper)(ks:List Nat)(Q:Act->World->Prop):List Nat->Act->World->Prop
 |[],a,w=>Q a w
 |
  i::rest,a,w=>match l[i]? with
  |none=>False
  |
   some o=>
   if Region.wanted o (yielded l.toArray a.tmps)then
    (match ks.getD i 3 with
    |0=>BG a o=true/\o.wp P a w (I8 P l ks Q rest) No
    |5=>∃v,(∀w2,Kb w w2->(execOp a.eval o).run P w2=.ok (.value v) w2)/\I8 P l ks Q rest (a.put o.dst v) w
    |2=>o.wp P a w (λa' w'=>Kb w w'/\I8 P l ks Q rest a' w') No
    |_=>o.wp P a w (I8 P l ks Q rest) No)
   else I8 P l ks Q rest (a.put o.dst undef) w
section
variable {P:Program} {l:List Oper} {ks:List Nat} {Q:Act->World->Prop} {i:Nat} {rest:List Nat} {a:Act} {w:World} {o:Oper}
theorem GN(h:Q a w):I8 P l ks Q [] a w:=h
theorem Cv(hi:l[i]? =some o)(hk:ks.getD i 3=0)(hw:Region.wanted o (yielded l.toArray a.tmps)=true)(hd:BG a o=true)(h:∀K:Act->World->Prop,(∀a w,I8 P l ks Q rest a w->K a w)->o.wp P a w K No):I8 P l ks Q (i::rest) a w:=by
 simp only[I8,hi,hw,hk,if_true];exact⟨hd,h _ (λ_ _ h=>h)⟩
theorem Hj(hi:l[i]? =some o)(hk:(match ks.getD i 3 with|0|2|5=>false|_=>true)=true)(hw:Region.wanted o (yielded l.toArray a.tmps)=true)(h:∀K:Act->World->Prop,(∀a w,I8 P l ks Q rest a w->K a w)->o.wp P a w K No):I8 P l ks Q (i::rest) a w:=by
 simp only[I8,hi,hw,if_true]
 split
 ·rename_i h0;rw[h0]at hk;cases hk
 ·rename_i h0;rw[h0]at hk;cases hk
 ·rename_i h0;rw[h0]at hk;cases hk
 ·exact h _ (λ_ _ h=>h)
theorem EJ(hi:l[i]? =some o)(hk:ks.getD i 3=2)(hw:Region.wanted o (yielded l.toArray a.tmps)=true)(h:∀K:Act->World->Prop,(∀a' w',Kb w w'->I8 P l ks Q rest a' w'->K a' w')->o.wp P a w K No):I8 P l ks Q (i::rest) a w:=by
 simp only[I8,hi,hw,hk,if_true];exact h _ (λ_ _ h1 h2=>⟨h1,h2⟩)
end
end Go.Reg
