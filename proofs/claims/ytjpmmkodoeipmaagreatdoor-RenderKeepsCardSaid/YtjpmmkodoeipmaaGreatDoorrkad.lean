/- Rgd. -/
import Derived.Test.YtjpmmkodoeipmaaGreatDoorrkac
namespace Go.Reg
open Go Go.RowKit
section
variable {P:Program} {md:Region.Mode}
def LF(md:Region.Mode)(ops:Array Oper):Nat->Array Bool->List Nat->Prop
 |0,_,s=>s=[]
 |_+1,listed,[]=>Region.ready md ops listed=[]
 |n+1,listed,i::s=>i∈Region.ready md ops listed/\LF md ops n (listed.setIfInBounds i true) s
theorem KS {ops:Array Oper} {Q:Exit->Act->World->Prop}:∀(n:Nat) (listed:Array Bool) (s:List Nat) (a:Act) (w:World),wpAny P md ops Q n listed a w->LF md ops n listed s->wpOps P ops Q s a w
 |
  0,listed,s,a,w,h,he=>by
  obtain rfl:s=[]:=he
  exact h.2
 |n+1,listed,[],a,w,h,he=>h.1 he
 |
  n+1,listed,i::s,a,w,h,he=>by
  rw[wpOps_cons]
  exact wpOp_mono (λa' w' h'=>KS n _ s a' w' h' he.2) (h.2 i he.1)
theorem JV {ops:Array Oper}:∀(n t:Nat) (listed:Array Bool),LF md ops n listed (Region.linearise.go md ops n t listed [])
 |0,_,_=>by simp[Region.linearise.go,LF]
 |
  n+1,t,listed=>by
  simp only[Region.linearise.go]
  change LF md ops (n+1) listed (match(Region.ready md ops listed)[t % (Region.ready md ops listed).length]? with
   |some i=>Region.linearise.go md ops n (t/(Region.ready md ops listed).length) (listed.setIfInBounds i true) [i]
   |none=>[].reverse)
  cases hi:(Region.ready md ops listed)[t % (Region.ready md ops listed).length]? with
  |
   none=>
   simp only[List.reverse_nil,LF]
   cases hr:Region.ready md ops listed with
   |nil=>rfl
   |
    cons x xs=>
    rw[hr]at hi
    have hlt:t % (x::xs).length<(x::xs).length:=Nat.mod_lt _ (by simp)
    simp at hi
    simp at hlt
    omega
  |
   some i=>
   simp only[]
   rw[linearise_go_acc,List.reverse_singleton,ACC]
   exact⟨A8 hi,JV n _ _⟩
def more(ops:Array Oper)(i j:Nat):Array Oper:=ops.modify j λo=>{o with after:=o.after.push {on:=i,ground:=.data}}
theorem Jj(ops:Array Oper)(i j k:Nat):(more ops i j)[k]? =(ops[k]?).map λo=>if j=k then {o with after:=o.after.push {on:=i,ground:=.data}}else o:=by
 unfold more
 rw[C9]
 split
 ·rename_i h;subst h;simp
 ·cases ops[k]? <;>rfl
theorem WG(ops:Array Oper)(i j:Nat):(more ops i j).size=ops.size:=by simp[more]
theorem gV {ops:Array Oper} {i j k:Nat} {listed:Array Bool}(h:k∈Region.ready md ops listed)(hk:k=j->listed.getD i false=true):k∈Region.ready md (more ops i j) listed:=by
 obtain⟨h1,o,ho,h2⟩:=mem_ready.1 h
 refine mem_ready.2 ⟨h1,_,by rw[Jj,ho];rfl,?_⟩
 intro e he hb
 by_cases hj:j=k
 ·simp only[hj,if_true]at he
  rcases Array.mem_push.1 he with h|h
  ·exact h2 e h hb
  ·subst h;exact hk hj.symm
 ·simp only[if_neg hj]at he
  exact h2 e he hb
theorem VJ {ops:Array Oper} {i j k:Nat} {listed:Array Bool}(h:k∈Region.ready md (more ops i j) listed):k∈Region.ready md ops listed:=by
 obtain⟨h1,o,ho,h2⟩:=mem_ready.1 h
 rw[Jj]at ho
 cases hk:ops[k]? with
 |none=>rw[hk]at ho;cases ho
 |
  some o'=>
  rw[hk]at ho
  simp only[CA,AB]at ho
  refine mem_ready.2 ⟨h1,o',hk,λe he hb=>h2 e ?_ hb⟩
  subst ho
  split
  ·exact Array.mem_push.2 (.inl he)
  ·exact he
def ahead(i j:Nat)(s:List Nat):Prop:=∀pre post,s=pre++j::post->i∈pre
theorem V3 {i j:Nat}(hij:i≠j):∀s:List Nat,ahead i j s\/ahead j i s
 |[]=>.inl λpre post h=>by simp at h
 |
  k::s=>by
  by_cases hi:k=i
  ·subst hi
   refine .inl λpre post h=>?_
   cases pre with
   |nil=>simp at h;exact absurd h.1 hij
   |cons x pre=>simp at h;simp[h.1]
  ·by_cases hj:k=j
   ·subst hj
    refine .inr λpre post h=>?_
    cases pre with
    |nil=>simp at h;exact absurd h.1 hi
    |cons x pre=>simp at h;simp[h.1]
   ·refine(V3 hij s).imp (λh pre post hp=>?_) (λh pre post hp=>?_)
    ·cases pre with
     |nil=>simp at hp;exact absurd hp.1 hj
     |cons x pre=>simp at hp;exact A9 _ (h pre post hp.2)
    ·cases pre with
     |nil=>simp at hp;exact absurd hp.1 hi
     |cons x pre=>simp at hp;exact A9 _ (h pre post hp.2)
theorem Vg {ops:Array Oper} {i j:Nat}(hi:i<ops.size):∀(n:Nat) (s:List Nat) (listed:Array Bool),listed.size=ops.size->LF md ops n listed s->(listed.getD i false=true\/ahead i j s)->LF md (more ops i j) n listed s
 |0,_,_,_,h,_=>h
 |
  n+1,[],listed,hs,h,hij=>by
  have h':Region.ready md ops listed=[]:=h
  show Region.ready md (more ops i j) listed=[]
  apply List.eq_nil_iff_forall_not_mem.2
  intro k hk
  have:=VJ hk
  rw[h']at this
  cases this
 |
  n+1,k::s,listed,hs,h,hij=>by
  refine⟨gV h.1 λhk=>?_,Vg hi n s _ (by simpa using hs) h.2 ?_⟩
  ·rcases hij with hij|hij
   ·exact hij
   ·have:=hij [] s (by rw[hk];rfl)
    simp at this
  ·rcases hij with hij|hij
   ·exact .inl (getD_set_true hij)
   ·by_cases hki:k=i
    ·subst hki
     have:k<listed.size:=by omega
     exact .inl (by simp[this])
    ·refine .inr λpre post hp=>?_
     have:=hij (k::pre) post (by rw[hp];rfl)
     rcases Ai.1 this with h|h
     ·exact absurd h.symm hki
     ·exact h
theorem GP {ops:Array Oper} {i j:Nat} {Q:Exit->Act->World->Prop}:∀(s:List Nat) (a:Act) (w:World),wpOps P (more ops i j) Q s a w->wpOps P ops Q s a w
 |[],_,_,h=>h
 |
  k::s,a,w,h=>by
  rw[wpOps_cons]at h⊢
  have hy:∀tmps,yielded (more ops i j) tmps=yielded ops tmps:=λtmps=>by
   funext g
   unfold yielded
   rw[Jj]
   cases ops[g]? with
   |none=>rfl
   |some o=>by_cases hj:j=g<;>simp[hj]
  unfold wpOp at h⊢
  rw[Jj]at h
  cases ho:ops[k]? with
  |none=>simp only[ho,V6]at h⊢;exact GP s a w h
  |
   some o=>
   simp only[ho,CA,hy]at h⊢
   by_cases hj:j=k
   ·subst hj
    simp only[if_true]at h
    split
    ·rename_i hw
     have hw':Region.wanted {o with after:=o.after.push {on:=i,ground:=.data}} (yielded ops a.tmps)=true:=hw
     rw[if_pos hw']at h
     exact h.imp (λh=>Oper.wp_mono (λa w h=>GP s a w h) h) id
    ·rename_i hw
     have hw':¬Region.wanted {o with after:=o.after.push {on:=i,ground:=.data}} (yielded ops a.tmps)=true:=hw
     rw[if_neg hw']at h
     exact GP s _ w h
   ·simp only[if_neg hj]at h
    split
    ·rename_i hw
     rw[if_pos hw]at h
     exact h.imp (λh=>Oper.wp_mono (λa w h=>GP s a w h) h) id
    ·rename_i hw
     rw[if_neg hw]at h
     exact GP s _ w h
theorem Pv {l:List Oper} {ks:List Nat} {i j:Nat} {Q:Act->World->Prop}:∀(p:List Nat) (a:Act) (w:World),I8 P l ks Q p a w->I8 P (more l.toArray i j).toList ks Q p a w
 |[],_,_,h=>h
 |
  k::p,a,w,h=>by
  have ih:=Pv (l:=l) (ks:=ks) (i:=i) (j:=j) (Q:=Q) p
  have hy:∀tmps,yielded (more l.toArray i j) tmps=yielded l.toArray tmps:=λtmps=>by
   funext g
   unfold yielded
   rw[Jj]
   cases l.toArray[g]? with
   |none=>rfl
   |some o=>by_cases hj:j=g<;>simp[hj]
  have e:(more l.toArray i j).toList[k]? =(l[k]?).map λo=>if j=k then {o with after:=o.after.push {on:=i,ground:=.data}}else o:=by
   rw[ACN,Jj];simp
  simp only[I8]at h⊢
  rw[e]
  cases hk:l[k]? with
  |none=>simp[hk]at h
  |
   some o=>
   simp only[hk,CA,FD,hy]at h⊢
   have g:∀o':Oper,o'.op=o.op->o'.guard=o.guard->o'.dst=o.dst->o'.type=o.type->(if Region.wanted o' (yielded l.toArray a.tmps)then
     (match ks.getD k 3 with
     |0=>BG a o'=true/\o'.wp P a w (I8 P (more l.toArray i j).toList ks Q p) No
     |5=>∃v,(∀w2,Kb w w2->(execOp a.eval o').run P w2=.ok (.value v) w2)/\I8 P (more l.toArray i j).toList ks Q p (a.put o'.dst v) w
     |2=>o'.wp P a w (λa' w'=>Kb w w'/\I8 P (more l.toArray i j).toList ks Q p a' w') No
     |_=>o'.wp P a w (I8 P (more l.toArray i j).toList ks Q p) No)
    else I8 P (more l.toArray i j).toList ks Q p (a.put o'.dst undef) w):=by
    intro o' h1 h2 h3 h4
    have ew:Region.wanted o' (yielded l.toArray a.tmps)=Region.wanted o (yielded l.toArray a.tmps):=by unfold Region.wanted;rw[h2]
    have ee:execOp a.eval o'=execOp a.eval o:=by unfold execOp;rw[h1,h4]
    have ed:BG a o'=BG a o:=by unfold BG;rw[h1]
    have eu:∀K,o'.wp P a w K No=o.wp P a w K No:=λK=>by
     unfold Oper.wp;rw[ee];unfold Oper.upon;rw[h3]
    rw[ew,ee,ed,h3]
    simp only[eu]
    split
    ·rename_i hw
     rw[if_pos hw]at h
     generalize ks.getD k 3=c at h⊢
     by_cases c0:c=0
     ·subst c0;exact⟨h.1,Oper.wp_imp ih h.2⟩
     ·by_cases c5:c=5
      ·subst c5;obtain⟨v,h5,h6⟩:=h;exact⟨v,h5,ih _ _ h6⟩
      ·by_cases c2:c=2
       ·subst c2;exact Oper.wp_imp (λa w h=>⟨h.1,ih _ _ h.2⟩) h
       ·split at h<;>first|(exfalso;contradiction)|skip
        split<;>first|(exfalso;contradiction)|exact Oper.wp_imp ih h
    ·rename_i hw
     rw[if_neg hw]at h
     exact ih _ _ h
   by_cases hj:j=k
   ·simp only[hj,if_true];exact hj▸g _ rfl rfl rfl rfl
   ·simp only[if_neg hj];exact g _ rfl rfl rfl rfl
theorem YN {l:List Oper} {id:Nat} {Q:Exit->Act->World->Prop} {a:Act} {w:World}(G:List FuncId)(ks:List Nat)(i j:Nat)(p1 A1 p2 A2:List Nat)(hm:P.follows .mixedOrders=true)(hi:i<l.length)(hj:j<l.length)(hij:i≠j)
  (hB1:Mv P G (more l.toArray i j).toList ks p1 A1=true) (hB2:Mv P G (more l.toArray j i).toList ks p2 A2=true)
  (h1:I8 P l ks (λa w=>Q .normal a w) p1 a w.drew) (h2:I8 P l ks (λa w=>Q .normal a w) p2 a w.drew):(Code.region id l.toArray true).wp P Q a w:=by
 refine wp_region_draw λt=>?_
 simp only[Region.schedule,hm,Bool.true_or,if_true]
 have hx:=JV (md:=.any) (ops:=l.toArray) l.toArray.size t (Array.replicate l.toArray.size false)
 change LF .any l.toArray _ _ (Region.linearise .any l.toArray t)at hx
 generalize Region.linearise .any l.toArray t=s at hx
 have hd:∀x y,x<l.length->∀ks p A,Mv P G (more l.toArray x y).toList ks p A=true->ahead x y s->I8 P l ks (λa w=>Q .normal a w) p a w.drew->wpOps P l.toArray Q s a {w with drawn:=w.drawn+1}:=λx y hx' ks p A hB ha hT=>by
  have h3:=V1 (Q:=Q) G ks p A hB (Pv p a w.drew hT)
  rw[FD]at h3
  have h4:=KS _ _ s _ _ h3 (by rw[WG];exact Vg (by simpa using hx') _ s _ (by simp) hx (.inr ha))
  exact GP s a _ h4
 rcases V3 hij s with h|h
 ·exact hd i j hi ks p1 A1 hB1 h h1
 ·exact hd j i hj ks p2 A2 hB2 h h2
end
end Go.Reg
