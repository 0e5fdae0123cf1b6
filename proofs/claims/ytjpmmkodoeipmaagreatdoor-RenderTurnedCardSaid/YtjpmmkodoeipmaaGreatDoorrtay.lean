/- Merged: Bad Dma Rpl Lgo Cnf Wrp Rcf Tbr Tbs Seb Sec Sed See. -/
import Derived.Test.YtjpmmkodoeipmaaGreatDoorrtax
import Derived.Shelf.Spec.SlicesGrow
import Derived.Test.YtjpmmkodoeipmaaGreatDoorRows
import Derived.Test.YtjpmmkodoeipmaaGreatDoorrtaw
import Derived.Test.YtjpmmkodoeipmaaGreatDoorrtar
import Derived.Test.YtjpmmkodoeipmaaGreatDoorrtat
import Derived.Test.YtjpmmkodoeipmaaGreatDoorrtaq
import Derived.Test.YtjpmmkodoeipmaaGreatDoorrtas
import Derived.WalkKit
import Derived.OwnWalkIn
import Derived.TacticsInMore
import Derived.LoopNIn
import Derived.LoopIn
import Derived.Laws.Bits64b
import Derived.Test.YtjpmmkodoeipmaaGreatDoorrtav
section
namespace Go.Sx
open Go Go.RowKit Go.Reg
structure AbsD where
 R:World->Value->List Nat->Value->Prop
 keep:∀(S:List Nat) w w' v F z,R w v F z->Tch S w w'->(∀x∈F,x∉S)->R w' v F z
 lt:∀w v F z,R w v F z->∀x∈F,x<w.heap.size
 one:∀w v F z,R w v F z->v.oneCell'=true
 d:Da
def AbsD.own(A:AbsD):Own:=.absd (λw v F us=>∃z,us=[z]/\A.R w v F z) (λS w w' v F _us ⟨z,h1,h2⟩ t hd=>⟨z,h1,A.keep S w w' v F z h2 t hd⟩) (λw v F _us ⟨z,_,h2⟩=>A.lt w v F z h2) (λw v F _us ⟨z,_,h2⟩=>A.one w v F z h2) [.d A.d]
def FT {ν:Type}(A:ν->AbsD)(bs:List (Bg ν)):List Da:=bs.map λx=>match x with
 |.here y=>(A y).d
 |.pin=>.undef
structure BadR {P:Program} {κ ν:Type} [DecidableEq κ](M:MapE P κ Value)(A:ν->AbsD)(p:Bp κ)(m:List (κ×Value))(bs:List (Bg ν))(w:World)(v:Value)(F:List Nat)(zs:List Value)(b:Nat)(G:Nat->List Nat):Prop where
 val:v=.map (some b)
 len:bs.length=m.length
 zlen:zs.length=m.length
 map:p.At M w b m
 here:∀i y,bs[i]? =some (.here y)->∃q u z,m[i]? =some (q,u)/\zs[i]? =some z/\(A y).R w u (G i) z
 none:∀i,(∀y,bs[i]? ≠some (.here y))->G i=[]
 nb:∀i,b∉G i
 nr:∀x∈p.rb,∀i,x∉G i
 disj:∀i j x,i≠j->x∈G i->x∉G j
 mem:∀x,x∈F↔x=b\/x∈p.rb\/∃i,x∈G i
theorem BadR.keep {P:Program} {κ ν:Type} [DecidableEq κ] {M:MapE P κ Value} {A:ν->AbsD} {p:Bp κ} {m:List (κ×Value)} {bs:List (Bg ν)} {S:List Nat} {w w':World} {v:Value} {F:List Nat} {zs:List Value} {b:Nat} {G:Nat->List Nat}(h:BadR M A p m bs w v F zs b G)(t:Tch S w w')(hd:∀x∈F,x∉S):BadR M A p m bs w' v F zs b G:=
 ⟨h.val,h.len,h.zlen,h.map.keep t (λx hx=>hd x ((h.mem x).2 (.inr (.inl hx)))) (hd b ((h.mem b).2 (.inl rfl))),λi y hi=>by
  obtain⟨q,u,z,h1,h2,h3⟩:=h.here i y hi
  exact⟨q,u,z,h1,h2,(A y).keep S w w' u (G i) z h3 t (λx hx=>hd x ((h.mem x).2 (.inr (.inr ⟨i,hx⟩))))⟩,h.none,h.nb,h.nr,h.disj,h.mem⟩
theorem BadR.lt {P:Program} {κ ν:Type} [DecidableEq κ] {M:MapE P κ Value} {A:ν->AbsD} {p:Bp κ} {m:List (κ×Value)} {bs:List (Bg ν)} {w:World} {v:Value} {F:List Nat} {zs:List Value} {b:Nat} {G:Nat->List Nat}(h:BadR M A p m bs w v F zs b G):∀x∈F,x<w.heap.size:=by
 intro x hx
 rcases(h.mem x).1 hx with rfl|hx|⟨i,hx⟩
 ·exact h.map.mapAt.lt
 ·exact h.map.rlt x hx
 ·cases hb:bs[i]? with
  |none=>rw[h.none i (λy e=>by rw[hb]at e;cases e)]at hx;cases hx
  |
   some z=>
   cases z with
   |pin=>rw[h.none i (λy e=>by rw[hb]at e;cases e)]at hx;cases hx
   |
    here y=>
    obtain⟨q,u,z,_,_,h2⟩:=h.here i y hb
    exact(A y).lt w u (G i) z h2 x hx
section
variable {P:Program} {κ ν:Type} [DecidableEq κ](M:MapE P κ Value)(A:ν->AbsD)(p:Bp κ)(m:List (κ×Value))(bs:List (Bg ν))
def AEU(w:World)(v:Value)(F:List Nat)(us:List Value):Prop:=∃(zs:List Value) (b:Nat) (G:Nat->List Nat),us=[.tuple zs.toArray]/\BadR M A p m bs w v F zs b G
def DS:Own:=.absd (AEU M A p m bs) (by rintro S w w' v F us ⟨zs,b,G,h1,h2⟩ t hd;exact⟨zs,b,G,h1,h2.keep t hd⟩) (by rintro w v F us ⟨zs,b,G,_,h2⟩;exact h2.lt) (by rintro w v F us ⟨zs,b,G,_,h2⟩;rw[h2.val];rfl) [.d (.tuple (FT A bs))]
end
section
variable {C:Cx} {κ ν:Type} [DecidableEq κ] {M:MapE C.P κ Value} {A:ν->AbsD} {p:Bp κ} {m:List (κ×Value)} {bs:List (Bg ν)} {σ:Sg} {w w0:World} {B S:List Nat} {η:Nat->Value} {φ:Nat->List Nat} {n kd:Nat} {fr:Fr} {o:Oper} {K:Fr->Sg->Prop}
theorem J7(hm:Mem C B S w0 σ η φ w) {i:Nat}(hg:BJ i σ=some (DS M A p m bs)):∃css b G,Aq (B++Ao φ σ) w (FT A bs) css/\BadR M A p m bs w (η i) (φ i) (List.zipWith DZ (FT A bs) css) b G:=by
 obtain⟨css0,h1,zs,b,G,h2,h3⟩:=hm.own _ (AT hg)
 simp only[AG,AJ,RepC]at h1
 obtain⟨c1,c2,rfl,⟨css,hr,rfl⟩,rfl⟩:=h1
 have h4:zs=List.zipWith DZ (FT A bs) css:=by
  have:[Value.tuple (List.zipWith DZ (FT A bs) css).toArray]=[Value.tuple zs.toArray]:=h2
  simpa using this.symm
 subst h4
 exact⟨css,b,G,hr,h3⟩
theorem BadR.take {zs zs':List Value} {v:Value} {F:List Nat} {b:Nat} {G:Nat->List Nat}(h:BadR M A p m bs w v F zs b G) {k:Nat} {y:ν}(hk:bs[k]? =some (.here y)) {F1:List Nat}(hF:∀x,x∈F1↔x∈F/\x∉G k)(hzl:zs'.length=zs.length)(hz:∀i,i≠k->zs'[i]? =zs[i]?):
  BadR M A p m (bs.set k .pin) w v F1 zs' b (λi=>if i=k then[]else G i):=by
 have hkl:k<bs.length:=(Ae.1 hk).1
 refine⟨h.val,by rw[Di];exact h.len,hzl.trans h.zlen,h.map,λi z hi=>?_,λi hi=>?_,λi=>?_,λx hx i=>?_,λi j x hij hx=>?_,λx=>?_⟩
 ·rw[Be]at hi
  by_cases e:k=i
  ·subst e;rw[if_pos rfl,if_pos hkl]at hi;cases hi
  ·rw[if_neg e]at hi
   obtain⟨q,u,z',h1,h3,h2⟩:=h.here i z hi
   exact⟨q,u,z',h1,(hz i (λe2=>e e2.symm)).trans h3,by rw[if_neg (λe2=>e e2.symm)];exact h2⟩
 ·by_cases e:i=k
  ·rw[if_pos e]
  ·rw[if_neg e]
   refine h.none i λz hz=>hi z ?_
   rw[Be,if_neg (λe2=>e e2.symm)];exact hz
 ·by_cases e:i=k
  ·rw[if_pos e];exact CS
  ·rw[if_neg e];exact h.nb i
 ·by_cases e:i=k
  ·rw[if_pos e];exact CS
  ·rw[if_neg e];exact h.nr x hx i
 ·by_cases e:i=k
  ·rw[if_pos e]at hx;cases hx
  ·rw[if_neg e]at hx
   by_cases e2:j=k
   ·rw[if_pos e2];exact CS
   ·rw[if_neg e2];exact h.disj i j x hij hx
 ·rw[hF,h.mem]
  constructor
  ·rintro⟨rfl|hx|⟨i,hx⟩,hn⟩
   ·exact .inl rfl
   ·exact .inr (.inl hx)
   ·refine .inr (.inr ⟨i,?_⟩)
    rw[if_neg (λe:i=k=>hn (by rw[<-e];exact hx))];exact hx
  ·rintro(rfl|hx|⟨i,hx⟩)
   ·exact⟨.inl rfl,h.nb k⟩
   ·exact⟨.inr (.inl hx),h.nr x hx k⟩
   ·by_cases e:i=k
    ·rw[if_pos e]at hx;cases hx
    ·rw[if_neg e]at hx
     exact⟨.inr (.inr ⟨i,hx⟩),h.disj i k x e hx⟩
theorem BadR.back {zs zs':List Value} {z:Value} {v:Value} {F:List Nat} {b:Nat} {G:Nat->List Nat}(h:BadR M A p m bs w v F zs b G) {k:Nat} {q:κ} {u:Value}(hk:bs[k]? =some .pin)(hm:m[k]? =some (q,u)) {y:ν} {Fy:List Nat}(hy:(A y).R w u Fy z)(hzk:zs'[k]? =some z)(hzl:zs'.length=zs.length)(hz:∀i,i≠k->zs'[i]? =zs[i]?)(hd:∀x∈Fy,x∉F) {F1:List Nat}(hF:∀x,x∈F1↔x∈F\/x∈Fy):
  BadR M A p m (bs.set k (.here y)) w v F1 zs' b (λi=>if i=k then Fy else G i):=by
 have hkl:k<bs.length:=(Ae.1 hk).1
 have hGk:G k=[]:=h.none k λz e=>by rw[hk]at e;cases e
 refine⟨h.val,by rw[Di];exact h.len,hzl.trans h.zlen,h.map,λi t hi=>?_,λi hi=>?_,λi=>?_,λx hx i=>?_,λi j x hij hx=>?_,λx=>?_⟩
 ·rw[Be]at hi
  by_cases e:k=i
  ·subst e;rw[if_pos rfl,if_pos hkl]at hi;cases hi
   exact⟨q,u,z,hm,hzk,by rw[if_pos rfl];exact hy⟩
  ·rw[if_neg e]at hi
   obtain⟨q,u,z',h1,h3,h2⟩:=h.here i t hi
   exact⟨q,u,z',h1,(hz i (λe2=>e e2.symm)).trans h3,by rw[if_neg (λe2=>e e2.symm)];exact h2⟩
 ·by_cases e:i=k
  ·subst e
   exact absurd (by rw[Be,if_pos rfl,if_pos hkl]) (hi y)
  ·rw[if_neg e]
   refine h.none i λz hz=>hi z ?_
   rw[Be,if_neg (λe2=>e e2.symm)];exact hz
 ·by_cases e:i=k
  ·rw[if_pos e];exactλhb=>hd b hb ((h.mem b).2 (.inl rfl))
  ·rw[if_neg e];exact h.nb i
 ·by_cases e:i=k
  ·rw[if_pos e];exactλhb=>hd x hb ((h.mem x).2 (.inr (.inl hx)))
  ·rw[if_neg e];exact h.nr x hx i
 ·by_cases e:i=k
  ·rw[if_pos e]at hx
   rw[if_neg (λe2=>hij (e.trans e2.symm))]
   exactλhj=>hd x hx ((h.mem x).2 (.inr (.inr ⟨j,hj⟩)))
  ·rw[if_neg e]at hx
   by_cases e2:j=k
   ·rw[if_pos e2];exactλhj=>hd x hj ((h.mem x).2 (.inr (.inr ⟨i,hx⟩)))
   ·rw[if_neg e2];exact h.disj i j x hij hx
 ·rw[hF,h.mem]
  constructor
  ·rintro((rfl|hx|⟨i,hx⟩)|hx)
   ·exact .inl rfl
   ·exact .inr (.inl hx)
   ·refine .inr (.inr ⟨i,?_⟩)
    rw[if_neg (λe=>by rw[e,hGk]at hx;cases hx)];exact hx
   ·exact .inr (.inr ⟨k,by rw[if_pos rfl];exact hx⟩)
  ·rintro(rfl|hx|⟨i,hx⟩)
   ·exact .inl (.inl rfl)
   ·exact .inl (.inr (.inl hx))
   ·by_cases e:i=k
    ·rw[if_pos e]at hx;exact .inr hx
    ·rw[if_neg e]at hx;exact .inl (.inr (.inr ⟨i,hx⟩))
theorem SN {ds:List Da} {css:List (List Value)} {k:Nat} {a:Da} {c:List Value}:(List.zipWith DZ (ds.set k a) (css.set k c)).length=(List.zipWith DZ ds css).length/\(∀i,i≠k->(List.zipWith DZ (ds.set k a) (css.set k c))[i]? =(List.zipWith DZ ds css)[i]?)/\(k<ds.length->k<css.length->(List.zipWith DZ (ds.set k a) (css.set k c))[k]? =some (DZ a c)):=by
 refine⟨by simp only[List.length_zipWith,Di],λi hi=>?_,λh1 h2=>?_⟩
 ·rw[QJ,QJ,List.getElem?_set_ne (λe=>hi e.symm),List.getElem?_set_ne (λe=>hi e.symm)]
 ·rw[QJ,I4 h1,I4 h2]
theorem KB(k:Nat)(x:Bg ν):FT A (bs.set k x)=(FT A bs).set k (match x with|.here y=>(A y).d|.pin=>.undef):=by unfold FT;rw[Dz]
theorem Uy(hV:∀v,M.encV v=v)(i j g k:Nat)(q:κ) {u:Value} {y:ν} {x ix:Operand}(ho:o.op=.lookup M.t x ix false)(hx:ev C.Γ fr x=.own i)(hg:BJ i σ=some (DS M A .off m bs))(hix:ev C.Γ fr ix=.d (M.dK q))(hmk:m[k]? =some (q,u))(hget:Reg.get m q=some u)(hb:bs[k]? =some (.here y))(hj:BJ j σ=none)(hgj:BJ g σ=none)(hne:g≠j)(hkd:kd=3)(hd:Dh o.dst n=true)
  (hK:Ch (Fi g (.ghost [u] [.own j]) (Fi j (A y).own (AX id i (DS M A .off m (bs.set k .pin)) σ))) λσ=>K (CG o.dst (.own j) fr) σ):Bm C n kd o K fr σ:=by
 subst hkd
 refine CD (by decide) (by decide) λB S w0 η φ a w hM=>⟨λe=>(by cases e),.inl ?_⟩
 obtain⟨css,b,G,hR,hB⟩:=J7 hM.mem hg
 obtain⟨q',u',z,hmk',hzk,hA⟩:=hB.here k y hb
 rw[hmk]at hmk'
 obtain⟨rfl,rfl⟩:q=q'/\u=u':=by simpa using hmk'
 have hi:=AW (AT hg)
 have hj':=CO hj
 have hgj':=CO hgj
 have e1:=FL (Bb hM x) hx
 have e2:=M.repK _ _ _ _ (Ee (Bb hM ix) hix)
 have hmp:CK M.encK M.encV w b m:=hB.map
 have hr:=hmp.lookup M.hk M.ht M.hz q false
 have hk:=hK
 rw[Bw]at hk
 let F1:=(φ i).filter (λc=>decide (c∉G k))
 have hF1:∀c,c∈F1↔c∈φ i/\c∉G k:=λc=>by simp only[F1,A0,decide_eq_true_eq]
 obtain⟨hm',hl⟩:=hM.mem.splitD hi hj' (F1:=F1) (F2:=G k) (v:=u) (o1:=(DS M A .off m (bs.set k .pin))) (o2:=(A y).own) (λc=>by
  rw[hF1]
  by_cases h:c∈G k
  ·exact⟨λ_=>.inr h,λ_=>(hB.mem c).2 (.inr (.inr ⟨k,h⟩))⟩
  ·exact⟨λh2=>.inl ⟨h2,h⟩,λh2=>h2.elim (·.1) (λh3=>absurd h3 h)⟩) (λc hc=>((hF1 c).1 hc).2) (λη' I' O' hl' _ _=>by
   obtain⟨s1,s2,_⟩:=SN (ds:=FT A bs) (css:=css) (k:=k) (a:=.undef) (c:=[Go.undef])
   refine⟨[[.tuple (List.zipWith DZ ((FT A bs).set k .undef) (css.set k [Go.undef])).toArray]],?_,?_⟩
   ·simp only[AG,AJ,RepC]
    refine⟨_,_,rfl,⟨css.set k [Go.undef],?_,by rw[KB]⟩,rfl⟩
    rw[KB]
    exact Aq.later hl' _ _ (Ja hR k (d:=.undef) (by simp[RepC]))
   ·exact⟨_,b,_,rfl,hB.take hb hF1 s1 s2⟩) (λη' I' O' hl' _ _=>by
   have hzk':=hzk
   rw[QJ]at hzk'
   have hd1:(FT A bs)[k]? =some (A y).d:=by unfold FT;rw[Ad,hb];rfl
   obtain⟨c,hc1,hc2⟩:=IK hR hd1
   rw[hd1,hc1]at hzk'
   have hzz:DZ (A y).d c=z:=by simpa using hzk'
   refine⟨[c],?_,?_⟩
   ·simp only[AG,AJ]
    exact⟨_,_,rfl,RepC.later hl' _ _ hc2,rfl⟩
   ·exact⟨z,by simp[Cf,hzz],hA⟩)
 have hM2:Models C B S w0 n fr ((j,(A y).own)::AX id i (DS M A .off m (bs.set k .pin)) σ) (CE η j u) (CE (CE φ i F1) j (G k)) a w:=
  ⟨hm',hM.fr.later hl (λc hc=>⟨by
   have:=AY id i (DS M A .off m (bs.set k .pin)) σ
   unfold BB at this hc⊢
   rw[Ap,this];exact AA _ hc,BV _ _ _ (λe=>hj' (e▸hc))⟩),hM.defers,hM.size⟩
 have hgn:g∉BB ((j,(A y).own)::AX id i (DS M A .off m (bs.set k .pin)) σ):=λh=>by
  have:=AY id i (DS M A .off m (bs.set k .pin)) σ
  unfold BB at this h hgj'
  rw[Ap,this]at h
  rcases Ai.1 h with h|h
  ·exact hne h
  ·exact hgj' h
 obtain⟨hm3,hl3⟩:=hm'.add (Tch.refl [] w) hgn (v:=.nilFunc) (F:=[]) (o:=.ghost [u] [.own j]) (by simp) ⟨rfl,rfl,[[u]],by
  simp only[AG,AJ]
  refine⟨_,_,rfl,⟨?_,?_⟩,rfl⟩
  ·unfold BB;simp
  ·rw[BV _ _ _ (λe=>hne e.symm),Cj],rfl⟩
 have hM3:Models C B S w0 n fr ((g,.ghost [u] [.own j])::(j,(A y).own)::AX id i (DS M A .off m (bs.set k .pin)) σ) (CE (CE η j u) g .nilFunc) (CE (CE (CE φ i F1) j (G k)) g []) a w:=
  ⟨hm3,hM2.fr.later hl3 (λc hc=>⟨AA _ hc,BV _ _ _ (λe=>hgn (e▸hc))⟩),hM.defers,hM.size⟩
 have hM4:=hM3.perm (((CA g (.ghost [u] [.own j]) (Fi j (A y).own (AX id i (DS M A .off m (bs.set k .pin)) σ))).trans ((CA j (A y).own (AX id i (DS M A .off m (bs.set k .pin)) σ)).cons _)))
 refine⟨u,w,?_,_,_,_,_,hM4.put hd (d:=.own j) ⟨[u],by
  simp only[AJ]
  refine⟨?_,?_⟩
  ·unfold BB
   rw[((CA g _ _).map _).mem_iff,Ap]
   refine AA _ ?_
   rw[((CA j _ _).map _).mem_iff];simp
  ·rw[BV _ _ _ (λe=>hne e.symm),Cj],rfl⟩,hk⟩
 simp only[execOp,ho]
 rw[e1,e2,hB.val]
 rw[hget]at hr
 simp only[Cv,Fh,hV]at hr
 exact CZ hr
theorem Rh {A:AbsD}(hm:Mem C B S w0 σ η φ w) {j:Nat}(hj:BJ j σ=some A.own):∃c,RepC (B++Ao φ σ) w A.d c/\A.R w (η j) (φ j) (DZ A.d c):=by
 obtain⟨cs,h1,z,h2,h3⟩:=hm.own _ (AT hj)
 simp only[AG,AJ]at h1
 obtain⟨c1,c2,rfl,hc,rfl⟩:=h1
 have:[DZ A.d c1]=[z]:=h2
 simp only[D0,and_true]at this
 subst this
 exact⟨c1,hc,h3⟩
theorem Xu {b:Nat} {G:Nat->List Nat} {F1:List Nat} {v:Value} {k:Nat} {y:ν} {c:List Value} {css:List (List Value)} {I' O':List Nat} {η':Nat->Value}(hl':Later (B++Ao φ σ) w O' w)(hR:Aq (B++Ao φ σ) w (FT A bs) css)(hc:RepC (B++Ao φ σ) w (A y).d c)(h:BadR M A p m (bs.set k (.here y)) w v F1 (List.zipWith DZ ((FT A bs).set k (A y).d) (css.set k c)) b G):(DS M A p m (bs.set k (.here y))).holds η' I' O' w v F1:=by
 refine⟨[[.tuple (List.zipWith DZ ((FT A bs).set k (A y).d) (css.set k c)).toArray]],?_,?_⟩
 ·simp only[AG,AJ,RepC]
  refine⟨_,_,rfl,⟨css.set k c,?_,by rw[KB]⟩,rfl⟩
  rw[KB]
  exact Aq.later hl' _ _ (Ja hR k hc)
 ·exact⟨_,b,G,rfl,h⟩
theorem QE.badBack(i j g k:Nat) {q:κ} {u:Value} {y:ν}(hij:i≠j)(hg:BJ i σ=some (DS M A p m bs))(hb:bs[k]? =some .pin)(hmk:m[k]? =some (q,u))(hj:BJ j σ=some (A y).own)(hgh:BJ g σ=some (.ghost [u] [.own j])):
  QE C fr σ (Fe j .undef fr) (Db (BL j .undef) j (AX id i (DS M A p m (bs.set k (.here y))) σ)):=by
 intro B S w0 w n η φ a hM
 obtain⟨css,b,G,hR,hB⟩:=J7 hM.mem hg
 obtain⟨c,hc,hA⟩:=Rh hM.mem hj
 have hu:η j=u:=by
  obtain⟨_,_,css,h1,h2⟩:=hM.mem.own _ (AT hgh)
  simp only[AG,AJ]at h1
  obtain⟨c1,c2,rfl,⟨_,rfl⟩,rfl⟩:=h1
  simpa[Cf]using h2.symm
 rw[hu]at hA
 have hi:=AW (AT hg)
 have hj':=AW (AT hj)
 have hkl:=(Ae.1 hb).1
 obtain⟨s1,s2,s3⟩:=SN (ds:=FT A bs) (css:=css) (k:=k) (a:=(A y).d) (c:=c)
 have hxl:(FT A bs).length=bs.length:=Ac _
 have hcl:=Dd hR
 have hB2:=hB.back hb hmk hA (s3 (by omega) (by omega)) s1 s2 (λc hc hc2=>hM.mem.disj j hj' i hi (λe=>hij e.symm) c hc hc2) (F1:=φ i++φ j) (λc=>Ag)
 obtain⟨hm',hl⟩:=hM.mem.mergeD hi hj' hij (F:=φ i++φ j) (λc=>Ag) (r:=DS M A p m (bs.set k (.here y))) rfl (λI' O' hl' _=>Xu hl' hR hc hB2)
 refine⟨_,_,hm',hM.fr.kill rfl hl (λc hc hcj=>⟨?_,rfl⟩) (RepC.undef_ex _ _ _),hM.defers,hM.size⟩
 rw[DI,AY,A0]
 exact⟨hc,by simpa using hcj⟩
theorem BadR.more {zs:List Value} {v:Value} {F:List Nat} {b:Nat} {G:Nat->List Nat} {w':World}(h:BadR M A .off m bs w v F zs b G)(t:Tch [b] w w') {q:κ} {u z0:Value}(hm:CK M.encK M.encV w' b (m++[(q,u)])):BadR M A .off (m++[(q,u)]) (bs++[.pin]) w' v F (zs++[z0]) b G:=by
 refine⟨h.val,by rw[Ah,Ah,h.len];rfl,by rw[Ah,Ah,h.zlen];rfl,hm,λi z hi=>?_,λi hi=>?_,h.nb,h.nr,h.disj,h.mem⟩
 ·have hil:i<bs.length:=by
   apply ER
   intro hn
   rw[Bu (by omega)]at hi
   rcases Nat.eq_zero_or_pos (i-bs.length)with e|e
   ·rw[e]at hi;cases hi
   ·rw[AI (by simp;omega)]at hi;cases hi
  rw[Bo hil]at hi
  obtain⟨q',u',z',h1,h3,h2⟩:=h.here i z hi
  exact⟨q',u',z',by rw[Bo (by rw[<-h.len];exact hil)];exact h1,by rw[Bo (by rw[h.zlen,<-h.len];exact hil)];exact h3,(A z).keep _ _ _ _ _ _ h2 t (λx hx hb=>h.nb i (by rw[<-As.1 hb];exact hx))⟩
 ·refine h.none i λz hz=>hi z ?_
  rw[Bo (Ae.1 hz).1];exact hz
theorem RM(x:Bg ν):FT A (bs++[x])=FT A bs++[match x with|.here y=>(A y).d|.pin=>.undef]:=by unfold FT;rw[A7];rfl
theorem uO {ds:List Da} {css:List (List Value)}(h:ds.length=css.length)(a:Da)(c:List Value):List.zipWith DZ (ds++[a]) (css++[c])=List.zipWith DZ ds css++[DZ a c]:=by rw[List.zipWith_append h];rfl
theorem rB(i j:Nat)(q:κ) {y:ν} {x ix vx:Operand}(ho:o.op=.mapUpdate M.t x ix vx)(hV:∀v,M.encV v=v)(hx:ev C.Γ fr x=.own i)(hg:BJ i σ=some (DS M A .off m bs))(hix:ev C.Γ fr ix=.d (M.dK q))(hv:ev C.Γ fr vx=.own j)(hget:∀u,Reg.put m q u=m++[(q,u)])(hj:BJ j σ=some (A y).own)(hij:i≠j)(hkd:kd=3)(hd:Dh o.dst n=true)
  (hK:∀u,Ge (Fe j .undef fr) λfr=>Ch (Db (BL j .undef) j (AX id i (DS M A .off (m++[(q,u)]) (bs++[.here y])) σ)) λσ=>K (CG o.dst (.d .undef) fr) σ):Bm C n kd o K fr σ:=by
 subst hkd
 refine CD (by decide) (by decide) λB S w0 η φ a w hM=>⟨λe=>(by cases e),.inr ?_⟩
 have e1:=FL (Bb hM x) hx
 have e2:=M.repK _ _ _ _ (Ee (Bb hM ix) hix)
 have e3:=FL (Bb hM vx) hv
 obtain⟨css,b,G,hR,h⟩:=J7 hM.mem hg
 obtain⟨c,hc,hA⟩:=Rh hM.mem hj
 have hk:=hK (η j)
 rw[Eg,Bw]at hk
 have hmap:CK M.encK M.encV w b m:=h.map
 obtain⟨w',hr,hm',ht⟩:=hmap.update M.hk M.ht q (η j)
 rw[hget]at hm'
 have hi:=AW (AT hg)
 have hj':=AW (AT hj)
 have hX:∀c∈[b],c∈φ i:=λc hc=>by rw[As.1 hc];exact(h.mem b).2 (.inl rfl)
 have hF:∀c∈φ i,c∈φ i\/w.heap.size<=c:=λc hc=>.inl hc
 have hxl:(FT A bs).length=css.length:=(Dd hR).symm
 have hB1:=h.more ht (z0:=DZ .undef [Go.undef]) hm'
 rw[<-uO hxl]at hB1
 have hl1:=Later.turn (σ:=σ) B ht hX hi hF id (DS M A .off (m++[(q,η j)]) (bs++[.pin]))
 have hR1:Aq (B++Ao (CE φ i (φ i)) (AX id i (DS M A .off (m++[(q,η j)]) (bs++[.pin])) σ)) w' (FT A (bs++[.pin])) (css++[[Go.undef]]):=by
  rw[RM]
  exact FH (Aq.later hl1 _ _ hR) (by simp only[Aq,RepC];exact⟨_,_,rfl,⟨_,rfl⟩,rfl⟩)
 rw[<-show FT A (bs++[Bg.pin])=FT A bs++[.undef]from RM _]at hB1
 have hm1:=hM.mem.turnSame (o:=DS M A .off (m++[(q,η j)]) (bs++[.pin])) ht hX hi hF ⟨[[.tuple (List.zipWith DZ (FT A (bs++[.pin])) (css++[[Go.undef]])).toArray]],by
  simp only[AG,AJ,RepC]
  exact⟨_,_,rfl,⟨_,hR1,rfl⟩,rfl⟩,_,b,G,rfl,hB1⟩
 have hids1:=AY id i (DS M A .off (m++[(q,η j)]) (bs++[.pin])) σ
 have hbj:b∉φ j:=hM.mem.disj i hi j hj' hij b (hX b (by simp))
 have hA':(A y).R w' (η j) (φ j) (DZ (A y).d c):=(A y).keep _ _ _ _ _ _ hA ht (λc hc hb=>hbj (by rw[<-As.1 hb];exact hc))
 have hji:CE φ i (φ i) j=φ j:=BV _ _ _ (Ne.symm hij)
 obtain⟨s1,s2,s3⟩:=SN (ds:=FT A (bs++[.pin])) (css:=css++[[Go.undef]]) (k:=bs.length) (a:=(A y).d) (c:=c)
 have hbl:(FT A bs).length=bs.length:=Ac _
 have hbl2:(FT A (bs++[Bg.pin])).length=bs.length+1:=by rw[RM,Ah,hbl];rfl
 have hB2:=hB1.back (k:=bs.length) (q:=q) (u:=η j) (y:=y) (by rw[Bu (Ay _),Dy];rfl) (by rw[h.len,Bu (Ay _),Dy];rfl) hA' (s3 (by omega) (by rw[Ah,<-hxl,hbl];simp)) s1 s2 (λc hc hc2=>hM.mem.disj j hj' i hi (λe=>hij e.symm) c hc hc2) (F1:=φ i++φ j) (λc=>Ag)
 have ebs:(bs++[Bg.pin]).set bs.length (.here y)=bs++[Bg.here y]:=by rw[Ju _ _ (Ay _),Dy];rfl
 obtain⟨hm2,hl2⟩:=hm1.mergeD (i:=i) (j:=j) (by rw[hids1];exact hi) (by rw[hids1];exact hj') hij (F:=φ i++φ j) (λc=>by rw[Cj,hji,Ag]) (r:=DS M A .off (m++[(q,η j)]) ((bs++[Bg.pin]).set bs.length (.here y))) rfl (λI' O' hl' _=>Xu hl' hR1 (RepC.later hl1 _ _ hc) hB2)
 rw[ebs]at hm2 hl2
 have hst:=LP i (DS M A .off (m++[(q,η j)]) (bs++[.pin])) (DS M A .off (m++[(q,η j)]) (bs++[.here y])) σ
 rw[hst]at hm2 hl2
 refine⟨w',?_,_,_,_,_,Models.put ⟨hm2,?_,hM.defers,hM.size⟩ hd ⟨[Go.undef],by simp[AJ,RepC],rfl⟩,hk⟩
 ·simp only[execOp,ho]
  rw[e1,e2,e3,h.val]
  rw[hV]at hr
  exact Wk hr
 ·have hf1:HD η (BB (AX id i (DS M A .off (m++[(q,η j)]) (bs++[.pin])) σ)) (B++Ao (CE φ i (φ i)) (AX id i (DS M A .off (m++[(q,η j)]) (bs++[.pin])) σ)) w' fr a:=hM.fr.later hl1 (λk hk=>⟨by rw[hids1];exact hk,rfl⟩)
  refine hf1.kill rfl hl2 (λk hk hkj=>⟨?_,rfl⟩) (RepC.undef_ex _ _ _)
  rw[DI,AY,A0]
  rw[hids1]at hk
  exact⟨hk,by simpa using hkj⟩
theorem iN(M:MapE C.P κ Value)(A:ν->AbsD)(j:Nat)(ho:o.op=.makeMap M.t none)(hj:BJ j σ=none)(hkd:kd=6\/kd=3)(hd:Dh o.dst n=true)
  (hK:Ch (Fi j (DS M A .off [] []) σ) λσ=>K (CG o.dst (.own j) fr) σ):Bm C n kd o K fr σ:=by
 rw[Bw]at hK
 refine CD (by rcases hkd with rfl|rfl<;>decide) (by rcases hkd with rfl|rfl<;>decide) λB S w0 η φ a w hM=>⟨λe=>(by rcases hkd with rfl|rfl<;>cases e),.inl ?_⟩
 have M':=hM.add (Tch.alloc w (.map #[] 0) []) (CO hj) (o:=DS M A .off [] []) (v:=.map (some w.heap.size)) (F:=[w.heap.size]) (by simp) (λO' _=>⟨[[.tuple #[]]],by
  simp only[AG,AJ,RepC,FT,Bt,Aq]
  exact⟨_,_,rfl,⟨[],rfl,rfl⟩,rfl⟩,[],w.heap.size,λ_=>[],rfl,rfl,rfl,rfl,CK.new _ _ _,λi y hi=>(by simp at hi),λ_ _=>rfl,λ_=>CS,λx hx=>(by cases hx),λi j x _ hx=>(by cases hx),λx=>(by simp[Bp.rb])⟩) hd
 refine⟨_,_,?_,_,_,_,_,M'.perm (CA _ _ _),hK⟩
 simp only[execOp,ho]
 exact CZ (by rfl)
theorem iL(i:Nat)(q:κ) {x ix:Operand}(ho:o.op=.lookup M.t x ix false)(hz:M.encV M.z=.pointer none)(hx:ev C.Γ fr x=.own i)(hg:BJ i σ=some (DS M A .off m bs))(hix:ev C.Γ fr ix=.d (M.dK q))(hget:Reg.get m q=none)(hkd:kd≠5/\kd≠2)(hd:Dh o.dst n=true)
  (hK:K (CG o.dst (.d .nilp) fr) σ):Bm C n kd o K fr σ:=by
 refine BR hkd.1 hkd.2 hd λB S w0 η φ a w hM=>?_
 obtain⟨css,b,G,hR,h⟩:=J7 hM.mem hg
 have hmp:CK M.encK M.encV w b m:=h.map
 have e1:=FL (Bb hM x) hx
 have e2:=M.repK _ _ _ _ (Ee (Bb hM ix) hix)
 have hr:=hmp.lookup M.hk M.ht M.hz q false
 rw[hget]at hr
 simp only[V8,Option.getD_none,hz]at hr
 refine .inr ⟨_,.pointer none,hK,?_,⟨[.pointer none],by simp[AJ,RepC],rfl⟩,λ_=>by simp[BH,ho]⟩
 simp only[execOp,ho]
 rw[e1,e2,h.val]
 exact CZ hr
theorem rA(i k:Nat)(q:κ) {u:Value} {y:ν} {x ix:Operand}(ho:o.op=.lookup M.t x ix false)(hV:∀v,M.encV v=v)(hx:ev C.Γ fr x=.own i)(hg:BJ i σ=some (DS M A .off m bs))(hix:ev C.Γ fr ix=.d (M.dK q))(hmk:m[k]? =some (q,u))(hget:Reg.get m q=some u)(hb:bs[k]? =some (.here y))(hp:∀w F z,(A y).R w u F z->∃b,u=.pointer (some ⟨b,0,none⟩))(hkd:kd≠5/\kd≠2)(hd:Dh o.dst n=true)
  (hK:∀b,u=.pointer (some ⟨b,0,none⟩)->K (CG o.dst (.d (.raw u)) fr) σ):Bm C n kd o K fr σ:=by
 refine BR hkd.1 hkd.2 hd λB S w0 η φ a w hM=>?_
 obtain⟨css,b,G,hR,h⟩:=J7 hM.mem hg
 have hmp:CK M.encK M.encV w b m:=h.map
 obtain⟨q',u',z,hmk',_,hA⟩:=h.here k y hb
 rw[hmk]at hmk'
 obtain⟨rfl,rfl⟩:q=q'/\u=u':=by simpa using hmk'
 obtain⟨c,hc⟩:=hp w _ _ hA
 have e1:=FL (Bb hM x) hx
 have e2:=M.repK _ _ _ _ (Ee (Bb hM ix) hix)
 have hr:=hmp.lookup M.hk M.ht M.hz q false
 rw[hget]at hr
 simp only[Cv,Fh,hV]at hr
 refine .inr ⟨_,u,hK c hc,?_,⟨[u],by simp[AJ,RepC],rfl⟩,λ_=>by simp[BH,ho]⟩
 simp only[execOp,ho]
 rw[e1,e2,h.val]
 exact CZ hr
theorem ZV(i:Nat) {x:Operand}(ho:o.op=.range M.t x)(hx:ev C.Γ fr x=.own i)(hg:BJ i σ=some (DS M A .off m bs))(hkd:kd≠5/\kd≠2/\kd≠0)(hd:Dh o.dst n=true)
  (hK:∀r,Ch (AX id i (DS M A (.it r m) m bs) σ) λσ=>K (CG o.dst (.d (.raw (.pointer (some ⟨r,0,none⟩)))) fr) σ):Bm C n kd o K fr σ:=by
 refine CD hkd.1 hkd.2.1 λB S w0 η φ a w hM=>⟨λe=>absurd e hkd.2.2,.inl ?_⟩
 have e1:=FL (Bb hM x) hx
 obtain⟨css,b,G,hR,h⟩:=J7 hM.mem hg
 have hmap:CK M.encK M.encV w b m:=h.map
 obtain⟨w',hr,hI,ht⟩:=hmap.range (P:=C.P) (t:=M.t) M.ht
 have hk:=hK w.heap.size
 rw[Bw]at hk
 have hi:=AW (AT hg)
 have hF:∀c∈φ i++[w.heap.size],c∈φ i\/w.heap.size<=c:=λc hc=>by
  rcases Ag.1 hc with hc|hc
  ·exact .inl hc
  ·exact .inr (by rw[As.1 hc];exact Ay _)
 have hX:∀c∈([]:List Nat),c∈φ i:=λc hc=>by cases hc
 have hlt:∀c∈φ i,c<w.heap.size:=h.lt
 have hl:=Later.turn (σ:=σ) B ht hX hi hF id (DS M A (.it w.heap.size m) m bs)
 have hmm:=hM.mem.turnSame ht hX hi hF (o:=(DS M A (.it w.heap.size m) m bs)) ⟨[[.tuple (List.zipWith DZ (FT A bs) css).toArray]],by
   simp only[AG,AJ,RepC]
   exact⟨_,_,rfl,⟨_,Aq.later hl _ _ hR,rfl⟩,rfl⟩,_,b,G,rfl,h.val,h.len,h.zlen,hI,λi y hi=>(by
   obtain⟨q,u,z,h1,h3,h2⟩:=h.here i y hi
   exact⟨q,u,z,h1,h3,(A y).keep _ _ _ _ _ _ h2 ht (λx _ hb=>by cases hb)⟩),h.none,h.nb,λx hx i hxi=>by
   rw[As.1 hx]at hxi
   have:=hlt _ ((h.mem _).2 (.inr (.inr ⟨i,hxi⟩)));omega,h.disj,λx=>by
   rw[Ag,h.mem,As]
   simp only[Bp.rb,As,CS,false_or]
   constructor
   ·rintro((h|h)|h)
    ·exact .inl h
    ·exact .inr (.inr h)
    ·exact .inr (.inl h)
   ·rintro(h|h|h)
    ·exact .inl (.inl h)
    ·exact .inr h
    ·exact .inl (.inr h)⟩
 have M':Models C B S w0 n fr _ η _ a w':=⟨hmm,hM.fr.later hl (λj hj=>⟨by rw[AY];exact hj,rfl⟩),hM.defers,hM.size⟩
 refine⟨.pointer (some ⟨w.heap.size,0,none⟩),w',?_,_,_,_,_,M'.put hd ⟨[.pointer (some ⟨w.heap.size,0,none⟩)],by simp only[AJ,RepC],rfl⟩,hk⟩
 simp only[execOp,ho]
 rw[e1,h.val]
 exact CZ hr
theorem iM(i r:Nat) {todo:List (κ×Value)} {x:Operand} {ty:TypeId}(ho:o.op=.next x false)(hty:o.type=ty)(hx:ev C.Γ fr x=.d (.raw (.pointer (some ⟨r,0,none⟩))))(hg:BJ i σ=some (DS M A (.it r todo) m bs))(hkd:kd≠5/\kd≠2/\kd≠0)(hd:Dh o.dst n=true)
  (h1:todo=[]->K (CG o.dst (.d (.tuple [.bool false])) fr) σ)
  (h2:∀p todo',todo.Perm (p::todo')->Ch (AX id i (DS M A (.on r todo' p) m bs) σ) λσ=>K (CG o.dst (.d (.tuple [.bool true,.undef,.undef])) fr) σ):Bm C n kd o K fr σ:=by
 refine CD hkd.1 hkd.2.1 λB S w0 η φ a w hM=>⟨λe=>absurd e hkd.2.2,.inl ?_⟩
 obtain⟨cs,g1,e1⟩:=Ee (Bb hM x) hx
 simp only[RepC]at g1
 subst g1
 obtain⟨css,b,G,hR,h⟩:=J7 hM.mem hg
 have hi:=AW (AT hg)
 have hF:∀c∈φ i,c∈φ i\/w.heap.size<=c:=λc hc=>.inl hc
 have hI:Ex M.encK M.encV w r b m todo:=h.map
 rcases hI.next (P:=C.P) ty with⟨h0,hr⟩|⟨p,todo',w',hp,hr,hon,ht⟩
 ·refine⟨.tuple #[.bool false],w,?_,_,_,_,_,hM.put hd ⟨[.tuple #[.bool false]],?_,rfl⟩,h1 h0⟩
  ·simp only[execOp,ho,hty]
   rw[e1]
   exact CZ hr
  ·simp only[AJ,RepC,Aq]
   exact⟨[[.bool false]],⟨_,_,rfl,rfl,rfl⟩,rfl⟩
 ·have hk:=h2 p todo' hp
  rw[Bw]at hk
  have hX:∀c∈[r],c∈φ i:=λc hc=>by rw[As.1 hc];exact(h.mem r).2 (.inr (.inl (As.2 rfl)))
  have hl:=Later.turn (σ:=σ) B ht hX hi hF id (DS M A (.on r todo' p) m bs)
  have hmm:=hM.mem.turnSame ht hX hi hF (o:=(DS M A (.on r todo' p) m bs)) ⟨[[.tuple (List.zipWith DZ (FT A bs) css).toArray]],by
   simp only[AG,AJ,RepC]
   exact⟨_,_,rfl,⟨_,Aq.later hl _ _ hR,rfl⟩,rfl⟩,_,b,G,rfl,h.val,h.len,h.zlen,hon,λi y hi=>(by
   obtain⟨q,u,z,h1,h3,h2⟩:=h.here i y hi
   exact⟨q,u,z,h1,h3,(A y).keep _ _ _ _ _ _ h2 ht (λx hx hb=>h.nr r (As.2 rfl) i (by rw[<-As.1 hb];exact hx))⟩),h.none,h.nb,h.nr,h.disj,h.mem⟩
  have M':Models C B S w0 n fr _ η _ a w':=⟨hmm,hM.fr.later hl (λj hj=>⟨by rw[AY];exact hj,rfl⟩),hM.defers,hM.size⟩
  refine⟨.tuple #[.bool true,M.encK p.1,M.encV p.2],w',?_,_,_,_,_,M'.put hd ⟨[.tuple #[.bool true,M.encK p.1,M.encV p.2]],?_,rfl⟩,hk⟩
  ·simp only[execOp,ho,hty]
   rw[e1]
   exact CZ hr
  ·simp only[AJ,RepC,Aq]
   exact⟨[[.bool true],[M.encK p.1],[M.encV p.2]],⟨_,_,rfl,rfl,_,_,rfl,⟨_,rfl⟩,_,_,rfl,⟨_,rfl⟩,rfl⟩,rfl⟩
theorem ZW(i j g k r:Nat) {todo:List (κ×Value)} {p:κ×Value} {y:ν} {x:Operand}(ho:o.op=.entry x)(hV:∀v,M.encV v=v)(hx:ev C.Γ fr x=.d (.raw (.pointer (some ⟨r,0,none⟩))))(hg:BJ i σ=some (DS M A (.on r todo p) m bs))(hmk:m[k]? =some p)(hb:bs[k]? =some (.here y))(hj:BJ j σ=none)(hgj:BJ g σ=none)(hne:g≠j)(hkd:kd=3)(hd:Dh o.dst n=true)
  (hK:Ch (Fi g (.ghost [p.2] [.own j]) (Fi j (A y).own (AX id i (DS M A (.it r todo) m (bs.set k .pin)) σ))) λσ=>K (CG o.dst (.tuple [.d .undef,.own j]) fr) σ):Bm C n kd o K fr σ:=by
 subst hkd
 refine CD (by decide) (by decide) λB S w0 η φ a w hM=>⟨λe=>(by cases e),.inl ?_⟩
 obtain⟨cs,g1,e1⟩:=Ee (Bb hM x) hx
 simp only[RepC]at g1
 subst g1
 obtain⟨css,b,G,hR,hB0⟩:=J7 hM.mem hg
 have hon:LH M.encK M.encV w r b m todo p:=hB0.map
 have hB:BadR M A (.it r todo) m bs w (η i) (φ i) (List.zipWith DZ (FT A bs) css) b G:=⟨hB0.val,hB0.len,hB0.zlen,LH.iter hon,hB0.here,hB0.none,hB0.nb,hB0.nr,hB0.disj,hB0.mem⟩
 obtain⟨q',u',z,hmk',hzk,hA⟩:=hB.here k y hb
 rw[hmk]at hmk'
 obtain rfl:p=(q',u'):=by simpa using hmk'
 have hi:=AW (AT hg)
 have hj':=CO hj
 have hgj':=CO hgj
 have hk:=hK
 rw[Bw]at hk
 let F1:=(φ i).filter (λc=>decide (c∉G k))
 have hF1:∀c,c∈F1↔c∈φ i/\c∉G k:=λc=>by simp only[F1,A0,decide_eq_true_eq]
 obtain⟨hm',hl⟩:=hM.mem.splitD hi hj' (F1:=F1) (F2:=G k) (v:=u') (o1:=(DS M A (.it r todo) m (bs.set k .pin))) (o2:=(A y).own) (λc=>by
  rw[hF1]
  by_cases h:c∈G k
  ·exact⟨λ_=>.inr h,λ_=>(hB.mem c).2 (.inr (.inr ⟨k,h⟩))⟩
  ·exact⟨λh2=>.inl ⟨h2,h⟩,λh2=>h2.elim (·.1) (λh3=>absurd h3 h)⟩) (λc hc=>((hF1 c).1 hc).2) (λη' I' O' hl' _ _=>by
   obtain⟨s1,s2,_⟩:=SN (ds:=FT A bs) (css:=css) (k:=k) (a:=.undef) (c:=[Go.undef])
   refine⟨[[.tuple (List.zipWith DZ ((FT A bs).set k .undef) (css.set k [Go.undef])).toArray]],?_,?_⟩
   ·simp only[AG,AJ,RepC]
    refine⟨_,_,rfl,⟨css.set k [Go.undef],?_,by rw[KB]⟩,rfl⟩
    rw[KB]
    exact Aq.later hl' _ _ (Ja hR k (d:=.undef) (by simp[RepC]))
   ·exact⟨_,b,_,rfl,hB.take hb hF1 s1 s2⟩) (λη' I' O' hl' _ _=>by
   have hzk':=hzk
   rw[QJ]at hzk'
   have hd1:(FT A bs)[k]? =some (A y).d:=by unfold FT;rw[Ad,hb];rfl
   obtain⟨c,hc1,hc2⟩:=IK hR hd1
   rw[hd1,hc1]at hzk'
   have hzz:DZ (A y).d c=z:=by simpa using hzk'
   refine⟨[c],?_,?_⟩
   ·simp only[AG,AJ]
    exact⟨_,_,rfl,RepC.later hl' _ _ hc2,rfl⟩
   ·exact⟨z,by simp[Cf,hzz],hA⟩)
 have hM2:Models C B S w0 n fr ((j,(A y).own)::AX id i (DS M A (.it r todo) m (bs.set k .pin)) σ) (CE η j u') (CE (CE φ i F1) j (G k)) a w:=
  ⟨hm',hM.fr.later hl (λc hc=>⟨by
   have:=AY id i (DS M A (.it r todo) m (bs.set k .pin)) σ
   unfold BB at this hc⊢
   rw[Ap,this];exact AA _ hc,BV _ _ _ (λe=>hj' (e▸hc))⟩),hM.defers,hM.size⟩
 have hgn:g∉BB ((j,(A y).own)::AX id i (DS M A (.it r todo) m (bs.set k .pin)) σ):=λh=>by
  have:=AY id i (DS M A (.it r todo) m (bs.set k .pin)) σ
  unfold BB at this h hgj'
  rw[Ap,this]at h
  rcases Ai.1 h with h|h
  ·exact hne h
  ·exact hgj' h
 obtain⟨hm3,hl3⟩:=hm'.add (Tch.refl [] w) hgn (v:=.nilFunc) (F:=[]) (o:=.ghost [u'] [.own j]) (by simp) ⟨rfl,rfl,[[u']],by
  simp only[AG,AJ]
  refine⟨_,_,rfl,⟨?_,?_⟩,rfl⟩
  ·unfold BB;simp
  ·rw[BV _ _ _ (λe=>hne e.symm),Cj],rfl⟩
 have hM3:Models C B S w0 n fr ((g,.ghost [u'] [.own j])::(j,(A y).own)::AX id i (DS M A (.it r todo) m (bs.set k .pin)) σ) (CE (CE η j u') g .nilFunc) (CE (CE (CE φ i F1) j (G k)) g []) a w:=
  ⟨hm3,hM2.fr.later hl3 (λc hc=>⟨AA _ hc,BV _ _ _ (λe=>hgn (e▸hc))⟩),hM.defers,hM.size⟩
 have hM4:=hM3.perm (((CA g (.ghost [u'] [.own j]) (Fi j (A y).own (AX id i (DS M A (.it r todo) m (bs.set k .pin)) σ))).trans ((CA j (A y).own (AX id i (DS M A (.it r todo) m (bs.set k .pin)) σ)).cons _)))
 refine⟨.tuple #[M.encK q',M.encV u'],w,?_,_,_,_,_,hM4.put hd (d:=.tuple [.d .undef,.own j]) ⟨[.tuple #[M.encK q',M.encV u']],by
  simp only[AJ,AG,RepC]
  refine⟨[[M.encK q'],[M.encV u']],⟨_,_,rfl,⟨_,rfl⟩,_,_,rfl,⟨?_,?_⟩,rfl⟩,rfl⟩
  ·unfold BB
   rw[((CA g _ _).map _).mem_iff,Ap]
   refine AA _ ?_
   rw[((CA j _ _).map _).mem_iff];simp
  ·rw[hV,BV _ _ _ (λe=>hne e.symm),Cj],rfl⟩,hk⟩
 simp only[execOp,ho]
 rw[e1]
 exact CZ hon.entry
end
end Go.Sx
end
section
namespace Go.Sx
open Go Go.RowKit Go.Reg
def mK(vs:List Value):List (List Value):=vs.map λv=>[v]
structure DomR(T E:Nat)(w:World)(u:Value)(G:List Nat)(z:Value)(b:Nat)(lv ev ov sv:Value)(vs:List Value):Prop where
 ptr:u=.pointer (some ⟨b,0,none⟩)
 z:z=.tuple #[.agg #[lv,ev],ov,.tuple vs.toArray]
 blk:IT w b T [lv,ev,ov,sv]
 sl:Sl E 1 id w sv (mK vs)
 one:∀v∈vs,v.oneCell'=true
 mem:G=b::sv.ownBlock.toList
 nb:b∉sv.ownBlock.toList
def cT(T E:Nat)(l e o:Da)(ss:List Da):AbsD where
 R w u G z:=∃b lv ev ov sv vs,DomR T E w u G z b lv ev ov sv vs/\vs.length=ss.length
 keep:=by
  rintro S w w' u G z ⟨b,lv,ev,ov,sv,vs,h,hl⟩ t hd
  refine⟨b,lv,ev,ov,sv,vs,⟨h.ptr,h.z,h.blk.keep t (hd b (by rw[h.mem];simp)),h.sl.keep t (λc hc=>hd c (by rw[h.mem];exact AA _ (by simpa using hc))),h.one,h.mem,h.nb⟩,hl⟩
 lt:=by
  rintro w u G z ⟨b,lv,ev,ov,sv,vs,h,_⟩ x hx
  rw[h.mem]at hx
  rcases Ai.1 hx with rfl|hx
  ·exact h.blk.lt
  ·exact h.sl.lt (by simpa using hx)
 one:=by rintro w u G z ⟨b,lv,ev,ov,sv,vs,h,_⟩;rw[h.ptr];rfl
 d:=.tuple [.agg [l,e],o,.tuple ss]
def Oc(d:Da):Prop:=∀(O:List Nat) (w:World) (cs:List Value),RepC O w d cs->cs=[DZ d cs]
theorem Gn(k:Nat)(ds:List Da):Oc (.list k ds):=by
 intro O w cs h
 simp only[RepC]at h
 obtain⟨a,c,css,rfl,_⟩:=h
 rfl
theorem ABG:Oc .nils:=by
 intro O w cs h
 simp only[RepC]at h
 subst h;rfl
theorem Yg {O:List Nat} {w:World}:∀{ss:List Da} {css:List (List Value)},(∀s∈ss,Oc s)->Aq O w ss css->css=mK (List.zipWith DZ ss css)
 |[],css,_,h=>by simp only[Aq]at h;subst h;rfl
 |
  s::ss,css,hs,h=>by
  simp only[Aq]at h
  obtain⟨c1,c2,rfl,h1,h2⟩:=h
  have e1:=hs s (.head _) O w c1 h1
  have e2:=Yg (λx hx=>hs x (.tail _ hx)) h2
  show c1::c2=[DZ s c1]::mK (List.zipWith DZ ss c2)
  rw[<-e2,<-e1]
section
variable {C:Cx} {fr:Fr} {σ:Sg}
theorem cR {B S:List Nat} {w0 w:World} {n:Nat} {η:Nat->Value} {φ:Nat->List Nat} {a:Act}(hM:Models C B S w0 n fr σ η φ a w) {T E:Nat} {l e o:Da} {ss:List Da}(j j2:Nat)(hl:Oc l)(he:Oc e)(ho:Oc o)(hs:∀s∈ss,Oc s)(hg:BJ j σ=some (cT T E l e o ss).own)(hj2:BJ j2 σ=none):
  ∃η' φ',Models C B S w0 n fr ((j2,.slice E 1 ss)::AX id j (.cells T [.d (.agg [l,e]),.d o,.own j2]) σ) η' φ' a w/\Later (B++Ao φ σ) w (B++Ao φ' ((j2,.slice E 1 ss)::AX id j (.cells T [.d (.agg [l,e]),.d o,.own j2]) σ)) w/\∀c∈BB σ,c∈BB ((j2,.slice E 1 ss)::AX id j (.cells T [.d (.agg [l,e]),.d o,.own j2]) σ)/\η' c=η c:=by
 obtain⟨c,hc,b,lv,ev,ov,sv,vs,h,hlen⟩:=Rh hM.mem hg
 have hj:=AW (AT hg)
 have hj2':=CO hj2
 have hz:=h.z
 simp only[cT,RepC,Aq,RepCs]at hc hz
 obtain⟨css,⟨c1,c2,rfl,⟨d1,d2,rfl,hl1,d3,d4,rfl,he1,rfl⟩,c3,c4,rfl,ho1,c5,c6,rfl,⟨css3,hr3,rfl⟩,rfl⟩,rfl⟩:=hc
 obtain⟨L,rfl⟩:∃L,d1=[L]:=⟨_,hl _ _ _ hl1⟩
 obtain⟨E',rfl⟩:∃L,d3=[L]:=⟨_,he _ _ _ he1⟩
 obtain⟨O',rfl⟩:∃L,c3=[L]:=⟨_,ho _ _ _ ho1⟩
 have q3:O'=DZ o [O']:=by simpa using ho _ _ _ ho1
 have q4:=Yg hs hr3
 have hz2:Value.tuple #[Value.agg #[L,E'],DZ o [O'],Value.tuple (List.zipWith DZ ss css3).toArray]=Value.tuple #[Value.agg #[lv,ev],ov,Value.tuple vs.toArray]:=hz
 rw[<-q3]at hz2
 simp only[Value.tuple.injEq,Array.mk.injEq,D0,Value.agg.injEq,and_true]at hz2
 obtain⟨⟨rfl,rfl⟩,rfl,hvs⟩:=hz2
 rw[hvs]at q4
 subst q4
 have hb2:sv.ownBlock.toList=sv.ownBlock.toList:=rfl
 obtain⟨hm',hlt⟩:=hM.mem.splitD hj hj2' (F1:=[b]) (F2:=sv.ownBlock.toList) (v:=sv) (o1:=.cells T [.d (.agg [l,e]),.d o,.own j2]) (o2:=.slice E 1 ss) (λc=>by rw[h.mem,Ai,As]) (λc hc hc2=>h.nb (by rw[<-As.1 hc];exact hc2)) (λη' I' O1 hl' _ hJ=>⟨b,[L,E',O',sv],h.ptr,rfl,h.blk,by
   simp only[B6,AJ,RepC,RepCs]
   exact⟨[L,E'],[O',sv],rfl,⟨[L],[E'],rfl,RepC.later hl' _ _ hl1,[E'],[],rfl,RepC.later hl' _ _ he1,rfl⟩,[O'],[sv],rfl,RepC.later hl' _ _ ho1,[sv],[],rfl,⟨hJ.1,by rw[hJ.2]⟩,rfl⟩⟩) (λη' I' O1 hl' _ _=>⟨mK vs,h.sl,rfl,Aq.later hl' _ _ hr3,λx hx=>by
   obtain⟨v,hv,rfl⟩:=An.1 hx
   exact⟨rfl,λu hu=>by rw[As.1 hu];exact h.one v hv⟩⟩)
 have hin:∀c∈BB σ,c∈BB ((j2,.slice E 1 ss)::AX id j (.cells T [.d (.agg [l,e]),.d o,.own j2]) σ)/\CE η j2 sv c=η c:=λc hc=>⟨by
  have:=AY id j (.cells T [.d (.agg [l,e]),.d o,.own j2]) σ
  unfold BB at this hc⊢
  rw[Ap,this];exact AA _ hc,BV _ _ _ (λe=>hj2' (e▸hc))⟩
 exact⟨_,_,⟨hm',hM.fr.later hlt hin,hM.defers,hM.size⟩,hlt,hin⟩
theorem QE.domOpen {T E:Nat} {l e o:Da} {ss:List Da}(j j2:Nat)(hl:Oc l)(he:Oc e)(ho:Oc o)(hs:∀s∈ss,Oc s)(hg:BJ j σ=some (cT T E l e o ss).own)(hj2:BJ j2 σ=none):
  QE C fr σ fr ((j2,.slice E 1 ss)::AX id j (.cells T [.d (.agg [l,e]),.d o,.own j2]) σ):=by
 intro B S w0 w n η φ a hM
 obtain⟨η',φ',h,_⟩:=cR hM j j2 hl he ho hs hg hj2
 exact⟨η',φ',h⟩
theorem YD {T E:Nat} {l e o:Da} {ss:List Da}(j j2:Nat) {q:Bool} {f:FuncId} {args:List Dat} {K:KD}(hl:Oc l)(he:Oc e)(ho:Oc o)(hs:∀s∈ss,Oc s)(hg:BJ j σ=some (cT T E l e o ss).own)(hj2:BJ j2 σ=none)
  (h:Ci C q f args K fr ((j2,.slice E 1 ss)::AX id j (.cells T [.d (.agg [l,e]),.d o,.own j2]) σ)):Ci C q f args K fr σ:=by
 unfold Ci at h⊢
 rintro B S w0 η φ n a w vs hM ⟨css,hr,rfl⟩
 obtain⟨η',φ',hM',hl',hin⟩:=cR hM j j2 hl he ho hs hg hj2
 exact h B S w0 η' φ' n a w _ hM' ⟨css,AG.later hl' hin _ _ hr,rfl⟩
theorem QE.domClose {T E:Nat} {l e o:Da} {ss:List Da}(j j2:Nat)(hl:Oc l)(he:Oc e)(ho:Oc o)(hs:∀s∈ss,Oc s)(hij:j≠j2)(hg:BJ j σ=some (.cells T [.d (.agg [l,e]),.d o,.own j2]))(hg2:BJ j2 σ=some (.slice E 1 ss)):
  QE C fr σ (Fe j2 .undef fr) (Db (BL j2 .undef) j2 (AX id j (cT T E l e o ss).own σ)):=by
 intro B S w0 w n η φ a hM
 have hj:=AW (AT hg)
 have hj2:=AW (AT hg2)
 obtain⟨b,cs,hp,hFb,hb,hd⟩:=hM.mem.own _ (AT hg)
 simp only[B6,AJ,RepC,RepCs]at hd
 obtain⟨c1,c2,rfl,⟨d1,d2,rfl,hl1,d3,d4,rfl,he1,rfl⟩,c3,c4,rfl,ho1,c5,c6,rfl,⟨_,rfl⟩,rfl⟩:=hd
 obtain⟨L,rfl⟩:∃L,d1=[L]:=⟨_,hl _ _ _ hl1⟩
 obtain⟨E',rfl⟩:∃L,d3=[L]:=⟨_,he _ _ _ he1⟩
 obtain⟨O',rfl⟩:∃L,c3=[L]:=⟨_,ho _ _ _ ho1⟩
 have q3:O'=DZ o [O']:=by simpa using ho _ _ _ ho1
 obtain⟨css,hsl,hF2,hr,hk⟩:=BW hM.mem hg2
 have q4:=Yg hs hr
 have hlen:=Dd hr
 have hnb:b∉(η j2).ownBlock.toList:=by
  rw[<-hF2]
  exact hM.mem.disj j hj j2 hj2 hij b (by rw[hFb];simp)
 obtain⟨hm',hlt⟩:=hM.mem.mergeD hj hj2 hij (F:=φ j++φ j2) (λc=>Ag) (r:=(cT T E l e o ss).own) rfl (λI' O1 hl' _=>by
  refine⟨[[.tuple #[.agg #[L,E'],O',.tuple (List.zipWith DZ ss css).toArray]]],?_,?_⟩
  ·simp only[AG,AJ,cT,RepC,Aq,RepCs]
   refine⟨_,_,rfl,⟨[[L,E'],[O'],[.tuple (List.zipWith DZ ss css).toArray]],⟨_,_,rfl,⟨[L],[E'],rfl,RepC.later hl' _ _ hl1,[E'],[],rfl,RepC.later hl' _ _ he1,rfl⟩,[O'],_,rfl,RepC.later hl' _ _ ho1,_,[],rfl,⟨css,Aq.later hl' _ _ hr,rfl⟩,rfl⟩,?_⟩,rfl⟩
   show[Value.tuple #[Value.agg #[L,E'],O',.tuple (List.zipWith DZ ss css).toArray]]=[Value.tuple #[Value.agg #[L,E'],DZ o [O'],.tuple (List.zipWith DZ ss css).toArray]]
   rw[<-q3]
  ·refine⟨.tuple #[.agg #[L,E'],O',.tuple (List.zipWith DZ ss css).toArray],rfl,b,L,E',O',η j2,List.zipWith DZ ss css,⟨hp,rfl,hb,q4▸hsl,λv hv=>?_,by rw[hFb,hF2];rfl,hnb⟩,by rw[List.length_zipWith,hlen];simp⟩
   have:[v]∈css:=by rw[q4];exact An.2 ⟨v,hv,rfl⟩
   exact(hk _ this).2 v (by simp))
 refine⟨_,_,hm',hM.fr.kill rfl hlt (λc hc hcj=>⟨?_,rfl⟩) (RepC.undef_ex _ _ _),hM.defers,hM.size⟩
 rw[DI,AY,A0]
 exact⟨hc,by simpa using hcj⟩
end
end Go.Sx
end
section
namespace Go.Gr
open Go.Proofs.YtjpmmkodoeipmaaGreatDoor
def RG(a b:List Int):Int:=Ed De ((a.length:Int)::a) ((b.length:Int)::b)
theorem ACz(a b:List Int):RG a b=OI [De a.length b.length,Ed De a b]:=by
 unfold RG OI
 rw[D5]
 by_cases h:De (a.length:Int) (b.length:Int)=0
 ·rw[if_pos h,if_pos h]
  unfold OI
  by_cases h2:Ed De a b=0
  ·rw[if_pos h2,h2];rfl
  ·rw[if_neg h2]
 ·rw[if_neg h,if_neg h]
theorem VH:TOrd RG:=⟨λx y=>by
  unfold RG
  rw[(YW X3).eq0]
  exact⟨λh=>(List.cons.inj h).2,λh=>by rw[h]⟩,λ_ _=>(YW X3).anti _ _,λ_ _ _=>(YW X3).trans _ _ _⟩
def sortC(l:List (List Int)):List (List Int):=l.mergeSort λa b=>decide (RG a b<=0)
theorem KV(l:List (List Int)):(sortC l).Perm l:=L5 _ _
theorem P3(l:List (List Int)):(sortC l).Pairwise λa b=>¬RG b a<0:=by
 have:=NM (le:=λa b=>decide (RG a b<=0)) (λa b c h1 h2=>by
  simp only[decide_eq_true_eq]at*
  exact VH.le_trans h1 h2) (λa b=>by
  have:=VH.anti a b
  simp only[Dj,decide_eq_true_eq]
  omega) l
 refine this.imp λ{a b} h=>?_
 simp only[decide_eq_true_eq]at h
 have:=VH.anti a b
 omega
theorem Zj {l out:List (List Int)}(hp:out.Perm l)(ho:out.Pairwise (λa b=>¬RG b a<0)):out=sortC l:=by
 refine(hp.trans (KV l).symm).eq_of_pairwise (le:=λa b=>¬RG b a<0) (λa b _ _ h1 h2=>?_) ho (P3 l)
 have:=VH.anti a b
 exact(VH.eq0 _ _).1 (by omega)
theorem gB {l m:List (List Int)}(h:l.Perm m):sortC l=sortC m:=Zj ((KV l).trans h) (P3 l)
def KT(l:List Int):List Int:=l.mergeSort λx y=>decide (x<=y)
theorem eV(u:Pt->Pt)(ps:List Pt):HU D4 u [] (Em ps)=Em (ps.map u):=by
 suffices H:∀qs:List Pt,HU D4 u [] (Em qs.reverse)=Em (qs.reverse.map u)by
  have:=H ps.reverse
  rwa [F5]at this
 intro qs
 induction qs with
 |nil=>rfl
 |cons q qs ih=>rw[Hd,JZ,Xx Ij,ih,A7,Ap,Bt,JZ]
theorem eX {α:Type} {f:α->α->Int}(h:TOrd f)(p:α)(n:Int):∀(l:List (α×Int)) (q:α),q∈(Dr f l p n).map (·.1)↔q=p\/q∈l.map (·.1)
 |[],q=>by simp[Dr]
 |
  y::l,q=>by
  rcases He (f y.1 p) 0 with h1|h1|h1
  ·rw[DQ h1,Ap,Ai,eX h p n l q,Ap,Ai]
   exact or_left_comm
  ·have e:=(h.eq0 _ _).1 h1
   rw[El h1,Ap,Ai,Ap,Ai,e]
   exact⟨λh=>h.imp_right .inr,λh=>h.elim .inl id⟩
  ·rw[EX h1,Ap,Ai]
theorem uX(ps:List Pt)(q:Pt):q∈(Em ps).map (·.1)↔q∈ps:=by
 suffices H:∀qs:List Pt,q∈(Em qs.reverse).map (·.1)↔q∈qs.reverse by
  have:=H ps.reverse
  rwa [F5]at this
 intro qs
 induction qs with
 |nil=>exact SD
 |
  cons r qs ih=>
  rw[Hd,JZ,eX Ij,ih,Ag,As]
  exact or_comm
theorem Zh {l:List (Pt×Int)}(h:H5 D4 l):(l.map (·.1)).Nodup:=by
 unfold H5 at h
 rw[List.Nodup,B7]
 refine h.imp λ{a b} hab e=>?_
 have:=Ij.self b.1
 rw[e]at hab
 omega
def P1(F:Pt)(W:List (List Int)):Nat:=OT (Et F.labels.length (Jw F W))
def Hw(u:List Int->Pt)(wv:List Int->List Int)(Xs:List (List Int))(F:Pt):List (List Int):=(Xs.filter λX=>decide (u X=F)).map wv
def SI(u:List Int->Pt)(wv:List Int->List Int)(Xs:List (List Int))(s:Int):List (Pt×Int):=((Em (Xs.map u)).map λx=>(x.1,(P1 x.1 (Hw u wv Xs x.1):Int))).filter λx=>decide (s<=x.2)
theorem sN(u:List Int->Pt)(wv:List Int->List Int)(Xs:List (List Int))(s:Int):H5 D4 (SI u wv Xs s):=by
 have h:=(Gj (Xs.map u)).2.2.2.2
 unfold H5 at h
 unfold H5 SI
 exact(B7.2 h).filter _
structure GrpOk(u:List Int->Pt)(wv:List Int->List Int)(Xs:List (List Int))(ys:List (Pt×List (List Int))):Prop where
 nodup:(ys.map (·.1)).Nodup
 img:∀y∈ys,y.2=Hw u wv Xs y.1
 mem:∀F,F∈ys.map (·.1)↔∃X∈Xs,u X=F
section
variable {u:List Int->Pt} {wv:List Int->List Int} {Xs:List (List Int)} {ys:List (Pt×List (List Int))}
theorem ACa:GrpOk u wv [] []:=⟨.nil,λ_ h=>(by cases h),λF=>by simp⟩
theorem bI {X:List Int}:Hw u wv (Xs++[X]) (u X)=Hw u wv Xs (u X)++[wv X]:=by
 unfold Hw
 rw[Cd,A7,NN (by simp)];rfl
theorem nP {X:List Int} {F:Pt}(h:u X≠F):Hw u wv (Xs++[X]) F=Hw u wv Xs F:=by
 unfold Hw
 rw[Cd,uJ (by simpa using h)];simp
theorem GrpOk.new(h:GrpOk u wv Xs ys) {X:List Int}(hn:u X∉ys.map (·.1)):GrpOk u wv (Xs++[X]) (ys++[(u X,[wv X])]):=by
 have h0:Hw u wv Xs (u X)=[]:=by
  unfold Hw
  rw[AAL.2 λY hY=>by
   simp only[decide_eq_true_eq]
   exactλe=>hn ((h.mem _).2 ⟨Y,hY,e⟩)];rfl
 refine⟨?_,λy hy=>?_,λF=>?_⟩
 ·rw[A7]
  exact Ds.2 ⟨h.nodup,by simp,λa ha b hb e=>by simp at hb;subst hb;exact hn (e▸ha)⟩
 ·rcases Ag.1 hy with hy|hy
  ·rw[nP (λe=>hn (by rw[e];exact Cw hy))];exact h.img y hy
  ·rw[As.1 hy,bI,h0];rfl
 ·rw[A7,Ag,h.mem]
  constructor
  ·rintro(⟨Y,hY,e⟩|e)
   ·exact⟨Y,by simp[hY],e⟩
   ·simp only[Ap,Bt,As]at e
    exact⟨X,by simp,e.symm⟩
  ·rintro⟨Y,hY,e⟩
   rcases Ag.1 hY with hY|hY
   ·exact .inl ⟨Y,hY,e⟩
   ·rw[As.1 hY]at e
    exact .inr (by simp[e])
theorem GrpOk.old(h:GrpOk u wv Xs ys) {X:List Int} {k:Nat} {W:List (List Int)}(hk:ys[k]? =some (u X,W)):GrpOk u wv (Xs++[X]) (ys.set k (u X,W++[wv X])):=by
 have hkl:=(Ae.1 hk).1
 have hm:(ys.set k (u X,W++[wv X])).map (·.1)=ys.map (·.1):=by
  rw[Dz]
  refine BY λi=>?_
  rw[Be]
  by_cases e:k=i
  ·subst e
   rw[if_pos rfl,if_pos (by rw[Ac];exact hkl),Ad,hk];rfl
  ·rw[if_neg e]
 refine⟨by rw[hm];exact h.nodup,λy hy=>?_,λF=>?_⟩
 ·obtain⟨i,hi⟩:=EV.1 hy
  rw[Be]at hi
  by_cases e:k=i
  ·rw[if_pos e,if_pos hkl]at hi
   cases hi
   rw[bI,<-h.img _ (A6 hk)]
  ·rw[if_neg e]at hi
   have hne:u X≠y.1:=λe2=>e (by
    have h1:(ys.map (·.1))[k]? =some (u X):=by rw[Ad,hk];rfl
    have h2:(ys.map (·.1))[i]? =some (u X):=by rw[Ad,hi,e2];rfl
    obtain⟨a1,a2⟩:=Ae.1 h1
    obtain⟨b1,b2⟩:=Ae.1 h2
    exact(List.getElem_inj h.nodup).1 (a2.trans b2.symm))
   rw[nP hne]
   exact h.img y (A6 hi)
 ·rw[hm,h.mem]
  constructor
  ·rintro⟨Y,hY,e⟩;exact⟨Y,by simp[hY],e⟩
  ·rintro⟨Y,hY,e⟩
   rcases Ag.1 hY with hY|hY
   ·exact⟨Y,hY,e⟩
   ·rw[As.1 hY]at e
    exact(h.mem F).1 (An.2 ⟨_,A6 hk,e⟩)
theorem GrpOk.rows(h:GrpOk u wv Xs ys):(ys.map λy=>(y.1,(P1 y.1 y.2:Int))).Perm ((Em (Xs.map u)).map λx=>(x.1,(P1 x.1 (Hw u wv Xs x.1):Int))):=by
 have e1:(ys.map λy=>(y.1,(P1 y.1 y.2:Int)))=(ys.map (·.1)).map λF=>(F,(P1 F (Hw u wv Xs F):Int)):=by
  rw[ED]
  exact Ec λy hy=>by simp only[Function.comp,<-h.img y hy]
 have e2:((Em (Xs.map u)).map λx=>(x.1,(P1 x.1 (Hw u wv Xs x.1):Int)))=((Em (Xs.map u)).map (·.1)).map λF=>(F,(P1 F (Hw u wv Xs F):Int)):=by rw[ED];rfl
 rw[e1,e2]
 refine List.Perm.map _ ?_
 have n1:=h.nodup
 have n2:=Zh (Gj (Xs.map u)).2.2.2.2
 have hm:∀F,F∈ys.map (·.1)↔F∈(Em (Xs.map u)).map (·.1):=λF=>by rw[h.mem,uX,An]
 exact EL n1 (λF=>(hm F).1) (FI n2 λF=>(hm F).2)
end
theorem sF {u:List Int->Pt} {wv:List Int->List Int} {Xs Ys:List (List Int)}(h:Xs.Perm Ys)(F:Pt):(Hw u wv Xs F).Perm (Hw u wv Ys F):=(h.filter _).map _
theorem vL(F:Pt) {W V:List (List Int)}(h:∀L,L∈W↔L∈V):P1 F W=P1 F V:=by
 unfold P1
 rw[kU λL=>?_]
 unfold Jw
 rw[AL,AL]
 exact exists_congr λM=>and_congr_left λ_=>h M
theorem sO {u:List Int->Pt} {wv:List Int->List Int} {Xs Ys:List (List Int)}(h:Xs.Perm Ys)(s:Int):SI u wv Xs s=SI u wv Ys s:=by
 unfold SI
 rw[Wb (h.map u)]
 congr 1
 refine Ec λx _=>?_
 rw[vL x.1 λL=>(sF h x.1).mem_iff]
def Hr(k:Int)(d:Nat)(s:Int)(u:List Int->Pt)(wv:List Int->List Int)(L:List (List (List Int))):List (Pt×Int):=if k=1 then(if d<=L.length then Em (((L[d-1]?).getD []).map u)else[])else if k=2 then[]else SI u wv L.flatten s
def I7(k:Int)(L:List (List (List Int))):List (List Int):=if k=2 then sortC (L.flatten.map KT)else[]
theorem Ra {f:List (List Int)->List (List Int)}:∀{L:List (List (List Int))},(∀R∈L,(f R).Perm R)->((L.map f).flatten).Perm L.flatten
 |[],_=>.refl _
 |
  R::L,h=>by
  rw[Ap,Cs,Cs]
  exact(h R (.head _)).append (Ra λS hS=>h S (.tail _ hS))
theorem cF {k:Int} {d:Nat} {s:Int} {u:List Int->Pt} {wv:List Int->List Int} {f:List (List Int)->List (List Int)} {L:List (List (List Int))}(h:∀R∈L,(f R).Perm R):Hr k d s u wv (L.map f)=Hr k d s u wv L/\I7 k (L.map f)=I7 k L:=by
 have hf:=Ra h
 unfold Hr I7
 refine⟨?_,by rw[gB (hf.map KT)]⟩
 rw[sO hf,Ac,Ad]
 cases hg:L[d-1]? with
 |none=>rfl
 |
  some R=>
  have hR:=A6 hg
  simp only[Cv,Fh]
  rw[Wb ((h R hR).map u)]
theorem sU(k:Int) {d:Nat}(hd:0<d)(s:Int)(u:List Int->Pt)(wv:List Int->List Int):Hr k d s u wv []=[]/\I7 k []=[]:=by
 unfold Hr I7
 refine⟨?_,?_⟩
 ·rw[if_neg (show¬d<=([]:List (List (List Int))).length by simp;omega)]
  split
  ·rfl
  ·split<;>rfl
 ·split
  ·exact List.mergeSort_nil
  ·rfl
theorem qQ {α β:Type} {zt:List (α×β)} {todo todo':List α} {p:α}(h:todo.Perm (zt.map (·.1)))(hp:todo.Perm (p::todo')):∃z zt',z.1=p/\zt.Perm (z::zt')/\todo'.Perm (zt'.map (·.1)):=by
 obtain⟨z,hz,e⟩:=An.1 (h.mem_iff.1 (hp.mem_iff.2 (.head _)))
 obtain⟨a,b,rfl⟩:=List.append_of_mem hz
 have hm:(a++z::b).Perm (z::(a++b)):=List.perm_middle
 refine⟨z,a++b,e,hm,?_⟩
 have h2:=(hp.symm.trans h).trans (hm.map (·.1))
 rw[Ap,e]at h2
 exact h2.cons_inv
def Rb(y:Pt×List (List Int)):Pt×Int:=(y.1,(P1 y.1 y.2:Int))
structure TodoOk {κ:Type}(s:Int)(Z:List (κ×(Pt×List (List Int))))(bs:List (Go.Sx.Bg (Pt×List (List Int))))(zt:List (κ×(Pt×List (List Int))))(done:List (Pt×Int)):Prop where
 perm:(done++(zt.map λz=>Rb z.2).filter λx=>decide (s<=x.2)).Perm ((Z.map λz=>Rb z.2).filter λx=>decide (s<=x.2))
 here:∀z∈zt,∃k:Nat,Z[k]? =some z/\bs[k]? =some (Go.Sx.Bg.here z.2)
 nodup:(zt.map (·.2.1)).Nodup
theorem TodoOk.next {κ:Type} {s:Int} {Z zt zt':List (κ×(Pt×List (List Int)))} {bs:List (Go.Sx.Bg (Pt×List (List Int)))} {done:List (Pt×Int)}(h:TodoOk s Z bs zt done) {z:κ×(Pt×List (List Int))}(hp:zt.Perm (z::zt')):∃k:Nat,Z[k]? =some z/\bs[k]? =some (Go.Sx.Bg.here z.2)/\TodoOk s Z (bs.set k Go.Sx.Bg.pin) zt' (if s<=(P1 z.2.1 z.2.2:Int)then done++[Rb z.2]else done):=by
 obtain⟨k,h1,h2⟩:=h.here z (hp.mem_iff.2 (.head _))
 have hn:=(hp.map (·.2.1)).nodup_iff.1 h.nodup
 rw[Ap,Cp]at hn
 refine⟨k,h1,h2,⟨?_,λy hy=>?_,hn.2⟩⟩
 ·refine List.Perm.trans ?_ h.perm
  have hq:=((hp.map λz=>Rb z.2).filter λx=>decide (s<=x.2)).symm
  rw[Ap]at hq
  by_cases hs:s<=(P1 z.2.1 z.2.2:Int)
  ·rw[if_pos hs,Bk]
   rw[KJ,if_pos (show decide (s<=(Rb z.2).2)=true from decide_eq_true hs)]at hq
   exact hq.append_left done
  ·rw[if_neg hs]
   rw[KJ,if_neg (show¬decide (s<=(Rb z.2).2)=true fromλh=>hs (of_decide_eq_true h))]at hq
   exact hq.append_left done
 ·obtain⟨j,g1,g2⟩:=h.here y (hp.mem_iff.2 (.tail _ hy))
  refine⟨j,g1,?_⟩
  rw[List.getElem?_set_ne]
  ·exact g2
  ·rintro rfl
   rw[h1]at g1
   cases g1
   exact hn.1 (Cw hy)
end Go.Gr
end
section
namespace Go.Proofs
open Go.Shelf
def Tryz.growO_ren:Go.Shelf.Ren:=⟨λ|4=>108|n=>n,λ|22=>32|25=>126|3=>3|4=>4|9=>9|20=>20|0=>0|2=>3|n=>n,λ|n=>n⟩
theorem Tryz.growO:Go.Proofs.Lays8.n4 Tryz.prog Tryz.growO_ren:={
 mixed:=by kernel_rfl
 f4:=⟨Tryz.f108.name,by decide,Tryz.func108.trans (congrArg some (by kernel_rfl))⟩
 t0:=Tryz.underlying0
 a0:=Tryz.isAgg0
 z0:=Tryz.sizeOf0
 v0:=Tryz.zeroValue0
 t3:=Tryz.underlying3
 a3:=Tryz.isAgg3
 z3:=Tryz.sizeOf3
 v3:=Tryz.zeroValue3
 t4:=Tryz.underlying4
 a4:=Tryz.isAgg4
 z4:=Tryz.sizeOf4
 v4:=Tryz.zeroValue4
 t9:=Tryz.underlying9
 a9:=Tryz.isAgg9
 z9:=Tryz.sizeOf9
 v9:=Tryz.zeroValue9
 t20:=Tryz.underlying20
 a20:=Tryz.isAgg20
 z20:=Tryz.sizeOf20
 v20:=Tryz.zeroValue20
 t22:=Tryz.underlying32
 a22:=Tryz.isAgg32
 z22:=Tryz.sizeOf32
 v22:=Tryz.zeroValue32}
end Go.Proofs
end
section
namespace Go.Gr
open Go.Proofs.YtjpmmkodoeipmaaGreatDoor
structure Cnf where
 kind:Int
 size:Int
 sup:Int
 workers:Int
 cap:Int
 keep:List Opp
structure CnfOk(c:Cnf):Prop where
 kind:1<=c.kind/\c.kind<=3
 size:1<=c.size/\c.size<=8
 workers:1<=c.workers/\c.workers<=64
 cap:1<=c.cap/\c.cap<=1000000
 l15:c.keep.length<=15
 lok:∀o∈c.keep,Fg o=0
 sup:if c.kind=3 then 1<=c.sup/\c.sup<=1000000 else c.sup=0
def J5(c:Cnf):List Opp:=if c.kind=2 then⟨1,0⟩::c.keep else c.keep
end Go.Gr
namespace Go.Proofs.YtjpmmkodoeipmaaGreatDoor
open Go.Sx Go.RowKit Go.Reg Go.Gr
set_option maxRecDepth 100000
def Is(c:Cnf):Da:=.agg [.int .i64 c.kind,.int .i64 c.size,.int .i64 c.sup,.int .i64 c.workers,.int .i64 c.cap,JS c.keep]
theorem ADT:(Tryz.prog.info? 126).map (λi=>(i.zero,i.size,i.bytes))=some (some (.agg #[.int .i64 0,.int .i64 0]),2,16):=by kernel_rfl
theorem iQ(m:Nat)(hm:m<=1000):E5 C1 108 [.nils,.int .i64 m] 126 2 (λds=>ds=[]):=by
 intro O w us hO hg hr
 obtain⟨v,vs,rfl,h1,h2⟩:=Cg hr
 obtain⟨v2,vs2,rfl,h3,h4⟩:=Cg h2
 obtain rfl:=Dv h4
 have e1:v=.slice none 0 0:=by
  obtain⟨cs,r,e⟩:=h1
  simp only[RepC]at r
  subst r;exact e
 have e2:v2=.int .i64 m:=by
  obtain⟨cs,r,e⟩:=h3
  simp only[RepC]at r
  subst r;exact e
 subst e1 e2
 refine⟨by kernel_rfl,?_⟩
 obtain⟨i0,hi0,ez,es,eb⟩:∃i0,Tryz.prog.info? 126=some i0/\i0.zero=some (.agg #[.int .i64 0,.int .i64 0])/\i0.size=2/\i0.bytes=16:=by
  have:=ADT
  cases hq:Tryz.prog.info? 126 with
  |none=>rw[hq]at this;cases this
  |some i=>rw[hq]at this;simp only[Cv,AD,Prod.mk.injEq]at this;exact⟨i,rfl,this⟩
 by_cases h0:m=0
 ·subst h0
  refine(Any8.slices_Grow_room Tryz.growO none 0 0 0 w (by omega) (by omega) (by omega) (by omega)).mono ?_
  rintro e w' ⟨rfl,rfl⟩
  exact⟨_,[],[],rfl,rfl,fD _ 0 _ _,(λb hb=>by cases hb),rfl,(λx hx=>by cases hx),Tch.refl _ _⟩
 ·refine(Any8.slices_Grow_grow Tryz.growO i0 (.agg #[.int .i64 0,.int .i64 0]) hi0 ez (by omega) none 0 0 m [] w (by omega) (by omega) (by rw[eb];omega) (by omega) (by simp) (λ_=>rfl) (λa ha=>by cases ha)).mono ?_
  rintro e w' ⟨rfl,rfl⟩
  have hGn:0+m<=grownCap w (0+m) 0 126:=grownCap_ge w _ _ _
  have hGm:grownCap w (0+m) 0 126<=maxLen:=grownCap_le_maxLen w (0+m) 0 _ (by unfold maxLen;omega)
  have hren:Tryz.growO_ren.t 25=126:=rfl
  rw[hren]
  generalize grownCap w (0+m) 0 126=G at hGn hGm⊢
  obtain⟨ROW,hROW⟩:∃R,R=(([]:List Value).toArray++Builtin.zeroCells (Value.agg #[.int .i64 0,.int .i64 0]).cells (0+m-0)++Builtin.zeroCells (Value.agg #[.int .i64 0,.int .i64 0]).cells (G- (0+m))):=⟨_,rfl⟩
  have hs:ROW.size=G*2:=by
   rw[hROW]
   simp only[Pr,BD,Br,size_zeroCells,Value.cells]
   simp;omega
  rw[<-hROW]
  refine⟨_,[],[],rfl,rfl,?_,?_,rfl,(λx hx=>by cases hx),(Tch.drew w []).trans0 (Tch.alloc _ _ _)⟩
  ·exact⟨rfl,.inr ⟨w.heap.size,G,ROW,rfl,Am _,(by show(w.heap.push (Obj.cells ROW 126))[w.heap.size]? =_;simp),Am _,hGm,hs,by simp⟩⟩
  ·intro b hb
   simp only[Value.ownBlock,AD]at hb
   omega
theorem Vc {L:List (List Opp)} {i:Nat} {l:List Opp}(h:L[i]? =some l):(L.take (i+1)).flatten=(L.take i).flatten++l:=by
 rw[Au,h,AS,D7];simp
theorem zX(L:List (List Opp))(i:Nat):(L.take i).flatten.length<=L.flatten.length:=by
 conv=>rhs;rw[<-BP i L,D7,Ah]
 omega
set_option maxHeartbeats 4000000 in
theorem Yf(L:List (List Opp))(hL:L.length<=1000)(hf:L.flatten.length<=1000):Pure C1 59 [.list 1 (L.map JS)] (λy=>y=JS L.flatten):=by
 have hdL:(L.map JS).length=L.length:=Ac _
 have hfl:=zX L
 refine AU Tryz.func59 Tryz.ntmps59 [] [] ?_
 ((conv=>whnf);repeat' ((first|refine odw ?_|refine nx ?_|refine AB (λ_=>?_) (λ_=>?_))<;>conv=>whnf))
 refine AQ (ι:=Nat) (λi=>i<=L.length) (λi=>[(11,.d (.int .i64 i)),(10,.d (.int .i64 (L.map JS).length)),(9,.d (.list 1 (L.map JS))),(3,.d (.int .i64 ((L.take i).flatten.length:Nat))),(0,.d (.list 1 (L.map JS)))]) (λ_=>[]) (λi=>L.length-i) 0 (λ_=>rfl) (Am _) (.refl _ _) ⟨rfl,rfl,rfl,rfl,rfl,trivial⟩ trivial ?_
 intro i hi
 refine Ca [] [] ?_
 by_cases hil:i<L.length
 ·have hx:=Ab hil
  generalize L[i]=x at hx
  have hxd:(L.map JS)[i]? =some (JS x):=by rw[Ad,hx];rfl
  have hdx:(x.map dO).length=x.length:=Ac _
  have hst:=congrArg List.length (Vc hx)
  rw[Ah]at hst
  have h1:=hfl (i+1)
  (conv=>whnf)
  (repeat' ((first|refine Aj ?_ ?_|refine AO hxd rfl ?_|refine nx ?_|refine AB (λ_=>?_) (λ_=>?_)|exact AE)<;>conv=>whnf))
  exact⟨i+1,_,_,hil,.refl _ _,⟨rfl,rfl,rfl,OU (by omega),rfl,trivial⟩,trivial,by omega⟩
 ·have e:L.take i=L:=Ak (by omega)
  rw[e]
  ((conv=>whnf);repeat' ((first|refine odw ?_|refine nx ?_|refine AB (λ_=>?_) (λ_=>?_))<;>conv=>whnf))
  refine EF 24 rfl rfl (iQ _ hf) ?_;rintro ds rfl
  ((conv=>whnf);repeat' ((first|refine odw ?_|refine nx ?_|refine AB (λ_=>?_) (λ_=>?_))<;>conv=>whnf))
  refine AQ (ι:=Nat) (λi=>i<=L.length) (λi=>[(27,.d (.int .i64 i)),(26,.d (.int .i64 (L.map JS).length)),(25,.d (.list 1 (L.map JS))),(6,.own 24)]) (λi=>[(24,.slice 126 2 ((L.take i).flatten.map dO))]) (λi=>L.length-i) 0 (λ_=>rfl) (Am _) (.refl _ _) ⟨rfl,rfl,rfl,rfl,trivial⟩ ⟨rfl,trivial⟩ ?_
  intro i hi
  refine Ca [] [] ?_
  by_cases hil:i<L.length
  ·have hx:=Ab hil
   generalize L[i]=x at hx
   have hxd:(L.map JS)[i]? =some (JS x):=by rw[Ad,hx];rfl
   have hdx:(x.map dO).length=x.length:=Ac _
   have hst:=Vc hx
   have hsl:=congrArg List.length hst
   rw[Ah]at hsl
   have h1:=hfl (i+1)
   generalize (L.take i).flatten=Z at hst hsl⊢
   have hdz:(Z.map dO).length=Z.length:=Ac _
   (conv=>whnf)
   (repeat' ((first|refine Aj ?_ ?_|refine AO hxd rfl ?_|refine yR (by omega) ?_|refine nx ?_|refine AB (λ_=>?_) (λ_=>?_)|exact AE)<;>conv=>whnf))
   exact⟨i+1,_,_,hil,.refl _ _,⟨rfl,rfl,rfl,rfl,trivial⟩,⟨Bj (by rw[hst,A7]),trivial⟩,by omega⟩
  ·have e:L.take i=L:=Ak (by omega)
   rw[e]
   ((conv=>whnf);repeat' ((first|refine odw ?_|refine nx ?_|refine AB (λ_=>?_) (λ_=>?_))<;>conv=>whnf))
   exact rfl
theorem rG(l:List Opp)(hl:l.length<=2000000000):E5 C1 60 [JS l] 126 2 (λds=>ds=l.map dO):=by
 have hlm:(l.map dO).length=l.length:=Ac _
 refine WN Tryz.func60 Tryz.ntmps60 [] [] ?_
 cases l with
 |
  nil=>
  ((conv=>whnf);repeat' ((first|refine odw ?_|refine nx ?_|refine AB (λ_=>?_) (λ_=>?_))<;>conv=>whnf))
  refine Yd rfl Tryz.underlying32 rfl rfl (.inr rfl) rfl ?_
  intro b
  cases b<;>((conv=>whnf);repeat' ((first|refine odw ?_|refine nx ?_|refine AB (λ_=>?_) (λ_=>?_))<;>conv=>whnf))
  ·exact⟨rfl,rfl,rfl⟩
  ·exact rfl
 |
  cons x l=>
  have hlm2:(([]:List Da).length+((x::l).map dO).length)<=4294967296:=by rw[hlm];simp at hl⊢;omega
  ((conv=>whnf);repeat' ((first|refine odw ?_|refine nx ?_|refine AB (λ_=>?_) (λ_=>?_))<;>conv=>whnf))
  all_goals first|exact⟨rfl,rfl,rfl⟩|(refine J9 hlm2 ?_;((conv=>whnf);repeat' ((first|refine odw ?_|refine nx ?_|refine AB (λ_=>?_) (λ_=>?_))<;>conv=>whnf));exact⟨rfl,rfl,by simp⟩)
theorem dU(c:Cnf):Pure C1 22 [Is c] (λy=>y=.bool (decide (c.kind=3))):=by
 refine AU Tryz.func22 Tryz.ntmps22 [] [] ?_
 ((conv=>whnf);repeat' ((first|refine odw ?_|refine nx ?_|refine AB (λ_=>?_) (λ_=>?_))<;>conv=>whnf))
 exact rfl
theorem kT(c:Cnf)(hm:c.keep.length<=500):Pure C1 23 [Is c] (λy=>y=JS (J5 c)):=by
 have hcl:=rG c.keep (by omega)
 have hcc:=Yf [[⟨1,0⟩],c.keep] (by simp) (by simp;omega)
 rw[show[[⟨1,0⟩],c.keep].flatten=(⟨1,0⟩::c.keep:List Opp)by simp]at hcc
 refine AU Tryz.func23 Tryz.ntmps23 [] [] ?_
 unfold J5
 by_cases h:c.kind=2
 ·rw[if_pos h]
  ((conv=>whnf);repeat' ((first|refine odw ?_|refine nx ?_|refine AB (λ_=>?_) (λ_=>?_))<;>conv=>whnf))
  refine Mp EM (G:=[]) (.frz 7 rfl (.refl _ _)) (.inr rfl) ?_
  (conv=>whnf)
  (repeat' ((first|refine Aj ?_ ?_|refine Dq 10 rfl ?_|refine Af rfl hcc ?_|refine nx ?_|refine AB (λ_=>?_) (λ_=>?_)|exact AE)<;>conv=>whnf))
  exact rfl
 ·rw[if_neg h]
  ((conv=>whnf);repeat' ((first|refine odw ?_|refine nx ?_|refine AB (λ_=>?_) (λ_=>?_))<;>conv=>whnf))
  refine EF 14 rfl rfl hcl ?_;rintro ds rfl
  ((conv=>whnf);repeat' ((first|refine odw ?_|refine nx ?_|refine AB (λ_=>?_) (λ_=>?_))<;>conv=>whnf))
  exact rfl
theorem IH(n m:Int):Pure C1 62 [.int .i64 n,.int .i64 m] (λy=>y=.bool (decide (1<=n/\n<=m))):=by
 refine AU Tryz.func62 Tryz.ntmps62 [] [] ?_
 by_cases h:1<=n
 ·((conv=>whnf);repeat' ((first|refine odw ?_|refine nx ?_|refine AB (λ_=>?_) (λ_=>?_))<;>conv=>whnf))
  exact congrArg Da.bool (decide_eq_decide.2 ⟨λx=>⟨h,x⟩,λx=>x.2⟩)
 ·((conv=>whnf);repeat' ((first|refine odw ?_|refine nx ?_|refine AB (λ_=>?_) (λ_=>?_))<;>conv=>whnf))
  exact congrArg Da.bool (decide_eq_false (λx=>h x.1)).symm
def U7(k:Int):List UInt8:=if k=1 then[109,111,116,105,102,115]else if k=2 then[99,108,105,113,117,101,115]else[102,115,109]
theorem dH:Pure C1 109 [] (λy=>y=.list 1 [.str ⟨#[109,111,116,105,102,115]⟩,.str ⟨#[99,108,105,113,117,101,115]⟩,.str ⟨#[102,115,109]⟩]):=by
 refine AU Tryz.func109 Tryz.ntmps109 [] [] ?_
 ((conv=>whnf);repeat' ((first|refine odw ?_|refine nx ?_|refine AB (λ_=>?_) (λ_=>?_))<;>conv=>whnf))
 exact rfl
def AF9:List FuncId:=[109]
theorem kV(k:Int)(hk:k=1\/k=2\/k=3):Pure C1 61 [.int .i64 k] (λy=>y=.str (bs (U7 k))):=by
 have hn:=dH
 refine AU Tryz.func61 Tryz.ntmps61 AF9 [] ?_
 rcases hk with rfl|rfl|rfl
 ·have hx:([.str ⟨#[109,111,116,105,102,115]⟩,.str ⟨#[99,108,105,113,117,101,115]⟩,.str ⟨#[102,115,109]⟩]:List Da)[0]? =some (.str ⟨#[109,111,116,105,102,115]⟩):=rfl
  (conv=>whnf)
  (repeat' ((first|refine Aj ?_ ?_|refine Af rfl hn ?_|refine oE hx rfl ?_|refine nx ?_|refine AB (λ_=>?_) (λ_=>?_)|exact AE)<;>conv=>whnf))
  exact rfl
 ·have hx:([.str ⟨#[109,111,116,105,102,115]⟩,.str ⟨#[99,108,105,113,117,101,115]⟩,.str ⟨#[102,115,109]⟩]:List Da)[1]? =some (.str ⟨#[99,108,105,113,117,101,115]⟩):=rfl
  (conv=>whnf)
  (repeat' ((first|refine Aj ?_ ?_|refine Af rfl hn ?_|refine oE hx rfl ?_|refine nx ?_|refine AB (λ_=>?_) (λ_=>?_)|exact AE)<;>conv=>whnf))
  exact rfl
 ·have hx:([.str ⟨#[109,111,116,105,102,115]⟩,.str ⟨#[99,108,105,113,117,101,115]⟩,.str ⟨#[102,115,109]⟩]:List Da)[2]? =some (.str ⟨#[102,115,109]⟩):=rfl
  (conv=>whnf)
  (repeat' ((first|refine Aj ?_ ?_|refine Af rfl hn ?_|refine oE hx rfl ?_|refine nx ?_|refine AB (λ_=>?_) (λ_=>?_)|exact AE)<;>conv=>whnf))
  exact rfl
def AF7:List FuncId:=[61,62,54,63]
theorem cX {c:Cnf}(h:CnfOk c):Pure C1 25 [Is c] (λy=>y=.nili):=by
 have hk:=h.kind
 have hk3:c.kind=1\/c.kind=2\/c.kind=3:=by omega
 have hn:=kV c.kind hk3
 have hw1:=IH c.size 8
 have hw2:=IH c.workers 64
 have hw3:=IH c.cap 1000000
 have hw4:=IH c.sup 1000000
 rw[decide_eq_true h.size]at hw1
 rw[decide_eq_true h.workers]at hw2
 rw[decide_eq_true h.cap]at hw3
 have hpr:=Le c.keep (by have:=h.l15;omega) h.lok
 have hlen:(c.keep.map dO).length=c.keep.length:=Ac _
 have hl:=h.l15
 have hs:=h.sup
 refine AU Tryz.func25 Tryz.ntmps25 AF7 [] ?_
 rcases hk3 with e|e|e
 ·rw[show U7 c.kind=[109,111,116,105,102,115]by unfold U7;rw[if_pos e]]at hn
  have hne:¬bs [109,111,116,105,102,115]=⟨#[]⟩:=by decide
  rw[if_neg (by omega)]at hs
  (conv=>whnf)
  (repeat' ((first|refine Aj ?_ ?_|refine Af rfl hn ?_|refine Af rfl hw1 ?_|refine Af rfl hw2 ?_|refine Af rfl hw3 ?_|refine Af rfl hpr ?_|refine nx ?_|refine AB (λ_=>?_) (λ_=>?_)|exact AE)<;>conv=>whnf))
  exact rfl
 ·rw[show U7 c.kind=[99,108,105,113,117,101,115]by unfold U7;rw[if_neg (by omega),if_pos e]]at hn
  have hne:¬bs [99,108,105,113,117,101,115]=⟨#[]⟩:=by decide
  rw[if_neg (by omega)]at hs
  (conv=>whnf)
  (repeat' ((first|refine Aj ?_ ?_|refine Af rfl hn ?_|refine Af rfl hw1 ?_|refine Af rfl hw2 ?_|refine Af rfl hw3 ?_|refine Af rfl hpr ?_|refine nx ?_|refine AB (λ_=>?_) (λ_=>?_)|exact AE)<;>conv=>whnf))
  exact rfl
 ·rw[show U7 c.kind=[102,115,109]by unfold U7;rw[if_neg (by omega),if_neg (by omega)]]at hn
  have hne:¬bs [102,115,109]=⟨#[]⟩:=by decide
  rw[if_pos e]at hs
  rw[decide_eq_true hs]at hw4
  (conv=>whnf)
  (repeat' ((first|refine Aj ?_ ?_|refine Af rfl hn ?_|refine Af rfl hw1 ?_|refine Af rfl hw2 ?_|refine Af rfl hw3 ?_|refine Af rfl hpr ?_|refine Af rfl hw4 ?_|refine nx ?_|refine AB (λ_=>?_) (λ_=>?_)|exact AE)<;>conv=>whnf))
  exact rfl
def ADD:List (Nat×Plan):=[(1,.leaf [0,1,2,0,1,1,2,0,3] [0,3,1,4,5,2,6,7,8] [0,0,2,0,8,0,38,127,255])]
def AFf:List FuncId:=[22,23]
theorem Rc(G:Gr)(c:Cnf)(hm:c.keep.length<=500):Pure C1 8 [Is c,dG G] (λy=>y=dJ G (decide (c.kind=3)) c.size (J5 c)):=by
 have h1:=dU c
 have h2:=kT c hm
 refine AU Tryz.func8 Tryz.ntmps8 AFf ADD ?_
 (conv=>whnf)
 (repeat' ((first|refine Aj ?_ ?_|refine Af rfl h1 ?_|refine Af rfl h2 ?_|refine nx ?_|refine AB (λ_=>?_) (λ_=>?_)|exact AE)<;>conv=>whnf))
 exact rfl
end Go.Proofs.YtjpmmkodoeipmaaGreatDoor
end
section
namespace Go.Proofs.YtjpmmkodoeipmaaGreatDoor
open Go.Sx Go.RowKit Go.Reg Go.Gr
def WrP(p:Pt):Prop:=(p.labels.length<=1000/\p.edges.length<=1000)/\(∀x∈p.labels,0<=x/\x<=4294967295)/\∀e∈p.edges,(0<=e.a/\e.a<=4294967295)/\0<=e.b/\e.b<=4294967295
theorem AE4 {p:Pt}(h:Dk p=none):WrP p:=by
 obtain⟨h1,h2,h3⟩:=BK h
 obtain⟨g1,g2⟩:=CQ h1
 obtain⟨s1,s2⟩:=Mh h
 exact⟨⟨by omega,by omega⟩,λx hx=>by have:=g2 x hx;omega,λe he=>by have:=h2 e he;omega⟩
end Go.Proofs.YtjpmmkodoeipmaaGreatDoor
end
section
namespace Go.Proofs.YtjpmmkodoeipmaaGreatDoor
open Go.Sx Go.RowKit Go.Reg Go.Gr
set_option maxRecDepth 100000
def dRs(l:List (Pt×Int)):Da:=.list 3 (l.map Dp)
end Go.Proofs.YtjpmmkodoeipmaaGreatDoor
end
section
namespace Go.Proofs.YtjpmmkodoeipmaaGreatDoor
open Go.Sx Go.RowKit Go.Reg Go.Gr
set_option maxRecDepth 100000
theorem Q2 {O:List Nat} {w:World}:∀{ds:List Da} {css:List (List Value)},Aq O w ds css->css.length=ds.length
 |[],css,h=>by simp only[Aq]at h;subst h;rfl
 |
  d::ds,css,h=>by
  simp only[Aq]at h
  obtain⟨c1,c2,rfl,_,h⟩:=h
  simp[Q2 h]
theorem Re {O:List Nat} {w:World} {E k:Nat} {v:Value} {css:List (List Value)} {ds:List Da}(hs:Sl E k id w v css)(hb:∀b,v.ownBlock=some b->b∉O)(hr:Aq O w ds css)(hk:∀x∈css,EN k x):Rep O w (.list k ds) v:=by
 have hl:=Q2 hr
 rcases hs.2 with⟨rfl,hn⟩|⟨g,cap,cur,rfl,_,hg,hnc,hcm,hcs,htake⟩
 ·have:css=[]:=AF hn
  subst this
  have:ds=[]:=AF (by simpa using hl.symm)
  subst this
  exact⟨[.slice none 0 0],by simp only[RepC];exact⟨none,0,[],rfl,by simp,by unfold maxLen;omega,by simp[Aq],by simp,.inl (by simp)⟩,rfl⟩
 ·refine⟨[.slice (some ⟨g,0,none⟩) css.length cap],?_,rfl⟩
  simp only[RepC]
  refine⟨_,cap,css,by rw[hl],by rw[<-hl];exact hnc,hcm,hr,hk,.inr ⟨g,0,rfl,hb g rfl,(Al.1 hg).1,?_⟩⟩
  have he:css.flatMap id=css.flatten:=by simp[List.flatMap_id]
  intro j u hj
  rw[<-he,<-htake,CX]at hj
  split at hj
  ·simp only[World.cell?,hg,DT]
   simpa using hj
  ·cases hj
theorem tX {O:List Nat} {A:World}(hO:∀b∈O,b<A.heap.size)(hg:Glob C1 O A) {x:List Int}(hx:x.length<=4294967296) {v:Value}(h:Rep O A (Bh x) v):
  Calls Tryz.prog 88 #[v] A λe B=>∃u,e=.returned u/\Rep O B (Bh x) u/\Tch [] A B:=by
 obtain⟨_,hc⟩:=It x hx O A [v] hO hg (reps_cons h reps_nil)
 refine hc.mono ?_
 rintro e B ⟨u,css,ds,rfl,rfl,hs,hb,hr,hk,ht⟩
 refine⟨u,rfl,Re hs (λb hb' hm=>?_) ?_ hk,ht⟩
 ·have:=hb b hb';have:=hO b hm;omega
 ·exact Aq.later ⟨Ay _,λ_ _ _=>rfl,λb hb' _=>λhm=>hb' (Av _ hm)⟩ _ css hr
end Go.Proofs.YtjpmmkodoeipmaaGreatDoor
end
section
namespace Go.Proofs.YtjpmmkodoeipmaaGreatDoor
open Go.Sx Go.RowKit Go.Reg Go.Gr
set_option maxRecDepth 100000
theorem Dx {O:List Nat} {w:World} {l:List Int} {v:Value}(h:Rep O w (DU l) v):∃a c,v=.slice a l.length c/\l.length<=c/\c<=maxLen:=by
 obtain⟨cs,r,rfl⟩:=h
 simp only[DU,RepC]at r
 obtain⟨a,c,css,rfl,h1,h2,_⟩:=r
 rw[Ac]at h1
 exact⟨a,c,by rw[Ac];rfl,h1,h2⟩
set_option maxHeartbeats 4000000 in
theorem Zn(fr to:List Int):QF fr to 0:=by
 intro ah hk haj h8 h8' l XS J Jx hJ hY O A vf vt va pre hO hgl rf rt ra hj hpre
 have hcl:=λ(B:World)=>@tX O A hO hgl (ah.map λj:Nat=>(j:Int)) (by simp;omega) va ra
 obtain⟨a1,c1,rfl,_,_⟩:=Dx rf
 obtain⟨a2,c2,rfl,_,_⟩:=Dx rt
 obtain⟨a3,c3,rfl,_,_⟩:=Dx ra
 have hcl:=hcl A
 rw[Ac]at hcl⊢
 have hlen:fr.length=ah.length:=by omega
 rw[hlen]
 refine callsIn_of_wp Tryz.func268 rfl trivial ?_ rfl
 simp only[Tryz.ntmps268,BD,Ax,Br,Nat.reduceAdd,Nat.reduceSub,CW,CV,DA,Dg,BC,AV]
 gi_wp2_with (refine⟨trivial,?_⟩;gi_at_call 88;refine(callsIn_wide.2 hcl).mono ?_;rintro e B ⟨u,rfl,hru,htB⟩;obtain⟨fn,tmps,assign,body,hy,hR⟩:=hY O pre (ah.map λj:Nat=>(j:Int)) u B (λb hb=>Bv (hO b hb) htB.size) (hJ _ _ _ _ hj htB) hpre hru)
 refine hR.mono ?_
 rintro e B2 ⟨S',hg2,⟨rfl,hj2⟩|⟨rfl,hx2⟩⟩
 ·gi_wp2
  go_ret
  exact⟨S',(Grow.same (htB.mono (by simp)) hO).trans hg2,.inl ⟨rfl,hj2⟩⟩
 ·gi_wp2
  go_ret
  exact⟨S',(Grow.same (htB.mono (by simp)) hO).trans hg2,.inr ⟨rfl,_,List.prefix_refl _,hx2⟩⟩
end Go.Proofs.YtjpmmkodoeipmaaGreatDoor
end
section
namespace Go.Proofs.YtjpmmkodoeipmaaGreatDoor
open Go.Sx Go.RowKit Go.Reg Go.Gr
set_option maxRecDepth 100000
theorem AEJ {O:List Nat} {w:World}:∀{l:List Int} {css:List (List Value)},Aq O w (l.map λn=>Da.int .i64 n) css->css=l.map λn=>[Value.int .i64 n]
 |[],css,h=>by simpa only[Bt,Aq]using h
 |
  x::l,css,h=>by
  simp only[Ap,Aq,RepC]at h
  obtain⟨c1,c2,rfl,rfl,h⟩:=h
  rw[AEJ h];rfl
theorem ACX:∀l:List Int,(l.map λn=>[Value.int .i64 n]).flatten=l.map (Value.int .i64)
 |[]=>rfl
 |x::l=>by simp only[Ap,Cs,ACX l];rfl
theorem Mb {O:List Nat} {w:World} {l:List Int} {v:Value}(h:Rep O w (DU l) v):(l=[]/\∃a c,v=.slice a 0 c)\/∃b o c,v=.slice (some ⟨b,o,none⟩) l.length c/\l.length<=c/\c<=maxLen/\b∉O/\b<w.heap.size/\∀j x,l[j]? =some x->w.cell? ⟨b,o+j,none⟩=some (.int .i64 x):=by
 obtain⟨cs,r,rfl⟩:=h
 simp only[DU,RepC]at r
 obtain⟨a,c,css,rfl,h1,h2,h3,_,h5⟩:=r
 have hf:=AEJ h3
 rcases h5 with h5|⟨b,o,rfl,hb,hbl,hc⟩
 ·have:l=[]:=by simpa using h5
  subst this
  exact .inl ⟨rfl,a,c,rfl⟩
 ·refine .inr ⟨b,o,c,by rw[Ac];rfl,by rw[Ac]at h1;exact h1,h2,hb,hbl,λj x hx=>?_⟩
  refine hc j _ ?_
  rw[hf,ACX,Ad,hx];rfl
theorem Tch.later {O:List Nat} {A B:World}(h:Tch O A B):Later O A O B:=⟨h.size,λb hb hn=>h.blk b hb hn,λ_ h _=>h⟩
theorem DL {O:List Nat} {A B:World} {d:Da} {v:Value}(h:Tch O A B)(r:Rep O A d v):Rep O B d v:=r.later (Tch.later h)
theorem Hp {C:Cx} {O:List Nat} {A B:World}(h:Tch O A B)(r:Glob C O A):Glob C O B:=λg hg=>(r g hg).later (Tch.later h)
theorem Gh {O:List Nat} {A B:World}(h:Tch O A B)(r:∀b∈O,b<A.heap.size):∀b∈O,b<B.heap.size:=λb hb=>Bv (r b hb) h.size
theorem Zq:lS C1 58:=by
 intro w a n c hn hc
 refine⟨by kernel_rfl,?_⟩
 show Calls Tryz.prog _ _ _ _
 go_enter Tryz.func58,Tryz.ntmps58
 go_wp2
 go_ret
 exact⟨rfl,rfl⟩
theorem V1 {O:List Nat} {w:World}(hO:∀b∈O,b<w.heap.size) {l:List Int}(hl:l.length<=1000) {p:Option Addr} {c:Nat}(hp:Rep O w (DU l) (.slice p l.length c)) {b:Nat} {m:Int}(hc:w.cell? ⟨b,0,none⟩=some (.int .i64 m))(ty:TypeId):
  ∃v' w',(Builtin.append_ #[22,22] ty #[.slice p l.length l.length,.slice (some ⟨b,0,none⟩) 1 1]).run Tryz.prog w=.ok v' w'/\Rep O w' (DU (l++[m])) v'/\Tch [] w w':=by
 obtain⟨cs,r,e⟩:=hp
 simp only[DU,RepC]at r
 obtain⟨a,c',css,rfl,h1,h2,h3,h4,h5⟩:=r
 have ep:p=a:=by simp only[DU,DZ]at e;injection e
 subst ep
 have hcl:css.length=l.length:=by rw[Q2 h3,Ac]
 obtain⟨v',w',css2,g1,g2,g3,g4,g5,g6⟩:=SC (P:=Tryz.prog) (w:=w) (EM.ty (t:=22) rfl) rfl (EM.ty (t:=3) rfl) (by decide) (by decide) (p:=p) (css:=css) h4
  (by
   rcases h5 with h5|⟨b',o,h5,_,_,h6⟩
   ·exact .inl (AF (by rw[hcl];simpa using h5))
   ·exact .inr ⟨b',o,h5,h6⟩)
  (O:=O) (es:=[.int .i64 m]) (vy:=.slice (some ⟨b,0,none⟩) 1 1) ⟨⟨_,_,[[.int .i64 m]],rfl,by simp[Aq,RepC],by intro x hx;simp at hx;subst hx;exact⟨rfl,by intro y hy;simp at hy;subst hy;rfl⟩,.inr ⟨b,0,rfl,λj u hj=>by
   cases j with
   |zero=>simp at hj;subst hj;exact hc
   |succ j=>simp at hj⟩⟩⟩ (by simp) (by rw[hcl];refine BI (m:=1001) (by simp;omega) (by decide)) ty
 rw[hcl]at g1
 refine⟨v',w',g1,?_,g5⟩
 have:DU (l++[m])=.list 1 ((l.map λn=>Da.int .i64 n)++[.int .i64 m]):=by unfold DU;rw[A7];rfl
 rw[this]
 refine Re g2 (λb hb hm=>?_) (FH ?_ ?_) (λx hx=>?_)
 ·have:=g6 b hb;have:=hO b hm;omega
 ·exact Aq.later ⟨g5.size,λ_ h _=>g5.blk _ h (by simp),λ_ h _=>h⟩ _ _ h3
 ·exact Aq.later ⟨g5.size,λ_ h _=>g5.blk _ h (by simp),λ_ h _=>h⟩ _ _ g3
 ·rcases Ag.1 hx with hx|hx
  ·exact h4 x hx
  ·exact g4 x hx
theorem Mm(fr to:List Int)(k:Nat)(ah:List Nat) {m:Nat}:∀{m':Nat},m<=m'->Jy fr to k m ah<+:Jy fr to k m' ah
 |0,h=>by rw[show m=0 by omega];exact List.prefix_refl _
 |
  m'+1,h=>by
  rcases BN m (m'+1)with h1|h1
  ·rw[WB]
   exact(Mm fr to k ah (m:=m) (m':=m') (by omega)).trans (List.prefix_append _ _)
  ·rw[show m=m'+1 by omega];exact List.prefix_refl _
theorem nE {ah:List Nat} {m:Nat}(h:DH ah<2^8)(hm:m<8):bits BinOp.or IntKind.u64 (DH ah:Int) (IntKind.u64.wrap (2^m))=((DH (ah++[m]):Nat):Int):=by
 have h1:(2:Nat)^m<=2^8:=JQ (by decide) (by omega)
 have h2:IntKind.u64.wrap ((2:Int)^m)=((2^m:Nat):Int):=by
  have:(2:Int)^m=((2^m:Nat):Int):=by norm_cast
  rw[this]
  generalize (2:Nat)^m=q at h1
  rw[IntKind.wrap_u64];omega
 rw[h2,bits_or_u64_nat _ _ (by omega) (by omega),N6]
set_option maxHeartbeats 800000 in
theorem Zo(fr to:List Int)(k:Nat)(ih:QF fr to k):QF fr to (k+1):=by
 intro ah hk haj h8 h8' l XS J Jx hJ hY O A vf vt va pre hO hgl rf rt ra hj hpre
 obtain⟨a1,c1,rfl,_,_⟩:=Dx rf
 obtain⟨a2,c2,rfl,_,_⟩:=Dx rt
 obtain⟨a3,c3,rfl,hn3,hc3⟩:=Dx ra
 rw[Ac]at ra⊢
 have hne:¬((ah.length:Int)=(fr.length:Int)):=by omega
 refine callsIn_of_wp Tryz.func268 rfl trivial ?_ rfl
 simp only[Tryz.ntmps268,BD,Ax,Br,Nat.reduceAdd,Nat.reduceSub,CW,CV,DA,Dg,BC,AV]
 gi_wp2
 have hne':((ah.length:Int)==(fr.length:Int))=false:=by simpa using hne
 simp only[hne']
 gi_loopw [24] (λi wr=>∃(m:Nat) (S:List Nat),m<=to.length/\i=.int .i64 m/\J S (pre++Jy fr to k m ah) wr/\Grow O A S wr)
  (λi _=>to.length- (intOf i).toNat)
 case atStart=>exact⟨0,O,Am _,rfl,by simpa[Jy]using hj,Grow.refl hO⟩
 case round=>
  obtain⟨m,S,hm,rfl,hJs,hgs⟩:=hrel
  have hts:=hgs.tch
  by_cases hlt:m<to.length
  ·have hx:=Ab hlt
   generalize to[m]=x at hx
   have hah:ah.length<fr.length:=by omega
   have hy:=Ab hah
   generalize fr[ah.length]=y at hy
   rcases Mb rt with⟨h,_⟩|⟨b2,o2,c2',hv2,_,_,hb2,hbl2,hc2⟩
   ·subst h;simp at hlt
   rcases Mb rf with⟨h,_⟩|⟨b1,o1,c1',hv1,_,_,hb1,hbl1,hc1⟩
   ·subst h;simp at hah
   cases hv2
   cases hv1
   have e2:wr.cell? ⟨b2,o2+m,none⟩=some (.int .i64 x):=hts.cell (hc2 m x hx) hb2
   have e1:wr.cell? ⟨b1,o1+ah.length,none⟩=some (.int .i64 y):=hts.cell (hc1 ah.length y hy) hb1
   have HR:=FW (And.intro rf rt)
   clear hc1 hc2 rf rt
   have hmk:DH ah<2^8:=nF _ 8 (λj hj=>by have:=haj j hj;omega)
   have hbt:bits BinOp.and IntKind.u64 ((DH ah:Int)/2^m) 1=if m∈ah then 1 else 0:=by
    have h1:((DH ah:Int)/2^m)=((DH ah/2^m:Nat):Int):=by simp
    have h2:DH ah/2^m<=DH ah:=Nat.div_le_self _ _
    rw[h1,show(1:Int)=((1:Nat):Int)from rfl,bits_and_u64_nat _ _ (by omega) (by omega),AA2,aO]
    by_cases h:m∈ah<;>simp[h]
   have hou:=WB fr to k m ah
   rw[hx,hy]at hou
   by_cases hin:m∈ah
   ·rw[if_pos hin]at hbt
    have hou':Jy fr to k (m+1) ah=Jy fr to k m ah:=by rw[hou];simp[hin]
    gi_wp2
    go_roundw
    case rel=>exact⟨m+1,S,by omega,by simp,by rw[hou'];exact hJs,hgs⟩
    case measure=>simp[intOf];omega
   rw[if_neg hin]at hbt
   by_cases hxy:x=y
   ·subst hxy
    have hou':Jy fr to k (m+1) ah=Jy fr to k m ah++GN fr to k (ah++[m]):=by rw[hou];simp[hin]
    gi_wp2
    refine wpIn_wide.2 ?_
    refine Pu [58] [0,0,0,2,0,6,3,0,0,0,0,0,3,0] 3 5 [0,1,2,4,7,8,9,10,11,3,5,6,12,13] [0,0,0,4,0,28,60,0,0,256,896,0,4095,8191] [0,1,2,4,7,8,9,10,11,5,3,6,12,13] [0,0,0,52,0,16,60,0,0,256,896,0,4095,8191] (by kernel_rfl) (by decide) (by kernel_rfl) (by kernel_rfl) ?_ ?_
    ·intro w1 hT
     have HT:=FW hT
     clear hT
     go_wp2_with (first|(refine Cz rfl rfl rfl rfl (λ_ _=>?_)))
     refine EH rfl rfl rfl (λK1 hK1=>?_)
     go_wp2_with (go_at_call 58;refine((Zq w1 _ _ _ (by simpa using hn3) hc3).2).mono ?_;rintro e w' ⟨rfl,rfl⟩)
     refine hK1 _ _ (JT.refl _) ?_
     go_wp2_with (first|(refine Cz rfl rfl rfl rfl (λ_ _=>?_))|(refine Dw rfl rfl rfl (λ_ _=>?_)))
     have T1:Tch O A w':=hts.then0 HT.out
     have T2:Tch O A (w'.alloc (Obj.cells #[Value.int IntKind.i64 (m:Int)] 3)):=T1.andAlloc _
     have G2:Grow O A S (w'.alloc (Obj.cells #[Value.int IntKind.i64 (m:Int)] 3)):=hgs.trans (Grow.same ((HT.out.andAlloc _).mono (by simp)) hgs.lt)
     have hcell:(w'.alloc (Obj.cells #[Value.int IntKind.i64 (m:Int)] 3)).cell? ⟨w'.heap.size,0,none⟩=some (.int .i64 (m:Int)):=by
      simp only[World.cell?]
      rw[World.alloc_heap_new];rfl
     have ra2:=ra.later G2.later
     have hla:(ah.map λj:Nat=>(j:Int)).length=ah.length:=Ac _
     rw[<-hla]at ra2
     obtain⟨va,w3,ha1,ha2,ha3⟩:=V1 G2.lt (by rw[hla];omega) ra2 hcell 22
     rw[hla]at ha1
     refine Hf rfl rfl rfl (λK2 hK2=>?_)
     refine JU rfl rfl rfl ha1 (hK2 _ _ ?_)
     refine Hf rfl rfl rfl (λK3 hK3=>?_)
     have hor:=nE hmk (show m<8 by omega)
     have hpre2:pre++Jy fr to k m ah++GN fr to k (ah++[m])<+:XS:=by
      rw[Bk,<-hou']
      refine List.IsPrefix.trans ?_ hpre
      rw[<-Mn]
      exact(V9 _).2 (Mm fr to k ah (by omega))
     have hpre3:Jy fr to k m ah++GN fr to k (ah++[m])<+:GN fr to (k+1) ah:=by
      rw[<-hou',<-Mn]
      exact Mm fr to k ah (by omega)
     have ha2':Rep S w3 (DU ((ah++[m]).map λj:Nat=>(j:Int))) va:=by rw[A7];exact ha2
     have G3:Grow O A S w3:=G2.trans (Grow.same (ha3.mono (by simp)) G2.lt)
     have hcs:=ih (ah++[m]) (by rw[Ah,B8];omega) (λj hj=>by
      rcases Ag.1 hj with hj|hj
      ·exact haj j hj
      ·rw[As.1 hj];exact hlt) h8 h8' l XS J Jx hJ hY S w3 _ _ va (pre++Jy fr to k m ah) G3.lt (λg hg=>(hgl g hg).later G3.later) (HR.out.1.later G3.later) (HR.out.2.later G3.later) ha2' (hJ _ _ _ _ hJs ((HT.out.andAlloc _).then0 ha3)) hpre2
     have hcs:=callsIn_wide.1 hcs
     go_wp2_with (go_at_call 268;refine Calls.mono hcs ?_;rintro e B ⟨S',hgB,⟨rfl,hj3⟩|⟨rfl,q,hq,hx3⟩⟩)
     ·go_wp2_with (first|(refine Cz rfl rfl rfl rfl (λ_ _=>?_))|refine GI ?_)
      gi_wp2
      go_roundw
      case rel=>exact⟨m+1,S',by omega,by simp,by rw[hou',<-Bk];exact hj3,G3.trans hgB⟩
      case measure=>simp[intOf];omega
     ·go_wp2_with (first|(refine Cz rfl rfl rfl rfl (λ_ _=>?_))|refine GI ?_)
      gi_wp2
      go_ret
      exact⟨S',G3.trans hgB,.inr ⟨rfl,Jy fr to k m ah++q,((V9 _).2 hq).trans hpre3,by rw[<-Bk];exact hx3⟩⟩
    ·intro w1 hT
     have HT:=FW hT
     clear hT
     go_wp2_with (first|(refine Cz rfl rfl rfl rfl (λ_ _=>?_))|(refine Dw rfl rfl rfl (λ_ _=>?_)))
     refine EH rfl rfl rfl (λK1 hK1=>?_)
     go_wp2_with (go_at_call 58;refine((Zq _ _ _ _ (by simpa using hn3) hc3).2).mono ?_;rintro e w' ⟨rfl,rfl⟩)
     refine hK1 _ _ (JT.refl _) ?_
     have T1:Tch O A w1:=hts.then0 HT.out
     have T2:Tch O A (w1.alloc (Obj.cells #[Value.int IntKind.i64 (m:Int)] 3)):=T1.andAlloc _
     have G2:Grow O A S (w1.alloc (Obj.cells #[Value.int IntKind.i64 (m:Int)] 3)):=hgs.trans (Grow.same ((HT.out.andAlloc _).mono (by simp)) hgs.lt)
     have hcell:(w1.alloc (Obj.cells #[Value.int IntKind.i64 (m:Int)] 3)).cell? ⟨w1.heap.size,0,none⟩=some (.int .i64 (m:Int)):=by
      simp only[World.cell?]
      rw[World.alloc_heap_new];rfl
     have ra2:=ra.later G2.later
     have hla:(ah.map λj:Nat=>(j:Int)).length=ah.length:=Ac _
     rw[<-hla]at ra2
     obtain⟨va,w3,ha1,ha2,ha3⟩:=V1 G2.lt (by rw[hla];omega) ra2 hcell 22
     rw[hla]at ha1
     refine Hf rfl rfl rfl (λK2 hK2=>?_)
     refine JU rfl rfl rfl ha1 (hK2 _ _ ?_)
     refine Hf rfl rfl rfl (λK3 hK3=>?_)
     have hor:=nE hmk (show m<8 by omega)
     have hpre2:pre++Jy fr to k m ah++GN fr to k (ah++[m])<+:XS:=by
      rw[Bk,<-hou']
      refine List.IsPrefix.trans ?_ hpre
      rw[<-Mn]
      exact(V9 _).2 (Mm fr to k ah (by omega))
     have hpre3:Jy fr to k m ah++GN fr to k (ah++[m])<+:GN fr to (k+1) ah:=by
      rw[<-hou',<-Mn]
      exact Mm fr to k ah (by omega)
     have ha2':Rep S w3 (DU ((ah++[m]).map λj:Nat=>(j:Int))) va:=by rw[A7];exact ha2
     have G3:Grow O A S w3:=G2.trans (Grow.same (ha3.mono (by simp)) G2.lt)
     have hcs:=ih (ah++[m]) (by rw[Ah,B8];omega) (λj hj=>by
      rcases Ag.1 hj with hj|hj
      ·exact haj j hj
      ·rw[As.1 hj];exact hlt) h8 h8' l XS J Jx hJ hY S w3 _ _ va (pre++Jy fr to k m ah) G3.lt (λg hg=>(hgl g hg).later G3.later) (HR.out.1.later G3.later) (HR.out.2.later G3.later) ha2' (hJ _ _ _ _ hJs ((HT.out.andAlloc _).then0 ha3)) hpre2
     have hcs:=callsIn_wide.1 hcs
     go_wp2_with (go_at_call 268;refine Calls.mono hcs ?_;rintro e B ⟨S',hgB,⟨rfl,hj3⟩|⟨rfl,q,hq,hx3⟩⟩)
     ·go_wp2_with (first|(refine Cz rfl rfl rfl rfl (λ_ _=>?_))|refine GI ?_)
      gi_wp2
      go_roundw
      case rel=>exact⟨m+1,S',by omega,by simp,by rw[hou',<-Bk];exact hj3,G3.trans hgB⟩
      case measure=>simp[intOf];omega
     ·go_wp2_with (first|(refine Cz rfl rfl rfl rfl (λ_ _=>?_))|refine GI ?_)
      gi_wp2
      go_ret
      exact⟨S',G3.trans hgB,.inr ⟨rfl,Jy fr to k m ah++q,((V9 _).2 hq).trans hpre3,by rw[<-Bk];exact hx3⟩⟩
   ·have hou':Jy fr to k (m+1) ah=Jy fr to k m ah:=by rw[hou];simp[hxy]
    gi_wp2
    go_roundw
    case rel=>exact⟨m+1,S,by omega,by simp,by rw[hou'];exact hJs,hgs⟩
    case measure=>simp[intOf];omega
  ·obtain rfl:m=to.length:=by omega
   rw[Mn]at hJs
   gi_wp2
   go_ret
   exact⟨S,hgs,.inl ⟨rfl,hJs⟩⟩
theorem TN(fr to:List Int):∀k,QF fr to k
 |0=>Zn fr to
 |k+1=>Zo fr to k (TN fr to k)
end Go.Proofs.YtjpmmkodoeipmaaGreatDoor
end
section
namespace Go.Proofs.YtjpmmkodoeipmaaGreatDoor
open Go.Sx Go.RowKit Go.Reg Go.Gr
set_option maxRecDepth 100000
def Ya(p:Pt)(labels:List Int):Da:=.func (.func 267) [] [.ref (FC p),.ref (Bh labels)]
set_option maxHeartbeats 1000000 in
theorem Uw {p:Pt} {labels:List Int}(h8:p.labels.length<=8)(h8':labels.length<=8) {O:List Nat} {l:Nat} {W:World} {fv:Value}(hO:∀b∈O,b<W.heap.size)(hg:Glob C1 O W)(hr:Rep O W (Ya p labels) fv):
  oI C1 fv (GN p.labels labels p.labels.length []) O l W:=by
 obtain⟨cs,r,rfl⟩:=hr
 simp only[Ya,RepC,Aq,FC]at r
 obtain⟨fs,cs',rfl,⟨k1,k2,rfl,⟨b1,o1,c1,rfl,hb1,hs1,⟨d1,d2,rfl,hd1,hd2⟩,hc1⟩,k3,k4,rfl,⟨b2,o2,c2,rfl,hb2,hs2,hd3,hc2⟩,rfl⟩,rfl⟩:=r
 obtain⟨v1,rfl,rv1⟩:∃v1,d1=[v1]/\Rep O W (DU p.labels) v1:=by
  have hd1':=hd1
  simp only[Bh,RepC]at hd1
  obtain⟨a,c,css,rfl,_⟩:=hd1
  exact⟨_,rfl,_,hd1',rfl⟩
 obtain⟨v2,rfl,rv2⟩:∃v2,c2=[v2]/\Rep O W (DU labels) v2:=by
  have hd3':=hd3
  simp only[Bh,RepC]at hd3
  obtain⟨a,c,css,rfl,_⟩:=hd3
  exact⟨_,rfl,_,hd3',rfl⟩
 have e1:W.cell? ⟨b1,o1,none⟩=some v1:=hc1 0 v1 rfl
 have e2:W.cell? ⟨b2,o2,none⟩=some v2:=hc2 0 v2 rfl
 refine⟨267,#[.pointer (some ⟨b1,o1,none⟩),.pointer (some ⟨b2,o2,none⟩)],rfl,λ_ _=>rfl,?_⟩
 intro J Jx hJ hJx hY hj
 have hj:=hj [] (by simp)
 have hJ:=hJ []
 have hY:=hY []
 have hcs:=TN p.labels labels p.labels.length [] (by simp) (by simp) h8 h8' l (GN p.labels labels p.labels.length []) (λS pre A=>J [] S pre A/\W.heap.size<=A.heap.size) (Jx []) (λS pre A B h t=>⟨hJ S pre A B (by simp) h.1 t,BI h.2 t.size⟩) (λS pre x v A hS h hp hx=>by
   have:=hY S pre x v A (by simp) hS h.1 hp (by rw[Cq];exact hx) ⟨h.2,by simp⟩
   obtain⟨fn,tmps,assign,body,hy,hR⟩:=this
   exact⟨fn,tmps,assign,body,hy,hR.mono λe B ⟨S',hg,hh⟩=>⟨S',hg,hh.imp (λ⟨h1,h2⟩=>⟨h1,h2,BI h.2 hg.tch.size⟩) id⟩⟩) O W v1 v2 (.slice none 0 0) [] hO hg rv1 rv2 ⟨_,by simp only[DU,Bt,RepC];exact⟨none,0,[],rfl,by simp,by unfold maxLen;omega,by simp[Aq],by simp,.inl trivial⟩,rfl⟩ ⟨hj,Ay _⟩ (by simp)
 rw[show((DH []:Nat):Int)=0 from rfl,BC]at hcs
 show CallsIn Fence.wide 3 Tryz.prog 267 _ W _
 refine callsIn_of_wp Tryz.func267 rfl trivial ?_ rfl
 clear hc1 hc2 hd1 hd2 hd3
 simp only[Tryz.ntmps267,BD,Ax,Br,Nat.reduceAdd,Nat.reduceSub,CW,CV,DA,Dg,BC,AV]
 gi_wp2_with (refine⟨trivial,?_⟩;gi_at_call 268;refine(callsIn_wide.2 (callsIn_wide.1 hcs)).mono ?_;rintro e B ⟨S',hgB,⟨rfl,hj3,_⟩|⟨rfl,q,hq,hx3⟩⟩)
 ·gi_wp2
  refine bodyPost_end (results_none rfl _ _ _) rfl ?_
  exact⟨⟨_,rfl⟩,[],S',by simp,by rw[Cq];exact hgB.tch,hgB.new,.inl hj3⟩
 ·gi_wp2
  refine bodyPost_end (results_none rfl _ _ _) rfl ?_
  exact⟨⟨_,rfl⟩,[],S',by simp,by rw[Cq];exact hgB.tch,hgB.new,.inr ⟨q,hq,hx3⟩⟩
end Go.Proofs.YtjpmmkodoeipmaaGreatDoor
end
