/- Map. -/
import Derived.Test.YtjpmmkodoeipmaaGreatDoorrkaf
namespace Go.Reg
open Go Go.RowKit
section
variable {K V:Type}(P:Program)(kt:TypeId)(encK:K->Value)(encV:V->Value)
structure KeyOk [DecidableEq K]:Prop where
 check:∀(em:Bool) (k:K) (w:World),(Instr.checkKey em 10000 kt (encK k)).run P w=.ok () w
 find:∀(k:K) (es:List MapEntry) (ks:List K) (w:World),es.map (·.key)=ks.map encK->
  (Instr.findKey kt (encK k) es).run P w=.ok ((ks.findIdx? (· ==k)).bind λi=>(es[i]?).map λe=>(i,e.val)) w
 stays:∀(k:K) (w:World),(Instr.keyThatStays (encK k) (encK k)).run P w=.ok (encK k) w
def CK(encK:K->Value)(encV:V->Value)(w:World)(b:Nat)(l:List (K×V)):Prop:=
 ∃es clock,w.heap[b]? =some (.map es clock)/\es.toList.map (·.key)=l.map (λp=>encK p.1)/\es.toList.map (·.val)=l.map (λp=>encV p.2)/\
  es.toList.Pairwise (λx y=>x.born<y.born)/\(∀e∈es.toList,e.born<clock)/\(l.map (·.1)).Nodup
def get [DecidableEq K](l:List (K×V))(k:K):Option V:=(l.find? (λp=>p.1==k)).map (·.2)
def put [DecidableEq K](l:List (K×V))(k:K)(v:V):List (K×V):=match(l.map (·.1)).findIdx? (· ==k)with
 |some i=>l.set i (k,v)
 |none=>l++[(k,v)]
def Vh [DecidableEq K](l:List (K×V))(k:K)(z:V):List (K×V):=match(l.map (·.1)).findIdx? (· ==k)with
 |some _=>l
 |none=>l++[(k,z)]
variable {P kt encK encV}
theorem CK.lt {w:World} {b:Nat} {l:List (K×V)}(h:CK encK encV w b l):b<w.heap.size:=by
 obtain⟨es,c,h,_⟩:=h;exact(Ak.1 h).1
theorem CK.keep {S:List Nat} {w w':World} {b:Nat} {l:List (K×V)}(h:CK encK encV w b l)(t:Tch S w w')(hn:b∉S):CK encK encV w' b l:=by
 have hl:=h.lt
 obtain⟨es,c,h,r⟩:=h
 exact⟨es,c,by rw[t.blk b hl hn];exact h,r⟩
theorem CK.ext {w w':World} {b:Nat} {l:List (K×V)}(h:CK encK encV w b l)(t:Kb w w'):CK encK encV w' b l:=by
 obtain⟨es,c,h,r⟩:=h
 exact⟨es,c,t.of_some h,r⟩
theorem CK.new(encK:K->Value)(encV:V->Value)(w:World):CK encK encV (w.alloc (.map #[] 0)) w.heap.size ([]:List (K×V)):=
 ⟨#[],0,(YG w _).1,by simp,by simp,by simp,by simp,by simp⟩
theorem CK.ne {w:World} {b c:Nat} {l:List (K×V)}(h:CK encK encV w b l) {T:TypeId} {cs:List Value}(k:IV w c T cs):b≠c:=by
 intro e;subst e
 obtain⟨es,c,h,_⟩:=h
 unfold IV at k
 rw[h]at k;cases k
theorem nJ {es:List MapEntry} {l:List (K×V)}(h:es.map (·.key)=l.map (λp=>encK p.1)):es.length=l.length:=by
 have:=congrArg List.length h;simpa using this
variable [DecidableEq K]
theorem Ft(l:List (K×V))(k:K):∀i,(l.map (·.1)).findIdx? (· ==k)=some i->∃p,l[i]? =some p/\p.1=k/\get l k=some p.2:=by
 induction l with
 |nil=>intro i h;simp at h
 |
  cons q l ih=>
  intro i h
  simp only[Ar,YI]at h
  by_cases hq:q.1=k
  ·simp only[hq,beq_self_eq_true,if_true,AB]at h
   subst h
   exact⟨q,rfl,hq,by simp[get,hq]⟩
  ·have hb:(q.1==k)=false:=by simpa using hq
   simp only[hb,CL,if_false,Cl]at h
   obtain⟨j,hj,rfl⟩:=h
   obtain⟨p,h1,h2,h3⟩:=ih j hj
   exact⟨p,by simpa using h1,h2,by simpa[get,hq]using h3⟩
theorem IH(l:List (K×V))(k:K)(h:(l.map (·.1)).findIdx? (· ==k)=none):get l k=none/\l.any (λp=>p.1==k)=false:=by
 rw[Be]at h
 constructor
 ·simp only[get,AAA,List.find?_eq_none]
  intro p hp
  simpa using h p.1 (Co hp)
 ·simp only[List.any_eq_false]
  intro p hp
  simpa using h p.1 (Co hp)
theorem CK.lookup {w:World} {b:Nat} {l:List (K×V)}(h:CK encK encV w b l)(hk:KeyOk P kt encK) {t et:TypeId}(ht:P.underlying t=some (.map kt et)) {z:Value}(hz:∀w,(zeroValue et).run P w=.ok z w)(k:K)(ok:Bool):
  (Instr.lookup t (.map (some b)) (encK k) ok).run P w=.ok (if ok then .tuple #[((get l k).map encV).getD z,.bool (get l k).isSome]else((get l k).map encV).getD z) w:=by
 obtain⟨es,c,h,h1,h2,h3,h4,h5⟩:=h
 have hf:=hk.find k es.toList (l.map (·.1)) w (by rw[h1];simp)
 have hg:∀w',w'=w->(getObj b).run P w'=.ok (.map es c) w':=λw' e=>by subst e;simp[getObj,Sem.run,h]
 simp only[Instr.lookup,AK,run_underlying ht,AF,hg w rfl,Bo,hk.check,hf]
 cases hi:(l.map (·.1)).findIdx? (· ==k)with
 |
  none=>
  obtain⟨hn,_⟩:=IH l k hi
  simp[hn,hz]
 |
  some i=>
  obtain⟨p,hp,_,hgt⟩:=Ft l k i hi
  have he:(es.toList.map (·.val))[i]? =some (encV p.2):=by rw[h2];simp[hp]
  simp only[Ad,Cl]at he
  obtain⟨e,he,hev⟩:=he
  have he':es[i]? =some e:=by simpa using he
  simp[he',hgt,hev]
theorem CK.look {w:World} {b:Nat} {l:List (K×V)}(h:CK encK encV w b l)(hk:KeyOk P kt encK) {t et:TypeId}(ht:P.underlying t=some (.map kt et)) {z:V}(hz:∀w,(zeroValue et).run P w=.ok (encV z) w)(k:K):
  (Instr.lookup t (.map (some b)) (encK k) false).run P w=.ok (encV ((get l k).getD z)) w:=by
 rw[h.lookup hk ht hz k false]
 cases get l k<;>rfl
def World.obj(w:World)(b:Nat)(o:Obj):World:={w with heap:=w.heap.setIfInBounds b o}
theorem Nb(w:World)(b:Nat)(o:Obj):Tch [b] w (World.obj w b o):=
 ⟨rfl,rfl,rfl,by simp[World.obj],λk hk hn=>by
  have:b≠k:=λe=>hn (by simp[e])
  simp[World.obj,Array.getElem?_setIfInBounds_ne this]⟩
theorem Uy {w:World} {b:Nat}(h:b<w.heap.size)(o:Obj):(World.obj w b o).heap[b]? =some o:=by simp[World.obj,h]
theorem Ov {w:World} {b:Nat} {o':Obj}(h:w.heap[b]? =some o')(hm:∀c t f,o'≠.cells c t f)(o:Obj):(setObj b o).run P w=.ok () (World.obj w b o):=by
 simp only[setObj,Sem.run,h]
 cases o'<;>first|rfl|exact absurd rfl (hm _ _ _)
theorem P6 {α:Type} {l:List α} {i:Nat} {x:α}(h:l[i]? =some x):l.set i x=l:=by
 apply Cb
 intro j
 rw[Bf]
 split
 ·rename_i e;subst e
  have:=(Ae.1 h).1
  simp[this,(Ae.1 h).2]
 ·rfl
structure Holds(encK:K->Value)(encV:V->Value)(es:Array MapEntry)(clock:Nat)(l:List (K×V)):Prop where
 keys:es.toList.map (·.key)=l.map (λp=>encK p.1)
 vals:es.toList.map (·.val)=l.map (λp=>encV p.2)
 born:es.toList.Pairwise (λx y=>x.born<y.born)
 clock:∀e∈es.toList,e.born<clock
 nodup:(l.map (·.1)).Nodup
omit [DecidableEq K]in
theorem CK.holds {w:World} {b:Nat} {l:List (K×V)}:CK encK encV w b l↔∃es clock,w.heap[b]? =some (.map es clock)/\Holds encK encV es clock l:=
 ⟨λ⟨es,c,h,h1,h2,h3,h4,h5⟩=>⟨es,c,h,h1,h2,h3,h4,h5⟩,λ⟨es,c,h,h1,h2,h3,h4,h5⟩=>⟨es,c,h,h1,h2,h3,h4,h5⟩⟩
omit [DecidableEq K]in
theorem Holds.at_ {es:Array MapEntry} {c:Nat} {l:List (K×V)}(h:Holds encK encV es c l) {i:Nat} {p:K×V}(hi:l[i]? =some p):∃e,es.toList[i]? =some e/\e.key=encK p.1/\e.val=encV p.2:=by
 have h1:(es.toList.map (·.key))[i]? =some (encK p.1):=by rw[h.keys];simp[hi]
 have h2:(es.toList.map (·.val))[i]? =some (encV p.2):=by rw[h.vals];simp[hi]
 simp only[Ad,Cl]at h1 h2
 obtain⟨e,he,h1⟩:=h1
 obtain⟨e',he',h2⟩:=h2
 rw[he]at he';cases he'
 exact⟨e,he,h1,h2⟩
theorem Holds.push {es:Array MapEntry} {c:Nat} {l:List (K×V)}(h:Holds encK encV es c l)(k:K)(v:V)(hn:(l.map (·.1)).findIdx? (· ==k)=none):
  Holds encK encV (es.push {key:=encK k,val:=encV v,born:=c}) (c+1) (l++[(k,v)]):=by
 refine⟨by simp[h.keys],by simp[h.vals],?_,?_,?_⟩
 ·simp only[Array.toList_push]
  refine Dr.2 ⟨h.born,by simp,λa ha b hb=>?_⟩
  simp at hb;subst hb
  exact h.clock a ha
 ·intro e he
  simp only[Array.toList_push,Ag,As]at he
  rcases he with he|rfl
  ·have:=h.clock e he;omega
  ·simp
 ·simp only[A7,Ar,Bu]
  refine Dm.2 ⟨h.nodup,by simp,λa ha b hb=>?_⟩
  simp at hb;subst hb
  rw[Be]at hn
  have:=hn a ha
  simpa using this
theorem Holds.set {es:Array MapEntry} {c:Nat} {l:List (K×V)}(h:Holds encK encV es c l)(k:K)(v:V) {i:Nat}(hi:(l.map (·.1)).findIdx? (· ==k)=some i) {g:MapEntry->MapEntry}
  (hg:∀e,es.toList[i]? =some e->(g e).key=e.key/\(g e).val=encV v/\(g e).born=e.born):Holds encK encV (es.modify i g) c (l.set i (k,v)):=by
 obtain⟨p,hp,hk,_⟩:=Ft l k i hi
 obtain⟨e,he,hek,hev⟩:=h.at_ hp
 obtain⟨g1,g2,g3⟩:=hg e he
 have hm:(es.modify i g).toList=es.toList.set i (g e):=by
  apply Cb
  intro j
  rw[ACN,C9,Bf]
  by_cases hj:i=j
  ·subst hj
   have hlt:=(Ae.1 he).1
   have he':es[i]? =some e:=by simpa using he
   have:i<es.size:=by simpa using hlt
   have e1:es[i]=e:=by rw[BS this]at he';simpa using he'
   simp[this,e1]
  ·simp[hj]
 have hb:((es.modify i g).toList.map (·.born))=es.toList.map (·.born):=by
  rw[hm,Dz,g3]
  exact P6 (by simp[he])
 refine⟨?_,?_,?_,?_,?_⟩
 ·rw[hm,Dz,Dz,h.keys,g1,hek,hk]
 ·rw[hm,Dz,Dz,h.vals,g2]
 ·have:=h.born
  rw[<-B7 (f:=λe:MapEntry=>e.born) (R:=λx y=>x<y)]at this⊢
  rw[hb];exact this
 ·intro x hx
  have:x.born∈(es.modify i g).toList.map (·.born):=Co hx
  rw[hb]at this
  obtain⟨y,hy,e2⟩:=An.1 this
  rw[<-e2];exact h.clock y hy
 ·rw[Dz]
  have:(l.map (·.1)).set i k=l.map (·.1):=by
   exact P6 (by simp[hp,hk])
  simp only at this⊢
  rw[this];exact h.nodup
theorem CK.update {w:World} {b:Nat} {l:List (K×V)}(h:CK encK encV w b l)(hk:KeyOk P kt encK) {t et:TypeId}(ht:P.underlying t=some (.map kt et))(k:K)(v:V):
  ∃w',(Instr.mapUpdate t (.map (some b)) (encK k) (encV v)).run P w=.ok () w'/\CK encK encV w' b (put l k v)/\Tch [b] w w':=by
 have hlt:=h.lt
 obtain⟨es,c,h,H⟩:=CK.holds.1 h
 have hf:=hk.find k es.toList (l.map (·.1)) w (by rw[H.keys];simp)
 have hg:(getObj b).run P w=.ok (.map es c) w:=by simp[getObj,Sem.run,h]
 have hs:∀o,(setObj b o).run P w=.ok () (World.obj w b o):=λo=>Ov h (by intros;simp) o
 simp only[Instr.mapUpdate,AK,run_underlying ht,AF,hg,hk.check,hf]
 cases hi:(l.map (·.1)).findIdx? (· ==k)with
 |
  none=>
  refine⟨World.obj w b (.map (es.push {key:=encK k,val:=encV v,born:=c}) (c+1)),by simp[hs],?_,Nb _ _ _⟩
  refine CK.holds.2 ⟨_,_,Uy hlt _,?_⟩
  simp only[put,hi]
  exact H.push k v hi
 |
  some i=>
  obtain⟨p,hp,hpk,_⟩:=Ft l k i hi
  obtain⟨e,he,hek,hev⟩:=H.at_ hp
  have he':es[i]? =some e:=by simpa using he
  have hst:(Instr.keyThatStays e.key (encK k)).run P w=.ok (encK k) w:=by rw[hek,hpk];exact hk.stays k w
  refine⟨World.obj w b (.map (es.modify i λe=>{e with key:=encK k,val:=encV v}) c),by simp[he',hst,hs],?_,Nb _ _ _⟩
  refine CK.holds.2 ⟨_,_,Uy hlt _,?_⟩
  simp only[put,hi]
  refine H.set k v hi λe2 he2=>?_
  rw[he]at he2;cases he2
  exact⟨by rw[hek,hpk],rfl,rfl⟩
def JN(encK:K->Value)(encV:V->Value)(w:World)(b:Nat)(l:List (K×V))(k:K)(n:Nat):Prop:=
 ∃es clock,w.heap[b]? =some (.map es clock)/\Holds encK encV es clock l/\∃i e,(l.map (·.1)).findIdx? (· ==k)=some i/\es.toList[i]? =some e/\e.born=n
theorem JN.map {w:World} {b:Nat} {l:List (K×V)} {k:K} {n:Nat}(h:JN encK encV w b l k n):CK encK encV w b l:=by
 obtain⟨es,c,h1,h2,_⟩:=h;exact CK.holds.2 ⟨es,c,h1,h2⟩
theorem JN.keep {S:List Nat} {w w':World} {b:Nat} {l:List (K×V)} {k:K} {n:Nat}(h:JN encK encV w b l k n)(t:Tch S w w')(hn:b∉S):JN encK encV w' b l k n:=by
 have hl:=h.map.lt
 obtain⟨es,c,h,r⟩:=h
 exact⟨es,c,by rw[t.blk b hl hn];exact h,r⟩
theorem Ve {ks:List K} {k:K}(hn:ks.findIdx? (· ==k)=none):(ks++[k]).findIdx? (· ==k)=some ks.length:=by
 rw[List.findIdx?_append,hn];simp
theorem CK.entry {w:World} {b:Nat} {l:List (K×V)}(h:CK encK encV w b l)(hk:KeyOk P kt encK) {t et:TypeId}(ht:P.underlying t=some (.map kt et))(k:K) {z:V}(hz:∀w,(zeroValue et).run P w=.ok (encV z) w):
  ∃(w':World) (n:Nat),(Instr.mapEntry t (.map (some b)) (encK k)).run P w=.ok (.tuple #[encV ((get l k).getD z),goInt n]) w'/\JN encK encV w' b (Vh l k z) k n/\Tch [b] w w':=by
 have hlt:=h.lt
 obtain⟨es,c,h,H⟩:=CK.holds.1 h
 have hf:=hk.find k es.toList (l.map (·.1)) w (by rw[H.keys];simp)
 have hg:(getObj b).run P w=.ok (.map es c) w:=by simp[getObj,Sem.run,h]
 have hs:∀o,(setObj b o).run P w=.ok () (World.obj w b o):=λo=>Ov h (by intros;simp) o
 simp only[Instr.mapEntry,AK,run_underlying ht,AF,hg,hk.check,hf]
 cases hi:(l.map (·.1)).findIdx? (· ==k)with
 |
  none=>
  obtain⟨hn,_⟩:=IH l k hi
  refine⟨World.obj w b (.map (es.push {key:=encK k,val:=encV z,born:=c}) (c+1)),c,by simp[hz,hs,hn],?_,Nb _ _ _⟩
  refine⟨_,_,Uy hlt _,?_,es.size,{key:=encK k,val:=encV z,born:=c},?_,?_,rfl⟩
  ·simp only[Vh,hi];exact H.push k z hi
  ·simp only[Vh,hi,A7,Ar,Bu]
   rw[Ve hi]
   have:=nJ H.keys
   simp at this
   simp[this]
  ·simp
 |
  some i=>
  obtain⟨p,hp,hpk,hgt⟩:=Ft l k i hi
  obtain⟨e,he,hek,hev⟩:=H.at_ hp
  have he':es[i]? =some e:=by simpa using he
  have hst:(Instr.keyThatStays e.key (encK k)).run P w=.ok (encK k) w:=by rw[hek,hpk];exact hk.stays k w
  refine⟨World.obj w b (.map (es.modify i λe=>{e with key:=encK k}) c),e.born,by simp[he',hst,hs,hgt,hev],?_,Nb _ _ _⟩
  have hl:l.set i (k,p.2)=l:=P6 (by rw[hp,<-hpk])
  have H2:=H.set k p.2 hi (g:=λe=>{e with key:=encK k}) (λe2 he2=>by rw[he]at he2;cases he2;exact⟨by rw[hek,hpk],hev,rfl⟩)
  rw[hl]at H2
  refine⟨_,_,Uy hlt _,by simp only[Vh,hi];exact H2,i,{e with key:=encK k},by simp only[Vh,hi],?_,rfl⟩
  have hlt2:=(Ae.1 he).1
  have h3:i<es.size:=by simpa using hlt2
  have e1:es[i]=e:=by rw[BS h3]at he';simpa using he'
  rw[ACN,C9]
  simp[h3,e1]
theorem SI {l:List (K×V)} {k:K} {v:V}(h:get l k=none):get (l++[(k,v)]) k=some v:=by
 simp only[get,AAA]at h
 simp[get,List.find?_append,h]
theorem JN.store {w:World} {b:Nat} {l:List (K×V)} {k:K} {n:Nat}(h:JN encK encV w b l k n)(t:TypeId)(v:V):
  ∃w',(Instr.entryStore t (.map (some b)) (goInt n) (encV v)).run P w=.ok () w'/\CK encK encV w' b (put l k v)/\Tch [b] w w':=by
 have hlt:=h.map.lt
 obtain⟨es,c,h,H,i,e,hi,he,hn⟩:=h
 have hg:(getObj b).run P w=.ok (.map es c) w:=by simp[getObj,Sem.run,h]
 have hs:∀o,(setObj b o).run P w=.ok () (World.obj w b o):=λo=>Ov h (by intros;simp) o
 have hlt2:=(Ae.1 he).1
 have h3:i<es.size:=by simpa using hlt2
 have he':es[i]? =some e:=by simpa using he
 have e1:es[i]=e:=by rw[BS h3]at he';simpa using he'
 have hidx:es.findIdx? (λe=>(e.born:Int)==n)=some i:=by
  rw[Array.findIdx?_eq_some_iff_getElem]
  refine⟨h3,by simp[e1,hn],λj hj=>?_⟩
  have hb:=AO.1 H.born j i (by simp;omega) hlt2 hj
  have e2:es.toList[i]=e:=by rw[Ab hlt2]at he;simpa using he
  rw[e2]at hb
  simp at hb⊢
  omega
 refine⟨World.obj w b (.map (es.modify i λe=>{e with val:=encV v}) c),by simp[Instr.entryStore,hg,asInt,asIntOf,goInt,hidx,hs],?_,Nb _ _ _⟩
 refine CK.holds.2 ⟨_,_,Uy hlt _,?_⟩
 simp only[put,hi]
 exact H.set k v hi λe2 he2=>⟨rfl,rfl,rfl⟩
omit [DecidableEq K]in
theorem CK.len {w:World} {b:Nat} {l:List (K×V)}(h:CK encK encV w b l) {t k e:TypeId}(ht:P.underlying t=some (.map k e))(ty:TypeId):
  (Builtin.len_ #[t] ty #[.map (some b)]).run P w=.ok (.int .i64 l.length) w:=by
 obtain⟨es,c,h,H⟩:=CK.holds.1 h
 have hl:=nJ H.keys
 have hl':es.size=l.length:=by simpa using hl
 simp[Builtin.len_,run_underlying ht,getObj,Sem.run,h,goInt,hl']
theorem Md {kt:TypeId}(heq:∀(k k':K) (w:World),(Op.equal kt (encK k) (encK k')).run P w=.ok (k==k') w)(k:K)(w:World):∀(es:List MapEntry) (ks:List K) (j:Nat),es.map (·.key)=ks.map encK->
  (Instr.findAsking kt (encK k) es j).run P w=.ok ((ks.findIdx? (· ==k)).bind λi=>(es[i]?).map λe=>(j+i,e.val)) w
 |[],[],j,_=>by simp[Instr.findAsking]
 |[],k'::ks,j,h=>by simp at h
 |e::es,[],j,h=>by simp at h
 |
  e::es,k'::ks,j,h=>by
  simp only[Ar,D2]at h
  have ih:=Md heq k w es ks (j+1) h.2
  simp only[Instr.findAsking,AK,h.1,heq,AF,YI]
  by_cases hk:k=k'
  ·subst hk;simp
  ·have h1:(k==k')=false:=by simpa using hk
   have h2:(k'==k)=false:=by simpa usingλh=>hk h.symm
   simp only[h1,h2,CL,if_false,ih]
   cases ks.findIdx? (· ==k)with
   |none=>rfl
   |some i=>simp[Hv,AAD 1 i]
theorem KeyOk.of_equal {d:TypeDesc}(hu:P.underlying kt=some d)(hnow:∀k k',Instr.sameNow d (encK k) (encK k')=none)
  (hchk:∀em k w,(Instr.checkKey em 10000 kt (encK k)).run P w=.ok () w) (heq:∀(k k':K) (w:World),(Op.equal kt (encK k) (encK k')).run P w=.ok (k==k') w)
  (hbits:∀k,Instr.sameBits 10000 (encK k) (encK k)=true):KeyOk P kt encK:=by
 refine⟨hchk,λk es ks w h=>?_,λk w=>by simp[Instr.keyThatStays,hbits]⟩
 simp only[Instr.findKey,AK,run_underlying hu,AF]
 cases es with
 |
  nil=>
  have:ks=[]:=by simpa using h.symm
  subst this
  simp[Instr.findNow]
 |
  cons e es=>
  obtain⟨k',ks',rfl⟩:∃k' ks',ks=k'::ks':=by cases ks with|nil=>simp at h|cons k' ks'=>exact⟨k',ks',rfl⟩
  have he:e.key=encK k':=by simp at h;exact h.1
  have hn:Instr.findNow d (encK k) (e::es) 0=none:=by simp[Instr.findNow,he,hnow]
  rw[hn]
  have:=Md heq k w (e::es) (k'::ks') 0 h
  simpa using this
end
end Go.Reg
