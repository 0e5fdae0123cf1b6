/- Merged: Rng Tri Eat Tba Lse Srt Gre Pso Bit Prm Prn Pin Ptu Ptv Itr Sea Cpa Cpb. -/
import Derived.Test.YtjejpdfldmempaaGreatDoorltag
import Derived.Maps.RangeRun
import Derived.Test.YtjejpdfldmempaaGreatDoorltas
import Derived.Test.YtjejpdfldmempaaGreatDoorltaq
import Derived.Test.YtjejpdfldmempaaGreatDoorltan
import Derived.Shelf.SlSortCmp.WholeK
import Derived.Test.YtjejpdfldmempaaGreatDoorRows
import Derived.Test.YtjejpdfldmempaaGreatDoorltah
import Derived.Shelf.SlSortCmp.NoneTotal
import Derived.Test.YtjejpdfldmempaaGreatDoorltar
import Derived.RangeFuncNested
section
namespace Go.Reg
open Go Go.RowKit
section
variable {K V:Type} {P:Program} {encK:K->Value} {encV:V->Value}
def MO(es:List MapEntry)(l:List (K×V))(seen:Array Nat):List (K×V):=((es.zip l).filter (λx=>!seen.contains x.1.born)).map (·.2)
theorem Rs {α:Type}(g:α->Nat)(f:Nat->Bool)(x:α):∀Z:List α,(Z.map g).Nodup->x∈Z->f (g x)=true->(Z.filter (λy=>f (g y))).Perm (x::Z.filter (λy=>f (g y)&&g y !=g x))
 |[],_,hx,_=>by simp at hx
 |
  z::zs,hn,hx,hf=>by
  simp only[Ap,Ce]at hn
  by_cases hz:x=z
  ·subst hz
   have e:zs.filter (λy=>f (g y)&&g y !=g x)=zs.filter (λy=>f (g y)):=List.filter_congr λy hy=>by
    have:g y≠g x:=λe=>hn.1 (by rw[<-e];exact Aq.2 ⟨y,hy,rfl⟩)
    simp[this]
   simp[hf,e]
  ·have hx':x∈zs:=by simp[hz]at hx;exact hx
   have ih:=Rs g f x zs hn.2 hx' hf
   have hne:g z≠g x:=λe=>hn.1 (by rw[e];exact Aq.2 ⟨x,hx',rfl⟩)
   by_cases h:f (g z)=true
   ·simp only[bV,h,if_true,Bool.true_and,bne_iff_ne,ne_eq,hne,not_false_eq_true]
    exact(ih.cons z).trans (List.Perm.swap x z _)
   ·simp only[bV,h,Bool.false_and,BZ,if_false]
    simpa using ih
def E8(encK:K->Value)(encV:V->Value)(w:World)(r b:Nat)(l todo:List (K×V)):Prop:=
 ∃(es:Array MapEntry) (clock since:Nat) (seen:Array Nat) (c0:Nat),w.heap[r]? =some (.mapIter (some b) since seen c0)/\w.heap[b]? =some (.map es clock)/\Holds encK encV es clock l/\since<=c0/\since<=clock/\(∀x∈es.toList,x.born<since)/\todo=MO es.toList l seen
def O4(encK:K->Value)(encV:V->Value)(w:World)(r b:Nat)(l todo:List (K×V))(p:K×V):Prop:=
 ∃(es:Array MapEntry) (clock since:Nat) (seen:Array Nat),∃e∈es.toList,w.heap[r]? =some (.mapIter (some b) since (seen.push e.born) clock)/\w.heap[b]? =some (.map es clock)/\Holds encK encV es clock l/\since<=clock/\(∀x∈es.toList,x.born<since)/\
  todo=MO es.toList l (seen.push e.born)/\e.key=encK p.1/\e.val=encV p.2
variable {w w':World} {r b:Nat} {l todo:List (K×V)} {p:K×V} {S:List Nat}
theorem E8.keep(h:E8 encK encV w r b l todo)(t:Tch S w w')(hr:r∉S)(hb:b∉S):E8 encK encV w' r b l todo:=by
 obtain⟨es,clock,since,seen,c0,h1,h2,h3⟩:=h
 exact⟨es,clock,since,seen,c0,by rw[t.blk r (A6.1 h1).1 hr];exact h1,by rw[t.blk b (A6.1 h2).1 hb];exact h2,h3⟩
theorem O4.keep(h:O4 encK encV w r b l todo p)(t:Tch S w w')(hr:r∉S)(hb:b∉S):O4 encK encV w' r b l todo p:=by
 obtain⟨es,clock,since,seen,e,he,h1,h2,h3⟩:=h
 exact⟨es,clock,since,seen,e,he,by rw[t.blk r (A6.1 h1).1 hr];exact h1,by rw[t.blk b (A6.1 h2).1 hb];exact h2,h3⟩
theorem O4.iter(h:O4 encK encV w r b l todo p):E8 encK encV w r b l todo:=by
 obtain⟨es,clock,since,seen,e,he,h1,h2,h3,h4,h5,h6,_⟩:=h
 exact⟨es,clock,since,_,clock,h1,h2,h3,h4,h4,h5,h6⟩
theorem E8.mapAt(h:E8 encK encV w r b l todo):Cw encK encV w b l:=by
 obtain⟨es,clock,since,seen,c0,h1,h2,h3,_⟩:=h
 exact Cw.holds.2 ⟨es,clock,h2,h3⟩
theorem E8.lt(h:E8 encK encV w r b l todo):r<w.heap.size:=by
 obtain⟨es,clock,since,seen,c0,h1,_⟩:=h
 exact(A6.1 h1).1
theorem E8.ne(h:E8 encK encV w r b l todo):r≠b:=by
 obtain⟨es,clock,since,seen,c0,h1,h2,_⟩:=h
 intro e;subst e;rw[h1]at h2;cases h2
theorem Q7 {es:List MapEntry}(h:es.Pairwise (λx y=>x.born<y.born)):(es.map (·.born)).Nodup:=by
 rw[List.nodup_iff_pairwise_ne,BL]
 exact h.imp (λh=>Nat.ne_of_lt h)
theorem Cw.range(h:Cw encK encV w b l) {t kt e:TypeId}(ht:P.underlying t=some (.map kt e)):
  ∃w',(Instr.range t (.map (some b))).run P w=.ok (.pointer (some ⟨w.heap.size,0,none⟩)) w'/\E8 encK encV w' w.heap.size b l l/\Tch [] w w':=by
 obtain⟨es,clock,h2,h3⟩:=Cw.holds.1 h
 have hlt:=h.lt
 refine⟨_,run_range_map w t kt e b es clock ht h2,⟨es,clock,clock,#[],clock,(Tv w _).1,((Tv w _).2 b hlt).trans h2,h3,Av _,Av _,h3.clock,?_⟩,Tch.alloc _ _ _⟩
 have:es.toList.length=l.length:=by simpa using congrArg List.length h3.keys
 have e2:=List.map_snd_zip (l₁:=es.toList) (l₂:=l) (Nat.le_of_eq this.symm)
 have e3:(es.toList.zip l).filter (λ_=>true)=es.toList.zip l:=F5.2 (λ_ _=>rfl)
 simp only[MO,Array.contains_empty,Bool.not_false,e3]
 exact e2.symm
theorem E8.next(h:E8 encK encV w r b l todo)(ty:TypeId):
  (todo=[]/\(Instr.next (.pointer (some ⟨r,0,none⟩)) false ty).run P w=.ok (.tuple #[.bool false]) w)\/
  ∃p todo' w',todo.Perm (p::todo')/\(Instr.next (.pointer (some ⟨r,0,none⟩)) false ty).run P w=.ok (.tuple #[.bool true,encK p.1,encV p.2]) w'/\O4 encK encV w' r b l todo' p/\Tch [r] w w':=by
 have hne:=h.ne
 have hrl:=h.lt
 obtain⟨es,clock,since,seen,c0,h1,h2,h3,h4,h4',h5,rfl⟩:=h
 have hlen:es.toList.length=l.length:=by simpa using congrArg List.length h3.keys
 have hfst:(es.toList.zip l).map (·.1)=es.toList:=List.map_fst_zip (Nat.le_of_eq hlen)
 have hbn:((es.toList.zip l).map (λx=>x.1.born)).Nodup:=by
  rw[show(es.toList.zip l).map (λx=>x.1.born)=((es.toList.zip l).map (·.1)).map (·.born)by simp,hfst]
  exact Q7 h3.born
 rcases run_next_at (P:=P) w ty r b since c0 seen es clock h1 h2 h5 h4 with⟨h0,hr⟩|⟨e,he,w1,hw1,hr⟩
 ·left
  refine⟨?_,hr⟩
  have h0':es.toList.filter (λe=>!seen.contains e.born)=[]:=by
   rw[<-Array.toList_filter];exact AE h0
  unfold MO
  rw[List.map_eq_nil_iff,List.filter_eq_nil_iff]
  intro x hx
  have hm:x.1∈es.toList:=by rw[<-hfst];exact Aq.2 ⟨x,hx,rfl⟩
  exact List.filter_eq_nil_iff.1 h0' x.1 hm
 ·right
  have he':e∈es.toList/\(!seen.contains e.born)=true:=by
   unfold leftOf at he
   rw[Array.toList_filter,A3]at he
   exact he
  obtain⟨i,hi⟩:=List.getElem?_of_mem he'.1
  have hil:i<l.length:=by rw[<-hlen];exact(Ad.1 hi).1
  have hl:l[i]? =some l[i]:=Ab hil
  have hk:e.key=encK (l[i]).1:=by
   have:=congrArg (·[i]?) h3.keys
   simpa[hi,hl]using this
  have hv:e.val=encV (l[i]).2:=by
   have:=congrArg (·[i]?) h3.vals
   simpa[hi,hl]using this
  have hz:(e,l[i])∈es.toList.zip l:=AD (i:=i) (by rw[List.getElem?_zip_eq_some];exact⟨hi,hl⟩)
  have hp:=Rs (λx:MapEntry×(K×V)=>x.1.born) (λn=>!seen.contains n) (e,l[i]) (es.toList.zip l) hbn hz he'.2
  have hw1b:∀k:Nat,w1.heap[k]? =w.heap[k]? :=by rcases hw1 with rfl|rfl<;>exactλ_=>rfl
  have hsz:w1.heap.size=w.heap.size:=by rcases hw1 with rfl|rfl<;>rfl
  refine⟨l[i],MO es.toList l (seen.push e.born),_,?_,by rw[<-hk,<-hv];exact hr,⟨es,clock,since,seen,e,he'.1,?_,?_,h3,h4',h5,rfl,hk,hv⟩,?_⟩
  ·have:=hp.map (·.2)
   unfold MO
   refine this.trans (List.Perm.of_eq ?_)
   simp only[Ap]
   congr 2
   refine List.filter_congr λx _=>?_
   rw[Array.contains_push,Bool.not_or]
   congr 1
  ·simp[ChangeMaps.setBlock,hsz,hrl]
  ·simp[ChangeMaps.setBlock,Array.getElem?_setIfInBounds_ne hne,hw1b,h2]
  ·have ht:Tch [r] w w1:=by rcases hw1 with rfl|rfl<;>first|exact Tch.refl _ _|exact Tch.drew _ _
   exact ht.trans0 (JI w1 r _)
theorem O4.entry(h:O4 encK encV w r b l todo p):(Instr.entry (.pointer (some ⟨r,0,none⟩))).run P w=.ok (.tuple #[encK p.1,encV p.2]) w:=by
 obtain⟨es,clock,since,seen,e,he,h1,h2,h3,h4,h5,h6,hk,hv⟩:=h
 rw[run_entry_at w r b since seen es clock e h1 h2 he (Q7 h3.born),hk,hv]
end
end Go.Reg
end
section
namespace Go.Proofs.YtjejpdfldmempaaGreatDoor
open Go Go.Sx Go.RowKit Go.Reg Go.Gr
inductive Ph where
 |it (todo:List (ByteArray×RowV))
 |on (todo:List (ByteArray×RowV)) (p:ByteArray×RowV)
def Ph.At {P:Program}(M:MapE P ByteArray RowV)(w:World)(r b:Nat)(m:List (ByteArray×RowV)):Ph->Prop
 |.it todo=>E8 M.encK M.encV w r b m todo
 |.on todo p=>O4 M.encK M.encV w r b m todo p
theorem Ph.At.keep {P:Program} {M:MapE P ByteArray RowV} {w w':World} {S:List Nat} {r b:Nat} {m:List (ByteArray×RowV)} {ph:Ph}(h:ph.At M w r b m)(t:Tch S w w')(hr:r∉S)(hb:b∉S):ph.At M w' r b m:=by
 cases ph with
 |it todo=>exact E8.keep h t hr hb
 |on todo p=>exact O4.keep h t hr hb
theorem Ph.At.iter {P:Program} {M:MapE P ByteArray RowV} {w:World} {r b:Nat} {m:List (ByteArray×RowV)} {ph:Ph}(h:ph.At M w r b m):∃todo,E8 M.encK M.encV w r b m todo:=by
 cases ph with
 |it todo=>exact⟨_,h⟩
 |on todo p=>exact⟨_,O4.iter h⟩
structure RowsI {P:Program}(M:MapE P ByteArray RowV)(m:List (ByteArray×RowV))(r:Nat)(ph:Ph)(w:World)(v:Value)(F:List Nat)(b:Nat)(G:List Nat):Prop where
 val:v=.map (some b)
 mem:∀x,x∈F↔x=b\/x=r\/x∈G
 nb:b∉G
 nr:r∉G
 lt:∀x∈F,x<w.heap.size
 at_:ph.At M w r b m
 rows:∀q∈m,RepC (Jj w G) w (Bx q.2.p.labels) [q.2.lv]/\RepC (Jj w G) w (Er q.2.p.edges) [q.2.ev]
def G5 {P:Program}(M:MapE P ByteArray RowV)(m:List (ByteArray×RowV))(r:Nat)(ph:Ph):Absn where
 R w v F:=∃b G,RowsI M m r ph w v F b G
 keep:=by
  rintro S w w' v F ⟨b,G,h⟩ t hd
  have hG:∀x∈G,x∉S:=λx hx=>hd x ((h.mem x).2 (.inr (.inr hx)))
  have hl:=G6 t hG
  exact⟨b,G,h.val,h.mem,h.nb,h.nr,λx hx=>CK (h.lt x hx) t.size,h.at_.keep t (hd r ((h.mem r).2 (.inr (.inl rfl)))) (hd b ((h.mem b).2 (.inl rfl))),λq hq=>⟨RepC.later hl _ _ (h.rows q hq).1,RepC.later hl _ _ (h.rows q hq).2⟩⟩
 lt:=by rintro w v F ⟨b,G,h⟩ x hx;exact h.lt x hx
 one:=by rintro w v F ⟨b,G,h⟩;rw[h.val];rfl
section
variable {C:Cx} {n kd:Nat} {fr:Fr} {σ:Sg} {o:Oper} {K:Fr->Sg->Prop} {M:MapE C.P ByteArray RowV} {m:List (ByteArray×RowV)} {X:List (Value×Da)}
theorem Nh {B S:List Nat} {w0 w:World} {η:Nat->Value} {φ:Nat->List Nat}(hm:Mem C B S w0 σ η φ w) {i r:Nat} {ph:Ph}(hg:BA i σ=some (G5 M m r ph).own):∃b G,RowsI M m r ph w (η i) (φ i) b G:=hm.own _ (Bd hg)
theorem Uw(i:Nat) {x:Operand}(ho:o.op=.range M.t x)(hx:ev C.Γ fr x=.own i)(hg:BA i σ=some (Fs M m X).own)(hkd:kd≠5/\kd≠2/\kd≠0)(hd:CZ o.dst n=true)
  (hK:∀r,BP (B2 id i (G5 M m r (.it m)).own σ) λσ=>K (Cm o.dst (.d (.raw (.pointer (some ⟨r,0,none⟩)))) fr) σ):AY C n kd o K fr σ:=by
 refine C6 hkd.1 hkd.2.1 λB S w0 η φ a w hM=>⟨λe=>absurd e hkd.2.2,.inl ?_⟩
 have e1:=Hh (AV hM x) hx
 obtain⟨b,G,h⟩:=Mc hM.mem hg
 obtain⟨w',hr,hI,ht⟩:=h.map.range (P:=C.P) (t:=M.t) M.ht
 have hk:=hK w.heap.size
 rw[Bl]at hk
 have hi:=AP (Bd hg)
 have hF:∀c∈φ i++[w.heap.size],c∈φ i\/w.heap.size<=c:=λc hc=>by
  rcases Ag.1 hc with hc|hc
  ·exact .inl hc
  ·exact .inr (by rw[AG.1 hc];exact Av _)
 have hX:∀c∈([]:List Nat),c∈φ i:=λc hc=>by cases hc
 have hlo:=G6 ht (G:=G) (λx _ hb=>by cases hb)
 have hl:=Later.turn (σ:=σ) B ht hX hi hF id (G5 M m w.heap.size (.it m)).own
 have hmm:=hM.mem.turnSame ht hX hi hF (o:=(G5 M m w.heap.size (.it m)).own) ⟨b,G,h.val,λx=>by
   rw[Ag,h.mem,AG]
   constructor
   ·rintro((h|h)|h)
    ·exact .inl h
    ·exact .inr (.inr h)
    ·exact .inr (.inl h)
   ·rintro(h|h|h)
    ·exact .inl (.inl h)
    ·exact .inr h
    ·exact .inl (.inr h),h.nb,λhm=>by have:=h.lt _ ((h.mem _).2 (.inr hm));omega,λx hx=>by
   rcases Ag.1 hx with hx|hx
   ·exact CK (h.lt x hx) ht.size
   ·rw[AG.1 hx];exact hI.lt,hI,λq hq=>⟨RepC.later hlo _ _ (h.rows q hq).1,RepC.later hlo _ _ (h.rows q hq).2⟩⟩
 have M':Models C B S w0 n fr _ η _ a w':=⟨hmm,hM.fr.later hl (λj hj=>⟨by rw[Bg];exact hj,rfl⟩),hM.defers,hM.size⟩
 refine⟨.pointer (some ⟨w.heap.size,0,none⟩),w',?_,_,_,_,_,M'.put hd ⟨[.pointer (some ⟨w.heap.size,0,none⟩)],by simp only[A4,RepC],rfl⟩,hk⟩
 simp only[execOp,ho]
 rw[e1,h.val]
 exact CP hr
theorem WW(i r:Nat) {todo:List (ByteArray×RowV)} {x:Operand} {ty:TypeId}(ho:o.op=.next x false)(hty:o.type=ty)(hx:ev C.Γ fr x=.d (.raw (.pointer (some ⟨r,0,none⟩))))(hg:BA i σ=some (G5 M m r (.it todo)).own)(hkd:kd≠5/\kd≠2/\kd≠0)(hd:CZ o.dst n=true)
  (h1:todo=[]->BP (B2 id i (Fs M m []).own σ) λσ=>K (Cm o.dst (.d (.tuple [.bool false])) fr) σ)
  (h2:∀p todo',todo.Perm (p::todo')->BP (B2 id i (G5 M m r (.on todo' p)).own σ) λσ=>K (Cm o.dst (.d (.tuple [.bool true,.undef,.undef])) fr) σ):AY C n kd o K fr σ:=by
 refine C6 hkd.1 hkd.2.1 λB S w0 η φ a w hM=>⟨λe=>absurd e hkd.2.2,.inl ?_⟩
 obtain⟨cs,g1,e1⟩:=EL (AV hM x) hx
 simp only[RepC]at g1
 subst g1
 obtain⟨b,G,h⟩:=Nh hM.mem hg
 have hi:=AP (Bd hg)
 have hF:∀c∈φ i,c∈φ i\/w.heap.size<=c:=λc hc=>.inl hc
 have hI:E8 M.encK M.encV w r b m todo:=h.at_
 rcases hI.next (P:=C.P) ty with⟨h0,hr⟩|⟨p,todo',w',hp,hr,hon,ht⟩
 ·have hk:=h1 h0
  rw[Bl]at hk
  have ht:=Tch.refl [] w
  have hX:∀c∈([]:List Nat),c∈φ i:=λc hc=>by cases hc
  have hl:=Later.turn (σ:=σ) B ht hX hi hF id (Fs M m []).own
  have hmo:=Rv (w:=w) (G:=G) (G':=r::G) (λx hx=>AB _ hx)
  have hmm:=hM.mem.turnSame ht hX hi hF (o:=(Fs M m []).own) ⟨b,r::G,h.val,λx=>by rw[h.mem,Ar],λhm=>by
    rcases Ar.1 hm with e|e
    ·exact hI.ne e.symm
    ·exact h.nb e,h.lt,hI.mapAt,λx hx=>(by cases hx),λq hq=>⟨RepC.later hmo _ _ (h.rows q hq).1,RepC.later hmo _ _ (h.rows q hq).2⟩⟩
  have M':Models C B S w0 n fr _ η _ a w:=⟨hmm,hM.fr.later hl (λj hj=>⟨by rw[Bg];exact hj,rfl⟩),hM.defers,hM.size⟩
  refine⟨.tuple #[.bool false],w,?_,_,_,_,_,M'.put hd ⟨[.tuple #[.bool false]],?_,rfl⟩,hk⟩
  ·simp only[execOp,ho,hty]
   rw[e1]
   exact CP hr
  ·simp only[A4,RepC,Al]
   exact⟨[[.bool false]],⟨_,_,rfl,rfl,rfl⟩,rfl⟩
 ·have hk:=h2 p todo' hp
  rw[Bl]at hk
  have hX:∀c∈[r],c∈φ i:=λc hc=>by rw[AG.1 hc];exact(h.mem r).2 (.inr (.inl rfl))
  have hlo:=G6 ht (G:=G) (λx hx hb=>h.nr (by rw[<-AG.1 hb];exact hx))
  have hl:=Later.turn (σ:=σ) B ht hX hi hF id (G5 M m r (.on todo' p)).own
  have hmm:=hM.mem.turnSame ht hX hi hF (o:=(G5 M m r (.on todo' p)).own) ⟨b,G,h.val,h.mem,h.nb,h.nr,λx hx=>CK (h.lt x hx) ht.size,hon,λq hq=>⟨RepC.later hlo _ _ (h.rows q hq).1,RepC.later hlo _ _ (h.rows q hq).2⟩⟩
  have M':Models C B S w0 n fr _ η _ a w':=⟨hmm,hM.fr.later hl (λj hj=>⟨by rw[Bg];exact hj,rfl⟩),hM.defers,hM.size⟩
  refine⟨.tuple #[.bool true,M.encK p.1,M.encV p.2],w',?_,_,_,_,_,M'.put hd ⟨[.tuple #[.bool true,M.encK p.1,M.encV p.2]],?_,rfl⟩,hk⟩
  ·simp only[execOp,ho,hty]
   rw[e1]
   exact CP hr
  ·simp only[A4,RepC,Al]
   exact⟨[[.bool true],[M.encK p.1],[M.encV p.2]],⟨_,_,rfl,rfl,_,_,rfl,⟨_,rfl⟩,_,_,rfl,⟨_,rfl⟩,rfl⟩,rfl⟩
theorem Ux(i r:Nat) {todo:List (ByteArray×RowV)} {p:ByteArray×RowV} {x:Operand}(ho:o.op=.entry x)(hx:ev C.Γ fr x=.d (.raw (.pointer (some ⟨r,0,none⟩))))(hg:BA i σ=some (G5 M m r (.on todo p)).own)(hkd:kd≠5/\kd≠2/\kd≠0)(hd:CZ o.dst n=true)
  (hK:BP (B2 id i (G5 M m r (.it todo)).own σ) λσ=>K (Cm o.dst (.d (.tuple [.undef,M.dV p.2])) fr) σ):AY C n kd o K fr σ:=by
 rw[Bl]at hK
 refine C6 hkd.1 hkd.2.1 λB S w0 η φ a w hM=>⟨λe=>absurd e hkd.2.2,.inl ?_⟩
 obtain⟨cs,g1,e1⟩:=EL (AV hM x) hx
 simp only[RepC]at g1
 subst g1
 obtain⟨b,G,h⟩:=Nh hM.mem hg
 have hon:O4 M.encK M.encV w r b m todo p:=h.at_
 have hi:=AP (Bd hg)
 have hF:∀c∈φ i,c∈φ i\/w.heap.size<=c:=λc hc=>.inl hc
 have ht:=Tch.refl [] w
 have hX:∀c∈([]:List Nat),c∈φ i:=λc hc=>by cases hc
 have hl:=Later.turn (σ:=σ) B ht hX hi hF id (G5 M m r (.it todo)).own
 have hmm:=hM.mem.turnSame ht hX hi hF (o:=(G5 M m r (.it todo)).own) ⟨b,G,h.val,h.mem,h.nb,h.nr,h.lt,hon.iter,h.rows⟩
 have M':Models C B S w0 n fr _ η _ a w:=⟨hmm,hM.fr.later hl (λj hj=>⟨by rw[Bg];exact hj,rfl⟩),hM.defers,hM.size⟩
 obtain⟨cs,g1,g2⟩:=M.ofV (B++Ak (Ds φ i (φ i)) (B2 id i (G5 M m r (.it todo)).own σ)) w p.2
 refine⟨.tuple #[M.encK p.1,M.encV p.2],w,?_,_,_,_,_,M'.put hd ⟨[.tuple #[M.encK p.1,M.encV p.2]],?_,rfl⟩,hK⟩
 ·simp only[execOp,ho]
  rw[e1]
  exact CP hon.entry
 ·simp only[A4,RepC,Al]
  exact⟨[[M.encK p.1],cs],⟨_,_,rfl,⟨_,rfl⟩,cs,[],rfl,g1,rfl⟩,by simp[g2,Fc]⟩
theorem Rk {B S:List Nat} {w0 w:World} {η:Nat->Value} {φ:Nat->List Nat}(hm:Mem C B S w0 σ η φ w) {i r:Nat} {ph:Ph}(hg:BA i σ=some (G5 M m r ph).own) {q:ByteArray×RowV}(hq:q∈m):RepC [] w (Bx q.2.p.labels) [q.2.lv]/\RepC [] w (Er q.2.p.edges) [q.2.ev]:=by
 obtain⟨b,G,h⟩:=Nh hm hg
 have hl:Later (Jj w G) w [] w:=⟨Av _,λ_ _ _=>rfl,λ_ _ _ h=>by cases h⟩
 exact⟨RepC.later hl _ _ (h.rows q hq).1,RepC.later hl _ _ (h.rows q hq).2⟩
theorem Q5 {E k:Nat}(j:Nat) {q:Bool} {f:FuncId} {u:Value} {x:Da} {L:List Da} {K:KD}(hj:BA j σ=none)(hx1:x.one=true)(hx:∀{B S:List Nat} {w0 w:World} {η:Nat->Value} {φ:Nat->List Nat},Mem C B S w0 σ η φ w->RepC [] w x [u])(hp:D4 C f [x] E k (λds=>ds=L))(hfl:EU L=true)(hK:BP (Fi j (.slice E k L) σ) λσ=>K (.own j) fr σ):BI C q f [.d (.raw u)] K fr σ:=by
 unfold BI
 rintro B S w0 η φ n a w vs hM ⟨css,hr,rfl⟩
 simp only[A7,A4,RepC]at hr
 obtain⟨_,_,rfl,rfl,rfl⟩:=hr
 have hgl:Glob C [] w:=λg hg=>(hM.mem.glob g hg).later ⟨Av _,λ_ _ _=>rfl,λ_ _ _ h=>by cases h⟩
 have e:List.zipWith BD [.d (.raw u)] [[u]]=[u]:=rfl
 rw[e]
 obtain⟨g1,g2⟩:=hp [] w [u] (λb hb=>by cases hb) hgl ⟨[[u]],by simp only[Al];exact⟨_,_,rfl,hx hM.mem,rfl⟩,by simp[OA hx1]⟩
 refine⟨g1,g2.mono ?_⟩
 rintro e w' ⟨v,cs2,ds,rfl,rfl,hs,hb,hr2,hk,ht⟩
 obtain⟨d,fr',σ',η',φ',x1,x2,x3⟩:=PL hM hj hs hb (O:=B++(v.ownBlock.toList++Ak φ σ)) (λO'=>.inl (Al.flat _ cs2 hfl hr2)) rfl hk ht hK
 exact⟨v,d,fr',σ',η',φ',rfl,x1,x2,x3,λ_=>ht.ext⟩
theorem qB {T:Fm} {fr1:Fr} {σ1:Sg}(hC:C.Ok T) {G:List FuncId}(t:Nat) {a b c:Da}(hf:Lo fr σ fr1 σ1)(e:Sx.get fr1 t=.agg [.agg [.d a,.d b],.d c])(hks:CJ C.P G o=kd\/kd=3)(h:Pd C T n kd o K ((t,.d (.agg [.agg [a,b],c]))::fr1) σ1):AY C n kd o K fr σ:=by
 have h:=Iq hC hks h
 unfold AY at h⊢
 intro B S w0 η φ ac w hM
 obtain⟨η1,φ1,hM1⟩:=hf.models hM
 refine h B S w0 η1 φ1 ac w ⟨hM1.mem,λs=>?_,hM1.defers,hM1.size⟩
 simp only[Sx.get]
 rcases Bh t s with⟨hb,e2⟩|⟨hb,_⟩<;>rw[hb]
 ·subst e2
  obtain⟨cs,r1,r2⟩:=hM1.fr t
  rw[e]at r1 r2
  refine⟨cs,?_,r2⟩
  simp only[A4,AX,RepC,RepCs]at r1⊢
  exact r1
 ·exact hM1.fr s
end
end Go.Proofs.YtjejpdfldmempaaGreatDoor
end
section
namespace Go.Sx
open Go Go.RowKit Go.Reg
theorem LP {η:Nat->Value} {I O:List Nat} {w:World}:∀{xs ys:List Dat} {css:List (List Value)},A7 η I O w (xs++ys) css->∃c1 c2,css=c1++c2/\A7 η I O w xs c1/\A7 η I O w ys c2
 |[],_,css,h=>⟨[],css,rfl,by simp only[A7],h⟩
 |
  x::xs,ys,css,h=>by
  simp only[Bo,A7]at h
  obtain⟨a1,a2,rfl,h1,h2⟩:=h
  obtain⟨c1,c2,rfl,h3,h4⟩:=LP h2
  exact⟨a1::c1,c2,rfl,by simp only[A7];exact⟨_,_,rfl,h1,h3⟩,h4⟩
def Vn:Dat->Option Da
 |.d x=>some x
 |
  .func fn f c=>match DY f,DY c with
  |some fs,some cs=>some (.func fn fs cs)
  |_,_=>none
 |
  .agg ds=>match DY ds with
  |some xs=>some (.agg xs)
  |none=>none
 |_=>none
def J4:List Dat->Option (List Da)
 |[]=>some []
 |
  d::ds=>match Vn d,J4 ds with
  |some x,some xs=>some (x::xs)
  |_,_=>none
theorem Qm {η:Nat->Value} {I O:List Nat} {w:World}:∀{xs:List Da} {cs:List Value},AX η I O w (B8 xs) cs->RepCs O w xs cs
 |[],cs,h=>by simpa only[B8,AX,RepCs]using h
 |
  x::xs,cs,h=>by
  simp only[B8,AX,A4]at h
  obtain⟨c1,c2,rfl,h1,h2⟩:=h
  simp only[RepCs]
  exact⟨c1,c2,rfl,h1,Qm h2⟩
theorem aT {η:Nat->Value} {I O:List Nat} {w:World} {d:Dat} {x:Da} {cs:List Value}(h:Vn d=some x)(hr:A4 η I O w d cs):RepC O w x cs/\BD d cs=Fc x cs:=by
 cases d with
 |d y=>simp only[Vn,Au]at h;subst h;simp only[A4]at hr;exact⟨hr,rfl⟩
 |
  func fn f c=>
  simp only[Vn]at h
  split at h
  ·rename_i fs cs' h1 h2
   simp only[Au]at h
   subst h
   simp only[A4]at hr
   obtain⟨a,b,h3,h4,rfl⟩:=hr
   rw[Dv h1]at h3⊢
   rw[Dv h2]at h4⊢
   simp only[RepC]
   refine⟨⟨a,b,Dc.1 h3,Dc.1 h4,?_⟩,rfl⟩
   rw[Db,Db]
  ·cases h
 |
  agg ds=>
  simp only[Vn]at h
  split at h
  ·rename_i xs h1
   simp only[Au]at h
   subst h
   simp only[A4]at hr
   rw[Dv h1]at hr
   simp only[RepC]
   exact⟨Qm hr,rfl⟩
  ·cases h
 |_=>cases h
theorem Le {η:Nat->Value} {I O:List Nat} {w:World}:∀{ds:List Dat} {xs:List Da} {css:List (List Value)},J4 ds=some xs->A7 η I O w ds css->Al O w xs css/\List.zipWith BD ds css=List.zipWith Fc xs css
 |
  [],xs,css,h,hr=>by
  simp only[J4,Au]at h
  subst h
  simp only[A7]at hr
  subst hr
  simp[Al]
 |
  d::ds,xs,css,h,hr=>by
  simp only[J4]at h
  split at h
  ·rename_i x xs' h1 h2
   simp only[Au]at h
   subst h
   simp only[A7]at hr
   obtain⟨c1,c2,rfl,r1,r2⟩:=hr
   obtain⟨g1,g2⟩:=aT h1 r1
   obtain⟨g3,g4⟩:=Le h2 r2
   simp only[Al]
   exact⟨⟨c1,c2,rfl,g1,g3⟩,by rw[AL,AL,g2,g4]⟩
  ·cases h
def Mn(O:List Nat)(v:Value):List Nat:=O.filter λc=>!decide (c∈v.ownBlock.toList)
theorem HE {O:List Nat} {v:Value} {b:Nat}:b∈Mn O v↔b∈O/\b∉v.ownBlock.toList:=by
 unfold Mn
 rw[A3,BC,decide_eq_false_iff_not]
def jW(C:Cx)(f:FuncId)(E k:Nat)(ds:List Da)(pre xs:List Da)(Q:List Da->Prop):Prop:=
 ∀(O:List Nat) (w:World) (v:Value) (css:List (List Value)) (us1 us:List Value),Sl E k id w v css->(∀b∈v.ownBlock.toList,b∈O)->(∀b∈O,b<w.heap.size)->Al O w ds css->(∀x∈css,DS k x)->Glob C O w->Ig O w pre us1->Ig O w xs us->
  (callFunc f (us1++v::us).toArray).run C.P w=.ok (.enter f (us1++v::us).toArray) w/\Calls C.P f (us1++v::us).toArray w λe w'=>∃u ds' css',e=.returned u/\Q ds'/\Sl E k id w' u css'/\(∀b∈u.ownBlock.toList,b∈v.ownBlock.toList\/w.heap.size<=b)/\
   Al (Mn O v++u.ownBlock.toList) w' ds' css'/\(∀x∈css',DS k x)/\Tch v.ownBlock.toList w w'
section
variable {C:Cx} {T:Fm} {fr:Fr} {σ:Sg}
theorem Sa {i E k:Nat} {ds:List Da} {f:FuncId}(pre:List Dat) {args:List Dat} {ps xs:List Da} {Q:List Da->Prop} {K:KD}(hg:BA i σ=some (.slice E k ds))(hpre:J4 pre=some ps)(ha:J4 args=some xs)(hp:jW C f E k ds ps xs Q)
  (hK:∀ds',Q ds'->EP (Ek i .undef fr) λfr=>BP (B2 (Bw i .undef) i (.slice E k ds') σ) λσ=>K (.own i) fr σ):BI C false f (pre++.own i::args) K fr σ:=by
 unfold BI
 rintro B S w0 η φ n a w vs hM ⟨css,hr,rfl⟩
 have hi:=AP (Bd hg)
 obtain⟨c0,c3,rfl,r0,r3⟩:=LP hr
 simp only[A7]at r3
 obtain⟨c1,c2,rfl,r1,r2⟩:=r3
 obtain⟨h1,h2⟩:=Le ha r2
 obtain⟨h3,h4⟩:=Le hpre r0
 have r1':=r1
 simp only[A4]at r1
 obtain⟨_,rfl⟩:=r1
 obtain⟨cs0,hs,e2,hrr,hkk⟩:=Bq hM.mem hg
 have hbl:∀b∈(η i).ownBlock.toList,b∈φ i:=λb hb=>by rw[e2];exact hb
 have hzip:List.zipWith BD (pre++.own i::args) (c0++[η i]::c2)=List.zipWith Fc ps c0++η i::List.zipWith Fc xs c2:=by
  rw[(ER r0 (ys:=.own i::args) (c2:=[η i]::c2) (by simp only[A7];exact⟨_,_,rfl,r1',r2⟩)).2,h4,AL,h2];rfl
 rw[hzip]
 obtain⟨g1,g2⟩:=hp (B++Ak φ σ) w (η i) cs0 _ _ hs (λb hb=>An _ (Ba hi (hbl b hb))) hM.mem.lt hrr hkk hM.mem.glob ⟨c0,h3,rfl⟩ ⟨c2,h1,rfl⟩
 refine⟨g1,g2.mono ?_⟩
 rintro e w' ⟨u,ds',css',rfl,hQ,hs',hbu,hr',hk',ht⟩
 have hF:∀b∈u.ownBlock.toList,b∈φ i\/w.heap.size<=b:=λb hb=>(hbu b hb).imp (hbl b) id
 have hlt:=Later.turn (σ:=σ) B ht hbl hi hF (Bw i .undef) (.slice E k ds')
 have hsame:Later (Mn (B++Ak φ σ) (η i)++u.ownBlock.toList) w' (B++Ak (Ds φ i u.ownBlock.toList) (B2 (Bw i .undef) i (.slice E k ds') σ)) w':=⟨Av _,λ_ _ _=>rfl,λb hn _ hm=>hn (by
  rcases Ag.1 hm with hm|hm
  ·refine Az _ (HE.2 ⟨Az _ hm,λhv=>?_⟩)
   rcases hM.mem.new i hi b (hbl b hv)with h|h
   ·exact h.2 hm
   ·have:=hM.mem.out b hm;omega
  ·rcases Fp u.ownBlock.toList b hm with h|⟨j,hj,hne,h⟩
   ·exact An _ h
   ·exact Az _ (HE.2 ⟨An _ (Ba hj h),λhv=>hM.mem.disj j hj i hi hne b h (hbl b hv)⟩))⟩
 have hm':=hM.mem.turnKill (o:=.slice E k ds') (v:=u) ht hbl hi hF ⟨css',hs',rfl,Al.later hsame _ _ hr',hk'⟩
 have hfr:=hM.fr.kill (x:=.undef) rfl hlt (I':=Bp (B2 (Bw i .undef) i (.slice E k ds') σ)) (η':=Ds η i u) (i:=i) (λj hj hne=>⟨by rw[Bg];exact hj,C0 _ _ _ hne⟩) (RepC.undef_ex _ _ _)
 have hk2:=hK ds' hQ
 rw[Dp,Bl]at hk2
 exact⟨u,.own i,_,_,_,_,rfl,hk2,⟨hm',hfr,hM.defers,hM.size⟩,⟨[u],by simp only[A4];exact⟨by rw[Bg];exact hi,by rw[CI]⟩,rfl⟩,λh=>by cases h⟩
theorem Lu {E k:Nat}(j:Nat) {q:Bool} {f:FuncId} {args:List Dat} {xs L:List Da} {K:KD}(hj:BA j σ=none)(ha:DY args=some xs)(hp:D4 C f xs E k (λds=>ds=L))(hK:BP (Fi j (.slice E k L) σ) λσ=>K (.own j) fr σ):BI C q f args K fr σ:=
 Ee j hj ha hp λds h=>by subst h;exact hK
theorem ND {i E k:Nat} {ds:List Da} {f:FuncId}(pre:List Dat) {args:List Dat} {ps xs L:List Da} {K:KD}(hg:BA i σ=some (.slice E k ds))(hpre:J4 pre=some ps)(ha:J4 args=some xs)(hp:jW C f E k ds ps xs (λds=>ds=L))
  (hK:EP (Ek i .undef fr) λfr=>BP (B2 (Bw i .undef) i (.slice E k L) σ) λσ=>K (.own i) fr σ):BI C false f (pre++.own i::args) K fr σ:=
 Sa pre hg hpre ha hp λds h=>by subst h;exact hK
theorem YH {n E k:Nat}(hC:C.Ok T) {G:List FuncId} {pl:List (Nat×Plan)} {f:FuncId} {fn:Func} {c:Code}(hf:C.P.funcs[f]? =some fn)(hb:fn.body=some c)(hn:fn.ntmps=n)(hrun:∀(vs:Array Value) (w:World),(callFunc f vs).run C.P w=.ok (.enter f vs) w)(hk:BQ C.P G pl c=true) {ds pre xs:List Da} {Q:List Da->Prop}(hl:pre.length+(xs.length+1)<=n)
  (h:Dj C T n pl c (Hr T fn.results.toList (Hc E k Q)) (params (B8 pre++.own 900::B8 xs) 0) [(900,.slice E k ds)]):jW C f E k ds pre xs Q:=by
 intro O w v css us1 us hs hbO hO hcs hk0 hg hr1 hr
 obtain⟨css0,h0,rfl⟩:=hr1
 obtain⟨css1,h1,rfl⟩:=hr
 refine⟨hrun _ _,?_⟩
 let σ0:Sg:=[(900,.slice E k ds)]
 let η0:Nat->Value:=λ_=>v
 let φ0:Nat->List Nat:=λ_=>v.ownBlock.toList
 have hbl0:Ak φ0 σ0=v.ownBlock.toList:=by simp[Ak,σ0,φ0]
 have hset:∀c,c∈Mn O v++Ak φ0 σ0↔c∈O:=λc=>by
  rw[hbl0,Ag,HE]
  constructor
  ·rintro(h|h)
   ·exact h.1
   ·exact hbO c h
  ·intro h
   by_cases e:c∈v.ownBlock.toList
   ·exact .inr e
   ·exact .inl ⟨h,e⟩
 have hsame:Later O w (Mn O v++Ak φ0 σ0) w:=⟨Av _,λ_ _ _=>rfl,λc hn _ hm=>hn ((hset c).1 hm)⟩
 have hm:Mem C (Mn O v) v.ownBlock.toList w σ0 η0 φ0 w:=by
  refine⟨Tch.refl _ _,?_,by simp[Bp,σ0],?_,?_,λc hc=>hO c (HE.1 hc).1,λg hgm=>(hg g hgm).later hsame⟩
  ·intro p hp
   simp only[σ0,AG]at hp
   subst hp
   exact⟨css,hs,rfl,Al.later hsame _ _ hcs,hk0⟩
  ·intro i hi j hj hij c hc
   simp only[Bp,σ0,Ap,B4,AG]at hi hj
   omega
  ·intro i hi c hc
   exact .inl ⟨hc,λhm=>(HE.1 hm).2 hc⟩
 have hr2:A7 η0 (Bp σ0) (Mn O v++Ak φ0 σ0) w (.own 900::B8 xs) ([v]::css1):=by
  simp only[A7]
  exact⟨_,_,rfl,by simp[A4,Bp,σ0,η0],Dc.2 (Al.later hsame _ _ h1)⟩
 have hr0:A7 η0 (Bp σ0) (Mn O v++Ak φ0 σ0) w (B8 pre) css0:=Dc.2 (Al.later hsame _ _ h0)
 obtain⟨hr3,hz⟩:=ER hr0 hr2
 have hlen:(B8 pre++Dat.own 900::B8 xs).length<=n:=by
  have:∀xs:List Da,(B8 xs).length=xs.length:=λxs=>by induction xs with|nil=>rfl|cons x xs ih=>simp[B8,ih]
  rw[Ae,Ax,this,this];exact hl
 have:=E5 hC hf hb hn hk hr3 hlen hm h
 rw[hz,Db,AL,Db]at this
 refine this.mono ?_
 rintro e w' ⟨v',d,σ',η',φ',rfl,hK,hm',cs,g1,g2⟩
 unfold Hc at hK
 split at hK
 ·rename_i i
  rcases AR hK with hK|⟨o,ho,hK⟩
  ·exact hK.elim
  split at hK
  ·rename_i E' k' ds'
   obtain⟨rfl,rfl,hQ⟩:=hK
   simp only[A4]at g1
   obtain⟨hi,rfl⟩:=g1
   obtain⟨css',hs',e2,hrr,hkk⟩:=Bq hm' ho
   have e3:v'=η' i:=g2
   subst e3
   refine⟨_,ds',css',rfl,hQ,hs',λb hb=>?_,?_,hkk,hm'.tch⟩
   ·rcases hm'.new i hi b (by rw[e2];exact hb)with h|h
    ·exact .inl h.1
    ·exact .inr h
   ·refine Al.later ⟨Av _,λ_ _ _=>rfl,λb hn _ hm'=>hn ?_⟩ _ _ hrr
    rcases Ag.1 hm' with h|h
    ·exact Az _ h
    ·exact An _ (Ba hi (by rw[e2];exact h))
  ·exact hK.elim
 ·simp only[A4,RepC]at g1
  subst g1
  have e3:v'=.slice none 0 0:=g2
  subst e3
  exact⟨_,[],[],rfl,hK,Sl.nil _ _ _ _,λb hb=>(by cases hb),by simp[Al],by simp,hm'.tch⟩
 ·exact hK.elim
end
end Go.Sx
end
section
namespace Go.Reg
open Go Go.RowKit
theorem iV(a b:ByteArray):(@BEq.beq ByteArray ByteArray.instBEq a b)=decide (a=b):=by
 obtain⟨x⟩:=a
 obtain⟨y⟩:=b
 show(x==y)=_
 by_cases h:x=y
 ·subst h;simp
 ·have:¬(ByteArray.mk x=ByteArray.mk y):=λe=>h (by injection e)
  simp[h]
theorem TS(a b:ByteArray):Instr.sameNow .string (.string a) (.string b)=some (decide (a=b)):=by
 show some (@BEq.beq ByteArray ByteArray.instBEq a b)=_
 rw[iV]
theorem Oo(k:ByteArray):∀(es:List MapEntry) (ks:List ByteArray) (j:Nat),es.map (·.key)=ks.map Value.string->Instr.findNow .string (.string k) es j=some ((ks.findIdx? (λx=>decide (x=k))).bind λi=>(es[i]?).map λe=>(j+i,e.val))
 |[],[],j,_=>by simp[Instr.findNow]
 |[],k'::ks,j,h=>by simp at h
 |e::es,[],j,h=>by simp at h
 |
  e::es,k'::ks,j,h=>by
  simp only[Ap,Dh]at h
  have ih:=Oo k es ks (j+1) h.2
  have hs:Instr.sameNow .string (.string k) e.key=some (decide (k=k')):=by rw[h.1];exact TS k k'
  by_cases hk:k=k'
  ·subst hk
   simp[Instr.findNow,hs,Tw]
  ·have h2:¬k'=k:=λh=>hk h.symm
   simp only[Instr.findNow,hs,Tw,hk,h2,decide_false,BZ,if_false,ih]
   cases ks.findIdx? (λx=>decide (x=k))with
   |none=>rfl
   |some i=>simp[IP,Nat.add_comm 1 i]
theorem KeyOk.of_string {P:Program} {kt:TypeId}(hu:P.underlying kt=some .string)(hchk:∀em k w,(Instr.checkKey em 10000 kt (.string k)).run P w=.ok () w):KeyOk P kt Value.string:=by
 refine⟨hchk,λk es ks w h=>?_,λk w=>?_⟩
 ·simp only[Instr.findKey,A0,run_underlying hu,Ay]
  rw[Oo k es ks 0 h]
  simp
  rfl
 ·have:Instr.sameBits 10000 (.string k) (.string k)=true:=by
   show @BEq.beq ByteArray ByteArray.instBEq k k=true
   rw[iV];simp
  simp[Instr.keyThatStays,this]
end Go.Reg
namespace Go.Proofs.YtjejpdfldmempaaGreatDoor
open Go.Sx Go.RowKit Go.Reg Go.Gr
set_option maxRecDepth 100000
def Nc:MapE Tryz.prog ByteArray RowV where
 t:=104
 kt:=9
 et:=100
 encK:=.string
 encV r:=.agg #[r.lv,r.ev,.int .i64 r.n]
 dK s:=.str s
 dV r:=.agg [.agg [.raw r.lv,.raw r.ev],.int .i64 r.n]
 z:=⟨.slice none 0 0,.slice none 0 0,0,⟨[],[]⟩,rfl,rfl⟩
 ht:=Tryz.underlying104
 hk:=KeyOk.of_string Tryz.underlying9 (λem k w=>by kernel_rfl)
 hz:=by intro w;kernel_rfl
 repK:=by rintro O w k v h;exact S5 h
 repV:=by
  rintro O w r v ⟨cs,h,rfl⟩
  simp only[RepC,RepCs]at h
  obtain⟨_,_,rfl,⟨_,_,rfl,rfl,_,_,rfl,rfl,rfl⟩,_,_,rfl,rfl,rfl⟩:=h
  rfl
 ofV:=by
  rintro O w r
  refine⟨[r.lv,r.ev,.int .i64 r.n],?_,rfl⟩
  simp only[RepC,RepCs]
  exact⟨[r.lv,r.ev],_,rfl,⟨[r.lv],_,rfl,rfl,[r.ev],_,rfl,rfl,rfl⟩,_,_,rfl,rfl,rfl⟩
theorem R4(a b:Int)(ha:0<=a)(hb:0<=b)(hs:a+b<=9223372036854775807):Pure C1 62 [.int .i64 a,.int .i64 b] (λy=>y=.tuple [.int .i64 (a+b),.nili]):=by
 refine AT Tryz.func62 Tryz.ntmps62 [] [] ?_
 by_cases h:b=0
 ·subst h
  (conv=>whnf)
  (repeat' ((first|refine Ai ?_ ?_|refine uB ?_|refine nx ?_|refine A5 (λ_=>?_) (λ_=>?_)|exact AA)<;>conv=>whnf))
  exact rfl
 ·(conv=>whnf)
  (repeat' ((first|refine Ai ?_ ?_|refine uB ?_|refine nx ?_|refine A5 (λ_=>?_) (λ_=>?_)|exact AA)<;>conv=>whnf))
  exact rfl
theorem RW(l:List Edg)(hl:l.length<=2000000000):D4 C1 61 [Er l] 103 2 (λds=>ds=l.map dE):=by
 have hlm:(l.map dE).length=l.length:=Ac _
 refine UB Tryz.func61 Tryz.ntmps61 [] [] ?_
 cases l with
 |
  nil=>
  ((conv=>whnf);repeat' ((first|refine odw ?_|refine nx ?_|refine A5 (λ_=>?_) (λ_=>?_))<;>conv=>whnf))
  refine Y1 rfl Tryz.underlying29 rfl rfl (.inr rfl) rfl ?_
  intro b
  cases b<;>((conv=>whnf);repeat' ((first|refine odw ?_|refine nx ?_|refine A5 (λ_=>?_) (λ_=>?_))<;>conv=>whnf))
  ·exact⟨rfl,rfl,rfl⟩
  ·exact rfl
 |
  cons x l=>
  have hlm2:(([]:List Da).length+((x::l).map dE).length)<=4294967296:=by rw[hlm];simp at hl⊢;omega
  ((conv=>whnf);repeat' ((first|refine odw ?_|refine nx ?_|refine A5 (λ_=>?_) (λ_=>?_))<;>conv=>whnf))
  all_goals first|exact⟨rfl,rfl,rfl⟩|(refine GW hlm2 ?_;((conv=>whnf);repeat' ((first|refine odw ?_|refine nx ?_|refine A5 (λ_=>?_) (λ_=>?_))<;>conv=>whnf));exact⟨rfl,rfl,by simp⟩)
theorem D4.up3 {f:FuncId} {xs:List Da} {E k:Nat} {Q:List Da->Prop}(h:D4 C1 f xs E k Q):D4 C3 f xs E k Q:=λO w us h1 h2 h3=>h O w us h1 (λg hg=>h2 g (Az _ hg)) h3
def sT(m:List (ByteArray×RowV))(X:List (Value×Da)):Sg:=[(900,.cells 106 [.own 901]),(901,(Fs Nc m X).own)]
def Yx:List (Nat×Plan):=[]
def jK:List FuncId:=[]
theorem iN:BQ Tryz.prog jK Yx (Tryz.f11.body.getD .skip)=true:=by kernel_rfl
theorem eA(vs:Array Value)(w:World):(callFunc 11 vs).run C1.P w=.ok (.enter 11 vs) w:=by kernel_rfl
theorem kU:CG C3 11 [] [] [] (λd σ=>d=.own 900/\σ=sT [] []):=by
 refine FD E6 (pl:=Yx) (G:=jK) Tryz.func11 rfl Tryz.ntmps11 eA iN (by simp) 999 rfl ?_
 intro vs
 (conv=>whnf)
 (repeat' ((first|refine Ai ?_ ?_|refine WX Nc 1 rfl rfl (by decide) rfl ?_|refine nx ?_|refine A5 (λ_=>?_) (λ_=>?_)|exact AA)<;>conv=>whnf))
 exact⟨_,_,[(3,900),(1,901)],[(3,_),(1,_)],.lo (.refl _ _),rfl,⟨rfl,rfl,trivial⟩,rfl,rfl,rfl⟩
structure TextOk(p:Pt):Prop where
 right:Je p=.nili
 len:p.labels.length<=1000
 lab:∀x∈p.labels,0<=x/\x<=999999
 elen:p.edges.length<=1000
 edg:∀e∈p.edges,(0<=e.a/\e.a<=999999)/\0<=e.b/\e.b<=999999
def SB:List (Nat×Plan):=[(11,.leaf [0,1,2,0,1,2,0,0,3] [0,3,1,4,2,5,6,7,8] [0,1,3,0,8,31,63,127,255]),
 (16,.leaf [0,0,0,1,0,1,3] [0,1,2,4,3,5,6] [0,1,3,7,0,0,63])]
def Ya:List FuncId:=[60,61]
theorem VA:BQ Tryz.prog Ya SB (Tryz.f16.body.getD .skip)=true:=by kernel_rfl
theorem TT(vs:Array Value)(w:World):(callFunc 16 vs).run C1.P w=.ok (.enter 16 vs) w:=by kernel_rfl
theorem cM(m:List (ByteArray×RowV))(X:List (Value×Da))(p:Pt)(n:Int)(r:RowV)(hp:TextOk p)(hn:0<=n)(hr:Reg.get m (bs (Fu p))=some r)(hr0:0<=r.n)(hs:r.n+n<=9223372036854775807):
  CG C3 16 [.own 900,.d (L3 p),.d (.int .i64 n)] (sT m X) [900] (λd σ=>d=.d .nili/\σ=sT (put m (bs (Fu p)) {r with n:=r.n+n}) X):=by
 have hri:=Pure.up3 (GS p (by have:=hp.len;omega) (by have:=hp.elen;omega))
 rw[hp.right]at hri
 have htx:=P3 p hp.len hp.lab hp.elen hp.edg
 have had:=Pure.up3 (R4 r.n n hr0 hn hs)
 have hmem:(bs (Fu p),r)∈m:=by
  unfold Reg.get at hr
  obtain⟨q,hq,e⟩:=BR.1 hr
  have h1:=List.mem_of_find?_eq_some hq
  have h2:=List.find?_some hq
  have h3:q.1=bs (Fu p):=by simpa using h2
  have:q=(bs (Fu p),r):=by rw[<-h3,<-e]
  rw[<-this];exact h1
 have hlk:((Reg.get m (bs (Fu p))).getD Nc.z,(Reg.get m (bs (Fu p))).isSome)=(r,true):=by rw[hr];rfl
 refine FD E6 (pl:=SB) (G:=Ya) Tryz.func16 rfl Tryz.ntmps16 TT VA (by simp) 999 rfl ?_
 intro vs
 (conv=>whnf)
 (repeat' ((first|refine Ai ?_ ?_|refine Aj rfl hri ?_|refine Aj rfl htx ?_|refine PB 901 (bs (Fu p)) rfl rfl rfl rfl ⟨by decide,by decide⟩ rfl hlk ?_|refine Jk E6 9 rfl rfl rfl rfl rfl rfl rfl r.h1 r.h2 ⟨by decide,by decide⟩ rfl ?_|refine Aj rfl had ?_|refine Rw (M:=Nc) 901 (bs (Fu p)) {r with n:=r.n+n} rfl rfl rfl rfl (λh=>Nc.repV _ _ _ _ (EL h rfl)) (λ_ _ _ h=>h _ hmem) ⟨by decide,by decide,by decide⟩ rfl ?_|refine nx ?_|refine A5 (λ_=>?_) (λ_=>?_)|exact AA)<;>conv=>whnf))
 exact⟨_,_,[],sT _ X,.lo (.refl _ _),rfl,⟨rfl,rfl,trivial⟩,rfl,rfl,rfl⟩
theorem cN(m:List (ByteArray×RowV))(X:List (Value×Da))(p:Pt)(n:Int)(hp:TextOk p)(hn:0<=n/\n<=9223372036854775807)(hr:Reg.get m (bs (Fu p))=none):
  CG C3 16 [.own 900,.d (L3 p),.d (.int .i64 n)] (sT m X) [900] (λd σ=>∃r:RowV,(r.n=n/\r.p=p)/\d=.d .nili/\σ=sT (put m (bs (Fu p)) r) ((r.ev,Er p.edges)::(r.lv,Bx p.labels)::X)):=by
 have hri:=Pure.up3 (GS p (by have:=hp.len;omega) (by have:=hp.elen;omega))
 rw[hp.right]at hri
 have htx:=P3 p hp.len hp.lab hp.elen hp.edg
 have had:=Pure.up3 (R4 0 n (by omega) hn.1 (by omega))
 rw[Int.zero_add]at had
 have hlk:((Reg.get m (bs (Fu p))).getD Nc.z,(Reg.get m (bs (Fu p))).isSome)=(Nc.z,false):=by rw[hr];rfl
 have hc1:=D4.up3 (Ib p.labels (by have:=hp.len;omega))
 have hc2:=D4.up3 (RW p.edges (by have:=hp.elen;omega))
 have hf1:EU (p.labels.map dI)=true:=FI dI (λ_=>rfl) _
 have hf2:EU (p.edges.map dE)=true:=FI dE (λ_=>rfl) _
 refine FD E6 (pl:=SB) (G:=Ya) Tryz.func16 rfl Tryz.ntmps16 TT VA (by simp) 999 rfl ?_
 intro vs
 (conv=>whnf)
 (repeat' ((first|refine Ai ?_ ?_|refine Aj rfl hri ?_|refine Aj rfl htx ?_|refine PB 901 (bs (Fu p)) rfl rfl rfl rfl ⟨by decide,by decide⟩ rfl hlk ?_|refine Jk E6 9 rfl rfl rfl rfl rfl rfl rfl rfl rfl ⟨by decide,by decide⟩ rfl ?_|refine Lu 39 rfl rfl hc1 ?_|refine Lu 42 rfl rfl hc2 ?_|refine nx ?_|refine A5 (λ_=>?_) (λ_=>?_)|exact AA)<;>conv=>whnf))
 refine Q6 901 39 rfl rfl hf1 ?_
 intro u1 hu1
 (conv=>whnf)
 refine Q6 901 42 rfl rfl hf2 ?_
 intro u2 hu2
 (conv=>whnf)
 (repeat' ((first|refine Ai ?_ ?_|refine Aj rfl had ?_|refine Rw (M:=Nc) 901 (bs (Fu p)) ⟨u1,u2,n,p,hu1,hu2⟩ rfl rfl rfl rfl (λh=>pL h) (λ_ _ h _=>⟨h (u1,_) (by simp),h (u2,_) (by simp)⟩) ⟨by decide,by decide,by decide⟩ rfl ?_|refine nx ?_|refine A5 (λ_=>?_) (λ_=>?_)|exact AA)<;>conv=>whnf))
 exact⟨_,_,[],sT _ _,.lo (.refl _ _),rfl,⟨rfl,rfl,trivial⟩,rfl,⟨u1,u2,n,p,hu1,hu2⟩,⟨rfl,rfl⟩,rfl,rfl⟩
end Go.Proofs.YtjejpdfldmempaaGreatDoor
end
section
namespace Go.Proofs
open Go.Shelf
def Tryz.sortE_ren:Go.Shelf.Ren:=⟨λ|6=>58|15=>104|14=>103|28=>153|29=>154|20=>145|21=>146|22=>147|23=>148|24=>149|25=>150|26=>151|27=>152|46=>210|47=>211|48=>212|49=>213|50=>214|57=>245|n=>n,λ|22=>29|24=>103|25=>111|3=>3|39=>177|0=>0|53=>184|55=>186|4=>4|46=>218|45=>217|50=>222|5=>5|9=>9|66=>281|70=>285|76=>313|77=>138|n=>n,λ|n=>n⟩
theorem Tryz.sortE:Go.Proofs.SlLaysF0.n6 Tryz.prog Tryz.sortE_ren:={
 mixed:=by kernel_rfl
 f6:=⟨Tryz.f58.name,by decide,Tryz.func58.trans (congrArg some (by kernel_rfl))⟩
 f14:=⟨Tryz.f103.name,by decide,Tryz.func103.trans (congrArg some (by kernel_rfl))⟩
 f15:=Tryz.func104.trans (congrArg some (by kernel_rfl))
 f20:=⟨Tryz.f145.name,by decide,Tryz.func145.trans (congrArg some (by kernel_rfl))⟩
 f21:=⟨Tryz.f146.name,by decide,Tryz.func146.trans (congrArg some (by kernel_rfl))⟩
 f22:=⟨Tryz.f147.name,by decide,Tryz.func147.trans (congrArg some (by kernel_rfl))⟩
 f23:=⟨Tryz.f148.name,by decide,Tryz.func148.trans (congrArg some (by kernel_rfl))⟩
 f24:=⟨Tryz.f149.name,by decide,Tryz.func149.trans (congrArg some (by kernel_rfl))⟩
 f25:=⟨Tryz.f150.name,by decide,Tryz.func150.trans (congrArg some (by kernel_rfl))⟩
 f26:=⟨Tryz.f151.name,by decide,Tryz.func151.trans (congrArg some (by kernel_rfl))⟩
 f27:=⟨Tryz.f152.name,by decide,Tryz.func152.trans (congrArg some (by kernel_rfl))⟩
 f28:=Tryz.func153.trans (congrArg some (by kernel_rfl))
 f29:=Tryz.func154.trans (congrArg some (by kernel_rfl))
 f46:=⟨Tryz.f210.name,by decide,Tryz.func210.trans (congrArg some (by kernel_rfl))⟩
 f47:=Tryz.func211.trans (congrArg some (by kernel_rfl))
 f48:=Tryz.func212.trans (congrArg some (by kernel_rfl))
 f49:=⟨Tryz.f213.name,by decide,Tryz.func213.trans (congrArg some (by kernel_rfl))⟩
 f50:=⟨Tryz.f214.name,by decide,Tryz.func214.trans (congrArg some (by kernel_rfl))⟩
 f57:=⟨Tryz.f245.name,by decide,Tryz.func245.trans (congrArg some (by kernel_rfl))⟩
 t0:=Tryz.underlying0
 a0:=Tryz.isAgg0
 z0:=Tryz.sizeOf0
 v0:=Tryz.zeroValue0
 t3:=Tryz.underlying3
 a3:=Tryz.isAgg3
 z3:=Tryz.sizeOf3
 v3:=Tryz.zeroValue3
 t4:=Tryz.underlying4
 a4:=Tryz.isAgg4
 z4:=Tryz.sizeOf4
 v4:=Tryz.zeroValue4
 t5:=Tryz.underlying5
 a5:=Tryz.isAgg5
 z5:=Tryz.sizeOf5
 v5:=Tryz.zeroValue5
 t9:=Tryz.underlying9
 a9:=Tryz.isAgg9
 z9:=Tryz.sizeOf9
 v9:=Tryz.zeroValue9
 t22:=Tryz.underlying29
 a22:=Tryz.isAgg29
 z22:=Tryz.sizeOf29
 v22:=Tryz.zeroValue29
 t25:=Tryz.underlying111
 a25:=Tryz.isAgg111
 z25:=Tryz.sizeOf111
 v25:=Tryz.zeroValue111
 t39:=Tryz.underlying177
 a39:=Tryz.isAgg177
 z39:=Tryz.sizeOf177
 v39:=Tryz.zeroValue177
 t45:=Tryz.underlying217
 a45:=Tryz.isAgg217
 z45:=Tryz.sizeOf217
 v45:=Tryz.zeroValue217
 t46:=Tryz.underlying218
 a46:=Tryz.isAgg218
 z46:=Tryz.sizeOf218
 v46:=Tryz.zeroValue218
 t50:=Tryz.underlying222
 a50:=Tryz.isAgg222
 z50:=Tryz.sizeOf222
 v50:=Tryz.zeroValue222
 t53:=Tryz.underlying184
 a53:=Tryz.isAgg184
 z53:=Tryz.sizeOf184
 v53:=Tryz.zeroValue184
 t55:=Tryz.underlying186
 a55:=Tryz.isAgg186
 z55:=Tryz.sizeOf186
 v55:=Tryz.zeroValue186
 t66:=Tryz.underlying281
 a66:=Tryz.isAgg281
 z66:=Tryz.sizeOf281
 v66:=Tryz.zeroValue281
 t70:=Tryz.underlying285
 a70:=Tryz.isAgg285
 z70:=Tryz.sizeOf285
 v70:=Tryz.zeroValue285
 t76:=Tryz.underlying313
 a76:=Tryz.isAgg313
 z76:=Tryz.sizeOf313
 v76:=Tryz.zeroValue313
 t77:=Tryz.underlying138
 a77:=Tryz.isAgg138
 z77:=Tryz.sizeOf138
 v77:=Tryz.zeroValue138}
end Go.Proofs
end
section
namespace Go.Reg
open Go Go.RowKit Go.Sort Go.Proofs
section
variable {α:Type} [Inhabited α] {enc:α->List Value} {E k:Nat} {w:World} {l:List α} {g cap:Nat}
theorem Vm(he:∀x,(enc x).length=k)(hk:0<k)(d:Array α)(t:Nat)(ht:t<d.size*k):(d.toList.flatMap enc)[t]? =some (flatK enc k d)[t]! :=by
 have h1:t/k<d.size:=Nat.div_lt_of_lt_mul (by rwa [jE]at ht)
 have h2:t % k<k:=jF _ hk
 have e:=Mx he d.toList (t/k) d[t/k] (t % k) (by simp[h1]) h2
 rw[show t/k*k+t % k=t from Nat.div_add_mod' t k]at e
 rw[e,get_flatK _ _ _ _ ht,getElem!_pos d (t/k) h1]
 have h3:t % k<(enc d[t/k]).length:=by rw[he];exact h2
 rw[Ab h3,getElem!_pos (enc d[t/k]) (t % k) h3]
theorem Sl.holdsK(he:∀x,(enc x).length=k)(hk:0<k)(h:Sl E k enc w (.slice (some ⟨g,0,none⟩) l.length cap) l):HoldsK enc k w g 0 l.toArray:=by
 intro j hj
 have hj':j<l.length*k:=by simpa using hj
 have hc:=IE h (g:=g) rfl j (flatK enc k l.toArray)[j]! (by have:=Vm he hk l.toArray j hj';simpa using this)
 refine⟨by simpa[Cz]using hc,?_⟩
 rcases h.2 with⟨h1,_⟩|⟨g',cap',cur,h1,_,hg,_⟩
 ·cases h1
 ·cases h1
  simp[World.frozen?,hg]
theorem Sl.sorted(he:∀x,(enc x).length=k)(hk:0<k)(h:Sl E k enc w (.slice (some ⟨g,0,none⟩) l.length cap) l)(d:Array α)(hd:d.size=l.length)(n:Nat)(os:Array Obj):
  Sl E k enc (sortWorldK enc k w g 0 n d os) (.slice (some ⟨g,0,none⟩) l.length cap) d.toList/\Tch [g] w (sortWorldK enc k w g 0 n d os):=by
 have hlt:=h.lt (b:=g) rfl
 constructor
 ·have hlen:(d.toList.flatMap enc).length=d.toList.length*k:=by
   generalize d.toList=xs
   induction xs with
   |nil=>simp
   |cons x xs ih=>simp[ih,he,Ct];omega
  refine⟨hlen,?_⟩
  rcases h.2 with⟨h1,_⟩|⟨g',cap',cur,h1,h0,hg,hc,hm,hs,ht⟩
  ·cases h1
  ·cases h1
   refine .inr ⟨g,cap,putCells id 0 (flatK enc k d) cur,by simp[hd],As _,?_,by simp[hd];exact hc,hm,by simp[putCells,hs],?_⟩
   ·simp only[sortWorldK,grow,putRowK,putRow,mapBlock,Sort.ahead]
    rw[Hm (by simpa using hlt)]
    simp[Ca,hg,onCells]
   ·apply Fk
    intro t
    rw[Cy]
    split
    ·rename_i hlt'
     have hlt2:t<d.size*k:=by simpa using hlt'
     rw[Vm he hk d t hlt2]
     have hcs:t<cur.size:=by rw[hs];rw[hd]at hlt2;exact CK hlt2 (Fj k hc)
     simp[putCells,hcs,hlt2]
    ·rename_i hge
     rw[BB (by rw[hlen];omega)]
 ·refine⟨rfl,rfl,rfl,?_,?_⟩
  ·simp[sortWorldK,grow,putRowK,putRow,mapBlock,Sort.ahead]
  ·intro j hj hn
   have hne:g≠j:=λe=>hn (by simp[e])
   simp only[sortWorldK,grow,putRowK,putRow,mapBlock,Sort.ahead]
   rw[Hm (by simpa using hj)]
   simp[Ca,hne]
end
end Go.Reg
end
section
namespace Go.Proofs.YtjejpdfldmempaaGreatDoor
open Go.Sx Go.RowKit Go.Reg Go.Gr
def HU(e:Edg):List Value:=[.int .i64 e.a,.int .i64 e.b]
def KL(e:Edg):Value:=.agg #[.int .i64 e.a,.int .i64 e.b]
theorem Qt(e:Edg):(HU e).length=2:=rfl
theorem Vx(e:Edg):∀u∈HU e,u.oneCell'=true:=by intro u hu;simp[HU]at hu;rcases hu with rfl|rfl<;>rfl
def lS(a b:Int):Int:=if a=0 then b else a
set_option maxRecDepth 100000 in
theorem Qb(a:Int)(w:World):Calls Tryz.prog 143 #[.int .i64 a] w λe w'=>e=.returned (.bool false)/\w=w':=by
 have h:(a !=a)=false:=by simp
 go_enter Tryz.func143,Tryz.ntmps143
 go_wp2_with fail
 go_ret
 exact⟨rfl,rfl⟩
set_option maxRecDepth 100000 in
theorem E4(a b:Int)(w:World):Calls Tryz.prog 101 #[.int .i64 a,.int .i64 b] w λe w'=>e=.returned (.int .i64 (Dg a b))/\w=w':=by
 by_cases h1:a<b
 ·have e1:Dg a b=-1:=by simp[Dg,h1]
  rw[e1]
  clear e1
  go_enter Tryz.func101,Tryz.ntmps101
  go_wp2_with (go_at_call 143;refine(Qb _ _).mono ?_;rintro e w' ⟨rfl,rfl⟩)
  go_ret
  exact⟨rfl,rfl⟩
 ·by_cases h2:b<a
  ·have e1:Dg a b=1:=by simp[Dg,h1,h2]
   rw[e1]
   clear e1
   go_enter Tryz.func101,Tryz.ntmps101
   go_wp2_with (go_at_call 143;refine(Qb _ _).mono ?_;rintro e w' ⟨rfl,rfl⟩)
   go_ret
   exact⟨rfl,rfl⟩
  ·have e1:Dg a b=0:=by simp[Dg,h1,h2]
   rw[e1]
   clear e1
   go_enter Tryz.func101,Tryz.ntmps101
   go_wp2_with (go_at_call 143;refine(Qb _ _).mono ?_;rintro e w' ⟨rfl,rfl⟩)
   go_ret
   exact⟨rfl,rfl⟩
set_option maxRecDepth 100000 in
theorem oB(s:Nat)(a b:Int)(w:World)(c0:w.cell? ⟨s,0,none⟩=some (.int .i64 a))(c1:w.cell? ⟨s,1,none⟩=some (.int .i64 b)):
  Calls Tryz.prog 100 #[.slice (some ⟨s,0,none⟩) 2 2] w λe w'=>e=.returned (.int .i64 (lS a b))/\w=w':=by
 by_cases ha:a=0
 ·subst ha
  have e1:lS 0 b=b:=by simp[lS]
  rw[e1]
  clear e1
  have b0:((0:Int) !=0)=false:=by simp
  by_cases hb:b=0
  ·subst hb
   go_enter Tryz.func100,Tryz.ntmps100
   go_wp2_with fail
   refine wp_loop_rounds 3 ?_
   rw[rounds_succ]
   go_wp2_with fail
   rw[rounds_succ]
   go_wp2_with fail
   rw[rounds_succ]
   go_wp2_with fail
   go_ret
   exact⟨rfl,rfl⟩
  ·have hb':(b !=0)=true:=by simpa using hb
   clear hb
   go_enter Tryz.func100,Tryz.ntmps100
   go_wp2_with fail
   refine wp_loop_rounds 2 ?_
   rw[rounds_succ]
   go_wp2_with fail
   rw[rounds_succ]
   go_wp2_with fail
   go_ret
   exact⟨rfl,rfl⟩
 ·have e1:lS a b=a:=by simp[lS,ha]
  rw[e1]
  have ha':(a !=0)=true:=by simpa using ha
  clear e1 ha
  go_enter Tryz.func100,Tryz.ntmps100
  go_wp2_with fail
  refine wp_loop_rounds 1 ?_
  rw[rounds_succ]
  go_wp2_with fail
  go_ret
  exact⟨rfl,rfl⟩
theorem MB(w:World)(cs:Array Value)(T:TypeId) {s i:Nat} {v:Value}(hs:s=w.heap.size)(h:cs[i]? =some v):(w.alloc (.cells cs T)).drew.cell? ⟨s,i,none⟩=some v:=by
 subst hs
 simp[h]
open Go.Sort Go.Proofs in
set_option maxRecDepth 100000 in
set_option maxHeartbeats 1000000 in
theorem fS(x y:Edg)(W:World):Calls Tryz.prog 166 #[KL x,KL y] W λe w'=>e=.returned (.int .i64 (BW x y))/\∃q os',w'=grow (W.drewN q) os':=by
 unfold KL
 go_enter Tryz.func166,Tryz.ntmps166
 go_wp2_with fail
 refine GP [101] [0,1,0,1,2,0,1,0,1,2,6,3,0] [0,2,5,7,1,3,6,8,4,9,10,11,12] [0,1,0,4,15,0,32,0,128,511,1023,2047,4095] (by kernel_rfl) (by kernel_rfl) ?_
 go_wp2_with (first|(refine CO rfl rfl rfl rfl (λ_ _=>?_))|(refine D8 rfl rfl rfl (λ_ _=>?_)))
 refine Fo rfl rfl rfl (λK1 hK1=>?_)
 go_wp2_with (go_at_call 101;refine(E4 _ _ _).mono ?_;rintro e w' ⟨rfl,rfl⟩)
 refine hK1 _ _ (Ij.refl _) ?_
 go_wp2_with (first|(refine CO rfl rfl rfl rfl (λ_ _=>?_))|(refine D8 rfl rfl rfl (λ_ _=>?_)))
 refine Fo rfl rfl rfl (λK2 hK2=>?_)
 go_wp2_with (go_at_call 101;refine(E4 _ _ _).mono ?_;rintro e w' ⟨rfl,rfl⟩)
 refine hK2 _ _ (Ij.refl _) ?_
 go_wp2_with (first|(refine CO rfl rfl rfl rfl (λ_ _=>?_))|(refine D8 rfl rfl rfl (λ_ _=>?_)))
 refine L5 rfl rfl rfl (λK3 hK3=>?_)
 go_wp2_with fail
 refine(oB _ _ _ _ (MB _ _ _ (by simp) rfl) (MB _ _ _ (by simp) rfl)).mono ?_
 rintro e w' ⟨rfl,rfl⟩
 refine hK3 _ _ ?_
 go_wp2_with (first|(refine CO rfl rfl rfl rfl (λ_ _=>?_))|(refine D8 rfl rfl rfl (λ_ _=>?_))|refine L6 ?_)
 go_ret
 have e:lS (Dg x.a y.a) (Dg x.b y.b)=BW x y:=by
  unfold lS BW
  by_cases h:Dg x.a y.a=0<;>simp[h]
 exact⟨by rw[<-e];rfl,1,_,by rw[alloc_eq_grow,alloc_eq_grow,alloc_eq_grow,grow_grow,grow_grow];rfl⟩
instance:Inhabited Edg:=⟨⟨0,0⟩⟩
open Go.Sort in
theorem iQ:SWO (ltOf BW)where
 irrefl x:=by simp[ltOf,DX]
 trans x y z h1 h2:=by simp only[ltOf,decide_eq_true_eq,DX]at*;omega
 ntrans x y z h1 h2:=by simp only[ltOf,decide_eq_false_iff_not,DX]at*;omega
open Go.Sort in
theorem lA(v:Value)(l:List Edg)(w:World)(h:Sl 103 2 HU w v l)(hl:l.length<=4294967296):
  Calls Tryz.prog 58 #[v,.func (.func 166) #[] #[]] w λe w'=>e=.returned (.tuple #[])/\∃out,Sl 103 2 HU w' v out/\out.Perm l/\
   out.Pairwise (λa b=>¬BW b a<0)/\Tch v.ownBlock.toList w w':=by
 rcases h.shape with⟨rfl,rfl⟩|⟨g,cap,rfl,hc⟩
 ·refine(AnyF.slices_SortFunc_none Tryz.sortE none 0 _ w).mono ?_
  rintro e w' ⟨rfl,rfl⟩
  exact⟨rfl,[],h,List.Perm.refl _,List.Pairwise.nil,Tch.refl _ _⟩
 ·refine(AnyQ.slices_SortFunc Tryz.sortE 2 Tryz.isAgg103 Tryz.sizeOf103 HU (λ_=>rfl) Vx BW iQ 166 #[] g 0 cap l.toArray w
   (enters_of Tryz.func166 (by kernel_rfl) rfl) (λm os dk hs x y=>fS x y _) (h.holdsK Qt (by decide)) (h.lt rfl) (by simp;omega)).mono ?_
  rintro e w' ⟨rfl,d,n,os,hp,hs,rfl⟩
  obtain⟨hp1,hp2,hp3⟩:=hp
  have hd:d.size=l.length:=by simpa using hp1
  obtain⟨hS,hT⟩:=h.sorted Qt (by decide) d hd n os
  refine⟨rfl,d.toList,hS,?_,?_,hT⟩
  ·have e1:d.extract 0 l.toArray.size=d:=by rw[<-hp1];exact Array.extract_size
   have e2:l.toArray.extract 0 l.toArray.size=l.toArray:=Array.extract_size
   rw[e1,e2]at hp3
   exact hp3
  ·rw[AI]
   intro i j hi hj hij
   have hj':j<l.length:=by rw[<-hd];simpa using hj
   have hi':i<l.length:=by omega
   have:=hs i j (As _) hij (by simpa using hj')
   rw[getElem!_pos d j (by omega),getElem!_pos d i (by omega)]at this
   simpa[ltOf]using this
theorem Qv {O:List Nat} {w:World}:∀{l:List Edg} {css:List (List Value)},Al O w (l.map dE) css->css=l.map HU
 |[],css,h=>by simpa only[B4,Al]using h
 |
  e::l,css,h=>by
  simp only[Ap,Al,dE,RepC,RepCs]at h
  obtain⟨c1,c2,rfl,⟨_,_,rfl,rfl,_,_,rfl,rfl,rfl⟩,h⟩:=h
  rw[Qv h];rfl
theorem RT(O:List Nat)(w:World):∀l:List Edg,Al O w (l.map dE) (l.map HU)
 |[]=>by simp[Al]
 |
  e::l=>by
  simp only[Ap,Al]
  exact⟨_,_,rfl,by simp[dE,RepC,RepCs,HU],RT O w l⟩
theorem V0 {E:Nat} {w:World} {v:Value} {l:List Edg}:Sl E 2 id w v (l.map HU)↔Sl E 2 HU w v l:=by
 unfold Sl
 rw[Ac,bU]
 exact Iff.rfl
theorem dN(l:List Edg)(hl:l.length<=4294967296):XU C1 58 103 2 (l.map dE) [.func (.func 166) [] []] (λ_ ds=>∃out:List Edg,ds=out.map dE/\out.Perm l/\out.Pairwise (λa b=>¬BW b a<0)):=by
 intro O w v css us hs hb hO hr hk hg hus
 obtain⟨u,us',rfl,h1,h2⟩:=Cb hus
 obtain rfl:=ED h2
 obtain⟨cs,r,rfl⟩:=h1
 simp only[RepC,Al]at r
 obtain⟨_,_,rfl,rfl,rfl⟩:=r
 obtain rfl:=Qv hr
 refine⟨by kernel_rfl,(lA v l w (V0.1 hs) hl).mono ?_⟩
 rintro e w' ⟨rfl,out,hs',hp,ho,ht⟩
 refine⟨.tuple #[],.tuple [],_,out.map HU,rfl,⟨out,rfl,hp,ho⟩,V0.2 hs',RT _ _ _,?_,⟨[.tuple #[]],by simp only[RepC,Al];exact⟨[],rfl,rfl⟩,rfl⟩,ht⟩
 intro x hx
 obtain⟨e,_,rfl⟩:=Aq.1 hx
 exact⟨rfl,Vx e⟩
end Go.Proofs.YtjejpdfldmempaaGreatDoor
end
section
namespace Go.Proofs.YtjejpdfldmempaaGreatDoor
open Go.Sx Go.RowKit Go.Reg Go.Gr
open Go.Sort Go.Proofs in
set_option maxRecDepth 100000 in
set_option maxHeartbeats 1000000 in
theorem PA(x y:Edg)(W:World):Calls Tryz.prog 50 #[KL x,KL y] W λe w'=>e=.returned (.int .i64 (BW x y))/\∃q os',w'=grow (W.drewN q) os':=by
 unfold KL
 go_enter Tryz.func50,Tryz.ntmps50
 go_wp2_with fail
 refine GP [101] [0,1,0,1,2,0,1,0,1,2,6,3,0] [0,2,5,7,1,3,6,8,4,9,10,11,12] [0,1,0,4,15,0,32,0,128,511,1023,2047,4095] (by kernel_rfl) (by kernel_rfl) ?_
 go_wp2_with (first|(refine CO rfl rfl rfl rfl (λ_ _=>?_))|(refine D8 rfl rfl rfl (λ_ _=>?_)))
 refine Fo rfl rfl rfl (λK1 hK1=>?_)
 go_wp2_with (go_at_call 101;refine(E4 _ _ _).mono ?_;rintro e w' ⟨rfl,rfl⟩)
 refine hK1 _ _ (Ij.refl _) ?_
 go_wp2_with (first|(refine CO rfl rfl rfl rfl (λ_ _=>?_))|(refine D8 rfl rfl rfl (λ_ _=>?_)))
 refine Fo rfl rfl rfl (λK2 hK2=>?_)
 go_wp2_with (go_at_call 101;refine(E4 _ _ _).mono ?_;rintro e w' ⟨rfl,rfl⟩)
 refine hK2 _ _ (Ij.refl _) ?_
 go_wp2_with (first|(refine CO rfl rfl rfl rfl (λ_ _=>?_))|(refine D8 rfl rfl rfl (λ_ _=>?_)))
 refine L5 rfl rfl rfl (λK3 hK3=>?_)
 go_wp2_with fail
 refine(oB _ _ _ _ (MB _ _ _ (by simp) rfl) (MB _ _ _ (by simp) rfl)).mono ?_
 rintro e w' ⟨rfl,rfl⟩
 refine hK3 _ _ ?_
 go_wp2_with (first|(refine CO rfl rfl rfl rfl (λ_ _=>?_))|(refine D8 rfl rfl rfl (λ_ _=>?_))|refine L6 ?_)
 go_ret
 have e:lS (Dg x.a y.a) (Dg x.b y.b)=BW x y:=by
  unfold lS BW
  by_cases h:Dg x.a y.a=0<;>simp[h]
 exact⟨by rw[<-e];rfl,1,_,by rw[alloc_eq_grow,alloc_eq_grow,alloc_eq_grow,grow_grow,grow_grow];rfl⟩
end Go.Proofs.YtjejpdfldmempaaGreatDoor
end
section
namespace Go.Gr
def GC(E:List Edg)(e:Edg):Nat:=E.countP (λx=>decide (BW x e<0))
def Mp(E:List Edg)(x:Edg):List Edg:=E.take (GC E x)++x::E.drop (GC E x)
def Ie(E:List Edg)(i:Nat):List Edg:=((E.take i).map turn).foldl Mp []
theorem aB {E:List Edg}(h:BX E)(x:Edg):(∀y∈E.take (GC E x),BW y x<0)/\∀y∈E.drop (GC E x),¬BW y x<0:=by
 induction E with
 |nil=>simp
 |
  cons z E ih=>
  obtain⟨h1,h2⟩:=BE.1 h
  by_cases hz:BW z x<0
  ·have e:GC (z::E) x=GC E x+1:=by unfold GC;rw[List.countP_cons_of_pos (by simp[hz])]
   rw[e,List.take_succ_cons,List.drop_succ_cons]
   obtain⟨i1,i2⟩:=ih h2
   refine⟨λy hy=>?_,i2⟩
   rcases Ar.1 hy with rfl|hy
   ·exact hz
   ·exact i1 y hy
  ·have hall:∀y∈z::E,¬BW y x<0:=by
    intro y hy
    rcases Ar.1 hy with rfl|hy
    ·exact hz
    ·exactλhc=>hz (EZ (h1 y hy) hc)
   have e:GC (z::E) x=0:=by
    unfold GC
    exact List.countP_eq_zero.2 λy hy=>by have:=hall y hy;simpa using this
   rw[e]
   exact⟨by simp,hall⟩
theorem RH(E:List Edg)(x:Edg):(Mp E x).Perm (x::E):=by
 unfold Mp
 refine List.perm_middle.trans ?_
 rw[CA]
theorem UY {E:List Edg}(h:BX E) {x:Edg}(hx:x∉E):BX (Mp E x):=by
 obtain⟨h1,h2⟩:=aB h x
 unfold Mp
 have hg:∀y∈E.drop (GC E x),BW x y<0:=λy hy=>by
  rcases M9 x y with h3|h3|h3
  ·exact h3
  ·subst h3;exact absurd (List.mem_of_mem_drop hy) hx
  ·exact absurd h3 (h2 y hy)
 refine DZ.2 ⟨nT (List.take_sublist _ _) h,BE.2 ⟨hg,nT (List.drop_sublist _ _) h⟩,λa ha b hb=>?_⟩
 rcases Ar.1 hb with rfl|hb
 ·exact h1 a ha
 ·exact EZ (h1 a ha) (hg b hb)
theorem Ql(L:List Edg)(hn:L.Nodup):∀E,BX E->(∀x∈L,x∉E)->BX (L.foldl Mp E)/\(L.foldl Mp E).Perm (L++E):=by
 induction L with
 |nil=>intro E h _;exact⟨h,List.Perm.refl _⟩
 |
  cons x L ih=>
  intro E h hx
  obtain⟨n1,n2⟩:=Ce.1 hn
  have hs:=UY h (hx x (by simp))
  obtain⟨i1,i2⟩:=ih n2 (Mp E x) hs (λy hy hm=>by
   have:=(RH E x).mem_iff.1 hm
   rcases Ar.1 this with rfl|h3
   ·exact n1 hy
   ·exact hx y (by simp[hy]) h3)
  refine⟨i1,i2.trans ?_⟩
  refine(List.Perm.append_left L (RH E x)).trans ?_
  exact List.perm_middle
theorem nP {E:List Edg}(hn:(E.map turn).Nodup)(i:Nat):BX (Ie E i)/\(Ie E i).Perm ((E.take i).map turn):=by
 have hn':((E.take i).map turn).Nodup:=by rw[Fy];exact hn.sublist (List.take_sublist _ _)
 have:=Ql _ hn' [] List.Pairwise.nil (by simp)
 rwa [C4]at this
theorem bR {E:List Edg} {i:Nat} {x:Edg}(h:E[i]? =some x):Ie E (i+1)=Mp (Ie E i) (turn x):=by
 unfold Ie
 rw[A2,h]
 simp
end Go.Gr
end
section
namespace Go.Gr
theorem H5 {p:Pt}(h:Hj p=none):Jr p.labels=none/\(∀e∈p.edges,0<=e.a/\e.a<e.b/\e.b<p.labels.length)/\BX p.edges:=by
 unfold Hj at h
 cases hl:Jr p.labels with
 |some x=>rw[hl]at h;cases h
 |
  none=>
  rw[hl]at h
  obtain⟨h1,h2⟩:=aX h
  refine⟨rfl,h1,?_⟩
  unfold BX
  rw[AI]
  intro i j hi hj hij
  obtain⟨d,rfl⟩:∃d,j=i+1+d:=⟨j- (i+1),by omega⟩
  induction d with
  |zero=>exact h2 i _ _ (Ab hi) (Ab hj)
  |
   succ d ih=>
   have hj':i+1+d<p.edges.length:=by omega
   exact EZ (ih hj' (by omega)) (h2 (i+1+d) _ _ (Ab hj') (Ab hj))
end Go.Gr
namespace Go.Proofs.YtjejpdfldmempaaGreatDoor
open Go.Sx Go.RowKit Go.Reg Go.Gr
set_option maxRecDepth 100000
theorem QZ(e:Edg):turn (turn e)=turn e:=by unfold turn;simp only[Edg.mk.injEq];omega
end Go.Proofs.YtjejpdfldmempaaGreatDoor
end
section
namespace Go.Gr
def EY {α:Type}(f:α->α->Int):List α->List α->Int
 |[],[]=>0
 |[],_::_=>-1
 |_::_,[]=>1
 |x::a,y::b=>if f x y=0 then EY f a b else f x y
theorem Dq {α:Type}(f:α->α->Int)(x y:α)(a b:List α):EY f (x::a) (y::b)=if f x y=0 then EY f a b else f x y:=rfl
def WV:List Int->Int
 |[]=>0
 |x::l=>if x=0 then WV l else x
def Ia(p q:Pt):Int:=WV [Dg p.labels.length q.labels.length,EY Dg p.labels q.labels,Dg p.edges.length q.edges.length,EY BW p.edges q.edges]
end Go.Gr
end
section
namespace Go.Sx
open Go Go.RowKit Go.Reg
structure Grow(S:List Nat)(A:World)(S':List Nat)(B:World):Prop where
 tch:Tch S A B
 sub:∀b∈S,b∈S'
 new:∀b∈S',b∈S\/A.heap.size<=b
 lt:∀b∈S',b<B.heap.size
theorem Grow.refl {S:List Nat} {A:World}(h:∀b∈S,b<A.heap.size):Grow S A S A:=⟨Tch.refl _ _,λ_ h=>h,λ_ h=>.inl h,h⟩
theorem Grow.same {S:List Nat} {A B:World}(t:Tch S A B)(h:∀b∈S,b<A.heap.size):Grow S A S B:=⟨t,λ_ h=>h,λ_ h=>.inl h,λb hb=>CK (h b hb) t.size⟩
theorem Grow.trans {S S' S2:List Nat} {A B C:World}(h:Grow S A S' B)(k:Grow S' B S2 C):Grow S A S2 C:=
 ⟨h.tch.trans k.tch (λ_ h=>h) (λb hb=>h.new b hb),λb hb=>k.sub b (h.sub b hb),λb hb=>(k.new b hb).elim (λhb=>h.new b hb) (λhb=>.inr (Cv h.tch.size hb)),k.lt⟩
theorem Grow.later {S S':List Nat} {A B:World}(h:Grow S A S' B):Later S A S' B:=⟨h.tch.size,λb hb hn=>h.tch.blk b hb hn,λb hn hb hm=>(h.new b hm).elim hn (λh=>by omega)⟩
end Go.Sx
end
section
namespace Go.Gr
open Go.Proofs.YtjejpdfldmempaaGreatDoor
theorem GU {α:Type} [DecidableEq α]:∀{l m:List α},l.Nodup->(∀x∈l,x∈m)->m.length<=l.length->l.Perm m
 |
  [],m,_,_,h=>by
  have:m=[]:=AE (by simpa using h)
  subst this;exact .refl _
 |
  x::l,m,hn,hs,h=>by
  obtain⟨h1,h2⟩:=Ce.1 hn
  have hx:x∈m:=hs x (by simp)
  have hp:=List.perm_cons_erase hx
  have hl:m.length=(m.erase x).length+1:=by have:=hp.length_eq;simpa using this
  refine(List.Perm.cons x (GU h2 (λy hy=>?_) ?_)).trans hp.symm
  ·exact(List.mem_erase_of_ne (λe=>by subst e;exact h1 hy)).2 (hs y (by simp[hy]))
  ·simp only[Ax]at h;omega
theorem Nk {α:Type} [DecidableEq α] {l m:List α}(hn:l.Nodup)(hs:∀x∈l,x∈m):l.length<=m.length:=by
 rcases Bu m.length l.length with h|h
 ·have:=(GU hn hs (by omega)).length_eq;omega
 ·exact h
def oH(n:Nat)(b:List Int):Prop:=b.length=n/\(∀x∈b,0<=x/\x<(n:Int))/\b.Nodup
instance(n:Nat)(b:List Int):Decidable (oH n b):=by unfold oH;exact inferInstance
def pl(b:List Int)(i:Nat):Nat:=((b[i]?).getD 0).toNat
section
variable {n:Nat} {a b:List Int}
end
structure PtOk(n:Nat)(p:Pt):Prop where
 len:p.labels.length=n
 edge:∀e∈p.edges,0<=e.a/\e.a<e.b/\e.b<(n:Int)
 strict:BX p.edges
end Go.Gr
end
section
namespace Go.Gr
open Go.Proofs.YtjejpdfldmempaaGreatDoor
structure TOrd {α:Type}(f:α->α->Int):Prop where
 eq0:∀x y,f x y=0↔x=y
 anti:∀x y,f y x<0↔0<f x y
 trans:∀x y z,f x y<0->f y z<0->f x z<0
theorem kT:TOrd Dg:=⟨M8,λx y=>by rw[bJ];omega,λx y z=>by rw[M7,M7,M7];omega⟩
theorem pE {α:Type} {f:α->α->Int}(h:TOrd f):TOrd (EY f):=by
 refine⟨λx=>?_,λx=>?_,λx=>?_⟩
 ·induction x with
  |nil=>intro y;cases y<;>simp[EY]
  |
   cons a x ih=>
   intro y
   cases y with
   |nil=>simp[EY]
   |
    cons b y=>
    rw[Dq]
    by_cases e:f a b=0
    ·rw[if_pos e,ih y]
     have:=(h.eq0 a b).1 e
     subst this;simp
    ·rw[if_neg e]
     have:a≠b:=λhh=>e ((h.eq0 a b).2 hh)
     simp[e,this]
 ·induction x with
  |nil=>intro y;cases y<;>simp[EY]
  |
   cons a x ih=>
   intro y
   cases y with
   |nil=>simp[EY]
   |
    cons b y=>
    rw[Dq,Dq]
    by_cases e:f a b=0
    ·have:=(h.eq0 a b).1 e
     subst this
     rw[if_pos e,if_pos e];exact ih y
    ·have e2:f b a≠0:=λhh=>e ((h.eq0 a b).2 ((h.eq0 b a).1 hh).symm)
     rw[if_neg e,if_neg e2];exact h.anti a b
 ·induction x with
  |nil=>intro y z;cases y<;>cases z<;>simp[EY]
  |
   cons a x ih=>
   intro y z
   cases y with
   |nil=>simp[EY]
   |
    cons b y=>
    cases z with
    |nil=>simp[EY]
    |
     cons c z=>
     rw[Dq,Dq,Dq]
     by_cases e1:f a b=0
     ·have:=(h.eq0 a b).1 e1
      subst this
      rw[if_pos e1]
      by_cases e2:f a c=0
      ·rw[if_pos e2,if_pos e2];exact ih y z
      ·rw[if_neg e2,if_neg e2];exactλ_ h=>h
     ·rw[if_neg e1]
      by_cases e2:f b c=0
      ·have:=(h.eq0 b c).1 e2
       subst this
       rw[if_pos e2,if_neg e1];exactλh _=>h
      ·rw[if_neg e2]
       intro h1 h2
       have h3:=h.trans _ _ _ h1 h2
       rw[if_neg (by omega)];exact h3
theorem Ow {α:Type} {f:α->α->Int}(h:TOrd f):∀{a b:List α} (c d:List α),a.length=b.length->EY f (a++c) (b++d)=if EY f a b=0 then EY f c d else EY f a b
 |[],[],c,d,_=>by simp[EY]
 |
  x::a,y::b,c,d,hl=>by
  rw[Bo,Bo,Dq,Dq,Ow h (a:=a) (b:=b) c d (by simpa using hl)]
  by_cases e:f x y=0
  ·simp[e]
  ·simp[e]
 |[],_::_,_,_,hl=>by simp at hl
 |_::_,[],_,_,hl=>by simp at hl
def aH(p:Pt):List Int:=(p.labels.length:Int)::(p.labels++(p.edges.length:Int)::p.edges.flatMap λe=>[e.a,e.b])
theorem Q3:∀E F:List Edg,EY BW E F=EY Dg (E.flatMap λe=>[e.a,e.b]) (F.flatMap λe=>[e.a,e.b])
 |[],[]=>rfl
 |[],_::_=>rfl
 |_::_,[]=>rfl
 |
  x::E,y::F=>by
  simp only[AZ,Bo,CN,Dq]
  rw[Q3 E F]
  unfold BW
  by_cases h:Dg x.a y.a=0
  ·simp[h]
  ·simp[h]
theorem HY(p q:Pt):Ia p q=EY Dg (aH p) (aH q):=by
 unfold Ia aH WV
 rw[Dq]
 by_cases h1:Dg (p.labels.length:Int) (q.labels.length:Int)=0
 ·rw[if_pos h1,if_pos h1,Ow kT _ _ (by have:=(M8 _ _).1 h1;omega)]
  unfold WV
  by_cases h2:EY Dg p.labels q.labels=0
  ·rw[if_pos h2,if_pos h2,Dq,<-Q3]
   unfold WV
   by_cases h3:Dg (p.edges.length:Int) (q.edges.length:Int)=0
   ·rw[if_pos h3,if_pos h3];unfold WV
    by_cases h4:EY BW p.edges q.edges=0
    ·rw[if_pos h4,h4];rfl
    ·rw[if_neg h4]
   ·rw[if_neg h3,if_neg h3]
  ·rw[if_neg h2,if_neg h2]
 ·rw[if_neg h1,if_neg h1]
theorem Vk:∀{E F:List Edg},(E.flatMap λe=>[e.a,e.b])=(F.flatMap λe=>[e.a,e.b])->E=F
 |[],[],_=>rfl
 |[],_::_,h=>by simp at h
 |_::_,[],h=>by simp at h
 |
  x::E,y::F,h=>by
  simp only[AZ,Bo,CN,Dh]at h
  rw[Vk h.2.2]
  cases x;cases y;simp only at h;simp[h.1,h.2.1]
theorem gU {p q:Pt}(h:aH p=aH q):p=q:=by
 unfold aH at h
 rw[Dh]at h
 obtain⟨h1,h2⟩:=List.append_inj h.2 (by have:=h.1;omega)
 rw[Dh]at h2
 cases p;cases q
 simp only at h1 h2
 simp[h1,Vk h2.2]
theorem OY:TOrd Ia:=⟨λx y=>by
  rw[HY,(pE kT).eq0];exact⟨gU,λh=>by rw[h]⟩,λx y=>by
  rw[HY,HY];exact(pE kT).anti _ _,λx y z=>by
  rw[HY,HY,HY];exact(pE kT).trans _ _ _⟩
instance:DecidableEq Pt:=λp q=>decidable_of_iff (Ia p q=0) (OY.eq0 p q)
section
variable {α:Type} {f:α->α->Int}(h:TOrd f)
include h
theorem TOrd.le_of {x y:α}(hxy:f x y<=0):f x y<0\/x=y:=by
 rcases Int.lt_or_eq_of_le hxy with h1|h1
 ·exact .inl h1
 ·exact .inr ((h.eq0 _ _).1 h1)
theorem TOrd.self(x:α):f x x=0:=(h.eq0 x x).2 rfl
theorem TOrd.le_trans {x y z:α}(h1:f x y<=0)(h2:f y z<=0):f x z<=0:=by
 rcases h.le_of h1 with h1|rfl
 ·rcases h.le_of h2 with h2|rfl
  ·exact Int.le_of_lt (h.trans _ _ _ h1 h2)
  ·omega
 ·exact h2
end
theorem Oq {α:Type}(p:α->Bool):∀l:List α,l.length=(l.filter p).length+(l.filter λx=>!p x).length
 |[]=>rfl
 |
  x::l=>by
  have:=Oq p l
  cases h:p x with
  |true=>rw[List.filter_cons_of_pos h,List.filter_cons_of_neg (by simp[h]),Ax,Ax];omega
  |false=>rw[List.filter_cons_of_neg (by simp[h]),List.filter_cons_of_pos (by simp[h]),Ax,Ax];omega
theorem nG {α β:Type} [DecidableEq β](f:α->β)(k:Nat):∀(m:Nat) (l:List α),l.length<=m->(∀y∈l,(l.filter λx=>decide (f x=f y)).length=k)->∃c:List β,c.Nodup/\(∀b,b∈c↔∃x∈l,f x=b)/\l.length=c.length*k
 |_,[],_,_=>⟨[],by simp,by simp,by simp⟩
 |0,x::l,h,_=>by simp at h
 |
  m+1,x::l,h,hk=>by
  have h2:=Oq (λy=>decide (f y=f x)) (x::l)
  have hx:=hk x (by simp)
  have hlt:((x::l).filter λy=>!decide (f y=f x)).length<=m:=by
   have:1<=((x::l).filter λy=>decide (f y=f x)).length:=by
    rw[List.filter_cons_of_pos (by simp)];simp
   simp only[Ax]at h h2
   omega
  obtain⟨c,h3,h4,h5⟩:=nG f k m ((x::l).filter λy=>!decide (f y=f x)) hlt (λy hy=>by
   obtain⟨hy1,hy2⟩:=A3.1 hy
   rw[<-hk y hy1,List.filter_filter]
   congr 1
   refine List.filter_congr λz _=>?_
   simp only[BC,decide_eq_false_iff_not]at hy2
   by_cases e:f z=f y
   ·rw[e];simp[hy2]
   ·simp[e])
  refine⟨f x::c,Ce.2 ⟨λhm=>?_,h3⟩,λb=>?_,?_⟩
  ·obtain⟨y,hy,e⟩:=(h4 _).1 hm
   have:=(A3.1 hy).2
   simp[e]at this
  ·rw[Ar,h4]
   constructor
   ·rintro(rfl|⟨y,hy,rfl⟩)
    ·exact⟨x,by simp,rfl⟩
    ·exact⟨y,(A3.1 hy).1,rfl⟩
   ·rintro⟨y,hy,rfl⟩
    by_cases e:f y=f x
    ·exact .inl e
    ·exact .inr ⟨y,A3.2 ⟨hy,by simpa using e⟩,rfl⟩
  ·rw[h2,hx,h5,Ax,Ct];omega
end Go.Gr
end
