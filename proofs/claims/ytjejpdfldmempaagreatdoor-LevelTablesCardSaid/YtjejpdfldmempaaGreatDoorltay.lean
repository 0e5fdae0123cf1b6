/- Merged: Ins Pte Qip Clp Qif Qig Qih Pmk Pmg Lnm Qtp Flx Flt Fau Fst Fsu Qii. -/
import Derived.Test.YtjejpdfldmempaaGreatDoorltar
import Derived.Test.YtjejpdfldmempaaGreatDoorltah
import Derived.Test.YtjejpdfldmempaaGreatDoorltan
import Derived.Shelf.Spec.SlicesInsert
import Derived.Lib.AppendZerosOnto
import Derived.Laws.CopyRow
import Derived.Test.YtjejpdfldmempaaGreatDoorltas
import Derived.Test.YtjejpdfldmempaaGreatDoorltav
import Derived.Test.YtjejpdfldmempaaGreatDoorltaq
import Derived.Test.YtjejpdfldmempaaGreatDoorltap
import Derived.Test.YtjejpdfldmempaaGreatDoorltaw
import Derived.Test.YtjejpdfldmempaaGreatDoorltat
import Derived.Test.YtjejpdfldmempaaGreatDoorRows
import Derived.Test.YtjejpdfldmempaaGreatDoorltae
import Derived.Test.YtjejpdfldmempaaGreatDoorltaf
import Derived.WalkSpells
import Derived.WalkLawsBesides
section
namespace Go.Reg
open Go Go.RowKit
section
variable {P:Program} {α:Type}
theorem FO(w:World)(dT sT ty elem:TypeId)(k:Nat)(g o dLen dCap:Nat)(a:Addr)(sLen sCap:Nat)(cur:Array Value)(t:TypeId)(cs:List Value)
  (hu:P.underlying dT=some (.slice elem)) (hs:(P.info? elem).map (·.size)=some k)
  (hg:w.heap[g]? =some (.cells cur t (0,0))) (hn:cs.length=Nat.min sLen dLen*k)
  (hsrc:∀j v,cs[j]? =some v->w.cell? (a.add j)=some v) (hfit:o+cs.length<=cur.size) (h1:∀v∈cs,v.oneCell'=true):
  (Builtin.copy_ #[dT,sT] ty #[.slice (some ⟨g,o,none⟩) dLen dCap,.slice (some a) sLen sCap]).run P w=
   .ok (goInt (Nat.min sLen dLen)) (w.setRow g (cur.toList.take o++cs++cur.toList.drop (o+cs.length)).toArray):=by
 have hl:=run_loadCells_list (P:=P) w a cs hsrc
 have hst:=run_storeCells_at P g o t cs 0 cur w hg (by simpa using hfit) h1
 cases hq:P.info? elem with
 |none=>simp[hq]at hs
 |
  some i=>
  have hi:i.size=k:=by simpa[hq]using hs
  simp[Builtin.copy_,run_underlying hu,Builtin.lenOf,Builtin.firstCells,sizeOf,typeInfo,hq,hi,<-hn,hl,hst]
theorem MY(w:World)(tS tR e:TypeId)(ht:P.underlying tS=some (.slice e))(size:Nat)(hz:∀w,(Go.sizeOf e).run P w=.ok size w)
  (a b:Addr) (la ca lb cb:Nat) (hne:a.block≠b.block) {cA cB:Array Value} {tA tB:TypeId} {frA:Nat×Nat} (ha:w.heap[a.block]? =some (.cells cA tA frA)) (hb:w.heap[b.block]? =some (.cells cB tB (0,0))) (hA:cA.size≠0) (hB:cB.size≠0):
  (Extern.SlicesOverlaps.overlaps #[tS,tS] #[tR] #[.slice (some a) la ca,.slice (some b) lb cb]).run P w=.ok (.bool false) w:=by
 have hnb:(a.block !=b.block)=true:=by simpa using hne
 have hnb':(a.block==b.block)=false:=by simpa using hne
 have hsa:w.shape? a.block=some (tA,cA.size):=by simp[World.shape?,ha]
 have hsb:w.shape? b.block=some (tB,cB.size):=by simp[World.shape?,hb]
 have hfb:w.frozen? b=false:=by simp[World.frozen?,hb]
 have hfb2:w.frozen? {block:=b.block,off:=cB.size}=false:=by simp[World.frozen?,hb]
 generalize hka:cA.size=kA at*
 generalize hkb:cB.size=kB at*
 cases kA with
 |zero=>exact absurd rfl hA
 |
  succ kA=>
  cases kB with
  |zero=>exact absurd rfl hB
  |
   succ kB=>
   change Sem.run P (α:=Value) (do
    let some t:=(#[tS,tS]:Array TypeId)[0]? |stuck "slices.overlaps: no parameter types"
    let .slice elem<-underlying t|stuck "slices.overlaps: slice type expected"
    let size<-sizeOf elem
    match(some a:Option Addr),(some b:Option Addr)with
    |
     some a,some b=>
     if la=0\/lb=0\/size=0 then pure (Value.bool false)
     else if a.block !=b.block&&(<-frozen a)&&(<-frozen b)then unsupported .addressObserved
     else do
      if a.block !=b.block then do
       noView a;noView b
       if<-mayBeOne a b then return Value.bool ((<-choose (.extern "sameAddr.stringBytes" 2))==1)
      pure (Value.bool (a.block==b.block&&a.off<b.off+lb*size&&b.off<a.off+la*size))
    |_,_=>pure (Value.bool false)) w=_
   by_cases h0:la=0\/lb=0\/size=0
   ·simp[run_underlying ht,hz,h0]
   ·cases hfa:w.frozen? a<;>cases hfe:w.frozen? {block:=a.block,off:=kA+1}<;>
     simp[run_underlying ht,hz,h0,hnb,hnb',frozen,noView,viewAt,mayBeOne,stringish,shape,Sem.run,hsa,hsb,hfb,hfb2,hfa,hfe]
theorem Pr {E k:Nat} {enc:α->List Value}(he:∀x,(enc x).length=k)(h1:∀x,∀u∈enc x,u.oneCell'=true) {t:TypeId} {bytes:Nat}(ht:P.underlying t=some (.slice E))(hinfo:(P.info? E).map (λi=>(i.zero.map (·.cells.size),i.size,i.bytes))=some (some k,k,bytes))(hkb:(decide (0<k)&&decide (bytes<=1000))=true)
  {w:World} {v:Value} {l:List α} (h:Sl E k enc w v l) (hlen:l.length<=4294967296) (x:α) {a:Addr} {c:Nat} (hnews:∀j u,(enc x)[j]? =some u->w.cell? (a.add j)=some u) (ty:TypeId):
  ∃v' w',(Builtin.append_ #[t,t] ty #[v,.slice (some a) 1 c]).run P w=.ok v' w'/\Sl E k enc w' v' (l++[x])/\Tch v.ownBlock.toList w w'/\(v'.ownBlock=v.ownBlock\/v'.ownBlock=some w.heap.size):=by
 obtain⟨i,z,hi,hz,hsize,hby,hzs⟩:∃i z,P.info? E=some i/\i.zero=some z/\i.size=k/\i.bytes=bytes/\z.cells.size=k:=by
  cases hP:P.info? E with
  |none=>rw[hP]at hinfo;cases hinfo
  |
   some i=>
   rw[hP]at hinfo
   simp only[CM,Au,XX,BR]at hinfo
   obtain⟨⟨z,hz,h1⟩,h2,h3⟩:=hinfo
   exact⟨i,z,rfl,hz,h2,h3,h1⟩
 simp only[Ah,decide_eq_true_eq]at hkb
 obtain⟨hk,hb0⟩:=hkb
 have hl1:(enc x).length=1*k:=by rw[he];omega
 have hfit:(l.length+1)*bytes<=4294967297*1000:=D2 (by omega) hb0
 obtain⟨v',w',hr,ho,hg,_⟩:=run_append_own (P:=P) w 0 t ty E i z k bytes ht hi hz hsize hby hzs hk v l.length (l.flatMap enc) h a 1 c (enc x) hl1 hnews (h1 x) (by simp only[maxLen];omega) (by omega) (As _)
 refine⟨v',w',hr,?_,⟨hg.os,hg.tape,hg.output,hg.size,λj hj hn=>hg.block j hj (λe=>hn (by rw[<-e];simp))⟩,?_⟩
 ·unfold Sl;simpa using ho
 ·subst hsize
  subst hby
  rcases h.2 with⟨rfl,hn⟩|⟨g,cap,cur,rfl,_,hcur,hnc,hcm,hcs,htake⟩
  ·have hx':=run_append_nil (P:=P) w t ty E i z ht hi hz a 1 c (enc x) hl1 hnews (by omega) (by omega) (by omega)
   rw[hx']at hr
   simp at hr
   exact .inr (by rw[<-hr.1];rfl)
  ·by_cases hroom:l.length+1<=cap
   ·have hfit2:l.length*i.size+(enc x).length<=cur.size:=by rw[hl1,hcs,<-Ct];exact Fj _ hroom
    have hx':=run_append_room (P:=P) w t ty E i ht hi g l.length cap cur hcur a 1 c (enc x) hl1 hnews (h1 x) hroom hfit2
    rw[hx']at hr
    simp at hr
    exact .inl (by rw[<-hr.1];rfl)
   ·have holds:∀j u,(l.flatMap enc)[j]? =some u->w.cell? ((⟨g,0,none⟩:Addr).add j)=some u:=IE h (g:=g) rfl
    have hx':=run_append_grow (P:=P) w t ty E i z ht hi hz ⟨g,0,none⟩ l.length cap (l.flatMap enc) h.1 holds a 1 c (enc x) hl1 hnews (by omega) (by omega) (growslice_fits (by omega) (by omega))
    rw[hx']at hr
    simp at hr
    exact .inr (by rw[<-hr.1];rfl)
end
end Go.Reg
namespace Go.Proofs.YtjejpdfldmempaaGreatDoor
open Go.Sx Go.RowKit Go.Reg Go.Gr
theorem Jw:Tryz.prog.follows .mixedOrders=true:=by kernel_rfl
def B7(e:Edg):List Value:=[.int .i64 e.a,.int .i64 e.b]
theorem Gy(e:Edg):(B7 e).length=2:=rfl
theorem Gx(e:Edg):∀u∈B7 e,u.oneCell'=true:=by
 intro u hu;simp[B7]at hu;rcases hu with rfl|rfl<;>rfl
theorem QS:(Tryz.prog.info? 103).map (λi=>(i.zero,i.size,i.bytes))=some (some (.agg #[.int .i64 0,.int .i64 0]),2,16):=by kernel_rfl
theorem Wc:(Tryz.prog.info? 103).map (λi=>(i.zero.map (·.cells.size),i.size,i.bytes))=some (some 2,2,16):=by kernel_rfl
theorem E1(l:List Edg):(l.flatMap B7).length=l.length*2:=by
 induction l with
 |nil=>rfl
 |cons x l ih=>simp[ih,B7];omega
theorem Ol(l:List Edg)(i:Nat):(l.take i).flatMap B7=(l.flatMap B7).take (i*2):=by
 induction l generalizing i with
 |nil=>simp
 |
  cons x l ih=>
  cases i with
  |zero=>simp
  |
   succ i=>
   simp only[List.take_succ_cons,AZ,ih]
   rw[List.take_append,Gy,show(i+1)*2-2=i*2 from by omega,Ao (l:=B7 x) (by rw[Gy];omega)]
theorem Om(l:List Edg)(i:Nat):(l.drop i).flatMap B7=(l.flatMap B7).drop (i*2):=by
 induction l generalizing i with
 |nil=>simp
 |
  cons x l ih=>
  cases i with
  |zero=>simp
  |
   succ i=>
   simp only[List.drop_succ_cons,AZ,ih]
   rw[bW,Gy,show(i+1)*2-2=i*2 from by omega,Gg (l:=B7 x) (by rw[Gy];omega),CN]
def IF(l:List Edg)(w:World)(v:Value)(e:Ending)(w':World):Prop:=
 ∃v',e=.returned v'/\Sl 103 2 B7 w' v' l/\Tch v.ownBlock.toList w w'/\∀b∈v'.ownBlock.toList,b∈v.ownBlock.toList\/w.heap.size<=b
set_option maxRecDepth 100000 in
set_option maxHeartbeats 1000000 in
theorem Xv(v:Value)(l:List Edg)(e:Edg)(w:World)(h:Sl 103 2 B7 w v l)(hl:l.length<=4294967296)(vb vo vc:Nat)(hv:∀j u,(B7 e)[j]? =some u->w.cell? ⟨vb,vo+j,none⟩=some u):
  Calls Tryz.prog 194 #[v,.int .i64 l.length,.slice (some ⟨vb,vo,none⟩) 1 vc] w (IF (l++[e]) w v):=by
 have mixed:=Jw
 obtain⟨v',w',hr,ho,ht,hb⟩:=Pr (P:=Tryz.prog) Gy Gx Tryz.underlying29 Wc (by decide) h hl e (a:=⟨vb,vo,none⟩) (c:=vc) (λj u hu=>by rw[Cz];exact hv j u hu) 29
 have HR:=EO hr
 have HF:IF (l++[e]) w v (.returned v') w':=⟨_,rfl,ho,ht,λb hbm=>by
  rcases hb with hb|hb
  ·rw[hb]at hbm;exact .inl hbm
  ·rw[hb]at hbm;simp at hbm;subst hbm;exact .inr (Av _)⟩
 rcases h.shape with⟨rfl,rfl⟩|⟨g,cap,rfl,hc⟩
 ·clear h hv hr ho ht hb
  go_enter Tryz.func194,Tryz.ntmps194
  go_wp2_with (first|(at_builtin;refine wpList_plain rfl (λK hK=>?_);refine MM rfl rfl rfl HR.out ?_;go_simp))
  go_ret
  exact HF
 ·clear h hv hr ho ht hb
  generalize l.length=n at*
  have hnc:¬(cap<n):=by omega
  go_enter Tryz.func194,Tryz.ntmps194
  go_wp2_with (first|(at_builtin;refine wpList_plain rfl (λK hK=>?_);refine MM rfl rfl rfl HR.out ?_;go_simp))
  all_goals (go_ret;exact HF)
theorem Qe(w:World)(g:Nat)(cs:Array Value):Tch [g] w (w.setRow g cs):=⟨rfl,rfl,rfl,by simp[World.setRow],λk _ hn=>setRow_other w g k cs (by simpa using hn)⟩
theorem Rb {α:Type}(L A M:List α)(a m:Nat)(hA:A.length=a)(hL:L.take a=A)(_hLl:a+M.length<=L.length)(hm:m=a+M.length):(L.take a++M++L.drop (a+M.length)).take m=A++M:=by
 subst hm
 rw[hL,Br (by simp;omega),Ao (by simp;omega)]
theorem Mh {α:Type}(L M:List α)(a:Nat)(h:a+M.length<=L.length):(L.take a++M++L.drop (a+M.length)).length=L.length:=by simp;omega
set_option maxRecDepth 100000 in
set_option maxHeartbeats 2000000 in
theorem UX(g n i:Nat)(cur:Array Value)(l:List Edg)(e:Edg)(w:World)(hg:w.heap[g]? =some (.cells cur 103 (0,0)))(htake:cur.toList.take (n*2)=l.flatMap B7)(hln:l.length=n)(hi:i<n)(hl:n<=4294967296)
  (vb vo vc:Nat) (hv:∀j u,(B7 e)[j]? =some u->w.cell? ⟨vb,vo+j,none⟩=some u):
  Calls Tryz.prog 194 #[.slice (some ⟨g,0,none⟩) n n,.int .i64 i,.slice (some ⟨vb,vo,none⟩) 1 vc] w (IF (l.take i++e::l.drop i) w (.slice (some ⟨g,0,none⟩) n n)):=by
 have mixed:=Jw
 obtain⟨i0,hin,hz0,hz1,hz2⟩:=info_parts QS
 have hfl:(l.flatMap B7).length=n*2:=by rw[E1,hln]
 have hgl:=(A6.1 hg).1
 have hcells:∀j u,(l.flatMap B7)[j]? =some u->w.cell? ⟨g,j,none⟩=some u:=λj u hu=>by
  rw[<-htake,Cy]at hu
  split at hu
  ·simp only[World.cell?,hg];simpa using hu
  ·cases hu
 have hlt:((l.take i).flatMap B7).length=i*2:=by rw[E1,Aw,hln];omega
 have hld:((l.drop i).flatMap B7).length=(n-i)*2:=by rw[E1,FN,hln]
 have hold:(Builtin.firstCells i0.size i (.slice (some ⟨g,0,none⟩) i n)).run Tryz.prog w.drew=.ok ((l.take i).flatMap B7).toArray w.drew:=by
  rw[hz1]
  refine run_firstCells_some w.drew 2 i ⟨g,0,none⟩ i n _ hlt (λj u hj=>?_)
  rw[Ol,Cy]at hj
  rw[Cz,E7]
  split at hj
  ·exact hcells j u hj
  ·cases hj
 have hin1:i+(n+1-i)=n+1:=by omega
 have hrz:=Lib.run_append_grow_zeros (P:=Tryz.prog) w 29 3 29 103 i0 _ .i64 .i64 Tryz.underlying29 Tryz.underlying3 hin hz0 (some ⟨g,0,none⟩) i n _ hold (n+1-i) (by omega) (by omega) (by omega) (by omega) (by rw[hz2];omega) (by rw[hin1,hz2];exact growslice_fits (by omega) (by omega))
 rw[hin1]at hrz
 have hGn:n+1<=grownCap w (n+1) n 103:=grownCap_ge w _ _ _
 have hGm:grownCap w (n+1) n 103<=maxLen:=grownCap_le_maxLen w (n+1) n _ (by unfold maxLen;omega)
 generalize grownCap w (n+1) n 103=G at*
 obtain⟨ROW,hROW⟩:∃R,R=((l.take i).flatMap B7).toArray++Builtin.zeroCells (Value.agg #[.int .i64 0,.int .i64 0]).cells (n+1-i)++Builtin.zeroCells (Value.agg #[.int .i64 0,.int .i64 0]).cells (G- (n+1)):=⟨_,rfl⟩
 rw[<-hROW]at hrz
 have hR0:ROW.size=G*2:=by
  rw[hROW]
  simp only[Array.size_append,Ch,hlt,Builtin.zeroCells,Array.size_map,Array.size_range,Value.cells]
  simp only[Ax,Cf]
  omega
 have hR1:ROW.toList.take (i*2)=(l.take i).flatMap B7:=by
  rw[hROW]
  simp only[Array.toList_append]
  rw[Bz,Br (by rw[hlt];omega),Ao (by rw[hlt];omega)]
 have hN:g≠w.heap.size:=by omega
 obtain⟨W1,hW1⟩:∃W,W=w.drew.alloc (.cells ROW 103):=⟨_,rfl⟩
 rw[<-hW1]at hrz
 have hg1:W1.heap[w.heap.size]? =some (.cells ROW 103 (0,0)):=by rw[hW1];show(w.drew.heap.push _)[w.drew.heap.size]? =_;exact Array.getElem?_push_size
 have hT1:Tch [] w W1:=by rw[hW1];exact(Tch.drew w []).trans0 (Tch.alloc _ _ _)
 obtain⟨R2,hR2⟩:∃R,R=(ROW.toList.take (i*2)++B7 e++ROW.toList.drop (i*2+(B7 e).length)).toArray:=⟨_,rfl⟩
 have hs2:R2.size=G*2:=by rw[hR2,Ch,Mh _ _ _ (by simp[hR0,B7];omega)];simpa using hR0
 have ht2:R2.toList.take ((i+1)*2)=(l.take i).flatMap B7++B7 e:=by
  rw[hR2];exact Rb _ _ _ _ _ hlt hR1 (by simp[hR0,B7];omega) (by simp[B7];omega)
 have hA:∀ty o dl dc,o=i*2->Nat.min 1 dl=1->(Builtin.copy_ #[29,29] ty #[.slice (some ⟨w.heap.size,o,none⟩) dl dc,.slice (some ⟨vb,vo,none⟩) 1 vc]).run Tryz.prog W1=.ok (goInt 1) (W1.setRow w.heap.size R2):=λty o dl dc ho hm=>by
  have:=FO (P:=Tryz.prog) W1 29 29 ty 103 2 w.heap.size (i*2) dl dc ⟨vb,vo,none⟩ 1 vc ROW _ (B7 e) Tryz.underlying29 (by rw[hin];simp[hz1]) hg1 (by rw[hm];rfl) (λj u hj=>by rw[Cz];exact hT1.cell (hv j u hj) (by simp)) (by rw[hR0];simp[B7];omega) (Gx e)
  rw[hm,<-hR2]at this
  rw[ho];exact this
 have hg2:=setRow_heap W1 w.heap.size ROW R2 _ (0,0) hg1
 have hT2:Tch [] w (W1.setRow w.heap.size R2):=hT1.trans (Qe W1 w.heap.size R2) (by simp) (λx hx=>.inr (by simp at hx;omega))
 generalize W1.setRow w.heap.size R2=W2 at hA hg2 hT2
 obtain⟨R3,hR3⟩:∃R,R=(R2.toList.take ((i+1)*2)++(l.drop i).flatMap B7++R2.toList.drop ((i+1)*2+((l.drop i).flatMap B7).length)).toArray:=⟨_,rfl⟩
 have hs3:R3.size=G*2:=by rw[hR3,Ch,Mh _ _ _ (by simp only[F7,hs2,hld];omega)];simpa using hs2
 have ht3:R3.toList.take ((n+1)*2)=(l.take i++e::l.drop i).flatMap B7:=by
  rw[BH,AZ,<-Bz,hR3]
  exact Rb _ _ _ _ _ (by rw[Ae,hlt];simp[B7];omega) ht2 (by simp only[F7,hs2,hld];omega) (by rw[hld];omega)
 have hB:∀W,Tch [] W2 W->∀ty o dl dc so sl sc,o=(i+1)*2->so=i*2->Nat.min sl dl=n-i->(Builtin.copy_ #[29,29] ty #[.slice (some ⟨w.heap.size,o,none⟩) dl dc,.slice (some ⟨g,so,none⟩) sl sc]).run Tryz.prog W=.ok (goInt (n-i:Nat)) (W.setRow w.heap.size R3):=λW hW ty o dl dc so sl sc ho hso hm=>by
  have hgW:W.heap[w.heap.size]? =some (.cells R2 103 (0,0)):=by rw[hW.blk _ (A6.1 hg2).1 (by simp)];exact hg2
  have:=FO (P:=Tryz.prog) W 29 29 ty 103 2 w.heap.size ((i+1)*2) dl dc ⟨g,i*2,none⟩ sl sc R2 _ ((l.drop i).flatMap B7) Tryz.underlying29 (by rw[hin];simp[hz1]) hgW (by rw[hm,hld])
   (λj u hj=>by rw[Cz];rw[Om,JD]at hj;exact(hT2.trans0 hW).cell (hcells _ u hj) (by simp)) (by rw[hs2,hld];omega) (λu hu=>by obtain⟨x,_,hx⟩:=A9.1 hu;exact Gx x u hx)
  rw[hm,<-hR3]at this
  rw[ho,hso];exact this
 have hF:∀W,Tch [] W2 W->IF (l.take i++e::l.drop i) w (.slice (some ⟨g,0,none⟩) n n) (.returned (.slice (some ⟨w.heap.size,0,none⟩) (n+1) G)) (W.setRow w.heap.size R3):=λW hW=>by
  have hgW:W.heap[w.heap.size]? =some (.cells R2 103 (0,0)):=by rw[hW.blk _ (A6.1 hg2).1 (by simp)];exact hg2
  have hll:(l.take i++e::l.drop i).length=n+1:=by simp[hln];omega
  refine⟨_,rfl,?_,((hT2.trans0 hW).trans (Qe W w.heap.size R3) (by simp) (λx hx=>.inr (by simp at hx;omega))),λb hb=>.inr (by simp[Value.ownBlock]at hb;omega)⟩
  unfold Sl
  rw[hll]
  exact⟨by rw[E1,hll],.inr ⟨_,G,R3,rfl,As _,setRow_heap W _ R2 R3 _ (0,0) hgW,hGn,hGm,hs3,ht3⟩⟩
 have hwi:∀z:Int,z=((n+1-i:Nat):Int)->(Builtin.append_ #[29,3] 29 #[.slice (some ⟨g,0,none⟩) i n,.int .i64 z]).run Tryz.prog w=.ok (.slice (some ⟨w.heap.size,0,none⟩) (n+1) G) W1:=λz hz=>by rw[hz];exact hrz
 have HZ:=EO hwi
 have HA:=EO hA
 have HB:=EO hB
 have HF:=EO hF
 have h1:¬((i:Int)=(n:Int)):=by omega
 have h2:(n:Int)<(n:Int)+1:=by omega
 have h3:i<=n:=by omega
 have h5:¬(n=i):=by omega
 have h6:¬(G=i):=by omega
 have h7:¬(G=i+1):=by omega
 have h8:i<=n+1:=by omega
 have h9:(i:Int)<=(n:Int):=by omega
 have h10:(i:Int)<=(n:Int)+1:=by omega
 clear hg htake hln hv hin hz0 hz1 hz2 hfl hcells hlt hld hold hrz hROW hR0 hR1 hW1 hg1 hT1 hR2 hs2 ht2 hg2 hT2 hR3 hs3 ht3 hA hB hF hwi
 go_enter Tryz.func194,Tryz.ntmps194
 go_wp2_with (first|(at_builtin;refine wpList_plain rfl (λK hK=>?_);refine MM rfl rfl rfl (HZ.out _ (by omega)) ?_;go_simp)|(refine wpList_copy_runI _ rfl _ _ 29 29 rfl _ _ rfl rfl (HA.out _ _ _ _ (by omega) (by simp only[Nat.min_def];split<;>omega)) ?_;go_simp))
 refine NM [] [0,0,0,0,0,0,0,0,3] [0,1,2,3,4,5,6,7,8] [0,0,0,6,15,0,0,96,255] Jw (by kernel_rfl) ?_
 intro w1 hT
 have HT:=EO hT
 clear hT
 go_wp2_with (first|(refine CO rfl rfl rfl rfl (λ_ _=>?_)))
 refine L5 rfl rfl rfl (λK hK=>?_)
 refine wp_copy_runI _ _ _ 29 29 rfl _ _ rfl rfl (HB.out w1 HT.out _ _ _ _ _ _ _ (by omega) (by omega) (by simp only[Nat.min_def];split<;>omega)) ?_
 have HFF:=EO (HF.out w1 HT.out)
 go_simp
 go_wp2_with (first|(refine CO rfl rfl rfl rfl (λ_ _=>?_))|refine L6 ?_)
 go_ret
 exact HFF.out
set_option maxRecDepth 100000 in
set_option maxHeartbeats 2000000 in
theorem SZ(g n i cap:Nat)(cur:Array Value)(l:List Edg)(e:Edg)(w:World)(hg:w.heap[g]? =some (.cells cur 103 (0,0)))(hcs:cur.size=cap*2)(htake:cur.toList.take (n*2)=l.flatMap B7)(hln:l.length=n)(hi:i<n)(hl:n<=4294967296)(hroom:n+1<=cap)(hcm:cap<=maxLen)
  (vb vo vc:Nat) (hvb:vb≠g) (hv:∀j u,(B7 e)[j]? =some u->w.cell? ⟨vb,vo+j,none⟩=some u):
  Calls Tryz.prog 194 #[.slice (some ⟨g,0,none⟩) n cap,.int .i64 i,.slice (some ⟨vb,vo,none⟩) 1 vc] w (IF (l.take i++e::l.drop i) w (.slice (some ⟨g,0,none⟩) n cap)):=by
 have mixed:=Jw
 obtain⟨i0,hin,hz0,hz1,hz2⟩:=info_parts QS
 have hfl:(l.flatMap B7).length=n*2:=by rw[E1,hln]
 have hgl:=(A6.1 hg).1
 have hcells:∀j u,(l.flatMap B7)[j]? =some u->w.cell? ⟨g,j,none⟩=some u:=λj u hu=>by
  rw[<-htake,Cy]at hu
  split at hu
  ·simp only[World.cell?,hg];simpa using hu
  ·cases hu
 have hlt:((l.take i).flatMap B7).length=i*2:=by rw[E1,Aw,hln];omega
 have hld:((l.drop i).flatMap B7).length=(n-i)*2:=by rw[E1,FN,hln]
 have hT1:∀W,Tch [] w W->W.heap[g]? =some (.cells cur 103 (0,0)):=λW hW=>by rw[hW.blk _ hgl (by simp)];exact hg
 obtain⟨R2,hR2⟩:∃R,R=(cur.toList.take ((i+1)*2)++(l.drop i).flatMap B7++cur.toList.drop ((i+1)*2+((l.drop i).flatMap B7).length)).toArray:=⟨_,rfl⟩
 have hs2:R2.size=cap*2:=by rw[hR2,Ch,Mh _ _ _ (by simp only[F7,hcs,hld];omega)];simpa using hcs
 have ht2:R2.toList.take (i*2)=(l.take i).flatMap B7:=by
  rw[hR2,Ol,<-htake]
  simp only[Bz]
  rw[Br (by simp[hcs];omega),FL,FL]
  congr 1;omega
 have hd2:R2.toList.drop (i*2+(B7 e).length)=(l.drop i).flatMap B7++cur.toList.drop ((i+1)*2+((l.drop i).flatMap B7).length):=by
  rw[hR2]
  simp only[Bz]
  rw[List.drop_append_of_le_length (by simp[hcs,B7];omega),Gg (by simp[hcs,B7];omega),CN]
 obtain⟨R3,hR3⟩:∃R,R=(R2.toList.take (i*2)++B7 e++R2.toList.drop (i*2+(B7 e).length)).toArray:=⟨_,rfl⟩
 have hs3:R3.size=cap*2:=by rw[hR3,Ch,Mh _ _ _ (by simp only[F7,hs2];simp[B7];omega)];simpa using hs2
 have ht3:R3.toList.take ((n+1)*2)=(l.take i++e::l.drop i).flatMap B7:=by
  rw[BH,AZ,hR3,hd2,ht2]
  simp only[<-Bz]
  rw[Br (by simp only[Ae,hlt,hld];simp[B7];omega),Ao (by simp only[Ae,hlt,hld];simp[B7];omega)]
 have hB:∀W,Tch [] w W->∀ty o dl dc so sl sc,o=(i+1)*2->so=i*2->Nat.min sl dl=n-i->(Builtin.copy_ #[29,29] ty #[.slice (some ⟨g,o,none⟩) dl dc,.slice (some ⟨g,so,none⟩) sl sc]).run Tryz.prog W=.ok (goInt (n-i:Nat)) (W.setRow g R2):=λW hW ty o dl dc so sl sc ho hso hm=>by
  have:=FO (P:=Tryz.prog) W 29 29 ty 103 2 g ((i+1)*2) dl dc ⟨g,i*2,none⟩ sl sc cur _ ((l.drop i).flatMap B7) Tryz.underlying29 (by rw[hin];simp[hz1]) (hT1 W hW) (by rw[hm,hld])
   (λj u hj=>by rw[Cz];rw[Om,JD]at hj;exact hW.cell (hcells _ u hj) (by simp)) (by rw[hcs,hld];omega) (λu hu=>by obtain⟨x,_,hx⟩:=A9.1 hu;exact Gx x u hx)
  rw[hm,<-hR2]at this
  rw[ho,hso];exact this
 have hA:∀W,Tch [] w W->∀ty o dl dc,o=i*2->Nat.min 1 dl=1->(Builtin.copy_ #[29,29] ty #[.slice (some ⟨g,o,none⟩) dl dc,.slice (some ⟨vb,vo,none⟩) 1 vc]).run Tryz.prog (W.setRow g R2)=.ok (goInt 1) ((W.setRow g R2).setRow g R3):=λW hW ty o dl dc ho hm=>by
  have:=FO (P:=Tryz.prog) (W.setRow g R2) 29 29 ty 103 2 g (i*2) dl dc ⟨vb,vo,none⟩ 1 vc R2 _ (B7 e) Tryz.underlying29 (by rw[hin];simp[hz1]) (setRow_heap W g cur R2 _ (0,0) (hT1 W hW)) (by rw[hm];rfl) (λj u hj=>by rw[Cz];exact(hW.ahead0 (Qe W g R2)).cell (hv j u hj) (by simpa using hvb)) (by rw[hs2];simp[B7];omega) (Gx e)
  rw[hm,<-hR3]at this
  rw[ho];exact this
 have hF:∀W,Tch [] w W->IF (l.take i++e::l.drop i) w (.slice (some ⟨g,0,none⟩) n cap) (.returned (.slice (some ⟨g,0,none⟩) (n+1) cap)) ((W.setRow g R2).setRow g R3):=λW hW=>by
  have hll:(l.take i++e::l.drop i).length=n+1:=by simp[hln];omega
  refine⟨_,rfl,?_,(hW.ahead0 (Qe W g R2)).trans0 (Qe _ g R3),λb hb=>.inl hb⟩
  unfold Sl
  rw[hll]
  exact⟨by rw[E1,hll],.inr ⟨_,cap,R3,rfl,As _,setRow_heap _ _ R2 R3 _ (0,0) (setRow_heap W g cur R2 _ (0,0) (hT1 W hW)),hroom,hcm,hs3,ht3⟩⟩
 have hov:∀lb cb,(callFunc 236 #[.slice (some ⟨vb,vo,none⟩) 1 vc,.slice (some ⟨g,(i+1)*2,none⟩) lb cb]).run Tryz.prog w=.ok (.value (.bool false)) w:=λlb cb=>by
  have hc0:=hv 0 _ rfl
  unfold World.cell? at hc0
  have hsome:∃cA tA frA,w.heap[vb]? =some (.cells cA tA frA)/\cA.size≠0:=by
   cases hh:w.heap[vb]? with
   |none=>simp[hh]at hc0
   |
    some o=>
    cases o with
    |
     cells c t fr=>
     refine⟨c,t,fr,rfl,λh0=>?_⟩
     simp only[hh]at hc0
     simp at hc0
     have:=(A6.1 hc0).1
     omega
    |_=>simp[hh]at hc0
  obtain⟨cA,tA,frA,ha,hA0⟩:=hsome
  rw[run_callFunc_extern Tryz.func236 (by kernel_rfl) (by kernel_rfl) (by kernel_rfl) (e:=Extern.SlicesOverlaps.overlaps #[29,29] #[4]) (by kernel_rfl),
   MY w 29 4 103 Tryz.underlying29 2 (λw=>by kernel_rfl) ⟨vb,vo,none⟩ ⟨g,(i+1)*2,none⟩ 1 vc lb cb hvb ha hg hA0 (by omega)]
  rfl
 have HA:=EO hA
 have HB:=EO hB
 have HF:=EO hF
 have h1:¬((i:Int)=(n:Int)):=by omega
 have h2:¬((cap:Int)<(n:Int)+1):=by omega
 have h3:i<=n:=by omega
 have h5:¬(cap=i):=by omega
 have h7:¬(cap=i+1):=by omega
 have h8:i<=n+1:=by omega
 have h9:(i:Int)<=(n:Int):=by omega
 have h10:(i:Int)<=(n:Int)+1:=by omega
 have hcm':cap<=9223372036854775807:=by unfold maxLen at hcm;omega
 clear hg hcs htake hln hv hin hz0 hz1 hz2 hfl hcells hlt hld hT1 hR2 hs2 ht2 hd2 hR3 hs3 ht3 hA hB hF hcm
 go_enter Tryz.func194,Tryz.ntmps194
 go_wp2_with (simp only[hov])
 refine NM [] [0,0,0,0,0,0,0,0,3] [0,1,2,3,4,5,6,7,8] [0,0,0,6,15,0,0,96,255] Jw (by kernel_rfl) ?_
 intro w1 hT
 have HT:=EO hT
 clear hT
 go_wp2_with (first|(refine CO rfl rfl rfl rfl (λ_ _=>?_)))
 refine L5 rfl rfl rfl (λK hK=>?_)
 refine wp_copy_runI _ _ _ 29 29 rfl _ _ rfl rfl (HB.out w1 HT.out _ _ _ _ _ _ _ (by omega) (by omega) (by simp only[Nat.min_def];split<;>omega)) ?_
 have HFF:=EO (HF.out w1 HT.out)
 have HAA:=EO (HA.out w1 HT.out)
 go_simp
 go_wp2_with (first|(refine CO rfl rfl rfl rfl (λ_ _=>?_))|refine L6 ?_|(refine wpList_copy_runI _ rfl _ _ 29 29 rfl _ _ rfl rfl (HAA.out _ _ _ _ (by omega) (by simp only[Nat.min_def];split<;>omega)) ?_))
 go_ret
 exact HFF.out
theorem aL(v:Value)(l:List Edg)(e:Edg)(i:Nat)(hi:i<=l.length)(w:World)(h:Sl 103 2 B7 w v l)(hl:l.length<=4294967296)(vb vo vc:Nat)(hvb:vb∉v.ownBlock.toList)(hv:∀j u,(B7 e)[j]? =some u->w.cell? ⟨vb,vo+j,none⟩=some u):
  Calls Tryz.prog 194 #[v,.int .i64 i,.slice (some ⟨vb,vo,none⟩) 1 vc] w (IF (l.take i++e::l.drop i) w v):=by
 by_cases hin:i=l.length
 ·subst hin
  rw[Dr,List.drop_length]
  exact Xv v l e w h hl vb vo vc hv
 ·rcases h.2 with⟨rfl,hl0⟩|⟨g,cap,cur,rfl,_,hg,hnc,hcm,hcs,htake⟩
  ·omega
  ·by_cases hroom:l.length+1<=cap
   ·exact SZ g l.length i cap cur l e w hg hcs htake rfl (by omega) hl hroom hcm vb vo vc (by simpa[Value.ownBlock]using hvb) hv
   ·have hc:cap=l.length:=by omega
    subst hc
    exact UX g l.length i cur l e w hg htake rfl (by omega) hl vb vo vc hv
end Go.Proofs.YtjejpdfldmempaaGreatDoor
end
section
namespace Go.Gr
def eJ(f:Nat->Nat->Bool)(a b:Nat):List Edg:=((List.range b).filter λx=>decide (a<x)&&f a x).map λx:Nat=>⟨(a:Int),(x:Int)⟩
def TX(f:Nat->Nat->Bool)(n a:Nat):List Edg:=(List.range a).flatMap λj=>eJ f j n
theorem Ns {f:Nat->Nat->Bool} {n a:Nat} {e:Edg}:e∈TX f n a↔∃j x:Nat,j<a/\x<n/\j<x/\f j x=true/\e=⟨(j:Int),(x:Int)⟩:=by
 simp only[TX,eJ,A9,AO,Aq,A3,Ah,decide_eq_true_eq]
 constructor
 ·rintro⟨j,hj,x,⟨h1,h2,h3⟩,rfl⟩;exact⟨j,x,hj,h1,h2,h3,rfl⟩
 ·rintro⟨j,x,hj,h1,h2,h3,rfl⟩;exact⟨j,hj,x,⟨h1,h2,h3⟩,rfl⟩
def Ru(E:List Edg)(L:List Int)(a b:Nat):Bool:=qM E ((L[a]?).getD 0) ((L[b]?).getD 0)
def Mj(E:List Edg)(L:List Int):List Edg:=TX (Ru E L) L.length L.length
end Go.Gr
end
section
namespace Go.Gr
section
variable {n:Nat} {ok:List Int->Int->Bool}
def sA(n:Nat)(ok:List Int->Int->Bool):Nat->List Int->List (List Int)
 |0,l=>[l]
 |k+1,l=>((List.range n).filter λv:Nat=>ok l v).flatMap λv:Nat=>sA n ok k (l++[(v:Int)])
end
end Go.Gr
end
section
namespace Go.Sx
open Go Go.RowKit Go.Reg
section
variable {C:Cx} {T:Fm} {B S:List Nat} {w0 w:World} {n kd:Nat} {fr:Fr} {σ:Sg} {η:Nat->Value} {φ:Nat->List Nat} {a:Act}
theorem Models.pin(hM:Models C B S w0 n fr σ η φ a w) {g:Nat}(hg:BA g σ=none) {x:Da} {u:Value}(hr:Rep (B++Ak φ σ) w x u):Models C B S w0 n fr ((g,.ghost [u] [.d x])::σ) (Ds η g .nilFunc) (Ds φ g []) a w:=by
 have hi':=Dm hg
 obtain⟨cs,h1,h2⟩:=hr
 obtain⟨hm,hl⟩:=hM.mem.add (Tch.refl [] w) hi' (v:=.nilFunc) (F:=[]) (o:=.ghost [u] [.d x]) (by simp) ⟨rfl,rfl,[cs],by simp only[A7,A4];exact⟨_,_,rfl,h1,rfl⟩,by rw[h2];rfl⟩
 exact⟨hm,hM.fr.add hi' hl,hM.defers,hM.size⟩
def jX(C:Cx)(f:FuncId):Prop:=∀(w:World) (a:Option Addr) (n c:Nat),n<=c->c<=maxLen->
 (callFunc f #[.slice a n c]).run C.P w=.ok (.enter f #[.slice a n c]) w/\Calls C.P f #[.slice a n c] w λe w'=>e=.returned (.slice a n n)/\w'=w
theorem bL(g:Nat) {q:Bool} {f:FuncId} {args:List Dat} {k:Nat} {xs:List Da} {K:KD}(hg:BA g σ=none)(ha:DY args=some [.list k xs])(hf:jX C f)
  (hK:∀a,BP (Fi g (.ghost [.slice a xs.length xs.length] [.d (.list k xs)]) σ) λσ=>K (.d (.raw (.slice a xs.length xs.length))) fr σ):BI C q f args K fr σ:=by
 unfold BI
 rintro B S w0 η φ n a w vs hM ⟨css,hr,rfl⟩
 obtain⟨h1,h2⟩:=GJ ha hr
 rw[h2]
 simp only[Al,RepC]at h1
 obtain⟨c1,c2,rfl,⟨p,c,es,rfl,h3,h4,h5,h6,h7⟩,rfl⟩:=h1
 obtain⟨g1,g2⟩:=hf w p xs.length c h3 h4
 refine⟨g1,g2.mono ?_⟩
 rintro e w' ⟨rfl,rfl⟩
 have hrep:Rep (B++Ak φ σ) w' (.list k xs) (.slice p xs.length xs.length):=⟨[_],by simp only[RepC];exact⟨p,xs.length,es,rfl,Av _,Cv h3 h4,h5,h6,h7⟩,rfl⟩
 have hM2:=(hM.pin hg hrep).perm (D6 g _ σ)
 have hk:=hK p
 rw[Bl]at hk
 exact⟨_,_,fr,_,_,_,rfl,hk,hM2,⟨[_],by simp only[A4,RepC],rfl⟩,λ_=>(Tch.refl [] w').ext⟩
theorem VN {P:Program} {t:TypeId} {e ee:TyI}(h:TyOk P t e)(hk:e.kd=2)(h2:TyOk P e.elem ee)(hk0:0<ee.size)(hb0:ee.bytes<=1000) {p:Option Addr} {css:List (List Value)}(hrow:∀x∈css,DS ee.size x)(hcell:css=[]\/∃b o,p=some ⟨b,o,none⟩/\Ed w b o css.flatten)
  {O:List Nat} {es:List Da} {vy:Value} (hy:Src ee.size O w es vy) (hne:es≠[]) (hlen:css.length+es.length<=FF ee.bytes) (ty:TypeId):
  ∃v' w' css2,(Builtin.append_ #[t,t] ty #[.slice p css.length css.length,vy]).run P w=.ok v' w'/\Sl e.elem ee.size id w' v' (css++css2)/\Al O w es css2/\(∀x∈css2,DS ee.size x)/\Tch [] w w'/\(∀b,v'.ownBlock=some b->w.heap.size<=b):=by
 cases p with
 |
  none=>
  have hc:css=[]:=hcell.resolve_right (by rintro⟨b,o,h,_⟩;cases h)
  subst hc
  obtain⟨v',w',css2,g1,g2,g3,g4,g5,g6⟩:=Lw (v:=.slice none 0 0) (css:=[]) h hk h2 hk0 hb0 (World.ownsRow_nil w 0 _ _) hy hlen ty
  refine⟨v',w',css2,g1,g2,g3,g4,g5,λb hb=>?_⟩
  rcases g6 with g6|g6
  ·rw[g6]at hb;cases hb
  ·rw[g6]at hb;cases hb;exact Av _
 |
  some ad=>
  obtain⟨d,h1,_,h3,_,_,_,_,h8⟩:=h.desc
  rw[hk]at h8
  cases d<;>simp at h8
  have he:=h3 _ rfl
  subst he
  obtain⟨i,z,hi,hsize,hby,hz,_,_⟩:=h2.info
  obtain⟨av,c,css2,rfl,hr2,hk2,hsrc⟩:=hy.ex
  have hl2:=C2 hr2
  have hfl2:=HS (λx hx=>(hk2 x hx).1)
  have hfl:=HS (λx hx=>(hrow x hx).1)
  unfold FF at hlen
  have hbb:=Nat.mul_le_of_le_div _ _ _ hlen
  have hl0:css.length+es.length<=140737488355328:=Cv hlen (Nat.div_le_self _ _)
  have h0:es.length≠0:=λe=>hne (AE e)
  obtain⟨b,o,rfl,hcl⟩:∃b o,av=some ⟨b,o,none⟩/\Ed w b o css2.flatten:=hsrc.resolve_left hne
  have hnews:=NA hcl
  have hln:css2.flatten.length=es.length*i.size:=by rw[hfl2,hl2,hsize]
  have hlo:css.flatten.length=css.length*i.size:=by rw[hfl,hsize]
  have holds:∀j u,css.flatten[j]? =some u->w.cell? (ad.add j)=some u:=by
   rcases hcell with rfl|⟨b',o',h',hc'⟩
   ·intro j u hj;simp at hj
   ·cases h';exact NA hc'
  have hzs:z.cells.size=i.size:=by
   obtain⟨i',z',g1,g2,_,g4,_,g6⟩:=h2.info
   rw[hi]at g1;cases g1
   rw[hz]at g4;cases g4
   have:=Ev _ _ (g6 [] w)
   have hsz:=h2.zsize
   simp at this
   omega
  have hx:=run_append_grow (P:=P) w t ty e.elem i z h1 hi hz ad css.length css.length css.flatten hlo holds ⟨b,o,none⟩ es.length c css2.flatten hln hnews (by omega) (by omega) (growslice_fits (by omega) (by rw[hby];omega))
  refine⟨_,_,css2,hx,?_,hr2,hk2,⟨rfl,rfl,rfl,by simp,λk hk _=>heap_alloc_old w.drew _ hk⟩,λb hb=>by cases hb;exact Av _⟩
  have hge:=grownCap_ge w (css.length+es.length) css.length e.elem
  have hcm:grownCap w (css.length+es.length) css.length e.elem<=maxLen:=grownCap_le_maxLen w _ _ e.elem (by simp only[maxLen];omega)
  have hlen2:(css.flatten++css2.flatten).length=(css.length+es.length)*i.size:=by rw[Ae,hlo,hln,Ct]
  unfold Sl
  rw[flatMap_id,List.flatten_append,Ae,hl2,<-hsize]
  refine⟨hlen2,.inr ⟨w.heap.size,_,_,rfl,As _,heap_alloc_new w.drew _,hge,hcm,?_,?_⟩⟩
  ·simp only[Array.size_append,Ch,size_zeroCells,hzs,hlo,hln,<-Ct]
   congr 1
   omega
  ·simp only[Array.toList_append,Bz]
   rw[<-Bz,<-hlen2]
   exact List.take_left
end
section
variable {C:Cx} {T:Fm} {n kd:Nat} {fr:Fr} {σ:Sg}
def IL(t:Nat):Fr->Fr
 |[]=>[]
 |
  (s,d)::fr=>match Nat.beq s t with
  |true=>IL t fr
  |false=>(s,d)::IL t fr
theorem J0(t:Nat):∀fr:Fr,get (IL t fr) t=.d .undef
 |[]=>rfl
 |
  (u,d)::fr=>by
  rcases Bh u t with⟨hb,e⟩|⟨hb,e⟩
  ·simp only[IL,hb];exact J0 t fr
  ·simp only[IL,hb,get];exact J0 t fr
theorem JW(t s:Nat):∀fr:Fr,get (IL t fr) s=.d .undef\/get (IL t fr) s=get fr s
 |[]=>.inr rfl
 |
  (u,d)::fr=>by
  rcases Bh u t with⟨hb,e⟩|⟨hb,e⟩
  ·simp only[IL,hb]
   rcases JW t s fr with h|h
   ·exact .inl h
   ·rcases Bh u s with⟨h1,e1⟩|⟨h1,e1⟩
    ·left
     subst e1
     subst e
     exact J0 u fr
    ·right;simp only[get,h1];exact h
  ·simp only[IL,hb,get]
   rcases Bh u s with⟨h1,e1⟩|⟨h1,e1⟩
   ·right;simp only[h1]
   ·simp only[h1];exact JW t s fr
theorem WZ(g j tx:Nat) {o:Oper} {K:Fr->Sg->Prop} {t:TypeId} {y:Operand} {e ee:TyI} {p:Option Addr} {m k:Nat} {xs es:List Da}(hC:C.Ok T)(ho:o.op=.call {callee:=.builtin .append,args:=#[.tmp tx,y],argTypes:=#[t,t]})
  (he:En t T=some e) (hk2:e.kd=2) (hee:En e.elem T=some ee) (hk0:0<ee.size) (hb0:ee.bytes<=1000) (hkk:k=ee.size) (hx:get fr tx=.d (.raw (.slice p m m))) (hg:BA g σ=some (.ghost [.slice p m m] [.d (.list k xs)])) (hy:Vy (ev C.Γ fr y) k σ=some es) (hne:es≠[]) (hj:BA j σ=none)
  (hkd:kd=3) (hd:CZ o.dst n=true) (hlen:xs.length+es.length<=FF ee.bytes) (hz:fW (Cm o.dst (.own j) (IL tx fr)) (Fi j (.slice e.elem ee.size (xs++es)) (CS id g σ))=true) (hs:Ly (Fi j (.slice e.elem ee.size (xs++es)) (CS id g σ)) (Fi j (.slice e.elem ee.size (xs++es)) σ)) (hK:BP (Fi j (.slice e.elem ee.size (xs++es)) (CS id g σ)) λσ=>K (Cm o.dst (.own j) (IL tx fr)) σ):AY C n kd o K fr σ:=by
 subst hkd
 subst hkk
 refine G7 (by decide) (by decide) λB S w0 η φ a' w hM=>?_
 refine .inr ⟨(λh=>by cases h),.inl ?_⟩
 have ex:a'.eval (.tmp tx)=.slice p m m:=by
  obtain⟨cs,r,e⟩:=EL (AV hM (.tmp tx)) hx
  simp only[RepC]at r
  subst r
  exact e
 obtain⟨_,_,css,h1,h2⟩:=hM.mem.own _ (Bd hg)
 simp only[A7,A4,RepC]at h1
 obtain⟨c1,c2,rfl,⟨q,c,rows,rfl,h3,h4,h5,h6,h7⟩,rfl⟩:=h1
 have h2:Value.slice p m m=.slice q xs.length c:=by simpa[BD,Fc]using h2
 simp only[Value.slice.injEq]at h2
 obtain⟨rfl,rfl,rfl⟩:=h2
 have hrl:=C2 h5
 have hcell:rows=[]\/∃b o,p=some ⟨b,o,none⟩/\Ed w b o rows.flatten:=by
  rcases h7 with h7|⟨b,o,h8,_,_,h9⟩
  ·left
   rw[h7]at hrl
   exact AE hrl
  ·exact .inr ⟨b,o,h8,h9⟩
 have hsrc:=Qu hM.mem hy (AV hM y)
 obtain⟨v',w',css2,g1,g2,g3,g4,g5,g6⟩:=VN (hC.ty he) hk2 (hC.ty hee) hk0 hb0 h6 hcell hsrc hne (by rw[hrl];exact hlen) o.type
 rw[hrl]at g1
 have:=hM.add (o:=.slice e.elem ee.size (xs++es)) (v:=v') (F:=v'.ownBlock.toList) g5 (Dm hj) (λb hb=>g6 b (by simpa using hb)) (λO' hl=>⟨rows++css2,g2,rfl,FQ (Al.later hl _ _ h5) (Al.later hl _ _ g3),λx hx=>by
  rcases Ag.1 hx with hx|hx
  ·exact h6 x hx
  ·exact g4 x hx⟩) hd
 rw[Bl]at hK
 have M3:=(this.perm (D6 _ _ _)).sub' (fr':=Cm o.dst (.own j) (IL tx fr)) (λs=>by
  cases hdst:o.dst with
  |none=>exact JW tx s fr
  |
   some d=>
   simp only[Cm,get]
   rcases Bh d s with⟨h1,_⟩|⟨h1,_⟩
   ·right;simp only[h1]
   ·simp only[h1];exact JW tx s fr)
 refine⟨v',w',?_,_,_,_,_,M3.only hz hs,hK⟩
 simp only[execOp,ho]
 simp only[resolve,invoke,builtin,A0,AQ,Ay,FM,Ap,B4,ex,g1]
end
end Go.Sx
end
section
namespace Go.Gr
open Go.Proofs.YtjejpdfldmempaaGreatDoor
def Jj(n:Nat)(ok:List Int->Int->Bool)(k:Nat)(l:List Int)(v:Nat):List (List Int):=((List.range v).filter λv:Nat=>ok l v).flatMap λv:Nat=>sA n ok k (l++[(v:Int)])
end Go.Gr
namespace Go.Proofs.YtjejpdfldmempaaGreatDoor
open Go.Sx Go.RowKit Go.Reg Go.Gr
set_option maxRecDepth 100000
theorem nF:jX C1 119:=by
 intro w a n c hn hc
 refine⟨by kernel_rfl,?_⟩
 show Calls Tryz.prog _ _ _ _
 go_enter Tryz.func119,Tryz.ntmps119
 go_wp2
 go_ret
 exact⟨rfl,rfl⟩
end Go.Proofs.YtjejpdfldmempaaGreatDoor
end
section
namespace Go.Gr
open Go.Proofs.YtjejpdfldmempaaGreatDoor
theorem JH {a b:Int}(h:a<=b):turn ⟨a,b⟩=⟨a,b⟩:=by unfold turn;simp only[Edg.mk.injEq];omega
theorem Yf {a b:Int}(h:b<=a):turn ⟨a,b⟩=⟨b,a⟩:=by unfold turn;simp only[Edg.mk.injEq];omega
theorem HM {E:List Edg}(h:∀e∈E,e.a<e.b)(x y:Int):qM E x y=decide (turn ⟨x,y⟩∈E):=by
 rw[Cg,decide_eq_true_eq]
 unfold qM
 rw[BM]
 constructor
 ·rintro⟨e,he,hc⟩
  have hc:=of_decide_eq_true hc
  have hl:=h e he
  obtain⟨a,b⟩:=e
  simp only at hc hl
  rcases hc with⟨rfl,rfl⟩|⟨rfl,rfl⟩
  ·rw[JH (by omega)];exact he
  ·rw[Yf (by omega)];exact he
 ·intro he
  refine⟨_,he,decide_eq_true ?_⟩
  rcases Int.le_total x y with hxy|hxy
  ·rw[JH hxy];exact .inl ⟨rfl,rfl⟩
  ·rw[Yf hxy];exact .inr ⟨rfl,rfl⟩
end Go.Gr
end
section
namespace Go.Gr
def N8(f:Nat->Nat->Bool)(i k:Nat):List Edg:=((List.range k).filter λx=>f x i).map λx:Nat=>⟨(x:Int),(i:Int)⟩
def F4(f:Nat->Nat->Bool)(n:Nat):List Edg:=(List.range n).flatMap λi=>N8 f i i
theorem bC(f:Nat->Nat->Bool)(i k:Nat):N8 f i (k+1)=N8 f i k++if f k i then[⟨(k:Int),(i:Int)⟩]else[]:=by
 unfold N8
 rw[Cn,Cj,AF]
 congr 1
 by_cases hf:f k i<;>simp[hf]
theorem Q2(f:Nat->Nat->Bool)(n:Nat):F4 f (n+1)=F4 f n++N8 f n n:=by simp[F4,Cn]
theorem V9(f:Nat->Nat->Bool)(i k:Nat):(N8 f i k).length<=k:=by
 unfold N8
 rw[Ac]
 exact Cv (DF _ _) (by simp)
theorem N7(f:Nat->Nat->Bool):∀n,(F4 f n).length<=n*n
 |0=>by simp[F4]
 |
  n+1=>by
  have h1:=N7 f n
  have h2:=V9 f n n
  rw[Q2,Ae,Nat.mul_add,Ct];omega
def Lx(E:List Edg)(l:List Int)(k i:Nat):Bool:=decide (turn ⟨(l[k]?).getD 0,(l[i]?).getD 0⟩∈E)
end Go.Gr
namespace Go.Proofs.YtjejpdfldmempaaGreatDoor
open Go.Sx Go.RowKit Go.Reg Go.Gr
set_option maxRecDepth 100000
def II:ByteArray:=⟨#[108,105,115,116]⟩
def oE:Da:=.agg [.nils,.nils]
def oQ:List FuncId:=[195]
theorem LS(G:Gr)(l:List Int)(hl:l.length<=100000):Pure C1 130 [dG G,Bx l] (λy=>y=Bx (l.map (Ei G))):=by
 have hdl:(l.map dI).length=l.length:=Ac _
 refine AT Tryz.func130 Tryz.ntmps130 oQ [] ?_
 ((conv=>whnf);repeat' ((first|refine odw ?_|refine nx ?_|refine A5 (λ_=>?_) (λ_=>?_))<;>conv=>whnf))
 refine AN (ι:=Nat) (λi=>i<=l.length) (λi=>[(10,.d (.int .i64 i)),(9,.d (.int .i64 l.length)),(8,.d (Bx l)),(5,.own 300),(0,.d (dG G))]) (λi=>[(300,.slice 3 1 (((l.take i).map (Ei G)).map dI))]) (λi=>l.length-i) 0 (λ_=>rfl) (As _) (.own 5 300 3 1 rfl rfl (.refl _ _)) ⟨rfl,by rw[<-hdl];rfl,rfl,rfl,rfl,trivial⟩ ⟨rfl,trivial⟩ ?_
 intro i hi
 refine BV oQ [] ?_
 by_cases hil:i<l.length
 ·have hx:=Ab hil
  generalize l[i]=x at hx
  have hxd:(l.map dI)[i]? =some (.int .i64 x):=by rw[Af,hx];rfl
  have hlb:=Xq G x
  have hll:(((l.take i).map (Ei G)).map dI).length=i:=by simp only[Ac,Aw];omega
  (conv=>whnf)
  (repeat' ((first|refine Ai ?_ ?_|refine AM hxd rfl ?_|refine Bc tab rfl hlb rfl ?_|refine nx ?_|refine A5 (λ_=>?_) (λ_=>?_)|exact AA)<;>conv=>whnf))
  refine⟨i+1,_,_,by omega,.refl _ _,⟨rfl,rfl,rfl,rfl,rfl,trivial⟩,⟨Bj ?_,trivial⟩,by omega⟩
  rw[A2,hx];simp[dI]
 ·have e:l.take i=l:=Ao (by omega)
  rw[e]
  ((conv=>whnf);repeat' ((first|refine odw ?_|refine nx ?_|refine A5 (λ_=>?_) (λ_=>?_))<;>conv=>whnf))
  exact rfl
def jL:List FuncId:=[131,132,130,129]
set_option maxHeartbeats 4000000 in
theorem WG(G:Gr)(hG:G.Ok)(l:List Int)(q:Pt)(hmk:l.length<=8->BK G l=true->Pure C1 129 [Bx (l.map (Ei G)),Er (F4 (Lx G.edges l) l.length)] (λy=>y=.tuple [L3 q,.nili]))(hm:l.length<=9000000000000000000):
  Pure C1 84 [dG G,Bx l] (λy=>y=if 8<l.length then .tuple [oE,dF 6 0 II]else if BK G l=false then .tuple [oE,dF 2 0 II]else .tuple [L3 q,.nili]):=by
 have hdl:(l.map dI).length=l.length:=Ac _
 have hlk:=UM G hG l
 refine AT Tryz.func84 Tryz.ntmps84 jL [] ?_
 by_cases h8:8<l.length
 ·rw[if_pos h8]
  (conv=>whnf)
  (repeat' ((first|refine Ai ?_ ?_|refine Aj rfl (BU 6 0 II) ?_|refine nx ?_|refine A5 (λ_=>?_) (λ_=>?_)|exact AA)<;>conv=>whnf))
  exact rfl
 rw[if_neg h8]
 cases hl:BK G l with
 |
  false=>
  rw[hl]at hlk
  rw[if_pos rfl]
  (conv=>whnf)
  (repeat' ((first|refine Ai ?_ ?_|refine Aj rfl hlk ?_|refine Aj rfl (BU 2 0 II) ?_|refine nx ?_|refine A5 (λ_=>?_) (λ_=>?_)|exact AA)<;>conv=>whnf))
  exact rfl
 |
  true=>
  rw[hl]at hlk
  rw[if_neg (by decide)]
  have hmk:=hmk (by omega) hl
  have hql:=LS G l (by omega)
  have hcl:=N7 (Lx G.edges l)
  have hsq:l.length*l.length<=8*8:=D2 (by omega) (by omega)
  (conv=>whnf)
  (repeat' ((first|refine Ai ?_ ?_|refine Aj rfl hlk ?_|refine nx ?_|refine A5 (λ_=>?_) (λ_=>?_)|exact AA)<;>conv=>whnf))
  refine AN (ι:=Nat) (λi=>i<=l.length) (λi=>[(26,.d (.int .i64 i)),(25,.d (.int .i64 l.length)),(24,.d (Bx l)),(6,.own 300),(4,.own 4),(1,.d (Bx l)),(0,.d (dG G))]) (λi=>[(4,.cells 31 [.d .nils,.d .nils]),(300,.slice 103 2 ((F4 (Lx G.edges l) i).map dE))]) (λi=>l.length-i) 0 (λ_=>rfl) (As _) (.own 6 300 103 2 rfl rfl (.refl _ _)) ⟨rfl,by rw[<-hdl];rfl,rfl,rfl,rfl,rfl,rfl,trivial⟩ ⟨rfl,rfl,trivial⟩ ?_
  intro i hi
  refine BV jL [] ?_
  by_cases hil:i<l.length
  ·have hx:=Ab hil
   have hadj:∀k u,l[k]? =some u->Lx G.edges l k i=decide (turn ⟨u,l[i]⟩∈G.edges):=λk u hk=>by unfold Lx;rw[hk,hx];rfl
   generalize l[i]=x at hx hadj
   have hxd:(l.map dI)[i]? =some (.int .i64 x):=by rw[Af,hx];rfl
   have hsub:(l.map dI).take i=(l.take i).map dI:=by rw[Fy]
   have htl:((l.map dI).take i).length=i:=by rw[Aw];omega
   have hci:=hcl i
   have hii:i*i<=8*8:=D2 (by omega) (by omega)
   (conv=>whnf)
   (repeat' ((first|refine Ai ?_ ?_|refine AM hxd rfl ?_|refine Jy rfl (show i<=(l.map dI).length by omega) ?_|refine nx ?_|refine A5 (λ_=>?_) (λ_=>?_)|exact AA)<;>conv=>whnf))
   refine AN (ι:=Nat) (λk=>k<=i) (λk=>[(35,.d (.int .i64 k)),(34,.d (.int .i64 i)),(33,.d (.list 1 ((l.map dI).take i))),(26,.d (.int .i64 i)),(25,.d (.int .i64 l.length)),(24,.d (Bx l)),(8,.d (.int .i64 x)),(7,.d (.int .i64 i)),(6,.own 300),(4,.own 4),(1,.d (Bx l)),(0,.d (dG G))]) (λk=>[(4,.cells 31 [.d .nils,.d .nils]),(300,.slice 103 2 ((F4 (Lx G.edges l) i++N8 (Lx G.edges l) i k).map dE))]) (λk=>i-k) 0 (λ_=>rfl) (As _) (.refl _ _) ⟨rfl,Qd (by rw[htl]),rfl,rfl,rfl,rfl,rfl,rfl,rfl,rfl,rfl,rfl,trivial⟩ ⟨rfl,by rw[show N8 (Lx G.edges l) i 0=[]from rfl,C4];rfl,trivial⟩ ?_
   intro k hk
   refine BV jL [] ?_
   by_cases hki:k<i
   ·have hy:=Ab (l:=l) (i:=k) (by omega)
    generalize l[k]'(by omega)=u at hy
    have hyd:((l.map dI).take i)[k]? =some (.int .i64 u):=by rw[Cy,if_pos hki,Af,hy];rfl
    have hh:=RK G hG u x
    have hst:=bC (Lx G.edges l) i k
    rw[hadj k u hy]at hst
    have hkl:=V9 (Lx G.edges l) i k
    have hol:((F4 (Lx G.edges l) i++N8 (Lx G.edges l) i k).map dE).length<=1000:=by rw[Ac,Ae];omega
    by_cases hd:turn ⟨u,x⟩∈G.edges
    ·rw[decide_eq_true hd]at hh hst
     rw[if_pos rfl]at hst
     (conv=>whnf)
     (repeat' ((first|refine Ai ?_ ?_|refine AM hyd rfl ?_|refine Bc tab rfl hh rfl ?_|refine nx ?_|refine A5 (λ_=>?_) (λ_=>?_)|exact AA)<;>conv=>whnf))
     refine⟨k+1,_,_,by omega,.refl _ _,⟨rfl,rfl,rfl,rfl,rfl,rfl,rfl,rfl,rfl,rfl,rfl,rfl,trivial⟩,⟨rfl,Bj ?_,trivial⟩,by omega⟩
     rw[hst];simp[dE]
    ·rw[decide_eq_false hd]at hh hst
     rw[if_neg (by decide),C4]at hst
     (conv=>whnf)
     (repeat' ((first|refine Ai ?_ ?_|refine AM hyd rfl ?_|refine Bc tab rfl hh rfl ?_|refine nx ?_|refine A5 (λ_=>?_) (λ_=>?_)|exact AA)<;>conv=>whnf))
     exact⟨k+1,_,_,by omega,.refl _ _,⟨rfl,rfl,rfl,rfl,rfl,rfl,rfl,rfl,rfl,rfl,rfl,rfl,trivial⟩,⟨rfl,Bj (by rw[hst]),trivial⟩,by omega⟩
   ·have hke:k=i:=by omega
    subst hke
    ((conv=>whnf);repeat' ((first|refine odw ?_|refine nx ?_|refine A5 (λ_=>?_) (λ_=>?_))<;>conv=>whnf))
    exact⟨k+1,_,_,by omega,.refl _ _,⟨rfl,rfl,rfl,rfl,rfl,rfl,rfl,trivial⟩,⟨rfl,Bj (by rw[Q2]),trivial⟩,by omega⟩
  ·have hie:i=l.length:=by omega
   subst hie
   (conv=>whnf)
   (repeat' ((first|refine Ai ?_ ?_|refine Du 300 rfl ?_|refine Aj rfl hql ?_|refine Aj rfl hmk ?_|refine nx ?_|refine A5 (λ_=>?_) (λ_=>?_)|exact AA)<;>conv=>whnf))
   exact rfl
end Go.Proofs.YtjejpdfldmempaaGreatDoor
end
section
namespace Go.Proofs.YtjejpdfldmempaaGreatDoor
open Go.Sx Go.RowKit Go.Reg Go.Gr
set_option maxRecDepth 100000
theorem N5 {O:List Nat} {w:World}:∀{l:List Edg} {css:List (List Value)},Al O w (l.map dE) css->css=l.map B7
 |[],css,h=>by simpa only[B4,Al]using h
 |
  e::l,css,h=>by
  simp only[Ap,Al,dE,RepC,RepCs]at h
  obtain⟨c1,c2,rfl,⟨a1,a2,rfl,rfl,b1,b2,rfl,rfl,rfl⟩,h⟩:=h
  rw[N5 h];rfl
theorem Q1(O:List Nat)(w:World):∀l:List Edg,Al O w (l.map dE) (l.map B7)
 |[]=>by simp[Al]
 |
  e::l=>by
  simp only[Ap,Al,dE,RepC,RepCs]
  exact⟨_,_,rfl,⟨_,_,rfl,rfl,_,_,rfl,rfl,rfl⟩,Q1 O w l⟩
theorem RU {E:Nat} {w:World} {v:Value} {l:List Edg}:Sl E 2 id w v (l.map B7)↔Sl E 2 B7 w v l:=by
 unfold Sl
 rw[Ac,bU]
 exact Iff.rfl
theorem Xw(l:List Edg)(hl:l.length<=4294967296)(e:Edg)(i:Nat)(hi:i<=l.length):
  Oy C1 194 103 2 (l.map dE) [.int .i64 i,.list 2 [dE e]] (λds=>ds=(l.take i++e::l.drop i).map dE):=by
 intro O w v css us hs hb hO hr hk hg hus
 obtain rfl:=N5 hr
 obtain⟨v1,vs,rfl,h1,h2⟩:=Cb hus
 obtain⟨v2,vs2,rfl,h3,h4⟩:=Cb h2
 obtain rfl:=ED h4
 obtain rfl:=FP h1
 obtain⟨cs,r,rfl⟩:=h3
 simp only[RepC]at r
 obtain⟨a,cap,css,rfl,hlc,hcm,hcs,hrow,hd⟩:=r
 have hcs':css=[B7 e]:=N5 (l:=[e]) hcs
 subst hcs'
 rcases hd with hd|⟨vb,vo,rfl,hvb,hvl,hcell⟩
 ·cases hd
 refine⟨enters_of Tryz.func194 (by kernel_rfl) rfl _ _,?_⟩
 refine(aL v l e i hi w (RU.1 hs) hl vb vo cap (λhm=>hvb (hb vb hm)) (λj u hj=>hcell j u (by simpa using hj))).mono ?_
 rintro x w' ⟨v',rfl,hs',ht,hb'⟩
 refine⟨v',_,(l.take i++e::l.drop i).map B7,rfl,rfl,RU.2 hs',hb',Q1 _ _ _,λy hy=>?_,ht⟩
 obtain⟨z,_,rfl⟩:=Aq.1 hy
 exact⟨Gy z,Gx z⟩
theorem Tg(l:List Edg):EU (l.map dE)=true:=FI _ (λ_=>rfl) _
def fG:List (Nat×Plan):=[(8,.leaf [0,1,1,2,2,0,0,0,0,0] [0,1,2,3,4,5,6,7,8,9] [0,1,0,4,15,31,63,63,127,511]),
 (13,.leaf [0,1,0,1,2,6,3,0,3] [0,2,1,3,4,5,6,7,8] [0,1,0,0,8,24,63,127,255])]
def oT:List FuncId:=[57,193,48]
set_option maxHeartbeats 4000000 in
theorem P4(l:List Int)(hl:Jr l=none)(E:List Edg)(hE:E.length<=1000)(hw:∀e∈E,(0<=min e.a e.b/\max e.a e.b<(l.length:Int))/\e.a≠e.b)(hn:(E.map turn).Nodup):
  Pure C1 129 [Bx l,Er E] (λy=>y=.tuple [L3 ⟨l,(E.map turn).foldl Mp []⟩,.nili]):=by
 have hdl:(l.map dI).length=l.length:=Ac _
 have hdE:(E.map dE).length=E.length:=Ac _
 have h8:=(Nx hl).1
 have hlb:=LZ l (by omega)
 rw[show EH l=.nili by unfold EH;rw[hl]]at hlb
 refine AT Tryz.func129 Tryz.ntmps129 oT fG ?_
 (conv=>whnf)
 (repeat' ((first|refine Ai ?_ ?_|refine Aj rfl hlb ?_|refine nx ?_|refine A5 (λ_=>?_) (λ_=>?_)|exact AA)<;>conv=>whnf))
 refine Ee 19 rfl rfl (Ib l (by omega)) ?_
 rintro ds rfl
 ((conv=>whnf);repeat' ((first|refine odw ?_|refine nx ?_|refine A5 (λ_=>?_) (λ_=>?_))<;>conv=>whnf))
 refine AN (ι:=Nat) (λi=>i<=E.length) (λi=>[(23,.d (.int .i64 i)),(22,.d (.int .i64 E.length)),(21,.d (Er E)),(7,.own 7),(4,.own 4),(0,.d (Bx l))]) (λi=>[(4,.cells 31 [.d .nils,.d .nils]),(7,.cells 31 [.d (Bx l),.own 300]),(300,.slice 103 2 ((Ie E i).map dE))]) (λi=>E.length-i) 0 (λ_=>rfl) (As _) (.frz 19 rfl (.ownc 7 300 103 2 rfl rfl (.there _ (.here _)) (.refl _ _))) ⟨rfl,by rw[<-hdE];rfl,rfl,rfl,rfl,rfl,trivial⟩ ⟨rfl,rfl,rfl,trivial⟩ ?_
 intro i hi
 refine BV oT fG ?_
 obtain⟨hst,hpe⟩:=nP hn i
 have hal:(Ie E i).length=i:=by rw[hpe.length_eq,Ac,Aw];omega
 have hald:((Ie E i).map dE).length=i:=by rw[Ac,hal]
 by_cases hil:i<E.length
 ·have hx:=Ab hil
  have hxw:=hw E[i] (Bi hil)
  have hstep:=bR hx
  have hnot:turn E[i]∉Ie E i:=λhm=>by
   have:=hpe.mem_iff.1 hm
   rw[Fy]at this
   obtain⟨j,hj,he⟩:=AU.1 this
   have hj':j<i:=by omega
   have hij:(E.map turn)[j]? =(E.map turn)[i]? :=by
    rw[Ab (by simp;omega),Ab (by simp;omega),he];simp
   have:=(List.getElem?_inj (by simp;omega) hn).1 hij
   omega
  generalize E[i]=x at hx hxw hstep hnot
  have hxd:(E.map dE)[i]? =some (.agg [.int .i64 x.a,.int .i64 x.b]):=by rw[Af,hx];rfl
  have htu:=LV x
  have hbs:=KH _ NZ (Ie E i) hst (by omega) (turn x)
  rw[decide_eq_false hnot]at hbs
  have hwi:=NN x l.length
  rw[decide_eq_true hxw.1,<-hdl]at hwi
  have hlt:=qH (Ie E i) (turn x)
  have hin:=Xw (Ie E i) (by omega) (turn x) (GC (Ie E i) (turn x)) hlt
  rw[show(Ie E i).take (GC (Ie E i) (turn x))++turn x::(Ie E i).drop (GC (Ie E i) (turn x))=Ie E (i+1)from hstep.symm]at hin
  have hne:=hxw.2
  (conv=>whnf)
  (repeat' ((first|refine Ai ?_ ?_|refine AM hxd rfl ?_|refine Aj rfl htu ?_|refine Bc tab rfl hbs rfl ?_|refine Aj rfl hwi ?_|refine Du 62 rfl ?_|refine nx ?_|refine A5 (λ_=>?_) (λ_=>?_)|exact AA)<;>conv=>whnf))
  refine RZ tab rfl rfl hin (λds h=>by subst h;exact Tg _) ?_
  rintro ds rfl
  ((conv=>whnf);repeat' ((first|refine odw ?_|refine nx ?_|refine A5 (λ_=>?_) (λ_=>?_))<;>conv=>whnf))
  exact⟨i+1,_,_,by omega,.refl _ _,⟨rfl,rfl,rfl,rfl,rfl,rfl,trivial⟩,⟨rfl,rfl,rfl,trivial⟩,by omega⟩
 ·have hie:i=E.length:=by omega
  subst hie
  have e:Ie E E.length=(E.map turn).foldl Mp []:=by unfold Ie;rw[Dr]
  rw[e]
  ((conv=>whnf);repeat' ((first|refine odw ?_|refine nx ?_|refine A5 (λ_=>?_) (λ_=>?_))<;>conv=>whnf))
  exact rfl
end Go.Proofs.YtjejpdfldmempaaGreatDoor
end
section
namespace Go.Proofs.YtjejpdfldmempaaGreatDoor
open Go.Gr
theorem Xe {E:List Edg} {l:List Int} {e:Edg}:e∈BJ E l↔∃m:Nat,(m:Int)∈l/\E[m]? =some e:=by
 simp only[BJ,List.mem_filterMap]
 constructor
 ·rintro⟨x,hx,h⟩
  split at h
  ·rename_i hr
   obtain⟨m,rfl⟩:=A1 hr.1
   exact⟨m,hx,by simpa using h⟩
  ·cases h
 ·rintro⟨m,hm,h⟩
  have:=(Ad.1 h).1
  exact⟨m,hm,by rw[if_pos ⟨by omega,by omega⟩,Be];exact h⟩
theorem turn_nat {u m:Nat}(h:u≠m):(u<m/\turn ⟨(u:Int),(m:Int)⟩=⟨(u:Int),(m:Int)⟩)\/(m<u/\turn ⟨(u:Int),(m:Int)⟩=⟨(m:Int),(u:Int)⟩):=by
 rcases Nat.lt_or_gt_of_ne h with h|h
 ·exact .inl ⟨h,by unfold turn;simp only[Edg.mk.injEq];omega⟩
 ·exact .inr ⟨h,by unfold turn;simp only[Edg.mk.injEq];omega⟩
theorem Zb {E:List Edg} {u m:Nat}(h:u≠m)(hu:u<E.length)(hm:m<E.length):turn ⟨(u:Int),(m:Int)⟩∈Hn E E.length↔tch E u m=true:=by
 rw[JS]
 rcases turn_nat h with⟨h1,h2⟩|⟨h1,h2⟩<;>rw[h2]
 ·constructor
  ·rintro⟨a,b,_,_,_,ht,e⟩
   simp only[Edg.mk.injEq]at e
   rw[show u=a by omega,show m=b by omega];exact ht
  ·exactλht=>⟨u,m,hu,hm,h1,ht,rfl⟩
 ·constructor
  ·rintro⟨a,b,_,_,_,ht,e⟩
   simp only[Edg.mk.injEq]at e
   rw[show m=a by omega,show u=b by omega,Yg];exact ht
  ·exactλht=>⟨m,u,hm,hu,h1,by rw[Yg];exact ht,rfl⟩
theorem RC {G:Gr} {l:List Int}(h:BK G l=true) {k:Nat} {v:Int}(hx:l[k]? =some v):CQ G l k v=true:=by
 cases hh:CQ G l k v with
 |true=>rfl
 |false=>rw[Ez hx hh]at h;cases h
theorem gO {G:Gr} {v:Int}:E0 (Gq G) v=decide (0<=v/\v<G.edges.length):=by simp[E0,Gq]
theorem Lb {G:Gr} {l:List Int} {i:Nat} {v:Int}(h:¬(0<=v/\v<G.edges.length)\/v∈l.take i):CQ (Gq G) l i v=false:=by
 unfold CQ
 rw[gO]
 rcases h with h|h<;>simp[h]
end Go.Proofs.YtjejpdfldmempaaGreatDoor
end
section
namespace Go.Gr
theorem Ub(f:Nat->Nat->Bool)(a b:Nat):BX (eJ f a b):=by
 unfold BX eJ
 rw[BL]
 refine Wa ?_ (List.Pairwise.filter _ jG)
 intro x y h
 rw[DX]
 exact .inr ⟨rfl,by show(x:Int)<y;omega⟩
theorem Iu(f:Nat->Nat->Bool)(n a:Nat):BX (TX f n a):=by
 unfold TX BX
 rw[List.pairwise_flatMap]
 refine⟨λj _=>Ub f j n,Wa ?_ jG⟩
 intro i j hij x hx y hy
 simp only[eJ,Aq]at hx hy
 obtain⟨_,_,rfl⟩:=hx
 obtain⟨_,_,rfl⟩:=hy
 rw[DX]
 exact .inl (by show(i:Int)<j;omega)
theorem Nu {f:Nat->Nat->Bool} {n:Nat} {e:Edg}:e∈F4 f n↔∃k i:Nat,i<n/\k<i/\f k i=true/\e=⟨(k:Int),(i:Int)⟩:=by
 simp only[F4,N8,A9,AO,Aq,A3]
 constructor
 ·rintro⟨i,hi,k,⟨h1,h2⟩,rfl⟩;exact⟨k,i,hi,h1,h2,rfl⟩
 ·rintro⟨k,i,hi,h1,h2,rfl⟩;exact⟨i,hi,k,⟨h1,h2⟩,rfl⟩
theorem Ov(f:Nat->Nat->Bool)(n:Nat):(F4 f n).Nodup:=by
 unfold F4 List.Nodup
 rw[List.pairwise_flatMap]
 refine⟨λi _=>?_,Wa ?_ jG⟩
 ·unfold N8
  rw[BL]
  refine Wa ?_ (List.Pairwise.filter _ jG)
  intro x y h e
  have:(x:Int)=y:=congrArg Edg.a e
  omega
 ·intro i j hij x hx y hy e
  simp only[N8,Aq]at hx hy
  obtain⟨a,_,rfl⟩:=hx
  obtain⟨b,_,rfl⟩:=hy
  have:(i:Int)=j:=congrArg Edg.b e
  omega
theorem Y9 {L R:List Edg}(hn:(L.map turn).Nodup)(hR:BX R)(h:∀x,x∈L.map turn↔x∈R):(L.map turn).foldl Mp []=R:=by
 obtain⟨h1,h2⟩:=Ql _ hn [] List.Pairwise.nil (by simp)
 refine Kz h1 hR λx=>?_
 rw[h2.mem_iff,C4]
 exact h x
theorem Li(f:Nat->Nat->Bool)(n:Nat):(F4 f n).map turn=F4 f n:=by
 have:∀e∈F4 f n,turn e=id e:=λe he=>by
  obtain⟨k,i,_,h,_,rfl⟩:=Nu.1 he
  exact JH (show(k:Int)<=i by omega)
 rw[List.map_congr_left this,List.map_id]
theorem kP(x y:Int):turn ⟨x,y⟩=⟨x,y⟩\/turn ⟨x,y⟩=⟨y,x⟩:=by
 unfold turn;simp only[Edg.mk.injEq];omega
theorem ZZ {E:List Edg}(hE:∀e∈E,e.a<e.b)(l:List Int):((F4 (Lx E l) l.length).map turn).foldl Mp []=Mj E l:=by
 refine Y9 (by rw[Li];exact Ov _ _) (Iu _ _ _) λx=>?_
 rw[Li,Nu]
 unfold Mj
 rw[Ns]
 constructor
 ·rintro⟨k,i,h1,h2,h3,rfl⟩
  exact⟨k,i,by omega,h1,h2,by unfold Ru;rw[HM hE];exact h3,rfl⟩
 ·rintro⟨j,x,h0,h1,h2,h3,rfl⟩
  unfold Ru at h3
  rw[HM hE]at h3
  exact⟨j,x,h1,h2,h3,rfl⟩
theorem Xy {l:List Int} {x:Int}(h:x∈l):∃i:Nat,i<l.length/\l[i]? =some x/\O1 l x=i:=by
 have hs:(l.findIdx? λy=>decide (x=y)).isSome=true:=by
  rw[List.findIdx?_isSome,BM];exact⟨x,h,by simp⟩
 obtain⟨i,hi⟩:=Option.isSome_iff_exists.1 hs
 have hi':=hi
 rw[AJ]at hi'
 obtain⟨h1,h2,_⟩:=hi'
 have h2:x=l[i]:=by simpa using h2
 exact⟨i,h1,by rw[Ab h1,<-h2],by unfold O1;rw[hi]⟩
theorem YD {l:List Int}(hn:l.Nodup) {i:Nat} {x:Int}(h:l[i]? =some x):O1 l x=i:=by
 obtain⟨j,hj,h2,h3⟩:=Xy (AD h)
 rw[h3]
 have:=(List.getElem?_inj hj hn).1 (h2.trans h.symm)
 omega
def nK(v:List Int)(e:Edg):Edg:=⟨O1 v e.a,O1 v e.b⟩
theorem Tq {v:List Int}(_hn:v.Nodup) {e:Edg}(h:e.a<e.b)(ha:e.a∈v)(hb:e.b∈v):∃i j:Nat,i<v.length/\j<v.length/\v[i]? =some e.a/\v[j]? =some e.b/\i≠j/\nK v e=⟨(i:Int),(j:Int)⟩:=by
 obtain⟨i,h1,h2,h3⟩:=Xy ha
 obtain⟨j,h4,h5,h6⟩:=Xy hb
 refine⟨i,j,h1,h4,h2,h5,λe'=>?_,by unfold nK;rw[h3,h6]⟩
 subst e'
 rw[h2]at h5
 have:=BG h5
 omega
theorem UF {E:List Edg}(hE:∀e∈E,e.a<e.b)(hn:E.Nodup)(v:List Int)(hv:v.Nodup)(hin:∀e∈E,e.a∈v/\e.b∈v):
  (((E.map (nK v)).map turn).Nodup)/\((E.map (nK v)).map turn).foldl Mp []=Mj E v:=by
 have hnd:((E.map (nK v)).map turn).Nodup:=by
  rw[QR]
  refine BL.2 (XZ ?_ hn)
  intro x y hx hy hxy h
  refine hxy ?_
  simp only[Function.comp]at h
  obtain⟨i,j,h1,h2,h3,h4,h5,h6⟩:=Tq hv (hE x hx) (hin x hx).1 (hin x hx).2
  obtain⟨i2,j2,k1,k2,k3,k4,k5,k6⟩:=Tq hv (hE y hy) (hin y hy).1 (hin y hy).2
  rw[h6,k6]at h
  have hxl:=hE x hx
  have hyl:=hE y hy
  have hcase:(i=i2/\j=j2)\/(i=j2/\j=i2):=by
   unfold turn at h;simp only[Edg.mk.injEq]at h;omega
  rcases hcase with⟨rfl,rfl⟩|⟨rfl,rfl⟩
  ·rw[h3]at k3;rw[h4]at k4
   have e1:=BG k3;have e2:=BG k4
   cases x;cases y;simp_all
  ·rw[h3]at k4;rw[h4]at k3
   have e1:=BG k3;have e2:=BG k4
   omega
 refine⟨hnd,Y9 hnd (Iu _ _ _) λx=>?_⟩
 unfold Mj
 rw[Ns]
 simp only[QR,Aq,Function.comp]
 constructor
 ·rintro⟨e,he,rfl⟩
  obtain⟨i,j,h1,h2,h3,h4,h5,h6⟩:=Tq hv (hE e he) (hin e he).1 (hin e he).2
  have ht:turn e=e:=JH (Int.le_of_lt (hE e he))
  rw[h6]
  rcases Go.Proofs.YtjejpdfldmempaaGreatDoor.turn_nat h5 with⟨h7,h8⟩|⟨h7,h8⟩<;>rw[h8]
  ·refine⟨i,j,h1,h2,h7,?_,rfl⟩
   unfold Ru;rw[HM hE,h3,h4]
   simp only[Option.getD_some,decide_eq_true_eq]
   rw[show(⟨e.a,e.b⟩:Edg)=e from rfl,ht];exact he
  ·refine⟨j,i,h2,h1,h7,?_,rfl⟩
   unfold Ru;rw[HM hE,h3,h4]
   simp only[Option.getD_some,decide_eq_true_eq]
   rw[G1,show(⟨e.a,e.b⟩:Edg)=e from rfl,ht];exact he
 ·rintro⟨j,x,h0,h1,h2,h3,rfl⟩
  unfold Ru at h3
  rw[HM hE,decide_eq_true_eq]at h3
  have hj:=Ab h0
  have hx:=Ab h1
  refine⟨_,h3,?_⟩
  have g1:=YD hv hj
  have g2:=YD hv hx
  rw[hj,hx]at h3⊢
  simp only[Option.getD_some]at h3⊢
  rcases kP v[j] v[x]with e|e<;>rw[e]<;>unfold nK<;>simp only[g1,g2]
  ·exact JH (show(j:Int)<=x by omega)
  ·rw[G1];exact JH (show(j:Int)<=x by omega)
end Go.Gr
end
section
namespace Go.Proofs.YtjejpdfldmempaaGreatDoor
open Go.RowKit Go.Reg
theorem Se(t:Nat)(w:World):(callFunc 169 #[.iface 194 (.pointer (some ⟨t,0,none⟩))]).run Tryz.prog w=.ok (.value (.agg #[.pointer (some ⟨5,194,none⟩),.pointer (some ⟨w.heap.size,0,none⟩),.int .u64 150])) (w.alloc (.cells #[.pointer (some ⟨t,0,none⟩)] 194)):=by kernel_rfl
theorem T1(t o:Nat)(w:World):(callFunc 169 #[.iface 141 (.pointer (some ⟨t,o,none⟩))]).run Tryz.prog w=.ok (.value (.agg #[.pointer (some ⟨5,141,none⟩),.pointer (some ⟨w.heap.size,0,none⟩),.int .u64 150])) (w.alloc (.cells #[.pointer (some ⟨t,o,none⟩)] 141)):=by kernel_rfl
theorem YU(b:Nat)(w:World):(callFunc 170 #[.agg #[.pointer (some ⟨5,194,none⟩),.pointer (some ⟨b,0,none⟩),.int .u64 150]]).run Tryz.prog w=.ok (.value (.iface 293 (.agg #[.pointer (some ⟨5,194,none⟩)]))) w:=by kernel_rfl
theorem We(b o:Nat)(w:World):(callFunc 224 #[.iface 141 (.pointer (some ⟨b,o,none⟩))]).run Tryz.prog w=.ok (.value (.iface 293 (.agg #[.pointer (some ⟨5,141,none⟩)]))) w:=by kernel_rfl
theorem YW(w:World):(callFunc 305 #[.pointer (some ⟨5,194,none⟩)]).run Tryz.prog w=.ok (.value (.int .u8 22)) w:=by kernel_rfl
theorem bZ(w:World):(callFunc 305 #[.pointer (some ⟨5,141,none⟩)]).run Tryz.prog w=.ok (.value (.int .u8 22)) w:=by kernel_rfl
theorem YX(w:World):(callFunc 318 #[.agg #[.pointer (some ⟨5,194,none⟩)]]).run Tryz.prog w=.ok (.value (.iface 293 (.agg #[.pointer (some ⟨5,141,none⟩)]))) w:=by kernel_rfl
theorem cC(w:World):(callFunc 319 #[.agg #[.pointer (some ⟨5,141,none⟩)],.iface 293 (.agg #[.pointer (some ⟨5,39,none⟩)])]).run Tryz.prog w=.ok (.value (.bool true)) w:=by kernel_rfl
theorem Wf(w:World):(callFunc 316 #[.agg #[.pointer (some ⟨5,141,none⟩)],.iface 293 (.agg #[.pointer (some ⟨5,141,none⟩)])]).run Tryz.prog w=.ok (.value (.bool true)) w:=by kernel_rfl
theorem kG(b:Nat)(w:World):(method 473 293 (.agg #[.pointer (some ⟨5,b,none⟩)]) "Kind").run Tryz.prog w=.ok (305,.pointer (some ⟨5,b,none⟩)) w:=by kernel_rfl
theorem kI(b:Nat)(w:World):(method 473 293 (.agg #[.pointer (some ⟨5,b,none⟩)]) "Elem").run Tryz.prog w=.ok (318,.agg #[.pointer (some ⟨5,b,none⟩)]) w:=by kernel_rfl
theorem kH(b:Nat)(w:World):(method 473 293 (.agg #[.pointer (some ⟨5,b,none⟩)]) "Implements").run Tryz.prog w=.ok (319,.agg #[.pointer (some ⟨5,b,none⟩)]) w:=by kernel_rfl
theorem YV(b:Nat)(w:World):(method 473 293 (.agg #[.pointer (some ⟨5,b,none⟩)]) "AssignableTo").run Tryz.prog w=.ok (316,.agg #[.pointer (some ⟨5,b,none⟩)]) w:=by kernel_rfl
theorem kJ(b t:Nat)(w:World)(h:w.cell? ⟨b,0,none⟩=some (.pointer (some ⟨t,0,none⟩))):(callFunc 171 #[.agg #[.pointer (some ⟨5,194,none⟩),.pointer (some ⟨b,0,none⟩),.int .u64 150]]).run Tryz.prog w=.ok (.value (.bool false)) w:=
 DA _ [.pointer (some ⟨t,0,none⟩)] [] (es:=[ld ⟨b,0,none⟩ (.pointer (some ⟨t,0,none⟩))]) (by kernel_rfl) ⟨h,rfl⟩
theorem cD(b t:Nat)(w:World)(h:w.cell? ⟨b,0,none⟩=some (.pointer (some ⟨t,0,none⟩))):(callFunc 225 #[.agg #[.pointer (some ⟨5,194,none⟩),.pointer (some ⟨b,0,none⟩),.int .u64 150]]).run Tryz.prog w=.ok (.value (.agg #[.pointer (some ⟨5,141,none⟩),.pointer (some ⟨t,0,none⟩),.int .u64 406])) w:=
 DA _ [.pointer (some ⟨t,0,none⟩)] [] (es:=[ld ⟨b,0,none⟩ (.pointer (some ⟨t,0,none⟩))]) (by kernel_rfl) ⟨h,rfl⟩
theorem rN(t b:Nat)(v:Value)(f o:Nat)(w:World)(h:w.cell? ⟨b,0,none⟩=some (.pointer (some ⟨f,o,none⟩)))(ht:w.cell? ⟨t,0,none⟩=some v)(hz:w.frozen? ⟨t,0,none⟩=false):(callFunc 226 #[.agg #[.pointer (some ⟨5,141,none⟩),.pointer (some ⟨t,0,none⟩),.int .u64 406],.agg #[.pointer (some ⟨5,141,none⟩),.pointer (some ⟨b,0,none⟩),.int .u64 150]]).run Tryz.prog w=.ok (.value (.tuple #[])) (w.setCell ⟨t,0,none⟩ (.pointer (some ⟨f,o,none⟩))):=
 DA _ [.pointer (some ⟨f,o,none⟩)] [] (es:=[ld ⟨b,0,none⟩ (.pointer (some ⟨f,o,none⟩)),st ⟨t,0,none⟩ (.pointer (some ⟨f,o,none⟩))]) (by kernel_rfl) ⟨h,rfl,⟨_,ht⟩,hz,rfl⟩
end Go.Proofs.YtjejpdfldmempaaGreatDoor
end
section
namespace Go.Proofs.YtjejpdfldmempaaGreatDoor
open Go.RowKit Go.Reg
def jV(w:World):Prop:=w.cell? ⟨0,0,none⟩=some (.iface 293 (.agg #[.pointer (some ⟨5,39,none⟩)]))
set_option maxRecDepth 100000 in
set_option maxHeartbeats 1000000 in
theorem nM(f o t b:Nat)(v:Value)(w:World)(hb:w.cell? ⟨b,0,none⟩=some (.pointer (some ⟨t,0,none⟩)))(hf:w.cell? ⟨t,0,none⟩=some v)(hz:w.frozen? ⟨t,0,none⟩=false)(ht:t<w.heap.size)(hbs:b<w.heap.size):
  Calls Tryz.prog 172 #[.iface 141 (.pointer (some ⟨f,o,none⟩)),.iface 194 (.pointer (some ⟨t,0,none⟩)),.agg #[.pointer (some ⟨5,194,none⟩),.pointer (some ⟨b,0,none⟩),.int .u64 150],.iface 293 (.agg #[.pointer (some ⟨5,141,none⟩)])] w
   λe w'=>e=.returned (.bool true)/\w'.cell? ⟨t,0,none⟩=some (.pointer (some ⟨f,o,none⟩))/\Tch [t] w w':=by
 have e1:=We
 have e2:=YV
 have e3:=Wf
 have e4:=λw' (h:w'.cell? ⟨b,0,none⟩=some (.pointer (some ⟨t,0,none⟩)))=>cD b t w' h
 have e5:=T1 f o
 have hT:Tch [] w ((w.alloc (.cells #[.pointer (some ⟨5,194,none⟩),.pointer (some ⟨b,0,none⟩),.int .u64 150] 248)).alloc (.cells #[.pointer (some ⟨f,o,none⟩)] 141)):=((Tch.refl [] w).andAlloc _).andAlloc _
 have hN:((w.alloc (.cells #[.pointer (some ⟨5,194,none⟩),.pointer (some ⟨b,0,none⟩),.int .u64 150] 248)).alloc (.cells #[.pointer (some ⟨f,o,none⟩)] 141)).cell? ⟨w.heap.size+1,0,none⟩=some (.pointer (some ⟨f,o,none⟩)):=by
  simp
 have hFz:((w.alloc (.cells #[.pointer (some ⟨5,194,none⟩),.pointer (some ⟨b,0,none⟩),.int .u64 150] 248)).alloc (.cells #[.pointer (some ⟨f,o,none⟩)] 141)).frozen? ⟨t,0,none⟩=false:=by rw[World.frozen?_of_block (w:=w) (hT.blk t ht (by simp))];exact hz
 have e6:=rN t (w.heap.size+1) v f o _ hN (hT.cell hf (by simp)) hFz
 have HC:=EO hf
 clear hT hN hFz
 go_enter Tryz.func172,Tryz.ntmps172
 go_wp2_with fail
 refine wp_loop_once ?_
 go_wp2_with fail
 go_ret
 refine⟨rfl,?_,((Tch.setCell w (.inl (by simp)) _).andAlloc _).andAlloc _⟩
 exact(((Tch.refl [] _).andAlloc _).andAlloc _).cell (World.cell?_setCell_same _ _ _ HC.out) (by simp)
set_option maxRecDepth 100000 in
set_option maxHeartbeats 1000000 in
theorem rA(f o t:Nat)(v:Value)(w:World)(hf:w.cell? ⟨t,0,none⟩=some v)(hz:w.frozen? ⟨t,0,none⟩=false)(ht:t<w.heap.size)(h0:jV w):
  Calls Tryz.prog 115 #[.iface 141 (.pointer (some ⟨f,o,none⟩)),.iface 194 (.pointer (some ⟨t,0,none⟩))] w
   λe w'=>e=.returned (.bool true)/\w'.cell? ⟨t,0,none⟩=some (.pointer (some ⟨f,o,none⟩))/\Tch [t] w w':=by
 unfold jV at h0
 have hs0:0<w.heap.size:=by omega
 have e1:=Se t
 have e2:=YU
 have e3:=kG
 have e4:=YW
 have e5:=kI
 have e6:=YX
 have e7:=λw' (h:w'.cell? ⟨w.heap.size,0,none⟩=some (.pointer (some ⟨t,0,none⟩)))=>kJ w.heap.size t w' h
 have e8:=bZ
 have e9:=kH
 have e10:=cC
 have hT:Tch [] w ((w.alloc (.cells #[.pointer (some ⟨t,0,none⟩)] 194)).alloc (.cells #[.pointer (some ⟨5,194,none⟩),.pointer (some ⟨w.heap.size,0,none⟩),.int .u64 150] 248)):=((Tch.refl [] w).andAlloc _).andAlloc _
 have HT:=EO hT
 have HF:=EO (hT.cell hf (by simp))
 have HB:=EO (((Tch.refl [] (w.alloc (.cells #[.pointer (some ⟨t,0,none⟩)] 194))).andAlloc (.cells #[.pointer (some ⟨5,194,none⟩),.pointer (some ⟨w.heap.size,0,none⟩),.int .u64 150] 248)).cell ((GL.new w 194 [.pointer (some ⟨t,0,none⟩)]).cell (i:=0) rfl) (by simp))
 have HZ:=EO (show((w.alloc (.cells #[.pointer (some ⟨t,0,none⟩)] 194)).alloc (.cells #[.pointer (some ⟨5,194,none⟩),.pointer (some ⟨w.heap.size,0,none⟩),.int .u64 150] 248)).frozen? ⟨t,0,none⟩=false by rw[World.frozen?_of_block (w:=w) (hT.blk t ht (by simp))];exact hz)
 clear hT hf hz
 go_enter Tryz.func115,Tryz.ntmps115
 go_wp2_with fail
 refine(nM f o t w.heap.size v _ HB.out HF.out HZ.out (by simp;omega) (by simp;omega)).mono ?_
 rintro e w' ⟨rfl,hc,hT⟩
 go_wp2_with fail
 go_ret
 exact⟨rfl,hc,(HT.out).ahead0 hT⟩
set_option maxRecDepth 100000 in
theorem XB(f o:Nat)(w:World)(h0:jV w)(_hs:0<w.heap.size):
  Calls Tryz.prog 74 #[.iface 141 (.pointer (some ⟨f,o,none⟩))] w λe w'=>e=.returned (.pointer (some ⟨f,o,none⟩))/\Tch [] w w':=by
 have HN:=EO (GL.new w 141 [.pointer none])
 have H0:=EO (show jV (w.alloc (.cells #[.pointer none] 141))from(Tch.alloc w _ []).cell h0 (by simp))
 clear h0
 go_enter Tryz.func74,Tryz.ntmps74
 go_wp2_with fail
 refine(rA f o w.heap.size (.pointer none) _ (HN.out.cell (i:=0) rfl) (HN.out.frozen 0) (by simp) H0.out).mono ?_
 rintro e w' ⟨rfl,hc,hT⟩
 have HT:=EO ((Tch.alloc w (.cells #[.pointer none] 141) []).trans hT (T:=[]) (λ_ h=>h) (λx hx=>.inr (by simp at hx;omega)))
 clear hT
 go_wp2_with fail
 go_ret
 exact⟨rfl,HT.out⟩
end Go.Proofs.YtjejpdfldmempaaGreatDoor
end
section
namespace Go.Proofs.YtjejpdfldmempaaGreatDoor
open Go.Sx Go.RowKit Go.Reg
set_option maxRecDepth 100000
theorem aU {O:List Nat} {w:World}(h:Glob C1 O w):jV w/\0∉O:=by
 obtain⟨cs,h1,h2⟩:=(h _ (List.mem_singleton_self _)).1
 simp only[RepC]at h1
 obtain⟨b,o,c,rfl,hb,_,rfl,hc⟩:=h1
 simp only[Fc,kE,Value.pointer.injEq,Au,Addr.mk.injEq,and_true]at h2
 obtain⟨rfl,rfl⟩:=h2
 exact⟨hc 0 _ rfl,hb⟩
theorem Vr(c a:Int)(s:ByteArray):Pure C1 74 [dF c a s] (λy=>y=.ref (.agg [.int .i64 c,.int .i64 a,.str s])):=by
 intro O w us hO hg hr
 obtain⟨v,vs,rfl,h1,h2⟩:=Cb hr
 obtain rfl:=ED h2
 obtain⟨cs,r,rfl⟩:=h1
 simp only[dF,RepC]at r
 obtain⟨c2,⟨b,o,c3,rfl,r1,r2,r3,r4⟩,rfl⟩:=r
 obtain⟨hE,h0⟩:=aU hg
 refine⟨by kernel_rfl,(XB b o w hE (by omega)).mono ?_⟩
 rintro e w' ⟨rfl,ht⟩
 refine⟨_,_,rfl,rfl,⟨[_],?_,rfl⟩,ht⟩
 have:=RepC.later (Later.same ht O) (.ref (.agg [.int .i64 c,.int .i64 a,.str s])) [.pointer (some ⟨b,o,none⟩)] (by simp only[RepC];exact⟨b,o,c3,rfl,r1,r2,r3,r4⟩)
 exact this
theorem bH(c a:Int)(s:ByteArray):Pure C1 24 [dF c a s] (λy=>y=.int .i64 c):=by
 refine AT Tryz.func24 Tryz.ntmps24 [] [] ?_
 ((conv=>whnf);repeat' (first|(refine Tb (by first|omega|rfl|assumption|exact⟨rfl,rfl⟩|exact⟨rfl,rfl,rfl⟩|exact⟨rfl,rfl,rfl,rfl⟩) ?_;conv=>whnf)|(refine RI (by first|omega|assumption|exactλh=>h rfl|exactλh=>h (by assumption)|exactλh=>h ⟨rfl,rfl⟩|exactλh=>h ⟨rfl,rfl,rfl⟩|exactλh=>h ⟨rfl,rfl,rfl,rfl⟩) ?_;conv=>whnf)|(refine EX (by omega) ?_;conv=>whnf)|(refine YP rfl (by assumption) ?_;conv=>whnf)|(refine GW (by(try simp only[Ae,Ac,Ax,Cf]);omega) ?_;conv=>whnf)|(refine S6 (by first|decide|omega) ?_;conv=>whnf)|(refine YC (λ_=>?_) (λ_=>?_)<;>conv=>whnf)))
 refine AH rfl (Vr c a s) ?_;rintro y rfl
 ((conv=>whnf);repeat' (first|(refine Tb (by first|omega|rfl|assumption|exact⟨rfl,rfl⟩|exact⟨rfl,rfl,rfl⟩|exact⟨rfl,rfl,rfl,rfl⟩) ?_;conv=>whnf)|(refine RI (by first|omega|assumption|exactλh=>h rfl|exactλh=>h (by assumption)|exactλh=>h ⟨rfl,rfl⟩|exactλh=>h ⟨rfl,rfl,rfl⟩|exactλh=>h ⟨rfl,rfl,rfl,rfl⟩) ?_;conv=>whnf)|(refine EX (by omega) ?_;conv=>whnf)|(refine YP rfl (by assumption) ?_;conv=>whnf)|(refine GW (by(try simp only[Ae,Ac,Ax,Cf]);omega) ?_;conv=>whnf)|(refine S6 (by first|decide|omega) ?_;conv=>whnf)|(refine YC (λ_=>?_) (λ_=>?_)<;>conv=>whnf)))
 all_goals exact rfl
end Go.Proofs.YtjejpdfldmempaaGreatDoor
end
