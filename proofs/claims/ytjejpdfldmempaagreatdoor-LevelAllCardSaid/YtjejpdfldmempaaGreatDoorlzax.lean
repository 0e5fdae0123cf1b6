/- Merged: Ins Pte Qip Clp Qif Qig Qih Pmk Pmg Lnm Qtp Flx Flt Fau Fst Fsu Qii. -/
import Derived.Test.YtjejpdfldmempaaGreatDoorlzaq
import Derived.Test.YtjejpdfldmempaaGreatDoorlzah
import Derived.Test.YtjejpdfldmempaaGreatDoorlzan
import Derived.Shelf.Spec.SlicesInsert
import Derived.Lib.AppendZerosOnto
import Derived.Laws.CopyRow
import Derived.Test.YtjejpdfldmempaaGreatDoorlzar
import Derived.Test.YtjejpdfldmempaaGreatDoorlzat
import Derived.Test.YtjejpdfldmempaaGreatDoorlzas
import Derived.Test.YtjejpdfldmempaaGreatDoorlzap
import Derived.Test.YtjejpdfldmempaaGreatDoorlzau
import Derived.Test.YtjejpdfldmempaaGreatDoorRows
import Derived.Test.YtjejpdfldmempaaGreatDoorlzae
import Derived.Test.YtjejpdfldmempaaGreatDoorlzaf
import Derived.WalkSpells
import Derived.WalkLawsBesides
section
namespace Go.Reg
open Go Go.RowKit
section
variable {P:Program} {α:Type}
theorem Ge(w:World)(dT sT ty elem:TypeId)(k:Nat)(g o dLen dCap:Nat)(a:Addr)(sLen sCap:Nat)(cur:Array Value)(t:TypeId)(cs:List Value)
  (hu:P.underlying dT=some (.slice elem)) (hs:(P.info? elem).map (·.size)=some k)
  (hg:w.heap[g]? =some (.cells cur t (0,0))) (hn:cs.length=Nat.min sLen dLen*k)
  (hsrc:∀j v,cs[j]? =some v->w.cell? (a.add j)=some v) (hfit:o+cs.length<=cur.size) (h1:∀v∈cs,v.oneCell'=true):
  (Builtin.copy_ #[dT,sT] ty #[.slice (some ⟨g,o,none⟩) dLen dCap,.slice (some a) sLen sCap]).run P w=
   .ok (goInt (Nat.min sLen dLen)) (w.setRow g (cur.toList.take o++cs++cur.toList.drop (o+cs.length)).toArray):=by
 have hl:=run_loadCells_list (P:=P) w a cs hsrc
 have hst:=run_storeCells_at P g o t cs 0 cur w hg (by simpa using hfit) h1
 cases hq:P.info? elem with
 |none=>simp[hq]at hs
 |
  some i=>
  have hi:i.size=k:=by simpa[hq]using hs
  simp[Builtin.copy_,run_underlying hu,Builtin.lenOf,Builtin.firstCells,sizeOf,typeInfo,hq,hi,<-hn,hl,hst]
theorem MS(w:World)(tS tR e:TypeId)(ht:P.underlying tS=some (.slice e))(size:Nat)(hz:∀w,(Go.sizeOf e).run P w=.ok size w)
  (a b:Addr) (la ca lb cb:Nat) (hne:a.block≠b.block) {cA cB:Array Value} {tA tB:TypeId} {frA:Nat×Nat} (ha:w.heap[a.block]? =some (.cells cA tA frA)) (hb:w.heap[b.block]? =some (.cells cB tB (0,0))) (hA:cA.size≠0) (hB:cB.size≠0):
  (Extern.SlicesOverlaps.overlaps #[tS,tS] #[tR] #[.slice (some a) la ca,.slice (some b) lb cb]).run P w=.ok (.bool false) w:=by
 have hnb:(a.block !=b.block)=true:=by simpa using hne
 have hnb':(a.block==b.block)=false:=by simpa using hne
 have hsa:w.shape? a.block=some (tA,cA.size):=by simp[World.shape?,ha]
 have hsb:w.shape? b.block=some (tB,cB.size):=by simp[World.shape?,hb]
 have hfb:w.frozen? b=false:=by simp[World.frozen?,hb]
 have hfb2:w.frozen? {block:=b.block,off:=cB.size}=false:=by simp[World.frozen?,hb]
 generalize hka:cA.size=kA at*
 generalize hkb:cB.size=kB at*
 cases kA with
 |zero=>exact absurd rfl hA
 |
  succ kA=>
  cases kB with
  |zero=>exact absurd rfl hB
  |
   succ kB=>
   change Sem.run P (α:=Value) (do
    let some t:=(#[tS,tS]:Array TypeId)[0]? |stuck "slices.overlaps: no parameter types"
    let .slice elem<-underlying t|stuck "slices.overlaps: slice type expected"
    let size<-sizeOf elem
    match(some a:Option Addr),(some b:Option Addr)with
    |
     some a,some b=>
     if la=0\/lb=0\/size=0 then pure (Value.bool false)
     else if a.block !=b.block&&(<-frozen a)&&(<-frozen b)then unsupported .addressObserved
     else do
      if a.block !=b.block then do
       noView a;noView b
       if<-mayBeOne a b then return Value.bool ((<-choose (.extern "sameAddr.stringBytes" 2))==1)
      pure (Value.bool (a.block==b.block&&a.off<b.off+lb*size&&b.off<a.off+la*size))
    |_,_=>pure (Value.bool false)) w=_
   by_cases h0:la=0\/lb=0\/size=0
   ·simp[run_underlying ht,hz,h0]
   ·cases hfa:w.frozen? a<;>cases hfe:w.frozen? {block:=a.block,off:=kA+1}<;>
     simp[run_underlying ht,hz,h0,hnb,hnb',frozen,noView,viewAt,mayBeOne,stringish,shape,Sem.run,hsa,hsb,hfb,hfb2,hfa,hfe]
theorem PH {E k:Nat} {enc:α->List Value}(he:∀x,(enc x).length=k)(h1:∀x,∀u∈enc x,u.oneCell'=true) {t:TypeId} {bytes:Nat}(ht:P.underlying t=some (.slice E))(hinfo:(P.info? E).map (λi=>(i.zero.map (·.cells.size),i.size,i.bytes))=some (some k,k,bytes))(hkb:(decide (0<k)&&decide (bytes<=1000))=true)
  {w:World} {v:Value} {l:List α} (h:Sl E k enc w v l) (hlen:l.length<=4294967296) (x:α) {a:Addr} {c:Nat} (hnews:∀j u,(enc x)[j]? =some u->w.cell? (a.add j)=some u) (ty:TypeId):
  ∃v' w',(Builtin.append_ #[t,t] ty #[v,.slice (some a) 1 c]).run P w=.ok v' w'/\Sl E k enc w' v' (l++[x])/\Tch v.ownBlock.toList w w'/\(v'.ownBlock=v.ownBlock\/v'.ownBlock=some w.heap.size):=by
 obtain⟨i,z,hi,hz,hsize,hby,hzs⟩:∃i z,P.info? E=some i/\i.zero=some z/\i.size=k/\i.bytes=bytes/\z.cells.size=k:=by
  cases hP:P.info? E with
  |none=>rw[hP]at hinfo;cases hinfo
  |
   some i=>
   rw[hP]at hinfo
   simp only[CV,Aq,YN,Cg]at hinfo
   obtain⟨⟨z,hz,h1⟩,h2,h3⟩:=hinfo
   exact⟨i,z,rfl,hz,h2,h3,h1⟩
 simp only[Ai,decide_eq_true_eq]at hkb
 obtain⟨hk,hb0⟩:=hkb
 have hl1:(enc x).length=1*k:=by rw[he];omega
 have hfit:(l.length+1)*bytes<=4294967297*1000:=CR (by omega) hb0
 obtain⟨v',w',hr,ho,hg,_⟩:=run_append_own (P:=P) w 0 t ty E i z k bytes ht hi hz hsize hby hzs hk v l.length (l.flatMap enc) h a 1 c (enc x) hl1 hnews (h1 x) (by simp only[maxLen];omega) (by omega) (Aj _)
 refine⟨v',w',hr,?_,⟨hg.os,hg.tape,hg.output,hg.size,λj hj hn=>hg.block j hj (λe=>hn (by rw[<-e];simp))⟩,?_⟩
 ·unfold Sl;simpa using ho
 ·subst hsize
  subst hby
  rcases h.2 with⟨rfl,hn⟩|⟨g,cap,cur,rfl,_,hcur,hnc,hcm,hcs,htake⟩
  ·have hx':=run_append_nil (P:=P) w t ty E i z ht hi hz a 1 c (enc x) hl1 hnews (by omega) (by omega) (by omega)
   rw[hx']at hr
   simp at hr
   exact .inr (by rw[<-hr.1];rfl)
  ·by_cases hroom:l.length+1<=cap
   ·have hfit2:l.length*i.size+(enc x).length<=cur.size:=by rw[hl1,hcs,<-C0];exact Ej _ hroom
    have hx':=run_append_room (P:=P) w t ty E i ht hi g l.length cap cur hcur a 1 c (enc x) hl1 hnews (h1 x) hroom hfit2
    rw[hx']at hr
    simp at hr
    exact .inl (by rw[<-hr.1];rfl)
   ·have holds:∀j u,(l.flatMap enc)[j]? =some u->w.cell? ((⟨g,0,none⟩:Addr).add j)=some u:=Rl h (g:=g) rfl
    have hx':=run_append_grow (P:=P) w t ty E i z ht hi hz ⟨g,0,none⟩ l.length cap (l.flatMap enc) h.1 holds a 1 c (enc x) hl1 hnews (by omega) (by omega) (growslice_fits (by omega) (by omega))
    rw[hx']at hr
    simp at hr
    exact .inr (by rw[<-hr.1];rfl)
end
end Go.Reg
namespace Go.Proofs.YtjejpdfldmempaaGreatDoor
open Go.Sx Go.RowKit Go.Reg Go.Gr
theorem JH:Tryz.prog.follows .mixedOrders=true:=by kernel_rfl
def BM(e:Edg):List Value:=[.int .i64 e.a,.int .i64 e.b]
theorem GD(e:Edg):(BM e).length=2:=rfl
theorem GC(e:Edg):∀u∈BM e,u.oneCell'=true:=by
 intro u hu;simp[BM]at hu;rcases hu with rfl|rfl<;>rfl
theorem R6:(Tryz.prog.info? 103).map (λi=>(i.zero,i.size,i.bytes))=some (some (.agg #[.int .i64 0,.int .i64 0]),2,16):=by kernel_rfl
theorem WP:(Tryz.prog.info? 103).map (λi=>(i.zero.map (·.cells.size),i.size,i.bytes))=some (some 2,2,16):=by kernel_rfl
theorem EF(l:List Edg):(l.flatMap BM).length=l.length*2:=by
 induction l with
 |nil=>rfl
 |cons x l ih=>simp[ih,BM];omega
theorem O2(l:List Edg)(i:Nat):(l.take i).flatMap BM=(l.flatMap BM).take (i*2):=by
 induction l generalizing i with
 |nil=>simp
 |
  cons x l ih=>
  cases i with
  |zero=>simp
  |
   succ i=>
   simp only[List.take_succ_cons,Bp,ih]
   rw[List.take_append,GD,show(i+1)*2-2=i*2 from by omega,Ak (l:=BM x) (by rw[GD];omega)]
theorem O3(l:List Edg)(i:Nat):(l.drop i).flatMap BM=(l.flatMap BM).drop (i*2):=by
 induction l generalizing i with
 |nil=>simp
 |
  cons x l ih=>
  cases i with
  |zero=>simp
  |
   succ i=>
   simp only[List.drop_succ_cons,Bp,ih]
   rw[eZ,GD,show(i+1)*2-2=i*2 from by omega,Gv (l:=BM x) (by rw[GD];omega),Ca]
def Je(l:List Edg)(w:World)(v:Value)(e:Ending)(w':World):Prop:=
 ∃v',e=.returned v'/\Sl 103 2 BM w' v' l/\Tch v.ownBlock.toList w w'/\∀b∈v'.ownBlock.toList,b∈v.ownBlock.toList\/w.heap.size<=b
set_option maxRecDepth 100000 in
set_option maxHeartbeats 1000000 in
theorem Ym(v:Value)(l:List Edg)(e:Edg)(w:World)(h:Sl 103 2 BM w v l)(hl:l.length<=4294967296)(vb vo vc:Nat)(hv:∀j u,(BM e)[j]? =some u->w.cell? ⟨vb,vo+j,none⟩=some u):
  Calls Tryz.prog 194 #[v,.int .i64 l.length,.slice (some ⟨vb,vo,none⟩) 1 vc] w (Je (l++[e]) w v):=by
 have mixed:=JH
 obtain⟨v',w',hr,ho,ht,hb⟩:=PH (P:=Tryz.prog) GD GC Tryz.underlying29 WP (by decide) h hl e (a:=⟨vb,vo,none⟩) (c:=vc) (λj u hu=>by rw[CH];exact hv j u hu) 29
 have HR:=E4 hr
 have HF:Je (l++[e]) w v (.returned v') w':=⟨_,rfl,ho,ht,λb hbm=>by
  rcases hb with hb|hb
  ·rw[hb]at hbm;exact .inl hbm
  ·rw[hb]at hbm;simp at hbm;subst hbm;exact .inr (Az _)⟩
 rcases h.shape with⟨rfl,rfl⟩|⟨g,cap,rfl,hc⟩
 ·clear h hv hr ho ht hb
  go_enter Tryz.func194,Tryz.ntmps194
  go_wp2_with (first|(at_builtin;refine wpList_plain rfl (λK hK=>?_);refine MF rfl rfl rfl HR.out ?_;go_simp))
  go_ret
  exact HF
 ·clear h hv hr ho ht hb
  generalize l.length=n at*
  have hnc:¬(cap<n):=by omega
  go_enter Tryz.func194,Tryz.ntmps194
  go_wp2_with (first|(at_builtin;refine wpList_plain rfl (λK hK=>?_);refine MF rfl rfl rfl HR.out ?_;go_simp))
  all_goals (go_ret;exact HF)
theorem Q5(w:World)(g:Nat)(cs:Array Value):Tch [g] w (w.setRow g cs):=⟨rfl,rfl,rfl,by simp[World.setRow],λk _ hn=>setRow_other w g k cs (by simpa using hn)⟩
theorem RC {α:Type}(L A M:List α)(a m:Nat)(hA:A.length=a)(hL:L.take a=A)(_hLl:a+M.length<=L.length)(hm:m=a+M.length):(L.take a++M++L.drop (a+M.length)).take m=A++M:=by
 subst hm
 rw[hL,Bg (by simp;omega),Ak (by simp;omega)]
theorem Md {α:Type}(L M:List α)(a:Nat)(h:a+M.length<=L.length):(L.take a++M++L.drop (a+M.length)).length=L.length:=by simp;omega
set_option maxRecDepth 100000 in
set_option maxHeartbeats 2000000 in
theorem VE(g n i:Nat)(cur:Array Value)(l:List Edg)(e:Edg)(w:World)(hg:w.heap[g]? =some (.cells cur 103 (0,0)))(htake:cur.toList.take (n*2)=l.flatMap BM)(hln:l.length=n)(hi:i<n)(hl:n<=4294967296)
  (vb vo vc:Nat) (hv:∀j u,(BM e)[j]? =some u->w.cell? ⟨vb,vo+j,none⟩=some u):
  Calls Tryz.prog 194 #[.slice (some ⟨g,0,none⟩) n n,.int .i64 i,.slice (some ⟨vb,vo,none⟩) 1 vc] w (Je (l.take i++e::l.drop i) w (.slice (some ⟨g,0,none⟩) n n)):=by
 have mixed:=JH
 obtain⟨i0,hin,hz0,hz1,hz2⟩:=info_parts R6
 have hfl:(l.flatMap BM).length=n*2:=by rw[EF,hln]
 have hgl:=(A8.1 hg).1
 have hcells:∀j u,(l.flatMap BM)[j]? =some u->w.cell? ⟨g,j,none⟩=some u:=λj u hu=>by
  rw[<-htake,Cv]at hu
  split at hu
  ·simp only[World.cell?,hg];simpa using hu
  ·cases hu
 have hlt:((l.take i).flatMap BM).length=i*2:=by rw[EF,As,hln];omega
 have hld:((l.drop i).flatMap BM).length=(n-i)*2:=by rw[EF,eW,hln]
 have hold:(Builtin.firstCells i0.size i (.slice (some ⟨g,0,none⟩) i n)).run Tryz.prog w.drew=.ok ((l.take i).flatMap BM).toArray w.drew:=by
  rw[hz1]
  refine run_firstCells_some w.drew 2 i ⟨g,0,none⟩ i n _ hlt (λj u hj=>?_)
  rw[O2,Cv]at hj
  rw[CH,EL]
  split at hj
  ·exact hcells j u hj
  ·cases hj
 have hin1:i+(n+1-i)=n+1:=by omega
 have hrz:=Lib.run_append_grow_zeros (P:=Tryz.prog) w 29 3 29 103 i0 _ .i64 .i64 Tryz.underlying29 Tryz.underlying3 hin hz0 (some ⟨g,0,none⟩) i n _ hold (n+1-i) (by omega) (by omega) (by omega) (by omega) (by rw[hz2];omega) (by rw[hin1,hz2];exact growslice_fits (by omega) (by omega))
 rw[hin1]at hrz
 have hGn:n+1<=grownCap w (n+1) n 103:=grownCap_ge w _ _ _
 have hGm:grownCap w (n+1) n 103<=maxLen:=grownCap_le_maxLen w (n+1) n _ (by unfold maxLen;omega)
 generalize grownCap w (n+1) n 103=G at*
 obtain⟨ROW,hROW⟩:∃R,R=((l.take i).flatMap BM).toArray++Builtin.zeroCells (Value.agg #[.int .i64 0,.int .i64 0]).cells (n+1-i)++Builtin.zeroCells (Value.agg #[.int .i64 0,.int .i64 0]).cells (G- (n+1)):=⟨_,rfl⟩
 rw[<-hROW]at hrz
 have hR0:ROW.size=G*2:=by
  rw[hROW]
  simp only[Array.size_append,Cs,hlt,Builtin.zeroCells,Array.size_map,Array.size_range,Value.cells]
  simp only[A4,Cb]
  omega
 have hR1:ROW.toList.take (i*2)=(l.take i).flatMap BM:=by
  rw[hROW]
  simp only[Array.toList_append]
  rw[Bk,Bg (by rw[hlt];omega),Ak (by rw[hlt];omega)]
 have hN:g≠w.heap.size:=by omega
 obtain⟨W1,hW1⟩:∃W,W=w.drew.alloc (.cells ROW 103):=⟨_,rfl⟩
 rw[<-hW1]at hrz
 have hg1:W1.heap[w.heap.size]? =some (.cells ROW 103 (0,0)):=by rw[hW1];show(w.drew.heap.push _)[w.drew.heap.size]? =_;exact Array.getElem?_push_size
 have hT1:Tch [] w W1:=by rw[hW1];exact(Tch.drew w []).trans0 (Tch.alloc _ _ _)
 obtain⟨R2,hR2⟩:∃R,R=(ROW.toList.take (i*2)++BM e++ROW.toList.drop (i*2+(BM e).length)).toArray:=⟨_,rfl⟩
 have hs2:R2.size=G*2:=by rw[hR2,Cs,Md _ _ _ (by simp[hR0,BM];omega)];simpa using hR0
 have ht2:R2.toList.take ((i+1)*2)=(l.take i).flatMap BM++BM e:=by
  rw[hR2];exact RC _ _ _ _ _ hlt hR1 (by simp[hR0,BM];omega) (by simp[BM];omega)
 have hA:∀ty o dl dc,o=i*2->Nat.min 1 dl=1->(Builtin.copy_ #[29,29] ty #[.slice (some ⟨w.heap.size,o,none⟩) dl dc,.slice (some ⟨vb,vo,none⟩) 1 vc]).run Tryz.prog W1=.ok (goInt 1) (W1.setRow w.heap.size R2):=λty o dl dc ho hm=>by
  have:=Ge (P:=Tryz.prog) W1 29 29 ty 103 2 w.heap.size (i*2) dl dc ⟨vb,vo,none⟩ 1 vc ROW _ (BM e) Tryz.underlying29 (by rw[hin];simp[hz1]) hg1 (by rw[hm];rfl) (λj u hj=>by rw[CH];exact hT1.cell (hv j u hj) (by simp)) (by rw[hR0];simp[BM];omega) (GC e)
  rw[hm,<-hR2]at this
  rw[ho];exact this
 have hg2:=setRow_heap W1 w.heap.size ROW R2 _ (0,0) hg1
 have hT2:Tch [] w (W1.setRow w.heap.size R2):=hT1.trans (Q5 W1 w.heap.size R2) (by simp) (λx hx=>.inr (by simp at hx;omega))
 generalize W1.setRow w.heap.size R2=W2 at hA hg2 hT2
 obtain⟨R3,hR3⟩:∃R,R=(R2.toList.take ((i+1)*2)++(l.drop i).flatMap BM++R2.toList.drop ((i+1)*2+((l.drop i).flatMap BM).length)).toArray:=⟨_,rfl⟩
 have hs3:R3.size=G*2:=by rw[hR3,Cs,Md _ _ _ (by simp only[FQ,hs2,hld];omega)];simpa using hs2
 have ht3:R3.toList.take ((n+1)*2)=(l.take i++e::l.drop i).flatMap BM:=by
  rw[Dm,Bp,<-Bk,hR3]
  exact RC _ _ _ _ _ (by rw[Ah,hlt];simp[BM];omega) ht2 (by simp only[FQ,hs2,hld];omega) (by rw[hld];omega)
 have hB:∀W,Tch [] W2 W->∀ty o dl dc so sl sc,o=(i+1)*2->so=i*2->Nat.min sl dl=n-i->(Builtin.copy_ #[29,29] ty #[.slice (some ⟨w.heap.size,o,none⟩) dl dc,.slice (some ⟨g,so,none⟩) sl sc]).run Tryz.prog W=.ok (goInt (n-i:Nat)) (W.setRow w.heap.size R3):=λW hW ty o dl dc so sl sc ho hso hm=>by
  have hgW:W.heap[w.heap.size]? =some (.cells R2 103 (0,0)):=by rw[hW.blk _ (A8.1 hg2).1 (by simp)];exact hg2
  have:=Ge (P:=Tryz.prog) W 29 29 ty 103 2 w.heap.size ((i+1)*2) dl dc ⟨g,i*2,none⟩ sl sc R2 _ ((l.drop i).flatMap BM) Tryz.underlying29 (by rw[hin];simp[hz1]) hgW (by rw[hm,hld])
   (λj u hj=>by rw[CH];rw[O3,Kd]at hj;exact(hT2.trans0 hW).cell (hcells _ u hj) (by simp)) (by rw[hs2,hld];omega) (λu hu=>by obtain⟨x,_,hx⟩:=AG.1 hu;exact GC x u hx)
  rw[hm,<-hR3]at this
  rw[ho,hso];exact this
 have hF:∀W,Tch [] W2 W->Je (l.take i++e::l.drop i) w (.slice (some ⟨g,0,none⟩) n n) (.returned (.slice (some ⟨w.heap.size,0,none⟩) (n+1) G)) (W.setRow w.heap.size R3):=λW hW=>by
  have hgW:W.heap[w.heap.size]? =some (.cells R2 103 (0,0)):=by rw[hW.blk _ (A8.1 hg2).1 (by simp)];exact hg2
  have hll:(l.take i++e::l.drop i).length=n+1:=by simp[hln];omega
  refine⟨_,rfl,?_,((hT2.trans0 hW).trans (Q5 W w.heap.size R3) (by simp) (λx hx=>.inr (by simp at hx;omega))),λb hb=>.inr (by simp[Value.ownBlock]at hb;omega)⟩
  unfold Sl
  rw[hll]
  exact⟨by rw[EF,hll],.inr ⟨_,G,R3,rfl,Aj _,setRow_heap W _ R2 R3 _ (0,0) hgW,hGn,hGm,hs3,ht3⟩⟩
 have hwi:∀z:Int,z=((n+1-i:Nat):Int)->(Builtin.append_ #[29,3] 29 #[.slice (some ⟨g,0,none⟩) i n,.int .i64 z]).run Tryz.prog w=.ok (.slice (some ⟨w.heap.size,0,none⟩) (n+1) G) W1:=λz hz=>by rw[hz];exact hrz
 have HZ:=E4 hwi
 have HA:=E4 hA
 have HB:=E4 hB
 have HF:=E4 hF
 have h1:¬((i:Int)=(n:Int)):=by omega
 have h2:(n:Int)<(n:Int)+1:=by omega
 have h3:i<=n:=by omega
 have h5:¬(n=i):=by omega
 have h6:¬(G=i):=by omega
 have h7:¬(G=i+1):=by omega
 have h8:i<=n+1:=by omega
 have h9:(i:Int)<=(n:Int):=by omega
 have h10:(i:Int)<=(n:Int)+1:=by omega
 clear hg htake hln hv hin hz0 hz1 hz2 hfl hcells hlt hld hold hrz hROW hR0 hR1 hW1 hg1 hT1 hR2 hs2 ht2 hg2 hT2 hR3 hs3 ht3 hA hB hF hwi
 go_enter Tryz.func194,Tryz.ntmps194
 go_wp2_with (first|(at_builtin;refine wpList_plain rfl (λK hK=>?_);refine MF rfl rfl rfl (HZ.out _ (by omega)) ?_;go_simp)|(refine wpList_copy_runI _ rfl _ _ 29 29 rfl _ _ rfl rfl (HA.out _ _ _ _ (by omega) (by simp only[Nat.min_def];split<;>omega)) ?_;go_simp))
 refine NZ [] [0,0,0,0,0,0,0,0,3] [0,1,2,3,4,5,6,7,8] [0,0,0,6,15,0,0,96,255] JH (by kernel_rfl) ?_
 intro w1 hT
 have HT:=E4 hT
 clear hT
 go_wp2_with (first|(refine CY rfl rfl rfl rfl (λ_ _=>?_)))
 refine L6 rfl rfl rfl (λK hK=>?_)
 refine wp_copy_runI _ _ _ 29 29 rfl _ _ rfl rfl (HB.out w1 HT.out _ _ _ _ _ _ _ (by omega) (by omega) (by simp only[Nat.min_def];split<;>omega)) ?_
 have HFF:=E4 (HF.out w1 HT.out)
 go_simp
 go_wp2_with (first|(refine CY rfl rfl rfl rfl (λ_ _=>?_))|refine L7 ?_)
 go_ret
 exact HFF.out
set_option maxRecDepth 100000 in
set_option maxHeartbeats 2000000 in
theorem TA(g n i cap:Nat)(cur:Array Value)(l:List Edg)(e:Edg)(w:World)(hg:w.heap[g]? =some (.cells cur 103 (0,0)))(hcs:cur.size=cap*2)(htake:cur.toList.take (n*2)=l.flatMap BM)(hln:l.length=n)(hi:i<n)(hl:n<=4294967296)(hroom:n+1<=cap)(hcm:cap<=maxLen)
  (vb vo vc:Nat) (hvb:vb≠g) (hv:∀j u,(BM e)[j]? =some u->w.cell? ⟨vb,vo+j,none⟩=some u):
  Calls Tryz.prog 194 #[.slice (some ⟨g,0,none⟩) n cap,.int .i64 i,.slice (some ⟨vb,vo,none⟩) 1 vc] w (Je (l.take i++e::l.drop i) w (.slice (some ⟨g,0,none⟩) n cap)):=by
 have mixed:=JH
 obtain⟨i0,hin,hz0,hz1,hz2⟩:=info_parts R6
 have hfl:(l.flatMap BM).length=n*2:=by rw[EF,hln]
 have hgl:=(A8.1 hg).1
 have hcells:∀j u,(l.flatMap BM)[j]? =some u->w.cell? ⟨g,j,none⟩=some u:=λj u hu=>by
  rw[<-htake,Cv]at hu
  split at hu
  ·simp only[World.cell?,hg];simpa using hu
  ·cases hu
 have hlt:((l.take i).flatMap BM).length=i*2:=by rw[EF,As,hln];omega
 have hld:((l.drop i).flatMap BM).length=(n-i)*2:=by rw[EF,eW,hln]
 have hT1:∀W,Tch [] w W->W.heap[g]? =some (.cells cur 103 (0,0)):=λW hW=>by rw[hW.blk _ hgl (by simp)];exact hg
 obtain⟨R2,hR2⟩:∃R,R=(cur.toList.take ((i+1)*2)++(l.drop i).flatMap BM++cur.toList.drop ((i+1)*2+((l.drop i).flatMap BM).length)).toArray:=⟨_,rfl⟩
 have hs2:R2.size=cap*2:=by rw[hR2,Cs,Md _ _ _ (by simp only[FQ,hcs,hld];omega)];simpa using hcs
 have ht2:R2.toList.take (i*2)=(l.take i).flatMap BM:=by
  rw[hR2,O2,<-htake]
  simp only[Bk]
  rw[Bg (by simp[hcs];omega),Gd,Gd]
  congr 1;omega
 have hd2:R2.toList.drop (i*2+(BM e).length)=(l.drop i).flatMap BM++cur.toList.drop ((i+1)*2+((l.drop i).flatMap BM).length):=by
  rw[hR2]
  simp only[Bk]
  rw[List.drop_append_of_le_length (by simp[hcs,BM];omega),Gv (by simp[hcs,BM];omega),Ca]
 obtain⟨R3,hR3⟩:∃R,R=(R2.toList.take (i*2)++BM e++R2.toList.drop (i*2+(BM e).length)).toArray:=⟨_,rfl⟩
 have hs3:R3.size=cap*2:=by rw[hR3,Cs,Md _ _ _ (by simp only[FQ,hs2];simp[BM];omega)];simpa using hs2
 have ht3:R3.toList.take ((n+1)*2)=(l.take i++e::l.drop i).flatMap BM:=by
  rw[Dm,Bp,hR3,hd2,ht2]
  simp only[<-Bk]
  rw[Bg (by simp only[Ah,hlt,hld];simp[BM];omega),Ak (by simp only[Ah,hlt,hld];simp[BM];omega)]
 have hB:∀W,Tch [] w W->∀ty o dl dc so sl sc,o=(i+1)*2->so=i*2->Nat.min sl dl=n-i->(Builtin.copy_ #[29,29] ty #[.slice (some ⟨g,o,none⟩) dl dc,.slice (some ⟨g,so,none⟩) sl sc]).run Tryz.prog W=.ok (goInt (n-i:Nat)) (W.setRow g R2):=λW hW ty o dl dc so sl sc ho hso hm=>by
  have:=Ge (P:=Tryz.prog) W 29 29 ty 103 2 g ((i+1)*2) dl dc ⟨g,i*2,none⟩ sl sc cur _ ((l.drop i).flatMap BM) Tryz.underlying29 (by rw[hin];simp[hz1]) (hT1 W hW) (by rw[hm,hld])
   (λj u hj=>by rw[CH];rw[O3,Kd]at hj;exact hW.cell (hcells _ u hj) (by simp)) (by rw[hcs,hld];omega) (λu hu=>by obtain⟨x,_,hx⟩:=AG.1 hu;exact GC x u hx)
  rw[hm,<-hR2]at this
  rw[ho,hso];exact this
 have hA:∀W,Tch [] w W->∀ty o dl dc,o=i*2->Nat.min 1 dl=1->(Builtin.copy_ #[29,29] ty #[.slice (some ⟨g,o,none⟩) dl dc,.slice (some ⟨vb,vo,none⟩) 1 vc]).run Tryz.prog (W.setRow g R2)=.ok (goInt 1) ((W.setRow g R2).setRow g R3):=λW hW ty o dl dc ho hm=>by
  have:=Ge (P:=Tryz.prog) (W.setRow g R2) 29 29 ty 103 2 g (i*2) dl dc ⟨vb,vo,none⟩ 1 vc R2 _ (BM e) Tryz.underlying29 (by rw[hin];simp[hz1]) (setRow_heap W g cur R2 _ (0,0) (hT1 W hW)) (by rw[hm];rfl) (λj u hj=>by rw[CH];exact(hW.ahead0 (Q5 W g R2)).cell (hv j u hj) (by simpa using hvb)) (by rw[hs2];simp[BM];omega) (GC e)
  rw[hm,<-hR3]at this
  rw[ho];exact this
 have hF:∀W,Tch [] w W->Je (l.take i++e::l.drop i) w (.slice (some ⟨g,0,none⟩) n cap) (.returned (.slice (some ⟨g,0,none⟩) (n+1) cap)) ((W.setRow g R2).setRow g R3):=λW hW=>by
  have hll:(l.take i++e::l.drop i).length=n+1:=by simp[hln];omega
  refine⟨_,rfl,?_,(hW.ahead0 (Q5 W g R2)).trans0 (Q5 _ g R3),λb hb=>.inl hb⟩
  unfold Sl
  rw[hll]
  exact⟨by rw[EF,hll],.inr ⟨_,cap,R3,rfl,Aj _,setRow_heap _ _ R2 R3 _ (0,0) (setRow_heap W g cur R2 _ (0,0) (hT1 W hW)),hroom,hcm,hs3,ht3⟩⟩
 have hov:∀lb cb,(callFunc 236 #[.slice (some ⟨vb,vo,none⟩) 1 vc,.slice (some ⟨g,(i+1)*2,none⟩) lb cb]).run Tryz.prog w=.ok (.value (.bool false)) w:=λlb cb=>by
  have hc0:=hv 0 _ rfl
  unfold World.cell? at hc0
  have hsome:∃cA tA frA,w.heap[vb]? =some (.cells cA tA frA)/\cA.size≠0:=by
   cases hh:w.heap[vb]? with
   |none=>simp[hh]at hc0
   |
    some o=>
    cases o with
    |
     cells c t fr=>
     refine⟨c,t,fr,rfl,λh0=>?_⟩
     simp only[hh]at hc0
     simp at hc0
     have:=(A8.1 hc0).1
     omega
    |_=>simp[hh]at hc0
  obtain⟨cA,tA,frA,ha,hA0⟩:=hsome
  rw[run_callFunc_extern Tryz.func236 (by kernel_rfl) (by kernel_rfl) (by kernel_rfl) (e:=Extern.SlicesOverlaps.overlaps #[29,29] #[4]) (by kernel_rfl),
   MS w 29 4 103 Tryz.underlying29 2 (λw=>by kernel_rfl) ⟨vb,vo,none⟩ ⟨g,(i+1)*2,none⟩ 1 vc lb cb hvb ha hg hA0 (by omega)]
  rfl
 have HA:=E4 hA
 have HB:=E4 hB
 have HF:=E4 hF
 have h1:¬((i:Int)=(n:Int)):=by omega
 have h2:¬((cap:Int)<(n:Int)+1):=by omega
 have h3:i<=n:=by omega
 have h5:¬(cap=i):=by omega
 have h7:¬(cap=i+1):=by omega
 have h8:i<=n+1:=by omega
 have h9:(i:Int)<=(n:Int):=by omega
 have h10:(i:Int)<=(n:Int)+1:=by omega
 have hcm':cap<=9223372036854775807:=by unfold maxLen at hcm;omega
 clear hg hcs htake hln hv hin hz0 hz1 hz2 hfl hcells hlt hld hT1 hR2 hs2 ht2 hd2 hR3 hs3 ht3 hA hB hF hcm
 go_enter Tryz.func194,Tryz.ntmps194
 go_wp2_with (simp only[hov])
 refine NZ [] [0,0,0,0,0,0,0,0,3] [0,1,2,3,4,5,6,7,8] [0,0,0,6,15,0,0,96,255] JH (by kernel_rfl) ?_
 intro w1 hT
 have HT:=E4 hT
 clear hT
 go_wp2_with (first|(refine CY rfl rfl rfl rfl (λ_ _=>?_)))
 refine L6 rfl rfl rfl (λK hK=>?_)
 refine wp_copy_runI _ _ _ 29 29 rfl _ _ rfl rfl (HB.out w1 HT.out _ _ _ _ _ _ _ (by omega) (by omega) (by simp only[Nat.min_def];split<;>omega)) ?_
 have HFF:=E4 (HF.out w1 HT.out)
 have HAA:=E4 (HA.out w1 HT.out)
 go_simp
 go_wp2_with (first|(refine CY rfl rfl rfl rfl (λ_ _=>?_))|refine L7 ?_|(refine wpList_copy_runI _ rfl _ _ 29 29 rfl _ _ rfl rfl (HAA.out _ _ _ _ (by omega) (by simp only[Nat.min_def];split<;>omega)) ?_))
 go_ret
 exact HFF.out
theorem dA(v:Value)(l:List Edg)(e:Edg)(i:Nat)(hi:i<=l.length)(w:World)(h:Sl 103 2 BM w v l)(hl:l.length<=4294967296)(vb vo vc:Nat)(hvb:vb∉v.ownBlock.toList)(hv:∀j u,(BM e)[j]? =some u->w.cell? ⟨vb,vo+j,none⟩=some u):
  Calls Tryz.prog 194 #[v,.int .i64 i,.slice (some ⟨vb,vo,none⟩) 1 vc] w (Je (l.take i++e::l.drop i) w v):=by
 by_cases hin:i=l.length
 ·subst hin
  rw[De,eY]
  exact Ym v l e w h hl vb vo vc hv
 ·rcases h.2 with⟨rfl,hl0⟩|⟨g,cap,cur,rfl,_,hg,hnc,hcm,hcs,htake⟩
  ·omega
  ·by_cases hroom:l.length+1<=cap
   ·exact TA g l.length i cap cur l e w hg hcs htake rfl (by omega) hl hroom hcm vb vo vc (by simpa[Value.ownBlock]using hvb) hv
   ·have hc:cap=l.length:=by omega
    subst hc
    exact VE g l.length i cur l e w hg htake rfl (by omega) hl vb vo vc hv
end Go.Proofs.YtjejpdfldmempaaGreatDoor
end
section
namespace Go.Gr
def Lc(f:Nat->Nat->Bool)(a b:Nat):List Edg:=((List.range b).filter λx=>decide (a<x)&&f a x).map λx:Nat=>⟨(a:Int),(x:Int)⟩
def HU(f:Nat->Nat->Bool)(n a:Nat):List Edg:=(List.range a).flatMap λj=>Lc f j n
theorem Xx(f:Nat->Nat->Bool)(a:Nat):Lc f a (a+1)=[]:=by
 unfold Lc
 have:(List.range (a+1)).filter (λx=>decide (a<x)&&f a x)=[]:=by
  rw[lZ]
  intro b hb
  have:=AJ.1 hb
  simp;omega
 rw[this];rfl
theorem bE {f:Nat->Nat->Bool} {a b:Nat}(h:a<b):Lc f a (b+1)=Lc f a b++if f a b then[⟨(a:Int),(b:Int)⟩]else[]:=by
 unfold Lc
 rw[BN,BJ,Ay]
 congr 1
 by_cases hf:f a b<;>simp[h,hf]
theorem PJ(f:Nat->Nat->Bool)(n a:Nat):HU f n (a+1)=HU f n a++Lc f a n:=by simp[HU,BN]
theorem UH(f:Nat->Nat->Bool)(a b:Nat):(Lc f a b).length<=b:=by
 unfold Lc
 rw[Ab]
 exact BE (Co _ _) (by simp)
theorem RM(f:Nat->Nat->Bool)(n:Nat):∀a,(HU f n a).length<=a*n
 |0=>by simp[HU]
 |
  a+1=>by
  have h1:=RM f n a
  have h2:=UH f a n
  rw[PJ,Ah,C0,Nat.one_mul];omega
theorem Nk {f:Nat->Nat->Bool} {n a:Nat} {e:Edg}:e∈HU f n a↔∃j x:Nat,j<a/\x<n/\j<x/\f j x=true/\e=⟨(j:Int),(x:Int)⟩:=by
 simp only[HU,Lc,AG,AJ,Ar,A5,Ai,decide_eq_true_eq]
 constructor
 ·rintro⟨j,hj,x,⟨h1,h2,h3⟩,rfl⟩;exact⟨j,x,hj,h1,h2,h3,rfl⟩
 ·rintro⟨j,x,hj,h1,h2,h3,rfl⟩;exact⟨j,hj,x,⟨h1,h2,h3⟩,rfl⟩
def Gx(E:List Edg)(L:List Int)(a b:Nat):Bool:=OH E ((L[a]?).getD 0) ((L[b]?).getD 0)
def Hw(E:List Edg)(L:List Int):List Edg:=HU (Gx E L) L.length L.length
end Go.Gr
namespace Go.Proofs.YtjejpdfldmempaaGreatDoor
open Go.Sx Go.RowKit Go.Reg Go.Gr
set_option maxRecDepth 100000
def XB:List (Nat×Plan):=[(8,.leaf [1,0,0,0,1,0,0,0,1,2] [1,2,3,5,6,7,0,4,8,9] [0,0,0,6,14,0,0,96,224,511])]
def mF:List FuncId:=[183]
set_option maxHeartbeats 4000000 in
theorem PO(l:List Int)(p:Pt)(L:List Int)(hL:L.length<=1000)(hme:p.edges.length<=9223372036854775807):Pure C1 134 [AS l,GE p,AS L] (λy=>y=GE ⟨l,Hw p.edges L⟩):=by
 have hdL:(L.map dI).length=L.length:=Ab _
 have hL2:L.length*L.length<=1000*1000:=CR hL hL
 refine AK Tryz.func134 Tryz.ntmps134 mF XB ?_
 ((conv=>whnf);repeat' ((first|refine odw ?_|refine nx ?_|refine Aw (λ_=>?_) (λ_=>?_))<;>conv=>whnf))
 refine AC (ι:=Nat) (λa=>a<=L.length) (λa=>[(8,.d (.int .i64 a)),(7,.own 7),(6,.own 6),(4,.own 4),(2,.d (AS L))]) (λa=>[(4,.cells 35 [.d (AS p.labels),.d (D0 p.edges)]),(6,.cells 35 [.d .nils,.d .nils]),(7,.cells 35 [.d (AS l),.own 301]),(301,.slice 137 2 ((HU (Gx p.edges L) L.length a).map dE))]) (λa=>L.length-a) 0 (λ_=>rfl) (Aj _) (.ownc 7 301 137 2 rfl rfl (.there _ (.here _)) (.refl _ _)) ⟨rfl,rfl,rfl,rfl,rfl,trivial⟩ ⟨rfl,rfl,rfl,rfl,trivial⟩ ?_
 intro a ha
 refine Bj mF XB ?_
 by_cases hal:a<L.length
 ·((conv=>whnf);repeat' ((first|refine odw ?_|refine nx ?_|refine Aw (λ_=>?_) (λ_=>?_))<;>conv=>whnf))
  have hx:=Aa hal
  have hxd:(L.map dI)[a]? =some (.int .i64 L[a]):=by rw[Ac,hx];rfl
  have hrl:=RM (Gx p.edges L) L.length a
  have hrl2:a*L.length<=L.length*L.length:=Ej _ ha
  refine AC (ι:=Nat) (λb=>a+1<=b/\b<=L.length) (λb=>[(9,.d (.int .i64 b)),(8,.d (.int .i64 a)),(7,.own 7),(6,.own 6),(4,.own 4),(2,.d (AS L))]) (λb=>[(4,.cells 35 [.d (AS p.labels),.d (D0 p.edges)]),(6,.cells 35 [.d .nils,.d .nils]),(7,.cells 35 [.d (AS l),.own 301]),(301,.slice 137 2 ((HU (Gx p.edges L) L.length a++Lc (Gx p.edges L) a b).map dE))]) (λb=>L.length-b) (a+1) (λ_=>rfl) ⟨Az _,hal⟩ (.refl _ _) ⟨IS (by omega),rfl,rfl,rfl,rfl,rfl,trivial⟩ ⟨rfl,rfl,rfl,by rw[Xx,Cc];rfl,trivial⟩ ?_
  rintro b ⟨hab,hb⟩
  refine Bj mF XB ?_
  by_cases hbl:b<L.length
  ·have hy:=Aa hbl
   have hyd:(L.map dI)[b]? =some (.int .i64 L[b]):=by rw[Ac,hy];rfl
   have hh:=RP p L[a] L[b] hme
   have hf:Gx p.edges L a b=OH p.edges L[a] L[b]:=by unfold Gx;rw[hx,hy];rfl
   have hst:=bE (f:=Gx p.edges L) (a:=a) (b:=b) (by omega)
   have hrl3:=UH (Gx p.edges L) a b
   have hll:((HU (Gx p.edges L) L.length a++Lc (Gx p.edges L) a b).map dE).length<=2000000:=by rw[Ab,Ah];omega
   cases hv:OH p.edges L[a] L[b]with
   |
    true=>
    rw[hv]at hh hf
    rw[hf,if_pos rfl]at hst
    (conv=>whnf)
    (repeat' ((first|refine Af ?_ ?_|refine A1 hxd rfl ?_|refine A1 hyd rfl ?_|refine AR tab rfl hh rfl ?_|refine nx ?_|refine Aw (λ_=>?_) (λ_=>?_)|exact A0)<;>conv=>whnf))
    refine⟨b+1,_,_,⟨by omega,by omega⟩,.refl _ _,⟨IS (by omega),rfl,rfl,rfl,rfl,rfl,trivial⟩,⟨rfl,rfl,rfl,?_,trivial⟩,by omega⟩
    refine AO ?_
    rw[hst];simp[dE]
   |
    false=>
    rw[hv]at hh hf
    rw[hf,if_neg (by decide),Cc]at hst
    (conv=>whnf)
    (repeat' ((first|refine Af ?_ ?_|refine A1 hxd rfl ?_|refine A1 hyd rfl ?_|refine AR tab rfl hh rfl ?_|refine nx ?_|refine Aw (λ_=>?_) (λ_=>?_)|exact A0)<;>conv=>whnf))
    exact⟨b+1,_,_,⟨by omega,by omega⟩,.refl _ _,⟨IS (by omega),rfl,rfl,rfl,rfl,rfl,trivial⟩,⟨rfl,rfl,rfl,AO (by rw[hst]),trivial⟩,by omega⟩
  ·have hbe:b=L.length:=by omega
   subst hbe
   ((conv=>whnf);repeat' ((first|refine odw ?_|refine nx ?_|refine Aw (λ_=>?_) (λ_=>?_))<;>conv=>whnf))
   refine⟨a+1,_,_,by omega,.refl _ _,⟨IS (by omega),rfl,rfl,rfl,rfl,trivial⟩,⟨rfl,rfl,rfl,AO (by rw[PJ]),trivial⟩,by omega⟩
 ·have hae:a=L.length:=by omega
  subst hae
  ((conv=>whnf);repeat' ((first|refine odw ?_|refine nx ?_|refine Aw (λ_=>?_) (λ_=>?_))<;>conv=>whnf))
  exact rfl
def Zl:List (Nat×Plan):=[(5,.leaf [0,0,1,0,0,0,1,0,1,6,3,0] [0,1,3,4,5,2,6,7,8,9,10,11] [0,0,2,0,0,24,56,126,254,510,1023,2047])]
def mG:List FuncId:=[134]
set_option maxHeartbeats 4000000 in
theorem WT(G:Gr)(L:List Int)(hL:L.length<=1000)(hGe:G.edges.length<=9223372036854775807)(hv:∀x∈L,0<=x/\x<G.labels.length):Pure C1 88 [dM G.labels G.edges,AS L] (λy=>y=GE ⟨L.map (C5 G),Hw G.edges L⟩):=by
 have hdL:(L.map dI).length=L.length:=Ab _
 have hdG:(G.labels.map dI).length=G.labels.length:=Ab _
 refine AK Tryz.func88 Tryz.ntmps88 mG Zl ?_
 ((conv=>whnf);repeat' ((first|refine odw ?_|refine nx ?_|refine Aw (λ_=>?_) (λ_=>?_))<;>conv=>whnf))
 refine AC (ι:=Nat) (λi=>i<=L.length) (λi=>[(6,.d (.int .i64 i)),(5,.own 300),(4,.own 4),(2,.own 2),(1,.d (AS L))]) (λi=>[(2,.cells 59 [.d (AS G.labels),.d (D0 G.edges)]),(4,.cells 35 [.d .nils,.d .nils]),(300,.slice 3 1 (((L.take i).map (C5 G)).map dI))]) (λi=>L.length-i) 0 (λ_=>rfl) (Aj _) (.own 5 300 3 1 rfl rfl (.refl _ _)) ⟨rfl,rfl,rfl,rfl,rfl,trivial⟩ ⟨rfl,rfl,rfl,trivial⟩ ?_
 intro i hi
 refine Bj mG Zl ?_
 by_cases hil:i<L.length
 ·have hx:=Aa hil
  have hxv:=hv _ (AL hil)
  generalize L[i]=x at hx hxv
  obtain⟨v,rfl⟩:=Ax hxv.1
  have hvl:v<G.labels.length:=by omega
  have hxd:(L.map dI)[i]? =some (.int .i64 v):=by rw[Ac,hx];rfl
  have hlv:(G.labels.map dI)[v]? =some (.int .i64 (C5 G v)):=by
   rw[Ac,Aa hvl]
   unfold C5
   rw[if_pos (by omega),AV,Aa hvl];rfl
  have hll:(((L.take i).map (C5 G)).map dI).length=i:=by simp only[Ab,As];omega
  (conv=>whnf)
  (repeat' ((first|refine Af ?_ ?_|refine A1 hxd rfl ?_|refine A1 hlv rfl ?_|refine nx ?_|refine Aw (λ_=>?_) (λ_=>?_)|exact A0)<;>conv=>whnf))
  refine⟨i+1,_,_,by omega,.refl _ _,⟨rfl,rfl,rfl,rfl,rfl,trivial⟩,⟨rfl,rfl,?_,trivial⟩,by omega⟩
  refine AO ?_
  rw[Av,hx];simp[dI]
 ·have e:L.take i=L:=Ak (by omega)
  rw[e]
  have hmd:=PO (L.map (C5 G)) ⟨G.labels,G.edges⟩ L hL hGe
  ((conv=>whnf);repeat' ((first|refine odw ?_|refine nx ?_|refine Aw (λ_=>?_) (λ_=>?_))<;>conv=>whnf))
  refine D3 300 rfl ?_
  refine Ad rfl hmd ?_
  ((conv=>whnf);repeat' ((first|refine odw ?_|refine nx ?_|refine Aw (λ_=>?_) (λ_=>?_))<;>conv=>whnf))
  exact rfl
end Go.Proofs.YtjejpdfldmempaaGreatDoor
end
section
namespace Go.Gr
section
variable {n:Nat} {ok:List Int->Int->Bool}
def uT(n:Nat)(ok:List Int->Int->Bool):Nat->List Int->List (List Int)
 |0,l=>[l]
 |k+1,l=>((List.range n).filter λv:Nat=>ok l v).flatMap λv:Nat=>uT n ok k (l++[(v:Int)])
end
end Go.Gr
end
section
namespace Go.Sx
open Go Go.RowKit Go.Reg
section
variable {C:Cx} {T:FF} {B S:List Nat} {w0 w:World} {n kd:Nat} {fr:Fr} {σ:Sg} {η:Nat->Value} {φ:Nat->List Nat} {a:Act}
theorem Models.pin(hM:Models C B S w0 n fr σ η φ a w) {g:Nat}(hg:BP g σ=none) {x:Da} {u:Value}(hr:Rep (B++Al φ σ) w x u):Models C B S w0 n fr ((g,.ghost [u] [.d x])::σ) (DB η g .nilFunc) (DB φ g []) a w:=by
 have hi':=Dy hg
 obtain⟨cs,h1,h2⟩:=hr
 obtain⟨hm,hl⟩:=hM.mem.add (Tch.refl [] w) hi' (v:=.nilFunc) (F:=[]) (o:=.ghost [u] [.d x]) (by simp) ⟨rfl,rfl,[cs],by simp only[A9,A7];exact⟨_,_,rfl,h1,rfl⟩,by rw[h2];rfl⟩
 exact⟨hm,hM.fr.add hi' hl,hM.defers,hM.size⟩
def mT(C:Cx)(f:FuncId):Prop:=∀(w:World) (a:Option Addr) (n c:Nat),n<=c->c<=maxLen->
 (callFunc f #[.slice a n c]).run C.P w=.ok (.enter f #[.slice a n c]) w/\Calls C.P f #[.slice a n c] w λe w'=>e=.returned (.slice a n n)/\w'=w
theorem eN(g:Nat) {q:Bool} {f:FuncId} {args:List Dat} {k:Nat} {xs:List Da} {K:KD}(hg:BP g σ=none)(ha:Ei args=some [.list k xs])(hf:mT C f)
  (hK:∀a,Cf (F0 g (.ghost [.slice a xs.length xs.length] [.d (.list k xs)]) σ) λσ=>K (.d (.raw (.slice a xs.length xs.length))) fr σ):BU C q f args K fr σ:=by
 unfold BU
 rintro B S w0 η φ n a w vs hM ⟨css,hr,rfl⟩
 obtain⟨h1,h2⟩:=Hi ha hr
 rw[h2]
 simp only[Am,RepC]at h1
 obtain⟨c1,c2,rfl,⟨p,c,es,rfl,h3,h4,h5,h6,h7⟩,rfl⟩:=h1
 obtain⟨g1,g2⟩:=hf w p xs.length c h3 h4
 refine⟨g1,g2.mono ?_⟩
 rintro e w' ⟨rfl,rfl⟩
 have hrep:Rep (B++Al φ σ) w' (.list k xs) (.slice p xs.length xs.length):=⟨[_],by simp only[RepC];exact⟨p,xs.length,es,rfl,Az _,BE h3 h4,h5,h6,h7⟩,rfl⟩
 have hM2:=(hM.pin hg hrep).perm (DC g _ σ)
 have hk:=hK p
 rw[Bz]at hk
 exact⟨_,_,fr,_,_,_,rfl,hk,hM2,⟨[_],by simp only[A7,RepC],rfl⟩,λ_=>(Tch.refl [] w').ext⟩
theorem W8 {P:Program} {t:TypeId} {e ee:TyI}(h:TyOk P t e)(hk:e.kd=2)(h2:TyOk P e.elem ee)(hk0:0<ee.size)(hb0:ee.bytes<=1000) {p:Option Addr} {css:List (List Value)}(hrow:∀x∈css,Ec ee.size x)(hcell:css=[]\/∃b o,p=some ⟨b,o,none⟩/\En w b o css.flatten)
  {O:List Nat} {es:List Da} {vy:Value} (hy:Src ee.size O w es vy) (hne:es≠[]) (hlen:css.length+es.length<=FY ee.bytes) (ty:TypeId):
  ∃v' w' css2,(Builtin.append_ #[t,t] ty #[.slice p css.length css.length,vy]).run P w=.ok v' w'/\Sl e.elem ee.size id w' v' (css++css2)/\Am O w es css2/\(∀x∈css2,Ec ee.size x)/\Tch [] w w'/\(∀b,v'.ownBlock=some b->w.heap.size<=b):=by
 cases p with
 |
  none=>
  have hc:css=[]:=hcell.resolve_right (by rintro⟨b,o,h,_⟩;cases h)
  subst hc
  obtain⟨v',w',css2,g1,g2,g3,g4,g5,g6⟩:=L0 (v:=.slice none 0 0) (css:=[]) h hk h2 hk0 hb0 (World.ownsRow_nil w 0 _ _) hy hlen ty
  refine⟨v',w',css2,g1,g2,g3,g4,g5,λb hb=>?_⟩
  rcases g6 with g6|g6
  ·rw[g6]at hb;cases hb
  ·rw[g6]at hb;cases hb;exact Az _
 |
  some ad=>
  obtain⟨d,h1,_,h3,_,_,_,_,h8⟩:=h.desc
  rw[hk]at h8
  cases d<;>simp at h8
  have he:=h3 _ rfl
  subst he
  obtain⟨i,z,hi,hsize,hby,hz,_,_⟩:=h2.info
  obtain⟨av,c,css2,rfl,hr2,hk2,hsrc⟩:=hy.ex
  have hl2:=CL hr2
  have hfl2:=Is (λx hx=>(hk2 x hx).1)
  have hfl:=Is (λx hx=>(hrow x hx).1)
  unfold FY at hlen
  have hbb:=Nat.mul_le_of_le_div _ _ _ hlen
  have hl0:css.length+es.length<=140737488355328:=BE hlen (Nat.div_le_self _ _)
  have h0:es.length≠0:=λe=>hne (AF e)
  obtain⟨b,o,rfl,hcl⟩:∃b o,av=some ⟨b,o,none⟩/\En w b o css2.flatten:=hsrc.resolve_left hne
  have hnews:=NN hcl
  have hln:css2.flatten.length=es.length*i.size:=by rw[hfl2,hl2,hsize]
  have hlo:css.flatten.length=css.length*i.size:=by rw[hfl,hsize]
  have holds:∀j u,css.flatten[j]? =some u->w.cell? (ad.add j)=some u:=by
   rcases hcell with rfl|⟨b',o',h',hc'⟩
   ·intro j u hj;simp at hj
   ·cases h';exact NN hc'
  have hzs:z.cells.size=i.size:=by
   obtain⟨i',z',g1,g2,_,g4,_,g6⟩:=h2.info
   rw[hi]at g1;cases g1
   rw[hz]at g4;cases g4
   have:=E9 _ _ (g6 [] w)
   have hsz:=h2.zsize
   simp at this
   omega
  have hx:=run_append_grow (P:=P) w t ty e.elem i z h1 hi hz ad css.length css.length css.flatten hlo holds ⟨b,o,none⟩ es.length c css2.flatten hln hnews (by omega) (by omega) (growslice_fits (by omega) (by rw[hby];omega))
  refine⟨_,_,css2,hx,?_,hr2,hk2,⟨rfl,rfl,rfl,by simp,λk hk _=>heap_alloc_old w.drew _ hk⟩,λb hb=>by cases hb;exact Az _⟩
  have hge:=grownCap_ge w (css.length+es.length) css.length e.elem
  have hcm:grownCap w (css.length+es.length) css.length e.elem<=maxLen:=grownCap_le_maxLen w _ _ e.elem (by simp only[maxLen];omega)
  have hlen2:(css.flatten++css2.flatten).length=(css.length+es.length)*i.size:=by rw[Ah,hlo,hln,C0]
  unfold Sl
  rw[flatMap_id,List.flatten_append,Ah,hl2,<-hsize]
  refine⟨hlen2,.inr ⟨w.heap.size,_,_,rfl,Aj _,heap_alloc_new w.drew _,hge,hcm,?_,?_⟩⟩
  ·simp only[Array.size_append,Cs,size_zeroCells,hzs,hlo,hln,<-C0]
   congr 1
   omega
  ·simp only[Array.toList_append,Bk]
   rw[<-Bk,<-hlen2]
   exact List.take_left
end
section
variable {C:Cx} {T:FF} {n kd:Nat} {fr:Fr} {σ:Sg}
def Ji(t:Nat):Fr->Fr
 |[]=>[]
 |
  (s,d)::fr=>match Nat.beq s t with
  |true=>Ji t fr
  |false=>(s,d)::Ji t fr
theorem JL(t:Nat):∀fr:Fr,get (Ji t fr) t=.d .undef
 |[]=>rfl
 |
  (u,d)::fr=>by
  rcases Br u t with⟨hb,e⟩|⟨hb,e⟩
  ·simp only[Ji,hb];exact JL t fr
  ·simp only[Ji,hb,get];exact JL t fr
theorem Ky(t s:Nat):∀fr:Fr,get (Ji t fr) s=.d .undef\/get (Ji t fr) s=get fr s
 |[]=>.inr rfl
 |
  (u,d)::fr=>by
  rcases Br u t with⟨hb,e⟩|⟨hb,e⟩
  ·simp only[Ji,hb]
   rcases Ky t s fr with h|h
   ·exact .inl h
   ·rcases Br u s with⟨h1,e1⟩|⟨h1,e1⟩
    ·left
     subst e1
     subst e
     exact JL u fr
    ·right;simp only[get,h1];exact h
  ·simp only[Ji,hb,get]
   rcases Br u s with⟨h1,e1⟩|⟨h1,e1⟩
   ·right;simp only[h1]
   ·simp only[h1];exact Ky t s fr
theorem XQ(g j tx:Nat) {o:Oper} {K:Fr->Sg->Prop} {t:TypeId} {y:Operand} {e ee:TyI} {p:Option Addr} {m k:Nat} {xs es:List Da}(hC:C.Ok T)(ho:o.op=.call {callee:=.builtin .append,args:=#[.tmp tx,y],argTypes:=#[t,t]})
  (he:Fz t T=some e) (hk2:e.kd=2) (hee:Fz e.elem T=some ee) (hk0:0<ee.size) (hb0:ee.bytes<=1000) (hkk:k=ee.size) (hx:get fr tx=.d (.raw (.slice p m m))) (hg:BP g σ=some (.ghost [.slice p m m] [.d (.list k xs)])) (hy:Wf (ev C.Γ fr y) k σ=some es) (hne:es≠[]) (hj:BP j σ=none)
  (hkd:kd=3) (hd:Dv o.dst n=true) (hlen:xs.length+es.length<=FY ee.bytes) (hz:fB (C4 o.dst (.own j) (Ji tx fr)) (F0 j (.slice e.elem ee.size (xs++es)) (Di id g σ))=true) (hs:KC (F0 j (.slice e.elem ee.size (xs++es)) (Di id g σ)) (F0 j (.slice e.elem ee.size (xs++es)) σ)) (hK:Cf (F0 j (.slice e.elem ee.size (xs++es)) (Di id g σ)) λσ=>K (C4 o.dst (.own j) (Ji tx fr)) σ):Bd C n kd o K fr σ:=by
 subst hkd
 subst hkk
 refine GQ (by decide) (by decide) λB S w0 η φ a' w hM=>?_
 refine .inr ⟨(λh=>by cases h),.inl ?_⟩
 have ex:a'.eval (.tmp tx)=.slice p m m:=by
  obtain⟨cs,r,e⟩:=Ff (Be hM (.tmp tx)) hx
  simp only[RepC]at r
  subst r
  exact e
 obtain⟨_,_,css,h1,h2⟩:=hM.mem.own _ (Bm hg)
 simp only[A9,A7,RepC]at h1
 obtain⟨c1,c2,rfl,⟨q,c,rows,rfl,h3,h4,h5,h6,h7⟩,rfl⟩:=h1
 have h2:Value.slice p m m=.slice q xs.length c:=by simpa[BR,Ft]using h2
 simp only[Value.slice.injEq]at h2
 obtain⟨rfl,rfl,rfl⟩:=h2
 have hrl:=CL h5
 have hcell:rows=[]\/∃b o,p=some ⟨b,o,none⟩/\En w b o rows.flatten:=by
  rcases h7 with h7|⟨b,o,h8,_,_,h9⟩
  ·left
   rw[h7]at hrl
   exact AF hrl
  ·exact .inr ⟨b,o,h8,h9⟩
 have hsrc:=QN hM.mem hy (Be hM y)
 obtain⟨v',w',css2,g1,g2,g3,g4,g5,g6⟩:=W8 (hC.ty he) hk2 (hC.ty hee) hk0 hb0 h6 hcell hsrc hne (by rw[hrl];exact hlen) o.type
 rw[hrl]at g1
 have:=hM.add (o:=.slice e.elem ee.size (xs++es)) (v:=v') (F:=v'.ownBlock.toList) g5 (Dy hj) (λb hb=>g6 b (by simpa using hb)) (λO' hl=>⟨rows++css2,g2,rfl,HE (Am.later hl _ _ h5) (Am.later hl _ _ g3),λx hx=>by
  rcases Ag.1 hx with hx|hx
  ·exact h6 x hx
  ·exact g4 x hx⟩) hd
 rw[Bz]at hK
 have M3:=(this.perm (DC _ _ _)).sub' (fr':=C4 o.dst (.own j) (Ji tx fr)) (λs=>by
  cases hdst:o.dst with
  |none=>exact Ky tx s fr
  |
   some d=>
   simp only[C4,get]
   rcases Br d s with⟨h1,_⟩|⟨h1,_⟩
   ·right;simp only[h1]
   ·simp only[h1];exact Ky tx s fr)
 refine⟨v',w',?_,_,_,_,_,M3.only hz hs,hK⟩
 simp only[execOp,ho]
 simp only[resolve,invoke,builtin,A6,Bb,A3,I4,Au,BI,ex,g1]
end
end Go.Sx
end
section
namespace Go.Gr
open Go.Proofs.YtjejpdfldmempaaGreatDoor
def J6(n:Nat)(ok:List Int->Int->Bool)(k:Nat)(l:List Int)(v:Nat):List (List Int):=((List.range v).filter λv:Nat=>ok l v).flatMap λv:Nat=>uT n ok k (l++[(v:Int)])
end Go.Gr
namespace Go.Proofs.YtjejpdfldmempaaGreatDoor
open Go.Sx Go.RowKit Go.Reg Go.Gr
set_option maxRecDepth 100000
theorem pP:mT C1 119:=by
 intro w a n c hn hc
 refine⟨by kernel_rfl,?_⟩
 show Calls Tryz.prog _ _ _ _
 go_enter Tryz.func119,Tryz.ntmps119
 go_wp2
 go_ret
 exact⟨rfl,rfl⟩
end Go.Proofs.YtjejpdfldmempaaGreatDoor
end
section
namespace Go.Gr
open Go.Proofs.YtjejpdfldmempaaGreatDoor
theorem Kg {a b:Int}(h:a<=b):turn ⟨a,b⟩=⟨a,b⟩:=by unfold turn;simp only[Edg.mk.injEq];omega
theorem YW {a b:Int}(h:b<=a):turn ⟨a,b⟩=⟨b,a⟩:=by unfold turn;simp only[Edg.mk.injEq];omega
theorem Ip {E:List Edg}(h:∀e∈E,e.a<e.b)(x y:Int):OH E x y=decide (turn ⟨x,y⟩∈E):=by
 rw[BT,decide_eq_true_eq]
 unfold OH
 rw[Bn]
 constructor
 ·rintro⟨e,he,hc⟩
  have hc:=of_decide_eq_true hc
  have hl:=h e he
  obtain⟨a,b⟩:=e
  simp only at hc hl
  rcases hc with⟨rfl,rfl⟩|⟨rfl,rfl⟩
  ·rw[Kg (by omega)];exact he
  ·rw[YW (by omega)];exact he
 ·intro he
  refine⟨_,he,decide_eq_true ?_⟩
  rcases Int.le_total x y with hxy|hxy
  ·rw[Kg hxy];exact .inl ⟨rfl,rfl⟩
  ·rw[YW hxy];exact .inr ⟨rfl,rfl⟩
end Go.Gr
end
section
namespace Go.Gr
def N0(f:Nat->Nat->Bool)(i k:Nat):List Edg:=((List.range k).filter λx=>f x i).map λx:Nat=>⟨(x:Int),(i:Int)⟩
def FO(f:Nat->Nat->Bool)(n:Nat):List Edg:=(List.range n).flatMap λi=>N0 f i i
theorem eB(f:Nat->Nat->Bool)(i k:Nat):N0 f i (k+1)=N0 f i k++if f k i then[⟨(k:Int),(i:Int)⟩]else[]:=by
 unfold N0
 rw[BN,BJ,Ay]
 congr 1
 by_cases hf:f k i<;>simp[hf]
theorem QV(f:Nat->Nat->Bool)(n:Nat):FO f (n+1)=FO f n++N0 f n n:=by simp[FO,BN]
theorem Wp(f:Nat->Nat->Bool)(i k:Nat):(N0 f i k).length<=k:=by
 unfold N0
 rw[Ab]
 exact BE (Co _ _) (by simp)
theorem Nz(f:Nat->Nat->Bool):∀n,(FO f n).length<=n*n
 |0=>by simp[FO]
 |
  n+1=>by
  have h1:=Nz f n
  have h2:=Wp f n n
  rw[QV,Ah,Nat.mul_add,C0];omega
def L1(E:List Edg)(l:List Int)(k i:Nat):Bool:=decide (turn ⟨(l[k]?).getD 0,(l[i]?).getD 0⟩∈E)
end Go.Gr
namespace Go.Proofs.YtjejpdfldmempaaGreatDoor
open Go.Sx Go.RowKit Go.Reg Go.Gr
set_option maxRecDepth 100000
def Jh:ByteArray:=⟨#[108,105,115,116]⟩
def qQ:Da:=.agg [.nils,.nils]
def rJ:List FuncId:=[195]
theorem LS(G:Gr)(l:List Int)(hl:l.length<=100000):Pure C1 130 [dG G,AS l] (λy=>y=AS (l.map (C5 G))):=by
 have hdl:(l.map dI).length=l.length:=Ab _
 refine AK Tryz.func130 Tryz.ntmps130 rJ [] ?_
 ((conv=>whnf);repeat' ((first|refine odw ?_|refine nx ?_|refine Aw (λ_=>?_) (λ_=>?_))<;>conv=>whnf))
 refine AC (ι:=Nat) (λi=>i<=l.length) (λi=>[(10,.d (.int .i64 i)),(9,.d (.int .i64 l.length)),(8,.d (AS l)),(5,.own 300),(0,.d (dG G))]) (λi=>[(300,.slice 3 1 (((l.take i).map (C5 G)).map dI))]) (λi=>l.length-i) 0 (λ_=>rfl) (Aj _) (.own 5 300 3 1 rfl rfl (.refl _ _)) ⟨rfl,by rw[<-hdl];rfl,rfl,rfl,rfl,trivial⟩ ⟨rfl,trivial⟩ ?_
 intro i hi
 refine Bj rJ [] ?_
 by_cases hil:i<l.length
 ·have hx:=Aa hil
  generalize l[i]=x at hx
  have hxd:(l.map dI)[i]? =some (.int .i64 x):=by rw[Ac,hx];rfl
  have hlb:=Yg G x
  have hll:(((l.take i).map (C5 G)).map dI).length=i:=by simp only[Ab,As];omega
  (conv=>whnf)
  (repeat' ((first|refine Af ?_ ?_|refine A1 hxd rfl ?_|refine AR tab rfl hlb rfl ?_|refine nx ?_|refine Aw (λ_=>?_) (λ_=>?_)|exact A0)<;>conv=>whnf))
  refine⟨i+1,_,_,by omega,.refl _ _,⟨rfl,rfl,rfl,rfl,rfl,trivial⟩,⟨AO ?_,trivial⟩,by omega⟩
  rw[Av,hx];simp[dI]
 ·have e:l.take i=l:=Ak (by omega)
  rw[e]
  ((conv=>whnf);repeat' ((first|refine odw ?_|refine nx ?_|refine Aw (λ_=>?_) (λ_=>?_))<;>conv=>whnf))
  exact rfl
def mH:List FuncId:=[131,132,130,129]
set_option maxHeartbeats 4000000 in
theorem X4(G:Gr)(hG:G.Ok)(l:List Int)(q:Pt)(hmk:l.length<=8->BW G l=true->Pure C1 129 [AS (l.map (C5 G)),D0 (FO (L1 G.edges l) l.length)] (λy=>y=.tuple [GE q,.nili]))(hm:l.length<=9000000000000000000):
  Pure C1 84 [dG G,AS l] (λy=>y=if 8<l.length then .tuple [qQ,dF 6 0 Jh]else if BW G l=false then .tuple [qQ,dF 2 0 Jh]else .tuple [GE q,.nili]):=by
 have hdl:(l.map dI).length=l.length:=Ab _
 have hlk:=V1 G hG l
 refine AK Tryz.func84 Tryz.ntmps84 mH [] ?_
 by_cases h8:8<l.length
 ·rw[if_pos h8]
  (conv=>whnf)
  (repeat' ((first|refine Af ?_ ?_|refine Ad rfl (Cj 6 0 Jh) ?_|refine nx ?_|refine Aw (λ_=>?_) (λ_=>?_)|exact A0)<;>conv=>whnf))
  exact rfl
 rw[if_neg h8]
 cases hl:BW G l with
 |
  false=>
  rw[hl]at hlk
  rw[if_pos rfl]
  (conv=>whnf)
  (repeat' ((first|refine Af ?_ ?_|refine Ad rfl hlk ?_|refine Ad rfl (Cj 2 0 Jh) ?_|refine nx ?_|refine Aw (λ_=>?_) (λ_=>?_)|exact A0)<;>conv=>whnf))
  exact rfl
 |
  true=>
  rw[hl]at hlk
  rw[if_neg (by decide)]
  have hmk:=hmk (by omega) hl
  have hql:=LS G l (by omega)
  have hcl:=Nz (L1 G.edges l)
  have hsq:l.length*l.length<=8*8:=CR (by omega) (by omega)
  (conv=>whnf)
  (repeat' ((first|refine Af ?_ ?_|refine Ad rfl hlk ?_|refine nx ?_|refine Aw (λ_=>?_) (λ_=>?_)|exact A0)<;>conv=>whnf))
  refine AC (ι:=Nat) (λi=>i<=l.length) (λi=>[(26,.d (.int .i64 i)),(25,.d (.int .i64 l.length)),(24,.d (AS l)),(6,.own 300),(4,.own 4),(1,.d (AS l)),(0,.d (dG G))]) (λi=>[(4,.cells 31 [.d .nils,.d .nils]),(300,.slice 103 2 ((FO (L1 G.edges l) i).map dE))]) (λi=>l.length-i) 0 (λ_=>rfl) (Aj _) (.own 6 300 103 2 rfl rfl (.refl _ _)) ⟨rfl,by rw[<-hdl];rfl,rfl,rfl,rfl,rfl,rfl,trivial⟩ ⟨rfl,rfl,trivial⟩ ?_
  intro i hi
  refine Bj mH [] ?_
  by_cases hil:i<l.length
  ·have hx:=Aa hil
   have hadj:∀k u,l[k]? =some u->L1 G.edges l k i=decide (turn ⟨u,l[i]⟩∈G.edges):=λk u hk=>by unfold L1;rw[hk,hx];rfl
   generalize l[i]=x at hx hadj
   have hxd:(l.map dI)[i]? =some (.int .i64 x):=by rw[Ac,hx];rfl
   have hsub:(l.map dI).take i=(l.take i).map dI:=by rw[CW]
   have htl:((l.map dI).take i).length=i:=by rw[As];omega
   have hci:=hcl i
   have hii:i*i<=8*8:=CR (by omega) (by omega)
   (conv=>whnf)
   (repeat' ((first|refine Af ?_ ?_|refine A1 hxd rfl ?_|refine EE rfl (show i<=(l.map dI).length by omega) ?_|refine nx ?_|refine Aw (λ_=>?_) (λ_=>?_)|exact A0)<;>conv=>whnf))
   refine AC (ι:=Nat) (λk=>k<=i) (λk=>[(35,.d (.int .i64 k)),(34,.d (.int .i64 i)),(33,.d (.list 1 ((l.map dI).take i))),(26,.d (.int .i64 i)),(25,.d (.int .i64 l.length)),(24,.d (AS l)),(8,.d (.int .i64 x)),(7,.d (.int .i64 i)),(6,.own 300),(4,.own 4),(1,.d (AS l)),(0,.d (dG G))]) (λk=>[(4,.cells 31 [.d .nils,.d .nils]),(300,.slice 103 2 ((FO (L1 G.edges l) i++N0 (L1 G.edges l) i k).map dE))]) (λk=>i-k) 0 (λ_=>rfl) (Aj _) (.refl _ _) ⟨rfl,IS (by rw[htl]),rfl,rfl,rfl,rfl,rfl,rfl,rfl,rfl,rfl,rfl,trivial⟩ ⟨rfl,by rw[show N0 (L1 G.edges l) i 0=[]from rfl,Cc];rfl,trivial⟩ ?_
   intro k hk
   refine Bj mH [] ?_
   by_cases hki:k<i
   ·have hy:=Aa (l:=l) (i:=k) (by omega)
    generalize l[k]'(by omega)=u at hy
    have hyd:((l.map dI).take i)[k]? =some (.int .i64 u):=by rw[Cv,if_pos hki,Ac,hy];rfl
    have hh:=Sw G hG u x
    have hst:=eB (L1 G.edges l) i k
    rw[hadj k u hy]at hst
    have hkl:=Wp (L1 G.edges l) i k
    have hol:((FO (L1 G.edges l) i++N0 (L1 G.edges l) i k).map dE).length<=1000:=by rw[Ab,Ah];omega
    by_cases hd:turn ⟨u,x⟩∈G.edges
    ·rw[decide_eq_true hd]at hh hst
     rw[if_pos rfl]at hst
     (conv=>whnf)
     (repeat' ((first|refine Af ?_ ?_|refine A1 hyd rfl ?_|refine AR tab rfl hh rfl ?_|refine nx ?_|refine Aw (λ_=>?_) (λ_=>?_)|exact A0)<;>conv=>whnf))
     refine⟨k+1,_,_,by omega,.refl _ _,⟨rfl,rfl,rfl,rfl,rfl,rfl,rfl,rfl,rfl,rfl,rfl,rfl,trivial⟩,⟨rfl,AO ?_,trivial⟩,by omega⟩
     rw[hst];simp[dE]
    ·rw[decide_eq_false hd]at hh hst
     rw[if_neg (by decide),Cc]at hst
     (conv=>whnf)
     (repeat' ((first|refine Af ?_ ?_|refine A1 hyd rfl ?_|refine AR tab rfl hh rfl ?_|refine nx ?_|refine Aw (λ_=>?_) (λ_=>?_)|exact A0)<;>conv=>whnf))
     exact⟨k+1,_,_,by omega,.refl _ _,⟨rfl,rfl,rfl,rfl,rfl,rfl,rfl,rfl,rfl,rfl,rfl,rfl,trivial⟩,⟨rfl,AO (by rw[hst]),trivial⟩,by omega⟩
   ·have hke:k=i:=by omega
    subst hke
    ((conv=>whnf);repeat' ((first|refine odw ?_|refine nx ?_|refine Aw (λ_=>?_) (λ_=>?_))<;>conv=>whnf))
    exact⟨k+1,_,_,by omega,.refl _ _,⟨rfl,rfl,rfl,rfl,rfl,rfl,rfl,trivial⟩,⟨rfl,AO (by rw[QV]),trivial⟩,by omega⟩
  ·have hie:i=l.length:=by omega
   subst hie
   (conv=>whnf)
   (repeat' ((first|refine Af ?_ ?_|refine D3 300 rfl ?_|refine Ad rfl hql ?_|refine Ad rfl hmk ?_|refine nx ?_|refine Aw (λ_=>?_) (λ_=>?_)|exact A0)<;>conv=>whnf))
   exact rfl
end Go.Proofs.YtjejpdfldmempaaGreatDoor
end
section
namespace Go.Proofs.YtjejpdfldmempaaGreatDoor
open Go.Sx Go.RowKit Go.Reg Go.Gr
set_option maxRecDepth 100000
theorem Nx {O:List Nat} {w:World}:∀{l:List Edg} {css:List (List Value)},Am O w (l.map dE) css->css=l.map BM
 |[],css,h=>by simpa only[BI,Am]using h
 |
  e::l,css,h=>by
  simp only[Au,Am,dE,RepC,RepCs]at h
  obtain⟨c1,c2,rfl,⟨a1,a2,rfl,rfl,b1,b2,rfl,rfl,rfl⟩,h⟩:=h
  rw[Nx h];rfl
theorem QU(O:List Nat)(w:World):∀l:List Edg,Am O w (l.map dE) (l.map BM)
 |[]=>by simp[Am]
 |
  e::l=>by
  simp only[Au,Am,dE,RepC,RepCs]
  exact⟨_,_,rfl,⟨_,_,rfl,rfl,_,_,rfl,rfl,rfl⟩,QU O w l⟩
theorem SA {E:Nat} {w:World} {v:Value} {l:List Edg}:Sl E 2 id w v (l.map BM)↔Sl E 2 BM w v l:=by
 unfold Sl
 rw[Ab,eX]
 exact Iff.rfl
theorem Yn(l:List Edg)(hl:l.length<=4294967296)(e:Edg)(i:Nat)(hi:i<=l.length):
  Rk C1 194 103 2 (l.map dE) [.int .i64 i,.list 2 [dE e]] (λds=>ds=(l.take i++e::l.drop i).map dE):=by
 intro O w v css us hs hb hO hr hk hg hus
 obtain rfl:=Nx hr
 obtain⟨v1,vs,rfl,h1,h2⟩:=Ci hus
 obtain⟨v2,vs2,rfl,h3,h4⟩:=Ci h2
 obtain rfl:=ER h4
 obtain rfl:=Gf h1
 obtain⟨cs,r,rfl⟩:=h3
 simp only[RepC]at r
 obtain⟨a,cap,css,rfl,hlc,hcm,hcs,hrow,hd⟩:=r
 have hcs':css=[BM e]:=Nx (l:=[e]) hcs
 subst hcs'
 rcases hd with hd|⟨vb,vo,rfl,hvb,hvl,hcell⟩
 ·cases hd
 refine⟨enters_of Tryz.func194 (by kernel_rfl) rfl _ _,?_⟩
 refine(dA v l e i hi w (SA.1 hs) hl vb vo cap (λhm=>hvb (hb vb hm)) (λj u hj=>hcell j u (by simpa using hj))).mono ?_
 rintro x w' ⟨v',rfl,hs',ht,hb'⟩
 refine⟨v',_,(l.take i++e::l.drop i).map BM,rfl,rfl,SA.2 hs',hb',QU _ _ _,λy hy=>?_,ht⟩
 obtain⟨z,_,rfl⟩:=Ar.1 hy
 exact⟨GD z,GC z⟩
theorem TG(l:List Edg):Fg (l.map dE)=true:=Gb _ (λ_=>rfl) _
def iU:List (Nat×Plan):=[(8,.leaf [0,1,1,2,2,0,0,0,0,0] [0,1,2,3,4,5,6,7,8,9] [0,1,0,4,15,31,63,63,127,511]),
 (13,.leaf [0,1,0,1,2,6,3,0,3] [0,2,1,3,4,5,6,7,8] [0,1,0,0,8,24,63,127,255])]
def rM:List FuncId:=[57,193,48]
set_option maxHeartbeats 4000000 in
theorem PV(l:List Int)(hl:Ik l=none)(E:List Edg)(hE:E.length<=1000)(hw:∀e∈E,(0<=min e.a e.b/\max e.a e.b<(l.length:Int))/\e.a≠e.b)(hn:(E.map turn).Nodup):
  Pure C1 129 [AS l,D0 E] (λy=>y=.tuple [GE ⟨l,(E.map turn).foldl Mj []⟩,.nili]):=by
 have hdl:(l.map dI).length=l.length:=Ab _
 have hdE:(E.map dE).length=E.length:=Ab _
 have h8:=(Sr hl).1
 have hlb:=LX l (by omega)
 rw[show EV l=.nili by unfold EV;rw[hl]]at hlb
 refine AK Tryz.func129 Tryz.ntmps129 rM iU ?_
 (conv=>whnf)
 (repeat' ((first|refine Af ?_ ?_|refine Ad rfl hlb ?_|refine nx ?_|refine Aw (λ_=>?_) (λ_=>?_)|exact A0)<;>conv=>whnf))
 refine EX 19 rfl rfl (Ix l (by omega)) ?_
 rintro ds rfl
 ((conv=>whnf);repeat' ((first|refine odw ?_|refine nx ?_|refine Aw (λ_=>?_) (λ_=>?_))<;>conv=>whnf))
 refine AC (ι:=Nat) (λi=>i<=E.length) (λi=>[(23,.d (.int .i64 i)),(22,.d (.int .i64 E.length)),(21,.d (D0 E)),(7,.own 7),(4,.own 4),(0,.d (AS l))]) (λi=>[(4,.cells 31 [.d .nils,.d .nils]),(7,.cells 31 [.d (AS l),.own 300]),(300,.slice 103 2 ((I0 E i).map dE))]) (λi=>E.length-i) 0 (λ_=>rfl) (Aj _) (.frz 19 rfl (.ownc 7 300 103 2 rfl rfl (.there _ (.here _)) (.refl _ _))) ⟨rfl,by rw[<-hdE];rfl,rfl,rfl,rfl,rfl,trivial⟩ ⟨rfl,rfl,rfl,trivial⟩ ?_
 intro i hi
 refine Bj rM iU ?_
 obtain⟨hst,hpe⟩:=pZ hn i
 have hal:(I0 E i).length=i:=by rw[hpe.length_eq,Ab,As];omega
 have hald:((I0 E i).map dE).length=i:=by rw[Ab,hal]
 by_cases hil:i<E.length
 ·have hx:=Aa hil
  have hxw:=hw E[i] (AL hil)
  have hstep:=eV hx
  have hnot:turn E[i]∉I0 E i:=λhm=>by
   have:=hpe.mem_iff.1 hm
   rw[CW]at this
   obtain⟨j,hj,he⟩:=AQ.1 this
   have hj':j<i:=by omega
   have hij:(E.map turn)[j]? =(E.map turn)[i]? :=by
    rw[Aa (by simp;omega),Aa (by simp;omega),he];simp
   have:=(List.getElem?_inj (by simp;omega) hn).1 hij
   omega
  generalize E[i]=x at hx hxw hstep hnot
  have hxd:(E.map dE)[i]? =some (.agg [.int .i64 x.a,.int .i64 x.b]):=by rw[Ac,hx];rfl
  have htu:=LU x
  have hbs:=KR _ On (I0 E i) hst (by omega) (turn x)
  rw[decide_eq_false hnot]at hbs
  have hwi:=Oa x l.length
  rw[decide_eq_true hxw.1,<-hdl]at hwi
  have hlt:=tE (I0 E i) (turn x)
  have hin:=Yn (I0 E i) (by omega) (turn x) (GW (I0 E i) (turn x)) hlt
  rw[show(I0 E i).take (GW (I0 E i) (turn x))++turn x::(I0 E i).drop (GW (I0 E i) (turn x))=I0 E (i+1)from hstep.symm]at hin
  have hne:=hxw.2
  (conv=>whnf)
  (repeat' ((first|refine Af ?_ ?_|refine A1 hxd rfl ?_|refine Ad rfl htu ?_|refine AR tab rfl hbs rfl ?_|refine Ad rfl hwi ?_|refine D3 62 rfl ?_|refine nx ?_|refine Aw (λ_=>?_) (λ_=>?_)|exact A0)<;>conv=>whnf))
  refine SJ tab rfl rfl hin (λds h=>by subst h;exact TG _) ?_
  rintro ds rfl
  ((conv=>whnf);repeat' ((first|refine odw ?_|refine nx ?_|refine Aw (λ_=>?_) (λ_=>?_))<;>conv=>whnf))
  exact⟨i+1,_,_,by omega,.refl _ _,⟨rfl,rfl,rfl,rfl,rfl,rfl,trivial⟩,⟨rfl,rfl,rfl,trivial⟩,by omega⟩
 ·have hie:i=E.length:=by omega
  subst hie
  have e:I0 E E.length=(E.map turn).foldl Mj []:=by unfold I0;rw[De]
  rw[e]
  ((conv=>whnf);repeat' ((first|refine odw ?_|refine nx ?_|refine Aw (λ_=>?_) (λ_=>?_))<;>conv=>whnf))
  exact rfl
end Go.Proofs.YtjejpdfldmempaaGreatDoor
end
section
namespace Go.Proofs.YtjejpdfldmempaaGreatDoor
open Go.Gr
theorem XV {E:List Edg} {l:List Int} {e:Edg}:e∈Bl E l↔∃m:Nat,(m:Int)∈l/\E[m]? =some e:=by
 simp only[Bl,List.mem_filterMap]
 constructor
 ·rintro⟨x,hx,h⟩
  split at h
  ·rename_i hr
   obtain⟨m,rfl⟩:=Ax hr.1
   exact⟨m,hx,by simpa using h⟩
  ·cases h
 ·rintro⟨m,hm,h⟩
  have:=(Ae.1 h).1
  exact⟨m,hm,by rw[if_pos ⟨by omega,by omega⟩,AV];exact h⟩
theorem turn_nat {u m:Nat}(h:u≠m):(u<m/\turn ⟨(u:Int),(m:Int)⟩=⟨(u:Int),(m:Int)⟩)\/(m<u/\turn ⟨(u:Int),(m:Int)⟩=⟨(m:Int),(u:Int)⟩):=by
 rcases Nat.lt_or_gt_of_ne h with h|h
 ·exact .inl ⟨h,by unfold turn;simp only[Edg.mk.injEq];omega⟩
 ·exact .inr ⟨h,by unfold turn;simp only[Edg.mk.injEq];omega⟩
theorem ZW {E:List Edg} {u m:Nat}(h:u≠m)(hu:u<E.length)(hm:m<E.length):turn ⟨(u:Int),(m:Int)⟩∈Fp E E.length↔tch E u m=true:=by
 rw[Ku]
 rcases turn_nat h with⟨h1,h2⟩|⟨h1,h2⟩<;>rw[h2]
 ·constructor
  ·rintro⟨a,b,_,_,_,ht,e⟩
   simp only[Edg.mk.injEq]at e
   rw[show u=a by omega,show m=b by omega];exact ht
  ·exactλht=>⟨u,m,hu,hm,h1,ht,rfl⟩
 ·constructor
  ·rintro⟨a,b,_,_,_,ht,e⟩
   simp only[Edg.mk.injEq]at e
   rw[show m=a by omega,show u=b by omega,YX];exact ht
  ·exactλht=>⟨m,u,hm,hu,h1,by rw[YX];exact ht,rfl⟩
theorem Sp {G:Gr} {l:List Int}(h:BW G l=true) {k:Nat} {v:Int}(hx:l[k]? =some v):Dc G l k v=true:=by
 cases hh:Dc G l k v with
 |true=>rfl
 |false=>rw[ED hx hh]at h;cases h
theorem kD {G:Gr} {v:Int}:Dw (G3 G) v=decide (0<=v/\v<G.edges.length):=by simp[Dw,G3]
theorem Lq {G:Gr} {l:List Int} {i:Nat} {v:Int}(h:¬(0<=v/\v<G.edges.length)\/v∈l.take i):Dc (G3 G) l i v=false:=by
 unfold Dc
 rw[kD]
 rcases h with h|h<;>simp[h]
end Go.Proofs.YtjejpdfldmempaaGreatDoor
end
section
namespace Go.Gr
theorem UG(f:Nat->Nat->Bool)(a b:Nat):Cl (Lc f a b):=by
 unfold Cl Lc
 rw[B6]
 refine WO ?_ (List.Pairwise.filter _ L3)
 intro x y h
 rw[Eh]
 exact .inr ⟨rfl,by show(x:Int)<y;omega⟩
theorem IE(f:Nat->Nat->Bool)(n a:Nat):Cl (HU f n a):=by
 unfold HU Cl
 rw[qB]
 refine⟨λj _=>UG f j n,WO ?_ L3⟩
 intro i j hij x hx y hy
 simp only[Lc,Ar]at hx hy
 obtain⟨_,_,rfl⟩:=hx
 obtain⟨_,_,rfl⟩:=hy
 rw[Eh]
 exact .inl (by show(i:Int)<j;omega)
theorem Nm {f:Nat->Nat->Bool} {n:Nat} {e:Edg}:e∈FO f n↔∃k i:Nat,i<n/\k<i/\f k i=true/\e=⟨(k:Int),(i:Int)⟩:=by
 simp only[FO,N0,AG,AJ,Ar,A5]
 constructor
 ·rintro⟨i,hi,k,⟨h1,h2⟩,rfl⟩;exact⟨k,i,hi,h1,h2,rfl⟩
 ·rintro⟨k,i,hi,h1,h2,rfl⟩;exact⟨i,hi,k,⟨h1,h2⟩,rfl⟩
theorem O9(f:Nat->Nat->Bool)(n:Nat):(FO f n).Nodup:=by
 unfold FO List.Nodup
 rw[qB]
 refine⟨λi _=>?_,WO ?_ L3⟩
 ·unfold N0
  rw[B6]
  refine WO ?_ (List.Pairwise.filter _ L3)
  intro x y h e
  have:(x:Int)=y:=congrArg Edg.a e
  omega
 ·intro i j hij x hx y hy e
  simp only[N0,Ar]at hx hy
  obtain⟨a,_,rfl⟩:=hx
  obtain⟨b,_,rfl⟩:=hy
  have:(i:Int)=j:=congrArg Edg.b e
  omega
theorem Zx {L R:List Edg}(hn:(L.map turn).Nodup)(hR:Cl R)(h:∀x,x∈L.map turn↔x∈R):(L.map turn).foldl Mj []=R:=by
 obtain⟨h1,h2⟩:=VR _ hn [] List.Pairwise.nil (by simp)
 refine KF h1 hR λx=>?_
 rw[h2.mem_iff,Cc]
 exact h x
theorem Lx(f:Nat->Nat->Bool)(n:Nat):(FO f n).map turn=FO f n:=by
 have:∀e∈FO f n,turn e=id e:=λe he=>by
  obtain⟨k,i,_,h,_,rfl⟩:=Nm.1 he
  exact Kg (show(k:Int)<=i by omega)
 rw[List.map_congr_left this,List.map_id]
theorem nG(x y:Int):turn ⟨x,y⟩=⟨x,y⟩\/turn ⟨x,y⟩=⟨y,x⟩:=by
 unfold turn;simp only[Edg.mk.injEq];omega
theorem cM {E:List Edg}(hE:∀e∈E,e.a<e.b)(l:List Int):((FO (L1 E l) l.length).map turn).foldl Mj []=Hw E l:=by
 refine Zx (by rw[Lx];exact O9 _ _) (IE _ _ _) λx=>?_
 rw[Lx,Nm]
 unfold Hw
 rw[Nk]
 constructor
 ·rintro⟨k,i,h1,h2,h3,rfl⟩
  exact⟨k,i,by omega,h1,h2,by unfold Gx;rw[Ip hE];exact h3,rfl⟩
 ·rintro⟨j,x,h0,h1,h2,h3,rfl⟩
  unfold Gx at h3
  rw[Ip hE]at h3
  exact⟨j,x,h1,h2,h3,rfl⟩
theorem Yp {l:List Int} {x:Int}(h:x∈l):∃i:Nat,i<l.length/\l[i]? =some x/\OG l x=i:=by
 have hs:(l.findIdx? λy=>decide (x=y)).isSome=true:=by
  rw[List.findIdx?_isSome,Bn];exact⟨x,h,by simp⟩
 obtain⟨i,hi⟩:=Option.isSome_iff_exists.1 hs
 have hi':=hi
 rw[AN]at hi'
 obtain⟨h1,h2,_⟩:=hi'
 have h2:x=l[i]:=by simpa using h2
 exact⟨i,h1,by rw[Aa h1,<-h2],by unfold OG;rw[hi]⟩
theorem Z3 {l:List Int}(hn:l.Nodup) {i:Nat} {x:Int}(h:l[i]? =some x):OG l x=i:=by
 obtain⟨j,hj,h2,h3⟩:=Yp (AB h)
 rw[h3]
 have:=(List.getElem?_inj hj hn).1 (h2.trans h.symm)
 omega
def pT(v:List Int)(e:Edg):Edg:=⟨OG v e.a,OG v e.b⟩
theorem TO {v:List Int}(_hn:v.Nodup) {e:Edg}(h:e.a<e.b)(ha:e.a∈v)(hb:e.b∈v):∃i j:Nat,i<v.length/\j<v.length/\v[i]? =some e.a/\v[j]? =some e.b/\i≠j/\pT v e=⟨(i:Int),(j:Int)⟩:=by
 obtain⟨i,h1,h2,h3⟩:=Yp ha
 obtain⟨j,h4,h5,h6⟩:=Yp hb
 refine⟨i,j,h1,h4,h2,h5,λe'=>?_,by unfold pT;rw[h3,h6]⟩
 subst e'
 rw[h2]at h5
 have:=B5 h5
 omega
theorem jX {E:List Edg}(hE:∀e∈E,e.a<e.b)(hn:E.Nodup)(v:List Int)(hv:v.Nodup)(hin:∀e∈E,e.a∈v/\e.b∈v):
  (((E.map (pT v)).map turn).Nodup)/\((E.map (pT v)).map turn).foldl Mj []=Hw E v:=by
 have hnd:((E.map (pT v)).map turn).Nodup:=by
  rw[R5]
  refine B6.2 (FD ?_ hn)
  intro x y hx hy hxy h
  refine hxy ?_
  simp only[Function.comp]at h
  obtain⟨i,j,h1,h2,h3,h4,h5,h6⟩:=TO hv (hE x hx) (hin x hx).1 (hin x hx).2
  obtain⟨i2,j2,k1,k2,k3,k4,k5,k6⟩:=TO hv (hE y hy) (hin y hy).1 (hin y hy).2
  rw[h6,k6]at h
  have hxl:=hE x hx
  have hyl:=hE y hy
  have hcase:(i=i2/\j=j2)\/(i=j2/\j=i2):=by
   unfold turn at h;simp only[Edg.mk.injEq]at h;omega
  rcases hcase with⟨rfl,rfl⟩|⟨rfl,rfl⟩
  ·rw[h3]at k3;rw[h4]at k4
   have e1:=B5 k3;have e2:=B5 k4
   cases x;cases y;simp_all
  ·rw[h3]at k4;rw[h4]at k3
   have e1:=B5 k3;have e2:=B5 k4
   omega
 refine⟨hnd,Zx hnd (IE _ _ _) λx=>?_⟩
 unfold Hw
 rw[Nk]
 simp only[R5,Ar,Function.comp]
 constructor
 ·rintro⟨e,he,rfl⟩
  obtain⟨i,j,h1,h2,h3,h4,h5,h6⟩:=TO hv (hE e he) (hin e he).1 (hin e he).2
  have ht:turn e=e:=Kg (Int.le_of_lt (hE e he))
  rw[h6]
  rcases Go.Proofs.YtjejpdfldmempaaGreatDoor.turn_nat h5 with⟨h7,h8⟩|⟨h7,h8⟩<;>rw[h8]
  ·refine⟨i,j,h1,h2,h7,?_,rfl⟩
   unfold Gx;rw[Ip hE,h3,h4]
   simp only[I2,decide_eq_true_eq]
   rw[show(⟨e.a,e.b⟩:Edg)=e from rfl,ht];exact he
  ·refine⟨j,i,h2,h1,h7,?_,rfl⟩
   unfold Gx;rw[Ip hE,h3,h4]
   simp only[I2,decide_eq_true_eq]
   rw[GJ,show(⟨e.a,e.b⟩:Edg)=e from rfl,ht];exact he
 ·rintro⟨j,x,h0,h1,h2,h3,rfl⟩
  unfold Gx at h3
  rw[Ip hE,decide_eq_true_eq]at h3
  have hj:=Aa h0
  have hx:=Aa h1
  refine⟨_,h3,?_⟩
  have g1:=Z3 hv hj
  have g2:=Z3 hv hx
  rw[hj,hx]at h3⊢
  simp only[I2]at h3⊢
  rcases nG v[j] v[x]with e|e<;>rw[e]<;>unfold pT<;>simp only[g1,g2]
  ·exact Kg (show(j:Int)<=x by omega)
  ·rw[GJ];exact Kg (show(j:Int)<=x by omega)
end Go.Gr
end
section
namespace Go.Proofs.YtjejpdfldmempaaGreatDoor
open Go.RowKit Go.Reg
theorem SP(t:Nat)(w:World):(callFunc 169 #[.iface 194 (.pointer (some ⟨t,0,none⟩))]).run Tryz.prog w=.ok (.value (.agg #[.pointer (some ⟨5,194,none⟩),.pointer (some ⟨w.heap.size,0,none⟩),.int .u64 150])) (w.alloc (.cells #[.pointer (some ⟨t,0,none⟩)] 194)):=by kernel_rfl
theorem Ue(t o:Nat)(w:World):(callFunc 169 #[.iface 141 (.pointer (some ⟨t,o,none⟩))]).run Tryz.prog w=.ok (.value (.agg #[.pointer (some ⟨5,141,none⟩),.pointer (some ⟨w.heap.size,0,none⟩),.int .u64 150])) (w.alloc (.cells #[.pointer (some ⟨t,o,none⟩)] 141)):=by kernel_rfl
theorem ZP(b:Nat)(w:World):(callFunc 170 #[.agg #[.pointer (some ⟨5,194,none⟩),.pointer (some ⟨b,0,none⟩),.int .u64 150]]).run Tryz.prog w=.ok (.value (.iface 293 (.agg #[.pointer (some ⟨5,194,none⟩)]))) w:=by kernel_rfl
theorem WR(b o:Nat)(w:World):(callFunc 224 #[.iface 141 (.pointer (some ⟨b,o,none⟩))]).run Tryz.prog w=.ok (.value (.iface 293 (.agg #[.pointer (some ⟨5,141,none⟩)]))) w:=by kernel_rfl
theorem ZR(w:World):(callFunc 305 #[.pointer (some ⟨5,194,none⟩)]).run Tryz.prog w=.ok (.value (.int .u8 22)) w:=by kernel_rfl
theorem fE(w:World):(callFunc 305 #[.pointer (some ⟨5,141,none⟩)]).run Tryz.prog w=.ok (.value (.int .u8 22)) w:=by kernel_rfl
theorem ZS(w:World):(callFunc 318 #[.agg #[.pointer (some ⟨5,194,none⟩)]]).run Tryz.prog w=.ok (.value (.iface 293 (.agg #[.pointer (some ⟨5,141,none⟩)]))) w:=by kernel_rfl
theorem fF(w:World):(callFunc 319 #[.agg #[.pointer (some ⟨5,141,none⟩)],.iface 293 (.agg #[.pointer (some ⟨5,39,none⟩)])]).run Tryz.prog w=.ok (.value (.bool true)) w:=by kernel_rfl
theorem WS(w:World):(callFunc 316 #[.agg #[.pointer (some ⟨5,141,none⟩)],.iface 293 (.agg #[.pointer (some ⟨5,141,none⟩)])]).run Tryz.prog w=.ok (.value (.bool true)) w:=by kernel_rfl
theorem mZ(b:Nat)(w:World):(method 473 293 (.agg #[.pointer (some ⟨5,b,none⟩)]) "Kind").run Tryz.prog w=.ok (305,.pointer (some ⟨5,b,none⟩)) w:=by kernel_rfl
theorem nB(b:Nat)(w:World):(method 473 293 (.agg #[.pointer (some ⟨5,b,none⟩)]) "Elem").run Tryz.prog w=.ok (318,.agg #[.pointer (some ⟨5,b,none⟩)]) w:=by kernel_rfl
theorem nA(b:Nat)(w:World):(method 473 293 (.agg #[.pointer (some ⟨5,b,none⟩)]) "Implements").run Tryz.prog w=.ok (319,.agg #[.pointer (some ⟨5,b,none⟩)]) w:=by kernel_rfl
theorem ZQ(b:Nat)(w:World):(method 473 293 (.agg #[.pointer (some ⟨5,b,none⟩)]) "AssignableTo").run Tryz.prog w=.ok (316,.agg #[.pointer (some ⟨5,b,none⟩)]) w:=by kernel_rfl
theorem nC(b t:Nat)(w:World)(h:w.cell? ⟨b,0,none⟩=some (.pointer (some ⟨t,0,none⟩))):(callFunc 171 #[.agg #[.pointer (some ⟨5,194,none⟩),.pointer (some ⟨b,0,none⟩),.int .u64 150]]).run Tryz.prog w=.ok (.value (.bool false)) w:=
 DG _ [.pointer (some ⟨t,0,none⟩)] [] (es:=[ld ⟨b,0,none⟩ (.pointer (some ⟨t,0,none⟩))]) (by kernel_rfl) ⟨h,rfl⟩
theorem fG(b t:Nat)(w:World)(h:w.cell? ⟨b,0,none⟩=some (.pointer (some ⟨t,0,none⟩))):(callFunc 225 #[.agg #[.pointer (some ⟨5,194,none⟩),.pointer (some ⟨b,0,none⟩),.int .u64 150]]).run Tryz.prog w=.ok (.value (.agg #[.pointer (some ⟨5,141,none⟩),.pointer (some ⟨t,0,none⟩),.int .u64 406])) w:=
 DG _ [.pointer (some ⟨t,0,none⟩)] [] (es:=[ld ⟨b,0,none⟩ (.pointer (some ⟨t,0,none⟩))]) (by kernel_rfl) ⟨h,rfl⟩
theorem uI(t b:Nat)(v:Value)(f o:Nat)(w:World)(h:w.cell? ⟨b,0,none⟩=some (.pointer (some ⟨f,o,none⟩)))(ht:w.cell? ⟨t,0,none⟩=some v)(hz:w.frozen? ⟨t,0,none⟩=false):(callFunc 226 #[.agg #[.pointer (some ⟨5,141,none⟩),.pointer (some ⟨t,0,none⟩),.int .u64 406],.agg #[.pointer (some ⟨5,141,none⟩),.pointer (some ⟨b,0,none⟩),.int .u64 150]]).run Tryz.prog w=.ok (.value (.tuple #[])) (w.setCell ⟨t,0,none⟩ (.pointer (some ⟨f,o,none⟩))):=
 DG _ [.pointer (some ⟨f,o,none⟩)] [] (es:=[ld ⟨b,0,none⟩ (.pointer (some ⟨f,o,none⟩)),st ⟨t,0,none⟩ (.pointer (some ⟨f,o,none⟩))]) (by kernel_rfl) ⟨h,rfl,⟨_,ht⟩,hz,rfl⟩
end Go.Proofs.YtjejpdfldmempaaGreatDoor
end
section
namespace Go.Proofs.YtjejpdfldmempaaGreatDoor
open Go.RowKit Go.Reg
def mR(w:World):Prop:=w.cell? ⟨0,0,none⟩=some (.iface 293 (.agg #[.pointer (some ⟨5,39,none⟩)]))
set_option maxRecDepth 100000 in
set_option maxHeartbeats 1000000 in
theorem pV(f o t b:Nat)(v:Value)(w:World)(hb:w.cell? ⟨b,0,none⟩=some (.pointer (some ⟨t,0,none⟩)))(hf:w.cell? ⟨t,0,none⟩=some v)(hz:w.frozen? ⟨t,0,none⟩=false)(ht:t<w.heap.size)(hbs:b<w.heap.size):
  Calls Tryz.prog 172 #[.iface 141 (.pointer (some ⟨f,o,none⟩)),.iface 194 (.pointer (some ⟨t,0,none⟩)),.agg #[.pointer (some ⟨5,194,none⟩),.pointer (some ⟨b,0,none⟩),.int .u64 150],.iface 293 (.agg #[.pointer (some ⟨5,141,none⟩)])] w
   λe w'=>e=.returned (.bool true)/\w'.cell? ⟨t,0,none⟩=some (.pointer (some ⟨f,o,none⟩))/\Tch [t] w w':=by
 have e1:=WR
 have e2:=ZQ
 have e3:=WS
 have e4:=λw' (h:w'.cell? ⟨b,0,none⟩=some (.pointer (some ⟨t,0,none⟩)))=>fG b t w' h
 have e5:=Ue f o
 have hT:Tch [] w ((w.alloc (.cells #[.pointer (some ⟨5,194,none⟩),.pointer (some ⟨b,0,none⟩),.int .u64 150] 248)).alloc (.cells #[.pointer (some ⟨f,o,none⟩)] 141)):=((Tch.refl [] w).andAlloc _).andAlloc _
 have hN:((w.alloc (.cells #[.pointer (some ⟨5,194,none⟩),.pointer (some ⟨b,0,none⟩),.int .u64 150] 248)).alloc (.cells #[.pointer (some ⟨f,o,none⟩)] 141)).cell? ⟨w.heap.size+1,0,none⟩=some (.pointer (some ⟨f,o,none⟩)):=by
  simp
 have hFz:((w.alloc (.cells #[.pointer (some ⟨5,194,none⟩),.pointer (some ⟨b,0,none⟩),.int .u64 150] 248)).alloc (.cells #[.pointer (some ⟨f,o,none⟩)] 141)).frozen? ⟨t,0,none⟩=false:=by rw[World.frozen?_of_block (w:=w) (hT.blk t ht (by simp))];exact hz
 have e6:=uI t (w.heap.size+1) v f o _ hN (hT.cell hf (by simp)) hFz
 have HC:=E4 hf
 clear hT hN hFz
 go_enter Tryz.func172,Tryz.ntmps172
 go_wp2_with fail
 refine wp_loop_once ?_
 go_wp2_with fail
 go_ret
 refine⟨rfl,?_,((Tch.setCell w (.inl (by simp)) _).andAlloc _).andAlloc _⟩
 exact(((Tch.refl [] _).andAlloc _).andAlloc _).cell (World.cell?_setCell_same _ _ _ HC.out) (by simp)
set_option maxRecDepth 100000 in
set_option maxHeartbeats 1000000 in
theorem tW(f o t:Nat)(v:Value)(w:World)(hf:w.cell? ⟨t,0,none⟩=some v)(hz:w.frozen? ⟨t,0,none⟩=false)(ht:t<w.heap.size)(h0:mR w):
  Calls Tryz.prog 115 #[.iface 141 (.pointer (some ⟨f,o,none⟩)),.iface 194 (.pointer (some ⟨t,0,none⟩))] w
   λe w'=>e=.returned (.bool true)/\w'.cell? ⟨t,0,none⟩=some (.pointer (some ⟨f,o,none⟩))/\Tch [t] w w':=by
 unfold mR at h0
 have hs0:0<w.heap.size:=by omega
 have e1:=SP t
 have e2:=ZP
 have e3:=mZ
 have e4:=ZR
 have e5:=nB
 have e6:=ZS
 have e7:=λw' (h:w'.cell? ⟨w.heap.size,0,none⟩=some (.pointer (some ⟨t,0,none⟩)))=>nC w.heap.size t w' h
 have e8:=fE
 have e9:=nA
 have e10:=fF
 have hT:Tch [] w ((w.alloc (.cells #[.pointer (some ⟨t,0,none⟩)] 194)).alloc (.cells #[.pointer (some ⟨5,194,none⟩),.pointer (some ⟨w.heap.size,0,none⟩),.int .u64 150] 248)):=((Tch.refl [] w).andAlloc _).andAlloc _
 have HT:=E4 hT
 have HF:=E4 (hT.cell hf (by simp))
 have HB:=E4 (((Tch.refl [] (w.alloc (.cells #[.pointer (some ⟨t,0,none⟩)] 194))).andAlloc (.cells #[.pointer (some ⟨5,194,none⟩),.pointer (some ⟨w.heap.size,0,none⟩),.int .u64 150] 248)).cell ((Hk.new w 194 [.pointer (some ⟨t,0,none⟩)]).cell (i:=0) rfl) (by simp))
 have HZ:=E4 (show((w.alloc (.cells #[.pointer (some ⟨t,0,none⟩)] 194)).alloc (.cells #[.pointer (some ⟨5,194,none⟩),.pointer (some ⟨w.heap.size,0,none⟩),.int .u64 150] 248)).frozen? ⟨t,0,none⟩=false by rw[World.frozen?_of_block (w:=w) (hT.blk t ht (by simp))];exact hz)
 clear hT hf hz
 go_enter Tryz.func115,Tryz.ntmps115
 go_wp2_with fail
 refine(pV f o t w.heap.size v _ HB.out HF.out HZ.out (by simp;omega) (by simp;omega)).mono ?_
 rintro e w' ⟨rfl,hc,hT⟩
 go_wp2_with fail
 go_ret
 exact⟨rfl,hc,(HT.out).ahead0 hT⟩
set_option maxRecDepth 100000 in
theorem Y0(f o:Nat)(w:World)(h0:mR w)(_hs:0<w.heap.size):
  Calls Tryz.prog 74 #[.iface 141 (.pointer (some ⟨f,o,none⟩))] w λe w'=>e=.returned (.pointer (some ⟨f,o,none⟩))/\Tch [] w w':=by
 have HN:=E4 (Hk.new w 141 [.pointer none])
 have H0:=E4 (show mR (w.alloc (.cells #[.pointer none] 141))from(Tch.alloc w _ []).cell h0 (by simp))
 clear h0
 go_enter Tryz.func74,Tryz.ntmps74
 go_wp2_with fail
 refine(tW f o w.heap.size (.pointer none) _ (HN.out.cell (i:=0) rfl) (HN.out.frozen 0) (by simp) H0.out).mono ?_
 rintro e w' ⟨rfl,hc,hT⟩
 have HT:=E4 ((Tch.alloc w (.cells #[.pointer none] 141) []).trans hT (T:=[]) (λ_ h=>h) (λx hx=>.inr (by simp at hx;omega)))
 clear hT
 go_wp2_with fail
 go_ret
 exact⟨rfl,HT.out⟩
end Go.Proofs.YtjejpdfldmempaaGreatDoor
end
section
namespace Go.Proofs.YtjejpdfldmempaaGreatDoor
open Go.Sx Go.RowKit Go.Reg
set_option maxRecDepth 100000
theorem dW {O:List Nat} {w:World}(h:Glob C1 O w):mR w/\0∉O:=by
 obtain⟨cs,h1,h2⟩:=(h _ (List.mem_singleton_self _)).1
 simp only[RepC]at h1
 obtain⟨b,o,c,rfl,hb,_,rfl,hc⟩:=h1
 simp only[Ft,mX,Value.pointer.injEq,Aq,Addr.mk.injEq,and_true]at h2
 obtain⟨rfl,rfl⟩:=h2
 exact⟨hc 0 _ rfl,hb⟩
theorem VZ(c a:Int)(s:ByteArray):Pure C1 74 [dF c a s] (λy=>y=.ref (.agg [.int .i64 c,.int .i64 a,.str s])):=by
 intro O w us hO hg hr
 obtain⟨v,vs,rfl,h1,h2⟩:=Ci hr
 obtain rfl:=ER h2
 obtain⟨cs,r,rfl⟩:=h1
 simp only[dF,RepC]at r
 obtain⟨c2,⟨b,o,c3,rfl,r1,r2,r3,r4⟩,rfl⟩:=r
 obtain⟨hE,h0⟩:=dW hg
 refine⟨by kernel_rfl,(Y0 b o w hE (by omega)).mono ?_⟩
 rintro e w' ⟨rfl,ht⟩
 refine⟨_,_,rfl,rfl,⟨[_],?_,rfl⟩,ht⟩
 have:=RepC.later (Later.same ht O) (.ref (.agg [.int .i64 c,.int .i64 a,.str s])) [.pointer (some ⟨b,o,none⟩)] (by simp only[RepC];exact⟨b,o,c3,rfl,r1,r2,r3,r4⟩)
 exact this
theorem SF(c a:Int)(s:ByteArray):Pure C1 24 [dF c a s] (λy=>y=.int .i64 c):=by
 refine AK Tryz.func24 Tryz.ntmps24 [] [] ?_
 ((conv=>whnf);repeat' (first|(refine TC (by first|omega|rfl|assumption|exact⟨rfl,rfl⟩|exact⟨rfl,rfl,rfl⟩|exact⟨rfl,rfl,rfl,rfl⟩) ?_;conv=>whnf)|(refine Q6 (by first|omega|assumption|exactλh=>h rfl|exactλh=>h (by assumption)|exactλh=>h ⟨rfl,rfl⟩|exactλh=>h ⟨rfl,rfl,rfl⟩|exactλh=>h ⟨rfl,rfl,rfl,rfl⟩) ?_;conv=>whnf)|(refine Fj (by omega) ?_;conv=>whnf)|(refine ZH rfl (by assumption) ?_;conv=>whnf)|(refine Hv (by(try simp only[Ah,Ab,A4,Cb]);omega) ?_;conv=>whnf)|(refine Tn (by first|decide|omega) ?_;conv=>whnf)|(refine Z2 (λ_=>?_) (λ_=>?_)<;>conv=>whnf)))
 refine AI rfl (VZ c a s) ?_;rintro y rfl
 ((conv=>whnf);repeat' (first|(refine TC (by first|omega|rfl|assumption|exact⟨rfl,rfl⟩|exact⟨rfl,rfl,rfl⟩|exact⟨rfl,rfl,rfl,rfl⟩) ?_;conv=>whnf)|(refine Q6 (by first|omega|assumption|exactλh=>h rfl|exactλh=>h (by assumption)|exactλh=>h ⟨rfl,rfl⟩|exactλh=>h ⟨rfl,rfl,rfl⟩|exactλh=>h ⟨rfl,rfl,rfl,rfl⟩) ?_;conv=>whnf)|(refine Fj (by omega) ?_;conv=>whnf)|(refine ZH rfl (by assumption) ?_;conv=>whnf)|(refine Hv (by(try simp only[Ah,Ab,A4,Cb]);omega) ?_;conv=>whnf)|(refine Tn (by first|decide|omega) ?_;conv=>whnf)|(refine Z2 (λ_=>?_) (λ_=>?_)<;>conv=>whnf)))
 all_goals exact rfl
end Go.Proofs.YtjejpdfldmempaaGreatDoor
end
