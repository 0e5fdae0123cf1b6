/- Merged: Tbo Rng Tri Eat Tba Lse Srt. -/
import Derived.Test.YtjejpdfldmempaaGreatDooragan
import Derived.Test.YtjejpdfldmempaaGreatDooragar
import Derived.Test.YtjejpdfldmempaaGreatDooragas
import Derived.Test.YtjejpdfldmempaaGreatDooragag
import Derived.Maps.RangeRun
import Derived.Test.YtjejpdfldmempaaGreatDooragaq
import Derived.Shelf.SlSortCmp.WholeK
import Derived.Test.YtjejpdfldmempaaGreatDoorRows
import Derived.Test.YtjejpdfldmempaaGreatDooragah
import Derived.Shelf.SlSortCmp.NoneTotal
section
namespace Go.Proofs.YtjejpdfldmempaaGreatDoor
open Go Go.Sx Go.RowKit Go.Reg Go.Gr
structure RowV where
 lv:Value
 ev:Value
 n:Int
 p:Pt
 h1:lv.oneCell'=true
 h2:ev.oneCell'=true
def Hr(w:World)(G:List Nat):List Nat:=(List.range w.heap.size).filter (λb=>decide (b∉G))
theorem Gh {w:World} {G:List Nat} {b:Nat}:b∈Hr w G↔b<w.heap.size/\b∉G:=by unfold Hr;rw[Bg,Bk];simp
theorem Fq {S G:List Nat} {w w':World}(t:Tch S w w')(hd:∀x∈G,x∉S):Later (Hr w G) w (Hr w' G) w':=
 ⟨t.size,λb hb hn=>t.blk b hb (hd b (by
  by_cases h:b∈G
  ·exact h
  ·exact absurd (Gh.2 ⟨hb,h⟩) hn)),λb hn hb hm=>hn (Gh.2 ⟨hb,(Gh.1 hm).2⟩)⟩
theorem NA {G G':List Nat} {w:World}(h:∀x∈G,x∈G'):Later (Hr w G) w (Hr w G') w:=
 ⟨Az _,λ_ _ _=>rfl,λb hn hb hm=>hn (Gh.2 ⟨hb,λhg=>(Gh.1 hm).2 (h b hg)⟩)⟩
structure RowsR {P:Program}(M:MapE P ByteArray RowV)(m:List (ByteArray×RowV))(X:List (Value×Da))(w:World)(v:Value)(F:List Nat)(b:Nat)(G:List Nat):Prop where
 val:v=.map (some b)
 mem:∀x,x∈F↔x=b\/x∈G
 nb:b∉G
 lt:∀x∈F,x<w.heap.size
 map:BT M.encK M.encV w b m
 ad:∀x∈X,RepC (Hr w G) w x.2 [x.1]
 rows:∀r∈m,RepC (Hr w G) w (D1 r.2.p.labels) [r.2.lv]/\RepC (Hr w G) w (Ip r.2.p.edges) [r.2.ev]
def Cy {P:Program}(M:MapE P ByteArray RowV)(m:List (ByteArray×RowV))(X:List (Value×Da)):Absn where
 R w v F:=∃b G,RowsR M m X w v F b G
 keep:=by
  rintro S w w' v F ⟨b,G,h⟩ t hd
  have hG:∀x∈G,x∉S:=λx hx=>hd x ((h.mem x).2 (.inr hx))
  have hl:=Fq t hG
  exact⟨b,G,h.val,h.mem,h.nb,λx hx=>Bw (h.lt x hx) t.size,h.map.keep t (hd b ((h.mem b).2 (.inl rfl))),λx hx=>RepC.later hl _ _ (h.ad x hx),λr hr=>⟨RepC.later hl _ _ (h.rows r hr).1,RepC.later hl _ _ (h.rows r hr).2⟩⟩
 lt:=by rintro w v F ⟨b,G,h⟩ x hx;exact h.lt x hx
 one:=by rintro w v F ⟨b,G,h⟩;rw[h.val];rfl
section
variable {C:Cx} {n kd:Nat} {fr:Fr} {σ:Sg} {o:Oper} {K:Fr->Sg->Prop} {M:MapE C.P ByteArray RowV} {m:List (ByteArray×RowV)} {X:List (Value×Da)}
theorem Jo {B S:List Nat} {w0 w:World} {η:Nat->Value} {φ:Nat->List Nat}(hm:Mem C B S w0 σ η φ w) {i:Nat}(hg:BO i σ=some (Cy M m X).own):∃b G,RowsR M m X w (η i) (φ i) b G:=hm.own _ (B8 hg)
theorem R3(M:MapE C.P ByteArray RowV)(j:Nat)(ho:o.op=.makeMap M.t none)(hj:BO j σ=none)(hkd:kd=6\/kd=3)(hd:Db o.dst n=true)
  (hK:C0 (G9 j (Cy M [] []).own σ) λσ=>K (Ca o.dst (.own j) fr) σ):AL C n kd o K fr σ:=by
 rw[B4]at hK
 refine Ef (by rcases hkd with rfl|rfl<;>decide) (by rcases hkd with rfl|rfl<;>decide) λB S w0 η φ a w hM=>⟨λe=>(by rcases hkd with rfl|rfl<;>cases e),.inl ?_⟩
 obtain⟨η',φ',M'⟩:=hM.newAbs (Tch.alloc w (.map #[] 0) []) (r:=Cy M [] []) (v:=.map (some w.heap.size)) (F:=[w.heap.size]) (by simp) ⟨w.heap.size,[],rfl,λx=>(by simp),by simp,λx hx=>(by simp at hx;subst hx;simp),BT.new _ _ _,λx hx=>(by cases hx),λx hx=>(by cases hx)⟩ (E3 hj) hd
 refine⟨_,_,?_,_,_,_,_,M',hK⟩
 simp only[execOp,ho]
 exact C2 (by rfl)
theorem LY(i:Nat)(q:ByteArray) {x ix:Operand}(ho:o.op=.lookup M.t x ix true)(hx:ev C.Γ fr x=.own i)(hg:BO i σ=some (Cy M m X).own)(hix:ev C.Γ fr ix=.d (M.dK q))(hkd:kd≠5/\kd≠2)(hd:Db o.dst n=true) {y:RowV} {bo:Bool}
  (hy:((get m q).getD M.z,(get m q).isSome)=(y,bo)) (hK:K (Ca o.dst (.d (.tuple [M.dV y,.bool bo])) fr) σ):AL C n kd o K fr σ:=by
 refine AV hkd.1 hkd.2 hd λB S w0 η φ a w hM=>?_
 obtain⟨b,G,h⟩:=Jo hM.mem hg
 have e1:=O9 (AM hM x) hx
 have e2:=M.repK _ _ _ _ (Ex (AM hM ix) hix)
 have hr:=h.map.lookup M.hk M.ht M.hz q true
 have hy1:((get m q).map M.encV).getD (M.encV M.z)=M.encV y:=by
  rw[<-(Prod.mk.inj hy).1];cases get m q<;>rfl
 rw[hy1,(Prod.mk.inj hy).2]at hr
 obtain⟨cs,g1,g2⟩:=M.ofV (B++Ah φ σ) w y
 refine .inr ⟨_,.tuple #[M.encV y,.bool bo],hK,?_,⟨[.tuple #[M.encV y,.bool bo]],?_,rfl⟩,λ_=>by simp[AU,ho]⟩
 ·simp only[execOp,ho]
  rw[e1,e2,h.val]
  exact C2 hr
 ·simp only[Ay,RepC,Ai]
  exact⟨[cs,[.bool bo]],⟨cs,_,rfl,g1,[.bool bo],[],rfl,rfl,rfl⟩,by simp[g2,EB]⟩
theorem Yb {B:List Nat} {σ:Sg} {η:Nat->Value} {φ:Nat->List Nat} {w:World} {v a b:Value} {k:Int}(h:RD B σ η φ w (.agg [.agg [.d (.raw a),.d (.raw b)],.d (.int .i64 k)]) v):v=.agg #[a,b,.int .i64 k]:=by
 obtain⟨cs,h,rfl⟩:=h
 simp only[Ay,AI,RepC]at h
 obtain⟨_,_,rfl,⟨_,_,rfl,rfl,_,_,rfl,rfl,rfl⟩,_,_,rfl,rfl,rfl⟩:=h
 rfl
theorem ND(i:Nat)(q:ByteArray)(y:RowV) {x ix vx:Operand}(ho:o.op=.mapUpdate M.t x ix vx)(hx:ev C.Γ fr x=.own i)(hg:BO i σ=some (Cy M m X).own)(hix:ev C.Γ fr ix=.d (M.dK q))(hv:∀{B:List Nat} {σ:Sg} {η:Nat->Value} {φ:Nat->List Nat} {w:World} {v:Value},RD B σ η φ w (ev C.Γ fr vx) v->v=M.encV y)
  (hy:∀(O:List Nat) (w:World),(∀x∈X,RepC O w x.2 [x.1])->(∀r∈m,RepC O w (D1 r.2.p.labels) [r.2.lv]/\RepC O w (Ip r.2.p.edges) [r.2.ev])->RepC O w (D1 y.p.labels) [y.lv]/\RepC O w (Ip y.p.edges) [y.ev]) (hkd:kd≠5/\kd≠2/\kd≠0) (hd:Db o.dst n=true)
  (hK:C0 (Br id i (Cy M (put m q y) X).own σ) λσ=>K (Ca o.dst (.d .undef) fr) σ):AL C n kd o K fr σ:=by
 rw[B4]at hK
 refine Ef hkd.1 hkd.2.1 λB S w0 η φ a w hM=>⟨λe=>absurd e hkd.2.2,.inr ?_⟩
 have e1:=O9 (AM hM x) hx
 have e2:=M.repK _ _ _ _ (Ex (AM hM ix) hix)
 have e3:=hv (AM hM vx)
 obtain⟨b,G,h⟩:=Jo hM.mem hg
 obtain⟨w',hr,hm',ht⟩:=h.map.update M.hk M.ht q y
 have hi:=AW (B8 hg)
 have hX:∀c∈[b],c∈φ i:=λc hc=>by rw[A7.1 hc];exact(h.mem b).2 (.inl rfl)
 have hF:∀c∈φ i,c∈φ i\/w.heap.size<=c:=λc hc=>.inl hc
 have hlo:=Fq ht (G:=G) (λx hx hb=>h.nb (by rw[<-A7.1 hb];exact hx))
 have hyr:=hy _ _ h.ad h.rows
 have hrows:∀r∈put m q y,RepC (Hr w' G) w' (D1 r.2.p.labels) [r.2.lv]/\RepC (Hr w' G) w' (Ip r.2.p.edges) [r.2.ev]:=λr hrm=>by
  have hc:r∈m\/r=(q,y):=by
   unfold put at hrm
   split at hrm
   ·exact List.mem_or_eq_of_mem_set hrm
   ·rcases Af.1 hrm with h1|h1
    ·exact .inl h1
    ·exact .inr (A7.1 h1)
  rcases hc with hc|rfl
  ·exact⟨RepC.later hlo _ _ (h.rows r hc).1,RepC.later hlo _ _ (h.rows r hc).2⟩
  ·exact⟨RepC.later hlo _ _ hyr.1,RepC.later hlo _ _ hyr.2⟩
 have hl:=Later.turn (σ:=σ) B ht hX hi hF id (Cy M (put m q y) X).own
 have hmm:=hM.mem.turnSame ht hX hi hF (o:=(Cy M (put m q y) X).own) ⟨b,G,h.val,h.mem,h.nb,λx hx=>Bw (h.lt x hx) ht.size,hm',λx hx=>RepC.later hlo _ _ (h.ad x hx),hrows⟩
 have M':Models C B S w0 n fr _ η _ a w':=⟨hmm,hM.fr.later hl (λj hj=>⟨by rw[Bt];exact hj,rfl⟩),hM.defers,hM.size⟩
 refine⟨w',?_,_,_,_,_,M'.put hd ⟨[Go.undef],by simp[Ay,RepC],rfl⟩,hK⟩
 simp only[execOp,ho]
 rw[e1,e2,e3,h.val]
 exact UI hr
theorem Hu {T:ED}(hC:C.Ok T) {t:TypeId} {x v:Operand} {e:TyI} {ds:List Dat} {a b:Value} {k:Int}(j:Nat)(ho:o.op=.store t x v)(he:EV t T=some e)(hes:e.size=3)(hx:ev C.Γ fr x=.own j)(hg:BO j σ=some (.cells t ds))(hds:IA ds=3)(hv:ev C.Γ fr v=.d (.agg [.agg [.raw a,.raw b],.int .i64 k]))(ha:a.oneCell'=true)(hb:b.oneCell'=true)(hkd:kd≠5/\kd≠2)(hd:Db o.dst n=true)
  (hK:C0 (Br id j (.cells t [.d (.agg [.raw a,.raw b]),.d (.int .i64 k)]) σ) λσ=>K (Ca o.dst (.d .undef) fr) σ):AL C n kd o K fr σ:=by
 rw[B4]at hK
 refine Ef hkd.1 hkd.2 λB S w0 η φ ac w hM=>⟨λ_=>by simp[AU,ho],.inr ?_⟩
 have ht:=hC.ty he
 obtain⟨cx,hcx,e2⟩:=Ex (AM hM v) hv
 obtain⟨c1,h1,e1⟩:=by have:=AM hM x;rw[hx]at this;exact this
 simp only[Ay]at h1
 obtain⟨_,rfl⟩:=h1
 simp only[RepC,RepCs]at hcx
 obtain⟨_,_,rfl,⟨_,_,rfl,rfl,_,_,rfl,rfl,rfl⟩,_,_,rfl,rfl,rfl⟩:=hcx
 obtain⟨g,cs,g1,g2,g3,g4⟩:=Cr hM.mem hg
 have hl:=FZ _ _ g4
 rw[hds]at hl
 have hone:∀u∈[a,b,Value.int .i64 k],u.oneCell'=true:=by
  intro u hu
  simp only[Ad,Ua,or_false]at hu
  rcases hu with rfl|rfl|rfl
  ·exact ha
  ·exact hb
  ·rfl
 obtain⟨w',r1,r2,r3⟩:=F3.splice (P:=C.P) g3 (o:=0) (x:=[a,b,.int .i64 k]) (by rw[hl];simp) hone
 have e4:splice cs 0 [a,b,.int .i64 k]=[a,b,.int .i64 k]:=by simp[splice,hl]
 rw[e4]at r2
 have hT:=EW hM.mem hg g1 g2 (ds':=[.d (.agg [.raw a,.raw b]),.d (.int .i64 k)]) (by
  simp only[AI,Ay,RepC,RepCs]
  exact⟨[a,b],_,rfl,⟨[a],_,rfl,rfl,[b],_,rfl,rfl,rfl⟩,_,_,rfl,rfl,rfl⟩) r2 r3
 have M':Models C B S w0 n fr _ η φ ac w':=⟨hT.1,hT.frame hM.fr,hM.defers,hM.size⟩
 refine⟨w',?_,_,_,_,_,M'.put hd ⟨[Go.undef],by simp[Ay,RepC],rfl⟩,hK⟩
 simp only[execOp,ho]
 rw[e1,e2]
 refine UI ?_
 simp only[Bo,MV,EB,g1]
 simp only[Instr.storeAt,Instr.sureAddr,Ar,AH,Ap,storeVar,ht.sizeOf,hes]
 simp[Value.cells]
 simp[r1]
theorem _root_.Go.Sx.Mem.give {B S:List Nat} {w0 w:World} {η:Nat->Value} {φ:Nat->List Nat}(h:Mem C B S w0 σ η φ w) {i j:Nat}(hi:i∈Ba σ)(hj:j∈Ba σ)(hij:i≠j) {F:List Nat}(hF:∀b,b∈F↔b∈φ i\/b∈φ j) {r:Absn}(h1:r.R w (η i) F) {x:Da}(hx:x.one=true)(hxr:∀O,RepC O w x [η j]):
  Mem C B S w0 (Dj (BF j x) j (Br id i r.own σ)) η (Dy φ i F) w/\Later (B++Ah φ σ) w (B++Ah (Dy φ i F) (Dj (BF j x) j (Br id i r.own σ))) w:=by
 have hids:Ba (Dj (BF j x) j (Br id i r.own σ))=(Ba σ).filter (· !=j):=by rw[DW,Bt]
 have hin:∀k,k∈Ba (Dj (BF j x) j (Br id i r.own σ))↔k∈Ba σ/\k≠j:=λk=>by rw[hids,Bg];simp
 have e3:∀k,k≠i->Dy φ i F k=φ k:=λk a=>CA _ _ _ a
 have mb:∀{φ:Nat->List Nat} {σ:Sg} {b:Nat},b∈Ah φ σ↔∃k∈Ba σ,b∈φ k:=⟨λh=>by obtain⟨p,hp,hb⟩:=AB.1 h;exact⟨p.1,AW hp,hb⟩,λ⟨_,hk,hb⟩=>Bb hk hb⟩
 have hO:∀b,b∈B++Ah (Dy φ i F) (Dj (BF j x) j (Br id i r.own σ))↔b∈B++Ah φ σ:=λb=>by
  simp only[Af,mb,hin]
  refine or_congr Iff.rfl ⟨?_,?_⟩
  ·rintro⟨k,⟨hk,hkj⟩,hb⟩
   by_cases e:k=i
   ·subst e;rw[CK]at hb
    rcases(hF b).1 hb with hb|hb
    ·exact⟨k,hk,hb⟩
    ·exact⟨j,hj,hb⟩
   ·rw[e3 k e]at hb;exact⟨k,hk,hb⟩
  ·rintro⟨k,hk,hb⟩
   by_cases e:k=i
   ·subst e;exact⟨k,⟨hk,hij⟩,by rw[CK];exact(hF b).2 (.inl hb)⟩
   ·by_cases e2:k=j
    ·subst e2;exact⟨i,⟨hi,hij⟩,by rw[CK];exact(hF b).2 (.inr hb)⟩
    ·exact⟨k,⟨hk,e2⟩,by rw[e3 k e];exact hb⟩
 have hl:Later (B++Ah φ σ) w (B++Ah (Dy φ i F) (Dj (BF j x) j (Br id i r.own σ))) w:=⟨Az _,λ_ _ _=>rfl,λb hn _ hm=>hn ((hO b).1 hm)⟩
 have hcov:∀k,k∈Ba σ->k≠j->∀b∈Dy φ i F k,b∈φ k\/(k=i/\b∈φ j):=λk hk _ b hb=>by
  by_cases e:k=i
  ·subst e;rw[CK]at hb
   rcases(hF b).1 hb with hb|hb
   ·exact .inl hb
   ·exact .inr ⟨rfl,hb⟩
  ·rw[e3 k e]at hb;exact .inl hb
 refine⟨⟨h.tch,?_,?_,?_,?_,h.out,λg hg=>(h.glob g hg).later hl⟩,hl⟩
 ·intro p hp
  obtain⟨q,hq,hqj,rfl⟩:=Er hp
  rcases Gg hq with rfl|⟨q',hq',hqi,rfl⟩
  ·simp only[CK];exact h1
  ·simp only[e3 q'.1 hqi]
   exact(h.own q' hq').kill hx hl (λk hk hkj=>⟨(hin k).2 ⟨hk,hkj⟩,rfl⟩) (hxr _) (Tch.refl [] w) (λ_ _=>by simp)
 ·rw[hids];exact h.nodup.filter _
 ·intro k hk m hm hkm b hb1 hb2
  obtain⟨hk,hkj⟩:=(hin k).1 hk
  obtain⟨hm,hmj⟩:=(hin m).1 hm
  rcases hcov k hk hkj b hb1 with g1|⟨e1,g1⟩<;>rcases hcov m hm hmj b hb2 with g2|⟨e2,g2⟩
  ·exact h.disj k hk m hm hkm b g1 g2
  ·exact h.disj k hk j hj hkj b g1 g2
  ·exact h.disj m hm j hj hmj b g2 g1
  ·exact hkm (e1.trans e2.symm)
 ·intro k hk b hb
  obtain⟨hk,hkj⟩:=(hin k).1 hk
  rcases hcov k hk hkj b hb with g1|⟨_,g1⟩
  ·exact h.new k hk b g1
  ·exact h.new j hj b g1
theorem MI(i j:Nat) {q:Bool} {f:FuncId} {args:List Dat} {K:KD} {E k:Nat} {ds:List Da}(hg:BO i σ=some (Cy M m X).own)(hj:BO j σ=some (.slice E k ds))(hfl:ER ds=true)
  (h:∀u,u.oneCell'=true->BG C q f (EI j (.raw u) args) K (FA j (.raw u) fr) (Dj (BF j (.raw u)) j (Br id i (Cy M m ((u,.list k ds)::X)).own σ))):BG C q f args K fr σ:=by
 unfold BG at h⊢
 rintro B S w0 η φ n a w vs hM ⟨css,hr,rfl⟩
 obtain⟨b,G,hb⟩:=Jo hM.mem hg
 obtain⟨cs,hs,ej,hrj,hkk⟩:=Bn hM.mem hj
 have hi:=AW (B8 hg)
 have hj':=AW (B8 hj)
 have hij:i≠j:=λe=>by rw[e,hj]at hg;cases hg
 have hbj:b∉φ j:=λhm=>hM.mem.disj i hi j hj' hij b ((hb.mem b).2 (.inl rfl)) hm
 have hmore:=NA (w:=w) (G:=G) (G':=G++φ j) (λx hx=>Aq _ hx)
 have hlist:RepC (Hr w (G++φ j)) w (.list k ds) [η j]:=by
  have hlen:=Cc hrj
  have hr2:=Ai.flat (O':=Hr w (G++φ j)) (w':=w) ds cs hfl hrj
  simp only[RepC]
  rcases hs.shape with⟨he,hn⟩|⟨g,cap,he,hc⟩
  ·subst hn
   have:ds=[]:=Aw hlen.symm
   subst this
   exact⟨none,0,[],by rw[he];rfl,by simp,by unfold maxLen;omega,by simp[Ai],by simp,.inl rfl⟩
  ·have hgi:g∈φ j:=by rw[ej,he];simp[Value.ownBlock]
   refine⟨_,cap,cs,by rw[he,hlen],by omega,?_,hr2,hkk,.inr ⟨g,0,rfl,λhm=>(Gh.1 hm).2 (An _ hgi),hs.lt (by rw[he];rfl),FX hs he⟩⟩
   rcases hs.2 with⟨h1,_⟩|⟨_,_,_,h1,_,_,_,h2,_⟩
   ·rw[he]at h1;cases h1
   ·rw[he]at h1;cases h1;exact h2
 have hR:(Cy M m ((η j,.list k ds)::X)).R w (η i) (φ i++φ j):=by
  refine⟨b,G++φ j,hb.val,λx=>?_,λhm=>?_,λx hx=>?_,hb.map,λx hx=>?_,λr hr=>⟨RepC.later hmore _ _ (hb.rows r hr).1,RepC.later hmore _ _ (hb.rows r hr).2⟩⟩
  ·rw[Af,Af,hb.mem]
   constructor
   ·rintro((h|h)|h)
    ·exact .inl h
    ·exact .inr (.inl h)
    ·exact .inr (.inr h)
   ·rintro(h|h|h)
    ·exact .inl (.inl h)
    ·exact .inl (.inr h)
    ·exact .inr h
  ·rcases Af.1 hm with h|h
   ·exact hb.nb h
   ·exact hbj h
  ·rcases Af.1 hx with h|h
   ·exact hb.lt x h
   ·exact hM.mem.lt x (An _ (Bb hj' h))
  ·rcases Ad.1 hx with rfl|hx
   ·exact hlist
   ·exact RepC.later hmore _ _ (hb.ad x hx)
 have hraw:∀O,RepC O w (.raw (η j)) [η j]:=λO=>by simp only[RepC]
 obtain⟨hm2,hl2⟩:=hM.mem.give hi hj' hij (F:=φ i++φ j) (λx=>Af) hR (x:=.raw (η j)) rfl hraw
 have hI:∀x∈Ba σ,x≠j->x∈Ba (Dj (BF j (.raw (η j))) j (Br id i (Cy M m ((η j,.list k ds)::X)).own σ))/\η x=η x:=λx hx hne=>⟨by rw[DW,Bt];exact Bg.2 ⟨hx,by simpa using hne⟩,rfl⟩
 have hk2:=A0.kill (i:=j) (x:=.raw (η j)) rfl hl2 hI (hraw _) args css hr
 exact h (η j) (hM.mem.oneV j hj') B S w0 η _ n a w _ ⟨hm2,hM.fr.kill rfl hl2 hI (hraw _),hM.defers,hM.size⟩ ⟨css,hk2,by rw[Ez rfl]⟩
end
end Go.Proofs.YtjejpdfldmempaaGreatDoor
end
section
namespace Go.Reg
open Go Go.RowKit
section
variable {K V:Type} {P:Program} {encK:K->Value} {encV:V->Value}
def J7(es:List MapEntry)(l:List (K×V))(seen:Array Nat):List (K×V):=((es.zip l).filter (λx=>!seen.contains x.1.born)).map (·.2)
theorem N8 {α:Type}(g:α->Nat)(f:Nat->Bool)(x:α):∀Z:List α,(Z.map g).Nodup->x∈Z->f (g x)=true->(Z.filter (λy=>f (g y))).Perm (x::Z.filter (λy=>f (g y)&&g y !=g x))
 |[],_,hx,_=>by simp at hx
 |
  z::zs,hn,hx,hf=>by
  simp only[Am,C7]at hn
  by_cases hz:x=z
  ·subst hz
   have e:zs.filter (λy=>f (g y)&&g y !=g x)=zs.filter (λy=>f (g y)):=List.filter_congr λy hy=>by
    have:g y≠g x:=λe=>hn.1 (by rw[<-e];exact Av.2 ⟨y,hy,rfl⟩)
    simp[this]
   simp[hf,e]
  ·have hx':x∈zs:=by simp[hz]at hx;exact hx
   have ih:=N8 g f x zs hn.2 hx' hf
   have hne:g z≠g x:=λe=>hn.1 (by rw[e];exact Av.2 ⟨x,hx',rfl⟩)
   by_cases h:f (g z)=true
   ·simp only[List.filter_cons,h,if_true,Bool.true_and,bne_iff_ne,ne_eq,hne,not_false_eq_true]
    exact(ih.cons z).trans (List.Perm.swap x z _)
   ·simp only[List.filter_cons,h,Bool.false_and,Dd,if_false]
    simpa using ih
def DH(encK:K->Value)(encV:V->Value)(w:World)(r b:Nat)(l todo:List (K×V)):Prop:=
 ∃(es:Array MapEntry) (clock since:Nat) (seen:Array Nat) (c0:Nat),w.heap[r]? =some (.mapIter (some b) since seen c0)/\w.heap[b]? =some (.map es clock)/\Holds encK encV es clock l/\since<=c0/\since<=clock/\(∀x∈es.toList,x.born<since)/\todo=J7 es.toList l seen
def KZ(encK:K->Value)(encV:V->Value)(w:World)(r b:Nat)(l todo:List (K×V))(p:K×V):Prop:=
 ∃(es:Array MapEntry) (clock since:Nat) (seen:Array Nat),∃e∈es.toList,w.heap[r]? =some (.mapIter (some b) since (seen.push e.born) clock)/\w.heap[b]? =some (.map es clock)/\Holds encK encV es clock l/\since<=clock/\(∀x∈es.toList,x.born<since)/\
  todo=J7 es.toList l (seen.push e.born)/\e.key=encK p.1/\e.val=encV p.2
variable {w w':World} {r b:Nat} {l todo:List (K×V)} {p:K×V} {S:List Nat}
theorem DH.keep(h:DH encK encV w r b l todo)(t:Tch S w w')(hr:r∉S)(hb:b∉S):DH encK encV w' r b l todo:=by
 obtain⟨es,clock,since,seen,c0,h1,h2,h3⟩:=h
 exact⟨es,clock,since,seen,c0,by rw[t.blk r (Ae.1 h1).1 hr];exact h1,by rw[t.blk b (Ae.1 h2).1 hb];exact h2,h3⟩
theorem KZ.keep(h:KZ encK encV w r b l todo p)(t:Tch S w w')(hr:r∉S)(hb:b∉S):KZ encK encV w' r b l todo p:=by
 obtain⟨es,clock,since,seen,e,he,h1,h2,h3⟩:=h
 exact⟨es,clock,since,seen,e,he,by rw[t.blk r (Ae.1 h1).1 hr];exact h1,by rw[t.blk b (Ae.1 h2).1 hb];exact h2,h3⟩
theorem KZ.iter(h:KZ encK encV w r b l todo p):DH encK encV w r b l todo:=by
 obtain⟨es,clock,since,seen,e,he,h1,h2,h3,h4,h5,h6,_⟩:=h
 exact⟨es,clock,since,_,clock,h1,h2,h3,h4,h4,h5,h6⟩
theorem DH.mapAt(h:DH encK encV w r b l todo):BT encK encV w b l:=by
 obtain⟨es,clock,since,seen,c0,h1,h2,h3,_⟩:=h
 exact BT.holds.2 ⟨es,clock,h2,h3⟩
theorem DH.lt(h:DH encK encV w r b l todo):r<w.heap.size:=by
 obtain⟨es,clock,since,seen,c0,h1,_⟩:=h
 exact(Ae.1 h1).1
theorem DH.ne(h:DH encK encV w r b l todo):r≠b:=by
 obtain⟨es,clock,since,seen,c0,h1,h2,_⟩:=h
 intro e;subst e;rw[h1]at h2;cases h2
theorem MJ {es:List MapEntry}(h:es.Pairwise (λx y=>x.born<y.born)):(es.map (·.born)).Nodup:=by
 rw[List.nodup_iff_pairwise_ne,Fy]
 exact h.imp (λh=>Nat.ne_of_lt h)
theorem BT.range(h:BT encK encV w b l) {t kt e:TypeId}(ht:P.underlying t=some (.map kt e)):
  ∃w',(Instr.range t (.map (some b))).run P w=.ok (.pointer (some ⟨w.heap.size,0,none⟩)) w'/\DH encK encV w' w.heap.size b l l/\Tch [] w w':=by
 obtain⟨es,clock,h2,h3⟩:=BT.holds.1 h
 have hlt:=h.lt
 refine⟨_,run_range_map w t kt e b es clock ht h2,⟨es,clock,clock,#[],clock,(Pe w _).1,((Pe w _).2 b hlt).trans h2,h3,Az _,Az _,h3.clock,?_⟩,Tch.alloc _ _ _⟩
 have:es.toList.length=l.length:=by simpa using congrArg List.length h3.keys
 have e2:=List.map_snd_zip (l₁:=es.toList) (l₂:=l) (Nat.le_of_eq this.symm)
 have e3:(es.toList.zip l).filter (λ_=>true)=es.toList.zip l:=List.filter_eq_self.2 (λ_ _=>rfl)
 simp only[J7,Array.contains_empty,Bool.not_false,e3]
 exact e2.symm
theorem DH.next(h:DH encK encV w r b l todo)(ty:TypeId):
  (todo=[]/\(Instr.next (.pointer (some ⟨r,0,none⟩)) false ty).run P w=.ok (.tuple #[.bool false]) w)\/
  ∃p todo' w',todo.Perm (p::todo')/\(Instr.next (.pointer (some ⟨r,0,none⟩)) false ty).run P w=.ok (.tuple #[.bool true,encK p.1,encV p.2]) w'/\KZ encK encV w' r b l todo' p/\Tch [r] w w':=by
 have hne:=h.ne
 have hrl:=h.lt
 obtain⟨es,clock,since,seen,c0,h1,h2,h3,h4,h4',h5,rfl⟩:=h
 have hlen:es.toList.length=l.length:=by simpa using congrArg List.length h3.keys
 have hfst:(es.toList.zip l).map (·.1)=es.toList:=List.map_fst_zip (Nat.le_of_eq hlen)
 have hbn:((es.toList.zip l).map (λx=>x.1.born)).Nodup:=by
  rw[show(es.toList.zip l).map (λx=>x.1.born)=((es.toList.zip l).map (·.1)).map (·.born)by simp,hfst]
  exact MJ h3.born
 rcases run_next_at (P:=P) w ty r b since c0 seen es clock h1 h2 h5 h4 with⟨h0,hr⟩|⟨e,he,w1,hw1,hr⟩
 ·left
  refine⟨?_,hr⟩
  have h0':es.toList.filter (λe=>!seen.contains e.born)=[]:=by
   rw[<-Array.toList_filter];exact Aw h0
  unfold J7
  rw[List.map_eq_nil_iff,List.filter_eq_nil_iff]
  intro x hx
  have hm:x.1∈es.toList:=by rw[<-hfst];exact Av.2 ⟨x,hx,rfl⟩
  exact List.filter_eq_nil_iff.1 h0' x.1 hm
 ·right
  have he':e∈es.toList/\(!seen.contains e.born)=true:=by
   unfold leftOf at he
   rw[Array.toList_filter,Bg]at he
   exact he
  obtain⟨i,hi⟩:=Lc he'.1
  have hil:i<l.length:=by rw[<-hlen];exact(Ak.1 hi).1
  have hl:l[i]? =some l[i]:=Ab hil
  have hk:e.key=encK (l[i]).1:=by
   have:=congrArg (·[i]?) h3.keys
   simpa[hi,hl]using this
  have hv:e.val=encV (l[i]).2:=by
   have:=congrArg (·[i]?) h3.vals
   simpa[hi,hl]using this
  have hz:(e,l[i])∈es.toList.zip l:=AY (i:=i) (by rw[List.getElem?_zip_eq_some];exact⟨hi,hl⟩)
  have hp:=N8 (λx:MapEntry×(K×V)=>x.1.born) (λn=>!seen.contains n) (e,l[i]) (es.toList.zip l) hbn hz he'.2
  have hw1b:∀k:Nat,w1.heap[k]? =w.heap[k]? :=by rcases hw1 with rfl|rfl<;>exactλ_=>rfl
  have hsz:w1.heap.size=w.heap.size:=by rcases hw1 with rfl|rfl<;>rfl
  refine⟨l[i],J7 es.toList l (seen.push e.born),_,?_,by rw[<-hk,<-hv];exact hr,⟨es,clock,since,seen,e,he'.1,?_,?_,h3,h4',h5,rfl,hk,hv⟩,?_⟩
  ·have:=hp.map (·.2)
   unfold J7
   refine this.trans (List.Perm.of_eq ?_)
   simp only[Am]
   congr 2
   refine List.filter_congr λx _=>?_
   rw[Array.contains_push,Bool.not_or]
   congr 1
  ·simp[ChangeMaps.setBlock,hsz,hrl]
  ·simp[ChangeMaps.setBlock,Array.getElem?_setIfInBounds_ne hne,hw1b,h2]
  ·have ht:Tch [r] w w1:=by rcases hw1 with rfl|rfl<;>first|exact Tch.refl _ _|exact Tch.drew _ _
   exact ht.trans0 (HS w1 r _)
theorem KZ.entry(h:KZ encK encV w r b l todo p):(Instr.entry (.pointer (some ⟨r,0,none⟩))).run P w=.ok (.tuple #[encK p.1,encV p.2]) w:=by
 obtain⟨es,clock,since,seen,e,he,h1,h2,h3,h4,h5,h6,hk,hv⟩:=h
 rw[run_entry_at w r b since seen es clock e h1 h2 he (MJ h3.born),hk,hv]
end
end Go.Reg
end
section
namespace Go.Proofs.YtjejpdfldmempaaGreatDoor
open Go Go.Sx Go.RowKit Go.Reg Go.Gr
inductive Ph where
 |it (todo:List (ByteArray×RowV))
 |on (todo:List (ByteArray×RowV)) (p:ByteArray×RowV)
def Ph.At {P:Program}(M:MapE P ByteArray RowV)(w:World)(r b:Nat)(m:List (ByteArray×RowV)):Ph->Prop
 |.it todo=>DH M.encK M.encV w r b m todo
 |.on todo p=>KZ M.encK M.encV w r b m todo p
theorem Ph.At.keep {P:Program} {M:MapE P ByteArray RowV} {w w':World} {S:List Nat} {r b:Nat} {m:List (ByteArray×RowV)} {ph:Ph}(h:ph.At M w r b m)(t:Tch S w w')(hr:r∉S)(hb:b∉S):ph.At M w' r b m:=by
 cases ph with
 |it todo=>exact DH.keep h t hr hb
 |on todo p=>exact KZ.keep h t hr hb
theorem Ph.At.iter {P:Program} {M:MapE P ByteArray RowV} {w:World} {r b:Nat} {m:List (ByteArray×RowV)} {ph:Ph}(h:ph.At M w r b m):∃todo,DH M.encK M.encV w r b m todo:=by
 cases ph with
 |it todo=>exact⟨_,h⟩
 |on todo p=>exact⟨_,KZ.iter h⟩
structure RowsI {P:Program}(M:MapE P ByteArray RowV)(m:List (ByteArray×RowV))(r:Nat)(ph:Ph)(w:World)(v:Value)(F:List Nat)(b:Nat)(G:List Nat):Prop where
 val:v=.map (some b)
 mem:∀x,x∈F↔x=b\/x=r\/x∈G
 nb:b∉G
 nr:r∉G
 lt:∀x∈F,x<w.heap.size
 at_:ph.At M w r b m
 rows:∀q∈m,RepC (Hr w G) w (D1 q.2.p.labels) [q.2.lv]/\RepC (Hr w G) w (Ip q.2.p.edges) [q.2.ev]
def Fp {P:Program}(M:MapE P ByteArray RowV)(m:List (ByteArray×RowV))(r:Nat)(ph:Ph):Absn where
 R w v F:=∃b G,RowsI M m r ph w v F b G
 keep:=by
  rintro S w w' v F ⟨b,G,h⟩ t hd
  have hG:∀x∈G,x∉S:=λx hx=>hd x ((h.mem x).2 (.inr (.inr hx)))
  have hl:=Fq t hG
  exact⟨b,G,h.val,h.mem,h.nb,h.nr,λx hx=>Bw (h.lt x hx) t.size,h.at_.keep t (hd r ((h.mem r).2 (.inr (.inl rfl)))) (hd b ((h.mem b).2 (.inl rfl))),λq hq=>⟨RepC.later hl _ _ (h.rows q hq).1,RepC.later hl _ _ (h.rows q hq).2⟩⟩
 lt:=by rintro w v F ⟨b,G,h⟩ x hx;exact h.lt x hx
 one:=by rintro w v F ⟨b,G,h⟩;rw[h.val];rfl
section
variable {C:Cx} {n kd:Nat} {fr:Fr} {σ:Sg} {o:Oper} {K:Fr->Sg->Prop} {M:MapE C.P ByteArray RowV} {m:List (ByteArray×RowV)} {X:List (Value×Da)}
theorem JH {B S:List Nat} {w0 w:World} {η:Nat->Value} {φ:Nat->List Nat}(hm:Mem C B S w0 σ η φ w) {i r:Nat} {ph:Ph}(hg:BO i σ=some (Fp M m r ph).own):∃b G,RowsI M m r ph w (η i) (φ i) b G:=hm.own _ (B8 hg)
theorem PU(i:Nat) {x:Operand}(ho:o.op=.range M.t x)(hx:ev C.Γ fr x=.own i)(hg:BO i σ=some (Cy M m X).own)(hkd:kd≠5/\kd≠2/\kd≠0)(hd:Db o.dst n=true)
  (hK:∀r,C0 (Br id i (Fp M m r (.it m)).own σ) λσ=>K (Ca o.dst (.d (.raw (.pointer (some ⟨r,0,none⟩)))) fr) σ):AL C n kd o K fr σ:=by
 refine Ef hkd.1 hkd.2.1 λB S w0 η φ a w hM=>⟨λe=>absurd e hkd.2.2,.inl ?_⟩
 have e1:=O9 (AM hM x) hx
 obtain⟨b,G,h⟩:=Jo hM.mem hg
 obtain⟨w',hr,hI,ht⟩:=h.map.range (P:=C.P) (t:=M.t) M.ht
 have hk:=hK w.heap.size
 rw[B4]at hk
 have hi:=AW (B8 hg)
 have hF:∀c∈φ i++[w.heap.size],c∈φ i\/w.heap.size<=c:=λc hc=>by
  rcases Af.1 hc with hc|hc
  ·exact .inl hc
  ·exact .inr (by rw[A7.1 hc];exact Az _)
 have hX:∀c∈([]:List Nat),c∈φ i:=λc hc=>by cases hc
 have hlo:=Fq ht (G:=G) (λx _ hb=>by cases hb)
 have hl:=Later.turn (σ:=σ) B ht hX hi hF id (Fp M m w.heap.size (.it m)).own
 have hmm:=hM.mem.turnSame ht hX hi hF (o:=(Fp M m w.heap.size (.it m)).own) ⟨b,G,h.val,λx=>by
   rw[Af,h.mem,A7]
   constructor
   ·rintro((h|h)|h)
    ·exact .inl h
    ·exact .inr (.inr h)
    ·exact .inr (.inl h)
   ·rintro(h|h|h)
    ·exact .inl (.inl h)
    ·exact .inr h
    ·exact .inl (.inr h),h.nb,λhm=>by have:=h.lt _ ((h.mem _).2 (.inr hm));omega,λx hx=>by
   rcases Af.1 hx with hx|hx
   ·exact Bw (h.lt x hx) ht.size
   ·rw[A7.1 hx];exact hI.lt,hI,λq hq=>⟨RepC.later hlo _ _ (h.rows q hq).1,RepC.later hlo _ _ (h.rows q hq).2⟩⟩
 have M':Models C B S w0 n fr _ η _ a w':=⟨hmm,hM.fr.later hl (λj hj=>⟨by rw[Bt];exact hj,rfl⟩),hM.defers,hM.size⟩
 refine⟨.pointer (some ⟨w.heap.size,0,none⟩),w',?_,_,_,_,_,M'.put hd ⟨[.pointer (some ⟨w.heap.size,0,none⟩)],by simp only[Ay,RepC],rfl⟩,hk⟩
 simp only[execOp,ho]
 rw[e1,h.val]
 exact C2 hr
theorem R2(i r:Nat) {todo:List (ByteArray×RowV)} {x:Operand} {ty:TypeId}(ho:o.op=.next x false)(hty:o.type=ty)(hx:ev C.Γ fr x=.d (.raw (.pointer (some ⟨r,0,none⟩))))(hg:BO i σ=some (Fp M m r (.it todo)).own)(hkd:kd≠5/\kd≠2/\kd≠0)(hd:Db o.dst n=true)
  (h1:todo=[]->C0 (Br id i (Cy M m []).own σ) λσ=>K (Ca o.dst (.d (.tuple [.bool false])) fr) σ)
  (h2:∀p todo',todo.Perm (p::todo')->C0 (Br id i (Fp M m r (.on todo' p)).own σ) λσ=>K (Ca o.dst (.d (.tuple [.bool true,.undef,.undef])) fr) σ):AL C n kd o K fr σ:=by
 refine Ef hkd.1 hkd.2.1 λB S w0 η φ a w hM=>⟨λe=>absurd e hkd.2.2,.inl ?_⟩
 obtain⟨cs,g1,e1⟩:=Ex (AM hM x) hx
 simp only[RepC]at g1
 subst g1
 obtain⟨b,G,h⟩:=JH hM.mem hg
 have hi:=AW (B8 hg)
 have hF:∀c∈φ i,c∈φ i\/w.heap.size<=c:=λc hc=>.inl hc
 have hI:DH M.encK M.encV w r b m todo:=h.at_
 rcases hI.next (P:=C.P) ty with⟨h0,hr⟩|⟨p,todo',w',hp,hr,hon,ht⟩
 ·have hk:=h1 h0
  rw[B4]at hk
  have ht:=Tch.refl [] w
  have hX:∀c∈([]:List Nat),c∈φ i:=λc hc=>by cases hc
  have hl:=Later.turn (σ:=σ) B ht hX hi hF id (Cy M m []).own
  have hmo:=NA (w:=w) (G:=G) (G':=r::G) (λx hx=>AK _ hx)
  have hmm:=hM.mem.turnSame ht hX hi hF (o:=(Cy M m []).own) ⟨b,r::G,h.val,λx=>by rw[h.mem,Ad],λhm=>by
    rcases Ad.1 hm with e|e
    ·exact hI.ne e.symm
    ·exact h.nb e,h.lt,hI.mapAt,λx hx=>(by cases hx),λq hq=>⟨RepC.later hmo _ _ (h.rows q hq).1,RepC.later hmo _ _ (h.rows q hq).2⟩⟩
  have M':Models C B S w0 n fr _ η _ a w:=⟨hmm,hM.fr.later hl (λj hj=>⟨by rw[Bt];exact hj,rfl⟩),hM.defers,hM.size⟩
  refine⟨.tuple #[.bool false],w,?_,_,_,_,_,M'.put hd ⟨[.tuple #[.bool false]],?_,rfl⟩,hk⟩
  ·simp only[execOp,ho,hty]
   rw[e1]
   exact C2 hr
  ·simp only[Ay,RepC,Ai]
   exact⟨[[.bool false]],⟨_,_,rfl,rfl,rfl⟩,rfl⟩
 ·have hk:=h2 p todo' hp
  rw[B4]at hk
  have hX:∀c∈[r],c∈φ i:=λc hc=>by rw[A7.1 hc];exact(h.mem r).2 (.inr (.inl rfl))
  have hlo:=Fq ht (G:=G) (λx hx hb=>h.nr (by rw[<-A7.1 hb];exact hx))
  have hl:=Later.turn (σ:=σ) B ht hX hi hF id (Fp M m r (.on todo' p)).own
  have hmm:=hM.mem.turnSame ht hX hi hF (o:=(Fp M m r (.on todo' p)).own) ⟨b,G,h.val,h.mem,h.nb,h.nr,λx hx=>Bw (h.lt x hx) ht.size,hon,λq hq=>⟨RepC.later hlo _ _ (h.rows q hq).1,RepC.later hlo _ _ (h.rows q hq).2⟩⟩
  have M':Models C B S w0 n fr _ η _ a w':=⟨hmm,hM.fr.later hl (λj hj=>⟨by rw[Bt];exact hj,rfl⟩),hM.defers,hM.size⟩
  refine⟨.tuple #[.bool true,M.encK p.1,M.encV p.2],w',?_,_,_,_,_,M'.put hd ⟨[.tuple #[.bool true,M.encK p.1,M.encV p.2]],?_,rfl⟩,hk⟩
  ·simp only[execOp,ho,hty]
   rw[e1]
   exact C2 hr
  ·simp only[Ay,RepC,Ai]
   exact⟨[[.bool true],[M.encK p.1],[M.encV p.2]],⟨_,_,rfl,rfl,_,_,rfl,⟨_,rfl⟩,_,_,rfl,⟨_,rfl⟩,rfl⟩,rfl⟩
theorem PV(i r:Nat) {todo:List (ByteArray×RowV)} {p:ByteArray×RowV} {x:Operand}(ho:o.op=.entry x)(hx:ev C.Γ fr x=.d (.raw (.pointer (some ⟨r,0,none⟩))))(hg:BO i σ=some (Fp M m r (.on todo p)).own)(hkd:kd≠5/\kd≠2/\kd≠0)(hd:Db o.dst n=true)
  (hK:C0 (Br id i (Fp M m r (.it todo)).own σ) λσ=>K (Ca o.dst (.d (.tuple [.undef,M.dV p.2])) fr) σ):AL C n kd o K fr σ:=by
 rw[B4]at hK
 refine Ef hkd.1 hkd.2.1 λB S w0 η φ a w hM=>⟨λe=>absurd e hkd.2.2,.inl ?_⟩
 obtain⟨cs,g1,e1⟩:=Ex (AM hM x) hx
 simp only[RepC]at g1
 subst g1
 obtain⟨b,G,h⟩:=JH hM.mem hg
 have hon:KZ M.encK M.encV w r b m todo p:=h.at_
 have hi:=AW (B8 hg)
 have hF:∀c∈φ i,c∈φ i\/w.heap.size<=c:=λc hc=>.inl hc
 have ht:=Tch.refl [] w
 have hX:∀c∈([]:List Nat),c∈φ i:=λc hc=>by cases hc
 have hl:=Later.turn (σ:=σ) B ht hX hi hF id (Fp M m r (.it todo)).own
 have hmm:=hM.mem.turnSame ht hX hi hF (o:=(Fp M m r (.it todo)).own) ⟨b,G,h.val,h.mem,h.nb,h.nr,h.lt,hon.iter,h.rows⟩
 have M':Models C B S w0 n fr _ η _ a w:=⟨hmm,hM.fr.later hl (λj hj=>⟨by rw[Bt];exact hj,rfl⟩),hM.defers,hM.size⟩
 obtain⟨cs,g1,g2⟩:=M.ofV (B++Ah (Dy φ i (φ i)) (Br id i (Fp M m r (.it todo)).own σ)) w p.2
 refine⟨.tuple #[M.encK p.1,M.encV p.2],w,?_,_,_,_,_,M'.put hd ⟨[.tuple #[M.encK p.1,M.encV p.2]],?_,rfl⟩,hK⟩
 ·simp only[execOp,ho]
  rw[e1]
  exact C2 hon.entry
 ·simp only[Ay,RepC,Ai]
  exact⟨[[M.encK p.1],cs],⟨_,_,rfl,⟨_,rfl⟩,cs,[],rfl,g1,rfl⟩,by simp[g2,EB]⟩
theorem N1 {B S:List Nat} {w0 w:World} {η:Nat->Value} {φ:Nat->List Nat}(hm:Mem C B S w0 σ η φ w) {i r:Nat} {ph:Ph}(hg:BO i σ=some (Fp M m r ph).own) {q:ByteArray×RowV}(hq:q∈m):RepC [] w (D1 q.2.p.labels) [q.2.lv]/\RepC [] w (Ip q.2.p.edges) [q.2.ev]:=by
 obtain⟨b,G,h⟩:=JH hm hg
 have hl:Later (Hr w G) w [] w:=⟨Az _,λ_ _ _=>rfl,λ_ _ _ h=>by cases h⟩
 exact⟨RepC.later hl _ _ (h.rows q hq).1,RepC.later hl _ _ (h.rows q hq).2⟩
theorem MG {E k:Nat}(j:Nat) {q:Bool} {f:FuncId} {u:Value} {x:Da} {L:List Da} {K:KD}(hj:BO j σ=none)(hx1:x.one=true)(hx:∀{B S:List Nat} {w0 w:World} {η:Nat->Value} {φ:Nat->List Nat},Mem C B S w0 σ η φ w->RepC [] w x [u])(hp:DF C f [x] E k (λds=>ds=L))(hfl:ER L=true)(hK:C0 (G9 j (.slice E k L) σ) λσ=>K (.own j) fr σ):BG C q f [.d (.raw u)] K fr σ:=by
 unfold BG
 rintro B S w0 η φ n a w vs hM ⟨css,hr,rfl⟩
 simp only[A0,Ay,RepC]at hr
 obtain⟨_,_,rfl,rfl,rfl⟩:=hr
 have hgl:Glob C [] w:=λg hg=>(hM.mem.glob g hg).later ⟨Az _,λ_ _ _=>rfl,λ_ _ _ h=>by cases h⟩
 have e:List.zipWith Bo [.d (.raw u)] [[u]]=[u]:=rfl
 rw[e]
 obtain⟨g1,g2⟩:=hp [] w [u] (λb hb=>by cases hb) hgl ⟨[[u]],by simp only[Ai];exact⟨_,_,rfl,hx hM.mem,rfl⟩,by simp[RV hx1]⟩
 refine⟨g1,g2.mono ?_⟩
 rintro e w' ⟨v,cs2,ds,rfl,rfl,hs,hb,hr2,hk,ht⟩
 obtain⟨d,fr',σ',η',φ',x1,x2,x3⟩:=Qf hM hj hs hb (O:=B++(v.ownBlock.toList++Ah φ σ)) (λO'=>.inl (Ai.flat _ cs2 hfl hr2)) rfl hk ht hK
 exact⟨v,d,fr',σ',η',φ',rfl,x1,x2,x3,λ_=>ht.ext⟩
theorem Yk {T:ED} {fr1:Fr} {σ1:Sg}(hC:C.Ok T) {G:List FuncId}(t:Nat) {a b c:Da}(hf:Lo fr σ fr1 σ1)(e:Sx.get fr1 t=.agg [.agg [.d a,.d b],.d c])(hks:Cp C.P G o=kd\/kd=3)(h:Om C T n kd o K ((t,.d (.agg [.agg [a,b],c]))::fr1) σ1):AL C n kd o K fr σ:=by
 have h:=IZ hC hks h
 unfold AL at h⊢
 intro B S w0 η φ ac w hM
 obtain⟨η1,φ1,hM1⟩:=hf.models hM
 refine h B S w0 η1 φ1 ac w ⟨hM1.mem,λs=>?_,hM1.defers,hM1.size⟩
 simp only[Sx.get]
 rcases Bi t s with⟨hb,e2⟩|⟨hb,_⟩<;>rw[hb]
 ·subst e2
  obtain⟨cs,r1,r2⟩:=hM1.fr t
  rw[e]at r1 r2
  refine⟨cs,?_,r2⟩
  simp only[Ay,AI,RepC,RepCs]at r1⊢
  exact r1
 ·exact hM1.fr s
end
end Go.Proofs.YtjejpdfldmempaaGreatDoor
end
section
namespace Go.Sx
open Go Go.RowKit Go.Reg
section
variable {C:Cx} {T:ED} {fr:Fr} {σ:Sg}
theorem MH {E k:Nat}(j:Nat) {q:Bool} {f:FuncId} {args:List Dat} {xs L:List Da} {K:KD}(hj:BO j σ=none)(ha:Eu args=some xs)(hp:DF C f xs E k (λds=>ds=L))(hK:C0 (G9 j (.slice E k L) σ) λσ=>K (.own j) fr σ):BG C q f args K fr σ:=
 Ko j hj ha hp λds h=>by subst h;exact hK
end
end Go.Sx
end
section
namespace Go.Reg
open Go Go.RowKit
theorem VO(a b:ByteArray):(@BEq.beq ByteArray ByteArray.instBEq a b)=decide (a=b):=by
 obtain⟨x⟩:=a
 obtain⟨y⟩:=b
 show(x==y)=_
 by_cases h:x=y
 ·subst h;simp
 ·have:¬(ByteArray.mk x=ByteArray.mk y):=λe=>h (by injection e)
  simp[h]
theorem PB(a b:ByteArray):Instr.sameNow .string (.string a) (.string b)=some (decide (a=b)):=by
 show some (@BEq.beq ByteArray ByteArray.instBEq a b)=_
 rw[VO]
theorem KG(k:ByteArray):∀(es:List MapEntry) (ks:List ByteArray) (j:Nat),es.map (·.key)=ks.map Value.string->Instr.findNow .string (.string k) es j=some ((ks.findIdx? (λx=>decide (x=k))).bind λi=>(es[i]?).map λe=>(j+i,e.val))
 |[],[],j,_=>by simp[Instr.findNow]
 |[],k'::ks,j,h=>by simp at h
 |e::es,[],j,h=>by simp at h
 |
  e::es,k'::ks,j,h=>by
  simp only[Am,Co]at h
  have ih:=KG k es ks (j+1) h.2
  have hs:Instr.sameNow .string (.string k) e.key=some (decide (k=k')):=by rw[h.1];exact PB k k'
  by_cases hk:k=k'
  ·subst hk
   simp[Instr.findNow,hs,List.findIdx?_cons]
  ·have h2:¬k'=k:=λh=>hk h.symm
   simp only[Instr.findNow,hs,List.findIdx?_cons,hk,h2,decide_false,Dd,if_false,ih]
   cases ks.findIdx? (λx=>decide (x=k))with
   |none=>rfl
   |some i=>simp[Ev,Nat.add_comm 1 i]
theorem KeyOk.of_string {P:Program} {kt:TypeId}(hu:P.underlying kt=some .string)(hchk:∀em k w,(Instr.checkKey em 10000 kt (.string k)).run P w=.ok () w):KeyOk P kt Value.string:=by
 refine⟨hchk,λk es ks w h=>?_,λk w=>?_⟩
 ·simp only[Instr.findKey,Ar,run_underlying hu,Ap]
  rw[KG k es ks 0 h]
  simp
  rfl
 ·have:Instr.sameBits 10000 (.string k) (.string k)=true:=by
   show @BEq.beq ByteArray ByteArray.instBEq k k=true
   rw[VO];simp
  simp[Instr.keyThatStays,this]
end Go.Reg
namespace Go.Proofs.YtjejpdfldmempaaGreatDoor
open Go.Sx Go.RowKit Go.Reg Go.Gr
set_option maxRecDepth 100000
def En:MapE Tryz.prog ByteArray RowV where
 t:=104
 kt:=9
 et:=100
 encK:=.string
 encV r:=.agg #[r.lv,r.ev,.int .i64 r.n]
 dK s:=.str s
 dV r:=.agg [.agg [.raw r.lv,.raw r.ev],.int .i64 r.n]
 z:=⟨.slice none 0 0,.slice none 0 0,0,⟨[],[]⟩,rfl,rfl⟩
 ht:=Tryz.underlying104
 hk:=KeyOk.of_string Tryz.underlying9 (λem k w=>by kernel_rfl)
 hz:=by intro w;kernel_rfl
 repK:=by rintro O w k v h;exact O6 h
 repV:=by
  rintro O w r v ⟨cs,h,rfl⟩
  simp only[RepC,RepCs]at h
  obtain⟨_,_,rfl,⟨_,_,rfl,rfl,_,_,rfl,rfl,rfl⟩,_,_,rfl,rfl,rfl⟩:=h
  rfl
 ofV:=by
  rintro O w r
  refine⟨[r.lv,r.ev,.int .i64 r.n],?_,rfl⟩
  simp only[RepC,RepCs]
  exact⟨[r.lv,r.ev],_,rfl,⟨[r.lv],_,rfl,rfl,[r.ev],_,rfl,rfl,rfl⟩,_,_,rfl,rfl,rfl⟩
theorem NI(a b:Int)(ha:0<=a)(hb:0<=b)(hs:a+b<=9223372036854775807):Pure C1 62 [.int .i64 a,.int .i64 b] (λy=>y=.tuple [.int .i64 (a+b),.nili]):=by
 refine CI Tryz.func62 Tryz.ntmps62 [] [] ?_
 by_cases h:b=0
 ·subst h
  (conv=>whnf)
  (repeat' ((first|refine A6 ?_ ?_|refine Zp ?_|refine nx ?_|refine AX (λ_=>?_) (λ_=>?_)|exact Bj)<;>conv=>whnf))
  exact rfl
 ·(conv=>whnf)
  (repeat' ((first|refine A6 ?_ ?_|refine Zp ?_|refine nx ?_|refine AX (λ_=>?_) (λ_=>?_)|exact Bj)<;>conv=>whnf))
  exact rfl
theorem NX(l:List Edg)(hl:l.length<=2000000000):DF C1 61 [Ip l] 103 2 (λds=>ds=l.map dE):=by
 have hlm:(l.map dE).length=l.length:=Ac _
 refine X0 Tryz.func61 Tryz.ntmps61 [] [] ?_
 cases l with
 |
  nil=>
  ((conv=>whnf);repeat' ((first|refine odw ?_|refine nx ?_|refine AX (λ_=>?_) (λ_=>?_))<;>conv=>whnf))
  refine Sq rfl Tryz.underlying29 rfl rfl (.inr rfl) rfl ?_
  intro b
  cases b<;>((conv=>whnf);repeat' ((first|refine odw ?_|refine nx ?_|refine AX (λ_=>?_) (λ_=>?_))<;>conv=>whnf))
  ·exact⟨rfl,rfl,rfl⟩
  ·exact rfl
 |
  cons x l=>
  have hlm2:(([]:List Da).length+((x::l).map dE).length)<=4294967296:=by rw[hlm];simp at hl⊢;omega
  ((conv=>whnf);repeat' ((first|refine odw ?_|refine nx ?_|refine AX (λ_=>?_) (λ_=>?_))<;>conv=>whnf))
  all_goals first|exact⟨rfl,rfl,rfl⟩|(refine Ih hlm2 ?_;((conv=>whnf);repeat' ((first|refine odw ?_|refine nx ?_|refine AX (λ_=>?_) (λ_=>?_))<;>conv=>whnf));exact⟨rfl,rfl,by simp⟩)
theorem DF.up3 {f:FuncId} {xs:List Da} {E k:Nat} {Q:List Da->Prop}(h:DF C1 f xs E k Q):DF C3 f xs E k Q:=λO w us h1 h2 h3=>h O w us h1 (λg hg=>h2 g (Aq _ hg)) h3
def sT(m:List (ByteArray×RowV))(X:List (Value×Da)):Sg:=[(900,.cells 106 [.own 901]),(901,(Cy En m X).own)]
def Sj:List (Nat×Plan):=[]
def VZ:List FuncId:=[]
theorem VH:BA Tryz.prog VZ Sj (Tryz.f11.body.getD .skip)=true:=by kernel_rfl
theorem UJ(vs:Array Value)(w:World):(callFunc 11 vs).run C1.P w=.ok (.enter 11 vs) w:=by kernel_rfl
theorem Gz:BH C3 11 [] [] [] (λd σ=>d=.own 900/\σ=sT [] []):=by
 refine D9 Dc (pl:=Sj) (G:=VZ) Tryz.func11 rfl Tryz.ntmps11 UJ VH (by simp) 999 rfl ?_
 intro vs
 (conv=>whnf)
 (repeat' ((first|refine A6 ?_ ?_|refine R3 En 1 rfl rfl (by decide) rfl ?_|refine nx ?_|refine AX (λ_=>?_) (λ_=>?_)|exact Bj)<;>conv=>whnf))
 exact⟨_,_,[(3,900),(1,901)],[(3,_),(1,_)],.lo (.refl _ _),rfl,⟨rfl,rfl,trivial⟩,rfl,rfl,rfl⟩
structure TextOk(p:Pt):Prop where
 right:FL p=.nili
 len:p.labels.length<=1000
 lab:∀x∈p.labels,0<=x/\x<=999999
 elen:p.edges.length<=1000
 edg:∀e∈p.edges,(0<=e.a/\e.a<=999999)/\0<=e.b/\e.b<=999999
def Lh:List (Nat×Plan):=[(11,.leaf [0,1,2,0,1,2,0,0,3] [0,3,1,4,2,5,6,7,8] [0,1,3,0,8,31,63,127,255]),
 (16,.leaf [0,0,0,1,0,1,3] [0,1,2,4,3,5,6] [0,1,3,7,0,0,63])]
def Pg:List FuncId:=[60,61]
theorem MA:BA Tryz.prog Pg Lh (Tryz.f16.body.getD .skip)=true:=by kernel_rfl
theorem LH(vs:Array Value)(w:World):(callFunc 16 vs).run C1.P w=.ok (.enter 16 vs) w:=by kernel_rfl
theorem Uu(m:List (ByteArray×RowV))(X:List (Value×Da))(p:Pt)(n:Int)(r:RowV)(hp:TextOk p)(hn:0<=n)(hr:Reg.get m (bs (Ep p))=some r)(hr0:0<=r.n)(hs:r.n+n<=9223372036854775807):
  BH C3 16 [.own 900,.d (Fv p),.d (.int .i64 n)] (sT m X) [900] (λd σ=>d=.d .nili/\σ=sT (put m (bs (Ep p)) {r with n:=r.n+n}) X):=by
 have hri:=Pure.up3 (DA p (by have:=hp.len;omega) (by have:=hp.elen;omega))
 rw[hp.right]at hri
 have htx:=LN p hp.len hp.lab hp.elen hp.edg
 have had:=Pure.up3 (NI r.n n hr0 hn hs)
 have hmem:(bs (Ep p),r)∈m:=by
  unfold Reg.get at hr
  obtain⟨q,hq,e⟩:=BP.1 hr
  have h1:=List.mem_of_find?_eq_some hq
  have h2:=List.find?_some hq
  have h3:q.1=bs (Ep p):=by simpa using h2
  have:q=(bs (Ep p),r):=by rw[<-h3,<-e]
  rw[<-this];exact h1
 have hlk:((Reg.get m (bs (Ep p))).getD En.z,(Reg.get m (bs (Ep p))).isSome)=(r,true):=by rw[hr];rfl
 refine D9 Dc (pl:=Lh) (G:=Pg) Tryz.func16 rfl Tryz.ntmps16 LH MA (by simp) 999 rfl ?_
 intro vs
 (conv=>whnf)
 (repeat' ((first|refine A6 ?_ ?_|refine A8 rfl hri ?_|refine A8 rfl htx ?_|refine LY 901 (bs (Ep p)) rfl rfl rfl rfl ⟨by decide,by decide⟩ rfl hlk ?_|refine Hu Dc 9 rfl rfl rfl rfl rfl rfl rfl r.h1 r.h2 ⟨by decide,by decide⟩ rfl ?_|refine A8 rfl had ?_|refine ND (M:=En) 901 (bs (Ep p)) {r with n:=r.n+n} rfl rfl rfl rfl (λh=>En.repV _ _ _ _ (Ex h rfl)) (λ_ _ _ h=>h _ hmem) ⟨by decide,by decide,by decide⟩ rfl ?_|refine nx ?_|refine AX (λ_=>?_) (λ_=>?_)|exact Bj)<;>conv=>whnf))
 exact⟨_,_,[],sT _ X,.lo (.refl _ _),rfl,⟨rfl,rfl,trivial⟩,rfl,rfl,rfl⟩
theorem Uv(m:List (ByteArray×RowV))(X:List (Value×Da))(p:Pt)(n:Int)(hp:TextOk p)(hn:0<=n/\n<=9223372036854775807)(hr:Reg.get m (bs (Ep p))=none):
  BH C3 16 [.own 900,.d (Fv p),.d (.int .i64 n)] (sT m X) [900] (λd σ=>∃r:RowV,(r.n=n/\r.p=p)/\d=.d .nili/\σ=sT (put m (bs (Ep p)) r) ((r.ev,Ip p.edges)::(r.lv,D1 p.labels)::X)):=by
 have hri:=Pure.up3 (DA p (by have:=hp.len;omega) (by have:=hp.elen;omega))
 rw[hp.right]at hri
 have htx:=LN p hp.len hp.lab hp.elen hp.edg
 have had:=Pure.up3 (NI 0 n (by omega) hn.1 (by omega))
 rw[Int.zero_add]at had
 have hlk:((Reg.get m (bs (Ep p))).getD En.z,(Reg.get m (bs (Ep p))).isSome)=(En.z,false):=by rw[hr];rfl
 have hc1:=DF.up3 (MD p.labels (by have:=hp.len;omega))
 have hc2:=DF.up3 (NX p.edges (by have:=hp.elen;omega))
 have hf1:ER (p.labels.map dI)=true:=Fe dI (λ_=>rfl) _
 have hf2:ER (p.edges.map dE)=true:=Fe dE (λ_=>rfl) _
 refine D9 Dc (pl:=Lh) (G:=Pg) Tryz.func16 rfl Tryz.ntmps16 LH MA (by simp) 999 rfl ?_
 intro vs
 (conv=>whnf)
 (repeat' ((first|refine A6 ?_ ?_|refine A8 rfl hri ?_|refine A8 rfl htx ?_|refine LY 901 (bs (Ep p)) rfl rfl rfl rfl ⟨by decide,by decide⟩ rfl hlk ?_|refine Hu Dc 9 rfl rfl rfl rfl rfl rfl rfl rfl rfl ⟨by decide,by decide⟩ rfl ?_|refine MH 39 rfl rfl hc1 ?_|refine MH 42 rfl rfl hc2 ?_|refine nx ?_|refine AX (λ_=>?_) (λ_=>?_)|exact Bj)<;>conv=>whnf))
 refine MI 901 39 rfl rfl hf1 ?_
 intro u1 hu1
 (conv=>whnf)
 refine MI 901 42 rfl rfl hf2 ?_
 intro u2 hu2
 (conv=>whnf)
 (repeat' ((first|refine A6 ?_ ?_|refine A8 rfl had ?_|refine ND (M:=En) 901 (bs (Ep p)) ⟨u1,u2,n,p,hu1,hu2⟩ rfl rfl rfl rfl (λh=>Yb h) (λ_ _ h _=>⟨h (u1,_) (by simp),h (u2,_) (by simp)⟩) ⟨by decide,by decide,by decide⟩ rfl ?_|refine nx ?_|refine AX (λ_=>?_) (λ_=>?_)|exact Bj)<;>conv=>whnf))
 exact⟨_,_,[],sT _ _,.lo (.refl _ _),rfl,⟨rfl,rfl,trivial⟩,rfl,⟨u1,u2,n,p,hu1,hu2⟩,⟨rfl,rfl⟩,rfl,rfl⟩
end Go.Proofs.YtjejpdfldmempaaGreatDoor
end
section
namespace Go.Proofs
open Go.Shelf
def Tryz.sortE_ren:Go.Shelf.Ren:=⟨λ|6=>58|15=>104|14=>103|28=>153|29=>154|20=>145|21=>146|22=>147|23=>148|24=>149|25=>150|26=>151|27=>152|46=>210|47=>211|48=>212|49=>213|50=>214|57=>245|n=>n,λ|22=>29|24=>103|25=>111|3=>3|39=>177|0=>0|53=>184|55=>186|4=>4|46=>218|45=>217|50=>222|5=>5|9=>9|66=>281|70=>285|76=>313|77=>138|n=>n,λ|n=>n⟩
theorem Tryz.sortE:Go.Proofs.SlLaysF0.n6 Tryz.prog Tryz.sortE_ren:={
 mixed:=by kernel_rfl
 f6:=⟨Tryz.f58.name,by decide,Tryz.func58.trans (congrArg some (by kernel_rfl))⟩
 f14:=⟨Tryz.f103.name,by decide,Tryz.func103.trans (congrArg some (by kernel_rfl))⟩
 f15:=Tryz.func104.trans (congrArg some (by kernel_rfl))
 f20:=⟨Tryz.f145.name,by decide,Tryz.func145.trans (congrArg some (by kernel_rfl))⟩
 f21:=⟨Tryz.f146.name,by decide,Tryz.func146.trans (congrArg some (by kernel_rfl))⟩
 f22:=⟨Tryz.f147.name,by decide,Tryz.func147.trans (congrArg some (by kernel_rfl))⟩
 f23:=⟨Tryz.f148.name,by decide,Tryz.func148.trans (congrArg some (by kernel_rfl))⟩
 f24:=⟨Tryz.f149.name,by decide,Tryz.func149.trans (congrArg some (by kernel_rfl))⟩
 f25:=⟨Tryz.f150.name,by decide,Tryz.func150.trans (congrArg some (by kernel_rfl))⟩
 f26:=⟨Tryz.f151.name,by decide,Tryz.func151.trans (congrArg some (by kernel_rfl))⟩
 f27:=⟨Tryz.f152.name,by decide,Tryz.func152.trans (congrArg some (by kernel_rfl))⟩
 f28:=Tryz.func153.trans (congrArg some (by kernel_rfl))
 f29:=Tryz.func154.trans (congrArg some (by kernel_rfl))
 f46:=⟨Tryz.f210.name,by decide,Tryz.func210.trans (congrArg some (by kernel_rfl))⟩
 f47:=Tryz.func211.trans (congrArg some (by kernel_rfl))
 f48:=Tryz.func212.trans (congrArg some (by kernel_rfl))
 f49:=⟨Tryz.f213.name,by decide,Tryz.func213.trans (congrArg some (by kernel_rfl))⟩
 f50:=⟨Tryz.f214.name,by decide,Tryz.func214.trans (congrArg some (by kernel_rfl))⟩
 f57:=⟨Tryz.f245.name,by decide,Tryz.func245.trans (congrArg some (by kernel_rfl))⟩
 t0:=Tryz.underlying0
 a0:=Tryz.isAgg0
 z0:=Tryz.sizeOf0
 v0:=Tryz.zeroValue0
 t3:=Tryz.underlying3
 a3:=Tryz.isAgg3
 z3:=Tryz.sizeOf3
 v3:=Tryz.zeroValue3
 t4:=Tryz.underlying4
 a4:=Tryz.isAgg4
 z4:=Tryz.sizeOf4
 v4:=Tryz.zeroValue4
 t5:=Tryz.underlying5
 a5:=Tryz.isAgg5
 z5:=Tryz.sizeOf5
 v5:=Tryz.zeroValue5
 t9:=Tryz.underlying9
 a9:=Tryz.isAgg9
 z9:=Tryz.sizeOf9
 v9:=Tryz.zeroValue9
 t22:=Tryz.underlying29
 a22:=Tryz.isAgg29
 z22:=Tryz.sizeOf29
 v22:=Tryz.zeroValue29
 t25:=Tryz.underlying111
 a25:=Tryz.isAgg111
 z25:=Tryz.sizeOf111
 v25:=Tryz.zeroValue111
 t39:=Tryz.underlying177
 a39:=Tryz.isAgg177
 z39:=Tryz.sizeOf177
 v39:=Tryz.zeroValue177
 t45:=Tryz.underlying217
 a45:=Tryz.isAgg217
 z45:=Tryz.sizeOf217
 v45:=Tryz.zeroValue217
 t46:=Tryz.underlying218
 a46:=Tryz.isAgg218
 z46:=Tryz.sizeOf218
 v46:=Tryz.zeroValue218
 t50:=Tryz.underlying222
 a50:=Tryz.isAgg222
 z50:=Tryz.sizeOf222
 v50:=Tryz.zeroValue222
 t53:=Tryz.underlying184
 a53:=Tryz.isAgg184
 z53:=Tryz.sizeOf184
 v53:=Tryz.zeroValue184
 t55:=Tryz.underlying186
 a55:=Tryz.isAgg186
 z55:=Tryz.sizeOf186
 v55:=Tryz.zeroValue186
 t66:=Tryz.underlying281
 a66:=Tryz.isAgg281
 z66:=Tryz.sizeOf281
 v66:=Tryz.zeroValue281
 t70:=Tryz.underlying285
 a70:=Tryz.isAgg285
 z70:=Tryz.sizeOf285
 v70:=Tryz.zeroValue285
 t76:=Tryz.underlying313
 a76:=Tryz.isAgg313
 z76:=Tryz.sizeOf313
 v76:=Tryz.zeroValue313
 t77:=Tryz.underlying138
 a77:=Tryz.isAgg138
 z77:=Tryz.sizeOf138
 v77:=Tryz.zeroValue138}
end Go.Proofs
end
section
namespace Go.Reg
open Go Go.RowKit Go.Sort Go.Proofs
section
variable {α:Type} [Inhabited α] {enc:α->List Value} {E k:Nat} {w:World} {l:List α} {g cap:Nat}
theorem Qy(he:∀x,(enc x).length=k)(hk:0<k)(d:Array α)(t:Nat)(ht:t<d.size*k):(d.toList.flatMap enc)[t]? =some (flatK enc k d)[t]! :=by
 have h1:t/k<d.size:=Nat.div_lt_of_lt_mul (by rwa [Nn]at ht)
 have h2:t % k<k:=Nat.mod_lt _ hk
 have e:=Im he d.toList (t/k) d[t/k] (t % k) (by simp[h1]) h2
 rw[show t/k*k+t % k=t from Nat.div_add_mod' t k]at e
 rw[e,get_flatK _ _ _ _ ht,getElem!_pos d (t/k) h1]
 have h3:t % k<(enc d[t/k]).length:=by rw[he];exact h2
 rw[Ab h3,getElem!_pos (enc d[t/k]) (t % k) h3]
theorem Sl.holdsK(he:∀x,(enc x).length=k)(hk:0<k)(h:Sl E k enc w (.slice (some ⟨g,0,none⟩) l.length cap) l):HoldsK enc k w g 0 l.toArray:=by
 intro j hj
 have hj':j<l.length*k:=by simpa using hj
 have hc:=MZ h (g:=g) rfl j (flatK enc k l.toArray)[j]! (by have:=Qy he hk l.toArray j hj';simpa using this)
 refine⟨by simpa[IT]using hc,?_⟩
 rcases h.2 with⟨h1,_⟩|⟨g',cap',cur,h1,_,hg,_⟩
 ·cases h1
 ·cases h1
  simp[World.frozen?,hg]
theorem Sl.sorted(he:∀x,(enc x).length=k)(hk:0<k)(h:Sl E k enc w (.slice (some ⟨g,0,none⟩) l.length cap) l)(d:Array α)(hd:d.size=l.length)(n:Nat)(os:Array Obj):
  Sl E k enc (sortWorldK enc k w g 0 n d os) (.slice (some ⟨g,0,none⟩) l.length cap) d.toList/\Tch [g] w (sortWorldK enc k w g 0 n d os):=by
 have hlt:=h.lt (b:=g) rfl
 constructor
 ·have hlen:(d.toList.flatMap enc).length=d.toList.length*k:=by
   generalize d.toList=xs
   induction xs with
   |nil=>simp
   |cons x xs ih=>simp[ih,he,Cl];omega
  refine⟨hlen,?_⟩
  rcases h.2 with⟨h1,_⟩|⟨g',cap',cur,h1,h0,hg,hc,hm,hs,ht⟩
  ·cases h1
  ·cases h1
   refine .inr ⟨g,cap,putCells id 0 (flatK enc k d) cur,by simp[hd],AA _,?_,by simp[hd];exact hc,hm,by simp[putCells,hs],?_⟩
   ·simp only[sortWorldK,grow,putRowK,putRow,mapBlock,Sort.ahead]
    rw[FR (by simpa using hlt)]
    simp[BZ,hg,onCells]
   ·apply Bv
    intro t
    rw[HO]
    split
    ·rename_i hlt'
     have hlt2:t<d.size*k:=by simpa using hlt'
     rw[Qy he hk d t hlt2]
     have hcs:t<cur.size:=by rw[hs];rw[hd]at hlt2;exact Bw hlt2 (FP k hc)
     simp[putCells,hcs,hlt2]
    ·rename_i hge
     rw[AD (by rw[hlen];omega)]
 ·refine⟨rfl,rfl,rfl,?_,?_⟩
  ·simp[sortWorldK,grow,putRowK,putRow,mapBlock,Sort.ahead]
  ·intro j hj hn
   have hne:g≠j:=λe=>hn (by simp[e])
   simp only[sortWorldK,grow,putRowK,putRow,mapBlock,Sort.ahead]
   rw[FR (by simpa using hj)]
   simp[BZ,hne]
end
end Go.Reg
end
