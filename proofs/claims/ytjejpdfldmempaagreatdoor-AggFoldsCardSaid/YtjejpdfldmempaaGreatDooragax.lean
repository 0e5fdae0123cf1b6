/- Merged: Atk Lso Ats Atm Lsc Grg Grh Grk Srp Lna Rfa Lnb Lnc Lnf Grs Vla Vsb Lnp Vlc Vlg Lng Vli Srq Pgl Pdg Pgw Ins Pte Qip Clp Qif Qig Qih Pmk Pmg Lnm Qtp Flx Flt Fau Fst Fsu. -/
import Derived.Shelf.SlIterI.Sorted
import Derived.RangeFuncBox
import Derived.RangeFuncLeaves
import Derived.Shelf.Abstract
import Derived.WalkKit
import Derived.OwnWalkIn
import Derived.TacticsInMore
import Derived.LoopNIn
import Derived.LoopIn
import Derived.Shelf.SortM.Plain
import Derived.Shelf.SortM.SortNone
import Derived.Test.YtjejpdfldmempaaGreatDoorRows
import Derived.Test.YtjejpdfldmempaaGreatDooragar
import Derived.Test.YtjejpdfldmempaaGreatDooragan
import Derived.Shelf.SlicesG.CompactI
import Derived.Shelf.SlicesG.Delete
import Derived.Test.YtjejpdfldmempaaGreatDooragau
import Derived.Test.YtjejpdfldmempaaGreatDooragaw
import Derived.Test.YtjejpdfldmempaaGreatDooragas
import Derived.Test.YtjejpdfldmempaaGreatDooragah
import Derived.Shelf.Spec.SlicesInsert
import Derived.Lib.AppendZerosOnto
import Derived.Laws.CopyRow
import Derived.Test.YtjejpdfldmempaaGreatDooragaq
import Derived.Test.YtjejpdfldmempaaGreatDooragap
import Derived.Test.YtjejpdfldmempaaGreatDooragae
import Derived.Test.YtjejpdfldmempaaGreatDooragaf
import Derived.WalkSpells
import Derived.WalkLawsBesides
section
namespace Go.Proofs.YtjejpdfldmempaaGreatDoor
open Go.RowKit Go.Maps Go.Sort Go.Shelf
variable {P:Program} {ρ:Ren}
def Xp(F:Fence)(n:Nat)(P:Program)(g:Nat)(lb:Array Value)(S:List Int->Prop)(N:Nat)(w:World):Prop:=
 ∀(l:Nat) (J:List Int->World->Prop) (W:World),Below w.heap.size w W->AbidesFrom W.heap.size J->(∀pre W1,J pre W1->Below w.heap.size w W1)->
  (∀pre x W1,J pre W1->pre.length<N->YieldAt F (n-1) P l #[encZ x] W1 λe W'=>e=.returned (.bool true)/\J (pre++[x]) W'/\KeepsWalks W1 W')->
  J [] W->
  CallsIn F n P g (#[.func (.yield l) #[] #[]]++lb) W λe W'=>(∃v,e=.returned v)/\∃xs,S xs/\J xs W'
set_option maxRecDepth 100000 in
set_option maxHeartbeats 2000000 in
theorem Nl(L:SlLaysZI.n11 P ρ)(F:Fence)(n:Nat)(h11:F.fn (ρ.f 11))(hro:F.round=none)(hn:2<=n)(g:Nat)(lb:Array Value)(hFg:F.fn g)(eg:∀args w,(callFunc g args).run P w=.ok (.enter g args) w)
  (S:List Int->Prop) (N:Nat) (hN:N<=maxLen) (hNb:N*8<=140737488355328) (w:World) (hseq:Xp F (n-1) P g lb S N w):
  CallsIn F n P (ρ.f 11) #[.slice none 0 0,.func (.func g) #[] lb] w λe w'=>∃(v:Value) (ss:List Int),e=.returned v/\S ss/\w'.ownsRow w.heap.size (ρ.t 26) 1 v ss.length (ss.map encZ)/\(v=.slice none 0 0↔ss=[])/\Below w.heap.size w w':=by
 have h1:1<=n:=by omega
 have mixed:=L.mixed;have t0:=L.t0;have a0:=L.a0;have z0:=L.z0;have v0:=L.v0;have t24:=L.t24;have a24:=L.a24;have z24:=L.z24;have v24:=L.v24;have t26:=L.t26;have a26:=L.a26;have z26:=L.z26;have v26:=L.v26;have t28:=L.t28;have a28:=L.a28;have z28:=L.z28;have v28:=L.v28
 have hne:ρ.t 24≠ρ.t 26:=λe=>by have h:=L.t24;rw[e,L.t26]at h;cases h
 have u0:=run_underlying L.t0;have u24:=run_underlying L.t24;have u26:=run_underlying L.t26;have u28:=run_underlying L.t28
 obtain⟨_,_,FG⟩:=L.f11
 refine callsIn_of_wp_marks FG rfl h11 ?_ hro
 simp only[SlBodyZ.n11_ntmps ρ,BI,Au,Bh,Nat.reduceAdd,Nat.reduceSub,CE,CD,Dv,CN,AR,A9]
 gi_wp2
 refine wpIn_rangeFunc ?_
 intro fn hfn
 rw[hro]
 obtain⟨W0,hW0⟩:∃W0,w.alloc (.cells #[.slice none 0 0] (ρ.t 24))=W0:=⟨_,rfl⟩
 have hs0:W0.heap.size=w.heap.size+1:=by rw[<-hW0];simp
 have hv0:W0.heap[w.heap.size]? =some (.cells #[.slice none 0 0] (ρ.t 24) (0,0)):=by rw[<-hW0];exact World.alloc_heap_new w _
 have hb0:Below w.heap.size w W0:=by rw[<-hW0];exact(Below.refl _ w).alloc (Az _) _
 rw[hW0]
 obtain⟨W1,hW1⟩:∃W1,(W0.alloc (.deferred (some []))).alloc (.loop (AnyZI.apRec ρ fn (.func (.func g) #[] lb) w.heap.size W0.heap.size .ready none))=W1:=⟨_,rfl⟩
 have hold:∀k,k<W0.heap.size->W1.heap[k]? =W0.heap[k]? :=λk hk=>by
  rw[<-hW1];exact(Below.heap_alloc _ _ k (by simp;omega)).trans (Below.heap_alloc _ _ k hk)
 have hb1:Below w.heap.size w W1:=by rw[<-hW1];exact(hb0.alloc hb0.size _).alloc (by have:=hb0.size;simp;omega) _
 have hs1:W1.heap.size=W0.heap.size+2:=by rw[<-hW1];simp
 have hM:AnyZI.ApAt ρ w fn (.func (.func g) #[] lb) w.heap.size (W0.heap.size+1) W0.heap.size [] W1:=
  ⟨⟨_,(hold w.heap.size (by omega)).trans hv0,⟨rfl,.inl ⟨rfl,rfl⟩⟩,by simp⟩,
   by rw[<-hW1];have:=World.alloc_heap_new (W0.alloc (.deferred (some []))) (.loop (AnyZI.apRec ρ fn (.func (.func g) #[] lb) w.heap.size W0.heap.size .ready none));rwa [Ku]at this,
   by rw[<-hW1];exact(Below.heap_alloc _ _ _ (by simp)).trans (World.alloc_heap_new W0 _),hb1⟩
 refine⟨W0.heap.size+1,[{target:=.collected W0.heap.size,args:=#[]}],W1,{target:=.fn (.func g) lb,args:=#[.func (.yield (W0.heap.size+1)) #[] #[]]},W1,g,
  #[.func (.yield (W0.heap.size + 1)) #[] #[]] ++ lb, W1, ?_, ?_, ?_, ?_, fun _ => h1, ?_⟩
 ·rw[<-hW1];exact run_enterLoop_outer _ _ _ _ _
 ·simp[resolve,go_sem]
 ·intro f' hf';simp[Target.leads]at hf';subst hf';exact hFg
 ·simp[invoke,go_sem,eg]
 ·refine(hseq (W0.heap.size+1) (AnyZI.ApAt ρ w fn (.func (.func g) #[] lb) w.heap.size (W0.heap.size+1) W0.heap.size) W1 hb1 (AnyZI.ap_abides ρ _ _ _ _ _ _ _ hb1.size) (λpre W h=>h.below)
   (λpre x W hJ hl=>AnyZI.apYield {L with} F (n-1-1) w fn hfn _ w.heap.size (W0.heap.size+1) W0.heap.size (by omega) (by omega) (by omega) (Az _) (by omega) N hN hNb pre x W hJ hl) hM).mono ?_
  rintro e W2 ⟨⟨v0,rfl⟩,ss,hS,h2⟩
  obtain⟨v,hv,hrow,hnil⟩:=h2.box
  have hend:=run_endLoop (P:=P) h2.L (by simp[AnyZI.apRec])
  obtain⟨W3,hW3⟩:∃W3,W2.putObj (W0.heap.size+1) (.loop {AnyZI.apRec ρ fn (.func (.func g) #[] lb) w.heap.size W0.heap.size .ready none with state:=.exhausted})=W3:=⟨_,rfl⟩
  rw[hW3]at hend
  have hg3:W2.grownBy W3 (some (W0.heap.size+1)):=by rw[<-hW3];exact grownBy_putObj_a _ _ _
  have hv3:W3.heap[w.heap.size]? =some (.cells #[v] (ρ.t 24) (0,0)):=by rw[<-hW3];exact(World.putObj_heap_other (by omega)).trans hv
  have hK3:W3.heap[W0.heap.size]? =some (.deferred (some [])):=by rw[<-hW3];exact(World.putObj_heap_other (by omega)).trans h2.K
  have hrow3:=hrow.kept hg3 (ownsRow_ne_a hrow h2.L (λcur e=>by first|cases e|exact hne (Obj.cells.inj e).2.1))
  have hb3:Below w.heap.size w W3:=h2.below.grown hg3 h2.below.size (λk e=>by cases e;omega)
  obtain⟨hc3,hf3⟩:=cell_of_box_a hv3
  clear hW3
  refine⟨none,W3,hend,?_⟩
  gi_wp2
  rw[<-hs0]
  refine⟨by simp,.inl ⟨_,_,rfl,run_takeDeferred hK3,?_⟩⟩
  exact⟨_,results_tmp rfl _ _ _,v,ss,rfl,hS,hrow3.kept (grownBy_putObj_a _ _ _) (ownsRow_ne_a hrow3 hK3 (λcur e=>by first|cases e|exact hne (Obj.cells.inj e).2.1)),hnil,hb3.grown (grownBy_putObj_a _ _ _) hb3.size (λk e=>by cases e;omega)⟩
set_option maxHeartbeats 1000000 in
theorem Q8(L:SlLaysZI.n8 P ρ)(F:Fence)(n:Nat)(h8:F.fn (ρ.f 8))(h11:F.fn (ρ.f 11))(hro:F.round=none)(hn:3<=n)(g:Nat)(lb:Array Value)(hFg:F.fn g)(eg:∀args w,(callFunc g args).run P w=.ok (.enter g args) w)
  (S:List Int->Prop) (N:Nat) (hN:N<=maxLen) (hNb:N*8<=140737488355328) (w:World) (hseq:Xp F (n-1-1) P g lb S N w):
  CallsIn F n P (ρ.f 8) #[.func (.func g) #[] lb] w λe w'=>∃(v:Value) (ss:List Int),e=.returned v/\S ss/\w'.ownsRow w.heap.size (ρ.t 26) 1 v ss.length (ss.map encZ)/\(v=.slice none 0 0↔ss=[])/\Below w.heap.size w w':=by
 have h1:1<=n:=by omega
 have e11:∀args w,(callFunc (ρ.f 11) args).run P w=.ok (.enter (ρ.f 11) args) w:=L.f11.enters rfl
 have mixed:=L.mixed;have t0:=L.t0;have a0:=L.a0;have z0:=L.z0;have v0:=L.v0;have t24:=L.t24;have a24:=L.a24;have z24:=L.z24;have v24:=L.v24;have t26:=L.t26;have a26:=L.a26;have z26:=L.z26;have v26:=L.v26;have t28:=L.t28;have a28:=L.a28;have z28:=L.z28;have v28:=L.v28
 have u0:=run_underlying L.t0;have u24:=run_underlying L.t24;have u26:=run_underlying L.t26;have u28:=run_underlying L.t28
 obtain⟨_,_,FG⟩:=L.f8
 refine callsIn_of_wp FG rfl h8 ?_ hro
 simp only[SlBodyZ.n8_ntmps ρ,BI,Au,Bh,Nat.reduceAdd,Nat.reduceSub,CE,CD,Dv,CN,AR,A9]
 gi_wp2_with (gi_at_fn (ρ.f 11);refine(Nl {L with} F (n-1) h11 hro (by omega) g lb hFg eg S N hN hNb _ hseq).mono ?_;rintro e w' ⟨v,ss,rfl,hS,hrow,hnil,hb⟩)
 go_ret
 exact⟨v,ss,rfl,hS,hrow,hnil,hb⟩
set_option maxRecDepth 100000 in
set_option maxHeartbeats 2000000 in
theorem Rf(L:SlLaysZI.n6 P ρ)(F:Fence)(n:Nat)(h6:F.fn (ρ.f 6))(h8:F.fn (ρ.f 8))(h9:F.fn (ρ.f 9))(h11:F.fn (ρ.f 11))(hro:F.round=none)(hn:4<=n)(hsort:AnyZI.SortsIn P ρ F (n-1))(e9:∀args w,(callFunc (ρ.f 9) args).run P w=.ok (.enter (ρ.f 9) args) w)(g:Nat)(lb:Array Value)(hFg:F.fn g)(eg:∀args w,(callFunc g args).run P w=.ok (.enter g args) w)
  (S:List Int->Prop) (N:Nat) (hN:N<=maxLen) (hNb:N*8<=140737488355328) (w:World) (hSN:∀ss,S ss->ss.length<=N) (hseq:Xp F (n-1-1-1) P g lb S N w):
  CallsIn F n P (ρ.f 6) #[.func (.func g) #[] lb] w λe w'=>∃(v:Value) (ss:List Int),e=.returned v/\S ss/\
   w'.ownsRow w.heap.size (ρ.t 26) 1 v ss.length ((ss.mergeSort (λx y=>decide (x<=y))).map encZ)/\(v=.slice none 0 0↔ss=[])/\Below w.heap.size w w':=by
 have h1:1<=n:=by omega
 have e8:∀args w,(callFunc (ρ.f 8) args).run P w=.ok (.enter (ρ.f 8) args) w:=L.f8.enters rfl
 have mixed:=L.mixed;have t0:=L.t0;have a0:=L.a0;have z0:=L.z0;have v0:=L.v0;have t24:=L.t24;have a24:=L.a24;have z24:=L.z24;have v24:=L.v24;have t26:=L.t26;have a26:=L.a26;have z26:=L.z26;have v26:=L.v26;have t28:=L.t28;have a28:=L.a28;have z28:=L.z28;have v28:=L.v28
 have u0:=run_underlying L.t0;have u24:=run_underlying L.t24;have u26:=run_underlying L.t26;have u28:=run_underlying L.t28
 obtain⟨_,_,FG⟩:=L.f6
 refine callsIn_of_wp FG rfl h6 ?_ hro
 simp only[SlBodyZ.n6_ntmps ρ,BI,Au,Bh,Nat.reduceAdd,Nat.reduceSub,CE,CD,Dv,CN,AR,A9]
 gi_wp2_with (gi_at_fn (ρ.f 8);refine(Q8 {L with} F (n-1) h8 h11 hro (by omega) g lb hFg eg _ N hN hNb _ hseq).mono ?_;rintro e W ⟨v,ss,rfl,hS,hrow,hnil,hb⟩;have hlen:=hSN ss hS)
 rcases hrow.2 with⟨rfl,hz⟩|⟨gb,cap,cur,rfl,hbase,hgb,r1,r2,r3,r4⟩
 ·
  have hss:ss=[]:=Aw hz
  subst hss
  gi_wp2_with (gi_at_fn (ρ.f 9);refine(hsort.2 none 0 W).mono ?_;rintro e w' ⟨rfl,rfl⟩)
  go_ret
  exact⟨.slice none 0 0,[],rfl,hS,by simpa using hrow,by simp,hb⟩
 ·have hH:Holds encZ W gb 0 ss.toArray:=holds_of_block_i hgb (by simpa using r4)
  have hgl:gb<W.heap.size:=(Ae.1 hgb).1
  have hsz:ss.length<4611686018427387904:=by omega
  have cS:=hsort.1 gb 0 cap ss W hH hgl hsz
  gi_wp2_with (gi_at_fn (ρ.f 9);refine cS.mono ?_;rintro e w' ⟨rfl,nn,os,rfl⟩)
  go_ret
  exact⟨_,ss,rfl,hS,ownsRow_sorted_i (by simp) hbase hgb r1 r2 r3,hnil,hb.grown (grownBy_sorted_i _) hb.size (λj hj=>by cases hj;exact hbase)⟩
end Go.Proofs.YtjejpdfldmempaaGreatDoor
end
section
namespace Go.Proofs
open Go.Shelf
def Tryz.sortedI_ren:Go.Shelf.Ren:=⟨λ|6=>160|8=>220|9=>221|11=>252|13=>104|12=>253|23=>153|24=>154|14=>263|15=>264|16=>265|17=>266|18=>267|19=>268|20=>269|21=>270|22=>271|25=>280|26=>211|27=>212|28=>281|29=>282|30=>143|31=>287|n=>n,λ|26=>3|28=>237|24=>28|0=>0|3=>3|37=>177|48=>184|50=>186|4=>4|40=>218|39=>217|45=>222|5=>5|9=>9|51=>281|55=>285|57=>313|58=>138|33=>215|n=>n,λ|n=>n⟩
theorem Tryz.sortedI:Go.Proofs.SlLaysZI.n6 Tryz.prog Tryz.sortedI_ren:={
 mixed:=by kernel_rfl
 f6:=⟨Tryz.f160.name,by decide,Tryz.func160.trans (congrArg some (by kernel_rfl))⟩
 f8:=⟨Tryz.f220.name,by decide,Tryz.func220.trans (congrArg some (by kernel_rfl))⟩
 f11:=⟨Tryz.f252.name,by decide,Tryz.func252.trans (congrArg some (by kernel_rfl))⟩
 t0:=Tryz.underlying0
 a0:=Tryz.isAgg0
 z0:=Tryz.sizeOf0
 v0:=Tryz.zeroValue0
 t24:=Tryz.underlying28
 a24:=Tryz.isAgg28
 z24:=Tryz.sizeOf28
 v24:=Tryz.zeroValue28
 t26:=Tryz.underlying3
 a26:=Tryz.isAgg3
 z26:=Tryz.sizeOf3
 v26:=Tryz.zeroValue3
 t28:=Tryz.underlying237
 a28:=Tryz.isAgg237
 z28:=Tryz.sizeOf237
 v28:=Tryz.zeroValue237
 i26:=by kernel_rfl}
def Tryz.sortI_ren:Go.Shelf.Ren:=⟨λ|5=>221|8=>104|7=>253|19=>153|20=>154|10=>263|11=>264|12=>265|13=>266|14=>267|15=>268|16=>269|17=>270|18=>271|30=>280|31=>211|32=>212|33=>281|34=>282|35=>143|40=>287|n=>n,λ|23=>28|25=>3|3=>3|32=>177|22=>28|0=>0|44=>184|46=>186|4=>4|36=>218|35=>217|41=>222|5=>5|9=>9|53=>281|57=>285|63=>313|64=>138|n=>n,λ|n=>n⟩
theorem Tryz.sortI:Go.Proofs.SlLaysM.n5 Tryz.prog Tryz.sortI_ren:={
 mixed:=by kernel_rfl
 f5:=⟨Tryz.f221.name,by decide,Tryz.func221.trans (congrArg some (by kernel_rfl))⟩
 f7:=⟨Tryz.f253.name,by decide,Tryz.func253.trans (congrArg some (by kernel_rfl))⟩
 f8:=Tryz.func104.trans (congrArg some (by kernel_rfl))
 f10:=⟨Tryz.f263.name,by decide,Tryz.func263.trans (congrArg some (by kernel_rfl))⟩
 f11:=⟨Tryz.f264.name,by decide,Tryz.func264.trans (congrArg some (by kernel_rfl))⟩
 f12:=⟨Tryz.f265.name,by decide,Tryz.func265.trans (congrArg some (by kernel_rfl))⟩
 f13:=⟨Tryz.f266.name,by decide,Tryz.func266.trans (congrArg some (by kernel_rfl))⟩
 f14:=⟨Tryz.f267.name,by decide,Tryz.func267.trans (congrArg some (by kernel_rfl))⟩
 f15:=⟨Tryz.f268.name,by decide,Tryz.func268.trans (congrArg some (by kernel_rfl))⟩
 f16:=⟨Tryz.f269.name,by decide,Tryz.func269.trans (congrArg some (by kernel_rfl))⟩
 f17:=⟨Tryz.f270.name,by decide,Tryz.func270.trans (congrArg some (by kernel_rfl))⟩
 f18:=⟨Tryz.f271.name,by decide,Tryz.func271.trans (congrArg some (by kernel_rfl))⟩
 f19:=Tryz.func153.trans (congrArg some (by kernel_rfl))
 f20:=Tryz.func154.trans (congrArg some (by kernel_rfl))
 f30:=⟨Tryz.f280.name,by decide,Tryz.func280.trans (congrArg some (by kernel_rfl))⟩
 f31:=Tryz.func211.trans (congrArg some (by kernel_rfl))
 f32:=Tryz.func212.trans (congrArg some (by kernel_rfl))
 f33:=⟨Tryz.f281.name,by decide,Tryz.func281.trans (congrArg some (by kernel_rfl))⟩
 f34:=⟨Tryz.f282.name,by decide,Tryz.func282.trans (congrArg some (by kernel_rfl))⟩
 f35:=⟨Tryz.f143.name,by decide,Tryz.func143.trans (congrArg some (by kernel_rfl))⟩
 f40:=⟨Tryz.f287.name,by decide,Tryz.func287.trans (congrArg some (by kernel_rfl))⟩
 t0:=Tryz.underlying0
 a0:=Tryz.isAgg0
 z0:=Tryz.sizeOf0
 v0:=Tryz.zeroValue0
 t3:=Tryz.underlying3
 a3:=Tryz.isAgg3
 z3:=Tryz.sizeOf3
 v3:=Tryz.zeroValue3
 t4:=Tryz.underlying4
 a4:=Tryz.isAgg4
 z4:=Tryz.sizeOf4
 v4:=Tryz.zeroValue4
 t5:=Tryz.underlying5
 a5:=Tryz.isAgg5
 z5:=Tryz.sizeOf5
 v5:=Tryz.zeroValue5
 t9:=Tryz.underlying9
 a9:=Tryz.isAgg9
 z9:=Tryz.sizeOf9
 v9:=Tryz.zeroValue9
 t22:=Tryz.underlying28
 a22:=Tryz.isAgg28
 z22:=Tryz.sizeOf28
 v22:=Tryz.zeroValue28
 t23:=Tryz.underlying28
 a23:=Tryz.isAgg28
 z23:=Tryz.sizeOf28
 v23:=Tryz.zeroValue28
 t25:=Tryz.underlying3
 a25:=Tryz.isAgg3
 z25:=Tryz.sizeOf3
 v25:=Tryz.zeroValue3
 t32:=Tryz.underlying177
 a32:=Tryz.isAgg177
 z32:=Tryz.sizeOf177
 v32:=Tryz.zeroValue177
 t35:=Tryz.underlying217
 a35:=Tryz.isAgg217
 z35:=Tryz.sizeOf217
 v35:=Tryz.zeroValue217
 t36:=Tryz.underlying218
 a36:=Tryz.isAgg218
 z36:=Tryz.sizeOf218
 v36:=Tryz.zeroValue218
 t41:=Tryz.underlying222
 a41:=Tryz.isAgg222
 z41:=Tryz.sizeOf222
 v41:=Tryz.zeroValue222
 t44:=Tryz.underlying184
 a44:=Tryz.isAgg184
 z44:=Tryz.sizeOf184
 v44:=Tryz.zeroValue184
 t46:=Tryz.underlying186
 a46:=Tryz.isAgg186
 z46:=Tryz.sizeOf186
 v46:=Tryz.zeroValue186
 t53:=Tryz.underlying281
 a53:=Tryz.isAgg281
 z53:=Tryz.sizeOf281
 v53:=Tryz.zeroValue281
 t57:=Tryz.underlying285
 a57:=Tryz.isAgg285
 z57:=Tryz.sizeOf285
 v57:=Tryz.zeroValue285
 t63:=Tryz.underlying313
 a63:=Tryz.isAgg313
 z63:=Tryz.sizeOf313
 v63:=Tryz.zeroValue313
 t64:=Tryz.underlying138
 a64:=Tryz.isAgg138
 z64:=Tryz.sizeOf138
 v64:=Tryz.zeroValue138}
end Go.Proofs
end
section
namespace Go.Proofs.YtjejpdfldmempaaGreatDoor
open Go.RowKit Go.Shelf Go.Sx Go.Reg Go.Maps Go.Sort Go.Gr
set_option maxRecDepth 100000
theorem Ut {zs:List Int} {k:Nat}(h:k<=zs.length):(zs.take k).length=k:=by rw[B5];omega
theorem Th {zs:List Int} {k:Nat}(h:k<zs.length):zs.take k++[zs[k]?.getD 0]=zs.take (k+1):=by
 rw[Bc,Ab h];rfl
set_option maxHeartbeats 2000000 in
theorem Um(F:Fence)(n:Nat)(h7:F.fn 222)(hro:F.round=none)(hn:1<=n)(l Bs bo n₀ b C9 cap:Nat)(zs:List Int)(hreach:zs.length*8<=140737488351232)(hb:b<n₀)(w:World)(J:List Int->World->Prop)
  (hJb:∀pre W1,J pre W1->Below n₀ w W1)
  (hY:∀pre x W1,J pre W1->pre.length<zs.length->YieldAt F (n-1) Tryz.prog l #[encZ x] W1 λe W'=>e=.returned (.bool true)/\J (pre++[x]) W'/\KeepsWalks W1 W')
  (W:World) (hBs:W.cell? ⟨Bs,bo,none⟩=some (.slice (some ⟨b,C9,none⟩) zs.length cap)) (hc:∀j,j<zs.length->w.cell? ⟨b,C9+j,none⟩=some (.int .i64 (zs[j]?.getD 0))) (h0:J [] W):
  CallsIn F n Tryz.prog 222 #[.func (.yield l) #[] #[],.pointer (some ⟨Bs,bo,none⟩)] W λe W'=>(∃v,e=.returned v)/\∃xs,xs=zs/\J xs W':=by
 refine callsIn_of_wp Tryz.func222 rfl h7 ?_ hro
 simp only[Tryz.ntmps222,BI,Au,Bh,Nat.reduceAdd,Nat.reduceSub,CE,CD,Dv,CN,AR,A9]
 gi_wp2
 gi_loopw [7] (λi wr=>∃k:Nat,k<=zs.length/\i=.int .i64 k/\J (zs.take k) wr)
  (λi _=>zs.length- (intOf i).toNat)
 case atStart=>exact⟨0,AA _,rfl,h0⟩
 case round=>
  obtain⟨k,hk,rfl,hJs⟩:=hrel
  have hcx:k<zs.length->wr.cell? ⟨b,C9+k,none⟩=some (.int .i64 (zs[k]?.getD 0)):=λh=>((hJb _ _ hJs).cell (p:=⟨b,C9+k,none⟩) hb).trans (hc k h)
  by_cases hlt:k<zs.length
  ·have hcx':=hcx hlt
   have htn:=Th hlt
   generalize zs[k]?.getD 0=x at hcx' htn
   obtain⟨fn,tmps,assign,body,hy,hR⟩:=hY _ x wr hJs (by rw[Ut hk];exact hlt)
   rw[htn]at hR
   clear hcx hc htn
   gi_wp2
   refine hR.mono ?_
   rintro e W3 ⟨rfl,hJ3,hk3⟩
   gi_wp2
   go_roundw
   case rel=>exact⟨k+1,by omega,by simp,hJ3⟩
   case measure=>simp[intOf];omega
  ·obtain rfl:k=zs.length:=by omega
   rw[List.take_length]at hJs
   gi_wp2
   go_end0
   exact⟨⟨_,rfl⟩,zs,rfl,hJs⟩
set_option maxHeartbeats 1000000 in
theorem Og(F:Fence)(n:Nat)(h7:F.fn 222)(hro:F.round=none)(l Bs bo cap:Nat)(p:Option Addr)(J:List Int->World->Prop)(W:World)(hBs:W.cell? ⟨Bs,bo,none⟩=some (.slice p 0 cap))(h0:J [] W):
  CallsIn F n Tryz.prog 222 #[.func (.yield l) #[] #[],.pointer (some ⟨Bs,bo,none⟩)] W λe W'=>(∃v,e=.returned v)/\∃xs,xs=[]/\J xs W':=by
 refine callsIn_of_wp Tryz.func222 rfl h7 ?_ hro
 simp only[Tryz.ntmps222,BI,Au,Bh,Nat.reduceAdd,Nat.reduceSub,CE,CD,Dv,CN,AR,A9]
 gi_wp2
 gi_loopw [7] (λi wr=>i=.int .i64 0/\J [] wr) (λ_ _=>0)
 case atStart=>exact⟨rfl,h0⟩
 case round=>
  obtain⟨rfl,hJs⟩:=hrel
  gi_wp2
  go_end0
  exact⟨⟨_,rfl⟩,[],rfl,hJs⟩
theorem Qj {w:World} {base E:Nat} {v:Value} {ss:List Int} {O:List Nat}(hO:∀b∈O,b<base)(h:w.ownsRow base E 1 v ss.length (ss.map encZ)):Rep O w (D1 ss) v:=by
 have h1:Ai O w (ss.map dI) (ss.map λn=>[Value.int .i64 n]):=by
  clear h
  induction ss with
  |nil=>simp[Ai]
  |cons x ss ih=>exact⟨_,_,rfl,by simp[RepC,dI],ih⟩
 have h2:∀x∈ss.map (λn=>[Value.int .i64 n]),DQ 1 x:=by
  intro x hx
  obtain⟨n,_,rfl⟩:=Av.1 hx
  exact⟨rfl,by simp[Value.oneCell']⟩
 have h3:(ss.map λn=>[Value.int .i64 n]).flatten=ss.map encZ:=by
  clear h h1 h2
  induction ss with
  |nil=>rfl
  |cons x ss ih=>simp only[Am,Bu,ih];rfl
 rcases h.2 with⟨rfl,hn⟩|⟨g,cap,cur,rfl,hb,hg,g1,g2,g3,g4⟩
 ·have:ss=[]:=Aw hn
  subst this
  exact⟨[.slice none 0 0],by simp only[D1,RepC];exact⟨none,0,[],rfl,by simp,by unfold maxLen;omega,by simp[Ai],by simp,.inl rfl⟩,rfl⟩
 ·refine⟨[.slice (some ⟨g,0,none⟩) ss.length cap],?_,rfl⟩
  simp only[D1,RepC]
  refine⟨_,cap,_,by rw[Ac],by rw[Ac];exact g1,g2,h1,h2,.inr ⟨g,0,rfl,λhm=>by have:=hO g hm;omega,(Ae.1 hg).1,?_⟩⟩
  rw[h3,<-g4]
  intro j u hj
  simp only[Nat.mul_one]at hj
  rw[HO]at hj
  split at hj
  ·simp only[World.cell?,hg,DE]
   simpa using hj
  ·cases hj
theorem Ow(m:Nat):AnyZI.SortsIn Tryz.prog Tryz.sortedI_ren Fence.wide m:=
 ⟨λblk C9 cap ss W hH hblk hsz=>callsIn_wide.2 (AnyM.slices_Sort_int Tryz.sortI blk C9 cap ss W hH hblk hsz),
  λp cap W=>callsIn_wide.2 (AnyM.slices_Sort_int_none Tryz.sortI p cap W)⟩
theorem P2(l:List Int)(hl:l.length<=4294967296):Pure C1 160 [.func (.func 222) [] [.ref (D1 l)]] (λy=>y=D1 (l.mergeSort λx y=>decide (x<=y))):=by
 intro O w us hO hg hr
 obtain⟨v,vs,rfl,h1,h2⟩:=D7 hr
 obtain rfl:=Ee h2
 obtain⟨cs,r,rfl⟩:=h1
 simp only[RepC,Ai]at r
 obtain⟨fs,cs',rfl,⟨c1,c2,rfl,⟨b,o,c,rfl,hb,hbl,hc,hcell⟩,rfl⟩,rfl⟩:=r
 simp only[D1,RepC]at hc
 obtain⟨a,cap,css,rfl,hlc,hcm,hcs,hrow,hd⟩:=hc
 have hv:w.cell? ⟨b,o,none⟩=some (.slice a l.length cap):=by have:=hcell 0 _ rfl;simpa using this
 refine⟨by kernel_rfl,?_⟩
 show Calls _ _ #[.func (.func 222) #[] #[.pointer (some ⟨b,o,none⟩)]] w _
 have hseq:Xp Fence.wide 3 Tryz.prog 222 #[.pointer (some ⟨b,o,none⟩)] (λys=>ys=l) l.length w:=by
  intro k J W hW hJ hJb hY h0
  have hc':W.cell? ⟨b,o,none⟩=some (.slice a l.length cap):=(hW.cell (p:=⟨b,o,none⟩) hbl).trans hv
  rcases hd with hd|⟨b2,o2,rfl,hb2,hbl2,hcell2⟩
  ·have:l=[]:=by simpa using hd
   subst this
   exact Og Fence.wide 3 trivial rfl k b o cap a J W hc' h0
  ·refine Um Fence.wide 3 trivial rfl (by omega) k b o w.heap.size b2 o2 cap l (by omega) hbl2 w J hJb hY W hc' ?_ h0
   intro j hj
   have hf:∀(l:List Int) (css:List (List Value)),Ai O w (l.map dI) css->css.flatten=l.map (Value.int .i64):=by
    intro l
    induction l with
    |nil=>intro css h;simp only[Bp,Ai]at h;subst h;rfl
    |
     cons x l ih=>
     intro css h
     simp only[Am,Ai,dI,RepC]at h
     obtain⟨_,c2,rfl,rfl,h⟩:=h
     simp only[Bu,ih c2 h];rfl
   exact hcell2 j _ (by rw[hf l css hcs,Al,Ab hj];rfl)
 have:=Rf Tryz.sortedI Fence.wide 6 trivial trivial trivial trivial rfl (by omega) (Ow _) (enters_of Tryz.func221 (by kernel_rfl) rfl) 222 #[.pointer (some ⟨b,o,none⟩)] trivial (enters_of Tryz.func222 (by kernel_rfl) rfl)
  (λys=>ys=l) l.length (by unfold maxLen;omega) (by omega) w (λss h=>Nat.le_of_eq (by rw[h])) hseq
 refine(callsIn_wide.1 this).mono ?_
 rintro e w' ⟨v,ss,rfl,rfl,hown,_,hbel⟩
 refine⟨v,_,rfl,rfl,?_,⟨hbel.os,hbel.tape,hbel.output,hbel.size,λk hk _=>hbel.block k hk⟩⟩
 rw[<-List.length_mergeSort (le:=λx y=>decide (x<=y))]at hown
 exact Qj hO hown
end Go.Proofs.YtjejpdfldmempaaGreatDoor
end
section
namespace Go.Proofs.YtjejpdfldmempaaGreatDoor
open Go.RowKit Go.Shelf Go.Sx Go.Reg Go.Maps Go.Sort Go.Gr
set_option maxRecDepth 100000
theorem Q7 {O:List Nat} {w:World}:∀ss:List Int,Ai O w (ss.map dI) (ss.map λn=>[Value.int .i64 n])
 |[]=>by simp[Ai]
 |x::ss=>⟨_,_,rfl,by simp[RepC,dI],Q7 ss⟩
theorem WZ(ss:List Int):∀x∈ss.map (λn=>[Value.int .i64 n]),DQ 1 x:=by
 intro x hx
 obtain⟨n,_,rfl⟩:=Av.1 hx
 exact⟨rfl,by simp[Value.oneCell']⟩
end Go.Proofs.YtjejpdfldmempaaGreatDoor
end
section
namespace Go.Proofs
open Go.Shelf
def Tryz.deleteI_ren:Go.Shelf.Ren:=⟨λ|45=>54|n=>n,λ|22=>28|23=>3|3=>3|4=>4|0=>0|n=>n,λ|n=>n⟩
theorem Tryz.deleteI:Go.Proofs.SlLaysN.n45 Tryz.prog Tryz.deleteI_ren:={
 mixed:=by kernel_rfl
 f45:=⟨Tryz.f54.name,by decide,Tryz.func54.trans (congrArg some (by kernel_rfl))⟩
 t0:=Tryz.underlying0
 a0:=Tryz.isAgg0
 z0:=Tryz.sizeOf0
 v0:=Tryz.zeroValue0
 t3:=Tryz.underlying3
 a3:=Tryz.isAgg3
 z3:=Tryz.sizeOf3
 v3:=Tryz.zeroValue3
 t4:=Tryz.underlying4
 a4:=Tryz.isAgg4
 z4:=Tryz.sizeOf4
 v4:=Tryz.zeroValue4
 t22:=Tryz.underlying28
 a22:=Tryz.isAgg28
 z22:=Tryz.sizeOf28
 v22:=Tryz.zeroValue28
 t23:=Tryz.underlying3
 a23:=Tryz.isAgg3
 z23:=Tryz.sizeOf3
 v23:=Tryz.zeroValue3
 i23:=by kernel_rfl}
end Go.Proofs
end
section
namespace Go.Proofs.YtjejpdfldmempaaGreatDoor
open Go.Sx Go.RowKit Go.Reg Go.Gr
set_option maxRecDepth 100000
theorem Pr(l:List Int):Pure C1 161 [D1 l] (λy=>y=.func (.func 222) [] [.ref (D1 l)]):=by
 refine CI Tryz.func161 Tryz.ntmps161 [] [] ?_
 ((conv=>whnf);repeat' ((first|refine odw ?_|refine nx ?_|refine AX (λ_=>?_) (λ_=>?_))<;>conv=>whnf))
 exact rfl
end Go.Proofs.YtjejpdfldmempaaGreatDoor
end
section
namespace Go.Reg
open Go Go.RowKit Go.Sort Go.Proofs
section
variable {E:Nat} {w:World} {l:List Int} {g cap:Nat}
theorem TJ(l:List Int):l.flatMap (λn=>[Value.int .i64 n])=l.map (Value.int .i64):=by
 induction l with
 |nil=>rfl
 |cons x l ih=>simp[ih]
theorem Sl.holds1(h:Sl E 1 (λn:Int=>[Value.int .i64 n]) w (.slice (some ⟨g,0,none⟩) l.length cap) l):Go.Sort.Holds (Value.int .i64) w g 0 l.toArray:=by
 intro j hj
 have hj':j<l.length:=by simpa using hj
 have hx:l[j]? =some l.toArray[j]! :=by rw[getElem!_pos l.toArray j hj];simp[hj']
 have hc:=Sl.cells (enc:=λn:Int=>[Value.int .i64 n]) (k:=1) (λ_=>rfl) h rfl hx (j:=0) (u:=Value.int .i64 l.toArray[j]!) rfl
 refine⟨by simpa using hc,?_⟩
 rcases h.2 with⟨h1,_⟩|⟨g',cap',cur,h1,_,hg,_⟩
 ·cases h1
 ·cases h1
  simp[World.frozen?,hg]
theorem Sl.put1(h:Sl E 1 (λn:Int=>[Value.int .i64 n]) w (.slice (some ⟨g,0,none⟩) l.length cap) l)(d:Array Int)(hd:d.size=l.length)(m:Nat)(hm:m<=l.length)(q:Nat):
  Sl E 1 (λn:Int=>[Value.int .i64 n]) (putRow (Value.int .i64) (Sort.ahead w q) g 0 d) (.slice (some ⟨g,0,none⟩) m cap) (d.toList.take m)/\Tch [g] w (putRow (Value.int .i64) (Sort.ahead w q) g 0 d):=by
 have hlm:(d.toList.take m).length=m:=by rw[B5,Array.length_toList];omega
 constructor
 ·unfold Sl
  rw[TJ]
  refine⟨by simp,?_⟩
  rcases h.2 with⟨h1,_⟩|⟨g',cap',cur,h1,h0,hg,hc,hmx,hs,ht⟩
  ·cases h1
  ·cases h1
   refine .inr ⟨g,cap,putCells (Value.int .i64) 0 d cur,by rw[hlm],AA _,?_,by rw[hlm];omega,hmx,by simp[putCells,hs],?_⟩
   ·simp[putRow,mapBlock,Sort.ahead,BZ,hg,onCells]
   ·rw[hlm]
    apply Bv
    intro t
    rw[HO,Al,HO]
    split
    ·rename_i hlt
     have h1:t<cur.size:=by omega
     have h2:t<d.size:=by omega
     have h3:t<m:=by omega
     simp[putCells,h1,h2,h3]
    ·rename_i hlt
     have h3:¬t<m:=by omega
     simp[h3]
 ·refine⟨rfl,rfl,rfl,?_,?_⟩
  ·simp[putRow,mapBlock,Sort.ahead]
  ·intro j hj hn
   have hne:g≠j:=λe=>hn (by simp[e])
   simp[putRow,mapBlock,Sort.ahead,BZ,hne]
end
end Go.Reg
namespace Go.Proofs.YtjejpdfldmempaaGreatDoor
open Go.RowKit Go.Shelf Go.Sx Go.Reg Go.Sort Go.Gr Go.Proofs
set_option maxRecDepth 100000
theorem S9 {O:List Nat} {w:World}:∀{l:List Int} {css:List (List Value)},Ai O w (l.map dI) css->css=l.map (λn=>[Value.int .i64 n])
 |[],css,h=>by simpa only[Bp,Ai]using h
 |
  e::l,css,h=>by
  simp only[Am,Ai,dI,RepC]at h
  obtain⟨c1,c2,rfl,rfl,h⟩:=h
  rw[S9 h];rfl
theorem S8 {E:Nat} {w:World} {v:Value} {l:List Int}:Sl E 1 id w v (l.map λn=>[Value.int .i64 n])↔Sl E 1 (λn:Int=>[Value.int .i64 n]) w v l:=by
 unfold Sl
 rw[Ac,List.flatMap_map]
 exact Iff.rfl
theorem Yv {f:FuncId} {l:List Int} {xs:List Da} {r:List Int} {vs:List Value}(hxs:∀(O:List Nat) (w:World) (us:List Value),HM O w xs us->us=vs)(hrl:r.length<=l.length)
  (hrun:∀(us:Array Value) (w:World),(callFunc f us).run C1.P w=.ok (.enter f us) w)
  (hnil:l=[]->∀w:World,Calls C1.P f (.slice none 0 0::vs).toArray w λe w'=>e=.returned (.slice none 0 0)/\w'=w)
  (hmem:∀(g cap:Nat) (w:World),Go.Sort.Holds (Value.int .i64) w g 0 l.toArray->l.length<=cap->cap<=9223372036854775807->Calls C1.P f (.slice (some ⟨g,0,none⟩) l.length cap::vs).toArray w λe w'=>e=.returned (.slice (some ⟨g,0,none⟩) r.length cap)/\∃q,∃rest:List Int,r.length+rest.length=l.length/\w'=putRow (Value.int .i64) (Sort.ahead w q) g 0 (r++rest).toArray):
  QM C1 f 3 1 (l.map dI) xs (λds=>ds=r.map dI):=by
 intro O w v css us hs hb hO hr hk hg hus
 obtain rfl:=hxs O w us hus
 obtain rfl:=S9 hr
 refine⟨hrun _ _,?_⟩
 have hs1:=S8.1 hs
 rcases hs1.shape with⟨rfl,rfl⟩|⟨g,cap,rfl,hc⟩
 ·refine(hnil rfl w).mono ?_
  rintro e w' ⟨rfl,rfl⟩
  have:r=[]:=Aw (by simpa using hrl)
  subst this
  exact⟨_,_,[],rfl,rfl,Sl.nil _ _ _ _,λb hb=>(by cases hb),by simp[Ai],by simp,Tch.refl _ _⟩
 ·have hcm:cap<=9223372036854775807:=by
   rcases hs1.2 with⟨h1,_⟩|⟨g',cap',cur,h1,_,_,_,hm,_⟩
   ·cases h1
   ·cases h1;unfold maxLen at hm;omega
  refine(hmem g cap w hs1.holds1 hc hcm).mono ?_
  rintro e w' ⟨rfl,q,rest,hrl2,rfl⟩
  obtain⟨h1,h2⟩:=hs1.put1 (r++rest).toArray (by simp;omega) r.length hrl q
  have ht:(r++rest).toArray.toList.take r.length=r:=by simp
  rw[ht]at h1
  exact⟨_,_,r.map λn=>[Value.int .i64 n],rfl,rfl,S8.2 h1,λb hb=>.inl hb,Q7 r,WZ r,h2⟩
theorem RH(l:List Int)(i:Nat)(hi:i<l.length):QM C1 54 3 1 (l.map dI) [.int .i64 i,.int .i64 ((i:Int)+1)] (λds=>ds=(l.eraseIdx i).map dI):=by
 have he:l.eraseIdx i=l.take i++l.drop (i+1):=List.eraseIdx_eq_take_drop_succ l i
 have hel:(l.eraseIdx i).length=l.length-1:=by rw[List.length_eraseIdx];split<;>omega
 refine Yv (vs:=[.int .i64 i,.int .i64 ((i:Int)+1)]) (λO w us h=>?_) (by omega) (λus w=>enters_of Tryz.func54 (by kernel_rfl) rfl us w)
  (λh w=>by subst h;simp at hi) (λg cap w hH hc hm=>?_)
 ·obtain⟨v,vs,rfl,h1,h2⟩:=D7 h
  obtain⟨v2,vs2,rfl,h3,h4⟩:=D7 h2
  obtain rfl:=Ee h4
  rw[DI h1,DI h3]
 ·have:=AnyG.slices_Delete_int Tryz.deleteI g 0 cap i (i+1) l w hH hc hm (by omega) (by omega)
  refine this.mono ?_
  rintro e w' ⟨h1,q,h2⟩
  refine⟨?_,q,List.replicate (i+1-i) 0,?_,?_⟩
  ·rw[h1,hel];congr 2;omega
  ·rw[hel,J5];omega
  ·rw[h2,he]
end Go.Proofs.YtjejpdfldmempaaGreatDoor
end
section
namespace Go.Gr
def tch(E:List Edg)(i j:Nat):Bool:=match E[i]?,E[j]? with
 |some x,some y=>decide (i≠j)&&(decide (x.a=y.a)||decide (x.a=y.b)||decide (x.b=y.a)||decide (x.b=y.b))
 |_,_=>false
end Go.Gr
end
section
namespace Go.Proofs.YtjejpdfldmempaaGreatDoor
open Go.Sx Go.RowKit Go.Reg Go.Gr
set_option maxRecDepth 100000
theorem R5(edges:List Edg)(hm:edges.length<=4294967296):Pure C1 46 [Ip edges] (λy=>y=Ip edges):=by
 have hel:(edges.map dE).length=edges.length:=Ac _
 refine CI Tryz.func46 Tryz.ntmps46 [] [] ?_
 ((conv=>whnf);repeat' ((first|refine odw ?_|refine nx ?_|refine AX (λ_=>?_) (λ_=>?_))<;>conv=>whnf))
 refine BK (ι:=Nat) (λi=>i<=edges.length) (λi=>[(4,.d (.int .i64 i)),(3,.own 300),(0,.d (Ip edges))]) (λi=>[(300,.slice 103 2 ((edges.take i).map dE))]) (λi=>edges.length-i) 0 (λ_=>rfl) (AA _)
  (.own 3 300 103 2 rfl rfl (.refl _ _)) ⟨rfl,rfl,rfl,trivial⟩ ⟨rfl,trivial⟩ ?_
 intro i hi
 refine Fw [] [] ?_
 by_cases hlt:i<edges.length
 ·have hx:=Ab hlt
  generalize edges[i]=e at hx
  have hxd:(edges.map dE)[i]? =some (dE e):=by rw[Al,hx];rfl
  have htl:(edges.take i).length=i:=by rw[B5];omega
  (repeat' ((first|refine A6 ?_ ?_|refine Bq hxd rfl ?_|refine nx ?_|refine AX (λ_=>?_) (λ_=>?_)|exact Bj)<;>conv=>whnf))
  have hfin:(edges.take i).map dE++[dE e]=(edges.take (i+1)).map dE:=by rw[Nv hx,AZ];rfl
  exact⟨i+1,_,_,hlt,.refl _ _,⟨rfl,rfl,rfl,trivial⟩,⟨El hfin,trivial⟩,by omega⟩
 ·have hii:edges.take i=edges:=AN (by omega)
  rw[hii]
  ((conv=>whnf);repeat' ((first|refine odw ?_|refine nx ?_|refine AX (λ_=>?_) (λ_=>?_))<;>conv=>whnf))
  exact rfl
end Go.Proofs.YtjejpdfldmempaaGreatDoor
end
section
namespace Go.Sx
theorem Yq(m:Nat) {e:Int} {K:Int->Prop}(h:e=m)(hm:m<=9223372036854775807)(hK:K (m:Int)):∃n,IntKind.i64.wrap e=n/\K n:=by
 subst h;exact⟨_,FT ⟨by omega,by omega⟩,hK⟩
end Go.Sx
end
section
namespace Go.Gr
open Go.Proofs.YtjejpdfldmempaaGreatDoor
structure Opp where
 kind:Int
 n:Int
def XT(k:Int):Bool:=!(decide (k=1)||decide (k=6)||decide (k=8))
def YU(o:Opp):Int:=if o.kind<1\/8<o.kind then 1 else if o.n<0\/255<o.n\/0<o.n/\XT o.kind=false then 3 else 0
def Ye:Nat->List Edg
 |0=>[]
 |n+1=>Ye n++(List.range n).map λa=>⟨(a:Int),(n:Int)⟩
theorem Sy:∀{n:Nat} {e:Edg},e∈Ye n↔0<=e.a/\e.a<e.b/\e.b<(n:Int)
 |0,e=>by simp[Ye];omega
 |
  n+1,e=>by
  unfold Ye
  rw[Af,Sy,Av]
  constructor
  ·rintro(h|⟨a,ha,rfl⟩)
   ·omega
   ·have:=Bk.1 ha;simp only;omega
  ·rintro⟨h1,h2,h3⟩
   by_cases h:e.b<(n:Int)
   ·exact .inl ⟨h1,h2,h⟩
   ·obtain⟨a,b⟩:=e
    simp only at h1 h2 h3 h
    refine .inr ⟨a.toNat,Bk.2 (by omega),?_⟩
    rw[Int.toNat_of_nonneg h1,show b=(n:Int)by omega]
theorem Sh:∀n,(Ye n).length=n*(n-1)/2
 |0=>rfl
 |
  n+1=>by
  unfold Ye
  rw[Ao,Sh n,Ac,QR,Nat.add_sub_cancel]
  have h:(n+1)*n=n*(n-1)+n*2:=by
   cases n with
   |zero=>rfl
   |succ n=>rw[Nat.add_sub_cancel,<-Nat.mul_add,Nn]
  rw[h,Nat.add_mul_div_right _ _ (by decide)]
end Go.Gr
end
section
namespace Go.Proofs.YtjejpdfldmempaaGreatDoor
open Go.Sx Go.RowKit Go.Reg Go.Gr
set_option maxRecDepth 100000
def WG:List (Nat×Plan):=[(1,.leaf [0,1,0,1,2,0,3] [0,2,1,3,4,5,6] [0,1,0,4,12,31,63])]
def Y0:List FuncId:=[46]
theorem Mk(p:Pt)(hm:p.edges.length<=4294967296):Pure C1 12 [Fv p] (λy=>y=Fv p):=by
 have h:=R5 p.edges hm
 refine CI Tryz.func12 Tryz.ntmps12 Y0 WG ?_
 (conv=>whnf)
 (repeat' ((first|refine A6 ?_ ?_|refine A8 rfl h ?_|refine nx ?_|refine AX (λ_=>?_) (λ_=>?_)|exact Bj)<;>conv=>whnf))
 exact rfl
end Go.Proofs.YtjejpdfldmempaaGreatDoor
end
section
namespace Go.Gr
section
variable {n:Nat} {ok:List Int->Int->Bool}
def YM(n:Nat)(ok:List Int->Int->Bool):Nat->List Int->List (List Int)
 |0,l=>[l]
 |k+1,l=>((List.range n).filter λv:Nat=>ok l v).flatMap λv:Nat=>YM n ok k (l++[(v:Int)])
end
end Go.Gr
end
section
namespace Go.Sx
open Go Go.RowKit Go.Reg
section
variable {C:Cx} {T:ED} {B S:List Nat} {w0 w:World} {n kd:Nat} {fr:Fr} {σ:Sg} {η:Nat->Value} {φ:Nat->List Nat} {a:Act}
def Y8(C:Cx)(f:FuncId):Prop:=∀(w:World) (a:Option Addr) (n c:Nat),n<=c->c<=maxLen->
 (callFunc f #[.slice a n c]).run C.P w=.ok (.enter f #[.slice a n c]) w/\Calls C.P f #[.slice a n c] w λe w'=>e=.returned (.slice a n n)/\w'=w
theorem QF {P:Program} {t:TypeId} {e ee:TyI}(h:TyOk P t e)(hk:e.kd=2)(h2:TyOk P e.elem ee)(hk0:0<ee.size)(hb0:ee.bytes<=1000) {p:Option Addr} {css:List (List Value)}(hrow:∀x∈css,DQ ee.size x)(hcell:css=[]\/∃b o,p=some ⟨b,o,none⟩/\Ds w b o css.flatten)
  {O:List Nat} {es:List Da} {vy:Value} (hy:Src ee.size O w es vy) (hne:es≠[]) (hlen:css.length+es.length<=Ft ee.bytes) (ty:TypeId):
  ∃v' w' css2,(Builtin.append_ #[t,t] ty #[.slice p css.length css.length,vy]).run P w=.ok v' w'/\Sl e.elem ee.size id w' v' (css++css2)/\Ai O w es css2/\(∀x∈css2,DQ ee.size x)/\Tch [] w w'/\(∀b,v'.ownBlock=some b->w.heap.size<=b):=by
 cases p with
 |
  none=>
  have hc:css=[]:=hcell.resolve_right (by rintro⟨b,o,h,_⟩;cases h)
  subst hc
  obtain⟨v',w',css2,g1,g2,g3,g4,g5,g6⟩:=IM (v:=.slice none 0 0) (css:=[]) h hk h2 hk0 hb0 (World.ownsRow_nil w 0 _ _) hy hlen ty
  refine⟨v',w',css2,g1,g2,g3,g4,g5,λb hb=>?_⟩
  rcases g6 with g6|g6
  ·rw[g6]at hb;cases hb
  ·rw[g6]at hb;cases hb;exact Az _
 |
  some ad=>
  obtain⟨d,h1,_,h3,_,_,_,_,h8⟩:=h.desc
  rw[hk]at h8
  cases d<;>simp at h8
  have he:=h3 _ rfl
  subst he
  obtain⟨i,z,hi,hsize,hby,hz,_,_⟩:=h2.info
  obtain⟨av,c,css2,rfl,hr2,hk2,hsrc⟩:=hy.ex
  have hl2:=Cc hr2
  have hfl2:=Gl (λx hx=>(hk2 x hx).1)
  have hfl:=Gl (λx hx=>(hrow x hx).1)
  unfold Ft at hlen
  have hbb:=Nat.mul_le_of_le_div _ _ _ hlen
  have hl0:css.length+es.length<=140737488355328:=CM hlen (Nat.div_le_self _ _)
  have h0:es.length≠0:=λe=>hne (Aw e)
  obtain⟨b,o,rfl,hcl⟩:∃b o,av=some ⟨b,o,none⟩/\Ds w b o css2.flatten:=hsrc.resolve_left hne
  have hnews:=Kn hcl
  have hln:css2.flatten.length=es.length*i.size:=by rw[hfl2,hl2,hsize]
  have hlo:css.flatten.length=css.length*i.size:=by rw[hfl,hsize]
  have holds:∀j u,css.flatten[j]? =some u->w.cell? (ad.add j)=some u:=by
   rcases hcell with rfl|⟨b',o',h',hc'⟩
   ·intro j u hj;simp at hj
   ·cases h';exact Kn hc'
  have hzs:z.cells.size=i.size:=by
   obtain⟨i',z',g1,g2,_,g4,_,g6⟩:=h2.info
   rw[hi]at g1;cases g1
   rw[hz]at g4;cases g4
   have:=DU _ _ (g6 [] w)
   have hsz:=h2.zsize
   simp at this
   omega
  have hx:=run_append_grow (P:=P) w t ty e.elem i z h1 hi hz ad css.length css.length css.flatten hlo holds ⟨b,o,none⟩ es.length c css2.flatten hln hnews (by omega) (by omega) (growslice_fits (by omega) (by rw[hby];omega))
  refine⟨_,_,css2,hx,?_,hr2,hk2,⟨rfl,rfl,rfl,by simp,λk hk _=>by first|exact heap_alloc_old w.drew _ hk|exact heap_alloc_old w.drew _ _ hk⟩,λb hb=>by cases hb;exact Az _⟩
  have hge:=grownCap_ge w (css.length+es.length) css.length e.elem
  have hcm:grownCap w (css.length+es.length) css.length e.elem<=maxLen:=grownCap_le_maxLen w _ _ e.elem (by simp only[maxLen];omega)
  have hlen2:(css.flatten++css2.flatten).length=(css.length+es.length)*i.size:=by rw[Ao,hlo,hln,Cl]
  unfold Sl
  rw[flatMap_id,List.flatten_append,Ao,hl2,<-hsize]
  refine⟨hlen2,.inr ⟨w.heap.size,_,_,rfl,AA _,heap_alloc_new w.drew _,hge,hcm,?_,?_⟩⟩
  ·simp only[Array.size_append,BI,size_zeroCells,hzs,hlo,hln,<-Cl]
   congr 1
   omega
  ·simp only[Array.toList_append,Bl]
   rw[<-Bl,<-hlen2]
   exact List.take_left
end
end Go.Sx
end
section
namespace Go.Gr
open Go.Proofs.YtjejpdfldmempaaGreatDoor
def Hr(n:Nat)(ok:List Int->Int->Bool)(k:Nat)(l:List Int)(v:Nat):List (List Int):=((List.range v).filter λv:Nat=>ok l v).flatMap λv:Nat=>YM n ok k (l++[(v:Int)])
end Go.Gr
end
section
namespace Go.Proofs.YtjejpdfldmempaaGreatDoor
open Go.Sx Go.RowKit Go.Reg Go.Gr
set_option maxRecDepth 100000
def Zq:Da:=.agg [.nils,.nils]
end Go.Proofs.YtjejpdfldmempaaGreatDoor
end
section
namespace Go.Proofs.YtjejpdfldmempaaGreatDoor
open Go.RowKit Go.Reg
theorem Od(t:Nat)(w:World):(callFunc 169 #[.iface 194 (.pointer (some ⟨t,0,none⟩))]).run Tryz.prog w=.ok (.value (.agg #[.pointer (some ⟨5,194,none⟩),.pointer (some ⟨w.heap.size,0,none⟩),.int .u64 150])) (w.alloc (.cells #[.pointer (some ⟨t,0,none⟩)] 194)):=by kernel_rfl
theorem Pj(t o:Nat)(w:World):(callFunc 169 #[.iface 141 (.pointer (some ⟨t,o,none⟩))]).run Tryz.prog w=.ok (.value (.agg #[.pointer (some ⟨5,141,none⟩),.pointer (some ⟨w.heap.size,0,none⟩),.int .u64 150])) (w.alloc (.cells #[.pointer (some ⟨t,o,none⟩)] 141)):=by kernel_rfl
theorem SV(b:Nat)(w:World):(callFunc 170 #[.agg #[.pointer (some ⟨5,194,none⟩),.pointer (some ⟨b,0,none⟩),.int .u64 150]]).run Tryz.prog w=.ok (.value (.iface 293 (.agg #[.pointer (some ⟨5,194,none⟩)]))) w:=by kernel_rfl
theorem QT(b o:Nat)(w:World):(callFunc 224 #[.iface 141 (.pointer (some ⟨b,o,none⟩))]).run Tryz.prog w=.ok (.value (.iface 293 (.agg #[.pointer (some ⟨5,141,none⟩)]))) w:=by kernel_rfl
theorem SY(w:World):(callFunc 305 #[.pointer (some ⟨5,194,none⟩)]).run Tryz.prog w=.ok (.value (.int .u8 22)) w:=by kernel_rfl
theorem Ug(w:World):(callFunc 305 #[.pointer (some ⟨5,141,none⟩)]).run Tryz.prog w=.ok (.value (.int .u8 22)) w:=by kernel_rfl
theorem SZ(w:World):(callFunc 318 #[.agg #[.pointer (some ⟨5,194,none⟩)]]).run Tryz.prog w=.ok (.value (.iface 293 (.agg #[.pointer (some ⟨5,141,none⟩)]))) w:=by kernel_rfl
theorem Uh(w:World):(callFunc 319 #[.agg #[.pointer (some ⟨5,141,none⟩)],.iface 293 (.agg #[.pointer (some ⟨5,39,none⟩)])]).run Tryz.prog w=.ok (.value (.bool true)) w:=by kernel_rfl
theorem QU(w:World):(callFunc 316 #[.agg #[.pointer (some ⟨5,141,none⟩)],.iface 293 (.agg #[.pointer (some ⟨5,141,none⟩)])]).run Tryz.prog w=.ok (.value (.bool true)) w:=by kernel_rfl
theorem Wg(b:Nat)(w:World):(method 473 293 (.agg #[.pointer (some ⟨5,b,none⟩)]) "Kind").run Tryz.prog w=.ok (305,.pointer (some ⟨5,b,none⟩)) w:=by kernel_rfl
theorem Wi(b:Nat)(w:World):(method 473 293 (.agg #[.pointer (some ⟨5,b,none⟩)]) "Elem").run Tryz.prog w=.ok (318,.agg #[.pointer (some ⟨5,b,none⟩)]) w:=by kernel_rfl
theorem Wh(b:Nat)(w:World):(method 473 293 (.agg #[.pointer (some ⟨5,b,none⟩)]) "Implements").run Tryz.prog w=.ok (319,.agg #[.pointer (some ⟨5,b,none⟩)]) w:=by kernel_rfl
theorem SX(b:Nat)(w:World):(method 473 293 (.agg #[.pointer (some ⟨5,b,none⟩)]) "AssignableTo").run Tryz.prog w=.ok (316,.agg #[.pointer (some ⟨5,b,none⟩)]) w:=by kernel_rfl
theorem Wj(b t:Nat)(w:World)(h:w.cell? ⟨b,0,none⟩=some (.pointer (some ⟨t,0,none⟩))):(callFunc 171 #[.agg #[.pointer (some ⟨5,194,none⟩),.pointer (some ⟨b,0,none⟩),.int .u64 150]]).run Tryz.prog w=.ok (.value (.bool false)) w:=
 CP _ [.pointer (some ⟨t,0,none⟩)] [] (es:=[ld ⟨b,0,none⟩ (.pointer (some ⟨t,0,none⟩))]) (by kernel_rfl) ⟨h,rfl⟩
theorem Ui(b t:Nat)(w:World)(h:w.cell? ⟨b,0,none⟩=some (.pointer (some ⟨t,0,none⟩))):(callFunc 225 #[.agg #[.pointer (some ⟨5,194,none⟩),.pointer (some ⟨b,0,none⟩),.int .u64 150]]).run Tryz.prog w=.ok (.value (.agg #[.pointer (some ⟨5,141,none⟩),.pointer (some ⟨t,0,none⟩),.int .u64 406])) w:=
 CP _ [.pointer (some ⟨t,0,none⟩)] [] (es:=[ld ⟨b,0,none⟩ (.pointer (some ⟨t,0,none⟩))]) (by kernel_rfl) ⟨h,rfl⟩
theorem YA(t b:Nat)(v:Value)(f o:Nat)(w:World)(h:w.cell? ⟨b,0,none⟩=some (.pointer (some ⟨f,o,none⟩)))(ht:w.cell? ⟨t,0,none⟩=some v)(hz:w.frozen? ⟨t,0,none⟩=false):(callFunc 226 #[.agg #[.pointer (some ⟨5,141,none⟩),.pointer (some ⟨t,0,none⟩),.int .u64 406],.agg #[.pointer (some ⟨5,141,none⟩),.pointer (some ⟨b,0,none⟩),.int .u64 150]]).run Tryz.prog w=.ok (.value (.tuple #[])) (w.setCell ⟨t,0,none⟩ (.pointer (some ⟨f,o,none⟩))):=
 CP _ [.pointer (some ⟨f,o,none⟩)] [] (es:=[ld ⟨b,0,none⟩ (.pointer (some ⟨f,o,none⟩)),st ⟨t,0,none⟩ (.pointer (some ⟨f,o,none⟩))]) (by kernel_rfl) ⟨h,rfl,⟨_,ht⟩,hz,rfl⟩
end Go.Proofs.YtjejpdfldmempaaGreatDoor
end
section
namespace Go.Proofs.YtjejpdfldmempaaGreatDoor
open Go.RowKit Go.Reg
def Wd(w:World):Prop:=w.cell? ⟨0,0,none⟩=some (.iface 293 (.agg #[.pointer (some ⟨5,39,none⟩)]))
set_option maxRecDepth 100000 in
set_option maxHeartbeats 1000000 in
theorem Xm(f o t b:Nat)(v:Value)(w:World)(hb:w.cell? ⟨b,0,none⟩=some (.pointer (some ⟨t,0,none⟩)))(hf:w.cell? ⟨t,0,none⟩=some v)(hz:w.frozen? ⟨t,0,none⟩=false)(ht:t<w.heap.size)(hbs:b<w.heap.size):
  Calls Tryz.prog 172 #[.iface 141 (.pointer (some ⟨f,o,none⟩)),.iface 194 (.pointer (some ⟨t,0,none⟩)),.agg #[.pointer (some ⟨5,194,none⟩),.pointer (some ⟨b,0,none⟩),.int .u64 150],.iface 293 (.agg #[.pointer (some ⟨5,141,none⟩)])] w
   λe w'=>e=.returned (.bool true)/\w'.cell? ⟨t,0,none⟩=some (.pointer (some ⟨f,o,none⟩))/\Tch [t] w w':=by
 have e1:=QT
 have e2:=SX
 have e3:=QU
 have e4:=λw' (h:w'.cell? ⟨b,0,none⟩=some (.pointer (some ⟨t,0,none⟩)))=>Ui b t w' h
 have e5:=Pj f o
 have hT:Tch [] w ((w.alloc (.cells #[.pointer (some ⟨5,194,none⟩),.pointer (some ⟨b,0,none⟩),.int .u64 150] 248)).alloc (.cells #[.pointer (some ⟨f,o,none⟩)] 141)):=((Tch.refl [] w).andAlloc _).andAlloc _
 have hN:((w.alloc (.cells #[.pointer (some ⟨5,194,none⟩),.pointer (some ⟨b,0,none⟩),.int .u64 150] 248)).alloc (.cells #[.pointer (some ⟨f,o,none⟩)] 141)).cell? ⟨w.heap.size+1,0,none⟩=some (.pointer (some ⟨f,o,none⟩)):=by
  simp
 have hFz:((w.alloc (.cells #[.pointer (some ⟨5,194,none⟩),.pointer (some ⟨b,0,none⟩),.int .u64 150] 248)).alloc (.cells #[.pointer (some ⟨f,o,none⟩)] 141)).frozen? ⟨t,0,none⟩=false:=by rw[World.frozen?_of_block (w:=w) (hT.blk t ht (by simp))];exact hz
 have e6:=YA t (w.heap.size+1) v f o _ hN (hT.cell hf (by simp)) hFz
 have HC:=Eh hf
 clear hT hN hFz
 go_enter Tryz.func172,Tryz.ntmps172
 go_wp2_with fail
 refine wp_loop_once ?_
 go_wp2_with fail
 go_ret
 refine⟨rfl,?_,((Tch.setCell w (.inl (by simp)) _).andAlloc _).andAlloc _⟩
 exact(((Tch.refl [] _).andAlloc _).andAlloc _).cell (World.cell?_setCell_same _ _ _ HC.out) (by simp)
set_option maxRecDepth 100000 in
set_option maxHeartbeats 1000000 in
theorem Yy(f o t:Nat)(v:Value)(w:World)(hf:w.cell? ⟨t,0,none⟩=some v)(hz:w.frozen? ⟨t,0,none⟩=false)(ht:t<w.heap.size)(h0:Wd w):
  Calls Tryz.prog 115 #[.iface 141 (.pointer (some ⟨f,o,none⟩)),.iface 194 (.pointer (some ⟨t,0,none⟩))] w
   λe w'=>e=.returned (.bool true)/\w'.cell? ⟨t,0,none⟩=some (.pointer (some ⟨f,o,none⟩))/\Tch [t] w w':=by
 unfold Wd at h0
 have hs0:0<w.heap.size:=by omega
 have e1:=Od t
 have e2:=SV
 have e3:=Wg
 have e4:=SY
 have e5:=Wi
 have e6:=SZ
 have e7:=λw' (h:w'.cell? ⟨w.heap.size,0,none⟩=some (.pointer (some ⟨t,0,none⟩)))=>Wj w.heap.size t w' h
 have e8:=Ug
 have e9:=Wh
 have e10:=Uh
 have hT:Tch [] w ((w.alloc (.cells #[.pointer (some ⟨t,0,none⟩)] 194)).alloc (.cells #[.pointer (some ⟨5,194,none⟩),.pointer (some ⟨w.heap.size,0,none⟩),.int .u64 150] 248)):=((Tch.refl [] w).andAlloc _).andAlloc _
 have HT:=Eh hT
 have HF:=Eh (hT.cell hf (by simp))
 have HB:=Eh (((Tch.refl [] (w.alloc (.cells #[.pointer (some ⟨t,0,none⟩)] 194))).andAlloc (.cells #[.pointer (some ⟨5,194,none⟩),.pointer (some ⟨w.heap.size,0,none⟩),.int .u64 150] 248)).cell ((F3.new w 194 [.pointer (some ⟨t,0,none⟩)]).cell (i:=0) rfl) (by simp))
 have HZ:=Eh (show((w.alloc (.cells #[.pointer (some ⟨t,0,none⟩)] 194)).alloc (.cells #[.pointer (some ⟨5,194,none⟩),.pointer (some ⟨w.heap.size,0,none⟩),.int .u64 150] 248)).frozen? ⟨t,0,none⟩=false by rw[World.frozen?_of_block (w:=w) (hT.blk t ht (by simp))];exact hz)
 clear hT hf hz
 go_enter Tryz.func115,Tryz.ntmps115
 go_wp2_with fail
 refine(Xm f o t w.heap.size v _ HB.out HF.out HZ.out (by simp;omega) (by simp;omega)).mono ?_
 rintro e w' ⟨rfl,hc,hT⟩
 go_wp2_with fail
 go_ret
 exact⟨rfl,hc,(HT.out).ahead0 hT⟩
set_option maxRecDepth 100000 in
theorem RB(f o:Nat)(w:World)(h0:Wd w)(_hs:0<w.heap.size):
  Calls Tryz.prog 74 #[.iface 141 (.pointer (some ⟨f,o,none⟩))] w λe w'=>e=.returned (.pointer (some ⟨f,o,none⟩))/\Tch [] w w':=by
 have HN:=Eh (F3.new w 141 [.pointer none])
 have H0:=Eh (show Wd (w.alloc (.cells #[.pointer none] 141))from(Tch.alloc w _ []).cell h0 (by simp))
 clear h0
 go_enter Tryz.func74,Tryz.ntmps74
 go_wp2_with fail
 refine(Yy f o w.heap.size (.pointer none) _ (HN.out.cell (i:=0) rfl) (HN.out.frozen 0) (by simp) H0.out).mono ?_
 rintro e w' ⟨rfl,hc,hT⟩
 have HT:=Eh ((Tch.alloc w (.cells #[.pointer none] 141) []).trans hT (T:=[]) (λ_ h=>h) (λx hx=>.inr (by simp at hx;omega)))
 clear hT
 go_wp2_with fail
 go_ret
 exact⟨rfl,HT.out⟩
end Go.Proofs.YtjejpdfldmempaaGreatDoor
end
section
namespace Go.Proofs.YtjejpdfldmempaaGreatDoor
open Go.Sx Go.RowKit Go.Reg
set_option maxRecDepth 100000
theorem TM {O:List Nat} {w:World}(h:Glob C1 O w):Wd w/\0∉O:=by
 obtain⟨cs,h1,h2⟩:=(h _ (List.mem_singleton_self _)).1
 simp only[RepC]at h1
 obtain⟨b,o,c,rfl,hb,_,rfl,hc⟩:=h1
 simp only[EB,MV,Value.pointer.injEq,Ax,Addr.mk.injEq,and_true]at h2
 obtain⟨rfl,rfl⟩:=h2
 exact⟨hc 0 _ rfl,hb⟩
theorem Q0(c a:Int)(s:ByteArray):Pure C1 74 [dF c a s] (λy=>y=.ref (.agg [.int .i64 c,.int .i64 a,.str s])):=by
 intro O w us hO hg hr
 obtain⟨v,vs,rfl,h1,h2⟩:=D7 hr
 obtain rfl:=Ee h2
 obtain⟨cs,r,rfl⟩:=h1
 simp only[dF,RepC]at r
 obtain⟨c2,⟨b,o,c3,rfl,r1,r2,r3,r4⟩,rfl⟩:=r
 obtain⟨hE,h0⟩:=TM hg
 refine⟨by kernel_rfl,(RB b o w hE (by omega)).mono ?_⟩
 rintro e w' ⟨rfl,ht⟩
 refine⟨_,_,rfl,rfl,⟨[_],?_,rfl⟩,ht⟩
 have:=RepC.later (Later.same ht O) (.ref (.agg [.int .i64 c,.int .i64 a,.str s])) [.pointer (some ⟨b,o,none⟩)] (by simp only[RepC];exact⟨b,o,c3,rfl,r1,r2,r3,r4⟩)
 exact this
theorem TR(c a:Int)(s:ByteArray):Pure C1 24 [dF c a s] (λy=>y=.int .i64 c):=by
 refine CI Tryz.func24 Tryz.ntmps24 [] [] ?_
 ((conv=>whnf);repeat' (first|(refine OR (by first|omega|rfl|assumption|exact⟨rfl,rfl⟩|exact⟨rfl,rfl,rfl⟩|exact⟨rfl,rfl,rfl,rfl⟩) ?_;conv=>whnf)|(refine SA (by first|omega|assumption|exactλh=>h rfl|exactλh=>h (by assumption)|exactλh=>h ⟨rfl,rfl⟩|exactλh=>h ⟨rfl,rfl,rfl⟩|exactλh=>h ⟨rfl,rfl,rfl,rfl⟩) ?_;conv=>whnf)|(refine OS (by omega) ?_;conv=>whnf)|(refine SQ rfl (by assumption) ?_;conv=>whnf)|(refine Ih (by(try simp only[Ao,Ac,Au,Bh]);omega) ?_;conv=>whnf)|(refine O8 (by first|decide|omega) ?_;conv=>whnf)|(refine SB (λ_=>?_) (λ_=>?_)<;>conv=>whnf)))
 refine Gq rfl (Q0 c a s) ?_;rintro y rfl
 ((conv=>whnf);repeat' (first|(refine OR (by first|omega|rfl|assumption|exact⟨rfl,rfl⟩|exact⟨rfl,rfl,rfl⟩|exact⟨rfl,rfl,rfl,rfl⟩) ?_;conv=>whnf)|(refine SA (by first|omega|assumption|exactλh=>h rfl|exactλh=>h (by assumption)|exactλh=>h ⟨rfl,rfl⟩|exactλh=>h ⟨rfl,rfl,rfl⟩|exactλh=>h ⟨rfl,rfl,rfl,rfl⟩) ?_;conv=>whnf)|(refine OS (by omega) ?_;conv=>whnf)|(refine SQ rfl (by assumption) ?_;conv=>whnf)|(refine Ih (by(try simp only[Ao,Ac,Au,Bh]);omega) ?_;conv=>whnf)|(refine O8 (by first|decide|omega) ?_;conv=>whnf)|(refine SB (λ_=>?_) (λ_=>?_)<;>conv=>whnf)))
 all_goals exact rfl
end Go.Proofs.YtjejpdfldmempaaGreatDoor
end
