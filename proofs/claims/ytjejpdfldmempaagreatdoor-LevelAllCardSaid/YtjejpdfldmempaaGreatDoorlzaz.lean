/- Merged: Dlg Vof Vta Vtc Lvx Lvo Lvk Lvq Pgo Pgq Lve. -/
import Derived.Test.YtjejpdfldmempaaGreatDoorlzax
import Derived.Test.YtjejpdfldmempaaGreatDoorlzau
import Derived.Test.YtjejpdfldmempaaGreatDoorlzay
import Derived.Test.YtjejpdfldmempaaGreatDoorlzaw
import Derived.Test.YtjejpdfldmempaaGreatDoorlzav
section
namespace Go.Reg
open Go Go.RowKit Go.Sort Go.Proofs
abbrev encV(v:Value):List Value:=[v]
theorem GB(l:List Value):l.flatMap encV=l:=by induction l with
 |nil=>rfl
 |cons v l ih=>rw[Bp,ih];rfl
abbrev Lk:Value:=.slice none 0 0
theorem Sl.zeroV {P:Program} {E:Nat} {w:World} {l:List Value} {g c:Nat}(h:Sl E 1 encV w (.slice (some ⟨g,0,none⟩) l.length c) l) {m:Nat}(hm:m<=l.length):
  ∃w',(storeCells ⟨g,m,none⟩ (List.replicate (l.length-m) Lk)).run P w=.ok () w'/\Sl E 1 encV w' (.slice (some ⟨g,0,none⟩) l.length c) (l.take m++List.replicate (l.length-m) Lk)/\Tch [g] w w':=by
 rcases h.2 with⟨h1,_⟩|⟨g',cap',cur,h1,h0,hg,hc,hmx,hs,ht⟩
 ·cases h1
 ·cases h1
  rw[EO]at hs
  have hsz:l.length<=cur.size:=by omega
  have hr:=run_storeCells_at P g m E (List.replicate (l.length-m) Lk) 0 cur w hg (by rw[Bu];omega) (by intro v hv;rw[YO hv];rfl)
  rw[Dd,Bu]at hr
  have hl2:(l.take m++List.replicate (l.length-m) Lk).length=l.length:=by rw[Ah,As,Bu];omega
  have e0:m+(l.length-m)=l.length:=by omega
  rw[e0]at hr
  refine⟨_,hr,?_,⟨rfl,rfl,rfl,by simp[World.setRow],λj hj hn=>by
    have:g≠j:=λe=>hn (by simp[e])
    simp[World.setRow,Cp,this]⟩⟩
  unfold Sl
  rw[GB,hl2]
  refine⟨by omega,.inr ⟨g,c,(cur.toList.take m++List.replicate (l.length-m) Lk++cur.toList.drop l.length).toArray,rfl,Aj _,setRow_heap w g cur _ E (0,0) hg,hc,hmx,?_,?_⟩⟩
  ·simp;omega
  ·rw[GB,EO]at ht
   rw[EO]
   have h1:(cur.toList.take m++List.replicate (l.length-m) Lk).length=l.length:=by simp;omega
   rw[Bg (by omega),Ak (by omega),<-ht,Gd,G7 hm]
end Go.Reg
namespace Go.Sx
open Go Go.RowKit Go.Reg Go.Gr Go.Proofs Go.Proofs.YtjejpdfldmempaaGreatDoor
def Jf(E:Nat)(l:List Value)(m g c:Nat):Absn where
 R w v F:=v=.slice (if c=m then some ⟨g,0,none⟩else some ⟨g,m,none⟩) (l.length-m) (c-m)/\F=[g]/\m<=l.length/\Sl E 1 encV w (.slice (some ⟨g,0,none⟩) l.length c) l
 keep:=by
  rintro S w w' v F ⟨rfl,rfl,hm,h⟩ t hd
  exact⟨rfl,rfl,hm,h.keep t (λb hb=>by simp[Value.ownBlock]at hb;subst hb;exact hd g (by simp))⟩
 lt:=by
  rintro w v F ⟨rfl,rfl,hm,h⟩ x hx
  simp at hx;subst hx
  exact h.lt rfl
 one:=by rintro w v F ⟨rfl,rfl,hm,h⟩;rfl
theorem Vi {O:List Nat} {w:World}:∀{ds:List Da} {css:List (List Value)},Am O w ds css->(∀x∈css,Ec 1 x)->∃vs:List Value,css=vs.map encV/\vs.length=ds.length
 |[],css,h,_=>by simp only[Am]at h;subst h;exact⟨[],rfl,rfl⟩
 |
  d::ds,css,h,hr=>by
  simp only[Am]at h
  obtain⟨c1,c2,rfl,_,h2⟩:=h
  obtain⟨vs,rfl,hl⟩:=Vi h2 λx hx=>hr x (AE _ hx)
  obtain⟨v,rfl⟩:=Ch.1 (hr c1 CT).1
  exact⟨v::vs,rfl,by rw[A4,A4,hl]⟩
theorem YU {E:Nat} {w:World} {v:Value} {l:List Value}:Sl E 1 id w v (l.map encV)↔Sl E 1 encV w v l:=by
 unfold Sl
 rw[Ab,List.flatMap_id,GB]
 rw[show(l.map encV).flatten=l from by rw[<-List.flatMap_def];exact GB l]
theorem Uj:∀{ds:List Da} {vs:List Value},(∀d∈ds,d.one=true)->vs.length=ds.length->List.zipWith Ft ds (vs.map encV)=vs
 |[],[],_,_=>rfl
 |[],_::_,_,h=>by cases h
 |_::_,[],_,h=>by cases h
 |
  d::ds,v::vs,h1,h2=>by
  rw[Au,AT,Uj (λd hd=>h1 d (AE _ hd)) (by simpa using h2),Pa (h1 d CT)];rfl
section
variable {C:Cx} {T:FF} {n kd:Nat} {fr:Fr} {σ:Sg} {E i:Nat} {l:List Value} {o:Oper} {K:Fr->Sg->Prop} {B S:List Nat} {w0 w w':World} {η:Nat->Value} {φ:Nat->List Nat} {a:Act}
theorem Models.pins(hM:Models C B S w0 n fr σ η φ a w) {g:Nat}(hg:BP g σ=none) {xs:List Da} {us:List Value} {css:List (List Value)}(hr:Am (B++Al φ σ) w xs css)(hu:us=List.zipWith Ft xs css):Models C B S w0 n fr ((g,.ghost [.tuple us.toArray] [.d (.tuple xs)])::σ) (DB η g .nilFunc) (DB φ g []) a w:=by
 have hi':=Dy hg
 obtain⟨hm,hl⟩:=hM.mem.add (Tch.refl [] w) hi' (v:=.nilFunc) (F:=[]) (o:=.ghost [.tuple us.toArray] [.d (.tuple xs)]) (by simp) ⟨rfl,rfl,[[.tuple us.toArray]],by simp only[A9,A7,RepC];exact⟨_,_,rfl,⟨css,hr,by rw[hu]⟩,rfl⟩,rfl⟩
 exact⟨hm,hM.fr.add hi' hl,hM.defers,hM.size⟩
theorem gL:∀{σ:Sg} {i:Nat},i∉B3 σ->BP i σ=none
 |[],_,_=>rfl
 |
  (j,o)::σ,i,h=>by
  cases hs:BP i ((j,o)::σ)with
  |none=>rfl
  |some q=>exact absurd (AY (Bm hs)) h
theorem jI(m gh:Nat) {ds:List Da} {t:TypeId} {x lo:Operand} {e ee:TyI}(hC:C.Ok T)(i:Nat)(ho:o.op=.slice t x (some lo) none none)(he:Fz t T=some e)(hk2:e.kd=2)(hee:Fz e.elem T=some ee)(h1:ee.size=1)(hx:ev C.Γ fr x=.own i)(hg:BP i σ=some (.slice E 1 ds))(hgh:BP gh σ=none)(hone:∀d∈ds,d.one=true) {mi:Int}(hlo:ev C.Γ fr lo=.d (.int .i64 mi))(hmi:mi=m)(hm:m<=ds.length)(hl:ds≠[])(hkd:kd≠5/\kd≠2)(hd:Dv o.dst n=true)
  (hK:∀g c vs,vs.length=ds.length->Fk (EZ i (.raw (.slice (some ⟨g,0,none⟩) ds.length c)) fr) λfr=>Cf (F0 gh (.ghost [.tuple (vs.take m).toArray] [.d (.tuple (ds.take m))]) (BG (BH i (.raw (.slice (some ⟨g,0,none⟩) ds.length c))) i (Jf E vs m g c).own σ)) λσ=>K (C4 o.dst (.own i) fr) σ):Bd C n kd o K fr σ:=by
 subst hmi
 refine CO hkd.1 hkd.2 λB S w0 η φ a w hM=>⟨λ_=>by simp[Bo,ho],.inl ?_⟩
 obtain⟨css,hs,e2,hrr,hkk⟩:=B8 hM.mem hg
 obtain⟨vs,rfl,hvl⟩:=Vi hrr hkk
 have hs1:=YU.1 hs
 rcases hs1.shape with⟨_,rfl⟩|⟨g,cap,e3,hc⟩
 ·exact absurd (AF hvl.symm) hl
 have ex:=IH (Be hM x) hx
 have elo:=Gf (Ff (Be hM lo) hlo)
 rw[hvl]at e3 hc
 have hr:=EQ (w:=w) (hC.ty he) hk2 (hC.ty hee) (ad:=some ⟨g,0,none⟩) (len:=ds.length) (cap:=cap) hc (lo:=some (.int .i64 m)) (hi:=none) (l:=m) (m:=ds.length) ⟨_,rfl⟩ rfl hm (Az _)
 have hi:=AY (Bm hg)
 have hF:∀b∈[g],b∈φ i\/w.heap.size<=b:=λb hb=>.inl (by rw[e2,e3];simpa[Value.ownBlock]using hb)
 have hl2:=Later.turn (σ:=σ) B (Tch.refl [] w) (X:=[]) (by simp) hi hF (BH i (.raw (.slice (some ⟨g,0,none⟩) ds.length cap))) (Jf E vs m g cap).own
 have hM':=hM.turnRaw (Tch.refl [] w) (by simp) hi (v:=.slice (if cap=m then some ⟨g,0,none⟩else some ⟨g,m,none⟩) (ds.length-m) (cap-m)) (F:=[g]) hF (x:=.raw (.slice (some ⟨g,0,none⟩) ds.length cap)) rfl (λO w=>by simp only[RepC];rw[e3]) (ow:=(Jf E vs m g cap).own) (show(Jf E vs m g cap).R _ _ _ from⟨by rw[hvl],rfl,by rw[hvl];exact hm,by rw[hvl,<-e3];exact hs1⟩)
 have hgh':BP gh (BG (BH i (.raw (.slice (some ⟨g,0,none⟩) ds.length cap))) i (Jf E vs m g cap).own σ)=none:=gL (by rw[By];exact Dy hgh)
 have hne:i≠gh:=λe=>by rw[e,hgh]at hg;cases hg
 have hM2:=(hM'.pins hgh' (xs:=ds.take m) (us:=vs.take m) (css:=(vs.take m).map encV) (by rw[CW];exact J1 (Am.later hl2 _ _ hrr) m) (by rw[Uj (λd hd=>hone d (Ek hd)) (by rw[As,As,hvl])])).perm (DC gh _ _)
 have hk:=hK g cap vs hvl
 rw[DD,Bz]at hk
 refine⟨_,w,?_,_,_,_,_,hM2.put hd (d:=.own i) ⟨[.slice (if cap=m then some ⟨g,0,none⟩else some ⟨g,m,none⟩) (ds.length-m) (cap-m)],by simp only[A7];exact⟨by unfold B3;rw[((DC gh _ _).map _).mem_iff];exact AE _ (by have:=By (BH i (.raw (.slice (some ⟨g,0,none⟩) ds.length cap))) i (Jf E vs m g cap).own σ;unfold B3 at this;rw[this];exact hi),by rw[CD _ _ _ hne,Db]⟩,rfl⟩,hk⟩
 simp only[execOp,ho,CV,mV]
 rw[ex,elo,e3]
 refine Df ?_
 rw[hr]
 congr 2
 split
 ·rfl
 ·simp[CH,h1]
theorem bX {m g c:Nat} {cl:Call} {t:TypeId} {x:Operand} {e:TyI}(hC:C.Ok T)(i:Nat)(ho:o.op=.call cl)(hcl:cl.callee=.builtin .clear)(hxs:cl.args.toList=[x])(hts:cl.argTypes.toList=[t])(he:Fz t T=some e)(hk2:e.kd=2)(hz:∀w,(zeroValue e.elem).run C.P w=.ok Lk w)(hx:ev C.Γ fr x=.own i)(hg:BP i σ=some (Jf E l m g c).own)(hkd:kd≠5/\kd≠2)(hd:Dv o.dst n=true)
  (hK:Cf (BG id i (Jf E (l.take m++List.replicate (l.length-m) Lk) m g c).own σ) λσ=>K (C4 o.dst (.d (.tuple [])) fr) σ):Bd C n kd o K fr σ:=by
 rw[Bz]at hK
 refine CO hkd.1 hkd.2 λB S w0 η φ a w hM=>⟨λ_=>by simp[Bo,ho],.inl ?_⟩
 have ex:=IH (Be hM x) hx
 obtain⟨ev1,ev2,hm,hs⟩:=Ps hM hg
 have hi:=AY (Bm hg)
 have e1:cl.args=#[x]:=by apply Dx;simpa using hxs
 have e2:cl.argTypes=#[t]:=by apply Dx;simpa using hts
 obtain⟨dd,g1,_,g3,_,_,_,_,g8⟩:=(hC.ty he).desc
 rw[hk2]at g8
 have hdd:∃el,dd=.slice el:=by cases dd<;>simp at g8<;>exact⟨_,rfl⟩
 obtain⟨el,rfl⟩:=hdd
 have hel:=g3 _ rfl
 subst hel
 have hl2:(l.take m++List.replicate (l.length-m) Lk).length=l.length:=by rw[Ah,As,Bu];omega
 have step:∀w1,Tch [g] w w1->Sl E 1 encV w1 (.slice (some ⟨g,0,none⟩) l.length c) (l.take m++List.replicate (l.length-m) Lk)->Hn C B S w0 n K (a.put o.dst (.tuple #[])) w1:=λw1 ht hs'=>by
  have hX:∀b∈[g],b∈φ i:=λb hb=>by rw[ev2];exact hb
  have hF:∀b∈φ i,b∈φ i\/w.heap.size<=b:=λb hb=>.inl hb
  have hlt:=Later.turn (σ:=σ) B ht hX hi hF id (Jf E (l.take m++List.replicate (l.length-m) Lk) m g c).own
  have hmm:=hM.mem.turnSame (o:=(Jf E (l.take m++List.replicate (l.length-m) Lk) m g c).own) ht hX hi hF (show(Jf E (l.take m++List.replicate (l.length-m) Lk) m g c).R _ _ _ from⟨by rw[hl2];exact ev1,ev2,by rw[hl2];exact hm,by rw[hl2];exact hs'⟩)
  rw[LB]at hmm hlt
  have M':Models C B S w0 n fr _ η φ a w1:=⟨hmm,hM.fr.later hlt (λj hj=>⟨by rw[By];exact hj,rfl⟩),hM.defers,hM.size⟩
  exact⟨_,_,_,_,M'.put hd (d:=.d (.tuple [])) ⟨[.tuple #[]],by simp[A7,RepC,Am],rfl⟩,hK⟩
 have exec:∀w1,(Builtin.clear_ #[t] o.type #[η i]).run C.P w=.ok (.tuple #[]) w1->(execOp a.eval o).run C.P w=.ok (.value (.tuple #[])) w1:=λw1 h=>by
  simp only[execOp,ho,resolve,hcl,A6,Bb,A3,invoke,builtin,e1,e2,I4,Au,BI,ex]
  rw[h];rfl
 by_cases hml:m=l.length
 ·refine⟨_,w,exec w ?_,step w (Tch.refl _ _) ?_⟩
  ·rw[ev1,hml,Gu]
   generalize (if c=l.length then(some ⟨g,0,none⟩:Option Addr)else some ⟨g,l.length,none⟩)=ad
   cases ad<;>simp[Builtin.clear_,run_underlying g1]
  ·rw[hml,Gu,De];simpa using hs
 ·obtain⟨w1,r1,r2,r3⟩:=hs.zeroV (P:=C.P) hm
  refine⟨_,w1,exec w1 ?_,step w1 r3 r2⟩
  have hcm:c≠m:=by
   rcases hs.shape with⟨h,_⟩|⟨_,_,h,h2⟩
   ·cases h
   ·cases h;omega
  obtain⟨k,hk⟩:∃k,l.length-m=k+1:=⟨l.length-m-1,by omega⟩
  have hzc:(Builtin.zeroCells (Lk).cells (k+1)).toList=List.replicate (k+1) Lk:=by
   apply List.ext_getElem
   ·simp[Builtin.zeroCells,Value.cells]
   ·intro j h1 h2
    simp[Builtin.zeroCells,Value.cells,Nat.mod_one]
  rw[ev1,if_neg hcm,hk]
  rw[hk]at r1
  simp[Builtin.clear_,run_underlying g1,hz,hzc,r1]
theorem UN {O:List Nat} {w:World}:∀{ds:List Da} {css:List (List Value)},Am O w ds css->(∀d∈ds,d.one=true/\d.stor=true)->css=(List.zipWith Ft ds css).map encV/\∀x∈css,Ec 1 x
 |[],css,h,_=>by simp only[Am]at h;subst h;exact⟨rfl,λx hx=>by cases hx⟩
 |
  d::ds,css,h,ho=>by
  simp only[Am]at h
  obtain⟨c1,c2,rfl,h1,h2⟩:=h
  obtain⟨g1,g2⟩:=UN h2 λd hd=>ho d (AE _ hd)
  obtain⟨o1,o2⟩:=ho d CT
  have hlen:c1.length=1:=by
   have:=E9 d c1 h1
   rw[this]
   cases d<;>first|rfl|cases o1
  have hrow:Ec 1 c1:=⟨hlen,J2 d c1 o2 h1⟩
  obtain⟨v,rfl⟩:=Ch.1 hlen
  rw[AT,Au,Pa o1,<-g1]
  exact⟨rfl,λx hx=>by
   rcases An.1 hx with e|e
   ·rw[e];exact hrow
   ·exact g2 x e⟩
theorem jJ {m g c gh:Nat} {us:List Value} {ds:List Da} {t:TypeId} {x hi:Operand} {e ee:TyI}(hC:C.Ok T)(i:Nat)(ho:o.op=.slice t x none (some hi) none)(he:Fz t T=some e)(hk2:e.kd=2)(hee:Fz e.elem T=some ee) {nn:Nat}(hx:ev C.Γ fr x=.d (.raw (.slice (some ⟨g,0,none⟩) nn c)))(hnn:nn=l.length)(hg:BP i σ=some (Jf E l m g c).own)(hgh:BP gh σ=some (.ghost [.tuple us.toArray] [.d (.tuple ds)]))(hus:l.take m=us)(_hdl:ds.length=m)(hone:∀d∈ds,d.one=true/\d.stor=true) {mi:Int}(hhi:ev C.Γ fr hi=.d (.int .i64 mi))(hmi:mi=m)(hkd:kd≠5/\kd≠2)(hd:Dv o.dst n=true)
  (hK:Fk (EZ i .undef fr) λfr=>Cf (BG (BH i .undef) i (.slice E 1 ds) σ) λσ=>K (C4 o.dst (.own i) fr) σ):Bd C n kd o K fr σ:=by
 subst hmi
 subst hnn
 rw[DD,Bz]at hK
 refine CO hkd.1 hkd.2 λB S w0 η φ a w hM=>⟨λ_=>by simp[Bo,ho],.inl ?_⟩
 obtain⟨ev1,ev2,hm,hs⟩:=Ps hM hg
 have hii:=AY (Bm hg)
 have ex:a.eval x=.slice (some ⟨g,0,none⟩) l.length c:=by
  obtain⟨cs,h1,h2⟩:=Ff (Be hM x) hx
  simp only[RepC]at h1
  subst h1;exact h2
 have ehi:=Gf (Ff (Be hM hi) hhi)
 have hlc:l.length<=c:=by
  rcases hs.shape with⟨h,_⟩|⟨_,_,h,h2⟩
  ·cases h
  ·cases h;exact h2
 have hr:=EQ (w:=w) (hC.ty he) hk2 (hC.ty hee) (ad:=some ⟨g,0,none⟩) (len:=l.length) (cap:=c) hlc (lo:=none) (hi:=some (.int .i64 m)) (l:=0) (m:=m) rfl ⟨_,rfl⟩ (Aj _) hm
 have hs':Sl E 1 encV w (.slice (some ⟨g,0,none⟩) m c) (l.take m):=by
  have hlm:(l.take m).length=m:=by rw[As];omega
  rcases hs.2 with⟨h1,_⟩|⟨g',cap',cur,h1,h0,hgg,hc,hmx,hsz,ht⟩
  ·cases h1
  ·cases h1
   unfold Sl
   rw[GB,hlm]
   refine⟨by omega,.inr ⟨g,c,cur,rfl,Aj _,hgg,by omega,hmx,hsz,?_⟩⟩
   rw[GB]at ht
   rw[<-ht,Gd,EO,EO,G7 hm]
 obtain⟨_,_,qss,hrr,huz⟩:=hM.mem.own _ (Bm hgh)
 simp only[A9,A7,RepC]at hrr
 obtain⟨_,_,rfl,⟨css,hrr,rfl⟩,rfl⟩:=hrr
 have huz:us=List.zipWith Ft ds css:=by simpa[BR,Ft]using huz
 have hF:∀b∈(Value.slice (some ⟨g,0,none⟩) m c).ownBlock.toList,b∈φ i\/w.heap.size<=b:=λb hb=>.inl (by rw[ev2];simpa[Value.ownBlock]using hb)
 have hl2:=Later.turn (σ:=σ) B (Tch.refl [] w) (X:=[]) (by simp) hii hF (BH i .undef) (.slice E 1 ds)
 have hcss:=UN hrr hone
 rw[<-huz,<-hus]at hcss
 have hM':=hM.turnRaw (Tch.refl [] w) (by simp) hii (v:=.slice (some ⟨g,0,none⟩) m c) hF (x:=.undef) rfl (λO w=>RepC.undef_ex _ _ _) (ow:=.slice E 1 ds) ⟨css,by rw[hcss.1];exact YU.2 hs',rfl,Am.later hl2 _ _ hrr,hcss.2⟩
 refine⟨_,w,?_,_,_,_,_,hM'.put hd (d:=.own i) ⟨[.slice (some ⟨g,0,none⟩) m c],by simp only[A7];exact⟨by rw[By];exact hii,by rw[Db]⟩,rfl⟩,hK⟩
 simp only[execOp,ho,CV,mV]
 rw[ex,ehi]
 refine Df ?_
 rw[hr]
 congr 2
 split
 ·simp
 ·simp[CH]
end
end Go.Sx
end
section
namespace Go.Proofs.YtjejpdfldmempaaGreatDoor
open Go.Sx Go.RowKit Go.Reg Go.Gr
set_option maxRecDepth 100000
theorem WF {s:List Int} {n:Int} {k:Nat}(hs:s.Pairwise (· < ·))(h1:∀y∈s.take k,y<n)(h2:∀y∈s.drop k,n<y):
  ((s.take k++[n])++s.drop k).Pairwise (· < ·)/\(∀x,x∈(s.take k++[n])++s.drop k↔x=n\/x∈s)/\((s.take k++[n])++s.drop k).length<=s.length+1:=by
 refine⟨?_,λx=>?_,?_⟩
 ·rw[Ct,Ct]
  refine⟨⟨hs.sublist (WL _ _),by simp,λa ha b hb=>?_⟩,hs.sublist (List.drop_sublist _ _),λa ha b hb=>?_⟩
  ·rw[AA]at hb;subst hb;exact h1 a ha
  ·have:=h2 b hb
   rcases Ag.1 ha with ha|ha
   ·have:=h1 a ha;omega
   ·rw[AA]at ha;omega
 ·have:x∈s↔x∈s.take k\/x∈s.drop k:=by rw[<-Ag,BZ]
  rw[this]
  simp only[Ag,AA]
  constructor
  ·rintro((h|h)|h)
   ·exact .inr (.inl h)
   ·exact .inl h
   ·exact .inr (.inr h)
  ·rintro(h|h|h)
   ·exact .inl (.inr h)
   ·exact .inl (.inl h)
   ·exact .inr h
 ·simp only[Ah,As,eW,BF];omega
def rG:List FuncId:=[86]
theorem YJ(s:List Int)(n:Int)(hs:s.Pairwise (· < ·))(hl:s.length<=4294967295):Pure C1 77 [AS s,.int .i64 n] (λy=>∃t:List Int,y=AS t/\t.Pairwise (· < ·)/\(∀x,x∈t↔x=n\/x∈s)/\t.length<=s.length+1):=by
 have hsl:(s.map dI).length=s.length:=Ab _
 have hh:=GZ s n
 refine AK Tryz.func77 Tryz.ntmps77 rG [] ?_
 by_cases hn:n∈s
 ·rw[decide_eq_true hn]at hh
  (conv=>whnf)
  (repeat' ((first|refine Af ?_ ?_|refine Ad rfl hh ?_|refine nx ?_|refine Aw (λ_=>?_) (λ_=>?_)|exact A0)<;>conv=>whnf))
  exact⟨s,rfl,hs,λx=>⟨.inr,λh=>h.elim (λe=>e▸hn) id⟩,by omega⟩
 ·rw[decide_eq_false hn]at hh
  (conv=>whnf)
  (repeat' ((first|refine Af ?_ ?_|refine Ad rfl hh ?_|refine nx ?_|refine Aw (λ_=>?_) (λ_=>?_)|exact A0)<;>conv=>whnf))
  refine AC (ι:=Nat) (λk=>k<=s.length/\∀y∈s.take k,y<n) (λk=>[(5,.d (.int .i64 k)),(1,.d (.int .i64 n)),(0,.d (AS s))]) (λ_=>[]) (λk=>s.length-k) 0 (λ_=>rfl) ⟨Aj _,by simp⟩ (.refl _ _) ⟨rfl,rfl,rfl,trivial⟩ trivial ?_
  rintro k ⟨hk,hlo⟩
  refine Bj rG [] ?_
  have hfin:((s.map dI).take k++[.int .i64 n])++(s.map dI).drop k=((s.take k++[n])++s.drop k).map dI:=by
   rw[Ay,Ay,CW,GH];rfl
  by_cases hlt:k<s.length
  ·have hx:=Aa hlt
   have hxm:=AL hlt
   have hge:∀y∈s.drop k,s[k]<=y:=by
    intro y hy
    obtain⟨j,hj,rfl⟩:=DN.1 hy
    rcases Nat.eq_zero_or_pos j with e|e
    ·subst e;simp
    ·have:=AH.1 hs k (k+j) hlt (by omega) (by omega);omega
   generalize s[k]=x at hx hxm hge
   have hxd:(s.map dI)[k]? =some (.int .i64 x):=by rw[Ac,hx];rfl
   by_cases hxn:x<n
   ·(conv=>whnf)
    (repeat' ((first|refine Af ?_ ?_|refine A1 hxd rfl ?_|refine nx ?_|refine Aw (λ_=>?_) (λ_=>?_)|exact A0)<;>conv=>whnf))
    refine⟨k+1,_,_,⟨hlt,?_⟩,.refl _ _,⟨rfl,rfl,rfl,trivial⟩,trivial,by omega⟩
    intro y hy
    rw[Av,hx]at hy
    rcases Ag.1 hy with hy|hy
    ·exact hlo y hy
    ·simp at hy;subst hy;exact hxn
   ·have hne:x≠n:=λe=>hn (e▸hxm)
    obtain⟨g1,g2,g3⟩:=WF hs hlo (λy hy=>by have:=hge y hy;omega)
    (conv=>whnf)
    (repeat' ((first|refine Af ?_ ?_|refine A1 hxd rfl ?_|refine HP k rfl (by omega) ?_|refine EE rfl (show k<=(s.map dI).length by omega) ?_|refine nx ?_|refine Aw (λ_=>?_) (λ_=>?_)|exact A0)<;>conv=>whnf))
    exact⟨_,congrArg (Da.list 1) hfin,g1,g2,g3⟩
  ·have hke:k=s.length:=by omega
   obtain⟨g1,g2,g3⟩:=WF hs hlo (λy hy=>by rw[hke,eY]at hy;cases hy)
   (conv=>whnf)
   (repeat' ((first|refine Af ?_ ?_|refine HP k rfl (by omega) ?_|refine EE rfl (show k<=(s.map dI).length by omega) ?_|refine nx ?_|refine Aw (λ_=>?_) (λ_=>?_)|exact A0)<;>conv=>whnf))
   exact⟨_,congrArg (Da.list 1) hfin,g1,g2,g3⟩
def rF:List FuncId:=[77]
theorem cD(l:List Int)(hl:l.length<=1000000):Pure C1 29 [AS l] (λy=>y=AS (Cw l)):=by
 have hll:(l.map dI).length=l.length:=Ab _
 refine AK Tryz.func29 Tryz.ntmps29 rF [] ?_
 ((conv=>whnf);repeat' ((first|refine odw ?_|refine nx ?_|refine Aw (λ_=>?_) (λ_=>?_))<;>conv=>whnf))
 refine AC (ι:=Nat×List Int) (λx=>(x.1<=l.length/\x.2.length<=x.1)/\x.2.Pairwise (· < ·)/\∀y,y∈x.2↔y∈l.take x.1) (λx=>[(4,.d (.int .i64 (x.1:Nat))),(3,.d (AS x.2)),(0,.d (AS l))]) (λ_=>[]) (λx=>l.length-x.1) (0,[]) (λ_=>rfl)
  ⟨⟨Aj _,Az _⟩,List.Pairwise.nil,by simp⟩ (.lax 3 rfl (.nils 1) (.refl _ _)) ⟨rfl,rfl,rfl,trivial⟩ trivial ?_
 rintro⟨i,s⟩ ⟨⟨hi,hsl⟩,hr,hm⟩
 dsimp only at hi hsl hr hm
 refine Bj rF [] ?_
 by_cases hlt:i<l.length
 ·have hx:=Aa hlt
  generalize l[i]=x at hx
  have hxd:(l.map dI)[i]? =some (.int .i64 x):=by rw[Ac,hx];rfl
  (conv=>whnf)
  (repeat' ((first|refine Af ?_ ?_|refine A1 hxd rfl ?_|refine nx ?_|refine Aw (λ_=>?_) (λ_=>?_)|exact A0)<;>conv=>whnf))
  refine AI rfl (YJ s x hr (by omega)) ?_
  rintro y ⟨t,rfl,h1,h2,h3⟩
  ((conv=>whnf);repeat' ((first|refine odw ?_|refine nx ?_|refine Aw (λ_=>?_) (λ_=>?_))<;>conv=>whnf))
  refine⟨(i+1,t),_,_,⟨⟨hlt,by dsimp only;omega⟩,h1,λy=>?_⟩,.refl _ _,⟨rfl,rfl,rfl,trivial⟩,trivial,by dsimp only;omega⟩
  dsimp only
  rw[h2,hm,Av,hx,B9,Ag,AA]
  exact or_comm
 ·have hii:l.take i=l:=Ak (by omega)
  rw[hii]at hm
  have he:s=Cw l:=Ex hr (Ba l).1 λx=>by rw[hm,(Ba l).2]
  ((conv=>whnf);repeat' ((first|refine odw ?_|refine nx ?_|refine Aw (λ_=>?_) (λ_=>?_))<;>conv=>whnf))
  rw[he]
  exact rfl
end Go.Proofs.YtjejpdfldmempaaGreatDoor
end
section
namespace Go.Proofs.YtjejpdfldmempaaGreatDoor
open Go.Sx Go.RowKit Go.Reg Go.Gr
set_option maxRecDepth 100000
theorem Pure.len2 {f:FuncId} {d:Da} {l:List Int} {xs:List Da} {Q:Da->Prop}(h:l.length<=9223372036854775807->Sx.Pure C1 f (d::AS l::xs) Q):Sx.Pure C1 f (d::AS l::xs) Q:=
 Pure.assume (λO w us hr=>by obtain⟨v,vs,rfl,h1,h2⟩:=Ci hr;obtain⟨v2,vs2,rfl,h3,_⟩:=Ci h2;exact Im h3) h
def iN:List (Nat×Plan):=[(4,.leaf [1,0,0,0,1,0,2,0] [1,2,3,5,0,4,6,7] [0,0,0,6,14,0,63,127])]
def rD:List FuncId:=[133]
theorem bO(G:Gr)(l:List Int)(v:Int):Pure C1 87 [dM G.labels G.edges,AS l,.int .i64 v] (λy=>y=.bool (l.any (Fh G.edges v))):=by
 refine Pure.len2 λhm=>?_
 have hl:(l.map dI).length=l.length:=Ab _
 refine AK Tryz.func87 Tryz.ntmps87 rD iN ?_
 ((conv=>whnf);repeat' ((first|refine odw ?_|refine nx ?_|refine Aw (λ_=>?_) (λ_=>?_))<;>conv=>whnf))
 refine AC (ι:=Nat) (λi=>i<=l.length/\∀y∈l.take i,Fh G.edges v y=false) (λi=>[(7,.d (.int .i64 i)),(3,.own 3),(2,.d (.int .i64 v)),(1,.d (AS l))]) (λ_=>[(3,.cells 59 [.d (AS G.labels),.d (D0 G.edges)])]) (λi=>l.length-i) 0 (λ_=>rfl) ⟨Aj _,by simp⟩ (.refl _ _) ⟨rfl,rfl,rfl,rfl,trivial⟩ ⟨rfl,trivial⟩ ?_
 rintro i ⟨hi,hne⟩
 refine Bj rD iN ?_
 by_cases hlt:i<l.length
 ·have hx:=Aa hlt
  generalize l[i]=x at hx
  have hxd:(l.map dI)[i]? =some (.int .i64 x):=by rw[Ac,hx];rfl
  have E4:=UK G.labels G.edges x v
  by_cases hmm:turn ⟨x,v⟩∈G.edges
  ·have hnn:=Lt.2 hmm
   have hany:l.any (Fh G.edges v)=true:=Bn.2 ⟨x,AB hx,decide_eq_true hmm⟩
   rw[hany]
   generalize dC G.edges (turn ⟨x,v⟩)=q at E4 hnn
   (conv=>whnf)
   (repeat' ((first|refine Af ?_ ?_|refine A1 hxd rfl ?_|refine Ad rfl E4 ?_|refine nx ?_|refine Aw (λ_=>?_) (λ_=>?_)|exact A0)<;>conv=>whnf))
   exact rfl
  ·have hnn:¬0<=dC G.edges (turn ⟨x,v⟩):=λh=>hmm (Lt.1 h)
   generalize dC G.edges (turn ⟨x,v⟩)=q at E4 hnn
   (conv=>whnf)
   (repeat' ((first|refine Af ?_ ?_|refine A1 hxd rfl ?_|refine Ad rfl E4 ?_|refine nx ?_|refine Aw (λ_=>?_) (λ_=>?_)|exact A0)<;>conv=>whnf))
   refine⟨i+1,_,_,⟨hlt,?_⟩,.refl _ _,⟨rfl,rfl,rfl,rfl,trivial⟩,⟨rfl,trivial⟩,by omega⟩
   intro y hy
   rw[wD hx]at hy
   rcases Ag.1 hy with hy|hy
   ·exact hne y hy
   ·simp at hy;subst hy;exact decide_eq_false hmm
 ·have hii:l.take i=l:=Ak (by omega)
  rw[hii]at hne
  rw[Hl.2 (λy hy=>by rw[hne y hy];decide)]
  ((conv=>whnf);repeat' ((first|refine odw ?_|refine nx ?_|refine Aw (λ_=>?_) (λ_=>?_))<;>conv=>whnf))
  exact rfl
theorem WV(G:Gr)(v:Int):Pure C1 85 [dM G.labels G.edges,.int .i64 v] (λy=>y=.bool (Dw G v)):=by
 have hl:(G.labels.map dI).length=G.labels.length:=Ab _
 refine AK Tryz.func85 Tryz.ntmps85 [] [] ?_
 by_cases h0:0<=v
 ·by_cases h1:v<G.labels.length
  ·rw[JJ h0 h1]
   have h2:v<((G.labels.map dI).length:Int):=by rw[hl];exact h1
   ((conv=>whnf);repeat' ((first|refine odw ?_|refine nx ?_|refine Aw (λ_=>?_) (λ_=>?_))<;>conv=>whnf))
   show Da.plain _=_
   simp[Da.plain,hl,h1]
  ·rw[Ml (λh=>h1 h.2)]
   ((conv=>whnf);repeat' ((first|refine odw ?_|refine nx ?_|refine Aw (λ_=>?_) (λ_=>?_))<;>conv=>whnf))
   show Da.plain _=_
   simp[Da.plain,hl,h1]
 ·rw[Ml (λh=>h0 h.1)]
  ((conv=>whnf);repeat' ((first|refine odw ?_|refine nx ?_|refine Aw (λ_=>?_) (λ_=>?_))<;>conv=>whnf))
  exact rfl
def X9:List (Nat×Plan):=[(8,.leaf [1,0,0,0,1,2,0] [1,2,3,0,4,5,6] [0,0,0,6,14,31,63]),
 (10,.leaf [0,0,0,0,1,2,0,0,0,0,0,0,1,0,0,0,0,1,2,0,0] [0,1,2,3,4,5,6,7,8,9,10,11,13,14,15,16,12,17,18,19,20] [0,0,0,6,14,31,63,127,255,511,1023,2047,4095,4095,4095,4095,53247,118783,262143,524287,1048575])]
def mD:List FuncId:=[29,85,86,87]
set_option maxHeartbeats 4000000 in
theorem Ld(G:Gr)(s:List Int)(hs:s.length<=1000000):Pure C1 94 [dM G.labels G.edges,AS s] (λy=>y=So (Dg G s)):=by
 have hof:=cD s hs
 have hzl:=G9 s
 have hzr:=(Ba s).1
 have hin:=kF (G:=G) (s:=s)
 have hout:=cR (G:=G) (s:=s)
 generalize Cw s=z at hof hzl hzr hin hout
 generalize Dg G s=Y at hin hout
 have hzm:(z.map dI).length=z.length:=Ab _
 refine AK Tryz.func94 Tryz.ntmps94 mD X9 ?_
 (conv=>whnf)
 (repeat' ((first|refine Af ?_ ?_|refine Ad rfl hof ?_|refine nx ?_|refine Aw (λ_=>?_) (λ_=>?_)|exact A0)<;>conv=>whnf))
 refine AC (ι:=List Int) (λl=>(l=[]\/z.any (λv=>!Dw G v)=false)/\l.length+(DH l z).length=z.length/\FA G.edges (DH l z).length l (DH l z)=FA G.edges z.length [] z)
  (λl=>[(6,.own 300),(1,.d (AS z)),(2,.own 2)]) (λl=>[(2,.cells 59 [.d (AS G.labels),.d (D0 G.edges)]),(300,.slice 3 1 (l.map dI))])
  (λl=>z.length-l.length) [] (λ_=>rfl) ⟨.inl rfl,by rw[UL];simp,by rw[UL]⟩ (.own 6 300 3 1 rfl rfl (.refl _ _)) ⟨rfl,rfl,rfl,trivial⟩ ⟨rfl,rfl,trivial⟩ ?_
 rintro l ⟨hv,hlen,hR⟩
 have hll:(l.map dI).length=l.length:=Ab _
 refine Bj mD X9 ?_
 by_cases hlt:l.length<z.length
 ·((conv=>whnf);repeat' ((first|refine odw ?_|refine nx ?_|refine Aw (λ_=>?_) (λ_=>?_))<;>conv=>whnf))
  refine AC (ι:=Int×Int) (λq=>(-1<=q.1/\q.1<z.length)/\q.2=((z.drop (q.1+1).toNat).find? (Iy G.edges l)).getD (-1)/\∀x∈z.drop (q.1+1).toNat,Dw G x=true)
   (λq=>[(8,.d (.int .i64 q.1)),(7,.d (.int .i64 q.2)),(6,.own 300),(1,.d (AS z)),(2,.own 2)]) (λq=>[(2,.cells 59 [.d (AS G.labels),.d (D0 G.edges)]),(300,.slice 3 1 (l.map dI))]) (λq=>(q.1+1).toNat) (((z.map dI).length:Int)-1,-1) (λ_=>rfl) ⟨⟨by dsimp only;omega,by dsimp only;omega⟩,?_,?_⟩ (.refl _ _) ⟨rfl,rfl,rfl,rfl,rfl,trivial⟩ ⟨rfl,rfl,trivial⟩ ?_
  ·dsimp only
   rw[hzm,show((z.length:Int)-1+1).toNat=z.length by omega,eY];rfl
  ·dsimp only
   rw[hzm,show((z.length:Int)-1+1).toNat=z.length by omega,eY];intro x hx;cases hx
  rintro⟨i,nv⟩ ⟨⟨hi1,hi2⟩,hnv,hall⟩
  dsimp only at hi1 hi2 hnv hall
  refine Bj mD X9 ?_
  by_cases hi0:0<=i
  ·obtain⟨j,rfl⟩:=Ax hi0
   have hj:j<z.length:=by omega
   have hx:=Aa hj
   have hdr:=AU hj
   generalize z[j]=x at hx hdr
   have hxd:(z.map dI)[j]? =some (.int .i64 x):=by rw[Ac,hx];rfl
   have e1:((j:Int)+1).toNat=j+1:=by omega
   rw[e1]at hnv hall
   have e2:((j:Int)-1+1).toNat=j:=by omega
   have hh:=WV G x
   cases hvx:Dw G x with
   |
    false=>
    rw[hvx]at hh
    have hno:z.any (λv=>!Dw G v)=true:=Bn.2 ⟨x,AB hx,by simp[hvx]⟩
    rw[hout hno]
    (conv=>whnf)
    (repeat' ((first|refine Af ?_ ?_|refine A1 hxd rfl ?_|refine Ad rfl hh ?_|refine nx ?_|refine Aw (λ_=>?_) (λ_=>?_)|exact A0)<;>conv=>whnf))
    exact rfl
   |
    true=>
    rw[hvx]at hh
    have hm6:=GZ l x
    have hbs:=bO G l x
    have hall':∀y∈z.drop j,Dw G y=true:=by
     intro y hy
     rw[hdr]at hy
     rcases An.1 hy with e|e
     ·rw[e];exact hvx
     ·exact hall y e
    have hyes:Iy G.edges l x=true->x=((z.drop j).find? (Iy G.edges l)).getD (-1):=λhc=>by rw[hdr,List.find?_cons_of_pos hc];rfl
    have hno:Iy G.edges l x=false->nv=((z.drop j).find? (Iy G.edges l)).getD (-1):=λhc=>by rw[hdr,List.find?_cons_of_neg (by rw[hc];decide)];exact hnv
    by_cases hxl:x∈l
    ·rw[decide_eq_true hxl]at hm6
     have hn:=hno (by unfold Iy;rw[decide_eq_true hxl];rfl)
     (conv=>whnf)
     (repeat' ((first|refine Af ?_ ?_|refine A1 hxd rfl ?_|refine Ad rfl hh ?_|refine AR tab rfl hm6 rfl ?_|refine nx ?_|refine Aw (λ_=>?_) (λ_=>?_)|exact A0)<;>conv=>whnf))
     exact⟨((j:Int)-1,nv),_,_,⟨⟨by dsimp only;omega,by dsimp only;omega⟩,by dsimp only;rw[e2];exact hn,by dsimp only;rw[e2];exact hall'⟩,.refl _ _,⟨rfl,rfl,rfl,rfl,rfl,trivial⟩,⟨rfl,rfl,trivial⟩,by dsimp only;omega⟩
    ·rw[decide_eq_false hxl]at hm6
     by_cases hl0:l=[]
     ·subst hl0
      have hn:=hyes rfl
      (conv=>whnf)
      (repeat' ((first|refine Af ?_ ?_|refine A1 hxd rfl ?_|refine Ad rfl hh ?_|refine AR tab rfl hm6 rfl ?_|refine nx ?_|refine Aw (λ_=>?_) (λ_=>?_)|exact A0)<;>conv=>whnf))
      exact⟨((j:Int)-1,x),_,_,⟨⟨by dsimp only;omega,by dsimp only;omega⟩,by dsimp only;rw[e2];exact hn,by dsimp only;rw[e2];exact hall'⟩,.refl _ _,⟨rfl,rfl,rfl,rfl,rfl,trivial⟩,⟨rfl,rfl,trivial⟩,by dsimp only;omega⟩
     ·have hl1:¬((l.map dI).length:Int)=0:=by rw[hll];have:=List.length_pos_iff.2 hl0;omega
      have hnp:Gk G.edges l x=l.any (Fh G.edges x):=by
       rw[BT,FX];simp[hl0]
      have hcd:Iy G.edges l x=l.any (Fh G.edges x):=by unfold Iy;rw[decide_eq_false hxl,hnp];rfl
      rw[hcd]at hyes hno
      cases hb:l.any (Fh G.edges x)with
      |
       true=>
       rw[hb]at hbs
       have hn:=hyes hb
       (conv=>whnf)
       (repeat' ((first|refine Af ?_ ?_|refine A1 hxd rfl ?_|refine Ad rfl hh ?_|refine AR tab rfl hm6 rfl ?_|refine AR tab rfl hbs rfl ?_|refine nx ?_|refine Aw (λ_=>?_) (λ_=>?_)|exact A0)<;>conv=>whnf))
       exact⟨((j:Int)-1,x),_,_,⟨⟨by dsimp only;omega,by dsimp only;omega⟩,by dsimp only;rw[e2];exact hn,by dsimp only;rw[e2];exact hall'⟩,.refl _ _,⟨rfl,rfl,rfl,rfl,rfl,trivial⟩,⟨rfl,rfl,trivial⟩,by dsimp only;omega⟩
      |
       false=>
       rw[hb]at hbs
       have hn:=hno hb
       (conv=>whnf)
       (repeat' ((first|refine Af ?_ ?_|refine A1 hxd rfl ?_|refine Ad rfl hh ?_|refine AR tab rfl hm6 rfl ?_|refine AR tab rfl hbs rfl ?_|refine nx ?_|refine Aw (λ_=>?_) (λ_=>?_)|exact A0)<;>conv=>whnf))
       exact⟨((j:Int)-1,nv),_,_,⟨⟨by dsimp only;omega,by dsimp only;omega⟩,by dsimp only;rw[e2];exact hn,by dsimp only;rw[e2];exact hall'⟩,.refl _ _,⟨rfl,rfl,rfl,rfl,rfl,trivial⟩,⟨rfl,rfl,trivial⟩,by dsimp only;omega⟩
  ·have hie:i=-1:=by omega
   subst hie
   rw[show((-1:Int)+1).toNat=0 from rfl,List.drop_zero]at hnv hall
   have hany:z.any (λv=>!Dw G v)=false:=Hl.2 λx hx=>by rw[hall x hx];decide
   have hY:=hin hany
   obtain⟨n,hn⟩:∃n,(DH l z).length=n+1:=⟨(DH l z).length-1,by omega⟩
   cases hf:z.find? (Iy G.edges l)with
   |
    none=>
    rw[hf]at hnv
    rw[hY,<-hR,Xz hf hn]
    simp only[Option.getD_none]at hnv
    subst hnv
    ((conv=>whnf);repeat' ((first|refine odw ?_|refine nx ?_|refine Aw (λ_=>?_) (λ_=>?_))<;>conv=>whnf))
    exact rfl
   |
    some x=>
    rw[hf]at hnv
    simp only[I2]at hnv
    subst hnv
    have hx0:0<=nv:=by
     have:=hall nv (List.mem_of_find?_eq_some hf)
     unfold Dw at this
     simp at this;omega
    obtain⟨g1,g2⟩:=Xy hzr hf hn
    have hfin:l.map dI++[.int .i64 nv]=(l++[nv]).map dI:=by rw[Ay];rfl
    ((conv=>whnf);repeat' ((first|refine odw ?_|refine nx ?_|refine Aw (λ_=>?_) (λ_=>?_))<;>conv=>whnf))
    refine⟨l++[nv],_,_,⟨.inr hany,?_,?_⟩,.refl _ _,⟨rfl,rfl,rfl,trivial⟩,⟨rfl,AO hfin,trivial⟩,?_⟩
    ·rw[g1,Ah,BF];omega
    ·rw[<-g2];exact hR
    ·rw[Ah,BF];omega
 ·have h0:(DH l z).length=0:=by omega
  have hany:z.any (λv=>!Dw G v)=false:=by
   rcases hv with h|h
   ·have hl0:l.length=0:=by rw[h];rfl
    have:z=[]:=List.length_eq_zero_iff.1 (by omega)
    rw[this];rfl
   ·exact h
  have hY:=hin hany
  rw[<-hR,h0]at hY
  rw[hY]
  ((conv=>whnf);repeat' ((first|refine odw ?_|refine nx ?_|refine Aw (λ_=>?_) (λ_=>?_))<;>conv=>whnf))
  exact rfl
def iM:List (Nat×Plan):=[(7,.leaf [0,0,0,1,0,0,0,1,0] [0,1,2,4,5,6,3,7,8] [0,0,3,7,0,0,48,112,255])]
def rC:List FuncId:=[94]
theorem UQ(G:Gr)(hG:G.Ok)(l:List Int)(hs:l.length<=1000000):Pure C1 79 [dM G.labels G.edges,AS l] (λy=>y=.bool (Cz G l)):=by
 have hl:(l.map dI).length=l.length:=Ab _
 have hls:=Ld G l hs
 have hci:=eK hG (l:=l)
 refine AK Tryz.func79 Tryz.ntmps79 rC iM ?_
 cases hr:Dg G l with
 |
  none=>
  rw[hr]at hls hci
  unfold So at hls
  have hc:Cz G l=false:=Es.2 λh=>by cases hci.1 h
  rw[hc]
  (conv=>whnf)
  (repeat' ((first|refine Af ?_ ?_|refine Ad rfl hls ?_|refine nx ?_|refine Aw (λ_=>?_) (λ_=>?_)|exact A0)<;>conv=>whnf))
  exact rfl
 |
  some r=>
  rw[hr]at hls hci
  unfold So at hls
  have hrl:(r.map dI).length=r.length:=Ab _
  by_cases hlen:r.length=l.length
  ·(conv=>whnf)
   (repeat' ((first|refine Af ?_ ?_|refine Ad rfl hls ?_|refine nx ?_|refine Aw (λ_=>?_) (λ_=>?_)|exact A0)<;>conv=>whnf))
   refine AC (ι:=Nat) (λi=>i<=l.length/\∀(j:Nat),j<i->r[j]? =l[j]?) (λi=>[(7,.d (.int .i64 i)),(5,.d (AS r)),(1,.d (AS l))]) (λ_=>[]) (λi=>l.length-i) 0 (λ_=>rfl) ⟨Aj _,by intro j h;omega⟩ (.refl _ _) ⟨rfl,rfl,rfl,trivial⟩ trivial ?_
   rintro i ⟨hi,he⟩
   refine Bj rC iM ?_
   by_cases hlt:i<l.length
   ·have hx:=Aa hlt
    have hy:=Aa (l:=r) (i:=i) (by omega)
    generalize l[i]=x at hx
    generalize r[i]'(by omega)=y at hy
    have hxd:(l.map dI)[i]? =some (.int .i64 x):=by rw[Ac,hx];rfl
    have hyd:(r.map dI)[i]? =some (.int .i64 y):=by rw[Ac,hy];rfl
    by_cases hxy:y=x
    ·(conv=>whnf)
     (repeat' ((first|refine Af ?_ ?_|refine A1 hyd rfl ?_|refine A1 hxd rfl ?_|refine nx ?_|refine Aw (λ_=>?_) (λ_=>?_)|exact A0)<;>conv=>whnf))
     refine⟨i+1,_,_,⟨hlt,λj hj=>?_⟩,.refl _ _,⟨rfl,rfl,rfl,trivial⟩,trivial,by omega⟩
     by_cases hji:j=i
     ·subst hji;rw[hx,hy,hxy]
     ·exact he j (by omega)
    ·have hc:Cz G l=false:=Es.2 λh=>by
      have:=B5 (hci.1 h)
      subst this
      rw[hx]at hy;cases hy;exact hxy rfl
     rw[hc]
     (conv=>whnf)
     (repeat' ((first|refine Af ?_ ?_|refine A1 hyd rfl ?_|refine A1 hxd rfl ?_|refine nx ?_|refine Aw (λ_=>?_) (λ_=>?_)|exact A0)<;>conv=>whnf))
     exact rfl
   ·have hrl2:r=l:=Er λj=>by
     by_cases hj:j<l.length
     ·exact he j (by omega)
     ·rw[Bh (by omega),Bh (by omega)]
    rw[hci.2 (by rw[hrl2])]
    ((conv=>whnf);repeat' ((first|refine odw ?_|refine nx ?_|refine Aw (λ_=>?_) (λ_=>?_))<;>conv=>whnf))
    exact rfl
  ·have hc:Cz G l=false:=Es.2 λh=>by
    have:=B5 (hci.1 h)
    exact hlen (by rw[this])
   rw[hc]
   (conv=>whnf)
   (repeat' ((first|refine Af ?_ ?_|refine Ad rfl hls ?_|refine nx ?_|refine Aw (λ_=>?_) (λ_=>?_)|exact A0)<;>conv=>whnf))
   exact rfl
end Go.Proofs.YtjejpdfldmempaaGreatDoor
end
section
namespace Go.Sx
open Go Go.RowKit Go.Reg Go.Proofs.YtjejpdfldmempaaGreatDoor
section
variable {C:Cx} {fr:Fr} {σ:Sg}
theorem sA {k:IntKind} {a:Int}(b:Nat)(hb:b<=8)(yk:IntKind):Op.shift .shl k a yk (b:Int)=pure (.int k (k.wrap (a*2^b))):=by
 unfold Op.shift
 have h1:¬((b:Int)<0):=by omega
 have h2:min ((b:Int).toNat) k.bits=b:=by
  have h3:8<=k.bits:=by cases k<;>decide
  rw[AV];omega
 rw[if_neg h1,h2]
theorem sV(b:Nat) {z:Int} {n kd:Nat} {o:Oper} {K:Fr->Sg->Prop} {t ty:Nat} {x y:Operand} {k yk:IntKind} {a:Int}(ho:o.op=.binOp .shl t x y ty)(hx:ev C.Γ fr x=.d (.int k a))(hy:ev C.Γ fr y=.d (.int yk (b:Int)))(hb:b<=8)(hz:k.wrap (a*2^b)=z)(hkd:kd=3)(hd:Dv o.dst n=true)
  (hK:K (C4 o.dst (.d (.int k z)) fr) σ):Bd C n kd o K fr σ:=by
 subst hkd
 refine BL (by decide) (by decide) hd λB S w0 η φ a' w hM=>?_
 have e1:=Gf (Ff (Be hM x) hx)
 have e2:=Gf (Ff (Be hM y) hy)
 refine .inr ⟨_,_,hK,?_,EA _ _,λh=>by cases h⟩
 simp only[execOp,ho]
 rw[e1,e2]
 refine Df ?_
 simp[eqGuard,binOp,sA b hb,hz]
theorem oJ(b m:Nat) {n kd:Nat} {o:Oper} {K:Fr->Sg->Prop} {t ty:Nat} {x y:Operand} {k yk:IntKind}(ho:o.op=.binOp .shr t x y ty)(hx:ev C.Γ fr x=.d (.int k (m:Int)))(hy:ev C.Γ fr y=.d (.int yk (b:Int)))(hb:b<=8)(hkd:kd=3)(hd:Dv o.dst n=true)
  (hK:K (C4 o.dst (.d (.int k ((m/2^b:Nat):Int))) fr) σ):Bd C n kd o K fr σ:=by
 refine Qd b ho hx hy hb hkd hd ?_
 have:(m:Int).fdiv (2^b)=((m/2^b:Nat):Int):=by
  rw[Int.fdiv_eq_ediv_of_nonneg _ (Int.pow_nonneg (by decide))]
  simp
 rw[this];exact hK
end
end Go.Sx
namespace Go.Proofs.YtjejpdfldmempaaGreatDoor
open Go.Sx Go.RowKit Go.Reg Go.Gr
set_option maxRecDepth 100000
def Mz:List Int->List Int->Int
 |[],[]=>0
 |[],_::_=>-1
 |_::_,[]=>1
 |x::a,y::b=>if x<y then-1 else if y<x then 1 else Mz a b
def jC:List (Nat×Plan):=[(4,.leaf [0,0,0,1,0,0,0,1,0] [0,1,2,4,5,6,3,7,8] [0,0,3,7,0,0,48,112,255]),
 (6,.leaf [0,0,0,1,0,0,0,1,0] [0,1,2,4,5,6,3,7,8] [0,0,3,7,0,0,48,112,255])]
theorem YA(a b:List Int):Pure C1 27 [AS a,AS b] (λy=>y=.int .i64 (Mz a b)):=by
 refine Pure.len1 λhm=>?_
 have hal:(a.map dI).length=a.length:=Ab _
 have hbl:(b.map dI).length=b.length:=Ab _
 refine AK Tryz.func27 Tryz.ntmps27 [] jC ?_
 ((conv=>whnf);repeat' ((first|refine odw ?_|refine nx ?_|refine Aw (λ_=>?_) (λ_=>?_))<;>conv=>whnf))
 refine AC (ι:=Nat) (λi=>(i<=a.length/\i<=b.length)/\Mz (a.drop i) (b.drop i)=Mz a b) (λi=>[(5,.d (.int .i64 i)),(1,.d (AS b)),(0,.d (AS a))]) (λ_=>[]) (λi=>a.length-i) 0 (λ_=>rfl) ⟨⟨Aj _,Aj _⟩,rfl⟩ (.refl _ _) ⟨rfl,rfl,rfl,trivial⟩ trivial ?_
 rintro i ⟨⟨hi,hi2⟩,hc⟩
 rw[<-hc]
 refine Bj [] jC ?_
 by_cases hlt:i<a.length
 ·have hx:=Aa hlt
  rw[AU hlt]at hc⊢
  generalize a[i]=x at hx hc⊢
  have hxd:(a.map dI)[i]? =some (.int .i64 x):=by rw[Ac,hx];rfl
  by_cases hlt2:i<b.length
  ·have hy:=Aa hlt2
   rw[AU hlt2]at hc⊢
   generalize b[i]=z at hy hc⊢
   have hyd:(b.map dI)[i]? =some (.int .i64 z):=by rw[Ac,hy];rfl
   by_cases h1:x<z
   ·have:Mz (x::a.drop (i+1)) (z::b.drop (i+1))=-1:=by unfold Mz;rw[if_pos h1]
    rw[this]
    (conv=>whnf)
    (repeat' ((first|refine Af ?_ ?_|refine A1 hxd rfl ?_|refine A1 hyd rfl ?_|refine nx ?_|refine Aw (λ_=>?_) (λ_=>?_)|exact A0)<;>conv=>whnf))
    exact rfl
   ·by_cases h2:z<x
    ·have:Mz (x::a.drop (i+1)) (z::b.drop (i+1))=1:=by unfold Mz;rw[if_neg h1,if_pos h2]
     rw[this]
     (conv=>whnf)
     (repeat' ((first|refine Af ?_ ?_|refine A1 hxd rfl ?_|refine A1 hyd rfl ?_|refine nx ?_|refine Aw (λ_=>?_) (λ_=>?_)|exact A0)<;>conv=>whnf))
     exact rfl
    ·have he:Mz (x::a.drop (i+1)) (z::b.drop (i+1))=Mz (a.drop (i+1)) (b.drop (i+1)):=by rw[Mz,if_neg h1,if_neg h2]
     (conv=>whnf)
     (repeat' ((first|refine Af ?_ ?_|refine A1 hxd rfl ?_|refine A1 hyd rfl ?_|refine nx ?_|refine Aw (λ_=>?_) (λ_=>?_)|exact A0)<;>conv=>whnf))
     exact⟨i+1,_,_,⟨⟨hlt,hlt2⟩,by rw[<-he]⟩,.refl _ _,⟨rfl,rfl,rfl,trivial⟩,trivial,by omega⟩
  ·have hbn:b.drop i=[]:=BV (by omega)
   rw[hbn]
   ((conv=>whnf);repeat' ((first|refine odw ?_|refine nx ?_|refine Aw (λ_=>?_) (λ_=>?_))<;>conv=>whnf))
   exact rfl
 ·by_cases hlt2:i<b.length
  ·have han:a.drop i=[]:=BV (by omega)
   rw[han,AU hlt2]
   ((conv=>whnf);repeat' ((first|refine odw ?_|refine nx ?_|refine Aw (λ_=>?_) (λ_=>?_))<;>conv=>whnf))
   exact rfl
  ·have han:a.drop i=[]:=BV (by omega)
   have hbn:b.drop i=[]:=BV (by omega)
   rw[han,hbn]
   ((conv=>whnf);repeat' ((first|refine odw ?_|refine nx ?_|refine Aw (λ_=>?_) (λ_=>?_))<;>conv=>whnf))
   exact rfl
def Fy(P:List (List Int)):Da:=.list 1 (P.map AS)
theorem PZ(s:List Int)(k M:Nat):(GO s k M).length<=M:=by
 unfold GO
 have:=Co (λp:List Int=>decide (p.length=k)) ((List.range M).map (pick s))
 rw[Ab,Bv]at this;exact this
theorem kK {P Q:List (List Int)} {p:List Int}(h:P.Perm Q)(t:Nat):((P.take t++[p])++P.drop t).Perm (Q++[p]):=by
 rw[Bk]
 refine(List.perm_append_comm_assoc _ _ _).trans ?_
 rw[BZ]
 exact List.perm_append_comm.trans (h.append_right _)
theorem sH {n:Nat}(h:n<=8):2^n<=256:=BE (HK (by decide) h) (by decide)
theorem oL {n:Nat}(h:n<=8):IntKind.i64.wrap (1*2^n)=((2^n:Nat):Int):=by
 have h1:=sH h
 have h2:(1*2^n:Int)=((2^n:Nat):Int):=by simp
 rw[h2]
 generalize 2^n=N at h1⊢
 exact ME (by omega)
def ZM:List FuncId:=[27]
set_option maxHeartbeats 4000000 in
theorem XH(s:List Int)(k:Nat)(hs:s.length<=8):Pure C1 138 [AS s,.int .i64 k] (λy=>∃P:List (List Int),y=Fy P/\P.Perm (GO s k (2^s.length))):=by
 have hsl:(s.map dI).length=s.length:=Ab _
 have hpow:=sH hs
 have hw:=oL hs
 rw[<-hsl]at hw
 rw[show((2^(s.map dI).length:Nat):Int)=((2^s.length:Nat):Int)by rw[hsl]]at hw
 refine AK Tryz.func138 Tryz.ntmps138 ZM [] ?_
 ((conv=>whnf);repeat' ((first|refine odw ?_|refine nx ?_|refine Aw (λ_=>?_) (λ_=>?_))<;>conv=>whnf))
 refine AC (ι:=Nat×List (List Int)) (λq=>q.1<=2^s.length/\q.2.Perm (GO s k q.1)) (λq=>[(6,.d (.int .i64 (q.1:Nat))),(5,.d (Fy q.2)),(1,.d (.int .i64 k)),(0,.d (AS s))]) (λ_=>[]) (λq=>2^s.length-q.1) (0,[]) (λ_=>rfl) ⟨Aj _,List.Perm.refl _⟩ (.lax 5 rfl (.nils 1) (.refl _ _)) ⟨rfl,rfl,rfl,rfl,trivial⟩ trivial ?_
 rintro⟨m,P⟩ ⟨hm,hP⟩
 dsimp only at hm hP
 have hPl:P.length<=m:=by rw[hP.length_eq];exact PZ _ _ _
 have hPm:(P.map AS).length=P.length:=Ab _
 refine Bj ZM [] ?_
 (conv=>whnf)
 (repeat' ((first|refine Af ?_ ?_|refine MH (by omega) ?_|refine nx ?_|refine Aw (λ_=>?_) (λ_=>?_)|exact A0)<;>conv=>whnf))
 refine sV (s.map dI).length rfl rfl rfl (by omega) hw rfl rfl ?_
 by_cases hlt:m<2^s.length
 ·((conv=>whnf);repeat' ((first|refine odw ?_|refine nx ?_|refine Aw (λ_=>?_) (λ_=>?_))<;>conv=>whnf))
  refine AC (ι:=Nat) (λi=>i<=s.length) (λi=>[(8,.d (.int .i64 i)),(7,.own 301),(6,.d (.int .i64 m)),(5,.d (Fy P)),(1,.d (.int .i64 k)),(0,.d (AS s))]) (λi=>[(301,.slice 3 1 ((pick (s.take i) m).map dI))]) (λi=>s.length-i) 0 (λ_=>rfl) (Aj _) (.own 7 301 3 1 rfl rfl (.refl _ _)) ⟨rfl,rfl,rfl,rfl,rfl,rfl,trivial⟩ ⟨rfl,trivial⟩ ?_
  intro i hi
  refine Bj ZM [] ?_
  have hpl:=(Ia (s.take i) m).length_le
  rw[As]at hpl
  have hpm:((pick (s.take i) m).map dI).length=(pick (s.take i) m).length:=Ab _
  by_cases hil:i<s.length
  ·have hx:=Aa hil
   generalize s[i]=x at hx
   have hxd:(s.map dI)[i]? =some (.int .i64 x):=by rw[Ac,hx];rfl
   have hst:pick (s.take (i+1)) m=pick (s.take i) m++(if m/2^i % 2=1 then[x]else[]):=by
    rw[wD hx,RV,As,G7 (by omega)]
   (conv=>whnf)
   (repeat' ((first|refine Af ?_ ?_|refine MH (by omega) ?_|refine nx ?_|refine Aw (λ_=>?_) (λ_=>?_)|exact A0)<;>conv=>whnf))
   refine oJ i m rfl rfl rfl (by omega) rfl rfl ?_
   generalize m/2^i=r at hst⊢
   have htm:((r:Int)).tmod 2=((r % 2:Nat):Int):=by rw[Int.tmod_eq_emod_of_nonneg (by omega)];omega
   by_cases hb:r % 2=1
   ·rw[if_pos hb]at hst
    have hb1:((r:Int)).tmod 2=1:=by rw[htm];omega
    have hfin:(pick (s.take i) m).map dI++[.int .i64 x]=(pick (s.take (i+1)) m).map dI:=by rw[hst,Ay];rfl
    (conv=>whnf)
    (repeat' ((first|refine Af ?_ ?_|refine A1 hxd rfl ?_|refine nx ?_|refine Aw (λ_=>?_) (λ_=>?_)|exact A0)<;>conv=>whnf))
    exact⟨i+1,_,_,hil,.refl _ _,⟨rfl,rfl,rfl,rfl,rfl,rfl,trivial⟩,⟨AO hfin,trivial⟩,by omega⟩
   ·rw[if_neg hb,Cc]at hst
    have hb1:¬((r:Int)).tmod 2=1:=by rw[htm];omega
    (conv=>whnf)
    (repeat' ((first|refine Af ?_ ?_|refine A1 hxd rfl ?_|refine nx ?_|refine Aw (λ_=>?_) (λ_=>?_)|exact A0)<;>conv=>whnf))
    exact⟨i+1,_,_,hil,.refl _ _,⟨rfl,rfl,rfl,rfl,rfl,rfl,trivial⟩,⟨AO (by rw[hst]),trivial⟩,by omega⟩
  ·have hii:s.take i=s:=Ak (by omega)
   rw[hii]at hpl hpm⊢
   have hst:=UW s k m
   generalize hp:pick s m=p at hpl hpm hst⊢
   by_cases hlen:p.length=k
   ·rw[if_pos hlen]at hst
    have hlen2:((p.map dI).length:Int)=k:=by rw[hpm,hlen]
    ((conv=>whnf);repeat' ((first|refine odw ?_|refine nx ?_|refine Aw (λ_=>?_) (λ_=>?_))<;>conv=>whnf))
    refine AC (ι:=Int) (λt=>0<=t/\t<=P.length) (λt=>[(9,.d (.int .i64 t)),(7,.d (AS p)),(6,.d (.int .i64 m)),(5,.d (Fy P)),(1,.d (.int .i64 k)),(0,.d (AS s))]) (λ_=>[]) (λt=>t.toNat) ((P.map AS).length:Int) (λ_=>rfl) ⟨by omega,by omega⟩ (.frz 301 rfl (.refl _ _)) ⟨rfl,rfl,rfl,rfl,rfl,rfl,trivial⟩ trivial ?_
    rintro t ⟨ht0,htl⟩
    obtain⟨t,rfl⟩:=Ax ht0
    refine Bj ZM [] ?_
    have hfin:((P.map AS).take t++[.list 1 (p.map dI)])++(P.map AS).drop t=((P.take t++[p])++P.drop t).map AS:=by
     rw[Ay,Ay,CW,GH];rfl
    have hper:=kK (p:=p) hP t
    rw[<-hst]at hper
    by_cases h0:0<t
    ·obtain⟨j,rfl⟩:∃j,t=j+1:=⟨t-1,by omega⟩
     have hq:=Aa (l:=P) (i:=j) (by omega)
     generalize P[j]'(by omega)=q at hq
     have hqd:(P.map AS)[j]? =some (AS q):=by rw[Ac,hq];rfl
     have hcm:=YA p q
     by_cases hz:Mz p q<0
     ·generalize Mz p q=z at hcm hz
      (conv=>whnf)
      (repeat' ((first|refine Af ?_ ?_|refine A1 hqd (by omega) ?_|refine Ad rfl hcm ?_|refine nx ?_|refine Aw (λ_=>?_) (λ_=>?_)|exact A0)<;>conv=>whnf))
      exact⟨((j+1:Nat):Int)-1,_,_,⟨by omega,by omega⟩,.refl _ _,⟨rfl,rfl,rfl,rfl,rfl,rfl,trivial⟩,trivial,by omega⟩
     ·generalize Mz p q=z at hcm hz
      (conv=>whnf)
      (repeat' ((first|refine Af ?_ ?_|refine A1 hqd (by omega) ?_|refine Ad rfl hcm ?_|refine EE rfl (show j+1<=(P.map AS).length by omega) ?_|refine HP (j+1) rfl (by omega) ?_|refine nx ?_|refine Aw (λ_=>?_) (λ_=>?_)|exact A0)<;>conv=>whnf))
      exact⟨(m+1,(P.take (j+1)++[p])++P.drop (j+1)),_,_,⟨hlt,hper⟩,.frz 58 rfl (.refl _ _),⟨rfl,congrArg (λx=>Dat.d (.list 1 x)) hfin,rfl,rfl,trivial⟩,trivial,by dsimp only;omega⟩
    ·have ht:t=0:=by omega
     subst ht
     (conv=>whnf)
     (repeat' ((first|refine Af ?_ ?_|refine EE rfl (show 0<=(P.map AS).length by omega) ?_|refine HP 0 rfl (by omega) ?_|refine nx ?_|refine Aw (λ_=>?_) (λ_=>?_)|exact A0)<;>conv=>whnf))
     exact⟨(m+1,(P.take 0++[p])++P.drop 0),_,_,⟨hlt,hper⟩,.frz 58 rfl (.refl _ _),⟨rfl,congrArg (λx=>Dat.d (.list 1 x)) hfin,rfl,rfl,trivial⟩,trivial,by dsimp only;omega⟩
   ·rw[if_neg hlen,Cc]at hst
    have hlen2:¬((p.map dI).length:Int)=k:=by rw[hpm];omega
    ((conv=>whnf);repeat' ((first|refine odw ?_|refine nx ?_|refine Aw (λ_=>?_) (λ_=>?_))<;>conv=>whnf))
    exact⟨(m+1,P),_,_,⟨hlt,by dsimp only;rw[hst];exact hP⟩,.refl _ _,⟨rfl,rfl,rfl,rfl,trivial⟩,trivial,by dsimp only;omega⟩
 ·have hme:m=2^s.length:=by omega
  subst hme
  ((conv=>whnf);repeat' ((first|refine odw ?_|refine nx ?_|refine Aw (λ_=>?_) (λ_=>?_))<;>conv=>whnf))
  exact⟨P,rfl,hP⟩
def X8:List (Nat×Plan):=[(11,.leaf [1,0,0,0,1,2,0,0,0,0,0] [1,2,3,0,4,5,6,7,8,9,10] [0,0,0,6,14,31,63,127,127,255,1023])]
def mC:List FuncId:=[138,94]
theorem aO(G:Gr)(k:Nat)(hn:G.labels.length<=8)(hk:k<=1000000):Pure C1 93 [dM G.labels G.edges,.int .i64 k] (λy=>∃W:List (List Int),y=Fy W/\Uy G k W):=by
 have hll:(G.labels.map dI).length=G.labels.length:=Ab _
 refine AK Tryz.func93 Tryz.ntmps93 mC X8 ?_
 ((conv=>whnf);repeat' ((first|refine odw ?_|refine nx ?_|refine Aw (λ_=>?_) (λ_=>?_))<;>conv=>whnf))
 refine AC (ι:=Nat) (λv=>v<=G.labels.length) (λv=>[(6,.d (.int .i64 v)),(5,.own 300),(2,.own 2),(1,.d (.int .i64 k))]) (λv=>[(2,.cells 59 [.d (AS G.labels),.d (D0 G.edges)]),(300,.slice 3 1 ((Fc v).map dI))]) (λv=>G.labels.length-v) 0 (λ_=>rfl) (Aj _)
  (.own 5 300 3 1 rfl rfl (.refl _ _)) ⟨rfl,rfl,rfl,rfl,trivial⟩ ⟨rfl,rfl,trivial⟩ ?_
 intro v hv
 refine Bj mC X8 ?_
 by_cases hlt:v<G.labels.length
 ·have hul:=E6 v
  have hfin:(Fc v).map dI++[.int .i64 (v:Int)]=(Fc (v+1)).map dI:=by rw[MG,Ay];rfl
  ((conv=>whnf);repeat' ((first|refine odw ?_|refine nx ?_|refine Aw (λ_=>?_) (λ_=>?_))<;>conv=>whnf))
  exact⟨v+1,_,_,hlt,.refl _ _,⟨rfl,rfl,rfl,rfl,trivial⟩,⟨rfl,AO hfin,trivial⟩,by omega⟩
 ·have hve:v=G.labels.length:=by omega
  subst hve
  have hul:=E6 G.labels.length
  have hpk:=XH (Fc G.labels.length) k (by omega)
  rw[hul]at hpk
  ((conv=>whnf);repeat' ((first|refine odw ?_|refine nx ?_|refine Aw (λ_=>?_) (λ_=>?_))<;>conv=>whnf))
  refine D3 300 rfl ?_
  refine AI rfl hpk ?_
  rintro y ⟨P,rfl,hP⟩
  have hPm:(P.map AS).length=P.length:=Ab _
  have hPl:P.length<=256:=by rw[hP.length_eq];exact BE (PZ _ _ _) (sH hn)
  have hmem:∀q∈P,q.length=k:=λq hq=>by
   have h1:=hP.mem_iff.1 hq
   have h2:=Qp (k:=k) (p:=q) (Fq G.labels.length)
   rw[hul]at h2
   exact(h2.1 h1).2.2
  ((conv=>whnf);repeat' ((first|refine odw ?_|refine nx ?_|refine Aw (λ_=>?_) (λ_=>?_))<;>conv=>whnf))
  refine AC (ι:=Nat) (λi=>i<=P.length) (λi=>[(9,.d (.int .i64 i)),(8,.own 301),(7,.d (Fy P)),(2,.own 2)]) (λi=>[(2,.cells 59 [.d (AS G.labels),.d (D0 G.edges)]),(301,.slice 28 1 (((P.take i).filter λp=>(Dg G p).isSome).map AS))]) (λi=>P.length-i) 0 (λ_=>rfl) (Aj _)
   (.own 8 301 28 1 rfl rfl (.refl _ _)) ⟨rfl,rfl,rfl,rfl,trivial⟩ ⟨rfl,rfl,trivial⟩ ?_
  intro i hi
  refine Bj mC X8 ?_
  have hfl:=Co (λp=>(Dg G p).isSome) (P.take i)
  rw[As]at hfl
  by_cases hil:i<P.length
  ·have hx:=Aa hil
   have hxm:=hmem _ (AL hil)
   generalize P[i]=q at hx hxm
   have hxd:(P.map AS)[i]? =some (AS q):=by rw[Ac,hx];rfl
   have hst:(P.take (i+1)).filter (λp=>(Dg G p).isSome)=(P.take i).filter (λp=>(Dg G p).isSome)++(if(Dg G q).isSome=true then[q]else[]):=by
    rw[Av,hx,B9,BJ];congr 1;rw[NX,List.filter_nil]
   have hls:=Ld G q (by omega)
   cases hr:Dg G q with
   |
    none=>
    rw[hr]at hls hst
    unfold So at hls
    rw[if_neg (by decide),Cc]at hst
    (conv=>whnf)
    (repeat' ((first|refine Af ?_ ?_|refine A1 hxd rfl ?_|refine Ad rfl hls ?_|refine nx ?_|refine Aw (λ_=>?_) (λ_=>?_)|exact A0)<;>conv=>whnf))
    exact⟨i+1,_,_,hil,.refl _ _,⟨rfl,rfl,rfl,rfl,trivial⟩,⟨rfl,AO (by rw[hst]),trivial⟩,by omega⟩
   |
    some r=>
    rw[hr]at hls hst
    unfold So at hls
    rw[if_pos (show(some r).isSome=true from rfl)]at hst
    have hfin:((P.take i).filter λp=>(Dg G p).isSome).map AS++[.list 1 (q.map dI)]=((P.take (i+1)).filter λp=>(Dg G p).isSome).map AS:=by rw[hst,Ay];rfl
    (conv=>whnf)
    (repeat' ((first|refine Af ?_ ?_|refine A1 hxd rfl ?_|refine Ad rfl hls ?_|refine nx ?_|refine Aw (λ_=>?_) (λ_=>?_)|exact A0)<;>conv=>whnf))
    exact⟨i+1,_,_,hil,.refl _ _,⟨rfl,rfl,rfl,rfl,trivial⟩,⟨rfl,AO hfin,trivial⟩,by omega⟩
  ·have hii:P.take i=P:=Ak (by omega)
   rw[hii]
   ((conv=>whnf);repeat' ((first|refine odw ?_|refine nx ?_|refine Aw (λ_=>?_) (λ_=>?_))<;>conv=>whnf))
   exact⟨_,rfl,nR hP⟩
end Go.Proofs.YtjejpdfldmempaaGreatDoor
end
section
namespace Go.Proofs.YtjejpdfldmempaaGreatDoor
open Go.Sx Go.RowKit Go.Reg Go.Gr
set_option maxRecDepth 100000
theorem T4(P:List (List Int))(g:FuncId)(cs:List Da)(p:List Int->Bool)(hm:P.length<=9223372036854775807)(hp:∀x∈P,Pure C1 g (AS x::cs) (λy=>y=.bool (p x))):Pure C1 197 [Fy P,.func (.func g) [] cs] (λy=>y=.int .i64 (KA (P.findIdx? p))):=by
 have hl:(P.map AS).length=P.length:=Ab _
 refine AK Tryz.func197 Tryz.ntmps197 [] [] ?_
 ((conv=>whnf);repeat' ((first|refine odw ?_|refine nx ?_|refine Aw (λ_=>?_) (λ_=>?_))<;>conv=>whnf))
 refine AC (ι:=Nat) (λi=>i<=P.length/\∀y∈P.take i,p y=false) (λi=>[(8,.d (.int .i64 i)),(7,.d (.int .i64 (P.map AS).length)),(1,.d (.func (.func g) [] cs)),(0,.d (Fy P))]) (λ_=>[]) (λi=>P.length-i) 0 (λ_=>rfl) ⟨Aj _,by simp⟩ (.refl _ _) ⟨rfl,rfl,rfl,rfl,trivial⟩ trivial ?_
 rintro i ⟨hi,hne⟩
 refine Bj [] [] ?_
 by_cases hlt:i<P.length
 ·have hx:=Aa hlt
  generalize P[i]=y at hx
  have hxd:(P.map AS)[i]? =some (.list 1 (y.map dI)):=by rw[Ac,hx];rfl
  have hpy:=hp y (AB hx)
  cases hy:p y with
  |
   true=>
   rw[hy]at hpy
   rw[TD hx hy hne]
   (conv=>whnf)
   (repeat' ((first|refine Af ?_ ?_|refine A1 hxd rfl ?_|refine Ad (Ez _ _) hpy ?_|refine nx ?_|refine Aw (λ_=>?_) (λ_=>?_)|exact A0)<;>conv=>whnf))
   exact rfl
  |
   false=>
   rw[hy]at hpy
   (conv=>whnf)
   (repeat' ((first|refine Af ?_ ?_|refine A1 hxd rfl ?_|refine Ad (Ez _ _) hpy ?_|refine nx ?_|refine Aw (λ_=>?_) (λ_=>?_)|exact A0)<;>conv=>whnf))
   refine⟨i+1,_,_,⟨hlt,?_⟩,.refl _ _,⟨rfl,rfl,rfl,rfl,trivial⟩,trivial,by omega⟩
   intro z hz
   rw[Av,hx]at hz
   rcases Ag.1 hz with hz|hz
   ·exact hne z hz
   ·simp at hz;subst hz;exact hy
 ·have hii:P.take i=P:=Ak (by omega)
  rw[hii]at hne
  rw[Nt hne]
  ((conv=>whnf);repeat' ((first|refine odw ?_|refine nx ?_|refine Aw (λ_=>?_) (λ_=>?_))<;>conv=>whnf))
  exact rfl
end Go.Proofs.YtjejpdfldmempaaGreatDoor
end
section
namespace Go.Proofs.YtjejpdfldmempaaGreatDoor
open Go.Gr
section
variable {G:Gr} {ps:List Int->Bool} {k:Nat}
theorem sC(hG:G.Ok) {x:List Int}(h:x∈Bx G ps k):x.length=k+1:=((El hG k).1 h).2.1
end
theorem gV {G:Gr} {ps:List Int->Bool} {d k:Nat}(h:k<(CZ G ps d).length):(CZ G ps d)[k]? =some (Bx G ps k):=by
 have hx:=Aa h
 rw[hx,nW hx]
end Go.Proofs.YtjejpdfldmempaaGreatDoor
end
section
namespace Go.Proofs.YtjejpdfldmempaaGreatDoor
open Go.Sx Go.RowKit Go.Reg Go.Gr
set_option maxRecDepth 100000
theorem gM {α:Type} {l:List α} {i:Nat}(h:i<l.length)(y:α):(l.set i y).take (i+1)=l.take i++[y]:=by
 rw[Av,List.take_set_of_le (Az i),List.getElem?_set_self h];rfl
def jA:List (Nat×Plan):=[]
def mP:List FuncId:=[197]
theorem pL:Cu Tryz.prog mP jA (Tryz.f135.body.getD .skip)=true:=by kernel_rfl
theorem nU(vs:Array Value)(w:World):(callFunc 135 vs).run C1.P w=.ok (.enter 135 vs) w:=by kernel_rfl
theorem V2(l:List (List Int))(g:FuncId)(cs:List Da)(p:List Int->Bool)(hl:l.length<=4294967296)(hp:∀x∈l,Pure C1 g (AS x::cs) (λy=>y=.bool (p x))):
  mS C1 135 28 1 (l.map AS) [] [.func (.func g) [] cs] (λds=>ds=(l.filter λx=>!p x).map AS):=by
 have hll:(l.map AS).length=l.length:=Ab _
 have hif:=T4 l g cs p (by omega) hp
 refine Z7 Fb (pl:=jA) (G:=mP) Tryz.func135 rfl Tryz.ntmps135 nU pL (by simp) ?_
 cases hf:l.findIdx? p with
 |
  none=>
  rw[hf]at hif
  simp only[KA]at hif
  have hfl:(l.filter λx=>!p x)=l:=by
   rw[E3]
   intro a ha
   rw[AM]at hf
   simp[hf a ha]
  rw[hfl]
  (conv=>whnf)
  (repeat' ((first|refine Af ?_ ?_|refine AR tab rfl hif rfl ?_|refine nx ?_|refine Aw (λ_=>?_) (λ_=>?_)|exact A0)<;>conv=>whnf))
  exact⟨rfl,rfl,rfl⟩
 |
  some i=>
  rw[hf]at hif
  simp only[KA]at hif
  have hf2:=hf
  rw[AN]at hf2
  obtain⟨hil,hpi,hfirst⟩:=hf2
  have hti:l.take i=(l.take (i+1)).filter λx=>!p x:=by
   rw[Av,Aa hil,B9,BJ]
   have h2:[l[i]].filter (λx=>!p x)=[]:=by simp[hpi]
   rw[h2,Cc]
   refine(E3.2 λa ha=>?_).symm
   obtain⟨j,hj,rfl⟩:=AQ.1 ha
   have:=hfirst j (by omega)
   simpa using this
  (conv=>whnf)
  (repeat' ((first|refine Af ?_ ?_|refine AR tab rfl hif rfl ?_|refine nx ?_|refine Aw (λ_=>?_) (λ_=>?_)|exact A0)<;>conv=>whnf))
  refine AC (ι:=Nat×Nat×List (List Int)) (λx=>(x.2.2.length=l.length/\x.1<x.2.1/\x.2.1<=l.length)/\x.2.2.take x.1=((l.take x.2.1).filter λx=>!p x)/\x.2.2.drop x.2.1=l.drop x.2.1)
   (λx=>[(6,.d (.int .i64 (x.2.1:Nat))),(5,.d (.int .i64 (x.1:Nat))),(1,.d (.func (.func g) [] cs)),(0,.own 900)]) (λx=>[(900,.slice 28 1 (x.2.2.map AS))]) (λx=>l.length-x.2.1) (i,i+1,l) (λ_=>rfl)
   ⟨⟨rfl,by simp,by simp only;omega⟩,hti,rfl⟩ (.refl _ _) ⟨rfl,rfl,rfl,rfl,trivial⟩ ⟨rfl,trivial⟩ ?_
  rintro⟨i,j,L⟩ ⟨⟨hLl,hij,hjl⟩,hT,hD⟩
  dsimp only at hLl hij hjl hT hD
  have hLm:(L.map AS).length=L.length:=Ab _
  dsimp only
  refine Bj mP [] ?_
  by_cases hj:j<l.length
  ·have hx:=Aa hj
   have hpy:=hp _ (AL hj)
   generalize l[j]=y at hx hpy
   have hLj:L[j]? =some y:=by
    have:=congrArg (λz=>z[0]?) hD
    simp only[Kd,Dd]at this
    rw[this];exact hx
   have hxd:(L.map AS)[j]? =some (.list 1 (y.map dI)):=by rw[Ac,hLj];rfl
   have hD2:L.drop (j+1)=l.drop (j+1):=by
    have:=congrArg (List.drop 1) hD
    rwa [List.drop_drop,List.drop_drop]at this
   cases hpv:p y with
   |
    true=>
    rw[hpv]at hpy
    (conv=>whnf)
    (repeat' ((first|refine Af ?_ ?_|refine FM (i:=j) rfl (by omega) ?_|refine FL hxd ?_|refine Ad (Ez _ _) hpy ?_|refine nx ?_|refine Aw (λ_=>?_) (λ_=>?_)|exact A0)<;>conv=>whnf))
    refine⟨(i,j+1,L),_,_,⟨⟨hLl,by dsimp only;omega,hj⟩,?_,hD2⟩,.refl _ _,⟨rfl,rfl,rfl,rfl,trivial⟩,⟨rfl,trivial⟩,by dsimp only;omega⟩
    dsimp only
    rw[hT,Av,hx,B9,BJ]
    simp[hpv]
   |
    false=>
    rw[hpv]at hpy
    have hLi:=Aa (l:=L) (i:=i) (by omega)
    generalize L[i]'(by omega)=z at hLi
    have hzd:(L.map AS)[i]? =some (.list 1 (z.map dI)):=by rw[Ac,hLi];rfl
    have hset:(L.map AS).set i (.list 1 (y.map dI))=(L.set i y).map AS:=by rw[DX];rfl
    (conv=>whnf)
    (repeat' ((first|refine Af ?_ ?_|refine FM (i:=j) rfl (by omega) ?_|refine FL hxd ?_|refine Ad (Ez _ _) hpy ?_|refine FM (i:=i) rfl (by omega) ?_|refine FL hzd ?_|refine nx ?_|refine Aw (λ_=>?_) (λ_=>?_)|exact A0)<;>conv=>whnf))
    refine⟨(i+1,j+1,L.set i y),_,_,⟨⟨by rw[mW];exact hLl,by dsimp only;omega,hj⟩,?_,?_⟩,.refl _ _,⟨rfl,rfl,rfl,rfl,trivial⟩,⟨AO hset,trivial⟩,by dsimp only;omega⟩
    ·dsimp only
     rw[gM (by omega),hT,Av,hx,B9,BJ]
     simp[hpv]
    ·dsimp only
     rw[List.drop_set_of_lt (by omega)];exact hD2
  ·have hje:j=l.length:=by omega
   subst hje
   rw[De]at hT
   have hL0:L.map AS≠[]:=λe=>by have hc:=congrArg List.length e;rw[hLm,Cb]at hc;omega
   have hone:∀d∈L.map AS,d.one=true:=λd hd=>by obtain⟨x,_,rfl⟩:=Ar.1 hd;rfl
   have hone2:∀d∈(L.map AS).take i,d.one=true/\d.stor=true:=λd hd=>by obtain⟨x,_,rfl⟩:=Ar.1 (Ek hd);exact⟨rfl,rfl⟩
   have hhead:(L.map AS).take i=(l.filter λx=>!p x).map AS:=by rw[<-CW,hT]
   ((conv=>whnf);repeat' ((first|refine odw ?_|refine nx ?_|refine Aw (λ_=>?_) (λ_=>?_))<;>conv=>whnf))
   refine jI i 800 Fb 900 rfl rfl rfl rfl rfl rfl rfl rfl hone rfl rfl (by omega) hL0 ⟨by decide,by decide⟩ rfl λg c vs hvs=>?_
   ((conv=>whnf);repeat' ((first|refine odw ?_|refine nx ?_|refine Aw (λ_=>?_) (λ_=>?_))<;>conv=>whnf))
   refine bX Fb 900 rfl rfl rfl rfl rfl rfl (λw=>by kernel_rfl) rfl rfl ⟨by decide,by decide⟩ rfl ?_
   ((conv=>whnf);repeat' ((first|refine odw ?_|refine nx ?_|refine Aw (λ_=>?_) (λ_=>?_))<;>conv=>whnf))
   refine jJ (gh:=800) (ds:=(L.map AS).take i) Fb 900 rfl rfl rfl rfl rfl (by rw[Ah,As,Bu];omega) rfl rfl (by rw[Bg (by rw[As];omega),Gd,Nat.min_self]) (by rw[As];omega) hone2 rfl rfl ⟨by decide,by decide⟩ rfl ?_
   rw[hhead]
   ((conv=>whnf);repeat' ((first|refine odw ?_|refine nx ?_|refine Aw (λ_=>?_) (λ_=>?_))<;>conv=>whnf))
   exact⟨rfl,rfl,rfl⟩
section
variable {G:Gr} {e:Bool} {d:Int} {l:List Opp}
def iW:List (Nat×Plan):=[]
def rP:List FuncId:=[135]
theorem pK:Cu Tryz.prog rP iW (Tryz.f91.body.getD .skip)=true:=by kernel_rfl
theorem nT(vs:Array Value)(w:World):(callFunc 91 vs).run C1.P w=.ok (.enter 91 vs) w:=by kernel_rfl
theorem V7(h:JobOk G e d l)(P:List (List Int))(hP:P.length<=4294967296)(hx:∀x∈P,x≠[]/\x.length<=1000):
  mS C1 91 28 1 (P.map AS) [dJ G e d l] [] (λds=>ds=(P.filter (II G e l)).map AS):=by
 have hdl:=V2 P 136 [.ref (dJ G e d l)] (λx=>!II G e l x) hP (λx hm=>Yk h x (hx x hm).1 (hx x hm).2)
 simp only[Bool.not_not]at hdl
 refine Z7 Fb (pl:=iW) (G:=rP) Tryz.func91 rfl Tryz.ntmps91 nT pK (by simp) ?_
 (conv=>whnf)
 refine eM 2 rfl rfl ?_
 refine SK [] rfl rfl rfl hdl ?_;rintro ds rfl
 ((conv=>whnf);repeat' ((first|refine odw ?_|refine nx ?_|refine Aw (λ_=>?_) (λ_=>?_))<;>conv=>whnf))
 exact⟨rfl,rfl,rfl⟩
def rQ:List FuncId:=[137]
theorem Yf(G:Gr)(hG:G.Ok):DV C1 92 [dG G] 28 1 (λds=>ds=((Fc G.labels.length).map λv=>[v]).map AS):=by
 have hsz:=hG.size
 have hnx:Pure C1 137 [dG G,.nils] (λy=>y=AS (Fc G.labels.length)):=Sx.Pure.lax (.cons (.refl _) (.cons (.nils 1) .nil)) (by
  have:=cE G hG [] (by simp)
  rwa [show FK G []=Fc G.labels.length from if_pos rfl]at this)
 have hul:=E6 G.labels.length
 generalize hL:Fc G.labels.length=L at hnx hul
 have hLl:(L.map dI).length=L.length:=Ab _
 rw[show(L.map λv=>[v]).map AS=L.map pJ from R5]
 refine Vt Tryz.func92 Tryz.ntmps92 rQ [] ?_
 (conv=>whnf)
 (repeat' ((first|refine Af ?_ ?_|refine Ad rfl hnx ?_|refine nx ?_|refine Aw (λ_=>?_) (λ_=>?_)|exact A0)<;>conv=>whnf))
 refine AC (ι:=Nat) (λi=>i<=L.length) (λi=>[(9,.d (.int .i64 i)),(8,.d (.int .i64 (L.map dI).length)),(7,.d (AS L)),(3,.own 300)]) (λi=>[(300,.slice 28 1 ((L.take i).map pJ))]) (λi=>L.length-i) 0 (λ_=>rfl) (Aj _)
  (.own 3 300 28 1 rfl rfl (.refl _ _)) ⟨rfl,rfl,rfl,rfl,trivial⟩ ⟨rfl,trivial⟩ ?_
 intro i hi
 refine Bj rQ [] ?_
 by_cases hlt:i<L.length
 ·have hx:=Aa hlt
  generalize L[i]=x at hx
  have hxd:(L.map dI)[i]? =some (.int .i64 x):=by rw[Ac,hx];rfl
  (conv=>whnf)
  (repeat' ((first|refine Af ?_ ?_|refine A1 hxd rfl ?_|refine nx ?_|refine Aw (λ_=>?_) (λ_=>?_)|exact A0)<;>conv=>whnf))
  refine Vh Fb (G:=[]) (.frz 15 rfl (.refl _ _)) (.inr rfl) ?_
  have hfin:(L.take i).map pJ++[.list 1 [.int .i64 x]]=(L.take (i+1)).map pJ:=by rw[wD hx,Ay];rfl
  ((conv=>whnf);repeat' ((first|refine odw ?_|refine nx ?_|refine Aw (λ_=>?_) (λ_=>?_))<;>conv=>whnf))
  exact⟨i+1,_,_,hlt,.refl _ _,⟨rfl,rfl,rfl,rfl,trivial⟩,⟨AO hfin,trivial⟩,by omega⟩
 ·have hii:L.take i=L:=Ak (by omega)
  rw[hii]
  ((conv=>whnf);repeat' ((first|refine odw ?_|refine nx ?_|refine Aw (λ_=>?_) (λ_=>?_))<;>conv=>whnf))
  exact⟨rfl,rfl,rfl⟩
def sP:List (Nat×Plan):=[(4,.leaf [1,0,2,3,0,0] [1,0,2,3,4,5] [0,0,2,7,15,31])]
def vX:List FuncId:=[92,75]
theorem Xj(h:JobOk G e d l):Pure C1 40 [dJ G e d l] (λz=>z=.tuple [Fy (Bx (BQ G e) (II G e l) 0),.nili]):=by
 have hw:=KU h
 have hok:=GI h.ok (by have:=h.n;omega) h.m e
 have hsm:=Kn h
 have hbr:=Yf (BQ G e) hok
 have hkp:=V7 h ((Fc (BQ G e).labels.length).map λv=>[v]) (by rw[Ab,E6];omega) (λx hx=>by obtain⟨v,_,rfl⟩:=Ar.1 hx;exact⟨by simp,by simp⟩)
 refine AK Tryz.func40 Tryz.ntmps40 vX sP ?_
 (conv=>whnf)
 (repeat' ((first|refine Af ?_ ?_|refine Ad rfl hw ?_|refine Ly 300 rfl rfl hbr ?_|refine NP [_] rfl rfl rfl hkp ?_|refine nx ?_|refine Aw (λ_=>?_) (λ_=>?_)|exact A0)<;>conv=>whnf))
 exact rfl
def mM:List FuncId:=[118,119]
theorem Ye(h:JobOk G e d l)(X:List Int)(hx:X.length<=900):Pure C1 76 [dJ G e d l,dG (BQ G e),AS X] (λz=>z=Fy (Fx (BQ G e) (II G e l) X)):=by
 have hok:=GI h.ok (by have:=h.n;omega) h.m e
 have hg:=dL (BQ G e) hok X (by omega)
 have hXl:(X.map dI).length=X.length:=Ab _
 have hgl:(Ha (BQ G e) X).length<=4294967296:=by
  unfold Ha
  split
  ·exact BE (Co _ _) (Se hok (by omega))
  ·simp
 have hkp:=V7 h (Hy (BQ G e) X) (by unfold Hy;rw[Ab];exact hgl) (λx hm=>by
  unfold Hy at hm
  obtain⟨v,_,rfl⟩:=Ar.1 hm
  exact⟨by simp,by rw[Ah,BF];omega⟩)
 refine AK Tryz.func76 Tryz.ntmps76 mM [] ?_
 (conv=>whnf)
 refine AI rfl hg ?_
 unfold Fx
 unfold Hy at hkp⊢
 generalize Ha (BQ G e) X=L at hgl hkp⊢
 have hLl:(L.map dI).length=L.length:=Ab _
 rintro y (rfl|⟨rfl,rfl⟩)
 ·((conv=>whnf);repeat' ((first|refine odw ?_|refine nx ?_|refine Aw (λ_=>?_) (λ_=>?_))<;>conv=>whnf))
  refine AC (ι:=Nat) (λi=>i<=L.length) (λi=>[(14,.d (.int .i64 i)),(13,.d (.int .i64 (L.map dI).length)),(12,.d (AS L)),(7,.own 300),(3,.own 3),(2,.d (AS X))]) (λi=>[(3,.cells 58 [.d (dG G),.d (.bool e),.d (.int .i64 d),.d (Ja l)]),(300,.slice 28 1 (((L.take i).map λv=>X++[v]).map AS))]) (λi=>L.length-i) 0 (λ_=>rfl) (Aj _)
   (.own 7 300 28 1 rfl rfl (.refl _ _)) ⟨rfl,rfl,rfl,rfl,rfl,rfl,trivial⟩ ⟨rfl,rfl,trivial⟩ ?_
  intro i hi
  refine Bj mM [] ?_
  by_cases hlt:i<L.length
  ·have hx:=Aa hlt
   generalize L[i]=v at hx
   have hxd:(L.map dI)[i]? =some (.int .i64 v):=by rw[Ac,hx];rfl
   have hnl:(((L.take i).map λv=>X++[v]).map AS).length=i:=by rw[Ab,Ab,As];omega
   have hfin:((L.take i).map λv=>X++[v]).map AS++[.list 1 (X.map dI++[.int .i64 v])]=((L.take (i+1)).map λv=>X++[v]).map AS:=by rw[wD hx,Ay,Ay];simp[AS,dI]
   (conv=>whnf)
   (repeat' ((first|refine Af ?_ ?_|refine A1 hxd rfl ?_|refine eN 400 rfl rfl pP λa=>?_|refine XQ 400 23 20 Fb rfl rfl rfl rfl (by decide) (by decide) rfl rfl rfl rfl (by simp) rfl rfl rfl (Sh (by simp only[Ab,A4,Cb];omega) rfl rfl) rfl ⟨rfl,rfl,rfl,rfl,trivial⟩ ?_|refine nx ?_|refine Aw (λ_=>?_) (λ_=>?_)|exact A0)<;>conv=>whnf))
   refine Vh Fb (G:=[]) (.frz 23 rfl (.refl _ _)) (.inr rfl) ?_
   ((conv=>whnf);repeat' ((first|refine odw ?_|refine nx ?_|refine Aw (λ_=>?_) (λ_=>?_))<;>conv=>whnf))
   exact⟨i+1,_,_,hlt,.refl _ _,⟨rfl,rfl,rfl,rfl,rfl,rfl,trivial⟩,⟨rfl,AO hfin,trivial⟩,by omega⟩
  ·have hii:L.take i=L:=Ak (by omega)
   rw[hii]
   (conv=>whnf)
   (repeat' ((first|refine Af ?_ ?_|refine NP [_] rfl rfl rfl hkp ?_|refine nx ?_|refine Aw (λ_=>?_) (λ_=>?_)|exact A0)<;>conv=>whnf))
   exact rfl
 ·((conv=>whnf);repeat' ((first|refine odw ?_|refine nx ?_|refine Aw (λ_=>?_) (λ_=>?_))<;>conv=>whnf))
  refine AC (ι:=Nat) (λi=>i=0) (λ_=>[(14,.d (.int .i64 0)),(13,.d (.int .i64 0)),(7,.own 300),(3,.own 3),(2,.d (AS X))]) (λ_=>[(3,.cells 58 [.d (dG G),.d (.bool e),.d (.int .i64 d),.d (Ja l)]),(300,.slice 28 1 [])]) (λ_=>0) 0 (λ_=>rfl) rfl
   (.own 7 300 28 1 rfl rfl (.refl _ _)) ⟨rfl,rfl,rfl,rfl,rfl,trivial⟩ ⟨rfl,rfl,trivial⟩ ?_
  rintro i rfl
  refine Bj mM [] ?_
  (conv=>whnf)
  (repeat' ((first|refine Af ?_ ?_|refine NP [_] rfl rfl rfl hkp ?_|refine nx ?_|refine Aw (λ_=>?_) (λ_=>?_)|exact A0)<;>conv=>whnf))
  exact rfl
end
end Go.Proofs.YtjejpdfldmempaaGreatDoor
end
section
namespace Go.Proofs.YtjejpdfldmempaaGreatDoor
open Go.Sx Go.RowKit Go.Reg Go.Gr
set_option maxRecDepth 100000
theorem ZJ {ps:List Int->Bool} {X:List Int} {n:Nat}(hn:n<X.length)(h:ps (X.take (n+1))=false):Ka ps X=false:=by
 unfold Ka
 rw[WN]
 exact⟨n,AJ.2 hn,by rw[h];decide⟩
theorem lR {ps:List Int->Bool} {X:List Int}(h:∀n,n<X.length->ps (X.take (n+1))=true):Ka ps X=true:=by
 unfold Ka
 rw[BY]
 exactλn hn=>h n (AJ.1 hn)
def T3:ByteArray:=⟨#[108,105,115,116,115]⟩
def WD(w:Gr)(ps:List Int->Bool)(D:Nat)(most:Int):Da:=if(F4 w ps D:Int)<=max most 0 then .tuple [.list 1 ((CZ w ps D).map Fy),.nili]else .tuple [.nils,dF 13 0 T3]
section
variable {G:Gr} {e:Bool} {d:Int} {l:List Opp}
theorem MM {w:Gr} {ps:List Int->Bool} {k:Nat}(h:Bx w ps k=[]):∀{D:Nat},k<=D->F4 w ps D=F4 w ps k:=by
 intro D hD
 induction D with
 |zero=>rw[show k=0 by omega]
 |
  succ D ih=>
  rcases AP D k with hk|hk
  ·rw[show D+1=k by omega]
  ·rw[FV,ih hk,Lb h D hk];rfl
def mN:List FuncId:=[40,75,76]
theorem WC(h:JobOk G e d l)(most:Int):Pure C1 26 [dJ G e d l,.int .i64 most] (λz=>z=WD (BQ G e) (II G e l) d.toNat most):=by
 have hs:=Xj h
 have hw:=KU h
 have hgr:∀X:List Int,X.length<=900->Pure C1 76 [dJ G e d l,dG (BQ G e),AS X] (λz=>z=Fy (Fx (BQ G e) (II G e l) X)):=λX hX=>Ye h X hX
 have hok:=GI h.ok (by have:=h.n;omega) h.m e
 have hsm:=Kn h
 have hd:=h.d
 clear h
 obtain⟨D,rfl⟩:=Ax (show 0<=d by omega)
 rw[AV]
 generalize BQ G e=w at hs hw hgr hok hsm⊢
 generalize II G e l=ps at hs hgr⊢
 have hrl:∀k,(Bx w ps k).length<=256:=λk=>BE (LO hok ps k) (BE (HK (by decide) hsm) (by decide))
 have hfew:∀m,m<=8->F4 w ps m<=2048:=λm hm=>Ur hok ps hsm hm
 refine AK Tryz.func26 Tryz.ntmps26 mN [] ?_
 (conv=>whnf)
 (repeat' ((first|refine Af ?_ ?_|refine Ad rfl hs ?_|refine Ad rfl hw ?_|refine nx ?_|refine Aw (λ_=>?_) (λ_=>?_)|exact A0)<;>conv=>whnf))
 refine AC (ι:=Nat) (λk=>k<D/\(∀j,j<k->Bx w ps j≠[])/\(F4 w ps k:Int)<=max most 0) (λk=>[(11,.d (.int .i64 (F4 w ps k:Nat))),(10,.own 300),(8,.d (dG w)),(6,.d (Fy (Bx w ps k))),(2,.own 2),(1,.d (.int .i64 most))]) (λk=>[(2,.cells 58 [.d (dG G),.d (.bool e),.d (.int .i64 (D:Int)),.d (Ja l)]),(300,.slice 70 1 (((List.range k).map (Bx w ps)).map Fy))]) (λk=>D-k) 0 (λ_=>rfl) ⟨by omega,λj hj=>absurd hj (Ev _),by rw[show F4 w ps 0=0 from rfl];omega⟩
  (.own 10 300 70 1 rfl rfl (.refl _ _)) ⟨rfl,rfl,rfl,rfl,rfl,rfl,trivial⟩ ⟨rfl,rfl,trivial⟩ ?_
 rintro k ⟨hkD,hne,hsum⟩
 refine Bj mN [] ?_
 have hRl:=hrl k
 have hdl:((Bx w ps k).map AS).length=(Bx w ps k).length:=Ab _
 have hk8:=hfew (k+1) (by omega)
 have hst:=FV w ps k
 have hOl:(((List.range k).map (Bx w ps)).map Fy).length=k:=by rw[Ab,Ab,Bv]
 have hrg:(List.range k).length=k:=Bv
 have hO1:((List.range (k+1)).map (Bx w ps)).map Fy=((List.range k).map (Bx w ps)).map Fy++[Fy (Bx w ps k)]:=by rw[BN,Ay,Ay];rfl
 have hO2:(((List.range k).map (Bx w ps)).map Fy++[Fy (Bx w ps k)]).length=k+1:=by rw[Ah,hOl];rfl
 by_cases hR:Bx w ps k=[]
 ·have eS:=MM hR (Nat.le_of_lt hkD)
  have eR:CZ w ps D=(List.range k).map (Bx w ps):=by rw[ID hR (Nat.le_of_lt hkD),DK hne]
  unfold WD
  rw[eS,if_pos hsum,eR]
  rw[hR]
  have hd0:(List.map AS ([]:List (List Int))).length=0:=rfl
  ((conv=>whnf);repeat' ((first|refine odw ?_|refine nx ?_|refine Aw (λ_=>?_) (λ_=>?_))<;>conv=>whnf))
  exact rfl
 have hR0:(Bx w ps k).length≠0:=λe=>hR (AF e)
 by_cases hm:(F4 w ps (k+1):Int)<=max most 0
 ·by_cases hl:k+1=D
  ·have eR:CZ w ps D=(List.range (k+1)).map (Bx w ps):=by
    rw[<-hl]
    exact DK λj hj=>by
     rcases AP j k with g|g
     ·exact hne j g
     ·rw[show j=k by omega];exact hR
   unfold WD
   rw[if_pos (by rw[<-hl];exact hm),eR,hO1]
   ((conv=>whnf);repeat' ((first|refine odw ?_|refine nx ?_|refine Aw (λ_=>?_) (λ_=>?_))<;>conv=>whnf))
   exact rfl
  ·have hst2:(F4 w ps k:Int)+(((Bx w ps k).map AS).length:Int)=(F4 w ps (k+1):Nat):=by rw[hdl,hst];omega
   have hpre:∀n,(((Bx w ps k).take n).flatMap (Fx w ps)).length<=256:=λn=>by
    have:=hrl (k+1)
    unfold Bx at this
    rw[<-BZ n (Bx w ps k),Dm,Ah]at this
    omega
   have hxl:∀x∈Bx w ps k,x.length<=900:=λx hx=>by
    have:=((El hok k).1 hx).2.1
    omega
   ((conv=>whnf);repeat' ((first|refine odw ?_|refine nx ?_|refine Aw (λ_=>?_) (λ_=>?_))<;>conv=>whnf))
   refine AC (ι:=Nat) (λi=>i<=(Bx w ps k).length) (λi=>[(51,.d (.int .i64 i)),(50,.d (.int .i64 ((Bx w ps k).map AS).length)),(49,.d (Fy (Bx w ps k))),(12,.own 301),(11,.d (.int .i64 ((F4 w ps k:Int)+(((Bx w ps k).map AS).length:Int)))),(10,.own 300),(8,.d (dG w)),(2,.own 2),(1,.d (.int .i64 most))]) (λi=>[(2,.cells 58 [.d (dG G),.d (.bool e),.d (.int .i64 (D:Int)),.d (Ja l)]),(300,.slice 70 1 (((List.range k).map (Bx w ps)).map Fy++[Fy (Bx w ps k)])),(301,.slice 28 1 ((((Bx w ps k).take i).flatMap (Fx w ps)).map AS))]) (λi=>(Bx w ps k).length-i) 0 (λ_=>rfl) (Aj _)
    (.own 12 301 28 1 rfl rfl (.refl _ _)) ⟨rfl,rfl,rfl,rfl,rfl,rfl,rfl,rfl,rfl,trivial⟩ ⟨rfl,rfl,rfl,trivial⟩ ?_
   intro i hi
   refine Bj mN [] ?_
   by_cases hil:i<(Bx w ps k).length
   ·have hx:=Aa hil
    have hg:=hgr _ (hxl _ (AL hil))
    generalize (Bx w ps k)[i]=x at hx hg
    have hxd:((Bx w ps k).map AS)[i]? =some (AS x):=by rw[Ac,hx];rfl
    have hstp:((Bx w ps k).take (i+1)).flatMap (Fx w ps)=((Bx w ps k).take i).flatMap (Fx w ps)++Fx w ps x:=by rw[Av,hx,B9,Dm];simp
    have h1:=hpre i
    have h2:=hpre (i+1)
    rw[hstp,Ah]at h2
    have hfin:(((Bx w ps k).take i).flatMap (Fx w ps)).map AS++(Fx w ps x).map AS=(((Bx w ps k).take (i+1)).flatMap (Fx w ps)).map AS:=by rw[hstp,Ay]
    have hml:((((Bx w ps k).take i).flatMap (Fx w ps)).map AS).length+((Fx w ps x).map AS).length<=4294967296:=by rw[Ab,Ab];omega
    (conv=>whnf)
    (repeat' ((first|refine Af ?_ ?_|refine A1 hxd rfl ?_|refine Ad rfl hg ?_|refine Hv hml ?_|refine nx ?_|refine Aw (λ_=>?_) (λ_=>?_)|exact A0)<;>conv=>whnf))
    exact⟨i+1,_,_,hil,.refl _ _,⟨rfl,rfl,rfl,rfl,rfl,rfl,rfl,rfl,rfl,trivial⟩,⟨rfl,rfl,AO hfin,trivial⟩,by omega⟩
   ·have hii:(Bx w ps k).take i=Bx w ps k:=Ak (by omega)
    rw[hii]
    ((conv=>whnf);repeat' ((first|refine odw ?_|refine nx ?_|refine Aw (λ_=>?_) (λ_=>?_))<;>conv=>whnf))
    refine⟨k+1,_,_,⟨by omega,λj hj=>?_,hm⟩,.frz 301 rfl (.refl _ _),⟨congrArg (λz=>Dat.d (.int .i64 z)) hst2,rfl,rfl,rfl,rfl,rfl,trivial⟩,⟨rfl,AO hO1.symm,trivial⟩,by omega⟩
    rcases AP j k with g|g
    ·exact hne j g
    ·rw[show j=k by omega];exact hR
 ·have hbig:=aI w ps (show k+1<=D from hkD)
  unfold WD
  rw[if_neg (by omega)]
  (conv=>whnf)
  (repeat' ((first|refine Af ?_ ?_|refine Ad rfl (Cj 13 0 T3) ?_|refine nx ?_|refine Aw (λ_=>?_) (λ_=>?_)|exact A0)<;>conv=>whnf))
  exact rfl
end
end Go.Proofs.YtjejpdfldmempaaGreatDoor
end
section
namespace Go.Proofs.YtjejpdfldmempaaGreatDoor
open Go.Sx Go.RowKit Go.Reg Go.Gr
set_option maxRecDepth 100000
theorem U9(k:Int):Pure C1 168 [.int .i64 k] (λy=>y=.bool (FU k)):=by
 refine AK Tryz.func168 Tryz.ntmps168 [] [] ?_
 by_cases h1:k=1
 ·subst h1;((conv=>whnf);repeat' ((first|refine odw ?_|refine nx ?_|refine Aw (λ_=>?_) (λ_=>?_))<;>conv=>whnf));exact rfl
 by_cases h6:k=6
 ·subst h6;((conv=>whnf);repeat' ((first|refine odw ?_|refine nx ?_|refine Aw (λ_=>?_) (λ_=>?_))<;>conv=>whnf));exact rfl
 by_cases h8:k=8
 ·subst h8;((conv=>whnf);repeat' ((first|refine odw ?_|refine nx ?_|refine Aw (λ_=>?_) (λ_=>?_))<;>conv=>whnf));exact rfl
 have e:FU k=true:=by unfold FU;simp[h1,h6,h8]
 rw[e]
 ((conv=>whnf);repeat' ((first|refine odw ?_|refine nx ?_|refine Aw (λ_=>?_) (λ_=>?_))<;>conv=>whnf))
 all_goals exact congrArg Da.bool (decide_eq_true h8)
def vJ:List FuncId:=[168]
theorem J0(o:Opp):Pure C1 114 [dO o] (λy=>y=.int .i64 (D7 o)):=by
 have ht:=U9 o.kind
 refine AK Tryz.func114 Tryz.ntmps114 vJ [] ?_
 by_cases hk:o.kind<1\/8<o.kind
 ·have e:D7 o=1:=by unfold D7;rw[if_pos hk]
  rw[e]
  (conv=>whnf)
  (repeat' ((first|refine Af ?_ ?_|refine Ad rfl ht ?_|refine nx ?_|refine Aw (λ_=>?_) (λ_=>?_)|exact A0)<;>conv=>whnf))
  all_goals first|exact rfl|(exfalso;omega)
 ·by_cases hr:o.n<0\/255<o.n\/0<o.n/\FU o.kind=false
  ·have e:D7 o=3:=by unfold D7;rw[if_neg hk,if_pos hr]
   rw[e]
   cases htk:FU o.kind<;>rw[htk]at ht hr<;>
   ·(conv=>whnf)
    (repeat' ((first|refine Af ?_ ?_|refine Ad rfl ht ?_|refine nx ?_|refine Aw (λ_=>?_) (λ_=>?_)|exact A0)<;>conv=>whnf))
    all_goals first|exact rfl|(exfalso;simp at hr;omega)|(exfalso;omega)
  ·have e:D7 o=0:=by unfold D7;rw[if_neg hk,if_neg hr]
   rw[e]
   cases htk:FU o.kind<;>rw[htk]at ht hr<;>
   ·(conv=>whnf)
    (repeat' ((first|refine Af ?_ ?_|refine Ad rfl ht ?_|refine nx ?_|refine Aw (λ_=>?_) (λ_=>?_)|exact A0)<;>conv=>whnf))
    all_goals first|exact rfl|(exfalso;simp at hr;omega)|(exfalso;omega)
def ZL:List FuncId:=[114]
theorem Rt(l:List Opp)(hm:l.length<=9223372036854775807):Pure C1 73 [Ja l] (λy=>(y=.tuple [.int .i64 0,.int .i64 0]/\l.length<=16/\∀o∈l,D7 o=0)\/∃c i:Int,c≠0/\y=.tuple [.int .i64 c,.int .i64 i]):=by
 have hl:(l.map dO).length=l.length:=Ab _
 refine AK Tryz.func73 Tryz.ntmps73 ZL [] ?_
 by_cases h16:16<l.length
 ·((conv=>whnf);repeat' ((first|refine odw ?_|refine nx ?_|refine Aw (λ_=>?_) (λ_=>?_))<;>conv=>whnf))
  exact .inr ⟨6,0,by decide,rfl⟩
 ((conv=>whnf);repeat' ((first|refine odw ?_|refine nx ?_|refine Aw (λ_=>?_) (λ_=>?_))<;>conv=>whnf))
 refine AC (ι:=Nat) (λi=>i<=l.length/\∀y∈l.take i,D7 y=0) (λi=>[(4,.d (.int .i64 i)),(0,.d (Ja l))]) (λ_=>[]) (λi=>l.length-i) 0 (λ_=>rfl) ⟨Aj _,by simp⟩ (.refl _ _) ⟨rfl,rfl,trivial⟩ trivial ?_
 rintro i ⟨hi,hne⟩
 refine Bj ZL [] ?_
 by_cases hlt:i<l.length
 ·have hx:=Aa hlt
  generalize l[i]=y at hx
  have hxd:(l.map dO)[i]? =some (.agg [.int .i64 y.kind,.int .i64 y.n]):=by rw[Ac,hx];rfl
  have hf:=J0 y
  by_cases hy:D7 y=0
  ·rw[hy]at hf
   (conv=>whnf)
   (repeat' ((first|refine Af ?_ ?_|refine A1 hxd rfl ?_|refine Ad rfl hf ?_|refine nx ?_|refine Aw (λ_=>?_) (λ_=>?_)|exact A0)<;>conv=>whnf))
   refine⟨i+1,_,_,⟨hlt,?_⟩,.refl _ _,⟨rfl,rfl,trivial⟩,trivial,by omega⟩
   intro z hz
   rw[Av,hx]at hz
   rcases Ag.1 hz with hz|hz
   ·exact hne z hz
   ·simp at hz;subst hz;exact hy
  ·(conv=>whnf)
   (repeat' ((first|refine Af ?_ ?_|refine A1 hxd rfl ?_|refine Ad rfl hf ?_|refine nx ?_|refine Aw (λ_=>?_) (λ_=>?_)|exact A0)<;>conv=>whnf))
   exact .inr ⟨_,_,hy,rfl⟩
 ·have hii:l.take i=l:=Ak (by omega)
  rw[hii]at hne
  ((conv=>whnf);repeat' ((first|refine odw ?_|refine nx ?_|refine Aw (λ_=>?_) (λ_=>?_))<;>conv=>whnf))
  exact .inl ⟨rfl,by omega,hne⟩
end Go.Proofs.YtjejpdfldmempaaGreatDoor
end
section
namespace Go.Proofs.YtjejpdfldmempaaGreatDoor
open Go.Sx Go.RowKit Go.Reg Go.Gr
set_option maxRecDepth 100000
theorem T5(l:List Opp)(hm:l.length<=8796093022207):Pure C1 23 [Ja l] (λy=>y=Ja l):=by
 have hel:(l.map dO).length=l.length:=Ab _
 refine AK Tryz.func23 Tryz.ntmps23 [] [] ?_
 ((conv=>whnf);repeat' ((first|refine odw ?_|refine nx ?_|refine Aw (λ_=>?_) (λ_=>?_))<;>conv=>whnf))
 refine AC (ι:=Nat) (λi=>i<=l.length) (λi=>[(4,.d (.int .i64 i)),(3,.own 300),(0,.d (Ja l))]) (λi=>[(300,.slice 140 2 ((l.take i).map dO))]) (λi=>l.length-i) 0 (λ_=>rfl) (Aj _)
  (.own 3 300 140 2 rfl rfl (.refl _ _)) ⟨rfl,rfl,rfl,trivial⟩ ⟨rfl,trivial⟩ ?_
 intro i hi
 refine Bj [] [] ?_
 by_cases hlt:i<l.length
 ·have hx:=Aa hlt
  generalize l[i]=e at hx
  have hxd:(l.map dO)[i]? =some (dO e):=by rw[Ac,hx];rfl
  have htl:((l.take i).map dO).length=i:=by rw[Ab,As];omega
  have hfin:(l.take i).map dO++[dO e]=(l.take (i+1)).map dO:=by rw[Av,hx,B9,Ay];rfl
  generalize (l.take i).map dO=Z at htl hfin⊢
  (conv=>whnf)
  (repeat' ((first|refine Af ?_ ?_|refine A1 hxd rfl ?_|refine tD (by simp only[A4,Cb];omega) ?_|refine nx ?_|refine Aw (λ_=>?_) (λ_=>?_)|exact A0)<;>conv=>whnf))
  exact⟨i+1,_,_,hlt,.refl _ _,⟨rfl,rfl,rfl,trivial⟩,⟨AO hfin,trivial⟩,by omega⟩
 ·have hii:l.take i=l:=Ak (by omega)
  rw[hii]
  ((conv=>whnf);repeat' ((first|refine odw ?_|refine nx ?_|refine Aw (λ_=>?_) (λ_=>?_))<;>conv=>whnf))
  exact rfl
end Go.Proofs.YtjejpdfldmempaaGreatDoor
end
section
namespace Go.Proofs.YtjejpdfldmempaaGreatDoor
open Go.Gr
def DW:Gr:=⟨[0,0,0],[⟨0,1⟩,⟨0,2⟩,⟨1,2⟩]⟩
theorem ZX:FC DW.edges=DW.edges:=(M5 (by decide) (by decide) (by decide)).symm
theorem nJ:Dt DW.labels DW.edges=none:=by decide
theorem WZ:DW.Ok:=by
 have:=M4 nJ
 rwa [ZX]at this
theorem dN {G:Gr}(hG:G.Ok)(l:List Int):Ha G l=if Cz G l=true then(PM G l G.labels.length).filter (DM G l)else[]:=by
 unfold Ha
 rw[gZ hG]
theorem fL {x:List Int}(h:BW DW x=true)(h8:x.length<=8):II DW false [] x=true:=by
 unfold II BQ
 rw[if_neg (by decide),h,if_neg (by decide),decide_eq_true h8]
 unfold Nq
 rw[Ns WZ h8 h];rfl
theorem LD:Bx DW (II DW false []) 0=[[0],[1],[2]]:=by
 show([[0],[1],[2]]:List (List Int)).filter _=_
 refine E3.2 λx hx=>fL ?_ ?_
 ·revert x;decide
 ·revert x;decide
theorem HO {l:List Int} {r:List (List Int)}(h:((if Cz DW l=true then(PM DW l 3).filter (DM DW l)else[]).map λv=>l++[v])=r)(hr:∀x∈r,BW DW x=true/\x.length<=8):Fx DW (II DW false []) l=r:=by
 unfold Fx Hy
 rw[dN WZ]
 rw[show DW.labels.length=3 from rfl,h]
 exact E3.2 λx hx=>fL (hr x hx).1 (hr x hx).2
theorem LC:Bx DW (II DW false []) 1=[[0,1],[0,2],[1,2]]:=by
 show(Bx DW (II DW false []) 0).flatMap _=_
 rw[LD,Bp,Bp,Bp,List.flatMap_nil]
 rw[HO (l:=[0]) (r:=[[0,1],[0,2]]) (by decide) (by decide),HO (l:=[1]) (r:=[[1,2]]) (by decide) (by decide),HO (l:=[2]) (r:=[]) (by decide) (by decide)];rfl
theorem P1:Bx DW (II DW false []) 2=[[0,1,2]]:=by
 show(Bx DW (II DW false []) 1).flatMap _=_
 rw[LC,Bp,Bp,Bp,List.flatMap_nil]
 rw[HO (l:=[0,1]) (r:=[[0,1,2]]) (by decide) (by decide),HO (l:=[0,2]) (r:=[]) (by decide) (by decide),HO (l:=[1,2]) (r:=[]) (by decide) (by decide)];rfl
theorem fK:CZ DW (II DW false []) 3=[[[0],[1],[2]],[[0,1],[0,2],[1,2]],[[0,1,2]]]:=by
 rw[DK]
 ·show[Bx _ _ 0,Bx _ _ 1,Bx _ _ 2]=_
  rw[LD,LC,P1]
 ·intro k hk
  have:k=0\/k=1\/k=2:=by omega
  rcases this with rfl|rfl|rfl
  ·rw[LD];simp
  ·rw[LC];simp
  ·rw[P1];simp
end Go.Proofs.YtjejpdfldmempaaGreatDoor
end
