/- Merged: Wap Rec Cag Trl Gra. -/
import Derived.Test.YtjejpdfldmempaaGreatDooragan
import Derived.Lib.AppendStr
import Derived.Laws.BytesString
import Derived.Test.YtjejpdfldmempaaGreatDooragaf
section
namespace Go.Sx
open Go Go.RowKit Go.Reg Go.Lib
abbrev bD(l:List Int):List Da:=l.map (.int .u8 ·)
def sB(s:ByteArray):List Int:=s.data.toList.map λb=>(b.toNat:Int)
def bS(l:List Int):ByteArray:=l.foldl (λr n=>r.push (UInt8.ofNat n.toNat)) ByteArray.empty
theorem Ro(s:ByteArray):(sB s).length=s.size:=by unfold sB;rw[Ac];rfl
theorem SP(l:List Int):(bS l).size=l.length:=by
 unfold bS
 suffices h:∀r:ByteArray,(l.foldl (λr n=>r.push (UInt8.ofNat n.toNat)) r).size=r.size+l.length by rw[h];simp
 induction l with
 |nil=>intro r;rfl
 |cons a l ih=>intro r;rw[MW,ih,ByteArray.size_push,Au];omega
section
variable {C:Cx} {T:ED} {fr:Fr} {σ:Sg}
theorem GB(O:List Nat)(w:World):∀l:List Int,Ai O w (bD l) (l.map λb=>[Value.int .u8 b])
 |[]=>by simp[bD,Ai]
 |
  b::l=>by
  have:=GB O w l
  simp only[bD,Am,Ai,RepC]at this⊢
  exact⟨_,_,rfl,rfl,this⟩
theorem GU {O:List Nat} {w:World}:∀{l:List Int} {css:List (List Value)},Ai O w (bD l) css->css=l.map λb=>[Value.int .u8 b]
 |[],css,h=>by simpa[bD,Ai]using h
 |
  b::l,css,h=>by
  simp only[bD,Am,Ai,RepC]at h
  obtain⟨c1,c2,rfl,rfl,h⟩:=h
  rw[GU h];rfl
theorem RJ(l:List Int):(l.map λb=>[Value.int .u8 b]).flatten=l.map (.int .u8 ·):=by
 induction l with
 |nil=>rfl
 |cons b l ih=>simp only[Am,Bu,ih];rfl
theorem Nc(s:ByteArray):strCells s=((sB s).map λb=>[Value.int .u8 b]).flatten:=by
 unfold strCells sB
 generalize s.data.toList=l
 induction l with
 |nil=>rfl
 |cons b l ih=>simp only[Am,Bu,ih];rfl
theorem RM {P:Program} {w:World} {t u:TypeId} {e ee:TyI} {f:TyI} {v:Value}(h:TyOk P t e)(hk:e.kd=2)(h2:TyOk P e.elem ee)(hu:TyOk P u f)(hk7:f.kd=7)(hsz:ee.size=1)(hb:ee.bytes=1)(hz:ee.zero=.int .u8 0) {css:List (List Value)}(hs:Sl e.elem 1 id w v css)(s:ByteArray)(hlen:css.length+s.size<=140737488355328)(ty:TypeId):
  ∃v' w',(Builtin.append_ #[t,u] ty #[v,.string s]).run P w=.ok v' w'/\Sl e.elem 1 id w' v' (css++(sB s).map λb=>[Value.int .u8 b])/\Tch v.ownBlock.toList w w'/\(v'.ownBlock=v.ownBlock\/v'.ownBlock=some w.heap.size):=by
 obtain⟨d,h1,_,h3,_,_,_,_,h8⟩:=h.desc
 rw[hk]at h8
 cases d<;>simp at h8
 have he:=h3 _ rfl
 subst he
 obtain⟨d2,j1,_,_,_,_,_,_,j8⟩:=hu.desc
 rw[hk7]at j8
 cases d2<;>simp at j8
 obtain⟨i,z,hi,hsize,hby,hz0,hz1,hz2⟩:=h2.info
 have hzz:z=.int .u8 0:=by
  have r:=hz2 [] w
  rw[hz]at r hz1
  simp only[RepC]at r
  rw[hz1,r];rfl
 subst hzz
 rw[hsz]at hsize
 rw[hb]at hby
 obtain⟨v',w',hr,ho,hg,hnil⟩:=run_append_own_string (P:=P) w 0 t u ty e.elem i h1 j1 hi hz0 hsize hby v css.length (css.flatMap id) hs s (by simp only[maxLen];omega) hlen (AA _)
 refine⟨v',w',hr,?_,⟨hg.os,hg.tape,hg.output,hg.size,λj hj hn=>hg.block j hj (λe=>hn (by rw[<-e];simp))⟩,?_⟩
 ·unfold Sl
  rw[GS,flatMap_id ((sB s).map _),Ao,Ac,Ro,<-Nc];exact ho
 ·rcases hs.2 with⟨rfl,hn⟩|⟨g,cap,cur,rfl,_,hcur,hnc,hcm,hcs,htake⟩
  ·by_cases h0:s.size=0
   ·exact .inl (by rw[hnil.2 ⟨rfl,h0⟩])
   ·have hx':=run_append_nil_string (P:=P) (w:=w) t u ty e.elem i _ h1 j1 hi hz0 s (by omega) (by omega) (by rw[hby];omega)
    rw[hx']at hr
    simp at hr
    exact .inr (by rw[<-hr.1];rfl)
  ·by_cases hroom:css.length+s.size<=cap
   ·have hx':=run_append_room_string (P:=P) w t u ty e.elem i h1 j1 hi hsize g css.length cap cur hcur s hroom (by rw[hcs];omega)
    rw[hx']at hr
    simp at hr
    exact .inl (by rw[<-hr.1];rfl)
   ·have holds:∀j u,(css.flatMap id)[j]? =some u->w.cell? ((⟨g,0,none⟩:Addr).add j)=some u:=MZ hs (g:=g) rfl
    have hx':=run_append_grow_string (P:=P) w t u ty e.elem i _ h1 j1 hi hz0 ⟨g,0,none⟩ css.length cap (css.flatMap id) (by rw[hsize];exact hs.1) holds s (by omega) (by omega) (growslice_fits (by omega) (by rw[hby];omega))
    rw[hx']at hr
    simp at hr
    exact .inr (by rw[<-hr.1];rfl)
theorem VQ(a b:List Int):bD (a++b)=bD a++bD b:=AZ
theorem MK(a:List Int):(bD a).length=a.length:=Ac _
theorem Tx(i:Nat) {n kd:Nat} {o:Oper} {K:Fr->Sg->Prop} {c:Call} {x y:Operand} {t u:TypeId} {e ee f:TyI} {E:Nat} {bs:List Int} {s:ByteArray}(hC:C.Ok T)(ho:o.op=.call c)(hc1:c.callee=.builtin .append)(hc2:c.args=#[x,y]) (hc3:c.argTypes=#[t,u]) (he:EV t T=some e) (hk2:e.kd=2) (hee:EV e.elem T=some ee) (hf:EV u T=some f) (hk7:f.kd=7) (hsz:ee.size=1) (hb:ee.bytes=1) (hz:ee.zero=.int .u8 0) (hE:E=e.elem)
  (hx:ev C.Γ fr x=.own i) (hg:BO i σ=some (.slice E 1 (bD bs))) (hy:ev C.Γ fr y=.d (.str s)) (hkd:kd=3) (hd:Db o.dst n=true) (hlen:bs.length+s.size<=140737488355328)
  (hK:H9 (FA i .undef fr) λfr=>C0 (Br (BF i .undef) i (.slice E 1 (bD (bs++sB s))) σ) λσ=>K (Ca o.dst (.own i) fr) σ):AL C n kd o K fr σ:=by
 subst hkd;subst hE
 refine Ef (by decide) (by decide) λB S w0 η φ a w hM=>⟨λe=>(by cases e),.inl ?_⟩
 have ey:a.eval y=.string s:=RD.str (by have:=AM hM y;rwa [hy]at this)
 obtain⟨css,hs,e2,hr,hrk⟩:=Bn hM.mem hg
 have hl:=Cc hr
 rw[MK]at hl
 have h2:a.eval x=η i:=O9 (AM hM x) hx
 have hi:=AW (B8 hg)
 obtain⟨v',w',g1,g2,g5,g6⟩:=RM (hC.ty he) hk2 (hC.ty hee) (hC.ty hf) hk7 hsz hb hz hs s (by omega) o.type
 have g3:=GB (B++Ah φ σ) w' (sB s)
 rw[<-e2]at g5
 have hX:∀b∈φ i,b∈φ i:=λ_ h=>h
 have hF:∀b∈v'.ownBlock.toList,b∈φ i\/w.heap.size<=b:=λb hb=>by
  rcases g6 with g6|g6
  ·left;rw[e2,<-g6];exact hb
  ·right;rw[g6]at hb;simp at hb;omega
 have hlt:=Later.turn (σ:=σ) B g5 hX hi hF (BF i .undef) (.slice e.elem 1 (bD (bs++sB s)))
 have hm':=hM.mem.turnKill (o:=.slice e.elem 1 (bD (bs++sB s))) (v:=v') g5 hX hi hF (by
  refine⟨css++(sB s).map λb=>[Value.int .u8 b],g2,rfl,?_,λx hx=>?_⟩
  ·have h:=EC (Ai.later hlt _ _ hr) (GB (B++Ah (Dy φ i v'.ownBlock.toList) (Br (BF i .undef) i (.slice e.elem 1 (bD (bs++sB s))) σ)) w' (sB s))
   rwa [<-VQ]at h
  ·rcases Af.1 hx with hx|hx
   ·exact hrk x hx
   ·obtain⟨b,_,rfl⟩:=Av.1 hx
    exact⟨rfl,λu hu=>(by simp at hu;subst hu;rfl)⟩)
 have hfr:=hM.fr.kill (x:=.undef) rfl hlt (I':=Ba (Br (BF i .undef) i (.slice e.elem 1 (bD (bs++sB s))) σ)) (η':=Dy η i v') (i:=i) (λj hj hne=>⟨by rw[Bt];exact hj,CA _ _ _ hne⟩) (RepC.undef_ex _ _ _)
 have M':Models C B S w0 n (FA i .undef fr) (Br (BF i .undef) i (.slice e.elem 1 (bD (bs++sB s))) σ) (Dy η i v') (Dy φ i v'.ownBlock.toList) a w':=⟨hm',hfr,hM.defers,hM.size⟩
 rw[Fc,B4]at hK
 refine⟨v',w',?_,_,_,_,_,M'.put hd ⟨[v'],by simp only[Ay];exact⟨by rw[Bt];exact hi,by rw[CK]⟩,rfl⟩,hK⟩
 simp only[execOp,ho]
 simp only[resolve,hc1,hc2,hc3,invoke,builtin,Ar,AH,Ap,Ub,Am,Bp,h2,ey,g1]
theorem PW {n kd:Nat} {o:Oper} {K:Fr->Sg->Prop} {t u:TypeId} {x:Operand} {e f g:TyI} {bs:List Int}(hC:C.Ok T)(ho:o.op=.convert t u x)(he:EV t T=some e)(hk2:e.kd=2)(hf:EV u T=some f)(hk7:f.kd=7)(hg:EV e.elem T=some g)(hik:g.ik=some .u8)(hx:ev C.Γ fr x=.d (.list 1 (bD bs)))(hkd:kd=3)(hd:Db o.dst n=true)
  (hK:K (Ca o.dst (.d (.str (bS bs))) fr) σ):AL C n kd o K fr σ:=by
 subst hkd
 refine AV (by decide) (by decide) hd λB S w0 η φ a' w hM=>?_
 obtain⟨cs,r,ex⟩:=Ex (AM hM x) hx
 simp only[RepC]at r
 obtain⟨aa,c,css,rfl,_,_,h4,h5,h6⟩:=r
 have ex:a'.eval x=.slice aa (bD bs).length c:=ex
 obtain⟨d1,g1,_,g3,_,_,_,_,g8⟩:=(hC.ty he).desc
 rw[hk2]at g8
 cases d1<;>simp at g8
 have hel:=g3 _ rfl
 subst hel
 obtain⟨d2,j1,_,_,_,_,_,_,j8⟩:=(hC.ty hf).desc
 rw[hk7]at j8
 cases d2<;>simp at j8
 obtain⟨d3,m1,_,_,_,_,_,m7,m8⟩:=(hC.ty hg).desc
 have hd3:=m7 _ hik
 subst hd3
 refine .inr ⟨_,_,hK,?_,UM _,λh=>by cases h⟩
 ·simp only[execOp,ho]
  refine C2 ?_
  rw[ex,run_convert_bytes_string _ _ _ _ _ _ _ g1 m1 j1]
  have e4:=GU h4
  subst e4
  rcases h6 with h6|⟨b,o,rfl,_,_,h9⟩
  ·have:bs=[]:=by
    have:=congrArg List.length h6
    rw[MK]at this
    exact Aw this
   subst this
   cases aa with
   |none=>rfl
   |some a=>exact run_bytesToString w a 0 c [] (by simp[loadCells,loadCellsFrom])
  ·have hl:=run_loadCells_list (P:=C.P) w ⟨b,o,none⟩ (bs.map (.int .u8 ·)) (λj v hj=>by
    have:=h9 j v (by rw[RJ];exact hj)
    rw[IT];exact this)
   rw[Ac]at hl
   rw[MK]
   exact run_bytesToString w _ _ _ bs hl
end
end Go.Sx
end
section
namespace Go.Sx
open Go Go.RowKit Go.Reg
mutual
def ren(ρ:Nat->Nat):Dat->Dat
 |.d x=>.d x
 |.own i=>.own (ρ i)
 |.at_ i o=>.at_ (ρ i) o
 |.el i k n o=>.el (ρ i) k n o
 |.agg ds=>.agg (Hm ρ ds)
 |.tuple ds=>.tuple (Hm ρ ds)
 |.iface t d=>.iface t (ren ρ d)
 |.func fn f c=>.func fn (Hm ρ f) (Hm ρ c)
def Hm(ρ:Nat->Nat):List Dat->List Dat
 |[]=>[]
 |d::ds=>ren ρ d::Hm ρ ds
end
def Ya(ρ:Nat->Nat):Own->Own
 |.cells T ds=>.cells T (Hm ρ ds)
 |.slice E k ds=>.slice E k ds
 |.abs R h l o=>.abs R h l o
 |.ghost vs ds=>.ghost vs (Hm ρ ds)
def Eo(ρ:Nat->Nat):Sg->Sg
 |[]=>[]
 |(i,o)::σ=>(ρ i,Ya ρ o)::Eo ρ σ
def lk:List (Nat×Nat)->Nat->Nat
 |[],i=>i
 |
  (a,b)::l,i=>match Nat.beq a i with
  |true=>b
  |false=>lk l i
def Fk:List (Nat×Nat)->List (Nat×Nat)
 |[]=>[]
 |(a,b)::l=>(b,a)::Fk l
def Dg(J:List Nat):Sg->Sg
 |[]=>[]
 |
  (i,o)::σ=>match DO i J with
  |true=>Dg J σ
  |false=>(i,o)::Dg J σ
def Kx(J:List Nat):Fr->Fr
 |[]=>[]
 |
  (t,d)::fr=>match CT J d with
  |true=>(t,d)::Kx J fr
  |false=>(t,.d .undef)::Kx J fr
def GY(a b:List (Nat×Nat)):List Nat->Bool
 |[]=>true
 |i::l=>Nat.beq (lk b (lk a i)) i&&GY a b l
def JJ(a:List (Nat×Nat))(J:List Nat):List Nat->Bool
 |[]=>true
 |i::l=>!(DO (lk a i) J)&&JJ a J l
def Vt(a:List (Nat×Nat)):List Nat->List Nat
 |[]=>[]
 |i::l=>lk a i::Vt a l
theorem Hd(ρ:Nat->Nat)(d:Dat)(cs:List Value):Bo (ren ρ d) cs=Bo d cs:=by cases d<;>rfl
theorem HP(ρ:Nat->Nat):∀(ds:List Dat) (css:List (List Value)),List.zipWith Bo (Hm ρ ds) css=List.zipWith Bo ds css
 |[],_=>by simp[Hm]
 |d::ds,[]=>by simp
 |d::ds,c::css=>by simp only[Hm,B6,Hd,HP ρ ds css]
section
variable {η η':Nat->Value} {I I' J O O':List Nat} {w w':World} {ρ:Nat->Nat}
mutual
theorem Ay.move(hl:Later O w O' w')(h:∀i∈J,i∈I->ρ i∈I'/\η' (ρ i)=η i):∀(d:Dat) (cs:List Value),CT J d=true->Ay η I O w d cs->Ay η' I' O' w' (ren ρ d) cs
 |.d x,cs,_,r=>RepC.later hl x cs r
 |.own i,cs,hw,r=>by simp only[Ay,ren]at r⊢;obtain⟨a,b⟩:=h i (DK hw) r.1;exact⟨a,by rw[b];exact r.2⟩
 |.at_ i C9,cs,hw,r=>by simp only[Ay,ren]at r⊢;obtain⟨a,b⟩:=h i (DK hw) r.1;exact⟨a,by rw[b];exact r.2⟩
 |.el i k n C9,cs,hw,r=>by simp only[Ay,ren]at r⊢;obtain⟨a,b⟩:=h i (DK hw) r.1;exact⟨a,by rw[b];exact r.2⟩
 |.agg ds,cs,hw,r=>by simp only[Ay,ren]at r⊢;exact AI.move hl h ds cs (by simpa only[CT]using hw) r
 |.tuple ds,cs,hw,r=>by simp only[Ay,ren]at r⊢;obtain⟨css,h1,h2⟩:=r;exact⟨css,A0.move hl h ds css (by simpa only[CT]using hw) h1,by rw[HP];exact h2⟩
 |.iface t d,cs,hw,r=>by simp only[Ay,ren]at r⊢;obtain⟨c,h1,h2⟩:=r;exact⟨c,Ay.move hl h d c (by simpa only[CT]using hw) h1,by rw[Hd];exact h2⟩
 |
  .func fn f c,cs,hw,r=>by
  simp only[Ay,ren]at r⊢
  simp only[CT,Aj]at hw
  obtain⟨fs,cs',h1,h2,h3⟩:=r
  exact⟨fs,cs',A0.move hl h f fs hw.1 h1,A0.move hl h c cs' hw.2 h2,by rw[HP,HP];exact h3⟩
theorem AI.move(hl:Later O w O' w')(h:∀i∈J,i∈I->ρ i∈I'/\η' (ρ i)=η i):∀(ds:List Dat) (cs:List Value),CH J ds=true->AI η I O w ds cs->AI η' I' O' w' (Hm ρ ds) cs
 |[],cs,_,r=>r
 |
  d::ds,cs,hw,r=>by
  simp only[AI,Hm]at r⊢
  simp only[CH,Aj]at hw
  obtain⟨c1,c2,h1,h2,h3⟩:=r
  exact⟨c1,c2,h1,Ay.move hl h d c1 hw.1 h2,AI.move hl h ds c2 hw.2 h3⟩
theorem A0.move(hl:Later O w O' w')(h:∀i∈J,i∈I->ρ i∈I'/\η' (ρ i)=η i):∀(ds:List Dat) (cs:List (List Value)),CH J ds=true->A0 η I O w ds cs->A0 η' I' O' w' (Hm ρ ds) cs
 |[],cs,_,r=>r
 |
  d::ds,cs,hw,r=>by
  simp only[A0,Hm]at r⊢
  simp only[CH,Aj]at hw
  obtain⟨c1,c2,h1,h2,h3⟩:=r
  exact⟨c1,c2,h1,Ay.move hl h d c1 hw.1 h2,A0.move hl h ds c2 hw.2 h3⟩
end
theorem Own.holds.move {o:Own} {v:Value} {F S:List Nat}(hl:Later O w O' w')(h:∀i∈J,i∈I->ρ i∈I'/\η' (ρ i)=η i)(hw:Le J o=true)(ht:Tch S w w')(hF:∀x∈F,x∉S)(r:o.holds η I O w v F):(Ya ρ o).holds η' I' O' w' v F:=by
 cases o with
 |
  cells T ds=>
  obtain⟨b,cs,h1,h2,h3,h4⟩:=r
  exact⟨b,cs,h1,h2,h3.keep ht (hF b (by rw[h2];simp)),AI.move hl h _ _ hw h4⟩
 |
  slice E k ds=>
  obtain⟨css,h1,h2,h3,h4⟩:=r
  exact⟨css,h1.keep ht (λb hb=>hF b (by rw[h2];simpa using hb)),h2,Ai.later hl _ _ h3,h4⟩
 |abs R k lt one=>exact k S w w' v F r ht hF
 |ghost vs ds=>obtain⟨h1,h2,css,h3,h4⟩:=r;exact⟨h1,h2,css,A0.move hl h _ _ hw h3,by rw[HP];exact h4⟩
end
theorem DV {ρ:Nat->Nat}:∀{σ:Sg} {p:Nat×Own},p∈Eo ρ σ↔∃q∈σ,p=(ρ q.1,Ya ρ q.2)
 |[],p=>by simp[Eo]
 |
  (i,o)::σ,p=>by
  simp only[Eo,Ad,DV (σ:=σ)]
  constructor
  ·rintro(rfl|⟨q,hq,rfl⟩)
   ·exact⟨(i,o),.inl rfl,rfl⟩
   ·exact⟨q,.inr hq,rfl⟩
  ·rintro⟨q,rfl|hq,rfl⟩
   ·exact .inl rfl
   ·exact .inr ⟨q,hq,rfl⟩
theorem Ce {ρ:Nat->Nat}:∀(σ:Sg),Ba (Eo ρ σ)=(Ba σ).map ρ
 |[]=>rfl
 |(i,o)::σ=>by have:=Ce (ρ:=ρ) σ;simp only[Ba,Eo,Am]at this⊢;rw[this]
theorem Ff {a b:List (Nat×Nat)}:∀{l:List Nat},GY a b l=true->∀i∈l,lk b (lk a i)=i
 |[],_,i,hi=>by cases hi
 |
  j::l,h,i,hi=>by
  simp only[GY,Aj]at h
  rcases Ad.1 hi with rfl|hi
  ·exact Ag h.1
  ·exact Ff h.2 i hi
theorem Mc {a:List (Nat×Nat)} {J:List Nat}:∀{l:List Nat},JJ a J l=true->∀i∈l,lk a i∉J
 |[],_,i,hi=>by cases hi
 |
  j::l,h,i,hi=>by
  simp only[JJ,Aj,Ej]at h
  rcases Ad.1 hi with rfl|hi
  ·exact Ge h.1
  ·exact Mc h.2 i hi
theorem S4 {a:List (Nat×Nat)}:∀{l:List Nat} {i:Nat},i∈Vt a l->∃k∈l,i=lk a k
 |[],i,h=>by cases h
 |
  j::l,i,h=>by
  simp only[Vt,Ad]at h
  rcases h with rfl|h
  ·exact⟨j,by simp,rfl⟩
  ·obtain⟨k,hk,e⟩:=S4 h;exact⟨k,by simp[hk],e⟩
theorem Gn {J:List Nat}:∀{σ:Sg} {p:Nat×Own},p∈Dg J σ->p∈σ/\p.1∉J
 |[],p,h=>by simp[Dg]at h
 |
  (i,o)::σ,p,h=>by
  simp only[Dg]at h
  cases hn:DO i J<;>rw[hn]at h
  ·simp only[Ad]at h
   rcases h with rfl|h
   ·exact⟨by simp,Ge hn⟩
   ·obtain⟨h1,h2⟩:=Gn h;exact⟨by simp[h1],h2⟩
  ·obtain⟨h1,h2⟩:=Gn h;exact⟨by simp[h1],h2⟩
theorem Jq {J:List Nat}:∀{σ:Sg} {p:Nat×Own},p∈EJ J σ->p∈σ/\p.1∈J
 |[],p,h=>by simp[EJ]at h
 |
  (i,o)::σ,p,h=>by
  simp only[EJ]at h
  cases hn:DO i J<;>rw[hn]at h
  ·obtain⟨h1,h2⟩:=Jq h;exact⟨by simp[h1],h2⟩
  ·simp only[Ad]at h
   rcases h with rfl|h
   ·exact⟨by simp,DK hn⟩
   ·obtain⟨h1,h2⟩:=Jq h;exact⟨by simp[h1],h2⟩
theorem EY {J:List Nat}:∀{σ:Sg} {p:Nat×Own},p∈σ->p∈EJ J σ\/p∈Dg J σ
 |
  (i,o)::σ,p,h=>by
  simp only[EJ,Dg]
  cases hn:DO i J
  ·rcases Ad.1 h with rfl|h
   ·exact .inr (by simp)
   ·rcases EY (J:=J) h with h|h
    ·exact .inl h
    ·exact .inr (by simp[h])
  ·rcases Ad.1 h with rfl|h
   ·exact .inl (by simp)
   ·rcases EY (J:=J) h with h|h
    ·exact .inl (by simp[h])
    ·exact .inr h
theorem Hy {J:List Nat}:∀{σ:Sg},(Ba σ).Nodup->(Ba (EJ J σ)).Nodup
 |[],_=>by simp[EJ,Ba]
 |
  (i,o)::σ,h=>by
  have h':i∉Ba σ/\(Ba σ).Nodup:=C7.1 h
  simp only[EJ]
  cases DO i J
  ·exact Hy h'.2
  ·exact C7.2 ⟨λhm=>by
    obtain⟨p,hp,e⟩:=Av.1 hm
    have e':p.1=i:=e
    exact h'.1 (e'▸AW (Jq hp).1),Hy h'.2⟩
theorem HH {J:List Nat}:∀{σ:Sg},(Ba σ).Nodup->(Ba (Dg J σ)).Nodup
 |[],_=>by simp[Dg,Ba]
 |
  (i,o)::σ,h=>by
  have h':i∉Ba σ/\(Ba σ).Nodup:=C7.1 h
  simp only[Dg]
  cases DO i J
  ·exact C7.2 ⟨λhm=>by
    obtain⟨p,hp,e⟩:=Av.1 hm
    have e':p.1=i:=e
    exact h'.1 (e'▸AW (Gn hp).1),HH h'.2⟩
  ·exact HH h'.2
theorem JD {J:List Nat}:∀{fr:Fr} (t:Nat),get (Kx J fr) t=.d .undef\/get (Kx J fr) t=get fr t/\CT J (get fr t)=true
 |[],t=>.inl rfl
 |
  (s,d)::fr,t=>by
  simp only[Kx]
  cases hw:CT J d<;>simp only[get]
  ·cases Nat.beq s t
   ·exact JD t
   ·exact .inl rfl
  ·cases Nat.beq s t
   ·exact JD t
   ·exact .inr ⟨rfl,hw⟩
theorem Ig {f:Nat->Nat}:∀{l:List Nat},(∀x∈l,∀y∈l,f x=f y->x=y)->l.Nodup->(l.map f).Nodup
 |[],_,_=>by simp
 |
  a::l,h,hn=>by
  have hn':a∉l/\l.Nodup:=C7.1 hn
  simp only[Am]
  refine C7.2 ⟨λhm=>?_,Ig (λx hx y hy=>h x (by simp[hx]) y (by simp[hy])) hn'.2⟩
  obtain⟨b,hb,e⟩:=Av.1 hm
  exact hn'.1 (h b (by simp[hb]) a (by simp) e▸hb)
def BH(C:Cx)(f:FuncId)(args:List Dat)(σ0:Sg)(ks:List Nat)(Q:Dat->Sg->Prop):Prop:=
 ∀(B S:List Nat) (w:World) (η:Nat->Value) (φ:Nat->List Nat) (css:List (List Value)),Mem C B S w σ0 η φ w->A0 η (Ba σ0) (B++Ah φ σ0) w args css->
  (callFunc f (List.zipWith Bo args css).toArray).run C.P w=.ok (.enter f (List.zipWith Bo args css).toArray) w/\
  Calls C.P f (List.zipWith Bo args css).toArray w λe w'=>∃v d σ1 η1 φ1,e=.returned v/\Q d σ1/\Mem C B S w σ1 η1 φ1 w'/\(∃cs,Ay η1 (Ba σ1) (B++Ah φ1 σ1) w' d cs/\v=Bo d cs)/\∀k∈ks,k∈Ba σ1/\η1 k=η k
section
variable {C:Cx} {T:ED} {fr:Fr} {σ σ0:Sg}
theorem QC(m:List (Nat×Nat))(J:List Nat) {f:FuncId} {args Aa:List Dat} {ks:List Nat} {Q:Dat->Sg->Prop} {K:KD}(hp:BH C f Aa σ0 ks Q)
  (h0:Eo (lk m) (EJ J σ)=σ0) (ha:Hm (lk m) args=Aa) (hb:GY m (Fk m) J=true) (hwa:CH J args=true) (hw0:D0 J (EJ J σ)=true) (hwr:D0 (Ba (Dg J σ)++Vt (Fk m) ks) (Dg J σ)=true)
  (hK:∀d σ1,Q d σ1->(GY (Fk m) m (Ba σ1)&&JJ (Fk m) (Ba (Dg J σ)) (Ba σ1)&&D0 (Ba σ1) σ1&&CT (Ba σ1) d)=true/\K (ren (lk (Fk m)) d) (Kx (Ba (Dg J σ)++Vt (Fk m) ks) fr) (Eo (lk (Fk m)) σ1++Dg J σ)):BG C false f args K fr σ:=by
 unfold BG
 rintro B S w0 η φ n a w vs hM ⟨css,hr,rfl⟩
 subst h0;subst ha
 let ρ:=lk m
 let π:=lk (Fk m)
 let σk:=EJ J σ
 let σr:=Dg J σ
 have hk:∀p∈σk,p∈σ/\p.1∈J:=λp hp=>Jq hp
 have hd:∀p∈σr,p∈σ/\p.1∉J:=λp hp=>Gn hp
 have hπ:∀i∈J,π (ρ i)=i:=Ff hb
 have hJk:∀i∈J,i∈Ba σ->i∈Ba σk:=λi hi hm=>by
  obtain⟨p,hp,rfl⟩:=Av.1 hm
  rcases EY (J:=J) hp with h|h
  ·exact AW h
  ·exact absurd hi (Gn h).2
 let B1:=B++Ah φ σr
 let S1:=Ah φ σk
 let η1:Nat->Value:=λi=>η (π i)
 let φ1:Nat->List Nat:=λi=>φ (π i)
 have hbk:∀b,b∈Ah φ1 (Eo ρ σk)↔b∈Ah φ σk:=λb=>by
  simp only[Ah,AB]
  constructor
  ·rintro⟨p,hp,hb⟩
   obtain⟨q,hq,rfl⟩:=DV.1 hp
   exact⟨q,hq,by simpa only[φ1,hπ _ (hk q hq).2]using hb⟩
  ·rintro⟨q,hq,hb⟩
   exact⟨_,DV.2 ⟨q,hq,rfl⟩,by simpa only[φ1,hπ _ (hk q hq).2]using hb⟩
 have hall:∀b,b∈Ah φ σ↔b∈Ah φ σk\/b∈Ah φ σr:=λb=>by
  constructor
  ·intro h
   obtain⟨p,hp,hb⟩:=AB.1 h
   rcases EY (J:=J) hp with h|h
   ·exact .inl (AB.2 ⟨p,h,hb⟩)
   ·exact .inr (AB.2 ⟨p,h,hb⟩)
  ·rintro(h|h)
   ·obtain⟨p,hp,hb⟩:=AB.1 h
    exact AB.2 ⟨p,(hk p hp).1,hb⟩
   ·obtain⟨p,hp,hb⟩:=AB.1 h
    exact AB.2 ⟨p,(hd p hp).1,hb⟩
 have hO:∀b,b∈B1++Ah φ1 (Eo ρ σk)↔b∈B++Ah φ σ:=λb=>by
  simp only[B1,Af,hbk,hall]
  constructor
  ·rintro((h|h)|h)
   ·exact .inl h
   ·exact .inr (.inr h)
   ·exact .inr (.inl h)
  ·rintro(h|h|h)
   ·exact .inl (.inl h)
   ·exact .inr h
   ·exact .inl (.inr h)
 have hl1:Later (B++Ah φ σ) w (B1++Ah φ1 (Eo ρ σk)) w:=⟨Az _,λ_ _ _=>rfl,λb hn _ hm=>hn ((hO b).1 hm)⟩
 have hdis:∀b∈Ah φ σk,b∉Ah φ σr:=λb h1 h2=>by
  obtain⟨p,hp,hbp⟩:=AB.1 h1
  obtain⟨q,hq,hbq⟩:=AB.1 h2
  exact hM.mem.disj p.1 (AW (hk p hp).1) q.1 (AW (hd q hq).1) (λe=>(hd q hq).2 (e▸(hk p hp).2)) b hbp hbq
 have hnew:∀b∈Ah φ σ,(b∈S/\b∉B)\/w0.heap.size<=b:=λb h=>by
  obtain⟨p,hp,hb⟩:=AB.1 h
  exact hM.mem.new p.1 (AW hp) b hb
 have hmv:∀i∈J,i∈Ba σ->ρ i∈Ba (Eo ρ σk)/\η1 (ρ i)=η i:=λi hi hm=>⟨by rw[Ce];exact BW (hJk i hi hm),by simp only[η1,hπ i hi]⟩
 have hm1:Mem C B1 S1 w (Eo ρ σk) η1 φ1 w:=by
  refine⟨Tch.refl _ _,?_,?_,?_,?_,?_,λg hg=>(hM.mem.glob g hg).later hl1⟩
  ·intro p hp
   obtain⟨q,hq,rfl⟩:=DV.1 hp
   have:=(hM.mem.own q (hk q hq).1).move (ρ:=ρ) hl1 hmv (Ea hw0 q hq) (Tch.refl [] w) (λ_ _=>by simp)
   simpa only[η1,φ1,hπ _ (hk q hq).2]using this
  ·rw[Ce]
   have hn:=Hy (J:=J) hM.mem.nodup
   refine Ig ?_ hn
   intro x hx y hy e
   obtain⟨p,hp,rfl⟩:=Av.1 hx
   obtain⟨q,hq,rfl⟩:=Av.1 hy
   rw[<-hπ _ (hk p hp).2,<-hπ _ (hk q hq).2,show ρ p.1=ρ q.1 from e]
  ·intro i hi j hj hij b hbi
   rw[Ce]at hi hj
   obtain⟨i',hi',rfl⟩:=Av.1 hi
   obtain⟨j',hj',rfl⟩:=Av.1 hj
   obtain⟨p,hp,rfl⟩:=Av.1 hi'
   obtain⟨q,hq,rfl⟩:=Av.1 hj'
   simp only[φ1,hπ _ (hk p hp).2,hπ _ (hk q hq).2]at hbi⊢
   exact hM.mem.disj p.1 (AW (hk p hp).1) q.1 (AW (hk q hq).1) (λe=>hij (by rw[e])) b hbi
  ·intro i hi b hbi
   rw[Ce]at hi
   obtain⟨i',hi',rfl⟩:=Av.1 hi
   obtain⟨p,hp,rfl⟩:=Av.1 hi'
   simp only[φ1,hπ _ (hk p hp).2]at hbi
   have hbm:b∈Ah φ σk:=AB.2 ⟨p,hp,hbi⟩
   refine .inl ⟨hbm,λhm=>?_⟩
   rcases Af.1 hm with hm|hm
   ·rcases hnew b ((hall b).2 (.inl hbm))with h|h
    ·exact h.2 hm
    ·have:=hM.mem.out b hm;omega
   ·exact hdis b hbm hm
  ·intro b hb
   rcases Af.1 hb with hb|hb
   ·exact hM.mem.lt b (Aq _ hb)
   ·exact hM.mem.lt b (An _ ((hall b).2 (.inr hb)))
 have hr1:=A0.move (ρ:=ρ) hl1 hmv args css hwa hr
 obtain⟨g1,g2⟩:=hp B1 S1 w η1 φ1 css hm1 hr1
 rw[HP]at g1 g2
 refine⟨g1,g2.mono ?_⟩
 rintro e w' ⟨v,d,σ1,η2,φ2,rfl,hQ,hm2,⟨cs,hv1,hv2⟩,hks⟩
 obtain⟨hchk,hKK⟩:=hK d σ1 hQ
 simp only[Aj]at hchk
 have hρ:∀i∈Ba σ1,ρ (π i)=i:=Ff hchk.1.1.1
 have hfr:∀i∈Ba σ1,π i∉Ba σr:=Mc hchk.1.1.2
 let σ2:=Eo π σ1
 let η3:Nat->Value:=λi=>if i∈Ba σ2 then η2 (ρ i)else η i
 let φ3:Nat->List Nat:=λi=>if i∈Ba σ2 then φ2 (ρ i)else φ i
 have hin:∀i∈Ba σ1,π i∈Ba σ2:=λi hi=>by simp only[σ2,Ce];exact BW hi
 have hη3:∀i∈Ba σ1,η3 (π i)=η2 i:=λi hi=>by simp only[η3,if_pos (hin i hi),hρ i hi]
 have hφ3:∀i∈Ba σ1,φ3 (π i)=φ2 i:=λi hi=>by simp only[φ3,if_pos (hin i hi),hρ i hi]
 have hnr:∀i∈Ba σr,i∉Ba σ2:=λi hi hm=>by
  simp only[σ2,Ce]at hm
  obtain⟨k,hk,rfl⟩:=Av.1 hm
  exact hfr k hk hi
 have hηr:∀i∈Ba σr,η3 i=η i:=λi hi=>by simp only[η3,if_neg (hnr i hi)]
 have hφr:∀i∈Ba σr,φ3 i=φ i:=λi hi=>by simp only[φ3,if_neg (hnr i hi)]
 have hb2:∀b,b∈Ah φ3 σ2↔b∈Ah φ2 σ1:=λb=>by
  simp only[Ah,AB]
  constructor
  ·rintro⟨p,hp,hb⟩
   obtain⟨q,hq,rfl⟩:=DV.1 hp
   exact⟨q,hq,by simpa only[hφ3 _ (AW hq)]using hb⟩
  ·rintro⟨q,hq,hb⟩
   exact⟨_,DV.2 ⟨q,hq,rfl⟩,by simpa only[hφ3 _ (AW hq)]using hb⟩
 have hbr:Ah φ3 σr=Ah φ σr:=GR hφr
 have hids:Ba (σ2++σr)=Ba σ2++Ba σr:=by simp[Ba]
 have hbs:Ah φ3 (σ2++σr)=Ah φ3 σ2++Ah φ σr:=by rw[<-hbr];simp[Ah]
 have hO2:∀b,b∈B1++Ah φ2 σ1↔b∈B++Ah φ3 (σ2++σr):=λb=>by
  rw[hbs]
  simp only[B1,Af,hb2]
  constructor
  ·rintro((h|h)|h)
   ·exact .inl h
   ·exact .inr (.inr h)
   ·exact .inr (.inl h)
  ·rintro(h|h|h)
   ·exact .inl (.inl h)
   ·exact .inr h
   ·exact .inl (.inr h)
 have hl2:Later (B1++Ah φ2 σ1) w' (B++Ah φ3 (σ2++σr)) w':=⟨Az _,λ_ _ _=>rfl,λb hn _ hm=>hn ((hO2 b).2 hm)⟩
 have hnew2:∀b∈Ah φ2 σ1,(b∈Ah φ σk/\b∉B1)\/w.heap.size<=b:=λb h=>by
  obtain⟨p,hp,hb⟩:=AB.1 h
  exact hm2.new p.1 (AW hp) b hb
 have hl3:Later (B++Ah φ σ) w (B++Ah φ3 (σ2++σr)) w':=by
  refine⟨hm2.tch.size,λb hb hn=>hm2.tch.blk b hb λhm=>hn (An _ ((hall b).2 (.inl hm))),λb hn hlt hm=>hn ?_⟩
  rcases Af.1 ((hO2 b).2 hm)with h|h
  ·rcases Af.1 h with h|h
   ·exact Aq _ h
   ·exact An _ ((hall b).2 (.inr h))
  ·rcases hnew2 b h with h|h
   ·exact An _ ((hall b).2 (.inl h.1))
   ·omega
 have hmv2:∀i∈Ba σ1,i∈Ba σ1->π i∈Ba (σ2++σr)/\η3 (π i)=η2 i:=λi hi _=>⟨by rw[hids];exact Aq _ (hin i hi),hη3 i hi⟩
 have hJ:∀i∈Ba σr++Vt (Fk m) ks,i∈Ba (σ2++σr)/\η3 i=η i:=λi hi=>by
  rw[hids]
  rcases Af.1 hi with h|h
  ·exact⟨An _ h,hηr i h⟩
  ·obtain⟨k,hk,rfl⟩:=S4 h
   obtain⟨k1,k2⟩:=hks k hk
   exact⟨Aq _ (hin k k1),by rw[show lk (Fk m) k=π k from rfl,hη3 k k1,k2]⟩
 have hrσ:∀i∈Ba σr,i∈Ba σ:=λi hi=>by
  obtain⟨p,hp,rfl⟩:=Av.1 hi
  exact AW (hd p hp).1
 have hcross:∀b,b∈Ah φ2 σ1->b∈Ah φ σr->False:=λb h1 h2=>by
  rcases hnew2 b h1 with h|h
  ·exact h.2 (An _ h2)
  ·have:=hM.mem.lt b (An _ ((hall b).2 (.inr h2)));omega
 have hlr:Later (B++Ah φ σ) w (B++Ah φ σ) w:=⟨Az _,λ_ _ _=>rfl,λ_ h _=>h⟩
 have hm3:Mem C B S w0 (σ2++σr) η3 φ3 w':=by
  refine⟨hM.mem.tch.trans hm2.tch (λ_ h=>h) (λx hx=>?_),?_,?_,?_,?_,hM.mem.out,λg hg=>(hm2.glob g hg).later hl2⟩
  ·rcases hnew x ((hall x).2 (.inl hx))with h|h
   ·exact .inl h.1
   ·exact .inr h
  ·intro p hp
   rcases Af.1 hp with hp|hp
   ·obtain⟨q,hq,rfl⟩:=DV.1 hp
    have:=(hm2.own q hq).move (ρ:=π) (J:=Ba σ1) (I':=Ba (σ2++σr)) (η':=η3) hl2 hmv2 (Ea hchk.1.2 q hq) (Tch.refl [] w') (λ_ _=>by simp)
    simpa only[hη3 _ (AW hq),hφ3 _ (AW hq)]using this
   ·have h1:=(hM.mem.own p (hd p hp).1).only hlr (Ea hwr p hp)
    have:=h1.later hl3 hJ hm2.tch (λx hx hm=>hdis x hm (AB.2 ⟨p,hp,hx⟩))
    simpa only[hηr _ (AW hp),hφr _ (AW hp)]using this
  ·rw[hids]
   refine QQ.2 ⟨?_,HH hM.mem.nodup,?_⟩
   ·simp only[σ2,Ce]
    refine Ig ?_ hm2.nodup
    intro x hx y hy e
    rw[<-hρ x hx,<-hρ y hy,e]
   ·intro x hx y hy e
    exact hnr y hy (e▸hx)
  ·intro i hi j hj hij b hbi hbj
   rw[hids]at hi hj
   rcases Af.1 hi with hi|hi<;>rcases Af.1 hj with hj|hj
   ·simp only[σ2,Ce]at hi hj
    obtain⟨x,hx,rfl⟩:=Av.1 hi
    obtain⟨y,hy,rfl⟩:=Av.1 hj
    rw[hφ3 x hx]at hbi
    rw[hφ3 y hy]at hbj
    exact hm2.disj x hx y hy (λe=>hij (by rw[e])) b hbi hbj
   ·simp only[σ2,Ce]at hi
    obtain⟨x,hx,rfl⟩:=Av.1 hi
    rw[hφ3 x hx]at hbi
    rw[hφr j hj]at hbj
    exact hcross b (Bb hx hbi) (Bb hj hbj)
   ·simp only[σ2,Ce]at hj
    obtain⟨y,hy,rfl⟩:=Av.1 hj
    rw[hφ3 y hy]at hbj
    rw[hφr i hi]at hbi
    exact hcross b (Bb hy hbj) (Bb hi hbi)
   ·rw[hφr i hi]at hbi
    rw[hφr j hj]at hbj
    exact hM.mem.disj i (hrσ i hi) j (hrσ j hj) hij b hbi hbj
  ·intro i hi b hbi
   rw[hids]at hi
   rcases Af.1 hi with hi|hi
   ·simp only[σ2,Ce]at hi
    obtain⟨x,hx,rfl⟩:=Av.1 hi
    rw[hφ3 x hx]at hbi
    rcases hnew2 b (Bb hx hbi)with h|h
    ·exact hnew b ((hall b).2 (.inl h.1))
    ·exact .inr (CM hM.mem.tch.size h)
   ·rw[hφr i hi]at hbi
    exact hM.mem.new i (hrσ i hi) b hbi
 refine⟨v,_,_,_,η3,φ3,rfl,hKK,⟨hm3,?_,hM.defers,hM.size⟩,⟨cs,?_,?_⟩,λh=>by cases h⟩
 ·intro t
  rcases JD (J:=Ba σr++Vt (Fk m) ks) (fr:=fr) t with h|⟨h,hw⟩
  ·rw[h];exact⟨[a.tmps.getD t undef],RepC.undef_ex _ _ _,rfl⟩
  ·obtain⟨c1,c2,c3⟩:=hM.fr t
   rw[h]
   exact⟨c1,Ay.later hl3 hJ _ _ (Ay.only hlr _ _ hw c2),c3⟩
 ·exact Ay.move (ρ:=π) hl2 hmv2 d cs hchk.2 hv1
 ·rw[Hd];exact hv2
theorem Bm(m:List (Nat×Nat))(J:List Nat) {f:FuncId} {args Aa:List Dat} {ks:List Nat} {y:Dat} {τ:Sg} {K:KD}(hp:BH C f Aa σ0 ks (λd σ=>d=y/\σ=τ))
  (h0:Eo (lk m) (EJ J σ)=σ0) (ha:Hm (lk m) args=Aa) (hb:GY m (Fk m) J=true) (hwa:CH J args=true) (hw0:D0 J (EJ J σ)=true) (hwr:D0 (Ba (Dg J σ)++Vt (Fk m) ks) (Dg J σ)=true)
  (hchk:(GY (Fk m) m (Ba τ)&&JJ (Fk m) (Ba (Dg J σ)) (Ba τ)&&D0 (Ba τ) τ&&CT (Ba τ) y)=true)
  (hK:force (ren (lk (Fk m)) y) λd=>H9 (Kx (Ba (Dg J σ)++Vt (Fk m) ks) fr) λfr=>C0 (Eo (lk (Fk m)) τ++Dg J σ) λσ=>K d fr σ):BG C false f args K fr σ:=
 QC m J hp h0 ha hb hwa hw0 hwr λd σ1 ⟨hd,hs⟩=>by
  subst hd;subst hs
  rw[Gk,Fc,B4]at hK
  exact⟨hchk,hK⟩
def Iv:List Nat->List Dat
 |[]=>[]
 |k::ks=>.own k::Iv ks
def Md(J:List Nat):List Nat->Bool
 |[]=>true
 |k::ks=>DO k J&&Md J ks
def V6(m:List (Nat×Nat)):List Nat->Bool
 |[]=>true
 |k::ks=>Nat.beq (lk m k) k&&V6 m ks
theorem IF {J:List Nat}:∀{ks:List Nat},Md J ks=true->∀k∈ks,k∈J
 |[],_,k,hk=>by cases hk
 |
  j::ks,h,k,hk=>by
  simp only[Md,Aj]at h
  rcases Ad.1 hk with rfl|hk
  ·exact DK h.1
  ·exact IF h.2 k hk
theorem Mz {m:List (Nat×Nat)}:∀{ks:List Nat},V6 m ks=true->∀k∈ks,lk m k=k
 |[],_,k,hk=>by cases hk
 |
  j::ks,h,k,hk=>by
  simp only[V6,Aj]at h
  rcases Ad.1 hk with rfl|hk
  ·exact Ag h.1
  ·exact Mz h.2 k hk
theorem PR {η:Nat->Value} {I O:List Nat} {w:World}:∀{ks:List Nat},(∀k∈ks,k∈I)->A0 η I O w (Iv ks) (ks.map λk=>[η k])
 |[],_=>by simp[Iv,A0]
 |
  k::ks,h=>by
  simp only[Iv,A0,Am]
  exact⟨[η k],_,rfl,(show k∈I/\[η k]=[η k]from⟨h k (by simp),rfl⟩),PR (λj hj=>h j (by simp[hj]))⟩
theorem PQ {η:Nat->Value}:∀(ks:List Nat),List.zipWith Bo (Iv ks) (ks.map λk=>[η k])=ks.map η
 |[]=>rfl
 |k::ks=>by simp only[Iv,Am,B6,PQ ks];rfl
theorem PS {η:Nat->Value} {I O:List Nat} {w:World}:∀{ks:List Nat} {css:List (List Value)},A0 η I O w (Iv ks) css->List.zipWith Bo (Iv ks) css=ks.map η
 |[],css,h=>by simp[Iv]
 |
  k::ks,css,h=>by
  simp only[Iv,A0,Ay]at h
  obtain⟨c1,c2,rfl,⟨_,rfl⟩,h⟩:=h
  simp only[Iv,B6,PS h,Am];rfl
theorem Mem.ren {B S:List Nat} {w0 w:World} {η:Nat->Value} {φ:Nat->List Nat} {Z:Sg}(m:List (Nat×Nat))(h:Mem C B S w0 Z η φ w)(hb:GY m (Fk m) (Ba Z)=true)(hz:D0 (Ba Z) Z=true):
  Mem C B S w0 (Eo (lk m) Z) (λi=>η (lk (Fk m) i)) (λi=>φ (lk (Fk m) i)) w/\(∀b,b∈Ah (λi=>φ (lk (Fk m) i)) (Eo (lk m) Z)↔b∈Ah φ Z):=by
 have hπ:∀i∈Ba Z,lk (Fk m) (lk m i)=i:=Ff hb
 have hbk:∀b,b∈Ah (λi=>φ (lk (Fk m) i)) (Eo (lk m) Z)↔b∈Ah φ Z:=λb=>by
  simp only[Ah,AB]
  constructor
  ·rintro⟨p,hp,hb⟩
   obtain⟨q,hq,rfl⟩:=DV.1 hp
   exact⟨q,hq,by simpa only[hπ _ (AW hq)]using hb⟩
  ·rintro⟨q,hq,hb⟩
   exact⟨_,DV.2 ⟨q,hq,rfl⟩,by simpa only[hπ _ (AW hq)]using hb⟩
 have hl:Later (B++Ah φ Z) w (B++Ah (λi=>φ (lk (Fk m) i)) (Eo (lk m) Z)) w:=⟨Az _,λ_ _ _=>rfl,λb hn _ hm=>hn (by
  rcases Af.1 hm with h|h
  ·exact Aq _ h
  ·exact An _ ((hbk b).1 h))⟩
 refine⟨⟨h.tch,?_,?_,?_,?_,h.out,λg hg=>(h.glob g hg).later hl⟩,hbk⟩
 ·intro p hp
  obtain⟨q,hq,rfl⟩:=DV.1 hp
  have:=(h.own q hq).move (ρ:=lk m) (J:=Ba Z) (I':=Ba (Eo (lk m) Z)) (η':=λi=>η (lk (Fk m) i)) hl (λi hi _=>⟨by rw[Ce];exact BW hi,by simp only[hπ i hi]⟩) (Ea hz q hq) (Tch.refl [] w) (λ_ _=>by simp)
  simpa only[hπ _ (AW hq)]using this
 ·rw[Ce]
  refine Ig ?_ h.nodup
  intro x hx y hy e
  rw[<-hπ x hx,<-hπ y hy,e]
 ·intro i hi j hj hij b hbi
  rw[Ce]at hi hj
  obtain⟨x,hx,rfl⟩:=Av.1 hi
  obtain⟨y,hy,rfl⟩:=Av.1 hj
  simp only[hπ x hx,hπ y hy]at hbi⊢
  exact h.disj x hx y hy (λe=>hij (by rw[e])) b hbi
 ·intro i hi b hbi
  rw[Ce]at hi
  obtain⟨x,hx,rfl⟩:=Av.1 hi
  simp only[hπ x hx]at hbi
  exact h.new x hx b hbi
def Xo(C:Cx)(fr:Fr)(σ:Sg)(fr':Fr)(σ':Sg):Prop:=∀(B S:List Nat) (w0 w:World) (n:Nat) (η:Nat->Value) (φ:Nat->List Nat) (a:Act),Models C B S w0 n fr σ η φ a w->∃η' φ',Models C B S w0 n fr' σ' η' φ' a w
theorem Xo.lo {fr':Fr} {σ':Sg}(h:Lo fr σ fr' σ'):Xo C fr σ fr' σ':=λ_ _ _ _ _ _ _ _ hM=>h.models hM
theorem Xo.refl:Xo C fr σ fr σ:=λ_ _ _ _ _ η φ _ hM=>⟨η,φ,hM⟩
def Zm(C:Cx)(vs:List Value)(g:Nat)(ks:List Nat)(Q:Dat->Sg->Prop):Dat->Sg->Prop:=λd σ=>
 ∃fr1 σ1 m Z,Xo C [(0,d)] σ fr1 σ1/\BO g σ1=some (.ghost vs (Iv ks))/\KY Z σ1/\(WJ [(0,get fr1 0)] Z&&GY m (Fk m) (Ba Z)&&Md (Ba Z) ks&&V6 m ks&&V6 (Fk m) ks)=true/\Q (ren (lk m) (get fr1 0)) (Eo (lk m) Z)
theorem D9 {n:Nat}(hC:C.Ok T) {G:List FuncId} {pl:List (Nat×Plan)} {f:FuncId} {fn:Func} {c:Code}(hf:C.P.funcs[f]? =some fn)(hb:fn.body=some c)(hn:fn.ntmps=n)(hrun:∀(vs:Array Value) (w:World),(callFunc f vs).run C.P w=.ok (.enter f vs) w)(hk:BA C.P G pl c=true) {args:List Dat} {ks:List Nat} {Q:Dat->Sg->Prop}(hl:args.length<=n)(g:Nat)
  (hg:(!(DO g (Ba σ0))&&Md (Ba σ0) ks)=true)
  (h:∀vs,CU C T n pl c (Iz T fn.results.toList (Zm C vs g ks Q)) (params args 0) ((g,.ghost vs (Iv ks))::σ0)):BH C f args σ0 ks Q:=by
 intro B S w η φ css hm hr
 refine⟨hrun _ _,?_⟩
 simp only[Aj,Ej]at hg
 have hgn:=Ge hg.1
 have hki:=IF hg.2
 obtain⟨hm1,hl1⟩:=hm.add (Tch.refl _ _) (i:=g) (o:=.ghost (ks.map η) (Iv ks)) (v:=.nilFunc) (F:=[]) hgn (λ_ h=>by cases h) (by
  have hne:∀k∈ks,Dy η g (.nilFunc:Value) k=η k:=λk hk=>CA _ _ _ (λe=>hgn (e▸hki k hk))
  have he:(ks.map λk=>[Dy η g (.nilFunc:Value) k])=ks.map λk=>[η k]:=List.map_congr_left λk hk=>by rw[hne k hk]
  exact⟨rfl,rfl,ks.map λk=>[η k],by rw[<-he];exact PR (λk hk=>AK _ (hki k hk)),(PQ ks).symm⟩)
 have hr1:A0 (Dy η g .nilFunc) (Ba ((g,.ghost (ks.map η) (Iv ks))::σ0)) (B++Ah (Dy φ g []) ((g,.ghost (ks.map η) (Iv ks))::σ0)) w args css:=
  A0.later hl1 (λi hi=>⟨AK _ hi,CA _ _ _ (show i≠g fromλe=>hgn (e▸hi))⟩) _ _ hr
 refine(FH hC hf hb hn hk hr1 hl hm1 (h (ks.map η))).mono ?_
 rintro e w' ⟨v,d,σ',η',φ',rfl,⟨fr1,σ1,m,Z,hLo,hg1,hZ,hchk,hQ⟩,hm',hv⟩
 simp only[Aj]at hchk
 obtain⟨⟨⟨⟨hok,hbk⟩,hin⟩,hfx⟩,hfx2⟩:=hchk
 have hMf:Models C B S w 1 [(0,d)] σ' η' φ' {tmps:=#[v],defers:=[]} w':=⟨hm',λs=>by
  simp only[Sx.get]
  rcases Bi 0 s with⟨hbq,e⟩|⟨hbq,e⟩<;>rw[hbq]
  ·subst e
   obtain⟨c1,c2,c3⟩:=hv
   exact⟨c1,c2,by simp[c3]⟩
  ·exact⟨[Array.getD #[v] s undef],by simp[Ay,RepC],rfl⟩,rfl,rfl⟩
 obtain⟨η',φ',hM1⟩:=hLo _ _ _ _ _ _ _ _ hMf
 obtain⟨_,_,qss,q3,q4⟩:=hM1.mem.own _ (B8 hg1)
 have hks:ks.map η'=ks.map η:=by rw[<-PS q3];exact q4.symm
 have hM2:Models C B S w 1 [(0,get fr1 0)] σ1 η' φ' {tmps:=#[v],defers:=[]} w':=hM1.sub' λt=>by
  simp only[Sx.get]
  rcases Bi 0 t with⟨hbq,e⟩|⟨hbq,e⟩<;>rw[hbq]
  ·subst e;exact .inr rfl
  ·exact .inl rfl
 have hM3:=hM2.only hok hZ
 simp only[WJ,Aj]at hok
 obtain⟨hm4,hbl⟩:=hM3.mem.ren m hbk hok.2
 obtain⟨cy,y1,y2⟩:=hM3.fr 0
 have hπ:∀i∈Ba Z,lk (Fk m) (lk m i)=i:=Ff hbk
 have hw0:CT (Ba Z) (get fr1 0)=true:=by have:=GM hok.1.2 0;simpa only[Sx.get]using this
 have hl5:Later (B++Ah φ' Z) w' (B++Ah (λi=>φ' (lk (Fk m) i)) (Eo (lk m) Z)) w':=⟨Az _,λ_ _ _=>rfl,λb hn _ hm=>hn (by
  rcases Af.1 hm with h|h
  ·exact Aq _ h
  ·exact An _ ((hbl b).1 h))⟩
 have y3:Ay η' (Ba Z) (B++Ah φ' Z) w' (get fr1 0) cy:=by simpa only[Sx.get]using y1
 have y4:=Ay.move (J:=Ba Z) (ρ:=lk m) (η':=λi=>η' (lk (Fk m) i)) (I':=Ba (Eo (lk m) Z)) hl5 (λi hi _=>⟨by rw[Ce];exact BW hi,by simp only[hπ i hi]⟩) _ _ hw0 y3
 refine⟨v,_,_,(λi=>η' (lk (Fk m) i)),(λi=>φ' (lk (Fk m) i)),rfl,hQ,hm4,⟨cy,y4,by rw[Hd];exact y2⟩,λk hk=>?_⟩
 refine⟨?_,?_⟩
 ·rw[Ce];exact Av.2 ⟨k,IF hin k hk,Mz hfx k hk⟩
 ·simp only[Mz hfx2 k hk]
  exact(List.map_inj_left.1 hks) k hk
end
end Go.Sx
end
section
namespace Go.Sx
open Go Go.RowKit Go.Reg
theorem KI {η:Nat->Value} {I O:List Nat} {w:World}:∀{xs:List Da} {cs:List Value},AI η I O w (Cf xs) cs->RepCs O w xs cs
 |[],cs,h=>by simpa only[Cf,AI,RepCs]using h
 |
  x::xs,cs,h=>by
  simp only[Cf,AI,Ay]at h
  obtain⟨c1,c2,rfl,h1,h2⟩:=h
  simp only[RepCs]
  exact⟨c1,c2,rfl,h1,KI h2⟩
theorem NZ {C:Cx} {fr:Fr} {σ:Sg} {q:Bool} {f:FuncId} {d0:Dat} {ds:List Dat} {xs:List Da} {rest:List Dat} {K:KD}(h:Eu ds=some xs)(hc:BG C q f (d0::.d (.agg xs)::rest) K fr σ):BG C q f (d0::.agg ds::rest) K fr σ:=by
 unfold BG at hc⊢
 rintro B S w0 η φ n a w vs hM ⟨css,hr,rfl⟩
 simp only[A0]at hr
 obtain⟨c1,c2,rfl,r1,c3,c4,rfl,r2,r3⟩:=hr
 rw[DZ h]at r2
 simp only[Ay]at r2
 exact hc B S w0 η φ n a w _ hM ⟨c1::c3::c4,by simp only[A0,Ay,RepC];exact⟨c1,c3::c4,rfl,r1,c3,c4,rfl,KI r2,r3⟩,rfl⟩
end Go.Sx
end
section
namespace Go.Sx
open Go Go.RowKit Go.Reg
theorem Yp {a b A B:Prop}(h:a↔b)(hB:B):(¬(a↔b)->A)/\(¬¬(a↔b)->B):=⟨λhn=>absurd h hn,λ_=>hB⟩
theorem Zp {a b A B:Prop}(hB:B)(h:a↔b:=by first|exact iff_of_true (by first|omega|decide) (by first|omega|decide)|exact iff_of_false (by first|omega|decide) (by first|omega|decide)):(¬(a↔b)->A)/\(¬¬(a↔b)->B):=Yp h hB
mutual
def Vk:Dat->Option Da
 |.d x=>some x
 |
  .agg ds=>match Vj ds with
  |some xs=>some (.agg xs)
  |none=>none
 |
  .iface t d=>match Vk d with
  |some x=>some (.iface t x)
  |none=>none
 |_=>none
def Vj:List Dat->Option (List Da)
 |[]=>some []
 |
  d::ds=>match Vk d,Vj ds with
  |some x,some xs=>some (x::xs)
  |_,_=>none
end
section
variable {η:Nat->Value} {I O:List Nat} {w:World}
mutual
theorem Su:∀(d:Dat) {x:Da} {cs:List Value},Vk d=some x->Ay η I O w d cs->RepC O w x cs/\Bo d cs=EB x cs
 |.d y,x,cs,h,hr=>by simp only[Vk,Ax]at h;subst h;exact⟨by simpa only[Ay]using hr,rfl⟩
 |
  .agg ds,x,cs,h,hr=>by
  simp only[Vk]at h
  split at h
  ·rename_i xs h1
   simp only[Ax]at h
   subst h
   simp only[Ay]at hr
   simp only[RepC]
   exact⟨PX ds h1 hr,rfl⟩
  ·cases h
 |
  .iface t d,x,cs,h,hr=>by
  simp only[Vk]at h
  split at h
  ·rename_i y h1
   simp only[Ax]at h
   subst h
   simp only[Ay]at hr
   obtain⟨c,r1,rfl⟩:=hr
   obtain⟨g1,g2⟩:=Su d h1 r1
   simp only[RepC]
   exact⟨⟨c,g1,by rw[g2]⟩,rfl⟩
  ·cases h
 |.own _,_,_,h,_=>by simp[Vk]at h
 |.at_ _ _,_,_,h,_=>by simp[Vk]at h
 |.el _ _ _ _,_,_,h,_=>by simp[Vk]at h
 |.tuple _,_,_,h,_=>by simp[Vk]at h
 |.func _ _ _,_,_,h,_=>by simp[Vk]at h
theorem PX:∀(ds:List Dat) {xs:List Da} {cs:List Value},Vj ds=some xs->AI η I O w ds cs->RepCs O w xs cs
 |[],xs,cs,h,hr=>by simp only[Vj,Ax]at h;subst h;simpa only[AI,RepCs]using hr
 |
  d::ds,xs,cs,h,hr=>by
  simp only[Vj]at h
  split at h
  ·rename_i x xs' h1 h2
   simp only[Ax]at h
   subst h
   simp only[AI]at hr
   obtain⟨c1,c2,rfl,r1,r2⟩:=hr
   simp only[RepCs]
   exact⟨c1,c2,rfl,(Su d h1 r1).1,PX ds h2 r2⟩
  ·cases h
end
end
section
variable {C:Cx} {n:Nat} {fr:Fr} {σ:Sg}
theorem YJ {ι:Type}(H:ι->Prop)(I:ι->Fr)(Z:ι->Sg)(μ:ι->Nat)(x0:ι) {b:Code} {K:KE} {fr0:Fr} {σ0:Sg}(hz:∀x,WJ (I x) (Z x)=true)(h0:H x0)(hf:Xo C fr σ fr0 σ0)(hI:QP (I x0) fr0)(hZ:KY (Z x0) σ0)
  (round:∀x,H x->DN C n b (λe fr σ=>match e with|.normal=>∃y fr' σ',H y/\Xo C fr σ fr' σ'/\QP (I y) fr'/\KY (Z y) σ'/\μ y<μ x|e=>K e fr σ) (I x) (Z x)):DN C n (.loop b) K fr σ:=by
 refine Bf.2 λB S w0 η φ a w hM=>?_
 obtain⟨η,φ,hM⟩:=hf _ _ _ _ _ _ _ _ hM
 refine wp_loop_ghost (λm a w=>∃x η φ,H x/\μ x=m/\Models C B S w0 n (I x) (Z x) η φ a w) (μ x0) ⟨x0,η,φ,h0,rfl,(hM.sub hI).only (hz x0) hZ⟩ ?_
 rintro m a w ⟨x,η,φ,hx,rfl,hM⟩
 refine wp_mono (Bf.1 (round x hx) B S w0 η φ a w hM) ?_
 intro e a' w' hq
 cases e with
 |
  normal=>
  obtain⟨fr',σ',η',φ',hM',y,f2,s2,h1,hf,h2,h3,h4⟩:=hq
  obtain⟨η',φ',hM'⟩:=hf _ _ _ _ _ _ _ _ hM'
  exact⟨μ y,h4,y,η',φ',h1,rfl,(hM'.sub h2).only (hz y) h3⟩
 |exit id=>exact hq
 |goto l=>exact hq
 |ret=>exact hq
 |panic ch=>exact hq
 |outgrown=>exact hq
def WB(ρ:Nat->Nat):Fr->Fr
 |[]=>[]
 |(t,d)::fr=>(t,ren ρ d)::WB ρ fr
theorem Qt(ρ:Nat->Nat):∀(fr:Fr) (t:Nat),get (WB ρ fr) t=ren ρ (get fr t)
 |[],t=>rfl
 |
  (s,d)::fr,t=>by
  simp only[WB,get]
  cases Nat.beq s t
  ·exact Qt ρ fr t
  ·rfl
theorem Xo.ren(m:List (Nat×Nat))(hz:WJ fr σ=true)(hb:GY m (Fk m) (Ba σ)=true):Xo C fr σ (WB (lk m) fr) (Eo (lk m) σ):=by
 intro B S w0 w n η φ a hM
 simp only[WJ,Aj]at hz
 obtain⟨hm,hbl⟩:=hM.mem.ren m hb hz.2
 have hπ:∀i∈Ba σ,lk (Fk m) (lk m i)=i:=Ff hb
 have hl:Later (B++Ah φ σ) w (B++Ah (λi=>φ (lk (Fk m) i)) (Eo (lk m) σ)) w:=⟨Az _,λ_ _ _=>rfl,λb hn _ hm=>hn (by
  rcases Af.1 hm with h|h
  ·exact Aq _ h
  ·exact An _ ((hbl b).1 h))⟩
 refine⟨λi=>η (lk (Fk m) i),λi=>φ (lk (Fk m) i),hm,λt=>?_,hM.defers,hM.size⟩
 obtain⟨cs,h1,h2⟩:=hM.fr t
 rw[Qt]
 exact⟨cs,Ay.move (J:=Ba σ) (ρ:=lk m) (η':=λi=>η (lk (Fk m) i)) (I':=Ba (Eo (lk m) σ)) hl (λi hi _=>⟨by rw[Ce];exact BW hi,by simp only[hπ i hi]⟩) _ _ (GM hz.1.2 t) h1,by rw[Hd];exact h2⟩
theorem BM {ι:Type} {σ0:Sg}(m:List (Nat×Nat))(J:List Nat) {f:FuncId} {args Aa:List Dat} {ks:List Nat} {Q:Dat->Sg->Prop} {y:ι->Dat} {τ:ι->Sg} {P:ι->Prop} {K:KD}(hp:BH C f Aa σ0 ks Q)(hQ:∀d σ1,Q d σ1->∃z,d=y z/\σ1=τ z/\P z)
  (h0:Eo (lk m) (EJ J σ)=σ0) (ha:Hm (lk m) args=Aa) (hb:GY m (Fk m) J=true) (hwa:CH J args=true) (hw0:D0 J (EJ J σ)=true) (hwr:D0 (Ba (Dg J σ)++Vt (Fk m) ks) (Dg J σ)=true)
  (hchk:∀z,(GY (Fk m) m (Ba (τ z))&&JJ (Fk m) (Ba (Dg J σ)) (Ba (τ z))&&D0 (Ba (τ z)) (τ z)&&CT (Ba (τ z)) (y z))=true)
  (hK:∀z,P z->force (Go.Sx.ren (lk (Fk m)) (y z)) λd=>H9 (Kx (Ba (Dg J σ)++Vt (Fk m) ks) fr) λfr=>C0 (Eo (lk (Fk m)) (τ z)++Dg J σ) λσ=>K d fr σ):BG C false f args K fr σ:=
 QC m J hp h0 ha hb hwa hw0 hwr λd σ1 hq=>by
  obtain⟨z,rfl,rfl,hz⟩:=hQ d σ1 hq
  have h:=hK z hz
  rw[Gk,Fc,B4]at h
  exact⟨hchk z,h⟩
end
end Go.Sx
end
section
namespace Go.Gr
structure Edg where
 a:Int
 b:Int
 deriving DecidableEq
def turn(e:Edg):Edg:=⟨min e.a e.b,max e.a e.b⟩
def BV(a b:Int):Int:=if a<b then-1 else if b<a then 1 else 0
def BR(x y:Edg):Int:=if BV x.a y.a≠0 then BV x.a y.a else BV x.b y.b
theorem Iq(a b:Int):BV a b<0↔a<b:=by unfold BV;split<;>first|omega|(split<;>omega)
theorem FD(a b:Int):BV a b=0↔a=b:=by unfold BV;split<;>first|omega|(split<;>omega)
theorem TT(a b:Int):BV b a=-BV a b:=by unfold BV;split<;>split<;>first|omega|(split<;>omega)
theorem FE(x y:Edg):BR x y<0↔x.a<y.a\/(x.a=y.a/\x.b<y.b):=by
 unfold BR
 have h1:=Iq x.a y.a
 have h2:=FD x.a y.a
 have h3:=Iq x.b y.b
 split<;>omega
theorem Xg(x y:Edg):BR x y=0↔x=y:=by
 unfold BR
 have h2:=FD x.a y.a
 have h3:=FD x.b y.b
 constructor
 ·intro h
  split at h
  ·omega
  ·cases x;cases y;simp_all
 ·rintro rfl
  rw[if_neg (by omega)];omega
theorem J0(x y:Edg):BR x y<0\/x=y\/BR y x<0:=by
 rw[FE,FE]
 by_cases h:x=y
 ·exact .inr (.inl h)
 ·have:¬(x.a=y.a/\x.b=y.b):=λ⟨h1,h2⟩=>h (by cases x;cases y;simp_all)
  omega
theorem Fx {x y z:Edg}(h1:BR x y<0)(h2:BR y z<0):BR x z<0:=by
 rw[FE]at*;omega
theorem VJ(x:Edg):¬BR x x<0:=by rw[FE];omega
theorem JR {x y:Edg}(h:BR x y<0):¬BR y x<0:=by rw[FE]at*;omega
theorem Up(a b:Int):turn ⟨a,b⟩=turn ⟨b,a⟩:=by unfold turn;simp only[Edg.mk.injEq];omega
theorem Wo {e:Edg}(h:e.a<=e.b):turn e=e:=by cases e;unfold turn;simp only[Edg.mk.injEq]at*;omega
def CC(l:List Edg):Prop:=l.Pairwise (λx y=>BR x y<0)
theorem HY:∀{l1 l2:List Edg},l1.Perm l2->CC l1->CC l2->l1=l2
 |[],l2,hp,_,_=>(List.nil_perm.1 hp).symm
 |x::l1,[],hp,_,_=>by simp at hp
 |
  x::l1,y::l2,hp,h1,h2=>by
  have g1:=BQ.1 h1
  have g2:=BQ.1 h2
  have hxy:x=y:=by
   have hx:x∈y::l2:=hp.mem_iff.1 (by simp)
   have hy:y∈x::l1:=hp.mem_iff.2 (by simp)
   rcases Ad.1 hx with h|h
   ·exact h
   ·rcases Ad.1 hy with h'|h'
    ·exact h'.symm
    ·exact absurd (g2.1 x h) (JR (g1.1 y h'))
  subst hxy
  rw[HY (List.Perm.cons_inv hp) g1.2 g2.2]
theorem J9 {l:List Edg}(hn:l.Nodup)(h:l.Pairwise (λx y=>¬BR y x<0)):CC l:=by
 refine(hn.and h).imp ?_
 rintro x y ⟨h1,h2⟩
 rcases J0 x y with h|h|h
 ·exact h
 ·exact absurd h h1
 ·exact absurd h h2
theorem CC.nodup {l:List Edg}(h:CC l):l.Nodup:=h.imp λh e=>by subst e;exact VJ _ h
def C9(D:Nat->Nat):Nat->Nat
 |0=>0
 |v+1=>C9 D v+D v
def DR(R:Nat->List Int)(v:Nat)(u:Int):Nat->List Int:=λw=>if w=v then R v++[u]else R w
theorem map_set {α:Type}(m k:Nat)(f:Nat->α)(x:α):((List.range m).map f).set k x=(List.range m).map (λv=>if v=k then x else f v):=by
 apply Bv
 intro i
 rw[List.getElem?_set]
 simp only[Ac,QR,Al]
 by_cases hi:i<m
 ·rw[Ey hi]
  by_cases e:k=i
  ·subst e;simp[hi]
  ·have:¬i=k:=λh=>e h.symm
   simp[e,this]
 ·have h1:(List.range m)[i]? =none:=by simp;omega
  rw[h1]
  by_cases e:k=i
  ·subst e;simp[hi]
  ·simp[e]
end Go.Gr
namespace Go.Gr
structure Gr where
 labels:List Int
 edges:List Edg
structure Gr.Ok(G:Gr):Prop where
 size:G.labels.length<=4096
 esize:G.edges.length<=16384
 lab:∀l∈G.labels,0<=l/\l<=255
 edge:∀e∈G.edges,0<=e.a/\e.a<e.b/\e.b<G.labels.length
 sorted:CC G.edges
def CR(l:Int):Bool:=decide (l<0)||decide (255<l)
end Go.Gr
end
