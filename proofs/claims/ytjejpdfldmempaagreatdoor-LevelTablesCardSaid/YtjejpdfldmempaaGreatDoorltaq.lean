/- Merged: Wap Rec Cag Trl Gra. -/
import Derived.Test.YtjejpdfldmempaaGreatDoorltan
import Derived.Lib.AppendStr
import Derived.Laws.BytesString
import Derived.Test.YtjejpdfldmempaaGreatDoorltaf
section
namespace Go.Sx
open Go Go.RowKit Go.Reg Go.Lib
abbrev bD(l:List Int):List Da:=l.map (.int .u8 ·)
def sB(s:ByteArray):List Int:=s.data.toList.map λb=>(b.toNat:Int)
def bS(l:List Int):ByteArray:=l.foldl (λr n=>r.push (UInt8.ofNat n.toNat)) ByteArray.empty
theorem WB(s:ByteArray):(sB s).length=s.size:=by unfold sB;rw[Ac];rfl
theorem YN(l:List Int):(bS l).size=l.length:=by
 unfold bS
 suffices h:∀r:ByteArray,(l.foldl (λr n=>r.push (UInt8.ofNat n.toNat)) r).size=r.size+l.length by rw[h];simp
 induction l with
 |nil=>intro r;rfl
 |cons a l ih=>intro r;rw[List.foldl_cons,ih,ByteArray.size_push,Ax];omega
section
variable {C:Cx} {T:Fm} {fr:Fr} {σ:Sg}
theorem Iw(O:List Nat)(w:World):∀l:List Int,Al O w (bD l) (l.map λb=>[Value.int .u8 b])
 |[]=>by simp[bD,Al]
 |
  b::l=>by
  have:=Iw O w l
  simp only[bD,Ap,Al,RepC]at this⊢
  exact⟨_,_,rfl,rfl,this⟩
theorem IH {O:List Nat} {w:World}:∀{l:List Int} {css:List (List Value)},Al O w (bD l) css->css=l.map λb=>[Value.int .u8 b]
 |[],css,h=>by simpa[bD,Al]using h
 |
  b::l,css,h=>by
  simp only[bD,Ap,Al,RepC]at h
  obtain⟨c1,c2,rfl,rfl,h⟩:=h
  rw[IH h];rfl
theorem XP(l:List Int):(l.map λb=>[Value.int .u8 b]).flatten=l.map (.int .u8 ·):=by
 induction l with
 |nil=>rfl
 |cons b l ih=>simp only[Ap,Ci,ih];rfl
theorem QJ(s:ByteArray):strCells s=((sB s).map λb=>[Value.int .u8 b]).flatten:=by
 unfold strCells sB
 generalize s.data.toList=l
 induction l with
 |nil=>rfl
 |cons b l ih=>simp only[Ap,Ci,ih];rfl
theorem XS {P:Program} {w:World} {t u:TypeId} {e ee:TyI} {f:TyI} {v:Value}(h:TyOk P t e)(hk:e.kd=2)(h2:TyOk P e.elem ee)(hu:TyOk P u f)(hk7:f.kd=7)(hsz:ee.size=1)(hb:ee.bytes=1)(hz:ee.zero=.int .u8 0) {css:List (List Value)}(hs:Sl e.elem 1 id w v css)(s:ByteArray)(hlen:css.length+s.size<=140737488355328)(ty:TypeId):
  ∃v' w',(Builtin.append_ #[t,u] ty #[v,.string s]).run P w=.ok v' w'/\Sl e.elem 1 id w' v' (css++(sB s).map λb=>[Value.int .u8 b])/\Tch v.ownBlock.toList w w'/\(v'.ownBlock=v.ownBlock\/v'.ownBlock=some w.heap.size):=by
 obtain⟨d,h1,_,h3,_,_,_,_,h8⟩:=h.desc
 rw[hk]at h8
 cases d<;>simp at h8
 have he:=h3 _ rfl
 subst he
 obtain⟨d2,j1,_,_,_,_,_,_,j8⟩:=hu.desc
 rw[hk7]at j8
 cases d2<;>simp at j8
 obtain⟨i,z,hi,hsize,hby,hz0,hz1,hz2⟩:=h2.info
 have hzz:z=.int .u8 0:=by
  have r:=hz2 [] w
  rw[hz]at r hz1
  simp only[RepC]at r
  rw[hz1,r];rfl
 subst hzz
 rw[hsz]at hsize
 rw[hb]at hby
 obtain⟨v',w',hr,ho,hg,hnil⟩:=run_append_own_string (P:=P) w 0 t u ty e.elem i h1 j1 hi hz0 hsize hby v css.length (css.flatMap id) hs s (by simp only[maxLen];omega) hlen (As _)
 refine⟨v',w',hr,?_,⟨hg.os,hg.tape,hg.output,hg.size,λj hj hn=>hg.block j hj (λe=>hn (by rw[<-e];simp))⟩,?_⟩
 ·unfold Sl
  rw[BH,flatMap_id ((sB s).map _),Ae,Ac,WB,<-QJ];exact ho
 ·rcases hs.2 with⟨rfl,hn⟩|⟨g,cap,cur,rfl,_,hcur,hnc,hcm,hcs,htake⟩
  ·by_cases h0:s.size=0
   ·exact .inl (by rw[hnil.2 ⟨rfl,h0⟩])
   ·have hx':=run_append_nil_string (P:=P) (w:=w) t u ty e.elem i _ h1 j1 hi hz0 s (by omega) (by omega) (by rw[hby];omega)
    rw[hx']at hr
    simp at hr
    exact .inr (by rw[<-hr.1];rfl)
  ·by_cases hroom:css.length+s.size<=cap
   ·have hx':=run_append_room_string (P:=P) w t u ty e.elem i h1 j1 hi hsize g css.length cap cur hcur s hroom (by rw[hcs];omega)
    rw[hx']at hr
    simp at hr
    exact .inl (by rw[<-hr.1];rfl)
   ·have holds:∀j u,(css.flatMap id)[j]? =some u->w.cell? ((⟨g,0,none⟩:Addr).add j)=some u:=IE hs (g:=g) rfl
    have hx':=run_append_grow_string (P:=P) w t u ty e.elem i _ h1 j1 hi hz0 ⟨g,0,none⟩ css.length cap (css.flatMap id) (by rw[hsize];exact hs.1) holds s (by omega) (by omega) (growslice_fits (by omega) (by rw[hby];omega))
    rw[hx']at hr
    simp at hr
    exact .inr (by rw[<-hr.1];rfl)
theorem iX(a b:List Int):bD (a++b)=bD a++bD b:=AF
theorem Q8(a:List Int):(bD a).length=a.length:=Ac _
theorem ZN(i:Nat) {n kd:Nat} {o:Oper} {K:Fr->Sg->Prop} {c:Call} {x y:Operand} {t u:TypeId} {e ee f:TyI} {E:Nat} {bs:List Int} {s:ByteArray}(hC:C.Ok T)(ho:o.op=.call c)(hc1:c.callee=.builtin .append)(hc2:c.args=#[x,y]) (hc3:c.argTypes=#[t,u]) (he:En t T=some e) (hk2:e.kd=2) (hee:En e.elem T=some ee) (hf:En u T=some f) (hk7:f.kd=7) (hsz:ee.size=1) (hb:ee.bytes=1) (hz:ee.zero=.int .u8 0) (hE:E=e.elem)
  (hx:ev C.Γ fr x=.own i) (hg:BA i σ=some (.slice E 1 (bD bs))) (hy:ev C.Γ fr y=.d (.str s)) (hkd:kd=3) (hd:CZ o.dst n=true) (hlen:bs.length+s.size<=140737488355328)
  (hK:EP (Ek i .undef fr) λfr=>BP (B2 (Bw i .undef) i (.slice E 1 (bD (bs++sB s))) σ) λσ=>K (Cm o.dst (.own i) fr) σ):AY C n kd o K fr σ:=by
 subst hkd;subst hE
 refine C6 (by decide) (by decide) λB S w0 η φ a w hM=>⟨λe=>(by cases e),.inl ?_⟩
 have ey:a.eval y=.string s:=RD.str (by have:=AV hM y;rwa [hy]at this)
 obtain⟨css,hs,e2,hr,hrk⟩:=Bq hM.mem hg
 have hl:=C2 hr
 rw[Q8]at hl
 have h2:a.eval x=η i:=Hh (AV hM x) hx
 have hi:=AP (Bd hg)
 obtain⟨v',w',g1,g2,g5,g6⟩:=XS (hC.ty he) hk2 (hC.ty hee) (hC.ty hf) hk7 hsz hb hz hs s (by omega) o.type
 have g3:=Iw (B++Ak φ σ) w' (sB s)
 rw[<-e2]at g5
 have hX:∀b∈φ i,b∈φ i:=λ_ h=>h
 have hF:∀b∈v'.ownBlock.toList,b∈φ i\/w.heap.size<=b:=λb hb=>by
  rcases g6 with g6|g6
  ·left;rw[e2,<-g6];exact hb
  ·right;rw[g6]at hb;simp at hb;omega
 have hlt:=Later.turn (σ:=σ) B g5 hX hi hF (Bw i .undef) (.slice e.elem 1 (bD (bs++sB s)))
 have hm':=hM.mem.turnKill (o:=.slice e.elem 1 (bD (bs++sB s))) (v:=v') g5 hX hi hF (by
  refine⟨css++(sB s).map λb=>[Value.int .u8 b],g2,rfl,?_,λx hx=>?_⟩
  ·have h:=FQ (Al.later hlt _ _ hr) (Iw (B++Ak (Ds φ i v'.ownBlock.toList) (B2 (Bw i .undef) i (.slice e.elem 1 (bD (bs++sB s))) σ)) w' (sB s))
   rwa [<-iX]at h
  ·rcases Ag.1 hx with hx|hx
   ·exact hrk x hx
   ·obtain⟨b,_,rfl⟩:=Aq.1 hx
    exact⟨rfl,λu hu=>(by simp at hu;subst hu;rfl)⟩)
 have hfr:=hM.fr.kill (x:=.undef) rfl hlt (I':=Bp (B2 (Bw i .undef) i (.slice e.elem 1 (bD (bs++sB s))) σ)) (η':=Ds η i v') (i:=i) (λj hj hne=>⟨by rw[Bg];exact hj,C0 _ _ _ hne⟩) (RepC.undef_ex _ _ _)
 have M':Models C B S w0 n (Ek i .undef fr) (B2 (Bw i .undef) i (.slice e.elem 1 (bD (bs++sB s))) σ) (Ds η i v') (Ds φ i v'.ownBlock.toList) a w':=⟨hm',hfr,hM.defers,hM.size⟩
 rw[Dp,Bl]at hK
 refine⟨v',w',?_,_,_,_,_,M'.put hd ⟨[v'],by simp only[A4];exact⟨by rw[Bg];exact hi,by rw[CI]⟩,rfl⟩,hK⟩
 simp only[execOp,ho]
 simp only[resolve,hc1,hc2,hc3,invoke,builtin,A0,AQ,Ay,FM,Ap,B4,h2,ey,g1]
theorem Uy {n kd:Nat} {o:Oper} {K:Fr->Sg->Prop} {t u:TypeId} {x:Operand} {e f g:TyI} {bs:List Int}(hC:C.Ok T)(ho:o.op=.convert t u x)(he:En t T=some e)(hk2:e.kd=2)(hf:En u T=some f)(hk7:f.kd=7)(hg:En e.elem T=some g)(hik:g.ik=some .u8)(hx:ev C.Γ fr x=.d (.list 1 (bD bs)))(hkd:kd=3)(hd:CZ o.dst n=true)
  (hK:K (Cm o.dst (.d (.str (bS bs))) fr) σ):AY C n kd o K fr σ:=by
 subst hkd
 refine B5 (by decide) (by decide) hd λB S w0 η φ a' w hM=>?_
 obtain⟨cs,r,ex⟩:=EL (AV hM x) hx
 simp only[RepC]at r
 obtain⟨aa,c,css,rfl,_,_,h4,h5,h6⟩:=r
 have ex:a'.eval x=.slice aa (bD bs).length c:=ex
 obtain⟨d1,g1,_,g3,_,_,_,_,g8⟩:=(hC.ty he).desc
 rw[hk2]at g8
 cases d1<;>simp at g8
 have hel:=g3 _ rfl
 subst hel
 obtain⟨d2,j1,_,_,_,_,_,_,j8⟩:=(hC.ty hf).desc
 rw[hk7]at j8
 cases d2<;>simp at j8
 obtain⟨d3,m1,_,_,_,_,_,m7,m8⟩:=(hC.ty hg).desc
 have hd3:=m7 _ hik
 subst hd3
 refine .inr ⟨_,_,hK,?_,eT _,λh=>by cases h⟩
 ·simp only[execOp,ho]
  refine CP ?_
  rw[ex,run_convert_bytes_string _ _ _ _ _ _ _ g1 m1 j1]
  have e4:=IH h4
  subst e4
  rcases h6 with h6|⟨b,o,rfl,_,_,h9⟩
  ·have:bs=[]:=by
    have:=congrArg List.length h6
    rw[Q8]at this
    exact AE this
   subst this
   cases aa with
   |none=>rfl
   |some a=>exact run_bytesToString w a 0 c [] (by simp[loadCells,loadCellsFrom])
  ·have hl:=run_loadCells_list (P:=C.P) w ⟨b,o,none⟩ (bs.map (.int .u8 ·)) (λj v hj=>by
    have:=h9 j v (by rw[XP];exact hj)
    rw[Cz];exact this)
   rw[Ac]at hl
   rw[Q8]
   exact run_bytesToString w _ _ _ bs hl
end
end Go.Sx
end
section
namespace Go.Sx
open Go Go.RowKit Go.Reg
mutual
def ren(ρ:Nat->Nat):Dat->Dat
 |.d x=>.d x
 |.own i=>.own (ρ i)
 |.at_ i o=>.at_ (ρ i) o
 |.el i k n o=>.el (ρ i) k n o
 |.agg ds=>.agg (Jh ρ ds)
 |.tuple ds=>.tuple (Jh ρ ds)
 |.iface t d=>.iface t (ren ρ d)
 |.func fn f c=>.func fn (Jh ρ f) (Jh ρ c)
def Jh(ρ:Nat->Nat):List Dat->List Dat
 |[]=>[]
 |d::ds=>ren ρ d::Jh ρ ds
end
def pK(ρ:Nat->Nat):Own->Own
 |.cells T ds=>.cells T (Jh ρ ds)
 |.slice E k ds=>.slice E k ds
 |.abs R h l o=>.abs R h l o
 |.ghost vs ds=>.ghost vs (Jh ρ ds)
def Ft(ρ:Nat->Nat):Sg->Sg
 |[]=>[]
 |(i,o)::σ=>(ρ i,pK ρ o)::Ft ρ σ
def lk:List (Nat×Nat)->Nat->Nat
 |[],i=>i
 |
  (a,b)::l,i=>match Nat.beq a i with
  |true=>b
  |false=>lk l i
def G2:List (Nat×Nat)->List (Nat×Nat)
 |[]=>[]
 |(a,b)::l=>(b,a)::G2 l
def DQ(J:List Nat):Sg->Sg
 |[]=>[]
 |
  (i,o)::σ=>match Ex i J with
  |true=>DQ J σ
  |false=>(i,o)::DQ J σ
def NW(J:List Nat):Fr->Fr
 |[]=>[]
 |
  (t,d)::fr=>match D0 J d with
  |true=>(t,d)::NW J fr
  |false=>(t,.d .undef)::NW J fr
def IN(a b:List (Nat×Nat)):List Nat->Bool
 |[]=>true
 |i::l=>Nat.beq (lk b (lk a i)) i&&IN a b l
def Nj(a:List (Nat×Nat))(J:List Nat):List Nat->Bool
 |[]=>true
 |i::l=>!(Ex (lk a i) J)&&Nj a J l
def gP(a:List (Nat×Nat)):List Nat->List Nat
 |[]=>[]
 |i::l=>lk a i::gP a l
theorem IU(ρ:Nat->Nat)(d:Dat)(cs:List Value):BD (ren ρ d) cs=BD d cs:=by cases d<;>rfl
theorem JE(ρ:Nat->Nat):∀(ds:List Dat) (css:List (List Value)),List.zipWith BD (Jh ρ ds) css=List.zipWith BD ds css
 |[],_=>by simp[Jh]
 |d::ds,[]=>by simp
 |d::ds,c::css=>by simp only[Jh,AL,IU,JE ρ ds css]
section
variable {η η':Nat->Value} {I I' J O O':List Nat} {w w':World} {ρ:Nat->Nat}
mutual
theorem A4.move(hl:Later O w O' w')(h:∀i∈J,i∈I->ρ i∈I'/\η' (ρ i)=η i):∀(d:Dat) (cs:List Value),D0 J d=true->A4 η I O w d cs->A4 η' I' O' w' (ren ρ d) cs
 |.d x,cs,_,r=>RepC.later hl x cs r
 |.own i,cs,hw,r=>by simp only[A4,ren]at r⊢;obtain⟨a,b⟩:=h i (EG hw) r.1;exact⟨a,by rw[b];exact r.2⟩
 |.at_ i off,cs,hw,r=>by simp only[A4,ren]at r⊢;obtain⟨a,b⟩:=h i (EG hw) r.1;exact⟨a,by rw[b];exact r.2⟩
 |.el i k n off,cs,hw,r=>by simp only[A4,ren]at r⊢;obtain⟨a,b⟩:=h i (EG hw) r.1;exact⟨a,by rw[b];exact r.2⟩
 |.agg ds,cs,hw,r=>by simp only[A4,ren]at r⊢;exact AX.move hl h ds cs (by simpa only[D0]using hw) r
 |.tuple ds,cs,hw,r=>by simp only[A4,ren]at r⊢;obtain⟨css,h1,h2⟩:=r;exact⟨css,A7.move hl h ds css (by simpa only[D0]using hw) h1,by rw[JE];exact h2⟩
 |.iface t d,cs,hw,r=>by simp only[A4,ren]at r⊢;obtain⟨c,h1,h2⟩:=r;exact⟨c,A4.move hl h d c (by simpa only[D0]using hw) h1,by rw[IU];exact h2⟩
 |
  .func fn f c,cs,hw,r=>by
  simp only[A4,ren]at r⊢
  simp only[D0,Ah]at hw
  obtain⟨fs,cs',h1,h2,h3⟩:=r
  exact⟨fs,cs',A7.move hl h f fs hw.1 h1,A7.move hl h c cs' hw.2 h2,by rw[JE,JE];exact h3⟩
theorem AX.move(hl:Later O w O' w')(h:∀i∈J,i∈I->ρ i∈I'/\η' (ρ i)=η i):∀(ds:List Dat) (cs:List Value),Dw J ds=true->AX η I O w ds cs->AX η' I' O' w' (Jh ρ ds) cs
 |[],cs,_,r=>r
 |
  d::ds,cs,hw,r=>by
  simp only[AX,Jh]at r⊢
  simp only[Dw,Ah]at hw
  obtain⟨c1,c2,h1,h2,h3⟩:=r
  exact⟨c1,c2,h1,A4.move hl h d c1 hw.1 h2,AX.move hl h ds c2 hw.2 h3⟩
theorem A7.move(hl:Later O w O' w')(h:∀i∈J,i∈I->ρ i∈I'/\η' (ρ i)=η i):∀(ds:List Dat) (cs:List (List Value)),Dw J ds=true->A7 η I O w ds cs->A7 η' I' O' w' (Jh ρ ds) cs
 |[],cs,_,r=>r
 |
  d::ds,cs,hw,r=>by
  simp only[A7,Jh]at r⊢
  simp only[Dw,Ah]at hw
  obtain⟨c1,c2,h1,h2,h3⟩:=r
  exact⟨c1,c2,h1,A4.move hl h d c1 hw.1 h2,A7.move hl h ds c2 hw.2 h3⟩
end
theorem Own.holds.move {o:Own} {v:Value} {F S:List Nat}(hl:Later O w O' w')(h:∀i∈J,i∈I->ρ i∈I'/\η' (ρ i)=η i)(hw:O8 J o=true)(ht:Tch S w w')(hF:∀x∈F,x∉S)(r:o.holds η I O w v F):(pK ρ o).holds η' I' O' w' v F:=by
 cases o with
 |
  cells T ds=>
  obtain⟨b,cs,h1,h2,h3,h4⟩:=r
  exact⟨b,cs,h1,h2,h3.keep ht (hF b (by rw[h2];simp)),AX.move hl h _ _ hw h4⟩
 |
  slice E k ds=>
  obtain⟨css,h1,h2,h3,h4⟩:=r
  exact⟨css,h1.keep ht (λb hb=>hF b (by rw[h2];simpa using hb)),h2,Al.later hl _ _ h3,h4⟩
 |abs R k lt one=>exact k S w w' v F r ht hF
 |ghost vs ds=>obtain⟨h1,h2,css,h3,h4⟩:=r;exact⟨h1,h2,css,A7.move hl h _ _ hw h3,by rw[JE];exact h4⟩
end
theorem ES {ρ:Nat->Nat}:∀{σ:Sg} {p:Nat×Own},p∈Ft ρ σ↔∃q∈σ,p=(ρ q.1,pK ρ q.2)
 |[],p=>by simp[Ft]
 |
  (i,o)::σ,p=>by
  simp only[Ft,Ar,ES (σ:=σ)]
  constructor
  ·rintro(rfl|⟨q,hq,rfl⟩)
   ·exact⟨(i,o),.inl rfl,rfl⟩
   ·exact⟨q,.inr hq,rfl⟩
  ·rintro⟨q,rfl|hq,rfl⟩
   ·exact .inl rfl
   ·exact .inr ⟨q,hq,rfl⟩
theorem CF {ρ:Nat->Nat}:∀(σ:Sg),Bp (Ft ρ σ)=(Bp σ).map ρ
 |[]=>rfl
 |(i,o)::σ=>by have:=CF (ρ:=ρ) σ;simp only[Bp,Ft,Ap]at this⊢;rw[this]
theorem G0 {a b:List (Nat×Nat)}:∀{l:List Nat},IN a b l=true->∀i∈l,lk b (lk a i)=i
 |[],_,i,hi=>by cases hi
 |
  j::l,h,i,hi=>by
  simp only[IN,Ah]at h
  rcases Ar.1 hi with rfl|hi
  ·exact Am h.1
  ·exact G0 h.2 i hi
theorem PF {a:List (Nat×Nat)} {J:List Nat}:∀{l:List Nat},Nj a J l=true->∀i∈l,lk a i∉J
 |[],_,i,hi=>by cases hi
 |
  j::l,h,i,hi=>by
  simp only[Nj,Ah,BC]at h
  rcases Ar.1 hi with rfl|hi
  ·exact H7 h.1
  ·exact PF h.2 i hi
theorem YA {a:List (Nat×Nat)}:∀{l:List Nat} {i:Nat},i∈gP a l->∃k∈l,i=lk a k
 |[],i,h=>by cases h
 |
  j::l,i,h=>by
  simp only[gP,Ar]at h
  rcases h with rfl|h
  ·exact⟨j,by simp,rfl⟩
  ·obtain⟨k,hk,e⟩:=YA h;exact⟨k,by simp[hk],e⟩
theorem HW {J:List Nat}:∀{σ:Sg} {p:Nat×Own},p∈DQ J σ->p∈σ/\p.1∉J
 |[],p,h=>by simp[DQ]at h
 |
  (i,o)::σ,p,h=>by
  simp only[DQ]at h
  cases hn:Ex i J<;>rw[hn]at h
  ·simp only[Ar]at h
   rcases h with rfl|h
   ·exact⟨by simp,H7 hn⟩
   ·obtain⟨h1,h2⟩:=HW h;exact⟨by simp[h1],h2⟩
  ·obtain⟨h1,h2⟩:=HW h;exact⟨by simp[h1],h2⟩
theorem Mo {J:List Nat}:∀{σ:Sg} {p:Nat×Own},p∈EM J σ->p∈σ/\p.1∈J
 |[],p,h=>by simp[EM]at h
 |
  (i,o)::σ,p,h=>by
  simp only[EM]at h
  cases hn:Ex i J<;>rw[hn]at h
  ·obtain⟨h1,h2⟩:=Mo h;exact⟨by simp[h1],h2⟩
  ·simp only[Ar]at h
   rcases h with rfl|h
   ·exact⟨by simp,EG hn⟩
   ·obtain⟨h1,h2⟩:=Mo h;exact⟨by simp[h1],h2⟩
theorem Gs {J:List Nat}:∀{σ:Sg} {p:Nat×Own},p∈σ->p∈EM J σ\/p∈DQ J σ
 |
  (i,o)::σ,p,h=>by
  simp only[EM,DQ]
  cases hn:Ex i J
  ·rcases Ar.1 h with rfl|h
   ·exact .inr (by simp)
   ·rcases Gs (J:=J) h with h|h
    ·exact .inl h
    ·exact .inr (by simp[h])
  ·rcases Ar.1 h with rfl|h
   ·exact .inl (by simp)
   ·rcases Gs (J:=J) h with h|h
    ·exact .inl (by simp[h])
    ·exact .inr h
theorem Js {J:List Nat}:∀{σ:Sg},(Bp σ).Nodup->(Bp (EM J σ)).Nodup
 |[],_=>by simp[EM,Bp]
 |
  (i,o)::σ,h=>by
  have h':i∉Bp σ/\(Bp σ).Nodup:=Ce.1 h
  simp only[EM]
  cases Ex i J
  ·exact Js h'.2
  ·exact Ce.2 ⟨λhm=>by
    obtain⟨p,hp,e⟩:=Aq.1 hm
    have e':p.1=i:=e
    exact h'.1 (e'▸AP (Mo hp).1),Js h'.2⟩
theorem J8 {J:List Nat}:∀{σ:Sg},(Bp σ).Nodup->(Bp (DQ J σ)).Nodup
 |[],_=>by simp[DQ,Bp]
 |
  (i,o)::σ,h=>by
  have h':i∉Bp σ/\(Bp σ).Nodup:=Ce.1 h
  simp only[DQ]
  cases Ex i J
  ·exact Ce.2 ⟨λhm=>by
    obtain⟨p,hp,e⟩:=Aq.1 hm
    have e':p.1=i:=e
    exact h'.1 (e'▸AP (HW hp).1),J8 h'.2⟩
  ·exact J8 h'.2
theorem MX {J:List Nat}:∀{fr:Fr} (t:Nat),get (NW J fr) t=.d .undef\/get (NW J fr) t=get fr t/\D0 J (get fr t)=true
 |[],t=>.inl rfl
 |
  (s,d)::fr,t=>by
  simp only[NW]
  cases hw:D0 J d<;>simp only[get]
  ·cases Nat.beq s t
   ·exact MX t
   ·exact .inl rfl
  ·cases Nat.beq s t
   ·exact MX t
   ·exact .inr ⟨rfl,hw⟩
theorem JQ {f:Nat->Nat}:∀{l:List Nat},(∀x∈l,∀y∈l,f x=f y->x=y)->l.Nodup->(l.map f).Nodup
 |[],_,_=>by simp
 |
  a::l,h,hn=>by
  have hn':a∉l/\l.Nodup:=Ce.1 hn
  simp only[Ap]
  refine Ce.2 ⟨λhm=>?_,JQ (λx hx y hy=>h x (by simp[hx]) y (by simp[hy])) hn'.2⟩
  obtain⟨b,hb,e⟩:=Aq.1 hm
  exact hn'.1 (h b (by simp[hb]) a (by simp) e▸hb)
def CG(C:Cx)(f:FuncId)(args:List Dat)(σ0:Sg)(ks:List Nat)(Q:Dat->Sg->Prop):Prop:=
 ∀(B S:List Nat) (w:World) (η:Nat->Value) (φ:Nat->List Nat) (css:List (List Value)),Mem C B S w σ0 η φ w->A7 η (Bp σ0) (B++Ak φ σ0) w args css->
  (callFunc f (List.zipWith BD args css).toArray).run C.P w=.ok (.enter f (List.zipWith BD args css).toArray) w/\
  Calls C.P f (List.zipWith BD args css).toArray w λe w'=>∃v d σ1 η1 φ1,e=.returned v/\Q d σ1/\Mem C B S w σ1 η1 φ1 w'/\(∃cs,A4 η1 (Bp σ1) (B++Ak φ1 σ1) w' d cs/\v=BD d cs)/\∀k∈ks,k∈Bp σ1/\η1 k=η k
section
variable {C:Cx} {T:Fm} {fr:Fr} {σ σ0:Sg}
theorem VD(m:List (Nat×Nat))(J:List Nat) {f:FuncId} {args Aa:List Dat} {ks:List Nat} {Q:Dat->Sg->Prop} {K:KD}(hp:CG C f Aa σ0 ks Q)
  (h0:Ft (lk m) (EM J σ)=σ0) (ha:Jh (lk m) args=Aa) (hb:IN m (G2 m) J=true) (hwa:Dw J args=true) (hw0:Ej J (EM J σ)=true) (hwr:Ej (Bp (DQ J σ)++gP (G2 m) ks) (DQ J σ)=true)
  (hK:∀d σ1,Q d σ1->(IN (G2 m) m (Bp σ1)&&Nj (G2 m) (Bp (DQ J σ)) (Bp σ1)&&Ej (Bp σ1) σ1&&D0 (Bp σ1) d)=true/\K (ren (lk (G2 m)) d) (NW (Bp (DQ J σ)++gP (G2 m) ks) fr) (Ft (lk (G2 m)) σ1++DQ J σ)):BI C false f args K fr σ:=by
 unfold BI
 rintro B S w0 η φ n a w vs hM ⟨css,hr,rfl⟩
 subst h0;subst ha
 let ρ:=lk m
 let π:=lk (G2 m)
 let σk:=EM J σ
 let σr:=DQ J σ
 have hk:∀p∈σk,p∈σ/\p.1∈J:=λp hp=>Mo hp
 have hd:∀p∈σr,p∈σ/\p.1∉J:=λp hp=>HW hp
 have hπ:∀i∈J,π (ρ i)=i:=G0 hb
 have hJk:∀i∈J,i∈Bp σ->i∈Bp σk:=λi hi hm=>by
  obtain⟨p,hp,rfl⟩:=Aq.1 hm
  rcases Gs (J:=J) hp with h|h
  ·exact AP h
  ·exact absurd hi (HW h).2
 let B1:=B++Ak φ σr
 let S1:=Ak φ σk
 let η1:Nat->Value:=λi=>η (π i)
 let φ1:Nat->List Nat:=λi=>φ (π i)
 have hbk:∀b,b∈Ak φ1 (Ft ρ σk)↔b∈Ak φ σk:=λb=>by
  simp only[Ak,A9]
  constructor
  ·rintro⟨p,hp,hb⟩
   obtain⟨q,hq,rfl⟩:=ES.1 hp
   exact⟨q,hq,by simpa only[φ1,hπ _ (hk q hq).2]using hb⟩
  ·rintro⟨q,hq,hb⟩
   exact⟨_,ES.2 ⟨q,hq,rfl⟩,by simpa only[φ1,hπ _ (hk q hq).2]using hb⟩
 have hall:∀b,b∈Ak φ σ↔b∈Ak φ σk\/b∈Ak φ σr:=λb=>by
  constructor
  ·intro h
   obtain⟨p,hp,hb⟩:=A9.1 h
   rcases Gs (J:=J) hp with h|h
   ·exact .inl (A9.2 ⟨p,h,hb⟩)
   ·exact .inr (A9.2 ⟨p,h,hb⟩)
  ·rintro(h|h)
   ·obtain⟨p,hp,hb⟩:=A9.1 h
    exact A9.2 ⟨p,(hk p hp).1,hb⟩
   ·obtain⟨p,hp,hb⟩:=A9.1 h
    exact A9.2 ⟨p,(hd p hp).1,hb⟩
 have hO:∀b,b∈B1++Ak φ1 (Ft ρ σk)↔b∈B++Ak φ σ:=λb=>by
  simp only[B1,Ag,hbk,hall]
  constructor
  ·rintro((h|h)|h)
   ·exact .inl h
   ·exact .inr (.inr h)
   ·exact .inr (.inl h)
  ·rintro(h|h|h)
   ·exact .inl (.inl h)
   ·exact .inr h
   ·exact .inl (.inr h)
 have hl1:Later (B++Ak φ σ) w (B1++Ak φ1 (Ft ρ σk)) w:=⟨Av _,λ_ _ _=>rfl,λb hn _ hm=>hn ((hO b).1 hm)⟩
 have hdis:∀b∈Ak φ σk,b∉Ak φ σr:=λb h1 h2=>by
  obtain⟨p,hp,hbp⟩:=A9.1 h1
  obtain⟨q,hq,hbq⟩:=A9.1 h2
  exact hM.mem.disj p.1 (AP (hk p hp).1) q.1 (AP (hd q hq).1) (λe=>(hd q hq).2 (e▸(hk p hp).2)) b hbp hbq
 have hnew:∀b∈Ak φ σ,(b∈S/\b∉B)\/w0.heap.size<=b:=λb h=>by
  obtain⟨p,hp,hb⟩:=A9.1 h
  exact hM.mem.new p.1 (AP hp) b hb
 have hmv:∀i∈J,i∈Bp σ->ρ i∈Bp (Ft ρ σk)/\η1 (ρ i)=η i:=λi hi hm=>⟨by rw[CF];exact C7 (hJk i hi hm),by simp only[η1,hπ i hi]⟩
 have hm1:Mem C B1 S1 w (Ft ρ σk) η1 φ1 w:=by
  refine⟨Tch.refl _ _,?_,?_,?_,?_,?_,λg hg=>(hM.mem.glob g hg).later hl1⟩
  ·intro p hp
   obtain⟨q,hq,rfl⟩:=ES.1 hp
   have:=(hM.mem.own q (hk q hq).1).move (ρ:=ρ) hl1 hmv (Fb hw0 q hq) (Tch.refl [] w) (λ_ _=>by simp)
   simpa only[η1,φ1,hπ _ (hk q hq).2]using this
  ·rw[CF]
   have hn:=Js (J:=J) hM.mem.nodup
   refine JQ ?_ hn
   intro x hx y hy e
   obtain⟨p,hp,rfl⟩:=Aq.1 hx
   obtain⟨q,hq,rfl⟩:=Aq.1 hy
   rw[<-hπ _ (hk p hp).2,<-hπ _ (hk q hq).2,show ρ p.1=ρ q.1 from e]
  ·intro i hi j hj hij b hbi
   rw[CF]at hi hj
   obtain⟨i',hi',rfl⟩:=Aq.1 hi
   obtain⟨j',hj',rfl⟩:=Aq.1 hj
   obtain⟨p,hp,rfl⟩:=Aq.1 hi'
   obtain⟨q,hq,rfl⟩:=Aq.1 hj'
   simp only[φ1,hπ _ (hk p hp).2,hπ _ (hk q hq).2]at hbi⊢
   exact hM.mem.disj p.1 (AP (hk p hp).1) q.1 (AP (hk q hq).1) (λe=>hij (by rw[e])) b hbi
  ·intro i hi b hbi
   rw[CF]at hi
   obtain⟨i',hi',rfl⟩:=Aq.1 hi
   obtain⟨p,hp,rfl⟩:=Aq.1 hi'
   simp only[φ1,hπ _ (hk p hp).2]at hbi
   have hbm:b∈Ak φ σk:=A9.2 ⟨p,hp,hbi⟩
   refine .inl ⟨hbm,λhm=>?_⟩
   rcases Ag.1 hm with hm|hm
   ·rcases hnew b ((hall b).2 (.inl hbm))with h|h
    ·exact h.2 hm
    ·have:=hM.mem.out b hm;omega
   ·exact hdis b hbm hm
  ·intro b hb
   rcases Ag.1 hb with hb|hb
   ·exact hM.mem.lt b (Az _ hb)
   ·exact hM.mem.lt b (An _ ((hall b).2 (.inr hb)))
 have hr1:=A7.move (ρ:=ρ) hl1 hmv args css hwa hr
 obtain⟨g1,g2⟩:=hp B1 S1 w η1 φ1 css hm1 hr1
 rw[JE]at g1 g2
 refine⟨g1,g2.mono ?_⟩
 rintro e w' ⟨v,d,σ1,η2,φ2,rfl,hQ,hm2,⟨cs,hv1,hv2⟩,hks⟩
 obtain⟨hchk,hKK⟩:=hK d σ1 hQ
 simp only[Ah]at hchk
 have hρ:∀i∈Bp σ1,ρ (π i)=i:=G0 hchk.1.1.1
 have hfr:∀i∈Bp σ1,π i∉Bp σr:=PF hchk.1.1.2
 let σ2:=Ft π σ1
 let η3:Nat->Value:=λi=>if i∈Bp σ2 then η2 (ρ i)else η i
 let φ3:Nat->List Nat:=λi=>if i∈Bp σ2 then φ2 (ρ i)else φ i
 have hin:∀i∈Bp σ1,π i∈Bp σ2:=λi hi=>by simp only[σ2,CF];exact C7 hi
 have hη3:∀i∈Bp σ1,η3 (π i)=η2 i:=λi hi=>by simp only[η3,if_pos (hin i hi),hρ i hi]
 have hφ3:∀i∈Bp σ1,φ3 (π i)=φ2 i:=λi hi=>by simp only[φ3,if_pos (hin i hi),hρ i hi]
 have hnr:∀i∈Bp σr,i∉Bp σ2:=λi hi hm=>by
  simp only[σ2,CF]at hm
  obtain⟨k,hk,rfl⟩:=Aq.1 hm
  exact hfr k hk hi
 have hηr:∀i∈Bp σr,η3 i=η i:=λi hi=>by simp only[η3,if_neg (hnr i hi)]
 have hφr:∀i∈Bp σr,φ3 i=φ i:=λi hi=>by simp only[φ3,if_neg (hnr i hi)]
 have hb2:∀b,b∈Ak φ3 σ2↔b∈Ak φ2 σ1:=λb=>by
  simp only[Ak,A9]
  constructor
  ·rintro⟨p,hp,hb⟩
   obtain⟨q,hq,rfl⟩:=ES.1 hp
   exact⟨q,hq,by simpa only[hφ3 _ (AP hq)]using hb⟩
  ·rintro⟨q,hq,hb⟩
   exact⟨_,ES.2 ⟨q,hq,rfl⟩,by simpa only[hφ3 _ (AP hq)]using hb⟩
 have hbr:Ak φ3 σr=Ak φ σr:=ID hφr
 have hids:Bp (σ2++σr)=Bp σ2++Bp σr:=by simp[Bp]
 have hbs:Ak φ3 (σ2++σr)=Ak φ3 σ2++Ak φ σr:=by rw[<-hbr];simp[Ak]
 have hO2:∀b,b∈B1++Ak φ2 σ1↔b∈B++Ak φ3 (σ2++σr):=λb=>by
  rw[hbs]
  simp only[B1,Ag,hb2]
  constructor
  ·rintro((h|h)|h)
   ·exact .inl h
   ·exact .inr (.inr h)
   ·exact .inr (.inl h)
  ·rintro(h|h|h)
   ·exact .inl (.inl h)
   ·exact .inr h
   ·exact .inl (.inr h)
 have hl2:Later (B1++Ak φ2 σ1) w' (B++Ak φ3 (σ2++σr)) w':=⟨Av _,λ_ _ _=>rfl,λb hn _ hm=>hn ((hO2 b).2 hm)⟩
 have hnew2:∀b∈Ak φ2 σ1,(b∈Ak φ σk/\b∉B1)\/w.heap.size<=b:=λb h=>by
  obtain⟨p,hp,hb⟩:=A9.1 h
  exact hm2.new p.1 (AP hp) b hb
 have hl3:Later (B++Ak φ σ) w (B++Ak φ3 (σ2++σr)) w':=by
  refine⟨hm2.tch.size,λb hb hn=>hm2.tch.blk b hb λhm=>hn (An _ ((hall b).2 (.inl hm))),λb hn hlt hm=>hn ?_⟩
  rcases Ag.1 ((hO2 b).2 hm)with h|h
  ·rcases Ag.1 h with h|h
   ·exact Az _ h
   ·exact An _ ((hall b).2 (.inr h))
  ·rcases hnew2 b h with h|h
   ·exact An _ ((hall b).2 (.inl h.1))
   ·omega
 have hmv2:∀i∈Bp σ1,i∈Bp σ1->π i∈Bp (σ2++σr)/\η3 (π i)=η2 i:=λi hi _=>⟨by rw[hids];exact Az _ (hin i hi),hη3 i hi⟩
 have hJ:∀i∈Bp σr++gP (G2 m) ks,i∈Bp (σ2++σr)/\η3 i=η i:=λi hi=>by
  rw[hids]
  rcases Ag.1 hi with h|h
  ·exact⟨An _ h,hηr i h⟩
  ·obtain⟨k,hk,rfl⟩:=YA h
   obtain⟨k1,k2⟩:=hks k hk
   exact⟨Az _ (hin k k1),by rw[show lk (G2 m) k=π k from rfl,hη3 k k1,k2]⟩
 have hrσ:∀i∈Bp σr,i∈Bp σ:=λi hi=>by
  obtain⟨p,hp,rfl⟩:=Aq.1 hi
  exact AP (hd p hp).1
 have hcross:∀b,b∈Ak φ2 σ1->b∈Ak φ σr->False:=λb h1 h2=>by
  rcases hnew2 b h1 with h|h
  ·exact h.2 (An _ h2)
  ·have:=hM.mem.lt b (An _ ((hall b).2 (.inr h2)));omega
 have hlr:Later (B++Ak φ σ) w (B++Ak φ σ) w:=⟨Av _,λ_ _ _=>rfl,λ_ h _=>h⟩
 have hm3:Mem C B S w0 (σ2++σr) η3 φ3 w':=by
  refine⟨hM.mem.tch.trans hm2.tch (λ_ h=>h) (λx hx=>?_),?_,?_,?_,?_,hM.mem.out,λg hg=>(hm2.glob g hg).later hl2⟩
  ·rcases hnew x ((hall x).2 (.inl hx))with h|h
   ·exact .inl h.1
   ·exact .inr h
  ·intro p hp
   rcases Ag.1 hp with hp|hp
   ·obtain⟨q,hq,rfl⟩:=ES.1 hp
    have:=(hm2.own q hq).move (ρ:=π) (J:=Bp σ1) (I':=Bp (σ2++σr)) (η':=η3) hl2 hmv2 (Fb hchk.1.2 q hq) (Tch.refl [] w') (λ_ _=>by simp)
    simpa only[hη3 _ (AP hq),hφ3 _ (AP hq)]using this
   ·have h1:=(hM.mem.own p (hd p hp).1).only hlr (Fb hwr p hp)
    have:=h1.later hl3 hJ hm2.tch (λx hx hm=>hdis x hm (A9.2 ⟨p,hp,hx⟩))
    simpa only[hηr _ (AP hp),hφr _ (AP hp)]using this
  ·rw[hids]
   refine D5.2 ⟨?_,J8 hM.mem.nodup,?_⟩
   ·simp only[σ2,CF]
    refine JQ ?_ hm2.nodup
    intro x hx y hy e
    rw[<-hρ x hx,<-hρ y hy,e]
   ·intro x hx y hy e
    exact hnr y hy (e▸hx)
  ·intro i hi j hj hij b hbi hbj
   rw[hids]at hi hj
   rcases Ag.1 hi with hi|hi<;>rcases Ag.1 hj with hj|hj
   ·simp only[σ2,CF]at hi hj
    obtain⟨x,hx,rfl⟩:=Aq.1 hi
    obtain⟨y,hy,rfl⟩:=Aq.1 hj
    rw[hφ3 x hx]at hbi
    rw[hφ3 y hy]at hbj
    exact hm2.disj x hx y hy (λe=>hij (by rw[e])) b hbi hbj
   ·simp only[σ2,CF]at hi
    obtain⟨x,hx,rfl⟩:=Aq.1 hi
    rw[hφ3 x hx]at hbi
    rw[hφr j hj]at hbj
    exact hcross b (Ba hx hbi) (Ba hj hbj)
   ·simp only[σ2,CF]at hj
    obtain⟨y,hy,rfl⟩:=Aq.1 hj
    rw[hφ3 y hy]at hbj
    rw[hφr i hi]at hbi
    exact hcross b (Ba hy hbj) (Ba hi hbi)
   ·rw[hφr i hi]at hbi
    rw[hφr j hj]at hbj
    exact hM.mem.disj i (hrσ i hi) j (hrσ j hj) hij b hbi hbj
  ·intro i hi b hbi
   rw[hids]at hi
   rcases Ag.1 hi with hi|hi
   ·simp only[σ2,CF]at hi
    obtain⟨x,hx,rfl⟩:=Aq.1 hi
    rw[hφ3 x hx]at hbi
    rcases hnew2 b (Ba hx hbi)with h|h
    ·exact hnew b ((hall b).2 (.inl h.1))
    ·exact .inr (Cv hM.mem.tch.size h)
   ·rw[hφr i hi]at hbi
    exact hM.mem.new i (hrσ i hi) b hbi
 refine⟨v,_,_,_,η3,φ3,rfl,hKK,⟨hm3,?_,hM.defers,hM.size⟩,⟨cs,?_,?_⟩,λh=>by cases h⟩
 ·intro t
  rcases MX (J:=Bp σr++gP (G2 m) ks) (fr:=fr) t with h|⟨h,hw⟩
  ·rw[h];exact⟨[a.tmps.getD t undef],RepC.undef_ex _ _ _,rfl⟩
  ·obtain⟨c1,c2,c3⟩:=hM.fr t
   rw[h]
   exact⟨c1,A4.later hl3 hJ _ _ (A4.only hlr _ _ hw c2),c3⟩
 ·exact A4.move (ρ:=π) hl2 hmv2 d cs hchk.2 hv1
 ·rw[IU];exact hv2
theorem CW(m:List (Nat×Nat))(J:List Nat) {f:FuncId} {args Aa:List Dat} {ks:List Nat} {y:Dat} {τ:Sg} {K:KD}(hp:CG C f Aa σ0 ks (λd σ=>d=y/\σ=τ))
  (h0:Ft (lk m) (EM J σ)=σ0) (ha:Jh (lk m) args=Aa) (hb:IN m (G2 m) J=true) (hwa:Dw J args=true) (hw0:Ej J (EM J σ)=true) (hwr:Ej (Bp (DQ J σ)++gP (G2 m) ks) (DQ J σ)=true)
  (hchk:(IN (G2 m) m (Bp τ)&&Nj (G2 m) (Bp (DQ J σ)) (Bp τ)&&Ej (Bp τ) τ&&D0 (Bp τ) y)=true)
  (hK:force (ren (lk (G2 m)) y) λd=>EP (NW (Bp (DQ J σ)++gP (G2 m) ks) fr) λfr=>BP (Ft (lk (G2 m)) τ++DQ J σ) λσ=>K d fr σ):BI C false f args K fr σ:=
 VD m J hp h0 ha hb hwa hw0 hwr λd σ1 ⟨hd,hs⟩=>by
  subst hd;subst hs
  rw[HP,Dp,Bl]at hK
  exact⟨hchk,hK⟩
def JZ:List Nat->List Dat
 |[]=>[]
 |k::ks=>.own k::JZ ks
def PK(J:List Nat):List Nat->Bool
 |[]=>true
 |k::ks=>Ex k J&&PK J ks
def iB(m:List (Nat×Nat)):List Nat->Bool
 |[]=>true
 |k::ks=>Nat.beq (lk m k) k&&iB m ks
theorem KX {J:List Nat}:∀{ks:List Nat},PK J ks=true->∀k∈ks,k∈J
 |[],_,k,hk=>by cases hk
 |
  j::ks,h,k,hk=>by
  simp only[PK,Ah]at h
  rcases Ar.1 hk with rfl|hk
  ·exact EG h.1
  ·exact KX h.2 k hk
theorem Qo {m:List (Nat×Nat)}:∀{ks:List Nat},iB m ks=true->∀k∈ks,lk m k=k
 |[],_,k,hk=>by cases hk
 |
  j::ks,h,k,hk=>by
  simp only[iB,Ah]at h
  rcases Ar.1 hk with rfl|hk
  ·exact Am h.1
  ·exact Qo h.2 k hk
theorem Uu {η:Nat->Value} {I O:List Nat} {w:World}:∀{ks:List Nat},(∀k∈ks,k∈I)->A7 η I O w (JZ ks) (ks.map λk=>[η k])
 |[],_=>by simp[JZ,A7]
 |
  k::ks,h=>by
  simp only[JZ,A7,Ap]
  exact⟨[η k],_,rfl,(show k∈I/\[η k]=[η k]from⟨h k (by simp),rfl⟩),Uu (λj hj=>h j (by simp[hj]))⟩
theorem Ut {η:Nat->Value}:∀(ks:List Nat),List.zipWith BD (JZ ks) (ks.map λk=>[η k])=ks.map η
 |[]=>rfl
 |k::ks=>by simp only[JZ,Ap,AL,Ut ks];rfl
theorem Uv {η:Nat->Value} {I O:List Nat} {w:World}:∀{ks:List Nat} {css:List (List Value)},A7 η I O w (JZ ks) css->List.zipWith BD (JZ ks) css=ks.map η
 |[],css,h=>by simp[JZ]
 |
  k::ks,css,h=>by
  simp only[JZ,A7,A4]at h
  obtain⟨c1,c2,rfl,⟨_,rfl⟩,h⟩:=h
  simp only[JZ,AL,Uv h,Ap];rfl
theorem Mem.ren {B S:List Nat} {w0 w:World} {η:Nat->Value} {φ:Nat->List Nat} {Z:Sg}(m:List (Nat×Nat))(h:Mem C B S w0 Z η φ w)(hb:IN m (G2 m) (Bp Z)=true)(hz:Ej (Bp Z) Z=true):
  Mem C B S w0 (Ft (lk m) Z) (λi=>η (lk (G2 m) i)) (λi=>φ (lk (G2 m) i)) w/\(∀b,b∈Ak (λi=>φ (lk (G2 m) i)) (Ft (lk m) Z)↔b∈Ak φ Z):=by
 have hπ:∀i∈Bp Z,lk (G2 m) (lk m i)=i:=G0 hb
 have hbk:∀b,b∈Ak (λi=>φ (lk (G2 m) i)) (Ft (lk m) Z)↔b∈Ak φ Z:=λb=>by
  simp only[Ak,A9]
  constructor
  ·rintro⟨p,hp,hb⟩
   obtain⟨q,hq,rfl⟩:=ES.1 hp
   exact⟨q,hq,by simpa only[hπ _ (AP hq)]using hb⟩
  ·rintro⟨q,hq,hb⟩
   exact⟨_,ES.2 ⟨q,hq,rfl⟩,by simpa only[hπ _ (AP hq)]using hb⟩
 have hl:Later (B++Ak φ Z) w (B++Ak (λi=>φ (lk (G2 m) i)) (Ft (lk m) Z)) w:=⟨Av _,λ_ _ _=>rfl,λb hn _ hm=>hn (by
  rcases Ag.1 hm with h|h
  ·exact Az _ h
  ·exact An _ ((hbk b).1 h))⟩
 refine⟨⟨h.tch,?_,?_,?_,?_,h.out,λg hg=>(h.glob g hg).later hl⟩,hbk⟩
 ·intro p hp
  obtain⟨q,hq,rfl⟩:=ES.1 hp
  have:=(h.own q hq).move (ρ:=lk m) (J:=Bp Z) (I':=Bp (Ft (lk m) Z)) (η':=λi=>η (lk (G2 m) i)) hl (λi hi _=>⟨by rw[CF];exact C7 hi,by simp only[hπ i hi]⟩) (Fb hz q hq) (Tch.refl [] w) (λ_ _=>by simp)
  simpa only[hπ _ (AP hq)]using this
 ·rw[CF]
  refine JQ ?_ h.nodup
  intro x hx y hy e
  rw[<-hπ x hx,<-hπ y hy,e]
 ·intro i hi j hj hij b hbi
  rw[CF]at hi hj
  obtain⟨x,hx,rfl⟩:=Aq.1 hi
  obtain⟨y,hy,rfl⟩:=Aq.1 hj
  simp only[hπ x hx,hπ y hy]at hbi⊢
  exact h.disj x hx y hy (λe=>hij (by rw[e])) b hbi
 ·intro i hi b hbi
  rw[CF]at hi
  obtain⟨x,hx,rfl⟩:=Aq.1 hi
  simp only[hπ x hx]at hbi
  exact h.new x hx b hbi
def nQ(C:Cx)(fr:Fr)(σ:Sg)(fr':Fr)(σ':Sg):Prop:=∀(B S:List Nat) (w0 w:World) (n:Nat) (η:Nat->Value) (φ:Nat->List Nat) (a:Act),Models C B S w0 n fr σ η φ a w->∃η' φ',Models C B S w0 n fr' σ' η' φ' a w
theorem nQ.lo {fr':Fr} {σ':Sg}(h:Lo fr σ fr' σ'):nQ C fr σ fr' σ':=λ_ _ _ _ _ _ _ _ hM=>h.models hM
theorem nQ.refl:nQ C fr σ fr σ:=λ_ _ _ _ _ η φ _ hM=>⟨η,φ,hM⟩
def tX(C:Cx)(vs:List Value)(g:Nat)(ks:List Nat)(Q:Dat->Sg->Prop):Dat->Sg->Prop:=λd σ=>
 ∃fr1 σ1 m Z,nQ C [(0,d)] σ fr1 σ1/\BA g σ1=some (.ghost vs (JZ ks))/\Ly Z σ1/\(fW [(0,get fr1 0)] Z&&IN m (G2 m) (Bp Z)&&PK (Bp Z) ks&&iB m ks&&iB (G2 m) ks)=true/\Q (ren (lk m) (get fr1 0)) (Ft (lk m) Z)
theorem FD {n:Nat}(hC:C.Ok T) {G:List FuncId} {pl:List (Nat×Plan)} {f:FuncId} {fn:Func} {c:Code}(hf:C.P.funcs[f]? =some fn)(hb:fn.body=some c)(hn:fn.ntmps=n)(hrun:∀(vs:Array Value) (w:World),(callFunc f vs).run C.P w=.ok (.enter f vs) w)(hk:BQ C.P G pl c=true) {args:List Dat} {ks:List Nat} {Q:Dat->Sg->Prop}(hl:args.length<=n)(g:Nat)
  (hg:(!(Ex g (Bp σ0))&&PK (Bp σ0) ks)=true)
  (h:∀vs,Dj C T n pl c (Hr T fn.results.toList (tX C vs g ks Q)) (params args 0) ((g,.ghost vs (JZ ks))::σ0)):CG C f args σ0 ks Q:=by
 intro B S w η φ css hm hr
 refine⟨hrun _ _,?_⟩
 simp only[Ah,BC]at hg
 have hgn:=H7 hg.1
 have hki:=KX hg.2
 obtain⟨hm1,hl1⟩:=hm.add (Tch.refl _ _) (i:=g) (o:=.ghost (ks.map η) (JZ ks)) (v:=.nilFunc) (F:=[]) hgn (λ_ h=>by cases h) (by
  have hne:∀k∈ks,Ds η g (.nilFunc:Value) k=η k:=λk hk=>C0 _ _ _ (λe=>hgn (e▸hki k hk))
  have he:(ks.map λk=>[Ds η g (.nilFunc:Value) k])=ks.map λk=>[η k]:=List.map_congr_left λk hk=>by rw[hne k hk]
  exact⟨rfl,rfl,ks.map λk=>[η k],by rw[<-he];exact Uu (λk hk=>AB _ (hki k hk)),(Ut ks).symm⟩)
 have hr1:A7 (Ds η g .nilFunc) (Bp ((g,.ghost (ks.map η) (JZ ks))::σ0)) (B++Ak (Ds φ g []) ((g,.ghost (ks.map η) (JZ ks))::σ0)) w args css:=
  A7.later hl1 (λi hi=>⟨AB _ hi,C0 _ _ _ (show i≠g fromλe=>hgn (e▸hi))⟩) _ _ hr
 refine(E5 hC hf hb hn hk hr1 hl hm1 (h (ks.map η))).mono ?_
 rintro e w' ⟨v,d,σ',η',φ',rfl,⟨fr1,σ1,m,Z,hLo,hg1,hZ,hchk,hQ⟩,hm',hv⟩
 simp only[Ah]at hchk
 obtain⟨⟨⟨⟨hok,hbk⟩,hin⟩,hfx⟩,hfx2⟩:=hchk
 have hMf:Models C B S w 1 [(0,d)] σ' η' φ' {tmps:=#[v],defers:=[]} w':=⟨hm',λs=>by
  simp only[Sx.get]
  rcases Bh 0 s with⟨hbq,e⟩|⟨hbq,e⟩<;>rw[hbq]
  ·subst e
   obtain⟨c1,c2,c3⟩:=hv
   exact⟨c1,c2,by simp[c3]⟩
  ·exact⟨[Array.getD #[v] s undef],by simp[A4,RepC],rfl⟩,rfl,rfl⟩
 obtain⟨η',φ',hM1⟩:=hLo _ _ _ _ _ _ _ _ hMf
 obtain⟨_,_,qss,q3,q4⟩:=hM1.mem.own _ (Bd hg1)
 have hks:ks.map η'=ks.map η:=by rw[<-Uv q3];exact q4.symm
 have hM2:Models C B S w 1 [(0,get fr1 0)] σ1 η' φ' {tmps:=#[v],defers:=[]} w':=hM1.sub' λt=>by
  simp only[Sx.get]
  rcases Bh 0 t with⟨hbq,e⟩|⟨hbq,e⟩<;>rw[hbq]
  ·subst e;exact .inr rfl
  ·exact .inl rfl
 have hM3:=hM2.only hok hZ
 simp only[fW,Ah]at hok
 obtain⟨hm4,hbl⟩:=hM3.mem.ren m hbk hok.2
 obtain⟨cy,y1,y2⟩:=hM3.fr 0
 have hπ:∀i∈Bp Z,lk (G2 m) (lk m i)=i:=G0 hbk
 have hw0:D0 (Bp Z) (get fr1 0)=true:=by have:=I5 hok.1.2 0;simpa only[Sx.get]using this
 have hl5:Later (B++Ak φ' Z) w' (B++Ak (λi=>φ' (lk (G2 m) i)) (Ft (lk m) Z)) w':=⟨Av _,λ_ _ _=>rfl,λb hn _ hm=>hn (by
  rcases Ag.1 hm with h|h
  ·exact Az _ h
  ·exact An _ ((hbl b).1 h))⟩
 have y3:A4 η' (Bp Z) (B++Ak φ' Z) w' (get fr1 0) cy:=by simpa only[Sx.get]using y1
 have y4:=A4.move (J:=Bp Z) (ρ:=lk m) (η':=λi=>η' (lk (G2 m) i)) (I':=Bp (Ft (lk m) Z)) hl5 (λi hi _=>⟨by rw[CF];exact C7 hi,by simp only[hπ i hi]⟩) _ _ hw0 y3
 refine⟨v,_,_,(λi=>η' (lk (G2 m) i)),(λi=>φ' (lk (G2 m) i)),rfl,hQ,hm4,⟨cy,y4,by rw[IU];exact y2⟩,λk hk=>?_⟩
 refine⟨?_,?_⟩
 ·rw[CF];exact Aq.2 ⟨k,KX hin k hk,Qo hfx k hk⟩
 ·simp only[Qo hfx2 k hk]
  exact(List.map_inj_left.1 hks) k hk
end
end Go.Sx
end
section
namespace Go.Sx
open Go Go.RowKit Go.Reg
section
variable {C:Cx} {T:Fm} {B S:List Nat} {w0 w:World} {n:Nat} {fr:Fr} {σ:Sg} {η:Nat->Value} {φ:Nat->List Nat} {a:Act} {i:Nat} {t:TypeId} {xs:List Da}
theorem Models.cellsRefR(hM:Models C B S w0 n fr σ η φ a w)(hg:BA i σ=some (.cells t (B8 xs))):Later (B++Ak φ σ) w (B++Ak φ (CS (Bw i (.ref (.agg xs))) i σ)) w/\RepC (B++Ak φ (CS (Bw i (.ref (.agg xs))) i σ)) w (.ref (.agg xs)) [η i]:=by
 have hm:=hM.mem
 have hi:=AP (Bd hg)
 have hsub:∀b∈B++Ak φ (CS (Bw i (.ref (.agg xs))) i σ),b∈B\/∃j∈Bp σ,j≠i/\b∈φ j:=by
  intro b hb
  rcases Ag.1 hb with hb|hb
  ·exact .inl hb
  ·obtain⟨p,hp,hb⟩:=A9.1 hb
   obtain⟨q,hq,hne,rfl⟩:=Ey hp
   exact .inr ⟨q.1,AP hq,hne,hb⟩
 have hl:Later (B++Ak φ σ) w (B++Ak φ (CS (Bw i (.ref (.agg xs))) i σ)) w:=⟨Av _,λ_ _ _=>rfl,λb hn _ hb=>by
  rcases hsub b hb with h|⟨j,hj,_,h⟩
  ·exact hn (Az _ h)
  ·exact hn (An _ (Ba hj h))⟩
 refine⟨hl,?_⟩
 obtain⟨b,cs,e1,e2,hB,hrr⟩:=hm.own _ (Bd hg)
 have hr2:=RepCs.later hl _ _ (Fe.1 hrr)
 have hbi:b∈φ i:=by rw[show φ i=[b]from e2];simp
 simp only[RepC]
 refine⟨b,0,cs,by rw[show η i=_ from e1],λhb=>?_,hB.lt,hr2,λj u hj=>by rw[E7];exact hB.cell hj⟩
 rcases hsub b hb with h|⟨j,hj,hne,h⟩
 ·exact Md hm hi hbi h
 ·exact hm.disj j hj i hi hne b h hbi
theorem bK(i:Nat) {q:Bool} {f:FuncId} {args:List Dat} {K:KD} {ds:List Dat}(hg:BA i σ=some (.cells t ds))(ha:DY ds=some xs)(h:BI C q f (Fg i (.ref (.agg xs)) args) K (Ek i (.ref (.agg xs)) fr) (CS (Bw i (.ref (.agg xs))) i σ)):BI C q f args K fr σ:=by
 have hd:=Dv ha
 subst hd
 unfold BI at h⊢
 rintro B S w0 η φ n a w vs hM ⟨css,hr,rfl⟩
 obtain⟨hl,hr0⟩:=hM.cellsRefR hg
 have hI:∀j∈Bp σ,j≠i->j∈Bp (CS (Bw i (.ref (.agg xs))) i σ)/\η j=η j:=λj hj hne=>⟨by rw[Eb];exact A3.2 ⟨hj,by simpa using hne⟩,rfl⟩
 have hr':=A7.kill (x:=.ref (.agg xs)) rfl hl hI hr0 _ _ hr
 obtain⟨h1,h2⟩:=hM.mem.del (x:=.ref (.agg xs)) rfl hr0
 have hM':Models C B S w0 n (Ek i (.ref (.agg xs)) fr) (CS (Bw i (.ref (.agg xs))) i σ) η φ a w:=⟨h1,hM.fr.kill rfl h2 hI hr0,hM.defers,hM.size⟩
 exact h B S w0 η φ n a w _ hM' ⟨css,hr',by rw[EB rfl]⟩
end
end Go.Sx
end
section
namespace Go.Sx
open Go Go.RowKit Go.Reg
theorem qJ {a b A B:Prop}(h:a↔b)(hB:B):(¬(a↔b)->A)/\(¬¬(a↔b)->B):=⟨λhn=>absurd h hn,λ_=>hB⟩
theorem uB {a b A B:Prop}(hB:B)(h:a↔b:=by first|exact iff_of_true (by first|omega|decide) (by first|omega|decide)|exact iff_of_false (by first|omega|decide) (by first|omega|decide)):(¬(a↔b)->A)/\(¬¬(a↔b)->B):=qJ h hB
mutual
def fZ:Dat->Option Da
 |.d x=>some x
 |
  .agg ds=>match fY ds with
  |some xs=>some (.agg xs)
  |none=>none
 |
  .iface t d=>match fZ d with
  |some x=>some (.iface t x)
  |none=>none
 |_=>none
def fY:List Dat->Option (List Da)
 |[]=>some []
 |
  d::ds=>match fZ d,fY ds with
  |some x,some xs=>some (x::xs)
  |_,_=>none
end
section
variable {η:Nat->Value} {I O:List Nat} {w:World}
mutual
theorem Y4:∀(d:Dat) {x:Da} {cs:List Value},fZ d=some x->A4 η I O w d cs->RepC O w x cs/\BD d cs=Fc x cs
 |.d y,x,cs,h,hr=>by simp only[fZ,Au]at h;subst h;exact⟨by simpa only[A4]using hr,rfl⟩
 |
  .agg ds,x,cs,h,hr=>by
  simp only[fZ]at h
  split at h
  ·rename_i xs h1
   simp only[Au]at h
   subst h
   simp only[A4]at hr
   simp only[RepC]
   exact⟨U3 ds h1 hr,rfl⟩
  ·cases h
 |
  .iface t d,x,cs,h,hr=>by
  simp only[fZ]at h
  split at h
  ·rename_i y h1
   simp only[Au]at h
   subst h
   simp only[A4]at hr
   obtain⟨c,r1,rfl⟩:=hr
   obtain⟨g1,g2⟩:=Y4 d h1 r1
   simp only[RepC]
   exact⟨⟨c,g1,by rw[g2]⟩,rfl⟩
  ·cases h
 |.own _,_,_,h,_=>by simp[fZ]at h
 |.at_ _ _,_,_,h,_=>by simp[fZ]at h
 |.el _ _ _ _,_,_,h,_=>by simp[fZ]at h
 |.tuple _,_,_,h,_=>by simp[fZ]at h
 |.func _ _ _,_,_,h,_=>by simp[fZ]at h
theorem U3:∀(ds:List Dat) {xs:List Da} {cs:List Value},fY ds=some xs->AX η I O w ds cs->RepCs O w xs cs
 |[],xs,cs,h,hr=>by simp only[fY,Au]at h;subst h;simpa only[AX,RepCs]using hr
 |
  d::ds,xs,cs,h,hr=>by
  simp only[fY]at h
  split at h
  ·rename_i x xs' h1 h2
   simp only[Au]at h
   subst h
   simp only[AX]at hr
   obtain⟨c1,c2,rfl,r1,r2⟩:=hr
   simp only[RepCs]
   exact⟨c1,c2,rfl,(Y4 d h1 r1).1,U3 ds h2 r2⟩
  ·cases h
end
end
section
variable {C:Cx} {n:Nat} {fr:Fr} {σ:Sg}
theorem rX {ι:Type}(H:ι->Prop)(I:ι->Fr)(Z:ι->Sg)(μ:ι->Nat)(x0:ι) {b:Code} {K:KE} {fr0:Fr} {σ0:Sg}(hz:∀x,fW (I x) (Z x)=true)(h0:H x0)(hf:nQ C fr σ fr0 σ0)(hI:VW (I x0) fr0)(hZ:Ly (Z x0) σ0)
  (round:∀x,H x->EJ C n b (λe fr σ=>match e with|.normal=>∃y fr' σ',H y/\nQ C fr σ fr' σ'/\VW (I y) fr'/\Ly (Z y) σ'/\μ y<μ x|e=>K e fr σ) (I x) (Z x)):EJ C n (.loop b) K fr σ:=by
 refine B9.2 λB S w0 η φ a w hM=>?_
 obtain⟨η,φ,hM⟩:=hf _ _ _ _ _ _ _ _ hM
 refine wp_loop_ghost (λm a w=>∃x η φ,H x/\μ x=m/\Models C B S w0 n (I x) (Z x) η φ a w) (μ x0) ⟨x0,η,φ,h0,rfl,(hM.sub hI).only (hz x0) hZ⟩ ?_
 rintro m a w ⟨x,η,φ,hx,rfl,hM⟩
 refine wp_mono (B9.1 (round x hx) B S w0 η φ a w hM) ?_
 intro e a' w' hq
 cases e with
 |
  normal=>
  obtain⟨fr',σ',η',φ',hM',y,f2,s2,h1,hf,h2,h3,h4⟩:=hq
  obtain⟨η',φ',hM'⟩:=hf _ _ _ _ _ _ _ _ hM'
  exact⟨μ y,h4,y,η',φ',h1,rfl,(hM'.sub h2).only (hz y) h3⟩
 |exit id=>exact hq
 |goto l=>exact hq
 |ret=>exact hq
 |panic ch=>exact hq
 |outgrown=>exact hq
def lL(ρ:Nat->Nat):Fr->Fr
 |[]=>[]
 |(t,d)::fr=>(t,ren ρ d)::lL ρ fr
theorem Vg(ρ:Nat->Nat):∀(fr:Fr) (t:Nat),get (lL ρ fr) t=ren ρ (get fr t)
 |[],t=>rfl
 |
  (s,d)::fr,t=>by
  simp only[lL,get]
  cases Nat.beq s t
  ·exact Vg ρ fr t
  ·rfl
theorem nQ.ren(m:List (Nat×Nat))(hz:fW fr σ=true)(hb:IN m (G2 m) (Bp σ)=true):nQ C fr σ (lL (lk m) fr) (Ft (lk m) σ):=by
 intro B S w0 w n η φ a hM
 simp only[fW,Ah]at hz
 obtain⟨hm,hbl⟩:=hM.mem.ren m hb hz.2
 have hπ:∀i∈Bp σ,lk (G2 m) (lk m i)=i:=G0 hb
 have hl:Later (B++Ak φ σ) w (B++Ak (λi=>φ (lk (G2 m) i)) (Ft (lk m) σ)) w:=⟨Av _,λ_ _ _=>rfl,λb hn _ hm=>hn (by
  rcases Ag.1 hm with h|h
  ·exact Az _ h
  ·exact An _ ((hbl b).1 h))⟩
 refine⟨λi=>η (lk (G2 m) i),λi=>φ (lk (G2 m) i),hm,λt=>?_,hM.defers,hM.size⟩
 obtain⟨cs,h1,h2⟩:=hM.fr t
 rw[Vg]
 exact⟨cs,A4.move (J:=Bp σ) (ρ:=lk m) (η':=λi=>η (lk (G2 m) i)) (I':=Bp (Ft (lk m) σ)) hl (λi hi _=>⟨by rw[CF];exact C7 hi,by simp only[hπ i hi]⟩) _ _ (I5 hz.1.2 t) h1,by rw[IU];exact h2⟩
theorem NC {ι:Type} {σ0:Sg}(m:List (Nat×Nat))(J:List Nat) {f:FuncId} {args Aa:List Dat} {ks:List Nat} {Q:Dat->Sg->Prop} {y:ι->Dat} {τ:ι->Sg} {P:ι->Prop} {K:KD}(hp:CG C f Aa σ0 ks Q)(hQ:∀d σ1,Q d σ1->∃z,d=y z/\σ1=τ z/\P z)
  (h0:Ft (lk m) (EM J σ)=σ0) (ha:Jh (lk m) args=Aa) (hb:IN m (G2 m) J=true) (hwa:Dw J args=true) (hw0:Ej J (EM J σ)=true) (hwr:Ej (Bp (DQ J σ)++gP (G2 m) ks) (DQ J σ)=true)
  (hchk:∀z,(IN (G2 m) m (Bp (τ z))&&Nj (G2 m) (Bp (DQ J σ)) (Bp (τ z))&&Ej (Bp (τ z)) (τ z)&&D0 (Bp (τ z)) (y z))=true)
  (hK:∀z,P z->force (Go.Sx.ren (lk (G2 m)) (y z)) λd=>EP (NW (Bp (DQ J σ)++gP (G2 m) ks) fr) λfr=>BP (Ft (lk (G2 m)) (τ z)++DQ J σ) λσ=>K d fr σ):BI C false f args K fr σ:=
 VD m J hp h0 ha hb hwa hw0 hwr λd σ1 hq=>by
  obtain⟨z,rfl,rfl,hz⟩:=hQ d σ1 hq
  have h:=hK z hz
  rw[HP,Dp,Bl]at h
  exact⟨hchk z,h⟩
end
end Go.Sx
end
section
namespace Go.Gr
structure Edg where
 a:Int
 b:Int
 deriving DecidableEq
def turn(e:Edg):Edg:=⟨min e.a e.b,max e.a e.b⟩
def Dg(a b:Int):Int:=if a<b then-1 else if b<a then 1 else 0
def BW(x y:Edg):Int:=if Dg x.a y.a≠0 then Dg x.a y.a else Dg x.b y.b
theorem M7(a b:Int):Dg a b<0↔a<b:=by unfold Dg;split<;>first|omega|(split<;>omega)
theorem M8(a b:Int):Dg a b=0↔a=b:=by unfold Dg;split<;>first|omega|(split<;>omega)
theorem bJ(a b:Int):Dg b a=-Dg a b:=by unfold Dg;split<;>split<;>first|omega|(split<;>omega)
theorem DX(x y:Edg):BW x y<0↔x.a<y.a\/(x.a=y.a/\x.b<y.b):=by
 unfold BW
 have h1:=M7 x.a y.a
 have h2:=M8 x.a y.a
 have h3:=M7 x.b y.b
 split<;>omega
theorem nE(x y:Edg):BW x y=0↔x=y:=by
 unfold BW
 have h2:=M8 x.a y.a
 have h3:=M8 x.b y.b
 constructor
 ·intro h
  split at h
  ·omega
  ·cases x;cases y;simp_all
 ·rintro rfl
  rw[if_neg (by omega)];omega
theorem M9(x y:Edg):BW x y<0\/x=y\/BW y x<0:=by
 rw[DX,DX]
 by_cases h:x=y
 ·exact .inr (.inl h)
 ·have:¬(x.a=y.a/\x.b=y.b):=λ⟨h1,h2⟩=>h (by cases x;cases y;simp_all)
  omega
theorem EZ {x y z:Edg}(h1:BW x y<0)(h2:BW y z<0):BW x z<0:=by
 rw[DX]at*;omega
theorem VB(x:Edg):¬BW x x<0:=by rw[DX];omega
theorem N9 {x y:Edg}(h:BW x y<0):¬BW y x<0:=by rw[DX]at*;omega
theorem QZ(e:Edg):turn (turn e)=turn e:=by unfold turn;simp only[Edg.mk.injEq];omega
theorem G1(a b:Int):turn ⟨a,b⟩=turn ⟨b,a⟩:=by unfold turn;simp only[Edg.mk.injEq];omega
theorem Io {e:Edg}(h:e.a<=e.b):turn e=e:=by cases e;unfold turn;simp only[Edg.mk.injEq]at*;omega
theorem My {α β:Type} {l:List α} {f g:α->List β}(h:∀x∈l,f x=g x):l.flatMap f=l.flatMap g:=by
 induction l with
 |nil=>rfl
 |cons x l ih=>rw[AZ,AZ,h x (by simp),ih (λy hy=>h y (by simp[hy]))]
def BX(l:List Edg):Prop:=l.Pairwise (λx y=>BW x y<0)
theorem MS:∀{l1 l2:List Edg},l1.Perm l2->BX l1->BX l2->l1=l2
 |[],l2,hp,_,_=>(List.nil_perm.1 hp).symm
 |x::l1,[],hp,_,_=>by simp at hp
 |
  x::l1,y::l2,hp,h1,h2=>by
  have g1:=BE.1 h1
  have g2:=BE.1 h2
  have hxy:x=y:=by
   have hx:x∈y::l2:=hp.mem_iff.1 (by simp)
   have hy:y∈x::l1:=hp.mem_iff.2 (by simp)
   rcases Ar.1 hx with h|h
   ·exact h
   ·rcases Ar.1 hy with h'|h'
    ·exact h'.symm
    ·exact absurd (g2.1 x h) (N9 (g1.1 y h'))
  subst hxy
  rw[MS (List.Perm.cons_inv hp) g1.2 g2.2]
theorem JL {l:List Edg}(hn:l.Nodup)(h:l.Pairwise (λx y=>¬BW y x<0)):BX l:=by
 refine(hn.and h).imp ?_
 rintro x y ⟨h1,h2⟩
 rcases M9 x y with h|h|h
 ·exact h
 ·exact absurd h h1
 ·exact absurd h h2
theorem BX.nodup {l:List Edg}(h:BX l):l.Nodup:=h.imp λh e=>by subst e;exact VB _ h
def NG(n:Nat)(R:Nat->List Int)(D:Nat->Nat):List Int:=(List.range n).flatMap λv=>R v++List.replicate (D v- (R v).length) 0
def off(D:Nat->Nat):Nat->Nat
 |0=>0
 |v+1=>off D v+D v
theorem G8(D:Nat->Nat) {v n:Nat}(h:v<=n):off D v<=off D n:=by
 induction n with
 |zero=>
           have:v=0:=by omega
           subst this;exact Av _
 |
  succ n ih=>
  rcases Bu v (n+1)with h1|h1
  ·have:=ih (by omega);simp only[off];omega
  ·have:v=n+1:=by omega
   subst this;exact Av _
theorem MG(n:Nat)(R:Nat->List Int)(D:Nat->Nat):NG (n+1) R D=NG n R D++(R n++List.replicate (D n- (R n).length) 0):=by
 simp[NG,Cn]
theorem Tr {n:Nat} {R:Nat->List Int} {D:Nat->Nat}(h:∀v,(R v).length<=D v):(NG n R D).length=off D n:=by
 induction n with
 |zero=>rfl
 |
  succ n ih=>
  have:=h n
  rw[MG,Ae,ih]
  simp[off];omega
def Dn(R:Nat->List Int)(v:Nat)(u:Int):Nat->List Int:=λw=>if w=v then R v++[u]else R w
theorem YQ {n v:Nat} {R:Nat->List Int} {D:Nat->Nat}(u:Int)(h:∀v,(R v).length<=D v)(hv:v<n)(hr:(R v).length<D v):(NG n R D).set (off D v+(R v).length) u=NG n (Dn R v u) D:=by
 induction n with
 |zero=>omega
 |
  succ n ih=>
  rw[MG,MG]
  have hl:=Tr (n:=n) h
  by_cases hvn:v<n
  ·have h1:off D v+(R v).length<(NG n R D).length:=by
    have:=G8 D (show v+1<=n by omega)
    simp only[off]at this
    omega
   rw[List.set_append_left _ _ h1,ih hvn]
   have hne:¬n=v:=by omega
   simp[Dn,hne]
  ·have hvn':v=n:=by omega
   subst hvn'
   rw[List.set_append_right _ _ (by omega),hl,Nat.add_sub_cancel_left]
   have hsame:NG v (Dn R v u) D=NG v R D:=by
    unfold NG
    refine My λw hw=>?_
    have:¬w=v:=by have:=AO.1 hw;omega
    simp[Dn,this]
   rw[hsame]
   congr 1
   have hd:D v- (R v).length=(D v- (R v).length-1)+1:=by omega
   rw[List.set_append_right _ _ (Av _),Ih,hd,List.replicate_succ,List.set_cons_zero]
   have hm:Dn R v u v=R v++[u]:=by simp[Dn]
   rw[hm,Ae,CB,Bz,show D v- ((R v).length+1)=D v- (R v).length-1 by omega]
   rfl
theorem VM {n:Nat} {R:Nat->List Int} {D:Nat->Nat}(h:∀v,v<n->(R v).length=D v):NG n R D=(List.range n).flatMap R:=by
 unfold NG
 refine My λw hw=>?_
 rw[h w (AO.1 hw)];simp
theorem map_set {α:Type}(m k:Nat)(f:Nat->α)(x:α):((List.range m).map f).set k x=(List.range m).map (λv=>if v=k then x else f v):=by
 apply Fk
 intro i
 rw[List.getElem?_set]
 simp only[Ac,CX,Af]
 by_cases hi:i<m
 ·rw[Ep hi]
  by_cases e:k=i
  ·subst e;simp[hi]
  ·have:¬i=k:=λh=>e h.symm
   simp[e,this]
 ·have h1:(List.range m)[i]? =none:=by simp;omega
  rw[h1]
  by_cases e:k=i
  ·subst e;simp[hi]
  ·simp[e]
theorem SO {α:Type} {m v:Nat}(f:Nat->α)(h:v<m):((List.range m).map f)[v]? =some (f v):=by simp[h]
def Eh(E:List Edg)(v:Nat):List Int:=(E.filter λe=>decide (e.b=(v:Int))).map (·.a)
def DJ(E:List Edg)(v:Nat):List Int:=(E.filter λe=>decide (e.a=(v:Int))).map (·.b)
def Df(E:List Edg)(v:Nat):List Int:=Eh E v++DJ E v
def FR(E:List Edg)(v:Nat):List Int:=(E.zipIdx.filter λp=>decide (p.1.b=(v:Int))).map λp=>(p.2:Int)
def EV(E:List Edg)(v:Nat):List Int:=(E.zipIdx.filter λp=>decide (p.1.a=(v:Int))).map λp=>(p.2:Int)
def FY(E:List Edg)(v:Nat):List Int:=FR E v++EV E v
def F3(E:List Edg)(v:Nat):Nat:=(Df E v).length
theorem Va(E:List Edg)(e:Edg)(v:Nat):FR (E++[e]) v=FR E v++(if e.b=v then[(E.length:Int)]else[])/\EV (E++[e]) v=EV E v++(if e.a=v then[(E.length:Int)]else[]):=by
 unfold FR EV
 rw[List.zipIdx_append]
 constructor
 ·simp only[List.zipIdx_singleton,Cj,AF]
  congr 1
  by_cases h:e.b=v<;>simp[h]
 ·simp only[List.zipIdx_singleton,Cj,AF]
  congr 1
  by_cases h:e.a=v<;>simp[h]
theorem JR(E:List Edg)(e:Edg)(v:Nat):Eh (E++[e]) v=Eh E v++(if e.b=v then[e.a]else[])/\DJ (E++[e]) v=DJ E v++(if e.a=v then[e.b]else[]):=by
 unfold Eh DJ
 constructor
 ·simp only[Cj,AF]
  congr 1
  by_cases h:e.b=v<;>simp[h]
 ·simp only[Cj,AF]
  congr 1
  by_cases h:e.a=v<;>simp[h]
theorem JV(E:List Edg)(v:Nat):(FR E v).length=(Eh E v).length/\(EV E v).length=(DJ E v).length:=by
 have key:∀(f:Edg->Bool) (E:List Edg) (k:Nat),((E.zipIdx k).filter λp=>f p.1).length=(E.filter f).length:=by
  intro f E
  induction E with
  |nil=>intro k;rfl
  |
   cons e E ih=>
   intro k
   simp only[NK,bV]
   split<;>simp[ih]
 unfold FR Eh EV DJ
 simp only[Ac]
 exact⟨key (λe=>decide (e.b=(v:Int))) E 0,key (λe=>decide (e.a=(v:Int))) E 0⟩
theorem V6(E:List Edg)(e:Edg)(v:Nat):F3 (E++[e]) v=F3 E v+(if e.b=v then 1 else 0)+(if e.a=v then 1 else 0):=by
 unfold F3 Df
 rw[(JR E e v).1,(JR E e v).2]
 simp only[Ae]
 split<;>split<;>simp<;>omega
theorem OD(E:List Edg)(n:Nat)(h:∀e∈E,0<=e.a/\e.a<n/\0<=e.b/\e.b<n):off (F3 E) n=2*E.length:=by
 have step:∀(E:List Edg) (e:Edg) (m:Nat),off (F3 (E++[e])) m=off (F3 E) m+(if 0<=e.b/\e.b<m then 1 else 0)+(if 0<=e.a/\e.a<m then 1 else 0):=by
  intro E e m
  induction m with
  |zero=>simp only[off];rw[if_neg (by omega),if_neg (by omega)]
  |
   succ m ih=>
   simp only[off,ih,V6]
   by_cases h1:e.b=(m:Int)<;>by_cases h2:e.a=(m:Int)<;>by_cases h3:(0<=e.b/\e.b<(m:Int))<;>by_cases h4:(0<=e.a/\e.a<(m:Int))<;>simp[h1,h2,h3,h4]<;>(repeat' split)<;>omega
 have key:∀k,off (F3 (E.take k)) n=2*(E.take k).length:=by
  intro k
  induction k with
  |
   zero=>
   simp only[List.take_zero,Cf]
   have:∀m,off (F3 []) m=0:=λm=>by induction m with|zero=>rfl|succ m ih=>simp[off,ih,F3,Df,Eh,DJ]
   rw[this]
  |
   succ k ih=>
   rw[A2]
   cases hk:E[k]? with
   |none=>simpa using ih
   |
    some e=>
    have:=h e (AD hk)
    simp only[Option.toList]
    rw[step,ih,if_pos ⟨this.2.2.1,this.2.2.2⟩,if_pos ⟨this.1,this.2.1⟩]
    simp;omega
 have:=key E.length
 rwa [Dr]at this
end Go.Gr
namespace Go.Gr
structure Gr where
 labels:List Int
 edges:List Edg
structure Gr.Ok(G:Gr):Prop where
 size:G.labels.length<=4096
 esize:G.edges.length<=16384
 lab:∀l∈G.labels,0<=l/\l<=255
 edge:∀e∈G.edges,0<=e.a/\e.a<e.b/\e.b<G.labels.length
 sorted:BX G.edges
def Bt(l:Int):Bool:=decide (l<0)||decide (255<l)
def GF(n:Nat)(seen:List Edg)(e:Edg):Int:=
 if min e.a e.b<0\/(n:Int)<=max e.a e.b then 3 else if e.a=e.b then 1 else if turn e∈seen then 4 else 0
def Cp(n:Nat)(edges:List Edg)(i:Nat):Int:=match edges[i]? with
 |some e=>GF n ((edges.take i).map turn) e
 |none=>0
def De(labels:List Int)(edges:List Edg):Option (Int×Int×Bool):=
 if 4096<labels.length\/16384<edges.length then some (6,0,false)
 else match labels.findIdx? Bt with
  |some v=>some (3,(v:Int),false)
  |
   none=>match(List.range edges.length).find? (λi=>decide (Cp labels.length edges i≠0))with
   |some i=>some (Cp labels.length edges i,(i:Int),true)
   |none=>none
theorem Gn {labels:List Int} {edges:List Edg}(h:4096<labels.length\/16384<edges.length):De labels edges=some (6,0,false):=by
 unfold De;rw[if_pos h]
theorem Gp {labels:List Int} {edges:List Edg}(h:¬(4096<labels.length\/16384<edges.length)) {v:Nat} {l:Int}(hv:labels[v]? =some l)(hb:Bt l=true)(hn:∀x∈labels.take v,Bt x=false):De labels edges=some (3,(v:Int),false):=by
 unfold De
 rw[if_neg h]
 have:labels.findIdx? Bt=some v:=by
  rw[AJ]
  obtain⟨h1,h2⟩:=Ad.1 hv
  refine⟨h1,by rw[h2];exact hb,λj hj=>?_⟩
  have:=hn labels[j] (AU.2 ⟨j,by omega,rfl⟩)
  simpa using this
 rw[this]
theorem DP {labels:List Int} {edges:List Edg}(h:¬(4096<labels.length\/16384<edges.length))(hl:∀x∈labels,Bt x=false) {i:Nat}(hi:i<edges.length)(hb:Cp labels.length edges i≠0)(hn:∀j,j<i->Cp labels.length edges j=0):De labels edges=some (Cp labels.length edges i,(i:Int),true):=by
 unfold De
 rw[if_neg h]
 have h1:labels.findIdx? Bt=none:=by
  rw[AK];exact hl
 have h2:(List.range edges.length).find? (λi=>decide (Cp labels.length edges i≠0))=some i:=by
  rw[List.find?_range_eq_some]
  refine⟨by simpa using hb,by simpa using hi,λj hj=>by simpa using hn j hj⟩
 rw[h1,h2]
theorem GV {labels:List Int} {edges:List Edg}(h:¬(4096<labels.length\/16384<edges.length))(hl:∀x∈labels,Bt x=false)(hn:∀j,j<edges.length->Cp labels.length edges j=0):De labels edges=none:=by
 unfold De
 rw[if_neg h]
 have h1:labels.findIdx? Bt=none:=by
  rw[AK];exact hl
 have h2:(List.range edges.length).find? (λi=>decide (Cp labels.length edges i≠0))=none:=by
  rw[List.find?_range_eq_none]
  intro j hj
  simpa using hn j hj
 rw[h1,h2]
theorem V1 {n:Nat} {edges:List Edg}(hn:∀j,j<edges.length->Cp n edges j=0):(edges.map turn).Nodup/\∀e∈edges.map turn,0<=e.a/\e.a<e.b/\e.b<n:=by
 have key:∀k,k<=edges.length->((edges.take k).map turn).Nodup/\∀e∈(edges.take k).map turn,0<=e.a/\e.a<e.b/\e.b<n:=by
  intro k
  induction k with
  |zero=>intro _;simp
  |
   succ k ih=>
   intro hk
   obtain⟨h1,h2⟩:=ih (by omega)
   have he:edges[k]? =some edges[k]:=Ab (by omega)
   generalize edges[k]=e at he
   have hc:=hn k (by omega)
   unfold Cp at hc
   rw[he]at hc
   simp only[GF]at hc
   split at hc
   ·omega
   ·split at hc
    ·omega
    ·split at hc
     ·omega
     ·rename_i g1 g2 g3
      rw[A2,he]
      simp only[Option.toList,AF,Ap,B4]
      refine⟨?_,?_⟩
      ·rw[D5]
       exact⟨h1,by simp,λa ha b hb e'=>by simp at hb;subst hb;subst e';exact g3 ha⟩
      ·intro x hx
       rcases Ag.1 hx with hx|hx
       ·exact h2 x hx
       ·simp at hx
        subst hx
        simp only[turn]
        omega
 have:=key edges.length (Av _)
 rwa [Dr]at this
theorem ZT {labels:List Int} {edges:List Edg}(h:De labels edges=none):labels.length<=4096/\edges.length<=16384/\(∀x∈labels,Bt x=false)/\(edges.map turn).Nodup/\∀e∈edges.map turn,0<=e.a/\e.a<e.b/\e.b<labels.length:=by
 unfold De at h
 split at h
 ·cases h
 ·rename_i h0
  split at h
  ·cases h
  ·rename_i h1
   split at h
   ·cases h
   ·rename_i h2
    rw[List.find?_range_eq_none]at h2
    have h3:=V1 (n:=labels.length) (edges:=edges) (λj hj=>by have:=h2 j hj;simpa using this)
    exact⟨by omega,by omega,AK.1 h1,h3.1,h3.2⟩
theorem gZ {labels:List Int} {edges E:List Edg}(h:De labels edges=none)(hp:E.Perm (edges.map turn))(hs:E.Pairwise (λx y=>¬BW y x<0)):Gr.Ok ⟨labels,E⟩:=by
 obtain⟨h1,h2,h3,h4,h5⟩:=ZT h
 refine⟨h1,by simp only;rw[hp.length_eq];simpa using h2,λl hl=>?_,λe he=>h5 e (hp.mem_iff.1 he),JL (hp.nodup_iff.2 h4) hs⟩
 have:=h3 l hl
 simp[Bt]at this
 omega
end Go.Gr
end
