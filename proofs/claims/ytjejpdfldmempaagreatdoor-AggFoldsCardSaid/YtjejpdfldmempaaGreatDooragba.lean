/- Merged: Afm Afl Aff Ldw Ldv. -/
import Derived.Test.YtjejpdfldmempaaGreatDooragaz
import Derived.Test.YtjejpdfldmempaaGreatDooragar
import Derived.Test.YtjejpdfldmempaaGreatDooragas
import Derived.Test.YtjejpdfldmempaaGreatDooragak
import Derived.Test.YtjejpdfldmempaaGreatDoorCards
import Derived.Test.YtjejpdfldmempaaGreatDoorTie
import Derived.WalkKit
import Derived.ProofKit
import Derived.OpenShut
import Derived.ChangeMaps5
import Derived.ChangeSame
import Derived.SizedLaws
import Derived.Deep.DeepHandedRow
import Derived.Lib.LaidTab
import Derived.LaidHandle
import Derived.Carry
import Derived.Stop.LaidErr
import Derived.Test.YtjejpdfldmempaaGreatDooragax
section
namespace Go.Proofs.YtjejpdfldmempaaGreatDoor
open Go.Sx Go.RowKit Go.Reg Go.Gr
set_option maxRecDepth 100000
theorem KL:Pure C1 70 [.list 1 [.nili,.nili]] (λy=>y=.nili):=by
 refine CI Tryz.func70 Tryz.ntmps70 [] [] ?_
 (conv=>whnf)
 ((conv=>whnf);repeat' ((first|refine odw ?_|refine nx ?_|refine AX (λ_=>?_) (λ_=>?_))<;>conv=>whnf))
 refine BK (ι:=Nat) (λi=>i<=2) (λi=>[(7,.d (.int .i64 i)),(6,.d (.int .i64 2)),(5,.d (.list 1 [.nili,.nili]))]) (λ_=>[]) (λi=>2-i) 0 (λ_=>rfl) (AA _) (.refl _ _) ⟨rfl,rfl,rfl,trivial⟩ trivial ?_
 intro i hi
 refine Fw [] [] ?_
 by_cases hlt:i<2
 ·have hxd:([.nili,.nili]:List Da)[i]? =some .nili:=by
   match i,hlt with
   |0,_=>rfl
   |1,_=>rfl
  (conv=>whnf)
  (repeat' ((first|refine A6 ?_ ?_|refine YV hxd rfl ?_|refine nx ?_|refine AX (λ_=>?_) (λ_=>?_)|exact Bj)<;>conv=>whnf))
  exact⟨i+1,_,_,hlt,.refl _ _,⟨rfl,rfl,rfl,trivial⟩,trivial,by omega⟩
 ·((conv=>whnf);repeat' ((first|refine odw ?_|refine nx ?_|refine AX (λ_=>?_) (λ_=>?_))<;>conv=>whnf))
  exact rfl
def s2(m:List (ByteArray×RowV))(X:List (Value×Da)):Sg:=[(920,.cells 106 [.own 921]),(921,(Cy En m X).own)]
def Rw:List (Nat×Plan):=[]
def Wc:List FuncId:=[]
theorem SM:BA Tryz.prog Wc Rw (Tryz.f20.body.getD .skip)=true:=by kernel_rfl
theorem Se(vs:Array Value)(w:World):(callFunc 20 vs).run C1.P w=.ok (.enter 20 vs) w:=by kernel_rfl
theorem Vq(l r:List (Pt×Int))(m m2:List (ByteArray×RowV))(X X2:List (Value×Da))(ht:Ew l m)(hl:Dz l)(ht2:Ew r m2)(hr:Dz r)(_hsum:CL l+CL r<=4611686018427387000)(_hlen:l.length+r.length<=50000):
  BH C3 20 [.own 900,.own 920] (sT m X++s2 m2 X2) [900,920] (λd σ=>∃z:List (ByteArray×RowV)×List (Value×Da),d=.d .nili/\σ=sT z.1 z.2++s2 m2 []/\Ew (BB B9 id (BB B9 id [] l) r) z.1):=by
 have hr1:=Fi l m X ht (by have:=hl.2.2;omega) (E4 hl)
 have hr2:=Fi r m2 X2 ht2 (by have:=hr.2.2;omega) (E4 hr)
 have Eh:∀p,Dr p=none->Dr (id p)=none/\Pure C1 71 [Fv p] (λy=>y=Fv (id p)):=λp hp=>⟨hp,ML p⟩
 have ha1:=MR 71 id Eh [] l [] [] Fj D6 .nil hl
 have hA:=Ir (u:=id) (λ_ h=>h) D6 hl .nil (by have:=hl.2.1;have:CL ([]:List (Pt×Int))=0:=rfl;omega) (by have:=hl.2.2;simp only[Bh];omega)
 have ha2:=λz1 z2 h=>MR 71 id Eh (BB B9 id [] l) r z1 z2 h hA.1 hA.2 hr
 have hff:=Pure.up3 KL
 refine D9 Dc (pl:=Rw) (G:=Wc) Tryz.func20 rfl Tryz.ntmps20 Se SM (by simp) 999 rfl ?_
 intro vs
 (conv=>whnf)
 ((conv=>whnf);repeat' ((first|refine odw ?_|refine nx ?_|refine AX (λ_=>?_) (λ_=>?_))<;>conv=>whnf))
 refine Bm [(920,900),(921,901)] [920,921] hr2 rfl rfl rfl rfl rfl rfl rfl ?_
 (conv=>whnf)
 ((conv=>whnf);repeat' ((first|refine odw ?_|refine nx ?_|refine AX (λ_=>?_) (λ_=>?_))<;>conv=>whnf))
 refine Bm [(940,900),(941,901)] [] Gz rfl rfl rfl rfl rfl rfl rfl ?_
 (conv=>whnf)
 ((conv=>whnf);repeat' ((first|refine odw ?_|refine nx ?_|refine AX (λ_=>?_) (λ_=>?_))<;>conv=>whnf))
 refine Bm [(911,910)] [900,901] hr1 rfl rfl rfl rfl rfl rfl rfl ?_
 (conv=>whnf)
 (repeat' ((first|refine A6 ?_ ?_|refine CG 911 rfl ?_|refine nx ?_|refine AX (λ_=>?_) (λ_=>?_)|exact Bj)<;>conv=>whnf))
 refine BM [(940,900),(941,901)] [940,941] ha1 (λd σ h=>h) rfl rfl rfl rfl rfl rfl (λ_=>rfl) ?_
 rintro⟨m3,X3⟩ hT3
 have ha2:=ha2 m3 X3 hT3
 (conv=>whnf)
 (repeat' ((first|refine A6 ?_ ?_|refine CG 910 rfl ?_|refine nx ?_|refine AX (λ_=>?_) (λ_=>?_)|exact Bj)<;>conv=>whnf))
 refine BM [(940,900),(941,901)] [940,941] ha2 (λd σ h=>h) rfl rfl rfl rfl rfl rfl (λ_=>rfl) ?_
 rintro⟨m4,X4⟩ hT4
 (conv=>whnf)
 (repeat' ((first|refine A6 ?_ ?_|refine CG 25 rfl ?_|refine A8 rfl hff ?_|refine nx ?_|refine AX (λ_=>?_) (λ_=>?_)|exact Bj)<;>conv=>whnf))
 exact⟨_,_,[(941,901)],[(900,.cells 106 [.own 941]),(941,(Cy En m4 X4).own),(920,.cells 106 [.own 921]),(921,(Cy En m2 []).own)],.lo (.refl _ _),rfl,⟨rfl,rfl,rfl,rfl,trivial⟩,rfl,(m4,X4),rfl,rfl,hT4⟩
theorem T9(l r:List (Pt×Int))(m m2:List (ByteArray×RowV))(X X2:List (Value×Da))(ht:Ew l m)(hl:Dz l)(ht2:Ew r m2)(hr:Dz r)(_hsum:CL l+CL r<=4611686018427387000)(_hlen:l.length+r.length<=50000):
  BH C3 20 [.own 900,.own 920] (s2 m2 X2++sT m X) [900,920] (λd σ=>∃z:List (ByteArray×RowV)×List (Value×Da),d=.d .nili/\σ=sT z.1 z.2++s2 m2 []/\Ew (BB B9 id (BB B9 id [] l) r) z.1):=by
 have hr1:=Fi l m X ht (by have:=hl.2.2;omega) (E4 hl)
 have hr2:=Fi r m2 X2 ht2 (by have:=hr.2.2;omega) (E4 hr)
 have Eh:∀p,Dr p=none->Dr (id p)=none/\Pure C1 71 [Fv p] (λy=>y=Fv (id p)):=λp hp=>⟨hp,ML p⟩
 have ha1:=MR 71 id Eh [] l [] [] Fj D6 .nil hl
 have hA:=Ir (u:=id) (λ_ h=>h) D6 hl .nil (by have:=hl.2.1;have:CL ([]:List (Pt×Int))=0:=rfl;omega) (by have:=hl.2.2;simp only[Bh];omega)
 have ha2:=λz1 z2 h=>MR 71 id Eh (BB B9 id [] l) r z1 z2 h hA.1 hA.2 hr
 have hff:=Pure.up3 KL
 refine D9 Dc (pl:=Rw) (G:=Wc) Tryz.func20 rfl Tryz.ntmps20 Se SM (by simp) 999 rfl ?_
 intro vs
 (conv=>whnf)
 ((conv=>whnf);repeat' ((first|refine odw ?_|refine nx ?_|refine AX (λ_=>?_) (λ_=>?_))<;>conv=>whnf))
 refine Bm [(920,900),(921,901)] [920,921] hr2 rfl rfl rfl rfl rfl rfl rfl ?_
 (conv=>whnf)
 ((conv=>whnf);repeat' ((first|refine odw ?_|refine nx ?_|refine AX (λ_=>?_) (λ_=>?_))<;>conv=>whnf))
 refine Bm [(940,900),(941,901)] [] Gz rfl rfl rfl rfl rfl rfl rfl ?_
 (conv=>whnf)
 ((conv=>whnf);repeat' ((first|refine odw ?_|refine nx ?_|refine AX (λ_=>?_) (λ_=>?_))<;>conv=>whnf))
 refine Bm [(911,910)] [900,901] hr1 rfl rfl rfl rfl rfl rfl rfl ?_
 (conv=>whnf)
 (repeat' ((first|refine A6 ?_ ?_|refine CG 911 rfl ?_|refine nx ?_|refine AX (λ_=>?_) (λ_=>?_)|exact Bj)<;>conv=>whnf))
 refine BM [(940,900),(941,901)] [940,941] ha1 (λd σ h=>h) rfl rfl rfl rfl rfl rfl (λ_=>rfl) ?_
 rintro⟨m3,X3⟩ hT3
 have ha2:=ha2 m3 X3 hT3
 (conv=>whnf)
 (repeat' ((first|refine A6 ?_ ?_|refine CG 910 rfl ?_|refine nx ?_|refine AX (λ_=>?_) (λ_=>?_)|exact Bj)<;>conv=>whnf))
 refine BM [(940,900),(941,901)] [940,941] ha2 (λd σ h=>h) rfl rfl rfl rfl rfl rfl (λ_=>rfl) ?_
 rintro⟨m4,X4⟩ hT4
 (conv=>whnf)
 (repeat' ((first|refine A6 ?_ ?_|refine CG 25 rfl ?_|refine A8 rfl hff ?_|refine nx ?_|refine AX (λ_=>?_) (λ_=>?_)|exact Bj)<;>conv=>whnf))
 exact⟨_,_,[(941,901)],[(900,.cells 106 [.own 941]),(941,(Cy En m4 X4).own),(920,.cells 106 [.own 921]),(921,(Cy En m2 []).own)],.lo (.refl _ _),rfl,⟨rfl,rfl,rfl,rfl,trivial⟩,rfl,(m4,X4),rfl,rfl,hT4⟩
def KC(x:Pt×Int):Bool:=!(decide (4<x.1.labels.length)&&decide (x.1.labels.length<9)||decide (12<x.1.labels.length)||decide (20<x.1.edges.length))
def I6(l:List (Pt×Int)):Bool:=l.all KC&&decide (l.length<=12)
theorem TK(l:List (Pt×Int))(hm:l.length<=9223372036854775807):Pure C1 10 [RI l] (λy=>y=.bool (I6 l)):=by
 have hlm:(l.map Dl).length=l.length:=Ac _
 refine CI Tryz.func10 Tryz.ntmps10 [] [] ?_
 (conv=>whnf)
 refine BK (ι:=Nat) (λi=>i<=l.length/\(l.take i).all KC=true) (λi=>[(3,.d (.int .i64 i)),(0,.d (RI l))]) (λ_=>[]) (λi=>l.length-i) 0 (λ_=>rfl) ⟨AA _,rfl⟩ (.refl _ _) ⟨rfl,rfl,trivial⟩ trivial ?_
 rintro i ⟨hi,hall⟩
 refine Fw [] [] ?_
 by_cases hlt:i<l.length
 ·have hx:l[i]? =some l[i]:=Ab hlt
  have hxm:=AY hx
  have htk:l.take (i+1)=l.take i++[l[i]]:=by rw[Bc,hx];rfl
  generalize l[i]=x at hx hxm htk
  have hxd:(l.map Dl)[i]? =some (.agg [.agg [D1 x.1.labels,Ip x.1.edges],.int .i64 x.2]):=by rw[Al,hx];rfl
  have hll:(x.1.labels.map dI).length=x.1.labels.length:=Ac _
  have hel:(x.1.edges.map dE).length=x.1.edges.length:=Ac _
  cases hfx:KC x with
  |
   true=>
   have hf:¬(12<x.1.labels.length)/\¬(20<x.1.edges.length)/\¬(4<x.1.labels.length/\x.1.labels.length<9):=by
    unfold KC at hfx
    simp at hfx
    omega
   have hnext:(l.take (i+1)).all KC=true:=by rw[htk,List.all_append,hall];simp[hfx]
   by_cases h4:4<x.1.labels.length
   ·(conv=>whnf)
    (repeat' ((first|refine A6 ?_ ?_|refine Bq hxd rfl ?_|refine nx ?_|refine AX (λ_=>?_) (λ_=>?_)|exact Bj)<;>conv=>whnf))
    exact⟨i+1,_,_,⟨hlt,hnext⟩,.refl _ _,⟨rfl,rfl,trivial⟩,trivial,by omega⟩
   ·(conv=>whnf)
    (repeat' ((first|refine A6 ?_ ?_|refine Bq hxd rfl ?_|refine nx ?_|refine AX (λ_=>?_) (λ_=>?_)|exact Bj)<;>conv=>whnf))
    exact⟨i+1,_,_,⟨hlt,hnext⟩,.refl _ _,⟨rfl,rfl,trivial⟩,trivial,by omega⟩
  |
   false=>
   have hno:I6 l=false:=by
    unfold I6
    rw[show l.all KC=false from by
     rw[List.all_eq_false]
     exact⟨x,hxm,by simp[hfx]⟩]
    rfl
   rw[hno]
   have hf:(4<x.1.labels.length/\x.1.labels.length<9)\/12<x.1.labels.length\/20<x.1.edges.length:=by
    unfold KC at hfx
    simp at hfx
    omega
   by_cases h4:4<x.1.labels.length
   ·by_cases h9:x.1.labels.length<9
    ·(conv=>whnf)
     (repeat' ((first|refine A6 ?_ ?_|refine Bq hxd rfl ?_|refine nx ?_|refine AX (λ_=>?_) (λ_=>?_)|exact Bj)<;>conv=>whnf))
     exact rfl
    ·by_cases h12:12<x.1.labels.length
     ·(conv=>whnf)
      (repeat' ((first|refine A6 ?_ ?_|refine Bq hxd rfl ?_|refine nx ?_|refine AX (λ_=>?_) (λ_=>?_)|exact Bj)<;>conv=>whnf))
      exact rfl
     ·(conv=>whnf)
      (repeat' ((first|refine A6 ?_ ?_|refine Bq hxd rfl ?_|refine nx ?_|refine AX (λ_=>?_) (λ_=>?_)|exact Bj)<;>conv=>whnf))
      exact rfl
   ·(conv=>whnf)
    (repeat' ((first|refine A6 ?_ ?_|refine Bq hxd rfl ?_|refine nx ?_|refine AX (λ_=>?_) (λ_=>?_)|exact Bj)<;>conv=>whnf))
    exact rfl
 ·have e:l.take i=l:=AN (by omega)
  rw[e]at hall
  have hfb:I6 l=decide (l.length<=12):=by unfold I6;rw[hall];rfl
  rw[hfb]
  by_cases h12:l.length<=12
  ·((conv=>whnf);repeat' ((first|refine odw ?_|refine nx ?_|refine AX (λ_=>?_) (λ_=>?_))<;>conv=>whnf))
   rw[decide_eq_true h12]
   exact congrArg Da.bool (decide_eq_true (by rw[hlm];omega))
  ·((conv=>whnf);repeat' ((first|refine odw ?_|refine nx ?_|refine AX (λ_=>?_) (λ_=>?_))<;>conv=>whnf))
   rw[decide_eq_false h12]
   exact congrArg Da.bool (decide_eq_false (by rw[hlm];omega))
end Go.Proofs.YtjejpdfldmempaaGreatDoor
end
section
namespace Go.Proofs.YtjejpdfldmempaaGreatDoor
open Go.Sx Go.RowKit Go.Reg Go.Gr
set_option maxRecDepth 100000
def OJ:ByteArray:=⟨#[110,117,109,98,101,114]⟩
theorem Wr(m:List (ByteArray×RowV))(X:List (Value×Da)):
  BH C3 16 [.own 900,.d Zq,.d (.int .i64 (-1))] (sT m X) [900] (λd σ=>d=.d (dF 1 0 OJ)/\σ=sT m X):=by
 have hri:Pure C1 13 [Zq] (λy=>y=.nili):=by
  have:=DA ⟨[],[]⟩ (by decide) (by decide)
  rw[Ed (by rfl)]at this
  exact Sx.Pure.lax (.cons (.agg (.cons (.nils 1) (.cons (.nils 2) .nil))) .nil) this
 have hri:=Pure.up3 hri
 have hn:=Pure.up3 (Eg 1 0 OJ)
 refine D9 Dc (pl:=Lh) (G:=Pg) Tryz.func16 rfl Tryz.ntmps16 LH MA (by simp) 999 rfl ?_
 intro vs
 (conv=>whnf)
 (repeat' ((first|refine A6 ?_ ?_|refine A8 rfl hri ?_|refine A8 rfl hn ?_|refine nx ?_|refine AX (λ_=>?_) (λ_=>?_)|exact Bj)<;>conv=>whnf))
 exact⟨_,_,[],sT m X,.lo (.refl _ _),rfl,⟨rfl,rfl,trivial⟩,rfl,rfl,rfl⟩
def IL:Pt:=⟨[0,1],[⟨0,1⟩]⟩
def TL:Pt:=⟨[1,0],[⟨0,1⟩]⟩
theorem WT:BC TL=BC IL:=by
 have h:=NR (p:=IL) (n:=2) (show PtOk 2 IL from MN (p:=IL) (by decide)) (o:=[1,0]) ⟨rfl,by decide,by decide⟩
 rw[<-h];rfl
theorem SG:BB B9 BC [] (BB B9 id [] [(IL,2),(TL,1)])=[(BC IL,3)]:=by
 rw[Gu EX]
 show BS B9 [(BC IL,2)] (BC TL) 1=_
 rw[WT,C5 (y:=(BC IL,2)) ((EX.eq0 _ _).2 rfl)];rfl
theorem RN:Pure C3 9 [] (λy=>y=.bool true):=by
 have hps:Dz [(IL,2),(TL,1)]:=⟨λx hx=>(by
  rcases Ad.1 hx with rfl|hx
  ·exact⟨by decide,by decide⟩
  ·rw[A7.1 hx];exact⟨by decide,by decide⟩),by decide,by decide⟩
 have hok:=Ir (u:=id) (λ_ h=>h) D6 hps .nil (by decide) (by decide)
 have hF:Dz [(BC IL,3)]:=by
  rw[<-SG]
  exact(Ir (u:=BC) (λ_ h=>It h) D6 hok.1 .nil (by decide) (by have:=hok.1.2.2;simp only[Bh];omega)).1
 have h1:=HV [] (p:=IL) (n:=2) Fj (by decide) (by decide) (λx hx=>(by cases hx)) (by decide)
 refine N7 Tryz.func9 Tryz.ntmps9 [] [] ?_
 (conv=>whnf)
 ((conv=>whnf);repeat' ((first|refine odw ?_|refine nx ?_|refine AX (λ_=>?_) (λ_=>?_))<;>conv=>whnf))
 refine Bm [] [] Gz rfl rfl rfl rfl rfl rfl rfl ?_
 (conv=>whnf)
 (repeat' ((first|refine A6 ?_ ?_|refine CG 9 rfl ?_|refine CG 11 rfl ?_|refine NZ rfl ?_|refine nx ?_|refine AX (λ_=>?_) (λ_=>?_)|exact Bj)<;>conv=>whnf))
 refine BM [] [900,901] h1 (λd σ h=>h) rfl rfl rfl rfl rfl rfl (λ_=>rfl) ?_
 rintro⟨m1,X1⟩ hT1
 have h2:=HV X1 (p:=TL) (n:=1) hT1 (by decide) (by decide) (by decide) (by decide)
 (conv=>whnf)
 (repeat' ((first|refine A6 ?_ ?_|refine CG 15 rfl ?_|refine CG 17 rfl ?_|refine NZ rfl ?_|refine nx ?_|refine AX (λ_=>?_) (λ_=>?_)|exact Bj)<;>conv=>whnf))
 refine BM [] [900,901] h2 (λd σ h=>h) rfl rfl rfl rfl rfl rfl (λ_=>rfl) ?_
 rintro⟨m2,X2⟩ hT2
 have h3:=Jw (BB B9 id [] [(IL,2),(TL,1)]) m2 X2 hT2 hok.1
 rw[SG]at h3
 (conv=>whnf)
 ((conv=>whnf);repeat' ((first|refine odw ?_|refine nx ?_|refine AX (λ_=>?_) (λ_=>?_))<;>conv=>whnf))
 refine BM [] [900,901] h3 (λd σ h=>h) rfl rfl rfl rfl rfl rfl (λ_=>rfl) ?_
 rintro⟨m3,X3⟩ hT3
 have h4:=Fi [(BC IL,3)] m3 X3 hT3 (by decide) (E4 hF)
 have h5:=Wr m2 []
 have h6:=Pure.up3 (TR 1 0 OJ)
 (conv=>whnf)
 ((conv=>whnf);repeat' ((first|refine odw ?_|refine nx ?_|refine AX (λ_=>?_) (λ_=>?_))<;>conv=>whnf))
 refine Bm [(920,900),(921,901)] [920,921] h4 rfl rfl rfl rfl rfl rfl rfl ?_
 (conv=>whnf)
 (repeat' ((first|refine A6 ?_ ?_|refine V9 (i:=0) rfl (by decide) ?_|refine V8 (show(List.map Dl [(BC IL,3)])[0]? =some (Dl (BC IL,3))from rfl) ?_|refine nx ?_|refine AX (λ_=>?_) (λ_=>?_)|exact Bj)<;>conv=>whnf))
 refine Bm [] [900,901] h5 rfl rfl rfl rfl rfl rfl rfl ?_
 (conv=>whnf)
 (repeat' ((first|refine A6 ?_ ?_|refine A8 rfl h6 ?_|refine nx ?_|refine AX (λ_=>?_) (λ_=>?_)|exact Bj)<;>conv=>whnf))
 trace_state
 exact rfl
end Go.Proofs.YtjejpdfldmempaaGreatDoor
end
section
namespace Go.Proofs.YtjejpdfldmempaaGreatDoor
open Go.Sx Go.RowKit Go.Reg Go.Gr
set_option maxRecDepth 100000
theorem M0(l:List (Pt×Int)):Pure C1 10 [RI l] (λy=>y=.bool (I6 l)):=by
 refine Sx.Pure.assume (P:=l.length<=9223372036854775807) (λO w us hr=>?_) λhm=>TK l hm
 obtain⟨v,vs,rfl,h1,_⟩:=D7 hr
 have:=WA h1
 rw[Ac]at this;unfold maxLen at this;omega
theorem LJ {p:Pt}(h:Dr p≠none):∃c i s,FL p=dF c i s:=by
 unfold Dr at h
 unfold FL
 cases hl:Iw p.labels with
 |some x=>exact⟨_,_,_,rfl⟩
 |
  none=>
  rw[hl]at h
  cases he:RG p.labels.length p.edges with
  |none=>exact absurd he h
  |some x=>exact⟨_,_,_,rfl⟩
def LZ(x:Pt×Int):Bool:=(Dr x.1).isNone&&decide (0<=x.2)&&decide (x.2<=1099511627776)
theorem OI {x:Pt×Int}(h:LZ x=true):Dr x.1=none/\0<=x.2/\x.2<=1099511627776:=by
 unfold LZ at h
 simp at h
 exact⟨h.1.1,h.1.2,h.2⟩
theorem Vh {x:Pt×Int}(h:LZ x=false):x.2<0\/(0<=x.2/\1099511627776<x.2)\/(0<=x.2/\x.2<=1099511627776/\Dr x.1≠none):=by
 unfold LZ at h
 by_cases h1:0<=x.2
 ·by_cases h2:x.2<=1099511627776
  ·refine .inr (.inr ⟨h1,h2,λe=>?_⟩)
   rw[e]at h;simp[h1,h2]at h
  ·exact .inr (.inl ⟨h1,by omega⟩)
 ·exact .inl (by omega)
theorem IJ {l:List (Pt×Int)} {i:Nat} {x:Pt×Int}(hx:l[i]? =some x)(h:LZ x=true):(l.take (i+1)).filter LZ=(l.take i).filter LZ++[x]:=by
 rw[Bc,hx,List.filter_append];simp[h]
theorem JN {l:List (Pt×Int)} {i:Nat} {x:Pt×Int}(hx:l[i]? =some x)(h:LZ x=false):(l.take (i+1)).filter LZ=(l.take i).filter LZ:=by
 rw[Bc,hx,List.filter_append];simp[h]
theorem Ot:∀{l:List (Pt×Int)},(∀x∈l,x.2<=1099511627776)->CL l<=l.length*1099511627776
 |[],_=>by simp[CL]
 |
  x::l,h=>by
  have h1:=h x (.head _)
  have h2:=Ot (l:=l) λy hy=>h y (.tail _ hy)
  have:CL (x::l)=x.2+CL l:=rfl
  rw[this,Au,Int.natCast_add];omega
def MY(l:List (Pt×Int)):Prop:=(∀x∈l,Dr x.1=none/\0<=x.2/\x.2<=1099511627776)/\l.length<=12
theorem MY.ok {l:List (Pt×Int)}(h:MY l):Dz l:=⟨λx hx=>⟨(h.1 x hx).1,(h.1 x hx).2.1⟩,by have:=Ot λx hx=>(h.1 x hx).2.2;have:=h.2;omega,by have:=h.2;omega⟩
theorem MY.sum {l:List (Pt×Int)}(h:MY l):0<=CL l/\CL l<=13194139533312:=⟨(Ja λx hx=>(h.1 x hx).2.1).1,by have:=Ot λx hx=>(h.1 x hx).2.2;have:=h.2;omega⟩
theorem Ln {l:List (Pt×Int)}(h:l.length<=12):MY (l.filter LZ):=⟨λ_x hx=>OI (Bg.1 hx).2,CM (List.length_filter_le _ _) h⟩
theorem Io {l:List (Pt×Int)}(h:MY l)(u:Pt->Pt)(hu:∀p,Dr p=none->Dr (u p)=none):Dz (BB B9 u [] l)/\FJ B9 (BB B9 u [] l)/\CL (BB B9 u [] l)=CL l/\(∀x∈BB B9 u [] l,0<=x.2)/\(BB B9 u [] l).length<=12:=by
 have hs:=h.sum
 have h0:CL ([]:List (Pt×Int))=0:=rfl
 obtain⟨h1,h2⟩:=Ir hu D6 h.ok .nil (by omega) (by have:=h.2;simp only[Bh];omega)
 obtain⟨t1,t2,t3,_⟩:=Kr EX u (λy hy=>(h.ok.1 y hy).2) (s:=[]) (λy hy=>(by cases hy)) .nil
 exact⟨h1,h2,by omega,t2,by have:=h.2;simp only[Bh]at t3;omega⟩
theorem SF {l r:List (Pt×Int)}(h:MY l)(h2:MY r)(u:Pt->Pt)(hu:∀p,Dr p=none->Dr (u p)=none):Dz (BB B9 u [] (l++r)):=by
 rw[J3]
 obtain⟨k1,k2,k3,_,k5⟩:=Io h u hu
 have s1:=h.sum
 have s2:=h2.sum
 exact(Ir hu k1 h2.ok k2 (by omega) (by have:=h2.2;omega)).1
theorem RA(ps qs:List (Pt×Int)):BB B9 id (BB B9 id [] (BB B9 BC [] ps)) (BB B9 BC [] qs)=BB B9 BC [] (ps++qs):=by
 rw[Gu EX id BC [] ps,Gu EX id BC _ qs,J3];rfl
theorem TA(ps qs:List (Pt×Int)):BB B9 id (BB B9 id [] (BB B9 id [] ps)) (BB B9 id [] qs)=BB B9 id [] (ps++qs):=by
 rw[Gu EX id id [] ps,Gu EX id id _ qs,J3];rfl
theorem SE(ps:List (Pt×Int)):BB B9 BC [] (BB B9 id [] ps)=BB B9 BC [] ps:=by
 rw[Gu EX BC id [] ps];rfl
def OD:List (Nat×Plan):=[(19,.leaf [0,1,0,0,0,0,1,3,0,0,0,1,0,0,0,0,1,3,0,0] [0,2,3,4,5,1,6,7,8,9,10,12,13,14,15,11,16,17,18,19] [0,0,0,0,12,28,60,127,255,511,1023,1023,1023,1023,13311,29695,62463,131071,262143,524287]),
 (25,.leaf [0,0,0,0,1,0,0,0,0,0,0,1,0,0,0,1,3,0,0,0,0,1,0,0,0,0,1,3,0,0] [0,1,2,3,4,5,6,7,8,9,10,11,12,13,14,15,16,17,18,19,20,22,23,24,25,21,26,27,28,29] [0,0,3,7,15,31,63,127,127,511,1023,2047,4095,8191,16383,32767,65535,131071,262143,524287,1048575,1048575,1048575,1048575,13631487,30408703,63963135,134217727,268435455,536870911])]
set_option maxHeartbeats 8000000 in
theorem TX(a b:List (Pt×Int))(t:Nat)(ht:t<=65535):Pure C3 3 [RI a,RI b,.int .u16 (t:Int)] (λy=>y=.bool true):=by
 have hal:=RN
 have hfa:=Pure.up3 (M0 a)
 have hfb:=Pure.up3 (M0 b)
 refine N7 Tryz.func3 Tryz.ntmps3 [] OD ?_
 cases hea:I6 a with
 |
  false=>
  rw[hea]at hfa
  (conv=>whnf)
  (repeat' ((first|refine A6 ?_ ?_|refine A8 rfl hal ?_|refine A8 rfl hfa ?_|refine nx ?_|refine AX (λ_=>?_) (λ_=>?_)|exact Bj)<;>conv=>whnf))
  exact rfl
 |true=>
 rw[hea]at hfa
 cases heb:I6 b with
 |
  false=>
  rw[heb]at hfb
  (conv=>whnf)
  (repeat' ((first|refine A6 ?_ ?_|refine A8 rfl hal ?_|refine A8 rfl hfa ?_|refine A8 rfl hfb ?_|refine nx ?_|refine AX (λ_=>?_) (λ_=>?_)|exact Bj)<;>conv=>whnf))
  exact rfl
 |true=>
 rw[heb]at hfb
 have fin:∀{l:List (Pt×Int)},I6 l=true->l.length<=12/\∀x∈l,x.1.labels.length<=12/\x.1.edges.length<=20:=λ{l} h=>by
  unfold I6 at h
  simp only[Aj,decide_eq_true_eq]at h
  refine⟨h.2,λx hx=>?_⟩
  have:=EA.1 h.1 x hx
  unfold KC at this
  simp at this
  omega
 obtain⟨hla,hea⟩:=fin hea
 obtain⟨hlb,heb⟩:=fin heb
 have hlma:(a.map Dl).length=a.length:=Ac _
 have hlmb:(b.map Dl).length=b.length:=Ac _
 (conv=>whnf)
 (repeat' ((first|refine A6 ?_ ?_|refine A8 rfl hal ?_|refine A8 rfl hfa ?_|refine A8 rfl hfb ?_|refine nx ?_|refine AX (λ_=>?_) (λ_=>?_)|exact Bj)<;>conv=>whnf))
 refine Bm [] [] Gz rfl rfl rfl rfl rfl rfl rfl ?_
 (conv=>whnf)
 ((conv=>whnf);repeat' ((first|refine odw ?_|refine nx ?_|refine AX (λ_=>?_) (λ_=>?_))<;>conv=>whnf))
 refine Bm [(922,900),(923,901)] [] Gz rfl rfl rfl rfl rfl rfl rfl ?_
 (conv=>whnf)
 ((conv=>whnf);repeat' ((first|refine odw ?_|refine nx ?_|refine AX (λ_=>?_) (λ_=>?_))<;>conv=>whnf))
 refine Bm [(940,900),(941,901)] [] Gz rfl rfl rfl rfl rfl rfl rfl ?_
 (conv=>whnf)
 ((conv=>whnf);repeat' ((first|refine odw ?_|refine nx ?_|refine AX (λ_=>?_) (λ_=>?_))<;>conv=>whnf))
 refine BK (ι:=Nat×List (Pt×Int)×(List (ByteArray×RowV)×List (Value×Da))×List (ByteArray×RowV)×List (Value×Da)) (λx=>x.1<=a.length/\(MY x.2.1/\x.2.1.map (λy=>(BC y.1,y.2))=((a.take x.1).filter LZ).map (λy=>(BC y.1,y.2)))/\Ew (BB B9 id [] ((a.take x.1).filter LZ)) x.2.2.1.1/\Ew (BB B9 id [] x.2.1) x.2.2.2.1)
  (λx=>[(10,.d (.int .i64 x.1)),(9,.own 940),(8,.own 922),(7,.own 900),(2,.d (.int .u16 (t:Int))),(1,.d (RI b)),(0,.d (RI a))]) (λx=>[(900,.cells 106 [.own 901]),(901,(Cy En x.2.2.1.1 x.2.2.1.2).own),(922,.cells 106 [.own 923]),(923,(Cy En [] []).own),(940,.cells 106 [.own 941]),(941,(Cy En x.2.2.2.1 x.2.2.2.2).own)])
  (λx=>a.length-x.1) (0,[],([],[]),[],[]) (λ_=>rfl) ⟨AA _,⟨⟨λx hx=>(by cases hx),AA _⟩,rfl⟩,Fj,Fj⟩ (.refl _ _) ⟨rfl,rfl,rfl,rfl,rfl,rfl,rfl,trivial⟩ ⟨rfl,rfl,rfl,rfl,rfl,rfl,trivial⟩ ?_
 rintro⟨i,zs,⟨mx,Xx⟩,mz,Xz⟩ ⟨hi,⟨hzf,hzm⟩,hTx,hTz⟩
 simp only at hi hzf hzm hTx hTz
 refine GX [] OD ?_
 by_cases hlt:i<a.length
 ·have hx:a[i]? =some a[i]:=Ab hlt
  have hxe:=hea _ (AY hx)
  generalize a[i]=x at hx hxe
  have hxd:(a.map Dl)[i]? =some (.agg [Fv x.1,.int .i64 x.2]):=by rw[Al,hx];rfl
  have hlp:=Pure.up3 (Mk x.1 (by omega))
  have hri:=Pure.up3 (DA x.1 (by omega) (by omega))
  cases hok:LZ x with
  |
   false=>
   have hT':Ew (BB B9 id [] ((a.take (i+1)).filter LZ)) mx:=by rw[JN hx hok];exact hTx
   have hzm':zs.map (λy=>(BC y.1,y.2))=((a.take (i+1)).filter LZ).map (λy=>(BC y.1,y.2)):=by rw[JN hx hok];exact hzm
   rcases Vh hok with h|⟨h,h2⟩|⟨h,h2,h3⟩
   ·(conv=>whnf)
    (repeat' ((first|refine A6 ?_ ?_|refine Bq hxd rfl ?_|refine A8 rfl hlp ?_|refine nx ?_|refine AX (λ_=>?_) (λ_=>?_)|exact Bj)<;>conv=>whnf))
    exact⟨(i+1,zs,(mx,Xx),mz,Xz),_,_,⟨hlt,⟨hzf,hzm'⟩,hT',hTz⟩,.refl _ _,⟨rfl,rfl,rfl,rfl,rfl,rfl,rfl,trivial⟩,⟨rfl,rfl,rfl,rfl,rfl,rfl,trivial⟩,by simp only;omega⟩
   ·(conv=>whnf)
    (repeat' ((first|refine A6 ?_ ?_|refine Bq hxd rfl ?_|refine A8 rfl hlp ?_|refine nx ?_|refine AX (λ_=>?_) (λ_=>?_)|exact Bj)<;>conv=>whnf))
    exact⟨(i+1,zs,(mx,Xx),mz,Xz),_,_,⟨hlt,⟨hzf,hzm'⟩,hT',hTz⟩,.refl _ _,⟨rfl,rfl,rfl,rfl,rfl,rfl,rfl,trivial⟩,⟨rfl,rfl,rfl,rfl,rfl,rfl,trivial⟩,by simp only;omega⟩
   ·obtain⟨c,k,s,hr2⟩:=LJ h3
    rw[hr2]at hri
    (conv=>whnf)
    (repeat' ((first|refine A6 ?_ ?_|refine Bq hxd rfl ?_|refine A8 rfl hlp ?_|refine A8 rfl hri ?_|refine nx ?_|refine AX (λ_=>?_) (λ_=>?_)|exact Bj)<;>conv=>whnf))
    exact⟨(i+1,zs,(mx,Xx),mz,Xz),_,_,⟨hlt,⟨hzf,hzm'⟩,hT',hTz⟩,.refl _ _,⟨rfl,rfl,rfl,rfl,rfl,rfl,rfl,trivial⟩,⟨rfl,rfl,rfl,rfl,rfl,rfl,trivial⟩,by simp only;omega⟩
  |
   true=>
   obtain⟨hp,h0,h40⟩:=OI hok
   rw[Ed hp]at hri
   have h8:=(Hp hp).1
   have hll:(x.1.labels.map dI).length=x.1.labels.length:=Ac _
   (conv=>whnf)
   (repeat' ((first|refine A6 ?_ ?_|refine Bq hxd rfl ?_|refine A8 rfl hlp ?_|refine A8 rfl hri ?_|refine nx ?_|refine AX (λ_=>?_) (λ_=>?_)|exact Bj)<;>conv=>whnf))
   have hfp:=M4 x.1.labels.length
   refine BK (ι:=Nat) (λk=>2<=k/\(k=2\/k<=x.1.labels.length+1)) (λk=>[(14,.d (.int .i64 k)),(13,.d (.int .i64 (DS (k-1):Nat))),(12,.d (.int .i64 (x.1.labels.map dI).length)),(11,.own 11),(10,.d (.int .i64 i)),(9,.own 940),(8,.own 922),(7,.own 900),(2,.d (.int .u16 (t:Int))),(1,.d (RI b)),(0,.d (RI a))]) (λ_=>[(900,.cells 106 [.own 901]),(901,(Cy En mx Xx).own),(922,.cells 106 [.own 923]),(923,(Cy En [] []).own),(940,.cells 106 [.own 941]),(941,(Cy En mz Xz).own),(11,.cells 31 [.d (D1 x.1.labels),.d (Ip x.1.edges)])]) (λk=>20-k) 2 (λ_=>rfl) ⟨Az _,.inl rfl⟩ (.refl _ _) ⟨rfl,rfl,rfl,rfl,rfl,rfl,rfl,rfl,rfl,rfl,rfl,trivial⟩ ⟨rfl,rfl,rfl,rfl,rfl,rfl,rfl,trivial⟩ ?_
   rintro k ⟨hk2,hkn⟩
   refine GX [] OD ?_
   by_cases hkl:k<=x.1.labels.length
   ·have hf8:=Lp k (by omega)
    have hmul:(DS (k-1):Int)*(k:Int)=(DS k:Nat):=by
     obtain⟨j,rfl⟩:∃j,k=j+1:=⟨k-1,by omega⟩
     rw[Nat.add_sub_cancel,Int.mul_comm,<-Int.natCast_mul];rfl
    (conv=>whnf)
    (repeat' ((first|refine A6 ?_ ?_|refine Yq (DS k) hmul (by omega) ?_|refine nx ?_|refine AX (λ_=>?_) (λ_=>?_)|exact Bj)<;>conv=>whnf))
    exact⟨k+1,_,_,⟨by omega,.inr (by omega)⟩,.refl _ _,⟨rfl,rfl,rfl,rfl,rfl,rfl,rfl,rfl,rfl,rfl,rfl,trivial⟩,⟨rfl,rfl,rfl,rfl,rfl,rfl,rfl,trivial⟩,by omega⟩
   have hfk:DS (k-1)=DS x.1.labels.length:=by
    rcases hkn with rfl|hkn
    ·have:x.1.labels.length=0\/x.1.labels.length=1:=by omega
     rcases this with h|h<;>rw[h]<;>rfl
    ·rw[show k-1=x.1.labels.length by omega]
   rw[hfk]
   have hrem:(t:Int).tmod (DS x.1.labels.length:Int)=((t % DS x.1.labels.length:Nat):Int):=by
    rw[Int.tmod_eq_emod_of_nonneg (by omega)];rfl
   have hpo:Sx.Pure C3 14 [.int .i64 (x.1.labels.map dI).length,.int .i64 ((t:Int).tmod (DS x.1.labels.length:Int))] (λy=>∃b,Bx (x.1.labels.map dI).length b/\y=.tuple [D1 b,.nili]):=by
    rw[hrem]
    exact Pure.up3 (PK (x.1.labels.map dI).length (t % DS x.1.labels.length) (by omega) (by rw[hll];exact Nat.mod_lt _ hfp))
   (conv=>whnf)
   ((conv=>whnf);repeat' ((first|refine odw ?_|refine nx ?_|refine AX (λ_=>?_) (λ_=>?_))<;>conv=>whnf))
   refine Gq rfl hpo ?_
   rintro y ⟨o,ho,rfl⟩
   rw[hll]at ho
   have htu:=Pure.up3 (VR hp ho)
   have hps:=Ln (l:=a.take i) (by rw[B5];omega)
   obtain⟨_,_,u3,u4,_⟩:=Io hps id (λ_ h=>h)
   have us:=hps.sum
   have zsm:=hzf.sum
   obtain⟨_,_,v3,v4,_⟩:=Io hzf id (λ_ h=>h)
   have had1:=HV Xx hTx hp h0 u4 (by omega)
   have had2:=HV Xz hTz (Kt hp ho) h0 v4 (by omega)
   have hzl:zs.length=((a.take i).filter LZ).length:=by have:=congrArg List.length hzm;simpa using this
   have hfl:((a.take i).filter LZ).length<=i:=CM (List.length_filter_le _ _) (by rw[B5];omega)
   (conv=>whnf)
   (repeat' ((first|refine A6 ?_ ?_|refine A8 rfl htu ?_|refine Bq hxd rfl ?_|refine nx ?_|refine AX (λ_=>?_) (λ_=>?_)|exact Bj)<;>conv=>whnf))
   refine BM [] [900,901] had1 (λd σ h=>h) rfl rfl rfl rfl rfl rfl (λ_=>rfl) ?_
   rintro⟨m1,X1⟩ hT1
   (conv=>whnf)
   (repeat' ((first|refine A6 ?_ ?_|refine Bq hxd rfl ?_|refine nx ?_|refine AX (λ_=>?_) (λ_=>?_)|exact Bj)<;>conv=>whnf))
   refine BM [(940,900),(941,901)] [940,941] had2 (λd σ h=>h) rfl rfl rfl rfl rfl rfl (λ_=>rfl) ?_
   rintro⟨m2,X2⟩ hT2
   (conv=>whnf)
   ((conv=>whnf);repeat' ((first|refine odw ?_|refine nx ?_|refine AX (λ_=>?_) (λ_=>?_))<;>conv=>whnf))
   exact⟨(i+1,zs++[(AQ x.1 o,x.2)],(m1,X1),m2,X2),_,_,⟨hlt,⟨⟨λy hy=>(by
    rcases Af.1 hy with hy|hy
    ·exact hzf.1 y hy
    ·rw[A7.1 hy];exact⟨Kt hp ho,h0,h40⟩),by rw[Ao,CX];omega⟩,by
    rw[IJ hx hok,AZ,AZ,hzm]
    simp only[Am,Bp,NR (MN hp) ho]⟩,by rw[IJ hx hok,Fg];exact hT1,by rw[Fg];exact hT2⟩,.refl _ _,⟨rfl,rfl,rfl,rfl,rfl,rfl,rfl,trivial⟩,⟨rfl,rfl,rfl,rfl,rfl,rfl,trivial⟩,by simp only;omega⟩
 have ei:a.take i=a:=AN (by omega)
 rw[ei]at hzm hTx
 have hpf:=Ln hla
 generalize a.filter LZ=ps at*
 (conv=>whnf)
 ((conv=>whnf);repeat' ((first|refine odw ?_|refine nx ?_|refine AX (λ_=>?_) (λ_=>?_))<;>conv=>whnf))
 refine BK (ι:=Nat×List (ByteArray×RowV)×List (Value×Da)) (λx=>x.1<=b.length/\Ew (BB B9 id [] ((b.take x.1).filter LZ)) x.2.1) (λx=>[(19,.d (.int .i64 x.1)),(9,.own 940),(8,.own 922),(7,.own 900),(2,.d (.int .u16 (t:Int))),(1,.d (RI b)),(0,.d (RI a))]) (λx=>[(900,.cells 106 [.own 901]),(901,(Cy En mx Xx).own),(922,.cells 106 [.own 923]),(923,(Cy En x.2.1 x.2.2).own),(940,.cells 106 [.own 941]),(941,(Cy En mz Xz).own)]) (λx=>b.length-x.1) (0,[],[]) (λ_=>rfl) ⟨AA _,Fj⟩ (.refl _ _) ⟨rfl,rfl,rfl,rfl,rfl,rfl,rfl,trivial⟩ ⟨rfl,rfl,rfl,rfl,rfl,rfl,trivial⟩ ?_
 rintro⟨j,my,Xy⟩ ⟨hj,hTy⟩
 simp only at hj hTy
 refine GX [] OD ?_
 by_cases hlt2:j<b.length
 ·have hx:b[j]? =some b[j]:=Ab hlt2
  have hxe:=heb _ (AY hx)
  generalize b[j]=x at hx hxe
  have hxd:(b.map Dl)[j]? =some (.agg [Fv x.1,.int .i64 x.2]):=by rw[Al,hx];rfl
  have hlp:=Pure.up3 (Mk x.1 (by omega))
  have hri:=Pure.up3 (DA x.1 (by omega) (by omega))
  cases hok:LZ x with
  |
   false=>
   have hT':Ew (BB B9 id [] ((b.take (j+1)).filter LZ)) my:=by rw[JN hx hok];exact hTy
   rcases Vh hok with h|⟨h,h2⟩|⟨h,h2,h3⟩
   ·(conv=>whnf)
    (repeat' ((first|refine A6 ?_ ?_|refine Bq hxd rfl ?_|refine A8 rfl hlp ?_|refine nx ?_|refine AX (λ_=>?_) (λ_=>?_)|exact Bj)<;>conv=>whnf))
    exact⟨(j+1,my,Xy),_,_,⟨hlt2,hT'⟩,.refl _ _,⟨rfl,rfl,rfl,rfl,rfl,rfl,rfl,trivial⟩,⟨rfl,rfl,rfl,rfl,rfl,rfl,trivial⟩,by simp only;omega⟩
   ·(conv=>whnf)
    (repeat' ((first|refine A6 ?_ ?_|refine Bq hxd rfl ?_|refine A8 rfl hlp ?_|refine nx ?_|refine AX (λ_=>?_) (λ_=>?_)|exact Bj)<;>conv=>whnf))
    exact⟨(j+1,my,Xy),_,_,⟨hlt2,hT'⟩,.refl _ _,⟨rfl,rfl,rfl,rfl,rfl,rfl,rfl,trivial⟩,⟨rfl,rfl,rfl,rfl,rfl,rfl,trivial⟩,by simp only;omega⟩
   ·obtain⟨c,k,s,hr2⟩:=LJ h3
    rw[hr2]at hri
    (conv=>whnf)
    (repeat' ((first|refine A6 ?_ ?_|refine Bq hxd rfl ?_|refine A8 rfl hlp ?_|refine A8 rfl hri ?_|refine nx ?_|refine AX (λ_=>?_) (λ_=>?_)|exact Bj)<;>conv=>whnf))
    exact⟨(j+1,my,Xy),_,_,⟨hlt2,hT'⟩,.refl _ _,⟨rfl,rfl,rfl,rfl,rfl,rfl,rfl,trivial⟩,⟨rfl,rfl,rfl,rfl,rfl,rfl,trivial⟩,by simp only;omega⟩
  |
   true=>
   obtain⟨hp,h0,h40⟩:=OI hok
   rw[Ed hp]at hri
   have hqs:=Ln (l:=b.take j) (by rw[B5];omega)
   obtain⟨_,_,u3,u4,_⟩:=Io hqs id (λ_ h=>h)
   have us:=hqs.sum
   have had1:=HV Xy hTy hp h0 u4 (by omega)
   (conv=>whnf)
   (repeat' ((first|refine A6 ?_ ?_|refine Bq hxd rfl ?_|refine A8 rfl hlp ?_|refine A8 rfl hri ?_|refine nx ?_|refine AX (λ_=>?_) (λ_=>?_)|exact Bj)<;>conv=>whnf))
   refine BM [(922,900),(923,901)] [922,923] had1 (λd σ h=>h) rfl rfl rfl rfl rfl rfl (λ_=>rfl) ?_
   rintro⟨m1,X1⟩ hT1
   (conv=>whnf)
   ((conv=>whnf);repeat' ((first|refine odw ?_|refine nx ?_|refine AX (λ_=>?_) (λ_=>?_))<;>conv=>whnf))
   exact⟨(j+1,m1,X1),_,_,⟨hlt2,by rw[IJ hx hok,Fg];exact hT1⟩,.refl _ _,⟨rfl,rfl,rfl,rfl,rfl,rfl,rfl,trivial⟩,⟨rfl,rfl,rfl,rfl,rfl,rfl,trivial⟩,by simp only;omega⟩
 have ej:b.take j=b:=AN (by omega)
 rw[ej]at hTy
 have hqf:=Ln hlb
 generalize b.filter LZ=qs at*
 have few:=λ(l:List (Pt×Int)) (h:MY l)=>Io h id (λ_ h=>h)
 have frm:=λ(l:List (Pt×Int)) (h:MY l)=>Io h BC (λ_ h=>It h)
 have hfx:=Jw _ mx Xx hTx (few ps hpf).1
 have hfy:=Jw _ my Xy hTy (few qs hqf).1
 have hfz:=Jw _ mz Xz hTz (few zs hzf).1
 rw[SE]at hfx hfy hfz
 rw[RP hzm]at hfz
 have sp:=hpf.sum
 have sq:=hqf.sum
 (conv=>whnf)
 ((conv=>whnf);repeat' ((first|refine odw ?_|refine nx ?_|refine AX (λ_=>?_) (λ_=>?_))<;>conv=>whnf))
 refine BM [(950,920),(951,921)] [900,901] hfx (λd σ h=>h) rfl rfl rfl rfl rfl rfl (λ_=>rfl) ?_
 rintro⟨f1,Y1⟩ hF1
 (conv=>whnf)
 ((conv=>whnf);repeat' ((first|refine odw ?_|refine nx ?_|refine AX (λ_=>?_) (λ_=>?_))<;>conv=>whnf))
 refine BM [(922,900),(923,901),(952,920),(953,921)] [922,923] hfy (λd σ h=>h) rfl rfl rfl rfl rfl rfl (λ_=>rfl) ?_
 rintro⟨f2,Y2⟩ hF2
 (conv=>whnf)
 ((conv=>whnf);repeat' ((first|refine odw ?_|refine nx ?_|refine AX (λ_=>?_) (λ_=>?_))<;>conv=>whnf))
 refine BM [(940,900),(941,901),(954,920),(955,921)] [940,941] hfz (λd σ h=>h) rfl rfl rfl rfl rfl rfl (λ_=>rfl) ?_
 rintro⟨f3,Y3⟩ hF3
 obtain⟨p1,p2,p3,p4,p5⟩:=frm ps hpf
 obtain⟨q1,q2,q3,q4,q5⟩:=frm qs hqf
 obtain⟨r1,r2,r3,r4,r5⟩:=few ps hpf
 obtain⟨s1,s2,s3,s4,s5⟩:=few qs hqf
 have wr:=λ(l:List (Pt×Int)) (h:Dz l) x (hx:x∈l)=>Xu (h.1 x hx).1
 have hb1:=HU _ f1 Y1 hF1 (by omega) (wr _ p1)
 have hb3:=HU _ f3 Y3 hF3 (by omega) (wr _ p1)
 have hbl:=Ib (l:=BB B9 BC [] ps) (λx hx=>wr _ p1 x hx)
 have hs1:=Ky (tB (BB B9 BC [] ps)) (by unfold tB;rw[Ao,Ek];omega)
 have hm1:=Vq _ _ f1 f2 [] Y2 hF1 p1 hF2 q1 (by omega) (by omega)
 rw[RA]at hm1
 have hm2:=T9 _ _ mx my [] [] hTx r1 hTy s1 (by omega) (by omega)
 rw[TA]at hm2
 (conv=>whnf)
 ((conv=>whnf);repeat' ((first|refine odw ?_|refine nx ?_|refine AX (λ_=>?_) (λ_=>?_))<;>conv=>whnf))
 refine Bm [(950,900),(951,901)] [950,951] hb1 rfl rfl rfl rfl rfl rfl rfl ?_
 (conv=>whnf)
 ((conv=>whnf);repeat' ((first|refine odw ?_|refine nx ?_|refine AX (λ_=>?_) (λ_=>?_))<;>conv=>whnf))
 refine Bm [(954,900),(955,901)] [954,955] hb3 rfl rfl rfl rfl rfl rfl rfl ?_
 (conv=>whnf)
 (repeat' ((first|refine A6 ?_ ?_|refine A8 rfl hs1 ?_|refine nx ?_|refine AX (λ_=>?_) (λ_=>?_)|exact Bj)<;>conv=>whnf))
 refine BM [(950,900),(951,901),(952,920),(953,921)] [950,951,952,953] hm1 (λd σ h=>h) rfl rfl rfl rfl rfl rfl (λ_=>rfl) ?_
 rintro⟨f4,Y4⟩ hF4
 (conv=>whnf)
 ((conv=>whnf);repeat' ((first|refine odw ?_|refine nx ?_|refine AX (λ_=>?_) (λ_=>?_))<;>conv=>whnf))
 refine BM [(922,920),(923,921)] [900,901,922,923] hm2 (λd σ h=>h) rfl rfl rfl rfl rfl rfl (λ_=>rfl) ?_
 rintro⟨f5,Y5⟩ hF5
 have hall:=SF hpf hqf id (λ_ h=>h)
 have hfa:=SF hpf hqf BC (λ_ h=>It h)
 have hf5:=Jw _ f5 Y5 hF5 hall
 rw[SE]at hf5
 (conv=>whnf)
 ((conv=>whnf);repeat' ((first|refine odw ?_|refine nx ?_|refine AX (λ_=>?_) (λ_=>?_))<;>conv=>whnf))
 refine BM [(956,920),(957,921)] [900,901] hf5 (λd σ h=>h) rfl rfl rfl rfl rfl rfl (λ_=>rfl) ?_
 rintro⟨f6,Y6⟩ hF6
 have hb4:=HU _ f4 Y4 hF4 (by have:=hfa.2.2;omega) (wr _ hfa)
 have hb6:=HU _ f6 Y6 hF6 (by have:=hfa.2.2;omega) (wr _ hfa)
 have hbl2:=Ib (l:=BB B9 BC [] (ps++qs)) (λx hx=>wr _ hfa x hx)
 have hs2:=Ky (tB (BB B9 BC [] (ps++qs))) (by have:=hfa.2.2;unfold tB;rw[Ao,Ek];omega)
 (conv=>whnf)
 ((conv=>whnf);repeat' ((first|refine odw ?_|refine nx ?_|refine AX (λ_=>?_) (λ_=>?_))<;>conv=>whnf))
 refine Bm [(956,900),(957,901)] [956,957] hb6 rfl rfl rfl rfl rfl rfl rfl ?_
 (conv=>whnf)
 ((conv=>whnf);repeat' ((first|refine odw ?_|refine nx ?_|refine AX (λ_=>?_) (λ_=>?_))<;>conv=>whnf))
 refine Bm [(950,900),(951,901)] [950,951] hb4 rfl rfl rfl rfl rfl rfl rfl ?_
 (conv=>whnf)
 (repeat' ((first|refine A6 ?_ ?_|refine A8 rfl hs2 ?_|refine nx ?_|refine AX (λ_=>?_) (λ_=>?_)|exact Bj)<;>conv=>whnf))
 exact rfl
theorem QI(a b:List (Pt×Int))(t:Int)(ht:0<=t/\t<=65535):Pure C3 3 [RI a,RI b,.int .u16 t] (λy=>y=.bool true):=by
 obtain⟨c,rfl⟩:=Ch ht.1
 exact TX a b c (by omega)
end Go.Proofs.YtjejpdfldmempaaGreatDoor
end
section
namespace Go.Reg
open Go Go.RowKit Go.Deep Go.WideShapes
section
variable {α H:Type}
theorem KK {P:Program} {k:Nat} {enc:α->List Value} {e':TypeId×Value->H} {w:World} {base:Nat} {spare:Nat->Bool} {held:Bool} {t e:TypeId} {v:Value} {d:DataW H} {ps:List MemPlace}(Q:α->Prop)
  (ht:P.underlying t=some (.slice e)) (hc:P.cellsOf e=k) (hk:0<k) (he:∀x,(enc x).length=k)
  (hel:∀n cs y,DataW.trod e' P w base spare held n e cs=some y->∃x,cs=enc x/\Q x)
  (hsh:∃a n c,v=.slice a n c) (h:DataW.Trod e' P w base spare held t v d ps):∃l,Dt k enc w v l/\∀x∈l,Q x:=by
 obtain⟨a0,len0,cap0,rfl⟩:=hsh
 obtain⟨fuel,hf⟩:=h
 rcases open_slice ht hf with⟨h1,_⟩|⟨a,len,cap,m,n,D,Pl,h1,hb,hl,hm,hmm,_,hx⟩
 ·simp[Value.cells]at h1
  obtain⟨rfl,rfl,rfl⟩:=h1
  exact⟨[],⟨none,0,rfl,by simp,λi x hi=>by simp at hi⟩,by simp⟩
 ·simp[Value.cells]at h1
  obtain⟨rfl,rfl,rfl⟩:=h1
  have hlm:len0<=m:=by rw[hmm];split<;>omega
  obtain⟨l,hll,hq⟩:=S5 (Q:=λi x=>Q x/\w.cells? base (a.add (i*k)) k=some (enc x)) (n:=len0) (λi hi=>by
   obtain⟨cs',h1,h2⟩:=hx i (by omega)
   obtain⟨x,rfl,hQ⟩:=hel _ _ _ h2
   rw[hc]at h1
   exact⟨x,hQ,h1⟩)
  refine⟨l,⟨some a,cap0,by rw[hll],by omega,λi x hi=>?_⟩,λx hx=>?_⟩
  ·have h2:=(hq i x hi).2
   obtain⟨_,_,hcell⟩:=World.cells?_some h2
   have h0:=hcell 0 hk
   obtain⟨b,o,sp⟩:=a
   have hi0:0<l.length:=by have:=(Ak.1 hi).1;omega
   have hz:=(hq 0 l[0] (by simp[hi0])).2
   obtain⟨_,_,hcell0⟩:=World.cells?_some hz
   have hsp:sp=none:=by
    have h00:=hcell0 0 hk
    rw[Nat.zero_mul,add_add]at h00
    have hsome:(w.cell? ⟨b,o,sp⟩).isSome=true:=by
     simp only[Addr.add,IN,if_true]at h00
     rw[h00]
     simp[he,hk]
    cases sp with
    |none=>rfl
    |
     some s=>
     exfalso
     unfold World.cell? at hsome
     simp at hsome
     split at hsome<;>simp at hsome
   subst hsp
   refine⟨b,o,rfl,λj u hj=>?_⟩
   have hjk:j<k:=by have:=(Ak.1 hj).1;rw[he]at this;exact this
   have:=hcell j hjk
   rw[add_add,hj]at this
   by_cases hz:i*k+j=0
   ·rw[hz]at this
    simp only[Addr.add,if_true]at this
    rw[show o+i*k+j=o by omega]
    exact this
   ·simp only[Addr.add,hz,if_false]at this
    rw[show o+i*k+j=o+(i*k+j)by omega]
    exact this
  ·obtain⟨i,hi⟩:=Lc hx
   exact(hq i x hi).1
theorem FV {P:Program} {e':TypeId×Value->H} {w:World} {base:Nat} {spare:Nat->Bool} {held:Bool} {t e:TypeId} {fuel:Nat} {cs:List Value} {y:DataW H×List MemPlace}(ht:P.underlying t=some (.slice e))(h:DataW.trod e' P w base spare held fuel t cs=some y):∃a n c,cs=[.slice a n c]/\n<=c/\c<=maxLen:=by
 rcases open_slice ht h with⟨h1,_⟩|⟨a,len,cap,m,k,D,Pl,h1,_,h2,h3,_,_,_⟩
 ·exact⟨none,0,0,h1,Az _,by unfold maxLen;omega⟩
 ·exact⟨some a,len,cap,h1,h2,h3⟩
end
end Go.Reg
namespace Go.Proofs.YtjejpdfldmempaaGreatDoor
open Go.ChangeShapes Go.WideShapes Go.ChangeAt Go.RowKit Go.Reg Go.Gr Go.Sx Go.ChangeMaps
theorem own:ownKnob Tryz.prog.godebug=none:=by kernel_rfl
theorem S6:laidOutB Tryz.prog=true:=by kernel_rfl
theorem Zt:Tryz.prog.globalNamed "errors.errorType" =some 0:=by kernel_rfl
theorem Zs:(Tryz.prog.cutTypes.find? (·.1== "internal/reflectlite.rtype")).map (·.2)=some 293:=by kernel_rfl
theorem Ym:((List.range Tryz.prog.types.size).filter λt=>Tryz.prog.rowNamed t [101,114,114,111,114])=[39]:=by kernel_rfl
abbrev Ij:List (String×DataW Unit):=Rows.levelAllRow.laid
abbrev TD:List (String×DataW Unit):=[("math/bits.deBruijn32tab",Rows.laid_math_bits_deBruijn32tab),("math/bits.deBruijn64tab",Rows.laid_math_bits_deBruijn64tab),("internal/strconv.uint64pow10",Rows.laid_internal_strconv_uint64pow10)]
theorem Mm {W:World}(h:laidMetH Tryz.prog Ij W):laidMet Tryz.prog TD W/\handlesMet Tryz.prog [("errors.errorType",Rows.laid_errors_errorType)] W:=h
theorem Ns {P:Program} {w:World} {name:String} {g:Nat} {cs:Array Value}(h:w.var? P name=some cs)(hg:P.globalNamed name=some g):∃t fr,w.heap[g]? =some (.cells cs t fr):=by
 unfold World.var? at h
 rw[hg,Kv]at h
 cases hh:w.heap[g]? with
 |none=>rw[hh]at h;cases h
 |
  some o=>
  rw[hh]at h
  cases o with
  |cells cs' t fr=>simp only[Ax]at h;subst h;exact⟨t,fr,rfl⟩
  |_=>cases h
theorem OT {W:World}(h:laidMetH Tryz.prog Ij W):∃t fr,W.heap[0]? =some (.cells #[.iface 293 (.agg #[.pointer (some ⟨5,39,none⟩)])] t fr):=by
 obtain⟨name,u,ty,e1,e2,e3,e4,e5⟩:=(Mm h).2 _ (A7.2 rfl)
 have en:name=[101,114,114,111,114]:=(EZ e1).symm
 subst en
 obtain rfl:=EZ (Zs.symm.trans e2)
 have hm:ty∈(List.range Tryz.prog.types.size).filter λt=>Tryz.prog.rowNamed t [101,114,114,111,114]:=Bg.2 ⟨Bk.2 e3,e4⟩
 rw[Ym]at hm
 obtain rfl:=A7.1 hm
 have hh:typeHandle Tryz.prog 39=.pointer (some ⟨5,39,none⟩):=by kernel_rfl
 rw[hh]at e5
 exact Ns e5 Zt
theorem SC {W:World} {g:Nat} {cs:Array Value} {t:TypeId} {fr:Nat×Nat} {d:Da}(h:W.heap[g]? =some (.cells cs t fr))(hr:Sx.RepC [] W d cs.toList)(hs:cs.size=Sx.gsz d):Sx.GRep [] W (g,d):=by
 refine⟨⟨[_],?_,rfl⟩,by simp,cs,t,fr,h,hs⟩
 simp only[Sx.RepC]
 refine⟨g,0,cs.toList,rfl,by simp,(Ae.1 h).1,hr,λj u hj=>?_⟩
 rw[Lib.cell_of_heap h,DE]
 simpa using hj
theorem Oh {W:World}(h:laidMetH Tryz.prog Ij W):∃t fr,W.heap[1]? =some (.cells (Lib.pow10Tab.map λz=>Value.int .u64 z).toArray t fr):=by
 have h1:=laidMet.tail (laidMet.tail (Mm h).1)
 have h2:laidMet Tryz.prog (("internal/strconv.uint64pow10",Lib.tabData .u64 Lib.pow10Tab)::[]) W:=h1
 have h3:=Lib.tabIs_of_head (g:=1) (by kernel_rfl) (t:=327) (e:=186) (n:=20) (by kernel_rfl) Tryz.underlying327 Tryz.underlying186 (by kernel_rfl) (by kernel_rfl) h2
 exact Ns h3 (by kernel_rfl)
theorem Qn(O:List Nat)(W:World)(k:IntKind):∀l:List Int,Sx.RepCs O W (l.map (Da.int k)) (l.map λz=>Value.int k z)
 |[]=>by simp[Sx.RepCs]
 |
  x::l=>by
  simp only[Am,Sx.RepCs,Sx.RepC]
  exact⟨[_],_,rfl,rfl,Qn O W k l⟩
theorem V3 {W:World}(h:laidMetH Tryz.prog Ij W):Sx.Glob C3 [] W:=by
 obtain⟨t1,f1,e1⟩:=OT h
 obtain⟨t5,f5,e5⟩:=Oh h
 intro g hg
 rcases Af.1 hg with hg|hg
 ·rw[A7.1 hg]
  exact SC e1 (by simp only[Sx.RepC]) rfl
 ·rw[A7.1 hg]
  exact SC e5 (by simp only[Sx.RepC];exact Qn _ _ _ _) (by simp[Sx.gsz])
def eI:Sx.Enc Int:=⟨λn=>[.int .i64 n],dI,1,λ_=>rfl,λn u hu=>by simp at hu;rw[hu];rfl,λO w n=>by simp[dI,Sx.RepC]⟩
def eE:Sx.Enc Edg:=⟨λe=>[.int .i64 e.a,.int .i64 e.b],dE,2,λ_=>rfl,λn u hu=>by simp at hu;rcases hu with rfl|rfl<;>rfl,λO w n=>by simp[dE,Sx.RepC,Sx.RepCs]⟩
set_option maxRecDepth 100000 in
theorem Yo {H:Type} {e':TypeId×Value->H} {w:World} {base:Nat} {spare:Nat->Bool} {held:Bool}(n:Nat)(cs:List Value)(y:DataW H×List MemPlace)
  (h:DataW.trod e' Tryz.prog w base spare held n 3 cs=some y):∃x:Int,cs=eI.enc x/\True:=by
 obtain⟨m,h0,_⟩:=DataW.trod_int Tryz.underlying3 h
 exact⟨m,h0,trivial⟩
set_option maxRecDepth 100000 in
theorem WU {H:Type} {e':TypeId×Value->H} {w:World} {base:Nat} {spare:Nat->Bool} {held:Bool}(n:Nat)(cs:List Value)(y:DataW H×List MemPlace)
  (h:DataW.trod e' Tryz.prog w base spare held n 137 cs=some y):∃x:Edg,cs=eE.enc x/\True:=by
 obtain⟨xs,k,_,_,hcl,hxl,hf⟩:=DataW.trod_struct Tryz.underlying137 h
 have cl:cs.length=2:=hcl.trans (by kernel_rfl)
 match cs,cl with
 |
  [c0,c1],_=>
  have hx4:xs.length=2:=hxl
  match xs,hx4 with
  |
   [y0,y1],_=>
   have k3:Tryz.prog.cellsOf 3=1:=by kernel_rfl
   have g0:=hf 0 _ rfl
   have g1:=hf 1 _ rfl
   simp[k3]at g0 g1
   obtain⟨n0,h0,_⟩:=DataW.trod_int Tryz.underlying3 g0
   obtain⟨n1,h1,_⟩:=DataW.trod_int Tryz.underlying3 g1
   simp at h0 h1
   subst h0;subst h1
   exact⟨⟨n0,n1⟩,rfl,trivial⟩
theorem UK {O:List Nat} {w:World} {v:Value} {b:Bool}(h:Sx.Rep O w (.bool b) v):v=.bool b:=by obtain⟨cs,r,rfl⟩:=h;simp only[Sx.RepC]at r;subst r;rfl
def QV:DataW Unit->Array Value
 |.agg ds=>(ds.map λ|.lit (.int k n)=>Value.int k n|_=>undef).toArray
 |_=>#[]
def Jd(cs:Array Value):Obj->Obj
 |.cells _ t frozen=>.cells cs t frozen
 |o=>o
noncomputable def JM(os:Os):World:=
 let w0:=World.holding Tryz.prog os ⟨#[],#[],[]⟩
 {w0 with heap:=(((w0.heap.modify 0 (Jd #[.iface 293 (.agg #[.pointer (some ⟨5,39,none⟩)])])).modify 1 (Jd (QV Rows.laid_internal_strconv_uint64pow10))).modify 3 (Jd (QV Rows.laid_math_bits_deBruijn32tab))).modify 4 (Jd (QV Rows.laid_math_bits_deBruijn64tab))}
theorem Nj(os:Os)(args:Array Value):laidMetH Tryz.prog Ij ((JM os).forCall (λ_ _=>0) ⟨#[],args,[]⟩).memory:=
 laidMetH_of_parts (laidMet_of_run' 8 (by kernel_rfl) (by kernel_rfl)) (by kernel_rfl)
end Go.Proofs.YtjejpdfldmempaaGreatDoor
end
