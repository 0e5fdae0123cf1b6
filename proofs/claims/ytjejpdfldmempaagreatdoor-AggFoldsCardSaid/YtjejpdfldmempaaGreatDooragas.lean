/- Merged: Ptc Ptd Ptx Wri. -/
import Derived.Test.YtjejpdfldmempaaGreatDooragar
import Derived.Lib.Join
import Derived.Test.YtjejpdfldmempaaGreatDooragaq
section
namespace Go.Proofs.YtjejpdfldmempaaGreatDoor
open Go.Sx Go.RowKit Go.Reg Go.Gr
set_option maxRecDepth 100000
def Tu:ByteArray:=⟨#[112,97,116,116,101,114,110]⟩
def R6:ByteArray:=⟨#[108,97,98,101,108]⟩
def VA:ByteArray:=⟨#[101,100,103,101]⟩
def Fv(p:Pt):Da:=.agg [D1 p.labels,Ip p.edges]
def Es(l:List Int):Da:=match Iw l with
 |none=>.nili
 |some (c,i)=>dF c i (if c=6 then Tu else R6)
def FL(p:Pt):Da:=match Iw p.labels with
 |some (c,i)=>dF c i (if c=6 then Tu else R6)
 |
  none=>match RG p.labels.length p.edges with
  |none=>.nili
  |some (c,i)=>dF c i VA
theorem Vv {l:List Int}(h:8<l.length):Iw l=some (6,0):=if_pos h
theorem WO {l:List Int} {i:Nat} {x:Int}(h8:¬8<l.length)(h:∀k y,k<i->l[k]? =some y->CR y=false)(hx:l[i]? =some x)(hb:CR x=true):Iw l=some (3,i):=by
 unfold Iw
 rw[if_neg h8]
 refine KF (i:=i) (λk hk=>?_) ?_ (Ak.1 hx).1
 ·have hkl:k<l.length:=by have:=(Ak.1 hx).1;omega
  have:=h k _ hk (Ab hkl)
  rw[Ab hkl]
  simp[this]
 ·rw[hx];simp[hb]
theorem S7 {l:List Int}(h8:¬8<l.length)(h:∀k y,k<l.length->l[k]? =some y->CR y=false):Iw l=none:=by
 unfold Iw
 rw[if_neg h8]
 refine HD λk hk=>?_
 have:=h k _ hk (Ab hk)
 rw[Ab hk]
 simp[this]
theorem VP {l:List Int} {i:Nat} {x:Int}(h:∀k y,k<i->l[k]? =some y->CR y=false)(hx:l[i]? =some x)(hb:CR x=false):∀k y,k<i+1->l[k]? =some y->CR y=false:=by
 intro k y hk hy
 rcases Ei k i with hl|hl
 ·exact h k y hl hy
 ·have:k=i:=by omega
  subst this
  rw[hx]at hy;cases hy;exact hb
theorem Yx {x:Int}(h:¬(0<=x/\x<=255)):CR x=true:=by simp[CR];omega
theorem Xk {x:Int}(h:0<=x/\x<=255):CR x=false:=by simp[CR];omega
theorem OC(l:List Int)(hm:l.length<=9223372036854775807):Pure C1 47 [D1 l] (λy=>y=Es l):=by
 have hdl:(l.map dI).length=l.length:=Ac _
 refine CI Tryz.func47 Tryz.ntmps47 [] [] ?_
 by_cases h8:8<l.length
 ·have e:Es l=dF 6 0 Tu:=by unfold Es;rw[Vv h8];rfl
  rw[e]
  (conv=>whnf)
  (repeat' ((first|refine A6 ?_ ?_|refine A8 rfl (Eg 6 0 Tu) ?_|refine nx ?_|refine AX (λ_=>?_) (λ_=>?_)|exact Bj)<;>conv=>whnf))
  exact rfl
 ((conv=>whnf);repeat' ((first|refine odw ?_|refine nx ?_|refine AX (λ_=>?_) (λ_=>?_))<;>conv=>whnf))
 refine BK (ι:=Nat) (λi=>i<=l.length/\∀k y,k<i->l[k]? =some y->CR y=false) (λi=>[(11,.d (.int .i64 i)),(10,.d (.int .i64 l.length)),(9,.d (D1 l))]) (λ_=>[]) (λi=>l.length-i) 0 (λ_=>rfl) ⟨AA _,(by intro k y h;omega)⟩ (.refl _ _) ⟨rfl,by rw[<-hdl];rfl,rfl,trivial⟩ trivial ?_
 rintro i ⟨hi,hok⟩
 refine Fw [] [] ?_
 by_cases hil:i<l.length
 ·have hx:=Ab hil
  generalize l[i]=x at hx
  have hxd:(l.map dI)[i]? =some (.int .i64 x):=by rw[Al,hx];rfl
  by_cases hb:0<=x/\x<=255
  ·(conv=>whnf)
   (repeat' ((first|refine A6 ?_ ?_|refine Bq hxd rfl ?_|refine nx ?_|refine AX (λ_=>?_) (λ_=>?_)|exact Bj)<;>conv=>whnf))
   exact⟨i+1,_,_,⟨by omega,VP hok hx (Xk hb)⟩,.refl _ _,⟨rfl,rfl,rfl,trivial⟩,trivial,by omega⟩
  ·have e:Es l=dF 3 i R6:=by unfold Es;rw[WO h8 hok hx (Yx hb)];rfl
   rw[e]
   by_cases h0:x<0
   ·(conv=>whnf)
    (repeat' ((first|refine A6 ?_ ?_|refine Bq hxd rfl ?_|refine A8 rfl (Eg 3 i R6) ?_|refine nx ?_|refine AX (λ_=>?_) (λ_=>?_)|exact Bj)<;>conv=>whnf))
    exact rfl
   ·(conv=>whnf)
    (repeat' ((first|refine A6 ?_ ?_|refine Bq hxd rfl ?_|refine A8 rfl (Eg 3 i R6) ?_|refine nx ?_|refine AX (λ_=>?_) (λ_=>?_)|exact Bj)<;>conv=>whnf))
    exact rfl
 ·have e:Es l=.nili:=by unfold Es;rw[S7 h8 (λk y hk hy=>hok k y (by omega) hy)]
  rw[e]
  ((conv=>whnf);repeat' ((first|refine odw ?_|refine nx ?_|refine AX (λ_=>?_) (λ_=>?_))<;>conv=>whnf))
  exact rfl
theorem OB(e:Edg):Pure C1 57 [dE e] (λy=>y=dE (turn e)):=by
 refine CI Tryz.func57 Tryz.ntmps57 [] [] ?_
 ((conv=>whnf);repeat' ((first|refine odw ?_|refine nx ?_|refine AX (λ_=>?_) (λ_=>?_))<;>conv=>whnf))
 exact rfl
theorem Pp(e:Edg)(n:Nat):Pure C1 48 [dE e,.int .i64 n] (λy=>y=.bool (decide (0<=min e.a e.b/\max e.a e.b<n))):=by
 refine CI Tryz.func48 Tryz.ntmps48 [] [] ?_
 by_cases h1:0<=min e.a e.b
 ·by_cases h2:max e.a e.b<n
  ·rw[decide_eq_true ⟨h1,h2⟩]
   ((conv=>whnf);repeat' ((first|refine odw ?_|refine nx ?_|refine AX (λ_=>?_) (λ_=>?_))<;>conv=>whnf))
   exact congrArg Da.bool (decide_eq_true h2)
  ·rw[decide_eq_false (λh=>h2 h.2)]
   ((conv=>whnf);repeat' ((first|refine odw ?_|refine nx ?_|refine AX (λ_=>?_) (λ_=>?_))<;>conv=>whnf))
   exact congrArg Da.bool (decide_eq_false h2)
 ·rw[decide_eq_false (λh=>h1 h.1)]
  ((conv=>whnf);repeat' ((first|refine odw ?_|refine nx ?_|refine AX (λ_=>?_) (λ_=>?_))<;>conv=>whnf))
  exact rfl
def Yf:List (Nat×Plan):=[(1,.leaf [0,1,0,1,2,0,1,0,1,2,6,2,0] [0,2,5,7,1,3,6,8,4,9,10,11,12] [0,1,0,4,15,0,32,0,128,511,1023,2047,4095])]
def YZ:List FuncId:=[101,100]
theorem K7(x y:Edg):Pure C1 50 [dE x,dE y] (λz=>z=.int .i64 (BR x y)):=by
 refine CI Tryz.func50 Tryz.ntmps50 YZ Yf ?_
 have h1:=Et x.a y.a
 have h2:=Et x.b y.b
 have h3:=WI (BV x.a y.a) (BV x.b y.b)
 (conv=>whnf)
 (repeat' ((first|refine A6 ?_ ?_|refine A8 rfl h1 ?_|refine A8 rfl h2 ?_|refine DD tab rfl h3 rfl ?_|refine nx ?_|refine AX (λ_=>?_) (λ_=>?_)|exact Bj)<;>conv=>whnf))
 exact rfl
end Go.Proofs.YtjejpdfldmempaaGreatDoor
end
section
namespace Go.Gr
theorem Q6 {n:Nat} {E:List Edg} {i:Nat} {e:Edg}(hx:E[i]? =some e)(h1:0<=min e.a e.b/\max e.a e.b<n)(h2:e.a<e.b)(h3:i=0\/∃q,E[i-1]? =some q/\BR q e<0):OW n E i=none:=by
 unfold OW
 rw[hx]
 simp only[Option.map_eq_none_iff]
 unfold OV
 rw[if_neg (λh=>h h1),if_neg (by omega)]
 rcases h3 with h3|⟨q,h3,h4⟩
 ·rw[if_pos h3]
 ·by_cases h0:i=0
  ·rw[if_pos h0]
  ·rw[if_neg h0,h3]
   simp only
   rw[if_pos h4]
theorem WW {n:Nat} {E:List Edg} {i:Nat} {e:Edg}(hx:E[i]? =some e)(h1:¬(0<=min e.a e.b/\max e.a e.b<n)):OW n E i=some (3,i):=by
 unfold OW
 rw[hx]
 simp only
 unfold OV
 rw[if_pos h1];rfl
theorem VE {n:Nat} {E:List Edg} {i:Nat} {e:Edg}(hx:E[i]? =some e)(h1:0<=min e.a e.b/\max e.a e.b<n)(h2:e.b<=e.a):OW n E i=some (2,i):=by
 unfold OW
 rw[hx]
 simp only
 unfold OV
 rw[if_neg (λh=>h h1),if_pos h2];rfl
theorem TO {n:Nat} {E:List Edg} {i:Nat} {e q:Edg}(hx:E[i]? =some e)(h1:0<=min e.a e.b/\max e.a e.b<n)(h2:e.a<e.b)(h0:i≠0)(hq:E[i-1]? =some q)(h3:¬BR q e<0):OW n E i=some (2,i):=by
 unfold OW
 rw[hx]
 simp only
 unfold OV
 rw[if_neg (λh=>h h1),if_neg (by omega),if_neg h0,hq]
 simp only
 rw[if_neg h3];rfl
theorem OU {n:Nat} {E:List Edg} {i:Nat} {y:Int×Nat}(h:∀k,k<i->OW n E k=none)(hi:OW n E i=some y):RG n E=some y:=by
 have hl:i<E.length:=by
  rcases Ei i E.length with h|h
  ·exact h
  ·unfold OW at hi
   rw[AD h]at hi
   cases hi
 exact KF h hi hl
theorem WV {n:Nat} {E:List Edg}(h:∀k,k<E.length->OW n E k=none):RG n E=none:=HD h
theorem NG {n:Nat} {E:List Edg} {i:Nat}(h:∀k,k<i->OW n E k=none)(hi:OW n E i=none):∀k,k<i+1->OW n E k=none:=by
 intro k hk
 rcases Ei k i with hl|hl
 ·exact h k hl
 ·have:k=i:=by omega
  subst this;exact hi
end Go.Gr
namespace Go.Proofs.YtjejpdfldmempaaGreatDoor
open Go.Sx Go.RowKit Go.Reg Go.Gr
set_option maxRecDepth 100000
def US:List (Nat×Plan):=[(9,.leaf [0,1,0,1,0,0,0,0,0,0,1,0,0,0,1,1,2,0,0,0,0] [0,2,1,3,4,5,6,7,8,9,11,12,10,13,14,15,16,17,18,19,20] [0,1,0,4,15,31,63,127,255,511,1023,511,2559,8191,16383,511,65535,131071,262143,524287,1048575])]
def XG:List FuncId:=[50,48]
set_option maxHeartbeats 4000000 in
theorem DA(p:Pt)(hm:p.labels.length<=9223372036854775807)(hme:p.edges.length<=9223372036854775807):Pure C1 13 [Fv p] (λy=>y=FL p):=by
 have hdl:(p.labels.map dI).length=p.labels.length:=Ac _
 have hde:(p.edges.map dE).length=p.edges.length:=Ac _
 have hlb:=OC p.labels hm
 refine CI Tryz.func13 Tryz.ntmps13 XG US ?_
 cases hl:Iw p.labels with
 |
  some x=>
  obtain⟨c,i⟩:=x
  have e1:Es p.labels=dF c i (if c=6 then Tu else R6):=by unfold Es;rw[hl]
  have e2:FL p=dF c i (if c=6 then Tu else R6):=by unfold FL;rw[hl]
  rw[e1]at hlb
  rw[e2]
  (conv=>whnf)
  (repeat' ((first|refine A6 ?_ ?_|refine A8 rfl hlb ?_|refine nx ?_|refine AX (λ_=>?_) (λ_=>?_)|exact Bj)<;>conv=>whnf))
  exact rfl
 |
  none=>
  have e1:Es p.labels=.nili:=by unfold Es;rw[hl]
  rw[e1]at hlb
  have e2:FL p=match RG p.labels.length p.edges with|none=>.nili|some (c,i)=>dF c i VA:=by unfold FL;rw[hl];try rfl
  rw[e2]
  (conv=>whnf)
  (repeat' ((first|refine A6 ?_ ?_|refine A8 rfl hlb ?_|refine nx ?_|refine AX (λ_=>?_) (λ_=>?_)|exact Bj)<;>conv=>whnf))
  refine BK (ι:=Nat) (λi=>i<=p.edges.length/\∀k,k<i->OW p.labels.length p.edges k=none) (λi=>[(15,.d (.int .i64 i)),(14,.d (.int .i64 p.edges.length)),(13,.d (Ip p.edges)),(1,.own 1)]) (λ_=>[(1,.cells 31 [.d (D1 p.labels),.d (Ip p.edges)])]) (λi=>p.edges.length-i) 0 (λ_=>rfl) ⟨AA _,(by intro k h;omega)⟩ (.refl _ _) ⟨rfl,by rw[<-hde];rfl,rfl,rfl,trivial⟩ ⟨rfl,trivial⟩ ?_
  rintro i ⟨hi,hok⟩
  refine Fw XG US ?_
  by_cases hil:i<p.edges.length
  ·have hx:=Ab hil
   generalize p.edges[i]=e at hx
   have hxd:(p.edges.map dE)[i]? =some (.agg [.int .i64 e.a,.int .i64 e.b]):=by rw[Al,hx];rfl
   have hwi:=Pp e p.labels.length
   rw[<-hdl]at hwi
   by_cases h1:0<=min e.a e.b/\max e.a e.b<p.labels.length
   ·rw[decide_eq_true (by rw[hdl];exact h1)]at hwi
    by_cases h2:e.a<e.b
    ·by_cases h0:i=0
     ·subst h0
      (conv=>whnf)
      (repeat' ((first|refine A6 ?_ ?_|refine Bq hxd rfl ?_|refine A8 rfl hwi ?_|refine nx ?_|refine AX (λ_=>?_) (λ_=>?_)|exact Bj)<;>conv=>whnf))
      exact⟨0+1,_,_,⟨by omega,NG hok (Q6 hx h1 h2 (.inl rfl))⟩,.refl _ _,⟨rfl,rfl,rfl,rfl,trivial⟩,⟨rfl,trivial⟩,by omega⟩
     ·have hy:=Ab (l:=p.edges) (i:=i-1) (by omega)
      generalize p.edges[i-1]'(by omega)=q at hy
      have hyd:(p.edges.map dE)[i-1]? =some (.agg [.int .i64 q.a,.int .i64 q.b]):=by rw[Al,hy];rfl
      have hor:=K7 q e
      by_cases h3:BR q e<0
      ·(conv=>whnf)
       (repeat' ((first|refine A6 ?_ ?_|refine Bq hxd rfl ?_|refine A8 rfl hwi ?_|refine Bq hyd (by omega) ?_|refine A8 rfl hor ?_|refine nx ?_|refine AX (λ_=>?_) (λ_=>?_)|exact Bj)<;>conv=>whnf))
       exact⟨i+1,_,_,⟨by omega,NG hok (Q6 hx h1 h2 (.inr ⟨q,hy,h3⟩))⟩,.refl _ _,⟨rfl,rfl,rfl,rfl,trivial⟩,⟨rfl,trivial⟩,by omega⟩
      ·rw[OU hok (TO hx h1 h2 h0 hy h3)]
       (conv=>whnf)
       (repeat' ((first|refine A6 ?_ ?_|refine Bq hxd rfl ?_|refine A8 rfl hwi ?_|refine Bq hyd (by omega) ?_|refine A8 rfl hor ?_|refine A8 rfl (Eg 2 i VA) ?_|refine nx ?_|refine AX (λ_=>?_) (λ_=>?_)|exact Bj)<;>conv=>whnf))
       exact rfl
    ·rw[OU hok (VE hx h1 (by omega))]
     (conv=>whnf)
     (repeat' ((first|refine A6 ?_ ?_|refine Bq hxd rfl ?_|refine A8 rfl hwi ?_|refine A8 rfl (Eg 2 i VA) ?_|refine nx ?_|refine AX (λ_=>?_) (λ_=>?_)|exact Bj)<;>conv=>whnf))
     exact rfl
   ·rw[decide_eq_false (by rw[hdl];exact h1)]at hwi
    rw[OU hok (WW hx h1)]
    (conv=>whnf)
    (repeat' ((first|refine A6 ?_ ?_|refine Bq hxd rfl ?_|refine A8 rfl hwi ?_|refine A8 rfl (Eg 3 i VA) ?_|refine nx ?_|refine AX (λ_=>?_) (λ_=>?_)|exact Bj)<;>conv=>whnf))
    exact rfl
  ·rw[WV (λk hk=>hok k (by omega))]
   ((conv=>whnf);repeat' ((first|refine odw ?_|refine nx ?_|refine AX (λ_=>?_) (λ_=>?_))<;>conv=>whnf))
   exact rfl
theorem Ed {p:Pt}(h:Dr p=none):FL p=.nili:=by
 unfold Dr at h
 unfold FL
 split at h
 ·cases h
 ·rename_i hl
  rw[hl]
  simp only
  rw[h]
end Go.Proofs.YtjejpdfldmempaaGreatDoor
end
section
namespace Go.Gr
open Go
theorem Qm(n:Nat):Lib.itoa n=Lib.decDigits n:=by
 unfold Lib.itoa
 rw[if_neg (by omega)];simp
theorem Hz {n:Int}(h0:0<=n)(h1:n<=999999):(Lib.itoa n).length<=6:=by
 obtain⟨k,rfl⟩:=Ch h0
 rw[Qm]
 exact WY k (by omega)
theorem EK(x y:List UInt8)(r:List (List UInt8))(sep:List UInt8):Lib.join (x::y::r) sep=x++(sep++Lib.join (y::r) sep):=by
 simp[Lib.join,List.intercalate]
theorem Mn {m:Nat}(sep:List UInt8):∀xs:List (List UInt8),(∀x∈xs,x.length<=m)->(Lib.join xs sep).length<=xs.length*(m+sep.length)
 |[],_=>by rw[Lib.join_nil];simp
 |
  [x],h=>by
  have:=h x (.head _)
  rw[Lib.join_one,CX];omega
 |
  x::y::r,h=>by
  have h1:=Mn sep (y::r) (λz hz=>h z (.tail _ hz))
  have h2:=h x (.head _)
  rw[EK,Ao,Ao,Au,Cl,Nat.one_mul];omega
def HG(e:Edg):List UInt8:=Lib.itoa e.a++45::Lib.itoa e.b
def Ep(p:Pt):List UInt8:=Lib.join (p.labels.map Lib.itoa) [44]++124::Lib.join (p.edges.map HG) [44]
end Go.Gr
namespace Go.Proofs.YtjejpdfldmempaaGreatDoor
open Go.Sx Go.RowKit Go.Reg Go.Gr Go.Shelf
set_option maxRecDepth 100000
theorem X6:Builder.Extra Tryz.prog Tryz.joinL_ren where
 sizeBuilder:=by kernel_rfl
 liesBuilder:=by kernel_rfl
 t5:=Tryz.underlying5
 a5:=by intro w;kernel_rfl
 z5:=by intro w;kernel_rfl
 v5:=by intro w;kernel_rfl
 infoByte:=by kernel_rfl
 cellsByte:=by kernel_rfl
 sizeByte:=by kernel_rfl
 neB5:=by decide
noncomputable def C3:Cx:=⟨Tryz.prog,C1.Γ++[(1,.agg (Lib.pow10Tab.map (Da.int .u64)))]⟩
theorem WL:(1,Da.agg (Lib.pow10Tab.map (Da.int .u64)))∈C3.Γ:=An _ (.head _)
theorem Dc:C3.Ok tab:=⟨J2.tab,J2.mixed⟩
section
variable {n:Nat} {c:Code}
theorem GX {K:KE} {fr:Fr} {σ:Sg}(G:List FuncId)(pl:List (Nat×Plan))(h:CU C3 tab n pl c K fr σ)(hk:BA C3.P G pl c=true:=by kernel_rfl):DN C3 n c K fr σ:=Cq Dc c K fr σ hk h
theorem N7 {f:FuncId} {fn:Func} {xs:List Da} {Q:Da->Prop}(hf:C3.P.funcs[f]? =some fn)(hn:fn.ntmps=n)(G:List FuncId)(pl:List (Nat×Plan))(h:CU C3 tab n pl c (Iz tab fn.results.toList (SR tab Q)) (params (Cf xs) 0) [])(hb:fn.body=some c:=by rfl)(hrun:∀(vs:Array Value) (w:World),(callFunc f vs).run C3.P w=.ok (.enter f vs) w:=by intros;kernel_rfl)(hk:BA C3.P G pl c=true:=by kernel_rfl)(hl:xs.length<=n:=by simp):Pure C3 f xs Q:=Sf Dc hf hb hn hrun hk hl h
end
theorem Pure.up3 {f:FuncId} {xs:List Da} {Q:Da->Prop}(h:Sx.Pure C1 f xs Q):Sx.Pure C3 f xs Q:=λO w vs h1 h2 h3=>h O w vs h1 (λg hg=>h2 g (Aq _ hg)) h3
theorem II(n:Int)(h0:-9223372036854775808<=n)(h1:n<=9223372036854775807):Sx.Pure C3 105 [.int .i64 n] (λy=>y=.str (bs (Lib.itoa n))):=by
 intro O w us hO hg hr
 obtain⟨v,vs,rfl,h3,h2⟩:=D7 hr
 obtain rfl:=Ee h2
 obtain rfl:=DI h3
 refine⟨by kernel_rfl,(Any.strconv_Itoa Tryz.itoaL n h0 h1 w (XU hg WL (by kernel_rfl))).mono ?_⟩
 rintro e w' ⟨rfl,k,os,rfl⟩
 refine⟨_,_,rfl,rfl,⟨[_],by simp only[RepC];rfl,rfl⟩,⟨rfl,rfl,rfl,by rw[Go.Sort.size_grow];exact Nat.le_add_right _ _,λb hb _=>Go.Sort.heap_grow_old (w.drewN k) os hb⟩⟩
def JA(x:List UInt8):Da:=.str (bs x)
theorem P0 {O:List Nat} {w:World}:∀{xs:List (List UInt8)} {css:List (List Value)},Ai O w (xs.map JA) css->css=xs.map λx=>[Value.string (bs x)]
 |[],css,h=>by simpa only[Bp,Ai]using h
 |
  x::xs,css,h=>by
  simp only[Am,Ai,JA,RepC]at h
  obtain⟨c1,c2,rfl,rfl,h⟩:=h
  rw[P0 h];rfl
theorem Tk(xs:List (List UInt8)):(xs.map λx=>[Value.string (bs x)]).flatten=xs.map λx=>Value.string (bs x):=by
 induction xs with
 |nil=>rfl
 |cons x xs ih=>simp only[Am,Bu,ih];rfl
theorem NO(C:Cx)(hC:C.P=Tryz.prog)(xs:List (List UInt8))(sep:List UInt8)(hN:xs.length<=1000000)(hlen:(Lib.join xs sep).length<=140737488355328):Sx.Pure C 106 [.list 1 (xs.map JA),.str (bs sep)] (λy=>y=.str (bs (Lib.join xs sep))):=by
 intro O w us hO hg hr
 obtain⟨v,vs,rfl,h3,h2⟩:=D7 hr
 obtain⟨v2,vs2,rfl,h4,h5⟩:=D7 h2
 obtain rfl:=Ee h5
 obtain rfl:=O6 h4
 obtain⟨cs,r,rfl⟩:=h3
 simp only[RepC]at r
 obtain⟨a,c,css,rfl,hc,_,hcs,_,hcell⟩:=r
 have hb:∀w':World,Below w.heap.size w w'->Tch [] w w':=λw' h=>⟨h.os,h.tape,h.output,h.size,λb hb _=>h.block b hb⟩
 obtain rfl:=P0 hcs
 rw[Ac]at hc
 rw[hC]
 refine⟨by kernel_rfl,?_⟩
 show Calls Tryz.prog 106 #[.slice a (xs.map JA).length c,.string (bs sep)] w _
 rw[Ac]
 cases xs with
 |
  nil=>
  refine(Any.strings_Join_none Tryz.joinL X6 a c (bs sep) w).mono ?_
  rintro e w' ⟨rfl,rfl⟩
  exact⟨_,_,rfl,rfl,⟨[_],by simp only[RepC];rfl,rfl⟩,Tch.refl _ _⟩
 |
  cons x xs=>
  obtain⟨b,o,rfl,_,hbl,hcl⟩:=hcell.resolve_left (by simp)
  rw[Tk]at hcl
  have hmap:((x::xs).map bs).map (·.data.toList)=x::xs:=by
   rw[Np]
   have:((λy:ByteArray=>y.data.toList)∘bs)=id:=by funext z;simp[bs]
   rw[this,List.map_id]
  have:=Any.strings_Join Tryz.joinL X6 b o c ((x::xs).map bs) (bs sep) w (λj y hy=>by
   refine hcl j (.string y) ?_
   rw[Al]at hy⊢
   obtain⟨z,hz,rfl⟩:=BP.1 hy
   rw[hz];rfl) hbl (by rw[Ac];omega) (by rw[Ac];exact hc) (by rw[hmap];exact hlen)
  rw[hmap,Ac]at this
  refine this.mono ?_
  rintro e w' ⟨rfl,h⟩
  exact⟨_,_,rfl,rfl,⟨[_],by simp only[RepC];rfl,rfl⟩,hb _ h⟩
def Ru:List (Nat×Plan):=[(10,.leaf [0,0,1,2,0,0,1,2,0,6,3,0] [0,1,5,2,6,3,4,7,8,9,10,11] [0,0,2,6,14,0,32,110,254,510,1023,2047])]
def Wa:List FuncId:=[105,106]
set_option maxHeartbeats 4000000 in
theorem LN(p:Pt)(hl:p.labels.length<=1000)(hll:∀x∈p.labels,0<=x/\x<=999999)(he:p.edges.length<=1000)(hee:∀e∈p.edges,(0<=e.a/\e.a<=999999)/\0<=e.b/\e.b<=999999):Sx.Pure C3 59 [Fv p] (λy=>y=.str (bs (Ep p))):=by
 have hdl:(p.labels.map dI).length=p.labels.length:=Ac _
 have hde:(p.edges.map dE).length=p.edges.length:=Ac _
 refine N7 Tryz.func59 Tryz.ntmps59 Wa Ru ?_
 ((conv=>whnf);repeat' ((first|refine odw ?_|refine nx ?_|refine AX (λ_=>?_) (λ_=>?_))<;>conv=>whnf))
 refine BK (ι:=Nat) (λi=>i<=p.labels.length) (λi=>[(12,.d (.int .i64 i)),(11,.d (.int .i64 p.labels.length)),(10,.d (D1 p.labels)),(4,.d .nils),(3,.own 300),(1,.own 1)]) (λi=>[(1,.cells 31 [.d (D1 p.labels),.d (Ip p.edges)]),(300,.slice 9 1 (((p.labels.take i).map Lib.itoa).map JA))]) (λi=>p.labels.length-i) 0 (λ_=>rfl) (AA _) (.own 3 300 9 1 rfl rfl (.refl _ _)) ⟨rfl,by rw[<-hdl];rfl,rfl,rfl,rfl,rfl,trivial⟩ ⟨rfl,rfl,trivial⟩ ?_
 intro i hi
 refine GX Wa Ru ?_
 by_cases hil:i<p.labels.length
 ·have hx:=Ab hil
  have hxb:=hll _ (Gv hil)
  generalize p.labels[i]=x at hx hxb
  have hxd:(p.labels.map dI)[i]? =some (.int .i64 x):=by rw[Al,hx];rfl
  have hit:=II x (by omega) (by omega)
  have hlen:(((p.labels.take i).map Lib.itoa).map JA).length=i:=by simp only[Ac,B5];omega
  (conv=>whnf)
  (repeat' ((first|refine A6 ?_ ?_|refine Bq hxd rfl ?_|refine DD tab rfl hit rfl ?_|refine nx ?_|refine AX (λ_=>?_) (λ_=>?_)|exact Bj)<;>conv=>whnf))
  refine⟨i+1,_,_,by omega,.refl _ _,⟨rfl,rfl,rfl,rfl,rfl,rfl,trivial⟩,⟨rfl,El ?_,trivial⟩,by omega⟩
  rw[Bc,hx];simp[JA]
 ·have e:p.labels.take i=p.labels:=AN (by omega)
  rw[e]
  ((conv=>whnf);repeat' ((first|refine odw ?_|refine nx ?_|refine AX (λ_=>?_) (λ_=>?_))<;>conv=>whnf))
  refine BK (ι:=Nat) (λi=>i<=p.edges.length) (λi=>[(25,.d (.int .i64 i)),(24,.d (.int .i64 p.edges.length)),(23,.d (Ip p.edges)),(4,.own 301),(3,.own 300),(1,.own 1)]) (λi=>[(1,.cells 31 [.d (D1 p.labels),.d (Ip p.edges)]),(300,.slice 9 1 ((p.labels.map Lib.itoa).map JA)),(301,.slice 9 1 (((p.edges.take i).map HG).map JA))]) (λi=>p.edges.length-i) 0 (λ_=>rfl) (AA _) (.own 4 301 9 1 rfl rfl (.refl _ _)) ⟨rfl,by rw[<-hde];rfl,rfl,rfl,rfl,rfl,trivial⟩ ⟨rfl,rfl,rfl,trivial⟩ ?_
  intro j hj
  refine GX Wa Ru ?_
  by_cases hjl:j<p.edges.length
  ·have hx:=Ab hjl
   have hxb:=hee _ (Gv hjl)
   generalize p.edges[j]=e at hx hxb
   have hxd:(p.edges.map dE)[j]? =some (.agg [.int .i64 e.a,.int .i64 e.b]):=by rw[Al,hx];rfl
   have hia:=II e.a (by omega) (by omega)
   have hib:=II e.b (by omega) (by omega)
   have la:=Hz hxb.1.1 hxb.1.2
   have lb:=Hz hxb.2.1 hxb.2.2
   have za:=FI (Lib.itoa e.a)
   have zb:=FI (Lib.itoa e.b)
   have zc:(bs (Lib.itoa e.a)++bs [45]).size=(Lib.itoa e.a).length+1:=by rw[Kp,FI];simp
   have hlen:(((p.edges.take j).map HG).map JA).length=j:=by simp only[Ac,B5];omega
   (conv=>whnf)
   (repeat' ((first|refine A6 ?_ ?_|refine Bq hxd rfl ?_|refine DD tab rfl hia rfl ?_|refine DD tab rfl hib rfl ?_|refine OY (a:=bs (Lib.itoa e.a)) (b:=bs [45]) (by rw[za];simp[FI];omega) ?_|refine OY (a:=bs (Lib.itoa e.a)++bs [45]) (b:=bs (Lib.itoa e.b)) (by omega) ?_|refine nx ?_|refine AX (λ_=>?_) (λ_=>?_)|exact Bj)<;>conv=>whnf))
   refine⟨j+1,_,_,by omega,.refl _ _,⟨rfl,rfl,rfl,rfl,rfl,rfl,trivial⟩,⟨rfl,rfl,El ?_,trivial⟩,by omega⟩
   have hs:JA (HG e)=.str ((bs (Lib.itoa e.a)++bs [45])++bs (Lib.itoa e.b)):=by unfold JA HG;rw[Kp,Kp];simp
   rw[Bc,hx,AZ,AZ]
   show _=_++[JA (HG e)]
   rw[hs];rfl
  ·have e:p.edges.take j=p.edges:=AN (by omega)
   rw[e]
   have l1:=Mn (m:=6) [44] (p.labels.map Lib.itoa) (λx hx=>by
    obtain⟨y,hy,rfl⟩:=Av.1 hx
    exact Hz (hll y hy).1 (hll y hy).2)
   have l2:=Mn (m:=13) [44] (p.edges.map HG) (λx hx=>by
    obtain⟨y,hy,rfl⟩:=Av.1 hx
    have:=hee y hy
    have h1:=Hz this.1.1 this.1.2
    have h2:=Hz this.2.1 this.2.2
    unfold HG
    rw[Ao,Au];omega)
   rw[Ac,CX]at l1 l2
   have j1:=NO C3 rfl (p.labels.map Lib.itoa) [44] (by rw[Ac];omega) (by omega)
   have j2:=NO C3 rfl (p.edges.map HG) [44] (by rw[Ac];omega) (by omega)
   have z1:=FI (Lib.join (p.labels.map Lib.itoa) [44])
   have z2:=FI (Lib.join (p.edges.map HG) [44])
   have z3:(bs (Lib.join (p.labels.map Lib.itoa) [44])++bs [124]).size=(Lib.join (p.labels.map Lib.itoa) [44]).length+1:=by rw[Kp,FI];simp
   (conv=>whnf)
   (repeat' ((first|refine A6 ?_ ?_|refine CG 300 rfl ?_|refine CG 301 rfl ?_|refine A8 rfl j1 ?_|refine A8 rfl j2 ?_|refine OY (a:=bs (Lib.join (p.labels.map Lib.itoa) [44])) (b:=bs [124]) (by rw[z1];simp[FI];omega) ?_|refine OY (a:=bs (Lib.join (p.labels.map Lib.itoa) [44])++bs [124]) (b:=bs (Lib.join (p.edges.map HG) [44])) (by omega) ?_|refine nx ?_|refine AX (λ_=>?_) (λ_=>?_)|exact Bj)<;>conv=>whnf))
   show Da.plain (.str ((bs _++bs [124])++bs _))=_
   unfold Ep
   rw[Kp,Kp]
   simp[Da.plain]
end Go.Proofs.YtjejpdfldmempaaGreatDoor
end
section
namespace Go.Sx
section
variable {C:Cx} {T:ED} {fr:Fr} {σ:Sg}
theorem GG(b:Nat) {n kd:Nat} {o:Oper} {K:Fr->Sg->Prop} {t ty:Nat} {x y:Operand} {k yk:IntKind} {a:Int}(ho:o.op=.binOp .shr t x y ty)(hx:ev C.Γ fr x=.d (.int k a))(hy:ev C.Γ fr y=.d (.int yk (b:Int)))(hb:Nat.ble b k.bits=true)(hkd:kd=3)(hd:Db o.dst n=true)
  (hK:K (Ca o.dst (.d (.int k (a.fdiv (2^b)))) fr) σ):AL C n kd o K fr σ:=by
 subst hkd
 refine AV (by decide) (by decide) hd λB S w0 η φ a' w hM=>?_
 have e1:=DI (Ex (AM hM x) hx)
 have e2:=DI (Ex (AM hM y) hy)
 refine .inr ⟨_,_,hK,?_,CZ _ _,λh=>by cases h⟩
 simp only[execOp,ho]
 rw[e1,e2]
 refine C2 ?_
 have h:Op.shift .shr k a yk (b:Int)=pure (.int k (a.fdiv (2^b))):=by
  unfold Op.shift
  have h1:¬((b:Int)<0):=by omega
  have h2:min ((b:Int).toNat) k.bits=b:=by
   have:=Nat.le_of_ble_eq_true hb
   rw[Dx];omega
  rw[if_neg h1,h2]
 simp[eqGuard,binOp,h]
theorem Uo {e:Int} {K:Int->Prop}(h:0<=e/\e<=4294967295)(hK:K e):∃n,IntKind.u32.wrap e=n/\K n:=⟨e,by
 unfold IntKind.wrap
 simp[IntKind.signed,IntKind.bits]
 omega,hK⟩
theorem RT {k:IntKind} {a:Int} {K:Int->Prop}(h:K (k.wrap a)):∃n,k.wrap a=n/\K n:=⟨_,rfl,h⟩
end
end Go.Sx
namespace Go.Proofs.YtjejpdfldmempaaGreatDoor
open Go.Sx Go.RowKit Go.Reg Go.Gr
set_option maxRecDepth 100000
theorem YH {n:Nat} {c:Code} {f:FuncId} {fn:Func} {xs:List Da} {E k:Nat} {Q:List Da->Prop}(hf:C3.P.funcs[f]? =some fn)(hn:fn.ntmps=n)(G:List FuncId)(pl:List (Nat×Plan))(h:CU C3 tab n pl c (Iz tab fn.results.toList (Iu E k Q)) (params (Cf xs) 0) [])(hb:fn.body=some c:=by rfl)(hrun:∀(vs:Array Value) (w:World),(callFunc f vs).run C3.P w=.ok (.enter f vs) w:=by intros;kernel_rfl)(hk:BA C3.P G pl c=true:=by kernel_rfl)(hl:xs.length<=n:=by simp):DF C3 f xs E k Q:=OL Dc hf hb hn hrun hk hl h
def w4(x:Int):List Int:=[IntKind.u8.wrap (x.fdiv (2^24)),IntKind.u8.wrap (x.fdiv (2^16)),IntKind.u8.wrap (x.fdiv (2^8)),IntKind.u8.wrap x]
def Si:List (Nat×Plan):=[]
def VX:List FuncId:=[]
theorem VG:BA Tryz.prog VX Si (Tryz.f109.body.getD .skip)=true:=by kernel_rfl
theorem UG(vs:Array Value)(w:World):(callFunc 109 vs).run C3.P w=.ok (.enter 109 vs) w:=by kernel_rfl
theorem Ta(x:Int):DF C3 109 [.nils,.int .u32 x] 5 1 (λr=>r=bD (w4 x)):=by
 refine YH Tryz.func109 Tryz.ntmps109 [] [] ?_
 (conv=>whnf)
 (repeat' ((first|refine A6 ?_ ?_|refine GG 24 rfl rfl rfl rfl rfl rfl ?_|refine GG 16 rfl rfl rfl rfl rfl rfl ?_|refine GG 8 rfl rfl rfl rfl rfl rfl ?_|refine RT ?_|refine nx ?_|refine AX (λ_=>?_) (λ_=>?_)|exact Bj)<;>conv=>whnf))
 exact⟨rfl,rfl,rfl⟩
theorem Ly(bs:List Int)(x:Int)(h:bs.length<=4000000000):QM C3 109 5 1 (bD bs) [.int .u32 x] (λr=>r=bD (bs++w4 x)):=by
 have hl:=MK bs
 refine VD Dc (pl:=Si) (G:=VX) Tryz.func109 rfl Tryz.ntmps109 UG VG (by simp) ?_
 (conv=>whnf)
 (repeat' ((first|refine A6 ?_ ?_|refine GG 24 rfl rfl rfl rfl rfl rfl ?_|refine GG 16 rfl rfl rfl rfl rfl rfl ?_|refine GG 8 rfl rfl rfl rfl rfl rfl ?_|refine RT ?_|refine nx ?_|refine AX (λ_=>?_) (λ_=>?_)|exact Bj)<;>conv=>whnf))
 exact⟨rfl,rfl,by show _=_;rw[VQ];rfl⟩
def wS(bs:List Int):Sg:=[(900,.cells 129 [.own 901,.d .nili]),(901,.slice 5 1 (bD bs))]
def wN:Sg:=[(900,.cells 129 [.d .nils,.d .nili])]
def Rv:List (Nat×Plan):=[(2,.split 4 10 (.leaf [0,0,0,0,1,0,0,0,1,0,3,6,3,0,0,3] [0,1,2,3,5,6,7,4,8,9,10,11,12,13,14,15] [0,0,2,6,14,0,32,96,224,480,1022,2046,4094,8191,16383,32767]) (.leaf [0,0,0,0,1,0,0,0,1,0,3,6,3,0,0,3] [0,1,2,3,5,6,7,8,9,10,4,11,12,13,14,15] [0,0,2,6,2030,0,32,96,224,480,992,2046,4094,8191,16383,32767]))]
def Wb:List FuncId:=[]
theorem SL:BA Tryz.prog Wb Rv (Tryz.f65.body.getD .skip)=true:=by kernel_rfl
theorem Sd(vs:Array Value)(w:World):(callFunc 65 vs).run C3.P w=.ok (.enter 65 vs) w:=by kernel_rfl
theorem OK(bs:List Int)(n:Int)(h:bs.length<=4000000000)(h0:0<=n)(h1:n<=4294967295):BH C3 65 [.own 900,.d (.int .i64 n)] (wS bs) [900] (λd σ=>d=.d (.tuple [])/\σ=wS (bs++w4 n)):=by
 have hw:=Ly bs n h
 refine D9 Dc (pl:=Rv) (G:=Wb) Tryz.func65 rfl Tryz.ntmps65 Sd SL (by simp) 999 rfl ?_
 intro vs
 (conv=>whnf)
 (repeat' ((first|refine A6 ?_ ?_|refine Uo ⟨h0,h1⟩ ?_|refine nx ?_|refine AX (λ_=>?_) (λ_=>?_)|exact Bj)<;>conv=>whnf))
 refine J1 rfl rfl hw ?_;rintro ds rfl
 ((conv=>whnf);repeat' ((first|refine odw ?_|refine nx ?_|refine AX (λ_=>?_) (λ_=>?_))<;>conv=>whnf))
 exact⟨_,_,[],wS (bs++w4 n),.lo (.refl _ _),rfl,⟨rfl,rfl,trivial⟩,rfl,rfl,rfl⟩
theorem St(n:Int)(h0:0<=n)(h1:n<=4294967295):BH C3 65 [.own 900,.d (.int .i64 n)] wN [900] (λd σ=>d=.d (.tuple [])/\σ=wS (w4 n)):=by
 refine D9 Dc (pl:=Rv) (G:=Wb) Tryz.func65 rfl Tryz.ntmps65 Sd SL (by simp) 999 rfl ?_
 intro vs
 (conv=>whnf)
 (repeat' ((first|refine A6 ?_ ?_|refine Uo ⟨h0,h1⟩ ?_|refine nx ?_|refine AX (λ_=>?_) (λ_=>?_)|exact Bj)<;>conv=>whnf))
 refine Ko 901 rfl rfl (Ta n) ?_;rintro ds rfl
 ((conv=>whnf);repeat' ((first|refine odw ?_|refine nx ?_|refine AX (λ_=>?_) (λ_=>?_))<;>conv=>whnf))
 exact⟨_,_,[],wS (w4 n),.lo (.refl _ _),rfl,⟨rfl,rfl,trivial⟩,rfl,rfl,rfl⟩
def w8(n:Int):List Int:=w4 (IntKind.u32.wrap ((IntKind.u64.wrap n).fdiv (2^32)))++w4 (IntKind.u32.wrap n)
theorem Ek(n:Int):(w4 n).length=4:=rfl
theorem XO(n:Int):(w8 n).length=8:=rfl
def UX:List (Nat×Plan):=[]
def XK:List FuncId:=[]
theorem Xd:BA Tryz.prog XK UX (Tryz.f68.body.getD .skip)=true:=by kernel_rfl
theorem Wz(vs:Array Value)(w:World):(callFunc 68 vs).run C3.P w=.ok (.enter 68 vs) w:=by kernel_rfl
theorem WM(bs:List Int)(n:Int)(h:bs.length<=3999999996):BH C3 68 [.own 900,.d (.int .i64 n)] (wS bs) [900] (λd σ=>d=.d (.tuple [])/\σ=wS (bs++w8 n)):=by
 have hw:=Ly bs (IntKind.u32.wrap ((IntKind.u64.wrap n).fdiv (2^32))) (by omega)
 have hw2:=Ly (bs++w4 (IntKind.u32.wrap ((IntKind.u64.wrap n).fdiv (2^32)))) (IntKind.u32.wrap n) (by rw[Ao,Ek];omega)
 rw[Bl]at hw2
 refine D9 Dc (pl:=UX) (G:=XK) Tryz.func68 rfl Tryz.ntmps68 Wz Xd (by simp) 999 rfl ?_
 intro vs
 (conv=>whnf)
 (repeat' ((first|refine A6 ?_ ?_|refine GG 32 rfl rfl rfl rfl rfl rfl ?_|refine RT ?_|refine nx ?_|refine AX (λ_=>?_) (λ_=>?_)|exact Bj)<;>conv=>whnf))
 refine J1 rfl rfl hw ?_;rintro ds rfl
 (conv=>whnf)
 (repeat' ((first|refine A6 ?_ ?_|refine RT ?_|refine nx ?_|refine AX (λ_=>?_) (λ_=>?_)|exact Bj)<;>conv=>whnf))
 refine J1 rfl rfl hw2 ?_;rintro ds rfl
 ((conv=>whnf);repeat' ((first|refine odw ?_|refine nx ?_|refine AX (λ_=>?_) (λ_=>?_))<;>conv=>whnf))
 exact⟨_,_,[],wS (bs++w8 n),.lo (.refl _ _),rfl,⟨rfl,rfl,trivial⟩,rfl,rfl,rfl⟩
def UP:List (Nat×Plan):=[]
def XD:List FuncId:=[]
theorem Xb:BA Tryz.prog XD UP (Tryz.f66.body.getD .skip)=true:=by kernel_rfl
theorem Wx(vs:Array Value)(w:World):(callFunc 66 vs).run C3.P w=.ok (.enter 66 vs) w:=by kernel_rfl
theorem Us(bs:List Int)(s:ByteArray)(h:bs.length<=3999999996)(hs:s.size<=4294967295):BH C3 66 [.own 900,.d (.str s)] (wS bs) [900] (λd σ=>d=.d (.tuple [])/\σ=wS (bs++w4 s.size++sB s)):=by
 have hn:=OK bs s.size (by omega) (by omega) (by omega)
 refine D9 Dc (pl:=UP) (G:=XD) Tryz.func66 rfl Tryz.ntmps66 Wx Xb (by simp) 999 rfl ?_
 intro vs
 (conv=>whnf)
 ((conv=>whnf);repeat' ((first|refine odw ?_|refine nx ?_|refine AX (λ_=>?_) (λ_=>?_))<;>conv=>whnf))
 refine Bm [] [900,901] hn rfl rfl rfl rfl rfl rfl rfl ?_
 ((conv=>whnf);repeat' ((first|refine odw ?_|refine nx ?_|refine AX (λ_=>?_) (λ_=>?_))<;>conv=>whnf))
 refine Tx 901 Dc rfl rfl rfl rfl rfl rfl rfl rfl rfl rfl rfl rfl rfl rfl rfl rfl rfl rfl (by rw[Ao,Ek];omega) ?_
 ((conv=>whnf);repeat' ((first|refine odw ?_|refine nx ?_|refine AX (λ_=>?_) (λ_=>?_))<;>conv=>whnf))
 exact⟨_,_,[],wS (bs++w4 s.size++sB s),.lo (.refl _ _),rfl,⟨rfl,rfl,trivial⟩,rfl,rfl,rfl⟩
def wL(l:List Int):List Int:=l.flatMap w4
theorem Wl(l:List Int)(x:Int):wL (l++[x])=wL l++w4 x:=by unfold wL;rw[GS,List.flatMap_singleton]
theorem Zn(A l:List Int)(x:Int):A++wL l++w4 x=A++wL (l++[x]):=by rw[Wl,Bl]
theorem L1(l:List Int):(wL l).length=4*l.length:=by
 induction l with
 |nil=>rfl
 |cons x l ih=>unfold wL at*;rw[Dw,Ao,ih,Ek,Au];omega
def Rt:List (Nat×Plan):=[]
def VY:List FuncId:=[]
theorem SK:BA Tryz.prog VY Rt (Tryz.f110.body.getD .skip)=true:=by kernel_rfl
theorem Sb(vs:Array Value)(w:World):(callFunc 110 vs).run C3.P w=.ok (.enter 110 vs) w:=by kernel_rfl
section
variable {l:List Int}
theorem WN(bs:List Int)(hl:∀x∈l,0<=x/\x<=4294967295)(hb:bs.length+4*l.length<=3999999996):BH C3 110 [.own 900,.d (D1 l)] (wS bs) [900] (λd σ=>d=.d (.tuple [])/\σ=wS ((bs++w4 (l.map dI).length)++wL l)):=by
 have hll:(l.map dI).length=l.length:=Ac _
 have hn:=OK bs (l.map dI).length (by omega) (by omega) (by omega)
 refine D9 Dc (pl:=Rt) (G:=VY) Tryz.func110 rfl Tryz.ntmps110 Sb SK (by simp) 999 rfl ?_
 intro vs
 (conv=>whnf)
 ((conv=>whnf);repeat' ((first|refine odw ?_|refine nx ?_|refine AX (λ_=>?_) (λ_=>?_))<;>conv=>whnf))
 refine Bm [] [900,901] hn rfl rfl rfl rfl rfl rfl rfl ?_
 ((conv=>whnf);repeat' ((first|refine odw ?_|refine nx ?_|refine AX (λ_=>?_) (λ_=>?_))<;>conv=>whnf))
 refine BK (ι:=Nat) (λi=>i<=l.length) (λi=>[(12,.d (.int .i64 i)),(11,.d (.int .i64 (l.map dI).length)),(10,.d (D1 l)),(0,.own 900)]) (λi=>(999,.ghost vs [.own 900])::wS ((bs++w4 (l.map dI).length)++wL (l.take i))) (λi=>l.length-i) 0 (λ_=>rfl) (AA _) (.refl _ _) ⟨rfl,rfl,rfl,rfl,trivial⟩ ⟨rfl,rfl,by rw[show wL (l.take 0)=[]from rfl,C8];rfl,trivial⟩ ?_
 intro i hi
 refine GX [] [] ?_
 by_cases hlt:i<l.length
 ·have hx:l[i]? =some l[i]:=Ab hlt
  have hxm:=hl _ (AY hx)
  have htk:l.take (i+1)=l.take i++[l[i]]:=by rw[Bc,hx];rfl
  generalize l[i]=x at hx hxm htk
  have hxd:(l.map dI)[i]? =some (dI x):=by rw[Al,hx];rfl
  have hnx:=OK ((bs++w4 (l.map dI).length)++wL (l.take i)) x (by simp only[Ao,L1,Ek,B5];omega) hxm.1 hxm.2
  rw[Zn,<-htk]at hnx
  (conv=>whnf)
  (repeat' ((first|refine A6 ?_ ?_|refine Bq hxd rfl ?_|refine nx ?_|refine AX (λ_=>?_) (λ_=>?_)|exact Bj)<;>conv=>whnf))
  refine Bm [] [900,901] hnx rfl rfl rfl rfl rfl rfl rfl ?_
  ((conv=>whnf);repeat' ((first|refine odw ?_|refine nx ?_|refine AX (λ_=>?_) (λ_=>?_))<;>conv=>whnf))
  exact⟨i+1,_,_,hlt,.refl _ _,⟨rfl,rfl,rfl,rfl,trivial⟩,⟨rfl,rfl,rfl,trivial⟩,by omega⟩
 ·have e:l.take i=l:=AN (by omega)
  rw[e]
  ((conv=>whnf);repeat' ((first|refine odw ?_|refine nx ?_|refine AX (λ_=>?_) (λ_=>?_))<;>conv=>whnf))
  exact⟨_,_,[],wS ((bs++w4 (l.map dI).length)++wL l),.lo (.refl _ _),rfl,⟨rfl,rfl,trivial⟩,rfl,rfl,rfl⟩
theorem Vu(hl:∀x∈l,0<=x/\x<=4294967295)(hb:4*l.length<=3999999996):BH C3 110 [.own 900,.d (D1 l)] (wN) [900] (λd σ=>d=.d (.tuple [])/\σ=wS (w4 (l.map dI).length++wL l)):=by
 have hll:(l.map dI).length=l.length:=Ac _
 have hn:=St (l.map dI).length (by omega) (by omega)
 refine D9 Dc (pl:=Rt) (G:=VY) Tryz.func110 rfl Tryz.ntmps110 Sb SK (by simp) 999 rfl ?_
 intro vs
 (conv=>whnf)
 ((conv=>whnf);repeat' ((first|refine odw ?_|refine nx ?_|refine AX (λ_=>?_) (λ_=>?_))<;>conv=>whnf))
 refine Bm [] [900] hn rfl rfl rfl rfl rfl rfl rfl ?_
 ((conv=>whnf);repeat' ((first|refine odw ?_|refine nx ?_|refine AX (λ_=>?_) (λ_=>?_))<;>conv=>whnf))
 refine BK (ι:=Nat) (λi=>i<=l.length) (λi=>[(12,.d (.int .i64 i)),(11,.d (.int .i64 (l.map dI).length)),(10,.d (D1 l)),(0,.own 900)]) (λi=>(999,.ghost vs [.own 900])::wS (w4 (l.map dI).length++wL (l.take i))) (λi=>l.length-i) 0 (λ_=>rfl) (AA _) (.refl _ _) ⟨rfl,rfl,rfl,rfl,trivial⟩ ⟨rfl,rfl,by rw[show wL (l.take 0)=[]from rfl,C8];rfl,trivial⟩ ?_
 intro i hi
 refine GX [] [] ?_
 by_cases hlt:i<l.length
 ·have hx:l[i]? =some l[i]:=Ab hlt
  have hxm:=hl _ (AY hx)
  have htk:l.take (i+1)=l.take i++[l[i]]:=by rw[Bc,hx];rfl
  generalize l[i]=x at hx hxm htk
  have hxd:(l.map dI)[i]? =some (dI x):=by rw[Al,hx];rfl
  have hnx:=OK (w4 (l.map dI).length++wL (l.take i)) x (by simp only[Ao,L1,Ek,B5];omega) hxm.1 hxm.2
  rw[Zn,<-htk]at hnx
  (conv=>whnf)
  (repeat' ((first|refine A6 ?_ ?_|refine Bq hxd rfl ?_|refine nx ?_|refine AX (λ_=>?_) (λ_=>?_)|exact Bj)<;>conv=>whnf))
  refine Bm [] [900,901] hnx rfl rfl rfl rfl rfl rfl rfl ?_
  ((conv=>whnf);repeat' ((first|refine odw ?_|refine nx ?_|refine AX (λ_=>?_) (λ_=>?_))<;>conv=>whnf))
  exact⟨i+1,_,_,hlt,.refl _ _,⟨rfl,rfl,rfl,rfl,trivial⟩,⟨rfl,rfl,rfl,trivial⟩,by omega⟩
 ·have e:l.take i=l:=AN (by omega)
  rw[e]
  ((conv=>whnf);repeat' ((first|refine odw ?_|refine nx ?_|refine AX (λ_=>?_) (λ_=>?_))<;>conv=>whnf))
  exact⟨_,_,[],wS (w4 (l.map dI).length++wL l),.lo (.refl _ _),rfl,⟨rfl,rfl,trivial⟩,rfl,rfl,rfl⟩
end
theorem QE(bs:List Int)(h0:bs≠[])(h:bs.length<=4000000000):Pure C3 111 [.list 1 (bD bs)] (λy=>y=.list 1 (bD bs)):=by
 cases bs with
 |nil=>exact absurd rfl h0
 |cons b bs=>
 have h':bs.length+1<=4000000000:=h
 refine N7 Tryz.func111 Tryz.ntmps111 [] [] ?_
 (conv=>whnf)
 ((conv=>whnf);repeat' ((first|refine odw ?_|refine nx ?_|refine AX (λ_=>?_) (λ_=>?_))<;>conv=>whnf))
 exact rfl
def UO:List (Nat×Plan):=[]
def XC:List FuncId:=[]
theorem Xa:BA Tryz.prog XC UO (Tryz.f69.body.getD .skip)=true:=by kernel_rfl
theorem Wv(vs:Array Value)(w:World):(callFunc 69 vs).run C3.P w=.ok (.enter 69 vs) w:=by kernel_rfl
theorem Nr(bs:List Int)(h0:bs≠[])(h:bs.length<=4000000000):BH C3 69 [.own 900] (wS bs) [] (λd σ=>d=.d (.list 1 (bD bs))/\σ=[]):=by
 have hc:=QE bs h0 h
 refine D9 Dc (pl:=UO) (G:=XC) Tryz.func69 rfl Tryz.ntmps69 Wv Xa (by simp) 999 rfl ?_
 intro vs
 (conv=>whnf)
 (repeat' ((first|refine A6 ?_ ?_|refine CG 901 rfl ?_|refine A8 rfl hc ?_|refine nx ?_|refine AX (λ_=>?_) (λ_=>?_)|exact Bj)<;>conv=>whnf))
 exact⟨_,_,[],[],.lo (.refl _ _),rfl,trivial,rfl,rfl,rfl⟩
end Go.Proofs.YtjejpdfldmempaaGreatDoor
end
