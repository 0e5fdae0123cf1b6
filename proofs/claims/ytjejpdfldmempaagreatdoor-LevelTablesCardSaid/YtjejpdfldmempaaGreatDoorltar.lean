/- Merged: Grc Grp Gri Grd. -/
import Derived.Test.YtjejpdfldmempaaGreatDoorltap
import Derived.Test.YtjejpdfldmempaaGreatDoorltaq
section
namespace Go.Proofs.YtjejpdfldmempaaGreatDoor
open Go.Sx Go.RowKit Go.Reg Go.Gr
set_option maxRecDepth 100000
def dE(e:Edg):Da:=.agg [.int .i64 e.a,.int .i64 e.b]
def dI(n:Int):Da:=.int .i64 n
def Bx(l:List Int):Da:=.list 1 (l.map dI)
def Er(l:List Edg):Da:=.list 2 (l.map dE)
def ZH:List (Nat×Plan):=[]
def jJ:List FuncId:=[]
theorem FU(e:Edg):Pure C1 165 [dE e] (λy=>y=dE (turn e)):=by
 refine AT Tryz.func165 Tryz.ntmps165 jJ ZH ?_
 ((conv=>whnf);repeat' ((first|refine odw ?_|refine nx ?_|refine A5 (λ_=>?_) (λ_=>?_))<;>conv=>whnf))
 all_goals exact rfl
def pS:List (Nat×Plan):=[]
def tD:List FuncId:=[]
theorem Me(a:Int):Pure C1 143 [.int .i64 a] (λy=>y=.bool false):=by
 refine AT Tryz.func143 Tryz.ntmps143 tD pS ?_
 ((conv=>whnf);repeat' ((first|refine odw ?_|refine nx ?_|refine A5 (λ_=>?_) (λ_=>?_))<;>conv=>whnf))
 show Da.plain _=_
 simp[Da.plain]
def WQ:List (Nat×Plan):=[]
def bX:List FuncId:=[]
theorem Gt(a b:Int):Pure C1 101 [.int .i64 a,.int .i64 b] (λy=>y=.int .i64 (Dg a b)):=by
 refine AT Tryz.func101 Tryz.ntmps101 bX WQ ?_
 ((conv=>whnf);repeat' ((first|refine odw ?_|refine nx ?_|refine A5 (λ_=>?_) (λ_=>?_))<;>conv=>whnf))
 refine AH rfl (Me a) ?_;rintro y rfl;((conv=>whnf);repeat' ((first|refine odw ?_|refine nx ?_|refine A5 (λ_=>?_) (λ_=>?_))<;>conv=>whnf))
 refine AH rfl (Me b) ?_;rintro y rfl;((conv=>whnf);repeat' ((first|refine odw ?_|refine nx ?_|refine A5 (λ_=>?_) (λ_=>?_))<;>conv=>whnf))
 ·have e:Dg a b=-1:=by unfold Dg;rw[if_pos (by assumption)]
  rw[e];exact rfl
 ·have e:Dg a b=1:=by unfold Dg;rw[if_neg (by assumption),if_pos (by assumption)]
  rw[e];exact rfl
 ·have e:Dg a b=0:=by unfold Dg;rw[if_neg (by assumption),if_neg (by assumption)]
  rw[e];exact rfl
def oA:List (Nat×Plan):=[]
def tC:List FuncId:=[]
theorem Y0(a b:Int):Pure C1 100 [.list 1 [.int .i64 a,.int .i64 b]] (λy=>y=.int .i64 (if a≠0 then a else b)):=by
 refine AT Tryz.func100 Tryz.ntmps100 tC oA ?_
 ((conv=>whnf);repeat' ((first|refine odw ?_|refine nx ?_|refine A5 (λ_=>?_) (λ_=>?_))<;>conv=>whnf))
 refine gM (ι:=Nat) (λi=>i<=2/\(1<=i->a=0)/\(2<=i->b=0)) (λi=>[(3,.d (.int .i64 0)),(6,.d (.list 1 [.int .i64 a,.int .i64 b])),(7,.d (.int .i64 2)),(8,.d (.int .i64 i))]) (λ_=>[]) (λi=>2-i) 0 (λ_=>rfl) ⟨by omega,by omega,by omega⟩ ⟨rfl,rfl,rfl,rfl,trivial⟩ trivial ?_
 rintro i ⟨hi,h1,h2⟩
 refine BV tC oA ?_
 rcases(show i=0\/i=1\/i=2 by omega)with rfl|rfl|rfl
 ·by_cases ha:a=0
  ·((conv=>whnf);repeat' ((first|refine odw ?_|refine nx ?_|refine A5 (λ_=>?_) (λ_=>?_))<;>conv=>whnf))
   refine⟨0,_,rfl,rfl,?_⟩
   ((conv=>whnf);repeat' ((first|refine odw ?_|refine nx ?_|refine A5 (λ_=>?_) (λ_=>?_))<;>conv=>whnf))
   exact⟨1,⟨by omega,λ_=>ha,by omega⟩,⟨rfl,rfl,rfl,rfl,trivial⟩,trivial,by omega⟩
  ·rw[if_pos ha]
   ((conv=>whnf);repeat' ((first|refine odw ?_|refine nx ?_|refine A5 (λ_=>?_) (λ_=>?_))<;>conv=>whnf))
   refine⟨0,_,rfl,rfl,?_⟩
   ((conv=>whnf);repeat' ((first|refine odw ?_|refine nx ?_|refine A5 (λ_=>?_) (λ_=>?_))<;>conv=>whnf))
   exact rfl
 ·rw[if_neg (by have:=h1 (by omega);omega)]
  by_cases hb:b=0
  ·((conv=>whnf);repeat' ((first|refine odw ?_|refine nx ?_|refine A5 (λ_=>?_) (λ_=>?_))<;>conv=>whnf))
   refine⟨1,_,rfl,rfl,?_⟩
   ((conv=>whnf);repeat' ((first|refine odw ?_|refine nx ?_|refine A5 (λ_=>?_) (λ_=>?_))<;>conv=>whnf))
   exact⟨2,⟨by omega,λ_=>h1 (by omega),λ_=>hb⟩,⟨rfl,rfl,rfl,rfl,trivial⟩,trivial,by omega⟩
  ·((conv=>whnf);repeat' ((first|refine odw ?_|refine nx ?_|refine A5 (λ_=>?_) (λ_=>?_))<;>conv=>whnf))
   refine⟨1,_,rfl,rfl,?_⟩
   ((conv=>whnf);repeat' ((first|refine odw ?_|refine nx ?_|refine A5 (λ_=>?_) (λ_=>?_))<;>conv=>whnf))
   exact rfl
 ·rw[if_neg (by have:=h1 (by omega);omega),h2 (by omega)]
  ((conv=>whnf);repeat' ((first|refine odw ?_|refine nx ?_|refine A5 (λ_=>?_) (λ_=>?_))<;>conv=>whnf))
  exact rfl
def fH:List (Nat×Plan):=[(1,.leaf [0,1,0,1,2,0,1,0,1,2,6,2,0] [0,2,5,7,1,3,6,8,4,9,10,11,12] [0,1,0,4,15,0,32,0,128,511,1023,2047,4095])]
def nW:List FuncId:=[101,100]
theorem WU(x y:Edg):Pure C1 166 [dE x,dE y] (λr=>r=.int .i64 (BW x y)):=by
 refine AT Tryz.func166 Tryz.ntmps166 nW fH ?_
 ((conv=>whnf);repeat' ((first|refine odw ?_|refine nx ?_|refine A5 (λ_=>?_) (λ_=>?_))<;>conv=>whnf))
 refine AH rfl (Gt _ _) ?_;rintro r rfl;((conv=>whnf);repeat' ((first|refine odw ?_|refine nx ?_|refine A5 (λ_=>?_) (λ_=>?_))<;>conv=>whnf))
 refine AH rfl (Gt _ _) ?_;rintro r rfl;((conv=>whnf);repeat' ((first|refine odw ?_|refine nx ?_|refine A5 (λ_=>?_) (λ_=>?_))<;>conv=>whnf))
 refine Ox tab rfl (Y0 _ _) (λy hy=>by subst hy;rfl) ?_;rintro r rfl;((conv=>whnf);repeat' ((first|refine odw ?_|refine nx ?_|refine A5 (λ_=>?_) (λ_=>?_))<;>conv=>whnf))
 exact rfl
def P7:List (Nat×Plan):=[]
def Tz:List FuncId:=[]
theorem bF:BQ Tryz.prog Tz P7 (Tryz.f60.body.getD .skip)=true:=by kernel_rfl
theorem Zz(vs:Array Value)(w:World):(callFunc 60 vs).run C1.P w=.ok (.enter 60 vs) w:=by kernel_rfl
theorem Ib(l:List Int)(hl:l.length<=4294967296):D4 C1 60 [Bx l] 3 1 (λds=>ds=l.map dI):=by
 have hlm:(l.map dI).length=l.length:=Ac _
 refine SL EN (pl:=P7) (G:=Tz) Tryz.func60 rfl Tryz.ntmps60 Zz bF (by simp) ?_
 cases l with
 |
  nil=>
  ((conv=>whnf);repeat' ((first|refine odw ?_|refine nx ?_|refine A5 (λ_=>?_) (λ_=>?_))<;>conv=>whnf))
  refine Y1 rfl Tryz.underlying28 rfl rfl (.inr rfl) rfl ?_
  intro b
  cases b<;>((conv=>whnf);repeat' ((first|refine odw ?_|refine nx ?_|refine A5 (λ_=>?_) (λ_=>?_))<;>conv=>whnf))
  ·exact⟨rfl,rfl,rfl⟩
  ·exact rfl
 |
  cons x l=>
  have hlm2:(([]:List Da).length+((x::l).map dI).length)<=4294967296:=by rw[hlm];simpa using hl
  ((conv=>whnf);repeat' ((first|refine odw ?_|refine nx ?_|refine A5 (λ_=>?_) (λ_=>?_))<;>conv=>whnf))
  refine GW hlm2 ?_
  ((conv=>whnf);repeat' ((first|refine odw ?_|refine nx ?_|refine A5 (λ_=>?_) (λ_=>?_))<;>conv=>whnf))
  exact⟨rfl,rfl,by simp⟩
end Go.Proofs.YtjejpdfldmempaaGreatDoor
end
section
namespace Go.Gr
theorem aF(E:List Edg)(i v:Nat):(Eh (E.take i) v).length<=(Eh E v).length:=by
 unfold Eh
 rw[Ac,Ac]
 exact((List.take_sublist i E).filter _).length_le
theorem ZW(E:List Edg)(i v:Nat):(DJ (E.take i) v).length<=(DJ E v).length:=by
 unfold DJ
 rw[Ac,Ac]
 exact((List.take_sublist i E).filter _).length_le
theorem Qz(E:List Edg)(v:Nat):F3 E v<=E.length*2:=by
 unfold F3 Df Eh DJ
 rw[Ae,Ac,Ac]
 have h1:=DF (λe:Edg=>decide (e.b=(v:Int))) E
 have h2:=DF (λe:Edg=>decide (e.a=(v:Int))) E
 omega
def El(E:List Edg):Nat->Int
 |0=>0
 |v+1=>(F3 E v:Int)
theorem Q0(E:List Edg)(v:Nat):0<=El E v/\El E v<=E.length*2:=by
 cases v with
 |zero=>simp only[El];omega
 |succ v=>have:=Qz E v;simp only[El];omega
theorem DG {E:List Edg} {i:Nat} {e:Edg}(h:E[i]? =some e):E.take (i+1)=E.take i++[e]:=by
 rw[A2,h];rfl
theorem XK {E:List Edg} {i:Nat} {a b:Nat}(h:E[i]? =some ⟨(a:Int),(b:Int)⟩)(hab:a<b)(v:Nat):
  El (E.take (i+1)) v=if v=b+1 then El (E.take i) (b+1)+1 else if v=a+1 then El (E.take i) (a+1)+1 else El (E.take i) v:=by
 rw[DG h]
 cases v with
 |zero=>simp[El]
 |
  succ v=>
  simp only[El,V6,Nat.add_right_cancel_iff]
  by_cases h1:v=b
  ·subst h1
   rw[if_pos rfl,if_pos rfl,if_neg (by omega)];omega
  ·rw[if_neg (by omega),if_neg h1]
   by_cases h2:v=a
   ·subst h2;rw[if_pos rfl,if_pos rfl];omega
   ·rw[if_neg (by omega),if_neg h2];omega
def EK(E:List Edg)(j v:Nat):Int:=if v<=j then(off (F3 E) v:Int)else El E v
theorem Wv(E:List Edg)(v:Nat):EK E 0 v=El E v:=by
 cases v with
 |zero=>rfl
 |succ v=>simp[EK]
theorem Ww(E:List Edg)(j v:Nat):EK E (j+1) v=if v=j+1 then EK E j (j+1)+EK E j j else EK E j v:=by
 simp only[EK]
 by_cases h:v=j+1
 ·subst h
  rw[if_pos (Av _),if_pos rfl,if_neg (by omega),if_pos (Av _)]
  simp only[off,El];omega
 ·rw[if_neg h]
  by_cases h2:v<=j
  ·rw[if_pos (by omega),if_pos h2]
  ·rw[if_neg (by omega),if_neg h2]
theorem qD(E:List Edg)(n:Nat)(h:∀e∈E,0<=e.a/\e.a<n/\0<=e.b/\e.b<n) {v:Nat}(hv:v<=n):off (F3 E) v<=2*E.length:=by
 have:=G8 (F3 E) hv
 rw[OD E n h]at this
 exact this
def Fz(E:List Edg)(i j:Nat)(v:Nat):List Int:=Eh (E.take i) v++DJ (E.take j) v
def GM(E:List Edg)(i j:Nat)(v:Nat):List Int:=FR (E.take i) v++EV (E.take j) v
theorem OB(E:List Edg)(i j v:Nat):(Fz E i j v).length<=F3 E v:=by
 unfold Fz F3 Df
 rw[Ae,Ae]
 have:=aF E i v
 have:=ZW E j v
 omega
theorem Ua(E:List Edg)(i j v:Nat):(GM E i j v).length=(Fz E i j v).length:=by
 unfold Fz GM
 rw[Ae,Ae,(JV _ v).1,(JV _ v).2]
theorem Ys(E:List Edg)(i j v:Nat):(GM E i j v).length<=F3 E v:=by rw[Ua];exact OB E i j v
theorem Rl(E:List Edg)(v:Nat):Fz E 0 0 v=[]:=by simp[Fz,Eh,DJ]
theorem Z8(E:List Edg)(v:Nat):GM E 0 0 v=[]:=by simp[GM,FR,EV]
theorem Z6 {E:List Edg} {i:Nat} {a b:Nat}(h:E[i]? =some ⟨(a:Int),(b:Int)⟩):Fz E (i+1) 0=Dn (Fz E i 0) b a:=by
 funext v
 unfold Fz Dn
 rw[DG h,(JR _ _ _).1]
 simp only[List.take_zero,kF]
 by_cases hv:v=b
 ·subst hv;simp[DJ]
 ·have:¬b=v:=λe=>hv e.symm
  simp[DJ,hv,this]
theorem ZA {E:List Edg} {i:Nat} {a b:Nat}(h:E[i]? =some ⟨(a:Int),(b:Int)⟩):GM E (i+1) 0=Dn (GM E i 0) b i:=by
 funext v
 have hi:i<E.length:=(Ad.1 h).1
 unfold GM Dn
 rw[DG h,(Va _ _ _).1]
 simp only[List.take_zero,kF,Aw,IQ (Nat.le_of_lt hi)]
 by_cases hv:v=b
 ·subst hv;simp[EV]
 ·have:¬b=v:=λe=>hv e.symm
  simp[EV,hv,this]
theorem Z5 {E:List Edg} {k j:Nat} {a b:Nat}(h:E[j]? =some ⟨(a:Int),(b:Int)⟩):Fz E k (j+1)=Dn (Fz E k j) a b:=by
 funext v
 unfold Fz Dn
 rw[DG h,(JR _ _ _).2]
 simp only[kF]
 by_cases hv:v=a
 ·subst hv;simp
 ·have:¬a=v:=λe=>hv e.symm
  simp[hv,this]
theorem Z9 {E:List Edg} {k j:Nat} {a b:Nat}(h:E[j]? =some ⟨(a:Int),(b:Int)⟩):GM E k (j+1)=Dn (GM E k j) a j:=by
 funext v
 have hj:j<E.length:=(Ad.1 h).1
 unfold GM Dn
 rw[DG h,(Va _ _ _).2]
 simp only[kF,Aw,IQ (Nat.le_of_lt hj)]
 by_cases hv:v=a
 ·subst hv;simp
 ·have:¬a=v:=λe=>hv e.symm
  simp[hv,this]
theorem eG(E:List Edg):Fz E E.length E.length=Df E:=by funext v;simp[Fz,Df]
theorem eH(E:List Edg):GM E E.length E.length=FY E:=by funext v;simp[GM,FY]
theorem gG(R:Nat->List Int)(v:Nat)(u:Int)(w:Nat):((Dn R v u w).length:Int)=if w=v then((R v).length:Int)+1 else(R w).length:=by
 unfold Dn;split<;>simp
theorem Pv {E:List Edg} {i j i' j' v:Nat} {u:Int}(h:Fz E i' j'=Dn (Fz E i j) v u):(Fz E i j v).length<F3 E v:=by
 have:=OB E i' j' v
 rw[h]at this
 simp only[Dn,if_true,Ae,CB]at this
 omega
theorem VL(n:Nat)(D:Nat->Nat)(R:Nat->List Int)(h:∀v,R v=[]):NG n R D=List.replicate (off D n) 0:=by
 induction n with
 |zero=>rfl
 |succ n ih=>rw[MG,ih,h n];simp[off,List.replicate_append_replicate]
end Go.Gr
end
section
namespace Go.Gr
def rY(x y:Edg):Bool:=decide (¬BW y x<0)
def Fx(edges:List Edg):List Edg:=(edges.map turn).mergeSort rY
theorem FK(edges:List Edg):(Fx edges).Perm (edges.map turn):=List.mergeSort_perm _ _
theorem IB(edges:List Edg):(Fx edges).Pairwise (λx y=>¬BW y x<0):=by
 have h:=List.pairwise_mergeSort (le:=rY) (λa b c h1 h2=>by
  simp only[rY,decide_eq_true_eq]at*
  intro h3
  rcases M9 a b with h|h|h
  ·exact h2 (EZ h3 h)
  ·subst h;exact h2 h3
  ·exact h1 h) (λa b=>by
  simp only[rY,Di,decide_eq_true_eq]
  by_cases h:BW b a<0
  ·exact .inr (N9 h)
  ·exact .inl h) (edges.map turn)
 exact h.imp (λh=>by simpa[rY]using h)
theorem MD {edges E:List Edg}(hn:(edges.map turn).Nodup)(hp:E.Perm (edges.map turn))(hs:E.Pairwise (λx y=>¬BW y x<0)):E=Fx edges:=
 MS (hp.trans (FK edges).symm) (JL (hp.nodup_iff.2 hn) hs) (JL ((FK edges).nodup_iff.2 hn) (IB edges))
theorem BX.le {E:List Edg}(h:BX E):E.Pairwise (λx y=>¬BW y x<0):=h.imp λh=>N9 h
theorem MC {labels:List Int} {edges:List Edg}(h:De labels edges=none):Gr.Ok ⟨labels,Fx edges⟩:=gZ h (FK edges) (IB edges)
theorem NB(edges:List Edg):(Fx edges).length=edges.length:=by rw[(FK edges).length_eq,Ac]
def Jx(S:List Edg)(k:Nat)(e:Edg):List Edg:=S.take k++[e]++S.drop k
theorem Xx(S:List Edg)(k:Nat)(e:Edg):(Jx S k e).Perm (e::S):=by
 unfold Jx
 rw[Bz,nR]
 refine List.perm_middle.trans ?_
 rw[CA]
theorem Ta {S:List Edg} {k:Nat} {e:Edg}(hS:BX S)(h1:∀x∈S.take k,BW x e<0)(h2:∀x,S[k]? =some x->¬BW x e<0)(hn:e∉S):BX (Jx S k e):=by
 unfold Jx BX
 rw[Bz,nR,DZ,BE]
 have hS':=hS
 unfold BX at hS'
 rw[<-CA k S,DZ]at hS'
 obtain⟨g1,g2,g3⟩:=hS'
 have hhead:∀y∈S.drop k,BW e y<0:=by
  intro y hy
  rcases hd:S.drop k with _|⟨x,l⟩
  ·rw[hd]at hy;cases hy
  ·have hx:S[k]? =some x:=by
    have:=congrArg List.head? hd
    simpa using this
   have hxs:x∈S:=AD hx
   have hex:BW e x<0:=by
    rcases M9 e x with h|h|h
    ·exact h
    ·exact absurd (h▸hxs) hn
    ·exact absurd h (h2 x hx)
   rw[hd]at hy g2
   rcases Ar.1 hy with h|h
   ·exact h▸hex
   ·exact EZ hex ((BE.1 g2).1 y h)
 refine⟨g1,⟨hhead,g2⟩,?_⟩
 intro a ha b hb
 rcases Ar.1 hb with h|h
 ·exact h▸h1 a ha
 ·exact g3 a ha b h
def jZ(E:List Edg)(e:Edg):Int:=match E.findIdx? (λx=>decide (x=e))with
 |some i=>(i:Int)
 |none=>-1
theorem qL {E:List Edg} {e:Edg} {i:Nat}(h:E[i]? =some e)(hn:∀x∈E.take i,x≠e):jZ E e=i:=by
 unfold jZ
 have:E.findIdx? (λx=>decide (x=e))=some i:=by
  rw[AJ]
  obtain⟨h1,h2⟩:=Ad.1 h
  refine⟨h1,by simp[h2],λj hj=>?_⟩
  have:=hn E[j] (AU.2 ⟨j,by omega,rfl⟩)
  simp[this]
 rw[this]
theorem Qg {E:List Edg} {e:Edg}(h:e∉E):jZ E e=-1:=by
 unfold jZ
 have:E.findIdx? (λx=>decide (x=e))=none:=by
  rw[AK]
  intro x hx
  have:x≠e:=λh'=>h (h'▸hx)
  simp[this]
 rw[this]
theorem X0 {E:List Edg} {e:Edg}:0<=jZ E e↔e∈E:=by
 constructor
 ·intro h
  refine Ik λhn=>?_
  rw[Qg hn]at h;omega
 ·intro h
  unfold jZ
  split
  ·omega
  ·rename_i hn
   rw[AK]at hn
   have:=hn e h
   simp at this
structure Part(edges:List Edg)(i:Nat)(S:List Edg):Prop where
 strict:BX S
 perm:S.Perm ((edges.take i).map turn)
theorem Part.zero(edges:List Edg):Part edges 0 []:=⟨List.Pairwise.nil,by simp⟩
theorem Part.next {edges S:List Edg} {i k:Nat} {e:Edg}(h:Part edges i S)(he:edges[i]? =some e)(hn:turn e∉S)(h1:∀x∈S.take k,BW x (turn e)<0)(h2:∀x,S[k]? =some x->¬BW x (turn e)<0):Part edges (i+1) (Jx S k (turn e)):=by
 refine⟨Ta h.strict h1 h2 hn,(Xx _ _ _).trans ?_⟩
 rw[DG he,AF]
 simp only[Ap,B4]
 exact(List.Perm.cons _ h.perm).trans (List.perm_append_comm (l₁:=[turn e]))
theorem Part.mem {edges S:List Edg} {i:Nat}(h:Part edges i S)(e:Edg):e∈S↔e∈(edges.take i).map turn:=h.perm.mem_iff
theorem Part.all {edges S:List Edg} {i:Nat}(h:Part edges i S)(hi:edges.length<=i):S=Fx edges:=by
 have hp:=h.perm
 rw[Ao hi]at hp
 exact MD (hp.nodup_iff.1 h.strict.nodup) hp h.strict.le
theorem LO:∀{l1 l2:List Int},l1.Pairwise (· < ·)->l2.Pairwise (· < ·)->(∀x,x∈l1↔x∈l2)->l1=l2
 |[],[],_,_,_=>rfl
 |[],y::l2,_,_,h=>absurd ((h y).2 (by simp)) (by simp)
 |x::l1,[],_,_,h=>absurd ((h x).1 (by simp)) (by simp)
 |
  x::l1,y::l2,h1,h2,h=>by
  have g1:=BE.1 h1
  have g2:=BE.1 h2
  have hxy:x=y:=by
   rcases Ar.1 ((h x).1 (by simp))with e|e
   ·exact e
   ·rcases Ar.1 ((h y).2 (by simp))with e'|e'
    ·exact e'.symm
    ·have:=g2.1 x e;have:=g1.1 y e';omega
  subst hxy
  rw[LO g1.2 g2.2 λz=>?_]
  constructor
  ·intro hz
   rcases Ar.1 ((h z).1 (by simp[hz]))with e|e
   ·have:=g1.1 z hz;omega
   ·exact e
  ·intro hz
   rcases Ar.1 ((h z).2 (by simp[hz]))with e|e
   ·have:=g2.1 z hz;omega
   ·exact e
theorem Xd {E:List Edg} {v:Nat} {u:Int}:u∈Eh E v↔⟨u,v⟩∈E:=by
 simp only[Eh,Aq,A3,decide_eq_true_eq]
 constructor
 ·rintro⟨e,⟨he,hb⟩,rfl⟩;rw[<-hb];exact he
 ·intro h;exact⟨_,⟨h,rfl⟩,rfl⟩
theorem Xc {E:List Edg} {v:Nat} {u:Int}:u∈DJ E v↔⟨v,u⟩∈E:=by
 simp only[DJ,Aq,A3,decide_eq_true_eq]
 constructor
 ·rintro⟨e,⟨he,hb⟩,rfl⟩;rw[<-hb];exact he
 ·intro h;exact⟨_,⟨h,rfl⟩,rfl⟩
theorem gJ {G:Gr}(h:G.Ok) {v:Nat} {u:Int}:u∈Df G.edges v↔0<=u/\u<G.labels.length/\turn ⟨u,v⟩∈G.edges:=by
 unfold Df
 rw[Ag,Xd,Xc]
 constructor
 ·rintro(h1|h1)
  ·have:=h.edge _ h1
   simp only at this
   refine⟨by omega,by omega,?_⟩
   rw[Io (by simp only;omega)];exact h1
  ·have:=h.edge _ h1
   simp only at this
   refine⟨by omega,by omega,?_⟩
   rw[G1,Io (by simp only;omega)];exact h1
 ·rintro⟨h0,h1,h2⟩
  by_cases hl:u<=(v:Int)
  ·rw[Io (by simpa using hl)]at h2;exact .inl h2
  ·rw[G1,Io (by simp only;omega)]at h2;exact .inr h2
def Lv(E:List Edg)(v:Nat):List Int:=(E.zipIdx.filter λp=>decide (p.1.a=(v:Int)\/p.1.b=(v:Int))).map λp=>(p.2:Int)
theorem GO(E:List Edg)(p:Edg×Nat->Bool):((E.zipIdx.filter p).map λq=>(q.2:Int)).Pairwise (· < ·):=by
 have key:∀(E:List Edg) (k:Nat),((E.zipIdx k).filter p).Pairwise (λx y=>x.2<y.2)/\∀x∈E.zipIdx k,k<=x.2:=by
  intro E
  induction E with
  |nil=>intro k;simp
  |
   cons e E ih=>
   intro k
   have:=ih (k+1)
   rw[NK]
   refine⟨?_,?_⟩
   ·rw[bV]
    split
    ·rw[BE]
     refine⟨λx hx=>?_,this.1⟩
     have:=this.2 x (A3.1 hx).1
     omega
    ·exact this.1
   ·intro x hx
    rcases Ar.1 hx with rfl|hx
    ·simp
    ·have:=this.2 x hx;omega
 rw[BL]
 exact(key E 0).1.imp λh=>by omega
theorem gW {G:Gr}(_h:G.Ok)(v:Nat):∀x,x∈FY G.edges v↔x∈Lv G.edges v:=by
 intro x
 simp only[FY,FR,EV,Lv,Ag,Aq,A3,decide_eq_true_eq]
 constructor
 ·rintro(⟨p,⟨h1,h2⟩,rfl⟩|⟨p,⟨h1,h2⟩,rfl⟩)
  ·exact⟨p,⟨h1,.inr h2⟩,rfl⟩
  ·exact⟨p,⟨h1,.inl h2⟩,rfl⟩
 ·rintro⟨p,⟨h1,h2|h2⟩,rfl⟩
  ·exact .inr ⟨p,⟨h1,h2⟩,rfl⟩
  ·exact .inl ⟨p,⟨h1,h2⟩,rfl⟩
theorem Vb {G:Gr}(h:G.Ok)(v:Nat):(FY G.edges v).Pairwise (· < ·):=by
 unfold FY
 rw[DZ]
 refine⟨GO _ _,GO _ _,?_⟩
 intro a ha b hb
 simp only[FR,EV,Aq,A3,decide_eq_true_eq]at ha hb
 obtain⟨⟨x,i⟩,⟨h1,h2⟩,rfl⟩:=ha
 obtain⟨⟨y,j⟩,⟨h3,h4⟩,rfl⟩:=hb
 simp only at h2 h4⊢
 have hx:=QD.1 h1
 have hy:=QD.1 h3
 simp only at hx hy
 have ex:=h.edge x (AD hx)
 have ey:=h.edge y (AD hy)
 rcases VY i j with hij|hij|hij
 ·omega
 ·subst hij;rw[hx]at hy;cases hy;omega
 ·obtain⟨hi,ei⟩:=Ad.1 hx
  obtain⟨hj,ej⟩:=Ad.1 hy
  have:=AI.1 h.sorted j i hj hi hij
  rw[ei,ej,DX]at this
  omega
theorem mI {G:Gr}(h:G.Ok)(v:Nat):FY G.edges v=Lv G.edges v:=LO (Vb h v) (GO _ _) (gW h v)
end Go.Gr
end
section
namespace Go.Proofs.YtjejpdfldmempaaGreatDoor
open Go.Sx Go.RowKit Go.Reg Go.Gr
set_option maxRecDepth 100000
def Eo(m:Nat)(f:Nat->Int):List Da:=(List.range m).map λv=>dI (f v)
theorem Ic(m:Nat)(f:Nat->Int):(Eo m f).length=m:=by simp[Eo]
theorem MI {m v:Nat} {f:Nat->Int}(h:v<m):(Eo m f)[v]? =some (dI (f v)):=SO _ h
theorem GI {m:Nat} {f g:Nat->Int}(h:∀v,v<m->f v=g v):Eo m f=Eo m g:=by
 unfold Eo
 exact List.map_congr_left λv hv=>by rw[h v (AO.1 hv)]
theorem MH(m k:Nat)(f:Nat->Int)(x:Int):(Eo m f).set k (dI x)=Eo m (λv=>if v=k then x else f v):=by
 unfold Eo
 rw[map_set]
 exact List.map_congr_left λv _=>by by_cases h:v=k<;>simp[h]
theorem bO(m:Nat):List.replicate m (dI 0)=Eo m (λ_=>0):=by
 simp[Eo,List.map_const']
theorem Sb(m:Nat)(f:Nat->Int):Eo m f=((List.range m).map f).map dI:=by simp[Eo,Function.comp_def]
theorem AM {ds:List Da} {i:Nat} {d:Da} {n:Int} {K:Nat->Da->Prop}(hx:ds[i]? =some d)(hn:n=i)(hK:K i d):∃(j:Nat) (d:Da),n=j/\ds[j]? =some d/\K j d:=⟨i,d,hn,hx,hK⟩
theorem I6:∀l:List Int,EU (l.map dI)=true
 |[]=>rfl
 |x::l=>by simp only[Ap,EU,I6 l];rfl
def Fw(n:Nat)(E:List Edg):List Int:=(List.range (n+1)).map λv=>(off (F3 E) v:Int)
def PJ(n:Nat)(E:List Edg):List Int:=(List.range n).flatMap (Df E)
def Xz(n:Nat)(E:List Edg):List Int:=(List.range n).flatMap (FY E)
theorem OJ {l:List Int} {p:Nat}(h:p<(l.map dI).length):∃z:Int,(l.map dI)[p]? =some (.int .i64 z):=by
 rw[Ac]at h
 exact⟨l[p],by rw[Af,Ab h];rfl⟩
def Jm(E:List Edg)(i j:Nat)(v:Nat):Int:=(off (F3 E) v:Int)+(Fz E i j v).length
theorem eU(n:Nat)(E:List Edg)(he:∀e∈E,0<=e.a/\e.a<n/\0<=e.b/\e.b<n)(i j v:Nat)(u id:Int)(hv:v<n) {i' j':Nat}(hR:Fz E i' j'=Dn (Fz E i j) v u)(hI:GM E i' j'=Dn (GM E i j) v id):
  ∃p:Nat,p<2*E.length/\(Eo (n+1) (Jm E i j))[v]? =some (.int .i64 (p:Int))/\p<((NG n (Fz E i j) (F3 E)).map dI).length/\p<((NG n (GM E i j) (F3 E)).map dI).length/\
   ((NG n (Fz E i j) (F3 E)).map dI).set p (.int .i64 u)=(NG n (Fz E i' j') (F3 E)).map dI/\((NG n (GM E i j) (F3 E)).map dI).set p (.int .i64 id)=(NG n (GM E i' j') (F3 E)).map dI/\
   (Eo (n+1) (Jm E i j)).set v (.int .i64 (p+1))=Eo (n+1) (Jm E i' j'):=by
 have hroom:=Pv hR
 have hl:=Ua E i j v
 have ho:=OD E n he
 have hm:=G8 (F3 E) (show v+1<=n by omega)
 simp only[off]at hm
 refine⟨off (F3 E) v+(Fz E i j v).length,by omega,?_,?_,?_,?_,?_,?_⟩
 ·rw[MI (by omega)]
  simp only[dI,Jm,Int.natCast_add]
 ·rw[Ac,Tr (λw=>OB E i j w)];omega
 ·rw[Ac,Tr (λw=>Ys E i j w)];omega
 ·rw[hR,<-YQ u (λw=>OB E i j w) hv hroom,DM];rfl
 ·rw[hI,<-YQ id (λw=>Ys E i j w) hv (by rw[hl];exact hroom),DM,hl];rfl
 ·refine(MH _ _ _ _).trans (GI λw _=>?_)
  simp only[Jm,hR,gG]
  split
  ·rename_i h;subst h;omega
  ·rfl
def JP:List (Nat×Plan):=[(1,.leaf [1,1,0,0,1,0,0,2,0,0,3] [0,1,2,3,4,5,6,7,8,9,10] [0,0,2,6,14,30,62,126,255,511,1023]),
 (5,.leaf [1,0,0,1,0,1,0,0,1,0,0,3] [4,0,1,2,3,5,6,7,8,9,10,11] [0,1,3,7,0,16,48,127,255,511,1023,2047]),
 (6,.leaf [1,0,0,1,0,1,0,0,1,0,0,3] [4,0,1,2,3,5,6,7,8,9,10,11] [0,1,3,7,0,16,48,127,255,511,1023,2047]),
 (11,.leaf [1,0,0,1,0,0,0,1,1,0,0,1,0,0,1,0,0,3] [4,5,12,0,1,2,3,6,7,8,9,10,11,13,14,15,16,17] [0,1,3,7,0,16,63,127,0,256,768,1792,0,7936,16128,32767,65535,131071]),
 (14,.split 1 18 (.split 8 15 (.split 15 18 (.leaf [1,1,1,0,0,1,0,0,2,1,0,0,1,0,0,2,0,0,3,0,0,3] [0,1,2,3,4,5,6,7,9,10,11,12,13,14,8,16,17,15,18,19,20,21] [0,0,0,4,12,28,60,124,252,0,512,1536,3584,7680,15872,32764,8189,73725,262143,524287,1048575,2097151]) (.leaf [1,1,1,0,0,1,0,0,2,1,0,0,1,0,0,2,0,0,3,0,0,3] [0,1,2,3,4,5,6,7,9,10,11,12,13,14,8,16,17,18,15,19,20,21] [0,0,0,4,12,28,60,124,252,0,512,1536,3584,7680,15872,491519,8189,73725,204799,524287,1048575,2097151])) (.leaf [1,1,1,0,0,1,0,0,2,1,0,0,1,0,0,2,0,0,3,0,0,3] [0,1,2,3,4,5,6,7,9,10,11,12,13,14,15,8,16,17,18,19,20,21] [0,0,0,4,12,28,60,124,65276,0,512,1536,3584,7680,15872,32256,65533,131069,262143,524287,1048575,2097151])) (.split 8 15 (.split 15 18 (.leaf [1,1,1,0,0,1,0,0,2,1,0,0,1,0,0,2,0,0,3,0,0,3] [0,2,3,4,5,6,7,9,10,11,12,13,14,8,16,17,15,18,1,19,20,21] [0,524285,0,4,12,28,60,124,252,0,512,1536,3584,7680,15872,32764,8189,73725,262141,524287,1048575,2097151]) (.leaf [1,1,1,0,0,1,0,0,2,1,0,0,1,0,0,2,0,0,3,0,0,3] [0,2,3,4,5,6,7,9,10,11,12,13,14,8,16,17,18,1,15,19,20,21] [0,466941,0,4,12,28,60,124,252,0,512,1536,3584,7680,15872,491517,8189,73725,204797,524287,1048575,2097151])) (.leaf [1,1,1,0,0,1,0,0,2,1,0,0,1,0,0,2,0,0,3,0,0,3] [0,2,3,4,5,6,7,9,10,11,12,13,14,15,8,16,17,18,1,19,20,21] [0,524285,0,4,12,28,60,124,65276,0,512,1536,3584,7680,15872,32256,65533,131069,262141,524287,1048575,2097151])))]
def NL:List FuncId:=[60]
theorem iO:BQ Tryz.prog NL JP (Tryz.f167.body.getD .skip)=true:=by kernel_rfl
theorem eB(vs:Array Value)(w:World):(callFunc 167 vs).run C1.P w=.ok (.enter 167 vs) w:=by kernel_rfl
def WL:List (Nat×Plan):=[(0,.leaf [1,0,0,1,1,0,0,1,1,0,0,1,1,0,0,1,0,0,0,3,0,3] [5,13,16,17,0,1,2,3,4,6,7,8,9,10,11,12,14,15,18,19,20,21] [0,1,3,7,0,0,48,112,0,256,768,1792,0,0,12288,28672,0,0,131071,393215,1048575,2097151])]
def jM:List FuncId:=[]
theorem YK:BQ Tryz.prog jM WL (Tryz.f223.body.getD .skip)=true:=by kernel_rfl
theorem Yq(vs:Array Value)(w:World):(callFunc 223 vs).run C1.P w=.ok (.enter 223 vs) w:=by kernel_rfl
set_option maxHeartbeats 4000000 in
theorem WC(labels:List Int)(E:List Edg)(hn:labels.length<=4096)(hm:E.length<=16384)(he:∀e∈E,0<=e.a/\e.a<e.b/\e.b<labels.length):
  NI C1 167 243 [Bx labels,Er E,.nils,.nils,.nils] [] (λ_y ys=>ys=[Bx labels,Er E,Bx (Fw labels.length E),Bx (PJ labels.length E),Bx (Xz labels.length E)]):=by
 have hll:(labels.map dI).length=labels.length:=Ac _
 have hel:(E.map dE).length=E.length:=Ac _
 refine iR EN (pl:=JP) (G:=NL) Tryz.func167 rfl Tryz.ntmps167 eB iO (by simp) ?_
 intro vs
 (conv=>whnf)
 (repeat' ((first|refine Ai ?_ ?_|refine Mg (labels.length+1) (by omega) (by omega) (by omega) ?_|refine nx ?_|refine A5 (λ_=>?_) (λ_=>?_)|exact AA)<;>conv=>whnf))
 have e0:List.replicate (labels.length+1) (dI 0)=Eo (labels.length+1) (El (E.take 0)):=by
  rw[bO]
  refine GI λv _=>?_
  cases v<;>simp[El,F3,Df,Eh,DJ]
 refine AN (ι:=Nat) (λi=>i<=E.length) (λi=>[(26,.d (.int .i64 i)),(25,.d (.int .i64 (E.map dE).length)),(24,.d (Er E)),(1,.own 1)])
  (λi=>[(1,.cells 54 [.own 900]),(18,.slice 3 1 (Eo (labels.length+1) (El (E.take i)))),(900,.cells 243 [.d (Bx labels),.d (Er E),.own 18,.d .nils,.d .nils]),(901,.ghost vs [.own 900])])
  (λi=>E.length-i) 0 (λ_=>rfl) (As _) (.refl _ _) ⟨rfl,rfl,rfl,rfl,trivial⟩ ⟨rfl,Bj e0,rfl,rfl,trivial⟩ ?_
 intro i hi
 refine BV NL JP ?_
 by_cases hlt:i<E.length
 ·have hx:=Ab hlt
  have hb:=he _ (Bi hlt)
  generalize E[i]=x at hx hb
  obtain⟨a,b⟩:=x
  simp only at hb
  obtain⟨a',rfl⟩:=A1 hb.1
  obtain⟨b',rfl⟩:=A1 (show 0<=b by omega)
  have hxd:(E.map dE)[i]? =some (.agg [.int .i64 (a':Int),.int .i64 (b':Int)]):=by rw[Af,hx];rfl
  have hstep:=XK hx (by omega)
  have ha1:=Q0 (E.take i) (a'+1)
  have hb1:=Q0 (E.take i) (b'+1)
  have htl:(E.take i).length<=16384:=by rw[Aw];omega
  (repeat' ((first|refine Ai ?_ ?_|refine AM hxd (by omega) ?_|refine F2 (i:=a'+1) (by omega) (by rw[Ic];omega) ?_|refine F1 (MI (v:=a'+1) (by omega)) ?_|refine nx ?_|refine A5 (λ_=>?_) (λ_=>?_)|exact AA)<;>conv=>whnf))
  generalize hf1:(λv=>if v=a'+1 then El (E.take i) (a'+1)+1 else El (E.take i) v)=f1
  have hs1:(Eo (labels.length+1) (El (E.take i))).set (a'+1) (.int .i64 (El (E.take i) (a'+1)+1))=Eo (labels.length+1) f1:=by rw[<-hf1];exact MH _ _ _ _
  rw[hs1]
  have hat:(Eo (labels.length+1) f1)[b'+1]? =some (.int .i64 (El (E.take i) (b'+1))):=by
   rw[MI (by omega),<-hf1]
   have:¬b'+1=a'+1:=by omega
   simp only[this,if_false];rfl
  (repeat' ((first|refine Ai ?_ ?_|refine F2 (i:=b'+1) (by omega) (by rw[Ic];omega) ?_|refine F1 hat ?_|refine nx ?_|refine A5 (λ_=>?_) (λ_=>?_)|exact AA)<;>conv=>whnf))
  have hs2:(Eo (labels.length+1) f1).set (b'+1) (.int .i64 (El (E.take i) (b'+1)+1))=Eo (labels.length+1) (El (E.take (i+1))):=by
   refine(MH _ _ _ _).trans (GI λv _=>?_)
   rw[hstep v,<-hf1]
  exact⟨i+1,_,_,hlt,.refl _ _,⟨rfl,rfl,rfl,rfl,trivial⟩,⟨rfl,Bj hs2,rfl,rfl,trivial⟩,by omega⟩
 ·have hie:i=E.length:=by omega
  subst hie
  rw[Dr]
  ((conv=>whnf);repeat' ((first|refine odw ?_|refine nx ?_|refine A5 (λ_=>?_) (λ_=>?_))<;>conv=>whnf))
  have hedge:∀e∈E,0<=e.a/\e.a<labels.length/\0<=e.b/\e.b<labels.length:=λe h=>by have:=he e h;omega
  have e1:Eo (labels.length+1) (El E)=Eo (labels.length+1) (EK E 0):=GI λv _=>(Wv E v).symm
  refine AN (ι:=Nat) (λj=>j<=labels.length) (λj=>[(58,.d (.int .i64 j)),(57,.d (.int .i64 (labels.map dI).length)),(1,.own 1)])
   (λj=>[(1,.cells 54 [.own 900]),(18,.slice 3 1 (Eo (labels.length+1) (EK E j))),(900,.cells 243 [.d (Bx labels),.d (Er E),.own 18,.d .nils,.d .nils]),(901,.ghost vs [.own 900])])
   (λj=>labels.length-j) 0 (λ_=>rfl) (As _) (.refl _ _) ⟨rfl,rfl,rfl,trivial⟩ ⟨rfl,Bj e1,rfl,rfl,trivial⟩ ?_
  intro j hj
  refine BV NL JP ?_
  by_cases hlt:j<labels.length
  ·have hsb:∀v,v<=labels.length->0<=EK E j v/\EK E j v<=65536:=λv hv=>by
    unfold EK
    have h1:=qD E labels.length hedge hv
    have h2:=Q0 E v
    split<;>omega
   have h0:=hsb j (by omega)
   have h1:=hsb (j+1) (by omega)
   have hat0:(Eo (labels.length+1) (EK E j))[j]? =some (.int .i64 (EK E j j)):=MI (by omega)
   have hat1:(Eo (labels.length+1) (EK E j))[j+1]? =some (.int .i64 (EK E j (j+1))):=MI (by omega)
   (repeat' ((first|refine Ai ?_ ?_|refine F2 (i:=j+1) (by omega) (by rw[Ic];omega) ?_|refine F2 (i:=j) (by omega) (by rw[Ic];omega) ?_|refine F1 hat1 ?_|refine F1 hat0 ?_|refine nx ?_|refine A5 (λ_=>?_) (λ_=>?_)|exact AA)<;>conv=>whnf))
   have hs2:(Eo (labels.length+1) (EK E j)).set (j+1) (.int .i64 (EK E j (j+1)+EK E j j))=Eo (labels.length+1) (EK E (j+1)):=
    (MH _ _ _ _).trans (GI λv _=>(Ww E j v).symm)
   exact⟨j+1,_,_,hlt,.refl _ _,⟨rfl,rfl,rfl,trivial⟩,⟨rfl,Bj hs2,rfl,rfl,trivial⟩,by omega⟩
  ·have hje:j=labels.length:=by omega
   subst hje
   have e2:Eo (labels.length+1) (EK E labels.length)=(Fw labels.length E).map dI:=by
    rw[Fw,<-Sb]
    refine GI λv hv=>?_
    simp only[EK]
    rw[if_pos (by omega)]
   rw[e2]
   have hfl:(Fw labels.length E).length=labels.length+1:=by simp[Fw]
   ((conv=>whnf);repeat' ((first|refine odw ?_|refine nx ?_|refine A5 (λ_=>?_) (λ_=>?_))<;>conv=>whnf))
   refine Q4 tab 83 rfl rfl (Ib (Fw labels.length E) (by omega)) (λds h=>by rw[h];exact I6 _) ?_
   rintro ds rfl
   (conv=>whnf)
   refine EX (by omega) ?_
   (conv=>whnf)
   refine EX (by omega) ?_
   (conv=>whnf)
   refine Mg (2*E.length) (by omega) (by omega) (by omega) ?_
   (conv=>whnf)
   refine Mg (2*E.length) (by omega) (by omega) (by omega) ?_
   (conv=>whnf)
   refine Ai ?_ ?_
   focus
    (conv=>whnf)
    repeat' (first|(refine EX (by omega) ?_;conv=>whnf)|(refine Mg (2*E.length) (by omega) (by omega) (by omega) ?_;conv=>whnf))
    all_goals (repeat' (first|exact trivial|exact rfl|refine And.intro ?_ ?_))
    done
   (conv=>whnf)
   refine Ai ?_ ?_
   focus
    (conv=>whnf)
    repeat' (first|(refine EX (by omega) ?_;conv=>whnf)|(refine Mg (2*E.length) (by omega) (by omega) (by omega) ?_;conv=>whnf))
    all_goals (repeat' (first|exact trivial|exact rfl|refine And.intro ?_ ?_))
    done
   (conv=>whnf)
   refine Ai ?_ ?_
   focus
    (conv=>whnf)
    repeat' (first|(refine EX (by omega) ?_;conv=>whnf)|(refine Mg (2*E.length) (by omega) (by omega) (by omega) ?_;conv=>whnf))
    all_goals (repeat' (first|exact trivial|exact rfl|refine And.intro ?_ ?_))
    done
   (conv=>whnf)
   refine Ai ?_ ?_
   focus
    (conv=>whnf)
    repeat' (first|(refine EX (by omega) ?_;conv=>whnf)|(refine Mg (2*E.length) (by omega) (by omega) (by omega) ?_;conv=>whnf))
    all_goals (repeat' (first|exact trivial|exact rfl|refine And.intro ?_ ?_))
    done
   (conv=>whnf)
   refine Ai ?_ ?_
   focus
    (conv=>whnf)
    repeat' (first|(refine EX (by omega) ?_;conv=>whnf)|(refine Mg (2*E.length) (by omega) (by omega) (by omega) ?_;conv=>whnf))
    all_goals (repeat' (first|exact trivial|exact rfl|refine And.intro ?_ ?_))
    done
   (conv=>whnf)
   have hz92:List.replicate (2*E.length) (dI 0)=(NG labels.length (Fz E 0 0) (F3 E)).map dI:=by
    rw[VL _ _ _ (Rl E),OD E _ hedge];simp
   have hz99:List.replicate (2*E.length) (dI 0)=(NG labels.length (GM E 0 0) (F3 E)).map dI:=by
    rw[VL _ _ _ (Z8 E),OD E _ hedge];simp
   have hz83:(Fw labels.length E).map dI=Eo (labels.length+1) (Jm E 0 0):=by
    rw[Fw,<-Sb]
    exact GI λv _=>by simp[Jm,Rl]
   refine AN (ι:=Nat) (λi=>i<=E.length) (λi=>[(110,.d (.int .i64 i)),(109,.d (.int .i64 (E.map dE).length)),(108,.d (Er E)),(6,.func (.func 223) [] [.own 1,.own 5]),(1,.own 1)])
    (λi=>[(1,.cells 54 [.own 900]),(5,.cells 28 [.own 83]),(18,.slice 3 1 ((Fw labels.length E).map dI)),(83,.slice 3 1 (Eo (labels.length+1) (Jm E i 0))),(92,.slice 3 1 ((NG labels.length (Fz E i 0) (F3 E)).map dI)),(99,.slice 3 1 ((NG labels.length (GM E i 0) (F3 E)).map dI)),
     (900,.cells 243 [.d (Bx labels),.d (Er E),.own 18,.own 92,.own 99]),(901,.ghost vs [.own 900])])
    (λi=>E.length-i) 0 (λ_=>rfl) (As _) (.refl _ _) ⟨rfl,rfl,rfl,rfl,rfl,trivial⟩ ⟨rfl,rfl,rfl,Bj hz83,Bj hz92,Bj hz99,rfl,rfl,trivial⟩ ?_
   intro i hi
   refine BV NL JP ?_
   by_cases hlt:i<E.length
   ·have hx:=Ab hlt
    have hb:=he _ (Bi hlt)
    generalize E[i]=x at hx hb
    obtain⟨a,b⟩:=x
    simp only at hb
    obtain⟨a',rfl⟩:=A1 hb.1
    obtain⟨b',rfl⟩:=A1 (show 0<=b by omega)
    have hxd:(E.map dE)[i]? =some (.agg [.int .i64 (a':Int),.int .i64 (b':Int)]):=by rw[Af,hx];rfl
    have hR:=Z6 hx
    have hI:=ZA hx
    have hroom:=Pv hR
    have hput:=eU labels.length E hedge i 0 b' (a':Int) (i:Int) (by omega) hR hI
    obtain⟨p,hp,hat,h92,h99,s92,s99,s83⟩:=hput
    (repeat' ((first|refine Ai ?_ ?_|refine AM hxd (by omega) ?_|refine nx ?_|refine A5 (λ_=>?_) (λ_=>?_)|exact AA)<;>conv=>whnf))
    refine JB 200 [(110,.d (.int .i64 i)),(109,.d (.int .i64 (E.map dE).length)),(108,.d (Er E)),(6,.func (.func 223) [] [.own 1,.own 5]),(1,.own 1)] EN (pl:=WL) (G:=jM) Tryz.func223 rfl Tryz.ntmps223 Yq YK (GK rfl) rfl ⟨rfl,rfl,rfl,rfl,rfl,trivial⟩ rfl ?_
    intro us
    (conv=>whnf)
    have h83:b'<(Eo (labels.length+1) (Jm E i 0)).length:=by rw[Ic];omega
    obtain⟨o92,ho92⟩:=OJ h92
    obtain⟨o99,ho99⟩:=OJ h99
    have hb1:0<=(p:Int)+1/\(p:Int)+1<=65536:=by omega
    clear e0 e1 e2 hz92 hz99 hz83 hfl hroom hR hI hx hxd hedge he hn hi
    repeat' (first|(refine F1 hat ?_;conv=>whnf)|(refine F1 ho92 ?_;conv=>whnf)|(refine F1 ho99 ?_;conv=>whnf)|(refine F2 (i:=b') rfl h83 ?_;conv=>whnf)|(refine F2 (i:=p) rfl h92 ?_;conv=>whnf)|(refine F2 (i:=p) rfl h99 ?_;conv=>whnf))
    refine EX (by omega) ?_
    (conv=>whnf)
    repeat' (first|(refine F1 hat ?_;conv=>whnf)|(refine F2 (i:=b') rfl h83 ?_;conv=>whnf))
    rw[s92,s99,s83]
    refine It ?_
    (conv=>whnf)
    refine EX (by omega) ?_
    (conv=>whnf)
    exact⟨i+1,_,_,hlt,.refl _ _,⟨rfl,rfl,rfl,rfl,rfl,trivial⟩,⟨rfl,rfl,rfl,rfl,rfl,rfl,rfl,rfl,trivial⟩,by omega⟩
   ·have hie:i=E.length:=by omega
    subst hie
    ((conv=>whnf);repeat' ((first|refine odw ?_|refine nx ?_|refine A5 (λ_=>?_) (λ_=>?_))<;>conv=>whnf))
    refine AN (ι:=Nat) (λi=>i<=E.length) (λi=>[(128,.d (.int .i64 i)),(127,.d (.int .i64 (E.map dE).length)),(126,.d (Er E)),(6,.func (.func 223) [] [.own 1,.own 5]),(1,.own 1)])
     (λi=>[(1,.cells 54 [.own 900]),(5,.cells 28 [.own 83]),(18,.slice 3 1 ((Fw labels.length E).map dI)),(83,.slice 3 1 (Eo (labels.length+1) (Jm E E.length i))),(92,.slice 3 1 ((NG labels.length (Fz E E.length i) (F3 E)).map dI)),(99,.slice 3 1 ((NG labels.length (GM E E.length i) (F3 E)).map dI)),
      (900,.cells 243 [.d (Bx labels),.d (Er E),.own 18,.own 92,.own 99]),(901,.ghost vs [.own 900])])
     (λi=>E.length-i) 0 (λ_=>rfl) (As _) (.refl _ _) ⟨rfl,rfl,rfl,rfl,rfl,trivial⟩ ⟨rfl,rfl,rfl,rfl,rfl,rfl,rfl,rfl,trivial⟩ ?_
    intro i hi
    refine BV NL JP ?_
    by_cases hlt:i<E.length
    ·have hx:=Ab hlt
     have hb:=he _ (Bi hlt)
     generalize E[i]=x at hx hb
     obtain⟨a,b⟩:=x
     simp only at hb
     obtain⟨a',rfl⟩:=A1 hb.1
     obtain⟨b',rfl⟩:=A1 (show 0<=b by omega)
     have hxd:(E.map dE)[i]? =some (.agg [.int .i64 (a':Int),.int .i64 (b':Int)]):=by rw[Af,hx];rfl
     have hR:=Z5 (k:=E.length) hx
     have hI:=Z9 (k:=E.length) hx
     have hroom:=Pv hR
     have hput:=eU labels.length E hedge E.length i a' (b':Int) (i:Int) (by omega) hR hI
     obtain⟨p,hp,hat,h92,h99,s92,s99,s83⟩:=hput
     (repeat' ((first|refine Ai ?_ ?_|refine AM hxd (by omega) ?_|refine nx ?_|refine A5 (λ_=>?_) (λ_=>?_)|exact AA)<;>conv=>whnf))
     refine JB 200 [(128,.d (.int .i64 i)),(127,.d (.int .i64 (E.map dE).length)),(126,.d (Er E)),(6,.func (.func 223) [] [.own 1,.own 5]),(1,.own 1)] EN (pl:=WL) (G:=jM) Tryz.func223 rfl Tryz.ntmps223 Yq YK (GK rfl) rfl ⟨rfl,rfl,rfl,rfl,rfl,trivial⟩ rfl ?_
     intro us
     (conv=>whnf)
     have h83:a'<(Eo (labels.length+1) (Jm E E.length i)).length:=by rw[Ic];omega
     obtain⟨o92,ho92⟩:=OJ h92
     obtain⟨o99,ho99⟩:=OJ h99
     have hb1:0<=(p:Int)+1/\(p:Int)+1<=65536:=by omega
     clear hroom hR hI hx hxd
     repeat' (first|(refine F1 hat ?_;conv=>whnf)|(refine F1 ho92 ?_;conv=>whnf)|(refine F1 ho99 ?_;conv=>whnf)|(refine F2 (i:=a') rfl h83 ?_;conv=>whnf)|(refine F2 (i:=p) rfl h92 ?_;conv=>whnf)|(refine F2 (i:=p) rfl h99 ?_;conv=>whnf))
     refine EX (by omega) ?_
     (conv=>whnf)
     repeat' (first|(refine F1 hat ?_;conv=>whnf)|(refine F2 (i:=a') rfl h83 ?_;conv=>whnf))
     rw[s92,s99,s83]
     refine It ?_
     (conv=>whnf)
     refine EX (by omega) ?_
     (conv=>whnf)
     exact⟨i+1,_,_,hlt,.refl _ _,⟨rfl,rfl,rfl,rfl,rfl,trivial⟩,⟨rfl,rfl,rfl,rfl,rfl,rfl,rfl,rfl,trivial⟩,by omega⟩
    ·have hie:i=E.length:=by omega
     subst hie
     have en:NG labels.length (Fz E E.length E.length) (F3 E)=PJ labels.length E:=by
      rw[eG];exact VM (λv _=>rfl)
     have ei:NG labels.length (GM E E.length E.length) (F3 E)=Xz labels.length E:=by
      rw[eH]
      exact VM (λv _=>by rw[FY,Ae,(JV E v).1,(JV E v).2,F3,Df,Ae])
     rw[en,ei]
     ((conv=>whnf);repeat' ((first|refine odw ?_|refine nx ?_|refine A5 (λ_=>?_) (λ_=>?_))<;>conv=>whnf))
     refine⟨_,_,_,[Bx labels,Er E,Bx (Fw labels.length E),Bx (PJ labels.length E),Bx (Xz labels.length E)],.frz 18 rfl (.frz 92 rfl (.frz 99 rfl (.refl _ _))),rfl,rfl,rfl,?_⟩
     rfl
end Go.Proofs.YtjejpdfldmempaaGreatDoor
end
