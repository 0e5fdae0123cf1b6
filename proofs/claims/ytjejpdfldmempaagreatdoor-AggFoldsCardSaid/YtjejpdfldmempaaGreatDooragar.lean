/- Merged: Grc Grp Gri Grd Lst Scp Str Num Gvr Pta Fal. -/
import Derived.Test.YtjejpdfldmempaaGreatDooragap
import Derived.Test.YtjejpdfldmempaaGreatDooragaq
import Derived.Shelf.Strings.OnBuilder
import Derived.Shelf.Strconv.Itoa3
import Derived.Test.YtjejpdfldmempaaGreatDoorRows
import Derived.Lib.ItoaNum
import Derived.Lib.AtoiAll
import Derived.Lib.IndexMore
import Derived.Test.YtjejpdfldmempaaGreatDooragan
import Derived.Lib.LaidTab
section
namespace Go.Proofs.YtjejpdfldmempaaGreatDoor
open Go.Sx Go.RowKit Go.Reg Go.Gr
set_option maxRecDepth 100000
def dE(e:Edg):Da:=.agg [.int .i64 e.a,.int .i64 e.b]
def dI(n:Int):Da:=.int .i64 n
def D1(l:List Int):Da:=.list 1 (l.map dI)
def Ip(l:List Edg):Da:=.list 2 (l.map dE)
def Yg:List (Nat×Plan):=[]
def Zc:List FuncId:=[]
theorem PZ(a:Int):Pure C1 143 [.int .i64 a] (λy=>y=.bool false):=by
 refine CI Tryz.func143 Tryz.ntmps143 Zc Yg ?_
 ((conv=>whnf);repeat' ((first|refine odw ?_|refine nx ?_|refine AX (λ_=>?_) (λ_=>?_))<;>conv=>whnf))
 show Da.plain _=_
 simp[Da.plain]
def Rx:List (Nat×Plan):=[]
def Ud:List FuncId:=[]
theorem Et(a b:Int):Pure C1 101 [.int .i64 a,.int .i64 b] (λy=>y=.int .i64 (BV a b)):=by
 refine CI Tryz.func101 Tryz.ntmps101 Ud Rx ?_
 ((conv=>whnf);repeat' ((first|refine odw ?_|refine nx ?_|refine AX (λ_=>?_) (λ_=>?_))<;>conv=>whnf))
 refine Gq rfl (PZ a) ?_;rintro y rfl;((conv=>whnf);repeat' ((first|refine odw ?_|refine nx ?_|refine AX (λ_=>?_) (λ_=>?_))<;>conv=>whnf))
 refine Gq rfl (PZ b) ?_;rintro y rfl;((conv=>whnf);repeat' ((first|refine odw ?_|refine nx ?_|refine AX (λ_=>?_) (λ_=>?_))<;>conv=>whnf))
 ·have e:BV a b=-1:=by unfold BV;rw[if_pos (by assumption)]
  rw[e];exact rfl
 ·have e:BV a b=1:=by unfold BV;rw[if_neg (by assumption),if_pos (by assumption)]
  rw[e];exact rfl
 ·have e:BV a b=0:=by unfold BV;rw[if_neg (by assumption),if_neg (by assumption)]
  rw[e];exact rfl
def Xw:List (Nat×Plan):=[]
def Zb:List FuncId:=[]
theorem WI(a b:Int):Pure C1 100 [.list 1 [.int .i64 a,.int .i64 b]] (λy=>y=.int .i64 (if a≠0 then a else b)):=by
 refine CI Tryz.func100 Tryz.ntmps100 Zb Xw ?_
 ((conv=>whnf);repeat' ((first|refine odw ?_|refine nx ?_|refine AX (λ_=>?_) (λ_=>?_))<;>conv=>whnf))
 refine Vs (ι:=Nat) (λi=>i<=2/\(1<=i->a=0)/\(2<=i->b=0)) (λi=>[(3,.d (.int .i64 0)),(6,.d (.list 1 [.int .i64 a,.int .i64 b])),(7,.d (.int .i64 2)),(8,.d (.int .i64 i))]) (λ_=>[]) (λi=>2-i) 0 (λ_=>rfl) ⟨by omega,by omega,by omega⟩ ⟨rfl,rfl,rfl,rfl,trivial⟩ trivial ?_
 rintro i ⟨hi,h1,h2⟩
 refine Fw Zb Xw ?_
 rcases(show i=0\/i=1\/i=2 by omega)with rfl|rfl|rfl
 ·by_cases ha:a=0
  ·((conv=>whnf);repeat' ((first|refine odw ?_|refine nx ?_|refine AX (λ_=>?_) (λ_=>?_))<;>conv=>whnf))
   refine⟨0,_,rfl,rfl,?_⟩
   ((conv=>whnf);repeat' ((first|refine odw ?_|refine nx ?_|refine AX (λ_=>?_) (λ_=>?_))<;>conv=>whnf))
   exact⟨1,⟨by omega,λ_=>ha,by omega⟩,⟨rfl,rfl,rfl,rfl,trivial⟩,trivial,by omega⟩
  ·rw[if_pos ha]
   ((conv=>whnf);repeat' ((first|refine odw ?_|refine nx ?_|refine AX (λ_=>?_) (λ_=>?_))<;>conv=>whnf))
   refine⟨0,_,rfl,rfl,?_⟩
   ((conv=>whnf);repeat' ((first|refine odw ?_|refine nx ?_|refine AX (λ_=>?_) (λ_=>?_))<;>conv=>whnf))
   exact rfl
 ·rw[if_neg (by have:=h1 (by omega);omega)]
  by_cases hb:b=0
  ·((conv=>whnf);repeat' ((first|refine odw ?_|refine nx ?_|refine AX (λ_=>?_) (λ_=>?_))<;>conv=>whnf))
   refine⟨1,_,rfl,rfl,?_⟩
   ((conv=>whnf);repeat' ((first|refine odw ?_|refine nx ?_|refine AX (λ_=>?_) (λ_=>?_))<;>conv=>whnf))
   exact⟨2,⟨by omega,λ_=>h1 (by omega),λ_=>hb⟩,⟨rfl,rfl,rfl,rfl,trivial⟩,trivial,by omega⟩
  ·((conv=>whnf);repeat' ((first|refine odw ?_|refine nx ?_|refine AX (λ_=>?_) (λ_=>?_))<;>conv=>whnf))
   refine⟨1,_,rfl,rfl,?_⟩
   ((conv=>whnf);repeat' ((first|refine odw ?_|refine nx ?_|refine AX (λ_=>?_) (λ_=>?_))<;>conv=>whnf))
   exact rfl
 ·rw[if_neg (by have:=h1 (by omega);omega),h2 (by omega)]
  ((conv=>whnf);repeat' ((first|refine odw ?_|refine nx ?_|refine AX (λ_=>?_) (λ_=>?_))<;>conv=>whnf))
  exact rfl
def PJ:List (Nat×Plan):=[]
def SS:List FuncId:=[]
theorem TQ:BA Tryz.prog SS PJ (Tryz.f60.body.getD .skip)=true:=by kernel_rfl
theorem To(vs:Array Value)(w:World):(callFunc 60 vs).run C1.P w=.ok (.enter 60 vs) w:=by kernel_rfl
theorem MD(l:List Int)(hl:l.length<=4294967296):DF C1 60 [D1 l] 3 1 (λds=>ds=l.map dI):=by
 have hlm:(l.map dI).length=l.length:=Ac _
 refine OL J2 (pl:=PJ) (G:=SS) Tryz.func60 rfl Tryz.ntmps60 To TQ (by simp) ?_
 cases l with
 |
  nil=>
  ((conv=>whnf);repeat' ((first|refine odw ?_|refine nx ?_|refine AX (λ_=>?_) (λ_=>?_))<;>conv=>whnf))
  refine Sq rfl Tryz.underlying28 rfl rfl (.inr rfl) rfl ?_
  intro b
  cases b<;>((conv=>whnf);repeat' ((first|refine odw ?_|refine nx ?_|refine AX (λ_=>?_) (λ_=>?_))<;>conv=>whnf))
  ·exact⟨rfl,rfl,rfl⟩
  ·exact rfl
 |
  cons x l=>
  have hlm2:(([]:List Da).length+((x::l).map dI).length)<=4294967296:=by rw[hlm];simpa using hl
  ((conv=>whnf);repeat' ((first|refine odw ?_|refine nx ?_|refine AX (λ_=>?_) (λ_=>?_))<;>conv=>whnf))
  refine Ih hlm2 ?_
  ((conv=>whnf);repeat' ((first|refine odw ?_|refine nx ?_|refine AX (λ_=>?_) (λ_=>?_))<;>conv=>whnf))
  exact⟨rfl,rfl,by simp⟩
end Go.Proofs.YtjejpdfldmempaaGreatDoor
end
section
namespace Go.Gr
theorem Nv {E:List Edg} {i:Nat} {e:Edg}(h:E[i]? =some e):E.take (i+1)=E.take i++[e]:=by
 rw[Bc,h];rfl
end Go.Gr
end
section
namespace Go.Gr
def YK(x y:Edg):Bool:=decide (¬BR y x<0)
def SO(edges:List Edg):List Edg:=(edges.map turn).mergeSort YK
theorem MF(edges:List Edg):(SO edges).Perm (edges.map turn):=List.mergeSort_perm _ _
theorem OZ(edges:List Edg):(SO edges).Pairwise (λx y=>¬BR y x<0):=by
 have h:=List.pairwise_mergeSort (le:=YK) (λa b c h1 h2=>by
  simp only[YK,decide_eq_true_eq]at*
  intro h3
  rcases J0 a b with h|h|h
  ·exact h2 (Fx h3 h)
  ·subst h;exact h2 h3
  ·exact h1 h) (λa b=>by
  simp only[YK,Wf,decide_eq_true_eq]
  by_cases h:BR b a<0
  ·exact .inr (JR h)
  ·exact .inl h) (edges.map turn)
 exact h.imp (λh=>by simpa[YK]using h)
theorem VK {edges E:List Edg}(hn:(edges.map turn).Nodup)(hp:E.Perm (edges.map turn))(hs:E.Pairwise (λx y=>¬BR y x<0)):E=SO edges:=
 HY (hp.trans (MF edges).symm) (J9 (hp.nodup_iff.2 hn) hs) (J9 ((MF edges).nodup_iff.2 hn) (OZ edges))
theorem CC.le {E:List Edg}(h:CC E):E.Pairwise (λx y=>¬BR y x<0):=h.imp λh=>JR h
def Qq(S:List Edg)(k:Nat)(e:Edg):List Edg:=S.take k++[e]++S.drop k
theorem R7(S:List Edg)(k:Nat)(e:Edg):(Qq S k e).Perm (e::S):=by
 unfold Qq
 rw[Bl,Xq]
 refine List.perm_middle.trans ?_
 rw[C6]
theorem OQ {S:List Edg} {k:Nat} {e:Edg}(hS:CC S)(h1:∀x∈S.take k,BR x e<0)(h2:∀x,S[k]? =some x->¬BR x e<0)(hn:e∉S):CC (Qq S k e):=by
 unfold Qq CC
 rw[Bl,Xq,La,BQ]
 have hS':=hS
 unfold CC at hS'
 rw[<-C6 k S,La]at hS'
 obtain⟨g1,g2,g3⟩:=hS'
 have hhead:∀y∈S.drop k,BR e y<0:=by
  intro y hy
  rcases hd:S.drop k with _|⟨x,l⟩
  ·rw[hd]at hy;cases hy
  ·have hx:S[k]? =some x:=by
    have:=congrArg List.head? hd
    simpa using this
   have hxs:x∈S:=AY hx
   have hex:BR e x<0:=by
    rcases J0 e x with h|h|h
    ·exact h
    ·exact absurd (h▸hxs) hn
    ·exact absurd h (h2 x hx)
   rw[hd]at hy g2
   rcases Ad.1 hy with h|h
   ·exact h▸hex
   ·exact Fx hex ((BQ.1 g2).1 y h)
 refine⟨g1,⟨hhead,g2⟩,?_⟩
 intro a ha b hb
 rcases Ad.1 hb with h|h
 ·exact h▸h1 a ha
 ·exact g3 a ha b h
structure Part(edges:List Edg)(i:Nat)(S:List Edg):Prop where
 strict:CC S
 perm:S.Perm ((edges.take i).map turn)
theorem Part.zero(edges:List Edg):Part edges 0 []:=⟨List.Pairwise.nil,by simp⟩
theorem Part.next {edges S:List Edg} {i k:Nat} {e:Edg}(h:Part edges i S)(he:edges[i]? =some e)(hn:turn e∉S)(h1:∀x∈S.take k,BR x (turn e)<0)(h2:∀x,S[k]? =some x->¬BR x (turn e)<0):Part edges (i+1) (Qq S k (turn e)):=by
 refine⟨OQ h.strict h1 h2 hn,(R7 _ _ _).trans ?_⟩
 rw[Nv he,AZ]
 simp only[Am,Bp]
 exact(List.Perm.cons _ h.perm).trans (List.perm_append_comm (l₁:=[turn e]))
theorem Part.mem {edges S:List Edg} {i:Nat}(h:Part edges i S)(e:Edg):e∈S↔e∈(edges.take i).map turn:=h.perm.mem_iff
theorem Part.all {edges S:List Edg} {i:Nat}(h:Part edges i S)(hi:edges.length<=i):S=SO edges:=by
 have hp:=h.perm
 rw[AN hi]at hp
 exact VK (hp.nodup_iff.1 h.strict.nodup) hp h.strict.le
end Go.Gr
end
section
namespace Go.Proofs.YtjejpdfldmempaaGreatDoor
open Go.Sx Go.RowKit Go.Reg Go.Gr
set_option maxRecDepth 100000
theorem Bq {ds:List Da} {i:Nat} {d:Da} {n:Int} {K:Nat->Da->Prop}(hx:ds[i]? =some d)(hn:n=i)(hK:K i d):∃(j:Nat) (d:Da),n=j/\ds[j]? =some d/\K j d:=⟨i,d,hn,hx,hK⟩
end Go.Proofs.YtjejpdfldmempaaGreatDoor
end
section
namespace Go.Proofs
open Go.Shelf
def Tryz.joinL_ren:Go.Shelf.Ren:=⟨λ|156=>106|165=>156|166=>157|169=>158|240=>216|241=>217|276=>250|277=>251|n=>n,λ|31=>178|9=>9|3=>3|4=>4|0=>0|20=>20|72=>228|76=>229|70=>226|37=>49|75=>39|127=>288|164=>245|5=>5|80=>231|n=>n,λ|n=>n⟩
theorem Tryz.joinL:Go.Proofs.Lays.n156 Tryz.prog Tryz.joinL_ren:={
 mixed:=by kernel_rfl
 f156:=Tryz.func106.trans (congrArg some (by kernel_rfl))
 f165:=Tryz.func156.trans (congrArg some (by kernel_rfl))
 f166:=Tryz.func157.trans (congrArg some (by kernel_rfl))
 f169:=Tryz.func158.trans (congrArg some (by kernel_rfl))
 f240:=Tryz.func216.trans (congrArg some (by kernel_rfl))
 f241:=Tryz.func217.trans (congrArg some (by kernel_rfl))
 f276:=Tryz.func250.trans (congrArg some (by kernel_rfl))
 f277:=Tryz.func251.trans (congrArg some (by kernel_rfl))
 t0:=Tryz.underlying0
 a0:=Tryz.isAgg0
 z0:=Tryz.sizeOf0
 v0:=Tryz.zeroValue0
 t3:=Tryz.underlying3
 a3:=Tryz.isAgg3
 z3:=Tryz.sizeOf3
 v3:=Tryz.zeroValue3
 t4:=Tryz.underlying4
 a4:=Tryz.isAgg4
 z4:=Tryz.sizeOf4
 v4:=Tryz.zeroValue4
 t9:=Tryz.underlying9
 a9:=Tryz.isAgg9
 z9:=Tryz.sizeOf9
 v9:=Tryz.zeroValue9
 t20:=Tryz.underlying20
 a20:=Tryz.isAgg20
 z20:=Tryz.sizeOf20
 v20:=Tryz.zeroValue20
 t31:=Tryz.underlying178
 a31:=Tryz.isAgg178
 z31:=Tryz.sizeOf178
 v31:=Tryz.zeroValue178
 t37:=Tryz.underlying49
 a37:=Tryz.isAgg49
 z37:=Tryz.sizeOf49
 v37:=Tryz.zeroValue49
 t70:=Tryz.underlying226
 a70:=Tryz.isAgg226
 z70:=Tryz.sizeOf226
 v70:=Tryz.zeroValue226
 t72:=Tryz.underlying228
 a72:=Tryz.isAgg228
 z72:=Tryz.sizeOf228
 v72:=Tryz.zeroValue228
 t75:=Tryz.underlying39
 a75:=Tryz.isAgg39
 z75:=Tryz.sizeOf39
 v75:=Tryz.zeroValue39
 t76:=Tryz.underlying229
 a76:=Tryz.isAgg229
 z76:=Tryz.sizeOf229
 v76:=Tryz.zeroValue229
 t127:=Tryz.underlying288
 a127:=Tryz.isAgg288
 z127:=Tryz.sizeOf288
 v127:=Tryz.zeroValue288
 t164:=Tryz.underlying245
 a164:=Tryz.isAgg245
 z164:=Tryz.sizeOf245
 v164:=Tryz.zeroValue245}
def Tryz.itoaL_ren:Go.Shelf.Ren:=⟨λ|171=>105|243=>155|246=>215|283=>246|284=>247|285=>248|286=>249|129=>154|317=>259|318=>260|319=>261|320=>262|337=>278|338=>279|n=>n,λ|3=>3|9=>9|2=>2|4=>4|171=>315|0=>0|53=>186|37=>49|5=>5|173=>317|212=>327|51=>184|20=>20|213=>328|46=>177|232=>342|233=>343|n=>n,λ|17=>1|18=>3|19=>4|n=>n⟩
theorem Tryz.itoaL:Go.Proofs.LaysM.n171 Tryz.prog Tryz.itoaL_ren:={
 mixed:=by kernel_rfl
 f129:=Tryz.func154.trans (congrArg some (by kernel_rfl))
 f171:=Tryz.func105.trans (congrArg some (by kernel_rfl))
 f243:=Tryz.func155.trans (congrArg some (by kernel_rfl))
 f246:=Tryz.func215.trans (congrArg some (by kernel_rfl))
 f283:=Tryz.func246.trans (congrArg some (by kernel_rfl))
 f284:=Tryz.func247.trans (congrArg some (by kernel_rfl))
 f285:=Tryz.func248.trans (congrArg some (by kernel_rfl))
 f286:=Tryz.func249.trans (congrArg some (by kernel_rfl))
 f317:=Tryz.func259.trans (congrArg some (by kernel_rfl))
 f318:=Tryz.func260.trans (congrArg some (by kernel_rfl))
 f319:=Tryz.func261.trans (congrArg some (by kernel_rfl))
 f320:=Tryz.func262.trans (congrArg some (by kernel_rfl))
 f337:=Tryz.func278.trans (congrArg some (by kernel_rfl))
 f338:=Tryz.func279.trans (congrArg some (by kernel_rfl))
 t0:=Tryz.underlying0
 a0:=Tryz.isAgg0
 z0:=Tryz.sizeOf0
 v0:=Tryz.zeroValue0
 t2:=Tryz.underlying2
 a2:=Tryz.isAgg2
 z2:=Tryz.sizeOf2
 v2:=Tryz.zeroValue2
 t3:=Tryz.underlying3
 a3:=Tryz.isAgg3
 z3:=Tryz.sizeOf3
 v3:=Tryz.zeroValue3
 t4:=Tryz.underlying4
 a4:=Tryz.isAgg4
 z4:=Tryz.sizeOf4
 v4:=Tryz.zeroValue4
 t5:=Tryz.underlying5
 a5:=Tryz.isAgg5
 z5:=Tryz.sizeOf5
 v5:=Tryz.zeroValue5
 t9:=Tryz.underlying9
 a9:=Tryz.isAgg9
 z9:=Tryz.sizeOf9
 v9:=Tryz.zeroValue9
 t20:=Tryz.underlying20
 a20:=Tryz.isAgg20
 z20:=Tryz.sizeOf20
 v20:=Tryz.zeroValue20
 t37:=Tryz.underlying49
 a37:=Tryz.isAgg49
 z37:=Tryz.sizeOf49
 v37:=Tryz.zeroValue49
 t46:=Tryz.underlying177
 a46:=Tryz.isAgg177
 z46:=Tryz.sizeOf177
 v46:=Tryz.zeroValue177
 t51:=Tryz.underlying184
 a51:=Tryz.isAgg184
 z51:=Tryz.sizeOf184
 v51:=Tryz.zeroValue184
 t53:=Tryz.underlying186
 a53:=Tryz.isAgg186
 z53:=Tryz.sizeOf186
 v53:=Tryz.zeroValue186
 t171:=Tryz.underlying315
 a171:=Tryz.isAgg315
 z171:=Tryz.sizeOf315
 v171:=Tryz.zeroValue315
 t173:=Tryz.underlying317
 a173:=Tryz.isAgg317
 z173:=Tryz.sizeOf317
 v173:=Tryz.zeroValue317
 t212:=Tryz.underlying327
 a212:=Tryz.isAgg327
 z212:=Tryz.sizeOf327
 v212:=Tryz.zeroValue327
 t213:=Tryz.underlying328
 a213:=Tryz.isAgg328
 z213:=Tryz.sizeOf328
 t232:=Tryz.underlying342
 a232:=Tryz.isAgg342
 z232:=Tryz.sizeOf342
 v232:=Tryz.zeroValue342
 t233:=Tryz.underlying343
 a233:=Tryz.isAgg343
 z233:=Tryz.sizeOf343
 v233:=Tryz.zeroValue343
 g17:=by kernel_rfl
 g18:=by kernel_rfl
 g19:=by kernel_rfl
 i0:=by kernel_rfl
 i2:=by kernel_rfl
 i3:=by kernel_rfl
 i4:=by kernel_rfl
 i5:=by kernel_rfl
 i9:=by kernel_rfl
 i20:=by kernel_rfl
 i37:=by kernel_rfl
 i46:=by kernel_rfl
 i51:=by kernel_rfl
 i53:=by kernel_rfl
 i171:=by kernel_rfl
 i173:=by kernel_rfl
 i212:=by kernel_rfl
 i232:=by kernel_rfl
 i233:=by kernel_rfl
 m17:=by kernel_rfl
 m18:=by kernel_rfl
 m19:=by kernel_rfl}
end Go.Proofs
end
section
namespace Go.Gr
open Go
def bs(l:List UInt8):ByteArray:=⟨l.toArray⟩
theorem Kp(a b:List UInt8):bs a++bs b=bs (a++b):=by
 apply ByteArray.ext
 rw[ByteArray.data_append]
 simp[bs]
theorem FI(a:List UInt8):(bs a).size=a.length:=by simp[bs,ByteArray.size]
theorem VM {a b:List UInt8}(h:bs a=bs b):a=b:=by
 have:=congrArg (λx:ByteArray=>x.data.toList) h
 simpa[bs]using this
def Zo:Nat->List UInt8
 |0=>[119,111,114,107]
 |1=>[100,101,108,105,118,101,114]
 |2=>[100,111,117,98,108,101]
 |3=>[99,114,97,115,104]
 |4=>[112,97,115,115]
 |_=>[102,105,110,105,115,104]
def Zr(k n:Nat):List UInt8:=if k<4 then Zo k++32::Lib.decDigits n else Zo k
theorem Jz {n:Nat}(h:n<10):(UInt8.ofNat (48+n)).toNat=48+n:=by
 rw[UInt8.toNat_ofNat'];omega
theorem VF:∀n:Nat,∀c∈Lib.decDigits n,48<=c.toNat/\c.toNat<=57:=by
 intro n
 induction n using Nat.strongRecOn with
 |
  _ n ih=>
  intro c hc
  rw[Lib.decDigits]at hc
  split at hc
  ·rw[A7]at hc
   rw[hc,Jz (by omega)];omega
  ·rcases Af.1 hc with h|h
   ·exact ih (n/10) (by omega) c h
   ·rw[A7]at h
    rw[h,Jz (by omega)];omega
theorem YT(n:Nat):Lib.decDigits n≠[]:=by
 rw[Lib.decDigits]
 split<;>simp
def val:List UInt8->Nat
 |[]=>0
 |c::l=>(c.toNat-48)*10^l.length+val l
theorem RU(c:UInt8):∀l:List UInt8,val (l++[c])=val l*10+(c.toNat-48)
 |[]=>by simp[val]
 |
  d::l=>by
  simp only[A9,val,RU c l,Ao,CX,Nat.pow_succ]
  rw[Cl,Nat.mul_assoc,Ev]
theorem Un:∀n:Nat,val (Lib.decDigits n)=n:=by
 intro n
 induction n using Nat.strongRecOn with
 |
  _ n ih=>
  rw[Lib.decDigits]
  split
  ·simp only[val,Bh,Jz (by omega:n<10)];omega
  ·rw[RU,ih (n/10) (by omega),Jz (by omega)];omega
theorem WY(n:Nat)(h:n<=999999):(Lib.decDigits n).length<=6:=by
 rw[Lib.decDigits_length]
 rcases Ei 6 (Lib.nDigits n)with h1|h1
 ·exfalso
  have h2:∀k m:Nat,k<Lib.nDigits m->10^k<=m\/k=0:=by
   intro k
   induction k with
   |zero=>intro m _;exact .inr rfl
   |
    succ k ih=>
    intro m hm
    left
    by_cases h10:m<10
    ·rw[Lib.nDigits_small h10]at hm;omega
    ·rw[Lib.nDigits_big h10]at hm
     rcases ih (m/10) (by omega)with h3|h3
     ·rw[Nat.pow_succ]
      have:=FP 10 h3
      omega
     ·subst h3;omega
  rcases h2 6 n h1 with h3|h3
  ·omega
  ·omega
 ·exact h1
def YY(p:Nat×Nat):Prop:=p.1<6/\p.2<=999999/\(3<p.1->p.2=0)
def XB(b:List UInt8)(p:Nat×Nat):Prop:=YY p/\b=Zr p.1 p.2
inductive Pars:List UInt8->List (Nat×Nat)->Bool->Prop
 |nil:Pars [] [] true
 |line {b:List UInt8} {p:Nat×Nat} {r:List UInt8} {l:List (Nat×Nat)} {ok:Bool}:XB b p->Pars r l ok->Pars (b++10::r) (p::l) ok
 |bad {b r:List UInt8}:10∉b->(∀p,¬XB b p)->Pars (b++10::r) [] false
 |last {b:List UInt8}:10∉b->b≠[]->Pars b [] false
end Go.Gr
end
section
namespace Go.Sx
open Go
theorem OY {a b:ByteArray} {K:Prop}(h:a.size+b.size<=9223372036854775807)(hK:K):a.size+b.size<=9223372036854775807/\K:=⟨h,hK⟩
theorem YV {ds:List Da} {i:Nat} {d:Da} {n:Int} {K:Nat->Da->Prop}(hx:ds[i]? =some d)(hn:n=i)(hK:K i d):∃(j:Nat) (d:Da),n=j/\ds[j]? =some d/\K j d:=⟨i,d,hn,hx,hK⟩
end Go.Sx
end
section
namespace Go.Proofs.YtjejpdfldmempaaGreatDoor
open Go.Sx Go.RowKit Go.Reg Go.Gr
set_option maxRecDepth 100000
theorem WS {C:Cx} {O:List Nat} {w:World} {p:Nat×Da}(h:Glob C O w)(hp:p∈C.Γ):∃c,RepC O w p.2 c/\Ds w p.1 0 c/\∃cs t fr,w.heap[p.1]? =some (.cells cs t fr)/\cs.size=gsz p.2:=by
 obtain⟨⟨cs,h1,h2⟩,_,h3⟩:=h p hp
 simp only[RepC]at h1
 obtain⟨b,o,c,rfl,_,_,h4,h5⟩:=h1
 simp only[EB,MV,Value.pointer.injEq,Ax,Addr.mk.injEq,and_true]at h2
 obtain⟨h6,rfl⟩:=h2
 subst h6
 exact⟨c,h4,h5,h3⟩
theorem Ms {O:List Nat} {w:World} {k:IntKind}:∀{l:List Int} {c:List Value},RepCs O w (l.map (Da.int k)) c->c=l.map (Value.int k)
 |[],c,h=>by simpa only[Bp,RepCs]using h
 |
  x::l,c,h=>by
  simp only[Am,RepCs,RepC]at h
  obtain⟨c1,c2,rfl,rfl,h⟩:=h
  rw[Ms h];rfl
theorem XU {P:Program} {C:Cx} {O:List Nat} {w:World} {g:Nat} {k:IntKind} {l:List Int} {name:String}(h:Glob C O w)(hp:(g,.agg (l.map (Da.int k)))∈C.Γ)(hn:P.globalNamed name=some g):Lib.TabIs P w name k l:=by
 obtain⟨c,h1,h2,cs,t,fr,h3,h4⟩:=WS h hp
 simp only[RepC]at h1
 have hc:=Ms h1
 subst hc
 unfold Lib.TabIs World.var?
 rw[hn,Kv]
 rw[h3]
 simp only[Ax]
 have hsz:cs.size=l.length:=by rw[h4];simp[gsz]
 apply Array.ext
 ·simp[hsz]
 ·intro i h5 h6
  have:=h2 i (Value.int k (l[i]'(by omega))) (by rw[Al,Ab (by omega)];rfl)
  simp only[World.cell?,h3,DE]at this
  rw[AT h5]at this
  simpa using this
theorem O6 {O:List Nat} {w:World} {s:ByteArray} {v:Value}(h:Rep O w (.str s) v):v=.string s:=by
 obtain⟨cs,h1,rfl⟩:=h
 simp only[RepC]at h1
 subst h1;rfl
end Go.Proofs.YtjejpdfldmempaaGreatDoor
end
section
namespace Go.Gr
structure Pt where
 labels:List Int
 edges:List Edg
theorem KF {α:Type} {f:Nat->Option α} {n i:Nat} {y:α}(h:∀k,k<i->f k=none)(hi:f i=some y)(hn:i<n):(List.range n).findSome? f=some y:=by
 rw[List.findSome?_eq_some_iff]
 refine⟨List.range i,i,(List.range (n-i-1)).map (λk=>i+1+k),?_,hi,λk hk=>h k (Bk.1 hk)⟩
 apply Bv
 intro k
 by_cases h1:k<n
 ·rw[Ey h1]
  rcases Nat.lt_trichotomy k i with h2|h2|h2
  ·rw[BN (by simpa using h2),Ey h2]
  ·subst h2
   rw[Cm (by simp),QR,Nat.sub_self];rfl
  ·rw[Cm (by simp;omega),QR]
   obtain⟨d,hd⟩:∃d,k-i=d+1:=⟨k-i-1,by omega⟩
   rw[hd,List.getElem?_cons_succ,Al,Ey (by omega)]
   simp;omega
 ·rw[AD (by simp;omega),AD (by simp;omega)]
theorem HD {α:Type} {f:Nat->Option α} {n:Nat}(h:∀k,k<n->f k=none):(List.range n).findSome? f=none:=by
 rw[List.findSome?_eq_none_iff]
 exactλk hk=>h k (Bk.1 hk)
def Iw(l:List Int):Option (Int×Nat):=if 8<l.length then some (6,0)else(List.range l.length).findSome? λi=>if CR ((l[i]?).getD 0)then some (3,i)else none
def OV(n:Nat)(p:Option Edg)(e:Edg):Option Int:=
 if¬(0<=min e.a e.b/\max e.a e.b<n)then some 3 else if e.b<=e.a then some 2 else match p with
  |none=>none
  |some q=>if BR q e<0 then none else some 2
def OW(n:Nat)(E:List Edg)(i:Nat):Option (Int×Nat):=match E[i]? with
 |none=>none
 |some e=>(OV n (if i=0 then none else E[i-1]?) e).map λc=>(c,i)
def RG(n:Nat)(E:List Edg):Option (Int×Nat):=(List.range E.length).findSome? (OW n E)
def Dr(p:Pt):Option (Int×Nat):=match Iw p.labels with
 |some x=>some x
 |none=>RG p.labels.length p.edges
theorem Fb {l:List Int}(h:Iw l=none):l.length<=8/\∀x∈l,0<=x/\x<=255:=by
 unfold Iw at h
 split at h
 ·cases h
 ·refine⟨by omega,λx hx=>?_⟩
  obtain⟨i,hi,rfl⟩:=Lb.1 hx
  have:=(List.findSome?_eq_none_iff.1 h) i (Bk.2 hi)
  rw[Ab hi]at this
  simp[CR]at this
  omega
theorem TN {n:Nat} {E:List Edg}(h:RG n E=none):(∀e∈E,0<=e.a/\e.a<e.b/\e.b<n)/\∀i x y,E[i]? =some x->E[i+1]? =some y->BR x y<0:=by
 have key:∀i e,E[i]? =some e->OV n (if i=0 then none else E[i-1]?) e=none:=by
  intro i e hx
  have:=(List.findSome?_eq_none_iff.1 h) i (Bk.2 (Ak.1 hx).1)
  unfold OW at this
  rw[hx]at this
  simpa using this
 refine⟨λe he=>?_,λi x y hx hy=>?_⟩
 ·obtain⟨i,hi,rfl⟩:=Lb.1 he
  have:=key i _ (Ab hi)
  unfold OV at this
  split at this
  ·cases this
  ·split at this
   ·cases this
   ·omega
 ·have:=key (i+1) y hy
  rw[if_neg (by omega),Nat.add_sub_cancel,hx]at this
  unfold OV at this
  split at this
  ·cases this
  ·split at this
   ·cases this
   ·simp only at this
    split at this
    ·assumption
    ·cases this
end Go.Gr
end
section
namespace Go.Proofs.YtjejpdfldmempaaGreatDoor
open Go.Sx Go.RowKit Go.Reg
set_option maxRecDepth 100000
def dF(c a:Int)(s:ByteArray):Da:=.iface 141 (.ref (.agg [.int .i64 c,.int .i64 a,.str s]))
theorem Eg(c a:Int)(s:ByteArray):Pure C1 49 [.int .i64 c,.int .i64 a,.str s] (λy=>y=dF c a s):=by
 refine CI Tryz.func49 Tryz.ntmps49 [] [] ?_
 ((conv=>whnf);repeat' ((first|refine odw ?_|refine nx ?_|refine AX (λ_=>?_) (λ_=>?_))<;>conv=>whnf))
 all_goals exact rfl
end Go.Proofs.YtjejpdfldmempaaGreatDoor
end
