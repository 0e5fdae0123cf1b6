/- Trc. -/
import Derived.Test.YtjejpdfldmempaaGreatDoorlzAl
import Derived.WalkKit
namespace Go.Reg
open Go Go.RowKit
structure Evt where
 kind:Nat
 a:Addr
 v:Value
 o:Obj
def ld(a:Addr)(v:Value):Evt:=⟨0,a,v,default⟩
def st(a:Addr)(v:Value):Evt:=⟨1,a,v,default⟩
def nw(r:Nat)(o:Obj):Evt:=⟨2,⟨r,0,none⟩,.nilIface,o⟩
def E7 {α:Type}(P:Program):Sem α->List Value->List Nat->Option (α×List Evt)
 |.pure x,_,_=>some (x,[])
 |.program k,vs,ns=>E7 P (k P) vs ns
 |.mark _ k,vs,ns=>E7 P k vs ns
 |.load .plain a k,v::vs,ns=>(E7 P (k v) vs ns).map λr=>(r.1,ld a v::r.2)
 |.store .plain a v k,vs,ns=>(E7 P k vs ns).map λr=>(r.1,st a v::r.2)
 |.new o k,vs,n::ns=>(E7 P (k n) vs ns).map λr=>(r.1,nw n o::r.2)
 |_,_,_=>none
def Pv:World->List Evt->World->Prop
 |w,[],w'=>w'=w
 |
  w,e::es,w'=>match e.kind with
  |0=>w.cell? e.a=some e.v/\Pv w es w'
  |1=>e.v.oneCell'=true/\(∃u,w.cell? e.a=some u)/\w.frozen? e.a=false/\Pv (w.setCell e.a e.v) es w'
  |_=>w.heap.size=e.a.block/\Pv (w.alloc e.o) es w'
theorem DG {α:Type} {P:Program}:∀(s:Sem α) (vs:List Value) (ns:List Nat) {x:α} {es:List Evt} {w w':World},E7 P s vs ns=some (x,es)->Pv w es w'->s.run P w=.ok x w'
 |
  .pure y,vs,ns,x,es,w,w',h,hf=>by
  simp only[E7,Aq,YN]at h
  obtain⟨rfl,rfl⟩:=h
  obtain rfl:w'=w:=hf
  rfl
 |
  .program k,vs,ns,x,es,w,w',h,hf=>by
  simp only[E7]at h
  exact DG (k P) vs ns h hf
 |
  .mark m k,vs,ns,x,es,w,w',h,hf=>by
  simp only[E7]at h
  exact DG k vs ns h hf
 |
  .load m a k,vs,ns,x,es,w,w',h,hf=>by
  cases m<;>cases vs<;>simp only[E7]at h<;>first|(cases h;done)|skip
  rename_i v vs
  cases ht:E7 P (k v) vs ns with
  |none=>rw[ht]at h;cases h
  |
   some r=>
   rw[ht]at h
   simp only[CV,Aq,YN]at h
   obtain⟨rfl,rfl⟩:=h
   obtain⟨hc,hf⟩:=hf
   simp only[ld]at hc
   simp only[Sem.run,hc]
   exact DG (k v) vs ns ht hf
 |
  .store m a v k,vs,ns,x,es,w,w',h,hf=>by
  cases m<;>simp only[E7]at h<;>first|(cases h;done)|skip
  cases ht:E7 P k vs ns with
  |none=>rw[ht]at h;cases h
  |
   some r=>
   rw[ht]at h
   simp only[CV,Aq,YN]at h
   obtain⟨rfl,rfl⟩:=h
   obtain⟨h1,⟨u,hc⟩,hz,hf⟩:=hf
   simp only[st]at h1 hc hz hf
   have:=DG k vs ns ht hf
   cases v<;>first|(cases h1;done)|(simp only[Sem.run,hc,hz,Cn,if_false];exact this)
 |
  .new o k,vs,ns,x,es,w,w',h,hf=>by
  cases ns<;>simp only[E7]at h<;>first|(cases h;done)|skip
  rename_i n ns
  cases ht:E7 P (k n) vs ns with
  |none=>rw[ht]at h;cases h
  |
   some r=>
   rw[ht]at h
   simp only[CV,Aq,YN]at h
   obtain⟨rfl,rfl⟩:=h
   obtain⟨hn,hf⟩:=hf
   simp only[nw]at hn hf
   simp only[Sem.run]
   rw[hn]
   exact DG (k n) vs ns ht hf
 |.shape ..,vs,ns,x,es,w,w',h,hf=>by simp[E7]at h
 |.freeze ..,vs,ns,x,es,w,w',h,hf=>by simp[E7]at h
 |.frozen ..,vs,ns,x,es,w,w',h,hf=>by simp[E7]at h
 |.getObj ..,vs,ns,x,es,w,w',h,hf=>by simp[E7]at h
 |.setObj ..,vs,ns,x,es,w,w',h,hf=>by simp[E7]at h
 |.choose ..,vs,ns,x,es,w,w',h,hf=>by simp[E7]at h
 |.sys ..,vs,ns,x,es,w,w',h,hf=>by simp[E7]at h
 |.halt ..,vs,ns,x,es,w,w',h,hf=>by simp[E7]at h
end Go.Reg
