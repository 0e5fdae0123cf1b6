/- Trc. -/
import Derived.Test.YtjejpdfldmempaaGreatDooragAl
import Derived.WalkKit
namespace Go.Reg
open Go Go.RowKit
structure Evt where
 kind:Nat
 a:Addr
 v:Value
 o:Obj
def ld(a:Addr)(v:Value):Evt:=⟨0,a,v,default⟩
def st(a:Addr)(v:Value):Evt:=⟨1,a,v,default⟩
def nw(r:Nat)(o:Obj):Evt:=⟨2,⟨r,0,none⟩,.nilIface,o⟩
def D3 {α:Type}(P:Program):Sem α->List Value->List Nat->Option (α×List Evt)
 |.pure x,_,_=>some (x,[])
 |.program k,vs,ns=>D3 P (k P) vs ns
 |.mark _ k,vs,ns=>D3 P k vs ns
 |.load .plain a k,v::vs,ns=>(D3 P (k v) vs ns).map λr=>(r.1,ld a v::r.2)
 |.store .plain a v k,vs,ns=>(D3 P k vs ns).map λr=>(r.1,st a v::r.2)
 |.new o k,vs,n::ns=>(D3 P (k n) vs ns).map λr=>(r.1,nw n o::r.2)
 |_,_,_=>none
def Lt:World->List Evt->World->Prop
 |w,[],w'=>w'=w
 |
  w,e::es,w'=>match e.kind with
  |0=>w.cell? e.a=some e.v/\Lt w es w'
  |1=>e.v.oneCell'=true/\(∃u,w.cell? e.a=some u)/\w.frozen? e.a=false/\Lt (w.setCell e.a e.v) es w'
  |_=>w.heap.size=e.a.block/\Lt (w.alloc e.o) es w'
theorem CP {α:Type} {P:Program}:∀(s:Sem α) (vs:List Value) (ns:List Nat) {x:α} {es:List Evt} {w w':World},D3 P s vs ns=some (x,es)->Lt w es w'->s.run P w=.ok x w'
 |
  .pure y,vs,ns,x,es,w,w',h,hf=>by
  simp only[D3,Ax,Prod.mk.injEq]at h
  obtain⟨rfl,rfl⟩:=h
  obtain rfl:w'=w:=hf
  rfl
 |
  .program k,vs,ns,x,es,w,w',h,hf=>by
  simp only[D3]at h
  exact CP (k P) vs ns h hf
 |
  .mark m k,vs,ns,x,es,w,w',h,hf=>by
  simp only[D3]at h
  exact CP k vs ns h hf
 |
  .load m a k,vs,ns,x,es,w,w',h,hf=>by
  cases m<;>cases vs<;>simp only[D3]at h<;>first|(cases h;done)|skip
  rename_i v vs
  cases ht:D3 P (k v) vs ns with
  |none=>rw[ht]at h;cases h
  |
   some r=>
   rw[ht]at h
   simp only[CS,Ax,Prod.mk.injEq]at h
   obtain⟨rfl,rfl⟩:=h
   obtain⟨hc,hf⟩:=hf
   simp only[ld]at hc
   simp only[Sem.run,hc]
   exact CP (k v) vs ns ht hf
 |
  .store m a v k,vs,ns,x,es,w,w',h,hf=>by
  cases m<;>simp only[D3]at h<;>first|(cases h;done)|skip
  cases ht:D3 P k vs ns with
  |none=>rw[ht]at h;cases h
  |
   some r=>
   rw[ht]at h
   simp only[CS,Ax,Prod.mk.injEq]at h
   obtain⟨rfl,rfl⟩:=h
   obtain⟨h1,⟨u,hc⟩,hz,hf⟩:=hf
   simp only[st]at h1 hc hz hf
   have:=CP k vs ns ht hf
   cases v<;>first|(cases h1;done)|(simp only[Sem.run,hc,hz,Dd,if_false];exact this)
 |
  .new o k,vs,ns,x,es,w,w',h,hf=>by
  cases ns<;>simp only[D3]at h<;>first|(cases h;done)|skip
  rename_i n ns
  cases ht:D3 P (k n) vs ns with
  |none=>rw[ht]at h;cases h
  |
   some r=>
   rw[ht]at h
   simp only[CS,Ax,Prod.mk.injEq]at h
   obtain⟨rfl,rfl⟩:=h
   obtain⟨hn,hf⟩:=hf
   simp only[nw]at hn hf
   simp only[Sem.run]
   rw[hn]
   exact CP (k n) vs ns ht hf
 |.shape ..,vs,ns,x,es,w,w',h,hf=>by simp[D3]at h
 |.freeze ..,vs,ns,x,es,w,w',h,hf=>by simp[D3]at h
 |.frozen ..,vs,ns,x,es,w,w',h,hf=>by simp[D3]at h
 |.getObj ..,vs,ns,x,es,w,w',h,hf=>by simp[D3]at h
 |.setObj ..,vs,ns,x,es,w,w',h,hf=>by simp[D3]at h
 |.choose ..,vs,ns,x,es,w,w',h,hf=>by simp[D3]at h
 |.sys ..,vs,ns,x,es,w,w',h,hf=>by simp[D3]at h
 |.halt ..,vs,ns,x,es,w,w',h,hf=>by simp[D3]at h
end Go.Reg
