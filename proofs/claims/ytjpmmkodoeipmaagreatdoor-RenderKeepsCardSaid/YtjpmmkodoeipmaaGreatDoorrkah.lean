/- Sli. -/
import Derived.Test.YtjpmmkodoeipmaaGreatDoorrkag
namespace Go.Reg
open Go Go.RowKit
section
variable {α:Type} {P:Program}
def Sl(E k:Nat)(enc:α->List Value)(w:World)(v:Value)(l:List α):Prop:=w.ownsRow 0 E k v l.length (l.flatMap enc)
theorem Sl.nil(E k:Nat)(enc:α->List Value)(w:World):Sl E k enc w (.slice none 0 0) []:=fI w 0 E k
theorem Sl.keep {E k:Nat} {enc:α->List Value} {S:List Nat} {w w':World} {v:Value} {l:List α}(h:Sl E k enc w v l)(t:Tch S w w')(hn:∀b,v.ownBlock=some b->b∉S):Sl E k enc w' v l:=by
 refine⟨h.1,?_⟩
 rcases h.2 with hh|⟨g,cap,cur,rfl,h0,hg,r⟩
 ·exact .inl hh
 ·exact .inr ⟨g,cap,cur,rfl,h0,by rw[t.blk g (Ak.1 hg).1 (hn g rfl)];exact hg,r⟩
theorem Sl.lt {E k:Nat} {enc:α->List Value} {w:World} {v:Value} {l:List α}(h:Sl E k enc w v l) {b:Nat}(hb:v.ownBlock=some b):b<w.heap.size:=(World.ownsRow.lt h b hb).2
theorem Sl.shape {E k:Nat} {enc:α->List Value} {w:World} {v:Value} {l:List α}(h:Sl E k enc w v l):(v=.slice none 0 0/\l=[])\/∃g cap,v=.slice (some ⟨g,0,none⟩) l.length cap/\l.length<=cap:=by
 rcases h.2 with⟨h1,h2⟩|⟨g,cap,cur,rfl,_,_,hc,_⟩
 ·exact .inl ⟨h1,AJ h2⟩
 ·exact .inr ⟨g,cap,rfl,hc⟩
theorem Qp {enc:α->List Value} {k:Nat}(he:∀x,(enc x).length=k):∀(l:List α) (i:Nat) (x:α) (j:Nat),l[i]? =some x->j<k->(l.flatMap enc)[i*k+j]? =(enc x)[j]?
 |[],i,x,j,h,_=>by simp at h
 |
  y::l,0,x,j,h,hj=>by
  simp at h;subst h
  simp only[BD,Nat.zero_mul,DT]
  rw[Bi (by rw[he];exact hj)]
 |
  y::l,i+1,x,j,h,hj=>by
  simp only[BD]
  rw[Bv (by rw[he,CV];omega),he]
  have:(i+1)*k+j-k=i*k+j:=by rw[CV];omega
  rw[this]
  exact Qp he l i x j (by simpa using h) hj
theorem Sl.cells {E k:Nat} {enc:α->List Value}(he:∀x,(enc x).length=k) {w:World} {v:Value} {l:List α}(h:Sl E k enc w v l) {g n cap:Nat}(hv:v=.slice (some ⟨g,0,none⟩) n cap) {i:Nat} {x:α}(hi:l[i]? =some x) {j:Nat} {u:Value}(hj:(enc x)[j]? =some u):
  w.cell? ⟨g,i*k+j,none⟩=some u:=by
 have h1:=(Ae.1 hj).1
 rw[he]at h1
 have h2:=Qp he l i x j hi h1
 have:=VB h (g:=g) (by rw[hv];rfl) (i*k+j) u (by rw[h2];exact hj)
 simpa[DA]using this
end
end Go.Reg
