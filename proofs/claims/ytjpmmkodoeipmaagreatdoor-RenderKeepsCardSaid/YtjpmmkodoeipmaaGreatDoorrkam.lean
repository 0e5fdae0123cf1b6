/- Put. -/
import Derived.Test.YtjpmmkodoeipmaaGreatDoorrkag
namespace Go.Reg
open Go
section
variable {K V:Type} [DecidableEq K]
theorem ABZ(k:K):get ([]:List (K×V)) k=none:=rfl
theorem ME(p:K×V)(l:List (K×V))(k:K):get (p::l) k=if p.1=k then some p.2 else get l k:=by
 by_cases h:p.1=k<;>simp[get,h]
theorem AB0(k:K)(v:V):put [] k v=[(k,v)]:=rfl
theorem wI(p:K×V)(l:List (K×V))(k:K)(v:V):put (p::l) k v=if p.1=k then(k,v)::l else p::put l k v:=by
 unfold put
 rw[Ar,YI]
 by_cases h:p.1=k
 ·simp[h]
 ·simp only[beq_iff_eq,h,if_false]
  cases (l.map (·.1)).findIdx? (· ==k)<;>simp
theorem get_put(l:List (K×V))(k k':K)(v:V):get (put l k v) k'=if k=k' then some v else get l k':=by
 induction l with
 |nil=>simp[AB0,ME,ABZ]
 |
  cons p l ih=>
  rw[wI]
  by_cases h:p.1=k
  ·rw[if_pos h,ME,ME]
   by_cases hk:k=k'<;>simp[h,hk]
  ·rw[if_neg h,ME,ME,ih]
   by_cases hk:k=k'
   ·subst hk;simp[h]
   ·simp[hk]
end
end Go.Reg
