/- Put. -/
import Derived.Test.YtjpmmkodoeipmaaGreatDoorrtag
namespace Go.Reg
open Go
section
variable {K V:Type} [DecidableEq K]
theorem ACd(k:K):get ([]:List (K×V)) k=none:=rfl
theorem M9(p:K×V)(l:List (K×V))(k:K):get (p::l) k=if p.1=k then some p.2 else get l k:=by
 by_cases h:p.1=k<;>simp[get,h]
theorem AB5(k:K)(v:V):put [] k v=[(k,v)]:=rfl
theorem wN(p:K×V)(l:List (K×V))(k:K)(v:V):put (p::l) k v=if p.1=k then(k,v)::l else p::put l k v:=by
 unfold put
 rw[Ap,YJ]
 by_cases h:p.1=k
 ·simp[h]
 ·simp only[beq_iff_eq,h,if_false]
  cases (l.map (·.1)).findIdx? (· ==k)<;>simp
theorem get_put(l:List (K×V))(k k':K)(v:V):get (put l k v) k'=if k=k' then some v else get l k':=by
 induction l with
 |nil=>simp[AB5,M9,ACd]
 |
  cons p l ih=>
  rw[wN]
  by_cases h:p.1=k
  ·rw[if_pos h,M9,M9]
   by_cases hk:k=k'<;>simp[h,hk]
  ·rw[if_neg h,M9,M9,ih]
   by_cases hk:k=k'
   ·subst hk;simp[h]
   ·simp[hk]
end
end Go.Reg
