/- Trc. -/
import Derived.Test.YtjpmmkodoeipmaaGreatDoorrkAl
import Derived.WalkKit
namespace Go.Reg
open Go Go.RowKit
structure Evt where
 kind:Nat
 a:Addr
 v:Value
 o:Obj
def st(a:Addr)(v:Value):Evt:=⟨1,a,v,default⟩
end Go.Reg
