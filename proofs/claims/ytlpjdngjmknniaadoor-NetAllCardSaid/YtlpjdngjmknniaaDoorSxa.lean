/- Da as the walk knows them, and the values that stand for them. -/
import Derived.Test.YtlpjdngjmknniaaDoorSli
namespace Go.Sx
open Go Go.RowKit Go.Reg

/-- what is known of a value that no step changes -/
inductive Da where
  | undef
  | int (k : IntKind) (n : Int)
  | bool (b : Bool)
  | prop (p : Prop) (i : Decidable p)
  | str (s : ByteArray)
  | agg (ds : List Da)
  | tuple (ds : List Da)
  | nilp
  | nils
  | nilm
  | nilf
  | nili
  | iface (t : TypeId) (d : Da)
  | ref (d : Da)
  | list (k : Nat) (ds : List Da)
  | func (fn : Fn) (first captured : List Da)
  | raw (v : Value)

/-- a value out of its cells -/
def toV : Da → List Value → Value
  | .agg _, cs => .agg cs.toArray
  | _, cs => cs.headD undef

def Cells (w : World) (b o : Nat) (cs : List Value) : Prop := ∀ j u, cs[j]? = some u → w.cell? ⟨b, o + j, none⟩ = some u

/-- an element's cells -/
def RowOk (k : Nat) (x : List Value) : Prop := x.length = k ∧ ∀ v ∈ x, v.oneCell' = true

mutual
/-- the cells stand for the datum; the blocks of O are not looked at -/
def RepC (O : List Nat) (w : World) : Da → List Value → Prop
  | .undef, cs => ∃ v, cs = [v]
  | .int k n, cs => cs = [.int k n]
  | .bool b, cs => cs = [.bool b]
  | .prop p i, cs => cs = [.bool (@decide p i)]
  | .str s, cs => cs = [.string s]
  | .agg ds, cs => RepCs O w ds cs
  | .tuple ds, cs => ∃ css, RepCss O w ds css ∧ cs = [.tuple (List.zipWith toV ds css).toArray]
  | .nilp, cs => cs = [.pointer none]
  | .nils, cs => cs = [.slice none 0 0]
  | .nilm, cs => cs = [.map none]
  | .nilf, cs => cs = [.nilFunc]
  | .nili, cs => cs = [.nilIface]
  | .iface t d, cs => ∃ c, RepC O w d c ∧ cs = [.iface t (toV d c)]
  | .ref d, cs => ∃ b o c, cs = [.pointer (some ⟨b, o, none⟩)] ∧ b ∉ O ∧ b < w.heap.size ∧ RepC O w d c ∧ Cells w b o c
  | .list k ds, cs => ∃ a c css, cs = [.slice a ds.length c] ∧ ds.length ≤ c ∧ c ≤ maxLen ∧ RepCss O w ds css ∧ (∀ x ∈ css, RowOk k x) ∧
      (ds = [] ∨ ∃ b o, a = some ⟨b, o, none⟩ ∧ b ∉ O ∧ b < w.heap.size ∧ Cells w b o css.flatten)
  | .func fn f c, cs => ∃ fs cs', RepCss O w f fs ∧ RepCss O w c cs' ∧ cs = [.func fn (List.zipWith toV f fs).toArray (List.zipWith toV c cs').toArray]
  | .raw v, cs => cs = [v]
def RepCs (O : List Nat) (w : World) : List Da → List Value → Prop
  | [], cs => cs = []
  | d :: ds, cs => ∃ c1 c2, cs = c1 ++ c2 ∧ RepC O w d c1 ∧ RepCs O w ds c2
def RepCss (O : List Nat) (w : World) : List Da → List (List Value) → Prop
  | [], css => css = []
  | d :: ds, css => ∃ c1 c2, css = c1 :: c2 ∧ RepC O w d c1 ∧ RepCss O w ds c2
end

def Rep (O : List Nat) (w : World) (d : Da) (v : Value) : Prop := ∃ cs, RepC O w d cs ∧ v = toV d cs
def Reps (O : List Nat) (w : World) (ds : List Da) (vs : List Value) : Prop := ∃ css, RepCss O w ds css ∧ vs = List.zipWith toV ds css

/-- how two moments lie: nothing that may be looked at has turned -/
structure Later (O : List Nat) (w : World) (O' : List Nat) (w' : World) : Prop where
  size : w.heap.size ≤ w'.heap.size
  blk : ∀ b, b < w.heap.size → b ∉ O → w'.heap[b]? = w.heap[b]?
  new : ∀ b, b ∉ O → b < w.heap.size → b ∉ O'

theorem Later.cells {O O' : List Nat} {w w' : World} (h : Later O w O' w') {b o : Nat} {cs : List Value} (hb : b < w.heap.size) (hn : b ∉ O) (hc : Cells w b o cs) : Cells w' b o cs := by
  intro j u hj
  have := hc j u hj
  rw [World.cell?_of_block (w := w) (h.blk b hb hn)]; exact this

mutual
theorem RepC.later {O O' : List Nat} {w w' : World} (h : Later O w O' w') : ∀ (d : Da) (cs : List Value), RepC O w d cs → RepC O' w' d cs
  | .undef, cs, r => r
  | .int _ _, cs, r => r
  | .bool _, cs, r => r
  | .prop _ _, cs, r => r
  | .str _, cs, r => r
  | .agg ds, cs, r => by simp only [RepC] at r ⊢; exact RepCs.later h ds cs r
  | .tuple ds, cs, r => by simp only [RepC] at r ⊢; obtain ⟨css, h1, h2⟩ := r; exact ⟨css, RepCss.later h ds css h1, h2⟩
  | .nilp, cs, r => r
  | .nils, cs, r => r
  | .nilm, cs, r => r
  | .nilf, cs, r => r
  | .nili, cs, r => r
  | .iface t d, cs, r => by simp only [RepC] at r ⊢; obtain ⟨c, h1, h2⟩ := r; exact ⟨c, RepC.later h d c h1, h2⟩
  | .ref d, cs, r => by
    simp only [RepC] at r ⊢
    obtain ⟨b, o, c, h1, h2, h3, h4, h5⟩ := r
    exact ⟨b, o, c, h1, h.new b h2 h3, Nat.lt_of_lt_of_le h3 h.size, RepC.later h d c h4, h.cells h3 h2 h5⟩
  | .list k ds, cs, r => by
    simp only [RepC] at r ⊢
    obtain ⟨a, c, css, h1, h2, h3, h4, h5, h6⟩ := r
    refine ⟨a, c, css, h1, h2, h3, RepCss.later h ds css h4, h5, h6.imp id ?_⟩
    rintro ⟨b, o, g1, g2, g3, g4⟩
    exact ⟨b, o, g1, h.new b g2 g3, Nat.lt_of_lt_of_le g3 h.size, h.cells g3 g2 g4⟩
  | .func fn f c, cs, r => by
    simp only [RepC] at r ⊢
    obtain ⟨fs, cs', h1, h2, h3⟩ := r
    exact ⟨fs, cs', RepCss.later h f fs h1, RepCss.later h c cs' h2, h3⟩
  | .raw _, cs, r => r
theorem RepCs.later {O O' : List Nat} {w w' : World} (h : Later O w O' w') : ∀ (ds : List Da) (cs : List Value), RepCs O w ds cs → RepCs O' w' ds cs
  | [], cs, r => r
  | d :: ds, cs, r => by
    simp only [RepCs] at r ⊢
    obtain ⟨c1, c2, h1, h2, h3⟩ := r
    exact ⟨c1, c2, h1, RepC.later h d c1 h2, RepCs.later h ds c2 h3⟩
theorem RepCss.later {O O' : List Nat} {w w' : World} (h : Later O w O' w') : ∀ (ds : List Da) (cs : List (List Value)), RepCss O w ds cs → RepCss O' w' ds cs
  | [], cs, r => r
  | d :: ds, cs, r => by
    simp only [RepCss] at r ⊢
    obtain ⟨c1, c2, h1, h2, h3⟩ := r
    exact ⟨c1, c2, h1, RepC.later h d c1 h2, RepCss.later h ds c2 h3⟩
end

theorem Rep.later {O O' : List Nat} {w w' : World} (h : Later O w O' w') {d : Da} {v : Value} (r : Rep O w d v) : Rep O' w' d v := by
  obtain ⟨cs, h1, h2⟩ := r; exact ⟨cs, RepC.later h d cs h1, h2⟩
theorem Reps.later {O O' : List Nat} {w w' : World} (h : Later O w O' w') {d : List Da} {v : List Value} (r : Reps O w d v) : Reps O' w' d v := by
  obtain ⟨cs, h1, h2⟩ := r; exact ⟨cs, RepCss.later h d cs h1, h2⟩

end Go.Sx
