/- Da as the walk knows them, and the values that stand for them. What a walk holds of memory: owned things by numbers, all else untouched. How memory turns under a walk: a new thing, a thing turned, a thing given up. The walk as a function from code to what is to be shown. The walk as a function from code to what is to be shown: operations, regions, code. The walk is sound: operands, tests, operations on values. The walk is sound: operations on values. The walk is sound: cells. The walk is sound: operations on memory. -/
import Derived.Test.YtlchegpgicdldaaDoorSli
import Derived.WalkKit
import Derived.WalkSpells
import Derived.WalkLawsBesides
namespace Go.Sx
open Go Go.RowKit Go.Reg

/-- what is known of a value that no step changes -/
inductive Da where
  | undef
  | int (k : IntKind) (n : Int)
  | bool (b : Bool)
  | prop (p : Prop) (i : Decidable p)
  | str (s : ByteArray)
  | agg (ds : List Da)
  | tuple (ds : List Da)
  | nilp
  | nils
  | nilm
  | nilf
  | nili
  | iface (t : TypeId) (d : Da)
  | ref (d : Da)
  | list (k : Nat) (ds : List Da)
  | func (fn : Fn) (first captured : List Da)
  | raw (v : Value)

/-- a value out of its cells -/
def toV : Da → List Value → Value
  | .agg _, cs => .agg cs.toArray
  | _, cs => cs.headD undef

def Cells (w : World) (b o : Nat) (cs : List Value) : Prop := ∀ j u, cs[j]? = some u → w.cell? ⟨b, o + j, none⟩ = some u

/-- an element's cells -/
def RowOk (k : Nat) (x : List Value) : Prop := x.length = k ∧ ∀ v ∈ x, v.oneCell' = true

mutual
/-- the cells stand for the datum; the blocks of O are not looked at -/
def RepC (O : List Nat) (w : World) : Da → List Value → Prop
  | .undef, cs => ∃ v, cs = [v]
  | .int k n, cs => cs = [.int k n]
  | .bool b, cs => cs = [.bool b]
  | .prop p i, cs => cs = [.bool (@decide p i)]
  | .str s, cs => cs = [.string s]
  | .agg ds, cs => RepCs O w ds cs
  | .tuple ds, cs => ∃ css, RepCss O w ds css ∧ cs = [.tuple (List.zipWith toV ds css).toArray]
  | .nilp, cs => cs = [.pointer none]
  | .nils, cs => cs = [.slice none 0 0]
  | .nilm, cs => cs = [.map none]
  | .nilf, cs => cs = [.nilFunc]
  | .nili, cs => cs = [.nilIface]
  | .iface t d, cs => ∃ c, RepC O w d c ∧ cs = [.iface t (toV d c)]
  | .ref d, cs => ∃ b o c, cs = [.pointer (some ⟨b, o, none⟩)] ∧ b ∉ O ∧ b < w.heap.size ∧ RepC O w d c ∧ Cells w b o c
  | .list k ds, cs => ∃ a c css, cs = [.slice a ds.length c] ∧ ds.length ≤ c ∧ c ≤ maxLen ∧ RepCss O w ds css ∧ (∀ x ∈ css, RowOk k x) ∧
      (ds = [] ∨ ∃ b o, a = some ⟨b, o, none⟩ ∧ b ∉ O ∧ b < w.heap.size ∧ Cells w b o css.flatten)
  | .func fn f c, cs => ∃ fs cs', RepCss O w f fs ∧ RepCss O w c cs' ∧ cs = [.func fn (List.zipWith toV f fs).toArray (List.zipWith toV c cs').toArray]
  | .raw v, cs => cs = [v]
def RepCs (O : List Nat) (w : World) : List Da → List Value → Prop
  | [], cs => cs = []
  | d :: ds, cs => ∃ c1 c2, cs = c1 ++ c2 ∧ RepC O w d c1 ∧ RepCs O w ds c2
def RepCss (O : List Nat) (w : World) : List Da → List (List Value) → Prop
  | [], css => css = []
  | d :: ds, css => ∃ c1 c2, css = c1 :: c2 ∧ RepC O w d c1 ∧ RepCss O w ds c2
end

def Rep (O : List Nat) (w : World) (d : Da) (v : Value) : Prop := ∃ cs, RepC O w d cs ∧ v = toV d cs
def Reps (O : List Nat) (w : World) (ds : List Da) (vs : List Value) : Prop := ∃ css, RepCss O w ds css ∧ vs = List.zipWith toV ds css

/-- how two moments lie: nothing that may be looked at has turned -/
structure Later (O : List Nat) (w : World) (O' : List Nat) (w' : World) : Prop where
  size : w.heap.size ≤ w'.heap.size
  blk : ∀ b, b < w.heap.size → b ∉ O → w'.heap[b]? = w.heap[b]?
  new : ∀ b, b ∉ O → b < w.heap.size → b ∉ O'

theorem Later.cells {O O' : List Nat} {w w' : World} (h : Later O w O' w') {b o : Nat} {cs : List Value} (hb : b < w.heap.size) (hn : b ∉ O) (hc : Cells w b o cs) : Cells w' b o cs := by
  intro j u hj
  have := hc j u hj
  rw [World.cell?_of_block (w := w) (h.blk b hb hn)]; exact this

mutual
theorem RepC.later {O O' : List Nat} {w w' : World} (h : Later O w O' w') : ∀ (d : Da) (cs : List Value), RepC O w d cs → RepC O' w' d cs
  | .undef, cs, r => r
  | .int _ _, cs, r => r
  | .bool _, cs, r => r
  | .prop _ _, cs, r => r
  | .str _, cs, r => r
  | .agg ds, cs, r => by simp only [RepC] at r ⊢; exact RepCs.later h ds cs r
  | .tuple ds, cs, r => by simp only [RepC] at r ⊢; obtain ⟨css, h1, h2⟩ := r; exact ⟨css, RepCss.later h ds css h1, h2⟩
  | .nilp, cs, r => r
  | .nils, cs, r => r
  | .nilm, cs, r => r
  | .nilf, cs, r => r
  | .nili, cs, r => r
  | .iface t d, cs, r => by simp only [RepC] at r ⊢; obtain ⟨c, h1, h2⟩ := r; exact ⟨c, RepC.later h d c h1, h2⟩
  | .ref d, cs, r => by
    simp only [RepC] at r ⊢
    obtain ⟨b, o, c, h1, h2, h3, h4, h5⟩ := r
    exact ⟨b, o, c, h1, h.new b h2 h3, Nat.lt_of_lt_of_le h3 h.size, RepC.later h d c h4, h.cells h3 h2 h5⟩
  | .list k ds, cs, r => by
    simp only [RepC] at r ⊢
    obtain ⟨a, c, css, h1, h2, h3, h4, h5, h6⟩ := r
    refine ⟨a, c, css, h1, h2, h3, RepCss.later h ds css h4, h5, h6.imp id ?_⟩
    rintro ⟨b, o, g1, g2, g3, g4⟩
    exact ⟨b, o, g1, h.new b g2 g3, Nat.lt_of_lt_of_le g3 h.size, h.cells g3 g2 g4⟩
  | .func fn f c, cs, r => by
    simp only [RepC] at r ⊢
    obtain ⟨fs, cs', h1, h2, h3⟩ := r
    exact ⟨fs, cs', RepCss.later h f fs h1, RepCss.later h c cs' h2, h3⟩
  | .raw _, cs, r => r
theorem RepCs.later {O O' : List Nat} {w w' : World} (h : Later O w O' w') : ∀ (ds : List Da) (cs : List Value), RepCs O w ds cs → RepCs O' w' ds cs
  | [], cs, r => r
  | d :: ds, cs, r => by
    simp only [RepCs] at r ⊢
    obtain ⟨c1, c2, h1, h2, h3⟩ := r
    exact ⟨c1, c2, h1, RepC.later h d c1 h2, RepCs.later h ds c2 h3⟩
theorem RepCss.later {O O' : List Nat} {w w' : World} (h : Later O w O' w') : ∀ (ds : List Da) (cs : List (List Value)), RepCss O w ds cs → RepCss O' w' ds cs
  | [], cs, r => r
  | d :: ds, cs, r => by
    simp only [RepCss] at r ⊢
    obtain ⟨c1, c2, h1, h2, h3⟩ := r
    exact ⟨c1, c2, h1, RepC.later h d c1 h2, RepCss.later h ds c2 h3⟩
end

theorem Rep.later {O O' : List Nat} {w w' : World} (h : Later O w O' w') {d : Da} {v : Value} (r : Rep O w d v) : Rep O' w' d v := by
  obtain ⟨cs, h1, h2⟩ := r; exact ⟨cs, RepC.later h d cs h1, h2⟩
theorem Reps.later {O O' : List Nat} {w w' : World} (h : Later O w O' w') {d : List Da} {v : List Value} (r : Reps O w d v) : Reps O' w' d v := by
  obtain ⟨cs, h1, h2⟩ := r; exact ⟨cs, RepCss.later h d cs h1, h2⟩
/-- how many cells a variable has -/
def gsz : Da → Nat
  | .agg ds => ds.length
  | _ => 1
/-- a variable: what its block holds, and that it holds no more -/
def GRep (O : List Nat) (w : World) (p : Nat × Da) : Prop := Rep O w (.ref p.2) (.pointer (some ⟨p.1, 0, none⟩)) ∧ p.1 ∉ O ∧ ∃ cs t fr, w.heap[p.1]? = some (.cells cs t fr) ∧ cs.size = gsz p.2
theorem GRep.later {O O' : List Nat} {w w' : World} (h : Later O w O' w') {p : Nat × Da} (r : GRep O w p) : GRep O' w' p := by
  obtain ⟨r1, r2, cs, t, fr, r3, r4⟩ := r
  have hlt : p.1 < w.heap.size := (Array.getElem?_eq_some_iff.1 r3).1
  exact ⟨r1.later h, h.new _ r2 hlt, cs, t, fr, by rw [h.blk _ hlt r2]; exact r3, r4⟩

end Go.Sx

namespace Go.Sx
open Go Go.RowKit Go.Reg

/-- what a slot of the frame holds -/
inductive Dat where
  | d (x : Da)
  | own (i : Nat)
  | at_ (i off : Nat)
  | el (i k n off : Nat)
  | agg (ds : List Dat)
  | tuple (ds : List Dat)
  | iface (t : TypeId) (d : Dat)
  | func (fn : Fn) (first captured : List Dat)

def toVD : Dat → List Value → Value
  | .d x, cs => toV x cs
  | .agg _, cs => .agg cs.toArray
  | _, cs => cs.headD undef

mutual
def RepD (η : Nat → Value) (I O : List Nat) (w : World) : Dat → List Value → Prop
  | .d x, cs => RepC O w x cs
  | .own i, cs => i ∈ I ∧ cs = [η i]
  | .at_ i off, cs => i ∈ I ∧ ∃ b, η i = .pointer (some ⟨b, 0, none⟩) ∧ cs = [.pointer (some ⟨b, off, none⟩)]
  | .el i k n off, cs => i ∈ I ∧ ∃ b l c, η i = .slice (some ⟨b, 0, none⟩) l c ∧ cs = [.pointer (some ⟨b, n * k + off, none⟩)]
  | .agg ds, cs => RepDs η I O w ds cs
  | .tuple ds, cs => ∃ css, RepDss η I O w ds css ∧ cs = [.tuple (List.zipWith toVD ds css).toArray]
  | .iface t d, cs => ∃ c, RepD η I O w d c ∧ cs = [.iface t (toVD d c)]
  | .func fn f c, cs => ∃ fs cs', RepDss η I O w f fs ∧ RepDss η I O w c cs' ∧ cs = [.func fn (List.zipWith toVD f fs).toArray (List.zipWith toVD c cs').toArray]
def RepDs (η : Nat → Value) (I O : List Nat) (w : World) : List Dat → List Value → Prop
  | [], cs => cs = []
  | d :: ds, cs => ∃ c1 c2, cs = c1 ++ c2 ∧ RepD η I O w d c1 ∧ RepDs η I O w ds c2
def RepDss (η : Nat → Value) (I O : List Nat) (w : World) : List Dat → List (List Value) → Prop
  | [], css => css = []
  | d :: ds, css => ∃ c1 c2, css = c1 :: c2 ∧ RepD η I O w d c1 ∧ RepDss η I O w ds c2
end

mutual
/-- the mentions of i: x in their place -/
def kill (i : Nat) (x : Da) : Dat → Dat
  | .own j => match Nat.beq j i with | true => .d x | false => .own j
  | .at_ j o => match Nat.beq j i with | true => .d .undef | false => .at_ j o
  | .el j k n o => match Nat.beq j i with | true => .d .undef | false => .el j k n o
  | .agg ds => .agg (kills i x ds)
  | .tuple ds => .tuple (kills i x ds)
  | .iface t d => .iface t (kill i x d)
  | .func fn f c => .func fn (kills i x f) (kills i x c)
  | .d x => .d x
def kills (i : Nat) (x : Da) : List Dat → List Dat
  | [] => []
  | d :: ds => kill i x d :: kills i x ds
end

mutual
theorem RepD.later {η η' : Nat → Value} {I I' O O' : List Nat} {w w' : World} (h : Later O w O' w') (hI : ∀ i ∈ I, i ∈ I' ∧ η' i = η i) : ∀ (d : Dat) (cs : List Value), RepD η I O w d cs → RepD η' I' O' w' d cs
  | .d x, cs, r => RepC.later h x cs r
  | .own i, cs, r => by simp only [RepD] at r ⊢; exact ⟨(hI i r.1).1, by rw [(hI i r.1).2]; exact r.2⟩
  | .at_ i off, cs, r => by simp only [RepD] at r ⊢; exact ⟨(hI i r.1).1, by rw [(hI i r.1).2]; exact r.2⟩
  | .el i k n off, cs, r => by simp only [RepD] at r ⊢; exact ⟨(hI i r.1).1, by rw [(hI i r.1).2]; exact r.2⟩
  | .agg ds, cs, r => by simp only [RepD] at r ⊢; exact RepDs.later h hI ds cs r
  | .tuple ds, cs, r => by simp only [RepD] at r ⊢; obtain ⟨css, h1, h2⟩ := r; exact ⟨css, RepDss.later h hI ds css h1, h2⟩
  | .iface t d, cs, r => by simp only [RepD] at r ⊢; obtain ⟨c, h1, h2⟩ := r; exact ⟨c, RepD.later h hI d c h1, h2⟩
  | .func fn f c, cs, r => by
    simp only [RepD] at r ⊢
    obtain ⟨fs, cs', h1, h2, h3⟩ := r
    exact ⟨fs, cs', RepDss.later h hI f fs h1, RepDss.later h hI c cs' h2, h3⟩
theorem RepDs.later {η η' : Nat → Value} {I I' O O' : List Nat} {w w' : World} (h : Later O w O' w') (hI : ∀ i ∈ I, i ∈ I' ∧ η' i = η i) : ∀ (ds : List Dat) (cs : List Value), RepDs η I O w ds cs → RepDs η' I' O' w' ds cs
  | [], cs, r => r
  | d :: ds, cs, r => by
    simp only [RepDs] at r ⊢
    obtain ⟨c1, c2, h1, h2, h3⟩ := r
    exact ⟨c1, c2, h1, RepD.later h hI d c1 h2, RepDs.later h hI ds c2 h3⟩
theorem RepDss.later {η η' : Nat → Value} {I I' O O' : List Nat} {w w' : World} (h : Later O w O' w') (hI : ∀ i ∈ I, i ∈ I' ∧ η' i = η i) : ∀ (ds : List Dat) (cs : List (List Value)), RepDss η I O w ds cs → RepDss η' I' O' w' ds cs
  | [], cs, r => r
  | d :: ds, cs, r => by
    simp only [RepDss] at r ⊢
    obtain ⟨c1, c2, h1, h2, h3⟩ := r
    exact ⟨c1, c2, h1, RepD.later h hI d c1 h2, RepDss.later h hI ds c2 h3⟩
end

theorem beq_cases (j i : Nat) : (Nat.beq j i = true ∧ j = i) ∨ (Nat.beq j i = false ∧ j ≠ i) := by
  cases hb : Nat.beq j i
  · exact .inr ⟨rfl, fun e => by subst e; simp at hb⟩
  · exact .inl ⟨rfl, Nat.eq_of_beq_eq_true hb⟩

/-- a datum of one cell -/
def Da.one : Da → Bool
  | .agg _ => false
  | _ => true
theorem toV_one {x : Da} (h : x.one = true) (cs : List Value) : toV x cs = cs.headD undef := by
  cases x <;> first | rfl | cases h

theorem toVD_kill {i : Nat} {x : Da} (hx : x.one = true) (d : Dat) (cs : List Value) : toVD (kill i x d) cs = toVD d cs := by
  cases d with
  | own j => rcases beq_cases j i with ⟨h, _⟩ | ⟨h, _⟩ <;> simp only [kill, h, toVD, toV_one hx]
  | at_ j o => rcases beq_cases j i with ⟨h, _⟩ | ⟨h, _⟩ <;> simp only [kill, h, toVD, toV]
  | el j k n o => rcases beq_cases j i with ⟨h, _⟩ | ⟨h, _⟩ <;> simp only [kill, h, toVD, toV]
  | _ => rfl
theorem zip_kills {i : Nat} {x : Da} (hx : x.one = true) : ∀ (ds : List Dat) (css : List (List Value)), List.zipWith toVD (kills i x ds) css = List.zipWith toVD ds css
  | [], css => rfl
  | d :: ds, [] => by simp [kills]
  | d :: ds, c :: css => by simp only [kills, List.zipWith_cons_cons]; rw [toVD_kill hx d c, zip_kills hx ds css]

section
variable {η η' : Nat → Value} {I I' O O' : List Nat} {w w' : World} {i : Nat} {x : Da}
mutual
theorem RepD.kill (hx : x.one = true) (hl : Later O w O' w') (hI : ∀ j ∈ I, j ≠ i → j ∈ I' ∧ η' j = η j) (hr : RepC O' w' x [η i]) : ∀ (d : Dat) (cs : List Value), RepD η I O w d cs → RepD η' I' O' w' (kill i x d) cs
  | .d y, cs, r => RepC.later hl y cs r
  | .own j, cs, r => by
    simp only [RepD] at r
    rcases beq_cases j i with ⟨h, e⟩ | ⟨h, e⟩
    · subst e; simp only [Sx.kill, h, RepD]; rw [r.2]; exact hr
    · simp only [Sx.kill, h, RepD]; exact ⟨(hI j r.1 e).1, by rw [(hI j r.1 e).2]; exact r.2⟩
  | .at_ j off, cs, r => by
    simp only [RepD] at r
    rcases beq_cases j i with ⟨h, e⟩ | ⟨h, e⟩
    · simp only [Sx.kill, h, RepD, RepC]; obtain ⟨_, b, _, h⟩ := r; exact ⟨_, h⟩
    · simp only [Sx.kill, h, RepD]; exact ⟨(hI j r.1 e).1, by rw [(hI j r.1 e).2]; exact r.2⟩
  | .el j k n off, cs, r => by
    simp only [RepD] at r
    rcases beq_cases j i with ⟨h, e⟩ | ⟨h, e⟩
    · simp only [Sx.kill, h, RepD, RepC]; obtain ⟨_, b, l, c, _, h⟩ := r; exact ⟨_, h⟩
    · simp only [Sx.kill, h, RepD]; exact ⟨(hI j r.1 e).1, by rw [(hI j r.1 e).2]; exact r.2⟩
  | .agg ds, cs, r => by simp only [RepD, Sx.kill] at r ⊢; exact RepDs.kill hx hl hI hr ds cs r
  | .tuple ds, cs, r => by simp only [RepD, Sx.kill] at r ⊢; obtain ⟨css, h1, h2⟩ := r; exact ⟨css, RepDss.kill hx hl hI hr ds css h1, by rw [zip_kills hx]; exact h2⟩
  | .iface t d, cs, r => by simp only [RepD, Sx.kill] at r ⊢; obtain ⟨c, h1, h2⟩ := r; exact ⟨c, RepD.kill hx hl hI hr d c h1, by rw [toVD_kill hx]; exact h2⟩
  | .func fn f c, cs, r => by
    simp only [RepD, Sx.kill] at r ⊢
    obtain ⟨fs, cs', h1, h2, h3⟩ := r
    exact ⟨fs, cs', RepDss.kill hx hl hI hr f fs h1, RepDss.kill hx hl hI hr c cs' h2, by rw [zip_kills hx, zip_kills hx]; exact h3⟩
theorem RepDs.kill (hx : x.one = true) (hl : Later O w O' w') (hI : ∀ j ∈ I, j ≠ i → j ∈ I' ∧ η' j = η j) (hr : RepC O' w' x [η i]) : ∀ (ds : List Dat) (cs : List Value), RepDs η I O w ds cs → RepDs η' I' O' w' (kills i x ds) cs
  | [], cs, r => r
  | d :: ds, cs, r => by
    simp only [RepDs, kills] at r ⊢
    obtain ⟨c1, c2, h1, h2, h3⟩ := r
    exact ⟨c1, c2, h1, RepD.kill hx hl hI hr d c1 h2, RepDs.kill hx hl hI hr ds c2 h3⟩
theorem RepDss.kill (hx : x.one = true) (hl : Later O w O' w') (hI : ∀ j ∈ I, j ≠ i → j ∈ I' ∧ η' j = η j) (hr : RepC O' w' x [η i]) : ∀ (ds : List Dat) (cs : List (List Value)), RepDss η I O w ds cs → RepDss η' I' O' w' (kills i x ds) cs
  | [], cs, r => r
  | d :: ds, cs, r => by
    simp only [RepDss, kills] at r ⊢
    obtain ⟨c1, c2, h1, h2, h3⟩ := r
    exact ⟨c1, c2, h1, RepD.kill hx hl hI hr d c1 h2, RepDss.kill hx hl hI hr ds c2 h3⟩
end
end

/-- an owned thing -/
inductive Own where
  | cells (T : TypeId) (ds : List Dat)
  | slice (E k : Nat) (ds : List Da)
  | abs (R : World → Value → List Nat → Prop) (keep : ∀ (S : List Nat) w w' v F, R w v F → Tch S w w' → (∀ x ∈ F, x ∉ S) → R w' v F) (lt : ∀ w v F, R w v F → ∀ x ∈ F, x < w.heap.size) (one : ∀ w v F, R w v F → v.oneCell' = true)
  | ghost (vs : List Value) (ds : List Dat)

def Own.holds (η : Nat → Value) (I O : List Nat) (w : World) : Own → Value → List Nat → Prop
  | .cells T ds, v, F => ∃ b cs, v = .pointer (some ⟨b, 0, none⟩) ∧ F = [b] ∧ Blk w b T cs ∧ RepDs η I O w ds cs
  | .slice E k ds, v, F => ∃ css, Sl E k id w v css ∧ F = v.ownBlock.toList ∧ RepCss O w ds css ∧ (∀ x ∈ css, RowOk k x)
  | .abs R _ _ _, v, F => R w v F
  | .ghost vs ds, v, F => v = .nilFunc ∧ F = [] ∧ ∃ css, RepDss η I O w ds css ∧ vs = List.zipWith toVD ds css

theorem Own.holds.lt {η : Nat → Value} {I O : List Nat} {w : World} {o : Own} {v : Value} {F : List Nat} (h : o.holds η I O w v F) : ∀ b ∈ F, b < w.heap.size := by
  cases o with
  | cells T ds =>
    obtain ⟨b, cs, rfl, rfl, hb, _⟩ := h
    intro x hx; simp at hx; subst hx; exact hb.lt
  | slice E k ds =>
    obtain ⟨css, hs, rfl, _⟩ := h
    intro x hx; exact hs.lt (by simpa using hx)
  | abs R k lt _ => exact lt _ _ _ h
  | ghost vs ds => obtain ⟨_, rfl, _⟩ := h; simp

theorem Own.holds.later {η η' : Nat → Value} {I I' O O' S : List Nat} {w w' : World} {o : Own} {v : Value} {F : List Nat} (h : o.holds η I O w v F) (hl : Later O w O' w') (hI : ∀ i ∈ I, i ∈ I' ∧ η' i = η i) (ht : Tch S w w') (hF : ∀ x ∈ F, x ∉ S) : o.holds η' I' O' w' v F := by
  cases o with
  | cells T ds =>
    obtain ⟨b, cs, rfl, rfl, hb, hr⟩ := h
    exact ⟨b, cs, rfl, rfl, hb.keep ht (hF b (by simp)), RepDs.later hl hI _ _ hr⟩
  | slice E k ds =>
    obtain ⟨css, hs, rfl, hr, hk⟩ := h
    exact ⟨css, hs.keep ht (fun b hb => hF b (by simpa using hb)), rfl, RepCss.later hl _ _ hr, hk⟩
  | abs R k lt _ => exact k S w w' v F h ht hF
  | ghost vs ds => obtain ⟨h1, h2, css, h3, h4⟩ := h; exact ⟨h1, h2, css, RepDss.later hl hI _ _ h3, h4⟩

abbrev Sg := List (Nat × Own)
abbrev Fr := List (Nat × Dat)

def ids (σ : Sg) : List Nat := σ.map (·.1)
def blocks (φ : Nat → List Nat) (σ : Sg) : List Nat := σ.flatMap fun p => φ p.1
def killO (i : Nat) (x : Da) : Own → Own
  | .cells T ds => .cells T (kills i x ds)
  | .slice E k ds => .slice E k ds
  | .abs R h l o => .abs R h l o
  | .ghost vs ds => .ghost vs (kills i x ds)

/-- what stays the same in a proof: the program, its globals -/
structure Cx where
  P : Program
  Γ : List (Nat × Da)

/-- memory: the owned things σ, of which η tells the values and φ the blocks; the blocks B are nobody's to look at; since w0 no block has turned but those of S -/
structure Mem (C : Cx) (B S : List Nat) (w0 : World) (σ : Sg) (η : Nat → Value) (φ : Nat → List Nat) (w : World) : Prop where
  tch : Tch S w0 w
  own : ∀ p ∈ σ, p.2.holds η (ids σ) (B ++ blocks φ σ) w (η p.1) (φ p.1)
  nodup : (ids σ).Nodup
  disj : ∀ i ∈ ids σ, ∀ j ∈ ids σ, i ≠ j → ∀ b ∈ φ i, b ∉ φ j
  new : ∀ i ∈ ids σ, ∀ b ∈ φ i, (b ∈ S ∧ b ∉ B) ∨ w0.heap.size ≤ b
  out : ∀ b ∈ B, b < w0.heap.size
  glob : ∀ g ∈ C.Γ, GRep (B ++ blocks φ σ) w g

def get : Fr → Nat → Dat
  | [], _ => .d .undef
  | (t, d) :: fr, s => match Nat.beq t s with
    | true => d
    | false => get fr s

/-- a frame's slots -/
def FrRep (η : Nat → Value) (I O : List Nat) (w : World) (fr : Fr) (a : Act) : Prop := ∀ t, ∃ cs, RepD η I O w (get fr t) cs ∧ a.tmps.getD t undef = toVD (get fr t) cs

structure Models (C : Cx) (B S : List Nat) (w0 : World) (n : Nat) (fr : Fr) (σ : Sg) (η : Nat → Value) (φ : Nat → List Nat) (a : Act) (w : World) : Prop where
  mem : Mem C B S w0 σ η φ w
  fr : FrRep η (ids σ) (B ++ blocks φ σ) w fr a
  defers : a.defers = []
  size : a.tmps.size = n

theorem Mem.lt {C : Cx} {B S : List Nat} {w0 w : World} {σ : Sg} {η : Nat → Value} {φ : Nat → List Nat} (h : Mem C B S w0 σ η φ w) : ∀ b ∈ B ++ blocks φ σ, b < w.heap.size := by
  intro b hb
  rcases List.mem_append.1 hb with hb | hb
  · exact Nat.lt_of_lt_of_le (h.out b hb) h.tch.size
  · obtain ⟨p, hp, hb⟩ := List.mem_flatMap.1 hb
    exact (h.own p hp).lt b hb

theorem mem_ids {σ : Sg} {p : Nat × Own} (h : p ∈ σ) : p.1 ∈ ids σ := List.mem_map_of_mem h
theorem mem_blocks {φ : Nat → List Nat} {σ : Sg} {i : Nat} {b : Nat} (h : i ∈ ids σ) (hb : b ∈ φ i) : b ∈ blocks φ σ := by
  obtain ⟨p, hp, rfl⟩ := List.mem_map.1 h
  exact List.mem_flatMap.2 ⟨p, hp, hb⟩

theorem RepC.undef_ex (O : List Nat) (w : World) (v : Value) : RepC O w .undef [v] := by simp [RepC]

theorem FrRep.put {η : Nat → Value} {I O : List Nat} {w : World} {fr : Fr} {a : Act} (h : FrRep η I O w fr a) {t : Nat} (ht : t < a.tmps.size) {d : Dat} {v : Value} {cs : List Value} (hd : RepD η I O w d cs) (hv : v = toVD d cs) : FrRep η I O w ((t, d) :: fr) (a.put (some t) v) := by
  intro s
  simp only [get, Act.put]
  by_cases hs : t = s
  · subst hs
    simp only [Nat.beq_refl]
    exact ⟨cs, hd, by simp [Array.getD, ht, hv]⟩
  · have : Nat.beq t s = false := by
      cases hb : Nat.beq t s
      · rfl
      · exact absurd (Nat.eq_of_beq_eq_true hb) hs
    rw [this]
    obtain ⟨c, h1, h2⟩ := h s
    refine ⟨c, h1, ?_⟩
    rw [← h2]
    simp [Array.getElem?_setIfInBounds_ne hs]
theorem FrRep.later {η η' : Nat → Value} {I I' O O' : List Nat} {w w' : World} {fr : Fr} {a : Act} (h : FrRep η I O w fr a) (hl : Later O w O' w') (hI : ∀ i ∈ I, i ∈ I' ∧ η' i = η i) : FrRep η' I' O' w' fr a := by
  intro t
  obtain ⟨cs, h1, h2⟩ := h t
  exact ⟨cs, RepD.later hl hI _ _ h1, h2⟩

def killF (i : Nat) (x : Da) : Fr → Fr
  | [] => []
  | (t, d) :: fr => (t, kill i x d) :: killF i x fr
theorem get_killF (i : Nat) (x : Da) : ∀ (fr : Fr) (t : Nat), get (killF i x fr) t = kill i x (get fr t)
  | [], t => rfl
  | (s, d) :: fr, t => by
    simp only [killF, get]
    cases Nat.beq s t
    · exact get_killF i x fr t
    · rfl
theorem FrRep.kill {η η' : Nat → Value} {I I' O O' : List Nat} {w w' : World} {fr : Fr} {a : Act} {i : Nat} {x : Da} (h : FrRep η I O w fr a) (hx : x.one = true) (hl : Later O w O' w') (hI : ∀ j ∈ I, j ≠ i → j ∈ I' ∧ η' j = η j) (hr : RepC O' w' x [η i]) : FrRep η' I' O' w' (killF i x fr) a := by
  intro t
  obtain ⟨cs, h1, h2⟩ := h t
  rw [get_killF]
  exact ⟨cs, RepD.kill hx hl hI hr _ _ h1, by rw [toVD_kill hx]; exact h2⟩
theorem Own.holds.kill {η η' : Nat → Value} {I I' O O' S : List Nat} {w w' : World} {o : Own} {v : Value} {F : List Nat} {i : Nat} {x : Da} (h : o.holds η I O w v F) (hx : x.one = true) (hl : Later O w O' w') (hI : ∀ j ∈ I, j ≠ i → j ∈ I' ∧ η' j = η j) (hr : RepC O' w' x [η i]) (ht : Tch S w w') (hF : ∀ y ∈ F, y ∉ S) : (killO i x o).holds η' I' O' w' v F := by
  cases o with
  | cells T ds =>
    obtain ⟨b, cs, rfl, rfl, hb, hd⟩ := h
    exact ⟨b, cs, rfl, rfl, hb.keep ht (hF b (by simp)), RepDs.kill hx hl hI hr _ _ hd⟩
  | slice E k ds =>
    obtain ⟨css, hs, rfl, hd, hk⟩ := h
    exact ⟨css, hs.keep ht (fun b hb => hF b (by simpa using hb)), rfl, RepCss.later hl _ _ hd, hk⟩
  | abs R k lt _ => exact k S w w' v F h ht hF
  | ghost vs ds => obtain ⟨h1, h2, css, h3, h4⟩ := h; exact ⟨h1, h2, css, RepDss.kill hx hl hI hr _ _ h3, by rw [zip_kills hx]; exact h4⟩

end Go.Sx

namespace Go.Sx
open Go Go.RowKit Go.Reg

variable {C : Cx} {B S : List Nat} {w0 w w' : World} {σ : Sg} {η η' : Nat → Value} {φ φ' : Nat → List Nat} {i : Nat} {o : Own}

theorem Later.same (h : Tch [] w w') (O : List Nat) : Later O w O w' := ⟨h.size, fun b hb _ => h.blk b hb (by simp), fun _ h _ => h⟩
theorem Later.touch {X O : List Nat} (h : Tch X w w') (hX : ∀ b ∈ X, b ∈ O) : Later O w O w' := ⟨h.size, fun b hb hn => h.blk b hb (fun hm => hn (hX b hm)), fun _ h _ => h⟩

/-- nothing that was there has turned -/
theorem Mem.grow (h : Mem C B S w0 σ η φ w) (t : Tch [] w w') : Mem C B S w0 σ η φ w' :=
  ⟨h.tch.then0 t, fun p hp => (h.own p hp).later (Later.same t _) (fun i hi => ⟨hi, rfl⟩) t (fun _ _ => by simp), h.nodup, h.disj, h.new, h.out, fun g hg => (h.glob g hg).later (Later.same t _)⟩

def upd {α : Type} (f : Nat → α) (i : Nat) (v : α) : Nat → α := fun j => if j = i then v else f j
theorem upd_eq {α : Type} (f : Nat → α) (i : Nat) (v : α) : upd f i v i = v := by simp [upd]
theorem upd_ne {α : Type} (f : Nat → α) (i : Nat) (v : α) {j : Nat} (h : j ≠ i) : upd f i v j = f j := by simp [upd, h]

theorem blocks_congr : ∀ {σ : Sg}, (∀ j ∈ ids σ, φ' j = φ j) → blocks φ' σ = blocks φ σ
  | [], _ => rfl
  | p :: σ, h => by
    have h1 := h p.1 (by simp [ids])
    have h2 := blocks_congr (σ := σ) (fun j hj => h j (by simp only [ids, List.map_cons, List.mem_cons] at hj ⊢; exact .inr hj))
    simp only [blocks, List.flatMap_cons] at h2 ⊢
    rw [h1, h2]
theorem blocks_add {F : List Nat} (hi : i ∉ ids σ) : blocks (upd φ i F) ((i, o) :: σ) = F ++ blocks φ σ := by
  have := blocks_congr (φ := φ) (φ' := upd φ i F) (σ := σ) (fun j hj => upd_ne _ _ _ (fun e => hi (e ▸ hj)))
  simp only [blocks, List.flatMap_cons, upd_eq] at this ⊢
  rw [this]

/-- a new thing -/
theorem Mem.add (h : Mem C B S w0 σ η φ w) (t : Tch [] w w') (hi : i ∉ ids σ) {v : Value} {F : List Nat} (hF : ∀ b ∈ F, w.heap.size ≤ b)
    (ho : o.holds (upd η i v) (i :: ids σ) (B ++ (F ++ blocks φ σ)) w' v F) : Mem C B S w0 ((i, o) :: σ) (upd η i v) (upd φ i F) w' ∧ Later (B ++ blocks φ σ) w (B ++ blocks (upd φ i F) ((i, o) :: σ)) w' := by
  have hb := blocks_add (φ := φ) (o := o) (F := F) hi
  have hl : Later (B ++ blocks φ σ) w (B ++ blocks (upd φ i F) ((i, o) :: σ)) w' := by
    refine ⟨t.size, fun b h _ => t.blk b h (by simp), fun b hn hs hm => ?_⟩
    rw [hb] at hm
    rcases List.mem_append.1 hm with hm | hm
    · exact hn (List.mem_append_left _ hm)
    · rcases List.mem_append.1 hm with hm | hm
      · have := hF b hm; omega
      · exact hn (List.mem_append_right _ hm)
  refine ⟨⟨h.tch.then0 t, ?_, ?_, ?_, ?_, h.out, fun g hg => (h.glob g hg).later hl⟩, hl⟩
  · intro p hp
    rcases List.mem_cons.1 hp with rfl | hp
    · simp only [upd_eq]; rw [hb]; exact ho
    · have hne : p.1 ≠ i := fun e => hi (e ▸ mem_ids hp)
      rw [upd_ne _ _ _ hne, upd_ne _ _ _ hne]
      exact (h.own p hp).later hl (fun _ hj => ⟨List.mem_cons_of_mem _ hj, upd_ne _ _ _ (fun e => hi (e ▸ hj))⟩) t (fun _ _ => by simp)
  · exact List.nodup_cons.2 ⟨hi, h.nodup⟩
  · intro j hj k hk hjk b hb1 hb2
    have hlt : ∀ m ∈ ids σ, ∀ b ∈ φ m, b < w.heap.size := fun m hm b hb => h.lt b (List.mem_append_right _ (mem_blocks hm hb))
    rcases List.mem_cons.1 hj with e0 | hj
    · replace e0 : j = i := e0
      rcases List.mem_cons.1 hk with e3 | hk
      · exact hjk (e0.trans (Eq.symm e3))
      · rw [e0, upd_eq] at hb1; rw [upd_ne _ _ _ (fun e => hjk (e0.trans e.symm))] at hb2
        have := hF b hb1; have := hlt k hk b hb2; omega
    · rcases List.mem_cons.1 hk with e3 | hk
      · replace e3 : k = i := e3
        rw [e3, upd_eq] at hb2; rw [upd_ne _ _ _ (fun e => hjk (e.trans e3.symm))] at hb1
        have := hF b hb2; have := hlt j hj b hb1; omega
      · have e1 : j ≠ i := fun e => hi (e ▸ hj)
        have e2 : k ≠ i := fun e => hi (e ▸ hk)
        rw [upd_ne _ _ _ e1] at hb1; rw [upd_ne _ _ _ e2] at hb2
        exact h.disj j hj k hk hjk b hb1 hb2
  · intro j hj b hb1
    rcases List.mem_cons.1 hj with e0 | hj
    · replace e0 : j = i := e0
      rw [e0, upd_eq] at hb1
      have := hF b hb1; have := h.tch.size; right; omega
    · have e1 : j ≠ i := fun e => hi (e ▸ hj)
      rw [upd_ne _ _ _ e1] at hb1
      exact h.new j hj b hb1

theorem FrRep.add {fr : Fr} {a : Act} (h : FrRep η (ids σ) (B ++ blocks φ σ) w fr a) (hi : i ∉ ids σ) {v : Value} {F : List Nat} (hl : Later (B ++ blocks φ σ) w (B ++ blocks (upd φ i F) ((i, o) :: σ)) w') :
    FrRep (upd η i v) (ids ((i, o) :: σ)) (B ++ blocks (upd φ i F) ((i, o) :: σ)) w' fr a :=
  h.later hl (fun _ hj => ⟨List.mem_cons_of_mem _ hj, upd_ne _ _ _ (fun e => hi (e ▸ hj))⟩)

def sget (i : Nat) : Sg → Option Own
  | [] => none
  | (j, o) :: σ => match Nat.beq j i with
    | true => some o
    | false => sget i σ
/-- the thing i turned; x in the place of its mentions elsewhere -/
def sturn (g : Own → Own) (i : Nat) (o : Own) : Sg → Sg
  | [] => []
  | (j, p) :: σ => match Nat.beq j i with
    | true => (j, o) :: sturn g i o σ
    | false => (j, g p) :: sturn g i o σ
def sdel (g : Own → Own) (i : Nat) : Sg → Sg
  | [] => []
  | (j, p) :: σ => match Nat.beq j i with
    | true => sdel g i σ
    | false => (j, g p) :: sdel g i σ

theorem sget_mem : ∀ {σ : Sg}, sget i σ = some o → (i, o) ∈ σ
  | [], h => by simp [sget] at h
  | (j, p) :: σ, h => by
    rcases beq_cases j i with ⟨hb, e⟩ | ⟨hb, e⟩
    · simp only [sget, hb, Option.some.injEq] at h; subst e; subst h; simp
    · simp only [sget, hb] at h; exact List.mem_cons_of_mem _ (sget_mem h)
theorem ids_sturn (g : Own → Own) (i : Nat) (o : Own) : ∀ σ : Sg, ids (sturn g i o σ) = ids σ
  | [] => rfl
  | (j, p) :: σ => by
    have ih := ids_sturn g i o σ
    simp only [ids] at ih
    rcases beq_cases j i with ⟨hb, e⟩ | ⟨hb, e⟩ <;> simp only [sturn, hb, ids, List.map_cons, ih]
theorem mem_sturn {g : Own → Own} : ∀ {σ : Sg} {p : Nat × Own}, p ∈ sturn g i o σ → p = (i, o) ∨ ∃ q ∈ σ, q.1 ≠ i ∧ p = (q.1, g q.2)
  | [], p, h => by simp [sturn] at h
  | (j, q) :: σ, p, h => by
    rcases beq_cases j i with ⟨hb, e⟩ | ⟨hb, e⟩
    · simp only [sturn, hb] at h
      rcases List.mem_cons.1 h with rfl | h
      · subst e; exact .inl rfl
      · rcases mem_sturn h with h | ⟨q', hq, h1, h2⟩
        · exact .inl h
        · exact .inr ⟨q', List.mem_cons_of_mem _ hq, h1, h2⟩
    · simp only [sturn, hb] at h
      rcases List.mem_cons.1 h with rfl | h
      · exact .inr ⟨(j, q), by simp, e, rfl⟩
      · rcases mem_sturn h with h | ⟨q', hq, h1, h2⟩
        · exact .inl h
        · exact .inr ⟨q', List.mem_cons_of_mem _ hq, h1, h2⟩
theorem mem_sdel {g : Own → Own} : ∀ {σ : Sg} {p : Nat × Own}, p ∈ sdel g i σ → ∃ q ∈ σ, q.1 ≠ i ∧ p = (q.1, g q.2)
  | [], p, h => by simp [sdel] at h
  | (j, q) :: σ, p, h => by
    rcases beq_cases j i with ⟨hb, e⟩ | ⟨hb, e⟩
    · simp only [sdel, hb] at h
      obtain ⟨q', hq, h1, h2⟩ := mem_sdel h
      exact ⟨q', List.mem_cons_of_mem _ hq, h1, h2⟩
    · simp only [sdel, hb] at h
      rcases List.mem_cons.1 h with rfl | h
      · exact ⟨(j, q), by simp, e, rfl⟩
      · obtain ⟨q', hq, h1, h2⟩ := mem_sdel h
        exact ⟨q', List.mem_cons_of_mem _ hq, h1, h2⟩
theorem ids_sdel (g : Own → Own) (i : Nat) : ∀ σ : Sg, ids (sdel g i σ) = (ids σ).filter (· != i)
  | [] => rfl
  | (j, p) :: σ => by
    have ih := ids_sdel g i σ
    simp only [ids] at ih
    rcases beq_cases j i with ⟨hb, e⟩ | ⟨hb, e⟩
    · subst e; simp only [sdel, hb, ids, List.map_cons, ih]; simp
    · simp only [sdel, hb, ids, List.map_cons, ih]; simp [e]

theorem sturn_blocks {g : Own → Own} (F : List Nat) : ∀ b, b ∈ blocks (upd φ i F) (sturn g i o σ) → b ∈ F ∨ ∃ j ∈ ids σ, j ≠ i ∧ b ∈ φ j := by
  intro b hb
  obtain ⟨p, hp, hb⟩ := List.mem_flatMap.1 hb
  rcases mem_sturn hp with rfl | ⟨q, hq, h1, rfl⟩
  · simp only [upd_eq] at hb; exact .inl hb
  · simp only [upd_ne _ _ _ h1] at hb; exact .inr ⟨q.1, mem_ids hq, h1, hb⟩

/-- the thing i turned -/
theorem Mem.turn (h : Mem C B S w0 σ η φ w) {X : List Nat} (t : Tch X w w') (hX : ∀ b ∈ X, b ∈ φ i) (hi : i ∈ ids σ) {v : Value} {F : List Nat} (hF : ∀ b ∈ F, b ∈ φ i ∨ w.heap.size ≤ b) {g : Own → Own}
    (hl : Later (B ++ blocks φ σ) w (B ++ blocks (upd φ i F) (sturn g i o σ)) w')
    (hg : ∀ q ∈ σ, q.1 ≠ i → q.2.holds η (ids σ) (B ++ blocks φ σ) w (η q.1) (φ q.1) → (g q.2).holds (upd η i v) (ids σ) (B ++ blocks (upd φ i F) (sturn g i o σ)) w' (η q.1) (φ q.1))
    (ho : o.holds (upd η i v) (ids σ) (B ++ blocks (upd φ i F) (sturn g i o σ)) w' v F) : Mem C B S w0 (sturn g i o σ) (upd η i v) (upd φ i F) w' := by
  have hX' : ∀ b ∈ X, b ∈ S ∨ w0.heap.size ≤ b := fun b hb => (h.new i hi b (hX b hb)).imp (fun h => h.1) id
  have hlt : ∀ m ∈ ids σ, ∀ b ∈ φ m, b < w.heap.size := fun m hm b hb => h.lt b (List.mem_append_right _ (mem_blocks hm hb))
  refine ⟨h.tch.trans t (fun _ h => h) hX', ?_, by rw [ids_sturn]; exact h.nodup, ?_, ?_, h.out, fun g hg => (h.glob g hg).later hl⟩
  · intro p hp
    rw [ids_sturn]
    rcases mem_sturn hp with rfl | ⟨q, hq, h1, rfl⟩
    · simp only [upd_eq]; exact ho
    · simp only [upd_ne _ _ _ h1]
      exact hg q hq h1 (h.own q hq)
  · rw [ids_sturn]
    intro j hj k hk hjk b hb1 hb2
    by_cases e1 : j = i
    · subst e1
      rw [upd_eq] at hb1; rw [upd_ne _ _ _ (Ne.symm hjk)] at hb2
      rcases hF b hb1 with h1 | h1
      · exact h.disj j hj k hk hjk b h1 hb2
      · have := hlt k hk b hb2; omega
    · rw [upd_ne _ _ _ e1] at hb1
      by_cases e2 : k = i
      · subst e2
        rw [upd_eq] at hb2
        rcases hF b hb2 with h1 | h1
        · exact h.disj j hj k hk hjk b hb1 h1
        · have := hlt j hj b hb1; omega
      · rw [upd_ne _ _ _ e2] at hb2
        exact h.disj j hj k hk hjk b hb1 hb2
  · rw [ids_sturn]
    intro j hj b hb1
    by_cases e1 : j = i
    · subst e1
      rw [upd_eq] at hb1
      rcases hF b hb1 with h1 | h1
      · exact h.new j hj b h1
      · have := h.tch.size; right; omega
    · rw [upd_ne _ _ _ e1] at hb1
      exact h.new j hj b hb1

theorem Later.turn (B : List Nat) {X : List Nat} (t : Tch X w w') (hX : ∀ b ∈ X, b ∈ φ i) (hi : i ∈ ids σ) {F : List Nat} (hF : ∀ b ∈ F, b ∈ φ i ∨ w.heap.size ≤ b) (g : Own → Own) (o : Own) :
    Later (B ++ blocks φ σ) w (B ++ blocks (upd φ i F) (sturn g i o σ)) w' := by
  refine ⟨t.size, fun b hb hn => t.blk b hb (fun hm => hn (List.mem_append_right _ (mem_blocks hi (hX b hm)))), fun b hn hs hm => ?_⟩
  rcases List.mem_append.1 hm with hm | hm
  · exact hn (List.mem_append_left _ hm)
  · rcases sturn_blocks F b hm with hm | ⟨j, hj, _, hm⟩
    · rcases hF b hm with hm | hm
      · exact hn (List.mem_append_right _ (mem_blocks hi hm))
      · omega
    · exact hn (List.mem_append_right _ (mem_blocks hj hm))

/-- turned in its place: the same value -/
theorem Mem.turnSame (h : Mem C B S w0 σ η φ w) {X : List Nat} (t : Tch X w w') (hX : ∀ b ∈ X, b ∈ φ i) (hi : i ∈ ids σ) {F : List Nat} (hF : ∀ b ∈ F, b ∈ φ i ∨ w.heap.size ≤ b)
    (ho : o.holds η (ids σ) (B ++ blocks (upd φ i F) (sturn id i o σ)) w' (η i) F) : Mem C B S w0 (sturn id i o σ) η (upd φ i F) w' := by
  have he : upd η i (η i) = η := by funext j; by_cases e : j = i <;> simp [upd, e]
  have hl := Later.turn B t hX hi hF id o
  have := h.turn (v := η i) (g := id) t hX hi hF hl (fun q hq hne hh => by
    rw [he]
    exact hh.later hl (fun j hj => ⟨hj, rfl⟩) t (fun b hb hm => h.disj q.1 (mem_ids hq) i hi hne b hb (hX b hm))) (by rw [he]; exact ho)
  rw [he] at this
  exact this
/-- turned, and its value another one: old mentions are struck -/
theorem Mem.turnKill (h : Mem C B S w0 σ η φ w) {X : List Nat} (t : Tch X w w') (hX : ∀ b ∈ X, b ∈ φ i) (hi : i ∈ ids σ) {v : Value} {F : List Nat} (hF : ∀ b ∈ F, b ∈ φ i ∨ w.heap.size ≤ b)
    (ho : o.holds (upd η i v) (ids σ) (B ++ blocks (upd φ i F) (sturn (killO i .undef) i o σ)) w' v F) : Mem C B S w0 (sturn (killO i .undef) i o σ) (upd η i v) (upd φ i F) w' := by
  have hl := Later.turn B t hX hi hF (killO i .undef) o
  exact h.turn t hX hi hF hl (fun q hq hne hh => hh.kill rfl hl (fun j hj hne => ⟨hj, upd_ne _ _ _ hne⟩) ⟨_, rfl⟩ t (fun b hb hm => h.disj q.1 (mem_ids hq) i hi hne b hb (hX b hm))) ho

/-- the thing i given up: what is known of it stands in the place of its mentions -/
theorem Mem.del (h : Mem C B S w0 σ η φ w) {x : Da} (hx : x.one = true) (hr : RepC (B ++ blocks φ (sdel (killO i x) i σ)) w x [η i]) :
    Mem C B S w0 (sdel (killO i x) i σ) η φ w ∧ Later (B ++ blocks φ σ) w (B ++ blocks φ (sdel (killO i x) i σ)) w := by
  have hl : Later (B ++ blocks φ σ) w (B ++ blocks φ (sdel (killO i x) i σ)) w := by
    refine ⟨Nat.le_refl _, fun _ _ _ => rfl, fun b hn hs hm => ?_⟩
    rcases List.mem_append.1 hm with hm | hm
    · exact hn (List.mem_append_left _ hm)
    · obtain ⟨p, hp, hb⟩ := List.mem_flatMap.1 hm
      obtain ⟨q, hq, _, rfl⟩ := mem_sdel hp
      exact hn (List.mem_append_right _ (mem_blocks (mem_ids hq) hb))
  have hI : ∀ j ∈ ids σ, j ≠ i → j ∈ ids (sdel (killO i x) i σ) ∧ η j = η j := fun j hj hne => ⟨by rw [ids_sdel]; exact List.mem_filter.2 ⟨hj, by simpa using hne⟩, rfl⟩
  have hsub : ∀ j ∈ ids (sdel (killO i x) i σ), j ∈ ids σ := fun j hj => by rw [ids_sdel] at hj; exact (List.mem_filter.1 hj).1
  refine ⟨⟨h.tch, ?_, ?_, ?_, ?_, h.out, fun g hg => (h.glob g hg).later hl⟩, hl⟩
  · intro p hp
    obtain ⟨q, hq, hne, rfl⟩ := mem_sdel hp
    exact (h.own q hq).kill hx hl hI hr (Tch.refl [] w) (fun _ _ => by simp)
  · rw [ids_sdel]; exact h.nodup.filter _
  · exact fun j hj k hk => h.disj j (hsub j hj) k (hsub k hk)
  · exact fun j hj => h.new j (hsub j hj)

end Go.Sx

namespace Go.Sx
open Go Go.RowKit Go.Reg

/-- a type as the walk knows it -/
structure TyI where
  agg : Bool
  size : Nat
  bytes : Nat
  flds : List (Nat × TypeId)
  zero : Da
  elem : TypeId
  ik : Option IntKind
  kd : Nat
  cmp : Bool

abbrev Tab := List (TypeId × TyI)
def tyAt (t : TypeId) : Tab → Option TyI
  | [] => none
  | (u, e) :: l => match Nat.beq u t with
    | true => some e
    | false => tyAt t l

mutual
def Da.size : Da → Nat
  | .agg ds => sizes ds
  | _ => 1
def sizes : List Da → Nat
  | [] => 0
  | d :: ds => d.size + sizes ds
end
def Da.isAgg : Da → Bool
  | .agg _ => true
  | _ => false
mutual
def Dat.size : Dat → Nat
  | .d x => x.size
  | .agg ds => sizesD ds
  | _ => 1
def sizesD : List Dat → Nat
  | [] => 0
  | d :: ds => d.size + sizesD ds
end
def Dat.isAgg : Dat → Bool
  | .d x => x.isAgg
  | .agg _ => true
  | _ => false
def Dat.fits (d : Dat) (e : TyI) : Bool := (d.isAgg == e.agg) && Nat.beq d.size e.size
def Da.fits (d : Da) (e : TyI) : Bool := (d.isAgg == e.agg) && Nat.beq d.size e.size

mutual
/-- may it stand in cells? -/
def Da.stor : Da → Bool
  | .undef | .tuple _ | .raw _ => false
  | .agg ds => stors ds
  | _ => true
def stors : List Da → Bool
  | [] => true
  | d :: ds => d.stor && stors ds
end
mutual
def Dat.stor : Dat → Bool
  | .d x => x.stor
  | .tuple _ => false
  | .agg ds => storsD ds
  | _ => true
def storsD : List Dat → Bool
  | [] => true
  | d :: ds => d.stor && storsD ds
end

def datas : List Da → List Dat
  | [] => []
  | x :: xs => .d x :: datas xs
def Dat.parts : Dat → Option (List Dat)
  | .d (.agg xs) => some (datas xs)
  | .agg ds => some ds
  | _ => none
def Dat.cellsOf (d : Dat) : List Dat := match d with
  | .d (.agg xs) => datas xs
  | .agg ds => ds
  | d => [d]

/-- the part of cells at a place -/
def lookAt (e : TyI) : Nat → List Dat → Nat → Option Dat
  | 0, _, _ => none
  | _ + 1, [], _ => none
  | f + 1, d :: ds, o => match Nat.blt o d.size with
    | false => lookAt e f ds (o - d.size)
    | true => match Nat.beq o 0 && d.fits e with
      | true => some d
      | false => match d.parts with
        | some es => lookAt e f es o
        | none => none
def consO (d : Dat) : Option (List Dat) → Option (List Dat)
  | some l => some (d :: l)
  | none => none
def aggO (ds : List Dat) : Option (List Dat) → Option (List Dat)
  | some l => some (.agg l :: ds)
  | none => none
/-- cells with a part put at a place -/
def putAt (x : Dat) : Nat → List Dat → Nat → Option (List Dat)
  | 0, _, _ => none
  | _ + 1, [], _ => none
  | f + 1, d :: ds, o => match Nat.blt o d.size with
    | false => consO d (putAt x f ds (o - d.size))
    | true => match Nat.beq o 0 && (d.isAgg == x.isAgg) && Nat.beq d.size x.size with
      | true => some (x :: ds)
      | false => match d.parts with
        | some es => aggO ds (putAt x f es o)
        | none => none

def allD : List Dat → Option (List Da)
  | [] => some []
  | .d x :: ds => match allD ds with
    | some xs => some (x :: xs)
    | none => none
  | _ :: _ => none
def mkAgg (ds : List Dat) : Dat := match allD ds with
  | some xs => .d (.agg xs)
  | none => .agg ds
def mkTup (ds : List Dat) : Dat := match allD ds with
  | some xs => .d (.tuple xs)
  | none => .tuple ds
def mkIface (t : TypeId) : Dat → Dat
  | .d x => .d (.iface t x)
  | d => .iface t d
def mkFunc (fn : Fn) (f c : List Dat) : Dat := match allD f, allD c with
  | some fs, some cs => .d (.func fn fs cs)
  | _, _ => .func fn f c

def ofVal1 : Value → Da
  | .int k n => .int k n
  | .bool b => .bool b
  | .string s => .str s
  | .pointer none => .nilp
  | .slice none 0 0 => .nils
  | .map none => .nilm
  | .nilFunc => .nilf
  | .nilIface => .nili
  | v => .raw v
def ofVal : Value → Da
  | .agg cs => .agg (cs.toList.map ofVal1)
  | v => ofVal1 v

def glob (g : Nat) : List (Nat × Da) → Da
  | [] => .raw (.pointer (some ⟨g, 0, none⟩))
  | (h, x) :: l => match Nat.beq h g with
    | true => .ref x
    | false => glob g l

def ev (Γ : List (Nat × Da)) (fr : Fr) : Operand → Dat
  | .tmp t => get fr t
  | .const v => .d (ofVal v)
  | .global g => .d (glob g Γ)
  | .func f => .d (.func (.func f) [] [])
def evs (Γ : List (Nat × Da)) (fr : Fr) : List Operand → List Dat
  | [] => []
  | x :: xs => ev Γ fr x :: evs Γ fr xs

abbrev KD := Dat → Fr → Sg → Prop

def force (d : Dat) (K : Dat → Prop) : Prop := match d with
  | .d x => K (.d x)
  | .own i => K (.own i)
  | .at_ i o => K (.at_ i o)
  | .el i k n o => K (.el i k n o)
  | .agg ds => K (.agg ds)
  | .tuple ds => K (.tuple ds)
  | .iface t d => K (.iface t d)
  | .func f a b => K (.func f a b)
theorem force_eq (d : Dat) (K : Dat → Prop) : force d K = K d := by cases d <;> rfl

/-- a whole number that was reckoned: n is what it is behind the wrap -/
def SxI (k : IntKind) (e : Int) (K : Int → Prop) : Prop := ∃ n, k.wrap e = n ∧ K n

/-- how many cells stand ahead of a field -/
def dprefix : Nat → List Da → Nat
  | 0, _ => 0
  | _ + 1, [] => 0
  | n + 1, d :: ds => d.size + dprefix n ds
def prefixD : Nat → List Dat → Nat
  | 0, _ => 0
  | _ + 1, [] => 0
  | n + 1, d :: ds => d.size + prefixD n ds

def withTy (T : Tab) (t : TypeId) (no : Prop) (K : TyI → Prop) : Prop := match tyAt t T with
  | some e => K e
  | none => no
def withO {α : Type} (o : Option α) (no : Prop) (K : α → Prop) : Prop := match o with
  | some x => K x
  | none => no
def withB (b : Bool) (no K : Prop) : Prop := match b with
  | true => K
  | false => no

/-- is it nil? as a value of a type of the kind kd: 1 pointer · 2 slice · 3 map · 4 func · 5 interface -/
def nilOf (kd : Nat) (x : Dat) (σ : Sg) : Option Bool := match kd with
  | 1 => (match x with
    | .d .nilp => some true
    | .d (.ref _) | .at_ _ _ | .el _ _ _ _ => some false
    | .own i => (match sget i σ with | some (.cells _ _) => some false | _ => none)
    | _ => none)
  | 2 => (match x with
    | .d .nils => some true
    | .d (.list _ (_ :: _)) => some false
    | .own i => (match sget i σ with | some (.slice _ _ (_ :: _)) => some false | _ => none)
    | _ => none)
  | 3 => (match x with
    | .d .nilm => some true
    | _ => none)
  | 4 => (match x with
    | .d .nilf => some true
    | .d (.func _ _ _) | .func _ _ _ => some false
    | _ => none)
  | 5 => (match x with
    | .d .nili => some true
    | .d (.iface _ _) | .iface _ _ => some false
    | _ => none)
  | _ => none
def isNilLit (kd : Nat) (x : Dat) : Bool := match kd, x with
  | 1, .d .nilp => true
  | 2, .d .nils => true
  | 3, .d .nilm => true
  | 4, .d .nilf => true
  | 5, .d .nili => true
  | _, _ => false

def pr (p : Prop) [i : Decidable p] : Dat := .d (.prop p i)

def sxInt (op : BinOp) (k : IntKind) (a b : Int) (K : Dat → Prop) (no : Prop) : Prop := match op with
  | .add => SxI k (a + b) fun n => K (.d (.int k n))
  | .sub => SxI k (a - b) fun n => K (.d (.int k n))
  | .mul => SxI k (a * b) fun n => K (.d (.int k n))
  | .quo => b ≠ 0 ∧ SxI k (a.tdiv b) fun n => K (.d (.int k n))
  | .rem => b ≠ 0 ∧ K (.d (.int k (a.tmod b)))
  | .eql => K (pr (a = b))
  | .neq => K (pr (¬ a = b))
  | .lss => K (pr (a < b))
  | .leq => K (pr (a ≤ b))
  | .gtr => K (pr (b < a))
  | .geq => K (pr (b ≤ a))
  | _ => no
def sxBool2 (op : BinOp) (p q : Prop) [Decidable p] [Decidable q] (K : Dat → Prop) (no : Prop) : Prop := match op with
  | .eql => K (pr (p ↔ q))
  | .neq => K (pr (¬ (p ↔ q)))
  | _ => no
def sxStr (op : BinOp) (a b : ByteArray) (K : Dat → Prop) (no : Prop) : Prop := match op with
  | .eql => K (pr (a = b))
  | .neq => K (pr (¬ a = b))
  | .add => a.size + b.size ≤ 9223372036854775807 ∧ K (.d (.str (a ++ b)))
  | _ => no
def sxNil (kd : Nat) (op : BinOp) (x y : Dat) (σ : Sg) (K : Dat → Prop) (no : Prop) : Prop :=
  match isNilLit kd y, nilOf kd x σ, op with
  | true, some b, .eql => K (.d (.bool b))
  | true, some b, .neq => K (.d (.bool (!b)))
  | _, _, _ => no
def isNilC : Operand → Bool
  | .const .nilIface => true
  | _ => false
def sxBin (T : Tab) (t : TypeId) (op : BinOp) (yc : Bool) (x y : Dat) (σ : Sg) (K : Dat → Prop) (no : Prop) : Prop :=
  match x, y with
  | .d (.int k a), .d (.int k' b) => withB (decide (k = k')) no (sxInt op k a b K no)
  | .d (.str a), .d (.str b) => sxStr op a b K no
  | .d (.bool a), .d (.bool b) => withTy T t no fun e => withB (Nat.beq e.kd 9) no (sxBool2 op (a = true) (b = true) K no)
  | .d (.bool a), .d (.prop q _) => withTy T t no fun e => withB (Nat.beq e.kd 9) no (sxBool2 op (a = true) q K no)
  | .d (.prop p _), .d (.bool b) => withTy T t no fun e => withB (Nat.beq e.kd 9) no (sxBool2 op p (b = true) K no)
  | .d (.prop p _), .d (.prop q _) => withTy T t no fun e => withB (Nat.beq e.kd 9) no (sxBool2 op p q K no)
  | x, y => withTy T t no fun e => withB (yc || !(Nat.beq e.kd 5)) no (sxNil e.kd op x y σ K no)

def sxUn (op : UnOp) (x : Dat) (K : Dat → Prop) (no : Prop) : Prop := match op, x with
  | .not, .d (.bool b) => K (.d (.bool (!b)))
  | .not, .d (.prop p _) => K (pr (¬ p))
  | .neg, .d (.int k n) => SxI k (-n) fun m => K (.d (.int k m))
  | _, _ => no

/-- a test: two ways -/
def sxIf (d : Dat) (yes no : Dat → Prop) (bad : Prop) : Prop := match d with
  | .d (.bool true) => yes (.d (.bool true))
  | .d (.bool false) => no (.d (.bool false))
  | .d (.prop p _) => (p → yes (.d (.bool true))) ∧ (¬ p → no (.d (.bool false)))
  | _ => bad

def fresh (i : Nat) (σ : Sg) (K : Nat → Prop) (no : Prop) : Prop := match sget i σ with
  | none => K i
  | some _ => match sget (i + 1000) σ with
    | none => K (i + 1000)
    | some _ => match sget (i + 2000) σ with
      | none => K (i + 2000)
      | some _ => no

def fieldOf (n : Nat) : List Dat → Option Dat
  | [] => none
  | d :: ds => match n with
    | 0 => some d
    | m + 1 => fieldOf m ds
def setField (n : Nat) (x : Dat) : List Dat → List Dat
  | [] => []
  | d :: ds => match n with
    | 0 => x :: ds
    | m + 1 => d :: setField m x ds
def dfieldOf (n : Nat) : List Da → Option Da
  | [] => none
  | d :: ds => match n with
    | 0 => some d
    | m + 1 => dfieldOf m ds

def sxLoad (T : Tab) (t : TypeId) (x : Dat) (σ : Sg) (K : Dat → Prop) (no : Prop) : Prop := withTy T t no fun e => match x with
  | .d (.ref y) => withB (y.fits e) no (K (.d y))
  | .own i => withO (sget i σ) no fun o => (match o with
    | .cells t0 ds => (match Nat.beq t t0 && e.agg with
      | true => withB (Nat.beq (sizesD ds) e.size) no (force (mkAgg ds) K)
      | false => withO (lookAt e 200 ds 0) no fun d => force d K)
    | _ => no)
  | .at_ i off => withO (sget i σ) no fun o => (match o with
    | .cells _ ds => withO (lookAt e 200 ds off) no fun d => force d K
    | _ => no)
  | .el i k0 n off => withO (sget i σ) no fun o => (match o with
    | .slice _ k ds => withB (Nat.beq k0 k) no (∃ d, ds[n]? = some d ∧ withO (lookAt e 200 [.d d] off) no fun d => force d K)
    | _ => no)
  | _ => no

def sxStore (T : Tab) (t : TypeId) (x v : Dat) (σ : Sg) (K : Sg → Prop) (no : Prop) : Prop := withTy T t no fun e => withB (v.fits e && v.stor) no (match x with
  | .own i => withO (sget i σ) no fun o => (match o with
    | .cells t0 ds => (match Nat.beq t t0 && e.agg with
      | true => withB (Nat.beq (sizesD ds) e.size) no (K (sturn id i (.cells t0 v.cellsOf) σ))
      | false => withO (putAt v 200 ds 0) no fun ds' => K (sturn id i (.cells t0 ds') σ))
    | _ => no)
  | .at_ i off => withO (sget i σ) no fun o => (match o with
    | .cells T ds => withO (putAt v 200 ds off) no fun ds' => K (sturn id i (.cells T ds') σ)
    | _ => no)
  | .el i k0 n off => withO (sget i σ) no fun o => (match o with
    | .slice E k ds => withB (Nat.beq k0 k) no (∃ d, ds[n]? = some d ∧ withO (putAt v 200 [.d d] off) no fun ds' => withO (allD ds') no fun xs => (match xs with
      | [y] => K (sturn id i (.slice E k (ds.set n y)) σ)
      | _ => no))
    | _ => no)
  | _ => no)

def sxFieldAddr (T : Tab) (t : TypeId) (x : Dat) (n : Nat) (σ : Sg) (K : Dat → Prop) (no : Prop) : Prop := withTy T t no fun e => withO e.flds[n]? no fun os => withB e.agg no <| match x with
  | .d (.ref (.agg ds)) => withB (Nat.beq (dprefix n ds) os.1) no (withO (dfieldOf n ds) no fun d => K (.d (.ref d)))
  | .own i => withO (sget i σ) no fun o => (match o with | .cells _ _ => K (.at_ i os.1) | _ => no)
  | .at_ i off => K (.at_ i (off + os.1))
  | .el i k m off => K (.el i k m (off + os.1))
  | _ => no

/-- a place in a list, told by a whole number -/
def sxAt (n : Int) (len : Nat) (K : Nat → Prop) : Prop := ∃ j : Nat, n = j ∧ j < len ∧ K j

def sxIndexAddr (T : Tab) (t : TypeId) (x ix : Dat) (σ : Sg) (K : Dat → Prop) (no : Prop) : Prop := withTy T t no fun e => withTy T e.elem no fun ee => withB (Nat.beq e.kd 2) no <| match ix with
  | .d (.int _ n) => (match x with
    | .d (.list k ds) => withB (Nat.beq k ee.size) no (∃ (j : Nat) (d : Da), n = j ∧ ds[j]? = some d ∧ K (.d (.ref d)))
    | .own i => withO (sget i σ) no fun o => (match o with
      | .slice _ k ds => withB (Nat.beq k ee.size) no (sxAt n ds.length fun j => K (.el i k j 0))
      | _ => no)
    | _ => no)
  | _ => no

def sxLen (T : Tab) (t : TypeId) (x : Dat) (σ : Sg) (K : Dat → Prop) (no : Prop) : Prop := withTy T t no fun e => withB (Nat.beq e.kd 2 || Nat.beq e.kd 7) no <| match x with
  | .d (.list _ ds) => withB (Nat.beq e.kd 2) no (K (.d (.int .i64 ds.length)))
  | .d .nils => withB (Nat.beq e.kd 2) no (K (.d (.int .i64 0)))
  | .d (.str s) => withB (Nat.beq e.kd 7) no (K (.d (.int .i64 s.size)))
  | .own i => withO (sget i σ) no fun o => (match o with
    | .slice _ _ ds => withB (Nat.beq e.kd 2) no (K (.d (.int .i64 ds.length)))
    | _ => no)
  | _ => no

/-- a slice's elements -/
def elems (x : Dat) (k : Nat) (σ : Sg) : Option (List Da) := match x with
  | .d (.list k' ds) => (match Nat.beq k' k with | true => some ds | false => none)
  | .d .nils => some []
  | .own i => (match sget i σ with
    | some (.slice _ k' ds) => (match Nat.beq k' k with | true => some ds | false => none)
    | _ => none)
  | _ => none
def notOwn (i : Nat) : Dat → Bool
  | .own j => !(Nat.beq i j)
  | _ => true

def mostLen : Nat := 4294967296
/-- how many elements of so many bytes a slice may have -/
def mostOf (b : Nat) : Nat := 140737488355328 / b

/-- the spine laid out -/
def forceDs : List Dat → (List Dat → Prop) → Prop
  | [], K => K []
  | d :: ds, K => force d fun d => forceDs ds fun ds => K (d :: ds)
def forceO (o : Own) (K : Own → Prop) : Prop := match o with
  | .cells T ds => forceDs ds fun ds => K (.cells T ds)
  | .slice E k ds => K (.slice E k ds)
  | .abs R a b c => K (.abs R a b c)
  | .ghost vs ds => forceDs ds fun ds => K (.ghost vs ds)
def forceS : Sg → (Sg → Prop) → Prop
  | [], K => K []
  | (i, o) :: σ, K => forceO o fun o => forceS σ fun σ => K ((i, o) :: σ)
def forceF : Fr → (Fr → Prop) → Prop
  | [], K => K []
  | (t, d) :: fr, K => force d fun d => forceF fr fun fr => K ((t, d) :: fr)
theorem forceDs_eq : ∀ (ds : List Dat) (K : List Dat → Prop), forceDs ds K = K ds
  | [], K => rfl
  | d :: ds, K => by simp only [forceDs, force_eq, forceDs_eq ds]
theorem forceO_eq (o : Own) (K : Own → Prop) : forceO o K = K o := by cases o <;> simp [forceO, forceDs_eq]
theorem forceS_eq : ∀ (σ : Sg) (K : Sg → Prop), forceS σ K = K σ
  | [], K => rfl
  | (i, o) :: σ, K => by simp only [forceS, forceO_eq, forceS_eq σ]
theorem forceF_eq : ∀ (fr : Fr) (K : Fr → Prop), forceF fr K = K fr
  | [], K => rfl
  | (t, d) :: fr, K => by simp only [forceF, force_eq, forceF_eq fr]
/-- a new thing, in the order of the numbers -/
def sins (i : Nat) (o : Own) : Sg → Sg
  | [] => [(i, o)]
  | (j, p) :: σ => match Nat.blt i j with
    | true => (i, o) :: (j, p) :: σ
    | false => (j, p) :: sins i o σ

def sxAppend (T : Tab) (t : TypeId) (x y : Dat) (dst : Option Nat) (fr : Fr) (σ : Sg) (K : KD) (no : Prop) : Prop := withTy T t no fun e => withTy T e.elem no fun ee => withB (decide (0 < ee.size) && decide (ee.bytes ≤ 1000) && Nat.beq e.kd 2) no <| match x with
  | .own i => withO (sget i σ) no fun o => (match o with
    | .slice E k ds => withB (Nat.beq k ee.size && Nat.beq E e.elem && notOwn i y) no <| withO (elems y k σ) no fun es =>
        ds.length + es.length ≤ mostOf ee.bytes ∧ forceF (killF i .undef fr) fun fr => forceS (sturn (killO i .undef) i (.slice E k (ds ++ es)) σ) fun σ => K (.own i) fr σ
    | _ => no)
  | .d .nils => withO (elems y ee.size σ) no fun es => es.length ≤ mostOf ee.bytes ∧ withO dst no fun t => fresh t σ (fun i => forceS (sins i (.slice e.elem ee.size es) σ) fun σ => K (.own i) fr σ) no
  | _ => no

def setParts : List (Nat × Operand) → (Operand → Dat) → List Dat → List Dat
  | [], _, ds => ds
  | (i, x) :: ps, f, ds => setParts ps f (setField i (f x) ds)
def partsFit (T : Tab) (e : TyI) : List (Nat × Operand) → (Operand → Dat) → List Dat → Bool
  | [], _, _ => true
  | (i, x) :: ps, f, ds => (match fieldOf i ds, e.flds[i]? with
    | some d, some (off, ft) => (match tyAt ft T with
      | some fe => (d.isAgg == (f x).isAgg) && Nat.beq d.size (f x).size && Nat.beq fe.size (f x).size && Nat.beq (prefixD i ds) off && (f x).stor && partsFit T e ps f ds
      | none => false)
    | _, _ => false)

/-- a statement that can be decided -/
structure PD where
  p : Prop
  d : Decidable p
def PD.of (p : Prop) [i : Decidable p] : PD := ⟨p, i⟩
def PD.and (x y : PD) : PD := ⟨x.p ∧ y.p, @instDecidableAnd _ _ x.d y.d⟩
def eqOne (kd : Nat) (a b : Dat) : Option PD := match kd, a, b with
  | 8, .d (.int k x), .d (.int k' y) => (match decide (k = k') with | true => some (PD.of (x = y)) | false => none)
  | 7, .d (.str x), .d (.str y) => some (PD.of (x = y))
  | 9, .d (.bool x), .d (.bool y) => some (PD.of (x = y))
  | _, _, _ => none
/-- '==' of structs of numbers and texts, field by field -/
def eqFlds (T : Tab) (dx dy : List Dat) : List (Nat × TypeId) → Nat → Option PD
  | [], _ => some (PD.of True)
  | (off, ft) :: l, i => match tyAt ft T, fieldOf i dx, fieldOf i dy with
    | some fe, some a, some b => (match eqOne fe.kd a b, Nat.beq (prefixD i dx) off && Nat.beq (prefixD i dy) off with
      | some p, true => (match l with
        | [] => some p
        | _ :: _ => match eqFlds T dx dy l (i + 1) with
          | some q => some (p.and q)
          | none => none)
      | _, _ => none)
    | _, _, _ => none
def sxEq (op : BinOp) (p : PD) (K : Dat → Prop) (no : Prop) : Prop := match op with
  | .eql => K (.d (.prop p.p p.d))
  | .neq => K (.d (.prop (¬ p.p) (@instDecidableNot _ p.d)))
  | _ => no

/-- a field of a struct -/
def sxField (T : Tab) (t : TypeId) (x : Dat) (n : Nat) (K : Dat → Prop) (no : Prop) : Prop := withTy T t no fun e => withO e.flds[n]? no fun os => withTy T os.2 no fun fe => withO x.parts no fun ds => withO (fieldOf n ds) no fun d => withB (d.fits fe && Nat.beq (prefixD n ds) os.1 && e.agg) no (force d K)

end Go.Sx

namespace Go.Sx
open Go Go.RowKit Go.Reg

def Good (C : Cx) (B S : List Nat) (w0 : World) (n : Nat) (K : Fr → Sg → Prop) (a : Act) (w : World) : Prop :=
  ∃ fr σ η φ, Models C B S w0 n fr σ η φ a w ∧ K fr σ

/-- what an operation owes, told in the model's own words -/
def OpSem (C : Cx) (n kd : Nat) (o : Oper) (K : Fr → Sg → Prop) (fr : Fr) (σ : Sg) : Prop :=
  ∀ (B S : List Nat) (w0 : World) (η : Nat → Value) (φ : Nat → List Nat) (a : Act) (w : World), Models C B S w0 n fr σ η φ a w → match kd with
    | 0 => dynPure a o = true ∧ o.wp C.P a w (Good C B S w0 n K) No
    | 5 => ∃ v, (∀ w2, Ext w w2 → (execOp a.eval o).run C.P w2 = .ok (.value v) w2) ∧ Good C B S w0 n K (a.put o.dst v) w
    | 2 => o.wp C.P a w (fun a' w' => Ext w w' ∧ Good C B S w0 n K a' w') No
    | _ => o.wp C.P a w (Good C B S w0 n K) No

/-- what a call of a function owes -/
def SxCall (C : Cx) (quiet : Bool) (f : FuncId) (args : List Dat) (K : KD) (fr : Fr) (σ : Sg) : Prop :=
  ∀ (B S : List Nat) (w0 : World) (η : Nat → Value) (φ : Nat → List Nat) (n : Nat) (a : Act) (w : World) (vs : List Value), Models C B S w0 n fr σ η φ a w →
    (∃ css, RepDss η (ids σ) (B ++ blocks φ σ) w args css ∧ vs = List.zipWith toVD args css) →
    (callFunc f vs.toArray).run C.P w = .ok (.enter f vs.toArray) w ∧ Calls C.P f vs.toArray w fun e w' => ∃ v d fr' σ' η' φ', e = .returned v ∧ K d fr' σ' ∧ Models C B S w0 n fr' σ' η' φ' a w' ∧ (∃ cs, RepD η' (ids σ') (B ++ blocks φ' σ') w' d cs ∧ v = toVD d cs) ∧ (quiet = true → Ext w w')

/-- what code owes, in the model's own words -/
def CodeSem (C : Cx) (n : Nat) (c : Code) (K : Exit → Fr → Sg → Prop) (fr : Fr) (σ : Sg) : Prop :=
  ∀ (B S : List Nat) (w0 : World) (η : Nat → Value) (φ : Nat → List Nat) (a : Act) (w : World), Models C B S w0 n fr σ η φ a w →
    c.wp C.P (fun e a' w' => match e with
      | .panic _ => False
      | .outgrown => False
      | e => Good C B S w0 n (K e) a' w') a w
attribute [irreducible] OpSem SxCall CodeSem

def putF (t : Option Nat) (d : Dat) (fr : Fr) : Fr := match t with
  | some t => (t, d) :: fr
  | none => fr
def dstOk (t : Option Nat) (n : Nat) : Bool := match t with
  | some t => Nat.blt t n
  | none => true

def sxSlice (T : Tab) (t : TypeId) (x : Dat) (lo hi mx : Option Dat) (K : Dat → Prop) (no : Prop) : Prop := withTy T t no fun e => withTy T e.elem no fun ee => withB (Nat.beq e.kd 2) no <| match x, mx with
  | .d (.list k ds), none => withB (Nat.beq k ee.size) no (match lo, hi with
    | none, none => K (.d (.list k ds))
    | some (.d (.int _ l)), none => ∃ j : Nat, l = j ∧ j ≤ ds.length ∧ K (.d (.list k (ds.drop j)))
    | none, some (.d (.int _ h)) => ∃ m : Nat, h = m ∧ m ≤ ds.length ∧ K (.d (.list k (ds.take m)))
    | some (.d (.int _ l)), some (.d (.int _ h)) => ∃ j m : Nat, l = j ∧ h = m ∧ j ≤ m ∧ m ≤ ds.length ∧ K (.d (.list k ((ds.take m).drop j)))
    | _, _ => no)
  | .d .nils, none => (match lo, hi with
    | none, none => K (.d .nils)
    | some (.d (.int _ l)), none => l = 0 ∧ K (.d .nils)
    | none, some (.d (.int _ h)) => h = 0 ∧ K (.d .nils)
    | some (.d (.int _ l)), some (.d (.int _ h)) => l = 0 ∧ h = 0 ∧ K (.d .nils)
    | _, _ => no)
  | _, _ => no

/-- one operation -/
def sxOper (C : Cx) (T : Tab) (n kd : Nat) (o : Oper) (K : Fr → Sg → Prop) (fr : Fr) (σ : Sg) : Prop :=
  withB (dstOk o.dst n) (OpSem C n kd o K fr σ) <| match o.op with
  | .move x => force (ev C.Γ fr x) fun d => K (putF o.dst d fr) σ
  | .assign x => force (ev C.Γ fr x) fun d => K (putF o.dst d fr) σ
  | .pick c x y => sxIf (ev C.Γ fr c) (fun _ => force (ev C.Γ fr x) fun d => K (putF o.dst d fr) σ) (fun _ => force (ev C.Γ fr y) fun d => K (putF o.dst d fr) σ) (OpSem C n kd o K fr σ)
  | .alloc t => withTy T t (OpSem C n kd o K fr σ) fun e => withO o.dst (OpSem C n kd o K fr σ) fun d => fresh d σ (fun i => forceS (sins i (.cells t (Dat.cellsOf (.d e.zero))) σ) fun σ => K (putF o.dst (.own i) fr) σ) (OpSem C n kd o K fr σ)
  | .box t x => withB (ev C.Γ fr x).stor (OpSem C n kd o K fr σ) <| withO o.dst (OpSem C n kd o K fr σ) fun d => fresh d σ (fun i => force (ev C.Γ fr x) fun y => forceS (sins i (.cells t y.cellsOf) σ) fun σ => K (putF o.dst (.own i) fr) σ) (OpSem C n kd o K fr σ)
  | .build t ps => withTy T t (OpSem C n kd o K fr σ) fun e => withB (e.agg && partsFit T e ps.toList (ev C.Γ fr) (Dat.cellsOf (.d e.zero))) (OpSem C n kd o K fr σ) <| force (mkAgg (setParts ps.toList (ev C.Γ fr) (Dat.cellsOf (.d e.zero)))) fun d => K (putF o.dst d fr) σ
  | .buildSlice t m ps => withTy T t (OpSem C n kd o K fr σ) fun e => withTy T e.elem (OpSem C n kd o K fr σ) fun ee => withB (Nat.beq e.kd 2 && Nat.beq m ps.size && decide (m ≤ 1000) && decide (ee.size ≤ 1000) && ((ps.toList.map (·.1)) == List.range m) && ps.toList.all (fun p => (ev C.Γ fr p.2).fits ee && (ev C.Γ fr p.2).stor)) (OpSem C n kd o K fr σ) <|
      withO (allD (ps.toList.map fun p => ev C.Γ fr p.2)) (OpSem C n kd o K fr σ) fun xs => withO o.dst (OpSem C n kd o K fr σ) fun d => fresh d σ (fun i => forceS (sins i (.slice e.elem ee.size xs) σ) fun σ => K (putF o.dst (.own i) fr) σ) (OpSem C n kd o K fr σ)
  | .makeSlice t l c => withTy T t (OpSem C n kd o K fr σ) fun e => withTy T e.elem (OpSem C n kd o K fr σ) fun ee => withB (Nat.beq e.kd 2 && ee.zero.stor && decide (ee.bytes ≤ 1000)) (OpSem C n kd o K fr σ) (match ev C.Γ fr l, ev C.Γ fr c with
    | .d (.int _ x), .d (.int _ y) => ∃ m : Nat, x = m ∧ y = m ∧ m ≤ mostLen ∧ withO o.dst (OpSem C n kd o K fr σ) fun d => fresh d σ (fun i => forceS (sins i (.slice e.elem ee.size (List.replicate m ee.zero)) σ) fun σ => K (putF o.dst (.own i) fr) σ) (OpSem C n kd o K fr σ)
    | _, _ => OpSem C n kd o K fr σ)
  | .load t x => sxLoad T t (ev C.Γ fr x) σ (fun d => K (putF o.dst d fr) σ) (OpSem C n kd o K fr σ)
  | .store t x v => sxStore T t (ev C.Γ fr x) (ev C.Γ fr v) σ (fun σ' => forceS σ' fun σ' => K (putF o.dst (.d .undef) fr) σ') (OpSem C n kd o K fr σ)
  | .nilCheck x => force (ev C.Γ fr x) fun d => (match d with
    | .d (.ref _) => K (putF o.dst d fr) σ
    | .at_ _ _ => K (putF o.dst d fr) σ
    | .el _ _ _ _ => K (putF o.dst d fr) σ
    | .own i => withO (sget i σ) (OpSem C n kd o K fr σ) fun ow => (match ow with
      | .cells _ _ => K (putF o.dst d fr) σ
      | _ => OpSem C n kd o K fr σ)
    | _ => OpSem C n kd o K fr σ)
  | .binOp op t x y _ => (match (ev C.Γ fr x).parts, (ev C.Γ fr y).parts with
    | some dx, some dy => withTy T t (OpSem C n kd o K fr σ) fun e => withB (e.cmp && !(Nat.beq kd 0)) (OpSem C n kd o K fr σ) <| withO (eqFlds T dx dy e.flds 0) (OpSem C n kd o K fr σ) fun p => sxEq op p (fun d => K (putF o.dst d fr) σ) (OpSem C n kd o K fr σ)
    | _, _ => sxBin T t op (isNilC y) (ev C.Γ fr x) (ev C.Γ fr y) σ (fun d => K (putF o.dst d fr) σ) (OpSem C n kd o K fr σ))
  | .unOp op _ x => sxUn op (ev C.Γ fr x) (fun d => K (putF o.dst d fr) σ) (OpSem C n kd o K fr σ)
  | .convert s t x => withTy T t (OpSem C n kd o K fr σ) fun e => withTy T s (OpSem C n kd o K fr σ) fun _ => (match e.ik, ev C.Γ fr x with
    | some k, .d (.int _ a) => SxI k a fun b => K (putF o.dst (.d (.int k b)) fr) σ
    | _, _ => OpSem C n kd o K fr σ)
  | .makeInterface t x => withTy T t (OpSem C n kd o K fr σ) fun e => withB (!(Nat.beq e.kd 5)) (OpSem C n kd o K fr σ) <| force (mkIface t (ev C.Γ fr x)) fun d => K (putF o.dst d fr) σ
  | .makeFunc f p q => force (mkFunc f (evs C.Γ fr p.toList) (evs C.Γ fr q.toList)) fun d => K (putF o.dst d fr) σ
  | .fieldAddr t x m => sxFieldAddr T t (ev C.Γ fr x) m σ (fun d => K (putF o.dst d fr) σ) (OpSem C n kd o K fr σ)
  | .indexAddr t x ix => sxIndexAddr T t (ev C.Γ fr x) (ev C.Γ fr ix) σ (fun d => K (putF o.dst d fr) σ) (OpSem C n kd o K fr σ)
  | .index t x ix => withTy T t (OpSem C n kd o K fr σ) fun e => withB (Nat.beq e.kd 7) (OpSem C n kd o K fr σ) (match ev C.Γ fr x, ev C.Γ fr ix with
    | .d (.str s), .d (.int _ i) => ∃ j : Nat, i = j ∧ ∃ h : j < s.size, K (putF o.dst (.d (.int .u8 (s[j]'h).toNat)) fr) σ
    | _, _ => OpSem C n kd o K fr σ)
  | .field t x m => sxField T t (ev C.Γ fr x) m (fun d => K (putF o.dst d fr) σ) (OpSem C n kd o K fr σ)
  | .slice t x lo hi mx => sxSlice T t (ev C.Γ fr x) (lo.map (ev C.Γ fr)) (hi.map (ev C.Γ fr)) (mx.map (ev C.Γ fr)) (fun d => K (putF o.dst d fr) σ) (OpSem C n kd o K fr σ)
  | .extract x m => (match ev C.Γ fr x with
    | .d (.tuple ds) => withO (dfieldOf m ds) (OpSem C n kd o K fr σ) fun d => K (putF o.dst (.d d) fr) σ
    | .tuple ds => withO (fieldOf m ds) (OpSem C n kd o K fr σ) fun d => force d fun d => K (putF o.dst d fr) σ
    | _ => OpSem C n kd o K fr σ)
  | .call c => (match c.callee with
    | .builtin .len => (match c.args.toList, c.argTypes.toList with
      | [x], [t] => sxLen T t (ev C.Γ fr x) σ (fun d => K (putF o.dst d fr) σ) (OpSem C n kd o K fr σ)
      | _, _ => OpSem C n kd o K fr σ)
    | .builtin .append => (match c.args.toList, c.argTypes.toList with
      | [x, y], [t, t'] => withB (Nat.beq t t') (OpSem C n kd o K fr σ) <| sxAppend T t (ev C.Γ fr x) (ev C.Γ fr y) o.dst fr σ (fun d fr σ => K (putF o.dst d fr) σ) (OpSem C n kd o K fr σ)
      | _, _ => OpSem C n kd o K fr σ)
    | .builtin .min => (match c.args.toList.map (ev C.Γ fr) with
      | [.d (.int k x), .d (.int _ y)] => K (putF o.dst (.d (.int k (min x y))) fr) σ
      | _ => OpSem C n kd o K fr σ)
    | .builtin .max => (match c.args.toList.map (ev C.Γ fr) with
      | [.d (.int k x), .d (.int _ y)] => K (putF o.dst (.d (.int k (max x y))) fr) σ
      | _ => OpSem C n kd o K fr σ)
    | .value f => (match ev C.Γ fr f with
      | .d (.func (.func g) fs cs) => SxCall C (Nat.beq kd 2) g (datas fs ++ (evs C.Γ fr c.args.toList ++ datas cs)) (fun d fr σ => K (putF o.dst d fr) σ) fr σ
      | .func (.func g) fs cs => SxCall C (Nat.beq kd 2) g (fs ++ (evs C.Γ fr c.args.toList ++ cs)) (fun d fr σ => K (putF o.dst d fr) σ) fr σ
      | _ => OpSem C n kd o K fr σ)
    | _ => OpSem C n kd o K fr σ)
  | _ => OpSem C n kd o K fr σ

/-- an operation's guard -/
def sxGuard (o : Oper) (l : List Oper) (fr : Fr) (yes no : Fr → Prop) : Prop := match o.guard with
  | none => yes fr
  | some (g, b) => match (l[g]?).bind (·.dst) with
    | none => False
    | some t => match get fr t with
      | .d (.bool c) => (match c, b with
        | true, true => yes fr
        | false, false => yes fr
        | _, _ => no fr)
      | .d (.prop p _) => (match b with
        | true => (p → yes ((t, .d (.bool true)) :: fr)) ∧ (¬ p → no ((t, .d (.bool false)) :: fr))
        | false => (p → no ((t, .d (.bool true)) :: fr)) ∧ (¬ p → yes ((t, .d (.bool false)) :: fr)))
      | .d (.tuple []) => no fr
      | _ => False

def skipF (t : Option Nat) (fr : Fr) : Fr := match t with
  | some t => (t, .d (.tuple [])) :: fr
  | none => fr

/-- the operations of a region, by their numbers in the order p -/
def sxOps (C : Cx) (T : Tab) (n : Nat) (l : List Oper) (ks : List Nat) (K : Fr → Sg → Prop) : List Nat → Fr → Sg → Prop
  | [], fr, σ => K fr σ
  | i :: p, fr, σ => match l[i]? with
    | none => False
    | some o => sxGuard o l fr (fun fr => sxOper C T n (ks.getD i 3) o (sxOps C T n l ks K p) fr σ) (fun fr => withB (dstOk o.dst n) False (sxOps C T n l ks K p (skipF o.dst fr) σ))

/-- how the orders of a region that draws are walked -/
inductive Plan where
  | leaf (ks p A : List Nat)
  | split (i j : Nat) (x y : Plan)

def leaves : Plan → List (List Nat × List Nat)
  | .leaf ks p _ => [(ks, p)]
  | .split _ _ x y => leaves x ++ leaves y

/-- the slots of the first are those of the second -/
def Sub : Fr → Fr → Prop
  | [], _ => True
  | (t, d) :: l, fr => get fr t = d ∧ Sub l fr
/-- each slot once -/
def nubF : Fr → Fr → (Fr → Prop) → Prop
  | [], acc, K => K acc
  | (t, d) :: fr, acc, K => match acc.any (fun p => Nat.beq p.1 t) with
    | true => nubF fr acc K
    | false => force d fun d => nubF fr ((t, d) :: acc) K

def sxRest (C : Cx) (T : Tab) (n : Nat) (l : List Oper) (F : Fr) (Z : Sg) (fr : Fr) (σ : Sg) (k : Prop) : List (List Nat × List Nat) → Prop
  | [] => k
  | (ks, p) :: r => sxOps C T n l ks (fun fr' σ' => Sub F fr' ∧ σ' = Z) p fr σ ∧ sxRest C T n l F Z fr σ k r
def sxPlan (C : Cx) (T : Tab) (n : Nat) (l : List Oper) (K : Fr → Sg → Prop) (pl : Plan) (fr : Fr) (σ : Sg) : Prop := match leaves pl with
  | [] => False
  | [(ks, p)] => sxOps C T n l ks K p fr σ
  | (ks, p) :: r => sxOps C T n l ks (fun fr1 σ1 => nubF fr1 [] fun F => sxRest C T n l F σ1 fr σ (K F σ1) r) p fr σ

def planAt (i : Nat) : List (Nat × Plan) → Option Plan
  | [] => none
  | (j, p) :: l => match Nat.beq j i with
    | true => some p
    | false => planAt i l

abbrev KE := Exit → Fr → Sg → Prop
def seqK (nx : Fr → Sg → Prop) (K : KE) : KE := fun e => match e with
  | .normal => nx
  | e => K e
def blockK (id : Nat) (K : KE) : KE := fun e => match e with
  | .exit j => (match Nat.beq j id with
    | true => K .normal
    | false => K (.exit j))
  | e => K e
def condF (c : Operand) (d : Dat) (fr : Fr) : Fr := match c with
  | .tmp t => (t, d) :: fr
  | _ => fr

/-- code -/
def sxCode (C : Cx) (T : Tab) (n : Nat) (pl : List (Nat × Plan)) : Code → KE → Fr → Sg → Prop
  | .skip, K, fr, σ => K .normal fr σ
  | .region id ops dr, K, fr, σ => (match dr with
    | false => sxOps C T n ops.toList [] (K .normal) (List.range ops.toList.length) fr σ
    | true => match planAt id pl with
      | some p => sxPlan C T n ops.toList (K .normal) p fr σ
      | none => False)
  | .seq a b, K, fr, σ => sxCode C T n pl a (seqK (sxCode C T n pl b K) K) fr σ
  | .cond c a b, K, fr, σ => sxIf (ev C.Γ fr c) (fun d => sxCode C T n pl a K (condF c d fr) σ) (fun d => sxCode C T n pl b K (condF c d fr) σ) False
  | .block id b, K, fr, σ => sxCode C T n pl b (blockK id K) fr σ
  | .exit id, K, fr, σ => K (.exit id) fr σ
  | .label _, K, fr, σ => K .normal fr σ
  | .ret, K, fr, σ => K .ret fr σ
  | c, K, fr, σ => CodeSem C n c K fr σ

def sxRes (T : Tab) : List ResultVar → Fr → Sg → (List Dat → Prop) → Prop
  | [], _, _, K => K []
  | .tmp t :: l, fr, σ, K => force (get fr t) fun d => sxRes T l fr σ fun ds => K (d :: ds)
  | .cell t ty :: l, fr, σ, K => sxLoad T ty (get fr t) σ (fun d => sxRes T l fr σ fun ds => K (d :: ds)) False
/-- behind the body: what is handed back -/
def sxEnd (T : Tab) (rs : List ResultVar) (K : Dat → Sg → Prop) : KE := fun e fr σ => match e with
  | .normal | .ret => sxRes T rs fr σ fun ds => (match ds with
    | [d] => K d σ
    | ds => force (mkTup ds) fun d => K d σ)
  | _ => False

end Go.Sx

namespace Go.Sx
open Go Go.RowKit Go.Reg

/-! ### checks by the kernel: the table -/
def valB : Value → Value → Bool
  | .int k n, .int k' n' => decide (k = k') && decide (n = n')
  | .bool b, .bool c => b == c
  | .string s, .string t => decide (s = t)
  | .pointer none, .pointer none => true
  | .slice none 0 0, .slice none 0 0 => true
  | .map none, .map none => true
  | .nilFunc, .nilFunc => true
  | .nilIface, .nilIface => true
  | _, _ => false
theorem valB_eq {a b : Value} (h : valB a b = true) : a = b := by
  unfold valB at h
  split at h <;> simp at h <;> simp [h]
def valsB : List Value → List Value → Bool
  | [], [] => true
  | a :: as, b :: bs => valB a b && valsB as bs
  | _, _ => false
theorem valsB_eq : ∀ {a b : List Value}, valsB a b = true → a = b
  | [], [], _ => rfl
  | a :: as, b :: bs, h => by
    simp only [valsB, Bool.and_eq_true] at h
    rw [valB_eq h.1, valsB_eq h.2]
  | [], _ :: _, h => by simp [valsB] at h
  | _ :: _, [], h => by simp [valsB] at h

mutual
def zcells : Da → Option (List Value)
  | .int k n => some [.int k n]
  | .bool b => some [.bool b]
  | .str s => some [.string s]
  | .nilp => some [.pointer none]
  | .nils => some [.slice none 0 0]
  | .nilm => some [.map none]
  | .nilf => some [.nilFunc]
  | .nili => some [.nilIface]
  | .agg ds => zcellss ds
  | _ => none
def zcellss : List Da → Option (List Value)
  | [] => some []
  | d :: ds => match zcells d, zcellss ds with
    | some a, some b => some (a ++ b)
    | _, _ => none
end
mutual
theorem repC_zcells {O : List Nat} {w : World} : ∀ (d : Da) (cs : List Value), zcells d = some cs → RepC O w d cs
  | .int k n, cs, h => by simp only [zcells, Option.some.injEq] at h; simp only [RepC]; exact h.symm
  | .bool b, cs, h => by simp only [zcells, Option.some.injEq] at h; simp only [RepC]; exact h.symm
  | .str s, cs, h => by simp only [zcells, Option.some.injEq] at h; simp only [RepC]; exact h.symm
  | .nilp, cs, h => by simp only [zcells, Option.some.injEq] at h; simp only [RepC]; exact h.symm
  | .nils, cs, h => by simp only [zcells, Option.some.injEq] at h; simp only [RepC]; exact h.symm
  | .nilm, cs, h => by simp only [zcells, Option.some.injEq] at h; simp only [RepC]; exact h.symm
  | .nilf, cs, h => by simp only [zcells, Option.some.injEq] at h; simp only [RepC]; exact h.symm
  | .nili, cs, h => by simp only [zcells, Option.some.injEq] at h; simp only [RepC]; exact h.symm
  | .agg ds, cs, h => by simp only [zcells] at h; simp only [RepC]; exact repCs_zcells ds cs h
  | .undef, cs, h => by simp [zcells] at h
  | .prop _ _, cs, h => by simp [zcells] at h
  | .tuple _, cs, h => by simp [zcells] at h
  | .iface _ _, cs, h => by simp [zcells] at h
  | .ref _, cs, h => by simp [zcells] at h
  | .list _ _, cs, h => by simp [zcells] at h
  | .func _ _ _, cs, h => by simp [zcells] at h
  | .raw _, cs, h => by simp [zcells] at h
theorem repCs_zcells {O : List Nat} {w : World} : ∀ (ds : List Da) (cs : List Value), zcellss ds = some cs → RepCs O w ds cs
  | [], cs, h => by simp only [zcellss, Option.some.injEq] at h; simp only [RepCs]; exact h.symm
  | d :: ds, cs, h => by
    simp only [zcellss] at h
    cases h1 : zcells d with
    | none => rw [h1] at h; cases h
    | some a =>
      cases h2 : zcellss ds with
      | none => rw [h1, h2] at h; cases h
      | some b =>
        rw [h1, h2] at h
        simp only [Option.some.injEq] at h
        exact ⟨a, b, h.symm, repC_zcells d a h1, repCs_zcells ds b h2⟩
end

def vAgg : Value → Bool
  | .agg _ => true
  | _ => false
/-- an entry of the table, held against the program by the kernel -/
def tyB (P : Program) (t : TypeId) (e : TyI) : Bool :=
  match P.info? t, P.underlying t with
  | some i, some d => Nat.beq i.size e.size && Nat.beq i.bytes e.bytes &&
      (match i.zero, zcells e.zero with
        | some z, some cs => valsB z.cells.toList cs && (vAgg z == e.agg)
        | _, _ => false) && ((e.zero.isAgg == e.agg) && Nat.beq e.zero.size e.size) &&
      (match d with
        | .struct fs => e.agg && decide (fs.toList.map (fun f => (f.offset, f.type)) = e.flds) && fs.toList.all (fun f => match P.info? f.type with | some i => Nat.blt 0 i.size | none => false)
        | .array _ _ => false
        | .slice el => !e.agg && Nat.beq el e.elem
        | .int k => !e.agg && decide (e.ik = some k)
        | _ => !e.agg) &&
      ((match d with | .int _ => false | _ => true) == e.ik.isNone) &&
      Nat.beq e.kd (match d with | .pointer _ => 1 | .slice _ => 2 | .map _ _ => 3 | .func _ _ _ => 4 | .interface _ => 5 | .struct _ => 6 | .string => 7 | .int _ => 8 | .bool => 9 | _ => 0) &&
      (!e.cmp || (match d with | .struct fs => !(P.stoodInHeld t) && !(P.eqGuardType P.depth t) && fs.toList.all (fun f => f.name != "_") | _ => false))
  | _, _ => false
def tabB (P : Program) : Tab → Bool
  | [] => true
  | (t, e) :: l => tyB P t e && tabB P l

theorem tabB_at {P : Program} : ∀ {T : Tab}, tabB P T = true → ∀ {t : TypeId} {e : TyI}, tyAt t T = some e → tyB P t e = true
  | [], _, t, e, h => by simp [tyAt] at h
  | (u, x) :: l, hT, t, e, h => by
    simp only [tabB, Bool.and_eq_true] at hT
    rcases beq_cases u t with ⟨hb, he⟩ | ⟨hb, he⟩
    · simp only [tyAt, hb, Option.some.injEq] at h
      subst he; subst h; exact hT.1
    · simp only [tyAt, hb] at h
      exact tabB_at hT.2 h

structure TyOk (P : Program) (t : TypeId) (e : TyI) : Prop where
  zsize : e.zero.size = e.size
  cmp : e.cmp = true → ∃ fs, P.underlying t = some (.struct fs) ∧ P.stoodInHeld t = false ∧ P.eqGuardType P.depth t = false ∧ ∀ f ∈ fs.toList, f.name ≠ "_"
  info : ∃ i z, P.info? t = some i ∧ i.size = e.size ∧ i.bytes = e.bytes ∧ i.zero = some z ∧ z = toV e.zero z.cells.toList ∧ (∀ O w, RepC O w e.zero z.cells.toList)
  desc : ∃ d, P.underlying t = some d ∧ (match d with | .struct _ | .array _ _ => true | _ => false) = e.agg ∧ (∀ el, d = .slice el → el = e.elem) ∧
    (∀ fs, d = .struct fs → fs.toList.map (fun f => (f.offset, f.type)) = e.flds ∧ ∀ f ∈ fs.toList, ∃ i, P.info? f.type = some i ∧ 0 < i.size) ∧
    (∀ n el, d ≠ .array n el) ∧ (e.agg = true → ∃ fs, d = .struct fs) ∧ (∀ k, e.ik = some k → d = .int k) ∧ e.kd = (match d with | .pointer _ => 1 | .slice _ => 2 | .map _ _ => 3 | .func _ _ _ => 4 | .interface _ => 5 | .struct _ => 6 | .string => 7 | .int _ => 8 | .bool => 9 | _ => 0)

theorem toV_agg_cells {z : Value} {d : Da} {cs : List Value} (h1 : z.cells.toList = cs) (h2 : vAgg z = d.isAgg) (h3 : d.isAgg = false → z = toV d [z]) : z = toV d cs := by
  cases z with
  | agg xs =>
    cases d <;> first | (simp [Da.isAgg, vAgg] at h2; done) | (simp only [Value.cells] at h1; subst h1; simp [toV])
  | _ =>
    simp only [Value.cells] at h1
    subst h1
    exact h3 (by simpa [vAgg] using h2.symm)

theorem tyB_ok {P : Program} {t : TypeId} {e : TyI} (h : tyB P t e = true) : TyOk P t e := by
  unfold tyB at h
  cases hi : P.info? t with
  | none => rw [hi] at h; cases h
  | some i =>
    cases hd : P.underlying t with
    | none => rw [hi, hd] at h; cases h
    | some d =>
      rw [hi, hd] at h
      simp only [Bool.and_eq_true] at h
      obtain ⟨⟨⟨⟨⟨⟨⟨h1, h2⟩, h3⟩, h4⟩, h5⟩, h6⟩, h7⟩, h8⟩ := h
      refine ⟨by simp only [beq_iff_eq] at h4; exact Nat.eq_of_beq_eq_true h4.2, ?_, ?_, ?_⟩
      · intro hc
        rw [hc] at h8
        simp only [Bool.not_true, Bool.false_or] at h8
        split at h8
        · rename_i fs
          simp only [Bool.and_eq_true, Bool.not_eq_true', List.all_eq_true] at h8
          exact ⟨fs, hd, h8.1.1, h8.1.2, fun f hf => by simpa using h8.2 f hf⟩
        · cases h8
      · cases hz : i.zero with
        | none => rw [hz] at h3; cases h3
        | some z =>
          cases hc : zcells e.zero with
          | none => rw [hz, hc] at h3; cases h3
          | some cs =>
            rw [hz, hc] at h3
            simp only [Bool.and_eq_true] at h3
            have e1 := valsB_eq h3.1
            refine ⟨i, z, hi, Nat.eq_of_beq_eq_true h1, Nat.eq_of_beq_eq_true h2, hz, ?_, fun O w => by rw [e1]; exact repC_zcells _ _ hc⟩
            rw [e1]
            refine toV_agg_cells e1 ?_ (fun hn => ?_)
            · have h4' : e.zero.isAgg = e.agg := by simp only [beq_iff_eq] at h4; exact h4.1
              rw [h4']; simpa using h3.2
            · cases hh : e.zero <;> simp [toV] <;> rw [hh] at hn <;> simp [Da.isAgg] at hn
      · refine ⟨d, hd, ?_, ?_, ?_, ?_, ?_, ?_, ?_⟩
        · cases d <;> simp at h5 <;> simp [h5]
        · rintro el rfl
          simp only [Bool.and_eq_true] at h5
          exact Nat.eq_of_beq_eq_true h5.2
        · rintro fs rfl
          simp only [Bool.and_eq_true, decide_eq_true_eq, List.all_eq_true] at h5
          refine ⟨h5.1.2, fun f hf => ?_⟩
          have := h5.2 f hf
          cases hfi : P.info? f.type with
          | none => rw [hfi] at this; cases this
          | some j =>
            rw [hfi] at this
            exact ⟨j, rfl, by simpa [Nat.blt_eq] using this⟩
        · rintro n el rfl; simp at h5
        · intro ha
          cases d <;> simp [ha] at h5
          exact ⟨_, rfl⟩
        · intro k hk
          rw [hk] at h6 h5
          cases d <;> simp at h6
          simp at h5
          rw [h5.2]
        · exact Nat.eq_of_beq_eq_true h7

/-- what a proof knows of the program -/
structure Cx.Ok (C : Cx) (T : Tab) : Prop where
  tab : tabB C.P T = true
  mixed : C.P.follows .mixedOrders = true

theorem Cx.Ok.ty {C : Cx} {T : Tab} (h : C.Ok T) {t : TypeId} {e : TyI} (ht : tyAt t T = some e) : TyOk C.P t e := tyB_ok (tabB_at h.tab ht)

section
variable {P : Program} {t : TypeId} {e : TyI}
theorem TyOk.sizeOf (h : TyOk P t e) (w : World) : (sizeOf t).run P w = .ok e.size w := by
  obtain ⟨i, z, h1, h2, _⟩ := h.info
  simp [Go.sizeOf, typeInfo, program, Sem.run, h1, h2]
theorem TyOk.isAgg (h : TyOk P t e) (w : World) : (isAgg t).run P w = .ok e.agg w := by
  obtain ⟨d, h1, h2, _⟩ := h.desc
  simp only [Go.isAgg, Sem.run_bind, run_underlying h1, Result.andThen_ok]
  rw [← h2]
  cases d <;> simp
theorem TyOk.zero (h : TyOk P t e) : ∃ z, (∀ w, (zeroValue t).run P w = .ok z w) ∧ z = toV e.zero z.cells.toList ∧ ∀ O w, RepC O w e.zero z.cells.toList := by
  obtain ⟨i, z, h1, h2, h3, h4, h5, h6⟩ := h.info
  exact ⟨z, fun w => by simp [zeroValue, typeInfo, program, Sem.run, h1, h4], h5, h6⟩
end

/-! ### operands -/
section
variable {C : Cx} {B S : List Nat} {w0 w : World} {n : Nat} {fr : Fr} {σ : Sg} {η : Nat → Value} {φ : Nat → List Nat} {a : Act}

abbrev RD (B : List Nat) (σ : Sg) (η : Nat → Value) (φ : Nat → List Nat) (w : World) (d : Dat) (v : Value) : Prop := ∃ cs, RepD η (ids σ) (B ++ blocks φ σ) w d cs ∧ v = toVD d cs

theorem ofVal1_rep (O : List Nat) (w : World) (v : Value) : RepC O w (ofVal1 v) [v] := by
  unfold ofVal1
  split <;> simp [RepC]
theorem toV_ofVal1 (v : Value) : toV (ofVal1 v) [v] = v := by
  unfold ofVal1
  split <;> simp [toV]
theorem ofVal_rep (O : List Nat) (w : World) (v : Value) : ∃ cs, RepC O w (ofVal v) cs ∧ v = toV (ofVal v) cs := by
  unfold ofVal
  split
  · rename_i cs
    refine ⟨cs.toList, ?_, by simp [toV]⟩
    simp only [RepC]
    generalize cs.toList = l
    induction l with
    | nil => simp [RepCs]
    | cons x l ih => exact ⟨[x], l, rfl, ofVal1_rep O w x, ih⟩
  · exact ⟨[v], ofVal1_rep O w v, (toV_ofVal1 v).symm⟩

theorem glob_rep {O : List Nat} {w : World} {g : Nat} : ∀ {Γ : List (Nat × Da)}, (∀ p ∈ Γ, Rep O w (.ref p.2) (.pointer (some ⟨p.1, 0, none⟩))) → ∃ cs, RepC O w (glob g Γ) cs ∧ Value.pointer (some ⟨g, 0, none⟩) = toV (glob g Γ) cs
  | [], _ => ⟨[.pointer (some ⟨g, 0, none⟩)], by simp [glob, RepC], by simp [glob, toV]⟩
  | (h, x) :: Γ, hh => by
    rcases beq_cases h g with ⟨hb, he⟩ | ⟨hb, he⟩
    · simp only [glob, hb]
      have := hh (h, x) (by simp)
      subst he; exact this
    · simp only [glob, hb]
      exact glob_rep (fun p hp => hh p (List.mem_cons_of_mem _ hp))

theorem ev_rep (h : Models C B S w0 n fr σ η φ a w) (x : Operand) : RD B σ η φ w (ev C.Γ fr x) (a.eval x) := by
  cases x with
  | tmp t => obtain ⟨cs, h1, h2⟩ := h.fr t; exact ⟨cs, h1, h2⟩
  | const v => obtain ⟨cs, h1, h2⟩ := ofVal_rep (B ++ blocks φ σ) w v; exact ⟨cs, h1, h2⟩
  | «global» g => obtain ⟨cs, h1, h2⟩ := glob_rep (g := g) (fun p hp => (h.mem.glob p hp).1); exact ⟨cs, h1, h2⟩
  | func f => exact ⟨[.func (.func f) #[] #[]], by simp [ev, RepD, RepC, RepCss], by simp [ev, toVD, toV, Act.eval]⟩

theorem evs_rep (h : Models C B S w0 n fr σ η φ a w) : ∀ xs : List Operand, ∃ css, RepDss η (ids σ) (B ++ blocks φ σ) w (evs C.Γ fr xs) css ∧ xs.map a.eval = List.zipWith toVD (evs C.Γ fr xs) css
  | [] => ⟨[], by simp [evs, RepDss], by simp [evs]⟩
  | x :: xs => by
    obtain ⟨cs, h1, h2⟩ := ev_rep h x
    obtain ⟨css, h3, h4⟩ := evs_rep h xs
    exact ⟨cs :: css, ⟨cs, css, rfl, h1, h3⟩, by simp [evs, h2, h4]⟩

theorem Models.put (h : Models C B S w0 n fr σ η φ a w) {t : Option Nat} (ht : dstOk t n = true) {d : Dat} {v : Value} (hd : RD B σ η φ w d v) : Models C B S w0 n (putF t d fr) σ η φ (a.put t v) w := by
  obtain ⟨cs, h1, h2⟩ := hd
  cases t with
  | none => exact h
  | some t =>
    have : t < a.tmps.size := by rw [h.size]; simpa [dstOk, Nat.blt_eq] using ht
    exact ⟨h.mem, h.fr.put this h1 h2, h.defers, by simp [Act.put, h.size]⟩

theorem RD.d {x : Da} {v : Value} (h : RD B σ η φ w (.d x) v) : Rep (B ++ blocks φ σ) w x v := h

/-- an operation that hands back a value -/
theorem opSem_val {kd : Nat} {o : Oper} {K : Fr → Sg → Prop} (hk : kd ≠ 5) (hk2 : kd ≠ 2) (h : ∀ (B S : List Nat) (w0 : World) (η : Nat → Value) (φ : Nat → List Nat) (a : Act) (w : World), Models C B S w0 n fr σ η φ a w →
    (kd = 0 → dynPure a o = true) ∧ ((∃ v w', (execOp a.eval o).run C.P w = .ok (.value v) w' ∧ Good C B S w0 n K (a.put o.dst v) w') ∨ (∃ w', (execOp a.eval o).run C.P w = .ok .skip w' ∧ Good C B S w0 n K (a.put o.dst Go.undef) w'))) : OpSem C n kd o K fr σ := by
  unfold OpSem
  intro B S w0 η φ a w hm
  obtain ⟨h0, h1⟩ := h B S w0 η φ a w hm
  have hw : o.wp C.P a w (Good C B S w0 n K) No := by
    rcases h1 with ⟨v, w', hr, hg⟩ | ⟨w', hr, hg⟩
    · exact wp_val hr hg
    · exact wp_skip' hr hg
  split
  · exact ⟨h0 rfl, hw⟩
  · exact absurd rfl hk
  · exact absurd rfl hk2
  · exact hw

/-- a value reckoned, memory as it was -/
theorem good_put {K : Fr → Sg → Prop} {o : Oper} (h : Models C B S w0 n fr σ η φ a w) (ht : dstOk o.dst n = true) {d : Dat} {v : Value} (hd : RD B σ η φ w d v) (hK : K (putF o.dst d fr) σ) : Good C B S w0 n K (a.put o.dst v) w :=
  ⟨_, σ, η, φ, h.put ht hd, hK⟩
end

end Go.Sx

namespace Go.Sx
open Go Go.RowKit Go.Reg

section
variable {C : Cx} {T : Tab} {B S : List Nat} {w0 w : World} {n : Nat} {fr : Fr} {σ : Sg} {η : Nat → Value} {φ : Nat → List Nat} {a : Act} {v vx vy : Value} {no : Prop}

theorem RD.int {k : IntKind} {m : Int} (h : RD B σ η φ w (.d (.int k m)) v) : v = .int k m := by
  obtain ⟨cs, h1, h2⟩ := h; simp only [RepD, RepC] at h1; subst h1; exact h2
theorem RD.bool {b : Bool} (h : RD B σ η φ w (.d (.bool b)) v) : v = .bool b := by
  obtain ⟨cs, h1, h2⟩ := h; simp only [RepD, RepC] at h1; subst h1; exact h2
theorem RD.prop {p : Prop} {i : Decidable p} (h : RD B σ η φ w (.d (.prop p i)) v) : v = .bool (decide p) := by
  obtain ⟨cs, h1, h2⟩ := h; simp only [RepD, RepC] at h1; subst h1; exact h2
theorem RD.str {s : ByteArray} (h : RD B σ η φ w (.d (.str s)) v) : v = .string s := by
  obtain ⟨cs, h1, h2⟩ := h; simp only [RepD, RepC] at h1; subst h1; exact h2
theorem RD.nilp (h : RD B σ η φ w (.d .nilp) v) : v = .pointer none := by
  obtain ⟨cs, h1, h2⟩ := h; simp only [RepD, RepC] at h1; subst h1; exact h2
theorem RD.nils (h : RD B σ η φ w (.d .nils) v) : v = .slice none 0 0 := by
  obtain ⟨cs, h1, h2⟩ := h; simp only [RepD, RepC] at h1; subst h1; exact h2
theorem RD.nilm (h : RD B σ η φ w (.d .nilm) v) : v = .map none := by
  obtain ⟨cs, h1, h2⟩ := h; simp only [RepD, RepC] at h1; subst h1; exact h2
theorem RD.nilf (h : RD B σ η φ w (.d .nilf) v) : v = .nilFunc := by
  obtain ⟨cs, h1, h2⟩ := h; simp only [RepD, RepC] at h1; subst h1; exact h2
theorem RD.nili (h : RD B σ η φ w (.d .nili) v) : v = .nilIface := by
  obtain ⟨cs, h1, h2⟩ := h; simp only [RepD, RepC] at h1; subst h1; exact h2

theorem rd_int (k : IntKind) (m : Int) : RD B σ η φ w (.d (.int k m)) (.int k m) := ⟨[_], by simp [RepD, RepC], rfl⟩
theorem rd_bool (b : Bool) : RD B σ η φ w (.d (.bool b)) (.bool b) := ⟨[_], by simp [RepD, RepC], rfl⟩
theorem rd_prop (p : Prop) (i : Decidable p) : RD B σ η φ w (.d (.prop p i)) (.bool (decide p)) := ⟨[_], by simp [RepD, RepC], rfl⟩
theorem rd_str (s : ByteArray) : RD B σ η φ w (.d (.str s)) (.string s) := ⟨[_], by simp [RepD, RepC], rfl⟩

/-- a value that is reckoned from values -/
def BinOk (P : Program) (op : BinOp) (t : TypeId) (vx vy : Value) (w : World) (B : List Nat) (σ : Sg) (η : Nat → Value) (φ : Nat → List Nat) (K : Dat → Prop) : Prop :=
  ∃ d v, K d ∧ (binOp op t vx vy).run P w = .ok v w ∧ RD B σ η φ w d v

theorem str_beq (s t : ByteArray) : (s.toList == t.toList) = decide (s = t) := by
  by_cases h : s = t
  · subst h; simp
  · have : s.toList ≠ t.toList := fun e => h (by
      rw [ByteArray.toList_eq, ByteArray.toList_eq] at e
      cases s; cases t; simp at e; simp [e])
    simp [h, this]

theorem sxInt_ok {P : Program} {op : BinOp} {t : TypeId} {k : IntKind} {x y : Int} {K : Dat → Prop} (h : sxInt op k x y K no) : no ∨ (BinOk P op t (.int k x) (.int k y) w B σ η φ K ∧ notShift op = true) := by
  unfold sxInt at h
  split at h
  · obtain ⟨m, h1, h2⟩ := h; exact .inr ⟨⟨_, _, h2, by simp [binOp_add, Op.intArith, h1], rd_int k m⟩, rfl⟩
  · obtain ⟨m, h1, h2⟩ := h; exact .inr ⟨⟨_, _, h2, by simp [binOp_sub, Op.intArith, h1], rd_int k m⟩, rfl⟩
  · obtain ⟨m, h1, h2⟩ := h; exact .inr ⟨⟨_, _, h2, by simp [binOp_mul, Op.intArith, h1], rd_int k m⟩, rfl⟩
  · obtain ⟨h0, m, h1, h2⟩ := h; exact .inr ⟨⟨_, _, h2, by simp [binOp_quo, Op.intDiv, h0, h1], rd_int k m⟩, rfl⟩
  · obtain ⟨h0, h2⟩ := h; exact .inr ⟨⟨_, _, h2, by simp [binOp_rem, Op.intDiv, h0], rd_int k _⟩, rfl⟩
  · exact .inr ⟨⟨_, _, h, by simp only [binOp_eql, Sem.run_pure]; rfl, rd_prop _ _⟩, rfl⟩
  · exact .inr ⟨⟨_, _, h, by simp only [binOp_neq, Sem.run_pure]; congr 2; by_cases e : x = y <;> simp [bne, e], rd_prop _ _⟩, rfl⟩
  · exact .inr ⟨⟨_, _, h, by simp only [binOp_lss, Sem.run_pure], rd_prop _ _⟩, rfl⟩
  · exact .inr ⟨⟨_, _, h, by simp only [binOp_leq, Sem.run_pure], rd_prop _ _⟩, rfl⟩
  · exact .inr ⟨⟨_, _, h, by simp only [binOp_gtr, Sem.run_pure], rd_prop _ _⟩, rfl⟩
  · exact .inr ⟨⟨_, _, h, by simp only [binOp_geq, Sem.run_pure], rd_prop _ _⟩, rfl⟩
  · exact .inl h

theorem sxStr_ok {P : Program} {op : BinOp} {t : TypeId} {x y : ByteArray} {K : Dat → Prop} (h : sxStr op x y K no) : no ∨ BinOk P op t (.string x) (.string y) w B σ η φ K := by
  unfold sxStr at h
  split at h
  · exact .inr ⟨_, _, h, by rw [binOp_string_eql, str_beq]; rfl, rd_prop _ _⟩
  · exact .inr ⟨_, _, h, by rw [binOp_string_neq, str_beq]; simp only [Sem.run_pure]; congr 2; simp, rd_prop _ _⟩
  · obtain ⟨h1, h2⟩ := h; exact .inr ⟨_, _, h2, by rw [binOp_string_add]; exact run_string_add_sum _ _ _ h1, rd_str _⟩
  · exact .inl h

theorem sxBool2_ok {P : Program} {op : BinOp} {t : TypeId} {x y : Bool} {p q : Prop} {ip : Decidable p} {iq : Decidable q} (hp : x = decide p) (hq : y = decide q) (ht : P.underlying t = some .bool) {K : Dat → Prop} (h : sxBool2 op p q K no) : no ∨ (BinOk P op t (.bool x) (.bool y) w B σ η φ K ∧ isEq op = true) := by
  subst hp; subst hq
  unfold sxBool2 at h
  split at h
  · refine .inr ⟨⟨_, _, h, ?_, rd_prop _ _⟩, rfl⟩
    simp only [binOp, Sem.run_bind, run_equal_bool w t _ _ ht, Result.andThen_ok, Sem.run_pure]
    congr 2
    by_cases h1 : p <;> by_cases h2 : q <;> simp [h1, h2]
  · refine .inr ⟨⟨_, _, h, ?_, rd_prop _ _⟩, rfl⟩
    simp only [binOp, Sem.run_bind, run_equal_bool w t _ _ ht, Result.andThen_ok, Sem.run_pure]
    congr 2
    by_cases h1 : p <;> by_cases h2 : q <;> simp [h1, h2]
  · exact .inl h

theorem TyOk.kd_desc {P : Program} {t : TypeId} {e : TyI} (h : TyOk P t e) : ∃ d, P.underlying t = some d ∧ e.kd = (match d with | .pointer _ => 1 | .slice _ => 2 | .map _ _ => 3 | .func _ _ _ => 4 | .interface _ => 5 | .struct _ => 6 | .string => 7 | .int _ => 8 | .bool => 9 | _ => 0) := by
  obtain ⟨d, h1, _, _, _, _, _, _, h2⟩ := h.desc
  exact ⟨d, h1, h2⟩
theorem TyOk.bool_desc {P : Program} {t : TypeId} {e : TyI} (h : TyOk P t e) (hk : e.kd = 9) : P.underlying t = some .bool := by
  obtain ⟨d, h1, h2⟩ := h.kd_desc
  rw [hk] at h2
  cases d <;> first | exact h1 | (simp at h2; done)

/-- how a nil value of a kind stands -/
def nilV : Nat → Value → Prop
  | 1, v => v = .pointer none
  | 2, v => v = .slice none 0 0
  | 3, v => v = .map none
  | 4, v => v = .nilFunc
  | 5, v => v = .nilIface
  | _, _ => False
def someV : Nat → Value → Prop
  | 1, v => ∃ a, v = .pointer (some a)
  | 2, v => ∃ a l c, v = .slice (some a) l c
  | 3, v => ∃ a, v = .map (some a)
  | 4, v => ∃ f p q, v = .func f p q
  | 5, v => ∃ t u, v = .iface t u
  | _, _ => False

theorem isNilLit_ok {kd : Nat} {y : Dat} (h : isNilLit kd y = true) (hy : RD B σ η φ w y vy) : nilV kd vy := by
  unfold isNilLit at h
  split at h
  · exact hy.nilp
  · exact hy.nils
  · exact hy.nilm
  · exact hy.nilf
  · exact hy.nili
  · cases h

theorem own_cells_val (hm : Mem C B S w0 σ η φ w) {i : Nat} {t : TypeId} {ds : List Dat} (h : sget i σ = some (.cells t ds)) : ∃ b cs, η i = .pointer (some ⟨b, 0, none⟩) ∧ φ i = [b] ∧ Blk w b t cs ∧ RepDs η (ids σ) (B ++ blocks φ σ) w ds cs := by
  obtain ⟨b, cs, h1, h2, h3, h4⟩ := hm.own _ (sget_mem h)
  exact ⟨b, cs, h1, h2, h3, h4⟩
theorem own_slice_val (hm : Mem C B S w0 σ η φ w) {i : Nat} {E k : Nat} {ds : List Da} (h : sget i σ = some (.slice E k ds)) : ∃ css, Sl E k id w (η i) css ∧ φ i = (η i).ownBlock.toList ∧ RepCss (B ++ blocks φ σ) w ds css ∧ (∀ x ∈ css, RowOk k x) := by
  obtain ⟨css, h1, h2, h3, h4⟩ := hm.own _ (sget_mem h)
  exact ⟨css, h1, h2, h3, h4⟩
theorem repCss_len {O : List Nat} {w : World} : ∀ {ds : List Da} {css : List (List Value)}, RepCss O w ds css → css.length = ds.length
  | [], css, h => by simp only [RepCss] at h; subst h; rfl
  | d :: ds, css, h => by
    simp only [RepCss] at h
    obtain ⟨c1, c2, rfl, _, h3⟩ := h
    simp [repCss_len h3]

theorem nilOf_ok (hm : Mem C B S w0 σ η φ w) {kd : Nat} {x : Dat} {b : Bool} (h : nilOf kd x σ = some b) (hx : RD B σ η φ w x vx) : (b = true ∧ nilV kd vx) ∨ (b = false ∧ someV kd vx) := by
  unfold nilOf at h
  split at h
  · split at h
    · simp at h; exact .inl ⟨h, hx.nilp⟩
    · simp at h
      obtain ⟨cs, h1, h2⟩ := hx
      simp only [RepD, RepC] at h1
      obtain ⟨bb, o, c, rfl, _⟩ := h1
      exact .inr ⟨h, _, h2⟩
    · simp at h
      obtain ⟨cs, h1, h2⟩ := hx
      simp only [RepD] at h1
      obtain ⟨_, bb, _, rfl⟩ := h1
      exact .inr ⟨h, _, h2⟩
    · simp at h
      obtain ⟨cs, h1, h2⟩ := hx
      simp only [RepD] at h1
      obtain ⟨_, bb, l, c, _, rfl⟩ := h1
      exact .inr ⟨h, _, h2⟩
    · split at h
      · rename_i hg
        simp at h
        obtain ⟨bb, cs, h1, _⟩ := own_cells_val hm hg
        obtain ⟨cs', h3, h4⟩ := hx
        simp only [RepD] at h3
        obtain ⟨_, rfl⟩ := h3
        refine .inr ⟨h, _, h4.trans h1⟩
      · cases h
    · cases h
  · split at h
    · simp at h; exact .inl ⟨h, hx.nils⟩
    · simp at h
      obtain ⟨cs, h1, h2⟩ := hx
      simp only [RepD, RepC] at h1
      obtain ⟨aa, c, css, rfl, _, _, _, _, h6⟩ := h1
      rcases h6 with h6 | ⟨b, o, rfl, _⟩
      · cases h6
      · exact .inr ⟨h, _, _, _, h2⟩
    · split at h
      · rename_i hg
        simp at h
        obtain ⟨css, hs, _, hr, _⟩ := own_slice_val hm hg
        obtain ⟨cs', h3, h4⟩ := hx
        simp only [RepD] at h3
        obtain ⟨_, rfl⟩ := h3
        have hl := repCss_len hr
        rcases hs.shape with ⟨_, he⟩ | ⟨g, cap, he, _⟩
        · rw [he] at hl; simp at hl
        · exact .inr ⟨h, _, _, _, h4.trans he⟩
      · cases h
    · cases h
  · split at h
    · simp at h; exact .inl ⟨h, hx.nilm⟩
    · cases h
  · split at h
    · simp at h; exact .inl ⟨h, hx.nilf⟩
    · simp at h
      obtain ⟨cs, h1, h2⟩ := hx
      simp only [RepD, RepC] at h1
      obtain ⟨fs, c, _, _, rfl⟩ := h1
      exact .inr ⟨h, _, _, _, h2⟩
    · simp at h
      obtain ⟨cs, h1, h2⟩ := hx
      simp only [RepD] at h1
      obtain ⟨fs, c, _, _, rfl⟩ := h1
      exact .inr ⟨h, _, _, _, h2⟩
    · cases h
  · split at h
    · simp at h; exact .inl ⟨h, hx.nili⟩
    · simp at h
      obtain ⟨cs, h1, h2⟩ := hx
      simp only [RepD, RepC] at h1
      obtain ⟨c, _, rfl⟩ := h1
      exact .inr ⟨h, _, _, h2⟩
    · simp at h
      obtain ⟨cs, h1, h2⟩ := hx
      simp only [RepD] at h1
      obtain ⟨c, _, rfl⟩ := h1
      exact .inr ⟨h, _, _, h2⟩
    · cases h
  · cases h

theorem equal_nil {P : Program} {t : TypeId} {e : TyI} (ht : TyOk P t e) {b : Bool} (hx : (b = true ∧ nilV e.kd vx) ∨ (b = false ∧ someV e.kd vx)) (hy : nilV e.kd vy) : (Op.equal t vx vy).run P w = .ok b w := by
  obtain ⟨d, h1, h2⟩ := ht.kd_desc
  unfold Op.equal
  rw [show Op.maxDepth = 9999 + 1 from rfl, Op.equalIn]
  simp only [Sem.run_bind, run_underlying h1, Result.andThen_ok]
  rcases hx with ⟨rfl, hx⟩ | ⟨rfl, hx⟩
  · cases d <;> simp only at h2 <;> rw [h2] at hx hy <;> simp only [nilV] at hx hy <;> subst hx <;> subst hy <;> rfl
  · cases d <;> simp only at h2 <;> rw [h2] at hx hy <;> simp only [nilV, someV] at hx hy <;> subst hy <;> (first | (obtain ⟨_, rfl⟩ := hx; rfl) | (obtain ⟨_, _, rfl⟩ := hx; rfl) | (obtain ⟨_, _, _, rfl⟩ := hx; rfl))

theorem sxNil_ok (hm : Mem C B S w0 σ η φ w) {t : TypeId} {e : TyI} (ht : TyOk C.P t e) {op : BinOp} {x y : Dat} (hx : RD B σ η φ w x vx) (hy : RD B σ η φ w y vy) {K : Dat → Prop} (h : sxNil e.kd op x y σ K no) :
    no ∨ (BinOk C.P op t vx vy w B σ η φ K ∧ isEq op = true ∧ (nilV e.kd vx ∨ someV e.kd vx) ∧ nilV e.kd vy) := by
  unfold sxNil at h
  split at h
  · rename_i h1 h2
    have g1 := isNilLit_ok h1 hy
    have g2 := nilOf_ok hm h2 hx
    have g3 := equal_nil (w := w) ht g2 g1
    refine .inr ⟨⟨_, _, h, ?_, rd_bool _⟩, rfl, g2.elim (fun h => .inl h.2) (fun h => .inr h.2), g1⟩
    have : binOp .eql t vx vy = (do pure (.bool (← Op.equal t vx vy))) := by
      generalize e.kd = kd at g1 g2
      match kd, g1 with
      | 1, h => simp only [nilV] at h; subst h; rcases g2 with ⟨_, g⟩ | ⟨_, g⟩ <;> simp only [nilV, someV] at g <;> (first | subst g | (obtain ⟨_, rfl⟩ := g)) <;> rfl
      | 2, h => simp only [nilV] at h; subst h; rcases g2 with ⟨_, g⟩ | ⟨_, g⟩ <;> simp only [nilV, someV] at g <;> (first | subst g | (obtain ⟨_, _, _, rfl⟩ := g)) <;> rfl
      | 3, h => simp only [nilV] at h; subst h; rcases g2 with ⟨_, g⟩ | ⟨_, g⟩ <;> simp only [nilV, someV] at g <;> (first | subst g | (obtain ⟨_, rfl⟩ := g)) <;> rfl
      | 4, h => simp only [nilV] at h; subst h; rcases g2 with ⟨_, g⟩ | ⟨_, g⟩ <;> simp only [nilV, someV] at g <;> (first | subst g | (obtain ⟨_, _, _, rfl⟩ := g)) <;> rfl
      | 5, h => simp only [nilV] at h; subst h; rcases g2 with ⟨_, g⟩ | ⟨_, g⟩ <;> simp only [nilV, someV] at g <;> (first | subst g | (obtain ⟨_, _, rfl⟩ := g)) <;> rfl
    rw [this]
    simp [g3]
  · rename_i h1 h2
    have g1 := isNilLit_ok h1 hy
    have g2 := nilOf_ok hm h2 hx
    have g3 := equal_nil (w := w) ht g2 g1
    refine .inr ⟨⟨_, _, h, ?_, rd_bool _⟩, rfl, g2.elim (fun h => .inl h.2) (fun h => .inr h.2), g1⟩
    have : binOp .neq t vx vy = (do pure (.bool (!(← Op.equal t vx vy)))) := by
      generalize e.kd = kd at g1 g2
      match kd, g1 with
      | 1, h => simp only [nilV] at h; subst h; rcases g2 with ⟨_, g⟩ | ⟨_, g⟩ <;> simp only [nilV, someV] at g <;> (first | subst g | (obtain ⟨_, rfl⟩ := g)) <;> rfl
      | 2, h => simp only [nilV] at h; subst h; rcases g2 with ⟨_, g⟩ | ⟨_, g⟩ <;> simp only [nilV, someV] at g <;> (first | subst g | (obtain ⟨_, _, _, rfl⟩ := g)) <;> rfl
      | 3, h => simp only [nilV] at h; subst h; rcases g2 with ⟨_, g⟩ | ⟨_, g⟩ <;> simp only [nilV, someV] at g <;> (first | subst g | (obtain ⟨_, rfl⟩ := g)) <;> rfl
      | 4, h => simp only [nilV] at h; subst h; rcases g2 with ⟨_, g⟩ | ⟨_, g⟩ <;> simp only [nilV, someV] at g <;> (first | subst g | (obtain ⟨_, _, _, rfl⟩ := g)) <;> rfl
      | 5, h => simp only [nilV] at h; subst h; rcases g2 with ⟨_, g⟩ | ⟨_, g⟩ <;> simp only [nilV, someV] at g <;> (first | subst g | (obtain ⟨_, _, rfl⟩ := g)) <;> rfl
    rw [this]
    simp [g3]
  · exact .inl h

theorem withTy_some {t : TypeId} {K : TyI → Prop} (h : withTy T t no K) : no ∨ ∃ e, tyAt t T = some e ∧ K e := by
  unfold withTy at h
  split at h
  · rename_i e he; exact .inr ⟨e, he, h⟩
  · exact .inl h
theorem withO_some {α : Type} {o : Option α} {K : α → Prop} (h : withO o no K) : no ∨ ∃ x, o = some x ∧ K x := by
  unfold withO at h
  split at h
  · rename_i x; exact .inr ⟨x, rfl, h⟩
  · exact .inl h
theorem withB_true {b : Bool} {K : Prop} (h : withB b no K) : no ∨ (b = true ∧ K) := by
  cases b
  · exact .inl h
  · exact .inr ⟨rfl, h⟩

theorem eqGuard_ok {P : Program} {op : BinOp} {t : TypeId} {x y : Operand} {kd : Nat} (hx : nilV kd vx ∨ someV kd vx) (hy : nilV kd vy) (hc : kd = 5 → y = .const .nilIface) : (eqGuard op t x y vx vy).run P w = .ok () w := by
  match kd, hy with
  | 1, h => simp only [nilV, someV] at h hx; subst h; rcases hx with rfl | ⟨_, rfl⟩ <;> simp [eqGuard]
  | 2, h => simp only [nilV, someV] at h hx; subst h; rcases hx with rfl | ⟨_, _, _, rfl⟩ <;> simp [eqGuard]
  | 3, h => simp only [nilV, someV] at h hx; subst h; rcases hx with rfl | ⟨_, rfl⟩ <;> simp [eqGuard]
  | 4, h => simp only [nilV, someV] at h hx; subst h; rcases hx with rfl | ⟨_, _, _, rfl⟩ <;> simp [eqGuard]
  | 5, h => simp only [nilV, someV] at h hx; subst h; rw [hc rfl]; rcases hx with rfl | ⟨_, _, rfl⟩ <;> simp [eqGuard]

theorem plain_nil {op : BinOp} {kd : Nat} {y : Operand} (ho : isEq op = true) (hx : nilV kd vx ∨ someV kd vx) (hy : nilV kd vy) (hc : kd = 5 → y = .const .nilIface) : (plain2 op vx vy || nilBoth op vx y) = true := by
  match kd, hy with
  | 1, h => simp only [nilV, someV] at h hx; subst h; rcases hx with rfl | ⟨_, rfl⟩ <;> simp [plain2, ho]
  | 2, h => simp only [nilV, someV] at h hx; subst h; rcases hx with rfl | ⟨_, _, _, rfl⟩ <;> simp [plain2, ho]
  | 3, h => simp only [nilV, someV] at h hx; subst h; rcases hx with rfl | ⟨_, rfl⟩ <;> simp [plain2, ho]
  | 4, h => simp only [nilV, someV] at h hx; subst h; rcases hx with rfl | ⟨_, _, _, rfl⟩ <;> simp [plain2, ho]
  | 5, h => simp only [nilV, someV] at h hx; subst h; rw [hc rfl]; rcases hx with rfl | ⟨_, _, rfl⟩ <;> simp [plain2, nilBoth, ho]

theorem sxBin_ok (hC : C.Ok T) (hm : Mem C B S w0 σ η φ w) {op : BinOp} {t : TypeId} {x y : Dat} {yo xo : Operand} (hx : RD B σ η φ w x vx) (hy : RD B σ η φ w y vy) {K : Dat → Prop} (h : sxBin T t op (isNilC yo) x y σ K no) :
    no ∨ (∃ d v, K d ∧ (do eqGuard op t xo yo vx vy; binOp op t vx vy).run C.P w = .ok v w ∧ RD B σ η φ w d v) ∧ (plain2 op vx vy || nilBoth op vx yo) = true := by
  have fin : ∀ {vx vy}, BinOk C.P op t vx vy w B σ η φ K → (eqGuard op t xo yo vx vy).run C.P w = .ok () w → (plain2 op vx vy || nilBoth op vx yo) = true → no ∨ (∃ d v, K d ∧ (do eqGuard op t xo yo vx vy; binOp op t vx vy).run C.P w = .ok v w ∧ RD B σ η φ w d v) ∧ (plain2 op vx vy || nilBoth op vx yo) = true := by
    rintro vx vy ⟨d, v, h1, h2, h3⟩ hg hp
    exact .inr ⟨⟨d, v, h1, by rw [Sem.run_bind, hg]; exact h2, h3⟩, hp⟩
  have hb : ∀ b : Bool, b = decide (b = true) := by simp
  unfold sxBin at h
  split at h
  · rcases withB_true h with h | ⟨hk, h1⟩
    · exact .inl h
    · simp at hk; subst hk
      rw [hx.int, hy.int]
      rcases sxInt_ok (w := w) (B := B) (σ := σ) (η := η) (φ := φ) (P := C.P) (t := t) h1 with h | ⟨h, h2⟩
      · exact .inl h
      · exact fin h (by rw [eqGuard_at_int]; rfl) (by simp [plain2])
  · rw [hx.str, hy.str]
    rcases sxStr_ok (w := w) (B := B) (σ := σ) (η := η) (φ := φ) (P := C.P) (t := t) h with h | h
    · exact .inl h
    · exact fin h (by rw [eqGuard_at_string]; rfl) (by simp [plain2])
  · rcases withTy_some h with h | ⟨e, he, h⟩
    · exact .inl h
    rcases withB_true h with h | ⟨hk, h⟩
    · exact .inl h
    rw [hx.bool, hy.bool]
    rcases sxBool2_ok (w := w) (B := B) (σ := σ) (η := η) (φ := φ) (P := C.P) (t := t) (hb _) (hb _) ((hC.ty he).bool_desc (Nat.eq_of_beq_eq_true hk)) h with h | ⟨h, h2⟩
    · exact .inl h
    · exact fin h (by rw [eqGuard_at_bool]; rfl) (by simp [plain2, h2])
  · rcases withTy_some h with h | ⟨e, he, h⟩
    · exact .inl h
    rcases withB_true h with h | ⟨hk, h⟩
    · exact .inl h
    rw [hx.bool, hy.prop]
    rcases sxBool2_ok (w := w) (B := B) (σ := σ) (η := η) (φ := φ) (P := C.P) (t := t) (hb _) rfl ((hC.ty he).bool_desc (Nat.eq_of_beq_eq_true hk)) h with h | ⟨h, h2⟩
    · exact .inl h
    · exact fin h (by rw [eqGuard_at_bool]; rfl) (by simp [plain2, h2])
  · rcases withTy_some h with h | ⟨e, he, h⟩
    · exact .inl h
    rcases withB_true h with h | ⟨hk, h⟩
    · exact .inl h
    rw [hx.prop, hy.bool]
    rcases sxBool2_ok (w := w) (B := B) (σ := σ) (η := η) (φ := φ) (P := C.P) (t := t) rfl (hb _) ((hC.ty he).bool_desc (Nat.eq_of_beq_eq_true hk)) h with h | ⟨h, h2⟩
    · exact .inl h
    · exact fin h (by rw [eqGuard_at_bool]; rfl) (by simp [plain2, h2])
  · rcases withTy_some h with h | ⟨e, he, h⟩
    · exact .inl h
    rcases withB_true h with h | ⟨hk, h⟩
    · exact .inl h
    rw [hx.prop, hy.prop]
    rcases sxBool2_ok (w := w) (B := B) (σ := σ) (η := η) (φ := φ) (P := C.P) (t := t) rfl rfl ((hC.ty he).bool_desc (Nat.eq_of_beq_eq_true hk)) h with h | ⟨h, h2⟩
    · exact .inl h
    · exact fin h (by rw [eqGuard_at_bool]; rfl) (by simp [plain2, h2])
  · rcases withTy_some h with h | ⟨e, he, h⟩
    · exact .inl h
    rcases withB_true h with h | ⟨hk, h⟩
    · exact .inl h
    have hc : e.kd = 5 → yo = .const .nilIface := fun h5 => by
      rw [h5] at hk
      have : isNilC yo = true := by simpa using hk
      unfold isNilC at this
      split at this
      · rfl
      · cases this
    rcases sxNil_ok hm (hC.ty he) hx hy h with h | ⟨h, h2, h3, h4⟩
    · exact .inl h
    · exact fin h (eqGuard_ok h3 h4 hc) (plain_nil h2 h3 h4 hc)

theorem sxUn_ok {P : Program} {op : UnOp} {x : Dat} (hx : RD B σ η φ w x vx) {K : Dat → Prop} (h : sxUn op x K no) : no ∨ ∃ d v, K d ∧ (Op.unary op vx).run P w = .ok v w ∧ RD B σ η φ w d v := by
  unfold sxUn at h
  split at h
  · rw [hx.bool]; exact .inr ⟨_, _, h, rfl, rd_bool _⟩
  · rw [hx.prop]; exact .inr ⟨_, _, h, by simp [Op.unary], rd_prop _ _⟩
  · rw [hx.int]; obtain ⟨m, h1, h2⟩ := h; exact .inr ⟨_, _, h2, by simp [Op.unary, Op.intArith, h1], rd_int _ _⟩
  · exact .inl h
end

end Go.Sx

namespace Go.Sx
open Go Go.RowKit Go.Reg

mutual
theorem repC_len {O : List Nat} {w : World} : ∀ (d : Da) (cs : List Value), RepC O w d cs → cs.length = d.size
  | .agg ds, cs, h => by simp only [RepC] at h; simp only [Da.size]; exact repCs_len ds cs h
  | .undef, cs, h => by simp only [RepC] at h; obtain ⟨v, rfl⟩ := h; rfl
  | .int _ _, cs, h => by simp only [RepC] at h; subst h; rfl
  | .bool _, cs, h => by simp only [RepC] at h; subst h; rfl
  | .prop _ _, cs, h => by simp only [RepC] at h; subst h; rfl
  | .str _, cs, h => by simp only [RepC] at h; subst h; rfl
  | .tuple _, cs, h => by simp only [RepC] at h; obtain ⟨_, _, rfl⟩ := h; rfl
  | .nilp, cs, h => by simp only [RepC] at h; subst h; rfl
  | .nils, cs, h => by simp only [RepC] at h; subst h; rfl
  | .nilm, cs, h => by simp only [RepC] at h; subst h; rfl
  | .nilf, cs, h => by simp only [RepC] at h; subst h; rfl
  | .nili, cs, h => by simp only [RepC] at h; subst h; rfl
  | .iface _ _, cs, h => by simp only [RepC] at h; obtain ⟨_, _, rfl⟩ := h; rfl
  | .ref _, cs, h => by simp only [RepC] at h; obtain ⟨_, _, _, rfl, _⟩ := h; rfl
  | .list _ _, cs, h => by simp only [RepC] at h; obtain ⟨_, _, _, rfl, _⟩ := h; rfl
  | .func _ _ _, cs, h => by simp only [RepC] at h; obtain ⟨_, _, _, _, rfl⟩ := h; rfl
  | .raw _, cs, h => by simp only [RepC] at h; subst h; rfl
theorem repCs_len {O : List Nat} {w : World} : ∀ (ds : List Da) (cs : List Value), RepCs O w ds cs → cs.length = sizes ds
  | [], cs, h => by simp only [RepCs] at h; subst h; rfl
  | d :: ds, cs, h => by
    simp only [RepCs] at h
    obtain ⟨c1, c2, rfl, h1, h2⟩ := h
    simp only [List.length_append, sizes, repC_len d c1 h1, repCs_len ds c2 h2]
end
mutual
theorem repD_len {η : Nat → Value} {I O : List Nat} {w : World} : ∀ (d : Dat) (cs : List Value), RepD η I O w d cs → cs.length = d.size
  | .d x, cs, h => repC_len x cs h
  | .agg ds, cs, h => by simp only [RepD] at h; simp only [Dat.size]; exact repDs_len ds cs h
  | .own _, cs, h => by simp only [RepD] at h; obtain ⟨_, rfl⟩ := h; rfl
  | .at_ _ _, cs, h => by simp only [RepD] at h; obtain ⟨_, _, _, rfl⟩ := h; rfl
  | .el _ _ _ _, cs, h => by simp only [RepD] at h; obtain ⟨_, _, _, _, _, rfl⟩ := h; rfl
  | .tuple _, cs, h => by simp only [RepD] at h; obtain ⟨_, _, rfl⟩ := h; rfl
  | .iface _ _, cs, h => by simp only [RepD] at h; obtain ⟨_, _, rfl⟩ := h; rfl
  | .func _ _ _, cs, h => by simp only [RepD] at h; obtain ⟨_, _, _, _, rfl⟩ := h; rfl
theorem repDs_len {η : Nat → Value} {I O : List Nat} {w : World} : ∀ (ds : List Dat) (cs : List Value), RepDs η I O w ds cs → cs.length = sizesD ds
  | [], cs, h => by simp only [RepDs] at h; subst h; rfl
  | d :: ds, cs, h => by
    simp only [RepDs] at h
    obtain ⟨c1, c2, rfl, h1, h2⟩ := h
    simp only [List.length_append, sizesD, repD_len d c1 h1, repDs_len ds c2 h2]
end

mutual
theorem repC_one {O : List Nat} {w : World} : ∀ (d : Da) (cs : List Value), d.stor = true → RepC O w d cs → ∀ v ∈ cs, v.oneCell' = true
  | .agg ds, cs, hs, h => by simp only [RepC] at h; simp only [Da.stor] at hs; exact repCs_one ds cs hs h
  | .undef, cs, hs, h => by cases hs
  | .int _ _, cs, hs, h => by simp only [RepC] at h; subst h; simp [Value.oneCell']
  | .bool _, cs, hs, h => by simp only [RepC] at h; subst h; simp [Value.oneCell']
  | .prop _ _, cs, hs, h => by simp only [RepC] at h; subst h; simp [Value.oneCell']
  | .str _, cs, hs, h => by simp only [RepC] at h; subst h; simp [Value.oneCell']
  | .tuple _, cs, hs, h => by cases hs
  | .nilp, cs, hs, h => by simp only [RepC] at h; subst h; simp [Value.oneCell']
  | .nils, cs, hs, h => by simp only [RepC] at h; subst h; simp [Value.oneCell']
  | .nilm, cs, hs, h => by simp only [RepC] at h; subst h; simp [Value.oneCell']
  | .nilf, cs, hs, h => by simp only [RepC] at h; subst h; simp [Value.oneCell']
  | .nili, cs, hs, h => by simp only [RepC] at h; subst h; simp [Value.oneCell']
  | .iface _ _, cs, hs, h => by simp only [RepC] at h; obtain ⟨_, _, rfl⟩ := h; simp [Value.oneCell']
  | .ref _, cs, hs, h => by simp only [RepC] at h; obtain ⟨_, _, _, rfl, _⟩ := h; simp [Value.oneCell']
  | .list _ _, cs, hs, h => by simp only [RepC] at h; obtain ⟨_, _, _, rfl, _⟩ := h; simp [Value.oneCell']
  | .func _ _ _, cs, hs, h => by simp only [RepC] at h; obtain ⟨_, _, _, _, rfl⟩ := h; simp [Value.oneCell']
  | .raw _, cs, hs, h => by cases hs
theorem repCs_one {O : List Nat} {w : World} : ∀ (ds : List Da) (cs : List Value), stors ds = true → RepCs O w ds cs → ∀ v ∈ cs, v.oneCell' = true
  | [], cs, hs, h => by simp only [RepCs] at h; subst h; simp
  | d :: ds, cs, hs, h => by
    simp only [RepCs] at h
    obtain ⟨c1, c2, rfl, h1, h2⟩ := h
    simp only [stors, Bool.and_eq_true] at hs
    intro v hv
    rcases List.mem_append.1 hv with hv | hv
    · exact repC_one d c1 hs.1 h1 v hv
    · exact repCs_one ds c2 hs.2 h2 v hv
end

/-- what the values of owned things look like -/
def OneV (η : Nat → Value) (I : List Nat) : Prop := ∀ i ∈ I, (η i).oneCell' = true
mutual
theorem repD_one {η : Nat → Value} {I O : List Nat} {w : World} (hη : OneV η I) : ∀ (d : Dat) (cs : List Value), d.stor = true → RepD η I O w d cs → ∀ v ∈ cs, v.oneCell' = true
  | .d x, cs, hs, h => repC_one x cs hs h
  | .agg ds, cs, hs, h => by simp only [RepD] at h; simp only [Dat.stor] at hs; exact repDs_one hη ds cs hs h
  | .own i, cs, hs, h => by simp only [RepD] at h; obtain ⟨h1, rfl⟩ := h; simpa using hη i h1
  | .at_ _ _, cs, hs, h => by simp only [RepD] at h; obtain ⟨_, _, _, rfl⟩ := h; simp [Value.oneCell']
  | .el _ _ _ _, cs, hs, h => by simp only [RepD] at h; obtain ⟨_, _, _, _, _, rfl⟩ := h; simp [Value.oneCell']
  | .tuple _, cs, hs, h => by cases hs
  | .iface _ _, cs, hs, h => by simp only [RepD] at h; obtain ⟨_, _, rfl⟩ := h; simp [Value.oneCell']
  | .func _ _ _, cs, hs, h => by simp only [RepD] at h; obtain ⟨_, _, _, _, rfl⟩ := h; simp [Value.oneCell']
theorem repDs_one {η : Nat → Value} {I O : List Nat} {w : World} (hη : OneV η I) : ∀ (ds : List Dat) (cs : List Value), storsD ds = true → RepDs η I O w ds cs → ∀ v ∈ cs, v.oneCell' = true
  | [], cs, hs, h => by simp only [RepDs] at h; subst h; simp
  | d :: ds, cs, hs, h => by
    simp only [RepDs] at h
    obtain ⟨c1, c2, rfl, h1, h2⟩ := h
    simp only [storsD, Bool.and_eq_true] at hs
    intro v hv
    rcases List.mem_append.1 hv with hv | hv
    · exact repD_one hη d c1 hs.1 h1 v hv
    · exact repDs_one hη ds c2 hs.2 h2 v hv
end

theorem toV_cells {O : List Nat} {w : World} {d : Da} {cs : List Value} (h : RepC O w d cs) (hs : d.stor = true) : (toV d cs).cells.toList = cs ∧ (d.isAgg = false → cs = [toV d cs]) := by
  have hl := repC_len d cs h
  have ho := repC_one d cs hs h
  cases d with
  | agg ds => exact ⟨by simp [toV, Value.cells], fun h => by cases h⟩
  | _ =>
    all_goals
      simp only [Da.size] at hl
      obtain ⟨v, rfl⟩ := List.length_eq_one_iff.1 hl
      have := ho v (by simp)
      refine ⟨?_, fun _ => rfl⟩
      simp only [toV, List.headD_cons]
      cases v <;> simp [Value.oneCell'] at this <;> rfl
theorem toVD_cells {η : Nat → Value} {I O : List Nat} {w : World} {d : Dat} {cs : List Value} (hη : OneV η I) (h : RepD η I O w d cs) (hs : d.stor = true) : (toVD d cs).cells.toList = cs ∧ (d.isAgg = false → cs = [toVD d cs]) := by
  have hl := repD_len d cs h
  have ho := repD_one hη d cs hs h
  cases d with
  | d x => exact toV_cells h hs
  | agg ds => exact ⟨by simp [toVD, Value.cells], fun h => by cases h⟩
  | _ =>
    all_goals
      simp only [Dat.size] at hl
      obtain ⟨v, rfl⟩ := List.length_eq_one_iff.1 hl
      have := ho v (by simp)
      refine ⟨?_, fun _ => rfl⟩
      simp only [toVD, List.headD_cons]
      cases v <;> simp [Value.oneCell'] at this <;> rfl

theorem run_loadVar_ok {P : Program} {t : TypeId} {e : TyI} (h : TyOk P t e) {w : World} {b o : Nat} {cs : List Value} (hc : Cells w b o cs) (hl : cs.length = e.size) (hs : e.agg = false → e.size = 1) :
    (loadVar t ⟨b, o, none⟩).run P w = .ok (if e.agg then .agg cs.toArray else cs.headD undef) w := by
  unfold loadVar
  simp only [Sem.run_bind, h.isAgg, Result.andThen_ok]
  cases ha : e.agg
  · have h1 := hs ha
    rw [h1] at hl
    obtain ⟨v, rfl⟩ := List.length_eq_one_iff.1 hl
    have h2 : w.cell? ⟨b, o, none⟩ = some v := hc 0 v rfl
    simp [h2]
  · have := run_loadCells_list (P := P) w ⟨b, o, none⟩ cs (fun j v hj => by
      have := hc j v hj
      by_cases hj0 : j = 0
      · subst hj0; exact this
      · simpa [Addr.add, hj0] using this)
    rw [hl] at this
    simp only [if_true, Sem.run_bind, h.sizeOf, Result.andThen_ok, this, Sem.run_pure]

theorem fits_spec {d : Da} {e : TyI} (h : d.fits e = true) : d.isAgg = e.agg ∧ d.size = e.size := by
  simp only [Da.fits, Bool.and_eq_true, beq_iff_eq] at h
  exact ⟨h.1, Nat.eq_of_beq_eq_true h.2⟩
theorem fitsD_spec {d : Dat} {e : TyI} (h : d.fits e = true) : d.isAgg = e.agg ∧ d.size = e.size := by
  simp only [Dat.fits, Bool.and_eq_true, beq_iff_eq] at h
  exact ⟨h.1, Nat.eq_of_beq_eq_true h.2⟩
theorem size_one {d : Da} (h : d.isAgg = false) : d.size = 1 := by
  cases d <;> first | rfl | cases h
theorem sizeD_one {d : Dat} (h : d.isAgg = false) : d.size = 1 := by
  cases d with
  | d x => exact size_one h
  | agg ds => cases h
  | _ => rfl
theorem toVD_load {d : Dat} {cs : List Value} : toVD d cs = if d.isAgg then .agg cs.toArray else cs.headD undef := by
  cases d with
  | d x => cases x <;> rfl
  | _ => rfl

theorem repDs_datas {η : Nat → Value} {I O : List Nat} {w : World} : ∀ {xs : List Da} {cs : List Value}, RepDs η I O w (datas xs) cs ↔ RepCs O w xs cs
  | [], cs => by simp [datas, RepDs, RepCs]
  | x :: xs, cs => by simp only [datas, RepDs, RepCs, RepD, repDs_datas (xs := xs)]
theorem parts_rep {η : Nat → Value} {I O : List Nat} {w : World} {d : Dat} {es : List Dat} {cs : List Value} (h : d.parts = some es) (hd : RepD η I O w d cs) : RepDs η I O w es cs ∧ d.isAgg = true := by
  unfold Dat.parts at h
  split at h
  · simp at h; subst h; exact ⟨repDs_datas.2 (by simpa only [RepD, RepC] using hd), rfl⟩
  · simp at h; subst h; exact ⟨by simpa only [RepD] using hd, rfl⟩
  · cases h

theorem lookAt_ok {η : Nat → Value} {I O : List Nat} {w : World} {e : TyI} : ∀ (f : Nat) (ds : List Dat) (o : Nat) {d : Dat} {cs : List Value}, lookAt e f ds o = some d → RepDs η I O w ds cs → d.fits e = true ∧ ∃ c, RepD η I O w d c ∧ ∀ (j : Nat) (u : Value), c[j]? = some u → cs[o + j]? = some u
  | 0, _, _, _, _, h, _ => by simp [lookAt] at h
  | f + 1, [], _, _, _, h, _ => by simp [lookAt] at h
  | f + 1, d :: ds, o, x, cs, h, hr => by
    simp only [RepDs] at hr
    obtain ⟨c1, c2, rfl, h1, h2⟩ := hr
    have hl := repD_len d c1 h1
    simp only [lookAt] at h
    split at h
    · rename_i hb
      have hlt : ¬ o < d.size := by
        intro hh; rw [(by simpa [Nat.blt_eq] using hh : Nat.blt o d.size = true)] at hb; cases hb
      obtain ⟨g1, c, g2, g3⟩ := lookAt_ok f ds _ h h2
      refine ⟨g1, c, g2, fun j u hj => ?_⟩
      rw [List.getElem?_append_right (by omega), hl]
      have := g3 j u hj
      rwa [show o + j - d.size = o - d.size + j by omega]
    · split at h
      · rename_i hb2
        simp only [Bool.and_eq_true] at hb2
        have h0 := Nat.eq_of_beq_eq_true hb2.1
        simp at h; subst h; subst h0
        exact ⟨hb2.2, c1, h1, fun j u hj => by rw [List.getElem?_append_left (by have := (List.getElem?_eq_some_iff.1 hj).1; omega), Nat.zero_add]; exact hj⟩
      · split at h
        · rename_i es hp
          obtain ⟨g1, c, g2, g3⟩ := lookAt_ok f es o h (parts_rep hp h1).1
          refine ⟨g1, c, g2, fun j u hj => ?_⟩
          have := g3 j u hj
          rw [List.getElem?_append_left (List.getElem?_eq_some_iff.1 this).1]
          exact this
        · cases h

/-- cells with others put over them -/
def splice (cs : List Value) (o : Nat) (x : List Value) : List Value := cs.take o ++ x ++ cs.drop (o + x.length)
theorem splice_left {c1 c2 x : List Value} {o : Nat} (h : o + x.length ≤ c1.length) : splice (c1 ++ c2) o x = splice c1 o x ++ c2 := by
  unfold splice
  rw [List.take_append_of_le_length (by omega), List.drop_append_of_le_length h]
  simp [List.append_assoc]
theorem splice_right {c1 c2 x : List Value} {o : Nat} (h : c1.length ≤ o) : splice (c1 ++ c2) o x = c1 ++ splice c2 (o - c1.length) x := by
  unfold splice
  rw [List.take_append, List.drop_append, List.take_of_length_le (by omega), List.drop_of_length_le (by omega : c1.length ≤ o + x.length), show o + x.length - c1.length = o - c1.length + x.length by omega]
  simp [List.append_assoc]

theorem putAt_ok {η : Nat → Value} {I O : List Nat} {w : World} {x : Dat} {cx : List Value} (hx : RepD η I O w x cx) : ∀ (f : Nat) (ds : List Dat) (o : Nat) {ds' : List Dat} {cs : List Value}, putAt x f ds o = some ds' → RepDs η I O w ds cs → RepDs η I O w ds' (splice cs o cx) ∧ o + cx.length ≤ cs.length
  | 0, _, _, _, _, h, _ => by simp [putAt] at h
  | f + 1, [], _, _, _, h, _ => by simp [putAt] at h
  | f + 1, d :: ds, o, ds', cs, h, hr => by
    simp only [RepDs] at hr
    obtain ⟨c1, c2, rfl, h1, h2⟩ := hr
    have hl := repD_len d c1 h1
    have hlx := repD_len x cx hx
    simp only [putAt] at h
    split at h
    · rename_i hb
      have hlt : ¬ o < d.size := by
        intro hh; rw [(by simpa [Nat.blt_eq] using hh : Nat.blt o d.size = true)] at hb; cases hb
      unfold consO at h
      split at h
      · rename_i l hp
        simp at h; subst h
        obtain ⟨g1, g2⟩ := putAt_ok hx f ds _ hp h2
        rw [splice_right (by omega), hl]
        refine ⟨?_, by simp; omega⟩
        simp only [RepDs]
        exact ⟨c1, _, rfl, h1, g1⟩
      · cases h
    · split at h
      · rename_i hb2
        simp only [Bool.and_eq_true, beq_iff_eq] at hb2
        obtain ⟨⟨h0, _⟩, h3⟩ := hb2
        have h0 := Nat.eq_of_beq_eq_true h0
        have h3 := Nat.eq_of_beq_eq_true h3
        simp at h; subst h; subst h0
        have : splice (c1 ++ c2) 0 cx = cx ++ c2 := by
          unfold splice
          rw [List.drop_append, List.drop_of_length_le (by omega)]
          simp
          rw [show cx.length - c1.length = 0 by omega]; rfl
        rw [this]
        refine ⟨?_, by simp; omega⟩
        simp only [RepDs]
        exact ⟨cx, c2, rfl, hx, h2⟩
      · split at h
        · rename_i es hp
          unfold aggO at h
          split at h
          · rename_i l hp2
            simp at h; subst h
            obtain ⟨g1, g2⟩ := putAt_ok hx f es o hp2 (parts_rep hp h1).1
            rw [splice_left (by omega)]
            refine ⟨?_, by simp; omega⟩
            simp only [RepDs, RepD]
            exact ⟨_, c2, rfl, g1, h2⟩
          · cases h
        · cases h

theorem Blk.splice {P : Program} {w : World} {b : Nat} {T : TypeId} {cs x : List Value} {o : Nat} (h : Blk w b T cs) (hl : o + x.length ≤ cs.length) (h1 : ∀ v ∈ x, v.oneCell' = true) :
    ∃ w', (storeCells ⟨b, o, none⟩ x).run P w = .ok () w' ∧ Blk w' b T (splice cs o x) ∧ Tch [b] w w' := by
  have := run_storeCells_at P b o T x 0 cs.toArray w h (by simpa using hl) h1
  refine ⟨_, this, ?_, ?_⟩
  · have e := setRow_heap w b cs.toArray (cs.toArray.toList.take (o + 0) ++ x ++ cs.toArray.toList.drop (o + 0 + x.length)).toArray T (0, 0) h
    unfold Blk; rw [e]; simp [Sx.splice]
  · exact ⟨rfl, rfl, rfl, by simp [World.setRow], fun k hk hn => by
      have : b ≠ k := fun e => hn (by simp [e])
      simp [World.setRow, Array.getElem?_modify, this]⟩

end Go.Sx

namespace Go.Sx
open Go Go.RowKit Go.Reg

theorem repCss_at {O : List Nat} {w : World} : ∀ {ds : List Da} {css : List (List Value)}, RepCss O w ds css → ∀ {n : Nat} {d : Da}, ds[n]? = some d → ∃ c, css[n]? = some c ∧ RepC O w d c
  | [], css, h, n, d, hn => by simp at hn
  | x :: ds, css, h, n, d, hn => by
    simp only [RepCss] at h
    obtain ⟨c1, c2, rfl, h1, h2⟩ := h
    cases n with
    | zero => simp at hn; subst hn; exact ⟨c1, rfl, h1⟩
    | succ n => exact repCss_at h2 (by simpa using hn)
theorem repCss_append {O : List Nat} {w : World} : ∀ {ds es : List Da} {css css2 : List (List Value)}, RepCss O w ds css → RepCss O w es css2 → RepCss O w (ds ++ es) (css ++ css2)
  | [], es, css, css2, h, h2 => by simp only [RepCss] at h; subst h; simpa using h2
  | x :: ds, es, css, css2, h, h2 => by
    simp only [RepCss] at h
    obtain ⟨c1, c2, rfl, h1, h3⟩ := h
    exact ⟨c1, c2 ++ css2, rfl, h1, repCss_append h3 h2⟩
theorem repCss_set {O : List Nat} {w : World} : ∀ {ds : List Da} {css : List (List Value)}, RepCss O w ds css → ∀ (n : Nat) {d : Da} {c : List Value}, RepC O w d c → RepCss O w (ds.set n d) (css.set n c)
  | [], css, h, n, d, c, hc => by simp only [RepCss] at h; subst h; simp [RepCss]
  | x :: ds, css, h, n, d, c, hc => by
    simp only [RepCss] at h
    obtain ⟨c1, c2, rfl, h1, h2⟩ := h
    cases n with
    | zero => exact ⟨c, c2, rfl, hc, h2⟩
    | succ n => exact ⟨c1, c2.set n c, rfl, h1, repCss_set h2 n hc⟩
theorem repCss_take {O : List Nat} {w : World} : ∀ {ds : List Da} {css : List (List Value)}, RepCss O w ds css → ∀ n, RepCss O w (ds.take n) (css.take n)
  | [], css, h, n => by simp only [RepCss] at h; subst h; simp [RepCss]
  | x :: ds, css, h, n => by
    simp only [RepCss] at h
    obtain ⟨c1, c2, rfl, h1, h2⟩ := h
    cases n with
    | zero => simp [RepCss]
    | succ n => exact ⟨c1, c2.take n, rfl, h1, repCss_take h2 n⟩
theorem repCss_drop {O : List Nat} {w : World} : ∀ {ds : List Da} {css : List (List Value)}, RepCss O w ds css → ∀ n, RepCss O w (ds.drop n) (css.drop n)
  | [], css, h, n => by simp only [RepCss] at h; subst h; simp [RepCss]
  | x :: ds, css, h, n => by
    simp only [RepCss] at h
    obtain ⟨c1, c2, rfl, h1, h2⟩ := h
    cases n with
    | zero => exact ⟨c1, c2, rfl, h1, h2⟩
    | succ n => exact repCss_drop h2 n

theorem flat_get {k : Nat} : ∀ {css : List (List Value)}, (∀ x ∈ css, x.length = k) → ∀ {n : Nat} {c : List Value}, css[n]? = some c → ∀ {j : Nat} {u : Value}, c[j]? = some u → css.flatten[n * k + j]? = some u
  | [], h, n, c, hn, j, u, hj => by simp at hn
  | x :: css, h, n, c, hn, j, u, hj => by
    have hx := h x (by simp)
    cases n with
    | zero =>
      simp at hn; subst hn
      have := (List.getElem?_eq_some_iff.1 hj).1
      simp only [List.flatten_cons, Nat.zero_mul, Nat.zero_add]
      rw [List.getElem?_append_left (by omega)]; exact hj
    | succ n =>
      simp only [List.flatten_cons]
      rw [List.getElem?_append_right (by rw [hx, Nat.add_mul]; omega), hx, show (n + 1) * k + j - k = n * k + j by rw [Nat.add_mul]; omega]
      exact flat_get (fun y hy => h y (by simp [hy])) (by simpa using hn) hj
theorem flat_len {k : Nat} : ∀ {css : List (List Value)}, (∀ x ∈ css, x.length = k) → css.flatten.length = css.length * k
  | [], h => by simp
  | x :: css, h => by
    have ih := flat_len (css := css) (fun y hy => h y (List.mem_cons_of_mem _ hy))
    simp only [List.flatten_cons, List.length_append, List.length_cons, h x (by simp), ih, Nat.add_mul]; omega
theorem flat_one {k : Nat} {css : List (List Value)} (h : ∀ x ∈ css, RowOk k x) : ∀ v ∈ css.flatten, v.oneCell' = true := fun v hv => by
  obtain ⟨x, hx, hv⟩ := List.mem_flatten.1 hv
  exact (h x hx).2 v hv
theorem flatMap_id (css : List (List Value)) : css.flatMap id = css.flatten := by simp [List.flatMap]
theorem flat_drop {k : Nat} : ∀ {css : List (List Value)}, (∀ x ∈ css, x.length = k) → ∀ n, (css.drop n).flatten = css.flatten.drop (n * k)
  | [], h, n => by simp
  | x :: css, h, 0 => by simp
  | x :: css, h, n + 1 => by
    have hx := h x (by simp)
    simp only [List.drop_succ_cons, List.flatten_cons]
    have e : x.drop ((n + 1) * k) = [] := List.drop_of_length_le (by rw [hx, Nat.add_mul]; omega)
    rw [flat_drop (fun y hy => h y (by simp [hy])) n, List.drop_append, e, List.nil_append, hx, show (n + 1) * k - k = n * k by rw [Nat.add_mul]; omega]

theorem Cells.mono {w : World} {b o : Nat} {cs : List Value} {m : Nat} {x : List Value} (h : Cells w b o cs) (hx : ∀ (j : Nat) (u : Value), x[j]? = some u → cs[m + j]? = some u) : Cells w b (o + m) x := fun j u hj => by
  have := h (m + j) u (hx j u hj)
  rwa [← Nat.add_assoc] at this

section
variable {C : Cx} {T : Tab} {B S : List Nat} {w0 w : World} {n : Nat} {fr : Fr} {σ : Sg} {η : Nat → Value} {φ : Nat → List Nat} {a : Act} {v vx vy : Value} {no : Prop}

theorem Mem.oneV (h : Mem C B S w0 σ η φ w) : OneV η (ids σ) := by
  intro i hi
  obtain ⟨p, hp, rfl⟩ := List.mem_map.1 hi
  have := h.own p hp
  cases ho : p.2 with
  | cells t ds => rw [ho] at this; obtain ⟨b, cs, h1, _⟩ := this; rw [h1]; rfl
  | slice E k ds =>
    rw [ho] at this
    obtain ⟨css, hs, _⟩ := this
    rcases hs.shape with ⟨he, _⟩ | ⟨g, c, he, _⟩ <;> rw [he] <;> rfl
  | abs R k l o => rw [ho] at this; exact o _ _ _ this
  | ghost vs ds => rw [ho] at this; obtain ⟨h1, _⟩ := this; rw [h1]; rfl

theorem sl_cells {E k : Nat} {css : List (List Value)} (h : Sl E k id w v css) {g l c : Nat} (hv : v = .slice (some ⟨g, 0, none⟩) l c) : Cells w g 0 css.flatten := by
  intro j u hj
  have := World.ownsRow.cells h (g := g) (by rw [hv]; rfl) j u (by rw [flatMap_id]; exact hj)
  simpa [Addr.add_lit] using this

theorem RD.force {d : Dat} {K : Dat → Prop} (h : force d K) : K d := by rwa [force_eq] at h

theorem allD_datas : ∀ {ds : List Dat} {xs : List Da}, allD ds = some xs → ds = datas xs
  | [], xs, h => by simp [allD] at h; subst h; rfl
  | .d x :: ds, xs, h => by
    simp only [allD] at h
    split at h
    · rename_i ys hy; simp at h; subst h; simp [datas, allD_datas hy]
    · cases h
  | .own _ :: ds, xs, h => by simp [allD] at h
  | .at_ _ _ :: ds, xs, h => by simp [allD] at h
  | .el _ _ _ _ :: ds, xs, h => by simp [allD] at h
  | .agg _ :: ds, xs, h => by simp [allD] at h
  | .tuple _ :: ds, xs, h => by simp [allD] at h
  | .iface _ _ :: ds, xs, h => by simp [allD] at h
  | .func _ _ _ :: ds, xs, h => by simp [allD] at h
theorem rd_mkAgg {ds : List Dat} {cs : List Value} (h : RepDs η (ids σ) (B ++ blocks φ σ) w ds cs) : RD B σ η φ w (mkAgg ds) (.agg cs.toArray) := by
  unfold mkAgg
  split
  · rename_i xs hxs
    rw [allD_datas hxs] at h
    exact ⟨cs, by simp only [RepD, RepC]; exact repDs_datas.1 h, rfl⟩
  · exact ⟨cs, by simpa only [RepD] using h, rfl⟩
theorem cellsOf_rep {η : Nat → Value} {I O : List Nat} {w : World} {d : Dat} {cs : List Value} (h : RepD η I O w d cs) : RepDs η I O w d.cellsOf cs := by
  have one : ∀ {d : Dat}, RepD η I O w d cs → RepDs η I O w [d] cs := fun h => by simp only [RepDs]; exact ⟨cs, [], by simp, h, rfl⟩
  unfold Dat.cellsOf
  split
  · exact repDs_datas.2 (by simpa only [RepD, RepC] using h)
  · simpa only [RepD] using h
  · exact one h

theorem sxLoad_ok (hC : C.Ok T) (hm : Mem C B S w0 σ η φ w) {t : TypeId} {x : Dat} (hx : RD B σ η φ w x vx) {K : Dat → Prop} (h : sxLoad T t x σ K no) : no ∨ ∃ d v, K d ∧ (Instr.loadAt t vx).run C.P w = .ok v w ∧ RD B σ η φ w d v := by
  unfold sxLoad at h
  rcases withTy_some h with h | ⟨e, he, h⟩
  · exact .inl h
  have ht := hC.ty he
  have key : ∀ {d : Dat} {cs : List Value} {b o : Nat}, d.fits e = true → RepD η (ids σ) (B ++ blocks φ σ) w d cs → Cells w b o cs → vx = .pointer (some ⟨b, o, none⟩) → ∃ v, (Instr.loadAt t vx).run C.P w = .ok v w ∧ RD B σ η φ w d v := by
    intro d cs b o hf hr hc hv
    obtain ⟨g1, g2⟩ := fitsD_spec hf
    have hl := repD_len d cs hr
    refine ⟨_, ?_, cs, hr, rfl⟩
    rw [hv, toVD_load, g1]
    simp only [Instr.loadAt, Instr.sureAddr, Sem.run_bind, Sem.run_pure, Result.andThen_ok]
    exact run_loadVar_ok ht hc (by omega) (fun hh => by rw [← g2]; exact sizeD_one (by rw [g1]; exact hh))
  split at h
  · rcases withB_true h with h | ⟨hf, h⟩
    · exact .inl h
    obtain ⟨cs, h1, h2⟩ := hx
    simp only [RepD, RepC] at h1
    obtain ⟨b, o, c, rfl, _, _, h4, h5⟩ := h1
    obtain ⟨v, g1, g2⟩ := key (d := .d _) (cs := c) hf (by simpa only [RepD] using h4) h5 h2
    exact .inr ⟨_, v, h, g1, g2⟩
  · rcases withO_some h with h | ⟨ow, hg, h⟩
    · exact .inl h
    split at h
    · obtain ⟨b, cs, e1, _, hb, hr⟩ := own_cells_val hm hg
      obtain ⟨cs', h1, h2⟩ := hx
      simp only [RepD] at h1
      obtain ⟨_, rfl⟩ := h1
      split at h
      · rename_i hcond
        simp only [Bool.and_eq_true] at hcond
        rcases withB_true h with h | ⟨hsz, h⟩
        · exact .inl h
        have hsz := Nat.eq_of_beq_eq_true hsz
        have hl := repDs_len _ _ hr
        refine .inr ⟨_, _, RD.force h, ?_, rd_mkAgg hr⟩
        rw [show vx = .pointer (some ⟨b, 0, none⟩) from h2.trans (by rw [e1]; rfl)]
        simp only [Instr.loadAt, Instr.sureAddr, Sem.run_bind, Sem.run_pure, Result.andThen_ok]
        have := run_loadVar_ok ht (w := w) (b := b) (o := 0) (cs := cs) (fun j u hj => by have := hb.cell hj; simpa using this) (by omega) (fun hh => by rw [hcond.2] at hh; cases hh)
        rw [this, hcond.2]; rfl
      rcases withO_some h with h | ⟨d, hd, h⟩
      · exact .inl h
      obtain ⟨g1, c, g2, g3⟩ := lookAt_ok _ _ _ hd hr
      obtain ⟨v, g4, g5⟩ := key g1 g2 (Cells.mono (o := 0) (cs := cs) (fun j u hj => by have := hb.cell hj; simpa using this) g3) (h2.trans (by rw [e1]; rfl))
      exact .inr ⟨_, v, RD.force h, g4, g5⟩
    · exact .inl h
  · rcases withO_some h with h | ⟨ow, hg, h⟩
    · exact .inl h
    split at h
    · rcases withO_some h with h | ⟨d, hd, h⟩
      · exact .inl h
      obtain ⟨b, cs, e1, _, hb, hr⟩ := own_cells_val hm hg
      obtain ⟨cs', h1, h2⟩ := hx
      simp only [RepD] at h1
      obtain ⟨_, b', e2, rfl⟩ := h1
      rw [e1] at e2
      cases e2
      obtain ⟨g1, c, g2, g3⟩ := lookAt_ok _ _ _ hd hr
      obtain ⟨v, g4, g5⟩ := key g1 g2 (Cells.mono (o := 0) (cs := cs) (fun j u hj => by have := hb.cell hj; simpa using this) g3) (h2.trans (by simp [toVD]))
      exact .inr ⟨_, v, RD.force h, g4, g5⟩
    · exact .inl h
  · rcases withO_some h with h | ⟨ow, hg, h⟩
    · exact .inl h
    split at h
    · rename_i i k0 m off _ _ _ E k ds
      rcases withB_true h with h | ⟨hk0, d0, hd0, h⟩
      · exact .inl h
      have hk0 := Nat.eq_of_beq_eq_true hk0
      rcases withO_some h with h | ⟨d, hd, h⟩
      · exact .inl h
      obtain ⟨css, hs, _, hr, hk⟩ := own_slice_val hm hg
      obtain ⟨cs', h1, h2⟩ := hx
      simp only [RepD] at h1
      obtain ⟨_, b', l, c', e2, rfl⟩ := h1
      obtain ⟨c0, hc0, hr0⟩ := repCss_at hr hd0
      obtain ⟨g1, c, g2, g3⟩ := lookAt_ok _ _ _ hd (cs := c0) (by simp only [RepDs, RepD]; exact ⟨c0, [], by simp, hr0, rfl⟩)
      obtain ⟨v, g4, g5⟩ := key g1 g2 (b := b') (o := 0 + (m * k + off)) (Cells.mono (o := 0) (sl_cells hs e2) (fun j u hj => by
        rw [Nat.add_assoc]; exact flat_get (fun x hx => (hk x hx).1) hc0 (g3 j u hj))) (h2.trans (by simp [toVD, hk0]))
      exact .inr ⟨_, v, RD.force h, g4, g5⟩
    · exact .inl h
  · exact .inl h

/-! ### stores -/
theorem flat_splice {k off : Nat} {x : List Value} : ∀ {css : List (List Value)}, (∀ y ∈ css, y.length = k) → ∀ {n : Nat} {c : List Value}, css[n]? = some c → off + x.length ≤ k → splice css.flatten (n * k + off) x = (css.set n (splice c off x)).flatten
  | [], h, n, c, hn, hl => by simp at hn
  | y :: css, h, n, c, hn, hl => by
    have hy := h y (by simp)
    cases n with
    | zero =>
      simp at hn; subst hn
      simp only [List.flatten_cons, List.set_cons_zero, Nat.zero_mul, Nat.zero_add]
      exact splice_left (by omega)
    | succ n =>
      simp only [List.flatten_cons, List.set_cons_succ]
      rw [splice_right (by rw [hy, Nat.add_mul]; omega), hy, show (n + 1) * k + off - k = n * k + off by rw [Nat.add_mul]; omega]
      rw [flat_splice (fun z hz => h z (List.mem_cons_of_mem _ hz)) (by simpa using hn) hl]
theorem splice_len {cs x : List Value} {o : Nat} (h : o + x.length ≤ cs.length) : (splice cs o x).length = cs.length := by
  unfold splice; simp; omega
theorem splice_take {cs x : List Value} {o m : Nat} (h : o + x.length ≤ m) (hm : m ≤ cs.length) : (splice cs o x).take m = splice (cs.take m) o x := by
  have hl : (cs.take m).length = m := by simp; omega
  have e := splice_left (c1 := cs.take m) (c2 := cs.drop m) (x := x) (o := o) (by omega)
  rw [List.take_append_drop] at e
  rw [e]
  have := splice_len (cs := cs.take m) (x := x) (o := o) (by omega)
  rw [List.take_append_of_le_length (by omega), List.take_of_length_le (by omega)]
theorem splice_one {cs x : List Value} {o : Nat} (h1 : ∀ v ∈ cs, v.oneCell' = true) (h2 : ∀ v ∈ x, v.oneCell' = true) : ∀ v ∈ splice cs o x, v.oneCell' = true := by
  intro v hv
  unfold splice at hv
  rcases List.mem_append.1 hv with hv | hv
  · rcases List.mem_append.1 hv with hv | hv
    · exact h1 v (List.mem_of_mem_take hv)
    · exact h2 v hv
  · exact h1 v (List.mem_of_mem_drop hv)

theorem Sl.spliceAt {P : Program} {E k : Nat} {css : List (List Value)} (hk : ∀ x ∈ css, RowOk k x) (h : Sl E k id w v css) {g l c : Nat} (hv : v = .slice (some ⟨g, 0, none⟩) l c) {m off : Nat} {c0 x : List Value} (hm : css[m]? = some c0) (hl : off + x.length ≤ k) (h1 : ∀ u ∈ x, u.oneCell' = true) :
    ∃ w', (storeCells ⟨g, m * k + off, none⟩ x).run P w = .ok () w' ∧ Sl E k id w' v (css.set m (splice c0 off x)) ∧ Tch [g] w w' := by
  have hk' : ∀ y ∈ css, y.length = k := fun y hy => (hk y hy).1
  have hfl : css.flatten.length = css.length * k := flat_len hk'
  have hml : m < css.length := (List.getElem?_eq_some_iff.1 hm).1
  have hmk : m * k + k ≤ css.length * k := by rw [← Nat.succ_mul]; exact Nat.mul_le_mul_right k hml
  rcases h.2 with ⟨hn, _⟩ | ⟨g', cap, cur, he, _, hg, hc, hcm, hcs, ht⟩
  · rw [hn] at hv; cases hv
  · rw [he] at hv; cases hv
    rw [flatMap_id] at ht
    have hle : css.length * k ≤ cur.size := by rw [hcs]; exact Nat.mul_le_mul_right k hc
    have hr := run_storeCells_at P g (m * k + off) E x 0 cur w hg (by omega) h1
    refine ⟨_, hr, ⟨?_, .inr ⟨g, c, (splice cur.toList (m * k + off) x).toArray, ?_, Nat.zero_le _, ?_, by simpa using hc, hcm, ?_, ?_⟩⟩, ?_⟩
    · rw [flatMap_id, ← flat_splice hk' hm hl, splice_len (by omega), hfl]; simp
    · rw [he]; simp
    · have e := setRow_heap w g cur (cur.toList.take (m * k + off + 0) ++ x ++ cur.toList.drop (m * k + off + 0 + x.length)).toArray E (0, 0) hg
      rw [e]; simp [splice]
    · simp only [List.size_toArray, splice_len (cs := cur.toList) (x := x) (o := m * k + off) (by simp; omega)]; simpa using hcs
    · rw [flatMap_id, ← flat_splice hk' hm hl, List.length_set, ← ht]
      exact splice_take (by omega) (by simpa using hle)
    · exact ⟨rfl, rfl, rfl, by simp [World.setRow], fun j hj hn => by
        have : g ≠ j := fun e => hn (by simp [e])
        simp [World.setRow, Array.getElem?_modify, this]⟩

theorem upd_self {α : Type} (f : Nat → α) (i : Nat) : upd f i (f i) = f := by funext j; by_cases h : j = i <;> simp [upd, h]

/-- what a step in place leaves -/
def Turned (C : Cx) (B S : List Nat) (w0 : World) (σ σ' : Sg) (η : Nat → Value) (φ : Nat → List Nat) (w w' : World) : Prop :=
  Mem C B S w0 σ' η φ w' ∧ Later (B ++ blocks φ σ) w (B ++ blocks φ σ') w' ∧ ids σ' = ids σ

theorem Turned.frame {σ' : Sg} {w' : World} (h : Turned C B S w0 σ σ' η φ w w') {fr : Fr} {a : Act} (hf : FrRep η (ids σ) (B ++ blocks φ σ) w fr a) : FrRep η (ids σ') (B ++ blocks φ σ') w' fr a :=
  hf.later h.2.1 (fun i hi => ⟨by rw [h.2.2]; exact hi, rfl⟩)

theorem turned_cells (hm : Mem C B S w0 σ η φ w) {i : Nat} {t : TypeId} {ds ds' : List Dat} (hg : sget i σ = some (.cells t ds)) {b : Nat} {cs' : List Value} {w' : World} (he : η i = .pointer (some ⟨b, 0, none⟩)) (hf : φ i = [b]) (hr : RepDs η (ids σ) (B ++ blocks φ σ) w ds' cs') (hb : Blk w' b t cs') (ht : Tch [b] w w') :
    Turned C B S w0 σ (sturn id i (.cells t ds') σ) η φ w w' := by
  have hi := mem_ids (sget_mem hg)
  have hX : ∀ x ∈ [b], x ∈ φ i := fun x hx => by rw [hf]; exact hx
  have hF : ∀ x ∈ φ i, x ∈ φ i ∨ w.heap.size ≤ x := fun x hx => .inl hx
  have hl := Later.turn (σ := σ) B ht hX hi hF id (.cells t ds')
  have hM := hm.turnSame (o := .cells t ds') ht hX hi hF (by
    exact ⟨b, cs', he, hf, hb, RepDs.later hl (fun j hj => ⟨hj, rfl⟩) _ _ hr⟩)
  rw [upd_self] at hM hl
  exact ⟨hM, hl, ids_sturn _ _ _ _⟩

theorem sxStore_ok (hC : C.Ok T) (hm : Mem C B S w0 σ η φ w) {t : TypeId} {x d : Dat} (hx : RD B σ η φ w x vx) (hd : RD B σ η φ w d vy) {K : Sg → Prop} (h : sxStore T t x d σ K no) :
    no ∨ ∃ σ' w', K σ' ∧ (Instr.storeAt t vx vy).run C.P w = .ok () w' ∧ Turned C B S w0 σ σ' η φ w w' := by
  unfold sxStore at h
  rcases withTy_some h with h | ⟨e, he, h⟩
  · exact .inl h
  have ht := hC.ty he
  rcases withB_true h with h | ⟨hb, h⟩
  · exact .inl h
  simp only [Bool.and_eq_true] at hb
  obtain ⟨hf, hst⟩ := hb
  obtain ⟨f1, f2⟩ := fitsD_spec hf
  obtain ⟨cx, hcx, rfl⟩ := hd
  have hcl := (toVD_cells hm.oneV hcx hst).1
  have hone := repD_one hm.oneV d cx hst hcx
  have hlx := repD_len d cx hcx
  have store : ∀ {b o : Nat} {w' : World}, vx = .pointer (some ⟨b, o, none⟩) → (storeCells ⟨b, o, none⟩ cx).run C.P w = .ok () w' → (Instr.storeAt t vx (toVD d cx)).run C.P w = .ok () w' := by
    intro b o w' hv hr
    have hsz : (toVD d cx).cells.size = e.size := by rw [← Array.length_toList, hcl]; omega
    rw [hv]
    simp only [Instr.storeAt, Instr.sureAddr, Sem.run_bind, Sem.run_pure, Result.andThen_ok, storeVar, ht.sizeOf, hcl, hsz]
    simp [hr]
  split at h
  · rcases withO_some h with h | ⟨ow, hg, h⟩
    · exact .inl h
    split at h
    · obtain ⟨b, cs, e1, e2, hb, hr⟩ := own_cells_val hm hg
      obtain ⟨cs', h1, h2⟩ := hx
      simp only [RepD] at h1
      obtain ⟨_, rfl⟩ := h1
      split at h
      · rename_i hcond
        simp only [Bool.and_eq_true] at hcond
        rcases withB_true h with h | ⟨hsz, h⟩
        · exact .inl h
        have hsz := Nat.eq_of_beq_eq_true hsz
        have hl := repDs_len _ _ hr
        have hll : cx.length = cs.length := by omega
        obtain ⟨w', r1, r2, r3⟩ := Blk.splice (P := C.P) hb (o := 0) (x := cx) (by omega) hone
        have e4 : splice cs 0 cx = cx := by simp [splice, hll]
        rw [e4] at r2
        exact .inr ⟨_, w', h, store (h2.trans (by rw [e1]; rfl)) r1, turned_cells hm hg e1 e2 (cellsOf_rep hcx) r2 r3⟩
      rcases withO_some h with h | ⟨ds', hp, h⟩
      · exact .inl h
      obtain ⟨g1, g2⟩ := putAt_ok hcx _ _ _ hp hr
      obtain ⟨w', r1, r2, r3⟩ := Blk.splice (P := C.P) hb g2 hone
      exact .inr ⟨_, w', h, store (h2.trans (by rw [e1]; rfl)) r1, turned_cells hm hg e1 e2 g1 r2 r3⟩
    · exact .inl h
  · rcases withO_some h with h | ⟨ow, hg, h⟩
    · exact .inl h
    split at h
    · rcases withO_some h with h | ⟨ds', hp, h⟩
      · exact .inl h
      obtain ⟨b, cs, e1, e2, hb, hr⟩ := own_cells_val hm hg
      obtain ⟨cs', h1, h2⟩ := hx
      simp only [RepD] at h1
      obtain ⟨_, b', e3, rfl⟩ := h1
      rw [e1] at e3
      cases e3
      obtain ⟨g1, g2⟩ := putAt_ok hcx _ _ _ hp hr
      obtain ⟨w', r1, r2, r3⟩ := Blk.splice (P := C.P) hb g2 hone
      exact .inr ⟨_, w', h, store h2 r1, turned_cells hm hg e1 e2 g1 r2 r3⟩
    · exact .inl h
  · rcases withO_some h with h | ⟨ow, hg, h⟩
    · exact .inl h
    split at h
    · rename_i i k0 m off _ _ _ _ E k ds
      rcases withB_true h with h | ⟨hk0, d0, hd0, h⟩
      · exact .inl h
      have hk0 := Nat.eq_of_beq_eq_true hk0
      subst hk0
      rcases withO_some h with h | ⟨ds', hp, h⟩
      · exact .inl h
      rcases withO_some h with h | ⟨xs, hp2, h⟩
      · exact .inl h
      split at h
      · rename_i y
        obtain ⟨css, hs, e2, hr, hk⟩ := own_slice_val hm hg
        obtain ⟨cs', h1, h2⟩ := hx
        simp only [RepD] at h1
        obtain ⟨_, b', l, c', e3, rfl⟩ := h1
        obtain ⟨c0, hc0, hr0⟩ := repCss_at hr hd0
        have hc0k := hk c0 (List.mem_of_getElem? hc0)
        obtain ⟨g1, g2⟩ := putAt_ok hcx _ _ _ hp (cs := c0) (by simp only [RepDs, RepD]; exact ⟨c0, [], by simp, hr0, rfl⟩)
        rw [allD_datas hp2] at g1
        have g3 : RepC (B ++ blocks φ σ) w y (splice c0 off cx) := by
          have := repDs_datas.1 g1
          simp only [RepCs] at this
          obtain ⟨a1, a2, e4, r1, rfl⟩ := this
          rw [e4]; simpa using r1
        obtain ⟨w', r1, r2, r3⟩ := Sl.spliceAt (P := C.P) hk hs e3 hc0 (x := cx) (off := off) (by rw [hc0k.1] at g2; exact g2) hone
        have hi := mem_ids (sget_mem hg)
        have hX : ∀ x ∈ [b'], x ∈ φ i := fun x hx => by rw [e2, e3]; simpa [Value.ownBlock] using hx
        have hF : ∀ x ∈ φ i, x ∈ φ i ∨ w.heap.size ≤ x := fun x hx => .inl hx
        have hl := Later.turn (σ := σ) B r3 hX hi hF id (.slice E k0 (ds.set m y))
        have hM := hm.turnSame (o := .slice E k0 (ds.set m y)) r3 hX hi hF (by
          refine ⟨_, r2, e2, RepCss.later hl _ _ (repCss_set hr m g3), fun x hx => ?_⟩
          rcases List.mem_or_eq_of_mem_set hx with hx | rfl
          · exact hk x hx
          · exact ⟨by rw [splice_len g2]; exact hc0k.1, splice_one hc0k.2 hone⟩)
        rw [upd_self] at hM hl
        exact .inr ⟨_, w', h, store (h2.trans (by simp [toVD])) r1, hM, hl, ids_sturn _ _ _ _⟩
      · exact .inl h
    · exact .inl h
  · exact .inl h

end

end Go.Sx
