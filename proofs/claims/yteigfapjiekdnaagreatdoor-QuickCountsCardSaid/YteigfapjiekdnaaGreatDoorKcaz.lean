/- Merged: Lst Scp Str Num Gvr. -/
import Derived.Shelf.Strings.OnBuilder
import Derived.Shelf.Strconv.Itoa3
import Derived.Test.YteigfapjiekdnaaGreatDoorRows
import Derived.Lib.ItoaNum
import Derived.Lib.AtoiAll
import Derived.Lib.IndexMore
import Derived.Test.YteigfapjiekdnaaGreatDoorSxu
import Derived.Test.YteigfapjiekdnaaGreatDoorCtx
import Derived.Lib.LaidTab
section
/-
  DERIVED: THE SHELF's CONTRACTS AT THIS DUMP, IN PLAIN WORDS (tools/lay-plain.mjs out of 'YteigfapjiekdnaaGreatDoorLstTmp.lean', which tools/lay-shelf.mjs wrote): THE SAME DECLARATIONS UNDER THE SAME NAMES: 'import', 'namespace', 'open', 'def', 'theorem' AND NOTHING ELSE: no command of the shelf's: FOR A HAND-IN. Each laying: the table of numbers ('.._ren') and one theorem, a field a fact of the dump's own or the kernel's comparison; each contract: ONE APPLICATION.
-/
namespace Go.Proofs
open Go.Shelf
def Tryz.joinL_ren : Go.Shelf.Ren := ⟨fun | 156 => 129 | 165 => 153 | 166 => 154 | 169 => 155 | 240 => 184 | 241 => 185 | 276 => 202 | 277 => 203 | n => n, fun | 31 => 165 | 9 => 9 | 3 => 3 | 4 => 4 | 0 => 0 | 20 => 20 | 72 => 190 | 76 => 34 | 70 => 187 | 37 => 188 | 75 => 33 | 127 => 226 | 164 => 207 | 5 => 5 | 80 => 193 | n => n, fun | n => n⟩
theorem Tryz.joinL : Go.Proofs.Lays.n156 Tryz.prog Tryz.joinL_ren := {
  mixed := by kernel_rfl
  f156 := Tryz.func129.trans (congrArg some (by kernel_rfl))
  f165 := Tryz.func153.trans (congrArg some (by kernel_rfl))
  f166 := Tryz.func154.trans (congrArg some (by kernel_rfl))
  f169 := Tryz.func155.trans (congrArg some (by kernel_rfl))
  f240 := Tryz.func184.trans (congrArg some (by kernel_rfl))
  f241 := Tryz.func185.trans (congrArg some (by kernel_rfl))
  f276 := Tryz.func202.trans (congrArg some (by kernel_rfl))
  f277 := Tryz.func203.trans (congrArg some (by kernel_rfl))
  t0 := Tryz.underlying0
  a0 := Tryz.isAgg0
  z0 := Tryz.sizeOf0
  v0 := Tryz.zeroValue0
  t3 := Tryz.underlying3
  a3 := Tryz.isAgg3
  z3 := Tryz.sizeOf3
  v3 := Tryz.zeroValue3
  t4 := Tryz.underlying4
  a4 := Tryz.isAgg4
  z4 := Tryz.sizeOf4
  v4 := Tryz.zeroValue4
  t9 := Tryz.underlying9
  a9 := Tryz.isAgg9
  z9 := Tryz.sizeOf9
  v9 := Tryz.zeroValue9
  t20 := Tryz.underlying20
  a20 := Tryz.isAgg20
  z20 := Tryz.sizeOf20
  v20 := Tryz.zeroValue20
  t31 := Tryz.underlying165
  a31 := Tryz.isAgg165
  z31 := Tryz.sizeOf165
  v31 := Tryz.zeroValue165
  t37 := Tryz.underlying188
  a37 := Tryz.isAgg188
  z37 := Tryz.sizeOf188
  v37 := Tryz.zeroValue188
  t70 := Tryz.underlying187
  a70 := Tryz.isAgg187
  z70 := Tryz.sizeOf187
  v70 := Tryz.zeroValue187
  t72 := Tryz.underlying190
  a72 := Tryz.isAgg190
  z72 := Tryz.sizeOf190
  v72 := Tryz.zeroValue190
  t75 := Tryz.underlying33
  a75 := Tryz.isAgg33
  z75 := Tryz.sizeOf33
  v75 := Tryz.zeroValue33
  t76 := Tryz.underlying34
  a76 := Tryz.isAgg34
  z76 := Tryz.sizeOf34
  v76 := Tryz.zeroValue34
  t127 := Tryz.underlying226
  a127 := Tryz.isAgg226
  z127 := Tryz.sizeOf226
  v127 := Tryz.zeroValue226
  t164 := Tryz.underlying207
  a164 := Tryz.isAgg207
  z164 := Tryz.sizeOf207
  v164 := Tryz.zeroValue207 }
def Tryz.itoaL_ren : Go.Shelf.Ren := ⟨fun | 171 => 128 | 243 => 152 | 246 => 183 | 283 => 198 | 284 => 199 | 285 => 200 | 286 => 201 | 129 => 166 | 317 => 207 | 318 => 208 | 319 => 209 | 320 => 210 | 337 => 211 | 338 => 212 | n => n, fun | 3 => 3 | 9 => 9 | 2 => 2 | 4 => 4 | 171 => 249 | 0 => 0 | 53 => 204 | 37 => 188 | 5 => 5 | 173 => 251 | 212 => 260 | 51 => 202 | 20 => 20 | 213 => 261 | 46 => 156 | 232 => 262 | 233 => 263 | n => n, fun | 17 => 1 | 18 => 3 | 19 => 4 | n => n⟩
theorem Tryz.itoaL : Go.Proofs.LaysM.n171 Tryz.prog Tryz.itoaL_ren := {
  mixed := by kernel_rfl
  f129 := Tryz.func166.trans (congrArg some (by kernel_rfl))
  f171 := Tryz.func128.trans (congrArg some (by kernel_rfl))
  f243 := Tryz.func152.trans (congrArg some (by kernel_rfl))
  f246 := Tryz.func183.trans (congrArg some (by kernel_rfl))
  f283 := Tryz.func198.trans (congrArg some (by kernel_rfl))
  f284 := Tryz.func199.trans (congrArg some (by kernel_rfl))
  f285 := Tryz.func200.trans (congrArg some (by kernel_rfl))
  f286 := Tryz.func201.trans (congrArg some (by kernel_rfl))
  f317 := Tryz.func207.trans (congrArg some (by kernel_rfl))
  f318 := Tryz.func208.trans (congrArg some (by kernel_rfl))
  f319 := Tryz.func209.trans (congrArg some (by kernel_rfl))
  f320 := Tryz.func210.trans (congrArg some (by kernel_rfl))
  f337 := Tryz.func211.trans (congrArg some (by kernel_rfl))
  f338 := Tryz.func212.trans (congrArg some (by kernel_rfl))
  t0 := Tryz.underlying0
  a0 := Tryz.isAgg0
  z0 := Tryz.sizeOf0
  v0 := Tryz.zeroValue0
  t2 := Tryz.underlying2
  a2 := Tryz.isAgg2
  z2 := Tryz.sizeOf2
  v2 := Tryz.zeroValue2
  t3 := Tryz.underlying3
  a3 := Tryz.isAgg3
  z3 := Tryz.sizeOf3
  v3 := Tryz.zeroValue3
  t4 := Tryz.underlying4
  a4 := Tryz.isAgg4
  z4 := Tryz.sizeOf4
  v4 := Tryz.zeroValue4
  t5 := Tryz.underlying5
  a5 := Tryz.isAgg5
  z5 := Tryz.sizeOf5
  v5 := Tryz.zeroValue5
  t9 := Tryz.underlying9
  a9 := Tryz.isAgg9
  z9 := Tryz.sizeOf9
  v9 := Tryz.zeroValue9
  t20 := Tryz.underlying20
  a20 := Tryz.isAgg20
  z20 := Tryz.sizeOf20
  v20 := Tryz.zeroValue20
  t37 := Tryz.underlying188
  a37 := Tryz.isAgg188
  z37 := Tryz.sizeOf188
  v37 := Tryz.zeroValue188
  t46 := Tryz.underlying156
  a46 := Tryz.isAgg156
  z46 := Tryz.sizeOf156
  v46 := Tryz.zeroValue156
  t51 := Tryz.underlying202
  a51 := Tryz.isAgg202
  z51 := Tryz.sizeOf202
  v51 := Tryz.zeroValue202
  t53 := Tryz.underlying204
  a53 := Tryz.isAgg204
  z53 := Tryz.sizeOf204
  v53 := Tryz.zeroValue204
  t171 := Tryz.underlying249
  a171 := Tryz.isAgg249
  z171 := Tryz.sizeOf249
  v171 := Tryz.zeroValue249
  t173 := Tryz.underlying251
  a173 := Tryz.isAgg251
  z173 := Tryz.sizeOf251
  v173 := Tryz.zeroValue251
  t212 := Tryz.underlying260
  a212 := Tryz.isAgg260
  z212 := Tryz.sizeOf260
  v212 := Tryz.zeroValue260
  t213 := Tryz.underlying261
  a213 := Tryz.isAgg261
  z213 := Tryz.sizeOf261
  t232 := Tryz.underlying262
  a232 := Tryz.isAgg262
  z232 := Tryz.sizeOf262
  v232 := Tryz.zeroValue262
  t233 := Tryz.underlying263
  a233 := Tryz.isAgg263
  z233 := Tryz.sizeOf263
  v233 := Tryz.zeroValue263
  g17 := by kernel_rfl
  g18 := by kernel_rfl
  g19 := by kernel_rfl
  i0 := by kernel_rfl
  i2 := by kernel_rfl
  i3 := by kernel_rfl
  i4 := by kernel_rfl
  i5 := by kernel_rfl
  i9 := by kernel_rfl
  i20 := by kernel_rfl
  i37 := by kernel_rfl
  i46 := by kernel_rfl
  i51 := by kernel_rfl
  i53 := by kernel_rfl
  i171 := by kernel_rfl
  i173 := by kernel_rfl
  i212 := by kernel_rfl
  i232 := by kernel_rfl
  i233 := by kernel_rfl
  m17 := by kernel_rfl
  m18 := by kernel_rfl
  m19 := by kernel_rfl }
end Go.Proofs
end

section
/- Scripts, plain: bytes, words, lines, texts; what a text's parse is. -/
namespace Go.Gr
open Go
/-- a string of bytes -/
def bs (l : List UInt8) : ByteArray := ⟨l.toArray⟩
theorem bs_cat (a b : List UInt8) : bs a ++ bs b = bs (a ++ b) := by
  apply ByteArray.ext
  rw [ByteArray.data_append]
  simp [bs]
theorem bs_size (a : List UInt8) : (bs a).size = a.length := by simp [bs, ByteArray.size]
/-- words of kinds -/
def nmB : Nat → List UInt8
  | 0 => [119, 111, 114, 107]
  | 1 => [100, 101, 108, 105, 118, 101, 114]
  | 2 => [100, 111, 117, 98, 108, 101]
  | 3 => [99, 114, 97, 115, 104]
  | 4 => [112, 97, 115, 115]
  | _ => [102, 105, 110, 105, 115, 104]
/-- the line of an act, without its end -/
def lnB (k n : Nat) : List UInt8 := if k < 4 then nmB k ++ 32 :: Lib.decDigits n else nmB k

theorem dd_len6 (n : Nat) (h : n ≤ 999999) : (Lib.decDigits n).length ≤ 6 := by
  rw [Lib.decDigits_length]
  rcases Nat.lt_or_ge 6 (Lib.nDigits n) with h1 | h1
  · exfalso
    have h2 : ∀ k m : Nat, k < Lib.nDigits m → 10 ^ k ≤ m ∨ k = 0 := by
      intro k
      induction k with
      | zero => intro m _; exact .inr rfl
      | succ k ih =>
        intro m hm
        left
        by_cases h10 : m < 10
        · rw [Lib.nDigits_small h10] at hm; omega
        · rw [Lib.nDigits_big h10] at hm
          rcases ih (m / 10) (by omega) with h3 | h3
          · rw [Nat.pow_succ]
            have := Nat.mul_le_mul_right 10 h3
            omega
          · subst h3; omega
    rcases h2 6 n h1 with h3 | h3
    · omega
    · omega
  · exact h1
/-- acts that are right -/
def actOk (p : Nat × Nat) : Prop := p.1 < 6 ∧ p.2 ≤ 999999 ∧ (3 < p.1 → p.2 = 0)
def IsAct (b : List UInt8) (p : Nat × Nat) : Prop := actOk p ∧ b = lnB p.1 p.2
/-- what a text's parse is: its acts ahead of the first line that is none; is there no such line? -/
inductive Pars : List UInt8 → List (Nat × Nat) → Bool → Prop
  | nil : Pars [] [] true
  | line {b : List UInt8} {p : Nat × Nat} {r : List UInt8} {l : List (Nat × Nat)} {ok : Bool} : IsAct b p → Pars r l ok → Pars (b ++ 10 :: r) (p :: l) ok
  | bad {b r : List UInt8} : 10 ∉ b → (∀ p, ¬ IsAct b p) → Pars (b ++ 10 :: r) [] false
  | last {b : List UInt8} : 10 ∉ b → b ≠ [] → Pars b [] false
end Go.Gr
end

section
/- ref05: Num · ref25: Line. -/
namespace Go.Sx
open Go
theorem cat_ok {a b : ByteArray} {K : Prop} (h : a.size + b.size ≤ 9223372036854775807) (hK : K) : a.size + b.size ≤ 9223372036854775807 ∧ K := ⟨h, hK⟩
end Go.Sx
end

section
/- What a variable's block holds, as a walk knows it. -/
namespace Go.Proofs.YteigfapjiekdnaaGreatDoor
open Go.Sx Go.RowKit Go.Reg Go.Gr

set_option maxRecDepth 100000
theorem glob_at {C : Cx} {O : List Nat} {w : World} {p : Nat × Da} (h : Glob C O w) (hp : p ∈ C.Γ) : ∃ c, RepC O w p.2 c ∧ Cells w p.1 0 c ∧ ∃ cs t fr, w.heap[p.1]? = some (.cells cs t fr) ∧ cs.size = gsz p.2 := by
  obtain ⟨⟨cs, h1, h2⟩, _, h3⟩ := h p hp
  simp only [RepC] at h1
  obtain ⟨b, o, c, rfl, _, _, h4, h5⟩ := h1
  simp only [toV, List.headD_cons, Value.pointer.injEq, Option.some.injEq, Addr.mk.injEq, and_true] at h2
  obtain ⟨h6, rfl⟩ := h2
  subst h6
  exact ⟨c, h4, h5, h3⟩
theorem ints_cells {O : List Nat} {w : World} {k : IntKind} : ∀ {l : List Int} {c : List Value}, RepCs O w (l.map (Da.int k)) c → c = l.map (Value.int k)
  | [], c, h => by simpa only [List.map_nil, RepCs] using h
  | x :: l, c, h => by
    simp only [List.map_cons, RepCs, RepC] at h
    obtain ⟨c1, c2, rfl, rfl, h⟩ := h
    rw [ints_cells h]; rfl
theorem tab_of {P : Program} {C : Cx} {O : List Nat} {w : World} {g : Nat} {k : IntKind} {l : List Int} {name : String} (h : Glob C O w) (hp : (g, .agg (l.map (Da.int k))) ∈ C.Γ) (hn : P.globalNamed name = some g) : Lib.TabIs P w name k l := by
  obtain ⟨c, h1, h2, cs, t, fr, h3, h4⟩ := glob_at h hp
  simp only [RepC] at h1
  have hc := ints_cells h1
  subst hc
  unfold Lib.TabIs World.var?
  rw [hn, Option.bind_some]
  rw [h3]
  simp only [Option.some.injEq]
  have hsz : cs.size = l.length := by rw [h4]; simp [gsz]
  apply Array.ext
  · simp [hsz]
  · intro i h5 h6
    have := h2 i (Value.int k (l[i]'(by omega))) (by rw [List.getElem?_map, List.getElem?_eq_getElem (by omega)]; rfl)
    simp only [World.cell?, h3, Nat.zero_add] at this
    rw [Array.getElem?_eq_getElem h5] at this
    simpa using this
theorem rep_str {O : List Nat} {w : World} {s : ByteArray} {v : Value} (h : Rep O w (.str s) v) : v = .string s := by
  obtain ⟨cs, h1, rfl⟩ := h
  simp only [RepC] at h1
  subst h1; rfl
end Go.Proofs.YteigfapjiekdnaaGreatDoor
end
