/- Merged: Lst Scp Str Num Gvr Ptx. -/
import Derived.Shelf.Strings.OnBuilder
import Derived.Shelf.Strconv.Itoa3
import Derived.Test.YteigfapjiekdnaaGreatDoorRows
import Derived.Lib.ItoaNum
import Derived.Lib.AtoiAll
import Derived.Lib.IndexMore
import Derived.Test.YteigfapjiekdnaaGreatDoorSxu
import Derived.Test.YteigfapjiekdnaaGreatDoorCtx
import Derived.Lib.LaidTab
import Derived.Test.YteigfapjiekdnaaGreatDoorKeaf
import Derived.Lib.Join
section
/-
  DERIVED: THE SHELF's CONTRACTS AT THIS DUMP, IN PLAIN WORDS (tools/lay-plain.mjs out of 'YteigfapjiekdnaaGreatDoorLstTmp.lean', which tools/lay-shelf.mjs wrote): THE SAME DECLARATIONS UNDER THE SAME NAMES: 'import', 'namespace', 'open', 'def', 'theorem' AND NOTHING ELSE: no command of the shelf's: FOR A HAND-IN. Each laying: the table of numbers ('.._ren') and one theorem, a field a fact of the dump's own or the kernel's comparison; each contract: ONE APPLICATION.
-/
namespace Go.Proofs
open Go.Shelf
def Tryz.joinL_ren : Go.Shelf.Ren := ⟨fun | 156 => 129 | 165 => 153 | 166 => 154 | 169 => 155 | 240 => 184 | 241 => 185 | 276 => 202 | 277 => 203 | n => n, fun | 31 => 165 | 9 => 9 | 3 => 3 | 4 => 4 | 0 => 0 | 20 => 20 | 72 => 190 | 76 => 34 | 70 => 187 | 37 => 188 | 75 => 33 | 127 => 226 | 164 => 207 | 5 => 5 | 80 => 193 | n => n, fun | n => n⟩
theorem Tryz.joinL : Go.Proofs.Lays.n156 Tryz.prog Tryz.joinL_ren := {
  mixed := by kernel_rfl
  f156 := Tryz.func129.trans (congrArg some (by kernel_rfl))
  f165 := Tryz.func153.trans (congrArg some (by kernel_rfl))
  f166 := Tryz.func154.trans (congrArg some (by kernel_rfl))
  f169 := Tryz.func155.trans (congrArg some (by kernel_rfl))
  f240 := Tryz.func184.trans (congrArg some (by kernel_rfl))
  f241 := Tryz.func185.trans (congrArg some (by kernel_rfl))
  f276 := Tryz.func202.trans (congrArg some (by kernel_rfl))
  f277 := Tryz.func203.trans (congrArg some (by kernel_rfl))
  t0 := Tryz.underlying0
  a0 := Tryz.isAgg0
  z0 := Tryz.sizeOf0
  v0 := Tryz.zeroValue0
  t3 := Tryz.underlying3
  a3 := Tryz.isAgg3
  z3 := Tryz.sizeOf3
  v3 := Tryz.zeroValue3
  t4 := Tryz.underlying4
  a4 := Tryz.isAgg4
  z4 := Tryz.sizeOf4
  v4 := Tryz.zeroValue4
  t9 := Tryz.underlying9
  a9 := Tryz.isAgg9
  z9 := Tryz.sizeOf9
  v9 := Tryz.zeroValue9
  t20 := Tryz.underlying20
  a20 := Tryz.isAgg20
  z20 := Tryz.sizeOf20
  v20 := Tryz.zeroValue20
  t31 := Tryz.underlying165
  a31 := Tryz.isAgg165
  z31 := Tryz.sizeOf165
  v31 := Tryz.zeroValue165
  t37 := Tryz.underlying188
  a37 := Tryz.isAgg188
  z37 := Tryz.sizeOf188
  v37 := Tryz.zeroValue188
  t70 := Tryz.underlying187
  a70 := Tryz.isAgg187
  z70 := Tryz.sizeOf187
  v70 := Tryz.zeroValue187
  t72 := Tryz.underlying190
  a72 := Tryz.isAgg190
  z72 := Tryz.sizeOf190
  v72 := Tryz.zeroValue190
  t75 := Tryz.underlying33
  a75 := Tryz.isAgg33
  z75 := Tryz.sizeOf33
  v75 := Tryz.zeroValue33
  t76 := Tryz.underlying34
  a76 := Tryz.isAgg34
  z76 := Tryz.sizeOf34
  v76 := Tryz.zeroValue34
  t127 := Tryz.underlying226
  a127 := Tryz.isAgg226
  z127 := Tryz.sizeOf226
  v127 := Tryz.zeroValue226
  t164 := Tryz.underlying207
  a164 := Tryz.isAgg207
  z164 := Tryz.sizeOf207
  v164 := Tryz.zeroValue207 }
def Tryz.itoaL_ren : Go.Shelf.Ren := ⟨fun | 171 => 128 | 243 => 152 | 246 => 183 | 283 => 198 | 284 => 199 | 285 => 200 | 286 => 201 | 129 => 166 | 317 => 207 | 318 => 208 | 319 => 209 | 320 => 210 | 337 => 211 | 338 => 212 | n => n, fun | 3 => 3 | 9 => 9 | 2 => 2 | 4 => 4 | 171 => 249 | 0 => 0 | 53 => 204 | 37 => 188 | 5 => 5 | 173 => 251 | 212 => 260 | 51 => 202 | 20 => 20 | 213 => 261 | 46 => 156 | 232 => 262 | 233 => 263 | n => n, fun | 17 => 1 | 18 => 3 | 19 => 4 | n => n⟩
theorem Tryz.itoaL : Go.Proofs.LaysM.n171 Tryz.prog Tryz.itoaL_ren := {
  mixed := by kernel_rfl
  f129 := Tryz.func166.trans (congrArg some (by kernel_rfl))
  f171 := Tryz.func128.trans (congrArg some (by kernel_rfl))
  f243 := Tryz.func152.trans (congrArg some (by kernel_rfl))
  f246 := Tryz.func183.trans (congrArg some (by kernel_rfl))
  f283 := Tryz.func198.trans (congrArg some (by kernel_rfl))
  f284 := Tryz.func199.trans (congrArg some (by kernel_rfl))
  f285 := Tryz.func200.trans (congrArg some (by kernel_rfl))
  f286 := Tryz.func201.trans (congrArg some (by kernel_rfl))
  f317 := Tryz.func207.trans (congrArg some (by kernel_rfl))
  f318 := Tryz.func208.trans (congrArg some (by kernel_rfl))
  f319 := Tryz.func209.trans (congrArg some (by kernel_rfl))
  f320 := Tryz.func210.trans (congrArg some (by kernel_rfl))
  f337 := Tryz.func211.trans (congrArg some (by kernel_rfl))
  f338 := Tryz.func212.trans (congrArg some (by kernel_rfl))
  t0 := Tryz.underlying0
  a0 := Tryz.isAgg0
  z0 := Tryz.sizeOf0
  v0 := Tryz.zeroValue0
  t2 := Tryz.underlying2
  a2 := Tryz.isAgg2
  z2 := Tryz.sizeOf2
  v2 := Tryz.zeroValue2
  t3 := Tryz.underlying3
  a3 := Tryz.isAgg3
  z3 := Tryz.sizeOf3
  v3 := Tryz.zeroValue3
  t4 := Tryz.underlying4
  a4 := Tryz.isAgg4
  z4 := Tryz.sizeOf4
  v4 := Tryz.zeroValue4
  t5 := Tryz.underlying5
  a5 := Tryz.isAgg5
  z5 := Tryz.sizeOf5
  v5 := Tryz.zeroValue5
  t9 := Tryz.underlying9
  a9 := Tryz.isAgg9
  z9 := Tryz.sizeOf9
  v9 := Tryz.zeroValue9
  t20 := Tryz.underlying20
  a20 := Tryz.isAgg20
  z20 := Tryz.sizeOf20
  v20 := Tryz.zeroValue20
  t37 := Tryz.underlying188
  a37 := Tryz.isAgg188
  z37 := Tryz.sizeOf188
  v37 := Tryz.zeroValue188
  t46 := Tryz.underlying156
  a46 := Tryz.isAgg156
  z46 := Tryz.sizeOf156
  v46 := Tryz.zeroValue156
  t51 := Tryz.underlying202
  a51 := Tryz.isAgg202
  z51 := Tryz.sizeOf202
  v51 := Tryz.zeroValue202
  t53 := Tryz.underlying204
  a53 := Tryz.isAgg204
  z53 := Tryz.sizeOf204
  v53 := Tryz.zeroValue204
  t171 := Tryz.underlying249
  a171 := Tryz.isAgg249
  z171 := Tryz.sizeOf249
  v171 := Tryz.zeroValue249
  t173 := Tryz.underlying251
  a173 := Tryz.isAgg251
  z173 := Tryz.sizeOf251
  v173 := Tryz.zeroValue251
  t212 := Tryz.underlying260
  a212 := Tryz.isAgg260
  z212 := Tryz.sizeOf260
  v212 := Tryz.zeroValue260
  t213 := Tryz.underlying261
  a213 := Tryz.isAgg261
  z213 := Tryz.sizeOf261
  t232 := Tryz.underlying262
  a232 := Tryz.isAgg262
  z232 := Tryz.sizeOf262
  v232 := Tryz.zeroValue262
  t233 := Tryz.underlying263
  a233 := Tryz.isAgg263
  z233 := Tryz.sizeOf263
  v233 := Tryz.zeroValue263
  g17 := by kernel_rfl
  g18 := by kernel_rfl
  g19 := by kernel_rfl
  i0 := by kernel_rfl
  i2 := by kernel_rfl
  i3 := by kernel_rfl
  i4 := by kernel_rfl
  i5 := by kernel_rfl
  i9 := by kernel_rfl
  i20 := by kernel_rfl
  i37 := by kernel_rfl
  i46 := by kernel_rfl
  i51 := by kernel_rfl
  i53 := by kernel_rfl
  i171 := by kernel_rfl
  i173 := by kernel_rfl
  i212 := by kernel_rfl
  i232 := by kernel_rfl
  i233 := by kernel_rfl
  m17 := by kernel_rfl
  m18 := by kernel_rfl
  m19 := by kernel_rfl }
end Go.Proofs
end

section
/- Scripts, plain: bytes, words, lines, texts; what a text's parse is. -/
namespace Go.Gr
open Go
/-- a string of bytes -/
def bs (l : List UInt8) : ByteArray := ⟨l.toArray⟩
theorem bs_cat (a b : List UInt8) : bs a ++ bs b = bs (a ++ b) := by
  apply ByteArray.ext
  rw [ByteArray.data_append]
  simp [bs]
theorem bs_size (a : List UInt8) : (bs a).size = a.length := by simp [bs, ByteArray.size]
/-- words of kinds -/
def nmB : Nat → List UInt8
  | 0 => [119, 111, 114, 107]
  | 1 => [100, 101, 108, 105, 118, 101, 114]
  | 2 => [100, 111, 117, 98, 108, 101]
  | 3 => [99, 114, 97, 115, 104]
  | 4 => [112, 97, 115, 115]
  | _ => [102, 105, 110, 105, 115, 104]
/-- the line of an act, without its end -/
def lnB (k n : Nat) : List UInt8 := if k < 4 then nmB k ++ 32 :: Lib.decDigits n else nmB k

theorem dd_len6 (n : Nat) (h : n ≤ 999999) : (Lib.decDigits n).length ≤ 6 := by
  rw [Lib.decDigits_length]
  rcases Nat.lt_or_ge 6 (Lib.nDigits n) with h1 | h1
  · exfalso
    have h2 : ∀ k m : Nat, k < Lib.nDigits m → 10 ^ k ≤ m ∨ k = 0 := by
      intro k
      induction k with
      | zero => intro m _; exact .inr rfl
      | succ k ih =>
        intro m hm
        left
        by_cases h10 : m < 10
        · rw [Lib.nDigits_small h10] at hm; omega
        · rw [Lib.nDigits_big h10] at hm
          rcases ih (m / 10) (by omega) with h3 | h3
          · rw [Nat.pow_succ]
            have := Nat.mul_le_mul_right 10 h3
            omega
          · subst h3; omega
    rcases h2 6 n h1 with h3 | h3
    · omega
    · omega
  · exact h1
/-- acts that are right -/
def actOk (p : Nat × Nat) : Prop := p.1 < 6 ∧ p.2 ≤ 999999 ∧ (3 < p.1 → p.2 = 0)
def IsAct (b : List UInt8) (p : Nat × Nat) : Prop := actOk p ∧ b = lnB p.1 p.2
/-- what a text's parse is: its acts ahead of the first line that is none; is there no such line? -/
inductive Pars : List UInt8 → List (Nat × Nat) → Bool → Prop
  | nil : Pars [] [] true
  | line {b : List UInt8} {p : Nat × Nat} {r : List UInt8} {l : List (Nat × Nat)} {ok : Bool} : IsAct b p → Pars r l ok → Pars (b ++ 10 :: r) (p :: l) ok
  | bad {b r : List UInt8} : 10 ∉ b → (∀ p, ¬ IsAct b p) → Pars (b ++ 10 :: r) [] false
  | last {b : List UInt8} : 10 ∉ b → b ≠ [] → Pars b [] false
end Go.Gr
end

section
/- ref05: Num · ref25: Line. -/
namespace Go.Sx
open Go
theorem cat_ok {a b : ByteArray} {K : Prop} (h : a.size + b.size ≤ 9223372036854775807) (hK : K) : a.size + b.size ≤ 9223372036854775807 ∧ K := ⟨h, hK⟩
end Go.Sx
end

section
/- What a variable's block holds, as a walk knows it. -/
namespace Go.Proofs.YteigfapjiekdnaaGreatDoor
open Go.Sx Go.RowKit Go.Reg Go.Gr

set_option maxRecDepth 100000
theorem glob_at {C : Cx} {O : List Nat} {w : World} {p : Nat × Da} (h : Glob C O w) (hp : p ∈ C.Γ) : ∃ c, RepC O w p.2 c ∧ Cells w p.1 0 c ∧ ∃ cs t fr, w.heap[p.1]? = some (.cells cs t fr) ∧ cs.size = gsz p.2 := by
  obtain ⟨⟨cs, h1, h2⟩, _, h3⟩ := h p hp
  simp only [RepC] at h1
  obtain ⟨b, o, c, rfl, _, _, h4, h5⟩ := h1
  simp only [toV, List.headD_cons, Value.pointer.injEq, Option.some.injEq, Addr.mk.injEq, and_true] at h2
  obtain ⟨h6, rfl⟩ := h2
  subst h6
  exact ⟨c, h4, h5, h3⟩
theorem ints_cells {O : List Nat} {w : World} {k : IntKind} : ∀ {l : List Int} {c : List Value}, RepCs O w (l.map (Da.int k)) c → c = l.map (Value.int k)
  | [], c, h => by simpa only [List.map_nil, RepCs] using h
  | x :: l, c, h => by
    simp only [List.map_cons, RepCs, RepC] at h
    obtain ⟨c1, c2, rfl, rfl, h⟩ := h
    rw [ints_cells h]; rfl
theorem tab_of {P : Program} {C : Cx} {O : List Nat} {w : World} {g : Nat} {k : IntKind} {l : List Int} {name : String} (h : Glob C O w) (hp : (g, .agg (l.map (Da.int k))) ∈ C.Γ) (hn : P.globalNamed name = some g) : Lib.TabIs P w name k l := by
  obtain ⟨c, h1, h2, cs, t, fr, h3, h4⟩ := glob_at h hp
  simp only [RepC] at h1
  have hc := ints_cells h1
  subst hc
  unfold Lib.TabIs World.var?
  rw [hn, Option.bind_some]
  rw [h3]
  simp only [Option.some.injEq]
  have hsz : cs.size = l.length := by rw [h4]; simp [gsz]
  apply Array.ext
  · simp [hsz]
  · intro i h5 h6
    have := h2 i (Value.int k (l[i]'(by omega))) (by rw [List.getElem?_map, List.getElem?_eq_getElem (by omega)]; rfl)
    simp only [World.cell?, h3, Nat.zero_add] at this
    rw [Array.getElem?_eq_getElem h5] at this
    simpa using this
theorem rep_str {O : List Nat} {w : World} {s : ByteArray} {v : Value} (h : Rep O w (.str s) v) : v = .string s := by
  obtain ⟨cs, h1, rfl⟩ := h
  simp only [RepC] at h1
  subst h1; rfl
end Go.Proofs.YteigfapjiekdnaaGreatDoor
end

section
/- strconv.Itoa, strings.Join, told for the engine (the table of powers is known). pat: Text. -/
namespace Go.Gr
open Go
theorem itoa_nat (n : Nat) : Lib.itoa n = Lib.decDigits n := by
  unfold Lib.itoa
  rw [if_neg (by omega)]; simp
theorem itoa_len {n : Int} (h0 : 0 ≤ n) (h1 : n ≤ 999999) : (Lib.itoa n).length ≤ 6 := by
  obtain ⟨k, rfl⟩ := Int.eq_ofNat_of_zero_le h0
  rw [itoa_nat]
  exact dd_len6 k (by omega)
theorem join_two (x y : List UInt8) (r : List (List UInt8)) (sep : List UInt8) : Lib.join (x :: y :: r) sep = x ++ (sep ++ Lib.join (y :: r) sep) := by
  simp [Lib.join, List.intercalate]
theorem join_len {m : Nat} (sep : List UInt8) : ∀ xs : List (List UInt8), (∀ x ∈ xs, x.length ≤ m) → (Lib.join xs sep).length ≤ xs.length * (m + sep.length)
  | [], _ => by rw [Lib.join_nil]; simp
  | [x], h => by
    have := h x (.head _)
    rw [Lib.join_one, List.length_singleton]; omega
  | x :: y :: r, h => by
    have h1 := join_len sep (y :: r) (fun z hz => h z (.tail _ hz))
    have h2 := h x (.head _)
    rw [join_two, List.length_append, List.length_append, List.length_cons, Nat.add_mul, Nat.one_mul]; omega
/-- an edge's text -/
def edgB (e : Edg) : List UInt8 := Lib.itoa e.a ++ 45 :: Lib.itoa e.b
/-- a pattern's text -/
def patB (p : Pt) : List UInt8 := Lib.join (p.labels.map Lib.itoa) [44] ++ 124 :: Lib.join (p.edges.map edgB) [44]
end Go.Gr
namespace Go.Proofs.YteigfapjiekdnaaGreatDoor
open Go.Sx Go.RowKit Go.Reg Go.Gr Go.Shelf

set_option maxRecDepth 100000
theorem joinX : Builder.Extra Tryz.prog Tryz.joinL_ren where
  sizeBuilder := by kernel_rfl
  liesBuilder := by kernel_rfl
  t5 := Tryz.underlying5
  a5 := by intro w; kernel_rfl
  z5 := by intro w; kernel_rfl
  v5 := by intro w; kernel_rfl
  infoByte := by kernel_rfl
  cellsByte := by kernel_rfl
  sizeByte := by kernel_rfl
  neB5 := by decide
/-- with the table of powers -/
noncomputable def C3 : Cx := ⟨Tryz.prog, C1.Γ ++ [(1, .agg (Lib.pow10Tab.map (Da.int .u64)))]⟩
theorem memTab3 : (1, Da.agg (Lib.pow10Tab.map (Da.int .u64))) ∈ C3.Γ := List.mem_append_right _ (.head _)
theorem c3_ok : C3.Ok tab := ⟨c1_ok.tab, c1_ok.mixed⟩
theorem Pure.up3 {f : FuncId} {xs : List Da} {Q : Da → Prop} (h : Sx.Pure C1 f xs Q) : Sx.Pure C3 f xs Q := fun O w vs h1 h2 h3 => h O w vs h1 (fun g hg => h2 g (List.mem_append_left _ hg)) h3
theorem itoa3_pure (n : Int) (h0 : -9223372036854775808 ≤ n) (h1 : n ≤ 9223372036854775807) : Sx.Pure C3 128 [.int .i64 n] (fun y => y = .str (bs (Lib.itoa n))) := by
  intro O w us hO hg hr
  obtain ⟨v, vs, rfl, h3, h2⟩ := reps_inv hr
  obtain rfl := reps_inv0 h2
  obtain rfl := rep_int h3
  refine ⟨by kernel_rfl, (Any.strconv_Itoa Tryz.itoaL n h0 h1 w (tab_of hg memTab3 (by kernel_rfl))).mono ?_⟩
  rintro e w' ⟨rfl, k, os, rfl⟩
  refine ⟨_, _, rfl, rfl, ⟨[_], by simp only [RepC]; rfl, rfl⟩, ⟨rfl, rfl, rfl, by rw [Go.Sort.size_grow]; exact Nat.le_add_right _ _, fun b hb _ => Go.Sort.heap_grow_old (w.drewN k) os hb⟩⟩
def strD (x : List UInt8) : Da := .str (bs x)
theorem strs_css {O : List Nat} {w : World} : ∀ {xs : List (List UInt8)} {css : List (List Value)}, RepCss O w (xs.map strD) css → css = xs.map fun x => [Value.string (bs x)]
  | [], css, h => by simpa only [List.map_nil, RepCss] using h
  | x :: xs, css, h => by
    simp only [List.map_cons, RepCss, strD, RepC] at h
    obtain ⟨c1, c2, rfl, rfl, h⟩ := h
    rw [strs_css h]; rfl
theorem strs_flat (xs : List (List UInt8)) : (xs.map fun x => [Value.string (bs x)]).flatten = xs.map fun x => Value.string (bs x) := by
  induction xs with
  | nil => rfl
  | cons x xs ih => simp only [List.map_cons, List.flatten_cons, ih]; rfl
theorem join_pure (C : Cx) (hC : C.P = Tryz.prog) (xs : List (List UInt8)) (sep : List UInt8) (hN : xs.length ≤ 1000000) (hlen : (Lib.join xs sep).length ≤ 140737488355328) : Sx.Pure C 129 [.list 1 (xs.map strD), .str (bs sep)] (fun y => y = .str (bs (Lib.join xs sep))) := by
  intro O w us hO hg hr
  obtain ⟨v, vs, rfl, h3, h2⟩ := reps_inv hr
  obtain ⟨v2, vs2, rfl, h4, h5⟩ := reps_inv h2
  obtain rfl := reps_inv0 h5
  obtain rfl := rep_str h4
  obtain ⟨cs, r, rfl⟩ := h3
  simp only [RepC] at r
  obtain ⟨a, c, css, rfl, hc, _, hcs, _, hcell⟩ := r
  have hb : ∀ w' : World, Below w.heap.size w w' → Tch [] w w' := fun w' h => ⟨h.os, h.tape, h.output, h.size, fun b hb _ => h.block b hb⟩
  obtain rfl := strs_css hcs
  rw [List.length_map] at hc
  rw [hC]
  refine ⟨by kernel_rfl, ?_⟩
  show Calls Tryz.prog 129 #[.slice a (xs.map strD).length c, .string (bs sep)] w _
  rw [List.length_map]
  cases xs with
  | nil =>
    refine (Any.strings_Join_none Tryz.joinL joinX a c (bs sep) w).mono ?_
    rintro e w' ⟨rfl, rfl⟩
    exact ⟨_, _, rfl, rfl, ⟨[_], by simp only [RepC]; rfl, rfl⟩, Tch.refl _ _⟩
  | cons x xs =>
    obtain ⟨b, o, rfl, _, hbl, hcl⟩ := hcell.resolve_left (by simp)
    rw [strs_flat] at hcl
    have hmap : ((x :: xs).map bs).map (·.data.toList) = x :: xs := by
      rw [List.map_map]
      have : ((fun y : ByteArray => y.data.toList) ∘ bs) = id := by funext z; simp [bs]
      rw [this, List.map_id]
    have := Any.strings_Join Tryz.joinL joinX b o c ((x :: xs).map bs) (bs sep) w (fun j y hy => by
      refine hcl j (.string y) ?_
      rw [List.getElem?_map] at hy ⊢
      obtain ⟨z, hz, rfl⟩ := Option.map_eq_some_iff.1 hy
      rw [hz]; rfl) hbl (by rw [List.length_map]; omega) (by rw [List.length_map]; exact hc) (by rw [hmap]; exact hlen)
    rw [hmap, List.length_map] at this
    refine this.mono ?_
    rintro e w' ⟨rfl, h⟩
    exact ⟨_, _, rfl, rfl, ⟨[_], by simp only [RepC]; rfl, rfl⟩, hb _ h⟩
def pl_ptx : List (Nat × Plan) := [(10, .leaf [0, 0, 1, 2, 0, 0, 1, 2, 0, 6, 3, 0] [0, 1, 5, 2, 6, 3, 4, 7, 8, 9, 10, 11] [0, 0, 2, 6, 14, 0, 32, 110, 254, 510, 1023, 2047])]
def G_ptx : List FuncId := [128, 129]
theorem cok_ptx : codeOk Tryz.prog G_ptx pl_ptx (Tryz.f71.body.getD .skip) = true := by kernel_rfl
theorem run_ptx (vs : Array Value) (w : World) : (callFunc 71 vs).run C1.P w = .ok (.enter 71 vs) w := by kernel_rfl
set_option maxHeartbeats 4000000 in
theorem ptext_pure (p : Pt) (hl : p.labels.length ≤ 1000) (hll : ∀ x ∈ p.labels, 0 ≤ x ∧ x ≤ 999999) (he : p.edges.length ≤ 1000) (hee : ∀ e ∈ p.edges, (0 ≤ e.a ∧ e.a ≤ 999999) ∧ 0 ≤ e.b ∧ e.b ≤ 999999) : Sx.Pure C3 71 [dPt p] (fun y => y = .str (bs (patB p))) := by
  have hdl : (p.labels.map dI).length = p.labels.length := List.length_map _
  have hde : (p.edges.map dE).length = p.edges.length := List.length_map _
  refine pure_of c3_ok (pl := pl_ptx) (G := G_ptx) Tryz.func71 rfl Tryz.ntmps71 run_ptx cok_ptx (by simp) ?_
  ((conv => whnf); repeat' ((first | refine odw ?_ | refine ify ?_ | refine ifn ?_ | refine i6 ?_ | refine ati ?_ | refine mst ?_ | refine rmd ?_ | refine ibo (fun _ => ?_) (fun _ => ?_)) <;> conv => whnf))
  refine loop_lo (ι := Nat) (fun i => i ≤ p.labels.length) (fun i => [(12, .d (.int .i64 i)), (11, .d (.int .i64 p.labels.length)), (10, .d (dIs p.labels)), (4, .d .nils), (3, .own 300), (1, .own 1)]) (fun i => [(1, .cells 38 [.d (dIs p.labels), .d (dEs p.edges)]), (300, .slice 9 1 (((p.labels.take i).map Lib.itoa).map strD))]) (fun i => p.labels.length - i) 0 (fun _ => rfl) (Nat.zero_le _) (.own 3 300 9 1 rfl rfl (.refl _ _)) ⟨rfl, by rw [← hdl]; rfl, rfl, rfl, rfl, rfl, trivial⟩ ⟨rfl, rfl, trivial⟩ ?_
  intro i hi
  refine sxCode_sound c3_ok (G := G_ptx) (pl := pl_ptx) _ _ _ _ (by kernel_rfl) ?_
  by_cases hil : i < p.labels.length
  · have hx := List.getElem?_eq_getElem hil
    have hxb := hll _ (List.getElem_mem hil)
    generalize p.labels[i] = x at hx hxb
    have hxd : (p.labels.map dI)[i]? = some (.int .i64 x) := by rw [List.getElem?_map, hx]; rfl
    have hit := itoa3_pure x (by omega) (by omega)
    have hlen : (((p.labels.take i).map Lib.itoa).map strD).length = i := by simp only [List.length_map, List.length_take]; omega
    (conv => whnf)
    (repeat' ((first | refine ord_ok (by (conv => whnf); (repeat' ((first | refine at_da hxd rfl ?_ | refine call_eqb tab rfl hit rfl ?_ | refine ify ?_ | refine ifn ?_ | refine i6 ?_ | refine ati ?_ | refine mst ?_ | refine rmd ?_ | refine ibo (fun _ => ?_) (fun _ => ?_)) <;> conv => whnf)); (all_goals (repeat' (first | exact trivial | exact rfl | refine And.intro ?_ ?_)))) ?_ | refine at_da hxd rfl ?_ | refine call_eqb tab rfl hit rfl ?_ | refine ify ?_ | refine ifn ?_ | refine i6 ?_ | refine ati ?_ | refine mst ?_ | refine rmd ?_ | refine ibo (fun _ => ?_) (fun _ => ?_)) <;> conv => whnf))
    refine ⟨i + 1, _, _, by omega, .refl _ _, ⟨rfl, rfl, rfl, rfl, rfl, rfl, trivial⟩, ⟨rfl, slice_is ?_, trivial⟩, by omega⟩
    rw [List.take_add_one, hx]; simp [strD]
  · have e : p.labels.take i = p.labels := List.take_of_length_le (by omega)
    rw [e]
    ((conv => whnf); repeat' ((first | refine odw ?_ | refine ify ?_ | refine ifn ?_ | refine i6 ?_ | refine ati ?_ | refine mst ?_ | refine rmd ?_ | refine ibo (fun _ => ?_) (fun _ => ?_)) <;> conv => whnf))
    refine loop_lo (ι := Nat) (fun i => i ≤ p.edges.length) (fun i => [(25, .d (.int .i64 i)), (24, .d (.int .i64 p.edges.length)), (23, .d (dEs p.edges)), (4, .own 301), (3, .own 300), (1, .own 1)]) (fun i => [(1, .cells 38 [.d (dIs p.labels), .d (dEs p.edges)]), (300, .slice 9 1 ((p.labels.map Lib.itoa).map strD)), (301, .slice 9 1 (((p.edges.take i).map edgB).map strD))]) (fun i => p.edges.length - i) 0 (fun _ => rfl) (Nat.zero_le _) (.own 4 301 9 1 rfl rfl (.refl _ _)) ⟨rfl, by rw [← hde]; rfl, rfl, rfl, rfl, rfl, trivial⟩ ⟨rfl, rfl, rfl, trivial⟩ ?_
    intro j hj
    refine sxCode_sound c3_ok (G := G_ptx) (pl := pl_ptx) _ _ _ _ (by kernel_rfl) ?_
    by_cases hjl : j < p.edges.length
    · have hx := List.getElem?_eq_getElem hjl
      have hxb := hee _ (List.getElem_mem hjl)
      generalize p.edges[j] = e at hx hxb
      have hxd : (p.edges.map dE)[j]? = some (.agg [.int .i64 e.a, .int .i64 e.b]) := by rw [List.getElem?_map, hx]; rfl
      have hia := itoa3_pure e.a (by omega) (by omega)
      have hib := itoa3_pure e.b (by omega) (by omega)
      have la := itoa_len hxb.1.1 hxb.1.2
      have lb := itoa_len hxb.2.1 hxb.2.2
      have za := bs_size (Lib.itoa e.a)
      have zb := bs_size (Lib.itoa e.b)
      have zc : (bs (Lib.itoa e.a) ++ bs [45]).size = (Lib.itoa e.a).length + 1 := by rw [bs_cat, bs_size]; simp
      have hlen : (((p.edges.take j).map edgB).map strD).length = j := by simp only [List.length_map, List.length_take]; omega
      (conv => whnf)
      (repeat' ((first | refine ord_ok (by (conv => whnf); (repeat' ((first | refine at_da hxd rfl ?_ | refine call_eqb tab rfl hia rfl ?_ | refine call_eqb tab rfl hib rfl ?_ | refine cat_ok (a := bs (Lib.itoa e.a)) (b := bs [45]) (by rw [za]; simp [bs_size]; omega) ?_ | refine cat_ok (a := bs (Lib.itoa e.a) ++ bs [45]) (b := bs (Lib.itoa e.b)) (by omega) ?_ | refine ify ?_ | refine ifn ?_ | refine i6 ?_ | refine ati ?_ | refine mst ?_ | refine rmd ?_ | refine ibo (fun _ => ?_) (fun _ => ?_)) <;> conv => whnf)); (all_goals (repeat' (first | exact trivial | exact rfl | refine And.intro ?_ ?_)))) ?_ | refine at_da hxd rfl ?_ | refine call_eqb tab rfl hia rfl ?_ | refine call_eqb tab rfl hib rfl ?_ | refine cat_ok (a := bs (Lib.itoa e.a)) (b := bs [45]) (by rw [za]; simp [bs_size]; omega) ?_ | refine cat_ok (a := bs (Lib.itoa e.a) ++ bs [45]) (b := bs (Lib.itoa e.b)) (by omega) ?_ | refine ify ?_ | refine ifn ?_ | refine i6 ?_ | refine ati ?_ | refine mst ?_ | refine rmd ?_ | refine ibo (fun _ => ?_) (fun _ => ?_)) <;> conv => whnf))
      refine ⟨j + 1, _, _, by omega, .refl _ _, ⟨rfl, rfl, rfl, rfl, rfl, rfl, trivial⟩, ⟨rfl, rfl, slice_is ?_, trivial⟩, by omega⟩
      have hs : strD (edgB e) = .str ((bs (Lib.itoa e.a) ++ bs [45]) ++ bs (Lib.itoa e.b)) := by unfold strD edgB; rw [bs_cat, bs_cat]; simp
      rw [List.take_add_one, hx, List.map_append, List.map_append]
      show _ = _ ++ [strD (edgB e)]
      rw [hs]; rfl
    · have e : p.edges.take j = p.edges := List.take_of_length_le (by omega)
      rw [e]
      have l1 := join_len (m := 6) [44] (p.labels.map Lib.itoa) (fun x hx => by
        obtain ⟨y, hy, rfl⟩ := List.mem_map.1 hx
        exact itoa_len (hll y hy).1 (hll y hy).2)
      have l2 := join_len (m := 13) [44] (p.edges.map edgB) (fun x hx => by
        obtain ⟨y, hy, rfl⟩ := List.mem_map.1 hx
        have := hee y hy
        have h1 := itoa_len this.1.1 this.1.2
        have h2 := itoa_len this.2.1 this.2.2
        unfold edgB
        rw [List.length_append, List.length_cons]; omega)
      rw [List.length_map, List.length_singleton] at l1 l2
      have j1 := join_pure C3 rfl (p.labels.map Lib.itoa) [44] (by rw [List.length_map]; omega) (by omega)
      have j2 := join_pure C3 rfl (p.edges.map edgB) [44] (by rw [List.length_map]; omega) (by omega)
      have z1 := bs_size (Lib.join (p.labels.map Lib.itoa) [44])
      have z2 := bs_size (Lib.join (p.edges.map edgB) [44])
      have z3 : (bs (Lib.join (p.labels.map Lib.itoa) [44]) ++ bs [124]).size = (Lib.join (p.labels.map Lib.itoa) [44]).length + 1 := by rw [bs_cat, bs_size]; simp
      (conv => whnf)
      (repeat' ((first | refine ord_ok (by (conv => whnf); (repeat' ((first | refine call_frz 300 rfl ?_ | refine call_frz 301 rfl ?_ | refine call_eq rfl j1 ?_ | refine call_eq rfl j2 ?_ | refine cat_ok (a := bs (Lib.join (p.labels.map Lib.itoa) [44])) (b := bs [124]) (by rw [z1]; simp [bs_size]; omega) ?_ | refine cat_ok (a := bs (Lib.join (p.labels.map Lib.itoa) [44]) ++ bs [124]) (b := bs (Lib.join (p.edges.map edgB) [44])) (by omega) ?_ | refine ify ?_ | refine ifn ?_ | refine i6 ?_ | refine ati ?_ | refine mst ?_ | refine rmd ?_ | refine ibo (fun _ => ?_) (fun _ => ?_)) <;> conv => whnf)); (all_goals (repeat' (first | exact trivial | exact rfl | refine And.intro ?_ ?_)))) ?_ | refine call_frz 300 rfl ?_ | refine call_frz 301 rfl ?_ | refine call_eq rfl j1 ?_ | refine call_eq rfl j2 ?_ | refine cat_ok (a := bs (Lib.join (p.labels.map Lib.itoa) [44])) (b := bs [124]) (by rw [z1]; simp [bs_size]; omega) ?_ | refine cat_ok (a := bs (Lib.join (p.labels.map Lib.itoa) [44]) ++ bs [124]) (b := bs (Lib.join (p.edges.map edgB) [44])) (by omega) ?_ | refine ify ?_ | refine ifn ?_ | refine i6 ?_ | refine ati ?_ | refine mst ?_ | refine rmd ?_ | refine ibo (fun _ => ?_) (fun _ => ?_)) <;> conv => whnf))
      show Da.plain (.str ((bs _ ++ bs [124]) ++ bs _)) = _
      unfold patB
      rw [bs_cat, bs_cat]
      simp [Da.plain]
end Go.Proofs.YteigfapjiekdnaaGreatDoor
end
