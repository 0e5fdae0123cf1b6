/- Merged: Pmg Lnp Lnm Qtp Lst Scp Str Num Gvr. -/
import Derived.Test.YteigfapjiekdnaaGreatDoorKfaw
import Derived.Test.YteigfapjiekdnaaGreatDoorKfay
import Derived.Test.YteigfapjiekdnaaGreatDoorKfak
import Derived.Test.YteigfapjiekdnaaGreatDoorKfam
import Derived.Test.YteigfapjiekdnaaGreatDoorKfax
import Derived.Test.YteigfapjiekdnaaGreatDoorKfaj
import Derived.Shelf.Strings.OnBuilder
import Derived.Shelf.Strconv.Itoa3
import Derived.Test.YteigfapjiekdnaaGreatDoorRows
import Derived.Lib.ItoaNum
import Derived.Lib.AtoiAll
import Derived.Lib.IndexMore
import Derived.Test.YteigfapjiekdnaaGreatDoorSxu
import Derived.Test.YteigfapjiekdnaaGreatDoorCtx
import Derived.Lib.LaidTab
section
/- pat.Make of any right edges: each is put where it belongs. -/
namespace Go.Proofs.YteigfapjiekdnaaGreatDoor
open Go.Sx Go.RowKit Go.Reg Go.Gr

set_option maxRecDepth 100000
theorem edgesI_cs {O : List Nat} {w : World} : ∀ {l : List Edg} {css : List (List Value)}, RepCss O w (l.map dE) css → css = l.map encEI
  | [], css, h => by simpa only [List.map_nil, RepCss] using h
  | e :: l, css, h => by
    simp only [List.map_cons, RepCss, dE, RepC, RepCs] at h
    obtain ⟨c1, c2, rfl, ⟨a1, a2, rfl, rfl, b1, b2, rfl, rfl, rfl⟩, h⟩ := h
    rw [edgesI_cs h]; rfl
theorem cssI_edges (O : List Nat) (w : World) : ∀ l : List Edg, RepCss O w (l.map dE) (l.map encEI)
  | [] => by simp [RepCss]
  | e :: l => by
    simp only [List.map_cons, RepCss, dE, RepC, RepCs]
    exact ⟨_, _, rfl, ⟨_, _, rfl, rfl, _, _, rfl, rfl, rfl⟩, cssI_edges O w l⟩
theorem edgesI_sl {E : Nat} {w : World} {v : Value} {l : List Edg} : Sl E 2 id w v (l.map encEI) ↔ Sl E 2 encEI w v l := by
  unfold Sl
  rw [List.length_map, List.flatMap_map]
  exact Iff.rfl
theorem insert_eat (l : List Edg) (hl : l.length ≤ 4294967296) (e : Edg) (i : Nat) (hi : i ≤ l.length) :
    EatSl C1 139 40 2 (l.map dE) [.int .i64 i, .list 2 [dE e]] (fun ds => ds = (l.take i ++ e :: l.drop i).map dE) := by
  intro O w v css us hs hb hO hr hk hg hus
  obtain rfl := edgesI_cs hr
  obtain ⟨v1, vs, rfl, h1, h2⟩ := reps_inv hus
  obtain ⟨v2, vs2, rfl, h3, h4⟩ := reps_inv h2
  obtain rfl := reps_inv0 h4
  obtain rfl := rep_int h1
  obtain ⟨cs, r, rfl⟩ := h3
  simp only [RepC] at r
  obtain ⟨a, cap, css, rfl, hlc, hcm, hcs, hrow, hd⟩ := r
  have hcs' : css = [encEI e] := edgesI_cs (l := [e]) hcs
  subst hcs'
  rcases hd with hd | ⟨vb, vo, rfl, hvb, hvl, hcell⟩
  · cases hd
  refine ⟨enters_of Tryz.func139 (by kernel_rfl) rfl _ _, ?_⟩
  refine (insert_ok v l e i hi w (edgesI_sl.1 hs) hl vb vo cap (fun hm => hvb (hb vb hm)) (fun j u hj => hcell j u (by simpa using hj))).mono ?_
  rintro x w' ⟨v', rfl, hs', ht, hb'⟩
  refine ⟨v', _, (l.take i ++ e :: l.drop i).map encEI, rfl, rfl, edgesI_sl.2 hs', hb', cssI_edges _ _ _, fun y hy => ?_, ht⟩
  obtain ⟨z, _, rfl⟩ := List.mem_map.1 hy
  exact ⟨encEI_len z, encEI_one z⟩
theorem flatsI_edges (l : List Edg) : flats (l.map dE) = true := flats_map _ (fun _ => rfl) _
def pl_pmg : List (Nat × Plan) := [(8, .leaf [0, 1, 1, 2, 2, 0, 0, 0, 0, 0] [0, 1, 2, 3, 4, 5, 6, 7, 8, 9] [0, 1, 0, 4, 15, 31, 63, 63, 127, 511]),
  (13, .leaf [0, 1, 0, 1, 2, 6, 3, 0, 3] [0, 2, 1, 3, 4, 5, 6, 7, 8] [0, 1, 0, 0, 8, 24, 63, 127, 255])]
def G_pmg : List FuncId := [69, 138, 73]
theorem cok_pmg : codeOk Tryz.prog G_pmg pl_pmg (Tryz.f96.body.getD .skip) = true := by kernel_rfl
theorem run_pmg (vs : Array Value) (w : World) : (callFunc 96 vs).run C1.P w = .ok (.enter 96 vs) w := by kernel_rfl
set_option maxHeartbeats 4000000 in
theorem pmake_pure (l : List Int) (hl : lErr l = none) (E : List Edg) (hE : E.length ≤ 1000) (hw : ∀ e ∈ E, (0 ≤ min e.a e.b ∧ max e.a e.b < (l.length : Int)) ∧ e.a ≠ e.b) (hn : (E.map turn).Nodup) :
    Pure C1 96 [dIs l, dEs E] (fun y => y = .tuple [dPt ⟨l, (E.map turn).foldl insE []⟩, .nili]) := by
  have hdl : (l.map dI).length = l.length := List.length_map _
  have hdE : (E.map dE).length = E.length := List.length_map _
  have h8 := (lErr_none hl).1
  have hlb := plabels_pure l (by omega)
  rw [show labelsY l = .nili by unfold labelsY; rw [hl]] at hlb
  refine pure_of c1_ok (pl := pl_pmg) (G := G_pmg) Tryz.func96 rfl Tryz.ntmps96 run_pmg cok_pmg (by simp) ?_
  (conv => whnf)
  (repeat' ((first | refine ord_ok (by (conv => whnf); (repeat' ((first | refine call_eq rfl hlb ?_ | refine ify ?_ | refine ifn ?_ | refine i6 ?_ | refine ati ?_ | refine mst ?_ | refine rmd ?_ | refine ibo (fun _ => ?_) (fun _ => ?_)) <;> conv => whnf)); (all_goals (repeat' (first | exact trivial | exact rfl | refine And.intro ?_ ?_)))) ?_ | refine call_eq rfl hlb ?_ | refine ify ?_ | refine ifn ?_ | refine i6 ?_ | refine ati ?_ | refine mst ?_ | refine rmd ?_ | refine ibo (fun _ => ?_) (fun _ => ?_)) <;> conv => whnf))
  refine call_mksl 19 rfl rfl (clone_sl l (by omega)) ?_
  rintro ds rfl
  ((conv => whnf); repeat' ((first | refine odw ?_ | refine ify ?_ | refine ifn ?_ | refine i6 ?_ | refine ati ?_ | refine mst ?_ | refine rmd ?_ | refine ibo (fun _ => ?_) (fun _ => ?_)) <;> conv => whnf))
  refine loop_lo (ι := Nat) (fun i => i ≤ E.length) (fun i => [(23, .d (.int .i64 i)), (22, .d (.int .i64 E.length)), (21, .d (dEs E)), (7, .own 7), (4, .own 4), (0, .d (dIs l))]) (fun i => [(4, .cells 38 [.d .nils, .d .nils]), (7, .cells 38 [.d (dIs l), .own 300]), (300, .slice 40 2 ((accE E i).map dE))]) (fun i => E.length - i) 0 (fun _ => rfl) (Nat.zero_le _) (.frz 19 rfl (.ownc 7 300 40 2 rfl rfl (.there _ (.here _)) (.refl _ _))) ⟨rfl, by rw [← hdE]; rfl, rfl, rfl, rfl, rfl, trivial⟩ ⟨rfl, rfl, rfl, trivial⟩ ?_
  intro i hi
  refine sxCode_sound c1_ok (G := G_pmg) (pl := pl_pmg) _ _ _ _ (by kernel_rfl) ?_
  obtain ⟨hst, hpe⟩ := accE_ok hn i
  have hal : (accE E i).length = i := by rw [hpe.length_eq, List.length_map, List.length_take]; omega
  have hald : ((accE E i).map dE).length = i := by rw [List.length_map, hal]
  by_cases hil : i < E.length
  · have hx := List.getElem?_eq_getElem hil
    have hxw := hw E[i] (List.getElem_mem hil)
    have hstep := accE_step hx
    have hnot : turn E[i] ∉ accE E i := fun hm => by
      have := hpe.mem_iff.1 hm
      rw [List.map_take] at this
      obtain ⟨j, hj, he⟩ := List.mem_take_iff_getElem.1 this
      have hj' : j < i := by omega
      have hij : (E.map turn)[j]? = (E.map turn)[i]? := by
        rw [List.getElem?_eq_getElem (by simp; omega), List.getElem?_eq_getElem (by simp; omega), he]; simp
      have := (List.getElem?_inj (by simp; omega) hn).1 hij
      omega
    generalize E[i] = x at hx hxw hstep hnot
    have hxd : (E.map dE)[i]? = some (.agg [.int .i64 x.a, .int .i64 x.b]) := by rw [List.getElem?_map, hx]; rfl
    have htu := pturned_pure x
    have hbs := bsearchO_pure _ porder_pure (accE E i) hst (by omega) (turn x)
    rw [decide_eq_false hnot] at hbs
    have hwi := within_pure x l.length
    rw [decide_eq_true hxw.1, ← hdl] at hwi
    have hlt := lts_le (accE E i) (turn x)
    have hin := insert_eat (accE E i) (by omega) (turn x) (ltsB (accE E i) (turn x)) hlt
    rw [show (accE E i).take (ltsB (accE E i) (turn x)) ++ turn x :: (accE E i).drop (ltsB (accE E i) (turn x)) = accE E (i + 1) from hstep.symm] at hin
    have hne := hxw.2
    (conv => whnf)
    (repeat' ((first | refine ord_ok (by (conv => whnf); (repeat' ((first | refine at_da hxd rfl ?_ | refine call_eq rfl htu ?_ | refine call_eqb tab rfl hbs rfl ?_ | refine call_eq rfl hwi ?_ | refine call_frz 62 rfl ?_ | refine ify ?_ | refine ifn ?_ | refine i6 ?_ | refine ati ?_ | refine mst ?_ | refine rmd ?_ | refine ibo (fun _ => ?_) (fun _ => ?_)) <;> conv => whnf)); (all_goals (repeat' (first | exact trivial | exact rfl | refine And.intro ?_ ?_)))) ?_ | refine at_da hxd rfl ?_ | refine call_eq rfl htu ?_ | refine call_eqb tab rfl hbs rfl ?_ | refine call_eq rfl hwi ?_ | refine call_frz 62 rfl ?_ | refine ify ?_ | refine ifn ?_ | refine i6 ?_ | refine ati ?_ | refine mst ?_ | refine rmd ?_ | refine ibo (fun _ => ?_) (fun _ => ?_)) <;> conv => whnf))
    refine call_eatb tab rfl rfl hin (fun ds h => by subst h; exact flatsI_edges _) ?_
    rintro ds rfl
    ((conv => whnf); repeat' ((first | refine odw ?_ | refine ify ?_ | refine ifn ?_ | refine i6 ?_ | refine ati ?_ | refine mst ?_ | refine rmd ?_ | refine ibo (fun _ => ?_) (fun _ => ?_)) <;> conv => whnf))
    exact ⟨i + 1, _, _, by omega, .refl _ _, ⟨rfl, rfl, rfl, rfl, rfl, rfl, trivial⟩, ⟨rfl, rfl, rfl, trivial⟩, by omega⟩
  · have hie : i = E.length := by omega
    subst hie
    have e : accE E E.length = (E.map turn).foldl insE [] := by unfold accE; rw [List.take_length]
    rw [e]
    ((conv => whnf); repeat' ((first | refine odw ?_ | refine ify ?_ | refine ifn ?_ | refine i6 ?_ | refine ati ?_ | refine mst ?_ | refine rmd ?_ | refine ibo (fun _ => ?_) (fun _ => ?_)) <;> conv => whnf))
    exact rfl
end Go.Proofs.YteigfapjiekdnaaGreatDoor
end

section
/- Line graphs: plain laws: which lists of edges are linked. -/
namespace Go.Proofs.YteigfapjiekdnaaGreatDoor
open Go.Gr
theorem linkN_pre {G : Gr} {l : List Int} (h : linkedV G l = true) {k : Nat} {v : Int} (hx : l[k]? = some v) : linkAt G l k v = true := by
  cases hh : linkAt G l k v with
  | true => rfl
  | false => rw [linkedV_no hx hh] at h; cases h
end Go.Proofs.YteigfapjiekdnaaGreatDoor
end

section
/- Patterns of lists, plain: what Make makes of a list's edges is what the document says. -/
namespace Go.Gr
theorem rowF_strict (f : Nat → Nat → Bool) (a b : Nat) : Strict (rowF f a b) := by
  unfold Strict rowF
  rw [List.pairwise_map]
  refine List.Pairwise.imp ?_ (List.Pairwise.filter _ List.pairwise_lt_range)
  intro x y h
  rw [cmpE_lt]
  exact .inr ⟨rfl, by show (x : Int) < y; omega⟩
theorem rowsF_strict (f : Nat → Nat → Bool) (n a : Nat) : Strict (rowsF f n a) := by
  unfold rowsF Strict
  rw [List.pairwise_flatMap]
  refine ⟨fun j _ => rowF_strict f j n, List.Pairwise.imp ?_ List.pairwise_lt_range⟩
  intro i j hij x hx y hy
  simp only [rowF, List.mem_map] at hx hy
  obtain ⟨_, _, rfl⟩ := hx
  obtain ⟨_, _, rfl⟩ := hy
  rw [cmpE_lt]
  exact .inl (by show (i : Int) < j; omega)
theorem mem_colsF {f : Nat → Nat → Bool} {n : Nat} {e : Edg} : e ∈ colsF f n ↔ ∃ k i : Nat, i < n ∧ k < i ∧ f k i = true ∧ e = ⟨(k : Int), (i : Int)⟩ := by
  simp only [colsF, colF, List.mem_flatMap, List.mem_range, List.mem_map, List.mem_filter]
  constructor
  · rintro ⟨i, hi, k, ⟨h1, h2⟩, rfl⟩; exact ⟨k, i, hi, h1, h2, rfl⟩
  · rintro ⟨k, i, hi, h1, h2, rfl⟩; exact ⟨i, hi, k, ⟨h1, h2⟩, rfl⟩
theorem colsF_nodup (f : Nat → Nat → Bool) (n : Nat) : (colsF f n).Nodup := by
  unfold colsF List.Nodup
  rw [List.pairwise_flatMap]
  refine ⟨fun i _ => ?_, List.Pairwise.imp ?_ List.pairwise_lt_range⟩
  · unfold colF
    rw [List.pairwise_map]
    refine List.Pairwise.imp ?_ (List.Pairwise.filter _ List.pairwise_lt_range)
    intro x y h e
    have : (x : Int) = y := congrArg Edg.a e
    omega
  · intro i j hij x hx y hy e
    simp only [colF, List.mem_map] at hx hy
    obtain ⟨a, _, rfl⟩ := hx
    obtain ⟨b, _, rfl⟩ := hy
    have : (i : Int) = j := congrArg Edg.b e
    omega
/-- made of edges: a list that rises, of those edges -/
theorem made_is {L R : List Edg} (hn : (L.map turn).Nodup) (hR : Strict R) (h : ∀ x, x ∈ L.map turn ↔ x ∈ R) : (L.map turn).foldl insE [] = R := by
  obtain ⟨h1, h2⟩ := fold_ins _ hn [] List.Pairwise.nil (by simp)
  refine strict_mem_eq h1 hR fun x => ?_
  rw [h2.mem_iff, List.append_nil]
  exact h x
theorem colsF_turn (f : Nat → Nat → Bool) (n : Nat) : (colsF f n).map turn = colsF f n := by
  have : ∀ e ∈ colsF f n, turn e = id e := fun e he => by
    obtain ⟨k, i, _, h, _, rfl⟩ := mem_colsF.1 he
    exact turn_lt (show (k : Int) ≤ i by omega)
  rw [List.map_congr_left this, List.map_id]
theorem made_cols {E : List Edg} (hE : ∀ e ∈ E, e.a < e.b) (l : List Int) : ((colsF (adjF E l) l.length).map turn).foldl insE [] = madeE E l := by
  refine made_is (by rw [colsF_turn]; exact colsF_nodup _ _) (rowsF_strict _ _ _) fun x => ?_
  rw [colsF_turn, mem_colsF]
  unfold madeE
  rw [mem_rowsF]
  constructor
  · rintro ⟨k, i, h1, h2, h3, rfl⟩
    exact ⟨k, i, by omega, h1, h2, by unfold pairF; rw [hasR_turn hE]; exact h3, rfl⟩
  · rintro ⟨j, x, h0, h1, h2, h3, rfl⟩
    unfold pairF at h3
    rw [hasR_turn hE] at h3
    exact ⟨j, x, h1, h2, h3, rfl⟩
end Go.Gr
end

section
/-
  DERIVED: THE SHELF's CONTRACTS AT THIS DUMP, IN PLAIN WORDS (tools/lay-plain.mjs out of 'YteigfapjiekdnaaGreatDoorLstTmp.lean', which tools/lay-shelf.mjs wrote): THE SAME DECLARATIONS UNDER THE SAME NAMES: 'import', 'namespace', 'open', 'def', 'theorem' AND NOTHING ELSE: no command of the shelf's: FOR A HAND-IN. Each laying: the table of numbers ('.._ren') and one theorem, a field a fact of the dump's own or the kernel's comparison; each contract: ONE APPLICATION.
-/
namespace Go.Proofs
open Go.Shelf
def Tryz.joinL_ren : Go.Shelf.Ren := ⟨fun | 156 => 129 | 165 => 153 | 166 => 154 | 169 => 155 | 240 => 184 | 241 => 185 | 276 => 202 | 277 => 203 | n => n, fun | 31 => 165 | 9 => 9 | 3 => 3 | 4 => 4 | 0 => 0 | 20 => 20 | 72 => 190 | 76 => 34 | 70 => 187 | 37 => 188 | 75 => 33 | 127 => 226 | 164 => 207 | 5 => 5 | 80 => 193 | n => n, fun | n => n⟩
theorem Tryz.joinL : Go.Proofs.Lays.n156 Tryz.prog Tryz.joinL_ren := {
  mixed := by kernel_rfl
  f156 := Tryz.func129.trans (congrArg some (by kernel_rfl))
  f165 := Tryz.func153.trans (congrArg some (by kernel_rfl))
  f166 := Tryz.func154.trans (congrArg some (by kernel_rfl))
  f169 := Tryz.func155.trans (congrArg some (by kernel_rfl))
  f240 := Tryz.func184.trans (congrArg some (by kernel_rfl))
  f241 := Tryz.func185.trans (congrArg some (by kernel_rfl))
  f276 := Tryz.func202.trans (congrArg some (by kernel_rfl))
  f277 := Tryz.func203.trans (congrArg some (by kernel_rfl))
  t0 := Tryz.underlying0
  a0 := Tryz.isAgg0
  z0 := Tryz.sizeOf0
  v0 := Tryz.zeroValue0
  t3 := Tryz.underlying3
  a3 := Tryz.isAgg3
  z3 := Tryz.sizeOf3
  v3 := Tryz.zeroValue3
  t4 := Tryz.underlying4
  a4 := Tryz.isAgg4
  z4 := Tryz.sizeOf4
  v4 := Tryz.zeroValue4
  t9 := Tryz.underlying9
  a9 := Tryz.isAgg9
  z9 := Tryz.sizeOf9
  v9 := Tryz.zeroValue9
  t20 := Tryz.underlying20
  a20 := Tryz.isAgg20
  z20 := Tryz.sizeOf20
  v20 := Tryz.zeroValue20
  t31 := Tryz.underlying165
  a31 := Tryz.isAgg165
  z31 := Tryz.sizeOf165
  v31 := Tryz.zeroValue165
  t37 := Tryz.underlying188
  a37 := Tryz.isAgg188
  z37 := Tryz.sizeOf188
  v37 := Tryz.zeroValue188
  t70 := Tryz.underlying187
  a70 := Tryz.isAgg187
  z70 := Tryz.sizeOf187
  v70 := Tryz.zeroValue187
  t72 := Tryz.underlying190
  a72 := Tryz.isAgg190
  z72 := Tryz.sizeOf190
  v72 := Tryz.zeroValue190
  t75 := Tryz.underlying33
  a75 := Tryz.isAgg33
  z75 := Tryz.sizeOf33
  v75 := Tryz.zeroValue33
  t76 := Tryz.underlying34
  a76 := Tryz.isAgg34
  z76 := Tryz.sizeOf34
  v76 := Tryz.zeroValue34
  t127 := Tryz.underlying226
  a127 := Tryz.isAgg226
  z127 := Tryz.sizeOf226
  v127 := Tryz.zeroValue226
  t164 := Tryz.underlying207
  a164 := Tryz.isAgg207
  z164 := Tryz.sizeOf207
  v164 := Tryz.zeroValue207 }
def Tryz.itoaL_ren : Go.Shelf.Ren := ⟨fun | 171 => 128 | 243 => 152 | 246 => 183 | 283 => 198 | 284 => 199 | 285 => 200 | 286 => 201 | 129 => 166 | 317 => 207 | 318 => 208 | 319 => 209 | 320 => 210 | 337 => 211 | 338 => 212 | n => n, fun | 3 => 3 | 9 => 9 | 2 => 2 | 4 => 4 | 171 => 249 | 0 => 0 | 53 => 204 | 37 => 188 | 5 => 5 | 173 => 251 | 212 => 260 | 51 => 202 | 20 => 20 | 213 => 261 | 46 => 156 | 232 => 262 | 233 => 263 | n => n, fun | 17 => 1 | 18 => 3 | 19 => 4 | n => n⟩
theorem Tryz.itoaL : Go.Proofs.LaysM.n171 Tryz.prog Tryz.itoaL_ren := {
  mixed := by kernel_rfl
  f129 := Tryz.func166.trans (congrArg some (by kernel_rfl))
  f171 := Tryz.func128.trans (congrArg some (by kernel_rfl))
  f243 := Tryz.func152.trans (congrArg some (by kernel_rfl))
  f246 := Tryz.func183.trans (congrArg some (by kernel_rfl))
  f283 := Tryz.func198.trans (congrArg some (by kernel_rfl))
  f284 := Tryz.func199.trans (congrArg some (by kernel_rfl))
  f285 := Tryz.func200.trans (congrArg some (by kernel_rfl))
  f286 := Tryz.func201.trans (congrArg some (by kernel_rfl))
  f317 := Tryz.func207.trans (congrArg some (by kernel_rfl))
  f318 := Tryz.func208.trans (congrArg some (by kernel_rfl))
  f319 := Tryz.func209.trans (congrArg some (by kernel_rfl))
  f320 := Tryz.func210.trans (congrArg some (by kernel_rfl))
  f337 := Tryz.func211.trans (congrArg some (by kernel_rfl))
  f338 := Tryz.func212.trans (congrArg some (by kernel_rfl))
  t0 := Tryz.underlying0
  a0 := Tryz.isAgg0
  z0 := Tryz.sizeOf0
  v0 := Tryz.zeroValue0
  t2 := Tryz.underlying2
  a2 := Tryz.isAgg2
  z2 := Tryz.sizeOf2
  v2 := Tryz.zeroValue2
  t3 := Tryz.underlying3
  a3 := Tryz.isAgg3
  z3 := Tryz.sizeOf3
  v3 := Tryz.zeroValue3
  t4 := Tryz.underlying4
  a4 := Tryz.isAgg4
  z4 := Tryz.sizeOf4
  v4 := Tryz.zeroValue4
  t5 := Tryz.underlying5
  a5 := Tryz.isAgg5
  z5 := Tryz.sizeOf5
  v5 := Tryz.zeroValue5
  t9 := Tryz.underlying9
  a9 := Tryz.isAgg9
  z9 := Tryz.sizeOf9
  v9 := Tryz.zeroValue9
  t20 := Tryz.underlying20
  a20 := Tryz.isAgg20
  z20 := Tryz.sizeOf20
  v20 := Tryz.zeroValue20
  t37 := Tryz.underlying188
  a37 := Tryz.isAgg188
  z37 := Tryz.sizeOf188
  v37 := Tryz.zeroValue188
  t46 := Tryz.underlying156
  a46 := Tryz.isAgg156
  z46 := Tryz.sizeOf156
  v46 := Tryz.zeroValue156
  t51 := Tryz.underlying202
  a51 := Tryz.isAgg202
  z51 := Tryz.sizeOf202
  v51 := Tryz.zeroValue202
  t53 := Tryz.underlying204
  a53 := Tryz.isAgg204
  z53 := Tryz.sizeOf204
  v53 := Tryz.zeroValue204
  t171 := Tryz.underlying249
  a171 := Tryz.isAgg249
  z171 := Tryz.sizeOf249
  v171 := Tryz.zeroValue249
  t173 := Tryz.underlying251
  a173 := Tryz.isAgg251
  z173 := Tryz.sizeOf251
  v173 := Tryz.zeroValue251
  t212 := Tryz.underlying260
  a212 := Tryz.isAgg260
  z212 := Tryz.sizeOf260
  v212 := Tryz.zeroValue260
  t213 := Tryz.underlying261
  a213 := Tryz.isAgg261
  z213 := Tryz.sizeOf261
  t232 := Tryz.underlying262
  a232 := Tryz.isAgg262
  z232 := Tryz.sizeOf262
  v232 := Tryz.zeroValue262
  t233 := Tryz.underlying263
  a233 := Tryz.isAgg263
  z233 := Tryz.sizeOf263
  v233 := Tryz.zeroValue263
  g17 := by kernel_rfl
  g18 := by kernel_rfl
  g19 := by kernel_rfl
  i0 := by kernel_rfl
  i2 := by kernel_rfl
  i3 := by kernel_rfl
  i4 := by kernel_rfl
  i5 := by kernel_rfl
  i9 := by kernel_rfl
  i20 := by kernel_rfl
  i37 := by kernel_rfl
  i46 := by kernel_rfl
  i51 := by kernel_rfl
  i53 := by kernel_rfl
  i171 := by kernel_rfl
  i173 := by kernel_rfl
  i212 := by kernel_rfl
  i232 := by kernel_rfl
  i233 := by kernel_rfl
  m17 := by kernel_rfl
  m18 := by kernel_rfl
  m19 := by kernel_rfl }
end Go.Proofs
end

section
/- Scripts, plain: bytes, words, lines, texts; what a text's parse is. -/
namespace Go.Gr
open Go
/-- a string of bytes -/
def bs (l : List UInt8) : ByteArray := ⟨l.toArray⟩
theorem bs_cat (a b : List UInt8) : bs a ++ bs b = bs (a ++ b) := by
  apply ByteArray.ext
  rw [ByteArray.data_append]
  simp [bs]
theorem bs_size (a : List UInt8) : (bs a).size = a.length := by simp [bs, ByteArray.size]
/-- words of kinds -/
def nmB : Nat → List UInt8
  | 0 => [119, 111, 114, 107]
  | 1 => [100, 101, 108, 105, 118, 101, 114]
  | 2 => [100, 111, 117, 98, 108, 101]
  | 3 => [99, 114, 97, 115, 104]
  | 4 => [112, 97, 115, 115]
  | _ => [102, 105, 110, 105, 115, 104]
/-- the line of an act, without its end -/
def lnB (k n : Nat) : List UInt8 := if k < 4 then nmB k ++ 32 :: Lib.decDigits n else nmB k

theorem dd_len6 (n : Nat) (h : n ≤ 999999) : (Lib.decDigits n).length ≤ 6 := by
  rw [Lib.decDigits_length]
  rcases Nat.lt_or_ge 6 (Lib.nDigits n) with h1 | h1
  · exfalso
    have h2 : ∀ k m : Nat, k < Lib.nDigits m → 10 ^ k ≤ m ∨ k = 0 := by
      intro k
      induction k with
      | zero => intro m _; exact .inr rfl
      | succ k ih =>
        intro m hm
        left
        by_cases h10 : m < 10
        · rw [Lib.nDigits_small h10] at hm; omega
        · rw [Lib.nDigits_big h10] at hm
          rcases ih (m / 10) (by omega) with h3 | h3
          · rw [Nat.pow_succ]
            have := Nat.mul_le_mul_right 10 h3
            omega
          · subst h3; omega
    rcases h2 6 n h1 with h3 | h3
    · omega
    · omega
  · exact h1
/-- acts that are right -/
def actOk (p : Nat × Nat) : Prop := p.1 < 6 ∧ p.2 ≤ 999999 ∧ (3 < p.1 → p.2 = 0)
def IsAct (b : List UInt8) (p : Nat × Nat) : Prop := actOk p ∧ b = lnB p.1 p.2
/-- what a text's parse is: its acts ahead of the first line that is none; is there no such line? -/
inductive Pars : List UInt8 → List (Nat × Nat) → Bool → Prop
  | nil : Pars [] [] true
  | line {b : List UInt8} {p : Nat × Nat} {r : List UInt8} {l : List (Nat × Nat)} {ok : Bool} : IsAct b p → Pars r l ok → Pars (b ++ 10 :: r) (p :: l) ok
  | bad {b r : List UInt8} : 10 ∉ b → (∀ p, ¬ IsAct b p) → Pars (b ++ 10 :: r) [] false
  | last {b : List UInt8} : 10 ∉ b → b ≠ [] → Pars b [] false
end Go.Gr
end

section
/- ref05: Num · ref25: Line. -/
namespace Go.Sx
open Go
theorem cat_ok {a b : ByteArray} {K : Prop} (h : a.size + b.size ≤ 9223372036854775807) (hK : K) : a.size + b.size ≤ 9223372036854775807 ∧ K := ⟨h, hK⟩
end Go.Sx
end

section
/- What a variable's block holds, as a walk knows it. -/
namespace Go.Proofs.YteigfapjiekdnaaGreatDoor
open Go.Sx Go.RowKit Go.Reg Go.Gr

set_option maxRecDepth 100000
theorem glob_at {C : Cx} {O : List Nat} {w : World} {p : Nat × Da} (h : Glob C O w) (hp : p ∈ C.Γ) : ∃ c, RepC O w p.2 c ∧ Cells w p.1 0 c ∧ ∃ cs t fr, w.heap[p.1]? = some (.cells cs t fr) ∧ cs.size = gsz p.2 := by
  obtain ⟨⟨cs, h1, h2⟩, _, h3⟩ := h p hp
  simp only [RepC] at h1
  obtain ⟨b, o, c, rfl, _, _, h4, h5⟩ := h1
  simp only [toV, List.headD_cons, Value.pointer.injEq, Option.some.injEq, Addr.mk.injEq, and_true] at h2
  obtain ⟨h6, rfl⟩ := h2
  subst h6
  exact ⟨c, h4, h5, h3⟩
theorem ints_cells {O : List Nat} {w : World} {k : IntKind} : ∀ {l : List Int} {c : List Value}, RepCs O w (l.map (Da.int k)) c → c = l.map (Value.int k)
  | [], c, h => by simpa only [List.map_nil, RepCs] using h
  | x :: l, c, h => by
    simp only [List.map_cons, RepCs, RepC] at h
    obtain ⟨c1, c2, rfl, rfl, h⟩ := h
    rw [ints_cells h]; rfl
theorem tab_of {P : Program} {C : Cx} {O : List Nat} {w : World} {g : Nat} {k : IntKind} {l : List Int} {name : String} (h : Glob C O w) (hp : (g, .agg (l.map (Da.int k))) ∈ C.Γ) (hn : P.globalNamed name = some g) : Lib.TabIs P w name k l := by
  obtain ⟨c, h1, h2, cs, t, fr, h3, h4⟩ := glob_at h hp
  simp only [RepC] at h1
  have hc := ints_cells h1
  subst hc
  unfold Lib.TabIs World.var?
  rw [hn, Option.bind_some]
  rw [h3]
  simp only [Option.some.injEq]
  have hsz : cs.size = l.length := by rw [h4]; simp [gsz]
  apply Array.ext
  · simp [hsz]
  · intro i h5 h6
    have := h2 i (Value.int k (l[i]'(by omega))) (by rw [List.getElem?_map, List.getElem?_eq_getElem (by omega)]; rfl)
    simp only [World.cell?, h3, Nat.zero_add] at this
    rw [Array.getElem?_eq_getElem h5] at this
    simpa using this
theorem rep_str {O : List Nat} {w : World} {s : ByteArray} {v : Value} (h : Rep O w (.str s) v) : v = .string s := by
  obtain ⟨cs, h1, rfl⟩ := h
  simp only [RepC] at h1
  subst h1; rfl
end Go.Proofs.YteigfapjiekdnaaGreatDoor
end
