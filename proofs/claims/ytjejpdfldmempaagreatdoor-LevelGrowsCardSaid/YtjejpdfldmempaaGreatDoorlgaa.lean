/- Merged: Lse Srt Gra. -/
import Derived.Shelf.SlSortCmp.WholeK
import Derived.Test.YtjejpdfldmempaaGreatDoorRows
import Derived.Test.YtjejpdfldmempaaGreatDoorSli
import Derived.Shelf.SlSortCmp.NoneTotal
import Derived.Test.YtjejpdfldmempaaGreatDoorMem
section
namespace Go.Proofs
open Go.Shelf
def Tryz.sortE_ren : Go.Shelf.Ren := ⟨fun | 6 => 58 | 15 => 104 | 14 => 103 | 28 => 153 | 29 => 154 | 20 => 145 | 21 => 146 | 22 => 147 | 23 => 148 | 24 => 149 | 25 => 150 | 26 => 151 | 27 => 152 | 46 => 210 | 47 => 211 | 48 => 212 | 49 => 213 | 50 => 214 | 57 => 245 | n => n, fun | 22 => 29 | 24 => 103 | 25 => 111 | 3 => 3 | 39 => 177 | 0 => 0 | 53 => 184 | 55 => 186 | 4 => 4 | 46 => 218 | 45 => 217 | 50 => 222 | 5 => 5 | 9 => 9 | 66 => 281 | 70 => 285 | 76 => 313 | 77 => 138 | n => n, fun | n => n⟩
theorem Tryz.sortE : Go.Proofs.SlLaysF0.n6 Tryz.prog Tryz.sortE_ren := {
 mixed := by kernel_rfl
 f6 := ⟨Tryz.f58.name, by decide, Tryz.func58.trans (congrArg some (by kernel_rfl))⟩
 f14 := ⟨Tryz.f103.name, by decide, Tryz.func103.trans (congrArg some (by kernel_rfl))⟩
 f15 := Tryz.func104.trans (congrArg some (by kernel_rfl))
 f20 := ⟨Tryz.f145.name, by decide, Tryz.func145.trans (congrArg some (by kernel_rfl))⟩
 f21 := ⟨Tryz.f146.name, by decide, Tryz.func146.trans (congrArg some (by kernel_rfl))⟩
 f22 := ⟨Tryz.f147.name, by decide, Tryz.func147.trans (congrArg some (by kernel_rfl))⟩
 f23 := ⟨Tryz.f148.name, by decide, Tryz.func148.trans (congrArg some (by kernel_rfl))⟩
 f24 := ⟨Tryz.f149.name, by decide, Tryz.func149.trans (congrArg some (by kernel_rfl))⟩
 f25 := ⟨Tryz.f150.name, by decide, Tryz.func150.trans (congrArg some (by kernel_rfl))⟩
 f26 := ⟨Tryz.f151.name, by decide, Tryz.func151.trans (congrArg some (by kernel_rfl))⟩
 f27 := ⟨Tryz.f152.name, by decide, Tryz.func152.trans (congrArg some (by kernel_rfl))⟩
 f28 := Tryz.func153.trans (congrArg some (by kernel_rfl))
 f29 := Tryz.func154.trans (congrArg some (by kernel_rfl))
 f46 := ⟨Tryz.f210.name, by decide, Tryz.func210.trans (congrArg some (by kernel_rfl))⟩
 f47 := Tryz.func211.trans (congrArg some (by kernel_rfl))
 f48 := Tryz.func212.trans (congrArg some (by kernel_rfl))
 f49 := ⟨Tryz.f213.name, by decide, Tryz.func213.trans (congrArg some (by kernel_rfl))⟩
 f50 := ⟨Tryz.f214.name, by decide, Tryz.func214.trans (congrArg some (by kernel_rfl))⟩
 f57 := ⟨Tryz.f245.name, by decide, Tryz.func245.trans (congrArg some (by kernel_rfl))⟩
 t0 := Tryz.underlying0
 a0 := Tryz.isAgg0
 z0 := Tryz.sizeOf0
 v0 := Tryz.zeroValue0
 t3 := Tryz.underlying3
 a3 := Tryz.isAgg3
 z3 := Tryz.sizeOf3
 v3 := Tryz.zeroValue3
 t4 := Tryz.underlying4
 a4 := Tryz.isAgg4
 z4 := Tryz.sizeOf4
 v4 := Tryz.zeroValue4
 t5 := Tryz.underlying5
 a5 := Tryz.isAgg5
 z5 := Tryz.sizeOf5
 v5 := Tryz.zeroValue5
 t9 := Tryz.underlying9
 a9 := Tryz.isAgg9
 z9 := Tryz.sizeOf9
 v9 := Tryz.zeroValue9
 t22 := Tryz.underlying29
 a22 := Tryz.isAgg29
 z22 := Tryz.sizeOf29
 v22 := Tryz.zeroValue29
 t25 := Tryz.underlying111
 a25 := Tryz.isAgg111
 z25 := Tryz.sizeOf111
 v25 := Tryz.zeroValue111
 t39 := Tryz.underlying177
 a39 := Tryz.isAgg177
 z39 := Tryz.sizeOf177
 v39 := Tryz.zeroValue177
 t45 := Tryz.underlying217
 a45 := Tryz.isAgg217
 z45 := Tryz.sizeOf217
 v45 := Tryz.zeroValue217
 t46 := Tryz.underlying218
 a46 := Tryz.isAgg218
 z46 := Tryz.sizeOf218
 v46 := Tryz.zeroValue218
 t50 := Tryz.underlying222
 a50 := Tryz.isAgg222
 z50 := Tryz.sizeOf222
 v50 := Tryz.zeroValue222
 t53 := Tryz.underlying184
 a53 := Tryz.isAgg184
 z53 := Tryz.sizeOf184
 v53 := Tryz.zeroValue184
 t55 := Tryz.underlying186
 a55 := Tryz.isAgg186
 z55 := Tryz.sizeOf186
 v55 := Tryz.zeroValue186
 t66 := Tryz.underlying281
 a66 := Tryz.isAgg281
 z66 := Tryz.sizeOf281
 v66 := Tryz.zeroValue281
 t70 := Tryz.underlying285
 a70 := Tryz.isAgg285
 z70 := Tryz.sizeOf285
 v70 := Tryz.zeroValue285
 t76 := Tryz.underlying313
 a76 := Tryz.isAgg313
 z76 := Tryz.sizeOf313
 v76 := Tryz.zeroValue313
 t77 := Tryz.underlying138
 a77 := Tryz.isAgg138
 z77 := Tryz.sizeOf138
 v77 := Tryz.zeroValue138 }
end Go.Proofs
end
section
namespace Go.Reg
open Go Go.RowKit Go.Sort Go.Proofs
section
variable {α : Type} [Inhabited α] {enc : α → List Value} {E k : Nat} {w : World} {l : List α} {g cap : Nat}
theorem flatK_at (he : ∀ x, (enc x).length = k) (hk : 0 < k) (d : Array α) (t : Nat) (ht : t < d.size * k) : (d.toList.flatMap enc)[t]? = some (flatK enc k d)[t]! := by
 have h1 : t / k < d.size := Nat.div_lt_of_lt_mul (by rwa [Nat.mul_comm] at ht)
 have h2 : t % k < k := Nat.mod_lt _ hk
 have e := flat_at he d.toList (t / k) d[t / k] (t % k) (by simp [h1]) h2
 rw [show t / k * k + t % k = t from Nat.div_add_mod' t k] at e
 rw [e, get_flatK _ _ _ _ ht, getElem!_pos d (t / k) h1]
 have h3 : t % k < (enc d[t / k]).length := by rw [he]; exact h2
 rw [List.getElem?_eq_getElem h3, getElem!_pos (enc d[t / k]) (t % k) h3]
theorem Sl.holdsK (he : ∀ x, (enc x).length = k) (hk : 0 < k) (h : Sl E k enc w (.slice (some ⟨g, 0, none⟩) l.length cap) l) : HoldsK enc k w g 0 l.toArray := by
 intro j hj
 have hj' : j < l.length * k := by simpa using hj
 have hc := World.ownsRow.cells h (g := g) rfl j (flatK enc k l.toArray)[j]! (by have := flatK_at he hk l.toArray j hj'; simpa using this)
 refine ⟨by simpa [Addr.add_lit] using hc, ?_⟩
 rcases h.2 with ⟨h1, _⟩ | ⟨g', cap', cur, h1, _, hg, _⟩
 ·cases h1
 ·cases h1
  simp [World.frozen?, hg]
theorem Sl.sorted (he : ∀ x, (enc x).length = k) (hk : 0 < k) (h : Sl E k enc w (.slice (some ⟨g, 0, none⟩) l.length cap) l) (d : Array α) (hd : d.size = l.length) (n : Nat) (os : Array Obj) :
  Sl E k enc (sortWorldK enc k w g 0 n d os) (.slice (some ⟨g, 0, none⟩) l.length cap) d.toList ∧ Tch [g] w (sortWorldK enc k w g 0 n d os) := by
 have hlt := h.lt (b := g) rfl
 constructor
 ·have hlen : (d.toList.flatMap enc).length = d.toList.length * k := by
   generalize d.toList = xs
   induction xs with
   | nil => simp
   | cons x xs ih => simp [ih, he, Nat.add_mul]; omega
  refine ⟨hlen, ?_⟩
  rcases h.2 with ⟨h1, _⟩ | ⟨g', cap', cur, h1, h0, hg, hc, hm, hs, ht⟩
  ·cases h1
  ·cases h1
   refine .inr ⟨g, cap, putCells id 0 (flatK enc k d) cur, by simp [hd], Nat.zero_le _, ?_, by simp [hd]; exact hc, hm, by simp [putCells, hs], ?_⟩
   ·simp only [sortWorldK, grow, putRowK, putRow, mapBlock, Sort.ahead]
    rw [Array.getElem?_append_left (by simpa using hlt)]
    simp [Array.getElem?_modify, hg, onCells]
   ·apply List.ext_getElem?
    intro t
    rw [List.getElem?_take]
    split
    ·rename_i hlt'
     have hlt2 : t < d.size * k := by simpa using hlt'
     rw [flatK_at he hk d t hlt2]
     have hcs : t < cur.size := by rw [hs]; rw [hd] at hlt2; exact Nat.lt_of_lt_of_le hlt2 (Nat.mul_le_mul_right k hc)
     simp [putCells, hcs, hlt2]
    ·rename_i hge
     rw [List.getElem?_eq_none (by rw [hlen]; omega)]
 ·refine ⟨rfl, rfl, rfl, ?_, ?_⟩
  ·simp [sortWorldK, grow, putRowK, putRow, mapBlock, Sort.ahead]
  ·intro j hj hn
   have hne : g ≠ j := fun e => hn (by simp [e])
   simp only [sortWorldK, grow, putRowK, putRow, mapBlock, Sort.ahead]
   rw [Array.getElem?_append_left (by simpa using hj)]
   simp [Array.getElem?_modify, hne]
end
end Go.Reg
end
section
namespace Go.Gr
structure Edg where
 a : Int
 b : Int
 deriving DecidableEq
def turn (e : Edg) : Edg := ⟨min e.a e.b, max e.a e.b⟩
def cmpI (a b : Int) : Int := if a < b then -1 else if b < a then 1 else 0
def cmpE (x y : Edg) : Int := if cmpI x.a y.a ≠ 0 then cmpI x.a y.a else cmpI x.b y.b
theorem cmpI_lt (a b : Int) : cmpI a b < 0 ↔ a < b := by unfold cmpI; split <;> first | omega | (split <;> omega)
theorem cmpI_eq (a b : Int) : cmpI a b = 0 ↔ a = b := by unfold cmpI; split <;> first | omega | (split <;> omega)
theorem cmpI_anti (a b : Int) : cmpI b a = - cmpI a b := by unfold cmpI; split <;> split <;> first | omega | (split <;> omega)
theorem cmpE_lt (x y : Edg) : cmpE x y < 0 ↔ x.a < y.a ∨ (x.a = y.a ∧ x.b < y.b) := by
 unfold cmpE
 have h1 := cmpI_lt x.a y.a
 have h2 := cmpI_eq x.a y.a
 have h3 := cmpI_lt x.b y.b
 split <;> omega
theorem cmpE_eq (x y : Edg) : cmpE x y = 0 ↔ x = y := by
 unfold cmpE
 have h2 := cmpI_eq x.a y.a
 have h3 := cmpI_eq x.b y.b
 constructor
 ·intro h
  split at h
  ·omega
  ·cases x; cases y; simp_all
 ·rintro rfl
  rw [if_neg (by omega)]; omega
theorem cmpE_tri (x y : Edg) : cmpE x y < 0 ∨ x = y ∨ cmpE y x < 0 := by
 rw [cmpE_lt, cmpE_lt]
 by_cases h : x = y
 ·exact .inr (.inl h)
 ·have : ¬ (x.a = y.a ∧ x.b = y.b) := fun ⟨h1, h2⟩ => h (by cases x; cases y; simp_all)
  omega
theorem cmpE_trans {x y z : Edg} (h1 : cmpE x y < 0) (h2 : cmpE y z < 0) : cmpE x z < 0 := by
 rw [cmpE_lt] at *; omega
theorem cmpE_irr (x : Edg) : ¬ cmpE x x < 0 := by rw [cmpE_lt]; omega
theorem cmpE_asym {x y : Edg} (h : cmpE x y < 0) : ¬ cmpE y x < 0 := by rw [cmpE_lt] at *; omega
theorem turn_turn (e : Edg) : turn (turn e) = turn e := by unfold turn; simp only [Edg.mk.injEq]; omega
theorem turn_sym (a b : Int) : turn ⟨a, b⟩ = turn ⟨b, a⟩ := by unfold turn; simp only [Edg.mk.injEq]; omega
theorem turn_le {e : Edg} (h : e.a ≤ e.b) : turn e = e := by cases e; unfold turn; simp only [Edg.mk.injEq] at *; omega
theorem flatMap_same {α β : Type} {l : List α} {f g : α → List β} (h : ∀ x ∈ l, f x = g x) : l.flatMap f = l.flatMap g := by
 induction l with
 | nil => rfl
 | cons x l ih => rw [List.flatMap_cons, List.flatMap_cons, h x (by simp), ih (fun y hy => h y (by simp [hy]))]
def Strict (l : List Edg) : Prop := l.Pairwise (fun x y => cmpE x y < 0)
theorem strict_eq : ∀ {l1 l2 : List Edg}, l1.Perm l2 → Strict l1 → Strict l2 → l1 = l2
 | [], l2, hp, _, _ => (List.nil_perm.1 hp).symm
 | x :: l1, [], hp, _, _ => by simp at hp
 | x :: l1, y :: l2, hp, h1, h2 => by
   have g1 := List.pairwise_cons.1 h1
   have g2 := List.pairwise_cons.1 h2
   have hxy : x = y := by
    have hx : x ∈ y :: l2 := hp.mem_iff.1 (by simp)
    have hy : y ∈ x :: l1 := hp.mem_iff.2 (by simp)
    rcases List.mem_cons.1 hx with h | h
    ·exact h
    ·rcases List.mem_cons.1 hy with h' | h'
     ·exact h'.symm
     ·exact absurd (g2.1 x h) (cmpE_asym (g1.1 y h'))
   subst hxy
   rw [strict_eq (List.Perm.cons_inv hp) g1.2 g2.2]
theorem strict_of {l : List Edg} (hn : l.Nodup) (h : l.Pairwise (fun x y => ¬ cmpE y x < 0)) : Strict l := by
 refine (hn.and h).imp ?_
 rintro x y ⟨h1, h2⟩
 rcases cmpE_tri x y with h | h | h
 ·exact h
 ·exact absurd h h1
 ·exact absurd h h2
theorem Strict.nodup {l : List Edg} (h : Strict l) : l.Nodup := h.imp fun h e => by subst e; exact cmpE_irr _ h
def arr (n : Nat) (R : Nat → List Int) (D : Nat → Nat) : List Int := (List.range n).flatMap fun v => R v ++ List.replicate (D v - (R v).length) 0
def off (D : Nat → Nat) : Nat → Nat
 | 0 => 0
 | v + 1 => off D v + D v
theorem off_mono (D : Nat → Nat) {v n : Nat} (h : v ≤ n) : off D v ≤ off D n := by
 induction n with
 | zero => have : v = 0 := by omega
           subst this; exact Nat.le_refl _
 | succ n ih =>
   rcases Nat.lt_or_ge v (n + 1) with h1 | h1
   ·have := ih (by omega); simp only [off]; omega
   ·have : v = n + 1 := by omega
    subst this; exact Nat.le_refl _
theorem arr_succ (n : Nat) (R : Nat → List Int) (D : Nat → Nat) : arr (n + 1) R D = arr n R D ++ (R n ++ List.replicate (D n - (R n).length) 0) := by
 simp [arr, List.range_succ]
theorem arr_len {n : Nat} {R : Nat → List Int} {D : Nat → Nat} (h : ∀ v, (R v).length ≤ D v) : (arr n R D).length = off D n := by
 induction n with
 | zero => rfl
 | succ n ih =>
   have := h n
   rw [arr_succ, List.length_append, ih]
   simp [off]; omega
def more (R : Nat → List Int) (v : Nat) (u : Int) : Nat → List Int := fun w => if w = v then R v ++ [u] else R w
theorem arr_set {n v : Nat} {R : Nat → List Int} {D : Nat → Nat} (u : Int) (h : ∀ v, (R v).length ≤ D v) (hv : v < n) (hr : (R v).length < D v) : (arr n R D).set (off D v + (R v).length) u = arr n (more R v u) D := by
 induction n with
 | zero => omega
 | succ n ih =>
   rw [arr_succ, arr_succ]
   have hl := arr_len (n := n) h
   by_cases hvn : v < n
   ·have h1 : off D v + (R v).length < (arr n R D).length := by
     have := off_mono D (show v + 1 ≤ n by omega)
     simp only [off] at this
     omega
    rw [List.set_append_left _ _ h1, ih hvn]
    have hne : ¬ n = v := by omega
    simp [more, hne]
   ·have hvn' : v = n := by omega
    subst hvn'
    rw [List.set_append_right _ _ (by omega), hl, Nat.add_sub_cancel_left]
    have hsame : arr v (more R v u) D = arr v R D := by
     unfold arr
     refine flatMap_same fun w hw => ?_
     have : ¬ w = v := by have := List.mem_range.1 hw; omega
     simp [more, this]
    rw [hsame]
    congr 1
    have hd : D v - (R v).length = (D v - (R v).length - 1) + 1 := by omega
    rw [List.set_append_right _ _ (Nat.le_refl _), Nat.sub_self, hd, List.replicate_succ, List.set_cons_zero]
    have hm : more R v u v = R v ++ [u] := by simp [more]
    rw [hm, List.length_append, List.length_singleton, List.append_assoc, show D v - ((R v).length + 1) = D v - (R v).length - 1 by omega]
    rfl
theorem arr_full {n : Nat} {R : Nat → List Int} {D : Nat → Nat} (h : ∀ v, v < n → (R v).length = D v) : arr n R D = (List.range n).flatMap R := by
 unfold arr
 refine flatMap_same fun w hw => ?_
 rw [h w (List.mem_range.1 hw)]; simp
theorem map_set {α : Type} (m k : Nat) (f : Nat → α) (x : α) : ((List.range m).map f).set k x = (List.range m).map (fun v => if v = k then x else f v) := by
 apply List.ext_getElem?
 intro i
 rw [List.getElem?_set]
 simp only [List.length_map, List.length_range, List.getElem?_map]
 by_cases hi : i < m
 ·rw [List.getElem?_range hi]
  by_cases e : k = i
  ·subst e; simp [hi]
  ·have : ¬ i = k := fun h => e h.symm
   simp [e, this]
 ·have h1 : (List.range m)[i]? = none := by simp; omega
  rw [h1]
  by_cases e : k = i
  ·subst e; simp [hi]
  ·simp [e]
theorem map_range_at {α : Type} {m v : Nat} (f : Nat → α) (h : v < m) : ((List.range m).map f)[v]? = some (f v) := by simp [h]
def lessOf (E : List Edg) (v : Nat) : List Int := (E.filter fun e => decide (e.b = (v : Int))).map (·.a)
def moreOf (E : List Edg) (v : Nat) : List Int := (E.filter fun e => decide (e.a = (v : Int))).map (·.b)
def nearOf (E : List Edg) (v : Nat) : List Int := lessOf E v ++ moreOf E v
def lessIds (E : List Edg) (v : Nat) : List Int := (E.zipIdx.filter fun p => decide (p.1.b = (v : Int))).map fun p => (p.2 : Int)
def moreIds (E : List Edg) (v : Nat) : List Int := (E.zipIdx.filter fun p => decide (p.1.a = (v : Int))).map fun p => (p.2 : Int)
def idsOf (E : List Edg) (v : Nat) : List Int := lessIds E v ++ moreIds E v
def deg (E : List Edg) (v : Nat) : Nat := (nearOf E v).length
theorem ids_snoc (E : List Edg) (e : Edg) (v : Nat) : lessIds (E ++ [e]) v = lessIds E v ++ (if e.b = v then [(E.length : Int)] else []) ∧ moreIds (E ++ [e]) v = moreIds E v ++ (if e.a = v then [(E.length : Int)] else []) := by
 unfold lessIds moreIds
 rw [List.zipIdx_append]
 constructor
 ·simp only [List.zipIdx_singleton, List.filter_append, List.map_append]
  congr 1
  by_cases h : e.b = v <;> simp [h]
 ·simp only [List.zipIdx_singleton, List.filter_append, List.map_append]
  congr 1
  by_cases h : e.a = v <;> simp [h]
theorem near_snoc (E : List Edg) (e : Edg) (v : Nat) : lessOf (E ++ [e]) v = lessOf E v ++ (if e.b = v then [e.a] else []) ∧ moreOf (E ++ [e]) v = moreOf E v ++ (if e.a = v then [e.b] else []) := by
 unfold lessOf moreOf
 constructor
 ·simp only [List.filter_append, List.map_append]
  congr 1
  by_cases h : e.b = v <;> simp [h]
 ·simp only [List.filter_append, List.map_append]
  congr 1
  by_cases h : e.a = v <;> simp [h]
theorem ids_len (E : List Edg) (v : Nat) : (lessIds E v).length = (lessOf E v).length ∧ (moreIds E v).length = (moreOf E v).length := by
 have key : ∀ (f : Edg → Bool) (E : List Edg) (k : Nat), ((E.zipIdx k).filter fun p => f p.1).length = (E.filter f).length := by
  intro f E
  induction E with
  | nil => intro k; rfl
  | cons e E ih =>
    intro k
    simp only [List.zipIdx_cons, List.filter_cons]
    split <;> simp [ih]
 unfold lessIds lessOf moreIds moreOf
 simp only [List.length_map]
 exact ⟨key (fun e => decide (e.b = (v : Int))) E 0, key (fun e => decide (e.a = (v : Int))) E 0⟩
theorem deg_snoc (E : List Edg) (e : Edg) (v : Nat) : deg (E ++ [e]) v = deg E v + (if e.b = v then 1 else 0) + (if e.a = v then 1 else 0) := by
 unfold deg nearOf
 rw [(near_snoc E e v).1, (near_snoc E e v).2]
 simp only [List.length_append]
 split <;> split <;> simp <;> omega
theorem off_deg (E : List Edg) (n : Nat) (h : ∀ e ∈ E, 0 ≤ e.a ∧ e.a < n ∧ 0 ≤ e.b ∧ e.b < n) : off (deg E) n = 2 * E.length := by
 have step : ∀ (E : List Edg) (e : Edg) (m : Nat), off (deg (E ++ [e])) m = off (deg E) m + (if 0 ≤ e.b ∧ e.b < m then 1 else 0) + (if 0 ≤ e.a ∧ e.a < m then 1 else 0) := by
  intro E e m
  induction m with
  | zero => simp only [off]; rw [if_neg (by omega), if_neg (by omega)]
  | succ m ih =>
    simp only [off, ih, deg_snoc]
    by_cases h1 : e.b = (m : Int) <;> by_cases h2 : e.a = (m : Int) <;> by_cases h3 : (0 ≤ e.b ∧ e.b < (m : Int)) <;> by_cases h4 : (0 ≤ e.a ∧ e.a < (m : Int)) <;> simp [h1, h2, h3, h4] <;> (repeat' split) <;> omega
 have key : ∀ k, off (deg (E.take k)) n = 2 * (E.take k).length := by
  intro k
  induction k with
  | zero =>
    simp only [List.take_zero, List.length_nil]
    have : ∀ m, off (deg []) m = 0 := fun m => by induction m with | zero => rfl | succ m ih => simp [off, ih, deg, nearOf, lessOf, moreOf]
    rw [this]
  | succ k ih =>
    rw [List.take_add_one]
    cases hk : E[k]? with
    | none => simpa using ih
    | some e =>
      have := h e (List.mem_of_getElem? hk)
      simp only [Option.toList]
      rw [step, ih, if_pos ⟨this.2.2.1, this.2.2.2⟩, if_pos ⟨this.1, this.2.1⟩]
      simp; omega
 have := key E.length
 rwa [List.take_length] at this
end Go.Gr
namespace Go.Gr
structure Gr where
 labels : List Int
 edges : List Edg
structure Gr.Ok (G : Gr) : Prop where
 size : G.labels.length ≤ 4096
 esize : G.edges.length ≤ 16384
 lab : ∀ l ∈ G.labels, 0 ≤ l ∧ l ≤ 255
 edge : ∀ e ∈ G.edges, 0 ≤ e.a ∧ e.a < e.b ∧ e.b < G.labels.length
 sorted : Strict G.edges
def badLabel (l : Int) : Bool := decide (l < 0) || decide (255 < l)
def ecode (n : Nat) (seen : List Edg) (e : Edg) : Int :=
 if min e.a e.b < 0 ∨ (n : Int) ≤ max e.a e.b then 3 else if e.a = e.b then 1 else if turn e ∈ seen then 4 else 0
def ecodeAt (n : Nat) (edges : List Edg) (i : Nat) : Int := match edges[i]? with
 | some e => ecode n ((edges.take i).map turn) e
 | none => 0
def newErr (labels : List Int) (edges : List Edg) : Option (Int × Int × Bool) :=
 if 4096 < labels.length ∨ 16384 < edges.length then some (6, 0, false)
 else match labels.findIdx? badLabel with
  | some v => some (3, (v : Int), false)
  | none => match (List.range edges.length).find? (fun i => decide (ecodeAt labels.length edges i ≠ 0)) with
    | some i => some (ecodeAt labels.length edges i, (i : Int), true)
    | none => none
theorem newErr_large {labels : List Int} {edges : List Edg} (h : 4096 < labels.length ∨ 16384 < edges.length) : newErr labels edges = some (6, 0, false) := by
 unfold newErr; rw [if_pos h]
theorem newErr_label {labels : List Int} {edges : List Edg} (h : ¬ (4096 < labels.length ∨ 16384 < edges.length)) {v : Nat} {l : Int} (hv : labels[v]? = some l) (hb : badLabel l = true) (hn : ∀ x ∈ labels.take v, badLabel x = false) : newErr labels edges = some (3, (v : Int), false) := by
 unfold newErr
 rw [if_neg h]
 have : labels.findIdx? badLabel = some v := by
  rw [List.findIdx?_eq_some_iff_getElem]
  obtain ⟨h1, h2⟩ := List.getElem?_eq_some_iff.1 hv
  refine ⟨h1, by rw [h2]; exact hb, fun j hj => ?_⟩
  have := hn labels[j] (List.mem_take_iff_getElem.2 ⟨j, by omega, rfl⟩)
  simpa using this
 rw [this]
theorem newErr_edge {labels : List Int} {edges : List Edg} (h : ¬ (4096 < labels.length ∨ 16384 < edges.length)) (hl : ∀ x ∈ labels, badLabel x = false) {i : Nat} (hi : i < edges.length) (hb : ecodeAt labels.length edges i ≠ 0) (hn : ∀ j, j < i → ecodeAt labels.length edges j = 0) : newErr labels edges = some (ecodeAt labels.length edges i, (i : Int), true) := by
 unfold newErr
 rw [if_neg h]
 have h1 : labels.findIdx? badLabel = none := by
  rw [List.findIdx?_eq_none_iff]; exact hl
 have h2 : (List.range edges.length).find? (fun i => decide (ecodeAt labels.length edges i ≠ 0)) = some i := by
  rw [List.find?_range_eq_some]
  refine ⟨by simpa using hb, by simpa using hi, fun j hj => by simpa using hn j hj⟩
 rw [h1, h2]
theorem newErr_none {labels : List Int} {edges : List Edg} (h : ¬ (4096 < labels.length ∨ 16384 < edges.length)) (hl : ∀ x ∈ labels, badLabel x = false) (hn : ∀ j, j < edges.length → ecodeAt labels.length edges j = 0) : newErr labels edges = none := by
 unfold newErr
 rw [if_neg h]
 have h1 : labels.findIdx? badLabel = none := by
  rw [List.findIdx?_eq_none_iff]; exact hl
 have h2 : (List.range edges.length).find? (fun i => decide (ecodeAt labels.length edges i ≠ 0)) = none := by
  rw [List.find?_range_eq_none]
  intro j hj
  simpa using hn j hj
 rw [h1, h2]
theorem edges_ok {n : Nat} {edges : List Edg} (hn : ∀ j, j < edges.length → ecodeAt n edges j = 0) : (edges.map turn).Nodup ∧ ∀ e ∈ edges.map turn, 0 ≤ e.a ∧ e.a < e.b ∧ e.b < n := by
 have key : ∀ k, k ≤ edges.length → ((edges.take k).map turn).Nodup ∧ ∀ e ∈ (edges.take k).map turn, 0 ≤ e.a ∧ e.a < e.b ∧ e.b < n := by
  intro k
  induction k with
  | zero => intro _; simp
  | succ k ih =>
    intro hk
    obtain ⟨h1, h2⟩ := ih (by omega)
    have he : edges[k]? = some edges[k] := List.getElem?_eq_getElem (by omega)
    generalize edges[k] = e at he
    have hc := hn k (by omega)
    unfold ecodeAt at hc
    rw [he] at hc
    simp only [ecode] at hc
    split at hc
    ·omega
    ·split at hc
     ·omega
     ·split at hc
      ·omega
      ·rename_i g1 g2 g3
       rw [List.take_add_one, he]
       simp only [Option.toList, List.map_append, List.map_cons, List.map_nil]
       refine ⟨?_, ?_⟩
       ·rw [List.nodup_append]
        exact ⟨h1, by simp, fun a ha b hb e' => by simp at hb; subst hb; subst e'; exact g3 ha⟩
       ·intro x hx
        rcases List.mem_append.1 hx with hx | hx
        ·exact h2 x hx
        ·simp at hx
         subst hx
         simp only [turn]
         omega
 have := key edges.length (Nat.le_refl _)
 rwa [List.take_length] at this
theorem newErr_ok {labels : List Int} {edges : List Edg} (h : newErr labels edges = none) : labels.length ≤ 4096 ∧ edges.length ≤ 16384 ∧ (∀ x ∈ labels, badLabel x = false) ∧ (edges.map turn).Nodup ∧ ∀ e ∈ edges.map turn, 0 ≤ e.a ∧ e.a < e.b ∧ e.b < labels.length := by
 unfold newErr at h
 split at h
 ·cases h
 ·rename_i h0
  split at h
  ·cases h
  ·rename_i h1
   split at h
   ·cases h
   ·rename_i h2
    rw [List.find?_range_eq_none] at h2
    have h3 := edges_ok (n := labels.length) (edges := edges) (fun j hj => by have := h2 j hj; simpa using this)
    exact ⟨by omega, by omega, List.findIdx?_eq_none_iff.1 h1, h3.1, h3.2⟩
theorem graph_of {labels : List Int} {edges E : List Edg} (h : newErr labels edges = none) (hp : E.Perm (edges.map turn)) (hs : E.Pairwise (fun x y => ¬ cmpE y x < 0)) : Gr.Ok ⟨labels, E⟩ := by
 obtain ⟨h1, h2, h3, h4, h5⟩ := newErr_ok h
 refine ⟨h1, by simp only; rw [hp.length_eq]; simpa using h2, fun l hl => ?_, fun e he => h5 e (hp.mem_iff.1 he), strict_of (hp.nodup_iff.2 h4) hs⟩
 have := h3 l hl
 simp [badLabel] at this
 omega
end Go.Gr
end
