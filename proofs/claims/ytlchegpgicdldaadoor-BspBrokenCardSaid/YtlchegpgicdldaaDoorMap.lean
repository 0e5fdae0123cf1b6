/- A map as a list of pairs, in the order in which its entries were made. -/
import Derived.Test.YtlchegpgicdldaaDoorMem
namespace Go.Reg
open Go Go.RowKit

section
variable {K V : Type} (P : Program) (kt : TypeId) (encK : K → Value) (encV : V → Value)

/-- the keys of a type: what the map's operations ask of them -/
structure KeyOk [DecidableEq K] : Prop where
  check : ∀ (em : Bool) (k : K) (w : World), (Instr.checkKey em 10000 kt (encK k)).run P w = .ok () w
  find : ∀ (k : K) (es : List MapEntry) (ks : List K) (w : World), es.map (·.key) = ks.map encK →
    (Instr.findKey kt (encK k) es).run P w = .ok ((ks.findIdx? (· == k)).bind fun i => (es[i]?).map fun e => (i, e.val)) w
  stays : ∀ (k : K) (w : World), (Instr.keyThatStays (encK k) (encK k)).run P w = .ok (encK k) w

/-- block b is a map that holds these pairs -/
def MapAt (encK : K → Value) (encV : V → Value) (w : World) (b : Nat) (l : List (K × V)) : Prop :=
  ∃ es clock, w.heap[b]? = some (.map es clock) ∧ es.toList.map (·.key) = l.map (fun p => encK p.1) ∧ es.toList.map (·.val) = l.map (fun p => encV p.2) ∧
    es.toList.Pairwise (fun x y => x.born < y.born) ∧ (∀ e ∈ es.toList, e.born < clock) ∧ (l.map (·.1)).Nodup

/-- the value under a key -/
def get [DecidableEq K] (l : List (K × V)) (k : K) : Option V := (l.find? (fun p => p.1 == k)).map (·.2)
/-- the pairs behind a store -/
def put [DecidableEq K] (l : List (K × V)) (k : K) (v : V) : List (K × V) := match (l.map (·.1)).findIdx? (· == k) with
  | some i => l.set i (k, v)
  | none => l ++ [(k, v)]
/-- the pairs with a key at hand -/
def ensure [DecidableEq K] (l : List (K × V)) (k : K) (z : V) : List (K × V) := match (l.map (·.1)).findIdx? (· == k) with
  | some _ => l
  | none => l ++ [(k, z)]

variable {P kt encK encV}

theorem MapAt.lt {w : World} {b : Nat} {l : List (K × V)} (h : MapAt encK encV w b l) : b < w.heap.size := by
  obtain ⟨es, c, h, _⟩ := h; exact (Array.getElem?_eq_some_iff.1 h).1
theorem MapAt.keep {S : List Nat} {w w' : World} {b : Nat} {l : List (K × V)} (h : MapAt encK encV w b l) (t : Tch S w w') (hn : b ∉ S) : MapAt encK encV w' b l := by
  have hl := h.lt
  obtain ⟨es, c, h, r⟩ := h
  exact ⟨es, c, by rw [t.blk b hl hn]; exact h, r⟩
theorem MapAt.ext {w w' : World} {b : Nat} {l : List (K × V)} (h : MapAt encK encV w b l) (t : Ext w w') : MapAt encK encV w' b l := by
  obtain ⟨es, c, h, r⟩ := h
  exact ⟨es, c, t.of_some h, r⟩
theorem MapAt.new (encK : K → Value) (encV : V → Value) (w : World) : MapAt encK encV (w.alloc (.map #[] 0)) w.heap.size ([] : List (K × V)) :=
  ⟨#[], 0, (MapKept.heap_alloc w _).1, by simp, by simp, by simp, by simp, by simp⟩
theorem MapAt.ne {w : World} {b c : Nat} {l : List (K × V)} (h : MapAt encK encV w b l) {T : TypeId} {cs : List Value} (k : Blk w c T cs) : b ≠ c := by
  intro e; subst e
  obtain ⟨es, c, h, _⟩ := h
  unfold Blk at k
  rw [h] at k; cases k

theorem map_len {es : List MapEntry} {l : List (K × V)} (h : es.map (·.key) = l.map (fun p => encK p.1)) : es.length = l.length := by
  have := congrArg List.length h; simpa using this

variable [DecidableEq K]

theorem findIdx_get (l : List (K × V)) (k : K) : ∀ i, (l.map (·.1)).findIdx? (· == k) = some i → ∃ p, l[i]? = some p ∧ p.1 = k ∧ get l k = some p.2 := by
  induction l with
  | nil => intro i h; simp at h
  | cons q l ih =>
    intro i h
    simp only [List.map_cons, List.findIdx?_cons] at h
    by_cases hq : q.1 = k
    · simp only [hq, beq_self_eq_true, if_true, Option.some.injEq] at h
      subst h
      exact ⟨q, rfl, hq, by simp [get, hq]⟩
    · have hb : (q.1 == k) = false := by simpa using hq
      simp only [hb, Bool.false_eq_true, if_false, Option.map_eq_some_iff] at h
      obtain ⟨j, hj, rfl⟩ := h
      obtain ⟨p, h1, h2, h3⟩ := ih j hj
      exact ⟨p, by simpa using h1, h2, by simpa [get, hq] using h3⟩
theorem findIdx_none (l : List (K × V)) (k : K) (h : (l.map (·.1)).findIdx? (· == k) = none) : get l k = none ∧ l.any (fun p => p.1 == k) = false := by
  rw [List.findIdx?_eq_none_iff] at h
  constructor
  · simp only [get, Option.map_eq_none_iff, List.find?_eq_none]
    intro p hp
    simpa using h p.1 (List.mem_map_of_mem hp)
  · simp only [List.any_eq_false]
    intro p hp
    simpa using h p.1 (List.mem_map_of_mem hp)

/-- 'm[k]', 'v, ok := m[k]' -/
theorem MapAt.lookup {w : World} {b : Nat} {l : List (K × V)} (h : MapAt encK encV w b l) (hk : KeyOk P kt encK) {t et : TypeId} (ht : P.underlying t = some (.map kt et)) {z : Value} (hz : ∀ w, (zeroValue et).run P w = .ok z w) (k : K) (ok : Bool) :
    (Instr.lookup t (.map (some b)) (encK k) ok).run P w = .ok (if ok then .tuple #[((get l k).map encV).getD z, .bool (get l k).isSome] else ((get l k).map encV).getD z) w := by
  obtain ⟨es, c, h, h1, h2, h3, h4, h5⟩ := h
  have hf := hk.find k es.toList (l.map (·.1)) w (by rw [h1]; simp)
  have hg : ∀ w', w' = w → (getObj b).run P w' = .ok (.map es c) w' := fun w' e => by subst e; simp [getObj, Sem.run, h]
  simp only [Instr.lookup, Sem.run_bind, run_underlying ht, Result.andThen_ok, hg w rfl, Sem.run_pure, hk.check, hf]
  cases hi : (l.map (·.1)).findIdx? (· == k) with
  | none =>
    obtain ⟨hn, _⟩ := findIdx_none l k hi
    simp [hn, hz]
  | some i =>
    obtain ⟨p, hp, _, hgt⟩ := findIdx_get l k i hi
    have he : (es.toList.map (·.val))[i]? = some (encV p.2) := by rw [h2]; simp [hp]
    simp only [List.getElem?_map, Option.map_eq_some_iff] at he
    obtain ⟨e, he, hev⟩ := he
    have he' : es[i]? = some e := by simpa using he
    simp [he', hgt, hev]

theorem MapAt.look {w : World} {b : Nat} {l : List (K × V)} (h : MapAt encK encV w b l) (hk : KeyOk P kt encK) {t et : TypeId} (ht : P.underlying t = some (.map kt et)) {z : V} (hz : ∀ w, (zeroValue et).run P w = .ok (encV z) w) (k : K) :
    (Instr.lookup t (.map (some b)) (encK k) false).run P w = .ok (encV ((get l k).getD z)) w := by
  rw [h.lookup hk ht hz k false]
  cases get l k <;> rfl

def World.obj (w : World) (b : Nat) (o : Obj) : World := { w with heap := w.heap.setIfInBounds b o }
theorem tch_obj (w : World) (b : Nat) (o : Obj) : Tch [b] w (World.obj w b o) :=
  ⟨rfl, rfl, rfl, by simp [World.obj], fun k hk hn => by
    have : b ≠ k := fun e => hn (by simp [e])
    simp [World.obj, Array.getElem?_setIfInBounds_ne this]⟩
theorem obj_at {w : World} {b : Nat} (h : b < w.heap.size) (o : Obj) : (World.obj w b o).heap[b]? = some o := by simp [World.obj, h]
theorem run_setObj {w : World} {b : Nat} {o' : Obj} (h : w.heap[b]? = some o') (hm : ∀ c t f, o' ≠ .cells c t f) (o : Obj) : (setObj b o).run P w = .ok () (World.obj w b o) := by
  simp only [setObj, Sem.run, h]
  cases o' <;> first | rfl | exact absurd rfl (hm _ _ _)

theorem set_self {α : Type} {l : List α} {i : Nat} {x : α} (h : l[i]? = some x) : l.set i x = l := by
  apply List.ext_getElem?
  intro j
  rw [List.getElem?_set]
  split
  · rename_i e; subst e
    have := (List.getElem?_eq_some_iff.1 h).1
    simp [this, (List.getElem?_eq_some_iff.1 h).2]
  · rfl

/-- what a map's block holds, its entries at hand -/
structure Holds (encK : K → Value) (encV : V → Value) (es : Array MapEntry) (clock : Nat) (l : List (K × V)) : Prop where
  keys : es.toList.map (·.key) = l.map (fun p => encK p.1)
  vals : es.toList.map (·.val) = l.map (fun p => encV p.2)
  born : es.toList.Pairwise (fun x y => x.born < y.born)
  clock : ∀ e ∈ es.toList, e.born < clock
  nodup : (l.map (·.1)).Nodup

omit [DecidableEq K] in
theorem MapAt.holds {w : World} {b : Nat} {l : List (K × V)} : MapAt encK encV w b l ↔ ∃ es clock, w.heap[b]? = some (.map es clock) ∧ Holds encK encV es clock l :=
  ⟨fun ⟨es, c, h, h1, h2, h3, h4, h5⟩ => ⟨es, c, h, h1, h2, h3, h4, h5⟩, fun ⟨es, c, h, h1, h2, h3, h4, h5⟩ => ⟨es, c, h, h1, h2, h3, h4, h5⟩⟩

omit [DecidableEq K] in
theorem Holds.at_ {es : Array MapEntry} {c : Nat} {l : List (K × V)} (h : Holds encK encV es c l) {i : Nat} {p : K × V} (hi : l[i]? = some p) : ∃ e, es.toList[i]? = some e ∧ e.key = encK p.1 ∧ e.val = encV p.2 := by
  have h1 : (es.toList.map (·.key))[i]? = some (encK p.1) := by rw [h.keys]; simp [hi]
  have h2 : (es.toList.map (·.val))[i]? = some (encV p.2) := by rw [h.vals]; simp [hi]
  simp only [List.getElem?_map, Option.map_eq_some_iff] at h1 h2
  obtain ⟨e, he, h1⟩ := h1
  obtain ⟨e', he', h2⟩ := h2
  rw [he] at he'; cases he'
  exact ⟨e, he, h1, h2⟩

theorem Holds.push {es : Array MapEntry} {c : Nat} {l : List (K × V)} (h : Holds encK encV es c l) (k : K) (v : V) (hn : (l.map (·.1)).findIdx? (· == k) = none) :
    Holds encK encV (es.push { key := encK k, val := encV v, born := c }) (c + 1) (l ++ [(k, v)]) := by
  refine ⟨by simp [h.keys], by simp [h.vals], ?_, ?_, ?_⟩
  · simp only [Array.toList_push]
    refine List.pairwise_append.2 ⟨h.born, by simp, fun a ha b hb => ?_⟩
    simp at hb; subst hb
    exact h.clock a ha
  · intro e he
    simp only [Array.toList_push, List.mem_append, List.mem_singleton] at he
    rcases he with he | rfl
    · have := h.clock e he; omega
    · simp
  · simp only [List.map_append, List.map_cons, List.map_nil]
    refine List.nodup_append.2 ⟨h.nodup, by simp, fun a ha b hb => ?_⟩
    simp at hb; subst hb
    rw [List.findIdx?_eq_none_iff] at hn
    have := hn a ha
    simpa using this

theorem Holds.set {es : Array MapEntry} {c : Nat} {l : List (K × V)} (h : Holds encK encV es c l) (k : K) (v : V) {i : Nat} (hi : (l.map (·.1)).findIdx? (· == k) = some i) {g : MapEntry → MapEntry}
    (hg : ∀ e, es.toList[i]? = some e → (g e).key = e.key ∧ (g e).val = encV v ∧ (g e).born = e.born) : Holds encK encV (es.modify i g) c (l.set i (k, v)) := by
  obtain ⟨p, hp, hk, _⟩ := findIdx_get l k i hi
  obtain ⟨e, he, hek, hev⟩ := h.at_ hp
  obtain ⟨g1, g2, g3⟩ := hg e he
  have hm : (es.modify i g).toList = es.toList.set i (g e) := by
    apply List.ext_getElem?
    intro j
    rw [Array.getElem?_toList, Array.getElem?_modify, List.getElem?_set]
    by_cases hj : i = j
    · subst hj
      have hlt := (List.getElem?_eq_some_iff.1 he).1
      have he' : es[i]? = some e := by simpa using he
      have : i < es.size := by simpa using hlt
      have e1 : es[i] = e := by rw [Array.getElem?_eq_getElem this] at he'; simpa using he'
      simp [this, e1]
    · simp [hj]
  have hb : ((es.modify i g).toList.map (·.born)) = es.toList.map (·.born) := by
    rw [hm, List.map_set, g3]
    exact set_self (by simp [he])
  refine ⟨?_, ?_, ?_, ?_, ?_⟩
  · rw [hm, List.map_set, List.map_set, h.keys, g1, hek, hk]
  · rw [hm, List.map_set, List.map_set, h.vals, g2]
  · have := h.born
    rw [← List.pairwise_map (f := fun e : MapEntry => e.born) (R := fun x y => x < y)] at this ⊢
    rw [hb]; exact this
  · intro x hx
    have : x.born ∈ (es.modify i g).toList.map (·.born) := List.mem_map_of_mem hx
    rw [hb] at this
    obtain ⟨y, hy, e2⟩ := List.mem_map.1 this
    rw [← e2]; exact h.clock y hy
  · rw [List.map_set]
    have : (l.map (·.1)).set i k = l.map (·.1) := by
      exact set_self (by simp [hp, hk])
    simp only at this ⊢
    rw [this]; exact h.nodup

/-- 'm[k] = v' -/
theorem MapAt.update {w : World} {b : Nat} {l : List (K × V)} (h : MapAt encK encV w b l) (hk : KeyOk P kt encK) {t et : TypeId} (ht : P.underlying t = some (.map kt et)) (k : K) (v : V) :
    ∃ w', (Instr.mapUpdate t (.map (some b)) (encK k) (encV v)).run P w = .ok () w' ∧ MapAt encK encV w' b (put l k v) ∧ Tch [b] w w' := by
  have hlt := h.lt
  obtain ⟨es, c, h, H⟩ := MapAt.holds.1 h
  have hf := hk.find k es.toList (l.map (·.1)) w (by rw [H.keys]; simp)
  have hg : (getObj b).run P w = .ok (.map es c) w := by simp [getObj, Sem.run, h]
  have hs : ∀ o, (setObj b o).run P w = .ok () (World.obj w b o) := fun o => run_setObj h (by intros; simp) o
  simp only [Instr.mapUpdate, Sem.run_bind, run_underlying ht, Result.andThen_ok, hg, hk.check, hf]
  cases hi : (l.map (·.1)).findIdx? (· == k) with
  | none =>
    refine ⟨World.obj w b (.map (es.push { key := encK k, val := encV v, born := c }) (c + 1)), by simp [hs], ?_, tch_obj _ _ _⟩
    refine MapAt.holds.2 ⟨_, _, obj_at hlt _, ?_⟩
    simp only [put, hi]
    exact H.push k v hi
  | some i =>
    obtain ⟨p, hp, hpk, _⟩ := findIdx_get l k i hi
    obtain ⟨e, he, hek, hev⟩ := H.at_ hp
    have he' : es[i]? = some e := by simpa using he
    have hst : (Instr.keyThatStays e.key (encK k)).run P w = .ok (encK k) w := by rw [hek, hpk]; exact hk.stays k w
    refine ⟨World.obj w b (.map (es.modify i fun e => { e with key := encK k, val := encV v }) c), by simp [he', hst, hs], ?_, tch_obj _ _ _⟩
    refine MapAt.holds.2 ⟨_, _, obj_at hlt _, ?_⟩
    simp only [put, hi]
    refine H.set k v hi fun e2 he2 => ?_
    rw [he] at he2; cases he2
    exact ⟨by rw [hek, hpk], rfl, rfl⟩

/-- a map of which the entry under k is at hand, with the stamp n -/
def EntryAt (encK : K → Value) (encV : V → Value) (w : World) (b : Nat) (l : List (K × V)) (k : K) (n : Nat) : Prop :=
  ∃ es clock, w.heap[b]? = some (.map es clock) ∧ Holds encK encV es clock l ∧ ∃ i e, (l.map (·.1)).findIdx? (· == k) = some i ∧ es.toList[i]? = some e ∧ e.born = n
theorem EntryAt.map {w : World} {b : Nat} {l : List (K × V)} {k : K} {n : Nat} (h : EntryAt encK encV w b l k n) : MapAt encK encV w b l := by
  obtain ⟨es, c, h1, h2, _⟩ := h; exact MapAt.holds.2 ⟨es, c, h1, h2⟩
theorem EntryAt.keep {S : List Nat} {w w' : World} {b : Nat} {l : List (K × V)} {k : K} {n : Nat} (h : EntryAt encK encV w b l k n) (t : Tch S w w') (hn : b ∉ S) : EntryAt encK encV w' b l k n := by
  have hl := h.map.lt
  obtain ⟨es, c, h, r⟩ := h
  exact ⟨es, c, by rw [t.blk b hl hn]; exact h, r⟩

theorem findIdx_append {ks : List K} {k : K} (hn : ks.findIdx? (· == k) = none) : (ks ++ [k]).findIdx? (· == k) = some ks.length := by
  rw [List.findIdx?_append, hn]; simp

/-- the entry under k, made where there is none -/
theorem MapAt.entry {w : World} {b : Nat} {l : List (K × V)} (h : MapAt encK encV w b l) (hk : KeyOk P kt encK) {t et : TypeId} (ht : P.underlying t = some (.map kt et)) (k : K) {z : V} (hz : ∀ w, (zeroValue et).run P w = .ok (encV z) w) :
    ∃ (w' : World) (n : Nat), (Instr.mapEntry t (.map (some b)) (encK k)).run P w = .ok (.tuple #[encV ((get l k).getD z), goInt n]) w' ∧ EntryAt encK encV w' b (ensure l k z) k n ∧ Tch [b] w w' := by
  have hlt := h.lt
  obtain ⟨es, c, h, H⟩ := MapAt.holds.1 h
  have hf := hk.find k es.toList (l.map (·.1)) w (by rw [H.keys]; simp)
  have hg : (getObj b).run P w = .ok (.map es c) w := by simp [getObj, Sem.run, h]
  have hs : ∀ o, (setObj b o).run P w = .ok () (World.obj w b o) := fun o => run_setObj h (by intros; simp) o
  simp only [Instr.mapEntry, Sem.run_bind, run_underlying ht, Result.andThen_ok, hg, hk.check, hf]
  cases hi : (l.map (·.1)).findIdx? (· == k) with
  | none =>
    obtain ⟨hn, _⟩ := findIdx_none l k hi
    refine ⟨World.obj w b (.map (es.push { key := encK k, val := encV z, born := c }) (c + 1)), c, by simp [hz, hs, hn], ?_, tch_obj _ _ _⟩
    refine ⟨_, _, obj_at hlt _, ?_, es.size, { key := encK k, val := encV z, born := c }, ?_, ?_, rfl⟩
    · simp only [ensure, hi]; exact H.push k z hi
    · simp only [ensure, hi, List.map_append, List.map_cons, List.map_nil]
      rw [findIdx_append hi]
      have := map_len H.keys
      simp at this
      simp [this]
    · simp
  | some i =>
    obtain ⟨p, hp, hpk, hgt⟩ := findIdx_get l k i hi
    obtain ⟨e, he, hek, hev⟩ := H.at_ hp
    have he' : es[i]? = some e := by simpa using he
    have hst : (Instr.keyThatStays e.key (encK k)).run P w = .ok (encK k) w := by rw [hek, hpk]; exact hk.stays k w
    refine ⟨World.obj w b (.map (es.modify i fun e => { e with key := encK k }) c), e.born, by simp [he', hst, hs, hgt, hev], ?_, tch_obj _ _ _⟩
    have hl : l.set i (k, p.2) = l := set_self (by rw [hp, ← hpk])
    have H2 := H.set k p.2 hi (g := fun e => { e with key := encK k }) (fun e2 he2 => by rw [he] at he2; cases he2; exact ⟨by rw [hek, hpk], hev, rfl⟩)
    rw [hl] at H2
    refine ⟨_, _, obj_at hlt _, by simp only [ensure, hi]; exact H2, i, { e with key := encK k }, by simp only [ensure, hi], ?_, rfl⟩
    have hlt2 := (List.getElem?_eq_some_iff.1 he).1
    have h3 : i < es.size := by simpa using hlt2
    have e1 : es[i] = e := by rw [Array.getElem?_eq_getElem h3] at he'; simpa using he'
    rw [Array.getElem?_toList, Array.getElem?_modify]
    simp [h3, e1]

theorem put_ensure {l : List (K × V)} {k : K} (z v : V) : put (ensure l k z) k v = put l k v := by
  cases hi : (l.map (·.1)).findIdx? (· == k) with
  | some i => simp only [ensure, hi]
  | none =>
    simp only [ensure, hi, put, List.map_append, List.map_cons, List.map_nil]
    rw [findIdx_append hi]
    simp

theorem get_append_none {l : List (K × V)} {k : K} {v : V} (h : get l k = none) : get (l ++ [(k, v)]) k = some v := by
  simp only [get, Option.map_eq_none_iff] at h
  simp [get, List.find?_append, h]
theorem get_ensure (l : List (K × V)) (k : K) (z : V) : (get (ensure l k z) k).getD z = (get l k).getD z := by
  cases hi : (l.map (·.1)).findIdx? (· == k) with
  | some i => simp only [ensure, hi]
  | none =>
    obtain ⟨hn, _⟩ := findIdx_none l k hi
    simp only [ensure, hi, get_append_none hn, hn, Option.getD_some, Option.getD_none]

/-- 'm[k] = v' behind 'the entry under k' -/
theorem EntryAt.store {w : World} {b : Nat} {l : List (K × V)} {k : K} {n : Nat} (h : EntryAt encK encV w b l k n) (t : TypeId) (v : V) :
    ∃ w', (Instr.entryStore t (.map (some b)) (goInt n) (encV v)).run P w = .ok () w' ∧ MapAt encK encV w' b (put l k v) ∧ Tch [b] w w' := by
  have hlt := h.map.lt
  obtain ⟨es, c, h, H, i, e, hi, he, hn⟩ := h
  have hg : (getObj b).run P w = .ok (.map es c) w := by simp [getObj, Sem.run, h]
  have hs : ∀ o, (setObj b o).run P w = .ok () (World.obj w b o) := fun o => run_setObj h (by intros; simp) o
  have hlt2 := (List.getElem?_eq_some_iff.1 he).1
  have h3 : i < es.size := by simpa using hlt2
  have he' : es[i]? = some e := by simpa using he
  have e1 : es[i] = e := by rw [Array.getElem?_eq_getElem h3] at he'; simpa using he'
  have hidx : es.findIdx? (fun e => (e.born : Int) == n) = some i := by
    rw [Array.findIdx?_eq_some_iff_getElem]
    refine ⟨h3, by simp [e1, hn], fun j hj => ?_⟩
    have hb := List.pairwise_iff_getElem.1 H.born j i (by simp; omega) hlt2 hj
    have e2 : es.toList[i] = e := by rw [List.getElem?_eq_getElem hlt2] at he; simpa using he
    rw [e2] at hb
    simp at hb ⊢
    omega
  refine ⟨World.obj w b (.map (es.modify i fun e => { e with val := encV v }) c), by simp [Instr.entryStore, hg, asInt, asIntOf, goInt, hidx, hs], ?_, tch_obj _ _ _⟩
  refine MapAt.holds.2 ⟨_, _, obj_at hlt _, ?_⟩
  simp only [put, hi]
  exact H.set k v hi fun e2 he2 => ⟨rfl, rfl, rfl⟩

omit [DecidableEq K] in
/-- 'len(m)' -/
theorem MapAt.len {w : World} {b : Nat} {l : List (K × V)} (h : MapAt encK encV w b l) {t k e : TypeId} (ht : P.underlying t = some (.map k e)) (ty : TypeId) :
    (Builtin.len_ #[t] ty #[.map (some b)]).run P w = .ok (.int .i64 l.length) w := by
  obtain ⟨es, c, h, H⟩ := MapAt.holds.1 h
  have hl := map_len H.keys
  have hl' : es.size = l.length := by simpa using hl
  simp [Builtin.len_, run_underlying ht, getObj, Sem.run, h, goInt, hl']

theorem run_findAsking {kt : TypeId} (heq : ∀ (k k' : K) (w : World), (Op.equal kt (encK k) (encK k')).run P w = .ok (k == k') w) (k : K) (w : World) : ∀ (es : List MapEntry) (ks : List K) (j : Nat), es.map (·.key) = ks.map encK →
    (Instr.findAsking kt (encK k) es j).run P w = .ok ((ks.findIdx? (· == k)).bind fun i => (es[i]?).map fun e => (j + i, e.val)) w
  | [], [], j, _ => by simp [Instr.findAsking]
  | [], k' :: ks, j, h => by simp at h
  | e :: es, [], j, h => by simp at h
  | e :: es, k' :: ks, j, h => by
    simp only [List.map_cons, List.cons.injEq] at h
    have ih := run_findAsking heq k w es ks (j + 1) h.2
    simp only [Instr.findAsking, Sem.run_bind, h.1, heq, Result.andThen_ok, List.findIdx?_cons]
    by_cases hk : k = k'
    · subst hk; simp
    · have h1 : (k == k') = false := by simpa using hk
      have h2 : (k' == k) = false := by simpa using fun h => hk h.symm
      simp only [h1, h2, Bool.false_eq_true, if_false, ih]
      cases ks.findIdx? (· == k) with
      | none => rfl
      | some i => simp [Nat.add_assoc, Nat.add_comm 1 i]

theorem KeyOk.of_equal {d : TypeDesc} (hu : P.underlying kt = some d) (hnow : ∀ k k', Instr.sameNow d (encK k) (encK k') = none)
    (hchk : ∀ em k w, (Instr.checkKey em 10000 kt (encK k)).run P w = .ok () w) (heq : ∀ (k k' : K) (w : World), (Op.equal kt (encK k) (encK k')).run P w = .ok (k == k') w)
    (hbits : ∀ k, Instr.sameBits 10000 (encK k) (encK k) = true) : KeyOk P kt encK := by
  refine ⟨hchk, fun k es ks w h => ?_, fun k w => by simp [Instr.keyThatStays, hbits]⟩
  simp only [Instr.findKey, Sem.run_bind, run_underlying hu, Result.andThen_ok]
  cases es with
  | nil =>
    have : ks = [] := by simpa using h.symm
    subst this
    simp [Instr.findNow]
  | cons e es =>
    obtain ⟨k', ks', rfl⟩ : ∃ k' ks', ks = k' :: ks' := by cases ks with | nil => simp at h | cons k' ks' => exact ⟨k', ks', rfl⟩
    have he : e.key = encK k' := by simp at h; exact h.1
    have hn : Instr.findNow d (encK k) (e :: es) 0 = none := by simp [Instr.findNow, he, hnow]
    rw [hn]
    have := run_findAsking heq k w (e :: es) (k' :: ks') 0 h
    simpa using this

end
end Go.Reg
