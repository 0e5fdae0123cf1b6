/- What a run of an operation of the library's does, as a list of its looks and writes: reckoned by the kernel, followed in a world. -/
import Derived.WalkKit
namespace Go.Reg
open Go Go.RowKit

/-- 0: a look at a cell · 1: a store · 2: a new block -/
structure Evt where
  kind : Nat
  a : Addr
  v : Value
  o : Obj

def ld (a : Addr) (v : Value) : Evt := ⟨0, a, v, default⟩
def st (a : Addr) (v : Value) : Evt := ⟨1, a, v, default⟩
def nw (r : Nat) (o : Obj) : Evt := ⟨2, ⟨r, 0, none⟩, .nilIface, o⟩

/-- the answers: what a look gives, the numbers of new blocks -/
def trace {α : Type} (P : Program) : Sem α → List Value → List Nat → Option (α × List Evt)
  | .pure x, _, _ => some (x, [])
  | .program k, vs, ns => trace P (k P) vs ns
  | .mark _ k, vs, ns => trace P k vs ns
  | .load .plain a k, v :: vs, ns => (trace P (k v) vs ns).map fun r => (r.1, ld a v :: r.2)
  | .store .plain a v k, vs, ns => (trace P k vs ns).map fun r => (r.1, st a v :: r.2)
  | .new o k, vs, n :: ns => (trace P (k n) vs ns).map fun r => (r.1, nw n o :: r.2)
  | _, _, _ => none

def Follows : World → List Evt → World → Prop
  | w, [], w' => w' = w
  | w, e :: es, w' => match e.kind with
    | 0 => w.cell? e.a = some e.v ∧ Follows w es w'
    | 1 => e.v.oneCell' = true ∧ (∃ u, w.cell? e.a = some u) ∧ w.frozen? e.a = false ∧ Follows (w.setCell e.a e.v) es w'
    | _ => w.heap.size = e.a.block ∧ Follows (w.alloc e.o) es w'

theorem run_of_trace {α : Type} {P : Program} : ∀ (s : Sem α) (vs : List Value) (ns : List Nat) {x : α} {es : List Evt} {w w' : World}, trace P s vs ns = some (x, es) → Follows w es w' → s.run P w = .ok x w'
  | .pure y, vs, ns, x, es, w, w', h, hf => by
    simp only [trace, Option.some.injEq, Prod.mk.injEq] at h
    obtain ⟨rfl, rfl⟩ := h
    obtain rfl : w' = w := hf
    rfl
  | .program k, vs, ns, x, es, w, w', h, hf => by
    simp only [trace] at h
    exact run_of_trace (k P) vs ns h hf
  | .mark m k, vs, ns, x, es, w, w', h, hf => by
    simp only [trace] at h
    exact run_of_trace k vs ns h hf
  | .load m a k, vs, ns, x, es, w, w', h, hf => by
    cases m <;> cases vs <;> simp only [trace] at h <;> first | (cases h; done) | skip
    rename_i v vs
    cases ht : trace P (k v) vs ns with
    | none => rw [ht] at h; cases h
    | some r =>
      rw [ht] at h
      simp only [Option.map_some, Option.some.injEq, Prod.mk.injEq] at h
      obtain ⟨rfl, rfl⟩ := h
      obtain ⟨hc, hf⟩ := hf
      simp only [ld] at hc
      simp only [Sem.run, hc]
      exact run_of_trace (k v) vs ns ht hf
  | .store m a v k, vs, ns, x, es, w, w', h, hf => by
    cases m <;> simp only [trace] at h <;> first | (cases h; done) | skip
    cases ht : trace P k vs ns with
    | none => rw [ht] at h; cases h
    | some r =>
      rw [ht] at h
      simp only [Option.map_some, Option.some.injEq, Prod.mk.injEq] at h
      obtain ⟨rfl, rfl⟩ := h
      obtain ⟨h1, ⟨u, hc⟩, hz, hf⟩ := hf
      simp only [st] at h1 hc hz hf
      have := run_of_trace k vs ns ht hf
      cases v <;> first | (cases h1; done) | (simp only [Sem.run, hc, hz, Bool.false_eq_true, if_false]; exact this)
  | .new o k, vs, ns, x, es, w, w', h, hf => by
    cases ns <;> simp only [trace] at h <;> first | (cases h; done) | skip
    rename_i n ns
    cases ht : trace P (k n) vs ns with
    | none => rw [ht] at h; cases h
    | some r =>
      rw [ht] at h
      simp only [Option.map_some, Option.some.injEq, Prod.mk.injEq] at h
      obtain ⟨rfl, rfl⟩ := h
      obtain ⟨hn, hf⟩ := hf
      simp only [nw] at hn hf
      simp only [Sem.run]
      rw [hn]
      exact run_of_trace (k n) vs ns ht hf
  | .shape .., vs, ns, x, es, w, w', h, hf => by simp [trace] at h
  | .freeze .., vs, ns, x, es, w, w', h, hf => by simp [trace] at h
  | .frozen .., vs, ns, x, es, w, w', h, hf => by simp [trace] at h
  | .getObj .., vs, ns, x, es, w, w', h, hf => by simp [trace] at h
  | .setObj .., vs, ns, x, es, w, w', h, hf => by simp [trace] at h
  | .choose .., vs, ns, x, es, w, w', h, hf => by simp [trace] at h
  | .sys .., vs, ns, x, es, w, w', h, hf => by simp [trace] at h
  | .halt .., vs, ns, x, es, w, w', h, hf => by simp [trace] at h
end Go.Reg
