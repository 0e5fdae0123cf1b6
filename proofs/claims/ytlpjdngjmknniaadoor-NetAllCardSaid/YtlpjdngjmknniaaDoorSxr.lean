/- Bridges between what worlds hold and what the walk knows: slices, arguments. -/
import Derived.Test.YtlpjdngjmknniaaDoorSxq
import Derived.Test.YtlpjdngjmknniaaDoorArg
namespace Go.Sx
open Go Go.RowKit Go.Reg

section
variable {α : Type} {C : Cx} {O : List Nat} {w : World} {v : Value}

/-- a type's plain things: their cells, their data -/
structure Enc (α : Type) where
  enc : α → List Value
  d : α → Da
  k : Nat
  len : ∀ x, (enc x).length = k
  one : ∀ x, ∀ u ∈ enc x, u.oneCell' = true
  rep : ∀ (O : List Nat) (w : World) (x : α), RepC O w (d x) (enc x)

theorem Enc.reps (E : Enc α) (O : List Nat) (w : World) : ∀ l : List α, RepCss O w (l.map E.d) (l.map E.enc)
  | [] => by simp [RepCss]
  | x :: l => by simp only [List.map_cons, RepCss]; exact ⟨_, _, rfl, E.rep O w x, E.reps O w l⟩
theorem Enc.rows (E : Enc α) (l : List α) : ∀ x ∈ l.map E.enc, RowOk E.k x := fun x hx => by
  obtain ⟨y, _, rfl⟩ := List.mem_map.1 hx
  exact ⟨E.len y, E.one y⟩

/-- an owned slice, given up -/
theorem Enc.rep_sl (E : Enc α) {T : Nat} {l : List α} (h : Sl T E.k E.enc w v l) (hb : ∀ b, v.ownBlock = some b → b ∉ O) : Rep O w (.list E.k (l.map E.d)) v := by
  refine ⟨[v], ?_, rfl⟩
  simp only [RepC]
  rcases h.2 with ⟨rfl, h0⟩ | ⟨g, cap, cur, rfl, h0, hg, hc, hm, hs, ht⟩
  · have : l = [] := List.eq_nil_of_length_eq_zero h0
    subst this
    exact ⟨none, 0, [], by simp, by simp, by unfold maxLen; omega, by simp [RepCss], by simp, .inl rfl⟩
  · refine ⟨_, cap, l.map E.enc, by simp, by simpa using hc, hm, E.reps O w l, E.rows l, .inr ⟨g, 0, rfl, hb g rfl, h.lt rfl, ?_⟩⟩
    intro j u hj
    have := World.ownsRow.cells h (g := g) rfl j u (by rw [List.flatMap_def]; exact hj)
    simpa [Addr.add_lit] using this

/-- a slice that came in -/
theorem Enc.rep_arg (E : Enc α) (hk : 0 < E.k) {l : List α} (h : ArgSl E.k E.enc w v l) (hcap : ∀ a n c, v = .slice a n c → n ≤ c ∧ c ≤ maxLen) : Rep [] w (.list E.k (l.map E.d)) v := by
  obtain ⟨a, c, rfl, hm, hc⟩ := h
  obtain ⟨c1, c2⟩ := hcap _ _ _ rfl
  refine ⟨[_], ?_, rfl⟩
  simp only [RepC]
  refine ⟨a, c, l.map E.enc, by simp, by simpa using c1, c2, E.reps [] w l, E.rows l, ?_⟩
  cases l with
  | nil => exact .inl rfl
  | cons x l =>
    right
    obtain ⟨b, o, rfl, h0⟩ := hc 0 x rfl
    have hcell : Cells w b o ((x :: l).map E.enc).flatten := by
      intro j u hj
      have hlen : ∀ (m : List α), (m.map E.enc).flatten.length = m.length * E.k := fun m => by
        induction m with
        | nil => simp
        | cons y m ih => simp only [List.map_cons, List.flatten_cons, List.length_append, ih, E.len, List.length_cons, Nat.succ_mul]; omega
      have hjl : j < (x :: l).length * E.k := by rw [← hlen]; exact (List.getElem?_eq_some_iff.1 hj).1
      have hi : j / E.k < (x :: l).length := (Nat.div_lt_iff_lt_mul hk).2 hjl
      have hy := List.getElem?_eq_getElem hi
      obtain ⟨b', o', he, h2⟩ := hc (j / E.k) _ hy
      cases he
      have := h2 (j % E.k) u (by
        have h3 := flat_at E.len (x :: l) (j / E.k) ((x :: l)[j / E.k]) (j % E.k) hy (Nat.mod_lt _ hk)
        rw [← h3, List.flatMap_def, Nat.mul_comm, Nat.div_add_mod]
        exact hj)
      rwa [Nat.add_assoc, Nat.mul_comm, Nat.div_add_mod] at this
    refine ⟨b, o, rfl, by simp, ?_, hcell⟩
    have hx : ∃ u, (E.enc x)[0]? = some u := ⟨_, List.getElem?_eq_getElem (by rw [E.len]; exact hk)⟩
    obtain ⟨u, hu⟩ := hx
    have := h0 0 u hu
    unfold World.cell? at this
    rcases Nat.lt_or_ge b w.heap.size with hl | hl
    · exact hl
    · rw [Array.getElem?_eq_none (by omega)] at this; cases this

open Go.Deep Go.WideShapes in
theorem cap_of {H : Type} {P : Program} {e' : TypeId × Value → H} {base b0 : Nat} {spare : Nat → Bool} {held : Bool} {r : Reach} {t e : TypeId} {d : DataW H} {ps : List MemPlace} (ht : P.underlying t = some (.slice e))
    (hval : Value.okWide P w r b0 t v) (h : DataW.Trod e' P w base spare held t v d ps) : ∀ a n c, v = .slice a n c → n ≤ c ∧ c ≤ maxLen := by
  obtain ⟨fuel, hf⟩ := h
  rintro a n c rfl
  rcases open_slice ht hf with ⟨h1, _⟩ | ⟨a', len, cap, m, n', D, Pl, h1, hb, hl, hm, _⟩
  · simp [Value.cells] at h1
    obtain ⟨rfl, rfl, rfl⟩ := h1
    exact ⟨Nat.le_refl _, by unfold maxLen; omega⟩
  · simp [Value.cells] at h1
    obtain ⟨rfl, rfl, rfl⟩ := h1
    exact ⟨hl, hm⟩

theorem reps_nil : Reps O w [] [] := ⟨[], by simp [RepCss], rfl⟩
theorem reps_cons {d : Da} {ds : List Da} {vs : List Value} (h1 : Rep O w d v) (h2 : Reps O w ds vs) : Reps O w (d :: ds) (v :: vs) := by
  obtain ⟨cs, r1, rfl⟩ := h1
  obtain ⟨css, r2, rfl⟩ := h2
  exact ⟨cs :: css, ⟨cs, css, rfl, r1, r2⟩, rfl⟩
theorem reps_inv {d : Da} {ds : List Da} {us : List Value} (h : Reps O w (d :: ds) us) : ∃ v vs, us = v :: vs ∧ Rep O w d v ∧ Reps O w ds vs := by
  obtain ⟨css, r, rfl⟩ := h
  simp only [RepCss] at r
  obtain ⟨c1, c2, rfl, r1, r2⟩ := r
  exact ⟨_, _, rfl, ⟨c1, r1, rfl⟩, c2, r2, rfl⟩
theorem reps_inv0 {us : List Value} (h : Reps O w [] us) : us = [] := by
  obtain ⟨css, r, rfl⟩ := h
  simp
theorem rep_int {k : IntKind} {n : Int} (h : Rep O w (.int k n) v) : v = .int k n := by obtain ⟨cs, r, rfl⟩ := h; simp only [RepC] at r; subst r; rfl
theorem rep_str {s : ByteArray} (h : Rep O w (.str s) v) : v = .string s := by obtain ⟨cs, r, rfl⟩ := h; simp only [RepC] at r; subst r; rfl
theorem rep_of_int (k : IntKind) (n : Int) : Rep O w (.int k n) (.int k n) := ⟨[_], by simp [RepC], rfl⟩
theorem rep_of_bool (b : Bool) : Rep O w (.bool b) (.bool b) := ⟨[_], by simp [RepC], rfl⟩
theorem rep_nili : Rep O w .nili .nilIface := ⟨[_], by simp [RepC], rfl⟩

theorem Pure.assume {f : FuncId} {xs : List Da} {Q : Da → Prop} {P : Prop} (hp : ∀ O w us, Reps O w xs us → P) (h : P → Pure C f xs Q) : Pure C f xs Q := fun O w us hO hg hr => h (hp O w us hr) O w us hO hg hr
theorem rep_len {k : Nat} {ds : List Da} (h : Rep O w (.list k ds) v) : ds.length ≤ maxLen := by
  obtain ⟨cs, r, rfl⟩ := h
  simp only [RepC] at r
  obtain ⟨a, c, css, _, h1, h2, _⟩ := r
  omega
theorem reps_len {k : Nat} {ds : List Da} {xs : List Da} {us : List Value} (h : Reps O w xs us) (hm : .list k ds ∈ xs) : ds.length ≤ maxLen := by
  induction xs generalizing us with
  | nil => cases hm
  | cons x xs ih =>
    obtain ⟨v, vs, rfl, h1, h2⟩ := reps_inv h
    rcases List.mem_cons.1 hm with e | hm
    · subst e; exact rep_len h1
    · exact ih h2 hm

/-- from a contract of the engine to a plain one -/
theorem Pure.calls {f : FuncId} {xs : List Da} {Q : Da → Prop} (h : Pure C f xs Q) (hg : Glob C [] w) {us : List Value} (hr : Reps [] w xs us) : Calls C.P f us.toArray w fun e w' => ∃ u y, e = .returned u ∧ Q y ∧ Rep [] w' y u ∧ Tch [] w w' :=
  (h [] w us (by simp) hg hr).2
end
end Go.Sx
