/- How memory turns under a walk: a new thing, a thing turned, a thing given up. -/
import Derived.Test.YtlpjdngjmknniaaDoorSxb
namespace Go.Sx
open Go Go.RowKit Go.Reg

variable {C : Cx} {B S : List Nat} {w0 w w' : World} {σ : Sg} {η η' : Nat → Value} {φ φ' : Nat → List Nat} {i : Nat} {o : Own}

theorem Later.same (h : Tch [] w w') (O : List Nat) : Later O w O w' := ⟨h.size, fun b hb _ => h.blk b hb (by simp), fun _ h _ => h⟩
theorem Later.touch {X O : List Nat} (h : Tch X w w') (hX : ∀ b ∈ X, b ∈ O) : Later O w O w' := ⟨h.size, fun b hb hn => h.blk b hb (fun hm => hn (hX b hm)), fun _ h _ => h⟩

/-- nothing that was there has turned -/
theorem Mem.grow (h : Mem C B S w0 σ η φ w) (t : Tch [] w w') : Mem C B S w0 σ η φ w' :=
  ⟨h.tch.then0 t, fun p hp => (h.own p hp).later (Later.same t _) (fun i hi => ⟨hi, rfl⟩) t (fun _ _ => by simp), h.nodup, h.disj, h.new, h.out, fun g hg => (h.glob g hg).later (Later.same t _)⟩

def upd {α : Type} (f : Nat → α) (i : Nat) (v : α) : Nat → α := fun j => if j = i then v else f j
theorem upd_eq {α : Type} (f : Nat → α) (i : Nat) (v : α) : upd f i v i = v := by simp [upd]
theorem upd_ne {α : Type} (f : Nat → α) (i : Nat) (v : α) {j : Nat} (h : j ≠ i) : upd f i v j = f j := by simp [upd, h]

theorem blocks_congr : ∀ {σ : Sg}, (∀ j ∈ ids σ, φ' j = φ j) → blocks φ' σ = blocks φ σ
  | [], _ => rfl
  | p :: σ, h => by
    have h1 := h p.1 (by simp [ids])
    have h2 := blocks_congr (σ := σ) (fun j hj => h j (by simp only [ids, List.map_cons, List.mem_cons] at hj ⊢; exact .inr hj))
    simp only [blocks, List.flatMap_cons] at h2 ⊢
    rw [h1, h2]
theorem blocks_add {F : List Nat} (hi : i ∉ ids σ) : blocks (upd φ i F) ((i, o) :: σ) = F ++ blocks φ σ := by
  have := blocks_congr (φ := φ) (φ' := upd φ i F) (σ := σ) (fun j hj => upd_ne _ _ _ (fun e => hi (e ▸ hj)))
  simp only [blocks, List.flatMap_cons, upd_eq] at this ⊢
  rw [this]

/-- a new thing -/
theorem Mem.add (h : Mem C B S w0 σ η φ w) (t : Tch [] w w') (hi : i ∉ ids σ) {v : Value} {F : List Nat} (hF : ∀ b ∈ F, w.heap.size ≤ b)
    (ho : o.holds (upd η i v) (i :: ids σ) (B ++ (F ++ blocks φ σ)) w' v F) : Mem C B S w0 ((i, o) :: σ) (upd η i v) (upd φ i F) w' ∧ Later (B ++ blocks φ σ) w (B ++ blocks (upd φ i F) ((i, o) :: σ)) w' := by
  have hb := blocks_add (φ := φ) (o := o) (F := F) hi
  have hl : Later (B ++ blocks φ σ) w (B ++ blocks (upd φ i F) ((i, o) :: σ)) w' := by
    refine ⟨t.size, fun b h _ => t.blk b h (by simp), fun b hn hs hm => ?_⟩
    rw [hb] at hm
    rcases List.mem_append.1 hm with hm | hm
    · exact hn (List.mem_append_left _ hm)
    · rcases List.mem_append.1 hm with hm | hm
      · have := hF b hm; omega
      · exact hn (List.mem_append_right _ hm)
  refine ⟨⟨h.tch.then0 t, ?_, ?_, ?_, ?_, h.out, fun g hg => (h.glob g hg).later hl⟩, hl⟩
  · intro p hp
    rcases List.mem_cons.1 hp with rfl | hp
    · simp only [upd_eq]; rw [hb]; exact ho
    · have hne : p.1 ≠ i := fun e => hi (e ▸ mem_ids hp)
      rw [upd_ne _ _ _ hne, upd_ne _ _ _ hne]
      exact (h.own p hp).later hl (fun _ hj => ⟨List.mem_cons_of_mem _ hj, upd_ne _ _ _ (fun e => hi (e ▸ hj))⟩) t (fun _ _ => by simp)
  · exact List.nodup_cons.2 ⟨hi, h.nodup⟩
  · intro j hj k hk hjk b hb1 hb2
    have hlt : ∀ m ∈ ids σ, ∀ b ∈ φ m, b < w.heap.size := fun m hm b hb => h.lt b (List.mem_append_right _ (mem_blocks hm hb))
    rcases List.mem_cons.1 hj with e0 | hj
    · replace e0 : j = i := e0
      rcases List.mem_cons.1 hk with e3 | hk
      · exact hjk (e0.trans (Eq.symm e3))
      · rw [e0, upd_eq] at hb1; rw [upd_ne _ _ _ (fun e => hjk (e0.trans e.symm))] at hb2
        have := hF b hb1; have := hlt k hk b hb2; omega
    · rcases List.mem_cons.1 hk with e3 | hk
      · replace e3 : k = i := e3
        rw [e3, upd_eq] at hb2; rw [upd_ne _ _ _ (fun e => hjk (e.trans e3.symm))] at hb1
        have := hF b hb2; have := hlt j hj b hb1; omega
      · have e1 : j ≠ i := fun e => hi (e ▸ hj)
        have e2 : k ≠ i := fun e => hi (e ▸ hk)
        rw [upd_ne _ _ _ e1] at hb1; rw [upd_ne _ _ _ e2] at hb2
        exact h.disj j hj k hk hjk b hb1 hb2
  · intro j hj b hb1
    rcases List.mem_cons.1 hj with e0 | hj
    · replace e0 : j = i := e0
      rw [e0, upd_eq] at hb1
      have := hF b hb1; have := h.tch.size; right; omega
    · have e1 : j ≠ i := fun e => hi (e ▸ hj)
      rw [upd_ne _ _ _ e1] at hb1
      exact h.new j hj b hb1

theorem FrRep.add {fr : Fr} {a : Act} (h : FrRep η (ids σ) (B ++ blocks φ σ) w fr a) (hi : i ∉ ids σ) {v : Value} {F : List Nat} (hl : Later (B ++ blocks φ σ) w (B ++ blocks (upd φ i F) ((i, o) :: σ)) w') :
    FrRep (upd η i v) (ids ((i, o) :: σ)) (B ++ blocks (upd φ i F) ((i, o) :: σ)) w' fr a :=
  h.later hl (fun _ hj => ⟨List.mem_cons_of_mem _ hj, upd_ne _ _ _ (fun e => hi (e ▸ hj))⟩)

def sget (i : Nat) : Sg → Option Own
  | [] => none
  | (j, o) :: σ => match Nat.beq j i with
    | true => some o
    | false => sget i σ
/-- the thing i turned; x in the place of its mentions elsewhere -/
def sturn (g : Own → Own) (i : Nat) (o : Own) : Sg → Sg
  | [] => []
  | (j, p) :: σ => match Nat.beq j i with
    | true => (j, o) :: sturn g i o σ
    | false => (j, g p) :: sturn g i o σ
def sdel (g : Own → Own) (i : Nat) : Sg → Sg
  | [] => []
  | (j, p) :: σ => match Nat.beq j i with
    | true => sdel g i σ
    | false => (j, g p) :: sdel g i σ

theorem sget_mem : ∀ {σ : Sg}, sget i σ = some o → (i, o) ∈ σ
  | [], h => by simp [sget] at h
  | (j, p) :: σ, h => by
    rcases beq_cases j i with ⟨hb, e⟩ | ⟨hb, e⟩
    · simp only [sget, hb, Option.some.injEq] at h; subst e; subst h; simp
    · simp only [sget, hb] at h; exact List.mem_cons_of_mem _ (sget_mem h)
theorem ids_sturn (g : Own → Own) (i : Nat) (o : Own) : ∀ σ : Sg, ids (sturn g i o σ) = ids σ
  | [] => rfl
  | (j, p) :: σ => by
    have ih := ids_sturn g i o σ
    simp only [ids] at ih
    rcases beq_cases j i with ⟨hb, e⟩ | ⟨hb, e⟩ <;> simp only [sturn, hb, ids, List.map_cons, ih]
theorem mem_sturn {g : Own → Own} : ∀ {σ : Sg} {p : Nat × Own}, p ∈ sturn g i o σ → p = (i, o) ∨ ∃ q ∈ σ, q.1 ≠ i ∧ p = (q.1, g q.2)
  | [], p, h => by simp [sturn] at h
  | (j, q) :: σ, p, h => by
    rcases beq_cases j i with ⟨hb, e⟩ | ⟨hb, e⟩
    · simp only [sturn, hb] at h
      rcases List.mem_cons.1 h with rfl | h
      · subst e; exact .inl rfl
      · rcases mem_sturn h with h | ⟨q', hq, h1, h2⟩
        · exact .inl h
        · exact .inr ⟨q', List.mem_cons_of_mem _ hq, h1, h2⟩
    · simp only [sturn, hb] at h
      rcases List.mem_cons.1 h with rfl | h
      · exact .inr ⟨(j, q), by simp, e, rfl⟩
      · rcases mem_sturn h with h | ⟨q', hq, h1, h2⟩
        · exact .inl h
        · exact .inr ⟨q', List.mem_cons_of_mem _ hq, h1, h2⟩
theorem mem_sdel {g : Own → Own} : ∀ {σ : Sg} {p : Nat × Own}, p ∈ sdel g i σ → ∃ q ∈ σ, q.1 ≠ i ∧ p = (q.1, g q.2)
  | [], p, h => by simp [sdel] at h
  | (j, q) :: σ, p, h => by
    rcases beq_cases j i with ⟨hb, e⟩ | ⟨hb, e⟩
    · simp only [sdel, hb] at h
      obtain ⟨q', hq, h1, h2⟩ := mem_sdel h
      exact ⟨q', List.mem_cons_of_mem _ hq, h1, h2⟩
    · simp only [sdel, hb] at h
      rcases List.mem_cons.1 h with rfl | h
      · exact ⟨(j, q), by simp, e, rfl⟩
      · obtain ⟨q', hq, h1, h2⟩ := mem_sdel h
        exact ⟨q', List.mem_cons_of_mem _ hq, h1, h2⟩
theorem ids_sdel (g : Own → Own) (i : Nat) : ∀ σ : Sg, ids (sdel g i σ) = (ids σ).filter (· != i)
  | [] => rfl
  | (j, p) :: σ => by
    have ih := ids_sdel g i σ
    simp only [ids] at ih
    rcases beq_cases j i with ⟨hb, e⟩ | ⟨hb, e⟩
    · subst e; simp only [sdel, hb, ids, List.map_cons, ih]; simp
    · simp only [sdel, hb, ids, List.map_cons, ih]; simp [e]

theorem sturn_blocks {g : Own → Own} (F : List Nat) : ∀ b, b ∈ blocks (upd φ i F) (sturn g i o σ) → b ∈ F ∨ ∃ j ∈ ids σ, j ≠ i ∧ b ∈ φ j := by
  intro b hb
  obtain ⟨p, hp, hb⟩ := List.mem_flatMap.1 hb
  rcases mem_sturn hp with rfl | ⟨q, hq, h1, rfl⟩
  · simp only [upd_eq] at hb; exact .inl hb
  · simp only [upd_ne _ _ _ h1] at hb; exact .inr ⟨q.1, mem_ids hq, h1, hb⟩

/-- the thing i turned -/
theorem Mem.turn (h : Mem C B S w0 σ η φ w) {X : List Nat} (t : Tch X w w') (hX : ∀ b ∈ X, b ∈ φ i) (hi : i ∈ ids σ) {v : Value} {F : List Nat} (hF : ∀ b ∈ F, b ∈ φ i ∨ w.heap.size ≤ b) {g : Own → Own}
    (hl : Later (B ++ blocks φ σ) w (B ++ blocks (upd φ i F) (sturn g i o σ)) w')
    (hg : ∀ q ∈ σ, q.1 ≠ i → q.2.holds η (ids σ) (B ++ blocks φ σ) w (η q.1) (φ q.1) → (g q.2).holds (upd η i v) (ids σ) (B ++ blocks (upd φ i F) (sturn g i o σ)) w' (η q.1) (φ q.1))
    (ho : o.holds (upd η i v) (ids σ) (B ++ blocks (upd φ i F) (sturn g i o σ)) w' v F) : Mem C B S w0 (sturn g i o σ) (upd η i v) (upd φ i F) w' := by
  have hX' : ∀ b ∈ X, b ∈ S ∨ w0.heap.size ≤ b := fun b hb => (h.new i hi b (hX b hb)).imp (fun h => h.1) id
  have hlt : ∀ m ∈ ids σ, ∀ b ∈ φ m, b < w.heap.size := fun m hm b hb => h.lt b (List.mem_append_right _ (mem_blocks hm hb))
  refine ⟨h.tch.trans t (fun _ h => h) hX', ?_, by rw [ids_sturn]; exact h.nodup, ?_, ?_, h.out, fun g hg => (h.glob g hg).later hl⟩
  · intro p hp
    rw [ids_sturn]
    rcases mem_sturn hp with rfl | ⟨q, hq, h1, rfl⟩
    · simp only [upd_eq]; exact ho
    · simp only [upd_ne _ _ _ h1]
      exact hg q hq h1 (h.own q hq)
  · rw [ids_sturn]
    intro j hj k hk hjk b hb1 hb2
    by_cases e1 : j = i
    · subst e1
      rw [upd_eq] at hb1; rw [upd_ne _ _ _ (Ne.symm hjk)] at hb2
      rcases hF b hb1 with h1 | h1
      · exact h.disj j hj k hk hjk b h1 hb2
      · have := hlt k hk b hb2; omega
    · rw [upd_ne _ _ _ e1] at hb1
      by_cases e2 : k = i
      · subst e2
        rw [upd_eq] at hb2
        rcases hF b hb2 with h1 | h1
        · exact h.disj j hj k hk hjk b hb1 h1
        · have := hlt j hj b hb1; omega
      · rw [upd_ne _ _ _ e2] at hb2
        exact h.disj j hj k hk hjk b hb1 hb2
  · rw [ids_sturn]
    intro j hj b hb1
    by_cases e1 : j = i
    · subst e1
      rw [upd_eq] at hb1
      rcases hF b hb1 with h1 | h1
      · exact h.new j hj b h1
      · have := h.tch.size; right; omega
    · rw [upd_ne _ _ _ e1] at hb1
      exact h.new j hj b hb1

theorem Later.turn (B : List Nat) {X : List Nat} (t : Tch X w w') (hX : ∀ b ∈ X, b ∈ φ i) (hi : i ∈ ids σ) {F : List Nat} (hF : ∀ b ∈ F, b ∈ φ i ∨ w.heap.size ≤ b) (g : Own → Own) (o : Own) :
    Later (B ++ blocks φ σ) w (B ++ blocks (upd φ i F) (sturn g i o σ)) w' := by
  refine ⟨t.size, fun b hb hn => t.blk b hb (fun hm => hn (List.mem_append_right _ (mem_blocks hi (hX b hm)))), fun b hn hs hm => ?_⟩
  rcases List.mem_append.1 hm with hm | hm
  · exact hn (List.mem_append_left _ hm)
  · rcases sturn_blocks F b hm with hm | ⟨j, hj, _, hm⟩
    · rcases hF b hm with hm | hm
      · exact hn (List.mem_append_right _ (mem_blocks hi hm))
      · omega
    · exact hn (List.mem_append_right _ (mem_blocks hj hm))

/-- turned in its place: the same value -/
theorem Mem.turnSame (h : Mem C B S w0 σ η φ w) {X : List Nat} (t : Tch X w w') (hX : ∀ b ∈ X, b ∈ φ i) (hi : i ∈ ids σ) {F : List Nat} (hF : ∀ b ∈ F, b ∈ φ i ∨ w.heap.size ≤ b)
    (ho : o.holds η (ids σ) (B ++ blocks (upd φ i F) (sturn id i o σ)) w' (η i) F) : Mem C B S w0 (sturn id i o σ) η (upd φ i F) w' := by
  have he : upd η i (η i) = η := by funext j; by_cases e : j = i <;> simp [upd, e]
  have hl := Later.turn B t hX hi hF id o
  have := h.turn (v := η i) (g := id) t hX hi hF hl (fun q hq hne hh => by
    rw [he]
    exact hh.later hl (fun j hj => ⟨hj, rfl⟩) t (fun b hb hm => h.disj q.1 (mem_ids hq) i hi hne b hb (hX b hm))) (by rw [he]; exact ho)
  rw [he] at this
  exact this
/-- turned, and its value another one: old mentions are struck -/
theorem Mem.turnKill (h : Mem C B S w0 σ η φ w) {X : List Nat} (t : Tch X w w') (hX : ∀ b ∈ X, b ∈ φ i) (hi : i ∈ ids σ) {v : Value} {F : List Nat} (hF : ∀ b ∈ F, b ∈ φ i ∨ w.heap.size ≤ b)
    (ho : o.holds (upd η i v) (ids σ) (B ++ blocks (upd φ i F) (sturn (killO i .undef) i o σ)) w' v F) : Mem C B S w0 (sturn (killO i .undef) i o σ) (upd η i v) (upd φ i F) w' := by
  have hl := Later.turn B t hX hi hF (killO i .undef) o
  exact h.turn t hX hi hF hl (fun q hq hne hh => hh.kill rfl hl (fun j hj hne => ⟨hj, upd_ne _ _ _ hne⟩) ⟨_, rfl⟩ t (fun b hb hm => h.disj q.1 (mem_ids hq) i hi hne b hb (hX b hm))) ho

/-- the thing i given up: what is known of it stands in the place of its mentions -/
theorem Mem.del (h : Mem C B S w0 σ η φ w) {x : Da} (hx : x.one = true) (hr : RepC (B ++ blocks φ (sdel (killO i x) i σ)) w x [η i]) :
    Mem C B S w0 (sdel (killO i x) i σ) η φ w ∧ Later (B ++ blocks φ σ) w (B ++ blocks φ (sdel (killO i x) i σ)) w := by
  have hl : Later (B ++ blocks φ σ) w (B ++ blocks φ (sdel (killO i x) i σ)) w := by
    refine ⟨Nat.le_refl _, fun _ _ _ => rfl, fun b hn hs hm => ?_⟩
    rcases List.mem_append.1 hm with hm | hm
    · exact hn (List.mem_append_left _ hm)
    · obtain ⟨p, hp, hb⟩ := List.mem_flatMap.1 hm
      obtain ⟨q, hq, _, rfl⟩ := mem_sdel hp
      exact hn (List.mem_append_right _ (mem_blocks (mem_ids hq) hb))
  have hI : ∀ j ∈ ids σ, j ≠ i → j ∈ ids (sdel (killO i x) i σ) ∧ η j = η j := fun j hj hne => ⟨by rw [ids_sdel]; exact List.mem_filter.2 ⟨hj, by simpa using hne⟩, rfl⟩
  have hsub : ∀ j ∈ ids (sdel (killO i x) i σ), j ∈ ids σ := fun j hj => by rw [ids_sdel] at hj; exact (List.mem_filter.1 hj).1
  refine ⟨⟨h.tch, ?_, ?_, ?_, ?_, h.out, fun g hg => (h.glob g hg).later hl⟩, hl⟩
  · intro p hp
    obtain ⟨q, hq, hne, rfl⟩ := mem_sdel hp
    exact (h.own q hq).kill hx hl hI hr (Tch.refl [] w) (fun _ _ => by simp)
  · rw [ids_sdel]; exact h.nodup.filter _
  · exact fun j hj k hk => h.disj j (hsub j hj) k (hsub k hk)
  · exact fun j hj => h.new j (hsub j hj)

end Go.Sx
