/- THE FRAME RULE OF OWNED RECORDS: what is shown of a function's call with some owned things alone (RecCall: the things σ0, by names of their own) holds wherever they stand among others (call_rec: m tells the caller's names of them). rec_of: from a walk to such a law. -/
import Derived.Test.YtlchegpgicdldaaDoorSxu
namespace Go.Sx
open Go Go.RowKit Go.Reg

mutual
def ren (ρ : Nat → Nat) : Dat → Dat
  | .d x => .d x
  | .own i => .own (ρ i)
  | .at_ i o => .at_ (ρ i) o
  | .el i k n o => .el (ρ i) k n o
  | .agg ds => .agg (rens ρ ds)
  | .tuple ds => .tuple (rens ρ ds)
  | .iface t d => .iface t (ren ρ d)
  | .func fn f c => .func fn (rens ρ f) (rens ρ c)
def rens (ρ : Nat → Nat) : List Dat → List Dat
  | [] => []
  | d :: ds => ren ρ d :: rens ρ ds
end
def renO (ρ : Nat → Nat) : Own → Own
  | .cells T ds => .cells T (rens ρ ds)
  | .slice E k ds => .slice E k ds
  | .abs R h l o => .abs R h l o
  | .ghost vs ds => .ghost vs (rens ρ ds)
def renS (ρ : Nat → Nat) : Sg → Sg
  | [] => []
  | (i, o) :: σ => (ρ i, renO ρ o) :: renS ρ σ
def lk : List (Nat × Nat) → Nat → Nat
  | [], i => i
  | (a, b) :: l, i => match Nat.beq a i with
    | true => b
    | false => lk l i
def swp : List (Nat × Nat) → List (Nat × Nat)
  | [] => []
  | (a, b) :: l => (b, a) :: swp l
def dropS (J : List Nat) : Sg → Sg
  | [] => []
  | (i, o) :: σ => match natIn i J with
    | true => dropS J σ
    | false => (i, o) :: dropS J σ
/-- what of a frame may still be mentioned -/
def scrub (J : List Nat) : Fr → Fr
  | [] => []
  | (t, d) :: fr => match within J d with
    | true => (t, d) :: scrub J fr
    | false => (t, .d .undef) :: scrub J fr
/-- the second takes back what the first names -/
def backB (a b : List (Nat × Nat)) : List Nat → Bool
  | [] => true
  | i :: l => Nat.beq (lk b (lk a i)) i && backB a b l
def noneIn (a : List (Nat × Nat)) (J : List Nat) : List Nat → Bool
  | [] => true
  | i :: l => !(natIn (lk a i) J) && noneIn a J l
def lks (a : List (Nat × Nat)) : List Nat → List Nat
  | [] => []
  | i :: l => lk a i :: lks a l

theorem toVD_ren (ρ : Nat → Nat) (d : Dat) (cs : List Value) : toVD (ren ρ d) cs = toVD d cs := by cases d <;> rfl
theorem zip_ren (ρ : Nat → Nat) : ∀ (ds : List Dat) (css : List (List Value)), List.zipWith toVD (rens ρ ds) css = List.zipWith toVD ds css
  | [], _ => by simp [rens]
  | d :: ds, [] => by simp
  | d :: ds, c :: css => by simp only [rens, List.zipWith_cons_cons, toVD_ren, zip_ren ρ ds css]
section
variable {η η' : Nat → Value} {I I' J O O' : List Nat} {w w' : World} {ρ : Nat → Nat}
mutual
theorem RepD.move (hl : Later O w O' w') (h : ∀ i ∈ J, i ∈ I → ρ i ∈ I' ∧ η' (ρ i) = η i) : ∀ (d : Dat) (cs : List Value), within J d = true → RepD η I O w d cs → RepD η' I' O' w' (ren ρ d) cs
  | .d x, cs, _, r => RepC.later hl x cs r
  | .own i, cs, hw, r => by simp only [RepD, ren] at r ⊢; obtain ⟨a, b⟩ := h i (natIn_mem hw) r.1; exact ⟨a, by rw [b]; exact r.2⟩
  | .at_ i off, cs, hw, r => by simp only [RepD, ren] at r ⊢; obtain ⟨a, b⟩ := h i (natIn_mem hw) r.1; exact ⟨a, by rw [b]; exact r.2⟩
  | .el i k n off, cs, hw, r => by simp only [RepD, ren] at r ⊢; obtain ⟨a, b⟩ := h i (natIn_mem hw) r.1; exact ⟨a, by rw [b]; exact r.2⟩
  | .agg ds, cs, hw, r => by simp only [RepD, ren] at r ⊢; exact RepDs.move hl h ds cs (by simpa only [within] using hw) r
  | .tuple ds, cs, hw, r => by simp only [RepD, ren] at r ⊢; obtain ⟨css, h1, h2⟩ := r; exact ⟨css, RepDss.move hl h ds css (by simpa only [within] using hw) h1, by rw [zip_ren]; exact h2⟩
  | .iface t d, cs, hw, r => by simp only [RepD, ren] at r ⊢; obtain ⟨c, h1, h2⟩ := r; exact ⟨c, RepD.move hl h d c (by simpa only [within] using hw) h1, by rw [toVD_ren]; exact h2⟩
  | .func fn f c, cs, hw, r => by
    simp only [RepD, ren] at r ⊢
    simp only [within, Bool.and_eq_true] at hw
    obtain ⟨fs, cs', h1, h2, h3⟩ := r
    exact ⟨fs, cs', RepDss.move hl h f fs hw.1 h1, RepDss.move hl h c cs' hw.2 h2, by rw [zip_ren, zip_ren]; exact h3⟩
theorem RepDs.move (hl : Later O w O' w') (h : ∀ i ∈ J, i ∈ I → ρ i ∈ I' ∧ η' (ρ i) = η i) : ∀ (ds : List Dat) (cs : List Value), withins J ds = true → RepDs η I O w ds cs → RepDs η' I' O' w' (rens ρ ds) cs
  | [], cs, _, r => r
  | d :: ds, cs, hw, r => by
    simp only [RepDs, rens] at r ⊢
    simp only [withins, Bool.and_eq_true] at hw
    obtain ⟨c1, c2, h1, h2, h3⟩ := r
    exact ⟨c1, c2, h1, RepD.move hl h d c1 hw.1 h2, RepDs.move hl h ds c2 hw.2 h3⟩
theorem RepDss.move (hl : Later O w O' w') (h : ∀ i ∈ J, i ∈ I → ρ i ∈ I' ∧ η' (ρ i) = η i) : ∀ (ds : List Dat) (cs : List (List Value)), withins J ds = true → RepDss η I O w ds cs → RepDss η' I' O' w' (rens ρ ds) cs
  | [], cs, _, r => r
  | d :: ds, cs, hw, r => by
    simp only [RepDss, rens] at r ⊢
    simp only [withins, Bool.and_eq_true] at hw
    obtain ⟨c1, c2, h1, h2, h3⟩ := r
    exact ⟨c1, c2, h1, RepD.move hl h d c1 hw.1 h2, RepDss.move hl h ds c2 hw.2 h3⟩
end
theorem Own.holds.move {o : Own} {v : Value} {F S : List Nat} (hl : Later O w O' w') (h : ∀ i ∈ J, i ∈ I → ρ i ∈ I' ∧ η' (ρ i) = η i) (hw : withinO J o = true) (ht : Tch S w w') (hF : ∀ x ∈ F, x ∉ S) (r : o.holds η I O w v F) : (renO ρ o).holds η' I' O' w' v F := by
  cases o with
  | cells T ds =>
    obtain ⟨b, cs, h1, h2, h3, h4⟩ := r
    exact ⟨b, cs, h1, h2, h3.keep ht (hF b (by rw [h2]; simp)), RepDs.move hl h _ _ hw h4⟩
  | slice E k ds =>
    obtain ⟨css, h1, h2, h3, h4⟩ := r
    exact ⟨css, h1.keep ht (fun b hb => hF b (by rw [h2]; simpa using hb)), h2, RepCss.later hl _ _ h3, h4⟩
  | abs R k lt one => exact k S w w' v F r ht hF
  | ghost vs ds => obtain ⟨h1, h2, css, h3, h4⟩ := r; exact ⟨h1, h2, css, RepDss.move hl h _ _ hw h3, by rw [zip_ren]; exact h4⟩
end
theorem renS_mem {ρ : Nat → Nat} : ∀ {σ : Sg} {p : Nat × Own}, p ∈ renS ρ σ ↔ ∃ q ∈ σ, p = (ρ q.1, renO ρ q.2)
  | [], p => by simp [renS]
  | (i, o) :: σ, p => by
    simp only [renS, List.mem_cons, renS_mem (σ := σ)]
    constructor
    · rintro (rfl | ⟨q, hq, rfl⟩)
      · exact ⟨(i, o), .inl rfl, rfl⟩
      · exact ⟨q, .inr hq, rfl⟩
    · rintro ⟨q, rfl | hq, rfl⟩
      · exact .inl rfl
      · exact .inr ⟨q, hq, rfl⟩
theorem ids_renS {ρ : Nat → Nat} : ∀ (σ : Sg), ids (renS ρ σ) = (ids σ).map ρ
  | [] => rfl
  | (i, o) :: σ => by have := ids_renS (ρ := ρ) σ; simp only [ids, renS, List.map_cons] at this ⊢; rw [this]
theorem backB_mem {a b : List (Nat × Nat)} : ∀ {l : List Nat}, backB a b l = true → ∀ i ∈ l, lk b (lk a i) = i
  | [], _, i, hi => by cases hi
  | j :: l, h, i, hi => by
    simp only [backB, Bool.and_eq_true] at h
    rcases List.mem_cons.1 hi with rfl | hi
    · exact Nat.eq_of_beq_eq_true h.1
    · exact backB_mem h.2 i hi
theorem noneIn_mem {a : List (Nat × Nat)} {J : List Nat} : ∀ {l : List Nat}, noneIn a J l = true → ∀ i ∈ l, lk a i ∉ J
  | [], _, i, hi => by cases hi
  | j :: l, h, i, hi => by
    simp only [noneIn, Bool.and_eq_true, Bool.not_eq_true'] at h
    rcases List.mem_cons.1 hi with rfl | hi
    · exact natIn_not h.1
    · exact noneIn_mem h.2 i hi
theorem lks_mem {a : List (Nat × Nat)} : ∀ {l : List Nat} {i : Nat}, i ∈ lks a l → ∃ k ∈ l, i = lk a k
  | [], i, h => by cases h
  | j :: l, i, h => by
    simp only [lks, List.mem_cons] at h
    rcases h with rfl | h
    · exact ⟨j, by simp, rfl⟩
    · obtain ⟨k, hk, e⟩ := lks_mem h; exact ⟨k, by simp [hk], e⟩
theorem dropS_mem {J : List Nat} : ∀ {σ : Sg} {p : Nat × Own}, p ∈ dropS J σ → p ∈ σ ∧ p.1 ∉ J
  | [], p, h => by simp [dropS] at h
  | (i, o) :: σ, p, h => by
    simp only [dropS] at h
    cases hn : natIn i J <;> rw [hn] at h
    · simp only [List.mem_cons] at h
      rcases h with rfl | h
      · exact ⟨by simp, natIn_not hn⟩
      · obtain ⟨h1, h2⟩ := dropS_mem h; exact ⟨by simp [h1], h2⟩
    · obtain ⟨h1, h2⟩ := dropS_mem h; exact ⟨by simp [h1], h2⟩
theorem keepS_in {J : List Nat} : ∀ {σ : Sg} {p : Nat × Own}, p ∈ keepS J σ → p ∈ σ ∧ p.1 ∈ J
  | [], p, h => by simp [keepS] at h
  | (i, o) :: σ, p, h => by
    simp only [keepS] at h
    cases hn : natIn i J <;> rw [hn] at h
    · obtain ⟨h1, h2⟩ := keepS_in h; exact ⟨by simp [h1], h2⟩
    · simp only [List.mem_cons] at h
      rcases h with rfl | h
      · exact ⟨by simp, natIn_mem hn⟩
      · obtain ⟨h1, h2⟩ := keepS_in h; exact ⟨by simp [h1], h2⟩
theorem keep_or_drop {J : List Nat} : ∀ {σ : Sg} {p : Nat × Own}, p ∈ σ → p ∈ keepS J σ ∨ p ∈ dropS J σ
  | (i, o) :: σ, p, h => by
    simp only [keepS, dropS]
    cases hn : natIn i J
    · rcases List.mem_cons.1 h with rfl | h
      · exact .inr (by simp)
      · rcases keep_or_drop (J := J) h with h | h
        · exact .inl h
        · exact .inr (by simp [h])
    · rcases List.mem_cons.1 h with rfl | h
      · exact .inl (by simp)
      · rcases keep_or_drop (J := J) h with h | h
        · exact .inl (by simp [h])
        · exact .inr h
theorem keepS_nodup {J : List Nat} : ∀ {σ : Sg}, (ids σ).Nodup → (ids (keepS J σ)).Nodup
  | [], _ => by simp [keepS, ids]
  | (i, o) :: σ, h => by
    have h' : i ∉ ids σ ∧ (ids σ).Nodup := List.nodup_cons.1 h
    simp only [keepS]
    cases natIn i J
    · exact keepS_nodup h'.2
    · exact List.nodup_cons.2 ⟨fun hm => by
        obtain ⟨p, hp, e⟩ := List.mem_map.1 hm
        have e' : p.1 = i := e
        exact h'.1 (e' ▸ mem_ids (keepS_in hp).1), keepS_nodup h'.2⟩
theorem dropS_nodup {J : List Nat} : ∀ {σ : Sg}, (ids σ).Nodup → (ids (dropS J σ)).Nodup
  | [], _ => by simp [dropS, ids]
  | (i, o) :: σ, h => by
    have h' : i ∉ ids σ ∧ (ids σ).Nodup := List.nodup_cons.1 h
    simp only [dropS]
    cases natIn i J
    · exact List.nodup_cons.2 ⟨fun hm => by
        obtain ⟨p, hp, e⟩ := List.mem_map.1 hm
        have e' : p.1 = i := e
        exact h'.1 (e' ▸ mem_ids (dropS_mem hp).1), dropS_nodup h'.2⟩
    · exact dropS_nodup h'.2
theorem scrub_get {J : List Nat} : ∀ {fr : Fr} (t : Nat), get (scrub J fr) t = .d .undef ∨ get (scrub J fr) t = get fr t ∧ within J (get fr t) = true
  | [], t => .inl rfl
  | (s, d) :: fr, t => by
    simp only [scrub]
    cases hw : within J d <;> simp only [get]
    · cases Nat.beq s t
      · exact scrub_get t
      · exact .inl rfl
    · cases Nat.beq s t
      · exact scrub_get t
      · exact .inr ⟨rfl, hw⟩

theorem nodup_map {f : Nat → Nat} : ∀ {l : List Nat}, (∀ x ∈ l, ∀ y ∈ l, f x = f y → x = y) → l.Nodup → (l.map f).Nodup
  | [], _, _ => by simp
  | a :: l, h, hn => by
    have hn' : a ∉ l ∧ l.Nodup := List.nodup_cons.1 hn
    simp only [List.map_cons]
    refine List.nodup_cons.2 ⟨fun hm => ?_, nodup_map (fun x hx y hy => h x (by simp [hx]) y (by simp [hy])) hn'.2⟩
    obtain ⟨b, hb, e⟩ := List.mem_map.1 hm
    exact hn'.1 (h b (by simp [hb]) a (by simp) e ▸ hb)

/-- what is owed of a call with the owned things σ0 alone: what it hands back, and the owned things behind it; the things ks stay what they are -/
def RecCall (C : Cx) (f : FuncId) (args : List Dat) (σ0 : Sg) (ks : List Nat) (Q : Dat → Sg → Prop) : Prop :=
  ∀ (B S : List Nat) (w : World) (η : Nat → Value) (φ : Nat → List Nat) (css : List (List Value)), Mem C B S w σ0 η φ w → RepDss η (ids σ0) (B ++ blocks φ σ0) w args css →
    (callFunc f (List.zipWith toVD args css).toArray).run C.P w = .ok (.enter f (List.zipWith toVD args css).toArray) w ∧
    Calls C.P f (List.zipWith toVD args css).toArray w fun e w' => ∃ v d σ1 η1 φ1, e = .returned v ∧ Q d σ1 ∧ Mem C B S w σ1 η1 φ1 w' ∧ (∃ cs, RepD η1 (ids σ1) (B ++ blocks φ1 σ1) w' d cs ∧ v = toVD d cs) ∧ ∀ k ∈ ks, k ∈ ids σ1 ∧ η1 k = η k

section
variable {C : Cx} {T : Tab} {fr : Fr} {σ σ0 : Sg}
theorem call_rec (m : List (Nat × Nat)) (J : List Nat) {f : FuncId} {args as : List Dat} {ks : List Nat} {Q : Dat → Sg → Prop} {K : KD} (hp : RecCall C f as σ0 ks Q)
    (h0 : renS (lk m) (keepS J σ) = σ0) (ha : rens (lk m) args = as) (hb : backB m (swp m) J = true) (hwa : withins J args = true) (hw0 : withinS J (keepS J σ) = true) (hwr : withinS (ids (dropS J σ) ++ lks (swp m) ks) (dropS J σ) = true)
    (hK : ∀ d σ1, Q d σ1 → (backB (swp m) m (ids σ1) && noneIn (swp m) (ids (dropS J σ)) (ids σ1) && withinS (ids σ1) σ1 && within (ids σ1) d) = true ∧ K (ren (lk (swp m)) d) (scrub (ids (dropS J σ) ++ lks (swp m) ks) fr) (renS (lk (swp m)) σ1 ++ dropS J σ)) : SxCall C false f args K fr σ := by
  unfold SxCall
  rintro B S w0 η φ n a w vs hM ⟨css, hr, rfl⟩
  subst h0; subst ha
  let ρ := lk m
  let π := lk (swp m)
  let σk := keepS J σ
  let σr := dropS J σ
  have hk : ∀ p ∈ σk, p ∈ σ ∧ p.1 ∈ J := fun p hp => keepS_in hp
  have hd : ∀ p ∈ σr, p ∈ σ ∧ p.1 ∉ J := fun p hp => dropS_mem hp
  have hπ : ∀ i ∈ J, π (ρ i) = i := backB_mem hb
  have hJk : ∀ i ∈ J, i ∈ ids σ → i ∈ ids σk := fun i hi hm => by
    obtain ⟨p, hp, rfl⟩ := List.mem_map.1 hm
    rcases keep_or_drop (J := J) hp with h | h
    · exact mem_ids h
    · exact absurd hi (dropS_mem h).2
  -- the record's world
  let B1 := B ++ blocks φ σr
  let S1 := blocks φ σk
  let η1 : Nat → Value := fun i => η (π i)
  let φ1 : Nat → List Nat := fun i => φ (π i)
  have hbk : ∀ b, b ∈ blocks φ1 (renS ρ σk) ↔ b ∈ blocks φ σk := fun b => by
    simp only [blocks, List.mem_flatMap]
    constructor
    · rintro ⟨p, hp, hb⟩
      obtain ⟨q, hq, rfl⟩ := renS_mem.1 hp
      exact ⟨q, hq, by simpa only [φ1, hπ _ (hk q hq).2] using hb⟩
    · rintro ⟨q, hq, hb⟩
      exact ⟨_, renS_mem.2 ⟨q, hq, rfl⟩, by simpa only [φ1, hπ _ (hk q hq).2] using hb⟩
  have hall : ∀ b, b ∈ blocks φ σ ↔ b ∈ blocks φ σk ∨ b ∈ blocks φ σr := fun b => by
    constructor
    · intro h
      obtain ⟨p, hp, hb⟩ := List.mem_flatMap.1 h
      rcases keep_or_drop (J := J) hp with h | h
      · exact .inl (List.mem_flatMap.2 ⟨p, h, hb⟩)
      · exact .inr (List.mem_flatMap.2 ⟨p, h, hb⟩)
    · rintro (h | h)
      · obtain ⟨p, hp, hb⟩ := List.mem_flatMap.1 h
        exact List.mem_flatMap.2 ⟨p, (hk p hp).1, hb⟩
      · obtain ⟨p, hp, hb⟩ := List.mem_flatMap.1 h
        exact List.mem_flatMap.2 ⟨p, (hd p hp).1, hb⟩
  have hO : ∀ b, b ∈ B1 ++ blocks φ1 (renS ρ σk) ↔ b ∈ B ++ blocks φ σ := fun b => by
    simp only [B1, List.mem_append, hbk, hall]
    constructor
    · rintro ((h | h) | h)
      · exact .inl h
      · exact .inr (.inr h)
      · exact .inr (.inl h)
    · rintro (h | h | h)
      · exact .inl (.inl h)
      · exact .inr h
      · exact .inl (.inr h)
  have hl1 : Later (B ++ blocks φ σ) w (B1 ++ blocks φ1 (renS ρ σk)) w := ⟨Nat.le_refl _, fun _ _ _ => rfl, fun b hn _ hm => hn ((hO b).1 hm)⟩
  have hdis : ∀ b ∈ blocks φ σk, b ∉ blocks φ σr := fun b h1 h2 => by
    obtain ⟨p, hp, hbp⟩ := List.mem_flatMap.1 h1
    obtain ⟨q, hq, hbq⟩ := List.mem_flatMap.1 h2
    exact hM.mem.disj p.1 (mem_ids (hk p hp).1) q.1 (mem_ids (hd q hq).1) (fun e => (hd q hq).2 (e ▸ (hk p hp).2)) b hbp hbq
  have hnew : ∀ b ∈ blocks φ σ, (b ∈ S ∧ b ∉ B) ∨ w0.heap.size ≤ b := fun b h => by
    obtain ⟨p, hp, hb⟩ := List.mem_flatMap.1 h
    exact hM.mem.new p.1 (mem_ids hp) b hb
  have hmv : ∀ i ∈ J, i ∈ ids σ → ρ i ∈ ids (renS ρ σk) ∧ η1 (ρ i) = η i := fun i hi hm => ⟨by rw [ids_renS]; exact List.mem_map_of_mem (hJk i hi hm), by simp only [η1, hπ i hi]⟩
  have hm1 : Mem C B1 S1 w (renS ρ σk) η1 φ1 w := by
    refine ⟨Tch.refl _ _, ?_, ?_, ?_, ?_, ?_, fun g hg => (hM.mem.glob g hg).later hl1⟩
    · intro p hp
      obtain ⟨q, hq, rfl⟩ := renS_mem.1 hp
      have := (hM.mem.own q (hk q hq).1).move (ρ := ρ) hl1 hmv (withinS_mem hw0 q hq) (Tch.refl [] w) (fun _ _ => by simp)
      simpa only [η1, φ1, hπ _ (hk q hq).2] using this
    · rw [ids_renS]
      have hn := keepS_nodup (J := J) hM.mem.nodup
      refine nodup_map ?_ hn
      intro x hx y hy e
      obtain ⟨p, hp, rfl⟩ := List.mem_map.1 hx
      obtain ⟨q, hq, rfl⟩ := List.mem_map.1 hy
      rw [← hπ _ (hk p hp).2, ← hπ _ (hk q hq).2, show ρ p.1 = ρ q.1 from e]
    · intro i hi j hj hij b hbi
      rw [ids_renS] at hi hj
      obtain ⟨i', hi', rfl⟩ := List.mem_map.1 hi
      obtain ⟨j', hj', rfl⟩ := List.mem_map.1 hj
      obtain ⟨p, hp, rfl⟩ := List.mem_map.1 hi'
      obtain ⟨q, hq, rfl⟩ := List.mem_map.1 hj'
      simp only [φ1, hπ _ (hk p hp).2, hπ _ (hk q hq).2] at hbi ⊢
      exact hM.mem.disj p.1 (mem_ids (hk p hp).1) q.1 (mem_ids (hk q hq).1) (fun e => hij (by rw [e])) b hbi
    · intro i hi b hbi
      rw [ids_renS] at hi
      obtain ⟨i', hi', rfl⟩ := List.mem_map.1 hi
      obtain ⟨p, hp, rfl⟩ := List.mem_map.1 hi'
      simp only [φ1, hπ _ (hk p hp).2] at hbi
      have hbm : b ∈ blocks φ σk := List.mem_flatMap.2 ⟨p, hp, hbi⟩
      refine .inl ⟨hbm, fun hm => ?_⟩
      rcases List.mem_append.1 hm with hm | hm
      · rcases hnew b ((hall b).2 (.inl hbm)) with h | h
        · exact h.2 hm
        · have := hM.mem.out b hm; omega
      · exact hdis b hbm hm
    · intro b hb
      rcases List.mem_append.1 hb with hb | hb
      · exact hM.mem.lt b (List.mem_append_left _ hb)
      · exact hM.mem.lt b (List.mem_append_right _ ((hall b).2 (.inr hb)))
  have hr1 := RepDss.move (ρ := ρ) hl1 hmv args css hwa hr
  obtain ⟨g1, g2⟩ := hp B1 S1 w η1 φ1 css hm1 hr1
  rw [zip_ren] at g1 g2
  refine ⟨g1, g2.mono ?_⟩
  rintro e w' ⟨v, d, σ1, η2, φ2, rfl, hQ, hm2, ⟨cs, hv1, hv2⟩, hks⟩
  obtain ⟨hchk, hKK⟩ := hK d σ1 hQ
  simp only [Bool.and_eq_true] at hchk
  have hρ : ∀ i ∈ ids σ1, ρ (π i) = i := backB_mem hchk.1.1.1
  have hfr : ∀ i ∈ ids σ1, π i ∉ ids σr := noneIn_mem hchk.1.1.2
  let σ2 := renS π σ1
  let η3 : Nat → Value := fun i => if i ∈ ids σ2 then η2 (ρ i) else η i
  let φ3 : Nat → List Nat := fun i => if i ∈ ids σ2 then φ2 (ρ i) else φ i
  have hin : ∀ i ∈ ids σ1, π i ∈ ids σ2 := fun i hi => by simp only [σ2, ids_renS]; exact List.mem_map_of_mem hi
  have hη3 : ∀ i ∈ ids σ1, η3 (π i) = η2 i := fun i hi => by simp only [η3, if_pos (hin i hi), hρ i hi]
  have hφ3 : ∀ i ∈ ids σ1, φ3 (π i) = φ2 i := fun i hi => by simp only [φ3, if_pos (hin i hi), hρ i hi]
  have hnr : ∀ i ∈ ids σr, i ∉ ids σ2 := fun i hi hm => by
    simp only [σ2, ids_renS] at hm
    obtain ⟨k, hk, rfl⟩ := List.mem_map.1 hm
    exact hfr k hk hi
  have hηr : ∀ i ∈ ids σr, η3 i = η i := fun i hi => by simp only [η3, if_neg (hnr i hi)]
  have hφr : ∀ i ∈ ids σr, φ3 i = φ i := fun i hi => by simp only [φ3, if_neg (hnr i hi)]
  have hb2 : ∀ b, b ∈ blocks φ3 σ2 ↔ b ∈ blocks φ2 σ1 := fun b => by
    simp only [blocks, List.mem_flatMap]
    constructor
    · rintro ⟨p, hp, hb⟩
      obtain ⟨q, hq, rfl⟩ := renS_mem.1 hp
      exact ⟨q, hq, by simpa only [hφ3 _ (mem_ids hq)] using hb⟩
    · rintro ⟨q, hq, hb⟩
      exact ⟨_, renS_mem.2 ⟨q, hq, rfl⟩, by simpa only [hφ3 _ (mem_ids hq)] using hb⟩
  have hbr : blocks φ3 σr = blocks φ σr := blocks_congr hφr
  have hids : ids (σ2 ++ σr) = ids σ2 ++ ids σr := by simp [ids]
  have hbs : blocks φ3 (σ2 ++ σr) = blocks φ3 σ2 ++ blocks φ σr := by rw [← hbr]; simp [blocks]
  have hO2 : ∀ b, b ∈ B1 ++ blocks φ2 σ1 ↔ b ∈ B ++ blocks φ3 (σ2 ++ σr) := fun b => by
    rw [hbs]
    simp only [B1, List.mem_append, hb2]
    constructor
    · rintro ((h | h) | h)
      · exact .inl h
      · exact .inr (.inr h)
      · exact .inr (.inl h)
    · rintro (h | h | h)
      · exact .inl (.inl h)
      · exact .inr h
      · exact .inl (.inr h)
  have hl2 : Later (B1 ++ blocks φ2 σ1) w' (B ++ blocks φ3 (σ2 ++ σr)) w' := ⟨Nat.le_refl _, fun _ _ _ => rfl, fun b hn _ hm => hn ((hO2 b).2 hm)⟩
  have hnew2 : ∀ b ∈ blocks φ2 σ1, (b ∈ blocks φ σk ∧ b ∉ B1) ∨ w.heap.size ≤ b := fun b h => by
    obtain ⟨p, hp, hb⟩ := List.mem_flatMap.1 h
    exact hm2.new p.1 (mem_ids hp) b hb
  have hl3 : Later (B ++ blocks φ σ) w (B ++ blocks φ3 (σ2 ++ σr)) w' := by
    refine ⟨hm2.tch.size, fun b hb hn => hm2.tch.blk b hb fun hm => hn (List.mem_append_right _ ((hall b).2 (.inl hm))), fun b hn hlt hm => hn ?_⟩
    rcases List.mem_append.1 ((hO2 b).2 hm) with h | h
    · rcases List.mem_append.1 h with h | h
      · exact List.mem_append_left _ h
      · exact List.mem_append_right _ ((hall b).2 (.inr h))
    · rcases hnew2 b h with h | h
      · exact List.mem_append_right _ ((hall b).2 (.inl h.1))
      · omega
  have hmv2 : ∀ i ∈ ids σ1, i ∈ ids σ1 → π i ∈ ids (σ2 ++ σr) ∧ η3 (π i) = η2 i := fun i hi _ => ⟨by rw [hids]; exact List.mem_append_left _ (hin i hi), hη3 i hi⟩
  have hJ : ∀ i ∈ ids σr ++ lks (swp m) ks, i ∈ ids (σ2 ++ σr) ∧ η3 i = η i := fun i hi => by
    rw [hids]
    rcases List.mem_append.1 hi with h | h
    · exact ⟨List.mem_append_right _ h, hηr i h⟩
    · obtain ⟨k, hk, rfl⟩ := lks_mem h
      obtain ⟨k1, k2⟩ := hks k hk
      exact ⟨List.mem_append_left _ (hin k k1), by rw [show lk (swp m) k = π k from rfl, hη3 k k1, k2]⟩
  have hrσ : ∀ i ∈ ids σr, i ∈ ids σ := fun i hi => by
    obtain ⟨p, hp, rfl⟩ := List.mem_map.1 hi
    exact mem_ids (hd p hp).1
  have hcross : ∀ b, b ∈ blocks φ2 σ1 → b ∈ blocks φ σr → False := fun b h1 h2 => by
    rcases hnew2 b h1 with h | h
    · exact h.2 (List.mem_append_right _ h2)
    · have := hM.mem.lt b (List.mem_append_right _ ((hall b).2 (.inr h2))); omega
  have hlr : Later (B ++ blocks φ σ) w (B ++ blocks φ σ) w := ⟨Nat.le_refl _, fun _ _ _ => rfl, fun _ h _ => h⟩
  have hm3 : Mem C B S w0 (σ2 ++ σr) η3 φ3 w' := by
    refine ⟨hM.mem.tch.trans hm2.tch (fun _ h => h) (fun x hx => ?_), ?_, ?_, ?_, ?_, hM.mem.out, fun g hg => (hm2.glob g hg).later hl2⟩
    · rcases hnew x ((hall x).2 (.inl hx)) with h | h
      · exact .inl h.1
      · exact .inr h
    · intro p hp
      rcases List.mem_append.1 hp with hp | hp
      · obtain ⟨q, hq, rfl⟩ := renS_mem.1 hp
        have := (hm2.own q hq).move (ρ := π) (J := ids σ1) (I' := ids (σ2 ++ σr)) (η' := η3) hl2 hmv2 (withinS_mem hchk.1.2 q hq) (Tch.refl [] w') (fun _ _ => by simp)
        simpa only [hη3 _ (mem_ids hq), hφ3 _ (mem_ids hq)] using this
      · have h1 := (hM.mem.own p (hd p hp).1).only hlr (withinS_mem hwr p hp)
        have := h1.later hl3 hJ hm2.tch (fun x hx hm => hdis x hm (List.mem_flatMap.2 ⟨p, hp, hx⟩))
        simpa only [hηr _ (mem_ids hp), hφr _ (mem_ids hp)] using this
    · rw [hids]
      refine List.nodup_append.2 ⟨?_, dropS_nodup hM.mem.nodup, ?_⟩
      · simp only [σ2, ids_renS]
        refine nodup_map ?_ hm2.nodup
        intro x hx y hy e
        rw [← hρ x hx, ← hρ y hy, e]
      · intro x hx y hy e
        exact hnr y hy (e ▸ hx)
    · intro i hi j hj hij b hbi hbj
      rw [hids] at hi hj
      rcases List.mem_append.1 hi with hi | hi <;> rcases List.mem_append.1 hj with hj | hj
      · simp only [σ2, ids_renS] at hi hj
        obtain ⟨x, hx, rfl⟩ := List.mem_map.1 hi
        obtain ⟨y, hy, rfl⟩ := List.mem_map.1 hj
        rw [hφ3 x hx] at hbi
        rw [hφ3 y hy] at hbj
        exact hm2.disj x hx y hy (fun e => hij (by rw [e])) b hbi hbj
      · simp only [σ2, ids_renS] at hi
        obtain ⟨x, hx, rfl⟩ := List.mem_map.1 hi
        rw [hφ3 x hx] at hbi
        rw [hφr j hj] at hbj
        exact hcross b (mem_blocks hx hbi) (mem_blocks hj hbj)
      · simp only [σ2, ids_renS] at hj
        obtain ⟨y, hy, rfl⟩ := List.mem_map.1 hj
        rw [hφ3 y hy] at hbj
        rw [hφr i hi] at hbi
        exact hcross b (mem_blocks hy hbj) (mem_blocks hi hbi)
      · rw [hφr i hi] at hbi
        rw [hφr j hj] at hbj
        exact hM.mem.disj i (hrσ i hi) j (hrσ j hj) hij b hbi hbj
    · intro i hi b hbi
      rw [hids] at hi
      rcases List.mem_append.1 hi with hi | hi
      · simp only [σ2, ids_renS] at hi
        obtain ⟨x, hx, rfl⟩ := List.mem_map.1 hi
        rw [hφ3 x hx] at hbi
        rcases hnew2 b (mem_blocks hx hbi) with h | h
        · exact hnew b ((hall b).2 (.inl h.1))
        · exact .inr (Nat.le_trans hM.mem.tch.size h)
      · rw [hφr i hi] at hbi
        exact hM.mem.new i (hrσ i hi) b hbi
  refine ⟨v, _, _, _, η3, φ3, rfl, hKK, ⟨hm3, ?_, hM.defers, hM.size⟩, ⟨cs, ?_, ?_⟩, fun h => by cases h⟩
  · intro t
    rcases scrub_get (J := ids σr ++ lks (swp m) ks) (fr := fr) t with h | ⟨h, hw⟩
    · rw [h]; exact ⟨[a.tmps.getD t undef], RepC.undef_ex _ _ _, rfl⟩
    · obtain ⟨c1, c2, c3⟩ := hM.fr t
      rw [h]
      exact ⟨c1, RepD.later hl3 hJ _ _ (RepD.only hlr _ _ hw c2), c3⟩
  · exact RepD.move (ρ := π) hl2 hmv2 d cs hchk.2 hv1
  · rw [toVD_ren]; exact hv2

/-- the same, where what is handed back is known -/
theorem call_req (m : List (Nat × Nat)) (J : List Nat) {f : FuncId} {args as : List Dat} {ks : List Nat} {y : Dat} {τ : Sg} {K : KD} (hp : RecCall C f as σ0 ks (fun d σ => d = y ∧ σ = τ))
    (h0 : renS (lk m) (keepS J σ) = σ0) (ha : rens (lk m) args = as) (hb : backB m (swp m) J = true) (hwa : withins J args = true) (hw0 : withinS J (keepS J σ) = true) (hwr : withinS (ids (dropS J σ) ++ lks (swp m) ks) (dropS J σ) = true)
    (hchk : (backB (swp m) m (ids τ) && noneIn (swp m) (ids (dropS J σ)) (ids τ) && withinS (ids τ) τ && within (ids τ) y) = true)
    (hK : force (ren (lk (swp m)) y) fun d => forceF (scrub (ids (dropS J σ) ++ lks (swp m) ks) fr) fun fr => forceS (renS (lk (swp m)) τ ++ dropS J σ) fun σ => K d fr σ) : SxCall C false f args K fr σ :=
  call_rec m J hp h0 ha hb hwa hw0 hwr fun d σ1 ⟨hd, hs⟩ => by
    subst hd; subst hs
    rw [force_eq, forceF_eq, forceS_eq] at hK
    exact ⟨hchk, hK⟩
def owns : List Nat → List Dat
  | [] => []
  | k :: ks => .own k :: owns ks
def natsIn (J : List Nat) : List Nat → Bool
  | [] => true
  | k :: ks => natIn k J && natsIn J ks
/-- each stays what it is -/
def fixB (m : List (Nat × Nat)) : List Nat → Bool
  | [] => true
  | k :: ks => Nat.beq (lk m k) k && fixB m ks
theorem natsIn_mem {J : List Nat} : ∀ {ks : List Nat}, natsIn J ks = true → ∀ k ∈ ks, k ∈ J
  | [], _, k, hk => by cases hk
  | j :: ks, h, k, hk => by
    simp only [natsIn, Bool.and_eq_true] at h
    rcases List.mem_cons.1 hk with rfl | hk
    · exact natIn_mem h.1
    · exact natsIn_mem h.2 k hk
theorem fixB_mem {m : List (Nat × Nat)} : ∀ {ks : List Nat}, fixB m ks = true → ∀ k ∈ ks, lk m k = k
  | [], _, k, hk => by cases hk
  | j :: ks, h, k, hk => by
    simp only [fixB, Bool.and_eq_true] at h
    rcases List.mem_cons.1 hk with rfl | hk
    · exact Nat.eq_of_beq_eq_true h.1
    · exact fixB_mem h.2 k hk
theorem owns_rep {η : Nat → Value} {I O : List Nat} {w : World} : ∀ {ks : List Nat}, (∀ k ∈ ks, k ∈ I) → RepDss η I O w (owns ks) (ks.map fun k => [η k])
  | [], _ => by simp [owns, RepDss]
  | k :: ks, h => by
    simp only [owns, RepDss, List.map_cons]
    exact ⟨[η k], _, rfl, (show k ∈ I ∧ [η k] = [η k] from ⟨h k (by simp), rfl⟩), owns_rep (fun j hj => h j (by simp [hj]))⟩
theorem owns_zip {η : Nat → Value} : ∀ (ks : List Nat), List.zipWith toVD (owns ks) (ks.map fun k => [η k]) = ks.map η
  | [] => rfl
  | k :: ks => by simp only [owns, List.map_cons, List.zipWith_cons_cons, owns_zip ks]; rfl
theorem owns_out {η : Nat → Value} {I O : List Nat} {w : World} : ∀ {ks : List Nat} {css : List (List Value)}, RepDss η I O w (owns ks) css → List.zipWith toVD (owns ks) css = ks.map η
  | [], css, h => by simp [owns]
  | k :: ks, css, h => by
    simp only [owns, RepDss, RepD] at h
    obtain ⟨c1, c2, rfl, ⟨_, rfl⟩, h⟩ := h
    simp only [owns, List.zipWith_cons_cons, owns_out h, List.map_cons]; rfl
theorem Mem.ren {B S : List Nat} {w0 w : World} {η : Nat → Value} {φ : Nat → List Nat} {Z : Sg} (m : List (Nat × Nat)) (h : Mem C B S w0 Z η φ w) (hb : backB m (swp m) (ids Z) = true) (hz : withinS (ids Z) Z = true) :
    Mem C B S w0 (renS (lk m) Z) (fun i => η (lk (swp m) i)) (fun i => φ (lk (swp m) i)) w ∧ (∀ b, b ∈ blocks (fun i => φ (lk (swp m) i)) (renS (lk m) Z) ↔ b ∈ blocks φ Z) := by
  have hπ : ∀ i ∈ ids Z, lk (swp m) (lk m i) = i := backB_mem hb
  have hbk : ∀ b, b ∈ blocks (fun i => φ (lk (swp m) i)) (renS (lk m) Z) ↔ b ∈ blocks φ Z := fun b => by
    simp only [blocks, List.mem_flatMap]
    constructor
    · rintro ⟨p, hp, hb⟩
      obtain ⟨q, hq, rfl⟩ := renS_mem.1 hp
      exact ⟨q, hq, by simpa only [hπ _ (mem_ids hq)] using hb⟩
    · rintro ⟨q, hq, hb⟩
      exact ⟨_, renS_mem.2 ⟨q, hq, rfl⟩, by simpa only [hπ _ (mem_ids hq)] using hb⟩
  have hl : Later (B ++ blocks φ Z) w (B ++ blocks (fun i => φ (lk (swp m) i)) (renS (lk m) Z)) w := ⟨Nat.le_refl _, fun _ _ _ => rfl, fun b hn _ hm => hn (by
    rcases List.mem_append.1 hm with h | h
    · exact List.mem_append_left _ h
    · exact List.mem_append_right _ ((hbk b).1 h))⟩
  refine ⟨⟨h.tch, ?_, ?_, ?_, ?_, h.out, fun g hg => (h.glob g hg).later hl⟩, hbk⟩
  · intro p hp
    obtain ⟨q, hq, rfl⟩ := renS_mem.1 hp
    have := (h.own q hq).move (ρ := lk m) (J := ids Z) (I' := ids (renS (lk m) Z)) (η' := fun i => η (lk (swp m) i)) hl (fun i hi _ => ⟨by rw [ids_renS]; exact List.mem_map_of_mem hi, by simp only [hπ i hi]⟩) (withinS_mem hz q hq) (Tch.refl [] w) (fun _ _ => by simp)
    simpa only [hπ _ (mem_ids hq)] using this
  · rw [ids_renS]
    refine nodup_map ?_ h.nodup
    intro x hx y hy e
    rw [← hπ x hx, ← hπ y hy, e]
  · intro i hi j hj hij b hbi
    rw [ids_renS] at hi hj
    obtain ⟨x, hx, rfl⟩ := List.mem_map.1 hi
    obtain ⟨y, hy, rfl⟩ := List.mem_map.1 hj
    simp only [hπ x hx, hπ y hy] at hbi ⊢
    exact h.disj x hx y hy (fun e => hij (by rw [e])) b hbi
  · intro i hi b hbi
    rw [ids_renS] at hi
    obtain ⟨x, hx, rfl⟩ := List.mem_map.1 hi
    simp only [hπ x hx] at hbi
    exact h.new x hx b hbi

/-- what is one thing may be told as another -/
def Trf (C : Cx) (fr : Fr) (σ : Sg) (fr' : Fr) (σ' : Sg) : Prop := ∀ (B S : List Nat) (w0 w : World) (n : Nat) (η : Nat → Value) (φ : Nat → List Nat) (a : Act), Models C B S w0 n fr σ η φ a w → ∃ η' φ', Models C B S w0 n fr' σ' η' φ' a w
theorem Trf.lo {fr' : Fr} {σ' : Sg} (h : Lo fr σ fr' σ') : Trf C fr σ fr' σ' := fun _ _ _ _ _ _ _ _ hM => h.models hM
theorem Trf.refl : Trf C fr σ fr σ := fun _ _ _ _ _ η φ _ hM => ⟨η, φ, hM⟩
theorem Trf.andThen {fr1 fr2 : Fr} {σ1 σ2 : Sg} (h : Trf C fr σ fr1 σ1) (k : Trf C fr1 σ1 fr2 σ2) : Trf C fr σ fr2 σ2 := fun B S w0 w n η φ a hM => by
  obtain ⟨η1, φ1, h1⟩ := h B S w0 w n η φ a hM
  exact k B S w0 w n η1 φ1 a h1
theorem Trf.laxS {i E k : Nat} {ds es : List Da} (hg : sget i σ = some (.slice E k ds)) (hl : LaxAs ds es) : Trf C fr σ fr (sturn id i (.slice E k es) σ) := by
  intro B S w0 w n η φ a hM
  have hi := mem_ids (sget_mem hg)
  have he : upd φ i (φ i) = φ := by funext j; by_cases e : j = i <;> simp [upd, e]
  have hll := Later.turn (X := []) (w' := w) B (Tch.refl [] w) (by simp) hi (F := φ i) (fun b hb => .inl hb) id (.slice E k es)
  rw [he] at hll
  have := hM.mem.turnSame (X := []) (w' := w) (Tch.refl [] w) (by simp) hi (F := φ i) (fun b hb => .inl hb) (o := .slice E k es) (by
    rw [he]
    obtain ⟨css, h1, h2, h3, h4⟩ := hM.mem.own _ (sget_mem hg)
    exact ⟨css, h1, h2, (RepCss.lax hl (RepCss.later hll _ _ h3)).1, h4⟩)
  rw [he] at this
  exact ⟨η, φ, this, hM.fr.later hll (fun j hj => ⟨by rw [ids_sturn]; exact hj, rfl⟩), hM.defers, hM.size⟩
theorem code_pre {n : Nat} {c : Code} {K : KE} {fr' : Fr} {σ' : Sg} (h : Trf C fr σ fr' σ') (hc : CodeSem C n c K fr' σ') : CodeSem C n c K fr σ := by
  refine codeSem_iff.2 fun B S w0 η φ a w hM => ?_
  obtain ⟨η1, φ1, h1⟩ := h B S w0 w n η φ a hM
  exact codeSem_iff.1 hc B S w0 η1 φ1 a w h1
theorem op_pre {n kd : Nat} {o : Oper} {K : Fr → Sg → Prop} {fr' : Fr} {σ' : Sg} (h : Trf C fr σ fr' σ') (hc : OpSem C n kd o K fr' σ') : OpSem C n kd o K fr σ := by
  unfold OpSem at hc ⊢
  intro B S w0 η φ a w hM
  obtain ⟨η1, φ1, h1⟩ := h B S w0 w n η φ a hM
  exact hc B S w0 η1 φ1 a w h1

/-- what is to be shown of a function that works on the owned things σ0 (g keeps what must stay): behind it the things Z are handed on, by the names that m gives -/
def RecK (C : Cx) (vs : List Value) (g : Nat) (ks : List Nat) (Q : Dat → Sg → Prop) : Dat → Sg → Prop := fun d σ =>
  ∃ fr1 σ1 m Z, Trf C [(0, d)] σ fr1 σ1 ∧ sget g σ1 = some (.ghost vs (owns ks)) ∧ SubS Z σ1 ∧ (okZ [(0, get fr1 0)] Z && backB m (swp m) (ids Z) && natsIn (ids Z) ks && fixB m ks && fixB (swp m) ks) = true ∧ Q (ren (lk m) (get fr1 0)) (renS (lk m) Z)
theorem rec_of {n : Nat} (hC : C.Ok T) {G : List FuncId} {pl : List (Nat × Plan)} {f : FuncId} {fn : Func} {c : Code} (hf : C.P.funcs[f]? = some fn) (hb : fn.body = some c) (hn : fn.ntmps = n) (hrun : ∀ (vs : Array Value) (w : World), (callFunc f vs).run C.P w = .ok (.enter f vs) w) (hk : codeOk C.P G pl c = true) {args : List Dat} {ks : List Nat} {Q : Dat → Sg → Prop} (hl : args.length ≤ n) (g : Nat)
    (hg : (!(natIn g (ids σ0)) && natsIn (ids σ0) ks) = true)
    (h : ∀ vs, sxCode C T n pl c (sxEnd T fn.results.toList (RecK C vs g ks Q)) (params args 0) ((g, .ghost vs (owns ks)) :: σ0)) : RecCall C f args σ0 ks Q := by
  intro B S w η φ css hm hr
  refine ⟨hrun _ _, ?_⟩
  simp only [Bool.and_eq_true, Bool.not_eq_true'] at hg
  have hgn := natIn_not hg.1
  have hki := natsIn_mem hg.2
  obtain ⟨hm1, hl1⟩ := hm.add (Tch.refl _ _) (i := g) (o := .ghost (ks.map η) (owns ks)) (v := .nilFunc) (F := []) hgn (fun _ h => by cases h) (by
    have hne : ∀ k ∈ ks, upd η g (.nilFunc : Value) k = η k := fun k hk => upd_ne _ _ _ (fun e => hgn (e ▸ hki k hk))
    have he : (ks.map fun k => [upd η g (.nilFunc : Value) k]) = ks.map fun k => [η k] := List.map_congr_left fun k hk => by rw [hne k hk]
    exact ⟨rfl, rfl, ks.map fun k => [η k], by rw [← he]; exact owns_rep (fun k hk => List.mem_cons_of_mem _ (hki k hk)), (owns_zip ks).symm⟩)
  have hr1 : RepDss (upd η g .nilFunc) (ids ((g, .ghost (ks.map η) (owns ks)) :: σ0)) (B ++ blocks (upd φ g []) ((g, .ghost (ks.map η) (owns ks)) :: σ0)) w args css :=
    RepDss.later hl1 (fun i hi => ⟨List.mem_cons_of_mem _ hi, upd_ne _ _ _ (show i ≠ g from fun e => hgn (e ▸ hi))⟩) _ _ hr
  refine (calls_of_sx hC hf hb hn hk hr1 hl hm1 (h (ks.map η))).mono ?_
  rintro e w' ⟨v, d, σ', η', φ', rfl, ⟨fr1, σ1, m, Z, hLo, hg1, hZ, hchk, hQ⟩, hm', hv⟩
  simp only [Bool.and_eq_true] at hchk
  obtain ⟨⟨⟨⟨hok, hbk⟩, hin⟩, hfx⟩, hfx2⟩ := hchk
  have hMf : Models C B S w 1 [(0, d)] σ' η' φ' { tmps := #[v], defers := [] } w' := ⟨hm', fun s => by
    simp only [Sx.get]
    rcases beq_cases 0 s with ⟨hbq, e⟩ | ⟨hbq, e⟩ <;> rw [hbq]
    · subst e
      obtain ⟨c1, c2, c3⟩ := hv
      exact ⟨c1, c2, by simp [c3]⟩
    · exact ⟨[Array.getD #[v] s undef], by simp [RepD, RepC], rfl⟩, rfl, rfl⟩
  obtain ⟨η', φ', hM1⟩ := hLo _ _ _ _ _ _ _ _ hMf
  obtain ⟨_, _, qss, q3, q4⟩ := hM1.mem.own _ (sget_mem hg1)
  have hks : ks.map η' = ks.map η := by rw [← owns_out q3]; exact q4.symm
  have hM2 : Models C B S w 1 [(0, get fr1 0)] σ1 η' φ' { tmps := #[v], defers := [] } w' := hM1.sub' fun t => by
    simp only [Sx.get]
    rcases beq_cases 0 t with ⟨hbq, e⟩ | ⟨hbq, e⟩ <;> rw [hbq]
    · subst e; exact .inr rfl
    · exact .inl rfl
  have hM3 := hM2.only hok hZ
  simp only [okZ, Bool.and_eq_true] at hok
  obtain ⟨hm4, hbl⟩ := hM3.mem.ren m hbk hok.2
  obtain ⟨cy, y1, y2⟩ := hM3.fr 0
  have hπ : ∀ i ∈ ids Z, lk (swp m) (lk m i) = i := backB_mem hbk
  have hw0 : within (ids Z) (get fr1 0) = true := by have := get_within hok.1.2 0; simpa only [Sx.get] using this
  have hl5 : Later (B ++ blocks φ' Z) w' (B ++ blocks (fun i => φ' (lk (swp m) i)) (renS (lk m) Z)) w' := ⟨Nat.le_refl _, fun _ _ _ => rfl, fun b hn _ hm => hn (by
    rcases List.mem_append.1 hm with h | h
    · exact List.mem_append_left _ h
    · exact List.mem_append_right _ ((hbl b).1 h))⟩
  have y3 : RepD η' (ids Z) (B ++ blocks φ' Z) w' (get fr1 0) cy := by simpa only [Sx.get] using y1
  have y4 := RepD.move (J := ids Z) (ρ := lk m) (η' := fun i => η' (lk (swp m) i)) (I' := ids (renS (lk m) Z)) hl5 (fun i hi _ => ⟨by rw [ids_renS]; exact List.mem_map_of_mem hi, by simp only [hπ i hi]⟩) _ _ hw0 y3
  refine ⟨v, _, _, (fun i => η' (lk (swp m) i)), (fun i => φ' (lk (swp m) i)), rfl, hQ, hm4, ⟨cy, y4, by rw [toVD_ren]; exact y2⟩, fun k hk => ?_⟩
  refine ⟨?_, ?_⟩
  · rw [ids_renS]; exact List.mem_map.2 ⟨k, natsIn_mem hin k hk, fixB_mem hfx k hk⟩
  · simp only [fixB_mem hfx2 k hk]
    exact (List.map_inj_left.1 hks) k hk
end
end Go.Sx
