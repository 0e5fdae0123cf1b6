/- AN OWNED SLICE OF OWNED SLICES OF STRINGS (boxJ): a place of it holds a list of its own (box), or a value of which nothing is told (pin), or anything (junk). A load splits, a store merges. -/
import Derived.Test.YtlchegpgicdldaaDoorTrl
namespace Go.Sx
open Go Go.RowKit Go.Reg

def eS (s : ByteArray) : List Value := [.string s]
def dSt (s : ByteArray) : Da := .str s
inductive Bx
  | junk
  | pin (u : Value)
  | box (l : List ByteArray)
structure BoxR (E1 E2 : Nat) (bs : List Bx) (w : World) (v : Value) (F : List Nat) (css : List (List Value)) (G : Nat → List Nat) : Prop where
  sl : Sl E1 1 id w v css
  len : css.length = bs.length
  row : ∀ x ∈ css, RowOk 1 x
  pin : ∀ (i : Nat) u, bs[i]? = some (.pin u) → css[i]? = some [u]
  box : ∀ (i : Nat) l, bs[i]? = some (.box l) → ∃ u, css[i]? = some [u] ∧ Sl E2 1 id w u (l.map eS) ∧ G i = u.ownBlock.toList
  non : ∀ (i : Nat), (∀ l, bs[i]? ≠ some (.box l)) → G i = []
  dis : ∀ i j b, i ≠ j → b ∈ G i → b ∉ G j
  out : ∀ i b, b ∈ G i → v.ownBlock ≠ some b
  mem : ∀ b, b ∈ F ↔ v.ownBlock = some b ∨ ∃ i, b ∈ G i
def boxJ (E1 E2 : Nat) (bs : List Bx) : Absn where
  R w v F := ∃ css G, BoxR E1 E2 bs w v F css G
  keep := by
    rintro S w w' v F ⟨css, G, h⟩ t hd
    refine ⟨css, G, h.sl.keep t (fun b hb => hd b ((h.mem b).2 (.inl hb))), h.len, h.row, h.pin, fun i l hi => ?_, h.non, h.dis, h.out, h.mem⟩
    obtain ⟨u, h1, h2, h3⟩ := h.box i l hi
    exact ⟨u, h1, h2.keep t (fun b hb => hd b ((h.mem b).2 (.inr ⟨i, by rw [h3, hb]; simp⟩))), h3⟩
  lt := by
    rintro w v F ⟨css, G, h⟩ x hx
    rcases (h.mem x).1 hx with hx | ⟨i, hi⟩
    · exact h.sl.lt hx
    · by_cases hb : ∃ l, bs[i]? = some (.box l)
      · obtain ⟨l, hl⟩ := hb
        obtain ⟨u, h1, h2, h3⟩ := h.box i l hl
        rw [h3] at hi
        exact h2.lt (by simpa using hi)
      · rw [h.non i (fun l hl => hb ⟨l, hl⟩)] at hi; cases hi
  one := by
    rintro w v F ⟨css, G, h⟩
    rcases h.sl.shape with ⟨rfl, _⟩ | ⟨g, cap, rfl, _⟩ <;> rfl
theorem mem_blk {φ : Nat → List Nat} {σ : Sg} {b : Nat} : b ∈ blocks φ σ ↔ ∃ k ∈ ids σ, b ∈ φ k :=
  ⟨fun h => by obtain ⟨p, hp, hb⟩ := List.mem_flatMap.1 h; exact ⟨p.1, mem_ids hp, hb⟩, fun ⟨_, hk, hb⟩ => mem_blocks hk hb⟩
section
variable {C : Cx} {T : Tab} {n kd : Nat} {fr : Fr} {σ : Sg} {o : Oper} {K : Fr → Sg → Prop} {B S : List Nat} {w0 w w' : World} {η : Nat → Value} {φ : Nat → List Nat} {a : Act} {E1 E2 : Nat}
/-- a thing's blocks parted: some of them are another thing's -/
theorem Mem.split (h : Mem C B S w0 σ η φ w) {i j : Nat} (hi : i ∈ ids σ) (hj : j ∉ ids σ) {F1 F2 : List Nat} (hF : ∀ b, b ∈ φ i ↔ b ∈ F1 ∨ b ∈ F2) (hd : ∀ b ∈ F1, b ∉ F2) {v : Value} {o1 o2 : Own}
    (h1 : ∀ η' I' O', o1.holds η' I' O' w (η i) F1) (h2 : ∀ η' I' O', o2.holds η' I' O' w v F2) :
    Mem C B S w0 ((j, o2) :: sturn id i o1 σ) (upd η j v) (upd (upd φ i F1) j F2) w ∧ Later (B ++ blocks φ σ) w (B ++ blocks (upd (upd φ i F1) j F2) ((j, o2) :: sturn id i o1 σ)) w := by
  have hij : i ≠ j := fun e => hj (e ▸ hi)
  have e1 : upd (upd φ i F1) j F2 i = F1 := by rw [upd_ne _ _ _ hij, upd_eq]
  have e2 : upd (upd φ i F1) j F2 j = F2 := upd_eq _ _ _
  have e3 : ∀ k, k ≠ i → k ≠ j → upd (upd φ i F1) j F2 k = φ k := fun k a b => by rw [upd_ne _ _ _ b, upd_ne _ _ _ a]
  have hids : ids ((j, o2) :: sturn id i o1 σ) = j :: ids σ := by
    have := ids_sturn id i o1 σ
    unfold ids at this ⊢
    rw [List.map_cons, this]
  have hne : ∀ k ∈ ids σ, k ≠ j := fun k hk e => hj (e ▸ hk)
  have hsub : ∀ k ∈ ids σ, ∀ b ∈ upd (upd φ i F1) j F2 k, b ∈ φ k := fun k hk b hb => by
    by_cases e : k = i
    · subst e; rw [e1] at hb; exact (hF b).2 (.inl hb)
    · rw [e3 k e (hne k hk)] at hb; exact hb
  have hO : ∀ b, b ∈ B ++ blocks (upd (upd φ i F1) j F2) ((j, o2) :: sturn id i o1 σ) ↔ b ∈ B ++ blocks φ σ := fun b => by
    simp only [List.mem_append, mem_blk, hids, List.mem_cons]
    refine or_congr Iff.rfl ⟨?_, ?_⟩
    · rintro ⟨k, rfl | hk, hb⟩
      · rw [e2] at hb; exact ⟨i, hi, (hF b).2 (.inr hb)⟩
      · exact ⟨k, hk, hsub k hk b hb⟩
    · rintro ⟨k, hk, hb⟩
      by_cases e : k = i
      · subst e
        rcases (hF b).1 hb with hb | hb
        · exact ⟨k, .inr hk, by rw [e1]; exact hb⟩
        · exact ⟨j, .inl rfl, by rw [e2]; exact hb⟩
      · exact ⟨k, .inr hk, by rw [e3 k e (hne k hk)]; exact hb⟩
  have hl : Later (B ++ blocks φ σ) w (B ++ blocks (upd (upd φ i F1) j F2) ((j, o2) :: sturn id i o1 σ)) w := ⟨Nat.le_refl _, fun _ _ _ => rfl, fun b hn _ hm => hn ((hO b).1 hm)⟩
  refine ⟨⟨h.tch, ?_, ?_, ?_, ?_, h.out, fun g hg => (h.glob g hg).later hl⟩, hl⟩
  · intro p hp
    rcases List.mem_cons.1 hp with rfl | hp
    · simp only [upd_eq]; exact h2 _ _ _
    · rcases mem_sturn hp with rfl | ⟨q, hq, hqi, rfl⟩
      · simp only [e1, upd_ne _ _ _ hij]; exact h1 _ _ _
      · have hqj := hne q.1 (mem_ids hq)
        simp only [e3 q.1 hqi hqj, upd_ne _ _ _ hqj]
        exact (h.own q hq).later hl (fun k hk => ⟨by rw [hids]; exact List.mem_cons_of_mem _ hk, upd_ne _ _ _ (hne k hk)⟩) (Tch.refl [] w) (fun _ _ => by simp)
  · rw [hids]; exact List.nodup_cons.2 ⟨hj, h.nodup⟩
  · intro k hk m hm hkm b hb1 hb2
    rw [hids] at hk hm
    rcases List.mem_cons.1 hk with ek | hk <;> rcases List.mem_cons.1 hm with em | hm
    · exact hkm (ek.trans em.symm)
    · rw [ek, e2] at hb1
      by_cases e : m = i
      · rw [e, e1] at hb2; exact hd b hb2 hb1
      · exact h.disj m hm i hi e b (hsub m hm b hb2) ((hF b).2 (.inr hb1))
    · rw [em, e2] at hb2
      by_cases e : k = i
      · rw [e, e1] at hb1; exact hd b hb1 hb2
      · exact h.disj k hk i hi e b (hsub k hk b hb1) ((hF b).2 (.inr hb2))
    · exact h.disj k hk m hm hkm b (hsub k hk b hb1) (hsub m hm b hb2)
  · intro k hk b hb
    rw [hids] at hk
    rcases List.mem_cons.1 hk with ek | hk
    · rw [ek, e2] at hb; exact h.new i hi b ((hF b).2 (.inr hb))
    · exact h.new k hk b (hsub k hk b hb)
/-- a thing's blocks given to another one -/
theorem Mem.merge (h : Mem C B S w0 σ η φ w) {i j : Nat} (hi : i ∈ ids σ) (hj : j ∈ ids σ) (hij : i ≠ j) {F : List Nat} (hF : ∀ b, b ∈ F ↔ b ∈ φ i ∨ b ∈ φ j) {r : Absn} (h1 : r.R w (η i) F) :
    Mem C B S w0 (sdel (killO j .undef) j (sturn id i r.own σ)) η (upd φ i F) w ∧ Later (B ++ blocks φ σ) w (B ++ blocks (upd φ i F) (sdel (killO j .undef) j (sturn id i r.own σ))) w := by
  have hids : ids (sdel (killO j .undef) j (sturn id i r.own σ)) = (ids σ).filter (· != j) := by rw [ids_sdel, ids_sturn]
  have hin : ∀ k, k ∈ ids (sdel (killO j .undef) j (sturn id i r.own σ)) ↔ k ∈ ids σ ∧ k ≠ j := fun k => by rw [hids, List.mem_filter]; simp
  have e3 : ∀ k, k ≠ i → upd φ i F k = φ k := fun k a => upd_ne _ _ _ a
  have hO : ∀ b, b ∈ B ++ blocks (upd φ i F) (sdel (killO j .undef) j (sturn id i r.own σ)) ↔ b ∈ B ++ blocks φ σ := fun b => by
    simp only [List.mem_append, mem_blk, hin]
    refine or_congr Iff.rfl ⟨?_, ?_⟩
    · rintro ⟨k, ⟨hk, hkj⟩, hb⟩
      by_cases e : k = i
      · subst e; rw [upd_eq] at hb
        rcases (hF b).1 hb with hb | hb
        · exact ⟨k, hk, hb⟩
        · exact ⟨j, hj, hb⟩
      · rw [e3 k e] at hb; exact ⟨k, hk, hb⟩
    · rintro ⟨k, hk, hb⟩
      by_cases e : k = i
      · subst e; exact ⟨k, ⟨hk, hij⟩, by rw [upd_eq]; exact (hF b).2 (.inl hb)⟩
      · by_cases e2 : k = j
        · subst e2; exact ⟨i, ⟨hi, hij⟩, by rw [upd_eq]; exact (hF b).2 (.inr hb)⟩
        · exact ⟨k, ⟨hk, e2⟩, by rw [e3 k e]; exact hb⟩
  have hl : Later (B ++ blocks φ σ) w (B ++ blocks (upd φ i F) (sdel (killO j .undef) j (sturn id i r.own σ))) w := ⟨Nat.le_refl _, fun _ _ _ => rfl, fun b hn _ hm => hn ((hO b).1 hm)⟩
  have hcov : ∀ k, k ∈ ids σ → k ≠ j → ∀ b ∈ upd φ i F k, b ∈ φ k ∨ (k = i ∧ b ∈ φ j) := fun k hk _ b hb => by
    by_cases e : k = i
    · subst e; rw [upd_eq] at hb
      rcases (hF b).1 hb with hb | hb
      · exact .inl hb
      · exact .inr ⟨rfl, hb⟩
    · rw [e3 k e] at hb; exact .inl hb
  refine ⟨⟨h.tch, ?_, ?_, ?_, ?_, h.out, fun g hg => (h.glob g hg).later hl⟩, hl⟩
  · intro p hp
    obtain ⟨q, hq, hqj, rfl⟩ := mem_sdel hp
    rcases mem_sturn hq with rfl | ⟨q', hq', hqi, rfl⟩
    · simp only [upd_eq]; exact h1
    · simp only [e3 q'.1 hqi]
      exact (h.own q' hq').kill rfl hl (fun k hk hkj => ⟨(hin k).2 ⟨hk, hkj⟩, rfl⟩) (RepC.undef_ex _ _ _) (Tch.refl [] w) (fun _ _ => by simp)
  · rw [hids]; exact h.nodup.filter _
  · intro k hk m hm hkm b hb1 hb2
    obtain ⟨hk, hkj⟩ := (hin k).1 hk
    obtain ⟨hm, hmj⟩ := (hin m).1 hm
    rcases hcov k hk hkj b hb1 with g1 | ⟨e1, g1⟩ <;> rcases hcov m hm hmj b hb2 with g2 | ⟨e2, g2⟩
    · exact h.disj k hk m hm hkm b g1 g2
    · exact h.disj k hk j hj hkj b g1 g2
    · exact h.disj m hm j hj hmj b g2 g1
    · exact hkm (e1.trans e2.symm)
  · intro k hk b hb
    obtain ⟨hk, hkj⟩ := (hin k).1 hk
    rcases hcov k hk hkj b hb with g1 | ⟨_, g1⟩
    · exact h.new k hk b g1
    · exact h.new j hj b g1
theorem repCss_strs {O : List Nat} {w : World} : ∀ {l : List ByteArray} {css : List (List Value)}, RepCss O w (l.map dSt) css ↔ css = l.map eS
  | [], css => by simp [RepCss]
  | x :: l, css => by
    simp only [List.map_cons, RepCss, repCss_strs (l := l)]
    constructor
    · rintro ⟨c1, c2, rfl, h1, rfl⟩
      simp only [dSt, RepC] at h1
      rw [h1]; rfl
    · rintro rfl
      exact ⟨_, _, rfl, by simp only [dSt, RepC, eS], rfl⟩
theorem eS_row (l : List ByteArray) : ∀ x ∈ l.map eS, RowOk 1 x := by
  intro x hx
  obtain ⟨s, _, rfl⟩ := List.mem_map.1 hx
  exact ⟨rfl, by simp [eS, Value.oneCell']⟩
theorem own_boxes (hm : Mem C B S w0 σ η φ w) {i : Nat} {bs : List Bx} (hg : sget i σ = some (boxJ E1 E2 bs).own) : ∃ css G, BoxR E1 E2 bs w (η i) (φ i) css G := hm.own _ (sget_mem hg)
theorem sturn_sturn (i : Nat) (o1 o2 : Own) : ∀ (σ : Sg), sturn id i o2 (sturn id i o1 σ) = sturn id i o2 σ
  | [] => rfl
  | (k, q) :: σ => by
    have ih := sturn_sturn i o1 o2 σ
    simp only [sturn]
    cases h : Nat.beq k i <;> simp only [sturn, h, ih, id]
/-- '&s[m]' -/
theorem op_boxAddr {t : TypeId} {x ix : Operand} {e ee : TyI} (hC : C.Ok T) (i m : Nat) {bs : List Bx} (ho : o.op = .indexAddr t x ix) (he : tyAt t T = some e) (hk2 : e.kd = 2) (hee : tyAt e.elem T = some ee) (h1 : ee.size = 1) (hx : ev C.Γ fr x = .own i) (hg : sget i σ = some (boxJ E1 E2 bs).own)
    {z : Int} (hix : ev C.Γ fr ix = .d (.int .i64 z)) (hz : z = m) (hm : m < bs.length) (hkd : kd ≠ 5 ∧ kd ≠ 2) (hd : dstOk o.dst n = true) (hK : K (putF o.dst (.el i 1 m 0) fr) σ) : OpSem C n kd o K fr σ := by
  subst hz
  refine opSem_calc hkd.1 hkd.2 hd fun B S w0 η φ a w hM => ?_
  obtain ⟨css, G, hb⟩ := own_boxes hM.mem hg
  have ex := rd_own (ev_rep hM x) hx
  have eix := rep_int (rd_da (ev_rep hM ix) hix)
  have hl := hb.len
  rcases hb.sl.shape with ⟨_, e0⟩ | ⟨g, cap, e0, _⟩
  · rw [e0] at hl; simp at hl; omega
  · refine .inr ⟨_, .pointer (some ⟨g, 0 + m * ee.size, none⟩), hK, ?_, ⟨[.pointer (some ⟨g, 0 + m * ee.size, none⟩)], ?_, rfl⟩, fun _ => by simp [dynPure, ho]⟩
    · simp only [execOp, ho]
      refine run_v ?_
      rw [ex, eix, e0]
      exact run_indexAt_ok (hC.ty he) hk2 (hC.ty hee) (by omega)
    · simp only [RepD]
      exact ⟨mem_ids (sget_mem hg), g, _, _, e0, by rw [h1]; simp⟩
theorem box_css {bs : List Bx} {v : Value} {F : List Nat} {css : List (List Value)} {G : Nat → List Nat} (hb : BoxR E1 E2 bs w v F css G) {m : Nat} (hm : m < bs.length) : ∃ u, css[m]? = some [u] := by
  have hl := hb.len
  have h := List.getElem?_eq_getElem (show m < css.length by omega)
  have hr := hb.row _ (List.getElem_mem (show m < css.length by omega))
  obtain ⟨h1, _⟩ := hr
  obtain ⟨u, hu⟩ := List.length_eq_one_iff.1 h1
  exact ⟨u, by rw [h, hu]⟩
/-- the list at m taken out -/
theorem BoxR.take {bs : List Bx} {v : Value} {F : List Nat} {css : List (List Value)} {G : Nat → List Nat} (hb : BoxR E1 E2 bs w v F css G) {m : Nat} {l : List ByteArray} (hm : bs[m]? = some (.box l)) {u : Value} (hu : css[m]? = some [u]) {F1 : List Nat} (hF : ∀ b, b ∈ F1 ↔ b ∈ F ∧ b ∉ u.ownBlock.toList) :
    BoxR E1 E2 (bs.set m .junk) w v F1 css (fun i => if i = m then [] else G i) := by
  have hml : m < bs.length := (List.getElem?_eq_some_iff.1 hm).1
  obtain ⟨u', h1, h2, h3⟩ := hb.box m l hm
  have eu : u' = u := by rw [hu] at h1; simpa using h1.symm
  subst eu
  refine ⟨hb.sl, by rw [List.length_set]; exact hb.len, hb.row, fun i v hi => ?_, fun i k hi => ?_, fun i hi => ?_, fun i j b hij hbi => ?_, fun i b hbi => ?_, fun b => ?_⟩
  · rw [List.getElem?_set] at hi
    by_cases e : m = i
    · subst e; rw [if_pos rfl, if_pos hml] at hi; cases hi
    · rw [if_neg e] at hi; exact hb.pin i v hi
  · rw [List.getElem?_set] at hi
    by_cases e : m = i
    · subst e; rw [if_pos rfl, if_pos hml] at hi; cases hi
    · rw [if_neg e] at hi
      obtain ⟨u2, g1, g2, g3⟩ := hb.box i k hi
      exact ⟨u2, g1, g2, (if_neg (fun h => e h.symm)).trans g3⟩
  · by_cases e : i = m
    · simp [e]
    · simp only [if_neg e]
      refine hb.non i fun k hk => hi k ?_
      rw [List.getElem?_set, if_neg (fun h => e h.symm)]; exact hk
  · by_cases e : i = m
    · simp only [e, if_pos] at hbi; cases hbi
    · simp only [if_neg e] at hbi
      by_cases e2 : j = m
      · simp [e2]
      · simp only [if_neg e2]; exact hb.dis i j b hij hbi
  · by_cases e : i = m
    · simp only [e, if_pos] at hbi; cases hbi
    · simp only [if_neg e] at hbi; exact hb.out i b hbi
  · rw [hF, hb.mem, ← h3]
    constructor
    · rintro ⟨h | ⟨i, hi⟩, hn⟩
      · exact .inl h
      · refine .inr ⟨i, ?_⟩
        have e : i ≠ m := fun e => hn (e ▸ hi)
        simp only [if_neg e]; exact hi
    · rintro (h | ⟨i, hi⟩)
      · exact ⟨.inl h, fun hn => hb.out m b hn h⟩
      · by_cases e : i = m
        · simp only [e, if_pos] at hi; cases hi
        · simp only [if_neg e] at hi
          exact ⟨.inr ⟨i, hi⟩, hb.dis i m b e hi⟩
/-- a list put in at m -/
theorem BoxR.put {bs : List Bx} {v : Value} {F : List Nat} {css : List (List Value)} {G : Nat → List Nat} (hb : BoxR E1 E2 bs w v F css G) {m : Nat} {u : Value} (hm : bs[m]? = some (.pin u)) {l : List ByteArray} (hs : Sl E2 1 id w u (l.map eS)) (hn : ∀ b ∈ u.ownBlock.toList, b ∉ F) {F1 : List Nat} (hF : ∀ b, b ∈ F1 ↔ b ∈ F ∨ b ∈ u.ownBlock.toList) :
    BoxR E1 E2 (bs.set m (.box l)) w v F1 css (fun i => if i = m then u.ownBlock.toList else G i) := by
  have hml : m < bs.length := (List.getElem?_eq_some_iff.1 hm).1
  have hG : G m = [] := hb.non m fun k hk => by rw [hm] at hk; cases hk
  have hin : ∀ i b, b ∈ G i → b ∉ u.ownBlock.toList := fun i b hbi hbu => hn b hbu ((hb.mem b).2 (.inr ⟨i, hbi⟩))
  refine ⟨hb.sl, by rw [List.length_set]; exact hb.len, hb.row, fun i v hi => ?_, fun i k hi => ?_, fun i hi => ?_, fun i j b hij hbi => ?_, fun i b hbi => ?_, fun b => ?_⟩
  · rw [List.getElem?_set] at hi
    by_cases e : m = i
    · subst e; rw [if_pos rfl, if_pos hml] at hi; cases hi
    · rw [if_neg e] at hi; exact hb.pin i v hi
  · rw [List.getElem?_set] at hi
    by_cases e : m = i
    · subst e; rw [if_pos rfl, if_pos hml] at hi; cases hi
      exact ⟨u, hb.pin m u hm, hs, by simp only [if_pos]⟩
    · rw [if_neg e] at hi
      obtain ⟨u2, g1, g2, g3⟩ := hb.box i k hi
      exact ⟨u2, g1, g2, (if_neg (fun h => e h.symm)).trans g3⟩
  · by_cases e : i = m
    · subst e
      exact absurd (by rw [List.getElem?_set, if_pos rfl, if_pos hml]) (hi l)
    · simp only [if_neg e]
      refine hb.non i fun k hk => hi k ?_
      rw [List.getElem?_set, if_neg (fun h => e h.symm)]; exact hk
  · by_cases e : i = m
    · simp only [e, if_pos] at hbi
      have e2 : j ≠ m := fun e2 => hij (e.trans e2.symm)
      simp only [if_neg e2]; exact fun h => hin j b h hbi
    · simp only [if_neg e] at hbi
      by_cases e2 : j = m
      · simp only [e2, if_pos]; exact hin i b hbi
      · simp only [if_neg e2]; exact hb.dis i j b hij hbi
  · by_cases e : i = m
    · simp only [e, if_pos] at hbi; exact fun h => hn b hbi ((hb.mem b).2 (.inl h))
    · simp only [if_neg e] at hbi; exact hb.out i b hbi
  · rw [hF, hb.mem]
    constructor
    · rintro ((h | ⟨i, hi⟩) | h)
      · exact .inl h
      · refine .inr ⟨i, ?_⟩
        have e : i ≠ m := fun e => by rw [e, hG] at hi; cases hi
        simp only [if_neg e]; exact hi
      · exact .inr ⟨m, by simp only [if_pos]; exact h⟩
    · rintro (h | ⟨i, hi⟩)
      · exact .inl (.inl h)
      · by_cases e : i = m
        · simp only [e, if_pos] at hi; exact .inr hi
        · simp only [if_neg e] at hi; exact .inl (.inr ⟨i, hi⟩)
/-- a cell overwritten: what was there is given up -/
theorem BoxR.over {bs : List Bx} {v : Value} {F : List Nat} {css : List (List Value)} {G : Nat → List Nat} (hb : BoxR E1 E2 bs w v F css G) {m : Nat} (hm : m < bs.length) {u : Value} (hu : u.oneCell' = true) {g l c : Nat} (hv : v = .slice (some ⟨g, 0, none⟩) l c) (ht : Tch [g] w w') (hs : Sl E1 1 id w' v (css.set m [u])) :
    ∃ F1, (∀ b ∈ F1, b ∈ F) ∧ BoxR E1 E2 (bs.set m (.pin u)) w' v F1 (css.set m [u]) (fun i => if i = m then [] else G i) := by
  have hl := hb.len
  refine ⟨F.filter (fun b => decide (b ∉ G m)), fun b h => (List.mem_filter.1 h).1, hs, by rw [List.length_set, List.length_set]; exact hl, fun x hx => ?_, fun i z hi => ?_, fun i k hi => ?_, fun i hi => ?_, fun i j b hij hbi => ?_, fun i b hbi => ?_, fun b => ?_⟩
  · rcases List.mem_or_eq_of_mem_set hx with hx | rfl
    · exact hb.row x hx
    · exact ⟨rfl, by simpa using hu⟩
  · rw [List.getElem?_set] at hi ⊢
    by_cases e : m = i
    · subst e; rw [if_pos rfl, if_pos hm] at hi; cases hi
      rw [if_pos rfl, if_pos (by omega)]
    · rw [if_neg e] at hi ⊢; exact hb.pin i z hi
  · rw [List.getElem?_set] at hi
    by_cases e : m = i
    · subst e; rw [if_pos rfl, if_pos hm] at hi; cases hi
    · rw [if_neg e] at hi
      obtain ⟨u2, g1, g2, g3⟩ := hb.box i k hi
      refine ⟨u2, by rw [List.getElem?_set, if_neg e]; exact g1, g2.keep ht (fun b hbb hm => ?_), (if_neg (fun h => e h.symm)).trans g3⟩
      have : b = g := by simpa using hm
      subst this
      exact hb.out i b (by rw [g3, hbb]; simp) (by rw [hv]; rfl)
  · by_cases e : i = m
    · simp [e]
    · simp only [if_neg e]
      refine hb.non i fun k hk => hi k ?_
      rw [List.getElem?_set, if_neg (fun h => e h.symm)]; exact hk
  · by_cases e : i = m
    · simp only [e, if_pos] at hbi; cases hbi
    · simp only [if_neg e] at hbi
      by_cases e2 : j = m
      · simp [e2]
      · simp only [if_neg e2]; exact hb.dis i j b hij hbi
  · by_cases e : i = m
    · simp only [e, if_pos] at hbi; cases hbi
    · simp only [if_neg e] at hbi; exact hb.out i b hbi
  · rw [List.mem_filter, hb.mem]
    simp only [decide_eq_true_eq]
    constructor
    · rintro ⟨h | ⟨i, hi⟩, hn⟩
      · exact .inl h
      · refine .inr ⟨i, ?_⟩
        have e : i ≠ m := fun e => hn (e ▸ hi)
        simp only [if_neg e]; exact hi
    · rintro (h | ⟨i, hi⟩)
      · exact ⟨.inl h, fun hn => hb.out m b hn h⟩
      · by_cases e : i = m
        · simp only [e, if_pos] at hi; cases hi
        · simp only [if_neg e] at hi
          exact ⟨.inr ⟨i, hi⟩, hb.dis i m b e hi⟩
/-- 's[m]', read: the list there is now a thing of its own -/
theorem op_boxLoad {t : TypeId} {x : Operand} {e : TyI} (hC : C.Ok T) (i j m : Nat) {bs : List Bx} {l : List ByteArray} (ho : o.op = .load t x) (he : tyAt t T = some e) (ha : e.agg = false) (h1 : e.size = 1) (hx : ev C.Γ fr x = .el i 1 m 0) (hg : sget i σ = some (boxJ E1 E2 bs).own) (hb : bs[m]? = some (.box l)) (hj : sget j σ = none) (hkd : kd ≠ 5 ∧ kd ≠ 2) (hd : dstOk o.dst n = true)
    (hK : forceS (sins j (.slice E2 1 (l.map dSt)) (sturn id i (boxJ E1 E2 (bs.set m .junk)).own σ)) fun σ => K (putF o.dst (.own j) fr) σ) : OpSem C n kd o K fr σ := by
  refine opSem_val hkd.1 hkd.2 fun B S w0 η φ a w hM => ⟨fun _ => by simp [dynPure, ho], .inl ?_⟩
  obtain ⟨css, G, hB⟩ := own_boxes hM.mem hg
  obtain ⟨u, hu, hs, hGu⟩ := hB.box m l hb
  have hi := mem_ids (sget_mem hg)
  have hj' := sget_none hj
  have hij : i ≠ j := fun e => by rw [e, hj] at hg; cases hg
  obtain ⟨cs, r1, r2⟩ := ev_rep hM x
  rw [hx] at r1 r2
  simp only [RepD] at r1
  obtain ⟨_, g, ll, c, e0, rfl⟩ := r1
  have hr : (Instr.loadAt t (a.eval x)).run C.P w = .ok u w := by
    rw [r2]
    show (Instr.loadAt t (.pointer (some ⟨g, m * 1 + 0, none⟩))).run C.P w = _
    simp only [Instr.loadAt, Instr.sureAddr, Sem.run_bind, Sem.run_pure, Result.andThen_ok]
    have hc : Cells w g (m * 1 + 0) [u] := by
      have h9 := Cells.mono (m := m * 1) (x := [u]) (sl_cells hB.sl e0) (fun k z hk => flat_get (k := 1) (fun x hx => (hB.row x hx).1) hu hk)
      simpa using h9
    rw [run_loadVar_ok (hC.ty he) hc (by rw [h1]; rfl) (fun _ => h1), ha]
    rfl
  have hk := hK
  rw [forceS_eq] at hk
  let F1 := (φ i).filter (fun b => decide (b ∉ u.ownBlock.toList))
  have hF1 : ∀ b, b ∈ F1 ↔ b ∈ φ i ∧ b ∉ u.ownBlock.toList := fun b => by simp only [F1, List.mem_filter, decide_eq_true_eq]
  obtain ⟨hm', hl⟩ := hM.mem.split hi hj' (F1 := F1) (F2 := u.ownBlock.toList) (v := u) (o1 := (boxJ E1 E2 (bs.set m .junk)).own) (o2 := .slice E2 1 (l.map dSt)) (fun b => by
    rw [hF1]
    by_cases h : b ∈ u.ownBlock.toList
    · exact ⟨fun _ => .inr h, fun _ => (hB.mem b).2 (.inr ⟨m, by rw [hGu]; exact h⟩)⟩
    · exact ⟨fun h2 => .inl ⟨h2, h⟩, fun h2 => h2.elim (·.1) (fun h3 => absurd h3 h)⟩) (fun b hb => ((hF1 b).1 hb).2) (fun η' I' O' => ⟨css, _, hB.take hb hu hF1⟩) (fun η' I' O' => ⟨l.map eS, hs, rfl, repCss_strs.2 rfl, eS_row l⟩)
  have hM2 : Models C B S w0 n fr ((j, .slice E2 1 (l.map dSt)) :: sturn id i (boxJ E1 E2 (bs.set m .junk)).own σ) (upd η j u) (upd (upd φ i F1) j u.ownBlock.toList) a w :=
    ⟨hm', hM.fr.later hl (fun k hk => ⟨by
      have := ids_sturn id i (boxJ E1 E2 (bs.set m .junk)).own σ
      unfold ids at this hk ⊢
      rw [List.map_cons, this]; exact List.mem_cons_of_mem _ hk, upd_ne _ _ _ (fun e => hj' (e ▸ hk))⟩), hM.defers, hM.size⟩
  have hM3 := hM2.perm (sins_perm j (.slice E2 1 (l.map dSt)) (sturn id i (boxJ E1 E2 (bs.set m .junk)).own σ))
  refine ⟨u, w, ?_, _, _, _, _, hM3.put hd (d := .own j) ⟨[u], by simp only [RepD, upd_eq]; exact ⟨by unfold ids; rw [((sins_perm j _ _).map _).mem_iff]; simp, trivial⟩, rfl⟩, hk⟩
  simp only [execOp, ho]
  exact run_v hr
/-- 's[m] = x', x a list of one's own -/
theorem op_boxStore {t : TypeId} {x y : Operand} {e : TyI} (hC : C.Ok T) (i j m : Nat) {bs : List Bx} {ds : List Da} (l : List ByteArray) (ho : o.op = .store t x y) (he : tyAt t T = some e) (h1 : e.size = 1) (hx : ev C.Γ fr x = .el i 1 m 0) (hy : ev C.Γ fr y = .own j) (hg : sget i σ = some (boxJ E1 E2 bs).own) (hgj : sget j σ = some (.slice E2 1 ds)) (hds : ds = l.map dSt) (hml : m < bs.length) (hkd : kd ≠ 5 ∧ kd ≠ 2) (hd : dstOk o.dst n = true)
    (hK : forceF (killF j .undef fr) fun fr => forceS (sdel (killO j .undef) j (sturn id i (boxJ E1 E2 (bs.set m (.box l))).own σ)) fun σ => K (putF o.dst (.d .undef) fr) σ) : OpSem C n kd o K fr σ := by
  subst hds
  rw [forceF_eq, forceS_eq] at hK
  refine opSem_val hkd.1 hkd.2 fun B S w0 η φ a w hM => ⟨fun _ => by simp [dynPure, ho], .inr ?_⟩
  obtain ⟨css, G, hB⟩ := own_boxes hM.mem hg
  obtain ⟨cssj, hsj, ej, hrj, _⟩ := own_slice_val hM.mem hgj
  have hcj := repCss_strs.1 hrj
  subst hcj
  have hi := mem_ids (sget_mem hg)
  have hj := mem_ids (sget_mem hgj)
  have hij : i ≠ j := fun e => by rw [e, hgj] at hg; cases hg
  obtain ⟨c0, hc0⟩ := box_css hB hml
  obtain ⟨cs, r1, r2⟩ := ev_rep hM x
  rw [hx] at r1 r2
  simp only [RepD] at r1
  obtain ⟨_, g, ll, c, e0, rfl⟩ := r1
  have ey := rd_own (ev_rep hM y) hy
  have hone : (η j).oneCell' = true := by rcases hsj.shape with ⟨h, _⟩ | ⟨_, _, h, _⟩ <;> rw [h] <;> rfl
  obtain ⟨w', q1, q2, q3⟩ := Sl.spliceAt (P := C.P) hB.row hB.sl e0 hc0 (x := [η j]) (off := 0) (by simp) (by simpa using hone)
  have esp : splice [c0] 0 [η j] = [η j] := by simp [splice]
  rw [esp] at q2
  have hr : (Instr.storeAt t (a.eval x) (a.eval y)).run C.P w = .ok () w' := by
    rw [r2, ey]
    show (Instr.storeAt t (.pointer (some ⟨g, m * 1 + 0, none⟩)) (η j)).run C.P w = _
    have hcl : (η j).cells = #[η j] := by rcases hsj.shape with ⟨h, _⟩ | ⟨_, _, h, _⟩ <;> rw [h] <;> rfl
    simp only [Instr.storeAt, Instr.sureAddr, Sem.run_bind, Sem.run_pure, Result.andThen_ok, storeVar, (hC.ty he).sizeOf, hcl, h1]
    simpa using q1
  -- the outer slice with its new cell
  have hX : ∀ b ∈ [g], b ∈ φ i := fun b hb => by
    have : b = g := by simpa using hb
    exact (hB.mem b).2 (.inl (by rw [e0, this]; rfl))
  obtain ⟨F1, hF1, hB1⟩ := hB.over hml hone e0 q3 q2
  have hF1' : ∀ b ∈ F1, b ∈ φ i ∨ w.heap.size ≤ b := fun b hb => .inl (hF1 b hb)
  have hl1 := Later.turn (σ := σ) B q3 hX hi hF1' id (boxJ E1 E2 (bs.set m (.pin (η j)))).own
  have hm1 := hM.mem.turnSame (o := (boxJ E1 E2 (bs.set m (.pin (η j)))).own) q3 hX hi hF1' ⟨_, _, hB1⟩
  have hids1 := ids_sturn id i (boxJ E1 E2 (bs.set m (.pin (η j)))).own σ
  have hsj' : Sl E2 1 id w' (η j) (l.map eS) := hsj.keep q3 (fun b hb hm => hM.mem.disj i hi j hj hij b (hX b hm) (by rw [ej, hb]; simp))
  have hpin : (bs.set m (.pin (η j)))[m]? = some (.pin (η j)) := by rw [List.getElem?_set, if_pos rfl, if_pos hml]
  have hji : upd φ i F1 j = φ j := upd_ne _ _ _ (Ne.symm hij)
  have hB2 := hB1.put hpin hsj' (fun b hb hbF => hM.mem.disj i hi j hj hij b (hF1 b hbF) (by rw [ej]; exact hb)) (F1 := F1 ++ (η j).ownBlock.toList) (fun b => by simp)
  rw [List.set_set] at hB2
  obtain ⟨hm2, hl2⟩ := hm1.merge (i := i) (j := j) (by rw [hids1]; exact hi) (by rw [hids1]; exact hj) hij (F := F1 ++ (η j).ownBlock.toList) (fun b => by rw [upd_eq, hji, ej, List.mem_append]) (r := boxJ E1 E2 (bs.set m (.box l))) ⟨_, _, hB2⟩
  have hst := sturn_sturn i (boxJ E1 E2 (bs.set m (.pin (η j)))).own (boxJ E1 E2 (bs.set m (.box l))).own σ
  rw [hst] at hm2 hl2
  refine ⟨w', by simp only [execOp, ho]; exact run_u hr, _, _, _, _, Models.put ⟨hm2, ?_, hM.defers, hM.size⟩ hd ⟨[Go.undef], by simp [RepD, RepC], rfl⟩, hK⟩
  have hf1 : FrRep η (ids (sturn id i (boxJ E1 E2 (bs.set m (.pin (η j)))).own σ)) (B ++ blocks (upd φ i F1) (sturn id i (boxJ E1 E2 (bs.set m (.pin (η j)))).own σ)) w' fr a := hM.fr.later hl1 (fun k hk => ⟨by rw [hids1]; exact hk, rfl⟩)
  refine hf1.kill rfl hl2 (fun k hk hkj => ⟨?_, rfl⟩) (RepC.undef_ex _ _ _)
  rw [ids_sdel, ids_sturn, List.mem_filter]
  rw [hids1] at hk
  exact ⟨hk, by simpa using hkj⟩
/-- 's[m] = nil' -/
theorem op_boxNil {t : TypeId} {x y : Operand} {e : TyI} (hC : C.Ok T) (i m : Nat) {bs : List Bx} (ho : o.op = .store t x y) (he : tyAt t T = some e) (h1 : e.size = 1) (hx : ev C.Γ fr x = .el i 1 m 0) (hy : ev C.Γ fr y = .d .nils) (hg : sget i σ = some (boxJ E1 E2 bs).own) (hml : m < bs.length) (hkd : kd ≠ 5 ∧ kd ≠ 2) (hd : dstOk o.dst n = true)
    (hK : forceS (sturn id i (boxJ E1 E2 (bs.set m (.box []))).own σ) fun σ => K (putF o.dst (.d .undef) fr) σ) : OpSem C n kd o K fr σ := by
  rw [forceS_eq] at hK
  refine opSem_val hkd.1 hkd.2 fun B S w0 η φ a w hM => ⟨fun _ => by simp [dynPure, ho], .inr ?_⟩
  obtain ⟨css, G, hB⟩ := own_boxes hM.mem hg
  have hi := mem_ids (sget_mem hg)
  obtain ⟨c0, hc0⟩ := box_css hB hml
  obtain ⟨cs, r1, r2⟩ := ev_rep hM x
  rw [hx] at r1 r2
  simp only [RepD] at r1
  obtain ⟨_, g, ll, c, e0, rfl⟩ := r1
  obtain ⟨cy, y1, y2⟩ := ev_rep hM y
  rw [hy] at y1 y2
  simp only [RepD, RepC] at y1
  subst y1
  have ey : a.eval y = .slice none 0 0 := y2
  obtain ⟨w', q1, q2, q3⟩ := Sl.spliceAt (P := C.P) hB.row hB.sl e0 hc0 (x := [.slice none 0 0]) (off := 0) (by simp) (by simp [Value.oneCell'])
  have esp : splice [c0] 0 [(.slice none 0 0 : Value)] = [.slice none 0 0] := by simp [splice]
  rw [esp] at q2
  have hr : (Instr.storeAt t (a.eval x) (a.eval y)).run C.P w = .ok () w' := by
    rw [r2, ey]
    show (Instr.storeAt t (.pointer (some ⟨g, m * 1 + 0, none⟩)) (.slice none 0 0)).run C.P w = _
    have hcl : (Value.slice none 0 0).cells = #[.slice none 0 0] := rfl
    simp only [Instr.storeAt, Instr.sureAddr, Sem.run_bind, Sem.run_pure, Result.andThen_ok, storeVar, (hC.ty he).sizeOf, hcl, h1]
    simpa using q1
  have hX : ∀ b ∈ [g], b ∈ φ i := fun b hb => by
    have : b = g := by simpa using hb
    exact (hB.mem b).2 (.inl (by rw [e0, this]; rfl))
  obtain ⟨F1, hF1, hB1⟩ := hB.over hml rfl e0 q3 q2
  have hpin : (bs.set m (.pin (.slice none 0 0)))[m]? = some (.pin (.slice none 0 0)) := by rw [List.getElem?_set, if_pos rfl, if_pos hml]
  have hB2 := hB1.put hpin (l := []) (Sl.nil E2 1 id w') (fun b hb => by simp [Value.ownBlock] at hb) (F1 := F1) (fun b => by simp [Value.ownBlock])
  rw [List.set_set] at hB2
  have hF1' : ∀ b ∈ F1, b ∈ φ i ∨ w.heap.size ≤ b := fun b hb => .inl (hF1 b hb)
  have hl1 := Later.turn (σ := σ) B q3 hX hi hF1' id (boxJ E1 E2 (bs.set m (.box []))).own
  have hm1 := hM.mem.turnSame (o := (boxJ E1 E2 (bs.set m (.box []))).own) q3 hX hi hF1' ⟨_, _, hB2⟩
  exact ⟨w', by simp only [execOp, ho]; exact run_u hr, _, _, _, _, Models.put ⟨hm1, hM.fr.later hl1 (fun k hk => ⟨by rw [ids_sturn]; exact hk, rfl⟩), hM.defers, hM.size⟩ hd ⟨[Go.undef], by simp [RepD, RepC], rfl⟩, hK⟩
/-- a slice of lists, told as boxes of which nothing is known -/
theorem Trf.boxes (i : Nat) {ds : List Da} (hg : sget i σ = some (.slice E1 1 ds)) : Trf C fr σ fr (sturn id i (boxJ E1 E2 (List.replicate ds.length .junk)).own σ) := by
  intro B S w0 w n η φ a hM
  have hi := mem_ids (sget_mem hg)
  obtain ⟨css, hs, ef, hr, hk⟩ := own_slice_val hM.mem hg
  have hl := repCss_len hr
  have hno : ∀ (k : Nat) z, (List.replicate ds.length Bx.junk)[k]? = some z → z = .junk := fun k z h => by
    rw [List.getElem?_replicate] at h
    split at h
    · cases h; rfl
    · cases h
  have hB : BoxR E1 E2 (List.replicate ds.length .junk) w (η i) (φ i) css (fun _ => []) := ⟨hs, by rw [List.length_replicate]; exact hl, hk, fun k u h => (by cases hno k _ h), fun k u h => (by cases hno k _ h), fun _ _ => rfl, fun _ _ _ _ h => (by cases h), fun _ _ h => (by cases h), fun b => (by rw [ef]; simp)⟩
  have hl1 := Later.turn (σ := σ) B (Tch.refl [] w) (X := []) (by simp) hi (F := φ i) (fun b hb => .inl hb) id (boxJ E1 E2 (List.replicate ds.length .junk)).own
  have hm1 := hM.mem.turnSame (o := (boxJ E1 E2 (List.replicate ds.length .junk)).own) (Tch.refl [] w) (X := []) (by simp) hi (F := φ i) (fun b hb => .inl hb) ⟨_, _, hB⟩
  exact ⟨_, _, hm1, hM.fr.later hl1 (fun k hk => ⟨by rw [ids_sturn]; exact hk, rfl⟩), hM.defers, hM.size⟩
/-- a slice of nil lists, told as empty boxes -/
theorem Trf.nilBoxes (i m : Nat) (hg : sget i σ = some (.slice E1 1 (List.replicate m .nils))) : Trf C fr σ fr (sturn id i (boxJ E1 E2 (List.replicate m (.box []))).own σ) := by
  intro B S w0 w n η φ a hM
  have hi := mem_ids (sget_mem hg)
  obtain ⟨css, hs, ef, hr, hk⟩ := own_slice_val hM.mem hg
  have hl := repCss_len hr
  have hc : ∀ {m : Nat} {css : List (List Value)}, RepCss (B ++ blocks φ σ) w (List.replicate m .nils) css → css = List.replicate m [.slice none 0 0] := by
    intro m
    induction m with
    | zero => intro css h; simpa [RepCss] using h
    | succ m ih =>
      intro css h
      rw [List.replicate_succ] at h ⊢
      simp only [RepCss, RepC] at h
      obtain ⟨c1, c2, rfl, rfl, h⟩ := h
      rw [ih h]
  have hcs := hc hr
  subst hcs
  have hno : ∀ (k : Nat) z, (List.replicate m (Bx.box []))[k]? = some z → z = .box [] ∧ k < m := fun k z h => by
    rw [List.getElem?_replicate] at h
    split at h
    · cases h; exact ⟨rfl, by assumption⟩
    · cases h
  have hB : BoxR E1 E2 (List.replicate m (.box [])) w (η i) (φ i) (List.replicate m [.slice none 0 0]) (fun _ => []) := ⟨hs, by simp, hk, fun k u h => (by cases (hno k _ h).1), fun k l h => (by
    obtain ⟨e, hlt⟩ := hno k _ h
    cases e
    exact ⟨.slice none 0 0, by rw [List.getElem?_replicate, if_pos hlt], Sl.nil E2 1 id w, rfl⟩), fun _ _ => rfl, fun _ _ _ _ h => (by cases h), fun _ _ h => (by cases h), fun b => (by rw [ef]; simp)⟩
  have hl1 := Later.turn (σ := σ) B (Tch.refl [] w) (X := []) (by simp) hi (F := φ i) (fun b hb => .inl hb) id (boxJ E1 E2 (List.replicate m (.box []))).own
  have hm1 := hM.mem.turnSame (o := (boxJ E1 E2 (List.replicate m (.box []))).own) (Tch.refl [] w) (X := []) (by simp) hi (F := φ i) (fun b hb => .inl hb) ⟨_, _, hB⟩
  exact ⟨_, _, hm1, hM.fr.later hl1 (fun k hk => ⟨by rw [ids_sturn]; exact hk, rfl⟩), hM.defers, hM.size⟩
def encT : Enc ByteArray := ⟨eS, dSt, 1, fun _ => rfl, fun s u hu => by simp [eS] at hu; rw [hu]; rfl, fun O w s => by simp only [dSt, RepC, eS]⟩
theorem slS_of {u : Value} {l : List ByteArray} (h : Sl E2 1 id w u (l.map eS)) : Sl E2 1 eS w u l := by
  unfold Sl at h ⊢
  rw [List.length_map, List.flatMap_map] at h
  exact h
/-- boxes given up: lists -/
theorem Trf.unbox (i : Nat) {bs : List Bx} {ls : List (List ByteArray)} (hg : sget i σ = some (boxJ E1 E2 bs).own) (hbs : bs = ls.map .box) : Trf C fr σ fr (sturn id i (.slice E1 1 (ls.map fun l => .list 1 (l.map dSt))) σ) := by
  subst hbs
  intro B S w0 w n η φ a hM
  have hi := mem_ids (sget_mem hg)
  obtain ⟨css, G, hB⟩ := own_boxes hM.mem hg
  have hF : ∀ b ∈ (η i).ownBlock.toList, b ∈ φ i ∨ w.heap.size ≤ b := fun b hb => .inl ((hB.mem b).2 (.inl (by simpa using hb)))
  have hl1 := Later.turn (σ := σ) B (Tch.refl [] w) (X := []) (by simp) hi hF id (.slice E1 1 (ls.map fun l => .list 1 (l.map dSt)))
  have hlen : css.length = ls.length := by rw [hB.len, List.length_map]
  have hrep : ∀ O, (∀ b k, b ∈ G k → b ∉ O) → RepCss O w (ls.map fun l => .list 1 (l.map dSt)) css := by
    intro O hO
    have hall : ∀ k l, ls[k]? = some l → ∃ u, css[k]? = some [u] ∧ Sl E2 1 eS w u l ∧ ∀ b, u.ownBlock = some b → b ∉ O := fun k l hk => by
      obtain ⟨u, g1, g2, g3⟩ := hB.box k l (by rw [List.getElem?_map, hk]; rfl)
      exact ⟨u, g1, slS_of g2, fun b hb => hO b k (by rw [g3, hb]; simp)⟩
    clear hl1 hF hB hg hM hi
    induction ls generalizing css with
    | nil => cases css <;> simp_all [RepCss]
    | cons l ls ih =>
      cases css with
      | nil => simp at hlen
      | cons c css =>
        obtain ⟨u, g1, g2, g3⟩ := hall 0 l rfl
        have g1' : c = [u] := by simpa using g1
        subst g1'
        obtain ⟨cs, q1, q2⟩ := encT.rep_sl (O := O) g2 g3
        have q3 : cs = [u] := by
          have q1' := q1
          simp only [RepC] at q1'
          obtain ⟨aa, c, css', rfl, _⟩ := q1'
          rw [q2]; rfl
        simp only [List.map_cons, RepCss]
        exact ⟨_, _, rfl, q3 ▸ q1, ih css (by simpa using hlen) (fun k l' hk => hall (k + 1) l' hk)⟩
  have hout : ∀ b k, b ∈ G k → b ∉ B ++ blocks (upd φ i (η i).ownBlock.toList) (sturn id i (.slice E1 1 (ls.map fun l => .list 1 (l.map dSt))) σ) := by
    intro b k hb hm
    have hbi : b ∈ φ i := (hB.mem b).2 (.inr ⟨k, hb⟩)
    rcases List.mem_append.1 hm with hm | hm
    · exact notIn_B hM.mem hi hbi hm
    · obtain ⟨q, hq, hbq⟩ := mem_blk.1 hm
      rw [ids_sturn] at hq
      by_cases e : q = i
      · subst e; rw [upd_eq] at hbq; exact hB.out k b hb (by simpa using hbq)
      · rw [upd_ne _ _ _ e] at hbq; exact hM.mem.disj q hq i hi e b hbq hbi
  have hm1 := hM.mem.turnSame (o := .slice E1 1 (ls.map fun l => .list 1 (l.map dSt))) (Tch.refl [] w) (X := []) (by simp) hi hF ⟨css, hB.sl, rfl, hrep _ hout, hB.row⟩
  exact ⟨_, _, hm1, hM.fr.later hl1 (fun k hk => ⟨by rw [ids_sturn]; exact hk, rfl⟩), hM.defers, hM.size⟩
end
end Go.Sx
