/- Bsp, plain: the letters of a round, and what a round makes of states and inboxes. -/
import Derived.Test.YtlchegpgicdldaaDoorBsw
import Derived.Test.YtlchegpgicdldaaDoorNxf
namespace Go.Proofs.YtlchegpgicdldaaDoor
open Go.Sx Go.RowKit Go.Reg

theorem snoc_ind {α : Type} {P : List α → Prop} (h0 : P []) (h1 : ∀ l x, P l → P (l ++ [x])) (l : List α) : P l := by
  rw [← List.reverse_reverse l]
  induction l.reverse with
  | nil => exact h0
  | cons x m ih => rw [List.reverse_cons]; exact h1 _ _ ih
/-- the letters of a worker, numbered by their way -/
def ltrs (w : Int) (l : List (Int × ByteArray)) : List Letter := l.foldl (fun S m => S ++ [⟨w, m.1, nth S w m.1, m.2⟩]) []
theorem ltrs_snoc (w : Int) (l : List (Int × ByteArray)) (m : Int × ByteArray) : ltrs w (l ++ [m]) = ltrs w l ++ [⟨w, m.1, nth (ltrs w l) w m.1, m.2⟩] := by simp [ltrs]
theorem ltrs_num (w : Int) (l : List (Int × ByteArray)) : Numbered (ltrs w l) := by
  induction l using snoc_ind with
  | h0 => exact .nil
  | h1 l m ih => rw [ltrs_snoc]; exact ih.snoc w m.1 m.2
theorem ltrs_src (w : Int) (l : List (Int × ByteArray)) : ∀ x ∈ ltrs w l, x.src = w := by
  induction l using snoc_ind with
  | h0 => intro x hx; cases hx
  | h1 l m ih =>
    intro x hx
    rw [ltrs_snoc] at hx
    rcases List.mem_append.1 hx with hx | hx
    · exact ih x hx
    · rw [List.mem_singleton.1 hx]
theorem ltrs_map (w : Int) (l : List (Int × ByteArray)) : (ltrs w l).map (fun x => (x.dst, x.text)) = l := by
  induction l using snoc_ind with
  | h0 => rfl
  | h1 l m ih => rw [ltrs_snoc, List.map_append, ih]; rfl
theorem ltrs_pw (w : Int) (l : List (Int × ByteArray)) : (ltrs w l).Pairwise (fun a b => a.dst = b.dst → a.seq < b.seq) := by
  induction l using snoc_ind with
  | h0 => exact .nil
  | h1 l m ih =>
    rw [ltrs_snoc, List.pairwise_append]
    refine ⟨ih, List.pairwise_singleton _ _, ?_⟩
    intro a ha b hb e
    rw [List.mem_singleton.1 hb] at e ⊢
    have h1 := (ltrs_num w l).lt a ha
    rw [ltrs_src w l a ha] at h1
    simp only at e ⊢
    rw [e] at h1
    exact h1.2
theorem nth_none {S : List Letter} {w v : Int} (h : ∀ x ∈ S, x.src ≠ w) : nth S w v = 0 := by
  unfold nth
  rw [List.countP_eq_zero]
  intro x hx hb
  simp only [onWay, Bool.and_eq_true, beq_iff_eq] at hb
  exact h x hx hb.1
theorem told_sends {N : NetM} {S C : List Letter} (h : Told N S C) {w : Nat} (hw : (w : Int) < N.workers) (hS : ∀ x ∈ S, x.src ≠ w) (l : List (Int × ByteArray)) : (∀ m ∈ l, 0 ≤ m.1 ∧ m.1 < N.workers) → Told (sendsN N w l) (S ++ ltrs w l) C := by
  induction l using snoc_ind with
  | h0 =>
    intro _
    have e : ltrs (w : Int) [] = [] := rfl
    rw [e, List.append_nil]; exact h
  | h1 l m ih =>
    intro hl
    have h1 := ih (fun x hx => hl x (by simp [hx]))
    have hm := hl m (by simp)
    have hk := sendsN_workers N w l
    have h2 := h1.act ⟨0, w, m.1, m.2⟩
    unfold NetM.act toldAct at h2
    have hc : 0 ≤ (w : Int) ∧ (w : Int) < (sendsN N w l).workers ∧ 0 ≤ m.1 ∧ m.1 < (sendsN N w l).workers := by rw [hk]; exact ⟨by omega, hw, hm.1, hm.2⟩
    rw [if_pos rfl, if_pos hc, if_pos rfl, if_pos hc] at h2
    have e : nth (S ++ ltrs w l) w m.1 = nth (ltrs w l) w m.1 := by
      have := nth_none (v := m.1) hS
      unfold nth at this ⊢
      rw [List.countP_append, this, Nat.zero_add]
    simp only [e] at h2
    rw [sendsN_snoc, ltrs_snoc, ← List.append_assoc]
    exact h2

/-- the letters to v, in the order of a sorted inbox -/
def boxE (n : Nat) (ll : Nat → List (Int × ByteArray)) (v : Int) : List Letter := (List.range n).flatMap fun w : Nat => (ltrs w (ll w)).filter (fun x => x.dst == v)
def boxT (n : Nat) (ll : Nat → List (Int × ByteArray)) (v : Int) : List ByteArray := (List.range n).flatMap fun w : Nat => ((ll w).filter (fun m => m.1 == v)).map (·.2)
theorem boxE_text (n : Nat) (ll : Nat → List (Int × ByteArray)) (v : Int) : (boxE n ll v).map (·.text) = boxT n ll v := by
  unfold boxE boxT
  rw [List.map_flatMap]
  congr 1
  funext w
  have e : (ll w).filter (fun m => m.1 == v) = ((ltrs w (ll w)).map (fun x => (x.dst, x.text))).filter (fun m => m.1 == v) := by rw [ltrs_map]
  rw [e, List.filter_map, List.map_map]
  rfl
theorem boxE_srt (n : Nat) (ll : Nat → List (Int × ByteArray)) (v : Int) : (boxE n ll v).Pairwise (fun a b => cmpL a b < 0) := by
  unfold boxE
  rw [List.pairwise_flatMap]
  constructor
  · intro w _
    refine ((ltrs_pw w (ll w)).filter _).imp_of_mem ?_
    intro a b ha hb h
    obtain ⟨ha1, ha2⟩ := List.mem_filter.1 ha
    obtain ⟨hb1, hb2⟩ := List.mem_filter.1 hb
    have a3 := ltrs_src _ _ a ha1
    have b3 := ltrs_src _ _ b hb1
    simp only [beq_iff_eq] at ha2 hb2
    exact (cmpL_lt a b).2 (.inr ⟨by rw [a3, b3], h (by rw [ha2, hb2])⟩)
  · refine List.pairwise_lt_range.imp ?_
    intro w1 w2 hlt x hx y hy
    have a3 := ltrs_src _ _ x (List.mem_filter.1 hx).1
    have b3 := ltrs_src _ _ y (List.mem_filter.1 hy).1
    exact (cmpL_lt x y).2 (.inl (by rw [a3, b3]; omega))
/-- what was sent: of each worker that did, its letters -/
structure SentOk (n : Nat) (ll : Nat → List (Int × ByteArray)) (did : Nat → Bool) (S : List Letter) : Prop where
  src : ∀ l ∈ S, ∃ w : Nat, w < n ∧ l.src = w
  own : ∀ w : Nat, w < n → S.filter (fun l => l.src == (w : Int)) = if did w then ltrs w (ll w) else []
theorem SentOk.none (n : Nat) (ll : Nat → List (Int × ByteArray)) : SentOk n ll (fun _ => false) [] := ⟨by simp, by simp⟩
theorem filter_all {α : Type} {p : α → Bool} {l : List α} (h : ∀ x ∈ l, p x = true) : l.filter p = l := List.filter_eq_self.2 h
theorem filter_no {α : Type} {p : α → Bool} {l : List α} (h : ∀ x ∈ l, p x = false) : l.filter p = [] := List.filter_eq_nil_iff.2 fun x hx => by simp [h x hx]
theorem SentOk.not {n : Nat} {ll : Nat → List (Int × ByteArray)} {did : Nat → Bool} {S : List Letter} (h : SentOk n ll did S) {w : Nat} (hw : w < n) (hd : did w = false) : ∀ x ∈ S, x.src ≠ w := by
  intro x hx e
  have h1 := h.own w hw
  rw [hd] at h1
  have : x ∈ S.filter (fun l => l.src == (w : Int)) := List.mem_filter.2 ⟨hx, by simp [e]⟩
  rw [h1] at this
  simp at this
theorem SentOk.step {n : Nat} {ll : Nat → List (Int × ByteArray)} {did did' : Nat → Bool} {S : List Letter} (h : SentOk n ll did S) {w : Nat} (hw : w < n) (hd : did w = false) (hd' : did' w = true) (ho : ∀ x, x < n → x ≠ w → did' x = did x) : SentOk n ll did' (S ++ ltrs w (ll w)) := by
  constructor
  · intro l hl
    rcases List.mem_append.1 hl with hl | hl
    · exact h.src l hl
    · exact ⟨w, hw, ltrs_src _ _ l hl⟩
  · intro x hx
    rw [List.filter_append, h.own x hx]
    by_cases e : x = w
    · subst e
      rw [hd, hd', filter_all (fun y hy => by simp [ltrs_src _ _ y hy])]
      simp
    · rw [ho x hx e, filter_no (fun y hy => by
        have := ltrs_src _ _ y hy
        simp only [this, beq_eq_false_iff_ne]; omega), List.append_nil]
theorem box_of {n : Nat} {ll : Nat → List (Int × ByteArray)} {S : List Letter} (h : SentOk n ll (fun _ => true) S) (v : Int) : Box S v (boxE n ll v) := by
  have hs := boxE_srt n ll v
  refine ⟨fun l => ?_, hs.imp (fun {a b} hab e => ?_), hs.imp (fun {a b} hab hba => ?_)⟩
  · unfold boxE
    simp only [List.mem_flatMap, List.mem_range, List.mem_filter, beq_iff_eq]
    constructor
    · rintro ⟨w, hw, hl, hv⟩
      have := h.own w hw
      rw [if_pos rfl] at this
      rw [← this] at hl
      exact ⟨(List.mem_filter.1 hl).1, hv⟩
    · rintro ⟨hl, hv⟩
      obtain ⟨w, hw, e⟩ := h.src l hl
      have := h.own w hw
      rw [if_pos rfl] at this
      exact ⟨w, hw, by rw [← this]; exact List.mem_filter.2 ⟨hl, by simp [e]⟩, hv⟩
  · subst e
    have := (cmpL_lt a a).1 hab
    omega
  · have h1 := (cmpL_lt a b).1 hab
    have h2 := (cmpL_lt b a).1 hba
    omega
theorem nodup_full {α : Type} [DecidableEq α] {C S : List α} (hC : C.Nodup) (hS : ∀ x ∈ C, x ∈ S) (hl : S.length ≤ C.length) : ∀ x ∈ S, x ∈ C := by
  intro x hx
  by_cases h : x ∈ C
  · exact h
  · have := nodup_le (l := x :: C) (m := S) (List.nodup_cons.2 ⟨h, hC⟩) (fun y hy => by
      rcases List.mem_cons.1 hy with rfl | hy
      · exact hx
      · exact hS y hy)
    simp at this; omega
theorem Told.boxM {N : NetM} {S C out : List Letter} {v : Int} (h : Told N S C) (h0 : Go.Proofs.YtlchegpgicdldaaDoor.M N = 0) (hp : out.Perm (Go.Proofs.YtlchegpgicdldaaDoor.pick v N.came)) (hs : out.Pairwise (fun a b => ¬ cmpL b a < 0)) : Box S v out := by
  rw [h.pick] at hp
  have hm := h.M
  have hall := nodup_full h.nodup h.cameIn (by omega)
  refine ⟨fun l => ?_, hp.nodup_iff.2 (h.nodup.filter _), hs⟩
  rw [hp.mem_iff, List.mem_filter]
  constructor
  · rintro ⟨h1, h2⟩; exact ⟨h.cameIn l h1, by simpa using h2⟩
  · rintro ⟨h1, h2⟩
    exact ⟨hall l h1, by simpa using h2⟩
theorem inbox_texts {N : NetM} {S C out : List Letter} {v : Int} {n : Nat} {ll : Nat → List (Int × ByteArray)} (h : Told N S C) (hs : SentOk n ll (fun _ => true) S) (h0 : Go.Proofs.YtlchegpgicdldaaDoor.M N = 0) (hp : out.Perm (Go.Proofs.YtlchegpgicdldaaDoor.pick v N.came)) (hso : out.Pairwise (fun a b => ¬ cmpL b a < 0)) : out.map (·.text) = boxT n ll v := by
  rw [(h.boxM h0 hp hso).eq h.num (box_of hs v), boxE_text]

def gW (want : List ByteArray) (w : Nat) : ByteArray := want.getD w ⟨#[]⟩
def gB (inbox : List (List ByteArray)) (w : Nat) : List ByteArray := inbox.getD w []
def mlW (to : List (List Int)) (want : List ByteArray) (w : Nat) : List (Int × ByteArray) := mailsB to w (gW want w)
/-- the states, the inboxes behind a round -/
def roundS (want : List ByteArray) (inbox : List (List ByteArray)) : List ByteArray := (List.range want.length).map fun w : Nat => nxB w (gW want w) (gB inbox w)
def roundB (to : List (List Int)) (want : List ByteArray) : List (List ByteArray) := (List.range want.length).map fun v : Nat => boxT want.length (mlW to want) v
def Mach.pass (M : Mach) (bs : List (List ByteArray)) : Mach := Mach.back { M with states := M.next, inbox := bs, round := M.round + 1 }
/-- the machine in the midst of a round of which want, inbox are the states and the inboxes -/
structure BInv (to : List (List Int)) (want : List ByteArray) (inbox : List (List ByteArray)) (wk : List Bool) (r : Int) (B : Nat) (M : Mach) : Prop where
  sts : M.states = want
  box : M.inbox = inbox
  wkd : M.worked = wk
  rd : M.round = r
  inl : inbox.length = want.length
  wl : wk.length = want.length
  nxl : M.next.length = want.length
  nxt : ∀ w : Nat, wk[w]? = some true → M.next[w]? = some (nxB w (gW want w) (gB inbox w))
  wks : M.net.workers = want.length
  net : NetOk B M.net
  told : ∃ S C, Told M.net S C ∧ SentOk want.length (mlW to want) (fun w => wk.getD w false) S
theorem BInv.back {to : List (List Int)} {want : List ByteArray} {inbox : List (List ByteArray)} {wk : List Bool} {r : Int} {B : Nat} {M : Mach} (h : BInv to want inbox wk r B M) : BInv to want inbox (List.replicate want.length false) r 0 M.back := by
  refine ⟨h.sts, h.box, ?_, h.rd, h.inl, by simp, ?_, ?_, h.wks, NetOk.new _, ⟨[], [], Told.new _, ?_⟩⟩
  · simp only [Mach.back, h.sts]
  · simp only [Mach.back, h.sts, List.length_replicate]
  · intro w hw
    rw [List.getElem?_replicate] at hw
    split at hw <;> simp at hw
  · refine ⟨by simp, fun w hw => ?_⟩
    have : (List.replicate want.length false).getD w false = false := by rw [List.getD_eq_getElem?_getD, List.getElem?_replicate]; split <;> rfl
    rw [this]; rfl
theorem BInv.did {to : List (List Int)} {want : List ByteArray} {inbox : List (List ByteArray)} {wk : List Bool} {r : Int} {B : Nat} {M : Mach} (h : BInv to want inbox wk r B M) {w : Nat} (hw : wk[w]? = some false) (hm : ∀ m ∈ mlW to want w, 0 ≤ m.1 ∧ m.1 < want.length) :
    BInv to want inbox (wk.set w true) r (B + (mlW to want w).length) (M.did w (nxB w (gW want w) (gB inbox w)) (mlW to want w)) := by
  have hwl : w < wk.length := (List.getElem?_eq_some_iff.1 hw).1
  have hl := h.wl
  obtain ⟨S, C, h1, h2⟩ := h.told
  have hd : wk.getD w false = false := by rw [List.getD_eq_getElem?_getD, hw]; rfl
  have hk : (w : Int) < M.net.workers := by rw [h.wks]; omega
  refine ⟨h.sts, h.box, by simp only [Mach.did, h.wkd], h.rd, h.inl, by rw [List.length_set]; exact hl, ?_, ?_, ?_, ?_, ⟨_, C, told_sends h1 hk (h2.not (by omega) hd) _ (by rw [h.wks]; exact hm), h2.step (by omega) hd ?_ ?_⟩⟩
  · simp only [Mach.did, List.length_set]; exact h.nxl
  · intro x hx
    simp only [Mach.did]
    rw [List.getElem?_set] at hx ⊢
    have := h.nxl
    by_cases e : w = x
    · subst e
      rw [if_pos rfl, if_pos (by omega)]
    · rw [if_neg e] at hx ⊢
      exact h.nxt x hx
  · simp only [Mach.did, sendsN_workers]; exact h.wks
  · exact sendsN_ok h.net hk (by rw [h.wks]; exact hm)
  · rw [List.getD_eq_getElem?_getD, List.getElem?_set, if_pos rfl, if_pos hwl]; rfl
  · intro x _ hne
    rw [List.getD_eq_getElem?_getD, List.getD_eq_getElem?_getD, List.getElem?_set, if_neg (fun e => hne e.symm)]
theorem BInv.deliver {to : List (List Int)} {want : List ByteArray} {inbox : List (List ByteArray)} {wk : List Bool} {r : Int} {B : Nat} {M : Mach} (h : BInv to want inbox wk r B M) {i : Nat} {l : Letter} (hl : M.net.flying[i]? = some l) : BInv to want inbox wk r (B + 1) { M with net := M.net.deliver i l } := by
  obtain ⟨S, C, h1, h2⟩ := h.told
  refine ⟨h.sts, h.box, h.wkd, h.rd, h.inl, h.wl, h.nxl, h.nxt, h.wks, ?_, ⟨S, _, h1.deliver hl, h2⟩⟩
  have := h.net.act ⟨2, i, 0, ⟨#[]⟩⟩
  unfold NetM.act at this
  have e : M.net.pos (i : Int) = some l := by unfold NetM.pos; rw [if_pos (by omega), Int.toNat_natCast, hl]
  rw [if_neg (by simp), e] at this
  simpa using this
theorem BInv.double {to : List (List Int)} {want : List ByteArray} {inbox : List (List ByteArray)} {wk : List Bool} {r : Int} {B : Nat} {M : Mach} (h : BInv to want inbox wk r B M) {i : Nat} {l : Letter} (hl : M.net.flying[i]? = some l) : BInv to want inbox wk r (B + 1) { M with net := M.net.double l } := by
  obtain ⟨S, C, h1, h2⟩ := h.told
  have e : M.net.pos (i : Int) = some l := by unfold NetM.pos; rw [if_pos (by omega), Int.toNat_natCast, hl]
  have hd := h1.dbl i
  unfold NetM.dbl at hd
  rw [e] at hd
  refine ⟨h.sts, h.box, h.wkd, h.rd, h.inl, h.wl, h.nxl, h.nxt, h.wks, ?_, ⟨S, C, hd, h2⟩⟩
  have := h.net.act ⟨1, i, 0, ⟨#[]⟩⟩
  unfold NetM.act at this
  rw [if_neg (by simp), e] at this
  simpa using this
theorem BInv.quiet {to : List (List Int)} {want : List ByteArray} {inbox : List (List ByteArray)} {wk : List Bool} {r : Int} {B : Nat} {M : Mach} (h : BInv to want inbox wk r B M) (hf : M.net.flying = []) : Go.Proofs.YtlchegpgicdldaaDoor.M M.net = 0 := by
  obtain ⟨S, C, h1, h2⟩ := h.told
  have := h1.quiet hf
  rw [h1.M]; omega
theorem BInv.pass {to : List (List Int)} {want : List ByteArray} {inbox : List (List ByteArray)} {wk : List Bool} {r : Int} {B : Nat} {M : Mach} (h : BInv to want inbox wk r B M) (ha : ∀ b ∈ wk, b = true) :
    BInv to (roundS want inbox) (roundB to want) (List.replicate want.length false) (r + 1) 0 (M.pass (roundB to want)) := by
  have hn : M.next = roundS want inbox := by
    apply List.ext_getElem?
    intro w
    by_cases hw : w < want.length
    · have hwk : wk[w]? = some true := by
        have hl := h.wl
        have e := List.getElem?_eq_getElem (show w < wk.length by omega)
        rw [e, ha _ (List.getElem_mem _)]
      rw [h.nxt w hwk]
      unfold roundS
      rw [List.getElem?_map, List.getElem?_range hw]; rfl
    · rw [List.getElem?_eq_none (by rw [h.nxl]; omega), List.getElem?_eq_none (by unfold roundS; simp; omega)]
  have hl : (roundS want inbox).length = want.length := by unfold roundS; simp
  refine ⟨by simp only [Mach.pass, Mach.back, hn], rfl, by simp only [Mach.pass, Mach.back, hn, hl], by simp only [Mach.pass, Mach.back, h.rd], ?_, ?_, ?_, ?_, ?_, NetOk.new _, ⟨[], [], Told.new _, ?_⟩⟩
  · unfold roundB; simp [hl]
  · simp [hl]
  · simp only [Mach.pass, Mach.back, hn, List.length_replicate]
  · intro w hw
    rw [List.getElem?_replicate] at hw
    split at hw <;> simp at hw
  · rw [hl]; exact h.wks
  · refine ⟨by simp, fun w hw => ?_⟩
    have : (List.replicate want.length false).getD w false = false := by rw [List.getD_eq_getElem?_getD, List.getElem?_replicate]; split <;> rfl
    rw [this]; rfl
/-- what the barrier hands on is the round's -/
theorem BInv.inbox {to : List (List Int)} {want : List ByteArray} {inbox : List (List ByteArray)} {wk : List Bool} {r : Int} {B : Nat} {M : Mach} (h : BInv to want inbox wk r B M) (ha : ∀ b ∈ wk, b = true) (h0 : Go.Proofs.YtlchegpgicdldaaDoor.M M.net = 0) {v : Nat} {out : List Letter} (hv : v < want.length)
    (hp : out.Perm (Go.Proofs.YtlchegpgicdldaaDoor.pick v M.net.came)) (hso : out.Pairwise (fun a b => ¬ cmpL b a < 0)) : (roundB to want)[v]? = some (out.map (·.text)) := by
  obtain ⟨S, C, h1, h2⟩ := h.told
  have h3 : SentOk want.length (mlW to want) (fun _ => true) S := ⟨h2.src, fun w hw => by
    have := h2.own w hw
    have hl := h.wl
    have e : wk.getD w false = true := by rw [List.getD_eq_getElem?_getD, List.getElem?_eq_getElem (show w < wk.length by omega)]; exact ha _ (List.getElem_mem _)
    rw [e] at this; exact this⟩
  rw [inbox_texts h1 h3 h0 hp hso]
  unfold roundB
  rw [List.getElem?_map, List.getElem?_range hv]; rfl
end Go.Proofs.YtlchegpgicdldaaDoor
