/- The laws' calls: Do. -/
import Derived.Test.YtlpjdngjmknniaaDoorNtg
import Derived.Test.YtlpjdngjmknniaaDoorPut
namespace Go.Proofs.YtlpjdngjmknniaaDoor
open Go.RowKit Go.Reg

structure ActM where
  kind : Int
  a : Int
  b : Int
  text : ByteArray
  deriving DecidableEq

def encA (x : ActM) : List Value := [.int .i64 x.kind, .int .i64 x.a, .int .i64 x.b, .string x.text]
def valA (x : ActM) : Value := .agg #[.int .i64 x.kind, .int .i64 x.a, .int .i64 x.b, .string x.text]

def NetM.pos (N : NetM) (i : Int) : Option Letter := if 0 ≤ i then N.flying[i.toNat]? else none
def NetM.act (N : NetM) (x : ActM) : NetM × Int :=
  if x.kind = 0 then
    if 0 ≤ x.a ∧ x.a < N.workers ∧ 0 ≤ x.b ∧ x.b < N.workers then (N.send x.a x.b x.text, 0) else (N, 3)
  else match N.pos x.a with
    | none => (N, 3)
    | some l => if x.kind = 1 then (N.double l, 0) else (N.deliver x.a.toNat l, 0)

structure NetOk (B : Nat) (N : NetM) : Prop where
  fly : N.flying.length ≤ B
  came : N.came.length ≤ B
  all0 : 0 ≤ N.all
  all : N.all ≤ B
  next : ∀ a b, 0 ≤ N.next a b ∧ N.next a b ≤ B

theorem NetM.next_send (N : NetM) (a b : Int) (s : ByteArray) (c d : Int) : (N.send a b s).next c d = if a = c ∧ b = d then N.next a b + 1 else N.next c d := by
  simp only [NetM.next, NetM.send, get_put, Prod.mk.injEq]
  split <;> rfl

theorem NetOk.act {B : Nat} {N : NetM} (h : NetOk B N) (x : ActM) : NetOk (B + 1) (N.act x).1 := by
  obtain ⟨h1, h2, h3, h4, h5⟩ := h
  have h0 : NetOk (B + 1) N := ⟨by omega, by omega, h3, by omega, fun a b => ⟨(h5 a b).1, by have := (h5 a b).2; omega⟩⟩
  unfold NetM.act
  split
  · split
    · refine ⟨?_, h0.came, ?_, ?_, ?_⟩
      · simp [NetM.send]; exact h1
      · simp only [NetM.send]; omega
      · simp only [NetM.send]; omega
      · intro c d
        rw [NetM.next_send]
        split
        · have := h5 x.a x.b; omega
        · exact h0.next c d
    · exact h0
  · split
    · exact h0
    · split
      · refine ⟨?_, h0.came, h0.all0, h0.all, h0.next⟩
        simp [NetM.double]; exact h1
      · refine ⟨?_, ?_, h0.all0, h0.all, h0.next⟩
        · simp only [NetM.deliver]
          have := List.length_eraseIdx_le N.flying x.a.toNat
          omega
        · simp only [NetM.deliver]
          have := put_length_le N.came
          exact Nat.le_trans (this _ _) (by omega)
theorem NetOk.mono {B C : Nat} {N : NetM} (h : NetOk B N) (hb : B ≤ C) : NetOk C N :=
  ⟨Nat.le_trans h.fly hb, Nat.le_trans h.came hb, h.all0, by have := h.all; omega, fun a b => ⟨(h.next a b).1, by have := (h.next a b).2; omega⟩⟩
theorem NetOk.new (k : Int) : NetOk 0 ⟨k, [], 0, [], []⟩ := ⟨by simp, by simp, by simp, by simp, fun a b => by simp [NetM.next, Reg.get]⟩

structure St (w : World) (p : Nat) (N : NetM) (F : List Nat) : Prop where
  net : NetAt w p N F
  err : ErrT w
  zero : 0 ∉ F

theorem ErrT.keep {S : List Nat} {w w' : World} (h : ErrT w) (t : Tch S w w') (hn : 0 ∉ S) : ErrT w' := t.cell h hn
theorem ErrT.lt {w : World} (h : ErrT w) : 0 < w.heap.size := by
  unfold ErrT World.cell? at h
  rcases Nat.eq_zero_or_pos w.heap.size with h0 | h0
  · simp [Array.getElem?_eq_none (xs := w.heap) (i := 0) (by omega)] at h
  · exact h0
theorem St.keep {S : List Nat} {w w' : World} {p : Nat} {N : NetM} {F : List Nat} (h : St w p N F) (t : Tch S w w') (hd : ∀ x ∈ F, x ∉ S) (hz : 0 ∉ S) : St w' p N F := ⟨h.net.keep t hd, h.err.keep t hz, h.zero⟩

theorem err_code {v : Value} {c : Int} (w w1 : World) (he : Err w v c) (h0 : ErrT w) (ht : Tch [] w1 w) : Calls Tryd.prog 16 #[v] w fun e w' => e = .returned (.int .i64 c) ∧ Tch [] w1 w' := by
  obtain ⟨f, a, s, rfl, hb⟩ := he
  refine (code_fault f _ a s w hb h0).mono ?_
  rintro e w' ⟨rfl, hT⟩
  exact ⟨rfl, ht.then0 hT⟩

/-- what a call of the laws leaves -/
def Did (p : Nat) (N : NetM) (F : List Nat) (x : ActM) (w : World) (e : Ending) (w' : World) : Prop :=
  e = .returned (.int .i64 (N.act x).2) ∧ ∃ F', St w' p (N.act x).1 F' ∧ (∀ y ∈ F', y ∈ F ∨ w.heap.size ≤ y) ∧ Tch F w w'

theorem did_of {p : Nat} {N N' : NetM} {F F' : List Nat} {x : ActM} {w wA w2 : World} {c : Int} (hP : N.act x = (N', c)) (hS : St w p N F) (hA : Tch [] w wA) (hn : NetAt w2 p N' F') (hF : ∀ y ∈ F', y ∈ F ∨ wA.heap.size ≤ y) (ht : Tch F wA w2) :
    Did p N F x w (.returned (.int .i64 c)) w2 := by
  have h1 : (N.act x).1 = N' := by rw [hP]
  have h2 : (N.act x).2 = c := by rw [hP]
  have hs := hA.size
  unfold Did
  rw [h1, h2]
  refine ⟨rfl, F', ⟨hn, (hS.err.keep (hA.ahead0 ht) hS.zero), ?_⟩, fun y hy => (hF y hy).imp id (fun h => by omega), hA.ahead0 ht⟩
  intro h0
  rcases hF 0 h0 with h | h
  · exact hS.zero h
  · have := hS.err.lt; omega
theorem did_no {p : Nat} {N : NetM} {F : List Nat} {x : ActM} {w wA w2 : World} {c : Int} (hP : N.act x = (N, c)) (hS : St w p N F) (hA : Tch [] w wA) (ht : Tch [] wA w2) :
    Did p N F x w (.returned (.int .i64 c)) w2 :=
  did_of hP hS hA (hS.net.keep (hA.then0 ht) (by simp)) (fun y hy => .inl hy) (ht.mono (by simp))

set_option maxRecDepth 100000 in
theorem do_ok (p : Nat) (N : NetM) (F : List Nat) (x : ActM) (w : World) (h : St w p N F) (B : Nat) (hb : NetOk B N) (hB : B ≤ 4294967296) :
    Calls Tryd.prog 18 #[.pointer (some ⟨p, 0, none⟩), valA x] w (Did p N F x w) := by
  have HH := hid h
  have HA := hid (Tch.alloc w (.cells #[.int .i64 x.kind, .int .i64 x.a, .int .i64 x.b, .string x.text] 37) [])
  have HN := hid (h.net.keep HA.out (by simp))
  have HE := hid (h.err.keep HA.out (by simp))
  have HB := hid hb
  have HC := hid hB
  clear h hb hB
  unfold valA
  by_cases k0 : x.kind = 0
  · have k0b : (x.kind == 0) = true := by simpa using k0
    by_cases hr : 0 ≤ x.a ∧ x.a < N.workers ∧ 0 ≤ x.b ∧ x.b < N.workers
    · have HS := hid (send_ok p N F x.a x.b x.text _ HN.out hr.1 hr.2.1 hr.2.2.1 hr.2.2.2 (by have := HB.out.fly; have := HC.out; omega) (by have := HB.out.all; have := HB.out.all0; have := HC.out; omega) (by have := HB.out.next x.a x.b; have := HC.out; omega))
      have HP := hid (show N.act x = (N.send x.a x.b x.text, 0) by unfold NetM.act; rw [if_pos k0, if_pos hr])
      clear hr k0
      go_enter Tryd.func18, Tryd.ntmps18
      go_wp2_with (first
        | (go_at_call 29; refine HS.out.mono ?_; rintro e w2 ⟨rfl, F', hn2, hF2, ht2⟩; replace hn2 := hid hn2; replace hF2 := hid hF2; replace ht2 := hid ht2)
        | (go_at_call 16; refine (code_nil _).mono ?_; rintro e w' ⟨rfl, rfl⟩))
      go_ret
      exact did_of HP.out HH.out HA.out hn2.out hF2.out ht2.out
    · have HS := hid (send_no p N F x.a x.b x.text _ HN.out (by omega))
      have HP := hid (show N.act x = (N, 3) by unfold NetM.act; rw [if_pos k0, if_neg hr])
      clear hr k0
      go_enter Tryd.func18, Tryd.ntmps18
      go_wp2_with (first
        | (go_at_call 29; refine HS.out.mono ?_; rintro e w2 ⟨ev, rfl, he2, ht2⟩; replace ht2 := hid ht2; have HC2 := hid (err_code _ _ he2 (HE.out.keep ht2.out (by simp)) ht2.out); clear he2)
        | (go_at_call 16; refine HC2.out.mono ?_; rintro e w3 ⟨rfl, ht3⟩; replace ht3 := hid ht3))
      go_ret
      exact did_no HP.out HH.out HA.out ht3.out
  · have k0b : (x.kind == 0) = false := by simpa using k0
    rcases hp : N.pos x.a with _ | l
    · have ho : x.a < 0 ∨ N.flying.length ≤ x.a := by
        unfold NetM.pos at hp
        split at hp
        · right; have := List.getElem?_eq_none_iff.1 hp; omega
        · left; omega
      have HP := hid (show N.act x = (N, 3) by unfold NetM.act; rw [if_neg k0, hp])
      clear hp
      by_cases k1 : x.kind = 1
      · have k1b : (x.kind == 1) = true := by simpa using k1
        have HS := hid (double_no p N F x.a _ HN.out ho)
        clear ho k0 k1
        go_enter Tryd.func18, Tryd.ntmps18
        go_wp2_with (first
          | (go_at_call 25; refine HS.out.mono ?_; rintro e w2 ⟨ev, rfl, he2, ht2⟩; replace ht2 := hid ht2; have HC2 := hid (err_code _ _ he2 (HE.out.keep ht2.out (by simp)) ht2.out); clear he2)
          | (go_at_call 16; refine HC2.out.mono ?_; rintro e w3 ⟨rfl, ht3⟩; replace ht3 := hid ht3))
        go_ret
        exact did_no HP.out HH.out HA.out ht3.out
      · have k1b : (x.kind == 1) = false := by simpa using k1
        have HS := hid (deliver_no p N F x.a _ HN.out ho)
        clear ho k0 k1
        go_enter Tryd.func18, Tryd.ntmps18
        go_wp2_with (first
          | (go_at_call 26; refine HS.out.mono ?_; rintro e w2 ⟨ev, rfl, he2, ht2⟩; replace ht2 := hid ht2; have HC2 := hid (err_code _ _ he2 (HE.out.keep ht2.out (by simp)) ht2.out); clear he2)
          | (go_at_call 16; refine HC2.out.mono ?_; rintro e w3 ⟨rfl, ht3⟩; replace ht3 := hid ht3))
        go_ret
        exact did_no HP.out HH.out HA.out ht3.out
    · have ho : 0 ≤ x.a ∧ N.flying[x.a.toNat]? = some l := by
        unfold NetM.pos at hp
        split at hp
        · rename_i h0; exact ⟨h0, hp⟩
        · cases hp
      have ea : ((x.a.toNat : Nat) : Int) = x.a := Int.toNat_of_nonneg ho.1
      by_cases k1 : x.kind = 1
      · have k1b : (x.kind == 1) = true := by simpa using k1
        have hS := double_ok p N F x.a.toNat l _ HN.out ho.2 (by have := HB.out.fly; have := HC.out; omega)
        rw [ea] at hS
        have HS := hid hS
        have HP := hid (show N.act x = (N.double l, 0) by unfold NetM.act; rw [if_neg k0, hp]; simp [k1])
        clear ho k0 k1 hp ea hS
        go_enter Tryd.func18, Tryd.ntmps18
        go_wp2_with (first
          | (go_at_call 25; refine HS.out.mono ?_; rintro e w2 ⟨rfl, F', hn2, hF2, ht2⟩; replace hn2 := hid hn2; replace hF2 := hid hF2; replace ht2 := hid ht2)
          | (go_at_call 16; refine (code_nil _).mono ?_; rintro e w' ⟨rfl, rfl⟩))
        go_ret
        exact did_of HP.out HH.out HA.out hn2.out hF2.out ht2.out
      · have k1b : (x.kind == 1) = false := by simpa using k1
        have hS := deliver_ok p N F x.a.toNat l _ HN.out ho.2 (by have := HB.out.fly; have := HC.out; omega)
        rw [ea] at hS
        have HS := hid hS
        have HP := hid (show N.act x = (N.deliver x.a.toNat l, 0) by unfold NetM.act; rw [if_neg k0, hp]; simp [k1])
        clear ho k0 k1 hp ea hS
        go_enter Tryd.func18, Tryd.ntmps18
        go_wp2_with (first
          | (go_at_call 26; refine HS.out.mono ?_; rintro e w2 ⟨rfl, hn2, ht2⟩; replace hn2 := hid hn2; replace ht2 := hid ht2)
          | (go_at_call 16; refine (code_nil _).mono ?_; rintro e w' ⟨rfl, rfl⟩))
        go_ret
        exact did_of HP.out HH.out HA.out hn2.out (fun y hy => .inl hy) ht2.out
end Go.Proofs.YtlpjdngjmknniaaDoor
