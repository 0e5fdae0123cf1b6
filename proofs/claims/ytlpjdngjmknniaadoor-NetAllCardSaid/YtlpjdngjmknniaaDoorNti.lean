/- far: are calls more than are looked at? -/
import Derived.Test.YtlpjdngjmknniaaDoorNth
import Derived.Test.YtlpjdngjmknniaaDoorArg
namespace Go.Proofs.YtlpjdngjmknniaaDoor
open Go.RowKit Go.Reg

theorem w64 {n : Int} (h : -9223372036854775808 ≤ n ∧ n ≤ 9223372036854775807) : wrap64 n = n := by unfold wrap64; omega

def bad (x : ActM) : Bool := decide (x.kind < 0) || decide (2 < x.kind) || decide (100 < x.text.size)
def farM (l : List ActM) : Bool := l.any bad || decide (60 < l.length)

theorem far_true {l : List ActM} {i : Nat} {x : ActM} (h : l[i]? = some x) (hb : bad x = true) : farM l = true := by
  simp only [farM, Bool.or_eq_true, List.any_eq_true]
  exact .inl ⟨x, List.mem_of_getElem? h, hb⟩

set_option maxRecDepth 100000 in
theorem far_ok (v : Value) (l : List ActM) (w : World) (h : ArgSl 4 encA w v l) :
    Calls Tryd.prog 14 #[v] w fun e w' => e = .returned (.bool (farM l)) ∧ Tch [] w w' := by
  obtain ⟨a, c, rfl, hm, hc⟩ := h
  have HC := hid hc
  have HM := hid hm
  clear hc hm
  go_enter Tryd.func14, Tryd.ntmps14
  go_wp2_with fail
  go_loopg [3] l.length (fun g s3 wr => Hid (∃ i : Nat, s3 = .int .i64 i ∧ g = l.length - i ∧ i ≤ l.length ∧ Tch [] w wr ∧ (l.take i).any bad = false))
  case atStart => exact hid ⟨0, rfl, rfl, Nat.zero_le _, Tch.refl _ _, by simp⟩
  case round =>
    obtain ⟨i, rfl, rfl, hi, ht, hb⟩ := hrel.out
    clear hrel
    by_cases hlt : i < l.length
    · have hx : l[i]? = some l[i] := List.getElem?_eq_getElem hlt
      obtain ⟨b, o, rfl, hcell⟩ := HC.out i _ hx
      have c0 := tch_cellA ht (hcell 0 _ rfl)
      have c3 := tch_cellA ht (hcell 3 _ rfl)
      rw [Nat.add_zero] at c0
      have hlt' : decide ((i : Int) < (l.length : Int)) = true := by simpa using hlt
      have HT := hid ht
      have HB := hid hb
      have HX := hid hx
      have HI := hid hi
      have hL := HM.out
      clear hcell ht hb hx hi
      generalize l[i] = x at c0 c3 HX
      by_cases g1 : x.kind < 0
      · have hf := hid (far_true HX.out (by simp [bad, g1]))
        go_wp2_with fail
        go_ret
        rw [hf.out]
        exact ⟨rfl, HT.out⟩
      · by_cases g2 : 2 < x.kind
        · have hf := hid (far_true HX.out (by simp [bad, g2]))
          go_wp2_with fail
          go_ret
          rw [hf.out]
          exact ⟨rfl, HT.out⟩
        · by_cases g3 : (100 : Int) < x.text.size
          · have hf := hid (far_true HX.out (by simp [bad]; omega))
            go_wp2_with fail
            go_ret
            rw [hf.out]
            exact ⟨rfl, HT.out⟩
          · have hf := hid (show bad x = false by simp [bad]; omega)
            go_wp2_with fail
            go_roundg (l.length - (i + 1))
            case measure => omega
            case rel =>
              refine hid ⟨i + 1, by simp only [maxLen] at hL; rw [w64 (by omega)]; simp, rfl, by omega, HT.out, ?_⟩
              rw [List.take_add_one, HX.out]
              simp [List.any_append, HB.out, hf.out]
    · have hlt' : decide ((i : Int) < (l.length : Int)) = false := by simpa using hlt
      have he : i = l.length := by omega
      subst he
      have HT := hid ht
      have HB := hid hb
      clear ht hb hi hlt
      go_wp2_with fail
      go_ret
      have e1 : farM l = decide ((60 : Int) < l.length) := by
        have := HB.out
        rw [List.take_length] at this
        simp only [farM, this, Bool.false_or, decide_eq_decide]
        omega
      rw [e1]
      exact ⟨by simp, HT.out⟩
end Go.Proofs.YtlpjdngjmknniaaDoor
