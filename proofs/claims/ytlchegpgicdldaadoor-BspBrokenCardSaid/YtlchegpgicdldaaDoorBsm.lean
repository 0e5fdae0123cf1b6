/- slices.Clone at texts; slices.Index, Contains at bools; the machine, owned: back, has. -/
import Derived.Test.YtlchegpgicdldaaDoorBsq
import Derived.Test.YtlchegpgicdldaaDoorInv
import Derived.Test.YtlchegpgicdldaaDoorFsu
namespace Go.Proofs.YtlchegpgicdldaaDoor
open Go.Sx Go.RowKit Go.Reg

set_option maxRecDepth 100000
def dTs (l : List ByteArray) : Da := .list 1 (l.map dTx)
def pl_scl : List (Nat × Plan) := []
def G_scl : List FuncId := []
theorem cok_scl : codeOk Tryd.prog G_scl pl_scl (Tryd.f29.body.getD .skip) = true := by kernel_rfl
theorem run_scl (vs : Array Value) (w : World) : (callFunc 29 vs).run C1.P w = .ok (.enter 29 vs) w := by kernel_rfl
theorem sclone_sl (l : List ByteArray) (hl : l.length ≤ 2000000000) : MakeSl C1 29 [dTs l] 9 1 (fun ds => ds = l.map dTx) := by
  have hlm : (l.map dTx).length = l.length := List.length_map _
  refine mksl_of c1_ok (pl := pl_scl) (G := G_scl) Tryd.func29 rfl Tryd.ntmps29 run_scl cok_scl (by simp) ?_
  cases l with
  | nil =>
    ((conv => whnf); repeat' ((first | refine odw ?_ | refine ify ?_ | refine ifn ?_ | refine i6 ?_ | refine ati ?_ | refine mst ?_ | refine rmd ?_ | refine ibo (fun _ => ?_) (fun _ => ?_)) <;> conv => whnf))
    refine op_nilE rfl Tryd.underlying22 rfl rfl (.inr rfl) rfl ?_
    intro b
    cases b <;> ((conv => whnf); repeat' ((first | refine odw ?_ | refine ify ?_ | refine ifn ?_ | refine i6 ?_ | refine ati ?_ | refine mst ?_ | refine rmd ?_ | refine ibo (fun _ => ?_) (fun _ => ?_)) <;> conv => whnf))
    · exact ⟨rfl, rfl, rfl⟩
    · exact rfl
  | cons x l =>
    have hlm2 : (([] : List Da).length + ((x :: l).map dTx).length) ≤ 4294967296 := by rw [hlm]; simp at hl ⊢; omega
    ((conv => whnf); repeat' ((first | refine odw ?_ | refine ify ?_ | refine ifn ?_ | refine i6 ?_ | refine ati ?_ | refine mst ?_ | refine rmd ?_ | refine ibo (fun _ => ?_) (fun _ => ?_)) <;> conv => whnf))
    all_goals first | exact ⟨rfl, rfl, rfl⟩ | (refine most_ok hlm2 ?_; ((conv => whnf); repeat' ((first | refine odw ?_ | refine ify ?_ | refine ifn ?_ | refine i6 ?_ | refine ati ?_ | refine mst ?_ | refine rmd ?_ | refine ibo (fun _ => ?_) (fun _ => ?_)) <;> conv => whnf)); exact ⟨rfl, rfl, by simp⟩)
theorem sclone_pure (l : List ByteArray) (hl : l.length ≤ 2000000000) : Pure C1 29 [dTs l] (fun y => y = dTs l) := by
  have hlm : (l.map dTx).length = l.length := List.length_map _
  cases l with
  | nil =>
    have hn : Pure C1 29 [dTs []] (fun y => y = .nils ∨ y = dTs []) := by
      refine pure_of c1_ok (pl := pl_scl) (G := G_scl) Tryd.func29 rfl Tryd.ntmps29 run_scl cok_scl (by simp) ?_
      ((conv => whnf); repeat' ((first | refine odw ?_ | refine ify ?_ | refine ifn ?_ | refine i6 ?_ | refine ati ?_ | refine mst ?_ | refine rmd ?_ | refine ibo (fun _ => ?_) (fun _ => ?_)) <;> conv => whnf))
      refine op_nilE rfl Tryd.underlying22 rfl rfl (.inr rfl) rfl ?_
      intro b
      cases b with
      | true =>
        ((conv => whnf); repeat' ((first | refine odw ?_ | refine ify ?_ | refine ifn ?_ | refine i6 ?_ | refine ati ?_ | refine mst ?_ | refine rmd ?_ | refine ibo (fun _ => ?_) (fun _ => ?_)) <;> conv => whnf))
        first | exact .inl rfl | exact .inr rfl
      | false =>
        ((conv => whnf); repeat' ((first | refine odw ?_ | refine ify ?_ | refine ifn ?_ | refine i6 ?_ | refine ati ?_ | refine mst ?_ | refine rmd ?_ | refine ibo (fun _ => ?_) (fun _ => ?_)) <;> conv => whnf))
        first | exact .inl rfl | exact .inr rfl
    intro O w us hO hg hr
    obtain ⟨g1, g2⟩ := hn O w us hO hg hr
    refine ⟨g1, g2.mono ?_⟩
    rintro e w' ⟨u, y, he, hy, ⟨cs, hr1, hr2⟩, ht⟩
    rcases hy with rfl | rfl
    · exact ⟨u, _, he, rfl, ⟨cs, RepC.lax (.nils 1) hr1, by rw [hr2]; exact laxA_toV (.nils 1) cs⟩, ht⟩
    · exact ⟨u, _, he, rfl, ⟨cs, hr1, hr2⟩, ht⟩
  | cons x l =>
    have hlm2 : (([] : List Da).length + ((x :: l).map dTx).length) ≤ 4294967296 := by rw [hlm]; simp at hl ⊢; omega
    refine pure_of c1_ok (pl := pl_scl) (G := G_scl) Tryd.func29 rfl Tryd.ntmps29 run_scl cok_scl (by simp) ?_
    ((conv => whnf); repeat' ((first | refine odw ?_ | refine ify ?_ | refine ifn ?_ | refine i6 ?_ | refine ati ?_ | refine mst ?_ | refine rmd ?_ | refine ibo (fun _ => ?_) (fun _ => ?_)) <;> conv => whnf))
    all_goals first | exact rfl | (refine most_ok hlm2 ?_; ((conv => whnf); repeat' ((first | refine odw ?_ | refine ify ?_ | refine ifn ?_ | refine i6 ?_ | refine ati ?_ | refine mst ?_ | refine rmd ?_ | refine ibo (fun _ => ?_) (fun _ => ?_)) <;> conv => whnf)); exact rfl)
def dB (b : Bool) : Da := .bool b
def pl_bidx : List (Nat × Plan) := []
def G_bidx : List FuncId := []
theorem cok_bidx : codeOk Tryd.prog G_bidx pl_bidx (Tryd.f50.body.getD .skip) = true := by kernel_rfl
theorem run_bidx (vs : Array Value) (w : World) : (callFunc 50 vs).run C1.P w = .ok (.enter 50 vs) w := by kernel_rfl
theorem bindex_pure (l : List Bool) (hl : l.length ≤ 2000000000) : Pure C1 50 [.list 1 (l.map dB), .bool false] (fun y => ∃ n : Int, y = .int .i64 n ∧ (0 ≤ n ↔ false ∈ l)) := by
  have hlm : (l.map dB).length = l.length := List.length_map _
  refine pure_of c1_ok (pl := pl_bidx) (G := G_bidx) Tryd.func50 rfl Tryd.ntmps50 run_bidx cok_bidx (by simp) ?_
  ((conv => whnf); repeat' ((first | refine odw ?_ | refine ify ?_ | refine ifn ?_ | refine i6 ?_ | refine ati ?_ | refine mst ?_ | refine rmd ?_ | refine ibo (fun _ => ?_) (fun _ => ?_)) <;> conv => whnf))
  refine loop_lo (ι := Nat) (fun i => i ≤ l.length ∧ false ∉ l.take i) (fun i => [(8, .d (.int .i64 i)), (7, .d (.int .i64 (l.map dB).length)), (1, .d (.bool false)), (0, .d (.list 1 (l.map dB)))]) (fun _ => []) (fun i => l.length - i) 0 (fun _ => rfl) ⟨Nat.zero_le _, by simp⟩ (.refl _ _) ⟨rfl, rfl, rfl, rfl, trivial⟩ trivial ?_
  rintro i ⟨hi, hne⟩
  refine sxCode_sound c1_ok (G := G_bidx) (pl := pl_bidx) _ _ _ _ (by kernel_rfl) ?_
  by_cases hlt : i < l.length
  · have hx := List.getElem?_eq_getElem hlt
    have hmem := List.getElem_mem hlt
    generalize l[i] = y at hx hmem
    cases y with
    | false =>
      have hxd : (l.map dB)[i]? = some (.bool false) := by rw [List.getElem?_map, hx]; rfl
      (conv => whnf)
      (repeat' ((first | refine ord_ok (by (conv => whnf); (repeat' ((first | refine at_da hxd rfl ?_ | refine if_yes (by decide) ?_ | refine ify ?_ | refine ifn ?_ | refine i6 ?_ | refine ati ?_ | refine mst ?_ | refine rmd ?_ | refine ibo (fun _ => ?_) (fun _ => ?_)) <;> conv => whnf)); (all_goals (repeat' (first | exact trivial | exact rfl | refine And.intro ?_ ?_)))) ?_ | refine at_da hxd rfl ?_ | refine if_yes (by decide) ?_ | refine ify ?_ | refine ifn ?_ | refine i6 ?_ | refine ati ?_ | refine mst ?_ | refine rmd ?_ | refine ibo (fun _ => ?_) (fun _ => ?_)) <;> conv => whnf))
      exact ⟨_, rfl, by constructor <;> intro _ <;> first | exact hmem | omega⟩
    | true =>
      have hxd : (l.map dB)[i]? = some (.bool true) := by rw [List.getElem?_map, hx]; rfl
      (conv => whnf)
      (repeat' ((first | refine ord_ok (by (conv => whnf); (repeat' ((first | refine at_da hxd rfl ?_ | refine if_no (by decide) ?_ | refine ify ?_ | refine ifn ?_ | refine i6 ?_ | refine ati ?_ | refine mst ?_ | refine rmd ?_ | refine ibo (fun _ => ?_) (fun _ => ?_)) <;> conv => whnf)); (all_goals (repeat' (first | exact trivial | exact rfl | refine And.intro ?_ ?_)))) ?_ | refine at_da hxd rfl ?_ | refine if_no (by decide) ?_ | refine ify ?_ | refine ifn ?_ | refine i6 ?_ | refine ati ?_ | refine mst ?_ | refine rmd ?_ | refine ibo (fun _ => ?_) (fun _ => ?_)) <;> conv => whnf))
      refine ⟨i + 1, _, _, ⟨hlt, ?_⟩, .refl _ _, ⟨rfl, rfl, rfl, rfl, trivial⟩, trivial, by omega⟩
      intro hz
      rw [List.take_add_one, hx] at hz
      rcases List.mem_append.1 hz with hz | hz
      · exact hne hz
      · simp at hz
  · have hii : l.take i = l := List.take_of_length_le (by omega)
    rw [hii] at hne
    ((conv => whnf); repeat' ((first | refine odw ?_ | refine ify ?_ | refine ifn ?_ | refine i6 ?_ | refine ati ?_ | refine mst ?_ | refine rmd ?_ | refine ibo (fun _ => ?_) (fun _ => ?_)) <;> conv => whnf))
    exact ⟨_, rfl, by constructor <;> intro h <;> first | exact absurd h hne | (exfalso; revert h; decide)⟩
theorem bcontains_pure (l : List Bool) (hl : l.length ≤ 2000000000) : Pure C1 36 [.list 1 (l.map dB), .bool false] (fun y => y = .bool (decide (false ∈ l))) := by
  refine pure_of c1_ok (pl := []) (G := []) Tryd.func36 rfl Tryd.ntmps36 (by intro vs w; kernel_rfl) (by kernel_rfl) (by simp) ?_
  ((conv => whnf); repeat' ((first | refine odw ?_ | refine ify ?_ | refine ifn ?_ | refine i6 ?_ | refine ati ?_ | refine mst ?_ | refine rmd ?_ | refine ibo (fun _ => ?_) (fun _ => ?_)) <;> conv => whnf))
  refine call_pure rfl (bindex_pure l hl) ?_
  rintro y ⟨n, rfl, hn⟩
  by_cases h : false ∈ l
  · have := hn.2 h
    ((conv => whnf); repeat' ((first | refine odw ?_ | refine ify ?_ | refine ifn ?_ | refine i6 ?_ | refine ati ?_ | refine mst ?_ | refine rmd ?_ | refine ibo (fun _ => ?_) (fun _ => ?_)) <;> conv => whnf))
    show Da.plain _ = _
    simp [Da.plain, h, this]
  · have : ¬ 0 ≤ n := fun hh => h (hn.1 hh)
    ((conv => whnf); repeat' ((first | refine odw ?_ | refine ify ?_ | refine ifn ?_ | refine i6 ?_ | refine ati ?_ | refine mst ?_ | refine rmd ?_ | refine ibo (fun _ => ?_) (fun _ => ?_)) <;> conv => whnf))
    show Da.plain _ = _
    simp only [Da.plain, h]
    simp [this]
end Go.Proofs.YtlchegpgicdldaaDoor
