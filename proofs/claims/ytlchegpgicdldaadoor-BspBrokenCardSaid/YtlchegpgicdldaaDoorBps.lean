/- The machine: Pass, Flying. -/
import Derived.Test.YtlchegpgicdldaaDoorBsw
import Derived.Test.YtlchegpgicdldaaDoorNst
import Derived.Test.YtlchegpgicdldaaDoorBpl
namespace Go.Proofs.YtlchegpgicdldaaDoor
open Go.Sx Go.RowKit Go.Reg

set_option maxRecDepth 100000
/-- a machine whose next states stand in the place of its states too -/
def sA (M : Mach) (old : List ByteArray) : Sg := [(900, .cells 68 [.d (.iface M.jt M.jx), .d (.int .i64 M.round), .own 901, .own 902, .own 901, .own 904, .own 905]),
  (903, .slice 9 1 (old.map dTx)), (902, .slice 22 1 (M.inbox.map dTs)), (901, .slice 9 1 (M.states.map dTx)), (904, .slice 4 1 (M.worked.map dB)), (905, (netO M.net).own)]
theorem mback_al (M : Mach) (old : List ByteArray) (h : M.states.length ≤ 1000) : RecCall C1 30 [.own 900] (sA M old) [900] (fun d σ => d = .d (.tuple []) ∧ σ = sM M.back) := by
  have hlm : (M.states.map dTx).length = M.states.length := List.length_map _
  refine rec_of c1_ok (pl := pl_mback) (G := G_mback) Tryd.func30 rfl Tryd.ntmps30 run_mback cok_mback (by simp) 999 rfl ?_
  intro vs
  (conv => whnf)
  (repeat' ((first | refine ord_ok (by (conv => whnf); (repeat' ((first | refine mk_ok M.states.length (by omega) (by omega) (by omega) ?_ | refine ify ?_ | refine ifn ?_ | refine i6 ?_ | refine ati ?_ | refine mst ?_ | refine rmd ?_ | refine ibo (fun _ => ?_) (fun _ => ?_)) <;> conv => whnf)); (all_goals (repeat' (first | exact trivial | exact rfl | refine And.intro ?_ ?_)))) ?_ | refine mk_ok M.states.length (by omega) (by omega) (by omega) ?_ | refine ify ?_ | refine ifn ?_ | refine i6 ?_ | refine ati ?_ | refine mst ?_ | refine rmd ?_ | refine ibo (fun _ => ?_) (fun _ => ?_)) <;> conv => whnf))
  refine call_from 906 rfl rfl rfl (next_obj M.net) ?_
  rintro r y rfl
  ((conv => whnf); repeat' ((first | refine odw ?_ | refine ify ?_ | refine ifn ?_ | refine i6 ?_ | refine ati ?_ | refine mst ?_ | refine rmd ?_ | refine ibo (fun _ => ?_) (fun _ => ?_)) <;> conv => whnf))
  have e1 : (List.replicate M.states.length (⟨#[]⟩ : ByteArray)).map dTx = List.replicate M.states.length (.str ⟨#[]⟩) := List.map_replicate
  have e2 : (List.replicate M.states.length false).map dB = List.replicate M.states.length (.bool false) := List.map_replicate
  refine ⟨_, _, [(9, 903), (15, 904), (906, 905)], [(900, _), (901, _), (902, _), (9, _), (15, _), (906, _)], .lo (.refl _ _), rfl, ⟨rfl, rfl, rfl, rfl, rfl, rfl, trivial⟩, rfl, rfl, ?_⟩
  simp only [sM, Mach.back, e1, e2]
  rfl
/-- the inboxes behind w workers' turns -/
def bsJ (n : Nat) (bs : List (List ByteArray)) (w : Nat) : List Bx := (List.range n).map fun v : Nat => if v < w then .box (bs.getD v []) else .junk
theorem bsJ_len (n : Nat) (bs : List (List ByteArray)) (w : Nat) : (bsJ n bs w).length = n := by simp [bsJ]
theorem bsJ_zero (n : Nat) (bs : List (List ByteArray)) : bsJ n bs 0 = List.replicate n .junk := by
  apply List.ext_getElem?
  intro k
  unfold bsJ
  rw [List.getElem?_replicate, List.getElem?_map]
  by_cases h : k < n
  · rw [List.getElem?_range h, if_pos h]; rfl
  · rw [List.getElem?_eq_none (by simp; omega), if_neg h]; rfl
theorem bsJ_step {n : Nat} {bs : List (List ByteArray)} {w : Nat} {l : List ByteArray} (h : bs[w]? = some l) : (bsJ n bs w).set w (.box l) = bsJ n bs (w + 1) := by
  apply List.ext_getElem?
  intro k
  rw [List.getElem?_set, bsJ_len]
  unfold bsJ
  rw [List.getElem?_map, List.getElem?_map]
  by_cases hk : k < n
  · rw [List.getElem?_range hk]
    by_cases e : w = k
    · subst e
      rw [if_pos rfl, if_pos hk]
      simp only [Option.map_some, List.getD_eq_getElem?_getD, h, Option.getD_some]
      rw [if_pos (by omega)]
    · rw [if_neg e]
      simp only [Option.map_some]
      by_cases h2 : k < w
      · rw [if_pos h2, if_pos (by omega)]
      · rw [if_neg h2, if_neg (by omega)]
  · have e0 : (List.range n)[k]? = none := List.getElem?_eq_none (by simp; omega)
    rw [e0]
    by_cases e : w = k
    · rw [if_pos e, if_neg (by omega)]; rfl
    · rw [if_neg e]; rfl
theorem bsJ_end {n : Nat} {bs : List (List ByteArray)} (h : bs.length = n) : bsJ n bs n = bs.map .box := by
  apply List.ext_getElem?
  intro k
  unfold bsJ
  rw [List.getElem?_map, List.getElem?_map]
  by_cases hk : k < n
  · rw [List.getElem?_range hk, List.getElem?_eq_getElem (show k < bs.length by omega)]
    simp only [Option.map_some, if_pos hk, List.getD_eq_getElem?_getD, List.getElem?_eq_getElem (show k < bs.length by omega), Option.getD_some]
  · rw [List.getElem?_eq_none (show (List.range n).length ≤ k by simp; omega), List.getElem?_eq_none (show bs.length ≤ k by omega)]; rfl
def lettersS : ByteArray := ⟨#[108, 101, 116, 116, 101, 114, 115]⟩
def pl_mpas : List (Nat × Plan) := [(14, .split 3 15 (.leaf [0, 0, 0, 1, 0, 0, 0, 0, 1, 0, 0, 1, 0, 1, 6, 3, 0, 3] [0, 1, 2, 4, 5, 6, 7, 9, 12, 3, 8, 10, 11, 13, 14, 15, 16, 17] [0, 1, 3, 7, 0, 0, 32, 96, 224, 0, 992, 2016, 0, 4096, 12288, 32751, 65535, 131071]) (.leaf [0, 0, 0, 1, 0, 0, 0, 0, 1, 0, 0, 1, 0, 1, 6, 3, 0, 3] [0, 1, 2, 4, 5, 6, 7, 9, 12, 8, 10, 11, 13, 14, 15, 3, 16, 17] [0, 1, 3, 65511, 0, 0, 32, 96, 224, 0, 992, 2016, 0, 4096, 12288, 32736, 65535, 131071]))]
def G_mpas : List FuncId := [36]
theorem cok_mpas : codeOk Tryd.prog G_mpas pl_mpas (Tryd.f18.body.getD .skip) = true := by kernel_rfl
theorem run_mpas (vs : Array Value) (w : World) : (callFunc 18 vs).run C1.P w = .ok (.enter 18 vs) w := by kernel_rfl
theorem mpass_wk (M : Mach) (hw : false ∈ M.worked) (hl : M.worked.length ≤ 1000) : RecCall C1 18 [.own 900] (sM M) [900] (fun d σ => d = .d (dF 5 0 workerS) ∧ σ = sM M) := by
  have hbc := bcontains_pure M.worked (by omega)
  have hd : decide (false ∈ M.worked) = true := decide_eq_true hw
  rw [hd] at hbc
  refine rec_of c1_ok (pl := pl_mpas) (G := G_mpas) Tryd.func18 rfl Tryd.ntmps18 run_mpas cok_mpas (by simp) 999 rfl ?_
  intro vs
  (conv => whnf)
  (repeat' ((first | refine ord_ok (by (conv => whnf); (repeat' ((first | refine call_eqb tab rfl hbc rfl ?_ | refine call_eq rfl (fnew_pure 5 0 workerS) ?_ | refine ify ?_ | refine ifn ?_ | refine i6 ?_ | refine ati ?_ | refine mst ?_ | refine rmd ?_ | refine ibo (fun _ => ?_) (fun _ => ?_)) <;> conv => whnf)); (all_goals (repeat' (first | exact trivial | exact rfl | refine And.intro ?_ ?_)))) ?_ | refine call_eqb tab rfl hbc rfl ?_ | refine call_eq rfl (fnew_pure 5 0 workerS) ?_ | refine ify ?_ | refine ifn ?_ | refine i6 ?_ | refine ati ?_ | refine mst ?_ | refine rmd ?_ | refine ibo (fun _ => ?_) (fun _ => ?_)) <;> conv => whnf))
  exact ⟨_, _, [], sM M, .lo (.refl _ _), rfl, ⟨rfl, rfl, rfl, rfl, rfl, rfl, trivial⟩, rfl, rfl, rfl⟩
theorem mpass_fly (M : Mach) (hw : false ∉ M.worked) (hl : M.worked.length ≤ 1000) {B : Nat} (hok : NetOk B M.net) (hB : B ≤ 4294967296) (h0 : Go.Proofs.YtlchegpgicdldaaDoor.M M.net ≠ 0) : RecCall C1 18 [.own 900] (sM M) [900] (fun d σ => d = .d (dF 13 (Go.Proofs.YtlchegpgicdldaaDoor.M M.net) lettersS) ∧ σ = sM M) := by
  have hbc := bcontains_pure M.worked (by omega)
  have hd : decide (false ∈ M.worked) = false := decide_eq_false hw
  rw [hd] at hbc
  have hq := quiet_obj M.net hok hB
  rw [show (Go.Proofs.YtlchegpgicdldaaDoor.M M.net == 0) = false from by simpa using h0] at hq
  have hmi := missing_obj M.net hok hB
  refine rec_of c1_ok (pl := pl_mpas) (G := G_mpas) Tryd.func18 rfl Tryd.ntmps18 run_mpas cok_mpas (by simp) 999 rfl ?_
  intro vs
  (conv => whnf)
  (repeat' ((first | refine ord_ok (by (conv => whnf); (repeat' ((first | refine call_eqb tab rfl hbc rfl ?_ | refine call_lookq rfl rfl hq ?_ | refine call_lookq rfl rfl hmi ?_ | refine call_eq rfl (fnew_pure 13 (Go.Proofs.YtlchegpgicdldaaDoor.M M.net) lettersS) ?_ | refine ify ?_ | refine ifn ?_ | refine i6 ?_ | refine ati ?_ | refine mst ?_ | refine rmd ?_ | refine ibo (fun _ => ?_) (fun _ => ?_)) <;> conv => whnf)); (all_goals (repeat' (first | exact trivial | exact rfl | refine And.intro ?_ ?_)))) ?_ | refine call_eqb tab rfl hbc rfl ?_ | refine call_lookq rfl rfl hq ?_ | refine call_lookq rfl rfl hmi ?_ | refine call_eq rfl (fnew_pure 13 (Go.Proofs.YtlchegpgicdldaaDoor.M M.net) lettersS) ?_ | refine ify ?_ | refine ifn ?_ | refine i6 ?_ | refine ati ?_ | refine mst ?_ | refine rmd ?_ | refine ibo (fun _ => ?_) (fun _ => ?_)) <;> conv => whnf))
  exact ⟨_, _, [], sM M, .lo (.refl _ _), rfl, ⟨rfl, rfl, rfl, rfl, rfl, rfl, trivial⟩, rfl, rfl, rfl⟩
theorem mpass_ok (M : Mach) (hw : false ∉ M.worked) (hl : M.worked.length ≤ 1000) {B : Nat} (hok : NetOk B M.net) (hB : B ≤ 4294967296) (h0 : Go.Proofs.YtlchegpgicdldaaDoor.M M.net = 0) (hin : M.inbox.length ≤ 1000) (hnx : M.next.length ≤ 1000) (hrd : 0 ≤ M.round ∧ M.round ≤ 4294967296) (bs : List (List ByteArray)) (hbl : bs.length = M.inbox.length)
    (hbs : ∀ (v : Nat) (out : List Letter), v < M.inbox.length → out.Perm (pick v M.net.came) → out.Pairwise (fun a b => ¬ cmpL b a < 0) → bs[v]? = some (out.map (·.text))) :
    RecCall C1 18 [.own 900] (sM M) [900] (fun d σ => d = .d .nili ∧ σ = sM (M.pass bs)) := by
  have hbc := bcontains_pure M.worked (by omega)
  have hd : decide (false ∈ M.worked) = false := decide_eq_false hw
  rw [hd] at hbc
  have hq := quiet_obj M.net hok hB
  rw [show (Go.Proofs.YtlchegpgicdldaaDoor.M M.net == 0) = true from by simpa using h0] at hq
  have hlm : (M.inbox.map dTs).length = M.inbox.length := List.length_map _
  refine rec_of c1_ok (pl := pl_mpas) (G := G_mpas) Tryd.func18 rfl Tryd.ntmps18 run_mpas cok_mpas (by simp) 999 rfl ?_
  intro vs
  (conv => whnf)
  (repeat' ((first | refine ord_ok (by (conv => whnf); (repeat' ((first | refine call_eqb tab rfl hbc rfl ?_ | refine call_lookq rfl rfl hq ?_ | refine ify ?_ | refine ifn ?_ | refine i6 ?_ | refine ati ?_ | refine mst ?_ | refine rmd ?_ | refine ibo (fun _ => ?_) (fun _ => ?_)) <;> conv => whnf)); (all_goals (repeat' (first | exact trivial | exact rfl | refine And.intro ?_ ?_)))) ?_ | refine call_eqb tab rfl hbc rfl ?_ | refine call_lookq rfl rfl hq ?_ | refine ify ?_ | refine ifn ?_ | refine i6 ?_ | refine ati ?_ | refine mst ?_ | refine rmd ?_ | refine ibo (fun _ => ?_) (fun _ => ?_)) <;> conv => whnf))
  refine code_trf ?_
  refine loop_trf (ι := Nat) (fun w => w ≤ M.inbox.length) (fun w => [(35, .d (.int .i64 (w : Nat))), (34, .d (.int .i64 (M.inbox.map dTs).length)), (0, .own 900)])
    (fun w => [(999, .ghost vs [.own 900]), (900, .cells 68 [.d (.iface M.jt M.jx), .d (.int .i64 M.round), .own 901, .own 902, .own 903, .own 904, .own 905]),
      (901, .slice 9 1 (M.states.map dTx)), (902, (boxJ 22 9 (bsJ M.inbox.length bs w)).own), (903, .slice 9 1 (M.next.map dTx)), (904, .slice 4 1 (M.worked.map dB)), (905, (netO M.net).own)]) (fun w => M.inbox.length - w) 0 (fun _ => rfl) (by omega) (Trf.boxes (E2 := 9) 902 rfl) ⟨rfl, rfl, rfl, trivial⟩ ⟨rfl, rfl, rfl, by rw [bsJ_zero, ← hlm]; rfl, rfl, rfl, rfl, trivial⟩ ?_
  intro w hwl
  refine sxCode_sound c1_ok (G := G_mpas) (pl := pl_mpas) _ _ _ _ (by kernel_rfl) ?_
  by_cases hlt : w < M.inbox.length
  · have hbl2 : w < (bsJ M.inbox.length bs w).length := by rw [bsJ_len]; exact hlt
    (conv => whnf)
    (repeat' ((first | refine ord_ok (by (conv => whnf); (repeat' ((first | refine op_boxAddr c1_ok 902 w rfl rfl rfl rfl rfl rfl rfl rfl rfl hbl2 ⟨by decide, by decide⟩ rfl ?_ | refine op_boxNil c1_ok 902 w rfl rfl rfl rfl rfl rfl hbl2 ⟨by decide, by decide⟩ rfl ?_ | refine ify ?_ | refine ifn ?_ | refine i6 ?_ | refine ati ?_ | refine mst ?_ | refine rmd ?_ | refine ibo (fun _ => ?_) (fun _ => ?_)) <;> conv => whnf)); (all_goals (repeat' (first | exact trivial | exact rfl | refine And.intro ?_ ?_)))) ?_ | refine op_boxAddr c1_ok 902 w rfl rfl rfl rfl rfl rfl rfl rfl rfl hbl2 ⟨by decide, by decide⟩ rfl ?_ | refine op_boxNil c1_ok 902 w rfl rfl rfl rfl rfl rfl hbl2 ⟨by decide, by decide⟩ rfl ?_ | refine ify ?_ | refine ifn ?_ | refine i6 ?_ | refine ati ?_ | refine mst ?_ | refine rmd ?_ | refine ibo (fun _ => ?_) (fun _ => ?_)) <;> conv => whnf))
    refine call_look rfl rfl (inbox_obj M.net w (Nat.le_trans hok.came hB)) ?_
    rintro y ⟨out, rfl, hp, hso⟩
    have hbw := hbs w out hlt hp hso
    have hom : (out.map dL).length = out.length := List.length_map _
    have hol : out.length ≤ 4294967296 := by
      rw [hp.length_eq]
      unfold pick
      rw [List.length_map]
      exact Nat.le_trans (List.length_filter_le _ _) (Nat.le_trans hok.came hB)
    ((conv => whnf); repeat' ((first | refine odw ?_ | refine ify ?_ | refine ifn ?_ | refine i6 ?_ | refine ati ?_ | refine mst ?_ | refine rmd ?_ | refine ibo (fun _ => ?_) (fun _ => ?_)) <;> conv => whnf))
    refine loop_trf (ι := Nat) (fun i => i ≤ out.length) (fun i => [(51, .d (.int .i64 (i : Nat))), (50, .d (.int .i64 (out.map dL).length)), (49, .d (.list 4 (out.map dL))), (3, .d (.int .i64 (w : Nat))), (35, .d (.int .i64 (w : Nat))), (34, .d (.int .i64 (M.inbox.map dTs).length)), (0, .own 900)])
      (fun i => [(999, .ghost vs [.own 900]), (900, .cells 68 [.d (.iface M.jt M.jx), .d (.int .i64 M.round), .own 901, .own 902, .own 903, .own 904, .own 905]),
        (901, .slice 9 1 (M.states.map dTx)), (902, (boxJ 22 9 ((bsJ M.inbox.length bs w).set w (.box ((out.take i).map (·.text))))).own), (903, .slice 9 1 (M.next.map dTx)), (904, .slice 4 1 (M.worked.map dB)), (905, (netO M.net).own)]) (fun i => out.length - i) 0 (fun _ => rfl) (by omega) .refl ⟨rfl, rfl, rfl, rfl, rfl, rfl, rfl, trivial⟩ ⟨rfl, rfl, rfl, rfl, rfl, rfl, rfl, trivial⟩ ?_
    intro i hi
    refine sxCode_sound c1_ok (G := G_mpas) (pl := pl_mpas) _ _ _ _ (by kernel_rfl) ?_
    by_cases hil : i < out.length
    · have hy : out[i]? = some out[i] := List.getElem?_eq_getElem hil
      have htk : (out.take (i + 1)).map (·.text) = (out.take i).map (·.text) ++ [(out[i]).text] := by rw [List.take_add_one, hy, Option.toList_some, List.map_append]; rfl
      generalize out[i] = x at hy htk
      have hyd : (out.map dL)[i]? = some (.agg [.int .i64 x.src, .int .i64 x.dst, .int .i64 x.seq, .str x.text]) := by rw [List.getElem?_map, hy]; rfl
      have hat : ((bsJ M.inbox.length bs w).set w (.box ((out.take i).map (·.text))))[w]? = some (.box ((out.take i).map (·.text))) := by rw [List.getElem?_set, if_pos rfl, if_pos hbl2]
      have hlm2 : (((out.take i).map (·.text)).map dSt).length ≤ 4294967290 + 6 := by rw [List.length_map, List.length_map, List.length_take]; omega
      have hlm3 : (((out.take i).map (·.text)).map dSt).length = i := by rw [List.length_map, List.length_map, List.length_take]; omega
      have hlj : (((out.take i).map (·.text)).map dSt) ++ [.str x.text] = ((out.take i).map (·.text) ++ [x.text]).map dSt := by rw [List.map_append]; rfl
      (conv => whnf)
      (repeat' ((first | refine ord_ok (by (conv => whnf); (repeat' ((first | refine at_da hyd rfl ?_ | refine op_boxAddr c1_ok 902 w rfl rfl rfl rfl rfl rfl rfl rfl rfl (by rw [List.length_set]; exact hbl2) ⟨by decide, by decide⟩ rfl ?_ | refine op_boxAddr c1_ok 902 w rfl rfl rfl rfl rfl rfl rfl rfl rfl (by rw [List.length_set, List.length_set]; exact hbl2) ⟨by decide, by decide⟩ rfl ?_ | refine op_boxLoad c1_ok 902 66 w rfl rfl rfl rfl rfl rfl hat rfl ⟨by decide, by decide⟩ rfl ?_ | refine op_boxStore c1_ok 902 66 w ((out.take i).map (·.text) ++ [x.text]) rfl rfl rfl rfl rfl rfl rfl hlj (by rw [List.length_set, List.length_set]; exact hbl2) ⟨by decide, by decide⟩ rfl ?_ | refine ify ?_ | refine ifn ?_ | refine i6 ?_ | refine ati ?_ | refine mst ?_ | refine rmd ?_ | refine ibo (fun _ => ?_) (fun _ => ?_)) <;> conv => whnf)); (all_goals (repeat' (first | exact trivial | exact rfl | refine And.intro ?_ ?_)))) ?_ | refine at_da hyd rfl ?_ | refine op_boxAddr c1_ok 902 w rfl rfl rfl rfl rfl rfl rfl rfl rfl (by rw [List.length_set]; exact hbl2) ⟨by decide, by decide⟩ rfl ?_ | refine op_boxAddr c1_ok 902 w rfl rfl rfl rfl rfl rfl rfl rfl rfl (by rw [List.length_set, List.length_set]; exact hbl2) ⟨by decide, by decide⟩ rfl ?_ | refine op_boxLoad c1_ok 902 66 w rfl rfl rfl rfl rfl rfl hat rfl ⟨by decide, by decide⟩ rfl ?_ | refine op_boxStore c1_ok 902 66 w ((out.take i).map (·.text) ++ [x.text]) rfl rfl rfl rfl rfl rfl rfl hlj (by rw [List.length_set, List.length_set]; exact hbl2) ⟨by decide, by decide⟩ rfl ?_ | refine ify ?_ | refine ifn ?_ | refine i6 ?_ | refine ati ?_ | refine mst ?_ | refine rmd ?_ | refine ibo (fun _ => ?_) (fun _ => ?_)) <;> conv => whnf))
      rw [List.set_set, List.set_set, ← htk]
      exact ⟨i + 1, _, _, hil, .refl, ⟨rfl, rfl, rfl, rfl, rfl, rfl, rfl, trivial⟩, ⟨rfl, rfl, rfl, rfl, rfl, rfl, rfl, trivial⟩, by omega⟩
    · have hii : out.take i = out := List.take_of_length_le (by omega)
      rw [hii, bsJ_step hbw]
      ((conv => whnf); repeat' ((first | refine odw ?_ | refine ify ?_ | refine ifn ?_ | refine i6 ?_ | refine ati ?_ | refine mst ?_ | refine rmd ?_ | refine ibo (fun _ => ?_) (fun _ => ?_)) <;> conv => whnf))
      exact ⟨w + 1, _, _, hlt, .refl, ⟨rfl, rfl, rfl, trivial⟩, ⟨rfl, rfl, rfl, rfl, rfl, rfl, rfl, trivial⟩, by omega⟩
  · have hww : w = M.inbox.length := by omega
    subst hww
    ((conv => whnf); repeat' ((first | refine odw ?_ | refine ify ?_ | refine ifn ?_ | refine i6 ?_ | refine ati ?_ | refine mst ?_ | refine rmd ?_ | refine ibo (fun _ => ?_) (fun _ => ?_)) <;> conv => whnf))
    refine ⟨_, _, Trf.unbox 902 rfl (bsJ_end hbl), ?_⟩
    (conv => whnf)
    (repeat' ((first | refine ord_ok (by (conv => whnf); (repeat' ((first | refine call_req [(903, 901), (901, 903)] [900, 901, 902, 903, 904, 905] (mback_al { M with states := M.next, inbox := bs, round := M.round + 1 } M.states hnx) rfl rfl rfl rfl rfl rfl rfl ?_ | refine ify ?_ | refine ifn ?_ | refine i6 ?_ | refine ati ?_ | refine mst ?_ | refine rmd ?_ | refine ibo (fun _ => ?_) (fun _ => ?_)) <;> conv => whnf)); (all_goals (repeat' (first | exact trivial | exact rfl | refine And.intro ?_ ?_)))) ?_ | refine call_req [(903, 901), (901, 903)] [900, 901, 902, 903, 904, 905] (mback_al { M with states := M.next, inbox := bs, round := M.round + 1 } M.states hnx) rfl rfl rfl rfl rfl rfl rfl ?_ | refine ify ?_ | refine ifn ?_ | refine i6 ?_ | refine ati ?_ | refine mst ?_ | refine rmd ?_ | refine ibo (fun _ => ?_) (fun _ => ?_)) <;> conv => whnf))
    exact ⟨_, _, [(903, 901), (901, 903)], [(900, _), (903, _), (902, _), (901, _), (904, _), (905, _)], .lo (.refl _ _), rfl, ⟨rfl, rfl, rfl, rfl, rfl, rfl, trivial⟩, rfl, rfl, rfl⟩
end Go.Proofs.YtlchegpgicdldaaDoor
