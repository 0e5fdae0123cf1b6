/- strings.Builder, told for the engine: String, WriteString; a new one. -/
import Derived.Test.YtdbafjjmdgdjgaaDoorScx
import Derived.Lib.FrozenHead
import Derived.Lib.UnsafeStr
import Derived.Laws.Append
namespace Go.Sx
open Go Go.RowKit Go.Reg
section
variable {C : Cx} {T : Tab} {B S : List Nat} {w0 w w' : World} {n kd : Nat} {fr : Fr} {σ : Sg} {η : Nat → Value} {φ : Nat → List Nat} {a : Act}
theorem Models.absn (hM : Models C B S w0 n fr σ η φ a w) {i : Nat} {t : TypeId} {ds : List Dat} (r : Absn) (hg : sget i σ = some (.cells t ds)) (hr : ∀ η I O w v F, (Own.cells t ds).holds η I O w v F → r.R w v F) : Models C B S w0 n fr (sturn id i r.own σ) η φ a w := by
  have hi := mem_ids (sget_mem hg)
  have he : upd φ i (φ i) = φ := by funext j; by_cases e : j = i <;> simp [upd, e]
  have hll := Later.turn (X := []) (w' := w) B (Tch.refl [] w) (by simp) hi (F := φ i) (fun b hb => .inl hb) id r.own
  have := hM.mem.turnSame (X := []) (w' := w) (Tch.refl [] w) (by simp) hi (F := φ i) (fun b hb => .inl hb) (o := r.own) (hr _ _ _ _ _ _ (hM.mem.own _ (sget_mem hg)))
  rw [he] at this hll
  exact ⟨this, hM.fr.later hll (fun j hj => ⟨by rw [ids_sturn]; exact hj, rfl⟩), hM.defers, hM.size⟩
/-- an owned struct is known by a predicate from here on -/
theorem code_absn {c : Code} {K : KE} (i : Nat) (r : Absn) {t : TypeId} {ds : List Dat} (hg : sget i σ = some (.cells t ds)) (hr : ∀ η I O w v F, (Own.cells t ds).holds η I O w v F → r.R w v F) (h : forceS (sturn id i r.own σ) fun σ => CodeSem C n c K fr σ) : CodeSem C n c K fr σ := by
  rw [forceS_eq] at h
  refine codeSem_iff.2 fun B S w0 η φ a w hM => ?_
  exact codeSem_iff.1 h B S w0 η φ a w (hM.absn r hg hr)
end
theorem owns_keep {w w' : World} {S : List Nat} {e : TypeId} {v : Value} {k : Nat} {xs : List Value} (h : w.ownsRowF 0 e 1 v k xs) (t : Tch S w w') (hS : ∀ g, v.ownBlock = some g → g ∉ S) : w'.ownsRowF 0 e 1 v k xs := by
  refine ⟨h.1, ?_⟩
  rcases h.2 with hn | ⟨g, cap, cur, fz, rfl, hb, hgg, rest⟩
  · exact .inl hn
  · exact .inr ⟨g, cap, cur, fz, rfl, hb, by rw [t.blk g (Array.getElem?_eq_some_iff.1 hgg).1 (hS g rfl)]; exact hgg, rest⟩
/-- a thing of which nothing is asked any more -/
def noObj : Absn where
  R _ v F := F = [] ∧ v.oneCell' = true
  keep := by rintro S w w' v F h _ _; exact h
  lt := by rintro w v F ⟨rfl, _⟩ x hx; cases hx
  one := by rintro w v F ⟨_, h⟩; exact h
/-- a strings.Builder (type T; a byte's type is e) that holds the bytes l -/
def bldO (T e : TypeId) (l : List UInt8) : Absn where
  R w v F := ∃ b p sv, v = .pointer (some ⟨b, 0, none⟩) ∧ F = b :: sv.ownBlock.toList ∧ (p = .pointer none ∨ p = .pointer (some ⟨b, 0, none⟩)) ∧ w.heap[b]? = some (.cells #[p, sv] T (0, 0)) ∧ w.ownsRowF 0 e 1 sv l.length (Lib.byteCells l) ∧ (l = [] → sv = .slice none 0 0)
  keep := by
    rintro S w w' v F ⟨b, p, sv, rfl, rfl, h1, h2, h3, h4⟩ t hd
    exact ⟨b, p, sv, rfl, rfl, h1, by rw [t.blk b (Array.getElem?_eq_some_iff.1 h2).1 (hd b (.head _))]; exact h2, owns_keep h3 t (fun g hg => hd g (by simp [hg])), h4⟩
  lt := by
    rintro w v F ⟨b, p, sv, rfl, rfl, h1, h2, h3, h4⟩ x hx
    rcases List.mem_cons.1 hx with rfl | hx
    · exact (Array.getElem?_eq_some_iff.1 h2).1
    · exact (h3.lt x (by simpa using hx)).2
  one := by rintro w v F ⟨b, p, sv, rfl, _⟩; rfl
theorem bld_new {T e : TypeId} {η : Nat → Value} {I O : List Nat} {w : World} {v : Value} {F : List Nat} (h : (Own.cells T [.d .nilp, .d .nils]).holds η I O w v F) : (bldO T e []).R w v F := by
  obtain ⟨b, cs, rfl, rfl, h1, h2⟩ := h
  simp only [RepDs, RepD, RepC] at h2
  obtain ⟨c1, c2, rfl, rfl, c3, c4, rfl, rfl, rfl⟩ := h2
  exact ⟨b, _, _, rfl, rfl, .inl rfl, h1, World.ownsRowF_nil _ _ _ _, fun _ => rfl⟩
/-- 'append(v, s...)': where the new row lies, too -/
theorem run_app {P : Program} (w : World) (t u ty e : TypeId) (i : TypeInfo) (ht : P.underlying t = some (.slice e)) (hu : P.underlying u = some .string) (hi : P.info? e = some i) (hz : i.zero = some (.int .u8 0)) (hsize : i.size = 1) (hby : i.bytes = 1)
    (v : Value) (n : Nat) (xs : List Value) (hown : w.ownsRowF 0 e 1 v n xs) (s : ByteArray) (h63 : n + s.size ≤ maxLen) (hbytes : n + s.size ≤ 140737488355328) :
    ∃ v' w', (Builtin.append_ #[t, u] ty #[v, .string s]).run P w = .ok v' w' ∧ w'.ownsRowF 0 e 1 v' (n + s.size) (xs ++ Lib.strCells s) ∧ w.grownBy w' v.ownBlock ∧ (v' = .slice none 0 0 ↔ v = .slice none 0 0 ∧ s.size = 0) ∧ ∀ g, v'.ownBlock = some g → v.ownBlock = some g ∨ w.heap.size ≤ g := by
  rcases hown.2 with ⟨rfl, rfl⟩ | ⟨g, cap, cur, fz, rfl, hbg, hg, hfz, hnc, hcm, hcs, htake⟩
  · obtain ⟨v', w', h1, h2, h3, h4⟩ := Lib.run_append_own_stringF (P := P) w w.heap.size t u ty e i ht hu hi hz hsize hby (.slice none 0 0) 0 xs ⟨hown.1, .inl ⟨rfl, rfl⟩⟩ s h63 hbytes (Nat.le_refl _)
    refine ⟨v', w', h1, ⟨h2.1, ?_⟩, h3, h4, fun g hg => .inr (h2.lt g hg).1⟩
    rcases h2.2 with hn | ⟨g, cap, cur, fz, h5, _, h6⟩
    · exact .inl hn
    · exact .inr ⟨g, cap, cur, fz, h5, Nat.zero_le _, h6⟩
  · by_cases hroom : n + s.size ≤ cap
    · obtain ⟨v', w', h1, h2, h3, h4⟩ := Lib.run_append_own_stringF (P := P) w 0 t u ty e i ht hu hi hz hsize hby _ n xs hown s h63 hbytes (Nat.zero_le _)
      refine ⟨v', w', h1, h2, h3, h4, fun g' hg' => .inl ?_⟩
      have hcs2 : cur.size = cap := by simpa using hcs
      have hroom2 : n + s.size ≤ cur.size := by omega
      have hr := Lib.run_append_room_stringF (P := P) w t u ty e i ht hu hi hsize g n cap cur fz hg (by simpa using hfz) s hroom hroom2
      rw [hr] at h1
      injection h1 with h1 _
      rw [← h1] at hg'
      exact hg'
    · obtain ⟨v', w', h1, h2, h3, h4⟩ := Lib.run_append_own_stringF (P := P) w 0 t u ty e i ht hu hi hz hsize hby _ n xs hown s h63 hbytes (Nat.zero_le _)
      refine ⟨v', w', h1, h2, h3, h4, fun g' hg' => .inr ?_⟩
      have holds : ∀ j u, xs[j]? = some u → w.cell? ((⟨g, 0, none⟩ : Addr).add j) = some u := hown.cells (g := g) rfl
      have hxl : xs.length = n := by simpa using hown.1
      have hsmall : n + s.size ≤ 9223372036854775807 := by simp only [maxLen] at h63; omega
      have hr := Lib.run_append_grow_string (P := P) w t u ty e i (.int .u8 0) ht hu hi hz ⟨g, 0, none⟩ n cap xs (by rw [hsize]; simpa using hxl) holds s (by omega) (by omega) (by rw [hby]; exact growslice_fits (by omega) (by omega))
      rw [hr] at h1
      injection h1 with h1 _
      rw [← h1] at hg'
      simp only [Value.ownBlock, Option.some.injEq] at hg'
      omega
theorem wp_app {P : Program} {w : World} {ops : Array Oper} {rest : List Oper} {o : Oper} {a : Act} {Q : Exit → Act → World → Prop} (hgd : o.guard = none) (sl x : Operand) (t u : TypeId)
    (ho : o.op = .call { callee := .builtin .append, args := #[sl, x], argTypes := #[t, u] })
    (e : TypeId) (i : TypeInfo) (ht : P.underlying t = some (.slice e)) (hu : P.underlying u = some .string) (hi : P.info? e = some i) (hz : i.zero = some (.int .u8 0))
    (hsize : i.size = 1) (hby : i.bytes = 1)
    (v : Value) (n : Nat) (xs : List Value) (hs : a.eval sl = v) (hown : w.ownsRowF 0 e 1 v n xs) (s : ByteArray) (hx : a.eval x = .string s)
    (h63 : n + s.size ≤ maxLen) (hbytes : n + s.size ≤ 140737488355328)
    (h : ∀ v' w', w'.ownsRowF 0 e 1 v' (n + s.size) (xs ++ Lib.strCells s) → w.grownBy w' v.ownBlock → (v' = .slice none 0 0 ↔ v = .slice none 0 0 ∧ s.size = 0) → (∀ g, v'.ownBlock = some g → v.ownBlock = some g ∨ w.heap.size ≤ g) → wpList P ops Q rest (a.put o.dst v') w') : wpList P ops Q (o :: rest) a w := by
  refine wpList_plain hgd fun K hK => ?_
  obtain ⟨v', w', hr, h2, h3, h4, h5⟩ := run_app (P := P) w t u o.type e i ht hu hi hz hsize hby v n xs hown s h63 hbytes
  unfold Oper.wp execOp
  simp only [ho, resolve, invoke, builtin, Sem.run_bind, Sem.run_pure, Result.andThen_ok, List.map_toArray, List.map_cons, List.map_nil, hs, hx, hr]
  exact hK _ _ (h v' w' h2 h3 h4 h5)
end Go.Sx

namespace Go.Proofs.YtdbafjjmdgdjgaaDoor
open Go.Sx Go.RowKit Go.Reg Go.Gr
set_option maxRecDepth 100000
theorem info_bld : (Tryd.prog.info? 60).map (·.size) = some 2 := by kernel_rfl
theorem info_u8 : (Tryd.prog.info? 5).map (fun i => (i.zero, i.size, i.bytes)) = some (some (.int .u8 0), 1, 1) := by kernel_rfl
theorem lies_bld : liesAt Tryd.prog Tryd.prog.depth 60 (2 / Tryd.prog.cellsOf 60) 0 60 1 = true := by kernel_rfl
set_option maxHeartbeats 1000000 in
theorem cc_used (b : Nat) (w : World) (h0 : w.cell? ⟨b, 0, none⟩ = some (.pointer (some ⟨b, 0, none⟩))) :
    Calls Tryd.prog 34 #[.pointer (some ⟨b, 0, none⟩)] w fun e w' => e = .returned (.tuple #[]) ∧ w' = w := by
  obtain ⟨j, hj, _⟩ := Option.map_eq_some_iff.1 info_bld
  go_enter Tryd.func34, Tryd.ntmps34
  go_wp2
  rw [Lib.run_neq_ptr_same w _ Tryd.underlying57 hj]
  go_wp2
  go_end0
  exact ⟨rfl, rfl⟩
set_option maxHeartbeats 1000000 in
theorem cc_fresh (b : Nat) (w : World) (h0 : w.cell? ⟨b, 0, none⟩ = some (.pointer none)) (hsh : w.shape? b = some (60, 2)) (hfz : w.frozen? ⟨b, 0, none⟩ = false) :
    Calls Tryd.prog 34 #[.pointer (some ⟨b, 0, none⟩)] w fun e w' => e = .returned (.tuple #[]) ∧ w' = w.setCell ⟨b, 0, none⟩ (.pointer (some ⟨b, 0, none⟩)) := by
  obtain ⟨j, hj, hjs⟩ := Option.map_eq_some_iff.1 info_bld
  go_enter Tryd.func34, Tryd.ntmps34
  go_wp2
  rw [Lib.run_to_unsafe w ⟨b, 0, none⟩ Tryd.underlying57 Tryd.underlying73 hj (by rw [hjs]; decide) hsh (Nat.zero_lt_succ 1)]
  simp only [Result.andThen]
  rw [Oper.upon_value]
  go_wp2
  rw [run_callFunc_extern Tryd.func43 (by kernel_rfl) (by kernel_rfl) (by kernel_rfl) (e := Extern.AbiNoEscape.same) (by kernel_rfl)]
  rw [Lib.run_noEscape]
  simp only [Result.andThen]
  rw [Oper.upon_value]
  go_wp2
  rw [Lib.run_from_unsafe w ⟨b, 0, none⟩ Tryd.underlying73 Tryd.underlying57 hj hsh lies_bld]
  simp only [Result.andThen]
  rw [Oper.upon_value]
  go_wp2
  go_end0
  exact ⟨rfl, rfl⟩
def bld (l : List UInt8) : Absn := bldO 60 5 l
theorem cc_any (b : Nat) (p sv : Value) (w : World) (hp : p = .pointer none ∨ p = .pointer (some ⟨b, 0, none⟩)) (hb : w.heap[b]? = some (.cells #[p, sv] 60 (0, 0))) :
    Calls Tryd.prog 34 #[.pointer (some ⟨b, 0, none⟩)] w fun e w' => e = .returned (.tuple #[]) ∧ w'.heap[b]? = some (.cells #[.pointer (some ⟨b, 0, none⟩), sv] 60 (0, 0)) ∧ Tch [b] w w' := by
  have hB : Blk w b 60 [p, sv] := hb
  rcases hp with rfl | rfl
  · refine (cc_fresh b w (hB.cell (i := 0) rfl) (by simp [World.shape?, hb]) (hB.frozen 0)).mono ?_
    rintro e w' ⟨rfl, rfl⟩
    exact ⟨rfl, hB.set 0 _, Tch.setCell w (.inl (.head _)) _⟩
  · refine (cc_used b w (hB.cell (i := 0) rfl)).mono ?_
    rintro e w' ⟨rfl, rfl⟩
    exact ⟨rfl, hb, Tch.refl _ _⟩
theorem grown_tch {w w' : World} {row : Option Nat} (h : w.grownBy w' row) : Tch row.toList w w' := ⟨h.os, h.tape, h.output, h.size, fun k hk hn => h.block k hk (fun e => hn (by rw [← e]; exact .head _))⟩
set_option maxHeartbeats 2000000 in
theorem wstr_obj (X : LayG) (l s : List UInt8) (hl : l.length + s.length ≤ 1000000000) : TurnObj (C2 X) 25 (bld l) [.str (bs s)] (fun y r' => y = .tuple [.int .i64 s.length, .nili] ∧ r' = bld (l ++ s)) := by
  rintro O w v F us ⟨b, p, sv, rfl, rfl, hp, hb, hown, hnil⟩ hF hO hg hr
  obtain ⟨v1, vs, rfl, h1, h2⟩ := reps_inv hr
  obtain rfl := reps_inv0 h2
  obtain rfl := rep_str h1
  clear hr h1 h2 hg hO hF
  refine ⟨by kernel_rfl, ?_⟩
  have hblt : b < w.heap.size := (Array.getElem?_eq_some_iff.1 hb).1
  have hne : sv.ownBlock ≠ some b := Lib.ownBlock_neF hown hb (by decide)
  obtain ⟨i0, hi, hz0, hz1, hz2⟩ := info_parts info_u8
  have hcc := cc_any b p sv w hp hb
  show Calls Tryd.prog _ _ _ _
  go_enter Tryd.func25, Tryd.ntmps25
  go_wp2_with fail
  refine hcc.mono ?_
  rintro e w1 ⟨rfl, hb1, ht1⟩
  have own1 := owns_keep hown ht1 (by intro g hg hx; simp at hx; subst hx; exact hne hg)
  have c1 : w1.cell? ⟨b, 1, none⟩ = some sv := by rw [Lib.cell_of_heap hb1]; rfl
  go_wp2_with (at_builtin; refine wp_app rfl _ _ 58 9 rfl 5 i0 Tryd.underlying58 Tryd.underlying9 hi hz0 hz1 hz2 _ _ _ rfl own1 (bs s) rfl ?c3 ?c4 ?_)
  case c3 => rw [bs_size]; unfold maxLen; omega
  case c4 => rw [bs_size]; omega
  intro v' w2 hown' hgrow hnil' hwh
  have hb1lt : b < w1.heap.size := (Array.getElem?_eq_some_iff.1 hb1).1
  have hb2 : w2.heap[b]? = some (.cells #[.pointer (some ⟨b, 0, none⟩), sv] 60 (0, 0)) := by
    rw [hgrow.block b hb1lt (fun e => hne e.symm)]; exact hb1
  have d1 : w2.cell? ⟨b, 1, none⟩ = some sv := by rw [Lib.cell_of_heap hb2]; rfl
  have f1 : w2.frozen? ⟨b, 1, none⟩ = false := Lib.frozen_of_heap hb2 1
  obtain ⟨ao, n', cap, rfl⟩ : ∃ ao n' cap, v' = .slice ao n' cap := by
    rcases hown'.2 with ⟨hv, _⟩ | ⟨g, cap, cur, fz, hv, _⟩
    · exact ⟨_, _, _, hv⟩
    · exact ⟨_, _, _, hv⟩
  go_wp2
  go_ret2
  have hne' : (Value.slice ao n' cap).ownBlock ≠ some b := Lib.ownBlock_neF hown' hb2 (by decide)
  have hB2 : Blk w2 b 60 [.pointer (some ⟨b, 0, none⟩), sv] := hb2
  have hcells : Lib.byteCells l ++ Lib.strCells (bs s) = Lib.byteCells (l ++ s) := by rw [Lib.byteCells_append, Lib.strCells_eq]; simp [bs]
  rw [hcells, bs_size, ← List.length_append] at hown'
  refine ⟨_, _, bld (l ++ s), b :: (Value.slice ao n' cap).ownBlock.toList, rfl, ⟨rfl, rfl⟩, ⟨b, _, _, rfl, rfl, .inr rfl, hB2.set 1 _, owns_keep hown' (Tch.setCell w2 (S := [b]) (.inl (.head _)) _) (by intro g hg hx; simp at hx; subst hx; exact hne' hg), ?_⟩, ?_, ?_, ?_⟩
  · intro h
    rw [List.append_eq_nil_iff] at h
    exact hnil'.2 ⟨hnil h.1, by rw [h.2]; rfl⟩
  · intro x hx
    rcases List.mem_cons.1 hx with rfl | hx
    · exact .inl (.head _)
    · rcases hwh x (by simpa using hx) with h | h
      · exact .inl (List.mem_cons_of_mem _ (by simpa using h))
      · exact .inr (Nat.le_trans ht1.size h)
  · intro O' _
    refine ⟨[_], ?_, rfl⟩
    simp only [RepC, RepCss]
    exact ⟨[[.int .i64 s.length], [.nilIface]], ⟨_, _, rfl, rfl, _, _, rfl, rfl, rfl⟩, by rw [bs_size]; rfl⟩
  · have t1 : Tch (b :: sv.ownBlock.toList) w w1 := ht1.mono (fun x hx => by simp at hx; subst hx; exact .head _)
    have t2 : Tch (b :: sv.ownBlock.toList) w1 w2 := (grown_tch hgrow).mono (fun x hx => .tail _ hx)
    exact (t1.trans0 t2).andSet (.inl (.head _)) _
theorem tch_freeze (w : World) {S : List Nat} {g : Nat} (hg : g ∈ S) (n : Nat) : Tch S w (w.freeze ⟨g, 0, none⟩ n) := by
  unfold World.freeze
  split
  · exact Tch.refl _ _
  · refine ⟨rfl, rfl, rfl, by simp, fun k hk hn => ?_⟩
    simp only [Array.getElem?_modify]
    rw [if_neg (fun (e : g = k) => hn (e ▸ hg))]
set_option maxHeartbeats 2000000 in
theorem str_obj (X : LayG) (l : List UInt8) (hl : l.length ≤ 1000000000) : TurnObj (C2 X) 28 (bld l) [] (fun y r' => y = .str (bs l) ∧ r' = noObj) := by
  rintro O w v F us ⟨b, p, sv, rfl, rfl, hp, hb, hown, hnil⟩ hF hO hg hr
  obtain rfl := reps_inv0 hr
  clear hr hg hO hF
  refine ⟨by kernel_rfl, ?_⟩
  have hblt : b < w.heap.size := (Array.getElem?_eq_some_iff.1 hb).1
  have fin : ∀ w', Tch (b :: sv.ownBlock.toList) w w' → ∃ u y r' F', Ending.returned (.string (bs l)) = .returned u ∧ (y = .str (bs l) ∧ r' = noObj) ∧ r'.R w' (.pointer (some ⟨b, 0, none⟩)) F' ∧ (∀ x ∈ F', x ∈ b :: sv.ownBlock.toList ∨ w.heap.size ≤ x) ∧ (∀ O', (∀ x ∈ O', x ∈ O ∨ x ∈ F') → Rep O' w' y u) ∧ Tch (b :: sv.ownBlock.toList) w w' :=
    fun w' t => ⟨_, _, _, [], rfl, ⟨rfl, rfl⟩, ⟨rfl, rfl⟩, (by simp), (fun O' _ => ⟨[_], (by simp only [RepC]), rfl⟩), t⟩
  show Calls Tryd.prog _ _ _ _
  have mixed : Tryd.prog.follows .mixedOrders = true := by kernel_rfl
  by_cases h0 : l = []
  · obtain rfl := hnil h0
    subst h0
    have hUS := Lib.run_unsafeString_none (P := Tryd.prog) w.drew 70 3 9 none
    have hSD : (Builtin.unsafeSliceData_ #[58] 70 #[.slice none 0 0]).run Tryd.prog w.drew = .ok (.pointer none) w.drew := rfl
    have c1 : w.drew.cell? ⟨b, 1, none⟩ = some (.slice none 0 0) := by
      have : w.drew.heap[b]? = some (.cells #[p, .slice none 0 0] 60 (0, 0)) := hb
      rw [Lib.cell_of_heap this]; rfl
    go_enter Tryd.func28, Tryd.ntmps28
    go_wp2
    go_region_o
    all_goals (go_wp2; go_ret; exact fin _ (Tch.drew w _))
  · have hl0 : l.length ≠ 0 := by simpa using h0
    obtain ⟨g, cap, cur, fz, rfl, hbg, hg, hfz, hnc, hcm, hcs, htake⟩ : ∃ g cap cur fz, sv = .slice (some ⟨g, 0, none⟩) l.length cap ∧ 0 ≤ g ∧ w.heap[g]? = some (.cells cur 5 fz) ∧ fz.2 ≤ l.length * 1 ∧ l.length ≤ cap ∧ cap ≤ maxLen ∧ cur.size = cap * 1 ∧ cur.toList.take (l.length * 1) = Lib.byteCells l := by
      rcases hown.2 with ⟨_, hz⟩ | ⟨g, cap, cur, fz, hv, r⟩
      · exact absurd hz hl0
      · exact ⟨g, cap, cur, fz, hv, r⟩
    have c1 : w.drew.cell? ⟨b, 1, none⟩ = some (.slice (some ⟨g, 0, none⟩) l.length cap) := by
      have : w.drew.heap[b]? = some (.cells #[p, .slice (some ⟨g, 0, none⟩) l.length cap] 60 (0, 0)) := hb
      rw [Lib.cell_of_heap this]; rfl
    have hSD : (Builtin.unsafeSliceData_ #[58] 70 #[.slice (some ⟨g, 0, none⟩) l.length cap]).run Tryd.prog w.drew = .ok (.pointer (some ⟨g, 0, none⟩)) w.drew :=
      Lib.run_unsafeSliceData_row _ _ _ _ _ _ (by omega)
    have hUS : (Builtin.unsafeString_ #[70, 3] 9 #[.pointer (some ⟨g, 0, none⟩), .int .i64 l.length]).run Tryd.prog w.drew = .ok (.string ⟨l.toArray⟩) (w.drew.freeze ⟨g, 0, none⟩ l.length) := by
      refine Lib.run_unsafeString_row w.drew 70 3 9 5 Tryd.underlying70 (by kernel_rfl) g cur.size (by have hg' : w.drew.heap[g]? = some (.cells cur 5 fz) := hg; simp [World.shape?, hg']) l h0 (by omega) (by unfold maxLen at hcm; omega) ?_
      intro j x hx
      have := hown.cells (g := g) rfl j (.int .u8 x.toNat) (by simp [Lib.byteCells, hx])
      exact this
    go_enter Tryd.func28, Tryd.ntmps28
    go_wp2
    go_region_o
    all_goals (go_wp2; go_ret; exact fin _ ((Tch.drew w _).trans0 (tch_freeze w.drew (.tail _ (.head _)) l.length)))
end Go.Proofs.YtdbafjjmdgdjgaaDoor
