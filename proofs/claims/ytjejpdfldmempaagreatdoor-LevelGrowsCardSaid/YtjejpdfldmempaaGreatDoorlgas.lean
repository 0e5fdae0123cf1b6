/- Merged: Srq. -/
import Derived.Test.YtjejpdfldmempaaGreatDoorOen
import Derived.Test.YtjejpdfldmempaaGreatDoorSxu
import Derived.Test.YtjejpdfldmempaaGreatDoorlgaj
import Derived.Test.YtjejpdfldmempaaGreatDoorlgao
import Derived.Test.YtjejpdfldmempaaGreatDoorlgar
section
namespace Go.Reg
open Go Go.RowKit Go.Sort Go.Proofs
abbrev encI1 (n : Int) : List Value := [Value.int .i64 n]
theorem Sl.zero1 {P : Program} {E : Nat} {w : World} {l : List Int} {g c : Nat} (h : Sl E 1 encI1 w (.slice (some ⟨g, 0, none⟩) l.length c) l) {m : Nat} (hm : m ≤ l.length) :
  ∃ w', (storeCells ⟨g, m, none⟩ (List.replicate (l.length - m) (Value.int .i64 0))).run P w = .ok () w' ∧ Sl E 1 encI1 w' (.slice (some ⟨g, 0, none⟩) l.length c) (l.take m ++ List.replicate (l.length - m) 0) ∧ Tch [g] w w' := by
 rcases h.2 with ⟨h1, _⟩ | ⟨g', cap', cur, h1, h0, hg, hc, hmx, hs, ht⟩
 ·cases h1
 ·cases h1
  rw [Nat.mul_one] at hs
  have hsz : l.length ≤ cur.size := by omega
  have hr := run_storeCells_at P g m E (List.replicate (l.length - m) (Value.int .i64 0)) 0 cur w hg (by rw [List.length_replicate]; omega) (by intro v hv; rw [List.eq_of_mem_replicate hv]; rfl)
  rw [Nat.add_zero, List.length_replicate] at hr
  have hl2 : (l.take m ++ List.replicate (l.length - m) (0 : Int)).length = l.length := by rw [List.length_append, List.length_take, List.length_replicate]; omega
  have e0 : m + (l.length - m) = l.length := by omega
  rw [e0] at hr
  refine ⟨_, hr, ?_, ⟨rfl, rfl, rfl, by simp [World.setRow], fun j hj hn => by
    have : g ≠ j := fun e => hn (by simp [e])
    simp [World.setRow, Array.getElem?_modify, this]⟩⟩
  unfold Sl
  rw [flat_one1, hl2]
  refine ⟨by rw [List.length_map, hl2]; omega, .inr ⟨g, c, (cur.toList.take m ++ List.replicate (l.length - m) (Value.int .i64 0) ++ cur.toList.drop l.length).toArray, rfl, Nat.zero_le _, setRow_heap w g cur _ E (0, 0) hg, hc, hmx, ?_, ?_⟩⟩
  ·simp; omega
  ·rw [flat_one1, Nat.mul_one] at ht
   rw [Nat.mul_one]
   have h1 : (cur.toList.take m ++ List.replicate (l.length - m) (Value.int .i64 0)).length = l.length := by simp; omega
   rw [List.take_append_of_le_length (by omega), List.take_of_length_le (by omega), List.map_append, List.map_replicate, List.map_take, ← ht, List.take_take, Nat.min_eq_left hm]
end Go.Reg
namespace Go.Sx
open Go Go.RowKit Go.Reg Go.Gr Go.Proofs Go.Proofs.YtjejpdfldmempaaGreatDoor
def tailO (E : Nat) (l : List Int) (m g c : Nat) : Absn where
 R w v F := v = .slice (if c = m then some ⟨g, 0, none⟩ else some ⟨g, m, none⟩) (l.length - m) (c - m) ∧ F = [g] ∧ m ≤ l.length ∧ Sl E 1 encI1 w (.slice (some ⟨g, 0, none⟩) l.length c) l
 keep := by
  rintro S w w' v F ⟨rfl, rfl, hm, h⟩ t hd
  exact ⟨rfl, rfl, hm, h.keep t (fun b hb => by simp [Value.ownBlock] at hb; subst hb; exact hd g (by simp))⟩
 lt := by
  rintro w v F ⟨rfl, rfl, hm, h⟩ x hx
  simp at hx; subst hx
  exact h.lt rfl
 one := by rintro w v F ⟨rfl, rfl, hm, h⟩; rfl
section
variable {C : Cx} {T : Tab} {n kd : Nat} {fr : Fr} {σ : Sg} {E i : Nat} {l : List Int} {o : Oper} {K : Fr → Sg → Prop} {B S : List Nat} {w0 w w' : World} {η : Nat → Value} {φ : Nat → List Nat} {a : Act}
theorem Models.turnRaw (hM : Models C B S w0 n fr σ η φ a w) {X : List Nat} (t : Tch X w w') (hX : ∀ b ∈ X, b ∈ φ i) (hi : i ∈ ids σ) {v : Value} {F : List Nat} (hF : ∀ b ∈ F, b ∈ φ i ∨ w.heap.size ≤ b) {x : Da} (hx : x.one = true) (hr : ∀ O w, RepC O w x [η i]) {ow : Own}
  (ho : ow.holds (upd η i v) (ids σ) (B ++ blocks (upd φ i F) (sturn (killO i x) i ow σ)) w' v F) : Models C B S w0 n (killF i x fr) (sturn (killO i x) i ow σ) (upd η i v) (upd φ i F) a w' := by
 have hl := Later.turn (σ := σ) B t hX hi hF (killO i x) ow
 have hm := hM.mem.turn t hX hi hF hl (fun q hq hne hh => hh.kill hx hl (fun j hj hne => ⟨hj, upd_ne _ _ _ hne⟩) (hr _ _) t (fun b hb hm => hM.mem.disj q.1 (mem_ids hq) i hi hne b hb (hX b hm))) ho
 exact ⟨hm, hM.fr.kill hx hl (fun j hj hne => ⟨by rw [ids_sturn]; exact hj, upd_ne _ _ _ hne⟩) (hr _ _), hM.defers, hM.size⟩
theorem op_tail (m : Nat) {t : TypeId} {x lo : Operand} {e ee : TyI} (hC : C.Ok T) (i : Nat) (ho : o.op = .slice t x (some lo) none none) (he : tyAt t T = some e) (hk2 : e.kd = 2) (hee : tyAt e.elem T = some ee) (h1 : ee.size = 1) (hx : ev C.Γ fr x = .own i) (hg : sget i σ = some (.slice E 1 (l.map dI))) {mi : Int} (hlo : ev C.Γ fr lo = .d (.int .i64 mi)) (hmi : mi = m) (hm : m ≤ l.length) (hl : l ≠ []) (hkd : kd ≠ 5 ∧ kd ≠ 2) (hd : dstOk o.dst n = true)
  (hK : ∀ g c, forceF (killF i (.raw (.slice (some ⟨g, 0, none⟩) l.length c)) fr) fun fr => forceS (sturn (killO i (.raw (.slice (some ⟨g, 0, none⟩) l.length c))) i (tailO E l m g c).own σ) fun σ => K (putF o.dst (.own i) fr) σ) : OpSem C n kd o K fr σ := by
 subst hmi
 refine opSem_val hkd.1 hkd.2 fun B S w0 η φ a w hM => ⟨fun _ => by simp [dynPure, ho], .inl ?_⟩
 obtain ⟨css, hs, e2, hrr, hkk⟩ := own_slice_val hM.mem hg
 obtain rfl := ints_cs hrr
 have hs1 := ints_sl.1 hs
 rcases hs1.shape with ⟨_, rfl⟩ | ⟨g, cap, e3, hc⟩
 ·exact absurd rfl hl
 have ex := rd_own (ev_rep hM x) hx
 have elo := rep_int (rd_da (ev_rep hM lo) hlo)
 have hr := run_slice_ok (w := w) (hC.ty he) hk2 (hC.ty hee) (ad := some ⟨g, 0, none⟩) (len := l.length) (cap := cap) hc (lo := some (.int .i64 m)) (hi := none) (l := m) (m := l.length) ⟨_, rfl⟩ rfl hm (Nat.le_refl _)
 have hi := mem_ids (sget_mem hg)
 have hF : ∀ b ∈ [g], b ∈ φ i ∨ w.heap.size ≤ b := fun b hb => .inl (by rw [e2, e3]; simpa [Value.ownBlock] using hb)
 have hM' := hM.turnRaw (Tch.refl [] w) (by simp) hi (v := .slice (if cap = m then some ⟨g, 0, none⟩ else some ⟨g, m, none⟩) (l.length - m) (cap - m)) (F := [g]) hF (x := .raw (.slice (some ⟨g, 0, none⟩) l.length cap)) rfl (fun O w => by simp only [RepC]; rw [e3]) (ow := (tailO E l m g cap).own) (show (tailO E l m g cap).R _ _ _ from ⟨rfl, rfl, hm, by rw [← e3]; exact hs1⟩)
 have hk := hK g cap
 rw [forceF_eq, forceS_eq] at hk
 refine ⟨_, w, ?_, _, _, _, _, hM'.put hd (d := .own i) ⟨[.slice (if cap = m then some ⟨g, 0, none⟩ else some ⟨g, m, none⟩) (l.length - m) (cap - m)], by simp only [RepD]; exact ⟨by rw [ids_sturn]; exact hi, by rw [upd_eq]⟩, rfl⟩, hk⟩
 simp only [execOp, ho, Option.map_some, Option.map_none]
 rw [ex, elo, e3]
 refine run_v ?_
 rw [hr]
 congr 2
 split
 ·rfl
 ·simp [Addr.add_lit, h1]
theorem abs_val (hM : Models C B S w0 n fr σ η φ a w) {r : Absn} (hg : sget i σ = some r.own) : r.R w (η i) (φ i) := hM.mem.own _ (sget_mem hg)
theorem op_clear {m g c : Nat} {cl : Call} {t : TypeId} {x : Operand} {e : TyI} (hC : C.Ok T) (i : Nat) (ho : o.op = .call cl) (hcl : cl.callee = .builtin .clear) (hxs : cl.args.toList = [x]) (hts : cl.argTypes.toList = [t]) (he : tyAt t T = some e) (hk2 : e.kd = 2) (hz : ∀ w, (zeroValue e.elem).run C.P w = .ok (.int .i64 0) w) (hx : ev C.Γ fr x = .own i) (hg : sget i σ = some (tailO E l m g c).own) (hkd : kd ≠ 5 ∧ kd ≠ 2) (hd : dstOk o.dst n = true)
  (hK : forceS (sturn id i (tailO E (l.take m ++ List.replicate (l.length - m) 0) m g c).own σ) fun σ => K (putF o.dst (.d (.tuple [])) fr) σ) : OpSem C n kd o K fr σ := by
 rw [forceS_eq] at hK
 refine opSem_val hkd.1 hkd.2 fun B S w0 η φ a w hM => ⟨fun _ => by simp [dynPure, ho], .inl ?_⟩
 have ex := rd_own (ev_rep hM x) hx
 obtain ⟨ev1, ev2, hm, hs⟩ := abs_val hM hg
 have hi := mem_ids (sget_mem hg)
 have e1 : cl.args = #[x] := by apply Array.ext'; simpa using hxs
 have e2 : cl.argTypes = #[t] := by apply Array.ext'; simpa using hts
 obtain ⟨dd, g1, _, g3, _, _, _, _, g8⟩ := (hC.ty he).desc
 rw [hk2] at g8
 have hdd : ∃ el, dd = .slice el := by cases dd <;> simp at g8 <;> exact ⟨_, rfl⟩
 obtain ⟨el, rfl⟩ := hdd
 have hel := g3 _ rfl
 subst hel
 have hl2 : (l.take m ++ List.replicate (l.length - m) (0 : Int)).length = l.length := by rw [List.length_append, List.length_take, List.length_replicate]; omega
 have step : ∀ w1, Tch [g] w w1 → Sl E 1 encI1 w1 (.slice (some ⟨g, 0, none⟩) l.length c) (l.take m ++ List.replicate (l.length - m) 0) → Good C B S w0 n K (a.put o.dst (.tuple #[])) w1 := fun w1 ht hs' => by
  have hX : ∀ b ∈ [g], b ∈ φ i := fun b hb => by rw [ev2]; exact hb
  have hF : ∀ b ∈ φ i, b ∈ φ i ∨ w.heap.size ≤ b := fun b hb => .inl hb
  have hlt := Later.turn (σ := σ) B ht hX hi hF id (tailO E (l.take m ++ List.replicate (l.length - m) 0) m g c).own
  have hmm := hM.mem.turnSame (o := (tailO E (l.take m ++ List.replicate (l.length - m) 0) m g c).own) ht hX hi hF (show (tailO E (l.take m ++ List.replicate (l.length - m) 0) m g c).R _ _ _ from ⟨by rw [hl2]; exact ev1, ev2, by rw [hl2]; exact hm, by rw [hl2]; exact hs'⟩)
  rw [upd_self] at hmm hlt
  have M' : Models C B S w0 n fr _ η φ a w1 := ⟨hmm, hM.fr.later hlt (fun j hj => ⟨by rw [ids_sturn]; exact hj, rfl⟩), hM.defers, hM.size⟩
  exact ⟨_, _, _, _, M'.put hd (d := .d (.tuple [])) ⟨[.tuple #[]], by simp [RepD, RepC, RepCss], rfl⟩, hK⟩
 have exec : ∀ w1, (Builtin.clear_ #[t] o.type #[η i]).run C.P w = .ok (.tuple #[]) w1 → (execOp a.eval o).run C.P w = .ok (.value (.tuple #[])) w1 := fun w1 h => by
  simp only [execOp, ho, resolve, hcl, Sem.run_bind, Sem.run_pure, Result.andThen_ok, invoke, builtin, e1, e2, List.map_toArray, List.map_cons, List.map_nil, ex]
  rw [h]; rfl
 by_cases hml : m = l.length
 ·refine ⟨_, w, exec w ?_, step w (Tch.refl _ _) ?_⟩
  ·rw [ev1, hml, Nat.sub_self]
   generalize (if c = l.length then (some ⟨g, 0, none⟩ : Option Addr) else some ⟨g, l.length, none⟩) = ad
   cases ad <;> simp [Builtin.clear_, run_underlying g1]
  ·rw [hml, Nat.sub_self, List.take_length]; simpa using hs
 ·obtain ⟨w1, r1, r2, r3⟩ := hs.zero1 (P := C.P) hm
  refine ⟨_, w1, exec w1 ?_, step w1 r3 r2⟩
  have hcm : c ≠ m := by
   rcases hs.shape with ⟨h, _⟩ | ⟨_, _, h, h2⟩
   ·cases h
   ·cases h; omega
  obtain ⟨k, hk⟩ : ∃ k, l.length - m = k + 1 := ⟨l.length - m - 1, by omega⟩
  have hzc : (Builtin.zeroCells (Value.int .i64 0).cells (k + 1)).toList = List.replicate (k + 1) (Value.int .i64 0) := by
   apply List.ext_getElem
   ·simp [Builtin.zeroCells, Value.cells]
   ·intro j h1 h2
    simp [Builtin.zeroCells, Value.cells, Nat.mod_one]
  rw [ev1, if_neg hcm, hk]
  rw [hk] at r1
  simp [Builtin.clear_, run_underlying g1, hz, hzc, r1]
theorem op_head {m g c : Nat} {t : TypeId} {x hi : Operand} {e ee : TyI} (hC : C.Ok T) (i : Nat) (ho : o.op = .slice t x none (some hi) none) (he : tyAt t T = some e) (hk2 : e.kd = 2) (hee : tyAt e.elem T = some ee) {nn : Nat} (hx : ev C.Γ fr x = .d (.raw (.slice (some ⟨g, 0, none⟩) nn c))) (hnn : nn = l.length) (hg : sget i σ = some (tailO E l m g c).own) {mi : Int} (hhi : ev C.Γ fr hi = .d (.int .i64 mi)) (hmi : mi = m) (_hc0 : 0 < l.length) (hkd : kd ≠ 5 ∧ kd ≠ 2) (hd : dstOk o.dst n = true)
  (hK : forceF (killF i .undef fr) fun fr => forceS (sturn (killO i .undef) i (.slice E 1 ((l.take m).map dI)) σ) fun σ => K (putF o.dst (.own i) fr) σ) : OpSem C n kd o K fr σ := by
 subst hmi
 subst hnn
 rw [forceF_eq, forceS_eq] at hK
 refine opSem_val hkd.1 hkd.2 fun B S w0 η φ a w hM => ⟨fun _ => by simp [dynPure, ho], .inl ?_⟩
 obtain ⟨ev1, ev2, hm, hs⟩ := abs_val hM hg
 have hii := mem_ids (sget_mem hg)
 have ex : a.eval x = .slice (some ⟨g, 0, none⟩) l.length c := by
  obtain ⟨cs, h1, h2⟩ := rd_da (ev_rep hM x) hx
  simp only [RepC] at h1
  subst h1; exact h2
 have ehi := rep_int (rd_da (ev_rep hM hi) hhi)
 have hlc : l.length ≤ c := by
  rcases hs.shape with ⟨h, _⟩ | ⟨_, _, h, h2⟩
  ·cases h
  ·cases h; exact h2
 have hr := run_slice_ok (w := w) (hC.ty he) hk2 (hC.ty hee) (ad := some ⟨g, 0, none⟩) (len := l.length) (cap := c) hlc (lo := none) (hi := some (.int .i64 m)) (l := 0) (m := m) rfl ⟨_, rfl⟩ (Nat.zero_le _) hm
 have hs' : Sl E 1 encI1 w (.slice (some ⟨g, 0, none⟩) m c) (l.take m) := by
  have hlm : (l.take m).length = m := by rw [List.length_take]; omega
  rcases hs.2 with ⟨h1, _⟩ | ⟨g', cap', cur, h1, h0, hgg, hc, hmx, hsz, ht⟩
  ·cases h1
  ·cases h1
   unfold Sl
   rw [flat_one1, hlm]
   refine ⟨by rw [List.length_map, hlm]; omega, .inr ⟨g, c, cur, rfl, Nat.zero_le _, hgg, by omega, hmx, hsz, ?_⟩⟩
   rw [flat_one1] at ht
   rw [List.map_take, ← ht, List.take_take, Nat.mul_one, Nat.mul_one, Nat.min_eq_left hm]
 have hF : ∀ b ∈ (Value.slice (some ⟨g, 0, none⟩) m c).ownBlock.toList, b ∈ φ i ∨ w.heap.size ≤ b := fun b hb => .inl (by rw [ev2]; simpa [Value.ownBlock] using hb)
 have hM' := hM.turnRaw (Tch.refl [] w) (by simp) hii (v := .slice (some ⟨g, 0, none⟩) m c) hF (x := .undef) rfl (fun O w => RepC.undef_ex _ _ _) (ow := .slice E 1 ((l.take m).map dI)) ⟨_, ints_sl.2 hs', rfl, css_ints _, css_row _⟩
 refine ⟨_, w, ?_, _, _, _, _, hM'.put hd (d := .own i) ⟨[.slice (some ⟨g, 0, none⟩) m c], by simp only [RepD]; exact ⟨by rw [ids_sturn]; exact hii, by rw [upd_eq]⟩, rfl⟩, hK⟩
 simp only [execOp, ho, Option.map_some, Option.map_none]
 rw [ex, ehi]
 refine run_v ?_
 rw [hr]
 congr 2
 split
 ·simp
 ·simp [Addr.add_lit]
end
end Go.Sx
namespace Go.Proofs.YtjejpdfldmempaaGreatDoor
open Go.Gr
theorem linkedV_at {G : Gr} {l : List Int} (h : linkedV G l = true) {i : Nat} {v : Int} (hx : l[i]? = some v) : linkAt G l i v = true := by
 cases hh : linkAt G l i v with
 | true => rfl
 | false => rw [linkedV_no hx hh] at h; cases h
theorem canonV_at {G : Gr} {l : List Int} (h : canonV G l = true) {i : Nat} {v : Int} (hx : l[i]? = some v) : fitsV G (l.take i) v = true := by
 cases hh : fitsV G (l.take i) v with
 | true => rfl
 | false => rw [canonV_no hx hh] at h; cases h
theorem linkAt_iff {G : Gr} {l : List Int} {i : Nat} {v : Int} : linkAt G l i v = true ↔ hasV G v = true ∧ v ∉ l.take i ∧ (i = 0 ∨ (l.take i).any (besP G.edges v) = true) := by
 simp only [linkAt, Bool.and_eq_true, Bool.not_eq_true', decide_eq_false_iff_not, Bool.or_eq_true, decide_eq_true_eq]
theorem linked_nodup {G : Gr} {l : List Int} (h : linkedV G l = true) : l.Nodup := by
 refine List.pairwise_iff_getElem.2 fun i j hi hj hij e => ?_
 have := (linkAt_iff.1 (linkedV_at h (List.getElem?_eq_getElem hj))).2.1
 exact this (List.mem_take_iff_getElem.2 ⟨i, by omega, e⟩)
theorem any_bes {E : List Edg} {l : List Int} {v : Int} : l.any (besP E v) = true ↔ ∃ u ∈ l, turn ⟨u, v⟩ ∈ E := by
 rw [List.any_eq_true]
 constructor
 ·rintro ⟨u, hu, h⟩; exact ⟨u, hu, by simpa [besP] using h⟩
 ·rintro ⟨u, hu, h⟩; exact ⟨u, hu, by simpa [besP] using h⟩
theorem setOf_nodup {l : List Int} (h : l.Nodup) : (setOf l).length = l.length := by
 have h1 : (setOf l).Nodup := (setOf_spec l).1.imp fun h => by omega
 exact ((List.perm_ext_iff_of_nodup h1 h).2 (setOf_spec l).2).length_eq
theorem fits_first {G : Gr} {l : List Int} {v y : Int} (h : fitsV G l v = true) (h0 : l[0]? = some y) : ∃ i, l.findIdx? (besP G.edges v) = some i ∧ v ∉ l ∧ ¬ v < y ∧ ∀ u ∈ l.drop (i + 1), ¬ v < u := by
 unfold fitsV at h
 rw [h0] at h
 simp only at h
 cases hf : l.findIdx? (besP G.edges v) with
 | none => rw [hf] at h; cases h
 | some i =>
   rw [hf] at h
   simp only [Bool.and_eq_true, Bool.not_eq_true', decide_eq_false_iff_not, List.any_eq_false, decide_eq_true_eq] at h
   exact ⟨i, rfl, h.1, h.2.1, h.2.2⟩
theorem fits_any {G : Gr} {l : List Int} {v : Int} (h : fitsV G l v = true) (hl : l ≠ []) : v ∉ l ∧ ∃ u ∈ l, turn ⟨u, v⟩ ∈ G.edges := by
 obtain ⟨y, hy⟩ : ∃ y, l[0]? = some y := ⟨_, List.getElem?_eq_getElem (List.length_pos_iff.2 hl)⟩
 obtain ⟨i, h1, h2, _⟩ := fits_first h hy
 obtain ⟨h3, h4, _⟩ := findIdx_erase h1
 exact ⟨h2, _, List.getElem_mem h3, by simpa [besP] using h4⟩
theorem fits_nextP {G : Gr} {l : List Int} {v : Int} (h : fitsV G l v = true) : nextP G.edges l v = true := by
 by_cases hl : l = []
 ·exact nextP_iff.2 (.inl hl)
 ·exact nextP_iff.2 (.inr (any_bes.2 (fits_any h hl).2))
theorem edge_has {G : Gr} (hG : G.Ok) {u v : Int} (h : turn ⟨u, v⟩ ∈ G.edges) : hasV G u = true ∧ hasV G v = true := by
 have hb := hG.edge _ h
 unfold hasV
 simp only [decide_eq_true_eq]
 unfold turn at hb
 simp only at hb
 omega
theorem fits_has {G : Gr} (hG : G.Ok) {l : List Int} {v : Int} (h : fitsV G l v = true) : hasV G v = true := by
 by_cases hl : l = []
 ·subst hl; exact h
 ·obtain ⟨u, _, hu⟩ := (fits_any h hl).2
  exact (edge_has hG hu).2
theorem canon_linked {G : Gr} (hG : G.Ok) {l : List Int} (h : canonV G l = true) : linkedV G l = true := by
 refine linkedV_yes fun i v hx => linkAt_iff.2 ?_
 have hf := canonV_at h hx
 refine ⟨fits_has hG hf, ?_⟩
 by_cases hi : i = 0
 ·subst hi; exact ⟨by simp, .inl rfl⟩
 ·have hil := (List.getElem?_eq_some_iff.1 hx).1
  have hne : l.take i ≠ [] := fun e => by
   have := congrArg List.length e
   simp only [List.length_take, List.length_nil] at this; omega
  have := fits_any hf hne
  exact ⟨this.1, .inr (any_bes.2 this.2)⟩
theorem canon_take {G : Gr} {l : List Int} (h : canonV G l = true) (i : Nat) : canonV G (l.take i) = true := by
 refine canonV_yes fun j v hx => ?_
 have hj : j < i := by have := (List.getElem?_eq_some_iff.1 hx).1; rw [List.length_take] at this; omega
 rw [List.getElem?_take, if_pos hj] at hx
 rw [List.take_take, Nat.min_eq_left (by omega)]
 exact canonV_at h hx
theorem canon_snoc (G : Gr) (l : List Int) (v : Int) : canonV G (l ++ [v]) = (canonV G l && fitsV G l v) := by
 have hlast : (l ++ [v])[l.length]? = some v := by simp
 have htl : (l ++ [v]).take l.length = l := by simp
 cases hc : canonV G (l ++ [v]) with
 | true =>
   have h1 := canon_take hc l.length
   have h2 := canonV_at hc hlast
   rw [htl] at h1 h2
   rw [h1, h2]; rfl
 | false =>
   cases h1 : canonV G l with
   | false => rfl
   | true =>
     cases h2 : fitsV G l v with
     | false => rfl
     | true =>
       rw [← hc]
       refine (canonV_yes fun j u hx => ?_).symm ▸ rfl
       by_cases hj : j < l.length
       ·rw [List.getElem?_append_left hj] at hx
        rw [List.take_append_of_le_length (by omega)]
        exact canonV_at h1 hx
       ·have := (List.getElem?_eq_some_iff.1 hx).1
        rw [List.length_append, List.length_singleton] at this
        have hj : j = l.length := by omega
        subst hj
        rw [hlast] at hx; cases hx
        rw [htl]; exact h2
theorem listR_self {G : Gr} {l : List Int} (hG : G.Ok) (hc : canonV G l = true) : ∀ (rest pre left : List Int), l = pre ++ rest → left.Pairwise (· < ·) → (∀ x, x ∈ left ↔ x ∈ rest) → listR G.edges rest.length pre left = some l
 | [], pre, left, e, _, _ => by simp [listR, e]
 | x :: rest, pre, left, e, hr, hm => by
   have hnd := linked_nodup (canon_linked hG hc)
   have hxl : l[pre.length]? = some x := by rw [e]; simp
   have htk : l.take pre.length = pre := by rw [e]; simp
   have hfx := canonV_at hc hxl
   rw [htk] at hfx
   have hlnod : left.Nodup := hr.imp fun h => by omega
   obtain ⟨i, hi, hxi⟩ := List.mem_iff_getElem.1 ((hm x).2 (by simp))
   have hno : ∀ j (hj : j < i), nextP G.edges pre (left[j]'(by omega)) = false := by
    intro j hj
    have hlt := List.pairwise_iff_getElem.1 hr j i (by omega) hi hj
    rw [hxi] at hlt
    have hmem := (hm _).1 (List.getElem_mem (l := left) (n := j) (by omega))
    generalize left[j]'(by omega) = u at hlt hmem
    rcases List.mem_cons.1 hmem with h | h
    ·omega
    obtain ⟨q, hq, hqu⟩ := List.mem_iff_getElem.1 h
    have hul : l[pre.length + (q + 1)]? = some u := by
     rw [e, List.getElem?_append_right (by omega)]
     simp only [Nat.add_sub_cancel_left, List.getElem?_cons_succ]
     rw [List.getElem?_eq_getElem hq, hqu]
    have hll := (List.getElem?_eq_some_iff.1 hul).1
    have hfu := canonV_at hc hul
    have hxt : (l.take (pre.length + (q + 1)))[pre.length]? = some x := by rw [List.getElem?_take, if_pos (by omega)]; exact hxl
    cases hp : nextP G.edges pre u with
    | false => rfl
    | true =>
      exfalso
      rcases nextP_iff.1 hp with h0 | h0
      ·have hxt0 : (l.take (pre.length + (q + 1)))[0]? = some x := by
        have e0 : pre.length = 0 := by rw [h0]; rfl
        rw [e0] at hxt ⊢; exact hxt
       obtain ⟨_, _, _, h5, _⟩ := fits_first hfu hxt0
       exact h5 hlt
      ·obtain ⟨z, hz, hzu⟩ := any_bes.1 h0
       obtain ⟨k, hk, hkz⟩ := List.mem_iff_getElem.1 hz
       obtain ⟨y, hy⟩ : ∃ y, (l.take (pre.length + (q + 1)))[0]? = some y := ⟨_, List.getElem?_eq_getElem (by rw [List.length_take]; omega)⟩
       obtain ⟨i0, g1, _, _, g4⟩ := fits_first hfu hy
       obtain ⟨g5, _, g7⟩ := findIdx_erase g1
       have hki : i0 ≤ k := by
        rcases Nat.lt_or_ge k i0 with h | h
        ·have := g7 k h
         have hkk : (l.take (pre.length + (q + 1)))[k]? = some z := by
          rw [List.getElem?_take, if_pos (by omega), e, List.getElem?_append_left hk, List.getElem?_eq_getElem hk, hkz]
         rw [List.getElem?_eq_getElem (by rw [List.length_take]; omega), Option.some.injEq] at hkk
         rw [hkk] at this
         simp [besP, hzu] at this
        ·exact h
       refine g4 x (List.mem_drop_iff_getElem.2 ⟨pre.length - (i0 + 1), by rw [List.length_take]; omega, ?_⟩) hlt
       have hsome := List.getElem?_eq_some_iff.1 hxt
       have hidx : i0 + 1 + (pre.length - (i0 + 1)) = pre.length := by omega
       simp only [hidx]
       exact hsome.2
   have hf : left.findIdx? (nextP G.edges pre) = some i := by
    rw [List.findIdx?_eq_some_iff_getElem]
    exact ⟨hi, by rw [hxi]; exact fits_nextP hfx, fun j hj => by rw [hno j hj]; simp⟩
   simp only [List.length_cons, listR, hf]
   rw [List.getElem?_eq_getElem hi, Option.getD_some, hxi]
   refine listR_self hG hc rest (pre ++ [x]) (left.eraseIdx i) (by rw [e]; simp) (hr.sublist (List.eraseIdx_sublist left i)) fun z => ?_
   rw [mem_erase_at hlnod hi, hxi, hm]
   constructor
   ·rintro ⟨h1, h2⟩
    exact (List.mem_cons.1 h1).resolve_left h2
   ·intro h1
    refine ⟨List.mem_cons_of_mem _ h1, fun e2 => ?_⟩
    subst e2
    rw [e] at hnd
    have := (List.nodup_append.1 hnd).2.1
    exact (List.nodup_cons.1 this).1 h1
theorem setOf_congr {a b : List Int} (h : ∀ x, x ∈ a ↔ x ∈ b) : setOf a = setOf b := rise_eq (setOf_spec a).1 (setOf_spec b).1 fun x => by rw [(setOf_spec a).2, (setOf_spec b).2, h]
theorem listV_congr {G : Gr} {a b : List Int} (h : ∀ x, x ∈ a ↔ x ∈ b) : listV G a = listV G b := by unfold listV; rw [setOf_congr h]
theorem list_self {G : Gr} (hG : G.Ok) {l : List Int} (hc : canonV G l = true) : listV G l = some l := by
 have hlk := canon_linked hG hc
 unfold listV
 rw [if_neg (by
  simp only [List.any_eq_true, not_exists, not_and, Bool.not_eq_true', Bool.not_eq_false]
  intro x hx
  obtain ⟨i, hi, rfl⟩ := List.mem_iff_getElem.1 (((setOf_spec l).2 x).1 hx)
  exact (linkAt_iff.1 (linkedV_at hlk (List.getElem?_eq_getElem hi))).1)]
 rw [setOf_nodup (linked_nodup hlk)]
 exact listR_self hG hc l [] (setOf l) rfl (setOf_spec l).1 (setOf_spec l).2
theorem canon_iff {G : Gr} (hG : G.Ok) {l : List Int} : canonV G l = true ↔ listV G l = some l := ⟨list_self hG, fun h => (listV_spec h).2⟩
theorem next_mem {G : Gr} {l : List Int} (hl : l ≠ []) {x : Int} : x ∈ nextV G l ↔ (∃ v ∈ l, x ∈ nearI G v) ∧ x ∉ l := by
 unfold nextV
 rw [if_neg hl, List.mem_filter, (setOf_spec _).2, List.mem_flatMap]
 simp only [Bool.not_eq_true', decide_eq_false_iff_not, (setOf_spec l).2]
theorem upto_rise (k : Nat) : (upto k).Pairwise (· < ·) := by
 unfold upto
 rw [List.pairwise_map]
 exact List.pairwise_lt_range.imp (by intro a b h; omega)
theorem next_rise (G : Gr) (l : List Int) : (nextV G l).Pairwise (· < ·) := by
 unfold nextV
 split
 ·exact upto_rise _
 ·exact (setOf_spec _).1.sublist List.filter_sublist
def growV (G : Gr) (l : List Int) : List Int := if canonV G l = true then (nextV G l).filter (fitsV G l) else []
theorem grow_mem {G : Gr} (hG : G.Ok) {l : List Int} {v : Int} : v ∈ growV G l ↔ canonV G l = true ∧ fitsV G l v = true := by
 unfold growV
 split
 ·rename_i hc
  rw [List.mem_filter]
  refine ⟨fun h => ⟨hc, h.2⟩, fun h => ⟨?_, h.2⟩⟩
  have hv := fits_has hG h.2
  unfold hasV at hv
  simp only [decide_eq_true_eq] at hv
  by_cases hl : l = []
  ·unfold nextV
   rw [if_pos hl, mem_upto]
   exact hv
  ·obtain ⟨h1, u, hu, h2⟩ := fits_any h.2 hl
   refine (next_mem hl).2 ⟨⟨u, hu, (mem_nearI hG).2 ⟨?_, hv.1, hv.2, by rw [turn_sym]; exact h2⟩⟩, h1⟩
   have := (edge_has hG h2).1
   unfold hasV at this
   simpa using this
 ·rename_i hc
  simp [hc]
end Go.Proofs.YtjejpdfldmempaaGreatDoor
namespace Go.Proofs.YtjejpdfldmempaaGreatDoor
open Go.Sx Go.RowKit Go.Reg Go.Gr
set_option maxRecDepth 100000
theorem take_set' {l : List Int} {i : Nat} (h : i < l.length) (y : Int) : (l.set i y).take (i + 1) = l.take i ++ [y] := by
 rw [List.take_add_one, List.take_set_of_le (Nat.le_refl i), List.getElem?_set_self h]; rfl
def pl_dlf : List (Nat × Plan) := []
def G_dlf : List FuncId := [231]
theorem cok_dlf : codeOk Tryz.prog G_dlf pl_dlf (Tryz.f178.body.getD .skip) = true := by kernel_rfl
theorem run_dlf (vs : Array Value) (w : World) : (callFunc 178 vs).run C1.P w = .ok (.enter 178 vs) w := by kernel_rfl
theorem deleteF_eat (l : List Int) (g : FuncId) (cs : List Da) (p : Int → Bool) (hl : l.length ≤ 4294967296) (hp : ∀ x ∈ l, Pure C1 g (.int .i64 x :: cs) (fun y => y = .bool (p x))) :
  EatSl C1 178 3 1 (l.map dI) [.func (.func g) [] cs] (fun ds => ds = (l.filter fun x => !p x).map dI) := by
 have hll : (l.map dI).length = l.length := List.length_map _
 have hif := indexF_pure l g cs p hp
 refine eatsl_of c1_ok (pl := pl_dlf) (G := G_dlf) Tryz.func178 rfl Tryz.ntmps178 run_dlf cok_dlf (by simp) ?_
 unfold idxF at hif
 cases hf : l.findIdx? p with
 | none =>
   rw [hf] at hif
   simp only [optI] at hif
   have hfl : (l.filter fun x => !p x) = l := by
    rw [List.filter_eq_self]
    intro a ha
    rw [List.findIdx?_eq_none_iff] at hf
    simp [hf a ha]
   rw [hfl]
   (conv => whnf)
   (repeat' ((first | refine ord_ok ?_ ?_ | refine call_eqb tab rfl hif rfl ?_ | refine ify ?_ | refine ifn ?_ | refine i6 ?_ | refine ati ?_ | refine mst ?_ | refine rmd ?_ | refine ibo (fun _ => ?_) (fun _ => ?_) | exact oend) <;> conv => whnf))
   exact ⟨rfl, rfl, rfl⟩
 | some i =>
   rw [hf] at hif
   simp only [optI] at hif
   have hf2 := hf
   rw [List.findIdx?_eq_some_iff_getElem] at hf2
   obtain ⟨hil, hpi, hfirst⟩ := hf2
   have hti : l.take i = (l.take (i + 1)).filter fun x => !p x := by
    rw [List.take_add_one, List.getElem?_eq_getElem hil, Option.toList_some, List.filter_append]
    have h2 : [l[i]].filter (fun x => !p x) = [] := by simp [hpi]
    rw [h2, List.append_nil]
    refine (List.filter_eq_self.2 fun a ha => ?_).symm
    obtain ⟨j, hj, rfl⟩ := List.mem_take_iff_getElem.1 ha
    have := hfirst j (by omega)
    simpa using this
   (conv => whnf)
   (repeat' ((first | refine ord_ok ?_ ?_ | refine call_eqb tab rfl hif rfl ?_ | refine ify ?_ | refine ifn ?_ | refine i6 ?_ | refine ati ?_ | refine mst ?_ | refine rmd ?_ | refine ibo (fun _ => ?_) (fun _ => ?_) | exact oend) <;> conv => whnf))
   refine loop_lo (ι := Nat × Nat × List Int) (fun x => (x.2.2.length = l.length ∧ x.1 < x.2.1 ∧ x.2.1 ≤ l.length) ∧ x.2.2.take x.1 = ((l.take x.2.1).filter fun x => !p x) ∧ x.2.2.drop x.2.1 = l.drop x.2.1)
    (fun x => [(6, .d (.int .i64 (x.2.1 : Nat))), (5, .d (.int .i64 (x.1 : Nat))), (1, .d (.func (.func g) [] cs)), (0, .own 900)]) (fun x => [(900, .slice 3 1 (x.2.2.map dI))]) (fun x => l.length - x.2.1) (i, i + 1, l) (fun _ => rfl)
    ⟨⟨rfl, by simp, by simp only; omega⟩, hti, rfl⟩ (.refl _ _) ⟨rfl, rfl, rfl, rfl, trivial⟩ ⟨rfl, trivial⟩ ?_
   rintro ⟨i, j, L⟩ ⟨⟨hLl, hij, hjl⟩, hT, hD⟩
   dsimp only at hLl hij hjl hT hD
   have hLm : (L.map dI).length = L.length := List.length_map _
   dsimp only
   refine sxCode_sound c1_ok (G := G_dlf) (pl := pl_dlf) _ _ _ _ (by kernel_rfl) ?_
   by_cases hj : j < l.length
   ·have hx := List.getElem?_eq_getElem hj
    have hpy := hp _ (List.getElem_mem hj)
    generalize l[j] = y at hx hpy
    have hLj : L[j]? = some y := by
     have := congrArg (fun z => z[0]?) hD
     simp only [List.getElem?_drop, Nat.add_zero] at this
     rw [this]; exact hx
    have hxd : (L.map dI)[j]? = some (.int .i64 y) := by rw [List.getElem?_map, hLj]; rfl
    have hD2 : L.drop (j + 1) = l.drop (j + 1) := by
     have := congrArg (List.drop 1) hD
     rwa [List.drop_drop, List.drop_drop] at this
    cases hpv : p y with
    | true =>
      rw [hpv] at hpy
      (conv => whnf)
      (repeat' ((first | refine ord_ok ?_ ?_ | refine el_at (i := j) rfl (by omega) ?_ | refine el_is hxd ?_ | refine call_eq (allD_fn _ _) hpy ?_ | refine ify ?_ | refine ifn ?_ | refine i6 ?_ | refine ati ?_ | refine mst ?_ | refine rmd ?_ | refine ibo (fun _ => ?_) (fun _ => ?_) | exact oend) <;> conv => whnf))
      refine ⟨(i, j + 1, L), _, _, ⟨⟨hLl, by dsimp only; omega, hj⟩, ?_, hD2⟩, .refl _ _, ⟨rfl, rfl, rfl, rfl, trivial⟩, ⟨rfl, trivial⟩, by dsimp only; omega⟩
      dsimp only
      rw [hT, List.take_add_one, hx, Option.toList_some, List.filter_append]
      simp [hpv]
    | false =>
      rw [hpv] at hpy
      have hLi := List.getElem?_eq_getElem (l := L) (i := i) (by omega)
      generalize L[i]'(by omega) = z at hLi
      have hzd : (L.map dI)[i]? = some (.int .i64 z) := by rw [List.getElem?_map, hLi]; rfl
      have hset : (L.map dI).set i (.int .i64 y) = (L.set i y).map dI := by rw [List.map_set]; rfl
      (conv => whnf)
      (repeat' ((first | refine ord_ok ?_ ?_ | refine el_at (i := j) rfl (by omega) ?_ | refine el_is hxd ?_ | refine call_eq (allD_fn _ _) hpy ?_ | refine el_at (i := i) rfl (by omega) ?_ | refine el_is hzd ?_ | refine ify ?_ | refine ifn ?_ | refine i6 ?_ | refine ati ?_ | refine mst ?_ | refine rmd ?_ | refine ibo (fun _ => ?_) (fun _ => ?_) | exact oend) <;> conv => whnf))
      refine ⟨(i + 1, j + 1, L.set i y), _, _, ⟨⟨by rw [List.length_set]; exact hLl, by dsimp only; omega, hj⟩, ?_, ?_⟩, .refl _ _, ⟨rfl, rfl, rfl, rfl, trivial⟩, ⟨slice_is hset, trivial⟩, by dsimp only; omega⟩
      ·dsimp only
       rw [take_set' (by omega), hT, List.take_add_one, hx, Option.toList_some, List.filter_append]
       simp [hpv]
      ·dsimp only
       rw [List.drop_set_of_lt (by omega)]; exact hD2
   ·have hje : j = l.length := by omega
    subst hje
    rw [List.take_length] at hT
    have hL0 : L ≠ [] := fun e => by rw [e] at hLl; simp at hLl; omega
    have hhead : ((L.take i ++ List.replicate (L.length - i) 0).take i).map dI = (l.filter fun x => !p x).map dI := by
     rw [List.take_append_of_le_length (by rw [List.length_take]; omega), List.take_take, Nat.min_self, hT]
    have hL2 : (L.take i ++ List.replicate (L.length - i) (0 : Int)).length = L.length := by rw [List.length_append, List.length_take, List.length_replicate]; omega
    ((conv => whnf); repeat' ((first | refine odw ?_ | refine ify ?_ | refine ifn ?_ | refine i6 ?_ | refine ati ?_ | refine mst ?_ | refine rmd ?_ | refine ibo (fun _ => ?_) (fun _ => ?_)) <;> conv => whnf))
    refine op_tail i c1_ok 900 rfl rfl rfl rfl rfl rfl rfl rfl rfl (by omega) hL0 ⟨by decide, by decide⟩ rfl fun g c => ?_
    ((conv => whnf); repeat' ((first | refine odw ?_ | refine ify ?_ | refine ifn ?_ | refine i6 ?_ | refine ati ?_ | refine mst ?_ | refine rmd ?_ | refine ibo (fun _ => ?_) (fun _ => ?_)) <;> conv => whnf))
    refine op_clear c1_ok 900 rfl rfl rfl rfl rfl rfl (fun w => by kernel_rfl) rfl rfl (by decide) rfl ?_
    ((conv => whnf); repeat' ((first | refine odw ?_ | refine ify ?_ | refine ifn ?_ | refine i6 ?_ | refine ati ?_ | refine mst ?_ | refine rmd ?_ | refine ibo (fun _ => ?_) (fun _ => ?_)) <;> conv => whnf))
    refine op_head c1_ok 900 rfl rfl rfl rfl rfl hL2.symm rfl rfl rfl (by omega) (by decide) rfl ?_
    rw [hhead]
    ((conv => whnf); repeat' ((first | refine odw ?_ | refine ify ?_ | refine ifn ?_ | refine i6 ?_ | refine ati ?_ | refine mst ?_ | refine rmd ?_ | refine ibo (fun _ => ?_) (fun _ => ?_)) <;> conv => whnf))
    exact ⟨rfl, rfl, rfl⟩
def pl_vgc : List (Nat × Plan) := []
def G_vgc : List FuncId := [123]
theorem cok_vgc : codeOk Tryz.prog G_vgc pl_vgc (Tryz.f179.body.getD .skip) = true := by kernel_rfl
theorem run_vgc (vs : Array Value) (w : World) : (callFunc 179 vs).run C1.P w = .ok (.enter 179 vs) w := by kernel_rfl
theorem grow1_pure (G : Gr) (hG : G.Ok) (l : List Int) (v : Int) : Pure C1 179 [.int .i64 v, .ref (dG G), .ref (dIs l)] (fun y => y = .bool (!fitsV G l v)) := by
 have h1 := fits_pure G hG l v
 refine pure_of c1_ok (pl := pl_vgc) (G := G_vgc) Tryz.func179 rfl Tryz.ntmps179 run_vgc cok_vgc (by simp) ?_
 (conv => whnf)
 (repeat' ((first | refine ord_ok ?_ ?_ | refine call_eq rfl h1 ?_ | refine ify ?_ | refine ifn ?_ | refine i6 ?_ | refine ati ?_ | refine mst ?_ | refine rmd ?_ | refine ibo (fun _ => ?_) (fun _ => ?_) | exact oend) <;> conv => whnf))
 exact rfl
def pl_vgw : List (Nat × Plan) := []
def G_vgw : List FuncId := [81]
theorem cok_vgw : codeOk Tryz.prog G_vgw pl_vgw (Tryz.f118.body.getD .skip) = true := by kernel_rfl
theorem run_vgw (vs : Array Value) (w : World) : (callFunc 118 vs).run C1.P w = .ok (.enter 118 vs) w := by kernel_rfl
theorem grow_pure (G : Gr) (hG : G.Ok) (l : List Int) (hb : l.length ≤ 100000) : Pure C1 118 [dG G, dIs l] (fun y => y = dIs (growV G l) ∨ y = .nils ∧ growV G l = []) := by
 have hcn := canon_pure G hG l
 have hnl := nextV_len hG hb
 have hdl := deleteF_eat (nextV G l) 179 [.ref (dG G), .ref (dIs l)] (fun v => !fitsV G l v) hnl (fun v _ => grow1_pure G hG l v)
 refine pure_of c1_ok (pl := pl_vgw) (G := G_vgw) Tryz.func118 rfl Tryz.ntmps118 run_vgw cok_vgw (by simp) ?_
 unfold growV
 cases hc : canonV G l with
 | false =>
   rw [hc] at hcn
   rw [if_neg (by decide)]
   (conv => whnf)
   (repeat' ((first | refine ord_ok ?_ ?_ | refine call_eq rfl hcn ?_ | refine ify ?_ | refine ifn ?_ | refine i6 ?_ | refine ati ?_ | refine mst ?_ | refine rmd ?_ | refine ibo (fun _ => ?_) (fun _ => ?_) | exact oend) <;> conv => whnf))
   exact .inr ⟨rfl, rfl⟩
 | true =>
   rw [hc] at hcn
   rw [if_pos rfl]
   have he : ((nextV G l).filter fun x => !!fitsV G l x) = (nextV G l).filter (fitsV G l) := by simp only [Bool.not_not]
   rw [he] at hdl
   (conv => whnf)
   (repeat' ((first | refine ord_ok ?_ ?_ | refine call_eq rfl hcn ?_ | refine ify ?_ | refine ifn ?_ | refine i6 ?_ | refine ati ?_ | refine mst ?_ | refine rmd ?_ | refine ibo (fun _ => ?_) (fun _ => ?_) | exact oend) <;> conv => whnf))
   refine call_mksl 300 rfl rfl (next_mksl G hG l hb) ?_; rintro ds rfl
   (conv => whnf)
   refine call_eatb tab rfl rfl hdl (fun ds h => by subst h; exact flats_ints _) ?_; rintro ds rfl
   ((conv => whnf); repeat' ((first | refine odw ?_ | refine ify ?_ | refine ifn ?_ | refine i6 ?_ | refine ati ?_ | refine mst ?_ | refine rmd ?_ | refine ibo (fun _ => ?_) (fun _ => ?_)) <;> conv => whnf))
   exact .inl rfl
end Go.Proofs.YtjejpdfldmempaaGreatDoor
end
