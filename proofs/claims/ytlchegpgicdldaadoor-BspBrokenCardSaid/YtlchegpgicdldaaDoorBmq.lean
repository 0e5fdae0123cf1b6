/- The machine lent as data: Round, States, Worked that turn nothing; Flying, that turns nothing. -/
import Derived.Test.YtlchegpgicdldaaDoorBal
namespace Go.Sx
open Go Go.RowKit Go.Reg
theorem own_list {C : Cx} {B S : List Nat} {w0 w : World} {σ : Sg} {η : Nat → Value} {φ : Nat → List Nat} (hm : Mem C B S w0 σ η φ w) {i E k : Nat} {ds : List Da} (hg : sget i σ = some (.slice E k ds)) : RepC B w (.list k ds) [η i] := by
  have hi := mem_ids (sget_mem hg)
  obtain ⟨css, hs, e2, hrr, hk⟩ := own_slice_val hm hg
  have hlen := repCss_len hrr
  have hr2 := RepCss.later (later_B hm) _ _ hrr
  simp only [RepC]
  rcases hs.shape with ⟨he, hn⟩ | ⟨g, cap, he, hc⟩
  · subst hn
    have : ds = [] := List.eq_nil_of_length_eq_zero hlen.symm
    subst this
    exact ⟨none, 0, [], by rw [he]; rfl, by simp, by unfold maxLen; omega, by simp [RepCss], by simp, .inl rfl⟩
  · have hgi : g ∈ φ i := by rw [e2, he]; simp [Value.ownBlock]
    refine ⟨_, cap, css, by rw [he, hlen], by omega, ?_, hr2, hk, .inr ⟨g, 0, rfl, notIn_B hm hi hgi, hs.lt (by rw [he]; rfl), sl_cells hs he⟩⟩
    rcases hs.2 with ⟨h1, _⟩ | ⟨_, _, _, h1, _, _, _, h2, _⟩
    · rw [he] at h1; cases h1
    · rw [he] at h1; cases h1; exact h2
end Go.Sx
namespace Go.Proofs.YtlchegpgicdldaaDoor
open Go.Sx Go.RowKit Go.Reg

set_option maxRecDepth 100000
def mD (M : Mach) (v : Value) : Da := .agg [.iface M.jt M.jx, .int .i64 M.round, .list 1 (M.states.map dTx), .list 1 (M.inbox.map dTs), .list 1 (M.next.map dTx), .list 1 (M.worked.map dB), .raw v]
def hasM (M : Mach) (σ : Sg) : Prop := sget 900 σ = some (.cells 68 [.d (.iface M.jt M.jx), .d (.int .i64 M.round), .own 901, .own 902, .own 903, .own 904, .own 905]) ∧ sget 901 σ = some (.slice 9 1 (M.states.map dTx)) ∧ sget 902 σ = some (.slice 22 1 (M.inbox.map dTs)) ∧ sget 903 σ = some (.slice 9 1 (M.next.map dTx)) ∧ sget 904 σ = some (.slice 4 1 (M.worked.map dB))
theorem mach_rep {B S : List Nat} {w0 w : World} {σ : Sg} {η : Nat → Value} {φ : Nat → List Nat} (hm : Mem C1 B S w0 σ η φ w) {M : Mach} (h : hasM M σ) : RepC B w (.ref (mD M (η 905))) [η 900] := by
  obtain ⟨h0, h1, h2, h3, h4⟩ := h
  have l1 := own_list hm h1
  have l2 := own_list hm h2
  have l3 := own_list hm h3
  have l4 := own_list hm h4
  obtain ⟨b, cs, e1, e2, hb, hr⟩ := own_cells_val hm h0
  simp only [RepDs, RepD] at hr
  obtain ⟨a1, b1, rfl, r1, a2, b2, rfl, r2, a3, b3, rfl, ⟨_, rfl⟩, a4, b4, rfl, ⟨_, rfl⟩, a5, b5, rfl, ⟨_, rfl⟩, a6, b6, rfl, ⟨_, rfl⟩, a7, b7, rfl, ⟨_, rfl⟩, rfl⟩ := hr
  have r1 := RepC.later (later_B hm) _ _ r1
  have r2 := RepC.later (later_B hm) _ _ r2
  have hbi : b ∈ φ 900 := by rw [e2]; simp
  rw [e1]
  show RepC B w (.ref (.agg _)) _
  have hcs : ∀ (j : Nat) u, (a1 ++ (a2 ++ ([η 901] ++ ([η 902] ++ ([η 903] ++ ([η 904] ++ ([η 905] ++ [])))))))[j]? = some u → w.cell? ⟨b, 0 + j, none⟩ = some u := fun j u hj => by have := hb.cell hj; simpa using this
  have hrr : RepC B w (mD M (η 905)) (a1 ++ (a2 ++ ([η 901] ++ ([η 902] ++ ([η 903] ++ ([η 904] ++ ([η 905] ++ []))))))) := by
    unfold mD
    rw [RepC]
    refine ⟨a1, _, rfl, r1, a2, _, rfl, r2, [η 901], _, rfl, l1, [η 902], _, rfl, l2, [η 903], _, rfl, l3, [η 904], _, rfl, l4, [η 905], [], rfl, ?_, rfl⟩
    simp only [RepC]
  rw [RepC]
  exact ⟨b, 0, _, rfl, notIn_B hm (mem_ids (sget_mem h0)) hbi, hb.lt, hrr, hcs⟩
section
variable {fr : Fr} {σ : Sg}
theorem mach_args {B S : List Nat} {w0 w : World} {η : Nat → Value} {φ : Nat → List Nat} (hm : Mem C1 B S w0 σ η φ w) {M : Mach} (h : hasM M σ) {args : List Dat} {xs : List Da} (ha : allD args = some xs) {css : List (List Value)} (hr : RepDss η (ids σ) (B ++ blocks φ σ) w (.own 900 :: args) css) :
    Reps B w (.ref (mD M (η 905)) :: xs) (List.zipWith toVD (.own 900 :: args) css) := by
  simp only [RepDss, RepD] at hr
  obtain ⟨c1, c2, rfl, ⟨_, rfl⟩, r2⟩ := hr
  obtain ⟨g1, g2⟩ := allD_rep ha r2
  rw [List.zipWith_cons_cons, g2]
  exact reps_cons ⟨[η 900], mach_rep hm h, rfl⟩ ⟨c2, RepCss.later (later_B hm) _ _ g1, rfl⟩
theorem call_mq {q : Bool} {M : Mach} {f : FuncId} {args : List Dat} {xs : List Da} {z : Da} {K : KD} (hM : hasM M σ) (ha : allD args = some xs) (hp : ∀ v, Pure C1 f (.ref (mD M v) :: xs) (fun y => y = z)) (hfl : z.flat = true) (hK : K (.d z) fr σ) : SxCall C1 q f (.own 900 :: args) K fr σ := by
  unfold SxCall
  rintro B S w0 η φ n a w vs hm ⟨css, hr, rfl⟩
  have hgl : Glob C1 B w := fun g hg => (hm.mem.glob g hg).later (later_B hm.mem)
  obtain ⟨g1, g2⟩ := hp (η 905) B w _ (fun b hb => hm.mem.lt b (List.mem_append_left _ hb)) hgl (mach_args hm.mem hM ha hr)
  refine ⟨g1, g2.mono ?_⟩
  rintro e w' ⟨v, y, rfl, rfl, ⟨cs, hv, e2⟩, ht⟩
  exact ⟨v, .d y, fr, σ, η, φ, rfl, hK, ⟨hm.mem.grow ht, hm.fr.later (Later.same ht _) (fun i hi => ⟨hi, rfl⟩), hm.defers, hm.size⟩, ⟨cs, RepC.flat y cs hfl hv, e2⟩, fun _ => ht.ext⟩
theorem call_mqs (j : Nat) {q : Bool} {M : Mach} {f : FuncId} {args : List Dat} {xs : List Da} {E k : Nat} {L : List Da} {K : KD} (hj : sget j σ = none) (hM : hasM M σ) (ha : allD args = some xs) (hp : ∀ v, MakeSl C1 f (.ref (mD M v) :: xs) E k (fun ds => ds = L)) (hfl : flats L = true) (hK : forceS (sins j (.slice E k L) σ) fun σ => K (.own j) fr σ) : SxCall C1 q f (.own 900 :: args) K fr σ := by
  unfold SxCall
  rintro B S w0 η φ n a w vs hm ⟨css, hr, rfl⟩
  have hgl : Glob C1 B w := fun g hg => (hm.mem.glob g hg).later (later_B hm.mem)
  obtain ⟨g1, g2⟩ := hp (η 905) B w _ (fun b hb => hm.mem.lt b (List.mem_append_left _ hb)) hgl (mach_args hm.mem hM ha hr)
  refine ⟨g1, g2.mono ?_⟩
  rintro e w' ⟨v, cs2, ds, rfl, rfl, hs, hb, hr2, hk, ht⟩
  obtain ⟨d, fr', σ', η', φ', x1, x2, x3⟩ := mksl_add hm hj hs hb (O := B ++ (v.ownBlock.toList ++ blocks φ σ)) (fun O' => .inl (RepCss.flat _ cs2 hfl hr2)) rfl hk ht hK
  exact ⟨v, d, fr', σ', η', φ', rfl, x1, x2, x3, fun _ => ht.ext⟩
end
theorem dTx_flats (l : List ByteArray) : flats (l.map dTx) = true := flats_map dTx (fun _ => rfl) l
theorem mround_q (M : Mach) (v : Value) : Pure C1 17 [.ref (mD M v)] (fun y => y = .int .i64 M.round) := by
  refine pure_of c1_ok (pl := pl_mround) (G := G_mround) Tryd.func17 rfl Tryd.ntmps17 run_mround cok_mround (by simp) ?_
  ((conv => whnf); repeat' ((first | refine odw ?_ | refine ify ?_ | refine ifn ?_ | refine i6 ?_ | refine ati ?_ | refine mst ?_ | refine rmd ?_ | refine ibo (fun _ => ?_) (fun _ => ?_)) <;> conv => whnf))
  exact rfl
theorem mstates_q (M : Mach) (h : M.states.length ≤ 1000) (v : Value) : MakeSl C1 11 [.ref (mD M v)] 9 1 (fun ds => ds = M.states.map dTx) := by
  have hcl := sclone_sl M.states (by omega)
  refine mksl_of c1_ok (pl := pl_mstates) (G := G_mstates) Tryd.func11 rfl Tryd.ntmps11 run_mstates cok_mstates (by simp) ?_
  (conv => whnf)
  (repeat' ((first | refine ord_ok (by (conv => whnf); (repeat' ((first | refine call_mkslE 907 rfl rfl hcl ?_ | refine ify ?_ | refine ifn ?_ | refine i6 ?_ | refine ati ?_ | refine mst ?_ | refine rmd ?_ | refine ibo (fun _ => ?_) (fun _ => ?_)) <;> conv => whnf)); (all_goals (repeat' (first | exact trivial | exact rfl | refine And.intro ?_ ?_)))) ?_ | refine call_mkslE 907 rfl rfl hcl ?_ | refine ify ?_ | refine ifn ?_ | refine i6 ?_ | refine ati ?_ | refine mst ?_ | refine rmd ?_ | refine ibo (fun _ => ?_) (fun _ => ?_)) <;> conv => whnf))
  exact ⟨rfl, rfl, rfl⟩
theorem mhas_q (M : Mach) (w : Int) (h0 : 0 ≤ w) (h1 : w < M.states.length) (v : Value) : Pure C1 32 [.ref (mD M v), .int .i64 w] (fun y => y = .nili) := by
  have hlm : (M.states.map dTx).length = M.states.length := List.length_map _
  refine pure_of c1_ok (pl := pl_mhas) (G := G_mhas) Tryd.func32 rfl Tryd.ntmps32 run_mhas cok_mhas (by simp) ?_
  ((conv => whnf); repeat' ((first | refine odw ?_ | refine ify ?_ | refine ifn ?_ | refine i6 ?_ | refine ati ?_ | refine mst ?_ | refine rmd ?_ | refine ibo (fun _ => ?_) (fun _ => ?_)) <;> conv => whnf))
  exact rfl
theorem mworked_q (M : Mach) (w : Nat) (b : Bool) (h1 : w < M.states.length) (hb : M.worked[w]? = some b) (v : Value) : Pure C1 15 [.ref (mD M v), .int .i64 w] (fun y => y = .bool b) := by
  have hbd : (M.worked.map dB)[w]? = some (.bool b) := by rw [List.getElem?_map, hb]; rfl
  have hh := mhas_q M w (by omega) (by omega) v
  refine pure_of c1_ok (pl := pl_mworked) (G := G_mworked) Tryd.func15 rfl Tryd.ntmps15 run_mworked cok_mworked (by simp) ?_
  (conv => whnf)
  (repeat' ((first | refine ord_ok (by (conv => whnf); (repeat' ((first | refine call_eq rfl hh ?_ | refine at_da hbd rfl ?_ | refine ify ?_ | refine ifn ?_ | refine i6 ?_ | refine ati ?_ | refine mst ?_ | refine rmd ?_ | refine ibo (fun _ => ?_) (fun _ => ?_)) <;> conv => whnf)); (all_goals (repeat' (first | exact trivial | exact rfl | refine And.intro ?_ ?_)))) ?_ | refine call_eq rfl hh ?_ | refine at_da hbd rfl ?_ | refine ify ?_ | refine ifn ?_ | refine i6 ?_ | refine ati ?_ | refine mst ?_ | refine rmd ?_ | refine ibo (fun _ => ?_) (fun _ => ?_)) <;> conv => whnf))
  exact rfl
set_option maxRecDepth 100000 in
theorem hnet_ok (b : Nat) (cs : List Value) (v : Value) (w : World) (hb : Blk w b 68 cs) (h6 : cs[6]? = some v) : Calls Tryd.prog 34 #[.pointer (some ⟨b, 0, none⟩)] w fun e w' => e = .returned v ∧ w = w' := by
  have c6 := hb.cell h6
  clear hb h6
  go_enter Tryd.func34, Tryd.ntmps34
  go_wp2_with fail
  go_ret
  exact ⟨rfl, rfl⟩
set_option maxRecDepth 100000 in
theorem hfly_ok (b : Nat) (cs : List Value) (p : Nat) (N : NetM) (F : List Nat) (w : World) (hb : Blk w b 68 cs) (h6 : cs[6]? = some (.pointer (some ⟨p, 0, none⟩))) (hN : NetAt w p N F) (hf : N.flying.length ≤ 4294967296) :
    Calls Tryd.prog 16 #[.pointer (some ⟨b, 0, none⟩)] w fun e w' => e = .returned (.int .i64 N.flying.length) ∧ Tch [] w w' := by
  have HN := hid hN
  have HB := hid hb
  clear hN hb
  go_enter Tryd.func16, Tryd.ntmps16
  go_wp2_with fail
  refine (hnet_ok b cs _ w HB.out h6).mono ?_
  rintro e w' ⟨rfl, rfl⟩
  go_wp2_with fail
  refine (flying_ok p N F w HN.out hf).mono ?_
  rintro e w' ⟨v', rfl, hs, ht⟩
  obtain ⟨aa, c, rfl⟩ := sl_len_eq hs.sl
  have HT := hid ht
  clear ht hs
  go_wp2_with fail
  go_ret
  exact ⟨rfl, HT.out⟩
theorem call_mqf {fr : Fr} {σ : Sg} {q : Bool} {M : Mach} {K : KD} (hM : hasM M σ) (h5 : sget 905 σ = some (netO M.net).own) (hf : M.net.flying.length ≤ 4294967296) (hK : K (.d (.int .i64 M.net.flying.length)) fr σ) : SxCall C1 q 16 [.own 900] K fr σ := by
  unfold SxCall
  rintro B S w0 η φ n a w vs hm ⟨css, hr, rfl⟩
  simp only [RepDss, RepD] at hr
  obtain ⟨c1, c2, rfl, ⟨_, rfl⟩, rfl⟩ := hr
  obtain ⟨b, cs, e1, e2, hb, hrr⟩ := own_cells_val hm.mem hM.1
  obtain ⟨p, e5, hN⟩ : ∃ p, η 905 = .pointer (some ⟨p, 0, none⟩) ∧ NetAt w p M.net (φ 905) := hm.mem.own _ (sget_mem h5)
  have h6 : cs[6]? = some (.pointer (some ⟨p, 0, none⟩)) := by
    simp only [RepDs, RepD, RepC] at hrr
    obtain ⟨a1, b1, rfl, ⟨_, _, rfl⟩, a2, b2, rfl, rfl, a3, b3, rfl, ⟨_, rfl⟩, a4, b4, rfl, ⟨_, rfl⟩, a5, b5, rfl, ⟨_, rfl⟩, a6, b6, rfl, ⟨_, rfl⟩, a7, b7, rfl, ⟨_, rfl⟩, rfl⟩ := hrr
    simp [e5]
  have hz : (List.zipWith toVD [Dat.own 900] [[η 900]]).toArray = #[.pointer (some ⟨b, 0, none⟩)] := by rw [← e1]; rfl
  rw [hz]
  refine ⟨by kernel_rfl, (hfly_ok b cs p M.net _ w hb h6 hN hf).mono ?_⟩
  rintro e w' ⟨rfl, ht⟩
  exact ⟨_, .d (.int .i64 M.net.flying.length), fr, σ, η, φ, rfl, hK, ⟨hm.mem.grow ht, hm.fr.later (Later.same ht _) (fun i hi => ⟨hi, rfl⟩), hm.defers, hm.size⟩, ⟨[.int .i64 M.net.flying.length], by simp only [RepD, RepC], rfl⟩, fun _ => ht.ext⟩
end Go.Proofs.YtlchegpgicdldaaDoor
