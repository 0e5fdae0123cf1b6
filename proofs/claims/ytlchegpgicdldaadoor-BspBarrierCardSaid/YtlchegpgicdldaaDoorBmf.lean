/- Flying, that turns nothing. -/
import Derived.Test.YtlchegpgicdldaaDoorBmq
namespace Go.Proofs.YtlchegpgicdldaaDoor
open Go.Sx Go.RowKit Go.Reg

set_option maxRecDepth 100000 in
theorem hnet_ok (b : Nat) (cs : List Value) (v : Value) (w : World) (hb : Blk w b 68 cs) (h6 : cs[6]? = some v) : Calls Tryd.prog 34 #[.pointer (some ⟨b, 0, none⟩)] w fun e w' => e = .returned v ∧ w = w' := by
  have c6 := hb.cell h6
  clear hb h6
  go_enter Tryd.func34, Tryd.ntmps34
  go_wp2_with fail
  go_ret
  exact ⟨rfl, rfl⟩
set_option maxRecDepth 100000 in
theorem hfly_ok (b : Nat) (cs : List Value) (p : Nat) (N : NetM) (F : List Nat) (w : World) (hb : Blk w b 68 cs) (h6 : cs[6]? = some (.pointer (some ⟨p, 0, none⟩))) (hN : NetAt w p N F) (hf : N.flying.length ≤ 4294967296) :
    Calls Tryd.prog 16 #[.pointer (some ⟨b, 0, none⟩)] w fun e w' => e = .returned (.int .i64 N.flying.length) ∧ Tch [] w w' := by
  have HN := hid hN
  have HB := hid hb
  clear hN hb
  go_enter Tryd.func16, Tryd.ntmps16
  go_wp2_with fail
  refine (hnet_ok b cs _ w HB.out h6).mono ?_
  rintro e w' ⟨rfl, rfl⟩
  go_wp2_with fail
  refine (flying_ok p N F w HN.out hf).mono ?_
  rintro e w' ⟨v', rfl, hs, ht⟩
  obtain ⟨aa, c, rfl⟩ := sl_len_eq hs.sl
  have HT := hid ht
  clear ht hs
  go_wp2_with fail
  go_ret
  exact ⟨rfl, HT.out⟩
theorem call_mqf {fr : Fr} {σ : Sg} {q : Bool} {M : Mach} {K : KD} (hM : hasM M σ) (h5 : sget 905 σ = some (netO M.net).own) (hf : M.net.flying.length ≤ 4294967296) (hK : K (.d (.int .i64 M.net.flying.length)) fr σ) : SxCall C1 q 16 [.own 900] K fr σ := by
  unfold SxCall
  rintro B S w0 η φ n a w vs hm ⟨css, hr, rfl⟩
  simp only [RepDss, RepD] at hr
  obtain ⟨c1, c2, rfl, ⟨_, rfl⟩, rfl⟩ := hr
  obtain ⟨b, cs, e1, e2, hb, hrr⟩ := own_cells_val hm.mem hM.1
  obtain ⟨p, e5, hN⟩ : ∃ p, η 905 = .pointer (some ⟨p, 0, none⟩) ∧ NetAt w p M.net (φ 905) := hm.mem.own _ (sget_mem h5)
  have h6 : cs[6]? = some (.pointer (some ⟨p, 0, none⟩)) := by
    simp only [RepDs, RepD, RepC] at hrr
    obtain ⟨a1, b1, rfl, ⟨_, _, rfl⟩, a2, b2, rfl, rfl, a3, b3, rfl, ⟨_, rfl⟩, a4, b4, rfl, ⟨_, rfl⟩, a5, b5, rfl, ⟨_, rfl⟩, a6, b6, rfl, ⟨_, rfl⟩, a7, b7, rfl, ⟨_, rfl⟩, rfl⟩ := hrr
    simp [e5]
  have hz : (List.zipWith toVD [Dat.own 900] [[η 900]]).toArray = #[.pointer (some ⟨b, 0, none⟩)] := by rw [← e1]; rfl
  rw [hz]
  refine ⟨by kernel_rfl, (hfly_ok b cs p M.net _ w hb h6 hN hf).mono ?_⟩
  rintro e w' ⟨rfl, ht⟩
  exact ⟨_, .d (.int .i64 M.net.flying.length), fr, σ, η, φ, rfl, hK, ⟨hm.mem.grow ht, hm.fr.later (Later.same ht _) (fun i hi => ⟨hi, rfl⟩), hm.defers, hm.size⟩, ⟨[.int .i64 M.net.flying.length], by simp only [RepD, RepC], rfl⟩, fun _ => ht.ext⟩
end Go.Proofs.YtlchegpgicdldaaDoor
