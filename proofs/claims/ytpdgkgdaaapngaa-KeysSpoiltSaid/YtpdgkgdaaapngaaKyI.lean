/- Keys: ID and Sign of package keys. -/
import Derived.Test.YtpdgkgdaaapngaaKyG
namespace Go.Proofs.Ytpdgkgdaaapngaa
open Go.RowKit
set_option maxRecDepth 100000 in
set_option maxHeartbeats 4000000 in
theorem ID_calls (w : World) (b : Nat) (seed : ByteArray) (h : Nat) (used : Int) (hs : seed.size ≤ 140737488351232) (hh : h ≤ 4) (hk : KKey w b seed h used) :
    Calls Try.prog 21 #[.pointer (some ⟨b, 0, none⟩)] w fun e w' => e = .returned (.string (keyId seed h)) ∧ KKey w' b seed h used ∧ Chg (fun k => k = b) w w' := by
  have x1 := hk.cells.2.1
  have HK := Lib.hid hk
  have hh0 : (0 : Int) ≤ (h : Int) := by omega
  have hh4 : (h : Int) ≤ 65535 := by omega
  have ht : (h : Int).toNat = h := by omega
  have hp := lev_pos seed h h (Nat.le_refl _)
  obtain ⟨T, hT⟩ : ∃ T, (lev seed h h).getD 0 nilS = T := ⟨_, rfl⟩
  obtain ⟨N2, hN2⟩ : ∃ N2, (lev seed h h).length = N2 := ⟨_, rfl⟩
  have hTs : T.size ≤ 32 := by rw [← hT]; exact lev_small _ _ _ _
  rw [show keyId seed h = idF h T from by rw [← hT]; rfl]
  rw [hN2] at hp
  have HTT := Lib.hid hT
  have HNN := Lib.hid hN2
  have hp2 : (0 : Int) < (N2 : Int) := by omega
  clear hk hT hN2
  go_enter Try.func21, Try.ntmps21
  go_wp2_with fail
  go_region_with (first
    | (go_at_call 40; refine (tree_calls _ b seed h used hs hh ?_).mono ?_; exact HK.out; rintro e w5 ⟨lv, rl, rfl, hb5, hl5, hg5⟩; obtain ⟨g, cc, g2, c2, rfl, hnc, hcm, x3, hc2, hcm2, hcells⟩ := hl5.get h (Nat.lt_succ_self h) (lev_pos seed h h (Nat.le_refl _)); have x4 := hcells 0 (lev_pos seed h h (Nat.le_refl _)); rw [HTT.out] at x4; rw [HNN.out] at x3; have q1 : (h : Int) < (h : Int) + 1 := (by omega); have m0 : w5.cell? ⟨b, 1, none⟩ = some (.int .i64 h) := blkCell hb5 1; have HK5 : Hid (KKey w5 b seed h used) := Lib.hid ⟨1, _, rl, hb5, .inr ⟨rfl, hl5⟩⟩; have HG5 := Lib.hid hg5.undrew0; clear hb5 hl5 hg5 hcells)
    | (go_at_call 29; refine (named_calls _ h T hTs hh0 hh4).mono ?_; rintro e w6 ⟨rfl, hg6⟩; have HG6 := Lib.hid hg6; clear hg6)
    | fail "NOFIT")
  all_goals go_wp2_with fail
  all_goals go_ret
  all_goals exact ⟨rfl, HK5.out.chg HG6.out (fun h => h) (Other.none _ _) (Other.none _ _), HG5.out.trans HG6.out (fun _ h => h.elim)⟩
end Go.Proofs.Ytpdgkgdaaapngaa
