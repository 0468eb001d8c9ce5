/- Keys: the reference's ID, Left, Skip. -/
import Derived.Test.YtpdgkgdaaapngaaKyR
import Derived.StillTailTactics
namespace Go.Proofs.Ytpdgkgdaaapngaa
open Go.RowKit
theorem lev_pos (seed : ByteArray) (h k : Nat) (hk : k ≤ h) : 0 < (lev seed h k).length := by
  rw [lev_len _ _ _ hk]
  exact Nat.two_pow_pos _
set_option maxRecDepth 100000 in
set_option maxHeartbeats 2000000 in
theorem rNew_bad (w : World) (seed : ByteArray) (h : Int) (hh : h < 0 ∨ 4 < h) :
    Calls Try.prog 14 #[.string seed, .int .i64 h] w fun e w' => e = .returned (.tuple #[.pointer none, .int .i64 1]) ∧ w' = w := by
  rcases hh with hh | hh
  all_goals go_enter Try.func14, Try.ntmps14
  all_goals go_wp2_with fail
  all_goals go_ret2
  all_goals exact ⟨rfl, rfl⟩
set_option maxRecDepth 100000 in
set_option maxHeartbeats 2000000 in
theorem rID_calls (w : World) (b : Nat) (seed : ByteArray) (h : Nat) (used : Int) (hh : h ≤ 4) (hk : RKey w b seed h used) :
    Calls Try.prog 16 #[.pointer (some ⟨b, 0, none⟩)] w fun e w' => e = .returned (.string (keyId seed h)) ∧ Chg (fun _ => False) w w' := by
  obtain ⟨lv, r, hb, hl⟩ := hk
  obtain ⟨g, c, g2, c2, rfl, hc, hcm, x2, hc2, hcm2, hcells⟩ := hl.get h (by omega) (lev_pos seed h h (Nat.le_refl _))
  have x3 := hcells 0 (lev_pos seed h h (Nat.le_refl _))
  have x0 := blkCell hb 1
  have x1 := blkCell hb 2
  obtain ⟨T, hT⟩ : ∃ T, (lev seed h h).getD 0 nilS = T := ⟨_, rfl⟩
  have hTs : T.size ≤ 32 := by rw [← hT]; exact lev_small _ _ _ _
  obtain ⟨N, hN⟩ : ∃ N, h + 1 = N := ⟨_, rfl⟩
  obtain ⟨N2, hN2⟩ : ∃ N2, (lev seed h h).length = N2 := ⟨_, rfl⟩
  have hp := lev_pos seed h h (Nat.le_refl _)
  rw [show keyId seed h = idF h T from by rw [← hT]; rfl]
  rw [hT] at x3
  rw [hN] at hc
  rw [hN2] at x2 hc2 hp
  have hx1 : w.cell? ⟨b, 2, none⟩ = some (.slice (some ⟨g, 0, none⟩) N c) := by rw [x1, ← hN]; rfl
  have hb0 : (0 : Int) ≤ (h : Int) := by omega
  have hb1 : (h : Int) < (N : Int) := by omega
  have hb2 : (0 : Int) < (N2 : Int) := by omega
  have hb4 : 0 < N2 := by omega
  have hb3 : (h : Int) ≤ 65535 := by omega
  have ht : (h : Int).toNat = h := by omega
  clear hb hl hcells hT hN hN2 x1 hp
  go_enter Try.func16, Try.ntmps16
  go_wp2_with fail
  go_region_held3 (fun w' => w'.cell? ⟨b, 1, none⟩ = some (.int .i64 h) ∧ w'.cell? ⟨b, 2, none⟩ = some (.slice (some ⟨g, 0, none⟩) N c) ∧ w'.cell? ⟨g, h, none⟩ = some (.slice (some ⟨g2, 0, none⟩) N2 c2) ∧ w'.cell? ⟨g2, 0, none⟩ = some (.string T)) (first | go_keep | exact ⟨m0, m1, m2, m3⟩) (first
    | (go_at_call 32; refine (id_calls _ h T hTs hb0 hb3).mono ?_; rintro e w3 ⟨rfl, hg⟩; replace hg := Chg.und hg; have m0 := cellChg x0 hg (fun h => h); have m1 := cellChg hx1 hg (fun h => h); have m2 := cellChg x2 hg (fun h => h); have m3 := cellChg x3 hg (fun h => h); have HG := Lib.hid hg; clear hg)
    | fail "NOFIT")
  go_wp2_with fail
  go_ret
  exact ⟨rfl, HG.out⟩
theorem rLeft_calls (w : World) (b : Nat) (seed : ByteArray) (h : Nat) (used : Int) (hh : h ≤ 4) (hu : 0 ≤ used) (hu2 : used ≤ 16) (hk : RKey w b seed h used) :
    Calls Try.prog 25 #[.pointer (some ⟨b, 0, none⟩)] w fun e w' => e = .returned (.int .i64 (2 ^ h - used)) ∧ Chg (fun _ => False) w w' := by
  obtain ⟨lv, r, hb, _⟩ := hk
  have x0 := blkCell hb 1
  have x1 := blkCell hb 3
  obtain ⟨P, hP⟩ : ∃ P : Nat, 2 ^ h = P := ⟨_, rfl⟩
  have hP2 := two_pow_small h hh
  rw [hP] at hP2
  have hw := wrap_pow h P hP hP2.1
  have hPP : ((2 : Int) ^ h) = (P : Int) := by rw [← hP]; simp
  rw [hPP]
  obtain ⟨p1, p0⟩ := hP2
  have hh0 : (0 : Int) ≤ (h : Int) := by omega
  have hh4 : (h : Int) ≤ 4 := by omega
  clear hb hP hPP
  go_enter Try.func25, Try.ntmps25
  go_wp2_with fail
  go_quiet (fail)
  go_wp2_with fail
  go_ret
  exact ⟨rfl, (Chg.refl _ w).drewN _⟩
set_option maxRecDepth 100000 in
set_option maxHeartbeats 2000000 in
theorem rSkip_calls (w : World) (b : Nat) (seed : ByteArray) (h : Nat) (used n : Int) (hh : h ≤ 4) (hk : RKey w b seed h used) :
    Calls Try.prog 23 #[.pointer (some ⟨b, 0, none⟩), .int .i64 n] w fun e w' => e = .returned (.tuple #[]) ∧ RKey w' b seed h (max used (min n (2 ^ h))) ∧ Chg (fun k => k = b) w w' := by
  obtain ⟨lv, r, hb, hl⟩ := hk
  have x0 := blkCell hb 1
  have x1 := blkCell hb 3
  have z1 := blkFree hb 3
  obtain ⟨P, hP⟩ : ∃ P : Nat, 2 ^ h = P := ⟨_, rfl⟩
  have hP2 := two_pow_small h hh
  rw [hP] at hP2
  have hw := wrap_pow h P hP hP2.1
  have hPP : ((2 : Int) ^ h) = (P : Int) := by rw [← hP]; simp
  rw [hPP]
  obtain ⟨p1, p0⟩ := hP2
  have hh0 : (0 : Int) ≤ (h : Int) := by omega
  have hh4 : (h : Int) ≤ 4 := by omega
  have HB := Lib.hid hb
  have HL := Lib.hid hl
  clear hb hl hP hPP
  go_enter Try.func23, Try.ntmps23
  go_wp2_with fail
  go_still_tail 15, (by kernel_rfl)
  change wpList _ _ _ _ _ w.drew
  go_wp2
  go_end0
  have c4 : Chg (fun k => k = b) w (w.setCell ⟨b, 3, none⟩ (.int .i64 (max used (min n P)))) := (Chg.refl (fun k => k = b) w).setCell (p := ⟨b, 3, none⟩) (.inl rfl) _
  exact ⟨rfl, ⟨lv, r, blkSet HB.out 3 _, HL.out.chg c4.drew (Other.one HB.out (by decide)) (Other.one HB.out (by decide))⟩, c4.drew⟩
end Go.Proofs.Ytpdgkgdaaapngaa
