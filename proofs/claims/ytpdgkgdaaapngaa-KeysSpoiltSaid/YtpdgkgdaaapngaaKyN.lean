/- Keys: Number, of both packages. -/
import Derived.Test.YtpdgkgdaaapngaaKyA
import Derived.StillTailTactics
namespace Go.Proofs.Ytpdgkgdaaapngaa
open Go.RowKit
set_option maxRecDepth 100000 in
set_option maxHeartbeats 2000000 in
theorem Number_calls (w : World) (s : ByteArray) (hs : s.size ≤ 140737488355328) :
    Calls Try.prog 10 #[.string s] w fun e w' => e = .returned (.tuple #[.int .i64 (numN s), .int .i64 (numE s)]) ∧ Chg (fun _ => False) w w' := by
  by_cases h1 : 291 ≤ s.size
  · have e0 := bAt_get s 0 (by omega)
    have e1 := bAt_get s 1 (by omega)
    have e2 := bAt_get s 2 (by omega)
    obtain ⟨r00, r01⟩ := bAt_range s 0
    obtain ⟨r10, r11⟩ := bAt_range s 1
    obtain ⟨r20, r21⟩ := bAt_range s 2
    have hN : numOk s ↔ 291 ≤ s.size ∧ bAt s 0 ≤ 4 ∧ (s.size : Int) = 291 + 32 * bAt s 0 ∧ bAt s 1 * 256 + bAt s 2 < 2 ^ (bAt s 0).toNat := Iff.rfl
    have hNN : numN s = if numOk s then bAt s 1 * 256 + bAt s 2 else 0 := rfl
    have hNE : numE s = if numOk s then 0 else 3 := rfl
    obtain ⟨N, hn⟩ : ∃ N, numN s = N := ⟨_, rfl⟩
    obtain ⟨E, he⟩ : ∃ E, numE s = E := ⟨_, rfl⟩
    rw [hn] at hNN ⊢
    rw [he] at hNE ⊢
    clear hn he
    obtain ⟨B0, hB0⟩ : ∃ B0, bAt s 0 = B0 := ⟨_, rfl⟩
    obtain ⟨B1, hB1⟩ : ∃ B1, bAt s 1 = B1 := ⟨_, rfl⟩
    obtain ⟨B2, hB2⟩ : ∃ B2, bAt s 2 = B2 := ⟨_, rfl⟩
    rw [hB0] at e0 hN r00 r01
    rw [hB1] at e1 hN hNN r10 r11
    rw [hB2] at e2 hN hNN r20 r21
    replace e0 := e0.symm
    replace e1 := e1.symm
    replace e2 := e2.symm
    clear hB0 hB1 hB2
    have ho := orWord B1 B2 r10 r11 r20 r21
    by_cases h0 : B0 ≤ 4
    · by_cases hz : (s.size : Int) = 291 + 32 * B0
      · have hz' : ((s.size : Int) != 291 + 32 * B0) = false := by simp [hz]
        have HZ := Lib.hid hz
        clear hz
        by_cases hlt : B1 * 256 + B2 < 2 ^ B0.toNat
        · have hok : numOk s := hN.2 ⟨h1, h0, HZ.out, hlt⟩
          rw [if_pos hok] at hNN hNE
          subst hNN hNE
          clear hN hok
          obtain rfl | rfl | rfl | rfl | rfl : B0 = 0 ∨ B0 = 1 ∨ B0 = 2 ∨ B0 = 3 ∨ B0 = 4 := by omega
          all_goals simp at hlt hz'
          all_goals (try have hlt2 : B1 * 256 + B2 < 1 := hlt)
          all_goals go_enter Try.func10, Try.ntmps10
          all_goals go_wp2
          all_goals go_quiet (fail)
          all_goals go_wp2
          all_goals go_ret2
          all_goals exact ⟨rfl, (Chg.refl _ w).drewN _⟩
        · have hok : ¬ numOk s := fun h => hlt (hN.1 h).2.2.2
          rw [if_neg hok] at hNN hNE
          subst hNN hNE
          clear hN hok
          obtain rfl | rfl | rfl | rfl | rfl : B0 = 0 ∨ B0 = 1 ∨ B0 = 2 ∨ B0 = 3 ∨ B0 = 4 := by omega
          all_goals simp at hlt hz'
          all_goals go_enter Try.func10, Try.ntmps10
          all_goals go_wp2
          all_goals go_quiet (fail)
          all_goals go_wp2
          all_goals go_ret2
          all_goals exact ⟨rfl, (Chg.refl _ w).drewN _⟩
      · have hok : ¬ numOk s := fun h => hz (hN.1 h).2.2.1
        rw [if_neg hok] at hNN hNE
        subst hNN hNE
        clear hN hok ho
        have hz' : ((s.size : Int) != 291 + 32 * B0) = true := by simpa using hz
        go_enter Try.func10, Try.ntmps10
        go_wp2
        go_ret2
        exact ⟨rfl, Chg.refl _ w⟩
    · have hok : ¬ numOk s := fun h => h0 (hN.1 h).2.1
      rw [if_neg hok] at hNN hNE
      subst hNN hNE
      clear hN hok ho
      go_enter Try.func10, Try.ntmps10
      go_wp2
      go_ret2
      exact ⟨rfl, Chg.refl _ w⟩
  · have hok : ¬ numOk s := fun h => h1 h.1
    rw [show numN s = 0 from if_neg hok, show numE s = 3 from if_neg hok]
    clear hok
    go_enter Try.func10, Try.ntmps10
    go_wp2
    go_ret2
    exact ⟨rfl, Chg.refl _ w⟩
set_option maxRecDepth 100000 in
set_option maxHeartbeats 2000000 in
theorem rNumber_calls (w : World) (s : ByteArray) (hs : s.size ≤ 140737488355328) :
    Calls Try.prog 11 #[.string s] w fun e w' => e = .returned (.tuple #[.int .i64 (numN s), .int .i64 (numE s)]) ∧ Chg (fun _ => False) w w' := by
  by_cases h1 : 291 ≤ s.size
  · have e0 := bAt_get s 0 (by omega)
    have e1 := bAt_get s 1 (by omega)
    have e2 := bAt_get s 2 (by omega)
    obtain ⟨r00, r01⟩ := bAt_range s 0
    obtain ⟨r10, r11⟩ := bAt_range s 1
    obtain ⟨r20, r21⟩ := bAt_range s 2
    have hN : numOk s ↔ 291 ≤ s.size ∧ bAt s 0 ≤ 4 ∧ (s.size : Int) = 291 + 32 * bAt s 0 ∧ bAt s 1 * 256 + bAt s 2 < 2 ^ (bAt s 0).toNat := Iff.rfl
    have hNN : numN s = if numOk s then bAt s 1 * 256 + bAt s 2 else 0 := rfl
    have hNE : numE s = if numOk s then 0 else 3 := rfl
    obtain ⟨N, hn⟩ : ∃ N, numN s = N := ⟨_, rfl⟩
    obtain ⟨E, he⟩ : ∃ E, numE s = E := ⟨_, rfl⟩
    rw [hn] at hNN ⊢
    rw [he] at hNE ⊢
    clear hn he
    obtain ⟨B0, hB0⟩ : ∃ B0, bAt s 0 = B0 := ⟨_, rfl⟩
    obtain ⟨B1, hB1⟩ : ∃ B1, bAt s 1 = B1 := ⟨_, rfl⟩
    obtain ⟨B2, hB2⟩ : ∃ B2, bAt s 2 = B2 := ⟨_, rfl⟩
    rw [hB0] at e0 hN r00 r01
    rw [hB1] at e1 hN hNN r10 r11
    rw [hB2] at e2 hN hNN r20 r21
    replace e0 := e0.symm
    replace e1 := e1.symm
    replace e2 := e2.symm
    clear hB0 hB1 hB2
    have ho := orWord B1 B2 r10 r11 r20 r21
    by_cases h0 : B0 ≤ 4
    · by_cases hz : (s.size : Int) = 291 + 32 * B0
      · have hz' : ((s.size : Int) != 291 + 32 * B0) = false := by simp [hz]
        have HZ := Lib.hid hz
        clear hz
        by_cases hlt : B1 * 256 + B2 < 2 ^ B0.toNat
        · have hok : numOk s := hN.2 ⟨h1, h0, HZ.out, hlt⟩
          rw [if_pos hok] at hNN hNE
          subst hNN hNE
          clear hN hok
          obtain rfl | rfl | rfl | rfl | rfl : B0 = 0 ∨ B0 = 1 ∨ B0 = 2 ∨ B0 = 3 ∨ B0 = 4 := by omega
          all_goals simp at hlt hz'
          all_goals (try have hlt2 : B1 * 256 + B2 < 1 := hlt)
          all_goals go_enter Try.func11, Try.ntmps11
          all_goals go_wp2
          all_goals go_quiet (fail)
          all_goals go_wp2
          all_goals go_ret2
          all_goals exact ⟨rfl, (Chg.refl _ w).drewN _⟩
        · have hok : ¬ numOk s := fun h => hlt (hN.1 h).2.2.2
          rw [if_neg hok] at hNN hNE
          subst hNN hNE
          clear hN hok
          obtain rfl | rfl | rfl | rfl | rfl : B0 = 0 ∨ B0 = 1 ∨ B0 = 2 ∨ B0 = 3 ∨ B0 = 4 := by omega
          all_goals simp at hlt hz'
          all_goals go_enter Try.func11, Try.ntmps11
          all_goals go_wp2
          all_goals go_quiet (fail)
          all_goals go_wp2
          all_goals go_ret2
          all_goals exact ⟨rfl, (Chg.refl _ w).drewN _⟩
      · have hok : ¬ numOk s := fun h => hz (hN.1 h).2.2.1
        rw [if_neg hok] at hNN hNE
        subst hNN hNE
        clear hN hok ho
        have hz' : ((s.size : Int) != 291 + 32 * B0) = true := by simpa using hz
        go_enter Try.func11, Try.ntmps11
        go_wp2
        go_ret2
        exact ⟨rfl, Chg.refl _ w⟩
    · have hok : ¬ numOk s := fun h => h0 (hN.1 h).2.1
      rw [if_neg hok] at hNN hNE
      subst hNN hNE
      clear hN hok ho
      go_enter Try.func11, Try.ntmps11
      go_wp2
      go_ret2
      exact ⟨rfl, Chg.refl _ w⟩
  · have hok : ¬ numOk s := fun h => h1 h.1
    rw [show numN s = 0 from if_neg hok, show numE s = 3 from if_neg hok]
    clear hok
    go_enter Try.func11, Try.ntmps11
    go_wp2
    go_ret2
    exact ⟨rfl, Chg.refl _ w⟩
end Go.Proofs.Ytpdgkgdaaapngaa
