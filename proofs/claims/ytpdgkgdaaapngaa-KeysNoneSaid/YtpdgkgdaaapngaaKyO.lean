/- Keys: a nil key; the walk of KeysNone. -/
import Derived.Test.YtpdgkgdaaapngaaKyQ
namespace Go.Proofs.Ytpdgkgdaaapngaa
open Go.RowKit
theorem Skip_nil (w : World) (n : Int) : Calls Try.prog 22 #[.pointer none, .int .i64 n] w fun e w' => e = .returned (.tuple #[]) ∧ w' = w := by
  go_enter Try.func22, Try.ntmps22
  go_wp2
  refine bodyPost_ret (results_none rfl _ _ _) rfl ?_
  exact ⟨rfl, rfl⟩
theorem Sign_nil (w : World) (t : ByteArray) : Calls Try.prog 18 #[.pointer none, .string t] w fun e w' => e = .returned (.tuple #[.string ⟨#[]⟩, .int .i64 1]) ∧ w' = w := by
  go_enter Try.func18, Try.ntmps18
  go_wp2
  go_ret2
  exact ⟨rfl, rfl⟩
theorem ID_nil (w : World) : Calls Try.prog 21 #[.pointer none] w fun e w' => e = .returned (.string ⟨#[]⟩) ∧ w' = w := by
  go_enter Try.func21, Try.ntmps21
  go_wp2
  go_ret
  exact ⟨rfl, rfl⟩
theorem Used_nil (w : World) : Calls Try.prog 20 #[.pointer none] w fun e w' => e = .returned (.int .i64 0) ∧ w' = w := by
  go_enter Try.func20, Try.ntmps20
  go_wp2
  go_ret
  exact ⟨rfl, rfl⟩
theorem Left_nil (w : World) : Calls Try.prog 19 #[.pointer none] w fun e w' => e = .returned (.int .i64 0) ∧ w' = w := by
  go_enter Try.func19, Try.ntmps19
  go_wp2
  go_ret
  exact ⟨rfl, rfl⟩
theorem SignAll_nil (w : World) (A : Option Addr) (m c : Nat) (n : Int) : Calls Try.prog 26 #[.pointer none, .slice A m c, .int .i64 n] w fun e w' => e = .returned (.tuple #[.slice none 0 0, .int .i64 1]) ∧ Chg (fun _ => False) w w' := by
  go_enter Try.func26, Try.ntmps26
  go_wp2
  go_ret2
  exact ⟨rfl, ((Chg.refl _ w).alloc _).alloc _⟩
set_option maxRecDepth 100000 in
set_option maxHeartbeats 4000000 in
theorem KeysNone_walk (text : ByteArray) (n : Int) (w : World) :
    Calls Try.prog 8 #[.string text, .int .i64 n] w fun e w' => e = .returned (.bool true) ∧ Chg (fun _ => False) w w' := by
  go_enter Try.func8, Try.ntmps8
  go_wp2_with (go_at_call 9; refine (signs_calls _).mono ?_; rintro e w0 ⟨rfl, hg⟩; have G0 := Lib.hid hg; clear hg)
  obtain ⟨W1, hW⟩ : ∃ W1, w0.alloc (.cells #[.int .i64 (-1), .int .i64 5, .int .i64 n] 3) = W1 := ⟨_, rfl⟩
  have HB : Hid (W1.heap[w0.heap.size]? = some (.cells #[.int .i64 (-1), .int .i64 5, .int .i64 n] 3 (0, 0))) := Lib.hid (by rw [← hW]; exact blkAlloc w0 _)
  have HG1 : Hid (Chg (fun _ => False) w W1) := Lib.hid (by rw [← hW]; exact G0.out.alloc _)
  obtain ⟨g, hgg⟩ : ∃ g, w0.heap.size = g := ⟨_, rfl⟩
  simp only [hW, hgg] at *
  clear hW hgg
  go_loopw [19] (fun k wx => ∃ i : Nat, i ≤ 3 ∧ k = .int .i64 i ∧ HD (Chg (fun _ => False) W1 wx)) (fun k _ => 3 - (intOf k).toNat)
  case atStart => exact ⟨0, by omega, rfl, ⟨Chg.refl _ _⟩⟩
  case round =>
    obtain ⟨i, hi, rfl, HG⟩ := hrel
    obtain ⟨w2, rfl⟩ : ∃ w2, w2 = wr := ⟨_, rfl⟩
    have hbb := HG.out.obj HB.out (fun h => h)
    by_cases hlt : i < 3
    · obtain ⟨x, hcell⟩ : ∃ x : Int, w2.cell? ⟨g, i, none⟩ = some (.int .i64 x) := by
        rcases i with _ | _ | _ | i
        · exact ⟨_, blkCell hbb 0⟩
        · exact ⟨_, blkCell hbb 1⟩
        · exact ⟨_, blkCell hbb 2⟩
        · omega
      clear hbb
      have q0 : (0 : Int) ≤ (i : Int) := by omega
      have q1 : (i : Int) < 3 := by omega
      by_cases hx : x < 0 ∨ 4 < x
      · have C1 := Lib.hid (New_bad w2 text x hx)
        go_wp2_with (go_at_call 17; refine (C1.out).mono ?_; rintro e w3 ⟨rfl, he3⟩; obtain rfl := he3)
        all_goals exact ⟨⟨i + 1, by omega, by go_num, ⟨HG.out⟩⟩, by simp [intOf]; omega⟩
      · obtain ⟨H, rfl⟩ : ∃ H : Nat, x = H := ⟨x.toNat, by omega⟩
        have C1 := Lib.hid (New_calls w2 text H (by omega))
        have z0 : ¬ ((H : Int) < 0) := by omega
        have z1 : ¬ ((H : Int) > 4) := by omega
        clear hx
        go_wp2_with (go_at_call 17; refine (C1.out).mono ?_; rintro e w3 ⟨b, rfl, hk3, hb3, hg3⟩; have G3 := Lib.hid (HG.out.trans hg3 (fun _ h => h.elim)); clear hk3 hb3 hg3)
        all_goals exact ⟨⟨i + 1, by omega, by go_num, ⟨G3.out⟩⟩, by simp [intOf]; omega⟩
    · obtain rfl : i = 3 := by omega
      go_wp2_with fail
      have HG2 := Lib.hid (HG1.out.trans HG.out (fun _ h => h.elim))
      go_wp2_with (first
        | (go_at_call 22; refine (Skip_nil _ _).mono ?_; rintro e w3 ⟨rfl, he3⟩; obtain rfl := he3)
        | (go_at_call 18; refine (Sign_nil _ _).mono ?_; rintro e w3 ⟨rfl, he3⟩; obtain rfl := he3)
        | (go_at_call 26; refine (SignAll_nil _ _ _ _ _).mono ?_; rintro e w4 ⟨rfl, hg4⟩; have HG4 := Lib.hid ((HG2.out.alloc _).trans hg4 (fun _ h => h.elim)); clear hg4)
        | (go_at_call 21; refine (ID_nil _).mono ?_; rintro e w3 ⟨rfl, he3⟩; obtain rfl := he3)
        | (go_at_call 20; refine (Used_nil _).mono ?_; rintro e w3 ⟨rfl, he3⟩; obtain rfl := he3)
        | (go_at_call 19; refine (Left_nil _).mono ?_; rintro e w3 ⟨rfl, he3⟩; obtain rfl := he3))
      go_ret
      exact ⟨rfl, HG4.out⟩
end Go.Proofs.Ytpdgkgdaaapngaa
