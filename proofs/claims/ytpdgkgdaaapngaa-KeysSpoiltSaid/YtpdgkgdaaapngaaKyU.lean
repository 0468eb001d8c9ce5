/- Keys: New, the count of what is used. -/
import Derived.Test.YtpdgkgdaaapngaaKyT
import Derived.Laws.LoneSync
namespace Go.Proofs.Ytpdgkgdaaapngaa
open Go.RowKit
theorem load64_calls (w : World) (a : Addr) (x : Int) (hc : w.cell? a = some (.int .i64 x)) :
    Calls Try.prog 39 #[.pointer (some a)] w fun e w' => e = .returned (.int .i64 x) ∧ w' = w := by
  have hl := run_call_load (P := Try.prog) Try.func62 (by kernel_rfl) (by kernel_rfl) (by kernel_rfl) .i64 (by kernel_rfl) hc
  go_enter Try.func39, Try.ntmps39
  go_wp2
  go_ret
  exact ⟨rfl, rfl⟩
theorem cas64_calls (w : World) (a : Addr) (x y : Int) (hc : w.cell? a = some (.int .i64 x)) (hz : w.frozen? a = false) :
    Calls Try.prog 41 #[.pointer (some a), .int .i64 x, .int .i64 y] w fun e w' => e = .returned (.bool true) ∧ w' = w.setCell a (.int .i64 y) := by
  have hl := run_call_cas_hit (P := Try.prog) Try.func66 (by kernel_rfl) (by kernel_rfl) (by kernel_rfl) .i64 (by kernel_rfl) (y := y) hc hz
  go_enter Try.func41, Try.ntmps41
  go_wp2
  go_ret
  exact ⟨rfl, rfl⟩
theorem size_calls (w : World) (b h P : Nat) (hP : 2 ^ h = P) (hh : h ≤ 4) (hc : w.cell? ⟨b, 1, none⟩ = some (.int .i64 h)) :
    Calls Try.prog 38 #[.pointer (some ⟨b, 0, none⟩)] w fun e w' => e = .returned (.int .i64 P) ∧ w' = w := by
  have hP2 := two_pow_small h hh
  rw [hP] at hP2
  have hw := wrap_pow h P hP hP2.1
  have hh0 : (0 : Int) ≤ (h : Int) := by omega
  have hh4 : (h : Int) ≤ 4 := by omega
  clear hP hP2
  go_enter Try.func38, Try.ntmps38
  go_wp2
  go_ret
  exact ⟨rfl, rfl⟩
theorem KKey.cells {w : World} {b : Nat} {seed : ByteArray} {h : Nat} {used : Int} (k : KKey w b seed h used) : w.cell? ⟨b, 0, none⟩ = some (.string seed) ∧ w.cell? ⟨b, 1, none⟩ = some (.int .i64 h) ∧ w.cell? ⟨b, 6, none⟩ = some (.int .i64 used) ∧ w.frozen? ⟨b, 6, none⟩ = false := by
  obtain ⟨d, lv, r, hb, _⟩ := k
  exact ⟨blkCell hb 0, blkCell hb 1, blkCell hb 6, blkFree hb 6⟩
theorem KKey.use {w : World} {b : Nat} {seed : ByteArray} {h : Nat} {used : Int} (k : KKey w b seed h used) (u : Int) : KKey (w.setCell ⟨b, 6, none⟩ (.int .i64 u)) b seed h u ∧ Chg (fun k => k = b) w (w.setCell ⟨b, 6, none⟩ (.int .i64 u)) := by
  obtain ⟨d, lv, r, hb, hl⟩ := k
  have c4 : Chg (fun k => k = b) w (w.setCell ⟨b, 6, none⟩ (.int .i64 u)) := (Chg.refl (fun k => k = b) w).setCell (p := ⟨b, 6, none⟩) (.inl rfl) _
  exact ⟨⟨d, lv, r, blkSet hb 6 _, hl.imp id (fun ⟨e, hl⟩ => ⟨e, hl.chg c4 (Other.one hb (by decide)) (Other.one hb (by decide))⟩)⟩, c4⟩
theorem Used_calls (w : World) (b : Nat) (seed : ByteArray) (h : Nat) (used : Int) (_u0 : 0 ≤ used) (_u1 : used ≤ 16) (hk : KKey w b seed h used) :
    Calls Try.prog 20 #[.pointer (some ⟨b, 0, none⟩)] w fun e w' => e = .returned (.int .i64 used) ∧ w' = w := by
  obtain ⟨_, _, x, _⟩ := hk.cells
  go_enter Try.func20, Try.ntmps20
  go_wp2_with (go_at_call 39; refine (load64_calls _ _ used x).mono ?_; rintro e w' ⟨rfl, rfl⟩)
  go_ret
  exact ⟨rfl, rfl⟩
theorem Left_calls (w : World) (b : Nat) (seed : ByteArray) (h : Nat) (used : Int) (hh : h ≤ 4) (u0 : 0 ≤ used) (u1 : used ≤ 16) (hk : KKey w b seed h used) :
    Calls Try.prog 19 #[.pointer (some ⟨b, 0, none⟩)] w fun e w' => e = .returned (.int .i64 (2 ^ h - used)) ∧ w' = w := by
  obtain ⟨_, x, _, _⟩ := hk.cells
  obtain ⟨P, hP⟩ : ∃ P : Nat, 2 ^ h = P := ⟨_, rfl⟩
  have hP2 := (two_pow_small h hh).1
  rw [hP] at hP2
  have hPP : ((2 : Int) ^ h) = (P : Int) := by rw [← hP]; simp
  rw [hPP]
  have HP := Lib.hid hP
  clear hP hPP
  go_enter Try.func19, Try.ntmps19
  go_wp2_with (first
    | (go_at_call 38; refine (size_calls _ b h P HP.out hh x).mono ?_; rintro e w' ⟨rfl, rfl⟩)
    | (go_at_call 20; refine (Used_calls _ b seed h used u0 u1 hk).mono ?_; rintro e w' ⟨rfl, rfl⟩))
  go_ret
  exact ⟨rfl, rfl⟩
theorem New_calls (w : World) (seed : ByteArray) (h : Nat) (hh : h ≤ 4) :
    Calls Try.prog 17 #[.string seed, .int .i64 h] w fun e w' => ∃ b, e = .returned (.tuple #[.pointer (some ⟨b, 0, none⟩), .int .i64 0]) ∧ KKey w' b seed h 0 ∧ w.heap.size ≤ b ∧ Chg (fun _ => False) w w' := by
  have hh0 : (0 : Int) ≤ (h : Int) := by omega
  have hh4 : (h : Int) ≤ 4 := by omega
  go_enter Try.func17, Try.ntmps17
  go_wp2
  go_ret2
  exact ⟨_, rfl, ⟨0, .slice none 0 0, none, blkAlloc w _, .inl ⟨rfl, rfl⟩⟩, Nat.le_refl _, (Chg.refl _ w).alloc _⟩
theorem New_bad (w : World) (seed : ByteArray) (h : Int) (hh : h < 0 ∨ 4 < h) :
    Calls Try.prog 17 #[.string seed, .int .i64 h] w fun e w' => e = .returned (.tuple #[.pointer none, .int .i64 1]) ∧ w' = w := by
  rcases hh with hh | hh
  all_goals go_enter Try.func17, Try.ntmps17
  all_goals go_wp2
  all_goals go_ret2
  all_goals exact ⟨rfl, rfl⟩
set_option maxRecDepth 100000 in
theorem take_calls (w : World) (b : Nat) (seed : ByteArray) (h : Nat) (used n : Int) (hh : h ≤ 4) (u0 : 0 ≤ used) (u1 : used ≤ 16) (n0 : 0 ≤ n) (n1 : n ≤ 65535) (hn : used + n ≤ 2 ^ h) (hk : KKey w b seed h used) :
    Calls Try.prog 36 #[.pointer (some ⟨b, 0, none⟩), .int .i64 n] w fun e w' => e = .returned (.tuple #[.int .i64 used, .int .i64 0]) ∧ w' = w.setCell ⟨b, 6, none⟩ (.int .i64 (used + n)) := by
  obtain ⟨_, x, y, z⟩ := hk.cells
  obtain ⟨P, hP⟩ : ∃ P : Nat, 2 ^ h = P := ⟨_, rfl⟩
  have hP2 := (two_pow_small h hh).1
  rw [hP] at hP2
  have hPP : ((2 : Int) ^ h) = (P : Int) := by rw [← hP]; simp
  rw [hPP] at hn
  have HP := Lib.hid hP
  clear hP hPP
  go_enter Try.func36, Try.ntmps36
  go_wp2_with fail
  refine wp_loop_rounds 1 ?_
  rw [rounds_succ]
  go_wp2_with (first
    | (go_at_call 39; refine (load64_calls _ _ used y).mono ?_; rintro e w' ⟨rfl, rfl⟩)
    | (go_at_call 38; refine (size_calls _ b h P HP.out hh x).mono ?_; rintro e w' ⟨rfl, rfl⟩)
    | (go_at_call 41; refine (cas64_calls _ _ used (used + n) y z).mono ?_; rintro e w' ⟨rfl, rfl⟩))
  go_ret2
  exact ⟨rfl, rfl⟩
set_option maxRecDepth 100000 in
theorem take_spent (w : World) (b : Nat) (seed : ByteArray) (h : Nat) (used n : Int) (hh : h ≤ 4) (u0 : 0 ≤ used) (u1 : used ≤ 16) (n0 : 0 ≤ n) (n1 : n ≤ 65535) (hn : 2 ^ h < used + n) (hk : KKey w b seed h used) :
    Calls Try.prog 36 #[.pointer (some ⟨b, 0, none⟩), .int .i64 n] w fun e w' => e = .returned (.tuple #[.int .i64 0, .int .i64 8]) ∧ w' = w := by
  obtain ⟨_, x, y, z⟩ := hk.cells
  obtain ⟨P, hP⟩ : ∃ P : Nat, 2 ^ h = P := ⟨_, rfl⟩
  have hP2 := (two_pow_small h hh).1
  rw [hP] at hP2
  have hPP : ((2 : Int) ^ h) = (P : Int) := by rw [← hP]; simp
  rw [hPP] at hn
  have HP := Lib.hid hP
  clear hP hPP
  go_enter Try.func36, Try.ntmps36
  go_wp2_with fail
  refine wp_loop_rounds 1 ?_
  rw [rounds_succ]
  go_wp2_with (first
    | (go_at_call 39; refine (load64_calls _ _ used y).mono ?_; rintro e w' ⟨rfl, rfl⟩)
    | (go_at_call 38; refine (size_calls _ b h P HP.out hh x).mono ?_; rintro e w' ⟨rfl, rfl⟩))
  go_ret2
  exact ⟨rfl, rfl⟩
set_option maxRecDepth 100000 in
theorem Skip_calls (w : World) (b : Nat) (seed : ByteArray) (h : Nat) (used n : Int) (hh : h ≤ 4) (_u0 : 0 ≤ used) (_u1 : used ≤ 16) (hk : KKey w b seed h used) :
    Calls Try.prog 22 #[.pointer (some ⟨b, 0, none⟩), .int .i64 n] w fun e w' => e = .returned (.tuple #[]) ∧ KKey w' b seed h (max used (min n (2 ^ h))) ∧ Chg (fun k => k = b) w w' := by
  obtain ⟨_, x, y, z⟩ := hk.cells
  obtain ⟨P, hP⟩ : ∃ P : Nat, 2 ^ h = P := ⟨_, rfl⟩
  have hP2 := (two_pow_small h hh).1
  rw [hP] at hP2
  have hPP : ((2 : Int) ^ h) = (P : Int) := by rw [← hP]; simp
  rw [hPP]
  have HP := Lib.hid hP
  clear hP hPP
  go_enter Try.func22, Try.ntmps22
  go_wp2_with fail
  refine wp_loop_rounds 1 ?_
  rw [rounds_succ]
  go_wp2_with (first
    | (go_at_call 39; refine (load64_calls _ _ used y).mono ?_; rintro e w' ⟨rfl, rfl⟩)
    | (go_at_call 38; refine (size_calls _ b h P HP.out hh x).mono ?_; rintro e w' ⟨rfl, rfl⟩)
    | (go_at_call 41; refine (cas64_calls _ _ used (max used (min n P)) y z).mono ?_; rintro e w' ⟨rfl, rfl⟩))
  refine bodyPost_ret (results_none rfl _ _ _) rfl ?_
  exact ⟨rfl, hk.use _⟩
end Go.Proofs.Ytpdgkgdaaapngaa
