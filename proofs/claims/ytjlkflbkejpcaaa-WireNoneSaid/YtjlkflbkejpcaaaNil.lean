/- A nil network. -/
import Derived.Test.YtjlkflbkejpcaaaTake
namespace Go.Proofs.Ytjlkflbkejpcaaa
open Go.RowKit

theorem Send_nil (w : World) (p : Pk) :
    Calls Try.prog 17 #[.pointer none, Pk.val p] w fun e w' => e = .returned (.int .i64 1) ∧ Chg (fun _ => False) w w' := by
  go_enter Try.func17, Try.ntmps17
  go_wp2_with fail
  go_ret
  exact ⟨rfl, (Chg.refl _ w).alloc _⟩
theorem Take_nil (w : World) (i : Int) :
    Calls Try.prog 20 #[.pointer none, .int .i64 i] w fun e w' => e = .returned (.tuple #[Pk.none.val, .int .i64 5]) ∧ Chg (fun _ => False) w w' := by
  go_enter Try.func20, Try.ntmps20
  go_wp2_with (go_at_call 44; refine (Look_nil _ i).mono ?_; rintro r0 w1 ⟨rfl, hg⟩; simp only [Pk.val, Pk.none]; have HG := Lib.hid hg; have HZ := Lib.hid (hg.obj (blkAlloc w (.cells #[.int .i64 0, .int .i64 0, .string ⟨#[]⟩] 45)) id); have HL := hg.past; clear hg; obtain ⟨z0, z1, z2, y0, y1, y2⟩ := pkCells HZ.out)
  refine bodyPost_ret (v := .tuple #[Pk.none.val, .int .i64 5]) (by simp [results, go_sem, Pk.val, Pk.none, *]) rfl ⟨rfl, ?_⟩
  repeat (first | exact HG.out.kept | refine Chg.alloc ?_ _ | refine Chg.setCell ?_ (.inr (Nat.le_refl _)) _)
theorem Drop_nil (w : World) (i : Int) :
    Calls Try.prog 38 #[.pointer none, .int .i64 i] w fun e w' => e = .returned (.int .i64 5) ∧ Chg (fun _ => False) w w' := by
  go_enter Try.func38, Try.ntmps38
  go_wp2_with (go_at_call 20; refine (Take_nil _ i).mono ?_; rintro r0 w1 ⟨rfl, hg⟩; simp only [Pk.val, Pk.none]; have HG := Lib.hid hg; clear hg)
  go_ret
  exact ⟨rfl, HG.out.alloc _⟩
theorem Twice_nil (w : World) (i : Int) :
    Calls Try.prog 40 #[.pointer none, .int .i64 i] w fun e w' => e = .returned (.int .i64 5) ∧ Chg (fun _ => False) w w' := by
  go_enter Try.func40, Try.ntmps40
  go_wp2_with (go_at_call 44; refine (Look_nil _ i).mono ?_; rintro r0 w1 ⟨rfl, hg⟩; simp only [Pk.val, Pk.none]; have HG := Lib.hid hg; clear hg)
  go_ret
  exact ⟨rfl, HG.out.alloc _⟩
theorem Turn_nil (w : World) (i at_ bits : Int) :
    Calls Try.prog 42 #[.pointer none, .int .i64 i, .int .i64 at_, .int .u8 bits] w fun e w' => e = .returned (.int .i64 5) ∧ Chg (fun _ => False) w w' := by
  go_enter Try.func42, Try.ntmps42
  go_wp2_with (go_at_call 44; refine (Look_nil _ i).mono ?_; rintro r0 w1 ⟨rfl, hg⟩; simp only [Pk.val, Pk.none]; have HG := Lib.hid hg; clear hg)
  go_ret
  exact ⟨rfl, HG.out.alloc _⟩
end Go.Proofs.Ytjlkflbkejpcaaa
