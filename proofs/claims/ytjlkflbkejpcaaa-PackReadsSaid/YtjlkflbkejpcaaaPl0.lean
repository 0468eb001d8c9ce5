/- The walk of PackReads. -/
import Derived.Test.YtjlkflbkejpcaaaOps
import Derived.Test.YtjlkflbkejpcaaaPr
import Derived.Test.YtjlkflbkejpcaaaWl
import Derived.Deep.RegionWith
namespace Go.Proofs.Ytjlkflbkejpcaaa
open Go.RowKit

theorem Read_new (w : World) (s : ByteArray) :
    Calls Try.prog 32 #[.string s] w fun r w' => ∃ b, r = .returned (.pointer (some ⟨b, 0, none⟩)) ∧ RdAt w' 59 b (s, 0) ∧ w.heap.size ≤ b ∧ Chg (fun _ => False) w w' := by
  refine (Read_calls w s).mono ?_
  rintro r w' ⟨rfl, rfl⟩
  exact ⟨_, rfl, blkAlloc w _, Nat.le_refl _, (Chg.refl _ w).alloc _⟩

theorem rRead_new (w : World) (s : ByteArray) :
    Calls Try.prog 33 #[.string s] w fun r w' => ∃ b, r = .returned (.pointer (some ⟨b, 0, none⟩)) ∧ RdAt w' 62 b (s, 0) ∧ w.heap.size ≤ b ∧ Chg (fun _ => False) w w' := by
  refine (rRead_calls w s).mono ?_
  rintro r w' ⟨rfl, rfl⟩
  exact ⟨_, rfl, blkAlloc w _, Nat.le_refl _, (Chg.refl _ w).alloc _⟩

theorem Chg.free {w w1 : World} {S : Nat → Prop} (h : Chg S w w1) (B : Nat) (hs : ∀ k, S k → B ≤ k) {w0 : World} (h0 : Chg (fun _ => False) w0 w) (hB : w0.heap.size ≤ B) : Chg (fun _ => False) w0 w1 :=
  h0.trans h fun k hk => .inr (Nat.le_trans hB (hs k hk))
theorem endF_left (x : RS) : (endF x).1 = x.1 := by unfold endF; split <;> simp [failF_left]
theorem RdAt.lt {w : World} {T b : Nat} {x : RS} (h : RdAt w T b x) : b < w.heap.size := blkLt h

end Go.Proofs.Ytjlkflbkejpcaaa
