/- Turning a word: bits.RotateLeft32, sha.turned, ostlerref01.right. -/
import Derived.Test.YtmbipabiagdaaaaGreatDoorBase
import Derived.Test.YtmbipabiagdaaaaGreatDoorProg
import Derived.Outline
namespace Go.Proofs.YtmbipabiagdaaaaGreatDoor
open Go.RowKit

/-- A word turned right. -/
def rot (x : Int) (n : Nat) : Int := bits .or .u32 (x / 2 ^ n) (x * 2 ^ (32 - n) % 4294967296)
theorem bits_or_comm (a b : Int) : bits .or .u32 a b = bits .or .u32 b a := by
  show IntKind.wrap .u32 ((BitVec.ofInt _ a ||| BitVec.ofInt _ b).toNat : Int) = IntKind.wrap .u32 ((BitVec.ofInt _ b ||| BitVec.ofInt _ a).toNat : Int)
  rw [BitVec.or_comm]
theorem u32_wrap (x : Int) : IntKind.u32.wrap x = x % 4294967296 := by
  unfold IntKind.wrap
  simp [IntKind.signed, IntKind.bits]
theorem u32_range (x : Int) : 0 ≤ IntKind.u32.wrap x ∧ IntKind.u32.wrap x < 4294967296 := by
  rw [u32_wrap]
  omega
theorem bits_range (op : BinOp) (a b : Int) : 0 ≤ bits op .u32 a b ∧ bits op .u32 a b < 4294967296 := by
  unfold bits
  constructor
  · exact (u32_range _).1
  · exact (u32_range _).2
theorem rot_range (x : Int) (n : Nat) : 0 ≤ rot x n ∧ rot x n < 4294967296 := bits_range _ _ _
theorem left_2 (w : World) (x : Int) (_h0 : 0 ≤ x) (_h1 : x < 4294967296) : Calls Tryz.prog 157 #[.int .u32 x, .int .i64 (-2)] w fun e w' => e = .returned (.int .u32 (rot x 2)) ∧ w = w' := by
  have hr : rot x 2 = bits .or .u32 (x * 1073741824 % 4294967296) (x / 4) := bits_or_comm _ _
  rw [hr]
  clear hr
  have hb : bits BinOp.and IntKind.u64 (IntKind.u64.wrap (-2)) 31 = 30 := by decide
  go_enter Tryz.func157, Tryz.ntmps157
  go_wp2
  go_ret
  exact ⟨rfl, rfl⟩
theorem turned_2 (w : World) (x : Int) (h0 : 0 ≤ x) (h1 : x < 4294967296) : Calls Tryz.prog 156 #[.int .u32 x, .int .i64 2] w fun e w' => e = .returned (.int .u32 (rot x 2)) ∧ w' = w := by
  go_enter Tryz.func156, Tryz.ntmps156
  go_wp2_with (go_at_call 157; refine (left_2 _ x h0 h1).mono ?_; rintro e w1 ⟨rfl, rfl⟩)
  go_ret
  exact ⟨rfl, rfl⟩
theorem left_6 (w : World) (x : Int) (_h0 : 0 ≤ x) (_h1 : x < 4294967296) : Calls Tryz.prog 157 #[.int .u32 x, .int .i64 (-6)] w fun e w' => e = .returned (.int .u32 (rot x 6)) ∧ w = w' := by
  have hr : rot x 6 = bits .or .u32 (x * 67108864 % 4294967296) (x / 64) := bits_or_comm _ _
  rw [hr]
  clear hr
  have hb : bits BinOp.and IntKind.u64 (IntKind.u64.wrap (-6)) 31 = 26 := by decide
  go_enter Tryz.func157, Tryz.ntmps157
  go_wp2
  go_ret
  exact ⟨rfl, rfl⟩
theorem turned_6 (w : World) (x : Int) (h0 : 0 ≤ x) (h1 : x < 4294967296) : Calls Tryz.prog 156 #[.int .u32 x, .int .i64 6] w fun e w' => e = .returned (.int .u32 (rot x 6)) ∧ w' = w := by
  go_enter Tryz.func156, Tryz.ntmps156
  go_wp2_with (go_at_call 157; refine (left_6 _ x h0 h1).mono ?_; rintro e w1 ⟨rfl, rfl⟩)
  go_ret
  exact ⟨rfl, rfl⟩
theorem left_7 (w : World) (x : Int) (_h0 : 0 ≤ x) (_h1 : x < 4294967296) : Calls Tryz.prog 157 #[.int .u32 x, .int .i64 (-7)] w fun e w' => e = .returned (.int .u32 (rot x 7)) ∧ w = w' := by
  have hr : rot x 7 = bits .or .u32 (x * 33554432 % 4294967296) (x / 128) := bits_or_comm _ _
  rw [hr]
  clear hr
  have hb : bits BinOp.and IntKind.u64 (IntKind.u64.wrap (-7)) 31 = 25 := by decide
  go_enter Tryz.func157, Tryz.ntmps157
  go_wp2
  go_ret
  exact ⟨rfl, rfl⟩
theorem turned_7 (w : World) (x : Int) (h0 : 0 ≤ x) (h1 : x < 4294967296) : Calls Tryz.prog 156 #[.int .u32 x, .int .i64 7] w fun e w' => e = .returned (.int .u32 (rot x 7)) ∧ w' = w := by
  go_enter Tryz.func156, Tryz.ntmps156
  go_wp2_with (go_at_call 157; refine (left_7 _ x h0 h1).mono ?_; rintro e w1 ⟨rfl, rfl⟩)
  go_ret
  exact ⟨rfl, rfl⟩
theorem left_11 (w : World) (x : Int) (_h0 : 0 ≤ x) (_h1 : x < 4294967296) : Calls Tryz.prog 157 #[.int .u32 x, .int .i64 (-11)] w fun e w' => e = .returned (.int .u32 (rot x 11)) ∧ w = w' := by
  have hr : rot x 11 = bits .or .u32 (x * 2097152 % 4294967296) (x / 2048) := bits_or_comm _ _
  rw [hr]
  clear hr
  have hb : bits BinOp.and IntKind.u64 (IntKind.u64.wrap (-11)) 31 = 21 := by decide
  go_enter Tryz.func157, Tryz.ntmps157
  go_wp2
  go_ret
  exact ⟨rfl, rfl⟩
theorem turned_11 (w : World) (x : Int) (h0 : 0 ≤ x) (h1 : x < 4294967296) : Calls Tryz.prog 156 #[.int .u32 x, .int .i64 11] w fun e w' => e = .returned (.int .u32 (rot x 11)) ∧ w' = w := by
  go_enter Tryz.func156, Tryz.ntmps156
  go_wp2_with (go_at_call 157; refine (left_11 _ x h0 h1).mono ?_; rintro e w1 ⟨rfl, rfl⟩)
  go_ret
  exact ⟨rfl, rfl⟩
theorem left_13 (w : World) (x : Int) (_h0 : 0 ≤ x) (_h1 : x < 4294967296) : Calls Tryz.prog 157 #[.int .u32 x, .int .i64 (-13)] w fun e w' => e = .returned (.int .u32 (rot x 13)) ∧ w = w' := by
  have hr : rot x 13 = bits .or .u32 (x * 524288 % 4294967296) (x / 8192) := bits_or_comm _ _
  rw [hr]
  clear hr
  have hb : bits BinOp.and IntKind.u64 (IntKind.u64.wrap (-13)) 31 = 19 := by decide
  go_enter Tryz.func157, Tryz.ntmps157
  go_wp2
  go_ret
  exact ⟨rfl, rfl⟩
theorem turned_13 (w : World) (x : Int) (h0 : 0 ≤ x) (h1 : x < 4294967296) : Calls Tryz.prog 156 #[.int .u32 x, .int .i64 13] w fun e w' => e = .returned (.int .u32 (rot x 13)) ∧ w' = w := by
  go_enter Tryz.func156, Tryz.ntmps156
  go_wp2_with (go_at_call 157; refine (left_13 _ x h0 h1).mono ?_; rintro e w1 ⟨rfl, rfl⟩)
  go_ret
  exact ⟨rfl, rfl⟩
theorem left_17 (w : World) (x : Int) (_h0 : 0 ≤ x) (_h1 : x < 4294967296) : Calls Tryz.prog 157 #[.int .u32 x, .int .i64 (-17)] w fun e w' => e = .returned (.int .u32 (rot x 17)) ∧ w = w' := by
  have hr : rot x 17 = bits .or .u32 (x * 32768 % 4294967296) (x / 131072) := bits_or_comm _ _
  rw [hr]
  clear hr
  have hb : bits BinOp.and IntKind.u64 (IntKind.u64.wrap (-17)) 31 = 15 := by decide
  go_enter Tryz.func157, Tryz.ntmps157
  go_wp2
  go_ret
  exact ⟨rfl, rfl⟩
theorem turned_17 (w : World) (x : Int) (h0 : 0 ≤ x) (h1 : x < 4294967296) : Calls Tryz.prog 156 #[.int .u32 x, .int .i64 17] w fun e w' => e = .returned (.int .u32 (rot x 17)) ∧ w' = w := by
  go_enter Tryz.func156, Tryz.ntmps156
  go_wp2_with (go_at_call 157; refine (left_17 _ x h0 h1).mono ?_; rintro e w1 ⟨rfl, rfl⟩)
  go_ret
  exact ⟨rfl, rfl⟩
theorem left_18 (w : World) (x : Int) (_h0 : 0 ≤ x) (_h1 : x < 4294967296) : Calls Tryz.prog 157 #[.int .u32 x, .int .i64 (-18)] w fun e w' => e = .returned (.int .u32 (rot x 18)) ∧ w = w' := by
  have hr : rot x 18 = bits .or .u32 (x * 16384 % 4294967296) (x / 262144) := bits_or_comm _ _
  rw [hr]
  clear hr
  have hb : bits BinOp.and IntKind.u64 (IntKind.u64.wrap (-18)) 31 = 14 := by decide
  go_enter Tryz.func157, Tryz.ntmps157
  go_wp2
  go_ret
  exact ⟨rfl, rfl⟩
theorem turned_18 (w : World) (x : Int) (h0 : 0 ≤ x) (h1 : x < 4294967296) : Calls Tryz.prog 156 #[.int .u32 x, .int .i64 18] w fun e w' => e = .returned (.int .u32 (rot x 18)) ∧ w' = w := by
  go_enter Tryz.func156, Tryz.ntmps156
  go_wp2_with (go_at_call 157; refine (left_18 _ x h0 h1).mono ?_; rintro e w1 ⟨rfl, rfl⟩)
  go_ret
  exact ⟨rfl, rfl⟩
theorem left_19 (w : World) (x : Int) (_h0 : 0 ≤ x) (_h1 : x < 4294967296) : Calls Tryz.prog 157 #[.int .u32 x, .int .i64 (-19)] w fun e w' => e = .returned (.int .u32 (rot x 19)) ∧ w = w' := by
  have hr : rot x 19 = bits .or .u32 (x * 8192 % 4294967296) (x / 524288) := bits_or_comm _ _
  rw [hr]
  clear hr
  have hb : bits BinOp.and IntKind.u64 (IntKind.u64.wrap (-19)) 31 = 13 := by decide
  go_enter Tryz.func157, Tryz.ntmps157
  go_wp2
  go_ret
  exact ⟨rfl, rfl⟩
theorem turned_19 (w : World) (x : Int) (h0 : 0 ≤ x) (h1 : x < 4294967296) : Calls Tryz.prog 156 #[.int .u32 x, .int .i64 19] w fun e w' => e = .returned (.int .u32 (rot x 19)) ∧ w' = w := by
  go_enter Tryz.func156, Tryz.ntmps156
  go_wp2_with (go_at_call 157; refine (left_19 _ x h0 h1).mono ?_; rintro e w1 ⟨rfl, rfl⟩)
  go_ret
  exact ⟨rfl, rfl⟩
theorem left_22 (w : World) (x : Int) (_h0 : 0 ≤ x) (_h1 : x < 4294967296) : Calls Tryz.prog 157 #[.int .u32 x, .int .i64 (-22)] w fun e w' => e = .returned (.int .u32 (rot x 22)) ∧ w = w' := by
  have hr : rot x 22 = bits .or .u32 (x * 1024 % 4294967296) (x / 4194304) := bits_or_comm _ _
  rw [hr]
  clear hr
  have hb : bits BinOp.and IntKind.u64 (IntKind.u64.wrap (-22)) 31 = 10 := by decide
  go_enter Tryz.func157, Tryz.ntmps157
  go_wp2
  go_ret
  exact ⟨rfl, rfl⟩
theorem turned_22 (w : World) (x : Int) (h0 : 0 ≤ x) (h1 : x < 4294967296) : Calls Tryz.prog 156 #[.int .u32 x, .int .i64 22] w fun e w' => e = .returned (.int .u32 (rot x 22)) ∧ w' = w := by
  go_enter Tryz.func156, Tryz.ntmps156
  go_wp2_with (go_at_call 157; refine (left_22 _ x h0 h1).mono ?_; rintro e w1 ⟨rfl, rfl⟩)
  go_ret
  exact ⟨rfl, rfl⟩
theorem left_25 (w : World) (x : Int) (_h0 : 0 ≤ x) (_h1 : x < 4294967296) : Calls Tryz.prog 157 #[.int .u32 x, .int .i64 (-25)] w fun e w' => e = .returned (.int .u32 (rot x 25)) ∧ w = w' := by
  have hr : rot x 25 = bits .or .u32 (x * 128 % 4294967296) (x / 33554432) := bits_or_comm _ _
  rw [hr]
  clear hr
  have hb : bits BinOp.and IntKind.u64 (IntKind.u64.wrap (-25)) 31 = 7 := by decide
  go_enter Tryz.func157, Tryz.ntmps157
  go_wp2
  go_ret
  exact ⟨rfl, rfl⟩
theorem turned_25 (w : World) (x : Int) (h0 : 0 ≤ x) (h1 : x < 4294967296) : Calls Tryz.prog 156 #[.int .u32 x, .int .i64 25] w fun e w' => e = .returned (.int .u32 (rot x 25)) ∧ w' = w := by
  go_enter Tryz.func156, Tryz.ntmps156
  go_wp2_with (go_at_call 157; refine (left_25 _ x h0 h1).mono ?_; rintro e w1 ⟨rfl, rfl⟩)
  go_ret
  exact ⟨rfl, rfl⟩
theorem turned_any (w : World) (x n : Int) (h0 : 0 ≤ x) (h1 : x < 4294967296) (hn : n = 2 ∨ n = 6 ∨ n = 7 ∨ n = 11 ∨ n = 13 ∨ n = 17 ∨ n = 18 ∨ n = 19 ∨ n = 22 ∨ n = 25) : Calls Tryz.prog 156 #[.int .u32 x, .int .i64 n] w fun e w' => e = .returned (.int .u32 (rot x n.toNat)) ∧ w' = w := by
  rcases hn with rfl | rfl | rfl | rfl | rfl | rfl | rfl | rfl | rfl | rfl
  · exact turned_2 w x h0 h1
  · exact turned_6 w x h0 h1
  · exact turned_7 w x h0 h1
  · exact turned_11 w x h0 h1
  · exact turned_13 w x h0 h1
  · exact turned_17 w x h0 h1
  · exact turned_18 w x h0 h1
  · exact turned_19 w x h0 h1
  · exact turned_22 w x h0 h1
  · exact turned_25 w x h0 h1
end Go.Proofs.YtmbipabiagdaaaaGreatDoor
