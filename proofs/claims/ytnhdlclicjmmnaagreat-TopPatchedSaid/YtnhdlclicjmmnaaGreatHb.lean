/- Small general lemmas on worlds and blocks that the seat's contracts share. -/
import Derived.Below
import Derived.Deep.Draws
import Derived.Deep.AppendLies
import Derived.OwnWalk
import Derived.Laws.BytesArg
import Derived.Laws.MakeOwn
import Derived.Laws.OwnMore
import Derived.Deep.OwnRows
import Derived.Tactics
import Derived.Lib.ConvBytes
import Derived.Laws.Slices
import Derived.WalkKit
import Derived.KernelRfl
import Derived.RowKit3
import Derived.Deep.LoopGhost
import Derived.Deep.QuietTactic
import Derived.BigQuiet
import Derived.WideLaws
import Derived.Deep.DeepCutAuto
import Derived.Deep.CutBlock
import Derived.Deep.RegionHeld3
import Derived.Laws.Rows
import Derived.Lib.AppendStr
import Derived.Lib.Hide
import Derived.ArgAppend
import Derived.RowKit
import Derived.Test.YtnhdlclicjmmnaaGreatProg
import Derived.Outline
namespace Go.Proofs.YtnhdlclicjmmnaaGreat
open Go.RowKit

/-- Of the blocks that were there only those of S may have turned. -/
structure Chg (S : Nat → Prop) (w w' : World) : Prop where
  os : w'.os = w.os
  tape : w'.tape = w.tape
  output : w'.output = w.output
  size : w.heap.size ≤ w'.heap.size
  block : ∀ k, k < w.heap.size → ¬ S k → w'.heap[k]? = w.heap[k]?

namespace Chg
variable {S S' : Nat → Prop} {w w1 w2 : World}
theorem refl (S : Nat → Prop) (w : World) : Chg S w w := ⟨rfl, rfl, rfl, Nat.le_refl _, fun _ _ _ => rfl⟩
theorem mono (h : Chg S w w1) (hs : ∀ k, S k → S' k ∨ w.heap.size ≤ k) : Chg S' w w1 :=
  ⟨h.os, h.tape, h.output, h.size, fun k hk hn => h.block k hk fun h2 => (hs k h2).elim hn fun h3 => absurd hk (Nat.not_lt.2 h3)⟩
theorem trans (h : Chg S w w1) (h2 : Chg S' w1 w2) (hs : ∀ k, S' k → S k ∨ w.heap.size ≤ k) : Chg S w w2 :=
  ⟨h2.os.trans h.os, h2.tape.trans h.tape, h2.output.trans h.output, Nat.le_trans h.size h2.size, fun k hk hn =>
    (h2.block k (Nat.lt_of_lt_of_le hk h.size) fun h3 => (hs k h3).elim hn fun h4 => absurd hk (Nat.not_lt.2 h4)).trans (h.block k hk hn)⟩
theorem alloc (h : Chg S w w1) (o : Obj) : Chg S w (w1.alloc o) :=
  h.trans (S' := S) ⟨rfl, rfl, rfl, by simp, fun k hk _ => Below.heap_alloc _ _ _ hk⟩ (fun _ hk => .inl hk)
theorem drew (h : Chg S w w1) : Chg S w w1.drew := ⟨h.os, h.tape, h.output, h.size, h.block⟩
theorem drewN (h : Chg S w w1) (n : Nat) : Chg S w (w1.drewN n) := ⟨h.os, h.tape, h.output, h.size, h.block⟩
theorem setCell (h : Chg S w w1) {p : Addr} (hp : S p.block ∨ w.heap.size ≤ p.block) (u : Value) : Chg S w (w1.setCell p u) :=
  h.trans (S' := fun k => k = p.block) ⟨rfl, rfl, rfl, by simp [World.setCell], fun k _ hn => Below.heap_setCell _ _ _ _ hn⟩ (fun k hk => by rw [hk]; exact hp)
theorem grown {row : Option Nat} (h : Chg S w w1) (hg : w1.grownBy w2 row) (hr : ∀ k, row = some k → S k ∨ w.heap.size ≤ k) : Chg S w w2 :=
  h.trans (S' := fun k => row = some k) ⟨hg.os, hg.tape, hg.output, hg.size, fun k hk hn => hg.block k hk (fun e => hn e.symm)⟩ hr
theorem of_below (h : Below w.heap.size w w1) (S : Nat → Prop) : Chg S w w1 := ⟨h.os, h.tape, h.output, h.size, fun k hk _ => h.block k hk⟩
theorem below (h : Chg S w w1) {B : Nat} (hs : ∀ k, S k → B ≤ k) (hB : B ≤ w.heap.size) : Below B w w1 :=
  ⟨h.os, h.tape, h.output, h.size, fun k hk => h.block k (Nat.lt_of_lt_of_le hk hB) (fun h2 => absurd hk (Nat.not_lt.2 (hs k h2)))⟩
theorem then_below {B : Nat} {a : World} (hb : Below B a w) (h : Chg S w w1) (hs : ∀ k, S k → B ≤ k) (hB : B ≤ w.heap.size) : Below B a w1 := hb.trans (h.below hs hB)
theorem obj (h : Chg S w w1) {g : Nat} {o : Obj} (hb : w.heap[g]? = some o) (hn : ¬ S g) : w1.heap[g]? = some o :=
  (h.block g (Array.getElem?_eq_some_iff.1 hb).1 hn).trans hb
end Chg

theorem blkLt {w : World} {g : Nat} {o : Obj} (h : w.heap[g]? = some o) : g < w.heap.size := (Array.getElem?_eq_some_iff.1 h).1
theorem blkCell {w : World} {g : Nat} {t : TypeId} {cs : Array Value} (h : w.heap[g]? = some (.cells cs t (0, 0))) (i : Nat) : w.cell? ⟨g, i, none⟩ = cs[i]? := cell_of_row w g i cs t (0, 0) h
theorem blkFree {w : World} {g : Nat} {t : TypeId} {cs : Array Value} (h : w.heap[g]? = some (.cells cs t (0, 0))) (i : Nat) : w.frozen? ⟨g, i, none⟩ = false := by simp [World.frozen?, h]
theorem blkSet {w : World} {g : Nat} {t : TypeId} {cs : Array Value} (h : w.heap[g]? = some (.cells cs t (0, 0))) (i : Nat) (u : Value) : (w.setCell ⟨g, i, none⟩ u).heap[g]? = some (.cells (cs.setIfInBounds i u) t (0, 0)) := by
  simp [World.setCell, Array.getElem?_modify, h]
theorem blkNe {w : World} {g g' : Nat} {t t' : TypeId} {cs cs' : Array Value} (h : w.heap[g]? = some (.cells cs t (0, 0))) (h' : w.heap[g']? = some (.cells cs' t' (0, 0))) (hne : t ≠ t') : g ≠ g' := by
  rintro rfl
  rw [h] at h'
  injection h' with h'
  injection h' with _ ht
  exact hne ht
theorem blkAlloc (w : World) (o : Obj) : (w.alloc o).heap[w.heap.size]? = some o := by
  show (w.heap.push o)[w.heap.size]? = _
  simp
theorem blkOld {w : World} {g : Nat} {o : Obj} (h : w.heap[g]? = some o) (o' : Obj) : (w.alloc o').heap[g]? = some o :=
  (Below.heap_alloc w o' g (blkLt h)).trans h
theorem blkDrewN {w : World} {g : Nat} {o : Obj} (h : w.heap[g]? = some o) (n : Nat) : (w.drewN n).heap[g]? = some o := h
theorem blkDrew {w : World} {g : Nat} {o : Obj} (h : w.heap[g]? = some o) : w.drew.heap[g]? = some o := h
end Go.Proofs.YtnhdlclicjmmnaaGreat
/- Turning a word: bits.RotateLeft32, sha.turned, ostlerref01.right. -/
namespace Go.Proofs.YtnhdlclicjmmnaaGreat
open Go.RowKit

/-- A word turned right. -/
def rot (x : Int) (n : Nat) : Int := bits .or .u32 (x / 2 ^ n) (x * 2 ^ (32 - n) % 4294967296)
theorem bits_or_comm (a b : Int) : bits .or .u32 a b = bits .or .u32 b a := by
  show IntKind.wrap .u32 ((BitVec.ofInt _ a ||| BitVec.ofInt _ b).toNat : Int) = IntKind.wrap .u32 ((BitVec.ofInt _ b ||| BitVec.ofInt _ a).toNat : Int)
  rw [BitVec.or_comm]
theorem u32_wrap (x : Int) : IntKind.u32.wrap x = x % 4294967296 := by
  unfold IntKind.wrap
  simp [IntKind.signed, IntKind.bits]
theorem u32_range (x : Int) : 0 ≤ IntKind.u32.wrap x ∧ IntKind.u32.wrap x < 4294967296 := by
  rw [u32_wrap]
  omega
theorem bits_range (op : BinOp) (a b : Int) : 0 ≤ bits op .u32 a b ∧ bits op .u32 a b < 4294967296 := by
  unfold bits
  constructor
  · exact (u32_range _).1
  · exact (u32_range _).2
theorem rot_range (x : Int) (n : Nat) : 0 ≤ rot x n ∧ rot x n < 4294967296 := bits_range _ _ _
theorem left_2 (w : World) (x : Int) (_h0 : 0 ≤ x) (_h1 : x < 4294967296) : Calls Tryz.prog 113 #[.int .u32 x, .int .i64 (-2)] w fun e w' => e = .returned (.int .u32 (rot x 2)) ∧ w = w' := by
  have hr : rot x 2 = bits .or .u32 (x * 1073741824 % 4294967296) (x / 4) := bits_or_comm _ _
  rw [hr]
  clear hr
  have hb : bits BinOp.and IntKind.u64 (IntKind.u64.wrap (-2)) 31 = 30 := by decide
  go_enter Tryz.func113, Tryz.ntmps113
  go_wp2
  go_ret
  exact ⟨rfl, rfl⟩
theorem turned_2 (w : World) (x : Int) (h0 : 0 ≤ x) (h1 : x < 4294967296) : Calls Tryz.prog 100 #[.int .u32 x, .int .i64 2] w fun e w' => e = .returned (.int .u32 (rot x 2)) ∧ w' = w := by
  go_enter Tryz.func100, Tryz.ntmps100
  go_wp2_with (go_at_call 113; refine (left_2 _ x h0 h1).mono ?_; rintro e w1 ⟨rfl, rfl⟩)
  go_ret
  exact ⟨rfl, rfl⟩
theorem left_6 (w : World) (x : Int) (_h0 : 0 ≤ x) (_h1 : x < 4294967296) : Calls Tryz.prog 113 #[.int .u32 x, .int .i64 (-6)] w fun e w' => e = .returned (.int .u32 (rot x 6)) ∧ w = w' := by
  have hr : rot x 6 = bits .or .u32 (x * 67108864 % 4294967296) (x / 64) := bits_or_comm _ _
  rw [hr]
  clear hr
  have hb : bits BinOp.and IntKind.u64 (IntKind.u64.wrap (-6)) 31 = 26 := by decide
  go_enter Tryz.func113, Tryz.ntmps113
  go_wp2
  go_ret
  exact ⟨rfl, rfl⟩
theorem turned_6 (w : World) (x : Int) (h0 : 0 ≤ x) (h1 : x < 4294967296) : Calls Tryz.prog 100 #[.int .u32 x, .int .i64 6] w fun e w' => e = .returned (.int .u32 (rot x 6)) ∧ w' = w := by
  go_enter Tryz.func100, Tryz.ntmps100
  go_wp2_with (go_at_call 113; refine (left_6 _ x h0 h1).mono ?_; rintro e w1 ⟨rfl, rfl⟩)
  go_ret
  exact ⟨rfl, rfl⟩
theorem left_7 (w : World) (x : Int) (_h0 : 0 ≤ x) (_h1 : x < 4294967296) : Calls Tryz.prog 113 #[.int .u32 x, .int .i64 (-7)] w fun e w' => e = .returned (.int .u32 (rot x 7)) ∧ w = w' := by
  have hr : rot x 7 = bits .or .u32 (x * 33554432 % 4294967296) (x / 128) := bits_or_comm _ _
  rw [hr]
  clear hr
  have hb : bits BinOp.and IntKind.u64 (IntKind.u64.wrap (-7)) 31 = 25 := by decide
  go_enter Tryz.func113, Tryz.ntmps113
  go_wp2
  go_ret
  exact ⟨rfl, rfl⟩
theorem turned_7 (w : World) (x : Int) (h0 : 0 ≤ x) (h1 : x < 4294967296) : Calls Tryz.prog 100 #[.int .u32 x, .int .i64 7] w fun e w' => e = .returned (.int .u32 (rot x 7)) ∧ w' = w := by
  go_enter Tryz.func100, Tryz.ntmps100
  go_wp2_with (go_at_call 113; refine (left_7 _ x h0 h1).mono ?_; rintro e w1 ⟨rfl, rfl⟩)
  go_ret
  exact ⟨rfl, rfl⟩
theorem left_11 (w : World) (x : Int) (_h0 : 0 ≤ x) (_h1 : x < 4294967296) : Calls Tryz.prog 113 #[.int .u32 x, .int .i64 (-11)] w fun e w' => e = .returned (.int .u32 (rot x 11)) ∧ w = w' := by
  have hr : rot x 11 = bits .or .u32 (x * 2097152 % 4294967296) (x / 2048) := bits_or_comm _ _
  rw [hr]
  clear hr
  have hb : bits BinOp.and IntKind.u64 (IntKind.u64.wrap (-11)) 31 = 21 := by decide
  go_enter Tryz.func113, Tryz.ntmps113
  go_wp2
  go_ret
  exact ⟨rfl, rfl⟩
theorem turned_11 (w : World) (x : Int) (h0 : 0 ≤ x) (h1 : x < 4294967296) : Calls Tryz.prog 100 #[.int .u32 x, .int .i64 11] w fun e w' => e = .returned (.int .u32 (rot x 11)) ∧ w' = w := by
  go_enter Tryz.func100, Tryz.ntmps100
  go_wp2_with (go_at_call 113; refine (left_11 _ x h0 h1).mono ?_; rintro e w1 ⟨rfl, rfl⟩)
  go_ret
  exact ⟨rfl, rfl⟩
theorem left_13 (w : World) (x : Int) (_h0 : 0 ≤ x) (_h1 : x < 4294967296) : Calls Tryz.prog 113 #[.int .u32 x, .int .i64 (-13)] w fun e w' => e = .returned (.int .u32 (rot x 13)) ∧ w = w' := by
  have hr : rot x 13 = bits .or .u32 (x * 524288 % 4294967296) (x / 8192) := bits_or_comm _ _
  rw [hr]
  clear hr
  have hb : bits BinOp.and IntKind.u64 (IntKind.u64.wrap (-13)) 31 = 19 := by decide
  go_enter Tryz.func113, Tryz.ntmps113
  go_wp2
  go_ret
  exact ⟨rfl, rfl⟩
theorem turned_13 (w : World) (x : Int) (h0 : 0 ≤ x) (h1 : x < 4294967296) : Calls Tryz.prog 100 #[.int .u32 x, .int .i64 13] w fun e w' => e = .returned (.int .u32 (rot x 13)) ∧ w' = w := by
  go_enter Tryz.func100, Tryz.ntmps100
  go_wp2_with (go_at_call 113; refine (left_13 _ x h0 h1).mono ?_; rintro e w1 ⟨rfl, rfl⟩)
  go_ret
  exact ⟨rfl, rfl⟩
theorem left_17 (w : World) (x : Int) (_h0 : 0 ≤ x) (_h1 : x < 4294967296) : Calls Tryz.prog 113 #[.int .u32 x, .int .i64 (-17)] w fun e w' => e = .returned (.int .u32 (rot x 17)) ∧ w = w' := by
  have hr : rot x 17 = bits .or .u32 (x * 32768 % 4294967296) (x / 131072) := bits_or_comm _ _
  rw [hr]
  clear hr
  have hb : bits BinOp.and IntKind.u64 (IntKind.u64.wrap (-17)) 31 = 15 := by decide
  go_enter Tryz.func113, Tryz.ntmps113
  go_wp2
  go_ret
  exact ⟨rfl, rfl⟩
theorem turned_17 (w : World) (x : Int) (h0 : 0 ≤ x) (h1 : x < 4294967296) : Calls Tryz.prog 100 #[.int .u32 x, .int .i64 17] w fun e w' => e = .returned (.int .u32 (rot x 17)) ∧ w' = w := by
  go_enter Tryz.func100, Tryz.ntmps100
  go_wp2_with (go_at_call 113; refine (left_17 _ x h0 h1).mono ?_; rintro e w1 ⟨rfl, rfl⟩)
  go_ret
  exact ⟨rfl, rfl⟩
theorem left_18 (w : World) (x : Int) (_h0 : 0 ≤ x) (_h1 : x < 4294967296) : Calls Tryz.prog 113 #[.int .u32 x, .int .i64 (-18)] w fun e w' => e = .returned (.int .u32 (rot x 18)) ∧ w = w' := by
  have hr : rot x 18 = bits .or .u32 (x * 16384 % 4294967296) (x / 262144) := bits_or_comm _ _
  rw [hr]
  clear hr
  have hb : bits BinOp.and IntKind.u64 (IntKind.u64.wrap (-18)) 31 = 14 := by decide
  go_enter Tryz.func113, Tryz.ntmps113
  go_wp2
  go_ret
  exact ⟨rfl, rfl⟩
theorem turned_18 (w : World) (x : Int) (h0 : 0 ≤ x) (h1 : x < 4294967296) : Calls Tryz.prog 100 #[.int .u32 x, .int .i64 18] w fun e w' => e = .returned (.int .u32 (rot x 18)) ∧ w' = w := by
  go_enter Tryz.func100, Tryz.ntmps100
  go_wp2_with (go_at_call 113; refine (left_18 _ x h0 h1).mono ?_; rintro e w1 ⟨rfl, rfl⟩)
  go_ret
  exact ⟨rfl, rfl⟩
theorem left_19 (w : World) (x : Int) (_h0 : 0 ≤ x) (_h1 : x < 4294967296) : Calls Tryz.prog 113 #[.int .u32 x, .int .i64 (-19)] w fun e w' => e = .returned (.int .u32 (rot x 19)) ∧ w = w' := by
  have hr : rot x 19 = bits .or .u32 (x * 8192 % 4294967296) (x / 524288) := bits_or_comm _ _
  rw [hr]
  clear hr
  have hb : bits BinOp.and IntKind.u64 (IntKind.u64.wrap (-19)) 31 = 13 := by decide
  go_enter Tryz.func113, Tryz.ntmps113
  go_wp2
  go_ret
  exact ⟨rfl, rfl⟩
theorem turned_19 (w : World) (x : Int) (h0 : 0 ≤ x) (h1 : x < 4294967296) : Calls Tryz.prog 100 #[.int .u32 x, .int .i64 19] w fun e w' => e = .returned (.int .u32 (rot x 19)) ∧ w' = w := by
  go_enter Tryz.func100, Tryz.ntmps100
  go_wp2_with (go_at_call 113; refine (left_19 _ x h0 h1).mono ?_; rintro e w1 ⟨rfl, rfl⟩)
  go_ret
  exact ⟨rfl, rfl⟩
theorem left_22 (w : World) (x : Int) (_h0 : 0 ≤ x) (_h1 : x < 4294967296) : Calls Tryz.prog 113 #[.int .u32 x, .int .i64 (-22)] w fun e w' => e = .returned (.int .u32 (rot x 22)) ∧ w = w' := by
  have hr : rot x 22 = bits .or .u32 (x * 1024 % 4294967296) (x / 4194304) := bits_or_comm _ _
  rw [hr]
  clear hr
  have hb : bits BinOp.and IntKind.u64 (IntKind.u64.wrap (-22)) 31 = 10 := by decide
  go_enter Tryz.func113, Tryz.ntmps113
  go_wp2
  go_ret
  exact ⟨rfl, rfl⟩
theorem turned_22 (w : World) (x : Int) (h0 : 0 ≤ x) (h1 : x < 4294967296) : Calls Tryz.prog 100 #[.int .u32 x, .int .i64 22] w fun e w' => e = .returned (.int .u32 (rot x 22)) ∧ w' = w := by
  go_enter Tryz.func100, Tryz.ntmps100
  go_wp2_with (go_at_call 113; refine (left_22 _ x h0 h1).mono ?_; rintro e w1 ⟨rfl, rfl⟩)
  go_ret
  exact ⟨rfl, rfl⟩
theorem left_25 (w : World) (x : Int) (_h0 : 0 ≤ x) (_h1 : x < 4294967296) : Calls Tryz.prog 113 #[.int .u32 x, .int .i64 (-25)] w fun e w' => e = .returned (.int .u32 (rot x 25)) ∧ w = w' := by
  have hr : rot x 25 = bits .or .u32 (x * 128 % 4294967296) (x / 33554432) := bits_or_comm _ _
  rw [hr]
  clear hr
  have hb : bits BinOp.and IntKind.u64 (IntKind.u64.wrap (-25)) 31 = 7 := by decide
  go_enter Tryz.func113, Tryz.ntmps113
  go_wp2
  go_ret
  exact ⟨rfl, rfl⟩
theorem turned_25 (w : World) (x : Int) (h0 : 0 ≤ x) (h1 : x < 4294967296) : Calls Tryz.prog 100 #[.int .u32 x, .int .i64 25] w fun e w' => e = .returned (.int .u32 (rot x 25)) ∧ w' = w := by
  go_enter Tryz.func100, Tryz.ntmps100
  go_wp2_with (go_at_call 113; refine (left_25 _ x h0 h1).mono ?_; rintro e w1 ⟨rfl, rfl⟩)
  go_ret
  exact ⟨rfl, rfl⟩
theorem turned_any (w : World) (x n : Int) (h0 : 0 ≤ x) (h1 : x < 4294967296) (hn : n = 2 ∨ n = 6 ∨ n = 7 ∨ n = 11 ∨ n = 13 ∨ n = 17 ∨ n = 18 ∨ n = 19 ∨ n = 22 ∨ n = 25) : Calls Tryz.prog 100 #[.int .u32 x, .int .i64 n] w fun e w' => e = .returned (.int .u32 (rot x n.toNat)) ∧ w' = w := by
  rcases hn with rfl | rfl | rfl | rfl | rfl | rfl | rfl | rfl | rfl | rfl
  · exact turned_2 w x h0 h1
  · exact turned_6 w x h0 h1
  · exact turned_7 w x h0 h1
  · exact turned_11 w x h0 h1
  · exact turned_13 w x h0 h1
  · exact turned_17 w x h0 h1
  · exact turned_18 w x h0 h1
  · exact turned_19 w x h0 h1
  · exact turned_22 w x h0 h1
  · exact turned_25 w x h0 h1
end Go.Proofs.YtnhdlclicjmmnaaGreat
