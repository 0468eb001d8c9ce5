/- Keys: a signature's number, in plain Lean; bytes of a string; small facts on bits. -/
import Derived.Test.YtpdgkgdaaapngaaShF2
import Derived.Laws.IdiomStrings
namespace Go.Proofs.Ytpdgkgdaaapngaa
open Go.RowKit
def bAt (s : ByteArray) (j : Nat) : Int := byteAt s.data.toList j
theorem bAt_range (s : ByteArray) (j : Nat) : 0 ≤ bAt s j ∧ bAt s j < 256 := byteAt_range _ j
/-- Has it a signature's form? -/
def numOk (s : ByteArray) : Prop := 291 ≤ s.size ∧ bAt s 0 ≤ 4 ∧ (s.size : Int) = 291 + 32 * bAt s 0 ∧ bAt s 1 * 256 + bAt s 2 < 2 ^ (bAt s 0).toNat
instance (s : ByteArray) : Decidable (numOk s) := by unfold numOk; infer_instance
def numN (s : ByteArray) : Int := if numOk s then bAt s 1 * 256 + bAt s 2 else 0
def numE (s : ByteArray) : Int := if numOk s then 0 else 3
theorem bIdx (h : ByteArray) (c : Nat) (hc : c < h.size) (w : World) : (Instr.index 9 (.string h) (.int .i64 (c : Int))).run Try.prog w = .ok (.int .u8 (bAt h c)) w := by
  have hc2 : c < h.data.size := hc
  rw [run_index_string w 9 h .i64 (c : Int) Try.underlying9, dif_pos ⟨by omega, by omega⟩]
  have e : bAt h c = ((h[c]'hc2).toNat : Int) := by
    simp [bAt, byteAt, List.getD_eq_getElem?_getD]
    rw [Array.getElem?_eq_getElem hc2]
    rfl
  rw [e]
  rfl
theorem bAt_get (h : ByteArray) (c : Nat) (hc : c < h.size) : bAt h c = ((h[c]'hc).toNat : Int) := by
  have hc2 : c < h.data.size := hc
  simp [bAt, byteAt, List.getD_eq_getElem?_getD]
  rw [Array.getElem?_eq_getElem hc2]
  rfl
theorem orWord (a b : Int) (ha : 0 ≤ a) (ha2 : a < 256) (hb : 0 ≤ b) (hb2 : b < 256) : bits .or .i64 (a * 256) b = a * 256 + b := by
  obtain ⟨x, rfl⟩ := Int.eq_ofNat_of_zero_le ha
  obtain ⟨y, rfl⟩ := Int.eq_ofNat_of_zero_le hb
  have h1 : ((x : Int) * 256) = ((x * 256 : Nat) : Int) := by omega
  have h2 : (x * 256) ||| y = x * 256 + y := by
    have := Nat.shiftLeft_add_eq_or_of_lt (show y < 2 ^ 8 by omega) x
    rw [Nat.shiftLeft_eq] at this
    exact this.symm
  have e : bits .or .i64 ((x * 256 : Nat) : Int) (y : Int) = IntKind.i64.wrap (((BitVec.ofNat 64 (x * 256) ||| BitVec.ofNat 64 y).toNat : Nat) : Int) := by
    show IntKind.i64.wrap (((BitVec.ofInt 64 _ ||| BitVec.ofInt 64 _).toNat : Nat) : Int) = _
    rw [BitVec.ofInt_natCast, BitVec.ofInt_natCast]
  rw [h1, e, BitVec.toNat_or, BitVec.toNat_ofNat, BitVec.toNat_ofNat, Nat.mod_eq_of_lt (by omega), Nat.mod_eq_of_lt (by omega), h2, IntKind.wrap_i64]
  omega
end Go.Proofs.Ytpdgkgdaaapngaa
