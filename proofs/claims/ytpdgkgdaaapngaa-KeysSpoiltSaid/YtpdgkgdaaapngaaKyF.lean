/- Keys: what the functions hand back, in plain Lean: levels of a tree, signatures, verifying. -/
import Derived.Test.YtpdgkgdaaapngaaOtK
import Derived.Test.YtpdgkgdaaapngaaKyA
namespace Go.Proofs.Ytpdgkgdaaapngaa
open Go.RowKit
/-- The ID of a height and a top. -/
def idF (h : Int) (top : ByteArray) : ByteArray := tagF 38 [strN h 1, top]
/-- A step up: n says on which side the other one stands. -/
def stepF (n : Int) (x y : ByteArray) : ByteArray := if n % 2 = 0 then tagF 37 [x, y] else tagF 37 [y, x]
def climbF (n : Int) (p : Nat → ByteArray) (x : ByteArray) : Nat → ByteArray
  | 0 => x
  | h + 1 => stepF (n / 2 ^ h) (climbF n p x h) (p h)
def pathF (s : ByteArray) (h : Nat) : ByteArray := s.extract (291 + 32 * h) (323 + 32 * h)
def topF (text s : ByteArray) : ByteArray := climbF (numN s) (pathF s) (recF (numN s) text (s.extract 3 291)) (bAt s 0).toNat
/-- The error of verifying. -/
def verF (id text s : ByteArray) : Int := if numOk s then (if idF (bAt s 0) (topF text s) = id then 0 else 9) else 3
theorem stepF_size (n : Int) (x y : ByteArray) : (stepF n x y).size = 32 := by
  unfold stepF
  split
  · exact tagF_size _ _
  · exact tagF_size _ _
theorem climbF_size (n : Int) (p : Nat → ByteArray) (x : ByteArray) (hx : x.size = 32) (h : Nat) : (climbF n p x h).size = 32 := by
  cases h with
  | zero => exact hx
  | succ h => exact stepF_size _ _ _
theorem numOk_range {s : ByteArray} (h : numOk s) : 0 ≤ numN s ∧ numN s < 2 ^ (bAt s 0).toNat ∧ numN s ≤ 65535 ∧ 0 ≤ bAt s 0 ∧ bAt s 0 ≤ 4 ∧ s.size = 291 + 32 * (bAt s 0).toNat := by
  have e : numN s = bAt s 1 * 256 + bAt s 2 := if_pos h
  obtain ⟨_, h2, h3, h4⟩ := h
  have r0 := bAt_range s 0
  have r1 := bAt_range s 1
  have r2 := bAt_range s 2
  rw [e]
  exact ⟨by omega, h4, by omega, r0.1, h2, by omega⟩
theorem recF_size (n : Int) (text s : ByteArray) (h0 : 0 ≤ n) (h1 : n ≤ 65535) (hs : s.size = 288) : (recF n text s).size = 32 := by
  rw [show recF n text s = tagF 35 [catF (recG n (digF text) s)] from if_pos ⟨h0, h1, hs⟩]
  exact tagF_size _ _
theorem pathF_size (s : ByteArray) (h : Nat) (hs : 323 + 32 * h ≤ s.size) : (pathF s h).size = 32 := by
  rw [pathF, ByteArray.size_extract]
  omega
/-- One level up. -/
def upN (l : List ByteArray) (c : Nat) : List ByteArray := (List.range c).map fun j => tagF 37 [l.getD (2 * j) nilS, l.getD (2 * j + 1) nilS]
def upL (l : List ByteArray) : List ByteArray := upN l (l.length / 2)
def leaves (seed : ByteArray) (n : Nat) : List ByteArray := (List.range n).map fun i : Nat => pubF seed i
def lev (seed : ByteArray) (h : Nat) : Nat → List ByteArray
  | 0 => leaves seed (2 ^ h)
  | k + 1 => upL (lev seed h k)
theorem upN_len (l : List ByteArray) (c : Nat) : (upN l c).length = c := by rw [upN, List.length_map, List.length_range]
theorem upN_succ (l : List ByteArray) (c : Nat) : upN l (c + 1) = upN l c ++ [tagF 37 [l.getD (2 * c) nilS, l.getD (2 * c + 1) nilS]] := by
  rw [upN, List.range_succ, List.map_append]
  rfl
theorem leaves_succ (seed : ByteArray) (n : Nat) : leaves seed (n + 1) = leaves seed n ++ [pubF seed n] := by
  rw [leaves, List.range_succ, List.map_append]
  rfl
theorem leaves_len (seed : ByteArray) (n : Nat) : (leaves seed n).length = n := by rw [leaves, List.length_map, List.length_range]
theorem lev_len (seed : ByteArray) (h : Nat) (k : Nat) (hk : k ≤ h) : (lev seed h k).length = 2 ^ (h - k) := by
  induction k with
  | zero => exact leaves_len _ _
  | succ k ih =>
    show (upL (lev seed h k)).length = _
    rw [upL, upN_len, ih (by omega), show h - k = (h - (k + 1)) + 1 from by omega, Nat.pow_succ, Nat.mul_div_cancel _ (by decide)]
theorem lev_up (seed : ByteArray) (h k j : Nat) (hk : k < h) (hj : j < 2 ^ (h - (k + 1))) : (lev seed h (k + 1)).getD j nilS = tagF 37 [(lev seed h k).getD (2 * j) nilS, (lev seed h k).getD (2 * j + 1) nilS] := by
  have e : (lev seed h k).length / 2 = 2 ^ (h - (k + 1)) := by
    rw [lev_len _ _ _ (by omega), show h - k = (h - (k + 1)) + 1 from by omega, Nat.pow_succ, Nat.mul_div_cancel _ (by decide)]
  show (upL (lev seed h k)).getD j nilS = _
  rw [upL, upN, e, List.getD_eq_getElem?_getD, List.getElem?_map, List.getElem?_range hj]
  rfl
theorem lev_leaf (seed : ByteArray) (h n : Nat) (hn : n < 2 ^ h) : (lev seed h 0).getD n nilS = pubF seed n := by
  show (leaves seed (2 ^ h)).getD n nilS = _
  rw [leaves, List.getD_eq_getElem?_getD, List.getElem?_map, List.getElem?_range hn]
  rfl
theorem pubF_small (seed : ByteArray) (n : Int) : (pubF seed n).size ≤ 32 := by
  unfold pubF
  split
  · exact Nat.le_of_eq (tagF_size _ _)
  · decide
theorem getD_small (l : List ByteArray) (h : ∀ x ∈ l, x.size ≤ 32) (i : Nat) : (l.getD i nilS).size ≤ 32 := by
  rw [List.getD_eq_getElem?_getD]
  cases hx : l[i]? with
  | none => decide
  | some x => exact h x (List.mem_of_getElem? hx)
theorem lev_small (seed : ByteArray) (h k i : Nat) : ((lev seed h k).getD i nilS).size ≤ 32 := by
  refine getD_small _ (fun x hx => ?_) i
  cases k with
  | zero =>
    obtain ⟨n, _, rfl⟩ := List.mem_map.1 hx
    exact pubF_small _ _
  | succ k =>
    obtain ⟨n, _, rfl⟩ := List.mem_map.1 hx
    exact Nat.le_of_eq (tagF_size _ _)
/-- Whoever stands beside n. -/
def sib (n : Nat) : Nat := if n % 2 = 0 then n + 1 else n - 1
theorem sib_lt (h k n : Nat) (hk : k < h) (hn : n < 2 ^ h) : sib (n / 2 ^ k) < 2 ^ (h - k) := by
  have h1 : n / 2 ^ k < 2 ^ (h - k) := by
    rw [Nat.div_lt_iff_lt_mul (Nat.two_pow_pos _), ← Nat.pow_add, show h - k + k = h from by omega]
    exact hn
  have h2 : 2 ^ (h - k) = 2 * 2 ^ (h - k - 1) := by
    rw [show h - k = (h - k - 1) + 1 from by omega, Nat.pow_succ, Nat.mul_comm]
    rfl
  generalize n / 2 ^ k = m at h1 ⊢
  generalize 2 ^ (h - k) = A at h1 h2 ⊢
  generalize 2 ^ (h - k - 1) = B at h2
  unfold sib
  split <;> omega
/-- The bytes of a signature, c of whose path. -/
def sigB (seed : ByteArray) (h n : Nat) (text : ByteArray) (c : Nat) : List UInt8 :=
  numBytes h 1 ++ numBytes n 2 ++ (sigF seed n text).data.toList ++ catL (fun k => (lev seed h k).getD (sib (n / 2 ^ k)) nilS) c
def sigK (seed : ByteArray) (h n : Nat) (text : ByteArray) : ByteArray := strOf (sigB seed h n text h)
def keyId (seed : ByteArray) (h : Nat) : ByteArray := idF h ((lev seed h h).getD 0 nilS)
end Go.Proofs.Ytpdgkgdaaapngaa
