/- What the readers compute, in plain Lean: a state is the bytes that are left and the first error. -/
import Derived.Test.YtjlkflbkejpcaaaBase
namespace Go.Proofs.Ytjlkflbkejpcaaa
open Go.RowKit

/-- A reader's state: what is left, the first error. -/
abbrev RS := ByteArray × Int

def failF (x : RS) (e : Int) : RS := if x.2 = 0 then (x.1, e) else x
theorem failF_err {x : RS} {e : Int} (h : x.2 ≠ 0) : failF x e = x := by simp [failF, h]
theorem failF_ok {s : ByteArray} {e : Int} : failF (s, 0) e = (s, e) := by simp [failF]
theorem failF_left (x : RS) (e : Int) : (failF x e).1 = x.1 := by unfold failF; split <;> rfl
def rawF (x : RS) (n : Int) : ByteArray × RS :=
  if x.2 ≠ 0 then (⟨#[]⟩, x) else if n < 0 then (⟨#[]⟩, x.1, 1) else if (x.1.size : Int) < n then (⟨#[]⟩, x.1, 2)
  else (x.1.extract 0 n.toNat, x.1.extract n.toNat x.1.size, 0)
theorem rawF_err {x : RS} {n : Int} (h : x.2 ≠ 0) : rawF x n = (⟨#[]⟩, x) := by simp [rawF, h]
theorem rawF_neg {s : ByteArray} {n : Int} (h : n < 0) : rawF (s, 0) n = (⟨#[]⟩, s, 1) := by simp [rawF, h]
theorem rawF_short {s : ByteArray} {n : Int} (h : (s.size : Int) < n) : rawF (s, 0) n = (⟨#[]⟩, s, 2) := by
  have : ¬ n < 0 := by omega
  simp [rawF, h, this]
theorem rawF_ok {s : ByteArray} {n : Int} (h0 : 0 ≤ n) (h : n ≤ s.size) : rawF (s, 0) n = (s.extract 0 n.toNat, s.extract n.toNat s.size, 0) := by
  have h1 : ¬ n < 0 := by omega
  have h2 : ¬ (s.size : Int) < n := by omega
  simp [rawF, h1, h2]
theorem rawF_size (x : RS) (n : Int) : (rawF x n).1.size ≤ x.1.size ∧ (rawF x n).2.1.size ≤ x.1.size := by
  unfold rawF
  split
  · exact ⟨Nat.zero_le _, Nat.le_refl _⟩
  · split
    · exact ⟨Nat.zero_le _, Nat.le_refl _⟩
    · split
      · exact ⟨Nat.zero_le _, Nat.le_refl _⟩
      · simp only [ByteArray.size_extract]
        omega

/-- One byte more of a number, as the machine has it. -/
def orStep (y : Int) (c : UInt8) : Int := bits .or .i64 (wrap64 (y * 256)) (wrap64 (c.toNat : Int))
def beF (l : List UInt8) : Int := l.foldl orStep 0
theorem beF_snoc (l : List UInt8) (c : UInt8) : beF (l ++ [c]) = orStep (beF l) c := by simp [beF]
theorem beF_take (s : ByteArray) (k : Nat) (h : k < s.size) : beF (s.data.toList.take (k + 1)) = orStep (beF (s.data.toList.take k)) s.data[k] := by
  rw [List.take_succ_eq_append_getElem (by simpa using h), beF_snoc]; rfl
theorem take_all (s : ByteArray) (k : Nat) (h : ¬ k < s.size) : s.data.toList.take k = s.data.toList :=
  List.take_of_length_le (by rw [Array.length_toList]; exact Nat.not_lt.1 h)
def numF (x : RS) (n : Int) : Int × RS := (beF (rawF x n).1.data.toList, (rawF x n).2)
theorem numF_size (x : RS) (n : Int) : (numF x n).2.1.size ≤ x.1.size := (rawF_size x n).2

/-- Is the first of eight bytes too great for a number of this kind? -/
def topB (x : RS) : Bool := if h : 8 ≤ x.1.size then decide (128 ≤ (x.1[0]'(by omega)).toNat) else false
def eightF (x : RS) : RS := if topB x = true then failF x 3 else x
theorem eightF_left (x : RS) : (eightF x).1 = x.1 := by unfold eightF; split <;> simp [failF_left]
def textF (x : RS) (most : Int) : ByteArray × RS :=
  if x.2 ≠ 0 then (⟨#[]⟩, x) else
    let y := numF x 2
    let z := if (if most < 0 then 0 else most) < y.1 then failF y.2 4 else y.2
    let t := rawF z y.1
    (t.1, if t.2.2 ≠ 0 then (x.1, t.2.2) else t.2)
theorem textF_err {x : RS} {m : Int} (h : x.2 ≠ 0) : textF x m = (⟨#[]⟩, x) := by unfold textF; rw [if_pos h]
theorem textF_ok {s : ByteArray} {m n : Int} {x1 x2 : RS} {t : ByteArray × RS} (hn : (numF (s, 0) 2).1 = n) (h1 : (numF (s, 0) 2).2 = x1) (h2 : (if (if m < 0 then 0 else m) < n then failF x1 4 else x1) = x2) (ht : rawF x2 n = t) :
    textF (s, 0) m = (t.1, if t.2.2 ≠ 0 then (s, t.2.2) else t.2) := by
  unfold textF
  simp only [hn, h1, h2, ht, ne_eq, not_true_eq_false, if_false]
def endF (x : RS) : RS := if x.1.size > 0 then failF x 3 else x
end Go.Proofs.Ytjlkflbkejpcaaa
