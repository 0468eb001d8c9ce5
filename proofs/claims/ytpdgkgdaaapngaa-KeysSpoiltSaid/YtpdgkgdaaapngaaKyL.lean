/- Keys: what a key signs is verified under its ID; in plain Lean. -/
import Derived.Test.YtpdgkgdaaapngaaKyJ
namespace Go.Proofs.Ytpdgkgdaaapngaa
open Go.RowKit
theorem lev_size (seed : ByteArray) (h k j : Nat) (hh : h ≤ 4) (hk : k ≤ h) (hj : j < 2 ^ (h - k)) : ((lev seed h k).getD j nilS).size = 32 := by
  cases k with
  | zero =>
    have h16 := (two_pow_small h hh).1
    rw [Nat.sub_zero] at hj
    rw [lev_leaf seed h j hj, show pubF seed j = tagF 35 [catF (pubG seed j)] from if_pos ⟨by omega, by omega⟩]
    exact tagF_size _ _
  | succ k =>
    rw [lev_up seed h k j (by omega) hj]
    exact tagF_size _ _
theorem cat32_len (g : Nat → ByteArray) (n : Nat) (hg : ∀ i, i < n → (g i).size = 32) : (catL g n).length = 32 * n := by
  induction n with
  | zero => rfl
  | succ n ih =>
    have h2 : (g n).data.toList.length = 32 := by rw [Array.length_toList]; exact hg n (by omega)
    rw [catL, List.length_append, ih (fun i hi => hg i (by omega)), h2]
    omega
theorem cat32_part (g : Nat → ByteArray) (n : Nat) (hg : ∀ i, i < n → (g i).size = 32) (i : Nat) (hi : i < n) : ((catL g n).drop (32 * i)).take 32 = (g i).data.toList := by
  induction n with
  | zero => omega
  | succ n ih =>
    have hl := cat32_len g n (fun i hi => hg i (by omega))
    have hn : (g n).data.toList.length = 32 := by rw [Array.length_toList]; exact hg n (by omega)
    rw [catL]
    by_cases h : i < n
    · rw [List.drop_append_of_le_length (by omega), List.take_append_of_le_length (by rw [List.length_drop]; omega)]
      exact ih (fun i hi => hg i (by omega)) h
    · obtain rfl : i = n := by omega
      rw [List.drop_append, hl, Nat.sub_self, List.drop_zero, List.drop_of_length_le (by omega), List.nil_append, List.take_of_length_le (by omega)]
theorem strOf_extract (l : List UInt8) (i j : Nat) : (strOf l).extract i j = strOf ((l.drop i).take (j - i)) := by
  apply ByteArray.ext
  apply Array.ext'
  rw [ByteArray.data_extract, Array.toList_extract, List.extract_eq_take_drop]
  rfl
theorem bAt_strOf (l : List UInt8) (j : Nat) : bAt (strOf l) j = byteAt l j := rfl
section
variable (seed text : ByteArray) (h n : Nat)
theorem sig_parts (hh : h ≤ 4) (hn : n < 2 ^ h) : (sigK seed h n text).size = 291 + 32 * h ∧ bAt (sigK seed h n text) 0 = h ∧ bAt (sigK seed h n text) 1 = 0 ∧ bAt (sigK seed h n text) 2 = n ∧ (sigK seed h n text).extract 3 291 = sigF seed n text ∧
    ∀ k, k < h → pathF (sigK seed h n text) k = (lev seed h k).getD (sib (n / 2 ^ k)) nilS := by
  have h16 := (two_pow_small h hh).1
  have hsz : (sigF seed n text).size = 288 := (back seed text n ⟨by omega, by omega⟩).2.2.1
  have hs2 : (sigF seed n text).data.toList.length = 288 := by rw [Array.length_toList]; exact hsz
  obtain ⟨g, hg⟩ : ∃ g, (fun k => (lev seed h k).getD (sib (n / 2 ^ k)) nilS) = g := ⟨_, rfl⟩
  have hgs : ∀ i, i < h → (g i).size = 32 := fun i hi => by
    rw [← hg]
    exact lev_size seed h i _ hh (by omega) (sib_lt h i n hi hn)
  have e1 : numBytes (h : Int) 1 = [UInt8.ofNat h] := by
    have : numBytes (h : Int) 1 = [UInt8.ofNat ((h : Int) % 256).toNat] := by simp [numBytes]
    rw [this, show ((h : Int) % 256).toNat = h from by omega]
  have e2 : numBytes (n : Int) 2 = [UInt8.ofNat 0, UInt8.ofNat n] := by
    have : numBytes (n : Int) 2 = [UInt8.ofNat ((n : Int) / 256 % 256).toNat, UInt8.ofNat ((n : Int) % 256).toNat] := by simp [numBytes]
    rw [this, show ((n : Int) % 256).toNat = n from by omega, show ((n : Int) / 256 % 256).toNat = 0 from by omega]
  have es : sigK seed h n text = strOf (UInt8.ofNat h :: UInt8.ofNat 0 :: UInt8.ofNat n :: ((sigF seed n text).data.toList ++ catL g h)) := by
    rw [sigK, sigB, hg, e1, e2]
    simp
  have hcl := cat32_len g h hgs
  rw [es]
  refine ⟨?_, ?_, ?_, ?_, ?_, ?_⟩
  · rw [strOf_size]
    simp only [List.length_cons, List.length_append, hs2, hcl]
    omega
  · rw [bAt_strOf]
    simp [byteAt]
    omega
  · rw [bAt_strOf]
    simp [byteAt]
  · rw [bAt_strOf]
    simp [byteAt]
    omega
  · rw [strOf_extract]
    simp only [List.drop_succ_cons, List.drop_zero]
    rw [List.take_append_of_le_length (by omega), List.take_of_length_le (by omega)]
    exact strOf_self _
  · intro k hk
    have hp := cat32_part g h hgs k hk
    have hgk : g k = (lev seed h k).getD (sib (n / 2 ^ k)) nilS := by rw [← hg]
    rw [← hgk, pathF, strOf_extract]
    have e : 291 + 32 * k = (288 + 32 * k) + 1 + 1 + 1 := by omega
    rw [e, List.drop_succ_cons, List.drop_succ_cons, List.drop_succ_cons, List.drop_append, List.drop_of_length_le (by omega), List.nil_append, hs2, show 288 + 32 * k - 288 = 32 * k from by omega, show 323 + 32 * k - (288 + 32 * k + 1 + 1 + 1) = 32 from by omega, hp]
    exact strOf_self _
theorem sig_ok (hh : h ≤ 4) (hn : n < 2 ^ h) : numOk (sigK seed h n text) ∧ numN (sigK seed h n text) = n := by
  obtain ⟨a, b, c, d, _, _⟩ := sig_parts seed text h n hh hn
  have hok : numOk (sigK seed h n text) := by
    refine ⟨by omega, by omega, by omega, ?_⟩
    rw [b, c, d]
    have : ((2 : Int) ^ (h : Int).toNat) = ((2 ^ h : Nat) : Int) := by simp
    rw [this]
    omega
  refine ⟨hok, ?_⟩
  rw [show numN (sigK seed h n text) = bAt (sigK seed h n text) 1 * 256 + bAt (sigK seed h n text) 2 from if_pos hok, c, d]
  omega
theorem climb_lev (hn : n < 2 ^ h) (p : Nat → ByteArray) (hp : ∀ k, k < h → p k = (lev seed h k).getD (sib (n / 2 ^ k)) nilS) (k : Nat) (hk : k ≤ h) : climbF n p (pubF seed n) k = (lev seed h k).getD (n / 2 ^ k) nilS := by
  induction k with
  | zero => rw [climbF, Nat.pow_zero, Nat.div_one, lev_leaf seed h n hn]
  | succ k ih =>
    have hlt : n / 2 ^ (k + 1) < 2 ^ (h - (k + 1)) := by
      rw [Nat.div_lt_iff_lt_mul (Nat.two_pow_pos _), ← Nat.pow_add, show h - (k + 1) + (k + 1) = h from by omega]
      exact hn
    rw [climbF, ih (by omega), hp k (by omega), lev_up seed h k _ (by omega) hlt]
    have e2 : n / 2 ^ (k + 1) = n / 2 ^ k / 2 := by rw [Nat.pow_succ, Nat.div_div_eq_div_mul]
    have e3 : ((n : Int) / 2 ^ k) = ((n / 2 ^ k : Nat) : Int) := by simp
    rw [e2, e3]
    generalize n / 2 ^ k = m
    unfold stepF sib
    by_cases hm : m % 2 = 0
    · rw [if_pos (by omega), if_pos hm, show 2 * (m / 2) = m from by omega]
    · rw [if_neg (by omega), if_neg hm, show 2 * (m / 2) = m - 1 from by omega, show m - 1 + 1 = m from by omega]
theorem sig_verified (hh : h ≤ 4) (hn : n < 2 ^ h) : verF (keyId seed h) text (sigK seed h n text) = 0 := by
  have h16 := (two_pow_small h hh).1
  obtain ⟨_, b, _, _, e, p⟩ := sig_parts seed text h n hh hn
  obtain ⟨hok, hN⟩ := sig_ok seed text h n hh hn
  have hb := back seed text n ⟨by omega, by omega⟩
  have ht : topF text (sigK seed h n text) = (lev seed h h).getD 0 nilS := by
    rw [topF, hN, e, hb.1, b, Int.toNat_natCast, climb_lev seed h n hn _ p h (Nat.le_refl _), Nat.div_eq_of_lt hn]
  rw [verF, if_pos hok, ht, b]
  exact if_pos rfl
end
end Go.Proofs.Ytpdgkgdaaapngaa
