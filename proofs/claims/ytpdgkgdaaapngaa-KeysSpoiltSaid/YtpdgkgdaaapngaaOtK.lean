/- One-time signatures: what a signature brings back is the public value. -/
import Derived.Test.YtpdgkgdaaapngaaOtG
namespace Go.Proofs.Ytpdgkgdaaapngaa
open Go.RowKit
theorem catL_congr (g g' : Nat → ByteArray) (n : Nat) (h : ∀ i, i < n → g i = g' i) : catL g n = catL g' n := by
  induction n with
  | zero => rfl
  | succ n ih => rw [catL, catL, ih (fun i hi => h i (by omega)), h n (by omega)]
theorem catF_congr {g g' : Nat → ByteArray} (h : ∀ i, i < 18 → g i = g' i) : catF g = catF g' := by
  show strOf (catL g 18) = strOf (catL g' 18)
  rw [catL_congr g g' 18 h]
theorem catL_part (g : Nat → ByteArray) (n : Nat) (hg : ∀ i, i < n → (g i).size = 16) (i : Nat) (hi : i < n) : ((catL g n).drop (16 * i)).take 16 = (g i).data.toList := by
  induction n with
  | zero => omega
  | succ n ih =>
    have hl := catL_len g n (fun i hi => hg i (by omega))
    have h2 : (g n).data.toList.length = 16 := by rw [Array.length_toList]; exact hg n (by omega)
    rw [catL]
    by_cases h : i < n
    · rw [List.drop_append_of_le_length (by omega), List.take_append_of_le_length (by rw [List.length_drop]; omega)]
      exact ih (fun i hi => hg i (by omega)) h
    · obtain rfl : i = n := by omega
      rw [List.drop_append, List.drop_eq_nil_of_le (by omega), hl, Nat.sub_self, List.drop_zero, List.nil_append, List.take_of_length_le (by omega)]
theorem catF_part (g : Nat → ByteArray) (hg : ∀ i, i < 18 → (g i).size = 16) (i : Nat) (hi : i < 18) : (catF g).extract (16 * i) (16 * i + 16) = g i := by
  apply ByteArray.ext
  apply Array.ext'
  rw [ByteArray.data_extract, Array.toList_extract]
  have := catL_part g 18 hg i hi
  simp only [catF, strOf, List.extract_eq_take_drop, show 16 * i + 16 - 16 * i = 16 from by omega]
  exact this
theorem rec_sig (seed : ByteArray) (n : Int) (ds : List Int) (hd : ∀ j, 0 ≤ ds.getD j 0 ∧ ds.getD j 0 ≤ 15) (i : Nat) (hi : i < 18) : recG n ds (catF (sigG seed n ds)) i = pubG seed n i := by
  have h := hd i
  rw [recG, catF_part _ (fun i _ => sigG_size seed n ds i) i hi, sigG]
  have h1 := chainF_add n i 0 (secretF seed n i) (ds.getD i 0).toNat (15 - ds.getD i 0).toNat
  rw [show (0 : Int) + ((ds.getD i 0).toNat : Int) = ds.getD i 0 from by omega, show (ds.getD i 0).toNat + (15 - ds.getD i 0).toNat = 15 from by omega] at h1
  exact h1
theorem back (seed text : ByteArray) (n : Int) (hn : 0 ≤ n ∧ n ≤ 65535) : recF n text (sigF seed n text) = pubF seed n ∧ recE n (sigF seed n text) = 0 ∧ (sigF seed n text).size = 288 ∧ (pubF seed n).size = 32 := by
  have hs : sigF seed n text = catF (sigG seed n (digF text)) := if_pos hn
  have hz : (sigF seed n text).size = 288 := by rw [hs]; exact catF_size _ (fun i _ => sigG_size seed n _ i)
  have hp : pubF seed n = tagF 35 [catF (pubG seed n)] := if_pos hn
  refine ⟨?_, ?_, hz, by rw [hp]; exact tagF_size _ _⟩
  · have hr : recF n text (sigF seed n text) = tagF 35 [catF (recG n (digF text) (sigF seed n text))] := if_pos ⟨hn.1, hn.2, hz⟩
    rw [hr, hp, hs]
    have : catF (recG n (digF text) (catF (sigG seed n (digF text)))) = catF (pubG seed n) := catF_congr (fun i hi => rec_sig seed n (digF text) (digF_range text) i hi)
    rw [this]
  · rw [recE, if_pos hn, if_pos hz]
theorem sig_small (seed text : ByteArray) (n : Int) : (sigF seed n text).size ≤ 140737488355328 := by
  by_cases hn : 0 ≤ n ∧ n ≤ 65535
  · rw [(back seed text n hn).2.2.1]
    omega
  · rw [show sigF seed n text = nilS from if_neg hn]
    decide
end Go.Proofs.Ytpdgkgdaaapngaa
