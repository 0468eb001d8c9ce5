/- TopPatched: what stands on the sectors, in plain Lean. -/
import Derived.Test.YtnhdlclicjmmnaaGreatPdJ
import Derived.Test.YtnhdlclicjmmnaaGreatWr
namespace Go.Proofs.YtnhdlclicjmmnaaGreat
open Go.RowKit Go.Lib
def chunk (T : List UInt8) (i : Nat) : List UInt8 := (T.drop (64 * i)).take 64
def cnt (T : List UInt8) : Nat := if T.length = 0 then 1 else (T.length + 63) / 64
def layN (sec : List (List UInt8)) (a : Nat) (T : List UInt8) : Nat → List (List UInt8)
  | 0 => sec
  | i + 1 => (layN sec a T i).set (a + i) (chunk T i)
def pendN (a : Nat) (T : List UInt8) (i : Nat) : List (Nat × List UInt8) := (List.range i).map fun j => (a + j, chunk T j)
def layA (sec : List (List UInt8)) (a : Nat) (T : List UInt8) : List (List UInt8) := layN sec a T (cnt T)
theorem chunk_len (T : List UInt8) (i : Nat) : (chunk T i).length ≤ 64 := by
  rw [chunk, List.length_take]
  omega
theorem layN_len (sec : List (List UInt8)) (a : Nat) (T : List UInt8) (i : Nat) : (layN sec a T i).length = sec.length := by
  induction i with
  | zero => rfl
  | succ i ih => rw [layN, List.length_set, ih]
theorem layA_len (sec : List (List UInt8)) (a : Nat) (T : List UInt8) : (layA sec a T).length = sec.length := layN_len ..
theorem pendN_len (a : Nat) (T : List UInt8) (i : Nat) : (pendN a T i).length = i := by simp [pendN]
theorem pendN_succ (a : Nat) (T : List UInt8) (i : Nat) : pendN a T (i + 1) = pendN a T i ++ [(a + i, chunk T i)] := by
  simp [pendN, List.range_succ]
theorem pendN_mem (a : Nat) (T : List UInt8) (i : Nat) (q : Nat × List UInt8) (h : q ∈ pendN a T i) : q.1 < a + i := by
  obtain ⟨j, hj, rfl⟩ := List.mem_map.1 h
  have := List.mem_range.1 hj
  show a + j < a + i
  omega
theorem apply_pend (sec : List (List UInt8)) (a : Nat) (T : List UInt8) (i : Nat) : applyAll sec (pendN a T i) = layN sec a T i := by
  induction i with
  | zero => rfl
  | succ i ih => rw [pendN_succ, applyAll_snoc, ih, layN]
theorem layN_get (sec : List (List UInt8)) (a : Nat) (T : List UInt8) (i k : Nat) : (layN sec a T i)[k]? = if a ≤ k ∧ k < a + i ∧ k < sec.length then some (chunk T (k - a)) else sec[k]? := by
  induction i with
  | zero => rw [layN, if_neg (by omega)]
  | succ i ih =>
    rw [layN, List.getElem?_set, layN_len, ih]
    by_cases h1 : a + i = k
    · rw [if_pos h1]
      by_cases h2 : a + i < sec.length
      · rw [if_pos h2, if_pos (by omega)]
        congr 2
        omega
      · rw [if_neg h2, if_neg (by omega), List.getElem?_eq_none (by omega)]
    · rw [if_neg h1]
      by_cases h2 : a ≤ k ∧ k < a + i ∧ k < sec.length
      · rw [if_pos h2, if_pos (by omega)]
      · rw [if_neg h2, if_neg (by omega)]
/-- n sectors from a on, filled up. -/
def regionB (sec : List (List UInt8)) (a n : Nat) : List UInt8 := ((sec.drop a).take n).flatMap fit64
theorem flat64 (l : List (List UInt8)) : (l.flatMap fit64).length = 64 * l.length := by
  induction l with
  | nil => rfl
  | cons x l ih => rw [List.flatMap_cons, List.length_append, fit64_len, ih, List.length_cons]; omega
theorem regionB_len (sec : List (List UInt8)) (a n : Nat) (h : a + n ≤ sec.length) : (regionB sec a n).length = 64 * n := by
  rw [regionB, flat64, List.length_take, List.length_drop]
  congr 1
  omega
theorem regionB_same {sec sec' : List (List UInt8)} {a n : Nat} (h : ∀ k, a ≤ k → k < a + n → sec'[k]? = sec[k]?) : regionB sec' a n = regionB sec a n := by
  unfold regionB
  congr 1
  apply List.ext_getElem?
  intro i
  rw [List.getElem?_take, List.getElem?_take]
  by_cases hi : i < n
  · rw [if_pos hi, if_pos hi, List.getElem?_drop, List.getElem?_drop]
    exact h (a + i) (by omega) (by omega)
  · rw [if_neg hi, if_neg hi]
theorem chunk_succ (T : List UInt8) (j : Nat) : chunk T (j + 1) = chunk (T.drop 64) j := by
  rw [chunk, chunk, List.drop_drop]
  congr 2
  omega
theorem chunks_take : ∀ (m : Nat) (T : List UInt8), T.length ≤ 64 * m → ((List.range m).flatMap fun j => fit64 (chunk T j)).take T.length = T
  | 0, T, h => by
    obtain rfl : T = [] := List.eq_nil_of_length_eq_zero (by omega)
    rfl
  | m + 1, T, h => by
    rw [List.range_succ_eq_map, List.flatMap_cons, List.flatMap_map]
    have e0 : chunk T 0 = T.take 64 := rfl
    by_cases hl : T.length ≤ 64
    · rw [e0, List.take_of_length_le hl, List.take_append_of_le_length (by rw [fit64_len]; exact hl), fit64, List.take_take, Nat.min_eq_left hl, List.take_append_of_le_length (Nat.le_refl _), List.take_length]
    · have e1 : (fun a => fit64 (chunk T (Nat.succ a))) = fun j => fit64 (chunk (T.drop 64) j) := by
        funext j
        rw [Nat.succ_eq_add_one, chunk_succ]
      have ih := chunks_take m (T.drop 64) (by rw [List.length_drop]; omega)
      rw [e0, fit64_id _ (by rw [List.length_take]; omega), e1, List.take_append, List.take_of_length_le (by rw [List.length_take]; omega), List.length_take, Nat.min_eq_left (by omega)]
      rw [List.length_drop] at ih
      rw [ih, List.take_append_drop]
theorem cntB_le (T : List UInt8) (n : Nat) (hn : 1 ≤ n) (h : T.length ≤ 64 * n) : cnt T ≤ n := by
  unfold cnt
  split <;> omega
theorem cnt_ge (T : List UInt8) : T.length ≤ 64 * cnt T := by
  unfold cnt
  split <;> omega
theorem cnt_pos (T : List UInt8) : 1 ≤ cnt T := by
  unfold cnt
  split <;> omega
/-- What was laid is there. -/
theorem layA_region (sec : List (List UInt8)) (a n : Nat) (T : List UInt8) (hn : 1 ≤ n) (h : T.length ≤ 64 * n) (ha : a + n ≤ sec.length) : (regionB (layA sec a T) a n).take T.length = T := by
  have hc := cntB_le T n hn h
  have hg := cnt_ge T
  have e : ((layA sec a T).drop a).take n = (List.range (cnt T)).map (chunk T) ++ (sec.drop (a + cnt T)).take (n - cnt T) := by
    apply List.ext_getElem?
    intro i
    rw [List.getElem?_append, List.length_map, List.length_range]
    by_cases hi : i < n
    · rw [List.getElem?_take, if_pos hi, List.getElem?_drop, layA, layN_get]
      by_cases hi2 : i < cnt T
      · rw [if_pos (by omega), if_pos hi2, List.getElem?_map, List.getElem?_range hi2, Nat.add_sub_cancel_left]
        rfl
      · rw [if_neg (by omega), if_neg hi2, List.getElem?_take, if_pos (by omega), List.getElem?_drop]
        congr 1
        omega
    · rw [List.getElem?_take, if_neg hi, if_neg (by omega), List.getElem?_take, if_neg (by omega)]
  rw [regionB, e, List.flatMap_append, List.flatMap_map, List.take_append_of_le_length, chunks_take _ _ hg]
  have : ((List.range (cnt T)).flatMap fun a => fit64 (chunk T a)).length = 64 * cnt T := by
    have := flat64 ((List.range (cnt T)).map (chunk T))
    rw [List.flatMap_map, List.length_map, List.length_range] at this
    exact this
  rw [this]
  exact hg
theorem layA_other (sec : List (List UInt8)) (a : Nat) (T : List UInt8) (k : Nat) (h : k < a ∨ a + cnt T ≤ k) : (layA sec a T)[k]? = sec[k]? := by
  rw [layA, layN_get, if_neg (by omega)]
theorem layA_short (sec : List (List UInt8)) (a : Nat) (T : List UInt8) (ht : T.length ≤ 64) (ha : a < sec.length) : (layA sec a T)[a]? = some T := by
  have hc : cnt T = 1 := by
    have := cntB_le T 1 (by omega) (by omega)
    have := cnt_pos T
    omega
  rw [layA, hc, layN_get, if_pos (by omega), Nat.sub_self, chunk, Nat.mul_zero, List.drop_zero, List.take_of_length_le ht]
/-! ### Copies of a cell -/
def headC (num len : Nat) : List UInt8 := (numBytes (num : Int) 8 ++ numBytes (len : Int) 4) ++ numBytes (num : Int) 8
theorem headC_len (num len : Nat) : (headC num len).length = 20 := by simp [headC, numBytes_len]
structure CopyOk (sec : List (List UInt8)) (first half num : Nat) (body : List UInt8) : Prop where
  head : fit64 (sec.getD first []) = fit64 (headC num body.length)
  text : (regionB sec (first + 1) (half - 1)).take body.length = body
  room : body.length ≤ 64 * (half - 1)
/-- A copy that never was written. -/
def CopyNo (sec : List (List UInt8)) (first : Nat) : Prop := fit64 (sec.getD first []) = fit64 []
/-- What write leaves. -/
def wroteC (sec : List (List UInt8)) (first : Nat) (body header : List UInt8) : List (List UInt8) := layA (layA (layA sec first []) (first + 1) body) first header
theorem wroteC_len (sec : List (List UInt8)) (first : Nat) (body header : List UInt8) : (wroteC sec first body header).length = sec.length := by
  rw [wroteC, layA_len, layA_len, layA_len]
theorem cnt_short (T : List UInt8) (h : T.length ≤ 64) : cnt T = 1 := by
  have := cntB_le T 1 (by omega) (by omega)
  have := cnt_pos T
  omega
theorem wroteC_ok (sec : List (List UInt8)) (first half num : Nat) (body : List UInt8) (hh : 2 ≤ half) (hf : first + half ≤ sec.length) (hb : body.length ≤ 64 * (half - 1)) :
    CopyOk (wroteC sec first body (headC num body.length)) first half num body := by
  refine ⟨?_, ?_, hb⟩
  · have h1 : (wroteC sec first body (headC num body.length))[first]? = some (headC num body.length) := layA_short _ _ _ (by rw [headC_len]; omega) (by rw [layA_len, layA_len]; omega)
    rw [List.getD_eq_getElem?_getD, h1]
    rfl
  · have h1 : regionB (wroteC sec first body (headC num body.length)) (first + 1) (half - 1) = regionB (layA (layA sec first []) (first + 1) body) (first + 1) (half - 1) :=
      regionB_same fun k h1 h2 => layA_other _ _ _ _ (.inr (by rw [cnt_short _ (by rw [headC_len]; omega)]; omega))
    rw [h1]
    exact layA_region _ _ _ _ (by omega) hb (by rw [layA_len]; omega)
theorem wroteC_other (sec : List (List UInt8)) (first half num k : Nat) (body : List UInt8) (hh : 2 ≤ half) (hb : body.length ≤ 64 * (half - 1)) (hk : k < first ∨ first + half ≤ k) : (wroteC sec first body (headC num body.length))[k]? = sec[k]? := by
  have hc := cntB_le body (half - 1) (by omega) hb
  rw [wroteC, layA_other _ _ _ _ (by rw [cnt_short _ (by rw [headC_len]; omega)]; omega), layA_other _ _ _ _ (by omega), layA_other _ _ _ _ (by rw [cnt_short _ (by simp)]; omega)]
theorem CopyOk.same {sec sec' : List (List UInt8)} {first half num : Nat} {body : List UInt8} (h : CopyOk sec first half num body) (hh : 2 ≤ half) (hs : ∀ k, first ≤ k → k < first + half → sec'[k]? = sec[k]?) : CopyOk sec' first half num body := by
  refine ⟨?_, ?_, h.room⟩
  · rw [← h.head, List.getD_eq_getElem?_getD, List.getD_eq_getElem?_getD, hs first (Nat.le_refl _) (by omega)]
  · rw [regionB_same fun k h1 h2 => hs k (by omega) (by omega)]
    exact h.text
theorem CopyNo.same {sec sec' : List (List UInt8)} {first : Nat} (h : CopyNo sec first) (hs : sec'[first]? = sec[first]?) : CopyNo sec' first := by
  unfold CopyNo at h ⊢
  rw [← h, List.getD_eq_getElem?_getD, List.getD_eq_getElem?_getD, hs]
end Go.Proofs.YtnhdlclicjmmnaaGreat
