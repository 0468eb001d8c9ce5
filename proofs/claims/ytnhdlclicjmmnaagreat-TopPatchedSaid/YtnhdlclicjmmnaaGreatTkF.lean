/- TopRejects: what a reader took is what a writer lays: in plain Lean. -/
import Derived.Test.YtnhdlclicjmmnaaGreatRd2
import Derived.Test.YtnhdlclicjmmnaaGreatWr
namespace Go.Proofs.YtnhdlclicjmmnaaGreat
open Go.RowKit
/-- If the reader x' is without an error, then so was x, and bs stood ahead of what is left. -/
def took (x x' : RS) (bs : List UInt8) : Prop := x'.2 = 0 → x.2 = 0 ∧ x.1.data.toList = bs ++ x'.1.data.toList
theorem took.refl (x : RS) : took x x [] := fun h => ⟨h, rfl⟩
theorem took.trans {x x1 x2 : RS} {a b : List UInt8} (h : took x x1 a) (h2 : took x1 x2 b) : took x x2 (a ++ b) := fun e => by
  obtain ⟨e1, e2⟩ := h2 e
  obtain ⟨e3, e4⟩ := h e1
  exact ⟨e3, by rw [e4, e2, List.append_assoc]⟩
theorem ext_list (s : ByteArray) (i j : Nat) : (s.extract i j).data.toList = (s.data.toList.take j).drop i := by
  rw [ByteArray.data_extract, Array.toList_extract]
  simp [List.extract, List.drop_take]
theorem took_raw (x : RS) (n : Nat) : took x (rawF x n).2 (rawF x n).1.data.toList ∧ ((rawF x n).2.2 = 0 → (rawF x n).1.size = n) := by
  obtain ⟨s, e⟩ := x
  by_cases he : e = 0
  · subst he
    by_cases hs : (s.size : Int) < n
    · rw [rawF_short hs]
      exact ⟨fun h => absurd h (show ¬ (2 : Int) = 0 by decide), fun h => absurd h (show ¬ (2 : Int) = 0 by decide)⟩
    · rw [rawF_ok (by omega) (by omega), Int.toNat_natCast]
      refine ⟨fun _ => ⟨rfl, ?_⟩, fun _ => ?_⟩
      · have hl : s.data.toList.length = s.size := Array.length_toList
        simp only [ext_list]
        rw [List.drop_zero, List.take_of_length_le (Nat.le_of_eq hl), List.take_append_drop]
      · rw [ByteArray.size_extract]
        omega
  · rw [rawF_err he]
    exact ⟨fun h => absurd h he, fun h => absurd h he⟩
theorem raw_short (x : RS) (n : Nat) : (rawF x n).1.size = n ∨ (rawF x n).1 = ⟨#[]⟩ := by
  obtain ⟨s, e⟩ := x
  by_cases he : e = 0
  · subst he
    by_cases hs : (s.size : Int) < n
    · rw [rawF_short hs]
      exact .inr rfl
    · refine .inl ?_
      rw [rawF_ok (by omega) (by omega), Int.toNat_natCast]
      simp only [ByteArray.size_extract]
      omega
  · rw [rawF_err he]
    exact .inr rfl
/-! ### Numbers -/
def natB (l : List UInt8) : Nat := l.foldl (fun a c => a * 256 + c.toNat) 0
theorem natB_fold : ∀ (l : List UInt8) (a : Nat), l.foldl (fun a c => a * 256 + c.toNat) a = a * 2 ^ (8 * l.length) + natB l
  | [], a => by simp [natB]
  | c :: l, a => by
    have h1 := natB_fold l (a * 256 + c.toNat)
    have h2 := natB_fold l c.toNat
    have hp : 2 ^ (8 * (c :: l).length) = 256 * 2 ^ (8 * l.length) := by
      rw [List.length_cons, Nat.mul_add, Nat.pow_add, Nat.mul_comm]
    rw [List.foldl_cons, h1, hp]
    have h3 : natB (c :: l) = c.toNat * 2 ^ (8 * l.length) + natB l := by
      rw [natB, List.foldl_cons, Nat.zero_mul, Nat.zero_add, h2]
    rw [h3, Nat.add_mul, Nat.mul_assoc, Nat.add_assoc]
theorem natB_cons (c : UInt8) (l : List UInt8) : natB (c :: l) = c.toNat * 2 ^ (8 * l.length) + natB l := by
  rw [natB, List.foldl_cons, Nat.zero_mul, Nat.zero_add, natB_fold]
theorem natB_lt : ∀ l : List UInt8, natB l < 2 ^ (8 * l.length)
  | [] => by simp [natB]
  | c :: l => by
    have h := natB_lt l
    have hc := c.toNat_lt
    have hp : 2 ^ (8 * (c :: l).length) = 256 * 2 ^ (8 * l.length) := by
      rw [List.length_cons, Nat.mul_add, Nat.pow_add, Nat.mul_comm]
    rw [natB_cons, hp]
    have : c.toNat * 2 ^ (8 * l.length) ≤ 255 * 2 ^ (8 * l.length) := Nat.mul_le_mul_right _ (by omega)
    omega
theorem tk_wrap {x : Int} (h0 : 0 ≤ x) (h : x ≤ 9223372036854775807) : wrap64 x = x := by unfold wrap64; omega
theorem tk_or (a b : Nat) (ha : a < 36028797018963968) (hb : b < 256) : bits .or .i64 ((a * 256 : Nat) : Int) (b : Int) = ((a * 256 + b : Nat) : Int) := by
  have h1 : (BitVec.ofInt 64 ((a * 256 : Nat) : Int)).toNat = a * 256 := by
    rw [BitVec.ofInt_natCast, BitVec.toNat_ofNat]; exact Nat.mod_eq_of_lt (by omega)
  have h2 : (BitVec.ofInt 64 (b : Int)).toNat = b := by
    rw [BitVec.ofInt_natCast, BitVec.toNat_ofNat]; exact Nat.mod_eq_of_lt (by omega)
  show IntKind.i64.wrap ((BitVec.ofInt 64 ((a * 256 : Nat) : Int) ||| BitVec.ofInt 64 (b : Int)).toNat : Int) = _
  have h3 : a * 256 ||| b = a * 256 + b := by
    have := Nat.shiftLeft_add_eq_or_of_lt (show b < 2 ^ 8 from hb) a
    rw [Nat.shiftLeft_eq] at this
    exact this.symm
  rw [BitVec.toNat_or, h1, h2, h3, IntKind.wrap_i64]
  omega
theorem tk_step (a : Nat) (c : UInt8) (ha : a < 36028797018963968) : orStep (a : Int) c = ((a * 256 + c.toNat : Nat) : Int) := by
  have hc := c.toNat_lt
  unfold orStep
  rw [tk_wrap (by omega) (by omega), tk_wrap (by omega) (by omega)]
  exact tk_or a c.toNat ha (by omega)
theorem be_fold : ∀ (l : List UInt8) (a : Nat), (l = [] ∨ (a + 1) * 2 ^ (8 * (l.length - 1)) ≤ 36028797018963968) → l.foldl orStep (a : Int) = ((l.foldl (fun a c => a * 256 + c.toNat) a : Nat) : Int)
  | [], a, _ => rfl
  | c :: l, a, h => by
    have hc := c.toNat_lt
    have h1 : (a + 1) * 2 ^ (8 * l.length) ≤ 36028797018963968 := by
      rcases h with h | h
      · cases h
      · exact h
    have hp0 : 0 < 2 ^ (8 * l.length) := Nat.two_pow_pos _
    have ha : a < 36028797018963968 := by
      have : (a + 1) * 1 ≤ (a + 1) * 2 ^ (8 * l.length) := Nat.mul_le_mul_left _ hp0
      omega
    rw [List.foldl_cons, List.foldl_cons, tk_step a c ha]
    refine be_fold l _ ?_
    cases l with
    | nil => exact .inl rfl
    | cons d l =>
      refine .inr ?_
      have hp : 2 ^ (8 * (d :: l).length) = 256 * 2 ^ (8 * l.length) := by
        rw [List.length_cons, Nat.mul_add, Nat.pow_add, Nat.mul_comm]
      rw [hp, ← Nat.mul_assoc] at h1
      refine Nat.le_trans (Nat.mul_le_mul_right _ ?_) h1
      omega
theorem beF_nat (l : List UInt8) (h : l.length ≤ 7) : beF l = (natB l : Int) := by
  refine be_fold l 0 ?_
  cases l with
  | nil => exact .inl rfl
  | cons c l =>
    refine .inr ?_
    rw [List.length_cons, Nat.add_sub_cancel, Nat.zero_add, Nat.one_mul]
    have : 2 ^ (8 * l.length) ≤ 2 ^ 48 := Nat.pow_le_pow_right (by omega) (by simp only [List.length_cons] at h; omega)
    omega
theorem beF_nat8 (c : UInt8) (l : List UInt8) (h : l.length = 7) (hc : c.toNat < 128) : beF (c :: l) = (natB (c :: l) : Int) := by
  have h1 : orStep 0 c = ((c.toNat : Nat) : Int) := by
    have := tk_step 0 c (by omega)
    rwa [Nat.zero_mul, Nat.zero_add] at this
  show List.foldl orStep (orStep 0 c) l = _
  rw [h1, be_fold l c.toNat ?_]
  · rw [natB, List.foldl_cons, Nat.zero_mul, Nat.zero_add]
  · refine .inr ?_
    rw [h]
    omega
theorem tk_bytes (x n : Nat) : numBytes (x : Int) (n + 1) = UInt8.ofNat (x / 2 ^ (8 * n) % 256) :: numBytes (x : Int) n := by
  have : (((x : Int) / 2 ^ (8 * n)) % 256).toNat = x / 2 ^ (8 * n) % 256 := by
    have h : ((x : Int) / 2 ^ (8 * n)) % 256 = ((x / 2 ^ (8 * n) % 256 : Nat) : Int) := by simp
    rw [h, Int.toNat_natCast]
  rw [numBytes, this]
theorem bytes_add : ∀ (n k y : Nat), numBytes ((k * 2 ^ (8 * n) + y : Nat) : Int) n = numBytes (y : Int) n
  | 0, _, _ => rfl
  | n + 1, k, y => by
    have hp : k * 2 ^ (8 * (n + 1)) = (k * 256) * 2 ^ (8 * n) := by
      rw [Nat.mul_add, Nat.pow_add, Nat.mul_assoc, Nat.mul_comm (2 ^ (8 * n))]
    have h0 : 0 < 2 ^ (8 * n) := Nat.two_pow_pos _
    rw [hp, tk_bytes, tk_bytes, bytes_add n, Nat.add_comm, Nat.add_mul_div_right _ _ h0]
    congr 2
    omega
theorem bytes_nat : ∀ l : List UInt8, numBytes (natB l : Int) l.length = l
  | [] => rfl
  | c :: l => by
    have h := natB_lt l
    have h0 : 0 < 2 ^ (8 * l.length) := Nat.two_pow_pos _
    have hc := c.toNat_lt
    rw [natB_cons, List.length_cons, tk_bytes, bytes_add, bytes_nat l, Nat.add_comm, Nat.add_mul_div_right _ _ h0, Nat.div_eq_of_lt h, Nat.zero_add, Nat.mod_eq_of_lt hc]
    simp
theorem num_range (x : RS) (n : Nat) (hn : n ≤ 7) : 0 ≤ (numF x n).1 ∧ (numF x n).1 < ((2 ^ (8 * n) : Nat) : Int) := by
  have hlt := natB_lt (rawF x n).1.data.toList
  have hz : (rawF x n).1.data.toList.length = (rawF x n).1.size := Array.length_toList
  have hb : (rawF x n).1.size ≤ n := by
    rcases raw_short x n with h | h
    · omega
    · rw [h]
      exact Nat.zero_le _
  show 0 ≤ beF _ ∧ beF _ < _
  rw [beF_nat _ (by omega)]
  have hp : 2 ^ (8 * (rawF x n).1.data.toList.length) ≤ 2 ^ (8 * n) := Nat.pow_le_pow_right (by omega) (by omega)
  omega
theorem took_num (x : RS) (n : Nat) (hn : n ≤ 7) : took x (numF x n).2 (numBytes (numF x n).1 n) := fun e => by
  obtain ⟨h1, h2⟩ := took_raw x n
  have hz : (rawF x n).1.data.toList.length = (rawF x n).1.size := Array.length_toList
  have hs : (rawF x n).1.data.toList.length = n := by rw [hz]; exact h2 e
  obtain ⟨h3, h4⟩ := h1 e
  refine ⟨h3, ?_⟩
  show _ = numBytes (beF _) n ++ _
  rw [beF_nat _ (by omega)]
  conv => rhs; arg 1; arg 2; rw [← hs]
  rw [bytes_nat]
  exact h4
theorem num_fits (x : RS) (n : Nat) (hn : n ≤ 7) : fits (numF x n).1 n := by
  obtain ⟨h0, h1⟩ := num_range x n hn
  refine ⟨h0, fun _ => ?_⟩
  refine Int.ediv_eq_zero_of_lt h0 ?_
  rw [Int.natCast_pow] at h1
  exact h1
theorem took_eight (x : RS) : took x (numF (eightF x) 8).2 (numBytes (numF (eightF x) 8).1 8) ∧ ((numF (eightF x) 8).2.2 = 0 → fits (numF (eightF x) 8).1 8) := by
  have key : (numF (eightF x) 8).2.2 = 0 → eightF x = x ∧ x.2 = 0 ∧ ∃ c l, (rawF x 8).1.data.toList = c :: l ∧ l.length = 7 ∧ c.toNat < 128 := fun e => by
    obtain ⟨h1, h2⟩ := took_raw (eightF x) 8
    obtain ⟨h3, h4⟩ := h1 e
    have hs := h2 e
    have ht : topB x = false := by
      cases h : topB x
      · rfl
      · have e8 : eightF x = failF x 3 := if_pos h
        rw [e8] at h3
        unfold failF at h3
        split at h3
        · exact absurd h3 (show ¬ (3 : Int) = 0 by decide)
        · rename_i hh
          exact absurd h3 hh
    have e8 : eightF x = x := if_neg (by rw [ht]; exact Bool.false_ne_true)
    rw [e8] at h3 h4 hs
    refine ⟨e8, h3, ?_⟩
    have hz : (rawF x 8).1.data.toList.length = 8 := by
      have : (rawF x 8).1.data.toList.length = (rawF x 8).1.size := Array.length_toList
      rw [this]
      exact hs
    have hx8 : 8 ≤ x.1.size := by
      have hx : x.1.data.toList.length = x.1.size := Array.length_toList
      have := congrArg List.length h4
      rw [List.length_append, hx] at this
      have hz' : (rawF x ((8 : Nat) : Int)).1.data.toList.length = 8 := hz
      omega
    have htop := topB_no ht hx8
    match hl : (rawF x 8).1.data.toList, hz with
    | c :: l, hz =>
      refine ⟨c, l, rfl, by simpa using hz, ?_⟩
      have hl' : (rawF x ((8 : Nat) : Int)).1.data.toList = c :: l := hl
      rw [hl'] at h4
      have h0 : x.1.data.toList[0]? = some c := by rw [h4]; rfl
      have hc : x.1[0]'(by omega) = c := by
        rw [Array.getElem?_toList] at h0
        obtain ⟨hlt, h0⟩ := Array.getElem?_eq_some_iff.1 h0
        exact h0
      rw [hc] at htop
      omega
  refine ⟨fun e => ?_, fun e => ?_⟩
  · obtain ⟨e8, hx, c, l, hl, h7, hc⟩ := key e
    obtain ⟨h1, h2⟩ := took_raw (eightF x) 8
    obtain ⟨h3, h4⟩ := h1 e
    rw [e8] at h3 h4 ⊢
    refine ⟨hx, ?_⟩
    show _ = numBytes (beF (rawF x 8).1.data.toList) 8 ++ _
    rw [hl, beF_nat8 c l h7 hc]
    have h8 : (c :: l).length = 8 := by rw [List.length_cons, h7]
    have hb := bytes_nat (c :: l)
    rw [h8] at hb
    rw [hb, ← hl]
    exact h4
  · obtain ⟨e8, hx, c, l, hl, h7, hc⟩ := key e
    rw [e8]
    show fits (beF (rawF x 8).1.data.toList) 8
    rw [hl, beF_nat8 c l h7 hc]
    exact ⟨by omega, fun h => absurd h (by decide)⟩
theorem took_text (x : RS) (m : Nat) : took x (textF x m).2 (numBytes ((textF x m).1.size : Int) 2 ++ (textF x m).1.data.toList) ∧ ((textF x m).2.2 = 0 → (textF x m).1.size ≤ m ∧ (textF x m).1.size ≤ 65535) := by
  obtain ⟨s, e⟩ := x
  by_cases he : e = 0
  · subst he
    have hn := took_num (s, 0) 2 (by omega)
    have hr := num_range (s, 0) 2 (by omega)
    obtain ⟨n, hn'⟩ : ∃ n, (numF (s, 0) ((2 : Nat) : Int)).1 = n := ⟨_, rfl⟩
    obtain ⟨x1, hx1⟩ : ∃ x1, (numF (s, 0) ((2 : Nat) : Int)).2 = x1 := ⟨_, rfl⟩
    have ht := textF_ok (s := s) (m := m) (n := n) (x1 := x1) hn' hx1 rfl rfl
    rw [hn'] at hn hr
    rw [hx1] at hn
    have key : (textF (s, 0) m).2.2 = 0 → n ≤ m ∧ textF (s, 0) m = rawF x1 n := fun e => by
      rw [ht] at e ⊢
      have hm : ¬ (m : Int) < 0 := by omega
      rw [if_neg hm] at e ⊢
      by_cases hb : (m : Int) < n
      · rw [if_pos hb] at e
        exfalso
        by_cases h0 : x1.2 = 0
        · have hf : failF x1 4 = (x1.1, 4) := if_pos h0
          rw [hf, rawF_err (show ((x1.1, 4) : RS).2 ≠ 0 by show ¬ (4 : Int) = 0; decide)] at e
          revert e
          show ¬ ((if (4 : Int) ≠ 0 then (s, 4) else (x1.1, 4)) : RS).2 = 0
          rw [if_pos (by decide)]
          show ¬ (4 : Int) = 0
          decide
        · have hf : failF x1 4 = x1 := if_neg h0
          rw [hf, rawF_err h0] at e
          revert e
          show ¬ ((if x1.2 ≠ 0 then (s, x1.2) else x1) : RS).2 = 0
          rw [if_pos h0]
          exact h0
      · rw [if_neg hb] at e ⊢
        refine ⟨by omega, ?_⟩
        by_cases h0 : (rawF x1 n).2.2 = 0
        · rw [if_neg (by rw [h0]; decide)]
        · rw [if_pos h0] at e
          exact absurd e h0
    obtain ⟨k, rfl⟩ := Int.eq_ofNat_of_zero_le hr.1
    obtain ⟨q1, q2⟩ := took_raw x1 k
    refine ⟨fun e => ?_, fun e => ?_⟩
    · obtain ⟨k1, k2⟩ := key e
      rw [k2] at e ⊢
      have := q2 e
      have h := took.trans hn q1 e
      rw [this]
      exact h
    · obtain ⟨k1, k2⟩ := key e
      rw [k2] at e ⊢
      have := q2 e
      omega
  · rw [textF_err (show ((s, e) : RS).2 ≠ 0 from he)]
    exact ⟨fun h => absurd h he, fun h => absurd h he⟩
theorem end_ok (x : RS) (h : (endF x).2 = 0) : x.2 = 0 ∧ x.1.data.toList = [] := by
  unfold endF at h
  split at h
  · exfalso
    unfold failF at h
    split at h
    · exact absurd h (show ¬ (3 : Int) = 0 by decide)
    · rename_i hh
      exact absurd h hh
  · rename_i hs
    refine ⟨h, List.eq_nil_of_length_eq_zero ?_⟩
    rw [Array.length_toList]
    exact Nat.eq_zero_of_not_pos hs
/-! ### Writers -/
theorem numW_ok (bs : List UInt8) (v : Int) (n : Nat) (h : fits v n) : numW (bs, false) v n = (bs ++ numBytes v n, false) := if_pos h
theorem whashW_ok (bs : List UInt8) (t : ByteArray) (h : t.size = 32) : whashW (bs, false) t = (bs ++ t.data.toList, false) := by
  simp [whashW, h]
theorem wtextW_ok (bs : List UInt8) (t : ByteArray) (h : t.size ≤ 65535) : wtextW (bs, false) t = (bs ++ (numBytes (t.size : Int) 2 ++ t.data.toList), false) := by
  have hf : fits t.size 2 := ⟨by omega, fun _ => by omega⟩
  rw [wtextW, numW_ok bs _ 2 hf, List.append_assoc]
end Go.Proofs.YtnhdlclicjmmnaaGreat
