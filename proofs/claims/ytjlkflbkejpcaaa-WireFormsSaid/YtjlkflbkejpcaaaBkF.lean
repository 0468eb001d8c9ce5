/- What is laid is read as it was, to the end; without its last byte it isn't: in plain Lean. -/
import Derived.Test.YtjlkflbkejpcaaaSmF
import Derived.Test.YtjlkflbkejpcaaaLay
import Derived.WideShapes
namespace Go.Proofs.Ytjlkflbkejpcaaa
open Go.RowKit

/-- Does the operation fit? -/
def fitOp (o : OpV) : Prop :=
  if o.k % 6 = 0 then fits o.n 1 else if o.k % 6 = 1 then fits o.n 2 else if o.k % 6 = 2 then fits o.n 4 else if o.k % 6 = 3 then fits o.n 8 else if o.k % 6 = 4 then o.s.size ≤ 65535 else o.s.size = 32
instance (o : OpV) : Decidable (fitOp o) := by unfold fitOp; infer_instance
/-- Its bytes. -/
def encOp (o : OpV) : List UInt8 :=
  if o.k % 6 = 0 then numBytes o.n 1 else if o.k % 6 = 1 then numBytes o.n 2 else if o.k % 6 = 2 then numBytes o.n 4 else if o.k % 6 = 3 then numBytes o.n 8 else if o.k % 6 = 4 then numBytes o.s.size 2 ++ o.s.data.toList else o.s.data.toList
def encAll (l : List OpV) : List UInt8 := (l.map encOp).flatten

theorem fits_size (t : ByteArray) : fits t.size 2 ↔ t.size ≤ 65535 := by
  unfold fits
  simp only [Nat.reduceMul, Int.reducePow]
  constructor
  · intro h
    have := h.2 (by omega)
    omega
  · intro h
    exact ⟨by omega, fun _ => by omega⟩
theorem lay_fit (bs : List UInt8) (o : OpV) (h : fitOp o) : layW (bs, false) o.k o.n o.s = (bs ++ encOp o, false) := by
  unfold fitOp at h
  unfold layW encOp
  split
  · rename_i h0
    rw [if_pos h0] at h
    simp only [numW, if_pos h]
  · rename_i h0
    rw [if_neg h0] at h
    split
    · rename_i h1
      rw [if_pos h1] at h
      simp only [numW, if_pos h]
    · rename_i h1
      rw [if_neg h1] at h
      split
      · rename_i h2
        rw [if_pos h2] at h
        simp only [numW, if_pos h]
      · rename_i h2
        rw [if_neg h2] at h
        split
        · rename_i h3
          rw [if_pos h3] at h
          simp only [numW, if_pos h]
        · rename_i h3
          rw [if_neg h3] at h
          split
          · rename_i h4
            rw [if_pos h4] at h
            simp only [wtextW, numW, if_pos ((fits_size o.s).2 h), List.append_assoc]
          · rename_i h4
            rw [if_neg h4] at h
            simp [whashW, h]
theorem rlay_bad (o : OpV) : (rlayW ([], false) o.k o.n o.s).2 = !decide (fitOp o) := by
  unfold fitOp rlayW
  split
  · unfold numW; split <;> simp_all
  · split
    · unfold numW; split <;> simp_all
    · split
      · unfold numW; split <;> simp_all
      · split
        · unfold numW; split <;> simp_all
        · split
          · unfold rtextW
            split
            · rename_i h
              have : ¬ o.s.size ≤ 65535 := by omega
              simp [this]
            · rename_i h
              have h' : o.s.size ≤ 65535 := by omega
              simp [wtextW, numW, if_pos ((fits_size o.s).2 h'), h']
          · unfold rhashW
            split
            · rename_i h
              have : ¬ o.s.size = 32 := by omega
              simp [this]
            · rename_i h
              have h' : o.s.size = 32 := by omega
              simp [h']
theorem enc_pos (o : OpV) (h : fitOp o) : 1 ≤ (encOp o).length ∧ (encOp o).length ≤ 65537 := by
  unfold fitOp at h
  unfold encOp
  split
  · simp [numBytes_len]
  · rename_i h0
    rw [if_neg h0] at h
    split
    · simp [numBytes_len]
    · rename_i h1
      rw [if_neg h1] at h
      split
      · simp [numBytes_len]
      · rename_i h2
        rw [if_neg h2] at h
        split
        · simp [numBytes_len]
        · rename_i h3
          rw [if_neg h3] at h
          split
          · rename_i h4
            rw [if_pos h4] at h
            simp only [List.length_append, numBytes_len, bsize]
            omega
          · rename_i h4
            rw [if_neg h4] at h
            rw [bsize]
            omega

/-! ### A number's bytes read -/
theorem wrap64_in {x : Int} (h0 : 0 ≤ x) (h : x ≤ 9223372036854775807) : wrap64 x = x := by unfold wrap64; omega
theorem or_nat (a b : Nat) (ha : a < 36028797018963968) (hb : b < 256) : bits .or .i64 ((a * 256 : Nat) : Int) (b : Int) = ((a * 256 + b : Nat) : Int) := by
  have h1 : (BitVec.ofInt 64 ((a * 256 : Nat) : Int)).toNat = a * 256 := by
    rw [BitVec.ofInt_natCast, BitVec.toNat_ofNat]; exact Nat.mod_eq_of_lt (by omega)
  have h2 : (BitVec.ofInt 64 (b : Int)).toNat = b := by
    rw [BitVec.ofInt_natCast, BitVec.toNat_ofNat]; exact Nat.mod_eq_of_lt (by omega)
  show IntKind.i64.wrap ((BitVec.ofInt 64 ((a * 256 : Nat) : Int) ||| BitVec.ofInt 64 (b : Int)).toNat : Int) = _
  have h3 : a * 256 ||| b = a * 256 + b := by
    have := Nat.shiftLeft_add_eq_or_of_lt (show b < 2 ^ 8 from hb) a
    rw [Nat.shiftLeft_eq] at this
    exact this.symm
  rw [BitVec.toNat_or, h1, h2, h3, IntKind.wrap_i64]
  omega
theorem orStep_nat (a : Nat) (c : UInt8) (ha : a < 36028797018963968) : orStep (a : Int) c = ((a * 256 + c.toNat : Nat) : Int) := by
  have hc := c.toNat_lt
  unfold orStep
  rw [wrap64_in (by omega) (by omega), wrap64_in (by omega) (by omega)]
  exact or_nat a c.toNat ha (by omega)
theorem numBytes_nat (x n : Nat) : numBytes (x : Int) (n + 1) = UInt8.ofNat (x / 2 ^ (8 * n) % 256) :: numBytes (x : Int) n := by
  have : (((x : Int) / 2 ^ (8 * n)) % 256).toNat = x / 2 ^ (8 * n) % 256 := by
    have h : ((x : Int) / 2 ^ (8 * n)) % 256 = ((x / 2 ^ (8 * n) % 256 : Nat) : Int) := by simp
    rw [h, Int.toNat_natCast]
  rw [numBytes, this]
theorem fold_nat (x : Nat) : ∀ (n a : Nat), a * 2 ^ (8 * n) + x % 2 ^ (8 * n) < 9223372036854775808 → (numBytes (x : Int) n).foldl orStep (a : Int) = ((a * 2 ^ (8 * n) + x % 2 ^ (8 * n) : Nat) : Int)
  | 0, a, _ => by simp [numBytes, Nat.mod_one]
  | n + 1, a, h => by
    obtain ⟨q, hq⟩ : ∃ q, q = 2 ^ (8 * n) := ⟨_, rfl⟩
    have hq0 : 0 < q := by rw [hq]; exact Nat.two_pow_pos _
    have hp : 2 ^ (8 * (n + 1)) = q * 256 := by rw [hq, Nat.mul_add, Nat.pow_add]
    have hm : x % (q * 256) = x % q + q * (x / q % 256) := Nat.mod_mul
    rw [hp] at h ⊢
    have hd : x / q % 256 < 256 := Nat.mod_lt _ (by omega)
    have hab : a * 256 ≤ a * (q * 256) := Nat.mul_le_mul_left _ (by omega)
    have hlt : a < 36028797018963968 := by omega
    have hc : (UInt8.ofNat (x / q % 256)).toNat = x / q % 256 := by rw [UInt8.toNat_ofNat']; exact Nat.mod_eq_of_lt hd
    have key : a * (q * 256) + x % (q * 256) = (a * 256 + x / q % 256) * q + x % q := by
      rw [hm, Nat.add_mul, Nat.mul_comm q 256, ← Nat.mul_assoc, Nat.mul_comm q (x / q % 256)]
      omega
    rw [numBytes_nat, ← hq, List.foldl_cons, orStep_nat a _ hlt, hc, fold_nat x n _ (by rw [← hq, ← key]; exact h), ← hq, key]
theorem beF_num (x : Int) (n : Nat) (hf : fits x n) (hn : n ≤ 8) (hx : x ≤ 9223372036854775807) : beF (numBytes x n) = x := by
  obtain ⟨m, rfl⟩ := Int.eq_ofNat_of_zero_le hf.1
  have hm : m % 2 ^ (8 * n) = m := by
    apply Nat.mod_eq_of_lt
    rcases Nat.lt_or_ge n 8 with h8 | h8
    · have h := hf.2 h8
      have h2 : ((m / 2 ^ (8 * n) : Nat) : Int) = 0 := by simpa using h
      have h3 : m / 2 ^ (8 * n) = 0 := by omega
      exact (Nat.div_eq_zero_iff_lt (Nat.two_pow_pos _)).1 h3
    · obtain rfl : n = 8 := by omega
      show m < 18446744073709551616
      omega
  have h := fold_nat m n 0 (by rw [hm]; omega)
  rw [hm] at h
  simpa [beF] using h
theorem num_top (x : Int) (h0 : 0 ≤ x) (hx : x ≤ 9223372036854775807) (r : List UInt8) : topB (strOf (numBytes x 8 ++ r), 0) = false := by
  obtain ⟨m, rfl⟩ := Int.eq_ofNat_of_zero_le h0
  unfold topB
  have hlen : 8 ≤ (strOf (numBytes (m : Int) 8 ++ r)).size := by rw [strOf_size, List.length_append, numBytes_len]; omega
  rw [dif_pos hlen]
  apply decide_eq_false
  have hb : ((strOf (numBytes (m : Int) 8 ++ r))[0]'(Nat.lt_of_lt_of_le (by omega) hlen)).toNat = m / 2 ^ 56 % 256 := by
    have h : (strOf (numBytes (m : Int) 8 ++ r))[0]'(Nat.lt_of_lt_of_le (by omega) hlen) = UInt8.ofNat (m / 2 ^ (8 * 7) % 256) := by
      have e := numBytes_nat m 7
      show ((numBytes (m : Int) 8 ++ r).toArray)[0]'(by simp [numBytes_len]; omega) = _
      simp only [List.getElem_toArray]
      rw [List.getElem_append_left (by rw [numBytes_len]; omega)]
      simp only [e, List.getElem_cons_zero]
    rw [h, UInt8.toNat_ofNat']
    exact Nat.mod_eq_of_lt (Nat.mod_lt _ (by omega))
  simp only at hb ⊢
  rw [hb]
  omega

/-! ### Texts cut -/
theorem strOf_ext {a b : ByteArray} (h : a.data.toList = b.data.toList) : a = b := WideShapes.bytes_inj h
theorem strOf_take (a r : List UInt8) : (strOf (a ++ r)).extract 0 a.length = strOf a := by
  apply strOf_ext
  simp [strOf]
theorem strOf_drop (a r : List UInt8) : (strOf (a ++ r)).extract a.length (strOf (a ++ r)).size = strOf r := by
  apply strOf_ext
  rw [strOf_size]
  simp [strOf]
theorem raw_laid (a r : List UInt8) : rawF (strOf (a ++ r), 0) a.length = (strOf a, strOf r, 0) := by
  rw [rawF_ok (by omega) (by rw [strOf_size, List.length_append]; omega)]
  simp only [Int.toNat_natCast, strOf_take, strOf_drop]
theorem raw_laid' (a r : List UInt8) (n : Int) (hn : n = a.length) : rawF (strOf (a ++ r), 0) n = (strOf a, strOf r, 0) := by
  rw [hn]; exact raw_laid a r
theorem num_laid (x : Int) (n : Nat) (r : List UInt8) (hf : fits x n) (hn : n ≤ 8) (hx : x ≤ 9223372036854775807) : numF (strOf (numBytes x n ++ r), 0) n = (x, strOf r, 0) := by
  unfold numF
  rw [raw_laid' _ _ _ (by rw [numBytes_len])]
  simp only [strOf_list, beF_num x n hf hn hx]
theorem text_laid (t : ByteArray) (r : List UInt8) (ht : t.size ≤ 65535) : textF (strOf (numBytes t.size 2 ++ t.data.toList ++ r), 0) 65535 = (t, strOf r, 0) := by
  have h := num_laid t.size 2 (t.data.toList ++ r) ((fits_size t).2 ht) (by omega) (by omega)
  rw [← List.append_assoc] at h
  rw [textF_ok (n := t.size) (x1 := (strOf (t.data.toList ++ r), 0)) (x2 := (strOf (t.data.toList ++ r), 0)) (t := (t, strOf r, 0)) (congrArg Prod.fst h) (congrArg Prod.snd h) (by rw [if_neg]; rw [if_neg (by omega)]; omega) (by rw [raw_laid' _ _ _ (by rw [bsize]), strOf_data])]
  simp
theorem read_laid (o : OpV) (r : List UInt8) (h : fitOp o) (hn : o.n ≤ 9223372036854775807) : okOp (strOf (encOp o ++ r), 0) o ∧ (readOp (strOf (encOp o ++ r), 0) o).2.2 = (strOf r, 0) := by
  unfold fitOp at h
  unfold okOp readOp encOp
  by_cases h0 : o.k % 6 = 0
  · simp only [if_pos h0] at h ⊢
    rw [show (1 : Int) = ((1 : Nat) : Int) from rfl, num_laid o.n 1 r h (by omega) hn]
    exact ⟨⟨rfl, rfl, fun h => absurd h (by omega)⟩, rfl⟩
  · simp only [if_neg h0] at h ⊢
    by_cases h1 : o.k % 6 = 1
    · simp only [if_pos h1] at h ⊢
      rw [show (2 : Int) = ((2 : Nat) : Int) from rfl, num_laid o.n 2 r h (by omega) hn]
      exact ⟨⟨rfl, rfl, fun h => absurd h (by omega)⟩, rfl⟩
    · simp only [if_neg h1] at h ⊢
      by_cases h2 : o.k % 6 = 2
      · simp only [if_pos h2] at h ⊢
        rw [show (4 : Int) = ((4 : Nat) : Int) from rfl, num_laid o.n 4 r h (by omega) hn]
        exact ⟨⟨rfl, rfl, fun h => absurd h (by omega)⟩, rfl⟩
      · simp only [if_neg h2] at h ⊢
        by_cases h3 : o.k % 6 = 3
        · simp only [if_pos h3] at h ⊢
          have he : eightF (strOf (numBytes o.n 8 ++ r), 0) = (strOf (numBytes o.n 8 ++ r), 0) := by
            unfold eightF
            rw [num_top o.n h.1 hn r]
            simp
          rw [he, show (8 : Int) = ((8 : Nat) : Int) from rfl, num_laid o.n 8 r h (by omega) hn]
          exact ⟨⟨rfl, rfl, fun h => absurd h (by omega)⟩, rfl⟩
        · simp only [if_neg h3] at h ⊢
          by_cases h4 : o.k % 6 = 4
          · simp only [if_pos h4] at h ⊢
            rw [text_laid o.s r h]
            exact ⟨⟨rfl, (by first | rfl | trivial), fun _ => rfl⟩, rfl⟩
          · simp only [if_neg h4] at h ⊢
            rw [raw_laid' o.s.data.toList r 32 (by rw [bsize]; omega), strOf_data]
            exact ⟨⟨rfl, (by first | rfl | trivial), fun _ => rfl⟩, rfl⟩
theorem sameG_laid (l : List OpV) (r : List UInt8) (h : ∀ o ∈ l, fitOp o ∧ o.n ≤ 9223372036854775807) (l2 : List OpV) : sameG (strOf (encAll l ++ r), 0) (l ++ l2) = sameG (strOf r, 0) l2 := by
  induction l with
  | nil => rfl
  | cons o l ih =>
    have ho := h o (by simp)
    obtain ⟨h1, h2⟩ := read_laid o (encAll l ++ r) ho.1 ho.2
    have e : encAll (o :: l) ++ r = encOp o ++ (encAll l ++ r) := by simp [encAll]
    rw [e, List.cons_append, sameG, if_pos h1, h2]
    exact ih fun o' ho' => h o' (by simp [ho'])
theorem same_laid (l : List OpV) (h : ∀ o ∈ l, fitOp o ∧ o.n ≤ 9223372036854775807) : sameF (strOf (encAll l)) l = true := by
  have := sameG_laid l [] h []
  rw [List.append_nil, List.append_nil] at this
  unfold sameF
  rw [this]
  rfl

/-! ### Without the last byte -/
theorem raw_cut (s : List UInt8) (n : Int) (h : (s.length : Int) < n) : rawF (strOf s, 0) n = (⟨#[]⟩, strOf s, 2) := rawF_short (by rw [strOf_size]; exact h)
theorem num_cut (s : List UInt8) (n : Int) (h : (s.length : Int) < n) : (numF (strOf s, 0) n).2.2 = 2 := by
  unfold numF
  rw [raw_cut s n h]
theorem top_cut (s : List UInt8) (h : s.length < 8) : eightF (strOf s, 0) = (strOf s, 0) := by
  unfold eightF topB
  rw [dif_neg (by rw [strOf_size]; omega)]
  simp
theorem text_cut (t : ByteArray) (ht : t.size ≤ 65535) (s : List UInt8) (hs : s = (numBytes t.size 2 ++ t.data.toList).dropLast) : (textF (strOf s, 0) 65535).2.2 ≠ 0 := by
  have hl : s.length + 1 = 2 + t.size := by
    rw [hs, List.length_dropLast, List.length_append, numBytes_len, bsize]
    omega
  by_cases h0 : t.size = 0
  · have h1 : (s.length : Int) < 2 := by omega
    have e1 : (numF (strOf s, 0) 2).1 = 0 := by unfold numF; rw [raw_cut s 2 h1]; rfl
    have e2 : (numF (strOf s, 0) 2).2 = (strOf s, 2) := by unfold numF; rw [raw_cut s 2 h1]
    rw [textF_ok (n := 0) (x1 := (strOf s, 2)) (x2 := (strOf s, 2)) (t := (⟨#[]⟩, strOf s, 2)) e1 e2 (by rw [if_neg]; rw [if_neg (by omega)]; omega) (rawF_err (by simp))]
    simp
  · have hs2 : s = numBytes t.size 2 ++ t.data.toList.dropLast := by
      rw [hs, List.dropLast_append_of_ne_nil]
      intro h
      have := bsize t
      rw [h] at this
      simp at this
      omega
    have h := num_laid t.size 2 t.data.toList.dropLast ((fits_size t).2 ht) (by omega) (by omega)
    rw [← hs2] at h
    have hr : rawF (strOf t.data.toList.dropLast, 0) t.size = (⟨#[]⟩, strOf t.data.toList.dropLast, 2) := raw_cut _ _ (by rw [List.length_dropLast, bsize]; omega)
    rw [textF_ok (n := t.size) (x1 := (strOf t.data.toList.dropLast, 0)) (x2 := (strOf t.data.toList.dropLast, 0)) (t := (⟨#[]⟩, strOf t.data.toList.dropLast, 2)) (by rw [show (2 : Int) = ((2 : Nat) : Int) from rfl, h]) (by rw [show (2 : Int) = ((2 : Nat) : Int) from rfl, h]) (by rw [if_neg]; rw [if_neg (by omega)]; omega) hr]
    simp
theorem read_cut (o : OpV) (h : fitOp o) : ¬ okOp (strOf (encOp o).dropLast, 0) o := by
  intro hok
  have he := hok.1
  have hp := (enc_pos o h).1
  unfold fitOp at h
  unfold readOp at he
  unfold encOp at he hp
  by_cases h0 : o.k % 6 = 0
  · simp only [if_pos h0] at h he
    rw [num_cut _ _ (by rw [List.length_dropLast, numBytes_len]; omega)] at he
    cases he
  · simp only [if_neg h0] at h he
    by_cases h1 : o.k % 6 = 1
    · simp only [if_pos h1] at h he
      rw [num_cut _ _ (by rw [List.length_dropLast, numBytes_len]; omega)] at he
      cases he
    · simp only [if_neg h1] at h he
      by_cases h2 : o.k % 6 = 2
      · simp only [if_pos h2] at h he
        rw [num_cut _ _ (by rw [List.length_dropLast, numBytes_len]; omega)] at he
        cases he
      · simp only [if_neg h2] at h he
        by_cases h3 : o.k % 6 = 3
        · simp only [if_pos h3] at h he
          rw [top_cut _ (by rw [List.length_dropLast, numBytes_len]; omega), num_cut _ _ (by rw [List.length_dropLast, numBytes_len]; omega)] at he
          cases he
        · simp only [if_neg h3] at h he
          by_cases h4 : o.k % 6 = 4
          · simp only [if_pos h4] at h he
            exact text_cut o.s h _ rfl he
          · simp only [if_neg h4] at h he
            rw [raw_cut _ _ (by rw [List.length_dropLast, bsize]; omega)] at he
            cases he
theorem same_cut (l : List OpV) (h : ∀ o ∈ l, fitOp o ∧ o.n ≤ 9223372036854775807) (hl : l ≠ []) : sameF (strOf (encAll l).dropLast) l = false := by
  obtain ⟨l1, o, rfl⟩ : ∃ l1 o, l = l1 ++ [o] := ⟨l.dropLast, l.getLast hl, (List.dropLast_concat_getLast hl).symm⟩
  have ho := h o (by simp)
  have e : (encAll (l1 ++ [o])).dropLast = encAll l1 ++ (encOp o).dropLast := by
    have hne : encOp o ≠ [] := fun h => by have := (enc_pos o ho.1).1; rw [h] at this; simp at this
    simp only [encAll, List.map_append, List.map_cons, List.map_nil, List.flatten_append, List.flatten_cons, List.flatten_nil, List.append_nil]
    rw [List.dropLast_append_of_ne_nil hne]
  unfold sameF
  rw [e, sameG_laid l1 _ (fun o' ho' => h o' (by simp [ho'])), sameG, if_neg (read_cut o ho.1)]
end Go.Proofs.Ytjlkflbkejpcaaa
