/- Asks and replies as bytes, in plain Lean: what is laid, what is read, and that the one is the other's way back. -/
import Derived.Test.YtjlkflbkejpcaaaBkF
import Derived.Test.YtjlkflbkejpcaaaAsk
namespace Go.Proofs.Ytjlkflbkejpcaaa
open Go.RowKit

/-- An ask. -/
structure AskV where
  id : Int
  path : ByteArray
  fr : Int
  most : Int
def AskV.none : AskV := ⟨0, ⟨#[]⟩, 0, 0⟩
def AskV.val (a : AskV) : Value := .agg #[.int .i64 a.id, .string a.path, .int .i64 a.fr, .int .i64 a.most]
/-- A reply. -/
structure RepV where
  id : Int
  err : Int
  size : Int
  data : ByteArray
def RepV.none : RepV := ⟨0, 0, 0, ⟨#[]⟩⟩
def RepV.val (r : RepV) : Value := .agg #[.int .i64 r.id, .int .i64 r.err, .int .i64 r.size, .string r.data]
def bytesF (s : WS) : ByteArray × Int := if s.2 then (⟨#[]⟩, 1) else (strOf s.1, 0)
theorem bytesV_F (s : WS) : bytesV s = .tuple #[.string (bytesF s).1, .int .i64 (bytesF s).2] := by
  unfold bytesV bytesF
  split <;> rfl
def AskV.w (a : AskV) : WS := askW a.id a.path a.fr a.most
def layAskF (a : AskV) : ByteArray × Int := if a.path.size = 0 ∨ 64 < a.path.size then (⟨#[]⟩, 1) else bytesF a.w
def RepV.w (r : RepV) : WS := wtextW (numW (numW (numW (numW ([], false) 2 1) r.id 2) r.err 1) r.size 4) r.data
def RepV.fair (r : RepV) : Prop := r.err = 0 ∨ (r.size = 0 ∧ r.data.size = 0)
instance (r : RepV) : Decidable r.fair := by unfold RepV.fair; infer_instance
def layRepF (r : RepV) : ByteArray × Int := if r.fair then bytesF r.w else (⟨#[]⟩, 1)

/-- What an ask's bytes are read as, and where the reader stands behind. -/
def readAskX (s : ByteArray) : Int × AskV × RS :=
  let x1 := numF (s, 0) 1
  let x2 := numF x1.2 2
  let x3 := textF x2.2 64
  let x4 := numF x3.2 4
  let x5 := numF x4.2 2
  (x1.1, ⟨x2.1, x3.1, x4.1, x5.1⟩, x5.2)
def readAskF (s : ByteArray) : AskV × Int :=
  if (endF (readAskX s).2.2).2 ≠ 0 ∨ (readAskX s).1 ≠ 1 ∨ (readAskX s).2.1.path.size = 0 then (AskV.none, 3) else ((readAskX s).2.1, 0)
def readRepX (s : ByteArray) : Int × RepV × RS :=
  let x1 := numF (s, 0) 1
  let x2 := numF x1.2 2
  let x3 := numF x2.2 1
  let x4 := numF x3.2 4
  let x5 := textF x4.2 65535
  (x1.1, ⟨x2.1, x3.1, x4.1, x5.1⟩, x5.2)
def readRepF (s : ByteArray) : RepV × Int :=
  if (endF (readRepX s).2.2).2 ≠ 0 ∨ (readRepX s).1 ≠ 2 ∨ ¬ (readRepX s).2.1.fair then (RepV.none, 3) else ((readRepX s).2.1, 0)

theorem rawF_keep {x : RS} {n : Int} (h : (rawF x n).2.2 = 0) : x.2 = 0 := by
  by_cases he : x.2 = 0
  · exact he
  · rw [rawF_err he] at h; exact h
theorem numF_keep {x : RS} {n : Int} (h : (numF x n).2.2 = 0) : x.2 = 0 := rawF_keep h
theorem textF_keep {x : RS} {m : Int} (h : (textF x m).2.2 = 0) : x.2 = 0 := by
  by_cases he : x.2 = 0
  · exact he
  · rw [textF_err he] at h; exact h
theorem endF_ok {x : RS} (h : (endF x).2 = 0) : x.2 = 0 ∧ x.1.size = 0 := by
  unfold endF failF at h
  split at h
  · split at h
    · simp at h
    · rename_i h1; exact absurd h h1
  · exact ⟨h, by omega⟩
theorem endF_of {s : ByteArray} (h : s.size = 0) : (endF (s, 0)).2 = 0 := by
  unfold endF
  rw [if_neg (by show ¬ s.size > 0; omega)]
theorem raw_back {s : ByteArray} {n : Int} {t s' : ByteArray} (h : rawF (s, 0) n = (t, s', 0)) : (t.size : Int) = n ∧ s.data.toList = t.data.toList ++ s'.data.toList := by
  by_cases h1 : n < 0
  · rw [rawF_neg h1] at h; simp at h
  · by_cases h2 : (s.size : Int) < n
    · rw [rawF_short h2] at h; simp at h
    · obtain ⟨m, rfl⟩ := Int.eq_ofNat_of_zero_le (show 0 ≤ n by omega)
      rw [rawF_ok (by omega) (by omega)] at h
      simp only [Int.toNat_natCast, Prod.mk.injEq] at h
      obtain ⟨rfl, rfl, _⟩ := h
      have hm : m ≤ s.size := by omega
      refine ⟨by simp only [ByteArray.size_extract]; omega, ?_⟩
      have hs : s.data.toList.length = s.size := bsize s
      simp only [ByteArray.data_extract, Array.toList_extract, List.extract_eq_take_drop, List.drop_zero, Nat.sub_zero]
      rw [List.take_of_length_le (l := List.drop m s.data.toList) (by rw [List.length_drop]; omega)]
      exact (List.take_append_drop m _).symm
/-- A number out of bytes. -/
def beN (a : Nat) (l : List UInt8) : Nat := l.foldl (fun x c => x * 256 + c.toNat) a
theorem beN_eq : ∀ (l : List UInt8) (a : Nat), beN a l = a * 256 ^ l.length + beN 0 l
  | [], a => by simp [beN]
  | c :: l, a => by
    have h1 := beN_eq l (a * 256 + c.toNat)
    have h2 := beN_eq l (0 * 256 + c.toNat)
    have e1 : beN a (c :: l) = beN (a * 256 + c.toNat) l := rfl
    have e2 : beN 0 (c :: l) = beN (0 * 256 + c.toNat) l := rfl
    have e3 : (a * 256 + c.toNat) * 256 ^ l.length = a * (256 ^ l.length * 256) + c.toNat * 256 ^ l.length := by rw [Nat.add_mul, Nat.mul_assoc, Nat.mul_comm 256]
    rw [e1, e2, h1, h2, e3, List.length_cons, Nat.pow_succ, Nat.zero_mul, Nat.zero_add]
    omega
theorem beN_lt : ∀ (l : List UInt8), beN 0 l < 256 ^ l.length
  | [] => by simp [beN]
  | c :: l => by
    have e2 : beN 0 (c :: l) = beN (0 * 256 + c.toNat) l := rfl
    have h1 := beN_lt l
    have hc := c.toNat_lt
    have hm : c.toNat * 256 ^ l.length ≤ 255 * 256 ^ l.length := Nat.mul_le_mul_right _ (by omega)
    rw [e2, beN_eq l (0 * 256 + c.toNat), Nat.zero_mul, Nat.zero_add, List.length_cons, Nat.pow_succ]
    omega
theorem pow8 (n : Nat) : 2 ^ (8 * n) = 256 ^ n := by rw [Nat.pow_mul]
theorem numBytes_mod : ∀ (n a y : Nat), numBytes ((a * 256 ^ n + y : Nat) : Int) n = numBytes (y : Int) n
  | 0, _, _ => rfl
  | n + 1, a, y => by
    have h := numBytes_mod n (a * 256) y
    have e : a * 256 ^ (n + 1) + y = a * 256 * 256 ^ n + y := by rw [Nat.pow_succ, Nat.mul_assoc, Nat.mul_comm 256]
    rw [numBytes_nat, numBytes_nat, e, h, pow8]
    have hp : 0 < 256 ^ n := Nat.pow_pos (by omega)
    have : (a * 256 * 256 ^ n + y) / 256 ^ n = a * 256 + y / 256 ^ n := by
      rw [Nat.add_comm, Nat.add_mul_div_right _ _ hp, Nat.add_comm]
    rw [this, Nat.add_comm, Nat.add_mul_mod_self_right]
theorem numBytes_beN : ∀ (l : List UInt8), numBytes ((beN 0 l : Nat) : Int) l.length = l
  | [] => rfl
  | c :: l => by
    have h := numBytes_beN l
    have e2 : beN 0 (c :: l) = beN (0 * 256 + c.toNat) l := rfl
    have hp : 0 < 256 ^ l.length := Nat.pow_pos (by omega)
    have hlt := beN_lt l
    have hc := c.toNat_lt
    rw [e2, beN_eq l (0 * 256 + c.toNat), Nat.zero_mul, Nat.zero_add, List.length_cons, numBytes_nat, numBytes_mod, h, pow8, Nat.add_comm, Nat.add_mul_div_right _ _ hp, Nat.div_eq_of_lt hlt, Nat.zero_add, Nat.mod_eq_of_lt (by omega)]
    simp
theorem fold_beN : ∀ (l : List UInt8) (a : Nat), (a + 1) * 256 ^ l.length ≤ 9223372036854775808 → l.foldl orStep (a : Int) = (beN a l : Int)
  | [], a, _ => rfl
  | c :: l, a, h => by
    have hc := c.toNat_lt
    rw [List.length_cons, Nat.pow_succ] at h
    have hp : 1 ≤ 256 ^ l.length := Nat.pow_pos (by omega)
    have h256 : (a + 1) * 256 ≤ (a + 1) * (256 ^ l.length * 256) := Nat.mul_le_mul_left _ (by omega)
    have ha : a < 36028797018963968 := by omega
    have hle : (a * 256 + c.toNat + 1) * 256 ^ l.length ≤ (a + 1) * (256 ^ l.length * 256) := by
      rw [Nat.mul_comm (256 ^ l.length), ← Nat.mul_assoc]
      exact Nat.mul_le_mul_right _ (by omega)
    rw [List.foldl_cons, orStep_nat a c ha, fold_beN l _ (Nat.le_trans hle h)]
    rfl
theorem num_back {s : ByteArray} {n : Nat} {v : Int} {s' : ByteArray} (h : numF (s, 0) n = (v, s', 0)) (hn : n ≤ 7) : fits v n ∧ s.data.toList = numBytes v n ++ s'.data.toList := by
  unfold numF at h
  simp only [Prod.mk.injEq] at h
  obtain ⟨rfl, h2⟩ := h
  obtain ⟨t, ht⟩ : ∃ t, (rawF (s, 0) n).1 = t := ⟨_, rfl⟩
  rw [ht]
  obtain ⟨h3, h4⟩ := raw_back (t := t) (s' := s') (s := s) (n := n) (by rw [← ht, ← h2])
  have hl : t.data.toList.length = n := by rw [bsize]; omega
  have hp : 256 ^ n ≤ 72057594037927936 := Nat.pow_le_pow_right (n := 256) (by omega) hn
  have hb : beF t.data.toList = (beN 0 t.data.toList : Int) := fold_beN _ 0 (by rw [hl]; omega)
  have hlt := beN_lt t.data.toList
  have hnb := numBytes_beN t.data.toList
  rw [hl] at hlt hnb
  rw [hb, hnb]
  refine ⟨⟨by omega, fun _ => ?_⟩, h4⟩
  have e : ((2 : Int) ^ (8 * n)) = ((256 ^ n : Nat) : Int) := by rw [← pow8]; simp
  rw [e, ← Int.natCast_ediv, Nat.div_eq_of_lt hlt]
  rfl
theorem text_back {s t s' : ByteArray} {m : Int} (h : textF (s, 0) m = (t, s', 0)) (hm : 0 ≤ m ∧ m ≤ 65535) : (t.size : Int) ≤ m ∧ s.data.toList = numBytes t.size 2 ++ t.data.toList ++ s'.data.toList := by
  obtain ⟨⟨n, x1⟩, hy⟩ : ∃ y, numF (s, 0) 2 = y := ⟨_, rfl⟩
  obtain ⟨x2, hx2⟩ : ∃ x2, (if (if m < 0 then 0 else m) < n then failF x1 4 else x1) = x2 := ⟨_, rfl⟩
  obtain ⟨⟨t2, x3⟩, ht⟩ : ∃ y, rawF x2 n = y := ⟨_, rfl⟩
  rw [textF_ok (congrArg Prod.fst hy) (congrArg Prod.snd hy) hx2 ht] at h
  simp only [Prod.mk.injEq] at h
  obtain ⟨rfl, h2⟩ := h
  by_cases h3 : x3.2 = 0
  · rw [if_neg (by simpa using h3)] at h2
    subst h2
    have h4 : x2.2 = 0 := by
      have := rawF_keep (x := x2) (n := n) (by rw [ht])
      exact this
    rw [if_neg (show ¬ m < 0 by omega)] at hx2
    by_cases hlt : m < n
    · rw [if_pos hlt] at hx2
      subst hx2
      unfold failF at h4
      split at h4
      · simp at h4
      · rename_i h5; exact absurd h4 h5
    · rw [if_neg hlt] at hx2
      subst hx2
      obtain ⟨x1s, x1e⟩ := x1
      obtain rfl : x1e = 0 := h4
      obtain ⟨h5, h6⟩ := raw_back ht
      obtain ⟨_, h8⟩ := num_back (n := 2) hy (by omega)
      rw [h8, h6, ← h5, List.append_assoc]
      exact ⟨by omega, rfl⟩
  · rw [if_pos (by simpa using h3)] at h2
    simp only [Prod.mk.injEq] at h2
    exact absurd h2.2 h3
theorem numW_ok (bs : List UInt8) {x : Int} {n : Nat} (h : fits x n) : numW (bs, false) x n = (bs ++ numBytes x n, false) := by rw [numW, if_pos h]
theorem textW_ok (bs : List UInt8) {t : ByteArray} (h : t.size ≤ 65535) : wtextW (bs, false) t = (bs ++ numBytes t.size 2 ++ t.data.toList, false) := by
  unfold wtextW
  rw [numW_ok bs ((fits_size t).2 h)]
theorem rs_eta (x : RS) (h : x.2 = 0) : x = (x.1, 0) := by rw [← h]
theorem ask_back (s : ByteArray) (h : (readAskF s).2 = 0) : layAskF (readAskF s).1 = (s, 0) ∧ (readAskX s).1 = 1 := by
  unfold readAskF at h ⊢
  split at h
  · simp at h
  · rename_i hn
    rw [if_neg hn]
    have h1 : (endF (readAskX s).2.2).2 = 0 := Classical.not_not.1 fun h2 => hn (.inl h2)
    have h2 : (readAskX s).1 = 1 := Classical.not_not.1 fun h2 => hn (.inr (.inl h2))
    have h3 : (readAskX s).2.1.path.size ≠ 0 := fun h2 => hn (.inr (.inr h2))
    obtain ⟨h4, h5⟩ := endF_ok h1
    clear hn h1 h
    refine ⟨?_, h2⟩
    unfold readAskX at h2 h3 h4 h5 ⊢
    obtain ⟨⟨v1, y1⟩, e1⟩ : ∃ y, numF (s, 0) 1 = y := ⟨_, rfl⟩
    rw [e1] at h2 h3 h4 h5 ⊢
    obtain ⟨⟨v2, y2⟩, e2⟩ : ∃ y, numF y1 2 = y := ⟨_, rfl⟩
    simp only [e2] at h2 h3 h4 h5 ⊢
    obtain ⟨⟨v3, y3⟩, e3⟩ : ∃ y, textF y2 64 = y := ⟨_, rfl⟩
    simp only [e3] at h2 h3 h4 h5 ⊢
    obtain ⟨⟨v4, y4⟩, e4⟩ : ∃ y, numF y3 4 = y := ⟨_, rfl⟩
    simp only [e4] at h2 h3 h4 h5 ⊢
    obtain ⟨⟨v5, y5⟩, e5⟩ : ∃ y, numF y4 2 = y := ⟨_, rfl⟩
    simp only [e5] at h2 h3 h4 h5 ⊢
    have k4 : y4.2 = 0 := numF_keep (n := 2) (by rw [e5]; exact h4)
    have k3 : y3.2 = 0 := numF_keep (n := 4) (by rw [e4]; exact k4)
    have k2 : y2.2 = 0 := textF_keep (m := 64) (by rw [e3]; exact k3)
    have k1 : y1.2 = 0 := numF_keep (n := 2) (by rw [e2]; exact k2)
    obtain ⟨y1, _⟩ := y1
    obtain ⟨y2, _⟩ := y2
    obtain ⟨y3, _⟩ := y3
    obtain ⟨y4, _⟩ := y4
    obtain ⟨y5, _⟩ := y5
    simp only at k1 k2 k3 k4 h4 h5
    subst k1 k2 k3 k4 h4 h2
    obtain ⟨f1, g1⟩ := num_back (n := 1) e1 (by omega)
    obtain ⟨f2, g2⟩ := num_back (n := 2) e2 (by omega)
    obtain ⟨f3, g3⟩ := text_back e3 (by omega)
    obtain ⟨f4, g4⟩ := num_back (n := 4) e4 (by omega)
    obtain ⟨f5, g5⟩ := num_back (n := 2) e5 (by omega)
    have g6 : y5.data.toList = [] := List.eq_nil_of_length_eq_zero (by rw [bsize]; exact h5)
    unfold layAskF AskV.w askW
    simp only
    rw [if_neg (by omega), numW_ok _ f1, numW_ok _ f2, textW_ok _ (by omega), numW_ok _ f4, numW_ok _ f5]
    unfold bytesF
    simp only [Bool.false_eq_true, if_false, Prod.mk.injEq, and_true]
    apply strOf_ext
    rw [strOf_list, g1, g2, g3, g4, g5, g6]
    simp
theorem rep_back (s : ByteArray) (h : (readRepF s).2 = 0) : layRepF (readRepF s).1 = (s, 0) := by
  unfold readRepF at h ⊢
  split at h
  · simp at h
  · rename_i hn
    rw [if_neg hn]
    have h1 : (endF (readRepX s).2.2).2 = 0 := Classical.not_not.1 fun h2 => hn (.inl h2)
    have h2 : (readRepX s).1 = 2 := Classical.not_not.1 fun h2 => hn (.inr (.inl h2))
    have h3 : (readRepX s).2.1.fair := Classical.not_not.1 fun h2 => hn (.inr (.inr h2))
    obtain ⟨h4, h5⟩ := endF_ok h1
    clear hn h1 h
    unfold readRepX at h2 h3 h4 h5 ⊢
    obtain ⟨⟨v1, y1⟩, e1⟩ : ∃ y, numF (s, 0) 1 = y := ⟨_, rfl⟩
    rw [e1] at h2 h3 h4 h5 ⊢
    obtain ⟨⟨v2, y2⟩, e2⟩ : ∃ y, numF y1 2 = y := ⟨_, rfl⟩
    simp only [e2] at h2 h3 h4 h5 ⊢
    obtain ⟨⟨v3, y3⟩, e3⟩ : ∃ y, numF y2 1 = y := ⟨_, rfl⟩
    simp only [e3] at h2 h3 h4 h5 ⊢
    obtain ⟨⟨v4, y4⟩, e4⟩ : ∃ y, numF y3 4 = y := ⟨_, rfl⟩
    simp only [e4] at h2 h3 h4 h5 ⊢
    obtain ⟨⟨v5, y5⟩, e5⟩ : ∃ y, textF y4 65535 = y := ⟨_, rfl⟩
    simp only [e5] at h2 h3 h4 h5 ⊢
    have k4 : y4.2 = 0 := textF_keep (m := 65535) (by rw [e5]; exact h4)
    have k3 : y3.2 = 0 := numF_keep (n := 4) (by rw [e4]; exact k4)
    have k2 : y2.2 = 0 := numF_keep (n := 1) (by rw [e3]; exact k3)
    have k1 : y1.2 = 0 := numF_keep (n := 2) (by rw [e2]; exact k2)
    obtain ⟨y1, _⟩ := y1
    obtain ⟨y2, _⟩ := y2
    obtain ⟨y3, _⟩ := y3
    obtain ⟨y4, _⟩ := y4
    obtain ⟨y5, _⟩ := y5
    simp only at k1 k2 k3 k4 h4 h5
    subst k1 k2 k3 k4 h4 h2
    obtain ⟨f1, g1⟩ := num_back (n := 1) e1 (by omega)
    obtain ⟨f2, g2⟩ := num_back (n := 2) e2 (by omega)
    obtain ⟨f3, g3⟩ := num_back (n := 1) e3 (by omega)
    obtain ⟨f4, g4⟩ := num_back (n := 4) e4 (by omega)
    obtain ⟨f5, g5⟩ := text_back e5 (by omega)
    have g6 : y5.data.toList = [] := List.eq_nil_of_length_eq_zero (by rw [bsize]; exact h5)
    unfold layRepF RepV.w
    rw [if_pos h3]
    simp only
    rw [numW_ok _ f1, numW_ok _ f2, numW_ok _ f3, numW_ok _ f4, textW_ok _ (by omega)]
    unfold bytesF
    simp only [Bool.false_eq_true, if_false, Prod.mk.injEq, and_true]
    apply strOf_ext
    rw [strOf_list, g1, g2, g3, g4, g5, g6]
    simp
theorem numW_bad {s : WS} {x : Int} {n : Nat} (h : (numW s x n).2 = false) : s.2 = false ∧ fits x n := by
  unfold numW at h
  split at h
  · rename_i hf; exact ⟨h, hf⟩
  · simp at h
theorem textW_bad {s : WS} {t : ByteArray} (h : (wtextW s t).2 = false) : s.2 = false ∧ t.size ≤ 65535 := by
  unfold wtextW at h
  obtain ⟨h1, h2⟩ := numW_bad h
  exact ⟨h1, (fits_size t).1 h2⟩
/-- What is laid is read as it was. -/
theorem ask_there (a : AskV) (h : (layAskF a).2 = 0) (hb : a.id ≤ 9223372036854775807 ∧ a.fr ≤ 9223372036854775807 ∧ a.most ≤ 9223372036854775807) : readAskF (layAskF a).1 = (a, 0) := by
  unfold layAskF at h ⊢
  split at h
  · simp at h
  · rename_i hn
    rw [if_neg hn]
    obtain ⟨id, path, fr, most⟩ := a
    simp only at hn hb
    unfold bytesF AskV.w at h ⊢
    simp only at h ⊢
    split at h
    · simp at h
    · rename_i hw
      rw [if_neg hw]
      have hw : (askW id path fr most).2 = false := by simpa using hw
      unfold askW at hw
      obtain ⟨q4, f5⟩ := numW_bad hw
      obtain ⟨q3, f4⟩ := numW_bad q4
      obtain ⟨q2, f3⟩ := textW_bad q3
      obtain ⟨q1, f2⟩ := numW_bad q2
      obtain ⟨_, f1⟩ := numW_bad q1
      have hl : (askW id path fr most).1 = numBytes 1 1 ++ (numBytes id 2 ++ (numBytes path.size 2 ++ path.data.toList ++ (numBytes fr 4 ++ (numBytes most 2 ++ [])))) := by
        unfold askW
        rw [numW_ok _ f1, numW_ok _ f2, textW_ok _ f3, numW_ok _ f4, numW_ok _ f5]
        simp
      rw [hl]
      have ht : textF (strOf (numBytes path.size 2 ++ path.data.toList ++ (numBytes fr 4 ++ (numBytes most 2 ++ []))), 0) 64 = (path, strOf (numBytes fr 4 ++ (numBytes most 2 ++ [])), 0) := by
        have h := num_laid path.size 2 (path.data.toList ++ (numBytes fr 4 ++ (numBytes most 2 ++ []))) ((fits_size path).2 f3) (by omega) (by omega)
        rw [← List.append_assoc] at h
        rw [textF_ok (n := path.size) (x1 := (strOf (path.data.toList ++ (numBytes fr 4 ++ (numBytes most 2 ++ []))), 0)) (x2 := (strOf (path.data.toList ++ (numBytes fr 4 ++ (numBytes most 2 ++ []))), 0)) (t := (path, strOf (numBytes fr 4 ++ (numBytes most 2 ++ [])), 0)) (congrArg Prod.fst h) (congrArg Prod.snd h) (by rw [if_neg]; rw [if_neg (by omega)]; omega) (by rw [raw_laid' _ _ _ (by rw [bsize]), strOf_data])]
        simp
      have hx : readAskX (strOf (numBytes 1 1 ++ (numBytes id 2 ++ (numBytes path.size 2 ++ path.data.toList ++ (numBytes fr 4 ++ (numBytes most 2 ++ [])))))) = (1, ⟨id, path, fr, most⟩, (strOf [], 0)) := by
        have e1 : ∀ r, numF (strOf (numBytes 1 1 ++ r), 0) 1 = (1, strOf r, 0) := fun r => num_laid 1 1 r f1 (by omega) (by omega)
        have e2 : ∀ r, numF (strOf (numBytes id 2 ++ r), 0) 2 = (id, strOf r, 0) := fun r => num_laid id 2 r f2 (by omega) hb.1
        have e4 : ∀ r, numF (strOf (numBytes fr 4 ++ r), 0) 4 = (fr, strOf r, 0) := fun r => num_laid fr 4 r f4 (by omega) hb.2.1
        have e5 : ∀ r, numF (strOf (numBytes most 2 ++ r), 0) 2 = (most, strOf r, 0) := fun r => num_laid most 2 r f5 (by omega) hb.2.2
        unfold readAskX
        simp only [e1, e2, ht, e4, e5]
      unfold readAskF
      rw [hx]
      rw [if_neg]
      rintro (h1 | h1 | h1)
      · exact h1 (endF_of rfl)
      · exact h1 rfl
      · exact hn (.inl h1)
end Go.Proofs.Ytjlkflbkejpcaaa
