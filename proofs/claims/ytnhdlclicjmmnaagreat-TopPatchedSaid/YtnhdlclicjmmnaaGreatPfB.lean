/- TopPatched: the cell: a content's bytes. -/
import Derived.Test.YtnhdlclicjmmnaaGreatHq
import Derived.Test.YtnhdlclicjmmnaaGreatRdF
import Derived.Test.YtnhdlclicjmmnaaGreatTkF
import Derived.Test.YtnhdlclicjmmnaaGreatPfA
namespace Go.Proofs.YtnhdlclicjmmnaaGreat
open Go.RowKit Go.Lib Go.Shelf Go.Maps
/-- A name and its text, as they are laid. -/
def entB (p : ByteArray × ByteArray) : List UInt8 := (numBytes (p.1.size : Int) 2 ++ p.1.data.toList) ++ (numBytes (p.2.size : Int) 2 ++ p.2.data.toList)
def bytesB (M : Cont) : List UInt8 := numBytes (M.length : Int) 2 ++ M.flatMap entB
/-- No name twice; all short enough. -/
structure GoodM (M : Cont) : Prop where
  rising : Rising M
  get : ∀ (k : Nat) (p : ByteArray × ByteArray), M[k]? = some p → getM M p.1 = some p.2
  names : ∀ p ∈ M, 0 < p.1.size ∧ p.1.size ≤ 32
  texts : ∀ p ∈ M, p.2.size ≤ 65535
  len : M.length ≤ 64
theorem GoodM.nil : GoodM [] := ⟨List.Pairwise.nil, fun k p h => by simp at h, fun p h => absurd h (by simp), fun p h => absurd h (by simp), by simp⟩
theorem entB_len (p : ByteArray × ByteArray) : (entB p).length = 4 + p.1.size + p.2.size := by
  have h1 : p.1.data.toList.length = p.1.size := Array.length_toList
  have h2 : p.2.data.toList.length = p.2.size := Array.length_toList
  simp only [entB, List.length_append, numBytes_len, h1, h2]
  omega
theorem flat_take_snoc {α β : Type} (f : α → List β) (l : List α) (k : Nat) (x : α) (h : l[k]? = some x) : (l.take (k + 1)).flatMap f = (l.take k).flatMap f ++ f x := by
  obtain ⟨hk, hx⟩ := List.getElem?_eq_some_iff.1 h
  rw [List.take_succ_eq_append_getElem hk, List.flatMap_append, hx]
  simp
theorem flat_le (M : Cont) (hm : ∀ p ∈ M, p.1.size ≤ 32 ∧ p.2.size ≤ 65535) : (M.flatMap entB).length ≤ M.length * 65571 := by
  induction M with
  | nil => simp
  | cons p M ih =>
    have h1 := hm p (List.mem_cons_self ..)
    have h2 := ih (fun q hq => hm q (List.mem_cons_of_mem _ hq))
    rw [List.flatMap_cons, List.length_append, entB_len, List.length_cons, Nat.add_mul]
    omega
theorem field126 (tx : ByteArray) (w : World) : (Instr.field 126 (.agg #[.string tx]) 0).run Tryz.prog w = .ok (.string tx) w := by kernel_rfl
set_option maxRecDepth 100000 in
set_option maxHeartbeats 2000000 in
theorem bytes_calls (w : World) (m : Nat) (M : Cont) (h : MapAt w m M) (hM : GoodM M) :
    Calls Tryz.prog 97 #[.map (some m)] w fun e w' => e = .returned (.string (strOf (bytesB M))) ∧ Chg (fun _ => False) w w' := by
  have HM := Lib.hid h
  have GM := Lib.hid hM
  have HL : M.length ≤ 64 := hM.len
  have HFL := Lib.hid (flat_le M (fun p hp => ⟨(hM.names p hp).2, hM.texts p hp⟩))
  have HW0 := Lib.hid (Wo.new w)
  have hln := (h.chg ((Chg.refl (fun _ => False) w).alloc (.cells #[.slice none 0 0, .bool false] 63)) (fun h => h)).len 3
  clear h hM
  go_enter Tryz.func97, Tryz.ntmps97
  go_wp2_with fail
  obtain ⟨B, hB⟩ : ∃ B, w.heap.size = B := ⟨_, rfl⟩
  obtain ⟨W0, hW⟩ : ∃ W0, w.alloc (.cells #[.slice none 0 0, .bool false] 63) = W0 := ⟨_, rfl⟩
  rw [hB, hW] at HW0
  simp only [hW]
  simp only [hB]
  clear hln hW hB
  refine (wo_Two _ _ _ _ (M.length : Int) HW0.out (by show 0 ≤ _; omega)).mono ?_
  rintro e w1 ⟨rfl, hw, _⟩
  have hn2 : numW ([], false) (M.length : Int) 2 = (numBytes (M.length : Int) 2, false) := numW_ok [] _ 2 ⟨by omega, fun _ => by omega⟩
  rw [hn2] at hw
  have HW := Lib.hid hw
  clear hw hn2 HW0
  have C := Lib.hid (Names0_calls w1 m M (HM.out.chg HW.out.chg0 (fun h => h)) GM.out.rising (by omega))
  go_wp2_with (go_at_call 91; refine C.out.mono ?_; rintro e w2 ⟨A, cp, r, rfl, hrow, hk, hc⟩; have HROW := Lib.hid hrow; have HC := Lib.hid hc; clear hrow hc hk)
  have HW2 := Lib.hid (HW.out.kept HC.out)
  clear C HW
  go_loopw [14] (fun v wr => ∃ k : Nat, k ≤ M.length ∧ v = .int .i64 k ∧ HD (Wo w wr B (numBytes (M.length : Int) 2 ++ (M.take k).flatMap entB, false)) ∧ HD (TRow wr (.slice A M.length cp) r (keysM M))) (fun v _ => M.length - (intOf v).toNat)
  case atStart => exact ⟨0, Nat.zero_le _, rfl, ⟨by rw [List.take_zero, List.flatMap_nil, List.append_nil]; exact HW2.out⟩, ⟨HROW.out⟩⟩
  case round =>
    obtain ⟨k, hk, rfl, ⟨HK⟩, ⟨HR⟩⟩ := hrel
    obtain ⟨w3, rfl⟩ : ∃ w3, w3 = wr := ⟨_, rfl⟩
    have HWK := Lib.hid HK
    have HRK := Lib.hid HR
    clear HK HR
    by_cases hlt : k < M.length
    · obtain ⟨p, hp⟩ : ∃ p, M[k]? = some p := ⟨_, List.getElem?_eq_getElem hlt⟩
      have hpm : p ∈ M := List.mem_of_getElem? hp
      have hkk : (keysM M)[k]? = some p.1 := by simp [keysM, hp]
      obtain ⟨g, rfl⟩ : ∃ g, A = some ⟨g, 0, none⟩ := by
        obtain ⟨g, _, hA, _⟩ := SRow.at_ HRK.out (by rw [keysM, List.length_map]; omega)
        exact ⟨g, hA⟩
      have d0 := HRK.out.cell k p.1 hkk
      have q0 : (0 : Int) ≤ (k : Int) := by omega
      have q1 : (k : Int) < (M.length : Int) := by omega
      have n1 := (GM.out.names p hpm).2
      have n2 := GM.out.texts p hpm
      have HG := Lib.hid (GM.out.get k p hp)
      have HST := Lib.hid (flat_take_snoc entB M k p hp)
      have hle : ((M.take k).flatMap entB).length ≤ M.length * 65571 := by
        refine Nat.le_trans ?_ HFL.out
        conv => rhs; rw [← List.take_append_drop k M, List.flatMap_append, List.length_append]
        omega
      obtain ⟨L0, hL0⟩ : ∃ L0, numBytes (M.length : Int) 2 ++ (M.take k).flatMap entB = L0 := ⟨_, rfl⟩
      have hL0l : L0.length ≤ 2 + M.length * 65571 := by
        rw [← hL0, List.length_append, numBytes_len]
        omega
      rw [hL0] at HWK
      have HL0 := Lib.hid hL0
      obtain ⟨nm, tx⟩ := p
      have W1 := Lib.hid (wtextW_ok L0 nm (by show nm.size ≤ 65535; have : nm.size ≤ 32 := n1; omega))
      have W2 := Lib.hid (wtextW_ok (L0 ++ (numBytes (nm.size : Int) 2 ++ nm.data.toList)) tx n2)
      have hnl : nm.data.toList.length = nm.size := Array.length_toList
      have b1 : L0.length + nm.size ≤ 140737488355000 := by
        have : nm.size ≤ 32 := n1
        omega
      have b2 : (L0 ++ (numBytes (nm.size : Int) 2 ++ nm.data.toList)).length + tx.size ≤ 140737488355000 := by
        simp only [List.length_append, numBytes_len, hnl]
        have : nm.size ≤ 32 := n1
        have : tx.size ≤ 65535 := n2
        omega
      have hfd := field126 tx
      clear hp hpm hkk hL0 hle
      go_wp2_with (first
        | (go_at_call 29; with_reducible refine (wo_Text w w3 B (L0, false) nm HWK.out b1).mono ?_; rintro e w4 ⟨rfl, hw, hkw⟩; rw [W1.out] at hw; have HW4 := Lib.hid hw; have HR4 := Lib.hid (hkw.row HRK.out (by decide) (by decide)); have HM4 := Lib.hid (HM.out.chg hw.chg0 (fun h => h)); have hlk := HM4.out.look1 nm (by have : nm.size ≤ 32 := n1; omega); rw [HG.out, Option.getD_some] at hlk; clear hw hkw)
        | (go_at_call 29; with_reducible refine (wo_Text w w4 B (L0 ++ (numBytes (nm.size : Int) 2 ++ nm.data.toList), false) tx HW4.out b2).mono ?_; rintro e w5 ⟨rfl, hw, hkw⟩; rw [W2.out] at hw; have HW5 := Lib.hid hw; have HR5 := Lib.hid (hkw.row HR4.out (by decide) (by decide)); clear hw hkw)
        | fail "NOFIT")
      go_roundw
      case rel =>
        have hB5 := HW5.out
        rw [List.append_assoc, ← HL0.out, List.append_assoc] at hB5
        have hS := HST.out
        clear HW5 HW4 HM4 HR4 hlk hfd W1 W2 HL0 HST HG
        refine ⟨k + 1, Nat.succ_le_of_lt hlt, ?_, ?_, ⟨HR5.out⟩⟩
        · rfl
        · refine ⟨?_⟩
          rw [hS]
          exact hB5
      case measure => simp [intOf]; omega
    · obtain rfl : k = M.length := by omega
      have C3 := Lib.hid (wo_Bytes w w3 B _ HWK.out)
      rw [List.take_length] at C3
      have hwb : wbT (numBytes (M.length : Int) 2 ++ M.flatMap entB, false) = strOf (bytesB M) := rfl
      have hwe : wbE (numBytes (M.length : Int) 2 ++ M.flatMap entB, false) = 0 := rfl
      have HCW := Lib.hid HWK.out.chg0
      rw [hwb, hwe] at C3
      have q1 : ¬ ((M.length : Int) < (M.length : Int)) := by omega
      clear hwb hwe
      go_wp2_with (go_at_call 32; refine C3.out.mono ?_; rintro e w4 ⟨rfl, he⟩; obtain rfl := he)
      go_ret
      exact ⟨rfl, HCW.out⟩
end Go.Proofs.YtnhdlclicjmmnaaGreat
/- TopPatched: what is laid is read: numbers, texts; the cell's contents. -/
namespace Go.Proofs.YtnhdlclicjmmnaaGreat
open Go.RowKit Go.Lib
theorem fits_size (t : ByteArray) : fits t.size 2 ↔ t.size ≤ 65535 := by
  unfold fits
  simp only [Nat.reduceMul, Int.reducePow]
  constructor
  · intro h
    have := h.2 (by omega)
    omega
  · intro h
    exact ⟨by omega, fun _ => by omega⟩
theorem wrap64_in {x : Int} (h0 : 0 ≤ x) (h : x ≤ 9223372036854775807) : wrap64 x = x := by unfold wrap64; omega
theorem or_nat (a b : Nat) (ha : a < 36028797018963968) (hb : b < 256) : bits .or .i64 ((a * 256 : Nat) : Int) (b : Int) = ((a * 256 + b : Nat) : Int) := by
  have h1 : (BitVec.ofInt 64 ((a * 256 : Nat) : Int)).toNat = a * 256 := by
    rw [BitVec.ofInt_natCast, BitVec.toNat_ofNat]; exact Nat.mod_eq_of_lt (by omega)
  have h2 : (BitVec.ofInt 64 (b : Int)).toNat = b := by
    rw [BitVec.ofInt_natCast, BitVec.toNat_ofNat]; exact Nat.mod_eq_of_lt (by omega)
  show IntKind.i64.wrap ((BitVec.ofInt 64 ((a * 256 : Nat) : Int) ||| BitVec.ofInt 64 (b : Int)).toNat : Int) = _
  have h3 : a * 256 ||| b = a * 256 + b := by
    have := Nat.shiftLeft_add_eq_or_of_lt (show b < 2 ^ 8 from hb) a
    rw [Nat.shiftLeft_eq] at this
    exact this.symm
  rw [BitVec.toNat_or, h1, h2, h3, IntKind.wrap_i64]
  omega
theorem orStep_nat (a : Nat) (c : UInt8) (ha : a < 36028797018963968) : orStep (a : Int) c = ((a * 256 + c.toNat : Nat) : Int) := by
  have hc := c.toNat_lt
  unfold orStep
  rw [wrap64_in (by omega) (by omega), wrap64_in (by omega) (by omega)]
  exact or_nat a c.toNat ha (by omega)
theorem numBytes_nat (x n : Nat) : numBytes (x : Int) (n + 1) = UInt8.ofNat (x / 2 ^ (8 * n) % 256) :: numBytes (x : Int) n := by
  have : (((x : Int) / 2 ^ (8 * n)) % 256).toNat = x / 2 ^ (8 * n) % 256 := by
    have h : ((x : Int) / 2 ^ (8 * n)) % 256 = ((x / 2 ^ (8 * n) % 256 : Nat) : Int) := by simp
    rw [h, Int.toNat_natCast]
  rw [numBytes, this]
theorem fold_nat (x : Nat) : ∀ (n a : Nat), a * 2 ^ (8 * n) + x % 2 ^ (8 * n) < 9223372036854775808 → (numBytes (x : Int) n).foldl orStep (a : Int) = ((a * 2 ^ (8 * n) + x % 2 ^ (8 * n) : Nat) : Int)
  | 0, a, _ => by simp [numBytes, Nat.mod_one]
  | n + 1, a, h => by
    obtain ⟨q, hq⟩ : ∃ q, q = 2 ^ (8 * n) := ⟨_, rfl⟩
    have hq0 : 0 < q := by rw [hq]; exact Nat.two_pow_pos _
    have hp : 2 ^ (8 * (n + 1)) = q * 256 := by rw [hq, Nat.mul_add, Nat.pow_add]
    have hm : x % (q * 256) = x % q + q * (x / q % 256) := Nat.mod_mul
    rw [hp] at h ⊢
    have hd : x / q % 256 < 256 := Nat.mod_lt _ (by omega)
    have hab : a * 256 ≤ a * (q * 256) := Nat.mul_le_mul_left _ (by omega)
    have hlt : a < 36028797018963968 := by omega
    have hc : (UInt8.ofNat (x / q % 256)).toNat = x / q % 256 := by rw [UInt8.toNat_ofNat']; exact Nat.mod_eq_of_lt hd
    have key : a * (q * 256) + x % (q * 256) = (a * 256 + x / q % 256) * q + x % q := by
      rw [hm, Nat.add_mul, Nat.mul_comm q 256, ← Nat.mul_assoc, Nat.mul_comm q (x / q % 256)]
      omega
    rw [numBytes_nat, ← hq, List.foldl_cons, orStep_nat a _ hlt, hc, fold_nat x n _ (by rw [← hq, ← key]; exact h), ← hq, key]
theorem beF_num (x : Int) (n : Nat) (hf : fits x n) (hn : n ≤ 8) (hx : x ≤ 9223372036854775807) : beF (numBytes x n) = x := by
  obtain ⟨m, rfl⟩ := Int.eq_ofNat_of_zero_le hf.1
  have hm : m % 2 ^ (8 * n) = m := by
    apply Nat.mod_eq_of_lt
    rcases Nat.lt_or_ge n 8 with h8 | h8
    · have h := hf.2 h8
      have h2 : ((m / 2 ^ (8 * n) : Nat) : Int) = 0 := by simpa using h
      have h3 : m / 2 ^ (8 * n) = 0 := by omega
      exact (Nat.div_eq_zero_iff_lt (Nat.two_pow_pos _)).1 h3
    · obtain rfl : n = 8 := by omega
      show m < 18446744073709551616
      omega
  have h := fold_nat m n 0 (by rw [hm]; omega)
  rw [hm] at h
  simpa [beF] using h
theorem num_top (x : Int) (h0 : 0 ≤ x) (hx : x ≤ 9223372036854775807) (r : List UInt8) : topB (strOf (numBytes x 8 ++ r), 0) = false := by
  obtain ⟨m, rfl⟩ := Int.eq_ofNat_of_zero_le h0
  unfold topB
  have hlen : 8 ≤ (strOf (numBytes (m : Int) 8 ++ r)).size := by rw [strOf_size, List.length_append, numBytes_len]; omega
  rw [dif_pos hlen]
  apply decide_eq_false
  have hb : ((strOf (numBytes (m : Int) 8 ++ r))[0]'(Nat.lt_of_lt_of_le (by omega) hlen)).toNat = m / 2 ^ 56 % 256 := by
    have h : (strOf (numBytes (m : Int) 8 ++ r))[0]'(Nat.lt_of_lt_of_le (by omega) hlen) = UInt8.ofNat (m / 2 ^ (8 * 7) % 256) := by
      have e := numBytes_nat m 7
      show ((numBytes (m : Int) 8 ++ r).toArray)[0]'(by simp [numBytes_len]; omega) = _
      simp only [List.getElem_toArray]
      rw [List.getElem_append_left (by rw [numBytes_len]; omega)]
      simp only [e, List.getElem_cons_zero]
    rw [h, UInt8.toNat_ofNat']
    exact Nat.mod_eq_of_lt (Nat.mod_lt _ (by omega))
  simp only at hb ⊢
  rw [hb]
  omega

/-! ### Texts cut -/
theorem strOf_ext {a b : ByteArray} (h : a.data.toList = b.data.toList) : a = b := WideShapes.bytes_inj h
theorem strOf_take (a r : List UInt8) : (strOf (a ++ r)).extract 0 a.length = strOf a := by
  apply strOf_ext
  simp [strOf]
theorem strOf_drop (a r : List UInt8) : (strOf (a ++ r)).extract a.length (strOf (a ++ r)).size = strOf r := by
  apply strOf_ext
  rw [strOf_size]
  simp [strOf]
theorem raw_laid (a r : List UInt8) : rawF (strOf (a ++ r), 0) a.length = (strOf a, strOf r, 0) := by
  rw [rawF_ok (by omega) (by rw [strOf_size, List.length_append]; omega)]
  simp only [Int.toNat_natCast, strOf_take, strOf_drop]
theorem raw_laid' (a r : List UInt8) (n : Int) (hn : n = a.length) : rawF (strOf (a ++ r), 0) n = (strOf a, strOf r, 0) := by
  rw [hn]; exact raw_laid a r
theorem num_laid (x : Int) (n : Nat) (r : List UInt8) (hf : fits x n) (hn : n ≤ 8) (hx : x ≤ 9223372036854775807) : numF (strOf (numBytes x n ++ r), 0) n = (x, strOf r, 0) := by
  unfold numF
  rw [raw_laid' _ _ _ (by rw [numBytes_len])]
  simp only [strOf_list, beF_num x n hf hn hx]
theorem text_laidM (t : ByteArray) (r : List UInt8) (m : Nat) (ht : t.size ≤ 65535) (hm : t.size ≤ m) : textF (strOf (numBytes t.size 2 ++ t.data.toList ++ r), 0) m = (t, strOf r, 0) := by
  have h := num_laid t.size 2 (t.data.toList ++ r) ((fits_size t).2 ht) (by omega) (by omega)
  rw [← List.append_assoc] at h
  rw [textF_ok (n := t.size) (x1 := (strOf (t.data.toList ++ r), 0)) (x2 := (strOf (t.data.toList ++ r), 0)) (t := (t, strOf r, 0)) (congrArg Prod.fst h) (congrArg Prod.snd h) (by rw [if_neg]; rw [if_neg (by omega)]; omega) (by rw [raw_laid' _ _ _ (by rw [bsize]), strOf_data])]
  simp
/-- The name that came before. -/
def lastM (M : Cont) : Nat → ByteArray
  | 0 => ⟨#[]⟩
  | k + 1 => (M.getD k (⟨#[]⟩, ⟨#[]⟩)).1
def leS (a b : ByteArray) : Bool := Op.bytesLess a.toList b.toList || a.toList == b.toList
/-- What is read again. -/
structure ReadM (M : Cont) : Prop where
  good : GoodM M
  less : ∀ (k : Nat) (p : ByteArray × ByteArray), M[k]? = some p → leS p.1 (lastM M k) = false
  put : ∀ (k : Nat) (p : ByteArray × ByteArray), M[k]? = some p → (contD (M.take k)).put (.string p.1.data.toList) (.lit (.string p.2.data.toList)) = contD (M.take (k + 1))
theorem ent_laid1 (p : ByteArray × ByteArray) (r : List UInt8) (h1 : p.1.size ≤ 32) : textF (strOf (entB p ++ r), 0) 32 = (p.1, strOf ((numBytes (p.2.size : Int) 2 ++ p.2.data.toList) ++ r), 0) := by
  have := text_laidM p.1 ((numBytes (p.2.size : Int) 2 ++ p.2.data.toList) ++ r) 32 (by omega) h1
  rw [← List.append_assoc] at this
  exact this
theorem ent_laid2 (p : ByteArray × ByteArray) (r : List UInt8) (h2 : p.2.size ≤ 65535) : textF (strOf ((numBytes (p.2.size : Int) 2 ++ p.2.data.toList) ++ r), 0) 65535 = (p.2, strOf r, 0) := text_laidM p.2 r 65535 h2 h2
end Go.Proofs.YtnhdlclicjmmnaaGreat
/- TopPatched: the content that a download has: bill, data, have. -/
namespace Go.Proofs.YtnhdlclicjmmnaaGreat
open Go.RowKit Go.Lib Go.Shelf Go.Maps
def kB : ByteArray := ⟨#[98, 105, 108, 108]⟩
def kD : ByteArray := ⟨#[100, 97, 116, 97]⟩
def kH : ByteArray := ⟨#[104, 97, 118, 101]⟩
/-- Its bill's bytes, its data, what is had. -/
def dlM (s d h : ByteArray) : Cont := [(kB, s), (kD, d), (kH, h)]
theorem put_b (s : ByteArray) : (contD []).put (.string kB.data.toList) (.lit (.string s.data.toList)) = contD [(kB, s)] := rfl
theorem put_bh (s h : ByteArray) : (contD [(kB, s)]).put (.string kH.data.toList) (.lit (.string h.data.toList)) = contD [(kB, s), (kH, h)] := rfl
theorem put_bhd (s d h : ByteArray) : (contD [(kB, s), (kH, h)]).put (.string kD.data.toList) (.lit (.string d.data.toList)) = contD (dlM s d h) := rfl
theorem put_bd (s d : ByteArray) : (contD [(kB, s)]).put (.string kD.data.toList) (.lit (.string d.data.toList)) = contD [(kB, s), (kD, d)] := rfl
theorem put_bdh (s d h : ByteArray) : (contD [(kB, s), (kD, d)]).put (.string kH.data.toList) (.lit (.string h.data.toList)) = contD (dlM s d h) := rfl
theorem put_h (s d h h' : ByteArray) : (contD (dlM s d h)).put (.string kH.data.toList) (.lit (.string h'.data.toList)) = contD (dlM s d h') := rfl
theorem put_d (s d h d' : ByteArray) : (contD (dlM s d h)).put (.string kD.data.toList) (.lit (.string d'.data.toList)) = contD (dlM s d' h) := rfl
theorem ne_db : ¬ kB = kD := fun e => absurd (congrArg (fun x => x.data.toList) e) (by decide)
theorem ne_hb : ¬ kB = kH := fun e => absurd (congrArg (fun x => x.data.toList) e) (by decide)
theorem ne_hd : ¬ kD = kH := fun e => absurd (congrArg (fun x => x.data.toList) e) (by decide)
theorem get_b (s d h : ByteArray) : getM (dlM s d h) kB = some s := by simp [dlM, getM]
theorem get_d (s d h : ByteArray) : getM (dlM s d h) kD = some d := by simp [dlM, getM, ne_db]
theorem get_h (s d h : ByteArray) : getM (dlM s d h) kH = some h := by simp [dlM, getM, ne_hb, ne_hd]
theorem dlM_good (s d h : ByteArray) (h1 : s.size ≤ 65535) (h2 : d.size ≤ 65535) (h3 : h.size ≤ 65535) : GoodM (dlM s d h) := by
  refine ⟨?_, fun k p hp => ?_, fun p hp => ?_, fun p hp => ?_, by simp [dlM]⟩
  · show ([kB.data.toList, kD.data.toList, kH.data.toList] : List (List UInt8)).Pairwise (fun a b => a ≤ b)
    decide
  · match k, hp with
    | 0, hp => injection hp with hp; subst hp; exact get_b s d h
    | 1, hp => injection hp with hp; subst hp; exact get_d s d h
    | 2, hp => injection hp with hp; subst hp; exact get_h s d h
    | k + 3, hp => simp [dlM] at hp
  · simp only [dlM, List.mem_cons, List.not_mem_nil, or_false] at hp
    rcases hp with rfl | rfl | rfl
    · exact (show 0 < 4 ∧ 4 ≤ 32 by decide)
    · exact (show 0 < 4 ∧ 4 ≤ 32 by decide)
    · exact (show 0 < 4 ∧ 4 ≤ 32 by decide)
  · simp only [dlM, List.mem_cons, List.not_mem_nil, or_false] at hp
    rcases hp with rfl | rfl | rfl
    · exact h1
    · exact h2
    · exact h3
theorem dlM_read (s d h : ByteArray) (h1 : s.size ≤ 65535) (h2 : d.size ≤ 65535) (h3 : h.size ≤ 65535) : ReadM (dlM s d h) := by
  refine ⟨dlM_good s d h h1 h2 h3, fun k p hp => ?_, fun k p hp => ?_⟩
  · match k, hp with
    | 0, hp => injection hp with hp; subst hp; show leS kB ⟨#[]⟩ = false; decide +kernel
    | 1, hp => injection hp with hp; subst hp; show leS kD kB = false; decide +kernel
    | 2, hp => injection hp with hp; subst hp; show leS kH kD = false; decide +kernel
    | k + 3, hp => simp [dlM] at hp
  · match k, hp with
    | 0, hp => injection hp with hp; subst hp; exact put_b s
    | 1, hp => injection hp with hp; subst hp; exact put_bd s d
    | 2, hp => injection hp with hp; subst hp; exact put_bdh s d h
    | k + 3, hp => simp [dlM] at hp
theorem nil_read : ReadM [] := ⟨GoodM.nil, fun k p hp => by simp at hp, fun k p hp => by simp at hp⟩
theorem dlM_bytes (s d h : ByteArray) : (bytesB (dlM s d h)).length = 26 + s.size + d.size + h.size := by
  have e1 : kB.size = 4 := rfl
  have e2 : kD.size = 4 := rfl
  have e3 : kH.size = 4 := rfl
  simp only [bytesB, dlM, List.flatMap_cons, List.flatMap_nil, List.length_append, List.length_nil, entB_len, numBytes_len, e1, e2, e3]
  omega
end Go.Proofs.YtnhdlclicjmmnaaGreat
