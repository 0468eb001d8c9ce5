/- Keys: the reference's At and Sign. -/
import Derived.Test.YtpdgkgdaaapngaaKyS
namespace Go.Proofs.Ytpdgkgdaaapngaa
open Go.RowKit
theorem strOf_app (a b : List UInt8) : strOf a ++ strOf b = strOf (a ++ b) := by
  apply ByteArray.ext
  simp [strOf, ByteArray.data_append]
theorem strOf_self (s : ByteArray) : strOf s.data.toList = s := by
  apply ByteArray.ext
  simp [strOf]
theorem sigB_zero (seed text : ByteArray) (h n : Nat) : strN h 1 ++ strN n 2 ++ sigF seed n text = strOf (sigB seed h n text 0) := by
  have e : sigF seed n text = strOf (sigF seed n text).data.toList := (strOf_self _).symm
  rw [e, strN, strN, strOf_app, strOf_app]
  simp [sigB, catL]
theorem sigB_succ (seed text : ByteArray) (h n c : Nat) : strOf (sigB seed h n text c) ++ (lev seed h c).getD (sib (n / 2 ^ c)) nilS = strOf (sigB seed h n text (c + 1)) := by
  rw [← strOf_self ((lev seed h c).getD (sib (n / 2 ^ c)) nilS), strOf_app]
  simp [sigB, catL]
theorem catL_le (g : Nat → ByteArray) (hg : ∀ i, (g i).size ≤ 32) (c : Nat) : (catL g c).length ≤ 32 * c := by
  induction c with
  | zero => exact Nat.le_refl _
  | succ c ih =>
    have h := hg c
    have h2 : (g c).data.toList.length = (g c).size := by rw [Array.length_toList]; rfl
    rw [catL, List.length_append, h2]
    omega
theorem sigF_le (seed text : ByteArray) (n : Int) : (sigF seed n text).size ≤ 288 := by
  by_cases hn : 0 ≤ n ∧ n ≤ 65535
  · rw [(back seed text n hn).2.2.1]
    exact Nat.le_refl _
  · rw [show sigF seed n text = nilS from if_neg hn]
    decide
theorem sigB_le (seed text : ByteArray) (h n c : Nat) : (strOf (sigB seed h n text c)).size ≤ 291 + 32 * c := by
  have h1 := catL_le (fun k => (lev seed h k).getD (sib (n / 2 ^ k)) nilS) (fun i => lev_small _ _ _ _) c
  have h2 := sigF_le seed text n
  have h3 : (sigF seed n text).data.toList.length = (sigF seed n text).size := by rw [Array.length_toList]; rfl
  rw [strOf_size, sigB, List.length_append, List.length_append, List.length_append, numBytes_len, numBytes_len, h3]
  omega
theorem xor_sib (m : Nat) : m ^^^ 1 = sib m := by
  have h1 : (m ^^^ 1) / 2 = m / 2 := by
    rw [Nat.xor_div_two]
    exact Nat.xor_zero _
  have h2 := @Nat.xor_mod_two_eq_one m 1
  unfold sib
  rcases Nat.mod_two_eq_zero_or_one m with h | h
  · have h3 : (m ^^^ 1) % 2 = 1 := h2.2 (by rw [h]; decide)
    rw [if_pos h]
    omega
  · have h3 : ¬ (m ^^^ 1) % 2 = 1 := fun e => (h2.1 e) (by rw [h])
    rw [if_neg (by omega)]
    omega
theorem xorOne (m : Nat) (hm : m ≤ 65535) : bits .xor .i64 (m : Int) 1 = (sib m : Int) := by
  have e : bits .xor .i64 (m : Int) 1 = IntKind.i64.wrap (((BitVec.ofNat 64 m ^^^ BitVec.ofNat 64 1).toNat : Nat) : Int) := by
    show IntKind.i64.wrap (((BitVec.ofInt 64 _ ^^^ BitVec.ofInt 64 ((1 : Nat) : Int)).toNat : Nat) : Int) = _
    rw [BitVec.ofInt_natCast, BitVec.ofInt_natCast]
  have h2 := xor_sib m
  have h3 : sib m ≤ 65536 := by
    unfold sib
    split <;> omega
  rw [e, BitVec.toNat_xor, BitVec.toNat_ofNat, BitVec.toNat_ofNat, Nat.mod_eq_of_lt (by omega), Nat.mod_eq_of_lt (by omega), h2, IntKind.wrap_i64]
  omega
set_option maxRecDepth 100000 in
set_option maxHeartbeats 4000000 in
theorem rAt_calls (w : World) (b : Nat) (seed text : ByteArray) (h n : Nat) (used : Int) (hs : seed.size ≤ 140737488351232) (ht : text.size ≤ 140737488351232) (hh : h ≤ 4) (hn : n < 2 ^ h) (hk : RKey w b seed h used) :
    Calls Try.prog 15 #[.pointer (some ⟨b, 0, none⟩), .int .i64 n, .string text] w fun e w' => e = .returned (.string (sigK seed h n text)) ∧ Chg (fun _ => False) w w' := by
  have hK := Lib.hid hk
  obtain ⟨lv, r, hb, hl⟩ := hk
  have h16 := (two_pow_small h hh).1
  have x0 := blkCell hb 0
  have x1 := blkCell hb 1
  have C1 := Lib.hid (fun w => rSign_calls w seed text n hs ht)
  obtain ⟨S, hS⟩ : ∃ S : Nat → ByteArray, (fun c => strOf (sigB seed h n text c)) = S := ⟨_, rfl⟩
  have e0 : strN h 1 ++ strN n 2 ++ sigF seed n text = S 0 := by rw [← hS]; exact sigB_zero seed text h n
  have e1 : ∀ c, S c ++ (lev seed h c).getD (sib (n / 2 ^ c)) nilS = S (c + 1) := fun c => by rw [← hS]; exact sigB_succ seed text h n c
  have e2 : sigK seed h n text = S h := by rw [← hS]; rfl
  have e3 : ∀ c, (S c).size ≤ 291 + 32 * c := fun c => by rw [← hS]; exact sigB_le seed text h n c
  have HE3 := Lib.hid e3
  clear e3
  rw [e2]
  obtain ⟨G, hG⟩ : ∃ G, sigF seed n text = G := ⟨_, rfl⟩
  rw [hG] at e0
  rw [hG, fitE_in ⟨by omega, by omega⟩] at C1
  have HE0 := Lib.hid e0
  have HE1 := Lib.hid e1
  have HL := Lib.hid hl
  have HB := Lib.hid hb
  have HN := Lib.hid hn
  have n0 : (0 : Int) ≤ (n : Int) := by omega
  have n1 : (n : Int) ≤ 65535 := by omega
  have hh0 : (0 : Int) ≤ (h : Int) := by omega
  have hh4 : (h : Int) ≤ 4 := by omega
  have hu := u64_same n n0 n1
  have hi8 := u8_wrap h
  have k1 := c0 h
  have k2 := c0d h
  have k3 := c1 h
  have k4 := c1d h
  have hGs : G.size = 288 := by rw [← hG]; exact (back seed text n ⟨n0, n1⟩).2.2.1
  have hq1 : ¬ 9223372036854775807 < (strN h 1).size + (strN n 2).size := by rw [strN_size, strN_size]; omega
  have hq2 : ¬ 9223372036854775807 < (strN h 1).size + (strN n 2).size + G.size := by rw [strN_size, strN_size]; omega
  have hq3 : ¬ 9223372036854775807 < (strN h 1 ++ strN n 2).size + G.size := by rw [ByteArray.size_append, strN_size, strN_size]; omega
  clear hb hl hS e0 e1 e2 hG hn hs ht h16 hGs
  go_enter Try.func15, Try.ntmps15
  go_wp2_with (go_at_call 34; refine (C1.out _).mono ?_; rintro e w1 ⟨rfl, hg⟩; have y1 := cellChg x1 hg (fun h => h); have HG := Lib.hid hg; clear hg)
  go_cut [9] (fun v wx => v = .string (S 0) ∧ HD (Chg (fun _ => False) w wx))
  case first =>
    go_region_with (first
      | (go_at_call 35; refine (Num2_calls _ n 2 n0 (by decide)).mono ?_; rintro e w2 ⟨rfl, hg⟩; (first | have k5 := convD h hg | skip); (first | have k6 := convDD h hg | skip); have y2 := cellChg y1 (by (repeat (first | replace hg := Chg.un hg | replace hg := Chg.und hg)); exact hg) (fun h => h); have H1 := Lib.hid hg; clear hg)
      | fail "NOFIT")
    all_goals (have g1 := H1.out; repeat (first | replace g1 := Chg.un g1 | replace g1 := Chg.und g1))
    all_goals go_wp2_with fail
    all_goals go_meet
    all_goals exact ⟨congrArg Value.string HE0.out, ⟨HG.out.trans (by first | exact g1 | exact g1.alloc _ | exact (g1.alloc _).drew) (fun _ h => .inl h)⟩⟩
  case rest =>
    obtain ⟨rfl, HG1⟩ := hcut
    clear k1 k2 k3 k4 hi8 hu hq1 hq2 hq3 x0 x1 y1 HG
    go_wp2_with fail
    go_loopw [9, 10] (fun v k wx => ∃ c : Nat, c ≤ h ∧ k = .int .i64 c ∧ v = .string (S c) ∧ HD (Chg (fun _ => False) w wx)) (fun _ k _ => h - (intOf k).toNat)
    case atStart => exact ⟨0, by omega, rfl, rfl, ⟨HG1.out⟩⟩
    case round =>
      obtain ⟨c, hc, rfl, rfl, HG2⟩ := hrel
      obtain ⟨w5, rfl⟩ : ∃ w5, w5 = wr := ⟨_, rfl⟩
      have x1 := cellChg (blkCell HB.out 1) HG2.out (fun h => h)
      by_cases hlt : c < h
      · have x2 := cellChg (blkCell HB.out 2) HG2.out (fun h => h)
        have hl2 := HL.out.chg HG2.out (Other.none _ _) (Other.none _ _)
        obtain ⟨g, cc, g2, c2, hlv, hcc, hcm, x3, hc2, hcm2, hcells⟩ := hl2.get c (by omega) (lev_pos seed h c (by omega))
        have hsl := sib_lt h c n hlt HN.out
        have hlen := lev_len seed h c (by omega)
        have x4 := hcells (sib (n / 2 ^ c)) (by rw [hlen]; exact hsl)
        have hes := HE1.out c
        obtain ⟨X, hX⟩ : ∃ X, (lev seed h c).getD (sib (n / 2 ^ c)) nilS = X := ⟨_, rfl⟩
        have hXs : X.size ≤ 32 := by rw [← hX]; exact lev_small _ _ _ _
        obtain ⟨N2, hN2⟩ : ∃ N2, (lev seed h c).length = N2 := ⟨_, rfl⟩
        obtain ⟨N1, hN1⟩ : ∃ N1, h + 1 = N1 := ⟨_, rfl⟩
        obtain ⟨I, hI⟩ : ∃ I, sib (n / 2 ^ c) = I := ⟨_, rfl⟩
        have hx := xorOne (n / 2 ^ c) (Nat.le_trans (Nat.div_le_self _ _) (by omega))
        rw [hX] at x4 hes
        rw [hN2] at x3 hc2
        rw [hN1] at hlv hcc
        rw [hI] at x4 hx
        rw [hI, ← hlen, hN2] at hsl
        have hx' : bits .xor .i64 ((n : Int) / 2 ^ c) 1 = I := by
          rw [← hx]
          congr 1
        subst hlv
        have p1 : (0 : Int) ≤ (c : Int) := by omega
        have p2 : (c : Int) < (N1 : Int) := by omega
        have p3 : (0 : Int) ≤ (I : Int) := by omega
        have p4 : (I : Int) < (N2 : Int) := by omega
        have p5 : (c : Int) ≤ 64 := by omega
        have p6 : (0 : Int) ≤ (n : Int) / 2 ^ c := Int.ediv_nonneg n0 (Int.le_of_lt (Int.pow_pos (by decide)))
        have ht1 : (c : Int).toNat = c := by omega
        have ht2 : (I : Int).toNat = I := by omega
        have HES := Lib.hid hes
        have hq5 : ¬ 9223372036854775807 < (S c).size + X.size := by have := HE3.out c; omega
        clear hl2 hcells hlen hX hN2 hN1 hI hx hes
        go_wp2_with fail
        go_quiet (fail)
        clear p1 p2 p3 p4 p5 p6 ht1 ht2 hx' x1 x2 x3 x4
        go_wp2_with fail
        exact ⟨⟨c + 1, by omega, by go_num, by rw [HES.out], ⟨HG2.out.drewN _⟩⟩, by simp [intOf]; omega⟩
      · obtain rfl : c = h := by omega
        go_wp2_with fail
        go_ret
        exact ⟨rfl, HG2.out⟩
end Go.Proofs.Ytpdgkgdaaapngaa
