/- Keys: Verify, of both packages: the walks. -/
import Derived.Test.YtpdgkgdaaapngaaKyV
namespace Go.Proofs.Ytpdgkgdaaapngaa
open Go.RowKit
theorem ext_head (s : ByteArray) (a : Nat) (h : a + 32 ≤ s.size) : (s.extract a s.size).extract 0 32 = s.extract a (a + 32) := by
  rw [ByteArray.extract_extract, Nat.add_zero, Nat.min_eq_left h]
theorem ext_tail (s : ByteArray) (a : Nat) (h : a + 32 ≤ s.size) : (s.extract a s.size).extract 32 (s.extract a s.size).size = s.extract (a + 32) s.size := by
  rw [ByteArray.extract_extract, ByteArray.size_extract]
  congr 1
  omega
theorem ne_empty (q : ByteArray) (h : 0 < q.size) : (!q.toList.isEmpty) = true := by
  rw [ByteArray.toList_eq]
  obtain ⟨⟨l⟩⟩ := q
  cases l with
  | nil => exact absurd h (by decide)
  | cons x xs => rfl
theorem is_empty (q : ByteArray) (h : q.size = 0) : (!q.toList.isEmpty) = false := by
  rw [ByteArray.toList_eq]
  obtain ⟨⟨l⟩⟩ := q
  cases l with
  | nil => rfl
  | cons x xs => exact absurd h (Nat.succ_ne_zero _)
theorem str_eq (a b : ByteArray) : (!a.toList == b.toList) = false ↔ a = b := by
  rw [ByteArray.toList_eq, ByteArray.toList_eq, Bool.not_eq_false', beq_iff_eq]
  constructor
  · intro h
    exact ByteArray.ext (Array.ext' h)
  · intro h
    rw [h]
theorem str_ne (a b : ByteArray) (h : (!a.toList == b.toList) = true) : a ≠ b := fun e => by
  rw [(str_eq a b).2 e] at h
  cases h
theorem pow_half (N : Int) (c : Nat) : N / 2 ^ c / 2 = N / 2 ^ (c + 1) := by
  rw [Int.ediv_ediv_of_nonneg (Int.le_of_lt (Int.pow_pos (by decide))), Int.pow_succ]
theorem pow_range (N : Int) (c : Nat) (h0 : 0 ≤ N) (h1 : N ≤ 65535) : 0 ≤ N / 2 ^ c ∧ N / 2 ^ c ≤ 65535 :=
  ⟨Int.ediv_nonneg h0 (Int.le_of_lt (Int.pow_pos (by decide))), Int.le_trans (Int.ediv_le_self _ h0) h1⟩
set_option maxRecDepth 100000 in
set_option maxHeartbeats 2000000 in
theorem Verify_calls (w : World) (id text s : ByteArray) (ht : text.size ≤ 140737488351232) (hs : s.size ≤ 140737488355328) :
    Calls Try.prog 12 #[.string id, .string text, .string s] w fun e w' => e = .returned (.int .i64 (verF id text s)) ∧ Chg (fun _ => False) w w' := by
  have C1 := Lib.hid (Number_calls w s hs)
  by_cases hok : numOk s
  · obtain ⟨n0, n1, n2, b0, b1, hz⟩ := numOk_range hok
    have hE : numE s = 0 := if_pos hok
    have hV : verF id text s = if idF (bAt s 0) (topF text s) = id then 0 else 9 := if_pos hok
    rw [hE] at C1
    have h0lt : 0 < s.size := by omega
    have e0 := (bAt_get s 0 h0lt).symm
    have HT : Hid (topF text s = climbF (numN s) (pathF s) (recF (numN s) text (s.extract 3 291)) (bAt s 0).toNat) := Lib.hid rfl
    obtain ⟨V, hVV⟩ : ∃ V, verF id text s = V := ⟨_, rfl⟩
    rw [hVV]
    rw [hVV] at hV
    have HV := Lib.hid hV
    clear hVV
    obtain ⟨B, hB⟩ : ∃ B, bAt s 0 = B := ⟨_, rfl⟩
    obtain ⟨N, hN⟩ : ∃ N, numN s = N := ⟨_, rfl⟩
    obtain ⟨T, hT⟩ : ∃ T, topF text s = T := ⟨_, rfl⟩
    simp only [hB, hN, hT] at C1 n0 n1 n2 b0 b1 hz e0 HT HV
    have h288 : (s.extract 3 291).size = 288 := by rw [ByteArray.size_extract]; omega
    have C2 := Lib.hid (fun w => Recover_calls w text (s.extract 3 291) N ht (by omega))
    have hE2 : recE N (s.extract 3 291) = 0 := by rw [recE, if_pos ⟨n0, n2⟩, if_pos h288]
    have hsz := recF_size N text (s.extract 3 291) n0 n2 h288
    rw [hE2] at C2
    obtain ⟨x, hx⟩ : ∃ x, recF N text (s.extract 3 291) = x := ⟨_, rfl⟩
    rw [hx] at C2 HT hsz
    have HX := Lib.hid hsz
    have HZ := Lib.hid hz
    have h291 : 291 ≤ s.size := by omega
    have h291' : (291 : Int) ≤ (s.size : Int) := by omega
    clear hok hE hV hB hN hT h288 hE2 hx hsz hz ht
    go_enter Try.func12, Try.ntmps12
    go_wp2_with (first
      | (go_at_call 10; refine (C1.out).mono ?_; rintro e w1 ⟨rfl, hg⟩; have G1 := Lib.hid hg; clear hg)
      | (go_at_call 27; refine (C2.out _).mono ?_; rintro e w2 ⟨rfl, hg⟩; have G2 := Lib.hid hg; clear hg))
    go_loopw [7, 9, 12] (fun m v p wx => ∃ (c : Nat) (M : Int) (q y : ByteArray), (c : Int) ≤ B ∧ m = .int .i64 M ∧ v = .string y ∧ p = .string q ∧ HD (M = N / 2 ^ c ∧ q = s.extract (291 + 32 * c) s.size ∧ y = climbF N (pathF s) x c) ∧ HD (Chg (fun _ => False) w wx)) (fun _ _ p _ => strLen p)
    case atStart => exact ⟨0, N, _, x, by omega, rfl, rfl, rfl, ⟨by simp, rfl, rfl⟩, ⟨G1.out.trans G2.out (fun _ h => .inl h)⟩⟩
    case round =>
      obtain ⟨c, M, q, y, hc, rfl, rfl, rfl, HM, HG⟩ := hrel
      obtain ⟨hM, hq, hy⟩ := HM.out
      have hqs : q.size = 32 * (B.toNat - c) := by rw [hq, ByteArray.size_extract, Nat.min_self, HZ.out]; omega
      have m0 := pow_range N c n0 n2
      rw [← hM] at m0
      obtain ⟨m0, m1⟩ := m0
      have hys : y.size = 32 := by rw [hy]; exact climbF_size _ _ _ HX.out _
      by_cases hcb : (c : Int) < B
      · have hq1 := ne_empty q (by omega)
        have hq2 : (32 : Int) ≤ (q.size : Int) := by omega
        have hand := andOne M m0 m1
        have hp32 : (q.extract 0 32).size = 32 := by rw [ByteArray.size_extract]; omega
        have HE : Hid (q.extract 0 32 = pathF s c) := Lib.hid (by rw [hq, ext_head _ _ (by rw [HZ.out]; omega), pathF, show 291 + 32 * c + 32 = 323 + 32 * c from by omega])
        have HF : Hid (q.extract 32 q.size = s.extract (291 + 32 * (c + 1)) s.size) := Lib.hid (by
          have := ext_tail s (291 + 32 * c) (by rw [HZ.out]; omega)
          rw [← hq] at this
          exact this)
        have HM2 := Lib.hid ((congrArg (fun z => z / 2) hM).trans (pow_half N c))
        have HB1 := Lib.hid (bulk2 y (q.extract 0 32) (by omega) (by omega))
        have HB2 := Lib.hid (bulk2 (q.extract 0 32) y (by omega) (by omega))
        have HQS := Lib.hid hqs
        clear hM hq hy hqs hys hp32
        by_cases hp : M % 2 = 0
        · have hp1 : (M % 2 == 0) = true := by simp [hp]
          have HC : Hid (tagF 37 [y, q.extract 0 32] = climbF N (pathF s) x (c + 1)) := Lib.hid (by
            rw [climbF, ← HM.out.2.2, ← HM.out.1, ← HE.out, stepF, if_pos hp])
          have HP := Lib.hid hp
          clear hp
          go_wp2_with (go_at_call 28; (refine (Tag_calls _ 37 (by decide) _ 2 2 [y, q.extract 0 32] (strsAt (by simp) (by simp)) rfl HB1.out).mono ?_; rintro e w3 ⟨rfl, hg⟩; have H3 := Lib.hid hg; clear hg))
          exact ⟨⟨c + 1, _, _, _, by omega, rfl, rfl, rfl, ⟨HM2.out, HF.out, HC.out⟩, ⟨HG.out.trans H3.out.un (fun _ h => .inl h)⟩⟩, by simp only [strLen]; rw [ByteArray.size_extract]; omega⟩
        · have hp1 : (M % 2 == 0) = false := by simp [hp]
          have HC : Hid (tagF 37 [q.extract 0 32, y] = climbF N (pathF s) x (c + 1)) := Lib.hid (by
            rw [climbF, ← HM.out.2.2, ← HM.out.1, ← HE.out, stepF, if_neg hp])
          have HP := Lib.hid hp
          clear hp
          go_wp2_with (go_at_call 28; (refine (Tag_calls _ 37 (by decide) _ 2 2 [q.extract 0 32, y] (strsAt (by simp) (by simp)) rfl HB2.out).mono ?_; rintro e w3 ⟨rfl, hg⟩; have H3 := Lib.hid hg; clear hg))
          exact ⟨⟨c + 1, _, _, _, by omega, rfl, rfl, rfl, ⟨HM2.out, HF.out, HC.out⟩, ⟨HG.out.trans H3.out.un (fun _ h => .inl h)⟩⟩, by simp only [strLen]; rw [ByteArray.size_extract]; omega⟩
      · have hcB : c = B.toNat := by omega
        have hq1 := is_empty q (by omega)
        have hyT : y = T := by rw [hy, HT.out, hcB]
        subst hyT
        clear hM hq hy hqs hcB
        have hys2 : y.size ≤ 32 := by omega
        clear hys
        go_wp2_with (go_at_call 29; refine (named_calls _ B y hys2 b0 (by omega)).mono ?_; rintro e w3 ⟨rfl, hg⟩; have H3 := Lib.hid hg; clear hg)
        all_goals go_ret
        · exact ⟨by rw [HV.out, if_neg (str_ne _ _ (by assumption))]; rfl, HG.out.trans H3.out (fun _ h => .inl h)⟩
        · exact ⟨by rw [HV.out, if_pos ((str_eq _ _).1 (by assumption))]; rfl, HG.out.trans H3.out (fun _ h => .inl h)⟩
  · have hV : verF id text s = 3 := if_neg hok
    have hE : numE s = 3 := if_neg hok
    rw [hV]
    rw [hE] at C1
    clear hV hE hok
    go_enter Try.func12, Try.ntmps12
    go_wp2_with (go_at_call 10; refine (C1.out).mono ?_; rintro e w1 ⟨rfl, hg⟩; have G1 := Lib.hid hg; clear hg)
    go_ret
    exact ⟨rfl, G1.out⟩
set_option maxRecDepth 100000 in
set_option maxHeartbeats 2000000 in
theorem rVerify_calls (w : World) (id text s : ByteArray) (ht : text.size ≤ 140737488351232) (hs : s.size ≤ 140737488355328) :
    Calls Try.prog 13 #[.string id, .string text, .string s] w fun e w' => e = .returned (.int .i64 (verF id text s)) ∧ Chg (fun _ => False) w w' := by
  have C1 := Lib.hid (rNumber_calls w s hs)
  by_cases hok : numOk s
  · obtain ⟨n0, n1, n2, b0, b1, hz⟩ := numOk_range hok
    have hE : numE s = 0 := if_pos hok
    have hV : verF id text s = if idF (bAt s 0) (topF text s) = id then 0 else 9 := if_pos hok
    rw [hE] at C1
    have h0lt : 0 < s.size := by omega
    have e0 := (bAt_get s 0 h0lt).symm
    have HT : Hid (topF text s = climbF (numN s) (pathF s) (recF (numN s) text (s.extract 3 291)) (bAt s 0).toNat) := Lib.hid rfl
    obtain ⟨V, hVV⟩ : ∃ V, verF id text s = V := ⟨_, rfl⟩
    rw [hVV]
    rw [hVV] at hV
    have HV := Lib.hid hV
    clear hVV
    obtain ⟨B, hB⟩ : ∃ B, bAt s 0 = B := ⟨_, rfl⟩
    obtain ⟨N, hN⟩ : ∃ N, numN s = N := ⟨_, rfl⟩
    obtain ⟨T, hT⟩ : ∃ T, topF text s = T := ⟨_, rfl⟩
    simp only [hB, hN, hT] at C1 n0 n1 n2 b0 b1 hz e0 HT HV
    have h288 : (s.extract 3 291).size = 288 := by rw [ByteArray.size_extract]; omega
    have C2 := Lib.hid (fun w => rRecover_calls w text (s.extract 3 291) N ht (by omega))
    have hE2 : recE N (s.extract 3 291) = 0 := by rw [recE, if_pos ⟨n0, n2⟩, if_pos h288]
    have hsz := recF_size N text (s.extract 3 291) n0 n2 h288
    rw [hE2] at C2
    obtain ⟨x, hx⟩ : ∃ x, recF N text (s.extract 3 291) = x := ⟨_, rfl⟩
    rw [hx] at C2 HT hsz
    have HX := Lib.hid hsz
    have HZ := Lib.hid hz
    have h291 : 291 ≤ s.size := by omega
    have h291' : (291 : Int) ≤ (s.size : Int) := by omega
    clear hok hE hV hB hN hT h288 hE2 hx hsz hz ht
    go_enter Try.func13, Try.ntmps13
    go_wp2_with (first
      | (go_at_call 11; refine (C1.out).mono ?_; rintro e w1 ⟨rfl, hg⟩; have G1 := Lib.hid hg; clear hg)
      | (go_at_call 30; refine (C2.out _).mono ?_; rintro e w2 ⟨rfl, hg⟩; have G2 := Lib.hid hg; clear hg))
    go_loopw [9, 11] (fun v k wx => ∃ (c : Nat) (y : ByteArray), (c : Int) ≤ B ∧ v = .string y ∧ k = .int .i64 c ∧ HD (y = climbF N (pathF s) x c) ∧ HD (Chg (fun _ => False) w wx)) (fun _ k _ => (B - intOf k).toNat)
    case atStart => exact ⟨0, x, by omega, rfl, rfl, ⟨rfl⟩, ⟨G1.out.trans G2.out (fun _ h => .inl h)⟩⟩
    case round =>
      obtain ⟨c, y, hc, rfl, rfl, HM, HG⟩ := hrel
      have hy := HM.out
      obtain ⟨m0, m1⟩ := pow_range N c n0 n2
      have hys : y.size = 32 := by rw [hy]; exact climbF_size _ _ _ HX.out _
      by_cases hcb : (c : Int) < B
      · have hp32 : (s.extract (291 + 32 * c) (323 + 32 * c)).size = 32 := by rw [ByteArray.size_extract, HZ.out]; omega
        have hle : (323 : Int) + 32 * (c : Int) ≤ (s.size : Int) := by rw [HZ.out]; omega
        have hc0 : (0 : Int) ≤ (c : Int) := by omega
        have hc64 : (c : Int) ≤ 64 := by omega
        have HB1 := Lib.hid (bulk2 y (s.extract (291 + 32 * c) (323 + 32 * c)) (by omega) (by omega))
        have HB2 := Lib.hid (bulk2 (s.extract (291 + 32 * c) (323 + 32 * c)) y (by omega) (by omega))
        have t0 : (291 + 32 * (c : Int)).toNat = 291 + 32 * c := by omega
        have t1 : (323 + 32 * (c : Int)).toNat = 323 + 32 * c := by omega
        have q0 : (0 : Int) ≤ 291 + 32 * (c : Int) := by omega
        have q1 : 291 + 32 * (c : Int) ≤ 323 + 32 * (c : Int) := by omega
        have q3 : (0 : Int) ≤ 323 + 32 * (c : Int) := by omega
        clear hy hys hp32
        by_cases hp : N / 2 ^ c % 2 = 0
        · have hp1 : (N / 2 ^ c % 2 == 0) = true := by simp [hp]
          have HC : Hid (tagF 37 [y, s.extract (291 + 32 * c) (323 + 32 * c)] = climbF N (pathF s) x (c + 1)) := Lib.hid (by
            rw [climbF, ← HM.out, pathF, stepF, if_pos hp])
          clear hp
          go_wp2_with (go_at_call 31; (refine (rTag_calls _ 37 (by decide) _ 2 2 [y, s.extract (291 + 32 * c) (323 + 32 * c)] (strsAt (by simp) (by simp)) rfl HB1.out).mono ?_; rintro e w3 ⟨rfl, hg⟩; have H3 := Lib.hid hg; clear hg))
          clear t0 t1 q0 q1 q3
          exact ⟨⟨c + 1, _, by omega, rfl, by go_num, ⟨HC.out⟩, ⟨HG.out.trans H3.out.un (fun _ h => .inl h)⟩⟩, by simp [intOf]; omega⟩
        · have hp1 : (N / 2 ^ c % 2 == 0) = false := by simp [hp]
          have HC : Hid (tagF 37 [s.extract (291 + 32 * c) (323 + 32 * c), y] = climbF N (pathF s) x (c + 1)) := Lib.hid (by
            rw [climbF, ← HM.out, pathF, stepF, if_neg hp])
          clear hp
          go_wp2_with (go_at_call 31; (refine (rTag_calls _ 37 (by decide) _ 2 2 [s.extract (291 + 32 * c) (323 + 32 * c), y] (strsAt (by simp) (by simp)) rfl HB2.out).mono ?_; rintro e w3 ⟨rfl, hg⟩; have H3 := Lib.hid hg; clear hg))
          clear t0 t1 q0 q1 q3
          exact ⟨⟨c + 1, _, by omega, rfl, by go_num, ⟨HC.out⟩, ⟨HG.out.trans H3.out.un (fun _ h => .inl h)⟩⟩, by simp [intOf]; omega⟩
      · have hcB : c = B.toNat := by omega
        have hyT : y = T := by rw [hy, HT.out, hcB]
        subst hyT
        clear hy hcB m0 m1
        have hys2 : y.size ≤ 32 := by omega
        clear hys
        go_wp2_with (go_at_call 32; refine (id_calls _ B y hys2 b0 (by omega)).mono ?_; rintro e w3 ⟨rfl, hg⟩; have H3 := Lib.hid hg; clear hg)
        all_goals go_ret
        · exact ⟨by rw [HV.out, if_neg (str_ne _ _ (by assumption))]; rfl, HG.out.trans H3.out (fun _ h => .inl h)⟩
        · exact ⟨by rw [HV.out, if_pos ((str_eq _ _).1 (by assumption))]; rfl, HG.out.trans H3.out (fun _ h => .inl h)⟩
  · have hV : verF id text s = 3 := if_neg hok
    have hE : numE s = 3 := if_neg hok
    rw [hV]
    rw [hE] at C1
    clear hV hE hok
    go_enter Try.func13, Try.ntmps13
    go_wp2_with (go_at_call 11; refine (C1.out).mono ?_; rintro e w1 ⟨rfl, hg⟩; have G1 := Lib.hid hg; clear hg)
    go_ret
    exact ⟨rfl, G1.out⟩
end Go.Proofs.Ytpdgkgdaaapngaa
