/- The readers of the reference: what each method does to its object. -/
import Derived.Test.YtjlkflbkejpcaaaRd2
namespace Go.Proofs.Ytjlkflbkejpcaaa
open Go.RowKit

theorem rFail_calls (w : World) (b : Nat) (x : RS) (e : Int) (h : RdAt w 62 b x) :
    Calls Try.prog 71 #[.pointer (some ⟨b, 0, none⟩), .int .i64 e] w fun r w' => r = .returned (.tuple #[]) ∧ RdAt w' 62 b (failF x e) ∧ Chg (· = b) w w' := by
  have c1 := h.cell1
  have f1 := h.free 1
  by_cases he : x.2 = 0
  · obtain ⟨s, er⟩ := x
    obtain rfl : er = 0 := he
    have H := Lib.hid h
    clear h
    rw [failF_ok]
    go_enter Try.func71, Try.ntmps71
    go_wp2
    go_end0
    exact ⟨rfl, H.out.set1 _, Chg.setCell (Chg.refl (· = b) w) (.inl rfl) _⟩
  · have hb : (x.2 == 0) = false := by simpa using he
    rw [failF_err he]
    have H := Lib.hid h
    clear h he
    go_enter Try.func71, Try.ntmps71
    go_wp2
    go_end0
    exact ⟨rfl, H.out, Chg.refl _ _⟩

theorem rRaw_calls (w : World) (b : Nat) (x : RS) (n : Int) (h : RdAt w 62 b x) :
    Calls Try.prog 70 #[.pointer (some ⟨b, 0, none⟩), .int .i64 n] w fun r w' => r = .returned (.string (rawF x n).1) ∧ RdAt w' 62 b (rawF x n).2 ∧ Chg (· = b) w w' := by
  obtain ⟨s, e⟩ := x
  have c0 := h.cell0
  have c1 := h.cell1
  have f0 := h.free 0
  by_cases he : e = 0
  · subst he
    have CF := Lib.hid (fun e => rFail_calls w b (s, 0) e h)
    have H := Lib.hid h
    clear h
    by_cases hn : n < 0
    · rw [rawF_neg hn]
      go_enter Try.func70, Try.ntmps70
      go_wp2_with (go_at_call 71; refine (CF.out 1).mono ?_; rw [failF_ok]; rintro r w1 ⟨rfl, hr, hg⟩)
      go_ret
      exact ⟨rfl, hr, hg⟩
    · by_cases hs : (s.size : Int) < n
      · rw [rawF_short hs]
        go_enter Try.func70, Try.ntmps70
        go_wp2_with (go_at_call 71; refine (CF.out 2).mono ?_; rw [failF_ok]; rintro r w1 ⟨rfl, hr, hg⟩)
        go_ret
        exact ⟨rfl, hr, hg⟩
      · obtain ⟨n, rfl⟩ := Int.eq_ofNat_of_zero_le (Int.not_lt.1 hn)
        rw [rawF_ok (by omega) (by omega), Int.toNat_natCast]
        go_enter Try.func70, Try.ntmps70
        go_wp2
        go_ret
        exact ⟨rfl, H.out.set0 _, Chg.setCell (Chg.refl (· = b) w) (.inl rfl) _⟩
  · rw [rawF_err he]
    have hb : (e != 0) = true := by simpa using he
    have H := Lib.hid h
    clear h he
    go_enter Try.func70, Try.ntmps70
    go_wp2
    go_ret
    exact ⟨rfl, H.out, Chg.refl _ _⟩

/-- What Number does ahead of its Raw. -/
def adjF (x : RS) (n : Int) : RS := if n = 8 then eightF x else x
theorem adjF_left (x : RS) (n : Int) : (adjF x n).1 = x.1 := by unfold adjF; split <;> simp [eightF_left]

set_option maxRecDepth 100000 in
theorem rNumber_top (w : World) (b : Nat) (s : ByteArray) (h : RdAt w 62 b (s, 0)) (hx : s.size ≤ 140737488351232) (ht : topB (s, 0) = true) :
    Calls Try.prog 68 #[.pointer (some ⟨b, 0, none⟩), .int .i64 8] w fun r w' => r = .returned (.int .i64 (numF (failF (s, 0) 3) 8).1) ∧ RdAt w' 62 b (numF (failF (s, 0) 3) 8).2 ∧ Chg (· = b) w w' := by
  have c0 : w.cell? ⟨b, 0, none⟩ = some (.string s) := h.cell0
  have c1 : w.cell? ⟨b, 1, none⟩ = some (.int .i64 0) := h.cell1
  have hs : (rawF (failF (s, 0) 3) 8).1.size ≤ 140737488351232 := Nat.le_trans (rawF_size _ 8).1 (by rw [failF_left]; exact hx)
  unfold numF
  have CF := Lib.hid (rFail_calls w b (s, 0) 3 h)
  obtain ⟨h8', hgt⟩ := topB_yes ht
  have h8 : 8 ≤ s.size := h8'
  have HG := Lib.hid (show (127 : Int) < ((s[0]'(Nat.lt_of_lt_of_le (by omega) h8)).toNat : Int) from hgt)
  have H := Lib.hid h
  clear h ht hgt
  go_enter Try.func68, Try.ntmps68
  go_wp2_with (fail)
  any_goals (first | (exfalso; have := HG.out; omega) | skip)
  go_wp2_with (first | (go_at_call 71; refine (CF.out).mono ?_; rintro r w0 ⟨rfl, hr, hg⟩) | (go_at_call 70; refine (rRaw_calls _ b _ 8 hr).mono ?_; rintro r w1 ⟨rfl, hr1, hg1⟩))
  obtain ⟨t, ht⟩ : ∃ t, (rawF (failF (s, 0) 3) 8).1 = t := ⟨_, rfl⟩
  rw [ht] at hs ⊢
  go_loop [6, 7] (fun v i => ∃ (k : Nat), k ≤ t.size ∧ i = .int .i64 k ∧ v = .int .i64 (beF (t.data.toList.take k))) (fun _ i => t.size - (intOf i).toNat)
  case atStart => exact ⟨0, by omega, rfl, rfl⟩
  case round =>
    obtain ⟨k, hk, rfl, rfl⟩ := hrel
    by_cases hlt : k < t.size
    · have HB := Lib.hid (beF_take t k hlt)
      obtain ⟨y, hy⟩ : ∃ y, beF (t.data.toList.take k) = y := ⟨_, rfl⟩
      rw [hy] at HB ⊢
      clear hy ht
      go_wp2
      exact ⟨⟨k + 1, by omega, by go_num, by rw [HB.out]; rfl⟩, by simp [intOf]; omega⟩
    · have HB := Lib.hid (take_all t k hlt)
      go_wp2
      go_ret
      exact ⟨ret_i64 (by rw [HB.out]), hr1, hg.trans hg1 (fun _ hk => .inl hk)⟩

set_option maxRecDepth 100000 in
theorem rNumber_low (w : World) (b : Nat) (s : ByteArray) (h : RdAt w 62 b (s, 0)) (hx : s.size ≤ 140737488351232) (ht : topB (s, 0) = false) :
    Calls Try.prog 68 #[.pointer (some ⟨b, 0, none⟩), .int .i64 8] w fun r w' => r = .returned (.int .i64 (numF (s, 0) 8).1) ∧ RdAt w' 62 b (numF (s, 0) 8).2 ∧ Chg (· = b) w w' := by
  have c0 : w.cell? ⟨b, 0, none⟩ = some (.string s) := h.cell0
  have c1 : w.cell? ⟨b, 1, none⟩ = some (.int .i64 0) := h.cell1
  have hs : (rawF (s, 0) 8).1.size ≤ 140737488351232 := Nat.le_trans (rawF_size _ 8).1 hx
  unfold numF
  have CR := Lib.hid (rRaw_calls w b (s, 0) 8 h)
  by_cases h8 : 8 ≤ s.size
  · have HG := Lib.hid (show ((s[0]'(Nat.lt_of_lt_of_le (by omega) h8)).toNat : Int) ≤ 127 from topB_no ht h8)
    have H := Lib.hid h
    clear h ht
    go_enter Try.func68, Try.ntmps68
    go_wp2_with (fail)
    any_goals (first | (exfalso; have := HG.out; omega) | skip)
    go_wp2_with (go_at_call 70; refine (CR.out).mono ?_; rintro r w1 ⟨rfl, hr1, hg1⟩)
    obtain ⟨t, ht⟩ : ∃ t, (rawF (s, 0) 8).1 = t := ⟨_, rfl⟩
    rw [ht] at hs ⊢
    go_loop [6, 7] (fun v i => ∃ (k : Nat), k ≤ t.size ∧ i = .int .i64 k ∧ v = .int .i64 (beF (t.data.toList.take k))) (fun _ i => t.size - (intOf i).toNat)
    case atStart => exact ⟨0, by omega, rfl, rfl⟩
    case round =>
      obtain ⟨k, hk, rfl, rfl⟩ := hrel
      by_cases hlt : k < t.size
      · have HB := Lib.hid (beF_take t k hlt)
        obtain ⟨y, hy⟩ : ∃ y, beF (t.data.toList.take k) = y := ⟨_, rfl⟩
        rw [hy] at HB ⊢
        clear hy ht
        go_wp2
        exact ⟨⟨k + 1, by omega, by go_num, by rw [HB.out]; rfl⟩, by simp [intOf]; omega⟩
      · have HB := Lib.hid (take_all t k hlt)
        go_wp2
        go_ret
        exact ⟨ret_i64 (by rw [HB.out]), hr1, hg1⟩
  · have H := Lib.hid h
    clear h ht
    go_enter Try.func68, Try.ntmps68
    go_wp2_with (go_at_call 70; refine (CR.out).mono ?_; rintro r w1 ⟨rfl, hr1, hg1⟩)
    obtain ⟨t, ht⟩ : ∃ t, (rawF (s, 0) 8).1 = t := ⟨_, rfl⟩
    rw [ht] at hs ⊢
    go_loop [6, 7] (fun v i => ∃ (k : Nat), k ≤ t.size ∧ i = .int .i64 k ∧ v = .int .i64 (beF (t.data.toList.take k))) (fun _ i => t.size - (intOf i).toNat)
    case atStart => exact ⟨0, by omega, rfl, rfl⟩
    case round =>
      obtain ⟨k, hk, rfl, rfl⟩ := hrel
      by_cases hlt : k < t.size
      · have HB := Lib.hid (beF_take t k hlt)
        obtain ⟨y, hy⟩ : ∃ y, beF (t.data.toList.take k) = y := ⟨_, rfl⟩
        rw [hy] at HB ⊢
        clear hy ht
        go_wp2
        exact ⟨⟨k + 1, by omega, by go_num, by rw [HB.out]; rfl⟩, by simp [intOf]; omega⟩
      · have HB := Lib.hid (take_all t k hlt)
        go_wp2
        go_ret
        exact ⟨ret_i64 (by rw [HB.out]), hr1, hg1⟩

theorem rNumber_err (w : World) (b : Nat) (x : RS) (h : RdAt w 62 b x) (hx : x.1.size ≤ 140737488351232) (he : x.2 ≠ 0) :
    Calls Try.prog 68 #[.pointer (some ⟨b, 0, none⟩), .int .i64 8] w fun r w' => r = .returned (.int .i64 (numF x 8).1) ∧ RdAt w' 62 b (numF x 8).2 ∧ Chg (· = b) w w' := by
  have c0 := h.cell0
  have c1 := h.cell1
  have hs : (rawF x 8).1.size ≤ 140737488351232 := Nat.le_trans (rawF_size _ 8).1 hx
  unfold numF
  have CR := Lib.hid (rRaw_calls w b x 8 h)
  have hb : (x.2 == 0) = false := by simpa using he
  have H := Lib.hid h
  clear h he
  go_enter Try.func68, Try.ntmps68
  go_wp2_with (go_at_call 70; refine (CR.out).mono ?_; rintro r w1 ⟨rfl, hr1, hg1⟩)
  obtain ⟨t, ht⟩ : ∃ t, (rawF x 8).1 = t := ⟨_, rfl⟩
  rw [ht] at hs ⊢
  go_loop [6, 7] (fun v i => ∃ (k : Nat), k ≤ t.size ∧ i = .int .i64 k ∧ v = .int .i64 (beF (t.data.toList.take k))) (fun _ i => t.size - (intOf i).toNat)
  case atStart => exact ⟨0, by omega, rfl, rfl⟩
  case round =>
    obtain ⟨k, hk, rfl, rfl⟩ := hrel
    by_cases hlt : k < t.size
    · have HB := Lib.hid (beF_take t k hlt)
      obtain ⟨y, hy⟩ : ∃ y, beF (t.data.toList.take k) = y := ⟨_, rfl⟩
      rw [hy] at HB ⊢
      clear hy ht
      go_wp2
      exact ⟨⟨k + 1, by omega, by go_num, by rw [HB.out]; rfl⟩, by simp [intOf]; omega⟩
    · have HB := Lib.hid (take_all t k hlt)
      go_wp2
      go_ret
      exact ⟨ret_i64 (by rw [HB.out]), hr1, hg1⟩

theorem rNumber_small (w : World) (b : Nat) (x : RS) (n : Int) (h : RdAt w 62 b x) (hx : x.1.size ≤ 140737488351232) (hn : n ≠ 8) :
    Calls Try.prog 68 #[.pointer (some ⟨b, 0, none⟩), .int .i64 n] w fun r w' => r = .returned (.int .i64 (numF x n).1) ∧ RdAt w' 62 b (numF x n).2 ∧ Chg (· = b) w w' := by
  have hs : (rawF x n).1.size ≤ 140737488351232 := Nat.le_trans (rawF_size _ n).1 hx
  unfold numF
  have CR := Lib.hid (rRaw_calls w b x n h)
  have hb : (n == 8) = false := by simpa using hn
  have H := Lib.hid h
  clear h hn
  go_enter Try.func68, Try.ntmps68
  go_wp2_with (go_at_call 70; refine (CR.out).mono ?_; rintro r w1 ⟨rfl, hr1, hg1⟩)
  obtain ⟨t, ht⟩ : ∃ t, (rawF x n).1 = t := ⟨_, rfl⟩
  rw [ht] at hs ⊢
  go_loop [6, 7] (fun v i => ∃ (k : Nat), k ≤ t.size ∧ i = .int .i64 k ∧ v = .int .i64 (beF (t.data.toList.take k))) (fun _ i => t.size - (intOf i).toNat)
  case atStart => exact ⟨0, by omega, rfl, rfl⟩
  case round =>
    obtain ⟨k, hk, rfl, rfl⟩ := hrel
    by_cases hlt : k < t.size
    · have HB := Lib.hid (beF_take t k hlt)
      obtain ⟨y, hy⟩ : ∃ y, beF (t.data.toList.take k) = y := ⟨_, rfl⟩
      rw [hy] at HB ⊢
      clear hy ht
      go_wp2
      exact ⟨⟨k + 1, by omega, by go_num, by rw [HB.out]; rfl⟩, by simp [intOf]; omega⟩
    · have HB := Lib.hid (take_all t k hlt)
      go_wp2
      go_ret
      exact ⟨ret_i64 (by rw [HB.out]), hr1, hg1⟩

theorem rNumber_calls (w : World) (b : Nat) (x : RS) (n : Int) (h : RdAt w 62 b x) (hx : x.1.size ≤ 140737488351232) :
    Calls Try.prog 68 #[.pointer (some ⟨b, 0, none⟩), .int .i64 n] w fun r w' => r = .returned (.int .i64 (numF (adjF x n) n).1) ∧ RdAt w' 62 b (numF (adjF x n) n).2 ∧ Chg (· = b) w w' := by
  by_cases h8 : n = 8
  · subst h8
    rw [show adjF x 8 = eightF x from if_pos rfl]
    by_cases he : x.2 = 0
    · obtain ⟨s, er⟩ := x
      obtain rfl : er = 0 := he
      cases ht : topB (s, 0) with
      | true =>
        rw [show eightF (s, 0) = failF (s, 0) 3 from if_pos ht]
        exact rNumber_top w b s h hx ht
      | false =>
        rw [show eightF (s, 0) = (s, 0) from if_neg (by rw [ht]; simp)]
        exact rNumber_low w b s h hx ht
    · have e : eightF x = x := by
        unfold eightF
        split
        · exact failF_err he
        · rfl
      rw [e]
      exact rNumber_err w b x h hx he
  · rw [show adjF x n = x from if_neg h8]
    exact rNumber_small w b x n h hx h8

end Go.Proofs.Ytjlkflbkejpcaaa