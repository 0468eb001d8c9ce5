/- The reference's Text and End, both makers of a reader, and pack's reader that is nil. -/
import Derived.Test.YtjlkflbkejpcaaaRr
namespace Go.Proofs.Ytjlkflbkejpcaaa
open Go.RowKit

theorem rEnd_calls (w : World) (b : Nat) (x : RS) (h : RdAt w 62 b x) :
    Calls Try.prog 35 #[.pointer (some ⟨b, 0, none⟩)] w fun r w' => r = .returned (.int .i64 (endF x).2) ∧ RdAt w' 62 b (endF x) ∧ Chg (· = b) w w' := by
  have c0 := h.cell0
  by_cases h0 : 0 < x.1.size
  · have CF := Lib.hid (rFail_calls w b x 3 h)
    rw [show endF x = failF x 3 from if_pos h0]
    clear h
    go_enter Try.func35, Try.ntmps35
    go_wp2_with (go_at_call 71; refine (CF.out).mono ?_; rintro r w1 ⟨rfl, hr, hg⟩; have c1 := hr.cell1; have HR := Lib.hid hr; clear hr)
    go_ret
    exact ⟨rfl, HR.out, hg⟩
  · have c1 := h.cell1
    rw [show endF x = x from if_neg h0]
    have H := Lib.hid h
    clear h
    go_enter Try.func35, Try.ntmps35
    go_wp2
    go_ret
    exact ⟨rfl, H.out, Chg.refl _ _⟩

/-- An error ahead of Text's number: nothing is read. -/
theorem num2_err {x : RS} (h : x.2 ≠ 0) : numF (adjF x 2) 2 = (0, x) := by
  rw [show adjF x 2 = x from if_neg (by decide)]
  unfold numF
  rw [rawF_err h]
  rfl
theorem num2_bad {x : RS} {m : Int} {n : Int} {x1 : RS} (hn : (numF x 2).1 = n) (h1 : (numF x 2).2 = x1) (he : x1.2 ≠ 0) (h0 : x.2 = 0) : textF x m = (⟨#[]⟩, x1) ∧ x1.1 = x.1 := by
  obtain ⟨s, e⟩ := x
  obtain rfl : e = 0 := h0
  unfold numF at hn h1
  have hs : (s.size : Int) < 2 := by
    rcases Int.lt_or_le (s.size : Int) 2 with h | h
    · exact h
    · rw [rawF_ok (by omega) h] at h1
      subst h1
      exact absurd rfl he
  rw [rawF_short hs] at hn h1
  simp only at hn h1
  obtain rfl : n = 0 := hn.symm
  have h2 : (if (if m < 0 then 0 else m) < (0 : Int) then failF x1 4 else x1) = x1 := by
    rw [if_neg]
    split <;> omega
  have h3 : (numF (s, 0) 2).2 = x1 := by unfold numF; rw [rawF_short hs]; exact h1
  have h4 : (numF (s, 0) 2).1 = 0 := by unfold numF; rw [rawF_short hs]; rfl
  rw [textF_ok h4 h3 h2 (rawF_err he)]
  rw [if_pos he]
  subst h1
  exact ⟨rfl, rfl⟩

theorem rText_err (w : World) (b : Nat) (x x1 : RS) (n m : Int) (h : RdAt w 62 b x) (hx : x.1.size ≤ 140737488351232) (hn : (numF x 2).1 = n) (hx1 : (numF x 2).2 = x1) (he : x1.2 ≠ 0) :
    Calls Try.prog 69 #[.pointer (some ⟨b, 0, none⟩), .int .i64 m] w fun r w' => r = .returned (.string ⟨#[]⟩) ∧ RdAt w' 62 b x1 ∧ Chg (· = b) w w' := by
  have c0 := h.cell0
  have C2 := Lib.hid (rNumber_small w b x 2 h hx (by decide))
  rw [hn, hx1] at C2
  have hb : (x1.2 != 0) = true := by simpa using he
  have H := Lib.hid h
  clear h hn hx1 he
  go_enter Try.func69, Try.ntmps69
  go_wp2_with (go_at_call 68; refine (C2.out).mono ?_; rintro r w1 ⟨rfl, hr1, hg1⟩; have c1 := hr1.cell1; have HR := Lib.hid hr1; clear hr1)
  go_ret
  exact ⟨rfl, HR.out, hg1⟩

theorem rText_ok (w : World) (b : Nat) (s : ByteArray) (x1 : RS) (n m : Int) (h : RdAt w 62 b (s, 0)) (hx : s.size ≤ 140737488351232) (hn : (numF (s, 0) 2).1 = n) (hx1 : (numF (s, 0) 2).2 = x1) (he : x1.2 = 0) :
    Calls Try.prog 69 #[.pointer (some ⟨b, 0, none⟩), .int .i64 m] w fun r w' => r = .returned (.string (textF (s, 0) m).1) ∧ RdAt w' 62 b (textF (s, 0) m).2 ∧ Chg (· = b) w w' := by
  have c0 : w.cell? ⟨b, 0, none⟩ = some (.string s) := h.cell0
  have C2 := Lib.hid (rNumber_small w b (s, 0) 2 h hx (by decide))
  obtain ⟨x2, hx2⟩ : ∃ x2, (if (if m < 0 then 0 else m) < n then failF x1 4 else x1) = x2 := ⟨_, rfl⟩
  obtain ⟨t, ht⟩ : ∃ t, rawF x2 n = t := ⟨_, rfl⟩
  rw [textF_ok hn hx1 hx2 ht]
  rw [hn, hx1] at C2
  have hb : (x1.2 != 0) = false := by simpa using he
  have H := Lib.hid h
  have Hhx2 := Lib.hid hx2
  have Hht := Lib.hid ht
  clear h hn hx1 hx2 ht he
  by_cases hm0 : m < 0
  · have hL : (if m < 0 then 0 else m) = 0 := if_pos hm0
    rw [hL] at Hhx2
    clear hL
    by_cases hm : 0 < n
    · rw [if_pos hm] at Hhx2
      by_cases hz : t.2.2 = 0
      · have hzb : (t.2.2 != 0) = false := by simpa using hz
        rw [if_neg (not_not_intro hz)]
        clear hz
        go_enter Try.func69, Try.ntmps69
        go_wp2_with (go_at_call 68; refine (C2.out).mono ?_; rintro r w1 ⟨rfl, hr1, hg1⟩; have d1 := hr1.cell1; have HR1 := Lib.hid hr1; clear hr1)
        refine (rFail_calls _ b _ 4 HR1.out).mono ?_
        rintro r w2 ⟨rfl, hr2, hg2⟩
        rw [Hhx2.out] at hr2
        have hg2 := hg1.trans hg2 (fun _ hk => .inl hk)
        clear d1
        go_wp2_with (fail)
        refine (rRaw_calls _ b _ n hr2).mono ?_
        rw [Hht.out]
        rintro r w3 ⟨rfl, hr3, hg3⟩
        have c1 := hr3.cell1
        have c00 := hr3.cell0
        have f0 := hr3.free 0
        have HR := Lib.hid hr3
        clear hr3
        go_wp2
        go_ret
        exact ⟨rfl, HR.out, hg2.trans hg3 (fun _ hk => .inl hk)⟩
      · have hzb : (t.2.2 != 0) = true := by simpa using hz
        rw [if_pos hz]
        clear hz
        go_enter Try.func69, Try.ntmps69
        go_wp2_with (go_at_call 68; refine (C2.out).mono ?_; rintro r w1 ⟨rfl, hr1, hg1⟩; have d1 := hr1.cell1; have HR1 := Lib.hid hr1; clear hr1)
        refine (rFail_calls _ b _ 4 HR1.out).mono ?_
        rintro r w2 ⟨rfl, hr2, hg2⟩
        rw [Hhx2.out] at hr2
        have hg2 := hg1.trans hg2 (fun _ hk => .inl hk)
        clear d1
        go_wp2_with (fail)
        refine (rRaw_calls _ b _ n hr2).mono ?_
        rw [Hht.out]
        rintro r w3 ⟨rfl, hr3, hg3⟩
        have c1 := hr3.cell1
        have c00 := hr3.cell0
        have f0 := hr3.free 0
        have HR := Lib.hid hr3
        clear hr3
        go_wp2
        go_ret
        exact ⟨rfl, HR.out.set0 _, (hg2.trans hg3 (fun _ hk => .inl hk)).setCell (.inl rfl) _⟩
    · rw [if_neg hm] at Hhx2
      by_cases hz : t.2.2 = 0
      · have hzb : (t.2.2 != 0) = false := by simpa using hz
        rw [if_neg (not_not_intro hz)]
        clear hz
        go_enter Try.func69, Try.ntmps69
        go_wp2_with (go_at_call 68; refine (C2.out).mono ?_; rintro r w1 ⟨rfl, hr1, hg1⟩; have d1 := hr1.cell1; have HR1 := Lib.hid hr1; clear hr1)
        have hr2 := HR1.out
        rw [Hhx2.out] at hr2
        have hg2 := hg1
        clear d1
        go_wp2_with (fail)
        refine (rRaw_calls _ b _ n hr2).mono ?_
        rw [Hht.out]
        rintro r w3 ⟨rfl, hr3, hg3⟩
        have c1 := hr3.cell1
        have c00 := hr3.cell0
        have f0 := hr3.free 0
        have HR := Lib.hid hr3
        clear hr3
        go_wp2
        go_ret
        exact ⟨rfl, HR.out, hg2.trans hg3 (fun _ hk => .inl hk)⟩
      · have hzb : (t.2.2 != 0) = true := by simpa using hz
        rw [if_pos hz]
        clear hz
        go_enter Try.func69, Try.ntmps69
        go_wp2_with (go_at_call 68; refine (C2.out).mono ?_; rintro r w1 ⟨rfl, hr1, hg1⟩; have d1 := hr1.cell1; have HR1 := Lib.hid hr1; clear hr1)
        have hr2 := HR1.out
        rw [Hhx2.out] at hr2
        have hg2 := hg1
        clear d1
        go_wp2_with (fail)
        refine (rRaw_calls _ b _ n hr2).mono ?_
        rw [Hht.out]
        rintro r w3 ⟨rfl, hr3, hg3⟩
        have c1 := hr3.cell1
        have c00 := hr3.cell0
        have f0 := hr3.free 0
        have HR := Lib.hid hr3
        clear hr3
        go_wp2
        go_ret
        exact ⟨rfl, HR.out.set0 _, (hg2.trans hg3 (fun _ hk => .inl hk)).setCell (.inl rfl) _⟩
  · have hL : (if m < 0 then 0 else m) = m := if_neg hm0
    rw [hL] at Hhx2
    clear hL
    by_cases hm : m < n
    · rw [if_pos hm] at Hhx2
      by_cases hz : t.2.2 = 0
      · have hzb : (t.2.2 != 0) = false := by simpa using hz
        rw [if_neg (not_not_intro hz)]
        clear hz
        go_enter Try.func69, Try.ntmps69
        go_wp2_with (go_at_call 68; refine (C2.out).mono ?_; rintro r w1 ⟨rfl, hr1, hg1⟩; have d1 := hr1.cell1; have HR1 := Lib.hid hr1; clear hr1)
        refine (rFail_calls _ b _ 4 HR1.out).mono ?_
        rintro r w2 ⟨rfl, hr2, hg2⟩
        rw [Hhx2.out] at hr2
        have hg2 := hg1.trans hg2 (fun _ hk => .inl hk)
        clear d1
        go_wp2_with (fail)
        refine (rRaw_calls _ b _ n hr2).mono ?_
        rw [Hht.out]
        rintro r w3 ⟨rfl, hr3, hg3⟩
        have c1 := hr3.cell1
        have c00 := hr3.cell0
        have f0 := hr3.free 0
        have HR := Lib.hid hr3
        clear hr3
        go_wp2
        go_ret
        exact ⟨rfl, HR.out, hg2.trans hg3 (fun _ hk => .inl hk)⟩
      · have hzb : (t.2.2 != 0) = true := by simpa using hz
        rw [if_pos hz]
        clear hz
        go_enter Try.func69, Try.ntmps69
        go_wp2_with (go_at_call 68; refine (C2.out).mono ?_; rintro r w1 ⟨rfl, hr1, hg1⟩; have d1 := hr1.cell1; have HR1 := Lib.hid hr1; clear hr1)
        refine (rFail_calls _ b _ 4 HR1.out).mono ?_
        rintro r w2 ⟨rfl, hr2, hg2⟩
        rw [Hhx2.out] at hr2
        have hg2 := hg1.trans hg2 (fun _ hk => .inl hk)
        clear d1
        go_wp2_with (fail)
        refine (rRaw_calls _ b _ n hr2).mono ?_
        rw [Hht.out]
        rintro r w3 ⟨rfl, hr3, hg3⟩
        have c1 := hr3.cell1
        have c00 := hr3.cell0
        have f0 := hr3.free 0
        have HR := Lib.hid hr3
        clear hr3
        go_wp2
        go_ret
        exact ⟨rfl, HR.out.set0 _, (hg2.trans hg3 (fun _ hk => .inl hk)).setCell (.inl rfl) _⟩
    · rw [if_neg hm] at Hhx2
      by_cases hz : t.2.2 = 0
      · have hzb : (t.2.2 != 0) = false := by simpa using hz
        rw [if_neg (not_not_intro hz)]
        clear hz
        go_enter Try.func69, Try.ntmps69
        go_wp2_with (go_at_call 68; refine (C2.out).mono ?_; rintro r w1 ⟨rfl, hr1, hg1⟩; have d1 := hr1.cell1; have HR1 := Lib.hid hr1; clear hr1)
        have hr2 := HR1.out
        rw [Hhx2.out] at hr2
        have hg2 := hg1
        clear d1
        go_wp2_with (fail)
        refine (rRaw_calls _ b _ n hr2).mono ?_
        rw [Hht.out]
        rintro r w3 ⟨rfl, hr3, hg3⟩
        have c1 := hr3.cell1
        have c00 := hr3.cell0
        have f0 := hr3.free 0
        have HR := Lib.hid hr3
        clear hr3
        go_wp2
        go_ret
        exact ⟨rfl, HR.out, hg2.trans hg3 (fun _ hk => .inl hk)⟩
      · have hzb : (t.2.2 != 0) = true := by simpa using hz
        rw [if_pos hz]
        clear hz
        go_enter Try.func69, Try.ntmps69
        go_wp2_with (go_at_call 68; refine (C2.out).mono ?_; rintro r w1 ⟨rfl, hr1, hg1⟩; have d1 := hr1.cell1; have HR1 := Lib.hid hr1; clear hr1)
        have hr2 := HR1.out
        rw [Hhx2.out] at hr2
        have hg2 := hg1
        clear d1
        go_wp2_with (fail)
        refine (rRaw_calls _ b _ n hr2).mono ?_
        rw [Hht.out]
        rintro r w3 ⟨rfl, hr3, hg3⟩
        have c1 := hr3.cell1
        have c00 := hr3.cell0
        have f0 := hr3.free 0
        have HR := Lib.hid hr3
        clear hr3
        go_wp2
        go_ret
        exact ⟨rfl, HR.out.set0 _, (hg2.trans hg3 (fun _ hk => .inl hk)).setCell (.inl rfl) _⟩

theorem rText_calls (w : World) (b : Nat) (x : RS) (m : Int) (h : RdAt w 62 b x) (hx : x.1.size ≤ 140737488351232) :
    Calls Try.prog 69 #[.pointer (some ⟨b, 0, none⟩), .int .i64 m] w fun r w' => r = .returned (.string (textF x m).1) ∧ RdAt w' 62 b (textF x m).2 ∧ Chg (· = b) w w' := by
  by_cases h0 : x.2 = 0
  · by_cases he : (numF x 2).2.2 = 0
    · obtain ⟨s, e⟩ := x
      obtain rfl : e = 0 := h0
      exact rText_ok w b s _ _ m h hx rfl rfl he
    · rw [(num2_bad (m := m) rfl rfl he h0).1]
      exact rText_err w b x _ _ m h hx rfl rfl he
  · have e : (numF x 2) = (0, x) := by have := num2_err h0; rwa [show adjF x 2 = x from if_neg (by decide)] at this
    rw [textF_err h0]
    exact rText_err w b x x 0 m h hx (by rw [e]) (by rw [e]) h0

theorem Read_calls (w : World) (s : ByteArray) :
    Calls Try.prog 32 #[.string s] w fun r w' => r = .returned (.pointer (some ⟨w.heap.size, 0, none⟩)) ∧ w' = w.alloc (.cells #[.string s, .int .i64 0] 59) := by
  go_enter Try.func32, Try.ntmps32
  go_wp2
  go_ret
  exact ⟨rfl, rfl⟩

theorem rRead_calls (w : World) (s : ByteArray) :
    Calls Try.prog 33 #[.string s] w fun r w' => r = .returned (.pointer (some ⟨w.heap.size, 0, none⟩)) ∧ w' = w.alloc (.cells #[.string s, .int .i64 0] 62) := by
  go_enter Try.func33, Try.ntmps33
  go_wp2
  go_ret
  exact ⟨rfl, rfl⟩

theorem Err_nil (w : World) :
    Calls Try.prog 30 #[.pointer none] w fun r w' => r = .returned (.int .i64 1) ∧ w = w' := by
  go_enter Try.func30, Try.ntmps30
  go_wp2
  go_ret
  exact ⟨rfl, rfl⟩

theorem Left_nil (w : World) :
    Calls Try.prog 29 #[.pointer none] w fun r w' => r = .returned (.int .i64 0) ∧ w = w' := by
  go_enter Try.func29, Try.ntmps29
  go_wp2
  go_ret
  exact ⟨rfl, rfl⟩

theorem Fail_nil (w : World) (e : Int) :
    Calls Try.prog 21 #[.pointer none, .int .i64 e] w fun r w' => r = .returned (.tuple #[]) ∧ w = w' := by
  go_enter Try.func21, Try.ntmps21
  go_wp2_with (first | (go_at_call 30; refine (Err_nil _).mono ?_; rintro r w1 ⟨rfl, rfl⟩))
  go_end0
  exact ⟨rfl, rfl⟩

theorem Raw_nil (w : World) (n : Int) :
    Calls Try.prog 28 #[.pointer none, .int .i64 n] w fun r w' => r = .returned (.string ⟨#[]⟩) ∧ w = w' := by
  go_enter Try.func28, Try.ntmps28
  go_wp2_with (first | (go_at_call 30; refine (Err_nil _).mono ?_; rintro r w1 ⟨rfl, rfl⟩))
  go_ret
  exact ⟨rfl, rfl⟩

theorem number_nil (w : World) (n : Int) :
    Calls Try.prog 67 #[.pointer none, .int .i64 n] w fun r w' => r = .returned (.int .i64 0) ∧ Chg (fun _ => False) w w' := by
  have kc := fun W s => Lib.run_convert_string_bytes (P := Try.prog) W 9 24 5 s Try.underlying9 Try.underlying24 Try.underlying5
  go_enter Try.func67, Try.ntmps67
  go_wp2_with (first | (go_at_call 28; refine (Raw_nil _ _).mono ?_; rintro r w1 ⟨rfl, rfl⟩))
  go_loop [5, 13] (fun v i => i = .int .i64 0 ∧ v = .int .i64 0) (fun _ _ => 0)
  case atStart => exact ⟨rfl, rfl⟩
  case round =>
    obtain ⟨rfl, rfl⟩ := hrel
    go_wp2
    go_ret
    exact ⟨rfl, bytesChg w _ 5 _⟩

theorem Byte_nil (w : World) :
    Calls Try.prog 22 #[.pointer none] w fun r w' => r = .returned (.int .i64 0) ∧ Chg (fun _ => False) w w' := by
  go_enter Try.func22, Try.ntmps22
  go_wp2_with (first | (go_at_call 67; refine (number_nil _ _).mono ?_; rintro r w1 ⟨rfl, hg⟩))
  go_ret
  exact ⟨rfl, hg⟩

theorem Two_nil (w : World) :
    Calls Try.prog 23 #[.pointer none] w fun r w' => r = .returned (.int .i64 0) ∧ Chg (fun _ => False) w w' := by
  go_enter Try.func23, Try.ntmps23
  go_wp2_with (first | (go_at_call 67; refine (number_nil _ _).mono ?_; rintro r w1 ⟨rfl, hg⟩))
  go_ret
  exact ⟨rfl, hg⟩

theorem Four_nil (w : World) :
    Calls Try.prog 24 #[.pointer none] w fun r w' => r = .returned (.int .i64 0) ∧ Chg (fun _ => False) w w' := by
  go_enter Try.func24, Try.ntmps24
  go_wp2_with (first | (go_at_call 67; refine (number_nil _ _).mono ?_; rintro r w1 ⟨rfl, hg⟩))
  go_ret
  exact ⟨rfl, hg⟩

theorem Eight_nil (w : World) :
    Calls Try.prog 25 #[.pointer none] w fun r w' => r = .returned (.int .i64 0) ∧ Chg (fun _ => False) w w' := by
  go_enter Try.func25, Try.ntmps25
  go_wp2_with (first | (go_at_call 67; refine (number_nil _ _).mono ?_; rintro r w1 ⟨rfl, hg⟩) | (go_at_call 29; refine (Left_nil _).mono ?_; rintro r w1 ⟨rfl, rfl⟩))
  go_ret
  exact ⟨rfl, hg⟩

theorem Text_nil (w : World) (n : Int) :
    Calls Try.prog 26 #[.pointer none, .int .i64 n] w fun r w' => r = .returned (.string ⟨#[]⟩) ∧ w = w' := by
  go_enter Try.func26, Try.ntmps26
  go_wp2_with (first | (go_at_call 30; refine (Err_nil _).mono ?_; rintro r w1 ⟨rfl, rfl⟩))
  go_ret
  exact ⟨rfl, rfl⟩

theorem Hash_nil (w : World) :
    Calls Try.prog 27 #[.pointer none] w fun r w' => r = .returned (.string ⟨#[]⟩) ∧ w = w' := by
  go_enter Try.func27, Try.ntmps27
  go_wp2_with (first | (go_at_call 28; refine (Raw_nil _ _).mono ?_; rintro r w1 ⟨rfl, rfl⟩))
  go_ret
  exact ⟨rfl, rfl⟩

theorem End_nil (w : World) :
    Calls Try.prog 31 #[.pointer none] w fun r w' => r = .returned (.int .i64 1) ∧ w = w' := by
  go_enter Try.func31, Try.ntmps31
  go_wp2_with (first | (go_at_call 30; refine (Err_nil _).mono ?_; rintro r w1 ⟨rfl, rfl⟩) | (go_at_call 29; refine (Left_nil _).mono ?_; rintro r w1 ⟨rfl, rfl⟩))
  go_ret
  exact ⟨rfl, rfl⟩

end Go.Proofs.Ytjlkflbkejpcaaa