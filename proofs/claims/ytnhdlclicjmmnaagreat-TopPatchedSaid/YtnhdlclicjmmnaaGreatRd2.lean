/- The readers of package pack, the rest: numbers, texts, the end; and a nil reader. -/
import Derived.Test.YtnhdlclicjmmnaaGreatRd
namespace Go.Proofs.YtnhdlclicjmmnaaGreat
open Go.RowKit

theorem Byte_calls (w : World) (b : Nat) (x : RS) (h : RdAt w 159 b x) (hx : x.1.size ≤ 140737488351232) :
    Calls Tryz.prog 57 #[.pointer (some ⟨b, 0, none⟩)] w fun r w' => r = .returned (.int .i64 (numF x 1).1) ∧ RdAt w' 159 b (numF x 1).2 ∧ Chg (· = b) w w' := by
  have C := Lib.hid (number_calls w b x 1 h hx)
  clear h
  go_enter Tryz.func57, Tryz.ntmps57
  go_wp2_with (go_at_call 84; refine (C.out).mono ?_; rintro r w1 ⟨rfl, hr, hg⟩)
  go_ret
  exact ⟨rfl, hr, hg⟩

theorem Two_calls (w : World) (b : Nat) (x : RS) (h : RdAt w 159 b x) (hx : x.1.size ≤ 140737488351232) :
    Calls Tryz.prog 59 #[.pointer (some ⟨b, 0, none⟩)] w fun r w' => r = .returned (.int .i64 (numF x 2).1) ∧ RdAt w' 159 b (numF x 2).2 ∧ Chg (· = b) w w' := by
  have C := Lib.hid (number_calls w b x 2 h hx)
  clear h
  go_enter Tryz.func59, Tryz.ntmps59
  go_wp2_with (go_at_call 84; refine (C.out).mono ?_; rintro r w1 ⟨rfl, hr, hg⟩)
  go_ret
  exact ⟨rfl, hr, hg⟩

theorem Four_calls (w : World) (b : Nat) (x : RS) (h : RdAt w 159 b x) (hx : x.1.size ≤ 140737488351232) :
    Calls Tryz.prog 58 #[.pointer (some ⟨b, 0, none⟩)] w fun r w' => r = .returned (.int .i64 (numF x 4).1) ∧ RdAt w' 159 b (numF x 4).2 ∧ Chg (· = b) w w' := by
  have C := Lib.hid (number_calls w b x 4 h hx)
  clear h
  go_enter Tryz.func58, Tryz.ntmps58
  go_wp2_with (go_at_call 84; refine (C.out).mono ?_; rintro r w1 ⟨rfl, hr, hg⟩)
  go_ret
  exact ⟨rfl, hr, hg⟩

theorem Hash_calls (w : World) (b : Nat) (x : RS) (h : RdAt w 159 b x) :
    Calls Tryz.prog 82 #[.pointer (some ⟨b, 0, none⟩)] w fun r w' => r = .returned (.string (rawF x 32).1) ∧ RdAt w' 159 b (rawF x 32).2 ∧ Chg (· = b) w w' := by
  have C := Lib.hid (Raw_calls w b x 32 h)
  clear h
  go_enter Tryz.func82, Tryz.ntmps82
  go_wp2_with (go_at_call 102; refine (C.out).mono ?_; rintro r w1 ⟨rfl, hr, hg⟩)
  go_ret
  exact ⟨rfl, hr, hg⟩

theorem topB_yes {x : RS} (h : topB x = true) : ∃ h8 : 8 ≤ x.1.size, (127 : Int) < ((x.1[0]'(by omega)).toNat : Int) := by
  unfold topB at h
  split at h
  · rename_i h8
    exact ⟨h8, by have := of_decide_eq_true h; omega⟩
  · cases h
theorem topB_no {x : RS} (h : topB x = false) (h8 : 8 ≤ x.1.size) : ((x.1[0]'(by omega)).toNat : Int) ≤ 127 := by
  unfold topB at h
  rw [dif_pos h8] at h
  have := of_decide_eq_false h
  omega

theorem Eight_calls (w : World) (b : Nat) (x : RS) (h : RdAt w 159 b x) (hx : x.1.size ≤ 140737488351232) :
    Calls Tryz.prog 87 #[.pointer (some ⟨b, 0, none⟩)] w fun r w' => r = .returned (.int .i64 (numF (eightF x) 8).1) ∧ RdAt w' 159 b (numF (eightF x) 8).2 ∧ Chg (· = b) w w' := by
  have CL := Lib.hid (Left_calls w b x h)
  have c0 := h.cell0
  by_cases h8 : 8 ≤ x.1.size
  · by_cases ht : topB x = true
    · obtain ⟨h8', hgt⟩ := topB_yes ht
      have CF := Lib.hid (Fail_calls w b x 3 h)
      have he : eightF x = failF x 3 := by rw [eightF, if_pos ht]
      rw [he]
      have H := Lib.hid h
      have HT := Lib.hid ht
      clear h ht he
      go_enter Tryz.func87, Tryz.ntmps87
      go_wp2_with (first | (go_at_call 92; refine (CL.out).mono ?_; rintro r w' ⟨rfl, rfl⟩) | (go_at_call 104; refine (CF.out).mono ?_; rintro r w1 ⟨rfl, hr, hg⟩) | (go_at_call 84; refine (number_calls _ b _ _ hr (by rw [failF_left]; exact hx)).mono ?_; rintro r w2 ⟨rfl, hr2, hg2⟩))
      go_ret
      exact ⟨rfl, hr2, hg.trans hg2 (fun _ hk => .inl hk)⟩
    · have ht' : topB x = false := by simpa using ht
      have hgt := topB_no ht' h8
      have he : eightF x = x := by rw [eightF, if_neg ht]
      rw [he]
      have CN := Lib.hid (number_calls w b x 8 h hx)
      clear h ht ht' he
      go_enter Tryz.func87, Tryz.ntmps87
      go_wp2_with (first | (go_at_call 92; refine (CL.out).mono ?_; rintro r w' ⟨rfl, rfl⟩) | (go_at_call 84; refine (CN.out).mono ?_; rintro r w2 ⟨rfl, hr2, hg2⟩))
      go_ret
      exact ⟨rfl, hr2, hg2⟩
  · have ht : topB x = false := by unfold topB; rw [dif_neg h8]
    have he : eightF x = x := by rw [eightF, if_neg (by rw [ht]; simp)]
    rw [he]
    have CN := Lib.hid (number_calls w b x 8 h hx)
    clear h ht he
    go_enter Tryz.func87, Tryz.ntmps87
    go_wp2_with (first | (go_at_call 92; refine (CL.out).mono ?_; rintro r w' ⟨rfl, rfl⟩) | (go_at_call 84; refine (CN.out).mono ?_; rintro r w2 ⟨rfl, hr2, hg2⟩))
    go_ret
    exact ⟨rfl, hr2, hg2⟩

theorem End_calls (w : World) (b : Nat) (x : RS) (h : RdAt w 159 b x) :
    Calls Tryz.prog 106 #[.pointer (some ⟨b, 0, none⟩)] w fun r w' => r = .returned (.int .i64 (endF x).2) ∧ RdAt w' 159 b (endF x) ∧ Chg (· = b) w w' := by
  have CL := Lib.hid (Left_calls w b x h)
  by_cases h0 : 0 < x.1.size
  · have CF := Lib.hid (Fail_calls w b x 3 h)
    rw [show endF x = failF x 3 from if_pos h0]
    clear h
    go_enter Tryz.func106, Tryz.ntmps106
    go_wp2_with (first | (go_at_call 92; refine (CL.out).mono ?_; rintro r w' ⟨rfl, rfl⟩) | (go_at_call 104; refine (CF.out).mono ?_; rintro r w1 ⟨rfl, hr, hg⟩) | (go_at_call 114; refine (Err_calls _ b _ hr).mono ?_; rintro r w2 ⟨rfl, rfl⟩))
    go_ret
    exact ⟨rfl, hr, hg⟩
  · have CE := Lib.hid (Err_calls w b x h)
    rw [show endF x = x from if_neg h0]
    have H := Lib.hid h
    clear h
    go_enter Tryz.func106, Tryz.ntmps106
    go_wp2_with (first | (go_at_call 92; refine (CL.out).mono ?_; rintro r w' ⟨rfl, rfl⟩) | (go_at_call 114; refine (CE.out).mono ?_; rintro r w2 ⟨rfl, rfl⟩))
    go_ret
    exact ⟨rfl, H.out, Chg.refl _ _⟩

theorem Text_err (w : World) (b : Nat) (x : RS) (m : Int) (h : RdAt w 159 b x) (he : x.2 ≠ 0) :
    Calls Tryz.prog 105 #[.pointer (some ⟨b, 0, none⟩), .int .i64 m] w fun r w' => r = .returned (.string ⟨#[]⟩) ∧ w = w' := by
  have hb2 : (x.2 != 0) = true := by simpa using he
  have C := Lib.hid (Err_calls w b x h)
  clear h he
  go_enter Tryz.func105, Tryz.ntmps105
  go_wp2_with (go_at_call 114; refine (C.out).mono ?_; rintro r w' ⟨rfl, rfl⟩)
  go_ret
  exact ⟨rfl, rfl⟩

theorem failF_size (x : RS) (e : Int) : (failF x e).1.size = x.1.size := by rw [failF_left]
theorem Text_calls (w : World) (b : Nat) (x : RS) (m : Int) (h : RdAt w 159 b x) (hx : x.1.size ≤ 140737488351232) :
    Calls Tryz.prog 105 #[.pointer (some ⟨b, 0, none⟩), .int .i64 m] w fun r w' => r = .returned (.string (textF x m).1) ∧ RdAt w' 159 b (textF x m).2 ∧ Chg (· = b) w w' := by
  by_cases he : x.2 = 0
  · obtain ⟨s, er⟩ := x
    obtain rfl : er = 0 := he
    have C := Lib.hid (Err_calls w b _ h)
    have C2 := Lib.hid (Two_calls w b _ h hx)
    have c0 := h.cell0
    obtain ⟨n, hn⟩ : ∃ n, (numF (s, 0) 2).1 = n := ⟨_, rfl⟩
    obtain ⟨x1, hx1⟩ : ∃ x1, (numF (s, 0) 2).2 = x1 := ⟨_, rfl⟩
    obtain ⟨x2, hx2⟩ : ∃ x2, (if (if m < 0 then 0 else m) < n then failF x1 4 else x1) = x2 := ⟨_, rfl⟩
    obtain ⟨t, ht⟩ : ∃ t, rawF x2 n = t := ⟨_, rfl⟩
    rw [textF_ok hn hx1 hx2 ht]
    rw [hn, hx1] at C2
    have H := Lib.hid h
    have Hhx2 := Lib.hid hx2
    have Hht := Lib.hid ht
    clear h hn hx1 hx2 ht
    by_cases hm0 : m < 0
    · have hL : (if m < 0 then 0 else m) = 0 := if_pos hm0
      rw [hL] at Hhx2
      clear hL
      by_cases hm : 0 < n
      · rw [if_pos hm] at Hhx2
        by_cases hz : t.2.2 = 0
        · have hzb : (t.2.2 != 0) = false := by simpa using hz
          rw [if_neg (not_not_intro hz)]
          clear hz
          go_enter Tryz.func105, Tryz.ntmps105
          go_wp2_with (first | (go_at_call 114; refine (C.out).mono ?_; rintro r w' ⟨rfl, rfl⟩) | (go_at_call 59; refine (C2.out).mono ?_; rintro r w1 ⟨rfl, hr1, hg1⟩))
          refine (Fail_calls _ b _ 4 hr1).mono ?_
          rintro r w2 ⟨rfl, hr2, hg2⟩
          rw [Hhx2.out] at hr2
          have hg2 := hg1.trans hg2 (fun _ hk => .inl hk)
          go_wp2_with fail
          refine (Raw_calls _ b _ n hr2).mono ?_
          rw [Hht.out]
          rintro r w3 ⟨rfl, hr3, hg3⟩
          have c1 := hr3.cell1
          have c00 := hr3.cell0
          have f0 := hr3.free 0
          have HR := Lib.hid hr3
          clear hr3
          go_wp2
          go_ret
          exact ⟨rfl, HR.out, hg2.trans hg3 (fun _ hk => .inl hk)⟩
        · have hzb : (t.2.2 != 0) = true := by simpa using hz
          rw [if_pos hz]
          clear hz
          go_enter Tryz.func105, Tryz.ntmps105
          go_wp2_with (first | (go_at_call 114; refine (C.out).mono ?_; rintro r w' ⟨rfl, rfl⟩) | (go_at_call 59; refine (C2.out).mono ?_; rintro r w1 ⟨rfl, hr1, hg1⟩))
          refine (Fail_calls _ b _ 4 hr1).mono ?_
          rintro r w2 ⟨rfl, hr2, hg2⟩
          rw [Hhx2.out] at hr2
          have hg2 := hg1.trans hg2 (fun _ hk => .inl hk)
          go_wp2_with fail
          refine (Raw_calls _ b _ n hr2).mono ?_
          rw [Hht.out]
          rintro r w3 ⟨rfl, hr3, hg3⟩
          have c1 := hr3.cell1
          have c00 := hr3.cell0
          have f0 := hr3.free 0
          have HR := Lib.hid hr3
          clear hr3
          go_wp2
          go_ret
          exact ⟨rfl, HR.out.set0 _, (hg2.trans hg3 (fun _ hk => .inl hk)).setCell (.inl rfl) _⟩
      · rw [if_neg hm] at Hhx2
        by_cases hz : t.2.2 = 0
        · have hzb : (t.2.2 != 0) = false := by simpa using hz
          rw [if_neg (not_not_intro hz)]
          clear hz
          go_enter Tryz.func105, Tryz.ntmps105
          go_wp2_with (first | (go_at_call 114; refine (C.out).mono ?_; rintro r w' ⟨rfl, rfl⟩) | (go_at_call 59; refine (C2.out).mono ?_; rintro r w1 ⟨rfl, hr1, hg1⟩))
          have hr2 := hr1
          rw [Hhx2.out] at hr2
          have hg2 := hg1
          go_wp2_with fail
          refine (Raw_calls _ b _ n hr2).mono ?_
          rw [Hht.out]
          rintro r w3 ⟨rfl, hr3, hg3⟩
          have c1 := hr3.cell1
          have c00 := hr3.cell0
          have f0 := hr3.free 0
          have HR := Lib.hid hr3
          clear hr3
          go_wp2
          go_ret
          exact ⟨rfl, HR.out, hg2.trans hg3 (fun _ hk => .inl hk)⟩
        · have hzb : (t.2.2 != 0) = true := by simpa using hz
          rw [if_pos hz]
          clear hz
          go_enter Tryz.func105, Tryz.ntmps105
          go_wp2_with (first | (go_at_call 114; refine (C.out).mono ?_; rintro r w' ⟨rfl, rfl⟩) | (go_at_call 59; refine (C2.out).mono ?_; rintro r w1 ⟨rfl, hr1, hg1⟩))
          have hr2 := hr1
          rw [Hhx2.out] at hr2
          have hg2 := hg1
          go_wp2_with fail
          refine (Raw_calls _ b _ n hr2).mono ?_
          rw [Hht.out]
          rintro r w3 ⟨rfl, hr3, hg3⟩
          have c1 := hr3.cell1
          have c00 := hr3.cell0
          have f0 := hr3.free 0
          have HR := Lib.hid hr3
          clear hr3
          go_wp2
          go_ret
          exact ⟨rfl, HR.out.set0 _, (hg2.trans hg3 (fun _ hk => .inl hk)).setCell (.inl rfl) _⟩
    
    · have hL : (if m < 0 then 0 else m) = m := if_neg hm0
      rw [hL] at Hhx2
      clear hL
      by_cases hm : m < n
      · rw [if_pos hm] at Hhx2
        by_cases hz : t.2.2 = 0
        · have hzb : (t.2.2 != 0) = false := by simpa using hz
          rw [if_neg (not_not_intro hz)]
          clear hz
          go_enter Tryz.func105, Tryz.ntmps105
          go_wp2_with (first | (go_at_call 114; refine (C.out).mono ?_; rintro r w' ⟨rfl, rfl⟩) | (go_at_call 59; refine (C2.out).mono ?_; rintro r w1 ⟨rfl, hr1, hg1⟩))
          refine (Fail_calls _ b _ 4 hr1).mono ?_
          rintro r w2 ⟨rfl, hr2, hg2⟩
          rw [Hhx2.out] at hr2
          have hg2 := hg1.trans hg2 (fun _ hk => .inl hk)
          go_wp2_with fail
          refine (Raw_calls _ b _ n hr2).mono ?_
          rw [Hht.out]
          rintro r w3 ⟨rfl, hr3, hg3⟩
          have c1 := hr3.cell1
          have c00 := hr3.cell0
          have f0 := hr3.free 0
          have HR := Lib.hid hr3
          clear hr3
          go_wp2
          go_ret
          exact ⟨rfl, HR.out, hg2.trans hg3 (fun _ hk => .inl hk)⟩
        · have hzb : (t.2.2 != 0) = true := by simpa using hz
          rw [if_pos hz]
          clear hz
          go_enter Tryz.func105, Tryz.ntmps105
          go_wp2_with (first | (go_at_call 114; refine (C.out).mono ?_; rintro r w' ⟨rfl, rfl⟩) | (go_at_call 59; refine (C2.out).mono ?_; rintro r w1 ⟨rfl, hr1, hg1⟩))
          refine (Fail_calls _ b _ 4 hr1).mono ?_
          rintro r w2 ⟨rfl, hr2, hg2⟩
          rw [Hhx2.out] at hr2
          have hg2 := hg1.trans hg2 (fun _ hk => .inl hk)
          go_wp2_with fail
          refine (Raw_calls _ b _ n hr2).mono ?_
          rw [Hht.out]
          rintro r w3 ⟨rfl, hr3, hg3⟩
          have c1 := hr3.cell1
          have c00 := hr3.cell0
          have f0 := hr3.free 0
          have HR := Lib.hid hr3
          clear hr3
          go_wp2
          go_ret
          exact ⟨rfl, HR.out.set0 _, (hg2.trans hg3 (fun _ hk => .inl hk)).setCell (.inl rfl) _⟩
      · rw [if_neg hm] at Hhx2
        by_cases hz : t.2.2 = 0
        · have hzb : (t.2.2 != 0) = false := by simpa using hz
          rw [if_neg (not_not_intro hz)]
          clear hz
          go_enter Tryz.func105, Tryz.ntmps105
          go_wp2_with (first | (go_at_call 114; refine (C.out).mono ?_; rintro r w' ⟨rfl, rfl⟩) | (go_at_call 59; refine (C2.out).mono ?_; rintro r w1 ⟨rfl, hr1, hg1⟩))
          have hr2 := hr1
          rw [Hhx2.out] at hr2
          have hg2 := hg1
          go_wp2_with fail
          refine (Raw_calls _ b _ n hr2).mono ?_
          rw [Hht.out]
          rintro r w3 ⟨rfl, hr3, hg3⟩
          have c1 := hr3.cell1
          have c00 := hr3.cell0
          have f0 := hr3.free 0
          have HR := Lib.hid hr3
          clear hr3
          go_wp2
          go_ret
          exact ⟨rfl, HR.out, hg2.trans hg3 (fun _ hk => .inl hk)⟩
        · have hzb : (t.2.2 != 0) = true := by simpa using hz
          rw [if_pos hz]
          clear hz
          go_enter Tryz.func105, Tryz.ntmps105
          go_wp2_with (first | (go_at_call 114; refine (C.out).mono ?_; rintro r w' ⟨rfl, rfl⟩) | (go_at_call 59; refine (C2.out).mono ?_; rintro r w1 ⟨rfl, hr1, hg1⟩))
          have hr2 := hr1
          rw [Hhx2.out] at hr2
          have hg2 := hg1
          go_wp2_with fail
          refine (Raw_calls _ b _ n hr2).mono ?_
          rw [Hht.out]
          rintro r w3 ⟨rfl, hr3, hg3⟩
          have c1 := hr3.cell1
          have c00 := hr3.cell0
          have f0 := hr3.free 0
          have HR := Lib.hid hr3
          clear hr3
          go_wp2
          go_ret
          exact ⟨rfl, HR.out.set0 _, (hg2.trans hg3 (fun _ hk => .inl hk)).setCell (.inl rfl) _⟩
  · rw [textF_err he]
    refine (Text_err w b x m h he).mono ?_
    rintro r w' ⟨rfl, rfl⟩
    exact ⟨rfl, h, Chg.refl _ _⟩

end Go.Proofs.YtnhdlclicjmmnaaGreat