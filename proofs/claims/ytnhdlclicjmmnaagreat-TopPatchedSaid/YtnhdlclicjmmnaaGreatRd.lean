/- The readers of package pack: what each method does to its object. -/
import Derived.Test.YtnhdlclicjmmnaaGreatRdF
import Derived.Test.YtnhdlclicjmmnaaGreatProg
import Derived.Outline
namespace Go.Proofs.YtnhdlclicjmmnaaGreat
open Go.RowKit

/-- The object at block b is a reader (of the type T) with the bytes s and the error e. -/
def RdAt (w : World) (T b : Nat) (x : RS) : Prop := w.heap[b]? = some (.cells #[.string x.1, .int .i64 x.2] T (0, 0))
theorem RdAt.set0 {w : World} {T b : Nat} {s : ByteArray} {e : Int} (h : RdAt w T b (s, e)) (s' : ByteArray) : RdAt (w.setCell ⟨b, 0, none⟩ (.string s')) T b (s', e) := by
  have := blkSet h 0 (.string s')
  simpa [RdAt] using this
theorem RdAt.set1 {w : World} {T b : Nat} {s : ByteArray} {e : Int} (h : RdAt w T b (s, e)) (e' : Int) : RdAt (w.setCell ⟨b, 1, none⟩ (.int .i64 e')) T b (s, e') := by
  have := blkSet h 1 (.int .i64 e')
  simpa [RdAt] using this
theorem RdAt.cell0 {w : World} {T b : Nat} {x : RS} (h : RdAt w T b x) : w.cell? ⟨b, 0, none⟩ = some (.string x.1) := blkCell h 0
theorem RdAt.cell1 {w : World} {T b : Nat} {x : RS} (h : RdAt w T b x) : w.cell? ⟨b, 1, none⟩ = some (.int .i64 x.2) := blkCell h 1
theorem RdAt.free {w : World} {T b : Nat} {x : RS} (h : RdAt w T b x) (i : Nat) : w.frozen? ⟨b, i, none⟩ = false := blkFree h i
theorem RdAt.chg {w w' : World} {T b : Nat} {x : RS} {S : Nat → Prop} (h : RdAt w T b x) (c : Chg S w w') (hn : ¬ S b) : RdAt w' T b x := c.obj h hn
theorem bytesChg (w : World) (S : Nat → Prop) (e : TypeId) (s : ByteArray) : Chg S w (Lib.bytesWorld w e s) :=
  ⟨rfl, rfl, rfl, by rw [Lib.bytesWorld_size]; omega, fun k hk _ => Lib.bytesWorld_at_old w e s k hk⟩

theorem Err_calls (w : World) (b : Nat) (x : RS) (h : RdAt w 159 b x) :
    Calls Tryz.prog 114 #[.pointer (some ⟨b, 0, none⟩)] w fun r w' => r = .returned (.int .i64 x.2) ∧ w = w' := by
  have c1 := h.cell1
  have H := Lib.hid h
  clear h
  go_enter Tryz.func114, Tryz.ntmps114
  go_wp2
  go_ret
  exact ⟨rfl, rfl⟩

theorem Left_calls (w : World) (b : Nat) (x : RS) (h : RdAt w 159 b x) :
    Calls Tryz.prog 92 #[.pointer (some ⟨b, 0, none⟩)] w fun r w' => r = .returned (.int .i64 x.1.size) ∧ w = w' := by
  have c0 := h.cell0
  have H := Lib.hid h
  clear h
  go_enter Tryz.func92, Tryz.ntmps92
  go_wp2
  go_ret
  exact ⟨rfl, rfl⟩

theorem Fail_calls (w : World) (b : Nat) (x : RS) (e : Int) (h : RdAt w 159 b x) :
    Calls Tryz.prog 104 #[.pointer (some ⟨b, 0, none⟩), .int .i64 e] w fun r w' => r = .returned (.tuple #[]) ∧ RdAt w' 159 b (failF x e) ∧ Chg (· = b) w w' := by
  have C := Lib.hid (Err_calls w b x h)
  have c1 := h.cell1
  have f1 := h.free 1
  by_cases he : x.2 = 0
  · obtain ⟨s, er⟩ := x
    obtain rfl : er = 0 := he
    have H := Lib.hid h
    clear h
    rw [failF_ok]
    go_enter Tryz.func104, Tryz.ntmps104
    go_wp2_with (go_at_call 114; refine (C.out).mono ?_; rintro r w' ⟨rfl, rfl⟩)
    go_end0
    exact ⟨rfl, H.out.set1 _, Chg.setCell (Chg.refl (· = b) w) (.inl rfl) _⟩
  · have hb : (x.2 == 0) = false := by simpa using he
    rw [failF_err he]
    have H := Lib.hid h
    clear h he
    go_enter Tryz.func104, Tryz.ntmps104
    go_wp2_with (go_at_call 114; refine (C.out).mono ?_; rintro r w' ⟨rfl, rfl⟩)
    go_end0
    exact ⟨rfl, H.out, Chg.refl _ _⟩

theorem Raw_err (w : World) (b : Nat) (x : RS) (n : Int) (h : RdAt w 159 b x) (he : x.2 ≠ 0) :
    Calls Tryz.prog 102 #[.pointer (some ⟨b, 0, none⟩), .int .i64 n] w fun r w' => r = .returned (.string ⟨#[]⟩) ∧ w = w' := by
  have hb2 : (x.2 != 0) = true := by simpa using he
  have C := Lib.hid (Err_calls w b x h)
  have H := Lib.hid h
  clear h he
  go_enter Tryz.func102, Tryz.ntmps102
  go_wp2_with (go_at_call 114; refine (C.out).mono ?_; rintro r w' ⟨rfl, rfl⟩)
  go_ret
  exact ⟨rfl, rfl⟩

theorem Raw_neg (w : World) (b : Nat) (s : ByteArray) (n : Int) (h : RdAt w 159 b (s, 0)) (hn : n < 0) :
    Calls Tryz.prog 102 #[.pointer (some ⟨b, 0, none⟩), .int .i64 n] w fun r w' => r = .returned (.string ⟨#[]⟩) ∧ w' = w.setCell ⟨b, 1, none⟩ (.int .i64 1) := by
  have C := Lib.hid (Err_calls w b _ h)
  have c1 := h.cell1
  have f1 := h.free 1
  have H := Lib.hid h
  clear h
  go_enter Tryz.func102, Tryz.ntmps102
  go_wp2_with (go_at_call 114; refine (C.out).mono ?_; rintro r w' ⟨rfl, rfl⟩)
  go_ret
  exact ⟨rfl, rfl⟩

theorem Raw_short (w : World) (b : Nat) (s : ByteArray) (n : Int) (h : RdAt w 159 b (s, 0)) (hn : (s.size : Int) < n) :
    Calls Tryz.prog 102 #[.pointer (some ⟨b, 0, none⟩), .int .i64 n] w fun r w' => r = .returned (.string ⟨#[]⟩) ∧ w' = w.setCell ⟨b, 1, none⟩ (.int .i64 2) := by
  have C := Lib.hid (Err_calls w b _ h)
  have c0 := h.cell0
  have c1 := h.cell1
  have f1 := h.free 1
  have hn0 : ¬ n < 0 := by omega
  have H := Lib.hid h
  clear h
  go_enter Tryz.func102, Tryz.ntmps102
  go_wp2_with (go_at_call 114; refine (C.out).mono ?_; rintro r w' ⟨rfl, rfl⟩)
  go_ret
  exact ⟨rfl, rfl⟩

theorem Raw_ok (w : World) (b : Nat) (s : ByteArray) (n : Nat) (h : RdAt w 159 b (s, 0)) (hn : n ≤ s.size) :
    Calls Tryz.prog 102 #[.pointer (some ⟨b, 0, none⟩), .int .i64 n] w fun r w' => r = .returned (.string (s.extract 0 n)) ∧ w' = w.setCell ⟨b, 0, none⟩ (.string (s.extract n s.size)) := by
  have C := Lib.hid (Err_calls w b _ h)
  have c0 := h.cell0
  have f1 := h.free 0
  have hn0 : ¬ (n : Int) < 0 := by omega
  have hn1 : ¬ (s.size : Int) < n := by omega
  have H := Lib.hid h
  clear h
  go_enter Tryz.func102, Tryz.ntmps102
  go_wp2_with (go_at_call 114; refine (C.out).mono ?_; rintro r w' ⟨rfl, rfl⟩)
  go_ret
  exact ⟨rfl, rfl⟩

theorem Raw_calls (w : World) (b : Nat) (x : RS) (n : Int) (h : RdAt w 159 b x) :
    Calls Tryz.prog 102 #[.pointer (some ⟨b, 0, none⟩), .int .i64 n] w fun r w' => r = .returned (.string (rawF x n).1) ∧ RdAt w' 159 b (rawF x n).2 ∧ Chg (· = b) w w' := by
  obtain ⟨s, e⟩ := x
  by_cases he : e = 0
  · subst he
    by_cases hn : n < 0
    · rw [rawF_neg hn]
      refine (Raw_neg w b s n h hn).mono ?_
      rintro r w' ⟨rfl, rfl⟩
      exact ⟨rfl, h.set1 _, Chg.setCell (Chg.refl (· = b) w) (.inl rfl) _⟩
    · by_cases hs : (s.size : Int) < n
      · rw [rawF_short hs]
        refine (Raw_short w b s n h hs).mono ?_
        rintro r w' ⟨rfl, rfl⟩
        exact ⟨rfl, h.set1 _, Chg.setCell (Chg.refl (· = b) w) (.inl rfl) _⟩
      · obtain ⟨n, rfl⟩ := Int.eq_ofNat_of_zero_le (Int.not_lt.1 hn)
        rw [rawF_ok (by omega) (by omega), Int.toNat_natCast]
        refine (Raw_ok w b s n h (by omega)).mono ?_
        rintro r w' ⟨rfl, rfl⟩
        exact ⟨rfl, h.set0 _, Chg.setCell (Chg.refl (· = b) w) (.inl rfl) _⟩
  · rw [rawF_err he]
    refine (Raw_err w b (s, e) n h he).mono ?_
    rintro r w' ⟨rfl, rfl⟩
    exact ⟨rfl, h, Chg.refl _ _⟩

theorem ret_i64 {a b : Int} (h : a = b) : Ending.returned (.int .i64 a) = .returned (.int .i64 b) := by rw [h]

theorem number_calls (w : World) (b : Nat) (x : RS) (n : Int) (h : RdAt w 159 b x) (hx : x.1.size ≤ 140737488351232) :
    Calls Tryz.prog 84 #[.pointer (some ⟨b, 0, none⟩), .int .i64 n] w fun r w' => r = .returned (.int .i64 (numF x n).1) ∧ RdAt w' 159 b (numF x n).2 ∧ Chg (· = b) w w' := by
  have C := Lib.hid (Raw_calls w b x n h)
  have H := Lib.hid h
  have hs : (rawF x n).1.size ≤ 140737488351232 := Nat.le_trans (rawF_size x n).1 hx
  have kc := fun W s => Lib.run_convert_string_bytes (P := Tryz.prog) W 9 22 5 s Tryz.underlying9 Tryz.underlying22 Tryz.underlying5
  clear h
  unfold numF
  go_enter Tryz.func84, Tryz.ntmps84
  go_wp2_with (go_at_call 102; refine (C.out).mono ?_; rintro r w1 ⟨rfl, hr, hg⟩)
  obtain ⟨t, ht⟩ : ∃ t, (rawF x n).1 = t := ⟨_, rfl⟩
  rw [ht] at hs ⊢
  have hc : ∀ j, j < t.size → (Lib.bytesWorld w1 5 t).cell? ⟨w1.heap.size, j, none⟩ = some (.int .u8 (t.data.toList.getD j 0).toNat) := fun j hj => Lib.bytesWorld_cell w1 5 t j hj
  go_loop [5, 13] (fun v i => ∃ (k : Nat), k ≤ t.size ∧ i = .int .i64 k ∧ v = .int .i64 (beF (t.data.toList.take k))) (fun _ i => t.size - (intOf i).toNat)
  case atStart => exact ⟨0, by omega, rfl, rfl⟩
  case round =>
    obtain ⟨k, hk, rfl, rfl⟩ := hrel
    by_cases hlt : k < t.size
    · have hck := hc k hlt
      clear hc
      have HB := Lib.hid (beF_take t k hlt)
      obtain ⟨y, hy⟩ : ∃ y, beF (t.data.toList.take k) = y := ⟨_, rfl⟩
      rw [hy] at HB ⊢
      clear hy ht
      go_wp2
      exact ⟨⟨k + 1, by omega, by go_num, by rw [HB.out]; rfl⟩, by simp [intOf]; omega⟩
    · clear hc
      have HB := Lib.hid (take_all t k hlt)
      go_wp2
      go_ret
      exact ⟨ret_i64 (by rw [HB.out]), hr.chg (bytesChg w1 (fun _ => False) 5 t) id, hg.trans (bytesChg w1 (fun _ => False) 5 t) (fun _ hf => hf.elim)⟩
end Go.Proofs.YtnhdlclicjmmnaaGreat
