/- What the readers compute, in plain Lean: a state is the bytes that are left and the first error. -/
import Derived.Test.YtmbipabiagdaaaaGreatDoorBase
import Derived.Test.YtmbipabiagdaaaaGreatDoorProg
import Derived.Outline
namespace Go.Proofs.YtmbipabiagdaaaaGreatDoor
open Go.RowKit

/-- A reader's state: what is left, the first error. -/
abbrev RS := ByteArray × Int

def failF (x : RS) (e : Int) : RS := if x.2 = 0 then (x.1, e) else x
theorem failF_err {x : RS} {e : Int} (h : x.2 ≠ 0) : failF x e = x := by simp [failF, h]
theorem failF_ok {s : ByteArray} {e : Int} : failF (s, 0) e = (s, e) := by simp [failF]
theorem failF_left (x : RS) (e : Int) : (failF x e).1 = x.1 := by unfold failF; split <;> rfl
def rawF (x : RS) (n : Int) : ByteArray × RS :=
  if x.2 ≠ 0 then (⟨#[]⟩, x) else if n < 0 then (⟨#[]⟩, x.1, 1) else if (x.1.size : Int) < n then (⟨#[]⟩, x.1, 2)
  else (x.1.extract 0 n.toNat, x.1.extract n.toNat x.1.size, 0)
theorem rawF_err {x : RS} {n : Int} (h : x.2 ≠ 0) : rawF x n = (⟨#[]⟩, x) := by simp [rawF, h]
theorem rawF_neg {s : ByteArray} {n : Int} (h : n < 0) : rawF (s, 0) n = (⟨#[]⟩, s, 1) := by simp [rawF, h]
theorem rawF_short {s : ByteArray} {n : Int} (h : (s.size : Int) < n) : rawF (s, 0) n = (⟨#[]⟩, s, 2) := by
  have : ¬ n < 0 := by omega
  simp [rawF, h, this]
theorem rawF_ok {s : ByteArray} {n : Int} (h0 : 0 ≤ n) (h : n ≤ s.size) : rawF (s, 0) n = (s.extract 0 n.toNat, s.extract n.toNat s.size, 0) := by
  have h1 : ¬ n < 0 := by omega
  have h2 : ¬ (s.size : Int) < n := by omega
  simp [rawF, h1, h2]
theorem rawF_size (x : RS) (n : Int) : (rawF x n).1.size ≤ x.1.size ∧ (rawF x n).2.1.size ≤ x.1.size := by
  unfold rawF
  split
  · exact ⟨Nat.zero_le _, Nat.le_refl _⟩
  · split
    · exact ⟨Nat.zero_le _, Nat.le_refl _⟩
    · split
      · exact ⟨Nat.zero_le _, Nat.le_refl _⟩
      · simp only [ByteArray.size_extract]
        omega

/-- One byte more of a number, as the machine has it. -/
def orStep (y : Int) (c : UInt8) : Int := bits .or .i64 (wrap64 (y * 256)) (wrap64 (c.toNat : Int))
def beF (l : List UInt8) : Int := l.foldl orStep 0
theorem beF_snoc (l : List UInt8) (c : UInt8) : beF (l ++ [c]) = orStep (beF l) c := by simp [beF]
theorem beF_take (s : ByteArray) (k : Nat) (h : k < s.size) : beF (s.data.toList.take (k + 1)) = orStep (beF (s.data.toList.take k)) s.data[k] := by
  rw [List.take_succ_eq_append_getElem (by simpa using h), beF_snoc]; rfl
theorem take_all (s : ByteArray) (k : Nat) (h : ¬ k < s.size) : s.data.toList.take k = s.data.toList :=
  List.take_of_length_le (by rw [Array.length_toList]; exact Nat.not_lt.1 h)
def numF (x : RS) (n : Int) : Int × RS := (beF (rawF x n).1.data.toList, (rawF x n).2)
theorem numF_size (x : RS) (n : Int) : (numF x n).2.1.size ≤ x.1.size := (rawF_size x n).2

/-- Is the first of eight bytes too great for a number of this kind? -/
def topB (x : RS) : Bool := if h : 8 ≤ x.1.size then decide (128 ≤ (x.1[0]'(by omega)).toNat) else false
def eightF (x : RS) : RS := if topB x = true then failF x 3 else x
theorem eightF_left (x : RS) : (eightF x).1 = x.1 := by unfold eightF; split <;> simp [failF_left]
def textF (x : RS) (most : Int) : ByteArray × RS :=
  if x.2 ≠ 0 then (⟨#[]⟩, x) else
    let y := numF x 2
    let z := if (if most < 0 then 0 else most) < y.1 then failF y.2 4 else y.2
    let t := rawF z y.1
    (t.1, if t.2.2 ≠ 0 then (x.1, t.2.2) else t.2)
theorem textF_err {x : RS} {m : Int} (h : x.2 ≠ 0) : textF x m = (⟨#[]⟩, x) := by unfold textF; rw [if_pos h]
theorem textF_ok {s : ByteArray} {m n : Int} {x1 x2 : RS} {t : ByteArray × RS} (hn : (numF (s, 0) 2).1 = n) (h1 : (numF (s, 0) 2).2 = x1) (h2 : (if (if m < 0 then 0 else m) < n then failF x1 4 else x1) = x2) (ht : rawF x2 n = t) :
    textF (s, 0) m = (t.1, if t.2.2 ≠ 0 then (s, t.2.2) else t.2) := by
  unfold textF
  simp only [hn, h1, h2, ht, ne_eq, not_true_eq_false, if_false]
def endF (x : RS) : RS := if x.1.size > 0 then failF x 3 else x
end Go.Proofs.YtmbipabiagdaaaaGreatDoor
/- The readers of package pack: what each method does to its object. -/
namespace Go.Proofs.YtmbipabiagdaaaaGreatDoor
open Go.RowKit

/-- The object at block b is a reader (of the type T) with the bytes s and the error e. -/
def RdAt (w : World) (T b : Nat) (x : RS) : Prop := w.heap[b]? = some (.cells #[.string x.1, .int .i64 x.2] T (0, 0))
theorem RdAt.set0 {w : World} {T b : Nat} {s : ByteArray} {e : Int} (h : RdAt w T b (s, e)) (s' : ByteArray) : RdAt (w.setCell ⟨b, 0, none⟩ (.string s')) T b (s', e) := by
  have := blkSet h 0 (.string s')
  simpa [RdAt] using this
theorem RdAt.set1 {w : World} {T b : Nat} {s : ByteArray} {e : Int} (h : RdAt w T b (s, e)) (e' : Int) : RdAt (w.setCell ⟨b, 1, none⟩ (.int .i64 e')) T b (s, e') := by
  have := blkSet h 1 (.int .i64 e')
  simpa [RdAt] using this
theorem RdAt.cell0 {w : World} {T b : Nat} {x : RS} (h : RdAt w T b x) : w.cell? ⟨b, 0, none⟩ = some (.string x.1) := blkCell h 0
theorem RdAt.cell1 {w : World} {T b : Nat} {x : RS} (h : RdAt w T b x) : w.cell? ⟨b, 1, none⟩ = some (.int .i64 x.2) := blkCell h 1
theorem RdAt.free {w : World} {T b : Nat} {x : RS} (h : RdAt w T b x) (i : Nat) : w.frozen? ⟨b, i, none⟩ = false := blkFree h i
theorem RdAt.chg {w w' : World} {T b : Nat} {x : RS} {S : Nat → Prop} (h : RdAt w T b x) (c : Chg S w w') (hn : ¬ S b) : RdAt w' T b x := c.obj h hn
theorem bytesChg (w : World) (S : Nat → Prop) (e : TypeId) (s : ByteArray) : Chg S w (Lib.bytesWorld w e s) :=
  ⟨rfl, rfl, rfl, by rw [Lib.bytesWorld_size]; omega, fun k hk _ => Lib.bytesWorld_at_old w e s k hk⟩

theorem Err_calls (w : World) (b : Nat) (x : RS) (h : RdAt w 113 b x) :
    Calls Tryz.prog 89 #[.pointer (some ⟨b, 0, none⟩)] w fun r w' => r = .returned (.int .i64 x.2) ∧ w = w' := by
  have c1 := h.cell1
  have H := Lib.hid h
  clear h
  go_enter Tryz.func89, Tryz.ntmps89
  go_wp2
  go_ret
  exact ⟨rfl, rfl⟩

theorem Left_calls (w : World) (b : Nat) (x : RS) (h : RdAt w 113 b x) :
    Calls Tryz.prog 33 #[.pointer (some ⟨b, 0, none⟩)] w fun r w' => r = .returned (.int .i64 x.1.size) ∧ w = w' := by
  have c0 := h.cell0
  have H := Lib.hid h
  clear h
  go_enter Tryz.func33, Tryz.ntmps33
  go_wp2
  go_ret
  exact ⟨rfl, rfl⟩

theorem Fail_calls (w : World) (b : Nat) (x : RS) (e : Int) (h : RdAt w 113 b x) :
    Calls Tryz.prog 72 #[.pointer (some ⟨b, 0, none⟩), .int .i64 e] w fun r w' => r = .returned (.tuple #[]) ∧ RdAt w' 113 b (failF x e) ∧ Chg (· = b) w w' := by
  have C := Lib.hid (Err_calls w b x h)
  have c1 := h.cell1
  have f1 := h.free 1
  by_cases he : x.2 = 0
  · obtain ⟨s, er⟩ := x
    obtain rfl : er = 0 := he
    have H := Lib.hid h
    clear h
    rw [failF_ok]
    go_enter Tryz.func72, Tryz.ntmps72
    go_wp2_with (go_at_call 89; refine (C.out).mono ?_; rintro r w' ⟨rfl, rfl⟩)
    go_end0
    exact ⟨rfl, H.out.set1 _, Chg.setCell (Chg.refl (· = b) w) (.inl rfl) _⟩
  · have hb : (x.2 == 0) = false := by simpa using he
    rw [failF_err he]
    have H := Lib.hid h
    clear h he
    go_enter Tryz.func72, Tryz.ntmps72
    go_wp2_with (go_at_call 89; refine (C.out).mono ?_; rintro r w' ⟨rfl, rfl⟩)
    go_end0
    exact ⟨rfl, H.out, Chg.refl _ _⟩

theorem Raw_err (w : World) (b : Nat) (x : RS) (n : Int) (h : RdAt w 113 b x) (he : x.2 ≠ 0) :
    Calls Tryz.prog 65 #[.pointer (some ⟨b, 0, none⟩), .int .i64 n] w fun r w' => r = .returned (.string ⟨#[]⟩) ∧ w = w' := by
  have hb2 : (x.2 != 0) = true := by simpa using he
  have C := Lib.hid (Err_calls w b x h)
  have H := Lib.hid h
  clear h he
  go_enter Tryz.func65, Tryz.ntmps65
  go_wp2_with (go_at_call 89; refine (C.out).mono ?_; rintro r w' ⟨rfl, rfl⟩)
  go_ret
  exact ⟨rfl, rfl⟩

theorem Raw_neg (w : World) (b : Nat) (s : ByteArray) (n : Int) (h : RdAt w 113 b (s, 0)) (hn : n < 0) :
    Calls Tryz.prog 65 #[.pointer (some ⟨b, 0, none⟩), .int .i64 n] w fun r w' => r = .returned (.string ⟨#[]⟩) ∧ w' = w.setCell ⟨b, 1, none⟩ (.int .i64 1) := by
  have C := Lib.hid (Err_calls w b _ h)
  have c1 := h.cell1
  have f1 := h.free 1
  have H := Lib.hid h
  clear h
  go_enter Tryz.func65, Tryz.ntmps65
  go_wp2_with (go_at_call 89; refine (C.out).mono ?_; rintro r w' ⟨rfl, rfl⟩)
  go_ret
  exact ⟨rfl, rfl⟩

theorem Raw_short (w : World) (b : Nat) (s : ByteArray) (n : Int) (h : RdAt w 113 b (s, 0)) (hn : (s.size : Int) < n) :
    Calls Tryz.prog 65 #[.pointer (some ⟨b, 0, none⟩), .int .i64 n] w fun r w' => r = .returned (.string ⟨#[]⟩) ∧ w' = w.setCell ⟨b, 1, none⟩ (.int .i64 2) := by
  have C := Lib.hid (Err_calls w b _ h)
  have c0 := h.cell0
  have c1 := h.cell1
  have f1 := h.free 1
  have hn0 : ¬ n < 0 := by omega
  have H := Lib.hid h
  clear h
  go_enter Tryz.func65, Tryz.ntmps65
  go_wp2_with (go_at_call 89; refine (C.out).mono ?_; rintro r w' ⟨rfl, rfl⟩)
  go_ret
  exact ⟨rfl, rfl⟩

theorem Raw_ok (w : World) (b : Nat) (s : ByteArray) (n : Nat) (h : RdAt w 113 b (s, 0)) (hn : n ≤ s.size) :
    Calls Tryz.prog 65 #[.pointer (some ⟨b, 0, none⟩), .int .i64 n] w fun r w' => r = .returned (.string (s.extract 0 n)) ∧ w' = w.setCell ⟨b, 0, none⟩ (.string (s.extract n s.size)) := by
  have C := Lib.hid (Err_calls w b _ h)
  have c0 := h.cell0
  have f1 := h.free 0
  have hn0 : ¬ (n : Int) < 0 := by omega
  have hn1 : ¬ (s.size : Int) < n := by omega
  have H := Lib.hid h
  clear h
  go_enter Tryz.func65, Tryz.ntmps65
  go_wp2_with (go_at_call 89; refine (C.out).mono ?_; rintro r w' ⟨rfl, rfl⟩)
  go_ret
  exact ⟨rfl, rfl⟩

theorem Raw_calls (w : World) (b : Nat) (x : RS) (n : Int) (h : RdAt w 113 b x) :
    Calls Tryz.prog 65 #[.pointer (some ⟨b, 0, none⟩), .int .i64 n] w fun r w' => r = .returned (.string (rawF x n).1) ∧ RdAt w' 113 b (rawF x n).2 ∧ Chg (· = b) w w' := by
  obtain ⟨s, e⟩ := x
  by_cases he : e = 0
  · subst he
    by_cases hn : n < 0
    · rw [rawF_neg hn]
      refine (Raw_neg w b s n h hn).mono ?_
      rintro r w' ⟨rfl, rfl⟩
      exact ⟨rfl, h.set1 _, Chg.setCell (Chg.refl (· = b) w) (.inl rfl) _⟩
    · by_cases hs : (s.size : Int) < n
      · rw [rawF_short hs]
        refine (Raw_short w b s n h hs).mono ?_
        rintro r w' ⟨rfl, rfl⟩
        exact ⟨rfl, h.set1 _, Chg.setCell (Chg.refl (· = b) w) (.inl rfl) _⟩
      · obtain ⟨n, rfl⟩ := Int.eq_ofNat_of_zero_le (Int.not_lt.1 hn)
        rw [rawF_ok (by omega) (by omega), Int.toNat_natCast]
        refine (Raw_ok w b s n h (by omega)).mono ?_
        rintro r w' ⟨rfl, rfl⟩
        exact ⟨rfl, h.set0 _, Chg.setCell (Chg.refl (· = b) w) (.inl rfl) _⟩
  · rw [rawF_err he]
    refine (Raw_err w b (s, e) n h he).mono ?_
    rintro r w' ⟨rfl, rfl⟩
    exact ⟨rfl, h, Chg.refl _ _⟩

theorem ret_i64 {a b : Int} (h : a = b) : Ending.returned (.int .i64 a) = .returned (.int .i64 b) := by rw [h]

theorem number_calls (w : World) (b : Nat) (x : RS) (n : Int) (h : RdAt w 113 b x) (hx : x.1.size ≤ 140737488351232) :
    Calls Tryz.prog 64 #[.pointer (some ⟨b, 0, none⟩), .int .i64 n] w fun r w' => r = .returned (.int .i64 (numF x n).1) ∧ RdAt w' 113 b (numF x n).2 ∧ Chg (· = b) w w' := by
  have C := Lib.hid (Raw_calls w b x n h)
  have H := Lib.hid h
  have hs : (rawF x n).1.size ≤ 140737488351232 := Nat.le_trans (rawF_size x n).1 hx
  have kc := fun W s => Lib.run_convert_string_bytes (P := Tryz.prog) W 9 73 5 s Tryz.underlying9 Tryz.underlying73 Tryz.underlying5
  clear h
  unfold numF
  go_enter Tryz.func64, Tryz.ntmps64
  go_wp2_with (go_at_call 65; refine (C.out).mono ?_; rintro r w1 ⟨rfl, hr, hg⟩)
  obtain ⟨t, ht⟩ : ∃ t, (rawF x n).1 = t := ⟨_, rfl⟩
  rw [ht] at hs ⊢
  have hc : ∀ j, j < t.size → (Lib.bytesWorld w1 5 t).cell? ⟨w1.heap.size, j, none⟩ = some (.int .u8 (t.data.toList.getD j 0).toNat) := fun j hj => Lib.bytesWorld_cell w1 5 t j hj
  go_loop [5, 13] (fun v i => ∃ (k : Nat), k ≤ t.size ∧ i = .int .i64 k ∧ v = .int .i64 (beF (t.data.toList.take k))) (fun _ i => t.size - (intOf i).toNat)
  case atStart => exact ⟨0, by omega, rfl, rfl⟩
  case round =>
    obtain ⟨k, hk, rfl, rfl⟩ := hrel
    by_cases hlt : k < t.size
    · have hck := hc k hlt
      clear hc
      have HB := Lib.hid (beF_take t k hlt)
      obtain ⟨y, hy⟩ : ∃ y, beF (t.data.toList.take k) = y := ⟨_, rfl⟩
      rw [hy] at HB ⊢
      clear hy ht
      go_wp2
      exact ⟨⟨k + 1, by omega, by go_num, by rw [HB.out]; rfl⟩, by simp [intOf]; omega⟩
    · clear hc
      have HB := Lib.hid (take_all t k hlt)
      go_wp2
      go_ret
      exact ⟨ret_i64 (by rw [HB.out]), hr.chg (bytesChg w1 (fun _ => False) 5 t) id, hg.trans (bytesChg w1 (fun _ => False) 5 t) (fun _ hf => hf.elim)⟩
end Go.Proofs.YtmbipabiagdaaaaGreatDoor
/- The readers of package pack, the rest: numbers, texts, the end; and a nil reader. -/
namespace Go.Proofs.YtmbipabiagdaaaaGreatDoor
open Go.RowKit

theorem Byte_calls (w : World) (b : Nat) (x : RS) (h : RdAt w 113 b x) (hx : x.1.size ≤ 140737488351232) :
    Calls Tryz.prog 29 #[.pointer (some ⟨b, 0, none⟩)] w fun r w' => r = .returned (.int .i64 (numF x 1).1) ∧ RdAt w' 113 b (numF x 1).2 ∧ Chg (· = b) w w' := by
  have C := Lib.hid (number_calls w b x 1 h hx)
  clear h
  go_enter Tryz.func29, Tryz.ntmps29
  go_wp2_with (go_at_call 64; refine (C.out).mono ?_; rintro r w1 ⟨rfl, hr, hg⟩)
  go_ret
  exact ⟨rfl, hr, hg⟩

theorem Two_calls (w : World) (b : Nat) (x : RS) (h : RdAt w 113 b x) (hx : x.1.size ≤ 140737488351232) :
    Calls Tryz.prog 31 #[.pointer (some ⟨b, 0, none⟩)] w fun r w' => r = .returned (.int .i64 (numF x 2).1) ∧ RdAt w' 113 b (numF x 2).2 ∧ Chg (· = b) w w' := by
  have C := Lib.hid (number_calls w b x 2 h hx)
  clear h
  go_enter Tryz.func31, Tryz.ntmps31
  go_wp2_with (go_at_call 64; refine (C.out).mono ?_; rintro r w1 ⟨rfl, hr, hg⟩)
  go_ret
  exact ⟨rfl, hr, hg⟩

theorem Four_calls (w : World) (b : Nat) (x : RS) (h : RdAt w 113 b x) (hx : x.1.size ≤ 140737488351232) :
    Calls Tryz.prog 30 #[.pointer (some ⟨b, 0, none⟩)] w fun r w' => r = .returned (.int .i64 (numF x 4).1) ∧ RdAt w' 113 b (numF x 4).2 ∧ Chg (· = b) w w' := by
  have C := Lib.hid (number_calls w b x 4 h hx)
  clear h
  go_enter Tryz.func30, Tryz.ntmps30
  go_wp2_with (go_at_call 64; refine (C.out).mono ?_; rintro r w1 ⟨rfl, hr, hg⟩)
  go_ret
  exact ⟨rfl, hr, hg⟩

theorem Hash_calls (w : World) (b : Nat) (x : RS) (h : RdAt w 113 b x) :
    Calls Tryz.prog 32 #[.pointer (some ⟨b, 0, none⟩)] w fun r w' => r = .returned (.string (rawF x 32).1) ∧ RdAt w' 113 b (rawF x 32).2 ∧ Chg (· = b) w w' := by
  have C := Lib.hid (Raw_calls w b x 32 h)
  clear h
  go_enter Tryz.func32, Tryz.ntmps32
  go_wp2_with (go_at_call 65; refine (C.out).mono ?_; rintro r w1 ⟨rfl, hr, hg⟩)
  go_ret
  exact ⟨rfl, hr, hg⟩

theorem topB_yes {x : RS} (h : topB x = true) : ∃ h8 : 8 ≤ x.1.size, (127 : Int) < ((x.1[0]'(by omega)).toNat : Int) := by
  unfold topB at h
  split at h
  · rename_i h8
    exact ⟨h8, by have := of_decide_eq_true h; omega⟩
  · cases h
theorem topB_no {x : RS} (h : topB x = false) (h8 : 8 ≤ x.1.size) : ((x.1[0]'(by omega)).toNat : Int) ≤ 127 := by
  unfold topB at h
  rw [dif_pos h8] at h
  have := of_decide_eq_false h
  omega

theorem Eight_calls (w : World) (b : Nat) (x : RS) (h : RdAt w 113 b x) (hx : x.1.size ≤ 140737488351232) :
    Calls Tryz.prog 37 #[.pointer (some ⟨b, 0, none⟩)] w fun r w' => r = .returned (.int .i64 (numF (eightF x) 8).1) ∧ RdAt w' 113 b (numF (eightF x) 8).2 ∧ Chg (· = b) w w' := by
  have CL := Lib.hid (Left_calls w b x h)
  have c0 := h.cell0
  by_cases h8 : 8 ≤ x.1.size
  · by_cases ht : topB x = true
    · obtain ⟨h8', hgt⟩ := topB_yes ht
      have CF := Lib.hid (Fail_calls w b x 3 h)
      have he : eightF x = failF x 3 := by rw [eightF, if_pos ht]
      rw [he]
      have H := Lib.hid h
      have HT := Lib.hid ht
      clear h ht he
      go_enter Tryz.func37, Tryz.ntmps37
      go_wp2_with (first | (go_at_call 33; refine (CL.out).mono ?_; rintro r w' ⟨rfl, rfl⟩) | (go_at_call 72; refine (CF.out).mono ?_; rintro r w1 ⟨rfl, hr, hg⟩) | (go_at_call 64; refine (number_calls _ b _ _ hr (by rw [failF_left]; exact hx)).mono ?_; rintro r w2 ⟨rfl, hr2, hg2⟩))
      go_ret
      exact ⟨rfl, hr2, hg.trans hg2 (fun _ hk => .inl hk)⟩
    · have ht' : topB x = false := by simpa using ht
      have hgt := topB_no ht' h8
      have he : eightF x = x := by rw [eightF, if_neg ht]
      rw [he]
      have CN := Lib.hid (number_calls w b x 8 h hx)
      clear h ht ht' he
      go_enter Tryz.func37, Tryz.ntmps37
      go_wp2_with (first | (go_at_call 33; refine (CL.out).mono ?_; rintro r w' ⟨rfl, rfl⟩) | (go_at_call 64; refine (CN.out).mono ?_; rintro r w2 ⟨rfl, hr2, hg2⟩))
      go_ret
      exact ⟨rfl, hr2, hg2⟩
  · have ht : topB x = false := by unfold topB; rw [dif_neg h8]
    have he : eightF x = x := by rw [eightF, if_neg (by rw [ht]; simp)]
    rw [he]
    have CN := Lib.hid (number_calls w b x 8 h hx)
    clear h ht he
    go_enter Tryz.func37, Tryz.ntmps37
    go_wp2_with (first | (go_at_call 33; refine (CL.out).mono ?_; rintro r w' ⟨rfl, rfl⟩) | (go_at_call 64; refine (CN.out).mono ?_; rintro r w2 ⟨rfl, hr2, hg2⟩))
    go_ret
    exact ⟨rfl, hr2, hg2⟩

theorem End_calls (w : World) (b : Nat) (x : RS) (h : RdAt w 113 b x) :
    Calls Tryz.prog 39 #[.pointer (some ⟨b, 0, none⟩)] w fun r w' => r = .returned (.int .i64 (endF x).2) ∧ RdAt w' 113 b (endF x) ∧ Chg (· = b) w w' := by
  have CL := Lib.hid (Left_calls w b x h)
  by_cases h0 : 0 < x.1.size
  · have CF := Lib.hid (Fail_calls w b x 3 h)
    rw [show endF x = failF x 3 from if_pos h0]
    clear h
    go_enter Tryz.func39, Tryz.ntmps39
    go_wp2_with (first | (go_at_call 33; refine (CL.out).mono ?_; rintro r w' ⟨rfl, rfl⟩) | (go_at_call 72; refine (CF.out).mono ?_; rintro r w1 ⟨rfl, hr, hg⟩) | (go_at_call 89; refine (Err_calls _ b _ hr).mono ?_; rintro r w2 ⟨rfl, rfl⟩))
    go_ret
    exact ⟨rfl, hr, hg⟩
  · have CE := Lib.hid (Err_calls w b x h)
    rw [show endF x = x from if_neg h0]
    have H := Lib.hid h
    clear h
    go_enter Tryz.func39, Tryz.ntmps39
    go_wp2_with (first | (go_at_call 33; refine (CL.out).mono ?_; rintro r w' ⟨rfl, rfl⟩) | (go_at_call 89; refine (CE.out).mono ?_; rintro r w2 ⟨rfl, rfl⟩))
    go_ret
    exact ⟨rfl, H.out, Chg.refl _ _⟩

theorem Text_err (w : World) (b : Nat) (x : RS) (m : Int) (h : RdAt w 113 b x) (he : x.2 ≠ 0) :
    Calls Tryz.prog 123 #[.pointer (some ⟨b, 0, none⟩), .int .i64 m] w fun r w' => r = .returned (.string ⟨#[]⟩) ∧ w = w' := by
  have hb2 : (x.2 != 0) = true := by simpa using he
  have C := Lib.hid (Err_calls w b x h)
  clear h he
  go_enter Tryz.func123, Tryz.ntmps123
  go_wp2_with (go_at_call 89; refine (C.out).mono ?_; rintro r w' ⟨rfl, rfl⟩)
  go_ret
  exact ⟨rfl, rfl⟩

theorem failF_size (x : RS) (e : Int) : (failF x e).1.size = x.1.size := by rw [failF_left]
theorem Text_calls (w : World) (b : Nat) (x : RS) (m : Int) (h : RdAt w 113 b x) (hx : x.1.size ≤ 140737488351232) :
    Calls Tryz.prog 123 #[.pointer (some ⟨b, 0, none⟩), .int .i64 m] w fun r w' => r = .returned (.string (textF x m).1) ∧ RdAt w' 113 b (textF x m).2 ∧ Chg (· = b) w w' := by
  by_cases he : x.2 = 0
  · obtain ⟨s, er⟩ := x
    obtain rfl : er = 0 := he
    have C := Lib.hid (Err_calls w b _ h)
    have C2 := Lib.hid (Two_calls w b _ h hx)
    have c0 := h.cell0
    obtain ⟨n, hn⟩ : ∃ n, (numF (s, 0) 2).1 = n := ⟨_, rfl⟩
    obtain ⟨x1, hx1⟩ : ∃ x1, (numF (s, 0) 2).2 = x1 := ⟨_, rfl⟩
    obtain ⟨x2, hx2⟩ : ∃ x2, (if (if m < 0 then 0 else m) < n then failF x1 4 else x1) = x2 := ⟨_, rfl⟩
    obtain ⟨t, ht⟩ : ∃ t, rawF x2 n = t := ⟨_, rfl⟩
    rw [textF_ok hn hx1 hx2 ht]
    rw [hn, hx1] at C2
    have H := Lib.hid h
    have Hhx2 := Lib.hid hx2
    have Hht := Lib.hid ht
    clear h hn hx1 hx2 ht
    by_cases hm0 : m < 0
    · have hL : (if m < 0 then 0 else m) = 0 := if_pos hm0
      rw [hL] at Hhx2
      clear hL
      by_cases hm : 0 < n
      · rw [if_pos hm] at Hhx2
        by_cases hz : t.2.2 = 0
        · have hzb : (t.2.2 != 0) = false := by simpa using hz
          rw [if_neg (not_not_intro hz)]
          clear hz
          go_enter Tryz.func123, Tryz.ntmps123
          go_wp2_with (first | (go_at_call 89; refine (C.out).mono ?_; rintro r w' ⟨rfl, rfl⟩) | (go_at_call 31; refine (C2.out).mono ?_; rintro r w1 ⟨rfl, hr1, hg1⟩))
          refine (Fail_calls _ b _ 4 hr1).mono ?_
          rintro r w2 ⟨rfl, hr2, hg2⟩
          rw [Hhx2.out] at hr2
          have hg2 := hg1.trans hg2 (fun _ hk => .inl hk)
          go_wp2_with fail
          refine (Raw_calls _ b _ n hr2).mono ?_
          rw [Hht.out]
          rintro r w3 ⟨rfl, hr3, hg3⟩
          have c1 := hr3.cell1
          have c00 := hr3.cell0
          have f0 := hr3.free 0
          have HR := Lib.hid hr3
          clear hr3
          go_wp2
          go_ret
          exact ⟨rfl, HR.out, hg2.trans hg3 (fun _ hk => .inl hk)⟩
        · have hzb : (t.2.2 != 0) = true := by simpa using hz
          rw [if_pos hz]
          clear hz
          go_enter Tryz.func123, Tryz.ntmps123
          go_wp2_with (first | (go_at_call 89; refine (C.out).mono ?_; rintro r w' ⟨rfl, rfl⟩) | (go_at_call 31; refine (C2.out).mono ?_; rintro r w1 ⟨rfl, hr1, hg1⟩))
          refine (Fail_calls _ b _ 4 hr1).mono ?_
          rintro r w2 ⟨rfl, hr2, hg2⟩
          rw [Hhx2.out] at hr2
          have hg2 := hg1.trans hg2 (fun _ hk => .inl hk)
          go_wp2_with fail
          refine (Raw_calls _ b _ n hr2).mono ?_
          rw [Hht.out]
          rintro r w3 ⟨rfl, hr3, hg3⟩
          have c1 := hr3.cell1
          have c00 := hr3.cell0
          have f0 := hr3.free 0
          have HR := Lib.hid hr3
          clear hr3
          go_wp2
          go_ret
          exact ⟨rfl, HR.out.set0 _, (hg2.trans hg3 (fun _ hk => .inl hk)).setCell (.inl rfl) _⟩
      · rw [if_neg hm] at Hhx2
        by_cases hz : t.2.2 = 0
        · have hzb : (t.2.2 != 0) = false := by simpa using hz
          rw [if_neg (not_not_intro hz)]
          clear hz
          go_enter Tryz.func123, Tryz.ntmps123
          go_wp2_with (first | (go_at_call 89; refine (C.out).mono ?_; rintro r w' ⟨rfl, rfl⟩) | (go_at_call 31; refine (C2.out).mono ?_; rintro r w1 ⟨rfl, hr1, hg1⟩))
          have hr2 := hr1
          rw [Hhx2.out] at hr2
          have hg2 := hg1
          go_wp2_with fail
          refine (Raw_calls _ b _ n hr2).mono ?_
          rw [Hht.out]
          rintro r w3 ⟨rfl, hr3, hg3⟩
          have c1 := hr3.cell1
          have c00 := hr3.cell0
          have f0 := hr3.free 0
          have HR := Lib.hid hr3
          clear hr3
          go_wp2
          go_ret
          exact ⟨rfl, HR.out, hg2.trans hg3 (fun _ hk => .inl hk)⟩
        · have hzb : (t.2.2 != 0) = true := by simpa using hz
          rw [if_pos hz]
          clear hz
          go_enter Tryz.func123, Tryz.ntmps123
          go_wp2_with (first | (go_at_call 89; refine (C.out).mono ?_; rintro r w' ⟨rfl, rfl⟩) | (go_at_call 31; refine (C2.out).mono ?_; rintro r w1 ⟨rfl, hr1, hg1⟩))
          have hr2 := hr1
          rw [Hhx2.out] at hr2
          have hg2 := hg1
          go_wp2_with fail
          refine (Raw_calls _ b _ n hr2).mono ?_
          rw [Hht.out]
          rintro r w3 ⟨rfl, hr3, hg3⟩
          have c1 := hr3.cell1
          have c00 := hr3.cell0
          have f0 := hr3.free 0
          have HR := Lib.hid hr3
          clear hr3
          go_wp2
          go_ret
          exact ⟨rfl, HR.out.set0 _, (hg2.trans hg3 (fun _ hk => .inl hk)).setCell (.inl rfl) _⟩
    
    · have hL : (if m < 0 then 0 else m) = m := if_neg hm0
      rw [hL] at Hhx2
      clear hL
      by_cases hm : m < n
      · rw [if_pos hm] at Hhx2
        by_cases hz : t.2.2 = 0
        · have hzb : (t.2.2 != 0) = false := by simpa using hz
          rw [if_neg (not_not_intro hz)]
          clear hz
          go_enter Tryz.func123, Tryz.ntmps123
          go_wp2_with (first | (go_at_call 89; refine (C.out).mono ?_; rintro r w' ⟨rfl, rfl⟩) | (go_at_call 31; refine (C2.out).mono ?_; rintro r w1 ⟨rfl, hr1, hg1⟩))
          refine (Fail_calls _ b _ 4 hr1).mono ?_
          rintro r w2 ⟨rfl, hr2, hg2⟩
          rw [Hhx2.out] at hr2
          have hg2 := hg1.trans hg2 (fun _ hk => .inl hk)
          go_wp2_with fail
          refine (Raw_calls _ b _ n hr2).mono ?_
          rw [Hht.out]
          rintro r w3 ⟨rfl, hr3, hg3⟩
          have c1 := hr3.cell1
          have c00 := hr3.cell0
          have f0 := hr3.free 0
          have HR := Lib.hid hr3
          clear hr3
          go_wp2
          go_ret
          exact ⟨rfl, HR.out, hg2.trans hg3 (fun _ hk => .inl hk)⟩
        · have hzb : (t.2.2 != 0) = true := by simpa using hz
          rw [if_pos hz]
          clear hz
          go_enter Tryz.func123, Tryz.ntmps123
          go_wp2_with (first | (go_at_call 89; refine (C.out).mono ?_; rintro r w' ⟨rfl, rfl⟩) | (go_at_call 31; refine (C2.out).mono ?_; rintro r w1 ⟨rfl, hr1, hg1⟩))
          refine (Fail_calls _ b _ 4 hr1).mono ?_
          rintro r w2 ⟨rfl, hr2, hg2⟩
          rw [Hhx2.out] at hr2
          have hg2 := hg1.trans hg2 (fun _ hk => .inl hk)
          go_wp2_with fail
          refine (Raw_calls _ b _ n hr2).mono ?_
          rw [Hht.out]
          rintro r w3 ⟨rfl, hr3, hg3⟩
          have c1 := hr3.cell1
          have c00 := hr3.cell0
          have f0 := hr3.free 0
          have HR := Lib.hid hr3
          clear hr3
          go_wp2
          go_ret
          exact ⟨rfl, HR.out.set0 _, (hg2.trans hg3 (fun _ hk => .inl hk)).setCell (.inl rfl) _⟩
      · rw [if_neg hm] at Hhx2
        by_cases hz : t.2.2 = 0
        · have hzb : (t.2.2 != 0) = false := by simpa using hz
          rw [if_neg (not_not_intro hz)]
          clear hz
          go_enter Tryz.func123, Tryz.ntmps123
          go_wp2_with (first | (go_at_call 89; refine (C.out).mono ?_; rintro r w' ⟨rfl, rfl⟩) | (go_at_call 31; refine (C2.out).mono ?_; rintro r w1 ⟨rfl, hr1, hg1⟩))
          have hr2 := hr1
          rw [Hhx2.out] at hr2
          have hg2 := hg1
          go_wp2_with fail
          refine (Raw_calls _ b _ n hr2).mono ?_
          rw [Hht.out]
          rintro r w3 ⟨rfl, hr3, hg3⟩
          have c1 := hr3.cell1
          have c00 := hr3.cell0
          have f0 := hr3.free 0
          have HR := Lib.hid hr3
          clear hr3
          go_wp2
          go_ret
          exact ⟨rfl, HR.out, hg2.trans hg3 (fun _ hk => .inl hk)⟩
        · have hzb : (t.2.2 != 0) = true := by simpa using hz
          rw [if_pos hz]
          clear hz
          go_enter Tryz.func123, Tryz.ntmps123
          go_wp2_with (first | (go_at_call 89; refine (C.out).mono ?_; rintro r w' ⟨rfl, rfl⟩) | (go_at_call 31; refine (C2.out).mono ?_; rintro r w1 ⟨rfl, hr1, hg1⟩))
          have hr2 := hr1
          rw [Hhx2.out] at hr2
          have hg2 := hg1
          go_wp2_with fail
          refine (Raw_calls _ b _ n hr2).mono ?_
          rw [Hht.out]
          rintro r w3 ⟨rfl, hr3, hg3⟩
          have c1 := hr3.cell1
          have c00 := hr3.cell0
          have f0 := hr3.free 0
          have HR := Lib.hid hr3
          clear hr3
          go_wp2
          go_ret
          exact ⟨rfl, HR.out.set0 _, (hg2.trans hg3 (fun _ hk => .inl hk)).setCell (.inl rfl) _⟩
  · rw [textF_err he]
    refine (Text_err w b x m h he).mono ?_
    rintro r w' ⟨rfl, rfl⟩
    exact ⟨rfl, h, Chg.refl _ _⟩

end Go.Proofs.YtmbipabiagdaaaaGreatDoor