/- The reference's writer, the rest: texts, hashes, all that was laid. -/
import Derived.Test.YtjlkflbkejpcaaaRw
namespace Go.Proofs.Ytjlkflbkejpcaaa
open Go.RowKit

theorem rwNumber_calls (w : World) (b : Nat) (r : Option Nat) (s : WS) (x : Int) (n : Nat) (h : WrAt w 28 b r s.1 s.2) (hn : n ≤ 8) (hx : x ≤ 9223372036854775807) (hl : s.1.length + 8 ≤ 140737488355328) :
    Calls Try.prog 59 #[.pointer (some ⟨b, 0, none⟩), .int .i64 x, .int .i64 n] w fun e w' => e = .returned (.tuple #[]) ∧ ∃ r', WrAt w' 28 b r' (numW s x n).1 (numW s x n).2 ∧ Next w r r' ∧ Chg (fun k => k = b ∨ r = some k) w w' := by
  by_cases hf : fits x n
  · rw [numW, if_pos hf]
    exact rwNumber_ok w b r s.1 s.2 x n h hf hn hx hl
  · rw [numW, if_neg hf]
    refine (rwNumber_bad w b r s.1 s.2 x n h hf hn).mono ?_
    rintro e w' ⟨rfl, h1, h2⟩
    exact ⟨rfl, r, h1, .inl rfl, h2.mono fun k hk => .inl (.inl hk)⟩

def rtextW (s : WS) (t : ByteArray) : WS := if 65535 < (t.size : Int) then (s.1, true) else wtextW s t
def rhashW (s : WS) (t : ByteArray) : WS := if (t.size : Int) ≠ 32 then (s.1, true) else (s.1 ++ t.data.toList, s.2)

theorem rwText_calls (w : World) (b : Nat) (r : Option Nat) (s : WS) (t : ByteArray) (h : WrAt w 28 b r s.1 s.2) (hl : s.1.length + t.size + 8 ≤ 140737488355328) :
    Calls Try.prog 62 #[.pointer (some ⟨b, 0, none⟩), .string t] w fun e w' => e = .returned (.tuple #[]) ∧ ∃ r', WrAt w' 28 b r' (rtextW s t).1 (rtextW s t).2 ∧ Next w r r' ∧ Chg (fun k => k = b ∨ r = some k) w w' := by
  by_cases hbig : 65535 < (t.size : Int)
  · rw [rtextW, if_pos hbig]
    obtain ⟨A, m, c, hv1, hv2⟩ := h
    have c1 : w.cell? ⟨b, 1, none⟩ = some (.bool s.2) := blkCell hv1 1
    have f1 : w.frozen? ⟨b, 1, none⟩ = false := blkFree hv1 1
    have H : Hid (WrAt w 28 b r s.1 s.2) := Lib.hid ⟨A, m, c, hv1, hv2⟩
    clear hv1 hv2
    go_enter Try.func62, Try.ntmps62
    go_wp2
    refine bodyPost_ret (results_none rfl _ _ _) rfl ?_
    exact ⟨rfl, r, H.out.spoil (by decide) true, .inl rfl, (Chg.refl (fun k => k = b ∨ r = some k) w).setCell (.inl (.inl rfl)) _⟩
  · rw [rtextW, if_neg hbig]
    have C := Lib.hid (rwNumber_calls w b r s t.size 2 h (by omega) (by omega) (by omega))
    have HL : (numW s t.size 2).1.length + t.size ≤ 140737488355328 := by have := numW_len s t.size 2; omega
    unfold wtextW
    obtain ⟨y, hy⟩ : ∃ y, numW s t.size 2 = y := ⟨_, rfl⟩
    rw [hy] at C HL ⊢
    clear h hy
    go_enter Try.func62, Try.ntmps62
    go_wp2_with (first | (go_at_call 59; refine (C.out).mono ?_; rintro e w1 ⟨rfl, r1, ⟨A, m, c, hv1, hv2⟩, hn, hg⟩; have HV := Lib.hid hv1; have HR := Lib.hid hv2; have c0 : w1.cell? ⟨b, 0, none⟩ = some (.slice A m c) := blkCell hv1 0; have HB : Hid (r1 ≠ some b) := Lib.hid (hv2.ne hv1 (by decide)); clear hv1 hv2) | (at_builtin; refine wpList_append_str w1 rfl (.tmp 18) (.tmp 19) 24 9 5 rfl Try.underlying24 Try.underlying9 info_u8 (.slice A m c) r1 y.1 t rfl rfl HR.out HL ?_; intro A1 m1 c1 w2 r2 hrow hnext hgrow; have HROW := Lib.hid hrow; have HNEXT := Lib.hid hnext; have HGROW := Lib.hid hgrow; clear hrow hnext hgrow; have d1 : w2.cell? ⟨b, 0, none⟩ = some (.slice A m c) := blkCell ((Chg.bare HGROW.out).obj HV.out HB.out) 0; have d2 : w2.frozen? ⟨b, 0, none⟩ = false := blkFree ((Chg.bare HGROW.out).obj HV.out HB.out) 0))
    go_end0
    have hb2 := WrAt.laid HV.out (by decide) HB.out HROW.out (Chg.bare HGROW.out)
    exact ⟨rfl, r2, hb2.1, hn.trans HNEXT.out hg.size, Chg.two hg hn hb2.2⟩

theorem rwHash_calls (w : World) (b : Nat) (r : Option Nat) (s : WS) (t : ByteArray) (h : WrAt w 28 b r s.1 s.2) (hl : s.1.length + t.size ≤ 140737488355328) :
    Calls Try.prog 64 #[.pointer (some ⟨b, 0, none⟩), .string t] w fun e w' => e = .returned (.tuple #[]) ∧ ∃ r', WrAt w' 28 b r' (rhashW s t).1 (rhashW s t).2 ∧ Next w r r' ∧ Chg (fun k => k = b ∨ r = some k) w w' := by
  by_cases h32 : (t.size : Int) ≠ 32
  · rw [rhashW, if_pos h32]
    have hb : ((t.size : Int) != 32) = true := by simpa using h32
    obtain ⟨A, m, c, hv1, hv2⟩ := h
    have c1 : w.cell? ⟨b, 1, none⟩ = some (.bool s.2) := blkCell hv1 1
    have f1 : w.frozen? ⟨b, 1, none⟩ = false := blkFree hv1 1
    have H : Hid (WrAt w 28 b r s.1 s.2) := Lib.hid ⟨A, m, c, hv1, hv2⟩
    clear hv1 hv2 h32
    go_enter Try.func64, Try.ntmps64
    go_wp2
    refine bodyPost_ret (results_none rfl _ _ _) rfl ?_
    exact ⟨rfl, r, H.out.spoil (by decide) true, .inl rfl, (Chg.refl (fun k => k = b ∨ r = some k) w).setCell (.inl (.inl rfl)) _⟩
  · rw [rhashW, if_neg h32]
    have hb : ((t.size : Int) != 32) = false := by simpa using h32
    obtain ⟨y, hy⟩ : ∃ y, s = y := ⟨_, rfl⟩
    obtain ⟨r1, hr1⟩ : ∃ r1, r = r1 := ⟨_, rfl⟩
    subst hy hr1
    have HL := hl
    obtain ⟨y, hy⟩ : ∃ y, y = s := ⟨_, rfl⟩
    obtain ⟨r1, hr1⟩ : ∃ r1, r1 = r := ⟨_, rfl⟩
    rw [← hy] at h HL ⊢
    rw [← hr1] at h ⊢
    clear hy hr1 hl h32
    obtain ⟨A, m, c, hv1, hv2⟩ := h
    have c0 : w.cell? ⟨b, 0, none⟩ = some (.slice A m c) := blkCell hv1 0
    have HV := Lib.hid hv1
    have HR := Lib.hid hv2
    have HB : Hid (r1 ≠ some b) := Lib.hid (hv2.ne hv1 (by decide))
    clear hv1 hv2
    go_enter Try.func64, Try.ntmps64
    go_wp2_with (at_builtin; refine wpList_append_str w rfl (.tmp 14) (.tmp 15) 24 9 5 rfl Try.underlying24 Try.underlying9 info_u8 (.slice A m c) r1 y.1 t rfl rfl HR.out HL ?_; intro A1 m1 c1 w2 r2 hrow hnext hgrow; have HROW := Lib.hid hrow; have HNEXT := Lib.hid hnext; have HGROW := Lib.hid hgrow; clear hrow hnext hgrow; have d1 : w2.cell? ⟨b, 0, none⟩ = some (.slice A m c) := blkCell ((Chg.bare HGROW.out).obj HV.out HB.out) 0; have d2 : w2.frozen? ⟨b, 0, none⟩ = false := blkFree ((Chg.bare HGROW.out).obj HV.out HB.out) 0)
    go_end0
    have hb2 := WrAt.laid HV.out (by decide) HB.out HROW.out (Chg.bare HGROW.out)
    exact ⟨rfl, r2, hb2.1, HNEXT.out, hb2.2⟩

theorem rwBytes_bad (w : World) (b : Nat) (r : Option Nat) (bs : List UInt8) (h : WrAt w 28 b r bs true) :
    Calls Try.prog 14 #[.pointer (some ⟨b, 0, none⟩)] w fun e w' => e = .returned (.tuple #[.string ⟨#[]⟩, .int .i64 1]) ∧ w = w' := by
  obtain ⟨A, m, c, hv1, hv2⟩ := h
  have c1 : w.cell? ⟨b, 1, none⟩ = some (.bool true) := blkCell hv1 1
  clear hv1 hv2
  go_enter Try.func14, Try.ntmps14
  go_wp2
  go_ret2
  exact ⟨rfl, rfl⟩
theorem rwBytes_ok (w : World) (b : Nat) (r : Option Nat) (bs : List UInt8) (h : WrAt w 28 b r bs false) :
    Calls Try.prog 14 #[.pointer (some ⟨b, 0, none⟩)] w fun e w' => e = .returned (.tuple #[.string (strOf bs), .int .i64 0]) ∧ w = w' := by
  obtain ⟨A, m, c, hv1, hv2⟩ := h
  have c1 : w.cell? ⟨b, 1, none⟩ = some (.bool false) := blkCell hv1 1
  have c0 : w.cell? ⟨b, 0, none⟩ = some (.slice A m c) := blkCell hv1 0
  have kc := run_string_row (P := Try.prog) (dst := 9) Try.underlying24 Try.underlying5 Try.underlying9 hv2
  clear hv1 hv2
  go_enter Try.func14, Try.ntmps14
  go_wp2
  go_ret2
  exact ⟨rfl, rfl⟩
/-- What Bytes tells of a state. -/
def bytesV (s : WS) : Value := if s.2 then .tuple #[.string ⟨#[]⟩, .int .i64 1] else .tuple #[.string (strOf s.1), .int .i64 0]

end Go.Proofs.Ytjlkflbkejpcaaa