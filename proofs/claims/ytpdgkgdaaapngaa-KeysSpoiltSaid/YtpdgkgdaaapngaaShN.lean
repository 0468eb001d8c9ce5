/- The reference's numbers as bytes. -/
import Derived.Test.YtpdgkgdaaapngaaShG
namespace Go.Proofs.Ytpdgkgdaaapngaa
open Go.RowKit

theorem Chg.row2 {w w1 w2 : World} {r r1 : Option Nat} (h : Chg (fun k => r = some k) w w1) (hn : Next w r r1) (h2 : Chg (fun k => r1 = some k) w1 w2) : Chg (fun k => r = some k) w w2 :=
  h.trans h2 fun _ hk => hn.mem hk
theorem u8_range (x : Int) : 0 ≤ IntKind.u8.wrap x ∧ IntKind.u8.wrap x < 256 := by
  simp only [IntKind.wrap, IntKind.bits, IntKind.signed]
  simp
  omega
theorem u8_wrap (x : Int) : IntKind.u8.wrap x = x % 256 := by
  simp only [IntKind.wrap, IntKind.bits, IntKind.signed]
  simp
theorem numStep {x : Int} {j : Nat} {cur rest : List UInt8} (h : cur ++ numBytes x (j + 1) = rest) : (cur ++ [UInt8.ofNat (IntKind.u8.wrap (x / 2 ^ (8 * j))).toNat]) ++ numBytes x j = rest := by
  rw [u8_wrap, ← h]
  simp [numBytes]
theorem sn {j : Nat} : ((j + 1 : Nat) : Int) - 1 = j := by omega
set_option maxRecDepth 100000 in
theorem num01_calls (w : World) (v : Value) (r : Option Nat) (bs : List UInt8) (x : Int) (n : Nat) (h : Row w 5 v r bs) (_hx : 0 ≤ x) (hn : n ≤ 8) (hl : bs.length + 8 ≤ 140737488355328) :
    Calls Try.prog 55 #[v, .int .u64 x, .int .i64 n] w fun e w' => ∃ A m c r', e = .returned (.slice A m c) ∧ Row w' 5 (.slice A m c) r' (bs ++ numBytes x n) ∧ Next w r r' ∧ Chg (fun k => r = some k) w w' := by
  obtain ⟨A0, m0, c0, rfl⟩ := h.slice
  have H := Lib.hid h
  clear h
  go_enter Try.func55, Try.ntmps55
  go_wp2
  go_loopw [0, 7] (fun u v wr => ∃ (k : Nat) (A : Option Addr) (m c : Nat) (r1 : Option Nat) (cur : List UInt8), k ≤ n ∧ v = .int .i64 ((k : Int) - 1) ∧ u = .slice A m c ∧ HD (Row wr 5 (.slice A m c) r1 cur) ∧ HD (cur ++ numBytes x k = bs ++ numBytes x n) ∧ HD (Next w r r1) ∧ HD (Chg (fun k => r = some k) w wr)) (fun _ v _ => (intOf v + 1).toNat)
  case atStart => exact ⟨n, A0, m0, c0, r, bs, Nat.le_refl _, rfl, rfl, ⟨H.out⟩, ⟨rfl⟩, ⟨.inl rfl⟩, ⟨Chg.refl _ _⟩⟩
  case round =>
    obtain ⟨k, A, m, c, r1, cur, hk, rfl, rfl, ⟨HR⟩, ⟨HC⟩, ⟨HN⟩, ⟨HG⟩⟩ := hrel
    have HC := Lib.hid HC
    have HR := Lib.hid HR
    cases k with
    | zero =>
      rw [show ((0 : Nat) : Int) - 1 = -1 from rfl]
      go_wp2
      go_ret
      have hcur : cur = bs ++ numBytes x n := by have := HC.out; simpa [numBytes] using this
      exact ⟨A, m, c, r1, rfl, by rw [← hcur]; exact HR.out, HN, HG⟩
    | succ j =>
      rw [sn]
      have HL : cur.length + 1 ≤ 140737488355328 := by
        have := congrArg List.length HC.out
        simp only [List.length_append, numBytes_len] at this
        omega
      go_wp2_with (at_builtin; refine wpList_append_byte wr rfl (.tmp 14) (.tmp 20) 34 5 rfl Try.underlying34 info_u8 (.slice A m c) r1 cur (IntKind.u8.wrap (x / 2 ^ (8 * j))) rfl rfl HR.out (u8_range _) HL ?_; intro A1 m1 c1 w1 r2 hrow hnext hgrow; have HROW := Lib.hid hrow; have HNEXT := Lib.hid hnext; have HGROW := Lib.hid hgrow; clear hrow hnext hgrow)
      have hc : Chg (fun k => r1 = some k) wr w1 := ((Chg.refl (fun k => r1 = some k) wr).alloc _).grown HGROW.out (fun _ hk => .inl hk)
      exact ⟨⟨j, A1, m1, c1, r2, _, by omega, rfl, rfl, ⟨HROW.out⟩, ⟨numStep HC.out⟩, ⟨HN.trans HNEXT.out HG.size⟩, ⟨Chg.row2 HG HN hc⟩⟩, by simp [intOf]⟩

theorem Num01_calls (w : World) (x : Int) (n : Nat) (hx : 0 ≤ x) (hn : n ≤ 8) :
    Calls Try.prog 35 #[.int .u64 x, .int .i64 n] w fun e w' => e = .returned (.string (strOf (numBytes x n))) ∧ Chg (fun _ => False) w w' := by
  have C := Lib.hid (num01_calls w (.slice none 0 0) none [] x n (Row.nil w _) hx hn (by simp))
  go_enter Try.func35, Try.ntmps35
  go_wp2_with (go_at_call 55; refine (C.out).mono ?_; rintro e w1 ⟨A, m, c, r', rfl, hrow, hn, hg⟩; have HG := Lib.hid (hg.mono (S' := fun _ => False) fun k hk => by cases hk); have kc := run_string_row (P := Try.prog) (dst := 9) Try.underlying34 Try.underlying5 Try.underlying9 hrow; clear hrow hg hn)
  go_ret
  exact ⟨rfl, HG.out⟩

end Go.Proofs.Ytpdgkgdaaapngaa