/- Keys: Verify, of both packages. -/
import Derived.Test.YtpdgkgdaaapngaaKyF
import Derived.Test.YtpdgkgdaaapngaaKyN
namespace Go.Proofs.Ytpdgkgdaaapngaa
open Go.RowKit
theorem bulk2 (a b : ByteArray) (ha : a.size ≤ 32) (hb : b.size ≤ 32) : 1 + bulk [a, b] ≤ 140737488355200 := by
  simp only [bulk, List.map_cons, List.map_nil, List.sum_cons, List.sum_nil]
  omega
theorem andOne (m : Int) (h0 : 0 ≤ m) (h1 : m ≤ 65535) : bits .and .i64 m 1 = m % 2 := by
  obtain ⟨x, rfl⟩ := Int.eq_ofNat_of_zero_le h0
  have e : bits .and .i64 (x : Int) 1 = IntKind.i64.wrap (((BitVec.ofNat 64 x &&& BitVec.ofNat 64 1).toNat : Nat) : Int) := by
    show IntKind.i64.wrap (((BitVec.ofInt 64 _ &&& BitVec.ofInt 64 ((1 : Nat) : Int)).toNat : Nat) : Int) = _
    rw [BitVec.ofInt_natCast, BitVec.ofInt_natCast]
  rw [e, BitVec.toNat_and, BitVec.toNat_ofNat, BitVec.toNat_ofNat, Nat.mod_eq_of_lt (by omega), Nat.mod_eq_of_lt (by omega), Nat.and_one_is_mod, IntKind.wrap_i64]
  omega
def strLen : Value → Nat
  | .string s => s.size
  | _ => 0
set_option maxRecDepth 100000 in
theorem named_calls (w : World) (h : Int) (top : ByteArray) (ht : top.size ≤ 32) (_h0 : 0 ≤ h) (_h1 : h ≤ 65535) :
    Calls Try.prog 29 #[.int .i64 h, .string top] w fun e w' => e = .returned (.string (idF h top)) ∧ Chg (fun _ => False) w w' := by
  have HB := Lib.hid (bulk2 (strN h 1) top (by rw [strN_size]; omega) ht)
  clear ht
  have kc := run_string_row (P := Try.prog) (dst := 9) Try.underlying34 Try.underlying5 Try.underlying9 (oneNum w h)
  go_enter Try.func29, Try.ntmps29
  go_wp2_with (go_at_call 28; (refine (Tag_calls _ 38 (by decide) _ 2 2 [strN h 1, top] (strsAt (by simp) (by simp)) rfl HB.out).mono ?_; rintro e w3 ⟨rfl, hg⟩; have H3 := Lib.hid hg; clear hg))
  go_ret
  exact ⟨rfl, H3.out.un.un⟩
set_option maxRecDepth 100000 in
theorem id_calls (w : World) (h : Int) (top : ByteArray) (ht : top.size ≤ 32) (_h0 : 0 ≤ h) (_h1 : h ≤ 65535) :
    Calls Try.prog 32 #[.int .i64 h, .string top] w fun e w' => e = .returned (.string (idF h top)) ∧ Chg (fun _ => False) w w' := by
  have HB := Lib.hid (bulk2 (strN h 1) top (by rw [strN_size]; omega) ht)
  clear ht
  have kc := run_string_row (P := Try.prog) (dst := 9) Try.underlying34 Try.underlying5 Try.underlying9 (oneNum w h)
  go_enter Try.func32, Try.ntmps32
  go_wp2_with (go_at_call 31; (refine (rTag_calls _ 38 (by decide) _ 2 2 [strN h 1, top] (strsAt (by simp) (by simp)) rfl HB.out).mono ?_; rintro e w3 ⟨rfl, hg⟩; have H3 := Lib.hid hg; clear hg))
  go_ret
  exact ⟨rfl, H3.out.un.un⟩
end Go.Proofs.Ytpdgkgdaaapngaa
