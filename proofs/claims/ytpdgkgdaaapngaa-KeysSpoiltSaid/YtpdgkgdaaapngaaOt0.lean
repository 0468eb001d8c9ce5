/- One-time signatures: the small functions (two, one, secret, chain, fit), and what they hand back in plain Lean. -/
import Derived.Test.YtpdgkgdaaapngaaShQ
namespace Go.Proofs.Ytpdgkgdaaapngaa
open Go.RowKit
def strN (x : Int) (n : Nat) : ByteArray := strOf (numBytes x n)
def cut16 (s : ByteArray) : ByteArray := s.extract 0 16
def linkF (n i k : Int) (x : ByteArray) : ByteArray := cut16 (tagF 33 [strN n 2, strN i 1, strN k 1, x])
def chainF (n i from_ : Int) (x : ByteArray) : Nat → ByteArray
  | 0 => x
  | c + 1 => linkF n i (from_ + c) (chainF n i from_ x c)
def secretF (seed : ByteArray) (n i : Int) : ByteArray := cut16 (tagF 32 [seed, strN n 2, strN i 1])
theorem strN_size (x : Int) (n : Nat) : (strN x n).size = n := by
  simp [strN, strOf, ByteArray.size, numBytes_len]
theorem cut16_size (s : ByteArray) (h : s.size = 32) : (cut16 s).size = 16 := by
  simp [cut16, h]
theorem linkF_size (n i k : Int) (x : ByteArray) : (linkF n i k x).size = 16 := cut16_size _ (tagF_size _ _)
theorem secretF_size (s : ByteArray) (n i : Int) : (secretF s n i).size = 16 := cut16_size _ (tagF_size _ _)
theorem chainF_size (n i f : Int) (x : ByteArray) (h : x.size = 16) (c : Nat) : (chainF n i f x c).size = 16 := by
  cases c with
  | zero => exact h
  | succ c => exact linkF_size _ _ _ _
theorem chainF_add (n i f : Int) (x : ByteArray) (c d : Nat) : chainF n i (f + c) (chainF n i f x c) d = chainF n i f x (c + d) := by
  induction d with
  | zero => rfl
  | succ d ih =>
    show linkF n i (f + c + d) _ = linkF n i (f + ((c + d : Nat) : Int)) (chainF n i f x (c + d))
    rw [ih, Int.natCast_add, Int.add_assoc]
theorem strsNew (w : World) (l : List ByteArray) (hl : l.length ≤ 100) : StrsIn (w.alloc (.cells (l.map Value.string).toArray 9)) (some ⟨w.heap.size, 0, none⟩) l := by
  refine ⟨by omega, fun _ => ⟨_, rfl, fun j s hj => ?_⟩⟩
  have hb : (w.alloc (.cells (l.map Value.string).toArray 9)).heap[w.heap.size]? = some (.cells (l.map Value.string).toArray 9) := blkAlloc w _
  have e : Addr.add ⟨w.heap.size, 0, none⟩ j = ⟨w.heap.size, j, none⟩ := by
    by_cases h0 : j = 0
    · subst h0; rfl
    · simp [Addr.add, h0]
  rw [e, blkCell hb j]
  simp [hj]
/-- The error of a number. -/
def fitE (n : Int) : Int := if 0 ≤ n ∧ n ≤ 65535 then 0 else 1
theorem fitE_in {n : Int} (h : 0 ≤ n ∧ n ≤ 65535) : fitE n = 0 := if_pos h
theorem fitE_out {n : Int} (h : ¬ (0 ≤ n ∧ n ≤ 65535)) : fitE n = 1 := if_neg h
theorem fit_calls (w : World) (n : Int) : Calls Try.prog 47 #[.int .i64 n] w fun e w' => e = .returned (.int .i64 (fitE n)) ∧ w' = w := by
  go_enter Try.func47, Try.ntmps47
  go_wp2
  all_goals go_ret
  all_goals first
    | exact ⟨congrArg (fun x => Ending.returned (Value.int .i64 x)) (fitE_out (by omega)).symm, rfl⟩
    | exact ⟨congrArg (fun x => Ending.returned (Value.int .i64 x)) (fitE_in (by omega)).symm, rfl⟩
theorem oneNum (w : World) (b : Int) : Row (w.alloc (.cells #[.int .u8 (b % 256)] 5)) 5 (.slice (some ⟨w.heap.size, 0, none⟩) 1 1) (some w.heap.size) (numBytes b 1) := by
  have h := oneRow w (UInt8.ofNat (b % 256).toNat)
  have h2 := byteCell b
  simp only [bcells, List.map_cons, List.map_nil, h2] at h
  have h3 : numBytes b 1 = [UInt8.ofNat (b % 256).toNat] := by simp [numBytes]
  rw [h3]
  exact h
theorem twoRow (w : World) (b c : UInt8) : Row (w.alloc (.cells (bcells [b, c]).toArray 5)) 5 (.slice (some ⟨w.heap.size, 0, none⟩) 2 2) (some w.heap.size) [b, c] :=
  ⟨⟨rfl, .inr ⟨w.heap.size, 2, _, rfl, Nat.zero_le _, blkAlloc w _, by simp, by simp only [maxLen]; omega, by simp [bcells], by simp [bcells]⟩⟩, rfl⟩
theorem twoNum (w : World) (b : Int) (h0 : 0 ≤ b) (h1 : b ≤ 65535) : Row (w.alloc (.cells #[.int .u8 (b / 256), .int .u8 (b % 256)] 5)) 5 (.slice (some ⟨w.heap.size, 0, none⟩) 2 2) (some w.heap.size) (numBytes b 2) := by
  have h := twoRow w (UInt8.ofNat (b / 256 % 256).toNat) (UInt8.ofNat (b % 256).toNat)
  have h2 := byteCell b
  have h4 := byteCell (b / 256)
  simp only [bcells, List.map_cons, List.map_nil, h2, h4] at h
  have h3 : numBytes b 2 = [UInt8.ofNat (b / 256 % 256).toNat, UInt8.ofNat (b % 256).toNat] := by simp [numBytes]
  rw [h3]
  rw [show b / 256 % 256 = b / 256 from by omega] at h ⊢
  exact h
theorem one_calls (w : World) (n : Int) (_h0 : 0 ≤ n) (_h1 : n ≤ 65535) : Calls Try.prog 87 #[.int .i64 n] w fun e w' => e = .returned (.string (strN n 1)) ∧ Chg (fun _ => False) w w' := by
  have kc := run_string_row (P := Try.prog) (dst := 9) Try.underlying34 Try.underlying5 Try.underlying9 (oneNum w n)
  go_enter Try.func87, Try.ntmps87
  go_wp2_with fail
  go_ret
  exact ⟨rfl, (Chg.refl _ w).alloc _⟩
theorem two_calls (w : World) (n : Int) (h0 : 0 ≤ n) (h1 : n ≤ 65535) : Calls Try.prog 86 #[.int .i64 n] w fun e w' => e = .returned (.string (strN n 2)) ∧ Chg (fun _ => False) w w' := by
  have kc := run_string_row (P := Try.prog) (dst := 9) Try.underlying34 Try.underlying5 Try.underlying9 (twoNum w n h0 h1)
  go_enter Try.func86, Try.ntmps86
  go_wp2_with fail
  go_ret
  exact ⟨rfl, (Chg.refl _ w).alloc _⟩
set_option maxRecDepth 100000 in
theorem secret_calls (w : World) (seed : ByteArray) (n i : Int) (hs : seed.size ≤ 140737488351232) (h0 : 0 ≤ n) (h1 : n ≤ 65535) (i0 : 0 ≤ i) (i1 : i ≤ 65535) :
    Calls Try.prog 96 #[.string seed, .int .i64 n, .int .i64 i] w fun e w' => e = .returned (.string (secretF seed n i)) ∧ Chg (fun _ => False) w w' := by
  have HB : Hid (1 + bulk [seed, strN n 2, strN i 1] ≤ 140737488355200) := Lib.hid (by simp only [bulk, List.map_cons, List.map_nil, List.sum_cons, List.sum_nil, strN_size]; omega)
  clear hs
  have hsz := tagF_size 32 [seed, strN n 2, strN i 1]
  go_enter Try.func96, Try.ntmps96
  go_wp2_with (first
    | (go_at_call 86; refine (two_calls _ _ h0 h1).mono ?_; rintro e w1 ⟨rfl, hg⟩; have H1 := Lib.hid hg; clear hg)
    | (go_at_call 87; refine (one_calls _ _ i0 i1).mono ?_; rintro e w2 ⟨rfl, hg⟩; have H2 := Lib.hid hg; clear hg)
    | (go_at_call 28; (refine (Tag_calls _ 32 (by decide) _ 3 3 [seed, strN n 2, strN i 1] (strsNew _ _ (by simp)) rfl HB.out).mono ?_; rintro e w3 ⟨rfl, hg⟩; have H3 := Lib.hid hg; clear hg)))
  go_ret
  exact ⟨rfl, ((H1.out.trans H2.out (fun _ h => h.elim)).alloc _).trans H3.out (fun _ h => h.elim)⟩
end Go.Proofs.Ytpdgkgdaaapngaa
