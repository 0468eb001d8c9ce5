/- One-time signatures: the reference's secret and its links. -/
import Derived.Test.YtpdgkgdaaapngaaOt1
namespace Go.Proofs.Ytpdgkgdaaapngaa
open Go.RowKit
theorem conv_row {w : World} {g : Nat} {x : Int} (h : Row w 5 (.slice (some ⟨g, 0, none⟩) 1 1) (some g) (numBytes x 1)) : (convert 34 9 (.slice (some ⟨g, 0, none⟩) 1 1)).run Try.prog w = .ok (.string (strN x 1)) w :=
  run_string_row (P := Try.prog) (dst := 9) Try.underlying34 Try.underlying5 Try.underlying9 h
theorem u64_same (n : Int) (h0 : 0 ≤ n) (h1 : n ≤ 65535) : IntKind.u64.wrap n = n := by
  simp only [IntKind.wrap, IntKind.bits, IntKind.signed]
  simp
  omega
/-- Block g is the row of the one byte of x. -/
def B1 (x : Int) (g : Nat) (w : World) : Prop := Row w 5 (.slice (some ⟨g, 0, none⟩) 1 1) (some g) (numBytes x 1)
theorem b1conv (x : Int) (w : World) (g : Nat) (h : B1 x g w) : (convert 34 9 (.slice (some ⟨g, 0, none⟩) 1 1)).run Try.prog w = .ok (.string (strN x 1)) w := conv_row h
theorem b1new (x : Int) (V : World) (g : Nat) (hg : g = V.heap.size) : B1 x g (V.alloc (.cells #[.int .u8 (x % 256)] 5)) := by
  subst hg
  exact oneNum V x
theorem B1.chg {x : Int} {g : Nat} {w w1 : World} (c : Chg (fun _ => False) w w1) (h : B1 x g w) : B1 x g w1 := Row.chg h c (fun _ _ h => h)
theorem B1.alloc {x : Int} {g : Nat} {V : World} (h : B1 x g V) (o : Obj) : B1 x g (V.alloc o) := h.chg ((Chg.refl _ _).alloc _)
theorem B1.drew {x : Int} {g : Nat} {V : World} (h : B1 x g V) : B1 x g V.drew := h.chg (Chg.refl _ _).drew
theorem c0 (x : Int) (V : World) (g : Nat) (hg : g = V.heap.size) : (convert 34 9 (.slice (some ⟨g, 0, none⟩) 1 1)).run Try.prog (V.alloc (.cells #[.int .u8 (x % 256)] 5)) = .ok (.string (strN x 1)) (V.alloc (.cells #[.int .u8 (x % 256)] 5)) := b1conv _ _ _ (b1new x V g hg)
theorem c0d (x : Int) (V : World) (g : Nat) (hg : g = V.heap.size) : (convert 34 9 (.slice (some ⟨g, 0, none⟩) 1 1)).run Try.prog (V.alloc (.cells #[.int .u8 (x % 256)] 5)).drew = .ok (.string (strN x 1)) (V.alloc (.cells #[.int .u8 (x % 256)] 5)).drew := b1conv _ _ _ (b1new x V g hg).drew
theorem c1 (x : Int) (V : World) (o : Obj) (g : Nat) (hg : g = V.heap.size) : (convert 34 9 (.slice (some ⟨g, 0, none⟩) 1 1)).run Try.prog ((V.alloc (.cells #[.int .u8 (x % 256)] 5)).alloc o) = .ok (.string (strN x 1)) ((V.alloc (.cells #[.int .u8 (x % 256)] 5)).alloc o) := b1conv _ _ _ ((b1new x V g hg).alloc o)
theorem c1d (x : Int) (V : World) (o : Obj) (g : Nat) (hg : g = V.heap.size) : (convert 34 9 (.slice (some ⟨g, 0, none⟩) 1 1)).run Try.prog ((V.alloc (.cells #[.int .u8 (x % 256)] 5)).alloc o).drew = .ok (.string (strN x 1)) ((V.alloc (.cells #[.int .u8 (x % 256)] 5)).alloc o).drew := b1conv _ _ _ ((b1new x V g hg).alloc o).drew
theorem convD (x : Int) {V w1 : World} (h : Chg (fun _ => False) (V.alloc (.cells #[.int .u8 (x % 256)] 5)).drew w1) (g : Nat) (hg : g = V.heap.size) : (convert 34 9 (.slice (some ⟨g, 0, none⟩) 1 1)).run Try.prog w1 = .ok (.string (strN x 1)) w1 := b1conv _ _ _ ((b1new x V g hg).drew.chg h)
theorem convDo (x : Int) {V w1 : World} (h : Chg (fun _ => False) (V.alloc (.cells #[.int .u8 (x % 256)] 5)).drew w1) (o : Obj) (g : Nat) (hg : g = V.heap.size) : (convert 34 9 (.slice (some ⟨g, 0, none⟩) 1 1)).run Try.prog (w1.alloc o) = .ok (.string (strN x 1)) (w1.alloc o) := b1conv _ _ _ (((b1new x V g hg).drew.chg h).alloc o)
theorem convDD (x : Int) {V w1 : World} {o1 : Obj} (h : Chg (fun _ => False) ((V.alloc (.cells #[.int .u8 (x % 256)] 5)).alloc o1).drew w1) (g : Nat) (hg : g = V.heap.size) : (convert 34 9 (.slice (some ⟨g, 0, none⟩) 1 1)).run Try.prog w1 = .ok (.string (strN x 1)) w1 := b1conv _ _ _ (((b1new x V g hg).alloc o1).drew.chg h)
theorem convDDo (x : Int) {V w1 : World} {o1 : Obj} (h : Chg (fun _ => False) ((V.alloc (.cells #[.int .u8 (x % 256)] 5)).alloc o1).drew w1) (o : Obj) (g : Nat) (hg : g = V.heap.size) : (convert 34 9 (.slice (some ⟨g, 0, none⟩) 1 1)).run Try.prog (w1.alloc o) = .ok (.string (strN x 1)) (w1.alloc o) := b1conv _ _ _ ((((b1new x V g hg).alloc o1).drew.chg h).alloc o)
theorem Chg.un {w w1 : World} {o : Obj} (h : Chg (fun _ => False) (w.alloc o) w1) : Chg (fun _ => False) w w1 := ((Chg.refl _ w).alloc o).trans h (fun _ h => .inl h)
theorem Chg.und {w w1 : World} (h : Chg (fun _ => False) w.drew w1) : Chg (fun _ => False) w w1 := ((Chg.refl _ w).drew).trans h (fun _ h => .inl h)
theorem strsAt {w : World} {g : Nat} {l : List ByteArray} (hl : l.length ≤ 100) (hg : g = w.heap.size) : StrsIn (w.alloc (.cells (l.map Value.string).toArray 9)) (some ⟨g, 0, none⟩) l := by
  subst hg
  exact strsNew _ _ hl
theorem Num2_calls (w : World) (x : Int) (n : Nat) (hx : 0 ≤ x) (hn : n ≤ 8) :
    Calls Try.prog 35 #[.int .u64 x, .int .i64 n] w fun e w' => e = .returned (.string (strN x n)) ∧ Chg (fun _ => False) w w' := Num01_calls w x n hx hn
set_option maxRecDepth 100000 in
set_option maxHeartbeats 400000 in
theorem rsecret_calls (w : World) (seed : ByteArray) (n i : Int) (hs : seed.size ≤ 140737488351232) (h0 : 0 ≤ n) (h1 : n ≤ 65535) (_i0 : 0 ≤ i) (_i1 : i ≤ 65535) :
    Calls Try.prog 57 #[.string seed, .int .i64 n, .int .i64 i] w fun e w' => e = .returned (.string (secretF seed n i)) ∧ Chg (fun _ => False) w w' := by
  have HB : Hid (1 + bulk [seed, strN n 2, strN i 1] ≤ 140737488355200) := Lib.hid (by simp only [bulk, List.map_cons, List.map_nil, List.sum_cons, List.sum_nil, strN_size]; omega)
  clear hs
  have hsz := tagF_size 32 [seed, strN n 2, strN i 1]
  have hu := u64_same n h0 h1
  have hi8 := u8_wrap i
  have k1 := c0 i
  have k2 := c0d i
  have k3 := c1 i
  have k4 := c1d i
  go_enter Try.func57, Try.ntmps57
  go_wp2_with fail
  go_region_with (first
    | (go_at_call 35; refine (Num2_calls _ n 2 h0 (by decide)).mono ?_; rintro e w1 ⟨rfl, hg⟩; (first | have k5 := convD i hg | skip); have H1 := Lib.hid hg; clear hg)
    | (go_at_call 31; refine (rTag_calls _ 32 (by decide) _ 3 3 [seed, strN n 2, strN i 1] (strsAt (by simp) (by simp)) rfl HB.out).mono ?_; rintro e w3 ⟨rfl, hg⟩; have H3 := Lib.hid hg; clear hg))
  all_goals go_wp2_with fail
  all_goals go_ret
  all_goals (have g1 := H1.out; have g3 := H3.out; repeat (first | replace g1 := Chg.un g1 | replace g1 := Chg.und g1 | replace g3 := Chg.un g3 | replace g3 := Chg.und g3))
  all_goals exact ⟨rfl, g1.trans g3 (fun _ h => h.elim)⟩
end Go.Proofs.Ytpdgkgdaaapngaa
