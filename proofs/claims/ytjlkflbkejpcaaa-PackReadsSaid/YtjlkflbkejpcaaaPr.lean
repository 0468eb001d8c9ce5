/- One call of both readers: they answer alike and come to the same state. -/
import Derived.Test.YtjlkflbkejpcaaaRr2
import Derived.Deep.RegionHeld3
namespace Go.Proofs.Ytjlkflbkejpcaaa
open Go.RowKit

theorem quietL {P : Program} {f : FuncId} {args : Array Value} {w : World} {n : Nat} {v : Value}
    (h : Calls P f args (w.drewN n) fun e w' => e = .returned v ∧ w.drewN n = w') : Calls P f args (w.drewN n) fun e w'' => e = .returned v ∧ ∃ m, w'' = w.drewN m :=
  h.mono fun _ _ ⟨he, hm⟩ => ⟨he, n, hm.symm⟩
theorem quietL2 {P : Program} {f : FuncId} {args : Array Value} {w : World} {a n : Nat} {v : Value}
    (h : Calls P f args (w.drewN (a + n)) fun e w' => e = .returned v ∧ w.drewN (a + n) = w') : Calls P f args (w.drewN (a + n)) fun e w'' => e = .returned v ∧ ∃ m, w'' = w.drewN (a + m) :=
  h.mono fun _ _ ⟨he, hm⟩ => ⟨he, n, hm.symm⟩
theorem RdAt.drewN {w : World} {T b : Nat} {x : RS} (h : RdAt w T b x) (n : Nat) : RdAt (w.drewN n) T b x := h
theorem textF_size (x : RS) (m : Int) : (textF x m).2.1.size ≤ x.1.size := by
  unfold textF
  split
  · exact Nat.le_refl _
  · simp only
    have key : ∀ z : RS, z.1.size ≤ x.1.size → ∀ n : Int, (if (rawF z n).2.2 ≠ 0 then (x.1, (rawF z n).2.2) else (rawF z n).2).1.size ≤ x.1.size := by
      intro z hz n
      split
      · exact Nat.le_refl _
      · exact Nat.le_trans (rawF_size _ _).2 hz
    refine key _ ?_ _
    have k2 : ∀ b : Prop, ∀ _ : Decidable b, (if b then failF (numF x 2).2 4 else (numF x 2).2).1.size ≤ x.1.size := by
      intro b _
      split
      · rw [failF_left]; exact numF_size x 2
      · exact numF_size x 2
    exact k2 _ _
theorem eightF_size (x : RS) : (numF (eightF x) 8).2.1.size ≤ x.1.size := by
  have := numF_size (eightF x) 8
  rwa [eightF_left] at this

set_option maxRecDepth 100000 in
theorem read0 (w : World) (br bx : Nat) (x : RS) (k n : Int) (t : ByteArray) (hk : k % 8 = 0) (hk0 : 0 ≤ k ∧ k ≤ 255) (h : RdAt w 59 br x) (hx : RdAt w 62 bx x) (hs : x.1.size ≤ 140737488351232) :
    Calls Try.prog 34 #[.pointer (some ⟨br, 0, none⟩), .pointer (some ⟨bx, 0, none⟩), .agg #[.int .u8 k, .int .i64 n, .string t]] w fun e w' => e = .returned (.bool true) ∧ ∃ y : RS, y.1.size ≤ x.1.size ∧ RdAt w' 59 br y ∧ RdAt w' 62 bx y ∧ Chg (fun k => k = br ∨ k = bx) w w' := by
  have NE : Hid (br ≠ bx) := Lib.hid (blkNe h hx (by decide))
  have H1 : Hid (RdAt (w.alloc (.cells #[.int .u8 k, .int .i64 n, .string t] 31)) 59 br x) := Lib.hid (blkOld h _)
  have H2 : Hid (RdAt (w.alloc (.cells #[.int .u8 k, .int .i64 n, .string t] 31)) 62 bx x) := Lib.hid (blkOld hx _)
  have HX : Hid ((w.alloc (.cells #[.int .u8 k, .int .i64 n, .string t] 31)).heap[w.heap.size]? = some (.cells #[.int .u8 k, .int .i64 n, .string t] 31 (0, 0))) := Lib.hid (blkAlloc w _)
  have NB : Hid (w.heap.size ≠ br) := Lib.hid (fun e => by have := blkLt h; omega)
  have NB2 : Hid (w.heap.size ≠ bx) := Lib.hid (fun e => by have := blkLt hx; omega)
  clear h hx
  go_enter Try.func34, Try.ntmps34
  go_wp2_with (first
    | (go_at_call 22;  (refine (Byte_calls _ br x (by exact H1.out) hs).mono ?_); rintro e w1 ⟨rfl, h1, g1⟩; have J1 := Lib.hid h1; have g1' := Lib.hid g1; have K := Lib.hid (H2.out.chg g1 (fun e => NE.out e.symm)); have HB := Lib.hid (g1.obj HX.out (fun e => NB.out e)); have b1 := blkCell HB.out 1; clear h1 g1)
    | (go_at_call 68; refine (rNumber_small _ bx x 1 (by exact K.out) hs (by decide)).mono ?_; rintro e w2 ⟨rfl, h2, g2⟩; have J2 := Lib.hid h2; have g2' := Lib.hid g2; have J3 := Lib.hid (J1.out.chg g2 (fun e => NE.out e)); have HC := Lib.hid (g2.obj HB.out (fun e => NB2.out e)); have b2 := blkCell HC.out 1; clear h2 g2))
  have c0 := J2.out.cell0
  have c1 := J2.out.cell1
  go_quiet ((first | (go_at_call 29; exact quietL (Left_calls _ br _ (J3.out.drewN _))) | (go_at_call 30; exact quietL (Err_calls _ br _ (J3.out.drewN _)))))
  go_wp2
  go_ret
  refine ⟨rfl, (numF x 1).2, ?_, J3.out, J2.out, ?_⟩
  · exact numF_size x 1
  · exact  ((((Chg.refl (fun k => k = br ∨ k = bx) w).alloc _).trans g1'.out (fun k hk => .inl (.inl hk))).trans g2'.out (fun k hk => .inl (.inr hk))).drewN _

set_option maxRecDepth 100000 in
theorem read1 (w : World) (br bx : Nat) (x : RS) (k n : Int) (t : ByteArray) (hk : k % 8 = 1) (hk0 : 0 ≤ k ∧ k ≤ 255) (h : RdAt w 59 br x) (hx : RdAt w 62 bx x) (hs : x.1.size ≤ 140737488351232) :
    Calls Try.prog 34 #[.pointer (some ⟨br, 0, none⟩), .pointer (some ⟨bx, 0, none⟩), .agg #[.int .u8 k, .int .i64 n, .string t]] w fun e w' => e = .returned (.bool true) ∧ ∃ y : RS, y.1.size ≤ x.1.size ∧ RdAt w' 59 br y ∧ RdAt w' 62 bx y ∧ Chg (fun k => k = br ∨ k = bx) w w' := by
  have NE : Hid (br ≠ bx) := Lib.hid (blkNe h hx (by decide))
  have H1 : Hid (RdAt (w.alloc (.cells #[.int .u8 k, .int .i64 n, .string t] 31)) 59 br x) := Lib.hid (blkOld h _)
  have H2 : Hid (RdAt (w.alloc (.cells #[.int .u8 k, .int .i64 n, .string t] 31)) 62 bx x) := Lib.hid (blkOld hx _)
  have HX : Hid ((w.alloc (.cells #[.int .u8 k, .int .i64 n, .string t] 31)).heap[w.heap.size]? = some (.cells #[.int .u8 k, .int .i64 n, .string t] 31 (0, 0))) := Lib.hid (blkAlloc w _)
  have NB : Hid (w.heap.size ≠ br) := Lib.hid (fun e => by have := blkLt h; omega)
  have NB2 : Hid (w.heap.size ≠ bx) := Lib.hid (fun e => by have := blkLt hx; omega)
  clear h hx
  go_enter Try.func34, Try.ntmps34
  go_wp2_with (first
    | (go_at_call 23;  (refine (Two_calls _ br x (by exact H1.out) hs).mono ?_); rintro e w1 ⟨rfl, h1, g1⟩; have J1 := Lib.hid h1; have g1' := Lib.hid g1; have K := Lib.hid (H2.out.chg g1 (fun e => NE.out e.symm)); have HB := Lib.hid (g1.obj HX.out (fun e => NB.out e)); have b1 := blkCell HB.out 1; clear h1 g1)
    | (go_at_call 68; refine (rNumber_small _ bx x 2 (by exact K.out) hs (by decide)).mono ?_; rintro e w2 ⟨rfl, h2, g2⟩; have J2 := Lib.hid h2; have g2' := Lib.hid g2; have J3 := Lib.hid (J1.out.chg g2 (fun e => NE.out e)); have HC := Lib.hid (g2.obj HB.out (fun e => NB2.out e)); have b2 := blkCell HC.out 1; clear h2 g2))
  have c0 := J2.out.cell0
  have c1 := J2.out.cell1
  go_quiet ((first | (go_at_call 29; exact quietL (Left_calls _ br _ (J3.out.drewN _))) | (go_at_call 30; exact quietL (Err_calls _ br _ (J3.out.drewN _)))))
  go_wp2
  go_ret
  refine ⟨rfl, (numF x 2).2, ?_, J3.out, J2.out, ?_⟩
  · exact numF_size x 2
  · exact  ((((Chg.refl (fun k => k = br ∨ k = bx) w).alloc _).trans g1'.out (fun k hk => .inl (.inl hk))).trans g2'.out (fun k hk => .inl (.inr hk))).drewN _

set_option maxRecDepth 100000 in
theorem read2 (w : World) (br bx : Nat) (x : RS) (k n : Int) (t : ByteArray) (hk : k % 8 = 2) (hk0 : 0 ≤ k ∧ k ≤ 255) (h : RdAt w 59 br x) (hx : RdAt w 62 bx x) (hs : x.1.size ≤ 140737488351232) :
    Calls Try.prog 34 #[.pointer (some ⟨br, 0, none⟩), .pointer (some ⟨bx, 0, none⟩), .agg #[.int .u8 k, .int .i64 n, .string t]] w fun e w' => e = .returned (.bool true) ∧ ∃ y : RS, y.1.size ≤ x.1.size ∧ RdAt w' 59 br y ∧ RdAt w' 62 bx y ∧ Chg (fun k => k = br ∨ k = bx) w w' := by
  have NE : Hid (br ≠ bx) := Lib.hid (blkNe h hx (by decide))
  have H1 : Hid (RdAt (w.alloc (.cells #[.int .u8 k, .int .i64 n, .string t] 31)) 59 br x) := Lib.hid (blkOld h _)
  have H2 : Hid (RdAt (w.alloc (.cells #[.int .u8 k, .int .i64 n, .string t] 31)) 62 bx x) := Lib.hid (blkOld hx _)
  have HX : Hid ((w.alloc (.cells #[.int .u8 k, .int .i64 n, .string t] 31)).heap[w.heap.size]? = some (.cells #[.int .u8 k, .int .i64 n, .string t] 31 (0, 0))) := Lib.hid (blkAlloc w _)
  have NB : Hid (w.heap.size ≠ br) := Lib.hid (fun e => by have := blkLt h; omega)
  have NB2 : Hid (w.heap.size ≠ bx) := Lib.hid (fun e => by have := blkLt hx; omega)
  clear h hx
  go_enter Try.func34, Try.ntmps34
  go_wp2_with (first
    | (go_at_call 24;  (refine (Four_calls _ br x (by exact H1.out) hs).mono ?_); rintro e w1 ⟨rfl, h1, g1⟩; have J1 := Lib.hid h1; have g1' := Lib.hid g1; have K := Lib.hid (H2.out.chg g1 (fun e => NE.out e.symm)); have HB := Lib.hid (g1.obj HX.out (fun e => NB.out e)); have b1 := blkCell HB.out 1; clear h1 g1)
    | (go_at_call 68; refine (rNumber_small _ bx x 4 (by exact K.out) hs (by decide)).mono ?_; rintro e w2 ⟨rfl, h2, g2⟩; have J2 := Lib.hid h2; have g2' := Lib.hid g2; have J3 := Lib.hid (J1.out.chg g2 (fun e => NE.out e)); have HC := Lib.hid (g2.obj HB.out (fun e => NB2.out e)); have b2 := blkCell HC.out 1; clear h2 g2))
  have c0 := J2.out.cell0
  have c1 := J2.out.cell1
  go_quiet ((first | (go_at_call 29; exact quietL (Left_calls _ br _ (J3.out.drewN _))) | (go_at_call 30; exact quietL (Err_calls _ br _ (J3.out.drewN _)))))
  go_wp2
  go_ret
  refine ⟨rfl, (numF x 4).2, ?_, J3.out, J2.out, ?_⟩
  · exact numF_size x 4
  · exact  ((((Chg.refl (fun k => k = br ∨ k = bx) w).alloc _).trans g1'.out (fun k hk => .inl (.inl hk))).trans g2'.out (fun k hk => .inl (.inr hk))).drewN _

set_option maxRecDepth 100000 in
theorem read3 (w : World) (br bx : Nat) (x : RS) (k n : Int) (t : ByteArray) (hk : k % 8 = 3) (hk0 : 0 ≤ k ∧ k ≤ 255) (h : RdAt w 59 br x) (hx : RdAt w 62 bx x) (hs : x.1.size ≤ 140737488351232) :
    Calls Try.prog 34 #[.pointer (some ⟨br, 0, none⟩), .pointer (some ⟨bx, 0, none⟩), .agg #[.int .u8 k, .int .i64 n, .string t]] w fun e w' => e = .returned (.bool true) ∧ ∃ y : RS, y.1.size ≤ x.1.size ∧ RdAt w' 59 br y ∧ RdAt w' 62 bx y ∧ Chg (fun k => k = br ∨ k = bx) w w' := by
  have NE : Hid (br ≠ bx) := Lib.hid (blkNe h hx (by decide))
  have H1 : Hid (RdAt (w.alloc (.cells #[.int .u8 k, .int .i64 n, .string t] 31)) 59 br x) := Lib.hid (blkOld h _)
  have H2 : Hid (RdAt (w.alloc (.cells #[.int .u8 k, .int .i64 n, .string t] 31)) 62 bx x) := Lib.hid (blkOld hx _)
  have HX : Hid ((w.alloc (.cells #[.int .u8 k, .int .i64 n, .string t] 31)).heap[w.heap.size]? = some (.cells #[.int .u8 k, .int .i64 n, .string t] 31 (0, 0))) := Lib.hid (blkAlloc w _)
  have NB : Hid (w.heap.size ≠ br) := Lib.hid (fun e => by have := blkLt h; omega)
  have NB2 : Hid (w.heap.size ≠ bx) := Lib.hid (fun e => by have := blkLt hx; omega)
  clear h hx
  go_enter Try.func34, Try.ntmps34
  go_wp2_with (first
    | (go_at_call 25;  (refine (Eight_calls _ br x (by exact H1.out) hs).mono ?_); rintro e w1 ⟨rfl, h1, g1⟩; have J1 := Lib.hid h1; have g1' := Lib.hid g1; have K := Lib.hid (H2.out.chg g1 (fun e => NE.out e.symm)); have HB := Lib.hid (g1.obj HX.out (fun e => NB.out e)); have b1 := blkCell HB.out 1; clear h1 g1)
    | (go_at_call 68; refine (rNumber_calls _ bx x 8 (by exact K.out) hs).mono ?_; rw [show adjF x 8 = eightF x from if_pos rfl]; rintro e w2 ⟨rfl, h2, g2⟩; have J2 := Lib.hid h2; have g2' := Lib.hid g2; have J3 := Lib.hid (J1.out.chg g2 (fun e => NE.out e)); have HC := Lib.hid (g2.obj HB.out (fun e => NB2.out e)); have b2 := blkCell HC.out 1; clear h2 g2))
  have c0 := J2.out.cell0
  have c1 := J2.out.cell1
  go_quiet ((first | (go_at_call 29; exact quietL (Left_calls _ br _ (J3.out.drewN _))) | (go_at_call 30; exact quietL (Err_calls _ br _ (J3.out.drewN _)))))
  go_wp2
  go_ret
  refine ⟨rfl, (numF (eightF x) 8).2, ?_, J3.out, J2.out, ?_⟩
  · exact eightF_size x
  · exact  ((((Chg.refl (fun k => k = br ∨ k = bx) w).alloc _).trans g1'.out (fun k hk => .inl (.inl hk))).trans g2'.out (fun k hk => .inl (.inr hk))).drewN _

set_option maxRecDepth 100000 in
theorem read4 (w : World) (br bx : Nat) (x : RS) (k n : Int) (t : ByteArray) (hk : k % 8 = 4) (hk0 : 0 ≤ k ∧ k ≤ 255) (h : RdAt w 59 br x) (hx : RdAt w 62 bx x) (hs : x.1.size ≤ 140737488351232) :
    Calls Try.prog 34 #[.pointer (some ⟨br, 0, none⟩), .pointer (some ⟨bx, 0, none⟩), .agg #[.int .u8 k, .int .i64 n, .string t]] w fun e w' => e = .returned (.bool true) ∧ ∃ y : RS, y.1.size ≤ x.1.size ∧ RdAt w' 59 br y ∧ RdAt w' 62 bx y ∧ Chg (fun k => k = br ∨ k = bx) w w' := by
  have NE : Hid (br ≠ bx) := Lib.hid (blkNe h hx (by decide))
  have H1 : Hid (RdAt ((w.alloc (.cells #[.int .u8 k, .int .i64 n, .string t] 31)).drew) 59 br x) := Lib.hid (blkOld h _)
  have H2 : Hid (RdAt ((w.alloc (.cells #[.int .u8 k, .int .i64 n, .string t] 31)).drew) 62 bx x) := Lib.hid (blkOld hx _)
  have HX : Hid (((w.alloc (.cells #[.int .u8 k, .int .i64 n, .string t] 31)).drew).heap[w.heap.size]? = some (.cells #[.int .u8 k, .int .i64 n, .string t] 31 (0, 0))) := Lib.hid (blkAlloc w _)
  have NB : Hid (w.heap.size ≠ br) := Lib.hid (fun e => by have := blkLt h; omega)
  have NB2 : Hid (w.heap.size ≠ bx) := Lib.hid (fun e => by have := blkLt hx; omega)
  clear h hx
  go_enter Try.func34, Try.ntmps34
  go_wp2_with (fail)
  go_region_held3 (fun w' => w'.cell? ⟨w.heap.size, 1, none⟩ = some (.int .i64 n)) (first | go_keep | exact b1 | exact b2 | exact blkCell HX.out 1) (first
    | (go_at_call 26;  (refine (Text_calls _ br x n (by exact H1.out) hs).mono ?_); rintro e w1 ⟨rfl, h1, g1⟩; have J1 := Lib.hid h1; have g1' := Lib.hid g1; have K := Lib.hid (H2.out.chg g1 (fun e => NE.out e.symm)); have HB := Lib.hid (g1.obj HX.out (fun e => NB.out e)); have b1 := blkCell HB.out 1; clear h1 g1)
    | (go_at_call 69; refine (rText_calls _ bx x n (by exact K.out) hs).mono ?_; rintro e w2 ⟨rfl, h2, g2⟩; have J2 := Lib.hid h2; have g2' := Lib.hid g2; have J3 := Lib.hid (J1.out.chg g2 (fun e => NE.out e)); have HC := Lib.hid (g2.obj HB.out (fun e => NB2.out e)); have b2 := blkCell HC.out 1; clear h2 g2))
  go_wp2_with (fail)
  have c0 := J2.out.cell0
  have c1 := J2.out.cell1
  go_quiet ((first | (go_at_call 29; exact quietL (Left_calls _ br _ (J3.out.drewN _))) | (go_at_call 30; exact quietL (Err_calls _ br _ (J3.out.drewN _)))))
  go_wp2
  go_ret
  refine ⟨rfl, (textF x n).2, ?_, J3.out, J2.out, ?_⟩
  · exact textF_size x n
  · exact  ((((Chg.refl (fun k => k = br ∨ k = bx) w).alloc _).drew.trans g1'.out (fun k hk => .inl (.inl hk))).trans g2'.out (fun k hk => .inl (.inr hk))).drewN _

set_option maxRecDepth 100000 in
theorem read5 (w : World) (br bx : Nat) (x : RS) (k n : Int) (t : ByteArray) (hk : k % 8 = 5) (hk0 : 0 ≤ k ∧ k ≤ 255) (h : RdAt w 59 br x) (hx : RdAt w 62 bx x) (hs : x.1.size ≤ 140737488351232) :
    Calls Try.prog 34 #[.pointer (some ⟨br, 0, none⟩), .pointer (some ⟨bx, 0, none⟩), .agg #[.int .u8 k, .int .i64 n, .string t]] w fun e w' => e = .returned (.bool true) ∧ ∃ y : RS, y.1.size ≤ x.1.size ∧ RdAt w' 59 br y ∧ RdAt w' 62 bx y ∧ Chg (fun k => k = br ∨ k = bx) w w' := by
  have NE : Hid (br ≠ bx) := Lib.hid (blkNe h hx (by decide))
  have H1 : Hid (RdAt (w.alloc (.cells #[.int .u8 k, .int .i64 n, .string t] 31)) 59 br x) := Lib.hid (blkOld h _)
  have H2 : Hid (RdAt (w.alloc (.cells #[.int .u8 k, .int .i64 n, .string t] 31)) 62 bx x) := Lib.hid (blkOld hx _)
  have HX : Hid ((w.alloc (.cells #[.int .u8 k, .int .i64 n, .string t] 31)).heap[w.heap.size]? = some (.cells #[.int .u8 k, .int .i64 n, .string t] 31 (0, 0))) := Lib.hid (blkAlloc w _)
  have NB : Hid (w.heap.size ≠ br) := Lib.hid (fun e => by have := blkLt h; omega)
  have NB2 : Hid (w.heap.size ≠ bx) := Lib.hid (fun e => by have := blkLt hx; omega)
  clear h hx
  go_enter Try.func34, Try.ntmps34
  go_wp2_with (first
    | (go_at_call 27;  (refine (Hash_calls _ br x (by exact H1.out)).mono ?_); rintro e w1 ⟨rfl, h1, g1⟩; have J1 := Lib.hid h1; have g1' := Lib.hid g1; have K := Lib.hid (H2.out.chg g1 (fun e => NE.out e.symm)); have HB := Lib.hid (g1.obj HX.out (fun e => NB.out e)); have b1 := blkCell HB.out 1; clear h1 g1)
    | (go_at_call 70; refine (rRaw_calls _ bx x 32 (by exact K.out)).mono ?_; rintro e w2 ⟨rfl, h2, g2⟩; have J2 := Lib.hid h2; have g2' := Lib.hid g2; have J3 := Lib.hid (J1.out.chg g2 (fun e => NE.out e)); have HC := Lib.hid (g2.obj HB.out (fun e => NB2.out e)); have b2 := blkCell HC.out 1; clear h2 g2))
  have c0 := J2.out.cell0
  have c1 := J2.out.cell1
  go_quiet ((first | (go_at_call 29; exact quietL (Left_calls _ br _ (J3.out.drewN _))) | (go_at_call 30; exact quietL (Err_calls _ br _ (J3.out.drewN _)))))
  go_wp2
  go_ret
  refine ⟨rfl, (rawF x 32).2, ?_, J3.out, J2.out, ?_⟩
  · exact (rawF_size x 32).2
  · exact  ((((Chg.refl (fun k => k = br ∨ k = bx) w).alloc _).trans g1'.out (fun k hk => .inl (.inl hk))).trans g2'.out (fun k hk => .inl (.inr hk))).drewN _

set_option maxRecDepth 100000 in
theorem read6 (w : World) (br bx : Nat) (x : RS) (k n : Int) (t : ByteArray) (hk : k % 8 = 6) (hk0 : 0 ≤ k ∧ k ≤ 255) (h : RdAt w 59 br x) (hx : RdAt w 62 bx x) (hs : x.1.size ≤ 140737488351232) :
    Calls Try.prog 34 #[.pointer (some ⟨br, 0, none⟩), .pointer (some ⟨bx, 0, none⟩), .agg #[.int .u8 k, .int .i64 n, .string t]] w fun e w' => e = .returned (.bool true) ∧ ∃ y : RS, y.1.size ≤ x.1.size ∧ RdAt w' 59 br y ∧ RdAt w' 62 bx y ∧ Chg (fun k => k = br ∨ k = bx) w w' := by
  have NE : Hid (br ≠ bx) := Lib.hid (blkNe h hx (by decide))
  have H1 : Hid (RdAt ((w.alloc (.cells #[.int .u8 k, .int .i64 n, .string t] 31)).drew) 59 br x) := Lib.hid (blkOld h _)
  have H2 : Hid (RdAt ((w.alloc (.cells #[.int .u8 k, .int .i64 n, .string t] 31)).drew) 62 bx x) := Lib.hid (blkOld hx _)
  have HX : Hid (((w.alloc (.cells #[.int .u8 k, .int .i64 n, .string t] 31)).drew).heap[w.heap.size]? = some (.cells #[.int .u8 k, .int .i64 n, .string t] 31 (0, 0))) := Lib.hid (blkAlloc w _)
  have NB : Hid (w.heap.size ≠ br) := Lib.hid (fun e => by have := blkLt h; omega)
  have NB2 : Hid (w.heap.size ≠ bx) := Lib.hid (fun e => by have := blkLt hx; omega)
  clear h hx
  go_enter Try.func34, Try.ntmps34
  go_wp2_with (fail)
  go_region_held3 (fun w' => w'.cell? ⟨w.heap.size, 1, none⟩ = some (.int .i64 n)) (first | go_keep | exact b1 | exact b2 | exact blkCell HX.out 1) (first
    | (go_at_call 28;  (refine (Raw_calls _ br x n (by exact H1.out)).mono ?_); rintro e w1 ⟨rfl, h1, g1⟩; have J1 := Lib.hid h1; have g1' := Lib.hid g1; have K := Lib.hid (H2.out.chg g1 (fun e => NE.out e.symm)); have HB := Lib.hid (g1.obj HX.out (fun e => NB.out e)); have b1 := blkCell HB.out 1; clear h1 g1)
    | (go_at_call 70; refine (rRaw_calls _ bx x n (by exact K.out)).mono ?_; rintro e w2 ⟨rfl, h2, g2⟩; have J2 := Lib.hid h2; have g2' := Lib.hid g2; have J3 := Lib.hid (J1.out.chg g2 (fun e => NE.out e)); have HC := Lib.hid (g2.obj HB.out (fun e => NB2.out e)); have b2 := blkCell HC.out 1; clear h2 g2))
  go_wp2_with (fail)
  have c0 := J2.out.cell0
  have c1 := J2.out.cell1
  go_quiet ((first | (go_at_call 29; exact quietL (Left_calls _ br _ (J3.out.drewN _))) | (go_at_call 30; exact quietL (Err_calls _ br _ (J3.out.drewN _)))))
  go_wp2
  go_ret
  refine ⟨rfl, (rawF x n).2, ?_, J3.out, J2.out, ?_⟩
  · exact (rawF_size x n).2
  · exact  ((((Chg.refl (fun k => k = br ∨ k = bx) w).alloc _).drew.trans g1'.out (fun k hk => .inl (.inl hk))).trans g2'.out (fun k hk => .inl (.inr hk))).drewN _

set_option maxRecDepth 100000 in
theorem read7 (w : World) (br bx : Nat) (x : RS) (k n : Int) (t : ByteArray) (hk : k % 8 = 7) (hk0 : 0 ≤ k ∧ k ≤ 255) (h : RdAt w 59 br x) (hx : RdAt w 62 bx x) (hs : x.1.size ≤ 140737488351232) :
    Calls Try.prog 34 #[.pointer (some ⟨br, 0, none⟩), .pointer (some ⟨bx, 0, none⟩), .agg #[.int .u8 k, .int .i64 n, .string t]] w fun e w' => e = .returned (.bool true) ∧ ∃ y : RS, y.1.size ≤ x.1.size ∧ RdAt w' 59 br y ∧ RdAt w' 62 bx y ∧ Chg (fun k => k = br ∨ k = bx) w w' := by
  have NE : Hid (br ≠ bx) := Lib.hid (blkNe h hx (by decide))
  have H1 : Hid (RdAt (w.alloc (.cells #[.int .u8 k, .int .i64 n, .string t] 31)) 59 br x) := Lib.hid (blkOld h _)
  have H2 : Hid (RdAt (w.alloc (.cells #[.int .u8 k, .int .i64 n, .string t] 31)) 62 bx x) := Lib.hid (blkOld hx _)
  have HX : Hid ((w.alloc (.cells #[.int .u8 k, .int .i64 n, .string t] 31)).heap[w.heap.size]? = some (.cells #[.int .u8 k, .int .i64 n, .string t] 31 (0, 0))) := Lib.hid (blkAlloc w _)
  have NB : Hid (w.heap.size ≠ br) := Lib.hid (fun e => by have := blkLt h; omega)
  have NB2 : Hid (w.heap.size ≠ bx) := Lib.hid (fun e => by have := blkLt hx; omega)
  clear h hx
  go_enter Try.func34, Try.ntmps34
  go_wp2_with (first
    | (go_at_call 21;  (refine (Fail_calls _ br x _ (by exact H1.out)).mono ?_); rintro e w1 ⟨rfl, h1, g1⟩; have J1 := Lib.hid h1; have g1' := Lib.hid g1; have K := Lib.hid (H2.out.chg g1 (fun e => NE.out e.symm)); have HB := Lib.hid (g1.obj HX.out (fun e => NB.out e)); have b1 := blkCell HB.out 1; clear h1 g1)
    | (go_at_call 71; refine (rFail_calls _ bx x _ (by exact K.out)).mono ?_; rintro e w2 ⟨rfl, h2, g2⟩; have J2 := Lib.hid h2; have g2' := Lib.hid g2; have J3 := Lib.hid (J1.out.chg g2 (fun e => NE.out e)); have HC := Lib.hid (g2.obj HB.out (fun e => NB2.out e)); have b2 := blkCell HC.out 1; clear h2 g2))
  have c0 := J2.out.cell0
  have c1 := J2.out.cell1
  go_quiet ((first | (go_at_call 29; exact quietL (Left_calls _ br _ (J3.out.drewN _))) | (go_at_call 30; exact quietL (Err_calls _ br _ (J3.out.drewN _)))))
  go_wp2
  go_ret
  refine ⟨rfl, _, ?_, J3.out, J2.out, ?_⟩
  · exact (by rw [failF_left]; exact Nat.le_refl _)
  · exact  ((((Chg.refl (fun k => k = br ∨ k = bx) w).alloc _).trans g1'.out (fun k hk => .inl (.inl hk))).trans g2'.out (fun k hk => .inl (.inr hk))).drewN _

theorem read_calls (w : World) (br bx : Nat) (x : RS) (k n : Int) (t : ByteArray) (hk0 : 0 ≤ k ∧ k ≤ 255) (h : RdAt w 59 br x) (hx : RdAt w 62 bx x) (hs : x.1.size ≤ 140737488351232) :
    Calls Try.prog 34 #[.pointer (some ⟨br, 0, none⟩), .pointer (some ⟨bx, 0, none⟩), .agg #[.int .u8 k, .int .i64 n, .string t]] w fun e w' => e = .returned (.bool true) ∧ ∃ y : RS, y.1.size ≤ x.1.size ∧ RdAt w' 59 br y ∧ RdAt w' 62 bx y ∧ Chg (fun k => k = br ∨ k = bx) w w' := by
  have hk : k % 8 = 0 ∨ k % 8 = 1 ∨ k % 8 = 2 ∨ k % 8 = 3 ∨ k % 8 = 4 ∨ k % 8 = 5 ∨ k % 8 = 6 ∨ k % 8 = 7 := by omega
  rcases hk with hk | hk | hk | hk | hk | hk | hk | hk
  · exact read0 w br bx x k n t hk hk0 h hx hs
  · exact read1 w br bx x k n t hk hk0 h hx hs
  · exact read2 w br bx x k n t hk hk0 h hx hs
  · exact read3 w br bx x k n t hk hk0 h hx hs
  · exact read4 w br bx x k n t hk hk0 h hx hs
  · exact read5 w br bx x k n t hk hk0 h hx hs
  · exact read6 w br bx x k n t hk hk0 h hx hs
  · exact read7 w br bx x k n t hk hk0 h hx hs

end Go.Proofs.Ytjlkflbkejpcaaa