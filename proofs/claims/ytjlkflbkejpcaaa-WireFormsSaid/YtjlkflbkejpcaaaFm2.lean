/- ReadAsk and ReadReply of wire and of ostlerref19. -/
import Derived.Test.YtjlkflbkejpcaaaFmF
import Derived.Test.YtjlkflbkejpcaaaFm1
import Derived.Test.YtjlkflbkejpcaaaRd2
import Derived.Test.YtjlkflbkejpcaaaRr2
namespace Go.Proofs.Ytjlkflbkejpcaaa
open Go.RowKit

/-- The block b holds a reader that was made behind W; nothing of W has turned. -/
structure RMade (T : TypeId) (W w : World) (b : Nat) (x : RS) : Prop where
  rd : RdAt w T b x
  bb : W.heap.size ≤ b
  ch : Chg (fun _ => False) W w
  le : x.1.size ≤ 140737488351232
theorem RMade.fresh (T : TypeId) (W : World) (s : ByteArray) (hs : s.size ≤ 140737488351232) : RMade T W (W.alloc (.cells #[.string s, .int .i64 0] T)) W.heap.size (s, 0) :=
  ⟨blkAlloc W _, Nat.le_refl _, (Chg.refl _ W).alloc _, hs⟩
theorem RMade.step {T : TypeId} {W w w1 : World} {b : Nat} {x y : RS} (h : RMade T W w b x) (h1 : RdAt w1 T b y) (hc : Chg (· = b) w w1) (hl : y.1.size ≤ x.1.size) : RMade T W w1 b y :=
  ⟨h1, h.bb, h.ch.trans hc (fun k e => .inr (by rw [e]; exact h.bb)), Nat.le_trans hl h.le⟩
theorem RMade.set {T : TypeId} {W w : World} {b : Nat} {x : RS} (h : RMade T W w b x) {g : Nat} (hg : b ≠ g) (hw : W.heap.size ≤ g) (i : Nat) (u : Value) : RMade T W (w.setCell ⟨g, i, none⟩ u) b x :=
  ⟨h.rd.chg (S := fun k => k = g) ((Chg.refl (fun k => k = g) w).setCell (p := ⟨g, i, none⟩) (.inl rfl) u) hg, h.bb, h.ch.setCell (.inr hw) u, h.le⟩
theorem RMade.kept {T : TypeId} {W w w1 : World} {b : Nat} {x : RS} (h : RMade T W w b x) (hc : Chg (fun _ => False) w w1) : RMade T W w1 b x :=
  ⟨h.rd.chg hc (fun e => e), h.bb, h.ch.trans hc (fun _ e => e.elim), h.le⟩
theorem textF_size (x : RS) (m : Int) : (textF x m).2.1.size ≤ x.1.size := by
  obtain ⟨z, hz⟩ : ∃ z, (if (if m < 0 then 0 else m) < (numF x 2).1 then failF (numF x 2).2 4 else (numF x 2).2) = z := ⟨_, rfl⟩
  have h1 : z.1.size ≤ x.1.size := by
    rw [← hz]
    obtain ⟨mm, hmm⟩ : ∃ mm : Int, (if m < 0 then 0 else m) = mm := ⟨_, rfl⟩
    rw [hmm]
    split
    · rw [failF_left]; exact numF_size x 2
    · exact numF_size x 2
  have h2 := (rawF_size z (numF x 2).1).2
  unfold textF
  by_cases hx : x.2 ≠ 0
  · rw [if_pos hx]
    exact Nat.le_refl _
  · rw [if_neg hx]
    simp only [hz]
    by_cases ht : (rawF z (numF x 2).1).2.2 ≠ 0
    · rw [if_pos ht]
      exact Nat.le_refl _
    · rw [if_neg ht]
      exact Nat.le_trans h2 h1
/-- Four cells written anew. -/
theorem box4 {w : World} {g : Nat} {a b c d : Value} {T : TypeId} (h : w.heap[g]? = some (.cells #[a, b, c, d] T (0, 0))) (x y z u : Value) :
    ((((w.setCell ⟨g, 0, none⟩ x).setCell ⟨g, 1, none⟩ y).setCell ⟨g, 2, none⟩ z).setCell ⟨g, 3, none⟩ u).heap[g]? = some (.cells #[x, y, z, u] T (0, 0)) := by
  simpa using blkSet (blkSet (blkSet (blkSet h 0 x) 1 y) 2 z) 3 u
theorem endF_left (x : RS) : (endF x).1 = x.1 := by
  unfold endF
  split
  · exact failF_left x 3
  · rfl
theorem zByte {W w : World} {b : Nat} {x y : RS} {v : Int} (h : RMade 59 W w b x) (hy : numF x 1 = (v, y)) :
    Calls Try.prog 22 #[.pointer (some ⟨b, 0, none⟩)] w fun e w' => e = .returned (.int .i64 v) ∧ RMade 59 W w' b y ∧ Chg (· = b) w w' := by
  refine (Byte_calls w b x h.rd h.le).mono ?_
  rintro e w' ⟨rfl, h1, h2⟩
  rw [hy] at h1 ⊢
  exact ⟨rfl, h.step h1 h2 (by have := numF_size x 1; rw [hy] at this; exact this), h2⟩
theorem zTwo {W w : World} {b : Nat} {x y : RS} {v : Int} (h : RMade 59 W w b x) (hy : numF x 2 = (v, y)) :
    Calls Try.prog 23 #[.pointer (some ⟨b, 0, none⟩)] w fun e w' => e = .returned (.int .i64 v) ∧ RMade 59 W w' b y ∧ Chg (· = b) w w' := by
  refine (Two_calls w b x h.rd h.le).mono ?_
  rintro e w' ⟨rfl, h1, h2⟩
  rw [hy] at h1 ⊢
  exact ⟨rfl, h.step h1 h2 (by have := numF_size x 2; rw [hy] at this; exact this), h2⟩
theorem zFour {W w : World} {b : Nat} {x y : RS} {v : Int} (h : RMade 59 W w b x) (hy : numF x 4 = (v, y)) :
    Calls Try.prog 24 #[.pointer (some ⟨b, 0, none⟩)] w fun e w' => e = .returned (.int .i64 v) ∧ RMade 59 W w' b y ∧ Chg (· = b) w w' := by
  refine (Four_calls w b x h.rd h.le).mono ?_
  rintro e w' ⟨rfl, h1, h2⟩
  rw [hy] at h1 ⊢
  exact ⟨rfl, h.step h1 h2 (by have := numF_size x 4; rw [hy] at this; exact this), h2⟩
theorem zText {W w : World} {b : Nat} {x y : RS} {v : ByteArray} {m : Int} (h : RMade 59 W w b x) (hy : textF x m = (v, y)) :
    Calls Try.prog 26 #[.pointer (some ⟨b, 0, none⟩), .int .i64 m] w fun e w' => e = .returned (.string v) ∧ RMade 59 W w' b y ∧ Chg (· = b) w w' := by
  refine (Text_calls w b x m h.rd h.le).mono ?_
  rintro e w' ⟨rfl, h1, h2⟩
  rw [hy] at h1 ⊢
  exact ⟨rfl, h.step h1 h2 (by have := textF_size x m; rw [hy] at this; exact this), h2⟩
theorem yNum1 {W w : World} {b : Nat} {x y : RS} {v : Int} (h : RMade 62 W w b x) (hy : numF x 1 = (v, y)) :
    Calls Try.prog 68 #[.pointer (some ⟨b, 0, none⟩), .int .i64 1] w fun e w' => e = .returned (.int .i64 v) ∧ RMade 62 W w' b y ∧ Chg (· = b) w w' := by
  refine (rNumber_calls w b x 1 h.rd h.le).mono ?_
  rintro e w' ⟨rfl, h1, h2⟩
  rw [show adjF x 1 = x from rfl, hy] at h1 ⊢
  exact ⟨rfl, h.step h1 h2 (by have := numF_size x 1; rw [hy] at this; exact this), h2⟩
theorem yNum2 {W w : World} {b : Nat} {x y : RS} {v : Int} (h : RMade 62 W w b x) (hy : numF x 2 = (v, y)) :
    Calls Try.prog 68 #[.pointer (some ⟨b, 0, none⟩), .int .i64 2] w fun e w' => e = .returned (.int .i64 v) ∧ RMade 62 W w' b y ∧ Chg (· = b) w w' := by
  refine (rNumber_calls w b x 2 h.rd h.le).mono ?_
  rintro e w' ⟨rfl, h1, h2⟩
  rw [show adjF x 2 = x from rfl, hy] at h1 ⊢
  exact ⟨rfl, h.step h1 h2 (by have := numF_size x 2; rw [hy] at this; exact this), h2⟩
theorem yNum4 {W w : World} {b : Nat} {x y : RS} {v : Int} (h : RMade 62 W w b x) (hy : numF x 4 = (v, y)) :
    Calls Try.prog 68 #[.pointer (some ⟨b, 0, none⟩), .int .i64 4] w fun e w' => e = .returned (.int .i64 v) ∧ RMade 62 W w' b y ∧ Chg (· = b) w w' := by
  refine (rNumber_calls w b x 4 h.rd h.le).mono ?_
  rintro e w' ⟨rfl, h1, h2⟩
  rw [show adjF x 4 = x from rfl, hy] at h1 ⊢
  exact ⟨rfl, h.step h1 h2 (by have := numF_size x 4; rw [hy] at this; exact this), h2⟩
theorem yText {W w : World} {b : Nat} {x y : RS} {v : ByteArray} {m : Int} (h : RMade 62 W w b x) (hy : textF x m = (v, y)) :
    Calls Try.prog 69 #[.pointer (some ⟨b, 0, none⟩), .int .i64 m] w fun e w' => e = .returned (.string v) ∧ RMade 62 W w' b y ∧ Chg (· = b) w w' := by
  refine (rText_calls w b x m h.rd h.le).mono ?_
  rintro e w' ⟨rfl, h1, h2⟩
  rw [hy] at h1 ⊢
  exact ⟨rfl, h.step h1 h2 (by have := textF_size x m; rw [hy] at this; exact this), h2⟩
theorem zEnd {W w : World} {b : Nat} {x : RS} {er : Int} (h : RMade 59 W w b x) (hy : (endF x).2 = er) :
    Calls Try.prog 31 #[.pointer (some ⟨b, 0, none⟩)] w fun e w' => e = .returned (.int .i64 er) ∧ RMade 59 W w' b (endF x) ∧ Chg (· = b) w w' := by
  refine (End_calls w b x h.rd).mono ?_
  rintro e w' ⟨rfl, h1, h2⟩
  rw [hy]
  exact ⟨rfl, h.step h1 h2 (by rw [endF_left]; exact Nat.le_refl _), h2⟩
theorem yEnd {W w : World} {b : Nat} {x : RS} {er : Int} (h : RMade 62 W w b x) (hy : (endF x).2 = er) :
    Calls Try.prog 35 #[.pointer (some ⟨b, 0, none⟩)] w fun e w' => e = .returned (.int .i64 er) ∧ RMade 62 W w' b (endF x) ∧ Chg (· = b) w w' := by
  refine (rEnd_calls w b x h.rd).mono ?_
  rintro e w' ⟨rfl, h1, h2⟩
  rw [hy]
  exact ⟨rfl, h.step h1 h2 (by rw [endF_left]; exact Nat.le_refl _), h2⟩
set_option maxRecDepth 100000 in
theorem ReadAsk_e (w : World) (s : ByteArray) (hs : s.size ≤ 140737488351232) (v1 v2 v4 v5 : Int) (v3 : ByteArray) (er : Int) (y1 y2 y3 y4 y5 : RS) (h1 : numF (s, 0) 1 = (v1, y1)) (h2 : numF y1 2 = (v2, y2)) (h3 : textF y2 64 = (v3, y3)) (h4 : numF y3 4 = (v4, y4)) (h5 : numF y4 2 = (v5, y5)) (h6 : (endF y5).2 = er) (he : (er != 0) = true) :
    Calls Try.prog 51 #[.string s] w fun e w' => e = .returned (.tuple #[.agg #[.int .i64 0, .string ⟨#[]⟩, .int .i64 0, .int .i64 0], .int .i64 3]) ∧ Chg (fun _ => False) w w' := by
  have E1 := Lib.hid h1
  have E2 := Lib.hid h2
  have E3 := Lib.hid h3
  have E4 := Lib.hid h4
  have E5 := Lib.hid h5
  have E6 := Lib.hid h6
  clear h1 h2 h3 h4 h5 h6
  have HX := Lib.hid (blkAlloc w (.cells #[.int .i64 0, .string ⟨#[]⟩, .int .i64 0, .int .i64 0] 75))
  have HM : Hid (RMade 59 (w.alloc (.cells #[.int .i64 0, .string ⟨#[]⟩, .int .i64 0, .int .i64 0] 75)) ((w.alloc (.cells #[.int .i64 0, .string ⟨#[]⟩, .int .i64 0, .int .i64 0] 75)).alloc (.cells #[.string s, .int .i64 0] 59)) (w.heap.size + 1) (s, 0)) := Lib.hid (by have h := RMade.fresh 59 (w.alloc (.cells #[.int .i64 0, .string ⟨#[]⟩, .int .i64 0, .int .i64 0] 75)) s hs; rwa [show (w.alloc (.cells #[.int .i64 0, .string ⟨#[]⟩, .int .i64 0, .int .i64 0] 75)).heap.size = w.heap.size + 1 from by simp] at h)
  have HS : Hid ((w.alloc (.cells #[.int .i64 0, .string ⟨#[]⟩, .int .i64 0, .int .i64 0] 75)).heap.size = w.heap.size + 1) := Lib.hid (by simp)
  go_enter Try.func51, Try.ntmps51
  go_wp2_with fail
  refine (Read_calls _ s).mono ?_
  rintro e w1 ⟨rfl, rfl⟩
  go_wp2_with fail
  refine (zByte (W := (w.alloc (.cells #[.int .i64 0, .string ⟨#[]⟩, .int .i64 0, .int .i64 0] 75))) (by exact HM.out) E1.out).mono ?_
  rintro e w2 ⟨rfl, hm, hc⟩
  have HM := Lib.hid hm
  clear hm hc
  go_wp2_with fail
  refine (zTwo (W := (w.alloc (.cells #[.int .i64 0, .string ⟨#[]⟩, .int .i64 0, .int .i64 0] 75))) (by exact HM.out) E2.out).mono ?_
  rintro e w3 ⟨rfl, hm, hc⟩
  have HM := Lib.hid hm
  clear hm hc
  go_wp2_with fail
  refine (zText (m := 64) (W := (w.alloc (.cells #[.int .i64 0, .string ⟨#[]⟩, .int .i64 0, .int .i64 0] 75))) (by exact HM.out) E3.out).mono ?_
  rintro e w4 ⟨rfl, hm, hc⟩
  have HM := Lib.hid hm
  clear hm hc
  go_wp2_with fail
  refine (zFour (W := (w.alloc (.cells #[.int .i64 0, .string ⟨#[]⟩, .int .i64 0, .int .i64 0] 75))) (by exact HM.out) E4.out).mono ?_
  rintro e w5 ⟨rfl, hm, hc⟩
  have HM := Lib.hid hm
  clear hm hc
  go_wp2_with fail
  refine (zTwo (W := (w.alloc (.cells #[.int .i64 0, .string ⟨#[]⟩, .int .i64 0, .int .i64 0] 75))) (by exact HM.out) E5.out).mono ?_
  rintro e w6 ⟨rfl, hm, hc⟩
  have HM := Lib.hid hm
  clear hm hc
  have hlt : w.heap.size + 1 < w6.heap.size := blkLt HM.out.rd
  have HB := Lib.hid (blkAlloc w6 (.cells #[.int .i64 v2, .string v3, .int .i64 v4, .int .i64 v5] 75))
  have HM := Lib.hid (HM.out.kept ((Chg.refl _ w6).alloc (.cells #[.int .i64 v2, .string v3, .int .i64 v4, .int .i64 v5] 75)))
  go_wp2_with fail
  refine (zEnd (W := (w.alloc (.cells #[.int .i64 0, .string ⟨#[]⟩, .int .i64 0, .int .i64 0] 75))) (by exact HM.out) E6.out).mono ?_
  rintro e w7 ⟨rfl, hm, hc⟩
  have hb := hc.obj HB.out (by omega)
  have hx := hm.ch.obj HX.out (fun h => h)
  have hs1 : w.heap.size < w7.heap.size := blkLt hx
  have hs2 : w6.heap.size < w7.heap.size := blkLt hb
  obtain ⟨x0, x1, x2, x3⟩ := askCells hb
  obtain ⟨z0, z1, z2, z3⟩ := askCells hx
  have f0 := blkFree hx 0
  have f1 := blkFree hx 1
  have f2 := blkFree hx 2
  have f3 := blkFree hx 3
  have HCH := Lib.hid hm.ch
  have HBX := Lib.hid hb
  have HZX := Lib.hid hx
  clear hm hc hb hx
  obtain ⟨q0, q1, q2, q3⟩ := askCells (box4 HZX.out (.int .i64 0) (.string ⟨#[]⟩) (.int .i64 0) (.int .i64 0))
  go_wp2
  refine bodyPost_ret (v := .tuple #[.agg #[.int .i64 0, .string ⟨#[]⟩, .int .i64 0, .int .i64 0], .int .i64 3]) (by simp [results, go_sem, q0, q1, q2, q3]) rfl ⟨rfl, ?_⟩
  repeat (refine Chg.setCell ?_ (.inr (Nat.le_refl _)) _)
  exact HCH.out.kept
set_option maxRecDepth 100000 in
theorem ReadAsk_k (w : World) (s : ByteArray) (hs : s.size ≤ 140737488351232) (v1 v2 v4 v5 : Int) (v3 : ByteArray) (er : Int) (y1 y2 y3 y4 y5 : RS) (h1 : numF (s, 0) 1 = (v1, y1)) (h2 : numF y1 2 = (v2, y2)) (h3 : textF y2 64 = (v3, y3)) (h4 : numF y3 4 = (v4, y4)) (h5 : numF y4 2 = (v5, y5)) (h6 : (endF y5).2 = er) (he : (er != 0) = false) (hk : (v1 != 1) = true) :
    Calls Try.prog 51 #[.string s] w fun e w' => e = .returned (.tuple #[.agg #[.int .i64 0, .string ⟨#[]⟩, .int .i64 0, .int .i64 0], .int .i64 3]) ∧ Chg (fun _ => False) w w' := by
  have E1 := Lib.hid h1
  have E2 := Lib.hid h2
  have E3 := Lib.hid h3
  have E4 := Lib.hid h4
  have E5 := Lib.hid h5
  have E6 := Lib.hid h6
  clear h1 h2 h3 h4 h5 h6
  have HX := Lib.hid (blkAlloc w (.cells #[.int .i64 0, .string ⟨#[]⟩, .int .i64 0, .int .i64 0] 75))
  have HM : Hid (RMade 59 (w.alloc (.cells #[.int .i64 0, .string ⟨#[]⟩, .int .i64 0, .int .i64 0] 75)) ((w.alloc (.cells #[.int .i64 0, .string ⟨#[]⟩, .int .i64 0, .int .i64 0] 75)).alloc (.cells #[.string s, .int .i64 0] 59)) (w.heap.size + 1) (s, 0)) := Lib.hid (by have h := RMade.fresh 59 (w.alloc (.cells #[.int .i64 0, .string ⟨#[]⟩, .int .i64 0, .int .i64 0] 75)) s hs; rwa [show (w.alloc (.cells #[.int .i64 0, .string ⟨#[]⟩, .int .i64 0, .int .i64 0] 75)).heap.size = w.heap.size + 1 from by simp] at h)
  have HS : Hid ((w.alloc (.cells #[.int .i64 0, .string ⟨#[]⟩, .int .i64 0, .int .i64 0] 75)).heap.size = w.heap.size + 1) := Lib.hid (by simp)
  go_enter Try.func51, Try.ntmps51
  go_wp2_with fail
  refine (Read_calls _ s).mono ?_
  rintro e w1 ⟨rfl, rfl⟩
  go_wp2_with fail
  refine (zByte (W := (w.alloc (.cells #[.int .i64 0, .string ⟨#[]⟩, .int .i64 0, .int .i64 0] 75))) (by exact HM.out) E1.out).mono ?_
  rintro e w2 ⟨rfl, hm, hc⟩
  have HM := Lib.hid hm
  clear hm hc
  go_wp2_with fail
  refine (zTwo (W := (w.alloc (.cells #[.int .i64 0, .string ⟨#[]⟩, .int .i64 0, .int .i64 0] 75))) (by exact HM.out) E2.out).mono ?_
  rintro e w3 ⟨rfl, hm, hc⟩
  have HM := Lib.hid hm
  clear hm hc
  go_wp2_with fail
  refine (zText (m := 64) (W := (w.alloc (.cells #[.int .i64 0, .string ⟨#[]⟩, .int .i64 0, .int .i64 0] 75))) (by exact HM.out) E3.out).mono ?_
  rintro e w4 ⟨rfl, hm, hc⟩
  have HM := Lib.hid hm
  clear hm hc
  go_wp2_with fail
  refine (zFour (W := (w.alloc (.cells #[.int .i64 0, .string ⟨#[]⟩, .int .i64 0, .int .i64 0] 75))) (by exact HM.out) E4.out).mono ?_
  rintro e w5 ⟨rfl, hm, hc⟩
  have HM := Lib.hid hm
  clear hm hc
  go_wp2_with fail
  refine (zTwo (W := (w.alloc (.cells #[.int .i64 0, .string ⟨#[]⟩, .int .i64 0, .int .i64 0] 75))) (by exact HM.out) E5.out).mono ?_
  rintro e w6 ⟨rfl, hm, hc⟩
  have HM := Lib.hid hm
  clear hm hc
  have hlt : w.heap.size + 1 < w6.heap.size := blkLt HM.out.rd
  have HB := Lib.hid (blkAlloc w6 (.cells #[.int .i64 v2, .string v3, .int .i64 v4, .int .i64 v5] 75))
  have HM := Lib.hid (HM.out.kept ((Chg.refl _ w6).alloc (.cells #[.int .i64 v2, .string v3, .int .i64 v4, .int .i64 v5] 75)))
  go_wp2_with fail
  refine (zEnd (W := (w.alloc (.cells #[.int .i64 0, .string ⟨#[]⟩, .int .i64 0, .int .i64 0] 75))) (by exact HM.out) E6.out).mono ?_
  rintro e w7 ⟨rfl, hm, hc⟩
  have hb := hc.obj HB.out (by omega)
  have hx := hm.ch.obj HX.out (fun h => h)
  have hs1 : w.heap.size < w7.heap.size := blkLt hx
  have hs2 : w6.heap.size < w7.heap.size := blkLt hb
  obtain ⟨x0, x1, x2, x3⟩ := askCells hb
  obtain ⟨z0, z1, z2, z3⟩ := askCells hx
  have f0 := blkFree hx 0
  have f1 := blkFree hx 1
  have f2 := blkFree hx 2
  have f3 := blkFree hx 3
  have HCH := Lib.hid hm.ch
  have HBX := Lib.hid hb
  have HZX := Lib.hid hx
  clear hm hc hb hx
  obtain ⟨q0, q1, q2, q3⟩ := askCells (box4 HZX.out (.int .i64 0) (.string ⟨#[]⟩) (.int .i64 0) (.int .i64 0))
  go_wp2
  refine bodyPost_ret (v := .tuple #[.agg #[.int .i64 0, .string ⟨#[]⟩, .int .i64 0, .int .i64 0], .int .i64 3]) (by simp [results, go_sem, q0, q1, q2, q3]) rfl ⟨rfl, ?_⟩
  repeat (refine Chg.setCell ?_ (.inr (Nat.le_refl _)) _)
  exact HCH.out.kept
set_option maxRecDepth 100000 in
theorem ReadAsk_p (w : World) (s : ByteArray) (hs : s.size ≤ 140737488351232) (v1 v2 v4 v5 : Int) (v3 : ByteArray) (er : Int) (y1 y2 y3 y4 y5 : RS) (h1 : numF (s, 0) 1 = (v1, y1)) (h2 : numF y1 2 = (v2, y2)) (h3 : textF y2 64 = (v3, y3)) (h4 : numF y3 4 = (v4, y4)) (h5 : numF y4 2 = (v5, y5)) (h6 : (endF y5).2 = er) (he : (er != 0) = false) (hk : (v1 != 1) = false) (hp : (v3.toList == []) = true) :
    Calls Try.prog 51 #[.string s] w fun e w' => e = .returned (.tuple #[.agg #[.int .i64 0, .string ⟨#[]⟩, .int .i64 0, .int .i64 0], .int .i64 3]) ∧ Chg (fun _ => False) w w' := by
  have E1 := Lib.hid h1
  have E2 := Lib.hid h2
  have E3 := Lib.hid h3
  have E4 := Lib.hid h4
  have E5 := Lib.hid h5
  have E6 := Lib.hid h6
  clear h1 h2 h3 h4 h5 h6
  have hp2 := str_void hp
  have HX := Lib.hid (blkAlloc w (.cells #[.int .i64 0, .string ⟨#[]⟩, .int .i64 0, .int .i64 0] 75))
  have HM : Hid (RMade 59 (w.alloc (.cells #[.int .i64 0, .string ⟨#[]⟩, .int .i64 0, .int .i64 0] 75)) ((w.alloc (.cells #[.int .i64 0, .string ⟨#[]⟩, .int .i64 0, .int .i64 0] 75)).alloc (.cells #[.string s, .int .i64 0] 59)) (w.heap.size + 1) (s, 0)) := Lib.hid (by have h := RMade.fresh 59 (w.alloc (.cells #[.int .i64 0, .string ⟨#[]⟩, .int .i64 0, .int .i64 0] 75)) s hs; rwa [show (w.alloc (.cells #[.int .i64 0, .string ⟨#[]⟩, .int .i64 0, .int .i64 0] 75)).heap.size = w.heap.size + 1 from by simp] at h)
  have HS : Hid ((w.alloc (.cells #[.int .i64 0, .string ⟨#[]⟩, .int .i64 0, .int .i64 0] 75)).heap.size = w.heap.size + 1) := Lib.hid (by simp)
  go_enter Try.func51, Try.ntmps51
  go_wp2_with fail
  refine (Read_calls _ s).mono ?_
  rintro e w1 ⟨rfl, rfl⟩
  go_wp2_with fail
  refine (zByte (W := (w.alloc (.cells #[.int .i64 0, .string ⟨#[]⟩, .int .i64 0, .int .i64 0] 75))) (by exact HM.out) E1.out).mono ?_
  rintro e w2 ⟨rfl, hm, hc⟩
  have HM := Lib.hid hm
  clear hm hc
  go_wp2_with fail
  refine (zTwo (W := (w.alloc (.cells #[.int .i64 0, .string ⟨#[]⟩, .int .i64 0, .int .i64 0] 75))) (by exact HM.out) E2.out).mono ?_
  rintro e w3 ⟨rfl, hm, hc⟩
  have HM := Lib.hid hm
  clear hm hc
  go_wp2_with fail
  refine (zText (m := 64) (W := (w.alloc (.cells #[.int .i64 0, .string ⟨#[]⟩, .int .i64 0, .int .i64 0] 75))) (by exact HM.out) E3.out).mono ?_
  rintro e w4 ⟨rfl, hm, hc⟩
  have HM := Lib.hid hm
  clear hm hc
  go_wp2_with fail
  refine (zFour (W := (w.alloc (.cells #[.int .i64 0, .string ⟨#[]⟩, .int .i64 0, .int .i64 0] 75))) (by exact HM.out) E4.out).mono ?_
  rintro e w5 ⟨rfl, hm, hc⟩
  have HM := Lib.hid hm
  clear hm hc
  go_wp2_with fail
  refine (zTwo (W := (w.alloc (.cells #[.int .i64 0, .string ⟨#[]⟩, .int .i64 0, .int .i64 0] 75))) (by exact HM.out) E5.out).mono ?_
  rintro e w6 ⟨rfl, hm, hc⟩
  have HM := Lib.hid hm
  clear hm hc
  have hlt : w.heap.size + 1 < w6.heap.size := blkLt HM.out.rd
  have HB := Lib.hid (blkAlloc w6 (.cells #[.int .i64 v2, .string v3, .int .i64 v4, .int .i64 v5] 75))
  have HM := Lib.hid (HM.out.kept ((Chg.refl _ w6).alloc (.cells #[.int .i64 v2, .string v3, .int .i64 v4, .int .i64 v5] 75)))
  go_wp2_with fail
  refine (zEnd (W := (w.alloc (.cells #[.int .i64 0, .string ⟨#[]⟩, .int .i64 0, .int .i64 0] 75))) (by exact HM.out) E6.out).mono ?_
  rintro e w7 ⟨rfl, hm, hc⟩
  have hb := hc.obj HB.out (by omega)
  have hx := hm.ch.obj HX.out (fun h => h)
  have hs1 : w.heap.size < w7.heap.size := blkLt hx
  have hs2 : w6.heap.size < w7.heap.size := blkLt hb
  obtain ⟨x0, x1, x2, x3⟩ := askCells hb
  obtain ⟨z0, z1, z2, z3⟩ := askCells hx
  have f0 := blkFree hx 0
  have f1 := blkFree hx 1
  have f2 := blkFree hx 2
  have f3 := blkFree hx 3
  have HCH := Lib.hid hm.ch
  have HBX := Lib.hid hb
  have HZX := Lib.hid hx
  clear hm hc hb hx
  obtain ⟨q0, q1, q2, q3⟩ := askCells (box4 HZX.out (.int .i64 0) (.string ⟨#[]⟩) (.int .i64 0) (.int .i64 0))
  go_wp2
  refine bodyPost_ret (v := .tuple #[.agg #[.int .i64 0, .string ⟨#[]⟩, .int .i64 0, .int .i64 0], .int .i64 3]) (by simp [results, go_sem, q0, q1, q2, q3]) rfl ⟨rfl, ?_⟩
  repeat (refine Chg.setCell ?_ (.inr (Nat.le_refl _)) _)
  exact HCH.out.kept
set_option maxRecDepth 100000 in
theorem ReadAsk_ok (w : World) (s : ByteArray) (hs : s.size ≤ 140737488351232) (v1 v2 v4 v5 : Int) (v3 : ByteArray) (er : Int) (y1 y2 y3 y4 y5 : RS) (h1 : numF (s, 0) 1 = (v1, y1)) (h2 : numF y1 2 = (v2, y2)) (h3 : textF y2 64 = (v3, y3)) (h4 : numF y3 4 = (v4, y4)) (h5 : numF y4 2 = (v5, y5)) (h6 : (endF y5).2 = er) (he : (er != 0) = false) (hk : (v1 != 1) = false) (hp : (v3.toList == []) = false) :
    Calls Try.prog 51 #[.string s] w fun e w' => e = .returned (.tuple #[.agg #[.int .i64 v2, .string v3, .int .i64 v4, .int .i64 v5], .int .i64 0]) ∧ Chg (fun _ => False) w w' := by
  have E1 := Lib.hid h1
  have E2 := Lib.hid h2
  have E3 := Lib.hid h3
  have E4 := Lib.hid h4
  have E5 := Lib.hid h5
  have E6 := Lib.hid h6
  clear h1 h2 h3 h4 h5 h6
  have hp2 := str_full hp
  have HX := Lib.hid (blkAlloc w (.cells #[.int .i64 0, .string ⟨#[]⟩, .int .i64 0, .int .i64 0] 75))
  have HM : Hid (RMade 59 (w.alloc (.cells #[.int .i64 0, .string ⟨#[]⟩, .int .i64 0, .int .i64 0] 75)) ((w.alloc (.cells #[.int .i64 0, .string ⟨#[]⟩, .int .i64 0, .int .i64 0] 75)).alloc (.cells #[.string s, .int .i64 0] 59)) (w.heap.size + 1) (s, 0)) := Lib.hid (by have h := RMade.fresh 59 (w.alloc (.cells #[.int .i64 0, .string ⟨#[]⟩, .int .i64 0, .int .i64 0] 75)) s hs; rwa [show (w.alloc (.cells #[.int .i64 0, .string ⟨#[]⟩, .int .i64 0, .int .i64 0] 75)).heap.size = w.heap.size + 1 from by simp] at h)
  have HS : Hid ((w.alloc (.cells #[.int .i64 0, .string ⟨#[]⟩, .int .i64 0, .int .i64 0] 75)).heap.size = w.heap.size + 1) := Lib.hid (by simp)
  go_enter Try.func51, Try.ntmps51
  go_wp2_with fail
  refine (Read_calls _ s).mono ?_
  rintro e w1 ⟨rfl, rfl⟩
  go_wp2_with fail
  refine (zByte (W := (w.alloc (.cells #[.int .i64 0, .string ⟨#[]⟩, .int .i64 0, .int .i64 0] 75))) (by exact HM.out) E1.out).mono ?_
  rintro e w2 ⟨rfl, hm, hc⟩
  have HM := Lib.hid hm
  clear hm hc
  go_wp2_with fail
  refine (zTwo (W := (w.alloc (.cells #[.int .i64 0, .string ⟨#[]⟩, .int .i64 0, .int .i64 0] 75))) (by exact HM.out) E2.out).mono ?_
  rintro e w3 ⟨rfl, hm, hc⟩
  have HM := Lib.hid hm
  clear hm hc
  go_wp2_with fail
  refine (zText (m := 64) (W := (w.alloc (.cells #[.int .i64 0, .string ⟨#[]⟩, .int .i64 0, .int .i64 0] 75))) (by exact HM.out) E3.out).mono ?_
  rintro e w4 ⟨rfl, hm, hc⟩
  have HM := Lib.hid hm
  clear hm hc
  go_wp2_with fail
  refine (zFour (W := (w.alloc (.cells #[.int .i64 0, .string ⟨#[]⟩, .int .i64 0, .int .i64 0] 75))) (by exact HM.out) E4.out).mono ?_
  rintro e w5 ⟨rfl, hm, hc⟩
  have HM := Lib.hid hm
  clear hm hc
  go_wp2_with fail
  refine (zTwo (W := (w.alloc (.cells #[.int .i64 0, .string ⟨#[]⟩, .int .i64 0, .int .i64 0] 75))) (by exact HM.out) E5.out).mono ?_
  rintro e w6 ⟨rfl, hm, hc⟩
  have HM := Lib.hid hm
  clear hm hc
  have hlt : w.heap.size + 1 < w6.heap.size := blkLt HM.out.rd
  have HB := Lib.hid (blkAlloc w6 (.cells #[.int .i64 v2, .string v3, .int .i64 v4, .int .i64 v5] 75))
  have HM := Lib.hid (HM.out.kept ((Chg.refl _ w6).alloc (.cells #[.int .i64 v2, .string v3, .int .i64 v4, .int .i64 v5] 75)))
  go_wp2_with fail
  refine (zEnd (W := (w.alloc (.cells #[.int .i64 0, .string ⟨#[]⟩, .int .i64 0, .int .i64 0] 75))) (by exact HM.out) E6.out).mono ?_
  rintro e w7 ⟨rfl, hm, hc⟩
  have hb := hc.obj HB.out (by omega)
  have hx := hm.ch.obj HX.out (fun h => h)
  have hs1 : w.heap.size < w7.heap.size := blkLt hx
  have hs2 : w6.heap.size < w7.heap.size := blkLt hb
  obtain ⟨x0, x1, x2, x3⟩ := askCells hb
  obtain ⟨z0, z1, z2, z3⟩ := askCells hx
  have f0 := blkFree hx 0
  have f1 := blkFree hx 1
  have f2 := blkFree hx 2
  have f3 := blkFree hx 3
  have HCH := Lib.hid hm.ch
  have HBX := Lib.hid hb
  have HZX := Lib.hid hx
  clear hm hc hb hx
  obtain ⟨q0, q1, q2, q3⟩ := askCells (box4 HZX.out (.int .i64 v2) (.string v3) (.int .i64 v4) (.int .i64 v5))
  go_wp2
  refine bodyPost_ret (v := .tuple #[.agg #[.int .i64 v2, .string v3, .int .i64 v4, .int .i64 v5], .int .i64 0]) (by simp [results, go_sem, q0, q1, q2, q3]) rfl ⟨rfl, ?_⟩
  repeat (refine Chg.setCell ?_ (.inr (Nat.le_refl _)) _)
  exact HCH.out.kept
set_option maxRecDepth 100000 in
theorem rReadAsk_e (w : World) (s : ByteArray) (hs : s.size ≤ 140737488351232) (v1 v2 v4 v5 : Int) (v3 : ByteArray) (er : Int) (y1 y2 y3 y4 y5 : RS) (h1 : numF (s, 0) 1 = (v1, y1)) (h2 : numF y1 2 = (v2, y2)) (h3 : textF y2 64 = (v3, y3)) (h4 : numF y3 4 = (v4, y4)) (h5 : numF y4 2 = (v5, y5)) (h6 : (endF y5).2 = er) (he : (er != 0) = true) :
    Calls Try.prog 52 #[.string s] w fun e w' => e = .returned (.tuple #[.agg #[.int .i64 0, .string ⟨#[]⟩, .int .i64 0, .int .i64 0], .int .i64 3]) ∧ Chg (fun _ => False) w w' := by
  have E1 := Lib.hid h1
  have E2 := Lib.hid h2
  have E3 := Lib.hid h3
  have E4 := Lib.hid h4
  have E5 := Lib.hid h5
  have E6 := Lib.hid h6
  clear h1 h2 h3 h4 h5 h6
  have HX := Lib.hid (blkAlloc w (.cells #[.int .i64 0, .string ⟨#[]⟩, .int .i64 0, .int .i64 0] 75))
  have HM : Hid (RMade 62 (w.alloc (.cells #[.int .i64 0, .string ⟨#[]⟩, .int .i64 0, .int .i64 0] 75)) ((w.alloc (.cells #[.int .i64 0, .string ⟨#[]⟩, .int .i64 0, .int .i64 0] 75)).alloc (.cells #[.string s, .int .i64 0] 62)) (w.heap.size + 1) (s, 0)) := Lib.hid (by have h := RMade.fresh 62 (w.alloc (.cells #[.int .i64 0, .string ⟨#[]⟩, .int .i64 0, .int .i64 0] 75)) s hs; rwa [show (w.alloc (.cells #[.int .i64 0, .string ⟨#[]⟩, .int .i64 0, .int .i64 0] 75)).heap.size = w.heap.size + 1 from by simp] at h)
  have HS : Hid ((w.alloc (.cells #[.int .i64 0, .string ⟨#[]⟩, .int .i64 0, .int .i64 0] 75)).heap.size = w.heap.size + 1) := Lib.hid (by simp)
  go_enter Try.func52, Try.ntmps52
  go_wp2_with fail
  refine (rRead_calls _ s).mono ?_
  rintro e w1 ⟨rfl, rfl⟩
  go_wp2_with fail
  refine (yNum1 (W := (w.alloc (.cells #[.int .i64 0, .string ⟨#[]⟩, .int .i64 0, .int .i64 0] 75))) (by exact HM.out) E1.out).mono ?_
  rintro e w2 ⟨rfl, hm, hc⟩
  have hlt : w.heap.size + 1 < w2.heap.size := blkLt hm.rd
  have HB := Lib.hid (blkAlloc w2 (.cells #[.int .i64 0, .string ⟨#[]⟩, .int .i64 0, .int .i64 0] 75))
  have HM := Lib.hid (hm.kept ((Chg.refl _ w2).alloc (.cells #[.int .i64 0, .string ⟨#[]⟩, .int .i64 0, .int .i64 0] 75)))
  clear hm hc
  go_wp2_with fail
  refine (yNum2 (W := (w.alloc (.cells #[.int .i64 0, .string ⟨#[]⟩, .int .i64 0, .int .i64 0] 75))) (by exact HM.out) E2.out).mono ?_
  rintro e w3 ⟨rfl, hm, hc⟩
  have hb := hc.obj HB.out (by omega)
  have hsz : w2.heap.size < w3.heap.size := blkLt hb
  have fz := blkFree hb 0
  obtain ⟨x0, x1, x2, x3⟩ := askCells hb
  have HB : Hid ((w3.setCell ⟨w2.heap.size, 0, none⟩ (.int .i64 v2)).heap[w2.heap.size]? = some (.cells #[.int .i64 v2, .string ⟨#[]⟩, .int .i64 0, .int .i64 0] 75 (0, 0))) := Lib.hid (by simpa using blkSet hb 0 (.int .i64 v2))
  have HM := Lib.hid (hm.set (g := w2.heap.size) (by omega) (by rw [HS.out]; omega) 0 (.int .i64 v2))
  clear hm hc hb
  go_wp2_with fail
  refine (yText (m := 64) (W := (w.alloc (.cells #[.int .i64 0, .string ⟨#[]⟩, .int .i64 0, .int .i64 0] 75))) (by exact HM.out) E3.out).mono ?_
  rintro e w4 ⟨rfl, hm, hc⟩
  have hb := hc.obj HB.out (by omega)
  clear hsz fz x0 x1 x2 x3
  have hsz : w2.heap.size < w4.heap.size := blkLt hb
  have fz := blkFree hb 1
  obtain ⟨x0, x1, x2, x3⟩ := askCells hb
  have HB : Hid ((w4.setCell ⟨w2.heap.size, 1, none⟩ (.string v3)).heap[w2.heap.size]? = some (.cells #[.int .i64 v2, .string v3, .int .i64 0, .int .i64 0] 75 (0, 0))) := Lib.hid (by simpa using blkSet hb 1 (.string v3))
  have HM := Lib.hid (hm.set (g := w2.heap.size) (by omega) (by rw [HS.out]; omega) 1 (.string v3))
  clear hm hc hb
  go_wp2_with fail
  refine (yNum4 (W := (w.alloc (.cells #[.int .i64 0, .string ⟨#[]⟩, .int .i64 0, .int .i64 0] 75))) (by exact HM.out) E4.out).mono ?_
  rintro e w5 ⟨rfl, hm, hc⟩
  have hb := hc.obj HB.out (by omega)
  clear hsz fz x0 x1 x2 x3
  have hsz : w2.heap.size < w5.heap.size := blkLt hb
  have fz := blkFree hb 2
  obtain ⟨x0, x1, x2, x3⟩ := askCells hb
  have HB : Hid ((w5.setCell ⟨w2.heap.size, 2, none⟩ (.int .i64 v4)).heap[w2.heap.size]? = some (.cells #[.int .i64 v2, .string v3, .int .i64 v4, .int .i64 0] 75 (0, 0))) := Lib.hid (by simpa using blkSet hb 2 (.int .i64 v4))
  have HM := Lib.hid (hm.set (g := w2.heap.size) (by omega) (by rw [HS.out]; omega) 2 (.int .i64 v4))
  clear hm hc hb
  go_wp2_with fail
  refine (yNum2 (W := (w.alloc (.cells #[.int .i64 0, .string ⟨#[]⟩, .int .i64 0, .int .i64 0] 75))) (by exact HM.out) E5.out).mono ?_
  rintro e w6 ⟨rfl, hm, hc⟩
  have hb := hc.obj HB.out (by omega)
  clear hsz fz x0 x1 x2 x3
  have hsz : w2.heap.size < w6.heap.size := blkLt hb
  have fz := blkFree hb 3
  obtain ⟨x0, x1, x2, x3⟩ := askCells hb
  have HB : Hid ((w6.setCell ⟨w2.heap.size, 3, none⟩ (.int .i64 v5)).heap[w2.heap.size]? = some (.cells #[.int .i64 v2, .string v3, .int .i64 v4, .int .i64 v5] 75 (0, 0))) := Lib.hid (by simpa using blkSet hb 3 (.int .i64 v5))
  have HM := Lib.hid (hm.set (g := w2.heap.size) (by omega) (by rw [HS.out]; omega) 3 (.int .i64 v5))
  clear hm hc hb
  go_wp2_with fail
  refine (yEnd (W := (w.alloc (.cells #[.int .i64 0, .string ⟨#[]⟩, .int .i64 0, .int .i64 0] 75))) (by exact HM.out) E6.out).mono ?_
  rintro e w7 ⟨rfl, hm, hc⟩
  clear hsz fz x0 x1 x2 x3
  have hb := hc.obj HB.out (by omega)
  have hx := hm.ch.obj HX.out (fun h => h)
  have hs1 : w.heap.size < w7.heap.size := blkLt hx
  have hs2 : w2.heap.size < w7.heap.size := blkLt hb
  obtain ⟨x0, x1, x2, x3⟩ := askCells hb
  obtain ⟨z0, z1, z2, z3⟩ := askCells hx
  have f0 := blkFree hx 0
  have f1 := blkFree hx 1
  have f2 := blkFree hx 2
  have f3 := blkFree hx 3
  have HCH := Lib.hid hm.ch
  have HBX := Lib.hid hb
  have HZX := Lib.hid hx
  clear hm hc hb hx
  obtain ⟨q0, q1, q2, q3⟩ := askCells (box4 HZX.out (.int .i64 0) (.string ⟨#[]⟩) (.int .i64 0) (.int .i64 0))
  go_wp2
  refine bodyPost_ret (v := .tuple #[.agg #[.int .i64 0, .string ⟨#[]⟩, .int .i64 0, .int .i64 0], .int .i64 3]) (by simp [results, go_sem, q0, q1, q2, q3]) rfl ⟨rfl, ?_⟩
  repeat (refine Chg.setCell ?_ (.inr (Nat.le_refl _)) _)
  exact HCH.out.kept
set_option maxRecDepth 100000 in
theorem rReadAsk_k (w : World) (s : ByteArray) (hs : s.size ≤ 140737488351232) (v1 v2 v4 v5 : Int) (v3 : ByteArray) (er : Int) (y1 y2 y3 y4 y5 : RS) (h1 : numF (s, 0) 1 = (v1, y1)) (h2 : numF y1 2 = (v2, y2)) (h3 : textF y2 64 = (v3, y3)) (h4 : numF y3 4 = (v4, y4)) (h5 : numF y4 2 = (v5, y5)) (h6 : (endF y5).2 = er) (he : (er != 0) = false) (hk : (v1 != 1) = true) :
    Calls Try.prog 52 #[.string s] w fun e w' => e = .returned (.tuple #[.agg #[.int .i64 0, .string ⟨#[]⟩, .int .i64 0, .int .i64 0], .int .i64 3]) ∧ Chg (fun _ => False) w w' := by
  have E1 := Lib.hid h1
  have E2 := Lib.hid h2
  have E3 := Lib.hid h3
  have E4 := Lib.hid h4
  have E5 := Lib.hid h5
  have E6 := Lib.hid h6
  clear h1 h2 h3 h4 h5 h6
  have HX := Lib.hid (blkAlloc w (.cells #[.int .i64 0, .string ⟨#[]⟩, .int .i64 0, .int .i64 0] 75))
  have HM : Hid (RMade 62 (w.alloc (.cells #[.int .i64 0, .string ⟨#[]⟩, .int .i64 0, .int .i64 0] 75)) ((w.alloc (.cells #[.int .i64 0, .string ⟨#[]⟩, .int .i64 0, .int .i64 0] 75)).alloc (.cells #[.string s, .int .i64 0] 62)) (w.heap.size + 1) (s, 0)) := Lib.hid (by have h := RMade.fresh 62 (w.alloc (.cells #[.int .i64 0, .string ⟨#[]⟩, .int .i64 0, .int .i64 0] 75)) s hs; rwa [show (w.alloc (.cells #[.int .i64 0, .string ⟨#[]⟩, .int .i64 0, .int .i64 0] 75)).heap.size = w.heap.size + 1 from by simp] at h)
  have HS : Hid ((w.alloc (.cells #[.int .i64 0, .string ⟨#[]⟩, .int .i64 0, .int .i64 0] 75)).heap.size = w.heap.size + 1) := Lib.hid (by simp)
  go_enter Try.func52, Try.ntmps52
  go_wp2_with fail
  refine (rRead_calls _ s).mono ?_
  rintro e w1 ⟨rfl, rfl⟩
  go_wp2_with fail
  refine (yNum1 (W := (w.alloc (.cells #[.int .i64 0, .string ⟨#[]⟩, .int .i64 0, .int .i64 0] 75))) (by exact HM.out) E1.out).mono ?_
  rintro e w2 ⟨rfl, hm, hc⟩
  have hlt : w.heap.size + 1 < w2.heap.size := blkLt hm.rd
  have HB := Lib.hid (blkAlloc w2 (.cells #[.int .i64 0, .string ⟨#[]⟩, .int .i64 0, .int .i64 0] 75))
  have HM := Lib.hid (hm.kept ((Chg.refl _ w2).alloc (.cells #[.int .i64 0, .string ⟨#[]⟩, .int .i64 0, .int .i64 0] 75)))
  clear hm hc
  go_wp2_with fail
  refine (yNum2 (W := (w.alloc (.cells #[.int .i64 0, .string ⟨#[]⟩, .int .i64 0, .int .i64 0] 75))) (by exact HM.out) E2.out).mono ?_
  rintro e w3 ⟨rfl, hm, hc⟩
  have hb := hc.obj HB.out (by omega)
  have hsz : w2.heap.size < w3.heap.size := blkLt hb
  have fz := blkFree hb 0
  obtain ⟨x0, x1, x2, x3⟩ := askCells hb
  have HB : Hid ((w3.setCell ⟨w2.heap.size, 0, none⟩ (.int .i64 v2)).heap[w2.heap.size]? = some (.cells #[.int .i64 v2, .string ⟨#[]⟩, .int .i64 0, .int .i64 0] 75 (0, 0))) := Lib.hid (by simpa using blkSet hb 0 (.int .i64 v2))
  have HM := Lib.hid (hm.set (g := w2.heap.size) (by omega) (by rw [HS.out]; omega) 0 (.int .i64 v2))
  clear hm hc hb
  go_wp2_with fail
  refine (yText (m := 64) (W := (w.alloc (.cells #[.int .i64 0, .string ⟨#[]⟩, .int .i64 0, .int .i64 0] 75))) (by exact HM.out) E3.out).mono ?_
  rintro e w4 ⟨rfl, hm, hc⟩
  have hb := hc.obj HB.out (by omega)
  clear hsz fz x0 x1 x2 x3
  have hsz : w2.heap.size < w4.heap.size := blkLt hb
  have fz := blkFree hb 1
  obtain ⟨x0, x1, x2, x3⟩ := askCells hb
  have HB : Hid ((w4.setCell ⟨w2.heap.size, 1, none⟩ (.string v3)).heap[w2.heap.size]? = some (.cells #[.int .i64 v2, .string v3, .int .i64 0, .int .i64 0] 75 (0, 0))) := Lib.hid (by simpa using blkSet hb 1 (.string v3))
  have HM := Lib.hid (hm.set (g := w2.heap.size) (by omega) (by rw [HS.out]; omega) 1 (.string v3))
  clear hm hc hb
  go_wp2_with fail
  refine (yNum4 (W := (w.alloc (.cells #[.int .i64 0, .string ⟨#[]⟩, .int .i64 0, .int .i64 0] 75))) (by exact HM.out) E4.out).mono ?_
  rintro e w5 ⟨rfl, hm, hc⟩
  have hb := hc.obj HB.out (by omega)
  clear hsz fz x0 x1 x2 x3
  have hsz : w2.heap.size < w5.heap.size := blkLt hb
  have fz := blkFree hb 2
  obtain ⟨x0, x1, x2, x3⟩ := askCells hb
  have HB : Hid ((w5.setCell ⟨w2.heap.size, 2, none⟩ (.int .i64 v4)).heap[w2.heap.size]? = some (.cells #[.int .i64 v2, .string v3, .int .i64 v4, .int .i64 0] 75 (0, 0))) := Lib.hid (by simpa using blkSet hb 2 (.int .i64 v4))
  have HM := Lib.hid (hm.set (g := w2.heap.size) (by omega) (by rw [HS.out]; omega) 2 (.int .i64 v4))
  clear hm hc hb
  go_wp2_with fail
  refine (yNum2 (W := (w.alloc (.cells #[.int .i64 0, .string ⟨#[]⟩, .int .i64 0, .int .i64 0] 75))) (by exact HM.out) E5.out).mono ?_
  rintro e w6 ⟨rfl, hm, hc⟩
  have hb := hc.obj HB.out (by omega)
  clear hsz fz x0 x1 x2 x3
  have hsz : w2.heap.size < w6.heap.size := blkLt hb
  have fz := blkFree hb 3
  obtain ⟨x0, x1, x2, x3⟩ := askCells hb
  have HB : Hid ((w6.setCell ⟨w2.heap.size, 3, none⟩ (.int .i64 v5)).heap[w2.heap.size]? = some (.cells #[.int .i64 v2, .string v3, .int .i64 v4, .int .i64 v5] 75 (0, 0))) := Lib.hid (by simpa using blkSet hb 3 (.int .i64 v5))
  have HM := Lib.hid (hm.set (g := w2.heap.size) (by omega) (by rw [HS.out]; omega) 3 (.int .i64 v5))
  clear hm hc hb
  go_wp2_with fail
  refine (yEnd (W := (w.alloc (.cells #[.int .i64 0, .string ⟨#[]⟩, .int .i64 0, .int .i64 0] 75))) (by exact HM.out) E6.out).mono ?_
  rintro e w7 ⟨rfl, hm, hc⟩
  clear hsz fz x0 x1 x2 x3
  have hb := hc.obj HB.out (by omega)
  have hx := hm.ch.obj HX.out (fun h => h)
  have hs1 : w.heap.size < w7.heap.size := blkLt hx
  have hs2 : w2.heap.size < w7.heap.size := blkLt hb
  obtain ⟨x0, x1, x2, x3⟩ := askCells hb
  obtain ⟨z0, z1, z2, z3⟩ := askCells hx
  have f0 := blkFree hx 0
  have f1 := blkFree hx 1
  have f2 := blkFree hx 2
  have f3 := blkFree hx 3
  have HCH := Lib.hid hm.ch
  have HBX := Lib.hid hb
  have HZX := Lib.hid hx
  clear hm hc hb hx
  obtain ⟨q0, q1, q2, q3⟩ := askCells (box4 HZX.out (.int .i64 0) (.string ⟨#[]⟩) (.int .i64 0) (.int .i64 0))
  go_wp2
  refine bodyPost_ret (v := .tuple #[.agg #[.int .i64 0, .string ⟨#[]⟩, .int .i64 0, .int .i64 0], .int .i64 3]) (by simp [results, go_sem, q0, q1, q2, q3]) rfl ⟨rfl, ?_⟩
  repeat (refine Chg.setCell ?_ (.inr (Nat.le_refl _)) _)
  exact HCH.out.kept
set_option maxRecDepth 100000 in
theorem rReadAsk_p (w : World) (s : ByteArray) (hs : s.size ≤ 140737488351232) (v1 v2 v4 v5 : Int) (v3 : ByteArray) (er : Int) (y1 y2 y3 y4 y5 : RS) (h1 : numF (s, 0) 1 = (v1, y1)) (h2 : numF y1 2 = (v2, y2)) (h3 : textF y2 64 = (v3, y3)) (h4 : numF y3 4 = (v4, y4)) (h5 : numF y4 2 = (v5, y5)) (h6 : (endF y5).2 = er) (he : (er != 0) = false) (hk : (v1 != 1) = false) (hp : (v3.toList == []) = true) :
    Calls Try.prog 52 #[.string s] w fun e w' => e = .returned (.tuple #[.agg #[.int .i64 0, .string ⟨#[]⟩, .int .i64 0, .int .i64 0], .int .i64 3]) ∧ Chg (fun _ => False) w w' := by
  have E1 := Lib.hid h1
  have E2 := Lib.hid h2
  have E3 := Lib.hid h3
  have E4 := Lib.hid h4
  have E5 := Lib.hid h5
  have E6 := Lib.hid h6
  clear h1 h2 h3 h4 h5 h6
  have hp2 := str_void hp
  have HX := Lib.hid (blkAlloc w (.cells #[.int .i64 0, .string ⟨#[]⟩, .int .i64 0, .int .i64 0] 75))
  have HM : Hid (RMade 62 (w.alloc (.cells #[.int .i64 0, .string ⟨#[]⟩, .int .i64 0, .int .i64 0] 75)) ((w.alloc (.cells #[.int .i64 0, .string ⟨#[]⟩, .int .i64 0, .int .i64 0] 75)).alloc (.cells #[.string s, .int .i64 0] 62)) (w.heap.size + 1) (s, 0)) := Lib.hid (by have h := RMade.fresh 62 (w.alloc (.cells #[.int .i64 0, .string ⟨#[]⟩, .int .i64 0, .int .i64 0] 75)) s hs; rwa [show (w.alloc (.cells #[.int .i64 0, .string ⟨#[]⟩, .int .i64 0, .int .i64 0] 75)).heap.size = w.heap.size + 1 from by simp] at h)
  have HS : Hid ((w.alloc (.cells #[.int .i64 0, .string ⟨#[]⟩, .int .i64 0, .int .i64 0] 75)).heap.size = w.heap.size + 1) := Lib.hid (by simp)
  go_enter Try.func52, Try.ntmps52
  go_wp2_with fail
  refine (rRead_calls _ s).mono ?_
  rintro e w1 ⟨rfl, rfl⟩
  go_wp2_with fail
  refine (yNum1 (W := (w.alloc (.cells #[.int .i64 0, .string ⟨#[]⟩, .int .i64 0, .int .i64 0] 75))) (by exact HM.out) E1.out).mono ?_
  rintro e w2 ⟨rfl, hm, hc⟩
  have hlt : w.heap.size + 1 < w2.heap.size := blkLt hm.rd
  have HB := Lib.hid (blkAlloc w2 (.cells #[.int .i64 0, .string ⟨#[]⟩, .int .i64 0, .int .i64 0] 75))
  have HM := Lib.hid (hm.kept ((Chg.refl _ w2).alloc (.cells #[.int .i64 0, .string ⟨#[]⟩, .int .i64 0, .int .i64 0] 75)))
  clear hm hc
  go_wp2_with fail
  refine (yNum2 (W := (w.alloc (.cells #[.int .i64 0, .string ⟨#[]⟩, .int .i64 0, .int .i64 0] 75))) (by exact HM.out) E2.out).mono ?_
  rintro e w3 ⟨rfl, hm, hc⟩
  have hb := hc.obj HB.out (by omega)
  have hsz : w2.heap.size < w3.heap.size := blkLt hb
  have fz := blkFree hb 0
  obtain ⟨x0, x1, x2, x3⟩ := askCells hb
  have HB : Hid ((w3.setCell ⟨w2.heap.size, 0, none⟩ (.int .i64 v2)).heap[w2.heap.size]? = some (.cells #[.int .i64 v2, .string ⟨#[]⟩, .int .i64 0, .int .i64 0] 75 (0, 0))) := Lib.hid (by simpa using blkSet hb 0 (.int .i64 v2))
  have HM := Lib.hid (hm.set (g := w2.heap.size) (by omega) (by rw [HS.out]; omega) 0 (.int .i64 v2))
  clear hm hc hb
  go_wp2_with fail
  refine (yText (m := 64) (W := (w.alloc (.cells #[.int .i64 0, .string ⟨#[]⟩, .int .i64 0, .int .i64 0] 75))) (by exact HM.out) E3.out).mono ?_
  rintro e w4 ⟨rfl, hm, hc⟩
  have hb := hc.obj HB.out (by omega)
  clear hsz fz x0 x1 x2 x3
  have hsz : w2.heap.size < w4.heap.size := blkLt hb
  have fz := blkFree hb 1
  obtain ⟨x0, x1, x2, x3⟩ := askCells hb
  have HB : Hid ((w4.setCell ⟨w2.heap.size, 1, none⟩ (.string v3)).heap[w2.heap.size]? = some (.cells #[.int .i64 v2, .string v3, .int .i64 0, .int .i64 0] 75 (0, 0))) := Lib.hid (by simpa using blkSet hb 1 (.string v3))
  have HM := Lib.hid (hm.set (g := w2.heap.size) (by omega) (by rw [HS.out]; omega) 1 (.string v3))
  clear hm hc hb
  go_wp2_with fail
  refine (yNum4 (W := (w.alloc (.cells #[.int .i64 0, .string ⟨#[]⟩, .int .i64 0, .int .i64 0] 75))) (by exact HM.out) E4.out).mono ?_
  rintro e w5 ⟨rfl, hm, hc⟩
  have hb := hc.obj HB.out (by omega)
  clear hsz fz x0 x1 x2 x3
  have hsz : w2.heap.size < w5.heap.size := blkLt hb
  have fz := blkFree hb 2
  obtain ⟨x0, x1, x2, x3⟩ := askCells hb
  have HB : Hid ((w5.setCell ⟨w2.heap.size, 2, none⟩ (.int .i64 v4)).heap[w2.heap.size]? = some (.cells #[.int .i64 v2, .string v3, .int .i64 v4, .int .i64 0] 75 (0, 0))) := Lib.hid (by simpa using blkSet hb 2 (.int .i64 v4))
  have HM := Lib.hid (hm.set (g := w2.heap.size) (by omega) (by rw [HS.out]; omega) 2 (.int .i64 v4))
  clear hm hc hb
  go_wp2_with fail
  refine (yNum2 (W := (w.alloc (.cells #[.int .i64 0, .string ⟨#[]⟩, .int .i64 0, .int .i64 0] 75))) (by exact HM.out) E5.out).mono ?_
  rintro e w6 ⟨rfl, hm, hc⟩
  have hb := hc.obj HB.out (by omega)
  clear hsz fz x0 x1 x2 x3
  have hsz : w2.heap.size < w6.heap.size := blkLt hb
  have fz := blkFree hb 3
  obtain ⟨x0, x1, x2, x3⟩ := askCells hb
  have HB : Hid ((w6.setCell ⟨w2.heap.size, 3, none⟩ (.int .i64 v5)).heap[w2.heap.size]? = some (.cells #[.int .i64 v2, .string v3, .int .i64 v4, .int .i64 v5] 75 (0, 0))) := Lib.hid (by simpa using blkSet hb 3 (.int .i64 v5))
  have HM := Lib.hid (hm.set (g := w2.heap.size) (by omega) (by rw [HS.out]; omega) 3 (.int .i64 v5))
  clear hm hc hb
  go_wp2_with fail
  refine (yEnd (W := (w.alloc (.cells #[.int .i64 0, .string ⟨#[]⟩, .int .i64 0, .int .i64 0] 75))) (by exact HM.out) E6.out).mono ?_
  rintro e w7 ⟨rfl, hm, hc⟩
  clear hsz fz x0 x1 x2 x3
  have hb := hc.obj HB.out (by omega)
  have hx := hm.ch.obj HX.out (fun h => h)
  have hs1 : w.heap.size < w7.heap.size := blkLt hx
  have hs2 : w2.heap.size < w7.heap.size := blkLt hb
  obtain ⟨x0, x1, x2, x3⟩ := askCells hb
  obtain ⟨z0, z1, z2, z3⟩ := askCells hx
  have f0 := blkFree hx 0
  have f1 := blkFree hx 1
  have f2 := blkFree hx 2
  have f3 := blkFree hx 3
  have HCH := Lib.hid hm.ch
  have HBX := Lib.hid hb
  have HZX := Lib.hid hx
  clear hm hc hb hx
  obtain ⟨q0, q1, q2, q3⟩ := askCells (box4 HZX.out (.int .i64 0) (.string ⟨#[]⟩) (.int .i64 0) (.int .i64 0))
  go_wp2
  refine bodyPost_ret (v := .tuple #[.agg #[.int .i64 0, .string ⟨#[]⟩, .int .i64 0, .int .i64 0], .int .i64 3]) (by simp [results, go_sem, q0, q1, q2, q3]) rfl ⟨rfl, ?_⟩
  repeat (refine Chg.setCell ?_ (.inr (Nat.le_refl _)) _)
  exact HCH.out.kept
set_option maxRecDepth 100000 in
theorem rReadAsk_ok (w : World) (s : ByteArray) (hs : s.size ≤ 140737488351232) (v1 v2 v4 v5 : Int) (v3 : ByteArray) (er : Int) (y1 y2 y3 y4 y5 : RS) (h1 : numF (s, 0) 1 = (v1, y1)) (h2 : numF y1 2 = (v2, y2)) (h3 : textF y2 64 = (v3, y3)) (h4 : numF y3 4 = (v4, y4)) (h5 : numF y4 2 = (v5, y5)) (h6 : (endF y5).2 = er) (he : (er != 0) = false) (hk : (v1 != 1) = false) (hp : (v3.toList == []) = false) :
    Calls Try.prog 52 #[.string s] w fun e w' => e = .returned (.tuple #[.agg #[.int .i64 v2, .string v3, .int .i64 v4, .int .i64 v5], .int .i64 0]) ∧ Chg (fun _ => False) w w' := by
  have E1 := Lib.hid h1
  have E2 := Lib.hid h2
  have E3 := Lib.hid h3
  have E4 := Lib.hid h4
  have E5 := Lib.hid h5
  have E6 := Lib.hid h6
  clear h1 h2 h3 h4 h5 h6
  have hp2 := str_full hp
  have HX := Lib.hid (blkAlloc w (.cells #[.int .i64 0, .string ⟨#[]⟩, .int .i64 0, .int .i64 0] 75))
  have HM : Hid (RMade 62 (w.alloc (.cells #[.int .i64 0, .string ⟨#[]⟩, .int .i64 0, .int .i64 0] 75)) ((w.alloc (.cells #[.int .i64 0, .string ⟨#[]⟩, .int .i64 0, .int .i64 0] 75)).alloc (.cells #[.string s, .int .i64 0] 62)) (w.heap.size + 1) (s, 0)) := Lib.hid (by have h := RMade.fresh 62 (w.alloc (.cells #[.int .i64 0, .string ⟨#[]⟩, .int .i64 0, .int .i64 0] 75)) s hs; rwa [show (w.alloc (.cells #[.int .i64 0, .string ⟨#[]⟩, .int .i64 0, .int .i64 0] 75)).heap.size = w.heap.size + 1 from by simp] at h)
  have HS : Hid ((w.alloc (.cells #[.int .i64 0, .string ⟨#[]⟩, .int .i64 0, .int .i64 0] 75)).heap.size = w.heap.size + 1) := Lib.hid (by simp)
  go_enter Try.func52, Try.ntmps52
  go_wp2_with fail
  refine (rRead_calls _ s).mono ?_
  rintro e w1 ⟨rfl, rfl⟩
  go_wp2_with fail
  refine (yNum1 (W := (w.alloc (.cells #[.int .i64 0, .string ⟨#[]⟩, .int .i64 0, .int .i64 0] 75))) (by exact HM.out) E1.out).mono ?_
  rintro e w2 ⟨rfl, hm, hc⟩
  have hlt : w.heap.size + 1 < w2.heap.size := blkLt hm.rd
  have HB := Lib.hid (blkAlloc w2 (.cells #[.int .i64 0, .string ⟨#[]⟩, .int .i64 0, .int .i64 0] 75))
  have HM := Lib.hid (hm.kept ((Chg.refl _ w2).alloc (.cells #[.int .i64 0, .string ⟨#[]⟩, .int .i64 0, .int .i64 0] 75)))
  clear hm hc
  go_wp2_with fail
  refine (yNum2 (W := (w.alloc (.cells #[.int .i64 0, .string ⟨#[]⟩, .int .i64 0, .int .i64 0] 75))) (by exact HM.out) E2.out).mono ?_
  rintro e w3 ⟨rfl, hm, hc⟩
  have hb := hc.obj HB.out (by omega)
  have hsz : w2.heap.size < w3.heap.size := blkLt hb
  have fz := blkFree hb 0
  obtain ⟨x0, x1, x2, x3⟩ := askCells hb
  have HB : Hid ((w3.setCell ⟨w2.heap.size, 0, none⟩ (.int .i64 v2)).heap[w2.heap.size]? = some (.cells #[.int .i64 v2, .string ⟨#[]⟩, .int .i64 0, .int .i64 0] 75 (0, 0))) := Lib.hid (by simpa using blkSet hb 0 (.int .i64 v2))
  have HM := Lib.hid (hm.set (g := w2.heap.size) (by omega) (by rw [HS.out]; omega) 0 (.int .i64 v2))
  clear hm hc hb
  go_wp2_with fail
  refine (yText (m := 64) (W := (w.alloc (.cells #[.int .i64 0, .string ⟨#[]⟩, .int .i64 0, .int .i64 0] 75))) (by exact HM.out) E3.out).mono ?_
  rintro e w4 ⟨rfl, hm, hc⟩
  have hb := hc.obj HB.out (by omega)
  clear hsz fz x0 x1 x2 x3
  have hsz : w2.heap.size < w4.heap.size := blkLt hb
  have fz := blkFree hb 1
  obtain ⟨x0, x1, x2, x3⟩ := askCells hb
  have HB : Hid ((w4.setCell ⟨w2.heap.size, 1, none⟩ (.string v3)).heap[w2.heap.size]? = some (.cells #[.int .i64 v2, .string v3, .int .i64 0, .int .i64 0] 75 (0, 0))) := Lib.hid (by simpa using blkSet hb 1 (.string v3))
  have HM := Lib.hid (hm.set (g := w2.heap.size) (by omega) (by rw [HS.out]; omega) 1 (.string v3))
  clear hm hc hb
  go_wp2_with fail
  refine (yNum4 (W := (w.alloc (.cells #[.int .i64 0, .string ⟨#[]⟩, .int .i64 0, .int .i64 0] 75))) (by exact HM.out) E4.out).mono ?_
  rintro e w5 ⟨rfl, hm, hc⟩
  have hb := hc.obj HB.out (by omega)
  clear hsz fz x0 x1 x2 x3
  have hsz : w2.heap.size < w5.heap.size := blkLt hb
  have fz := blkFree hb 2
  obtain ⟨x0, x1, x2, x3⟩ := askCells hb
  have HB : Hid ((w5.setCell ⟨w2.heap.size, 2, none⟩ (.int .i64 v4)).heap[w2.heap.size]? = some (.cells #[.int .i64 v2, .string v3, .int .i64 v4, .int .i64 0] 75 (0, 0))) := Lib.hid (by simpa using blkSet hb 2 (.int .i64 v4))
  have HM := Lib.hid (hm.set (g := w2.heap.size) (by omega) (by rw [HS.out]; omega) 2 (.int .i64 v4))
  clear hm hc hb
  go_wp2_with fail
  refine (yNum2 (W := (w.alloc (.cells #[.int .i64 0, .string ⟨#[]⟩, .int .i64 0, .int .i64 0] 75))) (by exact HM.out) E5.out).mono ?_
  rintro e w6 ⟨rfl, hm, hc⟩
  have hb := hc.obj HB.out (by omega)
  clear hsz fz x0 x1 x2 x3
  have hsz : w2.heap.size < w6.heap.size := blkLt hb
  have fz := blkFree hb 3
  obtain ⟨x0, x1, x2, x3⟩ := askCells hb
  have HB : Hid ((w6.setCell ⟨w2.heap.size, 3, none⟩ (.int .i64 v5)).heap[w2.heap.size]? = some (.cells #[.int .i64 v2, .string v3, .int .i64 v4, .int .i64 v5] 75 (0, 0))) := Lib.hid (by simpa using blkSet hb 3 (.int .i64 v5))
  have HM := Lib.hid (hm.set (g := w2.heap.size) (by omega) (by rw [HS.out]; omega) 3 (.int .i64 v5))
  clear hm hc hb
  go_wp2_with fail
  refine (yEnd (W := (w.alloc (.cells #[.int .i64 0, .string ⟨#[]⟩, .int .i64 0, .int .i64 0] 75))) (by exact HM.out) E6.out).mono ?_
  rintro e w7 ⟨rfl, hm, hc⟩
  clear hsz fz x0 x1 x2 x3
  have hb := hc.obj HB.out (by omega)
  have hx := hm.ch.obj HX.out (fun h => h)
  have hs1 : w.heap.size < w7.heap.size := blkLt hx
  have hs2 : w2.heap.size < w7.heap.size := blkLt hb
  obtain ⟨x0, x1, x2, x3⟩ := askCells hb
  obtain ⟨z0, z1, z2, z3⟩ := askCells hx
  have f0 := blkFree hx 0
  have f1 := blkFree hx 1
  have f2 := blkFree hx 2
  have f3 := blkFree hx 3
  have HCH := Lib.hid hm.ch
  have HBX := Lib.hid hb
  have HZX := Lib.hid hx
  clear hm hc hb hx
  obtain ⟨q0, q1, q2, q3⟩ := askCells (box4 HZX.out (.int .i64 v2) (.string v3) (.int .i64 v4) (.int .i64 v5))
  go_wp2
  refine bodyPost_ret (v := .tuple #[.agg #[.int .i64 v2, .string v3, .int .i64 v4, .int .i64 v5], .int .i64 0]) (by simp [results, go_sem, q0, q1, q2, q3]) rfl ⟨rfl, ?_⟩
  repeat (refine Chg.setCell ?_ (.inr (Nat.le_refl _)) _)
  exact HCH.out.kept
set_option maxRecDepth 100000 in
theorem ReadReply_e (w : World) (s : ByteArray) (hs : s.size ≤ 140737488351232) (v1 v2 v3 v4 : Int) (v5 : ByteArray) (er : Int) (y1 y2 y3 y4 y5 : RS) (h1 : numF (s, 0) 1 = (v1, y1)) (h2 : numF y1 2 = (v2, y2)) (h3 : numF y2 1 = (v3, y3)) (h4 : numF y3 4 = (v4, y4)) (h5 : textF y4 65535 = (v5, y5)) (h6 : (endF y5).2 = er) (he : (er != 0) = true) :
    Calls Try.prog 53 #[.string s] w fun e w' => e = .returned (.tuple #[.agg #[.int .i64 0, .int .i64 0, .int .i64 0, .string ⟨#[]⟩], .int .i64 3]) ∧ Chg (fun _ => False) w w' := by
  have E1 := Lib.hid h1
  have E2 := Lib.hid h2
  have E3 := Lib.hid h3
  have E4 := Lib.hid h4
  have E5 := Lib.hid h5
  have E6 := Lib.hid h6
  clear h1 h2 h3 h4 h5 h6
  have HX := Lib.hid (blkAlloc w (.cells #[.int .i64 0, .int .i64 0, .int .i64 0, .string ⟨#[]⟩] 77))
  have HM : Hid (RMade 59 (w.alloc (.cells #[.int .i64 0, .int .i64 0, .int .i64 0, .string ⟨#[]⟩] 77)) ((w.alloc (.cells #[.int .i64 0, .int .i64 0, .int .i64 0, .string ⟨#[]⟩] 77)).alloc (.cells #[.string s, .int .i64 0] 59)) (w.heap.size + 1) (s, 0)) := Lib.hid (by have h := RMade.fresh 59 (w.alloc (.cells #[.int .i64 0, .int .i64 0, .int .i64 0, .string ⟨#[]⟩] 77)) s hs; rwa [show (w.alloc (.cells #[.int .i64 0, .int .i64 0, .int .i64 0, .string ⟨#[]⟩] 77)).heap.size = w.heap.size + 1 from by simp] at h)
  have HS : Hid ((w.alloc (.cells #[.int .i64 0, .int .i64 0, .int .i64 0, .string ⟨#[]⟩] 77)).heap.size = w.heap.size + 1) := Lib.hid (by simp)
  go_enter Try.func53, Try.ntmps53
  go_wp2_with fail
  refine (Read_calls _ s).mono ?_
  rintro e w1 ⟨rfl, rfl⟩
  go_wp2_with fail
  refine (zByte (W := (w.alloc (.cells #[.int .i64 0, .int .i64 0, .int .i64 0, .string ⟨#[]⟩] 77))) (by exact HM.out) E1.out).mono ?_
  rintro e w2 ⟨rfl, hm, hc⟩
  have HM := Lib.hid hm
  clear hm hc
  go_wp2_with fail
  refine (zTwo (W := (w.alloc (.cells #[.int .i64 0, .int .i64 0, .int .i64 0, .string ⟨#[]⟩] 77))) (by exact HM.out) E2.out).mono ?_
  rintro e w3 ⟨rfl, hm, hc⟩
  have HM := Lib.hid hm
  clear hm hc
  go_wp2_with fail
  refine (zByte (W := (w.alloc (.cells #[.int .i64 0, .int .i64 0, .int .i64 0, .string ⟨#[]⟩] 77))) (by exact HM.out) E3.out).mono ?_
  rintro e w4 ⟨rfl, hm, hc⟩
  have HM := Lib.hid hm
  clear hm hc
  go_wp2_with fail
  refine (zFour (W := (w.alloc (.cells #[.int .i64 0, .int .i64 0, .int .i64 0, .string ⟨#[]⟩] 77))) (by exact HM.out) E4.out).mono ?_
  rintro e w5 ⟨rfl, hm, hc⟩
  have HM := Lib.hid hm
  clear hm hc
  go_wp2_with fail
  refine (zText (m := 65535) (W := (w.alloc (.cells #[.int .i64 0, .int .i64 0, .int .i64 0, .string ⟨#[]⟩] 77))) (by exact HM.out) E5.out).mono ?_
  rintro e w6 ⟨rfl, hm, hc⟩
  have HM := Lib.hid hm
  clear hm hc
  have hlt : w.heap.size + 1 < w6.heap.size := blkLt HM.out.rd
  have HB := Lib.hid (blkAlloc w6 (.cells #[.int .i64 v2, .int .i64 v3, .int .i64 v4, .string v5] 77))
  have HM := Lib.hid (HM.out.kept ((Chg.refl _ w6).alloc (.cells #[.int .i64 v2, .int .i64 v3, .int .i64 v4, .string v5] 77)))
  go_wp2_with fail
  refine (zEnd (W := (w.alloc (.cells #[.int .i64 0, .int .i64 0, .int .i64 0, .string ⟨#[]⟩] 77))) (by exact HM.out) E6.out).mono ?_
  rintro e w7 ⟨rfl, hm, hc⟩
  have hb := hc.obj HB.out (by omega)
  have hx := hm.ch.obj HX.out (fun h => h)
  have hs1 : w.heap.size < w7.heap.size := blkLt hx
  have hs2 : w6.heap.size < w7.heap.size := blkLt hb
  obtain ⟨x0, x1, x2, x3⟩ := askCells hb
  obtain ⟨z0, z1, z2, z3⟩ := askCells hx
  have f0 := blkFree hx 0
  have f1 := blkFree hx 1
  have f2 := blkFree hx 2
  have f3 := blkFree hx 3
  have HCH := Lib.hid hm.ch
  have HBX := Lib.hid hb
  have HZX := Lib.hid hx
  clear hm hc hb hx
  obtain ⟨q0, q1, q2, q3⟩ := askCells (box4 HZX.out (.int .i64 0) (.int .i64 0) (.int .i64 0) (.string ⟨#[]⟩))
  go_wp2
  refine bodyPost_ret (v := .tuple #[.agg #[.int .i64 0, .int .i64 0, .int .i64 0, .string ⟨#[]⟩], .int .i64 3]) (by simp [results, go_sem, q0, q1, q2, q3]) rfl ⟨rfl, ?_⟩
  repeat (refine Chg.setCell ?_ (.inr (Nat.le_refl _)) _)
  exact HCH.out.kept
set_option maxRecDepth 100000 in
theorem ReadReply_k (w : World) (s : ByteArray) (hs : s.size ≤ 140737488351232) (v1 v2 v3 v4 : Int) (v5 : ByteArray) (er : Int) (y1 y2 y3 y4 y5 : RS) (h1 : numF (s, 0) 1 = (v1, y1)) (h2 : numF y1 2 = (v2, y2)) (h3 : numF y2 1 = (v3, y3)) (h4 : numF y3 4 = (v4, y4)) (h5 : textF y4 65535 = (v5, y5)) (h6 : (endF y5).2 = er) (he : (er != 0) = false) (hk : (v1 != 2) = true) :
    Calls Try.prog 53 #[.string s] w fun e w' => e = .returned (.tuple #[.agg #[.int .i64 0, .int .i64 0, .int .i64 0, .string ⟨#[]⟩], .int .i64 3]) ∧ Chg (fun _ => False) w w' := by
  have E1 := Lib.hid h1
  have E2 := Lib.hid h2
  have E3 := Lib.hid h3
  have E4 := Lib.hid h4
  have E5 := Lib.hid h5
  have E6 := Lib.hid h6
  clear h1 h2 h3 h4 h5 h6
  have HX := Lib.hid (blkAlloc w (.cells #[.int .i64 0, .int .i64 0, .int .i64 0, .string ⟨#[]⟩] 77))
  have HM : Hid (RMade 59 (w.alloc (.cells #[.int .i64 0, .int .i64 0, .int .i64 0, .string ⟨#[]⟩] 77)) ((w.alloc (.cells #[.int .i64 0, .int .i64 0, .int .i64 0, .string ⟨#[]⟩] 77)).alloc (.cells #[.string s, .int .i64 0] 59)) (w.heap.size + 1) (s, 0)) := Lib.hid (by have h := RMade.fresh 59 (w.alloc (.cells #[.int .i64 0, .int .i64 0, .int .i64 0, .string ⟨#[]⟩] 77)) s hs; rwa [show (w.alloc (.cells #[.int .i64 0, .int .i64 0, .int .i64 0, .string ⟨#[]⟩] 77)).heap.size = w.heap.size + 1 from by simp] at h)
  have HS : Hid ((w.alloc (.cells #[.int .i64 0, .int .i64 0, .int .i64 0, .string ⟨#[]⟩] 77)).heap.size = w.heap.size + 1) := Lib.hid (by simp)
  go_enter Try.func53, Try.ntmps53
  go_wp2_with fail
  refine (Read_calls _ s).mono ?_
  rintro e w1 ⟨rfl, rfl⟩
  go_wp2_with fail
  refine (zByte (W := (w.alloc (.cells #[.int .i64 0, .int .i64 0, .int .i64 0, .string ⟨#[]⟩] 77))) (by exact HM.out) E1.out).mono ?_
  rintro e w2 ⟨rfl, hm, hc⟩
  have HM := Lib.hid hm
  clear hm hc
  go_wp2_with fail
  refine (zTwo (W := (w.alloc (.cells #[.int .i64 0, .int .i64 0, .int .i64 0, .string ⟨#[]⟩] 77))) (by exact HM.out) E2.out).mono ?_
  rintro e w3 ⟨rfl, hm, hc⟩
  have HM := Lib.hid hm
  clear hm hc
  go_wp2_with fail
  refine (zByte (W := (w.alloc (.cells #[.int .i64 0, .int .i64 0, .int .i64 0, .string ⟨#[]⟩] 77))) (by exact HM.out) E3.out).mono ?_
  rintro e w4 ⟨rfl, hm, hc⟩
  have HM := Lib.hid hm
  clear hm hc
  go_wp2_with fail
  refine (zFour (W := (w.alloc (.cells #[.int .i64 0, .int .i64 0, .int .i64 0, .string ⟨#[]⟩] 77))) (by exact HM.out) E4.out).mono ?_
  rintro e w5 ⟨rfl, hm, hc⟩
  have HM := Lib.hid hm
  clear hm hc
  go_wp2_with fail
  refine (zText (m := 65535) (W := (w.alloc (.cells #[.int .i64 0, .int .i64 0, .int .i64 0, .string ⟨#[]⟩] 77))) (by exact HM.out) E5.out).mono ?_
  rintro e w6 ⟨rfl, hm, hc⟩
  have HM := Lib.hid hm
  clear hm hc
  have hlt : w.heap.size + 1 < w6.heap.size := blkLt HM.out.rd
  have HB := Lib.hid (blkAlloc w6 (.cells #[.int .i64 v2, .int .i64 v3, .int .i64 v4, .string v5] 77))
  have HM := Lib.hid (HM.out.kept ((Chg.refl _ w6).alloc (.cells #[.int .i64 v2, .int .i64 v3, .int .i64 v4, .string v5] 77)))
  go_wp2_with fail
  refine (zEnd (W := (w.alloc (.cells #[.int .i64 0, .int .i64 0, .int .i64 0, .string ⟨#[]⟩] 77))) (by exact HM.out) E6.out).mono ?_
  rintro e w7 ⟨rfl, hm, hc⟩
  have hb := hc.obj HB.out (by omega)
  have hx := hm.ch.obj HX.out (fun h => h)
  have hs1 : w.heap.size < w7.heap.size := blkLt hx
  have hs2 : w6.heap.size < w7.heap.size := blkLt hb
  obtain ⟨x0, x1, x2, x3⟩ := askCells hb
  obtain ⟨z0, z1, z2, z3⟩ := askCells hx
  have f0 := blkFree hx 0
  have f1 := blkFree hx 1
  have f2 := blkFree hx 2
  have f3 := blkFree hx 3
  have HCH := Lib.hid hm.ch
  have HBX := Lib.hid hb
  have HZX := Lib.hid hx
  clear hm hc hb hx
  obtain ⟨q0, q1, q2, q3⟩ := askCells (box4 HZX.out (.int .i64 0) (.int .i64 0) (.int .i64 0) (.string ⟨#[]⟩))
  go_wp2
  refine bodyPost_ret (v := .tuple #[.agg #[.int .i64 0, .int .i64 0, .int .i64 0, .string ⟨#[]⟩], .int .i64 3]) (by simp [results, go_sem, q0, q1, q2, q3]) rfl ⟨rfl, ?_⟩
  repeat (refine Chg.setCell ?_ (.inr (Nat.le_refl _)) _)
  exact HCH.out.kept
set_option maxRecDepth 100000 in
theorem ReadReply_p (w : World) (s : ByteArray) (hs : s.size ≤ 140737488351232) (v1 v2 v3 v4 : Int) (v5 : ByteArray) (er : Int) (y1 y2 y3 y4 y5 : RS) (h1 : numF (s, 0) 1 = (v1, y1)) (h2 : numF y1 2 = (v2, y2)) (h3 : numF y2 1 = (v3, y3)) (h4 : numF y3 4 = (v4, y4)) (h5 : textF y4 65535 = (v5, y5)) (h6 : (endF y5).2 = er) (he : (er != 0) = false) (hk : (v1 != 2) = false) (hp : ¬ RepV.fair ⟨v2, v3, v4, v5⟩) :
    Calls Try.prog 53 #[.string s] w fun e w' => e = .returned (.tuple #[.agg #[.int .i64 0, .int .i64 0, .int .i64 0, .string ⟨#[]⟩], .int .i64 3]) ∧ Chg (fun _ => False) w w' := by
  have E1 := Lib.hid h1
  have E2 := Lib.hid h2
  have E3 := Lib.hid h3
  have E4 := Lib.hid h4
  have E5 := Lib.hid h5
  have E6 := Lib.hid h6
  clear h1 h2 h3 h4 h5 h6
  have HP := Lib.hid hp
  clear hp
  have HX := Lib.hid (blkAlloc w (.cells #[.int .i64 0, .int .i64 0, .int .i64 0, .string ⟨#[]⟩] 77))
  have HM : Hid (RMade 59 (w.alloc (.cells #[.int .i64 0, .int .i64 0, .int .i64 0, .string ⟨#[]⟩] 77)) ((w.alloc (.cells #[.int .i64 0, .int .i64 0, .int .i64 0, .string ⟨#[]⟩] 77)).alloc (.cells #[.string s, .int .i64 0] 59)) (w.heap.size + 1) (s, 0)) := Lib.hid (by have h := RMade.fresh 59 (w.alloc (.cells #[.int .i64 0, .int .i64 0, .int .i64 0, .string ⟨#[]⟩] 77)) s hs; rwa [show (w.alloc (.cells #[.int .i64 0, .int .i64 0, .int .i64 0, .string ⟨#[]⟩] 77)).heap.size = w.heap.size + 1 from by simp] at h)
  have HS : Hid ((w.alloc (.cells #[.int .i64 0, .int .i64 0, .int .i64 0, .string ⟨#[]⟩] 77)).heap.size = w.heap.size + 1) := Lib.hid (by simp)
  go_enter Try.func53, Try.ntmps53
  go_wp2_with fail
  refine (Read_calls _ s).mono ?_
  rintro e w1 ⟨rfl, rfl⟩
  go_wp2_with fail
  refine (zByte (W := (w.alloc (.cells #[.int .i64 0, .int .i64 0, .int .i64 0, .string ⟨#[]⟩] 77))) (by exact HM.out) E1.out).mono ?_
  rintro e w2 ⟨rfl, hm, hc⟩
  have HM := Lib.hid hm
  clear hm hc
  go_wp2_with fail
  refine (zTwo (W := (w.alloc (.cells #[.int .i64 0, .int .i64 0, .int .i64 0, .string ⟨#[]⟩] 77))) (by exact HM.out) E2.out).mono ?_
  rintro e w3 ⟨rfl, hm, hc⟩
  have HM := Lib.hid hm
  clear hm hc
  go_wp2_with fail
  refine (zByte (W := (w.alloc (.cells #[.int .i64 0, .int .i64 0, .int .i64 0, .string ⟨#[]⟩] 77))) (by exact HM.out) E3.out).mono ?_
  rintro e w4 ⟨rfl, hm, hc⟩
  have HM := Lib.hid hm
  clear hm hc
  go_wp2_with fail
  refine (zFour (W := (w.alloc (.cells #[.int .i64 0, .int .i64 0, .int .i64 0, .string ⟨#[]⟩] 77))) (by exact HM.out) E4.out).mono ?_
  rintro e w5 ⟨rfl, hm, hc⟩
  have HM := Lib.hid hm
  clear hm hc
  go_wp2_with fail
  refine (zText (m := 65535) (W := (w.alloc (.cells #[.int .i64 0, .int .i64 0, .int .i64 0, .string ⟨#[]⟩] 77))) (by exact HM.out) E5.out).mono ?_
  rintro e w6 ⟨rfl, hm, hc⟩
  have HM := Lib.hid hm
  clear hm hc
  have hlt : w.heap.size + 1 < w6.heap.size := blkLt HM.out.rd
  have HB := Lib.hid (blkAlloc w6 (.cells #[.int .i64 v2, .int .i64 v3, .int .i64 v4, .string v5] 77))
  have HM := Lib.hid (HM.out.kept ((Chg.refl _ w6).alloc (.cells #[.int .i64 v2, .int .i64 v3, .int .i64 v4, .string v5] 77)))
  go_wp2_with fail
  refine (zEnd (W := (w.alloc (.cells #[.int .i64 0, .int .i64 0, .int .i64 0, .string ⟨#[]⟩] 77))) (by exact HM.out) E6.out).mono ?_
  rintro e w7 ⟨rfl, hm, hc⟩
  have hb := hc.obj HB.out (by omega)
  have hx := hm.ch.obj HX.out (fun h => h)
  have hs1 : w.heap.size < w7.heap.size := blkLt hx
  have hs2 : w6.heap.size < w7.heap.size := blkLt hb
  obtain ⟨x0, x1, x2, x3⟩ := askCells hb
  obtain ⟨z0, z1, z2, z3⟩ := askCells hx
  have f0 := blkFree hx 0
  have f1 := blkFree hx 1
  have f2 := blkFree hx 2
  have f3 := blkFree hx 3
  have HCH := Lib.hid hm.ch
  have HBX := Lib.hid hb
  have HZX := Lib.hid hx
  clear hm hc hb hx
  go_wp2_with fail
  refine (fair_no _ ⟨v2, v3, v4, v5⟩ HP.out).mono ?_
  rintro e w8 ⟨rfl, hg⟩
  have hb := hg.obj HBX.out (fun h => h)
  have hx := hg.obj HZX.out (fun h => h)
  clear hs1 hs2 x0 x1 x2 x3 z0 z1 z2 z3 f0 f1 f2 f3
  have hs1 : w.heap.size < w8.heap.size := blkLt hx
  have hs2 : w6.heap.size < w8.heap.size := blkLt hb
  obtain ⟨x0, x1, x2, x3⟩ := askCells hb
  obtain ⟨z0, z1, z2, z3⟩ := askCells hx
  have f0 := blkFree hx 0
  have f1 := blkFree hx 1
  have f2 := blkFree hx 2
  have f3 := blkFree hx 3
  have HCH := Lib.hid (HCH.out.trans hg (fun _ h => h.elim))
  have hx9 := hx
  clear hg hb hx
  obtain ⟨q0, q1, q2, q3⟩ := askCells (box4 hx9 (.int .i64 0) (.int .i64 0) (.int .i64 0) (.string ⟨#[]⟩))
  clear hx9
  go_wp2
  refine bodyPost_ret (v := .tuple #[.agg #[.int .i64 0, .int .i64 0, .int .i64 0, .string ⟨#[]⟩], .int .i64 3]) (by simp [results, go_sem, q0, q1, q2, q3]) rfl ⟨rfl, ?_⟩
  repeat (refine Chg.setCell ?_ (.inr (Nat.le_refl _)) _)
  exact HCH.out.kept
set_option maxRecDepth 100000 in
theorem ReadReply_ok (w : World) (s : ByteArray) (hs : s.size ≤ 140737488351232) (v1 v2 v3 v4 : Int) (v5 : ByteArray) (er : Int) (y1 y2 y3 y4 y5 : RS) (h1 : numF (s, 0) 1 = (v1, y1)) (h2 : numF y1 2 = (v2, y2)) (h3 : numF y2 1 = (v3, y3)) (h4 : numF y3 4 = (v4, y4)) (h5 : textF y4 65535 = (v5, y5)) (h6 : (endF y5).2 = er) (he : (er != 0) = false) (hk : (v1 != 2) = false) (hp : RepV.fair ⟨v2, v3, v4, v5⟩) :
    Calls Try.prog 53 #[.string s] w fun e w' => e = .returned (.tuple #[.agg #[.int .i64 v2, .int .i64 v3, .int .i64 v4, .string v5], .int .i64 0]) ∧ Chg (fun _ => False) w w' := by
  have E1 := Lib.hid h1
  have E2 := Lib.hid h2
  have E3 := Lib.hid h3
  have E4 := Lib.hid h4
  have E5 := Lib.hid h5
  have E6 := Lib.hid h6
  clear h1 h2 h3 h4 h5 h6
  have HP := Lib.hid hp
  clear hp
  have HX := Lib.hid (blkAlloc w (.cells #[.int .i64 0, .int .i64 0, .int .i64 0, .string ⟨#[]⟩] 77))
  have HM : Hid (RMade 59 (w.alloc (.cells #[.int .i64 0, .int .i64 0, .int .i64 0, .string ⟨#[]⟩] 77)) ((w.alloc (.cells #[.int .i64 0, .int .i64 0, .int .i64 0, .string ⟨#[]⟩] 77)).alloc (.cells #[.string s, .int .i64 0] 59)) (w.heap.size + 1) (s, 0)) := Lib.hid (by have h := RMade.fresh 59 (w.alloc (.cells #[.int .i64 0, .int .i64 0, .int .i64 0, .string ⟨#[]⟩] 77)) s hs; rwa [show (w.alloc (.cells #[.int .i64 0, .int .i64 0, .int .i64 0, .string ⟨#[]⟩] 77)).heap.size = w.heap.size + 1 from by simp] at h)
  have HS : Hid ((w.alloc (.cells #[.int .i64 0, .int .i64 0, .int .i64 0, .string ⟨#[]⟩] 77)).heap.size = w.heap.size + 1) := Lib.hid (by simp)
  go_enter Try.func53, Try.ntmps53
  go_wp2_with fail
  refine (Read_calls _ s).mono ?_
  rintro e w1 ⟨rfl, rfl⟩
  go_wp2_with fail
  refine (zByte (W := (w.alloc (.cells #[.int .i64 0, .int .i64 0, .int .i64 0, .string ⟨#[]⟩] 77))) (by exact HM.out) E1.out).mono ?_
  rintro e w2 ⟨rfl, hm, hc⟩
  have HM := Lib.hid hm
  clear hm hc
  go_wp2_with fail
  refine (zTwo (W := (w.alloc (.cells #[.int .i64 0, .int .i64 0, .int .i64 0, .string ⟨#[]⟩] 77))) (by exact HM.out) E2.out).mono ?_
  rintro e w3 ⟨rfl, hm, hc⟩
  have HM := Lib.hid hm
  clear hm hc
  go_wp2_with fail
  refine (zByte (W := (w.alloc (.cells #[.int .i64 0, .int .i64 0, .int .i64 0, .string ⟨#[]⟩] 77))) (by exact HM.out) E3.out).mono ?_
  rintro e w4 ⟨rfl, hm, hc⟩
  have HM := Lib.hid hm
  clear hm hc
  go_wp2_with fail
  refine (zFour (W := (w.alloc (.cells #[.int .i64 0, .int .i64 0, .int .i64 0, .string ⟨#[]⟩] 77))) (by exact HM.out) E4.out).mono ?_
  rintro e w5 ⟨rfl, hm, hc⟩
  have HM := Lib.hid hm
  clear hm hc
  go_wp2_with fail
  refine (zText (m := 65535) (W := (w.alloc (.cells #[.int .i64 0, .int .i64 0, .int .i64 0, .string ⟨#[]⟩] 77))) (by exact HM.out) E5.out).mono ?_
  rintro e w6 ⟨rfl, hm, hc⟩
  have HM := Lib.hid hm
  clear hm hc
  have hlt : w.heap.size + 1 < w6.heap.size := blkLt HM.out.rd
  have HB := Lib.hid (blkAlloc w6 (.cells #[.int .i64 v2, .int .i64 v3, .int .i64 v4, .string v5] 77))
  have HM := Lib.hid (HM.out.kept ((Chg.refl _ w6).alloc (.cells #[.int .i64 v2, .int .i64 v3, .int .i64 v4, .string v5] 77)))
  go_wp2_with fail
  refine (zEnd (W := (w.alloc (.cells #[.int .i64 0, .int .i64 0, .int .i64 0, .string ⟨#[]⟩] 77))) (by exact HM.out) E6.out).mono ?_
  rintro e w7 ⟨rfl, hm, hc⟩
  have hb := hc.obj HB.out (by omega)
  have hx := hm.ch.obj HX.out (fun h => h)
  have hs1 : w.heap.size < w7.heap.size := blkLt hx
  have hs2 : w6.heap.size < w7.heap.size := blkLt hb
  obtain ⟨x0, x1, x2, x3⟩ := askCells hb
  obtain ⟨z0, z1, z2, z3⟩ := askCells hx
  have f0 := blkFree hx 0
  have f1 := blkFree hx 1
  have f2 := blkFree hx 2
  have f3 := blkFree hx 3
  have HCH := Lib.hid hm.ch
  have HBX := Lib.hid hb
  have HZX := Lib.hid hx
  clear hm hc hb hx
  go_wp2_with fail
  refine (fair_yes _ ⟨v2, v3, v4, v5⟩ HP.out).mono ?_
  rintro e w8 ⟨rfl, hg⟩
  have hb := hg.obj HBX.out (fun h => h)
  have hx := hg.obj HZX.out (fun h => h)
  clear hs1 hs2 x0 x1 x2 x3 z0 z1 z2 z3 f0 f1 f2 f3
  have hs1 : w.heap.size < w8.heap.size := blkLt hx
  have hs2 : w6.heap.size < w8.heap.size := blkLt hb
  obtain ⟨x0, x1, x2, x3⟩ := askCells hb
  obtain ⟨z0, z1, z2, z3⟩ := askCells hx
  have f0 := blkFree hx 0
  have f1 := blkFree hx 1
  have f2 := blkFree hx 2
  have f3 := blkFree hx 3
  have HCH := Lib.hid (HCH.out.trans hg (fun _ h => h.elim))
  have hx9 := hx
  clear hg hb hx
  obtain ⟨q0, q1, q2, q3⟩ := askCells (box4 hx9 (.int .i64 v2) (.int .i64 v3) (.int .i64 v4) (.string v5))
  clear hx9
  go_wp2
  refine bodyPost_ret (v := .tuple #[.agg #[.int .i64 v2, .int .i64 v3, .int .i64 v4, .string v5], .int .i64 0]) (by simp [results, go_sem, q0, q1, q2, q3]) rfl ⟨rfl, ?_⟩
  repeat (refine Chg.setCell ?_ (.inr (Nat.le_refl _)) _)
  exact HCH.out.kept
set_option maxRecDepth 100000 in
theorem rReadReply_e (w : World) (s : ByteArray) (hs : s.size ≤ 140737488351232) (v1 v2 v3 v4 : Int) (v5 : ByteArray) (er : Int) (y1 y2 y3 y4 y5 : RS) (h1 : numF (s, 0) 1 = (v1, y1)) (h2 : numF y1 2 = (v2, y2)) (h3 : numF y2 1 = (v3, y3)) (h4 : numF y3 4 = (v4, y4)) (h5 : textF y4 65535 = (v5, y5)) (h6 : (endF y5).2 = er) (he : (er != 0) = true) :
    Calls Try.prog 54 #[.string s] w fun e w' => e = .returned (.tuple #[.agg #[.int .i64 0, .int .i64 0, .int .i64 0, .string ⟨#[]⟩], .int .i64 3]) ∧ Chg (fun _ => False) w w' := by
  have E1 := Lib.hid h1
  have E2 := Lib.hid h2
  have E3 := Lib.hid h3
  have E4 := Lib.hid h4
  have E5 := Lib.hid h5
  have E6 := Lib.hid h6
  clear h1 h2 h3 h4 h5 h6
  have HX := Lib.hid (blkAlloc w (.cells #[.int .i64 0, .int .i64 0, .int .i64 0, .string ⟨#[]⟩] 77))
  have HM : Hid (RMade 62 (w.alloc (.cells #[.int .i64 0, .int .i64 0, .int .i64 0, .string ⟨#[]⟩] 77)) ((w.alloc (.cells #[.int .i64 0, .int .i64 0, .int .i64 0, .string ⟨#[]⟩] 77)).alloc (.cells #[.string s, .int .i64 0] 62)) (w.heap.size + 1) (s, 0)) := Lib.hid (by have h := RMade.fresh 62 (w.alloc (.cells #[.int .i64 0, .int .i64 0, .int .i64 0, .string ⟨#[]⟩] 77)) s hs; rwa [show (w.alloc (.cells #[.int .i64 0, .int .i64 0, .int .i64 0, .string ⟨#[]⟩] 77)).heap.size = w.heap.size + 1 from by simp] at h)
  have HS : Hid ((w.alloc (.cells #[.int .i64 0, .int .i64 0, .int .i64 0, .string ⟨#[]⟩] 77)).heap.size = w.heap.size + 1) := Lib.hid (by simp)
  go_enter Try.func54, Try.ntmps54
  go_wp2_with fail
  refine (rRead_calls _ s).mono ?_
  rintro e w1 ⟨rfl, rfl⟩
  go_wp2_with fail
  refine (yNum1 (W := (w.alloc (.cells #[.int .i64 0, .int .i64 0, .int .i64 0, .string ⟨#[]⟩] 77))) (by exact HM.out) E1.out).mono ?_
  rintro e w2 ⟨rfl, hm, hc⟩
  have hlt : w.heap.size + 1 < w2.heap.size := blkLt hm.rd
  have HB := Lib.hid (blkAlloc w2 (.cells #[.int .i64 0, .int .i64 0, .int .i64 0, .string ⟨#[]⟩] 77))
  have HM := Lib.hid (hm.kept ((Chg.refl _ w2).alloc (.cells #[.int .i64 0, .int .i64 0, .int .i64 0, .string ⟨#[]⟩] 77)))
  clear hm hc
  go_wp2_with fail
  refine (yNum2 (W := (w.alloc (.cells #[.int .i64 0, .int .i64 0, .int .i64 0, .string ⟨#[]⟩] 77))) (by exact HM.out) E2.out).mono ?_
  rintro e w3 ⟨rfl, hm, hc⟩
  have hb := hc.obj HB.out (by omega)
  have hsz : w2.heap.size < w3.heap.size := blkLt hb
  have fz := blkFree hb 0
  obtain ⟨x0, x1, x2, x3⟩ := askCells hb
  have HB : Hid ((w3.setCell ⟨w2.heap.size, 0, none⟩ (.int .i64 v2)).heap[w2.heap.size]? = some (.cells #[.int .i64 v2, .int .i64 0, .int .i64 0, .string ⟨#[]⟩] 77 (0, 0))) := Lib.hid (by simpa using blkSet hb 0 (.int .i64 v2))
  have HM := Lib.hid (hm.set (g := w2.heap.size) (by omega) (by rw [HS.out]; omega) 0 (.int .i64 v2))
  clear hm hc hb
  go_wp2_with fail
  refine (yNum1 (W := (w.alloc (.cells #[.int .i64 0, .int .i64 0, .int .i64 0, .string ⟨#[]⟩] 77))) (by exact HM.out) E3.out).mono ?_
  rintro e w4 ⟨rfl, hm, hc⟩
  have hb := hc.obj HB.out (by omega)
  clear hsz fz x0 x1 x2 x3
  have hsz : w2.heap.size < w4.heap.size := blkLt hb
  have fz := blkFree hb 1
  obtain ⟨x0, x1, x2, x3⟩ := askCells hb
  have HB : Hid ((w4.setCell ⟨w2.heap.size, 1, none⟩ (.int .i64 v3)).heap[w2.heap.size]? = some (.cells #[.int .i64 v2, .int .i64 v3, .int .i64 0, .string ⟨#[]⟩] 77 (0, 0))) := Lib.hid (by simpa using blkSet hb 1 (.int .i64 v3))
  have HM := Lib.hid (hm.set (g := w2.heap.size) (by omega) (by rw [HS.out]; omega) 1 (.int .i64 v3))
  clear hm hc hb
  go_wp2_with fail
  refine (yNum4 (W := (w.alloc (.cells #[.int .i64 0, .int .i64 0, .int .i64 0, .string ⟨#[]⟩] 77))) (by exact HM.out) E4.out).mono ?_
  rintro e w5 ⟨rfl, hm, hc⟩
  have hb := hc.obj HB.out (by omega)
  clear hsz fz x0 x1 x2 x3
  have hsz : w2.heap.size < w5.heap.size := blkLt hb
  have fz := blkFree hb 2
  obtain ⟨x0, x1, x2, x3⟩ := askCells hb
  have HB : Hid ((w5.setCell ⟨w2.heap.size, 2, none⟩ (.int .i64 v4)).heap[w2.heap.size]? = some (.cells #[.int .i64 v2, .int .i64 v3, .int .i64 v4, .string ⟨#[]⟩] 77 (0, 0))) := Lib.hid (by simpa using blkSet hb 2 (.int .i64 v4))
  have HM := Lib.hid (hm.set (g := w2.heap.size) (by omega) (by rw [HS.out]; omega) 2 (.int .i64 v4))
  clear hm hc hb
  go_wp2_with fail
  refine (yText (m := 65535) (W := (w.alloc (.cells #[.int .i64 0, .int .i64 0, .int .i64 0, .string ⟨#[]⟩] 77))) (by exact HM.out) E5.out).mono ?_
  rintro e w6 ⟨rfl, hm, hc⟩
  have hb := hc.obj HB.out (by omega)
  clear hsz fz x0 x1 x2 x3
  have hsz : w2.heap.size < w6.heap.size := blkLt hb
  have fz := blkFree hb 3
  obtain ⟨x0, x1, x2, x3⟩ := askCells hb
  have HB : Hid ((w6.setCell ⟨w2.heap.size, 3, none⟩ (.string v5)).heap[w2.heap.size]? = some (.cells #[.int .i64 v2, .int .i64 v3, .int .i64 v4, .string v5] 77 (0, 0))) := Lib.hid (by simpa using blkSet hb 3 (.string v5))
  have HM := Lib.hid (hm.set (g := w2.heap.size) (by omega) (by rw [HS.out]; omega) 3 (.string v5))
  clear hm hc hb
  go_wp2_with fail
  refine (yEnd (W := (w.alloc (.cells #[.int .i64 0, .int .i64 0, .int .i64 0, .string ⟨#[]⟩] 77))) (by exact HM.out) E6.out).mono ?_
  rintro e w7 ⟨rfl, hm, hc⟩
  clear hsz fz x0 x1 x2 x3
  have hb := hc.obj HB.out (by omega)
  have hx := hm.ch.obj HX.out (fun h => h)
  have hs1 : w.heap.size < w7.heap.size := blkLt hx
  have hs2 : w2.heap.size < w7.heap.size := blkLt hb
  obtain ⟨x0, x1, x2, x3⟩ := askCells hb
  obtain ⟨z0, z1, z2, z3⟩ := askCells hx
  have f0 := blkFree hx 0
  have f1 := blkFree hx 1
  have f2 := blkFree hx 2
  have f3 := blkFree hx 3
  have HCH := Lib.hid hm.ch
  have HBX := Lib.hid hb
  have HZX := Lib.hid hx
  clear hm hc hb hx
  obtain ⟨q0, q1, q2, q3⟩ := askCells (box4 HZX.out (.int .i64 0) (.int .i64 0) (.int .i64 0) (.string ⟨#[]⟩))
  go_wp2
  refine bodyPost_ret (v := .tuple #[.agg #[.int .i64 0, .int .i64 0, .int .i64 0, .string ⟨#[]⟩], .int .i64 3]) (by simp [results, go_sem, q0, q1, q2, q3]) rfl ⟨rfl, ?_⟩
  repeat (refine Chg.setCell ?_ (.inr (Nat.le_refl _)) _)
  exact HCH.out.kept
set_option maxRecDepth 100000 in
theorem rReadReply_k (w : World) (s : ByteArray) (hs : s.size ≤ 140737488351232) (v1 v2 v3 v4 : Int) (v5 : ByteArray) (er : Int) (y1 y2 y3 y4 y5 : RS) (h1 : numF (s, 0) 1 = (v1, y1)) (h2 : numF y1 2 = (v2, y2)) (h3 : numF y2 1 = (v3, y3)) (h4 : numF y3 4 = (v4, y4)) (h5 : textF y4 65535 = (v5, y5)) (h6 : (endF y5).2 = er) (he : (er != 0) = false) (hk : (v1 != 2) = true) :
    Calls Try.prog 54 #[.string s] w fun e w' => e = .returned (.tuple #[.agg #[.int .i64 0, .int .i64 0, .int .i64 0, .string ⟨#[]⟩], .int .i64 3]) ∧ Chg (fun _ => False) w w' := by
  have E1 := Lib.hid h1
  have E2 := Lib.hid h2
  have E3 := Lib.hid h3
  have E4 := Lib.hid h4
  have E5 := Lib.hid h5
  have E6 := Lib.hid h6
  clear h1 h2 h3 h4 h5 h6
  have HX := Lib.hid (blkAlloc w (.cells #[.int .i64 0, .int .i64 0, .int .i64 0, .string ⟨#[]⟩] 77))
  have HM : Hid (RMade 62 (w.alloc (.cells #[.int .i64 0, .int .i64 0, .int .i64 0, .string ⟨#[]⟩] 77)) ((w.alloc (.cells #[.int .i64 0, .int .i64 0, .int .i64 0, .string ⟨#[]⟩] 77)).alloc (.cells #[.string s, .int .i64 0] 62)) (w.heap.size + 1) (s, 0)) := Lib.hid (by have h := RMade.fresh 62 (w.alloc (.cells #[.int .i64 0, .int .i64 0, .int .i64 0, .string ⟨#[]⟩] 77)) s hs; rwa [show (w.alloc (.cells #[.int .i64 0, .int .i64 0, .int .i64 0, .string ⟨#[]⟩] 77)).heap.size = w.heap.size + 1 from by simp] at h)
  have HS : Hid ((w.alloc (.cells #[.int .i64 0, .int .i64 0, .int .i64 0, .string ⟨#[]⟩] 77)).heap.size = w.heap.size + 1) := Lib.hid (by simp)
  go_enter Try.func54, Try.ntmps54
  go_wp2_with fail
  refine (rRead_calls _ s).mono ?_
  rintro e w1 ⟨rfl, rfl⟩
  go_wp2_with fail
  refine (yNum1 (W := (w.alloc (.cells #[.int .i64 0, .int .i64 0, .int .i64 0, .string ⟨#[]⟩] 77))) (by exact HM.out) E1.out).mono ?_
  rintro e w2 ⟨rfl, hm, hc⟩
  have hlt : w.heap.size + 1 < w2.heap.size := blkLt hm.rd
  have HB := Lib.hid (blkAlloc w2 (.cells #[.int .i64 0, .int .i64 0, .int .i64 0, .string ⟨#[]⟩] 77))
  have HM := Lib.hid (hm.kept ((Chg.refl _ w2).alloc (.cells #[.int .i64 0, .int .i64 0, .int .i64 0, .string ⟨#[]⟩] 77)))
  clear hm hc
  go_wp2_with fail
  refine (yNum2 (W := (w.alloc (.cells #[.int .i64 0, .int .i64 0, .int .i64 0, .string ⟨#[]⟩] 77))) (by exact HM.out) E2.out).mono ?_
  rintro e w3 ⟨rfl, hm, hc⟩
  have hb := hc.obj HB.out (by omega)
  have hsz : w2.heap.size < w3.heap.size := blkLt hb
  have fz := blkFree hb 0
  obtain ⟨x0, x1, x2, x3⟩ := askCells hb
  have HB : Hid ((w3.setCell ⟨w2.heap.size, 0, none⟩ (.int .i64 v2)).heap[w2.heap.size]? = some (.cells #[.int .i64 v2, .int .i64 0, .int .i64 0, .string ⟨#[]⟩] 77 (0, 0))) := Lib.hid (by simpa using blkSet hb 0 (.int .i64 v2))
  have HM := Lib.hid (hm.set (g := w2.heap.size) (by omega) (by rw [HS.out]; omega) 0 (.int .i64 v2))
  clear hm hc hb
  go_wp2_with fail
  refine (yNum1 (W := (w.alloc (.cells #[.int .i64 0, .int .i64 0, .int .i64 0, .string ⟨#[]⟩] 77))) (by exact HM.out) E3.out).mono ?_
  rintro e w4 ⟨rfl, hm, hc⟩
  have hb := hc.obj HB.out (by omega)
  clear hsz fz x0 x1 x2 x3
  have hsz : w2.heap.size < w4.heap.size := blkLt hb
  have fz := blkFree hb 1
  obtain ⟨x0, x1, x2, x3⟩ := askCells hb
  have HB : Hid ((w4.setCell ⟨w2.heap.size, 1, none⟩ (.int .i64 v3)).heap[w2.heap.size]? = some (.cells #[.int .i64 v2, .int .i64 v3, .int .i64 0, .string ⟨#[]⟩] 77 (0, 0))) := Lib.hid (by simpa using blkSet hb 1 (.int .i64 v3))
  have HM := Lib.hid (hm.set (g := w2.heap.size) (by omega) (by rw [HS.out]; omega) 1 (.int .i64 v3))
  clear hm hc hb
  go_wp2_with fail
  refine (yNum4 (W := (w.alloc (.cells #[.int .i64 0, .int .i64 0, .int .i64 0, .string ⟨#[]⟩] 77))) (by exact HM.out) E4.out).mono ?_
  rintro e w5 ⟨rfl, hm, hc⟩
  have hb := hc.obj HB.out (by omega)
  clear hsz fz x0 x1 x2 x3
  have hsz : w2.heap.size < w5.heap.size := blkLt hb
  have fz := blkFree hb 2
  obtain ⟨x0, x1, x2, x3⟩ := askCells hb
  have HB : Hid ((w5.setCell ⟨w2.heap.size, 2, none⟩ (.int .i64 v4)).heap[w2.heap.size]? = some (.cells #[.int .i64 v2, .int .i64 v3, .int .i64 v4, .string ⟨#[]⟩] 77 (0, 0))) := Lib.hid (by simpa using blkSet hb 2 (.int .i64 v4))
  have HM := Lib.hid (hm.set (g := w2.heap.size) (by omega) (by rw [HS.out]; omega) 2 (.int .i64 v4))
  clear hm hc hb
  go_wp2_with fail
  refine (yText (m := 65535) (W := (w.alloc (.cells #[.int .i64 0, .int .i64 0, .int .i64 0, .string ⟨#[]⟩] 77))) (by exact HM.out) E5.out).mono ?_
  rintro e w6 ⟨rfl, hm, hc⟩
  have hb := hc.obj HB.out (by omega)
  clear hsz fz x0 x1 x2 x3
  have hsz : w2.heap.size < w6.heap.size := blkLt hb
  have fz := blkFree hb 3
  obtain ⟨x0, x1, x2, x3⟩ := askCells hb
  have HB : Hid ((w6.setCell ⟨w2.heap.size, 3, none⟩ (.string v5)).heap[w2.heap.size]? = some (.cells #[.int .i64 v2, .int .i64 v3, .int .i64 v4, .string v5] 77 (0, 0))) := Lib.hid (by simpa using blkSet hb 3 (.string v5))
  have HM := Lib.hid (hm.set (g := w2.heap.size) (by omega) (by rw [HS.out]; omega) 3 (.string v5))
  clear hm hc hb
  go_wp2_with fail
  refine (yEnd (W := (w.alloc (.cells #[.int .i64 0, .int .i64 0, .int .i64 0, .string ⟨#[]⟩] 77))) (by exact HM.out) E6.out).mono ?_
  rintro e w7 ⟨rfl, hm, hc⟩
  clear hsz fz x0 x1 x2 x3
  have hb := hc.obj HB.out (by omega)
  have hx := hm.ch.obj HX.out (fun h => h)
  have hs1 : w.heap.size < w7.heap.size := blkLt hx
  have hs2 : w2.heap.size < w7.heap.size := blkLt hb
  obtain ⟨x0, x1, x2, x3⟩ := askCells hb
  obtain ⟨z0, z1, z2, z3⟩ := askCells hx
  have f0 := blkFree hx 0
  have f1 := blkFree hx 1
  have f2 := blkFree hx 2
  have f3 := blkFree hx 3
  have HCH := Lib.hid hm.ch
  have HBX := Lib.hid hb
  have HZX := Lib.hid hx
  clear hm hc hb hx
  obtain ⟨q0, q1, q2, q3⟩ := askCells (box4 HZX.out (.int .i64 0) (.int .i64 0) (.int .i64 0) (.string ⟨#[]⟩))
  go_wp2
  refine bodyPost_ret (v := .tuple #[.agg #[.int .i64 0, .int .i64 0, .int .i64 0, .string ⟨#[]⟩], .int .i64 3]) (by simp [results, go_sem, q0, q1, q2, q3]) rfl ⟨rfl, ?_⟩
  repeat (refine Chg.setCell ?_ (.inr (Nat.le_refl _)) _)
  exact HCH.out.kept
set_option maxRecDepth 100000 in
theorem rReadReply_p1 (w : World) (s : ByteArray) (hs : s.size ≤ 140737488351232) (v1 v2 v3 v4 : Int) (v5 : ByteArray) (er : Int) (y1 y2 y3 y4 y5 : RS) (h1 : numF (s, 0) 1 = (v1, y1)) (h2 : numF y1 2 = (v2, y2)) (h3 : numF y2 1 = (v3, y3)) (h4 : numF y3 4 = (v4, y4)) (h5 : textF y4 65535 = (v5, y5)) (h6 : (endF y5).2 = er) (he : (er != 0) = false) (hk : (v1 != 2) = false) (hb : (v3 != 0) = true) (hz : (v4 != 0) = true) :
    Calls Try.prog 54 #[.string s] w fun e w' => e = .returned (.tuple #[.agg #[.int .i64 0, .int .i64 0, .int .i64 0, .string ⟨#[]⟩], .int .i64 3]) ∧ Chg (fun _ => False) w w' := by
  have E1 := Lib.hid h1
  have E2 := Lib.hid h2
  have E3 := Lib.hid h3
  have E4 := Lib.hid h4
  have E5 := Lib.hid h5
  have E6 := Lib.hid h6
  clear h1 h2 h3 h4 h5 h6
  have HX := Lib.hid (blkAlloc w (.cells #[.int .i64 0, .int .i64 0, .int .i64 0, .string ⟨#[]⟩] 77))
  have HM : Hid (RMade 62 (w.alloc (.cells #[.int .i64 0, .int .i64 0, .int .i64 0, .string ⟨#[]⟩] 77)) ((w.alloc (.cells #[.int .i64 0, .int .i64 0, .int .i64 0, .string ⟨#[]⟩] 77)).alloc (.cells #[.string s, .int .i64 0] 62)) (w.heap.size + 1) (s, 0)) := Lib.hid (by have h := RMade.fresh 62 (w.alloc (.cells #[.int .i64 0, .int .i64 0, .int .i64 0, .string ⟨#[]⟩] 77)) s hs; rwa [show (w.alloc (.cells #[.int .i64 0, .int .i64 0, .int .i64 0, .string ⟨#[]⟩] 77)).heap.size = w.heap.size + 1 from by simp] at h)
  have HS : Hid ((w.alloc (.cells #[.int .i64 0, .int .i64 0, .int .i64 0, .string ⟨#[]⟩] 77)).heap.size = w.heap.size + 1) := Lib.hid (by simp)
  go_enter Try.func54, Try.ntmps54
  go_wp2_with fail
  refine (rRead_calls _ s).mono ?_
  rintro e w1 ⟨rfl, rfl⟩
  go_wp2_with fail
  refine (yNum1 (W := (w.alloc (.cells #[.int .i64 0, .int .i64 0, .int .i64 0, .string ⟨#[]⟩] 77))) (by exact HM.out) E1.out).mono ?_
  rintro e w2 ⟨rfl, hm, hc⟩
  have hlt : w.heap.size + 1 < w2.heap.size := blkLt hm.rd
  have HB := Lib.hid (blkAlloc w2 (.cells #[.int .i64 0, .int .i64 0, .int .i64 0, .string ⟨#[]⟩] 77))
  have HM := Lib.hid (hm.kept ((Chg.refl _ w2).alloc (.cells #[.int .i64 0, .int .i64 0, .int .i64 0, .string ⟨#[]⟩] 77)))
  clear hm hc
  go_wp2_with fail
  refine (yNum2 (W := (w.alloc (.cells #[.int .i64 0, .int .i64 0, .int .i64 0, .string ⟨#[]⟩] 77))) (by exact HM.out) E2.out).mono ?_
  rintro e w3 ⟨rfl, hm, hc⟩
  have hb := hc.obj HB.out (by omega)
  have hsz : w2.heap.size < w3.heap.size := blkLt hb
  have fz := blkFree hb 0
  obtain ⟨x0, x1, x2, x3⟩ := askCells hb
  have HB : Hid ((w3.setCell ⟨w2.heap.size, 0, none⟩ (.int .i64 v2)).heap[w2.heap.size]? = some (.cells #[.int .i64 v2, .int .i64 0, .int .i64 0, .string ⟨#[]⟩] 77 (0, 0))) := Lib.hid (by simpa using blkSet hb 0 (.int .i64 v2))
  have HM := Lib.hid (hm.set (g := w2.heap.size) (by omega) (by rw [HS.out]; omega) 0 (.int .i64 v2))
  clear hm hc hb
  go_wp2_with fail
  refine (yNum1 (W := (w.alloc (.cells #[.int .i64 0, .int .i64 0, .int .i64 0, .string ⟨#[]⟩] 77))) (by exact HM.out) E3.out).mono ?_
  rintro e w4 ⟨rfl, hm, hc⟩
  have hb := hc.obj HB.out (by omega)
  clear hsz fz x0 x1 x2 x3
  have hsz : w2.heap.size < w4.heap.size := blkLt hb
  have fz := blkFree hb 1
  obtain ⟨x0, x1, x2, x3⟩ := askCells hb
  have HB : Hid ((w4.setCell ⟨w2.heap.size, 1, none⟩ (.int .i64 v3)).heap[w2.heap.size]? = some (.cells #[.int .i64 v2, .int .i64 v3, .int .i64 0, .string ⟨#[]⟩] 77 (0, 0))) := Lib.hid (by simpa using blkSet hb 1 (.int .i64 v3))
  have HM := Lib.hid (hm.set (g := w2.heap.size) (by omega) (by rw [HS.out]; omega) 1 (.int .i64 v3))
  clear hm hc hb
  go_wp2_with fail
  refine (yNum4 (W := (w.alloc (.cells #[.int .i64 0, .int .i64 0, .int .i64 0, .string ⟨#[]⟩] 77))) (by exact HM.out) E4.out).mono ?_
  rintro e w5 ⟨rfl, hm, hc⟩
  have hb := hc.obj HB.out (by omega)
  clear hsz fz x0 x1 x2 x3
  have hsz : w2.heap.size < w5.heap.size := blkLt hb
  have fz := blkFree hb 2
  obtain ⟨x0, x1, x2, x3⟩ := askCells hb
  have HB : Hid ((w5.setCell ⟨w2.heap.size, 2, none⟩ (.int .i64 v4)).heap[w2.heap.size]? = some (.cells #[.int .i64 v2, .int .i64 v3, .int .i64 v4, .string ⟨#[]⟩] 77 (0, 0))) := Lib.hid (by simpa using blkSet hb 2 (.int .i64 v4))
  have HM := Lib.hid (hm.set (g := w2.heap.size) (by omega) (by rw [HS.out]; omega) 2 (.int .i64 v4))
  clear hm hc hb
  go_wp2_with fail
  refine (yText (m := 65535) (W := (w.alloc (.cells #[.int .i64 0, .int .i64 0, .int .i64 0, .string ⟨#[]⟩] 77))) (by exact HM.out) E5.out).mono ?_
  rintro e w6 ⟨rfl, hm, hc⟩
  have hb := hc.obj HB.out (by omega)
  clear hsz fz x0 x1 x2 x3
  have hsz : w2.heap.size < w6.heap.size := blkLt hb
  have fz := blkFree hb 3
  obtain ⟨x0, x1, x2, x3⟩ := askCells hb
  have HB : Hid ((w6.setCell ⟨w2.heap.size, 3, none⟩ (.string v5)).heap[w2.heap.size]? = some (.cells #[.int .i64 v2, .int .i64 v3, .int .i64 v4, .string v5] 77 (0, 0))) := Lib.hid (by simpa using blkSet hb 3 (.string v5))
  have HM := Lib.hid (hm.set (g := w2.heap.size) (by omega) (by rw [HS.out]; omega) 3 (.string v5))
  clear hm hc hb
  go_wp2_with fail
  refine (yEnd (W := (w.alloc (.cells #[.int .i64 0, .int .i64 0, .int .i64 0, .string ⟨#[]⟩] 77))) (by exact HM.out) E6.out).mono ?_
  rintro e w7 ⟨rfl, hm, hc⟩
  clear hsz fz x0 x1 x2 x3
  have hb := hc.obj HB.out (by omega)
  have hx := hm.ch.obj HX.out (fun h => h)
  have hs1 : w.heap.size < w7.heap.size := blkLt hx
  have hs2 : w2.heap.size < w7.heap.size := blkLt hb
  obtain ⟨x0, x1, x2, x3⟩ := askCells hb
  obtain ⟨z0, z1, z2, z3⟩ := askCells hx
  have f0 := blkFree hx 0
  have f1 := blkFree hx 1
  have f2 := blkFree hx 2
  have f3 := blkFree hx 3
  have HCH := Lib.hid hm.ch
  have HBX := Lib.hid hb
  have HZX := Lib.hid hx
  clear hm hc hb hx
  obtain ⟨q0, q1, q2, q3⟩ := askCells (box4 HZX.out (.int .i64 0) (.int .i64 0) (.int .i64 0) (.string ⟨#[]⟩))
  go_wp2
  refine bodyPost_ret (v := .tuple #[.agg #[.int .i64 0, .int .i64 0, .int .i64 0, .string ⟨#[]⟩], .int .i64 3]) (by simp [results, go_sem, q0, q1, q2, q3]) rfl ⟨rfl, ?_⟩
  repeat (refine Chg.setCell ?_ (.inr (Nat.le_refl _)) _)
  exact HCH.out.kept
set_option maxRecDepth 100000 in
theorem rReadReply_p2 (w : World) (s : ByteArray) (hs : s.size ≤ 140737488351232) (v1 v2 v3 v4 : Int) (v5 : ByteArray) (er : Int) (y1 y2 y3 y4 y5 : RS) (h1 : numF (s, 0) 1 = (v1, y1)) (h2 : numF y1 2 = (v2, y2)) (h3 : numF y2 1 = (v3, y3)) (h4 : numF y3 4 = (v4, y4)) (h5 : textF y4 65535 = (v5, y5)) (h6 : (endF y5).2 = er) (he : (er != 0) = false) (hk : (v1 != 2) = false) (hb : (v3 != 0) = true) (hz : (v4 != 0) = false) (hd : (v5.toList == []) = false) :
    Calls Try.prog 54 #[.string s] w fun e w' => e = .returned (.tuple #[.agg #[.int .i64 0, .int .i64 0, .int .i64 0, .string ⟨#[]⟩], .int .i64 3]) ∧ Chg (fun _ => False) w w' := by
  have E1 := Lib.hid h1
  have E2 := Lib.hid h2
  have E3 := Lib.hid h3
  have E4 := Lib.hid h4
  have E5 := Lib.hid h5
  have E6 := Lib.hid h6
  clear h1 h2 h3 h4 h5 h6
  have hd2 := str_full hd
  have HX := Lib.hid (blkAlloc w (.cells #[.int .i64 0, .int .i64 0, .int .i64 0, .string ⟨#[]⟩] 77))
  have HM : Hid (RMade 62 (w.alloc (.cells #[.int .i64 0, .int .i64 0, .int .i64 0, .string ⟨#[]⟩] 77)) ((w.alloc (.cells #[.int .i64 0, .int .i64 0, .int .i64 0, .string ⟨#[]⟩] 77)).alloc (.cells #[.string s, .int .i64 0] 62)) (w.heap.size + 1) (s, 0)) := Lib.hid (by have h := RMade.fresh 62 (w.alloc (.cells #[.int .i64 0, .int .i64 0, .int .i64 0, .string ⟨#[]⟩] 77)) s hs; rwa [show (w.alloc (.cells #[.int .i64 0, .int .i64 0, .int .i64 0, .string ⟨#[]⟩] 77)).heap.size = w.heap.size + 1 from by simp] at h)
  have HS : Hid ((w.alloc (.cells #[.int .i64 0, .int .i64 0, .int .i64 0, .string ⟨#[]⟩] 77)).heap.size = w.heap.size + 1) := Lib.hid (by simp)
  go_enter Try.func54, Try.ntmps54
  go_wp2_with fail
  refine (rRead_calls _ s).mono ?_
  rintro e w1 ⟨rfl, rfl⟩
  go_wp2_with fail
  refine (yNum1 (W := (w.alloc (.cells #[.int .i64 0, .int .i64 0, .int .i64 0, .string ⟨#[]⟩] 77))) (by exact HM.out) E1.out).mono ?_
  rintro e w2 ⟨rfl, hm, hc⟩
  have hlt : w.heap.size + 1 < w2.heap.size := blkLt hm.rd
  have HB := Lib.hid (blkAlloc w2 (.cells #[.int .i64 0, .int .i64 0, .int .i64 0, .string ⟨#[]⟩] 77))
  have HM := Lib.hid (hm.kept ((Chg.refl _ w2).alloc (.cells #[.int .i64 0, .int .i64 0, .int .i64 0, .string ⟨#[]⟩] 77)))
  clear hm hc
  go_wp2_with fail
  refine (yNum2 (W := (w.alloc (.cells #[.int .i64 0, .int .i64 0, .int .i64 0, .string ⟨#[]⟩] 77))) (by exact HM.out) E2.out).mono ?_
  rintro e w3 ⟨rfl, hm, hc⟩
  have hb := hc.obj HB.out (by omega)
  have hsz : w2.heap.size < w3.heap.size := blkLt hb
  have fz := blkFree hb 0
  obtain ⟨x0, x1, x2, x3⟩ := askCells hb
  have HB : Hid ((w3.setCell ⟨w2.heap.size, 0, none⟩ (.int .i64 v2)).heap[w2.heap.size]? = some (.cells #[.int .i64 v2, .int .i64 0, .int .i64 0, .string ⟨#[]⟩] 77 (0, 0))) := Lib.hid (by simpa using blkSet hb 0 (.int .i64 v2))
  have HM := Lib.hid (hm.set (g := w2.heap.size) (by omega) (by rw [HS.out]; omega) 0 (.int .i64 v2))
  clear hm hc hb
  go_wp2_with fail
  refine (yNum1 (W := (w.alloc (.cells #[.int .i64 0, .int .i64 0, .int .i64 0, .string ⟨#[]⟩] 77))) (by exact HM.out) E3.out).mono ?_
  rintro e w4 ⟨rfl, hm, hc⟩
  have hb := hc.obj HB.out (by omega)
  clear hsz fz x0 x1 x2 x3
  have hsz : w2.heap.size < w4.heap.size := blkLt hb
  have fz := blkFree hb 1
  obtain ⟨x0, x1, x2, x3⟩ := askCells hb
  have HB : Hid ((w4.setCell ⟨w2.heap.size, 1, none⟩ (.int .i64 v3)).heap[w2.heap.size]? = some (.cells #[.int .i64 v2, .int .i64 v3, .int .i64 0, .string ⟨#[]⟩] 77 (0, 0))) := Lib.hid (by simpa using blkSet hb 1 (.int .i64 v3))
  have HM := Lib.hid (hm.set (g := w2.heap.size) (by omega) (by rw [HS.out]; omega) 1 (.int .i64 v3))
  clear hm hc hb
  go_wp2_with fail
  refine (yNum4 (W := (w.alloc (.cells #[.int .i64 0, .int .i64 0, .int .i64 0, .string ⟨#[]⟩] 77))) (by exact HM.out) E4.out).mono ?_
  rintro e w5 ⟨rfl, hm, hc⟩
  have hb := hc.obj HB.out (by omega)
  clear hsz fz x0 x1 x2 x3
  have hsz : w2.heap.size < w5.heap.size := blkLt hb
  have fz := blkFree hb 2
  obtain ⟨x0, x1, x2, x3⟩ := askCells hb
  have HB : Hid ((w5.setCell ⟨w2.heap.size, 2, none⟩ (.int .i64 v4)).heap[w2.heap.size]? = some (.cells #[.int .i64 v2, .int .i64 v3, .int .i64 v4, .string ⟨#[]⟩] 77 (0, 0))) := Lib.hid (by simpa using blkSet hb 2 (.int .i64 v4))
  have HM := Lib.hid (hm.set (g := w2.heap.size) (by omega) (by rw [HS.out]; omega) 2 (.int .i64 v4))
  clear hm hc hb
  go_wp2_with fail
  refine (yText (m := 65535) (W := (w.alloc (.cells #[.int .i64 0, .int .i64 0, .int .i64 0, .string ⟨#[]⟩] 77))) (by exact HM.out) E5.out).mono ?_
  rintro e w6 ⟨rfl, hm, hc⟩
  have hb := hc.obj HB.out (by omega)
  clear hsz fz x0 x1 x2 x3
  have hsz : w2.heap.size < w6.heap.size := blkLt hb
  have fz := blkFree hb 3
  obtain ⟨x0, x1, x2, x3⟩ := askCells hb
  have HB : Hid ((w6.setCell ⟨w2.heap.size, 3, none⟩ (.string v5)).heap[w2.heap.size]? = some (.cells #[.int .i64 v2, .int .i64 v3, .int .i64 v4, .string v5] 77 (0, 0))) := Lib.hid (by simpa using blkSet hb 3 (.string v5))
  have HM := Lib.hid (hm.set (g := w2.heap.size) (by omega) (by rw [HS.out]; omega) 3 (.string v5))
  clear hm hc hb
  go_wp2_with fail
  refine (yEnd (W := (w.alloc (.cells #[.int .i64 0, .int .i64 0, .int .i64 0, .string ⟨#[]⟩] 77))) (by exact HM.out) E6.out).mono ?_
  rintro e w7 ⟨rfl, hm, hc⟩
  clear hsz fz x0 x1 x2 x3
  have hb := hc.obj HB.out (by omega)
  have hx := hm.ch.obj HX.out (fun h => h)
  have hs1 : w.heap.size < w7.heap.size := blkLt hx
  have hs2 : w2.heap.size < w7.heap.size := blkLt hb
  obtain ⟨x0, x1, x2, x3⟩ := askCells hb
  obtain ⟨z0, z1, z2, z3⟩ := askCells hx
  have f0 := blkFree hx 0
  have f1 := blkFree hx 1
  have f2 := blkFree hx 2
  have f3 := blkFree hx 3
  have HCH := Lib.hid hm.ch
  have HBX := Lib.hid hb
  have HZX := Lib.hid hx
  clear hm hc hb hx
  obtain ⟨q0, q1, q2, q3⟩ := askCells (box4 HZX.out (.int .i64 0) (.int .i64 0) (.int .i64 0) (.string ⟨#[]⟩))
  go_wp2
  refine bodyPost_ret (v := .tuple #[.agg #[.int .i64 0, .int .i64 0, .int .i64 0, .string ⟨#[]⟩], .int .i64 3]) (by simp [results, go_sem, q0, q1, q2, q3]) rfl ⟨rfl, ?_⟩
  repeat (refine Chg.setCell ?_ (.inr (Nat.le_refl _)) _)
  exact HCH.out.kept
set_option maxRecDepth 100000 in
theorem rReadReply_ok1 (w : World) (s : ByteArray) (hs : s.size ≤ 140737488351232) (v1 v2 v3 v4 : Int) (v5 : ByteArray) (er : Int) (y1 y2 y3 y4 y5 : RS) (h1 : numF (s, 0) 1 = (v1, y1)) (h2 : numF y1 2 = (v2, y2)) (h3 : numF y2 1 = (v3, y3)) (h4 : numF y3 4 = (v4, y4)) (h5 : textF y4 65535 = (v5, y5)) (h6 : (endF y5).2 = er) (he : (er != 0) = false) (hk : (v1 != 2) = false) (hb : (v3 != 0) = false) :
    Calls Try.prog 54 #[.string s] w fun e w' => e = .returned (.tuple #[.agg #[.int .i64 v2, .int .i64 v3, .int .i64 v4, .string v5], .int .i64 0]) ∧ Chg (fun _ => False) w w' := by
  have E1 := Lib.hid h1
  have E2 := Lib.hid h2
  have E3 := Lib.hid h3
  have E4 := Lib.hid h4
  have E5 := Lib.hid h5
  have E6 := Lib.hid h6
  clear h1 h2 h3 h4 h5 h6
  have HX := Lib.hid (blkAlloc w (.cells #[.int .i64 0, .int .i64 0, .int .i64 0, .string ⟨#[]⟩] 77))
  have HM : Hid (RMade 62 (w.alloc (.cells #[.int .i64 0, .int .i64 0, .int .i64 0, .string ⟨#[]⟩] 77)) ((w.alloc (.cells #[.int .i64 0, .int .i64 0, .int .i64 0, .string ⟨#[]⟩] 77)).alloc (.cells #[.string s, .int .i64 0] 62)) (w.heap.size + 1) (s, 0)) := Lib.hid (by have h := RMade.fresh 62 (w.alloc (.cells #[.int .i64 0, .int .i64 0, .int .i64 0, .string ⟨#[]⟩] 77)) s hs; rwa [show (w.alloc (.cells #[.int .i64 0, .int .i64 0, .int .i64 0, .string ⟨#[]⟩] 77)).heap.size = w.heap.size + 1 from by simp] at h)
  have HS : Hid ((w.alloc (.cells #[.int .i64 0, .int .i64 0, .int .i64 0, .string ⟨#[]⟩] 77)).heap.size = w.heap.size + 1) := Lib.hid (by simp)
  go_enter Try.func54, Try.ntmps54
  go_wp2_with fail
  refine (rRead_calls _ s).mono ?_
  rintro e w1 ⟨rfl, rfl⟩
  go_wp2_with fail
  refine (yNum1 (W := (w.alloc (.cells #[.int .i64 0, .int .i64 0, .int .i64 0, .string ⟨#[]⟩] 77))) (by exact HM.out) E1.out).mono ?_
  rintro e w2 ⟨rfl, hm, hc⟩
  have hlt : w.heap.size + 1 < w2.heap.size := blkLt hm.rd
  have HB := Lib.hid (blkAlloc w2 (.cells #[.int .i64 0, .int .i64 0, .int .i64 0, .string ⟨#[]⟩] 77))
  have HM := Lib.hid (hm.kept ((Chg.refl _ w2).alloc (.cells #[.int .i64 0, .int .i64 0, .int .i64 0, .string ⟨#[]⟩] 77)))
  clear hm hc
  go_wp2_with fail
  refine (yNum2 (W := (w.alloc (.cells #[.int .i64 0, .int .i64 0, .int .i64 0, .string ⟨#[]⟩] 77))) (by exact HM.out) E2.out).mono ?_
  rintro e w3 ⟨rfl, hm, hc⟩
  have hb := hc.obj HB.out (by omega)
  have hsz : w2.heap.size < w3.heap.size := blkLt hb
  have fz := blkFree hb 0
  obtain ⟨x0, x1, x2, x3⟩ := askCells hb
  have HB : Hid ((w3.setCell ⟨w2.heap.size, 0, none⟩ (.int .i64 v2)).heap[w2.heap.size]? = some (.cells #[.int .i64 v2, .int .i64 0, .int .i64 0, .string ⟨#[]⟩] 77 (0, 0))) := Lib.hid (by simpa using blkSet hb 0 (.int .i64 v2))
  have HM := Lib.hid (hm.set (g := w2.heap.size) (by omega) (by rw [HS.out]; omega) 0 (.int .i64 v2))
  clear hm hc hb
  go_wp2_with fail
  refine (yNum1 (W := (w.alloc (.cells #[.int .i64 0, .int .i64 0, .int .i64 0, .string ⟨#[]⟩] 77))) (by exact HM.out) E3.out).mono ?_
  rintro e w4 ⟨rfl, hm, hc⟩
  have hb := hc.obj HB.out (by omega)
  clear hsz fz x0 x1 x2 x3
  have hsz : w2.heap.size < w4.heap.size := blkLt hb
  have fz := blkFree hb 1
  obtain ⟨x0, x1, x2, x3⟩ := askCells hb
  have HB : Hid ((w4.setCell ⟨w2.heap.size, 1, none⟩ (.int .i64 v3)).heap[w2.heap.size]? = some (.cells #[.int .i64 v2, .int .i64 v3, .int .i64 0, .string ⟨#[]⟩] 77 (0, 0))) := Lib.hid (by simpa using blkSet hb 1 (.int .i64 v3))
  have HM := Lib.hid (hm.set (g := w2.heap.size) (by omega) (by rw [HS.out]; omega) 1 (.int .i64 v3))
  clear hm hc hb
  go_wp2_with fail
  refine (yNum4 (W := (w.alloc (.cells #[.int .i64 0, .int .i64 0, .int .i64 0, .string ⟨#[]⟩] 77))) (by exact HM.out) E4.out).mono ?_
  rintro e w5 ⟨rfl, hm, hc⟩
  have hb := hc.obj HB.out (by omega)
  clear hsz fz x0 x1 x2 x3
  have hsz : w2.heap.size < w5.heap.size := blkLt hb
  have fz := blkFree hb 2
  obtain ⟨x0, x1, x2, x3⟩ := askCells hb
  have HB : Hid ((w5.setCell ⟨w2.heap.size, 2, none⟩ (.int .i64 v4)).heap[w2.heap.size]? = some (.cells #[.int .i64 v2, .int .i64 v3, .int .i64 v4, .string ⟨#[]⟩] 77 (0, 0))) := Lib.hid (by simpa using blkSet hb 2 (.int .i64 v4))
  have HM := Lib.hid (hm.set (g := w2.heap.size) (by omega) (by rw [HS.out]; omega) 2 (.int .i64 v4))
  clear hm hc hb
  go_wp2_with fail
  refine (yText (m := 65535) (W := (w.alloc (.cells #[.int .i64 0, .int .i64 0, .int .i64 0, .string ⟨#[]⟩] 77))) (by exact HM.out) E5.out).mono ?_
  rintro e w6 ⟨rfl, hm, hc⟩
  have hb := hc.obj HB.out (by omega)
  clear hsz fz x0 x1 x2 x3
  have hsz : w2.heap.size < w6.heap.size := blkLt hb
  have fz := blkFree hb 3
  obtain ⟨x0, x1, x2, x3⟩ := askCells hb
  have HB : Hid ((w6.setCell ⟨w2.heap.size, 3, none⟩ (.string v5)).heap[w2.heap.size]? = some (.cells #[.int .i64 v2, .int .i64 v3, .int .i64 v4, .string v5] 77 (0, 0))) := Lib.hid (by simpa using blkSet hb 3 (.string v5))
  have HM := Lib.hid (hm.set (g := w2.heap.size) (by omega) (by rw [HS.out]; omega) 3 (.string v5))
  clear hm hc hb
  go_wp2_with fail
  refine (yEnd (W := (w.alloc (.cells #[.int .i64 0, .int .i64 0, .int .i64 0, .string ⟨#[]⟩] 77))) (by exact HM.out) E6.out).mono ?_
  rintro e w7 ⟨rfl, hm, hc⟩
  clear hsz fz x0 x1 x2 x3
  have hb := hc.obj HB.out (by omega)
  have hx := hm.ch.obj HX.out (fun h => h)
  have hs1 : w.heap.size < w7.heap.size := blkLt hx
  have hs2 : w2.heap.size < w7.heap.size := blkLt hb
  obtain ⟨x0, x1, x2, x3⟩ := askCells hb
  obtain ⟨z0, z1, z2, z3⟩ := askCells hx
  have f0 := blkFree hx 0
  have f1 := blkFree hx 1
  have f2 := blkFree hx 2
  have f3 := blkFree hx 3
  have HCH := Lib.hid hm.ch
  have HBX := Lib.hid hb
  have HZX := Lib.hid hx
  clear hm hc hb hx
  obtain ⟨q0, q1, q2, q3⟩ := askCells (box4 HZX.out (.int .i64 v2) (.int .i64 v3) (.int .i64 v4) (.string v5))
  go_wp2
  refine bodyPost_ret (v := .tuple #[.agg #[.int .i64 v2, .int .i64 v3, .int .i64 v4, .string v5], .int .i64 0]) (by simp [results, go_sem, q0, q1, q2, q3]) rfl ⟨rfl, ?_⟩
  repeat (refine Chg.setCell ?_ (.inr (Nat.le_refl _)) _)
  exact HCH.out.kept
set_option maxRecDepth 100000 in
theorem rReadReply_ok2 (w : World) (s : ByteArray) (hs : s.size ≤ 140737488351232) (v1 v2 v3 v4 : Int) (v5 : ByteArray) (er : Int) (y1 y2 y3 y4 y5 : RS) (h1 : numF (s, 0) 1 = (v1, y1)) (h2 : numF y1 2 = (v2, y2)) (h3 : numF y2 1 = (v3, y3)) (h4 : numF y3 4 = (v4, y4)) (h5 : textF y4 65535 = (v5, y5)) (h6 : (endF y5).2 = er) (he : (er != 0) = false) (hk : (v1 != 2) = false) (hb : (v3 != 0) = true) (hz : (v4 != 0) = false) (hd : (v5.toList == []) = true) :
    Calls Try.prog 54 #[.string s] w fun e w' => e = .returned (.tuple #[.agg #[.int .i64 v2, .int .i64 v3, .int .i64 v4, .string v5], .int .i64 0]) ∧ Chg (fun _ => False) w w' := by
  have E1 := Lib.hid h1
  have E2 := Lib.hid h2
  have E3 := Lib.hid h3
  have E4 := Lib.hid h4
  have E5 := Lib.hid h5
  have E6 := Lib.hid h6
  clear h1 h2 h3 h4 h5 h6
  have hd2 := str_void hd
  have HX := Lib.hid (blkAlloc w (.cells #[.int .i64 0, .int .i64 0, .int .i64 0, .string ⟨#[]⟩] 77))
  have HM : Hid (RMade 62 (w.alloc (.cells #[.int .i64 0, .int .i64 0, .int .i64 0, .string ⟨#[]⟩] 77)) ((w.alloc (.cells #[.int .i64 0, .int .i64 0, .int .i64 0, .string ⟨#[]⟩] 77)).alloc (.cells #[.string s, .int .i64 0] 62)) (w.heap.size + 1) (s, 0)) := Lib.hid (by have h := RMade.fresh 62 (w.alloc (.cells #[.int .i64 0, .int .i64 0, .int .i64 0, .string ⟨#[]⟩] 77)) s hs; rwa [show (w.alloc (.cells #[.int .i64 0, .int .i64 0, .int .i64 0, .string ⟨#[]⟩] 77)).heap.size = w.heap.size + 1 from by simp] at h)
  have HS : Hid ((w.alloc (.cells #[.int .i64 0, .int .i64 0, .int .i64 0, .string ⟨#[]⟩] 77)).heap.size = w.heap.size + 1) := Lib.hid (by simp)
  go_enter Try.func54, Try.ntmps54
  go_wp2_with fail
  refine (rRead_calls _ s).mono ?_
  rintro e w1 ⟨rfl, rfl⟩
  go_wp2_with fail
  refine (yNum1 (W := (w.alloc (.cells #[.int .i64 0, .int .i64 0, .int .i64 0, .string ⟨#[]⟩] 77))) (by exact HM.out) E1.out).mono ?_
  rintro e w2 ⟨rfl, hm, hc⟩
  have hlt : w.heap.size + 1 < w2.heap.size := blkLt hm.rd
  have HB := Lib.hid (blkAlloc w2 (.cells #[.int .i64 0, .int .i64 0, .int .i64 0, .string ⟨#[]⟩] 77))
  have HM := Lib.hid (hm.kept ((Chg.refl _ w2).alloc (.cells #[.int .i64 0, .int .i64 0, .int .i64 0, .string ⟨#[]⟩] 77)))
  clear hm hc
  go_wp2_with fail
  refine (yNum2 (W := (w.alloc (.cells #[.int .i64 0, .int .i64 0, .int .i64 0, .string ⟨#[]⟩] 77))) (by exact HM.out) E2.out).mono ?_
  rintro e w3 ⟨rfl, hm, hc⟩
  have hb := hc.obj HB.out (by omega)
  have hsz : w2.heap.size < w3.heap.size := blkLt hb
  have fz := blkFree hb 0
  obtain ⟨x0, x1, x2, x3⟩ := askCells hb
  have HB : Hid ((w3.setCell ⟨w2.heap.size, 0, none⟩ (.int .i64 v2)).heap[w2.heap.size]? = some (.cells #[.int .i64 v2, .int .i64 0, .int .i64 0, .string ⟨#[]⟩] 77 (0, 0))) := Lib.hid (by simpa using blkSet hb 0 (.int .i64 v2))
  have HM := Lib.hid (hm.set (g := w2.heap.size) (by omega) (by rw [HS.out]; omega) 0 (.int .i64 v2))
  clear hm hc hb
  go_wp2_with fail
  refine (yNum1 (W := (w.alloc (.cells #[.int .i64 0, .int .i64 0, .int .i64 0, .string ⟨#[]⟩] 77))) (by exact HM.out) E3.out).mono ?_
  rintro e w4 ⟨rfl, hm, hc⟩
  have hb := hc.obj HB.out (by omega)
  clear hsz fz x0 x1 x2 x3
  have hsz : w2.heap.size < w4.heap.size := blkLt hb
  have fz := blkFree hb 1
  obtain ⟨x0, x1, x2, x3⟩ := askCells hb
  have HB : Hid ((w4.setCell ⟨w2.heap.size, 1, none⟩ (.int .i64 v3)).heap[w2.heap.size]? = some (.cells #[.int .i64 v2, .int .i64 v3, .int .i64 0, .string ⟨#[]⟩] 77 (0, 0))) := Lib.hid (by simpa using blkSet hb 1 (.int .i64 v3))
  have HM := Lib.hid (hm.set (g := w2.heap.size) (by omega) (by rw [HS.out]; omega) 1 (.int .i64 v3))
  clear hm hc hb
  go_wp2_with fail
  refine (yNum4 (W := (w.alloc (.cells #[.int .i64 0, .int .i64 0, .int .i64 0, .string ⟨#[]⟩] 77))) (by exact HM.out) E4.out).mono ?_
  rintro e w5 ⟨rfl, hm, hc⟩
  have hb := hc.obj HB.out (by omega)
  clear hsz fz x0 x1 x2 x3
  have hsz : w2.heap.size < w5.heap.size := blkLt hb
  have fz := blkFree hb 2
  obtain ⟨x0, x1, x2, x3⟩ := askCells hb
  have HB : Hid ((w5.setCell ⟨w2.heap.size, 2, none⟩ (.int .i64 v4)).heap[w2.heap.size]? = some (.cells #[.int .i64 v2, .int .i64 v3, .int .i64 v4, .string ⟨#[]⟩] 77 (0, 0))) := Lib.hid (by simpa using blkSet hb 2 (.int .i64 v4))
  have HM := Lib.hid (hm.set (g := w2.heap.size) (by omega) (by rw [HS.out]; omega) 2 (.int .i64 v4))
  clear hm hc hb
  go_wp2_with fail
  refine (yText (m := 65535) (W := (w.alloc (.cells #[.int .i64 0, .int .i64 0, .int .i64 0, .string ⟨#[]⟩] 77))) (by exact HM.out) E5.out).mono ?_
  rintro e w6 ⟨rfl, hm, hc⟩
  have hb := hc.obj HB.out (by omega)
  clear hsz fz x0 x1 x2 x3
  have hsz : w2.heap.size < w6.heap.size := blkLt hb
  have fz := blkFree hb 3
  obtain ⟨x0, x1, x2, x3⟩ := askCells hb
  have HB : Hid ((w6.setCell ⟨w2.heap.size, 3, none⟩ (.string v5)).heap[w2.heap.size]? = some (.cells #[.int .i64 v2, .int .i64 v3, .int .i64 v4, .string v5] 77 (0, 0))) := Lib.hid (by simpa using blkSet hb 3 (.string v5))
  have HM := Lib.hid (hm.set (g := w2.heap.size) (by omega) (by rw [HS.out]; omega) 3 (.string v5))
  clear hm hc hb
  go_wp2_with fail
  refine (yEnd (W := (w.alloc (.cells #[.int .i64 0, .int .i64 0, .int .i64 0, .string ⟨#[]⟩] 77))) (by exact HM.out) E6.out).mono ?_
  rintro e w7 ⟨rfl, hm, hc⟩
  clear hsz fz x0 x1 x2 x3
  have hb := hc.obj HB.out (by omega)
  have hx := hm.ch.obj HX.out (fun h => h)
  have hs1 : w.heap.size < w7.heap.size := blkLt hx
  have hs2 : w2.heap.size < w7.heap.size := blkLt hb
  obtain ⟨x0, x1, x2, x3⟩ := askCells hb
  obtain ⟨z0, z1, z2, z3⟩ := askCells hx
  have f0 := blkFree hx 0
  have f1 := blkFree hx 1
  have f2 := blkFree hx 2
  have f3 := blkFree hx 3
  have HCH := Lib.hid hm.ch
  have HBX := Lib.hid hb
  have HZX := Lib.hid hx
  clear hm hc hb hx
  obtain ⟨q0, q1, q2, q3⟩ := askCells (box4 HZX.out (.int .i64 v2) (.int .i64 v3) (.int .i64 v4) (.string v5))
  go_wp2
  refine bodyPost_ret (v := .tuple #[.agg #[.int .i64 v2, .int .i64 v3, .int .i64 v4, .string v5], .int .i64 0]) (by simp [results, go_sem, q0, q1, q2, q3]) rfl ⟨rfl, ?_⟩
  repeat (refine Chg.setCell ?_ (.inr (Nat.le_refl _)) _)
  exact HCH.out.kept
end Go.Proofs.Ytjlkflbkejpcaaa
