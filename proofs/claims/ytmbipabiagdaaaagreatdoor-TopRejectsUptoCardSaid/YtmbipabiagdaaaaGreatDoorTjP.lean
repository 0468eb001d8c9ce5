/- TopRejects: tiles.Parse. -/
import Derived.Test.YtmbipabiagdaaaaGreatDoorTjT
namespace Go.Proofs.YtmbipabiagdaaaaGreatDoor
open Go.RowKit Go.Lib
theorem str_eq (a b : ByteArray) : (!a.toList == b.toList) = false ↔ a = b := by
  rw [ByteArray.toList_eq, ByteArray.toList_eq, Bool.not_eq_false', beq_iff_eq]
  constructor
  · intro h
    exact ByteArray.ext (Array.ext' h)
  · intro h
    rw [h]
theorem Chg.cellOf {w w1 : World} {g : Nat} (h : Chg (fun k => k = g) w w1) (i : Nat) (u : Value) : Chg (fun k => k = g) w (w1.setCell ⟨g, i, none⟩ u) := h.setCell (.inl rfl) u
theorem boxSet {w : World} {g : Nat} {a b c : Value} {T : TypeId} (h : w.heap[g]? = some (.cells #[a, b, c] T (0, 0))) (x y z : Value) :
    (((w.setCell ⟨g, 0, none⟩ x).setCell ⟨g, 1, none⟩ y).setCell ⟨g, 2, none⟩ z).heap[g]? = some (.cells #[x, y, z] T (0, 0)) ∧ Chg (fun k => k = g) w (((w.setCell ⟨g, 0, none⟩ x).setCell ⟨g, 1, none⟩ y).setCell ⟨g, 2, none⟩ z) := by
  have h1 := blkSet h 0 x
  have h2 := blkSet h1 1 y
  have h3 := blkSet h2 2 z
  exact ⟨by simpa using h3, (((Chg.refl _ w).cellOf 0 x).cellOf 1 y).cellOf 2 z⟩
set_option maxRecDepth 100000 in
set_option maxHeartbeats 2000000 in
theorem tParse_calls (w : World) (hg : Glob w) (s : ByteArray) (hs : s.size ≤ 1048576) :
    Calls Tryz.prog 12 #[.string s] w fun e w' => ∃ l i n r, e = .returned (.tuple #[.agg #[.int .i64 l, .int .i64 i, .int .i64 n], .int .i64 r]) ∧ ((r = 3 ∧ l = 0 ∧ i = 0 ∧ n = 0) ∨ (r = 0 ∧ pathT l i n = s)) ∧ Chg (fun _ => False) w w' := by
  have HG := Lib.hid hg
  clear hg
  go_enter Tryz.func12, Tryz.ntmps12
  go_wp2_with fail
  refine (trimp_calls _ _ _).mono ?_
  rintro e w1 ⟨p1, rfl, hp1, he1⟩
  obtain rfl := he1
  obtain ⟨b1, hb1⟩ : ∃ b1, w.heap.size = b1 := ⟨_, rfl⟩
  obtain ⟨W0, hW⟩ : ∃ W0, (w.alloc (.cells #[.int .i64 0, .int .i64 0, .int .i64 0] 51)).alloc (.cells #[.int .i64 0, .int .i64 0, .int .i64 4] 51) = W0 := ⟨_, rfl⟩
  have hob1 : W0.heap[b1]? = some (.cells #[.int .i64 0, .int .i64 0, .int .i64 0] 51 (0, 0)) := by rw [← hW, ← hb1]; exact blkOld (blkAlloc w _) _
  have hob2 : W0.heap[b1 + 1]? = some (.cells #[.int .i64 0, .int .i64 0, .int .i64 4] 51 (0, 0)) := by
    rw [← hW, ← hb1]
    have := blkAlloc (w.alloc (.cells #[.int .i64 0, .int .i64 0, .int .i64 0] 51)) (.cells #[.int .i64 0, .int .i64 0, .int .i64 4] 51)
    rwa [show (w.alloc (.cells #[.int .i64 0, .int .i64 0, .int .i64 0] 51)).heap.size = w.heap.size + 1 from by simp] at this
  have HO1 := Lib.hid hob1
  have HO2 := Lib.hid hob2
  have D : Hid (Chg (fun _ => False) w W0) := Lib.hid (by rw [← hW]; exact ((Chg.refl _ w).alloc _).alloc _)
  have HB : Hid (w.heap.size ≤ b1) := Lib.hid (Nat.le_of_eq hb1)
  simp only [hW]
  simp only [hb1]
  clear hW hb1 hob1 hob2
  go_wp2_with fail
  refine (cut_calls _ (HG.out.chg D.out) _ _ (by omega)).mono ?_
  rintro e w2 ⟨place, width, part, rfl, hz1, hz2, hc⟩
  have HO1 := Lib.hid (hc.obj HO1.out (fun h => h))
  have HO2 := Lib.hid (hc.obj HO2.out (fun h => h))
  have D := Lib.hid (D.out.trans hc (fun _ h => h.elim))
  clear hc
  go_wp2_with fail
  refine (cut_calls _ (HG.out.chg D.out) _ _ (by omega)).mono ?_
  rintro e w3 ⟨level, index, part2, rfl, hz3, hz4, hc⟩
  have HO1 := Lib.hid (hc.obj HO1.out (fun h => h))
  have HO2 := Lib.hid (hc.obj HO2.out (fun h => h))
  have D := Lib.hid (D.out.trans hc (fun _ h => h.elim))
  clear hc
  go_wp2_with fail
  refine (atoi_calls _ (HG.out.chg D.out) _ (by omega)).mono ?_
  rintro e w4 ⟨x0, rfl, hx0, hc⟩
  have h1 := hc.obj HO1.out (fun h => h)
  have h2 := hc.obj HO2.out (fun h => h)
  obtain ⟨A0, hA0⟩ : ∃ A, atoiN level = A := ⟨_, rfl⟩
  simp only [hA0]
  clear hA0 hx0
  have c0 : w4.cell? ⟨b1 + 1, 0, none⟩ = some (.int .i64 0) := blkCell h2 0
  have f0 := blkFree h2 0
  have HO2 : Hid ((w4.setCell ⟨b1 + 1, 0, none⟩ (.int .i64 A0)).heap[b1 + 1]? = some (.cells #[.int .i64 A0, .int .i64 0, .int .i64 4] 51 (0, 0))) := Lib.hid (blkSet h2 0 _)
  have HO1 := Lib.hid ((Below.heap_setCell w4 ⟨b1 + 1, 0, none⟩ (.int .i64 A0) b1 (by simp)).trans h1)
  have D := Lib.hid ((D.out.trans hc (fun _ h => h.elim)).setCell (p := ⟨b1 + 1, 0, none⟩) (.inr (Nat.le_succ_of_le HB.out)) (.int .i64 A0))
  clear h1 h2 hc
  go_wp2_with fail
  clear c0 f0
  refine (atoi_calls _ (HG.out.chg D.out) _ (by omega)).mono ?_
  rintro e w5 ⟨x1, rfl, hx1, hc⟩
  have h1 := hc.obj HO1.out (fun h => h)
  have h2 := hc.obj HO2.out (fun h => h)
  obtain ⟨A1, hA1⟩ : ∃ A, atoiN index = A := ⟨_, rfl⟩
  simp only [hA1]
  clear hA1 hx1
  have c0 : w5.cell? ⟨b1 + 1, 1, none⟩ = some (.int .i64 0) := blkCell h2 1
  have f0 := blkFree h2 1
  have HO2 : Hid ((w5.setCell ⟨b1 + 1, 1, none⟩ (.int .i64 A1)).heap[b1 + 1]? = some (.cells #[.int .i64 A0, .int .i64 A1, .int .i64 4] 51 (0, 0))) := Lib.hid (blkSet h2 1 _)
  have HO1 := Lib.hid ((Below.heap_setCell w5 ⟨b1 + 1, 1, none⟩ (.int .i64 A1) b1 (by simp)).trans h1)
  have D := Lib.hid ((D.out.trans hc (fun _ h => h.elim)).setCell (p := ⟨b1 + 1, 1, none⟩) (.inr (Nat.le_succ_of_le HB.out)) (.int .i64 A1))
  have a0 : w5.cell? ⟨b1 + 1, 0, none⟩ = some (.int .i64 A0) := blkCell h2 0
  have a2 : w5.cell? ⟨b1 + 1, 2, none⟩ = some (.int .i64 4) := blkCell h2 2
  have d0 : w5.cell? ⟨b1, 0, none⟩ = some (.int .i64 0) := blkCell h1 0
  have d1 : w5.cell? ⟨b1, 1, none⟩ = some (.int .i64 0) := blkCell h1 1
  have d2 : w5.cell? ⟨b1, 2, none⟩ = some (.int .i64 0) := blkCell h1 2
  have g0 := blkFree h1 0
  have g1 := blkFree h1 1
  have g2 := blkFree h1 2
  clear h1 h2 hc
  cases part
  · skip
    have C := Lib.hid (Path_calls _ (HG.out.chg D.out) A0 A1 4)
    obtain ⟨P, hP⟩ : ∃ P, pathT A0 A1 4 = P := ⟨_, rfl⟩
    rw [hP] at C
    have HP := Lib.hid hP
    clear hP
    by_cases he : s.toList = []
    · have hem : s.toList.isEmpty = true := by simpa using he
      go_wp2_with fail
      obtain ⟨hb, hcb⟩ := boxSet (HO1.out) (.int .i64 0) (.int .i64 0) (.int .i64 0)
      have q0 := blkCell hb 0
      have q1 := blkCell hb 1
      have q2 := blkCell hb 2
      refine bodyPost_ret (v := .tuple #[.agg #[.int .i64 0, .int .i64 0, .int .i64 0], .int .i64 3]) (by simp [results, go_sem, q0, q1, q2]) rfl ⟨_, _, _, _, rfl, .inl ⟨rfl, rfl, rfl, rfl⟩, D.out.trans hcb (fun k e => .inr (by rw [e]; exact HB.out))⟩
    · have hem : s.toList.isEmpty = false := by simpa using he
      by_cases hq : P = s
      · subst hq
        go_wp2_with (go_at_call 13; refine (C.out).mono ?_; rintro e w8 ⟨rfl, hc⟩; have e0 : w8.cell? ⟨b1 + 1, 0, none⟩ = some (.int .i64 A0) := blkCell (hc.obj HO2.out (fun h => h)) 0; have e1 : w8.cell? ⟨b1 + 1, 1, none⟩ = some (.int .i64 A1) := blkCell (hc.obj HO2.out (fun h => h)) 1; have e2 : w8.cell? ⟨b1 + 1, 2, none⟩ = some (.int .i64 4) := blkCell (hc.obj HO2.out (fun h => h)) 2; have h8 := hc.obj HO1.out (fun h => h); have H8 := Lib.hid h8; have i0 : w8.cell? ⟨b1, 0, none⟩ = some (.int .i64 0) := blkCell h8 0; have i1 : w8.cell? ⟨b1, 1, none⟩ = some (.int .i64 0) := blkCell h8 1; have i2 : w8.cell? ⟨b1, 2, none⟩ = some (.int .i64 0) := blkCell h8 2; have j0 := blkFree h8 0; have j1 := blkFree h8 1; have j2 := blkFree h8 2; have D8 := Lib.hid (D.out.trans hc (fun _ h => h.elim)); clear hc h8)
        obtain ⟨hb, hcb⟩ := boxSet (H8.out) (.int .i64 A0) (.int .i64 A1) (.int .i64 4)
        have q0 := blkCell hb 0
        have q1 := blkCell hb 1
        have q2 := blkCell hb 2
        refine bodyPost_ret (v := .tuple #[.agg #[.int .i64 A0, .int .i64 A1, .int .i64 4], .int .i64 0]) (by simp [results, go_sem, q0, q1, q2]) rfl ⟨_, _, _, _, rfl, .inr ⟨rfl, HP.out⟩, D8.out.trans hcb (fun k e => .inr (by rw [e]; exact HB.out))⟩
      · have hq2 : (!P.toList == s.toList) = true := by
          cases h : (!P.toList == s.toList)
          · exact absurd ((str_eq P s).1 h) hq
          · rfl
        go_wp2_with (go_at_call 13; refine (C.out).mono ?_; rintro e w8 ⟨rfl, hc⟩; have e0 : w8.cell? ⟨b1 + 1, 0, none⟩ = some (.int .i64 A0) := blkCell (hc.obj HO2.out (fun h => h)) 0; have e1 : w8.cell? ⟨b1 + 1, 1, none⟩ = some (.int .i64 A1) := blkCell (hc.obj HO2.out (fun h => h)) 1; have e2 : w8.cell? ⟨b1 + 1, 2, none⟩ = some (.int .i64 4) := blkCell (hc.obj HO2.out (fun h => h)) 2; have h8 := hc.obj HO1.out (fun h => h); have H8 := Lib.hid h8; have i0 : w8.cell? ⟨b1, 0, none⟩ = some (.int .i64 0) := blkCell h8 0; have i1 : w8.cell? ⟨b1, 1, none⟩ = some (.int .i64 0) := blkCell h8 1; have i2 : w8.cell? ⟨b1, 2, none⟩ = some (.int .i64 0) := blkCell h8 2; have j0 := blkFree h8 0; have j1 := blkFree h8 1; have j2 := blkFree h8 2; have D8 := Lib.hid (D.out.trans hc (fun _ h => h.elim)); clear hc h8)
        obtain ⟨hb, hcb⟩ := boxSet (H8.out) (.int .i64 0) (.int .i64 0) (.int .i64 0)
        have q0 := blkCell hb 0
        have q1 := blkCell hb 1
        have q2 := blkCell hb 2
        refine bodyPost_ret (v := .tuple #[.agg #[.int .i64 0, .int .i64 0, .int .i64 0], .int .i64 3]) (by simp [results, go_sem, q0, q1, q2]) rfl ⟨_, _, _, _, rfl, .inl ⟨rfl, rfl, rfl, rfl⟩, D8.out.trans hcb (fun k e => .inr (by rw [e]; exact HB.out))⟩
  · go_wp2_with fail
    refine (atoi_calls _ (HG.out.chg D.out) _ (by omega)).mono ?_
    rintro e w7 ⟨x2, rfl, hx2, hc⟩
    have h1 := hc.obj HO1.out (fun h => h)
    have h2 := hc.obj HO2.out (fun h => h)
    obtain ⟨A2, hA2⟩ : ∃ A, atoiN width = A := ⟨_, rfl⟩
    simp only [hA2]
    clear hA2 hx2 c0 f0 a0 a2 d0 d1 d2 g0 g1 g2
    have c0 : w7.cell? ⟨b1 + 1, 2, none⟩ = some (.int .i64 4) := blkCell h2 2
    have f0 := blkFree h2 2
    have HO2 : Hid ((w7.setCell ⟨b1 + 1, 2, none⟩ (.int .i64 A2)).heap[b1 + 1]? = some (.cells #[.int .i64 A0, .int .i64 A1, .int .i64 A2] 51 (0, 0))) := Lib.hid (blkSet h2 2 _)
    have HO1 := Lib.hid ((Below.heap_setCell w7 ⟨b1 + 1, 2, none⟩ (.int .i64 A2) b1 (by simp)).trans h1)
    have D := Lib.hid ((D.out.trans hc (fun _ h => h.elim)).setCell (p := ⟨b1 + 1, 2, none⟩) (.inr (Nat.le_succ_of_le HB.out)) (.int .i64 A2))
    have a0 : w7.cell? ⟨b1 + 1, 0, none⟩ = some (.int .i64 A0) := blkCell h2 0
    have a1 : w7.cell? ⟨b1 + 1, 1, none⟩ = some (.int .i64 A1) := blkCell h2 1
    have d0 : w7.cell? ⟨b1, 0, none⟩ = some (.int .i64 0) := blkCell h1 0
    have d1 : w7.cell? ⟨b1, 1, none⟩ = some (.int .i64 0) := blkCell h1 1
    have d2 : w7.cell? ⟨b1, 2, none⟩ = some (.int .i64 0) := blkCell h1 2
    have g0 := blkFree h1 0
    have g1 := blkFree h1 1
    have g2 := blkFree h1 2
    clear h1 h2 hc
    have C := Lib.hid (Path_calls _ (HG.out.chg D.out) A0 A1 A2)
    obtain ⟨P, hP⟩ : ∃ P, pathT A0 A1 A2 = P := ⟨_, rfl⟩
    rw [hP] at C
    have HP := Lib.hid hP
    clear hP
    by_cases he : s.toList = []
    · have hem : s.toList.isEmpty = true := by simpa using he
      go_wp2_with fail
      obtain ⟨hb, hcb⟩ := boxSet (HO1.out) (.int .i64 0) (.int .i64 0) (.int .i64 0)
      have q0 := blkCell hb 0
      have q1 := blkCell hb 1
      have q2 := blkCell hb 2
      refine bodyPost_ret (v := .tuple #[.agg #[.int .i64 0, .int .i64 0, .int .i64 0], .int .i64 3]) (by simp [results, go_sem, q0, q1, q2]) rfl ⟨_, _, _, _, rfl, .inl ⟨rfl, rfl, rfl, rfl⟩, D.out.trans hcb (fun k e => .inr (by rw [e]; exact HB.out))⟩
    · have hem : s.toList.isEmpty = false := by simpa using he
      by_cases hq : P = s
      · subst hq
        go_wp2_with (go_at_call 13; refine (C.out).mono ?_; rintro e w8 ⟨rfl, hc⟩; have e0 : w8.cell? ⟨b1 + 1, 0, none⟩ = some (.int .i64 A0) := blkCell (hc.obj HO2.out (fun h => h)) 0; have e1 : w8.cell? ⟨b1 + 1, 1, none⟩ = some (.int .i64 A1) := blkCell (hc.obj HO2.out (fun h => h)) 1; have e2 : w8.cell? ⟨b1 + 1, 2, none⟩ = some (.int .i64 A2) := blkCell (hc.obj HO2.out (fun h => h)) 2; have h8 := hc.obj HO1.out (fun h => h); have H8 := Lib.hid h8; have i0 : w8.cell? ⟨b1, 0, none⟩ = some (.int .i64 0) := blkCell h8 0; have i1 : w8.cell? ⟨b1, 1, none⟩ = some (.int .i64 0) := blkCell h8 1; have i2 : w8.cell? ⟨b1, 2, none⟩ = some (.int .i64 0) := blkCell h8 2; have j0 := blkFree h8 0; have j1 := blkFree h8 1; have j2 := blkFree h8 2; have D8 := Lib.hid (D.out.trans hc (fun _ h => h.elim)); clear hc h8)
        obtain ⟨hb, hcb⟩ := boxSet (H8.out) (.int .i64 A0) (.int .i64 A1) (.int .i64 A2)
        have q0 := blkCell hb 0
        have q1 := blkCell hb 1
        have q2 := blkCell hb 2
        refine bodyPost_ret (v := .tuple #[.agg #[.int .i64 A0, .int .i64 A1, .int .i64 A2], .int .i64 0]) (by simp [results, go_sem, q0, q1, q2]) rfl ⟨_, _, _, _, rfl, .inr ⟨rfl, HP.out⟩, D8.out.trans hcb (fun k e => .inr (by rw [e]; exact HB.out))⟩
      · have hq2 : (!P.toList == s.toList) = true := by
          cases h : (!P.toList == s.toList)
          · exact absurd ((str_eq P s).1 h) hq
          · rfl
        go_wp2_with (go_at_call 13; refine (C.out).mono ?_; rintro e w8 ⟨rfl, hc⟩; have e0 : w8.cell? ⟨b1 + 1, 0, none⟩ = some (.int .i64 A0) := blkCell (hc.obj HO2.out (fun h => h)) 0; have e1 : w8.cell? ⟨b1 + 1, 1, none⟩ = some (.int .i64 A1) := blkCell (hc.obj HO2.out (fun h => h)) 1; have e2 : w8.cell? ⟨b1 + 1, 2, none⟩ = some (.int .i64 A2) := blkCell (hc.obj HO2.out (fun h => h)) 2; have h8 := hc.obj HO1.out (fun h => h); have H8 := Lib.hid h8; have i0 : w8.cell? ⟨b1, 0, none⟩ = some (.int .i64 0) := blkCell h8 0; have i1 : w8.cell? ⟨b1, 1, none⟩ = some (.int .i64 0) := blkCell h8 1; have i2 : w8.cell? ⟨b1, 2, none⟩ = some (.int .i64 0) := blkCell h8 2; have j0 := blkFree h8 0; have j1 := blkFree h8 1; have j2 := blkFree h8 2; have D8 := Lib.hid (D.out.trans hc (fun _ h => h.elim)); clear hc h8)
        obtain ⟨hb, hcb⟩ := boxSet (H8.out) (.int .i64 0) (.int .i64 0) (.int .i64 0)
        have q0 := blkCell hb 0
        have q1 := blkCell hb 1
        have q2 := blkCell hb 2
        refine bodyPost_ret (v := .tuple #[.agg #[.int .i64 0, .int .i64 0, .int .i64 0], .int .i64 3]) (by simp [results, go_sem, q0, q1, q2]) rfl ⟨_, _, _, _, rfl, .inl ⟨rfl, rfl, rfl, rfl⟩, D8.out.trans hcb (fun k e => .inr (by rw [e]; exact HB.out))⟩
end Go.Proofs.YtmbipabiagdaaaaGreatDoor
