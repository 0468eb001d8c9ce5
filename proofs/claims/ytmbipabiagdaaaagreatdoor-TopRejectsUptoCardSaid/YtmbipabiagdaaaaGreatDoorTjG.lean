/- TopRejects: note.Parse. -/
import Derived.Test.YtmbipabiagdaaaaGreatDoorTjE
import Derived.Test.YtmbipabiagdaaaaGreatDoorTjP
namespace Go.Proofs.YtmbipabiagdaaaaGreatDoor
open Go.RowKit Go.Lib Go.Shelf
theorem extract_le (s : ByteArray) (i j : Nat) : (s.extract i j).size ≤ s.size := by
  rw [ByteArray.size_extract]
  omega
theorem splitB_small (sep : ByteArray) (sv : Nat) : ∀ (k : Nat) (s x : ByteArray), x ∈ Lib.splitB sep sv k s → x.size ≤ s.size
  | 0, s, x, h => by
    rw [Lib.splitB_zero, List.mem_singleton] at h
    rw [h]
    exact Nat.le_refl _
  | k + 1, s, x, h => by
    unfold Lib.splitB at h
    split at h
    · rw [List.mem_singleton] at h
      rw [h]
      exact Nat.le_refl _
    · rcases List.mem_cons.1 h with h | h
      · rw [h]
        exact extract_le _ _ _
      · exact Nat.le_trans (splitB_small sep sv k _ x h) (extract_le _ _ _)
theorem split_calls (w : World) (hg : Glob w) (s : ByteArray) (hs : s.size ≤ 1048576) :
    Calls Tryz.prog 14 #[.string s, .string ⟨#[10]⟩] w fun e w' => ∃ g l, e = .returned (.slice (some ⟨g, 0, none⟩) (l : List ByteArray).length l.length) ∧ w'.heap[g]? = some (.cells (l.map Value.string).toArray 9 (0, 0)) ∧ (∀ x ∈ l, x.size ≤ s.size) ∧ (s = ⟨#[]⟩ → l.length = 1) ∧ Chg (fun _ => False) w w' := by
  obtain ⟨m, hm⟩ := hg.most
  refine (Tryz.strings_Split s ⟨#[10]⟩ m w (by omega) hm (by decide)).mono fun e w' ⟨he, hw⟩ => ⟨w.heap.size, Lib.splitB ⟨#[10]⟩ 0 (Lib.countB s ⟨#[10]⟩) s, ?_, ?_, fun x hx => splitB_small _ _ _ _ x hx, ?_, ?_⟩
  · rw [Lib.splitB_all ⟨#[10]⟩ (by decide) 0 _ s rfl]
    exact he
  · rw [hw]
    exact blkAlloc w _
  · rintro rfl
    decide
  · rw [hw]
    exact (Chg.refl _ w).alloc _
set_option maxRecDepth 100000 in
set_option maxHeartbeats 4000000 in
theorem nParse_calls (w : World) (hg : Glob w) (s : ByteArray) (hs : s.size ≤ 1048576) :
    Calls Tryz.prog 4 #[.string s] w fun e w' => ∃ o n r x, e = .returned (.tuple #[.agg #[.string o, .int .i64 n, .string r], .int .i64 x]) ∧ ((x = 3 ∧ o = ⟨#[]⟩ ∧ n = 0 ∧ r = ⟨#[]⟩) ∨ (x = 0 ∧ textT o n r = s ∧ textE o n r = 0 ∧ o.size ≤ 1048576)) ∧ (s = ⟨#[]⟩ → x = 3) ∧ Chg (fun _ => False) w w' := by
  have HG := Lib.hid hg
  clear hg
  go_enter Tryz.func4, Tryz.ntmps4
  go_wp2_with fail
  obtain ⟨b1, hb1⟩ : ∃ b1, w.heap.size = b1 := ⟨_, rfl⟩
  obtain ⟨W0, hW⟩ : ∃ W0, w.alloc (.cells #[.string ⟨#[]⟩, .int .i64 0, .string ⟨#[]⟩] 23) = W0 := ⟨_, rfl⟩
  have hob1 : W0.heap[b1]? = some (.cells #[.string ⟨#[]⟩, .int .i64 0, .string ⟨#[]⟩] 23 (0, 0)) := by rw [← hW, ← hb1]; exact blkAlloc w _
  have D0 : Hid (Chg (fun _ => False) w W0) := Lib.hid (by rw [← hW]; exact (Chg.refl _ w).alloc _)
  have HB : Hid (w.heap.size ≤ b1) := Lib.hid (Nat.le_of_eq hb1)
  simp only [hW]
  simp only [hb1]
  clear hW hb1
  refine (split_calls _ (HG.out.chg D0.out) s hs).mono ?_
  rintro e w1 ⟨g, l, rfl, hlb, hls, hle, hc⟩
  have HO1 := Lib.hid (hc.obj hob1 (fun h => h))
  have D := Lib.hid (D0.out.trans hc (fun _ h => h.elim))
  clear hc hob1 D0
  by_cases h5 : l.length = 5
  · match l, h5 with
    | [p0, p1, p2, p3, p4], _ =>
      have hse : s ≠ ⟨#[]⟩ := fun e => absurd (hle e) (by show ¬ 5 = 1; decide)
      have z1 : p1.size ≤ s.size := hls p1 (by simp)
      have z2 : p2.size ≤ s.size := hls p2 (by simp)
      have z3 : p3.size ≤ s.size := hls p3 (by simp)
      have hlb' : w1.heap[g]? = some (.cells #[.string p0, .string p1, .string p2, .string p3, .string p4] 9 (0, 0)) := hlb
      have CG := Lib.hid (fun (w' : World) (c : Chg (fun _ => False) w1 w') => (⟨blkCell (c.obj hlb' (fun h => h)) 1, blkCell (c.obj hlb' (fun h => h)) 2, blkCell (c.obj hlb' (fun h => h)) 3⟩ : w'.cell? ⟨g, 1, none⟩ = some (.string p1) ∧ w'.cell? ⟨g, 2, none⟩ = some (.string p2) ∧ w'.cell? ⟨g, 3, none⟩ = some (.string p3)))
      obtain ⟨c1, c2, c3⟩ := CG.out _ (Chg.refl _ _)
      have k1 := fun ob => (CG.out (w1.alloc ob) ((Chg.refl _ w1).alloc ob)).1
      have k2 := fun ob => (CG.out (w1.alloc ob) ((Chg.refl _ w1).alloc ob)).2.1
      clear hls hle hlb hlb'
      simp only [List.length_cons, List.length_nil, Nat.reduceAdd]
      go_wp2_with fail
      obtain ⟨b2, hb2⟩ : ∃ b2, w1.heap.size = b2 := ⟨_, rfl⟩
      obtain ⟨W1, hW1⟩ : ∃ W1, w1.alloc (.cells #[.string p1, .int .i64 0, .string ⟨#[]⟩] 23) = W1 := ⟨_, rfl⟩
      have hob2 : W1.heap[b2]? = some (.cells #[.string p1, .int .i64 0, .string ⟨#[]⟩] 23 (0, 0)) := by rw [← hW1, ← hb2]; exact blkAlloc w1 _
      have D1 : Hid (Chg (fun _ => False) w1 W1) := Lib.hid (by rw [← hW1]; exact (Chg.refl _ w1).alloc _)
      have HB2 : Hid (w1.heap.size ≤ b2) := Lib.hid (Nat.le_of_eq hb2)
      simp only [hW1]
      simp only [hb2]
      clear hW1 hb2 c1 c2 c3 k1 k2
      refine (atoi_calls _ (HG.out.chg (D.out.trans D1.out (fun _ h => h.elim))) _ (by omega)).mono ?_
      rintro e w2 ⟨x, rfl, hx, hc⟩
      obtain ⟨A, hA⟩ : ∃ A, atoiN p2 = A := ⟨_, rfl⟩
      simp only [hA]
      clear hA
      have h2 := hc.obj hob2 (fun h => h)
      have D2 := Lib.hid (D1.out.trans hc (fun _ h => h.elim))
      clear hc
      have a1 : w2.cell? ⟨b2, 1, none⟩ = some (.int .i64 0) := blkCell h2 1
      have f1 := blkFree h2 1
      obtain ⟨c1, c2, c3⟩ := CG.out _ (D2.out.setCell (p := ⟨b2, 1, none⟩) (.inr HB2.out) (.int .i64 A))
      have HO2 : Hid ((w2.setCell ⟨b2, 1, none⟩ (.int .i64 A)).heap[b2]? = some (.cells #[.string p1, .int .i64 A, .string ⟨#[]⟩] 23 (0, 0))) := Lib.hid (blkSet h2 1 _)
      have D3 := Lib.hid (D2.out.setCell (p := ⟨b2, 1, none⟩) (.inr HB2.out) (.int .i64 A))
      clear h2 hob2
      obtain ⟨d1, d2, d3⟩ := CG.out _ D2.out
      go_wp2_with fail
      clear c1 c2 c3 d1 d2 d3 a1 f1
      refine (Unhex_calls _ p3 (by omega)).mono ?_
      rintro e w3 ⟨t, ok, rfl, hts, hc⟩
      have h2 := hc.obj HO2.out (fun h => h)
      have D4 := Lib.hid (D3.out.trans hc (fun _ h => h.elim))
      clear hc
      have a0 : w3.cell? ⟨b2, 0, none⟩ = some (.string p1) := blkCell h2 0
      have a1 : w3.cell? ⟨b2, 1, none⟩ = some (.int .i64 A) := blkCell h2 1
      have a2 : w3.cell? ⟨b2, 2, none⟩ = some (.string ⟨#[]⟩) := blkCell h2 2
      have f2 := blkFree h2 2
      have HO3 : Hid ((w3.setCell ⟨b2, 2, none⟩ (.string t)).heap[b2]? = some (.cells #[.string p1, .int .i64 A, .string t] 23 (0, 0))) := Lib.hid (blkSet h2 2 _)
      have D5 := Lib.hid (D4.out.setCell (p := ⟨b2, 2, none⟩) (.inr HB2.out) (.string t))
      clear h2
      go_wp2_with fail
      clear a0 a1 a2 f2
      refine (nText_calls _ (HG.out.chg (D.out.trans D5.out (fun _ h => h.elim))) p1 A t (by omega)).mono ?_
      rintro e w4 ⟨rfl, hc⟩
      obtain ⟨X, hX⟩ : ∃ X, textT p1 A t = X := ⟨_, rfl⟩
      obtain ⟨E, hE⟩ : ∃ E, textE p1 A t = E := ⟨_, rfl⟩
      simp only [hX, hE]
      have HX := Lib.hid hX
      have HE := Lib.hid hE
      clear hX hE
      have h2 := hc.obj HO3.out (fun h => h)
      have D6 := Lib.hid (D5.out.trans hc (fun _ h => h.elim))
      have h1 := D6.out.obj HO1.out (fun h => h)
      have H1 := Lib.hid h1
      clear hc
      have a0 : w4.cell? ⟨b2, 0, none⟩ = some (.string p1) := blkCell h2 0
      have a1 : w4.cell? ⟨b2, 1, none⟩ = some (.int .i64 A) := blkCell h2 1
      have a2 : w4.cell? ⟨b2, 2, none⟩ = some (.string t) := blkCell h2 2
      have d0 : w4.cell? ⟨b1, 0, none⟩ = some (.string ⟨#[]⟩) := blkCell h1 0
      have d1 : w4.cell? ⟨b1, 1, none⟩ = some (.int .i64 0) := blkCell h1 1
      have d2 : w4.cell? ⟨b1, 2, none⟩ = some (.string ⟨#[]⟩) := blkCell h1 2
      have g0 := blkFree h1 0
      have g1 := blkFree h1 1
      have g2 := blkFree h1 2
      clear h1 h2
      rcases hx with rfl | ⟨N, rfl⟩
      · by_cases he0 : E = 0
        · subst he0
          by_cases hq : X = s
          · subst hq
            go_wp2_with fail
            obtain ⟨hb, hcb⟩ := boxSet (H1.out) (.string p1) (.int .i64 A) (.string t)
            have q0 := blkCell hb 0
            have q1 := blkCell hb 1
            have q2 := blkCell hb 2
            refine bodyPost_ret (v := .tuple #[.agg #[.string p1, .int .i64 A, .string t], .int .i64 0]) (by simp [results, go_sem, q0, q1, q2]) rfl ⟨_, _, _, _, rfl, .inr ⟨rfl, HX.out, HE.out, by omega⟩, fun h => absurd h hse, Chg.trans (D.out.trans D6.out (fun _ h => h.elim)) hcb (fun k e => .inr (by rw [e]; exact HB.out))⟩
          · have hq2 : (!X.toList == s.toList) = true := by
              cases h : (!X.toList == s.toList)
              · exact absurd ((str_eq X s).1 h) hq
              · rfl
            go_wp2_with fail
            obtain ⟨hb, hcb⟩ := boxSet (H1.out) (.string ⟨#[]⟩) (.int .i64 0) (.string ⟨#[]⟩)
            have q0 := blkCell hb 0
            have q1 := blkCell hb 1
            have q2 := blkCell hb 2
            refine bodyPost_ret (v := .tuple #[.agg #[.string ⟨#[]⟩, .int .i64 0, .string ⟨#[]⟩], .int .i64 3]) (by simp [results, go_sem, q0, q1, q2]) rfl ⟨_, _, _, _, rfl, .inl ⟨rfl, rfl, rfl, rfl⟩, fun _ => rfl, Chg.trans (D.out.trans D6.out (fun _ h => h.elim)) hcb (fun k e => .inr (by rw [e]; exact HB.out))⟩
        · have he1 : (E == 0) = false := by simpa using he0
          go_wp2_with fail
          obtain ⟨hb, hcb⟩ := boxSet (H1.out) (.string ⟨#[]⟩) (.int .i64 0) (.string ⟨#[]⟩)
          have q0 := blkCell hb 0
          have q1 := blkCell hb 1
          have q2 := blkCell hb 2
          refine bodyPost_ret (v := .tuple #[.agg #[.string ⟨#[]⟩, .int .i64 0, .string ⟨#[]⟩], .int .i64 3]) (by simp [results, go_sem, q0, q1, q2]) rfl ⟨_, _, _, _, rfl, .inl ⟨rfl, rfl, rfl, rfl⟩, fun _ => rfl, Chg.trans (D.out.trans D6.out (fun _ h => h.elim)) hcb (fun k e => .inr (by rw [e]; exact HB.out))⟩
      · go_wp2_with fail
        obtain ⟨hb, hcb⟩ := boxSet (H1.out) (.string ⟨#[]⟩) (.int .i64 0) (.string ⟨#[]⟩)
        have q0 := blkCell hb 0
        have q1 := blkCell hb 1
        have q2 := blkCell hb 2
        refine bodyPost_ret (v := .tuple #[.agg #[.string ⟨#[]⟩, .int .i64 0, .string ⟨#[]⟩], .int .i64 3]) (by simp [results, go_sem, q0, q1, q2]) rfl ⟨_, _, _, _, rfl, .inl ⟨rfl, rfl, rfl, rfl⟩, fun _ => rfl, Chg.trans (D.out.trans D6.out (fun _ h => h.elim)) hcb (fun k e => .inr (by rw [e]; exact HB.out))⟩
  · have h5' : ((l.length : Int) == 5) = false := by simp; omega
    have d0 : w1.cell? ⟨b1, 0, none⟩ = some (.string ⟨#[]⟩) := blkCell HO1.out 0
    have d1 : w1.cell? ⟨b1, 1, none⟩ = some (.int .i64 0) := blkCell HO1.out 1
    have d2 : w1.cell? ⟨b1, 2, none⟩ = some (.string ⟨#[]⟩) := blkCell HO1.out 2
    have g0 := blkFree HO1.out 0
    have g1 := blkFree HO1.out 1
    have g2 := blkFree HO1.out 2
    go_wp2_with fail
    obtain ⟨hb, hcb⟩ := boxSet (HO1.out) (.string ⟨#[]⟩) (.int .i64 0) (.string ⟨#[]⟩)
    have q0 := blkCell hb 0
    have q1 := blkCell hb 1
    have q2 := blkCell hb 2
    refine bodyPost_ret (v := .tuple #[.agg #[.string ⟨#[]⟩, .int .i64 0, .string ⟨#[]⟩], .int .i64 3]) (by simp [results, go_sem, q0, q1, q2]) rfl ⟨_, _, _, _, rfl, .inl ⟨rfl, rfl, rfl, rfl⟩, fun _ => rfl, Chg.trans (D.out) hcb (fun k e => .inr (by rw [e]; exact HB.out))⟩
end Go.Proofs.YtmbipabiagdaaaaGreatDoor
