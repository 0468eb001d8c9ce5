/- TopPatched: the device: Barrier. -/
import Derived.Test.YtnhdlclicjmmnaaGreatPdI
import Derived.Test.YtnhdlclicjmmnaaGreatTkF
namespace Go.Proofs.YtnhdlclicjmmnaaGreat
open Go.RowKit Go.Lib Go.Shelf
def applyAll (safe : List (List UInt8)) (pend : List (Nat × List UInt8)) : List (List UInt8) := pend.foldl (fun s q => s.set q.1 q.2) safe
theorem applyAll_len (pend : List (Nat × List UInt8)) : ∀ safe : List (List UInt8), (applyAll safe pend).length = safe.length := by
  induction pend with
  | nil => exact fun _ => rfl
  | cons q pend ih => exact fun safe => (ih (safe.set q.1 q.2)).trans List.length_set
theorem applyAll_snoc (safe : List (List UInt8)) (pend : List (Nat × List UInt8)) (q : Nat × List UInt8) : applyAll safe (pend ++ [q]) = (applyAll safe pend).set q.1 q.2 := by simp [applyAll]
theorem applyAll_take (safe : List (List UInt8)) (pend : List (Nat × List UInt8)) (k : Nat) (q : Nat × List UInt8) (h : pend[k]? = some q) : applyAll safe (pend.take (k + 1)) = (applyAll safe (pend.take k)).set q.1 q.2 := by
  obtain ⟨hk, hq⟩ := List.getElem?_eq_some_iff.1 h
  rw [List.take_succ_eq_append_getElem hk, applyAll_snoc, hq]
theorem WRow.cells {w : World} {g n c : Nat} {r : Option Nat} {l : List (Nat × List UInt8)} (h : WRow w (.slice (some ⟨g, 0, none⟩) n c) r l) (k : Nat) (q : Nat × List UInt8) (hk : l[k]? = some q) : w.rangeAt g (k * 65) (encW q) := fun j v hv => by
  have hj : j < 65 := by
    have := (List.getElem?_eq_some_iff.1 hv).1
    rwa [encW_len] at this
  exact (SRow.cell h encW_len k j _ hk hj v hv).1
/-- What stands between two rounds. -/
def Bar (w0 w wr : World) (b : Nat) (A1 A2 A3 : Option Addr) (c1 c2 c3 : Nat) (r1 r2 r3 : Option Nat) (st : Int) (seen safe : List (List UInt8)) (pend : List (Nat × List UInt8)) (k : Nat) : Prop :=
  wr.heap[b]? = some (.cells #[.slice A1 seen.length c1, .slice A2 safe.length c2, .slice A3 pend.length c3, .int .i64 st, .int .i64 0, .bool false] 80 (0, 0)) ∧
  DRow wr (.slice A1 seen.length c1) r1 seen ∧ DRow wr (.slice A2 safe.length c2) r2 (applyAll safe (pend.take k)) ∧ WRow wr (.slice A3 pend.length c3) r3 pend ∧ Chg (fun k => k = b ∨ r2 = some k) w wr ∧ Chg (fun _ => False) w0 wr
theorem bar_step {w0 w wr wx : World} {b : Nat} {A1 A3 : Option Addr} {g2 c1 c2 c3 : Nat} {r1 r2 r3 : Option Nat} {st : Int} {seen safe : List (List UInt8)} {pend : List (Nat × List UInt8)} {k : Nat} {q : Nat × List UInt8}
    (h : Bar w0 w wr b A1 (some ⟨g2, 0, none⟩) A3 c1 c2 c3 r1 r2 r3 st seen safe pend k) (hx : Chg (fun _ => False) wr wx) (hq : pend[k]? = some q) (hn : q.1 < safe.length) (hne : ∀ k, r1 = some k → r2 ≠ some k) (k2 : ∀ k, r2 = some k → w0.heap.size ≤ k) :
    wx.there g2 (q.1 * 64) 64 ∧ Chg (fun k => r2 = some k) wx (wx.setCells g2 (q.1 * 64) (enc64 q.2)) ∧ Bar w0 w (wx.setCells g2 (q.1 * 64) (enc64 q.2)) b A1 (some ⟨g2, 0, none⟩) A3 c1 c2 c3 r1 r2 r3 st seen safe pend (k + 1) := by
  obtain ⟨h1, h2, h3, h4, h5, h6⟩ := h
  have f1 := hx.obj h1 (fun h => h)
  have f2 := SRow.chg h2 hx (fun _ _ h => h)
  have f3 := SRow.chg h3 hx (fun _ _ h => h)
  have f4 := SRow.chg h4 hx (fun _ _ h => h)
  obtain ⟨p1, p2, p3⟩ := SRow.put f3 enc64_len q.1 q.2 (by rw [applyAll_len]; exact hn)
  refine ⟨p1, p3, p3.obj f1 (SRow.ne f3 f1 (by decide)), SRow.chg f2 p3 (fun k e e2 => hne k e e2), ?_, SRow.chg f4 p3 (fun k e e2 => ?_), (h5.trans hx (fun _ h => h.elim)).trans p3 (fun k e => .inl (.inr e)), (h6.trans hx (fun _ h => h.elim)).trans p3 (fun k e => .inr (k2 k e))⟩
  · rw [applyAll_take safe pend k q hq]
    exact p2
  · obtain ⟨_, cs1, hx1⟩ := SRow.lt f3 e2
    exact SRow.ne f4 hx1 (by decide) e
theorem bar_end {w0 w wr : World} {b : Nat} {A1 A2 A3 : Option Addr} {c1 c2 c3 : Nat} {r1 r2 r3 : Option Nat} {st : Int} {seen safe : List (List UInt8)} {pend : List (Nat × List UInt8)}
    (h : Bar w0 w wr b A1 A2 A3 c1 c2 c3 r1 r2 r3 st seen safe pend pend.length) (hb0 : w0.heap.size ≤ b) (hB : ∃ cs, w.heap[b]? = some (.cells cs 80 (0, 0))) (h5 : DRow w (.slice A2 safe.length c2) r2 safe)
    (k1 : ∀ k, r1 = some k → w0.heap.size ≤ k) (k2 : ∀ k, r2 = some k → w0.heap.size ≤ k) (hne : ∀ k, r1 = some k → r2 ≠ some k) :
    Dv w0 (wr.setCell ⟨b, 2, none⟩ (.slice none 0 0)) b seen (applyAll safe pend) [] ∧ KeptT SDev w (wr.setCell ⟨b, 2, none⟩ (.slice none 0 0)) := by
  obtain ⟨h1, h2, h3, h4, h6, h7⟩ := h
  obtain ⟨cs, hB⟩ := hB
  rw [List.take_length] at h3
  have c5 : Chg (fun k => k = b) wr (wr.setCell ⟨b, 2, none⟩ (.slice none 0 0)) := (Chg.refl (fun k => k = b) wr).setCell (p := ⟨b, 2, none⟩) (.inl rfl) _
  have hb5 := blkSet h1 2 (.slice none 0 0)
  have e2 := SRow.chg h2 c5 (fun k e hk => by subst hk; exact SRow.ne h2 h1 (by decide) e)
  have e3 := SRow.chg h3 c5 (fun k e hk => by subst hk; exact SRow.ne h3 h1 (by decide) e)
  refine ⟨⟨hb0, h7.trans c5 (fun k e => .inr (by rw [e]; exact hb0)), A1, c1, r1, A2, c2, r2, none, 0, none, st, ?_, e2, ?_, SRow.nil _, k1, k2, (fun k (e : none = some k) => nomatch e), hne⟩, KeptT.of ((h6.trans c5 (fun k e => .inl (.inl e)))) (fun k e => ?_)⟩
  · rw [applyAll_len]
    simpa using hb5
  · rw [applyAll_len]
    exact e3
  · rcases e with rfl | e
    · exact .inr ⟨_, _, _, hB, .inl rfl⟩
    · obtain ⟨_, cs1, hx1⟩ := SRow.lt h5 e
      exact .inr ⟨_, _, _, hx1, .inr (.inl rfl)⟩
set_option maxRecDepth 100000 in
theorem Barrier_calls (w0 w : World) (b : Nat) (seen safe : List (List UInt8)) (pend : List (Nat × List UInt8)) (h : Dv w0 w b seen safe pend) (hp : ∀ q ∈ pend, q.1 < safe.length) :
    Calls Tryz.prog 112 #[.pointer (some ⟨b, 0, none⟩)] w fun e w' => e = .returned (.int .i64 0) ∧ Dv w0 w' b seen (applyAll safe pend) [] ∧ KeptT SDev w w' := by
  obtain ⟨hb0, hc0, A1, c1, r1, A2, c2, r2, A3, c3, r3, st, h3, h4, h5, h6, k1, k2, k3, hne⟩ := h
  have C2 := Lib.hid (step_calls w b st (blkCell h3 3) (blkFree h3 3) (blkCell h3 4))
  have CH := Lib.hid (fun (w1 : World) (st' : Int) (he : w1 = w.setCell ⟨b, 3, none⟩ (.int .i64 st')) => (⟨by rw [he]; simpa using blkSet h3 3 (.int .i64 st'), by rw [he]; exact (Chg.refl (fun k => k = b) w).setCell (p := ⟨b, 3, none⟩) (.inl rfl) _⟩ :
    w1.heap[b]? = some (.cells #[.slice A1 seen.length c1, .slice A2 safe.length c2, .slice A3 pend.length c3, .int .i64 st', .int .i64 0, .bool false] 80 (0, 0)) ∧ Chg (fun k => k = b) w w1))
  have q5 := blkCell h3 5
  have H4 := Lib.hid h4
  have H5 := Lib.hid h5
  have H6 := Lib.hid h6
  have H3 := Lib.hid h3
  clear h3 h4 h5 h6
  go_enter Tryz.func112, Tryz.ntmps112
  go_wp2_with (go_at_call 118; refine C2.out.mono ?_; rintro e w1 ⟨rfl, st', he⟩; obtain ⟨hx, hg⟩ := CH.out w1 st' he; have HX := Lib.hid hx; have HG := Lib.hid hg; have p2 := blkCell hx 2; clear he hx hg)
  have R4 := Lib.hid (SRow.chg H4.out HG.out (fun k e hk => by subst hk; exact SRow.ne H4.out H3.out (by decide) e))
  have R5 := Lib.hid (SRow.chg H5.out HG.out (fun k e hk => by subst hk; exact SRow.ne H5.out H3.out (by decide) e))
  have R6 := Lib.hid (SRow.chg H6.out HG.out (fun k e hk => by subst hk; exact SRow.ne H6.out H3.out (by decide) e))
  clear p2 C2 CH q5
  go_loopw [24] (fun v wr => ∃ k : Nat, k ≤ pend.length ∧ v = .int .i64 k ∧ HD (Bar w0 w wr b A1 A2 A3 c1 c2 c3 r1 r2 r3 st' seen safe pend k)) (fun v _ => pend.length - (intOf v).toNat)
  case atStart => exact ⟨0, Nat.zero_le _, rfl, ⟨HX.out, R4.out, R5.out, R6.out, HG.out.mono (fun k e => .inl (.inl e)), hc0.trans HG.out (fun k e => .inr (by rw [e]; exact hb0))⟩⟩
  case round =>
    obtain ⟨k, hk, rfl, ⟨HB⟩⟩ := hrel
    obtain ⟨w2, rfl⟩ : ∃ w2, w2 = wr := ⟨_, rfl⟩
    have HBR := Lib.hid HB
    clear HB
    by_cases hlt : k < pend.length
    · obtain ⟨q, hq⟩ : ∃ q, pend[k]? = some q := ⟨_, List.getElem?_eq_getElem hlt⟩
      have hn : q.1 < safe.length := hp q (List.mem_of_getElem? hq)
      obtain ⟨g3, rfl⟩ : ∃ g3, A3 = some ⟨g3, 0, none⟩ := by
        obtain ⟨g, _, hA, _⟩ := SRow.at_ HBR.out.2.2.2.1 (by omega)
        exact ⟨g, hA⟩
      obtain ⟨g2, rfl⟩ : ∃ g2, A2 = some ⟨g2, 0, none⟩ := by
        obtain ⟨g, _, hA, _⟩ := SRow.at_ HBR.out.2.2.1 (by rw [applyAll_len]; omega)
        exact ⟨g, hA⟩
      have HQ := Lib.hid hq
      have LQ := Lib.hid (WRow.cells HBR.out.2.2.2.1 k q hq)
      have hL : pend.length ≤ 9223372036854775807 := by
        obtain ⟨_, _, _, h1, h2⟩ := SRow.form HBR.out.2.2.2.1
        omega
      have hw : IntKind.i64.wrap ((k : Int) + 1) = (k : Int) + 1 := by rw [IntKind.wrap_i64]; omega
      have q0 : (0 : Int) ≤ (k : Int) := by omega
      have q1 : (k : Int) < (pend.length : Int) := by omega
      have i0 : (0 : Int) ≤ (q.1 : Int) := by omega
      have i1 : (q.1 : Int) < (safe.length : Int) := by omega
      clear hq
      go_wp2_with (first
        | (show wpList _ _ _ (⟨some 27, _, _, _, _, _⟩ :: _) _ _; refine wpList_load_mid rfl 94 (.tmp 26) rfl g3 (k * 65) rfl (encW q) _ LQ.out Tryz.underlying94 rfl (by rw [encW_len]; exact size65) ?_)
        | (show wpList _ _ _ (⟨some 5, _, _, _, _, _⟩ :: _) _ _; refine wpList_alloc_is rfl 94 rfl _ zero65 ?_)
        | (show wpList _ _ _ (⟨none, _, _, _, _, _⟩ :: _) _ _; refine wpList_store_all rfl 94 (.tmp 5) (.tmp 27) rfl w2.heap.size (encW q).toArray _ 94 rfl rfl (blkAlloc w2 _) (by rw [List.size_toArray, encW_len]; rfl) (by rw [List.size_toArray, encW_len]; exact size65) (by intro u hu; exact encW_one _ u hu) ?_; intro w3 hx3 hg3; have HX3 := Lib.hid hx3; have C23 : Hid (Chg (fun _ => False) w2 w3) := Lib.hid (((Chg.refl (fun _ => False) w2).alloc _).trans hg3 (fun k e => .inr (by rw [e]; exact Nat.le_refl _))); clear hx3 hg3)
        | fail "NOFIT")
      have HB3 := Lib.hid (C23.out.obj HBR.out.1 (fun h => h))
      have FN := Lib.hid (bar_step (wx := w3.drew) HBR.out C23.out.drew HQ.out hn hne k2)
      have NB := Lib.hid (show r2 ≠ some w2.heap.size from fun e => absurd (SRow.lt HBR.out.2.2.1 e).1 (by omega))
      have NB2 := Lib.hid (SRow.ne HBR.out.2.2.1 HBR.out.1 (by decide))
      refine wp_region_held_drew (S := fun w' => w'.cell? ⟨b, 1, none⟩ = some (.slice (some ⟨g2, 0, none⟩) safe.length c2) ∧ w'.cell? ⟨w2.heap.size, 0, none⟩ = some (.int .i64 q.1) ∧ w'.heap[w2.heap.size]? = some (.cells (encW q).toArray 94 (0, 0))) (by kernel_rfl) (⟨blkCell HB3.out 1, blkCell HX3.out 0, HX3.out⟩) (fun hHeld => ?_)
      refine held_take 0 (some 28) ?vk0 rfl rfl (by kernel_rfl) (by kernel_rfl) (by kernel_rfl) (fun _ _ _ h => h) (by go_simp) (by assumption) ?hyk0 ?restk0
      case hyk0 => (intro w hSw; (try dsimp only at hSw); go_simp; try with_reducible rfl)
      (try simp only [Act.put, List.setIfInBounds_toArray, List.set_cons_zero, List.set_cons_succ])
      refine held_take 1 (some 29) ?vk1 rfl rfl (by kernel_rfl) (by kernel_rfl) (by kernel_rfl) (fun _ _ _ h => h) (by go_simp) (by assumption) ?hyk1 ?restk1
      case hyk1 => (intro w hSw; (try dsimp only at hSw); go_simp; try with_reducible rfl)
      (try simp only [Act.put, List.setIfInBounds_toArray, List.set_cons_zero, List.set_cons_succ])
      refine held_take 2 (some 30) ?vk2 rfl rfl (by kernel_rfl) (by kernel_rfl) (by kernel_rfl) (fun _ _ _ h => h) (by go_simp) (by assumption) ?hyk2 ?restk2
      case hyk2 => (intro w hSw; (try dsimp only at hSw); go_simp; try with_reducible rfl)
      (try simp only [Act.put, List.setIfInBounds_toArray, List.set_cons_zero, List.set_cons_succ])
      refine held_take 3 (some 31) ?vk3 rfl rfl (by kernel_rfl) (by kernel_rfl) (by kernel_rfl) (fun _ _ _ h => h) (by go_simp) (by assumption) ?hyk3 ?restk3
      case hyk3 => (intro w hSw; (try dsimp only at hSw); go_simp; try with_reducible rfl)
      (try simp only [Act.put, List.setIfInBounds_toArray, List.set_cons_zero, List.set_cons_succ])
      refine held_take 4 (some 32) ?vk4 rfl rfl (by kernel_rfl) (by kernel_rfl) (by kernel_rfl) (fun _ _ _ h => h) (by go_simp) (by assumption) ?hyk4 ?restk4
      case hyk4 => (intro w hSw; (try dsimp only at hSw); go_simp; try with_reducible rfl)
      (try simp only [Act.put, List.setIfInBounds_toArray, List.set_cons_zero, List.set_cons_succ])
      refine held_take 5 (some 33) ?vk5 rfl rfl (by kernel_rfl) (by kernel_rfl) (by kernel_rfl) (fun _ _ _ h => h) (by go_simp) (by assumption) ?hyk5 ?restk5
      case hyk5 => (intro w hSw; (try dsimp only at hSw); go_simp; try with_reducible rfl)
      (try simp only [Act.put, List.setIfInBounds_toArray, List.set_cons_zero, List.set_cons_succ])
      refine held_take 6 (some 34) ?vk6 rfl rfl (by kernel_rfl) (by kernel_rfl) (by kernel_rfl) (fun _ _ _ h => h) (by go_simp) (by assumption) ?hyk6 ?restk6
      case hyk6 => (intro w hSw; (try dsimp only at hSw); go_simp; try with_reducible rfl)
      (try simp only [Act.put, List.setIfInBounds_toArray, List.set_cons_zero, List.set_cons_succ])
      refine held_take 7 (some 35) (.agg (enc64 q.2).toArray) rfl rfl (by kernel_rfl) (by kernel_rfl) (by kernel_rfl) (fun _ _ _ h => h) (by go_simp) (by assumption) ?hyk7 ?restk7
      case hyk7 => (intro w hSw; exact run_load_op (v := .pointer (some ⟨w2.heap.size, 1, none⟩)) rfl rfl (loadS hSw.2.2))
      (try simp only [Act.put, List.setIfInBounds_toArray, List.set_cons_zero, List.set_cons_succ])
      refine held_take 8 (some 36) ?vk8 rfl rfl (by kernel_rfl) (by kernel_rfl) (by kernel_rfl) (fun _ _ _ h => h) (by go_simp) (by assumption) ?hyk8 ?restk8
      case hyk8 => (intro w hSw; (try dsimp only at hSw); go_simp; try with_reducible rfl)
      (try simp only [Act.put, List.setIfInBounds_toArray, List.set_cons_zero, List.set_cons_succ])
      refine wpAnyH_ready (rs := [9]) (by kernel_rfl) (by simp) ?_
      refine AllReadyH.cons rfl (fun K hK => ?_) AllReadyH.nil
      refine step_store_mid (by go_simp) 92 (.tmp 36) (.tmp 35) rfl g2 (q.1 * 64) (enc64 q.2).toArray rfl rfl (by rw [List.size_toArray, enc64_len]; exact FN.out.1) (by rw [List.size_toArray, enc64_len]; exact size64) (all_oneCell_toArray (enc64_one _)) ?_
      have KX := Lib.hid FN.out.2.2
      refine hK.out _ _ (⟨blkCell KX.out.1 1, blkCell (FN.out.2.1.obj HX3.out NB.out) 0, FN.out.2.1.obj HX3.out NB.out⟩) (fun hHeld => ?_)
      clear hK K
      (try simp only [Act.put, List.setIfInBounds_toArray, List.set_cons_zero, List.set_cons_succ])
      refine wpAnyH_done (by kernel_rfl) ?_ _
      go_wp2_with fail
      go_roundw
      case rel => exact ⟨k + 1, hlt, by go_num, ⟨KX.out⟩⟩
      case measure => simp [intOf, tk_wrap (x := (k : Int) + 1) (by omega) (by omega)]; omega
    · have hke : k = pend.length := by omega
      subst hke
      have c2' := blkCell HBR.out.1 2
      have f2' := blkFree HBR.out.1 2
      have q1 : ¬ ((pend.length : Int) < (pend.length : Int)) := by omega
      go_wp2_with fail
      go_ret
      refine ⟨rfl, bar_end HBR.out hb0 ⟨_, H3.out⟩ H5.out k1 k2 hne⟩
end Go.Proofs.YtnhdlclicjmmnaaGreat
