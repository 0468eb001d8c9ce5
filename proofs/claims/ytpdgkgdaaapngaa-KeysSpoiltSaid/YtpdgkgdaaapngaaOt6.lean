/- One-time signatures: the digits of a text. -/
import Derived.Test.YtpdgkgdaaapngaaOtD
namespace Go.Proofs.Ytpdgkgdaaapngaa
open Go.RowKit
set_option maxRecDepth 100000 in
set_option maxHeartbeats 1000000 in
theorem digits_calls (w : World) (text : ByteArray) (hs : text.size ≤ 140737488351232) :
    Calls Try.prog 48 #[.string text] w fun e w' => e = .returned (.agg (dcells (digF text))) ∧ Chg (fun _ => False) w w' := by
  have HB : Hid (1 + bulk [text] ≤ 140737488355200) := Lib.hid (by simp only [bulk, List.map_cons, List.map_nil, List.sum_cons, List.sum_nil]; omega)
  clear hs
  have hsz := tagF_size 34 [text]
  obtain ⟨h, hh⟩ : ∃ h, tagF 34 [text] = h := ⟨_, rfl⟩
  rw [hh] at hsz
  obtain ⟨b, hbb⟩ : ∃ b : Nat → Int, byteAt h.data.toList = b := ⟨_, rfl⟩
  have HR : Hid (∀ j, 0 ≤ b j ∧ b j < 256) := Lib.hid (fun j => by rw [← hbb]; exact byteAt_range _ _)
  have HD0 : Hid (((w.alloc (.cells (dcells []) 94)).alloc (.cells (dcells []) 94)).heap[w.heap.size + 1]? = some (.cells (dcells []) 94 (0, 0))) := Lib.hid (by have := blkAlloc (w.alloc (.cells (dcells []) 94)) (.cells (dcells []) 94); simpa using this)
  have HD1 : Hid (((w.alloc (.cells (dcells []) 94)).alloc (.cells (dcells []) 94)).heap[w.heap.size]? = some (.cells (dcells []) 94 (0, 0))) := Lib.hid (blkOld (blkAlloc w _) _)
  go_enter Try.func48, Try.ntmps48
  go_wp2_with (go_at_call 28; refine (Tag_calls _ 34 (by decide) _ 1 1 [text] (strsAt (by simp) (by simp)) rfl HB.out).mono ?_; rw [hh]; rintro e w1 ⟨rfl, hg⟩; have H1 := Lib.hid (Chg.un hg); clear hg; obtain ⟨C, o, hcv, hcl⟩ := conv8 w1 h hsz; rw [hbb] at hcl; have HCL := Lib.hid hcl; clear hcl)
  have X0 := Lib.hid ((H1.out.drew.alloc o).obj HD0.out (fun h => h))
  have X1 := Lib.hid ((H1.out.drew.alloc o).obj HD1.out (fun h => h))
  have X2 : Hid (Chg (fun _ => False) w (w1.drew.alloc o)) := Lib.hid ((((Chg.refl _ w).alloc _).alloc _).trans (H1.out.drew.alloc o) (fun _ h => .inl h))
  have hgs : w.heap.size + 1 < w1.heap.size := by have h2 := H1.out.size; simp at h2; omega
  clear HD0 HD1 H1 hcv hsz
  obtain ⟨g, hg1⟩ : ∃ g, w1.heap.size = g := ⟨_, rfl⟩
  obtain ⟨w2, hw2⟩ : ∃ w2, (w1.alloc o).drew = w2 := ⟨_, rfl⟩
  have hsw : w1.drew.alloc o = (w1.alloc o).drew := rfl
  rw [hg1] at HCL hgs ⊢
  rw [hsw, hw2] at X0 X1 X2 HCL
  rw [hw2]
  clear hw2 hg1 hsw
  go_loopw [4, 13] (fun s k wx => ∃ c : Nat, c ≤ 8 ∧ k = .int .i64 c ∧ s = .int .i64 (sumD b c) ∧ HD (wx.heap[w.heap.size + 1]? = some (.cells (dcells (digL b c)) 94 (0, 0))) ∧ HD (Chg (fun k => k = w.heap.size + 1) w2 wx)) (fun _ k _ => 8 - (intOf k).toNat)
  case atStart => exact ⟨0, by omega, rfl, rfl, ⟨X0.out⟩, ⟨Chg.refl _ _⟩⟩
  case round =>
    obtain ⟨c, hc, rfl, rfl, HW, GG⟩ := hrel
    by_cases hlt : c < 8
    · have h0 := cellChg (HCL.out c hlt) GG.out (fun e => by simp at e; omega)
      have r0 := HR.out c
      have hs0 := sumD_range b HR.out c
      obtain ⟨n, e0⟩ : ∃ n, b c = n := ⟨_, rfl⟩
      obtain ⟨s, es⟩ : ∃ s, sumD b c = s := ⟨_, rfl⟩
      rw [e0] at h0 r0
      rw [es] at hs0 ⊢
      have f0 := dFree HW.out (2 * c) (by rw [digL_len]; exact Nat.le_refl _) (by omega)
      have f1 := dFree HW.out (2 * c + 1) (by rw [digL_len]; omega) (by omega)
      have g0 := blkFree HW.out (2 * c)
      have g1 := blkFree HW.out (2 * c + 1)
      have k0 : 2 * (c : Int) < 18 := by omega
      have k1 : 2 * (c : Int) + 1 < 18 := by omega
      have q0 : (0 : Int) ≤ 2 * (c : Int) := by omega
      have q1 : (0 : Int) ≤ 2 * (c : Int) + 1 := by omega
      have t0 : (2 * (c : Int)).toNat = 2 * c := by omega
      have t1 : (2 * (c : Int) + 1).toNat = 2 * c + 1 := by omega
      have t2 : (c : Int).toNat = c := by omega
      have v0 : IntKind.i64.wrap (2 * (c : Int)) = 2 * (c : Int) := IntWalk.i64_in _ (by omega)
      have v1 : IntKind.i64.wrap (2 * (c : Int) + 1) = 2 * (c : Int) + 1 := IntWalk.i64_in _ (by omega)
      have hk8 : (c : Int) < 8 := by omega
      have y0 : IntKind.i64.wrap (30 - n / 16) = 30 - n / 16 := IntWalk.i64_in _ (by omega)
      have y1 : IntKind.i64.wrap (30 - n / 16 - n % 16) = 30 - n / 16 - n % 16 := IntWalk.i64_in _ (by omega)
      have y2 : IntKind.i64.wrap (s + (30 - n / 16 - n % 16)) = s + (30 - n / 16 - n % 16) := IntWalk.i64_in _ (by omega)
      go_wp2_with fail
      obtain ⟨w3, hw3⟩ : ∃ w3, (wr.setCell ⟨w.heap.size + 1, 2 * c, none⟩ (.int .i64 (n / 16))).setCell ⟨w.heap.size + 1, 2 * c + 1, none⟩ (.int .i64 (n % 16)) = w3 := ⟨_, rfl⟩
      rw [hw3]
      have HW3 : Hid (w3.heap[w.heap.size + 1]? = some (.cells (dcells (digL b (c + 1))) 94 (0, 0))) := Lib.hid (by
        rw [← hw3, digL, e0, show digL b c ++ [n / 16, n % 16] = (digL b c ++ [n / 16]) ++ [n % 16] from by simp]
        exact dSet (dSet HW.out _ (by rw [digL_len]; omega) (2 * c) (digL_len b c)) _ (by rw [List.length_append, digL_len]; simp; omega) (2 * c + 1) (by rw [List.length_append, digL_len]; rfl))
      have HG3 : Hid (Chg (fun k => k = w.heap.size + 1) w2 w3) := Lib.hid (by
        rw [← hw3]
        exact (GG.out.setCell (p := ⟨w.heap.size + 1, 2 * c, none⟩) (.inl rfl) _).setCell (p := ⟨w.heap.size + 1, 2 * c + 1, none⟩) (.inl rfl) _)
      have c0 : w3.cell? ⟨w.heap.size + 1, 2 * c, none⟩ = some (.int .i64 (n / 16)) := by
        rw [dAt HW3.out (2 * c) (by rw [digL_len]; omega), digL, e0, List.getD_eq_getElem?_getD, List.getElem?_append_right (by rw [digL_len]; exact Nat.le_refl _), digL_len, Nat.sub_self]
        rfl
      have c1 : w3.cell? ⟨w.heap.size + 1, 2 * c + 1, none⟩ = some (.int .i64 (n % 16)) := by
        rw [dAt HW3.out (2 * c + 1) (by rw [digL_len]; omega), digL, e0, List.getD_eq_getElem?_getD, List.getElem?_append_right (by rw [digL_len]; omega), digL_len, show 2 * c + 1 - 2 * c = 1 from by omega]
        rfl
      clear hw3 f0 f1 g0 g1 h0
      go_quiet (fail)
      go_wp2_with fail
      exact ⟨⟨c + 1, by omega, by go_num, by rw [sumD, es, e0], ⟨HW3.out⟩, ⟨HG3.out.drewN _⟩⟩, by simp [intOf]; omega⟩
    · obtain rfl : c = 8 := by omega
      have hs0 := sumD_range b HR.out 8
      have HDA := digA_len b
      have f0 := dFree HW.out 16 (by rw [digL_len]; omega) (by omega)
      have f1 := dFree HW.out 17 (by rw [digL_len]; omega) (by omega)
      have g0 := blkFree HW.out 16
      have g1 := blkFree HW.out 17
      rw [show ((8 : Nat) : Int) = 8 from rfl]
      have hm15 := mask15 (sumD b 8) hs0.1 (by omega)
      go_upto_region 10 with fail
      obtain ⟨w4, hw4⟩ : ∃ w4, (wr.setCell ⟨w.heap.size + 1, 16, none⟩ (.int .i64 (sumD b 8 / 16))).setCell ⟨w.heap.size + 1, 17, none⟩ (.int .i64 (sumD b 8 % 16)) = w4 := ⟨_, rfl⟩
      rw [hw4]
      have H4 : Hid (w4.heap[w.heap.size + 1]? = some (.cells (dcells (digA b)) 94 (0, 0))) := Lib.hid (by
        rw [← hw4, digA, show digL b 8 ++ [sumD b 8 / 16, sumD b 8 % 16] = (digL b 8 ++ [sumD b 8 / 16]) ++ [sumD b 8 % 16] from by simp]
        exact dSet (dSet HW.out _ (by rw [digL_len]; omega) 16 (digL_len b 8)) _ (by rw [List.length_append, digL_len]; simp) 17 (by rw [List.length_append, digL_len]; rfl))
      have G4 : Hid (Chg (fun k => k = w.heap.size + 1) w2 w4) := Lib.hid (by
        rw [← hw4]
        exact (GG.out.setCell (p := ⟨w.heap.size + 1, 16, none⟩) (.inl rfl) _).setCell (p := ⟨w.heap.size + 1, 17, none⟩) (.inl rfl) _)
      have H5 : Hid (w4.heap[w.heap.size]? = some (.cells (dcells []) 94 (0, 0))) := Lib.hid (G4.out.obj X1.out (fun e => by omega))
      have HT : Hid (w4.there w.heap.size 0 (dcells (digA b)).size) := Lib.hid (thereBlock H5.out _ (by rw [dcells_size _ (by omega), dcells_size _ (by simp)]; exact Nat.le_refl _))
      have HRG : Hid (w4.rangeAt (w.heap.size + 1) 0 (dcells (digA b)).toList) := Lib.hid (dRange H4.out)
      have HI1 : Hid ((Try.prog.info? 94).map (·.size) = some (dcells (digA b)).toList.length) := Lib.hid (by rw [Array.length_toList, dcells_size _ (by omega)]; kernel_rfl)
      have HI2 : Hid ((Try.prog.info? 94).map (·.size) = some (dcells (digA b)).size) := Lib.hid (by rw [dcells_size _ (by omega)]; kernel_rfl)
      have HW2 : Hid ((w4.setCells w.heap.size 0 (dcells (digA b)).toList).heap[w.heap.size]? = some (.cells (dcells (digA b)) 94 (0, 0))) := Lib.hid (setCells_whole H5.out (by rw [dcells_size _ (by omega), dcells_size _ (by simp)]))
      clear hw4 f0 f1 g0 g1 hm15 hs0 HDA
      go_wp2_with (first
        | (refine wpList_load_mid rfl 94 (.tmp 3) rfl (w.heap.size + 1) 0 rfl (dcells (digA b)).toList _ HRG.out Try.underlying94 rfl HI1.out ?_)
        | (refine wpList_store_mid rfl 94 (.tmp 2) (.tmp 51) rfl w.heap.size 0 (dcells (digA b)) rfl rfl (by exact HT.out) HI2.out (dcells_one _) ?_))
      refine bodyPost_ret (v := .agg (dcells (digA b))) (results_cell_row (fn := Try.f48) rfl _ _ w.heap.size 94 (dcells (digA b)) (0, 0) _ rfl (by exact HW2.out) Try.underlying94 rfl HI2.out) rfl ⟨by rw [digF, hh, hbb], ?_⟩
      exact (X2.out.trans G4.out (fun k e => .inr (by omega))).trans (Chg.setCells (dcells (digA b)).toList 0 _ (Chg.refl (fun k => k = w.heap.size) _)) (fun k e => .inr (by omega))
end Go.Proofs.Ytpdgkgdaaapngaa
