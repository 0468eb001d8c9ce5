/- TopPatched: fetch's Take. -/
import Derived.Test.YtnhdlclicjmmnaaGreatPmF
namespace Go.Proofs.YtnhdlclicjmmnaaGreat
open Go.RowKit Go.Lib Go.Shelf Go.Maps
set_option maxRecDepth 100000 in
set_option maxHeartbeats 2000000 in
theorem ftake_calls (w0 w : World) (f c d : Nat) (v z cc : Int) (h t : ByteArray) (l : List ByteArray) (hv dv : List UInt8) (num last : Nat) (sec : List (List UInt8)) (i : Nat) (x y : ByteArray) (q : FS w0 w f c d v z cc h t l hv dv num last sec) (g : GoodB v z cc h t l) (fit : Fit z l hv dv) (hn : num ≤ 1000) (hy : l[i]? = some y) (hx : (x.size : Int) = cutHi z cc i - i * cc) (hh : tleafF x = y) :
    Calls Tryz.prog 14 #[.pointer (some ⟨f, 0, none⟩), .int .i64 i, .string x] w fun e w' => e = .returned (.int .i64 0) ∧ ((hv[i]? = some 1 ∧ FS w0 w' f c d v z cc h t l hv dv num last sec) ∨
      (hv[i]? = some 0 ∧ ∃ sec', FS w0 w' f c d v z cc h t l (hv.set i 1) (layB dv ((i : Int) * cc).toNat x.data.toList) (num + 1) (1 - last) sec')) ∧ KeptI w w' := by
  obtain ⟨a1, a2, a3, a4, b1, b2, a6, a7, a8⟩ := g.rng
  obtain ⟨hl32, hcnt, hroot⟩ := g.all
  have hil : i < l.length := (List.getElem?_eq_some_iff.1 hy).1
  have hi : (i : Int) < cntF z cc := by omega
  have hlt := cut_lt (show 1 ≤ cc by omega) hi
  obtain ⟨F, hF⟩ : ∃ F : Nat, (i : Int) * cc = (F : Int) := ⟨((i : Int) * cc).toNat, (Int.toNat_of_nonneg (Int.mul_nonneg (by omega) (by omega))).symm⟩
  have hle := cutHi_le z cc i
  have e1 := fit.hl
  have e2 := fit.dl
  have hF2 : F < dv.length := by omega
  have hF3 : F + x.size ≤ dv.length := by omega
  have hih : i < hv.length := by omega
  have hs32 : ∀ u ∈ l, u.size ≤ 1048576 := fun u hu => by rw [hl32 u hu]; decide
  have FSW := Lib.hid q
  have HG := Lib.hid g
  have HFIT := Lib.hid fit
  obtain ⟨h0, ⟨A, cap, r, gh, ch, gd, cd, s1, s2, s3, s4, s5, s6, s7, s8, s9⟩, hc, hd, hr⟩ := q
  have CF := Lib.hid (fun (w1 : World) (hg : Chg (fun _ => False) w w1) => Fits_calls w1 v z cc i h t x y A cap r l (SRow.chg s2 hg (fun _ _ h => h)) (by omega) hs32 g.chk hi hy hx hh)
  have CC := Lib.hid (fun (w1 : World) (hg : Chg (fun _ => False) w w1) => Cut_calls w1 v z cc i h t A cap r l (SRow.chg s2 hg (fun _ _ h => h)) (by omega) hs32 g.chk (by omega) hi)
  obtain ⟨z2, hz2⟩ : ∃ z2, cutHi z cc i = z2 := ⟨_, rfl⟩
  rw [hF, hz2] at CC
  rw [hF, Int.toNat_natCast]
  have S1 := Lib.hid s1
  have S4 := Lib.hid s4
  have S5 := Lib.hid s5
  have NE := Lib.hid (show gh ≠ gd ∧ gh ≠ f ∧ gd ≠ f from ⟨s8, fun e => by obtain ⟨_, _, k⟩ := s4.noted; rw [e, s1] at k; injection k with k; injection k with _ k _; exact absurd k (by decide), fun e => by obtain ⟨_, _, k⟩ := s5.noted; rw [e, s1] at k; injection k with k; injection k with _ k _; exact absurd k (by decide)⟩)
  have d0 : ((hv.length : Int) == 0) = false := beq_eq_false_iff_ne.2 (by omega)
  have q0 : (0 : Int) ≤ (i : Int) := by omega
  have q1 : (i : Int) < (hv.length : Int) := by omega
  have p1 : w.cell? ⟨f, 1, none⟩ = some (.int .i64 v) := blkCell s1 1
  have p2 : w.cell? ⟨f, 2, none⟩ = some (.int .i64 z) := blkCell s1 2
  have p3 : w.cell? ⟨f, 3, none⟩ = some (.int .i64 cc) := blkCell s1 3
  have p4 : w.cell? ⟨f, 4, none⟩ = some (.string h) := blkCell s1 4
  have p5 : w.cell? ⟨f, 5, none⟩ = some (.string t) := blkCell s1 5
  have p6 : w.cell? ⟨f, 6, none⟩ = some (.slice A l.length cap) := blkCell s1 6
  have p7 : w.cell? ⟨f, 7, none⟩ = some (.slice (some ⟨gh, 0, none⟩) hv.length ch) := blkCell s1 7
  obtain ⟨b, hb⟩ : ∃ b, hv[i]? = some b := ⟨_, List.getElem?_eq_getElem hih⟩
  have hbit := bad_bit (by simpa using List.any_eq_false.1 fit.ok b (List.mem_of_getElem? hb))
  have HB := Lib.hid hb
  have HN : Hid (num ≤ 1000) := Lib.hid hn
  have HX := Lib.hid (show F + x.size ≤ dv.length ∧ F < dv.length ∧ dv.length ≤ cd ∧ i < hv.length from ⟨hF3, hF2, s9, hih⟩)
  have HW0 := Lib.hid (show w0.heap.size ≤ f ∧ w0.heap.size ≤ gh ∧ w0.heap.size ≤ gd from ⟨h0, s6, s7⟩)
  have HCL := Lib.hid hc
  have HDV := Lib.hid hd
  have HRG := Lib.hid hr
  clear g fit s1 s2 s3 s4 s5 s6 s7 s8 hc hd hr hb hroot hcnt hl32 hs32 hn hx hh hy hi hlt hle hz2 hF hF3 h0 e1 e2 s9
  go_enter Tryz.func14, Tryz.ntmps14
  go_wp2_with fail
  refine (CF.out w (Chg.refl _ _)).mono ?_
  rintro e w1 ⟨rfl, hg1⟩
  have HG1 := Lib.hid hg1
  have hf1 := hg1.obj S1.out (fun h => h)
  clear p1 p2 p3 p4 p5 p6 p7
  have p1 : w1.cell? ⟨f, 1, none⟩ = some (.int .i64 v) := blkCell hf1 1
  have p2 : w1.cell? ⟨f, 2, none⟩ = some (.int .i64 z) := blkCell hf1 2
  have p3 : w1.cell? ⟨f, 3, none⟩ = some (.int .i64 cc) := blkCell hf1 3
  have p4 : w1.cell? ⟨f, 4, none⟩ = some (.string h) := blkCell hf1 4
  have p5 : w1.cell? ⟨f, 5, none⟩ = some (.string t) := blkCell hf1 5
  have p6 : w1.cell? ⟨f, 6, none⟩ = some (.slice A l.length cap) := blkCell hf1 6
  have p7 : w1.cell? ⟨f, 7, none⟩ = some (.slice (some ⟨gh, 0, none⟩) hv.length ch) := blkCell hf1 7
  have p8 := (S4.out.chg hg1 (fun h => h)).cell HB.out
  clear hg1 hf1
  rcases hbit with rfl | rfl
  · have p8 : w1.cell? ⟨gh, i, none⟩ = some (.int .u8 0) := p8
    go_wp2_with fail
    refine (CC.out w1 HG1.out).mono ?_
    rintro e w2 ⟨rfl, hg2⟩
    have HG2 := Lib.hid (HG1.out.trans hg2 (fun _ h => h.elim))
    clear p1 p2 p3 p4 p5 p6 p7 p8 hg2 CF CC HG1
    have HF2 := Lib.hid (HG2.out.obj S1.out (fun h => h))
    have HH2 := Lib.hid (S4.out.chg HG2.out (fun h => h))
    have HD2 := Lib.hid (S5.out.chg HG2.out (fun h => h))
    have HH3 := Lib.hid (HH2.out.set i 1 HX.out.2.2.2)
    have HG3 := Lib.hid ((Chg.refl (fun k => k = gh) w2).cellOf i (.int .u8 1))
    have HD3 := Lib.hid (HD2.out.chg HG3.out (fun e => NE.out.1 e.symm))
    have HF3 := Lib.hid (HG3.out.obj HF2.out (fun e => NE.out.2.1 e.symm))
    have p7 : w2.cell? ⟨f, 7, none⟩ = some (.slice (some ⟨gh, 0, none⟩) hv.length ch) := blkCell HF2.out 7
    have p8 : w2.frozen? ⟨gh, i, none⟩ = false := HH2.out.free HX.out.2.2.2
    have p9 := HH2.out.cell HB.out
    have p10 : (w2.setCell ⟨gh, i, none⟩ (.int .u8 1)).cell? ⟨f, 8, none⟩ = some (.slice (some ⟨gd, 0, none⟩) dv.length cd) := blkCell HF3.out 8
    have q2 : (0 : Int) ≤ (F : Int) := by omega
    have q3 : (F : Int) ≤ (dv.length : Int) := by have := HX.out; omega
    have q4 : ¬ cd = F := by have := HX.out; omega
    have q5 : F ≤ cd := by have := HX.out; omega
    have CPY : ∀ ty, (Builtin.copy_ #[22, 9] ty #[.slice (some ⟨gd, F, none⟩) (dv.length - F) (cd - F), .string x]).run Tryz.prog (w2.setCell ⟨gh, i, none⟩ (.int .u8 1)) = .ok (goInt x.size) ((w2.setCell ⟨gh, i, none⟩ (.int .u8 1)).setCells gd F (x.data.toList.map fun x => Value.int .u8 (x.toNat : Int))) := fun ty =>
      run_copy_string _ _ _ ty 5 gd F (dv.length - F) (cd - F) x Tryz.underlying22 (fun w => rfl) (by have := HX.out; omega) (fun j hj => by
        have hj2 : F + j < dv.length := by have := HX.out; omega
        rw [HD3.out.cell (List.getElem?_eq_getElem hj2)]
        rfl) (fun j hj => HD3.out.free (by have := HX.out; omega))
    clear hF2
    go_wp2_with fail
    obtain ⟨hL4, hG4⟩ := FB.lay x.data.toList F dv _ HD3.out (by rw [bsize]; exact HX.out.1)
    obtain ⟨W4, hW4⟩ : ∃ W4, (w2.setCell ⟨gh, i, none⟩ (.int .u8 1)).setCells gd F (x.data.toList.map fun x => Value.int .u8 (x.toNat : Int)) = W4 := ⟨_, rfl⟩
    rw [hW4] at hL4 hG4 ⊢
    have hH4 : FB W4 (.slice (some ⟨gh, 0, none⟩) hv.length ch) gh (hv.set i 1) := FB.chg HH3.out hG4 NE.out.1
    have HC4 := Lib.hid ((HG3.out.mono (S' := fun k => k = gh ∨ k = gd) (fun _ e => .inl (.inl e))).trans hG4 (fun _ e => .inl (.inr e)))
    have HF4 := Lib.hid (hG4.obj HF3.out (fun e => NE.out.2.2 e.symm))
    have hz0 : w0.heap.size ≤ w2.heap.size := Nat.le_trans HDV.out.chg0.size HG2.out.size
    have G4 := Lib.hid ((HDV.out.chg0.trans HG2.out (fun _ h => h.elim)).trans HC4.out (fun k e => .inr (by rcases e with rfl | rfl; exact HW0.out.2.1; exact HW0.out.2.2)))
    have K4 := Lib.hid ((KeptT.of_chg (S := fun T => T = 5) HG2.out).trans (kept_b HH2.out HD2.out HC4.out))
    have CL4 := Lib.hid (HCL.out.kept K4.out (by decide) G4.out)
    have DV4 := Lib.hid (Dv.kept HDV.out K4.out (fun T h1 h2 => by subst h2; revert h1; unfold SDev; decide) G4.out)
    obtain ⟨bs, hbs⟩ : ∃ bs, layB dv F x.data.toList = bs := ⟨_, rfl⟩
    obtain ⟨hs, hhs⟩ : ∃ hs, hv.set i 1 = hs := ⟨_, rfl⟩
    have FIT := Lib.hid (HFIT.out.take i F x.data.toList)
    have lh : hs.length = hv.length := by rw [← hhs, List.length_set]
    have lb : bs.length = dv.length := by rw [← hbs, layB_len]
    rw [hbs, hhs] at FIT
    have HBS := Lib.hid hbs
    have HHS := Lib.hid hhs
    rw [hbs] at hL4
    rw [hhs] at hH4
    have TH := Lib.hid (fun (w' : World) (q : FB w' (.slice (some ⟨gh, 0, none⟩) hv.length ch) gh hs) => (by rw [← lh] at q ⊢; exact FB.text q : (convert 22 9 (.slice (some ⟨gh, 0, none⟩) hv.length ch)).run Tryz.prog w' = .ok (.string (strOf hs)) w'))
    have TD := Lib.hid (fun (w' : World) (q : FB w' (.slice (some ⟨gd, 0, none⟩) dv.length cd) gd bs) => (by rw [← lb] at q ⊢; exact FB.text q : (convert 22 9 (.slice (some ⟨gd, 0, none⟩) dv.length cd)).run Tryz.prog w' = .ok (.string (strOf bs)) w'))
    have HL4 := Lib.hid hL4
    have HH4 := Lib.hid hH4
    obtain ⟨mn, mw, u1, u2, u3⟩ := CL4.out.cell
    have hc0 : w0.heap.size ≤ c := CL4.out.1
    have UC := Lib.hid u1
    have UM := Lib.hid u2
    have NM := Lib.hid (show w0.heap.size ≤ mn ∧ w0.heap.size ≤ c from ⟨u3, hc0⟩)
    have NF := Lib.hid (show f ≠ mn ∧ c ≠ mn ∧ gh ≠ mn ∧ gd ≠ mn from ⟨fun e => u2.ne HF4.out e.symm, fun e => u2.ne u1 e.symm, fun e => by obtain ⟨_, _, k⟩ := hH4.noted; exact u2.ne k e.symm, fun e => by obtain ⟨_, _, k⟩ := hL4.noted; exact u2.ne k e.symm⟩)
    have sz : (strOf hs).size ≤ 65535 ∧ (strOf bs).size ≤ 65535 := by
      have r1 := FIT.out.sm
      have r2 := FIT.out.hl
      rw [strOf_size, strOf_size]
      omega
    have P1 : Hid (∀ w5, Chg (fun _ => False) W4 w5 → Calls Tryz.prog 40 #[.pointer (some ⟨c, 0, none⟩), .string ⟨#[104, 97, 118, 101]⟩, .string (strOf hs)] w5 fun e w' => e = .returned (.int .i64 0) ∧ MapAt w' mn (conM v z cc h t l hs dv) ∧ Chg (fun j => j = mn) w5 w') :=
      Lib.hid (fun w5 hg => Put_calls w5 c mn (conM v z cc h t l hv dv) (conM v z cc h t l hs dv) kH (strOf hs) (blkCell (hg.obj UC.out (fun h => h)) 3) (UM.out.chg hg (fun h => h)) (by decide) (by decide) sz.1 (by show 3 < 60; decide) (put_h _ _ _ _))
    have P2 : Hid (∀ w6 w7, Chg (fun j => j = mn) W4 w6 → MapAt w6 mn (conM v z cc h t l hs dv) → Chg (fun _ => False) w6 w7 → Calls Tryz.prog 40 #[.pointer (some ⟨c, 0, none⟩), .string ⟨#[100, 97, 116, 97]⟩, .string (strOf bs)] w7 fun e w' => e = .returned (.int .i64 0) ∧ MapAt w' mn (conM v z cc h t l hs bs) ∧ Chg (fun j => j = mn) w7 w') :=
      Lib.hid (fun w6 w7 k1 k2 hg => Put_calls w7 c mn (conM v z cc h t l hs dv) (conM v z cc h t l hs bs) kD (strOf bs) (blkCell (hg.obj (k1.obj UC.out NF.out.2.1) (fun h => h)) 3) (k2.chg hg (fun h => h)) (by decide) (by decide) sz.2 (by show 3 < 60; decide) (put_d _ _ _ _))
    have D := Lib.hid (Chg.refl (fun j => j = mn) W4)
    have CBX := Lib.hid (fun (w' : World) (c' : Chg (fun j => j = mn) W4 w') => (⟨blkCell (c'.obj HF4.out NF.out.1) 0, blkCell (c'.obj HF4.out NF.out.1) 7, TH.out w' (HH4.out.chg c' NF.out.2.2.1)⟩ : w'.cell? ⟨f, 0, none⟩ = some (.pointer (some ⟨c, 0, none⟩)) ∧ w'.cell? ⟨f, 7, none⟩ = some (.slice (some ⟨gh, 0, none⟩) hv.length ch) ∧ (convert 22 9 (.slice (some ⟨gh, 0, none⟩) hv.length ch)).run Tryz.prog w' = .ok (.string (strOf hs)) w'))
    clear hW4 hL4 hG4 hH4 hz0 hbs hhs u1 u2 u3 hc0 sz lh lb CPY p7 p8 p9 p10 q2 q3 q4 q5 HH3 HD3 HF3 HG3 HH2 HD2 HF2
    go_region_held3 (fun w' => w'.cell? ⟨f, 0, none⟩ = some (.pointer (some ⟨c, 0, none⟩)) ∧ w'.cell? ⟨f, 7, none⟩ = some (.slice (some ⟨gh, 0, none⟩) hv.length ch) ∧ (convert 22 9 (.slice (some ⟨gh, 0, none⟩) hv.length ch)).run Tryz.prog w' = .ok (.string (strOf hs)) w') (first | exact CBX.out _ D.out | exact CBX.out _ D.out.drew)
      (first
        | (go_at_call 40; refine (P1.out _ (Chg.refl (fun _ => False) W4).drew).mono ?_; rintro e w6 ⟨rfl, hm6, hg⟩; have HM6 := Lib.hid hm6; have D := Lib.hid (((Chg.refl (fun j => j = mn) W4).drew).trans hg (fun _ h => .inl h)); clear hg hm6)
        | fail "NOFIT")
    have D46 := Lib.hid D.out
    have D := Lib.hid (Chg.refl (fun j => j = mn) w6)
    have CBX := Lib.hid (fun (w' : World) (c' : Chg (fun j => j = mn) w6 w') => (⟨blkCell (c'.obj (D46.out.obj HF4.out NF.out.1) NF.out.1) 0, blkCell (c'.obj (D46.out.obj HF4.out NF.out.1) NF.out.1) 8, TD.out w' ((HL4.out.chg D46.out NF.out.2.2.2).chg c' NF.out.2.2.2)⟩ : w'.cell? ⟨f, 0, none⟩ = some (.pointer (some ⟨c, 0, none⟩)) ∧ w'.cell? ⟨f, 8, none⟩ = some (.slice (some ⟨gd, 0, none⟩) dv.length cd) ∧ (convert 22 9 (.slice (some ⟨gd, 0, none⟩) dv.length cd)).run Tryz.prog w' = .ok (.string (strOf bs)) w'))
    go_wp2_with fail
    go_region_held3 (fun w' => w'.cell? ⟨f, 0, none⟩ = some (.pointer (some ⟨c, 0, none⟩)) ∧ w'.cell? ⟨f, 8, none⟩ = some (.slice (some ⟨gd, 0, none⟩) dv.length cd) ∧ (convert 22 9 (.slice (some ⟨gd, 0, none⟩) dv.length cd)).run Tryz.prog w' = .ok (.string (strOf bs)) w') (first | exact CBX.out _ D.out | exact CBX.out _ D.out.drew)
      (first
        | (go_at_call 40; refine (P2.out w6 _ D46.out HM6.out (Chg.refl (fun _ => False) w6).drew).mono ?_; rintro e w8 ⟨rfl, hm8, hg⟩; have HM8 := Lib.hid hm8; have D := Lib.hid (((Chg.refl (fun j => j = mn) w6).drew).trans hg (fun _ h => .inl h)); clear hg hm8)
        | fail "NOFIT")
    have D48 := Lib.hid (D46.out.trans D.out (fun _ h => .inl h))
    have G8 := Lib.hid (G4.out.trans D48.out (fun k e => .inr (by rw [e]; exact NM.out.1)))
    have KI8 := Lib.hid ((KeptI.of K4.out (by decide)).trans (KeptI.map D48.out UM.out.obj))
    have DV8 := Lib.hid (Dv.chgm DV4.out D48.out UM.out.obj G8.out)
    have FC := Lib.hid (fcommit_calls w0 w8 f c d v z cc h t A (some ⟨gh, 0, none⟩) (some ⟨gd, 0, none⟩) l.length hv.length dv.length cap ch cd v z cc h t l hs bs num last sec _ HW0.out.1 (D48.out.obj HF4.out NF.out.1) ⟨NM.out.2, G8.out, mn, mw, D48.out.obj UC.out NF.out.2.1, HM8.out, NM.out.1⟩ DV8.out HRG.out HG.out FIT.out HN.out)
    clear CBX P1 P2 D
    go_wp2_with fail
    (with_reducible refine FC.out.mono ?_)
    rintro e w9 ⟨rfl, sec', hfs, hki⟩
    have HKI := Lib.hid (KI8.out.trans hki)
    clear hki
    have FIN : Hid (FS w0 w9 f c d v z cc h t l (hv.set i 1) (layB dv F x.data.toList) (num + 1) (1 - last) sec') := Lib.hid (by rw [HHS.out, HBS.out]; exact hfs)
    clear hfs
    go_wp2_with fail
    go_ret
    exact ⟨rfl, .inr ⟨HB.out, sec', FIN.out⟩, HKI.out⟩
  · have p8 : w1.cell? ⟨gh, i, none⟩ = some (.int .u8 1) := p8
    have FIN := Lib.hid (FSW.out.chg HG1.out)
    go_wp2_with fail
    go_ret
    exact ⟨rfl, .inl ⟨HB.out, FIN.out⟩, KeptI.of (KeptT.of_chg (S := fun _ => False) HG1.out) (fun h => h)⟩
end Go.Proofs.YtnhdlclicjmmnaaGreat
