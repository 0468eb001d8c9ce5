/- TopPatched: the cell: copied, where the copy is whole. -/
import Derived.Test.YtnhdlclicjmmnaaGreatPeH
namespace Go.Proofs.YtnhdlclicjmmnaaGreat
open Go.RowKit Go.Lib Go.Shelf Go.Maps
theorem regionB_succ (sec : List (List UInt8)) (a n : Nat) (h : a + n < sec.length) : regionB sec a (n + 1) = regionB sec a n ++ fit64 (sec.getD (a + n) []) := by
  have e : (sec.drop a)[n]? = some (sec.getD (a + n) []) := by
    rw [List.getElem?_drop, List.getD_eq_getElem?_getD, List.getElem?_eq_getElem h]
    rfl
  rw [regionB, flat_take_snoc fit64 _ n _ e]
  rfl
set_option maxRecDepth 100000 in
set_option maxHeartbeats 4000000 in
theorem copiedOk_calls (w0 w : World) (c d base half k num : Nat) (sec : List (List UInt8)) (M : Cont) (hd : Dv w0 w d sec sec []) (cs : Array Value) (hc : w.heap[c]? = some (.cells cs 115 (0, 0))) (c0 : cs[0]? = some (.pointer (some ⟨d, 0, none⟩))) (c1 : cs[1]? = some (.int .i64 base)) (c2 : cs[2]? = some (.int .i64 half))
    (hb : base ≤ 100000) (hh : 2 ≤ half) (hh2 : half ≤ 10000) (hk : k ≤ 1) (hlen : base + k * half + half ≤ sec.length) (hsl : sec.length ≤ 4096) (hok : CopyOk sec (base + k * half) half num (bytesB M)) (hM : ReadM M) (hn1 : 1 ≤ num) (hn2 : num ≤ 1000000000) :
    Calls Tryz.prog 63 #[.pointer (some ⟨c, 0, none⟩), .int .i64 k] w fun e w' => ∃ m, e = .returned (.tuple #[.int .i64 num, .map (some m), .bool true]) ∧ MapAt w' m M ∧ w.heap.size ≤ m ∧ Chg (fun _ => False) w w' := by
  have HOK := Lib.hid hok
  have HC := Lib.hid hc
  have HM := Lib.hid hM
  have CELL := Lib.hid (fun (w' : World) (hg : Chg (fun _ => False) w w') => (⟨(blkCell (hg.obj hc (fun h => h)) 0).trans c0, (blkCell (hg.obj hc (fun h => h)) 1).trans c1, (blkCell (hg.obj hc (fun h => h)) 2).trans c2⟩ :
    w'.cell? ⟨c, 0, none⟩ = some (.pointer (some ⟨d, 0, none⟩)) ∧ w'.cell? ⟨c, 1, none⟩ = some (.int .i64 base) ∧ w'.cell? ⟨c, 2, none⟩ = some (.int .i64 half)))
  have DEV := Lib.hid (fun (w' : World) (hg : Chg (fun _ => False) w w') => Dv.kept (S := fun _ => False) hd (KeptT.of_chg hg) (fun _ _ h => h) (hd.chg0.trans hg (fun _ h => h.elim)))
  obtain ⟨F, hF⟩ : ∃ F, base + k * half = F := ⟨_, rfl⟩
  have hfl : F + half ≤ sec.length := by omega
  have FC := Lib.hid (fun (w' : World) (hg : Chg (fun _ => False) w w') => first_calls w' c base half k (CELL.out w' hg).2.1 (CELL.out w' hg).2.2 hb (by omega) hk)
  rw [hF] at FC HOK
  have RC := Lib.hid (fun (w' : World) (hg : Chg (fun _ => False) w w') (i : Nat) (hi : i < sec.length) => Read_calls w0 w' d sec sec [] i (DEV.out w' hg) hi)
  have ROOM := Lib.hid (fun (w' : World) (hg : Chg (fun _ => False) w w') => room_calls w' c half (CELL.out w' hg).2.2 (by omega) (by omega))
  obtain ⟨o0, o1, o2⟩ := CELL.out w (Chg.refl _ _)
  have hlb : (bytesB M).length ≤ 1000000 := by
    have := HOK.out.room
    omega
  obtain ⟨y1, y2, z1, z2, z3, z4, z5⟩ := head_reads num (bytesB M).length hn2 hlb
  obtain ⟨s, hs⟩ : ∃ s, strOf (fit64 (sec.getD F [])) = s := ⟨_, rfl⟩
  have RCF := Lib.hid (fun (w' : World) (hg : Chg (fun _ => False) w w') => RC.out w' hg F (by omega))
  rw [hs] at RCF
  rw [← HOK.out.head, hs] at z1
  have hss : s.size = 64 := by rw [← hs, strOf_size, fit64_len]
  have PR := Lib.hid (fun w' => pRead_calls w' s)
  clear hd hc hok hM c0 c1 c2 hF hs
  go_enter Tryz.func63, Tryz.ntmps63
  go_wp2_with fail
  have G := Lib.hid (Chg.refl (fun _ => False) w)
  go_region_held3 (fun w' => w'.cell? ⟨c, 0, none⟩ = some (.pointer (some ⟨d, 0, none⟩))) (first | exact (CELL.out _ G.out).1 | exact (CELL.out _ G.out.drew).1)
    (first
      | (go_at_call 86; refine (FC.out _ (by first | exact G.out | exact G.out.drew)).mono ?_; rintro e w1 ⟨rfl, he⟩; have G := Lib.hid (show Chg (fun _ => False) w w1 by rw [he]; exact (by first | exact G.out.drew | exact G.out.drew.drew)); clear he)
      | (go_at_call 85; refine (RCF.out _ (by first | exact G.out | exact G.out.drew)).mono ?_; rintro e w2 ⟨rfl, he⟩; have he := he.symm; subst he)
      | fail "NOFIT")
  all_goals
    go_wp2_with (go_at_call 83; refine (PR.out _).mono ?_; rintro e w3 ⟨rfl, he⟩; have HE := Lib.hid he; clear he)
  obtain ⟨rb, hrb⟩ : ∃ rb, w1.heap.size = rb := ⟨_, rfl⟩
  have hrd : RdAt w3 159 rb (s, 0) := by rw [HE.out, ← hrb]; exact blkAlloc w1 _
  have HRB : Hid (w.heap.size ≤ rb) := Lib.hid (by rw [← hrb]; exact G.out.size)
  have G3 := Lib.hid (show Chg (fun _ => False) w w3 by rw [HE.out]; exact G.out.alloc _)
  simp only [hrb]
  clear HE hrb
  refine (Eight_calls w3 rb (s, 0) hrd (by show s.size ≤ _; omega)).mono ?_
  rw [z1]
  rintro e w4 ⟨rfl, hr4, hg4⟩
  have HR4 := Lib.hid hr4
  have G4 := Lib.hid (G3.out.trans hg4 (fun k e => .inr (by rw [e]; exact HRB.out)))
  clear hr4 hg4 hrd
  go_wp2_with fail
  refine (Four_calls w4 rb y1 HR4.out (by omega)).mono ?_
  have z2' : numF y1 ((4 : Nat) : Int) = (((bytesB M).length : Int), y2) := z2
  have z2'' : numF y1 4 = (((bytesB M).length : Int), y2) := z2
  rw [z2'']
  rintro e w5 ⟨rfl, hr5, hg5⟩
  have HR5 := Lib.hid hr5
  have G5 := Lib.hid (G4.out.trans hg5 (fun k e => .inr (by rw [e]; exact HRB.out)))
  clear hr5 hg5
  go_wp2_with fail
  refine (Eight_calls w5 rb y2 HR5.out (by omega)).mono ?_
  rw [z3]
  rintro e w6 ⟨rfl, _, hg6⟩
  have G6 := Lib.hid (G5.out.trans hg6 (fun k e => .inr (by rw [e]; exact HRB.out)))
  clear hg6 HR4 HR5 z1 z2 z3 z2' z2'' G3 G4 G5
  have m1 : ((num : Int) == 0) = false := by simp; omega
  have m2 : ((num : Int) == 9223372036854775807) = false := by simp; omega
  have m3 : decide (((64 * (half - 1) : Nat) : Int) < ((bytesB M).length : Int)) = false := decide_eq_false (by have := HOK.out.room; omega)
  obtain ⟨R, hR⟩ : ∃ R, 64 * (half - 1) = R := ⟨_, rfl⟩
  rw [hR] at ROOM m3
  have m4 : ¬ ((R : Int) < ((bytesB M).length : Int)) := of_decide_eq_false m3
  have m5 : ¬ (R < (bytesB M).length) := by omega
  go_wp2_with (go_at_call 88; refine (ROOM.out w6 G6.out).mono ?_; rintro e w7 ⟨rfl, he⟩; have he := he.symm; subst he)
  obtain ⟨B, hB⟩ : ∃ B, w6.heap.size = B := ⟨_, rfl⟩
  have HB0 := Lib.hid (Bd.new w6)
  obtain ⟨W0, hW⟩ : ∃ W0, w6.alloc (.cells #[.pointer none, .slice none 0 0] 71) = W0 := ⟨_, rfl⟩
  rw [hB, hW] at HB0
  simp only [hW]
  simp only [hB]
  clear hW m1 m2 m3 m4 m5 o0 o1 o2
  go_loopw [14] (fun v wr => ∃ i : Nat, i + 1 ≤ half ∧ v = .int .i64 ((i + 1 : Nat) : Int) ∧ HD (Bd w6 wr B (regionB sec (F + 1) i))) (fun v _ => half - (intOf v).toNat)
  case atStart => exact ⟨0, by omega, rfl, ⟨HB0.out⟩⟩
  case round =>
    obtain ⟨i, hi, rfl, ⟨HA⟩⟩ := hrel
    obtain ⟨w8, rfl⟩ : ∃ w8, w8 = wr := ⟨_, rfl⟩
    have HBK := Lib.hid HA
    clear HA
    have GR := Lib.hid (G6.out.trans HBK.out.chg0 (fun _ h => h.elim))
    obtain ⟨o0, o1, o2⟩ := CELL.out w8 GR.out
    obtain ⟨J0, hJ0⟩ : ∃ J0, i + 1 = J0 := ⟨_, rfl⟩
    rw [hJ0]
    by_cases hlt : J0 < half
    · obtain ⟨J, hJ⟩ : ∃ J, F + J0 = J := ⟨_, rfl⟩
      have hJi : (F : Int) + (J0 : Int) = (J : Int) := by omega
      have hJl : J < sec.length := by omega
      have hJw : IntKind.i64.wrap ((J : Nat) : Int) = (J : Int) := by rw [IntKind.wrap_i64]; omega
      obtain ⟨t, ht⟩ : ∃ t, strOf (fit64 (sec.getD J [])) = t := ⟨_, rfl⟩
      have RCJ := Lib.hid (fun (w' : World) (hg : Chg (fun _ => False) w w') => RC.out w' hg J hJl)
      rw [ht] at RCJ
      have HST : Hid (regionB sec (F + 1) (i + 1) = regionB sec (F + 1) i ++ t.data.toList) := Lib.hid (by
        rw [regionB_succ sec (F + 1) i (by omega), ← ht, strOf_list, show F + 1 + i = J from by omega])
      have hts : t.size = 64 := by rw [← ht, strOf_size, fit64_len]
      have hrl : (regionB sec (F + 1) i).length = 64 * i := regionB_len _ _ _ (by omega)
      have WS := Lib.hid (fun (w' : World) (h : Bd w6 w' B (regionB sec (F + 1) i)) => write3 w6 w' B _ t h (by rw [hrl, hts]; omega))
      have q1 : (J0 : Int) < (half : Int) := by omega
      have hJb : (J : Int) ≤ 4096 := by omega
      clear ht hrl hJ
      go_wp2_with fail
      have D := Lib.hid (Chg.refl (fun _ => False) w8)
      go_region_held3 (fun w' => w'.cell? ⟨c, 0, none⟩ = some (.pointer (some ⟨d, 0, none⟩))) (first | exact (CELL.out _ (GR.out.trans D.out (fun _ h => h.elim))).1 | exact (CELL.out _ (GR.out.trans D.out.drew (fun _ h => h.elim))).1)
        (first
          | (go_at_call 86; (with_reducible refine (FC.out _ (by first | exact GR.out.trans D.out (fun _ h => h.elim) | exact GR.out.trans D.out.drew (fun _ h => h.elim))).mono ?_); rintro e w9 ⟨rfl, he⟩; have D := Lib.hid (show Chg (fun _ => False) w8 w9 by rw [he]; exact (by first | exact D.out.drew | exact D.out.drew.drew)); clear he)
          | (go_at_call 85; (with_reducible refine (RCJ.out _ (by first | exact GR.out.trans D.out (fun _ h => h.elim) | exact GR.out.trans D.out.drew (fun _ h => h.elim))).mono ?_); rintro e w10 ⟨rfl, he⟩; have he := he.symm; subst he)
          | fail "NOFIT")
      all_goals
        go_wp2_with (go_at_call 54; refine (WS.out _ (HBK.out.kept D.out)).mono ?_; rintro e w11 ⟨⟨u, rfl⟩, hbd, _⟩; have HB11 := Lib.hid hbd; clear hbd)
      all_goals
        go_roundw
        case rel => exact ⟨i + 1, by omega, by subst hJ0; rfl, ⟨by rw [HST.out]; exact HB11.out⟩⟩
        case measure => simp [intOf]; omega
    · have hie : i = half - 1 := by omega
      have hjh : J0 = half := by omega
      have SC := Lib.hid (string_calls w6 w8 B _ HBK.out)
      rw [hie] at SC
      have hR2 := regionB_len sec (F + 1) (half - 1) (by omega)
      have hEX : (strOf (regionB sec (F + 1) (half - 1))).extract 0 (bytesB M).length = strOf (bytesB M) := by
        apply WideShapes.bytes_inj
        rw [strOf_list, ByteArray.data_extract, Array.toList_extract]
        show List.extract (regionB sec (F + 1) (half - 1)) 0 (bytesB M).length = _
        rw [List.extract, List.drop_zero, Nat.sub_zero]
        exact HOK.out.text
      have hroom := HOK.out.room
      obtain ⟨Y, hY⟩ : ∃ Y, strOf (regionB sec (F + 1) (half - 1)) = Y := ⟨_, rfl⟩
      have hYs : (bytesB M).length ≤ Y.size := by rw [← hY, strOf_size, hR2]; exact hroom
      obtain ⟨X, hX⟩ : ∃ X, strOf (bytesB M) = X := ⟨_, rfl⟩
      obtain ⟨L, hL⟩ : ∃ L, (bytesB M).length = L := ⟨_, rfl⟩
      rw [hY] at SC hEX
      rw [hX] at hEX
      rw [hL] at hEX hYs
      have RD := Lib.hid (fun w' => read_calls w' M HM.out)
      rw [hX] at RD
      have l0 : (0 : Int) ≤ (L : Int) := by omega
      have l1 : (L : Int) ≤ (Y.size : Int) := by omega
      have q1 : ¬ ((J0 : Int) < (half : Int)) := by omega
      simp only [hL]
      clear hR2 hroom hY hX hL hYs HBK
      go_wp2_with (first
        | (go_at_call 35; (with_reducible refine SC.out.mono ?_); rintro e w9 ⟨rfl, hc9⟩; have HC9 := Lib.hid (G6.out.trans hc9 (fun _ h => h.elim)); clear hc9)
        | (go_at_call 89; (with_reducible refine (RD.out _).mono ?_); rintro e w10 ⟨m, rfl, hm, hmw, hc10⟩; have HMM := Lib.hid hm; have HMW := Lib.hid (Nat.le_trans HC9.out.size hmw); have HC10 := Lib.hid (HC9.out.trans hc10 (fun _ h => h.elim)); clear hm hmw hc10)
        | fail "NOFIT")
      go_ret3
      exact ⟨m, rfl, HMM.out, HMW.out, HC10.out⟩
end Go.Proofs.YtnhdlclicjmmnaaGreat
/- TopPatched: the cell: copied, where nothing was written. -/
namespace Go.Proofs.YtnhdlclicjmmnaaGreat
open Go.RowKit Go.Lib Go.Shelf Go.Maps
set_option maxRecDepth 100000 in
set_option maxHeartbeats 4000000 in
theorem copiedNo_calls (w0 w : World) (c d base half k : Nat) (sec : List (List UInt8)) (hd : Dv w0 w d sec sec []) (cs : Array Value) (hc : w.heap[c]? = some (.cells cs 115 (0, 0))) (c0 : cs[0]? = some (.pointer (some ⟨d, 0, none⟩))) (c1 : cs[1]? = some (.int .i64 base)) (c2 : cs[2]? = some (.int .i64 half))
    (hb : base ≤ 100000) (hh : 2 ≤ half) (hh2 : half ≤ 10000) (hk : k ≤ 1) (hlen : base + k * half + half ≤ sec.length) (hsl : sec.length ≤ 4096) (hok : CopyNo sec (base + k * half)) :
    Calls Tryz.prog 63 #[.pointer (some ⟨c, 0, none⟩), .int .i64 k] w fun e w' => e = .returned (.tuple #[.int .i64 0, .map none, .bool false]) ∧ Chg (fun _ => False) w w' := by
  have HOK := Lib.hid hok
  have HC := Lib.hid hc
  have CELL := Lib.hid (fun (w' : World) (hg : Chg (fun _ => False) w w') => (⟨(blkCell (hg.obj hc (fun h => h)) 0).trans c0, (blkCell (hg.obj hc (fun h => h)) 1).trans c1, (blkCell (hg.obj hc (fun h => h)) 2).trans c2⟩ :
    w'.cell? ⟨c, 0, none⟩ = some (.pointer (some ⟨d, 0, none⟩)) ∧ w'.cell? ⟨c, 1, none⟩ = some (.int .i64 base) ∧ w'.cell? ⟨c, 2, none⟩ = some (.int .i64 half)))
  have DEV := Lib.hid (fun (w' : World) (hg : Chg (fun _ => False) w w') => Dv.kept (S := fun _ => False) hd (KeptT.of_chg hg) (fun _ _ h => h) (hd.chg0.trans hg (fun _ h => h.elim)))
  obtain ⟨F, hF⟩ : ∃ F, base + k * half = F := ⟨_, rfl⟩
  have hfl : F + half ≤ sec.length := by omega
  have FC := Lib.hid (fun (w' : World) (hg : Chg (fun _ => False) w w') => first_calls w' c base half k (CELL.out w' hg).2.1 (CELL.out w' hg).2.2 hb (by omega) hk)
  rw [hF] at FC HOK
  have RC := Lib.hid (fun (w' : World) (hg : Chg (fun _ => False) w w') (i : Nat) (hi : i < sec.length) => Read_calls w0 w' d sec sec [] i (DEV.out w' hg) hi)
  have ROOM := Lib.hid (fun (w' : World) (hg : Chg (fun _ => False) w w') => room_calls w' c half (CELL.out w' hg).2.2 (by omega) (by omega))
  obtain ⟨o0, o1, o2⟩ := CELL.out w (Chg.refl _ _)
  obtain ⟨y1, y2, z1, z2, z3, z4, z5⟩ := head_reads 0 0 (by omega) (by omega)
  obtain ⟨s, hs⟩ : ∃ s, strOf (fit64 (sec.getD F [])) = s := ⟨_, rfl⟩
  have RCF := Lib.hid (fun (w' : World) (hg : Chg (fun _ => False) w w') => RC.out w' hg F (by omega))
  rw [hs] at RCF
  have hz0 : fit64 (headC 0 0) = fit64 [] := by simp [headC, numBytes, fit64]
  have hok1 : fit64 (sec.getD F []) = fit64 [] := HOK.out
  rw [hz0, ← hok1, hs] at z1
  have hss : s.size = 64 := by rw [← hs, strOf_size, fit64_len]
  have PR := Lib.hid (fun w' => pRead_calls w' s)
  clear hd hc hok c0 c1 c2 hF hs hz0 hok1
  go_enter Tryz.func63, Tryz.ntmps63
  go_wp2_with fail
  have G := Lib.hid (Chg.refl (fun _ => False) w)
  go_region_held3 (fun w' => w'.cell? ⟨c, 0, none⟩ = some (.pointer (some ⟨d, 0, none⟩))) (first | exact (CELL.out _ G.out).1 | exact (CELL.out _ G.out.drew).1)
    (first
      | (go_at_call 86; refine (FC.out _ (by first | exact G.out | exact G.out.drew)).mono ?_; rintro e w1 ⟨rfl, he⟩; have G := Lib.hid (show Chg (fun _ => False) w w1 by rw [he]; exact (by first | exact G.out.drew | exact G.out.drew.drew)); clear he)
      | (go_at_call 85; refine (RCF.out _ (by first | exact G.out | exact G.out.drew)).mono ?_; rintro e w2 ⟨rfl, he⟩; have he := he.symm; subst he)
      | fail "NOFIT")
  all_goals
    go_wp2_with (go_at_call 83; refine (PR.out _).mono ?_; rintro e w3 ⟨rfl, he⟩; have HE := Lib.hid he; clear he)
  obtain ⟨rb, hrb⟩ : ∃ rb, w1.heap.size = rb := ⟨_, rfl⟩
  have hrd : RdAt w3 159 rb (s, 0) := by rw [HE.out, ← hrb]; exact blkAlloc w1 _
  have HRB : Hid (w.heap.size ≤ rb) := Lib.hid (by rw [← hrb]; exact G.out.size)
  have G3 := Lib.hid (show Chg (fun _ => False) w w3 by rw [HE.out]; exact G.out.alloc _)
  simp only [hrb]
  clear HE hrb
  refine (Eight_calls w3 rb (s, 0) hrd (by show s.size ≤ _; omega)).mono ?_
  rw [z1]
  rintro e w4 ⟨rfl, hr4, hg4⟩
  have HR4 := Lib.hid hr4
  have G4 := Lib.hid (G3.out.trans hg4 (fun k e => .inr (by rw [e]; exact HRB.out)))
  clear hr4 hg4 hrd
  go_wp2_with fail
  refine (Four_calls w4 rb y1 HR4.out (by omega)).mono ?_
  have z2' : numF y1 ((4 : Nat) : Int) = (((0 : Nat) : Int), y2) := z2
  have z2'' : numF y1 4 = (((0 : Nat) : Int), y2) := z2
  rw [z2'']
  rintro e w5 ⟨rfl, hr5, hg5⟩
  have HR5 := Lib.hid hr5
  have G5 := Lib.hid (G4.out.trans hg5 (fun k e => .inr (by rw [e]; exact HRB.out)))
  clear hr5 hg5
  go_wp2_with fail
  refine (Eight_calls w5 rb y2 HR5.out (by omega)).mono ?_
  rw [z3]
  rintro e w6 ⟨rfl, _, hg6⟩
  have G6 := Lib.hid (G5.out.trans hg6 (fun k e => .inr (by rw [e]; exact HRB.out)))
  clear hg6 HR4 HR5 z1 z2 z3 z2' z2'' G3 G4 G5
  go_wp2_with fail
  go_ret3
  exact ⟨rfl, G6.out⟩
end Go.Proofs.YtnhdlclicjmmnaaGreat
