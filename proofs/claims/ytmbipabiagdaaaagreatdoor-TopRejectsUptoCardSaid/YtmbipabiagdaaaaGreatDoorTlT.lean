/- TopRejects: the law itself. -/
import Derived.Test.YtmbipabiagdaaaaGreatDoorTlE
import Derived.Test.YtmbipabiagdaaaaGreatDoorTkN
namespace Go.Proofs.YtmbipabiagdaaaaGreatDoor
open Go.RowKit Go.Lib Go.Shelf
theorem toE (X s : ByteArray) (E : Int) (x : Int) (h : (x = 0 → X = s ∧ E = 0)) (h3 : x = 3 ∨ x = 0) : (x = 3) ∨ (x = 0 ∧ X = s ∧ E = 0) := by
  rcases h3 with h3 | h3
  · exact .inl h3
  · exact .inr ⟨h3, h h3⟩
set_option maxRecDepth 100000 in
set_option maxHeartbeats 16000000 in
theorem top_calls (hNR : ∀ (w : World), Glob w → ∀ s : ByteArray, s.size ≤ 1048576 → Calls Tryz.prog 5 #[.string s] w (NPost s w)) (w : World) (hg : Glob w) (s : ByteArray) (hs : s.size ≤ 1048576) :
    Calls Tryz.prog 3 #[.string s] w fun e w' => e = .returned (.bool true) ∧ Chg (fun _ => False) w w' := by
  have HNR := Lib.hid hNR
  clear hNR
  have HG := Lib.hid hg
  have HS := Lib.hid hs
  clear hg hs
  go_enter Tryz.func3, Tryz.ntmps3
  go_wp2_with fail
  refine (nParse_calls w HG.out ⟨#[]⟩ (by decide)).mono ?_
  rintro e w1 ⟨o1, n1, r1, x1, rfl, _, hx1, hc⟩
  obtain rfl := hx1 rfl
  have D := Lib.hid (hc.alloc (.cells #[.string o1, .int .i64 n1, .string r1] 23))
  clear hx1 hc
  go_wp2_with fail
  obtain ⟨W1, hW1⟩ : ∃ W, w1.alloc (.cells #[.string o1, .int .i64 n1, .string r1] 23) = W := ⟨_, rfl⟩
  rw [hW1] at D
  simp only [hW1]
  clear hW1
  refine (HNR.out W1 (HG.out.chg D.out) s HS.out).mono ?_
  rintro e w2 ⟨t, A, c, r, l, x, rfl, hrow, ht, hc, hx⟩
  have HX := Lib.hid hx
  have HT := Lib.hid ht
  have HROW := Lib.hid hrow
  have D := Lib.hid (D.out.trans hc (fun _ h => h.elim))
  clear hrow ht hc hx
  go_upto_region 5 with fail
  obtain ⟨b, hb⟩ : ∃ b, w2.heap.size = b := ⟨_, rfl⟩
  obtain ⟨W2, hW2⟩ : ∃ W, w2.alloc (.cells #[.string t, .slice A l.length c] 29) = W := ⟨_, rfl⟩
  have hob : W2.heap[b]? = some (.cells #[.string t, .slice A l.length c] 29 (0, 0)) := by rw [← hW2, ← hb]; exact blkAlloc w2 _
  have hcw : Chg (fun _ => False) w2 W2 := by rw [← hW2]; exact (Chg.refl _ w2).alloc _
  have c0 : W2.cell? ⟨b, 0, none⟩ = some (.string t) := blkCell hob 0
  have c1 : W2.cell? ⟨b, 1, none⟩ = some (.slice A l.length c) := blkCell hob 1
  have D := Lib.hid (D.out.trans hcw (fun _ h => h.elim))
  have HROW := Lib.hid (SRow.chg HROW.out hcw (fun _ _ h => h))
  simp only [hW2]
  simp only [hb]
  clear hW2 hb hob hcw
  go_cut [42] (fun q wx => q = .bool false ∧ wx = W2)
  case first => as_aux_lemma =>
    rcases HX.out with ⟨h1, h2, h3⟩ | ⟨h1, _, _⟩
    · subst h1 h2 h3
      go_wp2_with fail
      go_meet
      exact ⟨rfl, rfl⟩
    · subst h1
      go_wp2_with fail
      go_meet
      exact ⟨rfl, rfl⟩
  as_aux_lemma =>
    obtain ⟨rfl, hw⟩ := hcut
    rw [hw]
    clear hw
    go_wp2_with fail
    clear c0 c1
    refine (Format_calls W2 (HG.out.chg D.out) t HT.out A c r l HROW.out).mono ?_
    rintro e w3 ⟨rfl, hc⟩
    obtain ⟨X, hX⟩ : ∃ X, formT t l = X := ⟨_, rfl⟩
    obtain ⟨F, hF⟩ : ∃ F, formE t l = F := ⟨_, rfl⟩
    have HX2 : Hid (x = 3 ∨ (x = 0 ∧ X = s ∧ F = 0)) := Lib.hid (by rw [← hX, ← hF]; exact HX.out.imp (fun h => h.1) id)
    have D := Lib.hid (D.out.trans hc (fun _ h => h.elim))
    simp only [hX, hF]
    clear hc hX hF HX HT HROW
    go_upto_region 8 with fail
    go_cut [58] (fun q wx => q = .bool false ∧ wx = w3)
    case first => as_aux_lemma =>
      rcases HX2.out with h1 | ⟨h1, h2, h3⟩
      · subst h1
        go_wp2_with fail
        go_meet
        exact ⟨rfl, rfl⟩
      · subst h1 h2 h3
        go_wp2_with fail
        go_meet
        exact ⟨rfl, rfl⟩
    as_aux_lemma =>
      obtain ⟨rfl, hw⟩ := hcut
      rw [hw]
      clear hw
      clear HX2
      go_wp2_with fail
      refine (nParse_calls w3 (HG.out.chg D.out) s HS.out).mono ?_
      rintro e w4 ⟨o, n, r, x, rfl, hx, _, hc⟩
      have HX := Lib.hid hx
      have HO : Hid (o.size ≤ 1048576) := Lib.hid (by
        rcases hx with ⟨_, h, _, _⟩ | ⟨_, _, _, h⟩
        · rw [h]; exact Nat.zero_le _
        · exact h)
      have D := Lib.hid (D.out.trans hc (fun _ h => h.elim))
      clear hc hx
      go_upto_region 11 with fail
      obtain ⟨b4, hb⟩ : ∃ b, w4.heap.size = b := ⟨_, rfl⟩
      obtain ⟨W4, hW⟩ : ∃ W, w4.alloc (.cells #[.string o, .int .i64 n, .string r] 23) = W := ⟨_, rfl⟩
      have hob : W4.heap[b4]? = some (.cells #[.string o, .int .i64 n, .string r] 23 (0, 0)) := by rw [← hW, ← hb]; exact blkAlloc w4 _
      have hcw : Chg (fun _ => False) w4 W4 := by rw [← hW]; exact (Chg.refl _ w4).alloc _
      have c0 : W4.cell? ⟨b4, 0, none⟩ = some (.string o) := blkCell hob 0
      have c1 : W4.cell? ⟨b4, 1, none⟩ = some (.int .i64 n) := blkCell hob 1
      have c2 : W4.cell? ⟨b4, 2, none⟩ = some (.string r) := blkCell hob 2
      have D := Lib.hid (D.out.trans hcw (fun _ h => h.elim))
      simp only [hW]
      simp only [hb]
      clear hW hb hob hcw
      go_cut [70] (fun q wx => q = .bool false ∧ wx = W4)
      case first => as_aux_lemma =>
        rcases HX.out with ⟨h1, h2, h3, h4⟩ | ⟨h1, _, _, _⟩
        · subst h1 h2 h3 h4
          go_wp2_with fail
          go_meet
          exact ⟨rfl, rfl⟩
        · subst h1
          go_wp2_with fail
          go_meet
          exact ⟨rfl, rfl⟩
      as_aux_lemma =>
        obtain ⟨rfl, hw⟩ := hcut
        rw [hw]
        clear hw
        go_wp2_with fail
        clear c0 c1 c2
        refine (nText_calls W4 (HG.out.chg D.out) o n r HO.out).mono ?_
        rintro e w5 ⟨rfl, hc⟩
        obtain ⟨X, hX⟩ : ∃ X, textT o n r = X := ⟨_, rfl⟩
        obtain ⟨F, hF⟩ : ∃ F, textE o n r = F := ⟨_, rfl⟩
        have HX2 : Hid (x = 3 ∨ (x = 0 ∧ X = s ∧ F = 0)) := Lib.hid (by rw [← hX, ← hF]; exact HX.out.imp (fun h => h.1) (fun h => ⟨h.1, h.2.1, h.2.2.1⟩))
        have D := Lib.hid (D.out.trans hc (fun _ h => h.elim))
        simp only [hX, hF]
        clear hc hX hF HX HO
        go_upto_region 14 with fail
        go_cut [86] (fun q wx => q = .bool false ∧ wx = w5)
        case first => as_aux_lemma =>
          rcases HX2.out with h1 | ⟨h1, h2, h3⟩
          · subst h1
            go_wp2_with fail
            go_meet
            exact ⟨rfl, rfl⟩
          · subst h1 h2 h3
            go_wp2_with fail
            go_meet
            exact ⟨rfl, rfl⟩
        as_aux_lemma =>
          obtain ⟨rfl, hw⟩ := hcut
          rw [hw]
          clear hw
          clear HX2
          go_wp2_with fail
          refine (bRead_calls w5 s HS.out).mono ?_
          rintro e w6 ⟨v, z, c, h, t, A, cap, r, l, x, rfl, hrow, hl, hls, hh, ht, hx, hc⟩
          have HX := Lib.hid hx
          have HROW := Lib.hid hrow
          have HL := Lib.hid hl
          have HLS := Lib.hid hls
          have HH := Lib.hid hh
          have HT := Lib.hid ht
          have D := Lib.hid (D.out.trans hc (fun _ h => h.elim))
          clear hc hx hrow hl hls hh ht
          go_upto_region 17 with fail
          obtain ⟨b6, hb⟩ : ∃ b, w6.heap.size = b := ⟨_, rfl⟩
          obtain ⟨W6, hW⟩ : ∃ W, w6.alloc (.cells #[.int .i64 v, .int .i64 z, .int .i64 c, .string h, .string t, .slice A l.length cap] 37) = W := ⟨_, rfl⟩
          have hob : W6.heap[b6]? = some (.cells #[.int .i64 v, .int .i64 z, .int .i64 c, .string h, .string t, .slice A l.length cap] 37 (0, 0)) := by rw [← hW, ← hb]; exact blkAlloc w6 _
          have hcw : Chg (fun _ => False) w6 W6 := by rw [← hW]; exact (Chg.refl _ w6).alloc _
          have c0 : W6.cell? ⟨b6, 0, none⟩ = some (.int .i64 v) := blkCell hob 0
          have c1 : W6.cell? ⟨b6, 1, none⟩ = some (.int .i64 z) := blkCell hob 1
          have c2 : W6.cell? ⟨b6, 2, none⟩ = some (.int .i64 c) := blkCell hob 2
          have c3 : W6.cell? ⟨b6, 3, none⟩ = some (.string h) := blkCell hob 3
          have c4 : W6.cell? ⟨b6, 4, none⟩ = some (.string t) := blkCell hob 4
          have c5 : W6.cell? ⟨b6, 5, none⟩ = some (.slice A l.length cap) := blkCell hob 5
          have D := Lib.hid (D.out.trans hcw (fun _ h => h.elim))
          have HROW := Lib.hid (SRow.chg HROW.out hcw (fun _ _ h => h))
          simp only [hW]
          simp only [hb]
          clear hW hb hob hcw
          go_cut [114] (fun q wx => q = .bool false ∧ wx = W6)
          case first => as_aux_lemma =>
            rcases HX.out with ⟨h1, h2, h3, h4, h5⟩ | ⟨h1, _, _⟩
            · subst h1 h2 h3 h4 h5
              go_wp2_with fail
              go_meet
              exact ⟨rfl, rfl⟩
            · subst h1
              go_wp2_with fail
              go_meet
              exact ⟨rfl, rfl⟩
          as_aux_lemma =>
            obtain ⟨rfl, hw⟩ := hcut
            rw [hw]
            clear hw
            go_wp2_with fail
            clear c0 c1 c2 c3 c4 c5
            refine (Bytes_calls W6 v z c h t A cap r l HROW.out HL.out HLS.out HH.out HT.out).mono ?_
            rintro e w7 ⟨rfl, hc⟩
            obtain ⟨X, hX⟩ : ∃ X, billT v z c h t l = X := ⟨_, rfl⟩
            obtain ⟨F, hF⟩ : ∃ F, leafE v z c h t l = F := ⟨_, rfl⟩
            have HX2 : Hid (x = 3 ∨ (x = 0 ∧ X = s ∧ F = 0)) := Lib.hid (by rw [← hX, ← hF]; exact HX.out.imp (fun h => h.1) id)
            have D := Lib.hid (D.out.trans hc (fun _ h => h.elim))
            simp only [hX, hF]
            clear hc hX hF HX HROW HL HLS HH HT
            go_upto_region 20 with fail
            go_cut [130] (fun q wx => q = .bool false ∧ wx = w7)
            case first => as_aux_lemma =>
              rcases HX2.out with h1 | ⟨h1, h2, h3⟩
              · subst h1
                go_wp2_with fail
                go_meet
                exact ⟨rfl, rfl⟩
              · subst h1 h2 h3
                go_wp2_with fail
                go_meet
                exact ⟨rfl, rfl⟩
            as_aux_lemma =>
              obtain ⟨rfl, hw⟩ := hcut
              rw [hw]
              clear hw
              clear HX2
              go_wp2_with fail
              refine (decode_calls w7 (HG.out.chg D.out) s HS.out).mono ?_
              rintro e w8 ⟨k, v, x, A0, N0, C0, M0, A1, N1, C1, M1, A2, N2, C2, M2, A3, N3, C3, M3, A4, N4, C4, M4, g, o, At, Nt, Ct, po, pn, pr, f, h, xx, rfl, hc, hx, tt, qq, htq, henc⟩
              have HX := Lib.hid hx
              have HTQ := Lib.hid htq
              have HENC := Lib.hid henc
              have D := Lib.hid (D.out.trans hc (fun _ h => h.elim))
              clear hc hx htq henc
              go_upto_region 23 with (show wpList _ _ _ (⟨none, _, _, _, _, _⟩ :: _) _ _; refine wpList_store_all rfl 46 (.tmp 15) (.tmp 134) rfl w8.heap.size #[.int .i64 k, .int .i64 v, .int .i64 x, .slice A0 N0 C0, .int .i64 M0, .slice A1 N1 C1, .int .i64 M1, .slice A2 N2 C2, .int .i64 M2, .slice A3 N3 C3, .int .i64 M3, .slice A4 N4 C4, .int .i64 M4, .string g, .string o, .slice At Nt Ct, .string po, .int .i64 pn, .string pr, .int .i64 f, .string h] #[.int .i64 0, .int .i64 0, .int .i64 0, .slice none 0 0, .int .i64 0, .slice none 0 0, .int .i64 0, .slice none 0 0, .int .i64 0, .slice none 0 0, .int .i64 0, .slice none 0 0, .int .i64 0, .string ⟨#[]⟩, .string ⟨#[]⟩, .slice none 0 0, .string ⟨#[]⟩, .int .i64 0, .string ⟨#[]⟩, .int .i64 0, .string ⟨#[]⟩] 46 rfl rfl (blkAlloc w8 _) rfl docInfo (by simp [Value.oneCell']) ?_; intro W8 hd8 hcs; have HD8 := Lib.hid hd8; have HC8 := Lib.hid hcs; clear hd8 hcs)
              obtain ⟨b8, hb⟩ : ∃ b, w8.heap.size = b := ⟨_, rfl⟩
              have hob : DAt W8 b8 #[.int .i64 k, .int .i64 v, .int .i64 x, .slice A0 N0 C0, .int .i64 M0, .slice A1 N1 C1, .int .i64 M1, .slice A2 N2 C2, .int .i64 M2, .slice A3 N3 C3, .int .i64 M3, .slice A4 N4 C4, .int .i64 M4, .string g, .string o, .slice At Nt Ct, .string po, .int .i64 pn, .string pr, .int .i64 f, .string h] := by rw [← hb]; exact HD8.out
              have hcw : Chg (fun _ => False) w8 W8 := ((Chg.refl (fun _ => False) w8).alloc _).trans HC8.out (fun k e => .inr (Nat.le_of_eq e.symm))
              have c0 : W8.cell? ⟨b8, 0, none⟩ = some (.int .i64 k) := blkCell hob 0
              have c1 : W8.cell? ⟨b8, 1, none⟩ = some (.int .i64 v) := blkCell hob 1
              have c2 : W8.cell? ⟨b8, 15, none⟩ = some (.slice At Nt Ct) := blkCell hob 15
              have D := Lib.hid (D.out.trans hcw (fun _ h => h.elim))
              have HCW := Lib.hid hcw
              have HOB := Lib.hid hob
              simp only [hb]
              clear hb hob hcw HD8 HC8
              go_cut [153] (fun q wx => q = .bool false ∧ wx = W8)
              case first => as_aux_lemma =>
                rcases HX.out with ⟨h1, h2, h3, h4⟩ | h1
                · subst h1 h2 h3 h4
                  go_wp2_with fail
                  go_meet
                  exact ⟨rfl, rfl⟩
                · subst h1
                  go_wp2_with fail
                  go_meet
                  exact ⟨rfl, rfl⟩
              as_aux_lemma =>
                obtain ⟨rfl, hw⟩ := hcut
                rw [hw]
                clear hw
                go_wp2_with (show wpList _ _ _ (⟨some 155, _, _, _, _, _⟩ :: _) _ _; refine wpList_load_row rfl 46 (.tmp 15) rfl b8 rfl 46 #[.int .i64 k, .int .i64 v, .int .i64 x, .slice A0 N0 C0, .int .i64 M0, .slice A1 N1 C1, .int .i64 M1, .slice A2 N2 C2, .int .i64 M2, .slice A3 N3 C3, .int .i64 M3, .slice A4 N4 C4, .int .i64 M4, .string g, .string o, .slice At Nt Ct, .string po, .int .i64 pn, .string pr, .int .i64 f, .string h] (0, 0) _ HOB.out Tryz.underlying46 rfl docInfo ?_)
                clear c0 c1 c2
                refine (HENC.out W8 (HG.out.chg D.out) HCW.out).mono ?_
                rintro e w9 ⟨rfl, hc⟩
                have HX2 : Hid (xx = 3 ∨ (xx = 0 ∧ tt = s ∧ qq = 0)) := Lib.hid (toE tt s qq xx HTQ.out (HX.out.imp (fun h => h.1) id))
                have D := Lib.hid (D.out.trans hc (fun _ h => h.elim))
                clear hc HX HTQ HENC HOB HCW
                go_upto_region 26 with fail
                go_cut [169] (fun q wx => q = .bool false ∧ wx = w9)
                case first => as_aux_lemma =>
                  rcases HX2.out with h1 | ⟨h1, h2, h3⟩
                  · subst h1
                    go_wp2_with fail
                    go_meet
                    exact ⟨rfl, rfl⟩
                  · subst h1 h2 h3
                    go_wp2_with fail
                    go_meet
                    exact ⟨rfl, rfl⟩
                as_aux_lemma =>
                  obtain ⟨rfl, hw⟩ := hcut
                  rw [hw]
                  clear hw
                  clear HX2
                  go_wp2_with fail
                  refine (tParse_calls w9 (HG.out.chg D.out) s HS.out).mono ?_
                  rintro e w10 ⟨l, i, n, x, rfl, hx, hc⟩
                  have HX := Lib.hid hx
                  have D := Lib.hid (D.out.trans hc (fun _ h => h.elim))
                  clear hc hx
                  go_upto_region 29 with fail
                  obtain ⟨b9, hb⟩ : ∃ b, w10.heap.size = b := ⟨_, rfl⟩
                  obtain ⟨W9, hW⟩ : ∃ W, w10.alloc (.cells #[.int .i64 l, .int .i64 i, .int .i64 n] 51) = W := ⟨_, rfl⟩
                  have hob : W9.heap[b9]? = some (.cells #[.int .i64 l, .int .i64 i, .int .i64 n] 51 (0, 0)) := by rw [← hW, ← hb]; exact blkAlloc w10 _
                  have hcw : Chg (fun _ => False) w10 W9 := by rw [← hW]; exact (Chg.refl _ w10).alloc _
                  have c0 : W9.cell? ⟨b9, 0, none⟩ = some (.int .i64 l) := blkCell hob 0
                  have c1 : W9.cell? ⟨b9, 1, none⟩ = some (.int .i64 i) := blkCell hob 1
                  have c2 : W9.cell? ⟨b9, 2, none⟩ = some (.int .i64 n) := blkCell hob 2
                  have D := Lib.hid (D.out.trans hcw (fun _ h => h.elim))
                  simp only [hW]
                  simp only [hb]
                  clear hW hb hob hcw
                  rcases HX.out with ⟨h1, h2, h3, h4⟩ | ⟨h1, h2⟩
                  · subst h1 h2 h3 h4
                    go_wp2_with fail
                    go_ret
                    exact ⟨rfl, D.out⟩
                  · subst h1
                    have CP := Lib.hid (Path_calls W9 (HG.out.chg D.out) l i n)
                    rw [h2] at CP
                    clear h2
                    go_wp2_with (go_at_call 13; refine (CP.out).mono ?_; rintro e w11 ⟨rfl, hc⟩; have D := Lib.hid (D.out.trans hc (fun _ h => h.elim)); clear hc)
                    go_ret
                    exact ⟨by simp, D.out⟩
end Go.Proofs.YtmbipabiagdaaaaGreatDoor
