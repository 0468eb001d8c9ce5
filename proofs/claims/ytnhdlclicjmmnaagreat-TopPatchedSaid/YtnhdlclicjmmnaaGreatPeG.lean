/- TopPatched: the cell: write. -/
import Derived.Test.YtnhdlclicjmmnaaGreatPeF
import Derived.Test.YtnhdlclicjmmnaaGreatHq
import Derived.Deep.RegionHeld3
namespace Go.Proofs.YtnhdlclicjmmnaaGreat
open Go.RowKit Go.Lib Go.Shelf
def partK (first : Nat) (body header : ByteArray) : Nat → Nat × ByteArray
  | 0 => (first, ⟨#[]⟩)
  | 1 => (first + 1, body)
  | _ => (first, header)
def secK (sec : List (List UInt8)) (first : Nat) (body header : ByteArray) : Nat → List (List UInt8)
  | 0 => sec
  | k + 1 => layA (secK sec first body header k) (partK first body header k).1 (partK first body header k).2.data.toList
theorem secK_len (sec : List (List UInt8)) (first : Nat) (body header : ByteArray) (k : Nat) : (secK sec first body header k).length = sec.length := by
  induction k with
  | zero => rfl
  | succ k ih => rw [secK, layA_len, ih]
def partsC (first : Nat) (body header : ByteArray) : Array Value := #[.int .i64 (first : Int), .string ⟨#[]⟩, .int .i64 ((first + 1 : Nat) : Int), .string body, .int .i64 (first : Int), .string header]
theorem partsC_get (first : Nat) (body header : ByteArray) (k : Nat) (hk : k < 3) :
    (partsC first body header)[k * 2]? = some (.int .i64 ((partK first body header k).1 : Int)) ∧ (partsC first body header)[k * 2 + 1]? = some (.string (partK first body header k).2) := by
  match k, hk with
  | 0, _ => exact ⟨rfl, rfl⟩
  | 1, _ => exact ⟨rfl, rfl⟩
  | 2, _ => exact ⟨rfl, rfl⟩
theorem Dv.other {w0 w : World} {d : Nat} {seen safe : List (List UInt8)} {pend : List (Nat × List UInt8)} (h : Dv w0 w d seen safe pend) {x : Nat} {cs : Array Value} {T : TypeId} (hx : w.heap[x]? = some (.cells cs T (0, 0))) (hT : ¬ SDev T) (h0 : w0.heap.size ≤ x) (i : Nat) (v : Value) : Dv w0 (w.setCell ⟨x, i, none⟩ v) d seen safe pend :=
  h.kept (S := fun T' => T' = T) (KeptT.of ((Chg.refl (fun k => k = x) w).setCell (p := ⟨x, i, none⟩) (.inl rfl) _) (fun k e => .inr ⟨cs, T, (0, 0), by subst e; exact hx, rfl⟩)) (fun T' h1 h2 => hT (h2 ▸ h1)) (h.chg0.setCell (p := ⟨x, i, none⟩) (.inr h0) _)
theorem partK_fit (first : Nat) (body header : ByteArray) (n : Nat) (hb : first + 1 + cnt body.data.toList ≤ n) (hh : header.size ≤ 64) (k : Nat) (hk : k < 3) : (partK first body header k).1 + cnt (partK first body header k).2.data.toList ≤ n := by
  match k, hk with
  | 0, _ => show first + cnt [] ≤ n; rw [cnt_short _ (by simp)]; omega
  | 1, _ => exact hb
  | 2, _ => show first + cnt header.data.toList ≤ n; rw [cnt_short _ (by rw [Array.length_toList]; exact hh)]; omega
theorem cut64 (T : List UInt8) (i : Nat) (Y : ByteArray) (hY : strOf (T.drop (64 * i)) = Y) :
    ∃ N : Nat, min (Y.size : Int) 64 = (N : Int) ∧ N ≤ Y.size ∧ N ≤ 64 ∧ Y.extract 0 N = strOf (chunk T i) ∧ Y.extract N Y.size = strOf (T.drop (64 * (i + 1))) := by
  refine ⟨min Y.size 64, by omega, Nat.min_le_left .., Nat.min_le_right .., ?_, ?_⟩
  · apply WideShapes.bytes_inj
    rw [← hY, strOf_size, strOf_list, chunk, ByteArray.data_extract, Array.toList_extract]
    show List.extract (T.drop (64 * i)) 0 (min (T.drop (64 * i)).length 64) = _
    rw [List.extract, List.drop_zero, Nat.sub_zero]
    rcases Nat.le_total (T.drop (64 * i)).length 64 with h | h
    · rw [Nat.min_eq_left h, List.take_length, List.take_of_length_le h]
    · rw [Nat.min_eq_right h]
  · apply WideShapes.bytes_inj
    rw [← hY, strOf_size, strOf_list, ByteArray.data_extract, Array.toList_extract]
    show List.extract (T.drop (64 * i)) (min (T.drop (64 * i)).length 64) (T.drop (64 * i)).length = _
    rw [List.extract, List.take_of_length_le (by rw [List.length_drop]; exact Nat.le_refl _), show 64 * (i + 1) = 64 * i + 64 from by omega, ← List.drop_drop]
    rcases Nat.le_total (T.drop (64 * i)).length 64 with h | h
    · rw [Nat.min_eq_left h, List.drop_of_length_le (Nat.le_refl _), List.drop_of_length_le h]
    · rw [Nat.min_eq_right h]
theorem end64 (T : List UInt8) (i : Nat) (Z : ByteArray) (hZ : strOf (T.drop (64 * (i + 1))) = Z) (hi : i < cnt T) : ((Z.toList == ([] : List UInt8)) = true → i + 1 = cnt T) ∧ ((Z.toList == ([] : List UInt8)) = false → i + 1 < cnt T) := by
  have hz : Z.toList = T.drop (64 * (i + 1)) := by rw [← hZ, ByteArray.toList_eq, strOf_list]
  have hg := cnt_ge T
  refine ⟨fun h => ?_, fun h => ?_⟩
  · rw [hz, beq_iff_eq] at h
    have := congrArg List.length h
    rw [List.length_drop] at this
    simp only [List.length_nil] at this
    have := cntB_le T (i + 1) (by omega) (by omega)
    omega
  · rw [hz, beq_eq_false_iff_ne] at h
    have : T.drop (64 * (i + 1)) ≠ [] := h
    have h2 : 0 < (T.drop (64 * (i + 1))).length := List.length_pos_iff.2 this
    rw [List.length_drop] at h2
    omega
set_option maxRecDepth 100000 in
set_option maxHeartbeats 2000000 in
theorem cwrite_calls (w0 w : World) (c d : Nat) (sec : List (List UInt8)) (first : Nat) (body header : ByteArray) (h : Dv w0 w d sec sec []) (cs : Array Value) (hc : w.heap[c]? = some (.cells cs 115 (0, 0))) (h0 : cs[0]? = some (.pointer (some ⟨d, 0, none⟩)))
    (hl : sec.length ≤ 4096) (hb : first + 1 + cnt body.data.toList ≤ sec.length) (hh : header.size ≤ 64) :
    Calls Tryz.prog 99 #[.pointer (some ⟨c, 0, none⟩), .int .i64 (first : Int), .string body, .string header] w fun e w' => e = .returned (.int .i64 0) ∧ Dv w0 w' d (wroteC sec first body.data.toList header.data.toList) (wroteC sec first body.data.toList header.data.toList) [] ∧ KeptT SDev w w' := by
  have H := Lib.hid h
  have HC := Lib.hid hc
  have H0 := Lib.hid h0
  have hbp := cnt_pos body.data.toList
  have w1 : IntKind.i64.wrap ((first : Int) + 1) = ((first + 1 : Nat) : Int) := by rw [IntKind.wrap_i64]; omega
  clear h hc h0
  go_enter Tryz.func99, Tryz.ntmps99
  go_wp2_with fail
  obtain ⟨W1, hW⟩ : ∃ W1, w.alloc (.cells #[.int .i64 (first : Int), .string ⟨#[]⟩, .int .i64 ((first : Int) + 1), .string body, .int .i64 (first : Int), .string header] 168) = W1 := ⟨_, rfl⟩
  obtain ⟨g, hg⟩ : ∃ g, w.heap.size = g := ⟨_, rfl⟩
  have HG1 : Hid (W1.heap[g]? = some (.cells (partsC first body header) 168 (0, 0))) := Lib.hid (by rw [← hW, ← hg]; exact blkAlloc w _)
  have HK1 : Hid (KeptT SDev w W1) := Lib.hid (by rw [← hW]; exact KeptT.of_chg ((Chg.refl _ w).alloc _))
  have HD1 : Hid (Dv w0 W1 d sec sec []) := Lib.hid (by rw [← hW]; exact H.out.alloc _)
  have HGW : Hid (w.heap.size ≤ g) := Lib.hid (Nat.le_of_eq hg)
  simp only [hW]
  simp only [hg]
  clear hW hg w1
  go_loopw [26] (fun v wr => ∃ k : Nat, k ≤ 3 ∧ v = .int .i64 k ∧ HD (Dv w0 wr d (secK sec first body header k) (secK sec first body header k) []) ∧ HD (KeptT SDev w wr) ∧ HD (wr.heap[g]? = some (.cells (partsC first body header) 168 (0, 0)))) (fun v _ => 3 - (intOf v).toNat)
  case atStart => exact ⟨0, by omega, rfl, ⟨HD1.out⟩, ⟨HK1.out⟩, ⟨HG1.out⟩⟩
  case round =>
    obtain ⟨k, hk, rfl, ⟨HA⟩, ⟨HB⟩, ⟨HE⟩⟩ := hrel
    obtain ⟨w2, rfl⟩ : ∃ w2, w2 = wr := ⟨_, rfl⟩
    have HDK := Lib.hid HA
    have HKK := Lib.hid HB
    have HGK := Lib.hid HE
    clear HA HB HE
    by_cases hlt : k < 3
    · obtain ⟨g0, g1⟩ := partsC_get first body header k hlt
      have e0 := (blkCell HGK.out (k * 2)).trans g0
      have e1 := (blkCell HGK.out (k * 2 + 1)).trans g1
      have HS : Hid (secK sec first body header (k + 1) = layA (secK sec first body header k) (partK first body header k).1 (partK first body header k).2.data.toList) := Lib.hid rfl
      have hSl := secK_len sec first body header k
      have hbd := partK_fit first body header sec.length hb hh k hlt
      obtain ⟨a, ha⟩ : ∃ a, (partK first body header k).1 = a := ⟨_, rfl⟩
      obtain ⟨X, hX⟩ : ∃ X, (partK first body header k).2 = X := ⟨_, rfl⟩
      obtain ⟨S, hS⟩ : ∃ S, secK sec first body header k = S := ⟨_, rfl⟩
      rw [ha] at e0 HS hbd
      rw [hX] at e1 HS hbd
      rw [hS] at HS hSl HDK
      have q0 : (0 : Int) ≤ (k : Int) := by omega
      have q1 : (k : Int) < 3 := by omega
      clear g0 g1 ha hX hS
      go_wp2_with fail
      obtain ⟨W3, hW⟩ : ∃ W3, w2.alloc (.cells #[.int .i64 (a : Int), .string X] 168) = W3 := ⟨_, rfl⟩
      obtain ⟨bx, hbx⟩ : ∃ bx, w2.heap.size = bx := ⟨_, rfl⟩
      have HX3 : Hid (W3.heap[bx]? = some (.cells #[.int .i64 (a : Int), .string X] 168 (0, 0))) := Lib.hid (by rw [← hW, ← hbx]; exact blkAlloc w2 _)
      have HG3 : Hid (W3.heap[g]? = some (.cells (partsC first body header) 168 (0, 0))) := Lib.hid (by rw [← hW]; exact blkOld HGK.out _)
      have HK3 : Hid (KeptT SDev w W3) := Lib.hid (by rw [← hW]; exact HKK.out.trans (KeptT.of_chg ((Chg.refl _ w2).alloc _)))
      have HD3 : Hid (Dv w0 W3 d S S []) := Lib.hid (by rw [← hW]; exact HDK.out.alloc _)
      have HBX : Hid (w0.heap.size ≤ bx) := Lib.hid (by have := HDK.out.chg0.size; omega)
      have HBW : Hid (w.heap.size ≤ bx) := Lib.hid (by have := HGW.out; have := blkLt HGK.out; omega)
      have NGX : Hid (g ≠ bx) := Lib.hid (by have := blkLt HGK.out; omega)
      simp only [hW]
      simp only [hbx]
      clear hW hbx e0 e1 HDK HKK HGK
      go_loopw [11] (fun v wr => ∃ i m : Nat, i < cnt X.data.toList ∧ v = .int .i64 (m : Int) ∧ HD (a + i = m) ∧ HD (Dv w0 wr d (layN S a X.data.toList i) S (pendN a X.data.toList i)) ∧ HD (KeptT SDev w wr) ∧ HD (wr.heap[bx]? = some (.cells #[.int .i64 (a : Int), .string (strOf (X.data.toList.drop (64 * i)))] 168 (0, 0))) ∧
        HD (wr.heap[g]? = some (.cells (partsC first body header) 168 (0, 0)))) (fun v _ => a + cnt X.data.toList - (intOf v).toNat)
      case atStart => exact ⟨0, a, cnt_pos _, rfl, ⟨rfl⟩, ⟨HD3.out⟩, ⟨HK3.out⟩, ⟨by rw [Nat.mul_zero, List.drop_zero, strOf_data]; exact HX3.out⟩, ⟨HG3.out⟩⟩
      case round =>
        obtain ⟨i, m, hi, rfl, ⟨HM⟩, ⟨HA⟩, ⟨HB⟩, ⟨HE⟩, ⟨HF⟩⟩ := hrel
        have HMI := Lib.hid HM
        have hm1 : m < sec.length := by omega
        obtain ⟨w4, rfl⟩ : ∃ w4, w4 = wr := ⟨_, rfl⟩
        have HD4 := Lib.hid HA
        have HK4 := Lib.hid HB
        have HX4 := Lib.hid HE
        have HG4 := Lib.hid HF
        clear HA HB HE HF
        obtain ⟨Y, hY⟩ : ∃ Y, strOf (X.data.toList.drop (64 * i)) = Y := ⟨_, rfl⟩
        obtain ⟨N, hN, hNs, hN64, E1, E2⟩ := cut64 X.data.toList i Y hY
        obtain ⟨Z, hZ⟩ : ∃ Z, strOf (X.data.toList.drop (64 * (i + 1))) = Z := ⟨_, rfl⟩
        obtain ⟨C, hC⟩ : ∃ C, strOf (chunk X.data.toList i) = C := ⟨_, rfl⟩
        rw [hC] at E1
        rw [hZ] at E2
        rw [hY] at HX4
        have HZ := Lib.hid hZ
        have HC2 : Hid (C.data.toList = chunk X.data.toList i) := Lib.hid (by rw [← hC, strOf_list])
        have hCs : C.size ≤ 64 := by rw [← hC, strOf_size]; exact chunk_len _ _
        have HC4 := Lib.hid (HK4.out.cells HC.out (by unfold SDev; decide))
        have o0 := (blkCell HC4.out 0).trans H0.out
        have o1 := blkCell HX4.out 1
        have f1 := blkFree HX4.out 1
        have CW := Lib.hid (Write_calls w0 w4 d _ _ _ m C HD4.out (by rw [layN_len]; omega) hCs (by rw [pendN_len]; omega))
        have CWd := Lib.hid (Write_calls w0 w4.drew d _ _ _ m C HD4.out.drew (by rw [layN_len]; omega) hCs (by rw [pendN_len]; omega))
        have n0 : (0 : Int) ≤ (N : Int) := by omega
        have n1 : (N : Int) ≤ (Y.size : Int) := by omega
        clear hY hZ hC HM
        obtain ⟨q, hq⟩ : ∃ q, (Z.toList == ([] : List UInt8)) = q := ⟨_, rfl⟩
        have HQ := Lib.hid hq
        go_wp2_with fail
        go_region_held3 (fun w' => w'.cell? ⟨c, 0, none⟩ = some (.pointer (some ⟨d, 0, none⟩)) ∧ w'.cell? ⟨bx, 1, none⟩ = some (.string Y)) (first | exact ⟨o0, o1⟩ | exact ⟨p0, p1⟩)
          (first
            | (go_at_call 111; (first | (with_reducible refine CW.out.mono ?_) | (with_reducible refine CWd.out.mono ?_)); rintro e w5 ⟨rfl, hd, hk⟩; have HD5 := Lib.hid hd; have HK5 := Lib.hid hk; have HC5 := Lib.hid (KeptT.cells hk HC4.out (by unfold SDev; decide)); have HX5 := Lib.hid (KeptT.cells hk HX4.out (by unfold SDev; decide)); have HG5 := Lib.hid (KeptT.cells hk HG4.out (by unfold SDev; decide)); have p0 := (blkCell HC5.out 0).trans H0.out; have p1 := blkCell HX5.out 1; have pf := blkFree HX5.out 1; clear hd hk)
            | fail "NOFIT")
        obtain ⟨e1, e2⟩ := end64 X.data.toList i Z HZ.out hi
        have HD6 : Hid (Dv w0 (w5.setCell ⟨bx, 1, none⟩ (.string Z)) d (layN S a X.data.toList (i + 1)) S (pendN a X.data.toList (i + 1))) := Lib.hid (by
          have h5 := HD5.out
          rw [HC2.out, ← HMI.out, ← pendN_succ] at h5
          exact Dv.other h5 HX5.out (by unfold SDev; decide) HBX.out 1 _)
        have HK6 : Hid (KeptT SDev w (w5.setCell ⟨bx, 1, none⟩ (.string Z))) := Lib.hid (fun k o hk hn => (Below.heap_setCell _ _ _ _ (fun e => absurd (blkLt hk) (by rw [e]; exact Nat.not_lt.2 HBW.out))).trans ((HK4.out.trans HK5.out) k o hk hn))
        have HX6 := Lib.hid (blkSet HX5.out 1 (.string Z))
        have HG6 : Hid ((w5.setCell ⟨bx, 1, none⟩ (.string Z)).heap[g]? = some (.cells (partsC first body header) 168 (0, 0))) := Lib.hid ((Below.heap_setCell _ _ _ _ (fun e => NGX.out e)).trans HG5.out)
        have HC6 := Lib.hid (HK6.out.cells HC.out (by unfold SDev; decide))
        obtain ⟨w6, hw6⟩ : ∃ w6, w5.setCell ⟨bx, 1, none⟩ (.string Z) = w6 := ⟨_, rfl⟩
        rw [hw6] at HD6 HK6 HX6 HG6 HC6
        have r1 : w6.cell? ⟨bx, 1, none⟩ = some (.string Z) := (blkCell HX6.out 1).trans rfl
        have r0 := (blkCell HC6.out 0).trans H0.out
        cases q
        case false =>
          have hlt2 := e2 HQ.out
          have hbd2 : m + 1 ≤ 4096 := by omega
          go_wp2_with fail
          go_roundw
          case rel =>
            have hx6 := HX6.out
            rw [← HZ.out] at hx6
            exact ⟨i + 1, m + 1, hlt2, by go_num, ⟨by have := HMI.out; omega⟩, ⟨HD6.out⟩, ⟨HK6.out⟩, ⟨hx6⟩, ⟨HG6.out⟩⟩
          case measure =>
            have := HMI.out
            simp [intOf]
            omega
        case true =>
          have hend := e1 HQ.out
          have CB := Lib.hid (Barrier_calls w0 w6 d _ _ _ HD6.out (fun q hq => by have h1 := pendN_mem _ _ _ q hq; have h2 := HMI.out; rw [hSl]; omega))
          go_wp2_with (go_at_call 112; refine CB.out.mono ?_; rintro e w7 ⟨rfl, hd, hk⟩; have HD7 := Lib.hid hd; have HK7 := Lib.hid (HK6.out.trans hk); have HG7 := Lib.hid (KeptT.cells hk HG6.out (by unfold SDev; decide)); clear hd hk)
          go_roundw
          case rel =>
            have hd7 := HD7.out
            rw [apply_pend, hend] at hd7
            exact ⟨k + 1, by omega, by go_num, ⟨by rw [HS.out]; exact hd7⟩, ⟨HK7.out⟩, ⟨HG7.out⟩⟩
          case measure =>
            simp [intOf]
            omega
    · obtain rfl : k = 3 := by omega
      go_wp2_with fail
      go_ret
      exact ⟨rfl, HDK.out, HKK.out⟩
end Go.Proofs.YtnhdlclicjmmnaaGreat
