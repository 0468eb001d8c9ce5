/- The walk of 'same'. -/
import Derived.Test.YtjlkflbkejpcaaaSmF
import Derived.Test.YtjlkflbkejpcaaaRr2
import Derived.Test.YtjlkflbkejpcaaaWr
namespace Go.Proofs.Ytjlkflbkejpcaaa
open Go.RowKit

theorem Read_at (w : World) (s : ByteArray) :
    Calls Try.prog 32 #[.string s] w fun r w' => ∃ b, r = .returned (.pointer (some ⟨b, 0, none⟩)) ∧ RdAt w' 59 b (s, 0) ∧ w.heap.size ≤ b ∧ Chg (fun _ => False) w w' := by
  refine (Read_calls w s).mono ?_
  rintro r w' ⟨rfl, rfl⟩
  exact ⟨_, rfl, blkAlloc w _, Nat.le_refl _, (Chg.refl _ w).alloc _⟩
theorem strNe {a b : ByteArray} (h : a.toList = b.toList) : a = b := by
  rw [ByteArray.toList_eq, ByteArray.toList_eq] at h
  exact WideShapes.bytes_inj h
theorem ret_b {a b : Bool} (h : a = b) : Ending.returned (.bool a) = .returned (.bool b) := by rw [h]
set_option maxRecDepth 100000 in
set_option maxHeartbeats 4000000 in
theorem same_calls (s : ByteArray) (A : Option Addr) (l : List OpV) (c : Nat) (w : World) (hl : OpsIn w A l) (hs : s.size ≤ 140737488351232) :
    Calls Try.prog 36 #[.string s, .slice A l.length c] w fun e w' => e = .returned (.bool (sameF s l)) ∧ Chg (fun _ => False) w w' := by
  have HL := Lib.hid hl
  clear hl
  obtain ⟨res, hres⟩ : ∃ res, sameF s l = res := ⟨_, rfl⟩
  rw [hres]
  have HRES := Lib.hid hres
  clear hres
  have hll : l.length ≤ 9223372036854775807 := HL.out.1
  go_enter Try.func36, Try.ntmps36
  go_wp2_with (go_at_call 32; refine (Read_at _ _).mono ?_; rintro e w2 ⟨br, rfl, h1, b1, g2⟩; have J1 := Lib.hid h1; have B1 := Lib.hid b1; have GG := Lib.hid g2; clear h1 b1 g2)
  go_loopw [16] (fun v wr => ∃ (k : Nat) (x : RS), k ≤ l.length ∧ v = .int .i64 k ∧ HD (x.1.size ≤ 140737488351232) ∧ HD (RdAt wr 59 br x) ∧ HD (sameG x (l.drop k) = res) ∧ HD (Chg (fun _ => False) w wr)) (fun v _ => l.length - (intOf v).toNat)
  case atStart => exact ⟨0, (s, 0), Nat.zero_le _, rfl, ⟨hs⟩, ⟨J1.out⟩, ⟨HRES.out⟩, ⟨GG.out⟩⟩
  case round =>
    clear J1 GG HRES
    obtain ⟨k, x, hk, rfl, SX, J1, HR, GG⟩ := hrel
    by_cases hlt : k < l.length
    · obtain ⟨a, rfl, ha, hok⟩ := HL.out.get k hlt
      have HR2 := HR.out
      rw [sameG_drop x l k hlt] at HR2
      have ha2 := OpV.at_chg (o := l[k]) ha GG.out id
      have hsz := readOp_size x (l[k])
      obtain ⟨o, ho⟩ : ∃ o, l[k] = o := ⟨_, rfl⟩
      rw [ho] at ha2 hok HR2 hsz
      clear ho ha HR
      obtain ⟨c0, c1, c2⟩ := ha2
      have HR := Lib.hid HR2
      have HSZ := Lib.hid hsz
      have hk0 : 0 ≤ o.k := hok.1
      have hk1 : o.k ≤ 255 := hok.2
      have K1 := Lib.hid (J1.out.chg ((Chg.refl (fun _ => False) wr).alloc (.cells #[.int .u8 o.k, .int .i64 o.n, .string o.s] 31)) id)
      have KB : Hid ((wr.alloc (.cells #[.int .u8 o.k, .int .i64 o.n, .string o.s] 31)).heap[wr.heap.size]? = some (.cells #[.int .u8 o.k, .int .i64 o.n, .string o.s] 31 (0, 0))) := Lib.hid (blkAlloc wr _)
      have NB : Hid (¬ wr.heap.size = br) := Lib.hid (fun e => by have := blkLt J1.out; omega)
      clear HR2 hok hsz
      have h6 : o.k % 6 = 0 ∨ o.k % 6 = 1 ∨ o.k % 6 = 2 ∨ o.k % 6 = 3 ∨ o.k % 6 = 4 ∨ o.k % 6 = 5 := by omega
      rcases h6 with h6 | h6 | h6 | h6 | h6 | h6
      · obtain ⟨y, hy⟩ : ∃ y, numF x 1 = y := ⟨_, rfl⟩
        have hro : readOp x o = ((y.1), (⟨#[]⟩ : ByteArray), y.2) := by simp only [readOp, h6, Int.reduceEq, if_true, if_false, hy]
        have C := Byte_calls _ br x K1.out SX.out
        rw [hy] at C
        have C := Lib.hid C
        have HR3 := HR.out
        have HSZ3 := HSZ.out
        rw [hro] at HSZ3
        have HI : Hid (okOp x o ↔ (((y.1), (⟨#[]⟩ : ByteArray), y.2)).2.2.2 = 0 ∧ (((y.1), (⟨#[]⟩ : ByteArray), y.2)).1 = o.n ∧ (4 ≤ o.k % 6 → (((y.1), (⟨#[]⟩ : ByteArray), y.2)).2.1 = o.s)) := Lib.hid (by unfold okOp; rw [hro])
        rw [hro] at HR3
        have HR := Lib.hid HR3
        have HSZ := Lib.hid HSZ3
        clear HR3 HSZ3 hro hy
        by_cases he : y.2.2 = 0
        · by_cases hv : y.1 = o.n
          · have e1 : (y.2.2 != 0) = false := by simpa using he
            have e2 : (y.1 != o.n) = false := by simpa using hv
            have HE := Lib.hid he
            have HV := Lib.hid hv
            clear he hv
            go_wp2_with (first | (go_at_call 22; refine (C.out).mono ?_; rintro e w5 ⟨rfl, h, g⟩; have M1 := Lib.hid h; have G1 := Lib.hid g; have hb := g.obj KB.out NB.out; have d0 := blkCell hb 0; have d1 := blkCell hb 1; have d2 := blkCell hb 2; clear h g hb) | (go_at_call 30; refine (Err_calls _ br _ (by exact M1.out)).mono ?_; rintro e w6 ⟨rfl, rfl⟩))
            refine ⟨⟨k + 1, y.2, by omega, by go_num, ⟨Nat.le_trans HSZ.out SX.out⟩, ⟨M1.out⟩, ⟨?_⟩, ⟨(GG.out.alloc _).trans G1.out (fun k hk => .inr (hk ▸ B1.out))⟩⟩, by simp [intOf]; omega⟩
            rw [← HR.out, if_pos]
            exact HI.out.2 ⟨HE.out, HV.out, fun h => absurd h (by omega)⟩
          · have e1 : (y.2.2 != 0) = false := by simpa using he
            have e2 : (y.1 != o.n) = true := by simpa using hv
            have HV := Lib.hid hv
            clear he hv
            go_wp2_with (first | (go_at_call 22; refine (C.out).mono ?_; rintro e w5 ⟨rfl, h, g⟩; have M1 := Lib.hid h; have G1 := Lib.hid g; have hb := g.obj KB.out NB.out; have d0 := blkCell hb 0; have d1 := blkCell hb 1; have d2 := blkCell hb 2; clear h g hb) | (go_at_call 30; refine (Err_calls _ br _ (by exact M1.out)).mono ?_; rintro e w6 ⟨rfl, rfl⟩))
            go_ret
            refine ⟨ret_b ?_, (GG.out.alloc _).trans G1.out (fun k hk => .inr (hk ▸ B1.out))⟩
            rw [← HR.out, if_neg]
            exact fun h => HV.out (HI.out.1 h).2.1
        · have e1 : (y.2.2 != 0) = true := by simpa using he
          have HE := Lib.hid he
          clear he
          go_wp2_with (first | (go_at_call 22; refine (C.out).mono ?_; rintro e w5 ⟨rfl, h, g⟩; have M1 := Lib.hid h; have G1 := Lib.hid g; have hb := g.obj KB.out NB.out; have d0 := blkCell hb 0; have d1 := blkCell hb 1; have d2 := blkCell hb 2; clear h g hb) | (go_at_call 30; refine (Err_calls _ br _ (by exact M1.out)).mono ?_; rintro e w6 ⟨rfl, rfl⟩))
          go_ret
          refine ⟨ret_b ?_, (GG.out.alloc _).trans G1.out (fun k hk => .inr (hk ▸ B1.out))⟩
          rw [← HR.out, if_neg]
          exact fun h => HE.out (HI.out.1 h).1
      · obtain ⟨y, hy⟩ : ∃ y, numF x 2 = y := ⟨_, rfl⟩
        have hro : readOp x o = ((y.1), (⟨#[]⟩ : ByteArray), y.2) := by simp only [readOp, h6, Int.reduceEq, if_true, if_false, hy]
        have C := Two_calls _ br x K1.out SX.out
        rw [hy] at C
        have C := Lib.hid C
        have HR3 := HR.out
        have HSZ3 := HSZ.out
        rw [hro] at HSZ3
        have HI : Hid (okOp x o ↔ (((y.1), (⟨#[]⟩ : ByteArray), y.2)).2.2.2 = 0 ∧ (((y.1), (⟨#[]⟩ : ByteArray), y.2)).1 = o.n ∧ (4 ≤ o.k % 6 → (((y.1), (⟨#[]⟩ : ByteArray), y.2)).2.1 = o.s)) := Lib.hid (by unfold okOp; rw [hro])
        rw [hro] at HR3
        have HR := Lib.hid HR3
        have HSZ := Lib.hid HSZ3
        clear HR3 HSZ3 hro hy
        by_cases he : y.2.2 = 0
        · by_cases hv : y.1 = o.n
          · have e1 : (y.2.2 != 0) = false := by simpa using he
            have e2 : (y.1 != o.n) = false := by simpa using hv
            have HE := Lib.hid he
            have HV := Lib.hid hv
            clear he hv
            go_wp2_with (first | (go_at_call 23; refine (C.out).mono ?_; rintro e w5 ⟨rfl, h, g⟩; have M1 := Lib.hid h; have G1 := Lib.hid g; have hb := g.obj KB.out NB.out; have d0 := blkCell hb 0; have d1 := blkCell hb 1; have d2 := blkCell hb 2; clear h g hb) | (go_at_call 30; refine (Err_calls _ br _ (by exact M1.out)).mono ?_; rintro e w6 ⟨rfl, rfl⟩))
            refine ⟨⟨k + 1, y.2, by omega, by go_num, ⟨Nat.le_trans HSZ.out SX.out⟩, ⟨M1.out⟩, ⟨?_⟩, ⟨(GG.out.alloc _).trans G1.out (fun k hk => .inr (hk ▸ B1.out))⟩⟩, by simp [intOf]; omega⟩
            rw [← HR.out, if_pos]
            exact HI.out.2 ⟨HE.out, HV.out, fun h => absurd h (by omega)⟩
          · have e1 : (y.2.2 != 0) = false := by simpa using he
            have e2 : (y.1 != o.n) = true := by simpa using hv
            have HV := Lib.hid hv
            clear he hv
            go_wp2_with (first | (go_at_call 23; refine (C.out).mono ?_; rintro e w5 ⟨rfl, h, g⟩; have M1 := Lib.hid h; have G1 := Lib.hid g; have hb := g.obj KB.out NB.out; have d0 := blkCell hb 0; have d1 := blkCell hb 1; have d2 := blkCell hb 2; clear h g hb) | (go_at_call 30; refine (Err_calls _ br _ (by exact M1.out)).mono ?_; rintro e w6 ⟨rfl, rfl⟩))
            go_ret
            refine ⟨ret_b ?_, (GG.out.alloc _).trans G1.out (fun k hk => .inr (hk ▸ B1.out))⟩
            rw [← HR.out, if_neg]
            exact fun h => HV.out (HI.out.1 h).2.1
        · have e1 : (y.2.2 != 0) = true := by simpa using he
          have HE := Lib.hid he
          clear he
          go_wp2_with (first | (go_at_call 23; refine (C.out).mono ?_; rintro e w5 ⟨rfl, h, g⟩; have M1 := Lib.hid h; have G1 := Lib.hid g; have hb := g.obj KB.out NB.out; have d0 := blkCell hb 0; have d1 := blkCell hb 1; have d2 := blkCell hb 2; clear h g hb) | (go_at_call 30; refine (Err_calls _ br _ (by exact M1.out)).mono ?_; rintro e w6 ⟨rfl, rfl⟩))
          go_ret
          refine ⟨ret_b ?_, (GG.out.alloc _).trans G1.out (fun k hk => .inr (hk ▸ B1.out))⟩
          rw [← HR.out, if_neg]
          exact fun h => HE.out (HI.out.1 h).1
      · obtain ⟨y, hy⟩ : ∃ y, numF x 4 = y := ⟨_, rfl⟩
        have hro : readOp x o = ((y.1), (⟨#[]⟩ : ByteArray), y.2) := by simp only [readOp, h6, Int.reduceEq, if_true, if_false, hy]
        have C := Four_calls _ br x K1.out SX.out
        rw [hy] at C
        have C := Lib.hid C
        have HR3 := HR.out
        have HSZ3 := HSZ.out
        rw [hro] at HSZ3
        have HI : Hid (okOp x o ↔ (((y.1), (⟨#[]⟩ : ByteArray), y.2)).2.2.2 = 0 ∧ (((y.1), (⟨#[]⟩ : ByteArray), y.2)).1 = o.n ∧ (4 ≤ o.k % 6 → (((y.1), (⟨#[]⟩ : ByteArray), y.2)).2.1 = o.s)) := Lib.hid (by unfold okOp; rw [hro])
        rw [hro] at HR3
        have HR := Lib.hid HR3
        have HSZ := Lib.hid HSZ3
        clear HR3 HSZ3 hro hy
        by_cases he : y.2.2 = 0
        · by_cases hv : y.1 = o.n
          · have e1 : (y.2.2 != 0) = false := by simpa using he
            have e2 : (y.1 != o.n) = false := by simpa using hv
            have HE := Lib.hid he
            have HV := Lib.hid hv
            clear he hv
            go_wp2_with (first | (go_at_call 24; refine (C.out).mono ?_; rintro e w5 ⟨rfl, h, g⟩; have M1 := Lib.hid h; have G1 := Lib.hid g; have hb := g.obj KB.out NB.out; have d0 := blkCell hb 0; have d1 := blkCell hb 1; have d2 := blkCell hb 2; clear h g hb) | (go_at_call 30; refine (Err_calls _ br _ (by exact M1.out)).mono ?_; rintro e w6 ⟨rfl, rfl⟩))
            refine ⟨⟨k + 1, y.2, by omega, by go_num, ⟨Nat.le_trans HSZ.out SX.out⟩, ⟨M1.out⟩, ⟨?_⟩, ⟨(GG.out.alloc _).trans G1.out (fun k hk => .inr (hk ▸ B1.out))⟩⟩, by simp [intOf]; omega⟩
            rw [← HR.out, if_pos]
            exact HI.out.2 ⟨HE.out, HV.out, fun h => absurd h (by omega)⟩
          · have e1 : (y.2.2 != 0) = false := by simpa using he
            have e2 : (y.1 != o.n) = true := by simpa using hv
            have HV := Lib.hid hv
            clear he hv
            go_wp2_with (first | (go_at_call 24; refine (C.out).mono ?_; rintro e w5 ⟨rfl, h, g⟩; have M1 := Lib.hid h; have G1 := Lib.hid g; have hb := g.obj KB.out NB.out; have d0 := blkCell hb 0; have d1 := blkCell hb 1; have d2 := blkCell hb 2; clear h g hb) | (go_at_call 30; refine (Err_calls _ br _ (by exact M1.out)).mono ?_; rintro e w6 ⟨rfl, rfl⟩))
            go_ret
            refine ⟨ret_b ?_, (GG.out.alloc _).trans G1.out (fun k hk => .inr (hk ▸ B1.out))⟩
            rw [← HR.out, if_neg]
            exact fun h => HV.out (HI.out.1 h).2.1
        · have e1 : (y.2.2 != 0) = true := by simpa using he
          have HE := Lib.hid he
          clear he
          go_wp2_with (first | (go_at_call 24; refine (C.out).mono ?_; rintro e w5 ⟨rfl, h, g⟩; have M1 := Lib.hid h; have G1 := Lib.hid g; have hb := g.obj KB.out NB.out; have d0 := blkCell hb 0; have d1 := blkCell hb 1; have d2 := blkCell hb 2; clear h g hb) | (go_at_call 30; refine (Err_calls _ br _ (by exact M1.out)).mono ?_; rintro e w6 ⟨rfl, rfl⟩))
          go_ret
          refine ⟨ret_b ?_, (GG.out.alloc _).trans G1.out (fun k hk => .inr (hk ▸ B1.out))⟩
          rw [← HR.out, if_neg]
          exact fun h => HE.out (HI.out.1 h).1
      · obtain ⟨y, hy⟩ : ∃ y, numF (eightF x) 8 = y := ⟨_, rfl⟩
        have hro : readOp x o = ((y.1), (⟨#[]⟩ : ByteArray), y.2) := by simp only [readOp, h6, Int.reduceEq, if_true, if_false, hy]
        have C := Eight_calls _ br x K1.out SX.out
        rw [hy] at C
        have C := Lib.hid C
        have HR3 := HR.out
        have HSZ3 := HSZ.out
        rw [hro] at HSZ3
        have HI : Hid (okOp x o ↔ (((y.1), (⟨#[]⟩ : ByteArray), y.2)).2.2.2 = 0 ∧ (((y.1), (⟨#[]⟩ : ByteArray), y.2)).1 = o.n ∧ (4 ≤ o.k % 6 → (((y.1), (⟨#[]⟩ : ByteArray), y.2)).2.1 = o.s)) := Lib.hid (by unfold okOp; rw [hro])
        rw [hro] at HR3
        have HR := Lib.hid HR3
        have HSZ := Lib.hid HSZ3
        clear HR3 HSZ3 hro hy
        by_cases he : y.2.2 = 0
        · by_cases hv : y.1 = o.n
          · have e1 : (y.2.2 != 0) = false := by simpa using he
            have e2 : (y.1 != o.n) = false := by simpa using hv
            have HE := Lib.hid he
            have HV := Lib.hid hv
            clear he hv
            go_wp2_with (first | (go_at_call 25; refine (C.out).mono ?_; rintro e w5 ⟨rfl, h, g⟩; have M1 := Lib.hid h; have G1 := Lib.hid g; have hb := g.obj KB.out NB.out; have d0 := blkCell hb 0; have d1 := blkCell hb 1; have d2 := blkCell hb 2; clear h g hb) | (go_at_call 30; refine (Err_calls _ br _ (by exact M1.out)).mono ?_; rintro e w6 ⟨rfl, rfl⟩))
            refine ⟨⟨k + 1, y.2, by omega, by go_num, ⟨Nat.le_trans HSZ.out SX.out⟩, ⟨M1.out⟩, ⟨?_⟩, ⟨(GG.out.alloc _).trans G1.out (fun k hk => .inr (hk ▸ B1.out))⟩⟩, by simp [intOf]; omega⟩
            rw [← HR.out, if_pos]
            exact HI.out.2 ⟨HE.out, HV.out, fun h => absurd h (by omega)⟩
          · have e1 : (y.2.2 != 0) = false := by simpa using he
            have e2 : (y.1 != o.n) = true := by simpa using hv
            have HV := Lib.hid hv
            clear he hv
            go_wp2_with (first | (go_at_call 25; refine (C.out).mono ?_; rintro e w5 ⟨rfl, h, g⟩; have M1 := Lib.hid h; have G1 := Lib.hid g; have hb := g.obj KB.out NB.out; have d0 := blkCell hb 0; have d1 := blkCell hb 1; have d2 := blkCell hb 2; clear h g hb) | (go_at_call 30; refine (Err_calls _ br _ (by exact M1.out)).mono ?_; rintro e w6 ⟨rfl, rfl⟩))
            go_ret
            refine ⟨ret_b ?_, (GG.out.alloc _).trans G1.out (fun k hk => .inr (hk ▸ B1.out))⟩
            rw [← HR.out, if_neg]
            exact fun h => HV.out (HI.out.1 h).2.1
        · have e1 : (y.2.2 != 0) = true := by simpa using he
          have HE := Lib.hid he
          clear he
          go_wp2_with (first | (go_at_call 25; refine (C.out).mono ?_; rintro e w5 ⟨rfl, h, g⟩; have M1 := Lib.hid h; have G1 := Lib.hid g; have hb := g.obj KB.out NB.out; have d0 := blkCell hb 0; have d1 := blkCell hb 1; have d2 := blkCell hb 2; clear h g hb) | (go_at_call 30; refine (Err_calls _ br _ (by exact M1.out)).mono ?_; rintro e w6 ⟨rfl, rfl⟩))
          go_ret
          refine ⟨ret_b ?_, (GG.out.alloc _).trans G1.out (fun k hk => .inr (hk ▸ B1.out))⟩
          rw [← HR.out, if_neg]
          exact fun h => HE.out (HI.out.1 h).1
      · obtain ⟨y, hy⟩ : ∃ y, textF x 65535 = y := ⟨_, rfl⟩
        have hro : readOp x o = (o.n, y) := by simp only [readOp, h6, Int.reduceEq, if_true, if_false, hy]
        have C := Text_calls _ br x 65535 K1.out SX.out
        rw [hy] at C
        have C := Lib.hid C
        have HR3 := HR.out
        have HSZ3 := HSZ.out
        rw [hro] at HSZ3
        have HI : Hid (okOp x o ↔ ((o.n, y)).2.2.2 = 0 ∧ ((o.n, y)).1 = o.n ∧ (4 ≤ o.k % 6 → ((o.n, y)).2.1 = o.s)) := Lib.hid (by unfold okOp; rw [hro])
        rw [hro] at HR3
        have HR := Lib.hid HR3
        have HSZ := Lib.hid HSZ3
        clear HR3 HSZ3 hro hy
        by_cases he : y.2.2 = 0
        · by_cases hv : y.1 = o.s
          · have e1 : (y.2.2 != 0) = false := by simpa using he
            have e2 : (!y.1.toList == o.s.toList) = false := by simp [hv]
            have HE := Lib.hid he
            have HV := Lib.hid hv
            clear he hv
            go_wp2_with (first | (go_at_call 26; refine (C.out).mono ?_; rintro e w5 ⟨rfl, h, g⟩; have M1 := Lib.hid h; have G1 := Lib.hid g; have hb := g.obj KB.out NB.out; have d0 := blkCell hb 0; have d1 := blkCell hb 1; have d2 := blkCell hb 2; clear h g hb) | (go_at_call 30; refine (Err_calls _ br _ (by exact M1.out)).mono ?_; rintro e w6 ⟨rfl, rfl⟩))
            refine ⟨⟨k + 1, y.2, by omega, by go_num, ⟨Nat.le_trans HSZ.out SX.out⟩, ⟨M1.out⟩, ⟨?_⟩, ⟨(GG.out.alloc _).trans G1.out (fun k hk => .inr (hk ▸ B1.out))⟩⟩, by simp [intOf]; omega⟩
            rw [← HR.out, if_pos]
            exact HI.out.2 ⟨HE.out, (by first | rfl | trivial), fun h => HV.out⟩
          · have e1 : (y.2.2 != 0) = false := by simpa using he
            have e2 : (!y.1.toList == o.s.toList) = true := by simpa using fun e => hv (strNe e)
            have HV := Lib.hid hv
            clear he hv
            go_wp2_with (first | (go_at_call 26; refine (C.out).mono ?_; rintro e w5 ⟨rfl, h, g⟩; have M1 := Lib.hid h; have G1 := Lib.hid g; have hb := g.obj KB.out NB.out; have d0 := blkCell hb 0; have d1 := blkCell hb 1; have d2 := blkCell hb 2; clear h g hb) | (go_at_call 30; refine (Err_calls _ br _ (by exact M1.out)).mono ?_; rintro e w6 ⟨rfl, rfl⟩))
            go_ret
            refine ⟨ret_b ?_, (GG.out.alloc _).trans G1.out (fun k hk => .inr (hk ▸ B1.out))⟩
            rw [← HR.out, if_neg]
            exact fun h => HV.out ((HI.out.1 h).2.2 (by omega))
        · have e1 : (y.2.2 != 0) = true := by simpa using he
          have HE := Lib.hid he
          clear he
          go_wp2_with (first | (go_at_call 26; refine (C.out).mono ?_; rintro e w5 ⟨rfl, h, g⟩; have M1 := Lib.hid h; have G1 := Lib.hid g; have hb := g.obj KB.out NB.out; have d0 := blkCell hb 0; have d1 := blkCell hb 1; have d2 := blkCell hb 2; clear h g hb) | (go_at_call 30; refine (Err_calls _ br _ (by exact M1.out)).mono ?_; rintro e w6 ⟨rfl, rfl⟩))
          go_ret
          refine ⟨ret_b ?_, (GG.out.alloc _).trans G1.out (fun k hk => .inr (hk ▸ B1.out))⟩
          rw [← HR.out, if_neg]
          exact fun h => HE.out (HI.out.1 h).1
      · obtain ⟨y, hy⟩ : ∃ y, rawF x 32 = y := ⟨_, rfl⟩
        have hro : readOp x o = (o.n, y) := by simp only [readOp, h6, Int.reduceEq, if_true, if_false, hy]
        have C := Hash_calls _ br x K1.out
        rw [hy] at C
        have C := Lib.hid C
        have HR3 := HR.out
        have HSZ3 := HSZ.out
        rw [hro] at HSZ3
        have HI : Hid (okOp x o ↔ ((o.n, y)).2.2.2 = 0 ∧ ((o.n, y)).1 = o.n ∧ (4 ≤ o.k % 6 → ((o.n, y)).2.1 = o.s)) := Lib.hid (by unfold okOp; rw [hro])
        rw [hro] at HR3
        have HR := Lib.hid HR3
        have HSZ := Lib.hid HSZ3
        clear HR3 HSZ3 hro hy
        by_cases he : y.2.2 = 0
        · by_cases hv : y.1 = o.s
          · have e1 : (y.2.2 != 0) = false := by simpa using he
            have e2 : (!y.1.toList == o.s.toList) = false := by simp [hv]
            have HE := Lib.hid he
            have HV := Lib.hid hv
            clear he hv
            go_wp2_with (first | (go_at_call 27; refine (C.out).mono ?_; rintro e w5 ⟨rfl, h, g⟩; have M1 := Lib.hid h; have G1 := Lib.hid g; have hb := g.obj KB.out NB.out; have d0 := blkCell hb 0; have d1 := blkCell hb 1; have d2 := blkCell hb 2; clear h g hb) | (go_at_call 30; refine (Err_calls _ br _ (by exact M1.out)).mono ?_; rintro e w6 ⟨rfl, rfl⟩))
            refine ⟨⟨k + 1, y.2, by omega, by go_num, ⟨Nat.le_trans HSZ.out SX.out⟩, ⟨M1.out⟩, ⟨?_⟩, ⟨(GG.out.alloc _).trans G1.out (fun k hk => .inr (hk ▸ B1.out))⟩⟩, by simp [intOf]; omega⟩
            rw [← HR.out, if_pos]
            exact HI.out.2 ⟨HE.out, (by first | rfl | trivial), fun h => HV.out⟩
          · have e1 : (y.2.2 != 0) = false := by simpa using he
            have e2 : (!y.1.toList == o.s.toList) = true := by simpa using fun e => hv (strNe e)
            have HV := Lib.hid hv
            clear he hv
            go_wp2_with (first | (go_at_call 27; refine (C.out).mono ?_; rintro e w5 ⟨rfl, h, g⟩; have M1 := Lib.hid h; have G1 := Lib.hid g; have hb := g.obj KB.out NB.out; have d0 := blkCell hb 0; have d1 := blkCell hb 1; have d2 := blkCell hb 2; clear h g hb) | (go_at_call 30; refine (Err_calls _ br _ (by exact M1.out)).mono ?_; rintro e w6 ⟨rfl, rfl⟩))
            go_ret
            refine ⟨ret_b ?_, (GG.out.alloc _).trans G1.out (fun k hk => .inr (hk ▸ B1.out))⟩
            rw [← HR.out, if_neg]
            exact fun h => HV.out ((HI.out.1 h).2.2 (by omega))
        · have e1 : (y.2.2 != 0) = true := by simpa using he
          have HE := Lib.hid he
          clear he
          go_wp2_with (first | (go_at_call 27; refine (C.out).mono ?_; rintro e w5 ⟨rfl, h, g⟩; have M1 := Lib.hid h; have G1 := Lib.hid g; have hb := g.obj KB.out NB.out; have d0 := blkCell hb 0; have d1 := blkCell hb 1; have d2 := blkCell hb 2; clear h g hb) | (go_at_call 30; refine (Err_calls _ br _ (by exact M1.out)).mono ?_; rintro e w6 ⟨rfl, rfl⟩))
          go_ret
          refine ⟨ret_b ?_, (GG.out.alloc _).trans G1.out (fun k hk => .inr (hk ▸ B1.out))⟩
          rw [← HR.out, if_neg]
          exact fun h => HE.out (HI.out.1 h).1
    · have HR2 := HR.out
      rw [sameG_end x l k hlt] at HR2
      have HR := Lib.hid HR2
      clear HR2
      go_wp2_with (go_at_call 31; refine (End_calls _ br x (by exact J1.out)).mono ?_; rintro e w5 ⟨rfl, h, g⟩; have G1 := Lib.hid g; clear h g)
      go_ret
      refine ⟨ret_b ?_, GG.out.trans G1.out (fun k hk => .inr (hk ▸ B1.out))⟩
      rw [← HR.out]
      by_cases h0 : (endF x).2 = 0 <;> simp [h0]
end Go.Proofs.Ytjlkflbkejpcaaa