/- TopRejects: quorum.Lay. -/
import Derived.Test.YtmbipabiagdaaaaGreatDoorTjZ
import Derived.BigRegion
import Derived.Laws.EntriesVeiled
namespace Go.Proofs.YtmbipabiagdaaaaGreatDoor
open Go.RowKit Go.Lib Go.Shelf
theorem catS_small (l : List ByteArray) (h : ∀ x ∈ l, x.size = 32) : (catS l).length = 32 * l.length := by
  induction l with
  | nil => rfl
  | cons x l ih =>
    have h1 := ih (fun y hy => h y (List.mem_cons_of_mem _ hy))
    have h2 := h x (List.mem_cons_self ..)
    have h3 : x.data.toList.length = x.size := Array.length_toList
    rw [catS, List.flatMap_cons, List.length_append, h3, h2, List.length_cons]
    rw [catS] at h1
    omega
theorem catS_at (l : List ByteArray) (k : Nat) (x : ByteArray) (h : l[k]? = some x) : catS (l.take (k + 1)) = catS (l.take k) ++ x.data.toList := by
  obtain ⟨hk, hx⟩ := List.getElem?_eq_some_iff.1 h
  rw [catS_take l k hk, hx]
set_option maxRecDepth 100000 in
set_option maxHeartbeats 2000000 in
theorem qLay_calls (w0 w : World) (wb : Nat) (bs : List UInt8) (A : Option Addr) (c : Nat) (n : Int) (r : Option Nat) (l : List ByteArray) (hw : Wo w0 w wb (bs, false)) (hr : TRow w (.slice A l.length c) r l) (hk : qchk l n = 0) (hl : bs.length ≤ 1000000) :
    Calls Tryz.prog 120 #[.pointer (some ⟨wb, 0, none⟩), .agg #[.slice A l.length c, .int .i64 n]] w fun e w' => e = .returned (.tuple #[]) ∧ Wo w0 w' wb (bs ++ setL l n, false) ∧ KeptW w w' := by
  obtain ⟨g0, g1, g2, g3, g4⟩ := qchk_ok hk
  have HLEN := Lib.hid g1
  have hl16 : l.length ≤ 16 := g1
  have H32 := Lib.hid g4
  have F1 : Hid (fits (l.length : Int) 1) := Lib.hid ⟨by omega, fun _ => by omega⟩
  have F2 : Hid (fits n 1) := Lib.hid ⟨by omega, fun _ => by omega⟩
  have HROW := Lib.hid (SRow.alloc hr (.cells #[.slice A l.length c, .int .i64 n] 42))
  have HWO := Lib.hid (hw.kept ((Chg.refl (fun _ => False) w).alloc (.cells #[.slice A l.length c, .int .i64 n] 42)))
  have CQ := Lib.hid (fun w hr => qCheck_calls w A c n r l hr)
  rw [hk] at CQ
  have HBL := Lib.hid hl
  clear hr hw hk hl g0 g1 g2 g3 g4
  go_enter Tryz.func120, Tryz.ntmps120
  go_wp2_with fail
  obtain ⟨b, hb⟩ : ∃ b, w.heap.size = b := ⟨_, rfl⟩
  obtain ⟨W0, hW⟩ : ∃ W0, w.alloc (.cells #[.slice A l.length c, .int .i64 n] 42) = W0 := ⟨_, rfl⟩
  have hob : W0.heap[b]? = some (.cells #[.slice A l.length c, .int .i64 n] 42 (0, 0)) := by rw [← hW, ← hb]; exact blkAlloc w _
  have HK0 : Hid (KeptW w W0) := Lib.hid (by rw [← hW]; exact KeptW.of_chg ((Chg.refl _ w).alloc _))
  rw [hW] at HROW HWO
  simp only [hW]
  simp only [hb]
  clear hW hb
  refine (CQ.out _ HROW.out).mono ?_
  rintro e w1 ⟨rfl, hg⟩
  have HB := Lib.hid (hg.obj hob (fun h => h))
  have HROW := Lib.hid (SRow.chg HROW.out hg (fun _ _ h => h))
  have HWO := Lib.hid (HWO.out.kept hg)
  have HK := Lib.hid (HK0.out.trans (KeptW.of_chg hg))
  have c0 : w1.cell? ⟨b, 0, none⟩ = some (.slice A l.length c) := blkCell HB.out 0
  clear hg hob
  go_wp2_with fail
  refine (wo_Byte w0 _ wb _ (l.length : Int) HWO.out (by have := HBL.out; show bs.length ≤ _; omega)).mono ?_
  rintro e w2 ⟨rfl, hw, hk⟩
  rw [numW_ok _ _ _ F1.out] at hw
  have HB := Lib.hid (hk b _ _ HB.out (by decide) (by decide))
  have HROW := Lib.hid (hk.row HROW.out (by decide) (by decide))
  have HK := Lib.hid (HK.out.trans hk)
  have d0 : w2.cell? ⟨b, 0, none⟩ = some (.slice A l.length c) := blkCell HB.out 0
  have HWO := Lib.hid hw
  clear hw hk c0
  go_wp2_with fail
  clear d0
  go_loopw [19] (fun v wr => ∃ k : Nat, k ≤ l.length ∧ v = .int .i64 k ∧ HD (Wo w0 wr wb ((bs ++ numBytes (l.length : Int) 1) ++ catS (l.take k), false)) ∧ HD (KeptW w2 wr)) (fun v _ => l.length - (intOf v).toNat)
  case atStart => exact ⟨0, Nat.zero_le _, rfl, ⟨by rw [List.take_zero, show catS [] = [] from rfl, List.append_nil]; exact HWO.out⟩, ⟨KeptW.refl _⟩⟩
  case round =>
    obtain ⟨k, hk, rfl, HWK, HKK⟩ := hrel
    obtain ⟨w3, rfl⟩ : ∃ w3, w3 = wr := ⟨_, rfl⟩
    have HR3 := Lib.hid (HKK.out.row HROW.out (by decide) (by decide))
    have hlen : ((bs ++ numBytes (l.length : Int) 1) ++ catS (l.take k)).length ≤ 1000600 := by
      have h1 := catS_small (l.take k) (fun x hx => H32.out x (List.mem_of_mem_take hx))
      have h2 : (numBytes (l.length : Int) 1).length = 1 := numBytes_len _ _
      have h3 := HBL.out
      have h4 := HLEN.out
      rw [List.length_append, List.length_append, h1, h2, List.length_take]
      omega
    have HL3 : Hid ((((bs ++ numBytes (l.length : Int) 1) ++ catS (l.take k), false) : WS).1.length ≤ 1000600) := Lib.hid hlen
    clear hlen
    by_cases hlt : k < l.length
    · obtain ⟨x, hx⟩ : ∃ x, l[k]? = some x := ⟨_, List.getElem?_eq_getElem hlt⟩
      obtain ⟨g, cur, rfl, h9⟩ := HR3.out.at_ (by omega)
      have e0 := TRow.cell HR3.out k x hx
      have hx32 : x.size = 32 := H32.out x (List.mem_iff_getElem?.2 ⟨k, hx⟩)
      have HCAT := Lib.hid (catS_at l k x hx)
      have HX := Lib.hid hx32
      have q0 : (0 : Int) ≤ (k : Int) := by omega
      have q1 : (k : Int) < (l.length : Int) := by omega
      clear h9 hx hx32
      go_wp2_with fail
      refine (wo_Hash w0 _ wb _ x HWK.out (Nat.le_trans (Nat.add_le_add HL3.out (Nat.le_of_eq HX.out)) (by decide))).mono ?_
      rintro e w4 ⟨rfl, hw, hk⟩
      rw [whashW_ok _ _ HX.out] at hw
      have HW4 := Lib.hid hw
      have HK4 := Lib.hid (HKK.out.trans hk)
      clear hw hk
      go_wp2_with fail
      exact ⟨⟨k + 1, by omega, by go_num, ⟨by rw [HCAT.out, ← List.append_assoc]; exact HW4.out⟩, ⟨HK4.out⟩⟩, by simp [intOf]; omega⟩
    · obtain rfl : k = l.length := by omega
      have c1 : w3.cell? ⟨b, 1, none⟩ = some (.int .i64 n) := blkCell (HKK.out b _ _ HB.out (by decide) (by decide)) 1
      have hw3 := HWK.out
      have hl3 := HL3.out
      rw [List.take_length] at hw3 hl3
      have HW3 := Lib.hid hw3
      have HL3 : Hid ((((bs ++ numBytes (l.length : Int) 1) ++ catS l, false) : WS).1.length ≤ 1000600) := Lib.hid hl3
      clear hw3 hl3
      go_wp2_with fail
      refine (wo_Byte w0 _ wb _ n HW3.out (Nat.le_trans HL3.out (by decide))).mono ?_
      rintro e w4 ⟨rfl, hw, hk⟩
      rw [numW_ok _ _ _ F2.out] at hw
      have HW4 := Lib.hid hw
      have HK4 := Lib.hid ((HK.out.trans HKK.out).trans hk)
      clear hw hk
      go_wp2_with fail
      go_end0
      exact ⟨rfl, by rw [setL, ← List.append_assoc, ← List.append_assoc]; exact HW4.out, HK4.out⟩
end Go.Proofs.YtmbipabiagdaaaaGreatDoor
/- TopRejects: meta: number, forms, sets. -/
namespace Go.Proofs.YtmbipabiagdaaaaGreatDoor
open Go.RowKit Go.Lib Go.Shelf
def numB (n : Int) : Bool := decide (1 ≤ n) && decide (n ≤ 65535)
theorem mNumber_calls (w : World) (n : Int) : Calls Tryz.prog 90 #[.int .i64 n] w fun e w' => e = .returned (.bool (numB n)) ∧ w' = w := by
  unfold numB
  by_cases d0 : 1 ≤ n
  · go_enter Tryz.func90, Tryz.ntmps90
    go_wp2
    go_ret
    exact ⟨by simp [d0], rfl⟩
  · have e0 : decide (1 ≤ n) = false := decide_eq_false d0
    rw [e0]
    clear d0
    go_enter Tryz.func90, Tryz.ntmps90
    go_wp2
    go_ret
    exact ⟨rfl, rfl⟩
theorem forms1 (w : World) : Calls Tryz.prog 38 #[.int .i64 1] w fun e w' => e = .returned (.tuple #[.agg #[.func (.func 73) #[] #[], .func (.func 74) #[] #[], .func (.func 75) #[] #[], .func (.func 76) #[] #[]], .bool true]) ∧ Chg (fun _ => False) w w' := by
  go_enter Tryz.func38, Tryz.ntmps38
  go_wp2
  have hb := blkAlloc w (.cells #[.func (.func 73) #[] #[], .func (.func 74) #[] #[], .func (.func 75) #[] #[], .func (.func 76) #[] #[]] 89)
  have q0 := blkCell hb 0
  have q1 := blkCell hb 1
  have q2 := blkCell hb 2
  have q3 := blkCell hb 3
  exact bodyPost_ret (v := .tuple #[.agg #[.func (.func 73) #[] #[], .func (.func 74) #[] #[], .func (.func 75) #[] #[], .func (.func 76) #[] #[]], .bool true]) (by simp [results, go_sem, q0, q1, q2, q3]) rfl ⟨rfl, (Chg.refl _ w).alloc _⟩
theorem forms2 (w : World) : Calls Tryz.prog 38 #[.int .i64 2] w fun e w' => e = .returned (.tuple #[.agg #[.func (.func 77) #[] #[], .func (.func 78) #[] #[], .func (.func 79) #[] #[], .func (.func 80) #[] #[]], .bool true]) ∧ Chg (fun _ => False) w w' := by
  go_enter Tryz.func38, Tryz.ntmps38
  go_wp2
  have hb := blkAlloc w (.cells #[.func (.func 77) #[] #[], .func (.func 78) #[] #[], .func (.func 79) #[] #[], .func (.func 80) #[] #[]] 89)
  have q0 := blkCell hb 0
  have q1 := blkCell hb 1
  have q2 := blkCell hb 2
  have q3 := blkCell hb 3
  exact bodyPost_ret (v := .tuple #[.agg #[.func (.func 77) #[] #[], .func (.func 78) #[] #[], .func (.func 79) #[] #[], .func (.func 80) #[] #[]], .bool true]) (by simp [results, go_sem, q0, q1, q2, q3]) rfl ⟨rfl, (Chg.refl _ w).alloc _⟩
theorem forms3 (w : World) : Calls Tryz.prog 38 #[.int .i64 3] w fun e w' => e = .returned (.tuple #[.agg #[.func (.func 81) #[] #[], .func (.func 82) #[] #[], .func (.func 83) #[] #[], .func (.func 84) #[] #[]], .bool true]) ∧ Chg (fun _ => False) w w' := by
  go_enter Tryz.func38, Tryz.ntmps38
  go_wp2
  have hb := blkAlloc w (.cells #[.func (.func 81) #[] #[], .func (.func 82) #[] #[], .func (.func 83) #[] #[], .func (.func 84) #[] #[]] 89)
  have q0 := blkCell hb 0
  have q1 := blkCell hb 1
  have q2 := blkCell hb 2
  have q3 := blkCell hb 3
  exact bodyPost_ret (v := .tuple #[.agg #[.func (.func 81) #[] #[], .func (.func 82) #[] #[], .func (.func 83) #[] #[], .func (.func 84) #[] #[]], .bool true]) (by simp [results, go_sem, q0, q1, q2, q3]) rfl ⟨rfl, (Chg.refl _ w).alloc _⟩
theorem forms4 (w : World) : Calls Tryz.prog 38 #[.int .i64 4] w fun e w' => e = .returned (.tuple #[.agg #[.func (.func 85) #[] #[], .func (.func 86) #[] #[], .func (.func 87) #[] #[], .func (.func 88) #[] #[]], .bool true]) ∧ Chg (fun _ => False) w w' := by
  go_enter Tryz.func38, Tryz.ntmps38
  go_wp2
  have hb := blkAlloc w (.cells #[.func (.func 85) #[] #[], .func (.func 86) #[] #[], .func (.func 87) #[] #[], .func (.func 88) #[] #[]] 89)
  have q0 := blkCell hb 0
  have q1 := blkCell hb 1
  have q2 := blkCell hb 2
  have q3 := blkCell hb 3
  exact bodyPost_ret (v := .tuple #[.agg #[.func (.func 85) #[] #[], .func (.func 86) #[] #[], .func (.func 87) #[] #[], .func (.func 88) #[] #[]], .bool true]) (by simp [results, go_sem, q0, q1, q2, q3]) rfl ⟨rfl, (Chg.refl _ w).alloc _⟩
theorem forms0 (w : World) (k : Int) (h1 : (k == 1) = false) (h2 : (k == 2) = false) (h3 : (k == 3) = false) (h4 : (k == 4) = false) : Calls Tryz.prog 38 #[.int .i64 k] w fun e w' => e = .returned (.tuple #[.agg #[.nilFunc, .nilFunc, .nilFunc, .nilFunc], .bool false]) ∧ Chg (fun _ => False) w w' := by
  go_enter Tryz.func38, Tryz.ntmps38
  go_wp2
  have hb := blkAlloc w (.cells #[.nilFunc, .nilFunc, .nilFunc, .nilFunc] 89)
  have q0 := blkCell hb 0
  have q1 := blkCell hb 1
  have q2 := blkCell hb 2
  have q3 := blkCell hb 3
  exact bodyPost_ret (v := .tuple #[.agg #[.nilFunc, .nilFunc, .nilFunc, .nilFunc], .bool false]) (by simp [results, go_sem, q0, q1, q2, q3]) rfl ⟨rfl, (Chg.refl _ w).alloc _⟩
/-- Where the five sets of a document lie. -/
def setsB (b : Nat) : Array Value := #[.pointer (some ⟨b, 3, none⟩), .pointer (some ⟨b, 5, none⟩), .pointer (some ⟨b, 7, none⟩), .pointer (some ⟨b, 9, none⟩), .pointer (some ⟨b, 11, none⟩)]
set_option maxRecDepth 100000 in
theorem sets_calls (w : World) (b : Nat) : Calls Tryz.prog 117 #[.pointer (some ⟨b, 0, none⟩)] w fun e w' => ∃ g, e = .returned (.slice (some ⟨g, 0, none⟩) 5 5) ∧ w'.heap[g]? = some (.cells (setsB b) 142 (0, 0)) ∧ w.heap.size ≤ g ∧ Chg (fun _ => False) w w' := by
  go_enter Tryz.func117, Tryz.ntmps117
  go_wp2_with fail
  go_region_held3 (fun _ => True) (trivial) (fail)
  all_goals
    go_wp2_with fail
    go_ret
    exact ⟨w.heap.size, rfl, blkDrew (blkAlloc w _), Nat.le_refl _, ((Chg.refl _ w).alloc _).drew⟩
end Go.Proofs.YtmbipabiagdaaaaGreatDoor
