/- TopRejects: meta: what a kind does not name is zeroed; empty. -/
import Derived.Test.YtmbipabiagdaaaaGreatDoorTkD
import Derived.WalkSpells
namespace Go.Proofs.YtmbipabiagdaaaaGreatDoor
open Go.RowKit Go.Lib Go.Shelf
set_option maxRecDepth 100000 in
theorem zero1_calls (w : World) (b : Nat) (v x : Int) (s0 s1 s2 s3 s4 : SetV) (g o : ByteArray) (hd : DAt w b #[.int .i64 1, .int .i64 v, .int .i64 x, .slice s0.A s0.l.length s0.c, .int .i64 s0.n, .slice s1.A s1.l.length s1.c, .int .i64 s1.n, .slice s2.A s2.l.length s2.c, .int .i64 s2.n, .slice s3.A s3.l.length s3.c, .int .i64 s3.n, .slice s4.A s4.l.length s4.c, .int .i64 s4.n, .string g, .string o, .slice none 0 0, .string ⟨#[]⟩, .int .i64 0, .string ⟨#[]⟩, .int .i64 0, .string ⟨#[]⟩]) :
    Calls Tryz.prog 76 #[.pointer (some ⟨b, 0, none⟩)] w fun e w' => e = .returned (.tuple #[]) ∧ DAt w' b #[.int .i64 1, .int .i64 v, .int .i64 x, .slice none 0 0, .int .i64 0, .slice none 0 0, .int .i64 0, .slice none 0 0, .int .i64 0, .slice none 0 0, .int .i64 0, .slice none 0 0, .int .i64 0, .string ⟨#[]⟩, .string ⟨#[]⟩, .slice none 0 0, .string ⟨#[]⟩, .int .i64 0, .string ⟨#[]⟩, .int .i64 0, .string ⟨#[]⟩] ∧ Chg (fun k => k = b) w w' := by
  have c3 : w.cell? ⟨b, 3, none⟩ = some (.slice s0.A s0.l.length s0.c) := blkCell hd 3
  have f3 := blkFree hd 3
  have c4 : w.cell? ⟨b, 4, none⟩ = some (.int .i64 s0.n) := blkCell hd 4
  have f4 := blkFree hd 4
  have c5 : w.cell? ⟨b, 5, none⟩ = some (.slice s1.A s1.l.length s1.c) := blkCell hd 5
  have f5 := blkFree hd 5
  have c6 : w.cell? ⟨b, 6, none⟩ = some (.int .i64 s1.n) := blkCell hd 6
  have f6 := blkFree hd 6
  have c7 : w.cell? ⟨b, 7, none⟩ = some (.slice s2.A s2.l.length s2.c) := blkCell hd 7
  have f7 := blkFree hd 7
  have c8 : w.cell? ⟨b, 8, none⟩ = some (.int .i64 s2.n) := blkCell hd 8
  have f8 := blkFree hd 8
  have c9 : w.cell? ⟨b, 9, none⟩ = some (.slice s3.A s3.l.length s3.c) := blkCell hd 9
  have f9 := blkFree hd 9
  have c10 : w.cell? ⟨b, 10, none⟩ = some (.int .i64 s3.n) := blkCell hd 10
  have f10 := blkFree hd 10
  have c11 : w.cell? ⟨b, 11, none⟩ = some (.slice s4.A s4.l.length s4.c) := blkCell hd 11
  have f11 := blkFree hd 11
  have c12 : w.cell? ⟨b, 12, none⟩ = some (.int .i64 s4.n) := blkCell hd 12
  have f12 := blkFree hd 12
  have c13 : w.cell? ⟨b, 13, none⟩ = some (.string g) := blkCell hd 13
  have f13 := blkFree hd 13
  have c14 : w.cell? ⟨b, 14, none⟩ = some (.string o) := blkCell hd 14
  have f14 := blkFree hd 14
  have e3 := blkSet hd 3 (.slice none 0 0)
  have e4 := blkSet e3 4 (.int .i64 0)
  have e5 := blkSet e4 5 (.slice none 0 0)
  have e6 := blkSet e5 6 (.int .i64 0)
  have e7 := blkSet e6 7 (.slice none 0 0)
  have e8 := blkSet e7 8 (.int .i64 0)
  have e9 := blkSet e8 9 (.slice none 0 0)
  have e10 := blkSet e9 10 (.int .i64 0)
  have e11 := blkSet e10 11 (.slice none 0 0)
  have e12 := blkSet e11 12 (.int .i64 0)
  have e13 := blkSet e12 13 (.string ⟨#[]⟩)
  have e14 := blkSet e13 14 (.string ⟨#[]⟩)
  have HC := Lib.hid (((((((((((((Chg.refl (fun k => k = b) w).cellOf 3 (.slice none 0 0)).cellOf 4 (.int .i64 0)).cellOf 5 (.slice none 0 0)).cellOf 6 (.int .i64 0)).cellOf 7 (.slice none 0 0)).cellOf 8 (.int .i64 0)).cellOf 9 (.slice none 0 0)).cellOf 10 (.int .i64 0)).cellOf 11 (.slice none 0 0)).cellOf 12 (.int .i64 0)).cellOf 13 (.string ⟨#[]⟩)).cellOf 14 (.string ⟨#[]⟩))
  have HE := Lib.hid e14
  clear hd e3 e4 e5 e6 e7 e8 e9 e10 e11 e12 e13 e14
  go_enter Tryz.func76, Tryz.ntmps76
  go_wp2_with fail
  go_end0
  exact ⟨rfl, by simpa [DAt] using HE.out, HC.out⟩
set_option maxRecDepth 100000 in
theorem zero2_calls (w : World) (b : Nat) (v x : Int) (A : Option Addr) (c : Nat) (r : Option Nat) (l : List Tg) (hd : DAt w b #[.int .i64 2, .int .i64 v, .int .i64 x, .slice none 0 0, .int .i64 0, .slice none 0 0, .int .i64 0, .slice none 0 0, .int .i64 0, .slice none 0 0, .int .i64 0, .slice none 0 0, .int .i64 0, .string ⟨#[]⟩, .string ⟨#[]⟩, .slice A l.length c, .string ⟨#[]⟩, .int .i64 0, .string ⟨#[]⟩, .int .i64 0, .string ⟨#[]⟩]) :
    Calls Tryz.prog 80 #[.pointer (some ⟨b, 0, none⟩)] w fun e w' => e = .returned (.tuple #[]) ∧ DAt w' b #[.int .i64 2, .int .i64 v, .int .i64 x, .slice none 0 0, .int .i64 0, .slice none 0 0, .int .i64 0, .slice none 0 0, .int .i64 0, .slice none 0 0, .int .i64 0, .slice none 0 0, .int .i64 0, .string ⟨#[]⟩, .string ⟨#[]⟩, .slice none 0 0, .string ⟨#[]⟩, .int .i64 0, .string ⟨#[]⟩, .int .i64 0, .string ⟨#[]⟩] ∧ Chg (fun k => k = b) w w' := by
  have c15 : w.cell? ⟨b, 15, none⟩ = some (.slice A l.length c) := blkCell hd 15
  have f15 := blkFree hd 15
  have e15 := blkSet hd 15 (.slice none 0 0)
  have HC := Lib.hid ((Chg.refl (fun k => k = b) w).cellOf 15 (.slice none 0 0))
  have HE := Lib.hid e15
  clear hd e15
  go_enter Tryz.func80, Tryz.ntmps80
  go_wp2_with fail
  go_end0
  exact ⟨rfl, by simpa [DAt] using HE.out, HC.out⟩
set_option maxRecDepth 100000 in
theorem zero3_calls (w : World) (b : Nat) (v x : Int) (o : ByteArray) (n : Int) (r : ByteArray) (f : Int) (h : ByteArray) (hd : DAt w b #[.int .i64 3, .int .i64 v, .int .i64 x, .slice none 0 0, .int .i64 0, .slice none 0 0, .int .i64 0, .slice none 0 0, .int .i64 0, .slice none 0 0, .int .i64 0, .slice none 0 0, .int .i64 0, .string ⟨#[]⟩, .string ⟨#[]⟩, .slice none 0 0, .string o, .int .i64 n, .string r, .int .i64 f, .string h]) :
    Calls Tryz.prog 84 #[.pointer (some ⟨b, 0, none⟩)] w fun e w' => e = .returned (.tuple #[]) ∧ DAt w' b #[.int .i64 3, .int .i64 v, .int .i64 x, .slice none 0 0, .int .i64 0, .slice none 0 0, .int .i64 0, .slice none 0 0, .int .i64 0, .slice none 0 0, .int .i64 0, .slice none 0 0, .int .i64 0, .string ⟨#[]⟩, .string ⟨#[]⟩, .slice none 0 0, .string ⟨#[]⟩, .int .i64 0, .string ⟨#[]⟩, .int .i64 0, .string ⟨#[]⟩] ∧ Chg (fun k => k = b) w w' := by
  have c19 : w.cell? ⟨b, 19, none⟩ = some (.int .i64 f) := blkCell hd 19
  have f19 := blkFree hd 19
  have c20 : w.cell? ⟨b, 20, none⟩ = some (.string h) := blkCell hd 20
  have f20 := blkFree hd 20
  have c16 : w.cell? ⟨b, 16, none⟩ = some (.string o) := blkCell hd 16
  have f16 := blkFree hd 16
  have c17 : w.cell? ⟨b, 17, none⟩ = some (.int .i64 n) := blkCell hd 17
  have f17 := blkFree hd 17
  have c18 : w.cell? ⟨b, 18, none⟩ = some (.string r) := blkCell hd 18
  have f18 := blkFree hd 18
  have e19 := blkSet hd 19 (.int .i64 0)
  have e20 := blkSet e19 20 (.string ⟨#[]⟩)
  have e16 := blkSet e20 16 (.string ⟨#[]⟩)
  have e17 := blkSet e16 17 (.int .i64 0)
  have e18 := blkSet e17 18 (.string ⟨#[]⟩)
  have HC := Lib.hid ((((((Chg.refl (fun k => k = b) w).cellOf 19 (.int .i64 0)).cellOf 20 (.string ⟨#[]⟩)).cellOf 16 (.string ⟨#[]⟩)).cellOf 17 (.int .i64 0)).cellOf 18 (.string ⟨#[]⟩))
  have HE := Lib.hid e18
  clear hd e19 e20 e16 e17 e18
  go_enter Tryz.func84, Tryz.ntmps84
  go_wp2_with fail
  go_end0
  exact ⟨rfl, by simpa [DAt] using HE.out, HC.out⟩
set_option maxRecDepth 100000 in
theorem zero4_calls (w : World) (b : Nat) (v x : Int) (f : Int) (h : ByteArray) (hd : DAt w b #[.int .i64 4, .int .i64 v, .int .i64 x, .slice none 0 0, .int .i64 0, .slice none 0 0, .int .i64 0, .slice none 0 0, .int .i64 0, .slice none 0 0, .int .i64 0, .slice none 0 0, .int .i64 0, .string ⟨#[]⟩, .string ⟨#[]⟩, .slice none 0 0, .string ⟨#[]⟩, .int .i64 0, .string ⟨#[]⟩, .int .i64 f, .string h]) :
    Calls Tryz.prog 88 #[.pointer (some ⟨b, 0, none⟩)] w fun e w' => e = .returned (.tuple #[]) ∧ DAt w' b #[.int .i64 4, .int .i64 v, .int .i64 x, .slice none 0 0, .int .i64 0, .slice none 0 0, .int .i64 0, .slice none 0 0, .int .i64 0, .slice none 0 0, .int .i64 0, .slice none 0 0, .int .i64 0, .string ⟨#[]⟩, .string ⟨#[]⟩, .slice none 0 0, .string ⟨#[]⟩, .int .i64 0, .string ⟨#[]⟩, .int .i64 0, .string ⟨#[]⟩] ∧ Chg (fun k => k = b) w w' := by
  have c19 : w.cell? ⟨b, 19, none⟩ = some (.int .i64 f) := blkCell hd 19
  have f19 := blkFree hd 19
  have c20 : w.cell? ⟨b, 20, none⟩ = some (.string h) := blkCell hd 20
  have f20 := blkFree hd 20
  have e19 := blkSet hd 19 (.int .i64 0)
  have e20 := blkSet e19 20 (.string ⟨#[]⟩)
  have HC := Lib.hid (((Chg.refl (fun k => k = b) w).cellOf 19 (.int .i64 0)).cellOf 20 (.string ⟨#[]⟩))
  have HE := Lib.hid e20
  clear hd e19 e20
  go_enter Tryz.func88, Tryz.ntmps88
  go_wp2_with fail
  go_end0
  exact ⟨rfl, by simpa [DAt] using HE.out, HC.out⟩
set_option maxRecDepth 100000 in
set_option maxHeartbeats 1000000 in
theorem empty_calls (w : World) (k v x : Int) :
    Calls Tryz.prog 91 #[.agg #[.int .i64 k, .int .i64 v, .int .i64 x, .slice none 0 0, .int .i64 0, .slice none 0 0, .int .i64 0, .slice none 0 0, .int .i64 0, .slice none 0 0, .int .i64 0, .slice none 0 0, .int .i64 0, .string ⟨#[]⟩, .string ⟨#[]⟩, .slice none 0 0, .string ⟨#[]⟩, .int .i64 0, .string ⟨#[]⟩, .int .i64 0, .string ⟨#[]⟩]] w fun e w' => e = .returned (.bool true) ∧ Chg (fun _ => False) w w' := by
  have CS := Lib.hid (fun w b => sets_calls w b)
  go_enter Tryz.func91, Tryz.ntmps91
  go_wp2_with fail
  obtain ⟨b, hb⟩ : ∃ b, w.heap.size = b := ⟨_, rfl⟩
  obtain ⟨W0, hW⟩ : ∃ W0, w.alloc (.cells #[.int .i64 k, .int .i64 v, .int .i64 x, .slice none 0 0, .int .i64 0, .slice none 0 0, .int .i64 0, .slice none 0 0, .int .i64 0, .slice none 0 0, .int .i64 0, .slice none 0 0, .int .i64 0, .string ⟨#[]⟩, .string ⟨#[]⟩, .slice none 0 0, .string ⟨#[]⟩, .int .i64 0, .string ⟨#[]⟩, .int .i64 0, .string ⟨#[]⟩] 46) = W0 := ⟨_, rfl⟩
  have hob : W0.heap[b]? = some (.cells #[.int .i64 k, .int .i64 v, .int .i64 x, .slice none 0 0, .int .i64 0, .slice none 0 0, .int .i64 0, .slice none 0 0, .int .i64 0, .slice none 0 0, .int .i64 0, .slice none 0 0, .int .i64 0, .string ⟨#[]⟩, .string ⟨#[]⟩, .slice none 0 0, .string ⟨#[]⟩, .int .i64 0, .string ⟨#[]⟩, .int .i64 0, .string ⟨#[]⟩] 46 (0, 0)) := by rw [← hW, ← hb]; exact blkAlloc w _
  have HCH : Hid (Chg (fun _ => False) w W0) := Lib.hid (by rw [← hW]; exact (Chg.refl _ w).alloc _)
  simp only [hW]
  simp only [hb]
  clear hW hb
  refine (CS.out W0 b).mono ?_
  rintro e w1 ⟨g, rfl, hg, _, hc⟩
  have hbb := hc.obj hob (fun h => h)
  have HCH := Lib.hid (HCH.out.trans hc (fun _ h => h.elim))
  have HG := Lib.hid hg
  have CP := Lib.hid (fun j (hj : j < 5) => (blkCell hg j).trans (setsB_get b j hj))
  have CI : Hid (∀ j, j < 5 → w1.cell? ⟨b, 3 + 2 * j, none⟩ = some (.slice none 0 0) ∧ w1.cell? ⟨b, 3 + 2 * j + 1, none⟩ = some (.int .i64 0)) := Lib.hid (fun j hj => by
    match j, hj with
    | 0, _ => exact ⟨blkCell hbb 3, blkCell hbb 4⟩
    | 1, _ => exact ⟨blkCell hbb 5, blkCell hbb 6⟩
    | 2, _ => exact ⟨blkCell hbb 7, blkCell hbb 8⟩
    | 3, _ => exact ⟨blkCell hbb 9, blkCell hbb 10⟩
    | 4, _ => exact ⟨blkCell hbb 11, blkCell hbb 12⟩)
  have c13 : w1.cell? ⟨b, 13, none⟩ = some (.string ⟨#[]⟩) := blkCell hbb 13
  have c14 : w1.cell? ⟨b, 14, none⟩ = some (.string ⟨#[]⟩) := blkCell hbb 14
  have c15 : w1.cell? ⟨b, 15, none⟩ = some (.slice none 0 0) := blkCell hbb 15
  have c16 : w1.cell? ⟨b, 16, none⟩ = some (.string ⟨#[]⟩) := blkCell hbb 16
  have c17 : w1.cell? ⟨b, 17, none⟩ = some (.int .i64 0) := blkCell hbb 17
  have c18 : w1.cell? ⟨b, 18, none⟩ = some (.string ⟨#[]⟩) := blkCell hbb 18
  have c19 : w1.cell? ⟨b, 19, none⟩ = some (.int .i64 0) := blkCell hbb 19
  have c20 : w1.cell? ⟨b, 20, none⟩ = some (.string ⟨#[]⟩) := blkCell hbb 20
  clear hg hc hbb hob
  go_wp2_with fail
  go_loop [7] (fun v => ∃ k : Nat, k ≤ 5 ∧ v = .int .i64 k) (fun v => 5 - (intOf v).toNat)
  case atStart => exact ⟨0, Nat.zero_le _, rfl⟩
  case round =>
    obtain ⟨j, hj, rfl⟩ := hrel
    by_cases hlt : j < 5
    · have e0 := CP.out j hlt
      obtain ⟨e1, e2⟩ := CI.out j hlt
      obtain ⟨p, hp⟩ : ∃ p, 3 + 2 * j = p := ⟨_, rfl⟩
      rw [hp] at e0 e1 e2
      have q0 : (0 : Int) ≤ (j : Int) := by omega
      have q1 : (j : Int) < 5 := by omega
      clear hp
      go_wp2_with fail
      exact ⟨⟨j + 1, by omega, by go_num⟩, by simp [intOf]; omega⟩
    · obtain rfl : j = 5 := by omega
      go_wp2_with fail
      go_ret
      exact ⟨rfl, HCH.out⟩
end Go.Proofs.YtmbipabiagdaaaaGreatDoor
