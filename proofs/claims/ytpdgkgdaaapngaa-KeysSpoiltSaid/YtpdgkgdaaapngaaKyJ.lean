/- Keys: Sign of both packages. -/
import Derived.Test.YtpdgkgdaaapngaaKyI
namespace Go.Proofs.Ytpdgkgdaaapngaa
open Go.RowKit
set_option maxRecDepth 100000 in
theorem Sign1_calls (w : World) (b : Nat) (seed text : ByteArray) (h u : Nat) (hs : seed.size ≤ 140737488351232) (ht : text.size ≤ 140737488351232) (hh : h ≤ 4) (hu : u < 2 ^ h) (hk : KKey w b seed h u) :
    Calls Try.prog 18 #[.pointer (some ⟨b, 0, none⟩), .string text] w fun e w' => e = .returned (.tuple #[.string (sigK seed h u text), .int .i64 0]) ∧ KKey w' b seed h (u + 1 : Nat) ∧ Chg (fun k => k = b) w w' := by
  have h16 := (two_pow_small h hh).1
  have hp : ((2 : Int) ^ h) = ((2 ^ h : Nat) : Int) := by simp
  have C1 := Lib.hid (take_calls w b seed h u 1 hh (by omega) (by omega) (by decide) (by decide) (by rw [hp]; omega) hk)
  obtain ⟨hk2, hg2⟩ := hk.use ((u : Int) + 1)
  rw [show ((u : Int) + 1) = ((u + 1 : Nat) : Int) from rfl] at hk2
  have HK2 := Lib.hid hk2
  have HG2 := Lib.hid hg2
  have C2 := Lib.hid (fun w hk => at_calls w b seed text h u ((u + 1 : Nat) : Int) hs ht hh hu hk)
  clear hk hk2 hg2 hu hp hs ht
  go_enter Try.func18, Try.ntmps18
  go_wp2_with (first
    | (go_at_call 36; refine (C1.out).mono ?_; rintro e w1 ⟨rfl, rfl⟩)
    | (go_at_call 37; refine (C2.out _ HK2.out).mono ?_; rintro e w2 ⟨rfl, hk3, hg3⟩; have HK3 := Lib.hid hk3; have HG3 := Lib.hid hg3; clear hk3 hg3))
  go_ret2
  exact ⟨rfl, HK3.out, HG2.out.trans HG3.out (fun _ h => .inl h)⟩
set_option maxRecDepth 100000 in
theorem Sign1_spent (w : World) (b : Nat) (seed text : ByteArray) (h u : Nat) (hh : h ≤ 4) (hu : u = 2 ^ h) (hk : KKey w b seed h u) :
    Calls Try.prog 18 #[.pointer (some ⟨b, 0, none⟩), .string text] w fun e w' => e = .returned (.tuple #[.string nilS, .int .i64 8]) ∧ w' = w := by
  have h16 := (two_pow_small h hh).1
  have hp : ((2 : Int) ^ h) = ((2 ^ h : Nat) : Int) := by simp
  have C1 := Lib.hid (take_spent w b seed h u 1 hh (by omega) (by omega) (by decide) (by decide) (by rw [hp]; omega) hk)
  clear hk hu hp
  go_enter Try.func18, Try.ntmps18
  go_wp2_with (go_at_call 36; refine (C1.out).mono ?_; rintro e w1 ⟨rfl, rfl⟩)
  go_ret2
  exact ⟨rfl, rfl⟩
theorem RKey.use {w : World} {b : Nat} {seed : ByteArray} {h : Nat} {used : Int} (k : RKey w b seed h used) (u : Int) : RKey (w.setCell ⟨b, 3, none⟩ (.int .i64 u)) b seed h u ∧ Chg (fun k => k = b) w (w.setCell ⟨b, 3, none⟩ (.int .i64 u)) ∧ w.cell? ⟨b, 3, none⟩ = some (.int .i64 used) ∧ w.frozen? ⟨b, 3, none⟩ = false := by
  obtain ⟨lv, r, hb, hl⟩ := k
  have c4 : Chg (fun k => k = b) w (w.setCell ⟨b, 3, none⟩ (.int .i64 u)) := (Chg.refl (fun k => k = b) w).setCell (p := ⟨b, 3, none⟩) (.inl rfl) _
  exact ⟨⟨lv, r, blkSet hb 3 _, hl.chg c4 (Other.one hb (by decide)) (Other.one hb (by decide))⟩, c4, blkCell hb 3, blkFree hb 3⟩
set_option maxRecDepth 100000 in
theorem rSign1_calls (w : World) (b : Nat) (seed text : ByteArray) (h u : Nat) (hs : seed.size ≤ 140737488351232) (ht : text.size ≤ 140737488351232) (hh : h ≤ 4) (hu : u < 2 ^ h) (hk : RKey w b seed h u) :
    Calls Try.prog 24 #[.pointer (some ⟨b, 0, none⟩), .string text] w fun e w' => e = .returned (.tuple #[.string (sigK seed h u text), .int .i64 0]) ∧ RKey w' b seed h ((u : Int) + 1) ∧ Chg (fun k => k = b) w w' := by
  have h16 := (two_pow_small h hh).1
  have hp : ((2 : Int) ^ h) = ((2 ^ h : Nat) : Int) := by simp
  obtain ⟨P, hP⟩ : ∃ P : Nat, 2 ^ h = P := ⟨_, rfl⟩
  have C1 := Lib.hid (rLeft_calls w b seed h u hh (by omega) (by omega) hk)
  have C2 := Lib.hid (fun w hk => rAt_calls w b seed text h u ((u : Int) + 1) hs ht hh hu hk)
  have HU := Lib.hid (fun w1 (k : RKey w1 b seed h u) => k.use ((u : Int) + 1))
  have HKC := Lib.hid (fun w1 (c : Chg (fun _ => False) w w1) => hk.chg c (fun h => h) (Other.none _ _) (Other.none _ _))
  rw [hp, hP] at C1
  rw [hP] at hu h16
  have hne : ((P : Int) - (u : Int) == 0) = false := by simp; omega
  clear hk hp hP hs ht
  go_enter Try.func24, Try.ntmps24
  go_wp2_with (first
    | (go_at_call 25; refine (C1.out).mono ?_; rintro e w1 ⟨rfl, hg1⟩; obtain ⟨hk2, hg2, c2, z2⟩ := HU.out w1 (HKC.out w1 hg1); have d2 : (w1.setCell ⟨b, 3, none⟩ (.int .i64 ((u : Int) + 1))).cell? ⟨b, 3, none⟩ = some (.int .i64 ((u : Int) + 1)) := World.cell?_setCell_same _ _ _ c2; have HK2 := Lib.hid hk2; have HG2 := Lib.hid ((hg1.mono (fun _ h => h.elim)).trans hg2 (fun _ h => .inl h)); clear hg1 hk2 hg2)
    | (go_at_call 15; refine (C2.out _ HK2.out).mono ?_; rintro e w2 ⟨rfl, hg3⟩; have HK3 := Lib.hid (HK2.out.chg hg3 (fun h => h) (Other.none _ _) (Other.none _ _)); have HG3 := Lib.hid hg3; clear hg3))
  go_ret2
  exact ⟨rfl, HK3.out, HG2.out.trans HG3.out (fun _ h => h.elim)⟩
set_option maxRecDepth 100000 in
theorem rSign1_spent (w : World) (b : Nat) (seed text : ByteArray) (h u : Nat) (hh : h ≤ 4) (hu : u = 2 ^ h) (hk : RKey w b seed h u) :
    Calls Try.prog 24 #[.pointer (some ⟨b, 0, none⟩), .string text] w fun e w' => e = .returned (.tuple #[.string nilS, .int .i64 8]) ∧ Chg (fun _ => False) w w' := by
  have h16 := (two_pow_small h hh).1
  have hp : ((2 : Int) ^ h) = ((2 ^ h : Nat) : Int) := by simp
  have C1 := Lib.hid (rLeft_calls w b seed h u hh (by omega) (by omega) hk)
  rw [hp, hu, Int.sub_self] at C1
  clear hk hu hp
  go_enter Try.func24, Try.ntmps24
  go_wp2_with (go_at_call 25; refine (C1.out).mono ?_; rintro e w1 ⟨rfl, hg1⟩; have HG := Lib.hid hg1; clear hg1)
  go_ret2
  exact ⟨rfl, HG.out⟩
end Go.Proofs.Ytpdgkgdaaapngaa
