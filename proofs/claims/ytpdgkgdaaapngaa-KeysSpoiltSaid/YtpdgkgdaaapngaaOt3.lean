/- One-time signatures: the reference's links. -/
import Derived.Test.YtpdgkgdaaapngaaOt2
namespace Go.Proofs.Ytpdgkgdaaapngaa
open Go.RowKit
set_option maxRecDepth 100000 in
set_option maxHeartbeats 8000000 in
theorem links_calls (w : World) (n i f t : Int) (x : ByteArray) (hx : x.size = 16) (h0 : 0 ≤ n) (h1 : n ≤ 65535) (_i0 : 0 ≤ i) (_i1 : i ≤ 65535) (f0 : 0 ≤ f) (ft : f ≤ t) (t1 : t ≤ 65535) :
    Calls Try.prog 54 #[.int .i64 n, .int .i64 i, .int .i64 f, .int .i64 t, .string x] w fun e w' => e = .returned (.string (chainF n i f x (t - f).toNat)) ∧ Chg (fun _ => False) w w' := by
  have HX := Lib.hid hx
  clear hx
  go_enter Try.func54, Try.ntmps54
  go_wp2_with fail
  go_loopw [4, 11] (fun v k wx => ∃ (c : Nat), (c : Int) ≤ t - f ∧ k = .int .i64 (f + c) ∧ v = .string (chainF n i f x c) ∧ Chg (fun _ => False) w wx) (fun _ k _ => (t - intOf k).toNat)
  case atStart => exact ⟨0, by omega, by simp, rfl, Chg.refl _ _⟩
  case round =>
    obtain ⟨c, hc, rfl, rfl, hg⟩ := hrel
    have HG := Lib.hid hg
    clear hg
    by_cases hlt : f + c < t
    · have HB := Lib.hid (bulk4 n i (f + c) (chainF n i f x c) (chainF_size _ _ _ _ HX.out _))
      have hsz := tagF_size 33 [strN n 2, strN i 1, strN (f + c) 1, chainF n i f x c]
      have hu := u64_same n h0 h1
      have hi8 := u8_wrap i
      have hk8 := u8_wrap (f + c)
      have i1' := c0 i
      have i2 := c0d i
      have i3 := c1 i
      have i4 := c1d i
      have j1 := c0 (f + c)
      have j2 := c0d (f + c)
      have j3 := c1 (f + c)
      have j4 := c1d (f + c)
      obtain ⟨w2, rfl⟩ : ∃ w2, w2 = wr := ⟨_, rfl⟩
      have hlt' := hlt
      have TAIL : ∀ w4, Chg (fun _ => False) w2 w4 → ∃ (c2 : Nat), (c2 : Int) ≤ t - f ∧ Value.int .i64 (f + c + 1) = .int .i64 (f + c2) ∧ Value.string (linkF n i (f + c) (chainF n i f x c)) = .string (chainF n i f x c2) ∧ Chg (fun _ => False) w w4 := fun w4 h4 => ⟨c + 1, by omega, by go_num, rfl, HG.out.trans h4 (fun _ h => .inl h)⟩
      have TT := Lib.hid TAIL
      clear TAIL
      go_wp2_with fail
      go_region_with (first
        | (go_at_call 35; refine (Num2_calls _ n 2 h0 (by decide)).mono ?_; rintro e w1 ⟨rfl, hg⟩; (first | have p1 := convD i hg | skip); (first | have p2 := convDo i hg | skip); (first | have p3 := convDD i hg | skip); (first | have p4 := convDDo i hg | skip); (first | have q1 := convD (f + c) hg | skip); (first | have q2 := convDo (f + c) hg | skip); (first | have q3 := convDD (f + c) hg | skip); (first | have q4 := convDDo (f + c) hg | skip); have H1 := Lib.hid hg; clear hg)
        | (go_at_call 31; refine (rTag_calls _ 33 (by decide) _ 4 4 [strN n 2, strN i 1, strN (f + c) 1, chainF n i f x c] (strsAt (by simp) (by simp)) rfl HB.out).mono ?_; rintro e w3 ⟨rfl, hg⟩; have H3 := Lib.hid hg; clear hg))
      all_goals go_wp2_with fail
      all_goals (have g1 := H1.out; have g3 := H3.out; repeat (first | replace g1 := Chg.un g1 | replace g1 := Chg.und g1 | replace g3 := Chg.un g3 | replace g3 := Chg.und g3))
      all_goals exact ⟨TT.out _ (g1.trans g3 (fun _ h => h.elim)), by simp [intOf]; omega⟩
    · have hcc : (t - f).toNat = c := by omega
      go_wp2_with fail
      go_ret
      exact ⟨by first | rw [hcc] | (subst hcc; rfl) | rfl, HG.out⟩
end Go.Proofs.Ytpdgkgdaaapngaa
