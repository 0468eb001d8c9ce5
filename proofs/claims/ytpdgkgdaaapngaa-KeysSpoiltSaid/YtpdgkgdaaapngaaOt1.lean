/- One-time signatures: going along a chain; both packages. -/
import Derived.Test.YtpdgkgdaaapngaaOt0
namespace Go.Proofs.Ytpdgkgdaaapngaa
open Go.RowKit
theorem bulk4 (n i k : Int) (x : ByteArray) (h : x.size = 16) : 1 + bulk [strN n 2, strN i 1, strN k 1, x] ≤ 140737488355200 := by
  simp only [bulk, List.map_cons, List.map_nil, List.sum_cons, List.sum_nil, strN_size]
  omega
set_option maxRecDepth 100000 in
set_option maxHeartbeats 1000000 in
theorem chain_calls (w : World) (n i f t : Int) (x : ByteArray) (hx : x.size = 16) (h0 : 0 ≤ n) (h1 : n ≤ 65535) (i0 : 0 ≤ i) (i1 : i ≤ 65535) (f0 : 0 ≤ f) (ft : f ≤ t) (t1 : t ≤ 65535) :
    Calls Try.prog 51 #[.int .i64 n, .int .i64 i, .int .i64 f, .int .i64 t, .string x] w fun e w' => e = .returned (.string (chainF n i f x (t - f).toNat)) ∧ Chg (fun _ => False) w w' := by
  have HX := Lib.hid hx
  clear hx
  go_enter Try.func51, Try.ntmps51
  go_wp2_with fail
  go_loopw [4, 11] (fun v k wx => ∃ (c : Nat), (c : Int) ≤ t - f ∧ k = .int .i64 (f + c) ∧ v = .string (chainF n i f x c) ∧ Chg (fun _ => False) w wx) (fun _ k _ => (t - intOf k).toNat)
  case atStart => exact ⟨0, by omega, by simp, rfl, Chg.refl _ _⟩
  case round =>
    obtain ⟨c, hc, rfl, rfl, hg⟩ := hrel
    have HG := Lib.hid hg
    clear hg
    by_cases hlt : f + c < t
    · have HB := Lib.hid (bulk4 n i (f + c) (chainF n i f x c) (chainF_size _ _ _ _ HX.out _))
      have hsz := tagF_size 33 [strN n 2, strN i 1, strN (f + c) 1, chainF n i f x c]
      go_wp2_with (first
        | (go_at_call 86; refine (two_calls _ _ h0 h1).mono ?_; rintro e w1 ⟨rfl, hg⟩; have H1 := Lib.hid hg; clear hg)
        | (go_at_call 87; refine (one_calls _ i i0 i1).mono ?_; rintro e w2 ⟨rfl, hg⟩; have H2 := Lib.hid hg; clear hg)
        | (go_at_call 87; refine (one_calls _ (f + c) (by omega) (by omega)).mono ?_; rintro e w3 ⟨rfl, hg⟩; have H3 := Lib.hid hg; clear hg)
        | (go_at_call 28; (refine (Tag_calls _ 33 (by decide) _ 4 4 [strN n 2, strN i 1, strN (f + c) 1, chainF n i f x c] (strsNew _ _ (by simp)) rfl HB.out).mono ?_; rintro e w4 ⟨rfl, hg⟩; have H4 := Lib.hid hg; clear hg)))
      exact ⟨⟨c + 1, by omega, by go_num, rfl, (((((HG.out.trans H1.out (fun _ h => .inl h)).trans H2.out (fun _ h => .inl h)).trans H3.out (fun _ h => .inl h)).alloc _).trans H4.out (fun _ h => .inl h))⟩, by simp [intOf]; omega⟩
    · have hcc : (t - f).toNat = c := by omega
      go_wp2_with fail
      go_ret
      exact ⟨by first | rw [hcc] | (subst hcc; rfl) | rfl, HG.out⟩
end Go.Proofs.Ytpdgkgdaaapngaa
