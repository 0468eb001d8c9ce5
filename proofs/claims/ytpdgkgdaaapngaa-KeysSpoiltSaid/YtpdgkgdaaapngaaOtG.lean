/- One-time signatures: the reference's Public, Sign, Recover. -/
import Derived.Test.YtpdgkgdaaapngaaOtF
import Derived.Test.YtpdgkgdaaapngaaOt8
import Derived.Test.YtpdgkgdaaapngaaOt3
namespace Go.Proofs.Ytpdgkgdaaapngaa
open Go.RowKit
theorem catStr (g : Nat → ByteArray) (c : Nat) : strOf (catL g c) ++ g c = strOf (catL g (c + 1)) := by
  apply ByteArray.ext
  show (strOf (catL g c) ++ g c).data = _
  rw [ByteArray.data_append]
  simp [strOf, catL]
/-- What the loops put together, step by step, the sizes beside. -/
structure Cats (g : Nat → ByteArray) (L : Nat → List UInt8) : Prop where
  zero : strOf (L 0) = ⟨#[]⟩
  step : ∀ c, strOf (L c) ++ g c = strOf (L (c + 1))
  size : ∀ c, c ≤ 18 → (strOf (L c)).size = 16 * c
  one : ∀ c, c < 18 → (g c).size = 16
  all : catF g = strOf (L 18)
theorem cats (g : Nat → ByteArray) (hg : ∀ i, i < 18 → (g i).size = 16) : ∃ L, Cats g L :=
  ⟨catL g, rfl, catStr g, fun c hc => by rw [strOf_size, catL_len g c (fun i hi => hg i (by omega))], hg, rfl⟩
theorem pubG_eq (seed : ByteArray) (n : Int) (c : Nat) : chainF n c 0 (secretF seed n c) (15 - 0 : Int).toNat = pubG seed n c := by
  rw [pubG, show (15 - 0 : Int).toNat = 15 from by decide]
set_option maxRecDepth 100000 in
set_option maxHeartbeats 1000000 in
theorem rPublic_calls (w : World) (seed : ByteArray) (n : Int) (hs : seed.size ≤ 140737488351232) :
    Calls Try.prog 33 #[.string seed, .int .i64 n] w fun e w' => e = .returned (.tuple #[.string (pubF seed n), .int .i64 (fitE n)]) ∧ Chg (fun _ => False) w w' := by
  have HS := Lib.hid hs
  clear hs
  by_cases hn : 0 ≤ n ∧ n ≤ 65535
  · obtain ⟨L, hL⟩ := cats (pubG seed n) (fun i _ => pubG_size seed n i)
    have hp : pubF seed n = tagF 35 [strOf (L 18)] := by rw [← hL.all]; exact if_pos hn
    have hE := fitE_in hn
    obtain ⟨h0, h1⟩ := hn
    rw [hp, hE]
    have HB := Lib.hid (bulk35 (strOf (L 18)) (hL.size 18 (by omega)))
    have HL := Lib.hid hL
    clear hL hp hE
    go_enter Try.func33, Try.ntmps33
    go_wp2_with fail
    go_loopw [6, 7] (fun s k wx => ∃ c : Nat, c ≤ 18 ∧ k = .int .i64 c ∧ s = .string (strOf (L c)) ∧ HD (Chg (fun _ => False) w wx)) (fun _ k _ => 18 - (intOf k).toNat)
    case atStart => exact ⟨0, by omega, rfl, by rw [HL.out.zero], ⟨Chg.refl _ _⟩⟩
    case round =>
      obtain ⟨c, hc, rfl, rfl, HN⟩ := hrel
      obtain ⟨w2, rfl⟩ : ∃ w2, w2 = wr := ⟨_, rfl⟩
      by_cases hlt : c < 18
      · have HC := Lib.hid (HL.out.step c)
        have hyx := HL.out.size c hc
        have hxx := HL.out.one c hlt
        obtain ⟨x, hx⟩ : ∃ x, pubG seed n c = x := ⟨_, rfl⟩
        obtain ⟨y, hy⟩ : ∃ y, strOf (L c) = y := ⟨_, rfl⟩
        obtain ⟨z, hz⟩ : ∃ z, strOf (L (c + 1)) = z := ⟨_, rfl⟩
        rw [hx, hy, hz] at HC
        rw [hy] at hyx ⊢
        rw [hx] at hxx
        have hxy : ¬ 9223372036854775807 < y.size + x.size := by omega
        have HZ := Lib.hid hz
        clear hz hy hyx hxx
        go_wp2_with (first
          | (go_at_call 57; refine (rsecret_calls _ seed n c HS.out h0 h1 (by omega) (by omega)).mono ?_; rintro e w3 ⟨rfl, hg⟩; have G1 := Lib.hid hg; clear hg)
          | (go_at_call 54; refine (links_calls _ n c 0 15 (secretF seed n c) (secretF_size _ _ _) h0 h1 (by omega) (by omega) (by decide) (by decide) (by decide)).mono ?_; rintro e w4 ⟨rfl, hg⟩; rw [pubG_eq, hx]; clear hx; have G2 := Lib.hid hg; clear hg))
        exact ⟨⟨c + 1, by omega, by go_num, by rw [HZ.out, ← HC.out], ⟨(HN.out.trans G1.out (fun _ h => .inl h)).trans G2.out (fun _ h => .inl h)⟩⟩, by simp [intOf]; omega⟩
      · obtain rfl : c = 18 := by omega
        rw [show ((18 : Nat) : Int) = 18 from rfl]
        go_wp2_with (go_at_call 31; refine (rTag_calls _ 35 (by decide) _ 1 1 [strOf (L 18)] (strsAt (by simp) (by simp)) rfl HB.out).mono ?_; rintro e w5 ⟨rfl, hg⟩; have G2 := Lib.hid (Chg.un hg); clear hg)
        go_ret2
        exact ⟨rfl, HN.out.trans G2.out (fun _ h => .inl h)⟩
  · have hp : pubF seed n = nilS := if_neg hn
    have hE := fitE_out hn
    rw [hp, hE]
    by_cases h0 : n < 0
    · go_enter Try.func33, Try.ntmps33
      go_wp2_with fail
      go_ret2
      exact ⟨rfl, Chg.refl _ _⟩
    · have h1 : 65535 < n := by omega
      go_enter Try.func33, Try.ntmps33
      go_wp2_with fail
      go_ret2
      exact ⟨rfl, Chg.refl _ _⟩
set_option maxRecDepth 100000 in
set_option maxHeartbeats 1000000 in
theorem rSign_calls (w : World) (seed text : ByteArray) (n : Int) (hs : seed.size ≤ 140737488351232) (ht : text.size ≤ 140737488351232) :
    Calls Try.prog 34 #[.string seed, .int .i64 n, .string text] w fun e w' => e = .returned (.tuple #[.string (sigF seed n text), .int .i64 (fitE n)]) ∧ Chg (fun _ => False) w w' := by
  have HS := Lib.hid hs
  have HX := Lib.hid ht
  clear hs ht
  by_cases hn : 0 ≤ n ∧ n ≤ 65535
  · obtain ⟨L, hL⟩ := cats (sigG seed n (digF text)) (fun i _ => sigG_size seed n _ i)
    have hp : sigF seed n text = strOf (L 18) := by rw [← hL.all]; exact if_pos hn
    have hE := fitE_in hn
    obtain ⟨h0, h1⟩ := hn
    rw [hp, hE]
    have HL := Lib.hid hL
    clear hL hp hE
    go_enter Try.func34, Try.ntmps34
    go_wp2_with (first
      | (go_at_call 53; refine (rdigits_calls _ text HX.out).mono ?_; rintro e w1 ⟨rfl, hg⟩; have G0 := Lib.hid hg; have HT := Lib.hid (dThere w1 _ (digF_len text)); have HI := Lib.hid (dInfo _ (digF_len text)); clear hg)
      | (refine wpList_store_mid rfl 94 (.tmp 8) (.tmp 18) rfl w1.heap.size 0 (dcells (digF text)) rfl rfl (by exact HT.out) HI.out (dcells_one _) ?_; obtain ⟨w4, hw4⟩ : ∃ w4, (w1.alloc (.cells (dcells []) 94)).setCells w1.heap.size 0 (dcells (digF text)).toList = w4 := ⟨_, rfl⟩; have HD4 := Lib.hid (dWhole w1 _ (digF_len text)); have G4 := Lib.hid (dChg w1 (digF text)); rw [hw4] at HD4 G4; change wpList _ _ _ _ _ ((w1.alloc (.cells (dcells []) 94)).setCells w1.heap.size 0 (dcells (digF text)).toList); rw [hw4]; have G5 := Lib.hid (G0.out.trans G4.out (fun _ h => .inl h)); clear hw4))
    obtain ⟨D, hD⟩ : ∃ D, w1.heap.size = D := ⟨_, rfl⟩
    rw [hD] at HD4 ⊢
    clear HT G4 hD
    go_loopw [9, 10] (fun s k wx => ∃ c : Nat, c ≤ 18 ∧ k = .int .i64 c ∧ s = .string (strOf (L c)) ∧ HD (Chg (fun _ => False) w4 wx)) (fun _ k _ => 18 - (intOf k).toNat)
    case atStart => exact ⟨0, by omega, rfl, by rw [HL.out.zero], ⟨Chg.refl _ _⟩⟩
    case round =>
      obtain ⟨c, hc, rfl, rfl, HN⟩ := hrel
      obtain ⟨w2, rfl⟩ : ∃ w2, w2 = wr := ⟨_, rfl⟩
      by_cases hlt : c < 18
      · have HC := Lib.hid (HL.out.step c)
        have hyx := HL.out.size c hc
        have hxx := HL.out.one c hlt
        obtain ⟨x, hx⟩ : ∃ x, sigG seed n (digF text) c = x := ⟨_, rfl⟩
        obtain ⟨y, hy⟩ : ∃ y, strOf (L c) = y := ⟨_, rfl⟩
        obtain ⟨z, hz⟩ : ∃ z, strOf (L (c + 1)) = z := ⟨_, rfl⟩
        rw [hx, hy, hz] at HC
        rw [hy] at hyx ⊢
        rw [hx] at hxx
        have hxy : ¬ 9223372036854775807 < y.size + x.size := by omega
        have HZ := Lib.hid hz
        clear hz hy hyx hxx
        have hd := digF_range text c
        have d0 := dAt (HN.out.obj HD4.out (fun h => h)) c (by rw [digF_len]; exact hlt)
        obtain ⟨d, he⟩ : ∃ d, (digF text).getD c 0 = d := ⟨_, rfl⟩
        have hx2 : chainF n c 0 (secretF seed n c) (d - 0).toNat = x := by rw [← hx, sigG, he, Int.sub_zero]
        rw [he] at d0 hd
        clear hx he
        have hi18 : (c : Int) < 18 := by omega
        have hi0 : (0 : Int) ≤ c := by omega
        have ht0 : (c : Int).toNat = c := by omega
        go_wp2_with fail
        go_region_held3 (fun w' => w'.cell? ⟨D, c, none⟩ = some (.int .i64 d)) (first | go_keep | exact m2 | exact m1 | exact d0) (first
          | (go_at_call 57; refine (rsecret_calls _ seed n c HS.out h0 h1 (by omega) (by omega)).mono ?_; rintro e w3 ⟨rfl, hg⟩; replace hg := Chg.und hg; have G1 := Lib.hid hg; have m1 := cellChg d0 hg (fun h => h); clear hg)
          | (go_at_call 54; refine (links_calls _ n c 0 d (secretF seed n c) (secretF_size _ _ _) h0 h1 (by omega) (by omega) (by decide) (by omega) (by omega)).mono ?_; rintro e w6 ⟨rfl, hg⟩; rw [hx2]; have G2 := Lib.hid hg; have m2 := cellChg m1 hg (fun h => h); clear hg))
        clear hx2
        go_wp2_with fail
        exact ⟨⟨c + 1, by omega, by go_num, by rw [HZ.out, ← HC.out], ⟨(HN.out.trans G1.out (fun _ h => .inl h)).trans G2.out (fun _ h => .inl h)⟩⟩, by simp [intOf]; omega⟩
      · obtain rfl : c = 18 := by omega
        rw [show ((18 : Nat) : Int) = 18 from rfl]
        go_wp2_with fail
        go_ret2
        exact ⟨rfl, G5.out.trans HN.out (fun _ h => .inl h)⟩
  · have hp : sigF seed n text = nilS := if_neg hn
    have hE := fitE_out hn
    rw [hp, hE]
    by_cases h0 : n < 0
    · go_enter Try.func34, Try.ntmps34
      go_wp2_with fail
      go_ret2
      exact ⟨rfl, Chg.refl _ _⟩
    · have h1 : 65535 < n := by omega
      go_enter Try.func34, Try.ntmps34
      go_wp2_with fail
      go_ret2
      exact ⟨rfl, Chg.refl _ _⟩
set_option maxRecDepth 100000 in
set_option maxHeartbeats 1000000 in
theorem rRecover_calls (w : World) (text sig : ByteArray) (n : Int) (ht : text.size ≤ 140737488351232) (_hs : sig.size ≤ 140737488355328) :
    Calls Try.prog 30 #[.int .i64 n, .string text, .string sig] w fun e w' => e = .returned (.tuple #[.string (recF n text sig), .int .i64 (recE n sig)]) ∧ Chg (fun _ => False) w w' := by
  have HX := Lib.hid ht
  clear ht
  by_cases hn : 0 ≤ n ∧ n ≤ 65535
  · by_cases hz : sig.size = 288
    · obtain ⟨L, hL⟩ := cats (recG n (digF text) sig) (recG_size n _ sig hz)
      have hp : recF n text sig = tagF 35 [strOf (L 18)] := by rw [← hL.all]; exact if_pos ⟨hn.1, hn.2, hz⟩
      have he : recE n sig = 0 := by rw [recE, if_pos hn, if_pos hz]
      obtain ⟨h0, h1⟩ := hn
      rw [hp, he]
      have HB := Lib.hid (bulk35 (strOf (L 18)) (hL.size 18 (by omega)))
      have HL := Lib.hid hL
      clear hL hp he
      go_enter Try.func30, Try.ntmps30
      go_wp2_with (first
        | (go_at_call 53; refine (rdigits_calls _ text HX.out).mono ?_; rintro e w1 ⟨rfl, hg⟩; have G0 := Lib.hid hg; have HT := Lib.hid (dThere w1 _ (digF_len text)); have HI := Lib.hid (dInfo _ (digF_len text)); clear hg)
        | (refine wpList_store_mid rfl 94 (.tmp 8) (.tmp 21) rfl w1.heap.size 0 (dcells (digF text)) rfl rfl (by exact HT.out) HI.out (dcells_one _) ?_; obtain ⟨w4, hw4⟩ : ∃ w4, (w1.alloc (.cells (dcells []) 94)).setCells w1.heap.size 0 (dcells (digF text)).toList = w4 := ⟨_, rfl⟩; have HD4 := Lib.hid (dWhole w1 _ (digF_len text)); have G4 := Lib.hid (dChg w1 (digF text)); rw [hw4] at HD4 G4; change wpList _ _ _ _ _ ((w1.alloc (.cells (dcells []) 94)).setCells w1.heap.size 0 (dcells (digF text)).toList); rw [hw4]; have G5 := Lib.hid (G0.out.trans G4.out (fun _ h => .inl h)); clear hw4))
      obtain ⟨D, hD⟩ : ∃ D, w1.heap.size = D := ⟨_, rfl⟩
      rw [hD] at HD4 ⊢
      clear HT G4 hD
      go_loopw [9, 10] (fun s k wx => ∃ c : Nat, c ≤ 18 ∧ k = .int .i64 c ∧ s = .string (strOf (L c)) ∧ HD (Chg (fun _ => False) w4 wx)) (fun _ k _ => 18 - (intOf k).toNat)
      case atStart => exact ⟨0, by omega, rfl, by rw [HL.out.zero], ⟨Chg.refl _ _⟩⟩
      case round =>
        obtain ⟨c, hc, rfl, rfl, HN⟩ := hrel
        obtain ⟨w2, rfl⟩ : ∃ w2, w2 = wr := ⟨_, rfl⟩
        by_cases hlt : c < 18
        · have HC := Lib.hid (HL.out.step c)
          have hyx := HL.out.size c hc
          have hxx := HL.out.one c hlt
          obtain ⟨x, hx⟩ : ∃ x, recG n (digF text) sig c = x := ⟨_, rfl⟩
          obtain ⟨y, hy⟩ : ∃ y, strOf (L c) = y := ⟨_, rfl⟩
          obtain ⟨z, hz⟩ : ∃ z, strOf (L (c + 1)) = z := ⟨_, rfl⟩
          rw [hx, hy, hz] at HC
          rw [hy] at hyx ⊢
          rw [hx] at hxx
          have hxy : ¬ 9223372036854775807 < y.size + x.size := by omega
          have HZ := Lib.hid hz
          clear hz hy hyx hxx
          have hd := digF_range text c
          have d0 := dAt (HN.out.obj HD4.out (fun h => h)) c (by rw [digF_len]; exact hlt)
          obtain ⟨d, he⟩ : ∃ d, (digF text).getD c 0 = d := ⟨_, rfl⟩
          have hx2 : chainF n c d (sig.extract (16 * c) (16 * c + 16)) (15 - d).toNat = x := by rw [← hx, recG, he]
          have HSX : Hid ((sig.extract (16 * c) (16 * c + 16)).size = 16) := Lib.hid (by rw [ByteArray.size_extract]; omega)
          rw [he] at d0 hd
          clear hx he
          have hi18 : (c : Int) < 18 := by omega
          have hi0 : (0 : Int) ≤ c := by omega
          have ht0 : (c : Int).toNat = c := by omega
          have k0 : IntKind.i64.wrap (16 * (c : Int)) = 16 * (c : Int) := IntWalk.i64_in _ (by omega)
          have k1 : IntKind.i64.wrap (16 * (c : Int) + 16) = 16 * (c : Int) + 16 := IntWalk.i64_in _ (by omega)
          have t0 : (16 * (c : Int)).toNat = 16 * c := by omega
          have t1 : (16 * (c : Int) + 16).toNat = 16 * c + 16 := by omega
          have q0 : (0 : Int) ≤ 16 * (c : Int) := by omega
          have q1 : 16 * (c : Int) ≤ 16 * (c : Int) + 16 := by omega
          have q2 : 16 * (c : Int) + 16 ≤ 288 := by omega
          have q3 : (0 : Int) ≤ 16 * (c : Int) + 16 := by omega
          go_wp2_with fail
          go_region_held3 (fun w' => w'.cell? ⟨D, c, none⟩ = some (.int .i64 d)) (first | go_keep | exact m1 | exact d0) (first
            | (go_at_call 54; refine (links_calls _ n c d 15 (sig.extract (16 * c) (16 * c + 16)) HSX.out h0 h1 (by omega) (by omega) (by omega) (by omega) (by decide)).mono ?_; rintro e w6 ⟨rfl, hg⟩; rw [hx2]; replace hg := Chg.und hg; have G2 := Lib.hid hg; have m1 := cellChg d0 hg (fun h => h); clear hg))
          clear hx2 k0 k1
          go_wp2_with fail
          exact ⟨⟨c + 1, by omega, by go_num, by rw [HZ.out, ← HC.out], ⟨HN.out.trans G2.out (fun _ h => .inl h)⟩⟩, by simp [intOf]; omega⟩
        · obtain rfl : c = 18 := by omega
          rw [show ((18 : Nat) : Int) = 18 from rfl]
          go_wp2_with (go_at_call 31; refine (rTag_calls _ 35 (by decide) _ 1 1 [strOf (L 18)] (strsAt (by simp) (by simp)) rfl HB.out).mono ?_; rintro e w5 ⟨rfl, hg⟩; have G2 := Lib.hid (Chg.un hg); clear hg)
          go_ret2
          exact ⟨rfl, (G5.out.trans HN.out (fun _ h => .inl h)).trans G2.out (fun _ h => .inl h)⟩
    · have hp : recF n text sig = nilS := if_neg (fun h => hz h.2.2)
      have he : recE n sig = 3 := by rw [recE, if_pos hn, if_neg hz]
      rw [hp, he]
      have hzi : ¬ (sig.size : Int) = 288 := by omega
      obtain ⟨h0, h1⟩ := hn
      go_enter Try.func30, Try.ntmps30
      go_wp2_with fail
      go_ret2
      exact ⟨rfl, Chg.refl _ _⟩
  · have hp : recF n text sig = nilS := if_neg (fun h => hn ⟨h.1, h.2.1⟩)
    have he : recE n sig = 1 := if_neg hn
    rw [hp, he]
    by_cases h0 : n < 0
    · go_enter Try.func30, Try.ntmps30
      go_wp2_with fail
      go_ret2
      exact ⟨rfl, Chg.refl _ _⟩
    · have h1 : 65535 < n := by omega
      go_enter Try.func30, Try.ntmps30
      go_wp2_with fail
      go_ret2
      exact ⟨rfl, Chg.refl _ _⟩
end Go.Proofs.Ytpdgkgdaaapngaa
