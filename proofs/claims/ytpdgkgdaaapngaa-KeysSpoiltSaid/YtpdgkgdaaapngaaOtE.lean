/- One-time signatures: the closures of Public, Sign and Recover. -/
import Derived.Test.YtpdgkgdaaapngaaOt1
import Derived.Test.YtpdgkgdaaapngaaOtD
import Derived.Deep.RegionHeld3
namespace Go.Proofs.Ytpdgkgdaaapngaa
open Go.RowKit
def pubG (seed : ByteArray) (n : Int) (i : Nat) : ByteArray := chainF n i 0 (secretF seed n i) 15
def sigG (seed : ByteArray) (n : Int) (ds : List Int) (i : Nat) : ByteArray := chainF n i 0 (secretF seed n i) (ds.getD i 0).toNat
def recG (n : Int) (ds : List Int) (sig : ByteArray) (i : Nat) : ByteArray := chainF n i (ds.getD i 0) (sig.extract (16 * i) (16 * i + 16)) (15 - ds.getD i 0).toNat
theorem pubG_size (seed : ByteArray) (n : Int) (i : Nat) : (pubG seed n i).size = 16 := chainF_size _ _ _ _ (secretF_size _ _ _) _
theorem sigG_size (seed : ByteArray) (n : Int) (ds : List Int) (i : Nat) : (sigG seed n ds i).size = 16 := chainF_size _ _ _ _ (secretF_size _ _ _) _
set_option maxRecDepth 100000 in
set_option maxHeartbeats 1000000 in
theorem pub1_calls (w : World) (seed : ByteArray) (n : Int) (b1 b2 i : Nat) (hs : seed.size ≤ 140737488351232) (h0 : 0 ≤ n) (h1 : n ≤ 65535) (hi : i < 18)
    (c1 : w.cell? ⟨b1, 0, none⟩ = some (.int .i64 n)) (c2 : w.cell? ⟨b2, 0, none⟩ = some (.string seed)) :
    Calls Try.prog 99 #[.int .i64 i, .pointer (some ⟨b1, 0, none⟩), .pointer (some ⟨b2, 0, none⟩)] w fun e w' => e = .returned (.string (pubG seed n i)) ∧ Chg (fun _ => False) w w' := by
  have HS := Lib.hid hs
  clear hs
  go_enter Try.func99, Try.ntmps99
  go_wp2_with fail
  go_region_held3 (fun w' => w'.cell? ⟨b1, 0, none⟩ = some (.int .i64 n) ∧ w'.cell? ⟨b2, 0, none⟩ = some (.string seed)) (first | go_keep | exact ⟨m1, m2⟩ | exact ⟨k1, k2⟩ | exact ⟨c1, c2⟩) (first
    | (go_at_call 96; refine (secret_calls _ seed n i HS.out h0 h1 (by omega) (by omega)).mono ?_; rintro e w1 ⟨rfl, hg⟩; replace hg := Chg.und hg; have G1 := Lib.hid hg; have k1 := cellChg c1 hg (fun h => h); have k2 := cellChg c2 hg (fun h => h); clear hg)
    | (go_at_call 51; refine (chain_calls _ n i 0 15 (secretF seed n i) (secretF_size _ _ _) h0 h1 (by omega) (by omega) (by decide) (by decide) (by decide)).mono ?_; rintro e w2 ⟨rfl, hg⟩; have G2 := Lib.hid hg; have m1 := cellChg k1 hg (fun h => h); have m2 := cellChg k2 hg (fun h => h); clear hg))
  go_wp2_with fail
  go_ret
  exact ⟨rfl, G1.out.trans G2.out (fun _ h => h.elim)⟩
set_option maxRecDepth 100000 in
set_option maxHeartbeats 1000000 in
theorem sig1_calls (w : World) (seed : ByteArray) (n : Int) (ds : List Int) (b1 b2 b3 i : Nat) (hs : seed.size ≤ 140737488351232) (h0 : 0 ≤ n) (h1 : n ≤ 65535) (hi : i < 18) (hd : 0 ≤ ds.getD i 0 ∧ ds.getD i 0 ≤ 15)
    (c1 : w.cell? ⟨b1, 0, none⟩ = some (.int .i64 n)) (c2 : w.cell? ⟨b2, i, none⟩ = some (.int .i64 (ds.getD i 0))) (c3 : w.cell? ⟨b3, 0, none⟩ = some (.string seed)) :
    Calls Try.prog 95 #[.int .i64 i, .pointer (some ⟨b1, 0, none⟩), .pointer (some ⟨b2, 0, none⟩), .pointer (some ⟨b3, 0, none⟩)] w fun e w' => e = .returned (.string (sigG seed n ds i)) ∧ Chg (fun _ => False) w w' := by
  have HS := Lib.hid hs
  obtain ⟨d, e0⟩ : ∃ d, ds.getD i 0 = d := ⟨_, rfl⟩
  have hsg : sigG seed n ds i = chainF n i 0 (secretF seed n i) d.toNat := by rw [sigG, e0]
  rw [hsg]
  rw [e0] at hd c2
  clear hs hsg e0
  have hi18 : (i : Int) < 18 := by omega
  have hi0 : (0 : Int) ≤ i := by omega
  have ht0 : (i : Int).toNat = i := by omega
  go_enter Try.func95, Try.ntmps95
  go_wp2_with fail
  go_region_held3 (fun w' => w'.cell? ⟨b1, 0, none⟩ = some (.int .i64 n) ∧ w'.cell? ⟨b2, i, none⟩ = some (.int .i64 d) ∧ w'.cell? ⟨b3, 0, none⟩ = some (.string seed)) (first | go_keep | exact ⟨m1, m2, m3⟩ | exact ⟨k1, k2, k3⟩ | exact ⟨c1, c2, c3⟩) (first
    | (go_at_call 96; refine (secret_calls _ seed n i HS.out h0 h1 (by omega) (by omega)).mono ?_; rintro e w1 ⟨rfl, hg⟩; replace hg := Chg.und hg; have G1 := Lib.hid hg; have k1 := cellChg c1 hg (fun h => h); have k2 := cellChg c2 hg (fun h => h); have k3 := cellChg c3 hg (fun h => h); clear hg)
    | (go_at_call 51; refine (chain_calls _ n i 0 d (secretF seed n i) (secretF_size _ _ _) h0 h1 (by omega) (by omega) (by decide) (by omega) (by omega)).mono ?_; rintro e w2 ⟨rfl, hg⟩; have G2 := Lib.hid hg; have m1 := cellChg k1 hg (fun h => h); have m2 := cellChg k2 hg (fun h => h); have m3 := cellChg k3 hg (fun h => h); clear hg))
  go_wp2_with fail
  go_ret
  exact ⟨rfl, G1.out.trans G2.out (fun _ h => h.elim)⟩
set_option maxRecDepth 100000 in
set_option maxHeartbeats 1000000 in
theorem rec1_calls (w : World) (sig : ByteArray) (n : Int) (ds : List Int) (b1 b2 b3 i : Nat) (hs : sig.size = 288) (h0 : 0 ≤ n) (h1 : n ≤ 65535) (hi : i < 18) (hd : 0 ≤ ds.getD i 0 ∧ ds.getD i 0 ≤ 15)
    (c1 : w.cell? ⟨b1, 0, none⟩ = some (.int .i64 n)) (c2 : w.cell? ⟨b2, i, none⟩ = some (.int .i64 (ds.getD i 0))) (c3 : w.cell? ⟨b3, 0, none⟩ = some (.string sig)) :
    Calls Try.prog 50 #[.int .i64 i, .pointer (some ⟨b1, 0, none⟩), .pointer (some ⟨b2, 0, none⟩), .pointer (some ⟨b3, 0, none⟩)] w fun e w' => e = .returned (.string (recG n ds sig i)) ∧ Chg (fun _ => False) w w' := by
  obtain ⟨d, e0⟩ : ∃ d, ds.getD i 0 = d := ⟨_, rfl⟩
  have hsx : (sig.extract (16 * i) (16 * i + 16)).size = 16 := by rw [ByteArray.size_extract]; omega
  have HSX := Lib.hid hsx
  have hsg : recG n ds sig i = chainF n i d (sig.extract (16 * i) (16 * i + 16)) (15 - d).toNat := by rw [recG, e0]
  rw [hsg]
  rw [e0] at hd c2
  clear hsg e0 hsx
  have hi18 : (i : Int) < 18 := by omega
  have hi0 : (0 : Int) ≤ i := by omega
  have ht0 : (i : Int).toNat = i := by omega
  have k0 : IntKind.i64.wrap (16 * (i : Int)) = 16 * (i : Int) := IntWalk.i64_in _ (by omega)
  have k1 : IntKind.i64.wrap (16 * (i : Int) + 16) = 16 * (i : Int) + 16 := IntWalk.i64_in _ (by omega)
  have t0 : (16 * (i : Int)).toNat = 16 * i := by omega
  have t1 : (16 * (i : Int) + 16).toNat = 16 * i + 16 := by omega
  have q0 : (0 : Int) ≤ 16 * (i : Int) := by omega
  have q1 : 16 * (i : Int) ≤ 16 * (i : Int) + 16 := by omega
  have q2 : 16 * (i : Int) + 16 ≤ 288 := by omega
  have q3 : (0 : Int) ≤ 16 * (i : Int) + 16 := by omega
  go_enter Try.func50, Try.ntmps50
  go_wp2_with fail
  go_region_held3 (fun w' => w'.cell? ⟨b1, 0, none⟩ = some (.int .i64 n) ∧ w'.cell? ⟨b2, i, none⟩ = some (.int .i64 d) ∧ w'.cell? ⟨b3, 0, none⟩ = some (.string sig)) (first | go_keep | exact ⟨m1, m2, m3⟩ | exact ⟨c1, c2, c3⟩) (first
    | (go_at_call 51; refine (chain_calls _ n i d 15 (sig.extract (16 * i) (16 * i + 16)) HSX.out h0 h1 (by omega) (by omega) (by omega) (by omega) (by decide)).mono ?_; rintro e w2 ⟨rfl, hg⟩; replace hg := Chg.und hg; have G2 := Lib.hid hg; have m1 := cellChg c1 hg (fun h => h); have m2 := cellChg c2 hg (fun h => h); have m3 := cellChg c3 hg (fun h => h); clear hg))
  go_wp2_with fail
  go_ret
  exact ⟨rfl, G2.out⟩
end Go.Proofs.Ytpdgkgdaaapngaa
