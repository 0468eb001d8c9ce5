/- Keys: the walk of KeysSpoilt. -/
import Derived.Test.YtpdgkgdaaapngaaKyQ
namespace Go.Proofs.Ytpdgkgdaaapngaa
open Go.RowKit
theorem bytesChg (w : World) (S : Nat → Prop) (e : TypeId) (s : ByteArray) : Chg S w (Lib.bytesWorld w e s) :=
  ⟨rfl, rfl, rfl, by rw [Lib.bytesWorld_size]; omega, fun k hk _ => Lib.bytesWorld_at_old w e s k hk⟩
/-- A text's bytes as numbers. -/
def numsOf (s : ByteArray) : List Int := s.data.toList.map fun b => (b.toNat : Int)
theorem numsOf_len (s : ByteArray) : (numsOf s).length = s.size := by
  unfold numsOf
  rw [List.length_map]
  exact Array.length_toList
theorem numsOf_get (s : ByteArray) (j : Nat) (hj : j < s.size) : (numsOf s).getD j 0 = ((s.data.toList.getD j 0).toNat : Int) := by
  have h1 : j < s.data.toList.length := by rw [Array.length_toList]; exact hj
  simp only [numsOf, List.getD_eq_getElem?_getD, List.getElem?_map, List.getElem?_eq_getElem h1, Option.map_some, Option.getD_some]
theorem numsOf_back (s : ByteArray) : strOfNums (numsOf s) = s := by
  have h : (numsOf s).map (fun n => UInt8.ofNat n.toNat) = s.data.toList := by
    rw [numsOf, List.map_map]
    exact (List.map_congr_left (fun b _ => by simp)).trans (List.map_id _)
  unfold strOfNums
  rw [h]
/-- The block g holds these numbers as bytes; none of them is shut. -/
def NumsAt (w : World) (g : Nat) (l : List Int) : Prop := ∀ j, j < l.length → w.cell? ⟨g, j, none⟩ = some (.int .u8 (l.getD j 0)) ∧ w.frozen? ⟨g, j, none⟩ = false
theorem NumsAt.new (w : World) (s : ByteArray) : NumsAt (Lib.bytesWorld w 5 s) w.heap.size (numsOf s) := fun j hj => by
  rw [numsOf_len] at hj
  refine ⟨?_, ?_⟩
  · rw [numsOf_get s j hj]
    exact Lib.bytesWorld_cell w 5 s j hj
  · have h1 : s.size ≤ (Lib.bytesCells w 5 s).size := by simp [Lib.bytesCells]
    simp [World.frozen?, Lib.bytesWorld_at_new]
    omega
theorem NumsAt.chg {S : Nat → Prop} {w w1 : World} {g : Nat} {l : List Int} (h : NumsAt w g l) (c : Chg S w w1) (hn : ¬ S g) : NumsAt w1 g l := fun j hj => by
  obtain ⟨h1, h2⟩ := h j hj
  have hb := c.block g (World.block_lt_of_cell? w _ h1) hn
  exact ⟨by rw [World.cell?_of_block (a := ⟨g, j, none⟩) hb]; exact h1, by unfold World.frozen? at h2 ⊢; rw [hb]; exact h2⟩
theorem NumsAt.free {w w1 : World} {g : Nat} {l : List Int} (h : NumsAt w g l) (c : Chg (fun _ => False) w w1) : NumsAt w1 g l := h.chg c (fun h => h)
theorem NumsAt.set {w : World} {g : Nat} {l : List Int} (h : NumsAt w g l) (i : Nat) (x : Int) : NumsAt (w.setCell ⟨g, i, none⟩ (.int .u8 x)) g (l.set i x) := fun j hj => by
  rw [List.length_set] at hj
  obtain ⟨h1, h2⟩ := h j hj
  refine ⟨?_, by rw [World.frozen?_setCell]; exact h2⟩
  by_cases hij : i = j
  · subst hij
    rw [World.cell?_setCell_same _ _ _ h1]
    simp [List.getD_eq_getElem?_getD, hj]
  · rw [World.cell?_setCell_other _ _ _ _ (fun e => hij (by injection e)), h1]
    simp only [List.getD_eq_getElem?_getD]
    rw [List.getElem?_set_ne hij]
theorem NumsAt.conv {w : World} {g : Nat} {l : List Int} (h : NumsAt w g l) (n cap : Nat) (hn : l.length = n) :
    (convert 34 9 (.slice (some ⟨g, 0, none⟩) n cap)).run Try.prog w = .ok (.string (strOfNums l)) w :=
  run_convert_bytes_arg w 34 5 Try.underlying34 Try.underlying5 g 0 n cap l hn (fun i hi => by rw [Nat.zero_add]; exact (h i (by omega)).1) 9 Try.underlying9
theorem keyId_size (seed : ByteArray) (h : Nat) : (keyId seed h).size = 32 := tagF_size _ _
theorem RKey.free {w w1 : World} {b : Nat} {seed : ByteArray} {h : Nat} {u : Int} (k : RKey w b seed h u) (c : Chg (fun _ => False) w w1) : RKey w1 b seed h u := k.chg c (fun h => h) (Other.none _ _) (Other.none _ _)
set_option maxRecDepth 100000 in
set_option maxHeartbeats 4000000 in
theorem KeysSpoilt_walk (seed : ByteArray) (height : Int) (t o : ByteArray) (N At Bits : Int) (w : World) (hs : seed.size ≤ 140737488351232) (hh : 0 ≤ height ∧ height ≤ 255) (ht : t.size ≤ 140737488351232) (ho : o.size ≤ 140737488351232)
    (hN : 0 ≤ N ∧ N ≤ 255) (hA : 0 ≤ At ∧ At ≤ 65535) :
    Calls Try.prog 4 #[.string seed, .int .u8 height, .agg #[.string t, .string o, .int .u8 N, .int .u16 At, .int .u8 Bits]] w fun e w' => e = .returned (.bool true) ∧ Chg (fun _ => False) w w' := by
  obtain ⟨h0, h1⟩ := hh
  obtain ⟨N0, N1⟩ := hN
  obtain ⟨A0, A1⟩ := hA
  obtain ⟨H, hH⟩ : ∃ H : Nat, height % 4 = (H : Int) := ⟨(height % 4).toNat, by omega⟩
  have hH3 : H ≤ 3 := by omega
  obtain ⟨P, hP⟩ : ∃ P : Nat, 2 ^ H = P := ⟨_, rfl⟩
  have hP2 := two_pow_small H (by omega)
  rw [hP] at hP2
  obtain ⟨p1, p0⟩ := hP2
  have hw := wrap_pow H P hP p1
  have HPP : Hid ((2 : Int) ^ H = (P : Int)) := Lib.hid (by rw [← hP]; simp)
  have hH0 : (0 : Int) ≤ (H : Int) := by omega
  have hH4 : (H : Int) ≤ 4 := by omega
  obtain ⟨n, hn⟩ : ∃ n : Nat, N % (P : Int) = (n : Int) := ⟨(N % (P : Int)).toNat, by have := Int.emod_nonneg N (b := (P : Int)) (by omega); omega⟩
  have hnP : n < 2 ^ H := by
    have := Int.emod_lt_of_pos N (b := (P : Int)) (by omega)
    rw [hP]
    omega
  have hPz : ¬ (P : Int) = 0 := by omega
  have hz := (sig_parts seed t H n (by omega) hnP).1
  have hv := sig_verified seed t H n (by omega) hnP
  have C2 := Lib.hid (fun w => rNew_calls w seed H hs (by omega))
  have C3 := Lib.hid (fun w b hk => rAt_calls w b seed t H n 0 hs ht (by omega) hnP hk)
  have C4 := Lib.hid (fun w b hk => rID_calls w b seed H 0 (by omega) hk)
  have C5 := Lib.hid (fun w hs => Verify_calls w (keyId seed H) t (sigK seed H n t) ht hs)
  obtain ⟨s, hs⟩ : ∃ s, sigK seed H n t = s := ⟨_, rfl⟩
  obtain ⟨I, hI⟩ : ∃ I, keyId seed H = I := ⟨_, rfl⟩
  have hIz : I.size = 32 := by rw [← hI]; exact keyId_size _ _
  rw [hs] at hz hv C3 C5
  rw [hI] at hv C4 C5
  rw [hv] at C5
  obtain ⟨Z, hZ⟩ : ∃ Z, s.size = Z := ⟨_, rfl⟩
  have hZ1 : Z ≤ 1000 := by omega
  have hZ0 : 0 < Z := by omega
  have C5' := Lib.hid (fun w => C5.out w (by omega))
  have C8 := Lib.hid (fun w => Verify_calls w I o s ho (by omega))
  have C9 := Lib.hid (fun w => rVerify_calls w I o s ho (by omega))
  obtain ⟨V2, hV2⟩ : ∃ V2, verF I o s = V2 := ⟨_, rfl⟩
  rw [hV2] at C8 C9
  clear hV2
  have kc := fun W s => Lib.run_convert_string_bytes (P := Try.prog) W 9 34 5 s Try.underlying9 Try.underlying34 Try.underlying5
  clear hP hz hv hs hI C5 hnP
  go_enter Try.func4, Try.ntmps4
  go_wp2_with fail
  obtain ⟨g, hgg⟩ : ∃ g, w.heap.size = g := ⟨_, rfl⟩
  obtain ⟨W0, hW0⟩ : ∃ W0, w.alloc (.cells #[.string t, .string o, .int .u8 N, .int .u16 At, .int .u8 Bits] 30) = W0 := ⟨_, rfl⟩
  have hob : W0.heap[g]? = some (.cells #[.string t, .string o, .int .u8 N, .int .u16 At, .int .u8 Bits] 30 (0, 0)) := by rw [← hW0, ← hgg]; exact blkAlloc w _
  have hch : Chg (fun _ => False) w W0 := by rw [← hW0]; exact (Chg.refl _ w).alloc _
  simp only [hW0, hgg]
  have CB := Lib.hid (fun (w' : World) (c : Chg (fun _ => False) W0 w') => (⟨blkCell (c.obj hob (fun h => h)) 0, blkCell (c.obj hob (fun h => h)) 1, blkCell (c.obj hob (fun h => h)) 2, blkCell (c.obj hob (fun h => h)) 3, blkCell (c.obj hob (fun h => h)) 4⟩ : w'.cell? ⟨g, 0, none⟩ = some (.string t) ∧ w'.cell? ⟨g, 1, none⟩ = some (.string o) ∧ w'.cell? ⟨g, 2, none⟩ = some (.int .u8 N) ∧ w'.cell? ⟨g, 3, none⟩ = some (.int .u16 At) ∧ w'.cell? ⟨g, 4, none⟩ = some (.int .u8 Bits)))
  have HCH := Lib.hid hch
  clear hgg hW0 hob hch
  go_wp2_with (first
    | (go_at_call 9; refine (signs_calls _).mono ?_; rintro e w0 ⟨rfl, hg⟩; have G := Lib.hid hg; clear hg)
    | (go_at_call 14; refine (C2.out _).mono ?_; rintro e w2 ⟨b, rfl, hk2, hb2, hg2⟩; have HR := Lib.hid hk2; have G := Lib.hid (G.out.trans hg2 (fun _ h => h.elim)); obtain ⟨b0, b1, b2, b3, b4⟩ := CB.out _ G.out; clear hk2 hb2 hg2)
    | (go_at_call 15; refine (C3.out _ b HR.out).mono ?_; rintro e w3 ⟨rfl, hg3⟩; have HR := Lib.hid (HR.out.free hg3); have G := Lib.hid (G.out.trans hg3 (fun _ h => h.elim)); clear b0 b1 b2 b3 b4 hg3))
  obtain ⟨W4, hW4⟩ : ∃ W4, Lib.bytesWorld w3 5 s = W4 := ⟨_, rfl⟩
  obtain ⟨g1, hg1⟩ : ∃ g1, w3.heap.size = g1 := ⟨_, rfl⟩
  obtain ⟨c1, hc1⟩ : ∃ c1, grownCap w3 Z 0 5 = c1 := ⟨_, rfl⟩
  have hch : Chg (fun _ => False) w3 W4 := by rw [← hW4]; exact bytesChg w3 _ _ s
  have hnum : NumsAt W4 g1 (numsOf s) := by rw [← hW4, ← hg1]; exact NumsAt.new w3 s
  have HG1 : Hid (w3.heap.size ≤ g1) := Lib.hid (Nat.le_of_eq hg1)
  simp only [hW4, hg1, hc1]
  have HR3 := Lib.hid HR.out
  have G3 := Lib.hid G.out
  have HR := Lib.hid (HR.out.free hch)
  have G4 := Lib.hid (G.out.trans hch (fun _ h => h.elim))
  have HC3 := Lib.hid hch
  have HN1 := Lib.hid hnum
  have KV := Lib.hid (fun (w' : World) (c : Chg (fun _ => False) W4 w') => (by rw [(hnum.free c).conv Z c1 (by rw [numsOf_len, hZ]), numsOf_back] : (convert 34 9 (.slice (some ⟨g1, 0, none⟩) Z c1)).run Try.prog w' = .ok (.string s) w'))
  have D := Lib.hid (Chg.refl (fun _ => False) W4)
  clear hW4 hg1 hc1 hch hnum
  go_region_held3 (fun w' => w'.cell? ⟨g, 0, none⟩ = some (.string t) ∧ (convert 34 9 (.slice (some ⟨g1, 0, none⟩) Z c1)).run Try.prog w' = .ok (.string s) w')
    (first | exact ⟨(CB.out _ (G4.out.trans D.out (fun _ h => h.elim))).1, KV.out _ D.out⟩ | exact ⟨(CB.out _ (G4.out.trans D.out.drew (fun _ h => h.elim))).1, KV.out _ D.out.drew⟩)
    (first
      | (go_at_call 16; refine (C4.out _ b (HR.out.free (by first | exact D.out | exact D.out.drew))).mono ?_; rintro e w5 ⟨rfl, hg⟩; have D := Lib.hid (Chg.trans (by first | exact D.out | exact D.out.drew) hg (fun _ h => h.elim)); clear hg)
      | (go_at_call 12; refine (C5'.out _).mono ?_; rintro e w5 ⟨rfl, hg⟩; have D := Lib.hid (Chg.trans (by exact D.out) hg (fun _ h => h.elim)); clear hg)
      | fail "NOFIT")
  go_wp2_with fail
  have D5 := Lib.hid (HC3.out.trans D.out (fun _ h => h.elim))
  have hn5 := HN1.out.free D.out
  obtain ⟨b0, b1, b2, b3, b4⟩ := CB.out _ (G3.out.trans D5.out (fun _ h => h.elim))
  obtain ⟨j, hj⟩ : ∃ j : Nat, At % (Z : Int) = (j : Int) := ⟨(At % (Z : Int)).toNat, by have := Int.emod_nonneg At (b := (Z : Int)) (by omega); omega⟩
  have hjZ : j < Z := by have := Int.emod_lt_of_pos At (b := (Z : Int)) (by omega); omega
  have hjZ2 : (j : Int) < (Z : Int) := by omega
  have hZi : ¬ (Z : Int) = 0 := by omega
  have hZn : ¬ Z = 0 := by omega
  have hwA : IntKind.i64.wrap At = At := by rw [IntKind.wrap_i64]; omega
  have hjt : At.tmod (Z : Int) = (j : Int) := by rw [Int.tmod_eq_emod_of_nonneg A0]; exact hj
  have hj0 : (0 : Int) ≤ (j : Int) := by omega
  obtain ⟨x0, hx0⟩ : ∃ x0, (numsOf s).getD j 0 = x0 := ⟨_, rfl⟩
  obtain ⟨e1, e2⟩ := hn5 j (by rw [numsOf_len, hZ]; exact hjZ)
  rw [hx0] at e1
  have HN5 := Lib.hid hn5
  clear hn5 D HN1 G4 HR KV
  refine region_quiet_tail 13 (by kernel_rfl) (by kernel_rfl) ?_
  simp only [List.take_succ_cons, List.take_zero, List.drop_succ_cons, List.drop_zero]
  repeat (quiet_step (fail))
  refine wpQuiet_nil ?_
  rintro w' ⟨nq, rfl⟩
  go_wp2_with fail
  obtain ⟨x, hx⟩ : ∃ x, bits .xor .u8 x0 Bits = x := ⟨_, rfl⟩
  simp only [hx]
  obtain ⟨W6, hW6⟩ : ∃ W6, (w5.drewN nq).setCell ⟨g1, j, none⟩ (.int .u8 x) = W6 := ⟨_, rfl⟩
  obtain ⟨L1, hL1⟩ : ∃ L1, (numsOf s).set j x = L1 := ⟨_, rfl⟩
  obtain ⟨s2, hs2⟩ : ∃ s2, strOfNums L1 = s2 := ⟨_, rfl⟩
  have hLn : L1.length = Z := by rw [← hL1, List.length_set, numsOf_len, hZ]
  have hs2z : s2.size ≤ 140737488355328 := by rw [← hs2, strOfNums_size, hLn]; omega
  have D6 : Hid (Chg (fun _ => False) w3 W6) := Lib.hid (by rw [← hW6]; exact (D5.out.drewN nq).setCell (.inr HG1.out) _)
  have HN6 : Hid (NumsAt W6 g1 L1) := Lib.hid (by rw [← hW6, ← hL1]; exact (HN5.out.free ((Chg.refl _ w5).drewN nq)).set j x)
  have KV6 := Lib.hid (fun (w' : World) (c : Chg (fun _ => False) W6 w') => (by rw [(HN6.out.free c).conv Z c1 hLn, hs2] : (convert 34 9 (.slice (some ⟨g1, 0, none⟩) Z c1)).run Try.prog w' = .ok (.string s2) w'))
  simp only [hW6]
  clear hx hW6 hL1 D5 HN5 b0 b1 b2 b3 b4 e1 e2 hx0 hs2 hLn hj hjZ hjZ2 hjt hj0
  obtain ⟨j, hj⟩ : ∃ j : Nat, At % 32 = (j : Int) := ⟨(At % 32).toNat, by omega⟩
  have hjt : At.tmod 32 = (j : Int) := by rw [Int.tmod_eq_emod_of_nonneg A0]; exact hj
  have hj32 : j < 32 := by omega
  have hj322 : (j : Int) < 32 := by omega
  have hj0 : (0 : Int) ≤ (j : Int) := by omega
  obtain ⟨y0, hy0⟩ : ∃ y0, (numsOf I).getD j 0 = y0 := ⟨_, rfl⟩
  by_cases hB : Bits = 0
  · go_wp2_with (go_at_call 16; refine (C4.out _ b (HR3.out.free D6.out)).mono ?_; rintro e w7 ⟨rfl, hg⟩; have D7 := Lib.hid (hg.trans (bytesChg w7 (fun _ => False) 5 I) (fun _ h => h.elim)); have D67 := Lib.hid (D6.out.trans hg (fun _ h => h.elim)); have kv := KV6.out _ D7.out; obtain ⟨b0, b1, b2, b3, b4⟩ := CB.out _ (G3.out.trans (D6.out.trans D7.out (fun _ h => h.elim)) (fun _ h => h.elim)); have hn7 := NumsAt.new w7 I; obtain ⟨e1, e2⟩ := hn7 j (by rw [numsOf_len, hIz]; exact hj32); rw [hy0] at e1; have HN7 := Lib.hid hn7; clear hg hn7)
    obtain ⟨y, hy⟩ : ∃ y, bits .xor .u8 y0 1 = y := ⟨_, rfl⟩
    simp only [hy]
    obtain ⟨W9, hW9⟩ : ∃ W9, (Lib.bytesWorld w7 5 I).setCell ⟨w7.heap.size, j, none⟩ (.int .u8 y) = W9 := ⟨_, rfl⟩
    obtain ⟨g2, hg2⟩ : ∃ g2, w7.heap.size = g2 := ⟨_, rfl⟩
    obtain ⟨c2, hc2⟩ : ∃ c2, grownCap w7 32 0 5 = c2 := ⟨_, rfl⟩
    obtain ⟨l2, hl2⟩ : ∃ l2, (numsOf I).set j y = l2 := ⟨_, rfl⟩
    obtain ⟨id2, hid2⟩ : ∃ id2, strOfNums l2 = id2 := ⟨_, rfl⟩
    have D9 : Hid (Chg (fun _ => False) w3 W9) := Lib.hid (by rw [← hW9]; exact ((D67.out.trans (bytesChg w7 (fun _ => False) 5 I) (fun _ h => h.elim))).setCell (.inr D67.out.size) _)
    have hn9 : NumsAt W9 g2 l2 := by rw [← hW9, ← hg2, ← hl2]; exact HN7.out.set j y
    have hl2n : l2.length = 32 := by rw [← hl2]; simp [numsOf_len, hIz]
    have KVI := Lib.hid (fun (w' : World) (c : Chg (fun _ => False) W9 w') => (by rw [(hn9.free c).conv 32 c2 hl2n, hid2] : (convert 34 9 (.slice (some ⟨g2, 0, none⟩) 32 c2)).run Try.prog w' = .ok (.string id2) w'))
    simp only [hW9]
    simp only [hg2, hc2]
    clear hW9 hg2 hc2 hn9 hl2n
    have C6 := Lib.hid (fun w => Verify_calls w id2 t s2 ht hs2z)
    have C7 := Lib.hid (fun w => rVerify_calls w id2 t s2 ht hs2z)
    obtain ⟨V1, hV1⟩ : ∃ V1, verF id2 t s2 = V1 := ⟨_, rfl⟩
    rw [hV1] at C6 C7
    have D := Lib.hid (Chg.refl (fun _ => False) W9)
    clear hV1 hid2 hl2 kv b0 b1 b2 b3 b4 e1 e2
    go_region_held3 (fun w' => w'.cell? ⟨g, 0, none⟩ = some (.string t) ∧ w'.cell? ⟨g, 1, none⟩ = some (.string o) ∧ (convert 34 9 (.slice (some ⟨g2, 0, none⟩) 32 c2)).run Try.prog w' = .ok (.string id2) w')
      (first | exact ⟨(CB.out _ (G3.out.trans (D9.out.trans D.out (fun _ h => h.elim)) (fun _ h => h.elim))).1, (CB.out _ (G3.out.trans (D9.out.trans D.out (fun _ h => h.elim)) (fun _ h => h.elim))).2.1, KVI.out _ D.out⟩ | exact ⟨(CB.out _ (G3.out.trans (D9.out.trans D.out.drew (fun _ h => h.elim)) (fun _ h => h.elim))).1, (CB.out _ (G3.out.trans (D9.out.trans D.out.drew (fun _ h => h.elim)) (fun _ h => h.elim))).2.1, KVI.out _ D.out.drew⟩)
      (first
        | (go_at_call 12; with_reducible refine (C6.out _).mono ?_; rintro e w5 ⟨rfl, hg⟩; have D := Lib.hid (Chg.trans (by first | exact D.out | exact D.out.drew) hg (fun _ h => h.elim)); clear hg)
        | (go_at_call 12; with_reducible refine (C8.out _).mono ?_; rintro e w5 ⟨rfl, hg⟩; have D := Lib.hid (Chg.trans (by first | exact D.out | exact D.out.drew) hg (fun _ h => h.elim)); clear hg)
        | (go_at_call 13; with_reducible refine (C7.out _).mono ?_; rintro e w5 ⟨rfl, hg⟩; have D := Lib.hid (Chg.trans (by first | exact D.out | exact D.out.drew) hg (fun _ h => h.elim)); clear hg)
        | (go_at_call 13; with_reducible refine (C9.out _).mono ?_; rintro e w5 ⟨rfl, hg⟩; have D := Lib.hid (Chg.trans (by first | exact D.out | exact D.out.drew) hg (fun _ h => h.elim)); clear hg)
        | (go_at_call 16; refine (C4.out _ b (HR3.out.free (Chg.trans (S' := fun _ => False) D9.out (by first | exact D.out | exact D.out.drew) (fun _ h => h.elim)))).mono ?_; rintro e w5 ⟨rfl, hg⟩; have D := Lib.hid (Chg.trans (by first | exact D.out | exact D.out.drew) hg (fun _ h => h.elim)); clear hg)
        | (go_at_call 15; refine (C3.out _ b (HR3.out.free (Chg.trans (S' := fun _ => False) D9.out (by first | exact D.out | exact D.out.drew) (fun _ h => h.elim)))).mono ?_; rintro e w5 ⟨rfl, hg⟩; have D := Lib.hid (Chg.trans (by first | exact D.out | exact D.out.drew) hg (fun _ h => h.elim)); clear hg)
        | fail "NOFIT")
    all_goals
      go_wp2_with fail
      go_ret
      exact ⟨rfl, ((HCH.out.trans G3.out (fun _ h => h.elim)).trans D9.out (fun _ h => h.elim)).trans D.out (fun _ h => h.elim)⟩
  · go_wp2_with (go_at_call 16; refine (C4.out _ b (HR3.out.free D6.out)).mono ?_; rintro e w7 ⟨rfl, hg⟩; have D7 := Lib.hid (hg.trans (bytesChg w7 (fun _ => False) 5 I) (fun _ h => h.elim)); have D67 := Lib.hid (D6.out.trans hg (fun _ h => h.elim)); have kv := KV6.out _ D7.out; obtain ⟨b0, b1, b2, b3, b4⟩ := CB.out _ (G3.out.trans (D6.out.trans D7.out (fun _ h => h.elim)) (fun _ h => h.elim)); have hn7 := NumsAt.new w7 I; obtain ⟨e1, e2⟩ := hn7 j (by rw [numsOf_len, hIz]; exact hj32); rw [hy0] at e1; have HN7 := Lib.hid hn7; clear hg hn7)
    obtain ⟨W9, hW9⟩ : ∃ W9, Lib.bytesWorld w7 5 I = W9 := ⟨_, rfl⟩
    obtain ⟨g2, hg2⟩ : ∃ g2, w7.heap.size = g2 := ⟨_, rfl⟩
    obtain ⟨c2, hc2⟩ : ∃ c2, grownCap w7 32 0 5 = c2 := ⟨_, rfl⟩
    obtain ⟨l2, hl2⟩ : ∃ l2, numsOf I = l2 := ⟨_, rfl⟩
    obtain ⟨id2, hid2⟩ : ∃ id2, strOfNums l2 = id2 := ⟨_, rfl⟩
    have D9 : Hid (Chg (fun _ => False) w3 W9) := Lib.hid (by rw [← hW9]; exact D67.out.trans (bytesChg w7 (fun _ => False) 5 I) (fun _ h => h.elim))
    have hn9 : NumsAt W9 g2 l2 := by rw [← hW9, ← hg2, ← hl2]; exact HN7.out
    have hl2n : l2.length = 32 := by rw [← hl2]; simp [numsOf_len, hIz]
    have KVI := Lib.hid (fun (w' : World) (c : Chg (fun _ => False) W9 w') => (by rw [(hn9.free c).conv 32 c2 hl2n, hid2] : (convert 34 9 (.slice (some ⟨g2, 0, none⟩) 32 c2)).run Try.prog w' = .ok (.string id2) w'))
    simp only [hW9]
    simp only [hg2, hc2]
    clear hW9 hg2 hc2 hn9 hl2n
    have C6 := Lib.hid (fun w => Verify_calls w id2 t s2 ht hs2z)
    have C7 := Lib.hid (fun w => rVerify_calls w id2 t s2 ht hs2z)
    obtain ⟨V1, hV1⟩ : ∃ V1, verF id2 t s2 = V1 := ⟨_, rfl⟩
    rw [hV1] at C6 C7
    have D := Lib.hid (Chg.refl (fun _ => False) W9)
    clear hV1 hid2 hl2 kv b0 b1 b2 b3 b4 e1 e2
    go_region_held3 (fun w' => w'.cell? ⟨g, 0, none⟩ = some (.string t) ∧ w'.cell? ⟨g, 1, none⟩ = some (.string o) ∧ (convert 34 9 (.slice (some ⟨g2, 0, none⟩) 32 c2)).run Try.prog w' = .ok (.string id2) w')
      (first | exact ⟨(CB.out _ (G3.out.trans (D9.out.trans D.out (fun _ h => h.elim)) (fun _ h => h.elim))).1, (CB.out _ (G3.out.trans (D9.out.trans D.out (fun _ h => h.elim)) (fun _ h => h.elim))).2.1, KVI.out _ D.out⟩ | exact ⟨(CB.out _ (G3.out.trans (D9.out.trans D.out.drew (fun _ h => h.elim)) (fun _ h => h.elim))).1, (CB.out _ (G3.out.trans (D9.out.trans D.out.drew (fun _ h => h.elim)) (fun _ h => h.elim))).2.1, KVI.out _ D.out.drew⟩)
      (first
        | (go_at_call 12; with_reducible refine (C6.out _).mono ?_; rintro e w5 ⟨rfl, hg⟩; have D := Lib.hid (Chg.trans (by first | exact D.out | exact D.out.drew) hg (fun _ h => h.elim)); clear hg)
        | (go_at_call 12; with_reducible refine (C8.out _).mono ?_; rintro e w5 ⟨rfl, hg⟩; have D := Lib.hid (Chg.trans (by first | exact D.out | exact D.out.drew) hg (fun _ h => h.elim)); clear hg)
        | (go_at_call 13; with_reducible refine (C7.out _).mono ?_; rintro e w5 ⟨rfl, hg⟩; have D := Lib.hid (Chg.trans (by first | exact D.out | exact D.out.drew) hg (fun _ h => h.elim)); clear hg)
        | (go_at_call 13; with_reducible refine (C9.out _).mono ?_; rintro e w5 ⟨rfl, hg⟩; have D := Lib.hid (Chg.trans (by first | exact D.out | exact D.out.drew) hg (fun _ h => h.elim)); clear hg)
        | (go_at_call 16; refine (C4.out _ b (HR3.out.free (Chg.trans (S' := fun _ => False) D9.out (by first | exact D.out | exact D.out.drew) (fun _ h => h.elim)))).mono ?_; rintro e w5 ⟨rfl, hg⟩; have D := Lib.hid (Chg.trans (by first | exact D.out | exact D.out.drew) hg (fun _ h => h.elim)); clear hg)
        | (go_at_call 15; refine (C3.out _ b (HR3.out.free (Chg.trans (S' := fun _ => False) D9.out (by first | exact D.out | exact D.out.drew) (fun _ h => h.elim)))).mono ?_; rintro e w5 ⟨rfl, hg⟩; have D := Lib.hid (Chg.trans (by first | exact D.out | exact D.out.drew) hg (fun _ h => h.elim)); clear hg)
        | fail "NOFIT")
    all_goals
      go_wp2_with fail
      go_ret
      exact ⟨rfl, ((HCH.out.trans G3.out (fun _ h => h.elim)).trans D9.out (fun _ h => h.elim)).trans D.out (fun _ h => h.elim)⟩
end Go.Proofs.Ytpdgkgdaaapngaa
