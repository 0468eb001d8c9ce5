/- Keys: at, ID, Sign of package keys. -/
import Derived.Test.YtpdgkgdaaapngaaKyE
namespace Go.Proofs.Ytpdgkgdaaapngaa
open Go.RowKit
theorem head3 (h n : Nat) (hh : h ≤ 4) (hn : n ≤ 15) : #[Value.int .u8 h, Value.int .u8 ((n : Int) / 256), Value.int .u8 n] = (bcells (numBytes h 1 ++ numBytes n 2)).toArray := by
  have h1 : numBytes (h : Int) 1 = [UInt8.ofNat ((h : Int) % 256).toNat] := by simp [numBytes]
  have h2 : numBytes (n : Int) 2 = [UInt8.ofNat ((n : Int) / 256 % 256).toNat, UInt8.ofNat ((n : Int) % 256).toNat] := by simp [numBytes]
  have a1 := byteCell h
  have a2 := byteCell n
  have a3 := byteCell ((n : Int) / 256)
  rw [h1, h2]
  simp only [bcells, List.map_append, List.map_cons, List.map_nil, a1, a2, a3]
  rw [show (h : Int) % 256 = h from by omega, show (n : Int) % 256 = n from by omega, show (n : Int) / 256 % 256 = (n : Int) / 256 from by omega]
  rfl
theorem BdR.other {w : World} {b : Nat} {r : Option Nat} {bs : List UInt8} (h : BdR w b r bs) (E : TypeId) (h1 : 104 ≠ E) (h2 : 5 ≠ E) : Other (fun k => k = b ∨ r = some k) w E := by
  obtain ⟨v, hb, hr⟩ := h
  rintro k (rfl | hk)
  · exact ⟨_, _, hb, h1⟩
  · obtain ⟨_, cs, hc⟩ := hr.lt hk
    exact ⟨cs, _, hc, h2⟩
/-- A builder of one's own, laid behind w. -/
def OwnB (w wx : World) (bs : List UInt8) : Prop := ∃ r, BdR wx w.heap.size r bs ∧ ∀ k, r = some k → w.heap.size ≤ k
theorem OwnB.chg {w w1 w2 : World} {bs : List UInt8} {S : Nat → Prop} (h : OwnB w w1 bs) (c : Chg S w1 w2) (hS : ∀ k, S k → k < w.heap.size) : OwnB w w2 bs := by
  obtain ⟨r, h1, h2⟩ := h
  exact ⟨r, h1.chg c (fun hs => by have := hS _ hs; omega) (fun k hk hs => by have := hS _ hs; have := h2 k hk; omega), h2⟩
theorem writeOwn (w w1 : World) (bs : List UInt8) (s : ByteArray) (h : OwnB w w1 bs) (hl : bs.length + s.size ≤ 140737488355328) :
    Calls Try.prog 60 #[.pointer (some ⟨w.heap.size, 0, none⟩), .string s] w1 fun e w' => (∃ u, e = .returned u) ∧ OwnB w w' (bs ++ s.data.toList) ∧ ∃ S : Nat → Prop, Chg S w1 w' ∧ (∀ k, S k → w.heap.size ≤ k) ∧ Other S w1 9 ∧ Other S w1 38 := by
  obtain ⟨r, h1, h2⟩ := h
  have hlt : w.heap.size < w1.heap.size := by
    obtain ⟨v, hb, _⟩ := h1
    exact blkLt hb
  refine (WriteString2_calls w1 _ r bs s h1 hl).mono ?_
  rintro e w' ⟨hu, r', hb, hn, hc⟩
  refine ⟨hu, ⟨r', hb, fun k hk => ?_⟩, _, hc, fun k hk => ?_, h1.other _ (by decide) (by decide), h1.other _ (by decide) (by decide)⟩
  · rcases hn.mem hk with h | h
    · exact h2 k h
    · omega
  · rcases hk with rfl | hk
    · exact Nat.le_refl _
    · exact h2 k hk
theorem Chg.undrew0 {S : Nat → Prop} {w w1 : World} (h : Chg S w.drew w1) : Chg S w w1 := ⟨h.os, h.tape, h.output, h.size, h.block⟩
theorem LevelsAt.head {w : World} {lv : Value} {r : Option Nat} {f : Nat → List ByteArray} {n : Nat} (h : LevelsAt w lv r f n) (hn : 0 < n) : ∃ g c, lv = .slice (some ⟨g, 0, none⟩) n c ∧ n ≤ c ∧ c ≤ 9223372036854775807 := by
  obtain ⟨vs, hv, rfl, _⟩ := h
  obtain ⟨g, c, hlv, _, hc, hm⟩ := SRow.val_at hv hn
  exact ⟨g, c, hlv, hc, hm⟩
theorem sigB_ne (seed text : ByteArray) (h n c : Nat) : sigB seed h n text c ≠ [] := by
  intro e
  have := congrArg List.length e
  rw [sigB, List.length_append, List.length_append, List.length_append, numBytes_len, numBytes_len] at this
  simp at this
theorem sigB_next (seed text : ByteArray) (h n c : Nat) : sigB seed h n text c ++ ((lev seed h c).getD (sib (n / 2 ^ c)) nilS).data.toList = sigB seed h n text (c + 1) := by
  simp [sigB, catL]
set_option maxRecDepth 100000 in
set_option maxHeartbeats 4000000 in
theorem at_calls (w : World) (b : Nat) (seed text : ByteArray) (h n : Nat) (used : Int) (hs : seed.size ≤ 140737488351232) (ht : text.size ≤ 140737488351232) (hh : h ≤ 4) (hn : n < 2 ^ h) (hk : KKey w b seed h used) :
    Calls Try.prog 37 #[.pointer (some ⟨b, 0, none⟩), .int .i64 n, .string text] w fun e w' => e = .returned (.string (sigK seed h n text)) ∧ KKey w' b seed h used ∧ Chg (fun k => k = b) w w' := by
  have h16 := (two_pow_small h hh).1
  have n0 : (0 : Int) ≤ (n : Int) := by omega
  have n1 : (n : Int) ≤ 15 := by omega
  have hh0 : (0 : Int) ≤ (h : Int) := by omega
  have hh4 : (h : Int) ≤ 4 := by omega
  have C1 := Lib.hid (fun w => Sign_calls w seed text n hs ht)
  rw [fitE_in ⟨by omega, by omega⟩] at C1
  have hblt := hk.lt
  obtain ⟨W1, hW⟩ : ∃ W1, w.alloc (.cells #[.pointer none, .slice none 0 0] 104) = W1 := ⟨_, rfl⟩
  have hg0 : Chg (fun _ => False) w W1 := by rw [← hW]; exact (Chg.refl _ w).alloc _
  have hk1 := hk.chg hg0 (fun h => h) (Other.none _ _) (Other.none _ _)
  have x1 := hk1.cells.2.1
  have HBD : Hid (W1.heap[w.heap.size]? = some (.cells #[.pointer none, .slice none 0 0] 104 (0, 0))) := Lib.hid (by rw [← hW]; exact blkAlloc w _)
  have HK1 := Lib.hid hk1
  have HG0 := Lib.hid hg0
  have hsz : w.heap.size < W1.heap.size := blkLt HBD.out
  have HYS : Hid ((W1.alloc (.cells #[.int .u8 h, .int .u8 ((n : Int) / 256), .int .u8 n] 5)).heap[W1.heap.size]? = some (.cells (bcells (numBytes h 1 ++ numBytes n 2)).toArray 5 (0, 0))) := Lib.hid (by rw [← head3 h n hh (by omega)]; exact blkAlloc W1 _)
  have HBD2 : Hid ((W1.alloc (.cells #[.int .u8 h, .int .u8 ((n : Int) / 256), .int .u8 n] 5)).heap[w.heap.size]? = some (.cells #[.pointer none, .slice none 0 0] 104 (0, 0))) := Lib.hid (blkOld HBD.out _)
  have HG1 : Hid (Chg (fun _ => False) w (W1.alloc (.cells #[.int .u8 h, .int .u8 ((n : Int) / 256), .int .u8 n] 5))) := Lib.hid (HG0.out.alloc _)
  obtain ⟨G, hG⟩ : ∃ G, sigF seed n text = G := ⟨_, rfl⟩
  have hGs : G.size ≤ 288 := by rw [← hG]; exact sigF_le seed text n
  rw [hG] at C1
  have HL3 : Hid ((numBytes h 1 ++ numBytes n 2).length + G.size ≤ 140737488355328) := Lib.hid (by rw [List.length_append, numBytes_len, numBytes_len]; omega)
  have HSB : Hid (numBytes h 1 ++ numBytes n 2 ++ G.data.toList = sigB seed h n text 0) := Lib.hid (by rw [← hG]; simp [sigB, catL])
  have HK := Lib.hid hk
  have HN := Lib.hid hn
  clear hk hk1 hg0 hn h16 hG hGs
  go_enter Try.func37, Try.ntmps37
  go_wp2_with (first
    | (go_at_call 58; refine (Write_calls _ w.heap.size W1.heap.size (numBytes h 1 ++ numBytes n 2) 3 rfl (by decide) (by decide) HBD2.out HYS.out).mono ?_; rintro e w2 ⟨⟨u1, rfl⟩, r2, hbd, hr2, hg2⟩; have hg3 : Chg (fun _ => False) w w2 := HG1.out.trans hg2 (fun k hk => .inr (Nat.le_of_eq hk.symm)); have HO2 : Hid (OwnB w w2 (numBytes h 1 ++ numBytes n 2)) := Lib.hid ⟨r2, hbd, fun k hk => Nat.le_trans HG1.out.size (hr2 k hk)⟩; have HG2 := Lib.hid hg3; have y0 := (HK.out.chg hg3 (fun h => h) (Other.none _ _) (Other.none _ _)).cells.1; clear hbd hr2 hg2 hg3)
    | (go_at_call 59; refine (C1.out _).mono ?_; rintro e w3 ⟨rfl, hg⟩; have HO3 := Lib.hid (HO2.out.chg hg (fun _ h => h.elim)); have HG3 := Lib.hid (HG2.out.trans hg (fun _ h => h.elim)); clear hg)
    | (go_at_call 60; refine (writeOwn w w3 _ G HO3.out HL3.out).mono ?_; rintro e w4 ⟨⟨u2, rfl⟩, ho4, S4, hg4, hS4, _, _⟩; rw [HSB.out] at ho4; have hgg : Chg (fun _ => False) w w4 := HG3.out.trans hg4 (fun k hk => .inr (hS4 k hk)); have HO4 := Lib.hid ho4; have hk4 := HK.out.chg hgg (fun h => h) (Other.none _ _) (Other.none _ _); have z1 := hk4.cells.2.1; have HK4 := Lib.hid hk4; have HG4 := Lib.hid hgg; clear ho4 hg4 hS4 hgg hk4))
  go_region_held3 (fun w' => w'.cell? ⟨b, 1, none⟩ = some (.int .i64 h)) (first | go_keep | exact m0) (first
    | (go_at_call 40; refine (tree_calls _ b seed h used hs hh ?_).mono ?_; exact HK4.out; rintro e w5 ⟨lv, rl, rfl, hb5, hl5, hg5⟩; obtain ⟨g, cc, rfl, hnc, hcm⟩ := hl5.head (Nat.succ_pos h); have hcc : (h : Int) ≤ (cc : Int) := (by omega); have m0 : w5.cell? ⟨b, 1, none⟩ = some (.int .i64 h) := blkCell hb5 1; replace hg5 := hg5.undrew0; have HB5 := Lib.hid hb5; have HL5 := Lib.hid hl5; have HO5 := Lib.hid (HO4.out.chg hg5 (fun k hk => hk ▸ hblt)); have HG5 := Lib.hid ((HG4.out.mono (fun _ h => h.elim)).trans hg5 (fun _ h => .inl h)); clear hb5 hl5 hg5)
    | skip)
  clear z1 y0 m0 HK4 HG4 HO4 HO3 HG3 HO2 HG2 C1
  go_wp2_with fail
  go_loopw [44] (fun k wx => ∃ c : Nat, c ≤ h ∧ k = .int .i64 c ∧ HD (OwnB w wx (sigB seed h n text c)) ∧ HD (Chg (fun k => k = b) w wx) ∧ HD (wx.heap[b]? = some (.cells (kcellsK seed h (.int .u32 1) (.int .i32 0) (.int .u32 0) (.slice (some ⟨g, 0, none⟩) (h + 1) cc) (.int .i64 used)) 83 (0, 0))) ∧ HD (LevelsAt wx (.slice (some ⟨g, 0, none⟩) (h + 1) cc) rl (lev seed h) (h + 1))) (fun k _ => h - (intOf k).toNat)
  case atStart => exact ⟨0, by omega, rfl, ⟨HO5.out⟩, ⟨HG5.out⟩, ⟨HB5.out⟩, ⟨HL5.out⟩⟩
  case round =>
    obtain ⟨c, hc, rfl, HO, HG, HB, HL⟩ := hrel
    obtain ⟨w6, rfl⟩ : ∃ w6, w6 = wr := ⟨_, rfl⟩
    by_cases hlt : c < h
    · obtain ⟨g', cc', g2, c2, hlv, _, _, x3, hc2, hcm2, hcells⟩ := HL.out.get c (by omega) (lev_pos seed h c (by omega))
      have hgg : g' = g := by injection hlv with e; injection e with e; injection e with e; exact e.symm
      subst hgg
      have hsl := sib_lt h c n hlt HN.out
      have hlen := lev_len seed h c (by omega)
      have x4 := hcells (sib (n / 2 ^ c)) (by rw [hlen]; exact hsl)
      have hes := sigB_next seed text h n c
      have hbl := sigB_le seed text h n c
      rw [strOf_size] at hbl
      obtain ⟨X, hX⟩ : ∃ X, (lev seed h c).getD (sib (n / 2 ^ c)) nilS = X := ⟨_, rfl⟩
      have hXs : X.size ≤ 32 := by rw [← hX]; exact lev_small _ _ _ _
      obtain ⟨N2, hN2⟩ : ∃ N2, (lev seed h c).length = N2 := ⟨_, rfl⟩
      obtain ⟨I, hI⟩ : ∃ I, sib (n / 2 ^ c) = I := ⟨_, rfl⟩
      have hx := xorOne (n / 2 ^ c) (Nat.le_trans (Nat.div_le_self _ _) (by omega))
      rw [hX] at x4 hes
      rw [hN2] at x3 hc2
      rw [hI] at x4 hx
      rw [hI, ← hlen, hN2] at hsl
      have hx' : bits .xor .i64 ((n : Int) / 2 ^ c) 1 = I := by
        rw [← hx]
        congr 1
      have HES := Lib.hid hes
      have HLEN : Hid ((sigB seed h n text c).length + X.size ≤ 140737488355328) := Lib.hid (by omega)
      have p1 : (0 : Int) ≤ (c : Int) := by omega
      have p2 : (c : Int) < (h : Int) := by omega
      have p3 : (0 : Int) ≤ (I : Int) := by omega
      have p4 : (I : Int) < (N2 : Int) := by omega
      have p5 : (c : Int) ≤ 64 := by omega
      have p6 : (0 : Int) ≤ (n : Int) / 2 ^ c := Int.ediv_nonneg n0 (Int.le_of_lt (Int.pow_pos (by decide)))
      have ht1 : (c : Int).toNat = c := by omega
      have ht2 : (I : Int).toNat = I := by omega
      clear hcells hlen hX hN2 hI hx hes hbl hlv
      go_wp2_with (go_at_call 60; refine (writeOwn w w6 _ X HO.out HLEN.out).mono ?_; rintro e w7 ⟨⟨u2, rfl⟩, ho7, S7, hg7, hS7, hs1, hs2⟩; rw [HES.out] at ho7; have HO7 := Lib.hid ho7; have HB7 := Lib.hid (hg7.obj HB.out (fun hb => by have := hS7 _ hb; omega)); have HL7 := Lib.hid (HL.out.chg hg7 hs1 hs2); have HG7 := Lib.hid (HG.out.trans hg7 (fun k hk => .inr (hS7 k hk))); clear ho7 hg7 hS7 hs1 hs2)
      exact ⟨⟨c + 1, by omega, by go_num, ⟨HO7.out⟩, ⟨HG7.out⟩, ⟨HB7.out⟩, ⟨HL7.out⟩⟩, by simp [intOf]; omega⟩
    · obtain rfl : c = h := by omega
      obtain ⟨r, hbr, hrr⟩ := HO.out
      have HBR := Lib.hid hbr
      have HRR := Lib.hid hrr
      clear hbr hrr
      go_wp2_with (go_at_call 61; refine (String2_calls _ _ r _ HBR.out (sigB_ne seed text c n c)).mono ?_; rintro e w8 ⟨rfl, hg8⟩; have HG8 := Lib.hid hg8; clear hg8)
      go_ret
      have ho1 : Other (fun k => r = some k) w6 9 := fun k hk => (HBR.out.other _ (by decide) (by decide)) k (.inr hk)
      have ho2 : Other (fun k => r = some k) w6 38 := fun k hk => (HBR.out.other _ (by decide) (by decide)) k (.inr hk)
      have hbb := HG8.out.obj HB.out (fun e => by have := HRR.out b e; omega)
      exact ⟨rfl, ⟨1, _, rl, hbb, .inr ⟨rfl, HL.out.chg HG8.out ho1 ho2⟩⟩, HG.out.trans HG8.out (fun k hk => .inr (HRR.out k hk))⟩
end Go.Proofs.Ytpdgkgdaaapngaa
