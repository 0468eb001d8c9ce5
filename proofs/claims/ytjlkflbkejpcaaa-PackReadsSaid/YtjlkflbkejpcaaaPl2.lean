/- The walk of PackReads, one of its two cases. -/
import Derived.Test.YtjlkflbkejpcaaaPl0
namespace Go.Proofs.Ytjlkflbkejpcaaa
open Go.RowKit

set_option maxRecDepth 100000 in
set_option maxHeartbeats 4000000 in
theorem PackReads_small (s : ByteArray) (A : Option Addr) (l : List OpV) (c : Nat) (w : World) (hl : OpsIn w A l) (hc : l.length ≤ c) (hs : s.size ≤ 140737488351232) (h5 : ¬ 500 < l.length) :
    Calls Try.prog 6 #[.string s, .slice A l.length c] w fun e w' => e = .returned (.bool true) ∧ Chg (fun _ => False) w w' := by
  have HL := Lib.hid hl
  clear hl
  · go_enter Try.func6, Try.ntmps6
    go_wp2_with (first | (go_at_call 11; refine (lays_calls _).mono ?_; rintro e w1 ⟨rfl, g1⟩) | (go_at_call 32; refine (Read_new _ _).mono ?_; rintro e w2 ⟨br, rfl, h1, b1, g2⟩; have J1 := Lib.hid h1; clear h1))
    refine (rRead_new _ _).mono ?_
    rintro e w3 ⟨bx, rfl, h2, b2, g3⟩
    have J1 := Lib.hid (J1.out.chg g3 id)
    have J2 := Lib.hid h2
    clear h2
    go_wp2_with (fail)
    refine (rRead_new _ _).mono ?_
    rintro e w4 ⟨by_, rfl, h4, b4, g4⟩
    have g34 := ((Chg.refl (fun _ => False) w3).alloc (.cells #[.string ⟨#[]⟩, .int .i64 0] 59)).trans g4 (fun _ hk => hk.elim)
    have NE13 : Hid (br ≠ w3.heap.size) := Lib.hid (fun e => by have := J1.out.lt; omega)
    have NE24 : Hid (bx ≠ by_) := Lib.hid (fun e => by
      have h := J2.out.lt
      have h3 : w3.heap.size + 1 ≤ by_ := by simpa using b4
      omega)
    have J1 := Lib.hid (J1.out.chg g34 id)
    have J2 := Lib.hid (J2.out.chg g34 id)
    have J4 := Lib.hid h4
    have J3 : Hid (RdAt w4 59 w3.heap.size (⟨#[]⟩, 0)) := Lib.hid (g4.obj (blkAlloc w3 _) id)
    have G3 := g2.trans g3 (fun _ hk => hk.elim)
    have GG := Lib.hid ((g1.trans G3 (fun _ hk => hk.elim)).trans g34 (fun _ hk => hk.elim))
    have B1 : Hid (w.heap.size ≤ br) := Lib.hid (by have := g1.size; omega)
    have B2 : Hid (w.heap.size ≤ bx) := Lib.hid (by have := g1.size; have := g2.size; omega)
    have B3 : Hid (w.heap.size ≤ w3.heap.size) := Lib.hid (by have := g1.size; have := G3.size; omega)
    have B4 : Hid (w.heap.size ≤ by_) := Lib.hid (by
      have h := B3.out
      have h3 : w3.heap.size + 1 ≤ by_ := by simpa using b4
      omega)
    clear h4 b1 b2 b4 g1 g2 g3 g4 g34 G3
    go_wp2_with (fail)
    go_loopw [24] (fun v wr => ∃ (k : Nat) (x y : RS), k ≤ l.length ∧ v = .int .i64 k ∧ HD (x.1.size ≤ 140737488351232) ∧ HD (y.1.size ≤ 140737488351232) ∧ HD (RdAt wr 59 br x) ∧ HD (RdAt wr 62 bx x) ∧ HD (RdAt wr 59 w3.heap.size y) ∧ HD (RdAt wr 62 by_ y) ∧ HD (Chg (fun _ => False) w wr)) (fun v _ => l.length - (intOf v).toNat)
    case atStart => exact ⟨0, _, _, Nat.zero_le _, rfl, ⟨hs⟩, ⟨Nat.zero_le _⟩, ⟨J1.out⟩, ⟨J2.out⟩, ⟨J3.out⟩, ⟨J4.out⟩, ⟨GG.out⟩⟩
    case round =>
      clear J1 J2 J3 J4 GG
      obtain ⟨k, x, y, hk, rfl, SX, SY, J1, J2, J3, J4, GG⟩ := hrel
      by_cases hlt : k < l.length
      · obtain ⟨a, rfl, ha, hok⟩ := HL.out.get k (by omega)
        have ha2 := OpV.at_chg (o := l[k]'(by omega)) ha GG.out id
        obtain ⟨o, ho⟩ : ∃ o, l[k]'(by omega) = o := ⟨_, rfl⟩
        rw [ho] at ha2 hok
        clear ho ha
        obtain ⟨c0, c1, c2⟩ := ha2
        have HOK := Lib.hid hok
        clear hok
        have K1 := Lib.hid (J1.out.chg ((Chg.refl (fun _ => False) wr).alloc (.cells #[.int .u8 o.k, .int .i64 o.n, .string o.s] 31)) id)
        have K2 := Lib.hid (J2.out.chg ((Chg.refl (fun _ => False) wr).alloc (.cells #[.int .u8 o.k, .int .i64 o.n, .string o.s] 31)) id)
        have K3 := Lib.hid (J3.out.chg ((Chg.refl (fun _ => False) wr).alloc (.cells #[.int .u8 o.k, .int .i64 o.n, .string o.s] 31)) id)
        have K4 := Lib.hid (J4.out.chg ((Chg.refl (fun _ => False) wr).alloc (.cells #[.int .u8 o.k, .int .i64 o.n, .string o.s] 31)) id)
        have KB : Hid ((wr.alloc (.cells #[.int .u8 o.k, .int .i64 o.n, .string o.s] 31)).heap[wr.heap.size]? = some (.cells #[.int .u8 o.k, .int .i64 o.n, .string o.s] 31 (0, 0))) := Lib.hid (blkAlloc wr _)
        go_wp2_with (fail)
        refine (read_calls _ br bx x o.k o.n o.s HOK.out (by exact K1.out) (by exact K2.out) SX.out).mono ?_
        rintro e w5 ⟨rfl, x', hx', h1, h2, g⟩
        have HX' := Lib.hid hx'
        have K1' := Lib.hid h1
        have K2' := Lib.hid h2
        have K3' := Lib.hid (K3.out.chg g (fun e => e.elim (fun e => NE13.out e.symm) (fun e => blkNe J3.out J2.out (by decide) e)))
        have K4' := Lib.hid (K4.out.chg g (fun e => e.elim (fun e => blkNe J4.out J1.out (by decide) e) (fun e => NE24.out e.symm)))
        have KB' := Lib.hid (g.obj KB.out (fun e => e.elim (fun e => by have := J1.out.lt; omega) (fun e => by have := J2.out.lt; omega)))
        have d0 := blkCell KB'.out 0
        have d1 := blkCell KB'.out 1
        have d2 := blkCell KB'.out 2
        have G1 := Lib.hid g
        clear h1 h2 g hx'
        go_wp2_with (fail)
        refine (read_calls _ w3.heap.size by_ y o.k o.n o.s HOK.out (by exact K3'.out) (by exact K4'.out) SY.out).mono ?_
        rintro e w6 ⟨rfl, y', hy', h1, h2, g⟩
        have HY' := Lib.hid hy'
        have L3 := Lib.hid h1
        have L4 := Lib.hid h2
        have L1 := Lib.hid (K1'.out.chg g (fun e => e.elim (fun e => NE13.out e) (fun e => blkNe J1.out J4.out (by decide) e)))
        have L2 := Lib.hid (K2'.out.chg g (fun e => e.elim (fun e => blkNe J2.out J3.out (by decide) e) (fun e => NE24.out e)))
        have G2 := Lib.hid g
        clear h1 h2 g hy'
        go_wp2
        refine ⟨⟨k + 1, x', y', by omega, by go_num, ⟨Nat.le_trans HX'.out SX.out⟩, ⟨Nat.le_trans HY'.out SY.out⟩, ⟨L1.out⟩, ⟨L2.out⟩, ⟨L3.out⟩, ⟨L4.out⟩, ⟨?_⟩⟩, by simp [intOf]; omega⟩
        exact Chg.free G2.out w.heap.size (fun k hk => hk.elim (fun e => e ▸ B3.out) (fun e => e ▸ B4.out)) (Chg.free G1.out w.heap.size (fun k hk => hk.elim (fun e => e ▸ B1.out) (fun e => e ▸ B2.out)) (GG.out.alloc _) (Nat.le_refl _)) (Nat.le_refl _)
      · go_wp2_with (fail)
        have NE12 : Hid (br ≠ bx) := Lib.hid (blkNe J1.out J2.out (by decide))
        have NE14 : Hid (br ≠ by_) := Lib.hid (blkNe J1.out J4.out (by decide))
        have NE23 : Hid (bx ≠ w3.heap.size) := Lib.hid (blkNe J2.out J3.out (by decide))
        have NE34 : Hid (w3.heap.size ≠ by_) := Lib.hid (blkNe J3.out J4.out (by decide))
        have J1 : Hid (RdAt wr.drew 59 br x) := Lib.hid J1.out
        have J2 : Hid (RdAt wr.drew 62 bx x) := Lib.hid J2.out
        have J3 : Hid (RdAt wr.drew 59 w3.heap.size y) := Lib.hid J3.out
        have J4 : Hid (RdAt wr.drew 62 by_ y) := Lib.hid J4.out
        have GG : Hid (Chg (fun _ => False) w wr.drew) := Lib.hid GG.out.drew
        have SX : Hid (x.1.size ≤ 140737488351232) := Lib.hid SX.out
        go_region_with (first
          | (go_at_call_of 31 (Value.pointer (some ⟨br, 0, none⟩)); refine (End_calls _ br x (by exact J1.out)).mono ?_; rintro e w5 ⟨rfl, h, g⟩; have K1 := Lib.hid h; have K2 := Lib.hid (J2.out.chg g (fun e => NE12.out e.symm)); have K3 := Lib.hid (J3.out.chg g (fun e => NE13.out e.symm)); have K4 := Lib.hid (J4.out.chg g (fun e => NE14.out e.symm)); have G5 := Lib.hid (GG.out.trans g (fun k hk => .inr (hk ▸ B1.out))); clear h g)
          | (go_at_call_of 35 (Value.pointer (some ⟨bx, 0, none⟩)); refine (rEnd_calls _ bx x (by exact K2.out)).mono ?_; rintro e w6 ⟨rfl, h, g⟩; have M2 := Lib.hid h; have M1 := Lib.hid (K1.out.chg g NE12.out); have M3 := Lib.hid (K3.out.chg g (fun e => NE23.out e.symm)); have M4 := Lib.hid (K4.out.chg g (fun e => NE24.out e.symm)); have G6 := Lib.hid (G5.out.trans g (fun k hk => .inr (hk ▸ B2.out))); have c1 := M2.out.cell1; clear h g)
          | (go_at_call 30; refine (Err_calls _ br (endF x) (by exact M1.out)).mono ?_; rintro e w7 ⟨rfl, rfl⟩)
          | (go_at_call_of 31 (Value.pointer (some ⟨w3.heap.size, 0, none⟩)); refine (End_calls _ w3.heap.size y (by exact M3.out)).mono ?_; rintro e w7 ⟨rfl, h, g⟩; have N1 := Lib.hid (M1.out.chg g NE13.out); have N2 := Lib.hid (M2.out.chg g NE23.out); have N4 := Lib.hid (M4.out.chg g (fun e => NE34.out e.symm)); have G7 := Lib.hid (G6.out.trans g (fun k hk => .inr (hk ▸ B3.out))); clear h g)
          | (go_at_call_of 35 (Value.pointer (some ⟨by_, 0, none⟩)); refine (rEnd_calls _ by_ y (by exact N4.out)).mono ?_; rintro e w8 ⟨rfl, h, g⟩; have P1 := Lib.hid (N1.out.chg g NE14.out); have P2 := Lib.hid (N2.out.chg g NE24.out); have G8 := Lib.hid (G7.out.trans g (fun k hk => .inr (hk ▸ B4.out))); clear h g)
          | (go_at_call 34; refine (read_calls _ br bx (endF x) 0 0 ⟨#[]⟩ (by omega) (by exact P1.out) (by exact P2.out) (by rw [endF_left]; exact SX.out)).mono ?_; rintro e w9 ⟨rfl, x', hx', h1, h2, g⟩; have G9 := Lib.hid (G8.out.trans g (fun k hk => .inr (hk.elim (fun e => e ▸ B1.out) (fun e => e ▸ B2.out)))); clear hx' h1 h2 g))
        all_goals
          go_wp2
          go_ret
          exact ⟨rfl, G9.out⟩
end Go.Proofs.Ytjlkflbkejpcaaa