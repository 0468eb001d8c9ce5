/- TopPatched: the cell: Open. -/
import Derived.Test.YtnhdlclicjmmnaaGreatPeJ
namespace Go.Proofs.YtnhdlclicjmmnaaGreat
open Go.RowKit Go.Lib Go.Shelf Go.Maps
/-- What stands in a copy. -/
def CopyIs (sec : List (List UInt8)) (first half : Nat) : Option (Nat × Cont) → Prop
  | none => CopyNo sec first
  | some p => CopyOk sec first half p.1 (bytesB p.2) ∧ ReadM p.2 ∧ 1 ≤ p.1 ∧ p.1 ≤ 1000000000
/-- What is found: the number, the copy, the content. -/
def best1 (st : Nat × Nat × Cont) (k : Nat) : Option (Nat × Cont) → Nat × Nat × Cont
  | none => st
  | some p => if st.1 < p.1 then (p.1, k, p.2) else st
def bestK (r : Nat → Option (Nat × Cont)) : Nat → Nat × Nat × Cont
  | 0 => (0, 1, [])
  | k + 1 => best1 (bestK r k) k (r k)
def cellC (d base half : Nat) (now was : Value) (num last : Nat) : Array Value := #[.pointer (some ⟨d, 0, none⟩), .int .i64 base, .int .i64 half, now, was, .int .i64 num, .int .i64 last, .bool false]
def CopiedR (w : World) (e : Ending) (w' : World) : Option (Nat × Cont) → Prop
  | none => e = .returned (.tuple #[.int .i64 0, .map none, .bool false])
  | some p => ∃ m, e = .returned (.tuple #[.int .i64 (p.1 : Int), .map (some m), .bool true]) ∧ MapAt w' m p.2 ∧ w.heap.size ≤ m
theorem copied_calls (w0 w : World) (c d base half k : Nat) (sec : List (List UInt8)) (hd : Dv w0 w d sec sec []) (cs : Array Value) (hc : w.heap[c]? = some (.cells cs 115 (0, 0))) (c0 : cs[0]? = some (.pointer (some ⟨d, 0, none⟩))) (c1 : cs[1]? = some (.int .i64 base)) (c2 : cs[2]? = some (.int .i64 half))
    (hb : base ≤ 100000) (hh : 2 ≤ half) (hh2 : half ≤ 10000) (hk : k ≤ 1) (hlen : base + k * half + half ≤ sec.length) (hsl : sec.length ≤ 4096) (o : Option (Nat × Cont)) (ho : CopyIs sec (base + k * half) half o) :
    Calls Tryz.prog 63 #[.pointer (some ⟨c, 0, none⟩), .int .i64 k] w fun e w' => CopiedR w e w' o ∧ Chg (fun _ => False) w w' := by
  match o, ho with
  | none, ho => exact copiedNo_calls w0 w c d base half k sec hd cs hc c0 c1 c2 hb hh hh2 hk hlen hsl ho
  | some p, ho =>
    obtain ⟨h1, h2, h3, h4⟩ := ho
    exact (copiedOk_calls w0 w c d base half k p.1 sec p.2 hd cs hc c0 c1 c2 hb hh hh2 hk hlen hsl h1 h2 h3 h4).mono fun e w' ⟨m, e1, e2, e3, e4⟩ => ⟨⟨m, e1, e2, e3⟩, e4⟩
set_option maxRecDepth 100000 in
set_option maxHeartbeats 4000000 in
theorem Open_calls (w0 w : World) (d base half : Nat) (sec : List (List UInt8)) (hd : Dv w0 w d sec sec []) (hb : base ≤ 100000) (hh : 2 ≤ half) (hh2 : half ≤ 10000) (hlen : base + 2 * half ≤ sec.length) (hsl : sec.length ≤ 4096) (r : Nat → Option (Nat × Cont)) (hr : ∀ k, k < 2 → CopyIs sec (base + k * half) half (r k)) :
    Calls Tryz.prog 36 #[.pointer (some ⟨d, 0, none⟩), .int .i64 base, .int .i64 half] w fun e w' => ∃ c mn mw, e = .returned (.tuple #[.pointer (some ⟨c, 0, none⟩), .int .i64 0]) ∧
      w'.heap[c]? = some (.cells (cellC d base half (.map (some mn)) mw (bestK r 2).1 (bestK r 2).2.1) 115 (0, 0)) ∧ MapAt w' mn (bestK r 2).2.2 ∧ w.heap.size ≤ c ∧ w.heap.size ≤ mn ∧ Chg (fun _ => False) w w' := by
  have DEV := Lib.hid (fun (w' : World) (hg : Chg (fun _ => False) w w') => Dv.kept (S := fun _ => False) hd (KeptT.of_chg hg) (fun _ _ h => h) (hd.chg0.trans hg (fun _ h => h.elim)))
  have HRR := Lib.hid hr
  obtain ⟨S0, O0⟩ : (∃ A cp, w.cell? ⟨d, 0, none⟩ = some (.slice A sec.length cp)) ∧ w.cell? ⟨d, 5, none⟩ = some (.bool false) := by
    obtain ⟨_, _, A1, cc1, r1, A2, cc2, r2, A3, cc3, r3, st, h3, _⟩ := hd
    exact ⟨⟨A1, cc1, blkCell h3 0⟩, blkCell h3 5⟩
  obtain ⟨A0, cp0, S0⟩ := S0
  have CS := Lib.hid (Sectors_calls w d A0 sec.length cp0 S0)
  have CO := Lib.hid (Off_calls w d O0)
  have hmm := @run_makeMap Tryz.prog
  have f1 : decide ((base : Int) < 0) = false := decide_eq_false (by omega)
  have f2 : decide ((half : Int) < 2) = false := decide_eq_false (by omega)
  have f3 : decide ((sec.length : Int) < (base : Int)) = false := decide_eq_false (by omega)
  have w1 : IntKind.i64.wrap ((sec.length : Int) - (base : Int)) = (sec.length : Int) - (base : Int) := by rw [IntKind.wrap_i64]; omega
  have t1 : ((sec.length : Int) - (base : Int)).tdiv 2 = ((sec.length : Int) - (base : Int)) / 2 := Int.tdiv_eq_ediv_of_nonneg (by omega)
  have w2 : IntKind.i64.wrap (((sec.length : Int) - (base : Int)) / 2) = ((sec.length : Int) - (base : Int)) / 2 := by rw [IntKind.wrap_i64]; omega
  have f4 : decide (((sec.length : Int) - (base : Int)) / 2 < (half : Int)) = false := decide_eq_false (by omega)
  clear hd hr S0 O0
  go_enter Tryz.func36, Tryz.ntmps36
  go_wp2_with (first
    | (go_at_call 61; (with_reducible refine CS.out.mono ?_); rintro e w3 ⟨rfl, he⟩; have he := he.symm; subst he)
    | (go_at_call 62; (with_reducible refine CO.out.mono ?_); rintro e w3 ⟨rfl, he⟩; have he := he.symm; subst he)
    | fail "NOFIT")
  obtain ⟨W0, hW⟩ : ∃ W0, (w.alloc (.map #[] 0)).alloc (.cells #[.pointer (some ⟨d, 0, none⟩), .int .i64 base, .int .i64 half, .map none, .map (some w.heap.size), .int .i64 0, .int .i64 1, .bool false] 115) = W0 := ⟨_, rfl⟩
  obtain ⟨m0, hm0⟩ : ∃ m0, w.heap.size = m0 := ⟨_, rfl⟩
  obtain ⟨c, hc⟩ : ∃ c, m0 + 1 = c := ⟨_, rfl⟩
  have HC0 : Hid (W0.heap[c]? = some (.cells (cellC d base half (.map none) (.map (some m0)) 0 1) 115 (0, 0))) := Lib.hid (by
    have h := blkAlloc (w.alloc (.map #[] 0)) (.cells #[.pointer (some ⟨d, 0, none⟩), .int .i64 base, .int .i64 half, .map none, .map (some w.heap.size), .int .i64 0, .int .i64 1, .bool false] 115)
    rw [hW, World.size_alloc, hm0, hc] at h
    exact h)
  have HM0 : Hid (MapAt W0 m0 []) := Lib.hid (by
    rw [← hW, ← hm0]
    exact (MapAt.made w).chg ((Chg.refl (fun _ => False) _).alloc _) (fun h => h))
  have HG0 : Hid (Chg (fun _ => False) w W0) := Lib.hid (by rw [← hW]; exact ((Chg.refl _ w).alloc _).alloc _)
  have HCW : Hid (w.heap.size ≤ c) := Lib.hid (by omega)
  have HMW : Hid (w.heap.size ≤ m0) := Lib.hid (by omega)
  simp only [hW]
  simp only [hm0]
  simp only [hc]
  clear hW hm0 hc hmm f1 f2 f3 w1 t1 w2 f4 CS CO
  go_loopw [49] (fun v wr => ∃ k mw : Nat, k ≤ 2 ∧ v = .int .i64 k ∧ HD (wr.heap[c]? = some (.cells (cellC d base half (.map none) (.map (some mw)) (bestK r k).1 (bestK r k).2.1) 115 (0, 0))) ∧ HD (MapAt wr mw (bestK r k).2.2) ∧ HD (w.heap.size ≤ mw) ∧ HD (Chg (fun _ => False) w wr)) (fun v _ => 2 - (intOf v).toNat)
  case atStart => exact ⟨0, m0, by omega, rfl, ⟨HC0.out⟩, ⟨HM0.out⟩, ⟨HMW.out⟩, ⟨HG0.out⟩⟩
  case round =>
    obtain ⟨k, mw, hk, rfl, ⟨HA⟩, ⟨HB⟩, ⟨HE⟩, ⟨HF⟩⟩ := hrel
    obtain ⟨w3, rfl⟩ : ∃ w3, w3 = wr := ⟨_, rfl⟩
    have HCK := Lib.hid HA
    have HMK := Lib.hid HB
    have HWK := Lib.hid HE
    have HGK := Lib.hid HF
    clear HA HB HE HF
    by_cases hlt : k < 2
    · obtain ⟨o, ho⟩ : ∃ o, r k = o := ⟨_, rfl⟩
      have hcp := HRR.out k hlt
      rw [ho] at hcp
      have HST : Hid (bestK r (k + 1) = best1 (bestK r k) k o) := Lib.hid (by rw [bestK, ho])
      have hkh : k * half ≤ 1 * half := Nat.mul_le_mul_right _ (by omega)
      have CP := Lib.hid (copied_calls w0 w3 c d base half k sec (DEV.out w3 HGK.out) _ HCK.out rfl rfl rfl hb hh hh2 (by omega) (by omega) hsl o hcp)
      obtain ⟨st, hst⟩ : ∃ st, bestK r k = st := ⟨_, rfl⟩
      rw [hst] at HST HCK HMK
      obtain ⟨n0, l0, M0⟩ := st
      have q1 : (k : Int) < 2 := by omega
      clear ho hcp hkh hst
      cases o with
      | none =>
        have CP2 := Lib.hid (CP.out.mono (R' := fun e w' => e = .returned (.tuple #[.int .i64 0, .map none, .bool false]) ∧ Chg (fun _ => False) w3 w') (fun e w' h => h))
        clear CP
        go_wp2_with (go_at_call 63; (with_reducible refine CP2.out.mono ?_); rintro e w4 ⟨rfl, hg⟩; have HG4 := Lib.hid hg; clear hg)
        go_roundw
        case rel =>
          have hst : bestK r (k + 1) = (n0, l0, M0) := HST.out
          exact ⟨k + 1, mw, by omega, rfl, ⟨by rw [hst]; exact HG4.out.obj HCK.out (fun h => h)⟩, ⟨by rw [hst]; exact HMK.out.chg HG4.out (fun h => h)⟩, ⟨HWK.out⟩, ⟨HGK.out.trans HG4.out (fun _ h => h.elim)⟩⟩
        case measure => simp [intOf]; omega
      | some p =>
        have CP2 := Lib.hid (CP.out.mono (R' := fun e w' => (∃ m, e = .returned (.tuple #[.int .i64 (p.1 : Int), .map (some m), .bool true]) ∧ MapAt w' m p.2 ∧ w3.heap.size ≤ m) ∧ Chg (fun _ => False) w3 w') (fun e w' h => h))
        clear CP
        obtain ⟨pn, pM⟩ := p
        by_cases hgt : n0 < pn
        · have g1 : decide ((n0 : Int) < (pn : Int)) = true := decide_eq_true (by omega)
          go_wp2_with (go_at_call 63; (with_reducible refine CP2.out.mono ?_); rintro e w4 ⟨⟨m, rfl, hm, hmw⟩, hg⟩; have HG4 := Lib.hid hg; have HM4 := Lib.hid hm; have HMW4 := Lib.hid hmw; have HC4 := Lib.hid (hg.obj HCK.out (fun h => h)); have d5 : w4.cell? ⟨c, 5, none⟩ = some (.int .i64 (n0 : Int)) := blkCell HC4.out 5; have f5 := blkFree HC4.out 5; have d4 : w4.cell? ⟨c, 4, none⟩ = some (.map (some mw)) := blkCell HC4.out 4; have f4 := blkFree HC4.out 4; have d6 : w4.cell? ⟨c, 6, none⟩ = some (.int .i64 (l0 : Int)) := blkCell HC4.out 6; have f6 := blkFree HC4.out 6; clear hg hm hmw)
          go_roundw
          case rel =>
            have hst : bestK r (k + 1) = (pn, k, pM) := HST.out.trans (if_pos hgt)
            have cc : Chg (fun x => x = c) w4 (((w4.setCell ⟨c, 5, none⟩ (.int .i64 (pn : Int))).setCell ⟨c, 4, none⟩ (.map (some m))).setCell ⟨c, 6, none⟩ (.int .i64 (k : Int))) := (((Chg.refl (fun x => x = c) w4).cellOf 5 _).cellOf 4 _).cellOf 6 _
            have hb := blkSet (blkSet (blkSet HC4.out 5 (.int .i64 (pn : Int))) 4 (.map (some m))) 6 (.int .i64 (k : Int))
            exact ⟨k + 1, m, by omega, rfl, ⟨by rw [hst]; exact hb⟩, ⟨by rw [hst]; exact HM4.out.chg cc (fun e => HM4.out.ne HC4.out e)⟩, ⟨Nat.le_trans HGK.out.size HMW4.out⟩, ⟨(HGK.out.trans HG4.out (fun _ h => h.elim)).trans cc (fun x e => .inr (by rw [e]; exact HCW.out))⟩⟩
          case measure => simp [intOf]; omega
        · have g1 : decide ((n0 : Int) < (pn : Int)) = false := decide_eq_false (by omega)
          go_wp2_with (go_at_call 63; (with_reducible refine CP2.out.mono ?_); rintro e w4 ⟨⟨m, rfl, hm, hmw⟩, hg⟩; have HG4 := Lib.hid hg; have HC4 := Lib.hid (hg.obj HCK.out (fun h => h)); have d5 : w4.cell? ⟨c, 5, none⟩ = some (.int .i64 (n0 : Int)) := blkCell HC4.out 5; clear hg hm hmw)
          go_roundw
          case rel =>
            have hst : bestK r (k + 1) = (n0, l0, M0) := HST.out.trans (if_neg hgt)
            exact ⟨k + 1, mw, by omega, rfl, ⟨by rw [hst]; exact HG4.out.obj HCK.out (fun h => h)⟩, ⟨by rw [hst]; exact HMK.out.chg HG4.out (fun h => h)⟩, ⟨HWK.out⟩, ⟨HGK.out.trans HG4.out (fun _ h => h.elim)⟩⟩
          case measure => simp [intOf]; omega
    · obtain rfl : k = 2 := by omega
      have UC := Lib.hid (Undo_calls w3 c mw _ _ HCK.out rfl rfl HMK.out)
      go_wp2_with (go_at_call 64; (with_reducible refine UC.out.mono ?_); rintro e w4 ⟨rfl, mn, hm, hmw, hcb, hg⟩; have HM4 := Lib.hid hm; have HMW4 := Lib.hid hmw; have HC4 := Lib.hid hcb; have HG4 := Lib.hid hg; clear hm hmw hcb hg)
      go_ret2
      exact ⟨c, mn, .map (some mw), rfl, HC4.out, HM4.out, HCW.out, Nat.le_trans HGK.out.size HMW4.out, HGK.out.trans HG4.out (fun x e => .inr (by rw [e]; exact HCW.out))⟩
end Go.Proofs.YtnhdlclicjmmnaaGreat
