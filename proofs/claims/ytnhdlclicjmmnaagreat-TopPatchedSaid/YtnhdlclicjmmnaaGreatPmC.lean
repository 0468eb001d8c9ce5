/- TopPatched: fetch's read, where the cell is empty. -/
import Derived.Test.YtnhdlclicjmmnaaGreatPmA
namespace Go.Proofs.YtnhdlclicjmmnaaGreat
open Go.RowKit Go.Lib Go.Shelf Go.Maps
set_option maxRecDepth 100000 in
set_option maxHeartbeats 1000000 in
theorem freadE_calls (w : World) (f c mn : Nat) (x1 x2 x3 : Int) (x4 x5 : ByteArray) (A6 A7 A8 : Option Addr) (n6 n7 n8 k6 k7 k8 : Nat) (hf : w.heap[f]? = some (.cells (fetC c x1 x2 x3 x4 x5 (.slice A6 n6 k6) (.slice A7 n7 k7) (.slice A8 n8 k8)) 85 (0, 0)))
    (cs : Array Value) (hc : w.heap[c]? = some (.cells cs 115 (0, 0))) (h3 : cs[3]? = some (.map (some mn))) (hm : MapAt w mn []) :
    Calls Tryz.prog 37 #[.pointer (some ⟨f, 0, none⟩)] w fun e w' => e = .returned (.tuple #[]) ∧ w'.heap[f]? = some (.cells (fetC c 0 0 0 ⟨#[]⟩ ⟨#[]⟩ (.slice none 0 0) (.slice none 0 0) (.slice none 0 0)) 85 (0, 0)) ∧ Chg (fun k => k = f) w w' := by
  have CR := Lib.hid (fun w => bRead_calls w ⟨#[]⟩ (by decide))
  have hcf : c ≠ f := blkNe hc hf (by decide)
  have hnf : mn ≠ f := hm.ne hf
  have c0 : w.cell? ⟨f, 0, none⟩ = some (.pointer (some ⟨c, 0, none⟩)) := blkCell hf 0
  have y1 : w.cell? ⟨f, 1, none⟩ = some (.int .i64 x1) := blkCell hf 1
  have y2 : w.cell? ⟨f, 2, none⟩ = some (.int .i64 x2) := blkCell hf 2
  have y3 : w.cell? ⟨f, 3, none⟩ = some (.int .i64 x3) := blkCell hf 3
  have y4 : w.cell? ⟨f, 4, none⟩ = some (.string x4) := blkCell hf 4
  have y5 : w.cell? ⟨f, 5, none⟩ = some (.string x5) := blkCell hf 5
  have y6 : w.cell? ⟨f, 6, none⟩ = some (.slice A6 n6 k6) := blkCell hf 6
  have y7 : w.cell? ⟨f, 7, none⟩ = some (.slice A7 n7 k7) := blkCell hf 7
  have y8 : w.cell? ⟨f, 8, none⟩ = some (.slice A8 n8 k8) := blkCell hf 8
  have e1 := blkFree hf 1
  have e2 := blkFree hf 2
  have e3 := blkFree hf 3
  have e4 := blkFree hf 4
  have e5 := blkFree hf 5
  have e6 := blkFree hf 6
  have e7 := blkFree hf 7
  have e8 := blkFree hf 8
  have hmm := @run_makeMap Tryz.prog
  have HF := Lib.hid hf
  have HC := Lib.hid hc
  have H3 := Lib.hid h3
  have HM := Lib.hid hm
  clear hf hc h3 hm
  go_enter Tryz.func37, Tryz.ntmps37
  go_upto_region 2 with fail
  obtain ⟨hb1, hc1⟩ := fetSet HF.out (.int .i64 0) (.int .i64 0) (.int .i64 0) (.string ⟨#[]⟩) (.string ⟨#[]⟩) (.slice none 0 0) (.slice none 0 0) (.slice none 0 0)
  obtain ⟨W0, hW0⟩ : ∃ W0, ((((((((w.setCell ⟨f, 1, none⟩ (.int .i64 0)).setCell ⟨f, 2, none⟩ (.int .i64 0)).setCell ⟨f, 3, none⟩ (.int .i64 0)).setCell ⟨f, 4, none⟩ (.string ⟨#[]⟩)).setCell ⟨f, 5, none⟩ (.string ⟨#[]⟩)).setCell ⟨f, 6, none⟩ (.slice none 0 0)).setCell ⟨f, 7, none⟩ (.slice none 0 0)).setCell ⟨f, 8, none⟩ (.slice none 0 0)) = W0 := ⟨_, rfl⟩
  rw [hW0] at hb1 hc1 ⊢
  have hz0 : W0.heap.size = w.heap.size := by rw [← hW0]; simp [World.setCell]
  rw [← hz0]
  clear hW0 y1 y2 y3 y4 y5 y6 y7 y8 e1 e2 e3 e4 e5 e6 e7 e8 c0 hmm
  have hS1 : MapS (W0.alloc (.map #[] 0)) W0.heap.size [] := MapS.made W0
  have hM1 := (HM.out.chg hc1 hnf).chg ((Chg.refl (fun _ => False) W0).alloc (.map #[] 0)) (fun h => h)
  have hf1 := blkOld hb1 (.map #[] 0)
  have hcc1 := blkOld (hc1.obj HC.out hcf) (.map #[] 0)
  have hg1 := hc1.alloc (.map #[] 0)
  obtain ⟨m, hmm⟩ : ∃ m, W0.heap.size = m := ⟨_, rfl⟩
  obtain ⟨W1, hW1⟩ : ∃ W1, W0.alloc (.map #[] 0) = W1 := ⟨_, rfl⟩
  rw [hmm] at hS1 hz0
  rw [hW1] at hS1 hM1 hf1 hcc1 hg1
  simp only [hmm]
  simp only [hW1]
  have c0 : W1.cell? ⟨f, 0, none⟩ = some (.pointer (some ⟨c, 0, none⟩)) := blkCell hf1 0
  have CN := Lib.hid (Names_calls W1 c mn [] ((blkCell hcc1 3).trans H3.out) hM1 List.Pairwise.nil (by decide))
  rw [show ([] : Cont).length = 0 from rfl] at CN
  have HF1 := Lib.hid hf1
  have HC1 := Lib.hid hcc1
  have HM1 := Lib.hid hM1
  have HS1 := Lib.hid hS1
  have HG1 := Lib.hid hg1
  have HZ0 := Lib.hid hz0
  clear hW1 hmm hb1 hc1 hS1 hM1 hf1 hcc1 hg1 hz0
  go_wp2_with (go_at_call 65; (with_reducible refine CN.out.mono ?_); rintro e w2 ⟨A, cp, r, rfl, hrow, hrn, hg2⟩; have HROW := Lib.hid hrow; have HG2 := Lib.hid hg2; clear hrow hrn hg2)
  have hml : m < W1.heap.size := by have := HS1.out.lt; exact this
  have hfm : f ≠ m := fun e => HS1.out.ne HF1.out e.symm
  have hf2 := HG2.out.obj HF1.out (fun h => h)
  have hs2 := HS1.out.chg HG2.out (fun h => h)
  have HF2 := Lib.hid hf2
  have HS2 := Lib.hid hs2
  clear c0 hf2 hs2 CN
  go_loopw [29] (fun v wr => v = .int .i64 0 ∧ wr = w2) (fun _ _ => 0)
  case atStart => exact ⟨rfl, rfl⟩
  case round =>
    obtain ⟨rfl, hwr⟩ := hrel
    obtain ⟨wa, hwa⟩ : ∃ wa, wa = wr := ⟨_, rfl⟩
    rw [← hwa] at hwr ⊢
    clear hwa
    have HSA : Hid (MapS wa m []) := Lib.hid (by rw [hwr]; exact HS2.out)
    have HFA : Hid (wa.heap[f]? = some (.cells #[.pointer (some ⟨c, 0, none⟩), .int .i64 0, .int .i64 0, .int .i64 0, .string ⟨#[]⟩, .string ⟨#[]⟩, .slice none 0 0, .slice none 0 0, .slice none 0 0] 85 (0, 0))) := Lib.hid (by rw [hwr]; exact HF2.out)
    have HGA : Hid (Chg (fun k => k = f) w wa) := Lib.hid (by rw [hwr]; exact HG1.out.trans HG2.out (fun _ h => h.elim))
    clear hwr
    have KB := Lib.hid (fun (w' : World) (hg : Chg (fun _ => False) wa w') => (HSA.out.chg hg (fun h => h) : MapS w' m []))
    have hL1 : (Instr.lookup 118 (.map (some m)) (.string ⟨#[98, 105, 108, 108]⟩) false).run Tryz.prog wa = .ok (.string ⟨#[]⟩) wa := HSA.out.look1 kB (by decide)
    have LD := Lib.hid (fun (w' : World) (q : MapS w' m []) => (show (Instr.lookup 118 (.map (some m)) (.string ⟨#[100, 97, 116, 97]⟩) true).run Tryz.prog w' = .ok (.tuple #[.string ⟨#[]⟩, .bool false]) w' from q.look kD (by decide)))
    have LD1 := Lib.hid (fun (w' : World) (q : MapS w' m []) => (show (Instr.lookup 118 (.map (some m)) (.string ⟨#[100, 97, 116, 97]⟩) false).run Tryz.prog w' = .ok (.string ⟨#[]⟩) w' from q.look1 kD (by decide)))
    have LH1 := Lib.hid (fun (w' : World) (q : MapS w' m []) => (show (Instr.lookup 118 (.map (some m)) (.string ⟨#[104, 97, 118, 101]⟩) false).run Tryz.prog w' = .ok (.string ⟨#[]⟩) w' from q.look1 kH (by decide)))
    have LN := Lib.hid (fun (w' : World) (q : MapS w' m []) (ty : TypeId) => (show (Builtin.len_ #[118] ty #[.map (some m)]).run Tryz.prog w' = .ok (.int .i64 0) w' from q.len ty))
    go_wp2_with fail
    refine (CR.out wa).mono ?_
    rintro e w6 ⟨bv, bz, bc, bh, bt, A1, cap1, r1, l, bx, rfl, _, _, _, _, _, _, hg6⟩
    obtain ⟨W7, hW7⟩ : ∃ W7, w6.alloc (.cells #[.int .i64 bv, .int .i64 bz, .int .i64 bc, .string bh, .string bt, .slice A1 l.length cap1] 27) = W7 := ⟨_, rfl⟩
    have hg7 : Chg (fun _ => False) wa W7 := by rw [← hW7]; exact hg6.alloc _
    have hL2 := LD.out W7 (KB.out W7 hg7)
    have HG7 := Lib.hid hg7
    clear hg6 hL1 hg7
    go_wp2_with fail
    clear hL2 hW7
    have hM7 := KB.out W7 HG7.out
    have hd1 := LH1.out W7.drew hM7
    have hd2 := LD1.out W7.drew hM7
    obtain ⟨vh, Wh, hvh, hfh, hgh, hzh⟩ := FB.made W7.drew ⟨#[]⟩
    have hd3 := LD1.out Wh (KB.out Wh ((HG7.out.drew).trans hgh (fun _ h => h.elim)))
    have hd4 := LH1.out Wh (KB.out Wh ((HG7.out.drew).trans hgh (fun _ h => h.elim)))
    obtain ⟨vd2, Whd, hvd2, hfd2, hgd2, _⟩ := FB.made Wh ⟨#[]⟩
    have G1 := Lib.hid hgh
    have G3 := Lib.hid hgd2
    clear hfh hfd2 hgh hgd2 hzh hM7
    go_cut [9, 10] (fun x y wx => HD (Chg (fun _ => False) W7 wx))
    case first =>
      go_region
      all_goals
        go_wp2_with fail
        go_meet
        exact ⟨((Chg.refl (fun _ => False) W7).drew.trans G1.out (fun _ h => h.elim)).trans G3.out (fun _ h => h.elim)⟩
    case rest =>
      have HG8 := Lib.hid hcut.out
      obtain ⟨w8, rfl⟩ : ∃ w8, w8 = wc := ⟨_, rfl⟩
      have hl8 := LN.out w8 (KB.out w8 (HG7.out.trans HG8.out (fun _ h => h.elim))) 3
      clear hcut hvh hvd2 hd1 hd2 hd3 hd4
      go_wp2_with fail
      go_end0
      exact ⟨rfl, HG8.out.obj (HG7.out.obj HFA.out (fun h => h)) (fun h => h), (HGA.out.trans HG7.out (fun _ h => h.elim)).trans HG8.out (fun _ h => h.elim)⟩
end Go.Proofs.YtnhdlclicjmmnaaGreat
/- TopPatched: what lies in the region (Rg); the download as a whole (FS); fetch's commit. -/
namespace Go.Proofs.YtnhdlclicjmmnaaGreat
open Go.RowKit Go.Lib Go.Shelf Go.Maps
/-- The region [0, 200): its number, its copy, its content. -/
def Rg (sec : List (List UInt8)) (num last : Nat) (M : Cont) : Prop := sec.length = 200 ∧ last ≤ 1 ∧ ∃ r, (∀ k, k < 2 → CopyIs sec (0 + k * 100) 100 (r k)) ∧ bestK r 2 = (num, last, M)
theorem Rg.start : Rg (List.replicate 200 []) 0 1 [] := by
  refine ⟨List.length_replicate, Nat.le_refl _, fun _ => none, fun k hk => ?_, rfl⟩
  show CopyNo _ _
  unfold CopyNo
  rw [List.getD_eq_getElem?_getD, List.getElem?_replicate]
  split <;> rfl
theorem best1_ge (st : Nat × Nat × Cont) (k : Nat) (o : Option (Nat × Cont)) : st.1 ≤ (best1 st k o).1 ∧ ∀ p, o = some p → p.1 ≤ (best1 st k o).1 := by
  cases o with
  | none => exact ⟨Nat.le_refl _, fun p e => nomatch e⟩
  | some q =>
    simp only [best1]
    split
    · rename_i h
      exact ⟨Nat.le_of_lt h, fun p e => by injection e with e; rw [← e]; exact Nat.le_refl _⟩
    · rename_i h
      exact ⟨Nat.le_refl _, fun p e => by injection e with e; rw [← e]; omega⟩
theorem best_le {r : Nat → Option (Nat × Cont)} {num last : Nat} {M : Cont} (h : bestK r 2 = (num, last, M)) : ∀ k, k < 2 → ∀ p, r k = some p → p.1 ≤ num := by
  have h2 : (best1 (best1 (0, 1, []) 0 (r 0)) 1 (r 1)).1 = num := congrArg Prod.fst h
  have g1 := best1_ge (best1 (0, 1, []) 0 (r 0)) 1 (r 1)
  have g0 := best1_ge (0, 1, []) 0 (r 0)
  intro k hk p hp
  have hk' : k = 0 ∨ k = 1 := by omega
  rcases hk' with rfl | rfl
  · have := g0.2 p hp
    omega
  · have := g1.2 p hp
    omega
/-- A commit. -/
theorem Rg.commit {sec : List (List UInt8)} {num last : Nat} {M M' : Cont} (h : Rg sec num last M) (hM : ReadM M') (hb : (bytesB M').length ≤ 6336) (hn : num ≤ 100000) :
    Rg (wroteC sec (0 + (1 - last) * 100) (bytesB M') (headC (num + 1) (bytesB M').length)) (num + 1) (1 - last) M' := by
  obtain ⟨h1, h2, r, h3, h4⟩ := h
  have hle := best_le h4
  have ok := wroteC_ok sec (0 + (1 - last) * 100) 100 (num + 1) (bytesB M') (by decide) (by rw [h1]; omega) (by omega)
  refine ⟨by rw [wroteC_len, h1], by omega, fun k => if k = 1 - last then some (num + 1, M') else r k, fun k hk => ?_, ?_⟩
  · by_cases e : k = 1 - last
    · simp only [e, if_true]
      exact ⟨ok, hM, by show 1 ≤ num + 1; omega, by show num + 1 ≤ _; omega⟩
    · simp only [e, if_false]
      have o := h3 k hk
      have same : ∀ j, 0 + k * 100 ≤ j → j < 0 + k * 100 + 100 → (wroteC sec (0 + (1 - last) * 100) (bytesB M') (headC (num + 1) (bytesB M').length))[j]? = sec[j]? := fun j j1 j2 => wroteC_other sec _ 100 (num + 1) j (bytesB M') (by decide) (by omega) (by omega)
      cases hr : r k with
      | none =>
        rw [hr] at o
        exact CopyNo.same o (same _ (Nat.le_refl _) (by omega))
      | some p =>
        rw [hr] at o
        exact ⟨o.1.same (by decide) same, o.2⟩
  · have hl : last = 0 ∨ last = 1 := by omega
    rcases hl with rfl | rfl
    · show best1 (best1 (0, 1, []) 0 (if 0 = 1 - 0 then some (num + 1, M') else r 0)) 1 (if 1 = 1 - 0 then some (num + 1, M') else r 1) = _
      rw [if_neg (show ¬ (0 = 1 - 0) by decide), if_pos (show (1 = 1 - 0) from rfl)]
      have : (best1 (0, 1, []) 0 (r 0)).1 < num + 1 := by
        cases hr : r 0 with
        | none => show 0 < num + 1; omega
        | some p =>
          have := hle 0 (by decide) p hr
          simp only [best1]
          split
          · show p.1 < _; omega
          · show 0 < num + 1; omega
      generalize best1 (0, 1, []) 0 (r 0) = st at this
      simp only [best1]
      rw [if_pos this]
    · show best1 (best1 (0, 1, []) 0 (if 0 = 1 - 1 then some (num + 1, M') else r 0)) 1 (if 1 = 1 - 1 then some (num + 1, M') else r 1) = _
      rw [if_pos (show (0 = 1 - 1) from rfl), if_neg (show ¬ (1 = 1 - 1) by decide)]
      have e1 : best1 (0, 1, []) 0 (some (num + 1, M')) = (num + 1, 0, M') := by
        simp only [best1]
        rw [if_pos (by omega)]
      rw [e1]
      cases hr : r 1 with
      | none => rfl
      | some p =>
        have := hle 1 (by decide) p hr
        simp only [best1]
        rw [if_neg (by omega)]
/-- The content of a download. -/
def conM (v z cc : Int) (h t : ByteArray) (l : List ByteArray) (hv dv : List UInt8) : Cont := dlM (strOf (preB v z cc h t ++ catS l)) (strOf dv) (strOf hv)
/-- The download f over the cell c on the device d, all laid behind w0. -/
def FS (w0 w : World) (f c d : Nat) (v z cc : Int) (h t : ByteArray) (l : List ByteArray) (hv dv : List UInt8) (num last : Nat) (sec : List (List UInt8)) : Prop :=
  w0.heap.size ≤ f ∧ (∃ A cap r gh ch gd cd, w.heap[f]? = some (.cells (fetC c v z cc h t (.slice A l.length cap) (.slice (some ⟨gh, 0, none⟩) hv.length ch) (.slice (some ⟨gd, 0, none⟩) dv.length cd)) 85 (0, 0)) ∧
    TRow w (.slice A l.length cap) r l ∧ (∀ k, r = some k → w0.heap.size ≤ k) ∧ FB w (.slice (some ⟨gh, 0, none⟩) hv.length ch) gh hv ∧ FB w (.slice (some ⟨gd, 0, none⟩) dv.length cd) gd dv ∧ w0.heap.size ≤ gh ∧ w0.heap.size ≤ gd ∧ gh ≠ gd ∧ dv.length ≤ cd) ∧
  Cl w0 w c d 0 100 num last (conM v z cc h t l hv dv) ∧ Dv w0 w d sec sec [] ∧ Rg sec num last (conM v z cc h t l hv dv)
/-- What a download's have and data must be, that it can be kept. -/
structure Fit (z : Int) (l : List ByteArray) (hv dv : List UInt8) : Prop where
  hl : hv.length = l.length
  dl : (dv.length : Int) = z
  ok : hv.any badH = false
  sm : 97 + 32 * l.length + dv.length + l.length ≤ 6336
theorem con_read {v z cc : Int} {h t : ByteArray} {l : List ByteArray} {hv dv : List UInt8} (g : GoodB v z cc h t l) (q : Fit z l hv dv) : ReadM (conM v z cc h t l hv dv) ∧ (bytesB (conM v z cc h t l hv dv)).length ≤ 6336 := by
  obtain ⟨a1, a2, a3, a4, b1, b2, a6, a7, a8⟩ := g.rng
  have hs : (strOf (preB v z cc h t ++ catS l)).size = 71 + 32 * l.length := by rw [strOf_size, List.length_append, preB_len v z cc h t a6 a7, catS_32 l g.all.1]
  have h1 := q.hl
  have h2 := q.dl
  have h3 := q.sm
  have hd : (strOf dv).size = dv.length := strOf_size _
  have hh : (strOf hv).size = hv.length := strOf_size _
  refine ⟨dlM_read _ _ _ (by omega) (by omega) (by omega), ?_⟩
  rw [conM, dlM_bytes]
  omega
theorem Cl.cell {w0 w : World} {c d base half num last : Nat} {M : Cont} (h : Cl w0 w c d base half num last M) : ∃ mn mw, w.heap[c]? = some (.cells (cellC d base half (.map (some mn)) mw num last) 115 (0, 0)) ∧ MapAt w mn M ∧ w0.heap.size ≤ mn := by
  obtain ⟨_, _, h⟩ := h
  exact h
/-- The block f is turned: the cell and the device stay. -/
theorem kept_f {w w1 : World} {f : Nat} {cs : Array Value} (hf : w.heap[f]? = some (.cells cs 85 (0, 0))) (c : Chg (fun k => k = f) w w1) : KeptT (fun T => T = 85) w w1 :=
  KeptT.of c (fun k e => .inr ⟨cs, _, (0, 0), by rw [e]; exact hf, rfl⟩)
/-- Rows of integers stay. -/
def KeptI (w w1 : World) : Prop := ∀ (k : Nat) (cs : Array Value) (fr : Nat × Nat), w.heap[k]? = some (.cells cs 3 fr) → w1.heap[k]? = some (.cells cs 3 fr)
theorem KeptI.trans {w w1 w2 : World} (h : KeptI w w1) (h2 : KeptI w1 w2) : KeptI w w2 := fun k cs fr hk => h2 k cs fr (h k cs fr hk)
theorem KeptI.of {S : TypeId → Prop} {w w1 : World} (h : KeptT S w w1) (hs : ¬ S 3) : KeptI w w1 := fun _ _ _ hk => h.cells hk hs
theorem KeptI.map {w w1 : World} {mn : Nat} (c : Chg (fun k => k = mn) w w1) (hm : ∃ es cl, w.heap[mn]? = some (.map es cl)) : KeptI w w1 := fun k cs fr hk => c.obj hk (fun e => by
  obtain ⟨es, cl, hm⟩ := hm
  rw [e, hm] at hk
  cases hk)
set_option maxHeartbeats 2000000 in
theorem fcommit_calls (w0 w : World) (f c d : Nat) (x1 x2 x3 : Int) (x4 x5 : ByteArray) (A6 A7 A8 : Option Addr) (n6 n7 n8 k6 k7 k8 : Nat) (v z cc : Int) (h t : ByteArray) (l : List ByteArray) (hv dv : List UInt8) (num last : Nat) (sec : List (List UInt8)) (Mo : Cont) (hf0 : w0.heap.size ≤ f)
    (hf : w.heap[f]? = some (.cells (fetC c x1 x2 x3 x4 x5 (.slice A6 n6 k6) (.slice A7 n7 k7) (.slice A8 n8 k8)) 85 (0, 0))) (hc : Cl w0 w c d 0 100 num last (conM v z cc h t l hv dv)) (hd : Dv w0 w d sec sec []) (hr : Rg sec num last Mo) (g : GoodB v z cc h t l) (q : Fit z l hv dv) (hn : num ≤ 1000) :
    Calls Tryz.prog 42 #[.pointer (some ⟨f, 0, none⟩)] w fun e w' => e = .returned (.int .i64 0) ∧ ∃ sec', FS w0 w' f c d v z cc h t l hv dv (num + 1) (1 - last) sec' ∧ KeptI w w' := by
  obtain ⟨r1, r2⟩ := con_read g q
  have hr' := hr.commit r1 r2 (by omega)
  have CC := Lib.hid (Commit_calls w0 w c d 0 100 num last (conM v z cc h t l hv dv) sec hc hd r1.good (by omega) (by decide) (by decide) (by decide) (by rw [hr.1]; decide) (by rw [hr.1]; decide) (by omega) hr.2.1)
  have c0 : w.cell? ⟨f, 0, none⟩ = some (.pointer (some ⟨c, 0, none⟩)) := blkCell hf 0
  obtain ⟨sec', hsec⟩ : ∃ sec', wroteC sec (0 + (1 - last) * 100) (bytesB (conM v z cc h t l hv dv)) (headC (num + 1) (bytesB (conM v z cc h t l hv dv)).length) = sec' := ⟨_, rfl⟩
  rw [hsec] at CC hr'
  have HR := Lib.hid hr'
  have HF := Lib.hid hf
  have HG := Lib.hid g
  have HQ := Lib.hid q
  clear hf hc hd hr g q r1 r2 hr' hsec
  go_enter Tryz.func42, Tryz.ntmps42
  go_wp2_with fail
  (with_reducible refine CC.out.mono ?_)
  rintro e w1 ⟨rfl, hc1, hd1, hk1⟩
  have HF1 := Lib.hid (hk1.cells HF.out (by unfold SCell SDev; decide))
  have HC1 := Lib.hid hc1
  have HD1 := Lib.hid hd1
  have HI1 := Lib.hid (KeptI.of hk1 (by unfold SCell SDev; decide))
  obtain ⟨mn, mw, q1, q2, q3⟩ := hc1.cell
  have CR := Lib.hid (fread_calls w1 f c mn x1 x2 x3 x4 x5 A6 A7 A8 n6 n7 n8 k6 k7 k8 v z cc h t l hv dv HF1.out _ q1 rfl q2 HG.out HQ.out.hl HQ.out.dl HQ.out.ok)
  clear hc1 hd1 hk1 q1 q2 q3 c0 CC
  go_wp2_with fail
  (with_reducible refine CR.out.mono ?_)
  rintro e w2 ⟨rfl, A, cap, r, gh, ch, gd, cd, s1, s2, s3, s4, s5, s6, s7, s8, s9, s10⟩
  have hz : w0.heap.size ≤ w1.heap.size := HC1.out.2.1.size
  have kf := kept_f HF1.out s9
  have c2 : Chg (fun _ => False) w0 w2 := HC1.out.2.1.trans s9 (fun k e => .inr (by rw [e]; exact hf0))
  have HI2 := Lib.hid (HI1.out.trans (KeptI.of kf (by decide)))
  have FIN : Hid (FS w0 w2 f c d v z cc h t l hv dv (num + 1) (1 - last) sec') := Lib.hid ⟨hf0, ⟨A, cap, r, gh, ch, gd, cd, s1, s2, fun k e => Nat.le_trans hz (s3 k e), s4, s5, Nat.le_trans hz s6, Nat.le_trans hz s7, s8, s10⟩, HC1.out.kept kf (by decide) c2, Dv.kept HD1.out kf (fun T h1 h2 => by subst h2; revert h1; unfold SDev; decide) c2, HR.out⟩
  clear s1 s2 s3 s4 s5 s6 s7 s8 s9 s10 hz kf c2 CR
  go_wp2_with fail
  go_ret
  exact ⟨rfl, sec', FIN.out, HI2.out⟩
end Go.Proofs.YtnhdlclicjmmnaaGreat
