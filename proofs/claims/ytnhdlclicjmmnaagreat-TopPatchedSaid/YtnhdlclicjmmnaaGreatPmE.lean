/- TopPatched: fetch's Begin, over an empty region. -/
import Derived.Test.YtnhdlclicjmmnaaGreatPmD
namespace Go.Proofs.YtnhdlclicjmmnaaGreat
open Go.RowKit Go.Lib Go.Shelf Go.Maps
theorem Dv.chgm {w0 w w1 : World} {d mn : Nat} {sec : List (List UInt8)} (h : Dv w0 w d sec sec []) (c : Chg (fun k => k = mn) w w1) (hm : ∃ es cl, w.heap[mn]? = some (.map es cl)) (hc : Chg (fun _ => False) w0 w1) : Dv w0 w1 d sec sec [] := by
  obtain ⟨es, cl, hm⟩ := hm
  have key : ∀ (k : Nat) (cs : Array Value) (T : TypeId) (fr : Nat × Nat), w.heap[k]? = some (.cells cs T fr) → w1.heap[k]? = some (.cells cs T fr) := fun k cs T fr hk => c.obj hk (fun e => by rw [e, hm] at hk; cases hk)
  obtain ⟨h1, _, A1, c1, r1, A2, c2, r2, A3, c3, r3, st, h3, h4, h5, h6, h7⟩ := h
  have rk : ∀ {α : Type} {E : TypeId} {sz : Nat} {enc : α → List Value} {v : Value} {r : Option Nat} {l : List α}, SRow E sz enc w v r l → SRow E sz enc w1 v r l := fun hr => hr.step fun k hk => by
    obtain ⟨_, cs, hcs⟩ := hr.lt hk
    rw [hcs]
    exact key _ _ _ _ hcs
  exact ⟨h1, hc, A1, c1, r1, A2, c2, r2, A3, c3, r3, st, key _ _ _ _ h3, rk h4, rk h5, rk h6, h7⟩
theorem rep0 (n : Nat) : Lib.repeatL [0] n = List.replicate n (0 : UInt8) := by
  induction n with
  | zero => rfl
  | succ n ih =>
    rw [List.replicate_succ, ← ih]
    rfl
theorem rep_calls (w : World) (n : Nat) (h0 : 1 ≤ n) (h1 : n ≤ 100000) :
    Calls Tryz.prog 41 #[.string ⟨#[0]⟩, .int .i64 n] w fun e w' => e = .returned (.string (strOf (List.replicate n 0))) ∧ Chg (fun _ => False) w w' := by
  have hs : (⟨#[0]⟩ : ByteArray).size = 1 := rfl
  by_cases h : n = 1
  · subst h
    refine (Tryz.strings_Repeat_one ⟨#[0]⟩ w).mono ?_
    rintro e w' ⟨rfl, rfl⟩
    exact ⟨rfl, Chg.refl _ _⟩
  · refine (Tryz.strings_Repeat_main ⟨#[0]⟩ n w (by omega) (by omega) (by rw [hs]; omega) (by decide)).mono ?_
    rintro e w' ⟨rfl, hb⟩
    exact ⟨by rw [show (⟨#[0]⟩ : ByteArray).data.toList = [0] from rfl, rep0]; rfl, Chg.of_below hb _⟩
theorem leaf_zero : leafE 0 0 0 ⟨#[]⟩ ⟨#[]⟩ [] = 1 := by decide
set_option maxRecDepth 100000 in
set_option maxHeartbeats 2000000 in
theorem fbegin_calls (w0 w : World) (f c d : Nat) (v z cc : Int) (h t : ByteArray) (A : Option Addr) (cap : Nat) (r : Option Nat) (l : List ByteArray) (N : Nat) (num last : Nat) (sec : List (List UInt8)) (ho : OpenE w0 w f c d num last sec) (hr : Rg sec num last []) (hrow : TRow w (.slice A l.length cap) r l) (g : GoodB v z cc h t l) (hz : z = N) (hsm : 97 + 32 * l.length + N + l.length ≤ 6336) (hn : num ≤ 1000) :
    Calls Tryz.prog 12 #[.pointer (some ⟨f, 0, none⟩), .agg #[.int .i64 v, .int .i64 z, .int .i64 cc, .string h, .string t, .slice A l.length cap]] w fun e w' => e = .returned (.int .i64 0) ∧ ∃ sec', FS w0 w' f c d v z cc h t l (List.replicate l.length 0) (List.replicate N 0) (num + 1) (1 - last) sec' := by
  subst hz
  obtain ⟨a1, a2, a3, a4, b1, b2, a6, a7, a8⟩ := g.rng
  obtain ⟨hl32, hcnt, hroot⟩ := g.all
  obtain ⟨gb1, gb2⟩ := g.bytes
  have hl0 : 0 < l.length := List.length_pos_iff.2 g.ne
  obtain ⟨hf0, hf, hcl, hdv⟩ := ho
  obtain ⟨hc0, hcg, mn, mw, hcb, hmn, hmw⟩ := hcl
  have hSs : (strOf (preB v N cc h t ++ catS l)).size ≤ 65535 := by rw [strOf_size, List.length_append, preB_len v N cc h t a6 a7, catS_32 l hl32]; omega
  obtain ⟨b, hb⟩ : ∃ b, w.heap.size = b := ⟨_, rfl⟩
  obtain ⟨W, hW⟩ : ∃ W, w.alloc (.cells #[.int .i64 v, .int .i64 (N : Int), .int .i64 cc, .string h, .string t, .slice A l.length cap] 27) = W := ⟨_, rfl⟩
  have hgW : Chg (fun _ => False) w W := by rw [← hW]; exact (Chg.refl _ w).alloc _
  have hzb : W.heap[b]? = some (.cells #[.int .i64 v, .int .i64 (N : Int), .int .i64 cc, .string h, .string t, .slice A l.length cap] 27 (0, 0)) := by rw [← hW, ← hb]; exact blkAlloc w _
  have CB := Lib.hid (Bytes_calls W v N cc h t A cap r l (SRow.chg hrow hgW (fun _ _ h => h)) (by omega) (fun y hy => by rw [hl32 y hy]; decide) (by omega) (by omega))
  rw [gb1, gb2] at CB
  have CZ := Lib.hid (fun w => Bytes_calls w 0 0 0 ⟨#[]⟩ ⟨#[]⟩ none 0 none [] (SRow.nil _) (by decide) (fun y hy => absurd hy (by simp)) (by decide) (by decide))
  rw [leaf_zero] at CZ
  obtain ⟨X, hX⟩ : ∃ X, billT 0 0 0 ⟨#[]⟩ ⟨#[]⟩ [] = X := ⟨_, rfl⟩
  rw [hX] at CZ
  clear hX
  have C1 := Lib.hid (fun w => rep_calls w l.length hl0 (by omega))
  have C2 := Lib.hid (fun w => rep_calls w N (by omega) (by omega))
  obtain ⟨S, hS⟩ : ∃ S, strOf (preB v N cc h t ++ catS l) = S := ⟨_, rfl⟩
  rw [hS] at CB hSs
  have HS := Lib.hid hS
  have HZB := Lib.hid hzb
  have HGW := Lib.hid hgW
  have HF := Lib.hid (hgW.obj hf (fun h => h))
  have HCB := Lib.hid (hgW.obj hcb (fun h => h))
  have HMN := Lib.hid (hmn.chg hgW (fun h => h))
  have HDV := Lib.hid (Dv.kept (S := fun _ => False) hdv (KeptT.of_chg hgW) (fun _ _ h => h) (hcg.trans hgW (fun _ h => h.elim)))
  have HCG := Lib.hid (hcg.trans hgW (fun _ h => h.elim))
  have HR := Lib.hid hr
  have HG := Lib.hid g
  have q0 := blkCell hzb 0
  have q1 := blkCell hzb 1
  have q2 := blkCell hzb 2
  have q3 := blkCell hzb 3
  have q4 := blkCell hzb 4
  have q5 := blkCell hzb 5
  have d0 : ((l.length : Int) == 0) = false := beq_eq_false_iff_ne.2 (by omega)
  clear hf hcb hmn hdv hcg hzb hgW hrow g hr hS gb1 gb2 hl32 hcnt hroot
  go_enter Tryz.func12, Tryz.ntmps12
  go_wp2_with fail
  refine (CB.out).mono ?_
  rintro e w1 ⟨rfl, hg1⟩
  have HG1 := Lib.hid hg1
  have HB1 := Lib.hid (hg1.obj HZB.out (fun h => h))
  have HF1 := Lib.hid (hg1.obj HF.out (fun h => h))
  have f0 : w1.cell? ⟨f, 0, none⟩ = some (.pointer (some ⟨c, 0, none⟩)) := blkCell HF1.out 0
  have f1 : w1.cell? ⟨f, 1, none⟩ = some (.int .i64 0) := blkCell HF1.out 1
  have f2 : w1.cell? ⟨f, 2, none⟩ = some (.int .i64 0) := blkCell HF1.out 2
  have f3 : w1.cell? ⟨f, 3, none⟩ = some (.int .i64 0) := blkCell HF1.out 3
  have f4 : w1.cell? ⟨f, 4, none⟩ = some (.string ⟨#[]⟩) := blkCell HF1.out 4
  have f5 : w1.cell? ⟨f, 5, none⟩ = some (.string ⟨#[]⟩) := blkCell HF1.out 5
  have f6 : w1.cell? ⟨f, 6, none⟩ = some (.slice none 0 0) := blkCell HF1.out 6
  have p5 : w1.cell? ⟨b, 5, none⟩ = some (.slice A l.length cap) := blkCell HB1.out 5
  clear hg1 CB q0 q1 q2 q3 q4 q5
  go_wp2_with fail
  refine (CZ.out w1).mono ?_
  rintro e w2 ⟨rfl, hg2⟩
  have HG2 := Lib.hid (HG1.out.trans hg2 (fun _ h => h.elim))
  clear hg2 f1 f2 f3 f4 f5 f6 p5 f0
  have f0 : w2.cell? ⟨f, 0, none⟩ = some (.pointer (some ⟨c, 0, none⟩)) := blkCell (HG2.out.obj HF.out (fun h => h)) 0
  have CE := Lib.hid (empty_calls w2 f c mn f0 (blkCell (HG2.out.obj HCB.out (fun h => h)) 3) (HMN.out.chg HG2.out (fun h => h)))
  go_wp2_with fail
  (with_reducible refine CE.out.mono ?_)
  rintro e w3 ⟨rfl, hg3⟩
  have HG3 := Lib.hid (HG2.out.trans hg3 (fun _ h => h.elim))
  clear hg3 f0 CE CZ
  have HF3 := Lib.hid (HG3.out.obj HF.out (fun h => h))
  have HC3 := Lib.hid (HG3.out.obj HCB.out (fun h => h))
  have HB3 := Lib.hid (HG3.out.obj HZB.out (fun h => h))
  have HM3 := Lib.hid (HMN.out.chg HG3.out (fun h => h))
  have f0 : w3.cell? ⟨f, 0, none⟩ = some (.pointer (some ⟨c, 0, none⟩)) := blkCell HF3.out 0
  have P1 : Hid (Calls Tryz.prog 40 #[.pointer (some ⟨c, 0, none⟩), .string ⟨#[98, 105, 108, 108]⟩, .string S] w3 fun e w' => e = .returned (.int .i64 0) ∧ MapAt w' mn [(kB, S)] ∧ Chg (fun j => j = mn) w3 w') :=
    Lib.hid (Put_calls w3 c mn [] [(kB, S)] kB S (blkCell HC3.out 3) HM3.out (by decide) (by decide) hSs (by decide) (put_b S))
  go_wp2_with fail
  (with_reducible refine P1.out.mono ?_)
  rintro e w4 ⟨rfl, hm4, hg4⟩
  have nf : f ≠ mn := fun e => HM3.out.ne HF3.out e.symm
  have nc : c ≠ mn := fun e => HM3.out.ne HC3.out e.symm
  have nb : b ≠ mn := fun e => HM3.out.ne HB3.out e.symm
  have HF4 := Lib.hid (hg4.obj HF3.out nf)
  have HC4 := Lib.hid (hg4.obj HC3.out nc)
  have HB4 := Lib.hid (hg4.obj HB3.out nb)
  have HM4 := Lib.hid hm4
  have HG4 := Lib.hid hg4
  have NF := Lib.hid (show f ≠ mn ∧ c ≠ mn ∧ b ≠ mn from ⟨nf, nc, nb⟩)
  clear f0 P1 hm4 hg4 nf nc nb
  have f0 : w4.cell? ⟨f, 0, none⟩ = some (.pointer (some ⟨c, 0, none⟩)) := blkCell HF4.out 0
  have p5 : w4.cell? ⟨b, 5, none⟩ = some (.slice A l.length cap) := blkCell HB4.out 5
  have D := Lib.hid (Chg.refl (fun j => j = mn) w4)
  have CBX := Lib.hid (fun (w' : World) (c' : Chg (fun j => j = mn) w4 w') => (⟨blkCell (c'.obj HF4.out NF.out.1) 0, blkCell (c'.obj HB4.out NF.out.2.2) 5⟩ : w'.cell? ⟨f, 0, none⟩ = some (.pointer (some ⟨c, 0, none⟩)) ∧ w'.cell? ⟨b, 5, none⟩ = some (.slice A l.length cap)))
  have hHs : (strOf (List.replicate l.length (0 : UInt8))).size ≤ 65535 := by rw [strOf_size, List.length_replicate]; omega
  have hDs : (strOf (List.replicate N (0 : UInt8))).size ≤ 65535 := by rw [strOf_size, List.length_replicate]; omega
  obtain ⟨HH, hHH⟩ : ∃ HH, strOf (List.replicate l.length (0 : UInt8)) = HH := ⟨_, rfl⟩
  obtain ⟨DD, hDD⟩ : ∃ DD, strOf (List.replicate N (0 : UInt8)) = DD := ⟨_, rfl⟩
  rw [hHH] at C1 hHs
  rw [hDD] at C2 hDs
  have P2 : Hid (∀ w5, Chg (fun _ => False) w4 w5 → Calls Tryz.prog 40 #[.pointer (some ⟨c, 0, none⟩), .string ⟨#[104, 97, 118, 101]⟩, .string HH] w5 fun e w' => e = .returned (.int .i64 0) ∧ MapAt w' mn [(kB, S), (kH, HH)] ∧ Chg (fun j => j = mn) w5 w') :=
    Lib.hid (fun w5 hg => Put_calls w5 c mn [(kB, S)] [(kB, S), (kH, HH)] kH HH (blkCell (hg.obj HC4.out (fun h => h)) 3) (HM4.out.chg hg (fun h => h)) (by decide) (by decide) hHs (by show 1 < 60; decide) (put_bh S HH))
  have HHH := Lib.hid hHH
  have HDD := Lib.hid hDD
  clear f0 p5 hHH hDD
  go_wp2_with fail
  go_region_held3 (fun w' => w'.cell? ⟨f, 0, none⟩ = some (.pointer (some ⟨c, 0, none⟩)) ∧ w'.cell? ⟨b, 5, none⟩ = some (.slice A l.length cap)) (first | exact CBX.out _ D.out | exact CBX.out _ D.out.drew)
    (first
      | (go_at_call 41; refine (C1.out _).mono ?_; rintro e w5 ⟨rfl, hg⟩; have D5 := Lib.hid ((Chg.refl (fun _ => False) w4).drew.trans hg (fun _ h => h.elim)); have D := Lib.hid (D5.out.mono (S' := fun j => j = mn) (fun _ h => h.elim)); clear hg)
      | (go_at_call 40; refine (P2.out w5 D5.out).mono ?_; rintro e w6 ⟨rfl, hm6, hg⟩; have HM6 := Lib.hid hm6; have D := Lib.hid (D.out.trans hg (fun _ h => .inl h)); clear hg hm6)
      | fail "NOFIT")
  have HF6 := Lib.hid (D.out.obj HF4.out NF.out.1)
  have HC6 := Lib.hid (D.out.obj HC4.out NF.out.2.1)
  have HB6 := Lib.hid (D.out.obj HB4.out NF.out.2.2)
  have D46 := Lib.hid D.out
  have D := Lib.hid (Chg.refl (fun j => j = mn) w6)
  have CBX := Lib.hid (fun (w' : World) (c' : Chg (fun j => j = mn) w6 w') => (⟨blkCell (c'.obj HF6.out NF.out.1) 0, blkCell (c'.obj HB6.out NF.out.2.2) 1⟩ : w'.cell? ⟨f, 0, none⟩ = some (.pointer (some ⟨c, 0, none⟩)) ∧ w'.cell? ⟨b, 1, none⟩ = some (.int .i64 (N : Int))))
  have P3 : Hid (∀ w7, Chg (fun _ => False) w6 w7 → Calls Tryz.prog 40 #[.pointer (some ⟨c, 0, none⟩), .string ⟨#[100, 97, 116, 97]⟩, .string DD] w7 fun e w' => e = .returned (.int .i64 0) ∧ MapAt w' mn (dlM S DD HH) ∧ Chg (fun j => j = mn) w7 w') :=
    Lib.hid (fun w7 hg => Put_calls w7 c mn [(kB, S), (kH, HH)] (dlM S DD HH) kD DD (blkCell (hg.obj HC6.out (fun h => h)) 3) (HM6.out.chg hg (fun h => h)) (by decide) (by decide) hDs (by show 2 < 60; decide) (put_bhd S DD HH))
  go_wp2_with fail
  go_region_held3 (fun w' => w'.cell? ⟨f, 0, none⟩ = some (.pointer (some ⟨c, 0, none⟩)) ∧ w'.cell? ⟨b, 1, none⟩ = some (.int .i64 (N : Int))) (first | exact CBX.out _ D.out | exact CBX.out _ D.out.drew)
    (first
      | (go_at_call 41; refine (C2.out _).mono ?_; rintro e w7 ⟨rfl, hg⟩; have D7 := Lib.hid ((Chg.refl (fun _ => False) w6).drew.trans hg (fun _ h => h.elim)); have D := Lib.hid (D7.out.mono (S' := fun j => j = mn) (fun _ h => h.elim)); clear hg)
      | (go_at_call 40; refine (P3.out w7 D7.out).mono ?_; rintro e w8 ⟨rfl, hm8, hg⟩; have HM8 := Lib.hid hm8; have D := Lib.hid (D.out.trans hg (fun _ h => .inl h)); clear hg hm8)
      | fail "NOFIT")
  have D38 := Lib.hid ((HG4.out.trans D46.out (fun _ h => .inl h)).trans D.out (fun _ h => .inl h))
  have HF8 := Lib.hid (D38.out.obj HF3.out NF.out.1)
  have HC8 := Lib.hid (D38.out.obj HC3.out NF.out.2.1)
  have G3 := Lib.hid (HCG.out.trans HG3.out (fun _ h => h.elim))
  have G8 := Lib.hid (G3.out.trans D38.out (fun k e => .inr (by rw [e]; exact hmw)))
  have DV3 := Dv.kept (S := fun _ => False) HDV.out (KeptT.of_chg HG3.out) (fun _ _ h => h) G3.out
  have DV8 := Lib.hid (Dv.chgm DV3 D38.out HM3.out.obj G8.out)
  have hcm : MapAt w8 mn (conM v N cc h t l (List.replicate l.length 0) (List.replicate N 0)) := by
    show MapAt w8 mn (dlM _ _ _)
    rw [HS.out, HDD.out, HHH.out]
    exact HM8.out
  have FC := Lib.hid (fcommit_calls w0 w8 f c d 0 0 0 ⟨#[]⟩ ⟨#[]⟩ none none none 0 0 0 0 0 0 v N cc h t l (List.replicate l.length 0) (List.replicate N 0) num last sec [] hf0 HF8.out ⟨hc0, G8.out, mn, mw, HC8.out, hcm, hmw⟩ DV8.out HR.out HG.out
    ⟨List.length_replicate, by rw [List.length_replicate], by rw [List.any_eq_false]; intro x hx; rw [List.eq_of_mem_replicate hx]; decide, by rw [List.length_replicate]; exact hsm⟩ hn)
  clear DV3 hcm
  go_wp2_with fail
  (with_reducible refine FC.out.mono ?_)
  rintro e w9 ⟨rfl, sec', hfs, _⟩
  have FIN := Lib.hid hfs
  clear hfs
  go_wp2_with fail
  go_ret
  exact ⟨rfl, sec', FIN.out⟩
end Go.Proofs.YtnhdlclicjmmnaaGreat
