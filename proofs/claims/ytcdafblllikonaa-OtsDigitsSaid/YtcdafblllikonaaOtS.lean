/- The walk of OtsDigits. -/
import Derived.Test.YtcdafblllikonaaOtH
import Derived.Test.YtcdafblllikonaaOt3
namespace Go.Proofs.Ytcdafblllikonaa
open Go.RowKit
theorem carry (n i : Int) (X : ByteArray) (p q : Int) (p0 : 0 ≤ p) (pq : p ≤ q) : chainF n i p (chainF n i 0 X p.toNat) (q - p).toNat = chainF n i 0 X q.toNat := by
  have h := chainF_add n i 0 X p.toNat (q - p).toNat
  rw [show (0 : Int) + (p.toNat : Int) = p from by omega, show p.toNat + (q - p).toNat = q.toNat from by omega] at h
  exact h
def W18 (w : World) (d c : List Int) : World := (((w.alloc (.cells (dcells []) 33)).alloc (.cells (dcells []) 33)).setCells w.heap.size 0 (dcells d).toList).setCells (w.heap.size + 1) 0 (dcells c).toList
theorem blk18 (w : World) : ((w.alloc (.cells (dcells []) 33)).alloc (.cells (dcells []) 33)).heap[w.heap.size]? = some (.cells (dcells []) 33 (0, 0)) ∧
    ((w.alloc (.cells (dcells []) 33)).alloc (.cells (dcells []) 33)).heap[w.heap.size + 1]? = some (.cells (dcells []) 33 (0, 0)) :=
  ⟨blkOld (blkAlloc w _) _, by have := blkAlloc (w.alloc (.cells (dcells []) 33)) (.cells (dcells []) 33); simpa using this⟩
theorem two18 (w : World) : (∀ d : List Int, d.length = 18 → ((w.alloc (.cells (dcells []) 33)).alloc (.cells (dcells []) 33)).there w.heap.size 0 (dcells d).size) ∧
    ∀ d c : List Int, d.length = 18 → c.length = 18 → (((w.alloc (.cells (dcells []) 33)).alloc (.cells (dcells []) 33)).setCells w.heap.size 0 (dcells d).toList).there (w.heap.size + 1) 0 (dcells c).size := by
  obtain ⟨h1, h2⟩ := blk18 w
  refine ⟨fun d hd => thereBlock h1 _ (by rw [dcells_size _ (by omega), dcells_size _ (by simp)]; exact Nat.le_refl _), fun d c hd hc => ?_⟩
  have h3 := (Chg.setCells (dcells d).toList 0 _ (Chg.refl (fun k => k = w.heap.size) _)).obj h2 (fun e => by omega)
  exact thereBlock h3 _ (by rw [dcells_size _ (by omega), dcells_size _ (by simp)]; exact Nat.le_refl _)
theorem both18 (w : World) (d c : List Int) (hd : d.length = 18) (hc : c.length = 18) : (W18 w d c).heap[w.heap.size]? = some (.cells (dcells d) 33 (0, 0)) ∧ (W18 w d c).heap[w.heap.size + 1]? = some (.cells (dcells c) 33 (0, 0)) ∧ Chg (fun _ => False) w (W18 w d c) := by
  obtain ⟨h1, h2⟩ := blk18 w
  have g1 := Chg.setCells (dcells d).toList 0 _ (Chg.refl (fun k => k = w.heap.size) ((w.alloc (.cells (dcells []) 33)).alloc (.cells (dcells []) 33)))
  have h3 := g1.obj h2 (fun e => by omega)
  have h4 := setCells_whole (ds := dcells d) h1 (by rw [dcells_size _ (by omega), dcells_size _ (by simp)])
  have g2 := Chg.setCells (dcells c).toList 0 _ (Chg.refl (fun k => k = w.heap.size + 1) (((w.alloc (.cells (dcells []) 33)).alloc (.cells (dcells []) 33)).setCells w.heap.size 0 (dcells d).toList))
  refine ⟨g2.obj h4 (fun e => by omega), setCells_whole h3 (by rw [dcells_size _ (by omega), dcells_size _ (by simp)]), ?_⟩
  exact ((((Chg.refl _ w).alloc _).alloc _).trans g1 (fun k e => .inr (by omega))).trans g2 (fun k e => .inr (by omega))
set_option maxRecDepth 100000 in
set_option maxHeartbeats 20000000 in
theorem OtsDigits_walk (n : Int) (a b : ByteArray) (w : World) (hn : 0 ≤ n ∧ n ≤ 65535) (ha : a.size ≤ 140737488351232) (hb : b.size ≤ 140737488351232) :
    Calls Try.prog 6 #[.int .u16 n, .string a, .string b] w fun e w' => e = .returned (.bool true) ∧ Chg (fun _ => False) w w' := by
  have C1 := Lib.hid (fun w (y : ByteArray) (hy : y.size ≤ 140737488351232) => Sign_calls w seedS y n (by decide) hy)
  have C2 := Lib.hid (fun w => rdigits_calls w a ha)
  have C3 := Lib.hid (fun w => rdigits_calls w b hb)
  obtain ⟨DA, hDA⟩ : ∃ DA, dcells (digF a) = DA := ⟨_, rfl⟩
  obtain ⟨DB, hDB⟩ : ∃ DB, dcells (digF b) = DB := ⟨_, rfl⟩
  rw [hDA] at C2
  rw [hDB] at C3
  have HDA := Lib.hid hDA
  have HDB := Lib.hid hDB
  clear hDA hDB
  have hsF : ∀ t, sigF seedS n t = catF (sigG seedS n (digF t)) := fun t => if_pos hn
  have hsz : ∀ t, (sigF seedS n t).size = 288 := fun t => by rw [hsF t]; exact catF_size _ (fun i _ => sigG_size seedS n _ i)
  have hxa := hsz a
  have hxb := hsz b
  obtain ⟨h0, h1⟩ := hn
  obtain ⟨F, hF⟩ : ∃ F, sigF seedS n = F := ⟨_, rfl⟩
  simp only [hF, fitE_in ⟨h0, h1⟩] at C1
  have HF := Lib.hid hF
  have HSF := Lib.hid hsF
  obtain ⟨x, hx⟩ : ∃ x, F a = x := ⟨_, rfl⟩
  obtain ⟨y, hy⟩ : ∃ y, F b = y := ⟨_, rfl⟩
  rw [hF, hx] at hxa
  rw [hF, hy] at hxb
  have hxa' : (x.size : Int) = 288 := by omega
  have hxb' : (y.size : Int) = 288 := by omega
  clear hF hsF hsz
  have HX := Lib.hid hx
  have HY := Lib.hid hy
  have tok1 : True := trivial
  have tok2 : True := trivial
  go_enter Try.func6, Try.ntmps6
  go_wp2_with (first
    | (go_at_call 7; refine (signs_calls _).mono ?_; rintro e w0 ⟨rfl, hg⟩; have G0 := Lib.hid hg; clear hg)
    | (go_at_call 10; refine (C1.out _ _ (by assumption)).mono ?_; rintro e w1 ⟨rfl, hg⟩; (first | (have _t := tok2; have G1P := Lib.hid hg; clear tok2 _t) | have G1 := Lib.hid hg); clear hg)
    | (go_at_call 14; (with_reducible refine (C2.out _).mono ?_); rintro e w2 ⟨rfl, hg⟩; have G2 := Lib.hid hg; clear hg)
    | (go_at_call 14; (with_reducible refine (C3.out _).mono ?_); rintro e w2 ⟨rfl, hg⟩; have G3 := Lib.hid hg; clear hg)
    | (have _t := tok1; refine wpList_store_mid rfl 33 (.tmp 11) (.tmp 38) rfl w2.heap.size 0 DA rfl rfl (by rw [← HDA.out]; exact (two18 w2).1 (digF a) (digF_len a)) (by rw [← HDA.out]; exact dInfo _ (digF_len a)) (by rw [← HDA.out]; exact dcells_one _) ?_; clear tok1 _t; have HT2 := (two18 w2).2 (digF a) (digF b) (digF_len a) (digF_len b); rw [HDA.out, HDB.out] at HT2; have HT3 := Lib.hid HT2; clear HT2)
    | (have _t := HT3; refine wpList_store_mid rfl 33 (.tmp 12) (.tmp 40) rfl (w2.heap.size + 1) 0 DB rfl rfl (by exact HT3.out) (by rw [← HDB.out]; exact dInfo _ (digF_len b)) (by rw [← HDB.out]; exact dcells_one _) ?_; clear HT3 _t; obtain ⟨K1, K2, K3⟩ := both18 w2 (digF a) (digF b) (digF_len a) (digF_len b); rw [HDA.out] at K1; rw [HDB.out] at K2; obtain ⟨w3, hw3⟩ : ∃ w3, W18 w2 (digF a) (digF b) = w3 := ⟨_, rfl⟩; rw [hw3] at K1 K2 K3; have hw4 : (((w2.alloc (.cells (dcells []) 33)).alloc (.cells (dcells []) 33)).setCells w2.heap.size 0 DA.toList).setCells (w2.heap.size + 1) 0 DB.toList = w3 := (by rw [← HDA.out, ← HDB.out]; exact hw3); change wpList _ _ _ _ _ ((((w2.alloc (.cells (dcells []) 33)).alloc (.cells (dcells []) 33)).setCells w2.heap.size 0 DA.toList).setCells (w2.heap.size + 1) 0 DB.toList); rw [hw4]; have J1 := Lib.hid K1; have J2 := Lib.hid K2; have J3 := Lib.hid K3; clear K1 K2 K3 hw3 hw4))
  obtain ⟨D, hD⟩ : ∃ D, w2.heap.size = D := ⟨_, rfl⟩
  rw [hD] at J1 J2 ⊢
  clear hD
  go_loopw [49] (fun k wx => ∃ i : Nat, i ≤ 18 ∧ k = .int .i64 i ∧ HD (Chg (fun _ => False) w3 wx)) (fun k _ => 18 - (intOf k).toNat)
  case atStart => exact ⟨0, by omega, rfl, ⟨Chg.refl _ _⟩⟩
  case round =>
    obtain ⟨i, hi, rfl, HG⟩ := hrel
    obtain ⟨w4, rfl⟩ : ∃ w4, w4 = wr := ⟨_, rfl⟩
    by_cases hlt : i < 18
    · obtain ⟨da, hda⟩ : ∃ da, (digF a).getD i 0 = da := ⟨_, rfl⟩
      obtain ⟨db, hdb⟩ : ∃ db, (digF b).getD i 0 = db := ⟨_, rfl⟩
      have ca : w4.cell? ⟨D, i, none⟩ = some (.int .i64 da) := by rw [← hda]; exact dAt (T := 33) (by rw [HDA.out]; exact HG.out.obj J1.out (fun h => h)) i (by rw [digF_len]; exact hlt)
      have cb : w4.cell? ⟨D + 1, i, none⟩ = some (.int .i64 db) := by rw [← hdb]; exact dAt (T := 33) (by rw [HDB.out]; exact HG.out.obj J2.out (fun h => h)) i (by rw [digF_len]; exact hlt)
      obtain ⟨a0, a1⟩ := digF_range a i
      obtain ⟨b0, b1⟩ := digF_range b i
      rw [hda] at a0 a1
      rw [hdb] at b0 b1
      have su : x.extract (16 * i) (16 * i + 16) = chainF n i 0 (secretF seedS n i) da.toNat := by
        rw [← HX.out, ← HF.out, HSF.out a, catF_part _ (fun j _ => sigG_size seedS n _ j) i hlt, sigG, hda]
      have sv : y.extract (16 * i) (16 * i + 16) = chainF n i 0 (secretF seedS n i) db.toNat := by
        rw [← HY.out, ← HF.out, HSF.out b, catF_part _ (fun j _ => sigG_size seedS n _ j) i hlt, sigG, hdb]
      obtain ⟨X, hX⟩ : ∃ X, secretF seedS n i = X := ⟨_, rfl⟩
      have sX : X.size = 16 := by rw [← hX]; exact secretF_size _ _ _
      rw [hX] at su sv
      have HSX := Lib.hid sX
      clear hX sX hda hdb
      obtain ⟨u, hu⟩ : ∃ u, x.extract (16 * i) (16 * i + 16) = u := ⟨_, rfl⟩
      obtain ⟨v, hv⟩ : ∃ v, y.extract (16 * i) (16 * i + 16) = v := ⟨_, rfl⟩
      rw [hu] at su
      rw [hv] at sv
      have HSU := Lib.hid su
      have HSV := Lib.hid sv
      clear su sv
      have hi0 : (0 : Int) ≤ (i : Int) := by omega
      have hi1 : (i : Int) < 18 := by omega
      have ht0 : (i : Int).toNat = i := by omega
      have k0 : IntKind.i64.wrap (16 * (i : Int)) = 16 * (i : Int) := IntWalk.i64_in _ (by omega)
      have k1 : IntKind.i64.wrap (16 * (i : Int) + 16) = 16 * (i : Int) + 16 := IntWalk.i64_in _ (by omega)
      have t0 : (16 * (i : Int)).toNat = 16 * i := by omega
      have t1 : (16 * (i : Int) + 16).toNat = 16 * i + 16 := by omega
      have q0 : (0 : Int) ≤ 16 * (i : Int) := by omega
      have q1 : 16 * (i : Int) ≤ 16 * (i : Int) + 16 := by omega
      have q2 : 16 * (i : Int) + 16 ≤ 288 := by omega
      have q3 : (0 : Int) ≤ 16 * (i : Int) + 16 := by omega
      by_cases hd : da = db
      · subst hd
        have huv : u = v := HSU.out.trans HSV.out.symm
        subst huv
        have d1 : (da == da) = true := by simp
        go_wp2_with fail
        go_quiet (fail)
        go_wp2_with fail
        go_quiet (fail)
        go_wp2_with fail
        go_quiet (fail)
        go_wp2_with fail
        go_loopw [16, 20] (fun l k wx => l = .string u ∧ k = .int .i64 da ∧ HD (Chg (fun _ => False) w3 wx)) (fun _ _ _ => 0)
        case atStart => exact ⟨rfl, rfl, ⟨HG.out.drewN _⟩⟩
        case round =>
          obtain ⟨rfl, rfl, HG5⟩ := hrel
          go_wp2_with fail
          exact ⟨⟨i + 1, by omega, by go_num, ⟨HG5.out⟩⟩, by simp [intOf]; omega⟩
      · have d1 : (da == db) = false := by simpa using hd
        have hd2 : ¬ (da : Int) = db := hd
        go_wp2_with fail
        go_quiet (fail)
        go_wp2_with fail
        go_quiet (fail)
        go_wp2_with fail
        go_quiet (fail)
        go_upto_if 88 with fail
        go_cut [16, 17, 18, 19] (fun l h f t wx => ∃ (lo up : ByteArray) (fr tt : Int), l = .string lo ∧ h = .string up ∧ f = .int .i64 fr ∧ t = .int .i64 tt ∧ HD (0 ≤ fr ∧ fr ≤ tt ∧ tt ≤ 15 ∧ lo.size = 16 ∧ chainF n i fr lo (tt - fr).toNat = up) ∧ HD (Chg (fun _ => False) w3 wx))
        case first =>
          by_cases hlt2 : da < db
          · go_wp2_with fail
            go_meet
            exact ⟨u, v, da, db, rfl, rfl, rfl, rfl, ⟨⟨a0, by omega, b1, by rw [HSU.out]; exact chainF_size _ _ _ _ HSX.out _, by rw [HSU.out, HSV.out]; exact carry n i X da db a0 (by omega)⟩⟩, ⟨HG.out.drewN _⟩⟩
          · have hgt : db < da := by omega
            go_wp2_with fail
            go_quiet (fail)
            go_wp2_with fail
            go_meet
            exact ⟨v, u, db, da, rfl, rfl, rfl, rfl, ⟨⟨b0, by omega, a1, by rw [HSV.out]; exact chainF_size _ _ _ _ HSX.out _, by rw [HSU.out, HSV.out]; exact carry n i X db da b0 (by omega)⟩⟩, ⟨(HG.out.drewN _).drewN _⟩⟩
        case rest =>
          obtain ⟨lo, up, fr, tt, rfl, rfl, rfl, rfl, HL, HG5⟩ := hcut
          obtain ⟨f0, ft, tle, hlo, hup⟩ := HL.out
          have HLO := Lib.hid hlo
          have HUP := Lib.hid hup
          clear hlo hup HL HG HSU HSV HSX ca cb ht0 k0 k1 t0 t1 q0 q1 q2 q3 d1 hd hd2 hu hv a0 a1 b0 b1
          go_wp2_with fail
          go_loopw [16, 20] (fun l k wx => ∃ (c : Nat), (c : Int) ≤ tt - fr ∧ k = .int .i64 (fr + c) ∧ l = .string (chainF n i fr lo c) ∧ HD (Chg (fun _ => False) w3 wx)) (fun _ k _ => (tt - intOf k).toNat)
          case atStart => exact ⟨0, by omega, by simp, rfl, ⟨HG5.out⟩⟩
          case round =>
            obtain ⟨c, hc, rfl, rfl, HG6⟩ := hrel
            obtain ⟨w6, rfl⟩ : ∃ w6, w6 = wr := ⟨_, rfl⟩
            by_cases hltc : fr + c < tt
            · have HB := Lib.hid (bulk4 n i (fr + c) (chainF n i fr lo c) (chainF_size _ _ _ _ HLO.out _))
              have hsz := tagF_size 33 [strN n 2, strN i 1, strN (fr + c) 1, chainF n i fr lo c]
              have hu := u64_same n h0 h1
              have hi8 := u8_wrap i
              have hk8 := u8_wrap (fr + c)
              have i1' := c0 i
              have i2 := c0d i
              have i3 := c1 i
              have i4 := c1d i
              have j1 := c0 (fr + c)
              have j2 := c0d (fr + c)
              have j3 := c1 (fr + c)
              have j4 := c1d (fr + c)
              have TAIL : ∀ w4, Chg (fun _ => False) w6 w4 → ∃ (c2 : Nat), (c2 : Int) ≤ tt - fr ∧ Value.int .i64 (fr + c + 1) = .int .i64 (fr + c2) ∧ Value.string (linkF n i (fr + c) (chainF n i fr lo c)) = .string (chainF n i fr lo c2) ∧ HD (Chg (fun _ => False) w3 w4) := fun w4 h4 => ⟨c + 1, by omega, by go_num, rfl, ⟨HG6.out.trans h4 (fun _ h => .inl h)⟩⟩
              have TT := Lib.hid TAIL
              clear TAIL HG6 HG5
              go_wp2_with fail
              go_region_with (first
                | (go_at_call 16; refine (Num2_calls _ n 2 h0 (by decide)).mono ?_; rintro e w1 ⟨rfl, hg⟩; (first | have p1 := convD i hg | skip); (first | have p2 := convDo i hg | skip); (first | have p3 := convDD i hg | skip); (first | have p4 := convDDo i hg | skip); (first | have q1 := convD (fr + c) hg | skip); (first | have q2 := convDo (fr + c) hg | skip); (first | have q3 := convDD (fr + c) hg | skip); (first | have q4 := convDDo (fr + c) hg | skip); have H1 := Lib.hid hg; clear hg)
                | (go_at_call 15; refine (rTag_calls _ 33 (by decide) _ 4 4 [strN n 2, strN i 1, strN (fr + c) 1, chainF n i fr lo c] (strsAt (by simp) (by simp)) rfl HB.out).mono ?_; rintro e w3 ⟨rfl, hg⟩; have H3 := Lib.hid hg; clear hg))
              all_goals go_wp2_with fail
              all_goals (have g1 := H1.out; have g3 := H3.out; repeat (first | replace g1 := Chg.un g1 | replace g1 := Chg.und g1 | replace g3 := Chg.un g3 | replace g3 := Chg.und g3))
              all_goals exact ⟨TT.out _ (g1.trans g3 (fun _ h => h.elim)), by simp [intOf]; omega⟩
            · have hcc : (tt - fr).toNat = c := by omega
              have hup := HUP.out
              rw [hcc] at hup
              rw [hup]
              clear hcc hup
              go_wp2_with fail
              exact ⟨⟨i + 1, by omega, by go_num, ⟨HG6.out⟩⟩, by simp [intOf]; omega⟩
    · obtain rfl : i = 18 := by omega
      go_wp2_with fail
      go_ret
      exact ⟨rfl, ((((((G0.out.trans G1P.out (fun _ h => .inl h)).trans G1.out (fun _ h => .inl h)).trans G2.out (fun _ h => .inl h)).trans G3.out (fun _ h => .inl h)).trans J3.out (fun _ h => .inl h)).trans HG.out (fun _ h => .inl h))⟩
end Go.Proofs.Ytcdafblllikonaa
