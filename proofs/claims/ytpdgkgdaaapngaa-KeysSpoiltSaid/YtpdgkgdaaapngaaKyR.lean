/- Keys: the reference's New. -/
import Derived.Test.YtpdgkgdaaapngaaKyM
namespace Go.Proofs.Ytpdgkgdaaapngaa
open Go.RowKit
theorem LevelsAt.push {w w' : World} {lv lv' : Value} {r r' rq : Option Nat} {f : Nat → List ByteArray} {n : Nat} {vs : List Sl} (hv : VV w lv r vs) (hn : vs.length = n) (hj : ∀ j, j < n → ∃ rj, SS w (vs.getD j default).val rj (f j))
    (q : Sl) (hq : SS w q.val rq (f n)) (hv' : VV w' lv' r' (vs ++ [q])) (c : Chg (fun k => r = some k) w w') : LevelsAt w' lv' r' f (n + 1) := by
  have ho : Other (fun k => r = some k) w 9 := fun k hk => by
    obtain ⟨_, cs, h⟩ := SRow.lt hv hk
    exact ⟨cs, _, h, by decide⟩
  refine ⟨vs ++ [q], hv', by rw [List.length_append, hn]; rfl, fun j hjn => ?_⟩
  by_cases h : j < n
  · obtain ⟨rj, hs⟩ := hj j h
    refine ⟨rj, ?_⟩
    rw [List.getD_eq_getElem?_getD, List.getElem?_append_left (by omega), ← List.getD_eq_getElem?_getD]
    exact SRow.other hs c ho
  · obtain rfl : j = n := by omega
    refine ⟨rq, ?_⟩
    rw [List.getD_eq_getElem?_getD, List.getElem?_append_right (by omega), hn, Nat.sub_self]
    exact SRow.other hq c ho
/-- The reference's key while it is being made: c + 1 levels stand, v is the last. -/
def RSt (w wx : World) (b : Nat) (seed : ByteArray) (h : Nat) (c : Nat) (v : Value) : Prop :=
  ∃ lv r rl, wx.heap[b]? = some (.cells #[.string seed, .int .i64 h, lv, .int .i64 0] 52 (0, 0)) ∧ LevelsAt wx lv r (lev seed h) (c + 1) ∧ SS wx v rl (lev seed h c) ∧ (∀ k, r = some k → w.heap.size ≤ k) ∧ w.heap.size ≤ b ∧ Chg (fun _ => False) w wx
theorem RSt.step {w w2 w3 : World} {b n h : Nat} {seed : ByteArray} {lv : Value} {A1 : Option Addr} {n1 c1 : Nat} {r r' rq : Option Nat} {vs : List Sl} {o : Obj} (hb : w2.heap[b]? = some (.cells #[.string seed, .int .i64 h, lv, .int .i64 0] 52 (0, 0)))
    (hr : ∀ k, r = some k → w.heap.size ≤ k) (hbw : w.heap.size ≤ b) (hg : Chg (fun _ => False) w w2) (hv : VV w2 lv r vs) (hn : vs.length = n) (hj : ∀ j, j < n → ∃ rj, SS w2 (vs.getD j default).val rj (lev seed h j)) (q : Sl) (hq : SS w2 q.val rq (lev seed h n))
    (hv' : VV w3 (.slice A1 n1 c1) r' (vs ++ [q])) (hn' : Next w2 r r') (hgr : (w2.alloc o).grownBy w3 r) : RSt w (w3.setCell ⟨b, 2, none⟩ (.slice A1 n1 c1)) b seed h n q.val := by
  have c3 : Chg (fun k => r = some k) w2 w3 := Chg.ofGrown hgr
  have h3 := c3.obj hb (SRow.ne hv hb (by decide))
  have ho : Other (fun k => r = some k) w2 9 := fun k hk => by
    obtain ⟨_, cs, h⟩ := SRow.lt hv hk
    exact ⟨cs, _, h, by decide⟩
  have hl := LevelsAt.push hv hn hj q hq hv' c3
  have c4 : Chg (fun k => k = b) w3 (w3.setCell ⟨b, 2, none⟩ (.slice A1 n1 c1)) := (Chg.refl (fun k => k = b) w3).setCell (p := ⟨b, 2, none⟩) (.inl rfl) _
  refine ⟨.slice A1 n1 c1, r', rq, blkSet h3 2 _, hl.chg c4 (Other.one h3 (by decide)) (Other.one h3 (by decide)), (SRow.other hq c3 ho).other c4 (Other.one h3 (by decide)), fun k hk => ?_, hbw, (hg.trans c3 (fun k hk => .inr (hr k hk))).trans c4 (fun k hk => .inr (by rw [hk]; exact hbw))⟩
  rcases hn'.mem hk with h | h
  · exact hr k h
  · exact Nat.le_trans hg.size h
theorem strsAtD {w : World} {g : Nat} {l : List ByteArray} (hl : l.length ≤ 100) (hg : g = w.heap.size) : StrsIn (w.alloc (.cells (l.map Value.string).toArray 9)).drew (some ⟨g, 0, none⟩) l :=
  (strsAt hl hg).chg (Chg.refl _ _).drew
theorem two_pow_small (h : Nat) (hh : h ≤ 4) : 2 ^ h ≤ 16 ∧ 0 < 2 ^ h := ⟨Nat.pow_le_pow_right (by decide) hh, Nat.two_pow_pos _⟩
theorem wrap_pow (h P : Nat) (hP : 2 ^ h = P) (hs : P ≤ 16) : IntKind.i64.wrap ((2 : Int) ^ h) = P := by
  have : ((2 : Int) ^ h) = (P : Int) := by rw [← hP]; simp
  rw [this, IntKind.wrap_i64]
  omega
set_option maxRecDepth 100000 in
set_option maxHeartbeats 4000000 in
theorem rNew_calls (w : World) (seed : ByteArray) (h : Nat) (hs : seed.size ≤ 140737488351232) (hh : h ≤ 4) :
    Calls Try.prog 14 #[.string seed, .int .i64 h] w fun e w' => ∃ b, e = .returned (.tuple #[.pointer (some ⟨b, 0, none⟩), .int .i64 0]) ∧ RKey w' b seed h 0 ∧ w.heap.size ≤ b ∧ Chg (fun _ => False) w w' := by
  obtain ⟨P, hP⟩ : ∃ P : Nat, 2 ^ h = P := ⟨_, rfl⟩
  have hP2 := two_pow_small h hh
  rw [hP] at hP2
  obtain ⟨p1, p0⟩ := hP2
  have hw := wrap_pow h P hP p1
  have HP := Lib.hid hP
  clear hP
  have hh' : (h : Int) ≤ 4 := by omega
  have hh0 : (0 : Int) ≤ (h : Int) := by omega
  have C1 := Lib.hid (fun w n => rPublic_calls w seed n hs)
  obtain ⟨W1, hW⟩ : ∃ W1, w.alloc (.cells #[.string seed, .int .i64 h, .slice none 0 0, .int .i64 0] 52) = W1 := ⟨_, rfl⟩
  have HB : Hid (W1.heap[w.heap.size]? = some (.cells #[.string seed, .int .i64 h, .slice none 0 0, .int .i64 0] 52 (0, 0))) := Lib.hid (by rw [← hW]; exact blkAlloc w _)
  have HG : Hid (Chg (fun _ => False) w W1) := Lib.hid (by rw [← hW]; exact (Chg.refl _ w).alloc _)
  go_enter Try.func14, Try.ntmps14
  go_wp2_with fail
  clear hW
  go_loopw [7, 8] (fun v k wx => ∃ c : Nat, c ≤ P ∧ k = .int .i64 c ∧ HD (OwnL W1 wx v (leaves seed c))) (fun _ k _ => P - (intOf k).toNat)
  case atStart => exact ⟨0, by omega, rfl, ⟨OwnL.nil (Chg.refl _ _)⟩⟩
  case round =>
    obtain ⟨c, hc, rfl, HL⟩ := hrel
    obtain ⟨w2, rfl⟩ : ∃ w2, w2 = wr := ⟨_, rfl⟩
    by_cases hlt : c < P
    · have HO : Hid (∀ w3, Chg (fun _ => False) w2 w3 → OwnL W1 w3 u7 (leaves seed c)) := Lib.hid (fun w3 hg => HL.out.kept hg)
      obtain ⟨A0, c0, hu7, _, _⟩ := (HL.out.choose_spec.1).form
      have HV := Lib.hid hu7
      have hsz : (leaves seed c).length = c := leaves_len seed c
      have HSZ := Lib.hid hsz
      rw [hsz] at hu7
      subst hu7
      clear hsz
      go_wp2_with (first
        | (go_at_call 33; refine (C1.out _ _).mono ?_; rintro e w3 ⟨rfl, hg⟩; obtain ⟨r, hrow, hr, hch⟩ := HO.out w3 hg; have HROW := Lib.hid hrow; have HR := Lib.hid hr; have HCH := Lib.hid hch; clear hrow hr hch hg)
        | (at_builtin; refine wpList_sappend w3 rfl (.tmp 36) (.tmp 38) 38 16 rfl Try.underlying38 elemS encS_len encS_one (.slice A0 c c0) r (leaves seed c) (pubF seed c) rfl rfl HROW.out (by rw [HSZ.out]; omega) (by decide) ?_; intro A1 c1 w4 r4 hrow4 hnext4 hgrow4; have HN := Lib.hid (OwnL.next HR.out HCH.out hrow4 hnext4 hgrow4); clear hrow4 hnext4 hgrow4))
      have hN := HN.out
      rw [List.length_append, ← leaves_succ] at hN
      exact ⟨⟨c + 1, by omega, by go_num, ⟨hN⟩⟩, by simp [intOf]; omega⟩
    · obtain rfl : c = P := by omega
      obtain ⟨rl, hrow, hrl, hch⟩ := HL.out
      have hlev : leaves seed c = lev seed h 0 := by rw [← HP.out]; rfl
      rw [hlev] at hrow
      obtain ⟨g0, c0, hu7, _, _, _⟩ := SRow.val_at hrow (by rw [← hlev, leaves_len]; exact p0)
      have hsz : (lev seed h 0).length = c := by rw [← hlev, leaves_len]
      rw [hsz] at hu7
      subst hu7
      have HROW := Lib.hid hrow
      have HB2 := Lib.hid (hch.obj HB.out (fun h => h))
      have HG2 := Lib.hid (HG.out.trans hch (fun _ h => .inl h))
      have x2 := blkCell HB2.out 2
      clear hrow hrl hch hlev hsz HL
      go_wp2_with (at_builtin; refine wpList_sappend w2 rfl (.tmp 44) (.tmp 46) 50 24 rfl Try.underlying50 elemL encL_len encL_one (.slice none 0 0) none [] ⟨some ⟨g0, 0, none⟩, c, c0⟩ rfl rfl (SRow.nil w2) (by decide) (by decide) ?_; intro A1 c1 w4 r4 hrow4 hnext4 hgrow4; have HST := Lib.hid (RSt.step HB2.out (fun k (hk : none = some k) => nomatch hk) (Nat.le_refl _) HG2.out (SRow.nil w2) rfl (fun j (hj : j < 0) => absurd hj (by omega)) ⟨some ⟨g0, 0, none⟩, c, c0⟩ HROW.out hrow4 hnext4 hgrow4); have HB4 := (Chg.ofGrown hgrow4).obj HB2.out (fun e => nomatch e); have y2 := blkCell HB4 2; have z2 := blkFree HB4 2; clear hrow4 hnext4 hgrow4)
      go_loopw [7, 11] (fun v k wx => ∃ d : Nat, d ≤ h ∧ k = .int .i64 d ∧ HD (RSt w wx w.heap.size seed h d v)) (fun _ k _ => h - (intOf k).toNat)
      case atStart => exact ⟨0, by omega, rfl, ⟨HST.out⟩⟩
      case round =>
        obtain ⟨d, hd, rfl, HS⟩ := hrel
        obtain ⟨w5, rfl⟩ : ∃ w5, w5 = wr := ⟨_, rfl⟩
        obtain ⟨lv, r, rl, hb, hl, hss, hr, hbw, hg⟩ := HS.out
        by_cases hlt : d < h
        · obtain ⟨M, hM⟩ : ∃ M, 2 ^ (h - (d + 1)) = M := ⟨_, rfl⟩
          obtain ⟨N2, hN2⟩ : ∃ N2, (lev seed h d).length = N2 := ⟨_, rfl⟩
          have hNM : N2 = 2 * M := by rw [← hN2, lev_len _ _ _ hd, ← hM, show h - d = (h - (d + 1)) + 1 from by omega, Nat.pow_succ, Nat.mul_comm]
          have hM8 : M ≤ 16 := by rw [← hM]; exact (two_pow_small _ (by omega)).1
          have hM0 : 0 < M := by rw [← hM]; exact Nat.two_pow_pos _
          obtain ⟨g, cc, hu7, _, hcc, hcm⟩ := SRow.val_at hss (by omega)
          rw [hN2] at hu7 hcc
          subst hu7
          have HUP : Hid (upN (lev seed h d) M = lev seed h (d + 1)) := Lib.hid (by
            show _ = upL (lev seed h d)
            rw [upL, hN2, hNM, Nat.mul_div_cancel_left _ (by decide)])
          have HCELL : Hid (∀ wy, Chg (fun _ => False) w5 wy → ∀ i, i < N2 → wy.cell? ⟨g, i, none⟩ = some (.string ((lev seed h d).getD i nilS))) := Lib.hid (fun wy hc i hi => cellChg (hss.get i (by omega)) hc (fun h => h))
          obtain ⟨vs, hv, hn, hj⟩ := hl
          have HBK := Lib.hid hb
          have HV := Lib.hid hv
          have HN := Lib.hid hn
          have HJ := Lib.hid hj
          have HR := Lib.hid hr
          have HGG := Lib.hid hg
          have m1 : N2 ≤ 2 * M := by omega
          have m2 : 2 * M ≤ N2 := by omega
          clear hb hv hn hj hr hbw hg hM hN2 hNM hss HS HST x2 y2 z2 HB4
          go_wp2_with fail
          go_loopw [12, 13] (fun v k wx => ∃ j : Nat, j ≤ M ∧ k = .int .i64 (2 * (j : Int)) ∧ HD (OwnL w5 wx v (upN (lev seed h d) j))) (fun _ k _ => N2 - (intOf k).toNat)
          case atStart => exact ⟨0, by omega, rfl, ⟨OwnL.nil (Chg.refl _ _)⟩⟩
          case round =>
            obtain ⟨j, hj, rfl, HL⟩ := hrel
            obtain ⟨w6, rfl⟩ : ∃ w6, w6 = wr := ⟨_, rfl⟩
            by_cases hjl : j < M
            · have HO : Hid (∀ w3, Chg (fun _ => False) w6 w3 → OwnL w5 w3 u12 (upN (lev seed h d) j)) := Lib.hid (fun w3 hg => HL.out.kept hg)
              obtain ⟨r1, hrow, _, hch⟩ := HL.out
              obtain ⟨A0, c0, hu12, _, _⟩ := hrow.form
              rw [upN_len] at hu12
              subst hu12
              have x0 := HCELL.out w6 hch (2 * j) (by omega)
              have x1 := HCELL.out w6 hch (2 * j + 1) (by omega)
              obtain ⟨a, ha⟩ : ∃ a, (lev seed h d).getD (2 * j) nilS = a := ⟨_, rfl⟩
              obtain ⟨b, hb⟩ : ∃ b, (lev seed h d).getD (2 * j + 1) nilS = b := ⟨_, rfl⟩
              rw [ha] at x0
              rw [hb] at x1
              have HUS : Hid (upN (lev seed h d) (j + 1) = upN (lev seed h d) j ++ [tagF 37 [a, b]]) := Lib.hid (by rw [upN_succ, ha, hb])
              have HAB : Hid (1 + bulk [a, b] ≤ 140737488355200) := Lib.hid (by rw [← ha, ← hb]; exact bulk2 _ _ (lev_small _ _ _ _) (lev_small _ _ _ _))
              have HX0 : Hid (∀ w8 {v : Value} {l : List ByteArray}, OwnL w5 w8 v l → w8.cell? ⟨g, 2 * j, none⟩ = some (.string a)) := Lib.hid (fun w8 _ _ ho => by
                obtain ⟨_, _, _, hc⟩ := ho
                rw [HCELL.out w8 hc (2 * j) (by omega), ha])
              have HX1 : Hid (∀ w8 {v : Value} {l : List ByteArray}, OwnL w5 w8 v l → w8.cell? ⟨g, 2 * j + 1, none⟩ = some (.string b)) := Lib.hid (fun w8 _ _ ho => by
                obtain ⟨_, _, _, hc⟩ := ho
                rw [HCELL.out w8 hc (2 * j + 1) (by omega), hb])
              have t0 : (2 * (j : Int)).toNat = 2 * j := by omega
              have t1 : (2 * (j : Int) + 1).toNat = 2 * j + 1 := by omega
              have q0 : (0 : Int) ≤ 2 * (j : Int) := by omega
              have q1 : 2 * (j : Int) < (N2 : Int) := by omega
              have q2 : 2 * (j : Int) + 1 < (N2 : Int) := by omega
              have q3 : (0 : Int) ≤ 2 * (j : Int) + 1 := by omega
              have k1 : IntKind.i64.wrap (2 * (j : Int) + 1) = 2 * (j : Int) + 1 := IntWalk.i64_in _ (by omega)
              clear ha hb hrow hch HL
              go_wp2_with fail
              go_region_held3 (fun w' => w'.cell? ⟨g, 2 * j, none⟩ = some (.string a) ∧ w'.cell? ⟨g, 2 * j + 1, none⟩ = some (.string b)) (first | go_keep | exact ⟨m0, m1⟩ | exact ⟨n0, n1⟩) (first
                | (go_at_call 31; refine (rTag_calls _ 37 (by decide) _ 2 2 [a, b] (strsAtD (by simp) (by simp)) rfl HAB.out).mono ?_; rintro e w7 ⟨rfl, hg⟩; (repeat (first | replace hg := Chg.un hg | replace hg := Chg.und hg)); have m0 := cellChg x0 hg (fun h => h); have m1 := cellChg x1 hg (fun h => h); obtain ⟨r7, hrow7, hr7, hch7⟩ := HO.out w7 hg; have HROW7 := Lib.hid hrow7; have HR7 := Lib.hid hr7; have HCH7 := Lib.hid hch7; clear hg hrow7 hr7 hch7)
                | (refine step_sappend w7 rfl (.tmp 61) (.tmp 73) 38 16 rfl Try.underlying38 elemS encS_len encS_one (.slice A0 j c0) r7 (upN (lev seed h d) j) (tagF 37 [a, b]) (by simp [Act.eval]) (by simp [Act.eval]) HROW7.out (by rw [upN_len]; omega) (by decide) ?_; intro A1 c1 w8 r8 hrow8 hnext8 hgrow8; have hown := OwnL.next HR7.out HCH7.out hrow8 hnext8 hgrow8; have n0 := HX0.out w8 hown; have n1 := HX1.out w8 hown; have HOWN := Lib.hid hown; clear hrow8 hnext8 hgrow8 hown)
                | fail "NOFIT")
              have hN := HOWN.out
              rw [List.length_append, ← HUS.out] at hN
              clear HX0 HX1 t0 t1 q0 q1 q2 q3 k1 x0 x1
              go_wp2_with fail
              exact ⟨⟨j + 1, by omega, by go_num, ⟨hN⟩⟩, by simp [intOf]; omega⟩
            · obtain rfl : j = M := by omega
              obtain ⟨r1, hrow, _, hch⟩ := HL.out
              rw [HUP.out] at hrow
              have hM2 : (lev seed h (d + 1)).length = j := by rw [← HUP.out, upN_len]
              obtain ⟨g1, c1, hu12, _, _, _⟩ := SRow.val_at hrow (by omega)
              rw [hM2] at hu12
              subst hu12
              obtain ⟨A0, c0, hlv, _, _⟩ := HV.out.form
              rw [HN.out] at hlv
              subst hlv
              have HROW := Lib.hid hrow
              have HB3 := Lib.hid (hch.obj HBK.out (fun h => h))
              have HG3 := Lib.hid (HGG.out.trans hch (fun _ h => .inl h))
              have HV3 := Lib.hid (SRow.chg HV.out hch (fun _ _ h => h))
              have HJ3 : Hid (∀ i, i < d + 1 → ∃ rj, SS w6 (vs.getD i default).val rj (lev seed h i)) := Lib.hid (fun i hi => by
                obtain ⟨rj, hs⟩ := HJ.out i hi
                exact ⟨rj, SRow.chg hs hch (fun _ _ h => h)⟩)
              have x2 := blkCell HB3.out 2
              have m3 : (2 * (j : Int) < (N2 : Int)) = False := by
                apply eq_false
                omega
              clear hrow hch hM2 HL
              go_wp2_with (at_builtin; refine wpList_sappend w6 rfl (.tmp 79) (.tmp 81) 50 24 rfl Try.underlying50 elemL encL_len encL_one (.slice A0 (d + 1) c0) r vs ⟨some ⟨g1, 0, none⟩, j, c1⟩ rfl rfl HV3.out (by rw [HN.out]; omega) (by decide) ?_; intro A1 c1' w8 r8 hrow8 hnext8 hgrow8; have HST := Lib.hid (RSt.step HB3.out HR.out (Nat.le_refl _) HG3.out HV3.out HN.out HJ3.out ⟨some ⟨g1, 0, none⟩, j, c1⟩ HROW.out hrow8 hnext8 hgrow8); have HB8 := (Chg.ofGrown hgrow8).obj HB3.out (SRow.ne HV3.out HB3.out (by decide)); have y2 := blkCell HB8 2; have z2 := blkFree HB8 2; clear hrow8 hnext8 hgrow8)
              have hST := HST.out
              rw [List.length_append] at hST
              exact ⟨⟨d + 1, by omega, by go_num, ⟨hST⟩⟩, by simp [intOf]; omega⟩
        · obtain rfl : d = h := by omega
          have HK : Hid (RKey w5 w.heap.size seed d 0) := Lib.hid ⟨lv, r, hb, hl⟩
          have HGG := Lib.hid hg
          clear hb hl hss hr hbw hg HS HST x2 y2 z2 HB4
          go_wp2_with fail
          go_ret2
          exact ⟨_, rfl, HK.out, Nat.le_refl _, HGG.out⟩
end Go.Proofs.Ytpdgkgdaaapngaa
