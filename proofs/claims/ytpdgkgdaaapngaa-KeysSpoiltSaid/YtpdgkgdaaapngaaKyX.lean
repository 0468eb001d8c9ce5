/- Keys: the tree, made by the closure that the Once calls. -/
import Derived.Test.YtpdgkgdaaapngaaKyU
namespace Go.Proofs.Ytpdgkgdaaapngaa
open Go.RowKit
def kcellsK (seed : ByteArray) (h : Nat) (x2 x3 x4 lv u : Value) : Array Value := #[.string seed, .int .i64 h, x2, x3, x4, lv, u]
/-- The key while its tree is being made: c + 1 levels stand, v is the last. -/
def KSt (w wx : World) (b : Nat) (seed : ByteArray) (h : Nat) (x2 x3 x4 u : Value) (c : Nat) (v : Value) : Prop :=
  ∃ lv r rl, wx.heap[b]? = some (.cells (kcellsK seed h x2 x3 x4 lv u) 83 (0, 0)) ∧ LevelsAt wx lv r (lev seed h) (c + 1) ∧ SS wx v rl (lev seed h c) ∧ (∀ k, r = some k → w.heap.size ≤ k) ∧ Chg (fun k => k = b) w wx
theorem KSt.step {w w2 w3 : World} {b n h : Nat} {seed : ByteArray} {x2 x3 x4 u lv : Value} {A1 : Option Addr} {n1 c1 : Nat} {r r' rq : Option Nat} {vs : List Sl} {o : Obj} (hb : w2.heap[b]? = some (.cells (kcellsK seed h x2 x3 x4 lv u) 83 (0, 0)))
    (hr : ∀ k, r = some k → w.heap.size ≤ k) (hg : Chg (fun k => k = b) w w2) (hv : VV w2 lv r vs) (hn : vs.length = n) (hj : ∀ j, j < n → ∃ rj, SS w2 (vs.getD j default).val rj (lev seed h j)) (q : Sl) (hq : SS w2 q.val rq (lev seed h n))
    (hv' : VV w3 (.slice A1 n1 c1) r' (vs ++ [q])) (hn' : Next w2 r r') (hgr : (w2.alloc o).grownBy w3 r) : KSt w (w3.setCell ⟨b, 5, none⟩ (.slice A1 n1 c1)) b seed h x2 x3 x4 u n q.val := by
  have c3 : Chg (fun k => r = some k) w2 w3 := Chg.ofGrown hgr
  have h3 := c3.obj hb (SRow.ne hv hb (by decide))
  have ho : Other (fun k => r = some k) w2 9 := fun k hk => by
    obtain ⟨_, cs, h⟩ := SRow.lt hv hk
    exact ⟨cs, _, h, by decide⟩
  have hl := LevelsAt.push hv hn hj q hq hv' c3
  have c4 : Chg (fun k => k = b) w3 (w3.setCell ⟨b, 5, none⟩ (.slice A1 n1 c1)) := (Chg.refl (fun k => k = b) w3).setCell (p := ⟨b, 5, none⟩) (.inl rfl) _
  refine ⟨.slice A1 n1 c1, r', rq, blkSet h3 5 _, hl.chg c4 (Other.one h3 (by decide)) (Other.one h3 (by decide)), (SRow.other hq c3 ho).other c4 (Other.one h3 (by decide)), fun k hk => ?_, (hg.trans c3 (fun k hk => .inr (hr k hk))).trans c4 (fun k hk => .inl hk)⟩
  rcases hn'.mem hk with h | h
  · exact hr k h
  · exact Nat.le_trans hg.size h
/-- The first level: a slice of one header, made new. -/
theorem KSt.start {w w2 : World} {b h : Nat} {seed : ByteArray} {x2 x3 x4 u lv : Value} {rq : Option Nat} (hb : w2.heap[b]? = some (.cells (kcellsK seed h x2 x3 x4 lv u) 83 (0, 0)))
    (hg : Chg (fun k => k = b) w w2) (q : Sl) (hq : SS w2 q.val rq (lev seed h 0)) : KSt w ((w2.alloc (.cells #[q.val] 38)).setCell ⟨b, 5, none⟩ (.slice (some ⟨w2.heap.size, 0, none⟩) 1 1)) b seed h x2 x3 x4 u 0 q.val := by
  have h3 := blkOld hb (.cells #[q.val] 38)
  have hnew := blkAlloc w2 (.cells #[q.val] 38)
  have hv : VV (w2.alloc (.cells #[q.val] 38)) (.slice (some ⟨w2.heap.size, 0, none⟩) 1 1) (some w2.heap.size) [q] := SRow.remade encL_len hnew rfl [q] rfl (Nat.le_refl _) (by decide) rfl
  have c4 : Chg (fun k => k = b) (w2.alloc (.cells #[q.val] 38)) ((w2.alloc (.cells #[q.val] 38)).setCell ⟨b, 5, none⟩ (.slice (some ⟨w2.heap.size, 0, none⟩) 1 1)) := (Chg.refl (fun k => k = b) _).setCell (p := ⟨b, 5, none⟩) (.inl rfl) _
  have hq2 : SS (w2.alloc (.cells #[q.val] 38)) q.val rq (lev seed h 0) := SRow.alloc hq _
  have hl : LevelsAt (w2.alloc (.cells #[q.val] 38)) (.slice (some ⟨w2.heap.size, 0, none⟩) 1 1) (some w2.heap.size) (lev seed h) 1 := ⟨[q], hv, rfl, fun j hj => by
    obtain rfl : j = 0 := by omega
    exact ⟨rq, hq2⟩⟩
  refine ⟨_, _, rq, blkSet h3 5 _, hl.chg c4 (Other.one h3 (by decide)) (Other.one h3 (by decide)), SRow.other hq2 c4 (Other.one h3 (by decide)), fun k hk => ?_, (hg.alloc _).trans c4 (fun k hk => .inl hk)⟩
  injection hk with hk
  rw [← hk]
  exact hg.size
theorem SRow.drew {α : Type} {E : TypeId} {sz : Nat} {enc : α → List Value} {w : World} {v : Value} {r : Option Nat} {l : List α} (h : SRow E sz enc w v r l) : SRow E sz enc w.drew v r l := h
theorem Chg.undrew {S : Nat → Prop} {w w1 : World} (h : Chg S w w1.drew) : Chg S w w1 := ⟨h.os, h.tape, h.output, h.size, h.block⟩
def sliceLen : Value → Nat
  | .slice _ n _ => n
  | _ => 0
set_option maxRecDepth 100000 in
set_option maxHeartbeats 4000000 in
theorem tree1_calls (w : World) (b p : Nat) (seed : ByteArray) (h : Nat) (x2 x3 x4 u lv0 : Value) (hs : seed.size ≤ 140737488351232) (hh : h ≤ 4)
    (hb : w.heap[b]? = some (.cells (kcellsK seed h x2 x3 x4 lv0 u) 83 (0, 0))) (hp : w.heap[p]? = some (.cells #[.pointer (some ⟨b, 0, none⟩)] 39 (0, 0))) :
    Calls Try.prog 64 #[.pointer (some ⟨p, 0, none⟩)] w fun e w' => e = .returned (.tuple #[]) ∧ ∃ lv r, w'.heap[b]? = some (.cells (kcellsK seed h x2 x3 x4 lv u) 83 (0, 0)) ∧ LevelsAt w' lv r (lev seed h) (h + 1) ∧ Chg (fun k => k = b) w w' := by
  obtain ⟨P, hP⟩ : ∃ P : Nat, 2 ^ h = P := ⟨_, rfl⟩
  have hP2 := two_pow_small h hh
  rw [hP] at hP2
  obtain ⟨p1, p0⟩ := hP2
  have HP := Lib.hid hP
  clear hP
  have C1 := Lib.hid (fun w n => Public_calls w seed n hs)
  have a1 : w.cell? ⟨b, 1, none⟩ = some (.int .i64 h) := blkCell hb 1
  have ap : w.cell? ⟨p, 0, none⟩ = some (.pointer (some ⟨b, 0, none⟩)) := blkCell hp 0
  have HB := Lib.hid hb
  have HPP := Lib.hid hp
  have HNE : Hid (p ≠ b) := Lib.hid (blkNe hp hb (by decide))
  clear hb hp
  go_enter Try.func64, Try.ntmps64
  go_wp2_with (go_at_call 38; refine (size_calls _ b h P HP.out hh a1).mono ?_; rintro e w' ⟨rfl, rfl⟩)
  obtain ⟨w, rfl⟩ : ∃ w2, w2 = w' := ⟨_, rfl⟩
  clear a1 ap
  go_loopw [1, 9] (fun v k wx => ∃ c : Nat, c ≤ P ∧ k = .int .i64 c ∧ HD (OwnL w wx v (leaves seed c))) (fun _ k _ => P - (intOf k).toNat)
  case atStart => exact ⟨0, by omega, rfl, ⟨OwnL.nil (Chg.refl _ _)⟩⟩
  case round =>
    obtain ⟨c, hc, rfl, HL⟩ := hrel
    obtain ⟨w2, rfl⟩ : ∃ w2, w2 = wr := ⟨_, rfl⟩
    have HCH0 := Lib.hid (HL.out.choose_spec.2.2)
    have ap : w2.cell? ⟨p, 0, none⟩ = some (.pointer (some ⟨b, 0, none⟩)) := blkCell (HCH0.out.obj HPP.out (fun h => h)) 0
    by_cases hlt : c < P
    · have a0 : w2.cell? ⟨b, 0, none⟩ = some (.string seed) := blkCell (HCH0.out.obj HB.out (fun h => h)) 0
      have HO : Hid (∀ w3, Chg (fun _ => False) w2 w3 → OwnL w w3 u1 (leaves seed c)) := Lib.hid (fun w3 hg => HL.out.kept hg)
      obtain ⟨A0, c0, hu1, _, _⟩ := (HL.out.choose_spec.1).form
      have hsz : (leaves seed c).length = c := leaves_len seed c
      have HSZ := Lib.hid hsz
      rw [hsz] at hu1
      subst hu1
      clear hsz
      go_wp2_with (first
        | (go_at_call 65; refine (C1.out _ _).mono ?_; rintro e w3 ⟨rfl, hg⟩; obtain ⟨r, hrow, hr, hch⟩ := HO.out w3 hg; have HROW := Lib.hid hrow; have HR := Lib.hid hr; have HCH := Lib.hid hch; clear hrow hr hch hg)
        | (at_builtin; refine wpList_sappend w3 rfl (.tmp 21) (.tmp 23) 38 16 rfl Try.underlying38 elemS encS_len encS_one (.slice A0 c c0) r (leaves seed c) (pubF seed c) rfl rfl HROW.out (by rw [HSZ.out]; omega) (by decide) ?_; intro A1 c1 w4 r4 hrow4 hnext4 hgrow4; have HN := Lib.hid (OwnL.next HR.out HCH.out hrow4 hnext4 hgrow4); clear hrow4 hnext4 hgrow4))
      have hN := HN.out
      rw [List.length_append, ← leaves_succ] at hN
      exact ⟨⟨c + 1, by omega, by go_num, ⟨hN⟩⟩, by simp [intOf]; omega⟩
    · obtain rfl : c = P := by omega
      obtain ⟨rl, hrow, hrl, hch⟩ := HL.out
      have hlev : leaves seed c = lev seed h 0 := by rw [← HP.out]; rfl
      rw [hlev] at hrow
      obtain ⟨g0, c0, hu1, _, _, _⟩ := SRow.val_at hrow (by rw [← hlev, leaves_len]; exact p0)
      have hsz : (lev seed h 0).length = c := by rw [← hlev, leaves_len]
      rw [hsz] at hu1
      subst hu1
      have HST := Lib.hid (KSt.start (hch.obj HB.out (fun h => h)) (hch.mono (fun _ h => h.elim)) ⟨some ⟨g0, 0, none⟩, c, c0⟩ hrow)
      have HB2 := Lib.hid (hch.obj HB.out (fun h => h))
      have HB3 := Lib.hid (blkOld HB2.out (.cells #[.slice (some ⟨g0, 0, none⟩) c c0] 38))
      have x5 : (w2.alloc (.cells #[.slice (some ⟨g0, 0, none⟩) c c0] 38)).cell? ⟨b, 5, none⟩ = some lv0 := blkCell HB3.out 5
      have z5 : (w2.alloc (.cells #[.slice (some ⟨g0, 0, none⟩) c c0] 38)).frozen? ⟨b, 5, none⟩ = false := blkFree HB3.out 5
      clear hrow hrl hch hlev hsz HL HCH0
      go_wp2_with fail
      have HPN : Hid (∀ wx, Chg (fun k => k = b) w wx → wx.cell? ⟨p, 0, none⟩ = some (.pointer (some ⟨b, 0, none⟩))) := Lib.hid (fun wx hc => blkCell (hc.obj HPP.out HNE.out) 0)
      clear x5 z5 ap HB3 HB2
      go_loopw [1] (fun v wx => ∃ d : Nat, d ≤ h ∧ HD (KSt w wx b seed h x2 x3 x4 u d v)) (fun v _ => sliceLen v)
      case atStart => exact ⟨0, by omega, ⟨HST.out⟩⟩
      case round =>
        obtain ⟨d, hd, HS⟩ := hrel
        obtain ⟨w5, rfl⟩ : ∃ w5, w5 = wr := ⟨_, rfl⟩
        obtain ⟨lv, r, rl, hb, hl, hss, hr, hg⟩ := HS.out
        obtain ⟨N2, hN2⟩ : ∃ N2, (lev seed h d).length = N2 := ⟨_, rfl⟩
        have hN3 : N2 = 2 ^ (h - d) := by rw [← hN2, lev_len _ _ _ hd]
        obtain ⟨g, cc, hu1, _, hcc, hcm⟩ := SRow.val_at hss (lev_pos seed h d hd)
        rw [hN2] at hu1 hcc
        subst hu1
        by_cases hlt : d < h
        · obtain ⟨M, hM⟩ : ∃ M, 2 ^ (h - (d + 1)) = M := ⟨_, rfl⟩
          have hNM : N2 = 2 * M := by rw [hN3, ← hM, show h - d = (h - (d + 1)) + 1 from by omega, Nat.pow_succ, Nat.mul_comm]
          have hM8 : M ≤ 16 := by rw [← hM]; exact (two_pow_small _ (by omega)).1
          have hM0 : 0 < M := by rw [← hM]; exact Nat.two_pow_pos _
          have HUP : Hid (upN (lev seed h d) M = lev seed h (d + 1)) := Lib.hid (by
            show _ = upL (lev seed h d)
            rw [upL, hN2, hNM, Nat.mul_div_cancel_left _ (by decide)])
          have HCELL : Hid (∀ wy, Chg (fun _ => False) w5 wy → ∀ i, i < N2 → wy.cell? ⟨g, i, none⟩ = some (.string ((lev seed h d).getD i nilS))) := Lib.hid (fun wy hc i hi => cellChg (hss.get i (by omega)) hc (fun h => h))
          obtain ⟨vs, hv, hn, hj⟩ := hl
          have HBK := Lib.hid hb
          have HV := Lib.hid hv
          have HN := Lib.hid hn
          have HJ := Lib.hid hj
          have HR := Lib.hid hr
          have HGG := Lib.hid hg
          have m1 : N2 ≤ 2 * M := by omega
          have m2 : 2 * M ≤ N2 := by omega
          have m0 : (1 : Int) < (N2 : Int) := by omega
          clear hb hv hn hj hr hg hM hN2 hNM hN3 hss HS HST
          go_wp2_with fail
          go_loopw [5, 6] (fun v k wx => ∃ j : Nat, j ≤ M ∧ k = .int .i64 (2 * (j : Int)) ∧ HD (OwnL w5 wx v (upN (lev seed h d) j))) (fun _ k _ => N2 - (intOf k).toNat)
          case atStart => exact ⟨0, by omega, rfl, ⟨OwnL.nil (Chg.refl _ _)⟩⟩
          case round =>
            obtain ⟨j, hj, rfl, HL⟩ := hrel
            obtain ⟨w6, rfl⟩ : ∃ w6, w6 = wr := ⟨_, rfl⟩
            by_cases hjl : j < M
            · have HO : Hid (∀ w3, Chg (fun _ => False) w6 w3 → OwnL w5 w3 u5 (upN (lev seed h d) j)) := Lib.hid (fun w3 hg => HL.out.kept hg)
              obtain ⟨r1, hrow, _, hch⟩ := HL.out
              obtain ⟨A0, c0', hu5, _, _⟩ := hrow.form
              rw [upN_len] at hu5
              subst hu5
              have y0 := HCELL.out w6 hch (2 * j) (by omega)
              have y1 := HCELL.out w6 hch (2 * j + 1) (by omega)
              obtain ⟨a, ha⟩ : ∃ a, (lev seed h d).getD (2 * j) nilS = a := ⟨_, rfl⟩
              obtain ⟨b', hb⟩ : ∃ b', (lev seed h d).getD (2 * j + 1) nilS = b' := ⟨_, rfl⟩
              rw [ha] at y0
              rw [hb] at y1
              have HUS : Hid (upN (lev seed h d) (j + 1) = upN (lev seed h d) j ++ [tagF 37 [a, b']]) := Lib.hid (by rw [upN_succ, ha, hb])
              have HAB : Hid (1 + bulk [a, b'] ≤ 140737488355200) := Lib.hid (by rw [← ha, ← hb]; exact bulk2 _ _ (lev_small _ _ _ _) (lev_small _ _ _ _))
              have HX0 : Hid (∀ w8 {v : Value} {l : List ByteArray}, OwnL w5 w8 v l → w8.cell? ⟨g, 2 * j, none⟩ = some (.string a)) := Lib.hid (fun w8 _ _ ho => by
                obtain ⟨_, _, _, hc⟩ := ho
                rw [HCELL.out w8 hc (2 * j) (by omega), ha])
              have HX1 : Hid (∀ w8 {v : Value} {l : List ByteArray}, OwnL w5 w8 v l → w8.cell? ⟨g, 2 * j + 1, none⟩ = some (.string b')) := Lib.hid (fun w8 _ _ ho => by
                obtain ⟨_, _, _, hc⟩ := ho
                rw [HCELL.out w8 hc (2 * j + 1) (by omega), hb])
              have t0 : (2 * (j : Int)).toNat = 2 * j := by omega
              have t1 : (2 * (j : Int) + 1).toNat = 2 * j + 1 := by omega
              have q0 : (0 : Int) ≤ 2 * (j : Int) := by omega
              have q1 : 2 * (j : Int) < (N2 : Int) := by omega
              have q2 : 2 * (j : Int) + 1 < (N2 : Int) := by omega
              have q3 : (0 : Int) ≤ 2 * (j : Int) + 1 := by omega
              have k1 : IntKind.i64.wrap (2 * (j : Int) + 1) = 2 * (j : Int) + 1 := IntWalk.i64_in _ (by omega)
              clear ha hb hrow hch HL
              go_wp2_with fail
              go_region_held3 (fun w' => w'.cell? ⟨g, 2 * j, none⟩ = some (.string a) ∧ w'.cell? ⟨g, 2 * j + 1, none⟩ = some (.string b')) (first | go_keep | exact ⟨m0, m1⟩ | exact ⟨n0, n1⟩) (first
                | (go_at_call 28; refine (Tag_calls _ 37 (by decide) _ 2 2 [a, b'] (strsAtD (by simp) (by simp)) rfl HAB.out).mono ?_; rintro e w7 ⟨rfl, hg⟩; (repeat (first | replace hg := Chg.un hg | replace hg := Chg.und hg)); have m0 := cellChg y0 hg (fun h => h); have m1 := cellChg y1 hg (fun h => h); obtain ⟨r7, hrow7, hr7, hch7⟩ := HO.out w7 hg; have HROW7 := Lib.hid hrow7; have HR7 := Lib.hid hr7; have HCH7 := Lib.hid hch7; clear hg hrow7 hr7 hch7)
                | (refine step_sappend w7 rfl (.tmp 40) (.tmp 52) 38 16 rfl Try.underlying38 elemS encS_len encS_one (.slice A0 j c0') r7 (upN (lev seed h d) j) (tagF 37 [a, b']) (by simp [Act.eval]) (by simp [Act.eval]) HROW7.out (by rw [upN_len]; omega) (by decide) ?_; intro A1 c1 w8 r8 hrow8 hnext8 hgrow8; have hown := OwnL.next HR7.out HCH7.out hrow8 hnext8 hgrow8; have n0 := HX0.out w8 hown; have n1 := HX1.out w8 hown; have HOWN := Lib.hid hown; clear hrow8 hnext8 hgrow8 hown)
                | fail "NOFIT")
              have hN := HOWN.out
              rw [List.length_append, ← HUS.out] at hN
              clear HX0 HX1 t0 t1 q0 q1 q2 q3 k1 y0 y1
              go_wp2_with fail
              exact ⟨⟨j + 1, by omega, by go_num, ⟨hN⟩⟩, by simp [intOf]; omega⟩
            · obtain rfl : j = M := by omega
              obtain ⟨r1, hrow, _, hch⟩ := HL.out
              rw [HUP.out] at hrow
              have hM2 : (lev seed h (d + 1)).length = j := by rw [← HUP.out, upN_len]
              obtain ⟨g1, c1, hu5, _, _, _⟩ := SRow.val_at hrow (by omega)
              rw [hM2] at hu5
              subst hu5
              obtain ⟨A0, c0', hlv, _, _⟩ := HV.out.form
              rw [HN.out] at hlv
              subst hlv
              have HROW := Lib.hid hrow.drew
              have HB3 := Lib.hid (hch.obj HBK.out (fun h => h))
              have HG3 := Lib.hid ((HGG.out.trans hch (fun _ h => h.elim)).drew)
              have HV3 := Lib.hid (SRow.chg HV.out hch (fun _ _ h => h)).drew
              have HJ3 : Hid (∀ i, i < d + 1 → ∃ rj, SS w6.drew (vs.getD i default).val rj (lev seed h i)) := Lib.hid (fun i hi => by
                obtain ⟨rj, hs⟩ := HJ.out i hi
                exact ⟨rj, (SRow.chg hs hch (fun _ _ h => h)).drew⟩)
              have ap : w6.cell? ⟨p, 0, none⟩ = some (.pointer (some ⟨b, 0, none⟩)) := HPN.out w6 HG3.out.undrew
              have y5 : w6.cell? ⟨b, 5, none⟩ = some (.slice A0 (d + 1) c0') := blkCell HB3.out 5
              have HB4 : Hid (w6.drew.heap[b]? = some (.cells (kcellsK seed h x2 x3 x4 (.slice A0 (d + 1) c0') u) 83 (0, 0))) := Lib.hid HB3.out
              have HB5 := blkOld HB3.out (.cells #[.slice (some ⟨g1, 0, none⟩) j c1] 38)
              have HP3 : w6.heap[p]? = some (.cells #[.pointer (some ⟨b, 0, none⟩)] 39 (0, 0)) := HG3.out.undrew.obj HPP.out HNE.out
              have HP5 := blkOld HP3 (.cells #[.slice (some ⟨g1, 0, none⟩) j c1] 38)
              have a5 : (w6.alloc (.cells #[.slice (some ⟨g1, 0, none⟩) j c1] 38)).cell? ⟨b, 5, none⟩ = some (.slice A0 (d + 1) c0') := blkCell HB5 5
              have a6 : (w6.alloc (.cells #[.slice (some ⟨g1, 0, none⟩) j c1] 38)).cell? ⟨p, 0, none⟩ = some (.pointer (some ⟨b, 0, none⟩)) := blkCell HP5 0
              have HP4 : Hid (w6.drew.heap[p]? = some (.cells #[.pointer (some ⟨b, 0, none⟩)] 39 (0, 0))) := Lib.hid HP3
              clear hrow hch hM2 HL HB5 HP3 HP5
              go_wp2_with fail
              go_region_law (refine step_sappend w6.drew rfl (.tmp 58) (.tmp 60) 50 24 rfl Try.underlying50 elemL encL_len encL_one (.slice A0 (d + 1) c0') r vs ⟨some ⟨g1, 0, none⟩, j, c1⟩ (by simp [Act.eval]) (by simp [Act.eval]) HV3.out (by rw [HN.out]; omega) (by decide) ?_; intro A1 c1' w8 r8 hrow8 hnext8 hgrow8; have HST := Lib.hid (KSt.step HB4.out HR.out HG3.out HV3.out HN.out HJ3.out ⟨some ⟨g1, 0, none⟩, j, c1⟩ HROW.out hrow8 hnext8 hgrow8); have HB8 := (Chg.ofGrown hgrow8).obj HB4.out (SRow.ne HV3.out HB4.out (by decide)); have y2 : w8.cell? ⟨b, 5, none⟩ = some (.slice A0 (d + 1) c0') := blkCell HB8 5; have z2 : w8.frozen? ⟨b, 5, none⟩ = false := blkFree HB8 5; have y6 : w8.cell? ⟨p, 0, none⟩ = some (.pointer (some ⟨b, 0, none⟩)) := blkCell ((Chg.ofGrown hgrow8).obj HP4.out (SRow.ne HV3.out HP4.out (by decide))) 0; clear hrow8 hnext8 hgrow8)
              all_goals go_wp2_with fail
              all_goals (have hST := HST.out; rw [List.length_append] at hST)
              all_goals exact ⟨⟨d + 1, by omega, ⟨hST⟩⟩, by simp only [sliceLen]; omega⟩
        · obtain rfl : d = h := by omega
          have hN4 : N2 = 1 := by rw [hN3, Nat.sub_self]
          subst hN4
          have HF : Hid (∃ lv r, w5.heap[b]? = some (.cells (kcellsK seed d x2 x3 x4 lv u) 83 (0, 0)) ∧ LevelsAt w5 lv r (lev seed d) (d + 1) ∧ Chg (fun k => k = b) w w5) := Lib.hid ⟨lv, r, hb, hl, hg⟩
          clear hb hl hss hr hg HS HST hN3 hN2
          go_wp2_with fail
          go_end0
          exact ⟨rfl, HF.out⟩
end Go.Proofs.Ytpdgkgdaaapngaa
