/- ostlerref01.hash. -/
import Derived.Test.YtpdgkgdaaapngaaShV
import Derived.Test.YtpdgkgdaaapngaaShW
import Derived.Test.YtpdgkgdaaapngaaShR
import Derived.Test.YtpdgkgdaaapngaaShN
namespace Go.Proofs.Ytpdgkgdaaapngaa
open Go.RowKit
/-- A row of the call's own, and the box of the eight words. -/
structure HS (S : Nat → Prop) (w wx : World) (v : Value) (bs : List UInt8) (r : Option Nat) (st : S8) : Prop where
  own : OwnS S w wx v bs r
  box : wx.heap[w.heap.size]? = some (.cells st.cells.toArray 131 (0, 0))
theorem HS.next {S : Nat → Prop} {w wx wy : World} {v v1 : Value} {bs bs1 : List UInt8} {r r1 : Option Nat} {st : S8} (h : HS S w wx v bs r st) (h1 : Row wy 5 v1 r1 bs1) (hn : Next wx r r1) (hg : Chg (fun k => r = some k) wx wy) : HS S w wy v1 bs1 r1 st :=
  ⟨h.own.next h1 hn hg, hg.obj h.box (h.own.1.ne h.box (by decide))⟩
theorem HS.kept {S : Nat → Prop} {w wx wy : World} {v : Value} {bs : List UInt8} {r : Option Nat} {st : S8} (h : HS S w wx v bs r st) (hc : Chg (fun _ => False) wx wy) : HS S w wy v bs r st :=
  ⟨h.own.kept hc, hc.obj h.box (fun h => h)⟩
theorem HS.boxed {S : Nat → Prop} {w wx wy : World} {v : Value} {bs : List UInt8} {r : Option Nat} {st st' : S8} (h : HS S w wx v bs r st) (hc : Chg (fun k => k = w.heap.size) wx wy) (hb : wy.heap[w.heap.size]? = some (.cells st'.cells.toArray 131 (0, 0))) : HS S w wy v bs r st' :=
  ⟨⟨h.own.1.chg hc (fun k e e2 => h.own.1.ne h.box (by decide) (e.trans (congrArg some e2))), h.own.2.1, h.own.2.2.trans hc (fun k e => .inr (by omega))⟩, hb⟩
set_option maxRecDepth 100000 in
set_option maxHeartbeats 4000000 in
theorem rhash_calls (w : World) (A : Option Addr) (n c : Nat) (r : Option Nat) (bs : List UInt8) (h : Row w 5 (.slice A n c) r bs) (hn : bs.length = n) (hl : n ≤ 140737488355200) :
    Calls Try.prog 56 #[.slice A n c] w fun e w' => e = .returned (.string (strOf (hashF bs))) ∧ Chg (fun k => r = some k) w w' := by
  have H0 : Hid (HS (fun k => r = some k) w (w.alloc (.cells #[.int .u32 1779033703, .int .u32 3144134277, .int .u32 1013904242, .int .u32 2773480762, .int .u32 1359893119, .int .u32 2600822924, .int .u32 528734635, .int .u32 1541459225] 131)) (.slice A n c) bs r S8.begin) := Lib.hid ⟨⟨h.alloc _, fun k e => .inl e, (Chg.refl _ w).alloc _⟩, blkAlloc w _⟩
  have HN := Lib.hid hn
  have h128 : Hid (#[Value.int .u8 128] = (bcells [128]).toArray) := Lib.hid rfl
  have h000 : Hid (#[Value.int .u8 0] = (bcells [0]).toArray) := Lib.hid rfl
  have HPD : Hid (bs ++ [128] ++ List.replicate (zeroN n) 0 ++ numBytes ((n : Int) * 8) 8 = padF bs) := Lib.hid (by unfold padF; rw [hn])
  have HPL := Lib.hid (padF_len bs)
  have hzn : zeroN n ≤ 63 := by unfold zeroN; omega
  have HZN : Hid (∀ j, j ≤ zeroN n → ((n + 1 + j) % 64 = 56 ↔ j = zeroN n)) := Lib.hid (fun j hj => by unfold zeroN at hj ⊢; omega)
  clear h hn
  go_enter Try.func56, Try.ntmps56
  go_wp2_with (at_builtin; refine wpList_append_list (w.alloc (.cells #[.int .u32 1779033703, .int .u32 3144134277, .int .u32 1013904242, .int .u32 2773480762, .int .u32 1359893119, .int .u32 2600822924, .int .u32 528734635, .int .u32 1541459225] 131)) rfl (.tmp 12) (.tmp 13) 34 5 rfl Try.underlying34 info_u8 (.slice A n c) r bs [128] 1 rfl _ h128.out rfl (by simp [Act.eval]) H0.out.own.1 (by have := HN.out; omega) ?_; intro A1 n1 c1 w1 r1 hrow hnext hgrow; have H1 := Lib.hid (H0.out.next hrow hnext (Chg.ofGrown hgrow)); clear hrow hnext hgrow)
  go_loopw [0] (fun v wx => ∃ (j : Nat) (B : Option Addr) (m C : Nat) (r2 : Option Nat), v = .slice B m C ∧ j ≤ zeroN n ∧ m = n + 1 + j ∧ HD (HS (fun k => r = some k) w wx (.slice B m C) (bs ++ [128] ++ List.replicate j 0) r2 S8.begin)) (fun v _ => match v with | .slice _ m _ => n + 1 + zeroN n - m | _ => 0)
  case atStart =>
    have hn1 : n1 = n + 1 + 0 := by
      obtain ⟨g, _, _, h3, _⟩ := H1.out.own.1.form (by simp)
      rw [h3, List.length_append, HN.out]
      rfl
    exact ⟨0, A1, n1, c1, r1, rfl, Nat.zero_le _, hn1, ⟨by simpa using H1.out⟩⟩
  case round =>
    clear H1 H0
    obtain ⟨j, B, m, C, r2, rfl, hj, rfl, HO⟩ := hrel
    have hmm : ((n + 1 + j : Nat) : Int) % 64 = (((n + 1 + j) % 64 : Nat) : Int) := by simp
    by_cases hlt : j = zeroN n
    · subst hlt
      have he : (((n : Int) + 1 + (zeroN n : Int)) % 64 != 56) = false := by
        have h2 := (HZN.out _ (Nat.le_refl _)).2 rfl
        rw [bne_eq_false_iff_eq]
        omega
      clear hmm
      go_wp2_with fail
      refine (num01_calls _ (.slice B (n + 1 + zeroN n) C) r2 (bs ++ [128] ++ List.replicate (zeroN n) 0) ((n : Int) * 8) 8 HO.out.own.1 (by omega) (by omega) (by have := HN.out; simp; omega)).mono ?_
      rintro e w4 ⟨A4, n4, c4, r4, rfl, hrow, hnx, hg⟩
      have H4 := Lib.hid (HO.out.next hrow hnx hg)
      rw [HPD.out] at H4
      clear hrow hnx hg HO
      go_wp2_with fail
      refine (words_calls _).mono ?_
      rintro e w5 ⟨rfl, hg⟩
      have HT := Lib.hid (freshThere w5)
      have H6 := Lib.hid ((H4.out.kept hg).kept (freshChg w5))
      have HK6 := Lib.hid (freshWhole w5)
      have HL5 := Lib.hid (blkLt (H4.out.kept hg).box)
      clear hg H4
      obtain ⟨P, hP⟩ : ∃ P, padF bs = P := ⟨_, rfl⟩
      have HHF : Hid (hashF bs = (S8.blocks P (P.length / 64)).out) := Lib.hid (by unfold hashF; rw [hP])
      rw [hP] at H6 HPL
      obtain ⟨g, hA, hr3, hn3, hnc, hcm, _⟩ := H6.out.own.1.form (by have := HPL.out; omega)
      subst hA hn3
      obtain ⟨q, hq⟩ : ∃ q, P.length / 64 = q := ⟨_, rfl⟩
      rw [hq] at HHF
      have hL : P.length = 64 * q := by have := HPL.out.1; omega
      have HL := Lib.hid hL
      obtain ⟨L, hLn⟩ : ∃ L, P.length = L := ⟨_, rfl⟩
      have HLN := Lib.hid hLn
      have hLb : L ≤ 140737488355328 := by have := HPL.out.2.2; have := HN.out; omega
      rw [hLn] at hnc HL H6 ⊢
      clear hL hLn hr3 hP hq he
      go_wp2_with (refine wpList_store_mid rfl 137 (.tmp 5) (.tmp 27) rfl w5.heap.size 0 kcells rfl rfl (by exact HT.out) info_arr64 kcells_one ?_)
      go_loopw [6] (fun v wx => ∃ (x i : Nat), v = .int .i64 x ∧ i ≤ q ∧ HD (x = 64 * i) ∧ HD (HS (fun k => r = some k) w wx (.slice (some ⟨g, 0, none⟩) L c4) P r4 (S8.blocks P i)) ∧ HD (wx.heap[w5.heap.size]? = some (.cells kcells 137 (0, 0))) ∧ HD (w.heap.size < w5.heap.size)) (fun v _ => L - (intOf v).toNat)
      case atStart => exact ⟨0, 0, rfl, Nat.zero_le _, ⟨rfl⟩, ⟨H6.out⟩, ⟨HK6.out⟩, ⟨HL5.out⟩⟩
      case round =>
        clear H6 HK6 HT
        obtain ⟨x, i, rfl, hi, HX, HO, HKK, HLT⟩ := hrel
        obtain ⟨w7, rfl⟩ : ∃ w7, w7 = wr := ⟨_, rfl⟩
        by_cases hlt : i < q
        · have hx := HX.out
          have hLq := HL.out
          have hxL : (x : Int) < (L : Int) := by omega
          have hx64 : x + 64 ≤ L := by omega
          have HBY : Hid (∀ j, j < 64 → w7.cell? ⟨g, x + j, none⟩ = some (.int .u8 (byteAt (P.drop (64 * i)) j))) := Lib.hid (fun j hj => by
            obtain ⟨g', hA', _, _, _, _, hby⟩ := HO.out.own.1.form (by have := HLN.out; omega)
            injection hA' with hA'
            injection hA' with hA'
            subst hA'
            rw [byteAt_drop, ← hx]
            exact hby (x + j) (by have := HLN.out; omega))
          have HBK : Hid (S8.blocks P (i + 1) = (S8.blocks P i).block (P.drop (64 * i))) := Lib.hid rfl
          have hok := S8.blocks_ok P i
          obtain ⟨st, hst⟩ : ∃ st, S8.blocks P i = st := ⟨_, rfl⟩
          rw [hst] at HO HBK hok
          clear hx hLq hst
          obtain ⟨s0, s1, s2, s3, s4, s5, s6, s7⟩ := stateAt HO.out.box
          have hwl := HLT.out
          go_wp2_with fail
          refine (rblock_calls _ w5.heap.size g L c4 x st (P.drop (64 * i)) hok (by exact HKK.out) hx64 hLb (by exact HBY.out)).mono ?_
          rw [← HBK.out]
          rintro e w8 ⟨rfl, hg⟩
          have HO8 := Lib.hid (HO.out.kept hg)
          have HK8 := Lib.hid (hg.obj HKK.out (fun h => h))
          clear hg s0 s1 s2 s3 s4 s5 s6 s7
          obtain ⟨s0, s1, s2, s3, s4, s5, s6, s7⟩ := stateAt HO8.out.box
          have f0 := blkFree HO8.out.box 0
          have f1 := blkFree HO8.out.box 1
          have f2 := blkFree HO8.out.box 2
          have f3 := blkFree HO8.out.box 3
          have f4 := blkFree HO8.out.box 4
          have f5 := blkFree HO8.out.box 5
          have f6 := blkFree HO8.out.box 6
          have f7 := blkFree HO8.out.box 7
          simp only [S8.val]
          go_wp2
          have h8 := set8 HO8.out.box (S8.blocks P (i + 1))
          exact ⟨⟨x + 64, i + 1, by go_num, by omega, ⟨by have := HX.out; omega⟩, ⟨HO8.out.boxed h8.2 h8.1⟩, ⟨h8.2.obj HK8.out (by have := HLT.out; omega)⟩, HLT⟩, by simp [intOf]; omega⟩
        · obtain rfl : i = q := by omega
          have hxe : x = L := by have := HX.out; have := HL.out; omega
          subst hxe
          obtain ⟨st, hst⟩ : ∃ st, S8.blocks P i = st := ⟨_, rfl⟩
          rw [hst] at HO HHF
          have hok : st.ok := by rw [← hst]; exact S8.blocks_ok P i
          have HOK := Lib.hid hok
          clear hst hok
          have HO3 : Hid (HS (fun k => r = some k) w w7 (.slice none 0 0) [] none st) := Lib.hid ⟨⟨Row.nil _ _, fun k e => (by cases e), HO.out.own.2.2⟩, HO.out.box⟩
          go_wp2_with fail
          go_loopw [7, 8] (fun v y wx => ∃ (k : Nat) (B2 : Option Addr) (m2 C2 : Nat) (r5 : Option Nat), k ≤ 8 ∧ y = .int .i64 k ∧ v = .slice B2 m2 C2 ∧ HD (HS (fun k => r = some k) w wx (.slice B2 m2 C2) ((st.words.take k).flatMap fun x => numBytes x 4) r5 st)) (fun _ y _ => 8 - (intOf y).toNat)
          case atStart => exact ⟨0, none, 0, 0, none, Nat.zero_le _, rfl, rfl, ⟨HO3.out⟩⟩
          case round =>
            clear HO3 HO HKK HLT HX hlt hi
            obtain ⟨k, B2, m2, C2, r5, hk, rfl, rfl, HO⟩ := hrel
            obtain ⟨w9, rfl⟩ : ∃ w9, w9 = wr := ⟨_, rfl⟩
            by_cases hlt : k < 8
            · have c0 := blkCell HO.out.box k
              rw [List.getElem?_toArray, cells_words st k hlt] at c0
              obtain ⟨x0, x1⟩ := wordsGet st HOK.out k hlt
              have HST := Lib.hid (out_step st k hlt)
              have hbl := takeBytes_len st k
              obtain ⟨y, hy⟩ : ∃ y, st.words.getD k 0 = y := ⟨_, rfl⟩
              rw [hy] at c0 x0 x1 HST
              clear hy
              have t0 : (k : Int).toNat = k := by omega
              have p0 : (0 : Int) ≤ (k : Int) := by omega
              have q0 : (k : Int) < 8 := by omega
              have hwl := blkLt HO.out.box
              go_wp2_with fail
              refine (num01_calls _ (.slice B2 m2 C2) r5 ((st.words.take k).flatMap fun x => numBytes x 4) y 4 HO.out.own.1 x0 (by omega) (by omega)).mono ?_
              rintro e w10 ⟨A5, n5, c5, r6, rfl, hrow, hnx, hg⟩
              have H10 := Lib.hid (HO.out.next hrow hnx hg)
              clear hrow hnx hg
              go_wp2
              exact ⟨⟨k + 1, A5, n5, c5, r6, by omega, by go_num, rfl, ⟨by rw [HST.out]; exact H10.out⟩⟩, by simp [intOf]; omega⟩
            · obtain rfl : k = 8 := by omega
              have hl8 : (st.words.take 8).flatMap (fun x => numBytes x 4) = st.out := rfl
              rw [hl8] at HO
              have kc := fun dst (hd : Try.prog.underlying dst = some .string) => run_string_row (P := Try.prog) (dst := dst) Try.underlying34 Try.underlying5 hd HO.out.own.1
              have kc := kc 9 Try.underlying9
              clear hl8
              go_wp2
              go_ret
              rw [HHF.out]
              exact ⟨rfl, HO.out.own.2.2⟩
    · have he : (((n + 1 + j : Nat) : Int) % 64 != 56) = true := by
        have h2 : (n + 1 + j) % 64 ≠ 56 := fun h => hlt ((HZN.out j hj).1 h)
        rw [hmm, bne_iff_ne]
        omega
      clear hmm
      go_wp2_with (at_builtin; refine wpList_append_list wr rfl (.tmp 19) (.tmp 20) 34 5 rfl Try.underlying34 info_u8 (.slice B (n + 1 + j) C) r2 (bs ++ [128] ++ List.replicate j 0) [0] 1 rfl _ h000.out rfl rfl HO.out.own.1 (by have := HN.out; simp; omega) ?_; intro A3 n3 c3 w3 r3 hrow hnext hgrow; have H3 := Lib.hid (HO.out.next hrow hnext (Chg.ofGrown hgrow)); clear hrow hnext hgrow)
      have hn3 : n3 = n + 1 + (j + 1) := by
        obtain ⟨g, _, _, h3, _⟩ := H3.out.own.1.form (by simp; omega)
        rw [h3]
        have := HN.out
        simp
        omega
      exact ⟨⟨j + 1, A3, n3, c3, r3, rfl, by omega, hn3, ⟨by have h := H3.out; rwa [List.append_assoc (bs ++ [128]), show List.replicate j (0 : UInt8) ++ [0] = List.replicate (j + 1) 0 from List.replicate_succ'.symm] at h⟩⟩, by simp only []; omega⟩
end Go.Proofs.Ytpdgkgdaaapngaa
