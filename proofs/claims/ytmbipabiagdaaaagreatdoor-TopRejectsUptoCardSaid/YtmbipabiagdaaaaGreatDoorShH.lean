/- hashed and Tag of package sha. -/
import Derived.Test.YtmbipabiagdaaaaGreatDoorShT
namespace Go.Proofs.YtmbipabiagdaaaaGreatDoor
open Go.RowKit
/-- A row that lies behind W, or in what may turn. -/
def OwnS (S : Nat → Prop) (W w : World) (v : Value) (bs : List UInt8) (r : Option Nat) : Prop := Row w 5 v r bs ∧ (∀ k, r = some k → S k ∨ W.heap.size ≤ k) ∧ Chg S W w
theorem OwnS.next {S : Nat → Prop} {W w w1 : World} {v v1 : Value} {bs bs1 : List UInt8} {r r1 : Option Nat} (h : OwnS S W w v bs r) (h1 : Row w1 5 v1 r1 bs1) (hn : Next w r r1) (hg : Chg (fun k => r = some k) w w1) : OwnS S W w1 v1 bs1 r1 :=
  ⟨h1, fun k e => (hn.mem e).elim (h.2.1 k) (fun h2 => .inr (Nat.le_trans h.2.2.size h2)), h.2.2.trans hg (fun k e => h.2.1 k e)⟩
theorem OwnS.kept {S : Nat → Prop} {W w w1 : World} {v : Value} {bs : List UInt8} {r : Option Nat} (h : OwnS S W w v bs r) (hc : Chg (fun _ => False) w w1) : OwnS S W w1 v bs r :=
  ⟨h.1.chg hc (fun _ _ h => h), h.2.1, h.2.2.trans hc (fun _ e => e.elim)⟩
theorem Row.form {w : World} {e : TypeId} {A : Option Addr} {n c : Nat} {r : Option Nat} {bs : List UInt8} (h : Row w e (.slice A n c) r bs) (h0 : 0 < bs.length) :
    ∃ g, A = some ⟨g, 0, none⟩ ∧ r = some g ∧ n = bs.length ∧ n ≤ c ∧ c ≤ 9223372036854775807 ∧ ∀ j, j < bs.length → w.cell? ⟨g, j, none⟩ = some (.int .u8 (byteAt bs j)) := by
  obtain ⟨ho, hr⟩ := h
  have hown := ho.2
  rcases hown with ⟨_, h1⟩ | ⟨g, cap, cur, he, _, hg, hnc, hcm, hcs, ht⟩
  · omega
  · injection he with he1 he2 he3
    subst he1 he2 he3
    refine ⟨g, rfl, hr.symm, rfl, hnc, by simp only [maxLen] at hcm; omega, fun j hj => ?_⟩
    have hc := ho.cells (g := g) rfl j (.int .u8 (byteAt bs j)) (by simp [bcells, byteAt, List.getElem?_eq_getElem hj, List.getD_eq_getElem?_getD])
    have ha : (⟨g, 0, none⟩ : Addr).add j = ⟨g, j, none⟩ := by unfold Addr.add; split <;> simp_all
    rwa [ha] at hc
set_option maxRecDepth 100000 in
set_option maxHeartbeats 4000000 in
theorem hashed_calls (w : World) (A : Option Addr) (n c : Nat) (r : Option Nat) (bs : List UInt8) (h : Row w 5 (.slice A n c) r bs) (hn : bs.length = n) (hl : n ≤ 140737488355200) :
    Calls Tryz.prog 140 #[.slice A n c] w fun e w' => e = .returned (.string (strOf (hashF bs))) ∧ Chg (fun k => r = some k) w w' := by
  have H0 : Hid (OwnS (fun k => r = some k) w w (.slice A n c) bs r) := Lib.hid ⟨h, fun k e => .inl e, Chg.refl _ w⟩
  have HN := Lib.hid hn
  have hz : (119 - (n : Int)) % 64 = ((zeroN n : Nat) : Int) := by unfold zeroN; omega
  have hz0 : ((zeroN n : Nat) : Int) ≤ 63 := by unfold zeroN; omega
  have h128 : Hid (#[Value.int .u8 128] = (bcells [128]).toArray) := Lib.hid rfl
  have hc8 := cells8 ((n : Int) * 8)
  rw [show (n : Int) * 8 / 72057594037927936 % 256 = (n : Int) * 8 / 72057594037927936 from Int.emod_eq_of_lt (by omega) (by omega), show (n : Int) * 8 / 281474976710656 % 256 = (n : Int) * 8 / 281474976710656 from Int.emod_eq_of_lt (by omega) (by omega)] at hc8
  have HC8 : Hid (#[Value.int IntKind.u8 (↑n * 8 / 72057594037927936), Value.int IntKind.u8 (↑n * 8 / 281474976710656), Value.int IntKind.u8 (↑n * 8 / 1099511627776 % 256), Value.int IntKind.u8 (↑n * 8 / 4294967296 % 256), Value.int IntKind.u8 (↑n * 8 / 16777216 % 256), Value.int IntKind.u8 (↑n * 8 / 65536 % 256), Value.int IntKind.u8 (↑n * 8 / 256 % 256), Value.int IntKind.u8 (↑n * 8 % 256)] = (bcells (numBytes ((n : Int) * 8) 8)).toArray) := Lib.hid (by rw [hc8])
  have HPD : Hid (bs ++ [128] ++ List.replicate (zeroN n) 0 ++ numBytes ((n : Int) * 8) 8 = padF bs) := Lib.hid (by unfold padF; rw [hn])
  have HPL := Lib.hid (padF_len bs)
  clear h hn hc8
  go_enter Tryz.func140, Tryz.ntmps140
  go_wp2_with (first
    | (at_builtin; refine wpList_append_list w rfl (.tmp 16) (.tmp 17) 73 5 rfl Tryz.underlying73 info_u8 (.slice A n c) r bs [128] 1 rfl _ h128.out rfl rfl H0.out.1 (by have := HN.out; omega) ?_; intro A1 n1 c1 w1 r1 hrow hnext hgrow; have H1 := Lib.hid (H0.out.next hrow hnext (Chg.ofGrown hgrow)); clear hrow hnext hgrow)
    | (at_builtin; refine wpList_append_zeros w1 rfl (.tmp 19) (.tmp 20) 73 3 5 rfl Tryz.underlying73 Tryz.underlying3 info_u8 (.slice A1 n1 c1) r1 (bs ++ [128]) (zeroN n) rfl rfl H1.out.1 (by simp) (by omega) (by have := HN.out; simp; omega) ?_; intro A2 n2 c2 w2 r2 hrow hnext hgrow; have H2 := Lib.hid (H1.out.next hrow hnext ((Chg.refl _ w1).grown hgrow (fun _ hk => .inl hk))); clear hrow hnext hgrow)
    | (at_builtin; refine wpList_append_list w2 rfl (.tmp 22) (.tmp 46) 73 5 rfl Tryz.underlying73 info_u8 (.slice A2 n2 c2) r2 (bs ++ [128] ++ List.replicate (zeroN n) 0) (numBytes ((n : Int) * 8) 8) 8 (numBytes_len _ 8) _ HC8.out rfl rfl H2.out.1 (by have := HN.out; simp; omega) ?_; intro A3 n3 c3 w3 r3 hrow hnext hgrow; have H3 := Lib.hid (H2.out.next hrow hnext (Chg.ofGrown hgrow)); rw [HPD.out] at H3; clear hrow hnext hgrow)
    | (go_at_call 150; refine (begin_calls _).mono ?_; rintro e w4 ⟨rfl, hg⟩; simp only [S8.val, S8.begin]; have H4 := Lib.hid (H3.out.kept hg); clear hg)
    | (go_at_call 151; refine (constants_calls _).mono ?_; rintro e w5 ⟨rfl, rfl⟩))
  obtain ⟨g, hA, hr3, hn3, hnc, hcm, hby⟩ := H4.out.1.form (by have := HPL.out; omega)
  subst hA hn3
  obtain ⟨P, hP⟩ : ∃ P, padF bs = P := ⟨_, rfl⟩
  have HHF : Hid (hashF bs = (S8.blocks P (P.length / 64)).out) := Lib.hid (by unfold hashF; rw [hP])
  rw [hP] at H4 HPL hby hnc ⊢
  obtain ⟨q, hq⟩ : ∃ q, P.length / 64 = q := ⟨_, rfl⟩
  rw [hq] at HHF
  have hL : P.length = 64 * q := by have := HPL.out.1; omega
  have HL := Lib.hid hL
  obtain ⟨L, hLn⟩ : ∃ L, P.length = L := ⟨_, rfl⟩
  rw [hLn] at hby hnc HL ⊢
  have hLb : L ≤ 140737488355328 := by have := HPL.out.2.2; have := HN.out; omega
  have HBY := Lib.hid hby
  have hgl : g < w4.heap.size := (H4.out.1.lt hr3).1
  have HW : Hid (Chg (fun _ => False) w4 ((w4.alloc (.cells kcells 188)).alloc (.cells #[.int .u32 1779033703, .int .u32 3144134277, .int .u32 1013904242, .int .u32 2773480762, .int .u32 1359893119, .int .u32 2600822924, .int .u32 528734635, .int .u32 1541459225] 182))) := Lib.hid (((Chg.refl _ w4).alloc _).alloc _)
  have HST : Hid (((w4.alloc (.cells kcells 188)).alloc (.cells #[.int .u32 1779033703, .int .u32 3144134277, .int .u32 1013904242, .int .u32 2773480762, .int .u32 1359893119, .int .u32 2600822924, .int .u32 528734635, .int .u32 1541459225] 182)).heap[w4.heap.size + 1]? = some (.cells (S8.blocks P 0).cells.toArray 182 (0, 0))) := Lib.hid (by
    have h := blkAlloc (w4.alloc (.cells kcells 188)) (.cells #[.int .u32 1779033703, .int .u32 3144134277, .int .u32 1013904242, .int .u32 2773480762, .int .u32 1359893119, .int .u32 2600822924, .int .u32 528734635, .int .u32 1541459225] 182)
    rwa [show (w4.alloc (.cells kcells 188)).heap.size = w4.heap.size + 1 from by simp] at h)
  have HKK : Hid (((w4.alloc (.cells kcells 188)).alloc (.cells #[.int .u32 1779033703, .int .u32 3144134277, .int .u32 1013904242, .int .u32 2773480762, .int .u32 1359893119, .int .u32 2600822924, .int .u32 528734635, .int .u32 1541459225] 182)).heap[w4.heap.size]? = some (.cells kcells 188 (0, 0))) := Lib.hid (blkOld (blkAlloc w4 _) _)
  clear hby hL hLn hr3 hz hz0
  go_loopw [0] (fun v wx => ∃ (i : Nat) (B : Option Addr) (m C : Nat), v = .slice B m C ∧ i ≤ q ∧ HD (m + 64 * i = L) ∧ HD (i < q → B = some ⟨g, 64 * i, none⟩ ∧ C + 64 * i = c3) ∧ HD (wx.heap[w4.heap.size + 1]? = some (.cells (S8.blocks P i).cells.toArray 182 (0, 0))) ∧
    HD (Chg (fun k => k = w4.heap.size + 1) ((w4.alloc (.cells kcells 188)).alloc (.cells #[.int .u32 1779033703, .int .u32 3144134277, .int .u32 1013904242, .int .u32 2773480762, .int .u32 1359893119, .int .u32 2600822924, .int .u32 528734635, .int .u32 1541459225] 182)) wx)) (fun v _ => match v with | .slice _ m _ => m | _ => 0)
  case atStart => exact ⟨0, _, _, _, rfl, Nat.zero_le _, ⟨rfl⟩, ⟨fun _ => ⟨rfl, rfl⟩⟩, ⟨HST.out⟩, ⟨Chg.refl _ _⟩⟩
  case round =>
    clear HST
    obtain ⟨i, B, m, C, rfl, hi, HM, HB, HS, GG⟩ := hrel
    by_cases hlt : i < q
    · obtain ⟨rfl, hC⟩ := HB.out hlt
      have hm := HM.out
      have hLq := HL.out
      have hm0 : (0 : Int) < (m : Int) := by omega
      have hm64 : (64 : Int) ≤ (m : Int) := by omega
      have hmC : (m : Int) ≤ (C : Int) := by omega
      have h64C : (64 : Int) ≤ (C : Int) := by omega
      have hCb : (C : Int) ≤ 9223372036854775807 := by omega
      have HIC : Hid (C = 64 → i + 1 = q) := Lib.hid (by omega)
      have HCC := Lib.hid hC
      clear hm hLq hC
      have HK6 : Hid (wr.heap[w4.heap.size]? = some (.cells kcells 188 (0, 0))) := Lib.hid (GG.out.obj HKK.out (by omega))
      have HP6 : Hid (∀ j, j < 64 → wr.cell? ⟨g, 64 * i + j, none⟩ = some (.int .u8 (byteAt (P.drop (64 * i)) j))) := Lib.hid (fun j hj => by
        have hm := HM.out
        have hLq := HL.out
        rw [byteAt_drop]
        exact cellChg (cellChg (HBY.out (64 * i + j) (by omega)) HW.out (fun h => h)) GG.out (by show ¬ g = w4.heap.size + 1; omega))
      by_cases hc64 : C = 64
      · subst hc64
        go_wp2_with fail
        refine (block_calls _ (w4.heap.size + 1) w4.heap.size g (64 * i) _ (S8.blocks P i) (P.drop (64 * i)) (S8.blocks_ok P i) (by exact HS.out) (by exact HK6.out) (by exact HP6.out)).mono ?_
        rintro e w6 ⟨rfl, hs6, hc6⟩
        have HS6 : Hid (w6.heap[w4.heap.size + 1]? = some (.cells (S8.blocks P (i + 1)).cells.toArray 182 (0, 0))) := Lib.hid hs6
        have HC6 := Lib.hid hc6
        clear hs6 hc6
        go_wp2
        exact ⟨⟨i + 1, _, _, _, rfl, by omega, ⟨by have := HM.out; omega⟩, ⟨fun h => absurd h (by have := HIC.out (by simp); omega)⟩, ⟨HS6.out⟩, ⟨GG.out.trans HC6.out (fun k e => .inl e)⟩⟩, by simp only []; omega⟩
      · skip
        go_wp2_with fail
        refine (block_calls _ (w4.heap.size + 1) w4.heap.size g (64 * i) _ (S8.blocks P i) (P.drop (64 * i)) (S8.blocks_ok P i) (by exact HS.out) (by exact HK6.out) (by exact HP6.out)).mono ?_
        rintro e w6 ⟨rfl, hs6, hc6⟩
        have HS6 : Hid (w6.heap[w4.heap.size + 1]? = some (.cells (S8.blocks P (i + 1)).cells.toArray 182 (0, 0))) := Lib.hid hs6
        have HC6 := Lib.hid hc6
        clear hs6 hc6
        go_wp2
        exact ⟨⟨i + 1, _, _, _, rfl, by omega, ⟨by have := HM.out; omega⟩, ⟨fun h => ⟨by rw [show 64 * (i + 1) = 64 * i + 64 from by omega], by have := HCC.out; omega⟩⟩, ⟨HS6.out⟩, ⟨GG.out.trans HC6.out (fun k e => .inl e)⟩⟩, by simp only []; omega⟩
    · obtain rfl : i = q := by omega
      obtain rfl : m = 0 := by have := HM.out; have := HL.out; omega
      obtain ⟨s0, s1, s2, s3, s4, s5, s6, s7⟩ := stateAt HS.out
      go_wp2_with fail
      refine (text_calls _ (S8.blocks P i) (S8.blocks_ok P i)).mono ?_
      rintro e w6 ⟨rfl, hg⟩
      have HG6 := Lib.hid hg
      clear hg
      go_wp2
      go_ret
      rw [HHF.out]
      exact ⟨rfl, ((H4.out.2.2.trans HW.out (fun _ h => h.elim)).trans GG.out (fun k e => .inr (by have := H4.out.2.2.size; omega))).trans HG6.out (fun _ h => h.elim)⟩
end Go.Proofs.YtmbipabiagdaaaaGreatDoor
