/- hashed and Tag of package sha. -/
import Derived.Test.YtnhdlclicjmmnaaGreatShT
namespace Go.Proofs.YtnhdlclicjmmnaaGreat
open Go.RowKit
/-- A row that lies behind W, or in what may turn. -/
def OwnS (S : Nat → Prop) (W w : World) (v : Value) (bs : List UInt8) (r : Option Nat) : Prop := Row w 5 v r bs ∧ (∀ k, r = some k → S k ∨ W.heap.size ≤ k) ∧ Chg S W w
theorem OwnS.next {S : Nat → Prop} {W w w1 : World} {v v1 : Value} {bs bs1 : List UInt8} {r r1 : Option Nat} (h : OwnS S W w v bs r) (h1 : Row w1 5 v1 r1 bs1) (hn : Next w r r1) (hg : Chg (fun k => r = some k) w w1) : OwnS S W w1 v1 bs1 r1 :=
  ⟨h1, fun k e => (hn.mem e).elim (h.2.1 k) (fun h2 => .inr (Nat.le_trans h.2.2.size h2)), h.2.2.trans hg (fun k e => h.2.1 k e)⟩
theorem OwnS.kept {S : Nat → Prop} {W w w1 : World} {v : Value} {bs : List UInt8} {r : Option Nat} (h : OwnS S W w v bs r) (hc : Chg (fun _ => False) w w1) : OwnS S W w1 v bs r :=
  ⟨h.1.chg hc (fun _ _ h => h), h.2.1, h.2.2.trans hc (fun _ e => e.elim)⟩
theorem Row.form {w : World} {e : TypeId} {A : Option Addr} {n c : Nat} {r : Option Nat} {bs : List UInt8} (h : Row w e (.slice A n c) r bs) (h0 : 0 < bs.length) :
    ∃ g, A = some ⟨g, 0, none⟩ ∧ r = some g ∧ n = bs.length ∧ n ≤ c ∧ c ≤ 9223372036854775807 ∧ ∀ j, j < bs.length → w.cell? ⟨g, j, none⟩ = some (.int .u8 (byteAt bs j)) := by
  obtain ⟨ho, hr⟩ := h
  have hown := ho.2
  rcases hown with ⟨_, h1⟩ | ⟨g, cap, cur, he, _, hg, hnc, hcm, hcs, ht⟩
  · omega
  · injection he with he1 he2 he3
    subst he1 he2 he3
    refine ⟨g, rfl, hr.symm, rfl, hnc, by simp only [maxLen] at hcm; omega, fun j hj => ?_⟩
    have hc := ho.cells (g := g) rfl j (.int .u8 (byteAt bs j)) (by simp [bcells, byteAt, List.getElem?_eq_getElem hj, List.getD_eq_getElem?_getD])
    have ha : (⟨g, 0, none⟩ : Addr).add j = ⟨g, j, none⟩ := by unfold Addr.add; split <;> simp_all
    rwa [ha] at hc
set_option maxRecDepth 100000 in
set_option maxHeartbeats 4000000 in
theorem hashed_calls (w : World) (A : Option Addr) (n c : Nat) (r : Option Nat) (bs : List UInt8) (h : Row w 5 (.slice A n c) r bs) (hn : bs.length = n) (hl : n ≤ 140737488355200) :
    Calls Tryz.prog 45 #[.slice A n c] w fun e w' => e = .returned (.string (strOf (hashF bs))) ∧ Chg (fun k => r = some k) w w' := by
  have H0 : Hid (OwnS (fun k => r = some k) w w (.slice A n c) bs r) := Lib.hid ⟨h, fun k e => .inl e, Chg.refl _ w⟩
  have HN := Lib.hid hn
  have hz : (119 - (n : Int)) % 64 = ((zeroN n : Nat) : Int) := by unfold zeroN; omega
  have hz0 : ((zeroN n : Nat) : Int) ≤ 63 := by unfold zeroN; omega
  have h128 : Hid (#[Value.int .u8 128] = (bcells [128]).toArray) := Lib.hid rfl
  have hc8 := cells8 ((n : Int) * 8)
  rw [show (n : Int) * 8 / 72057594037927936 % 256 = (n : Int) * 8 / 72057594037927936 from Int.emod_eq_of_lt (by omega) (by omega), show (n : Int) * 8 / 281474976710656 % 256 = (n : Int) * 8 / 281474976710656 from Int.emod_eq_of_lt (by omega) (by omega)] at hc8
  have HC8 : Hid (#[Value.int IntKind.u8 (↑n * 8 / 72057594037927936), Value.int IntKind.u8 (↑n * 8 / 281474976710656), Value.int IntKind.u8 (↑n * 8 / 1099511627776 % 256), Value.int IntKind.u8 (↑n * 8 / 4294967296 % 256), Value.int IntKind.u8 (↑n * 8 / 16777216 % 256), Value.int IntKind.u8 (↑n * 8 / 65536 % 256), Value.int IntKind.u8 (↑n * 8 / 256 % 256), Value.int IntKind.u8 (↑n * 8 % 256)] = (bcells (numBytes ((n : Int) * 8) 8)).toArray) := Lib.hid (by rw [hc8])
  have HPD : Hid (bs ++ [128] ++ List.replicate (zeroN n) 0 ++ numBytes ((n : Int) * 8) 8 = padF bs) := Lib.hid (by unfold padF; rw [hn])
  have HPL := Lib.hid (padF_len bs)
  clear h hn hc8
  go_enter Tryz.func45, Tryz.ntmps45
  go_wp2_with (first
    | (at_builtin; refine wpList_append_list w rfl (.tmp 16) (.tmp 17) 22 5 rfl Tryz.underlying22 info_u8 (.slice A n c) r bs [128] 1 rfl _ h128.out rfl rfl H0.out.1 (by have := HN.out; omega) ?_; intro A1 n1 c1 w1 r1 hrow hnext hgrow; have H1 := Lib.hid (H0.out.next hrow hnext (Chg.ofGrown hgrow)); clear hrow hnext hgrow)
    | (at_builtin; refine wpList_append_zeros w1 rfl (.tmp 19) (.tmp 20) 22 3 5 rfl Tryz.underlying22 Tryz.underlying3 info_u8 (.slice A1 n1 c1) r1 (bs ++ [128]) (zeroN n) rfl rfl H1.out.1 (by simp) (by omega) (by have := HN.out; simp; omega) ?_; intro A2 n2 c2 w2 r2 hrow hnext hgrow; have H2 := Lib.hid (H1.out.next hrow hnext ((Chg.refl _ w1).grown hgrow (fun _ hk => .inl hk))); clear hrow hnext hgrow)
    | (at_builtin; refine wpList_append_list w2 rfl (.tmp 22) (.tmp 46) 22 5 rfl Tryz.underlying22 info_u8 (.slice A2 n2 c2) r2 (bs ++ [128] ++ List.replicate (zeroN n) 0) (numBytes ((n : Int) * 8) 8) 8 (numBytes_len _ 8) _ HC8.out rfl rfl H2.out.1 (by have := HN.out; simp; omega) ?_; intro A3 n3 c3 w3 r3 hrow hnext hgrow; have H3 := Lib.hid (H2.out.next hrow hnext (Chg.ofGrown hgrow)); rw [HPD.out] at H3; clear hrow hnext hgrow)
    | (go_at_call 76; refine (begin_calls _).mono ?_; rintro e w4 ⟨rfl, hg⟩; simp only [S8.val, S8.begin]; have H4 := Lib.hid (H3.out.kept hg); clear hg)
    | (go_at_call 77; refine (constants_calls _).mono ?_; rintro e w5 ⟨rfl, rfl⟩))
  obtain ⟨g, hA, hr3, hn3, hnc, hcm, hby⟩ := H4.out.1.form (by have := HPL.out; omega)
  subst hA hn3
  obtain ⟨P, hP⟩ : ∃ P, padF bs = P := ⟨_, rfl⟩
  have HHF : Hid (hashF bs = (S8.blocks P (P.length / 64)).out) := Lib.hid (by unfold hashF; rw [hP])
  rw [hP] at H4 HPL hby hnc ⊢
  obtain ⟨q, hq⟩ : ∃ q, P.length / 64 = q := ⟨_, rfl⟩
  rw [hq] at HHF
  have hL : P.length = 64 * q := by have := HPL.out.1; omega
  have HL := Lib.hid hL
  obtain ⟨L, hLn⟩ : ∃ L, P.length = L := ⟨_, rfl⟩
  rw [hLn] at hby hnc HL ⊢
  have hLb : L ≤ 140737488355328 := by have := HPL.out.2.2; have := HN.out; omega
  have HBY := Lib.hid hby
  have hgl : g < w4.heap.size := (H4.out.1.lt hr3).1
  have HW : Hid (Chg (fun _ => False) w4 ((w4.alloc (.cells kcells 152)).alloc (.cells #[.int .u32 1779033703, .int .u32 3144134277, .int .u32 1013904242, .int .u32 2773480762, .int .u32 1359893119, .int .u32 2600822924, .int .u32 528734635, .int .u32 1541459225] 133))) := Lib.hid (((Chg.refl _ w4).alloc _).alloc _)
  have HST : Hid (((w4.alloc (.cells kcells 152)).alloc (.cells #[.int .u32 1779033703, .int .u32 3144134277, .int .u32 1013904242, .int .u32 2773480762, .int .u32 1359893119, .int .u32 2600822924, .int .u32 528734635, .int .u32 1541459225] 133)).heap[w4.heap.size + 1]? = some (.cells (S8.blocks P 0).cells.toArray 133 (0, 0))) := Lib.hid (by
    have h := blkAlloc (w4.alloc (.cells kcells 152)) (.cells #[.int .u32 1779033703, .int .u32 3144134277, .int .u32 1013904242, .int .u32 2773480762, .int .u32 1359893119, .int .u32 2600822924, .int .u32 528734635, .int .u32 1541459225] 133)
    rwa [show (w4.alloc (.cells kcells 152)).heap.size = w4.heap.size + 1 from by simp] at h)
  have HKK : Hid (((w4.alloc (.cells kcells 152)).alloc (.cells #[.int .u32 1779033703, .int .u32 3144134277, .int .u32 1013904242, .int .u32 2773480762, .int .u32 1359893119, .int .u32 2600822924, .int .u32 528734635, .int .u32 1541459225] 133)).heap[w4.heap.size]? = some (.cells kcells 152 (0, 0))) := Lib.hid (blkOld (blkAlloc w4 _) _)
  clear hby hL hLn hr3 hz hz0
  go_loopw [0] (fun v wx => ∃ (i : Nat) (B : Option Addr) (m C : Nat), v = .slice B m C ∧ i ≤ q ∧ HD (m + 64 * i = L) ∧ HD (i < q → B = some ⟨g, 64 * i, none⟩ ∧ C + 64 * i = c3) ∧ HD (wx.heap[w4.heap.size + 1]? = some (.cells (S8.blocks P i).cells.toArray 133 (0, 0))) ∧
    HD (Chg (fun k => k = w4.heap.size + 1) ((w4.alloc (.cells kcells 152)).alloc (.cells #[.int .u32 1779033703, .int .u32 3144134277, .int .u32 1013904242, .int .u32 2773480762, .int .u32 1359893119, .int .u32 2600822924, .int .u32 528734635, .int .u32 1541459225] 133)) wx)) (fun v _ => match v with | .slice _ m _ => m | _ => 0)
  case atStart => exact ⟨0, _, _, _, rfl, Nat.zero_le _, ⟨rfl⟩, ⟨fun _ => ⟨rfl, rfl⟩⟩, ⟨HST.out⟩, ⟨Chg.refl _ _⟩⟩
  case round =>
    clear HST
    obtain ⟨i, B, m, C, rfl, hi, HM, HB, HS, GG⟩ := hrel
    by_cases hlt : i < q
    · obtain ⟨rfl, hC⟩ := HB.out hlt
      have hm := HM.out
      have hLq := HL.out
      have hm0 : (0 : Int) < (m : Int) := by omega
      have hm64 : (64 : Int) ≤ (m : Int) := by omega
      have hmC : (m : Int) ≤ (C : Int) := by omega
      have h64C : (64 : Int) ≤ (C : Int) := by omega
      have hCb : (C : Int) ≤ 9223372036854775807 := by omega
      have HIC : Hid (C = 64 → i + 1 = q) := Lib.hid (by omega)
      have HCC := Lib.hid hC
      clear hm hLq hC
      have HK6 : Hid (wr.heap[w4.heap.size]? = some (.cells kcells 152 (0, 0))) := Lib.hid (GG.out.obj HKK.out (by omega))
      have HP6 : Hid (∀ j, j < 64 → wr.cell? ⟨g, 64 * i + j, none⟩ = some (.int .u8 (byteAt (P.drop (64 * i)) j))) := Lib.hid (fun j hj => by
        have hm := HM.out
        have hLq := HL.out
        rw [byteAt_drop]
        exact cellChg (cellChg (HBY.out (64 * i + j) (by omega)) HW.out (fun h => h)) GG.out (by show ¬ g = w4.heap.size + 1; omega))
      by_cases hc64 : C = 64
      · subst hc64
        go_wp2_with fail
        refine (block_calls _ (w4.heap.size + 1) w4.heap.size g (64 * i) _ (S8.blocks P i) (P.drop (64 * i)) (S8.blocks_ok P i) (by exact HS.out) (by exact HK6.out) (by exact HP6.out)).mono ?_
        rintro e w6 ⟨rfl, hs6, hc6⟩
        have HS6 : Hid (w6.heap[w4.heap.size + 1]? = some (.cells (S8.blocks P (i + 1)).cells.toArray 133 (0, 0))) := Lib.hid hs6
        have HC6 := Lib.hid hc6
        clear hs6 hc6
        go_wp2
        exact ⟨⟨i + 1, _, _, _, rfl, by omega, ⟨by have := HM.out; omega⟩, ⟨fun h => absurd h (by have := HIC.out (by simp); omega)⟩, ⟨HS6.out⟩, ⟨GG.out.trans HC6.out (fun k e => .inl e)⟩⟩, by simp only []; omega⟩
      · skip
        go_wp2_with fail
        refine (block_calls _ (w4.heap.size + 1) w4.heap.size g (64 * i) _ (S8.blocks P i) (P.drop (64 * i)) (S8.blocks_ok P i) (by exact HS.out) (by exact HK6.out) (by exact HP6.out)).mono ?_
        rintro e w6 ⟨rfl, hs6, hc6⟩
        have HS6 : Hid (w6.heap[w4.heap.size + 1]? = some (.cells (S8.blocks P (i + 1)).cells.toArray 133 (0, 0))) := Lib.hid hs6
        have HC6 := Lib.hid hc6
        clear hs6 hc6
        go_wp2
        exact ⟨⟨i + 1, _, _, _, rfl, by omega, ⟨by have := HM.out; omega⟩, ⟨fun h => ⟨by rw [show 64 * (i + 1) = 64 * i + 64 from by omega], by have := HCC.out; omega⟩⟩, ⟨HS6.out⟩, ⟨GG.out.trans HC6.out (fun k e => .inl e)⟩⟩, by simp only []; omega⟩
    · obtain rfl : i = q := by omega
      obtain rfl : m = 0 := by have := HM.out; have := HL.out; omega
      obtain ⟨s0, s1, s2, s3, s4, s5, s6, s7⟩ := stateAt HS.out
      go_wp2_with fail
      refine (text_calls _ (S8.blocks P i) (S8.blocks_ok P i)).mono ?_
      rintro e w6 ⟨rfl, hg⟩
      have HG6 := Lib.hid hg
      clear hg
      go_wp2
      go_ret
      rw [HHF.out]
      exact ⟨rfl, ((H4.out.2.2.trans HW.out (fun _ h => h.elim)).trans GG.out (fun k e => .inr (by have := H4.out.2.2.size; omega))).trans HG6.out (fun _ h => h.elim)⟩
end Go.Proofs.YtnhdlclicjmmnaaGreat
/- TopRejects: sha.Sum, tree.Node. -/
namespace Go.Proofs.YtnhdlclicjmmnaaGreat
open Go.RowKit
def tot (l : List ByteArray) : Nat := (l.map fun s => s.size).sum
theorem tot_take (l : List ByteArray) (k : Nat) (hk : k < l.length) : tot (l.take (k + 1)) = tot (l.take k) + l[k].size := by
  unfold tot
  rw [List.take_succ_eq_append_getElem hk, List.map_append, List.sum_append]
  simp
theorem tot_le (l : List ByteArray) (k : Nat) : tot (l.take k) ≤ tot l := by
  conv => rhs; rw [← List.take_append_drop k l]
  unfold tot
  rw [List.map_append, List.sum_append]
  omega
def catS (l : List ByteArray) : List UInt8 := l.flatMap fun s => s.data.toList
theorem catS_take (l : List ByteArray) (k : Nat) (hk : k < l.length) : catS (l.take (k + 1)) = catS (l.take k) ++ l[k].data.toList := by
  unfold catS
  rw [List.take_succ_eq_append_getElem hk, List.flatMap_append]
  simp
theorem catS_len (l : List ByteArray) : (catS l).length = tot l := by
  induction l with
  | nil => rfl
  | cons x l ih =>
    simp only [catS, tot, List.flatMap_cons, List.length_append, List.map_cons, List.sum_cons] at ih ⊢
    rw [ih]
    have : x.data.toList.length = x.size := Array.length_toList
    omega
def sumF (l : List ByteArray) : ByteArray := strOf (hashF (catS l))
theorem Row.len {w : World} {e : TypeId} {A : Option Addr} {m c : Nat} {r : Option Nat} {bs : List UInt8} (h : Row w e (.slice A m c) r bs) : bs.length = m := by
  obtain ⟨⟨_, h2⟩, _⟩ := h
  rcases h2 with ⟨e, h0⟩ | ⟨g, cap, cur, e, _⟩
  · injection e with _ e2 _
    omega
  · injection e with _ e2 _
    exact e2.symm
def zerosN (n : Nat) : Array Value := madeCells (Value.int .u8 0).cells (n * 1)
theorem makeN (n : Nat) (hn : n ≤ 140737488355328) (w : World) : (Instr.makeSlice 22 (.int .i64 0) (.int .i64 (n : Int))).run Tryz.prog w = .ok (.slice (some ⟨w.heap.size, 0, none⟩) 0 n) (w.alloc (.cells (zerosN n) 5)) := by
  obtain ⟨i, hi, hzz⟩ := Option.map_eq_some_iff.1 info_u8
  simp only [Prod.mk.injEq] at hzz
  obtain ⟨hz0, hz1, hz2⟩ := hzz
  have h := run_make (P := Tryz.prog) w 22 5 i (.int .u8 0) Tryz.underlying22 hi hz0 .i64 .i64 0 (n : Int) (by omega) (by omega) (by rw [hz2]; omega) (by omega)
  rw [hz1] at h
  exact h
theorem madeN (n : Nat) (hn : n ≤ 140737488355328) (w : World) : Row (w.alloc (.cells (zerosN n) 5)) 5 (.slice (some ⟨w.heap.size, 0, none⟩) 0 n) (some w.heap.size) [] :=
  ⟨⟨rfl, .inr ⟨w.heap.size, n, zerosN n, rfl, Nat.zero_le _, blkAlloc w _, Nat.zero_le _, by simp only [maxLen]; omega, by rw [zerosN, size_madeCells], rfl⟩⟩, rfl⟩
set_option maxRecDepth 100000 in
set_option maxHeartbeats 2000000 in
theorem Sum_calls (w : World) (A : Option Addr) (n c : Nat) (parts : List ByteArray) (hp : StrsIn w A parts) (hn : parts.length = n) (hb : tot parts ≤ 140737488350000) :
    Calls Tryz.prog 20 #[.slice A n c] w fun e w' => e = .returned (.string (sumF parts)) ∧ Chg (fun _ => False) w w' := by
  subst hn
  have HP := Lib.hid hp
  have HB := Lib.hid hb
  have hpl := hp.1
  clear hp hb
  go_enter Tryz.func20, Tryz.ntmps20
  go_wp2_with fail
  go_loop [3, 11] (fun v i => ∃ (k : Nat), k ≤ parts.length ∧ i = .int .i64 k ∧ v = .int .i64 ((96 + tot (parts.take k) : Nat) : Int)) (fun _ i => parts.length - (intOf i).toNat)
  case atStart => exact ⟨0, Nat.zero_le _, rfl, rfl⟩
  case round =>
    obtain ⟨k, hk, rfl, rfl⟩ := hrel
    by_cases hlt : k < parts.length
    · obtain ⟨a, rfl, ha⟩ := HP.out.get k hlt
      have HT := Lib.hid (tot_take parts k hlt)
      have hle := tot_le parts (k + 1)
      have hbb := HB.out
      rw [HT.out] at hle
      obtain ⟨s, hs⟩ : ∃ s, parts[k] = s := ⟨_, rfl⟩
      rw [hs] at ha hle HT
      obtain ⟨T, hT⟩ : ∃ T, tot (parts.take k) = T := ⟨_, rfl⟩
      rw [hT] at hle HT ⊢
      have q0 : (0 : Int) ≤ (k : Int) := by omega
      have q1 : (k : Int) < (parts.length : Int) := by omega
      clear hs hT
      go_wp2_with fail
      exact ⟨⟨k + 1, by omega, by go_num, by rw [HT.out]; simp; rw [Int.add_assoc]⟩, by simp [intOf]; omega⟩
    · obtain rfl : k = parts.length := by omega
      rw [List.take_length]
      obtain ⟨N, hN⟩ : ∃ N, 96 + tot parts = N := ⟨_, rfl⟩
      have hN2 : N ≤ 140737488355328 := by have := HB.out; omega
      rw [hN]
      have hmk := makeN N hN2 w
      have H0 : Hid (OwnS (fun _ => False) w (w.alloc (.cells (zerosN N) 5)) (.slice (some ⟨w.heap.size, 0, none⟩) 0 N) [] (some w.heap.size)) := Lib.hid ⟨madeN N hN2 w, fun k e => .inr (by injection e with e; omega), (Chg.refl _ w).alloc _⟩
      clear hN hN2
      go_wp2_with fail
      go_loopw [6, 24] (fun v i wx => ∃ (k : Nat) (B : Option Addr) (m C : Nat) (r : Option Nat), k ≤ parts.length ∧ i = .int .i64 k ∧ v = .slice B m C ∧ HD (OwnS (fun _ => False) w wx (.slice B m C) (catS (parts.take k)) r)) (fun _ i _ => parts.length - (intOf i).toNat)
      case atStart => exact ⟨0, _, _, _, _, Nat.zero_le _, rfl, rfl, ⟨H0.out⟩⟩
      case round =>
        clear H0
        obtain ⟨k, B, m, C, r, hkl, rfl, rfl, HO⟩ := hrel
        by_cases hlt : k < parts.length
        · obtain ⟨a, rfl, ha⟩ := HP.out.get k hlt
          have hsa := cellChg ha HO.out.2.2 (fun h => h)
          have HTS := Lib.hid (catS_take parts k hlt)
          have hle := tot_le parts (k + 1)
          rw [tot_take parts k hlt] at hle
          have hcl := catS_len (parts.take k)
          obtain ⟨s, hs⟩ : ∃ s, parts[k] = s := ⟨_, rfl⟩
          rw [hs] at hsa HTS hle
          have HLS : Hid ((catS (parts.take k)).length + s.size ≤ 140737488355328) := Lib.hid (by have := HB.out; omega)
          have q0 : (0 : Int) ≤ (k : Int) := by omega
          have q1 : (k : Int) < (parts.length : Int) := by omega
          clear hs ha hle hcl
          go_wp2_with (at_builtin; refine wpList_append_str wr rfl (.tmp 28) (.tmp 29) 22 9 5 rfl Tryz.underlying22 Tryz.underlying9 info_u8 (.slice B m C) r (catS (parts.take k)) s rfl rfl HO.out.1 HLS.out ?_; intro A3 n3 c3 w3 r3 hrow hnext hgrow; have H3 := Lib.hid (HO.out.next hrow hnext ((Chg.refl _ wr).grown hgrow (fun _ hk => .inl hk))); clear hrow hnext hgrow)
          exact ⟨⟨k + 1, A3, n3, c3, r3, by omega, by go_num, rfl, ⟨by rw [HTS.out]; exact H3.out⟩⟩, by simp [intOf]; omega⟩
        · obtain rfl : k = parts.length := by omega
          have HO2 : Hid (OwnS (fun _ => False) w wr (.slice B m C) (catS parts) r) := Lib.hid (by have h := HO.out; rwa [List.take_length] at h)
          clear HO
          have hcl := catS_len parts
          have hTL : (catS parts).length = m := HO2.out.1.len
          have hTM : m ≤ 140737488355200 := by have := HB.out; omega
          have HTL := Lib.hid hTL
          clear hTL hcl
          go_wp2_with fail
          refine (hashed_calls _ B m C r (catS parts) HO2.out.1 HTL.out hTM).mono ?_
          rintro e w2 ⟨rfl, hg⟩
          have HG := Lib.hid hg
          clear hg
          go_wp2
          go_ret
          exact ⟨rfl, HO2.out.2.2.trans HG.out (fun j e => HO2.out.2.1 j e)⟩
def nodeF (l r : ByteArray) : ByteArray := sumF [⟨#[1]⟩, l, r]
theorem sumF_size (l : List ByteArray) : (sumF l).size = 32 := by
  unfold sumF
  rw [strOf_size, hashF_len]
theorem Node_calls (w : World) (l r : ByteArray) (hl : l.size ≤ 1048576) (hr : r.size ≤ 1048576) :
    Calls Tryz.prog 48 #[.string l, .string r] w fun e w' => e = .returned (.string (nodeF l r)) ∧ Chg (fun _ => False) w w' := by
  have ht : tot [⟨#[1]⟩, l, r] ≤ 140737488350000 := by
    show 1 + (l.size + (r.size + 0)) ≤ _
    omega
  have C := Lib.hid (Sum_calls (w.alloc (.cells #[.string ⟨#[1]⟩, .string l, .string r] 9)) (some ⟨w.heap.size, 0, none⟩) 3 3 [⟨#[1]⟩, l, r] ⟨by simp, fun _ => ⟨_, rfl, fun j s hj => by
    match j, hj with
    | 0, hj => injection hj with hj; subst hj; exact blkCell (blkAlloc w _) 0
    | 1, hj => injection hj with hj; subst hj; exact blkCell (blkAlloc w _) 1
    | 2, hj => injection hj with hj; subst hj; exact blkCell (blkAlloc w _) 2⟩⟩ rfl ht)
  rw [show sumF [⟨#[1]⟩, l, r] = nodeF l r from rfl] at C
  clear ht
  go_enter Tryz.func48, Tryz.ntmps48
  go_wp2_with (go_at_call 20; refine (C.out).mono ?_; rintro e w1 ⟨rfl, hc⟩; have G := Lib.hid (((Chg.refl (fun _ => False) w).alloc _).trans hc (fun _ h => h.elim)); clear hc)
  go_ret
  exact ⟨rfl, G.out⟩
end Go.Proofs.YtnhdlclicjmmnaaGreat
