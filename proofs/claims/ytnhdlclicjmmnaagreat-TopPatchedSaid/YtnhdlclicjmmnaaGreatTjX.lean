/- TopRejects: a list of strings that grows in a field; bill.Read. -/
import Derived.Test.YtnhdlclicjmmnaaGreatRdF
import Derived.Test.YtnhdlclicjmmnaaGreatTkF
namespace Go.Proofs.YtnhdlclicjmmnaaGreat
open Go.RowKit Go.Lib Go.Shelf
theorem elemT : ElemInfo Tryz.prog 9 1 16 := ElemInfo.mk' (z := .string ⟨#[]⟩) (by kernel_rfl) rfl (by decide)
theorem grow_fin {S : Nat → Prop} {W w7 w8 : World} {b i : Nat} {cs : Array Value} {T : TypeId} {v v1 : Value} {r r8 : Option Nat} {l : List ByteArray} {q : ByteArray} {o : Obj}
    (hb : w7.heap[b]? = some (.cells cs T (0, 0))) (hT : T ≠ 9) (hrow : TRow w7 v r l) (hr : ∀ k, r = some k → W.heap.size ≤ k) (hbW : W.heap.size ≤ b) (hG : Chg S W w7)
    (hrow8 : TRow w8 v1 r8 (l ++ [q])) (hn : Next w7 r r8) (hgr : (w7.alloc o).grownBy w8 r) :
    w8.heap[b]? = some (.cells cs T (0, 0)) ∧ (w8.setCell ⟨b, i, none⟩ v1).heap[b]? = some (.cells (cs.setIfInBounds i v1) T (0, 0)) ∧ TRow (w8.setCell ⟨b, i, none⟩ v1) v1 r8 (l ++ [q]) ∧ (∀ k, r8 = some k → W.heap.size ≤ k) ∧ Chg S W (w8.setCell ⟨b, i, none⟩ v1) ∧
      (∀ (k : Nat) (cs' : Array Value) (T' : TypeId), w7.heap[k]? = some (.cells cs' T' (0, 0)) → k ≠ b → T' ≠ 9 → (w8.setCell ⟨b, i, none⟩ v1).heap[k]? = some (.cells cs' T' (0, 0))) := by
  have g8 : Chg (fun k => r = some k) w7 w8 := ((Chg.refl _ w7).alloc o).grown hgr (fun _ h => .inl h)
  have hb8 := g8.obj hb (SRow.ne hrow hb hT)
  have g9 : Chg (fun k => k = b) w8 (w8.setCell ⟨b, i, none⟩ v1) := (Chg.refl (fun k => k = b) w8).setCell (p := ⟨b, i, none⟩) (.inl rfl) _
  refine ⟨hb8, blkSet hb8 i v1, hrow8.chg g9 (fun k e hk => ?_), fun k e => ?_, (hG.trans g8 (fun k e => .inr (hr k e))).trans g9 (fun k e => .inr (by rw [e]; exact hbW)), fun k cs' T' hk h1 h2 => ?_⟩
  · subst hk
    exact SRow.ne hrow8 hb8 hT e
  · rcases hn.mem e with h | h
    · exact hr k h
    · exact Nat.le_trans hG.size h
  · exact g9.obj (g8.obj hk (SRow.ne hrow hk h2)) h1
theorem boxSet6 {w : World} {g : Nat} {a b c d e f : Value} {T : TypeId} (h : w.heap[g]? = some (.cells #[a, b, c, d, e, f] T (0, 0))) (x y z p q r : Value) :
    ((((((w.setCell ⟨g, 0, none⟩ x).setCell ⟨g, 1, none⟩ y).setCell ⟨g, 2, none⟩ z).setCell ⟨g, 3, none⟩ p).setCell ⟨g, 4, none⟩ q).setCell ⟨g, 5, none⟩ r).heap[g]? = some (.cells #[x, y, z, p, q, r] T (0, 0)) ∧
      Chg (fun k => k = g) w ((((((w.setCell ⟨g, 0, none⟩ x).setCell ⟨g, 1, none⟩ y).setCell ⟨g, 2, none⟩ z).setCell ⟨g, 3, none⟩ p).setCell ⟨g, 4, none⟩ q).setCell ⟨g, 5, none⟩ r) := by
  have h1 := blkSet h 0 x
  have h2 := blkSet h1 1 y
  have h3 := blkSet h2 2 z
  have h4 := blkSet h3 3 p
  have h5 := blkSet h4 4 q
  have h6 := blkSet h5 5 r
  exact ⟨by simpa using h6, ((((((Chg.refl (fun k => k = g) w).cellOf 0 x).cellOf 1 y).cellOf 2 z).cellOf 3 p).cellOf 4 q).cellOf 5 r⟩
theorem raw_go (x : RS) (n : Nat) (h : x.2 = 0) (hn : n ≤ x.1.size) : (rawF x (n : Int)).2.2 = 0 ∧ (rawF x n).2.1.size = x.1.size - n ∧ (rawF x n).1.size = n := by
  obtain ⟨s, e⟩ := x
  obtain rfl : e = 0 := h
  have hn' : n ≤ s.size := hn
  rw [rawF_ok (by omega) (by omega), Int.toNat_natCast]
  refine ⟨rfl, ?_, ?_⟩
  · show (s.extract n s.size).size = s.size - n
    rw [ByteArray.size_extract]
    omega
  · show (s.extract 0 n).size = n
    rw [ByteArray.size_extract]
    omega
theorem pRead_calls (w : World) (s : ByteArray) :
    Calls Tryz.prog 83 #[.string s] w fun r w' => r = .returned (.pointer (some ⟨w.heap.size, 0, none⟩)) ∧ w' = w.alloc (.cells #[.string s, .int .i64 0] 159) := by
  go_enter Tryz.func83, Tryz.ntmps83
  go_wp2
  go_ret
  exact ⟨rfl, rfl⟩
theorem bill_law (s : ByteArray) (v z c : Int) (h t : ByteArray) (l : List ByteArray) (hv : fits v 1) (hz : fits z 4) (hc : fits c 2) (hh : h.size = 32) (ht : t.size = 32) (hk : checkE v z c h t l = 0)
    (he : s.data.toList = ((((numBytes v 1 ++ numBytes z 4) ++ numBytes c 2) ++ h.data.toList) ++ t.data.toList) ++ catS l) : billT v z c h t l = s ∧ leafE v z c h t l = 0 := by
  have hw : leafW v z c h t = ((((numBytes v 1 ++ numBytes z 4) ++ numBytes c 2) ++ h.data.toList) ++ t.data.toList, false) := by
    rw [leafW, numW_ok _ _ _ hv, numW_ok _ _ _ hz, numW_ok _ _ _ hc, whashW_ok _ _ hh, whashW_ok _ _ ht, List.nil_append]
  have hE : leafE v z c h t l = 0 := by
    rw [leafE, if_pos hk, hw]
    rfl
  refine ⟨?_, hE⟩
  rw [billT, if_pos hE, leafT, if_pos hk, hw]
  apply ByteArray.ext
  apply Array.ext'
  rw [he, ByteArray.data_append, Array.toList_append]
  rfl
/-- What stands while the list is read. -/
def BSt (w wr : World) (s : ByteArray) (b0 rb gb : Nat) (v z c : Int) (h t : ByteArray) (pre : List UInt8) (m : Nat) : Prop :=
  ∃ (x : RS) (l : List ByteArray) (A : Option Addr) (cap : Nat) (r : Option Nat), RdAt wr 159 rb x ∧ x.2 = 0 ∧ x.1.size = 32 * m ∧ TRow wr (.slice A l.length cap) r l ∧
    wr.heap[gb]? = some (.cells #[.int .i64 v, .int .i64 z, .int .i64 c, .string h, .string t, .slice A l.length cap] 27 (0, 0)) ∧ (∀ k, r = some k → w.heap.size ≤ k) ∧ took (s, 0) x (pre ++ catS l) ∧ (∀ y ∈ l, y.size = 32) ∧ l.length + m ≤ 128 ∧
    wr.heap[b0]? = some (.cells #[.int .i64 0, .int .i64 0, .int .i64 0, .string ⟨#[]⟩, .string ⟨#[]⟩, .slice none 0 0] 27 (0, 0)) ∧ Chg (fun _ => False) w wr
def BPost (s : ByteArray) (w : World) (e : Ending) (w' : World) : Prop :=
  ∃ v z c h t A cap r l x, e = .returned (.tuple #[.agg #[.int .i64 v, .int .i64 z, .int .i64 c, .string h, .string t, .slice A (l : List ByteArray).length cap], .int .i64 x]) ∧ TRow w' (.slice A l.length cap) r l ∧ l.length ≤ 1048576 ∧ (∀ y ∈ l, y.size ≤ 1048576) ∧ h.size ≤ 1048576 ∧ t.size ≤ 1048576 ∧ ((x = 3 ∧ v = 0 ∧ z = 0 ∧ h = ⟨#[]⟩ ∧ l = []) ∨ (x = 0 ∧ billT v z c h t l = s ∧ leafE v z c h t l = 0)) ∧ Chg (fun _ => False) w w'
theorem BPost.bad (s : ByteArray) {w w' : World} (c : Chg (fun _ => False) w w') : BPost s w (.returned (.tuple #[.agg #[.int .i64 0, .int .i64 0, .int .i64 0, .string ⟨#[]⟩, .string ⟨#[]⟩, .slice none 0 0], .int .i64 3])) w' :=
  ⟨0, 0, 0, ⟨#[]⟩, ⟨#[]⟩, none, 0, none, [], 3, rfl, SRow.nil _, Nat.zero_le _, fun y hy => absurd hy (by simp), Nat.zero_le _, Nat.zero_le _, .inl ⟨rfl, rfl, rfl, rfl, rfl⟩, c⟩
set_option maxRecDepth 100000 in
set_option maxHeartbeats 4000000 in
theorem bRead_calls (w : World) (s : ByteArray) (hs : s.size ≤ 1048576) :
    Calls Tryz.prog 67 #[.string s] w (BPost s w) := by
  have w1 : IntKind.i64.wrap ((s.size : Int) - 71) = (s.size : Int) - 71 := by rw [IntKind.wrap_i64]; omega
  by_cases h71 : s.size < 71
  · have d0 : decide ((s.size : Int) < 71) = true := decide_eq_true (by omega)
    go_enter Tryz.func67, Tryz.ntmps67
    go_wp2_with fail
    have hb := blkAlloc w (.cells #[.int .i64 0, .int .i64 0, .int .i64 0, .string ⟨#[]⟩, .string ⟨#[]⟩, .slice none 0 0] 27)
    have q0 := blkCell hb 0
    have q1 := blkCell hb 1
    have q2 := blkCell hb 2
    have q3 := blkCell hb 3
    have q4 := blkCell hb 4
    have q5 := blkCell hb 5
    refine bodyPost_ret (v := .tuple #[.agg #[.int .i64 0, .int .i64 0, .int .i64 0, .string ⟨#[]⟩, .string ⟨#[]⟩, .slice none 0 0], .int .i64 3]) (by simp [results, go_sem, q0, q1, q2, q3, q4, q5]) rfl (BPost.bad s ((Chg.refl _ w).alloc _))
  · have d0 : decide ((s.size : Int) < 71) = false := decide_eq_false (by omega)
    by_cases hm : ((s.size : Int) - 71) % 32 = 0
    · obtain ⟨m, hm32⟩ : ∃ m, s.size = 71 + 32 * m := ⟨(s.size - 71) / 32, by omega⟩
      have HM := Lib.hid hm32
      have HS := Lib.hid hs
      have C0 := Lib.hid (fun w => count_calls w 8192 64 (by decide) (by decide) (by decide) (by decide))
      rw [show cntF 8192 64 = 128 from by decide] at C0
      clear hm32 hs
      go_enter Tryz.func67, Tryz.ntmps67
      go_wp2_with fail
      obtain ⟨b0, hb0⟩ : ∃ b, w.heap.size = b := ⟨_, rfl⟩
      obtain ⟨W0, hW⟩ : ∃ W0, w.alloc (.cells #[.int .i64 0, .int .i64 0, .int .i64 0, .string ⟨#[]⟩, .string ⟨#[]⟩, .slice none 0 0] 27) = W0 := ⟨_, rfl⟩
      have hz0 : W0.heap[b0]? = some (.cells #[.int .i64 0, .int .i64 0, .int .i64 0, .string ⟨#[]⟩, .string ⟨#[]⟩, .slice none 0 0] 27 (0, 0)) := by rw [← hW, ← hb0]; exact blkAlloc w _
      have hc0 : Chg (fun _ => False) w W0 := by rw [← hW]; exact (Chg.refl _ w).alloc _
      have HBW : Hid (w.heap.size ≤ b0) := Lib.hid (Nat.le_of_eq hb0)
      simp only [hW]
      simp only [hb0]
      clear hW hb0
      refine (pRead_calls W0 s).mono ?_
      rintro e w1 ⟨rfl, he⟩
      obtain ⟨rb, hrb⟩ : ∃ rb, W0.heap.size = rb := ⟨_, rfl⟩
      have hrd : RdAt w1 159 rb (s, 0) := by rw [he, ← hrb]; exact blkAlloc W0 _
      have hz0 : w1.heap[b0]? = some (.cells #[.int .i64 0, .int .i64 0, .int .i64 0, .string ⟨#[]⟩, .string ⟨#[]⟩, .slice none 0 0] 27 (0, 0)) := by rw [he]; exact blkOld hz0 _
      have hc1 : Chg (fun _ => False) w w1 := by rw [he]; exact hc0.alloc _
      have HRW : Hid (w.heap.size ≤ rb) := Lib.hid (by rw [← hrb]; exact hc0.size)
      have NE : Hid (b0 ≠ rb) := Lib.hid (blkNe hz0 hrd (by decide))
      have HZ := Lib.hid hz0
      have HC := Lib.hid hc1
      have HRD := Lib.hid hrd
      simp only [hrb]
      clear he hrb hrd hz0 hc0 hc1
      go_wp2_with fail
      refine (Byte_calls _ rb (s, 0) HRD.out (by show s.size ≤ _; have := HS.out; omega)).mono ?_
      rintro e w2 ⟨rfl, hrd, hg⟩
      have tk := took_num (s, 0) 1 (by omega)
      have F1 := Lib.hid (num_fits (s, 0) 1 (by omega))
      have hgo := raw_go (s, 0) 1 rfl (by show _ ≤ s.size; have := HM.out; omega)
      obtain ⟨v, hv⟩ : ∃ v, (numF (s, 0) ((1 : Nat) : Int)).1 = v := ⟨_, rfl⟩
      obtain ⟨x1, hx⟩ : ∃ x, (numF (s, 0) ((1 : Nat) : Int)).2 = x := ⟨_, rfl⟩
      have hx' : (rawF (s, 0) ((1 : Nat) : Int)).2 = x1 := hx
      have hx2 : (numF (s, 0) 1).2 = x1 := hx
      have hv2 : (numF (s, 0) 1).1 = v := hv
      rw [hv] at F1
      rw [hv, hx] at tk
      rw [hx'] at hgo
      rw [hx2] at hrd
      simp only [hv2]
      have SZ1 : Hid (x1.2 = 0 ∧ x1.1.size = s.size - 1) := Lib.hid ⟨hgo.1, hgo.2.1⟩
      have TK1 := Lib.hid tk
      have HZ := Lib.hid (hg.obj HZ.out NE.out)
      have HC := Lib.hid (HC.out.trans hg (fun k e => .inr (by rw [e]; exact HRW.out)))
      have HRD := Lib.hid hrd
      clear hrd hg tk hgo hv hx hv2 hx2 hx'
      go_wp2_with fail
      refine (Four_calls _ rb x1 HRD.out (by rw [SZ1.out.2]; have := HM.out; have := HS.out; omega)).mono ?_
      rintro e w3 ⟨rfl, hrd, hg⟩
      have tk := took_num x1 4 (by omega)
      have F2 := Lib.hid (num_fits x1 4 (by omega))
      have hgo := raw_go x1 4 SZ1.out.1 (by rw [SZ1.out.2]; have := HM.out; omega)
      obtain ⟨z, hv⟩ : ∃ z, (numF x1 ((4 : Nat) : Int)).1 = z := ⟨_, rfl⟩
      obtain ⟨x2, hx⟩ : ∃ x, (numF x1 ((4 : Nat) : Int)).2 = x := ⟨_, rfl⟩
      have hx' : (rawF x1 ((4 : Nat) : Int)).2 = x2 := hx
      have hx2 : (numF x1 4).2 = x2 := hx
      have hv2 : (numF x1 4).1 = z := hv
      rw [hv] at F2
      rw [hv, hx] at tk
      rw [hx'] at hgo
      rw [hx2] at hrd
      simp only [hv2]
      have SZ2 : Hid (x2.2 = 0 ∧ x2.1.size = s.size - 5) := Lib.hid ⟨hgo.1, by rw [hgo.2.1, SZ1.out.2]; omega⟩
      have TK2 := Lib.hid (TK1.out.trans tk)
      have HZ := Lib.hid (hg.obj HZ.out NE.out)
      have HC := Lib.hid (HC.out.trans hg (fun k e => .inr (by rw [e]; exact HRW.out)))
      have HRD := Lib.hid hrd
      clear hrd hg tk hgo hv hx hv2 hx2 hx'
      go_wp2_with fail
      refine (Two_calls _ rb x2 HRD.out (by rw [SZ2.out.2]; have := HM.out; have := HS.out; omega)).mono ?_
      rintro e w4 ⟨rfl, hrd, hg⟩
      have tk := took_num x2 2 (by omega)
      have F3 := Lib.hid (num_fits x2 2 (by omega))
      have hgo := raw_go x2 2 SZ2.out.1 (by rw [SZ2.out.2]; have := HM.out; omega)
      obtain ⟨c, hv⟩ : ∃ c, (numF x2 ((2 : Nat) : Int)).1 = c := ⟨_, rfl⟩
      obtain ⟨x3, hx⟩ : ∃ x, (numF x2 ((2 : Nat) : Int)).2 = x := ⟨_, rfl⟩
      have hx' : (rawF x2 ((2 : Nat) : Int)).2 = x3 := hx
      have hx2 : (numF x2 2).2 = x3 := hx
      have hv2 : (numF x2 2).1 = c := hv
      rw [hv] at F3
      rw [hv, hx] at tk
      rw [hx'] at hgo
      rw [hx2] at hrd
      simp only [hv2]
      have SZ3 : Hid (x3.2 = 0 ∧ x3.1.size = s.size - 7) := Lib.hid ⟨hgo.1, by rw [hgo.2.1, SZ2.out.2]; omega⟩
      have TK3 := Lib.hid (TK2.out.trans tk)
      have HZ := Lib.hid (hg.obj HZ.out NE.out)
      have HC := Lib.hid (HC.out.trans hg (fun k e => .inr (by rw [e]; exact HRW.out)))
      have HRD := Lib.hid hrd
      clear hrd hg tk hgo hv hx hv2 hx2 hx'
      go_wp2_with fail
      refine (Hash_calls _ rb x3 HRD.out).mono ?_
      rintro e w5 ⟨rfl, hrd, hg⟩
      have tk := (took_raw x3 32).1
      have hgo := raw_go x3 32 SZ3.out.1 (by rw [SZ3.out.2]; have := HM.out; omega)
      obtain ⟨h, hv⟩ : ∃ h, (rawF x3 ((32 : Nat) : Int)).1 = h := ⟨_, rfl⟩
      obtain ⟨x4, hx⟩ : ∃ x, (rawF x3 ((32 : Nat) : Int)).2 = x := ⟨_, rfl⟩
      have hx2 : (rawF x3 32).2 = x4 := hx
      have hv2 : (rawF x3 32).1 = h := hv
      rw [hv, hx] at tk hgo
      have F4 : Hid (h.size = 32) := Lib.hid hgo.2.2
      rw [hx2] at hrd
      simp only [hv2]
      have SZ4 : Hid (x4.2 = 0 ∧ x4.1.size = s.size - 39) := Lib.hid ⟨hgo.1, by rw [hgo.2.1, SZ3.out.2]; omega⟩
      have TK4 := Lib.hid (TK3.out.trans tk)
      have HZ := Lib.hid (hg.obj HZ.out NE.out)
      have HC := Lib.hid (HC.out.trans hg (fun k e => .inr (by rw [e]; exact HRW.out)))
      have HRD := Lib.hid hrd
      clear hrd hg tk hgo hv hx hv2 hx2
      go_wp2_with fail
      refine (Hash_calls _ rb x4 HRD.out).mono ?_
      rintro e w6 ⟨rfl, hrd, hg⟩
      have tk := (took_raw x4 32).1
      have hgo := raw_go x4 32 SZ4.out.1 (by rw [SZ4.out.2]; have := HM.out; omega)
      obtain ⟨t, hv⟩ : ∃ t, (rawF x4 ((32 : Nat) : Int)).1 = t := ⟨_, rfl⟩
      obtain ⟨x5, hx⟩ : ∃ x, (rawF x4 ((32 : Nat) : Int)).2 = x := ⟨_, rfl⟩
      have hx2 : (rawF x4 32).2 = x5 := hx
      have hv2 : (rawF x4 32).1 = t := hv
      rw [hv, hx] at tk hgo
      have F5 : Hid (t.size = 32) := Lib.hid hgo.2.2
      rw [hx2] at hrd
      simp only [hv2]
      have SZ5 : Hid (x5.2 = 0 ∧ x5.1.size = s.size - 71) := Lib.hid ⟨hgo.1, by rw [hgo.2.1, SZ4.out.2]; omega⟩
      have TK5 := Lib.hid (TK4.out.trans tk)
      have HZ := Lib.hid (hg.obj HZ.out NE.out)
      have HC := Lib.hid (HC.out.trans hg (fun k e => .inr (by rw [e]; exact HRW.out)))
      have HRD := Lib.hid hrd
      clear hrd hg tk hgo hv hx hv2 hx2
      go_wp2_with fail
      obtain ⟨gb, hgb⟩ : ∃ g, w6.heap.size = g := ⟨_, rfl⟩
      obtain ⟨W6, hW6⟩ : ∃ W, w6.alloc (.cells #[.int .i64 v, .int .i64 z, .int .i64 c, .string h, .string t, .slice none 0 0] 27) = W := ⟨_, rfl⟩
      have hgo : W6.heap[gb]? = some (.cells #[.int .i64 v, .int .i64 z, .int .i64 c, .string h, .string t, .slice none 0 0] 27 (0, 0)) := by rw [← hW6, ← hgb]; exact blkAlloc w6 _
      have hch : Chg (fun _ => False) w6 W6 := by rw [← hW6]; exact (Chg.refl _ w6).alloc _
      have hrd6 := HRD.out.chg hch (fun h => h)
      have HGW : Hid (w.heap.size ≤ gb) := Lib.hid (by rw [← hgb]; exact HC.out.size)
      have NE2 : Hid (b0 ≠ gb) := Lib.hid (by have := blkLt HZ.out; omega)
      have hz6 := hch.obj HZ.out (fun h => h)
      have HC := Lib.hid (HC.out.trans hch (fun _ h => h.elim))
      have CL := Lib.hid (Left_calls W6 rb x5 hrd6)
      obtain ⟨N, hN⟩ : ∃ N, x5.1.size = N := ⟨_, rfl⟩
      have hN2 : N = 32 * m := by rw [← hN, SZ5.out.2]; have := HM.out; omega
      simp only [hW6]
      simp only [hgb]
      clear hW6 hgb
      by_cases hm8 : m ≤ 128
      · have HST : Hid (BSt w W6 s b0 rb gb v z c h t (((((numBytes v 1 ++ numBytes z 4) ++ numBytes c 2) ++ h.data.toList) ++ t.data.toList)) m) := Lib.hid ⟨x5, [], none, 0, none, hrd6, SZ5.out.1, by rw [hN, hN2], SRow.nil _, hgo, (fun k (e : none = some k) => nomatch e), by rw [show catS [] = [] from rfl, List.append_nil]; exact TK5.out, fun y hy => absurd hy (by simp), (by rw [List.length_nil]; omega), hz6, HC.out⟩
        rw [hN] at CL
        have hN3 : (N : Int) ≤ 4096 := by omega
        obtain ⟨pre, hpre⟩ : ∃ pre, (((((numBytes v 1 ++ numBytes z 4) ++ numBytes c 2) ++ h.data.toList) ++ t.data.toList)) = pre := ⟨_, rfl⟩
        have LAW : Hid (∀ l, checkE v z c h t l = 0 → s.data.toList = pre ++ catS l → billT v z c h t l = s ∧ leafE v z c h t l = 0) := Lib.hid (fun l hk he => bill_law s v z c h t l F1.out F2.out F3.out F4.out F5.out hk (by rw [he, hpre]))
        rw [hpre] at HST
        have HF4 := Lib.hid (show h.size ≤ 1048576 by rw [F4.out]; decide)
        have HF5 := Lib.hid (show t.size ≤ 1048576 by rw [F5.out]; decide)
        clear hpre hm8 hrd6 hgo hch hz6 HC HZ HRD hN hN2 TK1 TK2 TK3 TK4 TK5 SZ1 SZ2 SZ3 SZ4 SZ5 F1 F2 F3 F4 F5 HM HS h71 hm
        go_wp2_with (first
          | (go_at_call 92; refine (CL.out).mono ?_; rintro e w7 ⟨rfl, rfl⟩)
          | (go_at_call 49; refine (C0.out _).mono ?_; rintro e w8 ⟨rfl, he⟩; obtain rfl := he))
        go_loopg [] m (fun k wr => HD (BSt w wr s b0 rb gb v z c h t pre k))
        case atStart => exact ⟨HST.out⟩
        case round =>
          obtain ⟨x, l, A, cap, r, hrd, hx2, hxs, hrow, hgbk, hr, htk, h32, hlm, hz, hch⟩ := hrel.out
          obtain ⟨w2, rfl⟩ : ∃ w2, w2 = wr := ⟨_, rfl⟩
          have CL := Lib.hid (Left_calls w2 rb x hrd)
          rw [hxs] at CL
          obtain ⟨M, hM⟩ : ∃ M, 32 * gk = M := ⟨_, rfl⟩
          rw [hM] at CL
          have HROW := Lib.hid hrow
          have HGB := Lib.hid hgbk
          have HR := Lib.hid hr
          have HTK := Lib.hid htk
          have H32 := Lib.hid h32
          have HZ := Lib.hid hz
          have HC := Lib.hid hch
          have HX2 := Lib.hid hx2
          have HXS := Lib.hid hxs
          have HRD := Lib.hid hrd
          clear hrd hx2 hxs hrow hgbk hr htk h32 hz hch hrel
          by_cases hk0 : gk = 0
          · have hM0 : M = 0 := by omega
            subst hM0
            have c0 : w2.cell? ⟨gb, 0, none⟩ = some (.int .i64 v) := blkCell HGB.out 0
            have c1 : w2.cell? ⟨gb, 1, none⟩ = some (.int .i64 z) := blkCell HGB.out 1
            have c2 : w2.cell? ⟨gb, 2, none⟩ = some (.int .i64 c) := blkCell HGB.out 2
            have c3 : w2.cell? ⟨gb, 3, none⟩ = some (.string h) := blkCell HGB.out 3
            have c4 : w2.cell? ⟨gb, 4, none⟩ = some (.string t) := blkCell HGB.out 4
            have c5 : w2.cell? ⟨gb, 5, none⟩ = some (.slice A l.length cap) := blkCell HGB.out 5
            have C1 := Lib.hid (Check_calls w2 v z c h t A cap r l HROW.out (by omega) (fun y hy => by rw [H32.out y hy]; decide))
            have HLAW := Lib.hid (LAW.out l)
            have HEQ : Hid (s.data.toList = pre ++ catS l) := Lib.hid (by
              have := (HTK.out HX2.out).2
              rw [this]
              have hx0 : x.1.data.toList = [] := List.eq_nil_of_length_eq_zero (by have h1 : x.1.data.toList.length = x.1.size := Array.length_toList; rw [h1, HXS.out]; omega)
              rw [hx0, List.append_nil])
            obtain ⟨K, hK⟩ : ∃ K, checkE v z c h t l = K := ⟨_, rfl⟩
            rw [hK] at C1 HLAW
            clear hM hK
            go_wp2_with (go_at_call 92; refine (CL.out).mono ?_; rintro e w7 ⟨rfl, rfl⟩)
            refine (C1.out).mono ?_
            rintro e w3 ⟨rfl, hg⟩
            have HZ := Lib.hid (hg.obj HZ.out (fun h => h))
            have HGB := Lib.hid (hg.obj HGB.out (fun h => h))
            have HROW := Lib.hid (SRow.chg HROW.out hg (fun _ _ h => h))
            have HC := Lib.hid (HC.out.trans hg (fun _ h => h.elim))
            clear hg c0 c1 c2 c3 c4 c5
            have d0 : w3.cell? ⟨b0, 0, none⟩ = some (.int .i64 0) := blkCell HZ.out 0
            have g0 := blkFree (HZ.out) 0
            have d1 : w3.cell? ⟨b0, 1, none⟩ = some (.int .i64 0) := blkCell HZ.out 1
            have g1 := blkFree (HZ.out) 1
            have d2 : w3.cell? ⟨b0, 2, none⟩ = some (.int .i64 0) := blkCell HZ.out 2
            have g2 := blkFree (HZ.out) 2
            have d3 : w3.cell? ⟨b0, 3, none⟩ = some (.string ⟨#[]⟩) := blkCell HZ.out 3
            have g3 := blkFree (HZ.out) 3
            have d4 : w3.cell? ⟨b0, 4, none⟩ = some (.string ⟨#[]⟩) := blkCell HZ.out 4
            have g4 := blkFree (HZ.out) 4
            have d5 : w3.cell? ⟨b0, 5, none⟩ = some (.slice none 0 0) := blkCell HZ.out 5
            have g5 := blkFree (HZ.out) 5
            by_cases hk : K = 0
            · subst hk
              have c0 : w3.cell? ⟨gb, 0, none⟩ = some (.int .i64 v) := blkCell HGB.out 0
              have c1 : w3.cell? ⟨gb, 1, none⟩ = some (.int .i64 z) := blkCell HGB.out 1
              have c2 : w3.cell? ⟨gb, 2, none⟩ = some (.int .i64 c) := blkCell HGB.out 2
              have c3 : w3.cell? ⟨gb, 3, none⟩ = some (.string h) := blkCell HGB.out 3
              have c4 : w3.cell? ⟨gb, 4, none⟩ = some (.string t) := blkCell HGB.out 4
              have c5 : w3.cell? ⟨gb, 5, none⟩ = some (.slice A l.length cap) := blkCell HGB.out 5
              go_wp2_with fail
              obtain ⟨hb, hcb⟩ := boxSet6 (HZ.out) (.int .i64 v) (.int .i64 z) (.int .i64 c) (.string h) (.string t) (.slice A l.length cap)
              have q0 := blkCell hb 0
              have q1 := blkCell hb 1
              have q2 := blkCell hb 2
              have q3 := blkCell hb 3
              have q4 := blkCell hb 4
              have q5 := blkCell hb 5
              refine bodyPost_ret (v := .tuple #[.agg #[.int .i64 v, .int .i64 z, .int .i64 c, .string h, .string t, .slice A l.length cap], .int .i64 0]) (by simp [results, go_sem, q0, q1, q2, q3, q4, q5]) rfl (⟨v, z, c, h, t, A, cap, r, l, 0, rfl, SRow.chg HROW.out hcb (fun k e hk => by subst hk; exact SRow.ne HROW.out HZ.out (by decide) e), by omega, fun y hy => by rw [H32.out y hy]; decide, HF4.out, HF5.out, .inr ⟨rfl, HLAW.out (by trivial) HEQ.out⟩, HC.out.trans hcb (fun k e => .inr (by rw [e]; exact HBW.out))⟩)
            · have hk1 : (K == 0) = false := by simpa using hk
              clear hk
              go_wp2_with fail
              obtain ⟨hb, hcb⟩ := boxSet6 (HZ.out) (.int .i64 0) (.int .i64 0) (.int .i64 0) (.string ⟨#[]⟩) (.string ⟨#[]⟩) (.slice none 0 0)
              have q0 := blkCell hb 0
              have q1 := blkCell hb 1
              have q2 := blkCell hb 2
              have q3 := blkCell hb 3
              have q4 := blkCell hb 4
              have q5 := blkCell hb 5
              refine bodyPost_ret (v := .tuple #[.agg #[.int .i64 0, .int .i64 0, .int .i64 0, .string ⟨#[]⟩, .string ⟨#[]⟩, .slice none 0 0], .int .i64 3]) (by simp [results, go_sem, q0, q1, q2, q3, q4, q5]) rfl (BPost.bad s (HC.out.trans hcb (fun k e => .inr (by rw [e]; exact HBW.out))))
          · obtain ⟨m', rfl⟩ : ∃ m', gk = m' + 1 := ⟨gk - 1, by omega⟩
            have hM0 : (0 : Int) < (M : Int) := by omega
            have CH := Lib.hid (fun w3 hrd => Hash_calls w3 rb x hrd)
            have htk := (took_raw x 32).1
            have hgo := raw_go x 32 HX2.out (by rw [HXS.out]; omega)
            obtain ⟨q, hq⟩ : ∃ q, (rawF x ((32 : Nat) : Int)).1 = q := ⟨_, rfl⟩
            obtain ⟨x', hx'⟩ : ∃ x', (rawF x ((32 : Nat) : Int)).2 = x' := ⟨_, rfl⟩
            have hq2 : (rawF x 32).1 = q := hq
            have hx2 : (rawF x 32).2 = x' := hx'
            rw [hq, hx'] at htk hgo
            rw [hq2, hx2] at CH
            have HTK' := Lib.hid (HTK.out.trans htk)
            have HGO := Lib.hid hgo
            have HCAT : Hid ((pre ++ catS l) ++ q.data.toList = pre ++ catS (l ++ [q])) := Lib.hid (by
              rw [List.append_assoc, catS, catS, List.flatMap_append]
              simp)
            have c5 : w2.cell? ⟨gb, 5, none⟩ = some (.slice A l.length cap) := blkCell HGB.out 5
            have hbl : (l.length + 1) * 16 ≤ 140737488355328 := by omega
            clear htk hgo hq hx' hq2 hx2 hM hk0
            go_wp2_with (go_at_call 92; refine (CL.out).mono ?_; rintro e w7 ⟨rfl, rfl⟩)
            go_region_law (first
              | (refine step_sappend w7 rfl (.tmp 40) (.tmp 43) 25 16 rfl Tryz.underlying25 elemT encT_len encT_one (.slice A l.length cap) r l q (by simp [Act.eval]) (by simp [Act.eval]) HR7.out hbl (by decide) ?_; intro A1 n1 w8 r8 hrow hnext hgrow; have HST := Lib.hid (grow_fin (i := 5) HGB7.out (by decide) HR7.out HR.out HGW.out HC7.out hrow hnext hgrow); have g5 : w8.cell? ⟨gb, 5, none⟩ = some (.slice A l.length cap) := blkCell HST.out.1 5; have f5 := blkFree HST.out.1 5; clear hrow hnext hgrow)
              | (go_simp; go_at_call 82; refine (CH.out _ (HRD.out.chg (Chg.refl (fun _ => False) _).drew (fun h => h))).mono ?_; rintro e w7 ⟨rfl, hrd7, hg⟩; have hg7 := ((Chg.refl (fun k => k = rb) w2).drew).trans hg (fun _ h => .inl h); have HRD7 := Lib.hid hrd7; have HR7 := Lib.hid (SRow.chg HROW.out hg7 (fun k e hk => by subst hk; exact SRow.ne HROW.out HRD.out (by decide) e)); have HGB7 := Lib.hid (hg7.obj HGB.out (fun e => blkNe HGB.out HRD.out (by decide) e)); have HZ7 := Lib.hid (hg7.obj HZ.out NE.out); have HC7 := Lib.hid (HC.out.trans hg7 (fun k e => .inr (by rw [e]; exact HRW.out))); have d5 : w7.cell? ⟨gb, 5, none⟩ = some (.slice A l.length cap) := blkCell HGB7.out 5; have k5 : ∀ ob, (w7.alloc ob).cell? ⟨gb, 5, none⟩ = some (.slice A l.length cap) := fun ob => blkCell (blkOld HGB7.out ob) 5; clear hrd7 hg hg7)
              | fail "NOFIT")
            all_goals
              go_wp2_with fail
              have hst := HST.out
              have hlen : (l ++ [q]).length = l.length + 1 := by rw [List.length_append, List.length_singleton]
              rw [hlen] at hst
              obtain ⟨_, hs2, hs3, hs4, hs5, hs6⟩ := hst
              go_roundg m'
              case measure => omega
              case rel => exact ⟨x', l ++ [q], A1, n1, r8, hs6 _ _ _ HRD7.out (fun e => blkNe HGB7.out HRD7.out (by decide) e.symm) (by decide), HGO.out.1, by rw [HGO.out.2.1, HXS.out]; omega, by rw [hlen]; exact hs3, by rw [hlen]; simpa using hs2, hs4, by rw [← HCAT.out]; exact HTK'.out, fun y hy => by
                rcases List.mem_append.1 hy with h1 | h1
                · exact H32.out y h1
                · rw [List.mem_singleton.1 h1]
                  exact HGO.out.2.2, by rw [hlen]; omega, hs6 _ _ _ HZ7.out NE2.out (by decide), hs5⟩
      · rw [hN] at CL
        have hN3 : (4096 : Int) < (N : Int) := by omega
        have d0 : W6.cell? ⟨b0, 0, none⟩ = some (.int .i64 0) := blkCell hz6 0
        have g0 := blkFree (hz6) 0
        have d1 : W6.cell? ⟨b0, 1, none⟩ = some (.int .i64 0) := blkCell hz6 1
        have g1 := blkFree (hz6) 1
        have d2 : W6.cell? ⟨b0, 2, none⟩ = some (.int .i64 0) := blkCell hz6 2
        have g2 := blkFree (hz6) 2
        have d3 : W6.cell? ⟨b0, 3, none⟩ = some (.string ⟨#[]⟩) := blkCell hz6 3
        have g3 := blkFree (hz6) 3
        have d4 : W6.cell? ⟨b0, 4, none⟩ = some (.string ⟨#[]⟩) := blkCell hz6 4
        have g4 := blkFree (hz6) 4
        have d5 : W6.cell? ⟨b0, 5, none⟩ = some (.slice none 0 0) := blkCell hz6 5
        have g5 := blkFree (hz6) 5
        have HZ := Lib.hid hz6
        clear hm8 hrd6 hgo hch hz6 HRD hN hN2 TK1 TK2 TK3 TK4 TK5 SZ1 SZ2 SZ3 SZ4 SZ5 F1 F2 F3 F4 F5 HM HS h71 hm
        go_wp2_with (first
          | (go_at_call 92; refine (CL.out).mono ?_; rintro e w7 ⟨rfl, rfl⟩)
          | (go_at_call 49; refine (C0.out _).mono ?_; rintro e w8 ⟨rfl, he⟩; obtain rfl := he))
        obtain ⟨hb, hcb⟩ := boxSet6 (HZ.out) (.int .i64 0) (.int .i64 0) (.int .i64 0) (.string ⟨#[]⟩) (.string ⟨#[]⟩) (.slice none 0 0)
        have q0 := blkCell hb 0
        have q1 := blkCell hb 1
        have q2 := blkCell hb 2
        have q3 := blkCell hb 3
        have q4 := blkCell hb 4
        have q5 := blkCell hb 5
        refine bodyPost_ret (v := .tuple #[.agg #[.int .i64 0, .int .i64 0, .int .i64 0, .string ⟨#[]⟩, .string ⟨#[]⟩, .slice none 0 0], .int .i64 3]) (by simp [results, go_sem, q0, q1, q2, q3, q4, q5]) rfl (BPost.bad s (HC.out.trans hcb (fun k e => .inr (by rw [e]; exact HBW.out))))
    · have hm' : (((s.size : Int) - 71) % 32 != 0) = true := by simpa using hm
      clear hm
      go_enter Tryz.func67, Tryz.ntmps67
      go_wp2_with fail
      have hb := blkAlloc w (.cells #[.int .i64 0, .int .i64 0, .int .i64 0, .string ⟨#[]⟩, .string ⟨#[]⟩, .slice none 0 0] 27)
      have q0 := blkCell hb 0
      have q1 := blkCell hb 1
      have q2 := blkCell hb 2
      have q3 := blkCell hb 3
      have q4 := blkCell hb 4
      have q5 := blkCell hb 5
      refine bodyPost_ret (v := .tuple #[.agg #[.int .i64 0, .int .i64 0, .int .i64 0, .string ⟨#[]⟩, .string ⟨#[]⟩, .slice none 0 0], .int .i64 3]) (by simp [results, go_sem, q0, q1, q2, q3, q4, q5]) rfl (BPost.bad s ((Chg.refl _ w).alloc _))
end Go.Proofs.YtnhdlclicjmmnaaGreat
