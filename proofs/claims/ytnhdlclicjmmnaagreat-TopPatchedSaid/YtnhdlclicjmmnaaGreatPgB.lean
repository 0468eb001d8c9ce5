/- TopPatched: bytes that a conversion made, as fetch holds them. -/
import Derived.Test.YtnhdlclicjmmnaaGreatPfB
import Derived.Test.YtnhdlclicjmmnaaGreatHq
import Derived.Lib.ConvBytes
import Derived.Test.YtnhdlclicjmmnaaGreatTjV
namespace Go.Proofs.YtnhdlclicjmmnaaGreat
open Go.RowKit Go.Lib Go.Shelf Go.Maps
/-- v is a slice that '[]byte(s)' made, with the bytes bs, in block g. -/
def FB (w : World) (v : Value) (g : Nat) (bs : List UInt8) : Prop := ∃ (c : Nat) (cur : Array Value), v = .slice (some ⟨g, 0, none⟩) bs.length c ∧ w.heap[g]? = some (.cells cur 5 (cur.size, cur.size + 1)) ∧ ∀ (j : Nat) (b : UInt8), bs[j]? = some b → cur[j]? = some (Value.int .u8 b.toNat)
theorem FB.lt {w : World} {v : Value} {g : Nat} {bs : List UInt8} (h : FB w v g bs) : g < w.heap.size := by
  obtain ⟨c, cur, _, hh, _⟩ := h
  exact (Array.getElem?_eq_some_iff.1 hh).1
theorem FB.chg {S : Nat → Prop} {w w1 : World} {v : Value} {g : Nat} {bs : List UInt8} (h : FB w v g bs) (c : Chg S w w1) (hn : ¬ S g) : FB w1 v g bs := by
  have hlt := h.lt
  obtain ⟨cp, cur, e, hh, hc⟩ := h
  exact ⟨cp, cur, e, by rw [c.block g hlt hn]; exact hh, hc⟩
theorem FB.shape {w : World} {v : Value} {g : Nat} {bs : List UInt8} (h : FB w v g bs) : ∃ c, v = .slice (some ⟨g, 0, none⟩) bs.length c := by
  obtain ⟨c, _, e, _, _⟩ := h
  exact ⟨c, e⟩
theorem FB.cell {w : World} {v : Value} {g : Nat} {bs : List UInt8} (h : FB w v g bs) {j : Nat} {b : UInt8} (hb : bs[j]? = some b) : w.cell? ⟨g, j, none⟩ = some (.int .u8 b.toNat) := by
  obtain ⟨_, cur, _, hh, hc⟩ := h
  simp [World.cell?, hh, hc j b hb]
/-- '[]byte(s)': where it runs, and what it leaves. -/
theorem FB.made (w : World) (s : ByteArray) : ∃ v w', (convert 9 22 (.string s)).run Tryz.prog w = .ok v w' ∧ FB w' v w.heap.size s.data.toList ∧ Chg (fun _ => False) w w' ∧ w'.heap.size = w.heap.size + 1 := by
  refine ⟨_, _, Lib.run_convert_string_bytes w 9 22 5 s Tryz.underlying9 Tryz.underlying22 Tryz.underlying5, ⟨_, _, by rw [bsize], bytesWorld_at_new w _ s, fun j b hb => ?_⟩, ?_, bytesWorld_size w _ s⟩
  · have hb' : s.data[j]? = some b := by rw [← hb, Array.getElem?_toList]
    have hj := (Array.getElem?_eq_some_iff.1 hb').1
    have hj2 : j < s.size := hj
    have hb2 : s.data[j] = b := by rw [Array.getElem?_eq_getElem hj] at hb'; injection hb'
    simp [bytesCells, Array.getElem?_append, hj2, hb2]
  · exact bytesChg w _ _ s
def badH (b : UInt8) : Bool := decide (1 < (b.toNat : Int))
theorem badH_calls (w : World) (b : UInt8) : Calls Tryz.prog 68 #[.int .u8 b.toNat] w fun e w' => e = .returned (.bool (badH b)) ∧ w' = w := by
  unfold badH
  go_enter Tryz.func68, Tryz.ntmps68
  go_wp2
  go_ret
  exact ⟨rfl, rfl⟩
set_option maxHeartbeats 1000000 in
theorem idxH_calls (w : World) (v : Value) (g : Nat) (l : List UInt8) (h : FB w v g l) (hl : l.length ≤ 1048576) :
    Calls Tryz.prog 93 #[v, .func (.func 68) #[] #[]] w fun e w' => ∃ i : Int, e = .returned (.int .i64 i) ∧ decide (0 ≤ i) = l.any badH ∧ Chg (fun _ => False) w w' := by
  have HR := Lib.hid h
  obtain ⟨c, rfl⟩ := h.shape
  clear h
  go_enter Tryz.func93, Tryz.ntmps93
  go_wp2_with fail
  go_loopw [8] (fun v wx => ∃ k : Nat, k ≤ l.length ∧ v = .int .i64 k ∧ HD ((l.take k).any badH = false) ∧ HD (Chg (fun _ => False) w wx)) (fun v _ => l.length - (intOf v).toNat)
  case atStart => exact ⟨0, Nat.zero_le _, rfl, ⟨rfl⟩, ⟨Chg.refl _ _⟩⟩
  case round =>
    obtain ⟨k, hk, rfl, HA, HG⟩ := hrel
    obtain ⟨w2, rfl⟩ : ∃ w2, w2 = wr := ⟨_, rfl⟩
    by_cases hlt : k < l.length
    · obtain ⟨x, hx⟩ : ∃ x, l[k]? = some x := ⟨_, List.getElem?_eq_getElem hlt⟩
      have hr2 := FB.chg HR.out HG.out (fun h => h)
      have e0 := hr2.cell hx
      have HST := Lib.hid (any_take badH l k _ hx)
      have HPP := Lib.hid (any_part badH l k _ hx)
      have C := Lib.hid (fun w => badH_calls w x)
      obtain ⟨q, hq⟩ : ∃ q, badH x = q := ⟨_, rfl⟩
      rw [hq] at C HST HPP
      have q0 : (0 : Int) ≤ (k : Int) := by omega
      have q1 : (k : Int) < (l.length : Int) := by omega
      clear hq hx hr2
      cases q
      · go_wp2_with (go_at_call 68; refine (C.out _).mono ?_; rintro e w3 ⟨rfl, he⟩; obtain rfl := he)
        exact ⟨⟨k + 1, by omega, by go_num, ⟨by rw [HST.out, HA.out]; rfl⟩, ⟨HG.out⟩⟩, by simp [intOf]; omega⟩
      · go_wp2_with (go_at_call 68; refine (C.out _).mono ?_; rintro e w3 ⟨rfl, he⟩; obtain rfl := he)
        go_ret
        have hp := HPP.out (by trivial)
        exact ⟨_, rfl, by rw [hp]; simp, HG.out⟩
    · obtain rfl : k = l.length := by omega
      go_wp2_with fail
      go_ret
      have ha := HA.out
      rw [List.take_length] at ha
      exact ⟨_, rfl, by rw [ha]; rfl, HG.out⟩
theorem conH_calls (w : World) (v : Value) (g : Nat) (l : List UInt8) (h : FB w v g l) (hl : l.length ≤ 1048576) :
    Calls Tryz.prog 69 #[v, .func (.func 68) #[] #[]] w fun e w' => e = .returned (.bool (l.any badH)) ∧ Chg (fun _ => False) w w' := by
  have C := Lib.hid (idxH_calls w v g l h hl)
  obtain ⟨c, rfl⟩ := h.shape
  clear h
  go_enter Tryz.func69, Tryz.ntmps69
  go_wp2_with (go_at_call 93; refine (C.out).mono ?_; rintro e w1 ⟨i, rfl, hi, hc⟩; have HI := Lib.hid hi; have G := Lib.hid hc; clear hi hc)
  go_ret
  exact ⟨by rw [← HI.out]; rfl, G.out⟩
end Go.Proofs.YtnhdlclicjmmnaaGreat
/- TopPatched: fetch's empty, of a cell that is empty. -/
namespace Go.Proofs.YtnhdlclicjmmnaaGreat
open Go.RowKit Go.Lib Go.Shelf
set_option maxHeartbeats 1000000 in
theorem empty_calls (w : World) (f c m : Nat) (hf : w.cell? ⟨f, 0, none⟩ = some (.pointer (some ⟨c, 0, none⟩))) (h3 : w.cell? ⟨c, 3, none⟩ = some (.map (some m))) (hm : MapAt w m []) :
    Calls Tryz.prog 39 #[.pointer (some ⟨f, 0, none⟩)] w fun e w' => e = .returned (.tuple #[]) ∧ Chg (fun _ => False) w w' := by
  have C := Lib.hid (Names_calls w c m [] h3 hm (by simp [Rising, keysM]) (Nat.zero_le _))
  clear h3 hm
  go_enter Tryz.func39, Tryz.ntmps39
  go_wp2_with (go_at_call 65; (with_reducible refine C.out.mono ?_); rintro e w1 ⟨A, cp, r, rfl, hrow, hk, hc⟩; have HC := Lib.hid hc; clear hrow hk hc)
  have z : (([] : Cont).length : Int) = 0 := rfl
  go_loopw [10] (fun v wx => v = .int .i64 0 ∧ HD (Chg (fun _ => False) w wx)) (fun _ _ => 0)
  case atStart => exact ⟨rfl, ⟨HC.out⟩⟩
  case round =>
    obtain ⟨rfl, HG⟩ := hrel
    go_wp2_with fail
    go_end0
    exact ⟨rfl, HG.out⟩
end Go.Proofs.YtnhdlclicjmmnaaGreat
/- TopPatched: fetch's Missing. -/
namespace Go.Proofs.YtnhdlclicjmmnaaGreat
open Go.RowKit Go.Lib Go.Shelf
def encI (n : Nat) : List Value := [.int .i64 n]
theorem encI_len (n : Nat) : (encI n).length = 1 := rfl
theorem encI_one (n : Nat) : ∀ u ∈ encI n, u.oneCell' = true := by
  intro u hu
  rw [encI, List.mem_singleton] at hu
  subst hu
  rfl
theorem elemI : ElemInfo Tryz.prog 3 1 8 := ElemInfo.mk' (z := .int .i64 0) (by kernel_rfl) rfl (by decide)
abbrev IRow (w : World) (v : Value) (r : Option Nat) (l : List Nat) : Prop := SRow 3 1 encI w v r l
/-- The chunks of the first k that are missing. -/
def missT (l : List UInt8) (k : Nat) : List Nat := (List.range k).filter fun j => l[j]? == some 0
theorem missT_len (l : List UInt8) (k : Nat) : (missT l k).length ≤ k := Nat.le_trans (List.length_filter_le _ _) (by rw [List.length_range]; exact Nat.le_refl _)
theorem missT_one (l : List UInt8) (k : Nat) (h : l[k]? = some 0) : missT l (k + 1) = missT l k ++ [k] := by
  simp [missT, List.range_succ, h]
theorem missT_none (l : List UInt8) (k : Nat) (h : ¬ l[k]? = some 0) : missT l (k + 1) = missT l k := by
  simp [missT, List.range_succ, h]
def OwnI (w wx : World) (v : Value) (l : List Nat) : Prop := ∃ A cp r, v = .slice A l.length cp ∧ IRow wx v r l ∧ (∀ k, r = some k → w.heap.size ≤ k) ∧ Chg (fun _ => False) w wx
theorem OwnI.next {W w w1 : World} {o : Obj} {A : Option Addr} {cp : Nat} {l1 : List Nat} {r r1 : Option Nat} (hr : ∀ k, r = some k → W.heap.size ≤ k) (hc : Chg (fun _ => False) W w) (h1 : IRow w1 (.slice A l1.length cp) r1 l1) (hn : Next w r r1) (hg : (w.alloc o).grownBy w1 r) : OwnI W w1 (.slice A l1.length cp) l1 :=
  ⟨A, cp, r1, rfl, h1, fun k e => (hn.mem e).elim (hr k) (fun h => Nat.le_trans hc.size h), hc.trans (((Chg.refl (fun k => r = some k) w).alloc o).grown hg (fun _ h => .inl h)) (fun k e => .inr (hr k e))⟩
set_option maxHeartbeats 1000000 in
theorem Missing_calls (w : World) (f g cp0 : Nat) (l : List UInt8) (h : FB w (.slice (some ⟨g, 0, none⟩) l.length cp0) g l) (hf : w.cell? ⟨f, 7, none⟩ = some (.slice (some ⟨g, 0, none⟩) l.length cp0)) (hl : l.length ≤ 1000) :
    Calls Tryz.prog 16 #[.pointer (some ⟨f, 0, none⟩)] w fun e w' => ∃ v, e = .returned v ∧ OwnI w w' v (missT l l.length) := by
  have HR := Lib.hid h
  have HL := Lib.hid hl
  clear h
  go_enter Tryz.func16, Tryz.ntmps16
  go_wp2_with fail
  clear hf
  go_loopw [3, 13] (fun v k wx => ∃ j : Nat, j ≤ l.length ∧ k = .int .i64 j ∧ HD (OwnI w wx v (missT l j))) (fun _ k _ => l.length - (intOf k).toNat)
  case atStart => exact ⟨0, Nat.zero_le _, rfl, ⟨none, 0, none, rfl, SRow.nil _, fun k e => (nomatch e), Chg.refl _ _⟩⟩
  case round =>
    obtain ⟨k, hk, rfl, HO⟩ := hrel
    obtain ⟨w2, rfl⟩ : ∃ w2, w2 = wr := ⟨_, rfl⟩
    by_cases hlt : k < l.length
    · obtain ⟨x, hx⟩ : ∃ x, l[k]? = some x := ⟨_, List.getElem?_eq_getElem hlt⟩
      obtain ⟨A, cp, r, rfl, hrow, hr, hc⟩ := HO.out
      have e0 := (FB.chg HR.out hc (fun h => h)).cell hx
      have q0 : (0 : Int) ≤ (k : Int) := by omega
      have q1 : (k : Int) < (l.length : Int) := by omega
      have HLEN := Lib.hid (missT_len l k)
      have HROW := Lib.hid hrow
      have HRR := Lib.hid hr
      have HC := Lib.hid hc
      clear hrow hr hc
      by_cases h0 : x = 0
      · subst h0
        have HM := Lib.hid (missT_one l k hx)
        clear hx
        have e0 : w2.cell? ⟨g, k, none⟩ = some (.int .u8 0) := e0
        go_wp2_with (at_builtin; refine wpList_sappend w2 rfl (.tmp 20) (.tmp 22) 49 8 rfl Tryz.underlying49 elemI encI_len encI_one (.slice A (missT l k).length cp) r (missT l k) k rfl rfl HROW.out (by have := HLEN.out; have := HL.out; omega) (by decide) ?_; intro A1 c1 w4 r4 hrow4 hnext4 hgrow4; have HN := Lib.hid (OwnI.next HRR.out HC.out hrow4 hnext4 hgrow4); clear hrow4 hnext4 hgrow4)
        refine ⟨⟨k + 1, by omega, by go_num, ⟨?_⟩⟩, by simp [intOf]; omega⟩
        rw [HM.out]
        have hn := HN.out
        simp only [List.length_append, List.length_cons, List.length_nil, Nat.zero_add] at hn
        exact hn
      · have hx0 : ¬ l[k]? = some 0 := by rw [hx]; exact fun e => h0 (by injection e)
        have HM := Lib.hid (missT_none l k hx0)
        have d0 : ((x.toNat : Int) == 0) = false := beq_eq_false_iff_ne.2 (fun e => h0 (UInt8.toNat_inj.1 (by simpa using e)))
        clear hx0 hx
        go_wp2_with fail
        exact ⟨⟨k + 1, by omega, by go_num, ⟨by rw [HM.out]; exact ⟨A, cp, r, rfl, HROW.out, HRR.out, HC.out⟩⟩⟩, by simp [intOf]; omega⟩
    · obtain rfl : k = l.length := by omega
      go_wp2_with fail
      go_ret
      exact ⟨_, rfl, HO.out⟩
end Go.Proofs.YtnhdlclicjmmnaaGreat
/- TopPatched: bill's Count and Cut of a good bill, tree's Leaf. -/
namespace Go.Proofs.YtnhdlclicjmmnaaGreat
open Go.RowKit Go.Lib Go.Shelf
def tleafF (s : ByteArray) : ByteArray := sumF [⟨#[0]⟩, s]
theorem tLeaf_calls (w : World) (s : ByteArray) (hs : s.size ≤ 1048576) :
    Calls Tryz.prog 22 #[.string s] w fun e w' => e = .returned (.string (tleafF s)) ∧ Chg (fun _ => False) w w' := by
  have ht : tot [⟨#[0]⟩, s] ≤ 140737488350000 := by
    show 1 + (s.size + 0) ≤ _
    omega
  have C := Lib.hid (Sum_calls (w.alloc (.cells #[.string ⟨#[0]⟩, .string s] 9)) (some ⟨w.heap.size, 0, none⟩) 2 2 [⟨#[0]⟩, s] ⟨by simp, fun _ => ⟨_, rfl, fun j s hj => by
    match j, hj with
    | 0, hj => injection hj with hj; subst hj; exact blkCell (blkAlloc w _) 0
    | 1, hj => injection hj with hj; subst hj; exact blkCell (blkAlloc w _) 1⟩⟩ rfl ht)
  rw [show sumF [⟨#[0]⟩, s] = tleafF s from rfl] at C
  clear ht
  go_enter Tryz.func22, Tryz.ntmps22
  go_wp2_with (go_at_call 20; refine (C.out).mono ?_; rintro e w1 ⟨rfl, hc⟩; have G := Lib.hid (((Chg.refl (fun _ => False) w).alloc _).trans hc (fun _ h => h.elim)); clear hc)
  go_ret
  exact ⟨rfl, G.out⟩
/-- A bill as a value. -/
def billV (v s c : Int) (h t : ByteArray) (A : Option Addr) (cap : Nat) (l : List ByteArray) : Value := .agg #[.int .i64 v, .int .i64 s, .int .i64 c, .string h, .string t, .slice A l.length cap]
theorem checkE_range {v s c : Int} {h t : ByteArray} {l : List ByteArray} (hE : checkE v s c h t l = 0) : 1 ≤ v ∧ v ≤ 255 ∧ 1 ≤ s ∧ s ≤ 8192 ∧ partN c = true ∧ h.size = 32 ∧ t.size = 32 := by
  unfold checkE at hE
  split at hE
  · cases hE
  · rename_i hb
    have hb : badB v s c h t = false := by simpa using hb
    simp only [badB, Bool.or_eq_false_iff, Bool.not_eq_false', decide_eq_false_iff_not, beq_iff_eq] at hb
    exact ⟨by omega, by omega, by omega, by omega, hb.1.1.2, by omega, by omega⟩
set_option maxHeartbeats 1000000 in
theorem Count_calls (w : World) (v s c : Int) (h t : ByteArray) (A : Option Addr) (cap : Nat) (r : Option Nat) (l : List ByteArray) (hr : TRow w (.slice A l.length cap) r l) (hl : l.length ≤ 1048576) (hs : ∀ x ∈ l, x.size ≤ 1048576) (hE : checkE v s c h t l = 0) :
    Calls Tryz.prog 43 #[.agg #[.int .i64 v, .int .i64 s, .int .i64 c, .string h, .string t, .slice A l.length cap]] w fun e w' => e = .returned (.int .i64 (cntF s c)) ∧ Chg (fun _ => False) w w' := by
  obtain ⟨_, _, s1, s2, hc, _, _⟩ := checkE_range hE
  obtain ⟨c1, c2⟩ := partN_range hc
  have C2 := Lib.hid (fun w => count_calls w s c (by omega) (by omega) (by omega) (by omega))
  clear s1 s2 hc c1 c2
  obtain ⟨b, hb⟩ : ∃ b, w.heap.size = b := ⟨_, rfl⟩
  obtain ⟨W, hW⟩ : ∃ W, w.alloc (.cells #[.int .i64 v, .int .i64 s, .int .i64 c, .string h, .string t, .slice A l.length cap] 27) = W := ⟨_, rfl⟩
  have hz : W.heap[b]? = some (.cells #[.int .i64 v, .int .i64 s, .int .i64 c, .string h, .string t, .slice A l.length cap] 27 (0, 0)) := by rw [← hW, ← hb]; exact blkAlloc w _
  have hg : Chg (fun _ => False) w W := by rw [← hW]; exact (Chg.refl _ w).alloc _
  have C := Lib.hid (Check_calls W v s c h t A cap r l (SRow.chg hr hg (fun _ _ h => h)) hl hs)
  rw [hE] at C
  have HG := Lib.hid hg
  have HZ := Lib.hid hz
  clear hr hl hs hE hg
  have q0 := blkCell hz 0
  have q1 := blkCell hz 1
  have q2 := blkCell hz 2
  have q3 := blkCell hz 3
  have q4 := blkCell hz 4
  have q5 := blkCell hz 5
  clear hz
  go_enter Tryz.func43, Tryz.ntmps43
  go_wp2_with fail
  (with_reducible refine (C.out).mono ?_)
  rintro e w1 ⟨rfl, hc⟩
  have G := Lib.hid (HG.out.trans hc (fun _ h => h.elim))
  have e1 := blkCell (by rw [hc.block b (blkLt HZ.out) (fun h => h)]; exact HZ.out : w1.heap[b]? = _) 1
  have e2 := blkCell (by rw [hc.block b (blkLt HZ.out) (fun h => h)]; exact HZ.out : w1.heap[b]? = _) 2
  clear hc
  go_wp2_with (go_at_call 49; (with_reducible refine (C2.out _).mono ?_); rintro e w2 ⟨rfl, he⟩; have he := he.symm; subst he)
  go_ret
  exact ⟨rfl, G.out⟩
end Go.Proofs.YtnhdlclicjmmnaaGreat
/- TopPatched: bill's Cut of a good bill. -/
namespace Go.Proofs.YtnhdlclicjmmnaaGreat
open Go.RowKit Go.Lib Go.Shelf
def cutHi (s c i : Int) : Int := if s < i * c + c then s else i * c + c
theorem cnt_le {s c : Int} (h0 : 1 ≤ s) (h2 : 1 ≤ c) : cntF s c ≤ s := by
  unfold cntF
  have h : (s + c - 1) / c < s + 1 := by
    apply Int.ediv_lt_of_lt_mul (by omega)
    have := Int.mul_le_mul_of_nonneg_left (show (0 : Int) ≤ c - 1 by omega) (show (0 : Int) ≤ s by omega)
    rw [Int.mul_zero, Int.mul_sub, Int.mul_one] at this
    rw [Int.add_mul, Int.one_mul]
    omega
  omega
theorem cut_small {s c i : Int} (hs : s ≤ 8192) (hc : c ≤ 1024) (h0 : 1 ≤ s) (h1 : 1 ≤ c) (hi0 : 0 ≤ i) (hi : i < cntF s c) : 0 ≤ i * c ∧ i * c ≤ 8388608 := by
  have hi2 := cnt_le h0 h1
  exact ⟨Int.mul_nonneg hi0 (by omega), Int.le_trans (Int.mul_le_mul (show i ≤ 8192 by omega) hc (by omega) (by decide)) (by decide)⟩
set_option maxHeartbeats 2000000 in
theorem Cut_calls (w : World) (v s c i : Int) (h t : ByteArray) (A : Option Addr) (cap : Nat) (r : Option Nat) (l : List ByteArray) (hr : TRow w (.slice A l.length cap) r l) (hl : l.length ≤ 1048576) (hs : ∀ x ∈ l, x.size ≤ 1048576) (hE : checkE v s c h t l = 0) (hi0 : 0 ≤ i) (hi : i < cntF s c) :
    Calls Tryz.prog 13 #[.agg #[.int .i64 v, .int .i64 s, .int .i64 c, .string h, .string t, .slice A l.length cap], .int .i64 i] w fun e w' => e = .returned (.tuple #[.int .i64 (i * c), .int .i64 (cutHi s c i)]) ∧ Chg (fun _ => False) w w' := by
  obtain ⟨_, _, s1, s2, hc, _, _⟩ := checkE_range hE
  obtain ⟨c1, c2⟩ := partN_range hc
  obtain ⟨m0, m1⟩ := cut_small s2 c2 s1 (by omega) hi0 hi
  have k1 : IntKind.i64.wrap (i * c) = i * c := by rw [IntKind.wrap_i64]; omega
  have k2 : IntKind.i64.wrap (i * c + c) = i * c + c := by rw [IntKind.wrap_i64]; omega
  have d0 : decide (i < 0) = false := decide_eq_false (by omega)
  have d1 : decide (cntF s c ≤ i) = false := decide_eq_false (by omega)
  obtain ⟨y, hy⟩ : ∃ y, cutHi s c i = y := ⟨_, rfl⟩
  have HMIN : ∀ (ts : Array TypeId) (T : TypeId) (w : World), (Builtin.min_ ts T #[.int .i64 (i * c + c), .int .i64 s]).run Tryz.prog w = .ok (.int .i64 y) w := fun ts T w => by
    rw [← hy]
    exact run_min_int2 w ts T _ _ _ _
  rw [hy]
  clear hy s1 s2 hc c1 c2 m0 m1 hi0 hi
  obtain ⟨b, hb⟩ : ∃ b, w.heap.size = b := ⟨_, rfl⟩
  obtain ⟨W, hW⟩ : ∃ W, w.alloc (.cells #[.int .i64 v, .int .i64 s, .int .i64 c, .string h, .string t, .slice A l.length cap] 27) = W := ⟨_, rfl⟩
  have hz : W.heap[b]? = some (.cells #[.int .i64 v, .int .i64 s, .int .i64 c, .string h, .string t, .slice A l.length cap] 27 (0, 0)) := by rw [← hW, ← hb]; exact blkAlloc w _
  have hg : Chg (fun _ => False) w W := by rw [← hW]; exact (Chg.refl _ w).alloc _
  have C := Lib.hid (Count_calls W v s c h t A cap r l (SRow.chg hr hg (fun _ _ h => h)) hl hs hE)
  have HG := Lib.hid hg
  have HZ := Lib.hid hz
  clear hr hl hs hE hg
  have q0 := blkCell hz 0
  have q1 := blkCell hz 1
  have q2 := blkCell hz 2
  have q3 := blkCell hz 3
  have q4 := blkCell hz 4
  have q5 := blkCell hz 5
  clear hz
  go_enter Tryz.func13, Tryz.ntmps13
  go_wp2_with fail
  (with_reducible refine (C.out).mono ?_)
  rintro e w1 ⟨rfl, hc⟩
  have G := Lib.hid (HG.out.trans hc (fun _ h => h.elim))
  have e1 := blkCell (by rw [hc.block b (blkLt HZ.out) (fun h => h)]; exact HZ.out : w1.heap[b]? = _) 1
  have e2 := blkCell (by rw [hc.block b (blkLt HZ.out) (fun h => h)]; exact HZ.out : w1.heap[b]? = _) 2
  clear hc
  go_wp2_with fail
  go_region
  go_wp2_with fail
  go_ret2
  exact ⟨rfl, G.out.drew⟩
end Go.Proofs.YtnhdlclicjmmnaaGreat
