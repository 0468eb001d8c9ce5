/- TopPatched: the plain law of a download: what is had is the image's. -/
import Derived.Test.YtnhdlclicjmmnaaGreatPmG
import Derived.Test.YtnhdlclicjmmnaaGreatPjD
import Derived.Test.YtnhdlclicjmmnaaGreatPdJ
import Derived.Test.YtnhdlclicjmmnaaGreatPdE
namespace Go.Proofs.YtnhdlclicjmmnaaGreat
open Go.RowKit Go.Lib Go.Shelf Go.Maps
/-- What is had is the image's. -/
def Law (X : ByteArray) (N : Nat) (hv dv : List UInt8) : Prop := hv.length = N ∧ dv.length = X.size ∧ ∀ j, j < X.size → hv[j / 128]? = some 1 → dv[j]? = X.data.toList[j]?
theorem Law.start (X : ByteArray) (N : Nat) : Law X N (List.replicate N 0) (List.replicate X.size 0) := by
  refine ⟨List.length_replicate, List.length_replicate, fun j _ h => ?_⟩
  rw [List.getElem?_replicate] at h
  split at h
  · exact absurd h (by decide)
  · cases h
theorem chB_list (X : ByteArray) (k : Nat) : (chB X k).data.toList = (X.data.toList.drop (k * 128)).take 128 := by rw [chB, strOf_list]
theorem Law.take {X : ByteArray} {N : Nat} {hv dv : List UInt8} (h : Law X N hv dv) (i : Nat) (hi : i * 128 < X.size) (hN : i < N) : Law X N (hv.set i 1) (layB dv (i * 128) (chB X i).data.toList) := by
  obtain ⟨h1, h2, h3⟩ := h
  have hl : (chB X i).data.toList.length = min 128 (X.size - i * 128) := by rw [bsize, chB_size]
  refine ⟨by rw [List.length_set, h1], by rw [layB_len, h2], fun j hj hb => ?_⟩
  by_cases e : j / 128 = i
  · have a1 : i * 128 ≤ j := by omega
    have a2 : j < i * 128 + 128 := by omega
    rw [layB_in _ _ _ j a1 (by rw [hl]; omega) (by rw [hl, h2]; omega), chB_list, List.getElem?_take, if_pos (by omega), List.getElem?_drop, show i * 128 + (j - i * 128) = j by omega]
  · rw [List.getElem?_set_ne (fun h => e h.symm)] at hb
    rw [layB_out _ _ _ j (by rw [hl]; omega)]
    exact h3 j hj hb
theorem Law.done {X : ByteArray} {N : Nat} {hv dv : List UInt8} (h : Law X N hv dv) (hN : ∀ j, j < X.size → j / 128 < N) (ha : ∀ q, q < N → hv[q]? = some 1) : dv = X.data.toList := by
  obtain ⟨h1, h2, h3⟩ := h
  refine List.ext_getElem? fun j => ?_
  by_cases hj : j < X.size
  · exact h3 j hj (ha _ (hN j hj))
  · rw [List.getElem?_eq_none (by omega), List.getElem?_eq_none (by rw [bsize]; omega)]
/-- Bits. -/
theorem miss_mem {hv : List UInt8} {q : Nat} (h : hv.any badH = false) (hq : q < hv.length) : hv[q]? = some 1 ∨ q ∈ missT hv hv.length := by
  have hx : hv[q]? = some hv[q] := List.getElem?_eq_getElem hq
  rcases bad_bit (by simpa using List.any_eq_false.1 h hv[q] (List.mem_of_getElem? hx)) with e | e
  · right
    rw [missT, List.mem_filter]
    exact ⟨List.mem_range.2 hq, by rw [hx, e]; rfl⟩
  · left
    rw [hx, e]
theorem miss_nil {hv : List UInt8} (h : ∀ q, q < hv.length → hv[q]? = some 1) : missT hv hv.length = [] := by
  rw [missT, List.filter_eq_nil_iff]
  intro q hq
  rw [h q (List.mem_range.1 hq)]
  decide
theorem miss_lt {hv : List UInt8} {j i : Nat} (h : (missT hv hv.length)[j]? = some i) : i < hv.length := by
  have := List.mem_of_getElem? h
  rw [missT, List.mem_filter] at this
  exact List.mem_range.1 this.1
/-- What is had, or still to come. -/
def Left (hv : List UInt8) (N : Nat) (m : List Nat) : Prop := ∀ q, q < N → hv[q]? = some 1 ∨ q ∈ m
theorem Left.step {hv : List UInt8} {N i j : Nat} {m : List Nat} (h : Left hv N (m.drop j)) (hi : m[j]? = some i) (hl : i < hv.length) : (hv[i]? = some 1 → Left hv N (m.drop (j + 1))) ∧ Left (hv.set i 1) N (m.drop (j + 1)) := by
  have hd : m.drop j = i :: m.drop (j + 1) := by
    have hj := (List.getElem?_eq_some_iff.1 hi).1
    rw [List.drop_eq_getElem_cons hj]
    rw [List.getElem?_eq_getElem hj] at hi
    injection hi with hi
    rw [hi]
  constructor
  · intro h1 q hq
    rcases h q hq with e | e
    · exact .inl e
    · rw [hd] at e
      rcases List.mem_cons.1 e with e | e
      · subst e
        exact .inl h1
      · exact .inr e
  · intro q hq
    by_cases e0 : q = i
    · subst e0
      exact .inl (List.getElem?_set_self hl)
    · rw [List.getElem?_set_ne (fun h => e0 h.symm)]
      rcases h q hq with e | e
      · exact .inl e
      · rw [hd] at e
        rcases List.mem_cons.1 e with e | e
        · exact absurd e e0
        · exact .inr e
/-- The bill that Make made, and its chunks. -/
theorem made_good (X : ByteArray) (h0 : 1 ≤ X.size) (h1 : X.size ≤ 8192) : GoodB 1 X.size 128 (sumF [X]) (rootF (lvT X (chunkN X.size 128))) (lvT X (chunkN X.size 128)) :=
  ⟨checkE_made X h0 h1, fun e => by
    have hN : 0 < chunkN X.size 128 := (chunkN_lt (by decide)).2 (by omega)
    have := congrArg List.length e
    rw [lvT_len] at this
    simp only [List.length_nil] at this
    omega⟩
theorem cut_made (X : ByteArray) (i : Nat) (hi : i < chunkN X.size 128) : ∃ hi2 : Nat, cutHi X.size 128 i = (hi2 : Int) ∧ i * 128 < X.size ∧ i * 128 ≤ hi2 ∧ hi2 ≤ X.size ∧ X.extract (i * 128) hi2 = chB X i ∧ ((chB X i).size : Int) = cutHi X.size 128 i - i * 128 ∧ (lvT X (chunkN X.size 128))[i]? = some (tleafF (chB X i)) := by
  have hlt : i * 128 < X.size := (chunkN_lt (by decide)).1 hi
  have hc : cutHi X.size 128 i = ((min X.size (i * 128 + 128) : Nat) : Int) := by
    unfold cutHi
    split <;> omega
  refine ⟨min X.size (i * 128 + 128), hc, hlt, by omega, by omega, ?_, ?_, ?_⟩
  · obtain ⟨n, hn⟩ : ∃ n, min X.size (i * 128 + 128) = i * 128 + n := ⟨min X.size (i * 128 + 128) - i * 128, by omega⟩
    have e : (X.extract (i * 128) (i * 128 + n)).data.toList = (chB X i).data.toList := by
      rw [ext_copy, chB_list]
      refine List.ext_getElem? fun j => ?_
      rw [List.getElem?_take, List.getElem?_take]
      by_cases h1 : j < n
      · rw [if_pos h1, if_pos (by omega)]
      · rw [if_neg h1]
        by_cases h2 : j < 128
        · rw [if_pos h2, List.getElem?_drop, List.getElem?_eq_none (by rw [bsize]; omega)]
        · rw [if_neg h2]
    rw [hn]
    exact ByteArray.ext (Array.toList_inj.1 e)
  · rw [hc, chB_size]
    omega
  · rw [lvT, List.getElem?_map, List.getElem?_range hi]
    rfl
end Go.Proofs.YtnhdlclicjmmnaaGreat
/- TopPatched: the device: Crash with nothing pending. -/
namespace Go.Proofs.YtnhdlclicjmmnaaGreat
open Go.RowKit Go.Lib Go.Shelf
theorem sclone_calls (w : World) (g c : Nat) (r : Option Nat) (l : List (List UInt8)) (h : DRow w (.slice (some ⟨g, 0, none⟩) l.length c) r l) (hl : l.length ≤ 100000) (h0 : 0 < l.length) :
    Calls Tryz.prog 44 #[.slice (some ⟨g, 0, none⟩) l.length c] w fun e w' => ∃ g' c', e = .returned (.slice (some ⟨g', 0, none⟩) l.length c') ∧ DRow w' (.slice (some ⟨g', 0, none⟩) l.length c') (some g') l ∧ w.heap.size ≤ g' ∧ Chg (fun _ => False) w w' := by
  obtain ⟨i, hi, hzz⟩ := Option.map_eq_some_iff.1 info64
  simp only [Prod.mk.injEq] at hzz
  obtain ⟨hz0, hz1, hz2⟩ := hzz
  obtain ⟨g', cur, hA, hr, hn, hc, hm, hh, hs, ht⟩ := h.at_ h0
  injection hA with hA
  injection hA with hA
  subst hA
  have hfl : (l.flatMap enc64).length = l.length * 64 := flatLen enc64_len l
  refine (AnyE.slices_Clone Tryz.sclone44 i _ 64 64 hi hz0 hz1 hz2 (by simp [Value.cells]) (by decide) (fun w => by show (Go.sizeOf 92).run Tryz.prog w = _; simp [Go.sizeOf, typeInfo, hi, hz1]) g 0 l.length c (l.flatMap enc64) w hfl (by simp only [maxLen]; omega) (by omega) (fun j u hj => ?_) (fun u hu => ?_)).mono ?_
  · have hj' : j < l.length * 64 := by
      have := (List.getElem?_eq_some_iff.1 hj).1
      omega
    rw [Nat.zero_add, blkCell hh, ← Array.getElem?_toList]
    rw [← ht, List.getElem?_take, if_pos hj'] at hj
    exact hj
  · obtain ⟨x, _, hx⟩ := List.mem_flatMap.1 hu
    exact enc64_one x u hx
  · rintro e w' ⟨v', rfl, hown, hne, hb⟩
    rcases hown.2 with ⟨rfl, _⟩ | ⟨g2, cap, cur2, rfl, hg2, h3⟩
    · exact absurd rfl hne
    · exact ⟨g2, cap, rfl, ⟨⟨hown.1, .inr ⟨g2, cap, cur2, rfl, Nat.zero_le _, h3⟩⟩, rfl⟩, hg2, Chg.of_below hb _⟩
theorem crash_end {w0 w w1 : World} {b g2 g' c1 c2 c' : Nat} {A1 A3 : Option Addr} {c3 : Nat} {r1 r2 : Option Nat} {st : Int} {seen safe : List (List UInt8)} (hb0 : w0.heap.size ≤ b) (hc0 : Chg (fun _ => False) w0 w)
    (h3 : w.heap[b]? = some (.cells #[.slice A1 seen.length c1, .slice (some ⟨g2, 0, none⟩) safe.length c2, .slice A3 0 c3, .int .i64 st, .int .i64 0, .bool false] 80 (0, 0))) (h4 : DRow w (.slice A1 seen.length c1) r1 seen) (h5 : DRow w (.slice (some ⟨g2, 0, none⟩) safe.length c2) r2 safe)
    (k2 : ∀ k, r2 = some k → w0.heap.size ≤ k)
    (hb2 : w1.heap[b]? = some (.cells #[.slice A1 seen.length c1, .slice (some ⟨g2, 0, none⟩) safe.length c2, .slice A3 0 c3, .int .i64 st, .int .i64 0, .bool false] 80 (0, 0))) (hr : DRow w1 (.slice (some ⟨g', 0, none⟩) safe.length c') (some g') safe) (hg : (w.alloc (.cells #[.slice none 0 0] 51)).heap.size ≤ g')
    (hc : Chg (fun _ => False) (w.alloc (.cells #[.slice none 0 0] 51)) w1) :
    Dv w0 ((((w1.setCell ⟨b, 0, none⟩ (.slice (some ⟨g', 0, none⟩) safe.length c')).setCell ⟨b, 2, none⟩ (.slice none 0 0)).setCell ⟨b, 4, none⟩ (.int .i64 0)).setCell ⟨b, 5, none⟩ (.bool false)) b safe safe [] ∧
      KeptT SDev w ((((w1.setCell ⟨b, 0, none⟩ (.slice (some ⟨g', 0, none⟩) safe.length c')).setCell ⟨b, 2, none⟩ (.slice none 0 0)).setCell ⟨b, 4, none⟩ (.int .i64 0)).setCell ⟨b, 5, none⟩ (.bool false)) := by
  have ca : Chg (fun _ => False) w w1 := ((Chg.refl _ w).alloc _).trans hc (fun _ h => h.elim)
  have hb := blkSet (blkSet (blkSet (blkSet hb2 0 (.slice (some ⟨g', 0, none⟩) safe.length c')) 2 (.slice none 0 0)) 4 (.int .i64 0)) 5 (.bool false)
  have cs : Chg (fun k => k = b) w1 ((((w1.setCell ⟨b, 0, none⟩ (.slice (some ⟨g', 0, none⟩) safe.length c')).setCell ⟨b, 2, none⟩ (.slice none 0 0)).setCell ⟨b, 4, none⟩ (.int .i64 0)).setCell ⟨b, 5, none⟩ (.bool false)) :=
    ((((Chg.refl (fun k => k = b) w1).cellOf 0 _).cellOf 2 _).cellOf 4 _).cellOf 5 _
  have f5 := SRow.chg h5 ca (fun _ _ h => h)
  have e5 := SRow.chg f5 cs (fun k e hk => by subst hk; exact SRow.ne f5 hb2 (by decide) e)
  have er := SRow.chg hr cs (fun k e hk => by subst hk; exact SRow.ne hr hb2 (by decide) e)
  have hlt : w.heap.size < g' := by rw [World.size_alloc] at hg; omega
  have call := (ca.mono (S' := fun k => k = b) (fun _ h => h.elim)).trans cs (fun k e => .inl e)
  refine ⟨⟨hb0, hc0.trans call (fun k e => .inr (by rw [e]; exact hb0)), some ⟨g', 0, none⟩, c', some g', some ⟨g2, 0, none⟩, c2, r2, none, 0, none, st, by simpa using hb, er, e5, SRow.nil _, fun k e => ?_, k2, (fun k (e : none = some k) => nomatch e), fun k e e2 => ?_⟩, KeptT.of call (fun k e => ?_)⟩
  · injection e with e
    rw [← e]
    exact Nat.le_trans hc0.size (Nat.le_of_lt hlt)
  · injection e with e
    have := (SRow.lt h5 e2).1
    omega
  · subst e
    exact .inr ⟨_, _, _, h3, .inl rfl⟩
set_option maxRecDepth 100000 in
set_option maxHeartbeats 4000000 in
theorem Crash_calls (w0 w : World) (b : Nat) (seen safe : List (List UInt8)) (h : Dv w0 w b seen safe []) (h0 : 0 < safe.length) (hl : safe.length ≤ 100000) :
    Calls Tryz.prog 15 #[.pointer (some ⟨b, 0, none⟩), .agg #[.slice none 0 0]] w fun e w' => e = .returned (.tuple #[]) ∧ Dv w0 w' b safe safe [] ∧ KeptT SDev w w' := by
  obtain ⟨hb0, hc0, A1, c1, r1, A2, c2, r2, A3, c3, r3, st, h3, h4, h5, h6, k1, k2, k3, hne⟩ := h
  obtain ⟨g2, rfl⟩ : ∃ g2, A2 = some ⟨g2, 0, none⟩ := by
    obtain ⟨g, _, hA, _⟩ := SRow.at_ h5 h0
    exact ⟨g, hA⟩
  have H3 := Lib.hid h3
  have H4 := Lib.hid h4
  have H5 := Lib.hid h5
  have C := Lib.hid (sclone_calls (w.alloc (.cells #[.slice none 0 0] 51)) g2 c2 r2 safe (h5.alloc _) hl h0)
  have HB1 := Lib.hid (blkOld h3 (.cells #[.slice none 0 0] 51))
  have e1 := blkCell HB1.out 1
  have e2 := blkCell HB1.out 2
  clear h3 h4 h5
  go_enter Tryz.func15, Tryz.ntmps15
  go_wp2_with fail
  go_loopw [14] (fun v wr => v = .int .i64 0 ∧ HD (wr = w.alloc (.cells #[.slice none 0 0] 51))) (fun _ _ => 0)
  case atStart => exact ⟨rfl, ⟨rfl⟩⟩
  case round =>
    obtain ⟨rfl, ⟨HE⟩⟩ := hrel
    subst HE
    trace_state
    go_wp2_with (go_at_call 44; with_reducible refine C.out.mono ?_; rintro e w1 ⟨g', c', rfl, hr', hg', hc'⟩; have HR := Lib.hid hr'; have HC := Lib.hid hc'; have HB2 := Lib.hid (hc'.obj HB1.out (fun h => h)); have d0 := blkCell HB2.out 0; have f0 := blkFree HB2.out 0; have d2 := blkCell HB2.out 2; have f2 := blkFree HB2.out 2; have d4 := blkCell HB2.out 4; have f4 := blkFree HB2.out 4; have d5 := blkCell HB2.out 5; have f5 := blkFree HB2.out 5; clear hr' hc')
    go_end0
    exact ⟨rfl, crash_end hb0 hc0 H3.out H4.out H5.out k2 HB2.out HR.out hg' HC.out⟩
end Go.Proofs.YtnhdlclicjmmnaaGreat
/- TopPatched: the download's steps, as the law's walk takes them. -/
namespace Go.Proofs.YtnhdlclicjmmnaaGreat
open Go.RowKit Go.Lib Go.Shelf Go.Maps
/-- A bill, as Make made it. -/
structure MB (X hash root : ByteArray) (l : List ByteArray) : Prop where
  h0 : 1 ≤ X.size
  h1 : X.size ≤ 2001
  lv : lvT X (chunkN X.size 128) = l
  hs : sumF [X] = hash
  gd : GoodB 1 X.size 128 hash root l
/-- The download, what is had the image's. -/
def FL (w0 w : World) (f c d : Nat) (X hash root : ByteArray) (l : List ByteArray) (hv dv : List UInt8) (num last : Nat) (sec : List (List UInt8)) : Prop :=
  FS w0 w f c d 1 X.size 128 hash root l hv dv num last sec ∧ Law X l.length hv dv ∧ Fit X.size l hv dv
theorem FL.chg0 {w0 w : World} {f c d : Nat} {X hash root : ByteArray} {l : List ByteArray} {hv dv : List UInt8} {num last : Nat} {sec : List (List UInt8)} (q : FL w0 w f c d X hash root l hv dv num last sec) : Chg (fun _ => False) w0 w := q.1.2.2.2.1.chg0
theorem FL.chg {w0 w w1 : World} {f c d : Nat} {X hash root : ByteArray} {l : List ByteArray} {hv dv : List UInt8} {num last : Nat} {sec : List (List UInt8)} (q : FL w0 w f c d X hash root l hv dv num last sec) (g : Chg (fun _ => False) w w1) : FL w0 w1 f c d X hash root l hv dv num last sec := ⟨q.1.chg g, q.2⟩
theorem MB.len {X hash root : ByteArray} {l : List ByteArray} (m : MB X hash root l) : l.length = chunkN X.size 128 ∧ l.length ≤ 16 ∧ 0 < l.length := by
  have h : l.length = chunkN X.size 128 := by rw [← m.lv, lvT_len]
  have h0 := m.h0
  have h1 := m.h1
  refine ⟨h, ?_, List.length_pos_iff.2 m.gd.ne⟩
  rw [h]
  unfold chunkN
  omega
theorem FL.start {w0 w : World} {f c d : Nat} {X hash root : ByteArray} {l : List ByteArray} {num last : Nat} {sec : List (List UInt8)} (m : MB X hash root l) (q : FS w0 w f c d 1 X.size 128 hash root l (List.replicate l.length 0) (List.replicate X.size 0) num last sec) : FL w0 w f c d X hash root l (List.replicate l.length 0) (List.replicate X.size 0) num last sec :=
  ⟨q, Law.start X l.length, List.length_replicate, by rw [List.length_replicate], by rw [List.any_eq_false]; intro x hx; rw [List.eq_of_mem_replicate hx]; decide, by rw [List.length_replicate]; have := m.len; have := m.h1; omega⟩
/-- Chunk i is X's bytes from F on, up to E. -/
theorem mcut {X hash root : ByteArray} {l : List ByteArray} (m : MB X hash root l) (i : Nat) (hi : i < l.length) : ∃ F E : Nat, F = i * 128 ∧ cutHi X.size 128 i = (E : Int) ∧ (i : Int) * 128 = (F : Int) ∧ F < X.size ∧ F ≤ E ∧ E ≤ X.size ∧ X.extract F E = chB X i ∧ ((X.extract F E).size : Int) = cutHi X.size 128 i - i * 128 ∧ l[i]? = some (tleafF (X.extract F E)) ∧ (i : Int) < cntF X.size 128 := by
  obtain ⟨h1, h2, h3⟩ := m.len
  obtain ⟨E, a1, a2, a3, a4, a5, a6, a7⟩ := cut_made X i (by omega)
  rw [m.lv] at a7
  have hc : l.length = cntF X.size 128 := m.gd.all.2.1
  exact ⟨i * 128, E, rfl, a1, by omega, a2, a3, a4, a5, by rw [a5]; exact a6, by rw [a5]; exact a7, by omega⟩
theorem mcut_calls (w : World) {X hash root : ByteArray} {l : List ByteArray} (m : MB X hash root l) (A : Option Addr) (cap : Nat) (r : Option Nat) (hr : TRow w (.slice A l.length cap) r l) (i F E : Nat) (hi : i < l.length) (h1 : cutHi X.size 128 i = (E : Int)) (h2 : (i : Int) * 128 = (F : Int)) :
    Calls Tryz.prog 13 #[.agg #[.int .i64 1, .int .i64 X.size, .int .i64 128, .string hash, .string root, .slice A l.length cap], .int .i64 i] w fun e w' => e = .returned (.tuple #[.int .i64 F, .int .i64 E]) ∧ Chg (fun _ => False) w w' := by
  have hl := m.len
  have hc : l.length = cntF X.size 128 := m.gd.all.2.1
  rw [← h1, ← h2]
  exact Cut_calls w 1 X.size 128 i hash root A cap r l hr (by omega) (fun u hu => by rw [m.gd.all.1 u hu]; decide) m.gd.chk (by omega) (by omega)
theorem mfits_calls (w : World) {X hash root : ByteArray} {l : List ByteArray} (m : MB X hash root l) (A : Option Addr) (cap : Nat) (r : Option Nat) (hr : TRow w (.slice A l.length cap) r l) (i F E : Nat) (hx : ((X.extract F E).size : Int) = cutHi X.size 128 i - i * 128) (hy : l[i]? = some (tleafF (X.extract F E))) (hi : (i : Int) < cntF X.size 128) :
    Calls Tryz.prog 17 #[.agg #[.int .i64 1, .int .i64 X.size, .int .i64 128, .string hash, .string root, .slice A l.length cap], .int .i64 i, .string (X.extract F E)] w fun e w' => e = .returned (.int .i64 0) ∧ Chg (fun _ => False) w w' := by
  have hl := m.len
  exact Fits_calls w 1 X.size 128 i hash root _ _ A cap r l hr (by omega) (fun u hu => by rw [m.gd.all.1 u hu]; decide) m.gd.chk hi hy hx rfl
/-- A chunk taken. -/
theorem mtake_calls (w0 w : World) {X hash root : ByteArray} {l : List ByteArray} (m : MB X hash root l) (f c d : Nat) (hv dv : List UInt8) (num last : Nat) (sec : List (List UInt8)) (q : FL w0 w f c d X hash root l hv dv num last sec) (hn : num ≤ 1000) (i F E : Nat) (hi : i < l.length) (hF : F = i * 128) (h2 : (i : Int) * 128 = (F : Int)) (hlt : F < X.size) (he : X.extract F E = chB X i) (hx : ((X.extract F E).size : Int) = cutHi X.size 128 i - i * 128) (hy : l[i]? = some (tleafF (X.extract F E))) :
    Calls Tryz.prog 14 #[.pointer (some ⟨f, 0, none⟩), .int .i64 i, .string (X.extract F E)] w fun e w' => e = .returned (.int .i64 0) ∧ ∃ hv' dv' num' last' sec', FL w0 w' f c d X hash root l hv' dv' num' last' sec' ∧ num' ≤ num + 1 ∧ ((hv' = hv ∧ hv[i]? = some 1) ∨ hv' = hv.set i 1) ∧ KeptI w w' := by
  refine (ftake_calls w0 w f c d 1 X.size 128 hash root l hv dv num last sec i (X.extract F E) _ q.1 m.gd q.2.2 hn hy hx rfl).mono ?_
  rintro e w' ⟨h0, h, hk⟩
  rcases h with ⟨h1, h3⟩ | ⟨h1, sec', h3⟩
  · exact ⟨h0, hv, dv, num, last, sec, ⟨h3, q.2⟩, by omega, .inl ⟨rfl, h1⟩, hk⟩
  · rw [h2, Int.toNat_natCast] at h3
    refine ⟨h0, _, _, _, _, sec', ⟨h3, ?_, q.2.2.take i F _⟩, Nat.le_refl _, .inr rfl, hk⟩
    rw [he]
    subst hF
    exact q.2.1.take i hlt hi
/-- The power lost: the download opened anew. -/
theorem mcrash_calls (w0 w : World) {X hash root : ByteArray} {l : List ByteArray} (f c d : Nat) (hv dv : List UInt8) (num last : Nat) (sec : List (List UInt8)) (q : FL w0 w f c d X hash root l hv dv num last sec) :
    Calls Tryz.prog 15 #[.pointer (some ⟨d, 0, none⟩), .agg #[.slice none 0 0]] w fun e w' => e = .returned (.tuple #[]) ∧ Dv w0 w' d sec sec [] := by
  refine (Crash_calls w0 w d sec sec q.1.2.2.2.1 (by rw [q.1.2.2.2.2.1]; decide) (by rw [q.1.2.2.2.2.1]; decide)).mono ?_
  rintro e w' ⟨h0, h1, _⟩
  exact ⟨h0, h1⟩
theorem mopen_calls (w0 w w1 : World) {X hash root : ByteArray} {l : List ByteArray} (m : MB X hash root l) (f c d : Nat) (hv dv : List UInt8) (num last : Nat) (sec : List (List UInt8)) (q : FL w0 w f c d X hash root l hv dv num last sec) (hd : Dv w0 w1 d sec sec []) :
    Calls Tryz.prog 11 #[.pointer (some ⟨d, 0, none⟩), .int .i64 0, .int .i64 100] w1 fun e w' => ∃ f c, e = .returned (.tuple #[.pointer (some ⟨f, 0, none⟩), .int .i64 0]) ∧ FL w0 w' f c d X hash root l hv dv num last sec := by
  refine (fopenD_calls w0 w1 d num last 1 X.size 128 hash root l hv dv sec hd q.1.2.2.2.2 m.gd q.2.2).mono ?_
  rintro e w' ⟨f, c, h0, h1⟩
  exact ⟨f, c, h0, h1, q.2⟩
/-- All is had: the image. -/
theorem mimage_calls (w0 w : World) {X hash root : ByteArray} {l : List ByteArray} (m : MB X hash root l) (f c d : Nat) (hv dv : List UInt8) (num last : Nat) (sec : List (List UInt8)) (q : FL w0 w f c d X hash root l hv dv num last sec) (ha : Left hv l.length []) :
    Calls Tryz.prog 18 #[.pointer (some ⟨f, 0, none⟩)] w fun e w' => e = .returned (.tuple #[.string X, .int .i64 0]) ∧ Chg (fun _ => False) w w' := by
  obtain ⟨⟨h0, ⟨A, cap, r, gh, ch, gd, cd, s1, s2, s3, s4, s5, s6, s7, s8, s9⟩, _⟩, law, fit⟩ := q
  have hl := m.len
  have e1 := fit.hl
  have all : ∀ q, q < l.length → hv[q]? = some 1 := fun q hq => (ha q hq).resolve_right (by simp)
  have hd := law.done (fun j hj => by rw [hl.1]; exact (chunkN_lt (by decide)).2 (by omega)) all
  have hX : (⟨dv.toArray⟩ : ByteArray) = X := by rw [hd]
  have C := Image_calls w f _ 1 X.size 128 hash root A cap r l gh ch gd cd hv dv s1 s4 s5 s2 (by omega) (fun u hu => by rw [m.gd.all.1 u hu]; decide) m.gd.chk (by omega) (by omega) (miss_nil (fun q hq => all q (by omega))) (by rw [hd]; exact congrArg Int.ofNat (bsize X)) (by rw [hX]; exact m.hs)
  rw [hX] at C
  exact C
/-- What is missing. -/
theorem mmiss_calls (w0 w : World) {X hash root : ByteArray} {l : List ByteArray} (m : MB X hash root l) (f c d : Nat) (hv dv : List UInt8) (num last : Nat) (sec : List (List UInt8)) (q : FL w0 w f c d X hash root l hv dv num last sec) :
    Calls Tryz.prog 16 #[.pointer (some ⟨f, 0, none⟩)] w fun e w' => ∃ (M : List Nat) (A : Option Addr) (cp : Nat) (r : Option Nat), e = .returned (.slice A M.length cp) ∧ IRow w' (.slice A M.length cp) r M ∧ Chg (fun _ => False) w w' ∧ Left hv l.length M ∧ M.length ≤ 16 ∧ ∀ j i : Nat, M[j]? = some i → i < l.length := by
  obtain ⟨⟨h0, ⟨A, cap, r, gh, ch, gd, cd, s1, s2, s3, s4, s5, s6, s7, s8, s9⟩, _⟩, law, fit⟩ := q
  have hl := m.len
  have e1 := fit.hl
  refine (Missing_calls w f gh ch hv s4 (blkCell s1 7) (by omega)).mono ?_
  rintro e w' ⟨v, h0, A, cp, r, h1, h2, h3, h4⟩
  subst h1
  exact ⟨missT hv hv.length, A, cp, r, h0, h2, h4, fun q hq => miss_mem fit.ok (by omega), by have := missT_len hv hv.length; omega, fun j i hj => by rw [← e1]; exact miss_lt hj⟩
theorem KeptI.row {w w1 : World} {v : Value} {r : Option Nat} {M : List Nat} (h : IRow w v r M) (k : KeptI w w1) : IRow w1 v r M := SRow.step h fun b hb => by
  obtain ⟨_, cs, hc⟩ := h.lt hb
  rw [hc]
  exact k _ _ _ hc
end Go.Proofs.YtnhdlclicjmmnaaGreat
