/- TopPatched: the sorted names of a content, by the shelf's contracts. -/
import Derived.Test.YtnhdlclicjmmnaaGreatPfA
import Derived.Test.YtnhdlclicjmmnaaGreatTjR
import Derived.Test.YtnhdlclicjmmnaaGreatShelf
import Derived.TacticsIn
import Derived.TacticsInMore
import Derived.Test.YtnhdlclicjmmnaaGreatShT
import Derived.Shelf.Strings.Builder1
import Derived.Test.YtnhdlclicjmmnaaGreatHb
import Derived.StillTail
namespace Go.Proofs
open Go.RowKit Go.Maps Go.Sort Go.Shelf
theorem Tryz.sorts108 (m : Nat) : AnyZ.SortsIn Tryz.prog Tryz.sorted108_ren Fence.wide m :=
  ⟨fun blk off cap ss W hH hblk hsz => callsIn_wide.2 (AnyM.slices_Sort_string Tryz.sort116 blk off cap ss W hH hblk hsz),
   fun p cap W => callsIn_wide.2 (AnyM.slices_Sort_string_none Tryz.sort116 p cap W)⟩

theorem Tryz.maps_Keys_109 (mb : Option Nat) (W : World) : CallsIn Fence.wide 5 Tryz.prog 109 #[.map mb] W fun e w' => e = .returned (.func (.func 117) #[] #[.pointer (some ⟨W.heap.size, 0, none⟩)]) ∧ w' = W.alloc (.cells #[.map mb] 113) :=
  AnyZ.keys_in Tryz.keys109 Fence.wide 5 trivial rfl mb W

set_option maxHeartbeats 1000000 in
theorem Tryz.slices_Sorted_keys_108_109 {H : Type} (b nn : Nat) (D0 : DataW H) (R : Value → Option (DataW H × List MemPlace)) (w : World) (hown : w.ownsMap Tryz.prog 9 R b nn D0) (hmax : Maps.size D0 ≤ maxLen) (hbytes : Maps.size D0 * 16 ≤ 140737488355328) :
    CallsIn Fence.wide 5 Tryz.prog 108 #[.func (.func 117) #[] #[.pointer (some ⟨w.heap.size, 0, none⟩)]] (w.alloc (.cells #[.map (some b)] 113)) fun e w' => ∃ (v : Value) (ss : List (List UInt8)), e = .returned v ∧ ss.Perm (strKeys D0) ∧
      w'.ownsRow (w.alloc (.cells #[.map (some b)] 113)).heap.size 9 1 v ss.length ((ss.mergeSort (fun x y => decide (x ≤ y))).map encStr) ∧ (v = .slice none 0 0 ↔ ss = []) ∧ Below (w.alloc (.cells #[.map (some b)] 113)).heap.size (w.alloc (.cells #[.map (some b)] 113)) w' := by
  have hbl := hown.lt
  have hseq : SeqGives Fence.wide 2 Tryz.prog 117 #[.pointer (some ⟨w.heap.size, 0, none⟩)] encStr (fun ss => ss.Perm (strKeys D0)) (Maps.size D0) (w.alloc (.cells #[.map (some b)] 113)) :=
    AnyZ.keys_gives (ρ := Tryz.keys109_ren) { Tryz.keys109 with } Fence.wide _ trivial rfl (by omega) w.heap.size b nn D0 _ (by simp) (by simp) (by
      obtain ⟨es, clock, hb, Ft, hs, hD⟩ := hown
      exact ⟨es, clock, (Below.heap_alloc _ _ b hbl).trans hb, Ft, hs, hD⟩)
  exact AnyZ.sorted_in Tryz.sorted108 Fence.wide 5 trivial trivial trivial trivial rfl (by omega) (Tryz.sorts108 _) (enters_of Tryz.func116 (by kernel_rfl) rfl) 117 #[.pointer (some ⟨w.heap.size, 0, none⟩)] trivial (enters_of Tryz.func117 (by kernel_rfl) rfl) _ _ hmax hbytes _ hseq

set_option maxHeartbeats 1000000 in
theorem Tryz.slices_Sorted_keys_nil_108_109 (w : World) :
    CallsIn Fence.wide 5 Tryz.prog 108 #[.func (.func 117) #[] #[.pointer (some ⟨w.heap.size, 0, none⟩)]] (w.alloc (.cells #[.map none] 113)) fun e w' => ∃ (v : Value) (ss : List (List UInt8)), e = .returned v ∧ ss = [] ∧
      w'.ownsRow (w.alloc (.cells #[.map none] 113)).heap.size 9 1 v ss.length ((ss.mergeSort (fun x y => decide (x ≤ y))).map encStr) ∧ (v = .slice none 0 0 ↔ ss = []) ∧ Below (w.alloc (.cells #[.map none] 113)).heap.size (w.alloc (.cells #[.map none] 113)) w' := by
  have hseq : SeqGives Fence.wide 2 Tryz.prog 117 #[.pointer (some ⟨w.heap.size, 0, none⟩)] encStr (fun ss : List (List UInt8) => ss = []) 0 (w.alloc (.cells #[.map none] 113)) :=
    AnyZ.keys_gives_nil (ρ := Tryz.keys109_ren) { Tryz.keys109 with } Fence.wide _ trivial rfl w.heap.size _ (by simp) (by simp)
  exact AnyZ.sorted_in Tryz.sorted108 Fence.wide 5 trivial trivial trivial trivial rfl (by omega) (Tryz.sorts108 _) (enters_of Tryz.func116 (by kernel_rfl) rfl) 117 #[.pointer (some ⟨w.heap.size, 0, none⟩)] trivial (enters_of Tryz.func117 (by kernel_rfl) rfl) _ 0 (Nat.zero_le _) (by omega) _ hseq

end Go.Proofs
namespace Go.Proofs.YtnhdlclicjmmnaaGreat
open Go.RowKit Go.Lib Go.Shelf Go.Maps Go.Sort
def keysM (M : Cont) : List ByteArray := M.map (·.1)
/-- The names stand in their order. -/
def Rising (M : Cont) : Prop := (M.map fun p => p.1.data.toList).Pairwise (fun a b => a ≤ b)
theorem names_sorted (M : Cont) (hr : Rising M) (ss : List (List UInt8)) (h : ss.Perm (strKeys (contD M))) : (ss.mergeSort (fun x y => decide (x ≤ y))).map encStr = (keysM M).map Value.string := by
  have e1 : ss.mergeSort (fun x y => decide (x ≤ y)) = (strKeys (contD M)).mergeSort (fun x y => decide (x ≤ y)) := mergeSort_of_perm h
  have e2 : strKeys (contD M) = M.map fun p => p.1.data.toList := by
    simp [strKeys, contD, contE, Go.strOf, List.map_map, Function.comp_def]
  rw [e1, e2, List.mergeSort_of_pairwise (hr.imp (fun h => by simpa using h)), List.map_map, keysM, List.map_map]
  refine List.map_congr_left fun p _ => ?_
  simp [encStr]
theorem Names0_calls (w : World) (m : Nat) (M : Cont) (h : MapAt w m M) (hr : Rising M) (hl : M.length ≤ 1000) :
    Calls Tryz.prog 91 #[.map (some m)] w fun e w' => ∃ A c r, e = .returned (.slice A M.length c) ∧ TRow w' (.slice A M.length c) r (keysM M) ∧ (∀ k, r = some k → w.heap.size ≤ k) ∧ Chg (fun _ => False) w w' := by
  have hmax : Maps.size (contD M) ≤ maxLen := by
    rw [show Maps.size (contD M) = M.length from List.length_map _]
    simp only [maxLen]
    omega
  have hbytes : Maps.size (contD M) * 16 ≤ 140737488355328 := by
    rw [show Maps.size (contD M) = M.length from List.length_map _]
    omega
  refine (callsIn_wide (n := 6)).1 ?_
  have hfK : Fence.wide.fn 109 := trivial
  have hfS : Fence.wide.fn 108 := trivial
  refine callsIn_of_wp Tryz.func91 rfl trivial ?_ rfl
  simp only [Tryz.ntmps91, List.size_toArray, List.length_cons, List.length_nil, Nat.reduceAdd, Nat.reduceSub, Array.replicate_succ, Array.replicate_zero, List.push_toArray, List.append_toArray, List.nil_append, List.cons_append]
  gi_wp2_with (first
    | (gi_at_call 109; refine (Tryz.maps_Keys_109 _ _).mono ?_; rintro e w' ⟨rfl, rfl⟩)
    | (gi_at_call 108; refine (Tryz.slices_Sorted_keys_108_109 m M.length (contD M) textElem w h hmax hbytes).mono ?_; rintro e w' ⟨v, ss, rfl, hS, hrow, hnil, hb⟩))
  go_ret
  have hn := names_sorted M hr ss hS
  have hlen : ss.length = M.length := by
    have := hS.length_eq
    rw [this]
    simp [strKeys, contD]
  rw [hn, hlen] at hrow
  have hc : Chg (fun _ => False) w w' := ((Chg.refl _ w).alloc _).trans (Chg.of_below hb _) (fun _ h => .inl h)
  have hkl : (keysM M).length = M.length := List.length_map _
  have hfl : (keysM M).flatMap encT = (keysM M).map Value.string := by
    induction keysM M with
    | nil => rfl
    | cons x l ih => simp [ih, encT]
  rcases hrow.2 with ⟨rfl, h0⟩ | ⟨g, cap, cur, rfl, hg, h3⟩
  · obtain rfl : M = [] := List.eq_nil_of_length_eq_zero h0
    exact ⟨none, 0, none, rfl, SRow.nil _, (fun k (e : none = some k) => nomatch e), hc⟩
  · refine ⟨some ⟨g, 0, none⟩, cap, some g, rfl, ⟨?_, rfl⟩, fun k e => ?_, hc⟩
    · rw [hfl, hkl]
      exact ⟨hrow.1, .inr ⟨g, cap, cur, rfl, Nat.zero_le _, h3⟩⟩
    · injection e with e
      rw [World.size_alloc] at hg
      omega
end Go.Proofs.YtnhdlclicjmmnaaGreat
/- strings.Builder: copyCheck and WriteString, as the one-time signatures use them. -/
namespace Go.Proofs.YtnhdlclicjmmnaaGreat
open Go.RowKit
theorem shape_of {w : World} {b : Nat} {c : Array Value} {T : TypeId} (h : w.heap[b]? = some (.cells c T (0, 0))) : w.shape? b = some (T, c.size) := by
  simp [World.shape?, h]
set_option maxRecDepth 100000 in
theorem copyFresh (w : World) (b : Nat) (v : Value) (h : w.heap[b]? = some (.cells #[.pointer none, v] 71 (0, 0))) :
    Calls Tryz.prog 81 #[.pointer (some ⟨b, 0, none⟩)] w fun e w' => e = .returned (.tuple #[]) ∧ w' = w.setCell ⟨b, 0, none⟩ (.pointer (some ⟨b, 0, none⟩)) := by
  have hc : w.cell? ⟨b, 0, none⟩ = some (.pointer none) := blkCell h 0
  have hf := blkFree h 0
  have hsh := shape_of h
  obtain ⟨j, hj, hjs⟩ := Option.map_eq_some_iff.1 (show (Tryz.prog.info? 71).map (·.size) = some 2 from by kernel_rfl)
  have m1 := Lib.run_to_unsafe w ⟨b, 0, none⟩ Tryz.underlying69 Tryz.underlying155 hj (by rw [hjs]; decide) hsh (by show 0 < 2; decide)
  have m2 := run_callFunc_extern (P := Tryz.prog) Tryz.func101 (by kernel_rfl) (by kernel_rfl) (by kernel_rfl) (e := Extern.AbiNoEscape.same) (by kernel_rfl) #[.pointer (some ⟨b, 0, none⟩)] w
  rw [Lib.run_noEscape] at m2
  have m3 := Lib.run_from_unsafe w ⟨b, 0, none⟩ Tryz.underlying155 Tryz.underlying69 hj hsh (by kernel_rfl)
  clear h hjs hj
  go_enter Tryz.func81, Tryz.ntmps81
  go_wp2_with fail
  go_end0
  exact ⟨rfl, rfl⟩
set_option maxRecDepth 100000 in
theorem copyUsed (w : World) (b : Nat) (v : Value) (h : w.heap[b]? = some (.cells #[.pointer (some ⟨b, 0, none⟩), v] 71 (0, 0))) :
    Calls Tryz.prog 81 #[.pointer (some ⟨b, 0, none⟩)] w fun e w' => e = .returned (.tuple #[]) ∧ w' = w := by
  have hc : w.cell? ⟨b, 0, none⟩ = some (.pointer (some ⟨b, 0, none⟩)) := blkCell h 0
  obtain ⟨j, hj, _⟩ := Option.map_eq_some_iff.1 (show (Tryz.prog.info? 71).map (·.size) = some 2 from by kernel_rfl)
  have m1 := Lib.run_neq_ptr_same w ⟨b, 0, none⟩ Tryz.underlying69 hj
  go_enter Tryz.func81, Tryz.ntmps81
  go_wp2_with fail
  go_end0
  exact ⟨rfl, rfl⟩
/-- A builder of one's own, laid behind w0. -/
def Bd (w0 w : World) (b : Nat) (bs : List UInt8) : Prop :=
  w0.heap.size ≤ b ∧ ∃ p v r, (p = .pointer none ∨ p = .pointer (some ⟨b, 0, none⟩)) ∧ w.heap[b]? = some (.cells #[p, v] 71 (0, 0)) ∧ Row w 5 v r bs ∧ (∀ k, r = some k → w0.heap.size ≤ k) ∧ Chg (fun _ => False) w0 w
theorem copy_calls (w0 w : World) (b : Nat) (bs : List UInt8) (h : Bd w0 w b bs) :
    Calls Tryz.prog 81 #[.pointer (some ⟨b, 0, none⟩)] w fun e w' => e = .returned (.tuple #[]) ∧ w0.heap.size ≤ b ∧ ∃ v r, w'.heap[b]? = some (.cells #[.pointer (some ⟨b, 0, none⟩), v] 71 (0, 0)) ∧ Row w' 5 v r bs ∧ (∀ k, r = some k → w0.heap.size ≤ k) ∧ Chg (fun _ => False) w0 w' := by
  obtain ⟨hb, p, v, r, rfl | rfl, hc, hr, hk, hg⟩ := h
  · refine (copyFresh w b v hc).mono ?_
    rintro e w' ⟨rfl, rfl⟩
    have g1 : Chg (fun k => k = b) w (w.setCell ⟨b, 0, none⟩ (.pointer (some ⟨b, 0, none⟩))) := (Chg.refl (fun k => k = b) w).setCell (p := ⟨b, 0, none⟩) (.inl rfl) _
    refine ⟨rfl, hb, v, r, blkSet hc 0 _, hr.chg g1 (fun k e hkb => ?_), hk, hg.setCell (.inr hb) _⟩
    subst hkb
    exact hr.ne hc (by decide) e
  · refine (copyUsed w b v hc).mono ?_
    rintro e w' ⟨rfl, rfl⟩
    exact ⟨rfl, hb, v, r, hc, hr, hk, hg⟩
set_option maxRecDepth 100000 in
theorem write_calls (w0 w : World) (b : Nat) (bs : List UInt8) (s : ByteArray) (h : Bd w0 w b bs) (hl : bs.length + s.size ≤ 140737488355328) :
    Calls Tryz.prog 54 #[.pointer (some ⟨b, 0, none⟩), .string s] w fun e w' => (∃ u, e = .returned u) ∧ Bd w0 w' b (bs ++ s.data.toList) := by
  have H := Lib.hid h
  clear h
  go_enter Tryz.func54, Tryz.ntmps54
  go_wp2_with fail
  refine (copy_calls w0 w b bs H.out).mono ?_
  rintro e w1 ⟨rfl, hb, v, r, hc, hr, hk, hg⟩
  have HC := Lib.hid hc
  have HK := Lib.hid hk
  have HG := Lib.hid hg
  obtain ⟨A0, m0, q0, rfl⟩ := hr.slice
  have c1 : w1.cell? ⟨b, 1, none⟩ = some (.slice A0 m0 q0) := blkCell hc 1
  have NE := Lib.hid (hr.ne hc (by decide))
  have HR := Lib.hid hr
  clear hc hk hg hr
  go_wp2_with (at_builtin; refine wpList_append_str w1 rfl (.tmp 12) (.tmp 13) 22 9 5 rfl Tryz.underlying22 Tryz.underlying9 info_u8 (.slice A0 m0 q0) r bs s rfl rfl HR.out hl ?_; intro A3 n3 c3 w3 r3 hrow hnext hgrow; have HROW := Lib.hid hrow; have HNEXT := Lib.hid hnext; have HGROW := Lib.hid hgrow; have HB := Lib.hid ((hgrow.block b (blkLt HC.out) (fun e => NE.out e.symm)).trans HC.out); have d1 : w3.cell? ⟨b, 1, none⟩ = some (.slice A0 m0 q0) := blkCell HB.out 1; have f1 := blkFree HB.out 1; clear hrow hnext hgrow)
  go_ret2
  have g3 : Chg (fun k => r = some k) w1 w3 := (Chg.refl _ w1).grown HGROW.out (fun _ hk => .inl hk)
  have NE3 : r3 ≠ some b := HROW.out.ne HB.out (by decide)
  have g4 : Chg (fun k => k = b) w3 (w3.setCell ⟨b, 1, none⟩ (.slice A3 n3 c3)) := (Chg.refl (fun k => k = b) w3).setCell (p := ⟨b, 1, none⟩) (.inl rfl) _
  refine ⟨⟨_, rfl⟩, hb, _, .slice A3 n3 c3, r3, .inr rfl, blkSet HB.out 1 _, HROW.out.chg g4 (fun k e hkb => NE3 (hkb ▸ e)), fun k e => ?_, ((HG.out.trans g3 (fun k hk => .inr (HK.out k hk))).setCell (p := ⟨b, 1, none⟩) (.inr hb) _)⟩
  rcases HNEXT.out with h1 | ⟨k', h1, h2⟩
  · exact HK.out k (h1 ▸ e)
  · rw [h1] at e
    obtain rfl : k' = k := by injection e
    exact Nat.le_trans HG.out.size h2
end Go.Proofs.YtnhdlclicjmmnaaGreat
/- A region that draws its order: all of its operations but the last ones are quiet (they may draw), the last ones stand in one order: one walk serves every order. (Put together of the library's laws on quiet regions and on regions with a tail.) -/
namespace Go.Proofs.YtnhdlclicjmmnaaGreat
open Go
section
variable {P : Program} {ops : Array Oper} {md : Region.Mode} {C : World → Prop}
/-- Whatever order is picked, the first n operations come up alone, quietly; behind f of them L holds. -/
def headQ (P : Program) (md : Region.Mode) (ops : Array Oper) (C : World → Prop) (n : Nat) (L : Array Bool → Act → Prop) : Nat → Array Bool → Act → Prop
  | 0, listed, a => L listed a
  | f + 1, listed, a => Region.ready md ops listed ≠ [] ∧ ∀ i ∈ Region.ready md ops listed, i < n ∧ qOp P ops C i (headQ P md ops C n L f (listed.setIfInBounds i true)) a
theorem headQ_any {n g : Nat} {L : Array Bool → Act → Prop} {Q' : Exit → Act → World → Prop} (hL : ∀ listed a w, C w → L listed a → wpAny P md ops Q' g listed a w) :
    ∀ (f : Nat) (listed : Array Bool) (a : Act) (w : World), C w → headQ P md ops C n L f listed a → wpAny P md ops Q' (f + g) listed a w
  | 0, listed, a, w, hw, h => by
    rw [Nat.zero_add]
    exact hL listed a w hw h
  | f + 1, listed, a, w, hw, h => by
    rw [show f + 1 + g = (f + g) + 1 from by omega]
    exact ⟨fun h0 => absurd h0 h.1, fun i hi => wpOp_of_qOp hw (fun a' w' hw' h' => headQ_any hL f _ a' w' hw' h') (h.2 i hi).2⟩
/-- An operation that may come up now may be taken first. -/
theorem headQ_first {n i : Nat} {oi : Oper} {v : Value} {L : Array Bool → Act → Prop} (hi : ops[i]? = some oi) (hsel : ∀ (j : Nat) (o : Oper) cs b, ops[j]? = some o → o.op ≠ .select cs b)
    (hs : Region.sinkB md ops n = true) (hc : Region.chainB md ops n = true) (hn : n < ops.size) (hin : i < n) (hdone : ∀ listed a, L listed a → ∀ j ∈ Region.ready md ops listed, n ≤ j) (f : Nat) :
    ∀ (listed : Array Bool) (a : Act), HeadInv md ops n listed →
      (∀ j oj, ops[j]? = some oj → j ≠ i → listed.getD j true = false → (∀ e ∈ oj.after, Region.binds md e = true → e.on ≠ i) → oi.apart ops oj = true) →
      i ∈ Region.ready md ops listed → YieldsIn P ops C oi v a → headQ P md ops C n L f (listed.setIfInBounds i true) (a.put oi.dst v) → headQ P md ops C n L (f + 1) listed a := by
  induction f with
  | zero =>
    intro listed a inv _ hr hy H
    have hun := (mem_ready.1 hr).1
    refine ⟨fun h0 => absurd hr (by rw [h0]; exact List.not_mem_nil), fun j hj => ?_⟩
    have hjn : j < n := Nat.lt_of_not_le fun hle => tail_waits hs hc hn inv _ i rfl hin hun j hle hj
    refine ⟨hjn, ?_⟩
    by_cases hji : j = i
    · subst hji
      exact hy.qOp hi H
    · have hge := hdone _ _ H j (ready_mono hj hji)
      omega
  | succ f ih =>
    intro listed a inv hfree hr hy H
    have hun := (mem_ready.1 hr).1
    refine ⟨fun h0 => absurd hr (by rw [h0]; exact List.not_mem_nil), fun j hj => ?_⟩
    have hjn : j < n := Nat.lt_of_not_le fun hle => tail_waits hs hc hn inv _ i rfl hin hun j hle hj
    refine ⟨hjn, ?_⟩
    by_cases hji : j = i
    · subst hji
      exact hy.qOp hi H
    · have hH := (H.2 j (ready_mono hj hji)).2
      obtain ⟨hjun, oj, hoj, hall⟩ := mem_ready.1 hj
      have hnot : ∀ e ∈ oj.after, Region.binds md e = true → e.on ≠ i := by
        intro e he hb heq
        have hl := hall e he hb
        rw [heq, getD_both hun] at hl
        cases hl
      have hput := qOp_put hoj (hfree j oj hoj hji hjun hnot) (fun cs b => hsel i oi cs b hi) (fun cs b => hsel j oj cs b hoj) hy hH
      have hfree' : ∀ k ok, ops[k]? = some ok → k ≠ i → (listed.setIfInBounds j true).getD k true = false → (∀ e ∈ ok.after, Region.binds md e = true → e.on ≠ i) → oi.apart ops ok = true := by
        intro k ok hk hki hku hno
        refine hfree k ok hk hki ?_ hno
        by_cases hjk : j = k
        · subst hjk; exact hjun
        · rwa [getD_set_ne true hjk] at hku
      refine qOp_mono (fun a' h3 => ih (listed.setIfInBounds j true) a' (inv.set hj hjn) hfree' (ready_mono hr (Ne.symm hji)) h3.1 ?_) hput
      rw [Array.setIfInBounds_comm _ _ hji]
      exact h3.2
theorem headQ_lex {n g : Nat} {Lq : Act → Prop} (hsel : Region.noSelect ops = true) (hs : Region.sinkB md ops n = true) (hc : Region.chainB md ops n = true) (hn : n < ops.size) :
    ∀ (l : List Oper) (k : Nat) (listed : Array Bool) (a : Act), (∀ j, j < l.length → l[j]? = ops[k + j]?) → k + l.length = n → HeadInv md ops n listed →
    Region.lexHead md ops g l.length k listed = true → wpQuiet P ops C Lq l a → headQ P md ops C n (fun listed' a' => Region.seqB md ops g n listed' = true ∧ Lq a') l.length listed a
  | [], k, listed, a, _, hk, _, hB, h => by
    obtain rfl : k = n := by simpa using hk
    exact ⟨by simpa [Region.lexHead] using hB, h⟩
  | o :: l, k, listed, a, hl, hk, inv, hB, h => by
    rw [List.length_cons] at hk
    have h0 : ops[k]? = some o := by simpa using (hl 0 (by simp)).symm
    simp only [List.length_cons, Region.lexHead, Bool.and_eq_true] at hB
    obtain ⟨⟨hr, hf⟩, hB'⟩ := hB
    have hkn : k < n := by omega
    have hr' : k ∈ Region.ready md ops listed := by simpa using hr
    have hq : qOp P ops C k (wpQuiet P ops C Lq l) a := by
      unfold qOp
      simp only [h0]
      exact h
    obtain ⟨v, hy, hK⟩ := yieldsIn_of_qOp h0 hq
    have hrest := headQ_lex hsel hs hc hn l (k + 1) (listed.setIfInBounds k true) (a.put o.dst v) (fun j hj => by have := hl (j + 1) (by simp; omega); simpa [Nat.add_assoc, Nat.add_comm 1 j] using this) (by omega) (inv.set hr' hkn) hB' hK
    exact headQ_first h0 (Region.noSelect_spec hsel) hs hc hn hkn (fun listed' a' hL => seqB_ready hL.1) l.length listed a inv (Region.free_spec h0 hf) hr' hy hrest
/-- One walk: the first n operations quietly, the others as they stand. -/
theorem region_quiet_tail {id : Nat} {Q : Exit → Act → World → Prop} {a : Act} {w : World} {l : List Oper} (n : Nat) (hm : P.follows .mixedOrders = true) (hB : Region.lexTailB .any l.toArray n = true)
    (h : wpQuiet P l.toArray (fun w' => ∃ k, w' = w.drewN k) (fun a' => ∀ w', (∃ k, w' = w.drewN k) → wpList P l.toArray Q (l.drop n) a' w') (l.take n) a) : (Code.region id l.toArray true).wp P Q a w := by
  simp only [Region.lexTailB, Bool.and_eq_true, decide_eq_true_eq] at hB
  obtain ⟨⟨⟨⟨hsel, hn⟩, hs⟩, hc⟩, hlex⟩ := hB
  have hn' : n < l.length := by simpa using hn
  have htl : (l.take n).length = n := by rw [List.length_take]; omega
  have hdl : (l.drop n).length = l.toArray.size - n := by simp
  have inv0 : HeadInv .any l.toArray n (Array.replicate l.toArray.size false) :=
    ⟨by simp, fun j oj _ hl => absurd hl (by rw [getD_replicate_false]; exact Bool.false_ne_true), fun t _ ht => getD_in (by simpa using ht) (getD_replicate_false _ _)⟩
  have H := headQ_lex (P := P) (C := fun w' => ∃ k, w' = w.drewN k) (md := .any) (g := l.toArray.size - n) hsel hs hc hn (l.take n) 0 _ a (fun j hj => by
    rw [htl] at hj
    simp [hj]) (by simpa using htl) inv0 (by rw [htl]; exact hlex) h
  refine wp_region_any hm ?_
  have H2 := headQ_any (Q' := Q) (g := l.toArray.size - n) (fun listed a' w' hw' hL => by
    have h1 := wpAny_of_seq (P := P) (md := .any) (Q' := Q) (l.drop n) n listed a' w' (fun j => by simp [List.getElem?_drop]) (by rw [hdl]; exact hL.1) (hL.2 w' hw')
    rwa [hdl] at h1) _ _ _ { w with drawn := w.drawn + 1 } ⟨1, rfl⟩ H
  rwa [htl, show n + (l.toArray.size - n) = l.toArray.size from by omega] at H2
end
end Go.Proofs.YtnhdlclicjmmnaaGreat
