/- Turn of both networks. -/
import Derived.Test.YtjlkflbkejpcaaaTake
import Derived.Test.YtjlkflbkejpcaaaRd
namespace Go.Proofs.Ytjlkflbkejpcaaa
open Go.RowKit

/-- A string's bytes as numbers. -/
def numsOf (s : ByteArray) : List Int := s.data.toList.map fun b => (b.toNat : Int)
theorem numsOf_len (s : ByteArray) : (numsOf s).length = s.size := by
  unfold numsOf
  rw [List.length_map, bsize]
theorem numsOf_get (s : ByteArray) (j : Nat) (hj : j < s.size) : (numsOf s).getD j 0 = ((s.data.toList.getD j 0).toNat : Int) := by
  have h1 : j < s.data.toList.length := by rw [bsize]; exact hj
  simp only [numsOf, List.getD_eq_getElem?_getD, List.getElem?_map, List.getElem?_eq_getElem h1, Option.map_some, Option.getD_some]
theorem bytesFree (w : World) (e : TypeId) (s : ByteArray) (j : Nat) (hj : j < s.size) : (Lib.bytesWorld w e s).frozen? ⟨w.heap.size, j, none⟩ = false := by
  have h1 : s.size ≤ (Lib.bytesCells w e s).size := by
    simp [Lib.bytesCells]
  simp [World.frozen?, Lib.bytesWorld_at_new]
  omega
theorem conv_turn (W : World) (s : ByteArray) (a : Nat) (ha : a < s.size) (x : Int) (cap n : Nat) :
    (convert 24 9 (.slice (some ⟨W.heap.size, 0, none⟩) s.size cap)).run Try.prog (((Lib.bytesWorld W 5 s).setCell ⟨W.heap.size, a, none⟩ (.int .u8 x)).drewN n) = .ok (.string (strOfNums ((numsOf s).set a x))) (((Lib.bytesWorld W 5 s).setCell ⟨W.heap.size, a, none⟩ (.int .u8 x)).drewN n) := by
  refine run_convert_bytes_arg _ 24 5 Try.underlying24 Try.underlying5 W.heap.size 0 s.size cap _ (by rw [List.length_set, numsOf_len]) (fun i hi => ?_) 9 Try.underlying9
  rw [Nat.zero_add, World.cell?_drewN]
  by_cases h : a = i
  · subst h
    rw [World.cell?_setCell_same _ _ _ (Lib.bytesWorld_cell W 5 s a hi)]
    simp only [List.getD_eq_getElem?_getD]
    rw [List.getElem?_set_self (by rw [numsOf_len]; exact hi)]
    rfl
  · rw [World.cell?_setCell_other _ _ _ _ (fun e => h (by injection e)), Lib.bytesWorld_cell W 5 s i hi, ← numsOf_get s i hi]
    simp only [List.getD_eq_getElem?_getD]
    rw [List.getElem?_set_ne h]
theorem conv_turn1 (W : World) (s : ByteArray) (a : Nat) (ha : a < s.size) (x : Int) (cap : Nat) :
    (convert 24 9 (.slice (some ⟨W.heap.size, 0, none⟩) s.size cap)).run Try.prog ((Lib.bytesWorld W 5 s).setCell ⟨W.heap.size, a, none⟩ (.int .u8 x)).drew = .ok (.string (strOfNums ((numsOf s).set a x))) ((Lib.bytesWorld W 5 s).setCell ⟨W.heap.size, a, none⟩ (.int .u8 x)).drew :=
  conv_turn W s a ha x cap 1
theorem conv_moved (W W' : World) (s : ByteArray) (a : Nat) (ha : a < s.size) (x : Int) (cap : Nat) (n : Nat) (hn : W.heap.size = n) (h : W'.heap[n]? = ((Lib.bytesWorld W 5 s).setCell ⟨n, a, none⟩ (.int .u8 x)).heap[n]?) :
    (convert 24 9 (.slice (some ⟨n, 0, none⟩) s.size cap)).run Try.prog W' = .ok (.string (strOfNums ((numsOf s).set a x))) W' := by
  subst hn
  refine run_convert_bytes_arg _ 24 5 Try.underlying24 Try.underlying5 W.heap.size 0 s.size cap _ (by rw [List.length_set, numsOf_len]) (fun i hi => ?_) 9 Try.underlying9
  rw [Nat.zero_add, World.cell?_of_block (a := ⟨W.heap.size, i, none⟩) h]
  by_cases h : a = i
  · subst h
    rw [World.cell?_setCell_same _ _ _ (Lib.bytesWorld_cell W 5 s a hi)]
    simp only [List.getD_eq_getElem?_getD]
    rw [List.getElem?_set_self (by rw [numsOf_len]; exact hi)]
    rfl
  · rw [World.cell?_setCell_other _ _ _ _ (fun e => h (by injection e)), Lib.bytesWorld_cell W 5 s i hi, ← numsOf_get s i hi]
    simp only [List.getD_eq_getElem?_getD]
    rw [List.getElem?_set_ne h]
theorem NetAt.turned {T : TypeId} {w : World} {b g c : Nat} {r : Option Nat} {l : List Pk} {lost : Int} (hv : w.heap[b]? = some (.cells #[.slice (some ⟨g, 0, none⟩) l.length c, .int .i64 lost] T (0, 0)))
    (hrow : PRow w (.slice (some ⟨g, 0, none⟩) l.length c) r l) (hgb : b ≠ g) (j : Nat) (p : Pk) (hj : l[j]? = some p) (t : ByteArray) : NetAt T (w.setCell ⟨g, j * 3 + 2, none⟩ (.string t)) b r (l.set j ⟨p.f, p.t, t⟩) lost := by
  have h1 := hrow.store Pk.len j 2 p hj (by omega) (.string t) ⟨p.f, p.t, t⟩ rfl
  refine ⟨some ⟨g, 0, none⟩, c, ?_, ?_⟩
  · rw [List.length_set, Below.heap_setCell w _ _ b hgb]
    exact hv
  · rw [List.length_set]
    exact h1
/-- A text with bits of a byte turned. -/
def turnB (s : ByteArray) (a : Nat) (bits : Int) : ByteArray := strOfNums ((numsOf s).set a (Go.bits .xor .u8 ((numsOf s).getD a 0) bits))
theorem turnB_size (s : ByteArray) (a : Nat) (bits : Int) : (turnB s a bits).size = s.size := by
  unfold turnB
  rw [strOfNums_size, List.length_set, numsOf_len]

theorem Turn_none (w : World) (b : Nat) (r : Option Nat) (l : List Pk) (lost : Int) (h : NetAt 41 w b r l lost) (i at_ bits : Int) (hi : i < 0 ∨ (l.length : Int) ≤ i) :
    Calls Try.prog 42 #[.pointer (some ⟨b, 0, none⟩), .int .i64 i, .int .i64 at_, .int .u8 bits] w fun e w' => e = .returned (.int .i64 5) ∧ Chg (fun _ => False) w w' := by
  have H := Lib.hid h
  clear h
  go_enter Try.func42, Try.ntmps42
  go_wp2_with (go_at_call 44; refine (Look_none _ b r l lost (by exact H.out) i hi).mono ?_; rintro r0 w1 ⟨rfl, hg⟩; simp only [Pk.val, Pk.none]; have HG := Lib.hid hg; clear hg)
  go_ret
  exact ⟨rfl, HG.out.alloc _⟩
theorem Turn_arg (w : World) (b : Nat) (r : Option Nat) (l : List Pk) (lost : Int) (h : NetAt 41 w b r l lost) (j : Nat) (p : Pk) (hj : l[j]? = some p) (at_ bits : Int) (ha : at_ < 0 ∨ (p.b.size : Int) ≤ at_) :
    Calls Try.prog 42 #[.pointer (some ⟨b, 0, none⟩), .int .i64 j, .int .i64 at_, .int .u8 bits] w fun e w' => e = .returned (.int .i64 1) ∧ Chg (fun _ => False) w w' := by
  have H := Lib.hid h
  have HJ := Lib.hid hj
  clear h hj
  by_cases h1 : at_ < 0
  · clear ha
    go_enter Try.func42, Try.ntmps42
    go_wp2_with (go_at_call 44; refine (Look_ok _ b r l lost (by exact H.out) j p HJ.out).mono ?_; rintro r0 w1 ⟨rfl, hg⟩; simp only [Pk.val]; have HG := Lib.hid hg; clear hg)
    go_ret
    exact ⟨rfl, HG.out.alloc _⟩
  · have h2 : (p.b.size : Int) ≤ at_ := by omega
    clear ha
    go_enter Try.func42, Try.ntmps42
    go_wp2_with (go_at_call 44; refine (Look_ok _ b r l lost (by exact H.out) j p HJ.out).mono ?_; rintro r0 w1 ⟨rfl, hg⟩; simp only [Pk.val]; have HG := Lib.hid hg; clear hg)
    go_ret
    exact ⟨rfl, HG.out.alloc _⟩
set_option maxHeartbeats 2000000 in
theorem Turn_ok (w : World) (b : Nat) (r : Option Nat) (l : List Pk) (lost : Int) (h : NetAt 41 w b r l lost) (j : Nat) (p : Pk) (hj : l[j]? = some p) (a : Nat) (bits : Int) (ha : a < p.b.size) (hl : l.length ≤ 64) :
    Calls Try.prog 42 #[.pointer (some ⟨b, 0, none⟩), .int .i64 j, .int .i64 a, .int .u8 bits] w fun e w' => e = .returned (.int .i64 0) ∧ ∃ r', NetAt 41 w' b r' (l.set j ⟨p.f, p.t, turnB p.b a bits⟩) lost ∧ Newer w r r' ∧ Chg (fun k => k = b ∨ r = some k) w w' := by
  have hlt := h.lt
  obtain ⟨g, c, hv1, hr, hjl, hv2, _⟩ := h.packet j p hj
  have hrb := hv2.ne hv1 (by decide)
  have hgl : g < w.heap.size := (hv2.lt hr).1
  have H := Lib.hid h
  have HV := Lib.hid hv1
  have HR := Lib.hid hv2
  have HB := Lib.hid hrb
  have HJ := Lib.hid hj
  have HQ := Lib.hid hr
  have kc := fun W s => Lib.run_convert_string_bytes (P := Try.prog) W 9 24 5 s Try.underlying9 Try.underlying24 Try.underlying5
  clear h hv1 hv2 hrb hj hr
  have h1 : ¬ (a : Int) < 0 := by omega
  have h2 : ¬ (p.b.size : Int) ≤ (a : Int) := by omega
  have h3 : (a : Int) < (p.b.size : Int) := by omega
  go_enter Try.func42, Try.ntmps42
  go_wp2_with fail
  refine (Look_ok _ b r l lost (by exact H.out) j p HJ.out).mono ?_
  rintro r0 w1 ⟨rfl, hg⟩
  simp only [Pk.val]
  have HW2 : Hid (Chg (fun _ => False) w (w1.alloc (.cells #[.int .i64 p.f, .int .i64 p.t, .string p.b] 45))) := Lib.hid (hg.alloc _)
  have hs2 : (w1.alloc (.cells #[.int .i64 p.f, .int .i64 p.t, .string p.b] 45)).heap.size = w1.heap.size + 1 := by simp
  have hcb := Lib.bytesWorld_cell (w1.alloc (.cells #[.int .i64 p.f, .int .i64 p.t, .string p.b] 45)) 5 p.b a ha
  have hfb := bytesFree (w1.alloc (.cells #[.int .i64 p.f, .int .i64 p.t, .string p.b] 45)) 5 p.b a ha
  have kt := fun x cap => conv_turn (w1.alloc (.cells #[.int .i64 p.f, .int .i64 p.t, .string p.b] 45)) p.b a ha x cap 0
  have kt1 := fun x cap => conv_turn1 (w1.alloc (.cells #[.int .i64 p.f, .int .i64 p.t, .string p.b] 45)) p.b a ha x cap
  rw [← numsOf_get p.b a ha] at hcb
  obtain ⟨x0, hx0⟩ : ∃ x0, (numsOf p.b).getD a 0 = x0 := ⟨_, rfl⟩
  rw [hx0] at hcb
  simp only [hs2, World.drewN_zero] at hcb hfb kt kt1
  have HBW : Hid (Chg (fun _ => False) w (Lib.bytesWorld (w1.alloc (.cells #[.int .i64 p.f, .int .i64 p.t, .string p.b] 45)) 5 p.b)) := Lib.hid (HW2.out.trans (bytesChg _ (fun _ => False) _ _) (fun _ h => h.elim))
  have hvb := HBW.out.obj HV.out (fun h => h)
  obtain ⟨c0, c1, f0, f1⟩ := netCells hvb
  have hrbw := HR.out.chg HBW.out (fun _ _ h => h)
  obtain ⟨e0, e1⟩ := hrbw.cell Pk.len j 2 p HJ.out (by omega) _ rfl
  have hn1 := hg.size
  have hszb : (Lib.bytesWorld (w1.alloc (.cells #[.int .i64 p.f, .int .i64 p.t, .string p.b] 45)) 5 p.b).heap.size = w1.heap.size + 2 := by rw [Lib.bytesWorld_size, hs2]
  have hbl2 : b < w1.heap.size + 2 := by omega
  have hn2 : ¬ w1.heap.size + 1 = b := by omega
  have hn3 : ¬ w1.heap.size + 1 = g := by omega
  have hn4 : ¬ b = w1.heap.size + 1 := by omega
  have hn5 : ¬ g = w1.heap.size + 1 := by omega
  clear hg hvb hrbw
  go_wp2
  go_region_law (fail)
  all_goals
    go_wp2
    go_ret
    have HW3 := (HBW.out.setCell (p := ⟨w1.heap.size + 1, a, none⟩) (.inr (by show w.heap.size ≤ w1.heap.size + 1; omega)) (.int .u8 (Go.bits .xor .u8 x0 bits))).drew
    have hb2 := NetAt.turned (HW3.obj HV.out (fun h => h)) (HR.out.chg HW3 (fun _ _ h => h)) (fun e => HB.out (HQ.out.trans (congrArg some e.symm))) j p HJ.out (turnB p.b a bits)
    have hT : strOfNums ((numsOf p.b).set a (Go.bits .xor .u8 x0 bits)) = turnB p.b a bits := by unfold turnB; rw [hx0]
    rw [hT]
    exact ⟨rfl, r, hb2, Newer.refl _ _, HW3.nix.setCell (.inl (.inr HQ.out)) _⟩
theorem rTurn_none (w : World) (b : Nat) (r : Option Nat) (l : List Pk) (lost : Int) (h : NetAt 66 w b r l lost) (i at_ bits : Int) (hi : i < 0 ∨ (l.length : Int) ≤ i) :
    Calls Try.prog 43 #[.pointer (some ⟨b, 0, none⟩), .int .i64 i, .int .i64 at_, .int .u8 bits] w fun e w' => e = .returned (.int .i64 5) ∧ Chg (fun _ => False) w w' := by
  have H := Lib.hid h
  clear h
  go_enter Try.func43, Try.ntmps43
  go_wp2_with (go_at_call 45; refine (rLook_none _ b r l lost (by exact H.out) i hi).mono ?_; rintro r0 w1 ⟨rfl, hg⟩; simp only [Pk.val, Pk.none]; have HG := Lib.hid hg; clear hg)
  go_ret
  exact ⟨rfl, HG.out.alloc _⟩
theorem rTurn_arg (w : World) (b : Nat) (r : Option Nat) (l : List Pk) (lost : Int) (h : NetAt 66 w b r l lost) (j : Nat) (p : Pk) (hj : l[j]? = some p) (at_ bits : Int) (ha : at_ < 0 ∨ (p.b.size : Int) ≤ at_) :
    Calls Try.prog 43 #[.pointer (some ⟨b, 0, none⟩), .int .i64 j, .int .i64 at_, .int .u8 bits] w fun e w' => e = .returned (.int .i64 1) ∧ Chg (fun _ => False) w w' := by
  have H := Lib.hid h
  have HJ := Lib.hid hj
  clear h hj
  by_cases h1 : at_ < 0
  · clear ha
    go_enter Try.func43, Try.ntmps43
    go_wp2_with (go_at_call 45; refine (rLook_ok _ b r l lost (by exact H.out) j p HJ.out).mono ?_; rintro r0 w1 ⟨rfl, hg⟩; simp only [Pk.val]; have HG := Lib.hid hg; clear hg)
    go_ret
    exact ⟨rfl, HG.out.alloc _⟩
  · have h2 : (p.b.size : Int) ≤ at_ := by omega
    clear ha
    go_enter Try.func43, Try.ntmps43
    go_wp2_with (go_at_call 45; refine (rLook_ok _ b r l lost (by exact H.out) j p HJ.out).mono ?_; rintro r0 w1 ⟨rfl, hg⟩; simp only [Pk.val]; have HG := Lib.hid hg; clear hg)
    go_ret
    exact ⟨rfl, HG.out.alloc _⟩
set_option maxHeartbeats 2000000 in
theorem rTurn_ok (w : World) (b : Nat) (r : Option Nat) (l : List Pk) (lost : Int) (h : NetAt 66 w b r l lost) (j : Nat) (p : Pk) (hj : l[j]? = some p) (a : Nat) (bits : Int) (ha : a < p.b.size) (hl : l.length ≤ 64) :
    Calls Try.prog 43 #[.pointer (some ⟨b, 0, none⟩), .int .i64 j, .int .i64 a, .int .u8 bits] w fun e w' => e = .returned (.int .i64 0) ∧ ∃ r', NetAt 66 w' b r' (l.set j ⟨p.f, p.t, turnB p.b a bits⟩) lost ∧ Newer w r r' ∧ Chg (fun k => k = b ∨ r = some k) w w' := by
  have hlt := h.lt
  obtain ⟨g, c, hv1, hr, hjl, hv2, _⟩ := h.packet j p hj
  have hrb := hv2.ne hv1 (by decide)
  have hgl : g < w.heap.size := (hv2.lt hr).1
  have H := Lib.hid h
  have HV := Lib.hid hv1
  have HR := Lib.hid hv2
  have HB := Lib.hid hrb
  have HJ := Lib.hid hj
  have HQ := Lib.hid hr
  have kc := fun W s => Lib.run_convert_string_bytes (P := Try.prog) W 9 24 5 s Try.underlying9 Try.underlying24 Try.underlying5
  clear h hv1 hv2 hrb hj hr
  have h1 : ¬ (a : Int) < 0 := by omega
  have h2 : ¬ (p.b.size : Int) ≤ (a : Int) := by omega
  have h3 : (a : Int) < (p.b.size : Int) := by omega
  go_enter Try.func43, Try.ntmps43
  go_wp2_with fail
  refine (rLook_ok _ b r l lost (by exact H.out) j p HJ.out).mono ?_
  rintro r0 w1 ⟨rfl, hg⟩
  simp only [Pk.val]
  have HW2 : Hid (Chg (fun _ => False) w (w1.alloc (.cells #[.int .i64 p.f, .int .i64 p.t, .string p.b] 45))) := Lib.hid (hg.alloc _)
  have hs2 : (w1.alloc (.cells #[.int .i64 p.f, .int .i64 p.t, .string p.b] 45)).heap.size = w1.heap.size + 1 := by simp
  have hcb := Lib.bytesWorld_cell (w1.alloc (.cells #[.int .i64 p.f, .int .i64 p.t, .string p.b] 45)) 5 p.b a ha
  have hfb := bytesFree (w1.alloc (.cells #[.int .i64 p.f, .int .i64 p.t, .string p.b] 45)) 5 p.b a ha
  have kt := fun x cap => conv_turn (w1.alloc (.cells #[.int .i64 p.f, .int .i64 p.t, .string p.b] 45)) p.b a ha x cap 0
  have kt1 := fun x cap => conv_turn1 (w1.alloc (.cells #[.int .i64 p.f, .int .i64 p.t, .string p.b] 45)) p.b a ha x cap
  rw [← numsOf_get p.b a ha] at hcb
  obtain ⟨x0, hx0⟩ : ∃ x0, (numsOf p.b).getD a 0 = x0 := ⟨_, rfl⟩
  rw [hx0] at hcb
  simp only [hs2, World.drewN_zero] at hcb hfb kt kt1
  have HBW : Hid (Chg (fun _ => False) w (Lib.bytesWorld (w1.alloc (.cells #[.int .i64 p.f, .int .i64 p.t, .string p.b] 45)) 5 p.b)) := Lib.hid (HW2.out.trans (bytesChg _ (fun _ => False) _ _) (fun _ h => h.elim))
  have hvb := HBW.out.obj HV.out (fun h => h)
  obtain ⟨c0, c1, f0, f1⟩ := netCells hvb
  have hrbw := HR.out.chg HBW.out (fun _ _ h => h)
  obtain ⟨e0, e1⟩ := hrbw.cell Pk.len j 2 p HJ.out (by omega) _ rfl
  have hn1 := hg.size
  have hszb : (Lib.bytesWorld (w1.alloc (.cells #[.int .i64 p.f, .int .i64 p.t, .string p.b] 45)) 5 p.b).heap.size = w1.heap.size + 2 := by rw [Lib.bytesWorld_size, hs2]
  have hbl2 : b < w1.heap.size + 2 := by omega
  have hn2 : ¬ w1.heap.size + 1 = b := by omega
  have hn3 : ¬ w1.heap.size + 1 = g := by omega
  have hn4 : ¬ b = w1.heap.size + 1 := by omega
  have hn5 : ¬ g = w1.heap.size + 1 := by omega
  clear hg hvb hrbw
  have HW3 : Hid (Chg (fun _ => False) w ((Lib.bytesWorld (w1.alloc (.cells #[.int .i64 p.f, .int .i64 p.t, .string p.b] 45)) 5 p.b).setCell ⟨w1.heap.size + 1, a, none⟩ (.int .u8 (Go.bits .xor .u8 x0 bits)))) := Lib.hid (HBW.out.setCell (p := ⟨w1.heap.size + 1, a, none⟩) (.inr (by show w.heap.size ≤ w1.heap.size + 1; omega)) _)
  have HS2 := Lib.hid hs2
  obtain ⟨W3, hW3⟩ : ∃ W3, ((Lib.bytesWorld (w1.alloc (.cells #[.int .i64 p.f, .int .i64 p.t, .string p.b] 45)) 5 p.b).setCell ⟨w1.heap.size + 1, a, none⟩ (.int .u8 (Go.bits .xor .u8 x0 bits))) = W3 := ⟨_, rfl⟩
  have hsz3 : W3.heap.size = w1.heap.size + 2 := by rw [← hW3]; simp [World.setCell, hszb]
  have HSZ3 := Lib.hid hsz3
  rw [hW3] at HW3
  have HE3 := Lib.hid hW3
  have hn6 : ¬ w1.heap.size + 2 = b := by omega
  have HROW0 : Hid (PRow (W3.alloc (.cells #[] 45)) (.slice (some ⟨w1.heap.size + 2, 0, none⟩) 0 0) (some (w1.heap.size + 2)) []) := Lib.hid (by
    rw [← hsz3]
    exact SRow.remade Pk.len (blkAlloc W3 _) rfl [] rfl (Nat.le_refl _) (by omega) rfl)
  have HNW : Hid (∀ k u, (l.flatMap Pk.enc)[k]? = some u → (W3.alloc (.cells #[] 45)).cell? ((⟨g, 0, none⟩ : Addr).add k) = some u) := Lib.hid (by
    have h := NW0 ((HR.out.chg HW3.out (fun _ _ h => h)).alloc (.cells #[] 45)) (Nat.lt_of_le_of_lt (Nat.zero_le _) hjl) l.length
    rwa [List.take_length] at h)
  clear hsz3 hW3
  go_wp2_with (at_builtin; rw [HE3.out]; go_loud (refine wpList_sappends (W3.alloc (.cells #[] 45)) rfl (.tmp 43) (.tmp 47) 39 32 rfl Try.underlying39 elem_pk Pk.len Pk.one (.slice (some ⟨w1.heap.size + 2, 0, none⟩) 0 0) (some (w1.heap.size + 2)) [] l (by rfl) ⟨g, 0, none⟩ l.length c (by rfl) HROW0.out rfl (by exact HNW.out) (by simp; omega) (by omega) ?_; intro A5 n5 w5 r5 hrow hnext hgrow; simp only [List.nil_append] at hrow ⊢; obtain ⟨g5, cur5, rfl, hr5, _⟩ := hrow.at_ (Nat.lt_of_le_of_lt (Nat.zero_le _) hjl); have HCH := Lib.hid (Chg.bare hgrow); have HROW := Lib.hid hrow; have HR5 := Lib.hid hr5; have HV4 := Lib.hid ((HW3.out.alloc (.cells #[] 45)).obj HV.out (fun h => h)); have HV5 := Lib.hid (HCH.out.obj HV4.out (fun e => hn6 (by injection e))); have hg5 : w1.heap.size + 2 ≤ g5 := (hnext.mem hr5).elim (fun e => by injection e with e; omega) (fun h => by have := HSZ3.out; simp at h; omega); obtain ⟨e2, e3⟩ := hrow.cell Pk.len j 2 p HJ.out (by omega) _ rfl; obtain ⟨c0, c1, f0, f1⟩ := netCells HV5.out; have HMV := Lib.hid ((HCH.out.block (w1.heap.size + 1) (by have := HSZ3.out; simp; omega) (fun e => absurd e (by simp))).trans (Below.heap_alloc W3 _ (w1.heap.size + 1) (by have := HSZ3.out; omega))); have kt5 := fun cap => conv_moved (w1.alloc (.cells #[.int .i64 p.f, .int .i64 p.t, .string p.b] 45)) w5 p.b a ha (Go.bits .xor .u8 x0 bits) cap (w1.heap.size + 1) HS2.out (by rw [HE3.out]; exact HMV.out); have hn7 : ¬ g5 = b := (by omega); have hn8 : ¬ b = g5 := (by omega); clear hrow hnext hgrow))
  go_ret
  have hT : strOfNums ((numsOf p.b).set a (Go.bits .xor .u8 x0 bits)) = turnB p.b a bits := by unfold turnB; rw [hx0]
  rw [hT]
  have hst := HROW.out.store Pk.len j 2 p HJ.out (by omega) (.string (turnB p.b a bits)) ⟨p.f, p.t, turnB p.b a bits⟩ rfl
  have hv6 := (Below.heap_setCell w5 ⟨g5, j * 3 + 2, none⟩ (.string (turnB p.b a bits)) b hn8).trans HV5.out
  have hlen : (l.set j ⟨p.f, p.t, turnB p.b a bits⟩).length = l.length := List.length_set
  rw [← hlen] at hst
  have hrb5 : r5 ≠ some b := fun e => hn7 (by rw [HR5.out] at e; injection e)
  have hb2 := NetAt.laid (by decide) hv6 hrb5 hst (Chg.refl (fun k => r5 = some k) _)
  rw [hlen] at hb2
  have h0 := HW3.out.size
  have h1 := HSZ3.out
  have hc5 : Chg (fun k => k = b ∨ r = some k) w w5 := Chg.trans (HW3.out.nix.alloc _) HCH.out (fun k e => .inr (by injection e with e; omega))
  exact ⟨rfl, r5, hb2.1, fun k e => .inr (by rw [HR5.out] at e; injection e with e; omega), (hc5.setCell (.inr (by show w.heap.size ≤ g5; omega)) _).setCell (.inl (.inl rfl)) _⟩
end Go.Proofs.Ytjlkflbkejpcaaa
