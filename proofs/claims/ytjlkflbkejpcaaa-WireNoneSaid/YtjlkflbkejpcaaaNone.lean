/- The walk of WireNone. -/
import Derived.Test.YtjlkflbkejpcaaaNil
import Derived.Test.YtjlkflbkejpcaaaAsk
import Derived.Laws.MakeOwn
namespace Go.Proofs.Ytjlkflbkejpcaaa
open Go.RowKit

/-- n bytes of nothing, as cells and as a string. -/
def zcells (n : Nat) : Array Value := madeCells #[.int .u8 0] n
def zstr (n : Nat) : ByteArray := strOf (List.replicate n 0)
theorem zstr_size (n : Nat) : (zstr n).size = n := by
  unfold zstr
  rw [strOf_size, List.length_replicate]
theorem zcells_list (n : Nat) : (zcells n).toList = List.replicate n (Value.int .u8 0) := by
  have : zcells n = (Array.range n).map (fun _ => Value.int .u8 0) := by
    unfold zcells madeCells
    congr 1
    funext i
    simp [Nat.mod_one]
  rw [this, Array.toList_map, Array.toList_range, List.map_const', List.length_range]
theorem zrow (w : World) (n : Nat) (hn : n ≤ 9223372036854775807) : Row (w.alloc (.cells (zcells n) 5)) 5 (.slice (some ⟨w.heap.size, 0, none⟩) n n) (some w.heap.size) (List.replicate n 0) := by
  refine ⟨⟨by simp [bcells], .inr ⟨w.heap.size, n, zcells n, by rw [List.length_replicate], Nat.zero_le _, blkAlloc w _, by rw [List.length_replicate]; exact Nat.le_refl _, by simp only [maxLen]; omega, ?_, ?_⟩⟩, rfl⟩
  · unfold zcells
    rw [size_madeCells, Nat.mul_one]
  · rw [zcells_list, List.length_replicate, Nat.mul_one, List.take_of_length_le (by rw [List.length_replicate]; exact Nat.le_refl _)]
    simp [bcells]
theorem zmake (n : Nat) (hn : n ≤ 1000000) (w : World) : (Instr.makeSlice 24 (.int .i64 n) (.int .i64 n)).run Try.prog w = .ok (.slice (some ⟨w.heap.size, 0, none⟩) n n) (w.alloc (.cells (zcells n) 5)) := by
  obtain ⟨i, hi, hz⟩ := Option.map_eq_some_iff.1 info_u8
  simp only [Prod.mk.injEq] at hz
  obtain ⟨hz0, hz1, hz2⟩ := hz
  have h := run_make (P := Try.prog) w 24 5 i _ Try.underlying24 hi hz0 .i64 .i64 n n (by omega) (by omega) (by rw [hz2]; omega) (by omega)
  rw [hz1] at h
  simpa [zcells, Value.cells] using h
theorem zconv (n : Nat) (hn : n ≤ 1000000) (w : World) : (convert 24 9 (.slice (some ⟨w.heap.size, 0, none⟩) n n)).run Try.prog (w.alloc (.cells (zcells n) 5)) = .ok (.string (zstr n)) (w.alloc (.cells (zcells n) 5)) :=
  run_string_row (P := Try.prog) (dst := 9) Try.underlying24 Try.underlying5 Try.underlying9 (zrow w n (by omega))
theorem none1 : sendF [] 0 ⟨-1, 0, ⟨#[]⟩⟩ = (1, [], 0) := rfl
theorem none2 : sendF [] 0 ⟨0, 64, ⟨#[]⟩⟩ = (1, [], 0) := rfl
theorem none3 : sendF [] 0 ⟨0, 0, zstr 65537⟩ = (4, [], 0) := by
  unfold sendF
  rw [if_neg (by simp [okP]), if_pos (by simp only [zstr_size]; omega)]
theorem none4 : sendF [] 0 ⟨0, 0, zstr 65536⟩ = (0, [⟨0, 0, zstr 65536⟩], 0) := by
  unfold sendF
  rw [if_neg (by simp [okP]), if_neg (by simp only [zstr_size]; omega), if_neg (by simp)]
  rfl

set_option maxRecDepth 100000 in
set_option maxHeartbeats 4000000 in
theorem WireNone_walk (p : Pk) (i : Int) (w : World) :
    Calls Try.prog 9 #[p.val, .int .i64 i] w fun e w' => e = .returned (.bool true) ∧ Chg (fun _ => False) w w' := by
  obtain ⟨pf, pt, pb⟩ := p
  unfold Pk.val
  have hm1 := zmake 65537 (by omega)
  have hm2 := zmake 65536 (by omega)
  have hc1 := zconv 65537 (by omega)
  have hc2 := zconv 65536 (by omega)
  simp only [Int.cast_ofNat_Int, Int.ofNat_eq_natCast] at hm1 hm2
  have n3 := none3
  have n4 := none4
  generalize zcells 65537 = C1 at hm1 hc1
  generalize zcells 65536 = C2 at hm2 hc2
  generalize zstr 65537 = Z1 at hc1 n3
  generalize zstr 65536 = Z2 at hc2 n4
  have N3 := Lib.hid n3
  have N4 := Lib.hid n4
  clear n3 n4
  go_enter Try.func9, Try.ntmps9
  go_wp2_with (go_at_call 15; refine (goes_calls _).mono ?_; rintro e w1 ⟨rfl, hg⟩; have HG := Lib.hid hg.kept; have HX := Lib.hid (hg.obj (blkAlloc w _) (fun h => h)); have HM := Lib.hid (NMade.fresh 41 w1 w1.heap.size rfl); clear hg)
  refine (nSend_calls (W := w1) (by exact HM.out) ⟨-1, 0, ⟨#[]⟩⟩).mono ?_
  rw [none1]
  rintro e w2 ⟨rfl, hm⟩
  have HM := Lib.hid hm
  clear hm
  go_wp2_with fail
  refine (nSend_calls (W := w1) (by exact HM.out) ⟨0, 64, ⟨#[]⟩⟩).mono ?_
  rw [none2]
  rintro e w3 ⟨rfl, hm⟩
  have HM := Lib.hid hm
  clear hm
  go_wp2_with fail
  refine (nSend_calls (W := w1) (by exact HM.out.alloc _) ⟨0, 0, Z1⟩).mono ?_
  rw [N3.out]
  rintro e w4 ⟨rfl, hm⟩
  have HM := Lib.hid hm
  clear hm
  go_wp2_with fail
  refine (nSend_calls (W := w1) (by exact HM.out.alloc _) ⟨0, 0, Z2⟩).mono ?_
  rw [N4.out]
  rintro e w5 ⟨rfl, hm⟩
  have HM := Lib.hid hm
  clear hm
  go_wp2_with fail
  refine (nCount_calls (W := w1) (by exact HM.out)).mono ?_
  rintro e w6 ⟨rfl, rfl⟩
  have HC := Lib.hid HM.out.ch
  go_wp2_with fail
  refine (Take_nil w5 i).mono ?_
  rintro e w7 ⟨rfl, hg⟩
  have HC7 := Lib.hid ((HC.out.trans hg (fun _ h => h.elim)).alloc (.cells #[.int .i64 0, .int .i64 0, .string ⟨#[]⟩] 45))
  clear hg
  simp only [Pk.val, Pk.none]
  go_wp2_with fail
  refine (Look_nil _ i).mono ?_
  rintro e w8 ⟨rfl, hg⟩
  have HC8 := Lib.hid ((HC7.out.trans hg (fun _ h => h.elim)).alloc (.cells #[.int .i64 0, .int .i64 0, .string ⟨#[]⟩] 45))
  have HX7 := Lib.hid (hg.obj (blkAlloc w7 _) (fun h => h))
  have hlt78 := hg.past
  have hx2 := HC8.out.obj HX.out (fun h => h)
  obtain ⟨b0, b1, b2, _⟩ := pkCells hx2
  have hblt := blkLt hx2
  clear hg hx2
  simp only [Pk.val, Pk.none]
  go_wp2_with fail
  refine (Send_nil _ ⟨pf, pt, pb⟩).mono ?_
  rintro e w9 ⟨rfl, hg⟩
  have HC9 := Lib.hid (HC8.out.trans hg (fun _ h => h.elim))
  have hx7 := hg.obj (((Chg.refl (fun _ => False) w8).alloc (.cells #[.int .i64 0, .int .i64 0, .string ⟨#[]⟩] 45)).obj HX7.out (fun h => h)) (fun h => h)
  have hx8 := hg.obj (blkAlloc w8 _) (fun h => h)
  clear b0 b1 b2 hblt hg
  obtain ⟨b0, b1, b2, _⟩ := pkCells hx7
  obtain ⟨d0, d1, d2, _⟩ := pkCells hx8
  clear hx7 hx8
  go_wp2_with (first
    | (go_at_call 18; refine (Count_nil _).mono ?_; rintro e w10 ⟨rfl, rfl⟩)
    | (go_at_call 19; refine (Lost_nil _).mono ?_; rintro e w10 ⟨rfl, rfl⟩)
    | (go_at_call 38; refine (Drop_nil _ i).mono ?_; rintro e w10 ⟨rfl, hg⟩; have HC10 := Lib.hid (HC9.out.trans hg (fun _ h => h.elim)); clear hg)
    | (go_at_call 40; refine (Twice_nil _ i).mono ?_; rintro e w11 ⟨rfl, hg⟩; have HC11 := Lib.hid (HC10.out.trans hg (fun _ h => h.elim)); clear hg)
    | (go_at_call 42; refine (Turn_nil _ i 0 1).mono ?_; rintro e w12 ⟨rfl, hg⟩; have HC12 := Lib.hid (HC11.out.trans hg (fun _ h => h.elim)); clear hg))
  go_ret
  exact ⟨rfl, HG.out.trans HC12.out (fun _ h => h.elim)⟩

end Go.Proofs.Ytjlkflbkejpcaaa
