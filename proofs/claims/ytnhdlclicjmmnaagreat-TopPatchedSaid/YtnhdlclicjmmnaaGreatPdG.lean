/- TopPatched: flash.New. -/
import Derived.Test.YtnhdlclicjmmnaaGreatPdE
namespace Go.Proofs.YtnhdlclicjmmnaaGreat
open Go.RowKit Go.Lib Go.Shelf
theorem made_same (v : Value) (m : Nat) (hm : 0 < m) (n : Nat) : (madeCells (Array.replicate m v) n).toList = List.replicate n v := by
  apply List.ext_getElem
  · simp [madeCells]
  · intro i h1 h2
    have hlt : i % m < m := Nat.mod_lt _ hm
    have : (madeCells (Array.replicate m v) n).toList[i] = v := by
      simp [madeCells, Array.size_replicate]
      rw [getElem!_pos (Array.replicate m v) (i % m) (by simpa using hlt)]
      simp
    rw [this, List.getElem_replicate]
theorem enc64_nil : enc64 [] = List.replicate 64 (.int .u8 0) := by simp [enc64, fit64, bcells]
theorem flat_nil (n : Nat) : (List.replicate n ([] : List UInt8)).flatMap enc64 = List.replicate (n * 64) (.int .u8 0) := by
  induction n with
  | zero => rfl
  | succ n ih => rw [List.replicate_succ, List.flatMap_cons, ih, enc64_nil, List.replicate_append_replicate]; congr 1; omega
def zsec (n : Nat) : Array Value := madeCells (Array.replicate 64 (.int .u8 0)) (n * 64)
theorem makeS (n : Nat) (hn : n ≤ 4096) (w : World) : (Instr.makeSlice 77 (.int .i64 (n : Int)) (.int .i64 (n : Int))).run Tryz.prog w = .ok (.slice (some ⟨w.heap.size, 0, none⟩) n n) (w.alloc (.cells (zsec n) 92)) := by
  obtain ⟨i, hi, hzz⟩ := Option.map_eq_some_iff.1 info64
  simp only [Prod.mk.injEq] at hzz
  obtain ⟨hz0, hz1, hz2⟩ := hzz
  have h := run_make (P := Tryz.prog) w 77 92 i _ Tryz.underlying77 hi hz0 .i64 .i64 (n : Int) (n : Int) (by omega) (by omega) (by rw [hz2]; omega) (by omega)
  rw [hz1] at h
  exact h
theorem madeS {w : World} {g : Nat} (n : Nat) (hn : n ≤ 4096) (h : w.heap[g]? = some (.cells (zsec n) 92 (0, 0))) : DRow w (.slice (some ⟨g, 0, none⟩) n n) (some g) (List.replicate n []) :=
  SRow.remade enc64_len h (by rw [zsec, size_madeCells]) _ List.length_replicate (Nat.le_refl _) (by omega) (by rw [flat_nil, zsec, made_same _ _ (by omega), List.take_of_length_le (by rw [List.length_replicate]; exact Nat.le_refl _)])
set_option maxRecDepth 100000 in
theorem New_calls (w0 w : World) (hc0 : Chg (fun _ => False) w0 w) (n : Nat) (h1 : 1 ≤ n) (h2 : n ≤ 4096) :
    Calls Tryz.prog 10 #[.int .i64 n] w fun e w' => ∃ b, e = .returned (.tuple #[.pointer (some ⟨b, 0, none⟩), .int .i64 0]) ∧ Dv w0 w' b (List.replicate n []) (List.replicate n []) [] ∧ Chg (fun _ => False) w w' := by
  have hmk := makeS n h2
  have e0 : decide ((n : Int) < 1) = false := decide_eq_false (by omega)
  have e1 : decide ((4096 : Int) < (n : Int)) = false := decide_eq_false (by omega)
  have fin : ∀ (x y : Obj) (g1 g2 : Nat) (b : Nat), (x = .cells (zsec n) 92 (0, 0)) → (y = .cells (zsec n) 92 (0, 0)) → ∀ w3 w4 : World, w3 = (w.alloc x).alloc y → ((g1 = w.heap.size ∧ g2 = w.heap.size + 1) ∨ (g2 = w.heap.size ∧ g1 = w.heap.size + 1)) →
      b = w3.heap.size → w4 = w3.alloc (.cells #[.slice (some ⟨g1, 0, none⟩) n n, .slice (some ⟨g2, 0, none⟩) n n, .slice none 0 0, .int .i64 0, .int .i64 0, .bool false] 80 (0, 0)) →
      Dv w0 w4 b (List.replicate n []) (List.replicate n []) [] ∧ Chg (fun _ => False) w w4 := by
    rintro x y g1 g2 b rfl rfl w3 w4 rfl hg rfl rfl
    have ch : Chg (fun _ => False) w ((w.alloc (.cells (zsec n) 92 (0, 0))).alloc (.cells (zsec n) 92 (0, 0))) := ((Chg.refl _ w).alloc _).alloc _
    have ha : (w.alloc (.cells (zsec n) 92 (0, 0))).heap[w.heap.size]? = some (.cells (zsec n) 92 (0, 0)) := blkAlloc w _
    have hb := blkAlloc (w.alloc (.cells (zsec n) 92 (0, 0))) (.cells (zsec n) 92 (0, 0))
    rw [World.size_alloc] at hb
    have ha2 := blkOld ha (.cells (zsec n) 92 (0, 0))
    have key : ∀ g, (g = w.heap.size ∨ g = w.heap.size + 1) → ((w.alloc (.cells (zsec n) 92 (0, 0))).alloc (.cells (zsec n) 92 (0, 0))).heap[g]? = some (.cells (zsec n) 92 (0, 0)) ∧ w0.heap.size ≤ g := by
      have := hc0.size
      rintro g (rfl | rfl)
      · exact ⟨ha2, this⟩
      · exact ⟨hb, by omega⟩
    have k1 := key g1 (by omega)
    have k2 := key g2 (by omega)
    have hne : g1 ≠ g2 := by omega
    have hch := (hc0.trans ch (fun _ h => h.elim)).alloc (.cells #[.slice (some ⟨g1, 0, none⟩) n n, .slice (some ⟨g2, 0, none⟩) n n, .slice none 0 0, .int .i64 0, .int .i64 0, .bool false] 80 (0, 0))
    refine ⟨⟨?_, hch, some ⟨g1, 0, none⟩, n, some g1, some ⟨g2, 0, none⟩, n, some g2, none, 0, none, 0, ?_, ?_, ?_, ?_, fun k e => ?_, fun k e => ?_, (fun k (e : none = some k) => nomatch e), fun k e e2 => ?_⟩, ch.alloc _⟩
    · exact (hc0.trans ch (fun _ h => h.elim)).size
    · rw [List.length_replicate]
      exact blkAlloc _ _
    · rw [List.length_replicate]
      exact madeS n h2 (blkOld k1.1 _)
    · rw [List.length_replicate]
      exact madeS n h2 (blkOld k2.1 _)
    · exact SRow.nil _
    · injection e with e
      rw [← e]
      exact k1.2
    · injection e with e
      rw [← e]
      exact k2.2
    · injection e with e
      injection e2 with e2
      omega
  have FIN := Lib.hid fin
  clear fin h1 h2
  go_enter Tryz.func10, Tryz.ntmps10
  go_wp2
  go_region
  all_goals
    go_wp2
    go_ret2
    first
      | exact ⟨_, rfl, (fun h => ⟨h.1.drew, h.2.drew⟩) (FIN.out _ _ w.heap.size (w.heap.size + 1) _ rfl rfl _ _ rfl (.inl ⟨rfl, rfl⟩) (by simp) rfl)⟩
      | exact ⟨_, rfl, (fun h => ⟨h.1.drew, h.2.drew⟩) (FIN.out _ _ (w.heap.size + 1) w.heap.size _ rfl rfl _ _ rfl (.inr ⟨rfl, rfl⟩) (by simp) rfl)⟩
end Go.Proofs.YtnhdlclicjmmnaaGreat
