/- TopPatched: the device: Write. -/
import Derived.Test.YtnhdlclicjmmnaaGreatPdE
import Derived.Deep.RegionHeld3
import Derived.Deep.RegionLaw
import Derived.Lib.BufferWrite
namespace Go.Proofs.YtnhdlclicjmmnaaGreat
open Go.RowKit Go.Lib Go.Shelf
theorem loadW {w : World} {b : Nat} {q : Nat × List UInt8} (h : w.heap[b]? = some (.cells (encW q).toArray 94 (0, 0))) : (Instr.loadAt 94 (.pointer (some ⟨b, 0, none⟩))).run Tryz.prog w = .ok (.agg (encW q).toArray) w := by
  refine run_loadAt_mid w b 0 94 (encW q) _ (fun j v hv => ?_) Tryz.underlying94 rfl (by rw [encW_len]; exact size65)
  rw [Nat.zero_add, blkCell h, ← Array.getElem?_toList]
  exact hv
theorem loadS {w : World} {b : Nat} {q : Nat × List UInt8} (h : w.heap[b]? = some (.cells (encW q).toArray 94 (0, 0))) : (Instr.loadAt 92 (.pointer (some ⟨b, 1, none⟩))).run Tryz.prog w = .ok (.agg (enc64 q.2).toArray) w := by
  refine run_loadAt_mid w b 1 92 (enc64 q.2) _ (fun j v hv => ?_) Tryz.underlying92 rfl (by rw [enc64_len]; exact size64)
  rw [blkCell h, ← Array.getElem?_toList, Nat.add_comm]
  exact hv
theorem buildW (q : Nat × List UInt8) (w : World) : (Instr.buildSlice 78 1 #[(0, .agg (encW q).toArray)]).run Tryz.prog w = .ok (.slice (some ⟨w.heap.size, 0, none⟩) 1 1) (w.alloc (.cells (encW q).toArray 94 (0, 0))) := by
  obtain ⟨i, hi, hzz⟩ := Option.map_eq_some_iff.1 info65
  simp only [Prod.mk.injEq] at hzz
  obtain ⟨hz0, hz1, hz2⟩ := hzz
  refine run_buildSlice w _ 94 1 _ (encW q).toArray i _ Tryz.underlying78 hi hz0 (by rw [hz1]; decide) (by rw [hz1]; decide) ?_
  rw [hz1]
  have := Great.fill_whole (s := 65) (by decide) [.agg (encW q).toArray] ((Array.range (1 * 65)).map fun x => (Value.agg (#[.int .i64 0] ++ Array.replicate 64 (.int .u8 0))).cells[x % (Value.agg (#[.int .i64 0] ++ Array.replicate 64 (.int .u8 0))).cells.size]!)
    (fun v hv => by rw [List.mem_singleton.1 hv]; show (encW q).toArray.size = 65; rw [List.size_toArray, encW_len]) (by simp)
  simpa [Value.cells] using this
theorem storeS {w : World} {g o : Nat} (x : List UInt8) (h : w.there g o 64) : (Instr.storeAt 92 (.pointer (some ⟨g, o, none⟩)) (.agg (enc64 x).toArray)).run Tryz.prog w = .ok () (w.setCells g o (enc64 x)) := by
  have := run_storeAt_mid (P := Tryz.prog) w g o 92 (enc64 x).toArray (by rw [List.size_toArray, enc64_len]; exact h) (by rw [List.size_toArray, enc64_len]; exact size64) (all_oneCell_toArray (enc64_one x))
  simpa using this
theorem builtW (n : Int) : Tryz.prog.built 94 [(0, .int .i64 n)] = some (.int .i64 n :: List.replicate 64 (.int .u8 0)).toArray := by kernel_rfl
theorem encW0 (n : Nat) : (encW (n, [])) = .int .i64 n :: List.replicate 64 (.int .u8 0) := by simp [encW, enc64, fit64, bcells]
theorem copyW (n : Nat) (t : List UInt8) (ht : t.length ≤ 64) : (encW (n, [])).take 1 ++ bcells t ++ (encW (n, [])).drop (1 + t.length) = encW (n, t) := by
  rw [encW0]
  have e : (t ++ List.replicate 64 (0 : UInt8)).take 64 = t ++ List.replicate (64 - t.length) 0 := by
    rw [List.take_append, List.take_of_length_le ht, List.take_replicate, Nat.min_eq_left (by omega)]
  simp only [encW, enc64, fit64, e, bcells_append, List.take_succ_cons, List.take_zero, List.cons_append, List.nil_append, Nat.add_comm 1, List.drop_succ_cons, List.drop_replicate]
  congr 2
  simp [bcells]
end Go.Proofs.YtnhdlclicjmmnaaGreat
