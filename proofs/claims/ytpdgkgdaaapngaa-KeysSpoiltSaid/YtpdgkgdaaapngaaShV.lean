/- ostlerref01.words. -/
import Derived.Test.YtpdgkgdaaapngaaShG
import Derived.Test.YtpdgkgdaaapngaaShW
namespace Go.Proofs.Ytpdgkgdaaapngaa
open Go.RowKit
theorem kcells_size : kcells.size = 64 := by unfold kcells; rw [List.size_toArray, List.length_map, kons_len]
theorem info_arr64 : (Try.prog.info? 137).map (·.size) = some kcells.size := by
  rw [kcells_size]
  kernel_rfl
theorem kcells_one : kcells.all (·.oneCell') = true := by
  unfold kcells
  exact all_oneCell_toArray (fun v hv => by obtain ⟨x, _, rfl⟩ := List.mem_map.1 hv; rfl)
theorem wcells_size : (wcells []).size = 64 := by unfold wcells; simp
theorem freshThere (w : World) : (w.alloc (.cells (wcells []) 137)).there w.heap.size 0 kcells.size := thereBlock (blkAlloc w _) _ (by rw [kcells_size, wcells_size]; exact Nat.le_refl _)
theorem freshWhole (w : World) : ((w.alloc (.cells (wcells []) 137)).setCells w.heap.size 0 kcells.toList).heap[w.heap.size]? = some (.cells kcells 137 (0, 0)) := setCells_whole (blkAlloc w _) (by rw [kcells_size, wcells_size])
theorem freshChg (w : World) : Chg (fun _ => False) w ((w.alloc (.cells (wcells []) 137)).setCells w.heap.size 0 kcells.toList) :=
  ((Chg.refl _ w).alloc _).trans (Chg.setCells kcells.toList 0 _ (Chg.refl (fun k => k = w.heap.size) _)) (fun k e => .inr (by omega))
set_option maxRecDepth 100000 in
set_option maxHeartbeats 2000000 in
theorem words_calls (w : World) : Calls Try.prog 92 #[] w fun e w' => e = .returned (.agg kcells) ∧ Chg (fun _ => False) w w' := by
  have HT := Lib.hid (freshThere w)
  go_enter Try.func92, Try.ntmps92
  go_wp2_with (refine wpList_store_mid rfl 137 (.tmp 0) (.tmp 1) rfl w.heap.size 0 kcells rfl (by rw [kcells_lit]; rfl) (by exact HT.out) info_arr64 kcells_one ?_)
  refine bodyPost_ret (v := .agg kcells) (results_cell_row (fn := Try.f92) rfl _ _ w.heap.size 137 kcells (0, 0) _ rfl (by exact freshWhole w) Try.underlying137 rfl info_arr64) rfl ⟨rfl, ?_⟩
  exact freshChg w
end Go.Proofs.Ytpdgkgdaaapngaa
