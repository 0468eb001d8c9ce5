/- A block written whole. -/
import Derived.Test.YtpdgkgdaaapngaaShG
import Derived.Deep.MidRow
namespace Go.Proofs.Ytpdgkgdaaapngaa
open Go.RowKit
theorem setCells_block {b : Nat} {t : TypeId} : ∀ (vs : List Value) (o : Nat) (w : World) (cs : Array Value), w.heap[b]? = some (.cells cs t (0, 0)) → o + vs.length ≤ cs.size →
    (w.setCells b o vs).heap[b]? = some (.cells (cs.toList.take o ++ vs ++ cs.toList.drop (o + vs.length)).toArray t (0, 0))
  | [], o, w, cs, h, _ => by
    simp only [World.setCells, List.length_nil, Nat.add_zero, List.append_nil, List.take_append_drop]
    exact h
  | v :: vs, o, w, cs, h, hl => by
    rw [List.length_cons] at hl
    have h1 := blkSet h o v
    have h2 := setCells_block vs (o + 1) (w.setCell ⟨b, o, none⟩ v) _ h1 (by rw [Array.size_setIfInBounds]; omega)
    have ho : o < cs.toList.length := by rw [Array.length_toList]; omega
    have e1 : (cs.setIfInBounds o v).toList = cs.toList.set o v := Array.toList_setIfInBounds
    rw [World.setCells, h2, e1]
    congr 3
    rw [List.length_cons, List.take_set, List.drop_set_of_lt (by omega), show o + 1 + vs.length = o + (vs.length + 1) from by omega, List.take_succ_eq_append_getElem ho, List.set_append_right _ _ (by rw [List.length_take]; omega), List.length_take, Nat.min_eq_left (Nat.le_of_lt ho), Nat.sub_self, List.set_cons_zero, List.append_assoc, List.append_assoc, List.append_assoc]
    rfl
theorem setCells_whole {b : Nat} {t : TypeId} {w : World} {cs ds : Array Value} (h : w.heap[b]? = some (.cells cs t (0, 0))) (hs : ds.size = cs.size) : (w.setCells b 0 ds.toList).heap[b]? = some (.cells ds t (0, 0)) := by
  rw [setCells_block ds.toList 0 w cs h (by rw [Array.length_toList]; omega)]
  congr 2
  rw [Array.length_toList, Nat.zero_add, hs, List.take_zero, List.nil_append, ← Array.length_toList, List.drop_length, List.append_nil]
theorem Chg.setCells {b : Nat} {w : World} : ∀ (vs : List Value) (o : Nat) (w1 : World), Chg (fun k => k = b) w w1 → Chg (fun k => k = b) w (w1.setCells b o vs)
  | [], _, _, h => h
  | v :: vs, o, _, h => Chg.setCells vs (o + 1) _ (h.setCell (p := ⟨b, o, none⟩) (.inl rfl) v)
theorem thereBlock {b : Nat} {t : TypeId} {w : World} {cs : Array Value} (h : w.heap[b]? = some (.cells cs t (0, 0))) (n : Nat) (hn : n ≤ cs.size) : w.there b 0 n := fun j hj => by
  rw [Nat.zero_add]
  refine ⟨?_, blkFree h j⟩
  rw [blkCell h, Array.getElem?_eq_getElem (by omega)]
  rfl
end Go.Proofs.Ytpdgkgdaaapngaa
