/- The digits of a text, in plain Lean; rows of eighteen numbers; the bytes of a string. -/
import Derived.Test.YtpdgkgdaaapngaaOt2
import Derived.Test.YtpdgkgdaaapngaaShW
import Derived.StillTailTactics
import Derived.IntWalk
import Derived.Laws.IdiomStrings
namespace Go.Proofs.Ytpdgkgdaaapngaa
open Go.RowKit
def dcells (ws : List Int) : Array Value := (ws.map (Value.int .i64) ++ List.replicate (18 - ws.length) (Value.int .i64 0)).toArray
theorem dcells_size (ws : List Int) (h : ws.length ≤ 18) : (dcells ws).size = 18 := by
  unfold dcells
  rw [List.size_toArray, List.length_append, List.length_map, List.length_replicate]
  omega
theorem dcells_get (ws : List Int) (j : Nat) (h : j < ws.length) : (dcells ws)[j]? = some (.int .i64 (ws.getD j 0)) := by
  unfold dcells
  rw [List.getElem?_toArray, List.getElem?_append_left (by rw [List.length_map]; exact h), List.getElem?_map, List.getElem?_eq_getElem h, List.getD_eq_getElem?_getD, List.getElem?_eq_getElem h]
  rfl
theorem dcells_zero (ws : List Int) (j : Nat) (h : ws.length ≤ j) (h2 : j < 18) : (dcells ws)[j]? = some (.int .i64 0) := by
  unfold dcells
  rw [List.getElem?_toArray, List.getElem?_append_right (by rw [List.length_map]; exact h), List.length_map, List.getElem?_replicate, if_pos (by omega)]
theorem dcells_set (ws : List Int) (x : Int) (h : ws.length < 18) : (dcells ws).setIfInBounds ws.length (.int .i64 x) = dcells (ws ++ [x]) := by
  unfold dcells
  obtain ⟨m, hm⟩ : ∃ m, 18 - ws.length = m + 1 := ⟨18 - ws.length - 1, by omega⟩
  have hm2 : 18 - (ws ++ [x]).length = m := by rw [List.length_append, List.length_singleton]; omega
  rw [hm, hm2, List.replicate_succ, List.setIfInBounds_toArray]
  congr 1
  rw [List.set_append_right _ _ (by rw [List.length_map]; omega), List.length_map, Nat.sub_self, List.set_cons_zero, List.map_append, List.append_assoc]
  rfl
theorem dSet {w : World} {b : Nat} {T : TypeId} {ws : List Int} (h : w.heap[b]? = some (.cells (dcells ws) T (0, 0))) (x : Int) (hl : ws.length < 18) (k : Nat) (hk : ws.length = k) : (w.setCell ⟨b, k, none⟩ (.int .i64 x)).heap[b]? = some (.cells (dcells (ws ++ [x])) T (0, 0)) := by
  subst hk
  rw [blkSet h, dcells_set ws x hl]
theorem dAt {w : World} {b : Nat} {T : TypeId} {ws : List Int} (h : w.heap[b]? = some (.cells (dcells ws) T (0, 0))) (j : Nat) (hj : j < ws.length) : w.cell? ⟨b, j, none⟩ = some (.int .i64 (ws.getD j 0)) := by
  rw [blkCell h, dcells_get ws j hj]
theorem dFree {w : World} {b : Nat} {T : TypeId} {ws : List Int} (h : w.heap[b]? = some (.cells (dcells ws) T (0, 0))) (j : Nat) (hj : ws.length ≤ j) (h2 : j < 18) : w.cell? ⟨b, j, none⟩ = some (.int .i64 0) := by
  rw [blkCell h, dcells_zero ws j hj h2]
theorem dcells_nil : dcells [] = #[.int .i64 0, .int .i64 0, .int .i64 0, .int .i64 0, .int .i64 0, .int .i64 0, .int .i64 0, .int .i64 0, .int .i64 0, .int .i64 0, .int .i64 0, .int .i64 0, .int .i64 0, .int .i64 0, .int .i64 0, .int .i64 0, .int .i64 0, .int .i64 0] := rfl
/-- The digits of eight bytes. -/
def digL (b : Nat → Int) : Nat → List Int
  | 0 => []
  | c + 1 => digL b c ++ [b c / 16, b c % 16]
def sumD (b : Nat → Int) : Nat → Int
  | 0 => 0
  | c + 1 => sumD b c + (30 - b c / 16 - b c % 16)
def digA (b : Nat → Int) : List Int := digL b 8 ++ [sumD b 8 / 16, sumD b 8 % 16]
theorem digL_len (b : Nat → Int) (c : Nat) : (digL b c).length = 2 * c := by
  induction c with
  | zero => rfl
  | succ c ih =>
    rw [digL, List.length_append, ih]
    simp
    omega
theorem digA_len (b : Nat → Int) : (digA b).length = 18 := by rw [digA, List.length_append, digL_len]; rfl
theorem sumD_range (b : Nat → Int) (hb : ∀ j, 0 ≤ b j ∧ b j < 256) (c : Nat) : 0 ≤ sumD b c ∧ sumD b c ≤ 30 * c := by
  induction c with
  | zero => exact ⟨Int.le_refl 0, by simp [sumD]⟩
  | succ c ih =>
    have := hb c
    simp only [sumD]
    omega
theorem digL_range (b : Nat → Int) (hb : ∀ j, 0 ≤ b j ∧ b j < 256) (c : Nat) : ∀ x ∈ digL b c, 0 ≤ x ∧ x ≤ 15 := by
  induction c with
  | zero => intro x hx; cases hx
  | succ c ih =>
    intro x hx
    simp only [digL, List.mem_append, List.mem_cons, List.not_mem_nil, or_false] at hx
    have := hb c
    rcases hx with hx | rfl | rfl
    · exact ih x hx
    · omega
    · omega
theorem digA_range (b : Nat → Int) (hb : ∀ j, 0 ≤ b j ∧ b j < 256) (j : Nat) : 0 ≤ (digA b).getD j 0 ∧ (digA b).getD j 0 ≤ 15 := by
  have H : ∀ x ∈ digA b, 0 ≤ x ∧ x ≤ 15 := by
    intro x hx
    have := sumD_range b hb 8
    simp only [digA, List.mem_append, List.mem_cons, List.not_mem_nil, or_false] at hx
    rcases hx with hx | rfl | rfl
    · exact digL_range b hb 8 x hx
    · omega
    · omega
  rw [List.getD_eq_getElem?_getD]
  cases h : (digA b)[j]? with
  | none => exact ⟨by decide, by decide⟩
  | some x => exact H x (List.mem_of_getElem? h)
/-- The digits of a text. -/
def digF (text : ByteArray) : List Int := digA (byteAt (tagF 34 [text]).data.toList)
theorem mask15 (s : Int) (h0 : 0 ≤ s) (h1 : s ≤ 240) : bits .and .i64 s 15 = s % 16 := by
  have H : ∀ k : Fin 241, bits .and .i64 (k.val : Int) 15 = (k.val : Int) % 16 := by decide +kernel
  have := H ⟨s.toNat, by omega⟩
  simpa [Int.toNat_of_nonneg h0] using this
theorem strIdx (h : ByteArray) (hsz : h.size = 32) (c : Nat) (hc : c < 32) (w : World) : (Instr.index 9 (.string h) (.int .i64 (c : Int))).run Try.prog w = .ok (.int .u8 (byteAt h.data.toList c)) w := by
  have hc2 : c < h.data.size := by have h2 : h.data.size = 32 := hsz; omega
  rw [run_index_string w 9 h .i64 (c : Int) Try.underlying9, dif_pos ⟨by omega, by omega⟩]
  have e : byteAt h.data.toList c = ((h[c]'hc2).toNat : Int) := by
    simp [byteAt, List.getD_eq_getElem?_getD]
    rw [Array.getElem?_eq_getElem hc2]
    rfl
  rw [e]
  rfl
theorem dRange {w : World} {b : Nat} {T : TypeId} {ws : List Int} (h : w.heap[b]? = some (.cells (dcells ws) T (0, 0))) : w.rangeAt b 0 (dcells ws).toList := by
  intro j v hv
  rw [Nat.zero_add, blkCell h]
  simpa using hv
theorem dcells_one (ws : List Int) : (dcells ws).all (·.oneCell') = true := by
  unfold dcells
  refine all_oneCell_toArray (fun v hv => ?_)
  rw [List.mem_append] at hv
  rcases hv with hv | hv
  · obtain ⟨x, _, rfl⟩ := List.mem_map.1 hv
    rfl
  · obtain rfl := List.eq_of_mem_replicate hv
    rfl
theorem blkAlloc' (w : World) (o : Obj) : (w.alloc o).heap[w.heap.size]? = some o := by
  show (w.heap.push o)[w.heap.size]? = _
  simp
theorem conv8 (w : World) (s : ByteArray) (h : s.size = 32) : ∃ (C : Nat) (o : Obj), (convert 9 34 (.string (s.extract 0 8))).run Try.prog w = .ok (.slice (some ⟨w.heap.size, 0, none⟩) 8 C) (w.drew.alloc o) ∧ ∀ j, j < 8 → (w.drew.alloc o).cell? ⟨w.heap.size, j, none⟩ = some (.int .u8 (byteAt s.data.toList j)) := by
  have h8 : (s.extract 0 8).size = 8 := by simp [h]
  have hrun := run_bytes_of_string (P := Try.prog) w 9 34 5 (s.extract 0 8) Try.underlying9 Try.underlying34 Try.underlying5
  rw [h8] at hrun
  refine ⟨_, _, hrun, fun j hj => ?_⟩
  have hj32 : j < s.data.size := by have h2 : s.data.size = 32 := h; omega
  have hc : ∀ C, (bytesRow (s.extract 0 8) C)[j]? = some (.int .u8 (byteAt s.data.toList j)) := by
    intro C
    rw [bytesRow_at _ _ j (by have := h8; simp only [ByteArray.size] at this; omega)]
    simp [byteAt, ByteArray.data_extract, List.getD_eq_getElem?_getD]
    rw [Array.getElem?_eq_getElem hj32]
    rfl
  have hb := blkAlloc' w.drew (.cells (bytesRow (s.extract 0 8) (grownCap w 8 0 5)) 5 ((bytesRow (s.extract 0 8) (grownCap w 8 0 5)).size, (bytesRow (s.extract 0 8) (grownCap w 8 0 5)).size + 1))
  exact (cell_of_row _ _ _ _ _ _ hb).trans (hc _)
end Go.Proofs.Ytpdgkgdaaapngaa
