/- append(s, make([]byte, m)...), s fresh out of a string: the bytes and the zeros. -/
import Derived.Test.YtcdafblllikonaaRow2
import Derived.Test.YtcdafblllikonaaShW
import Derived.Laws.IdiomCopy
import Derived.Laws.IdiomStrings
namespace Go.Proofs.Ytcdafblllikonaa
open Go.RowKit
section
variable {P : Program}
theorem zAt (bs : List UInt8) (m j : Nat) (hj : j < (bs ++ List.replicate m (0 : UInt8)).length) (h : bs.length ≤ j) : (bs ++ List.replicate m (0 : UInt8))[j] = 0 := by
  rw [List.getElem_append_right h, List.getElem_replicate]
theorem run_append_zs (w : World) (t u ty e : TypeId) (i : TypeInfo) (ht : P.underlying t = some (.slice e)) (hu : P.underlying u = some (.int .i64)) (hi : P.info? e = some i) (hz : i.zero = some (.int .u8 0)) (hsize : i.size = 1) (hby : i.bytes = 1)
    (g cap m : Nat) (bs : List UInt8) (_hn : bs.length ≤ cap) (hm0 : 0 < m) (hm : m ≤ 1024) (hl : bs.length + m ≤ 140737488355328)
    (hc : ∀ j (hj : j < bs.length), w.cell? ⟨g, j, none⟩ = some (.int .u8 (bs[j].toNat : Int)))
    (hf : ∀ j, bs.length ≤ j → j < cap → (w.cell? ⟨g, j, none⟩).isSome = true ∧ w.frozen? ⟨g, j, none⟩ = false) :
    ∃ g' c' w', (Builtin.append_ #[t, u] ty #[.slice (some ⟨g, 0, none⟩) bs.length cap, .int .i64 m]).run P w = .ok (.slice (some ⟨g', 0, none⟩) (bs.length + m) c') w' ∧
      (∀ j (hj : j < (bs ++ List.replicate m (0 : UInt8)).length), w'.cell? ⟨g', j, none⟩ = some (.int .u8 ((bs ++ List.replicate m (0 : UInt8))[j].toNat : Int))) ∧ Chg (fun k => k = g) w w' := by
  have hwrap : IntKind.i64.wrap (m : Int) = m := by rw [IntKind.wrap_i64]; omega
  have hneg : ¬ ((m : Int) < 0) := by omega
  have hai : ∀ (x : Int) (w0 : World), (asInt (.int .i64 x)).run P w0 = .ok x w0 := fun _ _ => rfl
  have hbig : ¬ (281474976710656 < (m : Int)) := by omega
  have hnlen : (bcells (List.replicate m 0)).length = m := by rw [bcells_length, List.length_replicate]
  have hm1 : m ≠ 0 := by omega
  have hone : ∀ u ∈ bcells (List.replicate m 0), u.oneCell' = true := by
    intro u hu
    simp only [bcells, List.mem_map] at hu
    obtain ⟨b, _, rfl⟩ := hu
    rfl
  by_cases hroom : bs.length + m ≤ cap
  · have hst := run_storeCells_cells (P := P) g bs.length (bcells (List.replicate m 0)) 0 w (fun j hj => (hf _ (by omega) (by omega)).1) (fun j hj => (hf _ (by omega) (by omega)).2) hone
    rw [Nat.add_zero] at hst
    refine ⟨g, cap, w.setCells g bs.length (bcells (List.replicate m 0)), ?_, ?_, ?_⟩
    · simp only [Builtin.append_]
      simp [run_underlying ht, run_underlying hu, hai, sizeOf, typeInfo, zeroValue, hi, hz, hsize, hby, hwrap, hneg, hbig, hroom, Addr.add_lit, hm1, zeroBytes, hst]
    · intro j hj
      by_cases hjb : j < bs.length
      · rw [World.cell?_setCells_out _ _ _ _ _ (fun _ _ => .inl hjb), hc j hjb, List.getElem_append_left hjb]
      · have h3 := World.cell?_setCells_in g (bcells (List.replicate m 0)) bs.length w (fun j hj => (hf _ (by omega) (by omega)).1) (j - bs.length) (by rw [hnlen]; rw [List.length_append, List.length_replicate] at hj; omega)
        rw [show bs.length + (j - bs.length) = j from by omega] at h3
        rw [h3, zAt bs m j hj (by omega)]
        simp [bcells]
    · exact Chg.setCells _ _ _ (Chg.refl _ w)
  · have hfo := run_firstCells_some (P := P) w.drew i.size bs.length ⟨g, 0, none⟩ bs.length cap (bcells bs) (by rw [hsize, bcells_length]; omega) (fun j v hv => by
      rw [Addr.add_mid, Nat.zero_add]
      have hj : j < bs.length := by have := (List.getElem?_eq_some_iff.1 hv).1; simpa [bcells_length] using this
      have h2 := hc j hj
      simp only [bcells, List.getElem?_map, List.getElem?_eq_getElem hj, Option.map_some, Option.some.injEq] at hv
      rw [← hv]
      exact h2)
    have h63 : ¬ (9223372036854775807 < ((bs.length : Int) + (m : Int))) := by omega
    have hg0 := growslice_fits (need := bs.length + m) (old := cap) (bytes := 1) (by omega) (by omega)
    have h48 : ¬ (281474976710656 < Builtin.nextslicecap (bs.length + m) cap) := by omega
    refine ⟨w.heap.size, grownCap w (bs.length + m) cap e, w.drew.alloc (.cells ((bcells bs).toArray ++ (bcells (List.replicate m 0)).toArray ++ Builtin.zeroCells (Value.int .u8 0).cells (grownCap w (bs.length + m) cap e - (bs.length + m))) e), ?_, ?_, ?_⟩
    · simp only [Builtin.append_]
      rw [hsize] at hfo
      simp [run_underlying ht, run_underlying hu, hai, sizeOf, typeInfo, zeroValue, hi, hz, hsize, hby, hwrap, hneg, hbig, hroom, h63, h48, Question.forced, hfo, newRow, grownCap, hm1]
      congr 2
      apply Array.ext'
      simp [List.append_assoc, zeroBytes]
    · intro j hj
      have hb := heap_alloc_new w.drew (.cells ((bcells bs).toArray ++ (bcells (List.replicate m 0)).toArray ++ Builtin.zeroCells (Value.int .u8 0).cells (grownCap w (bs.length + m) cap e - (bs.length + m))) e)
      rw [show w.drew.heap.size = w.heap.size from rfl] at hb
      rw [cell_of_row _ _ _ _ _ _ hb]
      have hj2 := hj
      rw [List.length_append, List.length_replicate] at hj2
      rw [Array.getElem?_append_left (by rw [Array.size_append, List.size_toArray, List.size_toArray, bcells_length, hnlen]; exact hj2)]
      have hcat : (bcells bs).toArray ++ (bcells (List.replicate m 0)).toArray = (bcells (bs ++ List.replicate m 0)).toArray := by simp [bcells]
      rw [hcat, List.getElem?_toArray]
      simp only [bcells, List.getElem?_map, List.getElem?_eq_getElem hj, Option.map_some]
    · exact ((Chg.refl _ w).drew).alloc _
theorem bytesRow_len (s : ByteArray) (c : Nat) (h : s.size ≤ c) : (bytesRow s c).size = c := by
  unfold bytesRow
  rw [Array.size_append, Array.size_map, Array.size_replicate]
  have : s.data.size = s.size := rfl
  omega
theorem strRow (w : World) (s : ByteArray) (e : TypeId) (c : Nat) (h : s.size ≤ c) :
    (∀ j (hj : j < s.data.toList.length), (w.alloc (.cells (bytesRow s c) e ((bytesRow s c).size, (bytesRow s c).size + 1))).cell? ⟨w.heap.size, j, none⟩ = some (.int .u8 (s.data.toList[j].toNat : Int))) ∧
    (∀ j, s.data.toList.length ≤ j → j < c → ((w.alloc (.cells (bytesRow s c) e ((bytesRow s c).size, (bytesRow s c).size + 1))).cell? ⟨w.heap.size, j, none⟩).isSome = true ∧
      (w.alloc (.cells (bytesRow s c) e ((bytesRow s c).size, (bytesRow s c).size + 1))).frozen? ⟨w.heap.size, j, none⟩ = false) := by
  have hb := heap_alloc_new w (.cells (bytesRow s c) e ((bytesRow s c).size, (bytesRow s c).size + 1))
  have hz := bytesRow_len s c h
  refine ⟨fun j hj => ?_, fun j hj hjc => ⟨?_, ?_⟩⟩
  · rw [cell_of_row _ _ _ _ _ _ hb, bytesRow_at s c j (by simpa using hj)]
    simp
  · rw [cell_of_row _ _ _ _ _ _ hb, Array.getElem?_eq_getElem (by rw [hz]; exact hjc)]
    rfl
  · unfold World.frozen?
    rw [hb]
    show (decide ((bytesRow s c).size ≤ j) && decide (j < (bytesRow s c).size + 1)) = false
    rw [hz, decide_eq_false (by omega)]
    rfl
end
section
variable {P : Program} {ops : Array Oper} {rest : List Oper} {o : Oper} {a : Act} {Q : Exit → Act → World → Prop}
theorem wpList_append_zs (w : World) (hgd : o.guard = none) (sl x : Operand) (t u e st : TypeId) (ho : o.op = .call { callee := .builtin .append, args := #[sl, x], argTypes := #[t, u] })
    (ht : P.underlying t = some (.slice e)) (hu : P.underlying u = some (.int .i64)) (he : P.underlying e = some (.int .u8)) (hst : P.underlying st = some .string) (hinfo : (P.info? e).map (fun i => (i.zero, i.size, i.bytes)) = some (some (.int .u8 0), 1, 1))
    (s : ByteArray) (m : Nat) (hs : a.eval sl = .slice (some ⟨w.heap.size, 0, none⟩) s.size (grownCap w s.size 0 e)) (hx : a.eval x = .int .i64 m) (hm0 : 0 < m) (hm : m ≤ 1024) (hl : s.size + m ≤ 140737488355328)
    (hk : ∀ g' c' w' (y : ByteArray), y.size = s.size + m → (convert t st (.slice (some ⟨g', 0, none⟩) (s.size + m) c')).run P w' = .ok (.string y) w' → Chg (fun _ => False) w w' → wpList P ops Q rest (a.put o.dst (.slice (some ⟨g', 0, none⟩) (s.size + m) c')) w') :
    wpList P ops Q (o :: rest) a (w.alloc (.cells (bytesRow s (grownCap w s.size 0 e)) e ((bytesRow s (grownCap w s.size 0 e)).size, (bytesRow s (grownCap w s.size 0 e)).size + 1))).drew := by
  obtain ⟨i, hi, hzz⟩ := Option.map_eq_some_iff.1 hinfo
  simp only [Prod.mk.injEq] at hzz
  obtain ⟨hz0, hz1, hz2⟩ := hzz
  have hge := grownCap_ge w s.size 0 e
  obtain ⟨h1, h2⟩ := strRow w.drew s e (grownCap w s.size 0 e) hge
  have hsl : s.data.toList.length = s.size := Array.length_toList
  obtain ⟨g', c', w', hr, hcl, hch⟩ := run_append_zs (P := P) (w.drew.alloc (.cells (bytesRow s (grownCap w s.size 0 e)) e ((bytesRow s (grownCap w s.size 0 e)).size, (bytesRow s (grownCap w s.size 0 e)).size + 1))) t u o.type e i ht hu hi hz0 hz1 hz2 w.heap.size (grownCap w s.size 0 e) m s.data.toList (by rw [hsl]; exact hge) hm0 hm (by rw [hsl]; exact hl) h1 h2
  rw [hsl] at hr
  have hcv := run_convert_bytes_back (P := P) w' t st e ⟨g', 0, none⟩ c' (s.data.toList ++ List.replicate m 0) ht he hst (fun j hj => by rw [Addr.add_mid, Nat.zero_add]; exact hcl j hj)
  rw [List.length_append, hsl, List.length_replicate] at hcv
  have hw : (w.alloc (.cells (bytesRow s (grownCap w s.size 0 e)) e ((bytesRow s (grownCap w s.size 0 e)).size, (bytesRow s (grownCap w s.size 0 e)).size + 1))).drew = w.drew.alloc (.cells (bytesRow s (grownCap w s.size 0 e)) e ((bytesRow s (grownCap w s.size 0 e)).size, (bytesRow s (grownCap w s.size 0 e)).size + 1)) := rfl
  rw [hw]
  refine wpList_plain hgd fun K hK => ?_
  unfold Oper.wp execOp
  simp only [ho, resolve, invoke, builtin, Sem.run_bind, Sem.run_pure, Result.andThen_ok, List.map_toArray, List.map_cons, List.map_nil, hs, hx, hr]
  refine hK _ _ (hk g' c' w' _ ?_ hcv ((((Chg.refl _ w).drew).alloc _).trans hch (fun k e => .inr (by subst e; exact Nat.le_refl _))))
  show (s.data.toList ++ List.replicate m 0).toArray.size = s.size + m
  rw [List.size_toArray, List.length_append, hsl, List.length_replicate]
end
end Go.Proofs.Ytcdafblllikonaa
