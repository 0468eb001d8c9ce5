/- slices.Delete of one packet out of a slice that the call made itself. -/
import Derived.Test.YtjlkflbkejpcaaaSR2
import Derived.Test.YtjlkflbkejpcaaaProg
import Derived.Deep.RegionLaw
import Derived.IntWalk
import Derived.Outline
namespace Go.Proofs.Ytjlkflbkejpcaaa
open Go.RowKit

/-- A packet. -/
structure Pk where
  f : Int
  t : Int
  b : ByteArray
def Pk.enc (p : Pk) : List Value := [.int .i64 p.f, .int .i64 p.t, .string p.b]
def Pk.val (p : Pk) : Value := .agg #[.int .i64 p.f, .int .i64 p.t, .string p.b]
theorem Pk.len (p : Pk) : (Pk.enc p).length = 3 := rfl
theorem Pk.one (p : Pk) : ∀ u ∈ Pk.enc p, u.oneCell' = true := by
  intro u hu
  simp only [Pk.enc, List.mem_cons, List.not_mem_nil, or_false] at hu
  rcases hu with rfl | rfl | rfl <;> rfl
abbrev PRow := SRow (α := Pk) 45 3 Pk.enc
theorem info_pk : (Try.prog.info? 45).map (fun i => (i.zero, i.size, i.bytes)) = some (some (.agg #[.int .i64 0, .int .i64 0, .string ⟨#[]⟩]), 3, 32) := by kernel_rfl
theorem elem_pk : ElemInfo Try.prog 45 3 32 := ElemInfo.mk' info_pk rfl (by omega)

theorem addZero (g k : Nat) : (⟨g, 0, none⟩ : Addr).add k = ⟨g, k, none⟩ := by unfold Addr.add; split <;> simp_all
theorem run_clear {P : Program} {w w' : World} {t E ty : TypeId} {i : TypeInfo} {z : Value} (ht : P.underlying t = some (.slice E)) (hi : P.info? E = some i) (hz : i.zero = some z) {a : Addr} {n c : Nat} (hn : n ≠ 0) (hs : (storeCells a (Builtin.zeroCells z.cells n).toList).run P w = .ok () w') :
    (Builtin.clear_ #[t] ty #[.slice (some a) n c]).run P w = .ok (.tuple #[]) w' := by
  obtain ⟨m, rfl⟩ : ∃ m, n = m + 1 := ⟨n - 1, by omega⟩
  simp [Builtin.clear_, run_underlying ht, zeroValue, typeInfo, hi, hz, hs]
set_option maxRecDepth 100000 in
set_option maxHeartbeats 1000000 in
theorem Delete_calls (w : World) (A : Option Addr) (c : Nat) (r : Option Nat) (l : List Pk) (i : Nat) (h : PRow w (.slice A l.length c) r l) (hi : i < l.length) :
    Calls Try.prog 66 #[.slice A l.length c, .int .i64 i, .int .i64 ((i : Int) + 1)] w fun e w' => e = .returned (.slice A (l.length - 1) c) ∧ PRow w' (.slice A (l.length - 1) c) r (l.eraseIdx i) ∧ Chg (fun k => r = some k) w w' := by
  obtain ⟨g, cur, rfl, rfl, _, hc, hm, hh, hs, ht⟩ := h.at_ (by omega)
  obtain ⟨i0, hi0, hii⟩ := Option.map_eq_some_iff.1 info_pk
  simp only [Prod.mk.injEq] at hii
  obtain ⟨hz0, hz1, hz2⟩ := hii
  obtain ⟨news, hnews⟩ : ∃ news, news = (l.drop (i + 1)).flatMap Pk.enc := ⟨_, rfl⟩
  have hnl : news.length = (l.length - (i + 1)) * 3 := by rw [hnews, flatLen Pk.len, List.length_drop]
  have hcl : cur.toList.length = c * 3 := by rw [Array.length_toList]; exact hs
  -- the cells that move to the left
  have hsrc : ∀ j u, news[j]? = some u → w.cell? ⟨g, (i + 1) * 3 + j, none⟩ = some u := by
    intro j u hu
    rw [blkCell hh, ← Array.getElem?_toList]
    have h1 := flatDrop Pk.len l (i + 1)
    rw [← hnews] at h1
    rw [← h1, List.getElem?_drop, ← ht, List.getElem?_take] at hu
    split at hu
    · exact hu
    · cases hu
  obtain ⟨A', hA, hsrc'⟩ : ∃ A' : Addr, (if c = i + 1 then some (⟨g, 0, none⟩ : Addr) else some ⟨g, (i + 1) * 3, none⟩) = some A' ∧ Hid (∀ j u, news[j]? = some u → w.drew.cell? (A'.add j) = some u) := by
    by_cases h : c = i + 1
    · refine ⟨⟨g, 0, none⟩, by simp [h], fun j u hu => ?_⟩
      have h0 : news.length = 0 := by rw [hnl]; omega
      rw [List.length_eq_zero_iff.1 h0] at hu
      simp at hu
    · refine ⟨⟨g, (i + 1) * 3, none⟩, by simp [h], fun j u hu => ?_⟩
      rw [Addr.add_lit]
      exact hsrc j u hu
  -- what the row holds behind the append
  obtain ⟨cur1, hcur1⟩ : ∃ cur1 : Array Value, cur1 = (cur.toList.take (i * 3) ++ news ++ cur.toList.drop (i * 3 + news.length)).toArray := ⟨_, rfl⟩
  have hs1 : cur1.size = c * 3 := by
    rw [hcur1]
    simp only [List.size_toArray, List.length_append, List.length_take, List.length_drop, hcl, hnl]
    omega
  have ht1 : cur1.toList.take ((l.length - 1) * 3) = (l.eraseIdx i).flatMap Pk.enc := by
    have h1 : cur.toList.take (i * 3) = (l.take i).flatMap Pk.enc := by
      have h2 := flatTake Pk.len l i
      rw [← ht, List.take_take, Nat.min_eq_left (by omega)] at h2
      exact h2
    have h3 : (cur.toList.take (i * 3) ++ news).length = (l.length - 1) * 3 := by
      rw [List.length_append, List.length_take, hcl, hnl]
      omega
    rw [hcur1, List.toList_toArray, ← h3, List.take_left, h1, hnews, ← List.flatMap_append, List.eraseIdx_eq_take_drop_succ]
  obtain ⟨W1, hW1⟩ : ∃ W1, W1 = w.drew.setRow g cur1 := ⟨_, rfl⟩
  have hh1 : W1.heap[g]? = some (.cells cur1 45 (0, 0)) := by rw [hW1]; exact setRow_heap w.drew g cur cur1 _ _ hh
  -- the clearing of the place that is free now
  obtain ⟨cur2, hcur2⟩ : ∃ cur2 : Array Value, cur2 = (cur1.toList.take ((l.length - 1) * 3) ++ [Value.int .i64 0, .int .i64 0, .string ⟨#[]⟩] ++ cur1.toList.drop ((l.length - 1) * 3 + 3)).toArray := ⟨_, rfl⟩
  have hc1l : cur1.toList.length = c * 3 := by rw [Array.length_toList]; exact hs1
  have hclr : (storeCells ⟨g, (l.length - 1) * 3, none⟩ [.int .i64 0, .int .i64 0, .string ⟨#[]⟩]).run Try.prog W1 = .ok () (W1.setRow g cur2) := by
    have h := run_storeCells_at Try.prog g ((l.length - 1) * 3) 45 [.int .i64 0, .int .i64 0, .string ⟨#[]⟩] 0 cur1 W1 hh1 (by rw [hs1]; simp; omega) (by simp [Value.oneCell'])
    rw [hcur2]
    exact h
  have hzc : (Builtin.zeroCells (Value.agg #[.int .i64 0, .int .i64 0, .string ⟨#[]⟩]).cells 1).toList = [.int .i64 0, .int .i64 0, .string ⟨#[]⟩] := by kernel_rfl
  have hclx : ∀ (ty : TypeId) (k c' : Nat), k = i + (l.length - (i + 1)) → (Builtin.clear_ #[39] ty #[.slice (some ⟨g, k * 3, none⟩) (l.length - k) c']).run Try.prog W1 = .ok (.tuple #[]) (W1.setRow g cur2) := by
    intro ty k c' hk
    have e1 : k = l.length - 1 := by omega
    have e2 : l.length - k = 1 := by omega
    rw [e2, e1]
    exact run_clear Try.underlying39 hi0 hz0 (by omega) (by rw [hzc]; exact hclr)
  have hcly := fun ty c' => hclx ty (l.length - 1) c' (by omega)
  have HE : Hid (PRow (W1.setRow g cur2) (.slice (some ⟨g, 0, none⟩) (l.length - 1) c) (some g) (l.eraseIdx i) ∧ Chg (fun k => some g = some k) w (W1.setRow g cur2)) := by
    refine ⟨SRow.remade Pk.len (setRow_heap W1 g cur1 cur2 _ _ hh1) ?_ _ ?_ (by omega) hm ?_, ?_⟩
    · rw [hcur2]
      simp only [List.size_toArray, List.length_append, List.length_take, List.length_drop, hc1l, List.length_cons, List.length_nil]
      omega
    · rw [List.length_eraseIdx, if_pos hi]
    · rw [hcur2, List.toList_toArray, ← ht1, List.append_assoc, List.take_left' (by rw [List.length_take, hc1l]; omega)]
    · rw [hW1]
      exact Chg.setRow (Chg.setRow (Chg.drew (Chg.refl (fun k => some g = some k) w)) (.inl rfl) _) (.inl rfl) _
  clear hclx hclr
  have hW : Hid (W1 = w.drew.setRow g cur1) := hW1
  have HS := Lib.hid hsrc'
  have HH : Hid (w.drew.heap[g]? = some (.cells cur 45 (0, 0))) := hh
  have HN : Hid (news.length = (l.length - (i + 1)) * i0.size) := by rw [hz1]; exact hnl
  have H1 : Hid (∀ u ∈ news, u.oneCell' = true) := by
    intro u hu
    rw [hnews] at hu
    obtain ⟨x, _, hx⟩ := List.mem_flatMap.1 hu
    exact Pk.one x u hx
  have HF : Hid (i * i0.size + news.length ≤ cur.size) := by rw [hz1, hnl, hs]; show _ ≤ _; omega
  have HC : Hid (cur1 = (cur.toList.take (i * i0.size) ++ news ++ cur.toList.drop (i * i0.size + news.length)).toArray) := by rw [hz1]; exact hcur1
  have hic : i ≤ c := by omega
  have hjc : i + 1 ≤ c := by omega
  have hp0 : (0 : Int) ≤ (i : Int) + 1 := by omega
  have hp1 : (i : Int) + 1 ≤ (l.length : Int) := by omega
  have hnn : ((i : Int) == (i : Int) + 1) = false := by simp; omega
  clear hW1 hh1 hcur1 hs1 ht1 hcur2 hc1l hsrc hsrc' hnl hnews hcl hh h ht
  go_enter Try.func66, Try.ntmps66
  go_wp2_with fail
  go_region_law (refine step_within w.drew rfl (.tmp 22) (.tmp 25) 39 45 i0 rfl Try.underlying39 hi0 g i c (by simp [Act.eval, Act.put]) cur HH.out A' (l.length - (i + 1)) (c - (i + 1)) (by simp [Act.eval, Act.put]) news HN.out HS.out H1.out (by omega) HF.out ?_; rw [← HC.out, ← hW.out])
  go_goals
  have hlen : i + (l.length - (i + 1)) = l.length - 1 := by omega
  go_wp2
  go_ret
  exact ⟨rfl, HE.out.1, HE.out.2⟩
end Go.Proofs.Ytjlkflbkejpcaaa
