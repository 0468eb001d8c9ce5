/- Slices of structs that the call made itself: what they hold, append, and the removal of one element. -/
import Derived.Test.YtpdgkgdaaapngaaRow
namespace Go.Proofs.Ytpdgkgdaaapngaa
open Go.RowKit

/-- v is a row of elements l of the type E (sz cells each, as enc lays them); r: its block. -/
def SRow {α : Type} (E : TypeId) (sz : Nat) (enc : α → List Value) (w : World) (v : Value) (r : Option Nat) (l : List α) : Prop :=
  w.ownsRow 0 E sz v l.length (l.flatMap enc) ∧ v.ownBlock = r
theorem flatLen {α : Type} {sz : Nat} {enc : α → List Value} (he : ∀ x, (enc x).length = sz) (l : List α) : (l.flatMap enc).length = l.length * sz := by
  induction l with
  | nil => simp
  | cons x l ih => rw [List.flatMap_cons, List.length_append, ih, he, List.length_cons, Nat.add_mul]; omega
theorem flatTake {α : Type} {sz : Nat} {enc : α → List Value} (he : ∀ x, (enc x).length = sz) (l : List α) (k : Nat) : (l.flatMap enc).take (k * sz) = (l.take k).flatMap enc := by
  induction l generalizing k with
  | nil => simp
  | cons x l ih =>
    cases k with
    | zero => simp
    | succ k =>
      rw [List.flatMap_cons, List.take_succ_cons, List.flatMap_cons, Nat.add_mul, Nat.one_mul, Nat.add_comm (k * sz) sz, ← he x, List.take_length_add_append, he x, ih]
theorem flatDrop {α : Type} {sz : Nat} {enc : α → List Value} (he : ∀ x, (enc x).length = sz) (l : List α) (k : Nat) : (l.flatMap enc).drop (k * sz) = (l.drop k).flatMap enc := by
  induction l generalizing k with
  | nil => simp
  | cons x l ih =>
    cases k with
    | zero => simp
    | succ k =>
      rw [List.flatMap_cons, List.drop_succ_cons, Nat.add_mul, Nat.one_mul, Nat.add_comm (k * sz) sz, ← he x, List.drop_length_add_append, he x, ih]
theorem flatGet {α : Type} {sz : Nat} {enc : α → List Value} (he : ∀ x, (enc x).length = sz) (l : List α) (j i : Nat) (x : α) (h : l[j]? = some x) (hi : i < sz) : (l.flatMap enc)[j * sz + i]? = (enc x)[i]? := by
  have h1 := flatDrop he l j
  have hj : j < l.length := (List.getElem?_eq_some_iff.1 h).1
  have hx : l[j] = x := (List.getElem?_eq_some_iff.1 h).2
  rw [List.drop_eq_getElem_cons hj, hx, List.flatMap_cons] at h1
  have h2 : ((l.flatMap enc).drop (j * sz))[i]? = (enc x)[i]? := by
    rw [h1, List.getElem?_append_left (by rw [he]; exact hi)]
  rwa [List.getElem?_drop] at h2
theorem flatSet {α : Type} {sz : Nat} {enc : α → List Value} (he : ∀ x, (enc x).length = sz) (l : List α) (j i : Nat) (x : α) (u : Value) (y : α) (h : l[j]? = some x) (hi : i < sz) (hy : enc y = (enc x).set i u) : (l.flatMap enc).set (j * sz + i) u = (l.set j y).flatMap enc := by
  have hj : j < l.length := (List.getElem?_eq_some_iff.1 h).1
  have hx : l[j] = x := (List.getElem?_eq_some_iff.1 h).2
  have hl : l = l.take j ++ x :: l.drop (j + 1) := by
    rw [← hx, ← List.drop_eq_getElem_cons hj, List.take_append_drop]
  have hlen : (List.take j l).length = j := by rw [List.length_take]; omega
  have h2 : l.set j y = l.take j ++ y :: l.drop (j + 1) := by
    rw [List.set_eq_take_append_cons_drop, if_pos hj]
  rw [h2]
  conv => lhs; rw [hl]
  rw [List.flatMap_append, List.flatMap_cons, List.flatMap_append, List.flatMap_cons, hy]
  rw [List.set_append_right _ _ (by rw [flatLen he, hlen]; omega), flatLen he, hlen, Nat.add_sub_cancel_left, List.set_append_left _ _ (by rw [he]; exact hi)]

section
variable {α : Type} {E : TypeId} {sz : Nat} {enc : α → List Value} {w w1 : World} {v : Value} {r : Option Nat} {l : List α} {S : Nat → Prop}
theorem SRow.nil (w : World) : SRow E sz enc w (.slice none 0 0) none [] := ⟨World.ownsRow_nil w 0 _ sz, rfl⟩
theorem SRow.lt (h : SRow E sz enc w v r l) {k : Nat} (hk : r = some k) : k < w.heap.size ∧ ∃ cs, w.heap[k]? = some (.cells cs E (0, 0)) := by
  obtain ⟨⟨_, h2⟩, rfl⟩ := h
  rcases h2 with ⟨rfl, _⟩ | ⟨g, cap, cur, rfl, _, hh, _⟩
  · simp [Value.ownBlock] at hk
  · have : g = k := by simpa [Value.ownBlock] using hk
    subst this
    exact ⟨(Array.getElem?_eq_some_iff.1 hh).1, _, hh⟩
theorem SRow.step (h : SRow E sz enc w v r l) (hb : ∀ k, r = some k → w1.heap[k]? = w.heap[k]?) : SRow E sz enc w1 v r l := by
  obtain ⟨⟨h1, h2⟩, rfl⟩ := h
  refine ⟨⟨h1, ?_⟩, rfl⟩
  rcases h2 with h2 | ⟨g, cap, cur, rfl, hg, hh, r⟩
  · exact .inl h2
  · exact .inr ⟨g, cap, cur, rfl, hg, by rw [hb g rfl]; exact hh, r⟩
theorem SRow.chg (h : SRow E sz enc w v r l) (c : Chg S w w1) (hn : ∀ k, r = some k → ¬ S k) : SRow E sz enc w1 v r l :=
  h.step fun k hk => c.block k (h.lt hk).1 (hn k hk)
theorem SRow.alloc (h : SRow E sz enc w v r l) (o : Obj) : SRow E sz enc (w.alloc o) v r l := h.step fun k hk => Below.heap_alloc w o k (h.lt hk).1
theorem SRow.set (h : SRow E sz enc w v r l) {p : Addr} (hp : r ≠ some p.block) (u : Value) : SRow E sz enc (w.setCell p u) v r l :=
  h.step fun k hk => Below.heap_setCell w p u k (fun e => hp (by rw [hk, e]))
theorem SRow.form (h : SRow E sz enc w v r l) : ∃ A c, v = .slice A l.length c ∧ l.length ≤ c ∧ c ≤ 9223372036854775807 := by
  obtain ⟨⟨_, h2⟩, _⟩ := h
  rcases h2 with ⟨rfl, h0⟩ | ⟨g, cap, cur, rfl, _, _, hn, hm, _⟩
  · exact ⟨none, 0, by rw [h0], by omega, by omega⟩
  · exact ⟨_, _, rfl, hn, by simp only [maxLen] at hm; omega⟩
theorem SRow.ne (h : SRow E sz enc w v r l) {t : TypeId} {cs : Array Value} {g : Nat} (hg : w.heap[g]? = some (.cells cs t (0, 0))) (hne : t ≠ E) : r ≠ some g := by
  intro hk
  obtain ⟨_, cs', hh⟩ := h.lt hk
  rw [hg] at hh
  injection hh with hh
  injection hh with _ ht
  exact hne ht
/-- A row with an element lies at the head of a block. -/
theorem SRow.at_ {A : Option Addr} {n c : Nat} (h : SRow E sz enc w (.slice A n c) r l) (hl : 0 < l.length) :
    ∃ g cur, A = some ⟨g, 0, none⟩ ∧ r = some g ∧ n = l.length ∧ l.length ≤ c ∧ c ≤ 9223372036854775807 ∧ w.heap[g]? = some (.cells cur E (0, 0)) ∧ cur.size = c * sz ∧ cur.toList.take (l.length * sz) = l.flatMap enc := by
  obtain ⟨⟨_, h2⟩, hr⟩ := h
  rcases h2 with ⟨_, h0⟩ | ⟨g, cap, cur, he, _, hh, hn, hm, hs, ht⟩
  · omega
  · injection he with h1 h2 h3
    subst h1 h2 h3
    exact ⟨g, cur, rfl, hr.symm, rfl, hn, by simp only [maxLen] at hm; omega, hh, hs, ht⟩
theorem SRow.cell {g n c : Nat} (h : SRow E sz enc w (.slice (some ⟨g, 0, none⟩) n c) r l) (he : ∀ x, (enc x).length = sz) (j i : Nat) (x : α) (hj : l[j]? = some x) (hi : i < sz) (u : Value) (hu : (enc x)[i]? = some u) :
    w.cell? ⟨g, j * sz + i, none⟩ = some u ∧ w.frozen? ⟨g, j * sz + i, none⟩ = false := by
  have hjl : j < l.length := (List.getElem?_eq_some_iff.1 hj).1
  obtain ⟨g', cur, hA, _, hn, hc, hm, hh, hs, ht⟩ := h.at_ (by omega)
  injection hA with hA
  injection hA with hA
  subst hA
  have hlt : j * sz + i < l.length * sz := by
    have : (j + 1) * sz ≤ l.length * sz := Nat.mul_le_mul_right _ hjl
    rw [Nat.add_mul] at this
    omega
  refine ⟨?_, blkFree hh _⟩
  rw [blkCell hh, ← Array.getElem?_toList]
  have h1 := flatGet he l j i x hj hi
  rw [← ht, List.getElem?_take, if_pos hlt, hu] at h1
  exact h1
/-- One cell of an element written. -/
theorem SRow.store {g n c : Nat} (h : SRow E sz enc w (.slice (some ⟨g, 0, none⟩) n c) r l) (he : ∀ x, (enc x).length = sz) (j i : Nat) (x : α) (hj : l[j]? = some x) (hi : i < sz) (u : Value) (y : α) (hy : enc y = (enc x).set i u) :
    SRow E sz enc (w.setCell ⟨g, j * sz + i, none⟩ u) (.slice (some ⟨g, 0, none⟩) n c) r (l.set j y) := by
  have hjl : j < l.length := (List.getElem?_eq_some_iff.1 hj).1
  obtain ⟨g', cur, hA, hr, hn, hc, hm, hh, hs, ht⟩ := h.at_ (by omega)
  injection hA with hA
  injection hA with hA
  subst hA
  subst hn
  have hlt : j * sz + i < l.length * sz := by
    have : (j + 1) * sz ≤ l.length * sz := Nat.mul_le_mul_right _ hjl
    rw [Nat.add_mul] at this
    omega
  refine ⟨⟨by rw [flatLen he, List.length_set], .inr ⟨g, c, _, by rw [List.length_set], Nat.zero_le _, blkSet hh _ u, by rw [List.length_set]; exact hc, by simp only [maxLen]; omega, by simpa using hs, ?_⟩⟩, hr.symm⟩
  rw [List.length_set, Array.toList_setIfInBounds, List.take_set, ht, flatSet he l j i x u y hj hi hy]
end

section
variable {P : Program}
/-- append within a row: what is appended has room. -/
theorem run_append_within (w : World) (t ty e : TypeId) (i : TypeInfo) (ht : P.underlying t = some (.slice e)) (hi : P.info? e = some i) (g n cap : Nat) (cur : Array Value) (hg : w.heap[g]? = some (.cells cur e (0, 0)))
    (a : Addr) (m c : Nat) (news : List Value) (hn : news.length = m * i.size) (hnews : ∀ j u, news[j]? = some u → w.cell? (a.add j) = some u) (h1 : ∀ u ∈ news, u.oneCell' = true) (hroom : n + m ≤ cap) (hfit : n * i.size + news.length ≤ cur.size) :
    (Builtin.append_ #[t, t] ty #[.slice (some ⟨g, 0, none⟩) n cap, .slice (some a) m c]).run P w = .ok (.slice (some ⟨g, 0, none⟩) (n + m) cap) (w.setRow g (cur.toList.take (n * i.size) ++ news ++ cur.toList.drop (n * i.size + news.length)).toArray) := by
  have hf := run_firstCells_some (P := P) w i.size m a m c news (by simpa using hn) hnews
  have hst := run_storeCells_at P g (n * i.size) e news 0 cur w hg (by simpa using hfit) h1
  simp only [Nat.add_zero] at hst
  simp [Builtin.append_, run_underlying ht, sizeOf, typeInfo, hi, Builtin.lenOf, hroom, hf, Addr.add_lit, hst]
end
end Go.Proofs.Ytpdgkgdaaapngaa
