/- Slices of structs that the call made itself: what they hold, append, and the removal of one element. -/
import Derived.Test.YtnhdlclicjmmnaaGreatRow
import Derived.Maps.AppendAt
namespace Go.Proofs.YtnhdlclicjmmnaaGreat
open Go.RowKit

/-- v is a row of elements l of the type E (sz cells each, as enc lays them); r: its block. -/
def SRow {α : Type} (E : TypeId) (sz : Nat) (enc : α → List Value) (w : World) (v : Value) (r : Option Nat) (l : List α) : Prop :=
  w.ownsRow 0 E sz v l.length (l.flatMap enc) ∧ v.ownBlock = r
theorem flatLen {α : Type} {sz : Nat} {enc : α → List Value} (he : ∀ x, (enc x).length = sz) (l : List α) : (l.flatMap enc).length = l.length * sz := by
  induction l with
  | nil => simp
  | cons x l ih => rw [List.flatMap_cons, List.length_append, ih, he, List.length_cons, Nat.add_mul]; omega
theorem flatTake {α : Type} {sz : Nat} {enc : α → List Value} (he : ∀ x, (enc x).length = sz) (l : List α) (k : Nat) : (l.flatMap enc).take (k * sz) = (l.take k).flatMap enc := by
  induction l generalizing k with
  | nil => simp
  | cons x l ih =>
    cases k with
    | zero => simp
    | succ k =>
      rw [List.flatMap_cons, List.take_succ_cons, List.flatMap_cons, Nat.add_mul, Nat.one_mul, Nat.add_comm (k * sz) sz, ← he x, List.take_length_add_append, he x, ih]
theorem flatDrop {α : Type} {sz : Nat} {enc : α → List Value} (he : ∀ x, (enc x).length = sz) (l : List α) (k : Nat) : (l.flatMap enc).drop (k * sz) = (l.drop k).flatMap enc := by
  induction l generalizing k with
  | nil => simp
  | cons x l ih =>
    cases k with
    | zero => simp
    | succ k =>
      rw [List.flatMap_cons, List.drop_succ_cons, Nat.add_mul, Nat.one_mul, Nat.add_comm (k * sz) sz, ← he x, List.drop_length_add_append, he x, ih]
theorem flatGet {α : Type} {sz : Nat} {enc : α → List Value} (he : ∀ x, (enc x).length = sz) (l : List α) (j i : Nat) (x : α) (h : l[j]? = some x) (hi : i < sz) : (l.flatMap enc)[j * sz + i]? = (enc x)[i]? := by
  have h1 := flatDrop he l j
  have hj : j < l.length := (List.getElem?_eq_some_iff.1 h).1
  have hx : l[j] = x := (List.getElem?_eq_some_iff.1 h).2
  rw [List.drop_eq_getElem_cons hj, hx, List.flatMap_cons] at h1
  have h2 : ((l.flatMap enc).drop (j * sz))[i]? = (enc x)[i]? := by
    rw [h1, List.getElem?_append_left (by rw [he]; exact hi)]
  rwa [List.getElem?_drop] at h2
theorem flatSet {α : Type} {sz : Nat} {enc : α → List Value} (he : ∀ x, (enc x).length = sz) (l : List α) (j i : Nat) (x : α) (u : Value) (y : α) (h : l[j]? = some x) (hi : i < sz) (hy : enc y = (enc x).set i u) : (l.flatMap enc).set (j * sz + i) u = (l.set j y).flatMap enc := by
  have hj : j < l.length := (List.getElem?_eq_some_iff.1 h).1
  have hx : l[j] = x := (List.getElem?_eq_some_iff.1 h).2
  have hl : l = l.take j ++ x :: l.drop (j + 1) := by
    rw [← hx, ← List.drop_eq_getElem_cons hj, List.take_append_drop]
  have hlen : (List.take j l).length = j := by rw [List.length_take]; omega
  have h2 : l.set j y = l.take j ++ y :: l.drop (j + 1) := by
    rw [List.set_eq_take_append_cons_drop, if_pos hj]
  rw [h2]
  conv => lhs; rw [hl]
  rw [List.flatMap_append, List.flatMap_cons, List.flatMap_append, List.flatMap_cons, hy]
  rw [List.set_append_right _ _ (by rw [flatLen he, hlen]; omega), flatLen he, hlen, Nat.add_sub_cancel_left, List.set_append_left _ _ (by rw [he]; exact hi)]

section
variable {α : Type} {E : TypeId} {sz : Nat} {enc : α → List Value} {w w1 : World} {v : Value} {r : Option Nat} {l : List α} {S : Nat → Prop}
theorem SRow.nil (w : World) : SRow E sz enc w (.slice none 0 0) none [] := ⟨World.ownsRow_nil w 0 _ sz, rfl⟩
theorem SRow.lt (h : SRow E sz enc w v r l) {k : Nat} (hk : r = some k) : k < w.heap.size ∧ ∃ cs, w.heap[k]? = some (.cells cs E (0, 0)) := by
  obtain ⟨⟨_, h2⟩, rfl⟩ := h
  rcases h2 with ⟨rfl, _⟩ | ⟨g, cap, cur, rfl, _, hh, _⟩
  · simp [Value.ownBlock] at hk
  · have : g = k := by simpa [Value.ownBlock] using hk
    subst this
    exact ⟨(Array.getElem?_eq_some_iff.1 hh).1, _, hh⟩
theorem SRow.step (h : SRow E sz enc w v r l) (hb : ∀ k, r = some k → w1.heap[k]? = w.heap[k]?) : SRow E sz enc w1 v r l := by
  obtain ⟨⟨h1, h2⟩, rfl⟩ := h
  refine ⟨⟨h1, ?_⟩, rfl⟩
  rcases h2 with h2 | ⟨g, cap, cur, rfl, hg, hh, r⟩
  · exact .inl h2
  · exact .inr ⟨g, cap, cur, rfl, hg, by rw [hb g rfl]; exact hh, r⟩
theorem SRow.chg (h : SRow E sz enc w v r l) (c : Chg S w w1) (hn : ∀ k, r = some k → ¬ S k) : SRow E sz enc w1 v r l :=
  h.step fun k hk => c.block k (h.lt hk).1 (hn k hk)
theorem SRow.alloc (h : SRow E sz enc w v r l) (o : Obj) : SRow E sz enc (w.alloc o) v r l := h.step fun k hk => Below.heap_alloc w o k (h.lt hk).1
theorem SRow.set (h : SRow E sz enc w v r l) {p : Addr} (hp : r ≠ some p.block) (u : Value) : SRow E sz enc (w.setCell p u) v r l :=
  h.step fun k hk => Below.heap_setCell w p u k (fun e => hp (by rw [hk, e]))
theorem SRow.form (h : SRow E sz enc w v r l) : ∃ A c, v = .slice A l.length c ∧ l.length ≤ c ∧ c ≤ 9223372036854775807 := by
  obtain ⟨⟨_, h2⟩, _⟩ := h
  rcases h2 with ⟨rfl, h0⟩ | ⟨g, cap, cur, rfl, _, _, hn, hm, _⟩
  · exact ⟨none, 0, by rw [h0], by omega, by omega⟩
  · exact ⟨_, _, rfl, hn, by simp only [maxLen] at hm; omega⟩
theorem SRow.ne (h : SRow E sz enc w v r l) {t : TypeId} {cs : Array Value} {g : Nat} (hg : w.heap[g]? = some (.cells cs t (0, 0))) (hne : t ≠ E) : r ≠ some g := by
  intro hk
  obtain ⟨_, cs', hh⟩ := h.lt hk
  rw [hg] at hh
  injection hh with hh
  injection hh with _ ht
  exact hne ht
/-- A row with an element lies at the head of a block. -/
theorem SRow.at_ {A : Option Addr} {n c : Nat} (h : SRow E sz enc w (.slice A n c) r l) (hl : 0 < l.length) :
    ∃ g cur, A = some ⟨g, 0, none⟩ ∧ r = some g ∧ n = l.length ∧ l.length ≤ c ∧ c ≤ 9223372036854775807 ∧ w.heap[g]? = some (.cells cur E (0, 0)) ∧ cur.size = c * sz ∧ cur.toList.take (l.length * sz) = l.flatMap enc := by
  obtain ⟨⟨_, h2⟩, hr⟩ := h
  rcases h2 with ⟨_, h0⟩ | ⟨g, cap, cur, he, _, hh, hn, hm, hs, ht⟩
  · omega
  · injection he with h1 h2 h3
    subst h1 h2 h3
    exact ⟨g, cur, rfl, hr.symm, rfl, hn, by simp only [maxLen] at hm; omega, hh, hs, ht⟩
theorem SRow.cell {g n c : Nat} (h : SRow E sz enc w (.slice (some ⟨g, 0, none⟩) n c) r l) (he : ∀ x, (enc x).length = sz) (j i : Nat) (x : α) (hj : l[j]? = some x) (hi : i < sz) (u : Value) (hu : (enc x)[i]? = some u) :
    w.cell? ⟨g, j * sz + i, none⟩ = some u ∧ w.frozen? ⟨g, j * sz + i, none⟩ = false := by
  have hjl : j < l.length := (List.getElem?_eq_some_iff.1 hj).1
  obtain ⟨g', cur, hA, _, hn, hc, hm, hh, hs, ht⟩ := h.at_ (by omega)
  injection hA with hA
  injection hA with hA
  subst hA
  have hlt : j * sz + i < l.length * sz := by
    have : (j + 1) * sz ≤ l.length * sz := Nat.mul_le_mul_right _ hjl
    rw [Nat.add_mul] at this
    omega
  refine ⟨?_, blkFree hh _⟩
  rw [blkCell hh, ← Array.getElem?_toList]
  have h1 := flatGet he l j i x hj hi
  rw [← ht, List.getElem?_take, if_pos hlt, hu] at h1
  exact h1
/-- One cell of an element written. -/
theorem SRow.store {g n c : Nat} (h : SRow E sz enc w (.slice (some ⟨g, 0, none⟩) n c) r l) (he : ∀ x, (enc x).length = sz) (j i : Nat) (x : α) (hj : l[j]? = some x) (hi : i < sz) (u : Value) (y : α) (hy : enc y = (enc x).set i u) :
    SRow E sz enc (w.setCell ⟨g, j * sz + i, none⟩ u) (.slice (some ⟨g, 0, none⟩) n c) r (l.set j y) := by
  have hjl : j < l.length := (List.getElem?_eq_some_iff.1 hj).1
  obtain ⟨g', cur, hA, hr, hn, hc, hm, hh, hs, ht⟩ := h.at_ (by omega)
  injection hA with hA
  injection hA with hA
  subst hA
  subst hn
  have hlt : j * sz + i < l.length * sz := by
    have : (j + 1) * sz ≤ l.length * sz := Nat.mul_le_mul_right _ hjl
    rw [Nat.add_mul] at this
    omega
  refine ⟨⟨by rw [flatLen he, List.length_set], .inr ⟨g, c, _, by rw [List.length_set], Nat.zero_le _, blkSet hh _ u, by rw [List.length_set]; exact hc, by simp only [maxLen]; omega, by simpa using hs, ?_⟩⟩, hr.symm⟩
  rw [List.length_set, Array.toList_setIfInBounds, List.take_set, ht, flatSet he l j i x u y hj hi hy]
end

section
variable {P : Program}
/-- append within a row: what is appended has room. -/
theorem run_append_within (w : World) (t ty e : TypeId) (i : TypeInfo) (ht : P.underlying t = some (.slice e)) (hi : P.info? e = some i) (g n cap : Nat) (cur : Array Value) (hg : w.heap[g]? = some (.cells cur e (0, 0)))
    (a : Addr) (m c : Nat) (news : List Value) (hn : news.length = m * i.size) (hnews : ∀ j u, news[j]? = some u → w.cell? (a.add j) = some u) (h1 : ∀ u ∈ news, u.oneCell' = true) (hroom : n + m ≤ cap) (hfit : n * i.size + news.length ≤ cur.size) :
    (Builtin.append_ #[t, t] ty #[.slice (some ⟨g, 0, none⟩) n cap, .slice (some a) m c]).run P w = .ok (.slice (some ⟨g, 0, none⟩) (n + m) cap) (w.setRow g (cur.toList.take (n * i.size) ++ news ++ cur.toList.drop (n * i.size + news.length)).toArray) := by
  have hf := run_firstCells_some (P := P) w i.size m a m c news (by simpa using hn) hnews
  have hst := run_storeCells_at P g (n * i.size) e news 0 cur w hg (by simpa using hfit) h1
  simp only [Nat.add_zero] at hst
  simp [Builtin.append_, run_underlying ht, sizeOf, typeInfo, hi, Builtin.lenOf, hroom, hf, Addr.add_lit, hst]
end
end Go.Proofs.YtnhdlclicjmmnaaGreat
/- Slices of structs: append of one, append of a slice, as operations of a walk and as steps of a region that draws its order. -/
namespace Go.Proofs.YtnhdlclicjmmnaaGreat
open Go.RowKit

section
variable {P : Program} {α : Type} {E : TypeId} {sz : Nat} {enc : α → List Value}
/-- The type of the elements, as the table has it. -/
def ElemInfo (P : Program) (E : TypeId) (sz bytes : Nat) : Prop := ∃ i z, P.info? E = some i ∧ i.zero = some z ∧ i.size = sz ∧ i.bytes = bytes ∧ z.cells.size = sz ∧ 0 < sz
theorem ElemInfo.mk' {bytes : Nat} {z : Value} (h : (P.info? E).map (fun i => (i.zero, i.size, i.bytes)) = some (some z, sz, bytes)) (hz : z.cells.size = sz) (h0 : 0 < sz) : ElemInfo P E sz bytes := by
  obtain ⟨i, hi, hzz⟩ := Option.map_eq_some_iff.1 h
  simp only [Prod.mk.injEq] at hzz
  exact ⟨i, z, hi, hzz.1, hzz.2.1, hzz.2.2, hz, h0⟩
/-- append(v, x): the goal's world holds the variadic's box. -/
theorem run_sappend (w : World) (t ty : TypeId) (bytes : Nat) (ht : P.underlying t = some (.slice E)) (hE : ElemInfo P E sz bytes) (he : ∀ x, (enc x).length = sz) (h1 : ∀ x, ∀ u ∈ enc x, u.oneCell' = true)
    (v : Value) (r : Option Nat) (l : List α) (q : α) (h : SRow E sz enc w v r l) (hl : (l.length + 1) * bytes ≤ 140737488355328) (hb : 1 ≤ bytes) :
    ∃ A c w' r', (Builtin.append_ #[t, t] ty #[v, .slice (some ⟨w.heap.size, 0, none⟩) 1 1]).run P (w.alloc (.cells (enc q).toArray E)) = .ok (.slice A (l ++ [q]).length c) w' ∧ SRow E sz enc w' (.slice A (l ++ [q]).length c) r' (l ++ [q]) ∧ Next w r r' ∧ (w.alloc (.cells (enc q).toArray E)).grownBy w' r := by
  obtain ⟨i, z, hi, hz0, hz1, hz2, hz3, hs0⟩ := hE
  obtain ⟨hown, hr⟩ := h.alloc (.cells (enc q).toArray E)
  have hl2 : l.length + 1 ≤ 140737488355328 := Nat.le_trans (Nat.le_mul_of_pos_right _ hb) hl
  obtain ⟨v', w', hrun, h2, h3, _, h5⟩ := run_append_own_at (P := P) (w.alloc (.cells (enc q).toArray E)) 0 t ty E i z sz bytes ht hi hz0 hz1 hz2 hz3 hs0 v l.length (l.flatMap enc) hown ⟨w.heap.size, 0, none⟩ 1 1 (enc q) (by rw [he]; simp)
    (by simpa using World.news_of_block (cs := (enc q).toArray) (t := E) (fr := (0, 0)) (heap_alloc_new w (.cells (enc q).toArray E))) (h1 q) (by simp only [maxLen]; omega) hl (Nat.zero_le _)
  have e : l.length + 1 = (l ++ [q]).length := by simp
  have e2 : l.flatMap enc ++ enc q = (l ++ [q]).flatMap enc := by simp
  rw [e, e2] at h2
  have hF : SRow E sz enc w' v' v'.ownBlock (l ++ [q]) := ⟨h2, rfl⟩
  obtain ⟨A, c, hv, _, _⟩ := hF.form
  subst hv
  refine ⟨A, c, w', _, hrun, hF, ?_, by rw [hr] at h3; exact h3⟩
  rcases h5 with h5 | h5
  · exact .inl (h5.trans hr)
  · exact .inr ⟨_, h5, by simp⟩
/-- append(v, ys...). -/
theorem run_sappends (w : World) (t ty : TypeId) (bytes : Nat) (ht : P.underlying t = some (.slice E)) (hE : ElemInfo P E sz bytes) (he : ∀ x, (enc x).length = sz) (h1 : ∀ x, ∀ u ∈ enc x, u.oneCell' = true)
    (v : Value) (r : Option Nat) (l ys : List α) (h : SRow E sz enc w v r l) (a : Addr) (m c : Nat) (hm : ys.length = m) (hy : ∀ j u, (ys.flatMap enc)[j]? = some u → w.cell? (a.add j) = some u) (hl : (l.length + m) * bytes ≤ 140737488355328) (hb : 1 ≤ bytes) :
    ∃ A c' w' r', (Builtin.append_ #[t, t] ty #[v, .slice (some a) m c]).run P w = .ok (.slice A (l ++ ys).length c') w' ∧ SRow E sz enc w' (.slice A (l ++ ys).length c') r' (l ++ ys) ∧ Next w r r' ∧ w.grownBy w' r := by
  obtain ⟨i, z, hi, hz0, hz1, hz2, hz3, hs0⟩ := hE
  obtain ⟨hown, hr⟩ := h
  have hl2 : l.length + m ≤ 140737488355328 := Nat.le_trans (Nat.le_mul_of_pos_right _ hb) hl
  obtain ⟨v', w', hrun, h2, h3, _, h5⟩ := run_append_own_at (P := P) w 0 t ty E i z sz bytes ht hi hz0 hz1 hz2 hz3 hs0 v l.length (l.flatMap enc) hown a m c (ys.flatMap enc) (by rw [flatLen he, hm]) hy
    (by intro u hu; obtain ⟨x, _, hx⟩ := List.mem_flatMap.1 hu; exact h1 x u hx) (by simp only [maxLen]; omega) hl (Nat.zero_le _)
  have e : l.length + m = (l ++ ys).length := by simp [hm]
  have e2 : l.flatMap enc ++ ys.flatMap enc = (l ++ ys).flatMap enc := by simp
  rw [e, e2] at h2
  have hF : SRow E sz enc w' v' v'.ownBlock (l ++ ys) := ⟨h2, rfl⟩
  obtain ⟨A, c2, hv, _, _⟩ := hF.form
  subst hv
  refine ⟨A, c2, w', _, hrun, hF, ?_, by rw [hr] at h3; exact h3⟩
  rcases h5 with h5 | h5
  · exact .inl (h5.trans hr)
  · exact .inr ⟨_, h5, Nat.le_refl _⟩
end
section
variable {P : Program} {α : Type} {E : TypeId} {sz : Nat} {enc : α → List Value} {ops : Array Oper} {rest : List Oper} {o : Oper} {a : Act} {Q : Exit → Act → World → Prop} {K : Act → World → Prop}
theorem wpList_sappend (w : World) (hgd : o.guard = none) (sl x : Operand) (t : TypeId) (bytes : Nat) (ho : o.op = .call { callee := .builtin .append, args := #[sl, x], argTypes := #[t, t] })
    (ht : P.underlying t = some (.slice E)) (hE : ElemInfo P E sz bytes) (he : ∀ x, (enc x).length = sz) (h1 : ∀ x, ∀ u ∈ enc x, u.oneCell' = true)
    (v : Value) (r : Option Nat) (l : List α) (q : α) (hs : a.eval sl = v) (hx : a.eval x = .slice (some ⟨w.heap.size, 0, none⟩) 1 1) (h : SRow E sz enc w v r l) (hl : (l.length + 1) * bytes ≤ 140737488355328) (hb : 1 ≤ bytes)
    (hk : ∀ A c w' r', SRow E sz enc w' (.slice A (l ++ [q]).length c) r' (l ++ [q]) → Next w r r' → (w.alloc (.cells (enc q).toArray E)).grownBy w' r → wpList P ops Q rest (a.put o.dst (.slice A (l ++ [q]).length c)) w') :
    wpList P ops Q (o :: rest) a (w.alloc (.cells (enc q).toArray E)) := by
  refine wpList_plain hgd fun K hK => ?_
  obtain ⟨A, c, w', r', hr, h2, h3, h4⟩ := run_sappend (P := P) w t o.type bytes ht hE he h1 v r l q h hl hb
  unfold Oper.wp execOp
  simp only [ho, resolve, invoke, builtin, Sem.run_bind, Sem.run_pure, Result.andThen_ok, List.map_toArray, List.map_cons, List.map_nil, hs, hx, hr]
  exact hK _ _ (hk A c w' r' h2 h3 h4)
theorem step_sappend (w : World) (hw : Region.wanted o (yielded ops a.tmps) = true) (sl x : Operand) (t : TypeId) (bytes : Nat) (ho : o.op = .call { callee := .builtin .append, args := #[sl, x], argTypes := #[t, t] })
    (ht : P.underlying t = some (.slice E)) (hE : ElemInfo P E sz bytes) (he : ∀ x, (enc x).length = sz) (h1 : ∀ x, ∀ u ∈ enc x, u.oneCell' = true)
    (v : Value) (r : Option Nat) (l : List α) (q : α) (hs : a.eval sl = v) (hx : a.eval x = .slice (some ⟨w.heap.size, 0, none⟩) 1 1) (h : SRow E sz enc w v r l) (hl : (l.length + 1) * bytes ≤ 140737488355328) (hb : 1 ≤ bytes)
    (hk : ∀ A c w' r', SRow E sz enc w' (.slice A (l ++ [q]).length c) r' (l ++ [q]) → Next w r r' → (w.alloc (.cells (enc q).toArray E)).grownBy w' r → K (a.put o.dst (.slice A (l ++ [q]).length c)) w') :
    if Region.wanted o (yielded ops a.tmps) = true then Oper.wp P o a (w.alloc (.cells (enc q).toArray E)) K Q else K (a.put o.dst undef) (w.alloc (.cells (enc q).toArray E)) := by
  rw [if_pos hw]
  obtain ⟨A, c, w', r', hr, h2, h3, h4⟩ := run_sappend (P := P) w t o.type bytes ht hE he h1 v r l q h hl hb
  unfold Oper.wp execOp
  simp only [ho, resolve, invoke, builtin, Sem.run_bind, Sem.run_pure, Result.andThen_ok, List.map_toArray, List.map_cons, List.map_nil, hs, hx, hr]
  exact hk A c w' r' h2 h3 h4
theorem wpList_sappends (w : World) (hgd : o.guard = none) (sl x : Operand) (t : TypeId) (bytes : Nat) (ho : o.op = .call { callee := .builtin .append, args := #[sl, x], argTypes := #[t, t] })
    (ht : P.underlying t = some (.slice E)) (hE : ElemInfo P E sz bytes) (he : ∀ x, (enc x).length = sz) (h1 : ∀ x, ∀ u ∈ enc x, u.oneCell' = true)
    (v : Value) (r : Option Nat) (l ys : List α) (hs : a.eval sl = v) (ad : Addr) (m c : Nat) (hx : a.eval x = .slice (some ad) m c) (h : SRow E sz enc w v r l) (hm : ys.length = m) (hy : ∀ j u, (ys.flatMap enc)[j]? = some u → w.cell? (ad.add j) = some u) (hl : (l.length + m) * bytes ≤ 140737488355328) (hb : 1 ≤ bytes)
    (hk : ∀ A c w' r', SRow E sz enc w' (.slice A (l ++ ys).length c) r' (l ++ ys) → Next w r r' → w.grownBy w' r → wpList P ops Q rest (a.put o.dst (.slice A (l ++ ys).length c)) w') :
    wpList P ops Q (o :: rest) a w := by
  refine wpList_plain hgd fun K hK => ?_
  obtain ⟨A, c', w', r', hr, h2, h3, h4⟩ := run_sappends (P := P) w t o.type bytes ht hE he h1 v r l ys h ad m c hm hy hl hb
  unfold Oper.wp execOp
  simp only [ho, resolve, invoke, builtin, Sem.run_bind, Sem.run_pure, Result.andThen_ok, List.map_toArray, List.map_cons, List.map_nil, hs, hx, hr]
  exact hK _ _ (hk A c' w' r' h2 h3 h4)
theorem step_sappends (w : World) (hw : Region.wanted o (yielded ops a.tmps) = true) (sl x : Operand) (t : TypeId) (bytes : Nat) (ho : o.op = .call { callee := .builtin .append, args := #[sl, x], argTypes := #[t, t] })
    (ht : P.underlying t = some (.slice E)) (hE : ElemInfo P E sz bytes) (he : ∀ x, (enc x).length = sz) (h1 : ∀ x, ∀ u ∈ enc x, u.oneCell' = true)
    (v : Value) (r : Option Nat) (l ys : List α) (hs : a.eval sl = v) (ad : Addr) (m c : Nat) (hx : a.eval x = .slice (some ad) m c) (h : SRow E sz enc w v r l) (hm : ys.length = m) (hy : ∀ j u, (ys.flatMap enc)[j]? = some u → w.cell? (ad.add j) = some u) (hl : (l.length + m) * bytes ≤ 140737488355328) (hb : 1 ≤ bytes)
    (hk : ∀ A c w' r', SRow E sz enc w' (.slice A (l ++ ys).length c) r' (l ++ ys) → Next w r r' → w.grownBy w' r → K (a.put o.dst (.slice A (l ++ ys).length c)) w') :
    if Region.wanted o (yielded ops a.tmps) = true then Oper.wp P o a w K Q else K (a.put o.dst undef) w := by
  rw [if_pos hw]
  obtain ⟨A, c', w', r', hr, h2, h3, h4⟩ := run_sappends (P := P) w t o.type bytes ht hE he h1 v r l ys h ad m c hm hy hl hb
  unfold Oper.wp execOp
  simp only [ho, resolve, invoke, builtin, Sem.run_bind, Sem.run_pure, Result.andThen_ok, List.map_toArray, List.map_cons, List.map_nil, hs, hx, hr]
  exact hk A c' w' r' h2 h3 h4
theorem step_within (w : World) (hw : Region.wanted o (yielded ops a.tmps) = true) (sl x : Operand) (t e : TypeId) (i : TypeInfo) (ho : o.op = .call { callee := .builtin .append, args := #[sl, x], argTypes := #[t, t] })
    (ht : P.underlying t = some (.slice e)) (hi : P.info? e = some i) (g n cap : Nat) (hs : a.eval sl = .slice (some ⟨g, 0, none⟩) n cap) (cur : Array Value) (hg : w.heap[g]? = some (.cells cur e (0, 0)))
    (ad : Addr) (m c : Nat) (hx : a.eval x = .slice (some ad) m c) (news : List Value) (hn : news.length = m * i.size) (hnews : ∀ j u, news[j]? = some u → w.cell? (ad.add j) = some u) (h1 : ∀ u ∈ news, u.oneCell' = true) (hroom : n + m ≤ cap) (hfit : n * i.size + news.length ≤ cur.size)
    (hk : K (a.put o.dst (.slice (some ⟨g, 0, none⟩) (n + m) cap)) (w.setRow g (cur.toList.take (n * i.size) ++ news ++ cur.toList.drop (n * i.size + news.length)).toArray)) :
    if Region.wanted o (yielded ops a.tmps) = true then Oper.wp P o a w K Q else K (a.put o.dst undef) w := by
  rw [if_pos hw]
  have hr := run_append_within (P := P) w t o.type e i ht hi g n cap cur hg ad m c news hn hnews h1 hroom hfit
  unfold Oper.wp execOp
  simp only [ho, resolve, invoke, builtin, Sem.run_bind, Sem.run_pure, Result.andThen_ok, List.map_toArray, List.map_cons, List.map_nil, hs, hx, hr]
  exact hk
end

/-- A row rewritten whole. -/
theorem Chg.setRow {S : Nat → Prop} {w w1 : World} (h : Chg S w w1) {g : Nat} (hg : S g ∨ w.heap.size ≤ g) (cs : Array Value) : Chg S w (w1.setRow g cs) :=
  h.trans (S' := fun k => k = g) ⟨rfl, rfl, rfl, by simp, fun k _ hk => setRow_other w1 g k cs (fun e => hk e)⟩ (fun k hk => by rw [hk]; exact hg)
theorem SRow.remade {α : Type} {E : TypeId} {sz : Nat} {enc : α → List Value} (he : ∀ x, (enc x).length = sz) {w : World} {g n c : Nat} {cs : Array Value} (hh : w.heap[g]? = some (.cells cs E (0, 0))) (hs : cs.size = c * sz) (l : List α) (hl : l.length = n) (hc : n ≤ c) (hm : c ≤ 9223372036854775807) (ht : cs.toList.take (n * sz) = l.flatMap enc) :
    SRow E sz enc w (.slice (some ⟨g, 0, none⟩) n c) (some g) l := by
  subst hl
  exact ⟨⟨flatLen he l, .inr ⟨g, c, cs, rfl, Nat.zero_le _, hh, hc, by simp only [maxLen]; omega, hs, ht⟩⟩, rfl⟩
end Go.Proofs.YtnhdlclicjmmnaaGreat
