/- Slices of structs: append of one, append of a slice, as operations of a walk and as steps of a region that draws its order. -/
import Derived.Test.YtpdgkgdaaapngaaSR
import Derived.Maps.AppendAt
namespace Go.Proofs.Ytpdgkgdaaapngaa
open Go.RowKit

section
variable {P : Program} {α : Type} {E : TypeId} {sz : Nat} {enc : α → List Value}
/-- The type of the elements, as the table has it. -/
def ElemInfo (P : Program) (E : TypeId) (sz bytes : Nat) : Prop := ∃ i z, P.info? E = some i ∧ i.zero = some z ∧ i.size = sz ∧ i.bytes = bytes ∧ z.cells.size = sz ∧ 0 < sz
theorem ElemInfo.mk' {bytes : Nat} {z : Value} (h : (P.info? E).map (fun i => (i.zero, i.size, i.bytes)) = some (some z, sz, bytes)) (hz : z.cells.size = sz) (h0 : 0 < sz) : ElemInfo P E sz bytes := by
  obtain ⟨i, hi, hzz⟩ := Option.map_eq_some_iff.1 h
  simp only [Prod.mk.injEq] at hzz
  exact ⟨i, z, hi, hzz.1, hzz.2.1, hzz.2.2, hz, h0⟩
/-- append(v, x): the goal's world holds the variadic's box. -/
theorem run_sappend (w : World) (t ty : TypeId) (bytes : Nat) (ht : P.underlying t = some (.slice E)) (hE : ElemInfo P E sz bytes) (he : ∀ x, (enc x).length = sz) (h1 : ∀ x, ∀ u ∈ enc x, u.oneCell' = true)
    (v : Value) (r : Option Nat) (l : List α) (q : α) (h : SRow E sz enc w v r l) (hl : (l.length + 1) * bytes ≤ 140737488355328) (hb : 1 ≤ bytes) :
    ∃ A c w' r', (Builtin.append_ #[t, t] ty #[v, .slice (some ⟨w.heap.size, 0, none⟩) 1 1]).run P (w.alloc (.cells (enc q).toArray E)) = .ok (.slice A (l ++ [q]).length c) w' ∧ SRow E sz enc w' (.slice A (l ++ [q]).length c) r' (l ++ [q]) ∧ Next w r r' ∧ (w.alloc (.cells (enc q).toArray E)).grownBy w' r := by
  obtain ⟨i, z, hi, hz0, hz1, hz2, hz3, hs0⟩ := hE
  obtain ⟨hown, hr⟩ := h.alloc (.cells (enc q).toArray E)
  have hl2 : l.length + 1 ≤ 140737488355328 := Nat.le_trans (Nat.le_mul_of_pos_right _ hb) hl
  obtain ⟨v', w', hrun, h2, h3, _, h5⟩ := run_append_own_at (P := P) (w.alloc (.cells (enc q).toArray E)) 0 t ty E i z sz bytes ht hi hz0 hz1 hz2 hz3 hs0 v l.length (l.flatMap enc) hown ⟨w.heap.size, 0, none⟩ 1 1 (enc q) (by rw [he]; simp)
    (by simpa using World.news_of_block (cs := (enc q).toArray) (t := E) (fr := (0, 0)) (heap_alloc_new w (.cells (enc q).toArray E))) (h1 q) (by simp only [maxLen]; omega) hl (Nat.zero_le _)
  have e : l.length + 1 = (l ++ [q]).length := by simp
  have e2 : l.flatMap enc ++ enc q = (l ++ [q]).flatMap enc := by simp
  rw [e, e2] at h2
  have hF : SRow E sz enc w' v' v'.ownBlock (l ++ [q]) := ⟨h2, rfl⟩
  obtain ⟨A, c, hv, _, _⟩ := hF.form
  subst hv
  refine ⟨A, c, w', _, hrun, hF, ?_, by rw [hr] at h3; exact h3⟩
  rcases h5 with h5 | h5
  · exact .inl (h5.trans hr)
  · exact .inr ⟨_, h5, by simp⟩
/-- append(v, ys...). -/
theorem run_sappends (w : World) (t ty : TypeId) (bytes : Nat) (ht : P.underlying t = some (.slice E)) (hE : ElemInfo P E sz bytes) (he : ∀ x, (enc x).length = sz) (h1 : ∀ x, ∀ u ∈ enc x, u.oneCell' = true)
    (v : Value) (r : Option Nat) (l ys : List α) (h : SRow E sz enc w v r l) (a : Addr) (m c : Nat) (hm : ys.length = m) (hy : ∀ j u, (ys.flatMap enc)[j]? = some u → w.cell? (a.add j) = some u) (hl : (l.length + m) * bytes ≤ 140737488355328) (hb : 1 ≤ bytes) :
    ∃ A c' w' r', (Builtin.append_ #[t, t] ty #[v, .slice (some a) m c]).run P w = .ok (.slice A (l ++ ys).length c') w' ∧ SRow E sz enc w' (.slice A (l ++ ys).length c') r' (l ++ ys) ∧ Next w r r' ∧ w.grownBy w' r := by
  obtain ⟨i, z, hi, hz0, hz1, hz2, hz3, hs0⟩ := hE
  obtain ⟨hown, hr⟩ := h
  have hl2 : l.length + m ≤ 140737488355328 := Nat.le_trans (Nat.le_mul_of_pos_right _ hb) hl
  obtain ⟨v', w', hrun, h2, h3, _, h5⟩ := run_append_own_at (P := P) w 0 t ty E i z sz bytes ht hi hz0 hz1 hz2 hz3 hs0 v l.length (l.flatMap enc) hown a m c (ys.flatMap enc) (by rw [flatLen he, hm]) hy
    (by intro u hu; obtain ⟨x, _, hx⟩ := List.mem_flatMap.1 hu; exact h1 x u hx) (by simp only [maxLen]; omega) hl (Nat.zero_le _)
  have e : l.length + m = (l ++ ys).length := by simp [hm]
  have e2 : l.flatMap enc ++ ys.flatMap enc = (l ++ ys).flatMap enc := by simp
  rw [e, e2] at h2
  have hF : SRow E sz enc w' v' v'.ownBlock (l ++ ys) := ⟨h2, rfl⟩
  obtain ⟨A, c2, hv, _, _⟩ := hF.form
  subst hv
  refine ⟨A, c2, w', _, hrun, hF, ?_, by rw [hr] at h3; exact h3⟩
  rcases h5 with h5 | h5
  · exact .inl (h5.trans hr)
  · exact .inr ⟨_, h5, Nat.le_refl _⟩
end
section
variable {P : Program} {α : Type} {E : TypeId} {sz : Nat} {enc : α → List Value} {ops : Array Oper} {rest : List Oper} {o : Oper} {a : Act} {Q : Exit → Act → World → Prop} {K : Act → World → Prop}
theorem wpList_sappend (w : World) (hgd : o.guard = none) (sl x : Operand) (t : TypeId) (bytes : Nat) (ho : o.op = .call { callee := .builtin .append, args := #[sl, x], argTypes := #[t, t] })
    (ht : P.underlying t = some (.slice E)) (hE : ElemInfo P E sz bytes) (he : ∀ x, (enc x).length = sz) (h1 : ∀ x, ∀ u ∈ enc x, u.oneCell' = true)
    (v : Value) (r : Option Nat) (l : List α) (q : α) (hs : a.eval sl = v) (hx : a.eval x = .slice (some ⟨w.heap.size, 0, none⟩) 1 1) (h : SRow E sz enc w v r l) (hl : (l.length + 1) * bytes ≤ 140737488355328) (hb : 1 ≤ bytes)
    (hk : ∀ A c w' r', SRow E sz enc w' (.slice A (l ++ [q]).length c) r' (l ++ [q]) → Next w r r' → (w.alloc (.cells (enc q).toArray E)).grownBy w' r → wpList P ops Q rest (a.put o.dst (.slice A (l ++ [q]).length c)) w') :
    wpList P ops Q (o :: rest) a (w.alloc (.cells (enc q).toArray E)) := by
  refine wpList_plain hgd fun K hK => ?_
  obtain ⟨A, c, w', r', hr, h2, h3, h4⟩ := run_sappend (P := P) w t o.type bytes ht hE he h1 v r l q h hl hb
  unfold Oper.wp execOp
  simp only [ho, resolve, invoke, builtin, Sem.run_bind, Sem.run_pure, Result.andThen_ok, List.map_toArray, List.map_cons, List.map_nil, hs, hx, hr]
  exact hK _ _ (hk A c w' r' h2 h3 h4)
theorem step_sappend (w : World) (hw : Region.wanted o (yielded ops a.tmps) = true) (sl x : Operand) (t : TypeId) (bytes : Nat) (ho : o.op = .call { callee := .builtin .append, args := #[sl, x], argTypes := #[t, t] })
    (ht : P.underlying t = some (.slice E)) (hE : ElemInfo P E sz bytes) (he : ∀ x, (enc x).length = sz) (h1 : ∀ x, ∀ u ∈ enc x, u.oneCell' = true)
    (v : Value) (r : Option Nat) (l : List α) (q : α) (hs : a.eval sl = v) (hx : a.eval x = .slice (some ⟨w.heap.size, 0, none⟩) 1 1) (h : SRow E sz enc w v r l) (hl : (l.length + 1) * bytes ≤ 140737488355328) (hb : 1 ≤ bytes)
    (hk : ∀ A c w' r', SRow E sz enc w' (.slice A (l ++ [q]).length c) r' (l ++ [q]) → Next w r r' → (w.alloc (.cells (enc q).toArray E)).grownBy w' r → K (a.put o.dst (.slice A (l ++ [q]).length c)) w') :
    if Region.wanted o (yielded ops a.tmps) = true then Oper.wp P o a (w.alloc (.cells (enc q).toArray E)) K Q else K (a.put o.dst undef) (w.alloc (.cells (enc q).toArray E)) := by
  rw [if_pos hw]
  obtain ⟨A, c, w', r', hr, h2, h3, h4⟩ := run_sappend (P := P) w t o.type bytes ht hE he h1 v r l q h hl hb
  unfold Oper.wp execOp
  simp only [ho, resolve, invoke, builtin, Sem.run_bind, Sem.run_pure, Result.andThen_ok, List.map_toArray, List.map_cons, List.map_nil, hs, hx, hr]
  exact hk A c w' r' h2 h3 h4
theorem wpList_sappends (w : World) (hgd : o.guard = none) (sl x : Operand) (t : TypeId) (bytes : Nat) (ho : o.op = .call { callee := .builtin .append, args := #[sl, x], argTypes := #[t, t] })
    (ht : P.underlying t = some (.slice E)) (hE : ElemInfo P E sz bytes) (he : ∀ x, (enc x).length = sz) (h1 : ∀ x, ∀ u ∈ enc x, u.oneCell' = true)
    (v : Value) (r : Option Nat) (l ys : List α) (hs : a.eval sl = v) (ad : Addr) (m c : Nat) (hx : a.eval x = .slice (some ad) m c) (h : SRow E sz enc w v r l) (hm : ys.length = m) (hy : ∀ j u, (ys.flatMap enc)[j]? = some u → w.cell? (ad.add j) = some u) (hl : (l.length + m) * bytes ≤ 140737488355328) (hb : 1 ≤ bytes)
    (hk : ∀ A c w' r', SRow E sz enc w' (.slice A (l ++ ys).length c) r' (l ++ ys) → Next w r r' → w.grownBy w' r → wpList P ops Q rest (a.put o.dst (.slice A (l ++ ys).length c)) w') :
    wpList P ops Q (o :: rest) a w := by
  refine wpList_plain hgd fun K hK => ?_
  obtain ⟨A, c', w', r', hr, h2, h3, h4⟩ := run_sappends (P := P) w t o.type bytes ht hE he h1 v r l ys h ad m c hm hy hl hb
  unfold Oper.wp execOp
  simp only [ho, resolve, invoke, builtin, Sem.run_bind, Sem.run_pure, Result.andThen_ok, List.map_toArray, List.map_cons, List.map_nil, hs, hx, hr]
  exact hK _ _ (hk A c' w' r' h2 h3 h4)
theorem step_sappends (w : World) (hw : Region.wanted o (yielded ops a.tmps) = true) (sl x : Operand) (t : TypeId) (bytes : Nat) (ho : o.op = .call { callee := .builtin .append, args := #[sl, x], argTypes := #[t, t] })
    (ht : P.underlying t = some (.slice E)) (hE : ElemInfo P E sz bytes) (he : ∀ x, (enc x).length = sz) (h1 : ∀ x, ∀ u ∈ enc x, u.oneCell' = true)
    (v : Value) (r : Option Nat) (l ys : List α) (hs : a.eval sl = v) (ad : Addr) (m c : Nat) (hx : a.eval x = .slice (some ad) m c) (h : SRow E sz enc w v r l) (hm : ys.length = m) (hy : ∀ j u, (ys.flatMap enc)[j]? = some u → w.cell? (ad.add j) = some u) (hl : (l.length + m) * bytes ≤ 140737488355328) (hb : 1 ≤ bytes)
    (hk : ∀ A c w' r', SRow E sz enc w' (.slice A (l ++ ys).length c) r' (l ++ ys) → Next w r r' → w.grownBy w' r → K (a.put o.dst (.slice A (l ++ ys).length c)) w') :
    if Region.wanted o (yielded ops a.tmps) = true then Oper.wp P o a w K Q else K (a.put o.dst undef) w := by
  rw [if_pos hw]
  obtain ⟨A, c', w', r', hr, h2, h3, h4⟩ := run_sappends (P := P) w t o.type bytes ht hE he h1 v r l ys h ad m c hm hy hl hb
  unfold Oper.wp execOp
  simp only [ho, resolve, invoke, builtin, Sem.run_bind, Sem.run_pure, Result.andThen_ok, List.map_toArray, List.map_cons, List.map_nil, hs, hx, hr]
  exact hk A c' w' r' h2 h3 h4
theorem step_within (w : World) (hw : Region.wanted o (yielded ops a.tmps) = true) (sl x : Operand) (t e : TypeId) (i : TypeInfo) (ho : o.op = .call { callee := .builtin .append, args := #[sl, x], argTypes := #[t, t] })
    (ht : P.underlying t = some (.slice e)) (hi : P.info? e = some i) (g n cap : Nat) (hs : a.eval sl = .slice (some ⟨g, 0, none⟩) n cap) (cur : Array Value) (hg : w.heap[g]? = some (.cells cur e (0, 0)))
    (ad : Addr) (m c : Nat) (hx : a.eval x = .slice (some ad) m c) (news : List Value) (hn : news.length = m * i.size) (hnews : ∀ j u, news[j]? = some u → w.cell? (ad.add j) = some u) (h1 : ∀ u ∈ news, u.oneCell' = true) (hroom : n + m ≤ cap) (hfit : n * i.size + news.length ≤ cur.size)
    (hk : K (a.put o.dst (.slice (some ⟨g, 0, none⟩) (n + m) cap)) (w.setRow g (cur.toList.take (n * i.size) ++ news ++ cur.toList.drop (n * i.size + news.length)).toArray)) :
    if Region.wanted o (yielded ops a.tmps) = true then Oper.wp P o a w K Q else K (a.put o.dst undef) w := by
  rw [if_pos hw]
  have hr := run_append_within (P := P) w t o.type e i ht hi g n cap cur hg ad m c news hn hnews h1 hroom hfit
  unfold Oper.wp execOp
  simp only [ho, resolve, invoke, builtin, Sem.run_bind, Sem.run_pure, Result.andThen_ok, List.map_toArray, List.map_cons, List.map_nil, hs, hx, hr]
  exact hk
end

/-- A row rewritten whole. -/
theorem Chg.setRow {S : Nat → Prop} {w w1 : World} (h : Chg S w w1) {g : Nat} (hg : S g ∨ w.heap.size ≤ g) (cs : Array Value) : Chg S w (w1.setRow g cs) :=
  h.trans (S' := fun k => k = g) ⟨rfl, rfl, rfl, by simp, fun k _ hk => setRow_other w1 g k cs (fun e => hk e)⟩ (fun k hk => by rw [hk]; exact hg)
theorem SRow.remade {α : Type} {E : TypeId} {sz : Nat} {enc : α → List Value} (he : ∀ x, (enc x).length = sz) {w : World} {g n c : Nat} {cs : Array Value} (hh : w.heap[g]? = some (.cells cs E (0, 0))) (hs : cs.size = c * sz) (l : List α) (hl : l.length = n) (hc : n ≤ c) (hm : c ≤ 9223372036854775807) (ht : cs.toList.take (n * sz) = l.flatMap enc) :
    SRow E sz enc w (.slice (some ⟨g, 0, none⟩) n c) (some g) l := by
  subst hl
  exact ⟨⟨flatLen he l, .inr ⟨g, c, cs, rfl, Nat.zero_le _, hh, hc, by simp only [maxLen]; omega, hs, ht⟩⟩, rfl⟩
end Go.Proofs.Ytpdgkgdaaapngaa
