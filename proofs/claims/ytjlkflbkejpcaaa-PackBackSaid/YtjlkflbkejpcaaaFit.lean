/- A slice of operations that the call made itself. -/
import Derived.Test.YtjlkflbkejpcaaaLay2
import Derived.Test.YtjlkflbkejpcaaaBkF
namespace Go.Proofs.Ytjlkflbkejpcaaa
open Go.RowKit

theorem addField2 (a : Addr) (m j : Nat) (hj : 0 < j) : a.add (m + j) = ⟨(a.add m).block, (a.add m).off + j, none⟩ := by
  unfold Addr.add
  by_cases hm : m = 0
  · subst hm
    simp [Nat.ne_of_gt hj]
  · simp [hm, Nat.add_assoc]
def opCells (l : List OpV) : List Value := l.flatMap fun o => [.int .u8 o.k, .int .i64 o.n, .string o.s]
theorem opCells_len (l : List OpV) : (opCells l).length = l.length * 3 := by
  induction l with
  | nil => rfl
  | cons o l ih =>
    have e : opCells (o :: l) = [.int .u8 o.k, .int .i64 o.n, .string o.s] ++ opCells l := by simp [opCells]
    rw [e, List.length_append, ih]
    simp
    omega
theorem opCells_snoc (l : List OpV) (o : OpV) : opCells (l ++ [o]) = opCells l ++ [.int .u8 o.k, .int .i64 o.n, .string o.s] := by simp [opCells]
theorem opCells_get : ∀ (l : List OpV) (j i : Nat) (o : OpV), l[j]? = some o → i < 3 → (opCells l)[j * 3 + i]? = [Value.int .u8 o.k, .int .i64 o.n, .string o.s][i]?
  | [], j, i, o, h, _ => by simp at h
  | x :: l, 0, i, o, h, hi => by
    simp at h
    subst h
    have e : opCells (x :: l) = [.int .u8 x.k, .int .i64 x.n, .string x.s] ++ opCells l := by simp [opCells]
    rw [e, List.getElem?_append_left (by simp; omega)]
    simp
  | x :: l, j + 1, i, o, h, hi => by
    have e : opCells (x :: l) = [.int .u8 x.k, .int .i64 x.n, .string x.s] ++ opCells l := by simp [opCells]
    rw [e, List.getElem?_append_right (by simp; omega)]
    have : (j + 1) * 3 + i - [Value.int .u8 x.k, .int .i64 x.n, .string x.s].length = j * 3 + i := by simp; omega
    rw [this]
    exact opCells_get l j i o (by simpa using h) hi

/-- v is a row of operations of the call's own; r: its block. -/
def FRow (w : World) (v : Value) (r : Option Nat) (l : List OpV) : Prop := w.ownsRow 0 31 3 v l.length (opCells l) ∧ v.ownBlock = r
section
variable {w w1 : World} {v : Value} {r : Option Nat} {l : List OpV} {S : Nat → Prop}
theorem FRow.nil (w : World) : FRow w (.slice none 0 0) none [] := ⟨World.ownsRow_nil w 0 _ 3, rfl⟩
theorem FRow.lt (h : FRow w v r l) {k : Nat} (hk : r = some k) : k < w.heap.size ∧ ∃ cs, w.heap[k]? = some (.cells cs 31 (0, 0)) := by
  obtain ⟨⟨_, h2⟩, rfl⟩ := h
  rcases h2 with ⟨rfl, _⟩ | ⟨g, cap, cur, rfl, _, hh, _⟩
  · simp [Value.ownBlock] at hk
  · have : g = k := by simpa [Value.ownBlock] using hk
    subst this
    exact ⟨(Array.getElem?_eq_some_iff.1 hh).1, _, hh⟩
theorem FRow.step (h : FRow w v r l) (hb : ∀ k, r = some k → w1.heap[k]? = w.heap[k]?) : FRow w1 v r l := by
  obtain ⟨⟨h1, h2⟩, rfl⟩ := h
  refine ⟨⟨h1, ?_⟩, rfl⟩
  rcases h2 with h2 | ⟨g, cap, cur, rfl, hg, hh, r⟩
  · exact .inl h2
  · exact .inr ⟨g, cap, cur, rfl, hg, by rw [hb g rfl]; exact hh, r⟩
theorem FRow.chg (h : FRow w v r l) (c : Chg S w w1) (hn : ∀ k, r = some k → ¬ S k) : FRow w1 v r l :=
  h.step fun k hk => c.block k (h.lt hk).1 (hn k hk)
theorem FRow.form (h : FRow w v r l) : ∃ A c, v = .slice A l.length c := by
  obtain ⟨⟨_, h2⟩, _⟩ := h
  rcases h2 with ⟨rfl, h0⟩ | ⟨g, cap, cur, rfl, _⟩
  · exact ⟨none, 0, by rw [h0]⟩
  · exact ⟨_, _, rfl⟩
theorem FRow.ops {A : Option Addr} {n c : Nat} (h : FRow w (.slice A n c) r l) (hok : ∀ o ∈ l, o.ok) : OpsIn w A l := by
  obtain ⟨ho, _⟩ := h
  refine ⟨?_, fun hl => ?_⟩
  · rcases ho.2 with ⟨_, h0⟩ | ⟨g, cap, cur, _, _, _, hn, hm, _⟩
    · omega
    · simp only [maxLen] at hm; omega
  · rcases ho.2 with ⟨_, h0⟩ | ⟨g, cap, cur, he, _, _, _, _, _⟩
    · omega
    · injection he with he1 _ _
      subst he1
      refine ⟨_, rfl, fun j o hj => ⟨⟨?_, ?_, ?_⟩, hok o (List.mem_of_getElem? hj)⟩⟩
      · have := ho.cells (g := g) rfl (j * 3 + 0) (.int .u8 o.k) (by rw [opCells_get l j 0 o hj (by omega)]; rfl)
        simpa using this
      · have := ho.cells (g := g) rfl (j * 3 + 1) (.int .i64 o.n) (by rw [opCells_get l j 1 o hj (by omega)]; rfl)
        rw [addField2 _ _ _ (by omega)] at this
        exact this
      · have := ho.cells (g := g) rfl (j * 3 + 2) (.string o.s) (by rw [opCells_get l j 2 o hj (by omega)]; rfl)
        rw [addField2 _ _ _ (by omega)] at this
        exact this
end
section
variable {P : Program} {ops : Array Oper} {rest : List Oper} {o : Oper} {a : Act} {Q : Exit → Act → World → Prop}
theorem wpList_append_op (w : World) (hgd : o.guard = none) (sl x : Operand) (t : TypeId) (z : Value) (hz3 : z.cells.size = 3) (ho : o.op = .call { callee := .builtin .append, args := #[sl, x], argTypes := #[t, t] })
    (ht : P.underlying t = some (.slice 31)) (hinfo : (P.info? 31).map (fun i => (i.zero, i.size, i.bytes)) = some (some z, 3, 32))
    (v : Value) (r : Option Nat) (l : List OpV) (q : OpV) (hs : a.eval sl = v) (hx : a.eval x = .slice (some ⟨w.heap.size, 0, none⟩) 1 1) (h : FRow w v r l) (hl : (l.length + 1) * 32 ≤ 140737488355328)
    (hk : ∀ A c w' r', FRow w' (.slice A (l ++ [q]).length c) r' (l ++ [q]) → Next w r r' → (w.alloc (.cells #[.int .u8 q.k, .int .i64 q.n, .string q.s] 31)).grownBy w' r → wpList P ops Q rest (a.put o.dst (.slice A (l ++ [q]).length c)) w') :
    wpList P ops Q (o :: rest) a (w.alloc (.cells #[.int .u8 q.k, .int .i64 q.n, .string q.s] 31)) := by
  obtain ⟨i, hi, hzz⟩ := Option.map_eq_some_iff.1 hinfo
  simp only [Prod.mk.injEq] at hzz
  obtain ⟨hz0, hz1, hz2⟩ := hzz
  refine wpList_plain hgd fun K hK => ?_
  have hc := (Chg.refl (fun _ => False) w).alloc (.cells #[.int .u8 q.k, .int .i64 q.n, .string q.s] 31)
  obtain ⟨hown, hr⟩ := h.chg hc (fun _ _ => id)
  obtain ⟨v', w', hrun, h2, h3, _, h5⟩ := run_append_own_at (P := P) (w.alloc (.cells #[.int .u8 q.k, .int .i64 q.n, .string q.s] 31)) 0 t o.type 31 i z 3 32 ht hi hz0 hz1 hz2 hz3 (by omega) v l.length (opCells l) hown ⟨w.heap.size, 0, none⟩ 1 1 [.int .u8 q.k, .int .i64 q.n, .string q.s] rfl
    (World.news_of_block (cs := #[.int .u8 q.k, .int .i64 q.n, .string q.s]) (t := 31) (fr := (0, 0)) (heap_alloc_new w _)) (by simp [Value.oneCell']) (by simp only [maxLen]; omega) hl (Nat.zero_le _)
  rw [← opCells_snoc] at h2
  have e : l.length + 1 = (l ++ [q]).length := by simp
  rw [e] at h2
  have hF : FRow w' v' v'.ownBlock (l ++ [q]) := ⟨h2, rfl⟩
  obtain ⟨A, c, hv⟩ := hF.form
  unfold Oper.wp execOp
  simp only [ho, resolve, invoke, builtin, Sem.run_bind, Sem.run_pure, Result.andThen_ok, List.map_toArray, List.map_cons, List.map_nil, hs, hx, hrun]
  subst hv
  refine hK _ _ (hk A c w' _ hF ?_ (by rw [hr] at h3; exact h3))
  rcases h5 with h5 | h5
  · exact .inl (h5.trans hr)
  · exact .inr ⟨_, h5, by simp⟩
end
theorem info_op : (Try.prog.info? 31).map (fun i => (i.zero, i.size, i.bytes)) = some (some (.agg #[.int .u8 0, .int .i64 0, .string ⟨#[]⟩]), 3, 32) := by kernel_rfl
end Go.Proofs.Ytjlkflbkejpcaaa
