/- A slice of bytes that the call made itself: what it holds, and what append makes of it; for walks and for regions that draw their order. -/
import Derived.Test.YtnhdlclicjmmnaaGreatHb
import Derived.Maps.AppendAt
namespace Go.Proofs.YtnhdlclicjmmnaaGreat
open Go.RowKit

/-- Bytes as cells. -/
def bcells (bs : List UInt8) : List Value := bs.map fun b => .int .u8 b.toNat
theorem bcells_length (bs : List UInt8) : (bcells bs).length = bs.length := by simp [bcells]
theorem bcells_append (xs ys : List UInt8) : bcells (xs ++ ys) = bcells xs ++ bcells ys := by simp [bcells]
theorem bcells_str (s : ByteArray) : Lib.strCells s = bcells s.data.toList := rfl
theorem bsize (s : ByteArray) : s.data.toList.length = s.size := by rw [Array.length_toList]; rfl

/-- v is a row of bytes bs of the call's own; r: its block. -/
def Row (w : World) (e : TypeId) (v : Value) (r : Option Nat) (bs : List UInt8) : Prop := w.ownsRow 0 e 1 v bs.length (bcells bs) ∧ v.ownBlock = r
/-- The next block of a row: the old one, or a new one. -/
def Next (w : World) (r r' : Option Nat) : Prop := r' = r ∨ ∃ k, r' = some k ∧ w.heap.size ≤ k
theorem Next.refl (w : World) (r : Option Nat) : Next w r r := .inl rfl
theorem Next.trans {w w1 : World} {r r1 r2 : Option Nat} (h : Next w r r1) (h2 : Next w1 r1 r2) (hs : w.heap.size ≤ w1.heap.size) : Next w r r2 := by
  rcases h2 with rfl | ⟨k, rfl, hk⟩
  · exact h
  · exact .inr ⟨k, rfl, Nat.le_trans hs hk⟩
theorem Next.mem {w : World} {r r' : Option Nat} (h : Next w r r') {k : Nat} (hk : r' = some k) : r = some k ∨ w.heap.size ≤ k := by
  rcases h with rfl | ⟨j, hj, hs⟩
  · exact .inl hk
  · rw [hj] at hk
    injection hk with hk
    subst hk
    exact .inr hs
theorem Next.ne {w : World} {r r' : Option Nat} (h : Next w r r') {k : Nat} (hk : k < w.heap.size) (hn : r ≠ some k) : r' ≠ some k := by
  intro e
  rcases h.mem e with h1 | h1
  · exact hn h1
  · omega

section
variable {w w1 : World} {e : TypeId} {v : Value} {r : Option Nat} {bs : List UInt8} {S : Nat → Prop}
theorem Row.nil (w : World) (e : TypeId) : Row w e (.slice none 0 0) none [] := ⟨World.ownsRow_nil w 0 e 1, rfl⟩
theorem Row.lt (h : Row w e v r bs) {k : Nat} (hk : r = some k) : k < w.heap.size ∧ ∃ cs, w.heap[k]? = some (.cells cs e (0, 0)) := by
  obtain ⟨⟨_, h2⟩, rfl⟩ := h
  rcases h2 with ⟨rfl, _⟩ | ⟨g, cap, cur, rfl, _, hh, _⟩
  · simp [Value.ownBlock] at hk
  · have : g = k := by simpa [Value.ownBlock] using hk
    subst this
    exact ⟨(Array.getElem?_eq_some_iff.1 hh).1, _, hh⟩
theorem Row.step (h : Row w e v r bs) (hb : ∀ k, r = some k → w1.heap[k]? = w.heap[k]?) : Row w1 e v r bs := by
  obtain ⟨⟨h1, h2⟩, rfl⟩ := h
  refine ⟨⟨h1, ?_⟩, rfl⟩
  rcases h2 with h2 | ⟨g, cap, cur, rfl, hg, hh, r⟩
  · exact .inl h2
  · exact .inr ⟨g, cap, cur, rfl, hg, by rw [hb g rfl]; exact hh, r⟩
theorem Row.chg (h : Row w e v r bs) (c : Chg S w w1) (hn : ∀ k, r = some k → ¬ S k) : Row w1 e v r bs :=
  h.step fun k hk => c.block k (h.lt hk).1 (hn k hk)
theorem Row.alloc (h : Row w e v r bs) (o : Obj) : Row (w.alloc o) e v r bs := h.step fun k hk => Below.heap_alloc w o k (h.lt hk).1
theorem Row.set (h : Row w e v r bs) {p : Addr} (hp : r ≠ some p.block) (u : Value) : Row (w.setCell p u) e v r bs :=
  h.step fun k hk => Below.heap_setCell w p u k (fun e => hp (by rw [hk, e]))
theorem Row.ne {t : TypeId} {cs : Array Value} {g : Nat} (h : Row w e v r bs) (hg : w.heap[g]? = some (.cells cs t (0, 0))) (hne : t ≠ e) : r ≠ some g := by
  intro hk
  obtain ⟨_, cs', hh⟩ := h.lt hk
  rw [hg] at hh
  injection hh with hh
  injection hh with _ ht
  exact hne ht
end

theorem Row.slice {w : World} {e : TypeId} {v : Value} {r : Option Nat} {bs : List UInt8} (h : Row w e v r bs) : ∃ A m c, v = .slice A m c := by
  obtain ⟨⟨_, h2⟩, _⟩ := h
  rcases h2 with ⟨rfl, _⟩ | ⟨g, cap, cur, rfl, _⟩
  · exact ⟨_, _, _, rfl⟩
  · exact ⟨_, _, _, rfl⟩

section
variable {P : Program}
/-- append(v, s...): s a string. -/
theorem run_append_str (w : World) (t u ty e : TypeId) (i : TypeInfo) (ht : P.underlying t = some (.slice e)) (hu : P.underlying u = some .string) (hi : P.info? e = some i) (hz : i.zero = some (.int .u8 0)) (hsize : i.size = 1) (hby : i.bytes = 1)
    (v : Value) (r : Option Nat) (bs : List UInt8) (h : Row w e v r bs) (s : ByteArray) (hl : bs.length + s.size ≤ 140737488355328) :
    ∃ v' w' r', (Builtin.append_ #[t, u] ty #[v, .string s]).run P w = .ok v' w' ∧ Row w' e v' r' (bs ++ s.data.toList) ∧ Next w r r' ∧ w.grownBy w' r := by
  have fresh : ∀ (B : Nat), w.ownsRow B e 1 v bs.length (bcells bs) → B ≤ w.heap.size → ∃ v' w', (Builtin.append_ #[t, u] ty #[v, .string s]).run P w = .ok v' w' ∧ w'.ownsRow B e 1 v' (bs.length + s.size) (bcells bs ++ Lib.strCells s) ∧ w.grownBy w' v.ownBlock := by
    intro B hB hBs
    obtain ⟨v', w', hr, h2, h3, _⟩ := Lib.run_append_own_string (P := P) w B t u ty e i ht hu hi hz hsize hby v bs.length (bcells bs) hB s (by simp only [maxLen]; omega) hl hBs
    exact ⟨v', w', hr, h2, h3⟩
  have hlen : (bs ++ s.data.toList).length = bs.length + s.size := by rw [List.length_append, bsize]
  have hcell : bcells (bs ++ s.data.toList) = bcells bs ++ Lib.strCells s := by rw [bcells_append, bcells_str]
  obtain ⟨ho, hr⟩ := h
  rcases ho.2 with ⟨rfl, hn⟩ | ⟨g, cap, cur, rfl, hbg, hg, hnc, hcm, hcs, htake⟩
  · obtain rfl : r = none := by rw [← hr]; rfl
    have ho' : w.ownsRow w.heap.size e 1 (.slice none 0 0) bs.length (bcells bs) := ⟨ho.1, .inl ⟨rfl, hn⟩⟩
    obtain ⟨v', w', h1, h2, h3⟩ := fresh _ ho' (Nat.le_refl _)
    refine ⟨v', w', v'.ownBlock, h1, ⟨?_, rfl⟩, ?_, h3⟩
    · rw [hlen, hcell]
      exact ⟨h2.1, h2.2.imp id fun ⟨g, cap, cur, a, _, b⟩ => ⟨g, cap, cur, a, Nat.zero_le _, b⟩⟩
    · rcases h2.2 with ⟨rfl, _⟩ | ⟨g, cap, cur, rfl, hb, _⟩
      · exact .inl rfl
      · exact .inr ⟨g, rfl, hb⟩
  · obtain rfl : r = some g := by rw [← hr]; rfl
    have hxl : (bcells bs).length = bs.length := bcells_length bs
    by_cases hroom : bs.length + s.size ≤ cap
    · have hcs' : cur.size = cap := by simpa using hcs
      have h1 := Lib.run_append_room_string (P := P) w t u ty e i ht hu hi hsize g bs.length cap cur hg s hroom (by omega)
      refine ⟨_, _, some g, h1, ⟨⟨?_, .inr ⟨g, cap, _, ?_, hbg, setRow_heap w g cur _ e _ hg, ?_, hcm, ?_, ?_⟩⟩, rfl⟩, .inl rfl, ⟨rfl, rfl, rfl, by simp, fun k _ hk => setRow_other w g k _ (fun e => hk (by rw [e]))⟩⟩
      · rw [bcells_length]; omega
      · rw [hlen]
      · rw [hlen]; exact hroom
      · simp only [List.size_toArray, List.length_append, List.length_take, List.length_drop, Array.length_toList, Lib.strCells_length]
        omega
      · have ht' : cur.toList.take bs.length = bcells bs := by simpa using htake
        rw [ht', hlen, hcell]
        have : (bs.length + s.size) * 1 = (bcells bs ++ Lib.strCells s).length := by rw [List.length_append, Lib.strCells_length, bcells_length]; omega
        rw [this]
        exact List.take_left
    · have holds : ∀ j u, (bcells bs)[j]? = some u → w.cell? ((⟨g, 0, none⟩ : Addr).add j) = some u := ho.cells (g := g) rfl
      have h1 := Lib.run_append_grow_string (P := P) w t u ty e i (.int .u8 0) ht hu hi hz ⟨g, 0, none⟩ bs.length cap (bcells bs) (by rw [hsize]; omega) holds s (by omega) (by omega) (by rw [hby]; exact growslice_fits (by omega) (by omega))
      have hge := grownCap_ge w (bs.length + s.size) cap e
      have hcm2 : grownCap w (bs.length + s.size) cap e ≤ maxLen := grownCap_le_maxLen w (bs.length + s.size) cap e (by simp only [maxLen]; omega)
      refine ⟨_, _, some w.heap.size, h1, ⟨⟨?_, .inr ⟨w.heap.size, _, _, ?_, Nat.zero_le _, heap_alloc_new w.drew _, ?_, hcm2, ?_, ?_⟩⟩, rfl⟩, .inr ⟨_, rfl, Nat.le_refl _⟩, ⟨rfl, rfl, rfl, by simp, fun k hk _ => Below.heap_alloc w.drew _ k hk⟩⟩
      · rw [bcells_length]; omega
      · rw [hlen]
      · rw [hlen]; exact hge
      · have hz1 : (Value.int IntKind.u8 0).cells.size = 1 := rfl
        simp only [Array.size_append, List.size_toArray, size_zeroCells, hz1, hxl, Lib.strCells_length]
        omega
      · rw [hlen, hcell]
        simp only [Array.toList_append, List.append_assoc]
        rw [← List.append_assoc]
        have : (bs.length + s.size) * 1 = (bcells bs ++ Lib.strCells s).length := by rw [List.length_append, Lib.strCells_length, bcells_length]; omega
        rw [this]
        exact List.take_left

/-- append(v, y): one byte; the goal's world holds the variadic's box. -/
theorem run_append_byte (w : World) (t ty e : TypeId) (i : TypeInfo) (ht : P.underlying t = some (.slice e)) (hi : P.info? e = some i) (hz : i.zero = some (.int .u8 0)) (hsize : i.size = 1) (hby : i.bytes = 1)
    (v : Value) (r : Option Nat) (bs : List UInt8) (h : Row w e v r bs) (y : Int) (hy : 0 ≤ y ∧ y < 256) (hl : bs.length + 1 ≤ 140737488355328) :
    ∃ v' w' r', (Builtin.append_ #[t, t] ty #[v, .slice (some ⟨w.heap.size, 0, none⟩) 1 1]).run P (w.alloc (.cells #[.int .u8 y] e)) = .ok v' w' ∧ Row w' e v' r' (bs ++ [UInt8.ofNat y.toNat]) ∧ Next w r r' ∧ (w.alloc (.cells #[.int .u8 y] e)).grownBy w' r := by
  obtain ⟨ho, hr⟩ := h.alloc (.cells #[.int .u8 y] e)
  obtain ⟨v', w', h1, h2, h3, _, h5⟩ := run_append_own_at (P := P) (w.alloc (.cells #[.int .u8 y] e)) 0 t ty e i (.int .u8 0) 1 1 ht hi hz hsize hby rfl (by omega) v bs.length (bcells bs) ho ⟨w.heap.size, 0, none⟩ 1 1 [.int .u8 y] rfl
    (World.news_of_block (cs := #[.int .u8 y]) (t := e) (fr := (0, 0)) (heap_alloc_new w _)) (by simp [Value.oneCell']) (by simp only [maxLen]; omega) (by omega) (Nat.zero_le _)
  have hb : bcells bs ++ [.int .u8 y] = bcells (bs ++ [UInt8.ofNat y.toNat]) := by
    rw [bcells_append]
    congr 1
    simp only [bcells, List.map_cons, List.map_nil]
    have : ((UInt8.ofNat y.toNat).toNat : Int) = y := by
      rw [UInt8.toNat_ofNat']
      omega
    rw [this]
  refine ⟨v', w', v'.ownBlock, h1, ⟨?_, rfl⟩, ?_, by rw [hr] at h3; exact h3⟩
  · rw [← hb, List.length_append]
    exact h2
  · rcases h5 with h5 | h5
    · exact .inl (h5.trans hr)
    · exact .inr ⟨_, h5, by simp⟩
end

section
variable {P : Program} {ops : Array Oper} {rest : List Oper} {o : Oper} {a : Act} {Q : Exit → Act → World → Prop} {K : Act → World → Prop}
theorem wpList_append_str (w : World) (hgd : o.guard = none) (sl x : Operand) (t u e : TypeId) (ho : o.op = .call { callee := .builtin .append, args := #[sl, x], argTypes := #[t, u] })
    (ht : P.underlying t = some (.slice e)) (hu : P.underlying u = some .string) (hinfo : (P.info? e).map (fun i => (i.zero, i.size, i.bytes)) = some (some (.int .u8 0), 1, 1))
    (v : Value) (r : Option Nat) (bs : List UInt8) (s : ByteArray) (hs : a.eval sl = v) (hx : a.eval x = .string s) (h : Row w e v r bs) (hl : bs.length + s.size ≤ 140737488355328)
    (hk : ∀ A m c w' r', Row w' e (.slice A m c) r' (bs ++ s.data.toList) → Next w r r' → w.grownBy w' r → wpList P ops Q rest (a.put o.dst (.slice A m c)) w') : wpList P ops Q (o :: rest) a w := by
  obtain ⟨i, hi, hzz⟩ := Option.map_eq_some_iff.1 hinfo
  simp only [Prod.mk.injEq] at hzz
  obtain ⟨hz0, hz1, hz2⟩ := hzz
  refine wpList_plain hgd fun K hK => ?_
  obtain ⟨v', w', r', hr, h2, h3, h4⟩ := run_append_str (P := P) w t u o.type e i ht hu hi hz0 hz1 hz2 v r bs h s hl
  unfold Oper.wp execOp
  simp only [ho, resolve, invoke, builtin, Sem.run_bind, Sem.run_pure, Result.andThen_ok, List.map_toArray, List.map_cons, List.map_nil, hs, hx, hr]
  obtain ⟨A, m, c, rfl⟩ := h2.slice
  exact hK _ _ (hk A m c w' r' h2 h3 h4)
theorem wpList_append_byte (w : World) (hgd : o.guard = none) (sl x : Operand) (t e : TypeId) (ho : o.op = .call { callee := .builtin .append, args := #[sl, x], argTypes := #[t, t] })
    (ht : P.underlying t = some (.slice e)) (hinfo : (P.info? e).map (fun i => (i.zero, i.size, i.bytes)) = some (some (.int .u8 0), 1, 1))
    (v : Value) (r : Option Nat) (bs : List UInt8) (y : Int) (hs : a.eval sl = v) (hx : a.eval x = .slice (some ⟨w.heap.size, 0, none⟩) 1 1) (h : Row w e v r bs) (hy : 0 ≤ y ∧ y < 256) (hl : bs.length + 1 ≤ 140737488355328)
    (hk : ∀ A m c w' r', Row w' e (.slice A m c) r' (bs ++ [UInt8.ofNat y.toNat]) → Next w r r' → (w.alloc (.cells #[.int .u8 y] e)).grownBy w' r → wpList P ops Q rest (a.put o.dst (.slice A m c)) w') : wpList P ops Q (o :: rest) a (w.alloc (.cells #[.int .u8 y] e)) := by
  obtain ⟨i, hi, hzz⟩ := Option.map_eq_some_iff.1 hinfo
  simp only [Prod.mk.injEq] at hzz
  obtain ⟨hz0, hz1, hz2⟩ := hzz
  refine wpList_plain hgd fun K hK => ?_
  obtain ⟨v', w', r', hr, h2, h3, h4⟩ := run_append_byte (P := P) w t o.type e i ht hi hz0 hz1 hz2 v r bs h y hy hl
  unfold Oper.wp execOp
  simp only [ho, resolve, invoke, builtin, Sem.run_bind, Sem.run_pure, Result.andThen_ok, List.map_toArray, List.map_cons, List.map_nil, hs, hx, hr]
  obtain ⟨A, m, c, rfl⟩ := h2.slice
  exact hK _ _ (hk A m c w' r' h2 h3 h4)
/-- The same as a step of a region that draws its order. -/
theorem step_append_byte (w : World) (hw : Region.wanted o (yielded ops a.tmps) = true) (sl x : Operand) (t e : TypeId) (ho : o.op = .call { callee := .builtin .append, args := #[sl, x], argTypes := #[t, t] })
    (ht : P.underlying t = some (.slice e)) (hinfo : (P.info? e).map (fun i => (i.zero, i.size, i.bytes)) = some (some (.int .u8 0), 1, 1))
    (v : Value) (r : Option Nat) (bs : List UInt8) (y : Int) (hs : a.eval sl = v) (hx : a.eval x = .slice (some ⟨w.heap.size, 0, none⟩) 1 1) (h : Row w e v r bs) (hy : 0 ≤ y ∧ y < 256) (hl : bs.length + 1 ≤ 140737488355328)
    (hk : ∀ A m c w' r', Row w' e (.slice A m c) r' (bs ++ [UInt8.ofNat y.toNat]) → Next w r r' → (w.alloc (.cells #[.int .u8 y] e)).grownBy w' r → K (a.put o.dst (.slice A m c)) w') :
    if Region.wanted o (yielded ops a.tmps) = true then Oper.wp P o a (w.alloc (.cells #[.int .u8 y] e)) K Q else K (a.put o.dst undef) (w.alloc (.cells #[.int .u8 y] e)) := by
  obtain ⟨i, hi, hzz⟩ := Option.map_eq_some_iff.1 hinfo
  simp only [Prod.mk.injEq] at hzz
  obtain ⟨hz0, hz1, hz2⟩ := hzz
  rw [if_pos hw]
  obtain ⟨v', w', r', hr, h2, h3, h4⟩ := run_append_byte (P := P) w t o.type e i ht hi hz0 hz1 hz2 v r bs h y hy hl
  unfold Oper.wp execOp
  simp only [ho, resolve, invoke, builtin, Sem.run_bind, Sem.run_pure, Result.andThen_ok, List.map_toArray, List.map_cons, List.map_nil, hs, hx, hr]
  obtain ⟨A, m, c, rfl⟩ := h2.slice
  exact hk A m c w' r' h2 h3 h4
theorem step_append_str (w : World) (hw : Region.wanted o (yielded ops a.tmps) = true) (sl x : Operand) (t u e : TypeId) (ho : o.op = .call { callee := .builtin .append, args := #[sl, x], argTypes := #[t, u] })
    (ht : P.underlying t = some (.slice e)) (hu : P.underlying u = some .string) (hinfo : (P.info? e).map (fun i => (i.zero, i.size, i.bytes)) = some (some (.int .u8 0), 1, 1))
    (v : Value) (r : Option Nat) (bs : List UInt8) (s : ByteArray) (hs : a.eval sl = v) (hx : a.eval x = .string s) (h : Row w e v r bs) (hl : bs.length + s.size ≤ 140737488355328)
    (hk : ∀ A m c w' r', Row w' e (.slice A m c) r' (bs ++ s.data.toList) → Next w r r' → w.grownBy w' r → K (a.put o.dst (.slice A m c)) w') :
    if Region.wanted o (yielded ops a.tmps) = true then Oper.wp P o a w K Q else K (a.put o.dst undef) w := by
  obtain ⟨i, hi, hzz⟩ := Option.map_eq_some_iff.1 hinfo
  simp only [Prod.mk.injEq] at hzz
  obtain ⟨hz0, hz1, hz2⟩ := hzz
  rw [if_pos hw]
  obtain ⟨v', w', r', hr, h2, h3, h4⟩ := run_append_str (P := P) w t u o.type e i ht hu hi hz0 hz1 hz2 v r bs h s hl
  unfold Oper.wp execOp
  simp only [ho, resolve, invoke, builtin, Sem.run_bind, Sem.run_pure, Result.andThen_ok, List.map_toArray, List.map_cons, List.map_nil, hs, hx, hr]
  obtain ⟨A, m, c, rfl⟩ := h2.slice
  exact hk A m c w' r' h2 h3 h4
end

/-- string(v). -/
def strOf (bs : List UInt8) : ByteArray := ⟨bs.toArray⟩
theorem strOf_size (bs : List UInt8) : (strOf bs).size = bs.length := by simp [strOf, ByteArray.size]
theorem strOf_list (bs : List UInt8) : (strOf bs).data.toList = bs := rfl
theorem strOf_data (s : ByteArray) : strOf s.data.toList = s := by cases s; simp [strOf]
theorem run_string_row {P : Program} {w : World} {src dst e : TypeId} {v : Value} {r : Option Nat} {bs : List UInt8} (hs : P.underlying src = some (.slice e)) (he : P.underlying e = some (.int .u8)) (hd : P.underlying dst = some .string)
    (h : Row w e v r bs) : (convert src dst v).run P w = .ok (.string (strOf bs)) w := by
  obtain ⟨h, _⟩ := h
  have hl : (bcells bs).length = bs.length := bcells_length bs
  have hns : strOfNums (bs.map fun b => (b.toNat : Int)) = strOf bs := by
    simp [strOfNums, strOf, List.map_map, Function.comp_def]
  rcases h.2 with ⟨rfl, hn⟩ | ⟨g, cap, cur, rfl, _⟩
  · obtain rfl : bs = [] := List.eq_nil_of_length_eq_zero hn
    exact run_convert_bytes_nil w src e hs he 0 0 dst hd
  · rw [← hns]
    refine run_convert_bytes_arg w src e hs he g 0 bs.length cap _ (by simp) (fun i hi => ?_) dst hd
    have hc := h.cells (g := g) rfl i (.int .u8 ((bs.map fun b => (b.toNat : Int)).getD i 0)) (by simp [bcells, List.getElem?_eq_getElem hi, List.getD_eq_getElem?_getD])
    have ha : (⟨g, 0, none⟩ : Addr).add i = ⟨g, 0 + i, none⟩ := by unfold Addr.add; split <;> simp_all
    rwa [ha] at hc
end Go.Proofs.YtnhdlclicjmmnaaGreat
