/- Rows of bytes of one's own: append of several bytes, of zeros; a row that make made. -/
import Derived.Test.YtnhdlclicjmmnaaGreatRow
import Derived.Test.YtnhdlclicjmmnaaGreatShF
namespace Go.Proofs.YtnhdlclicjmmnaaGreat
open Go.RowKit
section
variable {P : Program}
/-- append(v, y, ..): the goal's world holds the variadic's box. -/
theorem run_append_list (w : World) (t ty e : TypeId) (i : TypeInfo) (ht : P.underlying t = some (.slice e)) (hi : P.info? e = some i) (hz : i.zero = some (.int .u8 0)) (hsize : i.size = 1) (hby : i.bytes = 1)
    (v : Value) (r : Option Nat) (bs : List UInt8) (h : Row w e v r bs) (ys : List UInt8) (m : Nat) (hm : ys.length = m) (cs : Array Value) (hcs : cs = (bcells ys).toArray) (hl : bs.length + m ≤ 140737488355328) :
    ∃ v' w' r', (Builtin.append_ #[t, t] ty #[v, .slice (some ⟨w.heap.size, 0, none⟩) m m]).run P (w.alloc (.cells cs e)) = .ok v' w' ∧ Row w' e v' r' (bs ++ ys) ∧ Next w r r' ∧ (w.alloc (.cells cs e)).grownBy w' r := by
  subst hcs
  obtain ⟨ho, hr⟩ := h.alloc (.cells (bcells ys).toArray e)
  obtain ⟨v', w', h1, h2, h3, _, h5⟩ := run_append_own_at (P := P) (w.alloc (.cells (bcells ys).toArray e)) 0 t ty e i (.int .u8 0) 1 1 ht hi hz hsize hby rfl (by omega) v bs.length (bcells bs) ho ⟨w.heap.size, 0, none⟩ m m (bcells ys) (by rw [bcells_length]; omega)
    (by simpa using World.news_of_block (cs := (bcells ys).toArray) (t := e) (fr := (0, 0)) (heap_alloc_new w (.cells (bcells ys).toArray e))) (by intro u hu; simp only [bcells, List.mem_map] at hu; obtain ⟨b, _, rfl⟩ := hu; rfl) (by simp only [maxLen]; omega) (by omega) (Nat.zero_le _)
  refine ⟨v', w', v'.ownBlock, h1, ⟨?_, rfl⟩, ?_, by rw [hr] at h3; exact h3⟩
  · rw [bcells_append, List.length_append, hm]
    exact h2
  · rcases h5 with h5 | h5
    · exact .inl (h5.trans hr)
    · exact .inr ⟨_, h5, by simp⟩
theorem zeroBytes (m : Nat) : (Builtin.zeroCells (Value.int IntKind.u8 0).cells m).toList = bcells (List.replicate m 0) := by
  apply List.ext_getElem
  · simp [Builtin.zeroCells, bcells, Value.cells]
  · intro j h1 h2
    simp [Builtin.zeroCells, bcells, Value.cells, Nat.mod_one]
/-- append(v, make([]byte, m)...), where v is not nil. -/
theorem run_append_zeros (w : World) (t u ty e : TypeId) (i : TypeInfo) (ht : P.underlying t = some (.slice e)) (hu : P.underlying u = some (.int .i64)) (hi : P.info? e = some i) (hz : i.zero = some (.int .u8 0)) (hsize : i.size = 1) (hby : i.bytes = 1)
    (v : Value) (r : Option Nat) (bs : List UInt8) (h : Row w e v r bs) (hb : bs ≠ []) (m : Nat) (hm : m ≤ 64) (hl : bs.length + m ≤ 140737488355328) :
    ∃ v' w' r', (Builtin.append_ #[t, u] ty #[v, .int .i64 m]).run P w = .ok v' w' ∧ Row w' e v' r' (bs ++ List.replicate m 0) ∧ Next w r r' ∧ w.grownBy w' r := by
  obtain ⟨⟨hlen, hown⟩, hr⟩ := h
  have hpos : 0 < bs.length := List.length_pos_iff.2 hb
  have hwrap : IntKind.i64.wrap (m : Int) = m := by rw [IntKind.wrap_i64]; omega
  have hneg : ¬ ((m : Int) < 0) := by omega
  have hai : ∀ (x : Int) (w0 : World), (asInt (.int .i64 x)).run P w0 = .ok x w0 := fun _ _ => rfl
  have hbig : ¬ (281474976710656 < (m : Int)) := by omega
  have hnlen : (bcells (List.replicate m 0)).length = m := by rw [bcells_length, List.length_replicate]
  have hone : ∀ u ∈ bcells (List.replicate m 0), u.oneCell' = true := by
    intro u hu
    simp only [bcells, List.mem_map] at hu
    obtain ⟨b, _, rfl⟩ := hu
    rfl
  rcases hown with ⟨_, h0⟩ | ⟨g, cap, cur, rfl, hbg, hg, hnc, hcm, hcs, htake⟩
  · omega
  · obtain rfl : r = some g := by rw [← hr]; rfl
    have hcs' : cur.size = cap := by simpa using hcs
    have htk : cur.toList.take bs.length = bcells bs := by simpa using htake
    have hrep : (bs ++ List.replicate m (0 : UInt8)).length = bs.length + m := by rw [List.length_append, List.length_replicate]
    by_cases hroom : bs.length + m ≤ cap
    · have hst := run_storeCells_at P g bs.length e (bcells (List.replicate m 0)) 0 cur w hg (by simpa [hnlen] using by omega) hone
      simp only [Nat.add_zero, hnlen] at hst
      refine ⟨.slice (some ⟨g, 0, none⟩) (bs.length + m) cap, w.setRow g (cur.toList.take bs.length ++ bcells (List.replicate m 0) ++ cur.toList.drop (bs.length + m)).toArray, some g, ?_, ⟨⟨?_, .inr ⟨g, cap, _, ?_, hbg, setRow_heap w g cur _ e _ hg, ?_, hcm, ?_, ?_⟩⟩, rfl⟩, .inl rfl, ⟨rfl, rfl, rfl, by simp, fun k _ hk => setRow_other w g k _ (fun e => hk (by rw [e]))⟩⟩
      · simp only [Builtin.append_]
        simp [run_underlying ht, run_underlying hu, hai, sizeOf, typeInfo, zeroValue, hi, hz, hsize, hby, hwrap, hneg, hbig, hroom, Addr.add_lit]
        by_cases hm0 : m = 0
        · subst hm0
          simp [bcells] at hst ⊢
          rw [hst]
          rfl
        · simp [hm0, zeroBytes, hst]
      · rw [bcells_length, Nat.mul_one]
      · rw [hrep]
      · rw [hrep]; exact hroom
      · simp only [List.size_toArray, List.length_append, List.length_take, List.length_drop, Array.length_toList, hnlen]
        omega
      · rw [htk, hrep, bcells_append]
        have : (bs.length + m) * 1 = (bcells bs ++ bcells (List.replicate m 0)).length := by rw [List.length_append, hnlen, bcells_length]; omega
        rw [this]
        exact List.take_left
    · have holds : ∀ j u, (bcells bs)[j]? = some u → w.cell? ((⟨g, 0, none⟩ : Addr).add j) = some u := by
        have ho : w.ownsRow 0 e 1 (.slice (some ⟨g, 0, none⟩) bs.length cap) bs.length (bcells bs) := ⟨hlen, .inr ⟨g, cap, cur, rfl, hbg, hg, hnc, hcm, hcs, htake⟩⟩
        exact ho.cells (g := g) rfl
      have hfo := run_firstCells_some (P := P) w.drew i.size bs.length ⟨g, 0, none⟩ bs.length cap (bcells bs) (by rw [hsize, bcells_length]; omega) (by simpa using holds)
      have h63 : ¬ (9223372036854775807 < ((bs.length : Int) + (m : Int))) := by omega
      have hg0 := growslice_fits (need := bs.length + m) (old := cap) (bytes := 1) (by omega) (by omega)
      have h48 : ¬ (281474976710656 < Builtin.nextslicecap (bs.length + m) cap) := by omega
      have hge := grownCap_ge w (bs.length + m) cap e
      have hcm2 : grownCap w (bs.length + m) cap e ≤ maxLen := grownCap_le_maxLen w (bs.length + m) cap e (by simp only [maxLen]; omega)
      refine ⟨.slice (some ⟨w.heap.size, 0, none⟩) (bs.length + m) (grownCap w (bs.length + m) cap e),
        w.drew.alloc (.cells ((bcells bs).toArray ++ (bcells (List.replicate m 0)).toArray ++ Builtin.zeroCells (Value.int .u8 0).cells (grownCap w (bs.length + m) cap e - (bs.length + m))) e), some w.heap.size, ?_,
        ⟨⟨?_, .inr ⟨w.heap.size, _, _, ?_, Nat.zero_le _, heap_alloc_new w.drew _, ?_, hcm2, ?_, ?_⟩⟩, rfl⟩, .inr ⟨_, rfl, Nat.le_refl _⟩, ⟨rfl, rfl, rfl, by simp, fun k hk _ => Below.heap_alloc w.drew _ k hk⟩⟩
      · simp only [Builtin.append_]
        rw [hsize] at hfo
        by_cases hm0 : m = 0
        · subst hm0
          exact absurd hnc (by omega)
        · simp [run_underlying ht, run_underlying hu, hai, sizeOf, typeInfo, zeroValue, hi, hz, hsize, hby, hwrap, hneg, hbig, hroom, h63, h48, Question.forced, hfo, newRow, grownCap, hm0]
          congr 2
          apply Array.ext'
          simp [List.append_assoc, zeroBytes]
      · rw [bcells_length, Nat.mul_one]
      · rw [hrep]
      · rw [hrep]; exact hge
      · have hz1 : (Value.int IntKind.u8 0).cells.size = 1 := rfl
        simp only [Array.size_append, List.size_toArray, size_zeroCells, hz1, bcells_length, List.length_replicate]
        omega
      · rw [hrep, bcells_append]
        simp only [Array.toList_append, List.append_assoc]
        rw [← List.append_assoc]
        have : (bs.length + m) * 1 = (bcells bs ++ bcells (List.replicate m 0)).length := by rw [List.length_append, hnlen, bcells_length]; omega
        rw [this]
        exact List.take_left
end
section
variable {P : Program} {ops : Array Oper} {rest : List Oper} {o : Oper} {a : Act} {Q : Exit → Act → World → Prop}
theorem wpList_append_list (w : World) (hgd : o.guard = none) (sl x : Operand) (t e : TypeId) (ho : o.op = .call { callee := .builtin .append, args := #[sl, x], argTypes := #[t, t] })
    (ht : P.underlying t = some (.slice e)) (hinfo : (P.info? e).map (fun i => (i.zero, i.size, i.bytes)) = some (some (.int .u8 0), 1, 1))
    (v : Value) (r : Option Nat) (bs ys : List UInt8) (m : Nat) (hm : ys.length = m) (cs : Array Value) (hcs : cs = (bcells ys).toArray) (hs : a.eval sl = v) (hx : a.eval x = .slice (some ⟨w.heap.size, 0, none⟩) m m) (h : Row w e v r bs) (hl : bs.length + m ≤ 140737488355328)
    (hk : ∀ A n c w' r', Row w' e (.slice A n c) r' (bs ++ ys) → Next w r r' → (w.alloc (.cells cs e)).grownBy w' r → wpList P ops Q rest (a.put o.dst (.slice A n c)) w') : wpList P ops Q (o :: rest) a (w.alloc (.cells cs e)) := by
  obtain ⟨i, hi, hzz⟩ := Option.map_eq_some_iff.1 hinfo
  simp only [Prod.mk.injEq] at hzz
  obtain ⟨hz0, hz1, hz2⟩ := hzz
  refine wpList_plain hgd fun K hK => ?_
  obtain ⟨v', w', r', hr, h2, h3, h4⟩ := run_append_list (P := P) w t o.type e i ht hi hz0 hz1 hz2 v r bs h ys m hm cs hcs hl
  unfold Oper.wp execOp
  simp only [ho, resolve, invoke, builtin, Sem.run_bind, Sem.run_pure, Result.andThen_ok, List.map_toArray, List.map_cons, List.map_nil, hs, hx, hr]
  obtain ⟨A, n, c, rfl⟩ := h2.slice
  exact hK _ _ (hk A n c w' r' h2 h3 h4)
theorem wpList_append_zeros (w : World) (hgd : o.guard = none) (sl x : Operand) (t u e : TypeId) (ho : o.op = .call { callee := .builtin .append, args := #[sl, x], argTypes := #[t, u] })
    (ht : P.underlying t = some (.slice e)) (hu : P.underlying u = some (.int .i64)) (hinfo : (P.info? e).map (fun i => (i.zero, i.size, i.bytes)) = some (some (.int .u8 0), 1, 1))
    (v : Value) (r : Option Nat) (bs : List UInt8) (m : Nat) (hs : a.eval sl = v) (hx : a.eval x = .int .i64 m) (h : Row w e v r bs) (hb : bs ≠ []) (hm : m ≤ 64) (hl : bs.length + m ≤ 140737488355328)
    (hk : ∀ A n c w' r', Row w' e (.slice A n c) r' (bs ++ List.replicate m 0) → Next w r r' → w.grownBy w' r → wpList P ops Q rest (a.put o.dst (.slice A n c)) w') : wpList P ops Q (o :: rest) a w := by
  obtain ⟨i, hi, hzz⟩ := Option.map_eq_some_iff.1 hinfo
  simp only [Prod.mk.injEq] at hzz
  obtain ⟨hz0, hz1, hz2⟩ := hzz
  refine wpList_plain hgd fun K hK => ?_
  obtain ⟨v', w', r', hr, h2, h3, h4⟩ := run_append_zeros (P := P) w t u o.type e i ht hu hi hz0 hz1 hz2 v r bs h hb m hm hl
  unfold Oper.wp execOp
  simp only [ho, resolve, invoke, builtin, Sem.run_bind, Sem.run_pure, Result.andThen_ok, List.map_toArray, List.map_cons, List.map_nil, hs, hx, hr]
  obtain ⟨A, n, c, rfl⟩ := h2.slice
  exact hK _ _ (hk A n c w' r' h2 h3 h4)
end
end Go.Proofs.YtnhdlclicjmmnaaGreat
/- Bytes of numbers, the filling up, the blocks, the bytes of eight words: in plain Lean. -/
namespace Go.Proofs.YtnhdlclicjmmnaaGreat
open Go.RowKit

/-- The lowest k bytes of a number, the greatest first. -/
def numBytes (x : Int) : Nat → List UInt8
  | 0 => []
  | k + 1 => UInt8.ofNat ((x / 2 ^ (8 * k)) % 256).toNat :: numBytes x k
theorem numBytes_len (x : Int) (n : Nat) : (numBytes x n).length = n := by
  induction n with
  | zero => rfl
  | succ n ih => simp [numBytes, ih]
theorem byteCell (x : Int) : Value.int .u8 ((UInt8.ofNat (x % 256).toNat).toNat : Int) = .int .u8 (x % 256) := by
  have : ((UInt8.ofNat (x % 256).toNat).toNat : Int) = x % 256 := by
    rw [UInt8.toNat_ofNat']
    omega
  rw [this]
theorem cells4 (x : Int) : bcells (numBytes x 4) = [.int .u8 (x / 16777216 % 256), .int .u8 (x / 65536 % 256), .int .u8 (x / 256 % 256), .int .u8 (x % 256)] := by
  simp only [numBytes, bcells, List.map_cons, List.map_nil, byteCell, Nat.reduceMul, Int.reducePow, Int.ediv_one, Int.pow_zero, Nat.mul_zero]
theorem cells8 (x : Int) : bcells (numBytes x 8) = [.int .u8 (x / 72057594037927936 % 256), .int .u8 (x / 281474976710656 % 256), .int .u8 (x / 1099511627776 % 256), .int .u8 (x / 4294967296 % 256), .int .u8 (x / 16777216 % 256), .int .u8 (x / 65536 % 256), .int .u8 (x / 256 % 256), .int .u8 (x % 256)] := by
  simp only [numBytes, bcells, List.map_cons, List.map_nil, byteCell, Nat.reduceMul, Int.reducePow, Int.ediv_one, Int.pow_zero, Nat.mul_zero]
/-- What a hash is taken of: a kind and parts with their lengths. -/
def partB (s : ByteArray) : List UInt8 := numBytes (s.size : Int) 4 ++ s.data.toList
def tagPre (kind : Int) (parts : List ByteArray) : List UInt8 := UInt8.ofNat kind.toNat :: parts.flatMap partB
/-- How many zeros fill up n bytes. -/
def zeroN (n : Nat) : Nat := (119 - n % 64) % 64
def padF (bs : List UInt8) : List UInt8 := bs ++ [128] ++ List.replicate (zeroN bs.length) 0 ++ numBytes ((bs.length : Int) * 8) 8
theorem padF_len (bs : List UInt8) : (padF bs).length % 64 = 0 ∧ bs.length < (padF bs).length ∧ (padF bs).length ≤ bs.length + 72 := by
  unfold padF zeroN
  simp only [List.length_append, List.length_singleton, List.length_replicate, numBytes_len]
  omega
def S8.begin : S8 := ⟨1779033703, 3144134277, 1013904242, 2773480762, 1359893119, 2600822924, 528734635, 1541459225⟩
theorem S8.begin_ok : S8.begin.ok := by
  constructor <;> exact ⟨by decide, by decide⟩
/-- The words behind n blocks. -/
def S8.blocks (bs : List UInt8) : Nat → S8
  | 0 => S8.begin
  | n + 1 => (S8.blocks bs n).block (bs.drop (64 * n))
theorem S8.blocks_ok (bs : List UInt8) : ∀ n, (S8.blocks bs n).ok
  | 0 => S8.begin_ok
  | _ + 1 => S8.block_ok _ _
def S8.words (s : S8) : List Int := [s.a, s.b, s.c, s.d, s.e, s.f, s.g, s.h]
def S8.out (s : S8) : List UInt8 := s.words.flatMap fun x => numBytes x 4
theorem S8.out_len (s : S8) : s.out.length = 32 := by
  simp [S8.out, S8.words, numBytes_len]
def hashF (bs : List UInt8) : List UInt8 := (S8.blocks (padF bs) ((padF bs).length / 64)).out
theorem hashF_len (bs : List UInt8) : (hashF bs).length = 32 := S8.out_len _
/-- The hash of a kind and of parts with their lengths. -/
def tagF (kind : Int) (parts : List ByteArray) : ByteArray := strOf (hashF (tagPre kind parts))
theorem tagF_size (kind : Int) (parts : List ByteArray) : (tagF kind parts).size = 32 := by
  unfold tagF
  rw [strOf_size, hashF_len]
theorem byteAt_drop (bs : List UInt8) (n j : Nat) : byteAt (bs.drop n) j = byteAt bs (n + j) := by
  unfold byteAt
  rw [List.getD_eq_getElem?_getD, List.getD_eq_getElem?_getD, List.getElem?_drop]
theorem wordsGet (s : S8) (hs : s.ok) (k : Nat) (hk : k < 8) : isW (s.words.getD k 0) := by
  obtain rfl | rfl | rfl | rfl | rfl | rfl | rfl | rfl : k = 0 ∨ k = 1 ∨ k = 2 ∨ k = 3 ∨ k = 4 ∨ k = 5 ∨ k = 6 ∨ k = 7 := by omega
  · exact hs.a
  · exact hs.b
  · exact hs.c
  · exact hs.d
  · exact hs.e
  · exact hs.f
  · exact hs.g
  · exact hs.h
theorem out_step (s : S8) (k : Nat) (hk : k < 8) : (s.words.take (k + 1)).flatMap (fun x => numBytes x 4) = (s.words.take k).flatMap (fun x => numBytes x 4) ++ numBytes (s.words.getD k 0) 4 := by
  have hl : k < s.words.length := hk
  rw [List.take_succ_eq_append_getElem hl, List.flatMap_append, List.getD_eq_getElem?_getD, List.getElem?_eq_getElem hl]
  simp
/-- Strings that lie in a row. -/
def StrsIn (w : World) (A : Option Addr) (l : List ByteArray) : Prop :=
  l.length ≤ 9223372036854775807 ∧ (0 < l.length → ∃ a, A = some a ∧ ∀ (j : Nat) (s : ByteArray), l[j]? = some s → w.cell? (a.add j) = some (.string s))
theorem StrsIn.get {w : World} {A : Option Addr} {l : List ByteArray} (h : StrsIn w A l) (j : Nat) (hj : j < l.length) : ∃ a, A = some a ∧ w.cell? (a.add j) = some (.string l[j]) := by
  obtain ⟨a, ha, hc⟩ := h.2 (by omega)
  exact ⟨a, ha, hc j _ (List.getElem?_eq_getElem hj)⟩
theorem StrsIn.chg {w w1 : World} {A : Option Addr} {l : List ByteArray} (h : StrsIn w A l) (c : Chg (fun _ => False) w w1) : StrsIn w1 A l :=
  ⟨h.1, fun h0 => by obtain ⟨a, ha, hc⟩ := h.2 h0; exact ⟨a, ha, fun j s hj => cellChg (hc j s hj) c (fun h => h)⟩⟩
/-- The bulk of parts. -/
def bulk (l : List ByteArray) : Nat := (l.map fun s => s.size + 4).sum
theorem bulk_take (l : List ByteArray) (k : Nat) (hk : k < l.length) : bulk (l.take k) + (l[k].size + 4) ≤ bulk l := by
  have h : l = l.take k ++ l[k] :: l.drop (k + 1) := by rw [← List.drop_eq_getElem_cons hk, List.take_append_drop]
  conv => rhs; rw [h]
  simp only [bulk, List.map_append, List.map_cons, List.sum_append, List.sum_cons]
  omega
theorem tagPre_len (kind : Int) (l : List ByteArray) : (tagPre kind l).length = 1 + bulk l := by
  unfold tagPre bulk
  rw [List.length_cons, List.length_flatMap]
  have : (l.map fun s => (partB s).length) = l.map fun s => s.size + 4 := by
    apply List.map_congr_left
    intro s _
    unfold partB
    rw [List.length_append, numBytes_len, bsize]
    omega
  rw [this]
  omega
theorem tagPre_step (kind : Int) (l : List ByteArray) (k : Nat) (hk : k < l.length) : tagPre kind (l.take (k + 1)) = tagPre kind (l.take k) ++ numBytes (l[k].size : Int) 4 ++ l[k].data.toList := by
  unfold tagPre
  rw [List.take_succ_eq_append_getElem hk, List.flatMap_append]
  simp [partB]
end Go.Proofs.YtnhdlclicjmmnaaGreat
