/- What a block makes of eight words, in plain Lean. -/
import Derived.Test.YtnhdlclicjmmnaaGreatHb
namespace Go.Proofs.YtnhdlclicjmmnaaGreat
open Go.RowKit

/-- Kept from the walk. -/
structure HD (p : Prop) : Prop where mk :: (out : p)

/-- Four bytes as a word. -/
def wordF (a b c d : Int) : Int :=
  bits .or .u32 (bits .or .u32 (bits .or .u32 (a * 16777216) (b * 65536)) (c * 256)) d
def sg0 (x : Int) : Int := bits .xor .u32 (bits .xor .u32 (rot x 7) (rot x 18)) (x / 8)
def sg1 (x : Int) : Int := bits .xor .u32 (bits .xor .u32 (rot x 17) (rot x 19)) (x / 1024)
def nxtF (w16 w15 w7 w2 : Int) : Int := (w16 + sg0 w15 + w7 + sg1 w2) % 4294967296
def bg1 (e : Int) : Int := bits .xor .u32 (bits .xor .u32 (rot e 6) (rot e 11)) (rot e 25)
def bg0 (a : Int) : Int := bits .xor .u32 (bits .xor .u32 (rot a 2) (rot a 13)) (rot a 22)
def chF (e f g : Int) : Int := bits .xor .u32 (bits .and .u32 e f) (bits .and .u32 (bits .xor .u32 IntKind.u32.max e) g)
def mjF (a b c : Int) : Int := bits .xor .u32 (bits .xor .u32 (bits .and .u32 a b) (bits .and .u32 a c)) (bits .and .u32 b c)
def newA (a b c e f g h k w : Int) : Int := ((h + bg1 e + chF e f g + k + w) % 4294967296 + (bg0 a + mjF a b c) % 4294967296) % 4294967296
def newE (d e f g h k w : Int) : Int := (d + (h + bg1 e + chF e f g + k + w) % 4294967296) % 4294967296

/-- Is it a word? -/
def isW (x : Int) : Prop := 0 ≤ x ∧ x < 4294967296
theorem isW_wrap (x : Int) : isW (IntKind.u32.wrap x) := u32_range x
theorem isW_bits (op : BinOp) (a b : Int) : isW (bits op .u32 a b) := bits_range op a b
theorem isW_mod (x : Int) : isW (x % 4294967296) := ⟨by omega, by omega⟩
theorem isW_word (a b c d : Int) : isW (wordF a b c d) := isW_bits _ _ _
theorem isW_nxt (a b c d : Int) : isW (nxtF a b c d) := isW_mod _

/-- Eight words. -/
structure S8 where
  a : Int
  b : Int
  c : Int
  d : Int
  e : Int
  f : Int
  g : Int
  h : Int
def S8.cells (s : S8) : List Value := [.int .u32 s.a, .int .u32 s.b, .int .u32 s.c, .int .u32 s.d, .int .u32 s.e, .int .u32 s.f, .int .u32 s.g, .int .u32 s.h]
structure S8.ok (s : S8) : Prop where
  a : isW s.a
  b : isW s.b
  c : isW s.c
  d : isW s.d
  e : isW s.e
  f : isW s.f
  g : isW s.g
  h : isW s.h
def S8.rnd (s : S8) (k w : Int) : S8 := ⟨newA s.a s.b s.c s.e s.f s.g s.h k w, s.a, s.b, s.c, newE s.d s.e s.f s.g s.h k w, s.e, s.f, s.g⟩
theorem S8.rnd_ok {s : S8} (h : s.ok) (k w : Int) : (s.rnd k w).ok := ⟨isW_mod _, h.a, h.b, h.c, isW_mod _, h.e, h.f, h.g⟩
def S8.rnds (s : S8) (K W : List Int) : Nat → S8
  | 0 => s
  | t + 1 => (s.rnds K W t).rnd (K.getD t 0) (W.getD t 0)
theorem S8.rnds_ok {s : S8} (h : s.ok) (K W : List Int) : ∀ t, (s.rnds K W t).ok
  | 0 => h
  | t + 1 => S8.rnd_ok (S8.rnds_ok h K W t) _ _
def S8.add (s t : S8) : S8 := ⟨(s.a + t.a) % 4294967296, (s.b + t.b) % 4294967296, (s.c + t.c) % 4294967296, (s.d + t.d) % 4294967296, (s.e + t.e) % 4294967296, (s.f + t.f) % 4294967296, (s.g + t.g) % 4294967296, (s.h + t.h) % 4294967296⟩
theorem S8.add_ok (s t : S8) : (s.add t).ok := ⟨isW_mod _, isW_mod _, isW_mod _, isW_mod _, isW_mod _, isW_mod _, isW_mod _, isW_mod _⟩
/-- The byte at a place. -/
def byteAt (p : List UInt8) (j : Nat) : Int := ((p.getD j 0).toNat : Int)
theorem byteAt_range (p : List UInt8) (j : Nat) : 0 ≤ byteAt p j ∧ byteAt p j < 256 := by
  unfold byteAt
  have := (p.getD j 0).toNat_lt
  omega
/-- The words of a block's schedule, the first t. -/
def sch (p : List UInt8) : Nat → List Int
  | 0 => []
  | t + 1 => sch p t ++ [if t < 16 then wordF (byteAt p (4 * t)) (byteAt p (4 * t + 1)) (byteAt p (4 * t + 2)) (byteAt p (4 * t + 3))
      else nxtF ((sch p t).getD (t - 16) 0) ((sch p t).getD (t - 15) 0) ((sch p t).getD (t - 7) 0) ((sch p t).getD (t - 2) 0)]
theorem sch_len (p : List UInt8) : ∀ t, (sch p t).length = t
  | 0 => rfl
  | t + 1 => by rw [sch, List.length_append, sch_len p t]; rfl
theorem sch_ok (p : List UInt8) : ∀ t, ∀ x ∈ sch p t, isW x
  | 0, x, h => by simp [sch] at h
  | t + 1, x, h => by
    rw [sch, List.mem_append, List.mem_singleton] at h
    rcases h with h | rfl
    · exact sch_ok p t x h
    · split
      · exact isW_word _ _ _ _
      · exact isW_nxt _ _ _ _
theorem isW_zero : isW 0 := ⟨by omega, by omega⟩
theorem sch_get (p : List UInt8) (t j : Nat) : isW ((sch p t).getD j 0) := by
  rw [List.getD_eq_getElem?_getD]
  cases h : (sch p t)[j]? with
  | none => exact isW_zero
  | some x => exact sch_ok p t x (List.mem_of_getElem? h)
theorem sch_low (p : List UInt8) (t : Nat) (h : t < 16) : sch p (t + 1) = sch p t ++ [wordF (byteAt p (4 * t)) (byteAt p (4 * t + 1)) (byteAt p (4 * t + 2)) (byteAt p (4 * t + 3))] := by
  rw [sch, if_pos h]
theorem sch_high (p : List UInt8) (t : Nat) (h : 16 ≤ t) : sch p (t + 1) = sch p t ++ [nxtF ((sch p t).getD (t - 16) 0) ((sch p t).getD (t - 15) 0) ((sch p t).getD (t - 7) 0) ((sch p t).getD (t - 2) 0)] := by
  rw [sch, if_neg (by omega)]
/-- The words as they lie in an array of 64. -/
def wcells (ws : List Int) : Array Value := (ws.map (Value.int .u32) ++ List.replicate (64 - ws.length) (Value.int .u32 0)).toArray
theorem wcells_get (ws : List Int) (j : Nat) (h : j < ws.length) : (wcells ws)[j]? = some (.int .u32 (ws.getD j 0)) := by
  unfold wcells
  rw [List.getElem?_toArray, List.getElem?_append_left (by rw [List.length_map]; exact h), List.getElem?_map, List.getElem?_eq_getElem h, List.getD_eq_getElem?_getD, List.getElem?_eq_getElem h]
  rfl
theorem wcells_zero (ws : List Int) (j : Nat) (h : ws.length ≤ j) (h2 : j < 64) : (wcells ws)[j]? = some (.int .u32 0) := by
  unfold wcells
  rw [List.getElem?_toArray, List.getElem?_append_right (by rw [List.length_map]; exact h), List.length_map, List.getElem?_replicate, if_pos (by omega)]
theorem wcells_set (ws : List Int) (x : Int) (h : ws.length < 64) : (wcells ws).setIfInBounds ws.length (.int .u32 x) = wcells (ws ++ [x]) := by
  unfold wcells
  obtain ⟨m, hm⟩ : ∃ m, 64 - ws.length = m + 1 := ⟨64 - ws.length - 1, by omega⟩
  have hm2 : 64 - (ws ++ [x]).length = m := by rw [List.length_append, List.length_singleton]; omega
  rw [hm, hm2, List.replicate_succ, List.setIfInBounds_toArray]
  congr 1
  rw [List.set_append_right _ _ (by rw [List.length_map]; omega), List.length_map, Nat.sub_self, List.set_cons_zero, List.map_append, List.append_assoc]
  rfl
/-- The constants. -/
def kons : List Int := [
  1116352408, 1899447441, 3049323471, 3921009573, 961987163, 1508970993, 2453635748, 2870763221,
  3624381080, 310598401, 607225278, 1426881987, 1925078388, 2162078206, 2614888103, 3248222580,
  3835390401, 4022224774, 264347078, 604807628, 770255983, 1249150122, 1555081692, 1996064986,
  2554220882, 2821834349, 2952996808, 3210313671, 3336571891, 3584528711, 113926993, 338241895,
  666307205, 773529912, 1294757372, 1396182291, 1695183700, 1986661051, 2177026350, 2456956037,
  2730485921, 2820302411, 3259730800, 3345764771, 3516065817, 3600352804, 4094571909, 275423344,
  430227734, 506948616, 659060556, 883997877, 958139571, 1322822218, 1537002063, 1747873779,
  1955562222, 2024104815, 2227730452, 2361852424, 2428436474, 2756734187, 3204031479, 3329325298]
def kcells : Array Value := (kons.map (Value.int .u32)).toArray
theorem kons_len : kons.length = 64 := rfl
theorem kcells_get (j : Nat) (h : j < 64) : kcells[j]? = some (.int .u32 (kons.getD j 0)) := by
  unfold kcells
  have h2 : j < kons.length := by rw [kons_len]; exact h
  rw [List.getElem?_toArray, List.getElem?_map, List.getElem?_eq_getElem h2, List.getD_eq_getElem?_getD, List.getElem?_eq_getElem h2]
  rfl
/-- What 64 bytes make of eight words. -/
def S8.block (s : S8) (p : List UInt8) : S8 := s.add (s.rnds kons (sch p 64) 64)
theorem S8.block_ok (s : S8) (p : List UInt8) : (s.block p).ok := S8.add_ok _ _
/-- The words while they are added. -/
def S8.mid (s t : S8) (k : Nat) : Array Value := ((s.add t).cells.take k ++ s.cells.drop k).toArray
theorem S8.mid0 (s t : S8) : S8.mid s t 0 = s.cells.toArray := rfl
theorem S8.mid8 (s t : S8) : S8.mid s t 8 = (s.add t).cells.toArray := rfl
theorem S8.mid_get (s t : S8) (k : Nat) (hk : k < 8) : (S8.mid s t k)[k]? = s.cells[k]? := by
  have hl : ((s.add t).cells.take k).length = k := by rw [List.length_take]; show min k 8 = k; omega
  unfold S8.mid
  rw [List.getElem?_toArray, List.getElem?_append_right (by omega), hl, Nat.sub_self, List.getElem?_drop, Nat.add_zero]
theorem S8.mid_step (s t : S8) (k : Nat) (u : Value) (h : (s.add t).cells[k]? = some u) : (S8.mid s t k).setIfInBounds k u = S8.mid s t (k + 1) := by
  have hk : k < 8 := (List.getElem?_eq_some_iff.1 h).1
  have hu : (s.add t).cells[k]'hk = u := (List.getElem?_eq_some_iff.1 h).2
  have hl : ((s.add t).cells.take k).length = k := by rw [List.length_take]; show min k 8 = k; omega
  have hd : s.cells.drop k = s.cells[k]'hk :: s.cells.drop (k + 1) := List.drop_eq_getElem_cons hk
  unfold S8.mid
  rw [List.setIfInBounds_toArray]
  congr 1
  rw [hd, List.set_append_right _ _ (by omega), hl, Nat.sub_self, List.set_cons_zero, List.take_succ_eq_append_getElem hk, hu, List.append_assoc]
  rfl
theorem cellChg {S : Nat → Prop} {w w1 : World} {a : Addr} {v : Value} (h : w.cell? a = some v) (c : Chg S w w1) (hn : ¬ S a.block) : w1.cell? a = some v := by
  rw [World.cell?_of_block (c.block a.block (World.block_lt_of_cell? w a h) hn)]
  exact h
end Go.Proofs.YtnhdlclicjmmnaaGreat
