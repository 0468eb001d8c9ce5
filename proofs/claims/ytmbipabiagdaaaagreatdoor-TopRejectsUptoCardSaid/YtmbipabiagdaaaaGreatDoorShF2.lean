/- Bytes of numbers, the filling up, the blocks, the bytes of eight words: in plain Lean. -/
import Derived.Test.YtmbipabiagdaaaaGreatDoorShF
import Derived.Test.YtmbipabiagdaaaaGreatDoorRow2
namespace Go.Proofs.YtmbipabiagdaaaaGreatDoor
open Go.RowKit

/-- The lowest k bytes of a number, the greatest first. -/
def numBytes (x : Int) : Nat → List UInt8
  | 0 => []
  | k + 1 => UInt8.ofNat ((x / 2 ^ (8 * k)) % 256).toNat :: numBytes x k
theorem numBytes_len (x : Int) (n : Nat) : (numBytes x n).length = n := by
  induction n with
  | zero => rfl
  | succ n ih => simp [numBytes, ih]
theorem byteCell (x : Int) : Value.int .u8 ((UInt8.ofNat (x % 256).toNat).toNat : Int) = .int .u8 (x % 256) := by
  have : ((UInt8.ofNat (x % 256).toNat).toNat : Int) = x % 256 := by
    rw [UInt8.toNat_ofNat']
    omega
  rw [this]
theorem cells4 (x : Int) : bcells (numBytes x 4) = [.int .u8 (x / 16777216 % 256), .int .u8 (x / 65536 % 256), .int .u8 (x / 256 % 256), .int .u8 (x % 256)] := by
  simp only [numBytes, bcells, List.map_cons, List.map_nil, byteCell, Nat.reduceMul, Int.reducePow, Int.ediv_one, Int.pow_zero, Nat.mul_zero]
theorem cells8 (x : Int) : bcells (numBytes x 8) = [.int .u8 (x / 72057594037927936 % 256), .int .u8 (x / 281474976710656 % 256), .int .u8 (x / 1099511627776 % 256), .int .u8 (x / 4294967296 % 256), .int .u8 (x / 16777216 % 256), .int .u8 (x / 65536 % 256), .int .u8 (x / 256 % 256), .int .u8 (x % 256)] := by
  simp only [numBytes, bcells, List.map_cons, List.map_nil, byteCell, Nat.reduceMul, Int.reducePow, Int.ediv_one, Int.pow_zero, Nat.mul_zero]
/-- What a hash is taken of: a kind and parts with their lengths. -/
def partB (s : ByteArray) : List UInt8 := numBytes (s.size : Int) 4 ++ s.data.toList
def tagPre (kind : Int) (parts : List ByteArray) : List UInt8 := UInt8.ofNat kind.toNat :: parts.flatMap partB
/-- How many zeros fill up n bytes. -/
def zeroN (n : Nat) : Nat := (119 - n % 64) % 64
def padF (bs : List UInt8) : List UInt8 := bs ++ [128] ++ List.replicate (zeroN bs.length) 0 ++ numBytes ((bs.length : Int) * 8) 8
theorem padF_len (bs : List UInt8) : (padF bs).length % 64 = 0 ∧ bs.length < (padF bs).length ∧ (padF bs).length ≤ bs.length + 72 := by
  unfold padF zeroN
  simp only [List.length_append, List.length_singleton, List.length_replicate, numBytes_len]
  omega
def S8.begin : S8 := ⟨1779033703, 3144134277, 1013904242, 2773480762, 1359893119, 2600822924, 528734635, 1541459225⟩
theorem S8.begin_ok : S8.begin.ok := by
  constructor <;> exact ⟨by decide, by decide⟩
/-- The words behind n blocks. -/
def S8.blocks (bs : List UInt8) : Nat → S8
  | 0 => S8.begin
  | n + 1 => (S8.blocks bs n).block (bs.drop (64 * n))
theorem S8.blocks_ok (bs : List UInt8) : ∀ n, (S8.blocks bs n).ok
  | 0 => S8.begin_ok
  | _ + 1 => S8.block_ok _ _
def S8.words (s : S8) : List Int := [s.a, s.b, s.c, s.d, s.e, s.f, s.g, s.h]
def S8.out (s : S8) : List UInt8 := s.words.flatMap fun x => numBytes x 4
theorem S8.out_len (s : S8) : s.out.length = 32 := by
  simp [S8.out, S8.words, numBytes_len]
def hashF (bs : List UInt8) : List UInt8 := (S8.blocks (padF bs) ((padF bs).length / 64)).out
theorem hashF_len (bs : List UInt8) : (hashF bs).length = 32 := S8.out_len _
/-- The hash of a kind and of parts with their lengths. -/
def tagF (kind : Int) (parts : List ByteArray) : ByteArray := strOf (hashF (tagPre kind parts))
theorem tagF_size (kind : Int) (parts : List ByteArray) : (tagF kind parts).size = 32 := by
  unfold tagF
  rw [strOf_size, hashF_len]
theorem byteAt_drop (bs : List UInt8) (n j : Nat) : byteAt (bs.drop n) j = byteAt bs (n + j) := by
  unfold byteAt
  rw [List.getD_eq_getElem?_getD, List.getD_eq_getElem?_getD, List.getElem?_drop]
theorem wordsGet (s : S8) (hs : s.ok) (k : Nat) (hk : k < 8) : isW (s.words.getD k 0) := by
  obtain rfl | rfl | rfl | rfl | rfl | rfl | rfl | rfl : k = 0 ∨ k = 1 ∨ k = 2 ∨ k = 3 ∨ k = 4 ∨ k = 5 ∨ k = 6 ∨ k = 7 := by omega
  · exact hs.a
  · exact hs.b
  · exact hs.c
  · exact hs.d
  · exact hs.e
  · exact hs.f
  · exact hs.g
  · exact hs.h
theorem out_step (s : S8) (k : Nat) (hk : k < 8) : (s.words.take (k + 1)).flatMap (fun x => numBytes x 4) = (s.words.take k).flatMap (fun x => numBytes x 4) ++ numBytes (s.words.getD k 0) 4 := by
  have hl : k < s.words.length := hk
  rw [List.take_succ_eq_append_getElem hl, List.flatMap_append, List.getD_eq_getElem?_getD, List.getElem?_eq_getElem hl]
  simp
/-- Strings that lie in a row. -/
def StrsIn (w : World) (A : Option Addr) (l : List ByteArray) : Prop :=
  l.length ≤ 9223372036854775807 ∧ (0 < l.length → ∃ a, A = some a ∧ ∀ (j : Nat) (s : ByteArray), l[j]? = some s → w.cell? (a.add j) = some (.string s))
theorem StrsIn.get {w : World} {A : Option Addr} {l : List ByteArray} (h : StrsIn w A l) (j : Nat) (hj : j < l.length) : ∃ a, A = some a ∧ w.cell? (a.add j) = some (.string l[j]) := by
  obtain ⟨a, ha, hc⟩ := h.2 (by omega)
  exact ⟨a, ha, hc j _ (List.getElem?_eq_getElem hj)⟩
theorem StrsIn.chg {w w1 : World} {A : Option Addr} {l : List ByteArray} (h : StrsIn w A l) (c : Chg (fun _ => False) w w1) : StrsIn w1 A l :=
  ⟨h.1, fun h0 => by obtain ⟨a, ha, hc⟩ := h.2 h0; exact ⟨a, ha, fun j s hj => cellChg (hc j s hj) c (fun h => h)⟩⟩
/-- The bulk of parts. -/
def bulk (l : List ByteArray) : Nat := (l.map fun s => s.size + 4).sum
theorem bulk_take (l : List ByteArray) (k : Nat) (hk : k < l.length) : bulk (l.take k) + (l[k].size + 4) ≤ bulk l := by
  have h : l = l.take k ++ l[k] :: l.drop (k + 1) := by rw [← List.drop_eq_getElem_cons hk, List.take_append_drop]
  conv => rhs; rw [h]
  simp only [bulk, List.map_append, List.map_cons, List.sum_append, List.sum_cons]
  omega
theorem tagPre_len (kind : Int) (l : List ByteArray) : (tagPre kind l).length = 1 + bulk l := by
  unfold tagPre bulk
  rw [List.length_cons, List.length_flatMap]
  have : (l.map fun s => (partB s).length) = l.map fun s => s.size + 4 := by
    apply List.map_congr_left
    intro s _
    unfold partB
    rw [List.length_append, numBytes_len, bsize]
    omega
  rw [this]
  omega
theorem tagPre_step (kind : Int) (l : List ByteArray) (k : Nat) (hk : k < l.length) : tagPre kind (l.take (k + 1)) = tagPre kind (l.take k) ++ numBytes (l[k].size : Int) 4 ++ l[k].data.toList := by
  unfold tagPre
  rw [List.take_succ_eq_append_getElem hk, List.flatMap_append]
  simp [partB]
end Go.Proofs.YtmbipabiagdaaaaGreatDoor
