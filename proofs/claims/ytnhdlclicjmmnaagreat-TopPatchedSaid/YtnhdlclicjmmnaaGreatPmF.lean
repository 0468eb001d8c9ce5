/- TopPatched: bytes set in a conversion's block; a download's chunk laid. -/
import Derived.Test.YtnhdlclicjmmnaaGreatPmE
import Derived.Lib.LazyBuf
namespace Go.Proofs.YtnhdlclicjmmnaaGreat
open Go.RowKit Go.Lib Go.Shelf Go.Maps
theorem FB.free {w : World} {v : Value} {g : Nat} {bs : List UInt8} (h : FB w v g bs) {j : Nat} (hj : j < bs.length) : w.frozen? ⟨g, j, none⟩ = false := by
  obtain ⟨_, cur, _, hh, hc⟩ := h
  have := (Array.getElem?_eq_some_iff.1 (hc j bs[j] (List.getElem?_eq_getElem hj))).1
  simp only [World.frozen?, hh]
  simp
  omega
theorem FB.set {w : World} {v : Value} {g : Nat} {bs : List UInt8} (h : FB w v g bs) (j : Nat) (b : UInt8) (hj : j < bs.length) : FB (w.setCell ⟨g, j, none⟩ (.int .u8 b.toNat)) v g (bs.set j b) := by
  obtain ⟨c, cur, e, hh, hc⟩ := h
  refine ⟨c, cur.setIfInBounds j (.int .u8 b.toNat), by rw [e, List.length_set], by simp [World.setCell, Array.getElem?_modify, hh], fun k x hx => ?_⟩
  by_cases hk : k = j
  · subst hk
    have hlt := (Array.getElem?_eq_some_iff.1 (hc k bs[k] (List.getElem?_eq_getElem hj))).1
    rw [List.getElem?_set_self hj] at hx
    injection hx with hx
    subst hx
    simp [hlt]
  · rw [List.getElem?_set_ne (fun h => hk h.symm)] at hx
    rw [Array.getElem?_setIfInBounds_ne (fun h => hk h.symm)]
    exact hc k x hx
/-- The bytes xs laid over bs from off on. -/
def layB : List UInt8 → Nat → List UInt8 → List UInt8
  | bs, _, [] => bs
  | bs, off, x :: r => layB (bs.set off x) (off + 1) r
theorem layB_len : ∀ (xs : List UInt8) (off : Nat) (bs : List UInt8), (layB bs off xs).length = bs.length
  | [], _, _ => rfl
  | x :: r, off, bs => by rw [layB, layB_len r, List.length_set]
theorem layB_out : ∀ (xs : List UInt8) (off : Nat) (bs : List UInt8) (j : Nat), (j < off ∨ off + xs.length ≤ j) → (layB bs off xs)[j]? = bs[j]?
  | [], _, _, _, _ => rfl
  | x :: r, off, bs, j, h => by
    simp only [List.length_cons] at h
    rw [layB, layB_out r (off + 1) (bs.set off x) j (by omega), List.getElem?_set_ne (by omega)]
theorem layB_in : ∀ (xs : List UInt8) (off : Nat) (bs : List UInt8) (j : Nat), off ≤ j → j < off + xs.length → off + xs.length ≤ bs.length → (layB bs off xs)[j]? = xs[j - off]?
  | [], _, _, j, h1, h2, _ => by simp at h2; omega
  | x :: r, off, bs, j, h1, h2, h3 => by
    simp only [List.length_cons] at h2 h3
    rw [layB]
    by_cases e : j = off
    · subst e
      rw [layB_out r (j + 1) (bs.set j x) j (.inl (by omega)), List.getElem?_set_self (by omega), Nat.sub_self]
      rfl
    · rw [layB_in r (off + 1) (bs.set off x) j (by omega) (by omega) (by rw [List.length_set]; omega), show j - off = (j - (off + 1)) + 1 by omega, List.getElem?_cons_succ]
theorem FB.lay {v : Value} {g : Nat} : ∀ (xs : List UInt8) (off : Nat) (bs : List UInt8) (w : World), FB w v g bs → off + xs.length ≤ bs.length → FB (w.setCells g off (xs.map fun x => Value.int .u8 (x.toNat : Int))) v g (layB bs off xs) ∧ Chg (fun k => k = g) w (w.setCells g off (xs.map fun x => Value.int .u8 (x.toNat : Int)))
  | [], _, _, _, h, _ => ⟨h, Chg.refl _ _⟩
  | x :: r, off, bs, w, h, hl => by
    simp only [List.length_cons] at hl
    obtain ⟨h1, h2⟩ := FB.lay r (off + 1) (bs.set off x) _ (h.set off x (by omega)) (by rw [List.length_set]; omega)
    exact ⟨h1, ((Chg.refl (fun k => k = g) w).cellOf off _).trans h2 (fun _ e => .inl e)⟩
theorem FS.chg {w0 w w1 : World} {f c d : Nat} {v z cc : Int} {h t : ByteArray} {l : List ByteArray} {hv dv : List UInt8} {num last : Nat} {sec : List (List UInt8)} (q : FS w0 w f c d v z cc h t l hv dv num last sec) (g : Chg (fun _ => False) w w1) : FS w0 w1 f c d v z cc h t l hv dv num last sec := by
  obtain ⟨h0, ⟨A, cap, r, gh, ch, gd, cd, s1, s2, s3, s4, s5, s6, s7, s8, s9⟩, hc, hd, hr⟩ := q
  have kf : KeptT (fun _ => False) w w1 := KeptT.of_chg g
  have c2 : Chg (fun _ => False) w0 w1 := hd.chg0.trans g (fun _ h => h.elim)
  exact ⟨h0, ⟨A, cap, r, gh, ch, gd, cd, g.obj s1 (fun h => h), SRow.chg s2 g (fun _ _ h => h), s3, s4.chg g (fun h => h), s5.chg g (fun h => h), s6, s7, s8, s9⟩, hc.kept kf (fun h => h) c2, Dv.kept hd kf (fun _ _ h => h) c2, hr⟩
theorem FB.noted {w : World} {v : Value} {g : Nat} {bs : List UInt8} (h : FB w v g bs) : ∃ cs fr, w.heap[g]? = some (.cells cs 5 fr) := by
  obtain ⟨_, cur, _, hh, _⟩ := h
  exact ⟨_, _, hh⟩
/-- Bytes are turned: cell, device, all else stay. -/
theorem kept_b {w w1 : World} {g g2 : Nat} {v v2 : Value} {b b2 : List UInt8} (h1 : FB w v g b) (h2 : FB w v2 g2 b2) (c : Chg (fun k => k = g ∨ k = g2) w w1) : KeptT (fun T => T = 5) w w1 := by
  obtain ⟨cs, fr, q⟩ := h1.noted
  obtain ⟨cs2, fr2, q2⟩ := h2.noted
  refine KeptT.of c (fun k e => .inr ?_)
  rcases e with rfl | rfl
  · exact ⟨cs, _, fr, q, rfl⟩
  · exact ⟨cs2, _, fr2, q2, rfl⟩
theorem cutHi_le (z cc i : Int) : cutHi z cc i ≤ z := by
  unfold cutHi
  split <;> omega
theorem cut_lt {z cc i : Int} (h1 : 1 ≤ cc) (hi : i < cntF z cc) : i * cc < z := by
  unfold cntF at hi
  have h : i + 1 ≤ (z + cc - 1) / cc := by omega
  have := Int.mul_le_of_le_ediv (by omega) h
  rw [Int.add_mul, Int.one_mul] at this
  omega
theorem bad_bit {b : UInt8} (h : badH b = false) : b = 0 ∨ b = 1 := by
  simp only [badH, decide_eq_false_iff_not] at h
  have h2 : b.toNat = 0 ∨ b.toNat = 1 := by omega
  rcases h2 with h2 | h2
  · exact .inl (UInt8.toNat_inj.1 h2)
  · exact .inr (UInt8.toNat_inj.1 h2)
theorem any_set {hv : List UInt8} (i : Nat) (h : hv.any badH = false) : (hv.set i 1).any badH = false := by
  rw [List.any_eq_false] at h ⊢
  intro x hx
  rcases List.mem_or_eq_of_mem_set hx with h1 | h1
  · exact h x h1
  · subst h1
    decide
theorem Fit.take {z : Int} {l : List ByteArray} {hv dv : List UInt8} (q : Fit z l hv dv) (i off : Nat) (xs : List UInt8) : Fit z l (hv.set i 1) (layB dv off xs) :=
  ⟨by rw [List.length_set]; exact q.hl, by rw [layB_len]; exact q.dl, any_set i q.ok, by rw [layB_len]; exact q.sm⟩
end Go.Proofs.YtnhdlclicjmmnaaGreat
