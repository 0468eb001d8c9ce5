/- TopRejects: quorum.Check. -/
import Derived.Test.YtmbipabiagdaaaaGreatDoorTjX
import Derived.WalkLawsBesides
namespace Go.Proofs.YtmbipabiagdaaaaGreatDoor
open Go.RowKit Go.Lib Go.Shelf
def leS (a b : ByteArray) : Bool := Op.bytesLess a.toList b.toList || a.toList == b.toList
def badI (l : List ByteArray) : Nat → Bool
  | 0 => !(((l.getD 0 ⟨#[]⟩).size : Int) == 32)
  | i + 1 => !(((l.getD (i + 1) ⟨#[]⟩).size : Int) == 32) || leS (l.getD (i + 1) ⟨#[]⟩) (l.getD i ⟨#[]⟩)
def badQ (l : List ByteArray) (n : Int) : Bool := ((decide ((l.length : Int) < 1) || decide ((16 : Int) < (l.length : Int))) || decide (n < 1)) || decide ((l.length : Int) < n)
def anyI (l : List ByteArray) (k : Nat) : Bool := (List.range k).any (badI l)
theorem anyI_succ (l : List ByteArray) (k : Nat) : anyI l (k + 1) = (anyI l k || badI l k) := by
  rw [anyI, List.range_succ, List.any_append]
  simp [anyI]
theorem anyI_true (l : List ByteArray) (k n : Nat) (h : badI l k = true) (hk : k < n) : anyI l n = true := by
  rw [anyI, List.any_eq_true]
  exact ⟨k, List.mem_range.2 hk, h⟩
def qchk (l : List ByteArray) (n : Int) : Int := if badQ l n = true then 1 else if anyI l l.length = true then 1 else 0
theorem qchk_ok {l : List ByteArray} {n : Int} (h : qchk l n = 0) : 1 ≤ l.length ∧ l.length ≤ 16 ∧ 1 ≤ n ∧ n ≤ 16 ∧ ∀ x ∈ l, x.size = 32 := by
  unfold qchk at h
  split at h
  · exact absurd h (by decide)
  · split at h
    · exact absurd h (by decide)
    · rename_i h1 h2
      simp only [badQ, Bool.or_eq_true, decide_eq_true_eq, not_or] at h1
      refine ⟨by omega, by omega, by omega, by omega, fun x hx => ?_⟩
      obtain ⟨k, hk, rfl⟩ := List.mem_iff_getElem.1 hx
      have h3 : badI l k = false := by
        cases hb : badI l k
        · rfl
        · exact absurd (anyI_true l k _ hb hk) h2
      have hg : l.getD k ⟨#[]⟩ = l[k] := by rw [List.getD_eq_getElem?_getD, List.getElem?_eq_getElem hk]; rfl
      cases k with
      | zero =>
        simp only [badI, hg, Bool.not_eq_false', beq_iff_eq] at h3
        omega
      | succ k =>
        simp only [badI, hg, Bool.or_eq_false_iff, Bool.not_eq_false', beq_iff_eq] at h3
        omega
set_option maxRecDepth 100000 in
set_option maxHeartbeats 2000000 in
theorem qCheck_calls (w : World) (A : Option Addr) (c : Nat) (n : Int) (r : Option Nat) (l : List ByteArray) (h : TRow w (.slice A l.length c) r l) :
    Calls Tryz.prog 119 #[.agg #[.slice A l.length c, .int .i64 n]] w fun e w' => e = .returned (.int .i64 (qchk l n)) ∧ Chg (fun _ => False) w w' := by
  have HR := Lib.hid (SRow.alloc h (.cells #[.slice A l.length c, .int .i64 n] 42))
  clear h
  cases hb : badQ l n
  · have hE : qchk l n = if anyI l l.length = true then 1 else 0 := if_neg (by rw [hb]; exact Bool.false_ne_true)
    simp only [badQ, Bool.or_eq_false_iff] at hb
    obtain ⟨⟨⟨d0, d1⟩, d2⟩, d3⟩ := hb
    have hl16 : l.length ≤ 16 := by have := of_decide_eq_false d1; omega
    obtain ⟨K, hK⟩ : ∃ K, qchk l n = K := ⟨_, rfl⟩
    rw [hK] at hE ⊢
    have HE := Lib.hid hE
    clear hK hE
    go_enter Tryz.func119, Tryz.ntmps119
    go_wp2_with fail
    obtain ⟨b, hb⟩ : ∃ b, w.heap.size = b := ⟨_, rfl⟩
    obtain ⟨W0, hW⟩ : ∃ W0, w.alloc (.cells #[.slice A l.length c, .int .i64 n] 42) = W0 := ⟨_, rfl⟩
    have hob : W0.heap[b]? = some (.cells #[.slice A l.length c, .int .i64 n] 42 (0, 0)) := by rw [← hW, ← hb]; exact blkAlloc w _
    have HCH : Hid (Chg (fun _ => False) w W0) := Lib.hid (by rw [← hW]; exact (Chg.refl _ w).alloc _)
    have c0 : W0.cell? ⟨b, 0, none⟩ = some (.slice A l.length c) := blkCell hob 0
    rw [hW] at HR
    simp only [hW]
    simp only [hb]
    clear hW hb hob
    go_loop [31] (fun v => ∃ k : Nat, k ≤ l.length ∧ v = .int .i64 k ∧ HD (anyI l k = false)) (fun v => l.length - (intOf v).toNat)
    case atStart => exact ⟨0, Nat.zero_le _, rfl, ⟨rfl⟩⟩
    case round =>
      obtain ⟨k, hk, rfl, HA⟩ := hrel
      by_cases hlt : k < l.length
      · obtain ⟨x, hx⟩ : ∃ x, l[k]? = some x := ⟨_, List.getElem?_eq_getElem hlt⟩
        obtain ⟨g, cur, rfl, h9⟩ := HR.out.at_ (by omega)
        have e0 := TRow.cell HR.out k x hx
        have hgx : l.getD k ⟨#[]⟩ = x := by rw [List.getD_eq_getElem?_getD, hx]; rfl
        clear h9
        cases k with
        | zero =>
          have hbI : badI l 0 = !((x.size : Int) == 32) := by rw [badI, hgx]
          have q1 : (0 : Int) < (l.length : Int) := by omega
          by_cases hs : (x.size : Int) = 32
          · have HST : Hid (anyI l (0 + 1) = false) := Lib.hid (by rw [anyI_succ, HA.out, hbI, hs]; rfl)
            clear hx hgx hbI
            go_wp2_with fail
            exact ⟨⟨0 + 1, by omega, by go_num, ⟨HST.out⟩⟩, by simp [intOf]; omega⟩
          · have hs2 : ((x.size : Int) == 32) = false := by simpa using hs
            have HST : Hid (anyI l l.length = true) := Lib.hid (anyI_true l 0 _ (by rw [hbI, hs2]; rfl) hlt)
            clear hx hgx hbI
            go_wp2_with fail
            go_ret
            exact ⟨by rw [HE.out, if_pos HST.out]; rfl, HCH.out⟩
        | succ j =>
          obtain ⟨y, hy⟩ : ∃ y, l[j]? = some y := ⟨_, List.getElem?_eq_getElem (by omega)⟩
          have e1 := TRow.cell HR.out j y hy
          have hgy : l.getD j ⟨#[]⟩ = y := by rw [List.getD_eq_getElem?_getD, hy]; rfl
          have hbI : badI l (j + 1) = (!((x.size : Int) == 32) || leS x y) := by rw [badI, hgx, hgy]
          have q1 : (j : Int) + 1 < (l.length : Int) := by omega
          have q2 : (0 : Int) ≤ (j : Int) + 1 := by omega
          have q3 : (j : Int) < (l.length : Int) := by omega
          have q4 : (0 : Int) ≤ (j : Int) := by omega
          have q5 : (0 : Int) < (j : Int) + 1 := by omega
          have q6 : IntKind.i64.wrap ((j : Int) + 1 - 1) = (j : Int) := by rw [IntKind.wrap_i64]; omega
          have q7 : IntKind.i64.wrap ((j : Int) + 1 + 1) = (j : Int) + 1 + 1 := by rw [IntKind.wrap_i64]; omega
          by_cases hs : (x.size : Int) = 32
          · obtain ⟨q, hq⟩ : ∃ q, leS x y = q := ⟨_, rfl⟩
            have hle : (Op.bytesLess x.toList y.toList || x.toList == y.toList) = q := hq
            rw [hq] at hbI
            cases q
            · have HST : Hid (anyI l (j + 1 + 1) = false) := Lib.hid (by rw [anyI_succ, HA.out, hbI, hs]; rfl)
              clear hx hgx hbI hy hgy hq
              go_wp2_with fail
              exact ⟨⟨j + 1 + 1, by omega, by go_num, ⟨HST.out⟩⟩, by simp [intOf]; omega⟩
            · have HST : Hid (anyI l l.length = true) := Lib.hid (anyI_true l (j + 1) _ (by rw [hbI, Bool.or_true]) hlt)
              clear hx hgx hbI hy hgy hq
              go_wp2_with fail
              go_ret
              exact ⟨by rw [HE.out, if_pos HST.out]; rfl, HCH.out⟩
          · have hs2 : ((x.size : Int) == 32) = false := by simpa using hs
            have HST : Hid (anyI l l.length = true) := Lib.hid (anyI_true l (j + 1) _ (by rw [hbI, hs2]; rfl) hlt)
            clear hx hgx hbI hy hgy
            go_wp2_with fail
            go_ret
            exact ⟨by rw [HE.out, if_pos HST.out]; rfl, HCH.out⟩
      · obtain rfl : k = l.length := by omega
        go_wp2_with fail
        go_ret
        exact ⟨by rw [HE.out, HA.out]; rfl, HCH.out⟩
  · have hE : qchk l n = 1 := if_pos hb
    rw [hE]
    unfold badQ at hb
    cases d0 : decide ((l.length : Int) < 1)
    · cases d1 : decide ((16 : Int) < (l.length : Int))
      · cases d2 : decide (n < 1)
        · have d3 : decide ((l.length : Int) < n) = true := by rw [d0, d1, d2] at hb; simpa using hb
          clear hb hE
          go_enter Tryz.func119, Tryz.ntmps119
          go_wp2_with fail
          go_ret
          exact ⟨rfl, (Chg.refl _ w).alloc _⟩
        · clear hb hE
          go_enter Tryz.func119, Tryz.ntmps119
          go_wp2_with fail
          go_ret
          exact ⟨rfl, (Chg.refl _ w).alloc _⟩
      · clear hb hE
        go_enter Tryz.func119, Tryz.ntmps119
        go_wp2_with fail
        go_ret
        exact ⟨rfl, (Chg.refl _ w).alloc _⟩
    · clear hb hE
      go_enter Tryz.func119, Tryz.ntmps119
      go_wp2_with fail
      go_ret
      exact ⟨rfl, (Chg.refl _ w).alloc _⟩
end Go.Proofs.YtmbipabiagdaaaaGreatDoor
