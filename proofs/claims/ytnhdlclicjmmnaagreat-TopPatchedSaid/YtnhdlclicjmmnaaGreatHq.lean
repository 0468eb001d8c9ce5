/- TopPatched: the cell: Get, Put, Names, first, room, Undo. -/
import Derived.Test.YtnhdlclicjmmnaaGreatQt
import Derived.Test.YtnhdlclicjmmnaaGreatTjR
import Derived.Test.YtnhdlclicjmmnaaGreatPdD
import Derived.Test.YtnhdlclicjmmnaaGreatHb
namespace Go.Proofs.YtnhdlclicjmmnaaGreat
open Go.RowKit Go.Lib Go.Shelf Go.Maps
theorem Get_calls (w : World) (c m : Nat) (M : Cont) (k : ByteArray) (h3 : w.cell? ⟨c, 3, none⟩ = some (.map (some m))) (hm : MapAt w m M) (hk : k.size ≤ 1000) :
    Calls Tryz.prog 66 #[.pointer (some ⟨c, 0, none⟩), .string k] w fun e w' => e = .returned (.tuple #[.string ((getM M k).getD ⟨#[]⟩), .bool (getM M k).isSome]) ∧ Chg (fun _ => False) w w' := by
  have hl := hm.look k (by omega)
  obtain ⟨x, hx⟩ : ∃ x, (getM M k).getD ⟨#[]⟩ = x := ⟨_, rfl⟩
  obtain ⟨y, hy⟩ : ∃ y, (getM M k).isSome = y := ⟨_, rfl⟩
  rw [hx, hy] at hl ⊢
  clear hx hy hm
  go_enter Tryz.func66, Tryz.ntmps66
  go_wp2
  go_ret2
  exact ⟨rfl, (Chg.refl (fun _ => False) w).alloc _⟩
theorem Put_calls (w : World) (c m : Nat) (M M' : Cont) (k t : ByteArray) (h3 : w.cell? ⟨c, 3, none⟩ = some (.map (some m))) (hm : MapAt w m M) (hk : k.size ≤ 32) (hk0 : 0 < k.size) (ht : t.size ≤ 65535) (hl : M.length < 60)
    (hM : (contD M).put (.string k.data.toList) (.lit (.string t.data.toList)) = contD M') :
    Calls Tryz.prog 40 #[.pointer (some ⟨c, 0, none⟩), .string k, .string t] w fun e w' => e = .returned (.int .i64 0) ∧ MapAt w' m M' ∧ Chg (fun j => j = m) w w' := by
  have C := Lib.hid (Get_calls w c m M k h3 hm (by omega))
  have H3 := Lib.hid h3
  have HM := Lib.hid hm
  obtain ⟨y, hy⟩ : ∃ y, (getM M k).isSome = y := ⟨_, rfl⟩
  rw [hy] at C
  have e1 : (k.toList == ([] : List UInt8)) = false := by
    rw [ByteArray.toList_eq, beq_eq_false_iff_ne]
    intro e
    have := congrArg List.length e
    rw [Array.length_toList] at this
    have hz : k.data.size = k.size := rfl
    simp only [List.length_nil] at this
    omega
  have e2 : decide ((32 : Int) < (k.size : Int)) = false := decide_eq_false (by omega)
  have e3 : decide ((65535 : Int) < (t.size : Int)) = false := decide_eq_false (by omega)
  have e4 : decide ((64 : Int) ≤ (M.length : Int)) = false := decide_eq_false (by omega)
  clear h3 hm hy
  cases y
  all_goals
    go_enter Tryz.func40, Tryz.ntmps40
    go_wp2_with (go_at_call 66; refine C.out.mono ?_; rintro e w1 ⟨rfl, hc⟩; have HC := Lib.hid hc; have d3 : w1.cell? ⟨c, 3, none⟩ = some (.map (some m)) := cellChg H3.out hc (fun h => h); have hm1 := MapAt.chg HM.out hc (fun h => h); have hln := hm1.len 3; obtain ⟨w2, hp, hm2, hc2⟩ := hm1.put k t (by omega) hM (by omega); have HM2 := Lib.hid hm2; have HC2 := Lib.hid hc2; clear hm1 hm2 hc2 hc)
    go_ret
    exact ⟨rfl, HM2.out, (HC.out.mono (fun _ h => h.elim)).trans HC2.out (fun k e => .inl e)⟩
theorem Names_calls (w : World) (c m : Nat) (M : Cont) (h3 : w.cell? ⟨c, 3, none⟩ = some (.map (some m))) (hm : MapAt w m M) (hr : Rising M) (hl : M.length ≤ 1000) :
    Calls Tryz.prog 65 #[.pointer (some ⟨c, 0, none⟩)] w fun e w' => ∃ A c r, e = .returned (.slice A M.length c) ∧ TRow w' (.slice A M.length c) r (keysM M) ∧ (∀ k, r = some k → w.heap.size ≤ k) ∧ Chg (fun _ => False) w w' := by
  have C := Lib.hid (Names0_calls w m M hm hr hl)
  clear hm
  go_enter Tryz.func65, Tryz.ntmps65
  go_wp2_with (go_at_call 91; refine C.out.mono ?_; rintro e w1 ⟨A, cp, r, rfl, hrow, hk, hc⟩)
  go_ret
  exact ⟨_, _, _, rfl, hrow, hk, hc⟩
theorem room_calls (w : World) (c : Nat) (half : Nat) (h2 : w.cell? ⟨c, 2, none⟩ = some (.int .i64 half)) (hh : 1 ≤ half) (hb : half ≤ 100000) :
    Calls Tryz.prog 88 #[.pointer (some ⟨c, 0, none⟩)] w fun e w' => e = .returned (.int .i64 ((64 * (half - 1) : Nat) : Int)) ∧ w' = w := by
  have w1 : IntKind.i64.wrap ((half : Int) - 1) = (half : Int) - 1 := by rw [IntKind.wrap_i64]; omega
  have w2 : IntKind.i64.wrap (64 * ((half : Int) - 1)) = 64 * ((half : Int) - 1) := by rw [IntKind.wrap_i64]; omega
  go_enter Tryz.func88, Tryz.ntmps88
  go_wp2
  go_ret
  have e : (64 : Int) * ((half : Int) - 1) = ((64 * (half - 1) : Nat) : Int) := by omega
  rw [← e]
  exact ⟨rfl, rfl⟩
theorem first_calls (w : World) (c : Nat) (base half k : Nat) (h1 : w.cell? ⟨c, 1, none⟩ = some (.int .i64 base)) (h2 : w.cell? ⟨c, 2, none⟩ = some (.int .i64 half)) (hb : base ≤ 100000) (hh : half ≤ 100000) (hk : k ≤ 1) :
    Calls Tryz.prog 86 #[.pointer (some ⟨c, 0, none⟩), .int .i64 k] w fun e w' => e = .returned (.int .i64 ((base + k * half : Nat) : Int)) ∧ w' = w.drew := by
  have hm : k * half ≤ 100000 := by
    have := Nat.mul_le_mul_right half hk
    omega
  have w1 : IntKind.i64.wrap ((k : Int) * (half : Int)) = ((k * half : Nat) : Int) := by rw [IntKind.wrap_i64, ← Int.natCast_mul]; omega
  have w2 : IntKind.i64.wrap ((base : Int) + ((k * half : Nat) : Int)) = ((base + k * half : Nat) : Int) := by rw [IntKind.wrap_i64]; omega
  go_enter Tryz.func86, Tryz.ntmps86
  go_wp2
  go_region
  all_goals
    go_wp2
    go_ret
    exact ⟨rfl, rfl⟩
theorem clone_calls (w : World) (m : Nat) (M : Cont) (h : MapAt w m M) :
    Calls Tryz.prog 90 #[.map (some m)] w fun e w' => e = .returned (.map (some w.heap.size)) ∧ MapAt w' w.heap.size M ∧ Chg (fun _ => False) w w' :=
  (AnyW.maps_Clone_owns Tryz.clone90 9 textElem m M.length (contD M) w h).mono fun e w' ⟨he, h1, _, h3⟩ => ⟨he, MapAt.of h1, Chg.of_below h3 _⟩
theorem Undo_calls (w : World) (c m : Nat) (M : Cont) (cs : Array Value) (hc : w.heap[c]? = some (.cells cs 115 (0, 0))) (h4 : cs[4]? = some (.map (some m))) (h3 : cs[3]?.isSome = true) (hm : MapAt w m M) :
    Calls Tryz.prog 64 #[.pointer (some ⟨c, 0, none⟩)] w fun e w' => e = .returned (.tuple #[]) ∧ ∃ m', MapAt w' m' M ∧ w.heap.size ≤ m' ∧ w'.heap[c]? = some (.cells (cs.setIfInBounds 3 (.map (some m'))) 115 (0, 0)) ∧ Chg (fun k => k = c) w w' := by
  have C := Lib.hid (clone_calls w m M hm)
  have HC := Lib.hid hc
  have d4 : w.cell? ⟨c, 4, none⟩ = some (.map (some m)) := (blkCell hc 4).trans h4
  obtain ⟨v3, hv3⟩ := Option.isSome_iff_exists.1 h3
  clear hm h4 h3
  have K := Lib.hid (fun (w1 : World) (hg : Chg (fun _ => False) w w1) => (⟨(blkCell (hg.obj hc (fun h => h)) 3).trans hv3, blkFree (hg.obj hc (fun h => h)) 3⟩ : w1.cell? ⟨c, 3, none⟩ = some v3 ∧ w1.frozen? ⟨c, 3, none⟩ = false))
  clear hc hv3
  go_enter Tryz.func64, Tryz.ntmps64
  go_wp2_with (go_at_call 90; refine C.out.mono ?_; rintro e w1 ⟨rfl, hm', hg⟩; obtain ⟨d3, f3⟩ := K.out w1 hg; have HM := Lib.hid hm'; have HG := Lib.hid hg; clear hm' hg)
  go_end0
  have hc1 := HG.out.obj HC.out (fun h => h)
  refine ⟨rfl, w.heap.size, HM.out.chg ((Chg.refl (fun k => k = c) w1).setCell (p := ⟨c, 3, none⟩) (.inl rfl) _) (fun e => by have := blkLt HC.out; omega), Nat.le_refl _, blkSet hc1 3 _, (HG.out.mono (S' := fun k => k = c) (fun _ h => h.elim)).setCell (p := ⟨c, 3, none⟩) (.inl rfl) _⟩
end Go.Proofs.YtnhdlclicjmmnaaGreat
/- TopRejects: bill: part, count, what is asked of the chunks. -/
namespace Go.Proofs.YtnhdlclicjmmnaaGreat
open Go.RowKit Go.Lib Go.Shelf
def partN (n : Int) : Bool := (decide (64 ≤ n) && decide (n ≤ 1024)) && (bits .and .i64 n (n - 1) == 0)
theorem part_calls (w : World) (n : Int) : Calls Tryz.prog 19 #[.int .i64 n] w fun e w' => e = .returned (.bool (partN n)) ∧ w' = w := by
  unfold partN
  by_cases d0 : 64 ≤ n
  · by_cases d1 : n ≤ 1024
    · have hw : IntKind.i64.wrap (n - 1) = n - 1 := by rw [IntKind.wrap_i64]; omega
      have e0 : decide (64 ≤ n) = true := decide_eq_true d0
      have e1 : decide (n ≤ 1024) = true := decide_eq_true d1
      go_enter Tryz.func19, Tryz.ntmps19
      go_wp2
      go_ret
      exact ⟨by simp [d0, d1], rfl⟩
    · have e1 : decide (n ≤ 1024) = false := decide_eq_false d1
      have e0 : decide (64 ≤ n) = true := decide_eq_true d0
      go_enter Tryz.func19, Tryz.ntmps19
      go_wp2
      go_ret
      exact ⟨by simp [d1], rfl⟩
  · have e0 : decide (64 ≤ n) = false := decide_eq_false d0
    go_enter Tryz.func19, Tryz.ntmps19
    go_wp2
    go_ret
    exact ⟨by simp [d0], rfl⟩
theorem partN_range {n : Int} (h : partN n = true) : 64 ≤ n ∧ n ≤ 1024 := by
  simp only [partN, Bool.and_eq_true, decide_eq_true_eq] at h
  exact h.1
def cntF (s c : Int) : Int := (s + c - 1) / c
theorem count_calls (w : World) (s c : Int) (h0 : 0 ≤ s) (h1 : s ≤ 1000000) (h2 : 1 ≤ c) (h3 : c ≤ 1000000) : Calls Tryz.prog 49 #[.int .i64 s, .int .i64 c] w fun e w' => e = .returned (.int .i64 (cntF s c)) ∧ w' = w := by
  unfold cntF
  have w1 : IntKind.i64.wrap (s + c) = s + c := by rw [IntKind.wrap_i64]; omega
  have w2 : IntKind.i64.wrap (s + c - 1) = s + c - 1 := by rw [IntKind.wrap_i64]; omega
  have n0 : ¬ c = 0 := by omega
  have n1 : ¬ c = -1 := by omega
  have ht : (s + c - 1).tdiv c = (s + c - 1) / c := Int.tdiv_eq_ediv_of_nonneg (by omega)
  have hlo : 0 ≤ (s + c - 1) / c := Int.ediv_nonneg (by omega) (by omega)
  have hhi : (s + c - 1) / c ≤ s + c - 1 := Int.ediv_le_self _ (by omega)
  have w3 : IntKind.i64.wrap ((s + c - 1) / c) = (s + c - 1) / c := by rw [IntKind.wrap_i64]; omega
  go_enter Tryz.func49, Tryz.ntmps49
  go_wp2
  go_ret
  exact ⟨rfl, rfl⟩
def badC (s : ByteArray) : Bool := !((s.size : Int) == 32)
theorem badC_calls (w : World) (s : ByteArray) : Calls Tryz.prog 51 #[.string s] w fun e w' => e = .returned (.bool (badC s)) ∧ w' = w := by
  unfold badC
  go_enter Tryz.func51, Tryz.ntmps51
  go_wp2
  go_ret
  exact ⟨rfl, rfl⟩
set_option maxHeartbeats 1000000 in
theorem idxC_calls (w : World) (A : Option Addr) (c : Nat) (r : Option Nat) (l : List ByteArray) (h : TRow w (.slice A l.length c) r l) (hl : l.length ≤ 1048576) :
    Calls Tryz.prog 80 #[.slice A l.length c, .func (.func 51) #[] #[]] w fun e w' => ∃ i : Int, e = .returned (.int .i64 i) ∧ decide (0 ≤ i) = l.any badC ∧ Chg (fun _ => False) w w' := by
  have HR := Lib.hid h
  clear h
  go_enter Tryz.func80, Tryz.ntmps80
  go_wp2_with fail
  go_loopw [8] (fun v wx => ∃ k : Nat, k ≤ l.length ∧ v = .int .i64 k ∧ HD ((l.take k).any badC = false) ∧ HD (Chg (fun _ => False) w wx)) (fun v _ => l.length - (intOf v).toNat)
  case atStart => exact ⟨0, Nat.zero_le _, rfl, ⟨rfl⟩, ⟨Chg.refl _ _⟩⟩
  case round =>
    obtain ⟨k, hk, rfl, HA, HG⟩ := hrel
    obtain ⟨w2, rfl⟩ : ∃ w2, w2 = wr := ⟨_, rfl⟩
    by_cases hlt : k < l.length
    · obtain ⟨x, hx⟩ : ∃ x, l[k]? = some x := ⟨_, List.getElem?_eq_getElem hlt⟩
      have hr2 : TRow w2 (.slice A l.length c) r l := SRow.chg HR.out HG.out (fun _ _ h => h)
      obtain ⟨g, cur, rfl, h9⟩ := hr2.at_ (by omega)
      have e0 := hr2.cell k x hx
      have HST := Lib.hid (any_take badC l k _ hx)
      have HPP := Lib.hid (any_part badC l k _ hx)
      have C := Lib.hid (fun w => badC_calls w x)
      obtain ⟨q, hq⟩ : ∃ q, badC x = q := ⟨_, rfl⟩
      rw [hq] at C HST HPP
      have q0 : (0 : Int) ≤ (k : Int) := by omega
      have q1 : (k : Int) < (l.length : Int) := by omega
      clear hq hx hr2 h9
      cases q
      · go_wp2_with (go_at_call 51; refine (C.out _).mono ?_; rintro e w3 ⟨rfl, he⟩; obtain rfl := he)
        exact ⟨⟨k + 1, by omega, by go_num, ⟨by rw [HST.out, HA.out]; rfl⟩, ⟨HG.out⟩⟩, by simp [intOf]; omega⟩
      · go_wp2_with (go_at_call 51; refine (C.out _).mono ?_; rintro e w3 ⟨rfl, he⟩; obtain rfl := he)
        go_ret
        have hp := HPP.out (by trivial)
        exact ⟨_, rfl, by rw [hp]; simp, HG.out⟩
    · obtain rfl : k = l.length := by omega
      go_wp2_with fail
      go_ret
      have ha := HA.out
      rw [List.take_length] at ha
      exact ⟨_, rfl, by rw [ha]; rfl, HG.out⟩
theorem conC_calls (w : World) (A : Option Addr) (c : Nat) (r : Option Nat) (l : List ByteArray) (h : TRow w (.slice A l.length c) r l) (hl : l.length ≤ 1048576) :
    Calls Tryz.prog 50 #[.slice A l.length c, .func (.func 51) #[] #[]] w fun e w' => e = .returned (.bool (l.any badC)) ∧ Chg (fun _ => False) w w' := by
  have C := Lib.hid (idxC_calls w A c r l h hl)
  clear h
  go_enter Tryz.func50, Tryz.ntmps50
  go_wp2_with (go_at_call 80; refine (C.out).mono ?_; rintro e w1 ⟨i, rfl, hi, hc⟩; have HI := Lib.hid hi; have G := Lib.hid hc; clear hi hc)
  go_ret
  exact ⟨by rw [← HI.out]; rfl, G.out⟩
end Go.Proofs.YtnhdlclicjmmnaaGreat
/- A region that draws its order, by hand: one operation taken first, one passed over. -/
namespace Go.Proofs.YtnhdlclicjmmnaaGreat
section
variable {P : Program} {ops : Array Oper} {Q : Exit → Act → World → Prop} {md : Region.Mode} {S : World → Prop} {oi : Oper} {fuel : Nat} {listed : Array Bool} {a : Act} {w : World}
/-- Number i is taken first: it leaves v in slot d. -/
theorem held_take (i : Nat) (d : Option Tmp) (v : Value) (hi : ops[i]? = some oi) (hd : oi.dst = d) (hs : Region.noSelect ops = true) (hf : Region.free md ops listed i = true) (hr : (Region.ready md ops listed).contains i = true)
    (hQ : ∀ c a w, Q (.panic c) (a.put d v) w → Q (.panic c) a w) (hw : Region.wanted oi (yielded ops a.tmps) = true) (hS : S w) (hy : ∀ w, S w → (execOp a.eval oi).run P w = .ok (.value v) w)
    (h : wpAnyH P md ops Q S fuel (listed.setIfInBounds i true) (a.put d v) w) : wpAnyH P md ops Q S (fuel + 1) listed a w := by
  subst hd
  exact wpAnyH_take hi hs hf hr hQ (Or.inl ⟨hw, hy⟩) hS h
/-- Number i is passed over: its guard says no. -/
theorem held_skip (i : Nat) (d : Option Tmp) (hi : ops[i]? = some oi) (hd : oi.dst = d) (hs : Region.noSelect ops = true) (hf : Region.free md ops listed i = true) (hr : (Region.ready md ops listed).contains i = true)
    (hQ : ∀ c a w, Q (.panic c) (a.put d undef) w → Q (.panic c) a w) (hw : Region.wanted oi (yielded ops a.tmps) = false) (hS : S w)
    (h : wpAnyH P md ops Q S fuel (listed.setIfInBounds i true) (a.put d undef) w) : wpAnyH P md ops Q S (fuel + 1) listed a w := by
  subst hd
  exact wpAnyH_take hi hs hf hr hQ (Or.inr ⟨hw, rfl⟩) hS h
end
end Go.Proofs.YtnhdlclicjmmnaaGreat
