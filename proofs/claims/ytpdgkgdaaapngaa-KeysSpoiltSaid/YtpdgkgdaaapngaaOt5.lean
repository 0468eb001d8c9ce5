/- strings.Builder's String by the shelf's contract (laid by the kit's own program), and ots.all. -/
import Derived.Test.YtpdgkgdaaapngaaOt4
namespace Go.Proofs.Ytpdgkgdaaapngaa
open Go.RowKit Go.Shelf
def lay169_ren : Go.Shelf.Ren := ⟨fun | 169 => 61 | n => n, fun | 70 => 102 | 9 => 9 | 0 => 0 | 72 => 104 | 37 => 34 | 127 => 140 | 3 => 3 | 5 => 5 | n => n, fun | n => n⟩
theorem lay169 : Go.Proofs.Lays.n169 Try.prog lay169_ren := {
  mixed := by kernel_rfl
  f169 := Try.func61.trans (congrArg some (by kernel_rfl))
  t0 := Try.underlying0
  a0 := Try.isAgg0
  z0 := Try.sizeOf0
  v0 := Try.zeroValue0
  t3 := Try.underlying3
  a3 := Try.isAgg3
  z3 := Try.sizeOf3
  v3 := Try.zeroValue3
  t9 := Try.underlying9
  a9 := Try.isAgg9
  z9 := Try.sizeOf9
  v9 := Try.zeroValue9
  t37 := Try.underlying34
  a37 := Try.isAgg34
  z37 := Try.sizeOf34
  v37 := Try.zeroValue34
  t70 := Try.underlying102
  a70 := Try.isAgg102
  z70 := Try.sizeOf102
  v70 := Try.zeroValue102
  t72 := Try.underlying104
  a72 := Try.isAgg104
  z72 := Try.sizeOf104
  v72 := Try.zeroValue104
  t127 := Try.underlying140
  a127 := Try.isAgg140
  z127 := Try.sizeOf140
  v127 := Try.zeroValue140 }
theorem layExtra : Builder.Extra Try.prog lay169_ren := {
  sizeBuilder := by kernel_rfl
  liesBuilder := by kernel_rfl
  t5 := Try.underlying5
  a5 := Try.isAgg5
  z5 := Try.sizeOf5
  v5 := Try.zeroValue5
  infoByte := by kernel_rfl
  cellsByte := by kernel_rfl
  sizeByte := by kernel_rfl
  neB5 := by decide }
theorem string_any (B b : Nat) (l : List UInt8) (w : World) (h : Lib.IsBuilder 104 5 B b (Lib.byteCells l) w) (hBw : B ≤ w.heap.size) :
    Calls Try.prog 61 #[.pointer (some ⟨b, 0, none⟩)] w fun e w' => e = .returned (.string ⟨l.toArray⟩) ∧ Below B w w' := Any.Builder_String_any lay169 layExtra B b l w h hBw
theorem Bd.is {w0 w : World} {b : Nat} {bs : List UInt8} (h : Bd w0 w b bs) : Lib.IsBuilder 104 5 w0.heap.size b (Lib.byteCells bs) w := by
  obtain ⟨hb, p, v, r, hp, hc, hr, hk, _⟩ := h
  have hne : v.ownBlock ≠ some b := by
    have := hr.2
    rw [this]
    exact Row.ne hr hc (by decide)
  have hown : w.ownsRow w0.heap.size 5 1 v (Lib.byteCells bs).length (Lib.byteCells bs) := by
    obtain ⟨⟨h1, h2⟩, h3⟩ := hr
    have hl : (Lib.byteCells bs).length = bs.length := by simp [Lib.byteCells]
    rw [hl]
    refine ⟨h1, ?_⟩
    rcases h2 with h2 | ⟨g, cap, cur, rfl, _, h4⟩
    · exact .inl h2
    · exact .inr ⟨g, cap, cur, rfl, hk g h3.symm, h4⟩
  rcases hp with rfl | rfl
  · exact .inl ⟨hb, v, hc, hown, hne⟩
  · exact .inr ⟨hb, v, hc, hown, hne⟩
theorem string_calls (w0 w : World) (b : Nat) (bs : List UInt8) (h : Bd w0 w b bs) :
    Calls Try.prog 61 #[.pointer (some ⟨b, 0, none⟩)] w fun e w' => e = .returned (.string (strOf bs)) ∧ Chg (fun _ => False) w0 w' := by
  have hg : Chg (fun _ => False) w0 w := by obtain ⟨_, _, _, _, _, _, _, _, hg⟩ := h; exact hg
  refine (string_any w0.heap.size b bs w h.is hg.size).mono ?_
  rintro e w' ⟨rfl, hb⟩
  exact ⟨rfl, hb.os.trans hg.os, hb.tape.trans hg.tape, hb.output.trans hg.output, Nat.le_trans hg.size hb.size, fun k hk hn => (hb.block k hk).trans (hg.block k hk hn)⟩
theorem Bd.kept {w0 w w1 : World} {b : Nat} {bs : List UInt8} (h : Bd w0 w b bs) (c : Chg (fun _ => False) w w1) : Bd w0 w1 b bs := by
  obtain ⟨hb, p, v, r, hp, hc, hr, hk, hg⟩ := h
  exact ⟨hb, p, v, r, hp, (c.block b (blkLt hc) (fun h => h)).trans hc, hr.chg c (fun _ _ h => h), hk, hg.trans c (fun _ h => .inl h)⟩
theorem Bd.new (w : World) : Bd w (w.alloc (.cells #[.pointer none, .slice none 0 0] 104)) w.heap.size [] :=
  ⟨Nat.le_refl _, _, _, none, .inl rfl, blkAlloc w _, Row.nil _ _, ⟨(fun k (h : none = some k) => nomatch h), (Chg.refl _ w).alloc _⟩⟩
def catL (g : Nat → ByteArray) : Nat → List UInt8
  | 0 => []
  | n + 1 => catL g n ++ (g n).data.toList
theorem catL_len (g : Nat → ByteArray) (n : Nat) (hg : ∀ i, i < n → (g i).size = 16) : (catL g n).length = 16 * n := by
  induction n with
  | zero => rfl
  | succ n ih =>
    have h2 : (g n).data.toList.length = 16 := by rw [Array.length_toList]; exact hg n (by omega)
    rw [catL, List.length_append, ih (fun i hi => hg i (by omega)), h2]
    omega
def catF (g : Nat → ByteArray) : ByteArray := strOf (catL g 18)
set_option maxRecDepth 100000 in
theorem allP_calls (w : World) (p0 p1 : Value) (g : Nat → ByteArray) (hg : ∀ i, i < 18 → (g i).size = 16)
    (hf : ∀ i : Nat, i < 18 → ∀ w1, Chg (fun _ => False) w w1 → Calls Try.prog 99 #[.int .i64 i, p0, p1] w1 fun e w' => e = .returned (.string (g i)) ∧ Chg (fun _ => False) w1 w') :
    Calls Try.prog 49 #[.func (.func 99) #[] #[p0, p1]] w fun e w' => e = .returned (.string (catF g)) ∧ Chg (fun _ => False) w w' := by
  have HG := Lib.hid hg
  have HF := Lib.hid hf
  have HB := Lib.hid (Bd.new w)
  clear hg hf
  go_enter Try.func49, Try.ntmps49
  go_wp2_with fail
  go_loopw [5] (fun k wx => ∃ c : Nat, c ≤ 18 ∧ k = .int .i64 c ∧ HD (Bd w wx w.heap.size (catL g c))) (fun k _ => 18 - (intOf k).toNat)
  case atStart => exact ⟨0, by omega, rfl, ⟨HB.out⟩⟩
  case round =>
    obtain ⟨c, hc, rfl, HN⟩ := hrel
    obtain ⟨w2, rfl⟩ : ∃ w2, w2 = wr := ⟨_, rfl⟩
    by_cases hlt : c < 18
    · have hsz : Hid ((catL g c).length + (g c).size ≤ 140737488355328) := Lib.hid (by rw [catL_len g c (fun i hi => HG.out i (by omega)), HG.out c hlt]; omega)
      go_wp2_with (first
        | (go_at_call 99; refine (HF.out c hlt _ (by obtain ⟨_, _, _, _, _, _, _, _, hg⟩ := HN.out; exact hg)).mono ?_; rintro e w3 ⟨rfl, hg⟩; have HB3 := Lib.hid (HN.out.kept hg); clear hg)
        | (go_at_call 60; refine (write_calls w w3 w.heap.size (catL g c) (g c) HB3.out hsz.out).mono ?_; rintro e w4 ⟨⟨u, rfl⟩, hb⟩; have HB4 := Lib.hid hb; clear hb))
      exact ⟨⟨c + 1, by omega, by go_num, ⟨HB4.out⟩⟩, by simp [intOf]; omega⟩
    · obtain rfl : c = 18 := by omega
      go_wp2_with (go_at_call 61; refine (string_calls w w2 w.heap.size (catL g 18) HN.out).mono ?_; rintro e w5 ⟨rfl, hg⟩; have HG5 := Lib.hid hg; clear hg)
      go_ret
      exact ⟨rfl, HG5.out⟩
set_option maxRecDepth 100000 in
theorem allS_calls (w : World) (p0 p1 p2 : Value) (g : Nat → ByteArray) (hg : ∀ i, i < 18 → (g i).size = 16)
    (hf : ∀ i : Nat, i < 18 → ∀ w1, Chg (fun _ => False) w w1 → Calls Try.prog 95 #[.int .i64 i, p0, p1, p2] w1 fun e w' => e = .returned (.string (g i)) ∧ Chg (fun _ => False) w1 w') :
    Calls Try.prog 49 #[.func (.func 95) #[] #[p0, p1, p2]] w fun e w' => e = .returned (.string (catF g)) ∧ Chg (fun _ => False) w w' := by
  have HG := Lib.hid hg
  have HF := Lib.hid hf
  have HB := Lib.hid (Bd.new w)
  clear hg hf
  go_enter Try.func49, Try.ntmps49
  go_wp2_with fail
  go_loopw [5] (fun k wx => ∃ c : Nat, c ≤ 18 ∧ k = .int .i64 c ∧ HD (Bd w wx w.heap.size (catL g c))) (fun k _ => 18 - (intOf k).toNat)
  case atStart => exact ⟨0, by omega, rfl, ⟨HB.out⟩⟩
  case round =>
    obtain ⟨c, hc, rfl, HN⟩ := hrel
    obtain ⟨w2, rfl⟩ : ∃ w2, w2 = wr := ⟨_, rfl⟩
    by_cases hlt : c < 18
    · have hsz : Hid ((catL g c).length + (g c).size ≤ 140737488355328) := Lib.hid (by rw [catL_len g c (fun i hi => HG.out i (by omega)), HG.out c hlt]; omega)
      go_wp2_with (first
        | (go_at_call 95; refine (HF.out c hlt _ (by obtain ⟨_, _, _, _, _, _, _, _, hg⟩ := HN.out; exact hg)).mono ?_; rintro e w3 ⟨rfl, hg⟩; have HB3 := Lib.hid (HN.out.kept hg); clear hg)
        | (go_at_call 60; refine (write_calls w w3 w.heap.size (catL g c) (g c) HB3.out hsz.out).mono ?_; rintro e w4 ⟨⟨u, rfl⟩, hb⟩; have HB4 := Lib.hid hb; clear hb))
      exact ⟨⟨c + 1, by omega, by go_num, ⟨HB4.out⟩⟩, by simp [intOf]; omega⟩
    · obtain rfl : c = 18 := by omega
      go_wp2_with (go_at_call 61; refine (string_calls w w2 w.heap.size (catL g 18) HN.out).mono ?_; rintro e w5 ⟨rfl, hg⟩; have HG5 := Lib.hid hg; clear hg)
      go_ret
      exact ⟨rfl, HG5.out⟩
set_option maxRecDepth 100000 in
theorem allR_calls (w : World) (p0 p1 p2 : Value) (g : Nat → ByteArray) (hg : ∀ i, i < 18 → (g i).size = 16)
    (hf : ∀ i : Nat, i < 18 → ∀ w1, Chg (fun _ => False) w w1 → Calls Try.prog 50 #[.int .i64 i, p0, p1, p2] w1 fun e w' => e = .returned (.string (g i)) ∧ Chg (fun _ => False) w1 w') :
    Calls Try.prog 49 #[.func (.func 50) #[] #[p0, p1, p2]] w fun e w' => e = .returned (.string (catF g)) ∧ Chg (fun _ => False) w w' := by
  have HG := Lib.hid hg
  have HF := Lib.hid hf
  have HB := Lib.hid (Bd.new w)
  clear hg hf
  go_enter Try.func49, Try.ntmps49
  go_wp2_with fail
  go_loopw [5] (fun k wx => ∃ c : Nat, c ≤ 18 ∧ k = .int .i64 c ∧ HD (Bd w wx w.heap.size (catL g c))) (fun k _ => 18 - (intOf k).toNat)
  case atStart => exact ⟨0, by omega, rfl, ⟨HB.out⟩⟩
  case round =>
    obtain ⟨c, hc, rfl, HN⟩ := hrel
    obtain ⟨w2, rfl⟩ : ∃ w2, w2 = wr := ⟨_, rfl⟩
    by_cases hlt : c < 18
    · have hsz : Hid ((catL g c).length + (g c).size ≤ 140737488355328) := Lib.hid (by rw [catL_len g c (fun i hi => HG.out i (by omega)), HG.out c hlt]; omega)
      go_wp2_with (first
        | (go_at_call 50; refine (HF.out c hlt _ (by obtain ⟨_, _, _, _, _, _, _, _, hg⟩ := HN.out; exact hg)).mono ?_; rintro e w3 ⟨rfl, hg⟩; have HB3 := Lib.hid (HN.out.kept hg); clear hg)
        | (go_at_call 60; refine (write_calls w w3 w.heap.size (catL g c) (g c) HB3.out hsz.out).mono ?_; rintro e w4 ⟨⟨u, rfl⟩, hb⟩; have HB4 := Lib.hid hb; clear hb))
      exact ⟨⟨c + 1, by omega, by go_num, ⟨HB4.out⟩⟩, by simp [intOf]; omega⟩
    · obtain rfl : c = 18 := by omega
      go_wp2_with (go_at_call 61; refine (string_calls w w2 w.heap.size (catL g 18) HN.out).mono ?_; rintro e w5 ⟨rfl, hg⟩; have HG5 := Lib.hid hg; clear hg)
      go_ret
      exact ⟨rfl, HG5.out⟩
end Go.Proofs.Ytpdgkgdaaapngaa
