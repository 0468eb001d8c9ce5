/- TopPatched: the cell: Commit. -/
import Derived.Test.YtnhdlclicjmmnaaGreatPeK
namespace Go.Proofs.YtnhdlclicjmmnaaGreat
open Go.RowKit Go.Lib Go.Shelf Go.Maps
def SCell (T : TypeId) : Prop := SDev T ∨ T = 115
/-- The cell at block c: its number, its copy, what it holds now. -/
def Cl (w0 w : World) (c d base half num last : Nat) (M : Cont) : Prop :=
  w0.heap.size ≤ c ∧ Chg (fun _ => False) w0 w ∧ ∃ mn mw, w.heap[c]? = some (.cells (cellC d base half (.map (some mn)) mw num last) 115 (0, 0)) ∧ MapAt w mn M ∧ w0.heap.size ≤ mn
theorem Cl.kept {S : TypeId → Prop} {w0 w w1 : World} {c d base half num last : Nat} {M : Cont} (h : Cl w0 w c d base half num last M) (hk : KeptT S w w1) (hs : ¬ S 115) (hc : Chg (fun _ => False) w0 w1) : Cl w0 w1 c d base half num last M := by
  obtain ⟨h1, _, mn, mw, h3, h4, h5⟩ := h
  exact ⟨h1, hc, mn, mw, hk.cells h3 hs, h4.kept hk, h5⟩
theorem header_wo (num len : Nat) (hn : num ≤ 1000000000) (hl : len ≤ 1000000) : numW (numW (numW ([], false) (num : Int) 8) (len : Int) 4) (num : Int) 8 = (headC num len, false) := by
  have f8 : fits (num : Int) 8 := ⟨by omega, fun h => absurd h (by omega)⟩
  have f4 : fits (len : Int) 4 := ⟨by omega, fun _ => by omega⟩
  rw [numW_ok _ _ _ f8, numW_ok _ _ _ f4, numW_ok _ _ _ f8, List.nil_append]
  rfl
theorem commit_fin {w0 w w4 w6 w7 : World} {c d base half num last n1 tt mn : Nat} {mw : Value} {M : Cont} {sec' : List (List UInt8)} (hc0 : w0.heap.size ≤ c) (hg0 : Chg (fun _ => False) w0 w)
    (hcb : w.heap[c]? = some (.cells (cellC d base half (.map (some mn)) mw num last) 115 (0, 0))) (hmw : w0.heap.size ≤ mn) (g4 : Chg (fun _ => False) w w4) (hd : Dv w0 w6 d sec' sec' []) (k6 : KeptT SDev w4.drew w6) (hc6 : w6.heap[c]? = some (.cells (cellC d base half (.map (some mn)) mw num last) 115 (0, 0)))
    (hm7 : MapAt w7 w6.drew.heap.size M) (g7 : Chg (fun _ => False) w6.drew w7) (hc7 : w7.heap[c]? = some (.cells (cellC d base half (.map (some mn)) mw num last) 115 (0, 0))) (hmn7 : MapAt w7 mn M) :
    Cl w0 (((w7.setCell ⟨c, 6, none⟩ (.int .i64 (tt : Int))).setCell ⟨c, 5, none⟩ (.int .i64 (n1 : Int))).setCell ⟨c, 4, none⟩ (.map (some w6.drew.heap.size))) c d base half n1 tt M ∧
      Dv w0 (((w7.setCell ⟨c, 6, none⟩ (.int .i64 (tt : Int))).setCell ⟨c, 5, none⟩ (.int .i64 (n1 : Int))).setCell ⟨c, 4, none⟩ (.map (some w6.drew.heap.size))) d sec' sec' [] ∧
      KeptT SCell w (((w7.setCell ⟨c, 6, none⟩ (.int .i64 (tt : Int))).setCell ⟨c, 5, none⟩ (.int .i64 (n1 : Int))).setCell ⟨c, 4, none⟩ (.map (some w6.drew.heap.size))) := by
  have g67 : Chg (fun _ => False) w6 w7 := ((Chg.refl (fun _ => False) w6).drew).trans g7 (fun _ h => h.elim)
  have cc : Chg (fun k => k = c) w7 (((w7.setCell ⟨c, 6, none⟩ (.int .i64 (tt : Int))).setCell ⟨c, 5, none⟩ (.int .i64 (n1 : Int))).setCell ⟨c, 4, none⟩ (.map (some w6.drew.heap.size))) := (((Chg.refl (fun k => k = c) w7).cellOf 6 _).cellOf 5 _).cellOf 4 _
  have hb := blkSet (blkSet (blkSet hc7 6 (.int .i64 (tt : Int))) 5 (.int .i64 (n1 : Int))) 4 (.map (some w6.drew.heap.size))
  have kc : KeptT (fun T => T = 115) w7 (((w7.setCell ⟨c, 6, none⟩ (.int .i64 (tt : Int))).setCell ⟨c, 5, none⟩ (.int .i64 (n1 : Int))).setCell ⟨c, 4, none⟩ (.map (some w6.drew.heap.size))) := KeptT.of cc (fun k e => .inr ⟨_, _, _, by subst e; exact hc7, rfl⟩)
  have ch7 := (hd.chg0.trans g67 (fun _ h => h.elim)).trans cc (fun k e => .inr (by rw [e]; exact hc0))
  have k7 : KeptT SCell w (((w7.setCell ⟨c, 6, none⟩ (.int .i64 (tt : Int))).setCell ⟨c, 5, none⟩ (.int .i64 (n1 : Int))).setCell ⟨c, 4, none⟩ (.map (some w6.drew.heap.size))) :=
    (((KeptT.of_chg (S := SCell) g4.drew).trans (k6.mono (fun T h => .inl h))).trans (KeptT.of_chg g67)).trans (kc.mono (fun T h => .inr h))
  refine ⟨⟨hc0, ch7, mn, .map (some w6.drew.heap.size), hb, hmn7.chg cc (fun e => hmn7.ne hc7 e), hmw⟩, ?_, k7⟩
  have hd7 : Dv w0 w7 d sec' sec' [] := Dv.kept (S := fun _ => False) hd (KeptT.of_chg g67) (fun _ _ h => h) (hd.chg0.trans g67 (fun _ h => h.elim))
  exact Dv.kept hd7 kc (fun T h1 h2 => by subst h2; revert h1; unfold SDev; decide) ch7
set_option maxRecDepth 100000 in
set_option maxHeartbeats 4000000 in
theorem Commit_calls (w0 w : World) (c d base half num last : Nat) (M : Cont) (sec : List (List UInt8)) (hc : Cl w0 w c d base half num last M) (hd : Dv w0 w d sec sec []) (hM : GoodM M) (hroom : (bytesB M).length ≤ 64 * (half - 1)) (hb : base ≤ 100000) (hh : 2 ≤ half) (hh2 : half ≤ 10000) (hlen : base + 2 * half ≤ sec.length) (hsl : sec.length ≤ 4096) (hn : num ≤ 100000) (hl : last ≤ 1) :
    Calls Tryz.prog 75 #[.pointer (some ⟨c, 0, none⟩)] w fun e w' => e = .returned (.int .i64 0) ∧ Cl w0 w' c d base half (num + 1) (1 - last) M ∧
      Dv w0 w' d (wroteC sec (base + (1 - last) * half) (bytesB M) (headC (num + 1) (bytesB M).length)) (wroteC sec (base + (1 - last) * half) (bytesB M) (headC (num + 1) (bytesB M).length)) [] ∧ KeptT SCell w w' := by
  obtain ⟨hc0, hg0, mn, mw, hcb, hmn, hmw0⟩ := hc
  have HCB := Lib.hid hcb
  have HMN := Lib.hid hmn
  have HD0 := Lib.hid hd
  have hlb : (bytesB M).length ≤ 1000000 := by omega
  have BC := Lib.hid (bytes_calls w mn M hmn hM)
  have ROOM := Lib.hid (fun (w' : World) (hg : Chg (fun _ => False) w w') => room_calls w' c half (blkCell (hg.obj hcb (fun h => h)) 2) (by omega) (by omega))
  have d7 : w.cell? ⟨c, 7, none⟩ = some (.bool false) := blkCell hcb 7
  have d3 : w.cell? ⟨c, 3, none⟩ = some (.map (some mn)) := blkCell hcb 3
  have HW := Lib.hid (header_wo (num + 1) (bytesB M).length (by omega) hlb)
  obtain ⟨X, hX⟩ : ∃ X, strOf (bytesB M) = X := ⟨_, rfl⟩
  have hXs : X.size = (bytesB M).length := by rw [← hX, strOf_size]
  obtain ⟨R, hR⟩ : ∃ R, 64 * (half - 1) = R := ⟨_, rfl⟩
  rw [hX] at BC
  rw [hR] at ROOM hroom
  rw [← hXs] at HW hroom
  have HX := Lib.hid hX
  have HRR := Lib.hid hR
  have HXS := Lib.hid hXs
  obtain ⟨n1, hn1⟩ : ∃ n1, num + 1 = n1 := ⟨_, rfl⟩
  rw [hn1] at HW ⊢
  obtain ⟨tt, hto⟩ : ∃ tt, 1 - last = tt := ⟨_, rfl⟩
  rw [hto]
  have wn : IntKind.i64.wrap ((num : Int) + 1) = (n1 : Int) := by rw [IntKind.wrap_i64]; omega
  have wn3 : IntKind.i64.wrap (n1 : Int) = (n1 : Int) := by rw [IntKind.wrap_i64]; omega
  have wn2 : (num : Int) + 1 = (n1 : Int) := by omega
  have wt : IntKind.i64.wrap (1 - (last : Int)) = (tt : Int) := by rw [IntKind.wrap_i64]; omega
  have wt2 : 1 - (last : Int) = (tt : Int) := by omega
  have r1 : ¬ ((R : Int) < (X.size : Int)) := by omega
  have r1b : decide (R < X.size) = false := decide_eq_false (by omega)
  have r1c : ¬ (R < X.size) := by omega
  have r2 : decide ((9223372036854775806 : Int) ≤ (num : Int)) = false := decide_eq_false (by omega)
  clear hcb hmn hd hM hX hXs hR
  go_enter Tryz.func75, Tryz.ntmps75
  go_wp2_with (first
    | (go_at_call 97; (with_reducible refine BC.out.mono ?_); rintro e w1 ⟨rfl, hg⟩; have HG1 := Lib.hid hg; have d5 : w1.cell? ⟨c, 5, none⟩ = some (.int .i64 (num : Int)) := blkCell (hg.obj HCB.out (fun h => h)) 5; have d6 : w1.cell? ⟨c, 6, none⟩ = some (.int .i64 (last : Int)) := blkCell (hg.obj HCB.out (fun h => h)) 6; have d5a : ∀ ob, (w1.alloc ob).cell? ⟨c, 5, none⟩ = some (.int .i64 (num : Int)) := fun ob => blkCell (blkOld (hg.obj HCB.out (fun h => h)) ob) 5; clear hg)
    | (go_at_call 88; (with_reducible refine (ROOM.out w1 HG1.out).mono ?_); rintro e w2 ⟨rfl, he⟩; have he := he.symm; subst he)
    | fail "NOFIT")
  have HW0 := Lib.hid (Wo.new w1)
  obtain ⟨B, hB⟩ : ∃ B, w1.heap.size = B := ⟨_, rfl⟩
  obtain ⟨W0, hW⟩ : ∃ W0, w1.alloc (.cells #[.slice none 0 0, .bool false] 63) = W0 := ⟨_, rfl⟩
  rw [hB, hW] at HW0
  simp only [hW]
  simp only [hB]
  clear hW hB d5a d6 d5 r1 r1b r1c r2 wt wt2 d7 d3
  refine (wo_Eight w1 W0 B ([], false) (n1 : Int) HW0.out (by show 0 ≤ _; omega)).mono ?_
  rintro e w2 ⟨rfl, hw, _⟩
  have z1 := numW_len ([], false) (n1 : Int) 8
  obtain ⟨s1, hs1⟩ : ∃ s1, numW ([], false) (n1 : Int) 8 = s1 := ⟨_, rfl⟩
  rw [hs1] at hw z1 HW
  have HW2 := Lib.hid hw
  clear hw hs1 HW0
  go_wp2_with fail
  refine (wo_Four w1 w2 B s1 (X.size : Int) HW2.out (by simp only [List.length_nil] at z1; omega)).mono ?_
  rintro e w3 ⟨rfl, hw, _⟩
  have z2 := numW_len s1 (X.size : Int) 4
  obtain ⟨s2, hs2⟩ : ∃ s2, numW s1 (X.size : Int) 4 = s2 := ⟨_, rfl⟩
  rw [hs2] at hw z2 HW
  have HW3 := Lib.hid hw
  have d5 : w3.cell? ⟨c, 5, none⟩ = some (.int .i64 (num : Int)) := blkCell (hw.chg0.obj (HG1.out.obj HCB.out (fun h => h)) (fun h => h)) 5
  clear hw hs2 HW2
  go_wp2_with fail
  refine (wo_Eight w1 w3 B s2 (n1 : Int) HW3.out (by simp only [List.length_nil] at z1; omega)).mono ?_
  rintro e w4 ⟨rfl, hw, _⟩
  rw [HW.out] at hw
  have BY := Lib.hid (wo_Bytes w1 w4 B _ hw)
  have hwb : wbT (headC n1 X.size, false) = strOf (headC n1 X.size) := rfl
  have hwe : wbE (headC n1 X.size, false) = 0 := rfl
  rw [hwb, hwe] at BY
  obtain ⟨hd', hhd⟩ : ∃ hd', strOf (headC n1 X.size) = hd' := ⟨_, rfl⟩
  rw [hhd] at BY
  have HHD := Lib.hid hhd
  have HG4 := Lib.hid (HG1.out.trans hw.chg0 (fun _ h => h.elim))
  clear hw hwb hwe hhd z1 z2 d5 HW3 HW
  have HC4 := Lib.hid (HG4.out.obj HCB.out (fun h => h))
  have FC := Lib.hid (first_calls w4 c base half tt (blkCell HC4.out 1) (blkCell HC4.out 2) hb (by omega) (by omega))
  obtain ⟨F, hF⟩ : ∃ F, base + tt * half = F := ⟨_, rfl⟩
  rw [hF] at FC
  have HF := Lib.hid hF
  have htt : tt * half ≤ 1 * half := Nat.mul_le_mul_right _ (by omega)
  have WC := Lib.hid (cwrite_calls w0 w4.drew c d sec F X hd' (Dv.kept (S := fun _ => False) HD0.out (KeptT.of_chg HG4.out.drew) (fun _ _ h => h) (HD0.out.chg0.trans HG4.out.drew (fun _ h => h.elim))) _ HC4.out rfl hsl
    (by have hrr := HRR.out; have := cntB_le X.data.toList (half - 1) (by omega) (by rw [Array.length_toList]; show X.size ≤ _; omega); omega) (by rw [← HHD.out, strOf_size, headC_len]; omega))
  clear htt hF
  go_wp2_with (first
    | (go_at_call 32; (with_reducible refine BY.out.mono ?_); rintro e w5 ⟨rfl, he⟩; subst he)
    | (go_at_call 86; (with_reducible refine FC.out.mono ?_); rintro e w5 ⟨rfl, he⟩; subst he)
    | (go_at_call 99; (with_reducible refine WC.out.mono ?_); rintro e w6 ⟨rfl, hd6, hk6⟩; have HD6 := Lib.hid hd6; have HK6 := Lib.hid hk6; have HC6 := Lib.hid (KeptT.cells hk6 HC4.out (by unfold SDev; decide)); clear hd6 hk6)
    | fail "NOFIT")
  have d3 : w6.cell? ⟨c, 3, none⟩ = some (.map (some mn)) := blkCell HC6.out 3
  have d5 : w6.cell? ⟨c, 5, none⟩ = some (.int .i64 (num : Int)) := blkCell HC6.out 5
  have HM6 := Lib.hid (MapAt.kept (MapAt.chg HMN.out HG4.out (fun h => h)) HK6.out)
  have CC := Lib.hid (clone_calls w6.drew mn M (MapAt.chg HM6.out ((Chg.refl (fun _ => False) w6).drew) (fun h => h)))
  refine wp_region_held_drew (S := fun w' => w'.cell? ⟨c, 3, none⟩ = some (.map (some mn))) (by kernel_rfl) (d3) (fun hHeld => ?_)
  refine held_take 0 (some 69) ?vk0 rfl rfl (by kernel_rfl) (by kernel_rfl) (by kernel_rfl) (fun _ _ _ h => h) (by go_simp) (by assumption) ?hyk0 ?restk0
  case hyk0 => (intro w hSw; (try dsimp only at hSw); go_simp; try with_reducible rfl)
  (try simp only [Act.put, List.setIfInBounds_toArray, List.set_cons_zero, List.set_cons_succ])
  refine held_take 1 (some 70) ?vk1 rfl rfl (by kernel_rfl) (by kernel_rfl) (by kernel_rfl) (fun _ _ _ h => h) (by go_simp) (by assumption) ?hyk1 ?restk1
  case hyk1 => (intro w hSw; (try dsimp only at hSw); go_simp; try with_reducible rfl)
  (try simp only [Act.put, List.setIfInBounds_toArray, List.set_cons_zero, List.set_cons_succ])
  refine held_take 2 (some 71) ?vk2 rfl rfl (by kernel_rfl) (by kernel_rfl) (by kernel_rfl) (fun _ _ _ h => h) (by go_simp) (by assumption) ?hyk2 ?restk2
  case hyk2 => (intro w hSw; (try dsimp only at hSw); go_simp; try with_reducible rfl)
  (try simp only [Act.put, List.setIfInBounds_toArray, List.set_cons_zero, List.set_cons_succ])
  refine held_take 3 (some 72) ?vk3 rfl rfl (by kernel_rfl) (by kernel_rfl) (by kernel_rfl) (fun _ _ _ h => h) (by go_simp) (by assumption) ?hyk3 ?restk3
  case hyk3 => (intro w hSw; (try dsimp only at hSw); go_simp; try with_reducible rfl)
  (try simp only [Act.put, List.setIfInBounds_toArray, List.set_cons_zero, List.set_cons_succ])
  refine held_take 4 (some 73) ?vk4 rfl rfl (by kernel_rfl) (by kernel_rfl) (by kernel_rfl) (fun _ _ _ h => h) (by go_simp) (by assumption) ?hyk4 ?restk4
  case hyk4 => (intro w hSw; (try dsimp only at hSw); go_simp; try with_reducible rfl)
  (try simp only [Act.put, List.setIfInBounds_toArray, List.set_cons_zero, List.set_cons_succ])
  refine held_take 5 (some 74) ?vk5 rfl rfl (by kernel_rfl) (by kernel_rfl) (by kernel_rfl) (fun _ _ _ h => h) (by go_simp) (by assumption) ?hyk5 ?restk5
  case hyk5 => (intro w hSw; (try dsimp only at hSw); go_simp; try with_reducible rfl)
  (try simp only [Act.put, List.setIfInBounds_toArray, List.set_cons_zero, List.set_cons_succ])
  refine held_take 6 (some 75) ?vk6 rfl rfl (by kernel_rfl) (by kernel_rfl) (by kernel_rfl) (fun _ _ _ h => h) (by go_simp) (by assumption) ?hyk6 ?restk6
  case hyk6 => (intro w hSw; (try dsimp only at hSw); go_simp; try with_reducible rfl)
  (try simp only [Act.put, List.setIfInBounds_toArray, List.set_cons_zero, List.set_cons_succ])
  refine held_take 9 (some 78) ?vk9 rfl rfl (by kernel_rfl) (by kernel_rfl) (by kernel_rfl) (fun _ _ _ h => h) (by go_simp) (by assumption) ?hyk9 ?restk9
  case hyk9 => (intro w hSw; (try dsimp only at hSw); go_simp; try with_reducible rfl)
  (try simp only [Act.put, List.setIfInBounds_toArray, List.set_cons_zero, List.set_cons_succ])
  refine held_take 10 (some 79) ?vk10 rfl rfl (by kernel_rfl) (by kernel_rfl) (by kernel_rfl) (fun _ _ _ h => h) (by go_simp) (by assumption) ?hyk10 ?restk10
  case hyk10 => (intro w hSw; (try dsimp only at hSw); go_simp; try with_reducible rfl)
  (try simp only [Act.put, List.setIfInBounds_toArray, List.set_cons_zero, List.set_cons_succ])
  refine held_take 11 (some 80) ?vk11 rfl rfl (by kernel_rfl) (by kernel_rfl) (by kernel_rfl) (fun _ _ _ h => h) (by go_simp) (by assumption) ?hyk11 ?restk11
  case hyk11 => (intro w hSw; (try dsimp only at hSw); go_simp; try with_reducible rfl)
  (try simp only [Act.put, List.setIfInBounds_toArray, List.set_cons_zero, List.set_cons_succ])
  refine held_take 12 (some 81) ?vk12 rfl rfl (by kernel_rfl) (by kernel_rfl) (by kernel_rfl) (fun _ _ _ h => h) (by go_simp) (by assumption) ?hyk12 ?restk12
  case hyk12 => (intro w hSw; (try dsimp only at hSw); go_simp; try with_reducible rfl)
  (try simp only [Act.put, List.setIfInBounds_toArray, List.set_cons_zero, List.set_cons_succ])
  refine wpAnyH_ready (rs := [7, 13]) (by kernel_rfl) (by simp) ?_
  refine AllReadyH.cons rfl (fun K hK => ?_) (AllReadyH.cons rfl (fun K hK => ?_) AllReadyH.nil)
  · go_simp
    refine hK.out _ _ (d3) (fun hHeld => ?_)
    clear hK K
    (try simp only [Act.put, List.setIfInBounds_toArray, List.set_cons_zero, List.set_cons_succ])
    refine held_take 8 (some 77) ?vp8 rfl rfl (by kernel_rfl) (by kernel_rfl) (by kernel_rfl) (fun _ _ _ h => h) (by go_simp) (by assumption) ?hyp8 ?restp8
    case hyp8 => (intro w hSw; (try dsimp only at hSw); go_simp; try with_reducible rfl)
    (try simp only [Act.put, List.setIfInBounds_toArray, List.set_cons_zero, List.set_cons_succ])
    refine wpAnyH_ready (rs := [13]) (by kernel_rfl) (by simp) ?_
    refine AllReadyH.cons rfl (fun K hK => ?_) AllReadyH.nil
    go_simp
    (go_at_call 90; (with_reducible refine CC.out.mono ?_); rintro e w7 ⟨rfl, hm7, hg7⟩)
    have HM7 := Lib.hid hm7
    have HG7 := Lib.hid hg7
    have HC7 := Lib.hid (hg7.obj (blkDrew HC6.out) (fun h => h))
    have t5 : w7.cell? ⟨c, 5, none⟩ = some (.int .i64 (num : Int)) := blkCell HC7.out 5
    have t6 : w7.cell? ⟨c, 6, none⟩ = some (.int .i64 (last : Int)) := blkCell HC7.out 6
    have t4 : w7.cell? ⟨c, 4, none⟩ = some mw := blkCell HC7.out 4
    have t3 : w7.cell? ⟨c, 3, none⟩ = some (.map (some mn)) := blkCell HC7.out 3
    have u5 := blkFree HC7.out 5
    have u6 := blkFree HC7.out 6
    have u4 := blkFree HC7.out 4
    clear hm7 hg7
    go_wp2_with fail
    refine hK.out _ _ (t3) (fun hHeld => ?_)
    clear hK K
    (try simp only [Act.put, List.setIfInBounds_toArray, List.set_cons_zero, List.set_cons_succ])
    refine held_take 14 (some 83) ?vp14 rfl rfl (by kernel_rfl) (by kernel_rfl) (by kernel_rfl) (fun _ _ _ h => h) (by go_simp) (by assumption) ?hyp14 ?restp14
    case hyp14 => (intro w hSw; (try dsimp only at hSw); go_simp; try with_reducible rfl)
    (try simp only [Act.put, List.setIfInBounds_toArray, List.set_cons_zero, List.set_cons_succ])
    refine held_take 15 (some 84) ?vp15 rfl rfl (by kernel_rfl) (by kernel_rfl) (by kernel_rfl) (fun _ _ _ h => h) (by go_simp) (by assumption) ?hyp15 ?restp15
    case hyp15 => (intro w hSw; (try dsimp only at hSw); go_simp; try with_reducible rfl)
    (try simp only [Act.put, List.setIfInBounds_toArray, List.set_cons_zero, List.set_cons_succ])
    refine wpAnyH_ready (rs := [16]) (by kernel_rfl) (by simp) ?_
    refine AllReadyH.cons rfl (fun K hK => ?_) AllReadyH.nil
    go_simp
    refine hK.out _ _ (by simp [t3, World.cell?_setCell_other]) (fun hHeld => ?_)
    clear hK K
    (try simp only [Act.put, List.setIfInBounds_toArray, List.set_cons_zero, List.set_cons_succ])
    refine held_take 17 (some 85) ?vp17 rfl rfl (by kernel_rfl) (by kernel_rfl) (by kernel_rfl) (fun _ _ _ h => h) (by go_simp) (by assumption) ?hyp17 ?restp17
    case hyp17 => (intro w hSw; (try dsimp only at hSw); go_simp; try with_reducible rfl)
    (try simp only [Act.put, List.setIfInBounds_toArray, List.set_cons_zero, List.set_cons_succ])
    refine held_take 18 (some 86) ?vp18 rfl rfl (by kernel_rfl) (by kernel_rfl) (by kernel_rfl) (fun _ _ _ h => h) (by go_simp) (by assumption) ?hyp18 ?restp18
    case hyp18 => (intro w hSw; (try dsimp only at hSw); go_simp; try with_reducible rfl)
    (try simp only [Act.put, List.setIfInBounds_toArray, List.set_cons_zero, List.set_cons_succ])
    refine wpAnyH_ready (rs := [19]) (by kernel_rfl) (by simp) ?_
    refine AllReadyH.cons rfl (fun K hK => ?_) AllReadyH.nil
    go_simp
    refine hK.out _ _ (by simp [t3, World.cell?_setCell_other]) (fun hHeld => ?_)
    clear hK K
    (try simp only [Act.put, List.setIfInBounds_toArray, List.set_cons_zero, List.set_cons_succ])
    refine held_take 20 (some 87) ?vp20 rfl rfl (by kernel_rfl) (by kernel_rfl) (by kernel_rfl) (fun _ _ _ h => h) (by go_simp) (by assumption) ?hyp20 ?restp20
    case hyp20 => (intro w hSw; (try dsimp only at hSw); go_simp; try with_reducible rfl)
    (try simp only [Act.put, List.setIfInBounds_toArray, List.set_cons_zero, List.set_cons_succ])
    refine held_take 21 (some 88) ?vp21 rfl rfl (by kernel_rfl) (by kernel_rfl) (by kernel_rfl) (fun _ _ _ h => h) (by go_simp) (by assumption) ?hyp21 ?restp21
    case hyp21 => (intro w hSw; (try dsimp only at hSw); go_simp; try with_reducible rfl)
    (try simp only [Act.put, List.setIfInBounds_toArray, List.set_cons_zero, List.set_cons_succ])
    refine wpAnyH_ready (rs := [22]) (by kernel_rfl) (by simp) ?_
    refine AllReadyH.cons rfl (fun K hK => ?_) AllReadyH.nil
    go_simp
    refine hK.out _ _ (by simp [t3, World.cell?_setCell_other]) (fun hHeld => ?_)
    clear hK K
    (try simp only [Act.put, List.setIfInBounds_toArray, List.set_cons_zero, List.set_cons_succ])
    refine wpAnyH_done (by kernel_rfl) ?_ _
    go_wp2_with fail
    go_ret
    have hx : X.data.toList = bytesB M := by rw [← HX.out, strOf_list]
    have hh2' : hd'.data.toList = headC n1 (bytesB M).length := by rw [← HHD.out, strOf_list, HXS.out]
    have hd6 := HD6.out
    rw [hx, hh2', ← HF.out] at hd6
    have FF := commit_fin (n1 := n1) (tt := tt) hc0 hg0 HCB.out hmw0 HG4.out hd6 HK6.out HC6.out HM7.out HG7.out HC7.out (MapAt.chg HM6.out (((Chg.refl (fun _ => False) w6).drew).trans HG7.out (fun _ h => h.elim)) (fun h => h))
    exact ⟨rfl, FF⟩
  · go_simp
    (go_at_call 90; (with_reducible refine CC.out.mono ?_); rintro e w7 ⟨rfl, hm7, hg7⟩)
    have HM7 := Lib.hid hm7
    have HG7 := Lib.hid hg7
    have HC7 := Lib.hid (hg7.obj (blkDrew HC6.out) (fun h => h))
    have t5 : w7.cell? ⟨c, 5, none⟩ = some (.int .i64 (num : Int)) := blkCell HC7.out 5
    have t6 : w7.cell? ⟨c, 6, none⟩ = some (.int .i64 (last : Int)) := blkCell HC7.out 6
    have t4 : w7.cell? ⟨c, 4, none⟩ = some mw := blkCell HC7.out 4
    have t3 : w7.cell? ⟨c, 3, none⟩ = some (.map (some mn)) := blkCell HC7.out 3
    have u5 := blkFree HC7.out 5
    have u6 := blkFree HC7.out 6
    have u4 := blkFree HC7.out 4
    clear hm7 hg7
    go_wp2_with fail
    refine hK.out _ _ (t3) (fun hHeld => ?_)
    clear hK K
    (try simp only [Act.put, List.setIfInBounds_toArray, List.set_cons_zero, List.set_cons_succ])
    refine wpAnyH_ready (rs := [7]) (by kernel_rfl) (by simp) ?_
    refine AllReadyH.cons rfl (fun K hK => ?_) AllReadyH.nil
    go_simp
    refine hK.out _ _ (t3) (fun hHeld => ?_)
    clear hK K
    (try simp only [Act.put, List.setIfInBounds_toArray, List.set_cons_zero, List.set_cons_succ])
    refine held_take 8 (some 77) ?vr8 rfl rfl (by kernel_rfl) (by kernel_rfl) (by kernel_rfl) (fun _ _ _ h => h) (by go_simp) (by assumption) ?hyr8 ?restr8
    case hyr8 => (intro w hSw; (try dsimp only at hSw); go_simp; try with_reducible rfl)
    (try simp only [Act.put, List.setIfInBounds_toArray, List.set_cons_zero, List.set_cons_succ])
    refine held_take 14 (some 83) ?vr14 rfl rfl (by kernel_rfl) (by kernel_rfl) (by kernel_rfl) (fun _ _ _ h => h) (by go_simp) (by assumption) ?hyr14 ?restr14
    case hyr14 => (intro w hSw; (try dsimp only at hSw); go_simp; try with_reducible rfl)
    (try simp only [Act.put, List.setIfInBounds_toArray, List.set_cons_zero, List.set_cons_succ])
    refine held_take 15 (some 84) ?vr15 rfl rfl (by kernel_rfl) (by kernel_rfl) (by kernel_rfl) (fun _ _ _ h => h) (by go_simp) (by assumption) ?hyr15 ?restr15
    case hyr15 => (intro w hSw; (try dsimp only at hSw); go_simp; try with_reducible rfl)
    (try simp only [Act.put, List.setIfInBounds_toArray, List.set_cons_zero, List.set_cons_succ])
    refine wpAnyH_ready (rs := [16]) (by kernel_rfl) (by simp) ?_
    refine AllReadyH.cons rfl (fun K hK => ?_) AllReadyH.nil
    go_simp
    refine hK.out _ _ (by simp [t3, World.cell?_setCell_other]) (fun hHeld => ?_)
    clear hK K
    (try simp only [Act.put, List.setIfInBounds_toArray, List.set_cons_zero, List.set_cons_succ])
    refine held_take 17 (some 85) ?vr17 rfl rfl (by kernel_rfl) (by kernel_rfl) (by kernel_rfl) (fun _ _ _ h => h) (by go_simp) (by assumption) ?hyr17 ?restr17
    case hyr17 => (intro w hSw; (try dsimp only at hSw); go_simp; try with_reducible rfl)
    (try simp only [Act.put, List.setIfInBounds_toArray, List.set_cons_zero, List.set_cons_succ])
    refine held_take 18 (some 86) ?vr18 rfl rfl (by kernel_rfl) (by kernel_rfl) (by kernel_rfl) (fun _ _ _ h => h) (by go_simp) (by assumption) ?hyr18 ?restr18
    case hyr18 => (intro w hSw; (try dsimp only at hSw); go_simp; try with_reducible rfl)
    (try simp only [Act.put, List.setIfInBounds_toArray, List.set_cons_zero, List.set_cons_succ])
    refine wpAnyH_ready (rs := [19]) (by kernel_rfl) (by simp) ?_
    refine AllReadyH.cons rfl (fun K hK => ?_) AllReadyH.nil
    go_simp
    refine hK.out _ _ (by simp [t3, World.cell?_setCell_other]) (fun hHeld => ?_)
    clear hK K
    (try simp only [Act.put, List.setIfInBounds_toArray, List.set_cons_zero, List.set_cons_succ])
    refine held_take 20 (some 87) ?vr20 rfl rfl (by kernel_rfl) (by kernel_rfl) (by kernel_rfl) (fun _ _ _ h => h) (by go_simp) (by assumption) ?hyr20 ?restr20
    case hyr20 => (intro w hSw; (try dsimp only at hSw); go_simp; try with_reducible rfl)
    (try simp only [Act.put, List.setIfInBounds_toArray, List.set_cons_zero, List.set_cons_succ])
    refine held_take 21 (some 88) ?vr21 rfl rfl (by kernel_rfl) (by kernel_rfl) (by kernel_rfl) (fun _ _ _ h => h) (by go_simp) (by assumption) ?hyr21 ?restr21
    case hyr21 => (intro w hSw; (try dsimp only at hSw); go_simp; try with_reducible rfl)
    (try simp only [Act.put, List.setIfInBounds_toArray, List.set_cons_zero, List.set_cons_succ])
    refine wpAnyH_ready (rs := [22]) (by kernel_rfl) (by simp) ?_
    refine AllReadyH.cons rfl (fun K hK => ?_) AllReadyH.nil
    go_simp
    refine hK.out _ _ (by simp [t3, World.cell?_setCell_other]) (fun hHeld => ?_)
    clear hK K
    (try simp only [Act.put, List.setIfInBounds_toArray, List.set_cons_zero, List.set_cons_succ])
    refine wpAnyH_done (by kernel_rfl) ?_ _
    go_wp2_with fail
    go_ret
    have hx : X.data.toList = bytesB M := by rw [← HX.out, strOf_list]
    have hh2' : hd'.data.toList = headC n1 (bytesB M).length := by rw [← HHD.out, strOf_list, HXS.out]
    have hd6 := HD6.out
    rw [hx, hh2', ← HF.out] at hd6
    have FF := commit_fin (n1 := n1) (tt := tt) hc0 hg0 HCB.out hmw0 HG4.out hd6 HK6.out HC6.out HM7.out HG7.out HC7.out (MapAt.chg HM6.out (((Chg.refl (fun _ => False) w6).drew).trans HG7.out (fun _ h => h.elim)) (fun h => h))
    exact ⟨rfl, FF⟩
end Go.Proofs.YtnhdlclicjmmnaaGreat
