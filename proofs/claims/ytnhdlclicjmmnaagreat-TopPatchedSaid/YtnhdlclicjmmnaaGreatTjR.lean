/- TopRejects: tree.Root: some function of the list. -/
import Derived.Test.YtnhdlclicjmmnaaGreatTjS
import Derived.Test.YtnhdlclicjmmnaaGreatPdD
import Derived.Test.YtnhdlclicjmmnaaGreatSR2
namespace Go.Proofs.YtnhdlclicjmmnaaGreat
open Go.RowKit
/-- One level up. -/
def levelF : List ByteArray → List ByteArray
  | a :: b :: r => nodeF a b :: levelF r
  | [a] => [a]
  | [] => []
theorem levelF_len : ∀ l : List ByteArray, (levelF l).length = (l.length + 1) / 2
  | [] => rfl
  | [_] => by simp [levelF]
  | a :: b :: r => by
    simp only [levelF, List.length_cons, levelF_len r]
    omega
def rootW (l : List ByteArray) : ByteArray := if _h : 1 < l.length then rootW (levelF l) else l.getD 0 ⟨#[]⟩
  termination_by l.length
  decreasing_by
    rw [levelF_len]
    omega
theorem rootW_up (l : List ByteArray) (h : 1 < l.length) : rootW l = rootW (levelF l) := by
  conv => lhs; rw [rootW]
  rw [dif_pos h]
theorem rootW_end (l : List ByteArray) (h : ¬ 1 < l.length) : rootW l = l.getD 0 ⟨#[]⟩ := by
  rw [rootW, dif_neg h]
def rootF (l : List ByteArray) : ByteArray := if l = [] then sumF [] else rootW l
theorem nodeF_size (a b : ByteArray) : (nodeF a b).size = 32 := sumF_size _
theorem levelF_small : ∀ (l : List ByteArray), (∀ x ∈ l, x.size ≤ 1048576) → ∀ x ∈ levelF l, x.size ≤ 1048576
  | [], _, x, h => by simp [levelF] at h
  | [y], hs, x, h => hs x h
  | a :: b :: r, hs, x, h => by
    rcases List.mem_cons.1 h with rfl | h
    · rw [nodeF_size]
      decide
    · exact levelF_small r (fun y hy => hs y (List.mem_cons_of_mem _ (List.mem_cons_of_mem _ hy))) x h
def encT (s : ByteArray) : List Value := [.string s]
theorem encT_len (s : ByteArray) : (encT s).length = 1 := rfl
theorem encT_one (s : ByteArray) : ∀ u ∈ encT s, u.oneCell' = true := by
  intro u hu
  rw [encT, List.mem_singleton] at hu
  subst hu
  rfl
abbrev TRow (w : World) (v : Value) (r : Option Nat) (l : List ByteArray) : Prop := SRow 9 1 encT w v r l
theorem TRow.cell {w : World} {g n c : Nat} {r : Option Nat} {l : List ByteArray} (h : TRow w (.slice (some ⟨g, 0, none⟩) n c) r l) (j : Nat) (x : ByteArray) (hj : l[j]? = some x) : w.cell? ⟨g, j, none⟩ = some (.string x) := by
  have := (SRow.cell h encT_len j 0 x hj (by omega) (.string x) rfl).1
  rwa [Nat.mul_one, Nat.add_zero] at this
theorem levelF_get : ∀ (l : List ByteArray) (j : Nat) (a b : ByteArray), l[2 * j]? = some a → l[2 * j + 1]? = some b → (levelF l)[j]? = some (nodeF a b)
  | [], j, a, b, h, _ => by simp at h
  | [x], j, a, b, h, h2 => by
    have := (List.getElem?_eq_some_iff.1 h2).1
    simp at this
  | x :: y :: r, 0, a, b, h, h2 => by
    simp at h h2
    rw [h, h2]
    rfl
  | x :: y :: r, j + 1, a, b, h, h2 => by
    show (levelF r)[j]? = _
    refine levelF_get r j a b ?_ ?_
    · rw [show 2 * (j + 1) = 2 * j + 1 + 1 from by omega] at h
      exact h
    · rw [show 2 * (j + 1) + 1 = 2 * j + 1 + 1 + 1 from by omega] at h2
      exact h2
theorem levelF_last : ∀ (l : List ByteArray) (j : Nat) (a : ByteArray), l.length = 2 * j + 1 → l[2 * j]? = some a → (levelF l)[j]? = some a
  | [], j, a, h, _ => by simp at h
  | [x], j, a, h, h2 => by
    obtain rfl : j = 0 := by simp at h; omega
    simpa [levelF] using h2
  | x :: y :: r, 0, a, h, _ => by simp at h
  | x :: y :: r, j + 1, a, h, h2 => by
    show (levelF r)[j]? = _
    refine levelF_last r j a (by simp at h; omega) ?_
    rw [show 2 * (j + 1) = 2 * j + 1 + 1 from by omega] at h2
    exact h2
/-- The block g holds the first j strings of u, and the strings of l from i on. -/
def Half (w : World) (g cap : Nat) (u : List ByteArray) (j : Nat) (l : List ByteArray) (i : Nat) : Prop :=
  ∃ cur : Array Value, w.heap[g]? = some (.cells cur 9 (0, 0)) ∧ cur.size = cap ∧ (∀ k, k < j → ∀ x, u[k]? = some x → cur[k]? = some (.string x)) ∧ (∀ k, i ≤ k → ∀ x, l[k]? = some x → cur[k]? = some (.string x))
theorem Half.chg {S : Nat → Prop} {w w1 : World} {g cap : Nat} {u l : List ByteArray} {i j : Nat} (h : Half w g cap u j l i) (c : Chg S w w1) (hn : ¬ S g) : Half w1 g cap u j l i := by
  obtain ⟨cur, h1, h2⟩ := h
  exact ⟨cur, c.obj h1 hn, h2⟩
theorem Half.cell {w : World} {g cap : Nat} {u l : List ByteArray} {i j : Nat} (h : Half w g cap u j l i) (k : Nat) (hk : i ≤ k) (x : ByteArray) (hx : l[k]? = some x) : w.cell? ⟨g, k, none⟩ = some (.string x) := by
  obtain ⟨cur, h1, _, _, h4⟩ := h
  rw [blkCell h1]
  exact h4 k hk x hx
theorem Half.put {w : World} {g cap : Nat} {u l : List ByteArray} {i j : Nat} (cur : Array Value) (_h1 : w.heap[g]? = some (.cells cur 9 (0, 0))) (h2 : cur.size = cap) (h3 : ∀ k, k < j → ∀ x, u[k]? = some x → cur[k]? = some (.string x)) (h4 : ∀ k, i ≤ k → ∀ x, l[k]? = some x → cur[k]? = some (.string x))
    (y : ByteArray) (hy : u[j]? = some y) (i' : Nat) (hi : i ≤ i') (hij : j < i') (hc : j < cap) :
    Half (w.setRow g (cur.toList.take (j * 1) ++ [Value.string y] ++ cur.toList.drop (j * 1 + [Value.string y].length)).toArray) g cap u (j + 1) l i' := by
  have hlen : (cur.toList.take j).length = j := by rw [List.length_take, Array.length_toList]; omega
  refine ⟨_, setRow_heap w g cur _ _ _ _h1, ?_, fun k hk x hx => ?_, fun k hk x hx => ?_⟩
  · rw [List.size_toArray]
    simp
    omega
  · rw [List.getElem?_toArray, Nat.mul_one]
    by_cases hkj : k < j
    · rw [List.append_assoc, List.getElem?_append_left (by rw [hlen]; exact hkj), List.getElem?_take, if_pos hkj, Array.getElem?_toList]
      exact h3 k hkj x hx
    · obtain rfl : k = j := by omega
      rw [List.append_assoc, List.getElem?_append_right (by rw [hlen]; omega), hlen, Nat.sub_self]
      rw [hy] at hx
      injection hx with hx
      subst hx
      rfl
  · rw [List.getElem?_toArray, Nat.mul_one, List.getElem?_append_right (by rw [List.length_append, hlen]; simp; omega), List.getElem?_drop, Array.getElem?_toList, List.length_append, hlen]
    have e : j + [Value.string y].length + (k - (j + [Value.string y].length)) = k := by simp; omega
    rw [e]
    exact h4 k (by omega) x hx
theorem Half.start {w : World} {g cap : Nat} {l : List ByteArray} (h : Half w g cap [] 0 l 0) (u : List ByteArray) : Half w g cap u 0 l 0 := by
  obtain ⟨cur, h1, h2, _, h4⟩ := h
  exact ⟨cur, h1, h2, fun k hk => absurd hk (Nat.not_lt_zero k), h4⟩
theorem Half.done {w : World} {g cap j : Nat} {u l : List ByteArray} {i : Nat} (h : Half w g cap u j l i) (hj : u.length = j) : Half w g cap [] 0 u 0 := by
  obtain ⟨cur, h1, h2, h3, _⟩ := h
  exact ⟨cur, h1, h2, fun k hk => absurd hk (Nat.not_lt_zero k), fun k _ x hx => h3 k (by have := (List.getElem?_eq_some_iff.1 hx).1; omega) x hx⟩
section
variable {ops : Array Oper} {o : Oper} {rest : List Oper} {a : Act} {K : Act → World → Prop} {Q : Exit → Act → World → Prop}
set_option maxRecDepth 100000 in
/-- One string more at the front. -/
theorem wp_half (w : World) (sl x : Operand) (ho : o.op = .call { callee := .builtin .append, args := #[sl, x], argTypes := #[25, 25] })
    (g j cap : Nat) (hs : a.eval sl = .slice (some ⟨g, 0, none⟩) j cap) (y : ByteArray) (hx : a.eval x = .slice (some ⟨w.heap.size, 0, none⟩) 1 1) (u L : List ByteArray) (i i' : Nat) (h : Half w g cap u j L i) (hy : u[j]? = some y) (hi : i ≤ i') (hij : j < i') (hc : j < cap)
    (hk : ∀ w', Half w' g cap u (j + 1) L i' → Chg (fun k => k = g) w w' → K (a.put o.dst (.slice (some ⟨g, 0, none⟩) (j + 1) cap)) w') :
    Oper.wp Tryz.prog o a (w.alloc (.cells #[.string y] 9)) K Q := by
  obtain ⟨ti, hti, hsz⟩ := Option.map_eq_some_iff.1 (show (Tryz.prog.info? 9).map (·.size) = some 1 from by kernel_rfl)
  obtain ⟨cur, h1, h2, h3, h4⟩ := h
  have h1' := blkOld h1 (.cells #[.string y] 9)
  have hr := run_append_within (P := Tryz.prog) (w.alloc (.cells #[.string y] 9)) 25 o.type 9 ti Tryz.underlying25 hti g j cap cur h1' ⟨w.heap.size, 0, none⟩ 1 1 [.string y] (by rw [hsz]; rfl) (fun k v hv => by
    match k, hv with
    | 0, hv =>
      injection hv with hv
      subst hv
      exact blkCell (blkAlloc w _) 0) (fun v hv => by
    rw [List.mem_singleton] at hv
    subst hv
    rfl) (by omega) (by rw [hsz, h2]; simp; omega)
  rw [hsz] at hr
  unfold Oper.wp execOp
  simp only [ho, resolve, invoke, builtin, Sem.run_bind, Sem.run_pure, Result.andThen_ok, List.map_toArray, List.map_cons, List.map_nil, hs, hx, hr]
  exact hk _ (Half.put cur h1' h2 h3 h4 y hy i' hi hij hc) (((Chg.refl (fun k => k = g) w).alloc _).setRow (.inl rfl) _)
theorem step_half (w : World) (hw : Region.wanted o (yielded ops a.tmps) = true) (sl x : Operand) (ho : o.op = .call { callee := .builtin .append, args := #[sl, x], argTypes := #[25, 25] })
    (g j cap : Nat) (hs : a.eval sl = .slice (some ⟨g, 0, none⟩) j cap) (y : ByteArray) (hx : a.eval x = .slice (some ⟨w.heap.size, 0, none⟩) 1 1) (u L : List ByteArray) (i i' : Nat) (h : Half w g cap u j L i) (hy : u[j]? = some y) (hi : i ≤ i') (hij : j < i') (hc : j < cap)
    (hk : ∀ w', Half w' g cap u (j + 1) L i' → Chg (fun k => k = g) w w' → K (a.put o.dst (.slice (some ⟨g, 0, none⟩) (j + 1) cap)) w') :
    if Region.wanted o (yielded ops a.tmps) = true then Oper.wp Tryz.prog o a (w.alloc (.cells #[.string y] 9)) K Q else K (a.put o.dst undef) (w.alloc (.cells #[.string y] 9)) := by
  rw [if_pos hw]
  exact wp_half w sl x ho g j cap hs y hx u L i i' h hy hi hij hc hk
theorem wpList_half (w : World) (hgd : o.guard = none) (sl x : Operand) (ho : o.op = .call { callee := .builtin .append, args := #[sl, x], argTypes := #[25, 25] })
    (g j cap : Nat) (hs : a.eval sl = .slice (some ⟨g, 0, none⟩) j cap) (y : ByteArray) (hx : a.eval x = .slice (some ⟨w.heap.size, 0, none⟩) 1 1) (u L : List ByteArray) (i i' : Nat) (h : Half w g cap u j L i) (hy : u[j]? = some y) (hi : i ≤ i') (hij : j < i') (hc : j < cap)
    (hk : ∀ w', Half w' g cap u (j + 1) L i' → Chg (fun k => k = g) w w' → wpList Tryz.prog ops Q rest (a.put o.dst (.slice (some ⟨g, 0, none⟩) (j + 1) cap)) w') :
    wpList Tryz.prog ops Q (o :: rest) a (w.alloc (.cells #[.string y] 9)) :=
  wpList_plain hgd fun _ hK => wp_half w sl x ho g j cap hs y hx u L i i' h hy hi hij hc (fun w' h c => hK _ _ (hk w' h c))
end
set_option maxRecDepth 100000 in
set_option maxHeartbeats 4000000 in
theorem Root_calls (w : World) (A : Option Addr) (c : Nat) (r : Option Nat) (l : List ByteArray) (h : TRow w (.slice A l.length c) r l) (hn : l.length ≤ 1048576) (hs : ∀ x ∈ l, x.size ≤ 1048576) :
    Calls Tryz.prog 23 #[.slice A l.length c] w fun e w' => e = .returned (.string (rootF l)) ∧ Chg (fun _ => False) w w' := by
  by_cases h0 : l = []
  · subst h0
    have C := Lib.hid (Sum_calls w none 0 0 [] ⟨by simp, fun h => absurd h (by simp)⟩ rfl (by decide))
    rw [show rootF [] = sumF [] from if_pos rfl]
    go_enter Tryz.func23, Tryz.ntmps23
    go_wp2_with (go_at_call 20; refine (C.out).mono ?_; rintro e w1 ⟨rfl, hc⟩; have G := Lib.hid hc; clear hc)
    go_ret
    exact ⟨rfl, G.out⟩
  · have hl : 0 < l.length := List.length_pos_iff.2 h0
    rw [show rootF l = rootW l from if_neg h0]
    obtain ⟨b, cur0, rfl, h9⟩ := h.at_ hl
    clear h9
    have C1 := Lib.hid (Tryz.slices_Clone_string b 0 l.length c l w (Nat.le_refl _) (by omega) (fun j hj => by
      rw [Nat.zero_add]
      have hx : l[j]? = some l[j] := List.getElem?_eq_getElem hj
      rw [TRow.cell h j _ hx, List.getD_eq_getElem?_getD, hx]
      rfl))
    have HS := Lib.hid hs
    have hlz : ((l.length : Int) == 0) = false := by simp; omega
    clear h hs h0
    go_enter Tryz.func23, Tryz.ntmps23
    go_wp2_with fail
    refine (C1.out).mono ?_
    rintro e w1 ⟨v1, rfl, hown, hne9, hbel⟩
    clear hne9
    obtain ⟨g, cap, cur, rfl, hgb, hgh, hgn, hcm, hcs, htk⟩ : ∃ g cap cur, v1 = .slice (some ⟨g, 0, none⟩) l.length cap ∧ w.heap.size ≤ g ∧ w1.heap[g]? = some (.cells cur 9 (0, 0)) ∧ l.length ≤ cap ∧ cap ≤ maxLen ∧ cur.size = cap * 1 ∧ cur.toList.take (l.length * 1) = (l.take l.length).map Value.string := by
      rcases hown.2 with ⟨_, hz⟩ | ⟨g, cap, cur, hv, hg, h1, h2, h3, h4, h5⟩
      · omega
      · exact ⟨g, cap, cur, hv, hg, h1, h2, h3, h4, h5⟩
    have HH : Hid (Half w1 g cap [] 0 l 0) := Lib.hid ⟨cur, hgh, by omega, fun k hk => absurd hk (Nat.not_lt_zero k), fun k _ x hx => by
      have hk := (List.getElem?_eq_some_iff.1 hx).1
      rw [← Array.getElem?_toList]
      have e := congrArg (fun z => z[k]?) htk
      simp only [Nat.mul_one, List.take_length, List.getElem?_map, hx, Option.map_some] at e
      rwa [List.getElem?_take, if_pos hk] at e⟩
    have HC := Lib.hid (Chg.of_below hbel (fun _ => False))
    have HGB := Lib.hid hgb
    have hcm2 : cap ≤ 9223372036854775807 := by simp only [maxLen] at hcm; omega
    clear hown hbel hgh hcs htk hcm hgb C1
    go_wp2_with fail
    go_loopw [0] (fun v wx => ∃ (L : List ByteArray), 0 < L.length ∧ L.length ≤ cap ∧ L.length ≤ 1048576 ∧ v = .slice (some ⟨g, 0, none⟩) L.length cap ∧ HD (rootW l = rootW L) ∧ HD (∀ x ∈ L, x.size ≤ 1048576) ∧ HD (Half wx g cap [] 0 L 0) ∧ HD (Chg (fun _ => False) w wx)) (fun v _ => match v with | .slice _ n _ => n | _ => 0)
    case atStart => exact ⟨l, hl, hgn, hn, rfl, ⟨rfl⟩, ⟨HS.out⟩, ⟨HH.out⟩, ⟨HC.out⟩⟩
    case round =>
      obtain ⟨L, hL0, hLc, hLn, rfl, HW, HSS, HHF, HGG⟩ := hrel
      obtain ⟨w2, rfl⟩ : ∃ w2, w2 = wr := ⟨_, rfl⟩
      by_cases hlt : 1 < L.length
      · have q1 : (1 : Int) < (L.length : Int) := by omega
        have HUP := Lib.hid (rootW_up L hlt)
        have HH1 := Lib.hid (HHF.out.start (levelF L))
        have hll := levelF_len L
        go_wp2_with fail
        go_loopw [3, 4] (fun v i wx => ∃ j : Nat, 2 * j ≤ L.length ∧ v = .slice (some ⟨g, 0, none⟩) j cap ∧ i = .int .i64 ((2 * j : Nat) : Int) ∧ HD (Half wx g cap (levelF L) j L (2 * j)) ∧ HD (Chg (fun _ => False) w wx)) (fun _ i _ => L.length - (intOf i).toNat)
        case atStart => exact ⟨0, Nat.zero_le _, rfl, rfl, ⟨HH1.out⟩, ⟨HGG.out⟩⟩
        case round =>
          obtain ⟨j, hj, rfl, rfl, HJ, HJG⟩ := hrel
          by_cases hin : 2 * j + 1 < L.length
          · obtain ⟨a, ha⟩ : ∃ a, L[2 * j]? = some a := ⟨_, List.getElem?_eq_getElem (by omega)⟩
            obtain ⟨b2, hb2⟩ : ∃ b, L[2 * j + 1]? = some b := ⟨_, List.getElem?_eq_getElem hin⟩
            have e0 := HJ.out.cell (2 * j) (Nat.le_refl _) a ha
            have e1 := HJ.out.cell (2 * j + 1) (by omega) b2 hb2
            have za := HSS.out a (List.mem_iff_getElem?.2 ⟨_, ha⟩)
            have zb := HSS.out b2 (List.mem_iff_getElem?.2 ⟨_, hb2⟩)
            have HLV := Lib.hid (levelF_get L j a b2 ha hb2)
            have C2 := Lib.hid (fun w => Node_calls w a b2 za zb)
            obtain ⟨N, hN⟩ : ∃ N, nodeF a b2 = N := ⟨_, rfl⟩
            rw [hN] at HLV C2
            obtain ⟨I, hI⟩ : ∃ I : Nat, 2 * j = I := ⟨_, rfl⟩
            rw [hI] at e0 e1 hin HJ ⊢
            have q2 : (0 : Int) ≤ (I : Int) := by omega
            have q3 : (I : Int) + 1 < (L.length : Int) := by omega
            have q4 : (I : Int) < (L.length : Int) := by omega
            have q5 : (0 : Int) ≤ (I : Int) + 1 := by omega
            have q6 : IntKind.i64.wrap ((I : Int) + 1) = (I : Int) + 1 := by rw [IntKind.wrap_i64]; omega
            have q7 : IntKind.i64.wrap ((I : Int) + 2) = (I : Int) + 2 := by rw [IntKind.wrap_i64]; omega
            have HI := Lib.hid hI
            have HIN := Lib.hid hin
            have hji : j < I + 2 := by omega
            have hjc : j < cap := by omega
            have hii : I ≤ I + 2 := by omega
            clear ha hb2 za zb hN hI
            go_wp2_with fail
            go_region_law (first
              | (refine step_half w7 rfl (.tmp 23) (.tmp 34) rfl g j cap (by simp [Act.eval]) N (by simp [Act.eval]) (levelF L) L I (I + 2) HJ7.out HLV.out hii hji hjc ?_; intro w8 hh8 hg8; have H8 := Lib.hid hh8; have G8 := Lib.hid (G7.out.trans hg8 (fun k e => .inr (by rw [e]; exact HGB.out))); clear hh8 hg8)
              | (go_simp; go_at_call 48; refine (C2.out _).mono ?_; rintro e w7 ⟨rfl, hc⟩; have HJ7 := Lib.hid (HJ.out.chg (((Chg.refl (fun _ => False) _).drew).trans hc (fun _ h => h.elim)) (fun h => h)); have G7 := Lib.hid (HJG.out.drew.trans hc (fun _ h => h.elim)); clear hc)
              | fail "NOFIT")
            all_goals
              go_wp2_with fail
              have hI := HI.out
              have hI2 := HIN.out
              exact ⟨⟨j + 1, by omega, rfl, by simp; omega, ⟨by rw [show 2 * (j + 1) = I + 2 from by omega]; exact H8.out⟩, ⟨G8.out⟩⟩, by simp [intOf]; omega⟩
          · obtain ⟨I, hI⟩ : ∃ I : Nat, 2 * j = I := ⟨_, rfl⟩
            rw [hI] at HJ hin ⊢
            have q3 : ¬ ((I : Int) + 1 < (L.length : Int)) := by omega
            have q3' : (L.length : Int) ≤ (I : Int) + 1 := by omega
            have q6 : IntKind.i64.wrap ((I : Int) + 1) = (I : Int) + 1 := by rw [IntKind.wrap_i64]; omega
            by_cases hodd : L.length % 2 = 0
            · have hmod : ((L.length : Int)).tmod 2 = 0 := by rw [Int.tmod_eq_emod_of_nonneg (by omega)]; omega
              have hfin : (levelF L).length = j := by omega
              have HD1 := Lib.hid (HJ.out.done hfin)
              have HSN := Lib.hid (levelF_small L HSS.out)
              clear hin hI
              go_wp2_with fail
              exact ⟨⟨levelF L, by omega, by omega, by omega, by rw [hfin], ⟨by rw [HW.out, HUP.out]⟩, ⟨HSN.out⟩, ⟨HD1.out⟩, ⟨HJG.out⟩⟩, by simp; omega⟩
            · have hL2 : L.length = I + 1 := by omega
              have hmod : ((L.length : Int)).tmod 2 = 1 := by rw [Int.tmod_eq_emod_of_nonneg (by omega)]; omega
              obtain ⟨y, hy⟩ : ∃ y, L[I]? = some y := ⟨_, List.getElem?_eq_getElem (by omega)⟩
              have e0 := HJ.out.cell I (Nat.le_refl _) y hy
              have HLV := Lib.hid (levelF_last L j y (by omega) (by rw [hI]; exact hy))
              have hfin : (levelF L).length = j + 1 := by omega
              have HSN := Lib.hid (levelF_small L HSS.out)
              have hji : j < I + 1 := by omega
              have hjc : j < cap := by omega
              have q7 : IntKind.i64.wrap ((L.length : Int) - 1) = (I : Int) := by rw [IntKind.wrap_i64]; omega
              have q8 : (L.length : Int) - 1 = (I : Int) := by omega
              have q9 : (I : Int) < (L.length : Int) := by omega
              have q0 : (0 : Int) ≤ (I : Int) := by omega
              have hm2 : ((I : Int) + 1) % 2 = 1 := by omega
              have hm3 : ((I : Int) + 1).tmod 2 = 1 := by rw [Int.tmod_eq_emod_of_nonneg (by omega)]; omega
              clear hin hI hy hodd
              rename_i wy _
              go_wp2_with (at_builtin; refine wpList_half _ rfl (.tmp 40) (.tmp 47) rfl g j cap rfl y rfl (levelF L) L I (I + 1) HJ.out HLV.out (Nat.le_succ _) hji hjc ?_; intro w8 hh8 hg8; have HD1 := Lib.hid (hh8.done hfin); have G8 := Lib.hid (HJG.out.trans hg8 (fun k e => .inr (by rw [e]; exact HGB.out))); clear hh8 hg8)
              exact ⟨⟨levelF L, by omega, by omega, by omega, by rw [hfin], ⟨by rw [HW.out, HUP.out]⟩, ⟨HSN.out⟩, ⟨HD1.out⟩, ⟨G8.out⟩⟩, by simp; omega⟩
      · obtain ⟨x, hx⟩ : ∃ x, L[0]? = some x := ⟨_, List.getElem?_eq_getElem hL0⟩
        have e0 := HHF.out.cell 0 (Nat.le_refl _) x hx
        have HE := Lib.hid (rootW_end L hlt)
        have hgd : L.getD 0 ⟨#[]⟩ = x := by rw [List.getD_eq_getElem?_getD, hx]; rfl
        rw [hgd] at HE
        have hl1 : L.length = 1 := by omega
        rw [hl1]
        clear hx hgd
        go_wp2_with fail
        go_ret
        exact ⟨by rw [HW.out, HE.out]; rfl, HGG.out⟩
end Go.Proofs.YtnhdlclicjmmnaaGreat
