/- TopPatched: delta's Close, where all has come. -/
import Derived.Test.YtnhdlclicjmmnaaGreatPhK
import Derived.Test.YtnhdlclicjmmnaaGreatPhC
import Derived.Laws.ResultCell
import Derived.Laws.Rows
namespace Go.Proofs.YtnhdlclicjmmnaaGreat
open Go.RowKit Go.Lib Go.Shelf
theorem Row.has {w : World} {v : Value} {r : Option Nat} {l : List UInt8} (h : Row w 5 v r l) (h0 : l ≠ []) : ∃ g cap, v = .slice (some ⟨g, 0, none⟩) l.length cap ∧ r = some g ∧ l.length ≤ cap ∧ RR w g l := by
  obtain ⟨ho, hr⟩ := h
  have hl0 : l.length ≠ 0 := by simpa using h0
  rcases ho.2 with ⟨_, hz⟩ | ⟨g, cap, cur, hv, hg0, hh, hn, hm, hsz, hc⟩
  · exact absurd hz hl0
  · refine ⟨g, cap, hv, ?_, hn, cur, (0, 0), hh, by omega, fun j b hb => ?_⟩
    · rw [← hr, hv]
      rfl
    · have h2 := ho.cells (g := g) (by rw [hv]; rfl) j (.int .u8 b.toNat) (by simp [bcells, hb])
      rw [Addr.add] at h2
      by_cases e : j = 0
      · subst e
        simpa [World.cell?, hh] using h2
      · simpa [World.cell?, hh, e] using h2
set_option maxRecDepth 100000 in
set_option maxHeartbeats 2000000 in
theorem pClose_calls (w0 w : World) (p : Nat) (old text : ByteArray) (ops : List DOp) (seen : Nat) (s : DS) (h : PI w0 w p old text ops seen s []) (hst : DStuck s) (hts : text.size ≤ 8192) (ht0 : text.size ≠ 0) :
    Calls Tryz.prog 8 #[.pointer (some ⟨p, 0, none⟩)] w fun e w' => e = .returned (.tuple #[.string text, .int .i64 0]) ∧ Chg (fun _ => False) w0 w' := by
  obtain ⟨sz, hash, hP, hB, hD⟩ := h
  obtain ⟨b1, b2, b3, b4⟩ := hD.done (hdL_len old text) hst
  obtain ⟨rfl, rfl⟩ := hB b1
  obtain ⟨begun, adds, made, wait⟩ := s
  simp only at b1 b2 b3 b4 hP
  subst b1 b2 b3 b4
  clear hD hst hB
  obtain ⟨l, hl⟩ : ∃ l, text.data.toList = l := ⟨_, rfl⟩
  rw [hl] at hP
  have hln : l.length = text.size := by rw [← hl]; exact bsize text
  have hl0 : l ≠ [] := fun e => ht0 (by rw [← hln, e]; rfl)
  have hst : strOf l = text := by rw [← hl]; exact strOf_data text
  clear hl
  obtain ⟨hb, a, v, r, ha, hc, hr, hk, hg⟩ := hP
  obtain ⟨g, cap, rfl, rfl, hcap, hrr⟩ := hr.has hl0
  have hgp : g ≠ p := fun e => hr.ne hc (by decide) (by rw [e])
  have f10 := blkFree hc 10
  have e10 : w.cell? ⟨p, 10, none⟩ = some (.bool false) := blkCell hc 10
  obtain ⟨W, hW⟩ : ∃ W, w.setCell ⟨p, 10, none⟩ (.bool true) = W := ⟨_, rfl⟩
  have cW : Chg (fun k => k = p) w W := by rw [← hW]; exact (Chg.refl (fun k => k = p) w).setCell (p := ⟨p, 10, none⟩) (.inl rfl) _
  have c0 : Chg (fun _ => False) w0 W := hg.trans cW (fun k e => .inr (by rw [e]; exact hb))
  have hcW : W.heap[p]? = some (.cells ((patC ⟨old, strOf [], text.size, sumF [text], true, ((0 : Nat) : Int), seen⟩ a (.slice (some ⟨g, 0, none⟩) l.length cap)).setIfInBounds 10 (.bool true)) 73 (0, 0)) := by rw [← hW]; exact blkSet hc 10 _
  have rW : RR W g l := hrr.chg cW hgp
  have e1 : W.cell? ⟨p, 1, none⟩ = some (.string (strOf [])) := blkCell hcW 1
  have e2 : W.cell? ⟨p, 2, none⟩ = some (.int .i64 l.length) := by rw [hln]; exact blkCell hcW 2
  have e3 : W.cell? ⟨p, 3, none⟩ = some (.string (sumF [text])) := blkCell hcW 3
  have e4 : W.cell? ⟨p, 4, none⟩ = some (.bool true) := blkCell hcW 4
  have e5 : W.cell? ⟨p, 5, none⟩ = some (.int .i64 0) := blkCell hcW 5
  have e8 : W.cell? ⟨p, 8, none⟩ = some (.slice (some ⟨g, 0, none⟩) l.length cap) := blkCell hcW 8
  have e9 : W.cell? ⟨p, 9, none⟩ = some (.int .i64 0) := blkCell hcW 9
  have CB := Lib.hid (fun (w' : World) (c : Chg (fun k => k = g) W w') => (⟨blkCell (c.obj hcW (fun e => hgp e.symm)) 3, blkCell (c.obj hcW (fun e => hgp e.symm)) 8⟩ : w'.cell? ⟨p, 3, none⟩ = some (.string (sumF [text])) ∧ w'.cell? ⟨p, 8, none⟩ = some (.slice (some ⟨g, 0, none⟩) l.length cap)))
  have CS := Lib.hid (fun (w' : World) (c : Chg (fun k => k = g) W w') (q : RR w' g l) => pstring_calls w' p g cap l (CB.out w' c).2 hcap (by omega) q hl0)
  have CL := Lib.hid (fun (w' : World) (c : w'.cell? ⟨p, 8, none⟩ = some (.slice (some ⟨g, 0, none⟩) l.length cap)) => bLen_calls w' p l.length cap (some ⟨g, 0, none⟩) c)
  have CM := Lib.hid (fun (w : World) (n : Nat) (q : StrsIn w (some ⟨n, 0, none⟩) [text]) => Sum_calls w (some ⟨n, 0, none⟩) 1 1 [text] q rfl (by show text.size + 0 ≤ _; omega))
  rw [hst] at CS
  have G0 : Hid (w0.heap.size ≤ g) := Lib.hid (hk g rfl)
  have C0 := Lib.hid c0
  have RW := Lib.hid rW
  have d0 : (ByteArray.toList (strOf []) == []) = true := wstr_eq (s := strOf []) rfl
  obtain ⟨E, hE⟩ : ∃ E, strOf [] = E := ⟨_, rfl⟩
  obtain ⟨H, hH⟩ : ∃ H, sumF [text] = H := ⟨_, rfl⟩
  rw [hE] at e1 d0
  rw [hH] at e3 CB CM
  have d2 : (H.toList == H.toList) = true := by simp
  clear ha hc hr hk hg hrr cW c0 rW hE hH hst hl0 hln ht0 hb hcW hcap
  go_enter Tryz.func8, Tryz.ntmps8
  go_wp2_with fail
  try rw [hW]
  go_region_held3 (fun w' => w'.cell? ⟨p, 1, none⟩ = some (.string E) ∧ w'.cell? ⟨p, 2, none⟩ = some (.int .i64 l.length) ∧ w'.cell? ⟨p, 4, none⟩ = some (.bool true) ∧ w'.cell? ⟨p, 5, none⟩ = some (.int .i64 0) ∧ w'.cell? ⟨p, 8, none⟩ = some (.slice (some ⟨g, 0, none⟩) l.length cap)) (first | exact ⟨e1, e2, e4, e5, e8⟩)
    (first
      | (go_at_call 34; (refine (CL.out _ (by first | exact e8 | exact (show W.cell? _ = _ from e8))).mono ?_); rintro e w5 ⟨rfl, he⟩; have he := he.symm; subst he)
      | fail "NOFIT")
  go_wp2_with fail
  obtain ⟨W1, hW1⟩ : ∃ W1, W.drew = W1 := ⟨_, rfl⟩
  have D1 : Hid (Chg (fun k => k = g) W W1) := Lib.hid (by rw [← hW1]; exact (Chg.refl _ W).drew)
  have R1 : Hid (RR W1 g l) := Lib.hid (by rw [← hW1]; exact RW.out)
  have D := Lib.hid (Chg.refl (fun k => k = g) W1)
  rw [hW1]
  clear hW1 e1 e2 e3 e4 e5 e8 e9 hW e10 f10 d0
  have CS1 := Lib.hid (CS.out W1.drew (D1.out.drew) (show RR W1.drew g l from R1.out))
  have HR := Lib.hid (show True from trivial)
  go_region_held3 (fun w' => w'.cell? ⟨p, 3, none⟩ = some (.string H)) (first | exact (CB.out _ (D1.out.trans D.out (fun _ h => .inl h))).1 | exact (CB.out _ (D1.out.trans D.out (fun _ h => .inl h)).drew).1 | exact (CB.out _ ((D1.out.trans D.out (fun _ h => .inl h)).alloc _)).1)
    (first
      | (go_at_call 35; (with_reducible refine CS1.out.mono ?_); rintro e w5 ⟨rfl, hr5, hg⟩; have D := Lib.hid ((Chg.drew (Chg.refl (fun k => k = g) W1)).trans hg (fun _ h => .inl h)); have R5 := Lib.hid hr5; clear hg hr5)
      | (go_at_call 20; refine (CM.out _ _ (by first | exact strsIn1 _ _ | exact strsIn1d _ _)).mono ?_; rintro e w6 ⟨rfl, hg⟩; have D6 := Lib.hid (Chg.trans (S' := fun _ => False) ((Chg.refl (fun _ => False) w5).alloc _) hg (fun _ h => h.elim)); have R6 := Lib.hid (R5.out.chg D6.out (fun h => h)); have D := Lib.hid (D.out.trans D6.out (fun _ h => h.elim)); clear hg)
      | fail "NOFIT")
  all_goals
    go_wp2_with fail
    have DF := Lib.hid (D1.out.trans D.out (fun _ h => .inl h))
    refine (CS.out w6 DF.out R6.out).mono ?_
    rintro e w7 ⟨rfl, _, hg⟩
    have DG := Lib.hid (DF.out.trans hg (fun _ h => .inl h))
    clear hg
    go_wp2_with fail
    go_ret2
    exact ⟨rfl, C0.out.trans DG.out (fun k e => .inr (by rw [e]; exact G0.out))⟩
end Go.Proofs.YtnhdlclicjmmnaaGreat
/- TopPatched: bill's Make: what stands between two rounds of its range. -/
namespace Go.Proofs.YtnhdlclicjmmnaaGreat
open Go.RowKit Go.Lib Go.Shelf
theorem Chg.putO (w : World) (g : Nat) (o : Obj) : Chg (fun k => k = g) w (w.putObj g o) :=
  ⟨rfl, rfl, rfl, by simp [World.putObj], fun k _ hk => World.putObj_heap_other (fun e => hk e)⟩
/-- The k-th chunk's bytes; the leaves of the first k chunks. -/
def chB (x : ByteArray) (k : Nat) : ByteArray := strOf ((x.data.toList.drop (k * 128)).take 128)
def lvT (x : ByteArray) (k : Nat) : List ByteArray := (List.range k).map fun j => tleafF (chB x j)
theorem lvT_len (x : ByteArray) (k : Nat) : (lvT x k).length = k := by simp [lvT]
theorem lvT_succ (x : ByteArray) (k : Nat) : lvT x (k + 1) = lvT x k ++ [tleafF (chB x k)] := by simp [lvT, List.range_succ]
theorem chB_size (x : ByteArray) (k : Nat) : (chB x k).size = min 128 (x.size - k * 128) := by
  unfold chB
  rw [strOf_size, List.length_take, List.length_drop, bsize]
theorem tleafF_size (s : ByteArray) : (tleafF s).size = 32 := sumF_size _
theorem lvT_small (x : ByteArray) (k : Nat) : ∀ y ∈ lvT x k, y.size = 32 := by
  intro y hy
  obtain ⟨j, _, rfl⟩ := List.mem_map.1 hy
  exact tleafF_size _
theorem RR.conv {W : World} {g : Nat} {x : ByteArray} (h : RR W g x.data.toList) (k : Nat) : (convert 22 9 (chunkV g 128 x.size k)).run Tryz.prog W = .ok (.string (chB x k)) W := by
  obtain ⟨cur, fr, hh, _, hc⟩ := h
  have hl : ((x.data.toList.drop (k * 128)).take 128).length = min 128 (x.size - k * 128) := by rw [List.length_take, List.length_drop, bsize]
  unfold chunkV
  rw [← hl]
  refine run_convert_bytes_back W 22 9 5 ⟨g, k * 128, none⟩ _ _ Tryz.underlying22 Tryz.underlying5 Tryz.underlying9 (fun j hj => ?_)
  have hj2 : x.data.toList[k * 128 + j]? = some ((x.data.toList.drop (k * 128)).take 128)[j] := by
    have e := List.getElem?_eq_getElem hj
    rw [List.getElem?_take_of_lt (by rw [hl] at hj; omega), List.getElem?_drop] at e
    exact e
  have h3 := hc (k * 128 + j) _ hj2
  rw [Addr.add]
  by_cases e : j = 0
  · subst e
    simpa [World.cell?, hh] using h3
  · simpa [World.cell?, hh, e] using h3
/-- Between two rounds: k leaves stand in the bill. -/
def BI (w : World) (b8 g s1 s2 rb D C : Nat) (x : ByteArray) (k : Nat) (W : World) : Prop :=
  ∃ A cap r, W.heap[b8]? = some (.cells #[.int .i64 1, .int .i64 x.size, .int .i64 128, .string (sumF [x]), .string ⟨#[]⟩, .slice A (lvT x k).length cap] 27 (0, 0)) ∧ TRow W (.slice A (lvT x k).length cap) r (lvT x k) ∧
    (∀ j, r = some j → w.heap.size ≤ j ∧ j ≠ D ∧ j ≠ D + 1) ∧ RR W g x.data.toList ∧ CkSt s1 s2 g x.size C 128 W ∧ W.heap[rb]? = some (.cells #[.int .i64 0, .int .i64 0, .int .i64 0, .string ⟨#[]⟩, .string ⟨#[]⟩, .slice none 0 0] 27 (0, 0)) ∧ Chg (fun _ => False) w W
/-- Blocks that aren't touched. -/
theorem BI.chg {w W W1 : World} {b8 g s1 s2 rb D C k j : Nat} {x : ByteArray} (h : BI w b8 g s1 s2 rb D C x k W) (c : Chg (fun i => i = j) W W1) (hw : w.heap.size ≤ j) (hj : j = D + 1) (h1 : j ≠ b8) (h2 : j ≠ g) (h3 : j ≠ s1) (h4 : j ≠ s2) (h5 : j ≠ rb) : BI w b8 g s1 s2 rb D C x k W1 := by
  obtain ⟨A, cap, r, q1, q2, q3, q4, ⟨q5, q6⟩, q7, q8⟩ := h
  exact ⟨A, cap, r, c.obj q1 (fun e => h1 e.symm), q2.chg c (fun i hi e => (q3 i hi).2.2 (e.trans hj)), q3, q4.chg c (fun e => h2 e.symm), ⟨c.obj q5 (fun e => h3 e.symm), c.obj q6 (fun e => h4 e.symm)⟩, c.obj q7 (fun e => h5 e.symm), q8.trans c (fun i e => .inr (by rw [e]; exact hw))⟩
theorem BI.kept {w W W1 : World} {b8 g s1 s2 rb D C k : Nat} {x : ByteArray} (h : BI w b8 g s1 s2 rb D C x k W) (c : Chg (fun _ => False) W W1) : BI w b8 g s1 s2 rb D C x k W1 := by
  obtain ⟨A, cap, r, q1, q2, q3, q4, ⟨q5, q6⟩, q7, q8⟩ := h
  exact ⟨A, cap, r, c.obj q1 (fun h => h), q2.chg c (fun _ _ h => h), q3, q4.chg c (fun h => h), ⟨c.obj q5 (fun h => h), c.obj q6 (fun h => h)⟩, c.obj q7 (fun h => h), q8.trans c (fun _ h => h.elim)⟩
theorem rr_ne {W : World} {v : Value} {r : Option Nat} {l : List ByteArray} {g : Nat} {bs : List UInt8} (h : TRow W v r l) (q : RR W g bs) : r ≠ some g := fun e => by
  obtain ⟨_, cs, hc⟩ := SRow.lt h e
  obtain ⟨cur, fr, hh, _⟩ := q
  rw [hc] at hh
  have := (Obj.cells.inj (Option.some.inj hh)).2.1
  exact absurd this (by decide)
/-- A leaf more: behind the append and the store. -/
theorem BI.more {w W W5 W6 : World} {b8 g s1 s2 rb D C k : Nat} {x : ByteArray} {A : Option Addr} {cap : Nat} {r : Option Nat}
    (q1 : W.heap[b8]? = some (.cells #[.int .i64 1, .int .i64 x.size, .int .i64 128, .string (sumF [x]), .string ⟨#[]⟩, .slice A (lvT x k).length cap] 27 (0, 0))) (q2 : TRow W (.slice A (lvT x k).length cap) r (lvT x k))
    (q3 : ∀ j, r = some j → w.heap.size ≤ j ∧ j ≠ D ∧ j ≠ D + 1) (q4 : RR W g x.data.toList) (q5 : CkSt s1 s2 g x.size C 128 W) (q7 : W.heap[rb]? = some (.cells #[.int .i64 0, .int .i64 0, .int .i64 0, .string ⟨#[]⟩, .string ⟨#[]⟩, .slice none 0 0] 27 (0, 0))) (q8 : Chg (fun _ => False) w W)
    (hb : w.heap.size ≤ b8) (hrb : b8 ≠ rb) (hD : D + 1 < W.heap.size) (c5 : Chg (fun _ => False) W W5) {o : Obj} {A1 : Option Addr} {cp1 : Nat} {r1 : Option Nat} (hrow : TRow W6 (.slice A1 (lvT x (k + 1)).length cp1) r1 (lvT x (k + 1))) (hn : Next W5 r r1) (hg : (W5.alloc o).grownBy W6 r) :
    BI w b8 g s1 s2 rb D C x (k + 1) (W6.setCell ⟨b8, 5, none⟩ (.slice A1 (lvT x (k + 1)).length cp1)) ∧ Chg (fun j => j = b8 ∨ r = some j) W (W6.setCell ⟨b8, 5, none⟩ (.slice A1 (lvT x (k + 1)).length cp1)) := by
  have c6 : Chg (fun j => r = some j) W W6 := (c5.mono (S' := fun j => r = some j) (fun _ h => h.elim)).trans (((Chg.refl (fun j => r = some j) W5).alloc o).grown hg (fun _ h => .inl h)) (fun _ h => .inl h)
  have nb := SRow.ne q2 q1 (by decide)
  have ng : r ≠ some g := fun e => by
    obtain ⟨_, cs, hc⟩ := SRow.lt q2 e
    obtain ⟨cur, fr, hh, _⟩ := q4
    rw [hc] at hh
    have := (Obj.cells.inj (Option.some.inj hh)).2.1
    exact absurd this (by decide)
  have n1 := SRow.ne q2 q5.1 (by decide)
  have n2 := SRow.ne q2 q5.2 (by decide)
  have nr := SRow.ne q2 q7 (by decide)
  have b1 := c6.obj q1 nb
  have hgb : g ≠ b8 := fun e => by
    obtain ⟨cur, fr, hh, _⟩ := q4
    rw [e, q1] at hh
    have := (Obj.cells.inj (Option.some.inj hh)).2.1
    exact absurd this (by decide)
  have e1 : s1 ≠ b8 := blkNe q5.1 q1 (by decide)
  have e2 : s2 ≠ b8 := blkNe q5.2 q1 (by decide)
  have c7 : Chg (fun j => j = b8) W6 (W6.setCell ⟨b8, 5, none⟩ (.slice A1 (lvT x (k + 1)).length cp1)) := (Chg.refl (fun j => j = b8) W6).setCell (p := ⟨b8, 5, none⟩) (.inl rfl) _
  have n6 := SRow.ne hrow b1 (by decide)
  refine ⟨⟨A1, cp1, r1, by simpa using blkSet b1 5 (.slice A1 (lvT x (k + 1)).length cp1), hrow.chg c7 (fun j hj e => n6 (by rw [hj, e])), fun j hj => ?_, (q4.chg c6 (fun e => ng e)).chg c7 hgb, ⟨c7.obj (c6.obj q5.1 n1) e1, c7.obj (c6.obj q5.2 n2) e2⟩, c7.obj (c6.obj q7 nr) (fun e => hrb e.symm), (q8.trans c6 (fun j hj => .inr (q3 j hj).1)).trans c7 (fun j e => .inr (by rw [e]; exact hb))⟩, (c6.mono (fun j h => .inl (.inr h))).trans c7 (fun j h => .inl (.inl h))⟩
  rcases hn.mem hj with h | h
  · exact q3 j h
  · have := c5.size
    have := q8.size
    omega
theorem levelF_32 : ∀ (l : List ByteArray), (∀ x ∈ l, x.size = 32) → ∀ x ∈ levelF l, x.size = 32
  | [], _, x, h => by simp [levelF] at h
  | [y], hs, x, h => hs x h
  | a :: b :: r, hs, x, h => by
    rcases List.mem_cons.1 h with rfl | h
    · exact nodeF_size _ _
    · exact levelF_32 r (fun y hy => hs y (List.mem_cons_of_mem _ (List.mem_cons_of_mem _ hy))) x h
theorem rootW_32 : ∀ (n : Nat) (l : List ByteArray), l.length ≤ n → l ≠ [] → (∀ x ∈ l, x.size = 32) → (rootW l).size = 32
  | 0, l, hn, h0, _ => absurd (List.length_eq_zero_iff.1 (by omega)) h0
  | n + 1, l, hn, h0, hs => by
    by_cases h1 : 1 < l.length
    · rw [rootW_up l h1]
      have hlen := levelF_len l
      exact rootW_32 n _ (by omega) (fun e => by rw [e] at hlen; simp only [List.length_nil] at hlen; omega) (levelF_32 l hs)
    · rw [rootW_end l h1]
      cases l with
      | nil => exact absurd rfl h0
      | cons a r => exact hs a (List.mem_cons_self ..)
theorem rootF_32 (l : List ByteArray) (h0 : l ≠ []) (hs : ∀ x ∈ l, x.size = 32) : (rootF l).size = 32 := by
  unfold rootF
  rw [if_neg h0]
  exact rootW_32 l.length l (Nat.le_refl _) h0 hs
theorem cntF_chunkN (L c : Nat) (h : 1 ≤ L) : cntF (L : Int) (c : Int) = (chunkN L c : Int) := by
  unfold cntF chunkN
  have : (L : Int) + c - 1 = ((L + c - 1 : Nat) : Int) := by omega
  rw [this]
  exact (Int.natCast_ediv _ _).symm
/-- What Make made is good. -/
theorem checkE_made (x : ByteArray) (h0 : 1 ≤ x.size) (h1 : x.size ≤ 8192) : checkE 1 x.size 128 (sumF [x]) (rootF (lvT x (chunkN x.size 128))) (lvT x (chunkN x.size 128)) = 0 := by
  have hN : 0 < chunkN x.size 128 := (chunkN_lt (by decide)).2 (by omega)
  have hne : lvT x (chunkN x.size 128) ≠ [] := fun e => by
    have := congrArg List.length e
    rw [lvT_len] at this
    simp only [List.length_nil] at this
    omega
  have hr := rootF_32 _ hne (lvT_small x _)
  have hb : badB 1 x.size 128 (sumF [x]) (rootF (lvT x (chunkN x.size 128))) = false := by
    have p : partN 128 = true := by decide
    have s : (sumF [x]).size = 32 := sumF_size _
    simp only [badB, p, s, hr]
    simp
    omega
  have hl : badL x.size 128 (rootF (lvT x (chunkN x.size 128))) (lvT x (chunkN x.size 128)) = false := by
    have c := cntF_chunkN x.size 128 h0
    have a : (lvT x (chunkN x.size 128)).any badC = false := by
      rw [List.any_eq_false]
      intro y hy
      simp [badC, lvT_small x _ y hy]
    simp only [badL, a, lvT_len]
    rw [show ((128 : Int)) = ((128 : Nat) : Int) from rfl, c]
    simp
  unfold checkE
  rw [if_neg (by rw [hb]; decide), if_neg (by rw [lvT_len]; omega), if_neg (by rw [hl]; decide)]
theorem results_cell_rowB {P : Program} {fn : Func} {p u : Tmp} {ty : TypeId} (h : fn.results = #[.cell p ty, .tmp u]) (tmps : Array Value) (w : World) (g : Nat) (t : TypeId) (cs : Array Value) (fr : Nat × Nat) (d : TypeDesc)
    (hp : tmps.getD p undef = .pointer (some ⟨g, 0, none⟩)) (hg : w.heap[g]? = some (.cells cs t fr))
    (hu : P.underlying ty = some d) (hd : (match d with | .struct _ | .array _ _ => true | _ => false) = true) (hi : (P.info? ty).map (·.size) = some cs.size) :
    (results fn tmps).run P w = .ok (.tuple #[.agg cs, tmps.getD u undef]) w := by
  rw [results_cell_tmp h, hp]
  simp [asAddr, Sem.run, run_loadVar_row w g t ty cs fr d hg hu hd hi, Result.andThen]
end Go.Proofs.YtnhdlclicjmmnaaGreat
