/- TopPatched: delta's Make: its map of places; writers beside maps; HasPrefix. -/
import Derived.Test.YtnhdlclicjmmnaaGreatPhE
import Derived.Test.YtnhdlclicjmmnaaGreatPfA
import Derived.Test.YtnhdlclicjmmnaaGreatPhK
namespace Go.Proofs.YtnhdlclicjmmnaaGreat
open Go.RowKit Go.Lib Go.Shelf Go.Maps
/-! ### The places -/
/-- D tells places of the old text alone. -/
structure Places (old : ByteArray) (D : DataW Unit) : Prop where
  tidy : Tidy D
  ok : ∀ k : Lit, Maps.has D k = true → ∃ i : Nat, i + 16 ≤ old.size ∧ k = .string (old.extract i (i + 16)).data.toList ∧ ∀ z, D.atKey k z = .lit (.int .i64 i)
theorem Places.nil (old : ByteArray) : Places old (.map []) := ⟨tidy_empty, fun k h => by cases h⟩
theorem strKey (l : List UInt8) : WideAt.IsKeyLit (.string l) := trivial
theorem Places.put {old : ByteArray} {D : DataW Unit} (h : Places old D) (i : Nat) (hi : i + 16 ≤ old.size) : Places old (D.put (.string (old.extract i (i + 16)).data.toList) (.lit (.int .i64 i))) := by
  refine ⟨h.tidy.put (strKey _) _, fun k hk => ?_⟩
  by_cases e : k = .string (old.extract i (i + 16)).data.toList
  · subst e
    exact ⟨i, hi, rfl, fun z => atKey_put_same h.tidy.isMap (strKey _) _ z⟩
  · rw [has_put_other e] at hk
    obtain ⟨j, h1, h2, h3⟩ := h.ok k hk
    exact ⟨j, h1, h2, fun z => (atKey_put_other e _ z).trans (h3 z)⟩
theorem Places.size {old : ByteArray} {D : DataW Unit} (h : Places old D) (k : List UInt8) (d : DataW Unit) : Maps.size (D.put (.string k) d) ≤ Maps.size D + 1 := by
  rw [size_put h.tidy]
  split <;> omega
theorem intElem (n : Nat) (hn : n ≤ 1048576) : plainElem (H := Unit) Tryz.prog 3 (.int .i64 n) = some (.lit (.int .i64 n), []) :=
  plainElem_int Tryz.underlying3 (by simp only [Lit.wf, IntKind.min, IntKind.max, IntKind.bits, IntKind.signed]; simp; omega)
theorem plainI_inv {P : Program} {e : TypeId} (he : P.underlying e = some (.int .i64)) {v : Value} {z : DataW Unit × List MemPlace} (h : plainElem P e v = some z) : ∃ n : Int, v = .int .i64 n ∧ z = (.lit (.int .i64 n), []) := by
  unfold plainElem at h
  rw [he] at h
  cases v <;> simp at h
  obtain ⟨⟨rfl, _⟩, rfl⟩ := h
  exact ⟨_, rfl, rfl⟩
theorem intElem_inv {v : Value} {z : DataW Unit × List MemPlace} (h : plainElem Tryz.prog 3 v = some z) : ∃ n : Int, v = .int .i64 n ∧ z = (.lit (.int .i64 n), []) := plainI_inv Tryz.underlying3 h
theorem zeroInt (w : World) : (zeroValue 3).run Tryz.prog w = .ok (.int .i64 0) w := by kernel_rfl
/-- Block m is a map of places of the old text, of at most c of them. -/
def PMap (w : World) (m : Nat) (old : ByteArray) (c : Nat) : Prop := ∃ D : DataW Unit, Maps.size D ≤ c ∧ Places old D ∧ w.ownsMap Tryz.prog 9 (plainElem Tryz.prog 3) m (Maps.size D) D
theorem PMap.obj {w : World} {m c : Nat} {old : ByteArray} (h : PMap w m old c) : ∃ es cl, w.heap[m]? = some (.map es cl) := by
  obtain ⟨D, _, _, es, cl, hb, _⟩ := h
  exact ⟨es, cl, hb⟩
theorem PMap.lt {w : World} {m c : Nat} {old : ByteArray} (h : PMap w m old c) : m < w.heap.size := by
  obtain ⟨D, _, _, h⟩ := h
  exact World.ownsMap.lt h
theorem PMap.same {w w1 : World} {m c : Nat} {old : ByteArray} (h : PMap w m old c) (hs : ∀ es cl, w.heap[m]? = some (.map es cl) → w1.heap[m]? = some (.map es cl)) : PMap w1 m old c := by
  obtain ⟨D, h1, h2, es, clock, hb, F, h3, hD⟩ := h
  exact ⟨D, h1, h2, es, clock, hs _ _ hb, F, h3, hD⟩
theorem PMap.chg {S : Nat → Prop} {w w1 : World} {m c : Nat} {old : ByteArray} (h : PMap w m old c) (g : Chg S w w1) (hm : ¬ S m) : PMap w1 m old c := h.same fun _ _ hb => g.obj hb hm
theorem PMap.made (w : World) (old : ByteArray) : PMap (w.alloc (.map #[] 0)) w.heap.size old 0 := by
  have := own_tight (World.ownsMap_made w (P := Tryz.prog) (k := 9) (R := plainElem (H := Unit) Tryz.prog 3))
  exact ⟨.map [], Nat.le_refl _, Places.nil old, this⟩
/-- A place laid. -/
theorem PMap.put {w : World} {m c : Nat} {old : ByteArray} (h : PMap w m old c) (i : Nat) (hi : i + 16 ≤ old.size) (hos : old.size ≤ 8192) (hc : c ≤ 8192) :
    ∃ w', (Instr.mapUpdate 66 (.map (some m)) (.string (old.extract i (i + 16))) (.int .i64 i)).run Tryz.prog w = .ok () w' ∧ PMap w' m old (c + 1) ∧ Chg (fun j => j = m) w w' := by
  obtain ⟨D, h1, h2, h3⟩ := h
  obtain ⟨w', hr, ho, hg⟩ := World.ownsMap.update (t := 66) (e := 3) h3 law9 Tryz.underlying66 (by simp only [maxLen]; omega) (key := .string (old.extract i (i + 16))) (kl := .string (old.extract i (i + 16)).data.toList) (WideMaps.keyOf_string_mk Tryz.underlying9 (by rw [ByteArray.size_extract]; simp only [maxLen]; omega)) (intElem i (by omega))
  exact ⟨w', hr, ⟨_, Nat.le_trans (h2.size _ _) (by omega), h2.put i hi, own_tight ho⟩, Chg.of_grown hg (fun k e => by injection e with e; exact .inl e.symm)⟩
/-- A place looked for: none, or a place where the text stands. -/
theorem PMap.look {w : World} {m c : Nat} {old : ByteArray} (h : PMap w m old c) (k : ByteArray) (hk : k.size ≤ 1000000) :
    ∃ (i : Int) (b : Bool), (Instr.lookup 66 (.map (some m)) (.string k) true).run Tryz.prog w = .ok (.tuple #[.int .i64 i, .bool b]) w ∧ (b = true → ∃ j : Nat, i = j ∧ j + 16 ≤ old.size ∧ k = old.extract j (j + 16)) := by
  obtain ⟨D, h1, h2, h3⟩ := h
  obtain ⟨v, ps, hr, hv⟩ := World.ownsMap.look_ok (t := 66) (e := 3) h3 law9 Tryz.underlying66 (zeroInt w) (intElem 0 (by decide)) (key := .string k) (kl := .string k.data.toList) (WideMaps.keyOf_string_mk Tryz.underlying9 (by simp only [maxLen]; omega))
  obtain ⟨n, rfl, hn⟩ := intElem_inv hv
  refine ⟨n, _, hr, fun hb => ?_⟩
  obtain ⟨j, g1, g2, g3⟩ := h2.ok _ hb
  rw [g3] at hn
  simp only [Prod.mk.injEq, DataW.lit.injEq, Lit.int.injEq] at hn
  refine ⟨j, hn.1.2.symm, g1, WideShapes.bytes_inj ?_⟩
  injection g2
end Go.Proofs.YtnhdlclicjmmnaaGreat
/- TopPatched: delta's Make: what it has laid (MkW); its closure; HasPrefix. -/
namespace Go.Proofs.YtnhdlclicjmmnaaGreat
open Go.RowKit Go.Lib Go.Shelf Go.Maps
/-- A writer of one's own with the bytes l, what waits (in the box X), the map of places. -/
structure MkW (w0 w : World) (b X m : Nat) (old : ByteArray) (l rest : List UInt8) : Prop where
  wr : Wo w0 w b (l, false)
  rs : w.heap[X]? = some (.cells #[.string (strOf rest)] 9 (0, 0))
  pm : PMap w m old 8192
  hX : w0.heap.size ≤ X
theorem MkW.step {w0 w w' : World} {b X m : Nat} {old : ByteArray} {l l' rest : List UInt8} (h : MkW w0 w b X m old l rest) {f : FuncId} {args : Array Value} {E : Ending}
    (C : ∀ r, WrAt w 63 b r l false → Calls Tryz.prog f args w fun e w' => e = E ∧ ∃ r', WrAt w' 63 b r' l' false ∧ Next w r r' ∧ Chg (fun k => k = b ∨ r = some k) w w') :
    Calls Tryz.prog f args w fun e w' => e = E ∧ MkW w0 w' b X m old l' rest := by
  obtain ⟨h1, r, h2, h3, h4⟩ := h.wr
  refine (C r h2).mono fun e w' ⟨he, r', hw, hn, hg⟩ => ⟨he, ?_⟩
  obtain ⟨g1, g2⟩ := wo_step (s' := (l', false)) h1 h2 h3 h4 hw hn hg
  refine ⟨g1, g2 X _ _ h.rs (by decide) (by decide), h.pm.same fun es cl hm => hg.obj hm fun hh => ?_, h.hX⟩
  obtain ⟨A, q, c, hv1, hv2⟩ := h2
  rcases hh with rfl | hh
  · rw [hv1] at hm
    cases hm
  · obtain ⟨_, cs, hc⟩ := hv2.lt hh
    rw [hc] at hm
    cases hm
theorem mk_num {w0 w : World} {b X m : Nat} {old : ByteArray} {l rest : List UInt8} (h : MkW w0 w b X m old l rest) {f : FuncId} {x : Int} {n : Nat} (hx : fits x n)
    (C : ∀ r, WrAt w 63 b r l false → Calls Tryz.prog f #[.pointer (some ⟨b, 0, none⟩), .int .i64 x] w fun e w' => e = .returned (.tuple #[]) ∧ ∃ r', WrAt w' 63 b r' (numW (l, false) x n).1 (numW (l, false) x n).2 ∧ Next w r r' ∧ Chg (fun k => k = b ∨ r = some k) w w') :
    Calls Tryz.prog f #[.pointer (some ⟨b, 0, none⟩), .int .i64 x] w fun e w' => e = .returned (.tuple #[]) ∧ MkW w0 w' b X m old (l ++ numBytes x n) rest := by
  rw [numW_ok l x n hx] at C
  exact h.step (w' := w) C
theorem mk_Byte {w0 w : World} {b X m : Nat} {old : ByteArray} {l rest : List UInt8} (h : MkW w0 w b X m old l rest) (x : Int) (hx : fits x 1) (hl : l.length ≤ 1048576) :
    Calls Tryz.prog 28 #[.pointer (some ⟨b, 0, none⟩), .int .i64 x] w fun e w' => e = .returned (.tuple #[]) ∧ MkW w0 w' b X m old (l ++ numBytes x 1) rest :=
  mk_num h hx fun r hr => wByte_calls w b r (l, false) x hr (by show l.length + 8 ≤ _; omega)
theorem mk_Two {w0 w : World} {b X m : Nat} {old : ByteArray} {l rest : List UInt8} (h : MkW w0 w b X m old l rest) (x : Int) (hx : fits x 2) (hl : l.length ≤ 1048576) :
    Calls Tryz.prog 31 #[.pointer (some ⟨b, 0, none⟩), .int .i64 x] w fun e w' => e = .returned (.tuple #[]) ∧ MkW w0 w' b X m old (l ++ numBytes x 2) rest :=
  mk_num h hx fun r hr => wTwo_calls w b r (l, false) x hr (by show l.length + 8 ≤ _; omega)
theorem mk_Four {w0 w : World} {b X m : Nat} {old : ByteArray} {l rest : List UInt8} (h : MkW w0 w b X m old l rest) (x : Int) (hx : fits x 4) (hl : l.length ≤ 1048576) :
    Calls Tryz.prog 25 #[.pointer (some ⟨b, 0, none⟩), .int .i64 x] w fun e w' => e = .returned (.tuple #[]) ∧ MkW w0 w' b X m old (l ++ numBytes x 4) rest :=
  mk_num h hx fun r hr => wFour_calls w b r (l, false) x hr (by show l.length + 8 ≤ _; omega)
theorem mk_Text {w0 w : World} {b X m : Nat} {old : ByteArray} {l rest : List UInt8} (h : MkW w0 w b X m old l rest) (t : ByteArray) (ht : t.size ≤ 65535) (hl : l.length ≤ 1048576) :
    Calls Tryz.prog 29 #[.pointer (some ⟨b, 0, none⟩), .string t] w fun e w' => e = .returned (.tuple #[]) ∧ MkW w0 w' b X m old (l ++ (numBytes (t.size : Int) 2 ++ t.data.toList)) rest := by
  have C := fun (r : Option Nat) (hr : WrAt w 63 b r l false) => wText_calls w b r (l, false) t hr (by show l.length + t.size + 8 ≤ _; omega)
  rw [wtextW_ok l t ht] at C
  exact h.step (w' := w) C
theorem MkW.put {w0 w : World} {b X m : Nat} {old : ByteArray} {l rest : List UInt8} (h : MkW w0 w b X m old l rest) (r2 : List UInt8) : MkW w0 (w.setCell ⟨X, 0, none⟩ (.string (strOf r2))) b X m old l r2 := by
  have g : Chg (fun k => k = X) w (w.setCell ⟨X, 0, none⟩ (.string (strOf r2))) := (Chg.refl (fun k => k = X) w).setCell (p := ⟨X, 0, none⟩) (.inl rfl) _
  obtain ⟨h1, r, h2, h3, h4⟩ := h.wr
  refine ⟨⟨h1, r, h2.chg g (fun e => ?_) (fun k hk e => ?_), h3, h4.trans g (fun k e => .inr (by rw [e]; exact h.hX))⟩, by simpa using blkSet h.rs 0 (.string (strOf r2)), h.pm.same fun es cl hm => g.obj hm (fun e => ?_), h.hX⟩
  · obtain ⟨A, q, c, hv1, _⟩ := h2
    exact blkNe hv1 h.rs (by decide) e
  · subst e
    exact h2.rne (by decide) h.rs (by decide) hk
  · rw [e, h.rs] at hm
    cases hm
theorem MkW.drew {w0 w : World} {b X m : Nat} {old : ByteArray} {l rest : List UInt8} (h : MkW w0 w b X m old l rest) : MkW w0 w.drew b X m old l rest :=
  ⟨h.wr.kept ((Chg.refl _ w).drew), h.rs, h.pm.chg ((Chg.refl (fun _ => False) w).drew) (fun h => h), h.hX⟩
theorem add_enc (rest : List UInt8) : (DOp.add rest).enc = numBytes (2 : Int) 1 ++ (numBytes ((strOf rest).size : Int) 2 ++ (strOf rest).data.toList) := by
  rw [strOf_size, strOf_list]
  rfl
set_option maxHeartbeats 1000000 in
theorem addC_calls (w0 w : World) (b X m : Nat) (old : ByteArray) (l rest : List UInt8) (h : MkW w0 w b X m old l rest) (hr : rest.length ≤ 65535) (hl : l.length ≤ 1000000) :
    Calls Tryz.prog 27 #[.pointer (some ⟨X, 0, none⟩), .pointer (some ⟨b, 0, none⟩)] w fun e w' => e = .returned (.tuple #[]) ∧ MkW w0 w' b X m old (l ++ if rest = [] then [] else (DOp.add rest).enc) [] := by
  have e0 : w.cell? ⟨X, 0, none⟩ = some (.string (strOf rest)) := blkCell h.rs 0
  have H := Lib.hid h
  by_cases h0 : rest = []
  · subst h0
    have d0 : (ByteArray.toList (strOf []) == []) = true := wstr_eq (s := strOf []) rfl
    rw [if_pos rfl, List.append_nil]
    obtain ⟨E, hE⟩ : ∃ E, strOf [] = E := ⟨_, rfl⟩
    rw [hE] at e0 d0
    clear h
    go_enter Tryz.func27, Tryz.ntmps27
    go_wp2_with fail
    go_end0
    exact ⟨rfl, H.out⟩
  · rw [if_neg h0, add_enc]
    have hsz : (strOf rest).size ≤ 65535 := by rw [strOf_size]; exact hr
    have d0 := wstr_ne (s := strOf rest) (by rw [strOf_size]; exact fun e => h0 (List.length_eq_zero_iff.1 e))
    obtain ⟨E, hE⟩ : ∃ E, strOf rest = E := ⟨_, rfl⟩
    rw [hE] at e0 d0 hsz ⊢
    have HE := Lib.hid hE
    clear h hE
    go_enter Tryz.func27, Tryz.ntmps27
    go_wp2_with fail
    refine (mk_Byte H.out 2 ⟨by decide, fun _ => by decide⟩ (by omega)).mono ?_
    rintro e w1 ⟨rfl, h1⟩
    have e1 : w1.cell? ⟨X, 0, none⟩ = some (.string (strOf rest)) := blkCell h1.rs 0
    rw [HE.out] at e1
    have H1 := Lib.hid h1
    clear h1 e0
    go_wp2_with fail
    refine (mk_Text H1.out E hsz (by rw [List.length_append, numBytes_len]; omega)).mono ?_
    rintro e w2 ⟨rfl, h2⟩
    have e2 : w2.cell? ⟨X, 0, none⟩ = some (.string (strOf rest)) := blkCell h2.rs 0
    have f2 := blkFree h2.rs 0
    have H2 := Lib.hid h2
    clear h2 e1
    go_wp2_with fail
    go_end0
    have := H2.out.put []
    rw [List.append_assoc] at this
    exact ⟨rfl, this⟩
theorem ihp_calls (w : World) (s t : ByteArray) :
    Calls Tryz.prog 53 #[.string s, .string t] w fun e w' => ∃ b, e = .returned (.bool b) ∧ w' = w ∧ (b = true → t.size ≤ s.size ∧ s.extract 0 t.size = t) := by
  by_cases h : t.size ≤ s.size
  · have q0 : (t.size : Int) ≤ (s.size : Int) := by omega
    have q1 : (0 : Int) ≤ (t.size : Int) := by omega
    have HF : Hid (((s.extract 0 t.size).toList == t.toList) = true → s.extract 0 t.size = t) := Lib.hid (fun e => by
      rw [ByteArray.toList_eq, ByteArray.toList_eq, beq_iff_eq] at e
      exact WideShapes.bytes_inj e)
    go_enter Tryz.func53, Tryz.ntmps53
    go_wp2_with fail
    go_ret
    exact ⟨_, rfl, rfl, fun e => ⟨h, HF.out e⟩⟩
  · have d0 : decide ((t.size : Int) ≤ (s.size : Int)) = false := decide_eq_false (by omega)
    have h' : s.size < t.size := by omega
    go_enter Tryz.func53, Tryz.ntmps53
    go_wp2_with fail
    go_ret
    exact ⟨_, rfl, rfl, fun e => by simp at e⟩
theorem hp_calls (w : World) (s t : ByteArray) :
    Calls Tryz.prog 30 #[.string s, .string t] w fun e w' => ∃ b, e = .returned (.bool b) ∧ w' = w ∧ (b = true → t.size ≤ s.size ∧ s.extract 0 t.size = t) := by
  have C := Lib.hid (ihp_calls w s t)
  go_enter Tryz.func30, Tryz.ntmps30
  go_wp2_with (go_at_call 53; refine (C.out).mono ?_; rintro e w2 ⟨b, rfl, rfl, hb⟩)
  go_ret
  exact ⟨b, rfl, rfl, hb⟩
end Go.Proofs.YtnhdlclicjmmnaaGreat
