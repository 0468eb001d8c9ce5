/- TopRejects: a document stored whole; a document of no kind. -/
import Derived.Test.YtmbipabiagdaaaaGreatDoorTkL
import Derived.Deep.MidRow
import Derived.Laws.Tables
namespace Go.Proofs.YtmbipabiagdaaaaGreatDoor
open Go.RowKit Go.Lib Go.Shelf
theorem setCells_gen : ∀ (vs : List Value) (o : Nat) (w : World) (b : Nat) (cur : Array Value) (T : TypeId), w.heap[b]? = some (.cells cur T (0, 0)) → o + vs.length ≤ cur.size →
    ∃ cs : Array Value, (w.setCells b o vs).heap[b]? = some (.cells cs T (0, 0)) ∧ cs.size = cur.size ∧ (∀ i, i < vs.length → cs[o + i]? = vs[i]?) ∧ (∀ i, i < o → cs[i]? = cur[i]?) ∧ Chg (fun k => k = b) w (w.setCells b o vs)
  | [], o, w, b, cur, T, h, _ => ⟨cur, h, rfl, fun i hi => absurd hi (Nat.not_lt_zero i), fun _ _ => rfl, Chg.refl _ _⟩
  | v :: vs, o, w, b, cur, T, h, hl => by
    have h1 := blkSet h o v
    rw [List.length_cons] at hl
    obtain ⟨cs, h2, h3, h4, h5, h6⟩ := setCells_gen vs (o + 1) (w.setCell ⟨b, o, none⟩ v) b _ T h1 (by rw [Array.size_setIfInBounds]; omega)
    rw [Array.size_setIfInBounds] at h3
    refine ⟨cs, h2, h3, fun i hi => ?_, fun i hi => ?_, ((Chg.refl (fun k => k = b) w).cellOf o v).trans h6 (fun _ e => .inl e)⟩
    · cases i with
      | zero =>
        rw [h5 (o + 0) (by omega), Nat.add_zero, Array.getElem?_setIfInBounds_self_of_lt (by omega)]
        rfl
      | succ i =>
        have := h4 i (by rw [List.length_cons] at hi; omega)
        rw [show o + (i + 1) = o + 1 + i from by omega, this]
        rfl
    · rw [h5 i (by omega), Array.getElem?_setIfInBounds_ne (by omega)]
theorem setCells_all {w : World} {b : Nat} {cur : Array Value} {T : TypeId} (h : w.heap[b]? = some (.cells cur T (0, 0))) (cs : Array Value) (hs : cs.size = cur.size) :
    (w.setCells b 0 cs.toList).heap[b]? = some (.cells cs T (0, 0)) ∧ Chg (fun k => k = b) w (w.setCells b 0 cs.toList) := by
  obtain ⟨cs', h1, h2, h3, _, h5⟩ := setCells_gen cs.toList 0 w b cur T h (by rw [Array.length_toList]; omega)
  have : cs' = cs := by
    apply Array.ext_getElem?
    intro i
    by_cases hi : i < cs.size
    · have := h3 i (by rw [Array.length_toList]; exact hi)
      rw [Nat.zero_add] at this
      rw [this, Array.getElem?_toList]
    · rw [Array.getElem?_eq_none (by omega), Array.getElem?_eq_none (by omega)]
  rw [this] at h1
  exact ⟨h1, h5⟩
theorem there_all {w : World} {b : Nat} {cur : Array Value} {T : TypeId} (h : w.heap[b]? = some (.cells cur T (0, 0))) (n : Nat) (hs : n = cur.size) : w.there b 0 n := fun j hj => by
  rw [Nat.zero_add]
  exact ⟨by rw [blkCell h, Array.getElem?_eq_getElem (by omega)]; rfl, blkFree h j⟩
/-- A whole struct stored: what lies there behind it, and that nothing else has turned. -/
theorem wpList_store_all {P : Program} {ops : Array Oper} {rest : List Oper} {op : Oper} {a : Act} {w : World} {Q : Exit → Act → World → Prop} (hgd : op.guard = none) (ty : TypeId) (x y : Operand) (ho : op.op = .store ty x y)
    (b : Nat) (cells cur : Array Value) (T : TypeId) (hx : a.eval x = .pointer (some ⟨b, 0, none⟩)) (hy : a.eval y = .agg cells) (hb : w.heap[b]? = some (.cells cur T (0, 0))) (hs : cells.size = cur.size)
    (hi : (P.info? ty).map (·.size) = some cells.size) (h1 : cells.all (·.oneCell') = true)
    (h : ∀ w', w'.heap[b]? = some (.cells cells T (0, 0)) → Chg (fun k => k = b) w w' → wpList P ops Q rest (a.put op.dst undef) w') : wpList P ops Q (op :: rest) a w := by
  obtain ⟨h2, h3⟩ := setCells_all hb cells hs
  exact wpList_store_mid hgd ty x y ho b 0 cells hx hy (there_all hb cells.size hs) hi h1 (h _ h2 h3)
/-- A whole struct loaded, behind a guard that says yes. -/
theorem wpList_load_rowG {P : Program} {ops : Array Oper} {rest : List Oper} {o : Oper} {a : Act} {w : World} {Q : Exit → Act → World → Prop} (hw : Region.wanted o (yielded ops a.tmps) = true) (ty : TypeId) (x : Operand) (ho : o.op = .load ty x)
    (g : Nat) (hx : a.eval x = .pointer (some ⟨g, 0, none⟩)) (t : TypeId) (cs : Array Value) (fr : Nat × Nat) (d : TypeDesc) (hg : w.heap[g]? = some (.cells cs t fr))
    (hu : P.underlying ty = some d) (hd : (match d with | .struct _ | .array _ _ => true | _ => false) = true) (hi : (P.info? ty).map (·.size) = some cs.size)
    (h : wpList P ops Q rest (a.put o.dst (.agg cs)) w) : wpList P ops Q (o :: rest) a w :=
  wpList_step fun K hK => by
    simp only [hw, if_true]
    exact wp_load_row ty x ho g hx t cs fr d hg hu hd hi (hK _ _ h)
/-- A struct built: its cells told beforehand. -/
theorem wpList_build_is {P : Program} {ops : Array Oper} {rest : List Oper} {o : Oper} {a : Act} {w : World} {Q : Exit → Act → World → Prop} (hg : o.guard = none) (t : TypeId) (parts : Array (Nat × Operand)) (ho : o.op = .build t parts)
    (ps : List (Nat × Value)) (hps : (parts.map fun (i, x) => (i, a.eval x)).toList = ps) (cells : Array Value) (hc : P.built t ps = some cells) (h : wpList P ops Q rest (a.put o.dst (.agg cells)) w) : wpList P ops Q (o :: rest) a w := by
  subst hps
  exact wpList_build hg t parts ho (by rw [hc]; rfl) (by rw [hc]; exact h)
theorem builtK (k : Int) : Tryz.prog.built 46 [(0, .int .i64 k)] = some #[.int .i64 k, .int .i64 0, .int .i64 0, .slice none 0 0, .int .i64 0, .slice none 0 0, .int .i64 0, .slice none 0 0, .int .i64 0, .slice none 0 0, .int .i64 0, .slice none 0 0, .int .i64 0, .string ⟨#[]⟩, .string ⟨#[]⟩, .slice none 0 0, .string ⟨#[]⟩, .int .i64 0, .string ⟨#[]⟩, .int .i64 0, .string ⟨#[]⟩] := by kernel_rfl
theorem built0 : Tryz.prog.built 46 [] = some #[.int .i64 0, .int .i64 0, .int .i64 0, .slice none 0 0, .int .i64 0, .slice none 0 0, .int .i64 0, .slice none 0 0, .int .i64 0, .slice none 0 0, .int .i64 0, .slice none 0 0, .int .i64 0, .string ⟨#[]⟩, .string ⟨#[]⟩, .slice none 0 0, .string ⟨#[]⟩, .int .i64 0, .string ⟨#[]⟩, .int .i64 0, .string ⟨#[]⟩] := by kernel_rfl
set_option maxRecDepth 100000 in
theorem check0_calls (w : World) (k v x : Int) (h1 : (k == 1) = false) (h2 : (k == 2) = false) (h3 : (k == 3) = false) (h4 : (k == 4) = false) :
    Calls Tryz.prog 40 #[.agg #[.int .i64 k, .int .i64 v, .int .i64 x, .slice none 0 0, .int .i64 0, .slice none 0 0, .int .i64 0, .slice none 0 0, .int .i64 0, .slice none 0 0, .int .i64 0, .slice none 0 0, .int .i64 0, .string ⟨#[]⟩, .string ⟨#[]⟩, .slice none 0 0, .string ⟨#[]⟩, .int .i64 0, .string ⟨#[]⟩, .int .i64 0, .string ⟨#[]⟩]] w fun e w' => e = .returned (.int .i64 1) ∧ Chg (fun _ => False) w w' := by
  have CF := Lib.hid (fun w' => forms0 w' k h1 h2 h3 h4)
  clear h1 h2 h3 h4
  go_enter Tryz.func40, Tryz.ntmps40
  go_wp2_with fail
  refine (CF.out _).mono ?_
  rintro e w1 ⟨rfl, hc⟩
  have HC := Lib.hid (((Chg.refl (fun _ => False) w).alloc _).trans hc (fun _ h => h.elim))
  clear hc
  go_wp2_with fail
  go_ret
  exact ⟨rfl, HC.out.alloc _⟩
set_option maxRecDepth 100000 in
theorem encode0_calls (w : World) :
    Calls Tryz.prog 11 #[.agg #[.int .i64 0, .int .i64 0, .int .i64 0, .slice none 0 0, .int .i64 0, .slice none 0 0, .int .i64 0, .slice none 0 0, .int .i64 0, .slice none 0 0, .int .i64 0, .slice none 0 0, .int .i64 0, .string ⟨#[]⟩, .string ⟨#[]⟩, .slice none 0 0, .string ⟨#[]⟩, .int .i64 0, .string ⟨#[]⟩, .int .i64 0, .string ⟨#[]⟩]] w fun e w' => e = .returned (.tuple #[.string ⟨#[]⟩, .int .i64 1]) ∧ Chg (fun _ => False) w w' := by
  have CC := Lib.hid (fun w' => check0_calls w' 0 0 0 rfl rfl rfl rfl)
  go_enter Tryz.func11, Tryz.ntmps11
  go_wp2_with (refine wpList_load_row rfl 46 (.tmp 1) rfl _ rfl 46 #[.int .i64 0, .int .i64 0, .int .i64 0, .slice none 0 0, .int .i64 0, .slice none 0 0, .int .i64 0, .slice none 0 0, .int .i64 0, .slice none 0 0, .int .i64 0, .slice none 0 0, .int .i64 0, .string ⟨#[]⟩, .string ⟨#[]⟩, .slice none 0 0, .string ⟨#[]⟩, .int .i64 0, .string ⟨#[]⟩, .int .i64 0, .string ⟨#[]⟩] (0, 0) _ (blkAlloc w _) Tryz.underlying46 rfl docInfo ?_)
  refine (CC.out _).mono ?_
  rintro e w1 ⟨rfl, hc⟩
  have HC := Lib.hid (((Chg.refl (fun _ => False) w).alloc _).trans hc (fun _ h => h.elim))
  clear hc
  go_wp2_with fail
  go_ret2
  exact ⟨rfl, HC.out⟩
end Go.Proofs.YtmbipabiagdaaaaGreatDoor
