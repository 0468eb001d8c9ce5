/- TopPatched: patches, in plain Lean: their steps, the bytes of these, what they make; what a patcher has taken and what is to come. -/
import Derived.Test.YtnhdlclicjmmnaaGreatWr
import Derived.Test.YtnhdlclicjmmnaaGreatTkF
namespace Go.Proofs.YtnhdlclicjmmnaaGreat
open Go.RowKit
/-- A step of a patch. -/
inductive DOp where
  | copy (f n : Nat)
  | add (l : List UInt8)
def DOp.enc : DOp → List UInt8
  | .copy f n => 1 :: (numBytes (f : Int) 4 ++ numBytes (n : Int) 2)
  | .add l => 2 :: (numBytes (l.length : Int) 2 ++ l)
def DOp.made (old : List UInt8) : DOp → List UInt8
  | .copy f n => (old.drop f).take n
  | .add l => l
def DOp.ok (old : List UInt8) : DOp → Prop
  | .copy f n => 0 < n ∧ f + n ≤ old.length
  | .add l => 0 < l.length
def encs (ops : List DOp) : List UInt8 := (ops.map DOp.enc).flatten
def mades (old : List UInt8) (ops : List DOp) : List UInt8 := (ops.map (DOp.made old)).flatten
theorem encs_snoc (ops : List DOp) (o : DOp) : encs (ops ++ [o]) = encs ops ++ o.enc := by simp [encs]
theorem mades_snoc (old : List UInt8) (ops : List DOp) (o : DOp) : mades old (ops ++ [o]) = mades old ops ++ o.made old := by simp [mades]
theorem encs_cons (ops : List DOp) (o : DOp) : encs (o :: ops) = o.enc ++ encs ops := by simp [encs]
theorem mades_cons (old : List UInt8) (ops : List DOp) (o : DOp) : mades old (o :: ops) = o.made old ++ mades old ops := by simp [mades]
theorem enc_copy_len (f n : Nat) : (DOp.copy f n).enc.length = 7 := by simp [DOp.enc, numBytes_len]
theorem enc_add_len (l : List UInt8) : (DOp.add l).enc.length = 3 + l.length := by simp [DOp.enc, numBytes_len]; omega
theorem made_copy_len (old : List UInt8) (f n : Nat) (h : f + n ≤ old.length) : ((DOp.copy f n).made old).length = n := by
  simp only [DOp.made, List.length_take, List.length_drop]; omega
theorem copy_len (old : List UInt8) (f n : Nat) (h : f + n ≤ old.length) : ((old.drop f).take n).length = n := made_copy_len old f n h

/-! ### Making -/
/-- What stands between two rounds of Make: ops are laid, rest waits, a bytes of the text are taken. -/
structure Mk (old text : List UInt8) (ops : List DOp) (rest : List UInt8) (a : Nat) : Prop where
  ok : ∀ o ∈ ops, o.ok old
  made : mades old ops ++ rest = text.take a
  le : a ≤ text.length
  cost : (encs ops).length ≤ (mades old ops).length ∨ (a = text.length ∧ rest = [] ∧ (encs ops).length ≤ text.length + 6)
theorem Mk.start (old text : List UInt8) : Mk old text [] [] 0 := ⟨fun o h => absurd h (by simp), by simp [mades], Nat.zero_le _, .inl (Nat.le_refl _)⟩
theorem Mk.rest_le {old text : List UInt8} {ops : List DOp} {rest : List UInt8} {a : Nat} (h : Mk old text ops rest a) : rest.length ≤ a := by
  have := congrArg List.length h.made
  rw [List.length_append, List.length_take] at this
  omega
theorem Mk.enc_le {old text : List UInt8} {ops : List DOp} {rest : List UInt8} {a : Nat} (h : Mk old text ops rest a) : (encs ops).length ≤ text.length + 6 := by
  have := congrArg List.length h.made
  rw [List.length_append, List.length_take] at this
  rcases h.cost with h1 | h1
  · omega
  · exact h1.2.2
/-- One byte that isn't found. -/
theorem Mk.byte {old text : List UInt8} {ops : List DOp} {rest : List UInt8} {a : Nat} (h : Mk old text ops rest a) (ha : a < text.length) : Mk old text ops (rest ++ (text.drop a).take 1) (a + 1) := by
  refine ⟨h.ok, ?_, ha, .inl ?_⟩
  · rw [← List.append_assoc, h.made, List.take_add]
  · rcases h.cost with h1 | h1
    · exact h1
    · omega
/-- What waits is laid. -/
theorem Mk.lay {old text : List UInt8} {ops : List DOp} {rest : List UInt8} {a : Nat} (h : Mk old text ops rest a) (hr : rest ≠ []) :
    (∀ o ∈ ops ++ [.add rest], o.ok old) ∧ mades old (ops ++ [.add rest]) = text.take a ∧ (encs (ops ++ [.add rest])).length ≤ (mades old (ops ++ [.add rest])).length + 3 := by
  have hl : 0 < rest.length := List.length_pos_iff.2 hr
  refine ⟨fun o ho => ?_, ?_, ?_⟩
  · rcases List.mem_append.1 ho with h1 | h1
    · exact h.ok o h1
    · rw [List.mem_singleton.1 h1]
      exact hl
  · rw [mades_snoc]
    exact h.made
  · rw [encs_snoc, mades_snoc, List.length_append, List.length_append, enc_add_len]
    rcases h.cost with h1 | h1
    · show _ ≤ _ + rest.length + 3
      omega
    · exact absurd h1.2.1 hr
/-- A place that is found: n bytes from f on. -/
theorem Mk.copy {old text : List UInt8} {ops : List DOp} {rest : List UInt8} {a f n : Nat} (h : Mk old text ops rest a) (hn : 0 < n) (hb : 10 ≤ n ∨ n = text.length) (hf : f + n ≤ old.length) (ha : a + n ≤ text.length) (he : (old.drop f).take n = (text.drop a).take n) :
    Mk old text ((if rest = [] then ops else ops ++ [.add rest]) ++ [.copy f n]) [] (a + n) := by
  have hm : ((DOp.copy f n).made old).length = n := made_copy_len old f n hf
  by_cases hr : rest = []
  · subst hr
    rw [if_pos rfl]
    have h0 := h.made
    rw [List.append_nil] at h0
    refine ⟨fun o ho => ?_, ?_, ha, ?_⟩
    · rcases List.mem_append.1 ho with h1 | h1
      · exact h.ok o h1
      · rw [List.mem_singleton.1 h1]
        exact ⟨hn, hf⟩
    · rw [List.append_nil, mades_snoc, h0, List.take_add]
      exact congrArg _ he
    · rw [encs_snoc, mades_snoc, List.length_append, List.length_append, enc_copy_len, hm]
      rcases hb with hb | hb
      · refine .inl ?_
        rcases h.cost with h1 | h1
        · omega
        · omega
      · refine .inr ⟨by omega, rfl, ?_⟩
        have h1 := congrArg List.length h0
        rw [List.length_take] at h1
        rcases h.cost with h2 | h2
        · omega
        · omega
  · rw [if_neg hr]
    obtain ⟨h1, h2, h3⟩ := h.lay hr
    have hl : 0 < rest.length := List.length_pos_iff.2 hr
    have hra := h.rest_le
    refine ⟨fun o ho => ?_, ?_, ha, ?_⟩
    · rcases List.mem_append.1 ho with h4 | h4
      · exact h1 o h4
      · rw [List.mem_singleton.1 h4]
        exact ⟨hn, hf⟩
    · rw [List.append_nil, mades_snoc, h2, List.take_add]
      exact congrArg _ he
    · rw [encs_snoc, mades_snoc, List.length_append, List.length_append, enc_copy_len, hm]
      refine .inl ?_
      omega
/-- The end. -/
theorem Mk.whole {old text : List UInt8} {ops : List DOp} {rest : List UInt8} (h : Mk old text ops rest text.length) :
    ∃ ops', encs ops' = encs ops ++ (if rest = [] then [] else (DOp.add rest).enc) ∧ (∀ o ∈ ops', o.ok old) ∧ mades old ops' = text ∧ (encs ops').length ≤ text.length + 6 := by
  by_cases hr : rest = []
  · subst hr
    refine ⟨ops, by simp, h.ok, ?_, h.enc_le⟩
    have := h.made
    rwa [List.append_nil, List.take_length] at this
  · obtain ⟨h1, h2, h3⟩ := h.lay hr
    rw [List.take_length] at h2
    refine ⟨ops ++ [.add rest], by rw [encs_snoc, if_neg hr], h1, h2, ?_⟩
    rw [h2] at h3
    omega

/-! ### Taking -/
/-- A patcher's state: begun, how many bytes of an addition are to come, what is made, what waits. -/
structure DS where
  begun : Bool
  adds : Nat
  made : List UInt8
  wait : List UInt8
/-- hd: the head; rem: what hasn't come yet. -/
def DInv (old text hd : List UInt8) (ops : List DOp) (s : DS) (rem : List UInt8) : Prop :=
  (s.begun = false ∧ s.adds = 0 ∧ s.made = [] ∧ s.wait ++ rem = hd ++ encs ops) ∨
  (s.begun = true ∧ ∃ l ops', s.adds = l.length ∧ s.wait ++ rem = l ++ encs ops' ∧ (∀ o ∈ ops', o.ok old) ∧ s.made ++ (l ++ mades old ops') = text)
theorem take_of_append {a b c d : List UInt8} {n : Nat} (h : a ++ b = c ++ d) (ha : n ≤ a.length) (hc : n ≤ c.length) : a.take n = c.take n := by
  have := congrArg (List.take n) h
  rwa [List.take_append_of_le_length ha, List.take_append_of_le_length hc] at this
theorem drop_of_append {a b c d : List UInt8} {n : Nat} (h : a ++ b = c ++ d) (ha : n ≤ a.length) (hc : n ≤ c.length) : a.drop n ++ b = c.drop n ++ d := by
  have := congrArg (List.drop n) h
  rwa [List.drop_append_of_le_length ha, List.drop_append_of_le_length hc] at this
/-- More comes. -/
theorem DInv.come {old text hd : List UInt8} {ops : List DOp} {s : DS} {p rem : List UInt8} (h : DInv old text hd ops s (p ++ rem)) : DInv old text hd ops { s with wait := s.wait ++ p } rem := by
  rcases h with ⟨h1, h2, h3, h4⟩ | ⟨h1, l, ops', h2, h3, h4, h5⟩
  · exact .inl ⟨h1, h2, h3, by rw [← h4, List.append_assoc]⟩
  · exact .inr ⟨h1, l, ops', h2, by rw [← h3, List.append_assoc], h4, h5⟩
/-- A part of an addition. -/
theorem DInv.adds {old text hd : List UInt8} {ops : List DOp} {s : DS} {rem : List UInt8} (h : DInv old text hd ops s rem) (n : Nat) (h1 : n ≤ s.adds) (h2 : n ≤ s.wait.length) (h0 : 0 < s.adds) :
    DInv old text hd ops { s with adds := s.adds - n, made := s.made ++ s.wait.take n, wait := s.wait.drop n } rem := by
  rcases h with ⟨_, h3, _⟩ | ⟨h3, l, ops', h4, h5, h6, h7⟩
  · omega
  · refine .inr ⟨h3, l.drop n, ops', ?_, ?_, h6, ?_⟩
    · simp only [List.length_drop]; omega
    · exact drop_of_append h5 h2 (by omega)
    · show (s.made ++ s.wait.take n) ++ _ = _
      rw [take_of_append h5 h2 (by omega), ← h7, List.append_assoc, ← List.append_assoc (l.take n), List.take_append_drop]
/-- The head. -/
theorem DInv.head {old text hd : List UInt8} {ops : List DOp} {s : DS} {rem : List UInt8} (h : DInv old text hd ops s rem) (hb : s.begun = false) (hh : hd.length = 72) (hl : 72 ≤ s.wait.length) (hok : ∀ o ∈ ops, o.ok old) (hm : mades old ops = text) :
    s.wait.take 72 = hd ∧ DInv old text hd ops { s with begun := true, wait := s.wait.drop 72 } rem := by
  rcases h with ⟨_, h3, h4, h5⟩ | ⟨h3, _⟩
  · refine ⟨?_, .inr ⟨rfl, [], ops, by show s.adds = 0; exact h3, ?_, hok, ?_⟩⟩
    · rw [take_of_append h5 hl (by omega), ← hh, List.take_length]
    · have := drop_of_append h5 hl (by omega)
      rw [← hh, List.drop_length] at this
      rw [← hh]
      exact this
    · show s.made ++ _ = _
      rw [h4, hm]
      rfl
  · rw [hb] at h3
    cases h3
/-- The next step's kind. -/
theorem DInv.kind {old text hd : List UInt8} {ops : List DOp} {s : DS} {rem : List UInt8} (h : DInv old text hd ops s rem) (hb : s.begun = true) (ha : s.adds = 0) (c : UInt8) (t : List UInt8) (hw : s.wait = c :: t) :
    (c = 1 ∧ (7 ≤ s.wait.length → ∃ f n : Nat, s.wait.take 7 = (DOp.copy f n).enc ∧ 0 < n ∧ f + n ≤ old.length ∧ s.made.length + n ≤ text.length ∧ DInv old text hd ops { s with made := s.made ++ (old.drop f).take n, wait := s.wait.drop 7 } rem)) ∨
    (c = 2 ∧ (3 ≤ s.wait.length → ∃ n : Nat, s.wait.take 3 = 2 :: numBytes (n : Int) 2 ∧ 0 < n ∧ s.made.length + n ≤ text.length ∧ DInv old text hd ops { s with adds := n, wait := s.wait.drop 3 } rem)) := by
  rcases h with ⟨h3, _⟩ | ⟨h3, l, ops', h4, h5, h6, h7⟩
  · rw [hb] at h3
    cases h3
  · obtain rfl : l = [] := List.eq_nil_of_length_eq_zero (by omega)
    have hlen := congrArg List.length h7
    rw [List.nil_append, List.length_append] at hlen
    cases ops' with
    | nil =>
      rw [hw] at h5
      simp [encs] at h5
    | cons o r =>
      have ho := h6 o (List.mem_cons_self ..)
      have hr : ∀ o ∈ r, o.ok old := fun x hx => h6 x (List.mem_cons_of_mem _ hx)
      rw [encs_cons, List.nil_append] at h5
      rw [mades_cons, List.nil_append] at h7
      rw [mades_cons, List.length_append] at hlen
      cases o with
      | copy f n =>
        refine .inl ⟨?_, fun hl => ⟨f, n, ?_, ho.1, ho.2, ?_, .inr ⟨hb, [], r, ha, ?_, hr, ?_⟩⟩⟩
        · rw [hw] at h5
          exact (List.cons.inj h5).1
        · have := take_of_append h5 hl (by rw [enc_copy_len]; exact Nat.le_refl _)
          rwa [← enc_copy_len f n, List.take_length, enc_copy_len] at this
        · rw [made_copy_len old f n ho.2] at hlen
          omega
        · have := drop_of_append h5 hl (by rw [enc_copy_len]; exact Nat.le_refl _)
          rwa [show (DOp.copy f n).enc.drop 7 = [] from List.drop_of_length_le (by rw [enc_copy_len]; exact Nat.le_refl _)] at this
        · show (s.made ++ _) ++ _ = _
          rw [List.nil_append, List.append_assoc]
          exact h7
      | add q =>
        refine .inr ⟨?_, fun hl => ⟨q.length, ?_, ho, ?_, .inr ⟨hb, q, r, rfl, ?_, hr, h7⟩⟩⟩
        · rw [hw] at h5
          exact (List.cons.inj h5).1
        · have := take_of_append h5 hl (by rw [enc_add_len]; omega)
          rw [this]
          show (2 :: (numBytes (q.length : Int) 2 ++ q)).take 3 = _
          rw [List.take_succ_cons, List.take_append_of_le_length (by rw [numBytes_len]; exact Nat.le_refl _), List.take_of_length_le (by rw [numBytes_len]; exact Nat.le_refl _)]
        · have : ((DOp.add q).made old).length = q.length := rfl
          omega
        · have := drop_of_append h5 hl (by rw [enc_add_len]; omega)
          rw [this]
          show (2 :: (numBytes (q.length : Int) 2 ++ q)).drop 3 ++ _ = _
          rw [List.drop_succ_cons, List.drop_append_of_le_length (by rw [numBytes_len]; exact Nat.le_refl _), List.drop_of_length_le (by rw [numBytes_len]; exact Nat.le_refl _), List.nil_append]
/-- Nothing more can be taken. -/
def DStuck (s : DS) : Prop :=
  (0 < s.adds ∧ s.wait = []) ∨ (s.adds = 0 ∧ s.wait = []) ∨ (s.adds = 0 ∧ s.begun = false ∧ s.wait.length < 72) ∨ (s.adds = 0 ∧ s.begun = true ∧ ∃ c t, s.wait = c :: t ∧ ((c = 1 ∧ s.wait.length < 7) ∨ (c = 2 ∧ s.wait.length < 3)))
theorem DInv.done {old text hd : List UInt8} {ops : List DOp} {s : DS} (h : DInv old text hd ops s []) (hh : hd.length = 72) (hs : DStuck s) : s.begun = true ∧ s.adds = 0 ∧ s.wait = [] ∧ s.made = text := by
  rcases h with ⟨h1, h2, h3, h4⟩ | ⟨h1, l, ops', h2, h3, h4, h5⟩
  · exfalso
    have hl := congrArg List.length h4
    simp only [List.length_append, List.length_nil, hh] at hl
    rcases hs with hs | ⟨_, hs⟩ | hs | hs
    · omega
    · rw [hs] at hl
      simp only [List.length_nil] at hl
      omega
    · omega
    · rw [h1] at hs
      exact absurd hs.2.1 (by decide)
  · rw [List.append_nil] at h3
    have e0 : ∀ o, (DOp.enc o).length = 0 → False := fun o h => by
      cases o with
      | copy f n => rw [enc_copy_len] at h; omega
      | add q => rw [enc_add_len] at h; omega
    have fin : s.wait = [] → l = [] ∧ ops' = [] := fun hw => by
      rw [hw] at h3
      obtain ⟨e1, e2⟩ := List.append_eq_nil_iff.1 h3.symm
      refine ⟨e1, ?_⟩
      cases ops' with
      | nil => rfl
      | cons o r =>
        rw [encs_cons] at e2
        exact (e0 o (by rw [(List.append_eq_nil_iff.1 e2).1]; rfl)).elim
    rcases hs with ⟨hs, hw⟩ | ⟨hs, hw⟩ | hs | ⟨ha, _, c, t, hw, hs⟩
    · obtain ⟨rfl, _⟩ := fin hw
      simp only [List.length_nil] at h2
      omega
    · obtain ⟨rfl, rfl⟩ := fin hw
      refine ⟨h1, hs, hw, ?_⟩
      simpa [mades] using h5
    · rw [h1] at hs
      exact absurd hs.2.1 (by decide)
    · exfalso
      obtain rfl : l = [] := List.eq_nil_of_length_eq_zero (by omega)
      rw [List.nil_append] at h3
      cases ops' with
      | nil => rw [hw] at h3; cases h3
      | cons o r =>
        rw [encs_cons] at h3
        have hl := congrArg List.length h3
        rw [List.length_append] at hl
        rw [hw] at h3
        cases o with
        | copy f n =>
          rw [enc_copy_len] at hl
          have : c = 1 := (List.cons.inj h3).1
          rcases hs with hs | hs
          · omega
          · rw [this] at hs
            exact absurd hs.1 (by decide)
        | add q =>
          rw [enc_add_len] at hl
          have : c = 2 := (List.cons.inj h3).1
          rcases hs with hs | hs
          · rw [this] at hs
            exact absurd hs.1 (by decide)
          · omega
end Go.Proofs.YtnhdlclicjmmnaaGreat
