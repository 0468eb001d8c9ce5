/- TopPatched: a patcher's state (PI): what it has taken and what is to come; take, as a step of it. -/
import Derived.Test.YtnhdlclicjmmnaaGreatPhH
namespace Go.Proofs.YtnhdlclicjmmnaaGreat
open Go.RowKit Go.Lib Go.Shelf
/-- A patcher of one's own in the state s; rem: what of the patch hasn't come. -/
def PI (w0 w : World) (p : Nat) (old text : ByteArray) (ops : List DOp) (seen : Nat) (s : DS) (rem : List UInt8) : Prop :=
  ∃ (sz : Int) (hash : ByteArray), Pt w0 w p ⟨old, strOf s.wait, sz, hash, s.begun, (s.adds : Int), (seen : Int)⟩ s.made ∧ (s.begun = true → sz = text.size ∧ hash = sumF [text]) ∧ DInv old.data.toList text.data.toList (hdL old text) ops s rem
theorem DInv.made_le {old text hd : List UInt8} {ops : List DOp} {s : DS} {rem : List UInt8} (h : DInv old text hd ops s rem) : s.made.length + s.adds ≤ text.length := by
  rcases h with ⟨_, h2, h3, _⟩ | ⟨_, l, ops', h2, _, _, h5⟩
  · rw [h2, h3]
    exact Nat.zero_le _
  · have := congrArg List.length h5
    simp only [List.length_append] at this
    omega
theorem strOf_ext0 (l : List UInt8) (n : Nat) : (strOf l).extract 0 n = strOf (l.take n) := by
  apply strOf_ext
  simp [strOf, List.extract]
theorem strOf_ext1 (l : List UInt8) (n : Nat) : (strOf l).extract n (strOf l).size = strOf (l.drop n) := by
  apply strOf_ext
  rw [strOf_size]
  simp only [strOf, ByteArray.data_extract, Array.toList_extract, List.extract]
  exact List.take_of_length_le (by rw [List.length_drop]; exact Nat.le_refl _)
theorem ext_copy (s : ByteArray) (f n : Nat) : (s.extract f (f + n)).data.toList = (s.data.toList.drop f).take n := by
  simp [List.extract]
theorem take_calls (w0 w : World) (p : Nat) (old text : ByteArray) (ops : List DOp) (seen : Nat) (s : DS) (rem : List UInt8) (h : PI w0 w p old text ops seen s rem) (hos : old.size ≤ 8192) (hts : text.size ≤ 8192)
    (hok : ∀ o ∈ ops, o.ok old.data.toList) (hm : mades old.data.toList ops = text.data.toList) (hwl : s.wait.length ≤ 100000) :
    Calls Tryz.prog 33 #[.pointer (some ⟨p, 0, none⟩)] w fun e w' => ∃ b s', e = .returned (.bool b) ∧ PI w0 w' p old text ops seen s' rem ∧ (b = false → s' = s ∧ DStuck s) ∧ (b = true → s'.wait.length < s.wait.length) := by
  obtain ⟨sz, hash, hP, hB, hD⟩ := h
  have hml := hD.made_le
  have htl : text.data.toList.length = text.size := bsize text
  have hol : old.data.toList.length = old.size := bsize old
  by_cases hw : s.wait = []
  · refine (takeA_calls w0 w p _ _ hP (by show (strOf s.wait).size = 0; rw [hw]; rfl)).mono ?_
    rintro e w' ⟨rfl, hq⟩
    refine ⟨false, s, rfl, ⟨sz, hash, hq, hB, hD⟩, fun _ => ⟨rfl, ?_⟩, fun e => nomatch e⟩
    by_cases ha : s.adds = 0
    · exact .inr (.inl ⟨ha, hw⟩)
    · exact .inl ⟨by omega, hw⟩
  · have hwn : 0 < s.wait.length := List.length_pos_iff.2 hw
    have hws : (strOf s.wait).size ≠ 0 := by rw [strOf_size]; omega
    by_cases ha : s.adds = 0
    · obtain ⟨begun, adds, made, wait⟩ := s
      simp only at ha hwn hws hw hml hwl hP hB
      subst ha
      cases begun
      · by_cases h72 : 72 ≤ wait.length
        · obtain ⟨t1, t2⟩ := hD.head rfl (hdL_len old text) h72 hok hm
          have hh := phead_calls w0 w p _ text made hP hos hts (by show 72 ≤ (strOf wait).size; rw [strOf_size]; exact h72) (by show (strOf wait).extract 0 72 = _; rw [strOf_ext0, t1])
          refine (takeH_calls w0 w p _ _ made true hP hws rfl rfl hh).mono ?_
          rintro e w' ⟨rfl, hq⟩
          refine ⟨true, ⟨true, 0, made, wait.drop 72⟩, rfl, ⟨_, _, ?_, fun _ => ⟨rfl, rfl⟩, t2⟩, (fun e => nomatch e), fun _ => ?_⟩
          · have := hq
            simp only [strOf_ext1] at this
            exact this
          · show (wait.drop 72).length < wait.length
            rw [List.length_drop]
            omega
        · have hh := phead_short w0 w p _ made hP (by show (strOf wait).size < 72; rw [strOf_size]; omega)
          refine (takeH_calls w0 w p _ _ made false hP hws rfl rfl hh).mono ?_
          rintro e w' ⟨rfl, hq⟩
          exact ⟨false, ⟨false, 0, made, wait⟩, rfl, ⟨sz, hash, hq, hB, hD⟩, fun _ => ⟨rfl, .inr (.inr (.inl ⟨rfl, rfl, by show wait.length < 72; omega⟩))⟩, fun e => nomatch e⟩
      · obtain ⟨hsz, hha⟩ := hB rfl
        obtain ⟨c, t, hct⟩ : ∃ c t, wait = c :: t := by
          cases wait with
          | nil => exact absurd rfl hw
          | cons c t => exact ⟨c, t, rfl⟩
        have hx : (strOf wait).data.toList[0]? = some c := by rw [hct]; rfl
        rcases hD.kind rfl rfl c t hct with ⟨hc, hk⟩ | ⟨hc, hk⟩
        · by_cases h7 : 7 ≤ wait.length
          · obtain ⟨f, n, t1, t2, t3, t4, t5⟩ := hk h7
            simp only at t4
            rw [hol] at t3
            rw [htl] at t4
            refine (takeC_calls w0 w p f n text.size _ made hP (by show 7 ≤ (strOf wait).size; rw [strOf_size]; exact h7) (by show (strOf wait).extract 0 7 = _; rw [strOf_ext0, t1]) rfl rfl t2 t3 hos hsz (by omega) (by omega)).mono ?_
            rintro e w' ⟨rfl, hq⟩
            refine ⟨true, ⟨true, 0, made ++ (old.data.toList.drop f).take n, wait.drop 7⟩, rfl, ⟨_, _, ?_, fun _ => ⟨hsz, hha⟩, t5⟩, (fun e => nomatch e), fun _ => ?_⟩
            · have := hq
              simp only [strOf_ext1, ext_copy] at this
              exact this
            · show (wait.drop 7).length < wait.length
              rw [List.length_drop]
              omega
          · refine (takeS_calls w0 w p _ made c hP hx (.inl ⟨hc, by show (strOf wait).size < 7; rw [strOf_size]; omega⟩) rfl rfl).mono ?_
            rintro e w' ⟨rfl, hq⟩
            exact ⟨false, ⟨true, 0, made, wait⟩, rfl, ⟨sz, hash, hq, hB, hD⟩, fun _ => ⟨rfl, .inr (.inr (.inr ⟨rfl, rfl, c, t, hct, .inl ⟨hc, by show wait.length < 7; omega⟩⟩))⟩, fun e => nomatch e⟩
        · by_cases h3 : 3 ≤ wait.length
          · obtain ⟨n, t1, t2, t4, t5⟩ := hk h3
            simp only at t4
            rw [htl] at t4
            refine (takeD_calls w0 w p n text.size _ made hP (by show 3 ≤ (strOf wait).size; rw [strOf_size]; exact h3) (by show (strOf wait).extract 0 3 = _; rw [strOf_ext0, t1]) rfl rfl t2 (by omega) hsz (by omega) (by omega)).mono ?_
            rintro e w' ⟨rfl, hq⟩
            refine ⟨true, ⟨true, n, made, wait.drop 3⟩, rfl, ⟨_, _, ?_, fun _ => ⟨hsz, hha⟩, t5⟩, (fun e => nomatch e), fun _ => ?_⟩
            · have := hq
              simp only [strOf_ext1] at this
              exact this
            · show (wait.drop 3).length < wait.length
              rw [List.length_drop]
              omega
          · refine (takeS_calls w0 w p _ made c hP hx (.inr ⟨hc, by show (strOf wait).size < 3; rw [strOf_size]; omega⟩) rfl rfl).mono ?_
            rintro e w' ⟨rfl, hq⟩
            exact ⟨false, ⟨true, 0, made, wait⟩, rfl, ⟨sz, hash, hq, hB, hD⟩, fun _ => ⟨rfl, .inr (.inr (.inr ⟨rfl, rfl, c, t, hct, .inr ⟨hc, by show wait.length < 3; omega⟩⟩))⟩, fun e => nomatch e⟩
    · obtain ⟨begun, adds, made, wait⟩ := s
      simp only at ha hwn hws hw hml hwl hP hB
      refine (takeB_calls w0 w p adds (min adds wait.length) _ made hP hws rfl (by omega) (by show _ = min adds (strOf wait).size; rw [strOf_size]) (by omega) (by show (strOf wait).size ≤ _; rw [strOf_size]; omega) (by omega)).mono ?_
      rintro e w' ⟨rfl, hq⟩
      refine ⟨true, ⟨begun, adds - min adds wait.length, made ++ wait.take (min adds wait.length), wait.drop (min adds wait.length)⟩, rfl, ⟨sz, hash, ?_, hB, hD.adds (min adds wait.length) (Nat.min_le_left _ _) (Nat.min_le_right _ _) (by show 0 < adds; omega)⟩, (fun e => nomatch e), fun _ => ?_⟩
      · have := hq
        simp only [strOf_ext1, strOf_ext0, strOf_list] at this
        exact this
      · show (wait.drop (min adds wait.length)).length < wait.length
        rw [List.length_drop]
        omega
end Go.Proofs.YtnhdlclicjmmnaaGreat
/- TopPatched: delta's New, Write. -/
namespace Go.Proofs.YtnhdlclicjmmnaaGreat
open Go.RowKit Go.Lib Go.Shelf
theorem DInv.start (old text : ByteArray) (ops : List DOp) : DInv old.data.toList text.data.toList (hdL old text) ops ⟨false, 0, [], []⟩ (hdL old text ++ encs ops) := .inl ⟨rfl, rfl, rfl, rfl⟩
set_option maxRecDepth 100000 in
set_option maxHeartbeats 1000000 in
theorem pNew_calls (w : World) (old : ByteArray) (hos : old.size ≤ 8192) :
    Calls Tryz.prog 6 #[.string old] w fun e w' => e = .returned (.pointer (some ⟨w.heap.size, 0, none⟩)) ∧ Pt w w' w.heap.size ⟨old, ⟨#[]⟩, 0, ⟨#[]⟩, false, 0, 0⟩ [] := by
  have d0 : decide ((8192 : Int) < (old.size : Int)) = false := decide_eq_false (by omega)
  go_enter Tryz.func6, Tryz.ntmps6
  go_wp2_with fail
  go_ret
  exact ⟨rfl, Nat.le_refl _, .pointer none, .slice none 0 0, none, .inl rfl, blkAlloc w _, Row.nil _ _, (fun k (h : none = some k) => nomatch h), (Chg.refl _ w).alloc _⟩
theorem PI.new {w0 w : World} {p : Nat} {old : ByteArray} (h : Pt w0 w p ⟨old, ⟨#[]⟩, 0, ⟨#[]⟩, false, 0, 0⟩ []) (text : ByteArray) (ops : List DOp) : PI w0 w p old text ops 0 ⟨false, 0, [], []⟩ (hdL old text ++ encs ops) :=
  ⟨0, ⟨#[]⟩, h, (fun e => nomatch e), DInv.start old text ops⟩
/-- How much waits. -/
def waitN (p : Nat) (W : World) : Nat := match W.cell? ⟨p, 1, none⟩ with
  | some (.string s) => s.size
  | _ => 0
theorem PI.waitN {w0 w : World} {p : Nat} {old text : ByteArray} {ops : List DOp} {seen : Nat} {s : DS} {rem : List UInt8} (h : PI w0 w p old text ops seen s rem) : Go.Proofs.YtnhdlclicjmmnaaGreat.waitN p w = s.wait.length := by
  obtain ⟨sz, hash, hP, _⟩ := h
  obtain ⟨_, e1, _, _⟩ := hP.e0145
  unfold Go.Proofs.YtnhdlclicjmmnaaGreat.waitN
  rw [e1]
  exact strOf_size _
end Go.Proofs.YtnhdlclicjmmnaaGreat
/- TopPatched: delta's Write. -/
namespace Go.Proofs.YtnhdlclicjmmnaaGreat
open Go.RowKit Go.Lib Go.Shelf
theorem Pt.rest {w0 w : World} {p : Nat} {c : PC} {bs : List UInt8} (h : Pt w0 w p c bs) :
    w.cell? ⟨p, 6, none⟩ = some (.int .i64 c.seen) ∧ w.cell? ⟨p, 9, none⟩ = some (.int .i64 0) ∧ w.cell? ⟨p, 10, none⟩ = some (.bool false) ∧ w.frozen? ⟨p, 1, none⟩ = false ∧ w.frozen? ⟨p, 6, none⟩ = false := by
  obtain ⟨a, v, hc⟩ := h.cells
  exact ⟨blkCell hc 6, blkCell hc 9, blkCell hc 10, blkFree hc 1, blkFree hc 6⟩
/-- What Write has laid ahead of its loop. -/
theorem PI.come {w0 w w1 : World} {p : Nat} {old text : ByteArray} {ops : List DOp} {seen m : Nat} {s : DS} {pc : ByteArray} {rem : List UInt8} (h : PI w0 w p old text ops seen s (pc.data.toList ++ rem)) (hm : m = seen + pc.size)
    (hw : w1 = ((w.setCell ⟨p, 6, none⟩ (.int .i64 m)).setCell ⟨p, 1, none⟩ (.string (strOf s.wait ++ pc))).drew) : PI w0 w1 p old text ops m { s with wait := s.wait ++ pc.data.toList } rem := by
  obtain ⟨sz, hash, hP, hB, hD⟩ := h
  refine ⟨sz, hash, ?_, hB, hD.come⟩
  have e : strOf (s.wait ++ pc.data.toList) = strOf s.wait ++ pc := by
    apply strOf_ext
    simp [strOf]
  rw [hw, e]
  refine hP.set (((Chg.refl (fun k => k = p) w).setCell (p := ⟨p, 6, none⟩) (.inl rfl) _).setCell (p := ⟨p, 1, none⟩) (.inl rfl) _).drew (fun a v h => ?_)
  exact blkSet (blkSet h 6 _) 1 _
theorem PI.seen {w0 w : World} {p : Nat} {old text : ByteArray} {ops : List DOp} {seen : Nat} {s : DS} {rem : List UInt8} (h : PI w0 w p old text ops seen s rem) : PI w0 (w.setCell ⟨p, 6, none⟩ (.int .i64 seen)) p old text ops seen s rem := by
  obtain ⟨sz, hash, hP, hB, hD⟩ := h
  refine ⟨sz, hash, hP.set ((Chg.refl (fun k => k = p) w).setCell (p := ⟨p, 6, none⟩) (.inl rfl) _) (fun a v h => blkSet h 6 _), hB, hD⟩
theorem PI.drew {w0 w : World} {p : Nat} {old text : ByteArray} {ops : List DOp} {seen : Nat} {s : DS} {rem : List UInt8} (h : PI w0 w p old text ops seen s rem) : PI w0 w.drew p old text ops seen s rem := by
  obtain ⟨sz, hash, hP, hB, hD⟩ := h
  exact ⟨sz, hash, hP.kept ((Chg.refl _ w).drew), hB, hD⟩
theorem PI.cells {w0 w : World} {p : Nat} {old text : ByteArray} {ops : List DOp} {seen : Nat} {s : DS} {rem : List UInt8} (h : PI w0 w p old text ops seen s rem) :
    w.cell? ⟨p, 1, none⟩ = some (.string (strOf s.wait)) ∧ w.cell? ⟨p, 6, none⟩ = some (.int .i64 seen) ∧ w.cell? ⟨p, 9, none⟩ = some (.int .i64 0) ∧ w.cell? ⟨p, 10, none⟩ = some (.bool false) ∧ w.frozen? ⟨p, 1, none⟩ = false ∧ w.frozen? ⟨p, 6, none⟩ = false := by
  obtain ⟨sz, hash, hP, _⟩ := h
  obtain ⟨_, e1, _, _⟩ := hP.e0145
  exact ⟨e1, hP.rest⟩
set_option maxRecDepth 100000 in
set_option maxHeartbeats 2000000 in
theorem pWrite_calls (w0 w : World) (p : Nat) (old text : ByteArray) (ops : List DOp) (seen : Nat) (s : DS) (pc : ByteArray) (rem : List UInt8) (h : PI w0 w p old text ops seen s (pc.data.toList ++ rem)) (hos : old.size ≤ 8192) (hts : text.size ≤ 8192)
    (hok : ∀ o ∈ ops, o.ok old.data.toList) (hm : mades old.data.toList ops = text.data.toList) (hwl : s.wait.length + pc.size ≤ 16384) (hse : seen + pc.size ≤ 16384) :
    Calls Tryz.prog 7 #[.pointer (some ⟨p, 0, none⟩), .string pc] w fun e w' => e = .returned (.int .i64 0) ∧ ∃ s', PI w0 w' p old text ops (seen + pc.size) s' rem ∧ DStuck s' ∧ s'.wait.length ≤ s.wait.length + pc.size := by
  obtain ⟨e1, e6, e9, e10, f1, f6⟩ := h.cells
  have HP := Lib.hid (h.come (m := seen + pc.size) rfl rfl)
  obtain ⟨m, hmm⟩ : ∃ m, seen + pc.size = m := ⟨_, rfl⟩
  rw [hmm] at HP hse ⊢
  have k0 : IntKind.i64.wrap (16384 - (seen : Int)) = 16384 - (seen : Int) := by rw [IntKind.wrap_i64]; omega
  have k1 : IntKind.i64.wrap ((seen : Int) + pc.size) = (m : Int) := by rw [IntKind.wrap_i64]; omega
  have HMIN : ∀ (ts : Array TypeId) (T : TypeId) (w : World), (Builtin.min_ ts T #[.int .i64 pc.size, .int .i64 (16384 - (seen : Int))]).run Tryz.prog w = .ok (.int .i64 pc.size) w := fun ts T w => by
    rw [run_min_int2 w ts T _ _ _ _, if_neg (by omega)]
  have HMIN2 : ∀ (ts : Array TypeId) (T : TypeId) (w : World), (Builtin.min_ ts T #[.int .i64 m, .int .i64 16385]).run Tryz.prog w = .ok (.int .i64 m) w := fun ts T w => by
    rw [run_min_int2 w ts T _ _ _ _, if_neg (by omega)]
  have hx : pc.extract 0 pc.size = pc := by
    apply strOf_ext
    simp
  have ha : (strOf s.wait).size + pc.size ≤ 9223372036854775807 := by rw [strOf_size]; omega
  have K4 := (fun w' => run_string_add_sum (P := Tryz.prog) w' (strOf s.wait) pc ha)
  have d0 : decide ((16384 : Int) < (m : Int)) = false := decide_eq_false (by omega)
  have HL : Hid (s.wait.length + pc.size ≤ 16384) := Lib.hid hwl
  have HOK := Lib.hid hok
  have HM := Lib.hid hm
  have HLN : Hid (∀ l : List UInt8, l = s.wait ++ pc.data.toList → l.length = s.wait.length + pc.size) := Lib.hid (fun l e => by rw [e, List.length_append, bsize])
  obtain ⟨N, hN⟩ : ∃ N, s.wait.length + pc.size = N := ⟨_, rfl⟩
  rw [hN] at HL HLN ⊢
  clear h hok hm hmm hse hwl ha hN
  go_enter Tryz.func7, Tryz.ntmps7
  go_wp2_with fail
  go_region
  go_wp2_with fail
  obtain ⟨W, hW⟩ : ∃ W, ((w.setCell ⟨p, 6, none⟩ (.int .i64 m)).setCell ⟨p, 1, none⟩ (.string (strOf s.wait ++ pc))).drew = W := ⟨_, rfl⟩
  rw [hW] at HP ⊢
  have HS0 := Lib.hid (HLN.out (s.wait ++ pc.data.toList) rfl)
  clear hW e1 e6 e9 e10 f1 f6 K4 HMIN HLN hx k0 k1
  go_loopw [51] (fun _ wr => ∃ s' : DS, HD (PI w0 wr p old text ops m s' rem) ∧ HD (s'.wait.length ≤ N)) (fun _ wr => waitN p wr)
  case atStart => exact ⟨_, ⟨HP.out⟩, ⟨by show (s.wait ++ pc.data.toList).length ≤ N; rw [HS0.out]; exact Nat.le_refl _⟩⟩
  case round =>
    obtain ⟨s1, H1, HN⟩ := hrel
    obtain ⟨w2, rfl⟩ : ∃ w2, w2 = wr := ⟨_, rfl⟩
    obtain ⟨_, e6, e9, _, _, f6⟩ := H1.out.cells
    have C := Lib.hid (take_calls w0 w2 p old text ops m s1 rem H1.out hos hts HOK.out HM.out (by have := HN.out; have := HL.out; omega))
    have HW := Lib.hid H1.out.waitN
    go_wp2_with fail
    clear e6 e9 f6
    (with_reducible refine C.out.mono ?_)
    rintro e w3 ⟨b, s2, rfl, hq, hstuck, hless⟩
    have HQ := Lib.hid hq
    obtain ⟨_, e6, e9, _, _, f6⟩ := hq.cells
    have HS2 := Lib.hid hq.waitN
    have HT := Lib.hid hstuck
    have HLS := Lib.hid hless
    clear hq hstuck hless C
    cases b
    · go_wp2_with fail
      go_ret
      obtain ⟨he, hst⟩ := HT.out trivial
      exact ⟨rfl, s2, HQ.out.seen, by rw [he]; exact hst, by rw [he]; exact HN.out⟩
    · go_wp2_with fail
      have hl := HLS.out trivial
      exact ⟨⟨s2, ⟨HQ.out⟩, ⟨by have := HN.out; omega⟩⟩, by rw [HS2.out, HW.out]; exact hl⟩
end Go.Proofs.YtnhdlclicjmmnaaGreat
