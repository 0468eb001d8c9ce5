/- TopRejects: meta.goodTargets, goodTimestamp, goodSnapshot. -/
import Derived.Test.YtmbipabiagdaaaaGreatDoorTkC
namespace Go.Proofs.YtmbipabiagdaaaaGreatDoor
open Go.RowKit Go.Lib Go.Shelf
/-- A target. -/
structure Tg where
  v : Int
  a : Int
  l : ByteArray
def Tg.enc (t : Tg) : List Value := [.int .i64 t.v, .int .i64 t.a, .string t.l]
theorem Tg.len (t : Tg) : t.enc.length = 3 := rfl
theorem Tg.one (t : Tg) : ∀ u ∈ t.enc, u.oneCell' = true := by
  intro u hu
  simp only [Tg.enc, List.mem_cons, List.mem_nil_iff, or_false] at hu
  rcases hu with rfl | rfl | rfl <;> rfl
abbrev TgRow (w : World) (v : Value) (r : Option Nat) (l : List Tg) : Prop := SRow 149 3 Tg.enc w v r l
def badT (last v a : Int) (h : ByteArray) : Bool := (((decide (v ≤ last) || decide ((255 : Int) < v)) || decide (a < 0)) || decide ((1024 : Int) ≤ a)) || !((h.size : Int) == 32)
def goodFrom (last : Int) : List Tg → Bool
  | [] => true
  | t :: r => !(badT last t.v t.a t.l) && goodFrom t.v r
def goodTg (l : List Tg) : Bool := goodFrom 0 l && decide ((l.length : Int) ≤ 64)
theorem goodFrom_at (last : Int) (l : List Tg) (k : Nat) (t : Tg) (h : l[k]? = some t) : goodFrom last (l.drop k) = (!(badT last t.v t.a t.l) && goodFrom t.v (l.drop (k + 1))) := by
  obtain ⟨hk, hx⟩ := List.getElem?_eq_some_iff.1 h
  rw [List.drop_eq_getElem_cons hk, hx]
  rfl
set_option maxRecDepth 100000 in
set_option maxHeartbeats 4000000 in
theorem goodTargets_calls (w : World) (b : Nat) (cs : Array Value) (A : Option Addr) (c : Nat) (r : Option Nat) (l : List Tg) (hd : DAt w b cs) (ht : cs[15]? = some (.slice A l.length c)) (hr : TgRow w (.slice A l.length c) r l) (hl : l.length ≤ 1048576) :
    Calls Tryz.prog 77 #[.pointer (some ⟨b, 0, none⟩)] w fun e w' => e = .returned (.bool (goodTg l)) ∧ Chg (fun _ => False) w w' := by
  have HR := Lib.hid hr
  have CB := Lib.hid (fun (w' : World) (g : Chg (fun _ => False) w w') => ((blkCell (g.obj hd (fun h => h)) 15).trans ht : w'.cell? ⟨b, 15, none⟩ = some (.slice A l.length c)))
  have c15 := CB.out w (Chg.refl _ _)
  obtain ⟨G, hG⟩ : ∃ G, goodFrom 0 l = G := ⟨_, rfl⟩
  have HGT : Hid (goodTg l = (G && decide ((l.length : Int) ≤ 64))) := Lib.hid (by rw [goodTg, hG])
  have HG0 := Lib.hid hG
  clear hr hd ht hG
  go_enter Tryz.func77, Tryz.ntmps77
  go_wp2_with fail
  go_loopw [3, 11] (fun la v wx => ∃ (k : Nat) (last : Int), k ≤ l.length ∧ v = .int .i64 k ∧ la = .int .i64 last ∧ HD (goodFrom last (l.drop k) = G) ∧ HD (Chg (fun _ => False) w wx)) (fun _ v _ => l.length - (intOf v).toNat)
  case atStart => exact ⟨0, 0, Nat.zero_le _, rfl, rfl, ⟨HG0.out⟩, ⟨Chg.refl _ _⟩⟩
  case round =>
    obtain ⟨k, last, hk, rfl, rfl, HA, HC⟩ := hrel
    obtain ⟨w2, rfl⟩ : ∃ w2, w2 = wr := ⟨_, rfl⟩
    by_cases hlt : k < l.length
    · obtain ⟨⟨v, a, h⟩, hx⟩ : ∃ t, l[k]? = some t := ⟨_, List.getElem?_eq_getElem hlt⟩
      have hr2 := SRow.chg HR.out HC.out (fun _ _ h => h)
      obtain ⟨g, cur, rfl, _⟩ := hr2.at_ (by omega)
      obtain ⟨e0, _⟩ := hr2.cell Tg.len k 0 ⟨v, a, h⟩ hx (by omega) (.int .i64 v) rfl
      obtain ⟨e1, _⟩ := hr2.cell Tg.len k 1 ⟨v, a, h⟩ hx (by omega) (.int .i64 a) rfl
      obtain ⟨e2, _⟩ := hr2.cell Tg.len k 2 ⟨v, a, h⟩ hx (by omega) (.string h) rfl
      rw [Nat.add_zero] at e0
      have hst := goodFrom_at last l k _ hx
      rw [HA.out] at hst
      simp only at hst
      have q0 : (0 : Int) ≤ (k : Int) := by omega
      have q1 : (k : Int) < (l.length : Int) := by omega
      have HC2 := Lib.hid (HC.out.alloc (.cells #[.int .i64 v, .int .i64 a, .string h] 149))
      clear hx hr2
      cases d0 : decide (v ≤ last)
      case true =>
        have hb : badT last v a h = true := by unfold badT; rw [d0]; simp
        have HST : Hid (G = false) := Lib.hid (by rw [hst, hb]; rfl)
        clear hst hb
        go_wp2_with fail
        go_ret
        exact ⟨by rw [HGT.out, HST.out]; rfl, HC2.out⟩
      case false =>
        cases d1 : decide ((255 : Int) < v)
        case true =>
          have hb : badT last v a h = true := by unfold badT; rw [d1]; simp
          have HST : Hid (G = false) := Lib.hid (by rw [hst, hb]; rfl)
          clear hst hb
          go_wp2_with fail
          go_ret
          exact ⟨by rw [HGT.out, HST.out]; rfl, HC2.out⟩
        case false =>
          cases d2 : decide (a < 0)
          case true =>
            have hb : badT last v a h = true := by unfold badT; rw [d2]; simp
            have HST : Hid (G = false) := Lib.hid (by rw [hst, hb]; rfl)
            clear hst hb
            go_wp2_with fail
            go_ret
            exact ⟨by rw [HGT.out, HST.out]; rfl, HC2.out⟩
          case false =>
            cases d3 : decide ((1024 : Int) ≤ a)
            case true =>
              have hb : badT last v a h = true := by unfold badT; rw [d3]; simp
              have HST : Hid (G = false) := Lib.hid (by rw [hst, hb]; rfl)
              clear hst hb
              go_wp2_with fail
              go_ret
              exact ⟨by rw [HGT.out, HST.out]; rfl, HC2.out⟩
            case false =>
              by_cases e5 : (h.size : Int) = 32
              case neg =>
                have hf : ((h.size : Int) == 32) = false := by simpa using e5
                have hb : badT last v a h = true := by unfold badT; rw [hf]; simp
                have HST : Hid (G = false) := Lib.hid (by rw [hst, hb]; rfl)
                clear hst hb
                go_wp2_with fail
                go_ret
                exact ⟨by rw [HGT.out, HST.out]; rfl, HC2.out⟩
              case pos =>
                have hb : badT last v a h = false := by unfold badT; rw [d0, d1, d2, d3, e5]; rfl
                have HST : Hid (goodFrom v (l.drop (k + 1)) = G) := Lib.hid (by rw [hst, hb]; rfl)
                clear hst hb
                go_wp2_with fail
                exact ⟨⟨k + 1, v, by omega, by go_num, rfl, ⟨HST.out⟩, ⟨HC2.out⟩⟩, by simp [intOf]; omega⟩
    · obtain rfl : k = l.length := by omega
      have HST : Hid (G = true) := Lib.hid (by rw [← HA.out, List.drop_length]; rfl)
      have c15 := CB.out w2 HC.out
      go_wp2_with fail
      go_ret
      exact ⟨by rw [HGT.out, HST.out]; rfl, HC.out⟩
def goodTs (f : Int) (h : ByteArray) : Bool := numB f && ((h.size : Int) == 32)
theorem goodTimestamp_calls (w : World) (b : Nat) (cs : Array Value) (f : Int) (h : ByteArray) (hd : DAt w b cs) (hf : cs[19]? = some (.int .i64 f)) (hh : cs[20]? = some (.string h)) :
    Calls Tryz.prog 85 #[.pointer (some ⟨b, 0, none⟩)] w fun e w' => e = .returned (.bool (goodTs f h)) ∧ w' = w := by
  have c0 : w.cell? ⟨b, 19, none⟩ = some (.int .i64 f) := (blkCell hd 19).trans hf
  have c1 : w.cell? ⟨b, 20, none⟩ = some (.string h) := (blkCell hd 20).trans hh
  have C := Lib.hid (mNumber_calls w f)
  unfold goodTs
  obtain ⟨q, hq⟩ : ∃ q, numB f = q := ⟨_, rfl⟩
  rw [hq] at C ⊢
  clear hd hf hh hq
  cases q
  all_goals
    go_enter Tryz.func85, Tryz.ntmps85
    go_wp2_with (go_at_call 90; refine (C.out).mono ?_; rintro e w1 ⟨rfl, he⟩; obtain rfl := he)
    go_ret
    exact ⟨rfl, rfl⟩
def goodSn (o : ByteArray) (n : Int) (r : ByteArray) (f : Int) (h : ByteArray) : Bool := textE o n r == 0 && goodTs f h
set_option maxRecDepth 100000 in
theorem goodSnapshot_calls (w : World) (hgl : Glob w) (b : Nat) (cs : Array Value) (o : ByteArray) (n : Int) (r : ByteArray) (f : Int) (h : ByteArray) (hd : DAt w b cs) (h16 : cs[16]? = some (.string o)) (h17 : cs[17]? = some (.int .i64 n)) (h18 : cs[18]? = some (.string r)) (hf : cs[19]? = some (.int .i64 f)) (hh : cs[20]? = some (.string h)) (hz : o.size ≤ 1048576) :
    Calls Tryz.prog 81 #[.pointer (some ⟨b, 0, none⟩)] w fun e w' => e = .returned (.bool (goodSn o n r f h)) ∧ Chg (fun _ => False) w w' := by
  have c0 : w.cell? ⟨b, 16, none⟩ = some (.string o) := (blkCell hd 16).trans h16
  have c1 : w.cell? ⟨b, 17, none⟩ = some (.int .i64 n) := (blkCell hd 17).trans h17
  have c2 : w.cell? ⟨b, 18, none⟩ = some (.string r) := (blkCell hd 18).trans h18
  have CT := Lib.hid (nText_calls w hgl o n r hz)
  have C := Lib.hid (fun w' (g : Chg (fun _ => False) w w') => goodTimestamp_calls w' b cs f h (g.obj hd (fun h => h)) hf hh)
  unfold goodSn
  obtain ⟨q, hq⟩ : ∃ q, goodTs f h = q := ⟨_, rfl⟩
  obtain ⟨X, hX⟩ : ∃ X, textT o n r = X := ⟨_, rfl⟩
  obtain ⟨E, hE⟩ : ∃ E, textE o n r = E := ⟨_, rfl⟩
  rw [hX, hE] at CT
  rw [hq] at C
  rw [hE, hq]
  clear hd h16 h17 h18 hf hh hq hX hE hgl
  by_cases he : E = 0
  · subst he
    go_enter Tryz.func81, Tryz.ntmps81
    go_wp2_with (first
      | (go_at_call 7; refine (CT.out).mono ?_; rintro e w1 ⟨rfl, hg⟩; have D := Lib.hid hg; clear hg)
      | (go_at_call 85; refine (C.out _ D.out).mono ?_; rintro e w2 ⟨rfl, he⟩; obtain rfl := he))
    go_ret
    exact ⟨rfl, D.out⟩
  · have he1 : (E == 0) = false := by simpa using he
    clear he
    go_enter Tryz.func81, Tryz.ntmps81
    go_wp2_with (go_at_call 7; refine (CT.out).mono ?_; rintro e w1 ⟨rfl, hg⟩; have D := Lib.hid hg; clear hg)
    go_ret
    exact ⟨by rw [he1]; rfl, D.out⟩
end Go.Proofs.YtmbipabiagdaaaaGreatDoor
