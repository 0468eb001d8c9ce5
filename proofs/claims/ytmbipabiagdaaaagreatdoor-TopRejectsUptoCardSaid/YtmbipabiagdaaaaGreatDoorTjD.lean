/- TopRejects: sha.Hex, sha.Unhex. -/
import Derived.Test.YtmbipabiagdaaaaGreatDoorTjA
import Derived.Test.YtmbipabiagdaaaaGreatDoorShH
import Derived.Test.YtmbipabiagdaaaaGreatDoorQt
namespace Go.Proofs.YtmbipabiagdaaaaGreatDoor
open Go.RowKit Go.Lib
section
variable {P : Program} {ops : Array Oper} {o : Oper} {a : Act} {K : Act → World → Prop} {Q : Exit → Act → World → Prop}
/-- Bytes appended, as a step of a region that draws its order. -/
theorem step_append_list (w : World) (hw : Region.wanted o (yielded ops a.tmps) = true) (sl x : Operand) (t e : TypeId) (ho : o.op = .call { callee := .builtin .append, args := #[sl, x], argTypes := #[t, t] })
    (ht : P.underlying t = some (.slice e)) (hinfo : (P.info? e).map (fun i => (i.zero, i.size, i.bytes)) = some (some (.int .u8 0), 1, 1))
    (v : Value) (r : Option Nat) (bs ys : List UInt8) (m : Nat) (hm : ys.length = m) (cs : Array Value) (hcs : cs = (bcells ys).toArray) (hs : a.eval sl = v) (hx : a.eval x = .slice (some ⟨w.heap.size, 0, none⟩) m m) (h : Row w e v r bs) (hl : bs.length + m ≤ 140737488355328)
    (hk : ∀ A n c w' r', Row w' e (.slice A n c) r' (bs ++ ys) → Next w r r' → (w.alloc (.cells cs e)).grownBy w' r → K (a.put o.dst (.slice A n c)) w') :
    if Region.wanted o (yielded ops a.tmps) = true then Oper.wp P o a (w.alloc (.cells cs e)) K Q else K (a.put o.dst undef) (w.alloc (.cells cs e)) := by
  obtain ⟨i, hi, hzz⟩ := Option.map_eq_some_iff.1 hinfo
  simp only [Prod.mk.injEq] at hzz
  obtain ⟨hz0, hz1, hz2⟩ := hzz
  rw [if_pos hw]
  obtain ⟨v', w', r', hr, h2, h3, h4⟩ := run_append_list (P := P) w t o.type e i ht hi hz0 hz1 hz2 v r bs h ys m hm cs hcs hl
  unfold Oper.wp execOp
  simp only [ho, resolve, invoke, builtin, Sem.run_bind, Sem.run_pure, Result.andThen_ok, List.map_toArray, List.map_cons, List.map_nil, hs, hx, hr]
  obtain ⟨A, n, c, rfl⟩ := h2.slice
  exact hk A n c w' r' h2 h3 h4
end
def hexDigits : ByteArray := ⟨#[48, 49, 50, 51, 52, 53, 54, 55, 56, 57, 97, 98, 99, 100, 101, 102]⟩
def hexN (d : Nat) : UInt8 := if d < 10 then UInt8.ofNat (48 + d) else UInt8.ofNat (87 + d)
def hex2 (b : UInt8) : List UInt8 := [hexN (b.toNat / 16), hexN (b.toNat % 16)]
def hexL (l : List UInt8) : List UInt8 := l.flatMap hex2
def hexF (s : ByteArray) : ByteArray := strOf (hexL s.data.toList)
theorem hexL_len (l : List UInt8) : (hexL l).length = 2 * l.length := by
  induction l with
  | nil => rfl
  | cons x l ih =>
    simp only [hexL, List.flatMap_cons, List.length_append, List.length_cons] at ih ⊢
    rw [ih]
    simp [hex2]
    omega
theorem hexF_size (s : ByteArray) : (hexF s).size = 2 * s.size := by
  rw [hexF, strOf_size, hexL_len, Array.length_toList]
  rfl
theorem hexIdx (d : Nat) (hd : d < 16) (w : World) : (Instr.index 9 (.string ⟨#[48, 49, 50, 51, 52, 53, 54, 55, 56, 57, 97, 98, 99, 100, 101, 102]⟩) (.int .u8 (d : Int))).run Tryz.prog w = .ok (.int .u8 ((hexN d).toNat : Int)) w := by
  rw [run_index_string w 9 _ .u8 (d : Int) Tryz.underlying9, dif_pos ⟨by omega, by show (d : Int) < 16; omega⟩]
  have key : ∀ k : Fin 16, (hexDigits[k.1]'(by show k.1 < 16; exact k.2)) = hexN k.1 := by decide
  have := key ⟨d, hd⟩
  simp only [hexDigits] at this
  simp only [Int.toNat_natCast]
  rw [← this]
theorem and15 : ∀ k : Nat, k < 256 → bits .and .u8 (k : Int) 15 = ((k % 16 : Nat) : Int) := by decide +kernel
theorem hexL_take (l : List UInt8) (k : Nat) (x : UInt8) (h : l[k]? = some x) : hexL (l.take (k + 1)) = hexL (l.take k) ++ hex2 x := by
  obtain ⟨hk, hx⟩ := List.getElem?_eq_some_iff.1 h
  rw [List.take_succ_eq_append_getElem hk, hexL, List.flatMap_append, hx]
  simp [hexL]
set_option maxRecDepth 100000 in
set_option maxHeartbeats 2000000 in
theorem Hex_calls (w : World) (s : ByteArray) (hs : s.size ≤ 70368744177664) :
    Calls Tryz.prog 23 #[.string s] w fun e w' => e = .returned (.string (hexF s)) ∧ Chg (fun _ => False) w w' := by
  have kc := fun W s => Lib.run_convert_string_bytes (P := Tryz.prog) W 9 73 5 s Tryz.underlying9 Tryz.underlying73 Tryz.underlying5
  have hc : ∀ j, j < s.size → (Lib.bytesWorld w 5 s).cell? ⟨w.heap.size, j, none⟩ = some (.int .u8 (s.data.toList.getD j 0).toNat) := fun j hj => Lib.bytesWorld_cell w 5 s j hj
  have HC := Lib.hid hc
  have HO : Hid (Own (Lib.bytesWorld w 5 s) (Lib.bytesWorld w 5 s) (.slice none 0 0) []) := Lib.hid ⟨none, Row.nil _ _, fun _ e => (by cases e), Chg.refl _ _⟩
  have HCW : Hid (Chg (fun _ => False) w (Lib.bytesWorld w 5 s)) := Lib.hid (Chg.of_below (Lib.bytesWorld_below w _ s) _)
  clear hc
  go_enter Tryz.func23, Tryz.ntmps23
  go_wp2_with fail
  obtain ⟨W0, hW⟩ : ∃ W0, Lib.bytesWorld w 5 s = W0 := ⟨_, rfl⟩
  obtain ⟨g, hg⟩ : ∃ g, w.heap.size = g := ⟨_, rfl⟩
  obtain ⟨c0, hc0⟩ : ∃ c0, grownCap w s.size 0 5 = c0 := ⟨_, rfl⟩
  simp only [hW] at HC HO HCW ⊢
  simp only [hg, hc0] at HC ⊢
  have HGS : Hid (g < W0.heap.size) := Lib.hid (by rw [← hW, Lib.bytesWorld_size]; omega)
  clear hW hg hc0 kc
  go_loopw [3, 9] (fun v i wx => ∃ (A : Option Addr) (n c k : Nat), k ≤ s.size ∧ i = .int .i64 k ∧ v = .slice A n c ∧ HD (Own W0 wx (.slice A n c) (hexL (s.data.toList.take k))) ∧ HD (∀ j, j < s.size → wx.cell? ⟨g, j, none⟩ = some (.int .u8 (s.data.toList.getD j 0).toNat))) (fun _ i _ => s.size - (intOf i).toNat)
  case atStart => exact ⟨none, 0, 0, 0, Nat.zero_le _, rfl, rfl, ⟨HO.out⟩, ⟨HC.out⟩⟩
  case round =>
    clear HO HC
    obtain ⟨A, n, c, k, hk, rfl, rfl, HO, HC⟩ := hrel
    obtain ⟨w2, rfl⟩ : ∃ w2, w2 = wr := ⟨_, rfl⟩
    by_cases hlt : k < s.size
    · obtain ⟨x, hx⟩ : ∃ x, s.data.toList[k]? = some x := ⟨_, List.getElem?_eq_getElem (by rw [Array.length_toList]; exact hlt)⟩
      have hcell := HC.out k hlt
      have hgd : s.data.toList.getD k 0 = x := by rw [List.getD_eq_getElem?_getD, hx]; rfl
      rw [hgd] at hcell
      obtain ⟨d, hd⟩ : ∃ d : Nat, x.toNat = d := ⟨_, rfl⟩
      have hd256 : d < 256 := by rw [← hd]; exact x.toNat_lt
      have HST := Lib.hid (hexL_take _ k x hx)
      have HX : Hid (hex2 x = [hexN (d / 16), hexN (d % 16)]) := Lib.hid (by rw [← hd]; rfl)
      rw [hd] at hcell
      have i1 := hexIdx (d / 16) (by omega)
      have i2 := hexIdx (d % 16) (by omega)
      obtain ⟨h1, hh1⟩ : ∃ h, hexN (d / 16) = h := ⟨_, rfl⟩
      obtain ⟨h2, hh2⟩ : ∃ h, hexN (d % 16) = h := ⟨_, rfl⟩
      have ha := and15 d hd256
      rw [hh1] at i1 HX
      rw [hh2] at i2 HX
      rw [show ((d / 16 : Nat) : Int) = (d : Int) / 16 from by simp] at i1
      rw [show ((d % 16 : Nat) : Int) = (d : Int) % 16 from by simp] at i2 ha
      obtain ⟨r, hrow, hrw, hch⟩ := HO.out
      have HROW := Lib.hid hrow
      have HRW := Lib.hid hrw
      have HCH := Lib.hid hch
      have hbl : (hexL (s.data.toList.take k)).length + 2 ≤ 140737488355328 := by
        rw [hexL_len, List.length_take]
        omega
      have q0 : (0 : Int) ≤ (k : Int) := by omega
      have q1 : (k : Int) < (s.size : Int) := by omega
      clear hx hgd hd hh1 hh2 hrow hrw hch
      go_wp2_with fail
      have HCS : Hid (#[Value.int .u8 (h1.toNat : Int), Value.int .u8 (h2.toNat : Int)] = (bcells [h1, h2]).toArray) := Lib.hid rfl
      go_region_law (refine step_append_list w2.drew rfl (.tmp 13) (.tmp 20) 73 5 rfl Tryz.underlying73 info_u8 (.slice A n c) r (hexL (s.data.toList.take k)) [h1, h2] 2 rfl _ HCS.out (by simp [Act.eval]) (by simp [Act.eval]) HROW.out hbl ?_; intro A1 n1 c1 w1 r1 hrow1 hnext hgrow; have HR1 := Lib.hid hrow1; have HN1 := Lib.hid hnext; have HG1 := Lib.hid hgrow; clear hrow1 hnext hgrow)
      all_goals
        go_wp2_with fail
        have hg1 : Chg (fun k => r = some k) w2 w1 := (((Chg.refl _ w2).drew).alloc _).grown HG1.out (fun _ h => .inl h)
        exact ⟨⟨A1, n1, c1, k + 1, by omega, by go_num, rfl, ⟨by rw [HST.out, HX.out]; exact Own.next HRW.out HCH.out HR1.out HN1.out hg1⟩, ⟨fun j hj => cellChg (HC.out j hj) hg1 (fun e => Nat.lt_irrefl _ (Nat.lt_of_lt_of_le HGS.out (HRW.out _ e)))⟩⟩, by simp [intOf]; omega⟩
    · obtain rfl : k = s.size := by omega
      have HO8 : Hid (Own W0 w2 (.slice A n c) (hexL s.data.toList)) := Lib.hid (by have h := HO.out; rwa [List.take_of_length_le (by rw [Array.length_toList]; exact Nat.le_refl _)] at h)
      have kc := run_string_row (P := Tryz.prog) (dst := 9) Tryz.underlying73 Tryz.underlying5 Tryz.underlying9 (HO8.out.choose_spec.1)
      clear HO HC
      go_wp2
      go_ret
      exact ⟨rfl, HCW.out.trans HO8.out.choose_spec.2.2 (fun _ h => h.elim)⟩
end Go.Proofs.YtmbipabiagdaaaaGreatDoor
/- TopRejects: sha.Unhex: some text, no longer than what came in. -/
namespace Go.Proofs.YtmbipabiagdaaaaGreatDoor
open Go.RowKit Go.Lib
theorem idxAt (s : ByteArray) (c : Nat) (hc : c < s.size) : ∃ y : Int, ∀ w, (Instr.index 9 (.string s) (.int .i64 (c : Int))).run Tryz.prog w = .ok (.int .u8 y) w := by
  have hc2 : c < s.data.size := hc
  refine ⟨((s[c]'hc2).toNat : Int), fun w => ?_⟩
  rw [run_index_string w 9 s .i64 (c : Int) Tryz.underlying9, dif_pos ⟨by omega, by omega⟩]
  rfl
set_option maxRecDepth 100000 in
set_option maxHeartbeats 2000000 in
theorem Unhex_calls (w : World) (s : ByteArray) (hs : s.size ≤ 70368744177664) :
    Calls Tryz.prog 16 #[.string s] w fun e w' => ∃ t ok, e = .returned (.tuple #[.string t, .bool ok]) ∧ t.size ≤ s.size ∧ Chg (fun _ => False) w w' := by
  have HO : Hid (Own w w (.slice none 0 0) []) := Lib.hid ⟨none, Row.nil _ _, fun _ e => (by cases e), Chg.refl _ _⟩
  by_cases hodd : s.size % 2 = 0
  · have hmod : ((s.size : Int)).tmod 2 = 0 := by rw [Int.tmod_eq_emod_of_nonneg (by omega)]; omega
    go_enter Tryz.func16, Tryz.ntmps16
    go_wp2_with fail
    go_loopw [4, 5] (fun v i wx => ∃ (A : Option Addr) (n c k : Nat) (bs : List UInt8), 2 * k ≤ s.size ∧ bs.length = k ∧ i = .int .i64 ((2 * k : Nat) : Int) ∧ v = .slice A n c ∧ HD (Own w wx (.slice A n c) bs)) (fun _ i _ => s.size - (intOf i).toNat)
    case atStart => exact ⟨none, 0, 0, 0, [], Nat.zero_le _, rfl, rfl, rfl, ⟨HO.out⟩⟩
    case round =>
      clear HO
      obtain ⟨A, n, c, k, bs, hk, hbl, rfl, rfl, HO⟩ := hrel
      obtain ⟨w2, rfl⟩ : ∃ w2, w2 = wr := ⟨_, rfl⟩
      by_cases hlt : 2 * k < s.size
      · obtain ⟨y1, i1⟩ := idxAt s (2 * k) hlt
        obtain ⟨y2, i2⟩ := idxAt s (2 * k + 1) (by omega)
        obtain ⟨j, hj⟩ : ∃ j : Nat, 2 * k = j := ⟨_, rfl⟩
        rw [hj] at i1 i2 hlt ⊢
        rw [show ((j + 1 : Nat) : Int) = (j : Int) + 1 from rfl] at i2
        obtain ⟨r, hrow, hrw, hch⟩ := HO.out
        have HROW := Lib.hid hrow
        have HRW := Lib.hid hrw
        have HCH := Lib.hid hch
        have q0 : (0 : Int) ≤ (j : Int) := by omega
        have q1 : (j : Int) < (s.size : Int) := by omega
        have q2 : (j : Int) + 1 < (s.size : Int) := by omega
        have q3 : (0 : Int) ≤ (j : Int) + 1 := by omega
        have hwr : IntKind.i64.wrap ((j : Int) + 1) = (j : Int) + 1 := by rw [IntKind.wrap_i64]; omega
        have HJ := Lib.hid hj
        clear hrow hrw hch hj hodd hmod
        obtain ⟨h1, hh1⟩ : ∃ h : Int, Lib.indexByte [48, 49, 50, 51, 52, 53, 54, 55, 56, 57, 97, 98, 99, 100, 101, 102] y1.toNat.toUInt8 = h := ⟨_, rfl⟩
        obtain ⟨h2, hh2⟩ : ∃ h : Int, Lib.indexByte [48, 49, 50, 51, 52, 53, 54, 55, 56, 57, 97, 98, 99, 100, 101, 102] y2.toNat.toUInt8 = h := ⟨_, rfl⟩
        have C1 := Lib.hid (fun w => Tryz.strings_IndexByte ⟨#[48, 49, 50, 51, 52, 53, 54, 55, 56, 57, 97, 98, 99, 100, 101, 102]⟩ y1 w)
        have C2 := Lib.hid (fun w => Tryz.strings_IndexByte ⟨#[48, 49, 50, 51, 52, 53, 54, 55, 56, 57, 97, 98, 99, 100, 101, 102]⟩ y2 w)
        simp only [hh1, hh2] at C1 C2
        clear hh1 hh2
        go_wp2_with fail
        go_quiet ((first | (go_at_call 49; exact Calls.quiet_of_same (C1.out _)) | (go_at_call 49; exact Calls.quiet_of_same (C2.out _))))
        by_cases n1 : h1 < 0
        · go_wp2_with fail
          go_ret2
          exact ⟨_, _, rfl, Nat.zero_le _, HCH.out.drewN nq⟩
        · have n1' : 0 ≤ h1 := by omega
          have d1 : decide (h1 < 0) = false := decide_eq_false n1
          by_cases n2 : h2 < 0
          · go_wp2_with fail
            go_ret2
            exact ⟨_, .inl rfl, Nat.zero_le _, HCH.out.drewN nq⟩
          · have d2 : decide (h2 < 0) = false := decide_eq_false n2
            have n2' : 0 ≤ h2 := by omega
            go_wp2_with (at_builtin; refine wpList_append_byte (w2.drewN nq) rfl (.tmp 33) (.tmp 39) 73 5 rfl Tryz.underlying73 info_u8 (.slice A n c) r bs (bits BinOp.or IntKind.i64 (wrap64 (h1 * 16)) h2 % 256) rfl rfl HROW.out ⟨by omega, by omega⟩ (by omega) ?_; intro A1 n1 c1 w1 r1 hrow1 hnext hgrow; have HR1 := Lib.hid hrow1; have HN1 := Lib.hid hnext; have HG1 := Lib.hid hgrow; clear hrow1 hnext hgrow)
            have hg1 : Chg (fun k => r = some k) w2 w1 := (((Chg.refl _ w2).drewN nq).alloc _).grown HG1.out (fun _ h => .inl h)
            have hj2 := HJ.out
            exact ⟨⟨A1, n1, c1, k + 1, bs ++ [UInt8.ofNat (bits BinOp.or IntKind.i64 (wrap64 (h1 * 16)) h2 % 256).toNat], by omega, by simp [hbl], by go_num, rfl, ⟨Own.next HRW.out HCH.out HR1.out HN1.out hg1⟩⟩, by simp [intOf]; omega⟩
      · have hke : 2 * k = s.size := by omega
        have kc := run_string_row (P := Tryz.prog) (dst := 9) Tryz.underlying73 Tryz.underlying5 Tryz.underlying9 (HO.out.choose_spec.1)
        rw [hke]
        clear hmod
        go_wp2_with fail
        go_ret2
        exact ⟨_, _, rfl, by rw [strOf_size]; omega, HO.out.choose_spec.2.2⟩
  · have hmod : ((s.size : Int)).tmod 2 = 1 := by rw [Int.tmod_eq_emod_of_nonneg (by omega)]; omega
    go_enter Tryz.func16, Tryz.ntmps16
    go_wp2_with fail
    go_ret2
    exact ⟨_, _, rfl, Nat.zero_le _, Chg.refl _ _⟩
end Go.Proofs.YtmbipabiagdaaaaGreatDoor
/- TopRejects: note.origin, note.Text. -/
namespace Go.Proofs.YtmbipabiagdaaaaGreatDoor
open Go.RowKit Go.Lib Go.Shelf
def badR (x : Nat) : Bool := decide ((x : Int) < 33) || decide ((126 : Int) < (x : Int))
theorem pred_calls (w : World) (x : Nat) (hx : x ≤ 1114111) : Calls Tryz.prog 61 #[.int .i32 (x : Int)] w fun e w' => e = .returned (.bool (badR x)) ∧ w' = w := by
  unfold badR
  cases d0 : decide ((x : Int) < 33)
  · cases d1 : decide ((126 : Int) < (x : Int))
    all_goals
      go_enter Tryz.func61, Tryz.ntmps61
      go_wp2
      go_ret
      exact ⟨rfl, rfl⟩
  · go_enter Tryz.func61, Tryz.ntmps61
    go_wp2
    go_ret
    exact ⟨by simp, rfl⟩
theorem predG (w : World) : PredGrows Tryz.prog 61 #[] badR w := fun W x hx _ =>
  (pred_calls W x hx).mono fun e w' ⟨he, hw⟩ => ⟨he, by rw [hw]; exact Below.refl _ _⟩
def originB (s : ByteArray) : Bool := (!s.toList.isEmpty && decide ((s.size : Int) ≤ 64)) && !(decide (0 ≤ Lib.idxFunc badR true s))
theorem origin_calls (w : World) (s : ByteArray) : Calls Tryz.prog 25 #[.string s] w fun e w' => e = .returned (.bool (originB s)) ∧ Chg (fun _ => False) w w' := by
  have C := Lib.hid (fun w => Tryz.strings_ContainsFunc_grows 61 #[] (fun args w => by kernel_rfl) badR s w (predG w))
  unfold originB
  cases d0 : s.toList.isEmpty
  · cases d1 : decide ((s.size : Int) ≤ 64)
    · go_enter Tryz.func25, Tryz.ntmps25
      go_wp2
      go_ret
      exact ⟨rfl, Chg.refl _ _⟩
    · obtain ⟨q, hq⟩ : ∃ q, decide (0 ≤ Lib.idxFunc badR true s) = q := ⟨_, rfl⟩
      rw [hq] at C ⊢
      clear hq
      go_enter Tryz.func25, Tryz.ntmps25
      go_wp2_with (go_at_call 60; refine (C.out _).mono ?_; rintro e w1 ⟨rfl, hb⟩; have G := Lib.hid (Chg.of_below hb (fun _ => False)); clear hb)
      go_ret
      exact ⟨by simp, G.out⟩
  · go_enter Tryz.func25, Tryz.ntmps25
    go_wp2
    go_ret
    exact ⟨by simp, Chg.refl _ _⟩
end Go.Proofs.YtmbipabiagdaaaaGreatDoor
