/- begin, constants and text of package sha. -/
import Derived.Test.YtnhdlclicjmmnaaGreatShF2
import Derived.Test.YtnhdlclicjmmnaaGreatShB
namespace Go.Proofs.YtnhdlclicjmmnaaGreat
open Go.RowKit
theorem info_u8 : (Tryz.prog.info? 5).map (fun i => (i.zero, i.size, i.bytes)) = some (some (.int .u8 0), 1, 1) := by kernel_rfl
def S8.val (s : S8) : Value := .agg #[.int .u32 s.a, .int .u32 s.b, .int .u32 s.c, .int .u32 s.d, .int .u32 s.e, .int .u32 s.f, .int .u32 s.g, .int .u32 s.h]
set_option maxRecDepth 100000 in
theorem begin_calls (w : World) : Calls Tryz.prog 76 #[] w fun e w' => e = .returned S8.begin.val ∧ Chg (fun _ => False) w w' := by
  go_enter Tryz.func76, Tryz.ntmps76
  go_wp2
  refine bodyPost_ret (v := S8.begin.val) (by simp [results, go_sem, S8.val, S8.begin]) rfl ⟨rfl, ?_⟩
  exact (Chg.refl _ w).alloc _
theorem kcells_lit : kcells = #[.int .u32 1116352408, .int .u32 1899447441, .int .u32 3049323471, .int .u32 3921009573, .int .u32 961987163, .int .u32 1508970993, .int .u32 2453635748, .int .u32 2870763221, .int .u32 3624381080, .int .u32 310598401, .int .u32 607225278, .int .u32 1426881987, .int .u32 1925078388, .int .u32 2162078206, .int .u32 2614888103, .int .u32 3248222580, .int .u32 3835390401, .int .u32 4022224774, .int .u32 264347078, .int .u32 604807628, .int .u32 770255983, .int .u32 1249150122, .int .u32 1555081692, .int .u32 1996064986, .int .u32 2554220882, .int .u32 2821834349, .int .u32 2952996808, .int .u32 3210313671, .int .u32 3336571891, .int .u32 3584528711, .int .u32 113926993, .int .u32 338241895, .int .u32 666307205, .int .u32 773529912, .int .u32 1294757372, .int .u32 1396182291, .int .u32 1695183700, .int .u32 1986661051, .int .u32 2177026350, .int .u32 2456956037, .int .u32 2730485921, .int .u32 2820302411, .int .u32 3259730800, .int .u32 3345764771, .int .u32 3516065817, .int .u32 3600352804, .int .u32 4094571909, .int .u32 275423344, .int .u32 430227734, .int .u32 506948616, .int .u32 659060556, .int .u32 883997877, .int .u32 958139571, .int .u32 1322822218, .int .u32 1537002063, .int .u32 1747873779, .int .u32 1955562222, .int .u32 2024104815, .int .u32 2227730452, .int .u32 2361852424, .int .u32 2428436474, .int .u32 2756734187, .int .u32 3204031479, .int .u32 3329325298] := rfl
set_option maxRecDepth 100000 in
set_option maxHeartbeats 2000000 in
theorem constants_calls (w : World) : Calls Tryz.prog 77 #[] w fun e w' => e = .returned (.pointer (some ⟨w.heap.size, 0, none⟩)) ∧ w' = w.alloc (.cells kcells 152) := by
  go_enter Tryz.func77, Tryz.ntmps77
  go_wp2
  go_ret
  exact ⟨rfl, by rw [kcells_lit]⟩
set_option maxRecDepth 100000 in
theorem index_state (s : S8) (k : Nat) (hk : k < 8) : ∀ w, (Instr.index 133 (.agg #[.int .u32 s.a, .int .u32 s.b, .int .u32 s.c, .int .u32 s.d, .int .u32 s.e, .int .u32 s.f, .int .u32 s.g, .int .u32 s.h]) (.int .i64 k)).run Tryz.prog w = .ok (.int .u32 (s.words.getD k 0)) w := by
  obtain rfl | rfl | rfl | rfl | rfl | rfl | rfl | rfl : k = 0 ∨ k = 1 ∨ k = 2 ∨ k = 3 ∨ k = 4 ∨ k = 5 ∨ k = 6 ∨ k = 7 := by omega
  all_goals exact fun _ => by kernel_rfl
theorem Chg.ofGrown {w w1 : World} {o : Obj} {r : Option Nat} (hg : (w.alloc o).grownBy w1 r) : Chg (fun k => r = some k) w w1 := ((Chg.refl (fun k => r = some k) w).alloc o).grown hg (fun _ hk => .inl hk)
/-- A row that lies behind W. -/
def Own (W w : World) (v : Value) (bs : List UInt8) : Prop := ∃ r, Row w 5 v r bs ∧ (∀ k, r = some k → W.heap.size ≤ k) ∧ Chg (fun _ => False) W w
theorem Own.next {W w w1 : World} {v1 : Value} {bs1 : List UInt8} {r r1 : Option Nat} (hr : ∀ k, r = some k → W.heap.size ≤ k) (hc : Chg (fun _ => False) W w) (h1 : Row w1 5 v1 r1 bs1) (hn : Next w r r1) (hg : Chg (fun k => r = some k) w w1) : Own W w1 v1 bs1 :=
  ⟨r1, h1, fun k e => (hn.mem e).elim (hr k) (fun h => Nat.le_trans hc.size h), hc.trans hg (fun k e => .inr (hr k e))⟩
theorem Own.kept {W w w1 : World} {v : Value} {bs : List UInt8} (h : Own W w v bs) (hc : Chg (fun _ => False) w w1) : Own W w1 v bs := by
  obtain ⟨r, h1, h2, h3⟩ := h
  exact ⟨r, h1.chg hc (fun _ _ h => h), h2, h3.trans hc (fun _ e => e.elim)⟩
theorem takeBytes_len (s : S8) (k : Nat) : ((s.words.take k).flatMap fun x => numBytes x 4).length ≤ 32 := by
  have h : s.out = ((s.words.take k).flatMap fun x => numBytes x 4) ++ ((s.words.drop k).flatMap fun x => numBytes x 4) := by
    unfold S8.out
    rw [← List.flatMap_append, List.take_append_drop]
  have h2 := S8.out_len s
  rw [h, List.length_append] at h2
  omega
set_option maxRecDepth 100000 in
theorem text_calls (w : World) (s : S8) (hs : s.ok) : Calls Tryz.prog 79 #[s.val] w fun e w' => e = .returned (.string (strOf s.out)) ∧ Chg (fun _ => False) w w' := by
  have HSO := Lib.hid hs
  clear hs
  unfold S8.val
  have HO : Hid (Own w (w.alloc (.cells #[.int .u32 s.a, .int .u32 s.b, .int .u32 s.c, .int .u32 s.d, .int .u32 s.e, .int .u32 s.f, .int .u32 s.g, .int .u32 s.h] 133)) (.slice none 0 0) []) := Lib.hid ⟨none, Row.nil _ _, fun _ e => (by cases e), (Chg.refl _ w).alloc _⟩
  go_enter Tryz.func79, Tryz.ntmps79
  go_wp2
  go_loopw [3, 7] (fun v i wx => ∃ (A : Option Addr) (n c k : Nat), k ≤ 8 ∧ i = .int .i64 k ∧ v = .slice A n c ∧ HD (Own w wx (.slice A n c) ((s.words.take k).flatMap fun x => numBytes x 4))) (fun _ i _ => 8 - (intOf i).toNat)
  case atStart => exact ⟨none, 0, 0, 0, Nat.zero_le _, rfl, rfl, ⟨HO.out⟩⟩
  case round =>
    clear HO
    obtain ⟨A, n, c, k, hk, rfl, rfl, HO⟩ := hrel
    by_cases hlt : k < 8
    · have ix := index_state s k hlt
      obtain ⟨x0, x1⟩ := wordsGet s HSO.out k hlt
      have HST := Lib.hid (out_step s k hlt)
      obtain ⟨x, hx⟩ : ∃ x, s.words.getD k 0 = x := ⟨_, rfl⟩
      rw [hx] at ix x0 x1 HST
      clear hx
      obtain ⟨r, hrow, hrw, hch⟩ := HO.out
      have HROW := Lib.hid hrow
      have HRW := Lib.hid hrw
      have HCH := Lib.hid hch
      have hcs := cells4 x
      rw [show x / 16777216 % 256 = x / 16777216 from Int.emod_eq_of_lt (by omega) (by omega)] at hcs
      have HCS : Hid (#[Value.int .u8 (x / 16777216), .int .u8 (x / 65536 % 256), .int .u8 (x / 256 % 256), .int .u8 (x % 256)] = (bcells (numBytes x 4)).toArray) := Lib.hid (by rw [hcs])
      have hbl := takeBytes_len s k
      clear hrow hrw hch hcs
      go_wp2_with (at_builtin; refine wpList_append_list wr rfl (.tmp 10) (.tmp 22) 22 5 rfl Tryz.underlying22 info_u8 (.slice A n c) r ((s.words.take k).flatMap fun x => numBytes x 4) (numBytes x 4) 4 (numBytes_len x 4) _ HCS.out rfl rfl HROW.out (by omega) ?_; intro A1 n1 c1 w1 r1 hrow1 hnext hgrow; have HR1 := Lib.hid hrow1; have HN1 := Lib.hid hnext; have HG1 := Lib.hid hgrow; clear hrow1 hnext hgrow)
      exact ⟨⟨A1, n1, c1, k + 1, by omega, by go_num, rfl, ⟨by rw [HST.out]; exact Own.next HRW.out HCH.out HR1.out HN1.out (Chg.ofGrown HG1.out)⟩⟩, by simp [intOf]; omega⟩
    · obtain rfl : k = 8 := by omega
      have hl8 : (s.words.take 8).flatMap (fun x => numBytes x 4) = s.out := rfl
      have HO8 : Hid (Own w wr (.slice A n c) s.out) := Lib.hid (by rw [← hl8]; exact HO.out)
      have kc := fun dst (hd : Tryz.prog.underlying dst = some .string) => run_string_row (P := Tryz.prog) (dst := dst) Tryz.underlying22 Tryz.underlying5 hd (HO8.out.choose_spec.1)
      have kc := kc 9 Tryz.underlying9
      clear hl8 HO
      go_wp2
      go_ret
      exact ⟨rfl, HO8.out.choose_spec.2.2⟩
end Go.Proofs.YtnhdlclicjmmnaaGreat
