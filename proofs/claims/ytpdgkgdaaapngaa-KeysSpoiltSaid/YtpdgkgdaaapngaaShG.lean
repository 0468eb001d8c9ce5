/- Tag of package sha. -/
import Derived.Test.YtpdgkgdaaapngaaShH
namespace Go.Proofs.Ytpdgkgdaaapngaa
open Go.RowKit
def zeros192 : Array Value := (List.replicate 192 (Value.int .u8 0)).toArray
theorem make192 : ∀ w, (Instr.makeSlice 34 (.int .i64 0) (.int .i64 192)).run Try.prog w = .ok (.slice (some ⟨w.heap.size, 0, none⟩) 0 192) (w.alloc (.cells zeros192 5)) := fun _ => by kernel_rfl
theorem made192 (w : World) : Row (w.alloc (.cells zeros192 5)) 5 (.slice (some ⟨w.heap.size, 0, none⟩) 0 192) (some w.heap.size) [] :=
  ⟨⟨rfl, .inr ⟨w.heap.size, 192, zeros192, rfl, Nat.zero_le _, blkAlloc w _, Nat.zero_le _, by simp only [maxLen]; omega, by unfold zeros192; rw [List.size_toArray, List.length_replicate], rfl⟩⟩, rfl⟩
theorem kindCell (k : Int) (h : 0 ≤ k ∧ k < 256) : #[Value.int .u8 k] = (bcells [UInt8.ofNat k.toNat]).toArray := by
  have h1 := byteCell k
  rw [Int.emod_eq_of_lt h.1 h.2] at h1
  simp only [bcells, List.map_cons, List.map_nil, h1]
theorem lenCells (x : Int) (_h : 0 ≤ x) : #[Value.int IntKind.u8 (x % 4294967296 / 16777216), Value.int IntKind.u8 (x % 4294967296 / 65536 % 256), Value.int IntKind.u8 (x % 4294967296 / 256 % 256), Value.int IntKind.u8 (x % 256)] = (bcells (numBytes x 4)).toArray := by
  rw [cells4, show x % 4294967296 / 16777216 = x / 16777216 % 256 from by omega, show x % 4294967296 / 65536 % 256 = x / 65536 % 256 from by omega, show x % 4294967296 / 256 % 256 = x / 256 % 256 from by omega]
set_option maxRecDepth 100000 in
set_option maxHeartbeats 2000000 in
theorem Tag_calls (w : World) (kind : Int) (hk : 0 ≤ kind ∧ kind < 256) (A : Option Addr) (n c : Nat) (parts : List ByteArray) (hp : StrsIn w A parts) (hn : parts.length = n) (hb : 1 + bulk parts ≤ 140737488355200) :
    Calls Try.prog 28 #[.int .u8 kind, .slice A n c] w fun e w' => e = .returned (.string (tagF kind parts)) ∧ Chg (fun _ => False) w w' := by
  subst hn
  have HP := Lib.hid hp
  have HB := Lib.hid hb
  have HK := Lib.hid (kindCell kind hk)
  have hpl := hp.1
  have hmk := make192 w
  have H0 : Hid (OwnS (fun _ => False) w (w.alloc (.cells zeros192 5)) (.slice (some ⟨w.heap.size, 0, none⟩) 0 192) [] (some w.heap.size)) := Lib.hid ⟨made192 w, fun k e => .inr (by injection e with e; omega), (Chg.refl _ w).alloc _⟩
  clear hp hb hk
  go_enter Try.func28, Try.ntmps28
  go_wp2_with (at_builtin; refine wpList_append_list (w.alloc (.cells zeros192 5)) rfl (.tmp 9) (.tmp 11) 34 5 rfl Try.underlying34 info_u8 (.slice (some ⟨w.heap.size, 0, none⟩) 0 192) (some w.heap.size) [] [UInt8.ofNat kind.toNat] 1 rfl _ HK.out rfl (by simp [Act.eval]) H0.out.1 (by simp) ?_; intro A1 n1 c1 w1 r1 hrow hnext hgrow; have H1 := Lib.hid (H0.out.next hrow hnext (Chg.ofGrown hgrow)); clear hrow hnext hgrow)
  go_loopw [5, 15] (fun v i wx => ∃ (k : Nat) (B : Option Addr) (m C : Nat) (r : Option Nat), k ≤ parts.length ∧ i = .int .i64 k ∧ v = .slice B m C ∧ HD (OwnS (fun _ => False) w wx (.slice B m C) (tagPre kind (parts.take k)) r)) (fun _ i _ => parts.length - (intOf i).toNat)
  case atStart => exact ⟨0, A1, n1, c1, r1, Nat.zero_le _, rfl, rfl, ⟨H1.out⟩⟩
  case round =>
    clear H1 H0 HK
    obtain ⟨k, B, m, C, r, hkl, rfl, rfl, HO⟩ := hrel
    by_cases hlt : k < parts.length
    · obtain ⟨a, rfl, ha⟩ := HP.out.get k hlt
      have hsa := cellChg ha HO.out.2.2 (fun h => h)
      have hbt := bulk_take parts k hlt
      have htl := tagPre_len kind (parts.take k)
      have HTS := Lib.hid (tagPre_step kind parts k hlt)
      obtain ⟨s, hs⟩ : ∃ s, parts[k] = s := ⟨_, rfl⟩
      rw [hs] at hsa hbt HTS
      have HL4 : Hid ((tagPre kind (parts.take k)).length + 4 ≤ 140737488355328) := Lib.hid (by have := HB.out; omega)
      have HLS : Hid ((tagPre kind (parts.take k) ++ numBytes (s.size : Int) 4).length + s.size ≤ 140737488355328) := Lib.hid (by have := HB.out; rw [List.length_append, numBytes_len]; omega)
      have hsz : s.size ≤ 140737488355328 := by have := HB.out; omega
      clear hs ha hbt htl
      have HC4 := Lib.hid (lenCells (s.size : Int) (by omega))
      go_wp2_with (first
        | (at_builtin; refine wpList_append_list wr rfl (.tmp 22) (.tmp 34) 34 5 rfl Try.underlying34 info_u8 (.slice B m C) r (tagPre kind (parts.take k)) (numBytes (s.size : Int) 4) 4 (numBytes_len _ 4) _ HC4.out rfl rfl HO.out.1 HL4.out ?_; intro A2 n2 c2 w2 r2 hrow hnext hgrow; have H2 := Lib.hid (HO.out.next hrow hnext (Chg.ofGrown hgrow)); clear hrow hnext hgrow)
        | (at_builtin; refine wpList_append_str w2 rfl (.tmp 36) (.tmp 37) 34 9 5 rfl Try.underlying34 Try.underlying9 info_u8 (.slice A2 n2 c2) r2 (tagPre kind (parts.take k) ++ numBytes (s.size : Int) 4) s rfl rfl H2.out.1 HLS.out ?_; intro A3 n3 c3 w3 r3 hrow hnext hgrow; have H3 := Lib.hid (H2.out.next hrow hnext ((Chg.refl _ w2).grown hgrow (fun _ hk => .inl hk))); clear hrow hnext hgrow))
      exact ⟨⟨k + 1, A3, n3, c3, r3, by omega, by go_num, rfl, ⟨by rw [HTS.out]; exact H3.out⟩⟩, by simp [intOf]; omega⟩
    · obtain rfl : k = parts.length := by omega
      rw [List.take_length] at HO
      have hTL : (tagPre kind parts).length = m := by
        obtain ⟨g, _, _, h3, _⟩ := HO.out.1.form (by rw [tagPre_len]; omega)
        exact h3.symm
      have hTM : m ≤ 140737488355200 := by have := HB.out; have := tagPre_len kind parts; omega
      have HTL := Lib.hid hTL
      clear hTL
      go_wp2_with fail
      refine (hashed_calls _ B m C r (tagPre kind parts) HO.out.1 HTL.out hTM).mono ?_
      rintro e w2 ⟨rfl, hg⟩
      have HG := Lib.hid hg
      clear hg
      go_wp2
      go_ret
      exact ⟨rfl, HO.out.2.2.trans HG.out (fun j e => HO.out.2.1 j e)⟩
end Go.Proofs.Ytpdgkgdaaapngaa
