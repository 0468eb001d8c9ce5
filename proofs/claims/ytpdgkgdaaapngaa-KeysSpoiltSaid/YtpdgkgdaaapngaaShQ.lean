/- Tag and Number of ostlerref01. -/
import Derived.Test.YtpdgkgdaaapngaaShP
namespace Go.Proofs.Ytpdgkgdaaapngaa
open Go.RowKit
theorem oneRow (w : World) (b : UInt8) : Row (w.alloc (.cells (bcells [b]).toArray 5)) 5 (.slice (some ⟨w.heap.size, 0, none⟩) 1 1) (some w.heap.size) [b] :=
  ⟨⟨rfl, .inr ⟨w.heap.size, 1, _, rfl, Nat.zero_le _, blkAlloc w _, by simp, by simp only [maxLen]; omega, by simp [bcells], by simp [bcells]⟩⟩, rfl⟩
set_option maxRecDepth 100000 in
set_option maxHeartbeats 2000000 in
theorem rTag_calls (w : World) (kind : Int) (hk : 0 ≤ kind ∧ kind < 256) (A : Option Addr) (n c : Nat) (parts : List ByteArray) (hp : StrsIn w A parts) (hn : parts.length = n) (hb : 1 + bulk parts ≤ 140737488355200) :
    Calls Try.prog 31 #[.int .u8 kind, .slice A n c] w fun e w' => e = .returned (.string (tagF kind parts)) ∧ Chg (fun _ => False) w w' := by
  subst hn
  have HP := Lib.hid hp
  have HB := Lib.hid hb
  have hpl := hp.1
  have H1 : Hid (OwnS (fun _ => False) w (w.alloc (.cells #[.int .u8 kind] 5)) (.slice (some ⟨w.heap.size, 0, none⟩) 1 1) [UInt8.ofNat kind.toNat] (some w.heap.size)) := Lib.hid (by
    rw [kindCell kind hk]
    exact ⟨oneRow w _, fun k e => .inr (by injection e with e; omega), (Chg.refl _ w).alloc _⟩)
  clear hp hb hk
  go_enter Try.func31, Try.ntmps31
  go_wp2_with fail
  go_loopw [5, 6] (fun v i wx => ∃ (k : Nat) (B : Option Addr) (m C : Nat) (r : Option Nat), k ≤ parts.length ∧ i = .int .i64 k ∧ v = .slice B m C ∧ HD (OwnS (fun _ => False) w wx (.slice B m C) (tagPre kind (parts.take k)) r)) (fun _ i _ => parts.length - (intOf i).toNat)
  case atStart => exact ⟨0, _, _, _, _, Nat.zero_le _, rfl, rfl, ⟨H1.out⟩⟩
  case round =>
    clear H1
    obtain ⟨k, B, m, C, r, hkl, rfl, rfl, HO⟩ := hrel
    obtain ⟨w2, rfl⟩ : ∃ w2, w2 = wr := ⟨_, rfl⟩
    by_cases hlt : k < parts.length
    · obtain ⟨a, rfl, ha⟩ := HP.out.get k hlt
      have HSA := Lib.hid ha
      have hsa := cellChg ha HO.out.2.2 (fun h => h)
      have hbt := bulk_take parts k hlt
      have htl := tagPre_len kind (parts.take k)
      have HTS := Lib.hid (tagPre_step kind parts k hlt)
      obtain ⟨s, hs⟩ : ∃ s, parts[k] = s := ⟨_, rfl⟩
      rw [hs] at hsa hbt HTS HSA
      have HL4 : Hid ((tagPre kind (parts.take k)).length + 8 ≤ 140737488355328) := Lib.hid (by have := HB.out; omega)
      have HLS : Hid ((tagPre kind (parts.take k) ++ numBytes (s.size : Int) 4).length + s.size ≤ 140737488355328) := Lib.hid (by have := HB.out; rw [List.length_append, numBytes_len]; omega)
      have hsz : s.size ≤ 140737488355328 := by have := HB.out; omega
      clear hs ha hbt htl
      go_wp2_with fail
      refine (num01_calls _ (.slice B m C) r (tagPre kind (parts.take k)) (s.size : Int) 4 HO.out.1 (by omega) (by omega) HL4.out).mono ?_
      rintro e w3 ⟨A2, n2, c2, r2, rfl, hrow, hnx, hg⟩
      have H2 := Lib.hid (HO.out.next hrow hnx hg)
      clear hsa
      have hsa := cellChg HSA.out H2.out.2.2 (fun h => h)
      clear hrow hnx hg
      go_wp2_with (at_builtin; refine wpList_append_str w3 rfl (.tmp 23) (.tmp 27) 34 9 5 rfl Try.underlying34 Try.underlying9 info_u8 (.slice A2 n2 c2) r2 (tagPre kind (parts.take k) ++ numBytes (s.size : Int) 4) s rfl rfl H2.out.1 HLS.out ?_; intro A3 n3 c3 w4 r3 hrow hnext hgrow; have H3 := Lib.hid (H2.out.next hrow hnext ((Chg.refl _ w3).grown hgrow (fun _ hk => .inl hk))); clear hrow hnext hgrow)
      exact ⟨⟨k + 1, A3, n3, c3, r3, by omega, by go_num, rfl, ⟨by rw [HTS.out]; exact H3.out⟩⟩, by simp [intOf]; omega⟩
    · obtain rfl : k = parts.length := by omega
      rw [List.take_length] at HO
      have hTL : (tagPre kind parts).length = m := by
        obtain ⟨g, _, _, h3, _⟩ := HO.out.1.form (by rw [tagPre_len]; omega)
        exact h3.symm
      have hTM : m ≤ 140737488355200 := by have := HB.out; have := tagPre_len kind parts; omega
      have HTL := Lib.hid hTL
      clear hTL
      go_wp2_with fail
      refine (rhash_calls _ B m C r (tagPre kind parts) HO.out.1 HTL.out hTM).mono ?_
      rintro e w3 ⟨rfl, hg⟩
      have HG := Lib.hid hg
      clear hg
      go_wp2
      go_ret
      exact ⟨rfl, HO.out.2.2.trans HG.out (fun j e => HO.out.2.1 j e)⟩
end Go.Proofs.Ytpdgkgdaaapngaa
