/- The law side: decimal, hex. -/
import Derived.Test.YtekgojolfckiiaaDoorQTale11
set_option linter.unusedVariables false
set_option linter.unusedSimpArgs false
namespace Go.Proofs.YtekgojolfckiiaaDoor
open Go.RowKit

theorem own_newB (x : UInt8) (v : Int) (hv : v = (x.toNat : Int)) (w : World) : OwnB (w.alloc (.cells #[.int .u8 v] 5)) (.slice (some ⟨w.heap.size, 0, none⟩) 1 1) (some w.heap.size) [x] := by
  subst hv
  exact ⟨⟨rfl, .inr ⟨w.heap.size, 1, _, rfl, Nat.zero_le _, heap_alloc_new _ _, Nat.le_refl _, by unfold maxLen; omega, rfl, rfl⟩⟩, rfl⟩
theorem dec_step (m : Nat) (s : List UInt8) (h : 9 < m) : Lib.decDigits (m / 10) ++ (UInt8.ofNat (48 + m % 10) :: s) = Lib.decDigits m ++ s := by
  conv => rhs; rw [Lib.decDigits, dif_neg (by omega)]
  simp
theorem dec_last (m : Nat) (s : List UInt8) (h : m ≤ 9) : UInt8.ofNat (48 + m) :: s = Lib.decDigits m ++ s := by
  conv => rhs; rw [Lib.decDigits, dif_pos (by omega)]
  simp
set_option maxRecDepth 100000 in
set_option maxHeartbeats 2000000 in
theorem dec_c (n : Nat) (w : World) (hn : n ≤ 9223372036854775807) : Calls Tryd.prog 13 #[.int .i64 n] w (RetS w (Lib.decDigits n)) := by
  go_enter Tryd.func13, Tryd.ntmps13
  go_wp2_with fail
  go_loopw [0, 3] (fun i v wr => ∃ (m : Nat) (s : List UInt8), m ≤ n ∧ i = .int .i64 m ∧ v = .string (bT s) ∧ Lib.decDigits m ++ s = Lib.decDigits n ∧ Kp No w wr) (fun i _ _ => (intOf i).toNat)
  case atStart => exact ⟨n, [], Nat.le_refl _, rfl, rfl, by simp, Kp.refl _ _⟩
  case round =>
    obtain ⟨m, s, hm, rfl, rfl, hd, hk⟩ := hrel
    have HK := Lib.hid hk
    have HD := Lib.hid hd
    have hsz : s.length ≤ 19 := by
      have := congrArg List.length hd
      have h2 : (Lib.decDigits n).length ≤ 19 := by rw [Lib.decDigits_length]; exact Tl.nDigits_le 18 n (by omega)
      simp at this
      omega
    have hts : (bT s).size ≤ 19 := by rw [bT_size]; exact hsz
    clear hk hd
    by_cases h9 : 9 < m
    · obtain ⟨b0, hb0⟩ : ∃ b0, UInt8.ofNat (48 + m % 10) = b0 := ⟨_, rfl⟩
      have hbv : 48 + (m : Int) % 10 = (b0.toNat : Int) := by rw [← hb0, UInt8.toNat_ofNat_of_lt' (by simp [UInt8.size]; omega)]; omega
      have hcv := conv_own (own_newB b0 (48 + (m : Int) % 10) hbv wr)
      have HS := Lib.hid (show (⟨#[b0]⟩ : ByteArray) ++ bT s = bT (b0 :: s) from by apply ByteArray.ext; simp [bT])
      have HST := Lib.hid (show Lib.decDigits (m / 10) ++ b0 :: s = Lib.decDigits m ++ s from by rw [← hb0]; exact dec_step m s h9)
      clear hb0 hbv
      go_wp2_with fail
      go_roundw
      case rel => exact ⟨m / 10, b0 :: s, by omega, by go_num, by rw [HS.out], by rw [HST.out]; exact HD.out, HK.out.alloc _⟩
      case measure => simp [intOf]; omega
    · obtain ⟨b0, hb0⟩ : ∃ b0, UInt8.ofNat (48 + m) = b0 := ⟨_, rfl⟩
      have hbv : 48 + (m : Int) = (b0.toNat : Int) := by rw [← hb0, UInt8.toNat_ofNat_of_lt' (by simp [UInt8.size]; omega)]; omega
      have hcv := conv_own (own_newB b0 (48 + (m : Int)) hbv wr)
      have HF := Lib.hid (show RetS w (Lib.decDigits n) (.returned (.string ((⟨#[b0]⟩ : ByteArray) ++ bT s))) (wr.alloc (.cells #[.int .u8 (48 + (m : Int))] 5)) from ⟨by
        rw [show (⟨#[b0]⟩ : ByteArray) ++ bT s = bT (b0 :: s) from by apply ByteArray.ext; simp [bT]]
        rw [← HD.out, ← dec_last m s (by omega), hb0], HK.out.alloc _⟩)
      clear hb0 hbv HD
      generalize Lib.decDigits n = dn at *
      go_wp2_with fail
      go_ret
      exact HF.out

set_option maxRecDepth 100000 in
set_option maxHeartbeats 1000000 in
theorem lhex_c (s : ByteArray) (w : World) (hs : s.size ≤ 1000000) : Calls Tryd.prog 14 #[.string s] w (RetS w (Tl.hexL s.data.toList)) := by
  go_enter Tryd.func14, Tryd.ntmps14
  go_wp2_with fail
  go_loopw [3, 4] (fun v i wr => ∃ k : Nat, k ≤ s.size ∧ i = .int .i64 k ∧ HexRel w s k v wr) (fun _ i _ => s.size - (intOf i).toNat)
  case atStart =>
    refine ⟨0, Nat.zero_le _, rfl, some w.heap.size, ⟨⟨rfl, .inr ⟨w.heap.size, 1, _, rfl, Nat.zero_le _, heap_alloc_new _ _, Nat.le_refl _, by unfold maxLen; omega, rfl, rfl⟩⟩, rfl⟩, (Kp.refl _ _).alloc _, fun y hy => by injection hy with hy; omega⟩
  case round =>
    obtain ⟨k, hk, rfl, o, ho, hkp, hoy⟩ := hrel
    have HO := Lib.hid ho
    have HK := Lib.hid hkp
    have HY := Lib.hid hoy
    obtain ⟨A, n, c, rfl⟩ := ho.form
    clear ho hkp hoy
    by_cases hlt : k < s.size
    · have hb := s[k].toNat_lt
      have hb1 : (s[k].toNat : Int) < 256 := by omega
      have hb2 : (0 : Int) ≤ (s[k].toNat : Int) := by omega
      go_wp2_with fail
      have hc1 : (0 : Int) ≤ (s[k].toNat : Int) / 16 := by omega
      have hc2 : (s[k].toNat : Int) / 16 < 16 := by omega
      have hand := and15 s[k]
      have hc3 : (0 : Int) ≤ (s[k].toNat : Int) % 16 := by omega
      have hc4 : (s[k].toNat : Int) % 16 < 16 := by omega
      have hlk : (hexB (s.data.toList.take k)).length ≤ 2000000 := by
        rw [hexB_len, List.length_take]; omega
      have HLA := Lib.hid (show ((46 :: hexB (s.data.toList.take k)).length + 2) * 1 ≤ 140737488355328 by rw [List.length_cons]; omega)
      have HLB := Lib.hid (show (46 :: hexB (s.data.toList.take k)).length + 2 ≤ 140737488355328 by rw [List.length_cons]; omega)
      clear hlk
      go_region_law (refine step_appn bvC bvC_len bvC_one Tryd.underlying44 infoU8' rfl (by omega) rfl (.tmp 12) (.tmp 23) rfl (.slice A n c) o (46 :: hexB (s.data.toList.take k)) [Tl.hexD.getD (s[k].toNat / 16) 0, Tl.hexD.getD (s[k].toNat % 16) 0] (by simp [Act.eval, Act.put]) ⟨wr.heap.size, 0, none⟩ 2 2 (by simp [Act.eval, Act.put]) rfl (cells_new _ _ (by simp) _ _ _ (by exact two_bytes (hex_idx _ _ (by omega) (by omega) _) (hex_idx _ _ (by omega) (by omega) _))) (HO.out.kpNo (by repeat (first | exact Kp.refl _ _ | apply Kp.drew | apply Kp.alloc))) HLA.out HLB.out ?_; intro v1 w1 o1 hr1 hn1 hk1)
      all_goals
        have HR1 := Lib.hid hr1
        have HN1 := Lib.hid (Nxt.of_le (w := wr) hn1 (by simp))
        have HK1 := Lib.hid (show Kp No w w1 from HK.out.trans (S' := Own o) (Kp.then_ (by repeat (first | exact Kp.refl _ _ | apply Kp.drew | apply Kp.alloc)) hk1) (fun i hi e => by have := HY.out _ e; omega))
        clear hr1 hn1 hk1 hand
        go_wp2_with fail
        go_roundw
        case rel =>
          refine ⟨k + 1, by omega, by go_num, o1, ?_, HK1.out, ?_⟩
          · rw [hexB_take (byte_at s k hlt), ← List.cons_append]; exact HR1.out
          · intro y hy
            have := HK.out.size
            rcases HN1.out with rfl | ⟨y', rfl, hy'⟩
            · exact HY.out _ hy
            · injection hy with hy; omega
        case measure => simp [intOf]; omega
    · obtain rfl : k = s.size := by omega
      have hcv := conv_own HO.out.ownB
      rw [List.take_of_length_le (by rw [size_data]; omega), ← hexL_eq] at hcv
      have HS := Lib.hid (show RetS w (Tl.hexL s.data.toList) (.returned (.string ⟨(Tl.hexL s.data.toList).toArray⟩)) wr from ⟨rfl, HK.out⟩)
      generalize (⟨(Tl.hexL s.data.toList).toArray⟩ : ByteArray) = T at hcv HS
      go_wp2_with fail
      go_ret
      exact HS.out

end Go.Proofs.YtekgojolfckiiaaDoor
