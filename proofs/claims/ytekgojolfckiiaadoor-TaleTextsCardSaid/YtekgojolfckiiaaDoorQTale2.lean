/- tale.bytes. -/
import Derived.Test.YtekgojolfckiiaaDoorQTale1
import Derived.StillTailTactics
set_option linter.unusedVariables false
set_option linter.unusedSimpArgs false
namespace Go.Proofs.YtekgojolfckiiaaDoor
open Go.RowKit

def hexB (l : List UInt8) : List UInt8 := l.flatMap fun b => [Tl.hexD.getD (b.toNat / 16) 0, Tl.hexD.getD (b.toNat % 16) 0]
theorem hexL_eq (l : List UInt8) : Tl.hexL l = 46 :: hexB l := rfl
theorem hexB_take {l : List UInt8} {k : Nat} {b : UInt8} (h : l[k]? = some b) : hexB (l.take (k + 1)) = hexB (l.take k) ++ [Tl.hexD.getD (b.toNat / 16) 0, Tl.hexD.getD (b.toNat % 16) 0] := by
  rw [List.take_add_one, h]; simp [hexB]
def bvC (b : UInt8) : List Value := [bv b]
theorem bvC_len (b : UInt8) : (bvC b).length = 1 := rfl
theorem bvC_one (b : UInt8) (u : Value) (h : u ∈ bvC b) : u.oneCell' = true := by
  simp only [bvC, List.mem_cons, List.not_mem_nil, or_false] at h
  subst h; rfl
theorem bvC_flat (xs : List UInt8) : xs.flatMap bvC = xs.map bv := by
  induction xs with
  | nil => rfl
  | cons x xs ih => simp [bvC, ← ih]
theorem OwnR.ownB {w : World} {v : Value} {o : Option Nat} {bs : List UInt8} (h : OwnR 5 1 bvC w v o bs) : OwnB w v o bs := ⟨by have := h.1; rwa [bvC_flat] at this, h.2⟩
theorem wraps_u8 (n : Int) (h₀ : 0 ≤ n) (h₁ : n < 2 ^ 8) : IntKind.u8.wrap n = n := by rw [IntKind.wrap_u8]; omega
theorem and15 (b : UInt8) : bits .and .u8 (b.toNat : Int) 15 = (b.toNat : Int) % 16 := by
  have h := (bits_nat .u8 8 (by decide) wraps_u8 b.toNat 15 b.toNat_lt (by decide)).1
  have e : b.toNat &&& 15 = b.toNat % 16 := Nat.and_two_pow_sub_one_eq_mod b.toNat 4
  rw [e] at h
  exact h
def hexArr : ByteArray := ⟨#[48, 49, 50, 51, 52, 53, 54, 55, 56, 57, 97, 98, 99, 100, 101, 102]⟩
theorem hex_at : ∀ j : Fin 16, hexArr[j.val]'j.isLt = Tl.hexD.getD j.val 0 := by decide
theorem hex_idx (i : Int) (j : Nat) (hi : i = (j : Int)) (hj : j < 16) (h : i.toNat < hexArr.size) : (((hexArr[i.toNat]'h).toNat : Nat) : Int) = ((Tl.hexD.getD j 0).toNat : Int) := by
  subst hi
  have := hex_at ⟨j, hj⟩
  simp only at this
  rw [← this]
  rfl
theorem two_bytes {a b : Int} {x y : UInt8} (ha : a = (x.toNat : Int)) (hb : b = (y.toNat : Int)) : [Value.int .u8 a, Value.int .u8 b] = [x, y].flatMap bvC := by
  rw [ha, hb]; rfl
def HexRel (w : World) (s : ByteArray) (k : Nat) (v : Value) (wr : World) : Prop := ∃ o, OwnR 5 1 bvC wr v o (46 :: hexB (s.data.toList.take k)) ∧ Kp No w wr ∧ ∀ y, o = some y → w.heap.size ≤ y
theorem byte_at (s : ByteArray) (k : Nat) (h : k < s.size) : s.data.toList[k]? = some s[k] := by
  rw [List.getElem?_eq_getElem (by rw [size_data]; exact h)]; rfl
theorem hexB_len (l : List UInt8) : (hexB l).length = 2 * l.length := by
  have := Tl.hexL_len l
  rw [hexL_eq, List.length_cons] at this
  omega
theorem infoU8' : (Tryd.prog.info? 5).map (fun i => (i.zero, i.size, i.bytes)) = some (some (.int .u8 0), 1, 1) := by kernel_rfl
set_option maxRecDepth 100000 in
set_option maxHeartbeats 1000000 in
theorem bytes_c (s : ByteArray) (w : World) (hs : s.size ≤ 1000000) : Calls Tryd.prog 19 #[.string s] w (RetS w (Tl.hexL s.data.toList)) := by
  go_enter Tryd.func19, Tryd.ntmps19
  go_wp2_with fail
  go_loopw [3, 8] (fun v i wr => ∃ k : Nat, k ≤ s.size ∧ i = .int .i64 k ∧ HexRel w s k v wr) (fun _ i _ => s.size - (intOf i).toNat)
  case atStart =>
    refine ⟨0, Nat.zero_le _, rfl, some w.heap.size, ⟨⟨rfl, .inr ⟨w.heap.size, 1, _, rfl, Nat.zero_le _, heap_alloc_new _ _, Nat.le_refl _, by unfold maxLen; omega, rfl, rfl⟩⟩, rfl⟩, (Kp.refl _ _).alloc _, fun y hy => by injection hy with hy; omega⟩
  case round =>
    obtain ⟨k, hk, rfl, o, ho, hkp, hoy⟩ := hrel
    have HO := Lib.hid ho
    have HK := Lib.hid hkp
    have HY := Lib.hid hoy
    obtain ⟨A, n, c, rfl⟩ := ho.form
    clear ho hkp hoy
    by_cases hlt : k < s.size
    · have hb := s[k].toNat_lt
      have hb1 : (s[k].toNat : Int) < 256 := by omega
      have hb2 : (0 : Int) ≤ (s[k].toNat : Int) := by omega
      go_wp2_with fail
      have hc1 : (0 : Int) ≤ (s[k].toNat : Int) / 16 := by omega
      have hc2 : (s[k].toNat : Int) / 16 < 16 := by omega
      have hand := and15 s[k]
      have hc3 : (0 : Int) ≤ (s[k].toNat : Int) % 16 := by omega
      have hc4 : (s[k].toNat : Int) % 16 < 16 := by omega
      have hlk : (hexB (s.data.toList.take k)).length ≤ 2000000 := by
        rw [hexB_len, List.length_take]; omega
      have HLA := Lib.hid (show ((46 :: hexB (s.data.toList.take k)).length + 2) * 1 ≤ 140737488355328 by rw [List.length_cons]; omega)
      have HLB := Lib.hid (show (46 :: hexB (s.data.toList.take k)).length + 2 ≤ 140737488355328 by rw [List.length_cons]; omega)
      clear hlk
      go_region_law (refine step_appn bvC bvC_len bvC_one Tryd.underlying44 infoU8' rfl (by omega) rfl (.tmp 11) (.tmp 22) rfl (.slice A n c) o (46 :: hexB (s.data.toList.take k)) [Tl.hexD.getD (s[k].toNat / 16) 0, Tl.hexD.getD (s[k].toNat % 16) 0] (by simp [Act.eval, Act.put]) ⟨wr.heap.size, 0, none⟩ 2 2 (by simp [Act.eval, Act.put]) rfl (cells_new _ _ (by simp) _ _ _ (by exact two_bytes (hex_idx _ _ (by omega) (by omega) _) (hex_idx _ _ (by omega) (by omega) _))) (HO.out.kpNo (by repeat (first | exact Kp.refl _ _ | apply Kp.drew | apply Kp.alloc))) HLA.out HLB.out ?_; intro v1 w1 o1 hr1 hn1 hk1)
      all_goals
        have HR1 := Lib.hid hr1
        have HN1 := Lib.hid (Nxt.of_le (w := wr) hn1 (by simp))
        have HK1 := Lib.hid (show Kp No w w1 from HK.out.trans (S' := Own o) (Kp.then_ (by repeat (first | exact Kp.refl _ _ | apply Kp.drew | apply Kp.alloc)) hk1) (fun i hi e => by have := HY.out _ e; omega))
        clear hr1 hn1 hk1 hand
        go_wp2_with fail
        go_roundw
        case rel =>
          refine ⟨k + 1, by omega, by go_num, o1, ?_, HK1.out, ?_⟩
          · rw [hexB_take (byte_at s k hlt), ← List.cons_append]; exact HR1.out
          · intro y hy
            have := HK.out.size
            rcases HN1.out with rfl | ⟨y', rfl, hy'⟩
            · exact HY.out _ hy
            · injection hy with hy; omega
        case measure => simp [intOf]; omega
    · obtain rfl : k = s.size := by omega
      have hcv := conv_own HO.out.ownB
      rw [List.take_of_length_le (by rw [size_data]; omega), ← hexL_eq] at hcv
      have HS := Lib.hid (show RetS w (Tl.hexL s.data.toList) (.returned (.string ⟨(Tl.hexL s.data.toList).toArray⟩)) wr from ⟨rfl, HK.out⟩)
      generalize (⟨(Tl.hexL s.data.toList).toArray⟩ : ByteArray) = T at hcv HS
      go_wp2_with fail
      go_ret
      exact HS.out

end Go.Proofs.YtekgojolfckiiaaDoor
