/- What was packed is read: numbers, texts, truths. -/
import Derived.Test.YtakhkjidcnahjaaQConv
set_option linter.unusedVariables false
set_option linter.unusedSimpArgs false
namespace Go.Proofs.Ytakhkjidcnahjaa
open Go.RowKit

theorem u8_toNat (n : Int) : ((u8 n).toNat : Int) = n % 256 := by
  have h := bv_u8 n
  simp only [bv] at h
  injection h
theorem numS_be32 (n : Int) (h0 : 0 ≤ n) (h1 : n ≤ 268435455) (r : List UInt8) : numS 0 (be32 n ++ r) = (n, 0, r) := by
  have e : (be4 (u8 (n / 16777216)) (u8 (n / 65536)) (u8 (n / 256)) (u8 n) : Int) = n := by
    have a := u8_toNat (n / 16777216)
    have b := u8_toNat (n / 65536)
    have c := u8_toNat (n / 256)
    have d := u8_toNat n
    unfold be4
    omega
  show numS 0 (u8 (n / 16777216) :: u8 (n / 65536) :: u8 (n / 256) :: u8 n :: r) = _
  rw [numS_yes r (by omega), e]
theorem bytes_mk (s : ByteArray) : (⟨s.data.toList.toArray⟩ : ByteArray) = s := by simp
theorem textS_textB (s : ByteArray) (h : s.size ≤ 268435455) (r : List UInt8) : textS 0 (textB s ++ r) = (s, 0, r) := by
  have hn : numS 0 (textB s ++ r) = ((s.size : Int), 0, s.data.toList ++ r) := by
    rw [textB, List.append_assoc]
    exact numS_be32 _ (by omega) (by omega) _
  have hl : s.data.toList.length = s.size := size_data s
  rw [textS_yes hn (by rw [List.length_append]; omega), List.take_append_of_le_length (by omega), List.drop_append_of_le_length (by omega), List.take_of_length_le (by omega), List.drop_of_length_le (by omega), bytes_mk]
  rfl
theorem truthS_truthB (t : Bool) (r : List UInt8) : truthS 0 (truthB t ++ r) = (t, 0, r) := by cases t <;> rfl

end Go.Proofs.Ytakhkjidcnahjaa
