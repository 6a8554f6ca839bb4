/- A string turned into bytes: they are read from a new block. -/
import Derived.Test.YtakhkjidcnahjaaQRead3
set_option linter.unusedVariables false
set_option linter.unusedSimpArgs false
namespace Go.Proofs.Ytakhkjidcnahjaa
open Go.RowKit

theorem bytes_kp (W : World) (e : TypeId) (s : ByteArray) : Kp No W (Lib.bytesWorld W e s) :=
  ⟨rfl, rfl, rfl, by rw [Lib.bytesWorld_size]; omega, fun k hk _ => Lib.bytesWorld_at_old W e s k hk⟩
/-- Laid ahead of a walk: what []byte(s) gives. -/
theorem conv_bytes (s : ByteArray) (W : World) : (convert 9 58 (.string s)).run Try.prog W = .ok (.slice (some ⟨W.heap.size, 0, none⟩) s.size (grownCap W s.size 0 5)) (Lib.bytesWorld W 5 s) :=
  Lib.run_convert_string_bytes W 9 58 5 s Try.underlying9 Try.underlying58 Try.underlying5
theorem size_data (s : ByteArray) : s.data.toList.length = s.size := by rw [Array.length_toList]; rfl
theorem conv_srcB (s : ByteArray) (W : World) : Src (One W.heap.size) (Lib.bytesWorld W 5 s) (some ⟨W.heap.size, 0, none⟩) s.size s.data.toList := by
  refine ⟨size_data s, by rintro ad ⟨⟩; rfl, fun _ => ⟨_, _, rfl, rfl, fun i hi => ?_⟩⟩
  rw [Nat.zero_add, Lib.bytesWorld_cell W _ s i hi]
  rfl
theorem conv_cap (s : ByteArray) (W : World) (h : s.size ≤ 9223372036854775807) : s.size ≤ grownCap W s.size 0 5 ∧ grownCap W s.size 0 5 ≤ 9223372036854775807 :=
  ⟨grownCap_ge _ _ _ _, by have := grownCap_le_maxLen W s.size 0 5 (by simpa [maxLen] using h); simpa [maxLen] using this⟩
theorem conv_apt (s : ByteArray) (W : World) : Apt No (Lib.bytesWorld W 5 s) (One W.heap.size) := by
  rintro x rfl
  exact ⟨by rw [Lib.bytesWorld_size]; omega, not_No _⟩

end Go.Proofs.Ytakhkjidcnahjaa
