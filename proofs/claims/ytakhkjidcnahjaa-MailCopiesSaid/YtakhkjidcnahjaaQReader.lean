/- The reader of parcel: what take, Num, Text, Truth and End answer and leave. -/
import Derived.Test.YtakhkjidcnahjaaQBase
set_option linter.unusedVariables false
set_option linter.unusedSimpArgs false
namespace Go.Proofs.Ytakhkjidcnahjaa
open Go.RowKit

/-- A reader at block b: its error, what is left to read (in blocks of ok, none of them b). -/
def Rdr (ok : Nat → Prop) (w : World) (b : Nat) (e : Int) (bs : List UInt8) : Prop :=
  ∃ A c, w.cell? ⟨b, 0, none⟩ = some (.slice A bs.length c) ∧ w.cell? ⟨b, 1, none⟩ = some (.int .i64 e) ∧
    w.frozen? ⟨b, 0, none⟩ = false ∧ w.frozen? ⟨b, 1, none⟩ = false ∧ bs.length ≤ c ∧ c ≤ 9223372036854775807 ∧ Src ok w A bs.length bs ∧ Apt (One b) w ok

/-- What take leaves where there is enough. -/
def TakeYes (w : World) (b : Nat) (A : Option Addr) (n c k : Nat) (e : Ending) (w' : World) : Prop :=
  e = .returned (.slice A k c) ∧ ∃ A1, (A1 = A ∧ n = k ∨ A1 = A.map fun x => x.add k) ∧ w' = w.setCell ⟨b, 0, none⟩ (.slice A1 (n - k) (c - k))
set_option maxHeartbeats 400000 in
theorem take_yes (w : World) (b : Nat) (A : Option Addr) (n c : Nat) (k : Nat)
    (h0 : w.cell? ⟨b, 0, none⟩ = some (.slice A n c)) (h1 : w.cell? ⟨b, 1, none⟩ = some (.int .i64 0))
    (z0 : w.frozen? ⟨b, 0, none⟩ = false) (z1 : w.frozen? ⟨b, 1, none⟩ = false)
    (hk : k ≤ n) (hc : n ≤ c) (hc2 : c ≤ 9223372036854775807) :
    Calls Try.prog 68 #[.pointer (some ⟨b, 0, none⟩), .int .i64 k] w (TakeYes w b A n c k) := by
  go_enter Try.func68, Try.ntmps68
  go_wp2
  · go_ret
    have hh : c = k := by assumption
    subst hh
    refine ⟨rfl, A, .inl ⟨rfl, by omega⟩, ?_⟩
    rw [Nat.sub_self]
  · go_ret
    exact ⟨rfl, _, .inr rfl, rfl⟩

theorem make_0 : ∀ W : World, (Instr.makeSlice 58 (.int .i64 0) (.int .i64 0)).run Try.prog W = .ok (.slice (some ⟨W.heap.size, 0, none⟩) 0 0) (W.alloc (.cells #[] 5)) := fun _ => by kernel_rfl
theorem make_1 : ∀ W : World, (Instr.makeSlice 58 (.int .i64 1) (.int .i64 1)).run Try.prog W = .ok (.slice (some ⟨W.heap.size, 0, none⟩) 1 1) (W.alloc (.cells #[.int .u8 0] 5)) := fun _ => by kernel_rfl
theorem make_2 : ∀ W : World, (Instr.makeSlice 58 (.int .i64 2) (.int .i64 2)).run Try.prog W = .ok (.slice (some ⟨W.heap.size, 0, none⟩) 2 2) (W.alloc (.cells #[.int .u8 0, .int .u8 0] 5)) := fun _ => by kernel_rfl
theorem make_3 : ∀ W : World, (Instr.makeSlice 58 (.int .i64 3) (.int .i64 3)).run Try.prog W = .ok (.slice (some ⟨W.heap.size, 0, none⟩) 3 3) (W.alloc (.cells #[.int .u8 0, .int .u8 0, .int .u8 0] 5)) := fun _ => by kernel_rfl
theorem make_4 : ∀ W : World, (Instr.makeSlice 58 (.int .i64 4) (.int .i64 4)).run Try.prog W = .ok (.slice (some ⟨W.heap.size, 0, none⟩) 4 4) (W.alloc (.cells #[.int .u8 0, .int .u8 0, .int .u8 0, .int .u8 0] 5)) := fun _ => by kernel_rfl

/-- What take leaves where it is short of bytes. -/
def TakeShort (w : World) (b m : Nat) (cs : Array Value) (e : Ending) (w' : World) : Prop :=
  e = .returned (.slice (some ⟨w.heap.size, 0, none⟩) m m) ∧ w' = (w.setCell ⟨b, 1, none⟩ (.int .i64 7)).alloc (.cells cs 5)
/-- What take leaves where there was an error. -/
def TakeBad (w : World) (m : Nat) (cs : Array Value) (e : Ending) (w' : World) : Prop :=
  e = .returned (.slice (some ⟨w.heap.size, 0, none⟩) m m) ∧ w' = w.alloc (.cells cs 5)

set_option maxHeartbeats 400000 in
theorem take_short1 (w : World) (b : Nat) (A : Option Addr) (n c : Nat)
    (h0 : w.cell? ⟨b, 0, none⟩ = some (.slice A n c)) (h1 : w.cell? ⟨b, 1, none⟩ = some (.int .i64 0))
    (z0 : w.frozen? ⟨b, 0, none⟩ = false) (z1 : w.frozen? ⟨b, 1, none⟩ = false) (hk : n < 1) :
    Calls Try.prog 68 #[.pointer (some ⟨b, 0, none⟩), .int .i64 1] w (TakeShort w b 1 #[.int .u8 0]) := by
  obtain rfl : n = 0 := by omega
  have hmk := make_1
  go_enter Try.func68, Try.ntmps68
  go_wp2
  go_ret
  exact ⟨by simp, rfl⟩

set_option maxHeartbeats 400000 in
theorem take_short2 (w : World) (b : Nat) (A : Option Addr) (n c : Nat)
    (h0 : w.cell? ⟨b, 0, none⟩ = some (.slice A n c)) (h1 : w.cell? ⟨b, 1, none⟩ = some (.int .i64 0))
    (z0 : w.frozen? ⟨b, 0, none⟩ = false) (z1 : w.frozen? ⟨b, 1, none⟩ = false) (hk : n < 2) :
    Calls Try.prog 68 #[.pointer (some ⟨b, 0, none⟩), .int .i64 2] w (TakeShort w b 2 #[.int .u8 0, .int .u8 0]) := by
  have hmk := make_2
  go_enter Try.func68, Try.ntmps68
  go_wp2
  go_ret
  exact ⟨by simp, rfl⟩

set_option maxHeartbeats 400000 in
theorem take_short3 (w : World) (b : Nat) (A : Option Addr) (n c : Nat)
    (h0 : w.cell? ⟨b, 0, none⟩ = some (.slice A n c)) (h1 : w.cell? ⟨b, 1, none⟩ = some (.int .i64 0))
    (z0 : w.frozen? ⟨b, 0, none⟩ = false) (z1 : w.frozen? ⟨b, 1, none⟩ = false) (hk : n < 3) :
    Calls Try.prog 68 #[.pointer (some ⟨b, 0, none⟩), .int .i64 3] w (TakeShort w b 3 #[.int .u8 0, .int .u8 0, .int .u8 0]) := by
  have hmk := make_3
  go_enter Try.func68, Try.ntmps68
  go_wp2
  go_ret
  exact ⟨by simp, rfl⟩

set_option maxHeartbeats 400000 in
theorem take_short4 (w : World) (b : Nat) (A : Option Addr) (n c : Nat)
    (h0 : w.cell? ⟨b, 0, none⟩ = some (.slice A n c)) (h1 : w.cell? ⟨b, 1, none⟩ = some (.int .i64 0))
    (z0 : w.frozen? ⟨b, 0, none⟩ = false) (z1 : w.frozen? ⟨b, 1, none⟩ = false) (hk : n < 4) :
    Calls Try.prog 68 #[.pointer (some ⟨b, 0, none⟩), .int .i64 4] w (TakeShort w b 4 #[.int .u8 0, .int .u8 0, .int .u8 0, .int .u8 0]) := by
  have hmk := make_4
  go_enter Try.func68, Try.ntmps68
  go_wp2
  go_ret
  exact ⟨by simp, rfl⟩

set_option maxHeartbeats 400000 in
theorem take_shortk (w : World) (b : Nat) (A : Option Addr) (n c : Nat) (k : Nat)
    (h0 : w.cell? ⟨b, 0, none⟩ = some (.slice A n c)) (h1 : w.cell? ⟨b, 1, none⟩ = some (.int .i64 0))
    (z0 : w.frozen? ⟨b, 0, none⟩ = false) (z1 : w.frozen? ⟨b, 1, none⟩ = false) (hk : n < k) (hk4 : 4 < k) (hk2 : k ≤ 268435455) :
    Calls Try.prog 68 #[.pointer (some ⟨b, 0, none⟩), .int .i64 k] w (TakeShort w b 4 #[.int .u8 0, .int .u8 0, .int .u8 0, .int .u8 0]) := by
  have hk5 : ¬ (k < 4) := by omega
  have hk6 : ¬ (k ≤ 4) := by omega
  have hmk := make_4
  go_enter Try.func68, Try.ntmps68
  go_wp2
  go_ret
  exact ⟨by simp, rfl⟩

set_option maxHeartbeats 400000 in
theorem take_bad0 (w : World) (b : Nat) (A : Option Addr) (n c : Nat) (e0 : Int)
    (h0 : w.cell? ⟨b, 0, none⟩ = some (.slice A n c)) (h1 : w.cell? ⟨b, 1, none⟩ = some (.int .i64 e0))
    (z0 : w.frozen? ⟨b, 0, none⟩ = false) (z1 : w.frozen? ⟨b, 1, none⟩ = false) (he : (e0 == 0) = false) (he' : (e0 != 0) = true) :
    Calls Try.prog 68 #[.pointer (some ⟨b, 0, none⟩), .int .i64 0] w (TakeBad w 0 #[]) := by
  have hmk := make_0
  go_enter Try.func68, Try.ntmps68
  go_wp2
  go_ret
  exact ⟨by simp, rfl⟩

set_option maxHeartbeats 400000 in
theorem take_bad1 (w : World) (b : Nat) (A : Option Addr) (n c : Nat) (e0 : Int)
    (h0 : w.cell? ⟨b, 0, none⟩ = some (.slice A n c)) (h1 : w.cell? ⟨b, 1, none⟩ = some (.int .i64 e0))
    (z0 : w.frozen? ⟨b, 0, none⟩ = false) (z1 : w.frozen? ⟨b, 1, none⟩ = false) (he : (e0 == 0) = false) (he' : (e0 != 0) = true) :
    Calls Try.prog 68 #[.pointer (some ⟨b, 0, none⟩), .int .i64 1] w (TakeBad w 1 #[.int .u8 0]) := by
  have hmk := make_1
  go_enter Try.func68, Try.ntmps68
  go_wp2
  go_ret
  exact ⟨by simp, rfl⟩

set_option maxHeartbeats 400000 in
theorem take_bad4 (w : World) (b : Nat) (A : Option Addr) (n c : Nat) (e0 : Int)
    (h0 : w.cell? ⟨b, 0, none⟩ = some (.slice A n c)) (h1 : w.cell? ⟨b, 1, none⟩ = some (.int .i64 e0))
    (z0 : w.frozen? ⟨b, 0, none⟩ = false) (z1 : w.frozen? ⟨b, 1, none⟩ = false) (he : (e0 == 0) = false) (he' : (e0 != 0) = true) :
    Calls Try.prog 68 #[.pointer (some ⟨b, 0, none⟩), .int .i64 4] w (TakeBad w 4 #[.int .u8 0, .int .u8 0, .int .u8 0, .int .u8 0]) := by
  have hmk := make_4
  go_enter Try.func68, Try.ntmps68
  go_wp2
  go_ret
  exact ⟨by simp, rfl⟩

end Go.Proofs.Ytakhkjidcnahjaa
