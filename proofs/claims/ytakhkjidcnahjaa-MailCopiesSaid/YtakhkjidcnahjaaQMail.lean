/- The mail's methods: New, Len, at, Copy, Lose, Take, Send. -/
import Derived.Test.YtakhkjidcnahjaaQNoteRead
import Derived.Deep.MidRow
set_option linter.unusedVariables false
set_option linter.unusedSimpArgs false
namespace Go.Proofs.Ytakhkjidcnahjaa
open Go.RowKit

/-- A mail at block m, its spool at block b, the spool's row in block o. -/
def Mal (w : World) (m b : Nat) (o : Option Nat) (xs : List ByteArray) : Prop :=
  w.heap[m]? = some (.cells #[.pointer (some ⟨b, 0, none⟩)] 67) ∧ Spl w b 512 o xs ∧ m ≠ b ∧ o ≠ some m ∧ xs.length ≤ 512
/-- The blocks of a mail. -/
def MF (m b : Nat) (o : Option Nat) : Nat → Prop := fun k => k = m ∨ PF b o k
theorem Mal.kp {S : Nat → Prop} {w w' : World} {m b : Nat} {o : Option Nat} {xs : List ByteArray} (h : Mal w m b o xs) (k : Kp S w w') (hs : ∀ x, MF m b o x → ¬ S x) : Mal w' m b o xs :=
  ⟨(k.block m (Array.getElem?_eq_some_iff.1 h.1).1 (hs m (.inl rfl))).trans h.1, h.2.1.kp k (hs b (.inr (.inl rfl))) (fun x hx => hs x (.inr (.inr hx))), h.2.2⟩
theorem Mal.kpNo {w w' : World} {m b : Nat} {o : Option Nat} {xs : List ByteArray} (h : Mal w m b o xs) (k : Kp No w w') : Mal w' m b o xs := h.kp k fun x _ => not_No x
theorem Mal.lt {w : World} {m b : Nat} {o : Option Nat} {xs : List ByteArray} (h : Mal w m b o xs) : m < w.heap.size ∧ b < w.heap.size ∧ ∀ k, o = some k → k < w.heap.size :=
  ⟨(Array.getElem?_eq_some_iff.1 h.1).1, h.2.1.lt, fun k hk => h.2.1.oLt hk⟩
/-- Behind a change of the spool alone. -/
theorem Mal.next {w w' : World} {m b : Nat} {o o' : Option Nat} {xs ys : List ByteArray} (h : Mal w m b o xs) (hs : Spl w' b 512 o' ys) (hn : Nxt w o o') (k : Kp (PF b o) w w') (hl : ys.length ≤ 512) : Mal w' m b o' ys := by
  have hm := h.lt.1
  refine ⟨(k.block m hm ?_).trans h.1, hs, h.2.2.1, hn.ne hm h.2.2.2.1, hl⟩
  rintro (e | e)
  · exact h.2.2.1 e
  · exact h.2.2.2.1 e

theorem mailNew_c (w : World) : Calls Try.prog 7 #[] w fun e w' => e = .returned (.pointer (some ⟨w.heap.size + 1, 0, none⟩)) ∧ w' = (w.alloc (.cells #[.int .i64 512, .slice none 0 0] 93)).alloc (.cells #[.pointer (some ⟨w.heap.size, 0, none⟩)] 67) := by
  go_enter Try.func7, Try.ntmps7
  go_wp2_with (go_at_call 17; refine (spoolNew_c _ _).mono ?_; rintro e w' ⟨rfl, rfl⟩)
  go_ret
  exact ⟨rfl, rfl⟩
theorem Mal.made (w : World) : Mal ((w.alloc (.cells #[.int .i64 512, .slice none 0 0] 93)).alloc (.cells #[.pointer (some ⟨w.heap.size, 0, none⟩)] 67)) (w.heap.size + 1) w.heap.size none [] :=
  ⟨heap_alloc2_new _ _ _, ⟨_, heap_alloc2_old _ _ _, OwnR.nil _ _ _ _, by simp⟩, by omega, by simp, by simp⟩

theorem mailLen_c {w : World} {m b : Nat} {o : Option Nat} {xs : List ByteArray} (h : Mal w m b o xs) :
    Calls Try.prog 15 #[.pointer (some ⟨m, 0, none⟩)] w fun e w' => e = .returned (.int .i64 xs.length) ∧ w' = w := by
  have H := Lib.hid h
  obtain ⟨fc, ff⟩ := row_facts h.1
  have c0 : w.cell? ⟨m, 0, none⟩ = some (.pointer (some ⟨b, 0, none⟩)) := (fc 0).trans rfl
  clear fc ff h
  go_enter Try.func15, Try.ntmps15
  go_wp2_with (go_at_call 37; refine (spoolLen_c H.out.2.1).mono ?_; rintro e w' ⟨rfl, rfl⟩)
  go_ret
  exact ⟨rfl, rfl⟩

/-- The place on the way; -1: there is none. -/
def atS (n : Nat) (i : Int) : Int := if i < 0 ∨ n = 0 then -1 else i % n
theorem atS_no {n : Nat} {i : Int} (h : i < 0 ∨ n = 0) : atS n i = -1 := if_pos h
theorem atS_yes {n : Nat} {i : Int} (h : 0 ≤ i) (hn : 0 < n) : atS n i = ((i.toNat % n : Nat) : Int) := by
  rw [atS, if_neg (by omega)]
  obtain ⟨j, rfl⟩ := Int.eq_ofNat_of_zero_le h
  simp
set_option maxHeartbeats 400000 in
theorem mailAt_c {w : World} {m b : Nat} {o : Option Nat} {xs : List ByteArray} (h : Mal w m b o xs) (i : Int) :
    Calls Try.prog 28 #[.pointer (some ⟨m, 0, none⟩), .int .i64 i] w fun e w' => e = .returned (.int .i64 (atS xs.length i)) ∧ w' = w := by
  have H := Lib.hid h
  have hl := h.2.2.2.2
  clear h
  by_cases hi : i < 0
  · have HE := Lib.hid (atS_no (n := xs.length) (i := i) (.inl hi))
    go_enter Try.func28, Try.ntmps28
    go_wp2
    go_ret
    exact ⟨by rw [HE.out]; rfl, rfl⟩
  · have hi' : 0 ≤ i := by omega
    have HE := Lib.hid (show atS xs.length i = if xs.length = 0 then -1 else i % xs.length by unfold atS; split <;> split <;> first | rfl | omega)
    have HL := Lib.hid fun W (k : W = w) => (show Calls Try.prog 15 #[.pointer (some ⟨m, 0, none⟩)] W fun e w' => e = .returned (.int .i64 xs.length) ∧ w' = w by subst k; exact mailLen_c H.out)
    generalize xs.length = n at *
    have hd : decide (i < 0) = false := by simpa using hi'
    by_cases h0 : n = 0
    · subst h0
      go_enter Try.func28, Try.ntmps28
      go_wp2_with (go_at_call 15; refine (HL.out _ rfl).mono ?_; rintro e w' ⟨rfl, rfl⟩)
      go_ret
      exact ⟨by rw [HE.out]; rfl, rfl⟩
    · have hn : 1 ≤ n := by omega
      have hn2 : ((n : Int) == 0) = false := by simp; omega
      go_enter Try.func28, Try.ntmps28
      go_wp2_with (go_at_call 15; refine (HL.out _ rfl).mono ?_; rintro e w' ⟨rfl, rfl⟩)
      go_ret
      exact ⟨by rw [HE.out, if_neg h0]; rfl, rfl⟩

def MutP (w : World) (m b : Nat) (o : Option Nat) (ok : Bool) (ys : List ByteArray) (en : Ending) (w' : World) : Prop :=
  en = .returned (.bool ok) ∧ ∃ o', Mal w' m b o' ys ∧ Nxt w o o' ∧ Kp (PF b o) w w'
theorem MutP.same {w : World} {m b : Nat} {o : Option Nat} {xs : List ByteArray} (h : Mal w m b o xs) (ok : Bool) : MutP w m b o ok xs (.returned (.bool ok)) w := ⟨rfl, o, h, .inl rfl, Kp.refl _ _⟩
theorem copy_none {w : World} {m b : Nat} {o : Option Nat} {xs : List ByteArray} (h : Mal w m b o xs) (i : Int) (hi : i < 0 ∨ xs.length = 0) :
    Calls Try.prog 13 #[.pointer (some ⟨m, 0, none⟩), .int .i64 i] w (MutP w m b o false xs) := by
  have H := Lib.hid h
  have HE := Lib.hid (atS_no hi)
  have HA := Lib.hid (mailAt_c h i)
  rw [HE.out] at HA
  clear h hi
  go_enter Try.func13, Try.ntmps13
  go_wp2_with (go_at_call 28; refine HA.out.mono ?_; rintro e w' ⟨rfl, rfl⟩)
  go_ret
  exact MutP.same H.out false
theorem lose_none {w : World} {m b : Nat} {o : Option Nat} {xs : List ByteArray} (h : Mal w m b o xs) (i : Int) (hi : i < 0 ∨ xs.length = 0) :
    Calls Try.prog 14 #[.pointer (some ⟨m, 0, none⟩), .int .i64 i] w (MutP w m b o false xs) := by
  have H := Lib.hid h
  have HE := Lib.hid (atS_no hi)
  have HA := Lib.hid (mailAt_c h i)
  rw [HE.out] at HA
  clear h hi
  go_enter Try.func14, Try.ntmps14
  go_wp2_with (go_at_call 28; refine HA.out.mono ?_; rintro e w' ⟨rfl, rfl⟩)
  go_ret
  exact MutP.same H.out false
theorem copy_room {w : World} {m b : Nat} {o : Option Nat} {xs : List ByteArray} (h : Mal w m b o xs) (i : Int) {j : Nat} {x : ByteArray} (hj : atS xs.length i = j) (hx : xs[j]? = some x) (hf : xs.length < 512) :
    Calls Try.prog 13 #[.pointer (some ⟨m, 0, none⟩), .int .i64 i] w (MutP w m b o true (xs ++ [x])) := by
  have H := Lib.hid h
  have HA := Lib.hid (mailAt_c h i)
  rw [hj] at HA
  have HX := Lib.hid hx
  have HL := Lib.hid h.2.2.2.2
  obtain ⟨fc, ff⟩ := row_facts h.1
  have c0 : w.cell? ⟨m, 0, none⟩ = some (.pointer (some ⟨b, 0, none⟩)) := (fc 0).trans rfl
  have HF := Lib.hid hf
  clear fc ff h hj hx hf
  go_enter Try.func13, Try.ntmps13
  go_wp2_with (first
    | (go_at_call 28; refine HA.out.mono ?_; rintro e w' ⟨rfl, rfl⟩)
    | (go_at_call 36; refine (at_yes H.out.2.1 HX.out (by have := HL.out; omega)).mono ?_; rintro e w' ⟨rfl, rfl⟩)
    | (go_at_call 27; refine (push_yes x H.out.2.1 (by have := HF.out; omega) (by have := HL.out; omega)).mono ?_; rintro e w' ⟨rfl, o', hs, hn, hk⟩; have HM := Lib.hid (H.out.next hs hn hk (by rw [List.length_append]; have := HF.out; simp; omega)); have HN := Lib.hid hn; have HK := Lib.hid hk; clear hs hn hk))
  go_ret
  exact ⟨rfl, o', HM.out, HN.out, HK.out⟩
theorem copy_full {w : World} {m b : Nat} {o : Option Nat} {xs : List ByteArray} (h : Mal w m b o xs) (i : Int) {j : Nat} {x : ByteArray} (hj : atS xs.length i = j) (hx : xs[j]? = some x) (hf : ¬ xs.length < 512) :
    Calls Try.prog 13 #[.pointer (some ⟨m, 0, none⟩), .int .i64 i] w (MutP w m b o false xs) := by
  have H := Lib.hid h
  have HA := Lib.hid (mailAt_c h i)
  rw [hj] at HA
  have HX := Lib.hid hx
  have HL := Lib.hid h.2.2.2.2
  obtain ⟨fc, ff⟩ := row_facts h.1
  have c0 : w.cell? ⟨m, 0, none⟩ = some (.pointer (some ⟨b, 0, none⟩)) := (fc 0).trans rfl
  have HF := Lib.hid hf
  clear fc ff h hj hx hf
  go_enter Try.func13, Try.ntmps13
  go_wp2_with (first
    | (go_at_call 28; refine HA.out.mono ?_; rintro e w' ⟨rfl, rfl⟩)
    | (go_at_call 36; refine (at_yes H.out.2.1 HX.out (by have := HL.out; omega)).mono ?_; rintro e w' ⟨rfl, rfl⟩)
    | (go_at_call 27; refine (push_no x H.out.2.1 (by have := HF.out; omega)).mono ?_; rintro e w' ⟨rfl, o', hs, hn, hk⟩; have HM := Lib.hid (H.out.next hs hn hk (by have := HL.out; omega)); have HN := Lib.hid hn; have HK := Lib.hid hk; clear hs hn hk))
  go_ret
  exact ⟨rfl, o', HM.out, HN.out, HK.out⟩
theorem lose_some {w : World} {m b : Nat} {o : Option Nat} {xs : List ByteArray} (h : Mal w m b o xs) (i : Int) {j : Nat} {x : ByteArray} (hj : atS xs.length i = j) (hx : xs[j]? = some x) :
    Calls Try.prog 14 #[.pointer (some ⟨m, 0, none⟩), .int .i64 i] w (MutP w m b o true (xs.take j ++ xs.drop (j + 1))) := by
  have H := Lib.hid h
  have HA := Lib.hid (mailAt_c h i)
  rw [hj] at HA
  have HX := Lib.hid hx
  have HL := Lib.hid h.2.2.2.2
  obtain ⟨fc, ff⟩ := row_facts h.1
  have c0 : w.cell? ⟨m, 0, none⟩ = some (.pointer (some ⟨b, 0, none⟩)) := (fc 0).trans rfl
  clear fc ff h hj hx
  go_enter Try.func14, Try.ntmps14
  go_wp2_with (first
    | (go_at_call 28; refine HA.out.mono ?_; rintro e w' ⟨rfl, rfl⟩)
    | (go_at_call 29; refine (pick_yes H.out.2.1 HX.out (by have := HL.out; omega)).mono ?_; rintro e w' ⟨rfl, hs, hk⟩; have HM := Lib.hid (H.out.next hs (.inl rfl) hk (by rw [List.length_append, List.length_take, List.length_drop]; have := HL.out; omega)); have HK := Lib.hid hk; clear hs hk))
  go_ret
  exact ⟨rfl, o, HM.out, .inl rfl, HK.out⟩

end Go.Proofs.Ytakhkjidcnahjaa
