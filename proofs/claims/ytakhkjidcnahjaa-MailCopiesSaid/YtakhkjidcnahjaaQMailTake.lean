/- mail.Take. -/
import Derived.Test.YtakhkjidcnahjaaQMail
set_option linter.unusedVariables false
set_option linter.unusedSimpArgs false
namespace Go.Proofs.Ytakhkjidcnahjaa
open Go.RowKit

/-- Of these bytes note.Read makes this note. -/
def Reads (x : ByteArray) (n : Note) : Prop := ∀ (ok : Nat → Prop) (W : World) (A : Option Addr) (c : Nat), Src ok W A x.size x.data.toList → Apt No W ok → x.size ≤ c → c ≤ 9223372036854775807 →
  Calls Try.prog 30 #[.slice A x.size c] W (ReadNP W (some n))
def TakeP (w : World) (m b : Nat) (o : Option Nat) (n : Note) (ys : List ByteArray) (en : Ending) (w' : World) : Prop :=
  ∃ A1 A2 A3 A4 c1 c2 c3 c4 ok', en = .returned (.tuple #[noteV n A1 A2 A3 A4 c1 c2 c3 c4, .bool true]) ∧ NoteR ok' w' n A1 A2 A3 A4 ∧ (∀ x, ok' x → w.heap.size ≤ x) ∧ Mal w' m b o ys ∧ Kp (PF b o) w w'
def TakeNo (w : World) (m b : Nat) (o : Option Nat) (xs : List ByteArray) (en : Ending) (w' : World) : Prop :=
  en = .returned (.tuple #[noteV Note.zero none none none none 0 0 0 0, .bool false]) ∧ Mal w' m b o xs ∧ Kp No w w'

set_option maxHeartbeats 1000000 in
theorem take_none {w : World} {m b : Nat} {o : Option Nat} {xs : List ByteArray} (h : Mal w m b o xs) (i : Int) (hi : i < 0 ∨ xs.length = 0) :
    Calls Try.prog 11 #[.pointer (some ⟨m, 0, none⟩), .int .i64 i] w (TakeNo w m b o xs) := by
  have H := Lib.hid h
  have HE := Lib.hid (atS_no hi)
  have HA := Lib.hid fun W (k : Kp No w W) => mailAt_c (h.kpNo k) i
  rw [HE.out] at HA
  clear h hi
  go_enter Try.func11, Try.ntmps11
  go_wp2_with (first
    | (go_at_call 28; refine (HA.out _ ((Kp.refl _ _).alloc _)).mono ?_; rintro e w' ⟨rfl, rfl⟩)
    | (refine store_note (g := w.heap.size) (n := Note.zero) (A1 := none) (A2 := none) (A3 := none) (A4 := none) (c1 := 0) (c2 := 0) (c3 := 0) (c4 := 0) (heap_alloc_new _ _) rfl rfl (.tmp 4) (.tmp 15) rfl rfl rfl rfl ?_; intro wA hbA hkA))
  have kA : Kp No w wA := Kp.trans ((Kp.refl _ _).alloc _) hkA (fun i hi e => by simp only [One] at e; omega)
  refine bodyPost_ret (results_ct Try.results11 _ _ w.heap.size _ _ (.bool false) rfl rfl hbA Try.underlying49 infoNote) rfl ?_
  exact ⟨rfl, H.out.kpNo kA, kA⟩

set_option maxHeartbeats 1000000 in
theorem take_some {w : World} {m b : Nat} {o : Option Nat} {xs : List ByteArray} (h : Mal w m b o xs) (i : Int) {j : Nat} {x : ByteArray} (hj : atS xs.length i = j) (hx : xs[j]? = some x) {n : Note} (hr : Reads x n) (hz : x.size ≤ 9223372036854775807) :
    Calls Try.prog 11 #[.pointer (some ⟨m, 0, none⟩), .int .i64 i] w (TakeP w m b o n (xs.take j ++ xs.drop (j + 1))) := by
  have H := Lib.hid h
  have HA := Lib.hid fun W (k : Kp No w W) => mailAt_c (h.kpNo k) i
  rw [hj] at HA
  have HX := Lib.hid hx
  have HL := Lib.hid h.2.2.2.2
  have HRD := Lib.hid hr
  have hlm := h.lt
  obtain ⟨l1, l2, l3⟩ := hlm
  have HO := Lib.hid l3
  obtain ⟨fc, ff⟩ := row_facts h.1
  have c0 : w.cell? ⟨m, 0, none⟩ = some (.pointer (some ⟨b, 0, none⟩)) := (fc 0).trans rfl
  have kc := conv_bytes x
  have HB0 := Lib.hid fun W (k : Kp (PF b o) (w.alloc (.cells (noteC Note.zero none none none none 0 0 0 0) 49)) W) => (show NoteBox W w.heap.size Note.zero none none none none 0 0 0 0 from
    (k.block w.heap.size (by simp) (fun e => by rcases e with e | e; exact absurd e (by omega); have := l3 _ e; omega)).trans (heap_alloc_new _ _))
  have HZ := Lib.hid hz
  clear fc ff h hj hx hr l3 hz
  go_enter Try.func11, Try.ntmps11
  go_wp2_with (first
    | (go_at_call 28; refine (HA.out _ ((Kp.refl _ _).alloc _)).mono ?_; rintro e w' ⟨rfl, rfl⟩)
    | fail)
  refine (pick_yes (H.out.kpNo ((Kp.refl _ _).alloc _)).2.1 HX.out (by have := HL.out; omega)).mono ?_
  rintro e w1 ⟨rfl, hs, hk⟩
  have HM := Lib.hid ((H.out.kpNo ((Kp.refl _ _).alloc _)).next hs (.inl rfl) hk (by rw [List.length_append, List.length_take, List.length_drop]; have := HL.out; omega))
  have HK := Lib.hid hk
  have hs1 := hk.size
  simp only [World.size_alloc] at hs1
  clear hs hk
  have HB1 := Lib.hid (HB0.out _ HK.out)
  have hl1 := HB1.out.lt
  have KB : Kp No w1 (Lib.bytesWorld w1 5 x) := bytes_kp w1 _ x
  have hsb := KB.size
  have HKB := Lib.hid KB
  clear KB
  go_wp2_with fail
  refine (HRD.out _ _ _ _ (conv_srcB x w1) (conv_apt x w1) (conv_cap x w1 HZ.out).1 (conv_cap x w1 HZ.out).2).mono ?_
  rintro en w2 ⟨hk2, A1, A2, A3, A4, c1, c2, c3, c4, ok', rfl, hn, hok⟩
  have HK2 := Lib.hid (HKB.out.thenNo hk2)
  have HN2 := Lib.hid hn
  have HOK := Lib.hid hok
  have hs2 := hk2.size
  clear hk2 hn hok kc
  go_wp2_with (first
    | (refine store_note (g := w2.heap.size) (n := n) (A1 := A1) (A2 := A2) (A3 := A3) (A4 := A4) (c1 := c1) (c2 := c2) (c3 := c3) (c4 := c4) (heap_alloc_new _ _) rfl rfl (.tmp 8) (.tmp 29) rfl rfl rfl rfl ?_; intro w3 hb3 hk3; have HB3 := Lib.hid hb3; have HK3 := Lib.hid (show Kp No w2 w3 from Kp.trans ((Kp.refl _ _).alloc _) hk3 (fun i hi e => by simp only [One] at e; omega)); clear hb3 hk3)
    | (refine load_note (g := w2.heap.size) HB3.out (.tmp 8) rfl ?_ rfl ?_; (first | rfl | go_simp))
    | (refine store_note (g := w.heap.size) (n := n) ((HB1.out.kp HK2.out (not_No _)).kp HK3.out (not_No _)) rfl rfl (.tmp 4) (.tmp 31) rfl rfl rfl rfl ?_; intro wA hbA hkA))
  have k13 : Kp No w1 w3 := HK2.out.thenNo HK3.out
  refine bodyPost_ret (results_ct Try.results11 _ _ w.heap.size _ _ (.bool true) rfl rfl hbA Try.underlying49 infoNote) rfl ?_
  refine ⟨A1, A2, A3, A4, c1, c2, c3, c4, ok', rfl, (HN2.out.kpNo HK3.out).kp hkA ?_, ?_, (HM.out.kpNo k13).kp hkA ?_, ?_⟩
  · intro y hy e
    have := HOK.out y hy
    simp only [One] at e
    omega
  · intro y hy
    have := HOK.out y hy
    omega
  · intro y hy e
    simp only [One] at e
    subst e
    rcases hy with hy | hy | hy
    · omega
    · omega
    · have := HO.out _ hy; omega
  · have k3 : Kp (PF b o) w w3 := (Kp.trans ((Kp.refl No w).alloc _ |>.ofNo) HK.out (fun _ _ e => e)).thenNo k13
    exact k3.trans hkA (fun i hi e => by simp only [One] at e; omega)

end Go.Proofs.Ytakhkjidcnahjaa
