/- note.Read, over what note.read answers. -/
import Derived.Test.YtakhkjidcnahjaaQNoteOps
set_option linter.unusedVariables false
set_option linter.unusedSimpArgs false
namespace Go.Proofs.Ytakhkjidcnahjaa
open Go.RowKit

/-- The head of a note as it is read: five numbers. -/
def headS (bs : List UInt8) : Note × Int × List UInt8 :=
  let n1 := numS 0 bs
  let n2 := numS n1.2.1 n1.2.2
  let n3 := numS n2.2.1 n2.2.2
  let n4 := numS n3.2.1 n3.2.2
  let n5 := numS n4.2.1 n4.2.2
  (hdr n1.1 n2.1 n3.1 n4.1 n5.1, n5.2.1, n5.2.2)
def ReadNP (w : World) (r : Option Note) (en : Ending) (w' : World) : Prop :=
  Kp No w w' ∧ match r with
    | none => en = .returned (.tuple #[noteV Note.zero none none none none 0 0 0 0, .int .i64 5])
    | some n => ∃ A1 A2 A3 A4 c1 c2 c3 c4 ok', en = .returned (.tuple #[noteV n A1 A2 A3 A4 c1 c2 c3 c4, .int .i64 0]) ∧ NoteR ok' w' n A1 A2 A3 A4 ∧ (∀ x, ok' x → w.heap.size ≤ x)
def readR (n : Note) (e6 : Int) (b6 : List UInt8) : Option Note := if endS e6 b6 = 0 ∧ mayS n = true then some n else none

set_option maxRecDepth 100000 in
set_option maxHeartbeats 2000000 in
theorem noteRead_c {ok : Nat → Prop} {A : Option Addr} {c : Nat} (bs : List UInt8) (w : World) (hs : Src ok w A bs.length bs) (ha : Apt No w ok) (hc : bs.length ≤ c) (hc2 : c ≤ 9223372036854775807)
    {h0 : Note} {e5 : Int} {b5 : List UInt8} (hH : headS bs = (h0, e5, b5)) {n : Note} {e6 : Int} {b6 : List UInt8} (hR : ∀ W b, Rdr ok W b e5 b5 → Calls Try.prog 50 #[.pointer (some ⟨b, 0, none⟩), noteV h0 none none none none 0 0 0 0] W (NreadP ok W b n e6 b6))
    (hz : NoteZ n) : Calls Try.prog 30 #[.slice A bs.length c] w (ReadNP w (readR n e6 b6)) := by
  have HSRC := Lib.hid hs
  have HA := Lib.hid ha
  have HC := Lib.hid (And.intro hc hc2)
  have HRD := Lib.hid hR
  have HZ := Lib.hid hz
  have HHD := Lib.hid hH
  clear hs ha hc hc2 hR hz hH
  obtain ⟨W1, HW⟩ : ∃ W1 : World, Hid (W1 = ((w.alloc (.cells (noteC Note.zero none none none none 0 0 0 0) 49)).alloc (.cells #[.slice A bs.length c, .int .i64 0] 112))) := ⟨_, rfl⟩
  have HK0 := Lib.hid (show Kp (One (w.heap.size + 1)) W1 ((w.alloc (.cells (noteC Note.zero none none none none 0 0 0 0) 49)).alloc (.cells #[.slice A bs.length c, .int .i64 0] 112)) from by rw [HW.out]; exact Kp.refl _ _)
  have HR0 := Lib.hid (show Rdr ok ((w.alloc (.cells (noteC Note.zero none none none none 0 0 0 0) 49)).alloc (.cells #[.slice A bs.length c, .int .i64 0] 112)) (w.heap.size + 1) 0 bs from
    Rdr.made (heap_alloc2_new _ _ _) HSRC.out HA.out (by omega) (by repeat (first | exact Kp.refl _ _ | apply Kp.alloc)) HC.out.1 HC.out.2)
  go_enter Try.func30, Try.ntmps30
  obtain ⟨n1, e1, b1, hS⟩ : ∃ n e b, numS 0 bs = (n, e, b) := ⟨_, _, _, rfl⟩
  have HS1 := Lib.hid hS
  go_wp2_with fail
  refine (num_n (ok := ok) HR0.out HS1.out).mono ?_
  rintro en w1 ⟨rfl, hr, hk⟩
  have HR1 := Lib.hid hr
  have HK1 := Lib.hid (HK0.out.then_ hk)
  clear hr hk hS
  obtain ⟨n2, e2, b2, hS⟩ : ∃ n e b, numS e1 b1 = (n, e, b) := ⟨_, _, _, rfl⟩
  have HS2 := Lib.hid hS
  go_wp2_with fail
  refine (num_n (ok := ok) HR1.out HS2.out).mono ?_
  rintro en w2 ⟨rfl, hr, hk⟩
  have HR2 := Lib.hid hr
  have HK2 := Lib.hid (HK1.out.then_ hk)
  clear hr hk hS
  obtain ⟨n3, e3, b3, hS⟩ : ∃ n e b, numS e2 b2 = (n, e, b) := ⟨_, _, _, rfl⟩
  have HS3 := Lib.hid hS
  go_wp2_with fail
  refine (num_n (ok := ok) HR2.out HS3.out).mono ?_
  rintro en w3 ⟨rfl, hr, hk⟩
  have HR3 := Lib.hid hr
  have HK3 := Lib.hid (HK2.out.then_ hk)
  clear hr hk hS
  obtain ⟨n4, e4, b4, hS⟩ : ∃ n e b, numS e3 b3 = (n, e, b) := ⟨_, _, _, rfl⟩
  have HS4 := Lib.hid hS
  go_wp2_with fail
  refine (num_n (ok := ok) HR3.out HS4.out).mono ?_
  rintro en w4 ⟨rfl, hr, hk⟩
  have HR4 := Lib.hid hr
  have HK4 := Lib.hid (HK3.out.then_ hk)
  clear hr hk hS
  obtain ⟨n5, e5', b5', hS⟩ : ∃ n e b, numS e4 b4 = (n, e, b) := ⟨_, _, _, rfl⟩
  have HS5 := Lib.hid hS
  go_wp2_with fail
  refine (num_n (ok := ok) HR4.out HS5.out).mono ?_
  rintro en w5 ⟨rfl, hr, hk⟩
  have HR5 := Lib.hid hr
  have HK5 := Lib.hid (HK4.out.then_ hk)
  clear hr hk hS
  have hh : headS bs = (hdr n1 n2 n3 n4 n5, e5', b5') := by simp only [headS, HS1.out, HS2.out, HS3.out, HS4.out, HS5.out]
  obtain ⟨rfl, rfl, rfl⟩ : h0 = hdr n1 n2 n3 n4 n5 ∧ e5 = e5' ∧ b5 = b5' := by rw [hh] at HHD; have := HHD.out; simp only [Prod.mk.injEq] at this; exact ⟨this.1.symm, this.2.1.symm, this.2.2.symm⟩
  clear hh HHD
  go_wp2_with fail
  refine (HRD.out _ _ HR5.out).mono ?_
  rintro en w6 ⟨A1, A2, A3, A4, c1, c2, c3, c4, ok', rfl, hr, hn, hok, hk⟩
  have HN6 := Lib.hid hn
  have HOK := Lib.hid hok
  have HR6 := Lib.hid hr
  have HK6 := Lib.hid (HK5.out.then_ hk)
  have hb6 := hr.lt
  clear hn hok hr hk
  go_wp2_with (first | (refine store_note (g := w6.heap.size) (heap_alloc_new _ _) rfl rfl (.tmp 5) (.tmp 21) rfl rfl rfl rfl ?_; intro w7 hb7 hk7; have HB7 := Lib.hid hb7; have HK7 := Lib.hid (show Kp No w6 w7 from Kp.trans ((Kp.refl _ _).alloc _) hk7 (fun i hi e => by simp only [One] at e; omega)); clear hb7 hk7) | fail)
  have hl7 := HB7.out.lt
  obtain ⟨e9, hS⟩ : ∃ e, endS e6 b6 = e := ⟨_, rfl⟩
  have HS9 := Lib.hid hS
  clear hS
  refine (end_n (ok := ok) (HR6.out.kpNo HK7.out) HS9.out).mono ?_
  rintro en w8 ⟨rfl, hk8⟩
  have HB8 := Lib.hid (HB7.out.kp hk8 (fun e => by simp only [One] at e; omega))
  have HN8 := Lib.hid (show NoteR ok' w8 n A1 A2 A3 A4 from (HN6.out.kpNo HK7.out).kp hk8 (fun x hx e => by have := HOK.out x hx; have := HR5.out.lt; simp only [One] at e; omega))
  have hs1 : w.heap.size + 1 < W1.heap.size := by rw [HW.out]; simp
  have HW1 := Lib.hid (show Kp No w W1 by rw [HW.out]; repeat (first | exact Kp.refl _ _ | apply Kp.alloc))
  have HKA := Lib.hid (show Kp (One (w.heap.size + 1)) W1 w8 from Kp.then_ (HK6.out.thenNo HK7.out) hk8)
  have HKE := Lib.hid (show Kp No w w8 from HW1.out.trans HKA.out fun i hi e => by simp only [One] at e; omega)
  have HB0 := Lib.hid (show NoteBox w8 w.heap.size Note.zero none none none none 0 0 0 0 from HKA.out.row (by rw [HW.out]; exact heap_alloc2_old _ _ _) (by omega))
  have hl8 := HB8.out.lt
  clear hk8
  cases he : e9 == 0
  · have hne := ne_of_beq he
    have HRES := Lib.hid (show readR n e6 b6 = none by unfold readR; rw [HS9.out, if_neg]; rintro ⟨h, _⟩; rw [h] at he; cases he)
    go_wp2_with (refine store_note (g := w.heap.size) (n := Note.zero) (A1 := none) (A2 := none) (A3 := none) (A4 := none) (c1 := 0) (c2 := 0) (c3 := 0) (c4 := 0) HB0.out rfl rfl (.tmp 2) (.tmp 30) rfl rfl rfl rfl ?_; intro w9 hb9 hk9)
    refine bodyPost_ret (results_ct Try.results30 _ _ w.heap.size _ _ (.int .i64 5) rfl rfl hb9 Try.underlying49 infoNote) rfl ?_
    rw [HRES.out]
    exact ⟨HKE.out.trans hk9 (fun i hi e => by simp only [One] at e; omega), rfl⟩
  · have hne := ne_of_beq he
    have he0 : e9 = 0 := by simpa using he
    go_wp2_with (refine load_note (g := w6.heap.size) HB8.out (.tmp 5) rfl ?_ rfl ?_; (first | rfl | go_simp))
    refine (may_c n A1 A2 A3 A4 c1 c2 c3 c4 w8 HN8.out HZ.out).mono ?_
    rintro en w9 ⟨rfl, hk9⟩
    have HB9 := Lib.hid (HB8.out.kp hk9 (not_No _))
    have HB09 := Lib.hid (HB0.out.kp hk9 (not_No _))
    have HK9 := Lib.hid (HKE.out.thenNo hk9)
    have HN9 := Lib.hid (HN8.out.kpNo hk9)
    clear hk9
    cases hm : mayS n
    · have HRES := Lib.hid (show readR n e6 b6 = none by unfold readR; rw [hm]; simp)
      go_wp2_with (refine store_note (g := w.heap.size) (n := Note.zero) (A1 := none) (A2 := none) (A3 := none) (A4 := none) (c1 := 0) (c2 := 0) (c3 := 0) (c4 := 0) HB09.out rfl rfl (.tmp 2) (.tmp 30) rfl rfl rfl rfl ?_; intro wA hbA hkA)
      refine bodyPost_ret (results_ct Try.results30 _ _ w.heap.size _ _ (.int .i64 5) rfl rfl hbA Try.underlying49 infoNote) rfl ?_
      rw [HRES.out]
      exact ⟨HK9.out.trans hkA (fun i hi e => by simp only [One] at e; omega), rfl⟩
    · have HRES := Lib.hid (show readR n e6 b6 = some n by unfold readR; rw [HS9.out, if_pos ⟨he0, hm⟩])
      go_wp2_with (first
        | (refine load_note (g := w6.heap.size) HB9.out (.tmp 5) rfl ?_ rfl ?_; (first | rfl | go_simp))
        | (refine store_note (g := w.heap.size) HB09.out rfl rfl (.tmp 2) (.tmp 31) rfl rfl rfl rfl ?_; intro wA hbA hkA))
      refine bodyPost_ret (results_ct Try.results30 _ _ w.heap.size _ _ (.int .i64 0) rfl rfl hbA Try.underlying49 infoNote) rfl ?_
      rw [HRES.out]
      refine ⟨HK9.out.trans hkA (fun i hi e => by simp only [One] at e; omega), A1, A2, A3, A4, c1, c2, c3, c4, ok', rfl, HN9.out.kp hkA ?_, ?_⟩
      · intro x hx e
        have := HOK.out x hx
        have := HR5.out.lt
        simp only [One] at e
        omega
      · intro x hx
        have := HOK.out x hx
        have := HR5.out.lt
        omega

end Go.Proofs.Ytakhkjidcnahjaa
