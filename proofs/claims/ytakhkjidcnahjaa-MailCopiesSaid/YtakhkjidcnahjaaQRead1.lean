/- Asks, records, shards, replies read out of bytes. -/
import Derived.Test.YtakhkjidcnahjaaQReadBase
set_option linter.unusedVariables false
set_option linter.unusedSimpArgs false
namespace Go.Proofs.Ytakhkjidcnahjaa
open Go.RowKit

def readAskS (bs : List UInt8) : Ask × Int :=
  if 32768 < bs.length then (Ask.zero, 3) else
  let n1 := numS 0 bs
  let n2 := numS n1.2.1 n1.2.2
  let n3 := numS n2.2.1 n2.2.2
  let n4 := numS n3.2.1 n3.2.2
  let t5 := textS n4.2.1 n4.2.2
  let t6 := textS t5.2.1 t5.2.2
  let t7 := textS t6.2.1 t6.2.2
  let t8 := textS t7.2.1 t7.2.2
  let e := endS t8.2.1 t8.2.2
  if e = 0 then (⟨n1.1, n2.1, n3.1, t5.1, t6.1, t7.1, t8.1, n4.1⟩, 0) else (Ask.zero, e)
theorem infoAsk : (Try.prog.info? 29).map (·.size) = some 8 := by kernel_rfl
def Ask.v (a : Ask) : Value := .agg #[.int .i64 a.doo, .int .i64 a.client, .int .i64 a.seq, .string a.text, .string a.val, .string a.from_, .string a.to_, .int .i64 a.limit]
def ReadAskP (w : World) (bs : List UInt8) (en : Ending) (w' : World) : Prop :=
  en = .returned (.tuple #[(readAskS bs).1.v, .int .i64 (readAskS bs).2]) ∧ Kp No w w'

set_option maxHeartbeats 1000000 in
theorem readAsk_c {ok : Nat → Prop} {A : Option Addr} {c : Nat} (bs : List UInt8) (w : World) (hs : Src ok w A bs.length bs) (ha : Apt No w ok) (hc : bs.length ≤ c) (hc2 : c ≤ 9223372036854775807) :
    Calls Try.prog 63 #[.slice A bs.length c] w (ReadAskP w bs) := by
  by_cases hb : 32768 < bs.length
  · have HE := Lib.hid (show readAskS bs = (Ask.zero, 3) by simp [readAskS, hb])
    go_enter Try.func63, Try.ntmps63
    go_wp2_with fail
    refine bodyPost_ret (v := .tuple #[Ask.zero.v, .int .i64 3]) (by simp [results, Try.results63, go_sem, Ask.v, Ask.zero, es]) rfl ⟨by rw [HE.out], ?_⟩
    repeat (first | exact Kp.refl _ _ | apply Kp.alloc | (refine Kp.setNew ?_ (Nat.le_refl _)))
  have HB := Lib.hid hb
  have HSRC := Lib.hid hs
  have HA := Lib.hid ha
  have HC := Lib.hid (And.intro hc hc2)
  have hle : bs.length ≤ 32768 := by omega
  clear hs ha hc hc2 hb
  obtain ⟨W1, HW⟩ : ∃ W1 : World, Hid (W1 = (w.alloc (.cells #[.int .i64 0, .int .i64 0, .int .i64 0, .string ⟨#[]⟩, .string ⟨#[]⟩, .string ⟨#[]⟩, .string ⟨#[]⟩, .int .i64 0] 29)).alloc (.cells #[.slice A bs.length c, .int .i64 0] 112)) := ⟨_, rfl⟩
  have HK0 := Lib.hid (show Kp (One (w.heap.size + 1)) W1 ((w.alloc (.cells #[.int .i64 0, .int .i64 0, .int .i64 0, .string ⟨#[]⟩, .string ⟨#[]⟩, .string ⟨#[]⟩, .string ⟨#[]⟩, .int .i64 0] 29)).alloc (.cells #[.slice A bs.length c, .int .i64 0] 112)) from by rw [HW.out]; exact Kp.refl _ _)
  have HR0 := Lib.hid (show Rdr ok ((w.alloc (.cells #[.int .i64 0, .int .i64 0, .int .i64 0, .string ⟨#[]⟩, .string ⟨#[]⟩, .string ⟨#[]⟩, .string ⟨#[]⟩, .int .i64 0] 29)).alloc (.cells #[.slice A bs.length c, .int .i64 0] 112)) (w.heap.size + 1) 0 bs from
    Rdr.made (heap_alloc2_new _ _ _) HSRC.out HA.out (by omega) (by repeat (first | exact Kp.refl _ _ | apply Kp.alloc)) HC.out.1 HC.out.2)
  go_enter Try.func63, Try.ntmps63
  obtain ⟨n1, e1, b1, hS⟩ : ∃ n e b, numS 0 bs = (n, e, b) := ⟨_, _, _, rfl⟩
  have HS1 := Lib.hid hS
  go_wp2_with fail
  refine (num_n (ok := ok) (by first | exact HR0.out | exact HR0.out.kpNo (by repeat (first | exact Kp.refl _ _ | apply Kp.drewN | apply Kp.drew | apply Kp.alloc))) HS1.out).mono ?_
  rintro en w1 ⟨rfl, hr, hk⟩
  have HR1 := Lib.hid hr
  have HK1 := Lib.hid (show Kp (One (w.heap.size + 1)) W1 w1 from by first | exact HK0.out.then_ hk | exact (Kp.alloc HK0.out _).then_ hk | exact (Kp.drew HK0.out).then_ hk | exact (Kp.drewN HK0.out _).then_ hk | exact (Kp.alloc (Kp.drewN HK0.out _) _).then_ hk)
  clear hr hk hS
  obtain ⟨n2, e2, b2, hS⟩ : ∃ n e b, numS e1 b1 = (n, e, b) := ⟨_, _, _, rfl⟩
  have HS2 := Lib.hid hS
  go_wp2_with fail
  refine (num_n (ok := ok) (by first | exact HR1.out | exact HR1.out.kpNo (by repeat (first | exact Kp.refl _ _ | apply Kp.drewN | apply Kp.drew | apply Kp.alloc))) HS2.out).mono ?_
  rintro en w2 ⟨rfl, hr, hk⟩
  have HR2 := Lib.hid hr
  have HK2 := Lib.hid (show Kp (One (w.heap.size + 1)) W1 w2 from by first | exact HK1.out.then_ hk | exact (Kp.alloc HK1.out _).then_ hk | exact (Kp.drew HK1.out).then_ hk | exact (Kp.drewN HK1.out _).then_ hk | exact (Kp.alloc (Kp.drewN HK1.out _) _).then_ hk)
  clear hr hk hS
  obtain ⟨n3, e3, b3, hS⟩ : ∃ n e b, numS e2 b2 = (n, e, b) := ⟨_, _, _, rfl⟩
  have HS3 := Lib.hid hS
  go_wp2_with fail
  refine (num_n (ok := ok) (by first | exact HR2.out | exact HR2.out.kpNo (by repeat (first | exact Kp.refl _ _ | apply Kp.drewN | apply Kp.drew | apply Kp.alloc))) HS3.out).mono ?_
  rintro en w3 ⟨rfl, hr, hk⟩
  have HR3 := Lib.hid hr
  have HK3 := Lib.hid (show Kp (One (w.heap.size + 1)) W1 w3 from by first | exact HK2.out.then_ hk | exact (Kp.alloc HK2.out _).then_ hk | exact (Kp.drew HK2.out).then_ hk | exact (Kp.drewN HK2.out _).then_ hk | exact (Kp.alloc (Kp.drewN HK2.out _) _).then_ hk)
  clear hr hk hS
  obtain ⟨n4, e4, b4, hS⟩ : ∃ n e b, numS e3 b3 = (n, e, b) := ⟨_, _, _, rfl⟩
  have HS4 := Lib.hid hS
  go_wp2_with fail
  refine (num_n (ok := ok) (by first | exact HR3.out | exact HR3.out.kpNo (by repeat (first | exact Kp.refl _ _ | apply Kp.drewN | apply Kp.drew | apply Kp.alloc))) HS4.out).mono ?_
  rintro en w4 ⟨rfl, hr, hk⟩
  have HR4 := Lib.hid hr
  have HK4 := Lib.hid (show Kp (One (w.heap.size + 1)) W1 w4 from by first | exact HK3.out.then_ hk | exact (Kp.alloc HK3.out _).then_ hk | exact (Kp.drew HK3.out).then_ hk | exact (Kp.drewN HK3.out _).then_ hk | exact (Kp.alloc (Kp.drewN HK3.out _) _).then_ hk)
  clear hr hk hS
  obtain ⟨t5, e5, b5, hS⟩ : ∃ n e b, textS e4 b4 = (n, e, b) := ⟨_, _, _, rfl⟩
  have HS5 := Lib.hid hS
  go_wp2_with fail
  refine (text_n (ok := ok) (by first | exact HR4.out | exact HR4.out.kpNo (by repeat (first | exact Kp.refl _ _ | apply Kp.drewN | apply Kp.drew | apply Kp.alloc))) HS5.out).mono ?_
  rintro en w5 ⟨rfl, hr, hk⟩
  have HR5 := Lib.hid hr
  have HK5 := Lib.hid (show Kp (One (w.heap.size + 1)) W1 w5 from by first | exact HK4.out.then_ hk | exact (Kp.alloc HK4.out _).then_ hk | exact (Kp.drew HK4.out).then_ hk | exact (Kp.drewN HK4.out _).then_ hk | exact (Kp.alloc (Kp.drewN HK4.out _) _).then_ hk)
  have HX5 := Lib.hid (hk.row (heap_alloc_new w4 _) (by have := HR4.out.lt; omega))
  clear hr hk hS
  obtain ⟨t6, e6, b6, hS⟩ : ∃ n e b, textS e5 b5 = (n, e, b) := ⟨_, _, _, rfl⟩
  have HS6 := Lib.hid hS
  go_wp2_with fail
  refine (text_n (ok := ok) (by first | exact HR5.out | exact HR5.out.kpNo (by repeat (first | exact Kp.refl _ _ | apply Kp.drewN | apply Kp.drew | apply Kp.alloc))) HS6.out).mono ?_
  rintro en w6 ⟨rfl, hr, hk⟩
  have HR6 := Lib.hid hr
  have HK6 := Lib.hid (show Kp (One (w.heap.size + 1)) W1 w6 from by first | exact HK5.out.then_ hk | exact (Kp.alloc HK5.out _).then_ hk | exact (Kp.drew HK5.out).then_ hk | exact (Kp.drewN HK5.out _).then_ hk | exact (Kp.alloc (Kp.drewN HK5.out _) _).then_ hk)
  have HX6 := Lib.hid (hk.row HX5.out (by have := HR4.out.lt; omega))
  clear hr hk hS
  obtain ⟨t7, e7, b7, hS⟩ : ∃ n e b, textS e6 b6 = (n, e, b) := ⟨_, _, _, rfl⟩
  have HS7 := Lib.hid hS
  go_wp2_with fail
  refine (text_n (ok := ok) (by first | exact HR6.out | exact HR6.out.kpNo (by repeat (first | exact Kp.refl _ _ | apply Kp.drewN | apply Kp.drew | apply Kp.alloc))) HS7.out).mono ?_
  rintro en w7 ⟨rfl, hr, hk⟩
  have HR7 := Lib.hid hr
  have HK7 := Lib.hid (show Kp (One (w.heap.size + 1)) W1 w7 from by first | exact HK6.out.then_ hk | exact (Kp.alloc HK6.out _).then_ hk | exact (Kp.drew HK6.out).then_ hk | exact (Kp.drewN HK6.out _).then_ hk | exact (Kp.alloc (Kp.drewN HK6.out _) _).then_ hk)
  have HX7 := Lib.hid (hk.row HX6.out (by have := HR4.out.lt; omega))
  clear hr hk hS
  obtain ⟨t8, e8, b8, hS⟩ : ∃ n e b, textS e7 b7 = (n, e, b) := ⟨_, _, _, rfl⟩
  have HS8 := Lib.hid hS
  go_wp2_with fail
  refine (text_n (ok := ok) (by first | exact HR7.out | exact HR7.out.kpNo (by repeat (first | exact Kp.refl _ _ | apply Kp.drewN | apply Kp.drew | apply Kp.alloc))) HS8.out).mono ?_
  rintro en w8 ⟨rfl, hr, hk⟩
  have HR8 := Lib.hid hr
  have HK8 := Lib.hid (show Kp (One (w.heap.size + 1)) W1 w8 from by first | exact HK7.out.then_ hk | exact (Kp.alloc HK7.out _).then_ hk | exact (Kp.drew HK7.out).then_ hk | exact (Kp.drewN HK7.out _).then_ hk | exact (Kp.alloc (Kp.drewN HK7.out _) _).then_ hk)
  have HX8 := Lib.hid (hk.row HX7.out (by have := HR4.out.lt; omega))
  clear hr hk hS
  obtain ⟨hxc, hxf⟩ := row_facts HX8.out
  obtain ⟨e9, hS⟩ : ∃ e, endS e8 b8 = e := ⟨_, rfl⟩
  have HS9 := Lib.hid hS
  clear hS
  have hb4 : w.heap.size + 1 < w4.heap.size := HR4.out.lt
  go_wp2_with fail
  clear hxc hxf
  refine (end_n (ok := ok) (HR8.out.kp (S := One w4.heap.size) (by repeat (first | exact Kp.refl _ _ | apply Kp.set1)) (fun e => by simp only [One] at e; omega) (fun x hx e => by have := (HA.out x hx).1; simp only [One] at e; omega)) HS9.out).mono ?_
  rintro en w9 ⟨rfl, hk⟩
  have hs1 : W1.heap.size ≤ w4.heap.size := HK4.out.size
  have HK9 := Lib.hid (show Kp (One (w.heap.size + 1)) W1 w9 from Kp.then_ (by (repeat (refine Kp.setNew ?_ hs1)); exact HK8.out) hk)
  have HX9 := Lib.hid (hk.row (heap_set (heap_set (heap_set (heap_set HX8.out _) _) _) _) (by omega))
  obtain ⟨hxc, hxf⟩ := row_facts HX9.out
  have hrw : w9.heap[w.heap.size]? = some (.cells #[.int .i64 0, .int .i64 0, .int .i64 0, .string ⟨#[]⟩, .string ⟨#[]⟩, .string ⟨#[]⟩, .string ⟨#[]⟩, .int .i64 0] 29) := HK9.out.row (by rw [HW.out]; exact heap_alloc2_old _ _ _) (by omega)
  obtain ⟨hrc, hrf⟩ := row_facts hrw
  have HRW := Lib.hid hrw
  clear hk hrw hs1
  have HRES := Lib.hid (show readAskS bs = if e9 = 0 then (⟨n1, n2, n3, t5, t6, t7, t8, n4⟩, 0) else (Ask.zero, e9) by
    simp only [readAskS, if_neg HB.out, HS1.out, HS2.out, HS3.out, HS4.out, HS5.out, HS6.out, HS7.out, HS8.out, HS9.out])
  have HW1 := Lib.hid (show Kp No w W1 by rw [HW.out]; repeat (first | exact Kp.refl _ _ | apply Kp.alloc))
  have HKE := Lib.hid (show Kp No w w9 from HW1.out.trans HK9.out fun i hi e => by simp only [One] at e; omega)
  cases he : e9 == 0
  · have hne := ne_of_beq he
    go_wp2_with fail
    refine bodyPost_ret (results_ct Try.results63 _ _ w.heap.size _ _ (.int .i64 e9) rfl rfl (heap_set (heap_set (heap_set (heap_set (heap_set (heap_set (heap_set (heap_set HRW.out _) _) _) _) _) _) _) _) Try.underlying29 infoAsk) rfl ⟨?_, ?_⟩
    · rw [HRES.out, if_neg (by simpa using he)]; rfl
    · repeat (refine Kp.setNew ?_ (Nat.le_refl _))
      exact HKE.out
  · have hne := ne_of_beq he
    go_wp2_with fail
    refine bodyPost_ret (results_ct Try.results63 _ _ w.heap.size _ _ (.int .i64 0) rfl rfl (heap_set (heap_set (heap_set (heap_set (heap_set (heap_set (heap_set (heap_set HRW.out _) _) _) _) _) _) _) _) Try.underlying29 infoAsk) rfl ⟨?_, ?_⟩
    · rw [HRES.out, if_pos (by simpa using he)]; rfl
    · repeat (refine Kp.setNew ?_ (Nat.le_refl _))
      exact HKE.out

end Go.Proofs.Ytakhkjidcnahjaa
