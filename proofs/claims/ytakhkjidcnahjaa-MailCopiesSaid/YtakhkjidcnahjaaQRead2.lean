/- A record and a shard read out of bytes. -/
import Derived.Test.YtakhkjidcnahjaaQRead1
import Derived.Deep.RegionWith
set_option linter.unusedVariables false
set_option linter.unusedSimpArgs false
namespace Go.Proofs.Ytakhkjidcnahjaa
open Go.RowKit

def unrecordS (bs : List UInt8) : Rec × Int :=
  let t1 := textS 0 bs
  let t2 := textS t1.2.1 t1.2.2
  (⟨t1.1, t2.1⟩, endS t2.2.1 t2.2.2)
def Rec.v (a : Rec) : Value := .agg #[.string a.text, .string a.val]
def UnrecordP (w : World) (bs : List UInt8) (en : Ending) (w' : World) : Prop := en = .returned (.tuple #[(unrecordS bs).1.v, .int .i64 (unrecordS bs).2]) ∧ Kp No w w'
theorem infoRec : (Try.prog.info? 84).map (·.size) = some 2 := by kernel_rfl
def unshardS (bs : List UInt8) : Shard × Int :=
  let t1 := textS 0 bs
  let t2 := textS t1.2.1 t1.2.2
  let n3 := numS t2.2.1 t2.2.2
  let n4 := numS n3.2.1 n3.2.2
  (⟨⟨t1.1, t2.1⟩, n3.1, n4.1⟩, endS n4.2.1 n4.2.2)
def Shard.v (a : Shard) : Value := .agg #[.string a.span.from_, .string a.span.to_, .int .i64 a.node, .int .i64 a.epoch]
def UnshardP (w : World) (bs : List UInt8) (en : Ending) (w' : World) : Prop := en = .returned (.tuple #[(unshardS bs).1.v, .int .i64 (unshardS bs).2]) ∧ Kp No w w'
theorem infoShard : (Try.prog.info? 97).map (·.size) = some 4 := by kernel_rfl

set_option maxHeartbeats 1000000 in
theorem unrecord_c {ok : Nat → Prop} {A : Option Addr} {c : Nat} (bs : List UInt8) (w : World) (hs : Src ok w A bs.length bs) (ha : Apt No w ok) (hc : bs.length ≤ c) (hc2 : c ≤ 9223372036854775807) :
    Calls Try.prog 74 #[.slice A bs.length c] w (UnrecordP w bs) := by
  have HSRC := Lib.hid hs
  have HA := Lib.hid ha
  have HC := Lib.hid (And.intro hc hc2)
  clear hs ha hc hc2
  obtain ⟨W1, HW⟩ : ∃ W1 : World, Hid (W1 = ((w.alloc (.cells #[.string ⟨#[]⟩, .string ⟨#[]⟩] 84)).alloc (.cells #[.slice A bs.length c, .int .i64 0] 112))) := ⟨_, rfl⟩
  have HK0 := Lib.hid (show Kp (One (w.heap.size + 1)) W1 ((w.alloc (.cells #[.string ⟨#[]⟩, .string ⟨#[]⟩] 84)).alloc (.cells #[.slice A bs.length c, .int .i64 0] 112)) from by rw [HW.out]; exact Kp.refl _ _)
  have HR0 := Lib.hid (show Rdr ok ((w.alloc (.cells #[.string ⟨#[]⟩, .string ⟨#[]⟩] 84)).alloc (.cells #[.slice A bs.length c, .int .i64 0] 112)) (w.heap.size + 1) 0 bs from
    Rdr.made (heap_alloc2_new _ _ _) HSRC.out HA.out (by omega) (by repeat (first | exact Kp.refl _ _ | apply Kp.alloc)) HC.out.1 HC.out.2)
  go_enter Try.func74, Try.ntmps74
  obtain ⟨t1, e1, b1, hS⟩ : ∃ n e b, textS 0 bs = (n, e, b) := ⟨_, _, _, rfl⟩
  have HS1 := Lib.hid hS
  go_wp2_with fail
  refine (text_n (ok := ok) (by first | exact HR0.out | exact HR0.out.kpNo (by repeat (first | exact Kp.refl _ _ | apply Kp.drewN | apply Kp.drew | apply Kp.alloc))) HS1.out).mono ?_
  rintro en w1 ⟨rfl, hr, hk⟩
  have HR1 := Lib.hid hr
  have HK1 := Lib.hid (show Kp (One (w.heap.size + 1)) W1 w1 from by first | exact HK0.out.then_ hk | exact (Kp.alloc HK0.out _).then_ hk | exact (Kp.drew HK0.out).then_ hk | exact (Kp.drewN HK0.out _).then_ hk | exact (Kp.alloc (Kp.drewN HK0.out _) _).then_ hk)
  clear hr hk hS
  obtain ⟨t2, e2, b2, hS⟩ : ∃ n e b, textS e1 b1 = (n, e, b) := ⟨_, _, _, rfl⟩
  have HS2 := Lib.hid hS
  go_wp2_with fail
  refine (text_n (ok := ok) (by first | exact HR1.out | exact HR1.out.kpNo (by repeat (first | exact Kp.refl _ _ | apply Kp.drewN | apply Kp.drew | apply Kp.alloc))) HS2.out).mono ?_
  rintro en w2 ⟨rfl, hr, hk⟩
  have HR2 := Lib.hid hr
  have HK2 := Lib.hid (show Kp (One (w.heap.size + 1)) W1 w2 from by first | exact HK1.out.then_ hk | exact (Kp.alloc HK1.out _).then_ hk | exact (Kp.drew HK1.out).then_ hk | exact (Kp.drewN HK1.out _).then_ hk | exact (Kp.alloc (Kp.drewN HK1.out _) _).then_ hk)
  clear hr hk hS
  obtain ⟨e9, hS⟩ : ∃ e, endS e2 b2 = e := ⟨_, rfl⟩
  have HS9 := Lib.hid hS
  clear hS
  have hb4 : w.heap.size + 1 < w2.heap.size := HR2.out.lt
  have hb5 : w.heap.size < w2.heap.size := by omega
  have HRES := Lib.hid (show unrecordS bs = (⟨t1, t2⟩, e9) by
    simp only [unrecordS, HS1.out, HS2.out, HS9.out])
  have hs1 : W1.heap.size ≤ w2.heap.size := HK2.out.size
  have hw1 : w.heap.size + 1 < W1.heap.size := by rw [HW.out]; simp
  have HW1 := Lib.hid (show Kp No w W1 by rw [HW.out]; repeat (first | exact Kp.refl _ _ | apply Kp.alloc))
  have hrw : w2.heap[w.heap.size]? = some (.cells #[.string ⟨#[]⟩, .string ⟨#[]⟩] 84) := HK2.out.row (by rw [HW.out]; exact heap_alloc2_old _ _ _) (by omega)
  have HRW0 := Lib.hid hrw
  clear hrw
  go_wp2_with fail
  go_region_with (go_at_call 52; (refine (end_n (ok := ok) (HR2.out.kpNo (by repeat (first | exact Kp.refl _ _ | apply Kp.drewN | apply Kp.drew | apply Kp.alloc))) HS9.out).mono ?_; rintro en w9 ⟨rfl, hk⟩; have HX9 := Lib.hid (hk.row (heap_alloc_new w2 _) (by omega)); have HRW := Lib.hid (hk.row (show (World.drew (World.alloc w2 _)).heap[w.heap.size]? = _ from (Below.heap_alloc w2 _ _ hb5).trans HRW0.out) (by omega)); have hxr := row_facts HX9.out; have hxc := hxr.1; have hxf := hxr.2; have hyr := row_facts HRW.out; have hyc := hyr.1; have hyf := hyr.2; have HK9 := Lib.hid hk; clear hk hxr hyr))
  all_goals
    go_wp2_with fail
    refine bodyPost_ret (results_ct Try.results74 _ _ w.heap.size _ _ (.int .i64 e9) rfl rfl (heap_set (heap_set HRW.out _) _) Try.underlying84 infoRec) rfl ⟨?_, ?_⟩
    · rw [HRES.out]; rfl
    · repeat (refine Kp.setNew ?_ (Nat.le_refl _))
      exact HW1.out.trans (Kp.then_ ((Kp.alloc HK2.out _).drew) HK9.out) fun i hi e => by simp only [One] at e; omega

set_option maxHeartbeats 1000000 in
theorem unshard_c {ok : Nat → Prop} {A : Option Addr} {c : Nat} (bs : List UInt8) (w : World) (hs : Src ok w A bs.length bs) (ha : Apt No w ok) (hc : bs.length ≤ c) (hc2 : c ≤ 9223372036854775807) :
    Calls Try.prog 72 #[.slice A bs.length c] w (UnshardP w bs) := by
  have HSRC := Lib.hid hs
  have HA := Lib.hid ha
  have HC := Lib.hid (And.intro hc hc2)
  clear hs ha hc hc2
  obtain ⟨W1, HW⟩ : ∃ W1 : World, Hid (W1 = ((w.alloc (.cells #[.string ⟨#[]⟩, .string ⟨#[]⟩, .int .i64 0, .int .i64 0] 97)).alloc (.cells #[.slice A bs.length c, .int .i64 0] 112))) := ⟨_, rfl⟩
  have HK0 := Lib.hid (show Kp (One (w.heap.size + 1)) W1 ((w.alloc (.cells #[.string ⟨#[]⟩, .string ⟨#[]⟩, .int .i64 0, .int .i64 0] 97)).alloc (.cells #[.slice A bs.length c, .int .i64 0] 112)) from by rw [HW.out]; exact Kp.refl _ _)
  have HR0 := Lib.hid (show Rdr ok ((w.alloc (.cells #[.string ⟨#[]⟩, .string ⟨#[]⟩, .int .i64 0, .int .i64 0] 97)).alloc (.cells #[.slice A bs.length c, .int .i64 0] 112)) (w.heap.size + 1) 0 bs from
    Rdr.made (heap_alloc2_new _ _ _) HSRC.out HA.out (by omega) (by repeat (first | exact Kp.refl _ _ | apply Kp.alloc)) HC.out.1 HC.out.2)
  go_enter Try.func72, Try.ntmps72
  obtain ⟨t1, e1, b1, hS⟩ : ∃ n e b, textS 0 bs = (n, e, b) := ⟨_, _, _, rfl⟩
  have HS1 := Lib.hid hS
  go_wp2_with fail
  refine (text_n (ok := ok) (by first | exact HR0.out | exact HR0.out.kpNo (by repeat (first | exact Kp.refl _ _ | apply Kp.drewN | apply Kp.drew | apply Kp.alloc))) HS1.out).mono ?_
  rintro en w1 ⟨rfl, hr, hk⟩
  have HR1 := Lib.hid hr
  have HK1 := Lib.hid (show Kp (One (w.heap.size + 1)) W1 w1 from by first | exact HK0.out.then_ hk | exact (Kp.alloc HK0.out _).then_ hk | exact (Kp.drew HK0.out).then_ hk | exact (Kp.drewN HK0.out _).then_ hk | exact (Kp.alloc (Kp.drewN HK0.out _) _).then_ hk)
  clear hr hk hS
  obtain ⟨t2, e2, b2, hS⟩ : ∃ n e b, textS e1 b1 = (n, e, b) := ⟨_, _, _, rfl⟩
  have HS2 := Lib.hid hS
  go_wp2_with fail
  refine (text_n (ok := ok) (by first | exact HR1.out | exact HR1.out.kpNo (by repeat (first | exact Kp.refl _ _ | apply Kp.drewN | apply Kp.drew | apply Kp.alloc))) HS2.out).mono ?_
  rintro en w2 ⟨rfl, hr, hk⟩
  have HR2 := Lib.hid hr
  have HK2 := Lib.hid (show Kp (One (w.heap.size + 1)) W1 w2 from by first | exact HK1.out.then_ hk | exact (Kp.alloc HK1.out _).then_ hk | exact (Kp.drew HK1.out).then_ hk | exact (Kp.drewN HK1.out _).then_ hk | exact (Kp.alloc (Kp.drewN HK1.out _) _).then_ hk)
  clear hr hk hS
  obtain ⟨n3, e3, b3, hS⟩ : ∃ n e b, numS e2 b2 = (n, e, b) := ⟨_, _, _, rfl⟩
  have HS3 := Lib.hid hS
  go_wp2_with fail
  refine (num_n (ok := ok) (by first | exact HR2.out | exact HR2.out.kpNo (by repeat (first | exact Kp.refl _ _ | apply Kp.drewN | apply Kp.drew | apply Kp.alloc))) HS3.out).mono ?_
  rintro en w3 ⟨rfl, hr, hk⟩
  have HR3 := Lib.hid hr
  have HK3 := Lib.hid (show Kp (One (w.heap.size + 1)) W1 w3 from by first | exact HK2.out.then_ hk | exact (Kp.alloc HK2.out _).then_ hk | exact (Kp.drew HK2.out).then_ hk | exact (Kp.drewN HK2.out _).then_ hk | exact (Kp.alloc (Kp.drewN HK2.out _) _).then_ hk)
  clear hr hk hS
  obtain ⟨n4, e4, b4, hS⟩ : ∃ n e b, numS e3 b3 = (n, e, b) := ⟨_, _, _, rfl⟩
  have HS4 := Lib.hid hS
  go_wp2_with fail
  refine (num_n (ok := ok) (by first | exact HR3.out | exact HR3.out.kpNo (by repeat (first | exact Kp.refl _ _ | apply Kp.drewN | apply Kp.drew | apply Kp.alloc))) HS4.out).mono ?_
  rintro en w4 ⟨rfl, hr, hk⟩
  have HR4 := Lib.hid hr
  have HK4 := Lib.hid (show Kp (One (w.heap.size + 1)) W1 w4 from by first | exact HK3.out.then_ hk | exact (Kp.alloc HK3.out _).then_ hk | exact (Kp.drew HK3.out).then_ hk | exact (Kp.drewN HK3.out _).then_ hk | exact (Kp.alloc (Kp.drewN HK3.out _) _).then_ hk)
  clear hr hk hS
  obtain ⟨e9, hS⟩ : ∃ e, endS e4 b4 = e := ⟨_, rfl⟩
  have HS9 := Lib.hid hS
  clear hS
  have hb4 : w.heap.size + 1 < w4.heap.size := HR4.out.lt
  have hb5 : w.heap.size < w4.heap.size := by omega
  have HRES := Lib.hid (show unshardS bs = (⟨⟨t1, t2⟩, n3, n4⟩, e9) by
    simp only [unshardS, HS1.out, HS2.out, HS3.out, HS4.out, HS9.out])
  have hs1 : W1.heap.size ≤ w4.heap.size := HK4.out.size
  have hw1 : w.heap.size + 1 < W1.heap.size := by rw [HW.out]; simp
  have HW1 := Lib.hid (show Kp No w W1 by rw [HW.out]; repeat (first | exact Kp.refl _ _ | apply Kp.alloc))
  have hrw : w4.heap[w.heap.size]? = some (.cells #[.string ⟨#[]⟩, .string ⟨#[]⟩, .int .i64 0, .int .i64 0] 97) := HK4.out.row (by rw [HW.out]; exact heap_alloc2_old _ _ _) (by omega)
  have HRW0 := Lib.hid hrw
  clear hrw
  go_wp2_with fail
  go_region_with (go_at_call 52; (refine (end_n (ok := ok) (HR4.out.kpNo (by repeat (first | exact Kp.refl _ _ | apply Kp.drewN | apply Kp.drew | apply Kp.alloc))) HS9.out).mono ?_; rintro en w9 ⟨rfl, hk⟩; have HX9 := Lib.hid (hk.row (heap_alloc_new w4 _) (by omega)); have HRW := Lib.hid (hk.row (show (World.drew (World.alloc w4 _)).heap[w.heap.size]? = _ from (Below.heap_alloc w4 _ _ hb5).trans HRW0.out) (by omega)); have hxr := row_facts HX9.out; have hxc := hxr.1; have hxf := hxr.2; have hyr := row_facts HRW.out; have hyc := hyr.1; have hyf := hyr.2; have HK9 := Lib.hid hk; clear hk hxr hyr))
  all_goals
    go_wp2_with fail
    refine bodyPost_ret (results_ct Try.results72 _ _ w.heap.size _ _ (.int .i64 e9) rfl rfl (heap_set (heap_set (heap_set (heap_set HRW.out _) _) _) _) Try.underlying97 infoShard) rfl ⟨?_, ?_⟩
    · rw [HRES.out]; rfl
    · repeat (refine Kp.setNew ?_ (Nat.le_refl _))
      exact HW1.out.trans (Kp.then_ ((Kp.alloc HK4.out _).drew) HK9.out) fun i hi e => by simp only [One] at e; omega

end Go.Proofs.Ytakhkjidcnahjaa
