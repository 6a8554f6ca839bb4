/- A reply read out of bytes. -/
import Derived.Test.YtakhkjidcnahjaaQStep
set_option linter.unusedVariables false
set_option linter.unusedSimpArgs false
namespace Go.Proofs.Ytakhkjidcnahjaa
open Go.RowKit

def recsS : Nat → Int → List UInt8 → List Rec × Int × List UInt8
  | 0, e, bs => ([], e, bs)
  | n + 1, e, bs =>
    if e = 0 then
      let t1 := textS e bs
      let t2 := textS t1.2.1 t1.2.2
      let r := recsS n t2.2.1 t2.2.2
      (⟨t1.1, t2.1⟩ :: r.1, r.2)
    else ([], e, bs)
theorem recsS_step {n : Nat} {bs b1 b2 : List UInt8} {t1 t2 : ByteArray} {e1 e2 : Int} (h1 : textS 0 bs = (t1, e1, b1)) (h2 : textS e1 b1 = (t2, e2, b2)) :
    recsS (n + 1) 0 bs = (⟨t1, t2⟩ :: (recsS n e2 b2).1, (recsS n e2 b2).2) := by simp [recsS, h1, h2]
theorem recsS_end {n : Nat} {e : Int} {bs : List UInt8} (h : n = 0 ∨ e ≠ 0) : recsS n e bs = ([], e, bs) := by
  cases n with
  | zero => rfl
  | succ n => simp [recsS, h.resolve_left (by omega)]
def readReplyS (bs : List UInt8) : Reply × Int :=
  if 32768 < bs.length then (Reply.zero, 3) else
  let n1 := numS 0 bs
  let n2 := numS n1.2.1 n1.2.2
  let n3 := numS n2.2.1 n2.2.2
  let q4 := truthS n3.2.1 n3.2.2
  let t5 := textS q4.2.1 q4.2.2
  let n6 := numS t5.2.1 t5.2.2
  let r := recsS n6.1.toNat n6.2.1 n6.2.2
  let t7 := textS r.2.1 r.2.2
  let q8 := truthS t7.2.1 t7.2.2
  let e := endS q8.2.1 q8.2.2
  if e = 0 then (⟨n1.1, n2.1, n3.1, q4.1, t5.1, r.1, t7.1, q8.1⟩, 0) else (Reply.zero, e)
/-- A reply is answered, and an error; its records lie in a new block. -/
def ReplyP (w : World) (r : Reply) (er : Int) (en : Ending) (w' : World) : Prop :=
  Kp No w w' ∧ ∃ A m c o, en = .returned (.tuple #[.agg #[.int .i64 r.client, .int .i64 r.seq, .int .i64 r.err, .bool r.found, .string r.val, .slice A m c, .string r.next, .bool r.more], .int .i64 er]) ∧
    OwnR 84 2 Rec.cs w' (.slice A m c) o r.l ∧ ∀ k, o = some k → w.heap.size ≤ k
theorem infoReply : (Try.prog.info? 33).map (·.size) = some 8 := by kernel_rfl
/-- The loop's relation. -/
def RecsRel (ok : Nat → Prop) (w6 : World) (b X : Nat) (n1 n2 n3 : Int) (q4 : Bool) (t5 : ByteArray) (n0 : Nat) (e6 : Int) (b6 : List UInt8) (k : Nat) (wr : World) : Prop :=
  ∃ acc e bs o A m c, Rdr ok wr b e bs ∧ wr.heap[X]? = some (.cells #[.int .i64 n1, .int .i64 n2, .int .i64 n3, .bool q4, .string t5, .slice A m c, .string ⟨#[]⟩, .bool false] 33) ∧
    OwnR 84 2 Rec.cs wr (.slice A m c) o acc ∧ (∀ y, o = some y → w6.heap.size ≤ y) ∧ Kp (fun y => y = b ∨ y = X) w6 wr ∧
    recsS n0 e6 b6 = (acc ++ (recsS k e bs).1, (recsS k e bs).2) ∧ acc.length + k ≤ n0

set_option maxRecDepth 100000 in
set_option maxHeartbeats 2000000 in
theorem readReply_c {ok : Nat → Prop} {A : Option Addr} {c : Nat} (bs : List UInt8) (w : World) (hs : Src ok w A bs.length bs) (ha : Apt No w ok) (hc : bs.length ≤ c) (hc2 : c ≤ 9223372036854775807) :
    Calls Try.prog 65 #[.slice A bs.length c] w (ReplyP w (readReplyS bs).1 (readReplyS bs).2) := by
  by_cases hb : 32768 < bs.length
  · have HE := Lib.hid (show readReplyS bs = (Reply.zero, 3) by simp [readReplyS, hb])
    have hrw := heap_alloc_new w (.cells #[.int .i64 0, .int .i64 0, .int .i64 0, .bool false, .string ⟨#[]⟩, .slice none 0 0, .string ⟨#[]⟩, .bool false] 33)
    have HRW := Lib.hid hrw
    clear hrw
    go_enter Try.func65, Try.ntmps65
    go_wp2_with fail
    refine bodyPost_ret (results_ct Try.results65 _ _ w.heap.size _ _ (.int .i64 3) rfl rfl HRW.out Try.underlying33 infoReply) rfl ?_
    rw [HE.out]
    exact ⟨(Kp.refl _ _).alloc _, none, 0, 0, none, rfl, OwnR.nil _ _ _ _, by simp⟩
  have HB := Lib.hid hb
  have HSRC := Lib.hid hs
  have HA := Lib.hid ha
  have HC := Lib.hid (And.intro hc hc2)
  have hle : bs.length ≤ 32768 := by omega
  clear hs ha hc hc2 hb
  obtain ⟨W1, HW⟩ : ∃ W1 : World, Hid (W1 = ((w.alloc (.cells #[.int .i64 0, .int .i64 0, .int .i64 0, .bool false, .string ⟨#[]⟩, .slice none 0 0, .string ⟨#[]⟩, .bool false] 33)).alloc (.cells #[.slice A bs.length c, .int .i64 0] 112))) := ⟨_, rfl⟩
  have HK0 := Lib.hid (show Kp (One (w.heap.size + 1)) W1 ((w.alloc (.cells #[.int .i64 0, .int .i64 0, .int .i64 0, .bool false, .string ⟨#[]⟩, .slice none 0 0, .string ⟨#[]⟩, .bool false] 33)).alloc (.cells #[.slice A bs.length c, .int .i64 0] 112)) from by rw [HW.out]; exact Kp.refl _ _)
  have HR0 := Lib.hid (show Rdr ok ((w.alloc (.cells #[.int .i64 0, .int .i64 0, .int .i64 0, .bool false, .string ⟨#[]⟩, .slice none 0 0, .string ⟨#[]⟩, .bool false] 33)).alloc (.cells #[.slice A bs.length c, .int .i64 0] 112)) (w.heap.size + 1) 0 bs from
    Rdr.made (heap_alloc2_new _ _ _) HSRC.out HA.out (by omega) (by repeat (first | exact Kp.refl _ _ | apply Kp.alloc)) HC.out.1 HC.out.2)
  go_enter Try.func65, Try.ntmps65
  obtain ⟨n1, e1, b1, hS⟩ : ∃ n e b, numS 0 bs = (n, e, b) := ⟨_, _, _, rfl⟩
  have HS1 := Lib.hid hS
  go_wp2_with fail
  refine (num_n (ok := ok) (by first | exact HR0.out | exact HR0.out.kpNo (by repeat (first | exact Kp.refl _ _ | apply Kp.drewN | apply Kp.drew | apply Kp.alloc))) HS1.out).mono ?_
  rintro en w1 ⟨rfl, hr, hk⟩
  have HR1 := Lib.hid hr
  have HK1 := Lib.hid (show Kp (One (w.heap.size + 1)) W1 w1 from by first | exact HK0.out.then_ hk | exact (Kp.alloc HK0.out _).then_ hk | exact (Kp.drew HK0.out).then_ hk | exact (Kp.drewN HK0.out _).then_ hk | exact (Kp.alloc (Kp.drewN HK0.out _) _).then_ hk)
  clear hr hk hS
  obtain ⟨n2, e2, b2, hS⟩ : ∃ n e b, numS e1 b1 = (n, e, b) := ⟨_, _, _, rfl⟩
  have HS2 := Lib.hid hS
  go_wp2_with fail
  refine (num_n (ok := ok) (by first | exact HR1.out | exact HR1.out.kpNo (by repeat (first | exact Kp.refl _ _ | apply Kp.drewN | apply Kp.drew | apply Kp.alloc))) HS2.out).mono ?_
  rintro en w2 ⟨rfl, hr, hk⟩
  have HR2 := Lib.hid hr
  have HK2 := Lib.hid (show Kp (One (w.heap.size + 1)) W1 w2 from by first | exact HK1.out.then_ hk | exact (Kp.alloc HK1.out _).then_ hk | exact (Kp.drew HK1.out).then_ hk | exact (Kp.drewN HK1.out _).then_ hk | exact (Kp.alloc (Kp.drewN HK1.out _) _).then_ hk)
  clear hr hk hS
  obtain ⟨n3, e3, b3, hS⟩ : ∃ n e b, numS e2 b2 = (n, e, b) := ⟨_, _, _, rfl⟩
  have HS3 := Lib.hid hS
  go_wp2_with fail
  refine (num_n (ok := ok) (by first | exact HR2.out | exact HR2.out.kpNo (by repeat (first | exact Kp.refl _ _ | apply Kp.drewN | apply Kp.drew | apply Kp.alloc))) HS3.out).mono ?_
  rintro en w3 ⟨rfl, hr, hk⟩
  have HR3 := Lib.hid hr
  have HK3 := Lib.hid (show Kp (One (w.heap.size + 1)) W1 w3 from by first | exact HK2.out.then_ hk | exact (Kp.alloc HK2.out _).then_ hk | exact (Kp.drew HK2.out).then_ hk | exact (Kp.drewN HK2.out _).then_ hk | exact (Kp.alloc (Kp.drewN HK2.out _) _).then_ hk)
  clear hr hk hS
  obtain ⟨q4, e4, b4, hS⟩ : ∃ n e b, truthS e3 b3 = (n, e, b) := ⟨_, _, _, rfl⟩
  have HS4 := Lib.hid hS
  go_wp2_with fail
  refine (truth_n (ok := ok) (by first | exact HR3.out | exact HR3.out.kpNo (by repeat (first | exact Kp.refl _ _ | apply Kp.drewN | apply Kp.drew | apply Kp.alloc))) HS4.out).mono ?_
  rintro en w4 ⟨rfl, hr, hk⟩
  have HR4 := Lib.hid hr
  have HK4 := Lib.hid (show Kp (One (w.heap.size + 1)) W1 w4 from by first | exact HK3.out.then_ hk | exact (Kp.alloc HK3.out _).then_ hk | exact (Kp.drew HK3.out).then_ hk | exact (Kp.drewN HK3.out _).then_ hk | exact (Kp.alloc (Kp.drewN HK3.out _) _).then_ hk)
  clear hr hk hS
  obtain ⟨t5, e5, b5, hS⟩ : ∃ n e b, textS e4 b4 = (n, e, b) := ⟨_, _, _, rfl⟩
  have HS5 := Lib.hid hS
  go_wp2_with fail
  refine (text_n (ok := ok) (by first | exact HR4.out | exact HR4.out.kpNo (by repeat (first | exact Kp.refl _ _ | apply Kp.drewN | apply Kp.drew | apply Kp.alloc))) HS5.out).mono ?_
  rintro en w5 ⟨rfl, hr, hk⟩
  have HR5 := Lib.hid hr
  have HK5 := Lib.hid (show Kp (One (w.heap.size + 1)) W1 w5 from by first | exact HK4.out.then_ hk | exact (Kp.alloc HK4.out _).then_ hk | exact (Kp.drew HK4.out).then_ hk | exact (Kp.drewN HK4.out _).then_ hk | exact (Kp.alloc (Kp.drewN HK4.out _) _).then_ hk)
  clear hr hk hS
  obtain ⟨n6, e6, b6, hS⟩ : ∃ n e b, numS e5 b5 = (n, e, b) := ⟨_, _, _, rfl⟩
  have HS6 := Lib.hid hS
  go_wp2_with fail
  refine (num_n (ok := ok) (by first | exact HR5.out | exact HR5.out.kpNo (by repeat (first | exact Kp.refl _ _ | apply Kp.drewN | apply Kp.drew | apply Kp.alloc))) HS6.out).mono ?_
  rintro en w6 ⟨rfl, hr, hk⟩
  have HR6 := Lib.hid hr
  have HK6 := Lib.hid (show Kp (One (w.heap.size + 1)) W1 w6 from by first | exact HK5.out.then_ hk | exact (Kp.alloc HK5.out _).then_ hk | exact (Kp.drew HK5.out).then_ hk | exact (Kp.drewN HK5.out _).then_ hk | exact (Kp.alloc (Kp.drewN HK5.out _) _).then_ hk)
  have hl5 : w.heap.size + 1 < w5.heap.size := HR5.out.lt
  have HX6 := Lib.hid (hk.row (heap_alloc_new w5 _) (by omega))
  have hs6 := hk.size
  simp only [World.size_alloc] at hs6
  clear hr hk hS
  have hrg := numS_range e5 b5
  rw [HS6.out] at hrg
  simp only at hrg
  obtain ⟨n0, hn0⟩ := Int.eq_ofNat_of_zero_le hrg.1
  subst hn0
  have hn0 : n0 ≤ 268435455 := by omega
  have hX : w5.heap.size < w6.heap.size := by omega
  clear hrg hs6
  go_wp2_with fail
  go_loopw [6] (fun i wr => ∃ k : Nat, i = .int .i64 k ∧ k ≤ 268435455 ∧ RecsRel ok w6 (w.heap.size + 1) w5.heap.size n1 n2 n3 q4 t5 n0 e6 b6 k wr) (fun i _ => (intOf i).toNat)
  case atStart => exact ⟨n0, rfl, hn0, [], e6, b6, none, none, 0, 0, HR6.out, HX6.out, OwnR.nil _ _ _ _, by simp, Kp.refl _ _, by simp, by simp⟩
  case round =>
    obtain ⟨k, rfl, hk, acc, e, cs, o, A7, m7, c7, hr, hx, ho, hol, hkp, hrec, hlen⟩ := hrel
    have HR := Lib.hid hr
    have HX := Lib.hid hx
    have HO := Lib.hid ho
    have HOL := Lib.hid hol
    have HKP := Lib.hid hkp
    have HREC := Lib.hid hrec
    have hbl := hr.lt
    have hXl := (Array.getElem?_eq_some_iff.1 hx).1
    have hsz := hkp.size
    obtain ⟨_, _, r0, r1, z0, z1, _, _, _, _⟩ := hr
    obtain ⟨hxc, hxf⟩ := row_facts hx
    clear r0 z0 z1 hx ho hol hkp hrec
    by_cases hgo : 0 < k ∧ e = 0
    · obtain ⟨hk0, rfl⟩ := hgo
      obtain ⟨j, rfl⟩ : ∃ j, k = j + 1 := ⟨k - 1, by omega⟩
      obtain ⟨ta, ea, ba, hSa⟩ : ∃ n e b, textS 0 cs = (n, e, b) := ⟨_, _, _, rfl⟩
      have HSA := Lib.hid hSa
      obtain ⟨tb, eb, bb, hSb⟩ : ∃ n e b, textS ea ba = (n, e, b) := ⟨_, _, _, rfl⟩
      have HSB := Lib.hid hSb
      clear hSa hSb
      go_wp2_with fail
      have hoX : ¬ Own o w5.heap.size := fun e => by have := HOL.out _ e; omega
      have hob : ¬ Own o (w.heap.size + 1) := fun e => by have := HOL.out _ e; omega
      have hne : w5.heap.size ≠ w.heap.size + 1 := by omega
      go_region_law (first
        | (refine step_text (ok := ok) rfl _ _ rfl rfl (by first | exact HRA.out | exact HRA.out.kpNo (by repeat (first | exact Kp.refl _ _ | apply Kp.drew | apply Kp.alloc))) HSB.out ?_; intro wb hr hk; have HRB := Lib.hid hr; have HKB := Lib.hid hk; have HXB := Lib.hid (hk.row HXA.out hne); have hxb := (row_facts HXB.out).1; have hxbf := (row_facts HXB.out).2; have hbX : w5.heap.size < wb.heap.size := (Array.getElem?_eq_some_iff.1 HXB.out).1; clear hr hk)
        | (refine step_text (ok := ok) rfl _ _ rfl rfl (by first | exact HR.out | exact HR.out.kpNo (by repeat (first | exact Kp.refl _ _ | apply Kp.drew | apply Kp.alloc))) HSA.out ?_; intro wa hr hk; have HRA := Lib.hid hr; have HKA := Lib.hid hk; have HXA := Lib.hid (hk.row HX.out hne); have hxa := (row_facts HXA.out).1; have hxaf := (row_facts HXA.out).2; clear hr hk)
        | (refine step_app (e := 84) (t := 31) (sz := 2) (by_ := 32) Rec.cs rec_cs rec_one Try.underlying31 infoRec3 rfl (by decide) rfl _ _ rfl _ o acc ⟨ta, tb⟩ rfl ⟨wb.heap.size, 0, none⟩ 1 rfl (cells_new _ _ rfl _ _ _ rfl) (HO.out.kp (S := One (w.heap.size + 1)) ((Kp.then_ (Kp.then_ (Kp.drew (Kp.refl _ wr)) HKA.out) HKB.out).alloc _) (fun x hx e => by have := HOL.out x hx; simp only [One] at e; omega)) (by omega) (by omega) ?_
           intro v1 w9 o9 hown hnx hkp9
           obtain ⟨A9, m9, c9, rfl⟩ := hown.form
           have hb9 : w5.heap.size < wb.heap.size := (Array.getElem?_eq_some_iff.1 HXB.out).1
           have HX9 := Lib.hid ((hkp9.block w5.heap.size (by simp; omega) hoX).trans ((Below.heap_alloc wb _ _ hb9).trans HXB.out))
           have hx9 := (row_facts HX9.out).1
           have hx9f := (row_facts HX9.out).2
           have HO9 := Lib.hid hown
           have HN9 := Lib.hid hnx
           have HK9 := Lib.hid hkp9
           clear hown hnx hkp9 hb9))
      all_goals
        go_wp2_with fail
        go_roundw
        case rel =>
          have hsA := HKA.out.size
          have hsB := HKB.out.size
          have hbw : w.heap.size + 1 < wb.heap.size := HRB.out.lt
          have KB : Kp (One (w.heap.size + 1)) wr wb := Kp.then_ (Kp.then_ (Kp.drew (Kp.refl _ wr)) HKA.out) HKB.out
          have hwb : w6.heap.size ≤ wb.heap.size := Nat.le_trans HKP.out.size KB.size
          refine ⟨j, by go_num, by omega, acc ++ [⟨ta, tb⟩], eb, bb, o9, A9, m9, c9, ?_, ?_, ?_, ?_, ?_, ?_, ?_⟩
          · refine Rdr.kp (S := One w5.heap.size) (Rdr.kp (S := Own o) (HRB.out.kpNo ((Kp.refl _ _).alloc _)) HK9.out hob ?_) ((Kp.refl _ _).set1) (fun e => hne e.symm) ?_
            · intro x hx e
              have := (HA.out x hx).1
              have := HOL.out x e
              omega
            · intro x hx e
              have := (HA.out x hx).1
              simp only [One] at e
              omega
          · exact (heap_set HX9.out _).trans rfl
          · refine HO9.out.kp (S := One w5.heap.size) ((Kp.refl _ _).set1) ?_
            intro x hx e
            rcases HN9.out with rfl | ⟨y, rfl, hy⟩
            · exact hoX (hx.trans (by rw [e]))
            · injection hx with hx
              simp only [One] at e
              simp at hy
              omega
          · intro y hy
            rcases HN9.out with rfl | ⟨z, rfl, hz⟩
            · exact HOL.out y hy
            · injection hy with hy
              simp at hz
              omega
          · refine Kp.setCell (Kp.trans (Kp.trans HKP.out (KB.alloc _) (fun i _ e => .inl e)) HK9.out (fun i hi e => ?_)) (fun _ => .inr rfl) _
            have := HOL.out i e
            omega
          · rw [HREC.out, recsS_step HSA.out HSB.out]
            simp
          · simp; omega
        case measure => (simp [intOf] <;> omega)
    · have hend : k = 0 ∨ e ≠ 0 := by omega
      have HREC2 := Lib.hid (show recsS n0 e6 b6 = (acc, e, cs) by rw [HREC.out, recsS_end hend]; simp)
      have hoX : ¬ Own o w5.heap.size := fun e => by have := HOL.out _ e; omega
      have hob : ¬ Own o (w.heap.size + 1) := fun e => by have := HOL.out _ e; omega
      have hne : w5.heap.size ≠ w.heap.size + 1 := by omega
      have hs16 := HK6.out.size
      have hw16 : w.heap.size + 1 < W1.heap.size := by rw [HW.out]; simp
      have hs15 := HK5.out.size
      have HW1 := Lib.hid (show Kp No w W1 by rw [HW.out]; repeat (first | exact Kp.refl _ _ | apply Kp.alloc))
      have HKW := Lib.hid (show Kp (One (w.heap.size + 1)) W1 wr from HK6.out.trans HKP.out fun i hi e => e.elim id (fun e => by omega))
      have hd : k = 0 ∨ (0 < k ∧ (e == 0) = false) := by
        rcases hend with h | h
        · exact .inl h
        · by_cases h0 : k = 0
          · exact .inl h0
          · exact .inr ⟨by omega, by simpa using h⟩
      obtain ⟨t7, e7, b7, hS⟩ : ∃ n e' b, textS e cs = (n, e', b) := ⟨_, _, _, rfl⟩
      have HS7 := Lib.hid hS
      clear hS
      obtain ⟨q8, e8, b8, hS⟩ : ∃ n e b, truthS e7 b7 = (n, e, b) := ⟨_, _, _, rfl⟩
      have HS8 := Lib.hid hS
      clear hS
      obtain ⟨e9, hS⟩ : ∃ e, endS e8 b8 = e := ⟨_, rfl⟩
      have HS9 := Lib.hid hS
      clear hS hend
      have HRES := Lib.hid (show readReplyS bs = if e9 = 0 then (⟨n1, n2, n3, q4, t5, acc, t7, q8⟩, 0) else (Reply.zero, e9) by
        simp only [readReplyS, if_neg HB.out, HS1.out, HS2.out, HS3.out, HS4.out, HS5.out, HS6.out, Int.toNat_natCast, HREC2.out, HS7.out, HS8.out, HS9.out])
      rcases hd with rfl | ⟨hk0, he0⟩
      all_goals
        go_wp2_with fail
        refine (text_n (ok := ok) HR.out HS7.out).mono ?_
        rintro en w7 ⟨rfl, hr, hk⟩
        have HR7 := Lib.hid hr
        have HK7 := Lib.hid hk
        have HX7 := Lib.hid (hk.row HX.out hne)
        clear hr hk
        go_wp2_with fail
        refine (truth_n (ok := ok) HR7.out HS8.out).mono ?_
        rintro en w8 ⟨rfl, hr, hk⟩
        have HR8 := Lib.hid hr
        have HK8 := Lib.hid hk
        have HX8 := Lib.hid (hk.row HX7.out hne)
        obtain ⟨hyc, hyf⟩ := row_facts HX8.out
        clear hr hk hxc hxf
        go_wp2_with fail
        clear hyc hyf
        refine (end_n (ok := ok) (HR8.out.kp (S := One w5.heap.size) (by (repeat (apply Kp.set1)); exact Kp.refl _ _) (fun e => hne e.symm) (fun x hx e => by have := (HA.out x hx).1; simp only [One] at e; omega)) HS9.out).mono ?_
        rintro en w9 ⟨rfl, hk⟩
        have HK9 := Lib.hid hk
        have HX9 := Lib.hid (hk.row (heap_set (heap_set HX8.out _) _) hne)
        obtain ⟨hyc, hyf⟩ := row_facts HX9.out
        have K8 : Kp (One (w.heap.size + 1)) W1 w8 := Kp.then_ (Kp.then_ HKW.out HK7.out) HK8.out
        have K9 : Kp (One (w.heap.size + 1)) W1 w9 := Kp.then_ (Kp.setNew (Kp.setNew K8 hs15) hs15) HK9.out
        have hrw : w9.heap[w.heap.size]? = some (.cells #[.int .i64 0, .int .i64 0, .int .i64 0, .bool false, .string ⟨#[]⟩, .slice none 0 0, .string ⟨#[]⟩, .bool false] 33) := K9.row (by rw [HW.out]; exact heap_alloc2_old _ _ _) (by omega)
        obtain ⟨hrc, hrf⟩ := row_facts hrw
        have HRW := Lib.hid hrw
        have HKE := Lib.hid (show Kp No w w9 from HW1.out.trans K9 fun i hi e => by simp only [One] at e; omega)
        have HO9 := Lib.hid (show OwnR 84 2 Rec.cs w9 (.slice A7 m7 c7) o acc from
          (((HO.out.kp HK7.out (fun x hx e => hob (hx.trans (by rw [e])))).kp HK8.out (fun x hx e => hob (hx.trans (by rw [e])))).kp (S := One w5.heap.size) (by (repeat (apply Kp.set1)); exact Kp.refl _ _) (fun x hx e => hoX (hx.trans (by rw [e])))).kp HK9.out (fun x hx e => hob (hx.trans (by rw [e]))))
        have hor : ¬ Own o w.heap.size := fun e => by have := HOL.out _ e; omega
        clear hk hrw K8 K9
        cases he : e9 == 0
        · have hneq := ne_of_beq he
          go_wp2_with fail
          refine bodyPost_ret (results_ct Try.results65 _ _ w.heap.size _ _ (.int .i64 e9) rfl rfl (heap_set (heap_set (heap_set (heap_set (heap_set (heap_set (heap_set (heap_set HRW.out _) _) _) _) _) _) _) _) Try.underlying33 infoReply) rfl ?_
          rw [HRES.out, if_neg (by simpa using he)]
          refine ⟨?_, none, 0, 0, none, rfl, OwnR.nil _ _ _ _, by simp⟩
          repeat (refine Kp.setNew ?_ (Nat.le_refl _))
          exact HKE.out
        · have hneq := ne_of_beq he
          go_wp2_with fail
          refine bodyPost_ret (results_ct Try.results65 _ _ w.heap.size _ _ (.int .i64 0) rfl rfl (heap_set (heap_set (heap_set (heap_set (heap_set (heap_set (heap_set (heap_set HRW.out _) _) _) _) _) _) _) _) Try.underlying33 infoReply) rfl ?_
          rw [HRES.out, if_pos (by simpa using he)]
          refine ⟨?_, A7, m7, c7, o, rfl, ?_, fun y hy => by have := HOL.out y hy; omega⟩
          · repeat (refine Kp.setNew ?_ (Nat.le_refl _))
            exact HKE.out
          · refine HO9.out.kp (S := One w.heap.size) (by (repeat (apply Kp.set1)); exact Kp.refl _ _) (fun x hx e => hor (hx.trans (by rw [e])))

end Go.Proofs.Ytakhkjidcnahjaa
