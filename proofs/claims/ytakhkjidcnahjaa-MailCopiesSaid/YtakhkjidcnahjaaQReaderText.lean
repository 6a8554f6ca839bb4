/- The reader of parcel: Text, Truth, End. -/
import Derived.Test.YtakhkjidcnahjaaQReaderNum
set_option linter.unusedVariables false
set_option linter.unusedSimpArgs false
namespace Go.Proofs.Ytakhkjidcnahjaa
open Go.RowKit

theorem strOf_bytes (bs : List UInt8) : strOfNums (bs.map fun b => (b.toNat : Int)) = ⟨bs.toArray⟩ := by
  unfold strOfNums
  rw [List.map_map]
  congr 2
  rw [show ((fun n : Int => UInt8.ofNat n.toNat) ∘ fun b : UInt8 => (b.toNat : Int)) = id from by funext b; simp]
  simp
/-- string(b) of a slice that reads as bytes. -/
theorem conv_src {ok : Nat → Prop} {w : World} {A : Option Addr} {n : Nat} {bs : List UInt8} (h : Src ok w A n bs) (c : Nat) :
    (convert 58 9 (.slice A n c)).run Try.prog w = .ok (.string ⟨bs.toArray⟩) w := by
  rcases A with _ | ⟨g, off, s⟩
  · have h0 : n = 0 := by
      rcases Nat.eq_zero_or_pos n with h0 | h0
      · exact h0
      · obtain ⟨g, off, e, _⟩ := h.2.2 h0
        cases e
    subst h0
    obtain rfl : bs = [] := List.eq_nil_of_length_eq_zero h.1
    exact run_convert_bytes_nil w 58 5 Try.underlying58 Try.underlying5 0 c 9 Try.underlying9
  · obtain rfl : s = none := h.2.1 _ rfl
    have hl := h.1
    rw [run_convert_bytes_arg w 58 5 Try.underlying58 Try.underlying5 g off n c (bs.map fun b => (b.toNat : Int)) (by rw [List.length_map, h.1]) ?_ 9 Try.underlying9, strOf_bytes]
    intro i hi
    obtain ⟨g', off', e, hg, hc⟩ := h.2.2 (by omega)
    cases e
    rw [hc i hi]
    simp [bv, List.getD_eq_getElem?_getD, List.getElem?_eq_getElem (show i < bs.length by omega)]

def TextP (ok : Nat → Prop) (w : World) (b : Nat) (e : Int) (bs : List UInt8) (en : Ending) (w' : World) : Prop :=
  en = .returned (.string (textS e bs).1) ∧ Rdr ok w' b (textS e bs).2.1 (textS e bs).2.2 ∧ Kp (One b) w w'

theorem textS_bad {e n e1 : Int} {bs bs1 : List UInt8} (hS : numS e bs = (n, e1, bs1)) (h : e1 ≠ 0) : textS e bs = (⟨#[]⟩, e1, bs1) := by simp [textS, hS, h]
theorem textS_short {e : Int} {n : Nat} {bs bs1 : List UInt8} (hS : numS e bs = ((n : Int), 0, bs1)) (h : ¬ n ≤ bs1.length) : textS e bs = (⟨#[]⟩, 7, bs1) := by simp [textS, hS, h]
theorem textS_yes {e : Int} {n : Nat} {bs bs1 : List UInt8} (hS : numS e bs = ((n : Int), 0, bs1)) (h : n ≤ bs1.length) : textS e bs = (⟨(bs1.take n).toArray⟩, 0, bs1.drop n) := by simp [textS, hS, h]

theorem text_bad {ok : Nat → Prop} {w : World} {b : Nat} {e : Int} {bs : List UInt8} (h : Rdr ok w b e bs) {e1 : Int} {bs1 : List UInt8} (hS : numS e bs = (0, e1, bs1)) (he : e1 ≠ 0) :
    Calls Try.prog 64 #[.pointer (some ⟨b, 0, none⟩)] w (TextP ok w b e bs) := by
  have H := Lib.hid h
  have HS := Lib.hid hS
  clear h hS
  have he1 : (e1 == 0) = false := by simpa using he
  have he2 : (e1 != 0) = true := by simpa using he
  have HE := Lib.hid he
  clear he
  go_enter Try.func64, Try.ntmps64
  go_wp2_with fail
  refine (num_n H.out HS.out).mono ?_
  rintro e' w1 ⟨rfl, hr, hk⟩
  have hl := hr.lt
  have HR := Lib.hid hr
  have HK := Lib.hid hk
  obtain ⟨A, c, h0, h1, z0, z1, hc, hc2, hs, ha⟩ := hr
  clear hs ha hk
  go_wp2_with fail
  refine (take_bad0 _ _ _ _ _ _ h0 h1 z0 z1 he1 he2).mono ?_
  rintro e w' ⟨rfl, rfl⟩
  have kc : ∀ W : World, (convert 58 9 (.slice (some ⟨w1.heap.size, 0, none⟩) 0 0)).run Try.prog W = .ok (.string ⟨#[]⟩) W :=
    fun W => conv_src (w := W) (Src.nil No W (some ⟨w1.heap.size, 0, none⟩) (by rintro ad ⟨⟩; rfl)) 0
  go_wp2
  go_ret
  refine ⟨by rw [textS_bad HS.out HE.out]; rfl, ?_, ?_⟩
  · rw [textS_bad HS.out HE.out]
    exact HR.out.kpNo (by repeat (first | exact Kp.refl _ _ | apply Kp.drewN | apply Kp.alloc | apply Kp.set1))
  · exact HK.out.thenNo (by repeat (first | exact Kp.refl _ _ | apply Kp.drewN | apply Kp.alloc | apply Kp.set1))

theorem text_yes {ok : Nat → Prop} {w : World} {b : Nat} {e : Int} {bs : List UInt8} (h : Rdr ok w b e bs) {n : Nat} {bs1 : List UInt8} (hS : numS e bs = ((n : Int), 0, bs1)) (hn : n ≤ bs1.length) :
    Calls Try.prog 64 #[.pointer (some ⟨b, 0, none⟩)] w (TextP ok w b e bs) := by
  have H := Lib.hid h
  have HS := Lib.hid hS
  clear h hS
  go_enter Try.func64, Try.ntmps64
  go_wp2_with fail
  refine (num_n H.out HS.out).mono ?_
  rintro e' w1 ⟨rfl, hr, hk⟩
  have hl := hr.lt
  have HR := Lib.hid hr
  have HK := Lib.hid hk
  obtain ⟨A, c, h0, h1, z0, z1, hc, hc2, hs, ha⟩ := hr
  have HC := Lib.hid hs
  have HA := Lib.hid ha
  have hcc : bs1.length - n ≤ c - n ∧ c - n ≤ 9223372036854775807 := by omega
  have HCC := Lib.hid hcc
  clear hs ha hk hcc
  go_wp2_with fail
  refine (take_yes _ _ _ _ _ n h0 h1 z0 z1 hn hc hc2).mono ?_
  rintro e w' ⟨rfl, A1, hA, rfl⟩
  have HA1 := Lib.hid hA
  clear hA
  have K1 : Kp (One b) w1 (w1.setCell ⟨b, 0, none⟩ (.slice A1 (bs1.length - n) (c - n))) := by repeat (first | exact Kp.refl _ _ | apply Kp.drewN | apply Kp.alloc | apply Kp.set1)
  have kc := conv_src ((HC.out.take n hn).agr (K1.agr HA.out)) c
  have KK := Lib.hid K1
  clear K1
  go_wp2
  go_ret
  refine ⟨by rw [textS_yes HS.out hn]; rfl, ?_, ?_⟩
  · rw [textS_yes HS.out hn]
    have hd : (bs1.drop n).length = bs1.length - n := List.length_drop
    exact HR.out.put (A1 := A1) (c1 := c - n) KK.out (by rw [hd]; go_simp) (by go_simp) (by go_simp) (by go_simp) (by rw [hd]; exact HCC.out.1) HCC.out.2 (by rw [hd]; exact HC.out.after hn HA1.out)
  · exact HK.out.then_ KK.out


theorem text_short {ok : Nat → Prop} {w : World} {b : Nat} {e : Int} {bs : List UInt8} (h : Rdr ok w b e bs) {n : Nat} {bs1 : List UInt8} (hS : numS e bs = ((n : Int), 0, bs1)) (hn : bs1.length < n)
    {m : Nat} {cs : Array Value} (hz : cs = Array.replicate m (bv 0))
    (T : ∀ (w : World) (A : Option Addr) (c : Nat), w.cell? ⟨b, 0, none⟩ = some (.slice A bs1.length c) → w.cell? ⟨b, 1, none⟩ = some (.int .i64 0) → w.frozen? ⟨b, 0, none⟩ = false → w.frozen? ⟨b, 1, none⟩ = false →
      Calls Try.prog 68 #[.pointer (some ⟨b, 0, none⟩), .int .i64 n] w (TakeShort w b m cs)) :
    Calls Try.prog 64 #[.pointer (some ⟨b, 0, none⟩)] w (TextP ok w b e bs) := by
  have H := Lib.hid h
  have HS := Lib.hid hS
  have HT := Lib.hid T
  have HZ := Lib.hid hz
  clear h hS T hz
  go_enter Try.func64, Try.ntmps64
  go_wp2_with fail
  refine (num_n H.out HS.out).mono ?_
  rintro e' w1 ⟨rfl, hr, hk⟩
  have hl := hr.lt
  have HR := Lib.hid hr
  have HK := Lib.hid hk
  obtain ⟨A, c, h0, h1, z0, z1, hc, hc2, hs, ha⟩ := hr
  have HC := Lib.hid hs
  clear hs ha hk
  go_wp2_with fail
  refine (HT.out _ _ _ h0 h1 z0 z1).mono ?_
  rintro e w' ⟨rfl, rfl⟩
  have kc : ∃ s, (convert 58 9 (.slice (some ⟨w1.heap.size, 0, none⟩) m m)).run Try.prog ((w1.setCell ⟨b, 1, none⟩ (.int .i64 7)).alloc (.cells cs 5)) = .ok (.string s) ((w1.setCell ⟨b, 1, none⟩ (.int .i64 7)).alloc (.cells cs 5)) := by
    refine ⟨_, conv_src (ok := fun _ => True) (bs := List.replicate m 0) ⟨by simp, by rintro ad ⟨⟩; rfl, fun _ => ⟨_, _, rfl, trivial, fun i hi => ?_⟩⟩ _⟩
    have : cs[i]? = some (bv 0) := by rw [HZ.out, Array.getElem?_replicate, if_pos hi]
    rw [← setCell_size w1 ⟨b, 1, none⟩ (.int .i64 7), Nat.zero_add, cell_new, this]
    simp [hi, List.getD_eq_getElem?_getD]
  obtain ⟨s, kc⟩ := kc
  go_wp2
  go_ret
  refine ⟨by rw [textS_short HS.out (by omega)]; rfl, ?_, ?_⟩
  · rw [textS_short HS.out (by omega)]
    exact HR.out.put (A1 := A) (c1 := c) (by repeat (first | exact Kp.refl _ _ | apply Kp.drewN | apply Kp.alloc | apply Kp.set1)) (by go_simp) (by go_simp) (by go_simp) (by go_simp) hc hc2 HC.out
  · exact HK.out.then_ (by repeat (first | exact Kp.refl _ _ | apply Kp.drewN | apply Kp.alloc | apply Kp.set1))

theorem text_c {ok : Nat → Prop} {w : World} {b : Nat} {e : Int} {bs : List UInt8} (h : Rdr ok w b e bs) :
    Calls Try.prog 64 #[.pointer (some ⟨b, 0, none⟩)] w (TextP ok w b e bs) := by
  obtain ⟨n, e1, bs1, hS⟩ : ∃ n e1 bs1, numS e bs = (n, e1, bs1) := ⟨_, _, _, rfl⟩
  have hr := numS_range e bs
  rw [hS] at hr
  simp only at hr
  by_cases he : e1 = 0
  · subst he
    obtain ⟨k, rfl⟩ := Int.eq_ofNat_of_zero_le hr.1
    by_cases hk : k ≤ bs1.length
    · exact text_yes h hS hk
    · have hk2 : k ≤ 268435455 := by omega
      by_cases h4 : 4 < k
      · exact text_short h hS (by omega) (m := 4) (cs := #[.int .u8 0, .int .u8 0, .int .u8 0, .int .u8 0]) rfl fun w A c h0 h1 z0 z1 => take_shortk w b A _ c k h0 h1 z0 z1 (by omega) h4 hk2
      · obtain rfl | rfl | rfl | rfl : k = 1 ∨ k = 2 ∨ k = 3 ∨ k = 4 := by omega
        · exact text_short h hS (by omega) (m := 1) (cs := #[.int .u8 0]) rfl fun w A c h0 h1 z0 z1 => take_short1 w b A _ c h0 h1 z0 z1 (by omega)
        · exact text_short h hS (by omega) (m := 2) (cs := #[.int .u8 0, .int .u8 0]) rfl fun w A c h0 h1 z0 z1 => take_short2 w b A _ c h0 h1 z0 z1 (by omega)
        · exact text_short h hS (by omega) (m := 3) (cs := #[.int .u8 0, .int .u8 0, .int .u8 0]) rfl fun w A c h0 h1 z0 z1 => take_short3 w b A _ c h0 h1 z0 z1 (by omega)
        · exact text_short h hS (by omega) (m := 4) (cs := #[.int .u8 0, .int .u8 0, .int .u8 0, .int .u8 0]) rfl fun w A c h0 h1 z0 z1 => take_short4 w b A _ c h0 h1 z0 z1 (by omega)
  · obtain rfl := hr.2.2 he
    exact text_bad h hS he

/-! ### Truth -/
def TruthP (ok : Nat → Prop) (w : World) (b : Nat) (e : Int) (bs : List UInt8) (en : Ending) (w' : World) : Prop :=
  en = .returned (.bool (truthS e bs).1) ∧ Rdr ok w' b (truthS e bs).2.1 (truthS e bs).2.2 ∧ Kp (One b) w w'

theorem truth_bad {ok : Nat → Prop} {w : World} {b : Nat} {e : Int} {bs : List UInt8} (h : Rdr ok w b e bs) (he : e ≠ 0) :
    Calls Try.prog 70 #[.pointer (some ⟨b, 0, none⟩)] w (TruthP ok w b e bs) := by
  have hT : truthS e bs = (false, e, bs) := by simp [truthS, he]
  have HT := Lib.hid hT
  have H := Lib.hid h
  have hl := h.lt
  obtain ⟨A, c, h0, h1, z0, z1, hc, hc2, hs, ha⟩ := h
  have he1 : (e == 0) = false := by simpa using he
  have he2 : (e != 0) = true := by simpa using he
  clear hs ha hT he
  go_enter Try.func70, Try.ntmps70
  go_wp2_with fail
  refine (take_bad1 _ _ _ _ _ _ h0 h1 z0 z1 he1 he2).mono ?_
  rintro e w' ⟨rfl, rfl⟩
  go_wp2
  go_ret
  refine ⟨by rw [HT.out]; rfl, ?_, ?_⟩
  · rw [HT.out]
    exact H.out.kpNo (by repeat (first | exact Kp.refl _ _ | apply Kp.drewN | apply Kp.alloc | apply Kp.set1))
  · (repeat (first | exact Kp.refl _ _ | apply Kp.drewN | apply Kp.alloc | apply Kp.set1))

theorem truth_short {ok : Nat → Prop} {w : World} {b : Nat} (h : Rdr ok w b 0 []) :
    Calls Try.prog 70 #[.pointer (some ⟨b, 0, none⟩)] w (TruthP ok w b 0 []) := by
  have H := Lib.hid h
  have hl := h.lt
  obtain ⟨A, c, h0, h1, z0, z1, hc, hc2, hs, ha⟩ := h
  have HC := Lib.hid hs
  clear hs ha
  go_enter Try.func70, Try.ntmps70
  go_wp2_with fail
  refine (take_short1 _ _ _ _ _ h0 h1 z0 z1 (by simp)).mono ?_
  rintro e w' ⟨rfl, rfl⟩
  go_wp2
  go_ret
  refine ⟨rfl, ?_, ?_⟩
  · exact H.out.put (A1 := A) (c1 := c) (e1 := 7) (bs1 := []) (by repeat (first | exact Kp.refl _ _ | apply Kp.drewN | apply Kp.alloc | apply Kp.set1)) (by go_simp) (by go_simp) (by go_simp) (by go_simp) hc hc2 HC.out
  · (repeat (first | exact Kp.refl _ _ | apply Kp.drewN | apply Kp.alloc | apply Kp.set1))

theorem truth_yes {ok : Nat → Prop} {w : World} {b : Nat} {x : UInt8} {r : List UInt8} (h : Rdr ok w b 0 (x :: r)) :
    Calls Try.prog 70 #[.pointer (some ⟨b, 0, none⟩)] w (TruthP ok w b 0 (x :: r)) := by
  have H := Lib.hid h
  have hl := h.lt
  obtain ⟨A, c, h0, h1, z0, z1, hc, hc2, hs, ha⟩ := h
  have hn : 1 ≤ (x :: r).length := by simp
  obtain ⟨g, off, rfl, hg, hcell⟩ := hs.2.2 (by omega)
  have hgb : g ≠ b := (ha g hg).2
  have hgl := (ha g hg).1
  have g0 : w.cell? ⟨g, off, none⟩ = some (.int .u8 x.toNat) := hcell 0 (by omega)
  have HS := Lib.hid hs
  have hr4 : r.length ≤ c - 1 ∧ c - 1 ≤ 9223372036854775807 := by simp only [List.length_cons] at hc; omega
  have HR4 := Lib.hid hr4
  clear hs ha hcell hg hr4
  go_enter Try.func70, Try.ntmps70
  go_wp2_with fail
  refine (take_yes _ _ _ _ _ 1 h0 h1 z0 z1 hn hc hc2).mono ?_
  rintro e w' ⟨rfl, A1, hA, rfl⟩
  have HA := Lib.hid hA
  clear hA
  go_wp2
  all_goals go_ret
  · have hx : (1 : Int) < (x.toNat : Int) := by assumption
    have hT : truthS 0 (x :: r) = (false, 5, r) := by simp [truthS]; omega
    refine ⟨by rw [hT]; rfl, ?_, (by repeat (first | exact Kp.refl _ _ | apply Kp.drewN | apply Kp.alloc | apply Kp.set1))⟩
    rw [hT]
    exact H.out.put (A1 := A1) (c1 := c - 1) (by repeat (first | exact Kp.refl _ _ | apply Kp.drewN | apply Kp.alloc | apply Kp.set1)) (by go_simp) (by go_simp) (by go_simp) (by go_simp) HR4.out.1 HR4.out.2 (HS.out.after hn HA.out)
  · have hx : (x.toNat : Int) ≤ 1 := by assumption
    have hT : truthS 0 (x :: r) = (((x.toNat : Int) == 1), 0, r) := by simp [truthS]; omega
    refine ⟨by rw [hT]; rfl, ?_, (by repeat (first | exact Kp.refl _ _ | apply Kp.drewN | apply Kp.alloc | apply Kp.set1))⟩
    rw [hT]
    exact H.out.put (A1 := A1) (c1 := c - 1) (by repeat (first | exact Kp.refl _ _ | apply Kp.drewN | apply Kp.alloc | apply Kp.set1)) (by go_simp) (by go_simp) (by go_simp) (by go_simp) HR4.out.1 HR4.out.2 (HS.out.after hn HA.out)

theorem truth_c {ok : Nat → Prop} {w : World} {b : Nat} {e : Int} {bs : List UInt8} (h : Rdr ok w b e bs) :
    Calls Try.prog 70 #[.pointer (some ⟨b, 0, none⟩)] w (TruthP ok w b e bs) := by
  by_cases he : e = 0
  · subst he
    cases bs with
    | nil => exact truth_short h
    | cons x r => exact truth_yes h
  · exact truth_bad h he

/-! ### End -/
def EndP (ok : Nat → Prop) (w : World) (b : Nat) (e : Int) (bs : List UInt8) (en : Ending) (w' : World) : Prop :=
  en = .returned (.int .i64 (endS e bs)) ∧ Kp (One b) w w'

theorem end_c {ok : Nat → Prop} {w : World} {b : Nat} {e : Int} {bs : List UInt8} (h : Rdr ok w b e bs) :
    Calls Try.prog 52 #[.pointer (some ⟨b, 0, none⟩)] w (EndP ok w b e bs) := by
  obtain ⟨A, c, h0, h1, z0, z1, hc, hc2, hs, ha⟩ := h
  clear hs ha
  by_cases he : e = 0
  · subst he
    cases bs with
    | nil =>
      go_enter Try.func52, Try.ntmps52
      go_wp2
      go_ret
      exact ⟨rfl, by repeat (first | exact Kp.refl _ _ | apply Kp.drewN | apply Kp.alloc | apply Kp.set1)⟩
    | cons x r =>
      go_enter Try.func52, Try.ntmps52
      go_wp2
      go_ret
      exact ⟨by simp [endS], by repeat (first | exact Kp.refl _ _ | apply Kp.drewN | apply Kp.alloc | apply Kp.set1)⟩
  · have hE : endS e bs = e := by simp [endS, he]
    have HE := Lib.hid hE
    have he1 : (e == 0) = false := by simpa using he
    clear hE he
    go_enter Try.func52, Try.ntmps52
    go_wp2
    go_ret
    exact ⟨by rw [HE.out]; rfl, by repeat (first | exact Kp.refl _ _ | apply Kp.drewN | apply Kp.alloc | apply Kp.set1)⟩

end Go.Proofs.Ytakhkjidcnahjaa
