/- The reader of parcel, behind take: what Num, Text, Truth and End answer and leave. -/
import Derived.Test.YtakhkjidcnahjaaQReader
import Derived.Laws.BitsLemmas
set_option linter.unusedVariables false
set_option linter.unusedSimpArgs false
namespace Go.Proofs.Ytakhkjidcnahjaa
open Go.RowKit

/-! ### What the reader's methods answer, of its error and its rest -/
def be4 (a b c d : UInt8) : Nat := ((a.toNat * 256 + b.toNat) * 256 + c.toNat) * 256 + d.toNat
def numS (e : Int) (bs : List UInt8) : Int × Int × List UInt8 :=
  if e = 0 then
    match bs with
    | a :: b :: c :: d :: r => if be4 a b c d ≤ 268435455 then ((be4 a b c d : Nat), 0, r) else (0, 5, r)
    | _ => (0, 7, bs)
  else (0, e, bs)
def textS (e : Int) (bs : List UInt8) : ByteArray × Int × List UInt8 :=
  if (numS e bs).2.1 = 0 then
    if (numS e bs).1.toNat ≤ (numS e bs).2.2.length then (⟨((numS e bs).2.2.take (numS e bs).1.toNat).toArray⟩, 0, (numS e bs).2.2.drop (numS e bs).1.toNat)
    else (⟨#[]⟩, 7, (numS e bs).2.2)
  else (⟨#[]⟩, (numS e bs).2.1, (numS e bs).2.2)
def truthS (e : Int) (bs : List UInt8) : Bool × Int × List UInt8 :=
  if e = 0 then
    match bs with
    | x :: r => if x.toNat ≤ 1 then (((x.toNat : Int) == 1), 0, r) else (false, 5, r)
    | [] => (false, 7, [])
  else (false, e, bs)
def endS (e : Int) (bs : List UInt8) : Int := if e = 0 ∧ bs ≠ [] then 5 else e

theorem or_add (a b k v : Nat) (hv : 2 ^ k = v) (h : b < v) : (a * v) ||| b = a * v + b := by
  subst hv
  rw [← Nat.shiftLeft_eq, ← Nat.shiftLeft_add_eq_or_of_lt h]
theorem wrap_small (x : Nat) (h : x < 4294967296) : wrap64 (x : Int) = x := by unfold wrap64; omega
theorem wraps_i64 (n : Int) (h₀ : 0 ≤ n) (h₁ : n < 2 ^ 32) : IntKind.i64.wrap n = n := by rw [IntKind.wrap_i64]; omega
theorem bits_or (x y : Nat) (hx : x < 4294967296) (hy : y < 4294967296) : bits .or .i64 (x : Int) (y : Int) = ((x ||| y : Nat) : Int) :=
  (bits_nat .i64 32 (by decide) wraps_i64 x y (by omega) (by omega)).2
theorem be4_bits (a b c d : UInt8) :
    bits .or .i64 (bits .or .i64 (bits .or .i64 (wrap64 (wrap64 (a.toNat : Int) * 16777216)) (wrap64 (wrap64 (b.toNat : Int) * 65536))) (wrap64 (wrap64 (c.toNat : Int) * 256))) (wrap64 (d.toNat : Int)) = (be4 a b c d : Int) := by
  have ha := a.toNat_lt
  have hb := b.toNat_lt
  have hc := c.toNat_lt
  have hd := d.toNat_lt
  rw [wrap_small a.toNat (by omega), wrap_small b.toNat (by omega), wrap_small c.toNat (by omega), wrap_small d.toNat (by omega)]
  rw [show (a.toNat : Int) * 16777216 = ((a.toNat * 16777216 : Nat) : Int) by omega, show (b.toNat : Int) * 65536 = ((b.toNat * 65536 : Nat) : Int) by omega, show (c.toNat : Int) * 256 = ((c.toNat * 256 : Nat) : Int) by omega]
  rw [wrap_small _ (by omega), wrap_small _ (by omega), wrap_small _ (by omega)]
  have e1 : a.toNat * 16777216 ||| b.toNat * 65536 = (a.toNat * 256 + b.toNat) * 65536 := by
    rw [or_add _ _ 24 16777216 rfl (by omega)]; omega
  have e2 : (a.toNat * 256 + b.toNat) * 65536 ||| c.toNat * 256 = ((a.toNat * 256 + b.toNat) * 256 + c.toNat) * 256 := by
    rw [or_add _ _ 16 65536 rfl (by omega)]; omega
  have e3 : ((a.toNat * 256 + b.toNat) * 256 + c.toNat) * 256 ||| d.toNat = be4 a b c d := by
    rw [or_add _ _ 8 256 rfl (by omega)]; unfold be4; omega
  rw [bits_or _ _ (by omega) (by omega), e1, bits_or _ _ (by omega) (by omega), e2, bits_or _ _ (by omega) (by omega), e3]

/-! ### The reader's state -/
theorem Rdr.lt {ok : Nat → Prop} {w : World} {b : Nat} {e : Int} {bs : List UInt8} (h : Rdr ok w b e bs) : b < w.heap.size := by
  obtain ⟨A, c, h0, _⟩ := h
  exact World.block_lt_of_cell? w ⟨b, 0, none⟩ h0
theorem Rdr.kp {S ok : Nat → Prop} {w w' : World} {b : Nat} {e : Int} {bs : List UInt8} (h : Rdr ok w b e bs) (k : Kp S w w') (hb : ¬ S b) (ho : ∀ x, ok x → ¬ S x) : Rdr ok w' b e bs := by
  have hl := h.lt
  obtain ⟨A, c, h0, h1, z0, z1, hc, hc2, hs, ha⟩ := h
  refine ⟨A, c, (k.cell b 0 hl hb).trans h0, (k.cell b 1 hl hb).trans h1, (k.frozen b 0 hl hb).trans z0, (k.frozen b 1 hl hb).trans z1, hc, hc2, hs.agr (k.agr fun x hx => ⟨(ha x hx).1, ho x hx⟩), ha.kp k⟩
theorem Rdr.kpNo {ok : Nat → Prop} {w w' : World} {b : Nat} {e : Int} {bs : List UInt8} (h : Rdr ok w b e bs) (k : Kp No w w') : Rdr ok w' b e bs := h.kp k (not_No b) fun x _ => not_No x
/-- The reader's cells are written. -/
theorem Rdr.put {ok : Nat → Prop} {w w' : World} {b : Nat} {e e1 : Int} {bs bs1 : List UInt8} {A1 : Option Addr} {c1 : Nat} (h : Rdr ok w b e bs) (k : Kp (One b) w w')
    (h0 : w'.cell? ⟨b, 0, none⟩ = some (.slice A1 bs1.length c1)) (h1 : w'.cell? ⟨b, 1, none⟩ = some (.int .i64 e1)) (z0 : w'.frozen? ⟨b, 0, none⟩ = false) (z1 : w'.frozen? ⟨b, 1, none⟩ = false)
    (hc : bs1.length ≤ c1) (hc2 : c1 ≤ 9223372036854775807) (hs : Src ok w A1 bs1.length bs1) : Rdr ok w' b e1 bs1 := by
  obtain ⟨A, c, _, _, _, _, _, _, _, ha⟩ := h
  exact ⟨A1, c1, h0, h1, z0, z1, hc, hc2, hs.agr (k.agr ha), ha.kp k⟩
theorem Src.after {ok : Nat → Prop} {w : World} {A A1 : Option Addr} {n k : Nat} {bs : List UInt8} (h : Src ok w A n bs) (hk : k ≤ n) (hA : A1 = A ∧ n = k ∨ A1 = A.map fun x => x.add k) : Src ok w A1 (n - k) (bs.drop k) := by
  rcases hA with ⟨rfl, rfl⟩ | rfl
  · rw [Nat.sub_self, List.drop_of_length_le (by rw [h.1]; omega)]; exact Src.nil _ _ _ h.2.1
  · exact h.drop k hk

def NumP (ok : Nat → Prop) (w : World) (b : Nat) (e : Int) (bs : List UInt8) (en : Ending) (w' : World) : Prop :=
  en = .returned (.int .i64 (numS e bs).1) ∧ Rdr ok w' b (numS e bs).2.1 (numS e bs).2.2 ∧ Kp (One b) w w'

theorem numS_bad {e : Int} (h : e ≠ 0) (bs : List UInt8) : numS e bs = (0, e, bs) := by simp [numS, h]
theorem numS_short {bs : List UInt8} (h : bs.length < 4) : numS 0 bs = (0, 7, bs) := by
  match bs, h with
  | [], _ => rfl
  | [_], _ => rfl
  | [_, _], _ => rfl
  | [_, _, _], _ => rfl
  | a :: b :: c :: d :: r, h => simp at h; omega

theorem numS_form {x0 x1 x2 x3 : UInt8} (r : List UInt8) (h : ¬ be4 x0 x1 x2 x3 ≤ 268435455) : numS 0 (x0 :: x1 :: x2 :: x3 :: r) = (0, 5, r) := by simp [numS, h]
theorem numS_yes {x0 x1 x2 x3 : UInt8} (r : List UInt8) (h : be4 x0 x1 x2 x3 ≤ 268435455) : numS 0 (x0 :: x1 :: x2 :: x3 :: r) = (((be4 x0 x1 x2 x3 : Nat) : Int), 0, r) := by simp [numS, h]
theorem num_bad {ok : Nat → Prop} {w : World} {b : Nat} {e : Int} {bs : List UInt8} (h : Rdr ok w b e bs) (he : e ≠ 0) :
    Calls Try.prog 51 #[.pointer (some ⟨b, 0, none⟩)] w (NumP ok w b e bs) := by
  have hl := h.lt
  have H := Lib.hid h
  obtain ⟨A, c, h0, h1, z0, z1, hc, hc2, hs, ha⟩ := h
  have he1 : (e == 0) = false := by simpa using he
  have he2 : (e != 0) = true := by simpa using he
  clear hs ha
  have HE := Lib.hid he
  clear he
  go_enter Try.func51, Try.ntmps51
  go_wp2_with fail
  refine (take_bad4 _ _ _ _ _ _ h0 h1 z0 z1 he1 he2).mono ?_
  rintro e w' ⟨rfl, rfl⟩
  go_wp2
  go_quiet (fail)
  go_wp2
  go_ret
  refine ⟨by rw [numS_bad HE.out]; rfl, ?_, ?_⟩
  · rw [numS_bad HE.out]
    exact H.out.kpNo (by repeat (first | exact Kp.refl _ _ | apply Kp.drewN | apply Kp.alloc | apply Kp.set1))
  · exact (by repeat (first | exact Kp.refl _ _ | apply Kp.drewN | apply Kp.alloc | apply Kp.set1))

theorem num_short {ok : Nat → Prop} {w : World} {b : Nat} {bs : List UInt8} (h : Rdr ok w b 0 bs) (hn : bs.length < 4) :
    Calls Try.prog 51 #[.pointer (some ⟨b, 0, none⟩)] w (NumP ok w b 0 bs) := by
  have hl := h.lt
  have H := Lib.hid h
  obtain ⟨A, c, h0, h1, z0, z1, hc, hc2, hs, ha⟩ := h
  have HS := Lib.hid hs
  clear hs ha
  go_enter Try.func51, Try.ntmps51
  go_wp2_with fail
  refine (take_short4 _ _ _ _ _ h0 h1 z0 z1 hn).mono ?_
  rintro e w' ⟨rfl, rfl⟩
  go_wp2
  go_quiet (fail)
  go_wp2
  go_ret
  refine ⟨by rw [numS_short hn]; rfl, ?_, ?_⟩
  · rw [numS_short hn]
    have k : Kp (One b) w (((w.setCell ⟨b, 1, none⟩ (.int .i64 7)).alloc (.cells #[.int .u8 0, .int .u8 0, .int .u8 0, .int .u8 0] 5)).drewN nq) := (by repeat (first | exact Kp.refl _ _ | apply Kp.drewN | apply Kp.alloc | apply Kp.set1))
    exact H.out.put k (by go_simp) (by go_simp) (by go_simp) (by go_simp) hc hc2 HS.out
  · exact (by repeat (first | exact Kp.refl _ _ | apply Kp.drewN | apply Kp.alloc | apply Kp.set1))

theorem num_yes {ok : Nat → Prop} {w : World} {b : Nat} {x0 x1 x2 x3 : UInt8} {r : List UInt8} (h : Rdr ok w b 0 (x0 :: x1 :: x2 :: x3 :: r)) :
    Calls Try.prog 51 #[.pointer (some ⟨b, 0, none⟩)] w (NumP ok w b 0 (x0 :: x1 :: x2 :: x3 :: r)) := by
  have hl := h.lt
  have H := Lib.hid h
  obtain ⟨A, c, h0, h1, z0, z1, hc, hc2, hs, ha⟩ := h
  have hn : 4 ≤ (x0 :: x1 :: x2 :: x3 :: r).length := by simp
  obtain ⟨g, off, rfl, hg, hcell⟩ := hs.2.2 (by omega)
  have hgb : g ≠ b := (ha g hg).2
  have hgl := (ha g hg).1
  have g0 : w.cell? ⟨g, off, none⟩ = some (.int .u8 x0.toNat) := hcell 0 (by omega)
  have g1 : w.cell? ⟨g, off + 1, none⟩ = some (.int .u8 x1.toNat) := hcell 1 (by omega)
  have g2 : w.cell? ⟨g, off + 2, none⟩ = some (.int .u8 x2.toNat) := hcell 2 (by omega)
  have g3 : w.cell? ⟨g, off + 3, none⟩ = some (.int .u8 x3.toNat) := hcell 3 (by omega)
  have HS := Lib.hid hs
  clear hs ha hcell hg
  have hr4 : r.length ≤ c - 4 ∧ c - 4 ≤ 9223372036854775807 := by simp only [List.length_cons] at hc; omega
  have HR4 := Lib.hid hr4
  clear hr4
  have hb4 := be4_bits x0 x1 x2 x3
  go_enter Try.func51, Try.ntmps51
  go_wp2_with fail
  refine (take_yes _ _ _ _ _ 4 h0 h1 z0 z1 hn hc hc2).mono ?_
  rintro e w' ⟨rfl, A1, hA, rfl⟩
  have HA := Lib.hid hA
  clear hA
  go_wp2
  go_quiet (fail)
  go_wp2
  all_goals go_ret
  · have hb : 268435455 < (be4 x0 x1 x2 x3 : Int) := by assumption
    have hk := numS_form r (x0 := x0) (x1 := x1) (x2 := x2) (x3 := x3) (by omega)
    refine ⟨by rw [hk]; rfl, ?_, (by repeat (first | exact Kp.refl _ _ | apply Kp.drewN | apply Kp.alloc | apply Kp.set1))⟩
    rw [hk]
    exact H.out.put (c1 := c - 4) (by repeat (first | exact Kp.refl _ _ | apply Kp.drewN | apply Kp.alloc | apply Kp.set1)) (by go_simp) (by go_simp) (by go_simp) (by go_simp) HR4.out.1 HR4.out.2 (HS.out.after hn HA.out)
  · have hb : (be4 x0 x1 x2 x3 : Int) ≤ 268435455 := by assumption
    have hk := numS_yes r (x0 := x0) (x1 := x1) (x2 := x2) (x3 := x3) (by omega)
    refine ⟨by rw [hk]; rfl, ?_, (by repeat (first | exact Kp.refl _ _ | apply Kp.drewN | apply Kp.alloc | apply Kp.set1))⟩
    rw [hk]
    exact H.out.put (c1 := c - 4) (by repeat (first | exact Kp.refl _ _ | apply Kp.drewN | apply Kp.alloc | apply Kp.set1)) (by go_simp) (by go_simp) (by go_simp) (by go_simp) HR4.out.1 HR4.out.2 (HS.out.after hn HA.out)

theorem num_c {ok : Nat → Prop} {w : World} {b : Nat} {e : Int} {bs : List UInt8} (h : Rdr ok w b e bs) :
    Calls Try.prog 51 #[.pointer (some ⟨b, 0, none⟩)] w (NumP ok w b e bs) := by
  by_cases he : e = 0
  · subst he
    match bs, h with
    | x0 :: x1 :: x2 :: x3 :: r, h => exact num_yes h
    | [], h => exact num_short h (by simp)
    | [_], h => exact num_short h (by simp)
    | [_, _], h => exact num_short h (by simp)
    | [_, _, _], h => exact num_short h (by simp)
  · exact num_bad h he

/-- The same, its answer by names. -/
def NumP' (ok : Nat → Prop) (w : World) (b : Nat) (n e1 : Int) (bs1 : List UInt8) (en : Ending) (w' : World) : Prop :=
  en = .returned (.int .i64 n) ∧ Rdr ok w' b e1 bs1 ∧ Kp (One b) w w'
theorem num_n {ok : Nat → Prop} {w : World} {b : Nat} {e : Int} {bs : List UInt8} (h : Rdr ok w b e bs) {n e1 : Int} {bs1 : List UInt8} (hS : numS e bs = (n, e1, bs1)) :
    Calls Try.prog 51 #[.pointer (some ⟨b, 0, none⟩)] w (NumP' ok w b n e1 bs1) := by
  refine (num_c h).mono ?_
  rintro en w' ⟨rfl, hr, hk⟩
  rw [hS] at hr ⊢
  exact ⟨rfl, hr, hk⟩

theorem numS_range (e : Int) (bs : List UInt8) : 0 ≤ (numS e bs).1 ∧ (numS e bs).1 ≤ 268435455 ∧ ((numS e bs).2.1 ≠ 0 → (numS e bs).1 = 0) := by
  unfold numS
  split
  · split
    · split
      · rename_i h; exact ⟨by simp, by simp; omega, by simp⟩
      · simp
    · simp
  · simp

end Go.Proofs.Ytakhkjidcnahjaa
