/- The packer of parcel as a local of another function: Num, Text, Truth with arguments made on the spot; packed. -/
import Derived.Test.YtakhkjidcnahjaaQPackerText
set_option linter.unusedVariables false
set_option linter.unusedSimpArgs false
namespace Go.Proofs.Ytakhkjidcnahjaa
open Go.RowKit

/-- The packer at b, as it has become since the world W0. -/
def PkS (W0 : World) (b : Nat) (o0 : Option Nat) (w : World) (bad : Bool) (bs : List UInt8) : Prop :=
  ∃ o, Pkr w b bad bs o ∧ Nxt W0 o0 o ∧ Kp (PF b o0) W0 w
theorem PkS.start {W0 : World} {b : Nat} {o : Option Nat} {bad : Bool} {bs : List UInt8} (h : Pkr W0 b bad bs o) : PkS W0 b o W0 bad bs := ⟨o, h, Nxt.refl _ _, Kp.refl _ _⟩
theorem PkS.no {W0 w w' : World} {b : Nat} {o0 : Option Nat} {bad : Bool} {bs : List UInt8} (h : PkS W0 b o0 w bad bs) (k : Kp No w w') : PkS W0 b o0 w' bad bs := by
  obtain ⟨o, h1, h2, h3⟩ := h
  exact ⟨o, h1.kpNo k, h2, h3.thenNo k⟩
/-- What the packer's method leaves. -/
def PkE (W0 : World) (b : Nat) (o0 : Option Nat) (bad : Bool) (bs : List UInt8) (en : Ending) (w' : World) : Prop := en = .returned (.tuple #[]) ∧ PkS W0 b o0 w' bad bs
theorem PkS.after {W0 w w' : World} {b : Nat} {o0 o : Option Nat} {bad bad' : Bool} {bs bs' : List UInt8} {en : Ending} (h2 : Nxt W0 o0 o) (h3 : Kp (PF b o0) W0 w) (k : PkP w b o bad' bs' en w') : PkE W0 b o0 bad' bs' en w' := by
  obtain ⟨rfl, o', p, n, q⟩ := k
  refine ⟨rfl, o', p, h2.trans n h3.size, h3.trans q fun i hi e => ?_⟩
  rcases e with e | e
  · exact .inl e
  · rcases h2 with rfl | ⟨j, rfl, hj⟩
    · exact .inr e
    · have : j = i := by injection e
      omega
/-- Blocks beside the packer read as they did. -/
theorem PkS.cells {W0 w : World} {b : Nat} {o0 : Option Nat} {bad : Bool} {bs : List UInt8} (h : PkS W0 b o0 w bad bs) (x : Nat) (hx : x < W0.heap.size) (hb : x ≠ b) (ho : o0 ≠ some x) : ∀ i, w.cell? ⟨x, i, none⟩ = W0.cell? ⟨x, i, none⟩ := by
  obtain ⟨o, _, _, k⟩ := h
  exact fun i => k.cell x i hx fun e => e.elim hb ho
theorem PkS.frozens {W0 w : World} {b : Nat} {o0 : Option Nat} {bad : Bool} {bs : List UInt8} (h : PkS W0 b o0 w bad bs) (x : Nat) (hx : x < W0.heap.size) (hb : x ≠ b) (ho : o0 ≠ some x) : ∀ i, w.frozen? ⟨x, i, none⟩ = W0.frozen? ⟨x, i, none⟩ := by
  obtain ⟨o, _, _, k⟩ := h
  exact fun i => k.frozen x i hx fun e => e.elim hb ho
theorem PkS.size {W0 w : World} {b : Nat} {o0 : Option Nat} {bad : Bool} {bs : List UInt8} (h : PkS W0 b o0 w bad bs) : W0.heap.size ≤ w.heap.size := by
  obtain ⟨o, _, _, k⟩ := h
  exact k.size

theorem apt_new {w : World} {n0 b : Nat} {o : Option Nat} {bad : Bool} {bs : List UInt8} (h : Pkr w b bad bs o) (hz : n0 = w.heap.size) (ob : Obj) : Apt (PF b o) (w.alloc ob) (One n0) := by
  subst hz
  rintro y rfl
  refine ⟨by simp, ?_⟩
  rintro (e | e)
  · have := h.lt; omega
  · have := h.oLt e; omega

theorem pNum_s {W0 w : World} {b n0 m c : Nat} {o0 : Option Nat} {bad : Bool} {bs : List UInt8} {cs : Array Value} {T : TypeId} (l : List Int) (h : PkS W0 b o0 w bad bs) (hz : n0 = w.heap.size) (hm : m = l.length) (hcs : cs.toList = l.map (Value.int .i64))
    (hl : bs.length + 4 * l.length ≤ 140737488355328) :
    Calls Try.prog 45 #[.pointer (some ⟨b, 0, none⟩), .slice (some ⟨n0, 0, none⟩) m c] (w.alloc (.cells cs T)) (PkE W0 b o0 (bad || badS l) (bs ++ numsB l)) := by
  subst hm
  obtain ⟨o, h1, h2, h3⟩ := h
  exact (pNum_c (h1.kpNo ((Kp.refl _ _).alloc _)) (srcV_new _ _ _ hz _ _ _ hcs) (apt_new h1 hz _) hl).mono fun en w' k => PkS.after (bad := bad) (bs := bs) h2 (h3.alloc _) k
theorem pText_s {W0 w : World} {b n0 m c : Nat} {o0 : Option Nat} {bad : Bool} {bs : List UInt8} {cs : Array Value} {T : TypeId} (l : List ByteArray) (h : PkS W0 b o0 w bad bs) (hz : n0 = w.heap.size) (hm : m = l.length) (hcs : cs.toList = l.map Value.string)
    (hl : bs.length + (textsB l).length ≤ 140737488355328) :
    Calls Try.prog 46 #[.pointer (some ⟨b, 0, none⟩), .slice (some ⟨n0, 0, none⟩) m c] (w.alloc (.cells cs T)) (PkE W0 b o0 (bad || longS l) (bs ++ textsB l)) := by
  subst hm
  obtain ⟨o, h1, h2, h3⟩ := h
  exact (pText_c (h1.kpNo ((Kp.refl _ _).alloc _)) (srcV_new _ _ _ hz _ _ _ hcs) (apt_new h1 hz _) hl).mono fun en w' k => PkS.after (bad := bad) (bs := bs) h2 (h3.alloc _) k

def truthB (t : Bool) : List UInt8 := [if t then 1 else 0]
theorem pTruth_c {w : World} {b : Nat} {bad : Bool} {bs : List UInt8} {o : Option Nat} (h : Pkr w b bad bs o) (t : Bool) (hl : bs.length + 1 ≤ 140737488355328) :
    Calls Try.prog 55 #[.pointer (some ⟨b, 0, none⟩), .bool t] w (PkP w b o bad (bs ++ truthB t)) := by
  have hbl := h.lt
  obtain ⟨v, c0, c1, z0, z1, hv, hno⟩ := h
  have HV := Lib.hid hv
  have HNO := Lib.hid hno
  clear hv hno
  cases t
  · go_enter Try.func55, Try.ntmps55
    go_wp2_with (at_builtin; refine app_cells rfl _ _ rfl _ o bs (truthB false) rfl 1 1 ⟨w.heap.size, 0, none⟩ rfl rfl ?hc ?HO ?hl ?_)
    case hc => exact news_new _ _ rfl _ _ (truthB false) rfl
    case HO => exact HV.out.kpNo (by repeat (first | exact Kp.refl _ _ | apply Kp.alloc))
    case hl => exact hl
    intro v1 w2 o1 hown hnx hkp2
    obtain ⟨A1, n1, cc1, rfl⟩ := hown.form
    have hd0 := (hkp2.cell b 0 (by simp; omega) (fun e => HNO.out e)).trans (by go_simp : _ = some v)
    have hd1 := (hkp2.cell b 1 (by simp; omega) (fun e => HNO.out e)).trans (by go_simp : _ = some (.bool bad))
    have hy0 := (hkp2.frozen b 0 (by simp; omega) (fun e => HNO.out e)).trans (by go_simp : _ = false)
    have hy1 := (hkp2.frozen b 1 (by simp; omega) (fun e => HNO.out e)).trans (by go_simp : _ = false)
    have HR := Lib.hid (pkr_step (Nxt.refl w o) (Kp.refl _ _) hbl HNO.out (by repeat (first | exact Kp.refl _ _ | apply Kp.drewN | apply Kp.alloc | apply Kp.set1)) hown hnx hkp2 hd0 hd1 hy0 hy1)
    clear hown hnx hkp2
    go_wp2_with fail
    go_end0
    exact ⟨rfl, HR.out⟩
  · go_enter Try.func55, Try.ntmps55
    go_wp2_with (at_builtin; refine app_cells rfl _ _ rfl _ o bs (truthB true) rfl 1 1 ⟨w.heap.size, 0, none⟩ rfl rfl ?hc ?HO ?hl ?_)
    case hc => exact news_new _ _ rfl _ _ (truthB true) rfl
    case HO => exact HV.out.kpNo (by repeat (first | exact Kp.refl _ _ | apply Kp.alloc))
    case hl => exact hl
    intro v1 w2 o1 hown hnx hkp2
    obtain ⟨A1, n1, cc1, rfl⟩ := hown.form
    have hd0 := (hkp2.cell b 0 (by simp; omega) (fun e => HNO.out e)).trans (by go_simp : _ = some v)
    have hd1 := (hkp2.cell b 1 (by simp; omega) (fun e => HNO.out e)).trans (by go_simp : _ = some (.bool bad))
    have hy0 := (hkp2.frozen b 0 (by simp; omega) (fun e => HNO.out e)).trans (by go_simp : _ = false)
    have hy1 := (hkp2.frozen b 1 (by simp; omega) (fun e => HNO.out e)).trans (by go_simp : _ = false)
    have HR := Lib.hid (pkr_step (Nxt.refl w o) (Kp.refl _ _) hbl HNO.out (by repeat (first | exact Kp.refl _ _ | apply Kp.drewN | apply Kp.alloc | apply Kp.set1)) hown hnx hkp2 hd0 hd1 hy0 hy1)
    clear hown hnx hkp2
    go_wp2_with fail
    go_end0
    exact ⟨rfl, HR.out⟩
theorem pTruth_s {W0 w : World} {b : Nat} {o0 : Option Nat} {bad : Bool} {bs : List UInt8} (t : Bool) (h : PkS W0 b o0 w bad bs) (hl : bs.length + 1 ≤ 140737488355328) :
    Calls Try.prog 55 #[.pointer (some ⟨b, 0, none⟩), .bool t] w (PkE W0 b o0 bad (bs ++ truthB t)) := by
  obtain ⟨o, h1, h2, h3⟩ := h
  exact (pTruth_c h1 t hl).mono fun en w' k => PkS.after (bad := bad) (bs := bs) h2 h3 k

/-! ### packed -/
def packedS (bad : Bool) (bs : List UInt8) : Option (List UInt8) := if bad = true ∨ 32768 < bs.length then none else some bs
/-- What packed answers: bytes of the call's own, or an error. -/
def PackedP (w : World) (b : Nat) (bad : Bool) (bs : List UInt8) (o : Option Nat) (en : Ending) (w' : World) : Prop :=
  w' = w ∧ match packedS bad bs with
    | none => en = .returned (.tuple #[.slice none 0 0, .int .i64 1])
    | some bs => ∃ A c, en = .returned (.tuple #[.slice A bs.length c, .int .i64 0]) ∧ OwnB w (.slice A bs.length c) o bs
theorem packed_c {w : World} {b : Nat} {bad : Bool} {bs : List UInt8} {o : Option Nat} (h : Pkr w b bad bs o) :
    Calls Try.prog 54 #[.pointer (some ⟨b, 0, none⟩)] w (PackedP w b bad bs o) := by
  obtain ⟨v, c0, c1, z0, z1, hv, hno⟩ := h
  obtain ⟨A, c, rfl, hcc⟩ := hv.slice
  have HV := Lib.hid hv
  clear hv hno
  cases bad
  · by_cases hl : 32768 < bs.length
    · have HS := Lib.hid (show packedS false bs = none by simp [packedS, hl])
      go_enter Try.func54, Try.ntmps54
      go_wp2
      go_ret2
      refine ⟨rfl, ?_⟩
      rw [HS.out]
      rfl
    · have HS := Lib.hid (show packedS false bs = some bs by simp [packedS, hl])
      go_enter Try.func54, Try.ntmps54
      go_wp2
      go_ret2
      refine ⟨rfl, ?_⟩
      rw [HS.out]
      exact ⟨A, c, rfl, HV.out⟩
  · have HS := Lib.hid (show packedS true bs = none by simp [packedS])
    go_enter Try.func54, Try.ntmps54
    go_wp2
    go_ret2
    refine ⟨rfl, ?_⟩
    rw [HS.out]
    rfl

end Go.Proofs.Ytakhkjidcnahjaa
