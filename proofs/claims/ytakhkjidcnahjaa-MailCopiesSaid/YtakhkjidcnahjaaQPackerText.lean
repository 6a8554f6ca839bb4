/- The packer of parcel: Text, Truth, packed. -/
import Derived.Test.YtakhkjidcnahjaaQPacker
set_option linter.unusedVariables false
set_option linter.unusedSimpArgs false
namespace Go.Proofs.Ytakhkjidcnahjaa
open Go.RowKit

def textB (s : ByteArray) : List UInt8 := be32 s.size ++ s.data.toList
def textsB (l : List ByteArray) : List UInt8 := l.flatMap textB
def longS (l : List ByteArray) : Bool := l.any fun s => off28 s.size
theorem textsB_take {l : List ByteArray} {k : Nat} {x : ByteArray} (h : l[k]? = some x) : textsB (l.take (k + 1)) = textsB (l.take k) ++ textB x := by
  rw [List.take_add_one, h]; simp [textsB]
theorem longS_take {l : List ByteArray} {k : Nat} {x : ByteArray} (h : l[k]? = some x) : longS (l.take (k + 1)) = (longS (l.take k) || off28 x.size) := by
  rw [List.take_add_one, h]; simp [longS]
theorem textB_length (s : ByteArray) : (textB s).length = 4 + s.size := by
  have : s.data.toList.length = s.size := by rw [Array.length_toList]; rfl
  simp only [textB, be32, List.length_append, List.length_cons, List.length_nil, this]
theorem textsB_take_le {l : List ByteArray} {k : Nat} {x : ByteArray} (h : l[k]? = some x) : (textsB (l.take k)).length + 4 + x.size ≤ (textsB l).length := by
  have h1 : (textsB (l.take (k + 1))).length ≤ (textsB l).length := by
    conv => rhs; rw [← List.take_append_drop (k + 1) l]
    simp only [textsB, List.flatMap_append, List.length_append]
    omega
  rw [textsB_take h, List.length_append, textB_length] at h1
  omega

theorem textsB_many (l : List ByteArray) : l.length ≤ (textsB l).length := by
  induction l with
  | nil => simp [textsB]
  | cons x l ih =>
    have := textB_length x
    simp only [textsB, List.flatMap_cons, List.length_append, List.length_cons] at *
    omega

theorem srcV_new {α : Type} (f : α → Value) (W : World) (n0 : Nat) (hz : n0 = W.heap.size) (cs : Array Value) (T : TypeId) (l : List α) (h : cs.toList = l.map f) :
    SrcV f (One n0) (W.alloc (.cells cs T)) (some ⟨n0, 0, none⟩) l.length l := by
  subst hz
  refine ⟨rfl, by rintro ad ⟨⟩; rfl, fun _ => ⟨_, _, rfl, rfl, fun i x hi => ?_⟩⟩
  rw [Nat.zero_add, cell_new, ← Array.getElem?_toList, h, List.getElem?_map, hi]
  rfl

def TextRel (w : World) (b : Nat) (o : Option Nat) (bad : Bool) (bs : List UInt8) (l : List ByteArray) (k : Nat) (wr : World) : Prop :=
  ∃ o', Pkr wr b (bad || longS (l.take k)) (bs ++ textsB (l.take k)) o' ∧ Nxt w o o' ∧ Kp (PF b o) w wr

theorem pText_c {ok : Nat → Prop} {w : World} {b : Nat} {bad : Bool} {bs : List UInt8} {o : Option Nat} {A : Option Addr} {c : Nat} {l : List ByteArray} (h : Pkr w b bad bs o)
    (hA : SrcV Value.string ok w A l.length l) (ha : Apt (PF b o) w ok) (hl : bs.length + (textsB l).length ≤ 140737488355328) :
    Calls Try.prog 46 #[.pointer (some ⟨b, 0, none⟩), .slice A l.length c] w (PkP w b o (bad || longS l) (bs ++ textsB l)) := by
  have hbl := h.lt
  have H := Lib.hid h
  have HA := Lib.hid hA
  have HP := Lib.hid ha
  have HL := Lib.hid hl
  have hll : l.length ≤ 140737488355328 := by have := textsB_many l; omega
  clear h hA ha hl
  go_enter Try.func46, Try.ntmps46
  go_wp2_with fail
  go_loopw [8] (fun i wr => ∃ k : Nat, k ≤ l.length ∧ i = .int .i64 k ∧ TextRel w b o bad bs l k wr) (fun i _ => l.length - (intOf i).toNat)
  case atStart => exact ⟨0, Nat.zero_le _, rfl, o, by simpa [longS, textsB] using H.out, Nxt.refl _ _, Kp.refl _ _⟩
  case round =>
    obtain ⟨k, hk, rfl, o', hp, hx, hkp⟩ := hrel
    by_cases hlt : k < l.length
    · have hx1 : l[k]? = some l[k] := List.getElem?_eq_getElem hlt
      generalize l[k] = x at hx1
      have HX := Lib.hid hx1
      obtain ⟨g, off, rfl, hg, hcell⟩ := HA.out.2.2 (by omega)
      have hgb : g ≠ b := fun e => (HP.out g hg).2 (.inl e)
      have hgl : g < wr.heap.size := Nat.lt_of_lt_of_le (HP.out g hg).1 hkp.size
      have hbl2 : b < wr.heap.size := Nat.lt_of_lt_of_le hbl hkp.size
      have cx : wr.cell? ⟨g, off + k, none⟩ = some (.string x) := (hkp.cell g _ (HP.out g hg).1 (HP.out g hg).2).trans (hcell k x hx1)
      have hle := textsB_take_le hx1
      have hl := HL.out
      have HP1 := Lib.hid hp
      have HNX := Lib.hid hx
      have HK := Lib.hid hkp
      have HLE := Lib.hid hle
      have hsz : x.size ≤ 140737488355328 := by omega
      have hne := fun e => (Nat.ne_of_lt hbl2) e
      clear hx1 hx hkp hcell hg hp hle hl
      go_wp2_with fail
      refine (pNum_c (l := [(x.size : Int)]) (ok := One wr.heap.size) (HP1.out.kpNo (by repeat (first | exact Kp.refl _ _ | apply Kp.alloc))) (srcV_new _ _ _ rfl _ _ _ rfl) ?_ ?_).mono ?_
      · rintro y rfl
        refine ⟨by simp, ?_⟩
        rintro (e | e)
        · omega
        · have := HP1.out.oLt e; omega
      · have h1 := HLE.out; have h2 := HL.out; rw [List.length_append]; simp only [List.length_cons, List.length_nil]; omega
      rintro e w1 ⟨rfl, o2, hp2, hn2, hk2⟩
      obtain ⟨v, c0, c1, z0, z1, hv, hno⟩ := hp2
      have HV := Lib.hid hv
      have HNO := Lib.hid hno
      have HN2 := Lib.hid hn2
      have HK2 := Lib.hid hk2
      have hbl3 : b < w1.heap.size := Nat.lt_of_lt_of_le hbl2 (Nat.le_trans (by simp) hk2.size)
      clear hv hno hn2 hk2
      go_wp2_with (at_builtin; refine app_str rfl _ _ rfl v o2 (bs ++ textsB (l.take k) ++ numsB [(x.size : Int)]) x rfl rfl ?HO ?hl ?_)
      case HO => exact HV.out
      case hl =>
        have h1 := HLE.out; have h2 := HL.out; rw [List.length_append, List.length_append, numsB_length]; simp only [List.length_cons, List.length_nil]; omega
      intro v1 w2 o3 hown hnx hkp2
      obtain ⟨A1, n1, cc1, rfl⟩ := hown.form
      have hd0 := (hkp2.cell b 0 hbl3 (fun e => HNO.out e)).trans c0
      have hd1 := (hkp2.cell b 1 hbl3 (fun e => HNO.out e)).trans c1
      have hy0 := (hkp2.frozen b 0 hbl3 (fun e => HNO.out e)).trans z0
      have hy1 := (hkp2.frozen b 1 hbl3 (fun e => HNO.out e)).trans z1
      have K1 : Kp (PF b o) w w1 := by
        refine (HK.out.thenNo (by repeat (first | exact Kp.refl _ _ | apply Kp.alloc))).trans HK2.out fun i hi e => ?_
        rcases e with e | e
        · exact .inl e
        · rcases HNX.out with rfl | ⟨j, rfl, hj⟩
          · exact .inr e
          · have : j = i := by injection e
            omega
      have N1 : Nxt w o o2 := HNX.out.trans (HN2.out.of_le (by simp)) HK.out.size
      have HR := Lib.hid (pkr_step N1 K1 hbl HNO.out (Kp.refl _ _) hown hnx hkp2 hd0 hd1 hy0 hy1)
      clear hown hnx hkp2 K1 N1
      go_wp2_with fail
      go_roundw
      case rel =>
        obtain ⟨o4, hp4, hn4, hk4⟩ := HR.out
        refine ⟨k + 1, by omega, by go_num, o4, ?_, hn4, hk4⟩
        rw [textsB_take HX.out, longS_take HX.out, ← Bool.or_assoc]
        have e1 : badS [(x.size : Int)] = off28 x.size := by simp [badS]
        have e2 : numsB [(x.size : Int)] = be32 x.size := by simp [numsB]
        rw [e1, e2] at hp4
        simpa only [textB, List.append_assoc] using hp4
      case measure => simp [intOf]; omega
    · go_wp2_with fail
      go_end0
      have hkk : k = l.length := by omega
      subst hkk
      rw [List.take_length] at hp
      exact ⟨rfl, o', hp, hx, hkp⟩

end Go.Proofs.Ytakhkjidcnahjaa
