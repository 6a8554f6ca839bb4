/- parcel.List at records, shards, last answers. -/
import Derived.Test.YtakhkjidcnahjaaQLists0
set_option linter.unusedVariables false
set_option linter.unusedSimpArgs false
namespace Go.Proofs.Ytakhkjidcnahjaa
open Go.RowKit

/-- A list as bytes, each item by f. -/
def itemsB {α : Type} (f : α → List UInt8) (l : List α) : List UInt8 := l.flatMap fun x => textB ⟨(f x).toArray⟩
def listB {α : Type} (f : α → List UInt8) (l : List α) : List UInt8 := numsB [(l.length : Int)] ++ itemsB f l
theorem itemsB_take {α : Type} (f : α → List UInt8) {l : List α} {k : Nat} {x : α} (h : l[k]? = some x) : itemsB f (l.take (k + 1)) = itemsB f (l.take k) ++ textB ⟨(f x).toArray⟩ := by
  rw [List.take_add_one, h]; simp [itemsB]
theorem itemsB_take_le {α : Type} (f : α → List UInt8) {l : List α} {k : Nat} {x : α} (h : l[k]? = some x) : (itemsB f (l.take k)).length + (4 + (f x).length) ≤ (itemsB f l).length := by
  have h1 : (itemsB f (l.take (k + 1))).length ≤ (itemsB f l).length := by
    conv => rhs; rw [← List.take_append_drop (k + 1) l]
    simp only [itemsB, List.flatMap_append, List.length_append]
    omega
  rw [itemsB_take f h, List.length_append, textB_length] at h1
  have : (⟨(f x).toArray⟩ : ByteArray).size = (f x).length := by simp [ByteArray.size]
  omega
theorem textsB_one (s : ByteArray) : textsB [s] = textB s := by simp [textsB]
def ListRel {α : Type} (f : α → List UInt8) (W0 : World) (b : Nat) (l : List α) (k : Nat) (wr : World) : Prop :=
  ∃ D, PkS W0 b none wr D (numsB [(l.length : Int)] ++ itemsB f (l.take k))


set_option maxRecDepth 100000 in
set_option maxHeartbeats 1000000 in
theorem listRecord_c {ok : Nat → Prop} {A : Option Addr} {c : Nat} (l : List Rec) (w : World) (hA : SrcF 2 Rec.cs ok w A l.length l) (ha : Apt No w ok) (hm : l.length ≤ 1000000) (hl : (listB recB l).length ≤ 140737488355328) :
    Calls Try.prog 59 #[.slice A l.length c, .func (.func 60) #[] #[]] w (RetBytes w (listB recB l)) := by
  have HL := Lib.hid hl
  have HA := Lib.hid hA
  have HP := Lib.hid ha
  clear hl hA ha
  have hfn : ∀ W : World, (binOp BinOp.eql 122 (Value.func (Fn.func 60) #[] #[]) Value.nilFunc).run Try.prog W = .ok (.bool false) W := fun W => by kernel_rfl
  go_enter Try.func59, Try.ntmps59
  go_wp2_with fail
  refine (pNum_s [(l.length : Int)] (PkS.start (b := w.heap.size) (o := none) (bad := false) (bs := []) ⟨.slice none 0 0, by go_simp, by go_simp, by go_simp, by go_simp, OwnB.nil _, by simp⟩) (by simp) rfl rfl (by simp)).mono ?_
  rintro e w1 ⟨rfl, hp⟩
  obtain ⟨W0, HW⟩ : ∃ W0 : World, Hid (W0 = w.alloc (.cells #[.slice none 0 0, .bool false] 103)) := ⟨_, rfl⟩
  have hW0 : w.heap.size < W0.heap.size := by rw [HW.out]; simp
  have KW0 : Kp No w W0 := by rw [HW.out]; exact (Kp.refl _ _).alloc _
  rw [← HW.out] at hp
  have HK0 := Lib.hid KW0
  have HP1 := Lib.hid hp
  clear hp KW0
  go_wp2_with fail
  go_loopw [21] (fun i wr => ∃ k : Nat, k ≤ l.length ∧ i = .int .i64 k ∧ ListRel recB W0 w.heap.size l k wr) (fun i _ => l.length - (intOf i).toNat)
  case atStart => exact ⟨0, Nat.zero_le _, rfl, _, by simpa [itemsB] using HP1.out⟩
  case round =>
    clear HP1
    obtain ⟨k, hk, rfl, D, hp⟩ := hrel
    have hbl := hp.size
    have HR := Lib.hid hp
    by_cases hlt : k < l.length
    · obtain ⟨g, off, rfl, hg, hcell⟩ := HA.out.2.2 (by omega)
      have hx1 : l[k]? = some l[k] := List.getElem?_eq_getElem hlt
      have hmem : l[k] ∈ l := List.getElem_mem hlt
      generalize l[k] = x at hx1 hmem
      have HX := Lib.hid hx1
      have HM := Lib.hid hmem
      have hgl : g < w.heap.size := (HP.out g hg).1
      have kc : ∀ i, wr.cell? ⟨g, i, none⟩ = w.cell? ⟨g, i, none⟩ := fun i => (hp.cells g (by omega) (by omega) (by simp) i).trans (HK0.out.cell g i hgl (not_No _))
      obtain ⟨xt, xv⟩ := x
      have q0 : wr.cell? ⟨g, off + (k * 2 + 0), none⟩ = some (.string xt) := (kc _).trans (hcell k _ hx1 0 _ rfl)
      have q1 : wr.cell? ⟨g, off + (k * 2 + 1), none⟩ = some (.string xv) := (kc _).trans (hcell k _ hx1 1 _ rfl)
      have p0 : wr.cell? ⟨g, off + k * 2, none⟩ = some (.string xt) := q0
      have p1 : wr.cell? ⟨g, off + k * 2 + 1, none⟩ = some (.string xv) := by rw [Nat.add_assoc]; exact q1
      have HOK := Lib.hid (show Apt (PF w.heap.size none) W0 ok from fun y hy => ⟨Nat.lt_trans (HP.out y hy).1 hW0, fun e => e.elim (fun e => by have := (HP.out y hy).1; omega) (fun e => by cases e)⟩)
      have HAG := Lib.hid (show Agr ok w wr from fun y hy => by
        obtain ⟨_, _, _, kk⟩ := hp
        exact (kk.block y (HOK.out y hy).1 (HOK.out y hy).2).trans (HK0.out.block y (HP.out y hy).1 (not_No _)))
      clear hcell hg hx1 kc hmem hp
      go_wp2_with fail
      refine (record_c ⟨xt, xv⟩ _ ?_).mono ?_
      · have h1 := HL.out
        have h2 := itemsB_take_le recB HX.out
        simp only [listB, List.length_append] at *
        omega
      intro en w2 h2
      obtain ⟨hk2, B, d, o, rfl, ho, ho2⟩ := h2
      have kc := conv_own ho
      have hsz : ((⟨(recB ⟨xt, xv⟩).toArray⟩ : ByteArray)).size = (recB ⟨xt, xv⟩).length := by simp [ByteArray.size]
      generalize hT : (⟨(recB ⟨xt, xv⟩).toArray⟩ : ByteArray) = T at kc hsz
      have HT := Lib.hid hT
      have HSZ := Lib.hid hsz
      generalize (recB ⟨xt, xv⟩).length = nx at kc
      have HR2 := Lib.hid (HR.out.no (((Kp.refl No _).alloc _).thenNo hk2))
      clear hk2 ho ho2 hT hsz
      go_wp2_with fail
      refine (pText_s [T] HR2.out rfl rfl rfl ?_).mono ?_
      · have h1 := HL.out
        have h2 := itemsB_take_le recB HX.out
        have h3 := HSZ.out
        rw [textsB_one, textB_length, h3]
        simp only [listB, List.length_append] at *
        omega
      rintro e w5 ⟨rfl, hp⟩
      have HP5 := Lib.hid hp
      clear hp kc
      go_wp2_with fail
      go_roundw
      case rel =>
        refine ⟨k + 1, by omega, by go_num, (D || longS [T]), ?_⟩
        rw [itemsB_take recB HX.out, HT.out, ← textsB_one, ← List.append_assoc]
        exact HP5.out
      case measure => simp [intOf]; omega
    · obtain rfl : k = l.length := by omega
      rw [List.take_length] at hp
      obtain ⟨A1, n1, c1, c0, HRR⟩ := hp.end_ (w := w) HK0.out (Nat.le_refl _)
      clear hp HR
      go_wp2_with fail
      go_ret
      exact HRR.out

set_option maxRecDepth 100000 in
set_option maxHeartbeats 1000000 in
theorem listShard_c {ok : Nat → Prop} {A : Option Addr} {c : Nat} (l : List Shard) (w : World) (hA : SrcF 4 Shard.cs ok w A l.length l) (ha : Apt No w ok) (hm : l.length ≤ 1000000) (hl : (listB shardB l).length ≤ 140737488355328) :
    Calls Try.prog 57 #[.slice A l.length c, .func (.func 58) #[] #[]] w (RetBytes w (listB shardB l)) := by
  have HL := Lib.hid hl
  have HA := Lib.hid hA
  have HP := Lib.hid ha
  clear hl hA ha
  have hfn : ∀ W : World, (binOp BinOp.eql 120 (Value.func (Fn.func 58) #[] #[]) Value.nilFunc).run Try.prog W = .ok (.bool false) W := fun W => by kernel_rfl
  go_enter Try.func57, Try.ntmps57
  go_wp2_with fail
  refine (pNum_s [(l.length : Int)] (PkS.start (b := w.heap.size) (o := none) (bad := false) (bs := []) ⟨.slice none 0 0, by go_simp, by go_simp, by go_simp, by go_simp, OwnB.nil _, by simp⟩) (by simp) rfl rfl (by simp)).mono ?_
  rintro e w1 ⟨rfl, hp⟩
  obtain ⟨W0, HW⟩ : ∃ W0 : World, Hid (W0 = w.alloc (.cells #[.slice none 0 0, .bool false] 103)) := ⟨_, rfl⟩
  have hW0 : w.heap.size < W0.heap.size := by rw [HW.out]; simp
  have KW0 : Kp No w W0 := by rw [HW.out]; exact (Kp.refl _ _).alloc _
  rw [← HW.out] at hp
  have HK0 := Lib.hid KW0
  have HP1 := Lib.hid hp
  clear hp KW0
  go_wp2_with fail
  go_loopw [21] (fun i wr => ∃ k : Nat, k ≤ l.length ∧ i = .int .i64 k ∧ ListRel shardB W0 w.heap.size l k wr) (fun i _ => l.length - (intOf i).toNat)
  case atStart => exact ⟨0, Nat.zero_le _, rfl, _, by simpa [itemsB] using HP1.out⟩
  case round =>
    clear HP1
    obtain ⟨k, hk, rfl, D, hp⟩ := hrel
    have hbl := hp.size
    have HR := Lib.hid hp
    by_cases hlt : k < l.length
    · obtain ⟨g, off, rfl, hg, hcell⟩ := HA.out.2.2 (by omega)
      have hx1 : l[k]? = some l[k] := List.getElem?_eq_getElem hlt
      have hmem : l[k] ∈ l := List.getElem_mem hlt
      generalize l[k] = x at hx1 hmem
      have HX := Lib.hid hx1
      have HM := Lib.hid hmem
      have hgl : g < w.heap.size := (HP.out g hg).1
      have kc : ∀ i, wr.cell? ⟨g, i, none⟩ = w.cell? ⟨g, i, none⟩ := fun i => (hp.cells g (by omega) (by omega) (by simp) i).trans (HK0.out.cell g i hgl (not_No _))
      obtain ⟨⟨xf, xt⟩, xn, xe⟩ := x
      have q0 : wr.cell? ⟨g, off + (k * 4 + 0), none⟩ = some (.string xf) := (kc _).trans (hcell k _ hx1 0 _ rfl)
      have q1 : wr.cell? ⟨g, off + (k * 4 + 1), none⟩ = some (.string xt) := (kc _).trans (hcell k _ hx1 1 _ rfl)
      have q2 : wr.cell? ⟨g, off + (k * 4 + 2), none⟩ = some (.int .i64 xn) := (kc _).trans (hcell k _ hx1 2 _ rfl)
      have q3 : wr.cell? ⟨g, off + (k * 4 + 3), none⟩ = some (.int .i64 xe) := (kc _).trans (hcell k _ hx1 3 _ rfl)
      have p0 : wr.cell? ⟨g, off + k * 4, none⟩ = some (.string xf) := q0
      have p1 : wr.cell? ⟨g, off + k * 4 + 1, none⟩ = some (.string xt) := by rw [Nat.add_assoc]; exact q1
      have p2 : wr.cell? ⟨g, off + k * 4 + 2, none⟩ = some (.int .i64 xn) := by rw [Nat.add_assoc]; exact q2
      have p3 : wr.cell? ⟨g, off + k * 4 + 3, none⟩ = some (.int .i64 xe) := by rw [Nat.add_assoc]; exact q3
      have HOK := Lib.hid (show Apt (PF w.heap.size none) W0 ok from fun y hy => ⟨Nat.lt_trans (HP.out y hy).1 hW0, fun e => e.elim (fun e => by have := (HP.out y hy).1; omega) (fun e => by cases e)⟩)
      have HAG := Lib.hid (show Agr ok w wr from fun y hy => by
        obtain ⟨_, _, _, kk⟩ := hp
        exact (kk.block y (HOK.out y hy).1 (HOK.out y hy).2).trans (HK0.out.block y (HP.out y hy).1 (not_No _)))
      clear hcell hg hx1 kc hmem hp
      go_wp2_with fail
      refine (shard_c ⟨⟨xf, xt⟩, xn, xe⟩ _ ?_).mono ?_
      · have h1 := HL.out
        have h2 := itemsB_take_le shardB HX.out
        simp only [listB, List.length_append] at *
        omega
      intro en w2 h2
      obtain ⟨hk2, B, d, o, rfl, ho, ho2⟩ := h2
      have kc := conv_own ho
      have hsz : ((⟨(shardB ⟨⟨xf, xt⟩, xn, xe⟩).toArray⟩ : ByteArray)).size = (shardB ⟨⟨xf, xt⟩, xn, xe⟩).length := by simp [ByteArray.size]
      generalize hT : (⟨(shardB ⟨⟨xf, xt⟩, xn, xe⟩).toArray⟩ : ByteArray) = T at kc hsz
      have HT := Lib.hid hT
      have HSZ := Lib.hid hsz
      generalize (shardB ⟨⟨xf, xt⟩, xn, xe⟩).length = nx at kc
      have HR2 := Lib.hid (HR.out.no (((Kp.refl No _).alloc _).thenNo hk2))
      clear hk2 ho ho2 hT hsz
      go_wp2_with fail
      refine (pText_s [T] HR2.out rfl rfl rfl ?_).mono ?_
      · have h1 := HL.out
        have h2 := itemsB_take_le shardB HX.out
        have h3 := HSZ.out
        rw [textsB_one, textB_length, h3]
        simp only [listB, List.length_append] at *
        omega
      rintro e w5 ⟨rfl, hp⟩
      have HP5 := Lib.hid hp
      clear hp kc
      go_wp2_with fail
      go_roundw
      case rel =>
        refine ⟨k + 1, by omega, by go_num, (D || longS [T]), ?_⟩
        rw [itemsB_take shardB HX.out, HT.out, ← textsB_one, ← List.append_assoc]
        exact HP5.out
      case measure => simp [intOf]; omega
    · obtain rfl : k = l.length := by omega
      rw [List.take_length] at hp
      obtain ⟨A1, n1, c1, c0, HRR⟩ := hp.end_ (w := w) HK0.out (Nat.le_refl _)
      clear hp HR
      go_wp2_with fail
      go_ret
      exact HRR.out

set_option maxRecDepth 100000 in
set_option maxHeartbeats 1000000 in
theorem listLast_c {ok : Nat → Prop} {A : Option Addr} {c : Nat} (l : List Last) (w : World) (hA : SrcK 9 LastK ok w A l.length l) (ha : Apt No w ok) (hz : ∀ x, x ∈ l → (replyB x.reply).length ≤ 140737488355328) (hm : l.length ≤ 1000000) (hl : (listB lastB l).length ≤ 140737488355328) :
    Calls Try.prog 61 #[.slice A l.length c, .func (.func 62) #[] #[]] w (RetBytes w (listB lastB l)) := by
  have HL := Lib.hid hl
  have HA := Lib.hid hA
  have HP := Lib.hid ha
  have HZ := Lib.hid hz
  clear hz
  clear hl hA ha
  have hfn : ∀ W : World, (binOp BinOp.eql 124 (Value.func (Fn.func 62) #[] #[]) Value.nilFunc).run Try.prog W = .ok (.bool false) W := fun W => by kernel_rfl
  go_enter Try.func61, Try.ntmps61
  go_wp2_with fail
  refine (pNum_s [(l.length : Int)] (PkS.start (b := w.heap.size) (o := none) (bad := false) (bs := []) ⟨.slice none 0 0, by go_simp, by go_simp, by go_simp, by go_simp, OwnB.nil _, by simp⟩) (by simp) rfl rfl (by simp)).mono ?_
  rintro e w1 ⟨rfl, hp⟩
  obtain ⟨W0, HW⟩ : ∃ W0 : World, Hid (W0 = w.alloc (.cells #[.slice none 0 0, .bool false] 103)) := ⟨_, rfl⟩
  have hW0 : w.heap.size < W0.heap.size := by rw [HW.out]; simp
  have KW0 : Kp No w W0 := by rw [HW.out]; exact (Kp.refl _ _).alloc _
  rw [← HW.out] at hp
  have HK0 := Lib.hid KW0
  have HP1 := Lib.hid hp
  clear hp KW0
  go_wp2_with fail
  go_loopw [21] (fun i wr => ∃ k : Nat, k ≤ l.length ∧ i = .int .i64 k ∧ ListRel lastB W0 w.heap.size l k wr) (fun i _ => l.length - (intOf i).toNat)
  case atStart => exact ⟨0, Nat.zero_le _, rfl, _, by simpa [itemsB] using HP1.out⟩
  case round =>
    clear HP1
    obtain ⟨k, hk, rfl, D, hp⟩ := hrel
    have hbl := hp.size
    have HR := Lib.hid hp
    by_cases hlt : k < l.length
    · obtain ⟨g, off, rfl, hg, hcell⟩ := HA.out.2.2 (by omega)
      have hx1 : l[k]? = some l[k] := List.getElem?_eq_getElem hlt
      have hmem : l[k] ∈ l := List.getElem_mem hlt
      generalize l[k] = x at hx1 hmem
      have HX := Lib.hid hx1
      have HM := Lib.hid hmem
      have hgl : g < w.heap.size := (HP.out g hg).1
      have kc : ∀ i, wr.cell? ⟨g, i, none⟩ = w.cell? ⟨g, i, none⟩ := fun i => (hp.cells g (by omega) (by omega) (by simp) i).trans (HK0.out.cell g i hgl (not_No _))
      obtain ⟨cs, hcl, ⟨LA, lc, hcs, hL⟩, hrd⟩ := hcell k x hx1
      subst hcs
      obtain ⟨xs, xc, xq, xe, xf, xv, xl, xn, xm⟩ := x
      have HLL := Lib.hid hL
      have q0 : wr.cell? ⟨g, off + (k * 9 + 0), none⟩ = some (.int .i64 xs) := (kc _).trans (hrd 0 _ rfl)
      have q1 : wr.cell? ⟨g, off + (k * 9 + 1), none⟩ = some (.int .i64 xc) := (kc _).trans (hrd 1 _ rfl)
      have q2 : wr.cell? ⟨g, off + (k * 9 + 2), none⟩ = some (.int .i64 xq) := (kc _).trans (hrd 2 _ rfl)
      have q3 : wr.cell? ⟨g, off + (k * 9 + 3), none⟩ = some (.int .i64 xe) := (kc _).trans (hrd 3 _ rfl)
      have q4 : wr.cell? ⟨g, off + (k * 9 + 4), none⟩ = some (.bool xf) := (kc _).trans (hrd 4 _ rfl)
      have q5 : wr.cell? ⟨g, off + (k * 9 + 5), none⟩ = some (.string xv) := (kc _).trans (hrd 5 _ rfl)
      have q6 : wr.cell? ⟨g, off + (k * 9 + 6), none⟩ = some (.slice LA xl.length lc) := (kc _).trans (hrd 6 _ rfl)
      have q7 : wr.cell? ⟨g, off + (k * 9 + 7), none⟩ = some (.string xn) := (kc _).trans (hrd 7 _ rfl)
      have q8 : wr.cell? ⟨g, off + (k * 9 + 8), none⟩ = some (.bool xm) := (kc _).trans (hrd 8 _ rfl)
      have p0 : wr.cell? ⟨g, off + k * 9, none⟩ = some (.int .i64 xs) := q0
      have p1 : wr.cell? ⟨g, off + k * 9 + 1, none⟩ = some (.int .i64 xc) := by rw [Nat.add_assoc]; exact q1
      have p2 : wr.cell? ⟨g, off + k * 9 + 2, none⟩ = some (.int .i64 xq) := by rw [Nat.add_assoc]; exact q2
      have p3 : wr.cell? ⟨g, off + k * 9 + 3, none⟩ = some (.int .i64 xe) := by rw [Nat.add_assoc]; exact q3
      have p4 : wr.cell? ⟨g, off + k * 9 + 4, none⟩ = some (.bool xf) := by rw [Nat.add_assoc]; exact q4
      have p5 : wr.cell? ⟨g, off + k * 9 + 5, none⟩ = some (.string xv) := by rw [Nat.add_assoc]; exact q5
      have p6 : wr.cell? ⟨g, off + k * 9 + 6, none⟩ = some (.slice LA xl.length lc) := by rw [Nat.add_assoc]; exact q6
      have p7 : wr.cell? ⟨g, off + k * 9 + 7, none⟩ = some (.string xn) := by rw [Nat.add_assoc]; exact q7
      have p8 : wr.cell? ⟨g, off + k * 9 + 8, none⟩ = some (.bool xm) := by rw [Nat.add_assoc]; exact q8
      clear hrd hL hcl
      have HOK := Lib.hid (show Apt (PF w.heap.size none) W0 ok from fun y hy => ⟨Nat.lt_trans (HP.out y hy).1 hW0, fun e => e.elim (fun e => by have := (HP.out y hy).1; omega) (fun e => by cases e)⟩)
      have HAG := Lib.hid (show Agr ok w wr from fun y hy => by
        obtain ⟨_, _, _, kk⟩ := hp
        exact (kk.block y (HOK.out y hy).1 (HOK.out y hy).2).trans (HK0.out.block y (HP.out y hy).1 (not_No _)))
      clear hcell hg hx1 kc hmem hp
      go_wp2_with fail
      refine (last_c (ok := ok) ⟨xs, ⟨xc, xq, xe, xf, xv, xl, xn, xm⟩⟩ LA lc _ ?_ ?_ (HZ.out _ HM.out) ?_).mono ?_
      · exact (HLL.out.agr HAG.out).agr (Kp.agr (S := No) ((Kp.refl _ _).alloc _) (fun y hy => ⟨Nat.lt_of_lt_of_le (HOK.out y hy).1 hbl, not_No _⟩))
      · exact fun y hy => ⟨by have := (HOK.out y hy).1; simp; omega, not_No _⟩
      · have h1 := HL.out
        have h2 := itemsB_take_le lastB HX.out
        simp only [listB, List.length_append] at *
        omega
      intro en w2 h2
      obtain ⟨hk2, B, d, o, rfl, ho, ho2⟩ := h2
      have kc := conv_own ho
      have hsz : ((⟨(lastB ⟨xs, ⟨xc, xq, xe, xf, xv, xl, xn, xm⟩⟩).toArray⟩ : ByteArray)).size = (lastB ⟨xs, ⟨xc, xq, xe, xf, xv, xl, xn, xm⟩⟩).length := by simp [ByteArray.size]
      generalize hT : (⟨(lastB ⟨xs, ⟨xc, xq, xe, xf, xv, xl, xn, xm⟩⟩).toArray⟩ : ByteArray) = T at kc hsz
      have HT := Lib.hid hT
      have HSZ := Lib.hid hsz
      generalize (lastB ⟨xs, ⟨xc, xq, xe, xf, xv, xl, xn, xm⟩⟩).length = nx at kc
      have HR2 := Lib.hid (HR.out.no (((Kp.refl No _).alloc _).thenNo hk2))
      clear hk2 ho ho2 hT hsz
      go_wp2_with fail
      refine (pText_s [T] HR2.out rfl rfl rfl ?_).mono ?_
      · have h1 := HL.out
        have h2 := itemsB_take_le lastB HX.out
        have h3 := HSZ.out
        rw [textsB_one, textB_length, h3]
        simp only [listB, List.length_append] at *
        omega
      rintro e w5 ⟨rfl, hp⟩
      have HP5 := Lib.hid hp
      clear hp kc
      go_wp2_with fail
      go_roundw
      case rel =>
        refine ⟨k + 1, by omega, by go_num, (D || longS [T]), ?_⟩
        rw [itemsB_take lastB HX.out, HT.out, ← textsB_one, ← List.append_assoc]
        exact HP5.out
      case measure => simp [intOf]; omega
    · obtain rfl : k = l.length := by omega
      rw [List.take_length] at hp
      obtain ⟨A1, n1, c1, c0, HRR⟩ := hp.end_ (w := w) HK0.out (Nat.le_refl _)
      clear hp HR
      go_wp2_with fail
      go_ret
      exact HRR.out

end Go.Proofs.Ytakhkjidcnahjaa
