/- mail.Send. -/
import Derived.Test.YtakhkjidcnahjaaQMailTake
import Derived.Deep.RegionWith
import Derived.StillTailTactics
set_option linter.unusedVariables false
set_option linter.unusedSimpArgs false
namespace Go.Proofs.Ytakhkjidcnahjaa
open Go.RowKit

/-- A note, and where its slices lie. -/
structure LNote where
  n : Note
  A1 : Option Addr
  A2 : Option Addr
  A3 : Option Addr
  A4 : Option Addr
  c1 : Nat
  c2 : Nat
  c3 : Nat
  c4 : Nat
def LNote.arr (x : LNote) : Array Value := noteC x.n x.A1 x.A2 x.A3 x.A4 x.c1 x.c2 x.c3 x.c4
def LNote.cs (x : LNote) : List Value := x.arr.toList
def LNote.v (x : LNote) : Value := noteV x.n x.A1 x.A2 x.A3 x.A4 x.c1 x.c2 x.c3 x.c4
theorem LNote.cs_len (x : LNote) : x.cs.length = 27 := rfl
theorem LNote.cs_one (x : LNote) (u : Value) (h : u ∈ x.cs) : u.oneCell' = true := by
  have := noteC_one x.n x.A1 x.A2 x.A3 x.A4 x.c1 x.c2 x.c3 x.c4
  exact (Array.all_eq_true_iff_forall_mem.1 this) u (by simpa [LNote.cs, LNote.arr] using h)
/-- The slices of all of them hold what they should. -/
def NotesR (ok : Nat → Prop) (w : World) (l : List LNote) : Prop := ∀ x, x ∈ l → NoteR ok w x.n x.A1 x.A2 x.A3 x.A4
/-- A whole note is read out of a row. -/
theorem load_note_at {ops : Array Oper} {rest : List Oper} {o : Oper} {a : Act} {w : World} {Q : Exit → Act → World → Prop} {g off : Nat} (y : LNote) (hr : w.rangeAt g off y.cs)
    (hgd : o.guard = none) (x : Operand) (ho : o.op = .load 49 x) (hx : a.eval x = .pointer (some ⟨g, off, none⟩))
    (h : wpList Try.prog ops Q rest (a.put o.dst y.v) w) : wpList Try.prog ops Q (o :: rest) a w :=
  wpList_load_mid hgd 49 x ho g off hx y.cs _ hr Try.underlying49 rfl infoNote h

/-- What one note does to what is on its way. -/
def sendStep (s : List ByteArray × Nat) (n : Note) : List ByteArray × Nat := match packR n with
  | some bs => if s.1.length < 512 then (s.1 ++ [bytesT bs], s.2 + 1) else s
  | none => s
def sendS (xs : List ByteArray) (l : List LNote) : List ByteArray × Nat := (l.map LNote.n).foldl sendStep (xs, 0)
theorem sendS_succ (xs : List ByteArray) {l : List LNote} {k : Nat} {x : LNote} (h : l[k]? = some x) : sendS xs (l.take (k + 1)) = sendStep (sendS xs (l.take k)) x.n := by
  unfold sendS
  rw [List.take_add_one, h]
  simp
theorem sendStep_le (s : List ByteArray × Nat) (n : Note) : (sendStep s n).2 ≤ s.2 + 1 := by
  unfold sendStep
  split
  · split <;> simp
  · omega
theorem sendS_le (xs : List ByteArray) (l : List LNote) (k : Nat) : (sendS xs (l.take k)).2 ≤ k := by
  induction k with
  | zero => simp [sendS]
  | succ k ih =>
    by_cases h : k < l.length
    · rw [sendS_succ xs (List.getElem?_eq_getElem h)]
      have := sendStep_le (sendS xs (l.take k)) l[k].n
      omega
    · rw [List.take_of_length_le (by omega)] at ih ⊢
      omega
theorem ResB.both {w w' : World} {r : Option (List UInt8)} {en : Ending} (h : ResB w r en w') : Kp No w w' ∧ ∃ B n c e, en = .returned (.tuple #[.slice B n c, .int .i64 e]) ∧ (e == 0) = r.isSome ∧ ∀ W, Kp No w' W → (convert 58 9 (.slice B n c)).run Try.prog W = .ok (.string (optT r)) W := by
  obtain ⟨hk, h⟩ := h
  cases r with
  | none => exact ⟨hk, none, 0, 0, 1, h, rfl, fun W _ => conv_src (Src.nil No W none (by simp)) 0⟩
  | some bs =>
    obtain ⟨B, c, o, e, ho, _⟩ := h
    exact ⟨hk, B, _, c, 0, e, rfl, fun W k => conv_own (ho.kpNo k)⟩

def SendP (w : World) (m b : Nat) (o : Option Nat) (s : List ByteArray × Nat) (en : Ending) (w' : World) : Prop :=
  en = .returned (.int .i64 (s.2 : Int)) ∧ ∃ o', Mal w' m b o' s.1 ∧ Nxt w o o' ∧ Kp (PF b o) w w'
/-- The loop's relation. -/
def SendRel (w : World) (m b : Nat) (o : Option Nat) (s : List ByteArray) (wr : World) : Prop := ∃ o', Mal wr m b o' s ∧ Nxt w o o' ∧ Kp (PF b o) w wr

set_option maxRecDepth 100000 in
set_option maxHeartbeats 2000000 in
theorem send_c {ok : Nat → Prop} {w : World} {m b : Nat} {o : Option Nat} {xs : List ByteArray} {A : Option Addr} {c : Nat} (h : Mal w m b o xs) (l : List LNote) (hs : SrcF 27 LNote.cs ok w A l.length l) (hn : NotesR ok w l)
    (hd : Apt (MF m b o) w ok) (hp : ∀ x, x ∈ l → NoteP x.n) (hl : l.length ≤ 1000000) :
    Calls Try.prog 10 #[.pointer (some ⟨m, 0, none⟩), .slice A l.length c] w (SendP w m b o (sendS xs l)) := by
  have H := Lib.hid h
  have HS := Lib.hid hs
  have HN := Lib.hid hn
  have HD := Lib.hid hd
  have HP := Lib.hid hp
  have hlm := h.lt
  obtain ⟨l1, l2, l3⟩ := hlm
  have HO := Lib.hid l3
  clear h hs hn hd hp l3
  go_enter Try.func10, Try.ntmps10
  go_wp2_with fail
  go_loopw [14, 5] (fun i n wr => ∃ k : Nat, k ≤ l.length ∧ i = .int .i64 k ∧ n = .int .i64 ((sendS xs (l.take k)).2 : Int) ∧ SendRel w m b o (sendS xs (l.take k)).1 wr) (fun i _ _ => l.length - (intOf i).toNat)
  case atStart => exact ⟨0, Nat.zero_le _, rfl, rfl, o, by simpa [sendS] using H.out, .inl rfl, Kp.refl _ _⟩
  case round =>
    obtain ⟨k, hk, rfl, rfl, o', hm, hnx, hkp⟩ := hrel
    have hle := sendS_le xs l k
    by_cases hlt : k < l.length
    · have hx : l[k]? = some l[k] := List.getElem?_eq_getElem hlt
      have hmem : l[k] ∈ l := List.getElem_mem hlt
      generalize l[k] = x at hx hmem
      obtain ⟨g, off, rfl, hg, hcell⟩ := HS.out.2.2 (by omega)
      have hap : Agr ok w wr := hkp.agr (fun y hy => ⟨(HD.out y hy).1, fun e => (HD.out y hy).2 (.inr e)⟩)
      have hrange : wr.rangeAt g (off + k * 27) x.cs := fun j v hv => by
        rw [Nat.add_assoc]
        exact (hap.cell hg).trans (hcell k x hx j v hv)
      have HX := Lib.hid hx
      have HR := Lib.hid hrange
      have HNX := Lib.hid (show NoteR ok wr x.n x.A1 x.A2 x.A3 x.A4 from (HN.out x hmem).kp hkp (fun y hy e => (HD.out y hy).2 (.inr e)))
      have HPX := Lib.hid (HP.out x hmem)
      have HM := Lib.hid hm
      have HNN := Lib.hid hnx
      have HKP := Lib.hid hkp
      have hlr := hkp.size
      clear hx hmem hg hcell hap hrange hm hnx hkp
      go_wp2_with (first
        | (refine load_note_at x HR.out rfl (.tmp 16) rfl ?_ ?_; rfl)
        | (refine store_note (g := wr.heap.size) (n := x.n) (A1 := x.A1) (A2 := x.A2) (A3 := x.A3) (A4 := x.A4) (c1 := x.c1) (c2 := x.c2) (c3 := x.c3) (c4 := x.c4) (heap_alloc_new _ _) rfl rfl (.tmp 7) (.tmp 17) rfl rfl rfl rfl ?_; intro w3 hb3 hk3; have HB3 := Lib.hid hb3; have HK3 := Lib.hid (show Kp No wr w3 from Kp.trans ((Kp.refl _ _).alloc _) hk3 (fun i hi e => by simp only [One] at e; omega)); clear hb3 hk3)
        | (refine load_note (g := wr.heap.size) HB3.out (.tmp 7) rfl ?_ rfl ?_; (first | rfl | go_simp))
        | fail)
      have hl3 := HB3.out.lt
      refine (pack_c (ok := ok) x.n x.A1 x.A2 x.A3 x.A4 x.c1 x.c2 x.c3 x.c4 w3 (HNX.out.kpNo HK3.out) HPX.out).mono ?_
      intro en w4 hr
      obtain ⟨hk4, B, nb, cb, e, rfl, he, hcv⟩ := hr.both
      have HM4 := Lib.hid ((HM.out.kpNo HK3.out).kpNo hk4)
      have HK4 := Lib.hid (show Kp (PF b o) w w4 from (HKP.out.thenNo HK3.out).thenNo hk4)
      have HN4 := Lib.hid (Nxt.refl w4 o')
      have HHE := Lib.hid he
      have hlr4 : wr.heap.size ≤ w4.heap.size := Nat.le_trans HK3.out.size hk4.size
      obtain ⟨fc, ff⟩ := row_facts HM4.out.1
      have c0 : w4.cell? ⟨m, 0, none⟩ = some (.pointer (some ⟨b, 0, none⟩)) := (fc 0).trans rfl
      have HSS := Lib.hid (sendS_succ xs HX.out)
      have HFIN := Lib.hid fun (s' : List ByteArray × Nat) (hs' : sendStep (sendS xs (l.take k)) x.n = s') (W : World) (o2 : Option Nat) (hM : Mal W m b o2 s'.1) (hN : Nxt w4 o' o2) (hK : Kp (PF b o') w4 W) =>
        (show SendRel w m b o (sendS xs (l.take (k + 1))).1 W from ⟨o2, by rw [HSS.out, hs']; exact hM, (HNN.out).trans (hN.of_le hlr4) hlr, HK4.out.trans hK (fun i hi e => by
          rcases e with e | e
          · exact .inl e
          · rcases HNN.out with rfl | ⟨y, rfl, hy⟩
            · exact .inr e
            · have : y = i := by injection e
              omega)⟩)
      clear fc ff hr hk4
      cases hq : packR x.n with
      | none =>
        rw [hq] at he
        have he' : (e == 0) = false := he
        have HST := Lib.hid (show sendStep (sendS xs (l.take k)) x.n = sendS xs (l.take k) by unfold sendStep; rw [hq])
        clear he hcv hq
        go_wp2_with fail
        go_quiet (fail)
        go_wp2_with fail
        go_roundw
        case rel => exact ⟨k + 1, by omega, by go_num, by rw [HSS.out, HST.out], HFIN.out _ HST.out _ _ (HM4.out.kpNo ((Kp.refl _ _).drewN _)) (.inl rfl) ((Kp.refl _ _).drewN _)⟩
        case measure => simp [intOf]; omega
      | some bs =>
        rw [hq] at he hcv
        have he' : (e == 0) = true := he
        have kc1 := hcv w4 (Kp.refl _ _)
        have kc2 := hcv w4.drew ((Kp.refl _ _).drew)
        rw [show optT (some bs) = bytesT bs from rfl] at kc1 kc2
        have hl512 := HM4.out.2.2.2.2
        generalize hT : bytesT bs = T at kc1 kc2
        have HT := Lib.hid hT
        by_cases hf : (sendS xs (l.take k)).1.length < 512
        · have HST := Lib.hid (show sendStep (sendS xs (l.take k)) x.n = ((sendS xs (l.take k)).1 ++ [T], (sendS xs (l.take k)).2 + 1) by unfold sendStep; rw [hq]; simp only; rw [if_pos hf, hT])
          have HF := Lib.hid hf
          have HL := Lib.hid hl512
          clear he hcv hq hT hf hl512
          go_wp2_with fail
          go_still_tail 9, (by kernel_rfl)
          change wpList _ _ _ _ _ w4.drew
          go_wp2_with (go_at_call 27; (refine (push_yes T (HM4.out.kpNo (by repeat (first | exact Kp.refl _ _ | apply Kp.drew | apply Kp.drewN))).2.1 (by have := HF.out; omega) (by have := HF.out; omega)).mono ?_; rintro e w5 ⟨rfl, o5, hs5, hn5, hk5⟩; have HS5 := Lib.hid hs5; have HN5 := Lib.hid hn5; have HK5 := Lib.hid hk5; clear hs5 hn5 hk5))
          all_goals
            go_roundw
            case rel => exact ⟨k + 1, by omega, by go_num, by rw [HSS.out, HST.out]; go_num, HFIN.out _ HST.out _ o5 (HM4.out.next HS5.out HN5.out (((Kp.refl _ _).drew).then_ HK5.out) (by rw [List.length_append]; have := HF.out; simp; omega)) HN5.out (((Kp.refl _ _).drew).then_ HK5.out)⟩
            case measure => simp [intOf]; omega
        · have HST := Lib.hid (show sendStep (sendS xs (l.take k)) x.n = sendS xs (l.take k) by unfold sendStep; rw [hq]; simp only; rw [if_neg hf])
          have HF := Lib.hid hf
          have HL := Lib.hid hl512
          clear he hcv hq hT hf hl512
          go_wp2_with fail
          go_still_tail 9, (by kernel_rfl)
          change wpList _ _ _ _ _ w4.drew
          go_wp2_with (go_at_call 27; (refine (push_no T (HM4.out.kpNo (by repeat (first | exact Kp.refl _ _ | apply Kp.drew | apply Kp.drewN))).2.1 (by have := HF.out; omega)).mono ?_; rintro e w5 ⟨rfl, o5, hs5, hn5, hk5⟩; have HS5 := Lib.hid hs5; have HN5 := Lib.hid hn5; have HK5 := Lib.hid hk5; clear hs5 hn5 hk5))
          all_goals
            go_roundw
            case rel => exact ⟨k + 1, by omega, by go_num, by rw [HSS.out, HST.out], HFIN.out _ HST.out _ o5 (HM4.out.next HS5.out HN5.out (((Kp.refl _ _).drew).then_ HK5.out) HL.out) HN5.out (((Kp.refl _ _).drew).then_ HK5.out)⟩
            case measure => simp [intOf]; omega
    · obtain rfl : k = l.length := by omega
      rw [List.take_length] at hm
      have HE := Lib.hid (show SendP w m b o (sendS xs l) (.returned (.int .i64 ((sendS xs l).2 : Int))) wr from ⟨rfl, o', hm, hnx, hkp⟩)
      rw [List.take_length]
      clear hm hnx hkp
      go_wp2_with fail
      go_ret
      exact HE.out

end Go.Proofs.Ytakhkjidcnahjaa
