/- note.Pack: a note as bytes. -/
import Derived.Test.YtakhkjidcnahjaaQPack0
set_option linter.unusedVariables false
set_option linter.unusedSimpArgs false
namespace Go.Proofs.Ytakhkjidcnahjaa
open Go.RowKit

theorem Agr.trans_ {ok : Nat → Prop} {a b c : World} (h : Agr ok a b) (k : Agr ok b c) : Agr ok a c := fun i hi => (k i hi).trans (h i hi)
def optT (r : Option (List UInt8)) : ByteArray := match r with
  | none => es
  | some bs => bytesT bs
theorem replyT_opt (r : Reply) : replyT r = optT (replyR r) := by unfold replyT optT; cases replyR r <;> rfl
def askT_ (a : Ask) : ByteArray := optT (askR a)
theorem ResB.conv {w w' : World} {r : Option (List UInt8)} {en : Ending} (h : ResB w r en w') : Kp No w w' ∧ ∃ B n c e, en = .returned (.tuple #[.slice B n c, .int .i64 e]) ∧ ∀ W, Kp No w' W → (convert 58 9 (.slice B n c)).run Try.prog W = .ok (.string (optT r)) W := by
  obtain ⟨hk, h⟩ := h
  cases r with
  | none => exact ⟨hk, none, 0, 0, 1, h, fun W _ => conv_src (Src.nil No W none (by simp)) 0⟩
  | some bs =>
    obtain ⟨B, c, o, e, ho, _⟩ := h
    exact ⟨hk, B, _, c, 0, e, fun W k => conv_own (ho.kpNo k)⟩
theorem NoteBox.at_ {W : World} {b : Nat} {n : Note} {A1 A2 A3 A4 : Option Addr} {c1 c2 c3 c4 : Nat} (h : NoteBox W b n A1 A2 A3 A4 c1 c2 c3 c4) (i : Nat) {v : Value} (hv : (noteC n A1 A2 A3 A4 c1 c2 c3 c4)[i]? = some v) : W.cell? ⟨b, i, none⟩ = some v :=
  (cell_of_row W b i _ _ _ h).trans hv

theorem PkS.box {W0 w : World} {b g : Nat} {D : Bool} {B : List UInt8} {n : Note} {A1 A2 A3 A4 : Option Addr} {c1 c2 c3 c4 : Nat} (h : PkS W0 b none w D B) (hb : NoteBox W0 g n A1 A2 A3 A4 c1 c2 c3 c4) (hne : g ≠ b) : NoteBox w g n A1 A2 A3 A4 c1 c2 c3 c4 := by
  obtain ⟨_, _, _, k⟩ := h
  exact hb.kp k fun e => e.elim hne (fun e => by cases e)

def packBody (n : Note) : List UInt8 :=
  if n.kind = 1 then textsB [askT_ n.ask] else if n.kind = 2 then textsB [replyT n.reply] else if n.kind = 4 ∨ n.kind = 6 then chartB n.atlas
  else if 7 ≤ n.kind then textsB [n.span.from_, n.span.to_] ++ rowsB n.l n.last else []
def packN (n : Note) : List Int := [n.kind, n.from_, n.to_, n.epoch, n.tick]
def packB (n : Note) : List UInt8 := numsB (packN n) ++ packBody n
def packR (n : Note) : Option (List UInt8) := if mayS n then some (packB n) else none
/-- A note that can be packed at all. -/
structure NoteP (n : Note) : Prop where
  z : NoteZ n
  l : n.l.length ≤ 1000000
  a : n.atlas.l.length ≤ 1000000
  all : (packB n).length ≤ 140737488355328
theorem RetBytes.res {w w' : World} {bs : List UInt8} {A : Option Addr} {n c : Nat} (h : RetBytes w bs (.returned (.slice A n c)) w') : ResB w (some bs) (.returned (.tuple #[.slice A n c, .int .i64 0])) w' := by
  obtain ⟨hk, A', c', o, e, ho, hf⟩ := h
  injection e with e
  injection e with e1 e2 e3
  subst e1 e2 e3
  exact ⟨hk, A, c, o, rfl, ho, hf⟩

set_option maxHeartbeats 400000 in
theorem pack_no {ok : Nat → Prop} (n : Note) (A1 A2 A3 A4 : Option Addr) (c1 c2 c3 c4 : Nat) (w : World) (hn : NoteR ok w n A1 A2 A3 A4) (hz : NoteZ n) (hm : mayS n = false) :
    Calls Try.prog 26 #[noteV n A1 A2 A3 A4 c1 c2 c3 c4] w (ResB w (packR n)) := by
  have HM := Lib.hid fun W (k : Kp No w W) => may_c n A1 A2 A3 A4 c1 c2 c3 c4 W (hn.kpNo k) hz
  have HR := Lib.hid (show packR n = none by simp [packR, hm])
  rw [hm] at HM
  clear hn hz hm
  obtain ⟨ki, fr, to_, ep, ti, ⟨ad, ac, as_, at_, av, af, ao, al⟩, ⟨rc, rs, re, rf, rv, rl, rx, rm⟩, ⟨sf, st⟩, l, la, ⟨ae, sl⟩⟩ := n
  unfold noteV noteC
  go_enter Try.func26, Try.ntmps26
  go_wp2_with ((refine load_note (n := ⟨ki, fr, to_, ep, ti, ⟨ad, ac, as_, at_, av, af, ao, al⟩, ⟨rc, rs, re, rf, rv, rl, rx, rm⟩, ⟨sf, st⟩, l, la, ⟨ae, sl⟩⟩) (A1 := A1) (A2 := A2) (A3 := A3) (A4 := A4) (c1 := c1) (c2 := c2) (c3 := c3) (c4 := c4) (g := w.heap.size) (heap_alloc_new _ _) ?_ ?_ ?_ ?_ ?_; rotate_left; exact rfl; go_simp; exact rfl))
  refine (HM.out _ ((Kp.refl _ _).alloc _)).mono ?_
  rintro e w1 ⟨rfl, hk1⟩
  have HK1 := Lib.hid hk1
  clear hk1
  go_wp2_with fail
  go_ret2
  rw [HR.out]
  exact ⟨((Kp.refl _ _).alloc _).thenNo HK1.out, rfl⟩

set_option maxRecDepth 100000 in
set_option maxHeartbeats 1000000 in
theorem pack_plain {ok : Nat → Prop} (n : Note) (A1 A2 A3 A4 : Option Addr) (c1 c2 c3 c4 : Nat) (w : World) (hn : NoteR ok w n A1 A2 A3 A4) (hz : NoteP n) (hm : mayS n = true) (hk : n.kind = 3 ∨ n.kind = 5) :
    Calls Try.prog 26 #[noteV n A1 A2 A3 A4 c1 c2 c3 c4] w (ResB w (packR n)) := by
  have HM := Lib.hid fun W (k : Kp No w W) => may_c n A1 A2 A3 A4 c1 c2 c3 c4 W (hn.kpNo k) hz.z
  have HR := Lib.hid (show packR n = some (packB n) by simp [packR, hm])
  rw [hm] at HM
  have HN := Lib.hid hn
  have HZ := Lib.hid hz
  clear hn hz hm
  obtain ⟨ki, fr, to_, ep, ti, ⟨ad, ac, as_, at_, av, af, ao, al⟩, ⟨rc, rs, re, rf, rv, rl, rx, rm⟩, ⟨sf, st⟩, l, la, ⟨ae, sl⟩⟩ := n
  obtain rfl | rfl : ki = 3 ∨ ki = 5 := hk
  all_goals
    unfold noteV noteC
    go_enter Try.func26, Try.ntmps26
    go_wp2_with ((refine load_note (n := ⟨_, fr, to_, ep, ti, ⟨ad, ac, as_, at_, av, af, ao, al⟩, ⟨rc, rs, re, rf, rv, rl, rx, rm⟩, ⟨sf, st⟩, l, la, ⟨ae, sl⟩⟩) (A1 := A1) (A2 := A2) (A3 := A3) (A4 := A4) (c1 := c1) (c2 := c2) (c3 := c3) (c4 := c4) (g := w.heap.size) (heap_alloc_new _ _) ?_ ?_ ?_ ?_ ?_; rotate_left; exact rfl; go_simp; exact rfl))
    refine (HM.out _ ((Kp.refl _ _).alloc _)).mono ?_
    rintro e w1 ⟨rfl, hk1⟩
    have hb1 := NoteBox.kp (n := ⟨_, fr, to_, ep, ti, ⟨ad, ac, as_, at_, av, af, ao, al⟩, ⟨rc, rs, re, rf, rv, rl, rx, rm⟩, ⟨sf, st⟩, l, la, ⟨ae, sl⟩⟩) (A1 := A1) (A2 := A2) (A3 := A3) (A4 := A4) (c1 := c1) (c2 := c2) (c3 := c3) (c4 := c4) (b := w.heap.size) (by exact heap_alloc_new _ _) hk1 (not_No _)
    have HB1 := Lib.hid hb1
    have HK1 := Lib.hid (((Kp.refl No w).alloc _).thenNo hk1)
    have hl1 := hk1.size
    simp only [World.size_alloc] at hl1
    have hlt1 : w.heap.size < w1.heap.size := by omega
    have q0 := hb1.cells.1
    have q1 := hb1.cells.2.1
    have q2 := hb1.cells.2.2.1
    have q3 := hb1.cells.2.2.2.1
    have q4 := hb1.cells.2.2.2.2.1
    dsimp only at q0 q1 q2 q3 q4
    clear hk1 hb1
    go_wp2_with fail
    refine (pNum_s [_, fr, to_, ep, ti] (PkS.start (b := w1.heap.size) (o := none) (bad := false) (bs := []) ⟨.slice none 0 0, by go_simp, by go_simp, by go_simp, by go_simp, OwnB.nil _, by simp⟩) (by simp) rfl rfl (by simp)).mono ?_
    rintro e w2 ⟨rfl, hp⟩
    clear q0 q1 q2 q3 q4
    have hb2 := hp.box (HB1.out.kp ((Kp.refl No _).alloc _) (not_No _)) (by omega)
    have HB2 := Lib.hid hb2
    have HP := Lib.hid hp
    have HD := Lib.hid (show Apt (PF w1.heap.size none) (w1.alloc (.cells #[.slice none 0 0, .bool false] 103)) ok from fun x hx => ⟨by have := (HN.out.apt x hx).1; simp; omega, fun e => e.elim (fun e => by have := (HN.out.apt x hx).1; omega) (fun e => by cases e)⟩)
    have q0 := hb2.cells.1
    skip
    dsimp only at q0
    clear hb2 hp
    have HPE := HP
    obtain ⟨A9, n9, c9, c0, HE⟩ := PkS.end_ HPE.out (w := w) (HK1.out.alloc _) (by omega)
    go_wp2_with fail
    go_ret2
    rw [HR.out]
    have h9 := HE.out.res
    simpa [packB, packBody, packN, List.append_assoc] using h9

set_option maxRecDepth 100000 in
set_option maxHeartbeats 1000000 in
theorem pack_ask {ok : Nat → Prop} (n : Note) (A1 A2 A3 A4 : Option Addr) (c1 c2 c3 c4 : Nat) (w : World) (hn : NoteR ok w n A1 A2 A3 A4) (hz : NoteP n) (hm : mayS n = true) (hk : n.kind = 1) :
    Calls Try.prog 26 #[noteV n A1 A2 A3 A4 c1 c2 c3 c4] w (ResB w (packR n)) := by
  have HM := Lib.hid fun W (k : Kp No w W) => may_c n A1 A2 A3 A4 c1 c2 c3 c4 W (hn.kpNo k) hz.z
  have HR := Lib.hid (show packR n = some (packB n) by simp [packR, hm])
  rw [hm] at HM
  have HN := Lib.hid hn
  have HZ := Lib.hid hz
  clear hn hz hm
  obtain ⟨ki, fr, to_, ep, ti, ⟨ad, ac, as_, at_, av, af, ao, al⟩, ⟨rc, rs, re, rf, rv, rl, rx, rm⟩, ⟨sf, st⟩, l, la, ⟨ae, sl⟩⟩ := n
  obtain rfl : ki = 1 := hk
  all_goals
    unfold noteV noteC
    go_enter Try.func26, Try.ntmps26
    go_wp2_with ((refine load_note (n := ⟨_, fr, to_, ep, ti, ⟨ad, ac, as_, at_, av, af, ao, al⟩, ⟨rc, rs, re, rf, rv, rl, rx, rm⟩, ⟨sf, st⟩, l, la, ⟨ae, sl⟩⟩) (A1 := A1) (A2 := A2) (A3 := A3) (A4 := A4) (c1 := c1) (c2 := c2) (c3 := c3) (c4 := c4) (g := w.heap.size) (heap_alloc_new _ _) ?_ ?_ ?_ ?_ ?_; rotate_left; exact rfl; go_simp; exact rfl))
    refine (HM.out _ ((Kp.refl _ _).alloc _)).mono ?_
    rintro e w1 ⟨rfl, hk1⟩
    have hb1 := NoteBox.kp (n := ⟨_, fr, to_, ep, ti, ⟨ad, ac, as_, at_, av, af, ao, al⟩, ⟨rc, rs, re, rf, rv, rl, rx, rm⟩, ⟨sf, st⟩, l, la, ⟨ae, sl⟩⟩) (A1 := A1) (A2 := A2) (A3 := A3) (A4 := A4) (c1 := c1) (c2 := c2) (c3 := c3) (c4 := c4) (b := w.heap.size) (by exact heap_alloc_new _ _) hk1 (not_No _)
    have HB1 := Lib.hid hb1
    have HK1 := Lib.hid (((Kp.refl No w).alloc _).thenNo hk1)
    have hl1 := hk1.size
    simp only [World.size_alloc] at hl1
    have hlt1 : w.heap.size < w1.heap.size := by omega
    have q0 := hb1.cells.1
    have q1 := hb1.cells.2.1
    have q2 := hb1.cells.2.2.1
    have q3 := hb1.cells.2.2.2.1
    have q4 := hb1.cells.2.2.2.2.1
    dsimp only at q0 q1 q2 q3 q4
    clear hk1 hb1
    go_wp2_with fail
    refine (pNum_s [_, fr, to_, ep, ti] (PkS.start (b := w1.heap.size) (o := none) (bad := false) (bs := []) ⟨.slice none 0 0, by go_simp, by go_simp, by go_simp, by go_simp, OwnB.nil _, by simp⟩) (by simp) rfl rfl (by simp)).mono ?_
    rintro e w2 ⟨rfl, hp⟩
    clear q0 q1 q2 q3 q4
    have hb2 := hp.box (HB1.out.kp ((Kp.refl No _).alloc _) (not_No _)) (by omega)
    have HB2 := Lib.hid hb2
    have HP := Lib.hid hp
    have HD := Lib.hid (show Apt (PF w1.heap.size none) (w1.alloc (.cells #[.slice none 0 0, .bool false] 103)) ok from fun x hx => ⟨by have := (HN.out.apt x hx).1; simp; omega, fun e => e.elim (fun e => by have := (HN.out.apt x hx).1; omega) (fun e => by cases e)⟩)
    have q0 := hb2.cells.1
    have q5 := hb2.cells.2.2.2.2.2.1
    have q6 := hb2.cells.2.2.2.2.2.2.1
    have q7 := hb2.cells.2.2.2.2.2.2.2.1
    have q8 := hb2.cells.2.2.2.2.2.2.2.2.1
    have q9 := hb2.cells.2.2.2.2.2.2.2.2.2.1
    have q10 := hb2.cells.2.2.2.2.2.2.2.2.2.2.1
    have q11 := hb2.cells.2.2.2.2.2.2.2.2.2.2.2.1
    have q12 := hb2.cells.2.2.2.2.2.2.2.2.2.2.2.2.1
    dsimp only at q0 q5 q6 q7 q8 q9 q10 q11 q12
    clear hb2 hp
    go_wp2_with fail
    refine (pAsk_c ⟨ad, ac, as_, at_, av, af, ao, al⟩ _ HZ.out.z.ask).mono ?_
    intro en w3 h3
    obtain ⟨hk3, B, nb, cb, eb, rfl, hcv⟩ := h3.conv
    have kc := hcv w3 (Kp.refl _ _)
    have HP3 := Lib.hid (HP.out.no hk3)
    clear h3 hk3 hcv
    go_wp2_with fail
    refine (pText_s [askT_ ⟨ad, ac, as_, at_, av, af, ao, al⟩] HP3.out rfl rfl rfl ?_).mono ?_
    · have := HZ.out.all
      simpa [packB, packBody, packN] using this
    rintro e w4 ⟨rfl, hp⟩
    have HPE := Lib.hid hp
    clear hp kc
    obtain ⟨A9, n9, c9, c0, HE⟩ := PkS.end_ HPE.out (w := w) (HK1.out.alloc _) (by omega)
    go_wp2_with fail
    go_ret2
    rw [HR.out]
    have h9 := HE.out.res
    simpa [packB, packBody, packN, List.append_assoc] using h9

set_option maxRecDepth 100000 in
set_option maxHeartbeats 1000000 in
theorem pack_reply {ok : Nat → Prop} (n : Note) (A1 A2 A3 A4 : Option Addr) (c1 c2 c3 c4 : Nat) (w : World) (hn : NoteR ok w n A1 A2 A3 A4) (hz : NoteP n) (hm : mayS n = true) (hk : n.kind = 2) :
    Calls Try.prog 26 #[noteV n A1 A2 A3 A4 c1 c2 c3 c4] w (ResB w (packR n)) := by
  have HM := Lib.hid fun W (k : Kp No w W) => may_c n A1 A2 A3 A4 c1 c2 c3 c4 W (hn.kpNo k) hz.z
  have HR := Lib.hid (show packR n = some (packB n) by simp [packR, hm])
  rw [hm] at HM
  have HN := Lib.hid hn
  have HZ := Lib.hid hz
  clear hn hz hm
  obtain ⟨ki, fr, to_, ep, ti, ⟨ad, ac, as_, at_, av, af, ao, al⟩, ⟨rc, rs, re, rf, rv, rl, rx, rm⟩, ⟨sf, st⟩, l, la, ⟨ae, sl⟩⟩ := n
  obtain rfl : ki = 2 := hk
  all_goals
    unfold noteV noteC
    go_enter Try.func26, Try.ntmps26
    go_wp2_with ((refine load_note (n := ⟨_, fr, to_, ep, ti, ⟨ad, ac, as_, at_, av, af, ao, al⟩, ⟨rc, rs, re, rf, rv, rl, rx, rm⟩, ⟨sf, st⟩, l, la, ⟨ae, sl⟩⟩) (A1 := A1) (A2 := A2) (A3 := A3) (A4 := A4) (c1 := c1) (c2 := c2) (c3 := c3) (c4 := c4) (g := w.heap.size) (heap_alloc_new _ _) ?_ ?_ ?_ ?_ ?_; rotate_left; exact rfl; go_simp; exact rfl))
    refine (HM.out _ ((Kp.refl _ _).alloc _)).mono ?_
    rintro e w1 ⟨rfl, hk1⟩
    have hb1 := NoteBox.kp (n := ⟨_, fr, to_, ep, ti, ⟨ad, ac, as_, at_, av, af, ao, al⟩, ⟨rc, rs, re, rf, rv, rl, rx, rm⟩, ⟨sf, st⟩, l, la, ⟨ae, sl⟩⟩) (A1 := A1) (A2 := A2) (A3 := A3) (A4 := A4) (c1 := c1) (c2 := c2) (c3 := c3) (c4 := c4) (b := w.heap.size) (by exact heap_alloc_new _ _) hk1 (not_No _)
    have HB1 := Lib.hid hb1
    have HK1 := Lib.hid (((Kp.refl No w).alloc _).thenNo hk1)
    have hl1 := hk1.size
    simp only [World.size_alloc] at hl1
    have hlt1 : w.heap.size < w1.heap.size := by omega
    have q0 := hb1.cells.1
    have q1 := hb1.cells.2.1
    have q2 := hb1.cells.2.2.1
    have q3 := hb1.cells.2.2.2.1
    have q4 := hb1.cells.2.2.2.2.1
    dsimp only at q0 q1 q2 q3 q4
    clear hk1 hb1
    go_wp2_with fail
    refine (pNum_s [_, fr, to_, ep, ti] (PkS.start (b := w1.heap.size) (o := none) (bad := false) (bs := []) ⟨.slice none 0 0, by go_simp, by go_simp, by go_simp, by go_simp, OwnB.nil _, by simp⟩) (by simp) rfl rfl (by simp)).mono ?_
    rintro e w2 ⟨rfl, hp⟩
    clear q0 q1 q2 q3 q4
    have hb2 := hp.box (HB1.out.kp ((Kp.refl No _).alloc _) (not_No _)) (by omega)
    have HB2 := Lib.hid hb2
    have HP := Lib.hid hp
    have HD := Lib.hid (show Apt (PF w1.heap.size none) (w1.alloc (.cells #[.slice none 0 0, .bool false] 103)) ok from fun x hx => ⟨by have := (HN.out.apt x hx).1; simp; omega, fun e => e.elim (fun e => by have := (HN.out.apt x hx).1; omega) (fun e => by cases e)⟩)
    have q0 := hb2.cells.1
    have q13 := hb2.cells.2.2.2.2.2.2.2.2.2.2.2.2.2.1
    have q14 := hb2.cells.2.2.2.2.2.2.2.2.2.2.2.2.2.2.1
    have q15 := hb2.cells.2.2.2.2.2.2.2.2.2.2.2.2.2.2.2.1
    have q16 := hb2.cells.2.2.2.2.2.2.2.2.2.2.2.2.2.2.2.2.1
    have q17 := hb2.cells.2.2.2.2.2.2.2.2.2.2.2.2.2.2.2.2.2.1
    have q18 := hb2.cells.2.2.2.2.2.2.2.2.2.2.2.2.2.2.2.2.2.2.1
    have q19 := hb2.cells.2.2.2.2.2.2.2.2.2.2.2.2.2.2.2.2.2.2.2.1
    have q20 := hb2.cells.2.2.2.2.2.2.2.2.2.2.2.2.2.2.2.2.2.2.2.2.1
    dsimp only at q0 q13 q14 q15 q16 q17 q18 q19 q20
    clear hb2 hp
    go_wp2_with fail
    refine (pReply_c (ok := ok) ⟨rc, rs, re, rf, rv, rl, rx, rm⟩ A1 c1 _ (HN.out.rl.agr (Agr.trans_ ((HK1.out.alloc _).agr HN.out.apt) (HP.out.agr HD.out))) (HP.out.apt HD.out) HZ.out.z.reply).mono ?_
    intro en w3 h3
    obtain ⟨hk3, B, nb, cb, eb, rfl, hcv⟩ := h3.conv
    have kc := hcv w3 (Kp.refl _ _)
    rw [← replyT_opt] at kc
    have HP3 := Lib.hid (HP.out.no hk3)
    clear h3 hk3 hcv
    go_wp2_with fail
    refine (pText_s [replyT ⟨rc, rs, re, rf, rv, rl, rx, rm⟩] HP3.out rfl rfl rfl ?_).mono ?_
    · have := HZ.out.all
      simpa [packB, packBody, packN] using this
    rintro e w4 ⟨rfl, hp⟩
    have HPE := Lib.hid hp
    clear hp kc
    obtain ⟨A9, n9, c9, c0, HE⟩ := PkS.end_ HPE.out (w := w) (HK1.out.alloc _) (by omega)
    go_wp2_with fail
    go_ret2
    rw [HR.out]
    have h9 := HE.out.res
    simpa [packB, packBody, packN, List.append_assoc] using h9

set_option maxRecDepth 100000 in
set_option maxHeartbeats 1000000 in
theorem pack_map {ok : Nat → Prop} (n : Note) (A1 A2 A3 A4 : Option Addr) (c1 c2 c3 c4 : Nat) (w : World) (hn : NoteR ok w n A1 A2 A3 A4) (hz : NoteP n) (hm : mayS n = true) (hk : n.kind = 4 ∨ n.kind = 6) :
    Calls Try.prog 26 #[noteV n A1 A2 A3 A4 c1 c2 c3 c4] w (ResB w (packR n)) := by
  have HM := Lib.hid fun W (k : Kp No w W) => may_c n A1 A2 A3 A4 c1 c2 c3 c4 W (hn.kpNo k) hz.z
  have HR := Lib.hid (show packR n = some (packB n) by simp [packR, hm])
  rw [hm] at HM
  have HN := Lib.hid hn
  have HZ := Lib.hid hz
  clear hn hz hm
  obtain ⟨ki, fr, to_, ep, ti, ⟨ad, ac, as_, at_, av, af, ao, al⟩, ⟨rc, rs, re, rf, rv, rl, rx, rm⟩, ⟨sf, st⟩, l, la, ⟨ae, sl⟩⟩ := n
  obtain rfl | rfl : ki = 4 ∨ ki = 6 := hk
  all_goals
    unfold noteV noteC
    go_enter Try.func26, Try.ntmps26
    go_wp2_with ((refine load_note (n := ⟨_, fr, to_, ep, ti, ⟨ad, ac, as_, at_, av, af, ao, al⟩, ⟨rc, rs, re, rf, rv, rl, rx, rm⟩, ⟨sf, st⟩, l, la, ⟨ae, sl⟩⟩) (A1 := A1) (A2 := A2) (A3 := A3) (A4 := A4) (c1 := c1) (c2 := c2) (c3 := c3) (c4 := c4) (g := w.heap.size) (heap_alloc_new _ _) ?_ ?_ ?_ ?_ ?_; rotate_left; exact rfl; go_simp; exact rfl))
    refine (HM.out _ ((Kp.refl _ _).alloc _)).mono ?_
    rintro e w1 ⟨rfl, hk1⟩
    have hb1 := NoteBox.kp (n := ⟨_, fr, to_, ep, ti, ⟨ad, ac, as_, at_, av, af, ao, al⟩, ⟨rc, rs, re, rf, rv, rl, rx, rm⟩, ⟨sf, st⟩, l, la, ⟨ae, sl⟩⟩) (A1 := A1) (A2 := A2) (A3 := A3) (A4 := A4) (c1 := c1) (c2 := c2) (c3 := c3) (c4 := c4) (b := w.heap.size) (by exact heap_alloc_new _ _) hk1 (not_No _)
    have HB1 := Lib.hid hb1
    have HK1 := Lib.hid (((Kp.refl No w).alloc _).thenNo hk1)
    have hl1 := hk1.size
    simp only [World.size_alloc] at hl1
    have hlt1 : w.heap.size < w1.heap.size := by omega
    have q0 := hb1.cells.1
    have q1 := hb1.cells.2.1
    have q2 := hb1.cells.2.2.1
    have q3 := hb1.cells.2.2.2.1
    have q4 := hb1.cells.2.2.2.2.1
    dsimp only at q0 q1 q2 q3 q4
    clear hk1 hb1
    go_wp2_with fail
    refine (pNum_s [_, fr, to_, ep, ti] (PkS.start (b := w1.heap.size) (o := none) (bad := false) (bs := []) ⟨.slice none 0 0, by go_simp, by go_simp, by go_simp, by go_simp, OwnB.nil _, by simp⟩) (by simp) rfl rfl (by simp)).mono ?_
    rintro e w2 ⟨rfl, hp⟩
    clear q0 q1 q2 q3 q4
    have hb2 := hp.box (HB1.out.kp ((Kp.refl No _).alloc _) (not_No _)) (by omega)
    have HB2 := Lib.hid hb2
    have HP := Lib.hid hp
    have HD := Lib.hid (show Apt (PF w1.heap.size none) (w1.alloc (.cells #[.slice none 0 0, .bool false] 103)) ok from fun x hx => ⟨by have := (HN.out.apt x hx).1; simp; omega, fun e => e.elim (fun e => by have := (HN.out.apt x hx).1; omega) (fun e => by cases e)⟩)
    have q0 := hb2.cells.1
    have q25 := hb2.cells.2.2.2.2.2.2.2.2.2.2.2.2.2.2.2.2.2.2.2.2.2.2.2.2.2.1
    have q26 := hb2.cells.2.2.2.2.2.2.2.2.2.2.2.2.2.2.2.2.2.2.2.2.2.2.2.2.2.2
    dsimp only at q0 q25 q26
    clear hb2 hp
    go_wp2_with fail
    refine (chart_c (ok := ok) (A := A4) (c := c4) ae sl HP.out (HN.out.at_.agr ((HK1.out.alloc _).agr HN.out.apt)) HD.out HZ.out.a (by simp) (by simp) ?_).mono ?_
    · have := HZ.out.all
      simpa [packB, packBody, packN] using this
    rintro e w4 ⟨rfl, D, hp⟩
    have HPE := Lib.hid hp
    clear hp
    obtain ⟨A9, n9, c9, c0, HE⟩ := PkS.end_ HPE.out (w := w) (HK1.out.alloc _) (by omega)
    go_wp2_with fail
    go_ret2
    rw [HR.out]
    have h9 := HE.out.res
    simpa [packB, packBody, packN, List.append_assoc] using h9

set_option maxRecDepth 100000 in
set_option maxHeartbeats 1000000 in
theorem pack_rows {ok : Nat → Prop} (n : Note) (A1 A2 A3 A4 : Option Addr) (c1 c2 c3 c4 : Nat) (w : World) (hn : NoteR ok w n A1 A2 A3 A4) (hz : NoteP n) (hm : mayS n = true) (hk : n.kind = 7 ∨ n.kind = 8 ∨ n.kind = 9 ∨ n.kind = 10 ∨ n.kind = 11 ∨ n.kind = 12) :
    Calls Try.prog 26 #[noteV n A1 A2 A3 A4 c1 c2 c3 c4] w (ResB w (packR n)) := by
  have HM := Lib.hid fun W (k : Kp No w W) => may_c n A1 A2 A3 A4 c1 c2 c3 c4 W (hn.kpNo k) hz.z
  have HR := Lib.hid (show packR n = some (packB n) by simp [packR, hm])
  rw [hm] at HM
  have HN := Lib.hid hn
  have HZ := Lib.hid hz
  clear hn hz hm
  obtain ⟨ki, fr, to_, ep, ti, ⟨ad, ac, as_, at_, av, af, ao, al⟩, ⟨rc, rs, re, rf, rv, rl, rx, rm⟩, ⟨sf, st⟩, l, la, ⟨ae, sl⟩⟩ := n
  obtain rfl | rfl | rfl | rfl | rfl | rfl : ki = 7 ∨ ki = 8 ∨ ki = 9 ∨ ki = 10 ∨ ki = 11 ∨ ki = 12 := hk
  all_goals
    unfold noteV noteC
    go_enter Try.func26, Try.ntmps26
    go_wp2_with ((refine load_note (n := ⟨_, fr, to_, ep, ti, ⟨ad, ac, as_, at_, av, af, ao, al⟩, ⟨rc, rs, re, rf, rv, rl, rx, rm⟩, ⟨sf, st⟩, l, la, ⟨ae, sl⟩⟩) (A1 := A1) (A2 := A2) (A3 := A3) (A4 := A4) (c1 := c1) (c2 := c2) (c3 := c3) (c4 := c4) (g := w.heap.size) (heap_alloc_new _ _) ?_ ?_ ?_ ?_ ?_; rotate_left; exact rfl; go_simp; exact rfl))
    refine (HM.out _ ((Kp.refl _ _).alloc _)).mono ?_
    rintro e w1 ⟨rfl, hk1⟩
    have hb1 := NoteBox.kp (n := ⟨_, fr, to_, ep, ti, ⟨ad, ac, as_, at_, av, af, ao, al⟩, ⟨rc, rs, re, rf, rv, rl, rx, rm⟩, ⟨sf, st⟩, l, la, ⟨ae, sl⟩⟩) (A1 := A1) (A2 := A2) (A3 := A3) (A4 := A4) (c1 := c1) (c2 := c2) (c3 := c3) (c4 := c4) (b := w.heap.size) (by exact heap_alloc_new _ _) hk1 (not_No _)
    have HB1 := Lib.hid hb1
    have HK1 := Lib.hid (((Kp.refl No w).alloc _).thenNo hk1)
    have hl1 := hk1.size
    simp only [World.size_alloc] at hl1
    have hlt1 : w.heap.size < w1.heap.size := by omega
    have q0 := hb1.cells.1
    have q1 := hb1.cells.2.1
    have q2 := hb1.cells.2.2.1
    have q3 := hb1.cells.2.2.2.1
    have q4 := hb1.cells.2.2.2.2.1
    dsimp only at q0 q1 q2 q3 q4
    clear hk1 hb1
    go_wp2_with fail
    refine (pNum_s [_, fr, to_, ep, ti] (PkS.start (b := w1.heap.size) (o := none) (bad := false) (bs := []) ⟨.slice none 0 0, by go_simp, by go_simp, by go_simp, by go_simp, OwnB.nil _, by simp⟩) (by simp) rfl rfl (by simp)).mono ?_
    rintro e w2 ⟨rfl, hp⟩
    clear q0 q1 q2 q3 q4
    have hb2 := hp.box (HB1.out.kp ((Kp.refl No _).alloc _) (not_No _)) (by omega)
    have HB2 := Lib.hid hb2
    have HP := Lib.hid hp
    have HD := Lib.hid (show Apt (PF w1.heap.size none) (w1.alloc (.cells #[.slice none 0 0, .bool false] 103)) ok from fun x hx => ⟨by have := (HN.out.apt x hx).1; simp; omega, fun e => e.elim (fun e => by have := (HN.out.apt x hx).1; omega) (fun e => by cases e)⟩)
    have q0 := hb2.cells.1
    have q21 := hb2.cells.2.2.2.2.2.2.2.2.2.2.2.2.2.2.2.2.2.2.2.2.2.1
    have q22 := hb2.cells.2.2.2.2.2.2.2.2.2.2.2.2.2.2.2.2.2.2.2.2.2.2.1
    dsimp only at q0 q21 q22
    clear hb2 hp
    go_wp2_with fail
    refine (pText_s [sf, st] HP.out rfl rfl rfl ?_).mono ?_
    · have := HZ.out.all
      simp [packB, packBody, packN] at this
      simp only [List.nil_append]
      omega
    rintro e w3 ⟨rfl, hp⟩
    have hb3 := hp.box (HB1.out.kp ((Kp.refl No _).alloc _) (not_No _)) (by omega)
    have r23 := hb3.cells.2.2.2.2.2.2.2.2.2.2.2.2.2.2.2.2.2.2.2.2.2.2.2.1
    have r24 := hb3.cells.2.2.2.2.2.2.2.2.2.2.2.2.2.2.2.2.2.2.2.2.2.2.2.2.1
    dsimp only at r23 r24
    have HP3 := Lib.hid hp
    clear hp hb3
    go_wp2_with fail
    refine (rows_c (ok := ok) (A2 := A2) (A3 := A3) (c2 := c2) (c3 := c3) l la HP3.out (HN.out.l.agr ((HK1.out.alloc _).agr HN.out.apt)) (lasts_agr HN.out.last ((HK1.out.alloc _).agr HN.out.apt)) HD.out HZ.out.l HZ.out.z.many HZ.out.z.last ?_).mono ?_
    · have := HZ.out.all
      simp [packB, packBody, packN] at this
      simp only [List.nil_append, List.length_append]
      omega
    rintro e w4 ⟨rfl, D, hp⟩
    have HPE := Lib.hid hp
    clear hp
    obtain ⟨A9, n9, c9, c0, HE⟩ := PkS.end_ HPE.out (w := w) (HK1.out.alloc _) (by omega)
    go_wp2_with fail
    go_ret2
    rw [HR.out]
    have h9 := HE.out.res
    simpa [packB, packBody, packN, List.append_assoc] using h9

theorem pack_c {ok : Nat → Prop} (n : Note) (A1 A2 A3 A4 : Option Addr) (c1 c2 c3 c4 : Nat) (w : World) (hn : NoteR ok w n A1 A2 A3 A4) (hz : NoteP n) :
    Calls Try.prog 26 #[noteV n A1 A2 A3 A4 c1 c2 c3 c4] w (ResB w (packR n)) := by
  cases hm : mayS n
  · exact pack_no n _ _ _ _ _ _ _ _ w hn hz.z hm
  · have hm1 : may1 n = true := by
      cases h : may1 n
      · simp [mayS, h] at hm
      · rfl
    have hk : 1 ≤ n.kind ∧ n.kind ≤ 12 := by
      simp only [may1, Bool.and_eq_true, decide_eq_true_eq] at hm1
      omega
    by_cases h1 : n.kind = 1
    · exact pack_ask n _ _ _ _ _ _ _ _ w hn hz hm h1
    by_cases h2 : n.kind = 2
    · exact pack_reply n _ _ _ _ _ _ _ _ w hn hz hm h2
    by_cases h3 : n.kind = 3 ∨ n.kind = 5
    · exact pack_plain n _ _ _ _ _ _ _ _ w hn hz hm h3
    by_cases h4 : n.kind = 4 ∨ n.kind = 6
    · exact pack_map n _ _ _ _ _ _ _ _ w hn hz hm h4
    · exact pack_rows n _ _ _ _ _ _ _ _ w hn hz hm (by omega)

end Go.Proofs.Ytakhkjidcnahjaa
