/- Which notes may be: asks, spans, maps, May. -/
import Derived.Test.YtakhkjidcnahjaaQRows
set_option linter.unusedVariables false
set_option linter.unusedSimpArgs false
namespace Go.Proofs.Ytakhkjidcnahjaa
open Go.RowKit

/-- A note as a value; its four slices lie at A1 .. A4. -/
def noteC (n : Note) (A1 A2 A3 A4 : Option Addr) (c1 c2 c3 c4 : Nat) : Array Value :=
  #[.int .i64 n.kind, .int .i64 n.from_, .int .i64 n.to_, .int .i64 n.epoch, .int .i64 n.tick,
    .int .i64 n.ask.doo, .int .i64 n.ask.client, .int .i64 n.ask.seq, .string n.ask.text, .string n.ask.val, .string n.ask.from_, .string n.ask.to_, .int .i64 n.ask.limit,
    .int .i64 n.reply.client, .int .i64 n.reply.seq, .int .i64 n.reply.err, .bool n.reply.found, .string n.reply.val, .slice A1 n.reply.l.length c1, .string n.reply.next, .bool n.reply.more,
    .string n.span.from_, .string n.span.to_, .slice A2 n.l.length c2, .slice A3 n.last.length c3, .int .i64 n.atlas.epoch, .slice A4 n.atlas.l.length c4]
def noteV (n : Note) (A1 A2 A3 A4 : Option Addr) (c1 c2 c3 c4 : Nat) : Value := .agg (noteC n A1 A2 A3 A4 c1 c2 c3 c4)
/-- The world in which a note has been boxed. -/
def Boxed (w W0 : World) (n : Note) (A1 A2 A3 A4 : Option Addr) (c1 c2 c3 c4 : Nat) : Prop := W0 = w.alloc (.cells (noteC n A1 A2 A3 A4 c1 c2 c3 c4) 49)
/-- A last answer's cells. -/
def LastK (ok : Nat → Prop) (w : World) (x : Last) (cs : List Value) : Prop :=
  ∃ A c, cs = [.int .i64 x.seq, .int .i64 x.reply.client, .int .i64 x.reply.seq, .int .i64 x.reply.err, .bool x.reply.found, .string x.reply.val, .slice A x.reply.l.length c, .string x.reply.next, .bool x.reply.more] ∧ SrcF 2 Rec.cs ok w A x.reply.l.length x.reply.l
/-- What a note's slices hold. -/
structure NoteR (ok : Nat → Prop) (w : World) (n : Note) (A1 A2 A3 A4 : Option Addr) : Prop where
  rl : SrcF 2 Rec.cs ok w A1 n.reply.l.length n.reply.l
  l : SrcF 2 Rec.cs ok w A2 n.l.length n.l
  last : SrcK 9 LastK ok w A3 n.last.length n.last
  at_ : SrcF 4 Shard.cs ok w A4 n.atlas.l.length n.atlas.l
  apt : Apt No w ok
theorem LastK.agr {ok : Nat → Prop} {w w' : World} {x : Last} {cs : List Value} (h : LastK ok w x cs) (a : Agr ok w w') : LastK ok w' x cs := by
  obtain ⟨A, c, e, h⟩ := h
  exact ⟨A, c, e, h.agr a⟩
theorem LastK.mono {ok ok' : Nat → Prop} {w : World} {x : Last} {cs : List Value} (h : LastK ok w x cs) (hm : ∀ b, ok b → ok' b) : LastK ok' w x cs := by
  obtain ⟨A, c, e, h⟩ := h
  exact ⟨A, c, e, h.mono hm⟩
theorem lasts_agr {ok : Nat → Prop} {w w' : World} {A : Option Addr} {n : Nat} {xs : List Last} (h : SrcK 9 LastK ok w A n xs) (a : Agr ok w w') : SrcK 9 LastK ok w' A n xs :=
  ⟨h.1, h.2.1, fun hn => by
    obtain ⟨g, off, e, hg, hc⟩ := h.2.2 hn
    refine ⟨g, off, e, hg, fun i x hi => ?_⟩
    obtain ⟨cs, hl, hk, hr⟩ := hc i x hi
    exact ⟨cs, hl, hk.agr a, fun j u hu => (a.cell hg).trans (hr j u hu)⟩⟩
theorem lasts_mono {ok ok' : Nat → Prop} {w : World} {A : Option Addr} {n : Nat} {xs : List Last} (h : SrcK 9 LastK ok w A n xs) (hm : ∀ b, ok b → ok' b) : SrcK 9 LastK ok' w A n xs :=
  ⟨h.1, h.2.1, fun hn => by
    obtain ⟨g, off, e, hg, hc⟩ := h.2.2 hn
    refine ⟨g, off, e, hm g hg, fun i x hi => ?_⟩
    obtain ⟨cs, hl, hk, hr⟩ := hc i x hi
    exact ⟨cs, hl, hk.mono hm, hr⟩⟩
theorem Apt.agr {ok : Nat → Prop} {w w' : World} (a : Apt No w ok) (k : Kp No w w') : Agr ok w w' := k.agr a
theorem NoteR.kp {S ok : Nat → Prop} {w w' : World} {n : Note} {A1 A2 A3 A4 : Option Addr} (h : NoteR ok w n A1 A2 A3 A4) (k : Kp S w w') (hs : ∀ x, ok x → ¬ S x) : NoteR ok w' n A1 A2 A3 A4 := by
  have a : Agr ok w w' := k.agr fun x hx => ⟨(h.apt x hx).1, hs x hx⟩
  exact ⟨h.rl.agr a, h.l.agr a, lasts_agr h.last a, h.at_.agr a, h.apt.kp k⟩
theorem NoteR.kpNo {ok : Nat → Prop} {w w' : World} {n : Note} {A1 A2 A3 A4 : Option Addr} (h : NoteR ok w n A1 A2 A3 A4) (k : Kp No w w') : NoteR ok w' n A1 A2 A3 A4 := h.kp k fun x _ => not_No x

/-- A note whose texts fit into memory. -/
structure NoteZ (n : Note) : Prop where
  ask : n.ask.text.size + n.ask.val.size + n.ask.from_.size + n.ask.to_.size ≤ 140737488355000
  reply : (replyB n.reply).length ≤ 140737488355328
  last : ∀ x, x ∈ n.last → (replyB x.reply).length ≤ 140737488355328
  many : n.last.length ≤ 1000000

/-- Of bytes or an error, the error alone. -/
theorem ResB.err {w w' : World} {r : Option (List UInt8)} {en : Ending} (h : ResB w r en w') : Kp No w w' ∧ ∃ A n c e, en = .returned (.tuple #[.slice A n c, .int .i64 e]) ∧ (e == 0) = r.isSome := by
  obtain ⟨hk, h⟩ := h
  cases r with
  | none => exact ⟨hk, none, 0, 0, 1, h, rfl⟩
  | some bs =>
    obtain ⟨A, c, o, e, _⟩ := h
    exact ⟨hk, A, _, c, 0, e, rfl⟩

def asksS (n : Note) : Bool := (askR n.ask).isSome && (replyR n.reply).isSome && (n.kind == 1 || noAskS n.ask) && (n.kind == 2 || noReplyS n.reply)
set_option maxHeartbeats 1000000 in
theorem asks_c {ok : Nat → Prop} (n : Note) (A1 A2 A3 A4 : Option Addr) (c1 c2 c3 c4 : Nat) (w : World) (hn : NoteR ok w n A1 A2 A3 A4) (hz : NoteZ n) :
    Calls Try.prog 23 #[noteV n A1 A2 A3 A4 c1 c2 c3 c4] w (RetK w (asksS n)) := by
  have HN := Lib.hid hn
  have HZ := Lib.hid hz
  clear hn hz
  obtain ⟨ki, fr, to_, ep, ti, ⟨ad, ac, as_, at_, av, af, ao, al⟩, ⟨rc, rs, re, rf, rv, rl, rx, rm⟩, ⟨sf, st⟩, l, la, ⟨ae, sl⟩⟩ := n
  unfold noteV noteC
  go_enter Try.func23, Try.ntmps23
  go_wp2_with fail
  refine (pAsk_c ⟨ad, ac, as_, at_, av, af, ao, al⟩ _ HZ.out.ask).mono ?_
  intro en w1 h1
  obtain ⟨hk1, B1, m1, d1, e1, rfl, hq1⟩ := h1.err
  have hc1 : ∀ o, w1.cell? ⟨w.heap.size, o, none⟩ = _ := fun o => hk1.cell _ o (by simp) (not_No _)
  have HK1 := Lib.hid hk1
  have hl1 := hk1.size
  simp only [World.size_alloc] at hl1
  have HQ1 := Lib.hid hq1
  clear h1 hk1 hq1
  go_wp2_with fail
  have hb := HN.out.rl
  simp only at hb
  refine (pReply_c (ok := ok) ⟨rc, rs, re, rf, rv, rl, rx, rm⟩ A1 c1 _ ?_ ?_ HZ.out.reply).mono ?_
  · exact hb.agr ((((Kp.refl No _).alloc _).thenNo HK1.out).agr HN.out.apt)
  · exact HN.out.apt.kp (((Kp.refl No _).alloc _).thenNo HK1.out)
  intro en w2 h2
  obtain ⟨hk2, B2, m2, d2, e2, rfl, hq2⟩ := h2.err
  have hc2 : ∀ o, w2.cell? ⟨w.heap.size, o, none⟩ = w1.cell? ⟨w.heap.size, o, none⟩ := fun o => hk2.cell _ o (by omega) (not_No _)
  have HK2 := Lib.hid hk2
  have hl2 := hk2.size
  have HQ2 := Lib.hid hq2
  clear h2 hk2 hq2 hb
  have KK : Kp No w w2 := (((Kp.refl No _).alloc _).thenNo HK1.out).thenNo HK2.out
  have HKK := Lib.hid KK
  clear KK
  cases hq1 : e1 == 0
  · have HR := Lib.hid (show asksS ⟨ki, fr, to_, ep, ti, ⟨ad, ac, as_, at_, av, af, ao, al⟩, ⟨rc, rs, re, rf, rv, rl, rx, rm⟩, ⟨sf, st⟩, l, la, ⟨ae, sl⟩⟩ = false by simp only [asksS]; rw [← HQ1.out, hq1]; rfl)
    go_wp2_with fail
    go_ret
    exact ⟨by rw [HR.out]; rfl, HKK.out⟩
  · cases hq2 : e2 == 0
    · have HR := Lib.hid (show asksS ⟨ki, fr, to_, ep, ti, ⟨ad, ac, as_, at_, av, af, ao, al⟩, ⟨rc, rs, re, rf, rv, rl, rx, rm⟩, ⟨sf, st⟩, l, la, ⟨ae, sl⟩⟩ = false by simp only [asksS]; rw [← HQ1.out, ← HQ2.out, hq1, hq2]; rfl)
      go_wp2_with fail
      go_ret
      exact ⟨by rw [HR.out]; rfl, HKK.out⟩
    · have HR := Lib.hid (show asksS ⟨ki, fr, to_, ep, ti, ⟨ad, ac, as_, at_, av, af, ao, al⟩, ⟨rc, rs, re, rf, rv, rl, rx, rm⟩, ⟨sf, st⟩, l, la, ⟨ae, sl⟩⟩ = ((ki == 1 || noAskS ⟨ad, ac, as_, at_, av, af, ao, al⟩) && (ki == 2 || noReplyS ⟨rc, rs, re, rf, rv, rl, rx, rm⟩)) by simp only [asksS]; rw [← HQ1.out, ← HQ2.out, hq1, hq2]; rfl)
      go_wp2_with (first
        | (go_at_call 42; refine (noAsk_c _ _ _ _ _ _ _ _ _).mono ?_; rintro e w3 ⟨rfl, hk3⟩; have hc3 : ∀ o, w3.cell? ⟨w.heap.size, o, none⟩ = w2.cell? ⟨w.heap.size, o, none⟩ := fun o => hk3.cell _ o (by omega) (not_No _); have HK3 := Lib.hid hk3; have hl3 := hk3.size; clear hk3)
        | (go_at_call 43; refine (noReply_c _ _ _ _ _ rl _ _ _ _ _).mono ?_; rintro e w4 ⟨rfl, hk4⟩; have HK4 := Lib.hid hk4; clear hk4))
      all_goals go_ret
      all_goals refine ⟨ret_bool ?_, ?_⟩
      all_goals try (rw [HR.out]; simp [*])
      all_goals first | exact HKK.out | exact HKK.out.thenNo HK3.out | exact HKK.out.thenNo HK4.out | exact (HKK.out.thenNo HK3.out).thenNo HK4.out


def lastOk (x : Last) : Bool := (replyR x.reply).isSome && numberS x.seq
def spansS (n : Note) : Bool :=
  n.last.all lastOk && ((n.l.length == 0 && n.last.length == 0) || hasS n.kind [8, 9]) &&
    ((n.epoch == 0 && (n.span.from_.toList.isEmpty && n.span.to_.toList.isEmpty)) || hasS n.kind [7, 11, 10, 12, 8, 9])

def SpansRel (W0 : World) (l : List Last) (k : Nat) (wr : World) : Prop := Kp No W0 wr ∧ l.all lastOk = (l.drop k).all lastOk
set_option maxHeartbeats 1000000 in
theorem spans_c {ok : Nat → Prop} (n : Note) (A1 A2 A3 A4 : Option Addr) (c1 c2 c3 c4 : Nat) (w : World) (hn : NoteR ok w n A1 A2 A3 A4) (hz : NoteZ n) :
    Calls Try.prog 24 #[noteV n A1 A2 A3 A4 c1 c2 c3 c4] w (RetK w (spansS n)) := by
  have HN := Lib.hid hn
  have HZ := Lib.hid hz
  clear hn hz
  obtain ⟨W0, HW⟩ : ∃ W0, Boxed w W0 n A1 A2 A3 A4 c1 c2 c3 c4 := ⟨_, rfl⟩
  obtain ⟨ki, fr, to_, ep, ti, ⟨ad, ac, as_, at_, av, af, ao, al⟩, ⟨rc, rs, re, rf, rv, rl, rx, rm⟩, ⟨sf, st⟩, l, la, ⟨ae, sl⟩⟩ := n
  have hmany : la.length ≤ 1000000 := HZ.out.many
  unfold noteV noteC
  go_enter Try.func24, Try.ntmps24
  go_wp2_with fail
  go_loopw [11] (fun i wr => ∃ (k : Nat), k ≤ la.length ∧ i = .int .i64 k ∧ SpansRel W0 la k wr) (fun i _ => la.length - (intOf i).toNat)
  case atStart => exact ⟨0, Nat.zero_le _, rfl, by rw [HW]; exact Kp.refl _ _, rfl⟩
  case round =>
    obtain ⟨k, hk, rfl, hkp, hall⟩ := hrel
    have HKW := Lib.hid hkp
    rw [show W0 = _ from HW] at hkp
    have hc1 : ∀ o, wr.cell? ⟨w.heap.size, o, none⟩ = _ := fun o => hkp.cell _ o (by simp) (not_No _)
    simp only [noteC] at hc1
    have HK := Lib.hid (((Kp.refl No w).alloc _).thenNo hkp)
    have HALL := Lib.hid hall
    have hl1 := hkp.size
    simp only [World.size_alloc] at hl1
    clear hkp hall
    by_cases hlt : k < la.length
    · have hx1 : la[k]? = some la[k] := List.getElem?_eq_getElem hlt
      have hd : la.drop k = la[k] :: la.drop (k + 1) := List.drop_eq_getElem_cons hlt
      have hm : la[k] ∈ la := List.getElem_mem hlt
      generalize la[k] = x at hx1 hd hm
      obtain ⟨g, off, hA3, hg, hcell⟩ := HN.out.last.2.2 (Nat.lt_of_le_of_lt (Nat.zero_le k) hlt)
      subst hA3
      have hgl := (HN.out.apt g hg).1
      obtain ⟨cs, hcl, ⟨LA, lc, hcs, hL⟩, hrd⟩ := hcell k x hx1
      subst hcs
      have hrd : ∀ j u, _ → wr.cell? ⟨g, off + (k * 9 + j), none⟩ = some u := fun j u hu => (HK.out.cell g _ hgl (not_No _)).trans (hrd j u hu)
      obtain ⟨xs, xc, xq, xe, xf, xv, xl, xn, xm⟩ := x
      simp only at hrd hL
      have q0 := hrd 0 _ rfl
      have q1 := hrd 1 _ rfl
      have q2 := hrd 2 _ rfl
      have q3 := hrd 3 _ rfl
      have q4 := hrd 4 _ rfl
      have q5 := hrd 5 _ rfl
      have q6 := hrd 6 _ rfl
      have q7 := hrd 7 _ rfl
      have q8 := hrd 8 _ rfl
      simp only [Nat.add_zero] at q0
      have p1 := q1
      have p2 := q2
      have p3 := q3
      have p4 := q4
      have p5 := q5
      have p6 := q6
      have p7 := q7
      have p8 := q8
      rw [← Nat.add_assoc] at p1 p2 p3 p4 p5 p6 p7 p8
      have HL := Lib.hid hL
      have HD := Lib.hid hd
      have hZ := HZ.out.last _ hm
      have HRZ := Lib.hid hZ
      clear hL hd hZ hm hx1 hg hcell hrd hcl
      go_wp2_with fail
      refine (pReply_c (ok := ok) ⟨xc, xq, xe, xf, xv, xl, xn, xm⟩ LA lc _ ?_ ?_ HRZ.out).mono ?_
      · exact HL.out.agr ((HK.out.alloc _).agr HN.out.apt)
      · exact HN.out.apt.kp (HK.out.alloc _)
      intro en w2 h2
      obtain ⟨hk2, B2, m2, d2, e2, rfl, hq2⟩ := h2.err
      have hc2 : ∀ o, w2.cell? ⟨w.heap.size, o, none⟩ = wr.cell? ⟨w.heap.size, o, none⟩ := fun o => (hk2.cell _ o (by simp; omega) (not_No _)).trans (cell_old _ _ (by omega))
      have hc3 : ∀ o, w2.cell? ⟨wr.heap.size, o, none⟩ = _ := fun o => hk2.cell _ o (by simp) (not_No _)
      have HK2 := Lib.hid (((HK.out.alloc _).thenNo hk2))
      have HK2W := Lib.hid (((HKW.out.alloc _).thenNo hk2))
      have HQ2 := Lib.hid hq2
      clear h2 hk2 hq2
      cases hq2 : e2 == 0
      · have HR := Lib.hid (show spansS ⟨ki, fr, to_, ep, ti, ⟨ad, ac, as_, at_, av, af, ao, al⟩, ⟨rc, rs, re, rf, rv, rl, rx, rm⟩, ⟨sf, st⟩, l, la, ⟨ae, sl⟩⟩ = false by
          simp only [spansS]; rw [HALL.out, HD.out, List.all_cons, lastOk, ← HQ2.out, hq2]; rfl)
        have hq3 := ne_of_beq hq2
        go_wp2_with fail
        go_ret
        exact ⟨by rw [HR.out]; rfl, HK2.out⟩
      · have hq3 := ne_of_beq hq2
        go_wp2_with fail
        refine (number_c xs w2).mono ?_
        rintro en w3 ⟨rfl, rfl⟩
        cases hnu : numberS xs
        · have HR := Lib.hid (show spansS ⟨ki, fr, to_, ep, ti, ⟨ad, ac, as_, at_, av, af, ao, al⟩, ⟨rc, rs, re, rf, rv, rl, rx, rm⟩, ⟨sf, st⟩, l, la, ⟨ae, sl⟩⟩ = false by
            simp only [spansS]; rw [HALL.out, HD.out, List.all_cons, lastOk, hnu, Bool.and_false]; rfl)
          go_wp2_with fail
          go_ret
          exact ⟨by rw [HR.out]; rfl, HK2.out⟩
        · have HNU := Lib.hid hnu
          have HQ3 := Lib.hid hq2
          clear hq3
          go_wp2_with fail
          go_roundw
          case rel =>
            refine ⟨k + 1, by omega, by go_num, ?_, ?_⟩
            · exact HK2W.out
            · rw [HALL.out, HD.out, List.all_cons, lastOk, ← HQ2.out, HQ3.out, HNU.out]; rfl
          case measure => simp [intOf]; omega
    · obtain rfl : k = la.length := by omega
      have hall := HALL.out
      rw [List.drop_length] at hall
      have HALL2 := Lib.hid hall
      clear hall
      go_wp2_with (first
        | (go_at_call 22; (with_reducible refine (has2 _ _ _ (by simp)).mono ?_); rintro e w3 ⟨rfl, hk3⟩; have hc3 : ∀ o, w3.cell? ⟨w.heap.size, o, none⟩ = wr.cell? ⟨w.heap.size, o, none⟩ := (fun o => hk3.cell _ o (by omega) (not_No _)); have HK3 := Lib.hid hk3; have hl3 := hk3.size; clear hk3)
        | (go_at_call 22; (with_reducible refine (has6 _ _ _ _ _ _ _ (by simp)).mono ?_); rintro e w4 ⟨rfl, hk4⟩; have HK4 := Lib.hid hk4; clear hk4))
      all_goals go_ret
      all_goals refine ⟨ret_bool ?_, ?_⟩
      all_goals try (simp [spansS, HALL2.out, *]; done)
      all_goals try first | exact HK.out | exact HK.out.thenNo HK3.out | exact HK.out.thenNo HK4.out | exact (HK.out.thenNo HK3.out).thenNo HK4.out

end Go.Proofs.Ytakhkjidcnahjaa
