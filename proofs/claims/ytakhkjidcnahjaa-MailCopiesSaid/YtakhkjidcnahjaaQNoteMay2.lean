/- Which notes may be: maps, May. -/
import Derived.Test.YtakhkjidcnahjaaQNoteMay
set_option linter.unusedVariables false
set_option linter.unusedSimpArgs false
namespace Go.Proofs.Ytakhkjidcnahjaa
open Go.RowKit

/-- A whole struct is read out of its box, in one step (the walk's own way asks too much of the kernel where the struct is large). -/
theorem load_big {ops : Array Oper} {rest : List Oper} {o : Oper} {a : Act} {w : World} {Q : Exit → Act → World → Prop} (ty : TypeId) (x : Operand) (ho : o.op = .load ty x) (hw : Region.wanted o (yielded ops a.tmps) = true)
    (g : Nat) (hx : a.eval x = .pointer (some ⟨g, 0, none⟩)) (t : TypeId) (cs : Array Value) {fs : Array Field} (hg : w.heap[g]? = some (.cells cs t))
    (hu : Try.prog.underlying ty = some (.struct fs)) (hi : (Try.prog.info? ty).map (·.size) = some cs.size)
    (h : wpList Try.prog ops Q rest (a.put o.dst (.agg cs)) w) : wpList Try.prog ops Q (o :: rest) a w :=
  wpList_step fun K hK => by rw [if_pos hw]; exact wp_load_row ty x ho g hx t cs (0, 0) _ hg hu rfl hi (hK _ _ h)
theorem infoNote : (Try.prog.info? 49).map (·.size) = some 27 := by kernel_rfl

/-- A note's box, cell by cell. -/
def NoteBox (W : World) (b : Nat) (n : Note) (A1 A2 A3 A4 : Option Addr) (c1 c2 c3 c4 : Nat) : Prop := W.heap[b]? = some (.cells (noteC n A1 A2 A3 A4 c1 c2 c3 c4) 49)
theorem NoteBox.kp {S : Nat → Prop} {W W' : World} {b : Nat} {n : Note} {A1 A2 A3 A4 : Option Addr} {c1 c2 c3 c4 : Nat} (h : NoteBox W b n A1 A2 A3 A4 c1 c2 c3 c4) (k : Kp S W W') (hb : ¬ S b) : NoteBox W' b n A1 A2 A3 A4 c1 c2 c3 c4 :=
  (k.block b (Array.getElem?_eq_some_iff.1 h).1 hb).trans h
theorem NoteBox.lt {W : World} {b : Nat} {n : Note} {A1 A2 A3 A4 : Option Addr} {c1 c2 c3 c4 : Nat} (h : NoteBox W b n A1 A2 A3 A4 c1 c2 c3 c4) : b < W.heap.size := (Array.getElem?_eq_some_iff.1 h).1
theorem Boxed.box {w W0 : World} {n : Note} {A1 A2 A3 A4 : Option Addr} {c1 c2 c3 c4 : Nat} (h : Boxed w W0 n A1 A2 A3 A4 c1 c2 c3 c4) : NoteBox W0 w.heap.size n A1 A2 A3 A4 c1 c2 c3 c4 := by
  rw [show W0 = _ from h]; exact heap_alloc_new _ _
theorem Boxed.kp {w W0 : World} {n : Note} {A1 A2 A3 A4 : Option Addr} {c1 c2 c3 c4 : Nat} (h : Boxed w W0 n A1 A2 A3 A4 c1 c2 c3 c4) : Kp No w W0 := by
  rw [show W0 = _ from h]; exact (Kp.refl _ _).alloc _
theorem NoteBox.cells {W : World} {b : Nat} {n : Note} {A1 A2 A3 A4 : Option Addr} {c1 c2 c3 c4 : Nat} (h : NoteBox W b n A1 A2 A3 A4 c1 c2 c3 c4) :
    W.cell? ⟨b, 0, none⟩ = some (.int .i64 n.kind) ∧
    W.cell? ⟨b, 1, none⟩ = some (.int .i64 n.from_) ∧
    W.cell? ⟨b, 2, none⟩ = some (.int .i64 n.to_) ∧
    W.cell? ⟨b, 3, none⟩ = some (.int .i64 n.epoch) ∧
    W.cell? ⟨b, 4, none⟩ = some (.int .i64 n.tick) ∧
    W.cell? ⟨b, 5, none⟩ = some (.int .i64 n.ask.doo) ∧
    W.cell? ⟨b, 6, none⟩ = some (.int .i64 n.ask.client) ∧
    W.cell? ⟨b, 7, none⟩ = some (.int .i64 n.ask.seq) ∧
    W.cell? ⟨b, 8, none⟩ = some (.string n.ask.text) ∧
    W.cell? ⟨b, 9, none⟩ = some (.string n.ask.val) ∧
    W.cell? ⟨b, 10, none⟩ = some (.string n.ask.from_) ∧
    W.cell? ⟨b, 11, none⟩ = some (.string n.ask.to_) ∧
    W.cell? ⟨b, 12, none⟩ = some (.int .i64 n.ask.limit) ∧
    W.cell? ⟨b, 13, none⟩ = some (.int .i64 n.reply.client) ∧
    W.cell? ⟨b, 14, none⟩ = some (.int .i64 n.reply.seq) ∧
    W.cell? ⟨b, 15, none⟩ = some (.int .i64 n.reply.err) ∧
    W.cell? ⟨b, 16, none⟩ = some (.bool n.reply.found) ∧
    W.cell? ⟨b, 17, none⟩ = some (.string n.reply.val) ∧
    W.cell? ⟨b, 18, none⟩ = some (.slice A1 n.reply.l.length c1) ∧
    W.cell? ⟨b, 19, none⟩ = some (.string n.reply.next) ∧
    W.cell? ⟨b, 20, none⟩ = some (.bool n.reply.more) ∧
    W.cell? ⟨b, 21, none⟩ = some (.string n.span.from_) ∧
    W.cell? ⟨b, 22, none⟩ = some (.string n.span.to_) ∧
    W.cell? ⟨b, 23, none⟩ = some (.slice A2 n.l.length c2) ∧
    W.cell? ⟨b, 24, none⟩ = some (.slice A3 n.last.length c3) ∧
    W.cell? ⟨b, 25, none⟩ = some (.int .i64 n.atlas.epoch) ∧
    W.cell? ⟨b, 26, none⟩ = some (.slice A4 n.atlas.l.length c4) :=
  ⟨(cell_of_row W b 0 _ _ _ h).trans rfl, (cell_of_row W b 1 _ _ _ h).trans rfl, (cell_of_row W b 2 _ _ _ h).trans rfl, (cell_of_row W b 3 _ _ _ h).trans rfl, (cell_of_row W b 4 _ _ _ h).trans rfl, (cell_of_row W b 5 _ _ _ h).trans rfl, (cell_of_row W b 6 _ _ _ h).trans rfl, (cell_of_row W b 7 _ _ _ h).trans rfl, (cell_of_row W b 8 _ _ _ h).trans rfl, (cell_of_row W b 9 _ _ _ h).trans rfl, (cell_of_row W b 10 _ _ _ h).trans rfl, (cell_of_row W b 11 _ _ _ h).trans rfl, (cell_of_row W b 12 _ _ _ h).trans rfl, (cell_of_row W b 13 _ _ _ h).trans rfl, (cell_of_row W b 14 _ _ _ h).trans rfl, (cell_of_row W b 15 _ _ _ h).trans rfl, (cell_of_row W b 16 _ _ _ h).trans rfl, (cell_of_row W b 17 _ _ _ h).trans rfl, (cell_of_row W b 18 _ _ _ h).trans rfl, (cell_of_row W b 19 _ _ _ h).trans rfl, (cell_of_row W b 20 _ _ _ h).trans rfl, (cell_of_row W b 21 _ _ _ h).trans rfl, (cell_of_row W b 22 _ _ _ h).trans rfl, (cell_of_row W b 23 _ _ _ h).trans rfl, (cell_of_row W b 24 _ _ _ h).trans rfl, (cell_of_row W b 25 _ _ _ h).trans rfl, (cell_of_row W b 26 _ _ _ h).trans rfl⟩

theorem load_note {ops : Array Oper} {rest : List Oper} {o : Oper} {a : Act} {w : World} {Q : Exit → Act → World → Prop} {g : Nat} {n : Note} {A1 A2 A3 A4 : Option Addr} {c1 c2 c3 c4 : Nat} (hb : NoteBox w g n A1 A2 A3 A4 c1 c2 c3 c4)
    (x : Operand) (ho : o.op = .load 49 x) (hw : Region.wanted o (yielded ops a.tmps) = true) (hx : a.eval x = .pointer (some ⟨g, 0, none⟩))
    (h : wpList Try.prog ops Q rest (a.put o.dst (noteV n A1 A2 A3 A4 c1 c2 c3 c4)) w) : wpList Try.prog ops Q (o :: rest) a w :=
  load_big 49 x ho hw g hx 49 _ hb Try.underlying49 infoNote h

def mapsS (n : Note) : Bool := if hasS n.kind [4, 6] then atlasMayS n.atlas 5 && numberS n.atlas.epoch else n.atlas.epoch == 0 && n.atlas.l.length == 0
set_option maxHeartbeats 1000000 in
theorem maps_c {ok : Nat → Prop} (n : Note) (A1 A2 A3 A4 : Option Addr) (c1 c2 c3 c4 : Nat) (w : World) (hn : NoteR ok w n A1 A2 A3 A4) :
    Calls Try.prog 25 #[noteV n A1 A2 A3 A4 c1 c2 c3 c4] w (RetK w (mapsS n)) := by
  have HN := Lib.hid hn
  clear hn
  obtain ⟨ki, fr, to_, ep, ti, ⟨ad, ac, as_, at_, av, af, ao, al⟩, ⟨rc, rs, re, rf, rv, rl, rx, rm⟩, ⟨sf, st⟩, l, la, ⟨ae, sl⟩⟩ := n
  unfold noteV noteC
  go_enter Try.func25, Try.ntmps25
  go_wp2_with fail
  refine (has2 _ _ _ (by simp)).mono ?_
  rintro e w1 ⟨rfl, hk1⟩
  have hc1 : ∀ o, w1.cell? ⟨w.heap.size, o, none⟩ = _ := fun o => hk1.cell _ o (by simp) (not_No _)
  have HK1 := Lib.hid (((Kp.refl No w).alloc _).thenNo hk1)
  have hl1 := hk1.size
  simp only [World.size_alloc] at hl1
  clear hk1
  cases hh : hasS ki [4, 6]
  · have HH := Lib.hid hh
    go_wp2_with fail
    all_goals go_ret
    all_goals refine ⟨ret_bool ?_, HK1.out⟩
    all_goals (simp [mapsS, HH.out, *] <;> rw [Bool.eq_iff_iff] <;> simp <;> omega)
  · have HH := Lib.hid hh
    go_wp2_with fail
    refine (atlasMay_c (ok := ok) ae 5 sl w1 (HN.out.at_.agr (HK1.out.agr HN.out.apt)) (HN.out.apt.kp HK1.out)).mono ?_
    rintro e w2 ⟨rfl, hk2⟩
    have hc2 : ∀ o, w2.cell? ⟨w.heap.size, o, none⟩ = w1.cell? ⟨w.heap.size, o, none⟩ := fun o => hk2.cell _ o (by omega) (not_No _)
    have HK2 := Lib.hid (HK1.out.thenNo hk2)
    clear hk2
    cases ha : atlasMayS ⟨ae, sl⟩ 5
    · have HA := Lib.hid ha
      go_wp2_with fail
      go_ret
      refine ⟨ret_bool ?_, HK2.out⟩
      simp [mapsS, HH.out, HA.out]
    · have HA := Lib.hid ha
      go_wp2_with fail
      refine (number_c ae w2).mono ?_
      rintro en w3 ⟨rfl, rfl⟩
      go_wp2_with fail
      go_ret
      refine ⟨ret_bool ?_, HK2.out⟩
      simp [mapsS, HH.out, HA.out]

def may1 (n : Note) : Bool := decide (1 ≤ n.kind) && decide (n.kind ≤ 12) && partyS n.from_ && partyS n.to_ && !(n.from_ == n.to_) && numberS n.epoch && numberS n.tick
def mayS (n : Note) : Bool := may1 n && (n.tick == 0 || hasS n.kind [5, 6]) && asksS n && spansS n && mapsS n

set_option maxHeartbeats 1000000 in
theorem may_c {ok : Nat → Prop} (n : Note) (A1 A2 A3 A4 : Option Addr) (c1 c2 c3 c4 : Nat) (w : World) (hn : NoteR ok w n A1 A2 A3 A4) (hz : NoteZ n) :
    Calls Try.prog 9 #[noteV n A1 A2 A3 A4 c1 c2 c3 c4] w (RetK w (mayS n)) := by
  have HA := Lib.hid fun W (k : Kp No w W) => asks_c n A1 A2 A3 A4 c1 c2 c3 c4 W (hn.kpNo k) hz
  have HS := Lib.hid fun W (k : Kp No w W) => spans_c n A1 A2 A3 A4 c1 c2 c3 c4 W (hn.kpNo k) hz
  have HM := Lib.hid fun W (k : Kp No w W) => maps_c n A1 A2 A3 A4 c1 c2 c3 c4 W (hn.kpNo k)
  clear hn hz
  have HR := Lib.hid (show mayS n = (may1 n && (n.tick == 0 || hasS n.kind [5, 6]) && asksS n && spansS n && mapsS n) from rfl)
  obtain ⟨W0, HW⟩ : ∃ W0, Boxed w W0 n A1 A2 A3 A4 c1 c2 c3 c4 := ⟨_, rfl⟩
  generalize asksS n = qa at *
  generalize spansS n = qs at *
  generalize mapsS n = qm at *
  generalize mayS n = M at *
  obtain ⟨ki, fr, to_, ep, ti, ⟨ad, ac, as_, at_, av, af, ao, al⟩, ⟨rc, rs, re, rf, rv, rl, rx, rm⟩, ⟨sf, st⟩, l, la, ⟨ae, sl⟩⟩ := n
  unfold noteV noteC
  go_enter Try.func9, Try.ntmps9
  go_upto_region 1 with fail
  go_cut [41] (fun t wx => t = .bool (!(may1 ⟨ki, fr, to_, ep, ti, ⟨ad, ac, as_, at_, av, af, ao, al⟩, ⟨rc, rs, re, rf, rv, rl, rx, rm⟩, ⟨sf, st⟩, l, la, ⟨ae, sl⟩⟩)) ∧ wx = W0)
  case first =>
    cases hft : fr == to_
    all_goals
      go_wp2_with (first
        | (go_at_call 20; refine (party_c _ _).mono ?_; rintro e w' ⟨rfl, rfl⟩)
        | (go_at_call 21; refine (number_c _ _).mono ?_; rintro e w' ⟨rfl, rfl⟩))
    all_goals
      go_meet
      case rel =>
        refine ⟨congrArg Value.bool ?_, HW.symm⟩
        rw [Bool.eq_iff_iff]; simp [may1, *] <;> omega
  case rest =>
    obtain ⟨rfl, rfl⟩ := hcut
    have hb0 := HW.box
    have HK0 := Lib.hid HW.kp
    have hl0 := hb0.lt
    have HB0 := Lib.hid hb0
    have q0 : wc.cell? ⟨w.heap.size, 0, none⟩ = some (.int .i64 ki) := hb0.cells.1
    have q4 : wc.cell? ⟨w.heap.size, 4, none⟩ = some (.int .i64 ti) := hb0.cells.2.2.2.2.1
    clear hb0 HW
    cases hm1 : may1 ⟨ki, fr, to_, ep, ti, ⟨ad, ac, as_, at_, av, af, ao, al⟩, ⟨rc, rs, re, rf, rv, rl, rx, rm⟩, ⟨sf, st⟩, l, la, ⟨ae, sl⟩⟩
    · have HM1 := Lib.hid hm1
      go_wp2_with fail
      go_ret
      refine ⟨ret_bool ?_, HK0.out⟩
      rw [HR.out, HM1.out]; rfl
    · have HM1 := Lib.hid hm1
      cases ht : ti == 0
      all_goals go_wp2_with (first
        | (go_at_call 22; (with_reducible refine (has2 _ _ _ rfl).mono ?_); rintro e w3 ⟨rfl, hk3⟩; have HB3 := Lib.hid (HB0.out.kp hk3 (not_No _)); have HK3 := Lib.hid (HK0.out.thenNo hk3); clear hk3; generalize hq : hasS ki [5, 6] = qh; have HQ := Lib.hid hq; clear hq; cases qh)
        | (go_at_call 23; refine (HA.out _ (by first | exact HK3.out | exact HK0.out)).mono ?_; rintro e w4 ⟨rfl, hk4⟩; have HB4 := Lib.hid (NoteBox.kp (by first | exact HB3.out | exact HB0.out) hk4 (not_No _)); have HK4 := Lib.hid (show Kp No w w4 from Kp.thenNo (by first | exact HK3.out | exact HK0.out) hk4); clear hk4; cases qa)
        | (go_at_call 24; refine (HS.out _ HK4.out).mono ?_; rintro e w5 ⟨rfl, hk5⟩; have HB5 := Lib.hid (HB4.out.kp hk5 (not_No _)); have HK5 := Lib.hid (HK4.out.thenNo hk5); clear hk5; cases qs)
        | ((first | refine load_note HB5.out ?_ ?_ ?_ ?_ ?_ | refine load_note HB4.out ?_ ?_ ?_ ?_ ?_ | refine load_note HB3.out ?_ ?_ ?_ ?_ ?_ | refine load_note HB0.out ?_ ?_ ?_ ?_ ?_); rotate_left; exact rfl; go_simp; exact rfl)
        | (go_at_call 25; refine (HM.out _ HK5.out).mono ?_; rintro e w6 ⟨rfl, hk6⟩; have HK6 := Lib.hid (HK5.out.thenNo hk6); clear hk6))
      all_goals go_ret
      all_goals refine ⟨ret_bool ?_, ?_⟩
      all_goals try (rw [HR.out, HM1.out]; simp [ht]; done)
      all_goals try (rw [HR.out, HM1.out, HQ.out]; simp [ht]; done)
      all_goals first | exact HK6.out | exact HK5.out | exact HK4.out | exact HK3.out

end Go.Proofs.Ytakhkjidcnahjaa
