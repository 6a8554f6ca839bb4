/- tale.event. -/
import Derived.Test.YtekgojolfckiiaaDoorQTale3
import Derived.LoopN
set_option linter.unusedVariables false
set_option linter.unusedSimpArgs false
namespace Go.Proofs.YtekgojolfckiiaaDoor
open Go.RowKit

theorem Kp.setNew {S : Nat → Prop} {a w : World} {p o : Nat} {s : Option Nat} {u : Value} (h : Kp S a w) (hp : a.heap.size ≤ p) : Kp S a (w.setCell ⟨p, o, s⟩ u) := h.setCell (p := ⟨p, o, s⟩) (fun e => absurd e (by simp only; omega)) u
def evC (d who n : Int) (t v o : ByteArray) : Array Value := #[.int .i64 d, .int .i64 who, .int .i64 n, .string t, .string v, .string o]
theorem infoEv : (Tryd.prog.info? 39).map (·.size) = some 6 := by kernel_rfl
theorem evC_one (d who n : Int) (t v o : ByteArray) : (evC d who n t v o).all (·.oneCell') = true := by simp [evC, Value.oneCell']
theorem store_ev {ops : Array Oper} {rest : List Oper} {o : Oper} {a : Act} {w : World} {Q : Exit → Act → World → Prop} {g : Nat} {d who n : Int} {t v o' : ByteArray} {old : Array Value}
    (hb : w.heap[g]? = some (.cells old 39)) (hold : old.size = 6) (hgd : o.guard = none) (x y : Operand) (ho : o.op = .store 39 x y) (hd : o.dst = none) (hx : a.eval x = .pointer (some ⟨g, 0, none⟩)) (hy : a.eval y = .agg (evC d who n t v o'))
    (h : ∀ w1, w1.heap[g]? = some (.cells (evC d who n t v o') 39) → Kp (One g) w w1 → wpList Tryd.prog ops Q rest a w1) : wpList Tryd.prog ops Q (o :: rest) a w := by
  refine wpList_store_row hgd 39 x y ho g (evC d who n t v o') hx hy 39 old hb infoEv (by rw [hold]; rfl) (evC_one _ _ _ _ _ _) ?_
  rw [hd]
  exact h _ (setRow_heap w g old _ _ _ hb) ((Kp.refl _ _).setRow (fun _ => One.mk _) _)
theorem load_ev {ops : Array Oper} {rest : List Oper} {o : Oper} {a : Act} {w : World} {Q : Exit → Act → World → Prop} {g : Nat} {d who n : Int} {t v o' : ByteArray} (hb : w.heap[g]? = some (.cells (evC d who n t v o') 39))
    (x : Operand) (ho : o.op = .load 39 x) (hw : Region.wanted o (yielded ops a.tmps) = true) (hx : a.eval x = .pointer (some ⟨g, 0, none⟩))
    (h : wpList Tryd.prog ops Q rest (a.put o.dst (.agg (evC d who n t v o'))) w) : wpList Tryd.prog ops Q (o :: rest) a w :=
  load_big 39 x ho hw g hx 39 _ hb Tryd.underlying39 infoEv h
/-- What tale.event answers: an event, and whether the line had one. -/
def EvP (w : World) (r : Option Tl.Ev) (en : Ending) (w' : World) : Prop :=
  Kp No w w' ∧ ∃ d who n t v o, en = .returned (.tuple #[.agg (evC d who n t v o), .bool r.isSome]) ∧ ∀ e, r = some e → d = e.doo ∧ who = e.who ∧ n = e.n ∧ t = bT e.text ∧ v = bT e.val ∧ o = bT e.to_
theorem pieces (l : List UInt8) : (Lib.splitB (bT [32]) 0 (Lib.countB (bT l) (bT [32])) (bT l)) = (Lib.split l [32]).map bT ∧ Lib.countB (bT l) (bT [32]) + 1 = (Lib.split l [32]).length := by
  have h1 := Lib.splitB_data (bT [32]) 0 (Lib.countB (bT l) (bT [32])) (bT l)
  have h2 := Lib.splitB_all (bT [32]) (by rw [bT_size]; simp) 0 _ (bT l) rfl
  rw [bT_list, bT_list] at h1
  have e : Lib.splitK [32] 0 (Lib.countB (bT l) (bT [32])) l = Lib.split l [32] := by
    unfold Lib.split Lib.countB
    rw [bT_list, bT_list]
  rw [e] at h1
  refine ⟨?_, ?_⟩
  · rw [← h1, List.map_map]
    conv => lhs; rw [← List.map_id (Lib.splitB _ _ _ _)]
    apply List.map_congr_left
    intro x _
    simp [bT_data]
  · rw [← h1, List.length_map, h2]
theorem split_c (l : List UInt8) (w : World) (E : Env w) (hl : l.length ≤ 1000000) :
    Calls Tryd.prog 28 #[.string (bT l), .string ⟨#[32]⟩] w fun e w' => e = .returned (.slice (some ⟨w.heap.size, 0, none⟩) (Lib.split l [32]).length (Lib.split l [32]).length) ∧ w' = w.alloc (.cells ((Lib.split l [32]).map fun x => Value.string (bT x)).toArray 9) := by
  obtain ⟨m, hm⟩ := E.len
  have := Tryd.strings_Split (bT l) (bT [32]) m w (by rw [bT_size]; omega) hm (by rw [bT_size]; simp)
  rw [(pieces l).1, (pieces l).2, List.map_map] at this
  exact this

set_option maxHeartbeats 1000000 in
theorem event_few (l : List UInt8) (w : World) (E : Env w) (hl : l.length ≤ 1000000) (h : (Lib.split l [32]).length ≠ 6) (hn : (Lib.split l [32]).length ≤ 1000001) : Calls Tryd.prog 23 #[.string (bT l)] w (EvP w (Tl.evL l)) := by
  have HN := Lib.hid (show Tl.evL l = none by
    unfold Tl.evL
    split
    · rename_i hsp; rw [hsp] at h; exact absurd rfl h
    · rfl)
  have HS := Lib.hid fun W (k : Kp No w W) => split_c l W (E.kp k) hl
  generalize (Lib.split l [32]).length = m at *
  generalize ((Lib.split l [32]).map fun x => Value.string (bT x)).toArray = arr at *
  generalize bT l = T at *
  have hne : (((m : Nat) : Int) != 6) = true := by rw [bne_iff_ne]; omega
  clear E h
  go_enter Tryd.func23, Tryd.ntmps23
  go_wp2_with fail
  refine (HS.out _ ((Kp.refl _ _).alloc _)).mono ?_
  rintro e w1 ⟨rfl, rfl⟩
  go_wp2_with fail
  have hb := heap_alloc2_old w (.cells (evC 0 0 0 ⟨#[]⟩ ⟨#[]⟩ ⟨#[]⟩) 39) (.cells arr 9)
  refine bodyPost_ret (results_ct Tryd.results23 _ _ w.heap.size _ _ (.bool false) rfl rfl hb Tryd.underlying39 infoEv) rfl ?_
  exact ⟨((Kp.refl _ _).alloc _).alloc _, 0, 0, 0, ⟨#[]⟩, ⟨#[]⟩, ⟨#[]⟩, by rw [HN.out]; rfl, by rw [HN.out]; simp⟩

def strs6 (a b c d e f : ByteArray) : Array Value := #[.string a, .string b, .string c, .string d, .string e, .string f]
theorem heap_alloc_at (W : World) (o : Obj) (n : Nat) (h : n = W.heap.size) : (W.alloc o).heap[n]? = some o := by subst h; exact heap_alloc_new W o
theorem ok01 (P B C q : Bool) (h : q = (P && (decide (0 < 1) || B) && (decide (0 < 2) || C))) : (q && B) = (P && (decide (1 < 1) || B) && (decide (1 < 2) || C)) := by simp at h ⊢; rw [h]
theorem ok12 (P B C q : Bool) (h : q = (P && (decide (1 < 1) || B) && (decide (1 < 2) || C))) : (q && C) = (P && (decide (2 < 1) || B) && (decide (2 < 2) || C)) := by simp at h ⊢; rw [h]
theorem ok2 (P B C q : Bool) (h : q = (P && (decide (2 < 1) || B) && (decide (2 < 2) || C))) : q = (P && B && C) := by simpa using h
theorem kk01 (P D E F q : Bool) (h : q = (P && (decide (0 < 1) || D) && (decide (0 < 2) || E) && (decide (0 < 3) || F))) : (q && D) = (P && (decide (1 < 1) || D) && (decide (1 < 2) || E) && (decide (1 < 3) || F)) := by simp at h ⊢; rw [h]
theorem kk12 (P D E F q : Bool) (h : q = (P && (decide (1 < 1) || D) && (decide (1 < 2) || E) && (decide (1 < 3) || F))) : (q && E) = (P && (decide (2 < 1) || D) && (decide (2 < 2) || E) && (decide (2 < 3) || F)) := by simp at h ⊢; rw [h]
theorem kk23 (P D E F q : Bool) (h : q = (P && (decide (2 < 1) || D) && (decide (2 < 2) || E) && (decide (2 < 3) || F))) : (q && F) = (P && (decide (3 < 1) || D) && (decide (3 < 2) || E) && (decide (3 < 3) || F)) := by simp at h ⊢; rw [h]
theorem kk3 (P D E F q : Bool) (h : q = (P && (decide (3 < 1) || D) && (decide (3 < 2) || E) && (decide (3 < 3) || F))) : q = (P && D && E && F) := by simpa using h
/-- The blocks of tale.event: the result, the pieces, the event, the pointers. -/
structure Ev0 (w : World) (arr : Array Value) (cs : Array Value) (wr : World) : Prop where
  res : wr.heap[w.heap.size]? = some (.cells (evC 0 0 0 ⟨#[]⟩ ⟨#[]⟩ ⟨#[]⟩) 39)
  pcs : wr.heap[w.heap.size + 1]? = some (.cells arr 9)
  ev : wr.heap[w.heap.size + 1 + 1]? = some (.cells cs 39)
  kp : Kp No w wr
theorem Ev0.no {w : World} {arr cs : Array Value} {wr w' : World} (h : Ev0 w arr cs wr) (k : Kp No wr w') : Ev0 w arr cs w' :=
  ⟨(k.block _ (Array.getElem?_eq_some_iff.1 h.res).1 (not_No _)).trans h.res, (k.block _ (Array.getElem?_eq_some_iff.1 h.pcs).1 (not_No _)).trans h.pcs, (k.block _ (Array.getElem?_eq_some_iff.1 h.ev).1 (not_No _)).trans h.ev, h.kp.thenNo k⟩
theorem Ev0.set {w : World} {arr cs : Array Value} {wr : World} (h : Ev0 w arr cs wr) (i : Nat) (v : Value) : Ev0 w arr (cs.setIfInBounds i v) (wr.setCell ⟨w.heap.size + 1 + 1, i, none⟩ v) :=
  ⟨(Below.heap_setCell _ _ _ _ (by simp; omega)).trans h.res, (Below.heap_setCell _ _ _ _ (by simp)).trans h.pcs, heap_st h.ev v, h.kp.setNew (by omega)⟩
def Ev1 (w : World) (arr : Array Value) (da : Nat) (rb rc : Option Int) (k : Nat) (ok : Bool) (wr : World) : Prop :=
  ∃ who n : Int, Ev0 w arr (evC da who n ⟨#[]⟩ ⟨#[]⟩ ⟨#[]⟩) wr ∧ wr.heap[w.heap.size + 1 + 1 + 1]? = some (.cells #[.pointer (some ⟨w.heap.size + 1 + 1, 1, none⟩), .pointer (some ⟨w.heap.size + 1 + 1, 2, none⟩)] 63) ∧
    ok = (decide (0 < da) && (decide (k < 1) || rb.isSome) && (decide (k < 2) || rc.isSome)) ∧ (1 ≤ k → ∀ m, rb = some m → who = m) ∧ (2 ≤ k → ∀ m, rc = some m → n = m)
def Ev2 (w : World) (arr : Array Value) (da : Nat) (who n : Int) (P : Bool) (rd re rf : Option (List UInt8)) (Pb k : Nat) (ok : Bool) (wr : World) : Prop :=
  ∃ t v o : ByteArray, Ev0 w arr (evC da who n t v o) wr ∧ wr.heap[Pb]? = some (.cells #[.pointer (some ⟨w.heap.size + 1 + 1, 3, none⟩), .pointer (some ⟨w.heap.size + 1 + 1, 4, none⟩), .pointer (some ⟨w.heap.size + 1 + 1, 5, none⟩)] 67) ∧
    ok = (P && (decide (k < 1) || rd.isSome) && (decide (k < 2) || re.isSome) && (decide (k < 3) || rf.isSome)) ∧ (1 ≤ k → t = bT (rd.getD [])) ∧ (2 ≤ k → v = bT (re.getD [])) ∧ (3 ≤ k → o = bT (rf.getD []))
theorem ev_end {w wr : World} {da : Nat} {a b c d e f : List UInt8} (hda : Tl.doL a = da) {who n : Int} (hw : ∀ m, Tl.numberL b = some m → who = m) (hn : ∀ m, Tl.numberL c = some m → n = m) {l : List UInt8} (hl : Tl.evL l = Tl.evF a b c d e f) {q : Bool}
    (hq : q = ((decide (0 < da) && (Tl.numberL b).isSome && (Tl.numberL c).isSome) && (Tl.unhexL d).isSome && (Tl.unhexL e).isSome && (Tl.unhexL f).isSome)) (k : Kp No w wr) :
    EvP w (Tl.evL l) (.returned (.tuple #[.agg (evC da who n (bT ((Tl.unhexL d).getD [])) (bT ((Tl.unhexL e).getD [])) (bT ((Tl.unhexL f).getD []))), .bool q])) wr := by
  refine ⟨k, da, who, n, bT ((Tl.unhexL d).getD []), bT ((Tl.unhexL e).getD []), bT ((Tl.unhexL f).getD []), ?_, ?_⟩
  · rw [hl, hq]
    unfold Tl.evF
    rw [hda]
    by_cases h0 : da = 0
    · subst h0; rw [if_pos rfl]; simp
    · rw [if_neg h0]
      have : decide (0 < da) = true := by simp; omega
      rw [this]
      cases Tl.numberL b <;> cases Tl.numberL c <;> cases Tl.unhexL d <;> cases Tl.unhexL e <;> cases Tl.unhexL f <;> rfl
  · intro ev hev
    rw [hl] at hev
    unfold Tl.evF at hev
    rw [hda] at hev
    split at hev
    · cases hev
    · split at hev
      · rename_i x1 x2 x3 x4 x5 h1 h2 h3 h4 h5
        injection hev with hev
        subst hev
        exact ⟨rfl, hw _ h1, hn _ h2, by rw [h3]; rfl, by rw [h4]; rfl, by rw [h5]; rfl⟩
      · cases hev
set_option maxRecDepth 100000 in
set_option maxHeartbeats 4000000 in
theorem event_six (l a b c d e f : List UInt8) (w : World) (E : Env w) (hl : l.length ≤ 1000000) (hsp : Lib.split l [32] = [a, b, c, d, e, f]) (hb : b.length ≤ 1000000) (hc : c.length ≤ 1000000) (hd : d.length ≤ 1000000) (he : e.length ≤ 1000000) (hf : f.length ≤ 1000000) :
    Calls Tryd.prog 23 #[.string (bT l)] w (EvP w (Tl.evL l)) := by
  have HN := Lib.hid (show Tl.evL l = Tl.evF a b c d e f by unfold Tl.evL; rw [hsp])
  have HSP := Lib.hid fun W (k : Kp No w W) => split_c l W (E.kp k) hl
  rw [hsp] at HSP
  have HD := Lib.hid fun W => do_c a W
  have HB := Lib.hid fun W (k : Kp No w W) => number_c b W (E.kp k) hb
  have HC := Lib.hid fun W (k : Kp No w W) => number_c c W (E.kp k) hc
  have HU1 := Lib.hid fun W => unbytes_c d W hd
  have HU2 := Lib.hid fun W => unbytes_c e W he
  have HU3 := Lib.hid fun W => unbytes_c f W hf
  have hdo : ((Tl.doL a : Nat) : Int) ≤ 13 := by
    by_cases h : Tl.doL a = 0
    · omega
    · have := Tl.doL_find a h; omega
  have hdo0 : (0 : Int) ≤ ((Tl.doL a : Nat) : Int) := by omega
  clear hsp hb hc hd he hf E
  generalize hda : Tl.doL a = da at *
  have HDA := Lib.hid hda
  clear hda
  rw [show (List.map (fun x => Value.string (bT x)) [a, b, c, d, e, f]).toArray = strs6 (bT a) (bT b) (bT c) (bT d) (bT e) (bT f) from rfl] at HSP
  generalize bT a = ta at *
  generalize bT b = tb at *
  generalize bT c = tc at *
  generalize bT d = td at *
  generalize bT e = te at *
  generalize bT f = tf at *
  generalize bT l = T at *
  unfold strs6 at HSP
  go_enter Tryd.func23, Tryd.ntmps23
  go_wp2_with fail
  refine (HSP.out _ ((Kp.refl _ _).alloc _)).mono ?_
  rintro en w1 ⟨rfl, rfl⟩
  go_wp2_with fail
  refine (HD.out _).mono ?_
  rintro en w1 ⟨rfl, rfl⟩
  go_wp2_with fail
  have HW0 := Lib.hid (show Ev0 w #[.string ta, .string tb, .string tc, .string td, .string te, .string tf] (evC da 0 0 ⟨#[]⟩ ⟨#[]⟩ ⟨#[]⟩) (((w.alloc (.cells (evC 0 0 0 ⟨#[]⟩ ⟨#[]⟩ ⟨#[]⟩) 39)).alloc (.cells #[.string ta, .string tb, .string tc, .string td, .string te, .string tf] 9)).alloc (.cells (evC da 0 0 ⟨#[]⟩ ⟨#[]⟩ ⟨#[]⟩) 39)) from
    ⟨(Below.heap_alloc _ _ _ (by simp; omega)).trans (heap_alloc2_old _ _ _), (Below.heap_alloc _ _ _ (by simp)).trans (heap_alloc2_new _ _ _), heap_alloc_at _ _ _ (by simp), ((((Kp.refl _ _).alloc _).alloc _).alloc _)⟩)
  go_loopw [33, 6] (fun i ok wr => ∃ (k : Nat) (q : Bool), k ≤ 2 ∧ i = .int .i64 k ∧ ok = .bool q ∧ Ev1 w #[.string ta, .string tb, .string tc, .string td, .string te, .string tf] da (Tl.numberL b) (Tl.numberL c) k q wr) (fun i _ _ => 2 - (intOf i).toNat)
  case atStart => exact ⟨0, _, by omega, rfl, rfl, 0, 0, HW0.out.no ((Kp.refl _ _).alloc _), heap_alloc_at _ _ _ (by simp), by simp, by simp, by simp⟩
  case round =>
    obtain ⟨k, q, hk, rfl, rfl, who, n, hev, hpt, hok, hwho, hn⟩ := hrel
    have HEV := Lib.hid hev
    have HPT := Lib.hid hpt
    have HOK := Lib.hid hok
    have HWH := Lib.hid hwho
    have HNN := Lib.hid hn
    obtain ⟨fs, _⟩ := row_fs hev.pcs
    obtain ⟨fp, _⟩ := row_fs hpt
    clear hev hpt hok hwho hn HW0
    by_cases hk2 : k = 2
    · subst hk2
      rw [show ((2 : Nat) : Int) = 2 from rfl]
      have HQ := Lib.hid (ok2 _ _ _ _ HOK.out)
      have HW2 := Lib.hid (HWH.out (by omega))
      have HN2 := Lib.hid (HNN.out (by omega))
      have hxs : w.heap.size + 1 + 1 < wr.heap.size := (Array.getElem?_eq_some_iff.1 HEV.out.ev).1
      clear HOK HWH HNN fs fp HB HC HD HSP
      obtain ⟨wo, rfl⟩ : ∃ wo : World, wo = wr := ⟨_, rfl⟩
      go_wp2_with fail
      go_loopw [60, 6] (fun i ok wx => ∃ (k : Nat) (q2 : Bool), k ≤ 3 ∧ i = .int .i64 k ∧ ok = .bool q2 ∧ Ev2 w #[.string ta, .string tb, .string tc, .string td, .string te, .string tf] da who n q (Tl.unhexL d) (Tl.unhexL e) (Tl.unhexL f) wo.heap.size k q2 wx) (fun i _ _ => 3 - (intOf i).toNat)
      case atStart => exact ⟨0, _, by omega, rfl, rfl, ⟨#[]⟩, ⟨#[]⟩, ⟨#[]⟩, HEV.out.no ((Kp.refl _ _).alloc _), heap_alloc_new _ _, by simp, by simp, by simp, by simp⟩
      case round =>
        obtain ⟨k, q2, hk, rfl, rfl, t, v, o, hev, hpt, hok, h1, h2, h3⟩ := hrel
        have HEV2 := Lib.hid hev
        have HPT2 := Lib.hid hpt
        have HOK2 := Lib.hid hok
        have H1 := Lib.hid h1
        have H2 := Lib.hid h2
        have H3 := Lib.hid h3
        obtain ⟨fs, _⟩ := row_fs hev.pcs
        obtain ⟨fp, _⟩ := row_fs hpt
        obtain ⟨fe0, ze0⟩ := row_fs hev.ev
        have hne : w.heap.size + 1 + 1 ≠ wo.heap.size := by omega
        have hne2 : wo.heap.size ≠ w.heap.size + 1 + 1 := by omega
        clear hev hpt hok h1 h2 h3
        by_cases hk3 : k = 3
        · subst hk3
          have HFIN := Lib.hid (ev_end HDA.out HW2.out HN2.out HN.out (show q2 = _ from by rw [kk3 _ _ _ _ _ HOK2.out, HQ.out]) HEV2.out.kp)
          rw [← H1.out (by omega), ← H2.out (by omega), ← H3.out (by omega)] at HFIN
          clear fs fp fe0 ze0 HU1 HU2 HU3 H1 H2 H3 HOK2
          go_wp2_with (first
            | (refine load_ev (g := w.heap.size + 1 + 1) HEV2.out.ev (.tmp 5) rfl ?_ rfl ?_; (first | rfl | go_simp))
            | (refine store_ev (g := w.heap.size) (d := da) (who := who) (n := n) (t := t) (v := v) (o' := o) HEV2.out.res rfl rfl (.tmp 2) (.tmp 82) rfl rfl rfl rfl ?_; intro wA hbA hkA))
          refine bodyPost_ret (results_ct Tryd.results23 _ _ w.heap.size _ _ (.bool q2) rfl rfl hbA Tryd.underlying39 infoEv) rfl ?_
          obtain ⟨hkk, d', who', n', t', v', o', h1, h2⟩ := HFIN.out
          exact ⟨hkk.trans hkA (fun i hi e => by simp only [One] at e; omega), d', who', n', t', v', o', h1, h2⟩
        · have hk012 : k = 0 ∨ k = 1 ∨ k = 2 := by omega
          clear fe0 ze0
          rcases hk012 with rfl | rfl | rfl
          · cases q2
            all_goals
              go_wp2_with fail
              refine (HU1.out _).mono ?_
              rintro en w1 ⟨hk1, rfl⟩
              have HE1 := Lib.hid (HEV2.out.no hk1)
              have HP1 := Lib.hid ((hk1.block _ (Array.getElem?_eq_some_iff.1 HPT2.out).1 (not_No _)).trans HPT2.out)
              obtain ⟨fe, ze⟩ := row_fs HE1.out.ev
              clear hk1
              go_wp2_with fail
              go_roundw
              case rel => exact ⟨1, _, by omega, by go_num, rfl, _, v, o, HE1.out.set 3 _, (Below.heap_setCell _ _ _ _ hne2).trans HP1.out, kk01 _ _ _ _ _ HOK2.out, fun _ => rfl, by omega, by omega⟩
              case measure => simp [intOf]
          · cases q2
            all_goals
              go_wp2_with fail
              refine (HU2.out _).mono ?_
              rintro en w1 ⟨hk1, rfl⟩
              have HE1 := Lib.hid (HEV2.out.no hk1)
              have HP1 := Lib.hid ((hk1.block _ (Array.getElem?_eq_some_iff.1 HPT2.out).1 (not_No _)).trans HPT2.out)
              obtain ⟨fe, ze⟩ := row_fs HE1.out.ev
              clear hk1
              go_wp2_with fail
              go_roundw
              case rel => exact ⟨2, _, by omega, by go_num, rfl, t, _, o, HE1.out.set 4 _, (Below.heap_setCell _ _ _ _ hne2).trans HP1.out, kk12 _ _ _ _ _ HOK2.out, fun _ => H1.out (by omega), fun _ => rfl, by omega⟩
              case measure => simp [intOf]
          · cases q2
            all_goals
              go_wp2_with fail
              refine (HU3.out _).mono ?_
              rintro en w1 ⟨hk1, rfl⟩
              have HE1 := Lib.hid (HEV2.out.no hk1)
              have HP1 := Lib.hid ((hk1.block _ (Array.getElem?_eq_some_iff.1 HPT2.out).1 (not_No _)).trans HPT2.out)
              obtain ⟨fe, ze⟩ := row_fs HE1.out.ev
              clear hk1
              go_wp2_with fail
              go_roundw
              case rel => exact ⟨3, _, by omega, by go_num, rfl, t, v, _, HE1.out.set 5 _, (Below.heap_setCell _ _ _ _ hne2).trans HP1.out, kk23 _ _ _ _ _ HOK2.out, fun _ => H1.out (by omega), fun _ => H2.out (by omega), fun _ => rfl⟩
              case measure => simp [intOf]
    · have hk01 : k = 0 ∨ k = 1 := by omega
      rcases hk01 with rfl | rfl
      · cases q
        all_goals
          go_wp2_with fail
          refine (HB.out _ HEV.out.kp).mono ?_
          rintro en w1 ⟨hk1, m, rfl, hm⟩
          have HM := Lib.hid hm
          have HE1 := Lib.hid (HEV.out.no hk1)
          have HP1 := Lib.hid ((hk1.block _ (Array.getElem?_eq_some_iff.1 HPT.out).1 (not_No _)).trans HPT.out)
          obtain ⟨fe, ze⟩ := row_fs HE1.out.ev
          clear hm hk1
          go_wp2_with fail
          go_roundw
          case rel => exact ⟨1, _, by omega, by go_num, rfl, m, n, HE1.out.set 1 _, (Below.heap_setCell _ _ _ _ (by simp)).trans HP1.out, ok01 _ _ _ _ HOK.out, fun _ => HM.out, by omega⟩
          case measure => simp [intOf]
      · cases q
        all_goals
          go_wp2_with fail
          refine (HC.out _ HEV.out.kp).mono ?_
          rintro en w1 ⟨hk1, m, rfl, hm⟩
          have HM := Lib.hid hm
          have HE1 := Lib.hid (HEV.out.no hk1)
          have HP1 := Lib.hid ((hk1.block _ (Array.getElem?_eq_some_iff.1 HPT.out).1 (not_No _)).trans HPT.out)
          obtain ⟨fe, ze⟩ := row_fs HE1.out.ev
          clear hm hk1
          go_wp2_with fail
          go_roundw
          case rel => exact ⟨2, _, by omega, by go_num, rfl, who, m, HE1.out.set 2 _, (Below.heap_setCell _ _ _ _ (by simp)).trans HP1.out, ok12 _ _ _ _ HOK.out, fun _ => HWH.out (by omega), fun _ => HM.out⟩
          case measure => simp [intOf]

theorem event_c (l : List UInt8) (w : World) (E : Env w) (hl : l.length ≤ 1000000) : Calls Tryd.prog 23 #[.string (bT l)] w (EvP w (Tl.evL l)) := by
  have hlen : (Lib.split l [32]).length ≤ 1000001 := by
    have h1 := (pieces l).2
    have h2 := Lib.countB_le (bT [32]) (by rw [bT_size]; simp) (bT l).size (bT l) (Nat.le_refl _)
    rw [bT_size] at h2
    omega
  by_cases h : (Lib.split l [32]).length = 6
  · have hj := Tl.join_split 32 l.length l (Nat.le_refl _)
    generalize hs : Lib.split l [32] = F at *
    rcases F with _ | ⟨a, _ | ⟨b, _ | ⟨c, _ | ⟨d, _ | ⟨e, _ | ⟨f, _ | ⟨g, r⟩⟩⟩⟩⟩⟩⟩
    all_goals try (simp at h; done)
    have hk := congrArg List.length hj
    simp only [Lib.join_cons, Lib.joinTail, List.map_cons, List.map_nil, List.flatten_cons, List.flatten_nil, List.length_append, List.length_cons, List.length_nil] at hk
    exact event_six l a b c d e f w E hl hs (by omega) (by omega) (by omega) (by omega) (by omega)
  · exact event_few l w E hl h hlen

end Go.Proofs.YtekgojolfckiiaaDoor
