/- The law side: same (of like rows). -/
import Derived.Test.YtekgojolfckiiaaDoorQTale10
import Derived.Deep.RegionHeld3
set_option linter.unusedVariables false
set_option linter.unusedSimpArgs false
namespace Go.Proofs.YtekgojolfckiiaaDoor
open Go.RowKit

abbrev EvG (g p : Nat) (d who n : Int) (t v o : ByteArray) (W : World) : Prop :=
  W.cell? ⟨g, p, none⟩ = some (.int .i64 d) ∧ W.cell? ⟨g, p + 1, none⟩ = some (.int .i64 who) ∧ W.cell? ⟨g, p + 2, none⟩ = some (.int .i64 n) ∧ W.cell? ⟨g, p + 3, none⟩ = some (.string t) ∧ W.cell? ⟨g, p + 4, none⟩ = some (.string v) ∧ W.cell? ⟨g, p + 5, none⟩ = some (.string o)
theorem evG_kp {g p : Nat} {d who n : Int} {t v o : ByteArray} {a b : World} (h : EvG g p d who n t v o a) (k : Kp No a b) : EvG g p d who n t v o b :=
  ⟨cellK k (not_No _) h.1, cellK k (not_No _) h.2.1, cellK k (not_No _) h.2.2.1, cellK k (not_No _) h.2.2.2.1, cellK k (not_No _) h.2.2.2.2.1, cellK k (not_No _) h.2.2.2.2.2⟩
theorem evG_at {w : World} {g off k : Nat} {es : List Tl.Ev} {e : Tl.Ev} (hc : ∀ i x, es[i]? = some x → ∀ j u, (evL_ x)[j]? = some u → w.cell? ⟨g, off + (i * 6 + j), none⟩ = some u) (h : es[k]? = some e) : EvG g (off + k * 6) e.doo e.who e.n (bT e.text) (bT e.val) (bT e.to_) w :=
  ⟨by simpa using hc k e h 0 _ rfl, by rw [Nat.add_assoc]; exact hc k e h 1 _ rfl, by rw [Nat.add_assoc]; exact hc k e h 2 _ rfl, by rw [Nat.add_assoc]; exact hc k e h 3 _ rfl, by rw [Nat.add_assoc]; exact hc k e h 4 _ rfl, by rw [Nat.add_assoc]; exact hc k e h 5 _ rfl⟩
abbrev SmS (w : World) (g p h q : Nat) (d who n : Int) (t v o : ByteArray) (W : World) : Prop := EvG g p d who n t v o W ∧ EvG h q d who n t v o W ∧ Hid (Kp No w W)
theorem smK {w : World} {g p h q : Nat} {d who n : Int} {t v o : ByteArray} {a b : World} (s : SmS w g p h q d who n t v o a) (k : Kp No a b) : SmS w g p h q d who n t v o b := ⟨evG_kp s.1 k, evG_kp s.2.1 k, Lib.hid (s.2.2.out.thenNo k)⟩
set_option maxRecDepth 100000 in
set_option maxHeartbeats 4000000 in
theorem same_c (es : List Tl.Ev) (A B : Option Addr) (c1 c2 : Nat) (w : World) (ha : SrcF 6 evL_ (· < w.heap.size) w A es.length es) (hb : SrcF 6 evL_ (· < w.heap.size) w B es.length es) (hl : es.length ≤ 10001) :
    Calls Tryd.prog 12 #[.slice A es.length c1, .slice B es.length c2] w fun e w' => e = .returned (.bool true) ∧ Kp No w w' := by
  have HA := Lib.hid ha
  have HB := Lib.hid hb
  clear ha hb
  go_enter Tryd.func12, Tryd.ntmps12
  go_wp2_with fail
  go_loopw [5] (fun i wr => ∃ k : Nat, k ≤ es.length ∧ i = .int .i64 k ∧ Kp No w wr) (fun i _ => es.length - (intOf i).toNat)
  case atStart => exact ⟨0, Nat.zero_le _, rfl, Kp.refl _ _⟩
  case round =>
    obtain ⟨k, hk, rfl, hkp⟩ := hrel
    have HK := Lib.hid hkp
    clear hkp
    by_cases hlt : k < es.length
    · have hx : es[k]? = some es[k] := List.getElem?_eq_getElem hlt
      generalize es[k] = e at hx
      obtain ⟨g, off, rfl, hg, hcell⟩ := HA.out.2.2 (by omega)
      obtain ⟨h, off2, rfl, hh, hcell2⟩ := HB.out.2.2 (by omega)
      have hS : SmS w g (off + k * 6) h (off2 + k * 6) e.doo e.who e.n (bT e.text) (bT e.val) (bT e.to_) wr := ⟨evG_kp (evG_at hcell hx) HK.out, evG_kp (evG_at hcell2 hx) HK.out, HK⟩
      have HM := Lib.hid fun W => made1_c e.doo e.who e.n (bT e.text) (bT e.val) (bT e.to_) W
      unfold evC at HM
      clear hx hg hh hcell hcell2
      obtain ⟨d, who, n, t, v, o⟩ := e
      simp only at hS HM
      generalize bT t = TX at *
      generalize bT v = TV at *
      generalize bT o = TO at *
      go_wp2_with fail
      go_region_held3 (fun W => (W.cell? ⟨g, off + k * 6, none⟩ = some (.int .i64 d) ∧ W.cell? ⟨g, off + k * 6 + 1, none⟩ = some (.int .i64 who) ∧ W.cell? ⟨g, off + k * 6 + 2, none⟩ = some (.int .i64 n) ∧ W.cell? ⟨g, off + k * 6 + 3, none⟩ = some (.string TX) ∧ W.cell? ⟨g, off + k * 6 + 4, none⟩ = some (.string TV) ∧ W.cell? ⟨g, off + k * 6 + 5, none⟩ = some (.string TO)) ∧
        (W.cell? ⟨h, off2 + k * 6, none⟩ = some (.int .i64 d) ∧ W.cell? ⟨h, off2 + k * 6 + 1, none⟩ = some (.int .i64 who) ∧ W.cell? ⟨h, off2 + k * 6 + 2, none⟩ = some (.int .i64 n) ∧ W.cell? ⟨h, off2 + k * 6 + 3, none⟩ = some (.string TX) ∧ W.cell? ⟨h, off2 + k * 6 + 4, none⟩ = some (.string TV) ∧ W.cell? ⟨h, off2 + k * 6 + 5, none⟩ = some (.string TO)) ∧ Hid (Kp No w W))
        ((first
          | assumption
          | (refine smK (w := w) (g := g) (p := off + k * 6) (h := h) (q := off2 + k * 6) (d := d) (who := who) (n := n) (t := TX) (v := TV) (o := TO) (by assumption) ?_; (first | assumption | exact (Kp.refl _ _).drew))))
        ((first
          | (go_at_call 21; refine (HM.out _).mono ?_; rintro en wx ⟨rfl, hk⟩)))
      have hfin : Kp No w wx := (show SmS w g (off + k * 6) h (off2 + k * 6) d who n TX TV TO wx by assumption).2.2.out
      clear HM hS
      go_wp2_with fail
      go_roundw
      case rel => exact ⟨k + 1, by omega, by go_num, hfin⟩
      case measure => simp [intOf]; omega
    · obtain rfl : k = es.length := by omega
      go_wp2_with fail
      go_ret
      exact ⟨rfl, HK.out⟩

end Go.Proofs.YtekgojolfckiiaaDoor
