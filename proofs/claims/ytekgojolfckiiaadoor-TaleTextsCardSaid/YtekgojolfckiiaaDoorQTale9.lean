/- The law side: Small. -/
import Derived.Test.YtekgojolfckiiaaDoorQTale8
import Derived.BigQuiet
import Derived.StillTailTactics
set_option linter.unusedVariables false
set_option linter.unusedSimpArgs false
namespace Go.Proofs.YtekgojolfckiiaaDoor
open Go.RowKit

def shortE (e : Tl.Ev) : Prop := e.text.length ≤ 140737488355328 ∧ e.val.length ≤ 140737488355328 ∧ e.to_.length ≤ 140737488355328
theorem wrapS (n : Int) (h0 : -9223372036854775808 ≤ n) (h1 : n ≤ 9223372036854775807) : IntKind.i64.wrap n = n := by rw [IntKind.wrap_i64]; omega
set_option maxRecDepth 100000 in
set_option maxHeartbeats 2000000 in
theorem small_c (es : List Tl.Ev) (most : Nat) (hmost : most ≤ 1000) (A : Option Addr) (c : Nat) (w : World) (hs : SrcF 6 evL_ (· < w.heap.size) w A es.length es) (hl : es.length ≤ 140737488355328) (hb : ∀ e ∈ es, shortE e) :
    Calls Tryd.prog 7 #[.slice A es.length c, .int .i64 most] w fun e w' => e = .returned (.bool (smallB es most)) ∧ Kp No w w' := by
  have HS := Lib.hid hs
  have HB := Lib.hid hb
  clear hs hb
  go_enter Tryd.func7, Tryd.ntmps7
  go_wp2_with fail
  go_loopw [5] (fun i wr => ∃ k : Nat, k ≤ es.length ∧ i = .int .i64 k ∧ (∀ j, j < k → badAt es most j = false) ∧ Kp No w wr) (fun i _ => es.length - (intOf i).toNat)
  case atStart => exact ⟨0, Nat.zero_le _, rfl, by omega, Kp.refl _ _⟩
  case round =>
    obtain ⟨k, hk, rfl, hbad, hkp⟩ := hrel
    have HK := Lib.hid hkp
    have HBD := Lib.hid hbad
    clear hkp hbad
    by_cases hlt : k < es.length
    · have hx : es[k]? = some es[k] := List.getElem?_eq_getElem hlt
      have hmem : es[k] ∈ es := List.getElem_mem hlt
      have HSB := Lib.hid fun h => small_bad (es := es) (most := most) hlt h
      generalize es[k] = e at hx hmem
      obtain ⟨g, off, rfl, hg, hcell⟩ := HS.out.2.2 (by omega)
      have f3 : wr.cell? ⟨g, off + k * 6 + 3, none⟩ = some (.string (bT e.text)) := (HK.out.cell _ _ hg (not_No _)).trans (by rw [Nat.add_assoc]; exact hcell k e hx 3 _ rfl)
      have f4 : wr.cell? ⟨g, off + k * 6 + 4, none⟩ = some (.string (bT e.val)) := (HK.out.cell _ _ hg (not_No _)).trans (by rw [Nat.add_assoc]; exact hcell k e hx 4 _ rfl)
      have f5 : wr.cell? ⟨g, off + k * 6 + 5, none⟩ = some (.string (bT e.to_)) := (HK.out.cell _ _ hg (not_No _)).trans (by rw [Nat.add_assoc]; exact hcell k e hx 5 _ rfl)
      have hsh := HB.out e hmem
      unfold shortE at hsh
      have HBA := Lib.hid (show badAt es most k = (decide (most ≤ k) || decide (2000 < e.text.length + e.val.length + e.to_.length)) by unfold badAt; rw [hx])
      rw [← bT_size e.text, ← bT_size e.val, ← bT_size e.to_] at hsh HBA
      generalize bT e.text = T at *
      generalize bT e.val = V at *
      generalize bT e.to_ = O at *
      clear hx hmem hg hcell
      have hw1 := wrapS ((T.size : Int) + V.size) (by omega) (by omega)
      have hw2 := wrapS ((T.size : Int) + V.size + O.size) (by omega) (by omega)
      by_cases hm : most ≤ k
      · go_wp2_with fail
        go_quiet (fail)
        go_wp2_with fail
        have HR := Lib.hid (show smallB es most = false from HSB.out (by rw [HBA.out]; simp [hm]))
        go_ret
        exact ⟨by rw [HR.out]; rfl, HK.out.drewN _⟩
      · have hm2 : decide (most ≤ k) = false := by simpa using hm
        by_cases hd : 2000 < T.size + V.size + O.size
        · have HR := Lib.hid (show smallB es most = false from HSB.out (by rw [HBA.out]; simp [hd]))
          have hdi : (2000 : Int) < (T.size : Int) + V.size + O.size := by omega
          go_wp2_with fail
          go_quiet (fail)
          go_wp2_with fail
          go_ret
          exact ⟨by rw [HR.out]; rfl, HK.out.drewN _⟩
        · have HR := Lib.hid (show badAt es most k = false by rw [HBA.out]; simp; omega)
          have hdi : ¬ (2000 : Int) < (T.size : Int) + V.size + O.size := by omega
          go_wp2_with fail
          go_quiet (fail)
          go_wp2_with fail
          go_roundw
          case rel => exact ⟨k + 1, by omega, by go_num, fun j hj => by
            rcases Nat.lt_or_ge j k with h | h
            · exact HBD.out j h
            · obtain rfl : j = k := by omega
              exact HR.out, HK.out.drewN _⟩
          case measure => simp [intOf]; omega
    · obtain rfl : k = es.length := by omega
      have HR := Lib.hid (small_ok HBD.out)
      go_wp2_with fail
      go_ret
      exact ⟨by rw [HR.out]; rfl, HK.out⟩

end Go.Proofs.YtekgojolfckiiaaDoor
