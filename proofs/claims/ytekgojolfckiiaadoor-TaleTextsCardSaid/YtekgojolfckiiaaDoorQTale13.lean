/- The law side: line. -/
import Derived.Test.YtekgojolfckiiaaDoorQTale12
set_option linter.unusedVariables false
set_option linter.unusedSimpArgs false
namespace Go.Proofs.YtekgojolfckiiaaDoor
open Go.RowKit

theorem wordL_nil {d : Int} (h : Tl.wordL d = []) : d < 1 ∨ 13 < d := by
  by_cases hd : 1 ≤ d ∧ d ≤ 13
  · exfalso
    unfold Tl.wordL at h
    rw [if_pos hd] at h
    exact Tl.wordsL_ne ⟨d.toNat, by omega⟩ (by simp only; omega) h
  · omega
set_option maxRecDepth 100000 in
theorem line_no (e : Tl.Ev) (h : Tl.okE e = false) (w : World) : Calls Tryd.prog 8 #[.agg (evA e)] w (RetS w []) := by
  have hbad : e.doo < 1 ∨ (1 ≤ e.doo ∧ 13 < e.doo) ∨ (1 ≤ e.doo ∧ e.doo ≤ 13 ∧ e.who < 0) ∨ (1 ≤ e.doo ∧ e.doo ≤ 13 ∧ 0 ≤ e.who ∧ e.n < 0) := by
    have hno : ¬ (Tl.okE e = true) := by rw [h]; decide
    rw [Tl.okE_iff] at hno
    by_cases h1 : Tl.wordL e.doo = []
    · have := wordL_nil h1; omega
    · by_cases hw : 1 ≤ e.doo ∧ e.doo ≤ 13
      · by_cases h2 : 0 ≤ e.who
        · by_cases h3 : 0 ≤ e.n
          · exact absurd ⟨h1, h2, h3⟩ hno
          · omega
        · omega
      · omega
  obtain ⟨d, who, n, t, v, o⟩ := e
  simp only at hbad
  clear h
  unfold evA evC
  simp only
  have hst : (.string ⟨#[]⟩ : Value) = .string (bT []) := rfl
  rcases hbad with h1 | ⟨h1, h2⟩ | ⟨h1, h2, h3⟩ | ⟨h1, h2, h3, h4⟩
  all_goals
    go_enter Tryd.func8, Tryd.ntmps8
    go_wp2_with fail
    go_ret
    exact ⟨rfl, ((Kp.refl _ _).alloc _).alloc _⟩
def wordsArr : Array Value := #[.string ⟨#[]⟩, .string ⟨#[100, 101, 108, 105, 118, 101, 114]⟩, .string ⟨#[108, 111, 115, 101]⟩, .string ⟨#[99, 111, 112, 121]⟩, .string ⟨#[116, 105, 99, 107]⟩, .string ⟨#[99, 114, 97, 115, 104]⟩, .string ⟨#[115, 116, 97, 114, 116]⟩, .string ⟨#[112, 117, 116]⟩, .string ⟨#[100, 101, 108, 101, 116, 101]⟩, .string ⟨#[103, 101, 116]⟩, .string ⟨#[112, 97, 103, 101]⟩, .string ⟨#[115, 112, 108, 105, 116]⟩, .string ⟨#[109, 101, 114, 103, 101]⟩, .string ⟨#[109, 111, 118, 101]⟩]
theorem words_at : ∀ k, k < 14 → wordsArr[k]? = some (.string (bT (Tl.wordsL.getD k []))) := by
  intro k hk
  rcases k with _ | _ | _ | _ | _ | _ | _ | _ | _ | _ | _ | _ | _ | _ | k
  all_goals first | rfl | omega

abbrev LnS (w : World) (d wn nn : Nat) (wd tx vl to_ : ByteArray) (W : World) : Prop :=
  W.cell? ⟨w.heap.size, 0, none⟩ = some (.int .i64 d) ∧ W.cell? ⟨w.heap.size, 1, none⟩ = some (.int .i64 wn) ∧ W.cell? ⟨w.heap.size, 2, none⟩ = some (.int .i64 nn) ∧ W.cell? ⟨w.heap.size, 3, none⟩ = some (.string tx) ∧ W.cell? ⟨w.heap.size, 4, none⟩ = some (.string vl) ∧ W.cell? ⟨w.heap.size, 5, none⟩ = some (.string to_) ∧
  W.cell? ⟨w.heap.size + 1, d, none⟩ = some (.string wd) ∧ Hid (Kp No w W)
theorem lnK {w : World} {d wn nn : Nat} {wd tx vl to_ : ByteArray} {a b : World} (h : LnS w d wn nn wd tx vl to_ a) (k : Kp No a b) : LnS w d wn nn wd tx vl to_ b :=
  ⟨cellK k (not_No _) h.1, cellK k (not_No _) h.2.1, cellK k (not_No _) h.2.2.1, cellK k (not_No _) h.2.2.2.1, cellK k (not_No _) h.2.2.2.2.1, cellK k (not_No _) h.2.2.2.2.2.1, cellK k (not_No _) h.2.2.2.2.2.2.1, Lib.hid (h.2.2.2.2.2.2.2.out.thenNo k)⟩
set_option maxRecDepth 100000 in
set_option maxHeartbeats 4000000 in
theorem line_ok (d wn nn : Nat) (tl vl ol : List UInt8) (hd1 : 1 ≤ d) (hd2 : d ≤ 13) (hw : wn ≤ 9223372036854775807) (hn : nn ≤ 9223372036854775807) (ht : tl.length ≤ 1000000) (hv : vl.length ≤ 1000000) (ho : ol.length ≤ 1000000) (w : World) :
    Calls Tryd.prog 8 #[.agg (evC d wn nn (bT tl) (bT vl) (bT ol))] w (RetS w (Tl.lineL ⟨d, wn, nn, tl, vl, ol⟩)) := by
  have hWL : Tl.wordL (d : Int) = Tl.wordsL.getD d [] := by unfold Tl.wordL; rw [if_pos (by omega)]; simp
  have HFIN := Lib.hid (show bT (Tl.wordsL.getD d []) ++ ⟨#[32]⟩ ++ bT (Lib.decDigits wn) ++ ⟨#[32]⟩ ++ bT (Lib.decDigits nn) ++ ⟨#[32]⟩ ++ bT (Tl.hexL (bT tl).data.toList) ++ ⟨#[32]⟩ ++ bT (Tl.hexL (bT vl).data.toList) ++ ⟨#[32]⟩ ++ bT (Tl.hexL (bT ol).data.toList) ++ ⟨#[10]⟩ = bT (Tl.lineL ⟨d, wn, nn, tl, vl, ol⟩) from by
    rw [Tl.lineL_eq, Tl.bodyL_eq]
    simp only [hWL, Lib.itoa_nonneg, bT_list]
    apply ByteArray.ext
    simp [bT])
  have HD := Lib.hid fun W (k : Nat) (hk : k = wn ∨ k = nn) => dec_c k W (by omega)
  have HX := Lib.hid fun W (s : ByteArray) (hs : s = bT tl ∨ s = bT vl ∨ s = bT ol) => lhex_c s W (by rcases hs with rfl | rfl | rfl <;> rw [bT_size] <;> assumption)
  have l1 : (bT (Lib.decDigits wn)).size ≤ 20 := by rw [bT_size, Lib.decDigits_length]; have := Tl.nDigits_le 18 wn (by omega); omega
  have l2 : (bT (Lib.decDigits nn)).size ≤ 20 := by rw [bT_size, Lib.decDigits_length]; have := Tl.nDigits_le 18 nn (by omega); omega
  have l3 : (bT (Tl.hexL (bT tl).data.toList)).size ≤ 2000001 := by rw [bT_size, bT_list, Tl.hexL_len]; omega
  have l4 : (bT (Tl.hexL (bT vl).data.toList)).size ≤ 2000001 := by rw [bT_size, bT_list, Tl.hexL_len]; omega
  have l5 : (bT (Tl.hexL (bT ol).data.toList)).size ≤ 2000001 := by rw [bT_size, bT_list, Tl.hexL_len]; omega
  have l0 : (bT (Tl.wordsL.getD d [])).size ≤ 7 := by rw [bT_size, ← hWL]; exact wordL_len _
  have HWA := Lib.hid (words_at d (by omega))
  clear hWL ht hv ho
  generalize bT tl = TX at *
  generalize bT vl = TV at *
  generalize bT ol = TO at *
  have z1 : ¬ 9223372036854775807 < (bT (Tl.wordsL.getD d [])).size + 1 := by omega
  have z2 : ¬ 9223372036854775807 < (bT (Tl.wordsL.getD d [])).size + 1 + (bT (Lib.decDigits wn)).size := by omega
  have z3 : ¬ 9223372036854775807 < (bT (Tl.wordsL.getD d [])).size + 1 + (bT (Lib.decDigits wn)).size + 1 := by omega
  have z4 : ¬ 9223372036854775807 < (bT (Tl.wordsL.getD d [])).size + 1 + (bT (Lib.decDigits wn)).size + 1 + (bT (Lib.decDigits nn)).size := by omega
  have z5 : ¬ 9223372036854775807 < (bT (Tl.wordsL.getD d [])).size + 1 + (bT (Lib.decDigits wn)).size + 1 + (bT (Lib.decDigits nn)).size + 1 := by omega
  have z6 : ¬ 9223372036854775807 < (bT (Tl.wordsL.getD d [])).size + 1 + (bT (Lib.decDigits wn)).size + 1 + (bT (Lib.decDigits nn)).size + 1 + (bT (Tl.hexL TX.data.toList)).size := by omega
  have z7 : ¬ 9223372036854775807 < (bT (Tl.wordsL.getD d [])).size + 1 + (bT (Lib.decDigits wn)).size + 1 + (bT (Lib.decDigits nn)).size + 1 + (bT (Tl.hexL TX.data.toList)).size + 1 := by omega
  have z8 : ¬ 9223372036854775807 < (bT (Tl.wordsL.getD d [])).size + 1 + (bT (Lib.decDigits wn)).size + 1 + (bT (Lib.decDigits nn)).size + 1 + (bT (Tl.hexL TX.data.toList)).size + 1 + (bT (Tl.hexL TV.data.toList)).size := by omega
  have z9 : ¬ 9223372036854775807 < (bT (Tl.wordsL.getD d [])).size + 1 + (bT (Lib.decDigits wn)).size + 1 + (bT (Lib.decDigits nn)).size + 1 + (bT (Tl.hexL TX.data.toList)).size + 1 + (bT (Tl.hexL TV.data.toList)).size + 1 := by omega
  have z10 : ¬ 9223372036854775807 < (bT (Tl.wordsL.getD d [])).size + 1 + (bT (Lib.decDigits wn)).size + 1 + (bT (Lib.decDigits nn)).size + 1 + (bT (Tl.hexL TX.data.toList)).size + 1 + (bT (Tl.hexL TV.data.toList)).size + 1 + (bT (Tl.hexL TO.data.toList)).size := by omega
  have z11 : ¬ 9223372036854775807 < (bT (Tl.wordsL.getD d [])).size + 1 + (bT (Lib.decDigits wn)).size + 1 + (bT (Lib.decDigits nn)).size + 1 + (bT (Tl.hexL TX.data.toList)).size + 1 + (bT (Tl.hexL TV.data.toList)).size + 1 + (bT (Tl.hexL TO.data.toList)).size + 1 := by omega
  have q1 : (1 : Int) ≤ d := by omega
  have q2 : (d : Int) ≤ 13 := by omega
  have q3 : (d : Int) < 14 := by omega
  have hW0 : LnS w d wn nn (bT (Tl.wordsL.getD d [])) TX TV TO ((w.alloc (.cells #[.int .i64 d, .int .i64 wn, .int .i64 nn, .string TX, .string TV, .string TO] 27)).alloc (.cells wordsArr 9)) :=
    ⟨(cell_old _ _ (by simp)).trans (cell_new _ _ _ 0), (cell_old _ _ (by simp)).trans (cell_new _ _ _ 1), (cell_old _ _ (by simp)).trans (cell_new _ _ _ 2), (cell_old _ _ (by simp)).trans (cell_new _ _ _ 3), (cell_old _ _ (by simp)).trans (cell_new _ _ _ 4), (cell_old _ _ (by simp)).trans (cell_new _ _ _ 5),
      (by have := cell_new (w.alloc (.cells #[.int .i64 d, .int .i64 wn, .int .i64 nn, .string TX, .string TV, .string TO] 27)) wordsArr 9 d
          rw [HWA.out] at this
          simpa using this), Lib.hid (((Kp.refl _ _).alloc _).alloc _)⟩
  unfold wordsArr at hW0
  clear HWA l0 l1 l2 l3 l4 l5
  unfold evC
  generalize bT (Tl.wordsL.getD d []) = WD at *
  go_enter Tryd.func8, Tryd.ntmps8
  go_wp2_with fail
  generalize ((w.alloc (.cells #[.int .i64 d, .int .i64 wn, .int .i64 nn, .string TX, .string TV, .string TO] 27)).alloc (.cells #[.string ⟨#[]⟩, .string ⟨#[100, 101, 108, 105, 118, 101, 114]⟩, .string ⟨#[108, 111, 115, 101]⟩, .string ⟨#[99, 111, 112, 121]⟩, .string ⟨#[116, 105, 99, 107]⟩, .string ⟨#[99, 114, 97, 115, 104]⟩, .string ⟨#[115, 116, 97, 114, 116]⟩, .string ⟨#[112, 117, 116]⟩, .string ⟨#[100, 101, 108, 101, 116, 101]⟩, .string ⟨#[103, 101, 116]⟩, .string ⟨#[112, 97, 103, 101]⟩, .string ⟨#[115, 112, 108, 105, 116]⟩, .string ⟨#[109, 101, 114, 103, 101]⟩, .string ⟨#[109, 111, 118, 101]⟩] 9)) = W0 at *
  go_region_held3 (fun W => W.cell? ⟨w.heap.size, 0, none⟩ = some (.int .i64 d) ∧ W.cell? ⟨w.heap.size, 1, none⟩ = some (.int .i64 wn) ∧ W.cell? ⟨w.heap.size, 2, none⟩ = some (.int .i64 nn) ∧ W.cell? ⟨w.heap.size, 3, none⟩ = some (.string TX) ∧ W.cell? ⟨w.heap.size, 4, none⟩ = some (.string TV) ∧ W.cell? ⟨w.heap.size, 5, none⟩ = some (.string TO) ∧ W.cell? ⟨w.heap.size + 1, d, none⟩ = some (.string WD) ∧ Hid (Kp No w W))
    ((first
      | assumption
      | (refine lnK (w := w) (d := d) (wn := wn) (nn := nn) (tx := TX) (vl := TV) (to_ := TO) (by assumption) ?_; (first | assumption | exact (Kp.refl _ _).drew))))
    ((first
      | (go_at_call 13; refine (HD.out _ _ (by simp)).mono ?_; rintro en wx ⟨rfl, hk⟩)
      | (go_at_call 14; refine (HX.out _ _ (by simp)).mono ?_; rintro en wx ⟨rfl, hk⟩)))
  have hfin : Kp No w wx := (show LnS w d wn nn WD TX TV TO wx by assumption).2.2.2.2.2.2.2.out
  rw [HFIN.out]
  have HR := Lib.hid (show RetS w (Tl.lineL ⟨d, wn, nn, tl, vl, ol⟩) (.returned (.string (bT (Tl.lineL ⟨d, wn, nn, tl, vl, ol⟩)))) wx from ⟨rfl, hfin⟩)
  clear HFIN z1 z2 z3 z4 z5 z6 z7 z8 z9 z10 z11
  go_wp2_with fail
  go_ret
  exact HR.out

theorem line_c (e : Tl.Ev) (hf : fitE e) (w : World) : Calls Tryd.prog 8 #[.agg (evA e)] w (RetS w (if Tl.okE e then Tl.lineL e else [])) := by
  cases h : Tl.okE e with
  | false => exact line_no e h w
  | true =>
    obtain ⟨h1, h2, h3⟩ := (Tl.okE_iff e).1 h
    obtain ⟨dd, who, n, t, v, o⟩ := e
    have hd : 1 ≤ dd ∧ dd ≤ 13 := by
      by_cases hd : 1 ≤ dd ∧ dd ≤ 13
      · exact hd
      · exact absurd (by unfold Tl.wordL; rw [if_neg hd]) h1
    simp only at h2 h3
    obtain ⟨d, rfl⟩ := Int.eq_ofNat_of_zero_le (show 0 ≤ dd by omega)
    obtain ⟨wn, rfl⟩ := Int.eq_ofNat_of_zero_le h2
    obtain ⟨nn, rfl⟩ := Int.eq_ofNat_of_zero_le h3
    obtain ⟨f1, f2, f3, f4, f5⟩ := hf
    unfold i64R at f4 f5
    simp only at f1 f2 f3 f4 f5
    exact line_ok d wn nn t v o (by omega) (by omega) (by omega) (by omega) f1 f2 f3 w

end Go.Proofs.YtekgojolfckiiaaDoor
