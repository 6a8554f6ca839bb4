/- TaleTexts. -/
import Derived.Test.YtekgojolfckiiaaDoorQTale11
import Derived.Test.YtekgojolfckiiaaDoorQTale13
import Derived.Test.YtekgojolfckiiaaDoorQTale14
set_option linter.unusedVariables false
set_option linter.unusedSimpArgs false
namespace Go.Proofs.YtekgojolfckiiaaDoor
open Go.RowKit

set_option maxRecDepth 100000 in
set_option maxHeartbeats 2000000 in
theorem texts_small (es : List Tl.Ev) (A : Option Addr) (ca : Nat) (w : World) (E : Env w) (ha : EvsIn w A ca es) (hno : smallB es 100 = false) :
    Calls Tryd.prog 3 #[.slice A es.length ca] w fun e w' => e = .returned (.bool true) ∧ Kp No w w' := by
  have HA := Lib.hid (awake_c w E)
  have HS1 := Lib.hid fun W (k : Kp No w W) => small_c es 100 (by omega) A ca W (srcUp ha.src k) ha.len (fun e he => (ha.each e he).1)
  clear E ha
  rw [hno, show ((100 : Nat) : Int) = 100 from rfl] at HS1
  go_enter Tryd.func3, Tryd.ntmps3
  go_wp2_with fail
  refine HA.out.mono ?_
  rintro en w1 ⟨rfl, hk1⟩
  have HK1 := Lib.hid hk1
  clear hk1
  go_wp2_with fail
  refine (HS1.out _ HK1.out).mono ?_
  rintro en w2 ⟨rfl, hk2⟩
  have HK2 := Lib.hid (HK1.out.thenNo hk2)
  clear hk2
  go_wp2_with fail
  go_ret
  exact ⟨rfl, HK2.out⟩
def TxRel (w : World) (es : List Tl.Ev) (k : Nat) (v : Value) (wr : World) : Prop := ∃ o, OwnR 27 6 evL_ wr v o ((es.take k).filter Tl.okE) ∧ Kp No w wr ∧ (∀ y, o = some y → w.heap.size ≤ y) ∧ ∀ j e, j < k → es[j]? = some e → bigE e = false
theorem filter_step {es : List Tl.Ev} {k : Nat} {e : Tl.Ev} (h : es[k]? = some e) (ho : Tl.okE e = true) : (es.take (k + 1)).filter Tl.okE = (es.take k).filter Tl.okE ++ [e] := by
  rw [List.take_add_one, h]; simp [ho]
theorem filter_no {es : List Tl.Ev} {k : Nat} {e : Tl.Ev} (h : es[k]? = some e) (ho : Tl.okE e = false) : (es.take (k + 1)).filter Tl.okE = (es.take k).filter Tl.okE := by
  rw [List.take_add_one, h]; simp [ho]
theorem bad_step {es : List Tl.Ev} {k : Nat} {e : Tl.Ev} (hx : es[k]? = some e) (hb : bigE e = false) (h : ∀ j e, j < k → es[j]? = some e → bigE e = false) : ∀ j e, j < k + 1 → es[j]? = some e → bigE e = false := fun j e' hj he' => by
  rcases Nat.lt_or_ge j k with h' | h'
  · exact h j e' h' he'
  · obtain rfl : j = k := by omega
    rw [hx] at he'
    obtain rfl := Option.some.inj he'
    exact hb
theorem lineL_ne (e : Tl.Ev) : ∃ x xs, Tl.lineL e = x :: xs := by
  apply List.exists_cons_of_ne_nil
  rw [Tl.lineL_eq]
  simp
set_option maxRecDepth 100000 in
set_option maxHeartbeats 4000000 in
theorem texts_main (es : List Tl.Ev) (A : Option Addr) (ca : Nat) (w : World) (E : Env w) (ha : EvsIn w A ca es) (h1 : smallB es 100 = true) :
    Calls Tryd.prog 3 #[.slice A es.length ca] w fun e w' => e = .returned (.bool true) ∧ Kp No w w' := by
  have HA := Lib.hid (awake_c w E)
  have HS1 := Lib.hid fun W (k : Kp No w W) => small_c es 100 (by omega) A ca W (srcUp ha.src k) ha.len (fun e he => (ha.each e he).1)
  rw [h1, show ((100 : Nat) : Int) = 100 from rfl] at HS1
  obtain ⟨hla, hfa⟩ := small_fit h1 ha.each
  have hta := small_len h1 hfa
  have htk : ∀ k, (bT (Tl.textL (es.take k))).size ≤ 410000 := fun k => by
    have h2 : (Tl.textL (es.take k)).length + (Tl.textL (es.drop k)).length = (Tl.textL es).length := by
      rw [← List.length_append, ← Tl.textL_append, List.take_append_drop]
    rw [bT_size]; omega
  clear h1
  have HM1 := Lib.hid fun W (k : Kp No w W) => made_c es A ca W (srcUp ha.src k) (by omega)
  have HT1 := Lib.hid fun W (k : Kp No w W) (D : Option Addr) (c : Nat) (h : SrcF 6 evL_ (· < W.heap.size) W D es.length es) => text_c es D c W (E.kp k) h hfa (by omega)
  have HR1 := Lib.hid fun W (k : Kp No w W) => read_c (Tl.textL es) W (E.kp k) (by omega)
  have HIA := Lib.hid ha
  have HFA := Lib.hid hfa
  have HTK := Lib.hid htk
  clear E ha hfa htk
  go_enter Tryd.func3, Tryd.ntmps3
  go_wp2_with fail
  refine HA.out.mono ?_
  rintro en w1 ⟨rfl, hk1⟩
  have HK1 := Lib.hid hk1
  clear hk1
  go_wp2_with fail
  refine (HS1.out _ HK1.out).mono ?_
  rintro en w2 ⟨rfl, hk2⟩
  have HK2 := Lib.hid (HK1.out.thenNo hk2)
  clear hk2
  go_wp2_with fail
  go_loopw [3, 4, 5, 6] (fun wt v i sv wr => ∃ k : Nat, k ≤ es.length ∧ i = .int .i64 k ∧ wt = .string (bT (Tl.textL (es.take k))) ∧ TxRel w es k v wr) (fun _ _ i _ _ => es.length - (intOf i).toNat)
  case atStart => exact ⟨0, Nat.zero_le _, rfl, rfl, none, by simpa using OwnR.nil _ _ _ _, HK2.out, by simp, by omega⟩
  case round =>
    obtain ⟨k, hk, rfl, rfl, o, ho, hkp, hoy, hbad⟩ := hrel
    have HO := Lib.hid ho
    have HK := Lib.hid hkp
    have HY := Lib.hid hoy
    have HBD := Lib.hid hbad
    obtain ⟨A1, n1, c1, rfl⟩ := ho.form
    clear ho hkp hoy hbad
    by_cases hlt : k < es.length
    · have hx : es[k]? = some es[k] := List.getElem?_eq_getElem hlt
      have hmem : es[k] ∈ es := List.getElem_mem hlt
      generalize es[k] = e at hx hmem
      obtain ⟨g, off, rfl, hg, hcell⟩ := HIA.out.src.2.2 (by omega)
      have hrange : wr.rangeAt g (off + k * 6) (evL_ e) := fun j v hv => by
        rw [Nat.add_assoc]
        exact (HK.out.cell _ _ hg (not_No _)).trans (hcell k e hx j v hv)
      have HR := Lib.hid hrange
      have HX := Lib.hid hx
      have HFE := Lib.hid (HFA.out e hmem)
      have HBL := Lib.hid hg
      clear hx hmem hg hcell hrange
      go_wp2_with (first
        | (refine wpList_load_mid rfl 27 (.tmp 23) rfl g (off + k * 6) ?_ (evL_ e) _ HR.out Tryd.underlying27 rfl infoLev ?_; (rfl)))
      refine (line_c e HFE.out _).mono ?_
      rintro en w3 ⟨rfl, hk3⟩
      have HK3 := Lib.hid hk3
      clear hk3
      have hT1 := HTK.out k
      have hT2 : (bT (Tl.lineL e)).size ≤ 6000070 := by rw [bT_size]; exact lineL_len e HFE.out
      cases hok : Tl.okE e with
      | true =>
        rw [if_pos rfl]
        have HTX := Lib.hid (show bT (Tl.textL (es.take k)) ++ bT (Tl.lineL e) = bT (Tl.textL (es.take (k + 1))) from by
          rw [text_step HX.out hok]; apply ByteArray.ext; simp [bT])
        have HFS := Lib.hid (filter_step HX.out hok)
        obtain ⟨x0, xs0, hx0⟩ := lineL_ne e
        have hne : (bT (Tl.lineL e)).toList = x0 :: xs0 := by rw [toList_data, bT_list, hx0]
        have hts : ¬ 9223372036854775807 < (bT (Tl.textL (es.take k))).size + (bT (Tl.lineL e)).size := by omega
        have HR3 := Lib.hid (show w3.rangeAt g (off + k * 6) (evL_ e) from fun j v hv => cellK HK3.out (not_No _) (HR.out j v hv))
        have HDL := Lib.hid (show ((es.take k).filter Tl.okE).length ≤ 100 from Nat.le_trans (List.length_filter_le _ _) (by rw [List.length_take]; omega))
        clear hok hx0 hT1 hT2
        generalize bT (Tl.textL (es.take k)) = T1 at *
        generalize bT (Tl.lineL e) = T2 at *
        go_wp2_with (first
          | (at_builtin; refine app_one evL_ evL_len evL_one Tryd.underlying22 infoLev3 rfl (by omega) rfl _ _ rfl _ o ((es.take k).filter Tl.okE) e rfl ⟨w3.heap.size, 0, none⟩ 1 rfl ?c1 ?c2 (by have := HDL.out; omega) (by have := HDL.out; omega) ?_)
          | (refine wpList_load_mid rfl 27 (.tmp 34) rfl g (off + k * 6) ?_ (evL_ e) _ HR3.out Tryd.underlying27 rfl infoLev ?_; (rfl); (simp only [show (evL_ e).toArray = #[.int .i64 e.doo, .int .i64 e.who, .int .i64 e.n, .string (bT e.text), .string (bT e.val), .string (bT e.to_)] from rfl])))
        case c1 => exact cells_new _ _ rfl _ _ _ rfl
        case c2 => exact HO.out.kpNo (HK3.out.alloc _)
        intro v5 w5 o5 hr5 hn5 hk5
        have HR5 := Lib.hid hr5
        have HN5 := Lib.hid (Nxt.of_le (w := wr) hn5 (by have := HK3.out.size; simp; omega))
        have HK5 := Lib.hid (show Kp No w w5 from (HK.out.thenNo (HK3.out.alloc _)).trans hk5 (fun i hi e => by have := HY.out _ e; omega))
        have HRW := Lib.hid (show w5.rangeAt g (off + k * 6) (evL_ e) from fun j v hv => by
          refine cellK hk5 (fun e => ?_) (cellK (Kp.alloc (Kp.refl No _) _) (not_No _) (HR3.out j v hv))
          have := HY.out _ e
          have := HBL.out
          omega)
        have f1 : w5.cell? ⟨g, off + k * 6 + 1, none⟩ = some (.int .i64 e.who) := HRW.out 1 _ rfl
        have f2 : w5.cell? ⟨g, off + k * 6 + 2, none⟩ = some (.int .i64 e.n) := HRW.out 2 _ rfl
        clear hr5 hn5 hk5 hts hne HR HR3
        by_cases hw1 : 100000000000000000 ≤ e.who
        · go_wp2_with fail
          go_ret
          exact ⟨rfl, HK5.out⟩
        · by_cases hw2 : 100000000000000000 ≤ e.n
          · go_wp2_with fail
            go_ret
            exact ⟨rfl, HK5.out⟩
          · have HSM := Lib.hid (show bigE e = false by unfold bigE; simp; omega)
            go_wp2_with fail
            go_roundw
            case rel =>
              refine ⟨k + 1, by omega, by go_num, by rw [HTX.out], o5, by rw [HFS.out]; exact HR5.out, HK5.out, ?_, bad_step HX.out HSM.out HBD.out⟩
              intro y hy
              have := HK.out.size
              rcases HN5.out with rfl | ⟨y', rfl, hy'⟩
              · exact HY.out _ hy
              · injection hy with hy; omega
            case measure => simp [intOf]; omega
      | false =>
        rw [if_neg (by decide)]
        have HTX := Lib.hid (show bT (Tl.textL (es.take k)) = bT (Tl.textL (es.take (k + 1))) from by rw [text_step_no HX.out hok])
        have HFS := Lib.hid (filter_no HX.out hok)
        have HCAT := Lib.hid (show bT (Tl.textL (es.take k)) ++ bT [] = bT (Tl.textL (es.take k)) from by apply ByteArray.ext; simp [bT])
        have hne : (bT []).toList = [] := by rw [toList_data, bT_list]
        have hz : (bT []).size = 0 := bT_size _
        have hts : ¬ 9223372036854775807 < (bT (Tl.textL (es.take k))).size := by omega
        have HRW := Lib.hid (show w3.rangeAt g (off + k * 6) (evL_ e) from fun j v hv => cellK HK3.out (not_No _) (HR.out j v hv))
        have f1 : w3.cell? ⟨g, off + k * 6 + 1, none⟩ = some (.int .i64 e.who) := HRW.out 1 _ rfl
        have f2 : w3.cell? ⟨g, off + k * 6 + 2, none⟩ = some (.int .i64 e.n) := HRW.out 2 _ rfl
        have HK5 := Lib.hid (HK.out.thenNo HK3.out)
        clear hok hT1 hT2 HR
        generalize bT (Tl.textL (es.take k)) = T1 at *
        generalize bT [] = T2 at *
        by_cases hw1 : 100000000000000000 ≤ e.who
        · go_wp2_with fail
          go_ret
          exact ⟨rfl, HK5.out⟩
        · by_cases hw2 : 100000000000000000 ≤ e.n
          · go_wp2_with fail
            go_ret
            exact ⟨rfl, HK5.out⟩
          · have HSM := Lib.hid (show bigE e = false by unfold bigE; simp; omega)
            go_wp2_with fail
            go_roundw
            case rel => exact ⟨k + 1, by omega, by go_num, by rw [HCAT.out, HTX.out], o, by rw [HFS.out]; exact HO.out.kpNo HK3.out, HK5.out, HY.out, bad_step HX.out HSM.out HBD.out⟩
            case measure => simp [intOf]; omega
    · obtain rfl : k = es.length := by omega
      rw [List.take_length] at HO ⊢
      have hsm : ∀ e ∈ es, Tl.smallE e := fun e he => by
        obtain ⟨j, hj⟩ := List.getElem?_of_mem he
        have := HBD.out j e (List.getElem?_eq_some_iff.1 hj).1 hj
        unfold bigE at this
        simp at this
        unfold Tl.smallE
        omega
      rw [Tl.read_text es hsm] at HR1
      clear hsm HBD
      obtain ⟨hs0, hn0⟩ := HO.out.src evL_len
      have HSI := Lib.hid (show SrcF 6 evL_ (· < wr.heap.size) wr A1 n1 (es.filter Tl.okE) from hs0.mono fun b hb => HO.out.lt hb)
      have HLE := Lib.hid (show (es.filter Tl.okE).length ≤ 10001 from Nat.le_trans (List.length_filter_le _ _) (by omega))
      subst hn0
      clear hs0 HO HY HTK
      unfold RetS at HT1
      generalize hfl : es.filter Tl.okE = fl at *
      generalize bT (Tl.textL es) = T1 at *
      go_wp2_with fail
      refine (HM1.out _ HK.out).mono ?_
      rintro en w4 ⟨hk4, D4, c4, rfl, hs4⟩
      have HK4 := Lib.hid hk4
      have HS4 := Lib.hid hs4
      clear hk4 hs4
      go_wp2_with fail
      refine (HT1.out _ (HK.out.thenNo HK4.out) _ _ HS4.out).mono ?_
      rintro en w5 ⟨rfl, hk5⟩
      have HK5 := Lib.hid (show Kp No wr w5 from HK4.out.thenNo hk5)
      clear hk5
      go_wp2_with fail
      refine (HR1.out _ (HK.out.thenNo HK5.out)).mono ?_
      rintro en w6 ⟨hk6, D6, c6, o6, rfl, ho6, hy6⟩
      have HK6 := Lib.hid (show Kp No wr w6 from HK5.out.thenNo hk6)
      have HS6 := Lib.hid ((ho6.src evL_len).1.mono (ok' := (· < w6.heap.size)) (fun b hb => ho6.lt hb))
      have HSM := Lib.hid (same_c fl D6 A1 c6 c1 w6 HS6.out (srcUp HSI.out HK6.out) HLE.out)
      clear hk6 ho6 hy6 HS6 HSI
      go_wp2_with fail
      refine HSM.out.mono ?_
      rintro en w7 ⟨rfl, hk7⟩
      have HK7 := Lib.hid (HK.out.thenNo (HK6.out.thenNo hk7))
      clear hk7
      go_wp2_with fail
      go_ret
      exact ⟨rfl, HK7.out⟩

theorem texts_c (es : List Tl.Ev) (A : Option Addr) (ca : Nat) (w : World) (E : Env w) (ha : EvsIn w A ca es) :
    Calls Tryd.prog 3 #[.slice A es.length ca] w fun e w' => e = .returned (.bool true) ∧ Kp No w w' := by
  cases h : smallB es 100 with
  | false => exact texts_small es A ca w E ha h
  | true => exact texts_main es A ca w E ha h

end Go.Proofs.YtekgojolfckiiaaDoor
