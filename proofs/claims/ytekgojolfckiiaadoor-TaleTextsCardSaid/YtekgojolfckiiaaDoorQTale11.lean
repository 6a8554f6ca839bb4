/- TaleJoins, the main way. -/
import Derived.Test.YtekgojolfckiiaaDoorQTale10
set_option linter.unusedVariables false
set_option linter.unusedSimpArgs false
namespace Go.Proofs.YtekgojolfckiiaaDoor
open Go.RowKit

theorem infoLev3 : (Tryd.prog.info? 27).map (fun i => (i.zero, i.size, i.bytes)) = some (some (.agg (evC 0 0 0 ⟨#[]⟩ ⟨#[]⟩ ⟨#[]⟩)), 6, 72) := by kernel_rfl
def bigE (e : Tl.Ev) : Bool := decide (100000000000000000 ≤ e.who) || decide (100000000000000000 ≤ e.n)
theorem bT_take (l : List UInt8) (k : Nat) (h : k ≤ l.length) : (bT l).extract 0 k = bT (l.take k) := by
  apply ByteArray.ext
  apply Array.ext'
  rw [Lib.extract_data, bT_list, bT_list]
  simp
theorem own_newL (f : Tl.Ev → List Value) (w : World) : OwnR 27 6 f (w.alloc (.cells #[] 27)) (.slice (some ⟨w.heap.size, 0, none⟩) 0 0) (some w.heap.size) [] :=
  ⟨⟨rfl, .inr ⟨w.heap.size, 0, #[], rfl, Nat.zero_le _, heap_alloc_new _ _, Nat.le_refl _, Nat.zero_le _, rfl, rfl⟩⟩, rfl⟩
theorem ReadE2 {w : World} {r : Option (List Tl.Ev)} {en : Ending} {w' : World} (h : ReadEP w r en w') : Kp No w w' ∧ ∃ V ec, en = .returned (.tuple #[V, .int .i64 ec]) ∧ ec = (if r.isSome then 0 else 5) := by
  obtain ⟨hk, h⟩ := h
  cases r with
  | none => exact ⟨hk, _, _, h, rfl⟩
  | some es => obtain ⟨A, c, o, rfl, _⟩ := h; exact ⟨hk, _, _, rfl, rfl⟩
theorem textL_len2 (es : List Tl.Ev) (M : Nat) (h : ∀ e ∈ es, (Tl.lineL e).length ≤ M) : (Tl.textL es).length ≤ es.length * M := by
  induction es with
  | nil => simp [Tl.textL]
  | cons e es ih =>
    have := ih fun x hx => h x (List.mem_cons_of_mem _ hx)
    have h1 := h e List.mem_cons_self
    rw [show e :: es = [e] ++ es from rfl, Tl.textL_append, List.length_append, List.length_append]
    have h2 : (Tl.textL [e]).length ≤ M := by
      by_cases ho : Tl.okE e = true
      · simp only [Tl.textL, List.filter_cons, ho, if_true, List.filter_nil, List.flatMap_cons, List.flatMap_nil, List.append_nil]; exact h1
      · simp [Tl.textL, List.filter_cons, ho]
    rw [Nat.add_mul]
    simp only [List.length_cons, List.length_nil]
    omega
theorem small_len {es : List Tl.Ev} {most : Nat} (h : smallB es most = true) (hf : ∀ e ∈ es, fitE e) : (Tl.textL es).length ≤ es.length * 4100 := by
  unfold smallB at h
  rw [Bool.and_eq_true, List.all_eq_true] at h
  refine textL_len2 es 4100 fun e he => ?_
  have h0 := h.2 e he
  simp only [decide_eq_true_eq] at h0
  have h1 := itoa_len e.who (hf e he).2.2.2.1
  have h2 := itoa_len e.n (hf e he).2.2.2.2
  have h3 := wordL_len e.doo
  rw [Tl.lineL_eq, Tl.bodyL_eq]
  simp only [List.length_append, List.length_cons, List.length_nil, Tl.hexL_len]
  omega
set_option maxRecDepth 100000 in
set_option maxHeartbeats 4000000 in
theorem joins_main (as_ bs : List Tl.Ev) (A B : Option Addr) (ca cb : Nat) (cut : Int) (hc0 : 0 ≤ cut) (hc1 : cut ≤ 65535) (w : World) (E : Env w) (ha : EvsIn w A ca as_) (hb : EvsIn w B cb bs) (h1 : smallB as_ 60 = true) (h2 : smallB bs 60 = true) :
    Calls Tryd.prog 5 #[.slice A as_.length ca, .slice B bs.length cb, .int .u16 cut] w fun e w' => e = .returned (.bool true) ∧ Kp No w w' := by
  have HA := Lib.hid (awake_c w E)
  have HS1 := Lib.hid fun W (k : Kp No w W) => small_c as_ 60 (by omega) A ca W (srcUp ha.src k) ha.len (fun e he => (ha.each e he).1)
  have HS2 := Lib.hid fun W (k : Kp No w W) => small_c bs 60 (by omega) B cb W (srcUp hb.src k) hb.len (fun e he => (hb.each e he).1)
  rw [h1, show ((60 : Nat) : Int) = 60 from rfl] at HS1
  rw [h2, show ((60 : Nat) : Int) = 60 from rfl] at HS2
  obtain ⟨hla, hfa⟩ := small_fit h1 ha.each
  obtain ⟨hlb, hfb⟩ := small_fit h2 hb.each
  have hta := small_len h1 hfa
  have htb := small_len h2 hfb
  clear h1 h2
  have HM1 := Lib.hid fun W (k : Kp No w W) => made_c as_ A ca W (srcUp ha.src k) (by omega)
  have HM2 := Lib.hid fun W (k : Kp No w W) => made_c bs B cb W (srcUp hb.src k) (by omega)
  have HM3 := Lib.hid fun W (D : Option Addr) (c : Nat) (n : Nat) (hn : n = (as_ ++ bs).length) (h : SrcF 6 evL_ (· < W.heap.size) W D n (as_ ++ bs)) => hn ▸ (made_c (as_ ++ bs) D c W (hn ▸ h) (by rw [List.length_append]; omega))
  have HT1 := Lib.hid fun W (k : Kp No w W) (D : Option Addr) (c : Nat) (h : SrcF 6 evL_ (· < W.heap.size) W D as_.length as_) => text_c as_ D c W (E.kp k) h hfa (by omega)
  have HT2 := Lib.hid fun W (k : Kp No w W) (D : Option Addr) (c : Nat) (h : SrcF 6 evL_ (· < W.heap.size) W D bs.length bs) => text_c bs D c W (E.kp k) h hfb (by omega)
  have HT3 := Lib.hid fun W (k : Kp No w W) (D : Option Addr) (c : Nat) (h : SrcF 6 evL_ (· < W.heap.size) W D (as_ ++ bs).length (as_ ++ bs)) => text_c (as_ ++ bs) D c W (E.kp k) h (fun e he => (List.mem_append.1 he).elim (hfa e) (hfb e)) (by rw [List.length_append]; omega)
  have HIA := Lib.hid ha
  have HIB := Lib.hid hb
  have HE := Lib.hid E
  clear E ha hb hfa hfb
  go_enter Tryd.func5, Tryd.ntmps5
  go_wp2_with fail
  refine HA.out.mono ?_
  rintro en w1 ⟨rfl, hk1⟩
  have HK1 := Lib.hid hk1
  clear hk1
  go_wp2_with fail
  refine (HS1.out _ HK1.out).mono ?_
  rintro en w2 ⟨rfl, hk2⟩
  have HK2 := Lib.hid (HK1.out.thenNo hk2)
  clear hk2
  go_wp2_with fail
  refine (HS2.out _ HK2.out).mono ?_
  rintro en w3 ⟨rfl, hk3⟩
  have HK3 := Lib.hid (HK2.out.thenNo hk3)
  clear hk3
  go_wp2_with fail
  refine (HM1.out _ HK3.out).mono ?_
  rintro en w4 ⟨hk4, D4, c4, rfl, hs4⟩
  have HK4 := Lib.hid (HK3.out.thenNo hk4)
  have HS4 := Lib.hid hs4
  clear hk4 hs4
  go_wp2_with fail
  refine (HT1.out _ HK4.out _ _ HS4.out).mono ?_
  rintro en w5 ⟨rfl, hk5⟩
  have HK5 := Lib.hid (HK4.out.thenNo hk5)
  clear hk5
  go_wp2_with fail
  refine (HM2.out _ HK5.out).mono ?_
  rintro en w6 ⟨hk6, D6, c6, rfl, hs6⟩
  have HK6 := Lib.hid (HK5.out.thenNo hk6)
  have HS6 := Lib.hid hs6
  clear hk6 hs6
  go_wp2_with fail
  refine (HT2.out _ HK6.out _ _ HS6.out).mono ?_
  rintro en w7 ⟨rfl, hk7⟩
  have HK7 := Lib.hid (HK6.out.thenNo hk7)
  clear hk7
  clear HA HS1 HS2 HM1 HM2 HT1 HT2 HK1 HK2 HK3 HK4 HK5 HK6 HS4 HS6
  have HRC := Lib.hid (show ∀ k, k ≤ (Tl.textL as_).length → (bT (Tl.textL as_)).extract 0 k = bT ((Tl.textL as_).take k) from fun k hk => bT_take _ k hk)
  have HAB := Lib.hid (show bT (Tl.textL as_) ++ bT (Tl.textL bs) = bT (Tl.textL (as_ ++ bs)) by rw [Tl.textL_append]; apply ByteArray.ext; simp [bT])
  have hsa : (bT (Tl.textL as_)).size = (Tl.textL as_).length := bT_size _
  have hsb : (bT (Tl.textL bs)).size ≤ 246000 := by rw [bT_size]; omega
  have hla2 : (Tl.textL as_).length ≤ 246000 := by omega
  have HTA := Lib.hid (show bT (Tl.textL as_) = bT (Tl.textL as_) from rfl)
  generalize hTA : bT (Tl.textL as_) = TA at *
  generalize hTB : bT (Tl.textL bs) = TB at *
  clear hta htb HTA hTB
  go_wp2_with (at_builtin; refine app_src evL_ evL_len evL_one Tryd.underlying22 infoLev3 rfl (by omega) rfl (.tmp 31) (.tmp 32) rfl _ (some w7.heap.size) [] as_ rfl A as_.length ca rfl HIA.out.nil rfl ?a1 (own_newL evL_ w7) (by have := hla; simp; omega) (by have := hla; simp; omega) ?_)
  case a1 => exact fun ad hA j u hu => (srcUp HIA.out.src (HK7.out.alloc _)).flat evL_len ad hA hu
  intro v8 w8 o8 hr8 hn8 hk8
  have HR8 := Lib.hid hr8
  have HN8 := Lib.hid hn8
  have HK8 := Lib.hid (show Kp No w w8 from (HK7.out.alloc _).trans hk8 (fun i hi e => by have h1 := HK7.out.size; have h2 : w7.heap.size = i := Option.some.inj e; omega))
  obtain ⟨A8, n8, c8, rfl⟩ := hr8.form
  clear hr8 hn8 hk8
  go_wp2_with (at_builtin; refine app_src evL_ evL_len evL_one Tryd.underlying22 infoLev3 rfl (by omega) rfl (.tmp 33) (.tmp 34) rfl _ o8 as_ bs rfl B bs.length cb rfl HIB.out.nil rfl ?a2 HR8.out (by have := hla; have := hlb; omega) (by have := hla; have := hlb; omega) ?_)
  case a2 => exact fun ad hB j u hu => (srcUp HIB.out.src HK8.out).flat evL_len ad hB hu
  intro v9 w9 o9 hr9 hn9 hk9
  have HK9 := Lib.hid (show Kp No w w9 from HK8.out.trans hk9 (fun i hi e => by
    have h1 := HK7.out.size
    rcases HN8.out with rfl | ⟨y, rfl, hy⟩
    · have h2 : w7.heap.size = i := Option.some.inj e; omega
    · have h2 : y = i := Option.some.inj e
      simp at hy; omega))
  obtain ⟨A9, n9, c9, rfl⟩ := hr9.form
  obtain ⟨hs9, hn9'⟩ := hr9.src evL_len
  have HM9 := Lib.hid (HM3.out w9 A9 c9 n9 hn9' (hs9.mono fun b hb => hr9.lt hb))
  clear hr9 hn9 hk9 hs9 hn9' HM3 HR8 HN8
  go_wp2_with fail
  refine HM9.out.mono ?_
  rintro en w10 ⟨hk10, D10, c10, rfl, hs10⟩
  have HK10 := Lib.hid (HK9.out.thenNo hk10)
  have HS10 := Lib.hid hs10
  clear hk10 hs10 HM9
  generalize hnn : (as_ ++ bs).length = nn at *
  go_wp2_with fail
  refine (HT3.out _ HK10.out _ _ HS10.out).mono ?_
  rintro en w11 ⟨rfl, hk11⟩
  have HK11 := Lib.hid (HK10.out.thenNo hk11)
  clear hk11 HS10 HT3
  rw [← HAB.out]
  have hts : ¬ 9223372036854775807 < TA.size + TB.size := by omega
  clear HAB
  obtain ⟨L, hL⟩ : ∃ L, (Tl.textL as_).length = L := ⟨_, rfl⟩
  rw [hL] at hsa hla2 HRC
  have HL := Lib.hid hL
  have hq0 : (0 : Int) ≤ cut % ((L : Int) + 1) := Int.emod_nonneg _ (by omega)
  have hq1 : cut % ((L : Int) + 1) < (L : Int) + 1 := Int.emod_lt_of_pos _ (by omega)
  obtain ⟨k0, hq⟩ : ∃ k0 : Nat, cut % ((L : Int) + 1) = k0 := ⟨(cut % ((L : Int) + 1)).toNat, by omega⟩
  have hk0 : k0 ≤ L := by omega
  rw [hq] at hq0 hq1
  have HRD := Lib.hid fun W (k : Kp No w W) => read_c ((Tl.textL as_).take k0) W (HE.out.kp k) (by rw [List.length_take]; omega)
  rw [← HRC.out k0 hk0] at HRD
  clear hL HRC hq0 hq1 HE
  generalize hrd : Tl.readL ((Tl.textL as_).take k0) = R at *
  have HR := Lib.hid hrd
  clear hrd
  go_wp2_with fail
  refine (HRD.out _ HK11.out).mono ?_
  intro en w12 hr12
  obtain ⟨hk12, V, ec, rfl, hec⟩ := ReadE2 hr12
  have HK12 := Lib.hid (HK11.out.thenNo hk12)
  clear hk12 hr12 HRD
  have HTB := Lib.hid (show ∀ (h : k0 - 1 < TA.size), (Tl.textL as_)[k0 - 1]? = some TA[k0 - 1] from fun h => by
    subst hTA
    have := byte_at (bT (Tl.textL as_)) (k0 - 1) h
    rwa [bT_list] at this)
  have HEC := Lib.hid hec
  have HCUT := Lib.hid (show (∀ j e, as_[j]? = some e → bigE e = false) → R.isSome = (decide (k0 = 0) || ((Tl.textL as_)[k0 - 1]? == some 10)) from fun hsm => by
    rw [← HR.out]
    refine Tl.read_cut as_ k0 (fun e he => ?_) (by rw [HL.out]; exact hk0)
    obtain ⟨j, hj⟩ := List.getElem?_of_mem he
    have := hsm j e hj
    unfold bigE at this
    simp at this
    unfold Tl.smallE
    omega)
  clear hTA hec HR HL
  by_cases hz : k0 = 0
  · subst hz
    have HQ := Lib.hid (show true = (decide (0 = 0) || ((Tl.textL as_)[0 - 1]? == some 10)) from by simp)
    rw [← HQ.out] at HCUT
    clear HTB HQ
    go_wp2_with fail
    go_loopw [14] (fun i wr => ∃ k : Nat, k ≤ as_.length ∧ i = .int .i64 k ∧ (∀ j e, j < k → as_[j]? = some e → bigE e = false) ∧ Kp No w wr) (fun i _ => as_.length - (intOf i).toNat)
    case atStart => exact ⟨0, Nat.zero_le _, rfl, by omega, HK12.out⟩
    case round =>
      obtain ⟨k, hk, rfl, hbad, hkp⟩ := hrel
      have HK := Lib.hid hkp
      have HBD := Lib.hid hbad
      clear hkp hbad
      by_cases hlt : k < as_.length
      · have hx : as_[k]? = some as_[k] := List.getElem?_eq_getElem hlt
        generalize as_[k] = e at hx
        obtain ⟨g, off, rfl, hg, hcell⟩ := HIA.out.src.2.2 (by omega)
        have f1 : wr.cell? ⟨g, off + k * 6 + 1, none⟩ = some (.int .i64 e.who) := (HK.out.cell _ _ hg (not_No _)).trans (by rw [Nat.add_assoc]; exact hcell k e hx 1 _ rfl)
        have f2 : wr.cell? ⟨g, off + k * 6 + 2, none⟩ = some (.int .i64 e.n) := (HK.out.cell _ _ hg (not_No _)).trans (by rw [Nat.add_assoc]; exact hcell k e hx 2 _ rfl)
        have HX := Lib.hid hx
        clear hx hg hcell
        by_cases hw1 : 100000000000000000 ≤ e.who
        · go_wp2_with fail
          go_ret
          exact ⟨rfl, HK.out⟩
        · by_cases hw2 : 100000000000000000 ≤ e.n
          · go_wp2_with fail
            go_ret
            exact ⟨rfl, HK.out⟩
          · have HSM := Lib.hid (show bigE e = false by unfold bigE; simp; omega)
            go_wp2_with fail
            go_roundw
            case rel => exact ⟨k + 1, by omega, by go_num, fun j e' hj he' => by
              rcases Nat.lt_or_ge j k with h | h
              · exact HBD.out j e' h he'
              · obtain rfl : j = k := by omega
                rw [HX.out] at he'
                obtain rfl := Option.some.inj he'
                exact HSM.out, HK.out⟩
            case measure => simp [intOf]; omega
      · obtain rfl : k = as_.length := by omega
        have HSQ := Lib.hid (HCUT.out fun j e he => HBD.out j e (List.getElem?_eq_some_iff.1 he).1 he)
        clear HCUT
        have hec := HEC.out
        rw [HSQ.out, if_pos rfl] at hec
        clear HEC HSQ
        subst hec
        go_wp2_with fail
        go_ret
        exact ⟨rfl, HK.out⟩
  · have hk1 : (1 : Int) ≤ k0 := by omega
    have hlt0 : (k0 : Int) - 1 < L := by omega
    have hk2 : k0 - 1 < TA.size := by omega
    have hne : ((k0 : Int) == 0) = false := by simp; omega
    have HQ := Lib.hid (show ((TA[k0 - 1].toNat : Int) == 10) = (decide (k0 = 0) || ((Tl.textL as_)[k0 - 1]? == some 10)) from by
      rw [HTB.out hk2, decide_eq_false hz, Bool.false_or]
      rw [Bool.eq_iff_iff]
      simp only [beq_iff_eq, Option.some.injEq]
      constructor
      · intro h
        apply UInt8.toNat_inj.1
        have : TA[k0 - 1].toNat = 10 := by omega
        rw [this]; rfl
      · intro h
        rw [h]; rfl)
    rw [← HQ.out] at HCUT
    clear HTB HQ
    go_wp2_with fail
    generalize ((TA[k0 - 1].toNat : Int) == 10) = q at *
    go_loopw [14] (fun i wr => ∃ k : Nat, k ≤ as_.length ∧ i = .int .i64 k ∧ (∀ j e, j < k → as_[j]? = some e → bigE e = false) ∧ Kp No w wr) (fun i _ => as_.length - (intOf i).toNat)
    case atStart => exact ⟨0, Nat.zero_le _, rfl, by omega, HK12.out⟩
    case round =>
      obtain ⟨k, hk, rfl, hbad, hkp⟩ := hrel
      have HK := Lib.hid hkp
      have HBD := Lib.hid hbad
      clear hkp hbad
      by_cases hlt : k < as_.length
      · have hx : as_[k]? = some as_[k] := List.getElem?_eq_getElem hlt
        generalize as_[k] = e at hx
        obtain ⟨g, off, rfl, hg, hcell⟩ := HIA.out.src.2.2 (by omega)
        have f1 : wr.cell? ⟨g, off + k * 6 + 1, none⟩ = some (.int .i64 e.who) := (HK.out.cell _ _ hg (not_No _)).trans (by rw [Nat.add_assoc]; exact hcell k e hx 1 _ rfl)
        have f2 : wr.cell? ⟨g, off + k * 6 + 2, none⟩ = some (.int .i64 e.n) := (HK.out.cell _ _ hg (not_No _)).trans (by rw [Nat.add_assoc]; exact hcell k e hx 2 _ rfl)
        have HX := Lib.hid hx
        clear hx hg hcell
        by_cases hw1 : 100000000000000000 ≤ e.who
        · go_wp2_with fail
          go_ret
          exact ⟨rfl, HK.out⟩
        · by_cases hw2 : 100000000000000000 ≤ e.n
          · go_wp2_with fail
            go_ret
            exact ⟨rfl, HK.out⟩
          · have HSM := Lib.hid (show bigE e = false by unfold bigE; simp; omega)
            go_wp2_with fail
            go_roundw
            case rel => exact ⟨k + 1, by omega, by go_num, fun j e' hj he' => by
              rcases Nat.lt_or_ge j k with h | h
              · exact HBD.out j e' h he'
              · obtain rfl : j = k := by omega
                rw [HX.out] at he'
                obtain rfl := Option.some.inj he'
                exact HSM.out, HK.out⟩
            case measure => simp [intOf]; omega
      · obtain rfl : k = as_.length := by omega
        have HSQ := Lib.hid (HCUT.out fun j e he => HBD.out j e (List.getElem?_eq_some_iff.1 he).1 he)
        clear HCUT
        have hec := HEC.out
        rw [HSQ.out] at hec
        clear HEC HSQ
        cases q
        · rw [if_neg (by decide)] at hec
          subst hec
          go_wp2_with fail
          go_ret
          exact ⟨rfl, HK.out⟩
        · rw [if_pos rfl] at hec
          subst hec
          go_wp2_with fail
          go_ret
          exact ⟨rfl, HK.out⟩

end Go.Proofs.YtekgojolfckiiaaDoor
