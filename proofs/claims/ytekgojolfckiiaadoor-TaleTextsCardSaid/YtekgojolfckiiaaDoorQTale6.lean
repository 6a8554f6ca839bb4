/- tale.Text. -/
import Derived.Test.YtekgojolfckiiaaDoorQTale5
import Derived.Deep.RegionHeld3
import Derived.Shelf.Strings.BuilderK
set_option linter.unusedVariables false
set_option linter.unusedSimpArgs false
namespace Go.Proofs.YtekgojolfckiiaaDoor
open Go.RowKit

theorem IsB_kp {w w' : World} {B b : Nat} {bs : List Value} (h : Lib.IsBuilderF 46 5 B b bs w) (hb : Kp No w w') : Lib.IsBuilderF 46 5 B b bs w' := by
  have one : ∀ p, Lib.BuilderAtF 46 5 B b p bs w → Lib.BuilderAtF 46 5 B b p bs w' := by
    intro p hh
    have hlt := hh.lt
    obtain ⟨hB, v, hv, hown, hne⟩ := hh
    have hbb := hb.below
    exact ⟨hB, v, (hbb.block b hlt).trans hv, hown.kept (row := none) ⟨hbb.os, hbb.tape, hbb.output, hbb.size, fun k hk _ => hbb.block k hk⟩ (Classical.em _), hne⟩
  exact h.elim (fun x => .inl (one _ x)) (fun x => .inr (one _ x))
def i64R (n : Int) : Prop := -9223372036854775808 ≤ n ∧ n ≤ 9223372036854775807
theorem cell_at {W : World} {g : Nat} {cs : Array Value} {t : TypeId} (h : W.heap[g]? = some (.cells cs t)) (j : Nat) : W.cell? ⟨g, j, none⟩ = cs[j]? := by simp [World.cell?, h]
/-- An event that the walk may meet: its texts are short. -/
def fitE (e : Tl.Ev) : Prop := e.text.length ≤ 1000000 ∧ e.val.length ≤ 1000000 ∧ e.to_.length ≤ 1000000 ∧ i64R e.who ∧ i64R e.n
theorem itoa_len (n : Int) (h : i64R n) : (Lib.itoa n).length ≤ 20 := by
  have hd : ∀ u : Nat, u < 10000000000000000000 → (Lib.decDigits u).length ≤ 19 := fun u hu => by
    rw [Lib.decDigits_length]; exact Tl.nDigits_le 18 u (by omega)
  unfold Lib.itoa
  unfold i64R at h
  split
  · simp only [List.length_cons]; have := hd n.natAbs (by omega); omega
  · have := hd n.toNat (by omega); omega
theorem wordL_len (d : Int) : (Tl.wordL d).length ≤ 7 := by
  have : ∀ k : Fin 14, (Tl.wordsL.getD k.val []).length ≤ 7 := by decide
  unfold Tl.wordL
  split
  · exact this ⟨d.toNat, by omega⟩
  · simp
theorem lineL_len (e : Tl.Ev) (h : fitE e) : (Tl.lineL e).length ≤ 6000070 := by
  have h1 := itoa_len e.who h.2.2.2.1
  have h2 := itoa_len e.n h.2.2.2.2
  have h3 := wordL_len e.doo
  rw [Tl.lineL_eq, Tl.bodyL_eq]
  simp only [List.length_append, List.length_cons, List.length_nil, Tl.hexL_len]
  have := h.1; have := h.2.1; have := h.2.2.1
  omega
theorem textL_len (es : List Tl.Ev) (h : ∀ e ∈ es, fitE e) : (Tl.textL es).length ≤ es.length * 6000070 := by
  induction es with
  | nil => simp [Tl.textL]
  | cons e es ih =>
    have := ih fun x hx => h x (List.mem_cons_of_mem _ hx)
    have h1 := lineL_len e (h e List.mem_cons_self)
    rw [show e :: es = [e] ++ es from rfl, Tl.textL_append, List.length_append, List.length_append]
    have h2 : (Tl.textL [e]).length ≤ 6000070 := by
      by_cases ho : Tl.okE e = true
      · simp only [Tl.textL, List.filter_cons, ho, if_true, List.filter_nil, List.flatMap_cons, List.flatMap_nil, List.append_nil]; exact h1
      · simp [Tl.textL, List.filter_cons, ho]
    simp only [List.length_cons, List.length_nil]
    omega
def TextRel (w : World) (es : List Tl.Ev) (k : Nat) (wr : World) : Prop := Lib.IsBuilderF 46 5 w.heap.size w.heap.size (Lib.byteCells (Tl.textL (es.take k))) wr ∧ Kp No w wr
theorem text_step_no {es : List Tl.Ev} {k : Nat} {e : Tl.Ev} (h : es[k]? = some e) (ho : Tl.okE e = false) : Tl.textL (es.take (k + 1)) = Tl.textL (es.take k) := by
  rw [List.take_add_one, h, Tl.textL_append]; simp [Tl.textL, ho]
theorem text_step {es : List Tl.Ev} {k : Nat} {e : Tl.Ev} (h : es[k]? = some e) (ho : Tl.okE e = true) : Tl.textL (es.take (k + 1)) = Tl.textL (es.take k) ++ Tl.lineL e := by
  rw [List.take_add_one, h, Tl.textL_append]; simp [Tl.textL, ho]
theorem Kp.belowOf {a b c : World} (h : Kp No a b) (k : Below a.heap.size b c) : Kp No a c := .ofBelow (h.below.trans k)
theorem itoa_c (n : Int) (h : i64R n) (w : World) (E : Env w) : Calls Tryd.prog 18 #[.int .i64 n] w (RetS w (Lib.itoa n)) := by
  refine (Tryd.strconv_Itoa n h.1 h.2 w E.tab).mono ?_
  rintro en w1 ⟨rfl, k, os, rfl⟩
  exact ⟨rfl, grow_kp _ _ _⟩
theorem join6 (a b c d e f : List UInt8) (W : World) (hl : (Lib.join [a, b, c, d, e, f] [32]).length ≤ 140737488355328) :
    Calls Tryd.prog 17 #[.slice (some ⟨W.heap.size, 0, none⟩) 6 6, .string ⟨#[32]⟩] (W.alloc (.cells #[.string (bT a), .string (bT b), .string (bT c), .string (bT d), .string (bT e), .string (bT f)] 9)) fun en w' =>
      RetS (W.alloc (.cells #[.string (bT a), .string (bT b), .string (bT c), .string (bT d), .string (bT e), .string (bT f)] 9)) (Lib.join [a, b, c, d, e, f] [32]) en w' := by
  have e1 : (([a, b, c, d, e, f].map bT).map (·.data.toList)) = [a, b, c, d, e, f] := by simp [bT_list]
  have := Tryd.strings_Join W.heap.size 0 6 ([a, b, c, d, e, f].map bT) (bT [32]) (W.alloc (.cells #[.string (bT a), .string (bT b), .string (bT c), .string (bT d), .string (bT e), .string (bT f)] 9))
    (fun j x hx => by
      rw [Nat.zero_add, cell_new]
      rcases j with _ | _ | _ | _ | _ | _ | j
      all_goals first | (simp at hx; subst hx; rfl) | (simp at hx))
    (by simp) (by simp) (by simp) (by rw [e1, bT_list]; exact hl)
  rw [e1, bT_list] at this
  refine this.mono ?_
  rintro en w1 ⟨rfl, hb⟩
  exact ⟨rfl, .ofBelow hb⟩
theorem cells_line (l x : List UInt8) : Lib.byteCells l ++ Lib.strCells (bT x) = Lib.byteCells (l ++ x) := by
  simp [Lib.byteCells, Lib.strCells, bT_list]
def evB (e : Tl.Ev) : Obj := .cells (evC e.doo e.who e.n (bT e.text) (bT e.val) (bT e.to_)) 39
abbrev TxS (w : World) (g : Nat) (e : Tl.Ev) (W : World) : Prop :=
  W.cell? ⟨g, 1, none⟩ = some (.int .i64 e.who) ∧ W.cell? ⟨g, 2, none⟩ = some (.int .i64 e.n) ∧ W.cell? ⟨g, 3, none⟩ = some (.string (bT e.text)) ∧ W.cell? ⟨g, 4, none⟩ = some (.string (bT e.val)) ∧ W.cell? ⟨g, 5, none⟩ = some (.string (bT e.to_)) ∧ Hid (Kp No w W ∧ W.heap[g]? = some (evB e))
theorem TxS.mk {w : World} {g : Nat} {e : Tl.Ev} {W : World} (k : Kp No w W) (h : W.heap[g]? = some (evB e)) : TxS w g e W :=
  ⟨cell_at h 1, cell_at h 2, cell_at h 3, cell_at h 4, cell_at h 5, Lib.hid ⟨k, h⟩⟩
theorem TxS.kp {w : World} {g : Nat} {e : Tl.Ev} {a b : World} (h : TxS w g e a) (k : Kp No a b) : TxS w g e b :=
  have hb := h.2.2.2.2.2.out.2
  TxS.mk (h.2.2.2.2.2.out.1.thenNo k) ((k.block g (Array.getElem?_eq_some_iff.1 hb).1 (not_No _)).trans hb)
theorem TxS.wr {w : World} {g : Nat} {e : Tl.Ev} {a b : World} (h : TxS w g e a) (hg : g ≠ w.heap.size) (k : Below w.heap.size a b) (o : Lib.OthersKept 5 (some w.heap.size) a b) : TxS w g e b :=
  TxS.mk (h.2.2.2.2.2.out.1.belowOf k) (o g _ h.2.2.2.2.2.out.2 (fun e => hg (Option.some.inj e)) (fun c fz => by unfold evB; intro e; injection e with _ e _; exact absurd e (by decide)))
set_option maxRecDepth 100000 in
set_option maxHeartbeats 2000000 in
theorem text_c (es : List Tl.Ev) (A : Option Addr) (c : Nat) (w : World) (E : Env w) (hs : SrcF 6 evL_ (· < w.heap.size) w A es.length es) (hf : ∀ e ∈ es, fitE e) (hl : es.length ≤ 10001) :
    Calls Tryd.prog 9 #[.slice A es.length c] w (RetS w (Tl.textL es)) := by
  have HE := Lib.hid E
  have HS := Lib.hid hs
  have HF := Lib.hid hf
  clear E hs hf
  go_enter Tryd.func9, Tryd.ntmps9
  go_wp2_with fail
  go_loopw [9] (fun i wr => ∃ k : Nat, k ≤ es.length ∧ i = .int .i64 k ∧ TextRel w es k wr) (fun i _ => es.length - (intOf i).toNat)
  case atStart => exact ⟨0, Nat.zero_le _, rfl, Lib.IsBuilderF.of (Lib.fresh_isBuilder _ _ _), (Kp.refl _ _).alloc _⟩
  case round =>
    obtain ⟨k, hk, rfl, hb, hkp⟩ := hrel
    have HB := Lib.hid hb
    have HK := Lib.hid hkp
    have hsz := hkp.size
    clear hb hkp
    by_cases hlt : k < es.length
    · have hx : es[k]? = some es[k] := List.getElem?_eq_getElem hlt
      have hmem : es[k] ∈ es := List.getElem_mem hlt
      generalize es[k] = e at hx hmem
      obtain ⟨g, off, rfl, hg, hcell⟩ := HS.out.2.2 (by omega)
      have hrange : wr.rangeAt g (off + k * 6) (evL_ e) := fun j v hv => by
        rw [Nat.add_assoc]
        exact (HK.out.cell _ _ hg (not_No _)).trans (hcell k e hx j v hv)
      have HR := Lib.hid hrange
      have HX := Lib.hid hx
      have HFE := Lib.hid (HF.out e hmem)
      clear hx hmem hg hcell hrange
      go_wp2_with (first
        | (refine wpList_load_mid rfl 39 (.tmp 11) rfl g (off + k * 6) ?_ (evL_ e) _ HR.out Tryd.underlying39 rfl infoEv ?_; (rfl))
        | (refine store_ev (g := wr.heap.size) (d := e.doo) (who := e.who) (n := e.n) (t := bT e.text) (v := bT e.val) (o' := bT e.to_) (heap_alloc_new _ _) rfl rfl (.tmp 5) (.tmp 12) rfl rfl rfl rfl ?_; intro wA hbA hkA
           have HKA := Lib.hid (show Kp No wr wA from Kp.trans ((Kp.refl _ _).alloc _) hkA (fun i hi e => by simp only [One] at e; omega))
           have hB0 := Lib.hid hbA; have f0 := cell_at hbA 0; have f1 := cell_at hbA 1; have f2 := cell_at hbA 2; have f3 := cell_at hbA 3; have f4 := cell_at hbA 4; have f5 := cell_at hbA 5
           simp only [evC, List.getElem?_toArray, List.getElem?_cons_zero, List.getElem?_cons_succ] at f0 f1 f2 f3 f4 f5
           clear hbA hkA))
      refine (word_c _ _).mono ?_
      rintro en w1 ⟨rfl, rfl⟩
      have hwl : (bT (Tl.wordL e.doo)).toList = Tl.wordL e.doo := by rw [toList_data, bT_list]
      cases hok : Tl.okE e with
      | false =>
        have HT := Lib.hid (text_step_no HX.out hok)
        have hbad : Tl.wordL e.doo = [] ∨ (Tl.wordL e.doo ≠ [] ∧ e.who < 0) ∨ (Tl.wordL e.doo ≠ [] ∧ 0 ≤ e.who ∧ e.n < 0) := by
          have hno : ¬ (Tl.okE e = true) := by rw [hok]; decide
          rw [Tl.okE_iff] at hno
          by_cases h1 : Tl.wordL e.doo = []
          · exact .inl h1
          · by_cases h2 : 0 ≤ e.who
            · exact .inr (.inr ⟨h1, h2, by by_cases h3 : 0 ≤ e.n; exact absurd ⟨h1, h2, h3⟩ hno; omega⟩)
            · exact .inr (.inl ⟨h1, by omega⟩)
        clear hok HR HFE HX
        generalize bT (Tl.wordL e.doo) = WD at hwl
        rcases hbad with h1 | ⟨h1, h2⟩ | ⟨h1, h2, h3⟩
        · rw [h1] at hwl
          clear h1
          go_wp2_with fail
          go_roundw
          case rel => exact ⟨k + 1, by omega, by go_num, by rw [TextRel, HT.out]; exact ⟨IsB_kp HB.out HKA.out, HK.out.thenNo HKA.out⟩⟩
          case measure => simp [intOf]; omega
        · obtain ⟨x0, xs0, hx0⟩ := List.exists_cons_of_ne_nil h1
          rw [hx0] at hwl
          clear h1 hx0
          go_wp2_with fail
          go_roundw
          case rel => exact ⟨k + 1, by omega, by go_num, by rw [TextRel, HT.out]; exact ⟨IsB_kp HB.out HKA.out, HK.out.thenNo HKA.out⟩⟩
          case measure => simp [intOf]; omega
        · obtain ⟨x0, xs0, hx0⟩ := List.exists_cons_of_ne_nil h1
          rw [hx0] at hwl
          clear h1 hx0
          go_wp2_with fail
          go_roundw
          case rel => exact ⟨k + 1, by omega, by go_num, by rw [TextRel, HT.out]; exact ⟨IsB_kp HB.out HKA.out, HK.out.thenNo HKA.out⟩⟩
          case measure => simp [intOf]; omega
      | true =>
        have HT := Lib.hid (text_step HX.out hok)
        obtain ⟨h1, h2, h3⟩ := (Tl.okE_iff e).1 hok
        obtain ⟨x0, xs0, hx0⟩ := List.exists_cons_of_ne_nil h1
        have hwl2 : (bT (Tl.wordL e.doo)).toList = x0 :: xs0 := hwl.trans hx0
        clear hwl
        have HJ := Lib.hid fun W => join6 (Tl.wordL e.doo) (Lib.itoa e.who) (Lib.itoa e.n) (Tl.hexL (bT e.text).data.toList) (Tl.hexL (bT e.val).data.toList) (Tl.hexL (bT e.to_).data.toList) W (by
          have := lineL_len e HFE.out
          rw [Tl.lineL_eq, List.length_append] at this
          unfold Tl.bodyL at this
          rw [bT_list, bT_list, bT_list]
          omega)
        have HLN := Lib.hid (show bT (Lib.join [Tl.wordL e.doo, Lib.itoa e.who, Lib.itoa e.n, Tl.hexL (bT e.text).data.toList, Tl.hexL (bT e.val).data.toList, Tl.hexL (bT e.to_).data.toList] [32]) ++ ⟨#[10]⟩ = bT (Tl.lineL e) by
          rw [Tl.lineL, bT_list, bT_list, bT_list]; apply ByteArray.ext; simp [bT])
        have hTJ : (bT (Lib.join [Tl.wordL e.doo, Lib.itoa e.who, Lib.itoa e.n, Tl.hexL (bT e.text).data.toList, Tl.hexL (bT e.val).data.toList, Tl.hexL (bT e.to_).data.toList] [32])).size ≤ 6000070 := by
          have := lineL_len e HFE.out
          rw [Tl.lineL_eq, List.length_append] at this
          unfold Tl.bodyL at this
          rw [bT_list, bT_list, bT_list, bT_size]
          omega
        unfold RetS at HJ
        have hTJ2 : ¬ 9223372036854775807 < (bT (Lib.join [Tl.wordL e.doo, Lib.itoa e.who, Lib.itoa e.n, Tl.hexL (bT e.text).data.toList, Tl.hexL (bT e.val).data.toList, Tl.hexL (bT e.to_).data.toList] [32])).size + 1 := by omega
        generalize bT (Lib.join [Tl.wordL e.doo, Lib.itoa e.who, Lib.itoa e.n, Tl.hexL (bT e.text).data.toList, Tl.hexL (bT e.val).data.toList, Tl.hexL (bT e.to_).data.toList] [32]) = TJ at HJ HLN hTJ hTJ2
        have HW := Lib.hid fun W (k1 : Kp No wr W) => Any.Builder_WriteString_k Tryd.lays166 Tryd.Builder_Extra_166 w.heap.size w.heap.size (Lib.byteCells (Tl.textL (es.take k))) (bT (Tl.lineL e)) W (IsB_kp HB.out k1) (by
          rw [Lib.byteCells_length, bT_size]
          have := lineL_len e HFE.out
          have := textL_len (es.take k) (fun x hx => HF.out x (List.mem_of_mem_take hx))
          rw [List.length_take] at this
          omega) (Nat.le_trans hsz k1.size)
        rw [cells_line, ← HT.out] at HW
        have HN := Lib.hid fun W (s : TxS w wr.heap.size e W) (n : Int) (hn : n = e.who ∨ n = e.n) => itoa_c n (by rcases hn with rfl | rfl; exact HFE.out.2.2.2.1; exact HFE.out.2.2.2.2) W (HE.out.kp s.2.2.2.2.2.out.1)
        have HBY := Lib.hid fun W (s : ByteArray) (hs : s = bT e.text ∨ s = bT e.val ∨ s = bT e.to_) => bytes_c s W (by rcases hs with rfl | rfl | rfl <;> rw [bT_size]; exact HFE.out.1; exact HFE.out.2.1; exact HFE.out.2.2.1)
        clear hok HR HX h1 hx0 HFE
        generalize bT (Tl.wordL e.doo) = WD at *
        have HTX : TxS w wr.heap.size e w1 := TxS.mk (HK.out.thenNo HKA.out) hB0.out
        have HBX : Kp No wr w1 := HKA.out
        have hgne : wr.heap.size ≠ w.heap.size := fun e => by have := (HB.out.elim (·.lt) (·.lt) : w.heap.size < wr.heap.size); omega
        clear hB0 HKA f0 f1 f2 f3 f4 f5
        go_wp2_with fail
        go_region_held3 (fun W => W.cell? ⟨wr.heap.size, 1, none⟩ = some (.int .i64 e.who) ∧ W.cell? ⟨wr.heap.size, 2, none⟩ = some (.int .i64 e.n) ∧ W.cell? ⟨wr.heap.size, 3, none⟩ = some (.string (bT e.text)) ∧ W.cell? ⟨wr.heap.size, 4, none⟩ = some (.string (bT e.val)) ∧ W.cell? ⟨wr.heap.size, 5, none⟩ = some (.string (bT e.to_)) ∧ Hid (Kp No w W ∧ W.heap[wr.heap.size]? = some (evB e))) ((first
          | assumption
          | (refine TxS.wr (w := w) (g := wr.heap.size) (e := e) (by assumption) hgne ?_ ?_ <;> assumption)
          | (refine TxS.kp (w := w) (g := wr.heap.size) (e := e) (by assumption) ?_; (first | assumption | exact (Kp.refl _ _).drew | exact (Kp.refl _ _).alloc _)))) ((first
          | (go_at_call 18; refine (HN.out _ (by assumption) _ (by simp)).mono ?_; rintro en wx ⟨rfl, hk⟩)
          | (go_at_call 19; refine (HBY.out _ _ (by simp)).mono ?_; rintro en wx ⟨rfl, hk⟩)
          | (go_at_call 17; refine (HJ.out _).mono ?_; rintro en wx ⟨rfl, hk⟩)
          | (go_at_call 16; rw [HLN.out]; refine (HW.out _ (by repeat (first | exact Kp.refl _ _ | assumption | (refine Kp.thenNo ?_ (by assumption)) | apply Kp.alloc | apply Kp.drew))).mono ?_; rintro en wx ⟨rfl, hkb, hkw, hko⟩)))
        have HEND := Lib.hid (show TextRel w es (k + 1) wx from ⟨.inr hkb, (show TxS w wr.heap.size e wx by assumption).2.2.2.2.2.out.1⟩)
        clear hkb hkw hko
        go_wp2_with fail
        go_roundw
        case rel => exact ⟨k + 1, by omega, by go_num, HEND.out⟩
        case measure => simp [intOf]; omega
    · obtain rfl : k = es.length := by omega
      rw [List.take_length] at HB
      have HS2 := Lib.hid (Any.Builder_String_any_k Tryd.lays169 Tryd.Builder_Extra_169 w.heap.size w.heap.size (Tl.textL es) wr HB.out hsz)
      go_wp2_with fail
      refine HS2.out.mono ?_
      rintro en w2 ⟨rfl, _, hbel, _⟩
      have HFI := Lib.hid (show RetS w (Tl.textL es) (.returned (.string ⟨(Tl.textL es).toArray⟩)) w2 from ⟨rfl, HK.out.belowOf hbel⟩)
      generalize (⟨(Tl.textL es).toArray⟩ : ByteArray) = T at *
      go_wp2_with fail
      go_ret
      exact HFI.out

end Go.Proofs.YtekgojolfckiiaaDoor
