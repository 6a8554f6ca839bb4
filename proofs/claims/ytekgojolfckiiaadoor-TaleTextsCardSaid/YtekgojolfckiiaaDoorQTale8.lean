/- The law side: Made, made, Small. -/
import Derived.Test.YtekgojolfckiiaaDoorQTale7
set_option linter.unusedVariables false
set_option linter.unusedSimpArgs false
namespace Go.Proofs.YtekgojolfckiiaaDoor
open Go.RowKit

theorem infoLev : (Tryd.prog.info? 27).map (·.size) = some 6 := by kernel_rfl
set_option maxRecDepth 100000 in
theorem made1_c (d who n : Int) (t v o : ByteArray) (w : World) : Calls Tryd.prog 21 #[.agg (evC d who n t v o)] w fun e w' => e = .returned (.agg (evC d who n t v o)) ∧ Kp No w w' := by
  unfold evC
  go_enter Tryd.func21, Tryd.ntmps21
  go_wp2_with fail
  refine bodyPost_ret (results_c1 Tryd.results21 _ _ (w.heap.size + 1) _ _ rfl (heap_alloc_at _ _ _ (by simp)) Tryd.underlying39 infoEv) rfl ?_
  exact ⟨rfl, ((Kp.refl _ _).alloc _).alloc _⟩

def MadeRel (w : World) (es : List Tl.Ev) (k : Nat) (v : Value) (wr : World) : Prop := ∃ o, OwnR 39 6 evL_ wr v o (es.take k) ∧ Kp No w wr ∧ ∀ y, o = some y → w.heap.size ≤ y
def MadeP (w : World) (es : List Tl.Ev) (en : Ending) (w' : World) : Prop := Kp No w w' ∧ ∃ A c, en = .returned (.slice A es.length c) ∧ SrcF 6 evL_ (· < w'.heap.size) w' A es.length es
set_option maxRecDepth 100000 in
set_option maxHeartbeats 2000000 in
theorem made_c (es : List Tl.Ev) (A : Option Addr) (c : Nat) (w : World) (hs : SrcF 6 evL_ (· < w.heap.size) w A es.length es) (hl : es.length ≤ 10001) : Calls Tryd.prog 10 #[.slice A es.length c] w (MadeP w es) := by
  have HS := Lib.hid hs
  clear hs
  go_enter Tryd.func10, Tryd.ntmps10
  go_wp2_with fail
  go_loopw [3, 4] (fun v i wr => ∃ k : Nat, k ≤ es.length ∧ i = .int .i64 k ∧ MadeRel w es k v wr) (fun _ i _ => es.length - (intOf i).toNat)
  case atStart => exact ⟨0, Nat.zero_le _, rfl, none, by simpa using OwnR.nil _ _ _ _, Kp.refl _ _, by simp⟩
  case round =>
    obtain ⟨k, hk, rfl, o, ho, hkp, hoy⟩ := hrel
    have HO := Lib.hid ho
    have HK := Lib.hid hkp
    have HY := Lib.hid hoy
    obtain ⟨A1, n1, c1, rfl⟩ := ho.form
    clear ho hkp hoy
    by_cases hlt : k < es.length
    · have hx : es[k]? = some es[k] := List.getElem?_eq_getElem hlt
      generalize es[k] = e at hx
      obtain ⟨g, off, rfl, hg, hcell⟩ := HS.out.2.2 (by omega)
      have hrange : wr.rangeAt g (off + k * 6) (evL_ e) := fun j v hv => by
        rw [Nat.add_assoc]
        exact (HK.out.cell _ _ hg (not_No _)).trans (hcell k e hx j v hv)
      have HR := Lib.hid hrange
      have HX := Lib.hid hx
      have HDL := Lib.hid (show (es.take k).length ≤ 10001 by rw [List.length_take]; omega)
      clear hx hg hcell hrange
      go_wp2_with (first
        | (refine wpList_load_mid rfl 27 (.tmp 14) rfl g (off + k * 6) ?_ (evL_ e) _ HR.out Tryd.underlying27 rfl infoLev ?_; (rfl)))
      rw [show (evL_ e).toArray = evC e.doo e.who e.n (bT e.text) (bT e.val) (bT e.to_) from rfl]
      refine (made1_c _ _ _ _ _ _ _).mono ?_
      rintro en w1 ⟨rfl, hk1⟩
      have HK1 := Lib.hid hk1
      clear hk1
      unfold evC
      go_wp2_with (at_builtin; refine app_one evL_ evL_len evL_one Tryd.underlying29 infoEv3 rfl (by omega) rfl _ _ rfl _ o (es.take k) e rfl ⟨w1.heap.size, 0, none⟩ 1 rfl ?c1 ?c2 (by have := HDL.out; omega) (by have := HDL.out; omega) ?_)
      case c1 => exact cells_new _ _ rfl _ _ _ rfl
      case c2 => exact HO.out.kpNo (HK1.out.alloc _)
      intro v1 w3 o1 hr1 hn1 hk2
      have HR1 := Lib.hid hr1
      have HN1 := Lib.hid (Nxt.of_le (w := wr) hn1 (by have := HK1.out.size; simp; omega))
      have HK3 := Lib.hid (show Kp No w w3 from (HK.out.thenNo (HK1.out.alloc _)).trans hk2 (fun i hi e => by have := HY.out _ e; omega))
      clear hr1 hn1 hk2
      go_wp2_with fail
      go_roundw
      case rel =>
        refine ⟨k + 1, by omega, by go_num, o1, ?_, HK3.out, ?_⟩
        · rw [List.take_add_one, HX.out]; exact HR1.out
        · intro y hy
          have := HK.out.size
          rcases HN1.out with rfl | ⟨y', rfl, hy'⟩
          · exact HY.out _ hy
          · injection hy with hy; omega
      case measure => simp [intOf]; omega
    · obtain rfl : k = es.length := by omega
      have HF := Lib.hid (show MadeP w es (.returned (.slice A1 n1 c1)) wr from by
        have h1 := HO.out.src evL_len
        rw [List.take_length] at h1
        obtain ⟨h2, rfl⟩ := h1
        exact ⟨HK.out, A1, c1, rfl, h2.mono fun b hb => HO.out.lt hb⟩)
      go_wp2_with fail
      go_ret
      exact HF.out

def smallB (es : List Tl.Ev) (most : Nat) : Bool := decide (es.length ≤ most) && es.all fun e => decide (e.text.length + e.val.length + e.to_.length ≤ 2000)
def badAt (es : List Tl.Ev) (most k : Nat) : Bool := decide (most ≤ k) || (match es[k]? with | some e => decide (2000 < e.text.length + e.val.length + e.to_.length) | none => false)
theorem small_bad {es : List Tl.Ev} {most k : Nat} (hk : k < es.length) (h : badAt es most k = true) : smallB es most = false := by
  unfold badAt at h
  rw [List.getElem?_eq_getElem hk] at h
  simp only [Bool.or_eq_true, decide_eq_true_eq] at h
  unfold smallB
  rcases h with h | h
  · rw [decide_eq_false (by omega)]; rfl
  · rw [Bool.and_eq_false_iff]
    right
    rw [List.all_eq_false]
    exact ⟨es[k], List.getElem_mem hk, by simp; omega⟩
theorem small_ok {es : List Tl.Ev} {most : Nat} (h : ∀ k, k < es.length → badAt es most k = false) : smallB es most = true := by
  unfold smallB
  rw [Bool.and_eq_true]
  constructor
  · rcases Nat.lt_or_ge most es.length with hlt | hge
    · have := h most hlt
      unfold badAt at this
      simp at this
    · simpa using hge
  · rw [List.all_eq_true]
    intro e he
    obtain ⟨k, hk, rfl⟩ := List.getElem_of_mem he
    have := h k hk
    unfold badAt at this
    rw [List.getElem?_eq_getElem hk] at this
    simp at this ⊢
    omega

end Go.Proofs.YtekgojolfckiiaaDoor
