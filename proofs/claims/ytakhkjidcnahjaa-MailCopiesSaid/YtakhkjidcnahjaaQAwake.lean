/- The example of the mail's law. -/
import Derived.Test.YtakhkjidcnahjaaQPlain
set_option linter.unusedVariables false
set_option linter.unusedSimpArgs false
namespace Go.Proofs.Ytakhkjidcnahjaa
open Go.RowKit

theorem srcF_new {α : Type} (sz : Nat) (f : α → List Value) (hf : ∀ x, (f x).length = sz) (W : World) (n0 : Nat) (hz : n0 = W.heap.size) (cs : Array Value) (T : TypeId) (l : List α) (h : cs.toList = l.flatMap f) {n : Nat} (hn : l.length = n) :
    SrcF sz f (One n0) (W.alloc (.cells cs T)) (some ⟨n0, 0, none⟩) n l := by
  subst hz
  refine ⟨hn, by rintro ad ⟨⟩; rfl, fun _ => ⟨_, 0, rfl, rfl, fun i x hi j u hu => ?_⟩⟩
  rw [Nat.zero_add, cell_new, ← flat_get f sz hf l hi hu, ← h, Array.getElem?_toList]
theorem notesR_hdr (l : List LNote) (w : World) (h : ∀ x, x ∈ l → ∃ k f t ep ti, x = wp_ k f t ep ti) : NotesR No w l := by
  intro x hx
  obtain ⟨k, f, t, ep, ti, rfl⟩ := h x hx
  exact NoteR.hdr _ _ _ _ _ _
theorem NoteR.mono {ok ok' : Nat → Prop} {w : World} {n : Note} {A1 A2 A3 A4 : Option Addr} (h : NoteR ok w n A1 A2 A3 A4) (hm : ∀ b, ok b → ok' b) (ha : Apt No w ok') : NoteR ok' w n A1 A2 A3 A4 :=
  ⟨h.rl.mono hm, h.l.mono hm, lasts_mono h.last hm, h.at_.mono hm, ha⟩

def AwakeP (w : World) (en : Ending) (w' : World) : Prop := en = .returned (.bool true) ∧ Kp No w w'
def awakeT : ByteArray := bytesT (packB (hdr 3 100 0 0 0))
theorem awake_send : sendS [] [wp_ 3 100 0 0 0, wp_ 99 0 0 0 0] = ([awakeT], 1) := by
  simp only [sendS, wp_, List.map_cons, List.map_nil, List.foldl_cons, List.foldl_nil, sendStep, packR_may mayS_where, packR_not mayS_99, List.length_nil]
  rfl
set_option maxRecDepth 100000 in
set_option maxHeartbeats 2000000 in
theorem awake_c (w : World) : Calls Try.prog 5 #[] w (AwakeP w) := by
  have HRD := Lib.hid (reads_plain 3 100 0 0 0 (.inl rfl) mayS_where)
  have hz : awakeT.size ≤ 1000 := by
    have h : (packB (hdr 3 100 0 0 0)).length = 20 := by rw [packB, packBody_plain (.inl rfl), List.append_nil, numsB_length]; rfl
    unfold awakeT
    rw [bytesT_size, h]; omega
  have HSD := Lib.hid awake_send
  generalize hT : awakeT = T at hz HSD
  have HT := Lib.hid hT
  rw [show bytesT (packB (hdr 3 100 0 0 0)) = T from hT] at HRD
  clear hT
  go_enter Try.func5, Try.ntmps5
  go_wp2_with fail
  refine (mailNew_c _).mono ?_
  rintro e w1 ⟨rfl, hw1⟩
  have HM1 := Lib.hid (show Mal w1 (w.heap.size + 1) w.heap.size none [] by rw [hw1]; exact Mal.made w)
  have HK1 := Lib.hid (show Kp No w w1 by rw [hw1]; exact ((Kp.refl _ _).alloc _).alloc _)
  have hl1 : w.heap.size + 1 < w1.heap.size := by rw [hw1]; simp
  clear hw1
  go_wp2_with fail
  refine (send_c (ok := One w1.heap.size) (HM1.out.kpNo ((Kp.refl _ _).alloc _)) [wp_ 3 100 0 0 0, wp_ 99 0 0 0 0] (c := 2) (srcF_new 27 LNote.cs LNote.cs_len w1 _ rfl _ 49 _ rfl rfl) ?_ ?_ ?_ (by simp)).mono ?_
  · intro x hx
    have hx' : x = wp_ 3 100 0 0 0 ∨ x = wp_ 99 0 0 0 0 := by simpa using hx
    rcases hx' with rfl | rfl
    · exact (NoteR.hdr _ _ _ _ _ _).mono (fun _ e => e.elim) (fun y e => by simp only [One] at e; subst e; exact ⟨by simp, not_No _⟩)
    · exact (NoteR.hdr _ _ _ _ _ _).mono (fun _ e => e.elim) (fun y e => by simp only [One] at e; subst e; exact ⟨by simp, not_No _⟩)
  · intro y e
    simp only [One] at e
    subst e
    refine ⟨by simp, fun e => ?_⟩
    rcases e with e | e | e
    · omega
    · omega
    · cases e
  · intro x hx
    have hx' : x = wp_ 3 100 0 0 0 ∨ x = wp_ 99 0 0 0 0 := by simpa using hx
    rcases hx' with rfl | rfl
    · exact NoteP.hdr _ _ _ _ _ (by omega)
    · exact NoteP.hdr _ _ _ _ _ (by omega)
  intro en w2 h2
  rw [HSD.out] at h2
  obtain ⟨rfl, o2, hM2, hN2, hk2⟩ := h2
  have HM2 := Lib.hid (show Mal w2 (w.heap.size + 1) w.heap.size o2 [T] from hM2)
  have HK2 := Lib.hid (show Kp No w w2 from Kp.trans (HK1.out.alloc _) hk2 (fun i hi e => by rcases e with e | e; exact absurd e (by omega); cases e))
  have HO2 := Lib.hid (show ∀ k, o2 = some k → w.heap.size ≤ k from fun k hk => by
    rcases hN2 with rfl | ⟨y, rfl, hy⟩
    · cases hk
    · injection hk with hk; simp at hy; omega)
  clear hM2 hN2 hk2
  go_wp2_with fail
  refine (copy_room HM2.out 0 (j := 0) (x := T) rfl rfl (by simp)).mono ?_
  rintro en w3 ⟨rfl, o3, hM3, hN3, hk3⟩
  have HM3 := Lib.hid (show Mal w3 (w.heap.size + 1) w.heap.size o3 [T, T] from hM3)
  have HK3 := Lib.hid (show Kp No w w3 from Kp.trans HK2.out hk3 (fun i hi e => by rcases e with e | e; exact absurd e (by omega); have := HO2.out _ e; omega))
  have HO3 := Lib.hid (show ∀ k, o3 = some k → w.heap.size ≤ k from fun k hk => by
    rcases hN3 with rfl | ⟨y, rfl, hy⟩
    · exact HO2.out k hk
    · injection hk with hk; have := HK2.out.size; omega)
  clear hM3 hN3 hk3
  go_wp2_with fail
  refine (take_some HM3.out 0 (j := 0) (x := T) rfl rfl HRD.out (by omega)).mono ?_
  rintro en w4 ⟨A1, A2, A3, A4, c1, c2, c3, c4, ok', rfl, hn4, hok4, hM4, hk4⟩
  have HM4 := Lib.hid (show Mal w4 (w.heap.size + 1) w.heap.size o3 [T] from hM4)
  have HK4 := Lib.hid (show Kp No w w4 from Kp.trans HK3.out hk4 (fun i hi e => by rcases e with e | e; exact absurd e (by omega); have := HO3.out _ e; omega))
  clear hn4 hok4 hM4 hk4
  go_wp2_with (first | (refine store_note (g := w4.heap.size) (n := hdr 3 100 0 0 0) (A1 := A1) (A2 := A2) (A3 := A3) (A4 := A4) (c1 := c1) (c2 := c2) (c3 := c3) (c4 := c4) (heap_alloc_new _ _) rfl rfl (.tmp 4) (.tmp 19) rfl rfl rfl rfl ?_; intro w5 hb5 hk5; have q5 : w5.cell? ⟨w4.heap.size, 0, none⟩ = some (.int .i64 3) := hb5.at_ 0 rfl; have HK5 := Lib.hid (show Kp No w4 w5 from Kp.trans ((Kp.refl _ _).alloc _) hk5 (fun i hi e => by simp only [One] at e; omega)); clear hb5 hk5) | fail)
  refine (mailLen_c (HM4.out.kpNo HK5.out)).mono ?_
  rintro en w6 ⟨rfl, rfl⟩
  go_wp2_with fail
  go_ret
  exact ⟨rfl, HK4.out.thenNo HK5.out⟩

end Go.Proofs.Ytakhkjidcnahjaa
