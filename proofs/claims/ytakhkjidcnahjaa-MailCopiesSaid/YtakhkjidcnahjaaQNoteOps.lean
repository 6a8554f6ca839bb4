/- Whole notes stored and handed back; note.read where nothing is left to read. -/
import Derived.Test.YtakhkjidcnahjaaQPure1
import Derived.Test.YtakhkjidcnahjaaQSpool
import Derived.Laws.Tables
set_option linter.unusedVariables false
set_option linter.unusedSimpArgs false
namespace Go.Proofs.Ytakhkjidcnahjaa
open Go.RowKit

theorem Kp.setRow {S : Nat → Prop} {a w : World} (h : Kp S a w) {p : Nat} (hp : p < a.heap.size → S p) (cs : Array Value) : Kp S a (w.setRow p cs) :=
  ⟨h.os, h.tape, h.output, by simpa [World.setRow] using h.size, fun i hi hn => by
    rw [show (w.setRow p cs).heap[i]? = w.heap[i]? from by
      simp only [World.setRow, Array.getElem?_modify]
      rw [if_neg (fun e => hn (by subst e; exact hp hi))]]
    exact h.block i hi hn⟩
theorem noteC_size (n : Note) (A1 A2 A3 A4 : Option Addr) (c1 c2 c3 c4 : Nat) : (noteC n A1 A2 A3 A4 c1 c2 c3 c4).size = 27 := rfl
theorem noteC_one (n : Note) (A1 A2 A3 A4 : Option Addr) (c1 c2 c3 c4 : Nat) : (noteC n A1 A2 A3 A4 c1 c2 c3 c4).all (·.oneCell') = true := by simp [noteC, Value.oneCell']
/-- A whole note stored into a block of notes' size. -/
theorem store_note {ops : Array Oper} {rest : List Oper} {o : Oper} {a : Act} {w : World} {Q : Exit → Act → World → Prop} {g : Nat} {n : Note} {A1 A2 A3 A4 : Option Addr} {c1 c2 c3 c4 : Nat} {old : Array Value}
    (hb : w.heap[g]? = some (.cells old 49)) (hold : old.size = 27) (hgd : o.guard = none) (x y : Operand) (ho : o.op = .store 49 x y) (hd : o.dst = none) (hx : a.eval x = .pointer (some ⟨g, 0, none⟩)) (hy : a.eval y = noteV n A1 A2 A3 A4 c1 c2 c3 c4)
    (h : ∀ w1, NoteBox w1 g n A1 A2 A3 A4 c1 c2 c3 c4 → Kp (One g) w w1 → wpList Try.prog ops Q rest a w1) : wpList Try.prog ops Q (o :: rest) a w := by
  refine wpList_store_row hgd 49 x y ho g (noteC n A1 A2 A3 A4 c1 c2 c3 c4) hx hy 49 old hb infoNote (by rw [hold]; rfl) (noteC_one _ _ _ _ _ _ _ _ _) ?_
  rw [hd]
  exact h _ (setRow_heap w g old _ _ _ hb) ((Kp.refl _ _).setRow (fun _ => One.mk _) _)
/-- One result: a struct in a cell. -/
theorem results_c1 {fn : Func} {p : Tmp} {ty : TypeId} (h : fn.results = #[.cell p ty]) (tmps : Array Value) (w : World) (g : Nat) (t : TypeId) (cs : Array Value) {fs : Array Field}
    (hp : tmps.getD p undef = .pointer (some ⟨g, 0, none⟩)) (hg : w.heap[g]? = some (.cells cs t)) (hu : Try.prog.underlying ty = some (.struct fs)) (hi : (Try.prog.info? ty).map (·.size) = some cs.size) :
    (results fn tmps).run Try.prog w = .ok (.agg cs) w := by
  have hl := run_loadVar_row (P := Try.prog) w g t ty cs (0, 0) _ hg hu rfl hi
  have hp' : tmps[p]?.getD undef = .pointer (some ⟨g, 0, none⟩) := by simpa using hp
  simp [results, h, hp', asAddr, hl]

theorem Rdr.setE {ok : Nat → Prop} {w : World} {b : Nat} {e : Int} {bs : List UInt8} (h : Rdr ok w b e bs) (e1 : Int) : Rdr ok (w.setCell ⟨b, 1, none⟩ (.int .i64 e1)) b e1 bs := by
  have H := Lib.hid h
  have hl := h.lt
  obtain ⟨A, c, h0, h1, z0, z1, hc, hc2, hs, ha⟩ := h
  exact H.out.put (A1 := A) (c1 := c) ((Kp.refl _ _).set1) (by go_simp) (by go_simp) (by go_simp) (by go_simp) hc hc2 hs
/-- A note of which the head alone is known. -/
def hdr (k f t ep ti : Int) : Note := ⟨k, f, t, ep, ti, Ask.zero, Reply.zero, Span.zero, [], [], Atlas.zero⟩
theorem NoteR.hdr (k f t ep ti : Int) (w : World) : NoteR No w (hdr k f t ep ti) none none none none :=
  ⟨⟨rfl, by simp, fun h => absurd h (Nat.lt_irrefl 0)⟩, ⟨rfl, by simp, fun h => absurd h (Nat.lt_irrefl 0)⟩, ⟨rfl, by simp, fun h => absurd h (Nat.lt_irrefl 0)⟩, ⟨rfl, by simp, fun h => absurd h (Nat.lt_irrefl 0)⟩, fun x h => h.elim⟩
/-- What note.read leaves: a note, its slices in new blocks; the reader further on. -/
def NreadP (ok : Nat → Prop) (w : World) (b : Nat) (n : Note) (e1 : Int) (bs1 : List UInt8) (en : Ending) (w' : World) : Prop :=
  ∃ A1 A2 A3 A4 c1 c2 c3 c4 ok', en = .returned (noteV n A1 A2 A3 A4 c1 c2 c3 c4) ∧ Rdr ok w' b e1 bs1 ∧ NoteR ok' w' n A1 A2 A3 A4 ∧ (∀ x, ok' x → w.heap.size ≤ x) ∧ Kp (One b) w w'

set_option maxHeartbeats 1000000 in
theorem nread_plain {ok : Nat → Prop} {w : World} {b : Nat} {e : Int} {bs : List UInt8} (k f t ep ti : Int) (h : Rdr ok w b e bs) (hk : k < 1 ∨ k = 3 ∨ k = 5 ∨ 12 < k) :
    Calls Try.prog 50 #[.pointer (some ⟨b, 0, none⟩), noteV (hdr k f t ep ti) none none none none 0 0 0 0] w (NreadP ok w b (hdr k f t ep ti) e bs) := by
  have H := Lib.hid h
  have hlt := h.lt
  obtain ⟨A, c, h0, h1, z0, z1, _, _, _, _⟩ := h
  have k1 : (k == 1) = false := by simp; omega
  have k2 : (k == 2) = false := by simp; omega
  have k4 : (k == 4) = false := by simp; omega
  have k6 : (k == 6) = false := by simp; omega
  have k7 : (k == 7) = false := by simp; omega
  have k8 : (k == 8) = false := by simp; omega
  have k9 : (k == 9) = false := by simp; omega
  have k10 : (k == 10) = false := by simp; omega
  have k11 : (k == 11) = false := by simp; omega
  have k12 : (k == 12) = false := by simp; omega
  obtain ⟨W0, HW⟩ : ∃ W0, Boxed w W0 (hdr k f t ep ti) none none none none 0 0 0 0 := ⟨_, rfl⟩
  have HB := Lib.hid HW.box
  have HK := Lib.hid HW.kp
  clear hk
  unfold noteV noteC hdr
  have HN0 := Lib.hid fun (W : World) (hs : W.heap.size = w.heap.size) =>
    (show NoteBox ((W.alloc (.cells (noteC (hdr k f t ep ti) none none none none 0 0 0 0) 49)).alloc (.cells (noteC Note.zero none none none none 0 0 0 0) 49)) w.heap.size (hdr k f t ep ti) none none none none 0 0 0 0 from by rw [← hs]; exact heap_alloc2_old _ _ _)
  have HN1 := Lib.hid fun (W : World) (hs : W.heap.size = w.heap.size) =>
    (show NoteBox ((W.alloc (.cells (noteC (hdr k f t ep ti) none none none none 0 0 0 0) 49)).alloc (.cells (noteC Note.zero none none none none 0 0 0 0) 49)) (w.heap.size + 1) Note.zero none none none none 0 0 0 0 from by rw [← hs]; exact heap_alloc2_new _ _ _)
  cases he : e == 0
  · go_enter Try.func50, Try.ntmps50
    go_wp2_with (first
      | (refine load_note (g := w.heap.size) (n := hdr k f t ep ti) (HN0.out _ rfl) (.tmp 3) rfl ?_ rfl ?_; exact rfl)
      | (refine store_note (n := hdr k f t ep ti) (HN1.out _ rfl) rfl rfl (.tmp 4) (.tmp 63) rfl rfl rfl rfl ?_; intro w2 hb2 hk2))
    have k2 : Kp No w w2 := Kp.trans (((Kp.refl _ _).alloc _).alloc _) hk2 (fun i hi e => by simp only [One] at e; omega)
    exact bodyPost_ret (results_c1 Try.results50 _ _ (w.heap.size + 1) _ _ rfl hb2 Try.underlying49 infoNote) rfl
      ⟨none, none, none, none, 0, 0, 0, 0, No, rfl, H.out.kpNo k2, NoteR.hdr _ _ _ _ _ _, fun x h => h.elim, k2.ofNo⟩
  · go_enter Try.func50, Try.ntmps50
    go_wp2_with (first
      | (refine load_note (g := w.heap.size) (n := hdr k f t ep ti) (HN0.out _ (setCell_size w ⟨b, 1, none⟩ (.int .i64 0))) (.tmp 3) rfl ?_ rfl ?_; exact rfl)
      | (refine store_note (n := hdr k f t ep ti) (HN1.out _ (setCell_size w ⟨b, 1, none⟩ (.int .i64 0))) rfl rfl (.tmp 4) (.tmp 63) rfl rfl rfl rfl ?_; intro w2 hb2 hk2))
    have k2 : Kp (One b) w w2 := Kp.trans (((Kp.set1 (Kp.refl _ _)).alloc _).alloc _) hk2 (fun i hi e => by simp only [One] at e; omega)
    refine bodyPost_ret (results_c1 Try.results50 _ _ (w.heap.size + 1) _ _ rfl hb2 Try.underlying49 infoNote) rfl
      ⟨none, none, none, none, 0, 0, 0, 0, No, rfl, ?_, NoteR.hdr _ _ _ _ _ _, fun x h => h.elim, k2⟩
    have h3 := (H.out.setE 0).kpNo (((Kp.refl _ _).alloc (.cells (noteC (hdr k f t ep ti) none none none none 0 0 0 0) 49)).alloc (.cells (noteC Note.zero none none none none 0 0 0 0) 49))
    rw [show e = 0 from by simpa using he]
    refine h3.kp (S := One (w.heap.size + 1)) hk2 (fun e => by simp only [One] at e; omega) (fun x hx e => ?_)
    obtain ⟨_, _, _, _, _, _, _, _, _, ha⟩ := H.out
    have := (ha x hx).1
    simp only [One] at e
    omega
end Go.Proofs.Ytakhkjidcnahjaa
