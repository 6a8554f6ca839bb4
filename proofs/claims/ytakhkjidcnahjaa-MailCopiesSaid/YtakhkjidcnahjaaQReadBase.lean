/- The reader's methods, their answers by names; the bytes of a text. -/
import Derived.Test.YtakhkjidcnahjaaQPack1
set_option linter.unusedVariables false
set_option linter.unusedSimpArgs false
namespace Go.Proofs.Ytakhkjidcnahjaa
open Go.RowKit

def TextP' (ok : Nat → Prop) (w : World) (b : Nat) (t : ByteArray) (e1 : Int) (bs1 : List UInt8) (en : Ending) (w' : World) : Prop :=
  en = .returned (.string t) ∧ Rdr ok w' b e1 bs1 ∧ Kp (One b) w w'
theorem text_n {ok : Nat → Prop} {w : World} {b : Nat} {e : Int} {bs : List UInt8} (h : Rdr ok w b e bs) {t : ByteArray} {e1 : Int} {bs1 : List UInt8} (hS : textS e bs = (t, e1, bs1)) :
    Calls Try.prog 64 #[.pointer (some ⟨b, 0, none⟩)] w (TextP' ok w b t e1 bs1) := by
  refine (text_c h).mono ?_
  rintro en w' ⟨rfl, hr, hk⟩
  rw [hS] at hr ⊢
  exact ⟨rfl, hr, hk⟩
def TruthP' (ok : Nat → Prop) (w : World) (b : Nat) (t : Bool) (e1 : Int) (bs1 : List UInt8) (en : Ending) (w' : World) : Prop :=
  en = .returned (.bool t) ∧ Rdr ok w' b e1 bs1 ∧ Kp (One b) w w'
theorem truth_n {ok : Nat → Prop} {w : World} {b : Nat} {e : Int} {bs : List UInt8} (h : Rdr ok w b e bs) {t : Bool} {e1 : Int} {bs1 : List UInt8} (hS : truthS e bs = (t, e1, bs1)) :
    Calls Try.prog 70 #[.pointer (some ⟨b, 0, none⟩)] w (TruthP' ok w b t e1 bs1) := by
  refine (truth_c h).mono ?_
  rintro en w' ⟨rfl, hr, hk⟩
  rw [hS] at hr ⊢
  exact ⟨rfl, hr, hk⟩
def EndP' (w : World) (b : Nat) (e1 : Int) (en : Ending) (w' : World) : Prop := en = .returned (.int .i64 e1) ∧ Kp (One b) w w'
theorem end_n {ok : Nat → Prop} {w : World} {b : Nat} {e : Int} {bs : List UInt8} (h : Rdr ok w b e bs) {e1 : Int} (hS : endS e bs = e1) :
    Calls Try.prog 52 #[.pointer (some ⟨b, 0, none⟩)] w (EndP' w b e1) := by
  refine (end_c h).mono ?_
  rintro en w' ⟨rfl, hk⟩
  rw [hS]
  exact ⟨rfl, hk⟩
/-- A reader that has just been made over bytes. -/
theorem Rdr.made {ok : Nat → Prop} {w W : World} {b c : Nat} {A : Option Addr} {bs : List UInt8} (hb : W.heap[b]? = some (.cells #[.slice A bs.length c, .int .i64 0] 112)) (hs : Src ok w A bs.length bs) (ha : Apt No w ok) (hbw : w.heap.size ≤ b) (k : Kp No w W)
    (hc : bs.length ≤ c) (hc2 : c ≤ 9223372036854775807) : Rdr ok W b 0 bs :=
  ⟨A, c, (cell_of_row W b 0 _ _ _ hb).trans rfl, (cell_of_row W b 1 _ _ _ hb).trans rfl, by simp [World.frozen?, hb], by simp [World.frozen?, hb], hc, hc2, hs.agr (k.agr ha),
   fun x hx => ⟨Nat.lt_of_lt_of_le (ha x hx).1 k.size, fun e => by have := (ha x hx).1; simp only [One] at e; omega⟩⟩

theorem row_facts {W : World} {b : Nat} {cs : Array Value} {T : TypeId} (h : W.heap[b]? = some (.cells cs T)) : (∀ i, W.cell? ⟨b, i, none⟩ = cs[i]?) ∧ (∀ i, W.frozen? ⟨b, i, none⟩ = false) :=
  ⟨fun i => cell_of_row W b i _ _ _ h, fun i => by simp [World.frozen?, h]⟩
theorem heap_set {W : World} {b i : Nat} {cs : Array Value} {T : TypeId} (h : W.heap[b]? = some (.cells cs T)) (v : Value) : (W.setCell ⟨b, i, none⟩ v).heap[b]? = some (.cells (cs.setIfInBounds i v) T) := by
  simp [World.setCell, Array.getElem?_modify, h]
/-- Two results: a struct in a cell, and a slot. -/
theorem results_ct {fn : Func} {p q : Tmp} {ty : TypeId} (h : fn.results = #[.cell p ty, .tmp q]) (tmps : Array Value) (w : World) (g : Nat) (t : TypeId) (cs : Array Value) {fs : Array Field} (v2 : Value)
    (hp : tmps.getD p undef = .pointer (some ⟨g, 0, none⟩)) (hq : tmps.getD q undef = v2) (hg : w.heap[g]? = some (.cells cs t)) (hu : Try.prog.underlying ty = some (.struct fs)) (hi : (Try.prog.info? ty).map (·.size) = some cs.size) :
    (results fn tmps).run Try.prog w = .ok (.tuple #[.agg cs, v2]) w := by
  have hl := run_loadVar_row (P := Try.prog) w g t ty cs (0, 0) _ hg hu rfl hi
  have hp' : tmps[p]?.getD undef = .pointer (some ⟨g, 0, none⟩) := by simpa using hp
  have hq' : tmps[q]?.getD undef = v2 := by simpa using hq
  simp [results, h, hp', hq', asAddr, hl]
/-- A block that a call over the reader at b did not touch. -/
theorem Kp.row {W W' : World} {b x : Nat} {o : Obj} (k : Kp (One b) W W') (h : W.heap[x]? = some o) (hn : x ≠ b) : W'.heap[x]? = some o :=
  (k.block x (Array.getElem?_eq_some_iff.1 h).1 hn).trans h
theorem Kp.setNew {S : Nat → Prop} {a w : World} {p o : Nat} {s : Option Nat} {u : Value} (h : Kp S a w) (hp : a.heap.size ≤ p) : Kp S a (w.setCell ⟨p, o, s⟩ u) := h.setCell (p := ⟨p, o, s⟩) (fun e => absurd e (by simp only; omega)) u

end Go.Proofs.Ytakhkjidcnahjaa
