/- Words that all walks of this place use: what a call leaves as it was (Kp), bytes in memory (Src), values laid in cells (Kd). -/
import Derived.Test.YtekgojolfckiiaaDoorProg
import Derived.WalkKit
import Derived.WalkSpells
import Derived.WalkLawsBesides
import Derived.Lib.Hide
import Derived.BigQuiet
import Derived.Deep.QuietTactic
import Derived.Deep.RegionHeld3
import Derived.Deep.DeepCutAuto
import Derived.Deep.LoopGhost
import Derived.Deep.Draws
import Derived.Laws.BytesArg
import Derived.Lib.ConvBytes
import Derived.Laws.MakeOwn
import Derived.KernelRfl
set_option linter.unusedVariables false
set_option linter.unusedSimpArgs false
namespace Go.Proofs.YtekgojolfckiiaaDoor
open Go.RowKit

/-- Of what was there, all but the blocks of S is as it was. -/
structure Kp (S : Nat → Prop) (w w' : World) : Prop where
  os : w'.os = w.os
  tape : w'.tape = w.tape
  output : w'.output = w.output
  size : w.heap.size ≤ w'.heap.size
  block : ∀ k, k < w.heap.size → ¬ S k → w'.heap[k]? = w.heap[k]?
def No : Nat → Prop := fun _ => False
def One (b : Nat) : Nat → Prop := fun x => x = b
theorem One.mk (b : Nat) : One b b := rfl
theorem not_No (k : Nat) : ¬ No k := fun h => h
namespace Kp
variable {S S' : Nat → Prop} {a b c w w' : World}
theorem refl (S : Nat → Prop) (w : World) : Kp S w w := ⟨rfl, rfl, rfl, Nat.le_refl _, fun _ _ _ => rfl⟩
theorem trans (h : Kp S a b) (k : Kp S' b c) (hs : ∀ i, i < a.heap.size → S' i → S i) : Kp S a c :=
  ⟨k.os.trans h.os, k.tape.trans h.tape, k.output.trans h.output, Nat.le_trans h.size k.size,
   fun i hi hn => (k.block i (Nat.lt_of_lt_of_le hi h.size) (fun q => hn (hs i hi q))).trans (h.block i hi hn)⟩
theorem then_ (h : Kp S a b) (k : Kp S b c) : Kp S a c := h.trans k fun _ _ h => h
theorem thenNo (h : Kp S a b) (k : Kp No b c) : Kp S a c := h.trans k fun _ _ h => h.elim
theorem mono (h : Kp S a b) (hs : ∀ i, i < a.heap.size → S i → S' i) : Kp S' a b := ⟨h.os, h.tape, h.output, h.size, fun i hi hn => h.block i hi fun q => hn (hs i hi q)⟩
theorem ofNo (h : Kp No a b) : Kp S a b := h.mono fun _ _ q => q.elim
theorem alloc (h : Kp S a w) (o : Obj) : Kp S a (w.alloc o) :=
  ⟨h.os, h.tape, h.output, by have := h.size; simp; omega, fun i hi hn => by rw [Below.heap_alloc _ _ _ (Nat.lt_of_lt_of_le hi h.size)]; exact h.block i hi hn⟩
theorem drew (h : Kp S a w) : Kp S a w.drew := ⟨h.os, h.tape, h.output, h.size, h.block⟩
theorem drewN (h : Kp S a w) (n : Nat) : Kp S a (w.drewN n) := ⟨h.os, h.tape, h.output, h.size, h.block⟩
theorem setCell (h : Kp S a w) {p : Addr} (hp : p.block < a.heap.size → S p.block) (u : Value) : Kp S a (w.setCell p u) :=
  ⟨h.os, h.tape, h.output, by simpa [World.setCell] using h.size, fun i hi hn => by
    rw [Below.heap_setCell _ _ _ _ (fun e => by subst e; exact hn (hp hi))]; exact h.block i hi hn⟩
theorem grown (h : Kp S a w) {row : Option Nat} (hg : w.grownBy w' row) (hr : ∀ k, row = some k → k < a.heap.size → S k) : Kp S a w' :=
  ⟨hg.os.trans h.os, hg.tape.trans h.tape, hg.output.trans h.output, Nat.le_trans h.size hg.size,
   fun i hi hn => (hg.block i (Nat.lt_of_lt_of_le hi h.size) (fun e => hn (hr i e.symm hi))).trans (h.block i hi hn)⟩
theorem set1 {p o : Nat} {s : Option Nat} {u : Value} (h : Kp (One p) a w) : Kp (One p) a (w.setCell ⟨p, o, s⟩ u) := h.setCell (p := ⟨p, o, s⟩) (fun _ => One.mk p) u
theorem below (h : Kp No a b) : Below a.heap.size a b := ⟨h.os, h.tape, h.output, h.size, fun i hi => h.block i hi (not_No i)⟩
theorem ofBelow (h : Below a.heap.size a b) : Kp S a b := ⟨h.os, h.tape, h.output, h.size, fun i hi _ => h.block i hi⟩
theorem ofGrown (hg : w.grownBy w' none) : Kp S w w' := (refl S w).grown hg (fun _ e => nomatch e)
theorem cell (h : Kp S w w') (b o : Nat) (hb : b < w.heap.size) (hn : ¬ S b) : w'.cell? ⟨b, o, none⟩ = w.cell? ⟨b, o, none⟩ := World.cell?_of_block (w := w) (a := ⟨b, o, none⟩) (h.block b hb hn)
theorem frozen (h : Kp S w w') (b o : Nat) (hb : b < w.heap.size) (hn : ¬ S b) : w'.frozen? ⟨b, o, none⟩ = w.frozen? ⟨b, o, none⟩ := World.frozen?_of_block (w := w) (a := ⟨b, o, none⟩) (h.block b hb hn)
/-- Behind a call that turns nothing old: the walk's two rules. -/
theorem cells (h : Kp No w w') : (∀ b o, b < w.heap.size → w'.cell? ⟨b, o, none⟩ = w.cell? ⟨b, o, none⟩) ∧ (∀ b o, b < w.heap.size → w'.frozen? ⟨b, o, none⟩ = w.frozen? ⟨b, o, none⟩) :=
  ⟨fun b o hb => h.cell b o hb (not_No b), fun b o hb => h.frozen b o hb (not_No b)⟩
/-- Behind a call that turns block p alone. -/
theorem cells1 {p : Nat} (h : Kp (One p) w w') : (∀ b o, b < w.heap.size → b ≠ p → w'.cell? ⟨b, o, none⟩ = w.cell? ⟨b, o, none⟩) ∧ (∀ b o, b < w.heap.size → b ≠ p → w'.frozen? ⟨b, o, none⟩ = w.frozen? ⟨b, o, none⟩) :=
  ⟨fun b o hb hn => h.cell b o hb hn, fun b o hb hn => h.frozen b o hb hn⟩
end Kp

theorem cell_new (W : World) (cs : Array Value) (T : TypeId) (i : Nat) : (W.alloc (.cells cs T)).cell? ⟨W.heap.size, i, none⟩ = cs[i]? := by
  show (match (W.heap.push (.cells cs T))[W.heap.size]? with | some (.cells c _ _) => if (none : Option Nat).isSome then none else c[i]? | _ => none) = _
  simp
theorem frozen_new (W : World) (cs : Array Value) (T : TypeId) (i : Nat) : (W.alloc (.cells cs T)).frozen? ⟨W.heap.size, i, none⟩ = false := by
  show (match (W.heap.push (.cells cs T))[W.heap.size]? with | some (.cells _ _ (lo, hi)) => decide (lo ≤ i) && decide (i < hi) | _ => false) = _
  simp
theorem cell_old (W : World) (o : Obj) {b i : Nat} (h : b < W.heap.size) : (W.alloc o).cell? ⟨b, i, none⟩ = W.cell? ⟨b, i, none⟩ := World.cell?_of_block (w := W) (a := ⟨b, i, none⟩) (Below.heap_alloc W o b h)
theorem frozen_old (W : World) (o : Obj) {b i : Nat} (h : b < W.heap.size) : (W.alloc o).frozen? ⟨b, i, none⟩ = W.frozen? ⟨b, i, none⟩ := World.frozen?_of_block (w := W) (a := ⟨b, i, none⟩) (Below.heap_alloc W o b h)
theorem ne_of_beq {e : Int} {q : Bool} (h : (e == 0) = q) : (e != 0) = !q := by rw [← h]; rfl
theorem setCell_size (W : World) (a : Addr) (v : Value) : (W.setCell a v).heap.size = W.heap.size := by simp [World.setCell]
/-- The blocks of ok are as they were. -/
def Agr (ok : Nat → Prop) (w w' : World) : Prop := ∀ b, ok b → w'.heap[b]? = w.heap[b]?
/-- ok are blocks that are there, and none of S. -/
def Apt (S : Nat → Prop) (w : World) (ok : Nat → Prop) : Prop := ∀ b, ok b → b < w.heap.size ∧ ¬ S b
theorem Kp.agr {S ok : Nat → Prop} {w w' : World} (h : Kp S w w') (a : Apt S w ok) : Agr ok w w' := fun b hb => h.block b (a b hb).1 (a b hb).2
theorem Apt.kp {S S' ok : Nat → Prop} {w w' : World} (a : Apt S w ok) (h : Kp S' w w') : Apt S w' ok := fun b hb => ⟨Nat.lt_of_lt_of_le (a b hb).1 h.size, (a b hb).2⟩
theorem Agr.refl (ok : Nat → Prop) (w : World) : Agr ok w w := fun _ _ => rfl
theorem Agr.cell {ok : Nat → Prop} {w w' : World} (h : Agr ok w w') {b o : Nat} (hb : ok b) : w'.cell? ⟨b, o, none⟩ = w.cell? ⟨b, o, none⟩ := World.cell?_of_block (w := w) (a := ⟨b, o, none⟩) (h b hb)

/-- A byte as a value. -/
def bv (b : UInt8) : Value := .int .u8 (b.toNat : Int)
/-- The slice that lies at A, n long, reads as these bytes; it lies in a block of ok. -/
def Src (ok : Nat → Prop) (w : World) (A : Option Addr) (n : Nat) (bs : List UInt8) : Prop :=
  bs.length = n ∧ (∀ ad, A = some ad → ad.spot = none) ∧ (0 < n → ∃ g off, A = some ⟨g, off, none⟩ ∧ ok g ∧ ∀ i, i < n → w.cell? ⟨g, off + i, none⟩ = some (bv (bs.getD i 0)))
namespace Src
variable {ok ok' : Nat → Prop} {w w' : World} {A : Option Addr} {n c : Nat} {bs : List UInt8}
theorem agr (h : Src ok w A n bs) (a : Agr ok w w') : Src ok w' A n bs :=
  ⟨h.1, h.2.1, fun hn => by obtain ⟨g, off, e, hg, hc⟩ := h.2.2 hn; exact ⟨g, off, e, hg, fun i hi => (a.cell hg).trans (hc i hi)⟩⟩
theorem mono (h : Src ok w A n bs) (hm : ∀ b, ok b → ok' b) : Src ok' w A n bs :=
  ⟨h.1, h.2.1, fun hn => by obtain ⟨g, off, e, hg, hc⟩ := h.2.2 hn; exact ⟨g, off, e, hm g hg, hc⟩⟩
theorem nil (ok : Nat → Prop) (w : World) (A : Option Addr) (hA : ∀ ad, A = some ad → ad.spot = none) : Src ok w A 0 [] := ⟨rfl, hA, fun h => absurd h (Nat.lt_irrefl 0)⟩
theorem take (h : Src ok w A n bs) (k : Nat) (hk : k ≤ n) : Src ok w A k (bs.take k) := by
  refine ⟨by rw [List.length_take, h.1]; omega, h.2.1, fun hp => ?_⟩
  obtain ⟨g, off, e, hg, hc⟩ := h.2.2 (by omega)
  refine ⟨g, off, e, hg, fun i hi => ?_⟩
  rw [hc i (by omega)]
  simp [List.getD_eq_getElem?_getD, hi]
theorem drop (h : Src ok w A n bs) (k : Nat) (hk : k ≤ n) : Src ok w (A.map fun x => x.add k) (n - k) (bs.drop k) := by
  refine ⟨by rw [List.length_drop, h.1], ?_, fun hp => ?_⟩
  · intro ad e
    obtain ⟨a0, rfl, rfl⟩ := Option.map_eq_some_iff.1 e
    have := h.2.1 a0 rfl
    unfold Addr.add
    split <;> simp_all
  obtain ⟨g, off, rfl, hg, hc⟩ := h.2.2 (by omega)
  refine ⟨g, off + k, ?_, hg, fun i hi => ?_⟩
  · unfold Addr.add
    by_cases h0 : k = 0 <;> simp [h0]
  · rw [Nat.add_assoc, hc (k + i) (by omega)]
    simp [List.getD_eq_getElem?_getD, List.getElem?_drop]
end Src

/-- The slice that lies at A, n long, holds these one-cell values. -/
def SrcV {α : Type} (f : α → Value) (ok : Nat → Prop) (w : World) (A : Option Addr) (n : Nat) (xs : List α) : Prop :=
  xs.length = n ∧ (∀ ad, A = some ad → ad.spot = none) ∧ (0 < n → ∃ g off, A = some ⟨g, off, none⟩ ∧ ok g ∧ ∀ i x, xs[i]? = some x → w.cell? ⟨g, off + i, none⟩ = some (f x))
namespace SrcV
variable {α : Type} {f : α → Value} {ok ok' : Nat → Prop} {w w' : World} {A : Option Addr} {n c : Nat} {xs : List α}
theorem agr (h : SrcV f ok w A n xs) (a : Agr ok w w') : SrcV f ok w' A n xs :=
  ⟨h.1, h.2.1, fun hn => by obtain ⟨g, off, e, hg, hc⟩ := h.2.2 hn; exact ⟨g, off, e, hg, fun i x hi => (a.cell hg).trans (hc i x hi)⟩⟩
theorem mono (h : SrcV f ok w A n xs) (hm : ∀ b, ok b → ok' b) : SrcV f ok' w A n xs :=
  ⟨h.1, h.2.1, fun hn => by obtain ⟨g, off, e, hg, hc⟩ := h.2.2 hn; exact ⟨g, off, e, hm g hg, hc⟩⟩
end SrcV
/-- The slice that lies at A, n long, holds these values of sz cells each. -/
def SrcK {α : Type} (sz : Nat) (K : (Nat → Prop) → World → α → List Value → Prop) (ok : Nat → Prop) (w : World) (A : Option Addr) (n : Nat) (xs : List α) : Prop :=
  xs.length = n ∧ (∀ ad, A = some ad → ad.spot = none) ∧ (0 < n → ∃ g off, A = some ⟨g, off, none⟩ ∧ ok g ∧ ∀ i x, xs[i]? = some x → ∃ cs, cs.length = sz ∧ K ok w x cs ∧ ∀ j u, cs[j]? = some u → w.cell? ⟨g, off + (i * sz + j), none⟩ = some u)

end Go.Proofs.YtekgojolfckiiaaDoor
