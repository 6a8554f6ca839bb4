/- MailCopies: what lies where; the plain law. -/
import Derived.Test.YtakhkjidcnahjaaQAwake
set_option linter.unusedVariables false
set_option linter.unusedSimpArgs false
namespace Go.Proofs.Ytakhkjidcnahjaa
open Go.RowKit

def beat (j : Nat) : LNote := wp_ 5 1 0 0 j
def beatT (j : Nat) : ByteArray := bytesT (packB (hdr 5 1 0 0 j))
theorem beat_may (j : Nat) (h : j ≤ 268435455) : mayS (beat j).n = true := mayS_beat j (by omega) (by omega)
theorem beats_fold : ∀ (ns : List Nat) (xs : List ByteArray) (c : Nat), (∀ j, j ∈ ns → j ≤ 268435455) → xs.length + ns.length ≤ 512 →
    ((ns.map beat).map LNote.n).foldl sendStep (xs, c) = (xs ++ ns.map beatT, c + ns.length)
  | [], xs, c, _, _ => by simp
  | j :: r, xs, c, h, hl => by
    simp only [List.length_cons] at hl
    rw [List.map_cons, List.map_cons, List.foldl_cons]
    have h1 : sendStep (xs, c) (beat j).n = (xs ++ [beatT j], c + 1) := by
      unfold sendStep
      rw [packR_may (beat_may j (h j (by simp)))]
      simp only
      rw [if_pos (by omega)]
      rfl
    rw [h1, beats_fold r _ _ (fun i hi => h i (by simp [hi])) (by simp; omega)]
    simp only [List.map_cons, List.length_cons, List.append_assoc, List.singleton_append]
    rw [show c + 1 + r.length = c + (r.length + 1) from by omega]
theorem sendS_beats (ns : List Nat) (h : ∀ j, j ∈ ns → j ≤ 268435455) (hl : ns.length ≤ 512) : sendS [] (ns.map beat) = (ns.map beatT, ns.length) := by
  rw [sendS, beats_fold ns [] 0 h (by simpa using hl)]; simp

/-! ### The counts -/
def cntC (l : List Nat) : Array Value := (Array.range 31).map fun j => Value.int .i64 (l.count j : Int)
theorem cntC_size (l : List Nat) : (cntC l).size = 31 := by simp [cntC]
theorem cntC_get (l : List Nat) {j : Nat} (h : j < 31) : (cntC l)[j]? = some (.int .i64 (l.count j : Int)) := by
  simp [cntC, h]
theorem cntC_nil : cntC [] = Array.replicate 31 (.int .i64 0) := by
  apply Array.ext (by simp [cntC])
  intro i h1 h2
  simp [cntC]
theorem cntC_set {l l' : List Nat} {x : Nat} (h : ∀ j, j ≠ x → l'.count j = l.count j) : (cntC l).setIfInBounds x (.int .i64 (l'.count x : Int)) = cntC l' := by
  apply Array.ext_getElem?
  intro j
  rw [Array.getElem?_setIfInBounds]
  by_cases hj : j < 31
  · rw [cntC_get _ hj, cntC_size]
    split
    · rename_i e; subst e; rw [if_pos hj, cntC_get _ hj]
    · rename_i e; rw [cntC_get _ hj, h j (fun e' => e e'.symm)]
  · rw [Array.getElem?_eq_none (by rw [cntC_size]; omega), Array.getElem?_eq_none (by rw [cntC_size]; omega), cntC_size]
    split
    · rw [if_neg (by omega)]
    · rfl
theorem count_snoc (l : List Nat) (x j : Nat) : (l ++ [x]).count j = l.count j + if x = j then 1 else 0 := by
  rw [List.count_append]
  congr 1
  by_cases h : x = j
  · subst h; simp
  · rw [if_neg h]; simp [List.count_cons, h]
theorem count_erase {l : List Nat} {i x : Nat} (hi : l[i]? = some x) (j : Nat) : l.count j = (l.take i ++ l.drop (i + 1)).count j + if x = j then 1 else 0 := by
  have hil := (List.getElem?_eq_some_iff.1 hi).1
  have h : l = l.take i ++ x :: l.drop (i + 1) := by
    conv => lhs; rw [← List.take_append_drop i l]
    rw [List.drop_eq_getElem_cons hil, (List.getElem?_eq_some_iff.1 hi).2]
  conv => lhs; rw [h]
  rw [List.count_append, List.count_append, List.count_cons]
  by_cases e : x = j
  · subst e; simp; omega
  · rw [if_neg e]; simp [e]

/-! ### What lies where -/
def intC (j : Nat) : List Value := [.int .i64 (j : Int)]
theorem intC_len (j : Nat) : (intC j).length = 1 := rfl
theorem intC_one (j : Nat) (u : Value) (h : u ∈ intC j) : u.oneCell' = true := by
  simp only [intC, List.mem_cons, List.not_mem_nil, or_false] at h
  subst h; rfl
theorem infoInt : (Try.prog.info? 3).map (fun i => (i.zero, i.size, i.bytes)) = some (some (.int .i64 0), 1, 8) := by kernel_rfl
/-- Nothing meets. -/
structure Apart (w : World) (m b C : Nat) (o o2 : Option Nat) : Prop where
  f_m : w.heap.size ≤ m
  f_b : w.heap.size ≤ b
  f_C : w.heap.size ≤ C
  f_o : ∀ y, o = some y → w.heap.size ≤ y
  f_o2 : ∀ y, o2 = some y → w.heap.size ≤ y
  f_Cm : C ≠ m
  f_Cb : C ≠ b
  f_oC : o ≠ some C
  f_o2C : o2 ≠ some C
  f_o2m : o2 ≠ some m
  f_o2b : o2 ≠ some b
  f_oo : ∀ y, o2 = some y → o ≠ some y
/-- The mail holds ms, the row os, the counts are those of cs. -/
structure StX (w : World) (m b C : Nat) (o o2 : Option Nat) (v : Value) (ms os cs : List Nat) (wr : World) : Prop where
  mal : Mal wr m b o (ms.map beatT)
  row : OwnR 3 1 intC wr v o2 os
  cnt : wr.heap[C]? = some (.cells (cntC cs) 59)
  kp : Kp No w wr
  ap : Apart w m b C o o2
theorem StX.no {w : World} {m b C : Nat} {o o2 : Option Nat} {v : Value} {ms os cs : List Nat} {wr w' : World} (h : StX w m b C o o2 v ms os cs wr) (k : Kp No wr w') : StX w m b C o o2 v ms os cs w' :=
  ⟨h.mal.kpNo k, h.row.kpNo k, (k.block C (Array.getElem?_eq_some_iff.1 h.cnt).1 (not_No _)).trans h.cnt, h.kp.thenNo k, h.ap⟩
theorem StX.mut {w : World} {m b C : Nat} {o o2 o' : Option Nat} {v : Value} {ms ms' os cs : List Nat} {wr w' : World} (h : StX w m b C o o2 v ms os cs wr) (hm : Mal w' m b o' (ms'.map beatT)) (hn : Nxt wr o o') (k : Kp (PF b o) wr w') :
    StX w m b C o' o2 v ms' os cs w' := by
  have hC := (Array.getElem?_eq_some_iff.1 h.cnt).1
  refine ⟨hm, h.row.kp k ?_, (k.block C hC ?_).trans h.cnt, h.kp.trans k ?_, ?_⟩
  · intro x hx e
    rcases e with e | e
    · exact h.ap.f_o2b (by rw [hx, e])
    · exact h.ap.f_oo x hx e
  · intro e
    rcases e with e | e
    · exact h.ap.f_Cb e
    · exact h.ap.f_oC e
  · intro i hi e
    rcases e with e | e
    · have := h.ap.f_b; omega
    · have := h.ap.f_o i e; omega
  · have hz := h.kp.size
    refine ⟨h.ap.f_m, h.ap.f_b, h.ap.f_C, ?_, h.ap.f_o2, h.ap.f_Cm, h.ap.f_Cb, hn.ne hC h.ap.f_oC, h.ap.f_o2C, h.ap.f_o2m, h.ap.f_o2b, ?_⟩
    · intro y hy
      rcases hn with rfl | ⟨z, rfl, hz'⟩
      · exact h.ap.f_o y hy
      · injection hy with hy; omega
    · intro y hy
      exact hn.ne (h.row.lt hy) (h.ap.f_oo y hy)
theorem StX.set {w : World} {m b C : Nat} {o o2 : Option Nat} {v : Value} {ms os cs cs' : List Nat} {wr : World} (h : StX w m b C o o2 v ms os cs wr) {x : Nat} {n : Int} (hn : n = (cs'.count x : Int)) (hc : ∀ j, j ≠ x → cs'.count j = cs.count j) :
    StX w m b C o o2 v ms os cs' (wr.setCell ⟨C, x, none⟩ (.int .i64 n)) := by
  subst hn
  have k : Kp (One C) wr (wr.setCell ⟨C, x, none⟩ (.int .i64 (cs'.count x : Int))) := (Kp.refl _ _).set1
  refine ⟨h.mal.kp k ?_, h.row.kp k ?_, ?_, h.kp.trans k ?_, h.ap⟩
  · intro y hy e
    simp only [One] at e
    subst e
    rcases hy with hy | hy | hy
    · exact h.ap.f_Cm hy
    · exact h.ap.f_Cb hy
    · exact h.ap.f_oC hy
  · intro y hy e
    simp only [One] at e
    subst e
    exact h.ap.f_o2C hy
  · rw [heap_set h.cnt, cntC_set hc]
  · intro i hi e
    simp only [One] at e
    have := h.ap.f_C
    omega
theorem StX.app {w : World} {m b C : Nat} {o o2 o3 : Option Nat} {v v1 : Value} {ms os os' cs : List Nat} {wr w' : World} (h : StX w m b C o o2 v ms os cs wr) (hr : OwnR 3 1 intC w' v1 o3 os') (hn : Nxt wr o2 o3) (k : Kp (Own o2) wr w') :
    StX w m b C o o3 v1 ms os' cs w' := by
  have hC := (Array.getElem?_eq_some_iff.1 h.cnt).1
  have hl := h.mal.lt
  refine ⟨h.mal.kp k ?_, hr, (k.block C hC (fun e => h.ap.f_o2C e)).trans h.cnt, h.kp.trans k ?_, ?_⟩
  · intro y hy e
    rcases hy with hy | hy | hy
    · subst hy; exact h.ap.f_o2m e
    · subst hy; exact h.ap.f_o2b e
    · exact h.ap.f_oo y e hy
  · intro i hi e
    have := h.ap.f_o2 i e
    omega
  · have hz := h.kp.size
    refine ⟨h.ap.f_m, h.ap.f_b, h.ap.f_C, h.ap.f_o, ?_, h.ap.f_Cm, h.ap.f_Cb, h.ap.f_oC, hn.ne hC h.ap.f_o2C, hn.ne hl.1 h.ap.f_o2m, hn.ne hl.2.1 h.ap.f_o2b, ?_⟩
    · intro y hy
      rcases hn with rfl | ⟨z, rfl, hz'⟩
      · exact h.ap.f_o2 y hy
      · injection hy with hy; omega
    · intro y hy e
      rcases hn with rfl | ⟨z, rfl, hz'⟩
      · exact h.ap.f_oo y hy e
      · injection hy with hy
        have := hl.2.2 y e
        omega

end Go.Proofs.Ytakhkjidcnahjaa
