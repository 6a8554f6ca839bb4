/- Words for rows of a call's own: bytes, elements of several cells; whole structs loaded and stored. (Of no package of the program.) -/
import Derived.Test.YtekgojolfckiiaaDoorQBase
import Derived.Lib.AppendStr
import Derived.Laws.BitsLemmas
import Derived.Maps.AppendAt
import Derived.Deep.RegionLaw
import Derived.Deep.MidRow
import Derived.Laws.Tables
set_option linter.unusedVariables false
set_option linter.unusedSimpArgs false
namespace Go.Proofs.YtekgojolfckiiaaDoor
open Go.RowKit


theorem infoU8 : (Tryd.prog.info? 5).map (fun i => (i.zero, i.size, i.bytes)) = some (some (.int .u8 0), 1, 1) := by kernel_rfl

/-- v is nil or a row of bytes of the call's own; its block is o. -/
def OwnB (w : World) (v : Value) (o : Option Nat) (bs : List UInt8) : Prop := w.ownsRow 0 5 1 v bs.length (bs.map bv) ∧ v.ownBlock = o
/-- Where a row lies behind an append: where it lay, or in a new block. -/
def Nxt (w : World) (o o' : Option Nat) : Prop := o' = o ∨ ∃ k, o' = some k ∧ w.heap.size ≤ k
theorem Nxt.refl (w : World) (o : Option Nat) : Nxt w o o := .inl rfl
theorem Nxt.trans {w w1 : World} {o o1 o2 : Option Nat} (h : Nxt w o o1) (k : Nxt w1 o1 o2) (hs : w.heap.size ≤ w1.heap.size) : Nxt w o o2 := by
  rcases k with rfl | ⟨k, rfl, hk⟩
  · exact h
  · exact .inr ⟨k, rfl, Nat.le_trans hs hk⟩
theorem Nxt.of_le {w w1 : World} {o o1 : Option Nat} (h : Nxt w1 o o1) (hs : w.heap.size ≤ w1.heap.size) : Nxt w o o1 := by
  rcases h with rfl | ⟨k, rfl, hk⟩
  · exact .inl rfl
  · exact .inr ⟨k, rfl, Nat.le_trans hs hk⟩
theorem Nxt.ne {w : World} {o o' : Option Nat} (h : Nxt w o o') {x : Nat} (hx : x < w.heap.size) (hn : o ≠ some x) : o' ≠ some x := by
  rcases h with rfl | ⟨k, rfl, hk⟩
  · exact hn
  · intro e; injection e with e; omega
def Own (o : Option Nat) : Nat → Prop := fun k => o = some k

theorem ownLt {w : World} {base n : Nat} {e : TypeId} {size : Nat} {v : Value} {xs : List Value} (h : w.ownsRow base e size v n xs) (k : Nat) (hk : v.ownBlock = some k) : k < w.heap.size := by
  rcases h.2 with ⟨rfl, _⟩ | ⟨g, cap, cur, rfl, hb, hh, _⟩
  · simp [Value.ownBlock] at hk
  · have : g = k := by simpa [Value.ownBlock] using hk
    subst this
    exact (Array.getElem?_eq_some_iff.1 hh).1
theorem ownKp {S : Nat → Prop} {w w1 : World} {base n : Nat} {e : TypeId} {size : Nat} {v : Value} {xs : List Value} (h : w.ownsRow base e size v n xs) (k : Kp S w w1) (ho : ∀ x, v.ownBlock = some x → ¬ S x) : w1.ownsRow base e size v n xs := by
  refine ⟨h.1, ?_⟩
  rcases h.2 with hn | ⟨g, cap, cur, rfl, hb, hh, r⟩
  · exact .inl hn
  · refine .inr ⟨g, cap, cur, rfl, hb, ?_, r⟩
    rw [k.block g (Array.getElem?_eq_some_iff.1 hh).1 (ho g rfl)]
    exact hh
theorem OwnB.lt {w : World} {v : Value} {o : Option Nat} {bs : List UInt8} (h : OwnB w v o bs) {k : Nat} (hk : o = some k) : k < w.heap.size := ownLt h.1 k (h.2.trans hk)
theorem OwnB.kp {S : Nat → Prop} {w w1 : World} {v : Value} {o : Option Nat} {bs : List UInt8} (h : OwnB w v o bs) (k : Kp S w w1) (ho : ∀ x, o = some x → ¬ S x) : OwnB w1 v o bs :=
  ⟨ownKp h.1 k fun x hx => ho x (h.2 ▸ hx), h.2⟩
theorem OwnB.kpNo {w w1 : World} {v : Value} {o : Option Nat} {bs : List UInt8} (h : OwnB w v o bs) (k : Kp No w w1) : OwnB w1 v o bs := h.kp k fun x _ => not_No x
theorem OwnB.slice {w : World} {v : Value} {o : Option Nat} {bs : List UInt8} (h : OwnB w v o bs) : ∃ A c, v = .slice A bs.length c ∧ bs.length ≤ c := by
  rcases h.1.2 with ⟨rfl, h0⟩ | ⟨g, cap, cur, rfl, _, _, hc, _⟩
  · exact ⟨none, 0, by rw [h0], by omega⟩
  · exact ⟨_, cap, rfl, hc⟩
theorem OwnB.form {w : World} {v : Value} {o : Option Nat} {bs : List UInt8} (h : OwnB w v o bs) : ∃ A n c, v = .slice A n c :=
  let ⟨A, c, e, _⟩ := h.slice; ⟨A, _, c, e⟩
theorem OwnB.nil (w : World) : OwnB w (.slice none 0 0) none [] := ⟨⟨by simp, .inl ⟨rfl, rfl⟩⟩, rfl⟩

section
variable {ops : Array Oper} {rest : List Oper} {op : Oper} {a : Act} {Q : Exit → Act → World → Prop}
/-- append(v, b, ..): cells that lie in a new block. -/
theorem app_cells {w : World} (hgd : op.guard = none) (s x : Operand) (ho : op.op = .call { callee := .builtin .append, args := #[s, x], argTypes := #[44, 44] })
    (v : Value) (o : Option Nat) (bs news : List UInt8) (hs : a.eval s = v) (m c : Nat) (ad : Addr) (hx : a.eval x = .slice (some ad) m c) (hm : m = news.length)
    (hc : ∀ j u, (news.map bv)[j]? = some u → w.cell? (ad.add j) = some u) (HO : OwnB w v o bs) (hl : bs.length + news.length ≤ 140737488355328)
    (h : ∀ v1 w1 o1, OwnB w1 v1 o1 (bs ++ news) → Nxt w o o1 → Kp (Own o) w w1 → wpList Tryd.prog ops Q rest (a.put op.dst v1) w1) :
    wpList Tryd.prog ops Q (op :: rest) a w := by
  subst hm
  obtain ⟨i0, hi, hzz⟩ := Option.map_eq_some_iff.1 infoU8
  simp only [Prod.mk.injEq] at hzz
  obtain ⟨hz0, hz1, hz2⟩ := hzz
  refine wpList_append_own_at w hgd s x 44 ho 0 5 i0 (.int .u8 0) 1 1 Tryd.underlying44 hi hz0 hz1 hz2 rfl (by omega) v bs.length (bs.map bv) hs HO.1 ad news.length c (news.map bv) hx (by simp)
    hc (by intro u hu; obtain ⟨b, _, rfl⟩ := List.mem_map.1 hu; rfl) (by simp only [maxLen]; omega) (by omega) (Nat.zero_le _) ?_
  intro v1 w1 hown hg _ hat
  refine h v1 w1 v1.ownBlock ⟨by rw [List.length_append, List.map_append]; exact hown, rfl⟩ ?_ ?_
  · rcases hat with hat | hat
    · exact .inl (hat.trans HO.2)
    · exact .inr ⟨_, hat, Nat.le_refl _⟩
  · exact (Kp.refl _ _).grown hg fun k hk _ => HO.2.symm.trans hk

theorem strCells_bv (s : ByteArray) : Lib.strCells s = s.data.toList.map bv := by simp [Lib.strCells, bv]
/-- append(v, s...), s a string. -/
theorem app_str {w : World} (hgd : op.guard = none) (s x : Operand) (ho : op.op = .call { callee := .builtin .append, args := #[s, x], argTypes := #[44, 9] })
    (v : Value) (o : Option Nat) (bs : List UInt8) (y : ByteArray) (hs : a.eval s = v) (hx : a.eval x = .string y) (HO : OwnB w v o bs) (hl : bs.length + y.size ≤ 140737488355328)
    (h : ∀ v1 w1 o1, OwnB w1 v1 o1 (bs ++ y.data.toList) → Nxt w o o1 → Kp (Own o) w w1 → wpList Tryd.prog ops Q rest (a.put op.dst v1) w1) :
    wpList Tryd.prog ops Q (op :: rest) a w := by
  obtain ⟨i0, hi, hzz⟩ := Option.map_eq_some_iff.1 infoU8
  simp only [Prod.mk.injEq] at hzz
  obtain ⟨hz0, hz1, hz2⟩ := hzz
  obtain ⟨v1, w1, hr, hown, hg, hnil⟩ := Lib.run_append_own_string (P := Tryd.prog) w 0 44 9 op.type 5 i0 Tryd.underlying44 Tryd.underlying9 hi hz0 hz1 hz2 v bs.length (bs.map bv) HO.1 y (by simp only [maxLen]; omega) hl (Nat.zero_le _)
  have hat : Nxt w o v1.ownBlock := by
    rcases HO.1.2 with ⟨rfl, h0⟩ | ⟨g, cap, cur, rfl, hbg, hgg, hnc, hcm, hcs, htake⟩
    · by_cases hm : y.size = 0
      · rw [hnil.2 ⟨rfl, hm⟩]; exact .inl HO.2
      · have hr2 := run_append_nil_string (P := Tryd.prog) w 44 9 op.type 5 i0 (.int .u8 0) Tryd.underlying44 Tryd.underlying9 hi hz0 y (by omega) (by omega) (by rw [hz2]; omega)
        rw [hr2] at hr
        injection hr with hv _
        exact .inr ⟨w.heap.size, by rw [← hv]; rfl, Nat.le_refl _⟩
    · by_cases hroom : bs.length + y.size ≤ cap
      · have hcs' : cur.size = cap := by simpa using hcs
        have hr2 := Lib.run_append_room_string (P := Tryd.prog) w 44 9 op.type 5 i0 Tryd.underlying44 Tryd.underlying9 hi hz1 g bs.length cap cur hgg y hroom (by omega)
        rw [hr2] at hr
        injection hr with hv _
        exact .inl (by rw [← hv, ← HO.2]; rfl)
      · have holds : ∀ j u, (bs.map bv)[j]? = some u → w.cell? ((⟨g, 0, none⟩ : Addr).add j) = some u := HO.1.cells (g := g) rfl
        have hr2 := Lib.run_append_grow_string (P := Tryd.prog) w 44 9 op.type 5 i0 (.int .u8 0) Tryd.underlying44 Tryd.underlying9 hi hz0 ⟨g, 0, none⟩ bs.length cap (bs.map bv) (by rw [hz1]; simp) holds y (by omega) (by omega) (by rw [hz2]; exact growslice_fits (by omega) (by omega))
        rw [hr2] at hr
        injection hr with hv _
        exact .inr ⟨w.heap.size, by rw [← hv]; rfl, Nat.le_refl _⟩
  refine wpList_plain hgd fun K hK => ?_
  unfold Oper.wp execOp
  simp only [ho, resolve, invoke, builtin, Sem.run_bind, Sem.run_pure, Result.andThen_ok, List.map_toArray, List.map_cons, List.map_nil, hs, hx, hr]
  refine hK _ _ (h v1 w1 v1.ownBlock ⟨?_, rfl⟩ hat ((Kp.refl _ _).grown hg fun k hk _ => HO.2.symm.trans hk))
  rw [List.length_append, List.map_append, Array.length_toList]
  rw [strCells_bv] at hown
  exact hown
end


/-- A slice of values of sz cells each, the cells known by a function. -/
def SrcF {α : Type} (sz : Nat) (f : α → List Value) (ok : Nat → Prop) (w : World) (A : Option Addr) (n : Nat) (xs : List α) : Prop :=
  xs.length = n ∧ True ∧ (0 < n → ∃ g off, A = some ⟨g, off, none⟩ ∧ ok g ∧ ∀ i x, xs[i]? = some x → ∀ j u, (f x)[j]? = some u → w.cell? ⟨g, off + (i * sz + j), none⟩ = some u)
namespace SrcF
variable {α : Type} {sz : Nat} {f : α → List Value} {ok ok' : Nat → Prop} {w w' : World} {A : Option Addr} {n c : Nat} {xs : List α}
theorem agr (h : SrcF sz f ok w A n xs) (a : Agr ok w w') : SrcF sz f ok w' A n xs :=
  ⟨h.1, h.2.1, fun hn => by obtain ⟨g, off, e, hg, hc⟩ := h.2.2 hn; exact ⟨g, off, e, hg, fun i x hi j u hu => (a.cell hg).trans (hc i x hi j u hu)⟩⟩
theorem mono (h : SrcF sz f ok w A n xs) (hm : ∀ b, ok b → ok' b) : SrcF sz f ok' w A n xs :=
  ⟨h.1, h.2.1, fun hn => by obtain ⟨g, off, e, hg, hc⟩ := h.2.2 hn; exact ⟨g, off, e, hm g hg, hc⟩⟩
end SrcF


/-- v is nil or a row of the call's own of elements of type e, sz cells each; its block is o. -/
def OwnR {α : Type} (e : TypeId) (sz : Nat) (f : α → List Value) (w : World) (v : Value) (o : Option Nat) (xs : List α) : Prop :=
  w.ownsRow 0 e sz v xs.length (xs.flatMap f) ∧ v.ownBlock = o
namespace OwnR
variable {α : Type} {e : TypeId} {sz : Nat} {f : α → List Value} {w w1 : World} {v : Value} {o : Option Nat} {xs : List α} {S : Nat → Prop}
theorem lt (h : OwnR e sz f w v o xs) {k : Nat} (hk : o = some k) : k < w.heap.size := ownLt h.1 k (h.2.trans hk)
theorem kp (h : OwnR e sz f w v o xs) (k : Kp S w w1) (ho : ∀ x, o = some x → ¬ S x) : OwnR e sz f w1 v o xs := ⟨ownKp h.1 k fun x hx => ho x (h.2 ▸ hx), h.2⟩
theorem kpNo (h : OwnR e sz f w v o xs) (k : Kp No w w1) : OwnR e sz f w1 v o xs := h.kp k fun x _ => not_No x
theorem slice (h : OwnR e sz f w v o xs) : ∃ A c, v = .slice A xs.length c ∧ xs.length ≤ c := by
  rcases h.1.2 with ⟨rfl, h0⟩ | ⟨g, cap, cur, rfl, _, _, hc, _⟩
  · exact ⟨none, 0, by rw [h0], by omega⟩
  · exact ⟨_, cap, rfl, hc⟩
theorem form (h : OwnR e sz f w v o xs) : ∃ A n c, v = .slice A n c := let ⟨A, c, e, _⟩ := h.slice; ⟨A, _, c, e⟩
theorem nil (e : TypeId) (sz : Nat) (f : α → List Value) (w : World) : OwnR e sz f w (.slice none 0 0) none [] := ⟨⟨by simp, .inl ⟨rfl, rfl⟩⟩, rfl⟩
end OwnR

theorem flat_length {α β : Type} (f : α → List β) (sz : Nat) (hf : ∀ x, (f x).length = sz) (xs : List α) : (xs.flatMap f).length = xs.length * sz := by
  induction xs with
  | nil => simp
  | cons x xs ih => rw [List.flatMap_cons, List.length_append, hf, ih, List.length_cons, Nat.add_mul, Nat.one_mul, Nat.add_comm]
theorem flat_get {α β : Type} (f : α → List β) (sz : Nat) (hf : ∀ x, (f x).length = sz) (xs : List α) {i j : Nat} {x : α} {u : β} (hi : xs[i]? = some x) (hj : (f x)[j]? = some u) : (xs.flatMap f)[i * sz + j]? = some u := by
  induction xs generalizing i with
  | nil => simp at hi
  | cons y ys ih =>
    have hjl : j < sz := by rw [← hf x]; exact (List.getElem?_eq_some_iff.1 hj).1
    cases i with
    | zero =>
      obtain rfl : y = x := by simpa using hi
      rw [List.flatMap_cons, List.getElem?_append_left (by rw [hf]; omega), Nat.zero_mul, Nat.zero_add]
      exact hj
    | succ i =>
      rw [List.flatMap_cons, List.getElem?_append_right (by rw [hf, Nat.add_mul]; omega), hf, show (i + 1) * sz + j - sz = i * sz + j from by rw [Nat.add_mul]; omega]
      exact ih (by simpa using hi)

/-- A row of the call's own is read. -/
theorem OwnR.src {α : Type} {e : TypeId} {sz : Nat} {f : α → List Value} {w : World} {A : Option Addr} {n c : Nat} {o : Option Nat} {xs : List α} (h : OwnR e sz f w (.slice A n c) o xs) (hf : ∀ x, (f x).length = sz) :
    SrcF sz f (Own o) w A n xs ∧ n = xs.length := by
  have hn : n = xs.length := by
    obtain ⟨A', c', e', _⟩ := h.slice
    injection e'
  refine ⟨⟨hn.symm, trivial, ?_⟩, hn⟩
  · intro hp
    rcases h.1.2 with ⟨h0, h1⟩ | ⟨g, cap, cur, h0, _, hg, hnc, _, hcs, ht⟩
    · omega
    · injection h0 with h0 _ _
      subst h0
      refine ⟨g, 0, rfl, ?_, ?_⟩
      · have := h.2; exact this.symm
      · intro i x hi j u hu
        have hin : i < xs.length := (List.getElem?_eq_some_iff.1 hi).1
        have hfl := flat_get f sz hf xs hi hu
        rw [← ht, List.getElem?_take] at hfl
        split at hfl
        · rw [Nat.zero_add]
          simp only [World.cell?, hg]
          rw [Array.getElem?_toList] at hfl
          simpa using hfl
        · cases hfl

section
variable {ops : Array Oper} {rest : List Oper} {op : Oper} {a : Act} {Q : Exit → Act → World → Prop}
/-- append(v, x): one element, its cells in a new block. -/
theorem app_one {α : Type} {w : World} {e t : TypeId} {sz by_ : Nat} {z : Value} (f : α → List Value) (hf : ∀ x, (f x).length = sz) (h1 : ∀ x u, u ∈ f x → u.oneCell' = true)
    (ht : Tryd.prog.underlying t = some (.slice e)) (hinfo : (Tryd.prog.info? e).map (fun i => (i.zero, i.size, i.bytes)) = some (some z, sz, by_)) (hz : z.cells.size = sz) (hs0 : 0 < sz)
    (hgd : op.guard = none) (s x : Operand) (ho : op.op = .call { callee := .builtin .append, args := #[s, x], argTypes := #[t, t] })
    (v : Value) (o : Option Nat) (xs : List α) (y : α) (hs : a.eval s = v) (ad : Addr) (c : Nat) (hx : a.eval x = .slice (some ad) 1 c)
    (hc : ∀ j u, (f y)[j]? = some u → w.cell? (ad.add j) = some u) (HO : OwnR e sz f w v o xs) (hl : (xs.length + 1) * by_ ≤ 140737488355328) (hm : xs.length ≤ 140737488355328)
    (h : ∀ v1 w1 o1, OwnR e sz f w1 v1 o1 (xs ++ [y]) → Nxt w o o1 → Kp (Own o) w w1 → wpList Tryd.prog ops Q rest (a.put op.dst v1) w1) :
    wpList Tryd.prog ops Q (op :: rest) a w := by
  obtain ⟨i0, hi, hzz⟩ := Option.map_eq_some_iff.1 hinfo
  simp only [Prod.mk.injEq] at hzz
  obtain ⟨hz0, hz1, hz2⟩ := hzz
  refine wpList_append_own_at w hgd s x t ho 0 e i0 z sz by_ ht hi hz0 hz1 hz2 hz hs0 v xs.length (xs.flatMap f) hs HO.1 ad 1 c (f y) hx (by rw [hf, Nat.one_mul])
    hc (h1 y) (by simp only [maxLen]; omega) hl (Nat.zero_le _) ?_
  intro v1 w1 hown hg _ hat
  refine h v1 w1 v1.ownBlock ⟨by rw [List.length_append, List.flatMap_append]; simpa using hown, rfl⟩ ?_ ?_
  · rcases hat with hat | hat
    · exact .inl (hat.trans HO.2)
    · exact .inr ⟨_, hat, Nat.le_refl _⟩
  · exact (Kp.refl _ _).grown hg fun k hk _ => HO.2.symm.trans hk
end
/-- The cells of a new block, at an address that is counted up. -/
theorem cells_new (W : World) (n0 : Nat) (hz : n0 = W.heap.size) (cs : Array Value) (T : TypeId) (l : List Value) (h : cs.toList = l) :
    ∀ j u, l[j]? = some u → (W.alloc (.cells cs T)).cell? ((⟨n0, 0, none⟩ : Addr).add j) = some u := by
  subst hz h
  intro j u hu
  have ha : (⟨W.heap.size, 0, none⟩ : Addr).add j = ⟨W.heap.size, j, none⟩ := by unfold Addr.add; split <;> simp_all
  rw [ha, cell_new, ← hu, Array.getElem?_toList]


theorem strOf_bytes (bs : List UInt8) : strOfNums (bs.map fun b => (b.toNat : Int)) = ⟨bs.toArray⟩ := by
  unfold strOfNums
  rw [List.map_map]
  congr 2
  rw [show ((fun n : Int => UInt8.ofNat n.toNat) ∘ fun b : UInt8 => (b.toNat : Int)) = id from by funext b; simp]
  simp
/-- string(b) of a slice that reads as bytes. -/
theorem conv_src {ok : Nat → Prop} {w : World} {A : Option Addr} {n : Nat} {bs : List UInt8} (h : Src ok w A n bs) (c : Nat) :
    (convert 44 9 (.slice A n c)).run Tryd.prog w = .ok (.string ⟨bs.toArray⟩) w := by
  rcases A with _ | ⟨g, off, s⟩
  · have h0 : n = 0 := by
      rcases Nat.eq_zero_or_pos n with h0 | h0
      · exact h0
      · obtain ⟨g, off, e, _⟩ := h.2.2 h0
        cases e
    subst h0
    obtain rfl : bs = [] := List.eq_nil_of_length_eq_zero h.1
    exact run_convert_bytes_nil w 44 5 Tryd.underlying44 Tryd.underlying5 0 c 9 Tryd.underlying9
  · obtain rfl : s = none := h.2.1 _ rfl
    have hl := h.1
    rw [run_convert_bytes_arg w 44 5 Tryd.underlying44 Tryd.underlying5 g off n c (bs.map fun b => (b.toNat : Int)) (by rw [List.length_map, h.1]) ?_ 9 Tryd.underlying9, strOf_bytes]
    intro i hi
    obtain ⟨g', off', e, hg, hc⟩ := h.2.2 (by omega)
    cases e
    rw [hc i hi]
    simp [bv, List.getD_eq_getElem?_getD, List.getElem?_eq_getElem (show i < bs.length by omega)]

theorem OwnB.src {w : World} {A : Option Addr} {n c : Nat} {o : Option Nat} {bs : List UInt8} (h : OwnB w (.slice A n c) o bs) : Src (Own o) w A n bs ∧ n = bs.length := by
  have hn : n = bs.length := by
    obtain ⟨A', c', e', _⟩ := h.slice
    injection e'
  refine ⟨⟨hn.symm, ?_, ?_⟩, hn⟩
  · rintro ad rfl
    rcases h.1.2 with ⟨h0, _⟩ | ⟨g, cap, cur, h0, _⟩
    · cases h0
    · injection h0 with h0; injection h0 with h0; rw [h0]
  · intro hp
    rcases h.1.2 with ⟨h0, h1⟩ | ⟨g, cap, cur, h0, _, hg, hnc, _, hcs, ht⟩
    · omega
    · injection h0 with h0 _ _
      subst h0
      refine ⟨g, 0, rfl, h.2.symm, ?_⟩
      intro i hi
      have hin : i < bs.length := by omega
      have hfl : (bs.map bv)[i]? = some (bv (bs.getD i 0)) := by
        rw [List.getElem?_map, List.getElem?_eq_getElem hin, List.getD_eq_getElem?_getD, List.getElem?_eq_getElem hin]; rfl
      rw [← ht, List.getElem?_take] at hfl
      split at hfl
      · rw [Nat.zero_add]
        simp only [World.cell?, hg]
        rw [Array.getElem?_toList] at hfl
        simpa using hfl
      · cases hfl
/-- string(b), b bytes of the call's own. -/
theorem conv_own {w : World} {A : Option Addr} {n c : Nat} {o : Option Nat} {bs : List UInt8} (h : OwnB w (.slice A n c) o bs) :
    (convert 44 9 (.slice A n c)).run Tryd.prog w = .ok (.string ⟨bs.toArray⟩) w := conv_src h.src.1 c

theorem row_fs {W : World} {b : Nat} {cs : Array Value} {T : TypeId} (h : W.heap[b]? = some (.cells cs T)) : (∀ i, W.cell? ⟨b, i, none⟩ = cs[i]?) ∧ (∀ i, W.frozen? ⟨b, i, none⟩ = false) :=
  ⟨fun i => cell_of_row W b i _ _ _ h, fun i => by simp [World.frozen?, h]⟩
theorem heap_st {W : World} {b i : Nat} {cs : Array Value} {T : TypeId} (h : W.heap[b]? = some (.cells cs T)) (v : Value) : (W.setCell ⟨b, i, none⟩ v).heap[b]? = some (.cells (cs.setIfInBounds i v) T) := by
  simp [World.setCell, Array.getElem?_modify, h]
/-- Values laid over a row from o on. -/
def putAt (cs : Array Value) : Nat → List Value → Array Value
  | _, [] => cs
  | o, v :: r => putAt (cs.setIfInBounds o v) (o + 1) r
theorem putAt_size : ∀ (vs : List Value) (cs : Array Value) (o : Nat), (putAt cs o vs).size = cs.size
  | [], _, _ => rfl
  | v :: r, cs, o => by rw [putAt, putAt_size r]; simp
theorem putAt_list : ∀ (vs : List Value) (cs : Array Value) (o : Nat), o + vs.length ≤ cs.size → (putAt cs o vs).toList = cs.toList.take o ++ vs ++ cs.toList.drop (o + vs.length)
  | [], cs, o, _ => by simp [putAt]
  | v :: r, cs, o, h => by
    simp only [List.length_cons] at h
    rw [putAt, putAt_list r _ _ (by simp; omega), Array.toList_setIfInBounds]
    have h1 : (cs.toList.set o v).take (o + 1) = cs.toList.take o ++ [v] := by
      rw [List.take_add_one, List.take_set_of_le (Nat.le_refl _), List.getElem?_set_self (by simp; omega)]; rfl
    rw [h1, List.drop_set_of_lt (by omega), List.length_cons, show o + 1 + r.length = o + (r.length + 1) from by omega]
    simp
theorem heap_setCells {b : Nat} {T : TypeId} : ∀ (vs : List Value) (o : Nat) {W : World} {cs : Array Value}, W.heap[b]? = some (.cells cs T) → (W.setCells b o vs).heap[b]? = some (.cells (putAt cs o vs) T)
  | [], _, _, _, h => h
  | v :: r, o, W, cs, h => heap_setCells r (o + 1) (heap_st h v)
theorem Kp.setCells {a : World} {b : Nat} : ∀ (vs : List Value) (o : Nat) {w : World}, Kp (One b) a w → Kp (One b) a (w.setCells b o vs)
  | [], _, _, h => h
  | v :: r, o, w, h => Kp.setCells r (o + 1) (Kp.set1 h)


theorem bytes_kp (W : World) (e : TypeId) (s : ByteArray) : Kp No W (Lib.bytesWorld W e s) :=
  ⟨rfl, rfl, rfl, by rw [Lib.bytesWorld_size]; omega, fun k hk _ => Lib.bytesWorld_at_old W e s k hk⟩
/-- Laid ahead of a walk: what []byte(s) gives. -/
theorem conv_bytes (s : ByteArray) (W : World) : (convert 9 44 (.string s)).run Tryd.prog W = .ok (.slice (some ⟨W.heap.size, 0, none⟩) s.size (grownCap W s.size 0 5)) (Lib.bytesWorld W 5 s) :=
  Lib.run_convert_string_bytes W 9 44 5 s Tryd.underlying9 Tryd.underlying44 Tryd.underlying5
theorem size_data (s : ByteArray) : s.data.toList.length = s.size := by rw [Array.length_toList]; rfl
theorem conv_srcB (s : ByteArray) (W : World) : Src (One W.heap.size) (Lib.bytesWorld W 5 s) (some ⟨W.heap.size, 0, none⟩) s.size s.data.toList := by
  refine ⟨size_data s, by rintro ad ⟨⟩; rfl, fun _ => ⟨_, _, rfl, rfl, fun i hi => ?_⟩⟩
  rw [Nat.zero_add, Lib.bytesWorld_cell W _ s i hi]
  rfl
theorem conv_cap (s : ByteArray) (W : World) (h : s.size ≤ 9223372036854775807) : s.size ≤ grownCap W s.size 0 5 ∧ grownCap W s.size 0 5 ≤ 9223372036854775807 :=
  ⟨grownCap_ge _ _ _ _, by have := grownCap_le_maxLen W s.size 0 5 (by simpa [maxLen] using h); simpa [maxLen] using this⟩
theorem conv_apt (s : ByteArray) (W : World) : Apt No (Lib.bytesWorld W 5 s) (One W.heap.size) := by
  rintro x rfl
  exact ⟨by rw [Lib.bytesWorld_size]; omega, not_No _⟩
theorem srcF_new {α : Type} (sz : Nat) (f : α → List Value) (hf : ∀ x, (f x).length = sz) (W : World) (n0 : Nat) (hz : n0 = W.heap.size) (cs : Array Value) (T : TypeId) (l : List α) (h : cs.toList = l.flatMap f) {n : Nat} (hn : l.length = n) :
    SrcF sz f (One n0) (W.alloc (.cells cs T)) (some ⟨n0, 0, none⟩) n l := by
  subst hz
  refine ⟨hn, trivial, fun _ => ⟨_, 0, rfl, rfl, fun i x hi j u hu => ?_⟩⟩
  rw [Nat.zero_add, cell_new, ← flat_get f sz hf l hi hu, ← h, Array.getElem?_toList]
section
variable {ops : Array Oper} {o : Oper} {a : Act} {Q : Exit → Act → World → Prop} {K : Act → World → Prop} {E : Prop}
/-- append(v, ys...), as one step. -/
theorem step_appn {α : Type} {w : World} {e t : TypeId} {sz by_ : Nat} {z : Value} (f : α → List Value) (hf : ∀ x, (f x).length = sz) (h1 : ∀ x u, u ∈ f x → u.oneCell' = true)
    (ht : Tryd.prog.underlying t = some (.slice e)) (hinfo : (Tryd.prog.info? e).map (fun i => (i.zero, i.size, i.bytes)) = some (some z, sz, by_)) (hz : z.cells.size = sz) (hs0 : 0 < sz)
    (hg : o.guard = none) (s x : Operand) (ho : o.op = .call { callee := .builtin .append, args := #[s, x], argTypes := #[t, t] })
    (v : Value) (o1 : Option Nat) (xs ys : List α) (hs : a.eval s = v) (ad : Addr) (m c : Nat) (hx : a.eval x = .slice (some ad) m c) (hm : m = ys.length)
    (hc : ∀ j u, (ys.flatMap f)[j]? = some u → w.cell? (ad.add j) = some u) (HO : OwnR e sz f w v o1 xs) (hl : (xs.length + ys.length) * by_ ≤ 140737488355328) (hm2 : xs.length + ys.length ≤ 140737488355328)
    (h : ∀ v1 w1 o2, OwnR e sz f w1 v1 o2 (xs ++ ys) → Nxt w o1 o2 → Kp (Own o1) w w1 → K (a.put o.dst v1) w1) :
    if Region.wanted o (yielded ops a.tmps) = true then Oper.wp Tryd.prog o a w K Q else E := by
  subst hm
  have hw : Region.wanted o (yielded ops a.tmps) = true := by simp [Region.wanted, hg]
  rw [if_pos hw]
  obtain ⟨i0, hi, hzz⟩ := Option.map_eq_some_iff.1 hinfo
  simp only [Prod.mk.injEq] at hzz
  obtain ⟨hz0, hz1, hz2⟩ := hzz
  obtain ⟨v1, w1, hr, hown, hgr, _, hat⟩ := run_append_own_at (P := Tryd.prog) w 0 t o.type e i0 z sz by_ ht hi hz0 hz1 hz2 hz hs0 v xs.length (xs.flatMap f) HO.1 ad ys.length c (ys.flatMap f) (flat_length f sz hf ys)
    hc (by intro u hu; obtain ⟨y, _, hy⟩ := List.mem_flatMap.1 hu; exact h1 y u hy) (by simp only [maxLen]; omega) hl (Nat.zero_le _)
  unfold Oper.wp execOp
  simp only [ho, resolve, invoke, builtin, Sem.run_bind, Sem.run_pure, Result.andThen_ok, List.map_toArray, List.map_cons, List.map_nil, hs, hx, hr]
  refine h v1 w1 v1.ownBlock ⟨by rw [List.length_append, List.flatMap_append]; exact hown, rfl⟩ ?_ ?_
  · rcases hat with hat | hat
    · exact .inl (hat.trans HO.2)
    · exact .inr ⟨_, hat, Nat.le_refl _⟩
  · exact (Kp.refl _ _).grown hgr fun k hk _ => HO.2.symm.trans hk
end
theorem own_new0 {α : Type} (e : TypeId) (f : α → List Value) (w : World) : OwnR e 1 f (w.alloc (.cells #[] e)) (.slice (some ⟨w.heap.size, 0, none⟩) 0 0) (some w.heap.size) [] :=
  ⟨⟨rfl, .inr ⟨w.heap.size, 0, #[], rfl, Nat.zero_le _, heap_alloc_new _ _, Nat.le_refl _, Nat.zero_le _, rfl, rfl⟩⟩, rfl⟩
theorem add_plain (g off j : Nat) : (⟨g, off, none⟩ : Addr).add j = ⟨g, off + j, none⟩ := by unfold Addr.add; split <;> simp_all
theorem Kp.setRow {S : Nat → Prop} {a w : World} (h : Kp S a w) {p : Nat} (hp : p < a.heap.size → S p) (cs : Array Value) : Kp S a (w.setRow p cs) :=
  ⟨h.os, h.tape, h.output, by simpa [World.setRow] using h.size, fun i hi hn => by
    rw [show (w.setRow p cs).heap[i]? = w.heap[i]? from by
      simp only [World.setRow, Array.getElem?_modify]
      rw [if_neg (fun e => hn (by subst e; exact hp hi))]]
    exact h.block i hi hn⟩
/-- One result: a struct in a cell. -/
theorem results_c1 {fn : Func} {p : Tmp} {ty : TypeId} (h : fn.results = #[.cell p ty]) (tmps : Array Value) (w : World) (g : Nat) (t : TypeId) (cs : Array Value) {fs : Array Field}
    (hp : tmps.getD p undef = .pointer (some ⟨g, 0, none⟩)) (hg : w.heap[g]? = some (.cells cs t)) (hu : Tryd.prog.underlying ty = some (.struct fs)) (hi : (Tryd.prog.info? ty).map (·.size) = some cs.size) :
    (results fn tmps).run Tryd.prog w = .ok (.agg cs) w := by
  have hl := run_loadVar_row (P := Tryd.prog) w g t ty cs (0, 0) _ hg hu rfl hi
  have hp' : tmps[p]?.getD undef = .pointer (some ⟨g, 0, none⟩) := by simpa using hp
  simp [results, h, hp', asAddr, hl]

/-- Two results: a struct in a cell, and a slot. -/
theorem results_ct {fn : Func} {p q : Tmp} {ty : TypeId} (h : fn.results = #[.cell p ty, .tmp q]) (tmps : Array Value) (w : World) (g : Nat) (t : TypeId) (cs : Array Value) {fs : Array Field} (v2 : Value)
    (hp : tmps.getD p undef = .pointer (some ⟨g, 0, none⟩)) (hq : tmps.getD q undef = v2) (hg : w.heap[g]? = some (.cells cs t)) (hu : Tryd.prog.underlying ty = some (.struct fs)) (hi : (Tryd.prog.info? ty).map (·.size) = some cs.size) :
    (results fn tmps).run Tryd.prog w = .ok (.tuple #[.agg cs, v2]) w := by
  have hl := run_loadVar_row (P := Tryd.prog) w g t ty cs (0, 0) _ hg hu rfl hi
  have hp' : tmps[p]?.getD undef = .pointer (some ⟨g, 0, none⟩) := by simpa using hp
  have hq' : tmps[q]?.getD undef = v2 := by simpa using hq
  simp [results, h, hp', hq', asAddr, hl]
/-- A whole struct is read out of its box, in one step (the walk's own way asks too much of the kernel where the struct is large). -/
theorem load_big {ops : Array Oper} {rest : List Oper} {o : Oper} {a : Act} {w : World} {Q : Exit → Act → World → Prop} (ty : TypeId) (x : Operand) (ho : o.op = .load ty x) (hw : Region.wanted o (yielded ops a.tmps) = true)
    (g : Nat) (hx : a.eval x = .pointer (some ⟨g, 0, none⟩)) (t : TypeId) (cs : Array Value) {fs : Array Field} (hg : w.heap[g]? = some (.cells cs t))
    (hu : Tryd.prog.underlying ty = some (.struct fs)) (hi : (Tryd.prog.info? ty).map (·.size) = some cs.size)
    (h : wpList Tryd.prog ops Q rest (a.put o.dst (.agg cs)) w) : wpList Tryd.prog ops Q (o :: rest) a w :=
  wpList_step fun K hK => by rw [if_pos hw]; exact wp_load_row ty x ho g hx t cs (0, 0) _ hg hu rfl hi (hK _ _ h)

end Go.Proofs.YtekgojolfckiiaaDoor
