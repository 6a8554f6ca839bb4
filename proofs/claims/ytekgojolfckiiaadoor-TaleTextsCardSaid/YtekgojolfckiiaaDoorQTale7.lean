/- The example that every statement begins with; TaleReads. -/
import Derived.Test.YtekgojolfckiiaaDoorQTale6
set_option linter.unusedVariables false
set_option linter.unusedSimpArgs false
namespace Go.Proofs.YtekgojolfckiiaaDoor
open Go.RowKit

theorem OwnR.one {α : Type} {e : TypeId} {sz : Nat} {f : α → List Value} {w : World} {A : Option Addr} {c : Nat} {o : Option Nat} {x : α} (h : OwnR e sz f w (.slice A 1 c) o [x]) (hf : ∀ x, (f x).length = sz) :
    ∃ g, A = some ⟨g, 0, none⟩ ∧ o = some g ∧ ∀ j u, (f x)[j]? = some u → w.cell? ⟨g, j, none⟩ = some u := by
  rcases h.1.2 with ⟨h0, h1⟩ | ⟨g, cap, cur, h0, _, hg, hnc, _, hcs, ht⟩
  · cases h1
  · injection h0 with h0 _ _
    subst h0
    refine ⟨g, rfl, h.2.symm, fun j u hu => ?_⟩
    have hfl : ([x].flatMap f)[j]? = some u := by simpa using hu
    rw [← ht, List.getElem?_take] at hfl
    split at hfl
    · simp only [World.cell?, hg]
      rw [Array.getElem?_toList] at hfl
      exact hfl
    · cases hfl
def ev0 : Tl.Ev := ⟨4, 2, 0, [], [], []⟩
def line0 : List UInt8 := [116, 105, 99, 107, 32, 50, 32, 48, 32, 46, 32, 46, 32, 46, 10]
theorem text0 : Tl.textL [ev0] = line0 := by
  have h2 : Lib.itoa 2 = [50] := by simp [Lib.itoa, Lib.decDigits]
  have h0 : Lib.itoa 0 = [48] := by simp [Lib.itoa, Lib.decDigits]
  have hw : Tl.wordL 4 = [116, 105, 99, 107] := by decide
  have hx : Tl.hexL [] = [46] := rfl
  have hok : Tl.okE ev0 = true := by rw [Tl.okE_iff]; unfold ev0; simp only [hw]; decide
  unfold Tl.textL
  simp only [List.filter_cons, hok, if_true, List.filter_nil, List.flatMap_cons, List.flatMap_nil, List.append_nil]
  rw [Tl.lineL_eq, Tl.bodyL_eq]
  unfold ev0
  simp only [h2, h0, hw, hx]
  rfl
theorem read0 : Tl.readL line0 = some [ev0] := by
  have hok : Tl.okE ev0 = true := by
    have hw : Tl.wordL 4 = [116, 105, 99, 107] := by decide
    rw [Tl.okE_iff]; unfold ev0; simp only [hw]; decide
  have := Tl.read_text [ev0] (by intro e he; simp at he; subst he; unfold Tl.smallE ev0; simp)
  rw [text0] at this
  rw [this]
  simp [hok]
theorem fit0 : fitE ev0 := by unfold fitE ev0 i64R; simp

theorem cellK {S : Nat → Prop} {a b : World} (k : Kp S a b) {g j : Nat} {v : Value} (hn : ¬ S g) (h : a.cell? ⟨g, j, none⟩ = some v) : b.cell? ⟨g, j, none⟩ = some v := (k.cell g j (World.block_lt_of_cell? _ _ h) hn).trans h
/-- Cells of an event: six facts. -/
abbrev EvF (g : Nat) (W : World) : Prop :=
  W.cell? ⟨g, 0, none⟩ = some (.int .i64 4) ∧ W.cell? ⟨g, 1, none⟩ = some (.int .i64 2) ∧ W.cell? ⟨g, 2, none⟩ = some (.int .i64 0) ∧ W.cell? ⟨g, 3, none⟩ = some (.string ⟨#[]⟩) ∧ W.cell? ⟨g, 4, none⟩ = some (.string ⟨#[]⟩) ∧ W.cell? ⟨g, 5, none⟩ = some (.string ⟨#[]⟩)
theorem EvF.kp {g : Nat} {a b : World} (h : EvF g a) (k : Kp No a b) : EvF g b :=
  ⟨cellK k (not_No _) h.1, cellK k (not_No _) h.2.1, cellK k (not_No _) h.2.2.1, cellK k (not_No _) h.2.2.2.1, cellK k (not_No _) h.2.2.2.2.1, cellK k (not_No _) h.2.2.2.2.2⟩
theorem EvF.src {g : Nat} {W : World} (h : EvF g W) : SrcF 6 evL_ (· < W.heap.size) W (some ⟨g, 0, none⟩) 1 [ev0] := by
  refine ⟨rfl, trivial, fun _ => ⟨g, 0, rfl, World.block_lt_of_cell? _ _ h.1, fun i x hi j u hu => ?_⟩⟩
  rcases i with _ | i
  · simp at hi
    subst hi
    rw [Nat.zero_mul, Nat.zero_add, Nat.zero_add]
    rcases j with _ | _ | _ | _ | _ | _ | j
    all_goals first | (injection hu with hu; subst hu; first | exact h.1 | exact h.2.1 | exact h.2.2.1 | exact h.2.2.2.1 | exact h.2.2.2.2.1 | exact h.2.2.2.2.2) | (cases hu)
  · simp at hi
theorem ReadE0 {w : World} {en : Ending} {w' : World} (h : ReadEP w (some [ev0]) en w') : Kp No w w' ∧ ∃ g c, en = .returned (.tuple #[.slice (some ⟨g, 0, none⟩) 1 c, .int .i64 0]) ∧ EvF g w' ∧ w.heap.size ≤ g := by
  obtain ⟨hk, A, c, o, rfl, ho, hy⟩ := h
  obtain ⟨g, rfl, rfl, hc⟩ := OwnR.one ho evL_len
  exact ⟨hk, g, c, rfl, ⟨hc 0 _ rfl, hc 1 _ rfl, hc 2 _ rfl, hc 3 _ rfl, hc 4 _ rfl, hc 5 _ rfl⟩, hy g rfl⟩
theorem awS_kp {w a b : World} {g l : Nat} (h : EvF g a ∧ EvF l a ∧ Hid (Kp No w a)) (k : Kp No a b) : EvF g b ∧ EvF l b ∧ Hid (Kp No w b) := ⟨h.1.kp k, h.2.1.kp k, Lib.hid (h.2.2.out.thenNo k)⟩
set_option maxRecDepth 100000 in
set_option maxHeartbeats 2000000 in
theorem awake_c (w : World) (E : Env w) : Calls Tryd.prog 6 #[] w fun e w' => e = .returned (.bool true) ∧ Kp No w w' := by
  have HR := Lib.hid fun W (k : Kp No w W) => read_c line0 W (E.kp k) (by decide)
  rw [read0] at HR
  have HT := Lib.hid fun W (k : Kp No w W) (g : Nat) (h : EvF g W) => text_c [ev0] (some ⟨g, 0, none⟩) 1 W (E.kp k) h.src (by intro e he; simp at he; subst he; exact fit0) (by decide)
  rw [text0] at HT
  go_enter Tryd.func6, Tryd.ntmps6
  go_wp2_with fail
  refine (HR.out _ ((Kp.refl _ _).alloc _)).mono ?_
  intro en w1 hr
  obtain ⟨hk1, g, c, rfl, hev, hg⟩ := ReadE0 hr
  have hel : EvF w.heap.size w1 := EvF.kp (a := w.alloc (.cells #[.int .i64 4, .int .i64 2, .int .i64 0, .string ⟨#[]⟩, .string ⟨#[]⟩, .string ⟨#[]⟩] 39)) ⟨cell_new _ _ _ 0, cell_new _ _ _ 1, cell_new _ _ _ 2, cell_new _ _ _ 3, cell_new _ _ _ 4, cell_new _ _ _ 5⟩ hk1
  have hkw : Kp No w w1 := Kp.thenNo ((Kp.refl _ _).alloc _) hk1
  generalize w.heap.size = lb at *
  generalize bT line0 = T0 at *
  have HT2 := Lib.hid fun W (s : EvF g W ∧ EvF lb W ∧ Hid (Kp No w W)) => HT.out W s.2.2.out lb s.2.1
  have hS : EvF g w1 ∧ EvF lb w1 ∧ Hid (Kp No w w1) := ⟨hev, hel, Lib.hid hkw⟩
  clear hr hk1 hg hev hel hkw HR HT E
  have hq : (bT line0).toList = [116, 105, 99, 107, 32, 50, 32, 48, 32, 46, 32, 46, 32, 46, 10] := by rw [toList_data, bT_list]; rfl
  go_wp2_with fail
  go_region_held3 (fun W => (W.cell? ⟨g, 0, none⟩ = some (.int .i64 4) ∧ W.cell? ⟨g, 1, none⟩ = some (.int .i64 2) ∧ W.cell? ⟨g, 2, none⟩ = some (.int .i64 0) ∧ W.cell? ⟨g, 3, none⟩ = some (.string ⟨#[]⟩) ∧ W.cell? ⟨g, 4, none⟩ = some (.string ⟨#[]⟩) ∧ W.cell? ⟨g, 5, none⟩ = some (.string ⟨#[]⟩)) ∧
    (W.cell? ⟨lb, 0, none⟩ = some (.int .i64 4) ∧ W.cell? ⟨lb, 1, none⟩ = some (.int .i64 2) ∧ W.cell? ⟨lb, 2, none⟩ = some (.int .i64 0) ∧ W.cell? ⟨lb, 3, none⟩ = some (.string ⟨#[]⟩) ∧ W.cell? ⟨lb, 4, none⟩ = some (.string ⟨#[]⟩) ∧ W.cell? ⟨lb, 5, none⟩ = some (.string ⟨#[]⟩)) ∧ Hid (Kp No w W))
    ((first
      | assumption
      | (refine awS_kp (w := w) (g := g) (l := lb) (by assumption) ?_; (first | assumption | exact (Kp.refl _ _).drew))))
    ((first
      | (go_at_call 9; refine (HT2.out _ (by assumption)).mono ?_; rintro en wx ⟨rfl, hk⟩)))
  have hfin : Kp No w wx := (show EvF g wx ∧ EvF lb wx ∧ Hid (Kp No w wx) by assumption).2.2.out
  go_wp2_with fail
  go_ret
  exact ⟨rfl, hfin⟩

theorem readK_len : ∀ (k : Nat) (s : List UInt8) (es : List Tl.Ev), Tl.readK k s = some es → es.length ≤ s.length
  | _, [], es, h => by rw [Tl.readK_nil] at h; injection h with h; subst h; simp
  | 0, a :: s, es, h => by cases h
  | k + 1, a :: s, es, h => by
    rw [Tl.readK] at h
    obtain ⟨x, r, q, hcut⟩ : ∃ x r q, Lib.cut (a :: s) [10] = (x, r, q) := ⟨_, _, _, rfl⟩
    rw [hcut] at h
    simp only at h
    cases q with
    | false => simp at h
    | true =>
      have hc := (cut_len hcut).2.2 rfl
      rw [if_pos rfl] at h
      cases hx : Tl.evL x with
      | none => rw [hx] at h; cases h
      | some e =>
        rw [hx] at h
        simp only at h
        obtain ⟨es', h', rfl⟩ := Option.map_eq_some_iff.1 h
        have := readK_len k r es' h'
        simp only [List.length_cons] at hc ⊢
        omega
theorem readK_small : ∀ (k : Nat) (s : List UInt8) (es : List Tl.Ev), Tl.readK k s = some es → ∀ e ∈ es, Tl.smallE e
  | _, [], es, h => by rw [Tl.readK_nil] at h; injection h with h; subst h; simp
  | 0, a :: s, es, h => by cases h
  | k + 1, a :: s, es, h => by
    rw [Tl.readK] at h
    obtain ⟨x, r, q, hcut⟩ : ∃ x r q, Lib.cut (a :: s) [10] = (x, r, q) := ⟨_, _, _, rfl⟩
    rw [hcut] at h
    simp only at h
    cases q with
    | false => simp at h
    | true =>
      rw [if_pos rfl] at h
      cases hx : Tl.evL x with
      | none => rw [hx] at h; cases h
      | some e =>
        rw [hx] at h
        simp only at h
        obtain ⟨es', h', rfl⟩ := Option.map_eq_some_iff.1 h
        intro y hy
        rcases List.mem_cons.1 hy with rfl | hy
        · exact (Tl.evL_inv hx).2.2
        · exact readK_small k r es' h' y hy
theorem line_mem {es : List Tl.Ev} {e : Tl.Ev} (h : e ∈ es) (ho : Tl.okE e = true) : (Tl.lineL e).length ≤ (Tl.textL es).length := by
  induction es with
  | nil => cases h
  | cons x xs ih =>
    rw [show x :: xs = [x] ++ xs from rfl, Tl.textL_append, List.length_append]
    rcases List.mem_cons.1 h with rfl | h
    · simp [Tl.textL, ho]
    · have := ih h; omega
theorem read_fit {s : List UInt8} {es : List Tl.Ev} (h : Tl.readL s = some es) (hl : s.length ≤ 10000) : (∀ e ∈ es, fitE e) ∧ es.length ≤ 10001 := by
  have h1 := Tl.readK_inv _ _ _ h
  have h2 := Tl.text_read h
  have h3 := readK_len _ _ _ h
  refine ⟨fun e he => ?_, by omega⟩
  have ho := h1.2 e he
  have h4 := line_mem he ho
  rw [h2, Tl.lineL_eq, Tl.bodyL_eq] at h4
  simp only [List.length_append, List.length_cons, List.length_nil, Tl.hexL_len] at h4
  obtain ⟨_, h5, h6⟩ := (Tl.okE_iff e).1 ho
  have hs := (readK_small _ _ _ h) e he
  unfold Tl.smallE at hs
  exact ⟨by omega, by omega, by omega, ⟨by omega, by omega⟩, by omega, by omega⟩
set_option maxRecDepth 100000 in
set_option maxHeartbeats 2000000 in
theorem reads_c (s : ByteArray) (w : World) (E : Env w) : Calls Tryd.prog 4 #[.string s] w fun e w' => e = .returned (.bool true) ∧ Kp No w w' := by
  have HA := Lib.hid (awake_c w E)
  by_cases hl : s.size ≤ 10000
  · have HR := Lib.hid fun W (k : Kp No w W) => read_c s.data.toList W (E.kp k) (by rw [size_data]; omega)
    rw [bT_data] at HR
    cases hr : Tl.readL s.data.toList with
    | none =>
      rw [hr] at HR
      go_enter Tryd.func4, Tryd.ntmps4
      go_wp2_with fail
      refine HA.out.mono ?_
      rintro en w1 ⟨rfl, hk1⟩
      have HK1 := Lib.hid hk1
      clear hk1
      go_wp2_with fail
      refine (HR.out _ HK1.out).mono ?_
      rintro en w2 ⟨hk2, rfl⟩
      have HK2 := Lib.hid hk2
      clear hk2
      go_wp2_with fail
      go_ret
      exact ⟨rfl, HK1.out.thenNo HK2.out⟩
    | some es =>
      rw [hr] at HR
      obtain ⟨hf, hle⟩ := read_fit hr (by rw [size_data]; omega)
      have htr := Tl.text_read hr
      have HT := Lib.hid fun W (k : Kp No w W) (A : Option Addr) (c : Nat) (h : SrcF 6 evL_ (· < W.heap.size) W A es.length es) => text_c es A c W (E.kp k) h hf hle
      rw [htr] at HT
      go_enter Tryd.func4, Tryd.ntmps4
      go_wp2_with fail
      refine HA.out.mono ?_
      rintro en w1 ⟨rfl, hk1⟩
      have HK1 := Lib.hid hk1
      clear hk1
      go_wp2_with fail
      refine (HR.out _ HK1.out).mono ?_
      rintro en w2 ⟨hk2, A, c, o, rfl, ho, hy⟩
      have HK2 := Lib.hid (HK1.out.thenNo hk2)
      have HO := Lib.hid ((ho.src evL_len).1.mono (ok' := (· < w2.heap.size)) (fun b hb => ho.lt hb))
      clear hk2 ho hy
      go_wp2_with fail
      refine (HT.out _ HK2.out _ _ HO.out).mono ?_
      rintro en w3 ⟨rfl, hk3⟩
      have HK3 := Lib.hid hk3
      clear hk3
      rw [bT_data]
      go_wp2_with fail
      go_ret
      exact ⟨rfl, HK2.out.thenNo HK3.out⟩
  · go_enter Tryd.func4, Tryd.ntmps4
    go_wp2_with fail
    refine HA.out.mono ?_
    rintro en w1 ⟨rfl, hk1⟩
    go_wp2_with fail
    go_ret
    exact ⟨rfl, hk1⟩

end Go.Proofs.YtekgojolfckiiaaDoor
