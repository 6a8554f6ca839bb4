/- Append of a slice that came in; TaleJoins. -/
import Derived.Test.YtekgojolfckiiaaDoorQTale9
import Derived.Laws.OwnMore
set_option linter.unusedVariables false
set_option linter.unusedSimpArgs false
namespace Go.Proofs.YtekgojolfckiiaaDoor
open Go.RowKit

theorem flat_inv {α β : Type} (f : α → List β) (sz : Nat) (hf : ∀ x, (f x).length = sz) : ∀ (xs : List α) {k : Nat} {u : β}, (xs.flatMap f)[k]? = some u → ∃ i x j, xs[i]? = some x ∧ (f x)[j]? = some u ∧ k = i * sz + j
  | [], k, u, h => by simp at h
  | x :: xs, k, u, h => by
    rw [List.flatMap_cons] at h
    by_cases hk : k < sz
    · rw [List.getElem?_append_left (by rw [hf]; exact hk)] at h
      exact ⟨0, x, k, rfl, h, by simp⟩
    · rw [List.getElem?_append_right (by rw [hf]; omega), hf] at h
      obtain ⟨i, y, j, h1, h2, h3⟩ := flat_inv f sz hf xs h
      exact ⟨i + 1, y, j, h1, h2, by rw [Nat.add_mul]; omega⟩
theorem SrcF.flat {α : Type} {sz : Nat} {f : α → List Value} {ok : Nat → Prop} {w : World} {A : Option Addr} {n : Nat} {xs : List α} (h : SrcF sz f ok w A n xs) (hf : ∀ x, (f x).length = sz) (ad : Addr) (hA : A = some ad) {k : Nat} {u : Value} (hu : (xs.flatMap f)[k]? = some u) : w.cell? (ad.add k) = some u := by
  obtain ⟨i, x, j, h1, h2, rfl⟩ := flat_inv f sz hf xs hu
  have hn : 0 < n := by rw [← h.1]; have := (List.getElem?_eq_some_iff.1 h1).1; omega
  obtain ⟨g, off, e, _, hc⟩ := h.2.2 hn
  rw [hA] at e
  injection e with e
  subst e
  rw [add_plain]
  exact hc i x h1 j u h2
section
variable {ops : Array Oper} {rest : List Oper} {op : Oper} {a : Act} {Q : Exit → Act → World → Prop}
/-- append(v, ys...): a slice that came in, nil among them. -/
theorem app_src {α : Type} {w : World} {e t : TypeId} {sz by_ : Nat} {z : Value} (f : α → List Value) (hf : ∀ x, (f x).length = sz) (h1 : ∀ x u, u ∈ f x → u.oneCell' = true)
    (ht : Tryd.prog.underlying t = some (.slice e)) (hinfo : (Tryd.prog.info? e).map (fun i => (i.zero, i.size, i.bytes)) = some (some z, sz, by_)) (hz : z.cells.size = sz) (hs0 : 0 < sz)
    (hg : op.guard = none) (s x : Operand) (ho : op.op = .call { callee := .builtin .append, args := #[s, x], argTypes := #[t, t] })
    (v : Value) (o1 : Option Nat) (xs ys : List α) (hs : a.eval s = v) (A : Option Addr) (m c : Nat) (hx : a.eval x = .slice A m c) (hA : A = none → m = 0 ∧ c = 0) (hm : m = ys.length)
    (hc : ∀ ad, A = some ad → ∀ j u, (ys.flatMap f)[j]? = some u → w.cell? (ad.add j) = some u) (HO : OwnR e sz f w v o1 xs) (hl : (xs.length + ys.length) * by_ ≤ 140737488355328) (hm2 : xs.length + ys.length ≤ 140737488355328)
    (h : ∀ v1 w1 o2, OwnR e sz f w1 v1 o2 (xs ++ ys) → Nxt w o1 o2 → Kp (Own o1) w w1 → wpList Tryd.prog ops Q rest (a.put op.dst v1) w1) : wpList Tryd.prog ops Q (op :: rest) a w := by
  cases A with
  | some ad => exact wpList_step fun K hK => step_appn f hf h1 ht hinfo hz hs0 hg s x ho v o1 xs ys hs ad m c hx hm (hc ad rfl) HO hl hm2 fun v1 w1 o2 a1 a2 a3 => hK _ _ (h v1 w1 o2 a1 a2 a3)
  | none =>
    obtain ⟨rfl, rfl⟩ := hA rfl
    obtain rfl : ys = [] := List.eq_nil_of_length_eq_zero hm.symm
    refine wpList_step fun K hK => ?_
    have hw : Region.wanted op (yielded ops a.tmps) = true := by simp [Region.wanted, hg]
    rw [if_pos hw]
    obtain ⟨i0, hi, hzz⟩ := Option.map_eq_some_iff.1 hinfo
    have hr := run_append_owned_none (P := Tryd.prog) (w := w) 0 t op.type e i0 sz ht hi v xs.length (xs.flatMap f) HO.1
    unfold Oper.wp execOp
    simp only [ho, resolve, invoke, builtin, Sem.run_bind, Sem.run_pure, Result.andThen_ok, List.map_toArray, List.map_cons, List.map_nil, hs, hx, hr]
    exact hK _ _ (h v w o1 (by simpa using HO) (Nxt.refl _ _) (Kp.refl _ _))
end

theorem srcUp {w W : World} {A : Option Addr} {n : Nat} {es : List Tl.Ev} (h : SrcF 6 evL_ (· < w.heap.size) w A n es) (k : Kp No w W) : SrcF 6 evL_ (· < W.heap.size) W A n es :=
  (h.agr (k.agr (fun b hb => ⟨hb, not_No b⟩))).mono fun b hb => Nat.lt_of_lt_of_le hb k.size
/-- What a call may know of events that came in. -/
structure EvsIn (w : World) (A : Option Addr) (c : Nat) (es : List Tl.Ev) : Prop where
  src : SrcF 6 evL_ (· < w.heap.size) w A es.length es
  nil : A = none → es.length = 0 ∧ c = 0
  len : es.length ≤ 140737488355328
  each : ∀ e ∈ es, shortE e ∧ i64R e.who ∧ i64R e.n
theorem small_fit {es : List Tl.Ev} {most : Nat} (h : smallB es most = true) (hi : ∀ e ∈ es, shortE e ∧ i64R e.who ∧ i64R e.n) : es.length ≤ most ∧ ∀ e ∈ es, fitE e := by
  unfold smallB at h
  rw [Bool.and_eq_true, List.all_eq_true] at h
  refine ⟨by simpa using h.1, fun e he => ?_⟩
  have h1 := h.2 e he
  simp only [decide_eq_true_eq] at h1
  exact ⟨by omega, by omega, by omega, (hi e he).2⟩
set_option maxRecDepth 100000 in
set_option maxHeartbeats 2000000 in
theorem joins_small (as_ bs : List Tl.Ev) (A B : Option Addr) (ca cb : Nat) (cut : Int) (w : World) (E : Env w) (ha : EvsIn w A ca as_) (hb : EvsIn w B cb bs) (hno : (smallB as_ 60 && smallB bs 60) = false) :
    Calls Tryd.prog 5 #[.slice A as_.length ca, .slice B bs.length cb, .int .u16 cut] w fun e w' => e = .returned (.bool true) ∧ Kp No w w' := by
  have HA := Lib.hid (awake_c w E)
  have HS1 := Lib.hid fun W (k : Kp No w W) => small_c as_ 60 (by omega) A ca W (srcUp ha.src k) ha.len (fun e he => (ha.each e he).1)
  have HS2 := Lib.hid fun W (k : Kp No w W) => small_c bs 60 (by omega) B cb W (srcUp hb.src k) hb.len (fun e he => (hb.each e he).1)
  clear E ha hb
  rw [show ((60 : Nat) : Int) = 60 from rfl] at HS1 HS2
  cases h1 : smallB as_ 60 with
  | false =>
    rw [h1] at HS1
    clear HS2 hno
    go_enter Tryd.func5, Tryd.ntmps5
    go_wp2_with fail
    refine HA.out.mono ?_
    rintro en w1 ⟨rfl, hk1⟩
    have HK1 := Lib.hid hk1
    clear hk1
    go_wp2_with fail
    refine (HS1.out _ HK1.out).mono ?_
    rintro en w2 ⟨rfl, hk2⟩
    have HK2 := Lib.hid (HK1.out.thenNo hk2)
    clear hk2
    go_wp2_with fail
    go_ret
    exact ⟨rfl, HK2.out⟩
  | true =>
    have h2 : smallB bs 60 = false := by simpa [h1] using hno
    rw [h1] at HS1
    rw [h2] at HS2
    clear hno
    go_enter Tryd.func5, Tryd.ntmps5
    go_wp2_with fail
    refine HA.out.mono ?_
    rintro en w1 ⟨rfl, hk1⟩
    have HK1 := Lib.hid hk1
    clear hk1
    go_wp2_with fail
    refine (HS1.out _ HK1.out).mono ?_
    rintro en w2 ⟨rfl, hk2⟩
    have HK2 := Lib.hid (HK1.out.thenNo hk2)
    clear hk2
    go_wp2_with fail
    refine (HS2.out _ HK2.out).mono ?_
    rintro en w3 ⟨rfl, hk3⟩
    have HK3 := Lib.hid (HK2.out.thenNo hk3)
    clear hk3
    go_wp2_with fail
    go_ret
    exact ⟨rfl, HK3.out⟩

end Go.Proofs.YtekgojolfckiiaaDoor
