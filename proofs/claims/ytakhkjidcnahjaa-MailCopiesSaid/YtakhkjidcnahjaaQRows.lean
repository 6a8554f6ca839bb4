/- Rows of elements of several cells that a function makes for itself: append, and reading them. -/
import Derived.Test.YtakhkjidcnahjaaQSimple
set_option linter.unusedVariables false
set_option linter.unusedSimpArgs false
namespace Go.Proofs.Ytakhkjidcnahjaa
open Go.RowKit

/-- v is nil or a row of the call's own of elements of type e, sz cells each; its block is o. -/
def OwnR {α : Type} (e : TypeId) (sz : Nat) (f : α → List Value) (w : World) (v : Value) (o : Option Nat) (xs : List α) : Prop :=
  w.ownsRow 0 e sz v xs.length (xs.flatMap f) ∧ v.ownBlock = o
namespace OwnR
variable {α : Type} {e : TypeId} {sz : Nat} {f : α → List Value} {w w1 : World} {v : Value} {o : Option Nat} {xs : List α} {S : Nat → Prop}
theorem lt (h : OwnR e sz f w v o xs) {k : Nat} (hk : o = some k) : k < w.heap.size := ownLt h.1 k (h.2.trans hk)
theorem kp (h : OwnR e sz f w v o xs) (k : Kp S w w1) (ho : ∀ x, o = some x → ¬ S x) : OwnR e sz f w1 v o xs := ⟨ownKp h.1 k fun x hx => ho x (h.2 ▸ hx), h.2⟩
theorem kpNo (h : OwnR e sz f w v o xs) (k : Kp No w w1) : OwnR e sz f w1 v o xs := h.kp k fun x _ => not_No x
theorem slice (h : OwnR e sz f w v o xs) : ∃ A c, v = .slice A xs.length c ∧ xs.length ≤ c := by
  rcases h.1.2 with ⟨rfl, h0⟩ | ⟨g, cap, cur, rfl, _, _, hc, _⟩
  · exact ⟨none, 0, by rw [h0], by omega⟩
  · exact ⟨_, cap, rfl, hc⟩
theorem form (h : OwnR e sz f w v o xs) : ∃ A n c, v = .slice A n c := let ⟨A, c, e, _⟩ := h.slice; ⟨A, _, c, e⟩
theorem nil (e : TypeId) (sz : Nat) (f : α → List Value) (w : World) : OwnR e sz f w (.slice none 0 0) none [] := ⟨⟨by simp, .inl ⟨rfl, rfl⟩⟩, rfl⟩
end OwnR

theorem flat_length {α β : Type} (f : α → List β) (sz : Nat) (hf : ∀ x, (f x).length = sz) (xs : List α) : (xs.flatMap f).length = xs.length * sz := by
  induction xs with
  | nil => simp
  | cons x xs ih => rw [List.flatMap_cons, List.length_append, hf, ih, List.length_cons, Nat.add_mul, Nat.one_mul, Nat.add_comm]
theorem flat_get {α β : Type} (f : α → List β) (sz : Nat) (hf : ∀ x, (f x).length = sz) (xs : List α) {i j : Nat} {x : α} {u : β} (hi : xs[i]? = some x) (hj : (f x)[j]? = some u) : (xs.flatMap f)[i * sz + j]? = some u := by
  induction xs generalizing i with
  | nil => simp at hi
  | cons y ys ih =>
    have hjl : j < sz := by rw [← hf x]; exact (List.getElem?_eq_some_iff.1 hj).1
    cases i with
    | zero =>
      obtain rfl : y = x := by simpa using hi
      rw [List.flatMap_cons, List.getElem?_append_left (by rw [hf]; omega), Nat.zero_mul, Nat.zero_add]
      exact hj
    | succ i =>
      rw [List.flatMap_cons, List.getElem?_append_right (by rw [hf, Nat.add_mul]; omega), hf, show (i + 1) * sz + j - sz = i * sz + j from by rw [Nat.add_mul]; omega]
      exact ih (by simpa using hi)

/-- A row of the call's own is read. -/
theorem OwnR.src {α : Type} {e : TypeId} {sz : Nat} {f : α → List Value} {w : World} {A : Option Addr} {n c : Nat} {o : Option Nat} {xs : List α} (h : OwnR e sz f w (.slice A n c) o xs) (hf : ∀ x, (f x).length = sz) :
    SrcF sz f (Own o) w A n xs ∧ n = xs.length := by
  have hn : n = xs.length := by
    obtain ⟨A', c', e', _⟩ := h.slice
    injection e'
  refine ⟨⟨hn.symm, ?_, ?_⟩, hn⟩
  · rintro ad rfl
    rcases h.1.2 with ⟨h0, _⟩ | ⟨g, cap, cur, h0, _⟩
    · cases h0
    · injection h0 with h0; injection h0 with h0; rw [h0]
  · intro hp
    rcases h.1.2 with ⟨h0, h1⟩ | ⟨g, cap, cur, h0, _, hg, hnc, _, hcs, ht⟩
    · omega
    · injection h0 with h0 _ _
      subst h0
      refine ⟨g, 0, rfl, ?_, ?_⟩
      · have := h.2; exact this.symm
      · intro i x hi j u hu
        have hin : i < xs.length := (List.getElem?_eq_some_iff.1 hi).1
        have hfl := flat_get f sz hf xs hi hu
        rw [← ht, List.getElem?_take] at hfl
        split at hfl
        · rw [Nat.zero_add]
          simp only [World.cell?, hg]
          rw [Array.getElem?_toList] at hfl
          simpa using hfl
        · cases hfl

section
variable {ops : Array Oper} {rest : List Oper} {op : Oper} {a : Act} {Q : Exit → Act → World → Prop}
/-- append(v, x): one element, its cells in a new block. -/
theorem app_one {α : Type} {w : World} {e t : TypeId} {sz by_ : Nat} {z : Value} (f : α → List Value) (hf : ∀ x, (f x).length = sz) (h1 : ∀ x u, u ∈ f x → u.oneCell' = true)
    (ht : Try.prog.underlying t = some (.slice e)) (hinfo : (Try.prog.info? e).map (fun i => (i.zero, i.size, i.bytes)) = some (some z, sz, by_)) (hz : z.cells.size = sz) (hs0 : 0 < sz)
    (hgd : op.guard = none) (s x : Operand) (ho : op.op = .call { callee := .builtin .append, args := #[s, x], argTypes := #[t, t] })
    (v : Value) (o : Option Nat) (xs : List α) (y : α) (hs : a.eval s = v) (ad : Addr) (c : Nat) (hx : a.eval x = .slice (some ad) 1 c)
    (hc : ∀ j u, (f y)[j]? = some u → w.cell? (ad.add j) = some u) (HO : OwnR e sz f w v o xs) (hl : (xs.length + 1) * by_ ≤ 140737488355328) (hm : xs.length ≤ 140737488355328)
    (h : ∀ v1 w1 o1, OwnR e sz f w1 v1 o1 (xs ++ [y]) → Nxt w o o1 → Kp (Own o) w w1 → wpList Try.prog ops Q rest (a.put op.dst v1) w1) :
    wpList Try.prog ops Q (op :: rest) a w := by
  obtain ⟨i0, hi, hzz⟩ := Option.map_eq_some_iff.1 hinfo
  simp only [Prod.mk.injEq] at hzz
  obtain ⟨hz0, hz1, hz2⟩ := hzz
  refine wpList_append_own_at w hgd s x t ho 0 e i0 z sz by_ ht hi hz0 hz1 hz2 hz hs0 v xs.length (xs.flatMap f) hs HO.1 ad 1 c (f y) hx (by rw [hf, Nat.one_mul])
    hc (h1 y) (by simp only [maxLen]; omega) hl (Nat.zero_le _) ?_
  intro v1 w1 hown hg _ hat
  refine h v1 w1 v1.ownBlock ⟨by rw [List.length_append, List.flatMap_append]; simpa using hown, rfl⟩ ?_ ?_
  · rcases hat with hat | hat
    · exact .inl (hat.trans HO.2)
    · exact .inr ⟨_, hat, Nat.le_refl _⟩
  · exact (Kp.refl _ _).grown hg fun k hk _ => HO.2.symm.trans hk
end
/-- The cells of a new block, at an address that is counted up. -/
theorem cells_new (W : World) (n0 : Nat) (hz : n0 = W.heap.size) (cs : Array Value) (T : TypeId) (l : List Value) (h : cs.toList = l) :
    ∀ j u, l[j]? = some u → (W.alloc (.cells cs T)).cell? ((⟨n0, 0, none⟩ : Addr).add j) = some u := by
  subst hz h
  intro j u hu
  have ha : (⟨W.heap.size, 0, none⟩ : Addr).add j = ⟨W.heap.size, j, none⟩ := by unfold Addr.add; split <;> simp_all
  rw [ha, cell_new, ← hu, Array.getElem?_toList]

theorem infoSpan : (Try.prog.info? 35).map (fun i => (i.zero, i.size, i.bytes)) = some (some (.agg #[.string ⟨#[]⟩, .string ⟨#[]⟩]), 2, 32) := by kernel_rfl
theorem span_cs (s : Span) : s.cs.length = 2 := rfl
theorem span_one (s : Span) (u : Value) (h : u ∈ s.cs) : u.oneCell' = true := by
  simp only [Span.cs, List.mem_cons, List.not_mem_nil, or_false] at h
  rcases h with rfl | rfl <;> rfl

/-! ### has, at two and six kinds -/
theorem has_s {w : World} (kind : Int) (l : List Int) {n0 m c : Nat} {cs : Array Value} {T : TypeId} (hz : n0 = w.heap.size) (hm : m = l.length) (hcs : cs.toList = l.map (Value.int .i64)) (hl : l.length ≤ 1000000) :
    Calls Try.prog 22 #[.int .i64 kind, .slice (some ⟨n0, 0, none⟩) m c] (w.alloc (.cells cs T)) (RetK w (hasS kind l)) := by
  subst hm
  refine (has_c kind l _ (srcV_new _ _ _ hz _ _ _ hcs) hl).mono ?_
  rintro e w1 ⟨rfl, rfl⟩
  exact ⟨rfl, (Kp.refl _ _).alloc _⟩
theorem has2 {w : World} (kind a b : Int) {n0 c : Nat} {T : TypeId} (hz : n0 = w.heap.size) :
    Calls Try.prog 22 #[.int .i64 kind, .slice (some ⟨n0, 0, none⟩) 2 c] (w.alloc (.cells #[.int .i64 a, .int .i64 b] T)) (RetK w (hasS kind [a, b])) := has_s kind [a, b] hz rfl rfl (by simp)
theorem has6 {w : World} (kind a b d e f g : Int) {n0 c : Nat} {T : TypeId} (hz : n0 = w.heap.size) :
    Calls Try.prog 22 #[.int .i64 kind, .slice (some ⟨n0, 0, none⟩) 6 c] (w.alloc (.cells #[.int .i64 a, .int .i64 b, .int .i64 d, .int .i64 e, .int .i64 f, .int .i64 g] T)) (RetK w (hasS kind [a, b, d, e, f, g])) := has_s kind [a, b, d, e, f, g] hz rfl rfl (by simp)

/-! ### atlas.May -/
def shardOk (nodes epoch : Int) (s : Shard) : Bool := decide (1 ≤ s.node) && decide (s.node ≤ nodes) && decide (1 ≤ s.epoch) && decide (s.epoch ≤ epoch)
def atlasMayS (a : Atlas) (nodes : Int) : Bool :=
  decide (1 ≤ nodes) && decide (nodes ≤ 5) && decide (1 ≤ a.l.length) && decide (a.l.length ≤ 12) && decide (1 ≤ a.epoch) && a.l.all (shardOk nodes a.epoch) && wholeS (a.l.map Shard.span)

def AtlasRel (w : World) (ep nodes : Int) (l : List Shard) (k : Nat) (v : Value) (wr : World) : Prop :=
  ∃ o, OwnR 35 2 Span.cs wr v o ((l.take k).map Shard.span) ∧ (∀ x, o = some x → w.heap.size < x) ∧ Kp No w wr ∧ wr.cell? ⟨w.heap.size, 0, none⟩ = some (.int .i64 ep) ∧ w.heap.size < wr.heap.size ∧ l.all (shardOk nodes ep) = (l.drop k).all (shardOk nodes ep)
set_option maxHeartbeats 1000000 in
theorem atlasMay_c {ok : Nat → Prop} {A : Option Addr} {c : Nat} (ep nodes : Int) (l : List Shard) (w : World) (hA : SrcF 4 Shard.cs ok w A l.length l) (ha : Apt No w ok) :
    Calls Try.prog 44 #[.agg #[.int .i64 ep, .slice A l.length c], .int .i64 nodes] w (RetK w (atlasMayS ⟨ep, l⟩ nodes)) := by
  have HA := Lib.hid hA
  have HP := Lib.hid ha
  clear hA ha
  by_cases hn : 1 ≤ nodes ∧ nodes ≤ 5 ∧ 1 ≤ l.length ∧ l.length ≤ 12 ∧ 1 ≤ ep
  · obtain ⟨n1, n2, n3, n4, n5⟩ := hn
    go_enter Try.func44, Try.ntmps44
    go_wp2_with fail
    go_loopw [5, 34] (fun v i wr => ∃ (k : Nat), k ≤ l.length ∧ i = .int .i64 k ∧ AtlasRel w ep nodes l k v wr) (fun _ i _ => l.length - (intOf i).toNat)
    case atStart => exact ⟨0, Nat.zero_le _, rfl, none, by simpa using OwnR.nil _ _ _ _, by simp, by repeat (first | exact Kp.refl _ _ | apply Kp.alloc), by go_simp, by simp, rfl⟩
    case round =>
      obtain ⟨k, hk, rfl, o, hown, ho, hkp, cE, hsz, hall⟩ := hrel
      obtain ⟨A0, m0, c0, rfl⟩ := hown.form
      have HO := Lib.hid hown
      have HOL := Lib.hid ho
      have HK := Lib.hid hkp
      have HALL := Lib.hid hall
      by_cases hlt : k < l.length
      · have hx1 : l[k]? = some l[k] := List.getElem?_eq_getElem hlt
        have hd : l.drop k = l[k] :: l.drop (k + 1) := List.drop_eq_getElem_cons hlt
        generalize l[k] = x at hx1 hd
        have HX := Lib.hid hx1
        have HD := Lib.hid hd
        obtain ⟨g, off, rfl, hg, hcell⟩ := HA.out.2.2 (by omega)
        have hgl := (HP.out g hg).1
        have hrd : ∀ j u, x.cs[j]? = some u → wr.cell? ⟨g, off + (k * 4 + j), none⟩ = some u := fun j u hu => (hkp.cell g _ hgl (not_No _)).trans (hcell k x hx1 j u hu)
        obtain ⟨⟨xf, xt⟩, xn, xe⟩ := x
        have q0 : wr.cell? ⟨g, off + k * 4, none⟩ = some (.string xf) := hrd 0 _ rfl
        have q1 : wr.cell? ⟨g, off + (k * 4 + 1), none⟩ = some (.string xt) := hrd 1 _ rfl
        have q2 : wr.cell? ⟨g, off + (k * 4 + 2), none⟩ = some (.int .i64 xn) := hrd 2 _ rfl
        have q3 : wr.cell? ⟨g, off + (k * 4 + 3), none⟩ = some (.int .i64 xe) := hrd 3 _ rfl
        have p1 : wr.cell? ⟨g, off + k * 4 + 1, none⟩ = some (.string xt) := by rw [Nat.add_assoc]; exact q1
        have p2 : wr.cell? ⟨g, off + k * 4 + 2, none⟩ = some (.int .i64 xn) := by rw [Nat.add_assoc]; exact q2
        have p3 : wr.cell? ⟨g, off + k * 4 + 3, none⟩ = some (.int .i64 xe) := by rw [Nat.add_assoc]; exact q3
        have hkl : (l.take k).length = k := by rw [List.length_take]; omega
        have HKL := Lib.hid hkl
        clear hcell hg hx1 hd hown ho hkp hall hrd hkl
        by_cases hs : 1 ≤ xn ∧ xn ≤ nodes ∧ 1 ≤ xe ∧ xe ≤ ep
        · obtain ⟨s1, s2, s3, s4⟩ := hs
          go_wp2_with (at_builtin; refine app_one (e := 35) (t := 115) (sz := 2) (by_ := 32) Span.cs span_cs span_one Try.underlying115 infoSpan rfl (by decide) rfl _ _ rfl _ o ((l.take k).map Shard.span) ⟨xf, xt⟩ rfl ⟨wr.heap.size + 1, 0, none⟩ 1 rfl ?hc ?HO ?hl ?hm ?_)
          case hc => exact cells_new _ _ (by simp) _ _ _ rfl
          case HO => exact HO.out.kpNo (by repeat (first | exact Kp.refl _ _ | apply Kp.alloc))
          case hl => rw [List.length_map, HKL.out]; omega
          case hm => rw [List.length_map, HKL.out]; omega
          intro v1 w1 o1 hown hnx hkp
          obtain ⟨A1, m1, c1, rfl⟩ := hown.form
          have HO1 := Lib.hid hown
          have HN1 := Lib.hid hnx
          have HK1 := Lib.hid hkp
          clear hown hnx hkp
          go_wp2_with fail
          go_roundw
          case rel =>
            have hob : ¬ Own o w.heap.size := fun e => absurd (HOL.out _ e) (Nat.lt_irrefl _)
            refine ⟨k + 1, by omega, by go_num, o1, ?_, ?_, ?_, ?_, ?_, ?_⟩
            · rw [List.take_add_one, HX.out]
              simpa using HO1.out
            · intro y hy
              rcases HN1.out with rfl | ⟨j, rfl, hj⟩
              · exact HOL.out y hy
              · injection hy with hy; simp at hj; omega
            · refine (HK.out.thenNo (by repeat (first | exact Kp.refl _ _ | apply Kp.alloc))).trans HK1.out fun i hi e => ?_
              have := HOL.out i e; omega
            · rw [HK1.out.cell _ _ (by simp; omega) hob]; go_simp
            · have := HK1.out.size; simp at this; omega
            · rw [HALL.out, HD.out]; simp [shardOk, *]
          case measure => simp [intOf]; omega
        · have hr : atlasMayS ⟨ep, l⟩ nodes = false := by
            have h2 : shardOk nodes ep ⟨⟨xf, xt⟩, xn, xe⟩ = false := by simp only [shardOk, Bool.and_eq_false_iff, decide_eq_false_iff_not]; omega
            have h3 : l.all (shardOk nodes ep) = false := by rw [HALL.out, HD.out, List.all_cons, h2]; rfl
            simp [atlasMayS, h3]
          have HR := Lib.hid hr
          clear hr
          go_wp2_with fail
          all_goals go_ret
          all_goals (refine ⟨?_, HK.out.thenNo (by repeat (first | exact Kp.refl _ _ | apply Kp.alloc))⟩; rw [HR.out]; rfl)
      · obtain rfl : k = l.length := by omega
        rw [List.take_length] at hown
        have hLL : (l.map Shard.span).length = l.length := List.length_map _
        generalize hL : l.map Shard.span = L at hown hLL
        have HL := Lib.hid hL
        have hL6 : L.length ≤ 1000000 := by omega
        have hsrc := hown.src span_cs
        obtain ⟨hs1, rfl⟩ := hsrc
        have HS := Lib.hid hs1
        have HO1 := Lib.hid hown
        clear hown hs1 ho hkp hall hL hLL HO
        go_wp2_with fail
        refine (whole_c L wr HS.out ?_ hL6).mono ?_
        · intro b hb
          exact ⟨HO1.out.lt hb, not_No _⟩
        rintro e w1 ⟨rfl, hk1⟩
        go_wp2_with fail
        go_ret
        refine ⟨ret_bool ?_, HK.out.thenNo hk1⟩
        have := HALL.out
        rw [List.drop_length] at this
        simp [atlasMayS, this, HL.out, *]
  · have hr : atlasMayS ⟨ep, l⟩ nodes = false := by
      simp only [atlasMayS, Bool.and_eq_false_iff, decide_eq_false_iff_not]; omega
    have HR := Lib.hid hr
    clear hr
    go_enter Try.func44, Try.ntmps44
    go_wp2_with fail
    all_goals go_ret
    all_goals (refine ⟨?_, by repeat (first | exact Kp.refl _ _ | apply Kp.alloc)⟩; rw [HR.out]; rfl)

end Go.Proofs.Ytakhkjidcnahjaa
