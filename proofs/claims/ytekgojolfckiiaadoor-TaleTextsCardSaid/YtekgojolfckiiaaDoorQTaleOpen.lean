/- Events that came in: what their reading says of memory. -/
import Derived.Test.YtekgojolfckiiaaDoorQTaleLaid
import Derived.Test.YtekgojolfckiiaaDoorQTale10
import Derived.Deep.Slices
set_option linter.unusedVariables false
set_option linter.unusedSimpArgs false
namespace Go.Proofs.YtekgojolfckiiaaDoor
open Go.ChangeShapes Go.WideShapes Go.ChangeAt Go.RowKit

instance : Inhabited Tl.Ev := ⟨⟨0, 0, 0, [], [], []⟩⟩
theorem cells27 : Tryd.prog.cellsOf 27 = 6 := by kernel_rfl
theorem cells3 : Tryd.prog.cellsOf 3 = 1 := by kernel_rfl
theorem laidOut : laidOutB Tryd.prog = true := by kernel_rfl
variable {H : Type} {enc : TypeId × Value → H} {W : World} {spare : Nat → Bool} {held : Bool}
def evD (e : Tl.Ev) : DataW H := .agg [.lit (.int .i64 e.doo), .lit (.int .i64 e.who), .lit (.int .i64 e.n), .lit (.string e.text), .lit (.string e.val), .lit (.string e.to_)]
theorem weights_ev (e : Tl.Ev) : (evD (H := H) e).weights Tryd.prog 27 = [e.text.length, e.val.length, e.to_.length] := by
  simp [evD, DataW.weights, Tryd.underlying27, DataW.weightsEach]
theorem weightsAll_mem {P : Program} {e : TypeId} : ∀ {l : List (DataW H)} {d : DataW H}, d ∈ l → ∀ n ∈ d.weights P e, n ∈ DataW.weightsAll P e l
  | [], d, h, n, hn => by cases h
  | x :: l, d, h, n, hn => by
    rw [DataW.weightsAll]
    rcases List.mem_cons.1 h with rfl | h
    · exact List.mem_append_left _ hn
    · exact List.mem_append_right _ (weightsAll_mem h n hn)
set_option maxRecDepth 100000 in
theorem open_ev {fuel : Nat} {cs : List Value} {x : DataW H × List MemPlace} (h : DataW.trod enc Tryd.prog W 0 spare held fuel 27 cs = some x) : ∃ e : Tl.Ev, cs = evL_ e ∧ x.1 = evD e ∧ i64R e.who ∧ i64R e.n := by
  obtain ⟨xs, k, hk, hxy, hlen, hxl, hf⟩ := DataW.trod_struct Tryd.underlying27 h
  rw [cells27] at hlen
  match cs, hlen, xs, hxl with
  | [v0, v1, v2, v3, v4, v5], _, [y0, y1, y2, y3, y4, y5], _ =>
    have g0 := hf 0 _ rfl
    have g1 := hf 1 _ rfl
    have g2 := hf 2 _ rfl
    have g3 := hf 3 _ rfl
    have g4 := hf 4 _ rfl
    have g5 := hf 5 _ rfl
    simp [cells3, cells9] at g0 g1 g2 g3 g4 g5
    obtain ⟨n0, e0, d0, w0⟩ := DataW.trod_int Tryd.underlying3 g0
    obtain ⟨n1, e1, d1, w1⟩ := DataW.trod_int Tryd.underlying3 g1
    obtain ⟨n2, e2, d2, w2⟩ := DataW.trod_int Tryd.underlying3 g2
    obtain ⟨s3, e3, d3, w3⟩ := DataW.trod_string Tryd.underlying9 g3
    obtain ⟨s4, e4, d4, w4⟩ := DataW.trod_string Tryd.underlying9 g4
    obtain ⟨s5, e5, d5, w5⟩ := DataW.trod_string Tryd.underlying9 g5
    simp only [List.cons.injEq, and_true] at e0 e1 e2 e3 e4 e5
    subst e0 e1 e2 e3 e4 e5
    refine ⟨⟨n0, n1, n2, s3.data.toList, s4.data.toList, s5.data.toList⟩, ?_, ?_, bounds_i64 w1, bounds_i64 w2⟩
    · simp [evL_, evA, evC, bT_data]
    · subst d0 d1 d2 d3 d4 d5
      rw [hxy]
      rfl
theorem open_evs {fuel len cap : Nat} {A : Option Addr} {x : DataW H × List MemPlace} (h : DataW.trod enc Tryd.prog W 0 spare held fuel 22 [.slice A len cap] = some x) (hw : ∀ n ∈ x.1.weights Tryd.prog 22, n ≤ reachBytes) : ∃ es : List Tl.Ev, len = es.length ∧ EvsIn W A cap es := by
  rcases Deep.open_slice Tryd.underlying22 h with ⟨hcs, _⟩ | ⟨a, l, c, m, n, D, Pl, hcs, hb, hl, hm, hmm, hx, hel⟩
  · simp at hcs
    obtain ⟨rfl, rfl, rfl⟩ := hcs
    exact ⟨[], rfl, ⟨rfl, trivial, fun e => absurd e (by simp)⟩, fun _ => ⟨rfl, rfl⟩, by simp, fun e he => absurd he (by simp)⟩
  · simp at hcs
    obtain ⟨rfl, rfl, rfl⟩ := hcs
    have hlm : len ≤ m := by rw [hmm]; split <;> omega
    obtain ⟨F, hF⟩ := Deep.choose_lt (α := Tl.Ev) (n := len) (p := fun i e => (∀ j u, (evL_ e)[j]? = some u → W.cell? (a.add (i * 6 + j)) = some u) ∧ D i = evD e ∧ i64R e.who ∧ i64R e.n) (fun i hi => by
      obtain ⟨cs', h1, h2⟩ := hel i (by omega)
      obtain ⟨e, rfl, h3⟩ := open_ev h2
      rw [cells27] at h1
      obtain ⟨_, hlen, hcell⟩ := World.cells?_some h1
      refine ⟨e, fun j u hu => ?_, h3⟩
      have hj : j < 6 := by rw [← evL_len e]; exact (List.getElem?_eq_some_iff.1 hu).1
      have := hcell j hj
      rw [Deep.add_add] at this
      rw [this, hu])
    subst hx
    have hwe : ∀ n, n ∈ DataW.weightsAll Tryd.prog 27 ((List.range len).map D) → n ≤ reachBytes := fun n hn => hw n (by
      simp only [DataW.weights, Tryd.underlying22]
      exact List.mem_cons_of_mem _ (List.mem_append_left _ hn))
    have hmx : len ≤ 140737488355328 := by
      have := hw ((((List.range len).map D).length + ((List.range (m - len)).map fun j => D (len + j)).length) * Tryd.prog.bytesOf 27) (by
        simp only [DataW.weights, Tryd.underlying22]
        exact List.mem_cons_self)
      rw [show Tryd.prog.bytesOf 27 = 72 from by kernel_rfl] at this
      simp [reachBytes] at this
      omega
    refine ⟨(List.range len).map F, by simp, ?_, fun e => (by cases e), by simpa using hmx, ?_⟩
    · have hsp : 0 < len → a.spot = none := fun hp => by
        have h0 := (hF 0 hp).1 0 _ rfl
        obtain ⟨g, off, sp⟩ := a
        cases sp with
        | none => rfl
        | some s =>
          rw [show (⟨g, off, some s⟩ : Addr).add (0 * 6 + 0) = ⟨g, off, some s⟩ from by simp [Addr.add]] at h0
          unfold World.cell? at h0
          simp at h0
          split at h0 <;> simp at h0
      refine ⟨rfl, trivial, fun hp => ?_⟩
      · have hp' : 0 < len := by simpa using hp
        have hs := hsp hp'
        obtain ⟨g, off, sp⟩ := a
        simp only at hs
        subst hs
        refine ⟨g, off, rfl, ?_, fun i x hi j u hu => ?_⟩
        · have h0 := (hF 0 hp').1 0 _ rfl
          rw [add_plain] at h0
          exact World.block_lt_of_cell? W _ h0
        · rw [List.getElem?_map] at hi
          obtain ⟨i', hi', rfl⟩ := Option.map_eq_some_iff.1 hi
          obtain ⟨hr1, hr2⟩ := List.getElem?_eq_some_iff.1 hi'
          simp at hr1 hr2
          subst hr2
          have := (hF i hr1).1 j u hu
          rwa [add_plain] at this
    · intro e he
      obtain ⟨i, hi, rfl⟩ := List.mem_map.1 he
      have hi' : i < len := by simpa using hi
      obtain ⟨_, hd, hr⟩ := hF i hi'
      refine ⟨?_, hr⟩
      have hm' : ∀ n, n ∈ [(F i).text.length, (F i).val.length, (F i).to_.length] → n ≤ 140737488355328 := fun n hn => by
        rw [← weights_ev (H := H)] at hn
        have := hwe n (weightsAll_mem (List.mem_map.2 ⟨i, hi, hd⟩) n hn)
        simp [reachBytes] at this
        omega
      exact ⟨hm' _ (by simp), hm' _ (by simp), hm' _ (by simp)⟩

end Go.Proofs.YtekgojolfckiiaaDoor
