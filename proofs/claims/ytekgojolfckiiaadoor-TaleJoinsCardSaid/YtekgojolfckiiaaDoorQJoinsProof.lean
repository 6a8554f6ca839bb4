/- 'gazetteerlaw24.TaleJoins' returns true for every input, where the library's tables lie as the program's text lays them: the row and the tied card. -/
import Derived.Test.YtekgojolfckiiaaDoorCards
import Derived.Test.YtekgojolfckiiaaDoorTie
import Derived.Test.YtekgojolfckiiaaDoorQTaleOpen
import Derived.Test.YtekgojolfckiiaaDoorQTale11
import Derived.SevenTiedAt
import Derived.ChangeOld
set_option linter.unusedVariables false
namespace Go.Proofs.YtekgojolfckiiaaDoor.taleJoins
open Go.ChangeShapes Go.WideShapes Go.ChangeAt Go.RowKit

theorem joins_c (as_ bs : List Tl.Ev) (A B : Option Addr) (ca cb : Nat) (cut : Int) (hc0 : 0 ≤ cut) (hc1 : cut ≤ 65535) (w : World) (E : Env w) (ha : EvsIn w A ca as_) (hb : EvsIn w B cb bs) :
    Calls Tryd.prog 5 #[.slice A as_.length ca, .slice B bs.length cb, .int .u16 cut] w fun e w' => e = .returned (.bool true) ∧ Kp No w w' := by
  cases h : (smallB as_ 60 && smallB bs 60) with
  | false => exact joins_small as_ bs A B ca cb cut w E ha hb h
  | true =>
    rw [Bool.and_eq_true] at h
    exact joins_main as_ bs A B ca cb cut hc0 hc1 w E ha hb h.1 h.2

set_option maxRecDepth 100000 in
theorem lifted (os : Os) (started : os.Started) (H : Type) (enc : TypeId × Value → H) :
    ReturnsInHanded {} Tryd.checked os 5 .any (fun w args => (Rows.taleJoinsSpec.pre enc Tryd.prog Tryd.f5 [] false w args ∧ laidMetH Tryd.prog laid7 w) ∧ sizedMet enc Tryd.prog Tryd.f5 (OpenSpec.ofChange Rows.taleJoinsSpec) false w args)
      (Rows.taleJoinsSpec.post enc Tryd.prog Tryd.f5 false true false false) := by
  refine wrap (C := Tryd.checked) (X := fun w _ => laidMetH Tryd.prog laid7 w) (fun _ _ _ hh h => h.of_heap hh) own started (by kernel_rfl) Tryd.func5
    (ChangeSpec.witness_shaped (enc := enc) (C := Tryd.checked) (os := os) (X := fun w _ => laidMetH Tryd.prog laid7 w) false (World.laidAll Tryd.prog os laid7) #[.slice none 0 0, .slice none 0 0, .int .u16 0] 8 (World.laidAll_os _ _ _)
      (World.shaped_of_ZipB (by kernel_rfl) (by kernel_rfl)) (by kernel_rfl) (by kernel_rfl) (by kernel_rfl)
      (by rw [MakeChecks.laidMetH_plain _ _ _ (by kernel_rfl)]; exact laidMet_laidAll _ (by kernel_rfl) (by kernel_rfl))) ?_
  intro W base args ds gs before hval0 hW hwt hL hsh
  have hval : ∀ (j : Nat) t v, Tryd.f5.params[j]? = some t → args[j]? = some v → Value.okWide Tryd.prog W .any base t v := hval0
  have hW' := hW
  obtain ⟨p, q, hA0, hV, rfl, hfz, hnd⟩ := hW
  have hA : DataW.TrodAll enc Tryd.prog W 0 (fun _ => true) true Tryd.f5.params.toList args.toList ds p := hA0
  rw [Tryd.params5] at hA hval
  rw [Tryd.params5] at hwt
  obtain ⟨v0, vs0, d0, ds0, p0, q0, hargs, rfl, rfl, h0, r0⟩ := trodAll_cons hA
  obtain ⟨v1, vs1, d1, ds1, p1, q1, rfl, rfl, rfl, h1, r1⟩ := trodAll_cons r0
  obtain ⟨v2, vs2, d2, ds2, p2, q2, rfl, rfl, rfl, h2, r2⟩ := trodAll_cons r1
  obtain ⟨rfl, rfl, rfl⟩ := trodAll_nil r2
  obtain rfl : args = #[v0, v1, v2] := by cases args; simp_all
  obtain ⟨rfl, rfl⟩ := trodVars_none hV
  obtain ⟨a0, len0, cap0, rfl⟩ := okWide_slice Tryd.underlying22 (hval 0 22 v0 rfl rfl)
  obtain ⟨a1, len1, cap1, rfl⟩ := okWide_slice Tryd.underlying22 (hval 1 22 v1 rfl rfl)
  obtain ⟨cut, rfl, rfl, rfl, wc⟩ := open_int Tryd.underlying37 (hval 2 37 v2 rfl rfl) h2
  have k0 := h0
  have k1 := h1
  have lt0 : ∀ x ∈ p0, x.block < W.heap.size := by obtain ⟨m, hm⟩ := k0; exact DataW.trod_lt m _ _ _ hm
  have lt1 : ∀ x ∈ p1, x.block < W.heap.size := by obtain ⟨m, hm⟩ := k1; exact DataW.trod_lt m _ _ _ hm
  have hall : ∀ (j : Nat) d, [d0, d1, .lit (.int .u16 cut)][j]? = some d → ∀ t, [22, 22, 37][j]? = some t → ∀ n ∈ d.weights Tryd.prog t, n ≤ reachBytes := fun j d hd t ht n hn => by
    have hm := DataW.weights_mem_each (ts := [22, 22, 37] ++ Rows.taleJoinsSpec.plain.varTypes Tryd.prog) (ds := [d0, d1, .lit (.int .u16 cut)] ++ []) (j := j) (t := t) (d := d)
      (by rw [List.getElem?_append_left (List.getElem?_eq_some_iff.1 ht).1]; exact ht) (by rw [List.append_nil]; exact hd) n hn
    have := List.all_eq_true.1 hwt n hm
    simpa using this
  obtain ⟨f0, hf0⟩ := h0
  obtain ⟨f1, hf1⟩ := h1
  obtain ⟨es0, rfl, he0⟩ := open_evs hf0 (hall 0 d0 rfl 22 rfl)
  obtain ⟨es1, rfl, he1⟩ := open_evs hf1 (hall 1 d1 rfl 22 rfl)
  have hb := bounds_u16 wc
  clear hA0 hval0
  simp only [List.append_nil] at hW'
  refine (joins_c es0 es1 a0 a1 cap0 cap1 cut hb.1 hb.2 W (env_of hL hsh) he0 he1).mono fun e W' ⟨he, hk⟩ => ?_
  subst he
  exact ⟨_, rfl, _, _, _, [], _, [], hW', trodAll_mk1 (shut_bool Tryd.underlying4 _), (trodAll_cons_mk (Below.trod laidOut (by kernel_rfl) (of_decide_eq_true (by kernel_rfl)) k0 hk.below lt0) (trodAll_cons_mk (Below.trod laidOut (by kernel_rfl) (of_decide_eq_true (by kernel_rfl)) k1 hk.below lt1) (trodAll_cons_mk (shut_int Tryd.underlying37 wc) trodAll_mk0))), rfl, hk.below.frame _, fun h => by cases h⟩
theorem said : Rows.TaleJoinsSaid :=
  OpenClaim.holds_of_wide 5 Tryd.f5 rfl rfl rfl rfl rfl rfl rfl ⟨rfl, rfl, rfl, rfl, rfl⟩ rfl rfl rfl rfl rfl (by kernel_rfl) Tryd.func5 (by kernel_rfl)
    (of_decide_eq_true (by kernel_rfl)) (by unfold Func.isWrapper; first | (rw [if_pos (by decide +kernel)]; kernel_rfl) | (rw [if_neg (by decide +kernel)]; exact ⟨rfl, rfl⟩))
    (fun os started H enc _ => lifted os started H enc)
theorem card : Rows.TaleJoinsCardSaid :=
  Claim7.holds_tied_plain_at .later [] _ _ _ _ said (fun _ h => by cases h) (by kernel_rfl) (fun _ h => by cases h) taleJoins_row_tie rfl ⟨rfl, rfl⟩ (by kernel_rfl) rfl
    (fun f fn hf hfn => by
      obtain rfl : f = 5 := Option.some.inj ((show Tryd.prog.funcNamed "gazetteer/gazetteerlaw24.TaleJoins" = some 5 by kernel_rfl).symm.trans hf) |>.symm
      obtain rfl : fn = Tryd.f5 := (Option.some.inj (Tryd.func5.symm.trans hfn)).symm
      exact ⟨by kernel_rfl, fun j t ht => by
        rw [Tryd.params5] at ht
        have hm : t ∈ [22, 22, 37] := by simpa using Array.mem_of_getElem? ht
        have hall : ([22, 22, 37].all fun u => !Tryd.prog.wantsStandIn u) = true := by kernel_rfl
        exact (show Tryd.prog.wantsStandIn t = false by simpa using List.all_eq_true.1 hall t hm)⟩)
    (by kernel_rfl)
#print axioms card
end Go.Proofs.YtekgojolfckiiaaDoor.taleJoins
