/- Steps of a region that draws its order: a text read, a record appended. -/
import Derived.Test.YtakhkjidcnahjaaQRead2
import Derived.Deep.RegionLaw
set_option linter.unusedVariables false
set_option linter.unusedSimpArgs false
namespace Go.Proofs.Ytakhkjidcnahjaa
open Go.RowKit

section
variable {ops : Array Oper} {o : Oper} {a : Act} {Q : Exit → Act → World → Prop} {K : Act → World → Prop} {E : Prop}
theorem step_text {ok : Nat → Prop} {w : World} {b : Nat} {e : Int} {bs : List UInt8} {t : ByteArray} {e1 : Int} {bs1 : List UInt8} (hg : o.guard = none) (x : Operand) (ts : Array TypeId)
    (hop : o.op = .call { callee := .value (.func 64), args := #[x], argTypes := ts }) (hx : a.eval x = .pointer (some ⟨b, 0, none⟩)) (h : Rdr ok w b e bs) (hS : textS e bs = (t, e1, bs1))
    (hK : ∀ w', Rdr ok w' b e1 bs1 → Kp (One b) w w' → K (a.put o.dst (.string t)) w') :
    if Region.wanted o (yielded ops a.tmps) = true then Oper.wp Try.prog o a w K Q else E := by
  have hw : Region.wanted o (yielded ops a.tmps) = true := by simp [Region.wanted, hg]
  rw [if_pos hw]
  unfold Oper.wp
  have hr : (execOp a.eval o).run Try.prog w = .ok (.enter 64 #[.pointer (some ⟨b, 0, none⟩)]) w := by
    cases x with
    | tmp j =>
      have hx' : a.tmps.getD j undef = .pointer (some ⟨b, 0, none⟩) := hx
      have hx2 : a.tmps[j]?.getD undef = .pointer (some ⟨b, 0, none⟩) := by simpa using hx'
      clear hx hx'
      simp only [execOp, hop]
      go_simp
    | const v =>
      have hx' : v = .pointer (some ⟨b, 0, none⟩) := hx
      subst hx'
      simp only [execOp, hop]
      go_simp
    | global j =>
      have hx' : Value.pointer (some ⟨j, 0, none⟩) = .pointer (some ⟨b, 0, none⟩) := hx
      injection hx' with hx'; injection hx' with hx'; injection hx' with hx'; subst hx'
      simp only [execOp, hop]
      go_simp
    | func j => cases hx
  rw [hr, Oper.upon_enter]
  refine (text_n h hS).mono ?_
  rintro en w1 ⟨rfl, hr, hk⟩
  exact hK w1 hr hk

/-- append(v, x) of one element, as one step. -/
theorem step_app {α : Type} {w : World} {e t : TypeId} {sz by_ : Nat} {z : Value} (f : α → List Value) (hf : ∀ x, (f x).length = sz) (h1 : ∀ x u, u ∈ f x → u.oneCell' = true)
    (ht : Try.prog.underlying t = some (.slice e)) (hinfo : (Try.prog.info? e).map (fun i => (i.zero, i.size, i.bytes)) = some (some z, sz, by_)) (hz : z.cells.size = sz) (hs0 : 0 < sz)
    (hg : o.guard = none) (s x : Operand) (ho : o.op = .call { callee := .builtin .append, args := #[s, x], argTypes := #[t, t] })
    (v : Value) (o1 : Option Nat) (xs : List α) (y : α) (hs : a.eval s = v) (ad : Addr) (c : Nat) (hx : a.eval x = .slice (some ad) 1 c)
    (hc : ∀ j u, (f y)[j]? = some u → w.cell? (ad.add j) = some u) (HO : OwnR e sz f w v o1 xs) (hl : (xs.length + 1) * by_ ≤ 140737488355328) (hm : xs.length ≤ 140737488355328)
    (h : ∀ v1 w1 o2, OwnR e sz f w1 v1 o2 (xs ++ [y]) → Nxt w o1 o2 → Kp (Own o1) w w1 → K (a.put o.dst v1) w1) :
    if Region.wanted o (yielded ops a.tmps) = true then Oper.wp Try.prog o a w K Q else E := by
  have hw : Region.wanted o (yielded ops a.tmps) = true := by simp [Region.wanted, hg]
  rw [if_pos hw]
  obtain ⟨i0, hi, hzz⟩ := Option.map_eq_some_iff.1 hinfo
  simp only [Prod.mk.injEq] at hzz
  obtain ⟨hz0, hz1, hz2⟩ := hzz
  obtain ⟨v1, w1, hr, hown, hgr, _, hat⟩ := run_append_own_at (P := Try.prog) w 0 t o.type e i0 z sz by_ ht hi hz0 hz1 hz2 hz hs0 v xs.length (xs.flatMap f) HO.1 ad 1 c (f y) (by rw [hf, Nat.one_mul])
    hc (h1 y) (by simp only [maxLen]; omega) hl (Nat.zero_le _)
  unfold Oper.wp execOp
  simp only [ho, resolve, invoke, builtin, Sem.run_bind, Sem.run_pure, Result.andThen_ok, List.map_toArray, List.map_cons, List.map_nil, hs, hx, hr]
  refine h v1 w1 v1.ownBlock ⟨by rw [List.length_append, List.flatMap_append]; simpa using hown, rfl⟩ ?_ ?_
  · rcases hat with hat | hat
    · exact .inl (hat.trans HO.2)
    · exact .inr ⟨_, hat, Nat.le_refl _⟩
  · exact (Kp.refl _ _).grown hgr fun k hk _ => HO.2.symm.trans hk
end

theorem infoRec3 : (Try.prog.info? 84).map (fun i => (i.zero, i.size, i.bytes)) = some (some (.agg #[.string ⟨#[]⟩, .string ⟨#[]⟩]), 2, 32) := by kernel_rfl
theorem rec_cs (s : Rec) : s.cs.length = 2 := rfl
theorem rec_one (s : Rec) (u : Value) (h : u ∈ s.cs) : u.oneCell' = true := by
  simp only [Rec.cs, List.mem_cons, List.not_mem_nil, or_false] at h
  rcases h with rfl | rfl <;> rfl

end Go.Proofs.Ytakhkjidcnahjaa
