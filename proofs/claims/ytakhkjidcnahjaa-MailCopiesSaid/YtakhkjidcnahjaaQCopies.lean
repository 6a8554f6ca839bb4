/- MailCopies: the walk. -/
import Derived.Test.YtakhkjidcnahjaaQCop
import Derived.IntWalk
set_option linter.unusedVariables false
set_option linter.unusedSimpArgs false
namespace Go.Proofs.Ytakhkjidcnahjaa
open Go.RowKit

/-- The first loop's relation: j notes have been made. -/
def Cop1 (w : World) (m b C : Nat) (v : Value) (j : Nat) (wr : World) : Prop :=
  ∃ o1, Mal wr m b none [] ∧ OwnR 49 27 LNote.cs wr v o1 ((List.range j).map beat) ∧ wr.heap[C]? = some (.cells (cntC (List.range j)) 59) ∧ Kp No w wr ∧ (∀ y, o1 = some y → C < y) ∧ m < C ∧ b < C ∧ w.heap.size ≤ m ∧ w.heap.size ≤ b
def CopR (w : World) (m b C : Nat) (v : Value) (ms os cs : List Nat) (wr : World) : Prop := ∃ o o2, StX w m b C o o2 v ms os cs wr
theorem beat_v (j : Nat) : (beat j).v = .agg #[.int .i64 5, .int .i64 1, .int .i64 0, .int .i64 0, .int .i64 j, .int .i64 0, .int .i64 0, .int .i64 0, .string ⟨#[]⟩, .string ⟨#[]⟩, .string ⟨#[]⟩, .string ⟨#[]⟩, .int .i64 0, .int .i64 0, .int .i64 0, .int .i64 0, .bool false, .string ⟨#[]⟩, .slice none 0 0, .string ⟨#[]⟩, .bool false, .string ⟨#[]⟩, .string ⟨#[]⟩, .slice none 0 0, .slice none 0 0, .int .i64 0, .slice none 0 0] := rfl

theorem infoNote3 : (Try.prog.info? 49).map (fun i => (i.zero, i.size, i.bytes)) = some (some (noteV Note.zero none none none none 0 0 0 0), 27, 344) := by kernel_rfl
section
variable {ops : Array Oper} {o : Oper} {a : Act} {Q : Exit → Act → World → Prop} {K : Act → World → Prop} {E : Prop}
/-- append(v, ys...), as one step. -/
theorem step_appn {α : Type} {w : World} {e t : TypeId} {sz by_ : Nat} {z : Value} (f : α → List Value) (hf : ∀ x, (f x).length = sz) (h1 : ∀ x u, u ∈ f x → u.oneCell' = true)
    (ht : Try.prog.underlying t = some (.slice e)) (hinfo : (Try.prog.info? e).map (fun i => (i.zero, i.size, i.bytes)) = some (some z, sz, by_)) (hz : z.cells.size = sz) (hs0 : 0 < sz)
    (hg : o.guard = none) (s x : Operand) (ho : o.op = .call { callee := .builtin .append, args := #[s, x], argTypes := #[t, t] })
    (v : Value) (o1 : Option Nat) (xs ys : List α) (hs : a.eval s = v) (ad : Addr) (m c : Nat) (hx : a.eval x = .slice (some ad) m c) (hm : m = ys.length)
    (hc : ∀ j u, (ys.flatMap f)[j]? = some u → w.cell? (ad.add j) = some u) (HO : OwnR e sz f w v o1 xs) (hl : (xs.length + ys.length) * by_ ≤ 140737488355328) (hm2 : xs.length + ys.length ≤ 140737488355328)
    (h : ∀ v1 w1 o2, OwnR e sz f w1 v1 o2 (xs ++ ys) → Nxt w o1 o2 → Kp (Own o1) w w1 → K (a.put o.dst v1) w1) :
    if Region.wanted o (yielded ops a.tmps) = true then Oper.wp Try.prog o a w K Q else E := by
  subst hm
  have hw : Region.wanted o (yielded ops a.tmps) = true := by simp [Region.wanted, hg]
  rw [if_pos hw]
  obtain ⟨i0, hi, hzz⟩ := Option.map_eq_some_iff.1 hinfo
  simp only [Prod.mk.injEq] at hzz
  obtain ⟨hz0, hz1, hz2⟩ := hzz
  obtain ⟨v1, w1, hr, hown, hgr, _, hat⟩ := run_append_own_at (P := Try.prog) w 0 t o.type e i0 z sz by_ ht hi hz0 hz1 hz2 hz hs0 v xs.length (xs.flatMap f) HO.1 ad ys.length c (ys.flatMap f) (flat_length f sz hf ys)
    hc (by intro u hu; obtain ⟨y, _, hy⟩ := List.mem_flatMap.1 hu; exact h1 y u hy) (by simp only [maxLen]; omega) hl (Nat.zero_le _)
  unfold Oper.wp execOp
  simp only [ho, resolve, invoke, builtin, Sem.run_bind, Sem.run_pure, Result.andThen_ok, List.map_toArray, List.map_cons, List.map_nil, hs, hx, hr]
  refine h v1 w1 v1.ownBlock ⟨by rw [List.length_append, List.flatMap_append]; exact hown, rfl⟩ ?_ ?_
  · rcases hat with hat | hat
    · exact .inl (hat.trans HO.2)
    · exact .inr ⟨_, hat, Nat.le_refl _⟩
  · exact (Kp.refl _ _).grown hgr fun k hk _ => HO.2.symm.trans hk
end
theorem own_new0 {α : Type} (e : TypeId) (f : α → List Value) (w : World) : OwnR e 1 f (w.alloc (.cells #[] e)) (.slice (some ⟨w.heap.size, 0, none⟩) 0 0) (some w.heap.size) [] :=
  ⟨⟨rfl, .inr ⟨w.heap.size, 0, #[], rfl, Nat.zero_le _, heap_alloc_new _ _, Nat.le_refl _, Nat.zero_le _, rfl, rfl⟩⟩, rfl⟩
theorem add_plain (g off j : Nat) : (⟨g, off, none⟩ : Addr).add j = ⟨g, off + j, none⟩ := by unfold Addr.add; split <;> simp_all
theorem count_other (ms : List Nat) {y z : Nat} (hz : z ≠ y) : ms.count z = (y :: ms).count z := by
  have h : (y == z) = false := by simpa using fun (e : y = z) => hz e.symm
  simp [List.count_cons, h]
theorem int_flat (xs : List Nat) : xs.flatMap intC = xs.map fun j : Nat => Value.int .i64 (j : Int) := by
  induction xs with
  | nil => rfl
  | cons x xs ih => simp [intC, ← ih]
/-- The two parts of a row of numbers that are left where one is struck. -/
theorem take_src {ok : Nat → Prop} {w : World} {g off n : Nat} {os : List Nat} (h : SrcF 1 intC ok w (some ⟨g, off, none⟩) n os) (a : Nat) {j : Nat} {u : Value} (hu : ((os.take a).flatMap intC)[j]? = some u) : w.cell? ((⟨g, off, none⟩ : Addr).add j) = some u := by
  rw [int_flat, List.getElem?_map] at hu
  obtain ⟨y, hy, rfl⟩ := Option.map_eq_some_iff.1 hu
  rw [List.getElem?_take] at hy
  split at hy
  · obtain ⟨g', off', e, _, hc⟩ := h.2.2 (by have := (List.getElem?_eq_some_iff.1 hy).1; have := h.1; omega)
    injection e with e; injection e with e1 e2; subst e1 e2
    rw [add_plain]
    have := hc j y hy 0 _ rfl
    simpa using this
  · cases hy
theorem drop_src {ok : Nat → Prop} {w : World} {g off n : Nat} {os : List Nat} (h : SrcF 1 intC ok w (some ⟨g, off, none⟩) n os) (a : Nat) {j : Nat} {u : Value} (hu : ((os.drop a).flatMap intC)[j]? = some u) : w.cell? ((⟨g, off + a, none⟩ : Addr).add j) = some u := by
  rw [int_flat, List.getElem?_map] at hu
  obtain ⟨y, hy, rfl⟩ := Option.map_eq_some_iff.1 hu
  rw [List.getElem?_drop] at hy
  obtain ⟨g', off', e, _, hc⟩ := h.2.2 (by have := (List.getElem?_eq_some_iff.1 hy).1; have := h.1; omega)
  injection e with e; injection e with e1 e2; subst e1 e2
  rw [add_plain]
  have := hc (a + j) y hy 0 _ rfl
  simpa [Nat.add_assoc] using this
set_option maxRecDepth 100000 in
set_option maxHeartbeats 4000000 in
theorem copies_c (n : Int) (h0 : 0 ≤ n) (h1 : n ≤ 255) (A : Option Addr) (len cap : Nat) (z : Nat → Nat) (w : World) (hl : len ≤ 9223372036854775807) (hz : ∀ i, z i ≤ 255)
    (hA : 0 < len → ∃ g off, A = some ⟨g, off, none⟩ ∧ g < w.heap.size ∧ ∀ i, i < len → w.cell? ⟨g, off + i, none⟩ = some (.int .u8 (z i : Int))) :
    Calls Try.prog 4 #[.int .u8 n, .slice A len cap] w (AwakeP w) := by
  have HZ := Lib.hid hz
  have HA := Lib.hid hA
  obtain ⟨kk, hk1, hk2⟩ : ∃ kk : Nat, (kk : Int) ≤ 1 + n % 30 ∧ 1 + n % 30 ≤ (kk : Int) := ⟨(1 + n % 30).toNat, by omega, by omega⟩
  have hk3 : 1 ≤ kk ∧ kk ≤ 30 := by omega
  obtain ⟨hk3, hk4⟩ := hk3
  clear hz hA
  by_cases hbig : 100 < len
  · go_enter Try.func4, Try.ntmps4
    go_wp2_with fail
    refine (awake_c w).mono ?_
    rintro e w1 ⟨rfl, hk⟩
    have HK := Lib.hid hk
    clear hk
    go_wp2_with fail
    go_ret
    exact ⟨rfl, HK.out⟩
  go_enter Try.func4, Try.ntmps4
  go_wp2_with fail
  refine (awake_c w).mono ?_
  rintro e w1 ⟨rfl, hk⟩
  have HK1 := Lib.hid hk
  have hs1 := hk.size
  clear hk
  go_wp2_with fail
  refine (mailNew_c w1).mono ?_
  rintro e w2 ⟨rfl, hw2⟩
  have HM2 := Lib.hid (show Mal w2 (w1.heap.size + 1) w1.heap.size none [] by rw [hw2]; exact Mal.made w1)
  have HK2 := Lib.hid (show Kp No w w2 by rw [hw2]; exact (HK1.out.alloc _).alloc _)
  have hl2 : w1.heap.size + 1 < w2.heap.size := by rw [hw2]; simp
  clear hw2
  go_wp2_with fail
  have hsz : w.heap.size ≤ w1.heap.size := hs1
  go_loopw [7, 9] (fun v i wr => ∃ j : Nat, j ≤ kk ∧ i = .int .i64 j ∧ Cop1 w (w1.heap.size + 1) w1.heap.size w2.heap.size v j wr) (fun _ i _ => kk - (intOf i).toNat)
  case atStart => exact ⟨0, by omega, rfl, none, HM2.out.kpNo ((Kp.refl _ _).alloc _), OwnR.nil _ _ _ _, by rw [show List.range 0 = [] from rfl, cntC_nil]; exact heap_alloc_new _ _, HK2.out.alloc _, by simp, by omega, by omega, by omega, by omega⟩
  case round =>
    obtain ⟨j, hj, rfl, o1, hm, hr, hc, hkp, ho, x1, x2, x3, x4⟩ := hrel
    have HM := Lib.hid hm
    have HR := Lib.hid hr
    have HC := Lib.hid hc
    have HKP := Lib.hid hkp
    have HO := Lib.hid ho
    obtain ⟨Av, nv, cv, rfl⟩ := hr.form
    have hlc := (Array.getElem?_eq_some_iff.1 hc).1
    clear hm hr hc hkp ho
    by_cases hjk : j < kk
    · have hj1 : (j : Int) < 1 + n % 30 := by omega
      go_wp2_with (at_builtin; refine app_one LNote.cs LNote.cs_len LNote.cs_one Try.underlying27 infoNote3 rfl (by omega) rfl _ _ rfl _ o1 ((List.range j).map beat) (beat j) rfl ⟨wr.heap.size, 0, none⟩ 1 rfl ?c1 ?c2 (by simp; omega) (by simp; omega) ?_)
      case c1 => exact cells_new _ _ rfl _ _ _ rfl
      case c2 => exact HR.out.kpNo ((Kp.refl _ _).alloc _)
      intro v1 w3 o3 hr3 hn3 hk3
      have K3 : Kp (Own o1) wr w3 := Kp.trans ((Kp.refl No wr).alloc _).ofNo hk3 (fun _ _ e => e)
      have hC3 : w3.heap[w2.heap.size]? = some (.cells (cntC (List.range j)) 59) := (K3.block _ hlc (fun e => by have := HO.out _ e; omega)).trans HC.out
      obtain ⟨fc, ff⟩ := row_facts hC3
      have fcj : w3.cell? ⟨w2.heap.size, j, none⟩ = some (.int .i64 ((List.range j).count j : Int)) := (fc j).trans (cntC_get _ (by omega))
      have ffj := ff j
      have HR3 := Lib.hid hr3
      have HN3 := Lib.hid (hn3.of_le (w := wr) (by simp))
      have HK3 := Lib.hid K3
      have HC3 := Lib.hid hC3
      obtain ⟨A3, n3, c3, rfl⟩ := hr3.form
      clear fc ff hr3 hn3 hk3 K3 hC3
      go_wp2_with fail
      go_roundw
      case rel =>
        have hset : (cntC (List.range j)).setIfInBounds j (.int .i64 1) = cntC (List.range (j + 1)) := by
          have h := cntC_set (l := List.range j) (l' := List.range (j + 1)) (x := j) (fun i hi => by rw [List.range_succ, count_snoc, if_neg (fun e => hi e.symm)]; rfl)
          rw [← h]
          congr 2
          rw [List.range_succ, count_snoc, if_pos rfl, List.count_eq_zero.2 (by simp)]
          rfl
        have hlm := HM.out.lt
        refine ⟨j + 1, by omega, by go_num, o3, (HM.out.kp HK3.out ?_).kp (S := One w2.heap.size) ((Kp.refl _ _).set1) ?_, ?_, ?_, ?_, ?_, x1, x2, x3, x4⟩
        · intro x hx e
          rcases hx with hx | hx | hx
          · subst hx; have := HO.out _ e; omega
          · subst hx; have := HO.out _ e; omega
          · cases hx
        · intro x hx e
          simp only [One] at e
          rcases hx with hx | hx | hx
          · omega
          · omega
          · cases hx
        · rw [List.range_succ, List.map_append]
          refine HR3.out.kp (S := One w2.heap.size) ((Kp.refl _ _).set1) (fun x hx e => ?_)
          simp only [One] at e
          rcases HN3.out with rfl | ⟨y, rfl, hy⟩
          · have := HO.out _ hx; omega
          · injection hx with hx; omega
        · rw [heap_set HC3.out, hset]
        · refine Kp.setCell (Kp.trans HKP.out HK3.out (fun i hi e => ?_)) (fun e => ?_) _
          · have := HO.out _ e; omega
          · simp only at e; omega
        · intro y hy
          rcases HN3.out with rfl | ⟨y', rfl, hy'⟩
          · exact HO.out _ hy
          · injection hy with hy; omega
      case measure => simp [intOf]; omega
    · obtain rfl : j = kk := by omega
      have hj1 : ¬ ((j : Int) < 1 + n % 30) := by omega
      go_wp2_with fail
      obtain ⟨hsf, hnv⟩ := HR.out.src LNote.cs_len
      have hs1 : NotesR (Own o1) wr ((List.range j).map beat) := by
        intro x hx
        obtain ⟨i, _, rfl⟩ := List.mem_map.1 hx
        exact (NoteR.hdr _ _ _ _ _ _).mono (fun _ e => e.elim) (fun y e => ⟨HR.out.lt e, not_No _⟩)
      have hs2 : Apt (MF (w1.heap.size + 1) w1.heap.size none) wr (Own o1) := by
        intro y e
        refine ⟨HR.out.lt e, fun h => ?_⟩
        have := HO.out _ e
        rcases h with h | h | h
        · omega
        · omega
        · cases h
      have hs3 : ∀ x, x ∈ (List.range j).map beat → NoteP x.n := by
        intro x hx
        obtain ⟨i, _, rfl⟩ := List.mem_map.1 hx
        exact NoteP.hdr _ _ _ _ _ (.inr (.inl rfl))
      have hsd := send_c (ok := Own o1) (c := cv) HM.out ((List.range j).map beat) (by rw [← hnv]; exact hsf) hs1 hs2 hs3 (by simp; omega)
      rw [← hnv] at hsd
      refine hsd.mono ?_
      intro en w4 h4
      rw [sendS_beats (List.range j) (by intro i hi; have := List.mem_range.1 hi; omega) (by simp; omega)] at h4
      obtain ⟨rfl, o4, hm4, hn4, hk4'⟩ := h4
      have HCR := Lib.hid (show CopR w (w1.heap.size + 1) w1.heap.size w2.heap.size (.slice none 0 0) (List.range j) [] (List.range j) w4 from ⟨o4, none, hm4, OwnR.nil _ _ _ _, (hk4'.block _ hlc (fun e => by rcases e with e | e; omega; cases e)).trans HC.out,
        HKP.out.trans hk4' (fun i hi e => by rcases e with e | e; omega; cases e), ⟨by omega, by omega, by omega, ?_, by simp, by omega, by omega, ?_, by simp, by simp, by simp, by simp⟩⟩)
      rotate_left
      · intro y hy
        rcases hn4 with rfl | ⟨z', rfl, hz'⟩
        · cases hy
        · injection hy with hy; omega
      · intro e
        rcases hn4 with rfl | ⟨z', rfl, hz'⟩
        · cases e
        · injection e with e; omega
      have hne : ((j : Int) != 1 + n % 30) = false := by simp; omega
      rw [show (((List.range j).map beatT, (List.range j).length) : List ByteArray × Nat).2 = j from by simp]
      clear hsd hsf hnv hs1 hs2 hs3 hm4 hn4 hk4'
      go_wp2_with fail
      have hlen : len ≤ 100 := by omega
      have hmb := HM.out.lt
      clear HK1 HM2 HK2 HM HC HKP HO HR hsz x1 x2 x3 x4 hs1 hl2 hlc hjk hj hbig hne hmb
      go_loopw [10, 11] (fun v i wr => ∃ p : Nat, p ≤ j ∧ i = .int .i64 p ∧ CopR w (w1.heap.size + 1) w1.heap.size w2.heap.size v (List.range j) (List.range p) (List.range j) wr) (fun _ i _ => j - (intOf i).toNat)
      case atStart => exact ⟨0, by omega, rfl, HCR.out⟩
      case round =>
        obtain ⟨p, hp, rfl, o, o2, hst⟩ := hrel
        clear HCR
        have HST := Lib.hid hst
        obtain ⟨A2, n2, c2, rfl⟩ := hst.row.form
        clear hst
        by_cases hpj : p < j
        · have hpj1 : (p : Int) < 1 + n % 30 := by omega
          go_wp2_with (at_builtin; refine app_one intC intC_len intC_one Try.underlying60 infoInt rfl (by omega) rfl _ _ rfl _ o2 (List.range p) p rfl ⟨wr.heap.size, 0, none⟩ 1 rfl ?c1 ?c2 (by simp; omega) (by simp; omega) ?_)
          case c1 => exact cells_new _ _ rfl _ _ _ rfl
          case c2 => exact HST.out.row.kpNo ((Kp.refl _ _).alloc _)
          intro v1 w3 o3 hr3 hn3 hk3
          have HS3 := Lib.hid (HST.out.app (by rw [← List.range_succ] at hr3; exact hr3) (hn3.of_le (w := wr) (by simp)) (Kp.trans ((Kp.refl No wr).alloc _).ofNo hk3 (fun _ _ e => e)))
          clear hr3 hn3 hk3
          go_wp2_with fail
          go_roundw
          case rel => exact ⟨p + 1, by omega, by go_num, o, o3, HS3.out⟩
          case measure => simp [intOf]; omega
        · obtain rfl : p = j := by omega
          have HCR := Lib.hid (show CopR w (w1.heap.size + 1) w1.heap.size w2.heap.size (.slice A2 n2 c2) (List.range p) (List.range p) (List.range p) wr from ⟨o, o2, HST.out⟩)
          have hpj1 : ¬ ((p : Int) < 1 + n % 30) := by omega
          clear HST
          go_wp2_with fail
          have hz0 : (List.range p).length ≤ p := by simp
          have hin : ∀ y, y ∈ List.range p → y < p := fun y hy => List.mem_range.1 hy
          go_loopw [10, 12] (fun v i wr => ∃ (q : Nat) (os : List Nat), q ≤ len ∧ i = .int .i64 q ∧ os.length ≤ p + q ∧ (∀ y, y ∈ os → y < p) ∧ CopR w (w1.heap.size + 1) w1.heap.size w2.heap.size v os os os wr) (fun _ i _ => len - (intOf i).toNat)
          case atStart => exact ⟨0, List.range p, by omega, rfl, by omega, hin, HCR.out⟩
          case round =>
            clear hz0 hin HCR
            obtain ⟨q, os, hq, rfl, hos, hin, o, o2, hst⟩ := hrel
            obtain ⟨A3, c3, hv3, hLc⟩ := hst.row.slice
            subst hv3
            have HIN := Lib.hid hin
            have HST := Lib.hid hst
            have hsrc := (hst.row.src intC_len).1
            have HSRC := Lib.hid hsrc
            have HZQ := Lib.hid (HZ.out q)
            generalize hzq : z q = zq
            obtain ⟨L, hL⟩ : ∃ L, os.length = L := ⟨_, rfl⟩
            have HL := Lib.hid hL
            rw [hL] at hLc
            by_cases hgo : q < len ∧ 0 < L
            · obtain ⟨hq1, hL1⟩ := hgo
              have hq2 : (q : Int) < (len : Int) := by omega
              obtain ⟨ga, offa, rfl, hga, hcella⟩ := HA.out (by omega)
              have cz : wr.cell? ⟨ga, offa + q, none⟩ = some (.int .u8 (zq : Int)) := (hst.kp.cell ga (offa + q) hga (not_No _)).trans ((hcella q hq1).trans (by rw [hzq]))
              have hzb : zq ≤ 255 := by rw [← hzq]; exact HZQ.out
              rw [hL] at hos ⊢
              clear hst hin hsrc hL hcella hzq
              obtain ⟨g3, off3, rfl, _, hcell3⟩ := HSRC.out.2.2 (by rw [HL.out]; exact hL1)
              obtain ⟨a, ha, haL⟩ : ∃ a : Nat, (zq : Int) / 2 % (L : Int) = (a : Int) ∧ a < L := ⟨zq / 2 % L, by simp, Nat.mod_lt _ hL1⟩
              obtain ⟨x, hx⟩ : ∃ x, os[a]? = some x := ⟨os[a]'(by rw [HL.out]; exact haL), List.getElem?_eq_getElem _⟩
              have cx : wr.cell? ⟨g3, off3 + a, none⟩ = some (.int .i64 (x : Int)) := by have := hcell3 a x hx 0 _ rfl; simpa using this
              have hxp : x < p := HIN.out x (List.mem_of_getElem? hx)
              have HX := Lib.hid hx
              clear hcell3 hx
              have hat : atS (os.map beatT).length (a : Int) = (a : Int) := by rw [List.length_map, HL.out, atS_yes (by omega) (by omega), Int.toNat_natCast, Nat.mod_eq_of_lt haL]
              have hxx : (os.map beatT)[a]? = some (beatT x) := by rw [List.getElem?_map, HX.out]; rfl
              have hroom : (os.map beatT).length < 512 := by rw [List.length_map, HL.out]; omega
              have HF := Lib.hid (And.intro hat (And.intro hxx hroom))
              have hcnt : os.count x ≤ L := by rw [← HL.out]; exact List.count_le_length
              clear hat hxx hroom
              generalize hct : os.count x = ct at hcnt
              have HCT := Lib.hid hct
              clear hct
              go_wp2_with fail
              · refine (copy_room HST.out.mal a HF.out.1 HF.out.2.1 HF.out.2.2).mono ?_
                rintro en w5 ⟨rfl, o5, hm5, hn5, hk5⟩
                have HS5 := Lib.hid (HST.out.mut (ms' := os ++ [x]) (by rw [List.map_append]; exact hm5) hn5 hk5)
                clear hm5 hn5 hk5
                go_wp2_with (at_builtin; refine app_one intC intC_len intC_one Try.underlying60 infoInt rfl (by omega) rfl _ _ rfl _ o2 os x rfl ⟨w5.heap.size, 0, none⟩ 1 rfl ?c1 ?c2 (by rw [HL.out]; omega) (by rw [HL.out]; omega) ?_)
                case c1 => exact cells_new _ _ rfl _ _ _ rfl
                case c2 =>
                  have := HS5.out.row
                  rw [HL.out] at this
                  exact this.kpNo ((Kp.refl _ _).alloc _)
                intro v1 w6 o6 hr6 hn6 hk6
                have hs6 := HS5.out.app hr6 (hn6.of_le (w := w5) (by simp)) (Kp.trans ((Kp.refl No w5).alloc _).ofNo hk6 (fun _ _ e => e))
                obtain ⟨fc, ff⟩ := row_facts hs6.cnt
                have fcx : w6.cell? ⟨w2.heap.size, x, none⟩ = some (.int .i64 (ct : Int)) := (fc x).trans (by rw [cntC_get _ (by omega), HCT.out])
                have ffx := ff x
                obtain ⟨A6, n6, c6, rfl⟩ := hr6.form
                have HS6 := Lib.hid hs6
                clear hr6 hn6 hk6 hs6 fc ff
                go_wp2_with fail
                go_roundw
                case rel =>
                  refine ⟨q + 1, os ++ [x], by omega, by go_num, by rw [List.length_append, HL.out]; simp; omega, ?_, o5, o6, HS6.out.set (by rw [count_snoc, if_pos rfl, HCT.out]; rfl) (fun i hi => by rw [count_snoc, if_neg (fun e => hi e.symm)]; rfl)⟩
                  intro y hy
                  rcases List.mem_append.1 hy with hy | hy
                  · exact HIN.out y hy
                  · rw [List.mem_singleton.1 hy]; exact hxp
                case measure => simp [intOf]; omega
              · refine (lose_some HST.out.mal a HF.out.1 HF.out.2.1).mono ?_
                rintro en w5 ⟨rfl, o5, hm5, hn5, hk5⟩
                have HS5 := Lib.hid (HST.out.mut (ms' := os.take a ++ os.drop (a + 1)) (by rw [List.map_append, List.map_take, List.map_drop]; exact hm5) hn5 hk5)
                clear hm5 hn5 hk5
                have hsw : SrcF 1 intC (Own o2) w5 (some ⟨g3, off3, none⟩) L os := by have := (HS5.out.row.src intC_len).1; rwa [HL.out] at this
                have HD1 := Lib.hid fun W (k : Kp No w5 W) (i' : Nat) (u : Value) (hu : ((os.take a).flatMap intC)[i']? = some u) => take_src (hsw.agr (k.agr fun y hy => ⟨HS5.out.row.lt hy, not_No _⟩)) a hu
                obtain ⟨AD, hAD, HD2⟩ : ∃ AD : Addr, (if c3 = a + 1 then some (⟨g3, off3, none⟩ : Addr) else some ⟨g3, off3 + (a + 1), none⟩) = some AD ∧ Hid (∀ W (k : Kp No w5 W) (i' : Nat) (u : Value) (hu : ((os.drop (a + 1)).flatMap intC)[i']? = some u), W.cell? (AD.add i') = some u) := by
                  by_cases hc : c3 = a + 1
                  · refine ⟨⟨g3, off3, none⟩, by rw [if_pos hc], fun W k i' u hu => ?_⟩
                    rw [List.drop_of_length_le (by rw [HL.out]; omega)] at hu
                    cases hu
                  · exact ⟨⟨g3, off3 + (a + 1), none⟩, by rw [if_neg hc], fun W k i' u hu => drop_src (hsw.agr (k.agr fun y hy => ⟨HS5.out.row.lt hy, not_No _⟩)) (a + 1) hu⟩
                have ha1 : a ≤ c3 := by omega
                have ha2 : a + 1 ≤ c3 := by omega
                have ha3 : a + 1 ≤ L := by omega
                have hl1 : (os.take a).length = a := by rw [List.length_take, HL.out]; omega
                have hl2 : (os.drop (a + 1)).length = L - (a + 1) := by rw [List.length_drop, HL.out]
                have HL1 := Lib.hid hl1
                have HL2 := Lib.hid hl2
                have sm1 : IntKind.i64.wrap ((a : Int) + 1) = (a : Int) + 1 := IntWalk.i64_in _ (by omega)
                have sm2 : (0 : Int) ≤ (a : Int) + 1 := by omega
                have sm3 : ((a : Int) + 1).toNat = a + 1 := by omega
                have sm4 : (a : Int) + 1 ≤ (L : Int) := by omega
                clear hsw hl1 hl2
                go_wp2_with fail
                go_region_law (first
                  | (refine step_appn intC intC_len intC_one Try.underlying60 infoInt rfl (by omega) rfl (.tmp 103) (.tmp 106) rfl (.slice (some ⟨w5.heap.size, 0, none⟩) 0 0) (some w5.heap.size) [] (os.take a) (by simp [Act.eval, Act.put]) ⟨g3, off3, none⟩ a c3 (by simp [Act.eval, Act.put]) HL1.out.symm (HD1.out _ (by repeat (first | exact Kp.refl _ _ | apply Kp.drew | apply Kp.alloc))) ((own_new0 3 intC w5).kpNo (by repeat (first | exact Kp.refl _ _ | apply Kp.drew))) (by rw [HL1.out]; simp; omega) (by rw [HL1.out]; simp; omega) ?_; intro vA wA oA hrA hnA hkA; have HRA := Lib.hid hrA; have HNA := Lib.hid (show ∃ y, oA = some y ∧ w5.heap.size ≤ y from hnA.elim (fun e => ⟨_, e, Nat.le_refl _⟩) (fun ⟨z', e, hz'⟩ => ⟨z', e, by simp at hz'; omega⟩)); have HKA := Lib.hid (show Kp No w5 wA from Kp.trans (by repeat (first | exact Kp.refl _ _ | apply Kp.drew | apply Kp.alloc)) hkA (fun i hi e => by injection e with e; omega)); clear hrA hnA hkA)
                  | (refine step_appn intC intC_len intC_one Try.underlying60 infoInt rfl (by omega) rfl (.tmp 107) (.tmp 111) rfl vA oA (os.take a) (os.drop (a + 1)) (by simp [Act.eval, Act.put]) AD (L - (a + 1)) (c3 - (a + 1)) (by simp [Act.eval, Act.put]) HL2.out.symm (HD2.out _ (by first | exact HKA.out | exact HKA.out.drew)) (by first | exact HRA.out | exact HRA.out.kpNo ((Kp.refl _ _).drew)) (by rw [HL1.out, HL2.out]; omega) (by rw [HL1.out, HL2.out]; omega) ?_; intro vB wB oB hrB hnB hkB; have HRB := Lib.hid hrB; have HNB := Lib.hid hnB; have HKB := Lib.hid hkB; clear hrB hnB hkB))
                clear sm1 sm2 sm3 sm4
                have KB : Kp No w5 wB := HKA.out.trans HKB.out (fun i hi e => by
                  obtain ⟨y, hy, hy2⟩ := HNA.out
                  have : y = i := by rw [show oA = some i from e] at hy; injection hy with hy; exact hy.symm
                  omega)
                have NB : Nxt w5 o2 oB := by
                  obtain ⟨y, hy, hy2⟩ := HNA.out
                  have := HKA.out.size
                  rcases HNB.out with e | ⟨y', e, hy'⟩
                  · exact .inr ⟨y, e.trans hy, hy2⟩
                  · exact .inr ⟨y', e, by omega⟩
                have hs6 := HS5.out.app HRB.out NB KB.ofNo
                obtain ⟨fc, ff⟩ := row_facts hs6.cnt
                have fcx : wB.cell? ⟨w2.heap.size, x, none⟩ = some (.int .i64 (ct : Int)) := (fc x).trans (by rw [cntC_get _ (by omega), HCT.out])
                have ffx := ff x
                obtain ⟨A6, n6, c6, rfl⟩ := HRB.out.form
                have HS6 := Lib.hid hs6
                clear KB NB hs6 fc ff hAD
                go_wp2_with fail
                go_roundw
                case rel =>
                  have hce := count_erase HX.out x
                  rw [if_pos rfl, HCT.out] at hce
                  refine ⟨q + 1, os.take a ++ os.drop (a + 1), by omega, by go_num, ?_, ?_, o5, oB, HS6.out.set (cs' := os.take a ++ os.drop (a + 1)) (by omega) (fun i hi => by have h := count_erase HX.out i; rw [if_neg (fun e => hi e.symm)] at h; omega)⟩
                  · rw [List.length_append, HL1.out, HL2.out]; omega
                  · intro y hy
                    rcases List.mem_append.1 hy with hy | hy
                    · exact HIN.out y (List.mem_of_mem_take hy)
                    · exact HIN.out y (List.mem_of_mem_drop hy)
                case measure => simp [intOf]; omega
            · have hos2 : os.length ≤ 200 := by omega
              have HOS := Lib.hid hos2
              rw [hL] at hos ⊢
              have HST2 := Lib.hid (show CopR w (w1.heap.size + 1) w1.heap.size w2.heap.size (.slice A3 L c3) os os os wr from ⟨o, o2, by rw [← hL]; exact hst⟩)
              clear hst hin hsrc hL hzq
              have hd : len ≤ q ∨ (q < len ∧ L = 0) := by omega
              have hC0 : w2.heap.size < wr.heap.size := by
                obtain ⟨o, o2, h⟩ := HST2.out
                exact (Array.getElem?_eq_some_iff.1 h.cnt).1
              clear HSRC HZQ HST HL hos hos2 hgo hC0
              rcases hd with hd | ⟨hd, rfl⟩
              all_goals
                go_wp2_with fail
                go_loopg [] (os.length) (fun k wx => ∃ ms : List Nat, k = ms.length ∧ (∀ y, y ∈ ms → y < p) ∧ ms.length ≤ 200 ∧ ∃ v, CopR w (w1.heap.size + 1) w1.heap.size w2.heap.size v ms os ms wx)
                case atStart => exact ⟨os, rfl, HIN.out, HOS.out, _, HST2.out⟩
                case round =>
                  clear HST2 hd
                  obtain ⟨ms, rfl, hin, hl2, v4, o, o2, hst⟩ := hrel
                  have HST := Lib.hid hst
                  clear hst
                  cases ms with
                  | nil =>
                    go_wp2_with fail
                    refine (mailLen_c HST.out.mal).mono ?_
                    rintro e w5 ⟨rfl, rfl⟩
                    go_wp2_with fail
                    obtain ⟨fc, ff⟩ := row_facts HST.out.cnt
                    have FC := Lib.hid fc
                    have HFIN := Lib.hid HST.out.kp
                    clear fc ff HST hin
                    go_loop [17] (fun i => ∃ r : Nat, r ≤ p ∧ i = .int .i64 r) (fun i => p - (intOf i).toNat)
                    case atStart => exact ⟨0, by omega, rfl⟩
                    case round =>
                      obtain ⟨r, hr, rfl⟩ := hrel
                      by_cases hrp : r < p
                      · have hr1 : (r : Int) < 1 + n % 30 := by omega
                        have fcr : w5.cell? ⟨w2.heap.size, r, none⟩ = some (.int .i64 0) := (FC.out r).trans (cntC_get [] (by omega))
                        go_wp2_with fail
                        go_round
                        case rel => exact ⟨r + 1, by omega, by go_num⟩
                        case measure => simp [intOf]; omega
                      · have hr1 : ¬ ((r : Int) < 1 + n % 30) := by omega
                        go_wp2_with fail
                        go_ret
                        exact ⟨rfl, HFIN.out⟩
                  | cons y ms =>
                    have hyp : y < p := hin y (by simp)
                    have HIN2 := Lib.hid (show ∀ z, z ∈ ms → z < p from fun z hz => hin z (by simp [hz]))
                    have hlm : ms.length + 1 ≤ 200 := hl2
                    have hct : 1 ≤ (y :: ms).count y := by simp
                    have hct2 : (y :: ms).count y = ms.count y + 1 := by simp
                    have hct3 : (y :: ms).count y ≤ 200 := Nat.le_trans List.count_le_length hl2
                    have hyp1 : (y : Int) < 1 + n % 30 := by omega
                    have HCE := Lib.hid (show ∀ z, z ≠ y → ms.count z = (y :: ms).count z from fun z hz => count_other ms hz)
                    have HRD := Lib.hid (show Reads (beatT y) (hdr 5 1 0 0 y) from reads_plain 5 1 0 0 y (.inr rfl) (beat_may y (by omega)))
                    have hbz : (beatT y).size ≤ 1000 := by
                      have h : (packB (hdr 5 1 0 0 y)).length = 20 := by rw [packB, packBody_plain (.inr rfl), List.append_nil, numsB_length]; rfl
                      unfold beatT
                      rw [bytesT_size, h]; omega
                    have HBZ := Lib.hid hbz
                    generalize hcc : (y :: ms).count y = ct at hct hct2 hct3
                    have HCC := Lib.hid hcc
                    have HC2 := Lib.hid hct2
                    clear hin hl2 hbz hcc hct2
                    go_wp2_with fail
                    refine (mailLen_c HST.out.mal).mono ?_
                    rintro e w5 ⟨rfl, rfl⟩
                    rw [show ((y :: ms).map beatT).length = ms.length + 1 from by simp]
                    go_wp2_with fail
                    refine (take_some HST.out.mal 0 (j := 0) (x := beatT y) (by rw [show ((y :: ms).map beatT).length = ms.length + 1 from by simp, atS_yes (by omega) (by omega)]; simp) rfl HRD.out (by have := HBZ.out; omega)).mono ?_
                    rintro en w6 ⟨B1, B2, B3, B4, d1, d2, d3, d4, ok', rfl, hn6, hok6, hm6, hk6⟩
                    have HS6 := Lib.hid (HST.out.mut (ms' := ms) (by simpa using hm6) (.inl rfl) hk6)
                    have hC6 : w2.heap.size < w6.heap.size := (Array.getElem?_eq_some_iff.1 HS6.out.cnt).1
                    clear hn6 hok6 hm6 hk6
                    go_wp2_with (first | (refine store_note (g := w6.heap.size) (n := hdr 5 1 0 0 y) (A1 := B1) (A2 := B2) (A3 := B3) (A4 := B4) (c1 := d1) (c2 := d2) (c3 := d3) (c4 := d4) (heap_alloc_new _ _) rfl rfl (.tmp 15) (.tmp 124) rfl rfl rfl rfl ?_; intro w7 hb7 hk7; have q7 : w7.cell? ⟨w6.heap.size, 4, none⟩ = some (.int .i64 (y : Int)) := hb7.at_ 4 rfl; have HS7 := Lib.hid (HS6.out.no (show Kp No w6 w7 from Kp.trans ((Kp.refl _ _).alloc _) hk7 (fun i hi e => by simp only [One] at e; omega))); have fc7 : w7.cell? ⟨w2.heap.size, y, none⟩ = some (.int .i64 (ct : Int)) := ((row_facts HS7.out.cnt).1 y).trans (by rw [cntC_get _ (by omega), HCC.out]); have ff7 := (row_facts HS7.out.cnt).2 y; clear hb7 hk7) | fail)
                    go_roundg ms.length
                    case measure => simp
                    case rel => exact ⟨ms, rfl, HIN2.out, by omega, v4, o, o2, HS7.out.set (by have := HC2.out; omega) HCE.out⟩

end Go.Proofs.Ytakhkjidcnahjaa
