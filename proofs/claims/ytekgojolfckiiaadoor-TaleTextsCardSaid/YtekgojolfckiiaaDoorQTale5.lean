/- tale.Read. -/
import Derived.Test.YtekgojolfckiiaaDoorQTale4
set_option linter.unusedVariables false
set_option linter.unusedSimpArgs false
namespace Go.Proofs.YtekgojolfckiiaaDoor
open Go.RowKit

def evA (e : Tl.Ev) : Array Value := evC e.doo e.who e.n (bT e.text) (bT e.val) (bT e.to_)
def evL_ (e : Tl.Ev) : List Value := (evA e).toList
theorem evL_len (e : Tl.Ev) : (evL_ e).length = 6 := rfl
theorem evL_one (e : Tl.Ev) (u : Value) (h : u ∈ evL_ e) : u.oneCell' = true := by
  have := evC_one e.doo e.who e.n (bT e.text) (bT e.val) (bT e.to_)
  exact (Array.all_eq_true_iff_forall_mem.1 this) u (by simpa [evL_, evA] using h)
theorem infoEv3 : (Tryd.prog.info? 39).map (fun i => (i.zero, i.size, i.bytes)) = some (some (.agg (evC 0 0 0 ⟨#[]⟩ ⟨#[]⟩ ⟨#[]⟩)), 6, 72) := by kernel_rfl
def ReadEP (w : World) (r : Option (List Tl.Ev)) (en : Ending) (w' : World) : Prop := Kp No w w' ∧ match r with
  | none => en = .returned (.tuple #[.slice none 0 0, .int .i64 5])
  | some es => ∃ A c o, en = .returned (.tuple #[.slice A es.length c, .int .i64 0]) ∧ OwnR 39 6 evL_ w' (.slice A es.length c) o es ∧ ∀ y, o = some y → w.heap.size ≤ y
theorem readE_none {w w' : World} {l : List UInt8} (h : Tl.readL l = none) (k : Kp No w w') : ReadEP w (Tl.readL l) (.returned (.tuple #[.slice none 0 0, .int .i64 5])) w' := ⟨k, by rw [h]⟩
theorem cut_c (l : List UInt8) (w : World) (E : Env w) (hl : l.length ≤ 1000000) {x r : List UInt8} {q : Bool} (h : Lib.cut l [10] = (x, r, q)) :
    Calls Tryd.prog 22 #[.string (bT l), .string ⟨#[10]⟩] w fun e w' => e = .returned (.tuple #[.string (bT x), .string (bT r), .bool q]) ∧ ∃ n, w' = w.drewN n := by
  obtain ⟨m, hm⟩ := E.len
  have := Tryd.strings_Cut (bT l) (bT [10]) m w (by rw [bT_size]; omega) hm
  rw [bT_list, bT_list, h] at this
  exact this
theorem cut_len {l x r : List UInt8} {q : Bool} (h : Lib.cut l [10] = (x, r, q)) : x.length ≤ l.length ∧ r.length ≤ l.length ∧ (q = true → r.length < l.length) := by
  cases q with
  | true =>
    have := congrArg List.length (Tl.cut_inv h).1
    simp only [List.length_append, List.length_cons] at this
    omega
  | false =>
    unfold Lib.cut at h
    split at h
    · simp at h
    · simp only [Prod.mk.injEq] at h
      obtain ⟨rfl, rfl, _⟩ := h
      simp
def RdRel (w : World) (l rest : List UInt8) (v : Value) (wr : World) : Prop := ∃ done o j, rest.length ≤ j ∧ Tl.readL l = (Tl.readK j rest).map (done ++ ·) ∧ OwnR 39 6 evL_ wr v o done ∧ Kp No w wr ∧ (∀ y, o = some y → w.heap.size ≤ y) ∧ done.length + rest.length ≤ l.length
set_option maxRecDepth 100000 in
set_option maxHeartbeats 2000000 in
theorem read_c (l : List UInt8) (w : World) (E : Env w) (hl : l.length ≤ 1000000) : Calls Tryd.prog 11 #[.string (bT l)] w (ReadEP w (Tl.readL l)) := by
  have HE := Lib.hid E
  clear E
  generalize hT : bT l = T
  have HT := Lib.hid hT
  clear hT
  go_enter Tryd.func11, Tryd.ntmps11
  go_wp2_with fail
  go_loopg [0, 4] (l.length) (fun g t v wr => ∃ rest, g = rest.length ∧ t = .string (bT rest) ∧ RdRel w l rest v wr)
  case atStart => exact ⟨l, rfl, by rw [HT.out], [], none, l.length, Nat.le_refl _, by simp [Tl.readL], OwnR.nil _ _ _ _, Kp.refl _ _, by simp, by simp⟩
  case round =>
    obtain ⟨rest, rfl, rfl, done, o, j, hj, hrd, ho, hk, hoy, hlen⟩ := hrel
    have HRD := Lib.hid hrd
    have HO := Lib.hid ho
    have HK := Lib.hid hk
    have HY := Lib.hid hoy
    obtain ⟨A, c, hv, _⟩ := ho.slice
    subst hv
    clear hrd ho hk hoy
    have hemp : (bT rest).toList = rest := by rw [toList_data, bT_list]
    cases rest with
    | nil =>
      have HF := Lib.hid (show ReadEP w (Tl.readL l) (.returned (.tuple #[.slice A done.length c, .int .i64 0])) wr from ⟨HK.out, by rw [HRD.out, Tl.readK_nil]; simp only [Option.map_some, List.append_nil]; exact ⟨A, c, o, rfl, HO.out, HY.out⟩⟩)
      generalize bT [] = T2 at *
      generalize done.length = m at *
      go_wp2_with fail
      go_ret2
      exact HF.out
    | cons b t =>
      obtain ⟨x, r, q, hcut⟩ : ∃ x r q, Lib.cut (b :: t) [10] = (x, r, q) := ⟨_, _, _, rfl⟩
      have hcl := cut_len hcut
      have HC := Lib.hid fun W (k : Kp No w W) => cut_c (b :: t) W (HE.out.kp k) (by omega) hcut
      have HV := Lib.hid fun W (k : Kp No w W) => event_c x W (HE.out.kp k) (by omega)
      have HJ := Lib.hid (show ∃ j', j = j' + 1 ∧ Tl.readK j (b :: t) = (if q = true then match Tl.evL x with | some e => (Tl.readK j' r).map (e :: ·) | none => none else none) ∧ (q = true → r.length ≤ j') by
        obtain ⟨j', rfl⟩ : ∃ j', j = j' + 1 := ⟨j - 1, by simp only [List.length_cons] at hj; omega⟩
        refine ⟨j', rfl, by rw [Tl.readK, hcut]; rfl, fun hq => ?_⟩
        have := hcl.2.2 hq
        omega)
      have HCL := Lib.hid hcl
      clear hcl hcut
      generalize hb2 : bT (b :: t) = T2 at *
      have hlen2 : done.length + (t.length + 1) ≤ l.length := hlen
      clear hb2 hlen
      go_wp2_with fail
      refine (HC.out _ HK.out).mono ?_
      rintro en w1 ⟨rfl, n1, rfl⟩
      generalize hx2 : bT x = TX at *
      generalize hr2 : bT r = TR at *
      have HX2 := Lib.hid hx2
      have HR2 := Lib.hid hr2
      clear hx2 hr2
      go_wp2_with fail
      refine (HV.out _ (HK.out.drewN _)).mono ?_
      rintro en w2 ⟨hk2, d, who, n, tt, vv, oo, rfl, hev⟩
      have HEV := Lib.hid hev
      have HK2 := Lib.hid (show Kp No wr w2 from ((Kp.refl _ _).drewN _).thenNo hk2)
      clear hk2 hev
      obtain ⟨j', rfl, hj1, hj2⟩ := HJ.out
      rw [hj1] at HRD
      have HJ2 := Lib.hid hj2
      clear hj1 hj2 HJ
      cases q with
      | false =>
        rw [if_neg (by decide)] at HRD
        have HF := Lib.hid (show Tl.readL l = none by rw [HRD.out]; rfl)
        generalize done.length = m at *
        go_wp2_with (refine store_ev (g := w2.heap.size) (d := d) (who := who) (n := n) (t := tt) (v := vv) (o' := oo) (heap_alloc_new _ _) rfl rfl (.tmp 8) (.tmp 21) rfl rfl rfl rfl ?_; intro wA hbA hkA)
        go_ret2
        exact readE_none HF.out ((HK.out.thenNo HK2.out).trans (S' := One w2.heap.size) (Kp.then_ ((Kp.refl _ _).alloc _) hkA) (fun i hi e => by have := HK.out.size; have := HK2.out.size; simp only [One] at e; omega))
      | true =>
        rw [if_pos rfl] at HRD
        cases hx : Tl.evL x with
        | none =>
          rw [hx] at HRD HV
          have HF := Lib.hid (show Tl.readL l = none by rw [HRD.out]; rfl)
          generalize done.length = m at *
          go_wp2_with (refine store_ev (g := w2.heap.size) (d := d) (who := who) (n := n) (t := tt) (v := vv) (o' := oo) (heap_alloc_new _ _) rfl rfl (.tmp 8) (.tmp 21) rfl rfl rfl rfl ?_; intro wA hbA hkA)
          go_ret2
          exact readE_none HF.out ((HK.out.thenNo HK2.out).trans (S' := One w2.heap.size) (Kp.then_ ((Kp.refl _ _).alloc _) hkA) (fun i hi e => by have := HK.out.size; have := HK2.out.size; simp only [One] at e; omega))
        | some e =>
          rw [hx] at HRD HEV
          obtain ⟨rfl, rfl, rfl, rfl, rfl, rfl⟩ := HEV.out e rfl
          have HDL := Lib.hid (show done.length ≤ 1000000 by omega)
          have HRJ := Lib.hid (HJ2.out rfl)
          have HRB := Lib.hid (HCL.out.2.2 rfl)
          clear HJ2 HCL HEV HV
          go_wp2_with (first
            | (refine store_ev (g := w2.heap.size) (d := e.doo) (who := e.who) (n := e.n) (t := bT e.text) (v := bT e.val) (o' := bT e.to_) (heap_alloc_new _ _) rfl rfl (.tmp 8) (.tmp 21) rfl rfl rfl rfl ?_; intro wA hbA hkA)
            | (at_builtin; refine app_one evL_ evL_len evL_one Tryd.underlying29 infoEv3 rfl (by omega) rfl _ _ rfl _ o done e rfl ⟨wA.heap.size, 0, none⟩ 1 rfl ?c1 ?c2 (by have := HDL.out; omega) (by have := HDL.out; omega) ?_)
            | (refine load_ev (g := w2.heap.size) hbA (.tmp 8) rfl ?_ rfl ?_; (go_simp); unfold evC))
          case c1 => exact cells_new _ _ rfl _ _ _ rfl
          all_goals have HKA := Lib.hid (show Kp No wr wA from HK2.out.trans (S' := One w2.heap.size) (Kp.then_ ((Kp.refl _ _).alloc _) hkA) (fun i hi e => by have := HK2.out.size; simp only [One] at e; omega))
          case c2 => exact HO.out.kpNo (HKA.out.alloc _)
          intro v1 w3 o1 hr1 hn1 hk1
          have HR1 := Lib.hid hr1
          have HN1 := Lib.hid (Nxt.of_le (w := wr) hn1 (by have := HKA.out.size; simp; omega))
          have HK1 := Lib.hid (show Kp No w w3 from (HK.out.thenNo (HKA.out.alloc _)).trans hk1 (fun i hi e => by have := HY.out _ e; omega))
          clear hr1 hn1 hk1 hkA hbA
          go_wp2_with fail
          go_roundg r.length
          case measure => have := HRB.out; exact this
          case rel =>
            refine ⟨r, rfl, by rw [HR2.out], done ++ [e], o1, j', HRJ.out, ?_, HR1.out, HK1.out, ?_, ?_⟩
            · rw [HRD.out]
              cases Tl.readK j' r with
              | none => rfl
              | some x => simp
            · intro y hy
              have := HK.out.size
              rcases HN1.out with rfl | ⟨y', rfl, hy'⟩
              · exact HY.out _ hy
              · injection hy with hy; omega
            · have := HRB.out
              simp only [List.length_append, List.length_cons, List.length_nil] at this ⊢
              omega

end Go.Proofs.YtekgojolfckiiaaDoor
