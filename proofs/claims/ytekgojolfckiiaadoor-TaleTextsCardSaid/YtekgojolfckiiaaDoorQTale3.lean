/- tale.unbytes, tale.number. -/
import Derived.Test.YtekgojolfckiiaaDoorQTale2
import Derived.Lib.AtoiBound
set_option linter.unusedVariables false
set_option linter.unusedSimpArgs false
namespace Go.Proofs.YtekgojolfckiiaaDoor
open Go.RowKit

def RetSB (w : World) (r : Option (List UInt8)) (en : Ending) (w' : World) : Prop := Kp No w w' ∧ en = .returned (.tuple #[.string (bT (r.getD [])), .bool r.isSome])
theorem idx_c (c : UInt8) (w : World) : Calls Tryd.prog 38 #[.string ⟨#[48, 49, 50, 51, 52, 53, 54, 55, 56, 57, 97, 98, 99, 100, 101, 102]⟩, .int .u8 (c.toNat : Int)] w fun e w' => e = .returned (.int .i64 (Lib.indexByte Tl.hexD c)) ∧ w' = w := by
  refine (Tryd.strings_IndexByte ⟨#[48, 49, 50, 51, 52, 53, 54, 55, 56, 57, 97, 98, 99, 100, 101, 102]⟩ (c.toNat : Int) w).mono ?_
  rintro e w' ⟨rfl, rfl⟩
  refine ⟨?_, rfl⟩
  rw [Int.toNat_natCast, show c.toNat.toUInt8 = c from by simp]
  rfl
theorem idx_bound (c : UInt8) : -1 ≤ Lib.indexByte Tl.hexD c ∧ Lib.indexByte Tl.hexD c < 16 := by
  refine ⟨Lib.indexByte_ge _ _, ?_⟩
  by_cases h : Lib.indexByte Tl.hexD c < 0
  · omega
  · have := (Tl.hexD_inv c h).1
    omega
theorem unhexL_no {l : List UInt8} (h : l.length % 2 = 0 ∨ l.head? ≠ some 46) : Tl.unhexL l = none := by
  unfold Tl.unhexL
  rcases h with h | h
  · rw [if_pos h]
  · split
    · rfl
    · split
      · exact absurd rfl h
      · rfl
set_option maxHeartbeats 1000000 in
theorem unbytes_no (l : List UInt8) (w : World) (hl : l.length ≤ 1000000) (h : l.length % 2 = 0 ∨ l.head? ≠ some 46) : Calls Tryd.prog 31 #[.string (bT l)] w (RetSB w (Tl.unhexL l)) := by
  have HN := Lib.hid (unhexL_no h)
  have hsz := bT_size l
  by_cases h2 : l.length % 2 = 0
  · have hz : (bT l).size ≤ 1000000 := by omega
    have h2' : (((bT l).size : Int) % 2 == 0) = true := by rw [beq_iff_eq]; omega
    generalize bT l = T at *
    clear hsz
    go_enter Tryd.func31, Tryd.ntmps31
    go_wp2_with fail
    go_ret2
    exact ⟨Kp.refl _ _, by rw [HN.out]; rfl⟩
  · have hz : (bT l).size ≤ 1000000 := by omega
    have h2' : (((bT l).size : Int) % 2 == 0) = false := by rw [beq_eq_false_iff_ne]; omega
    have h0 : 0 < (bT l).size := by omega
    have hne : (((bT l)[0].toNat : Int) != 46) = true := by
      have h3 := h.resolve_left h2
      rw [bne_iff_ne]
      intro e
      apply h3
      rw [List.head?_eq_getElem?, List.getElem?_eq_getElem (by omega)]
      have e2 : l[0].toNat = 46 := by have : ((l[0].toNat : Nat) : Int) = 46 := e; omega
      congr 1
      exact UInt8.toNat_inj.1 e2
    generalize bT l = T at *
    clear hsz
    go_enter Tryd.func31, Tryd.ntmps31
    go_wp2_with fail
    go_ret2
    exact ⟨Kp.refl _ _, by rw [HN.out]; rfl⟩

theorem wraps_i64' (n : Int) (h₀ : 0 ≤ n) (h₁ : n < 2 ^ 8) : IntKind.i64.wrap n = n := by rw [IntKind.wrap_i64]; omega
theorem or16 (x y : Nat) (hx : x < 16) (hy : y < 16) : bits .or .i64 ((x : Int) * 16) (y : Int) = (x : Int) * 16 + y := by
  have h := (bits_nat .i64 8 (by decide) wraps_i64' (x * 16) y (by omega) (by omega)).2
  rw [show x * 16 = x <<< 4 from by rw [Nat.shiftLeft_eq], ← Nat.shiftLeft_add_eq_or_of_lt (by omega), Nat.shiftLeft_eq] at h
  simpa using h
theorem nib_bv (x y : Nat) (hx : x < 16) (hy : y < 16) : bv (UInt8.ofNat (x * 16 + y)) = .int .u8 ((x : Int) * 16 + y) := by
  unfold bv
  rw [UInt8.toNat_ofNat_of_lt' (by simp [UInt8.size]; omega)]
  simp
theorem bT_drop (l : List UInt8) (k : Nat) : (bT l).extract k (bT l).size = bT (l.drop k) := by
  have h := Lib.extract_to_end (bT l) k
  rw [bT_list] at h
  rw [← bT_data ((bT l).extract k (bT l).size), h]
def UnRel (w : World) (l' rest : List UInt8) (v : Value) (wr : World) : Prop := ∃ done o, Tl.unhexP l' = (Tl.unhexP rest).map (done ++ ·) ∧ OwnR 5 1 bvC wr v o done ∧ Kp No w wr ∧ (∀ y, o = some y → w.heap.size ≤ y) ∧ done.length + rest.length ≤ l'.length
set_option maxRecDepth 100000 in
set_option maxHeartbeats 1000000 in
theorem unbytes_yes (l : List UInt8) (w : World) (hl : l.length ≤ 1000000) (h : (46 :: l).length % 2 = 1) : Calls Tryd.prog 31 #[.string (bT (46 :: l))] w (RetSB w (Tl.unhexL (46 :: l))) := by
  have HN := Lib.hid (show Tl.unhexL (46 :: l) = Tl.unhexP l by unfold Tl.unhexL; rw [if_neg (by omega)]; rfl)
  have hz := bT_size (46 :: l)
  simp only [List.length_cons] at h hz
  have h2' : (((bT (46 :: l)).size : Int) % 2 == 0) = false := by rw [beq_eq_false_iff_ne]; omega
  have h0 : 0 < (bT (46 :: l)).size := by omega
  have h1 : 1 ≤ (bT (46 :: l)).size := by omega
  have hbig : (bT (46 :: l)).size ≤ 1000001 := by omega
  have hne : (((bT (46 :: l))[0].toNat : Int) != 46) = false := by
    rw [bne_eq_false_iff_eq]
    rfl
  have HD := Lib.hid (bT_drop (46 :: l) 1)
  rw [List.drop_one, List.tail_cons] at HD
  generalize bT (46 :: l) = T at *
  clear hz
  go_enter Tryd.func31, Tryd.ntmps31
  go_wp2_with fail
  go_loopg [0, 4] (l.length) (fun g t v wr => ∃ rest, g = rest.length ∧ rest.length % 2 = 0 ∧ t = .string (bT rest) ∧ UnRel w l rest v wr)
  case atStart => exact ⟨l, rfl, by omega, by rw [← HD.out], [], none, by simp, OwnR.nil _ _ _ _, Kp.refl _ _, by simp, by simp⟩
  case round =>
    obtain ⟨rest, rfl, hev, rfl, done, o, hun, ho, hk, hoy, hlen⟩ := hrel
    have HU := Lib.hid hun
    have HO := Lib.hid ho
    have HK := Lib.hid hk
    have HY := Lib.hid hoy
    obtain ⟨A, n, c, rfl⟩ := ho.form
    clear hun ho hk hoy
    rcases rest with _ | ⟨a, _ | ⟨b, r⟩⟩
    · have hu := HU.out
      rw [Tl.unhexP] at hu
      simp only [Option.map_some, List.append_nil] at hu
      have hcv := conv_own HO.out.ownB
      have hemp : (bT []).toList = [] := by rw [toList_data, bT_list]
      have HS := Lib.hid (show RetSB w (Tl.unhexL (46 :: l)) (.returned (.tuple #[.string ⟨done.toArray⟩, .bool true])) wr from ⟨HK.out, by rw [HN.out, hu]; rfl⟩)
      generalize (⟨done.toArray⟩ : ByteArray) = TD at hcv HS
      generalize bT [] = T0 at *
      clear hu
      go_wp2_with fail
      go_ret2
      exact HS.out
    · simp at hev
    · have HD2 := Lib.hid (bT_drop (a :: b :: r) 2)
      have hz2 := bT_size (a :: b :: r)
      simp only [List.length_cons] at hz2 hlen
      have hlt0 : 0 < (bT (a :: b :: r)).size := by omega
      have hlt1 : 1 < (bT (a :: b :: r)).size := by omega
      have hle2 : 2 ≤ (bT (a :: b :: r)).size := by omega
      have hsz2 : (bT (a :: b :: r)).size ≤ 1000001 := by omega
      have hemp : (bT (a :: b :: r)).toList = a :: b :: r := by rw [toList_data, bT_list]
      have hb0 : (bT (a :: b :: r))[0] = a := rfl
      have hb1 : (bT (a :: b :: r))[1] = b := rfl
      generalize bT (a :: b :: r) = T2 at *
      clear hz2
      go_wp2_with fail
      have HA := Lib.hid fun W => idx_c a W
      have HB := Lib.hid fun W => idx_c b W
      have hxa := idx_bound a
      have hxb := idx_bound b
      have HU2 := Lib.hid (show Tl.unhexP (a :: b :: r) = if Lib.indexByte Tl.hexD a < 0 ∨ Lib.indexByte Tl.hexD b < 0 then none else (Tl.unhexP r).map (UInt8.ofNat ((Lib.indexByte Tl.hexD a).toNat * 16 + (Lib.indexByte Tl.hexD b).toNat) :: ·) from rfl)
      generalize Lib.indexByte Tl.hexD a = xa at *
      generalize Lib.indexByte Tl.hexD b = xb at *
      obtain ⟨hxa1, hxa2⟩ := hxa
      obtain ⟨hxb1, hxb2⟩ := hxb
      go_quiet ((first | (go_at_call 38; exact Calls.quiet_of_same (HA.out _)) | (go_at_call 38; exact Calls.quiet_of_same (HB.out _))))
      by_cases hbad : xa < 0 ∨ xb < 0
      · have HRS := Lib.hid (show RetSB w (Tl.unhexL (46 :: l)) (.returned (.tuple #[.string ⟨#[]⟩, .bool false])) (wr.drewN nq) from ⟨HK.out.drewN _, by rw [HN.out, HU.out, HU2.out, if_pos hbad]; rfl⟩)
        have hbad2 : xa < 0 ∨ (0 ≤ xa ∧ xb < 0) := by omega
        clear hbad HA HB
        rcases hbad2 with hx | ⟨hx, hy⟩
        all_goals
          go_wp2_with fail
          go_ret2
          exact HRS.out
      · have hxa3 : 0 ≤ xa := by omega
        have hxb3 : 0 ≤ xb := by omega
        have HU3 := Lib.hid (show Tl.unhexP (a :: b :: r) = (Tl.unhexP r).map (UInt8.ofNat (xa.toNat * 16 + xb.toNat) :: ·) by rw [HU2.out, if_neg hbad])
        clear hbad HA HB HU2
        obtain ⟨na, rfl⟩ := Int.eq_ofNat_of_zero_le hxa3
        obtain ⟨nb, rfl⟩ := Int.eq_ofNat_of_zero_le hxb3
        have hna : na < 16 := by omega
        have hnb : nb < 16 := by omega
        have hor := or16 na nb hna hnb
        have hor2 : ((na : Int) * 16 + nb) % 256 = (na : Int) * 16 + nb := by omega
        obtain ⟨qb, hqb⟩ : ∃ qb, UInt8.ofNat (na * 16 + nb) = qb := ⟨_, rfl⟩
        have HQV := Lib.hid (show bv qb = .int .u8 ((na : Int) * 16 + nb) by rw [← hqb]; exact nib_bv na nb hna hnb)
        have HQB := Lib.hid hqb
        clear hqb
        have HDL := Lib.hid (show done.length ≤ 1000000 by omega)
        go_wp2_with (at_builtin; refine app_one bvC bvC_len bvC_one Tryd.underlying44 infoU8' rfl (by omega) rfl _ _ rfl _ o done qb rfl ⟨wr.heap.size, 0, none⟩ 1 rfl ?c1 ?c2 (by have := HDL.out; omega) (by have := HDL.out; omega) ?_)
        case c1 => exact cells_new _ _ rfl _ _ _ (by show [_] = [bv qb]; rw [HQV.out])
        case c2 => exact HO.out.kpNo (((Kp.refl _ _).drewN _).alloc _)
        intro v1 w1 o1 hr1 hn1 hk1
        have HR1 := Lib.hid hr1
        have HN1 := Lib.hid (Nxt.of_le (w := wr) hn1 (by simp))
        have HK1 := Lib.hid (show Kp No w w1 from HK.out.trans (S' := Own o) (Kp.then_ (((Kp.refl _ _).drewN nq).alloc _) hk1) (fun i hi e => by have := HY.out _ e; omega))
        clear hr1 hn1 hk1 hor hor2
        go_wp2_with fail
        go_roundg r.length
        case measure => simp; omega
        case rel =>
          refine ⟨r, rfl, by simp only [List.length_cons] at hev; omega, by rw [HD2.out]; rfl, done ++ [qb], o1, ?_, HR1.out, HK1.out, ?_, by simp; omega⟩
          · rw [HU.out, HU3.out, ← HQB.out]
            cases Tl.unhexP r with
            | none => rfl
            | some x => simp
          · intro y hy
            have := HK.out.size
            rcases HN1.out with rfl | ⟨y', rfl, hy'⟩
            · exact HY.out _ hy
            · injection hy with hy; omega

theorem unbytes_c (l : List UInt8) (w : World) (hl : l.length ≤ 1000000) : Calls Tryd.prog 31 #[.string (bT l)] w (RetSB w (Tl.unhexL l)) := by
  by_cases h : l.length % 2 = 0 ∨ l.head? ≠ some 46
  · exact unbytes_no l w hl h
  · cases l with
    | nil => exact absurd (.inl rfl) h
    | cons b r =>
      have hb : b = 46 := by
        by_cases hb : b = 46
        · exact hb
        · exact absurd (.inr (by simpa using hb)) h
      subst hb
      exact unbytes_yes r w (by simp only [List.length_cons] at hl; omega) (by omega)

/-! ### number -/
theorem grow_kp (w : World) (n : Nat) (os : Array Obj) : Kp No w (Sort.grow (w.drewN n) os) :=
  ⟨rfl, rfl, rfl, by simp [Sort.grow, World.drewN], fun k hk _ => by
    show ((w.drewN n).heap ++ os)[k]? = _
    rw [Array.getElem?_append_left (by exact hk)]; rfl⟩
def NumP (w : World) (r : Option Int) (en : Ending) (w' : World) : Prop := Kp No w w' ∧ ∃ n : Int, en = .returned (.tuple #[.int .i64 n, .bool r.isSome]) ∧ ∀ m, r = some m → n = m
set_option maxHeartbeats 1000000 in
theorem number_c (l : List UInt8) (w : World) (E : Env w) (hl : l.length ≤ 1000000) : Calls Tryd.prog 30 #[.string (bT l)] w (NumP w (Tl.numberL l)) := by
  have hsz := bT_size l
  have hbl := bT_list l
  have HE := Lib.hid E
  clear E
  by_cases h18 : 18 < l.length
  · have HN := Lib.hid (show Tl.numberL l = none by unfold Tl.numberL; rw [if_pos h18])
    have h1 : 18 < (bT l).size := by omega
    have h2 : (bT l).size ≤ 1000000 := by omega
    generalize bT l = T at *
    clear hsz hbl
    go_enter Tryd.func30, Tryd.ntmps30
    go_wp2_with fail
    go_ret2
    exact ⟨Kp.refl _ _, 0, by rw [HN.out]; rfl, by rw [HN.out]; simp⟩
  · have h1 : (bT l).size ≤ 18 := by omega
    cases ha : Lib.atoi l with
    | none =>
      have HN := Lib.hid (show Tl.numberL l = none by unfold Tl.numberL; rw [if_neg h18, ha])
      obtain ⟨tp, p, hv⟩ := HE.out.err
      have HA := Lib.hid (Tryd.strconv_Atoi_err_var (bT l) h1 (by rw [hbl]; exact ha) tp p w hv)
      generalize bT l = T at *
      clear hsz hbl hv ha
      go_enter Tryd.func30, Tryd.ntmps30
      go_wp2_with fail
      refine HA.out.mono ?_
      rintro e w1 ⟨Nb, rfl, _, _, hb⟩
      have HK := Lib.hid (Kp.ofBelow (S := No) hb)
      clear hb
      go_wp2_with fail
      go_ret2
      exact ⟨HK.out, 0, by rw [HN.out]; rfl, by rw [HN.out]; simp⟩
    | some n =>
      have HA := Lib.hid (Tryd.strconv_Atoi (bT l) n h1 (by rw [hbl]; exact ha) w)
      have HNN := Lib.hid (show Tl.numberL l = if 0 ≤ n ∧ Lib.itoa n = l then some n else none by unfold Tl.numberL; rw [if_neg h18, ha])
      have hbn : -9223372036854775808 ≤ n ∧ n ≤ 9223372036854775807 := by
        have := Lib.atoi_bound ha (by omega)
        omega
      have hq := bT_eq (Lib.itoa n) l
      have HB := Lib.hid hbn
      clear hsz hbl ha
      by_cases hn : n < 0
      · have HR := Lib.hid (show Tl.numberL l = none by rw [HNN.out, if_neg]; rintro ⟨h, _⟩; omega)
        generalize bT l = T at *
        clear hq hbn
        go_enter Tryd.func30, Tryd.ntmps30
        go_wp2_with fail
        refine HA.out.mono ?_
        rintro e w1 ⟨rfl, t, rfl⟩
        go_wp2_with fail
        go_ret2
        exact ⟨bytes_kp w _ t, n, by rw [HR.out]; rfl, by rw [HR.out]; simp⟩
      · have hn0 : 0 ≤ n := by omega
        have HI := Lib.hid fun W (E : Env W) => Tryd.strconv_Itoa n hbn.1 hbn.2 W E.tab
        have HR := Lib.hid (show Tl.numberL l = if (Lib.itoa n == l) = true then some n else none by
          rw [HNN.out]
          by_cases h : Lib.itoa n = l
          · rw [if_pos ⟨hn0, h⟩, if_pos (by simpa using h)]
          · rw [if_neg (fun hh => h hh.2), if_neg (by simpa using h)])
        rw [show (⟨(Lib.itoa n).toArray⟩ : ByteArray) = bT (Lib.itoa n) from rfl] at HI
        generalize hqq : (Lib.itoa n == l) = q at hq HR
        generalize bT l = T at *
        generalize bT (Lib.itoa n) = T2 at *
        clear hbn HB hn HNN hqq
        go_enter Tryd.func30, Tryd.ntmps30
        go_wp2_with fail
        refine HA.out.mono ?_
        rintro e w1 ⟨rfl, t, rfl⟩
        have HK1 := Lib.hid (bytes_kp w 5 t)
        go_wp2_with fail
        refine (HI.out _ (HE.out.kp HK1.out)).mono ?_
        rintro e w2 ⟨rfl, k, os, rfl⟩
        have HK2 := Lib.hid (HK1.out.thenNo (grow_kp _ k os))
        cases q
        all_goals
          go_wp2_with fail
          go_ret2
          refine ⟨HK2.out, n, by rw [HR.out]; rfl, by rw [HR.out]; simp⟩

end Go.Proofs.YtekgojolfckiiaaDoor
