/- tale.word, do, number, bytes, unbytes. -/
import Derived.Test.YtekgojolfckiiaaDoorQOwn
import Derived.Test.YtekgojolfckiiaaDoorQTalePure
import Derived.Test.YtekgojolfckiiaaDoorQTaleShelf
set_option linter.unusedVariables false
set_option linter.unusedSimpArgs false
namespace Go.Proofs.YtekgojolfckiiaaDoor
open Go.RowKit

def bT (bs : List UInt8) : ByteArray := ⟨bs.toArray⟩
theorem bT_size (bs : List UInt8) : (bT bs).size = bs.length := by simp [bT, ByteArray.size]
theorem bT_list (bs : List UInt8) : (bT bs).data.toList = bs := by simp [bT]
theorem bT_data (s : ByteArray) : bT s.data.toList = s := by simp [bT]
theorem loop_toList (s : ByteArray) : ∀ (k i : Nat) (acc : List UInt8), s.size - i = k → ByteArray.toList.loop s i acc = acc.reverse ++ s.data.toList.drop i := by
  intro k
  induction k with
  | zero =>
    intro i acc h
    have hs : s.data.toList.length = s.size := size_data s
    rw [ByteArray.toList.loop, if_neg (by omega), List.drop_of_length_le (by omega)]
    simp
  | succ k ih =>
    intro i acc h
    have hs : s.data.toList.length = s.size := size_data s
    rw [ByteArray.toList.loop, if_pos (by omega), ih _ _ (by omega), List.drop_eq_getElem_cons (i := i) (by omega)]
    have e : s.get! i = s.data.toList[i]'(by omega) := by
      show s.data[i]! = _
      rw [getElem!_pos s.data i (by rw [← Array.length_toList]; omega)]
      simp
    rw [e]
    simp
theorem toList_data (s : ByteArray) : s.toList = s.data.toList := by
  unfold ByteArray.toList
  rw [loop_toList s _ 0 [] rfl]
  simp
theorem bT_eq (a b : List UInt8) : ((bT a).toList == (bT b).toList) = (a == b) := by
  rw [toList_data, toList_data, bT_list, bT_list]

/-- What the library reads of its own. -/
structure Env (w : World) : Prop where
  tab : Lib.TabIs Tryd.prog w "internal/strconv.uint64pow10" .u64 Lib.pow10Tab
  err : ∃ tp p, w.var? Tryd.prog "strconv.ErrSyntax" = some #[.iface tp p]
  len : ∃ m : Int, w.cell? ⟨0, 0, none⟩ = some (.int .i64 m)
theorem var_kp {w w' : World} (k : Kp No w w') {n : String} {cs : Array Value} (h : w.var? Tryd.prog n = some cs) : w'.var? Tryd.prog n = some cs := by
  unfold World.var? at h ⊢
  obtain ⟨g, hg, h2⟩ := Option.bind_eq_some_iff.1 h
  rw [hg]
  simp only [Option.bind_some]
  cases hh : w.heap[g]? with
  | none => rw [hh] at h2; cases h2
  | some o =>
    rw [k.block g (Array.getElem?_eq_some_iff.1 hh).1 (not_No _), hh]
    rw [hh] at h2
    exact h2
theorem Env.kp {w w' : World} (h : Env w) (k : Kp No w w') : Env w' := by
  obtain ⟨tp, p, he⟩ := h.err
  obtain ⟨m, hm⟩ := h.len
  exact ⟨var_kp k h.tab, ⟨tp, p, var_kp k he⟩, ⟨m, (k.cell 0 0 (World.block_lt_of_cell? _ _ hm) (not_No _)).trans hm⟩⟩

/-! ### word -/
def RetS (w : World) (bs : List UInt8) (en : Ending) (w' : World) : Prop := en = .returned (.string (bT bs)) ∧ Kp No w w'
theorem word_c (d : Int) (w : World) : Calls Tryd.prog 15 #[.int .i64 d] w fun e w' => e = .returned (.string (bT (Tl.wordL d))) ∧ w' = w := by
  by_cases h : 1 ≤ d ∧ d ≤ 13
  · have hd : d = 1 ∨ d = 2 ∨ d = 3 ∨ d = 4 ∨ d = 5 ∨ d = 6 ∨ d = 7 ∨ d = 8 ∨ d = 9 ∨ d = 10 ∨ d = 11 ∨ d = 12 ∨ d = 13 := by omega
    clear h
    rcases hd with rfl | rfl | rfl | rfl | rfl | rfl | rfl | rfl | rfl | rfl | rfl | rfl | rfl
    all_goals
      go_enter Tryd.func15, Tryd.ntmps15
      go_wp2
      go_ret
      exact ⟨rfl, rfl⟩
  · have e1 : (d == 1) = false := by simp; omega
    have e2 : (d == 2) = false := by simp; omega
    have e3 : (d == 3) = false := by simp; omega
    have e4 : (d == 4) = false := by simp; omega
    have e5 : (d == 5) = false := by simp; omega
    have e6 : (d == 6) = false := by simp; omega
    have e7 : (d == 7) = false := by simp; omega
    have e8 : (d == 8) = false := by simp; omega
    have e9 : (d == 9) = false := by simp; omega
    have e10 : (d == 10) = false := by simp; omega
    have e11 : (d == 11) = false := by simp; omega
    have e12 : (d == 12) = false := by simp; omega
    have e13 : (d == 13) = false := by simp; omega
    have HE := Lib.hid (show Tl.wordL d = [] from if_neg h)
    clear h
    go_enter Tryd.func15, Tryd.ntmps15
    go_wp2
    go_ret
    exact ⟨by rw [HE.out]; rfl, rfl⟩

/-! ### do -/
theorem do_none {s : List UInt8} (h : ∀ j : Nat, 1 ≤ j → j ≤ 13 → Tl.wordL (j : Int) ≠ s) : Tl.doL s = 0 := by
  by_cases hd : Tl.doL s = 0
  · exact hd
  · obtain ⟨h1, h2, h3⟩ := Tl.doL_find s hd
    exact absurd h1 (h _ h2 h3)
theorem do_some {k : Nat} (h1 : 1 ≤ k) (h2 : k ≤ 13) : Tl.doL (Tl.wordL (k : Int)) = k := by
  have hw : Tl.wordL (k : Int) ≠ [] := by
    rw [Tl.wordL, if_pos (by omega)]
    exact Tl.wordsL_ne ⟨k, by omega⟩ h1
  have := (Tl.doL_word _ hw).1
  omega
theorem do_c (s : List UInt8) (w : World) : Calls Tryd.prog 29 #[.string (bT s)] w fun e w' => e = .returned (.int .i64 (Tl.doL s : Int)) ∧ w' = w := by
  generalize hT : bT s = T
  have HT := Lib.hid hT
  clear hT
  go_enter Tryd.func29, Tryd.ntmps29
  go_wp2_with fail
  go_loop [3] (fun n => ∃ k : Nat, 1 ≤ k ∧ k ≤ 14 ∧ n = .int .i64 k ∧ Hid (∀ j : Nat, 1 ≤ j → j < k → Tl.wordL (j : Int) ≠ s)) (fun n => 14 - (intOf n).toNat)
  case atStart => exact ⟨1, by omega, by omega, rfl, Lib.hid fun j h1 h2 => by omega⟩
  case round =>
    obtain ⟨k, hk1, hk2, rfl, HJ⟩ := hrel
    by_cases hle : k ≤ 13
    · have HW := Lib.hid (word_c (k : Int) w)
      have HD := Lib.hid (do_some hk1 hle)
      have HE := Lib.hid (bT_eq (Tl.wordL (k : Int)) s)
      rw [HT.out] at HE
      cases hq : Tl.wordL (k : Int) == s
      · rw [hq] at HE
        have HQ := Lib.hid hq
        generalize bT (Tl.wordL (k : Int)) = T2 at HW HE
        have he := HE.out
        clear hq HE
        go_wp2_with (go_at_call 15; refine HW.out.mono ?_; rintro e w' ⟨rfl, rfl⟩)
        go_round
        case rel => exact ⟨k + 1, by omega, by omega, by go_num, Lib.hid fun j h1 h2 => by
          by_cases hj : j = k
          · subst hj; exact by simpa using HQ.out
          · exact HJ.out j h1 (by omega)⟩
        case measure => simp [intOf]; omega
      · rw [hq] at HE
        have HQ := Lib.hid hq
        generalize bT (Tl.wordL (k : Int)) = T2 at HW HE
        have he := HE.out
        clear hq HE
        go_wp2_with (go_at_call 15; refine HW.out.mono ?_; rintro e w' ⟨rfl, rfl⟩)
        go_ret
        exact ⟨by have h := HD.out; rw [show Tl.wordL (k : Int) = s by simpa using HQ.out] at h; rw [h]; rfl, rfl⟩
    · have HZ := Lib.hid (do_none fun j h1 h2 => HJ.out j h1 (by omega))
      have hk : ¬ (k : Int) ≤ 13 := by omega
      go_wp2_with fail
      go_ret
      exact ⟨by rw [HZ.out]; rfl, rfl⟩

end Go.Proofs.YtekgojolfckiiaaDoor
