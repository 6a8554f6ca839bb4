/- The plain law of scripts: what their texts are, and how they are read. No program in sight. -/
import Derived.Lib.ItoaMem
import Derived.Lib.AtoiTie
import Derived.Lib.Split
import Derived.Lib.Join
import Derived.Lib.IndexBytes
set_option linter.unusedVariables false
set_option linter.unusedSimpArgs false
namespace Go.Proofs.YtekgojolfckiiaaDoor.Tl
open Go.Lib

/-- An event. -/
structure Ev where
  doo : Int
  who : Int
  n : Int
  text : List UInt8
  val : List UInt8
  to_ : List UInt8
def wordsL : List (List UInt8) := [[], [100, 101, 108, 105, 118, 101, 114], [108, 111, 115, 101], [99, 111, 112, 121], [116, 105, 99, 107], [99, 114, 97, 115, 104], [115, 116, 97, 114, 116], [112, 117, 116], [100, 101, 108, 101, 116, 101], [103, 101, 116], [112, 97, 103, 101], [115, 112, 108, 105, 116], [109, 101, 114, 103, 101], [109, 111, 118, 101]]
def wordL (d : Int) : List UInt8 := if 1 ≤ d ∧ d ≤ 13 then wordsL.getD d.toNat [] else []
def doL (s : List UInt8) : Nat := ((List.range 14).drop 1).find? (fun n => wordsL.getD n [] == s) |>.getD 0
def hexD : List UInt8 := [48, 49, 50, 51, 52, 53, 54, 55, 56, 57, 97, 98, 99, 100, 101, 102]
def hexL (l : List UInt8) : List UInt8 := 46 :: l.flatMap fun b => [hexD.getD (b.toNat / 16) 0, hexD.getD (b.toNat % 16) 0]
def unhexP : List UInt8 → Option (List UInt8)
  | [] => some []
  | [_] => none
  | a :: b :: r => if indexByte hexD a < 0 ∨ indexByte hexD b < 0 then none else (unhexP r).map (UInt8.ofNat ((indexByte hexD a).toNat * 16 + (indexByte hexD b).toNat) :: ·)
def unhexL (l : List UInt8) : Option (List UInt8) := if l.length % 2 = 0 then none else match l with
  | 46 :: r => unhexP r
  | _ => none
def numberL (l : List UInt8) : Option Int := if 18 < l.length then none else match atoi l with
  | none => none
  | some n => if 0 ≤ n ∧ itoa n = l then some n else none
def lineL (e : Ev) : List UInt8 := join [wordL e.doo, itoa e.who, itoa e.n, hexL e.text, hexL e.val, hexL e.to_] [32] ++ [10]
def okE (e : Ev) : Bool := !(wordL e.doo).isEmpty && decide (0 ≤ e.who) && decide (0 ≤ e.n)
def textL (es : List Ev) : List UInt8 := (es.filter okE).flatMap lineL
/-- The event that six fields make. -/
def evF (a b c d e f : List UInt8) : Option Ev := if doL a = 0 then none else
  match numberL b, numberL c, unhexL d, unhexL e, unhexL f with
  | some who, some n, some t, some v, some o => some ⟨doL a, who, n, t, v, o⟩
  | _, _, _, _, _ => none
def evL (line : List UInt8) : Option Ev := match split line [32] with
  | [a, b, c, d, e, f] => evF a b c d e f
  | _ => none
/-- The events of a text; fuel: its length. -/
def readK : Nat → List UInt8 → Option (List Ev)
  | _, [] => some []
  | 0, _ :: _ => none
  | k + 1, s@(_ :: _) => match cut s [10] with
    | (line, rest, ok) => if ok then match evL line with
      | some e => (readK k rest).map (e :: ·)
      | none => none
    else none
def readL (s : List UInt8) : Option (List Ev) := readK s.length s

/-! ### Words -/
theorem word_do : ∀ d : Fin 14, 1 ≤ d.val → doL (wordsL.getD d.val []) = d.val := by decide
theorem words_plain : ∀ d : Fin 14, ∀ b ∈ wordsL.getD d.val [], b ≠ 32 ∧ b ≠ 10 := by decide
theorem wordsL_ne : ∀ d : Fin 14, 1 ≤ d.val → wordsL.getD d.val [] ≠ [] := by decide
theorem wordL_plain (d : Int) : ∀ b ∈ wordL d, b ≠ 32 ∧ b ≠ 10 := by
  unfold wordL
  split
  · exact words_plain ⟨d.toNat, by omega⟩
  · intro b h; cases h
theorem doL_word (d : Int) (h : wordL d ≠ []) : (doL (wordL d) : Int) = d ∧ doL (wordL d) ≠ 0 := by
  unfold wordL at h ⊢
  split
  · rename_i hd
    have := word_do ⟨d.toNat, by omega⟩ (by simp; omega)
    simp only at this
    rw [this]
    omega
  · rename_i hd; rw [if_neg hd] at h; exact absurd rfl h
theorem doL_find (s : List UInt8) (h : doL s ≠ 0) : wordL (doL s) = s ∧ 1 ≤ doL s ∧ doL s ≤ 13 := by
  unfold doL at h ⊢
  cases hf : ((List.range 14).drop 1).find? (fun n => wordsL.getD n [] == s) with
  | none => rw [hf] at h; exact absurd rfl h
  | some n =>
    have h1 := List.find?_some hf
    have h2 : n ∈ (List.range 14).drop 1 := List.mem_of_find?_eq_some hf
    have h3 : 1 ≤ n ∧ n ≤ 13 := by
      have : ∀ n ∈ (List.range 14).drop 1, 1 ≤ n ∧ n ≤ 13 := by decide
      exact this n h2
    simp only [Option.getD_some]
    refine ⟨?_, h3⟩
    rw [wordL, if_pos (by omega)]
    simpa using h1

/-! ### Hexadecimal -/
theorem hexD_get : ∀ i : Fin 16, indexByte hexD (hexD.getD i.val 0) = (i.val : Int) ∧ hexD.getD i.val 0 ≠ 32 ∧ hexD.getD i.val 0 ≠ 10 := by decide
theorem hexD_inv (c : UInt8) (h : ¬ indexByte hexD c < 0) : (indexByte hexD c).toNat < 16 ∧ hexD.getD (indexByte hexD c).toNat 0 = c := by
  obtain ⟨o, ho⟩ := Int.eq_ofNat_of_zero_le (show 0 ≤ indexByte hexD c by omega)
  have h1 := (indexByte_some ho).1
  have h2 := (List.getElem?_eq_some_iff.1 h1).1
  rw [ho, Int.toNat_natCast]
  exact ⟨h2, by rw [List.getD_eq_getElem?_getD, h1]; rfl⟩
theorem unhexP_hex (l : List UInt8) : unhexP (l.flatMap fun b => [hexD.getD (b.toNat / 16) 0, hexD.getD (b.toNat % 16) 0]) = some l := by
  induction l with
  | nil => rfl
  | cons b l ih =>
    have hb := b.toNat_lt
    have h1 := (hexD_get ⟨b.toNat / 16, by omega⟩).1
    have h2 := (hexD_get ⟨b.toNat % 16, by omega⟩).1
    simp only at h1 h2
    rw [List.flatMap_cons]
    rw [show ∀ (x y : UInt8) (z : List UInt8), [x, y] ++ z = x :: y :: z from fun _ _ _ => rfl, unhexP, h1, h2, if_neg (by omega), ih]
    simp only [Int.toNat_natCast, Option.map_some]
    rw [show b.toNat / 16 * 16 + b.toNat % 16 = b.toNat by omega, UInt8.ofNat_toNat]
theorem hexL_len (l : List UInt8) : (hexL l).length = 1 + 2 * l.length := by
  have : (l.flatMap fun b => [hexD.getD (b.toNat / 16) 0, hexD.getD (b.toNat % 16) 0]).length = 2 * l.length := by
    induction l with
    | nil => rfl
    | cons b l ih => rw [List.flatMap_cons, List.length_append, ih, List.length_cons]; simp; omega
  rw [hexL, List.length_cons, this]; omega
theorem unhexL_hex (l : List UInt8) : unhexL (hexL l) = some l := by
  unfold unhexL
  rw [if_neg (by rw [hexL_len]; omega)]
  exact unhexP_hex l
theorem unhexP_inv : ∀ (l x : List UInt8), unhexP l = some x → (x.flatMap fun b => [hexD.getD (b.toNat / 16) 0, hexD.getD (b.toNat % 16) 0]) = l
  | [], x, h => by
    simp only [unhexP, Option.some.injEq] at h
    subst h; rfl
  | [_], x, h => by simp [unhexP] at h
  | a :: b :: r, x, h => by
    rw [unhexP] at h
    split at h
    · cases h
    · rename_i hn
      obtain ⟨y, hy, rfl⟩ := Option.map_eq_some_iff.1 h
      have ha := hexD_inv a (fun e => hn (.inl e))
      have hb := hexD_inv b (fun e => hn (.inr e))
      have e : (UInt8.ofNat ((indexByte hexD a).toNat * 16 + (indexByte hexD b).toNat)).toNat = (indexByte hexD a).toNat * 16 + (indexByte hexD b).toNat := UInt8.toNat_ofNat_of_lt' (by simp [UInt8.size]; omega)
      rw [List.flatMap_cons, unhexP_inv r y hy, e]
      rw [show ((indexByte hexD a).toNat * 16 + (indexByte hexD b).toNat) / 16 = (indexByte hexD a).toNat by omega, show ((indexByte hexD a).toNat * 16 + (indexByte hexD b).toNat) % 16 = (indexByte hexD b).toNat by omega, ha.2, hb.2]
      rfl
theorem unhexL_inv {l x : List UInt8} (h : unhexL l = some x) : hexL x = l := by
  unfold unhexL at h
  split at h
  · cases h
  · split at h
    · rename_i r _
      rw [hexL, unhexP_inv r x h]
    · cases h
theorem hexL_plain (l : List UInt8) : ∀ b ∈ hexL l, b ≠ 32 ∧ b ≠ 10 := by
  intro b hb
  rcases List.mem_cons.1 hb with rfl | hb
  · decide
  · obtain ⟨c, _, hc⟩ := List.mem_flatMap.1 hb
    have h0 := c.toNat_lt
    simp only [List.mem_cons, List.not_mem_nil, or_false] at hc
    rcases hc with rfl | rfl
    · exact (hexD_get ⟨c.toNat / 16, by omega⟩).2
    · exact (hexD_get ⟨c.toNat % 16, by omega⟩).2

/-! ### Numbers -/
theorem decFrom_append (r : List UInt8) : ∀ (l : List UInt8) (acc : Nat), decFrom acc (l ++ r) = (decFrom acc l).bind fun a => decFrom a r
  | [], acc => rfl
  | b :: l, acc => by
    rw [List.cons_append, decFrom, decFrom]
    cases digitVal b with
    | none => rfl
    | some d => exact decFrom_append r l _
theorem digit_of (d : Nat) (h : d < 10) : digitVal (UInt8.ofNat (48 + d)) = some d := by
  have e : (UInt8.ofNat (48 + d)).toNat = 48 + d := UInt8.toNat_ofNat_of_lt' (by simp [UInt8.size]; omega)
  unfold digitVal
  rw [e, if_pos (by omega)]
  congr 1
  omega
theorem decFrom_dec (u : Nat) : ∀ acc, decFrom acc (decDigits u) = some (acc * 10 ^ nDigits u + u) := by
  induction u using Nat.strongRecOn with
  | _ u ih =>
    intro acc
    by_cases h : u < 10
    · rw [decDigits, dif_pos h, nDigits_small h, decFrom, digit_of u h]
      simp [decFrom]
    · rw [decDigits, dif_neg h, nDigits_big h, decFrom_append, ih (u / 10) (by omega)]
      simp only [Option.bind_some, decFrom, digit_of (u % 10) (by omega)]
      congr 1
      rw [Nat.pow_succ, Nat.add_mul, Nat.mul_assoc]
      omega
theorem decDigits_digit (u : Nat) : ∀ b ∈ decDigits u, 48 ≤ b.toNat ∧ b.toNat ≤ 57 := by
  intro b hb
  obtain ⟨k, hk⟩ := List.getElem?_of_mem hb
  obtain ⟨d, hd⟩ := digit_of_decFrom _ 0 _ (decFrom_dec u 0) k b hk
  have := digitVal_eq hd
  omega
theorem decDigits_ne (u : Nat) : decDigits u ≠ [] := by
  intro h
  have := decDigits_length u
  have := nDigits_pos u
  rw [h] at *
  simp at *
  omega
theorem atoi_dec (u : Nat) : atoi (decDigits u) = some (u : Int) := by
  have hd := decDigits_digit u
  have hn := decFrom_dec u 0
  cases h : decDigits u with
  | nil => exact absurd h (decDigits_ne u)
  | cons b r =>
    rw [h] at hd hn
    have hb := hd b (by simp)
    have h1 : (b == 45) = false := by rw [beq_eq_false_iff_ne]; rintro rfl; simp at hb
    have h2 : (b == 43) = false := by rw [beq_eq_false_iff_ne]; rintro rfl; simp at hb
    rw [atoi, h1, h2]
    simp only [Bool.false_eq_true, if_false]
    rw [decNat, if_neg (by simp), hn]
    simp
theorem nDigits_le : ∀ (k u : Nat), u < 10 ^ (k + 1) → nDigits u ≤ k + 1
  | 0, u, h => by rw [nDigits_small (by omega)]; omega
  | k + 1, u, h => by
    by_cases h10 : u < 10
    · rw [nDigits_small h10]; omega
    · rw [nDigits_big h10]
      have := nDigits_le k (u / 10) (by rw [Nat.pow_succ] at h; omega)
      omega
theorem numberL_itoa (n : Int) (h0 : 0 ≤ n) (h1 : n < 1000000000000000000) : numberL (itoa n) = some n := by
  obtain ⟨u, rfl⟩ := Int.eq_ofNat_of_zero_le h0
  have hl : (decDigits u).length ≤ 18 := by
    rw [decDigits_length]
    exact nDigits_le 17 u (by have : (10 : Nat) ^ (17 + 1) = 1000000000000000000 := by decide
                              omega)
  unfold numberL
  rw [itoa_nonneg, if_neg (by omega), atoi_dec]
  simp only
  rw [if_pos ⟨by omega, itoa_nonneg u⟩]
theorem numberL_inv {l : List UInt8} {n : Int} (h : numberL l = some n) : 0 ≤ n ∧ itoa n = l := by
  unfold numberL at h
  split at h
  · cases h
  · split at h
    · cases h
    · split at h
      · rename_i hh
        injection h with h
        subst h
        exact hh
      · cases h
theorem numberL_lt {l : List UInt8} {n : Int} (h : numberL l = some n) : n < 1000000000000000000 := by
  obtain ⟨h0, h1⟩ := numberL_inv h
  obtain ⟨u, rfl⟩ := Int.eq_ofNat_of_zero_le h0
  unfold numberL at h
  split at h
  · cases h
  · rename_i hl
    rw [← h1, itoa_nonneg, decDigits_length] at hl
    have := lt_pow_nDigits u
    have h2 : 10 ^ nDigits u ≤ 10 ^ 18 := Nat.pow_le_pow_right (by omega) (by omega)
    have : (10 : Nat) ^ 18 = 1000000000000000000 := by decide
    omega
theorem itoa_plain (n : Int) : ∀ b ∈ itoa n, b ≠ 32 ∧ b ≠ 10 := by
  intro b hb
  unfold itoa at hb
  split at hb
  · rcases List.mem_cons.1 hb with rfl | hb
    · decide
    · have := decDigits_digit _ b hb
      constructor <;> (rintro rfl; simp at this)
  · have := decDigits_digit _ b hb
    constructor <;> (rintro rfl; simp at this)

/-! ### Fields and lines -/
theorem index_at {x r : List UInt8} {c : UInt8} (h : c ∉ x) : index (x ++ c :: r) [c] = x.length := by
  rw [index_one]
  rcases Int.lt_or_le (indexByte (x ++ c :: r) c) 0 with hlt | hge
  · have h1 : indexByte (x ++ c :: r) c = -1 := by have := indexByte_ge (x ++ c :: r) c; omega
    exact absurd (by simp) (indexByte_none h1 x.length)
  · obtain ⟨o, ho⟩ := Int.eq_ofNat_of_zero_le hge
    obtain ⟨h1, h2⟩ := indexByte_some ho
    rw [ho]
    congr 1
    rcases Nat.lt_trichotomy o x.length with hl | rfl | hl
    · rw [List.getElem?_append_left hl] at h1
      exact absurd (List.mem_of_getElem? h1) h
    · rfl
    · exact absurd (by simp) (h2 x.length hl)
theorem index_not {x : List UInt8} {c : UInt8} (h : c ∉ x) : index x [c] = -1 := by
  rw [index_one]
  rcases Int.lt_or_le (indexByte x c) 0 with hlt | hge
  · have := indexByte_ge x c; omega
  · obtain ⟨o, ho⟩ := Int.eq_ofNat_of_zero_le hge
    exact absurd (List.mem_of_getElem? (indexByte_some ho).1) h
theorem index_inv {s : List UInt8} {c : UInt8} {i : Nat} (h : index s [c] = i) : s = s.take i ++ c :: s.drop (i + 1) ∧ c ∉ s.take i := by
  rw [index_one] at h
  obtain ⟨h1, h2⟩ := indexByte_some h
  have hl := (List.getElem?_eq_some_iff.1 h1).1
  refine ⟨?_, ?_⟩
  · conv => lhs; rw [← List.take_append_drop i s]
    rw [List.drop_eq_getElem_cons hl, (List.getElem?_eq_some_iff.1 h1).2]
  · intro hm
    obtain ⟨k, hk⟩ := List.getElem?_of_mem hm
    rw [List.getElem?_take] at hk
    split at hk
    · rename_i hki; exact h2 k hki hk
    · cases hk
theorem split_step {x r : List UInt8} {c : UInt8} (h : c ∉ x) : split (x ++ c :: r) [c] = x :: split r [c] := by
  have hi := index_at (r := r) h
  have hd : (x ++ c :: r).drop (x.length + [c].length) = r := by simp
  unfold split
  rw [count_hit (by simp) hi, hd, Nat.add_comm, splitK, if_neg (by rw [hi]; simp), hi, Int.toNat_natCast, hd]
  simp
theorem split_last {x : List UInt8} {c : UInt8} (h : c ∉ x) : split x [c] = [x] := by
  unfold split
  rw [count_miss (index_not h)]
  rfl
theorem join_split (c : UInt8) : ∀ (k : Nat) (s : List UInt8), s.length ≤ k → join (split s [c]) [c] = s := by
  intro k
  induction k with
  | zero =>
    intro s hs
    obtain rfl : s = [] := List.eq_nil_of_length_eq_zero (by omega)
    rw [split_last (by simp), join_one]
  | succ k ih =>
    intro s hs
    rcases Int.lt_or_le (index s [c]) 0 with hlt | hge
    · have h1 : index s [c] = -1 := by have := index_ge s [c]; omega
      unfold split
      rw [count_miss h1]
      exact join_one _ _
    · obtain ⟨i, hi⟩ := Int.eq_ofNat_of_zero_le hge
      obtain ⟨h1, h2⟩ := index_inv hi
      have hr : (s.drop (i + 1)).length ≤ k := by
        have := congrArg List.length h1
        simp only [List.length_append, List.length_cons] at this
        omega
      have ihh := ih (s.drop (i + 1)) hr
      conv => lhs; rw [h1, split_step h2]
      conv => rhs; rw [h1]
      generalize hq : split (s.drop (i + 1)) [c] = q at ihh
      cases q with
      | nil =>
        have : (split (s.drop (i + 1)) [c]).length ≠ 0 := by
          unfold split
          cases count (s.drop (i + 1)) [c] with
          | zero => simp [splitK]
          | succ m => unfold splitK; split <;> simp
        rw [hq] at this
        simp at this
      | cons y ys =>
        rw [← ihh, join_cons, join_cons]
        simp [joinTail]

theorem cut_at {x r : List UInt8} (h : 10 ∉ x) : cut (x ++ 10 :: r) [10] = (x, r, true) := by
  have hi := index_at (r := r) h
  unfold cut
  rw [if_pos (by rw [hi]; omega), hi, Int.toNat_natCast]
  simp
theorem cut_not {x : List UInt8} (h : 10 ∉ x) : cut x [10] = (x, [], false) := by
  unfold cut
  rw [if_neg (by rw [index_not h]; omega)]
theorem cut_inv {s x r : List UInt8} (h : cut s [10] = (x, r, true)) : s = x ++ 10 :: r ∧ 10 ∉ x := by
  unfold cut at h
  split at h
  · rename_i hge
    obtain ⟨i, hi⟩ := Int.eq_ofNat_of_zero_le hge
    obtain ⟨h1, h2⟩ := index_inv hi
    rw [hi, Int.toNat_natCast] at h
    simp only [Prod.mk.injEq] at h
    obtain ⟨rfl, rfl, _⟩ := h
    exact ⟨h1, h2⟩
  · simp at h

/-! ### A line -/
/-- A line without its end. -/
def bodyL (e : Ev) : List UInt8 := join [wordL e.doo, itoa e.who, itoa e.n, hexL e.text, hexL e.val, hexL e.to_] [32]
theorem bodyL_eq (e : Ev) : bodyL e = wordL e.doo ++ 32 :: (itoa e.who ++ 32 :: (itoa e.n ++ 32 :: (hexL e.text ++ 32 :: (hexL e.val ++ 32 :: hexL e.to_)))) := by
  simp [bodyL, join_cons, joinTail]
theorem lineL_eq (e : Ev) : lineL e = bodyL e ++ [10] := rfl
theorem bodyL_plain (e : Ev) : 10 ∉ bodyL e := by
  rw [bodyL_eq]
  intro h
  simp only [List.mem_append, List.mem_cons] at h
  rcases h with h | h | h | h | h | h | h | h | h | h | h
  · exact (wordL_plain _ _ h).2 rfl
  · cases h
  · exact (itoa_plain _ _ h).2 rfl
  · cases h
  · exact (itoa_plain _ _ h).2 rfl
  · cases h
  · exact (hexL_plain _ _ h).2 rfl
  · cases h
  · exact (hexL_plain _ _ h).2 rfl
  · cases h
  · exact (hexL_plain _ _ h).2 rfl
theorem split_body (e : Ev) : split (bodyL e) [32] = [wordL e.doo, itoa e.who, itoa e.n, hexL e.text, hexL e.val, hexL e.to_] := by
  rw [bodyL_eq, split_step (fun h => (wordL_plain _ _ h).1 rfl), split_step (fun h => (itoa_plain _ _ h).1 rfl), split_step (fun h => (itoa_plain _ _ h).1 rfl), split_step (fun h => (hexL_plain _ _ h).1 rfl),
    split_step (fun h => (hexL_plain _ _ h).1 rfl), split_last (fun h => (hexL_plain _ _ h).1 rfl)]
/-- Numbers that may be read again. -/
def smallE (e : Ev) : Prop := e.who < 1000000000000000000 ∧ e.n < 1000000000000000000
theorem okE_iff (e : Ev) : okE e = true ↔ wordL e.doo ≠ [] ∧ 0 ≤ e.who ∧ 0 ≤ e.n := by
  simp [okE, and_assoc]
theorem evL_body (e : Ev) (h : okE e = true) (hs : smallE e) : evL (bodyL e) = some e := by
  obtain ⟨h1, h2, h3⟩ := (okE_iff e).1 h
  obtain ⟨d1, d2⟩ := doL_word _ h1
  unfold evL
  rw [split_body]
  simp only [evF]
  rw [if_neg d2, numberL_itoa _ h2 hs.1, numberL_itoa _ h3 hs.2, unhexL_hex, unhexL_hex, unhexL_hex]
  simp only [d1]
theorem evL_inv {line : List UInt8} {e : Ev} (h : evL line = some e) : bodyL e = line ∧ okE e = true ∧ smallE e := by
  unfold evL at h
  split at h
  · rename_i a b c d f g hsp
    unfold evF at h
    split at h
    · cases h
    · rename_i hdo
      split at h
      · rename_i who n t v o hb hc hd hf hg
        injection h with h
        subst h
        obtain ⟨w1, w2, w3⟩ := doL_find a hdo
        obtain ⟨b1, b2⟩ := numberL_inv hb
        obtain ⟨c1, c2⟩ := numberL_inv hc
        refine ⟨?_, (okE_iff _).2 ⟨?_, b1, c1⟩, numberL_lt hb, numberL_lt hc⟩
        · simp only [bodyL]
          rw [w1, b2, c2, unhexL_inv hd, unhexL_inv hf, unhexL_inv hg, ← hsp]
          exact join_split 32 _ _ (Nat.le_refl _)
        · simp only
          rw [wordL, if_pos (by omega)]
          exact wordsL_ne ⟨doL a, by omega⟩ w2
      · cases h
  · cases h

/-! ### A text -/
theorem readK_nil (k : Nat) : readK k [] = some [] := by cases k <;> rfl
theorem readK_line (k : Nat) {x r : List UInt8} (h : 10 ∉ x) : readK (k + 1) (x ++ 10 :: r) = match evL x with
    | some e => (readK k r).map (e :: ·)
    | none => none := by
  have hc := cut_at (r := r) h
  cases hx : x ++ 10 :: r with
  | nil => simp at hx
  | cons b t =>
    rw [readK, ← hx, hc]
    rfl
theorem readK_no (k : Nat) {x : List UInt8} (h : 10 ∉ x) (hx : x ≠ []) : readK k x = none := by
  cases x with
  | nil => exact absurd rfl hx
  | cons b t =>
    cases k with
    | zero => rfl
    | succ k =>
      rw [readK, cut_not h]
      rfl
theorem readK_text (es : List Ev) : ∀ k, (es.flatMap lineL).length ≤ k → (∀ e ∈ es, okE e = true ∧ smallE e) → readK k (es.flatMap lineL) = some es := by
  induction es with
  | nil => intro k _ _; exact readK_nil k
  | cons e es ih =>
    intro k hk h
    rw [List.flatMap_cons, lineL_eq, List.append_assoc, List.singleton_append] at hk ⊢
    simp only [List.length_append, List.length_cons] at hk
    obtain ⟨j, rfl⟩ : ∃ j, k = j + 1 := ⟨k - 1, by omega⟩
    rw [readK_line j (bodyL_plain e), evL_body e (h e (by simp)).1 (h e (by simp)).2]
    simp only
    rw [ih j (by omega) fun x hx => h x (by simp [hx])]
    rfl
theorem read_text (es : List Ev) (h : ∀ e ∈ es, smallE e) : readL (textL es) = some (es.filter okE) :=
  readK_text _ _ (Nat.le_refl _) fun e he => ⟨(List.mem_filter.1 he).2, h e (List.mem_filter.1 he).1⟩
theorem readK_inv : ∀ (k : Nat) (s : List UInt8) (es : List Ev), readK k s = some es → es.flatMap lineL = s ∧ ∀ e ∈ es, okE e = true := by
  intro k
  induction k with
  | zero =>
    intro s es h
    cases s with
    | nil => rw [readK_nil] at h; injection h with h; subst h; exact ⟨rfl, by simp⟩
    | cons b t => cases h
  | succ k ih =>
    intro s es h
    cases s with
    | nil => rw [readK_nil] at h; injection h with h; subst h; exact ⟨rfl, by simp⟩
    | cons b t =>
      rw [readK] at h
      obtain ⟨x, r, q, hc⟩ : ∃ x r q, cut (b :: t) [10] = (x, r, q) := ⟨_, _, _, rfl⟩
      rw [hc] at h
      simp only at h
      cases q with
      | false => cases h
      | true =>
        simp only [if_true] at h
        cases he : evL x with
        | none => rw [he] at h; cases h
        | some e =>
          rw [he] at h
          obtain ⟨es', h', rfl⟩ := Option.map_eq_some_iff.1 h
          obtain ⟨i1, i2⟩ := ih r es' h'
          obtain ⟨b1, b2, _⟩ := evL_inv he
          refine ⟨?_, ?_⟩
          · rw [List.flatMap_cons, lineL_eq, b1, i1, List.append_assoc, List.singleton_append]
            exact (cut_inv hc).1.symm
          · intro y hy
            rcases List.mem_cons.1 hy with rfl | hy
            · exact b2
            · exact i2 y hy
theorem text_read {s : List UInt8} {es : List Ev} (h : readL s = some es) : textL es = s := by
  obtain ⟨h1, h2⟩ := readK_inv _ _ _ h
  rw [textL, List.filter_eq_self.2 h2, h1]
/-- What is cut behind a line's end is a script, what is cut within a line is none. -/
theorem readK_cut (es : List Ev) : ∀ (j k : Nat), (∀ e ∈ es, okE e = true ∧ smallE e) → j ≤ (es.flatMap lineL).length → j ≤ k →
    (readK k ((es.flatMap lineL).take j)).isSome = (decide (j = 0) || ((es.flatMap lineL)[j - 1]? == some 10)) := by
  induction es with
  | nil =>
    intro j k _ hj _
    simp only [List.flatMap_nil, List.length_nil, Nat.le_zero] at hj
    subst hj
    simp [readK_nil]
  | cons e es ih =>
    intro j k h hj hk
    rw [List.flatMap_cons, lineL_eq, List.append_assoc, List.singleton_append] at hj ⊢
    by_cases h0 : j = 0
    · subst h0; simp [readK_nil]
    · by_cases hle : j ≤ (bodyL e).length
      · rw [List.take_append_of_le_length hle, readK_no k (fun hm => bodyL_plain e (List.mem_of_mem_take hm)) (by intro hm; have := congrArg List.length hm; simp only [List.length_take, List.length_nil] at this; omega), List.getElem?_append_left (by omega)]
        have hne : ((bodyL e)[j - 1]? == some 10) = false := by
          rw [beq_eq_false_iff_ne]
          exact fun hm => bodyL_plain e (List.mem_of_getElem? hm)
        rw [hne]
        simp [h0]
      · have htk : (bodyL e ++ 10 :: es.flatMap lineL).take j = bodyL e ++ 10 :: (es.flatMap lineL).take (j - (bodyL e).length - 1) := by
          obtain ⟨i, rfl⟩ : ∃ i, j = (bodyL e).length + (i + 1) := ⟨j - (bodyL e).length - 1, by omega⟩
          rw [List.take_length_add_append, List.take_succ_cons, show (bodyL e).length + (i + 1) - (bodyL e).length - 1 = i by omega]
        obtain ⟨m, rfl⟩ : ∃ m, k = m + 1 := ⟨k - 1, by omega⟩
        simp only [List.length_append, List.length_cons] at hj
        rw [htk, readK_line m (bodyL_plain e), evL_body e (h e (by simp)).1 (h e (by simp)).2]
        simp only [Option.isSome_map]
        rw [ih _ m (fun x hx => h x (by simp [hx])) (by omega) (by omega), List.getElem?_append_right (by omega)]
        by_cases h1 : j - (bodyL e).length - 1 = 0
        · rw [h1, show j - 1 - (bodyL e).length = 0 by omega]
          simp [h0]
        · obtain ⟨i, hi⟩ : ∃ i, j - 1 - (bodyL e).length = i + 1 := ⟨j - 1 - (bodyL e).length - 1, by omega⟩
          rw [hi, List.getElem?_cons_succ, show j - (bodyL e).length - 1 - 1 = i by omega]
          simp [h0, h1]
theorem read_cut (es : List Ev) (j : Nat) (h : ∀ e ∈ es, smallE e) (hj : j ≤ (textL es).length) : (readL ((textL es).take j)).isSome = (decide (j = 0) || ((textL es)[j - 1]? == some 10)) :=
  readK_cut _ _ _ (fun e he => ⟨(List.mem_filter.1 he).2, h e (List.mem_filter.1 he).1⟩) hj (by rw [List.length_take]; exact Nat.le_min.2 ⟨Nat.le_refl _, hj⟩)
theorem textL_append (a b : List Ev) : textL (a ++ b) = textL a ++ textL b := by simp [textL]

end Go.Proofs.YtekgojolfckiiaaDoor.Tl
