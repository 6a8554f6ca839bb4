/- Small functions of note and span. -/
import Derived.Test.YtakhkjidcnahjaaQPReply
set_option linter.unusedVariables false
set_option linter.unusedSimpArgs false
namespace Go.Proofs.Ytakhkjidcnahjaa
open Go.RowKit

theorem ret_bool {a b : Bool} (h : a = b) : Ending.returned (.bool a) = .returned (.bool b) := by rw [h]
/-- A bool is answered; the world is as it was. -/
def RetB (w : World) (b : Bool) (e : Ending) (w' : World) : Prop := e = .returned (.bool b) ∧ w' = w
/-- A bool is answered; nothing old is turned. -/
def RetK (w : World) (b : Bool) (e : Ending) (w' : World) : Prop := e = .returned (.bool b) ∧ Kp No w w'

def partyS (n : Int) : Bool := decide (0 ≤ n) && decide (n ≤ 5) || decide (100 ≤ n) && decide (n < 104)
theorem party_c (n : Int) (w : World) : Calls Try.prog 20 #[.int .i64 n] w (RetB w (partyS n)) := by
  go_enter Try.func20, Try.ntmps20
  go_wp2
  all_goals go_ret
  all_goals refine ⟨ret_bool ?_, rfl⟩
  all_goals (simp [partyS, *] <;> omega)

def numberS (n : Int) : Bool := decide (0 ≤ n) && decide (n ≤ 268435455)
theorem number_c (n : Int) (w : World) : Calls Try.prog 21 #[.int .i64 n] w (RetB w (numberS n)) := by
  go_enter Try.func21, Try.ntmps21
  go_wp2
  all_goals go_ret
  all_goals refine ⟨ret_bool ?_, rfl⟩
  all_goals (simp [numberS, *] <;> omega)

def noReplyS (r : Reply) : Bool := r.client == 0 && r.seq == 0 && r.err == 0 && !r.found && r.val.toList == [] && r.l.length == 0 && r.next.toList == [] && !r.more
theorem noReply_c (a b c : Int) (f : Bool) (v : ByteArray) (l : List Rec) (A : Option Addr) (cap : Nat) (x : ByteArray) (m : Bool) (w : World) :
    Calls Try.prog 43 #[.agg #[.int .i64 a, .int .i64 b, .int .i64 c, .bool f, .string v, .slice A l.length cap, .string x, .bool m]] w (RetK w (noReplyS ⟨a, b, c, f, v, l, x, m⟩)) := by
  generalize hn : l.length = n
  have HN := Lib.hid hn
  clear hn
  go_enter Try.func43, Try.ntmps43
  go_wp2
  all_goals go_ret
  all_goals refine ⟨ret_bool ?_, by repeat (first | exact Kp.refl _ _ | apply Kp.alloc)⟩
  all_goals (have hn := HN.out; subst hn; simp [noReplyS, *])

def noAskS (a : Ask) : Bool := a.doo == 0 && a.client == 0 && a.seq == 0 && a.text.toList == [] && a.val.toList == [] && a.from_.toList == [] && a.to_.toList == [] && a.limit == 0
theorem noAsk_c (d c s l : Int) (t v f o : ByteArray) (w : World) :
    Calls Try.prog 42 #[.agg #[.int .i64 d, .int .i64 c, .int .i64 s, .string t, .string v, .string f, .string o, .int .i64 l]] w (RetK w (noAskS ⟨d, c, s, t, v, f, o, l⟩)) := by
  go_enter Try.func42, Try.ntmps42
  go_wp2
  all_goals go_ret
  all_goals refine ⟨ret_bool ?_, by repeat (first | exact Kp.refl _ _ | apply Kp.alloc)⟩
  all_goals (simp [noAskS, *])

def emptyS (s : Span) : Bool := !s.to_.toList.isEmpty && (Op.bytesLess s.to_.toList s.from_.toList || s.to_.toList == s.from_.toList)
theorem empty_c (f o : ByteArray) (w : World) : Calls Try.prog 69 #[.agg #[.string f, .string o]] w (RetK w (emptyS ⟨f, o⟩)) := by
  go_enter Try.func69, Try.ntmps69
  go_wp2
  all_goals go_ret
  all_goals refine ⟨ret_bool ?_, by repeat (first | exact Kp.refl _ _ | apply Kp.alloc)⟩
  all_goals (simp [emptyS, *])

def hasS (kind : Int) (l : List Int) : Bool := l.contains kind
theorem hasS_cons (kind x : Int) (l : List Int) : hasS kind (x :: l) = (x == kind || hasS kind l) := by
  simp only [hasS, List.contains_cons]; congr 1; rw [Bool.eq_iff_iff]; simp; exact eq_comm
theorem has_c {ok : Nat → Prop} {A : Option Addr} {c : Nat} (kind : Int) (l : List Int) (w : World) (hA : SrcV (Value.int .i64) ok w A l.length l) (hl : l.length ≤ 1000000) :
    Calls Try.prog 22 #[.int .i64 kind, .slice A l.length c] w (RetB w (hasS kind l)) := by
  have HA := Lib.hid hA
  clear hA
  go_enter Try.func22, Try.ntmps22
  go_wp2
  go_loop [9] (fun i => ∃ k : Nat, k ≤ l.length ∧ i = .int .i64 k ∧ Hid (hasS kind l = hasS kind (l.drop k))) (fun i => l.length - (intOf i).toNat)
  case atStart => exact ⟨0, Nat.zero_le _, rfl, rfl⟩
  case round =>
    obtain ⟨k, hk, rfl, HR⟩ := hrel
    by_cases hlt : k < l.length
    · have hx1 : l[k]? = some l[k] := List.getElem?_eq_getElem hlt
      have hd : l.drop k = l[k] :: l.drop (k + 1) := List.drop_eq_getElem_cons hlt
      generalize l[k] = x at hx1 hd
      have HD := Lib.hid hd
      clear hd
      obtain ⟨g, off, rfl, hg, hcell⟩ := HA.out.2.2 (by omega)
      have cx := hcell k x hx1
      clear hcell hg hx1
      by_cases he : x = kind
      · have he1 : (x == kind) = true := by simpa using he
        have HE := Lib.hid he1
        clear he
        go_wp2
        go_ret
        refine ⟨ret_bool ?_, rfl⟩
        rw [HR.out, HD.out, hasS_cons, HE.out]; rfl
      · have he1 : (x == kind) = false := by simpa using he
        have HE := Lib.hid he1
        clear he
        go_wp2
        go_round
        case rel => exact ⟨k + 1, by omega, by go_num, by rw [Hid, HR.out, HD.out, hasS_cons, HE.out]; rfl⟩
        case measure => simp [intOf]; omega
    · have hkk : k = l.length := by omega
      have HKK := Lib.hid hkk
      clear hkk
      go_wp2
      go_ret
      refine ⟨ret_bool ?_, rfl⟩
      rw [HR.out, HKK.out, List.drop_length]; rfl

/-! ### span.Whole -/
def wholeL : Nat → ByteArray → List Span → Option ByteArray
  | _, a, [] => some a
  | i, a, s :: r => if emptyS s || !(s.from_.toList == a.toList) || (decide (0 < i) && a.toList.isEmpty) then none else wholeL (i + 1) s.to_ r
def wholeS (l : List Span) : Bool := match wholeL 0 es l with
  | none => false
  | some a => decide (0 < l.length) && a.toList.isEmpty

def WholeRel (w : World) (l : List Span) (k : Nat) (a : ByteArray) (wr : World) : Prop := wholeL 0 es l = wholeL k a (l.drop k) ∧ Kp No w wr
set_option maxHeartbeats 400000 in
theorem whole_c {ok : Nat → Prop} {A : Option Addr} {c : Nat} (l : List Span) (w : World) (hA : SrcF 2 Span.cs ok w A l.length l) (ha : Apt No w ok) (hl : l.length ≤ 1000000) :
    Calls Try.prog 56 #[.slice A l.length c] w (RetK w (wholeS l)) := by
  have HA := Lib.hid hA
  have HP := Lib.hid ha
  clear hA ha
  go_enter Try.func56, Try.ntmps56
  go_wp2
  go_loopw [3, 8] (fun a i wr => ∃ (k : Nat) (s : ByteArray), k ≤ l.length ∧ a = .string s ∧ i = .int .i64 k ∧ WholeRel w l k s wr) (fun _ i _ => l.length - (intOf i).toNat)
  case atStart => exact ⟨0, es, Nat.zero_le _, rfl, rfl, rfl, Kp.refl _ _⟩
  case round =>
    obtain ⟨k, at_, hk, rfl, rfl, hS, hkp⟩ := hrel
    have HR := Lib.hid hS
    have HK := Lib.hid hkp
    by_cases hlt : k < l.length
    · have hx1 : l[k]? = some l[k] := List.getElem?_eq_getElem hlt
      have hd : l.drop k = l[k] :: l.drop (k + 1) := List.drop_eq_getElem_cons hlt
      generalize l[k] = x at hx1 hd
      have HD := Lib.hid hd
      obtain ⟨g, off, rfl, hg, hcell⟩ := HA.out.2.2 (by omega)
      have hgl := (HP.out g hg).1
      have c0 : wr.cell? ⟨g, off + k * 2, none⟩ = some (.string x.from_) := (hkp.cell g _ hgl (not_No _)).trans (hcell k x hx1 0 _ rfl)
      have c1 : wr.cell? ⟨g, off + (k * 2 + 1), none⟩ = some (.string x.to_) := (hkp.cell g _ hgl (not_No _)).trans (hcell k x hx1 1 _ rfl)
      have c2 : wr.cell? ⟨g, off + k * 2 + 1, none⟩ = some (.string x.to_) := by rw [Nat.add_assoc]; exact c1
      obtain ⟨xf, xt⟩ := x
      simp only at c0 c1 c2
      clear hcell hg hx1 hd hS hkp
      go_wp2_with fail
      refine (empty_c xf xt _).mono ?_
      rintro e w1 ⟨rfl, hk1⟩
      have hc1 := hk1.cells.1 wr.heap.size
      have HK1 := Lib.hid hk1
      generalize hE : emptyS ⟨xf, xt⟩ = E
      have HE := Lib.hid hE
      clear hk1 hE
      cases E
      · go_wp2
        · go_ret
          refine ⟨ret_bool ?_, (HK.out.alloc _).thenNo HK1.out⟩
          simp [wholeS, HR.out, HD.out, wholeL, HE.out, *]
        · go_roundw
          case rel => exact ⟨k + 1, xt, by omega, rfl, by go_num, by rw [HR.out, HD.out]; simp [wholeL, HE.out, *], (HK.out.alloc _).thenNo HK1.out⟩
          case measure => simp [intOf]; omega
        · go_roundw
          case rel => exact ⟨k + 1, xt, by omega, rfl, by go_num, by rw [HR.out, HD.out]; simp [wholeL, HE.out, *], (HK.out.alloc _).thenNo HK1.out⟩
          case measure => simp [intOf]; omega
        · go_ret
          refine ⟨ret_bool ?_, (HK.out.alloc _).thenNo HK1.out⟩
          simp [wholeS, HR.out, HD.out, wholeL, HE.out, *]
      · go_wp2
        go_ret
        refine ⟨ret_bool ?_, (HK.out.alloc _).thenNo HK1.out⟩
        simp [wholeS, HR.out, HD.out, wholeL, HE.out, *]
    · have hkk : k = l.length := by omega
      have HKK := Lib.hid hkk
      clear hkk hS hkp
      go_wp2
      all_goals go_ret
      all_goals refine ⟨ret_bool ?_, HK.out⟩
      all_goals (unfold wholeS; rw [HR.out, HKK.out, List.drop_length]; simp [wholeL, *])

end Go.Proofs.Ytakhkjidcnahjaa
