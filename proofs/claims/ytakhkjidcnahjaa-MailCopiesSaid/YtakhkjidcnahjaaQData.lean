/- The program's plain data, as Lean has them, and as values. -/
import Derived.Test.YtakhkjidcnahjaaQPackerUse
set_option linter.unusedVariables false
set_option linter.unusedSimpArgs false
namespace Go.Proofs.Ytakhkjidcnahjaa
open Go.RowKit

structure Ask where
  doo : Int
  client : Int
  seq : Int
  text : ByteArray
  val : ByteArray
  from_ : ByteArray
  to_ : ByteArray
  limit : Int
structure Rec where
  text : ByteArray
  val : ByteArray
structure Reply where
  client : Int
  seq : Int
  err : Int
  found : Bool
  val : ByteArray
  l : List Rec
  next : ByteArray
  more : Bool
structure Span where
  from_ : ByteArray
  to_ : ByteArray
structure Last where
  seq : Int
  reply : Reply
structure Shard where
  span : Span
  node : Int
  epoch : Int
structure Atlas where
  epoch : Int
  l : List Shard
structure Note where
  kind : Int
  from_ : Int
  to_ : Int
  epoch : Int
  tick : Int
  ask : Ask
  reply : Reply
  span : Span
  l : List Rec
  last : List Last
  atlas : Atlas
def es : ByteArray := ⟨#[]⟩
def Ask.zero : Ask := ⟨0, 0, 0, es, es, es, es, 0⟩
def Rec.zero : Rec := ⟨es, es⟩
def Reply.zero : Reply := ⟨0, 0, 0, false, es, [], es, false⟩
def Span.zero : Span := ⟨es, es⟩
def Last.zero : Last := ⟨0, Reply.zero⟩
def Shard.zero : Shard := ⟨Span.zero, 0, 0⟩
def Atlas.zero : Atlas := ⟨0, []⟩
def Note.zero : Note := ⟨0, 0, 0, 0, 0, Ask.zero, Reply.zero, Span.zero, [], [], Atlas.zero⟩

def Ask.cs (a : Ask) : List Value := [.int .i64 a.doo, .int .i64 a.client, .int .i64 a.seq, .string a.text, .string a.val, .string a.from_, .string a.to_, .int .i64 a.limit]
def Rec.cs (a : Rec) : List Value := [.string a.text, .string a.val]
def Span.cs (a : Span) : List Value := [.string a.from_, .string a.to_]
def Shard.cs (a : Shard) : List Value := [.string a.span.from_, .string a.span.to_, .int .i64 a.node, .int .i64 a.epoch]

/-- A slice of values of sz cells each, the cells known by a function. -/
def SrcF {α : Type} (sz : Nat) (f : α → List Value) (ok : Nat → Prop) (w : World) (A : Option Addr) (n : Nat) (xs : List α) : Prop :=
  xs.length = n ∧ (∀ ad, A = some ad → ad.spot = none) ∧ (0 < n → ∃ g off, A = some ⟨g, off, none⟩ ∧ ok g ∧ ∀ i x, xs[i]? = some x → ∀ j u, (f x)[j]? = some u → w.cell? ⟨g, off + (i * sz + j), none⟩ = some u)
namespace SrcF
variable {α : Type} {sz : Nat} {f : α → List Value} {ok ok' : Nat → Prop} {w w' : World} {A : Option Addr} {n c : Nat} {xs : List α}
theorem agr (h : SrcF sz f ok w A n xs) (a : Agr ok w w') : SrcF sz f ok w' A n xs :=
  ⟨h.1, h.2.1, fun hn => by obtain ⟨g, off, e, hg, hc⟩ := h.2.2 hn; exact ⟨g, off, e, hg, fun i x hi j u hu => (a.cell hg).trans (hc i x hi j u hu)⟩⟩
theorem mono (h : SrcF sz f ok w A n xs) (hm : ∀ b, ok b → ok' b) : SrcF sz f ok' w A n xs :=
  ⟨h.1, h.2.1, fun hn => by obtain ⟨g, off, e, hg, hc⟩ := h.2.2 hn; exact ⟨g, off, e, hm g hg, hc⟩⟩
end SrcF

/-- Bytes or an error, as a function of two results gives them; nothing old is turned; the bytes lie in a new block. -/
def ResB (w : World) (r : Option (List UInt8)) (en : Ending) (w' : World) : Prop :=
  Kp No w w' ∧ match r with
    | none => en = .returned (.tuple #[.slice none 0 0, .int .i64 1])
    | some bs => ∃ A c o, en = .returned (.tuple #[.slice A bs.length c, .int .i64 0]) ∧ OwnB w' (.slice A bs.length c) o bs ∧ ∀ k, o = some k → w.heap.size ≤ k

/-! ### parcel.Ask -/
def askN (a : Ask) : List Int := [a.doo, a.client, a.seq, a.limit]
def askT (a : Ask) : List ByteArray := [a.text, a.val, a.from_, a.to_]
def askB (a : Ask) : List UInt8 := numsB (askN a) ++ textsB (askT a)
def askR (a : Ask) : Option (List UInt8) := packedS (badS (askN a) || longS (askT a)) (askB a)
theorem textsB_len (l : List ByteArray) : (textsB l).length = (l.map fun s => 4 + s.size).sum := by
  induction l with
  | nil => rfl
  | cons x l ih => simp only [textsB, List.flatMap_cons, List.length_append, List.map_cons, List.sum_cons] at *; rw [textB_length, ih]

/-- The end: what packed answered is handed on. -/
theorem ResB.of {w W0 w1 : World} {b : Nat} {bad : Bool} {bs : List UInt8} {o : Option Nat} {en : Ending} {w' : World} (h0 : Kp No w W0) (hb : w.heap.size ≤ b) (hn : Nxt W0 none o) (hk : Kp (PF b none) W0 w1)
    (h : PackedP w1 b bad bs o en w') : ResB w (packedS bad bs) en w' := by
  obtain ⟨rfl, hr⟩ := h
  refine ⟨h0.trans hk fun i hi e => ?_, ?_⟩
  · rcases e with e | e
    · omega
    · cases e
  · cases hp : packedS bad bs with
    | none => rw [hp] at hr; exact hr
    | some r =>
      rw [hp] at hr
      obtain ⟨A, c, e, ho⟩ := hr
      obtain rfl : r = bs := by
        unfold packedS at hp
        split at hp
        · cases hp
        · injection hp with hp; exact hp.symm
      refine ⟨A, c, o, e, ho, fun k hk' => ?_⟩
      rcases hn with rfl | ⟨j, rfl, hj⟩
      · cases hk'
      · have : j = k := by injection hk'
        have := h0.size
        omega

set_option maxHeartbeats 400000 in
theorem pAsk_c (a : Ask) (w : World) (hl : a.text.size + a.val.size + a.from_.size + a.to_.size ≤ 140737488355000) :
    Calls Try.prog 40 #[.agg #[.int .i64 a.doo, .int .i64 a.client, .int .i64 a.seq, .string a.text, .string a.val, .string a.from_, .string a.to_, .int .i64 a.limit]] w (ResB w (askR a)) := by
  obtain ⟨d, c, s, t, v, f, o, l⟩ := a
  have HL := Lib.hid hl
  clear hl
  go_enter Try.func40, Try.ntmps40
  go_wp2_with fail
  refine (pNum_s [d, c, s, l] (PkS.start (b := w.heap.size + 1) (o := none) (bad := false) (bs := []) ⟨.slice none 0 0, by go_simp, by go_simp, by go_simp, by go_simp, OwnB.nil _, by simp⟩) (by simp) rfl rfl (by simp)).mono ?_
  rintro e w1 ⟨rfl, hp⟩
  have hc := hp.cells w.heap.size (by simp <;> omega) (by simp) (by simp)
  have HP := Lib.hid hp
  clear hp
  go_wp2_with fail
  refine (pText_s [t, v, f, o] HP.out rfl rfl rfl ?_).mono ?_
  · have := HL.out
    simp only [textsB_len, List.length_append, List.map_cons, List.map_nil, List.sum_cons, List.sum_nil, numsB_length, List.length_cons, List.length_nil] at *
    omega
  rintro e w2 ⟨rfl, hp⟩
  clear hc HP
  have HP := Lib.hid hp
  clear hp
  go_wp2_with fail
  obtain ⟨o2, h1, h2, h3⟩ := HP.out
  refine (packed_c h1).mono fun en w3 hr => ?_
  have HR := Lib.hid (ResB.of (w := w) (by repeat (first | exact Kp.refl _ _ | apply Kp.alloc)) (by omega) h2 h3 hr)
  have HA := Lib.hid (show askR ⟨d, c, s, t, v, f, o, l⟩ = packedS (false || badS [d, c, s, l] || longS [t, v, f, o]) ([] ++ numsB [d, c, s, l] ++ textsB [t, v, f, o]) by simp [askR, askB, askN, askT])
  clear hr
  cases hq : packedS (false || badS [d, c, s, l] || longS [t, v, f, o]) ([] ++ numsB [d, c, s, l] ++ textsB [t, v, f, o]) with
  | none =>
    obtain ⟨hk, he⟩ := HR.out
    rw [hq] at he
    obtain rfl : en = .returned (.tuple #[.slice none 0 0, .int .i64 1]) := he
    have HQ := Lib.hid hq
    clear hq hk
    go_wp2_with fail
    go_ret2
    rw [HA.out]; exact HR.out
  | some r =>
    obtain ⟨hk, he⟩ := HR.out
    rw [hq] at he
    obtain ⟨A, c, o, rfl, ho, hk'⟩ := he
    have HQ := Lib.hid hq
    have HO := Lib.hid ho
    have HK := Lib.hid hk'
    clear hq hk ho hk'
    generalize hn : r.length = n
    have HN := Lib.hid hn
    clear hn
    go_wp2_with fail
    go_ret2
    rw [HA.out, ← HN.out]; exact HR.out

end Go.Proofs.Ytakhkjidcnahjaa
