/- parcel.Reply: a reply as bytes. -/
import Derived.Test.YtakhkjidcnahjaaQData
set_option linter.unusedVariables false
set_option linter.unusedSimpArgs false
namespace Go.Proofs.Ytakhkjidcnahjaa
open Go.RowKit

def recB (y : Rec) : List UInt8 := textsB [y.text, y.val]
def recsB (l : List Rec) : List UInt8 := l.flatMap recB
def recLong (l : List Rec) : Bool := l.any fun y => longS [y.text, y.val]
theorem recsB_take {l : List Rec} {k : Nat} {x : Rec} (h : l[k]? = some x) : recsB (l.take (k + 1)) = recsB (l.take k) ++ recB x := by
  rw [List.take_add_one, h]; simp [recsB]
theorem recLong_take {l : List Rec} {k : Nat} {x : Rec} (h : l[k]? = some x) : recLong (l.take (k + 1)) = (recLong (l.take k) || longS [x.text, x.val]) := by
  rw [List.take_add_one, h]; simp [recLong]
theorem recsB_take_le {l : List Rec} {k : Nat} {x : Rec} (h : l[k]? = some x) : (recsB (l.take k)).length + (recB x).length ≤ (recsB l).length := by
  have h1 : (recsB (l.take (k + 1))).length ≤ (recsB l).length := by
    conv => rhs; rw [← List.take_append_drop (k + 1) l]
    simp only [recsB, List.flatMap_append, List.length_append]
    omega
  rw [recsB_take h, List.length_append] at h1
  omega
theorem recsB_many (l : List Rec) : l.length ≤ (recsB l).length := by
  induction l with
  | nil => simp [recsB]
  | cons x l ih =>
    have : (recB x).length = 8 + x.text.size + x.val.size := by simp only [recB, textsB_len, List.map_cons, List.map_nil, List.sum_cons, List.sum_nil]; omega
    simp only [recsB, List.flatMap_cons, List.length_append, List.length_cons] at *
    omega

def replyB (r : Reply) : List UInt8 := numsB [r.client, r.seq, r.err] ++ truthB r.found ++ textsB [r.val] ++ numsB [(r.l.length : Int)] ++ recsB r.l ++ textsB [r.next] ++ truthB r.more
def replyBad (r : Reply) : Bool := badS [r.client, r.seq, r.err] || longS [r.val] || badS [(r.l.length : Int)] || recLong r.l || longS [r.next]
def replyR (r : Reply) : Option (List UInt8) := packedS (replyBad r) (replyB r)

def ReplyRel (W0 : World) (b : Nat) (bad : Bool) (bs : List UInt8) (l : List Rec) (k : Nat) (wr : World) : Prop :=
  PkS W0 b none wr (bad || recLong (l.take k)) (bs ++ recsB (l.take k))
set_option maxHeartbeats 1000000 in
theorem pReply_c {ok : Nat → Prop} (r : Reply) (A : Option Addr) (cap : Nat) (w : World) (hA : SrcF 2 Rec.cs ok w A r.l.length r.l) (ha : Apt No w ok) (hl : (replyB r).length ≤ 140737488355328) :
    Calls Try.prog 41 #[.agg #[.int .i64 r.client, .int .i64 r.seq, .int .i64 r.err, .bool r.found, .string r.val, .slice A r.l.length cap, .string r.next, .bool r.more]] w (ResB w (replyR r)) := by
  have HS := Lib.hid (show replyR r = packedS (false || badS [r.client, r.seq, r.err] || longS [r.val] || badS [(r.l.length : Int)] || recLong r.l || longS [r.next]) ([] ++ numsB [r.client, r.seq, r.err] ++ truthB r.found ++ textsB [r.val] ++ numsB [(r.l.length : Int)] ++ recsB r.l ++ textsB [r.next] ++ truthB r.more) by simp [replyR, replyB, replyBad])
  obtain ⟨d, c, s, t, v, l, f, o⟩ := r
  simp only [replyB, List.length_append] at hl
  have hm := recsB_many l
  have hll : l.length ≤ 140737488355328 := by simp only at *; omega
  have HL := Lib.hid hl
  have HA := Lib.hid hA
  have HP := Lib.hid ha
  clear hl hA ha hm
  go_enter Try.func41, Try.ntmps41
  go_wp2_with fail
  refine (pNum_s [d, c, s] (PkS.start (b := w.heap.size + 1) (o := none) (bad := false) (bs := []) ⟨.slice none 0 0, by go_simp, by go_simp, by go_simp, by go_simp, OwnB.nil _, by simp⟩) (by simp) rfl rfl (by simp)).mono ?_
  rintro e w1 ⟨rfl, hp⟩
  have hc := hp.cells w.heap.size (by simp <;> omega) (by simp) (by simp)
  have HP1 := Lib.hid hp
  clear hp
  go_wp2_with fail
  refine (pTruth_s t HP1.out ?_).mono ?_
  · have := HL.out; simp only [List.length_append, List.length_nil] at *; simp only [truthB, List.length_cons, List.length_nil] at *; omega
  rintro e w2 ⟨rfl, hp⟩
  clear hc HP1
  have hc := hp.cells w.heap.size (by simp <;> omega) (by simp) (by simp)
  have HP1 := Lib.hid hp
  clear hp
  go_wp2_with fail
  refine (pText_s [v] HP1.out rfl rfl rfl ?_).mono ?_
  · have := HL.out; simp only [List.length_append, List.length_nil] at *; omega
  rintro e w3 ⟨rfl, hp⟩
  clear hc HP1
  have hc := hp.cells w.heap.size (by simp <;> omega) (by simp) (by simp)
  have HP1 := Lib.hid hp
  clear hp
  go_wp2_with fail
  refine (pNum_s [(l.length : Int)] HP1.out rfl rfl rfl ?_).mono ?_
  · have := HL.out; simp only [List.length_append, List.length_nil, numsB_length, List.length_cons] at *; omega
  rintro e w4 ⟨rfl, hp⟩
  clear hc HP1
  have hc := hp.cells w.heap.size (by simp <;> omega) (by simp) (by simp)
  have HP1 := Lib.hid hp
  have hbl := hp.size
  simp only [World.size_alloc] at hbl
  clear hp
  go_wp2_with fail
  clear hc
  generalize hB1 : ([] ++ numsB [d, c, s] ++ truthB t ++ textsB [v] ++ numsB [(l.length : Int)]) = B1 at HP1
  generalize hD1 : (false || badS [d, c, s] || longS [v] || badS [(l.length : Int)]) = D1 at HP1
  have HB1 := Lib.hid hB1
  have HD1 := Lib.hid hD1
  clear hB1 hD1
  go_loopw [30] (fun i wr => ∃ k : Nat, k ≤ l.length ∧ i = .int .i64 k ∧ ReplyRel ((w.alloc (.cells #[.int .i64 d, .int .i64 c, .int .i64 s, .bool t, .string v, .slice A l.length cap, .string f, .bool o] 33)).alloc (.cells #[.slice none 0 0, .bool false] 103)) (w.heap.size + 1) D1 B1 l k wr) (fun i _ => l.length - (intOf i).toNat)
  case atStart => exact ⟨0, Nat.zero_le _, rfl, by simpa [ReplyRel, recLong, recsB] using HP1.out⟩
  case round =>
    clear HP1 hbl
    obtain ⟨k, hk, rfl, hrel⟩ := hrel
    have HR := Lib.hid hrel
    have hbl := hrel.size
    simp only [World.size_alloc] at hbl
    by_cases hlt : k < l.length
    · obtain ⟨g, off, rfl, hg, hcell⟩ := HA.out.2.2 (by omega)
      have hx1 : l[k]? = some l[k] := List.getElem?_eq_getElem hlt
      generalize l[k] = x at hx1
      have HX := Lib.hid hx1
      have hgl : g < w.heap.size := (HP.out g hg).1
      have kc := hrel.cells g (by simp; omega) (by omega) (by simp)
      have c0 : wr.cell? ⟨g, off + k * 2, none⟩ = some (.string x.text) := by rw [kc]; go_simp; exact hcell k x hx1 0 _ rfl
      have c1 : wr.cell? ⟨g, off + (k * 2 + 1), none⟩ = some (.string x.val) := by rw [kc]; go_simp; exact hcell k x hx1 1 _ rfl
      have c2 : wr.cell? ⟨g, off + k * 2 + 1, none⟩ = some (.string x.val) := by rw [Nat.add_assoc]; exact c1
      clear hrel hcell hg hx1 kc
      go_wp2_with fail
      refine (pText_s [x.text, x.val] (HR.out.no (by repeat (first | exact Kp.refl _ _ | apply Kp.alloc))) (by simp) rfl rfl ?_).mono ?_
      · have h1 := HL.out
        have h2 := recsB_take_le HX.out
        have h3 := congrArg List.length HB1.out
        simp only [List.length_append, List.length_nil, recB] at *
        omega
      rintro e w5 ⟨rfl, hp⟩
      have HP5 := Lib.hid hp
      clear hp
      go_wp2_with fail
      go_roundw
      case rel =>
        refine ⟨k + 1, by omega, by go_num, ?_⟩
        unfold ReplyRel
        rw [recsB_take HX.out, recLong_take HX.out, ← Bool.or_assoc, ← List.append_assoc]
        exact HP5.out
      case measure => simp [intOf]; omega
    · obtain rfl : k = l.length := by omega
      have hc := hrel.cells w.heap.size (by simp <;> omega) (by simp) (by simp)
      unfold ReplyRel at hrel
      rw [List.take_length] at hrel
      have HP5 := Lib.hid hrel
      clear hrel HR
      go_wp2_with fail
      refine (pText_s [f] HP5.out rfl rfl rfl ?_).mono ?_
      · have h1 := HL.out
        have h3 := congrArg List.length HB1.out
        simp only [List.length_append, List.length_nil] at *
        omega
      rintro e w6 ⟨rfl, hp⟩
      clear hc HP5
      have hc := hp.cells w.heap.size (by simp <;> omega) (by simp) (by simp)
      have HP1 := Lib.hid hp
      clear hp
      go_wp2_with fail
      refine (pTruth_s o HP1.out ?_).mono ?_
      · have h1 := HL.out
        have h3 := congrArg List.length HB1.out
        simp only [List.length_append, List.length_nil] at *
        simp only [truthB, List.length_cons, List.length_nil] at *
        omega
      rintro e w7 ⟨rfl, hp⟩
      clear hc HP1
      have HP := Lib.hid hp
      clear hp
      go_wp2_with fail
      obtain ⟨o2, h1, h2, h3⟩ := HP.out
      refine (packed_c h1).mono fun en w8 hr => ?_
      have HR := Lib.hid (ResB.of (w := w) (by repeat (first | exact Kp.refl _ _ | apply Kp.alloc)) (by omega) h2 h3 hr)
      clear hr h1 h2 h3
      have hS := HS.out
      rw [HB1.out, HD1.out] at hS
      generalize hq : packedS (D1 || recLong l || longS [f]) (B1 ++ recsB l ++ textsB [f] ++ truthB o) = Q at *
      have HF := Lib.hid hS
      clear hS
      cases Q with
      | none =>
        obtain ⟨hk, he⟩ := HR.out
        obtain rfl : en = .returned (.tuple #[.slice none 0 0, .int .i64 1]) := he
        have HQ := Lib.hid hq
        clear hq hk
        go_wp2_with fail
        go_ret2
        rw [HF.out]; exact HR.out
      | some r =>
        obtain ⟨hk, he⟩ := HR.out
        obtain ⟨A, c, o, rfl, ho, hk'⟩ := he
        have HQ := Lib.hid hq
        have HO := Lib.hid ho
        have HK := Lib.hid hk'
        clear hq hk ho hk'
        generalize hn : r.length = n
        have HN := Lib.hid hn
        clear hn
        go_wp2_with fail
        go_ret2
        rw [HF.out, ← HN.out]; exact HR.out

end Go.Proofs.Ytakhkjidcnahjaa
