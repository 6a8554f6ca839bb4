/- record, shard, last: an item as bytes. -/
import Derived.Test.YtakhkjidcnahjaaQNoteMay2
import Derived.Test.YtakhkjidcnahjaaQReaderText
set_option linter.unusedVariables false
set_option linter.unusedSimpArgs false
namespace Go.Proofs.Ytakhkjidcnahjaa
open Go.RowKit

/-- Bytes are answered, in a new block; nothing old is turned. -/
def RetBytes (w : World) (bs : List UInt8) (en : Ending) (w' : World) : Prop :=
  Kp No w w' ∧ ∃ A c o, en = .returned (.slice A bs.length c) ∧ OwnB w' (.slice A bs.length c) o bs ∧ ∀ k, o = some k → w.heap.size ≤ k
theorem OwnB.src {w : World} {A : Option Addr} {n c : Nat} {o : Option Nat} {bs : List UInt8} (h : OwnB w (.slice A n c) o bs) : Src (Own o) w A n bs ∧ n = bs.length := by
  have hn : n = bs.length := by
    obtain ⟨A', c', e', _⟩ := h.slice
    injection e'
  refine ⟨⟨hn.symm, ?_, ?_⟩, hn⟩
  · rintro ad rfl
    rcases h.1.2 with ⟨h0, _⟩ | ⟨g, cap, cur, h0, _⟩
    · cases h0
    · injection h0 with h0; injection h0 with h0; rw [h0]
  · intro hp
    rcases h.1.2 with ⟨h0, h1⟩ | ⟨g, cap, cur, h0, _, hg, hnc, _, hcs, ht⟩
    · omega
    · injection h0 with h0 _ _
      subst h0
      refine ⟨g, 0, rfl, h.2.symm, ?_⟩
      intro i hi
      have hin : i < bs.length := by omega
      have hfl : (bs.map bv)[i]? = some (bv (bs.getD i 0)) := by
        rw [List.getElem?_map, List.getElem?_eq_getElem hin, List.getD_eq_getElem?_getD, List.getElem?_eq_getElem hin]; rfl
      rw [← ht, List.getElem?_take] at hfl
      split at hfl
      · rw [Nat.zero_add]
        simp only [World.cell?, hg]
        rw [Array.getElem?_toList] at hfl
        simpa using hfl
      · cases hfl
/-- string(b), b bytes of the call's own. -/
theorem conv_own {w : World} {A : Option Addr} {n c : Nat} {o : Option Nat} {bs : List UInt8} (h : OwnB w (.slice A n c) o bs) :
    (convert 58 9 (.slice A n c)).run Try.prog w = .ok (.string ⟨bs.toArray⟩) w := conv_src h.src.1 c

/-- A packer that is a local: what lies in its first cell. -/
theorem PkS.end_ {w W0 w1 : World} {b : Nat} {bad : Bool} {bs : List UInt8} (h : PkS W0 b none w1 bad bs) (h0 : Kp No w W0) (hb : w.heap.size ≤ b) :
    ∃ A n c, w1.cell? ⟨b, 0, none⟩ = some (.slice A n c) ∧ Hid (RetBytes w bs (.returned (.slice A n c)) w1) := by
  obtain ⟨o, ⟨v, c0, c1, z0, z1, hv, hno⟩, h2, h3⟩ := h
  obtain ⟨A, c, rfl, hc⟩ := hv.slice
  refine ⟨A, bs.length, c, c0, h0.trans h3 fun i hi e => ?_, A, c, o, rfl, hv, fun k hk => ?_⟩
  · rcases e with e | e
    · omega
    · cases e
  · rcases h2 with rfl | ⟨j, rfl, hj⟩
    · cases hk
    · have : j = k := by injection hk
      have := h0.size
      omega

theorem record_c (x : Rec) (w : World) (hl : (recB x).length ≤ 140737488355328) :
    Calls Try.prog 60 #[.agg #[.string x.text, .string x.val]] w (RetBytes w (recB x)) := by
  obtain ⟨t, v⟩ := x
  have HL := Lib.hid hl
  clear hl
  go_enter Try.func60, Try.ntmps60
  go_wp2_with fail
  refine (pText_s [t, v] (PkS.start (b := w.heap.size + 1) (o := none) (bad := false) (bs := []) ⟨.slice none 0 0, by go_simp, by go_simp, by go_simp, by go_simp, OwnB.nil _, by simp⟩) (by simp) rfl rfl (by simpa [recB] using HL.out)).mono ?_
  rintro e w1 ⟨rfl, hp⟩
  obtain ⟨A, n, c, c0, HR⟩ := hp.end_ (w := w) (by repeat (first | exact Kp.refl _ _ | apply Kp.alloc)) (by omega)
  clear hp
  go_wp2_with fail
  go_ret
  simpa [recB] using HR.out

def shardB (s : Shard) : List UInt8 := textsB [s.span.from_, s.span.to_] ++ numsB [s.node, s.epoch]
theorem shard_c (x : Shard) (w : World) (hl : (shardB x).length ≤ 140737488355328) :
    Calls Try.prog 58 #[.agg #[.string x.span.from_, .string x.span.to_, .int .i64 x.node, .int .i64 x.epoch]] w (RetBytes w (shardB x)) := by
  obtain ⟨⟨f, t⟩, n, e⟩ := x
  have HL := Lib.hid hl
  clear hl
  go_enter Try.func58, Try.ntmps58
  go_wp2_with fail
  refine (pText_s [f, t] (PkS.start (b := w.heap.size + 1) (o := none) (bad := false) (bs := []) ⟨.slice none 0 0, by go_simp, by go_simp, by go_simp, by go_simp, OwnB.nil _, by simp⟩) (by simp) rfl rfl (by have := HL.out; simp only [shardB, List.length_append, List.length_nil] at *; omega)).mono ?_
  rintro e w1 ⟨rfl, hp⟩
  have hc := hp.cells w.heap.size (by simp <;> omega) (by simp) (by simp)
  have HP := Lib.hid hp
  clear hp
  go_wp2_with fail
  refine (pNum_s [n, e] HP.out rfl rfl rfl (by have := HL.out; simp only [shardB, List.length_append, List.length_nil, numsB_length] at *; omega)).mono ?_
  rintro e w2 ⟨rfl, hp⟩
  obtain ⟨A, n, c, c0, HR⟩ := hp.end_ (w := w) (by repeat (first | exact Kp.refl _ _ | apply Kp.alloc)) (by omega)
  clear hp hc
  go_wp2_with fail
  go_ret
  simpa [shardB] using HR.out

def replyT (r : Reply) : ByteArray := match replyR r with
  | none => es
  | some bs => ⟨bs.toArray⟩
def lastB (x : Last) : List UInt8 := numsB [x.seq] ++ textsB [replyT x.reply]
set_option maxHeartbeats 400000 in
theorem last_c {ok : Nat → Prop} (x : Last) (A : Option Addr) (cap : Nat) (w : World) (hA : SrcF 2 Rec.cs ok w A x.reply.l.length x.reply.l) (ha : Apt No w ok) (hz : (replyB x.reply).length ≤ 140737488355328) (hl : (lastB x).length ≤ 140737488355328) :
    Calls Try.prog 62 #[.agg #[.int .i64 x.seq, .int .i64 x.reply.client, .int .i64 x.reply.seq, .int .i64 x.reply.err, .bool x.reply.found, .string x.reply.val, .slice A x.reply.l.length cap, .string x.reply.next, .bool x.reply.more]] w (RetBytes w (lastB x)) := by
  obtain ⟨s, ⟨rc, rs, re, rf, rv, rl, rx, rm⟩⟩ := x
  have HL := Lib.hid hl
  have HZ := Lib.hid hz
  have HA := Lib.hid hA
  have HP := Lib.hid ha
  clear hl hz hA ha
  go_enter Try.func62, Try.ntmps62
  go_wp2_with fail
  refine (pReply_c (ok := ok) ⟨rc, rs, re, rf, rv, rl, rx, rm⟩ A cap _ ?_ ?_ HZ.out).mono ?_
  · exact HA.out.agr (Kp.agr (S := No) (by repeat (first | exact Kp.refl _ _ | apply Kp.alloc)) HP.out)
  · exact HP.out.kp (S' := No) (by repeat (first | exact Kp.refl _ _ | apply Kp.alloc))
  intro en w1 h1
  obtain ⟨hk1, h1⟩ := h1
  have hx : ∃ B n c e, en = .returned (.tuple #[.slice B n c, .int .i64 e]) ∧ ∀ W, Kp (One (w.heap.size + 1)) w1 W → (convert 58 9 (.slice B n c)).run Try.prog W = .ok (.string (replyT ⟨rc, rs, re, rf, rv, rl, rx, rm⟩)) W := by
    unfold replyT
    cases hq : replyR ⟨rc, rs, re, rf, rv, rl, rx, rm⟩ with
    | none =>
      rw [hq] at h1
      exact ⟨none, 0, 0, 1, h1, fun W _ => conv_src (Src.nil No W none (by simp)) 0⟩
    | some bs =>
      rw [hq] at h1
      obtain ⟨B, c, o, e, ho, hk⟩ := h1
      exact ⟨B, _, c, 0, e, fun W k => conv_own (ho.kp k fun x hx e => by have := hk x hx; simp only [One] at e; simp at this; omega)⟩
  obtain ⟨B, n, c, e, rfl, hconv⟩ := hx
  generalize hT : replyT ⟨rc, rs, re, rf, rv, rl, rx, rm⟩ = T at hconv
  have HT := Lib.hid hT
  have HCV := Lib.hid hconv
  have hl1 := hk1.size
  simp only [World.size_alloc] at hl1
  have hc1 : ∀ o, w1.cell? ⟨w.heap.size, o, none⟩ = _ := fun o => hk1.cell _ o (by simp <;> omega) (not_No _)
  have hd1 : ∀ o, w1.cell? ⟨w.heap.size + 1, o, none⟩ = _ := fun o => hk1.cell _ o (by simp) (not_No _)
  have hz1 : ∀ o, w1.frozen? ⟨w.heap.size + 1, o, none⟩ = _ := fun o => hk1.frozen _ o (by simp) (not_No _)
  have HK1 := Lib.hid hk1
  clear h1 hk1 hT hconv
  go_wp2_with fail
  refine (pNum_s [s] (PkS.start (b := w.heap.size + 1) (o := none) (bad := false) (bs := []) ⟨.slice none 0 0, by rw [hd1]; go_simp, by rw [hd1]; go_simp, by rw [hz1]; go_simp, by rw [hz1]; go_simp, OwnB.nil _, by simp⟩) (by simp) rfl rfl (by simp)).mono ?_
  rintro e w2 ⟨rfl, hp⟩
  have kb : Kp (One (w.heap.size + 1)) w1 w2 := by
    obtain ⟨_, _, _, k⟩ := hp
    exact k.mono fun i _ e => e.elim id (fun e => by cases e)
  have kc := HCV.out w2 kb
  have HP2 := Lib.hid hp
  clear hp kb hc1 hd1 hz1
  go_wp2_with fail
  refine (pText_s [T] HP2.out rfl rfl rfl ?_).mono ?_
  · have h1 := HL.out
    have h2 := HT.out
    simp only [lastB, List.length_append, List.length_nil, h2] at *
    omega
  rintro e w3 ⟨rfl, hp⟩
  obtain ⟨A1, n1, c1, c0, HR⟩ := hp.end_ (w := w) (Kp.thenNo (by repeat (first | exact Kp.refl _ _ | apply Kp.alloc)) HK1.out) (by omega)
  clear hp kc
  go_wp2_with fail
  go_ret
  have := HR.out
  rw [← HT.out] at this
  simpa [lastB] using this

end Go.Proofs.Ytakhkjidcnahjaa
