/- note.Rows, note.Chart: records, last answers, an atlas packed. -/
import Derived.Test.YtakhkjidcnahjaaQLists1
import Derived.Deep.RegionWith
set_option linter.unusedVariables false
set_option linter.unusedSimpArgs false
namespace Go.Proofs.Ytakhkjidcnahjaa
open Go.RowKit

def PkX (W0 : World) (b : Nat) (o0 : Option Nat) (bs : List UInt8) (en : Ending) (w' : World) : Prop := en = .returned (.tuple #[]) ∧ ∃ bad, PkS W0 b o0 w' bad bs
theorem PkS.agr {W0 w : World} {b : Nat} {o0 : Option Nat} {bad : Bool} {bs : List UInt8} {ok : Nat → Prop} (h : PkS W0 b o0 w bad bs) (hd : Apt (PF b o0) W0 ok) : Agr ok W0 w := by
  obtain ⟨_, _, _, k⟩ := h
  exact k.agr hd
theorem PkS.apt {W0 w : World} {b : Nat} {o0 : Option Nat} {bad : Bool} {bs : List UInt8} {ok : Nat → Prop} (h : PkS W0 b o0 w bad bs) (hd : Apt (PF b o0) W0 ok) : Apt No w ok := by
  have := h.size
  exact fun x hx => ⟨Nat.lt_of_lt_of_le (hd x hx).1 this, not_No _⟩

def bytesT (bs : List UInt8) : ByteArray := ⟨bs.toArray⟩
theorem bytesT_size (bs : List UInt8) : (bytesT bs).size = bs.length := by simp [bytesT, ByteArray.size]
def rowsB (l : List Rec) (la : List Last) : List UInt8 := textsB [bytesT (listB recB l), bytesT (listB lastB la)]
theorem RetBytes.conv {w w' : World} {bs : List UInt8} {en : Ending} (h : RetBytes w bs en w') : Kp No w w' ∧ ∃ A n c, en = .returned (.slice A n c) ∧ ∀ W, Kp No w' W → (convert 58 9 (.slice A n c)).run Try.prog W = .ok (.string (bytesT bs)) W := by
  obtain ⟨hk, A, c, o, e, ho, _⟩ := h
  exact ⟨hk, A, _, c, e, fun W k => conv_own (ho.kpNo k)⟩

set_option maxRecDepth 100000 in
set_option maxHeartbeats 1000000 in
theorem rows_c {ok : Nat → Prop} {W0 w : World} {b : Nat} {o0 : Option Nat} {bad : Bool} {bs : List UInt8} {A2 A3 : Option Addr} {c2 c3 : Nat} (l : List Rec) (la : List Last) (h : PkS W0 b o0 w bad bs)
    (hl : SrcF 2 Rec.cs ok W0 A2 l.length l) (hla : SrcK 9 LastK ok W0 A3 la.length la) (hd : Apt (PF b o0) W0 ok) (hm1 : l.length ≤ 1000000) (hm2 : la.length ≤ 1000000)
    (hz : ∀ x, x ∈ la → (replyB x.reply).length ≤ 140737488355328) (hs : bs.length + (rowsB l la).length ≤ 140737488355328) :
    Calls Try.prog 48 #[.pointer (some ⟨b, 0, none⟩), .slice A2 l.length c2, .slice A3 la.length c3] w (PkX W0 b o0 (bs ++ rowsB l la)) := by
  have h1 := hl.agr (h.agr hd)
  have h2 := lasts_agr hla (h.agr hd)
  have ha := h.apt hd
  have hss : 4 + (listB recB l).length + (4 + (listB lastB la).length) = (rowsB l la).length := by
    simp only [rowsB, textsB_len, List.map_cons, List.map_nil, List.sum_cons, List.sum_nil, bytesT_size]; omega
  have HL1 := Lib.hid fun W (k : Kp No w W) => listRecord_c (c := c2) l W (h1.agr (k.agr ha)) (ha.kp k) hm1 (by omega)
  have HL2 := Lib.hid fun W (k : Kp No w W) => listLast_c (c := c3) la W (lasts_agr h2 (k.agr ha)) (ha.kp k) hz hm2 (by omega)
  have HS := Lib.hid hs
  have HP := Lib.hid h
  clear h hl hla hd hz hs h1 h2 ha hss
  go_enter Try.func48, Try.ntmps48
  go_region_with (first
    | (go_at_call 59; refine (HL1.out _ ((Kp.refl _ _).drew)).mono ?_; intro e w1 hr; obtain ⟨hk1, B1, n1, d1, rfl, hcv⟩ := hr.conv; have kc1 := hcv w1 (Kp.refl _ _); have HCV1 := Lib.hid hcv; have HK1 := Lib.hid (((Kp.refl No w).drew).thenNo hk1); clear hr hk1 hcv)
    | (go_at_call 61; refine (HL2.out _ HK1.out).mono ?_; intro e w2 hr; obtain ⟨hk2, B2, n2, d2, rfl, hcv⟩ := hr.conv; have kc2 := HCV1.out w2 hk2; have kc3 := hcv w2 (Kp.refl _ _); have HK2 := Lib.hid hk2; clear hr hk2 hcv)
    | (go_at_call 46; refine (pText_s [bytesT (listB recB l), bytesT (listB lastB la)] (HP.out.no (HK1.out.thenNo HK2.out)) rfl rfl rfl HS.out).mono ?_; rintro e w3 ⟨rfl, hp⟩; have HP3 := Lib.hid hp; clear hp))
  all_goals go_end0
  all_goals exact ⟨rfl, _, HP3.out⟩

theorem PkS.rebase {W0 W1 w : World} {b : Nat} {o0 o : Option Nat} {bad : Bool} {bs : List UInt8} (h2 : Nxt W0 o0 o) (h3 : Kp (PF b o0) W0 W1) (k : PkS W1 b o w bad bs) : PkS W0 b o0 w bad bs := by
  obtain ⟨o', p, n, q⟩ := k
  exact (PkS.after (bad := bad) (bs := bs) (en := .returned (.tuple #[])) h2 h3 ⟨rfl, o', p, n, q⟩).2

def chartB (a : Atlas) : List UInt8 := numsB [a.epoch] ++ textsB [bytesT (listB shardB a.l)]
set_option maxRecDepth 100000 in
set_option maxHeartbeats 1000000 in
theorem chart_c {ok : Nat → Prop} {W0 w : World} {b : Nat} {o0 : Option Nat} {bad : Bool} {bs : List UInt8} {A : Option Addr} {c : Nat} (ep : Int) (l : List Shard) (h : PkS W0 b o0 w bad bs)
    (hl : SrcF 4 Shard.cs ok W0 A l.length l) (hd : Apt (PF b o0) W0 ok) (hm1 : l.length ≤ 1000000) (hb : b < W0.heap.size) (hob : ∀ k, o0 = some k → k < W0.heap.size)
    (hs : bs.length + (chartB ⟨ep, l⟩).length ≤ 140737488355328) :
    Calls Try.prog 47 #[.pointer (some ⟨b, 0, none⟩), .agg #[.int .i64 ep, .slice A l.length c]] w (PkX W0 b o0 (bs ++ chartB ⟨ep, l⟩)) := by
  have hss : 4 + (4 + (listB shardB l).length) = (chartB ⟨ep, l⟩).length := by
    simp only [chartB, List.length_append, numsB_length, List.length_cons, List.length_nil, textsB_len, List.map_cons, List.map_nil, List.sum_cons, List.sum_nil, bytesT_size]
    omega
  have HS := Lib.hid hs
  have HSS := Lib.hid hss
  have HL1 := Lib.hid fun W D B (k : PkS W0 b o0 W D B) => listShard_c (c := c) l W (hl.agr (k.agr hd)) (k.apt hd) hm1 (by omega)
  have hsz := h.size
  have hwb : b < w.heap.size := by omega
  obtain ⟨o, hp, h2, h3⟩ := h
  have HOL := Lib.hid fun k (hk : o = some k) => hp.oLt hk
  have HP := Lib.hid hp
  have H2 := Lib.hid h2
  have H3 := Lib.hid h3
  clear hp h2 h3 hl hd hs hss
  go_enter Try.func47, Try.ntmps47
  go_wp2_with fail
  refine (pNum_s [ep] (PkS.start (HP.out.kpNo ((Kp.refl _ _).alloc _))) (by simp) rfl rfl (by have h1 := HS.out; have h2 := HSS.out; simp only [List.length_cons, List.length_nil]; omega)).mono ?_
  rintro e w1 ⟨rfl, hp⟩
  have hcc := hp.cells w.heap.size (by simp) (by omega) (fun e => by have := HOL.out _ e; omega)
  have HP1 := Lib.hid hp
  clear hp
  go_wp2_with fail
  refine (HL1.out _ _ _ (PkS.rebase H2.out (H3.out.alloc _) HP1.out)).mono ?_
  intro e w2 hr
  obtain ⟨hk2, B1, n1, d1, rfl, hcv⟩ := hr.conv
  have kc1 := hcv w2 (Kp.refl _ _)
  have HK2 := Lib.hid hk2
  clear hr hk2 hcv hcc
  go_wp2_with fail
  refine (pText_s [bytesT (listB shardB l)] (HP1.out.no HK2.out) rfl rfl rfl ?_).mono ?_
  · have h1 := HS.out
    have h2 := HSS.out
    simp only [List.length_append, numsB_length, List.length_cons, List.length_nil, textsB_len, List.map_cons, List.map_nil, List.sum_cons, List.sum_nil, bytesT_size] at *
    omega
  rintro e w3 ⟨rfl, hp⟩
  have HP3 := Lib.hid (PkS.rebase H2.out (H3.out.alloc _) hp)
  clear hp
  go_wp2_with fail
  go_end0
  exact ⟨rfl, _, by simpa only [chartB, List.append_assoc] using HP3.out⟩

end Go.Proofs.Ytakhkjidcnahjaa
