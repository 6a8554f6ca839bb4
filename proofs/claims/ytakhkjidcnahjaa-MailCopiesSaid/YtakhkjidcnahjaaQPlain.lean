/- Notes that have a head alone: packed and read. -/
import Derived.Test.YtakhkjidcnahjaaQMailSend
set_option linter.unusedVariables false
set_option linter.unusedSimpArgs false
namespace Go.Proofs.Ytakhkjidcnahjaa
open Go.RowKit

def wp_ (k f t ep ti : Int) : LNote := ⟨hdr k f t ep ti, none, none, none, none, 0, 0, 0, 0⟩
theorem askR_zero : (askR Ask.zero).isSome = true := by
  have h1 : badS (askN Ask.zero) = false := by decide
  have h2 : longS (askT Ask.zero) = false := by decide
  have h3 : (askB Ask.zero).length ≤ 32768 := by decide
  unfold askR packedS
  rw [if_neg (by rw [h1, h2]; simp; omega)]; rfl
theorem replyR_zero : (replyR Reply.zero).isSome = true := by
  have h1 : replyBad Reply.zero = false := by decide
  have h3 : (replyB Reply.zero).length ≤ 32768 := by decide
  unfold replyR packedS
  rw [if_neg (by rw [h1]; simp; omega)]; rfl
theorem es_toList : es.toList = [] := by
  unfold ByteArray.toList ByteArray.toList.loop
  rfl
theorem asksS_hdr (k f t ep ti : Int) : asksS (hdr k f t ep ti) = true := by
  have h1 : noAskS Ask.zero = true := by simp [noAskS, Ask.zero, es_toList]
  have h2 : noReplyS Reply.zero = true := by simp [noReplyS, Reply.zero, es_toList]
  simp only [asksS, hdr, askR_zero, replyR_zero, h1, h2, Bool.or_true, Bool.and_true]
theorem mayS_beat (ti : Int) (h0 : 0 ≤ ti) (h1 : ti ≤ 268435455) : mayS (hdr 5 1 0 0 ti) = true := by
  have e1 : may1 (hdr 5 1 0 0 ti) = true := by simp [may1, hdr, partyS, numberS, h0, h1]
  have e2 : spansS (hdr 5 1 0 0 ti) = true := by simp [spansS, hdr, Span.zero, es_toList]
  have e3 : mapsS (hdr 5 1 0 0 ti) = true := by simp [mapsS, hdr, hasS, Atlas.zero]
  simp only [mayS, e1, asksS_hdr, e2, e3, Bool.and_true, Bool.true_and]
  simp [hdr, hasS]
theorem mayS_where : mayS (hdr 3 100 0 0 0) = true := by
  have e1 : may1 (hdr 3 100 0 0 0) = true := by simp [may1, hdr, partyS, numberS]
  have e2 : spansS (hdr 3 100 0 0 0) = true := by simp [spansS, hdr, Span.zero, es_toList]
  have e3 : mapsS (hdr 3 100 0 0 0) = true := by simp [mapsS, hdr, hasS, Atlas.zero]
  simp only [mayS, e1, asksS_hdr, e2, e3, Bool.and_true, Bool.true_and]
  simp [hdr]
theorem mayS_99 : mayS (hdr 99 0 0 0 0) = false := by
  have e1 : may1 (hdr 99 0 0 0 0) = false := by simp [may1, hdr]
  simp only [mayS, e1, Bool.false_and]
theorem packBody_plain {n : Note} (h : n.kind = 3 ∨ n.kind = 5) : packBody n = [] := by
  unfold packBody
  rcases h with h | h <;> simp [h]
theorem NoteZ.hdr (k f t ep ti : Int) : NoteZ (hdr k f t ep ti) := by
  refine ⟨(by decide : Ask.zero.text.size + Ask.zero.val.size + Ask.zero.from_.size + Ask.zero.to_.size ≤ 140737488355000), ?_, by intro x h; simp [Go.Proofs.Ytakhkjidcnahjaa.hdr] at h, by simp [Go.Proofs.Ytakhkjidcnahjaa.hdr]⟩
  show (replyB Reply.zero).length ≤ _
  have : (replyB Reply.zero).length ≤ 32768 := by decide
  omega
theorem NoteP.hdr (k f t ep ti : Int) (h : k = 3 ∨ k = 5 ∨ k = 99) : NoteP (hdr k f t ep ti) := by
  refine ⟨NoteZ.hdr k f t ep ti, by simp [Go.Proofs.Ytakhkjidcnahjaa.hdr], by simp [Go.Proofs.Ytakhkjidcnahjaa.hdr, Atlas.zero], ?_⟩
  have e : (packBody (Go.Proofs.Ytakhkjidcnahjaa.hdr k f t ep ti)).length ≤ 1000 := by
    rcases h with h | h | h
    · rw [packBody_plain (.inl h)]; simp
    · rw [packBody_plain (.inr h)]; simp
    · subst h
      have : packBody (Go.Proofs.Ytakhkjidcnahjaa.hdr 99 f t ep ti) = textsB [es, es] ++ rowsB [] [] := by simp [packBody, Go.Proofs.Ytakhkjidcnahjaa.hdr, Span.zero]
      rw [this]
      decide
  rw [packB, List.length_append, numsB_length]
  simp only [packN, List.length_cons, List.length_nil]
  omega
theorem headS_packN {k f t ep ti : Int} (hk : 0 ≤ k ∧ k ≤ 268435455) (hf : 0 ≤ f ∧ f ≤ 268435455) (ht : 0 ≤ t ∧ t ≤ 268435455) (he : 0 ≤ ep ∧ ep ≤ 268435455) (hi : 0 ≤ ti ∧ ti ≤ 268435455) (r : List UInt8) :
    headS (numsB [k, f, t, ep, ti] ++ r) = (hdr k f t ep ti, 0, r) := by
  have e : numsB [k, f, t, ep, ti] ++ r = be32 k ++ (be32 f ++ (be32 t ++ (be32 ep ++ (be32 ti ++ r)))) := by simp [numsB]
  simp only [headS, e, numS_be32 _ hk.1 hk.2, numS_be32 _ hf.1 hf.2, numS_be32 _ ht.1 ht.2, numS_be32 _ he.1 he.2, numS_be32 _ hi.1 hi.2]
theorem may1_bounds {n : Note} (h : mayS n = true) : (0 ≤ n.kind ∧ n.kind ≤ 268435455) ∧ (0 ≤ n.from_ ∧ n.from_ ≤ 268435455) ∧ (0 ≤ n.to_ ∧ n.to_ ≤ 268435455) ∧ (0 ≤ n.epoch ∧ n.epoch ≤ 268435455) ∧ (0 ≤ n.tick ∧ n.tick ≤ 268435455) := by
  have h1 : may1 n = true := by
    cases e : may1 n
    · simp [mayS, e] at h
    · rfl
  simp [may1, partyS, numberS] at h1
  omega
theorem reads_plain (k f t ep ti : Int) (hk : k = 3 ∨ k = 5) (hm : mayS (hdr k f t ep ti) = true) : Reads (bytesT (packB (hdr k f t ep ti))) (hdr k f t ep ti) := by
  intro ok W A c hs ha hc hc2
  have hb := may1_bounds hm
  simp only [Go.Proofs.Ytakhkjidcnahjaa.hdr] at hb
  have he : (bytesT (packB (hdr k f t ep ti))).data.toList = numsB [k, f, t, ep, ti] := by
    simp only [bytesT, packB]
    rw [packBody_plain (n := hdr k f t ep ti) hk, List.append_nil]
    rfl
  have hH : headS (bytesT (packB (hdr k f t ep ti))).data.toList = (hdr k f t ep ti, 0, []) := by
    rw [he, ← List.append_nil (numsB [k, f, t, ep, ti])]
    exact headS_packN hb.1 hb.2.1 hb.2.2.1 hb.2.2.2.1 hb.2.2.2.2 []
  have hl : (bytesT (packB (hdr k f t ep ti))).size = (bytesT (packB (hdr k f t ep ti))).data.toList.length := (size_data _).symm
  rw [hl] at hs hc ⊢
  have := noteRead_c (bytesT (packB (hdr k f t ep ti))).data.toList W hs ha hc hc2 hH (n := hdr k f t ep ti) (e6 := 0) (b6 := []) (fun W b h => nread_plain k f t ep ti h (by omega)) (NoteZ.hdr _ _ _ _ _)
  rw [show readR (hdr k f t ep ti) 0 [] = some (hdr k f t ep ti) from by unfold readR; rw [if_pos ⟨by simp [endS], hm⟩]] at this
  exact this
theorem packR_may {n : Note} (h : mayS n = true) : packR n = some (packB n) := by unfold packR; rw [if_pos h]
theorem packR_not {n : Note} (h : mayS n = false) : packR n = none := by unfold packR; rw [if_neg (by rw [h]; simp)]

end Go.Proofs.Ytakhkjidcnahjaa
