/- The spool of texts: New, Push, At, Pick, Len. -/
import Derived.Test.YtakhkjidcnahjaaQRows
import Derived.Lib.SliceRun
import Derived.Deep.RegionLaw
set_option linter.unusedVariables false
set_option linter.unusedSimpArgs false
namespace Go.Proofs.Ytakhkjidcnahjaa
open Go.RowKit

theorem row_fs {W : World} {b : Nat} {cs : Array Value} {T : TypeId} (h : W.heap[b]? = some (.cells cs T)) : (∀ i, W.cell? ⟨b, i, none⟩ = cs[i]?) ∧ (∀ i, W.frozen? ⟨b, i, none⟩ = false) :=
  ⟨fun i => cell_of_row W b i _ _ _ h, fun i => by simp [World.frozen?, h]⟩
theorem heap_st {W : World} {b i : Nat} {cs : Array Value} {T : TypeId} (h : W.heap[b]? = some (.cells cs T)) (v : Value) : (W.setCell ⟨b, i, none⟩ v).heap[b]? = some (.cells (cs.setIfInBounds i v) T) := by
  simp [World.setCell, Array.getElem?_modify, h]
/-- Values laid over a row from o on. -/
def putAt (cs : Array Value) : Nat → List Value → Array Value
  | _, [] => cs
  | o, v :: r => putAt (cs.setIfInBounds o v) (o + 1) r
theorem putAt_size : ∀ (vs : List Value) (cs : Array Value) (o : Nat), (putAt cs o vs).size = cs.size
  | [], _, _ => rfl
  | v :: r, cs, o => by rw [putAt, putAt_size r]; simp
theorem putAt_list : ∀ (vs : List Value) (cs : Array Value) (o : Nat), o + vs.length ≤ cs.size → (putAt cs o vs).toList = cs.toList.take o ++ vs ++ cs.toList.drop (o + vs.length)
  | [], cs, o, _ => by simp [putAt]
  | v :: r, cs, o, h => by
    simp only [List.length_cons] at h
    rw [putAt, putAt_list r _ _ (by simp; omega), Array.toList_setIfInBounds]
    have h1 : (cs.toList.set o v).take (o + 1) = cs.toList.take o ++ [v] := by
      rw [List.take_add_one, List.take_set_of_le (Nat.le_refl _), List.getElem?_set_self (by simp; omega)]; rfl
    rw [h1, List.drop_set_of_lt (by omega), List.length_cons, show o + 1 + r.length = o + (r.length + 1) from by omega]
    simp
theorem heap_setCells {b : Nat} {T : TypeId} : ∀ (vs : List Value) (o : Nat) {W : World} {cs : Array Value}, W.heap[b]? = some (.cells cs T) → (W.setCells b o vs).heap[b]? = some (.cells (putAt cs o vs) T)
  | [], _, _, _, h => h
  | v :: r, o, W, cs, h => heap_setCells r (o + 1) (heap_st h v)
theorem Kp.setCells {a : World} {b : Nat} : ∀ (vs : List Value) (o : Nat) {w : World}, Kp (One b) a w → Kp (One b) a (w.setCells b o vs)
  | [], _, _, h => h
  | v :: r, o, w, h => Kp.setCells r (o + 1) (Kp.set1 h)

def strC (s : ByteArray) : List Value := [.string s]
theorem strC_len (s : ByteArray) : (strC s).length = 1 := rfl
theorem strC_one (s : ByteArray) (u : Value) (h : u ∈ strC s) : u.oneCell' = true := by
  simp only [strC, List.mem_cons, List.not_mem_nil, or_false] at h
  subst h; rfl
theorem strC_flat (xs : List ByteArray) : xs.flatMap strC = xs.map Value.string := by
  induction xs with
  | nil => rfl
  | cons x xs ih => simp [strC, ← ih]
theorem infoStr : (Try.prog.info? 9).map (fun i => (i.zero, i.size, i.bytes)) = some (some (.string ⟨#[]⟩), 1, 16) := by kernel_rfl

/-! ### slices.Delete -/
def DelP (w : World) (g cap : Nat) (ys : List ByteArray) (en : Ending) (w' : World) : Prop :=
  en = .returned (.slice (some ⟨g, 0, none⟩) ys.length cap) ∧ Kp (One g) w w' ∧ ∃ cur', w'.heap[g]? = some (.cells cur' 9) ∧ cur'.size = cap ∧ cur'.toList.take ys.length = ys.map Value.string
set_option maxHeartbeats 4000000 in
set_option maxRecDepth 1000000 in
theorem delete_c (xs : List ByteArray) (w : World) (g cap i j n : Nat) (cur : Array Value) (hg : w.heap[g]? = some (.cells cur 9)) (hxn : xs.length = n) (hn : n ≤ cap) (hm : cap ≤ 9223372036854775807) (hs : cur.size = cap)
    (ht : cur.toList.take n = xs.map Value.string) (hij : i < j) (hj : j ≤ n) :
    Calls Try.prog 49 #[.slice (some ⟨g, 0, none⟩) n cap, .int .i64 i, .int .i64 j] w (DelP w g cap (xs.take i ++ xs.drop j)) := by
  obtain ⟨i0, hi0, hz0, hz1, hz2⟩ := info_parts infoStr
  obtain ⟨fc, ff⟩ := row_fs hg
  have fc0 : ∀ t, t < n → (w.cell? ⟨g, t, none⟩) = (xs.map Value.string)[t]? := fun t h => by
    rw [fc, ← ht, List.getElem?_take, if_pos h, Array.getElem?_toList]
  obtain ⟨news, hnews⟩ : ∃ news, news = (xs.drop j).map Value.string := ⟨_, rfl⟩
  have hlen : news.length = n - j := by rw [hnews]; simp [hxn]
  obtain ⟨A, hA, hsrc⟩ : ∃ A : Addr, (if cap = j then some (⟨g, 0, none⟩ : Addr) else some ⟨g, j, none⟩) = some A ∧ Hid (∀ t u, news[t]? = some u → w.drew.cell? (A.add t) = some u) := by
    by_cases h : cap = j
    · refine ⟨⟨g, 0, none⟩, by simp [h], fun t u hu => ?_⟩
      have h0 : news.length = 0 := by rw [hlen]; omega
      rw [List.length_eq_zero_iff.1 h0] at hu
      simp at hu
    · refine ⟨⟨g, j, none⟩, by simp [h], fun t u hu => ?_⟩
      have htl : t < n - j := by
        have := (List.getElem?_eq_some_iff.1 hu).1
        rwa [hlen] at this
      have ha : (⟨g, j, none⟩ : Addr).add t = ⟨g, j + t, none⟩ := by unfold Addr.add; split <;> simp_all
      rw [ha, World.cell?_drew, fc0 _ (by omega), ← hu, hnews, List.getElem?_map, List.getElem?_map, List.getElem?_drop]
  have s1 : Hid (news.length = (n - j) * 1) := by rw [Nat.mul_one]; exact hlen
  have s2 : Hid (∀ u ∈ news, u.oneCell' = true) := by
    intro u hu
    rw [hnews] at hu
    obtain ⟨x, _, rfl⟩ := List.mem_map.1 hu
    rfl
  have s3 : Hid (∀ t, t < news.length → (w.drew.cell? ⟨g, 0 + i * 1 + t, none⟩).isSome = true ∧ w.drew.frozen? ⟨g, 0 + i * 1 + t, none⟩ = false) := by
    intro t ht
    rw [hlen] at ht
    rw [Nat.mul_one, Nat.zero_add]
    refine ⟨?_, ff _⟩
    rw [World.cell?_drew, fc0 _ (by omega), List.getElem?_map, List.getElem?_eq_getElem (by omega)]; rfl
  obtain ⟨W1, hW1⟩ : ∃ W1, W1 = w.drew.setCells g (0 + i * 1) news := ⟨_, rfl⟩
  have hg1 : W1.heap[g]? = some (.cells (putAt cur i news) 9) := by
    rw [hW1]
    have := heap_setCells (T := 9) news (0 + i * 1) (W := w.drew) (cs := cur) hg
    rwa [Nat.mul_one, Nat.zero_add] at this ⊢
  have hk1 : Kp (One g) w W1 := by rw [hW1]; exact Kp.setCells _ _ (Kp.refl _ _).drew
  obtain ⟨gc, gf⟩ := row_fs hg1
  have hcl : ∀ ty, (Builtin.clear_ #[91] ty #[.slice (some ⟨g, i + (n - j), none⟩) (n - (i + (n - j))) (cap - (i + (n - j)))]).run Try.prog W1 = .ok (.tuple #[]) (W1.setCells g (i + (n - j)) (List.replicate (n - (i + (n - j))) (.string ⟨#[]⟩))) :=
    fun ty => Lib.run_clear_slice W1 _ _ ty (.string ⟨#[]⟩) Try.underlying91 (fun w => by kernel_rfl) rfl rfl g (i + (n - j)) _ _ (by omega) (fun t ht => by rw [gc, Array.getElem?_eq_getElem (by rw [putAt_size]; omega)]; rfl) (fun t ht => gf _)
  have hW : Hid (W1 = w.drew.setCells g (0 + i * 1) news) := hW1
  have HG1 := Lib.hid hg1
  have HK1 := Lib.hid hk1
  have HTT := Lib.hid ht
  have HN := Lib.hid hnews
  have HXN := Lib.hid hxn
  have HS := Lib.hid hs
  have HLN := Lib.hid hlen
  have hic : i ≤ cap := by omega
  have hjc : j ≤ cap := by omega
  have u91 := Try.underlying91
  clear hW1 fc ff fc0 gc gf hg hg1 hk1 ht hnews hxn hs hlen
  go_enter Try.func49, Try.ntmps49
  go_wp2_with fail
  go_region_law (refine step_append_room rfl (.tmp 22) (.tmp 25) 91 rfl 9 i0 1 u91 hi0 hz1 g 0 i cap (by simp [Act.eval, Act.put]) A (n - j) (cap - j) news (by simp [Act.eval, Act.put]) s1.out hsrc.out s2.out (by omega) s3.out ?_; rw [← hW.out])
  go_wp2
  go_ret
  have hl : (xs.take i ++ xs.drop j).length = i + (n - j) := by simp [HXN.out]; omega
  have hb := putAt_list news cur i (by rw [HLN.out, HS.out]; omega)
  refine ⟨by rw [hl]; rfl, Kp.setCells _ _ HK1.out, _, heap_setCells _ _ HG1.out, by rw [putAt_size, putAt_size, HS.out], ?_⟩
  rw [hl, putAt_list _ _ _ (by rw [putAt_size, HS.out, List.length_replicate]; omega), List.append_assoc, List.take_append_of_le_length (by simp [putAt_size, HS.out]; omega), List.take_take, Nat.min_self, hb, List.append_assoc, ← List.append_assoc,
    List.take_append_of_le_length (by simp [HS.out, HLN.out]; omega), List.take_of_length_le (by simp [HS.out, HLN.out]; omega), HN.out, List.map_append]
  congr 1
  have h2 := congrArg (List.take i) HTT.out
  rw [List.take_take, Nat.min_eq_left (by omega)] at h2
  rw [h2, List.map_take]

/-! ### The spool's methods -/
/-- A spool at block b: how many it may hold, what waits; its row lies in block o. -/
def Spl (w : World) (b : Nat) (most : Int) (o : Option Nat) (xs : List ByteArray) : Prop :=
  ∃ v, w.heap[b]? = some (.cells #[.int .i64 most, v] 93) ∧ OwnR 9 1 strC w v o xs ∧ o ≠ some b
theorem Spl.kp {S : Nat → Prop} {w w' : World} {b : Nat} {most : Int} {o : Option Nat} {xs : List ByteArray} (h : Spl w b most o xs) (k : Kp S w w') (hb : ¬ S b) (ho : ∀ x, o = some x → ¬ S x) : Spl w' b most o xs := by
  obtain ⟨v, h0, h1, h2⟩ := h
  exact ⟨v, (k.block b (Array.getElem?_eq_some_iff.1 h0).1 hb).trans h0, h1.kp k ho, h2⟩
theorem Spl.lt {w : World} {b : Nat} {most : Int} {o : Option Nat} {xs : List ByteArray} (h : Spl w b most o xs) : b < w.heap.size := by
  obtain ⟨v, h0, _⟩ := h
  exact (Array.getElem?_eq_some_iff.1 h0).1
theorem Spl.oLt {w : World} {b : Nat} {most : Int} {o : Option Nat} {xs : List ByteArray} (h : Spl w b most o xs) {k : Nat} (hk : o = some k) : k < w.heap.size := by
  obtain ⟨v, _, h1, _⟩ := h
  exact h1.lt hk

theorem spoolNew_c (most : Int) (w : World) : Calls Try.prog 17 #[.int .i64 most] w fun e w' => e = .returned (.pointer (some ⟨w.heap.size, 0, none⟩)) ∧ w' = w.alloc (.cells #[.int .i64 most, .slice none 0 0] 93) := by
  go_enter Try.func17, Try.ntmps17
  go_wp2
  go_ret
  exact ⟨rfl, rfl⟩
theorem Spl.made {w : World} (most : Int) : Spl (w.alloc (.cells #[.int .i64 most, .slice none 0 0] 93)) w.heap.size most none [] :=
  ⟨_, heap_alloc_new _ _, OwnR.nil _ _ _ _, by simp⟩

theorem spoolLen_c {w : World} {b : Nat} {most : Int} {o : Option Nat} {xs : List ByteArray} (h : Spl w b most o xs) :
    Calls Try.prog 37 #[.pointer (some ⟨b, 0, none⟩)] w fun e w' => e = .returned (.int .i64 xs.length) ∧ w' = w := by
  obtain ⟨v, h0, h1, h2⟩ := h
  obtain ⟨A, c, rfl, hc⟩ := h1.slice
  obtain ⟨fc, ff⟩ := row_fs h0
  have c1 : w.cell? ⟨b, 1, none⟩ = some (.slice A xs.length c) := (fc 1).trans rfl
  clear fc ff h0 h1
  generalize xs.length = n at *
  go_enter Try.func37, Try.ntmps37
  go_wp2
  go_ret
  exact ⟨rfl, rfl⟩

def PushP (w : World) (b : Nat) (most : Int) (o : Option Nat) (ok : Bool) (ys : List ByteArray) (en : Ending) (w' : World) : Prop :=
  en = .returned (.bool ok) ∧ ∃ o', Spl w' b most o' ys ∧ Nxt w o o' ∧ Kp (PF b o) w w'
set_option maxHeartbeats 1000000 in
theorem push_no {w : World} {b : Nat} {most : Int} {o : Option Nat} {xs : List ByteArray} (s : ByteArray) (h : Spl w b most o xs) (hl : most ≤ xs.length) :
    Calls Try.prog 27 #[.pointer (some ⟨b, 0, none⟩), .string s] w (PushP w b most o false xs) := by
  have H := Lib.hid h
  obtain ⟨v, h0, h1, h2⟩ := h
  obtain ⟨A, c, rfl, hc⟩ := h1.slice
  obtain ⟨fc, ff⟩ := row_fs h0
  have c0 : w.cell? ⟨b, 0, none⟩ = some (.int .i64 most) := (fc 0).trans rfl
  have c1 : w.cell? ⟨b, 1, none⟩ = some (.slice A xs.length c) := (fc 1).trans rfl
  clear fc ff h0 h1
  generalize xs.length = n at *
  go_enter Try.func27, Try.ntmps27
  go_wp2
  go_quiet (fail)
  all_goals
    go_wp2
    go_ret
    exact ⟨rfl, o, H.out.kp (S := No) ((Kp.refl _ _).drewN _) (not_No _) (fun _ _ => not_No _), .inl rfl, (Kp.refl _ _).drewN _⟩
set_option maxHeartbeats 1000000 in
theorem push_yes {w : World} {b : Nat} {most : Int} {o : Option Nat} {xs : List ByteArray} (s : ByteArray) (h : Spl w b most o xs) (hl : (xs.length : Int) < most) (hx : xs.length ≤ 1000000) :
    Calls Try.prog 27 #[.pointer (some ⟨b, 0, none⟩), .string s] w (PushP w b most o true (xs ++ [s])) := by
  have H := Lib.hid h
  have hlt := h.lt
  obtain ⟨v, h0, h1, h2⟩ := h
  obtain ⟨A, c, rfl, hc⟩ := h1.slice
  obtain ⟨fc, ff⟩ := row_fs h0
  have c0 : w.cell? ⟨b, 0, none⟩ = some (.int .i64 most) := (fc 0).trans rfl
  have c1 : w.cell? ⟨b, 1, none⟩ = some (.slice A xs.length c) := (fc 1).trans rfl
  have z1 : w.frozen? ⟨b, 1, none⟩ = false := ff 1
  have HO := Lib.hid h1
  have H0 := Lib.hid h0
  have H2 := Lib.hid h2
  have HX := Lib.hid hx
  clear fc ff h0 h1 h2 hx
  generalize hn : xs.length = n at *
  have HN := Lib.hid hn
  clear hn
  go_enter Try.func27, Try.ntmps27
  go_wp2
  go_quiet (fail)
  go_wp2_with (at_builtin; refine app_one strC strC_len strC_one Try.underlying91 infoStr rfl (by omega) rfl _ _ rfl _ o xs s rfl ⟨w.heap.size, 0, none⟩ 1 rfl ?c1 ?c2 (by have := HX.out; have := HN.out; omega) (by have := HX.out; have := HN.out; omega) ?_)
  case c1 => exact cells_new _ _ rfl _ _ _ rfl
  case c2 => exact HO.out.kpNo (((Kp.refl _ _).drewN _).alloc _)
  intro v1 w1 o1 ho hn1 hk1
  have hrow : w1.heap[b]? = some (.cells #[.int .i64 most, .slice A n c] 93) := (hk1.block b (by simp; omega) (fun e => H2.out e)).trans ((Below.heap_alloc _ _ _ hlt).trans H0.out)
  obtain ⟨fc, ff⟩ := row_fs hrow
  have HR := Lib.hid hrow
  have HO1 := Lib.hid ho
  have HN1 := Lib.hid (Nxt.of_le (w := w) hn1 (by simp))
  have HK1 := Lib.hid (show Kp (PF b o) w w1 from Kp.trans (((Kp.refl _ _).drewN nq).alloc _) hk1 (fun i _ e => .inr e))
  have hob : o1 ≠ some b := HN1.out.ne hlt H2.out
  have HOB := Lib.hid hob
  obtain ⟨A1, m1, d1, rfl⟩ := ho.form
  clear hrow ho hn1 hk1 c0 c1 z1 hob
  go_wp2
  go_ret
  refine ⟨rfl, o1, ⟨_, (heap_st HR.out _).trans rfl, HO1.out.kp (S := One b) ((Kp.refl _ _).set1) (fun x hx e => HOB.out (hx.trans (by rw [e]))), HOB.out⟩, HN1.out, HK1.out.setCell (fun _ => .inl rfl) _⟩

theorem at_yes {w : World} {b : Nat} {most : Int} {o : Option Nat} {xs : List ByteArray} {i : Nat} {x : ByteArray} (h : Spl w b most o xs) (hi : xs[i]? = some x) (hx : xs.length ≤ 1000000) :
    Calls Try.prog 36 #[.pointer (some ⟨b, 0, none⟩), .int .i64 i] w fun e w' => e = .returned (.tuple #[.string x, .bool true]) ∧ w' = w := by
  obtain ⟨v, h0, h1, h2⟩ := h
  obtain ⟨A, c, rfl, hc⟩ := h1.slice
  obtain ⟨hlen, hsp, hsrc⟩ := (h1.src strC_len).1
  obtain ⟨fc, ff⟩ := row_fs h0
  have c1 : w.cell? ⟨b, 1, none⟩ = some (.slice A xs.length c) := (fc 1).trans rfl
  have hil : i < xs.length := (List.getElem?_eq_some_iff.1 hi).1
  obtain ⟨g, off, rfl, hg, hcell⟩ := hsrc (by omega)
  have cx : w.cell? ⟨g, off + i, none⟩ = some (.string x) := by
    have := hcell i x hi 0 _ rfl
    simpa using this
  clear fc ff h0 h1 hsrc hcell hg hsp hlen hi
  generalize xs.length = n at *
  go_enter Try.func36, Try.ntmps36
  go_wp2
  go_ret2
  exact ⟨rfl, rfl⟩

theorem len_erase {xs : List ByteArray} {i : Nat} (hi : i < xs.length) : (xs.take i ++ xs.drop (i + 1)).length = xs.length - 1 := by simp; omega
def PickP (w : World) (b : Nat) (most : Int) (o : Option Nat) (x : ByteArray) (ys : List ByteArray) (en : Ending) (w' : World) : Prop :=
  en = .returned (.tuple #[.string x, .bool true]) ∧ Spl w' b most o ys ∧ Kp (PF b o) w w'
set_option maxHeartbeats 1000000 in
theorem pick_yes {w : World} {b : Nat} {most : Int} {o : Option Nat} {xs : List ByteArray} {i : Nat} {x : ByteArray} (h : Spl w b most o xs) (hi : xs[i]? = some x) (hx : xs.length ≤ 1000000) :
    Calls Try.prog 29 #[.pointer (some ⟨b, 0, none⟩), .int .i64 i] w (PickP w b most o x (xs.take i ++ xs.drop (i + 1))) := by
  have H := Lib.hid h
  have hlt := h.lt
  have HI := Lib.hid hi
  have hil : i < xs.length := (List.getElem?_eq_some_iff.1 hi).1
  obtain ⟨v, h0, h1, h2⟩ := h
  have hown := h1.1
  rcases h1.1.2 with ⟨_, h3⟩ | ⟨g, cap, cur, rfl, _, hg, hnc, hcm, hcs, ht⟩
  · omega
  have ho : o = some g := h1.2.symm
  subst ho
  rw [Nat.mul_one] at hcs ht
  rw [strC_flat] at ht
  unfold maxLen at hcm
  obtain ⟨fc, ff⟩ := row_fs h0
  have c1 : w.cell? ⟨b, 1, none⟩ = some (.slice (some ⟨g, 0, none⟩) xs.length cap) := (fc 1).trans rfl
  have HG := Lib.hid hg
  have HT := Lib.hid ht
  have HCS := Lib.hid hcs
  have H0 := Lib.hid h0
  have H2 := Lib.hid h2
  have HB := Lib.hid hx
  obtain ⟨n, hn⟩ : ∃ n, xs.length = n := ⟨_, rfl⟩
  have HN := Lib.hid hn
  rw [hn] at c1 hil hnc
  have hn1 : n ≤ 1000000 := by omega
  clear fc ff h0 h1 h2 hi hown hg ht hcs hx hn
  go_enter Try.func29, Try.ntmps29
  go_wp2_with fail
  refine (at_yes H.out HI.out HB.out).mono ?_
  rintro e w' ⟨rfl, rfl⟩
  go_wp2_with fail
  refine (show Calls Try.prog 49 #[.slice (some ⟨g, 0, none⟩) n cap, .int .i64 i, .int .i64 ((i : Int) + 1)] _ _ from (delete_c xs _ g cap i (i + 1) n cur HG.out HN.out hnc hcm HCS.out (by rw [← HN.out]; exact HT.out) (by omega) (by omega)).mono ?_)
  rintro e w2 ⟨rfl, hk, cur2, hg2, hs2, ht2⟩
  have hgb : g ≠ b := fun e => H2.out (by rw [e])
  have hrow : w2.heap[b]? = some (.cells #[.int .i64 most, .slice (some ⟨g, 0, none⟩) n cap] 93) := (hk.block b hlt (fun e => hgb e.symm)).trans (by rw [← HN.out]; exact H0.out)
  obtain ⟨fc, ff⟩ := row_fs hrow
  have hly : (xs.take i ++ xs.drop (i + 1)).length = n - 1 := by rw [len_erase (by rw [HN.out]; exact hil), HN.out]
  have HR := Lib.hid hrow
  have HK := Lib.hid hk
  have HG2 := Lib.hid hg2
  have HS2 := Lib.hid hs2
  have HT2 := Lib.hid ht2
  have HLY := Lib.hid hly
  obtain ⟨m, hm⟩ : ∃ m, (xs.take i ++ xs.drop (i + 1)).length = m := ⟨_, rfl⟩
  rw [hm]
  have HM := Lib.hid hm
  have hmc : m ≤ cap := by omega
  have HMC := Lib.hid hmc
  clear hrow hk hg2 hs2 ht2 hly c1 hm
  go_wp2_with fail
  go_ret2
  refine ⟨rfl, ⟨_, (heap_st HR.out _).trans rfl, ⟨⟨?_, .inr ⟨g, cap, cur2, by rw [HM.out], Nat.zero_le _, ?_, by rw [HM.out]; exact HMC.out, by unfold maxLen; omega, by rw [Nat.mul_one]; exact HS2.out, ?_⟩⟩, rfl⟩, H2.out⟩, Kp.setCell (HK.out.mono fun i _ e => .inr (by rw [show i = g from e])) (fun _ => .inl rfl) _⟩
  · rw [strC_flat, List.length_map, Nat.mul_one]
  · rw [show ((w2.setCell ⟨b, 1, none⟩ (.slice (some ⟨g, 0, none⟩) m cap)).heap[g]?) = w2.heap[g]? from Below.heap_setCell _ _ _ _ hgb]
    exact HG2.out
  · rw [strC_flat, Nat.mul_one]; exact HT2.out

end Go.Proofs.Ytakhkjidcnahjaa
