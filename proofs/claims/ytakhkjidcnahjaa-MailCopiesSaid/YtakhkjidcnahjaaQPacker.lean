/- The packer of parcel: what Num, Text, Truth and packed answer and leave. -/
import Derived.Test.YtakhkjidcnahjaaQBase
import Derived.Lib.AppendStr
import Derived.Laws.BitsLemmas
set_option linter.unusedVariables false
set_option linter.unusedSimpArgs false
namespace Go.Proofs.Ytakhkjidcnahjaa
open Go.RowKit

theorem infoU8 : (Try.prog.info? 5).map (fun i => (i.zero, i.size, i.bytes)) = some (some (.int .u8 0), 1, 1) := by kernel_rfl

/-- v is nil or a row of bytes of the call's own; its block is o. -/
def OwnB (w : World) (v : Value) (o : Option Nat) (bs : List UInt8) : Prop := w.ownsRow 0 5 1 v bs.length (bs.map bv) ∧ v.ownBlock = o
/-- Where a row lies behind an append: where it lay, or in a new block. -/
def Nxt (w : World) (o o' : Option Nat) : Prop := o' = o ∨ ∃ k, o' = some k ∧ w.heap.size ≤ k
theorem Nxt.refl (w : World) (o : Option Nat) : Nxt w o o := .inl rfl
theorem Nxt.trans {w w1 : World} {o o1 o2 : Option Nat} (h : Nxt w o o1) (k : Nxt w1 o1 o2) (hs : w.heap.size ≤ w1.heap.size) : Nxt w o o2 := by
  rcases k with rfl | ⟨k, rfl, hk⟩
  · exact h
  · exact .inr ⟨k, rfl, Nat.le_trans hs hk⟩
theorem Nxt.of_le {w w1 : World} {o o1 : Option Nat} (h : Nxt w1 o o1) (hs : w.heap.size ≤ w1.heap.size) : Nxt w o o1 := by
  rcases h with rfl | ⟨k, rfl, hk⟩
  · exact .inl rfl
  · exact .inr ⟨k, rfl, Nat.le_trans hs hk⟩
theorem Nxt.ne {w : World} {o o' : Option Nat} (h : Nxt w o o') {x : Nat} (hx : x < w.heap.size) (hn : o ≠ some x) : o' ≠ some x := by
  rcases h with rfl | ⟨k, rfl, hk⟩
  · exact hn
  · intro e; injection e with e; omega
def Own (o : Option Nat) : Nat → Prop := fun k => o = some k

theorem ownLt {w : World} {base n : Nat} {e : TypeId} {size : Nat} {v : Value} {xs : List Value} (h : w.ownsRow base e size v n xs) (k : Nat) (hk : v.ownBlock = some k) : k < w.heap.size := by
  rcases h.2 with ⟨rfl, _⟩ | ⟨g, cap, cur, rfl, hb, hh, _⟩
  · simp [Value.ownBlock] at hk
  · have : g = k := by simpa [Value.ownBlock] using hk
    subst this
    exact (Array.getElem?_eq_some_iff.1 hh).1
theorem ownKp {S : Nat → Prop} {w w1 : World} {base n : Nat} {e : TypeId} {size : Nat} {v : Value} {xs : List Value} (h : w.ownsRow base e size v n xs) (k : Kp S w w1) (ho : ∀ x, v.ownBlock = some x → ¬ S x) : w1.ownsRow base e size v n xs := by
  refine ⟨h.1, ?_⟩
  rcases h.2 with hn | ⟨g, cap, cur, rfl, hb, hh, r⟩
  · exact .inl hn
  · refine .inr ⟨g, cap, cur, rfl, hb, ?_, r⟩
    rw [k.block g (Array.getElem?_eq_some_iff.1 hh).1 (ho g rfl)]
    exact hh
theorem OwnB.lt {w : World} {v : Value} {o : Option Nat} {bs : List UInt8} (h : OwnB w v o bs) {k : Nat} (hk : o = some k) : k < w.heap.size := ownLt h.1 k (h.2.trans hk)
theorem OwnB.kp {S : Nat → Prop} {w w1 : World} {v : Value} {o : Option Nat} {bs : List UInt8} (h : OwnB w v o bs) (k : Kp S w w1) (ho : ∀ x, o = some x → ¬ S x) : OwnB w1 v o bs :=
  ⟨ownKp h.1 k fun x hx => ho x (h.2 ▸ hx), h.2⟩
theorem OwnB.kpNo {w w1 : World} {v : Value} {o : Option Nat} {bs : List UInt8} (h : OwnB w v o bs) (k : Kp No w w1) : OwnB w1 v o bs := h.kp k fun x _ => not_No x
theorem OwnB.slice {w : World} {v : Value} {o : Option Nat} {bs : List UInt8} (h : OwnB w v o bs) : ∃ A c, v = .slice A bs.length c ∧ bs.length ≤ c := by
  rcases h.1.2 with ⟨rfl, h0⟩ | ⟨g, cap, cur, rfl, _, _, hc, _⟩
  · exact ⟨none, 0, by rw [h0], by omega⟩
  · exact ⟨_, cap, rfl, hc⟩
theorem OwnB.form {w : World} {v : Value} {o : Option Nat} {bs : List UInt8} (h : OwnB w v o bs) : ∃ A n c, v = .slice A n c :=
  let ⟨A, c, e, _⟩ := h.slice; ⟨A, _, c, e⟩
theorem OwnB.nil (w : World) : OwnB w (.slice none 0 0) none [] := ⟨⟨by simp, .inl ⟨rfl, rfl⟩⟩, rfl⟩

section
variable {ops : Array Oper} {rest : List Oper} {op : Oper} {a : Act} {Q : Exit → Act → World → Prop}
/-- append(v, b, ..): cells that lie in a new block. -/
theorem app_cells {w : World} (hgd : op.guard = none) (s x : Operand) (ho : op.op = .call { callee := .builtin .append, args := #[s, x], argTypes := #[58, 58] })
    (v : Value) (o : Option Nat) (bs news : List UInt8) (hs : a.eval s = v) (m c : Nat) (ad : Addr) (hx : a.eval x = .slice (some ad) m c) (hm : m = news.length)
    (hc : ∀ j u, (news.map bv)[j]? = some u → w.cell? (ad.add j) = some u) (HO : OwnB w v o bs) (hl : bs.length + news.length ≤ 140737488355328)
    (h : ∀ v1 w1 o1, OwnB w1 v1 o1 (bs ++ news) → Nxt w o o1 → Kp (Own o) w w1 → wpList Try.prog ops Q rest (a.put op.dst v1) w1) :
    wpList Try.prog ops Q (op :: rest) a w := by
  subst hm
  obtain ⟨i0, hi, hzz⟩ := Option.map_eq_some_iff.1 infoU8
  simp only [Prod.mk.injEq] at hzz
  obtain ⟨hz0, hz1, hz2⟩ := hzz
  refine wpList_append_own_at w hgd s x 58 ho 0 5 i0 (.int .u8 0) 1 1 Try.underlying58 hi hz0 hz1 hz2 rfl (by omega) v bs.length (bs.map bv) hs HO.1 ad news.length c (news.map bv) hx (by simp)
    hc (by intro u hu; obtain ⟨b, _, rfl⟩ := List.mem_map.1 hu; rfl) (by simp only [maxLen]; omega) (by omega) (Nat.zero_le _) ?_
  intro v1 w1 hown hg _ hat
  refine h v1 w1 v1.ownBlock ⟨by rw [List.length_append, List.map_append]; exact hown, rfl⟩ ?_ ?_
  · rcases hat with hat | hat
    · exact .inl (hat.trans HO.2)
    · exact .inr ⟨_, hat, Nat.le_refl _⟩
  · exact (Kp.refl _ _).grown hg fun k hk _ => HO.2.symm.trans hk

theorem strCells_bv (s : ByteArray) : Lib.strCells s = s.data.toList.map bv := by simp [Lib.strCells, bv]
/-- append(v, s...), s a string. -/
theorem app_str {w : World} (hgd : op.guard = none) (s x : Operand) (ho : op.op = .call { callee := .builtin .append, args := #[s, x], argTypes := #[58, 9] })
    (v : Value) (o : Option Nat) (bs : List UInt8) (y : ByteArray) (hs : a.eval s = v) (hx : a.eval x = .string y) (HO : OwnB w v o bs) (hl : bs.length + y.size ≤ 140737488355328)
    (h : ∀ v1 w1 o1, OwnB w1 v1 o1 (bs ++ y.data.toList) → Nxt w o o1 → Kp (Own o) w w1 → wpList Try.prog ops Q rest (a.put op.dst v1) w1) :
    wpList Try.prog ops Q (op :: rest) a w := by
  obtain ⟨i0, hi, hzz⟩ := Option.map_eq_some_iff.1 infoU8
  simp only [Prod.mk.injEq] at hzz
  obtain ⟨hz0, hz1, hz2⟩ := hzz
  obtain ⟨v1, w1, hr, hown, hg, hnil⟩ := Lib.run_append_own_string (P := Try.prog) w 0 58 9 op.type 5 i0 Try.underlying58 Try.underlying9 hi hz0 hz1 hz2 v bs.length (bs.map bv) HO.1 y (by simp only [maxLen]; omega) hl (Nat.zero_le _)
  have hat : Nxt w o v1.ownBlock := by
    rcases HO.1.2 with ⟨rfl, h0⟩ | ⟨g, cap, cur, rfl, hbg, hgg, hnc, hcm, hcs, htake⟩
    · by_cases hm : y.size = 0
      · rw [hnil.2 ⟨rfl, hm⟩]; exact .inl HO.2
      · have hr2 := run_append_nil_string (P := Try.prog) w 58 9 op.type 5 i0 (.int .u8 0) Try.underlying58 Try.underlying9 hi hz0 y (by omega) (by omega) (by rw [hz2]; omega)
        rw [hr2] at hr
        injection hr with hv _
        exact .inr ⟨w.heap.size, by rw [← hv]; rfl, Nat.le_refl _⟩
    · by_cases hroom : bs.length + y.size ≤ cap
      · have hcs' : cur.size = cap := by simpa using hcs
        have hr2 := Lib.run_append_room_string (P := Try.prog) w 58 9 op.type 5 i0 Try.underlying58 Try.underlying9 hi hz1 g bs.length cap cur hgg y hroom (by omega)
        rw [hr2] at hr
        injection hr with hv _
        exact .inl (by rw [← hv, ← HO.2]; rfl)
      · have holds : ∀ j u, (bs.map bv)[j]? = some u → w.cell? ((⟨g, 0, none⟩ : Addr).add j) = some u := HO.1.cells (g := g) rfl
        have hr2 := Lib.run_append_grow_string (P := Try.prog) w 58 9 op.type 5 i0 (.int .u8 0) Try.underlying58 Try.underlying9 hi hz0 ⟨g, 0, none⟩ bs.length cap (bs.map bv) (by rw [hz1]; simp) holds y (by omega) (by omega) (by rw [hz2]; exact growslice_fits (by omega) (by omega))
        rw [hr2] at hr
        injection hr with hv _
        exact .inr ⟨w.heap.size, by rw [← hv]; rfl, Nat.le_refl _⟩
  refine wpList_plain hgd fun K hK => ?_
  unfold Oper.wp execOp
  simp only [ho, resolve, invoke, builtin, Sem.run_bind, Sem.run_pure, Result.andThen_ok, List.map_toArray, List.map_cons, List.map_nil, hs, hx, hr]
  refine hK _ _ (h v1 w1 v1.ownBlock ⟨?_, rfl⟩ hat ((Kp.refl _ _).grown hg fun k hk _ => HO.2.symm.trans hk))
  rw [List.length_append, List.map_append, Array.length_toList]
  rw [strCells_bv] at hown
  exact hown
end


/-! ### Num -/
def u8 (n : Int) : UInt8 := UInt8.ofNat (n % 256).toNat
def be32 (n : Int) : List UInt8 := [u8 (n / 16777216), u8 (n / 65536), u8 (n / 256), u8 n]
def off28 (n : Int) : Bool := decide (n < 0) || decide (n > 268435455)
theorem bv_u8 (n : Int) : bv (u8 n) = .int .u8 (n % 256) := by
  have h : (n % 256).toNat < 256 := by omega
  simp only [bv, u8]
  rw [show ((UInt8.ofNat (n % 256).toNat).toNat : Int) = n % 256 from by
    rw [UInt8.toNat_ofNat_of_lt' (by simpa [UInt8.size] using h)]; omega]
def numsB (l : List Int) : List UInt8 := l.flatMap be32
theorem numsB_length (l : List Int) : (numsB l).length = 4 * l.length := by
  induction l with
  | nil => rfl
  | cons n l ih => simp only [numsB, List.flatMap_cons, List.length_append, List.length_cons] at *; simp only [be32, List.length_cons, List.length_nil]; omega
theorem numsB_take {l : List Int} {k : Nat} {x : Int} (h : l[k]? = some x) : numsB (l.take (k + 1)) = numsB (l.take k) ++ be32 x := by
  rw [List.take_add_one, h]; simp [numsB]
def badS (l : List Int) : Bool := l.any off28
theorem badS_take {l : List Int} {k : Nat} {x : Int} (h : l[k]? = some x) : badS (l.take (k + 1)) = (badS (l.take k) || off28 x) := by
  rw [List.take_add_one, h]; simp [badS]

/-- A packer at block b: whether a number was none, what was packed, in which block that lies. -/
def Pkr (w : World) (b : Nat) (bad : Bool) (bs : List UInt8) (o : Option Nat) : Prop :=
  ∃ v, w.cell? ⟨b, 0, none⟩ = some v ∧ w.cell? ⟨b, 1, none⟩ = some (.bool bad) ∧ w.frozen? ⟨b, 0, none⟩ = false ∧ w.frozen? ⟨b, 1, none⟩ = false ∧ OwnB w v o bs ∧ o ≠ some b
/-- The blocks of a packer. -/
def PF (b : Nat) (o : Option Nat) : Nat → Prop := fun k => k = b ∨ o = some k
theorem Pkr.lt {w : World} {b : Nat} {bad : Bool} {bs : List UInt8} {o : Option Nat} (h : Pkr w b bad bs o) : b < w.heap.size := by
  obtain ⟨v, h0, _⟩ := h
  exact World.block_lt_of_cell? w ⟨b, 0, none⟩ h0
theorem Pkr.oLt {w : World} {b : Nat} {bad : Bool} {bs : List UInt8} {o : Option Nat} (h : Pkr w b bad bs o) {k : Nat} (hk : o = some k) : k < w.heap.size := by
  obtain ⟨v, _, _, _, _, h, _⟩ := h
  exact h.lt hk
theorem Pkr.kp {S : Nat → Prop} {w w' : World} {b : Nat} {bad : Bool} {bs : List UInt8} {o : Option Nat} (h : Pkr w b bad bs o) (k : Kp S w w') (hs : ∀ x, PF b o x → ¬ S x) : Pkr w' b bad bs o := by
  have hl := h.lt
  obtain ⟨v, h0, h1, z0, z1, hv, hn⟩ := h
  have hb := hs b (.inl rfl)
  exact ⟨v, (k.cell b 0 hl hb).trans h0, (k.cell b 1 hl hb).trans h1, (k.frozen b 0 hl hb).trans z0, (k.frozen b 1 hl hb).trans z1, hv.kp k fun x hx => hs x (.inr hx), hn⟩
theorem Pkr.kpNo {w w' : World} {b : Nat} {bad : Bool} {bs : List UInt8} {o : Option Nat} (h : Pkr w b bad bs o) (k : Kp No w w') : Pkr w' b bad bs o := h.kp k fun x _ => not_No x

theorem news_new (W : World) (n0 : Nat) (hz : n0 = W.heap.size) (cs : Array Value) (T : TypeId) (l : List UInt8) (h : cs.toList = l.map bv) :
    ∀ j u, (l.map bv)[j]? = some u → (W.alloc (.cells cs T)).cell? ((⟨n0, 0, none⟩ : Addr).add j) = some u := by
  subst hz
  intro j u hu
  have ha : (⟨W.heap.size, 0, none⟩ : Addr).add j = ⟨W.heap.size, j, none⟩ := by unfold Addr.add; split <;> simp_all
  rw [ha, cell_new, ← hu, ← h, Array.getElem?_toList]

/-- What a packer's method leaves. -/
def PkP (w : World) (b : Nat) (o : Option Nat) (bad : Bool) (bs : List UInt8) (en : Ending) (w' : World) : Prop :=
  en = .returned (.tuple #[]) ∧ ∃ o', Pkr w' b bad bs o' ∧ Nxt w o o' ∧ Kp (PF b o) w w'

def NumRel (w : World) (b : Nat) (o : Option Nat) (bad : Bool) (bs : List UInt8) (l : List Int) (k : Nat) (wr : World) : Prop :=
  ∃ o', Pkr wr b (bad || badS (l.take k)) (bs ++ numsB (l.take k)) o' ∧ Nxt w o o' ∧ Kp (PF b o) w wr

/-- The packer's row was written, then its cell. -/
theorem pkr_step {w : World} {b : Nat} {o : Option Nat} {bs : List UInt8} {wr : World} {o' o1 : Option Nat} {v1 v : Value} {W1 w2 : World} {B1 : Bool}
    (hnx : Nxt w o o') (hk : Kp (PF b o) w wr) (hbl : b < w.heap.size) (hno : o' ≠ some b) (k1 : Kp (One b) wr W1) (hown : OwnB w2 v1 o1 bs) (hnx2 : Nxt W1 o' o1) (k2 : Kp (Own o') W1 w2)
    (d0 : w2.cell? ⟨b, 0, none⟩ = some v) (d1 : w2.cell? ⟨b, 1, none⟩ = some (.bool B1)) (y0 : w2.frozen? ⟨b, 0, none⟩ = false) (y1 : w2.frozen? ⟨b, 1, none⟩ = false) :
    ∃ o', Pkr (w2.setCell ⟨b, 0, none⟩ v1) b B1 bs o' ∧ Nxt w o o' ∧ Kp (PF b o) w (w2.setCell ⟨b, 0, none⟩ v1) := by
  have hb1 : b < W1.heap.size := Nat.lt_of_lt_of_le (Nat.lt_of_lt_of_le hbl hk.size) k1.size
  have hn1 : o1 ≠ some b := hnx2.ne hb1 hno
  refine ⟨o1, ⟨v1, by go_simp, by go_simp, by go_simp, by go_simp, hown.kp (S := One b) (Kp.refl _ _).set1 (fun x hx e => hn1 (e ▸ hx)), hn1⟩, hnx.trans (hnx2.of_le k1.size) hk.size, ?_⟩
  refine Kp.setCell ?_ (fun _ => .inl rfl) _
  refine (hk.trans k1 fun i _ e => .inl e).trans k2 fun i hi e => ?_
  rcases hnx with rfl | ⟨j, rfl, hj⟩
  · exact .inr e
  · have : j = i := by injection e
    omega

theorem pNum_c {ok : Nat → Prop} {w : World} {b : Nat} {bad : Bool} {bs : List UInt8} {o : Option Nat} {A : Option Addr} {c : Nat} {l : List Int} (h : Pkr w b bad bs o)
    (hA : SrcV (Value.int .i64) ok w A l.length l) (ha : Apt (PF b o) w ok) (hl : bs.length + 4 * l.length ≤ 140737488355328) :
    Calls Try.prog 45 #[.pointer (some ⟨b, 0, none⟩), .slice A l.length c] w (PkP w b o (bad || badS l) (bs ++ numsB l)) := by
  have hbl := h.lt
  have H := Lib.hid h
  have HA := Lib.hid hA
  have HP := Lib.hid ha
  clear h hA ha
  go_enter Try.func45, Try.ntmps45
  go_wp2_with fail
  go_loopw [8] (fun i wr => ∃ k : Nat, k ≤ l.length ∧ i = .int .i64 k ∧ NumRel w b o bad bs l k wr) (fun i _ => l.length - (intOf i).toNat)
  case atStart => exact ⟨0, Nat.zero_le _, rfl, o, by simpa [badS, numsB] using H.out, Nxt.refl _ _, Kp.refl _ _⟩
  case round =>
    obtain ⟨k, hk, rfl, o', hp, hx, hkp⟩ := hrel
    by_cases hlt : k < l.length
    · have hx1 : l[k]? = some l[k] := List.getElem?_eq_getElem hlt
      generalize l[k] = x at hx1
      have HX := Lib.hid hx1
      obtain ⟨v, c0, c1, z0, z1, hv, hno⟩ := hp
      obtain ⟨g, off, rfl, hg, hcell⟩ := HA.out.2.2 (by omega)
      have hgb : g ≠ b := fun e => (HP.out g hg).2 (.inl e)
      have hgl : g < wr.heap.size := Nat.lt_of_lt_of_le (HP.out g hg).1 hkp.size
      have hbl2 : b < wr.heap.size := Nat.lt_of_lt_of_le hbl hkp.size
      have cx : wr.cell? ⟨g, off + k, none⟩ = some (.int .i64 x) := (hkp.cell g _ (HP.out g hg).1 (HP.out g hg).2).trans (hcell k x hx1)
      have HV := Lib.hid hv
      have HNO := Lib.hid hno
      have HNX := Lib.hid hx
      have HK := Lib.hid hkp
      have HC := Lib.hid hcell
      have b0 := bv_u8 (x / 16777216)
      have b1 := bv_u8 (x / 65536)
      have b2 := bv_u8 (x / 256)
      have b3 := bv_u8 x
      have HB := Lib.hid (And.intro b0 (And.intro b1 (And.intro b2 b3)))
      clear hx1 hv hno hx hkp hcell hg b0 b1 b2 b3
      generalize hB : (bad || badS (l.take k)) = B0 at c1
      have HBB := Lib.hid hB
      clear hB
      have hd : B0 = true ∨ B0 = false ∧ x < 0 ∨ B0 = false ∧ 268435455 < x ∨ B0 = false ∧ 0 ≤ x ∧ x ≤ 268435455 := by
        cases B0
        · by_cases h1 : x < 0
          · exact .inr (.inl ⟨rfl, h1⟩)
          · by_cases h2 : 268435455 < x
            · exact .inr (.inr (.inl ⟨rfl, h2⟩))
            · exact .inr (.inr (.inr ⟨rfl, by omega, by omega⟩))
        · exact .inl rfl
      rcases hd with rfl | ⟨rfl, hx0⟩ | ⟨rfl, hx0⟩ | ⟨rfl, hx0, hx2⟩
      · have HH : (true || off28 x) = true := by simp [off28]
        have HB1 := Lib.hid HH
        clear HH
        go_wp2_with (at_builtin; refine app_cells rfl _ _ rfl _ o' (bs ++ numsB (l.take k)) (be32 x) rfl 4 4 ⟨wr.heap.size, 0, none⟩ rfl rfl ?hc ?HO ?hl ?_)
        case hc => exact news_new _ _ (by simp) _ _ _ (by simp [be32, HB.out.1, HB.out.2.1, HB.out.2.2.1, HB.out.2.2.2])
        case HO => exact HV.out.kp (S := One b) (by repeat (first | exact Kp.refl _ _ | apply Kp.drewN | apply Kp.alloc | apply Kp.set1)) (fun y hy e => HNO.out (e ▸ hy))
        case hl => rw [List.length_append, numsB_length, List.length_take]; simp only [be32, List.length_cons, List.length_nil]; omega
        intro v1 w2 o1 hown hnx hkp2
        obtain ⟨A1, n1, cc1, rfl⟩ := hown.form
        have hd0 := (hkp2.cell b 0 (by simp; omega) (fun e => HNO.out e)).trans (by go_simp : _ = some v)
        have hd1 := (hkp2.cell b 1 (by simp; omega) (fun e => HNO.out e)).trans (by go_simp : _ = some (.bool true))
        have hy0 := (hkp2.frozen b 0 (by simp; omega) (fun e => HNO.out e)).trans (by go_simp : _ = false)
        have hy1 := (hkp2.frozen b 1 (by simp; omega) (fun e => HNO.out e)).trans (by go_simp : _ = false)
        have HR := Lib.hid (pkr_step HNX.out HK.out hbl HNO.out (by repeat (first | exact Kp.refl _ _ | apply Kp.drewN | apply Kp.alloc | apply Kp.set1)) hown hnx hkp2 hd0 hd1 hy0 hy1)
        clear hown hnx hkp2
        go_wp2_with fail
        go_roundw
        case rel =>
          obtain ⟨o2, hp2, hn2, hk2⟩ := HR.out
          exact ⟨k + 1, by omega, by go_num, o2, by rw [numsB_take HX.out, badS_take HX.out, ← Bool.or_assoc, HBB.out, HB1.out]; simpa only [List.append_assoc] using hp2, hn2, hk2⟩
        case measure => simp [intOf]; omega
      · have HH : (false || off28 x) = true := by simp [off28]; omega
        have HB1 := Lib.hid HH
        clear HH
        go_wp2_with (at_builtin; refine app_cells rfl _ _ rfl _ o' (bs ++ numsB (l.take k)) (be32 x) rfl 4 4 ⟨wr.heap.size, 0, none⟩ rfl rfl ?hc ?HO ?hl ?_)
        case hc => exact news_new _ _ (by simp) _ _ _ (by simp [be32, HB.out.1, HB.out.2.1, HB.out.2.2.1, HB.out.2.2.2])
        case HO => exact HV.out.kp (S := One b) (by repeat (first | exact Kp.refl _ _ | apply Kp.drewN | apply Kp.alloc | apply Kp.set1)) (fun y hy e => HNO.out (e ▸ hy))
        case hl => rw [List.length_append, numsB_length, List.length_take]; simp only [be32, List.length_cons, List.length_nil]; omega
        intro v1 w2 o1 hown hnx hkp2
        obtain ⟨A1, n1, cc1, rfl⟩ := hown.form
        have hd0 := (hkp2.cell b 0 (by simp; omega) (fun e => HNO.out e)).trans (by go_simp : _ = some v)
        have hd1 := (hkp2.cell b 1 (by simp; omega) (fun e => HNO.out e)).trans (by go_simp : _ = some (.bool true))
        have hy0 := (hkp2.frozen b 0 (by simp; omega) (fun e => HNO.out e)).trans (by go_simp : _ = false)
        have hy1 := (hkp2.frozen b 1 (by simp; omega) (fun e => HNO.out e)).trans (by go_simp : _ = false)
        have HR := Lib.hid (pkr_step HNX.out HK.out hbl HNO.out (by repeat (first | exact Kp.refl _ _ | apply Kp.drewN | apply Kp.alloc | apply Kp.set1)) hown hnx hkp2 hd0 hd1 hy0 hy1)
        clear hown hnx hkp2
        go_wp2_with fail
        go_roundw
        case rel =>
          obtain ⟨o2, hp2, hn2, hk2⟩ := HR.out
          exact ⟨k + 1, by omega, by go_num, o2, by rw [numsB_take HX.out, badS_take HX.out, ← Bool.or_assoc, HBB.out, HB1.out]; simpa only [List.append_assoc] using hp2, hn2, hk2⟩
        case measure => simp [intOf]; omega
      · have HH : (false || off28 x) = true := by simp [off28]; omega
        have HB1 := Lib.hid HH
        clear HH
        go_wp2_with (at_builtin; refine app_cells rfl _ _ rfl _ o' (bs ++ numsB (l.take k)) (be32 x) rfl 4 4 ⟨wr.heap.size, 0, none⟩ rfl rfl ?hc ?HO ?hl ?_)
        case hc => exact news_new _ _ (by simp) _ _ _ (by simp [be32, HB.out.1, HB.out.2.1, HB.out.2.2.1, HB.out.2.2.2])
        case HO => exact HV.out.kp (S := One b) (by repeat (first | exact Kp.refl _ _ | apply Kp.drewN | apply Kp.alloc | apply Kp.set1)) (fun y hy e => HNO.out (e ▸ hy))
        case hl => rw [List.length_append, numsB_length, List.length_take]; simp only [be32, List.length_cons, List.length_nil]; omega
        intro v1 w2 o1 hown hnx hkp2
        obtain ⟨A1, n1, cc1, rfl⟩ := hown.form
        have hd0 := (hkp2.cell b 0 (by simp; omega) (fun e => HNO.out e)).trans (by go_simp : _ = some v)
        have hd1 := (hkp2.cell b 1 (by simp; omega) (fun e => HNO.out e)).trans (by go_simp : _ = some (.bool true))
        have hy0 := (hkp2.frozen b 0 (by simp; omega) (fun e => HNO.out e)).trans (by go_simp : _ = false)
        have hy1 := (hkp2.frozen b 1 (by simp; omega) (fun e => HNO.out e)).trans (by go_simp : _ = false)
        have HR := Lib.hid (pkr_step HNX.out HK.out hbl HNO.out (by repeat (first | exact Kp.refl _ _ | apply Kp.drewN | apply Kp.alloc | apply Kp.set1)) hown hnx hkp2 hd0 hd1 hy0 hy1)
        clear hown hnx hkp2
        go_wp2_with fail
        go_roundw
        case rel =>
          obtain ⟨o2, hp2, hn2, hk2⟩ := HR.out
          exact ⟨k + 1, by omega, by go_num, o2, by rw [numsB_take HX.out, badS_take HX.out, ← Bool.or_assoc, HBB.out, HB1.out]; simpa only [List.append_assoc] using hp2, hn2, hk2⟩
        case measure => simp [intOf]; omega
      · have HH : (false || off28 x) = false := by unfold off28; rw [decide_eq_false (show ¬ x < 0 by omega), decide_eq_false (show ¬ x > 268435455 by omega)]; rfl
        have HB1 := Lib.hid HH
        clear HH
        go_wp2_with (at_builtin; refine app_cells rfl _ _ rfl _ o' (bs ++ numsB (l.take k)) (be32 x) rfl 4 4 ⟨wr.heap.size, 0, none⟩ rfl rfl ?hc ?HO ?hl ?_)
        case hc => exact news_new _ _ (by simp) _ _ _ (by simp [be32, HB.out.1, HB.out.2.1, HB.out.2.2.1, HB.out.2.2.2, show x / 16777216 % 256 = x / 16777216 by omega])
        case HO => exact HV.out.kp (S := One b) (by repeat (first | exact Kp.refl _ _ | apply Kp.drewN | apply Kp.alloc | apply Kp.set1)) (fun y hy e => HNO.out (e ▸ hy))
        case hl => rw [List.length_append, numsB_length, List.length_take]; simp only [be32, List.length_cons, List.length_nil]; omega
        intro v1 w2 o1 hown hnx hkp2
        obtain ⟨A1, n1, cc1, rfl⟩ := hown.form
        have hd0 := (hkp2.cell b 0 (by simp; omega) (fun e => HNO.out e)).trans (by go_simp : _ = some v)
        have hd1 := (hkp2.cell b 1 (by simp; omega) (fun e => HNO.out e)).trans (by go_simp : _ = some (.bool false))
        have hy0 := (hkp2.frozen b 0 (by simp; omega) (fun e => HNO.out e)).trans (by go_simp : _ = false)
        have hy1 := (hkp2.frozen b 1 (by simp; omega) (fun e => HNO.out e)).trans (by go_simp : _ = false)
        have HR := Lib.hid (pkr_step HNX.out HK.out hbl HNO.out (by repeat (first | exact Kp.refl _ _ | apply Kp.drewN | apply Kp.alloc | apply Kp.set1)) hown hnx hkp2 hd0 hd1 hy0 hy1)
        clear hown hnx hkp2
        go_wp2_with fail
        go_roundw
        case rel =>
          obtain ⟨o2, hp2, hn2, hk2⟩ := HR.out
          exact ⟨k + 1, by omega, by go_num, o2, by rw [numsB_take HX.out, badS_take HX.out, ← Bool.or_assoc, HBB.out, HB1.out]; simpa only [List.append_assoc] using hp2, hn2, hk2⟩
        case measure => simp [intOf]; omega
    · go_wp2_with fail
      go_end0
      have hkk : k = l.length := by omega
      subst hkk
      rw [List.take_length] at hp
      exact ⟨rfl, o', hp, hx, hkp⟩

end Go.Proofs.Ytakhkjidcnahjaa
