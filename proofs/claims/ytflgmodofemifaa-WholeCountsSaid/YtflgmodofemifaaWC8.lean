/-
  Joined texts: balance.text, balance.Text. · transfer: effects in memory; run. · GENERIC LAWS: rows that were made in whatever order. · transfer.join: the walk.
-/
import Derived.Test.YtflgmodofemifaaWC7
import Derived.Test.YtflgmodofemifaaWC4
import Derived.Laws.OwnMore

/- balance.text, balance.Text. -/
namespace Go.Proofs.Ytflgmodofemifaa
open Go.RowKit Go.Maps
set_option linter.unusedVariables false
set_option linter.unusedSimpArgs false

theorem EU8c : Elt Try.prog 22 5 .u8 1 := ⟨Try.underlying22, info_parts (by kernel_rfl)⟩

/-- what text hands back -/
def TxPost (B bs most : Nat) (L : List En) (n : Nat) (l : List Int) (w : World) (r : Ending) (w' : World) : Prop :=
  ∃ (id : Nat) (L' : List En), r = .returned (.tuple #[.int .i64 (id : Nat), .nilIface]) ∧ SI B w' bs most L' ∧ Ext L L' ∧ L'.length + 1 ≤ L.length + 2 * n ∧ 0 < id ∧ id ≤ L'.length ∧ tx L' id = l.map Int.toNat ∧ BK B w w'

theorem wrap_small {u : Nat} (h : u ≤ 65536) : wrap64 (u : Int) = (u : Int) ∧ IntKind.i64.wrap (u : Int) = (u : Int) := ⟨by unfold wrap64; omega, IntWalk.i64_in _ (by omega)⟩

theorem get_of_le {α : Type} {l : List α} {i : Nat} (h : i < l.length) : ∃ x, l[i]? = some x := ⟨_, List.getElem?_eq_getElem h⟩

/-- bytes that stay readable whatever the store's calls do -/
def PR (B : Nat) (w : World) (a : Option Addr) (n : Nat) (l : List Int) : Prop := ∀ w', BK B w w' → Rd w' .u8 a n l
theorem PR.rd {B w a n l} (h : PR B w a n l) : Rd w .u8 a n l := h w ⟨Below.refl _ _, Kp.refl _⟩
theorem PR.cutH {B w a n l} (h : PR B w a n l) {c v : Nat} (hv : v ≤ n) (hnc : n ≤ c) :
    ∃ a', PR B w a' v (l.take v) ∧ ∀ (kh : IntKind) (w : World), (Instr.slice 22 (.slice a n c) none (some (.int kh (v : Int))) none).run Try.prog w = .ok (.slice a' v c) w := by
  obtain ⟨a1, h1, h2⟩ := Rd.cutH (P := Try.prog) EU8c h.rd (c := c) (v := v) hv hnc
  refine ⟨a1, fun w' hb => ?_, h2⟩
  obtain ⟨a2, h3, h4⟩ := Rd.cutH (P := Try.prog) EU8c (h w' hb) (c := c) (v := v) hv hnc
  have e := (h2 .i64 w).symm.trans (h4 .i64 w)
  have e2 : a1 = a2 := by
    have := Result.ok.inj e
    exact (Value.slice.inj this.1).1
  rw [e2]; exact h3
theorem PR.cutL {B w a n l} (h : PR B w a n l) {c u : Nat} (hu : u ≤ n) (hnc : n ≤ c) :
    ∃ a', PR B w a' (n - u) (l.drop u) ∧ ∀ (kl : IntKind) (w : World), (Instr.slice 22 (.slice a n c) (some (.int kl (u : Int))) none none).run Try.prog w = .ok (.slice a' (n - u) (c - u)) w := by
  obtain ⟨a1, h1, h2⟩ := Rd.cutL (P := Try.prog) EU8c h.rd (c := c) (u := u) hu hnc
  refine ⟨a1, fun w' hb => ?_, h2⟩
  obtain ⟨a2, h3, h4⟩ := Rd.cutL (P := Try.prog) EU8c (h w' hb) (c := c) (u := u) hu hnc
  have e := (h2 .i64 w).symm.trans (h4 .i64 w)
  have e2 : a1 = a2 := by
    have := Result.ok.inj e
    exact (Value.slice.inj this.1).1
  rw [e2]; exact h3
theorem PR.on {B w w' a n l} (h : PR B w a n l) (hb : BK B w w') : PR B w' a n l := fun w2 h2 => h w2 (hb.trans h2)

/-- the entry of a number -/
theorem SI.ent {B w bs most L} (h : SI B w bs most L) {id : Nat} (h0 : 0 < id) (hl : id ≤ L.length) : ∃ e, L[id - 1]? = some e ∧ e.we.len = (tx L id).length := by
  obtain ⟨e, he⟩ := get_of_le (l := L) (i := id - 1) (by omega)
  refine ⟨e, he, ?_⟩
  have := h.good.len _ _ he
  rwa [show id - 1 + 1 = id by omega] at this

set_option maxRecDepth 100000 in
set_option maxHeartbeats 2000000 in
theorem text_any (B bs most : Nat) : ∀ (N n : Nat), n ≤ N → ∀ (a : Option Addr) (c : Nat) (l : List Int) (L : List En) (w : World), 0 < n → n ≤ 65536 → n ≤ c → PR B w a n l → SI B w bs most L → B ≤ w.heap.size → L.length + 2 * n ≤ most →
    Calls Try.prog 18 #[.pointer (some ⟨bs, 0, none⟩), .slice a n c] w (TxPost B bs most L n l w) := by
  intro N
  induction N with
  | zero => intro n hn a c l L w h0; omega
  | succ N ih =>
    intro n hn a c l L w h0 hn9 hnc hr hs hB hro
    have HS := Lib.hid hs
    have HR := Lib.hid hr
    have HB := Lib.hid hB
    have HRO := Lib.hid hro
    have hne : ∀ w, (binOp .neq 34 .nilIface .nilIface).run Try.prog w = .ok (.bool false) w := fun w => by kernel_rfl
    by_cases h1 : n = 1
    · subst h1
      obtain ⟨b1, o1, rfl, hc⟩ := hr.rd.cell 0 (by omega)
      have hwf := bd_u8 (hr.rd.wf (l.getD 0 0) (getD_mem (by rw [hr.rd.len]; omega)))
      obtain ⟨b, hb⟩ := Int.eq_ofNat_of_zero_le hwf.1
      rw [hb] at hc
      rw [Nat.add_zero] at hc
      have HBT := Lib.hid (show b < 256 by omega)
      have HLB : Hid (l.map Int.toNat = [b]) := Lib.hid (by
        have hl1 := hr.rd.len
        match l, hl1, hb with
        | [x], _, hb => simp [List.getD] at hb; simp [hb])
      clear hs hr hB hro hwf hb hn9
      go_enter Try.func18, Try.ntmps18
      go_wp2_with fail
      refine (letter_any HS.out b HBT.out (by have := HRO.out; omega) HB.out).mono ?_
      rintro e2 w2 ⟨id, L', e, rfl, hs2, hx2, hl2, hi2, he2, hr2, hb2⟩
      have HFIN : Hid (TxPost B bs most L 1 l w (.returned (.tuple #[.int .i64 (id : Nat), .nilIface])) w2) := Lib.hid (by
        have hil := (List.getElem?_eq_some_iff.1 he2).1
        refine ⟨id, L', rfl, hs2, hx2, by omega, hi2, by omega, ?_, hb2⟩
        have h := tx_at hs2.good he2
        rw [show id - 1 + 1 = id by omega, hr2] at h
        rw [h, HLB.out]; rfl)
      clear hs2 hx2 hl2 hi2 he2 hr2 hb2
      go_wp2
      go_ret2
      exact HFIN.out
    · obtain ⟨u, hu⟩ : ∃ u, u = n / 2 := ⟨_, rfl⟩
      have hn1 : ((n : Int) == 1) = false := by rw [beq_eq_false_iff_ne]; omega
      have hdiv : (n : Int) / 2 = (u : Int) := by omega
      have hu9 : u ≤ 65536 := by omega
      have HWU := Lib.hid (wrap_small hu9)
      obtain ⟨a1, hr1, hsl1⟩ := PR.cutH hr (c := c) (v := u) (by omega) hnc
      obtain ⟨a2, hr2, hsl2⟩ := PR.cutL hr (c := c) (u := u) (by omega) hnc
      obtain ⟨m, hm⟩ : ∃ m, m = n - u := ⟨_, rfl⟩
      rw [← hm] at hr2 hsl2
      have HIH := Lib.hid ih
      have HR1 := Lib.hid hr1
      have HR2 := Lib.hid hr2
      have HU := Lib.hid (show 0 < u ∧ u ≤ N ∧ u ≤ 65536 ∧ u ≤ c ∧ 0 < m ∧ m ≤ N ∧ m ≤ 65536 ∧ m ≤ c - u ∧ u + m = n by omega)
      have HN9 := Lib.hid hn9
      clear hs hr hB hro ih h1 h0 hn hu hm hr1 hr2 hu9 hn9 hnc
      obtain ⟨hwu, hwu2⟩ := HWU.out
      go_enter Try.func18, Try.ntmps18
      go_wp2_with fail
      refine (HIH.out u HU.out.2.1 a1 c (l.take u) L w HU.out.1 HU.out.2.2.1 HU.out.2.2.2.1 HR1.out HS.out HB.out (by have := HRO.out; have := HU.out; omega)).mono ?_
      rintro e2 w2 ⟨id1, L1, rfl, hs2, hx2, hl2, hi2, hj2, ht2, hb2⟩
      have HS2 := Lib.hid hs2
      have HX2 := Lib.hid hx2
      have HL2 := Lib.hid (And.intro hl2 (And.intro hi2 hj2))
      have HT2 := Lib.hid ht2
      have HB2 := Lib.hid hb2
      clear hs2 hx2 hl2 hi2 hj2 ht2 hb2
      go_wp2_with fail
      refine (HIH.out m HU.out.2.2.2.2.2.1 a2 (c - u) (l.drop u) L1 w2 HU.out.2.2.2.2.1 HU.out.2.2.2.2.2.2.1 HU.out.2.2.2.2.2.2.2.1 (HR2.out.on HB2.out) HS2.out (Nat.le_trans HB.out HB2.out.1.size) (by have := HRO.out; have := HU.out; have := HL2.out; omega)).mono ?_
      rintro e3 w3 ⟨id2, L2, rfl, hs3, hx3, hl3, hi3, hj3, ht3, hb3⟩
      have HS3 := Lib.hid hs3
      have HX3 := Lib.hid hx3
      have HL3 := Lib.hid (And.intro hl3 (And.intro hi3 hj3))
      have HT3 := Lib.hid ht3
      have HB3 := Lib.hid (HB2.out.trans hb3)
      have HT21 : Hid (tx L2 id1 = (l.take u).map Int.toNat) := Lib.hid (by rw [HX3.out.tx HL2.out.2.1 HL2.out.2.2]; exact HT2.out)
      obtain ⟨e1, he1, hlen1⟩ := HS3.out.ent (id := id1) HL2.out.2.1 (Nat.le_trans HL2.out.2.2 HX3.out.len)
      obtain ⟨e2, he2, hlen2⟩ := HS3.out.ent (id := id2) HL3.out.2.1 HL3.out.2.2
      have HE := Lib.hid (And.intro he1 he2)
      have HLE : Hid (e1.we.len + e2.we.len ≤ ML) := Lib.hid (by
        rw [hlen1, hlen2, HT21.out, HT3.out, List.length_map, List.length_map, HR1.out.rd.len, HR2.out.rd.len]
        have h1 := HU.out
        have h2 := HN9.out
        have h3 : n ≤ ML := by rw [ML_val]; omega
        omega)
      clear hs3 hx3 hl3 hi3 hj3 ht3 hb3 he1 he2 hlen1 hlen2
      go_wp2_with fail
      refine (pair_any HS3.out id1 id2 e1 e2 HL2.out.2.1 HL3.out.2.1 HE.out.1 HE.out.2 HLE.out (by have := HRO.out; have := HU.out; have := HL2.out; have := HL3.out; omega) (Nat.le_trans HB.out HB3.out.1.size)).mono ?_
      rintro e4 w4 ⟨id, L3, e, rfl, hs4, hx4, hl4, hi4, he4, hru, hb4⟩
      have HFIN : Hid (TxPost B bs most L n l w (.returned (.tuple #[.int .i64 (id : Nat), .nilIface])) w4) := Lib.hid (by
        have hil := (List.getElem?_eq_some_iff.1 he4).1
        refine ⟨id, L3, rfl, hs4, (HX2.out.trans HX3.out).trans hx4, by have := HU.out; have := HL2.out; have := HL3.out; omega, hi4, by omega, ?_, HB3.out.trans hb4⟩
        have h := tx_at hs4.good he4
        rw [show id - 1 + 1 = id by omega, hru] at h
        rw [h]
        simp only [Nat.reduceEqDiff, if_false, if_true]
        rw [hx4.tx HL2.out.2.1 (Nat.le_trans HL2.out.2.2 HX3.out.len), hx4.tx HL3.out.2.1 HL3.out.2.2, HT21.out, HT3.out, ← List.map_append, List.take_append_drop])
      clear hs4 hx4 hl4 hi4 he4 hru hb4
      go_wp2
      go_ret2
      exact HFIN.out

set_option maxRecDepth 100000 in
theorem Text_any (B bs most : Nat) (n : Nat) (a : Option Addr) (c : Nat) (l : List Int) (L : List En) (w : World) (h0 : 0 < n) (hn9 : n ≤ 65536) (hnc : n ≤ c) (hr : PR B w a n l) (hs : SI B w bs most L) (hB : B ≤ w.heap.size) (hro : L.length + 2 * n ≤ most) :
    Calls Try.prog 8 #[.pointer (some ⟨bs, 0, none⟩), .slice a n c] w (TxPost B bs most L n l w) := by
  have HT := Lib.hid (text_any B bs most n n (Nat.le_refl _) a c l L w h0 hn9 hnc hr hs hB hro)
  have hn1 : ((n : Int) == 0) = false := by rw [beq_eq_false_iff_ne]; omega
  have hn2 : decide ((65536 : Int) < (n : Int)) = false := by rw [decide_eq_false_iff_not]; omega
  clear hr hs hB hro hn9 h0
  go_enter Try.func8, Try.ntmps8
  go_wp2_with fail
  refine HT.out.mono ?_
  rintro e2 w2 ⟨id, L', rfl, hs2⟩
  have HFIN := Lib.hid hs2
  clear hs2
  go_wp2
  go_ret2
  exact ⟨id, L', rfl, HFIN.out⟩

end Go.Proofs.Ytflgmodofemifaa

/- transfer: effects in memory; run. -/
namespace Go.Proofs.Ytflgmodofemifaa
open Go.RowKit Go.Maps
set_option linter.unusedVariables false
set_option linter.unusedSimpArgs false

/-- an effect in memory -/
structure EfR (m : Mc) (w : World) (ae ah : Option Addr) (t : List Nat) : Prop where
  e : Rd w .u8 ae m.next.length (m.endL t)
  h : Rd w .i64 ah m.next.length (m.hitL t)
theorem EfR.below {m w w' ae ah t} (h : EfR m w ae ah t) (hb : Below w.heap.size w w') : EfR m w' ae ah t := ⟨h.e.below hb, h.h.below hb⟩

set_option maxRecDepth 100000 in
set_option maxHeartbeats 1000000 in
theorem run_any (m : Mc) (hm : McOk m) (w : World) (ae ah : Option Addr) (ce ch : Nat) (t : List Nat) (hb : Bts t) (h : EfR m w ae ah t) (q k : Nat) (hq : q < m.next.length) (hk : k + m.hs q t ≤ ML) :
    Calls Try.prog 55 #[.agg #[.slice ae m.next.length ce, .slice ah m.next.length ch], .int .i64 (q : Nat), .int .i64 (k : Nat)] w fun e w' => e = .returned (.tuple #[.int .i64 (m.st q t : Nat), .int .i64 ((k + m.hs q t : Nat) : Int)]) ∧ Below w.heap.size w w' := by
  obtain ⟨n, hn⟩ : ∃ n, n = m.next.length := ⟨_, rfl⟩
  obtain ⟨w1, hw1⟩ : ∃ w1, w1 = w.alloc (.cells [.slice ae n ce, .slice ah n ch].toArray 89) := ⟨_, rfl⟩
  have HB := Lib.hid (show Below w.heap.size w w1 by rw [hw1]; exact below_alloc _ _)
  have hx : BX w1 w.heap.size [.slice ae n ce, .slice ah n ch] := by rw [hw1]; exact BX.alloc _ _ _
  have h1 := h.below HB.out
  obtain ⟨b1, o1, rfl, c1⟩ := h1.e.cell q hq
  obtain ⟨b2, o2, rfl, c2⟩ := h1.h.cell q hq
  rw [m.endL_get t hq] at c1
  rw [m.hitL_get t hq] at c2
  have HW1 := Lib.hid hw1
  have hs9 := hm.st_lt t q hq hb
  have hn9 := hm.n9
  obtain ⟨q2, hq2⟩ : ∃ q2, q2 = m.st q t := ⟨_, rfl⟩
  obtain ⟨z, hz⟩ : ∃ z, z = m.hs q t := ⟨_, rfl⟩
  obtain ⟨s, hs⟩ : ∃ s, s = k + z := ⟨_, rfl⟩
  rw [← hq2] at c1 hs9 ⊢
  rw [← hz] at c2 hk ⊢
  rw [← hs] at hk ⊢
  rw [← hn] at hq hn9 hs9 ⊢
  rw [ML_val] at hk
  have hsum : (k : Int) + (z : Int) = (s : Int) := by omega
  have hws : IntKind.i64.wrap (s : Int) = (s : Int) := IntWalk.i64_in _ (by omega)
  have hmin : min (s : Int) 1152921504606846977 = (s : Int) := by omega
  have hcv : IntKind.i64.wrap (q2 : Int) = (q2 : Int) := IntWalk.i64_in _ (by omega)
  have hqi : (q : Int) < (n : Int) := by omega
  have x0 := hx.cell (j := 0) rfl
  have x1 := hx.cell (j := 1) rfl
  clear hx h h1 hw1 hk hs hz hq2 hs9 hn9 hn hb
  go_enter Try.func55, Try.ntmps55
  go_upto_region 1 with fail
  rw [← HW1.out]
  go_region_held3 (fun wx => wx.cell? ⟨w.heap.size, 0, none⟩ = some (.slice (some ⟨b1, o1, none⟩) n ce) ∧ wx.cell? ⟨w.heap.size, 1, none⟩ = some (.slice (some ⟨b2, o2, none⟩) n ch) ∧ wx.cell? ⟨b1, o1 + q, none⟩ = some (.int .u8 (q2 : Nat)) ∧ wx.cell? ⟨b2, o2 + q, none⟩ = some (.int .i64 (z : Nat))) (first | exact ⟨x0, x1, c1, c2⟩) (fail)
  go_wp2
  go_ret2
  exact ⟨rfl, HB.out.drew⟩

end Go.Proofs.Ytflgmodofemifaa

/- GENERIC LAWS: rows that were made in whatever order. -/
namespace Go.Proofs.Ytflgmodofemifaa
open Go.RowKit
set_option linter.unusedVariables false
set_option linter.unusedSimpArgs false

theorem RF.nil {B : Nat} {N : Nat → Prop} {w : World} (nl : ∀ b, N b → b < w.heap.size) (bw : B ≤ w.heap.size) : RF B N w [] :=
  ⟨fun i e v xs hi => by simp [AtR] at hi, fun i j e v xs e' v' xs' g _ hi => by simp [AtR] at hi, fun i e v xs g hi => by simp [AtR] at hi, nl, bw⟩
/-- make([]T, n): the run -/
theorem make_run (P : Program) {t e : TypeId} {z : Value} {bytes : Nat} (E : EltG P t e z 1 bytes) (hz : z.cells = #[z]) (n : Nat) (hb : n * bytes ≤ 281474976710656) (hn : n ≤ 9223372036854775807) : ∃ C : Array Value, C.toList = List.replicate n z ∧ ∀ w : World, (Instr.makeSlice t (.int .i64 (n : Int)) (.int .i64 (n : Int))).run P w = .ok (.slice (some ⟨w.heap.size, 0, none⟩) n n) (w.alloc (.cells C e)) := by
  obtain ⟨i, hi, hz2, hsz, hby⟩ := E.hi
  have hb' : (i.bytes : Int) * (n : Int) ≤ 281474976710656 := by
    have h : ((i.bytes * n : Nat) : Int) ≤ 281474976710656 := by rw [hby, Nat.mul_comm]; omega
    rwa [Int.natCast_mul] at h
  refine ⟨madeCells z.cells (n * i.size), ?_, fun w => ?_⟩
  · rw [hsz, Nat.mul_one, hz, toList_madeCells_one]
  · have hr := run_make (P := P) w t e i z E.ht hi hz2 .i64 .i64 n n (by omega) (by omega) hb' (by omega)
    simp only [Int.toNat_natCast] at hr
    exact hr
theorem RF.newMade {B N w l} (h : RF B N w l) {e : TypeId} {z : Value} {C : Array Value} {n : Nat} (hC : C.toList = List.replicate n z) (hn : n ≤ 9223372036854775807) : RF B N (w.alloc (.cells C e)) (l ++ [some (e, .slice (some ⟨w.heap.size, 0, none⟩) n n, List.replicate n z)]) := by
  refine h.new ?_ (below_alloc _ _) (.inl rfl)
  rw [List.length_replicate]
  refine ⟨by simp, .inr ⟨w.heap.size, n, C, rfl, h.bw, heap_alloc_new w _, Nat.le_refl _, by unfold maxLen; omega, ?_, ?_⟩⟩
  · rw [← Array.length_toList, hC]; simp
  · rw [hC]; simp

theorem at3 {x0 x1 x2 : Option Rw} {rs : List (Option Rw)} {e v xs} {k : Nat} (hk : rs.length = k) : AtR (x0 :: x1 :: x2 :: (rs ++ [some (e, v, xs)])) (k + 3) e v xs := by
  show (rs ++ [some (e, v, xs)])[k]? = _
  rw [List.getElem?_append_right (by omega), hk, Nat.sub_self]; rfl
theorem at3i {x0 x1 x2 : Option Rw} {rs : List (Option Rw)} {e v xs} {i : Nat} (hi : rs[i]? = some (some (e, v, xs))) : AtR (x0 :: x1 :: x2 :: rs) (i + 3) e v xs := hi
theorem heap_alloc_old' (w : World) (o : Obj) (i : Nat) (h : i < w.heap.size) : (w.alloc o).heap[i]? = w.heap[i]? := by
  show (w.heap.push o)[i]? = w.heap[i]?
  rw [Array.getElem?_push, if_neg (Nat.ne_of_lt h)]
theorem al3 (w : World) (a b c : Obj) : ((((w.alloc a).alloc b).alloc c).drew).heap[w.heap.size]? = some a ∧ ((((w.alloc a).alloc b).alloc c).drew).heap[w.heap.size + 1]? = some b ∧ ((((w.alloc a).alloc b).alloc c).drew).heap[w.heap.size + 1 + 1]? = some c ∧ ((((w.alloc a).alloc b).alloc c).drew).heap.size = w.heap.size + 1 + 1 + 1 := by
  have s1 : (w.alloc a).heap.size = w.heap.size + 1 := by simp
  have s2 : ((w.alloc a).alloc b).heap.size = w.heap.size + 1 + 1 := by simp
  have h1 := heap_alloc_new w a
  have h2 := heap_alloc_new (w.alloc a) b
  have h3 := heap_alloc_new ((w.alloc a).alloc b) c
  rw [s1] at h2
  rw [s2] at h3
  refine ⟨?_, ?_, h3, by simp⟩
  · show (((w.alloc a).alloc b).alloc c).heap[w.heap.size]? = some a
    exact (heap_alloc_old' _ _ _ (by omega)).trans ((heap_alloc_old' _ _ _ (by omega)).trans h1)
  · show (((w.alloc a).alloc b).alloc c).heap[w.heap.size + 1]? = some b
    exact (heap_alloc_old' _ _ _ (by omega)).trans h2
/-- two rows and a block of four cells that were made, in whatever order -/
theorem RF.two {B : Nat} {w : World} {e1 e2 : TypeId} {z1 z2 : Value} {C1 C2 : Array Value} {n1 n2 x y q : Nat} (hC1 : C1.toList = List.replicate n1 z1) (hC2 : C2.toList = List.replicate n2 z2) (h1 : n1 ≤ 1000000) (h2 : n2 ≤ 1000000)
    (hx : w.heap[x]? = some (.cells C1 e1)) (hy : w.heap[y]? = some (.cells C2 e2)) (hxy : x ≠ y) (hxq : x ≠ q) (hyq : y ≠ q) (hBx : B ≤ x) (hBy : B ≤ y) (hq : q < w.heap.size) (hB : B ≤ w.heap.size) :
    RF B (fun b => b = q) w [some (e1, .slice (some ⟨x, 0, none⟩) n1 n1, List.replicate n1 z1), some (e2, .slice (some ⟨y, 0, none⟩) n2 n2, List.replicate n2 z2)] := by
  have row : ∀ (e : TypeId) (z : Value) (C : Array Value) (n b : Nat), C.toList = List.replicate n z → n ≤ 1000000 → w.heap[b]? = some (.cells C e) → B ≤ b → Row w B e 1 (.slice (some ⟨b, 0, none⟩) n n) (List.replicate n z).length (List.replicate n z) := fun e z C n b hC hn hb hBb => by
    rw [List.length_replicate]
    refine ⟨by simp, .inr ⟨b, n, C, rfl, hBb, hb, Nat.le_refl _, by unfold maxLen; omega, ?_, ?_⟩⟩
    · rw [← Array.length_toList, hC]; simp
    · rw [hC]; simp
  have get : ∀ {i e v xs}, AtR [some (e1, .slice (some ⟨x, 0, none⟩) n1 n1, List.replicate n1 z1), some (e2, .slice (some ⟨y, 0, none⟩) n2 n2, List.replicate n2 z2)] i e v xs → (i = 0 ∧ e = e1 ∧ v = .slice (some ⟨x, 0, none⟩) n1 n1 ∧ xs = List.replicate n1 z1) ∨ (i = 1 ∧ e = e2 ∧ v = .slice (some ⟨y, 0, none⟩) n2 n2 ∧ xs = List.replicate n2 z2) := by
    intro i e v xs hi
    rcases i with _ | _ | i
    · have h := Option.some.inj (Option.some.inj hi)
      simp only [Prod.mk.injEq] at h
      exact .inl ⟨rfl, h.1.symm, h.2.1.symm, h.2.2.symm⟩
    · have h := Option.some.inj (Option.some.inj hi)
      simp only [Prod.mk.injEq] at h
      exact .inr ⟨rfl, h.1.symm, h.2.1.symm, h.2.2.symm⟩
    · cases hi
  refine ⟨fun i e v xs hi => ?_, fun i j e v xs e' v' xs' g hne hi hj hg hg' => ?_, fun i e v xs g hi hg hN => ?_, fun b hb => by rw [hb]; exact hq, hB⟩
  · rcases get hi with ⟨_, rfl, rfl, rfl⟩ | ⟨_, rfl, rfl, rfl⟩
    · exact row _ _ _ _ _ hC1 h1 hx hBx
    · exact row _ _ _ _ _ hC2 h2 hy hBy
  · rcases get hi with ⟨a1, rfl, rfl, rfl⟩ | ⟨a1, rfl, rfl, rfl⟩ <;> rcases get hj with ⟨a2, rfl, rfl, rfl⟩ | ⟨a2, rfl, rfl, rfl⟩
    · omega
    · simp [Value.ownBlock] at hg hg'; omega
    · simp [Value.ownBlock] at hg hg'; omega
    · omega
  · rcases get hi with ⟨_, rfl, rfl, rfl⟩ | ⟨_, rfl, rfl, rfl⟩ <;> (simp [Value.ownBlock] at hg; omega)

/-- a store that was carried out as a cell's store -/
theorem RF.stored {B : Nat} {N : Nat → Prop} {w : World} {l : List (Option Rw)} (h : RF B N w l) {i : Nat} {e : TypeId} {g n c : Nat} {xs : List Value} (hi : AtR l i e (.slice (some ⟨g, 0, none⟩) n c) xs) (j : Nat) (u : Value) :
    RF B N (w.setCell ⟨g, j, none⟩ u) (l.set i (some (e, .slice (some ⟨g, 0, none⟩) n c, xs.set j u))) ∧ Fr (fun b => ¬ N b) w (w.setCell ⟨g, j, none⟩ u) ∧ Below B w (w.setCell ⟨g, j, none⟩ u) := by
  have hn := h.len hi
  subst hn
  have hst := World.ownsRow.stored (h.own i _ _ _ hi) j u
  refine ⟨h.turn hi (v' := .slice (some ⟨g, 0, none⟩) xs.length c) (xs' := xs.set j u) (by rw [List.length_set]; exact hst.1) hst.2 (.inl rfl), h.frN hi hst.2, h.grown hi hst.2⟩
/-- the blocks that a callee has made are no rows of the family -/
theorem RF.addAll {B : Nat} {N : Nat → Prop} {w w' : World} {l : List (Option Rw)} (h : RF B N w l) (hb : Below w.heap.size w w') : RF B (fun b => N b ∨ (w.heap.size ≤ b ∧ b < w'.heap.size)) w' l := by
  have h2 := h.below hb
  refine ⟨h2.own, h2.ne, fun i e v xs g hi hg hN => ?_, fun b hN => ?_, h2.bw⟩
  · rcases hN with hN | hN
    · exact h2.av i e v xs g hi hg hN
    · have := (h.lt hi hg).1
      omega
  · rcases hN with hN | hN
    · exact h2.nl b hN
    · exact hN.2

end Go.Proofs.Ytflgmodofemifaa

/- transfer.join: the walk. -/
namespace Go.Proofs.Ytflgmodofemifaa
open Go.RowKit Go.Maps
set_option linter.unusedVariables false
set_option linter.unusedSimpArgs false

theorem EU8G : EltG Try.prog 22 5 (.int .u8 0) 1 1 := ⟨Try.underlying22, info_parts (by kernel_rfl), rfl, by decide⟩
theorem EI64G : EltG Try.prog 28 3 (.int .i64 0) 1 8 := ⟨Try.underlying28, info_parts (by kernel_rfl), rfl, by decide⟩
theorem ef_info : (Try.prog.info? 89).map (·.size) = some 2 := by kernel_rfl

/-- rows of an effect that is being made: up to state q it is done -/
def endTo (m : Mc) (t : List Nat) (q : Nat) : List Value := (List.range m.next.length).map fun j => .int .u8 ((if j < q then m.st j t else 0 : Nat) : Int)
def hitTo (m : Mc) (t : List Nat) (q : Nat) : List Value := (List.range m.next.length).map fun j => .int .i64 ((if j < q then m.hs j t else 0 : Nat) : Int)
theorem endTo_len (m : Mc) (t : List Nat) (q : Nat) : (endTo m t q).length = m.next.length := by simp [endTo]
theorem hitTo_len (m : Mc) (t : List Nat) (q : Nat) : (hitTo m t q).length = m.next.length := by simp [hitTo]
theorem endTo_zero (m : Mc) (t : List Nat) : endTo m t 0 = List.replicate m.next.length (.int .u8 0) := by
  refine List.ext_getElem (by simp [endTo]) fun i h1 h2 => ?_
  simp [endTo]
theorem hitTo_zero (m : Mc) (t : List Nat) : hitTo m t 0 = List.replicate m.next.length (.int .i64 0) := by
  refine List.ext_getElem (by simp [hitTo]) fun i h1 h2 => ?_
  simp [hitTo]
theorem endTo_set (m : Mc) (t : List Nat) {q : Nat} (hq : q < m.next.length) : (endTo m t q).set q (.int .u8 (m.st q t : Nat)) = endTo m t (q + 1) := by
  refine List.ext_getElem (by simp [endTo]) fun i h1 h2 => ?_
  simp only [endTo, List.getElem_set, List.getElem_map, List.getElem_range]
  by_cases e : q = i
  · subst e; simp
  · rw [if_neg e]
    by_cases h : i < q
    · rw [if_pos h, if_pos (by omega)]
    · rw [if_neg h, if_neg (by omega)]
theorem hitTo_set (m : Mc) (t : List Nat) {q : Nat} (hq : q < m.next.length) : (hitTo m t q).set q (.int .i64 (m.hs q t : Nat)) = hitTo m t (q + 1) := by
  refine List.ext_getElem (by simp [hitTo]) fun i h1 h2 => ?_
  simp only [hitTo, List.getElem_set, List.getElem_map, List.getElem_range]
  by_cases e : q = i
  · subst e; simp
  · rw [if_neg e]
    by_cases h : i < q
    · rw [if_pos h, if_pos (by omega)]
    · rw [if_neg h, if_neg (by omega)]
theorem endTo_all (m : Mc) (t : List Nat) : endTo m t m.next.length = (m.endL t).map (Value.int .u8) := by
  refine List.ext_getElem (by simp [endTo, Mc.endL]) fun i h1 h2 => ?_
  have hi : i < m.next.length := by simpa [endTo] using h1
  simp [endTo, Mc.endL, hi]
theorem hitTo_all (m : Mc) (t : List Nat) : hitTo m t m.next.length = (m.hitL t).map (Value.int .i64) := by
  refine List.ext_getElem (by simp [hitTo, Mc.hitL]) fun i h1 h2 => ?_
  have hi : i < m.next.length := by simpa [hitTo] using h1
  simp [hitTo, Mc.hitL, hi]

/-- two rows of a family, as an effect -/
theorem efR_rows {m : Mc} {w : World} {B x y : Nat} {N : Nat → Prop} {t : List Nat} (hm : McOk m) (hb : Bts t) (hl : 4 * t.length ≤ ML)
    (h : RF B N w [some (5, .slice (some ⟨x, 0, none⟩) m.next.length m.next.length, endTo m t m.next.length), some (3, .slice (some ⟨y, 0, none⟩) m.next.length m.next.length, hitTo m t m.next.length)]) :
    EfR m w (some ⟨x, 0, none⟩) (some ⟨y, 0, none⟩) t := by
  have h9 := hm.n9
  rw [endTo_all, hitTo_all] at h
  refine ⟨⟨m.endL_len t, by omega, fun i hi => ⟨x, 0, rfl, ?_⟩, fun z hz => ?_⟩, ⟨m.hitL_len t, by omega, fun i hi => ⟨y, 0, rfl, ?_⟩, fun z hz => ?_⟩⟩
  · rw [Nat.zero_add]
    refine h.cell (i := 0) rfl ?_
    rw [List.getElem?_map, List.getElem?_eq_getElem (by rw [Mc.endL_len]; exact hi)]
    simp [List.getD, Mc.endL_len, hi]
  · obtain ⟨q, hq, rfl⟩ := List.mem_map.1 hz
    have := hm.st_lt t q (List.mem_range.1 hq) hb
    exact wfB (by omega)
  · rw [Nat.zero_add]
    refine h.cell (i := 1) rfl ?_
    rw [List.getElem?_map, List.getElem?_eq_getElem (by rw [Mc.hitL_len]; exact hi)]
    simp [List.getD, Mc.hitL_len, hi]
  · obtain ⟨q, hq, rfl⟩ := List.mem_map.1 hz
    have := hm.hs_le t q
    rw [ML_val] at hl
    exact wfI (by omega)

theorem BX.ofHeap {w : World} {b : Nat} {cs : List Value} {t : TypeId} (h : w.heap[b]? = some (.cells cs.toArray t)) : BX w b cs :=
  ⟨fun j v hj => by
    rw [Nat.zero_add]
    simp only [World.cell?, h]
    simpa using hj, fun j => by simp only [World.frozen?, h]; simp, (Array.getElem?_eq_some_iff.1 h).1⟩
theorem below3 (w : World) (a b c : Obj) : Below w.heap.size w (((w.alloc a).alloc b).alloc c).drew := ((((Below.refl _ _).alloc (Nat.le_refl _) _).alloc (by simp) _).alloc (by simp; try omega) _).drew

/-- what join hands back -/
def JoinPost (m : Mc) (t : List Nat) (w : World) (r : Ending) (w' : World) : Prop :=
  ∃ ae ce ah ch, r = .returned (.agg #[.slice ae m.next.length ce, .slice ah m.next.length ch]) ∧ (∀ z, ae = some z ∨ ah = some z → w.heap.size ≤ z.block) ∧ EfR m w' ae ah t ∧ Below w.heap.size w w'

theorem cguard {P : Program} {w : World} {ops : Array Oper} {rest : List Oper} {o : Oper} {a : Act} {Q : Exit → Act → World → Prop} (op : Op) (_ : o.op = op) (h : wpList P ops Q (o :: rest) a w) : wpList P ops Q (o :: rest) a w := h

set_option maxRecDepth 100000 in
set_option maxHeartbeats 2000000 in
theorem join_any (m : Mc) (hm : McOk m) (w : World) (ae ah be bh : Option Addr) (ce ch de dh : Nat) (s t : List Nat) (hs : Bts s) (ht : Bts t) (hl : 4 * (s.length + t.length) ≤ ML) (h1 : EfR m w ae ah s) (h2 : EfR m w be bh t) :
    Calls Try.prog 72 #[.agg #[.slice ae m.next.length ce, .slice ah m.next.length ch], .agg #[.slice be m.next.length de, .slice bh m.next.length dh]] w (JoinPost m (s ++ t) w) := by
  obtain ⟨n, hn⟩ : ∃ n, n = m.next.length := ⟨_, rfl⟩
  obtain ⟨w1, hw1⟩ : ∃ w1, w1 = ((w.alloc (.cells [.slice ae n ce, .slice ah n ch].toArray 89)).alloc (.cells [.slice be n de, .slice bh n dh].toArray 89)).alloc (.cells [.slice none 0 0, .slice none 0 0].toArray 89) := ⟨_, rfl⟩
  have HB := Lib.hid (show Below w.heap.size w w1 by rw [hw1]; exact ((below_alloc _ _).alloc (by simp) _).alloc (by simp; try omega) _)
  have HX := Lib.hid (show BX w1 w.heap.size [.slice ae n ce, .slice ah n ch] by rw [hw1]; exact (BX.alloc2 _ _ _ _).below (below_alloc _ _))
  have HY := Lib.hid (show BX w1 (w.heap.size + 1) [.slice be n de, .slice bh n dh] by rw [hw1]; exact (BX.allocAt (by simp) _ _).below (below_alloc _ _))
  have HZ := Lib.hid (show BX w1 (w.heap.size + 1 + 1) [.slice none 0 0, .slice none 0 0] by rw [hw1]; exact BX.allocAt (by simp) _ _)
  have HS1 : Hid (w1.heap.size = w.heap.size + 1 + 1 + 1) := Lib.hid (by rw [hw1]; simp)
  have HE1 := Lib.hid (h1.below HB.out)
  have HE2 := Lib.hid (h2.below HB.out)
  have HW1 := Lib.hid hw1
  have HN := Lib.hid (And.intro hn hm.n9)
  obtain ⟨CE, hCE, hmE⟩ := make_run Try.prog EU8G rfl n (by rw [hn]; have := hm.n9; omega) (by rw [hn]; have := hm.n9; omega)
  obtain ⟨CH, hCH, hmH⟩ := make_run Try.prog EI64G rfl n (by rw [hn]; have := hm.n9; omega) (by rw [hn]; have := hm.n9; omega)
  have HCE := Lib.hid hCE
  have HCH := Lib.hid hCH
  have HX0 : Hid (∀ wx, Below w1.heap.size w1 wx → wx.cell? ⟨w.heap.size, 0, none⟩ = some (.slice ae n ce)) := Lib.hid (fun wx hb => (HX.out.below hb).cell (j := 0) rfl)
  rw [← hn]
  clear h1 h2 hw1 hn hCE hCH
  go_enter Try.func72, Try.ntmps72
  go_upto_region 1 with fail
  rw [← HW1.out]
  go_cut [5] (fun s5 wc => ∃ b5 x y : Nat, s5 = .pointer (some ⟨b5, 0, none⟩) ∧ Below w1.heap.size w1 wc ∧ w1.heap.size ≤ b5 ∧ BX wc b5 [.slice (some ⟨x, 0, none⟩) n n, .slice (some ⟨y, 0, none⟩) n n] ∧
    RF w1.heap.size (fun b => b = b5) wc [some (5, .slice (some ⟨x, 0, none⟩) n n, List.replicate n (.int .u8 0)), some (3, .slice (some ⟨y, 0, none⟩) n n, List.replicate n (.int .i64 0))])
  case first =>
    go_region_held3 (fun wx => wx.cell? ⟨w.heap.size, 0, none⟩ = some (.slice ae n ce)) (exact HX0.out _ (by repeat (first | with_reducible exact Below.refl _ _ | with_reducible refine Below.drew ?_ | with_reducible refine bthen ?_ (below_alloc _ _) | with_reducible refine Below.setCell ?_ (by first | (simp; done) | (simp; omega) | omega) _))) (fail)
    all_goals
      go_wp2
      go_meet
      refine' ⟨_, _, _, rfl, below3 _ _ _ _, ?hle, ?bx, ?rf⟩
      case bx => exact BX.ofHeap (t := 89) (by first | exact (al3 _ _ _ _).1 | exact (al3 _ _ _ _).2.1 | exact (al3 _ _ _ _).2.2.1)
      case hle => first | exact Nat.le_refl _ | omega
      case rf =>
        refine RF.two HCE.out HCH.out (by have := HN.out; omega) (by have := HN.out; omega) ?_ ?_ (by omega) (by omega) (by omega) (by omega) (by omega) (by rw [(al3 _ _ _ _).2.2.2]; omega) (by rw [(al3 _ _ _ _).2.2.2]; omega)
        · first | exact (al3 _ _ _ _).1 | exact (al3 _ _ _ _).2.1 | exact (al3 _ _ _ _).2.2.1
        · first | exact (al3 _ _ _ _).1 | exact (al3 _ _ _ _).2.1 | exact (al3 _ _ _ _).2.2.1
  case rest =>
    obtain ⟨b5, x, y, rfl, hbc, hb5, hbx, hrf⟩ := hcut
    have HB5 := Lib.hid hb5
    have HBC := Lib.hid hbc
    have HBX5 := Lib.hid hbx
    have HRF := Lib.hid hrf
    have HXY := Lib.hid (fun (wx : World) (hb : Below w1.heap.size w1 wx) => And.intro (HX.out.below hb) (HY.out.below hb))
    have HMO := Lib.hid hm
    have HST := Lib.hid (And.intro hs (And.intro ht hl))
    have hc0 := (HX.out.below hbc).cell (j := 0) rfl
    clear hbc hb5 hbx hrf hm hs ht hl
    go_upto_region 3 with fail
    go_loopg [21] n (fun gg iv wr => ∃ q : Nat, q ≤ n ∧ gg = n - q ∧ iv = .int .i64 (q : Nat) ∧ Below w1.heap.size w1 wr ∧ BX wr b5 [.slice (some ⟨x, 0, none⟩) n n, .slice (some ⟨y, 0, none⟩) n n] ∧
      RF w1.heap.size (fun b => b = b5) wr [some (5, .slice (some ⟨x, 0, none⟩) n n, endTo m (s ++ t) q), some (3, .slice (some ⟨y, 0, none⟩) n n, hitTo m (s ++ t) q)])
    case atStart => exact ⟨0, by omega, rfl, rfl, HBC.out, HBX5.out, by rw [endTo_zero, hitTo_zero, ← HN.out.1]; exact HRF.out⟩
    case round =>
      obtain ⟨q, hq, rfl, rfl, hbl, hbx, hrf⟩ := hrel
      have HBL := Lib.hid hbl
      have HBXL := Lib.hid hbx
      have HRFL := Lib.hid hrf
      clear hbl hbx hrf HRF HBX5 HBC hc0
      by_cases hlt : q < n
      · have hqm : q < m.next.length := by rw [← HN.out.1]; exact hlt
        obtain ⟨b1, o1, rfl, c1⟩ := HE1.out.e.cell q hqm
        obtain ⟨b2, o2, rfl, c2⟩ := HE1.out.h.cell q hqm
        rw [m.endL_get s hqm] at c1
        rw [m.hitL_get s hqm] at c2
        obtain ⟨q1, hq1⟩ : ∃ q1, q1 = m.st q s := ⟨_, rfl⟩
        obtain ⟨z1, hz1⟩ : ∃ z1, z1 = m.hs q s := ⟨_, rfl⟩
        rw [← hq1] at c1
        rw [← hz1] at c2
        have hq1n : q1 < m.next.length := by rw [hq1]; exact HMO.out.st_lt s q hqm HST.out.1
        have hzb : z1 + m.hs q1 t ≤ ML := by
          have h1 := HMO.out.hs_le s q
          have h2 := HMO.out.hs_le t q1
          have h3 := HST.out.2.2
          omega
        have HRUN := Lib.hid (fun (wx : World) (hb : Below w1.heap.size w1 wx) => run_any m HMO.out wx be bh de dh t HST.out.2.1 (HE2.out.below hb) q1 z1 hq1n hzb)
        obtain ⟨q2, hq2⟩ : ∃ q2, q2 = m.st q1 t := ⟨_, rfl⟩
        obtain ⟨z2, hz2⟩ : ∃ z2, z2 = z1 + m.hs q1 t := ⟨_, rfl⟩
        rw [← hq2, ← hz2, ← HN.out.1] at HRUN
        have HQ2 : Hid (m.st q (s ++ t) = q2 ∧ m.hs q (s ++ t) = z2) := Lib.hid (by rw [Mc.st_app, Mc.hs_app, ← hq1, ← hz1, hq2, hz2]; exact ⟨rfl, rfl⟩)
        have hq2b : q2 < 256 := by
          have h1 := HMO.out.st_lt t q1 hq1n HST.out.2.1
          have h2 := HN.out.2
          have h3 := HN.out.1
          rw [← hq2] at h1; omega
        have hcv : IntKind.u8.wrap (q2 : Int) = (q2 : Int) := by rw [IntKind.wrap_u8]; omega
        have hcv2 : IntKind.i64.wrap (q1 : Int) = (q1 : Int) := IntWalk.i64_in _ (by have := HN.out.2; have := HN.out.1; omega)
        have hqi : (q : Int) < (n : Int) := by omega
        have hn9 : (n : Int) ≤ 256 := by have := HN.out.2; have := HN.out.1; omega
        have HCC := Lib.hid (fun (wx : World) (hb : Below w1.heap.size w1 wx) => And.intro ((HXY.out wx hb).1.cell (j := 0) rfl) (And.intro ((HXY.out wx hb).1.cell (j := 1) rfl) (And.intro ((HXY.out wx hb).2.cell (j := 0) rfl) (And.intro ((HXY.out wx hb).2.cell (j := 1) rfl) (And.intro (below_cell hb c1) (below_cell hb c2))))))
        have HLT := Lib.hid (And.intro hlt hqm)
        clear c1 c2 hq1 hz1 hq2 hz2 hzb hq1n hqm hlt hq2b
        go_upto_region 5 with fail
        go_region_held3 (fun wx => wx.cell? ⟨w.heap.size, 0, none⟩ = some (.slice (some ⟨b1, o1, none⟩) n ce) ∧ wx.cell? ⟨w.heap.size, 1, none⟩ = some (.slice (some ⟨b2, o2, none⟩) n ch) ∧ wx.cell? ⟨w.heap.size + 1, 0, none⟩ = some (.slice be n de) ∧ wx.cell? ⟨w.heap.size + 1, 1, none⟩ = some (.slice bh n dh) ∧ wx.cell? ⟨b1, o1 + q, none⟩ = some (.int .u8 (q1 : Nat)) ∧ wx.cell? ⟨b2, o2 + q, none⟩ = some (.int .i64 (z1 : Nat))) (first | exact HCC.out _ HBL.out.drew | exact HCC.out _ HBL9.out) (first
          | (go_at_call 55; refine (HRUN.out _ HBL.out.drew).mono ?_; rintro e w9 ⟨rfl, hb9⟩; have HB9 : Hid (Below wr.heap.size wr w9) := Lib.hid ((Below.refl _ _).drew.trans hb9); have HBL9 := Lib.hid (HBL.out.trans (HB9.out.mono HBL.out.size)); clear hb9))
        have HBX9 := Lib.hid (HBXL.out.below HB9.out)
        have HRF9 := Lib.hid (HRFL.out.below HB9.out)
        have f0 := HBX9.out.cell (j := 0) rfl
        have f1 := HBX9.out.cell (j := 1) rfl
        go_upto_region 7 with (refine cguard (.store 5 (.tmp 45) (.tmp 44)) rfl ?_; refine RF.store HRF9.out (i := 0) rfl rfl 5 (.tmp 45) (.tmp 44) rfl q rfl (.int .u8 (q2 : Nat)) rfl rfl rfl (by kernel_rfl) (by rw [endTo_len]; exact HLT.out.2) ?_; intro w10 hrf10 hg10 hbl10 hfr10; have HRF10 := Lib.hid hrf10; have HBX10 := Lib.hid (HBX9.out.fr hfr10 (fun h => h rfl)); have HBL10 := Lib.hid (HBL9.out.trans hbl10); clear hrf10 hg10 hbl10 hfr10 f0 f1)
        have f1 := HBX10.out.cell (j := 1) rfl
        go_wp2_with (refine cguard (.store 3 (.tmp 50) (.tmp 49)) rfl ?_; refine RF.store HRF10.out (i := 1) rfl rfl 3 (.tmp 50) (.tmp 49) rfl q rfl (.int .i64 (z2 : Nat)) rfl rfl rfl (by kernel_rfl) (by rw [hitTo_len]; exact HLT.out.2) ?_; intro w11 hrf11 hg11 hbl11 hfr11; have HRF11 := Lib.hid hrf11; have HBX11 := Lib.hid (HBX10.out.fr hfr11 (fun h => h rfl)); have HBL11 := Lib.hid (HBL10.out.trans hbl11); clear hrf11 hg11 hbl11 hfr11 f1)
        go_roundg (n - (q + 1))
        case measure => have := HLT.out.1; omega
        case rel =>
          have h3 := HN.out.2
          have h4 := HLT.out.1
          have h5 := HN.out.1
          refine ⟨q + 1, HLT.out.1, rfl, by go_num, HBL11.out, HBX11.out, ?_⟩
          have h := HRF11.out
          rw [← HQ2.out.1, ← HQ2.out.2] at h
          simp only [List.set_cons_zero, List.set_cons_succ] at h
          rw [endTo_set m _ HLT.out.2, hitTo_set m _ HLT.out.2] at h
          exact h
      · obtain rfl : q = n := by omega
        have HEF : Hid (EfR m wr (some ⟨x, 0, none⟩) (some ⟨y, 0, none⟩) (s ++ t)) := Lib.hid (by
          have h := HRFL.out
          rw [HN.out.1] at h
          exact efR_rows HMO.out (HST.out.1.app HST.out.2.1) (by rw [List.length_append]; exact HST.out.2.2) h)
        have hrg := HBXL.out.rng
        have HTH := Lib.hid ((HZ.out.below HBL.out).there 0 2 (by simp))
        go_upto_region 9 with fail
        go_wp2_with (first | (refine wpList_load_mid rfl 89 _ rfl b5 0 rfl _ _ hrg Try.underlying89 rfl ef_info ?_; clear hrg) | (refine wpList_store_mid rfl 89 _ _ rfl (w.heap.size + 1 + 1) 0 #[.slice (some ⟨x, 0, none⟩) q q, .slice (some ⟨y, 0, none⟩) q q] rfl rfl HTH.out ef_info (by simp [Value.oneCell']) ?_))
        have hz := (HZ.out.below HBL.out).putAll [.slice (some ⟨x, 0, none⟩) q q, .slice (some ⟨y, 0, none⟩) q q] rfl
        refine bodyPost_ret (res_cell rfl _ _ (w.heap.size + 1 + 1) _ _ rfl hz.rng Try.underlying89 rfl ef_info) rfl ?_
        have hfr := frSetCells (w.heap.size + 1 + 1) [.slice (some ⟨x, 0, none⟩) q q, .slice (some ⟨y, 0, none⟩) q q] 0 wr
        have hrn : RF w1.heap.size (fun b => b = b5) _ _ := HRFL.out.fr hfr (fun i e v xs g hi hg e2 => by
          have h1 := (HRFL.out.lt hi hg).2
          have h2 := HS1.out
          omega)
        have hef : EfR m (wr.setCells (w.heap.size + 1 + 1) 0 [.slice (some ⟨x, 0, none⟩) q q, .slice (some ⟨y, 0, none⟩) q q]) (some ⟨x, 0, none⟩) (some ⟨y, 0, none⟩) (s ++ t) := by
          rw [HN.out.1] at hrn ⊢
          exact efR_rows HMO.out (HST.out.1.app HST.out.2.1) (by rw [List.length_append]; exact HST.out.2.2) hrn
        have hlx := (HRFL.out.lt (i := 0) rfl (g := x) rfl).2
        have hly := (HRFL.out.lt (i := 1) rfl (g := y) rfl).2
        refine ⟨_, q, _, q, ?_, (fun z hz => by
          have h2 := HS1.out
          rcases hz with hz | hz
          · cases hz; show w.heap.size ≤ x; omega
          · cases hz; show w.heap.size ≤ y; omega), hef, belowSetCells (HB.out.trans (HBL.out.mono HB.out.size)) (by omega) 0 _ (by have h1 := HB.out.size; have h2 := HBL.out.size; omega)⟩
        rw [← HN.out.1]

end Go.Proofs.Ytflgmodofemifaa
