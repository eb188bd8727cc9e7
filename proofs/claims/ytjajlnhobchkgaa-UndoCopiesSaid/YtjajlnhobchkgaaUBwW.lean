/-
  UndoBetween: the walk.
-/
import Derived.Test.YtjajlnhobchkgaaUStepW
import Derived.Test.YtjajlnhobchkgaaUBetW
import Derived.Test.YtjajlnhobchkgaaURefB
namespace Go.Proofs.Ytjajlnhobchkgaa
open Go.RowKit
set_option linter.unusedVariables false
set_option linter.unusedSimpArgs false

/-- the tree and the reference's tree after the same calls; block mb is neither's -/
structure BI (w0 w : World) (bt mb : Nat) (l : List Nd) (now : Nat) (m : Value) : Prop where
  ex : ∃ S T : Nat → Prop, TI w S bt l now ∧ RT w T m l now ∧ (∀ i, T i → ¬ S i) ∧ ¬ S mb ∧ ¬ T mb ∧ ∀ i, S i → w0.heap.size ≤ i
  inv : Inv l now
  mb0 : w0.heap.size ≤ mb
  mb1 : mb < w.heap.size
  bel : Below w0.heap.size w0 w

theorem BI.below {w0 w w' : World} {bt mb l now m} (h : BI w0 w bt mb l now m) (hb : Below w.heap.size w w') : BI w0 w' bt mb l now m := by
  obtain ⟨S, T, a1, a2, a3, a4, a5, a6⟩ := h.ex
  exact ⟨⟨S, T, a1.below hb, a2.below hb, a3, a4, a5, a6⟩, h.inv, h.mb0, by have := h.mb1; have := hb.size; omega, bthen h.bel hb⟩

theorem BI.st {w0 w : World} {bt mb l now m} (h : BI w0 w bt mb l now m) (v0 v1 v2 : Value) (k : Int) : BI w0 (st4 w mb v0 v1 v2 k) bt mb l now m := by
  obtain ⟨S, T, a1, a2, a3, a4, a5, a6⟩ := h.ex
  have hf := st4_fr w mb v0 v1 v2 k
  exact ⟨⟨S, T, a1.fr hf (fun i hi e => a4 (e ▸ hi)), a2.fr hf (fun i hi e => a5 (e ▸ hi)), a3, a4, a5, a6⟩, h.inv, h.mb0, by have := h.mb1; have := hf.size; omega, h.bel.trans (hf.below (fun i e => e ▸ h.mb0) h.bel.size)⟩

theorem fresh_below (w : World) (o : Obj) (v0 v1 v2 : Value) (k : Int) : Below w.heap.size w (st4 (w.alloc o) w.heap.size v0 v1 v2 k) :=
  (below_alloc w o).trans ((st4_fr (w.alloc o) w.heap.size v0 v1 v2 k).below (fun i e => by omega) (by simp))

theorem BI.step {w0 w : World} {bt mb : Nat} {l : List Nd} {now : Nat} {m : Value} (h : BI w0 w bt mb l now m) (k d t : Int) (hlen : l.length ≤ 999) (hid : (Lit.int .i64 t).wf = true) :
    Calls Try.prog 15 #[.pointer (some ⟨bt, 0, none⟩), m, .agg #[.int .i64 k, .int .i64 d, .int .i64 t]] w fun e x =>
      ∃ m', e = .returned (.tuple #[m', .bool true]) ∧ BI w0 x bt mb (stL (kindF k) d t l now) (stN (kindF k) d t l now) m' ∧ (stL (kindF k) d t l now).length ≤ l.length + 1 ∧ ∀ v0 v1 v2 k', CT w mb v0 v1 v2 k' → CT x mb v0 v1 v2 k' := by
  obtain ⟨S, T, a1, a2, a3, a4, a5, a6⟩ := h.ex
  have hbd := kindF_bd k
  have hi := stp_inv (r := kindF k) (d := d) (t := t) h.inv hbd.1 hbd.2
  have h0 := h.bel.size
  have hm := h.mb1
  refine (step_any w S T bt l now m l now k d t a1 h.inv a2 h.inv a3 hlen hlen hid).mono ?_
  rintro e x ⟨m', rfl, hs⟩
  obtain ⟨S1, T1, b1, b2, b3, b4, b5⟩ := hs.ex
  have hsz := hs.sz
  refine ⟨m', by rw [beq_self_eq_true], ⟨⟨S1, T1, b1, b2, b3, fun e => ?_, fun e => ?_, fun i hi => ?_⟩, hi.1, h.mb0, by omega, h.bel.trans (hs.fr.below a6 h0)⟩, hi.2, fun v0 v1 v2 k' hc => hc.fr hs.fr a4⟩
  · rcases b4 mb e with q | q
    · exact a4 q.1
    · omega
  · rcases b5 mb e with q | q
    · exact a5 q.1
    · omega
  · rcases b4 i hi with q | q
    · exact a6 i q.1
    · omega

theorem alloc_ct (w : World) (v0 v1 v2 : Value) (k : Int) (A : TypeId) : CT (w.alloc (.cells #[v0, v1, v2, .int .i64 k] A)) w.heap.size v0 v1 v2 k := ⟨by simp, by simp, by simp, by simp, fun j => by simp⟩

theorem BI.form {w0 w : World} {bt mb : Nat} {l : List Nd} {now : Nat} {m : Value} (h : BI w0 w bt mb l now m) : ∃ ta tc pa pc fa fc, m = .agg #[.slice ta l.length tc, .slice pa l.length pc, .slice fa l.length fc, .int .i64 now] := by
  obtain ⟨S, T, a1, a2, _⟩ := h.ex
  obtain ⟨ta, tc, pa, pc, fa, fc, h, _⟩ := a2.ex
  exact ⟨ta, tc, pa, pc, fa, fc, h⟩

set_option maxRecDepth 100000 in
set_option maxHeartbeats 1500000 in
theorem walk_UndoBetween (a : Option Addr) (len cap : Nat) (L : List Ac) (x y : Int) (w : World) (hr : RdA w a len L) (hx : (Lit.int .i64 x).wf = true) (hy : (Lit.int .i64 y).wf = true) :
    Calls Try.prog 4 #[.slice a len cap, .int .i64 x, .int .i64 y] w fun e w' => e = .returned (.bool true) ∧ Below w.heap.size w w' := by
  have HR := Lib.hid hr
  have hp : ∀ (p : Addr) (w : World), (binOp .eql 23 (.pointer (some p)) (.pointer none)).run Try.prog w = .ok (.bool false) w := fun p w => by kernel_rfl
  have hnn : ∀ w, (binOp .eql 28 .nilIface .nilIface).run Try.prog w = .ok (.bool true) w := fun w => by kernel_rfl
  clear hr hx hy
  by_cases h1 : 150 < len
  · have h1' : (150 : Int) < (len : Int) := by omega
    go_enter Try.func4, Try.ntmps4
    go_wp2
    go_ret
    exact ⟨rfl, Below.refl _ _⟩
  have h1' : (len : Int) ≤ 150 := by omega
  have H1 := Lib.hid (Nat.not_lt.1 h1)
  clear h1
  go_enter Try.func4, Try.ntmps4
  go_wp2_with fail
  refine (new_any 1 w).mono ?_
  rintro e w1 ⟨rfl, hti1, hb1⟩
  have HT1 := Lib.hid hti1.cut
  have HB1 := Lib.hid hb1
  have HBT : Hid (w.heap.size ≤ w.heap.size + 1) := Lib.hid (Nat.le_succ _)
  generalize w.heap.size + 1 = bt at *
  clear hti1 hb1
  go_wp2_with fail
  refine (alive_any w1).mono ?_
  rintro e w2 ⟨rfl, hb2⟩
  have HB2 := Lib.hid hb2
  clear hb2
  go_wp2_with fail
  refine (rnew_any 1 w2 (by decide)).mono ?_
  rintro e w3 ⟨m, rfl, hrt3, hb3⟩
  have HRT3 := Lib.hid hrt3
  have HB3 := Lib.hid hb3
  obtain ⟨ta, tc, pa, pc, fa, fc, rfl, -, -, -⟩ := hrt3.ex
  clear hrt3 hb3
  go_upto_region 7 with fail
  obtain ⟨mb, hmb⟩ : ∃ mb, mb = w3.heap.size := ⟨_, rfl⟩
  obtain ⟨w4, hw4⟩ : ∃ w4, w4 = w3.alloc (.cells #[.slice ta 1 tc, .slice pa 1 pc, .slice fa 1 fc, .int .i64 0] 36) := ⟨_, rfl⟩
  have HCT : Hid (CT w4 mb (.slice ta 1 tc) (.slice pa 1 pc) (.slice fa 1 fc) 0) := Lib.hid (by rw [hw4, hmb]; exact alloc_ct _ _ _ _ _ _)
  have HBI : Hid (BI w w4 bt mb [⟨1, -1, -1, 0, []⟩] 0 (.agg #[.slice ta 1 tc, .slice pa 1 pc, .slice fa 1 fc, .int .i64 0])) := Lib.hid (by
    have hb4 : Below w3.heap.size w3 w4 := by rw [hw4]; exact below_alloc _ _
    have s1 := HB1.out.size
    have s2 := HB2.out.size
    have s3 := HB3.out.size
    have s4 : w4.heap.size = w3.heap.size + 1 := by rw [hw4]; simp
    exact ⟨⟨_, _, ((HT1.out.below HB2.out).below HB3.out).below hb4, HRT3.out.lt.below hb4, fun i hi e => by omega, fun e => by omega, fun e => by omega, fun i hi => hi.1⟩, ⟨wf_one 1, .root, by simp⟩, by omega, by omega, bthen (bthen (bthen HB1.out HB2.out) HB3.out) hb4⟩)
  rw [← hw4, ← hmb]
  clear hw4 hmb
  go_wp2
  go_loopw [31] (fun iv wr => ∃ (i : Nat) (l : List Nd) (now : Nat) (v0 v1 v2 : Value), iv = .int .i64 i ∧ i ≤ len ∧ l.length ≤ i + 1 ∧ BI w wr bt mb l now (.agg #[v0, v1, v2, .int .i64 now]) ∧ CT wr mb v0 v1 v2 now) (fun iv _ => len - (intOf iv).toNat)
  case atStart => exact ⟨0, _, 0, _, _, _, rfl, by omega, by simp, HBI.out, HCT.out⟩
  case round =>
    obtain ⟨i, l, now, v0, v1, v2, rfl, hi, hll, hbi, hct⟩ := hrel
    have HBI2 := Lib.hid hbi
    have HCT2 := Lib.hid hct
    have HLL := Lib.hid hll
    by_cases hlt : i < len
    · obtain ⟨⟨k, d, t⟩, hx⟩ : ∃ x, L[i]? = some x := ⟨_, List.getElem?_eq_getElem (show i < L.length by rw [HR.out.len]; exact hlt)⟩
      have hwf : Hid ((Lit.int .i64 t).wf = true) := Lib.hid (HR.out.wf _ (List.mem_of_getElem? hx)).2.2
      obtain ⟨b, off, rfl, c0, c1, c2⟩ := (HR.out.below hbi.bel).cell i _ hx
      simp only at c0 c1 c2
      have hlt2 : (i : Int) < (len : Int) := by omega
      have HLT := Lib.hid hlt
      have hi9 : (i : Int) ≤ 150 := by omega
      obtain ⟨y0, y1, y2, y3, yf⟩ := hct.below (below_alloc wr (.cells #[.int .i64 k, .int .i64 d, .int .i64 t] 39))
      clear hx hbi hct hll yf
      go_wp2_with fail
      refine (BI.step (HBI2.out.below (below_alloc wr _)) k d t (by have := HLL.out; have := H1.out; have := HLT.out; omega) hwf.out).mono ?_
      rintro e w6 ⟨m', rfl, hbi6, hl6, hc6⟩
      clear y0 y1 y2 y3 c0 c1 c2
      obtain ⟨ta6, tc6, pa6, pc6, fa6, fc6, rfl⟩ := hbi6.form
      generalize stL (kindF k) d t l now = l6 at *
      generalize stN (kindF k) d t l now = n6 at *
      have HBI6 := Lib.hid hbi6
      have HCT6 := Lib.hid ((hc6 _ _ _ _ (HCT2.out.below (below_alloc wr _))).below (below_alloc w6 (.cells #[.slice ta6 l6.length tc6, .slice pa6 l6.length pc6, .slice fa6 l6.length fc6, .int .i64 n6] 36)))
      have HL6 := Lib.hid hl6
      obtain ⟨y0, y1, y2, y3, yf⟩ := HCT6.out
      have yf0 := yf 0
      have yf1 := yf 1
      have yf2 := yf 2
      have yf3 := yf 3
      clear hbi6 hl6 hc6 yf
      go_wp2
      go_roundw
      case rel => exact ⟨i + 1, l6, n6, _, _, _, by go_num, HLT.out, by have := HL6.out; have := HLL.out; omega, (HBI6.out.below (below_alloc w6 _)).st _ _ _ _, HCT6.out.st⟩
      case measure => have := HLT.out; simp [intOf]; omega
    · have HLE : Hid (0 < l.length ∧ l.length ≤ 151) := Lib.hid (by have := hbi.inv.lt; have := H1.out; omega)
      have HB6 := Lib.hid hbi.bel
      have hge : (len : Int) ≤ (i : Int) := by omega
      obtain ⟨S, T, hti, hrt, -⟩ := hbi.ex
      have HTI := Lib.hid hti
      have HRT := Lib.hid hrt
      obtain ⟨y0, y1, y2, y3, -⟩ := hct
      have HINV := Lib.hid hbi.inv
      obtain ⟨ta, tc, pa, pc, fa, fc, hm⟩ := hbi.form
      simp only [Value.agg.injEq, Array.mk.injEq, List.cons.injEq, and_true] at hm
      obtain ⟨rfl, rfl, rfl⟩ := hm
      obtain rfl : i = len := by omega
      clear hll hbi hti hrt hlt hi hge
      cases hxx : hasN l.length x with
      | false =>
        have HX := Lib.hid hxx
        clear hxx
        go_wp2_with fail
        refine (between_no S bt l now x y wr HTI.out HLE.out.1 (.inl (has_out HX.out))).mono ?_
        rintro e w6 ⟨rfl, rfl⟩
        go_wp2_with fail
        refine (rhas_any ta pa fa _ tc _ pc _ fc now x wr).mono ?_
        rintro e w7 ⟨rfl, hb7⟩
        rw [HX.out]
        have HB7 := Lib.hid (bthen HB6.out hb7)
        clear hb7 y0 y1 y2 y3
        go_wp2_with fail
        refine (is_errno 1 (by decide) w7).mono ?_
        rintro e w8 ⟨rfl, rfl⟩
        go_wp2
        go_ret
        exact ⟨rfl, HB7.out⟩
      | true =>
        have HX := Lib.hid hxx
        clear hxx
        cases hyy : hasN l.length y with
        | false =>
          have HY := Lib.hid hyy
          clear hyy
          go_wp2_with fail
          refine (between_no S bt l now x y wr HTI.out HLE.out.1 (.inr ⟨?_, has_out HY.out⟩)).mono ?_
          · obtain ⟨c, rfl, hc⟩ := has_in HX.out
            omega
          rintro e w6 ⟨rfl, rfl⟩
          go_wp2_with fail
          refine (rhas_any ta pa fa _ tc _ pc _ fc now x wr).mono ?_
          rintro e w7 ⟨rfl, hb7⟩
          rw [HX.out]
          have HB7 := Lib.hid (bthen HB6.out hb7)
          have y0 := below_cell hb7 y0
          have y1 := below_cell hb7 y1
          have y2 := below_cell hb7 y2
          have y3 := below_cell hb7 y3
          clear hb7
          go_wp2_with fail
          refine (rhas_any ta pa fa _ tc _ pc _ fc now y w7).mono ?_
          rintro e w8 ⟨rfl, hb8⟩
          rw [HY.out]
          have HB8 := Lib.hid (bthen HB7.out hb8)
          clear hb8 y0 y1 y2 y3
          go_wp2_with fail
          refine (is_errno 1 (by decide) w8).mono ?_
          rintro e w9 ⟨rfl, rfl⟩
          go_wp2
          go_ret
          exact ⟨rfl, HB8.out⟩
        | true =>
          have HY := Lib.hid hyy
          clear hyy
          obtain ⟨cx, rfl, hcx⟩ := has_in HX.out
          obtain ⟨cy, rfl, hcy⟩ := has_in HY.out
          obtain ⟨us, hus⟩ := path_ex HINV.out.wf cx hcx
          obtain ⟨ws, hws⟩ := path_ex HINV.out.wf cy hcy
          have hle : l.length ≤ 1000 := by have := HLE.out; omega
          obtain ⟨U, hU⟩ : ∃ U, U = (offP us ws).reverse := ⟨_, rfl⟩
          obtain ⟨D, hD⟩ : ∃ D, D = offP ws us := ⟨_, rfl⟩
          have HBT : Hid (Calls Try.prog 16 #[.pointer (some ⟨bt, 0, none⟩), .int .i64 cx, .int .i64 cy] wr (BtwPost3 U D wr)) := Lib.hid (by rw [hU, hD]; exact between_ok S bt l now cx cy us ws wr HTI.out HINV.out.wf hcx hcy hus hws hle)
          have HRB : Hid (∀ w8, Below wr.heap.size wr w8 → Calls Try.prog 19 #[.agg #[.slice ta l.length tc, .slice pa l.length pc, .slice fa l.length fc, .int .i64 now], .int .i64 cx, .int .i64 cy] w8 (BtwPost U D w8)) := Lib.hid (fun w8 hb => by rw [hU, hD]; exact rbetween_any T _ l now cx cy us ws w8 (HRT.out.below hb) HINV.out.wf hcx hcy hus hws hle)
          clear hcx hcy hus hws hU hD hle
          go_wp2_with fail
          refine HBT.out.mono ?_
          rintro e w6 ⟨a1, d1, a2, d2, rfl, hr1, hr2, hb6⟩
          have HR1 := Lib.hid hr1
          have HR2 := Lib.hid hr2
          have HB6' := Lib.hid (bthen HB6.out hb6)
          have HBW := Lib.hid hb6
          have y0 := below_cell hb6 y0
          have y1 := below_cell hb6 y1
          have y2 := below_cell hb6 y2
          have y3 := below_cell hb6 y3
          clear hb6 hr1 hr2
          go_wp2_with fail
          refine (rhas_any ta pa fa _ tc _ pc _ fc now cx w6).mono ?_
          rintro e w7 ⟨rfl, hb7⟩
          rw [HX.out]
          have HB7 := Lib.hid (bthen HB6'.out hb7)
          have HBW7 := Lib.hid (bthen HBW.out hb7)
          have HR17 := Lib.hid (HR1.out.below hb7)
          have HR27 := Lib.hid (HR2.out.below hb7)
          have y0 := below_cell hb7 y0
          have y1 := below_cell hb7 y1
          have y2 := below_cell hb7 y2
          have y3 := below_cell hb7 y3
          clear hb7
          go_wp2_with fail
          refine (rhas_any ta pa fa _ tc _ pc _ fc now cy w7).mono ?_
          rintro e w8 ⟨rfl, hb8⟩
          rw [HY.out]
          have HB8 := Lib.hid (bthen HB7.out hb8)
          have HBW8 := Lib.hid (bthen HBW7.out hb8)
          have HR18 := Lib.hid (HR17.out.below hb8)
          have HR28 := Lib.hid (HR27.out.below hb8)
          have y0 := below_cell hb8 y0
          have y1 := below_cell hb8 y1
          have y2 := below_cell hb8 y2
          have y3 := below_cell hb8 y3
          clear hb8
          go_wp2_with fail
          refine (HRB.out w8 HBW8.out).mono ?_
          rintro e w9 ⟨b1, f1, b2, f2, rfl, hr3, hr4, hb9⟩
          have HB9 := Lib.hid (bthen HB8.out hb9)
          have HR19 := Lib.hid (HR18.out.below hb9)
          have HR29 := Lib.hid (HR28.out.below hb9)
          have HR39 := Lib.hid hr3
          have HR49 := Lib.hid hr4
          clear hb9 y0 y1 y2 y3 hr3 hr4
          go_wp2_with fail
          refine (ints_any a1 b1 _ _ d1 f1 _ _ w9 HR19.out HR39.out).mono ?_
          rintro e w10 ⟨rfl, hb10⟩
          rw [decide_eq_true rfl]
          have HB10 := Lib.hid (bthen HB9.out hb10)
          have HR210 := Lib.hid (HR29.out.below hb10)
          have HR410 := Lib.hid (HR49.out.below hb10)
          clear hb10
          go_wp2_with fail
          refine (ints_any a2 b2 _ _ d2 f2 _ _ w10 HR210.out HR410.out).mono ?_
          rintro e w11 ⟨rfl, hb11⟩
          rw [decide_eq_true rfl]
          have HB11 := Lib.hid (bthen HB10.out hb11)
          clear hb11
          go_wp2
          go_ret
          exact ⟨rfl, HB11.out⟩

end Go.Proofs.Ytjajlnhobchkgaa
