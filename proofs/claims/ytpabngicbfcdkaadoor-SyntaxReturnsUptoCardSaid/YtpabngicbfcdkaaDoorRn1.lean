/-
  Joined texts: SyntaxReturns: the walk. · a list of nodes as an argument. · a list of nodes as an argument: its texts are no longer than its bulk. · SyntaxReturns, for every input of bulk at most 1048576: the frame round its walk: what the arguments are read as, the call, what is read behind it; the tied card. The condition: the listed package variables hold what the program lays (the card ties this to the program's text).
-/
import Derived.Test.YtpabngicbfcdkaaDoorFo10
import Derived.Test.YtpabngicbfcdkaaDoorFo11
import Derived.ProofKit
import Derived.OpenShut
import Derived.ShutString
import Derived.ChangeOld
import Derived.Below
import Derived.SizedLaws
import Derived.JoinedCond

/- SyntaxReturns: the walk. -/
namespace Go.Proofs.YtpabngicbfcdkaaDoor
open Go.RowKit
set_option linter.unusedVariables false
set_option linter.unusedSimpArgs false

theorem txt_all : ∀ (m : Nat) (t : Ex), t.size ≤ m → wt t ≤ 4000000000 → t.all (fun u => decide (u.text.size ≤ 4000000000))
  | 0, t, h, _ => absurd t.size_pos (by omega)
  | m + 1, t, hm, hwt => by
    refine (Ex.all_eq _ t).2 ⟨?_, fun i u hu => txt_all m u ?_ (Nat.le_trans (wt_kid hu) hwt)⟩
    · have h1 := wt_eq t
      simp only [decide_eq_true_eq]; omega
    · have := Ex.size_kid hu
      have := t.size_eq
      omega

set_option maxRecDepth 100000 in
set_option maxHeartbeats 4000000 in
theorem walk_SyntaxReturns (a0 : Option Addr) (len0 cap0 : Nat) (l0 : List Nd) (W : World) (h0 : RdN W (fun b => b < W.heap.size) a0 len0 l0) (s0 : ∀ x ∈ l0, x.2.1.size ≤ 1048576) (ht : TAB W.heap.size W) :
    Calls Tryd.prog 4 #[.slice a0 len0 cap0] W fun e W' => e = .returned (.bool true) ∧ Below W.heap.size W W' := by
  have HT := Lib.hid (Tree_box a0 len0 cap0 l0 W h0 s0)
  have HTAB := Lib.hid ht
  have HAW := Lib.hid (fun (w : World) => awake_any w)
  clear h0 s0 ht
  go_enter Tryd.func4, Tryd.ntmps4
  go_upto_region 2 with (go_at_call 8; refine HT.out.mono ?_; rintro e w1 ⟨t, k1, m1, x1, n1, a1, c1, ok, rfl, htb⟩)
  obtain ⟨w2, hw2⟩ : ∃ w2, w2 = w1.alloc (.cells #[.int .i64 k1, .string x1, .int .i64 m1, .slice a1 n1 c1] 25) := ⟨_, rfl⟩
  obtain ⟨be, hbe⟩ : ∃ be, be = w1.heap.size := ⟨_, rfl⟩
  have HTB := Lib.hid (htb w2 be hw2 hbe)
  rw [← hw2, ← hbe]
  clear hw2 hbe htb
  obtain ⟨y0, y1, y2, y3⟩ := HTB.out.cl (Below.refl _ _)
  cases ok with
  | false =>
    go_wp2_with (go_at_call 11; refine (HAW.out _).mono ?_; rintro e w3 ⟨rfl, hb3⟩; have HB3 : Hid (Below w2.heap.size w2 w3) := Lib.hid (hb3); clear hb3; clear y0 y1 y2 y3; obtain ⟨y0, y1, y2, y3⟩ := HTB.out.cl HB3.out)
    refine bodyPost_ret (v := .bool true) (by simp [results, Tryd.results4, go_sem]; try rfl) rfl ?_
    exact ⟨rfl, bthen HTB.out.bw HB3.out⟩
  | true =>
    obtain ⟨hsz, hwt⟩ := HTB.out.sz rfl
    have HSZ := Lib.hid hsz
    have HF : Hid (∀ wx, Below w2.heap.size w2 wx → Calls Tryd.prog 9 #[.agg #[.int .i64 k1, .string x1, .int .i64 m1, .slice a1 n1 c1]] wx fun e w' => e = .returned (.tuple #[.string (bs (fmtP t).2), errN (fmtP t).1]) ∧ Below wx.heap.size wx w') := Lib.hid (fun wx hb => (HTB.out.tv.below hb).fmt (by omega) (HTB.out.tab HTAB.out hb))
    have HWE : Hid (∀ wx, Below w2.heap.size w2 wx → Calls Tryd.prog 13 #[.agg #[.int .i64 k1, .string x1, .int .i64 m1, .slice a1 n1 c1]] wx fun e w' => e = .returned (.bool (wB t)) ∧ Below wx.heap.size wx w') := Lib.hid (fun wx hb => by
      rw [HTB.out.tv.val]
      obtain ⟨T, hT⟩ := HTB.out.tv.ra
      exact rwell_any t.size T t a1 c1 wx (Nat.le_refl _) (by omega) (txt_all t.size t (Nat.le_refl _) (by omega)) (hT.below hb))
    have hse : (ByteArray.toList ⟨#[]⟩ == []) = true := by rw [Go.ByteArray.toList_eq]; rfl
    rcases fmtP_cases t with ⟨hnw, hf⟩ | ⟨hw, hf⟩ | ⟨hw, hd, hl, hf⟩
    · have hb0 : wB t = false := by
        cases h : wB t with
        | false => rfl
        | true => exact absurd ((wB_iff t).1 h) hnw
      rw [hf, show bs (4, ([] : List Nat)).2 = ⟨#[]⟩ from rfl, show errN (4, ([] : List Nat)).1 = .iface 39 (.int .i64 4) from rfl] at HF
      rw [hb0] at HWE
      have hne : ∀ w, (binOp .neq 29 (.iface 39 (.int .i64 4)) .nilIface).run Tryd.prog w = .ok (.bool true) w := fun w => by kernel_rfl
      clear hf hnw hb0 hsz hwt
      go_wp2_with (first
        | (go_at_call 13; refine (HWE.out _ HB4.out).mono ?_; rintro e w5 ⟨rfl, hb5⟩; have HB5 : Hid (Below w2.heap.size w2 w5) := Lib.hid (bthen HB4.out hb5); clear hb5; clear y0 y1 y2 y3; obtain ⟨y0, y1, y2, y3⟩ := HTB.out.cl HB5.out)
        | (go_at_call 9; refine (HF.out _ HB3.out).mono ?_; rintro e w4 ⟨rfl, hb4⟩; have HB4 : Hid (Below w2.heap.size w2 w4) := Lib.hid (bthen HB3.out hb4); clear hb4; clear y0 y1 y2 y3; obtain ⟨y0, y1, y2, y3⟩ := HTB.out.cl HB4.out)
        | (go_at_call 11; refine (HAW.out _).mono ?_; rintro e w3 ⟨rfl, hb3⟩; have HB3 : Hid (Below w2.heap.size w2 w3) := Lib.hid (hb3); clear hb3; clear y0 y1 y2 y3; obtain ⟨y0, y1, y2, y3⟩ := HTB.out.cl HB3.out))
      refine bodyPost_ret (v := .bool true) (by simp [results, Tryd.results4, go_sem]; try rfl) rfl ?_
      exact ⟨rfl, bthen HTB.out.bw HB5.out⟩
    · rw [hf, show bs (9, ([] : List Nat)).2 = ⟨#[]⟩ from rfl, show errN (9, ([] : List Nat)).1 = .iface 39 (.int .i64 9) from rfl] at HF
      rw [(wB_iff t).2 hw] at HWE
      have hne : ∀ w, (binOp .neq 29 (.iface 39 (.int .i64 9)) .nilIface).run Tryd.prog w = .ok (.bool true) w := fun w => by kernel_rfl
      clear hf hw hsz hwt
      go_wp2_with (first
        | (go_at_call 14; refine (is9_any _).mono ?_; rintro e w6 ⟨rfl, hb6⟩; have HB6 : Hid (Below w2.heap.size w2 w6) := Lib.hid (bthen HB5.out hb6); clear hb6; clear y0 y1 y2 y3; obtain ⟨y0, y1, y2, y3⟩ := HTB.out.cl HB6.out)
        | (go_at_call 13; refine (HWE.out _ HB4.out).mono ?_; rintro e w5 ⟨rfl, hb5⟩; have HB5 : Hid (Below w2.heap.size w2 w5) := Lib.hid (bthen HB4.out hb5); clear hb5; clear y0 y1 y2 y3; obtain ⟨y0, y1, y2, y3⟩ := HTB.out.cl HB5.out)
        | (go_at_call 9; refine (HF.out _ HB3.out).mono ?_; rintro e w4 ⟨rfl, hb4⟩; have HB4 : Hid (Below w2.heap.size w2 w4) := Lib.hid (bthen HB3.out hb4); clear hb4; clear y0 y1 y2 y3; obtain ⟨y0, y1, y2, y3⟩ := HTB.out.cl HB4.out)
        | (go_at_call 11; refine (HAW.out _).mono ?_; rintro e w3 ⟨rfl, hb3⟩; have HB3 : Hid (Below w2.heap.size w2 w3) := Lib.hid (hb3); clear hb3; clear y0 y1 y2 y3; obtain ⟨y0, y1, y2, y3⟩ := HTB.out.cl HB3.out))
      refine bodyPost_ret (v := .bool true) (by simp [results, Tryd.results4, go_sem]; try rfl) rfl ?_
      exact ⟨rfl, bthen HTB.out.bw HB6.out⟩
    · obtain ⟨S, hS⟩ : ∃ S, S = bs (txI (wI t)) := ⟨_, rfl⟩
      have hS1 : S.size ≤ 4096 := by rw [hS, fm_size hw]; exact hl
      rw [hf, show errN (0, txI (wI t)).1 = .nilIface from rfl, show (0, txI (wI t)).2 = txI (wI t) from rfl, ← hS] at HF
      have HP2 : Hid (∀ w, Calls Tryd.prog 15 #[.string S] w fun e w' => ∃ aa cc, e = .returned (.tuple #[.agg #[.int .i64 k1, .string x1, .int .i64 m1, .slice aa n1 cc], .nilIface]) ∧ TrV 0 w' t k1 m1 x1 n1 aa cc ∧ Below w.heap.size w w') := Lib.hid (fun w => by
        refine (parse_any S w (by omega)).mono ?_
        unfold ParsePost
        rw [hS, parse_fmt hw hd hl]
        rintro e w' ⟨aa, cc, rfl, h1, h2, h3⟩
        exact ⟨aa, cc, by rw [HTB.out.tv.hk, HTB.out.tv.hx, HTB.out.tv.hm, HTB.out.tv.hn]; rfl, ⟨HTB.out.tv.hk, HTB.out.tv.hx, HTB.out.tv.hm, HTB.out.tv.hn, ⟨_, h2⟩, h1⟩, h3⟩)
      have HSM : Hid (∀ w aa cc aa' cc', TrV 0 w t k1 m1 x1 n1 aa cc → TrV 0 w t k1 m1 x1 n1 aa' cc' → Calls Tryd.prog 16 #[.agg #[.int .i64 k1, .string x1, .int .i64 m1, .slice aa n1 cc], .agg #[.int .i64 k1, .string x1, .int .i64 m1, .slice aa' n1 cc']] w fun e w' => e = .returned (.bool true) ∧ Below w.heap.size w w') := Lib.hid (fun w aa cc aa' cc' h h' => by
        have h1 := h.same h' (by have := HSZ.out; omega) (by have := HSZ.out; omega)
        rw [exq_self] at h1
        exact h1)
      clear hf hS hd hl hsz hwt hw hS1
      go_upto_region 8 with (first
        | (go_at_call 15; refine (HP2.out _).mono ?_; rintro e w5 ⟨ab, cb, rfl, hv5, hb5⟩; have HB5 : Hid (Below w2.heap.size w2 w5) := Lib.hid (bthen HB4.out hb5); have HV5 := Lib.hid hv5; clear hv5 hb5)
        | (go_at_call 9; refine (HF.out _ HB3.out).mono ?_; rintro e w4 ⟨rfl, hb4⟩; have HB4 : Hid (Below w2.heap.size w2 w4) := Lib.hid (bthen HB3.out hb4); clear hb4; clear y0 y1 y2 y3; obtain ⟨y0, y1, y2, y3⟩ := HTB.out.cl HB4.out)
        | (go_at_call 11; refine (HAW.out _).mono ?_; rintro e w3 ⟨rfl, hb3⟩; have HB3 : Hid (Below w2.heap.size w2 w3) := Lib.hid (hb3); clear hb3; clear y0 y1 y2 y3; obtain ⟨y0, y1, y2, y3⟩ := HTB.out.cl HB3.out))
      obtain ⟨w6, hw6⟩ : ∃ w6, w6 = w5.alloc (.cells #[.int .i64 k1, .string x1, .int .i64 m1, .slice ab n1 cb] 25) := ⟨_, rfl⟩
      obtain ⟨bf, hbf⟩ : ∃ bf, bf = w5.heap.size := ⟨_, rfl⟩
      have HB56 : Hid (Below w5.heap.size w5 w6) := Lib.hid (by rw [hw6]; exact below_alloc _ _)
      have HB6 : Hid (Below w2.heap.size w2 w6) := Lib.hid (bthen HB5.out HB56.out)
      have HV6 := Lib.hid (HV5.out.below HB56.out)
      have z0 : w6.cell? ⟨bf, 0, none⟩ = some (.int .i64 k1) := by rw [hw6, hbf]; simp
      have z1 : w6.cell? ⟨bf, 1, none⟩ = some (.string x1) := by rw [hw6, hbf]; simp
      have z2 : w6.cell? ⟨bf, 2, none⟩ = some (.int .i64 m1) := by rw [hw6, hbf]; simp
      have z3 : w6.cell? ⟨bf, 3, none⟩ = some (.slice ab n1 cb) := by rw [hw6, hbf]; simp
      rw [← hw6, ← hbf]
      clear hw6 hbf
      clear y0 y1 y2 y3
      obtain ⟨y0, y1, y2, y3⟩ := HTB.out.cl HB6.out
      go_wp2_with (go_at_call 16; refine (HSM.out _ _ _ _ _ HV6.out (HTB.out.tv.below HB6.out)).mono ?_; rintro e w7 ⟨rfl, hb7⟩; have HB7 := Lib.hid (bthen HB6.out hb7); clear hb7)
      refine bodyPost_ret (v := .bool true) (by simp [results, Tryd.results4, go_sem]; try rfl) rfl ?_
      exact ⟨rfl, bthen HTB.out.bw HB7.out⟩

end Go.Proofs.YtpabngicbfcdkaaDoor

/- a list of nodes as an argument. -/
namespace Go.Proofs.YtpabngicbfcdkaaDoor
open Go.RowKit Go.ChangeShapes Go.WideShapes Go.Deep Go.Joins
set_option linter.unusedVariables false
set_option linter.unusedSimpArgs false

section
variable {H : Type} {enc : TypeId × Value → H} {W : World}

theorem open_rdi {n : Nat} {v : Value} {y : DataW H × List MemPlace} (h : DataW.trod enc Tryd.prog W 0 (fun _ => true) true n 81 [v] = some y) : ∃ aa l cc, v = .slice aa l.length cc ∧ RdI W (fun b => b < W.heap.size) aa l := by
  obtain ⟨a, len, cap, l, rfl, hr, h0⟩ := open_rd1 Tryd.underlying81 Tryd.underlying3 (by kernel_rfl) h
  refine ⟨a, l, cap, by rw [hr.len], ⟨by have := hr.max; have := hr.len; omega, fun j y hy => ?_, hr.wf⟩⟩
  have hj := (List.getElem?_eq_some_iff.1 hy).1
  obtain ⟨b, off, ha, hc⟩ := hr.cell j (by rw [← hr.len]; exact hj)
  have hg : l.getD j 0 = y := by simp [List.getD, hy]
  rw [hg] at hc
  exact ⟨b, off, ha, World.block_lt_of_cell? W _ hc, hc⟩

set_option maxRecDepth 100000 in
theorem cells_nd {n : Nat} {cs : List Value} {y : DataW H × List MemPlace} (h : DataW.trod enc Tryd.prog W 0 (fun _ => true) true n 83 cs = some y) :
    ∃ k s m aa gs cc, cs = [.int .i64 k, .string s, .int .i64 m, .slice aa (gs : List Int).length cc] ∧ RdI W (fun b => b < W.heap.size) aa gs ∧ (Lit.int .i64 k).wf = true ∧ (Lit.int .i64 m).wf = true ∧ s.size ≤ 9223372036854775807 := by
  obtain ⟨y0, y1, y2, y3, m, _, hlen, h0, h1, h2, h3⟩ := trod_struct4 Tryd.underlying83 h
  rw [show Tryd.prog.cellsOf 83 = 4 by kernel_rfl] at hlen
  match cs, hlen with
  | [c0, c1, c2, c3], _ =>
    rw [show Tryd.prog.cellsOf 3 = 1 by kernel_rfl] at h0 h2
    rw [show Tryd.prog.cellsOf 9 = 1 by kernel_rfl] at h1
    rw [show Tryd.prog.cellsOf 81 = 1 by kernel_rfl] at h3
    have h0 : DataW.trod enc Tryd.prog W 0 (fun _ => true) true m 3 [c0] = some y0 := h0
    have h1 : DataW.trod enc Tryd.prog W 0 (fun _ => true) true m 9 [c1] = some y1 := h1
    have h2 : DataW.trod enc Tryd.prog W 0 (fun _ => true) true m 3 [c2] = some y2 := h2
    have h3 : DataW.trod enc Tryd.prog W 0 (fun _ => true) true m 81 [c3] = some y3 := h3
    obtain ⟨k, e1, _, e3⟩ := DataW.trod_int Tryd.underlying3 h0
    obtain ⟨s, f1, _, f3⟩ := DataW.trod_string Tryd.underlying9 h1
    obtain ⟨q, g1, _, g3⟩ := DataW.trod_int Tryd.underlying3 h2
    obtain ⟨aa, gs, cc, k1, k2⟩ := open_rdi h3
    refine ⟨k, s, q, aa, gs, cc, ?_, k2, e3, g3, by unfold maxLen at f3; omega⟩
    simp only [List.cons.injEq, and_true] at e1 f1 g1
    rw [e1, f1, g1, k1]

theorem open_nds {a : Option Addr} {len cap : Nat} {d : DataW H} {p : List MemPlace} (h : DataW.Trod enc Tryd.prog W 0 (fun _ => true) true 22 (.slice a len cap) d p) :
    ∃ L, RdN W (fun i => i < W.heap.size) a len L ∧ len ≤ cap ∧ ∀ x ∈ L, x.2.1.size ≤ 9223372036854775807 := by
  obtain ⟨fuel, hf⟩ := h
  rcases open_slice Tryd.underlying22 hf with ⟨hcs, hx⟩ | ⟨x, l, c', m, n, D, Pl, hcs, _, hl, hm, hmm, hx, hel⟩
  · simp [Value.cells] at hcs
    obtain ⟨rfl, rfl, rfl⟩ := hcs
    exact ⟨[], ⟨rfl, by omega, fun i x hx => by simp at hx⟩, Nat.le_refl _, fun x hx => by simp at hx⟩
  · simp [Value.cells] at hcs
    obtain ⟨rfl, rfl, rfl⟩ := hcs
    simp only [if_true] at hmm
    subst hmm
    rw [show Tryd.prog.cellsOf 83 = 4 by kernel_rfl] at hel
    have each : ∀ i, i < len → ∃ y : Nd × Option Addr × Nat, W.cell? (x.add (i * 4)) = some (.int .i64 y.1.1) ∧ W.cell? ((x.add (i * 4)).add 1) = some (.string y.1.2.1) ∧ W.cell? ((x.add (i * 4)).add 2) = some (.int .i64 y.1.2.2.1) ∧ W.cell? ((x.add (i * 4)).add 3) = some (.slice y.2.1 y.1.2.2.2.length y.2.2) ∧ RdI W (fun b => b < W.heap.size) y.2.1 y.1.2.2.2 ∧ y.1.2.1.size ≤ 9223372036854775807 := by
      intro i hi
      obtain ⟨cs', hc, ht⟩ := hel i (by omega)
      obtain ⟨k, s, q, aa, gs, cc, rfl, h1, h2, h3, h4⟩ := cells_nd ht
      obtain ⟨_, _, hat⟩ := World.cells?_some hc
      have a0 := hat 0 (by omega)
      rw [show (x.add (i * 4)).add 0 = x.add (i * 4) from rfl] at a0
      exact ⟨((k, s, q, gs), aa, cc), a0, hat 1 (by omega), hat 2 (by omega), hat 3 (by omega), h1, h4⟩
    obtain ⟨f, hf⟩ := choose_lt each
    refine ⟨(List.range len).map fun i => (f i).1, ⟨by simp, by unfold maxLen at hm; omega, fun i z hz => ?_⟩, hl, fun z hz => ?_⟩
    · rw [List.getElem?_map, Option.map_eq_some_iff] at hz
      obtain ⟨j, hj, rfl⟩ := hz
      have hil : i < len := by have := (List.getElem?_eq_some_iff.1 hj).1; simpa using this
      have : j = i := by simpa [hil] using hj.symm
      subst this
      obtain ⟨b, off, rfl⟩ := spot_none (show W.cell? (x.add 0) = some (.int .i64 (f 0).1.1) from (hf 0 (by omega)).1)
      obtain ⟨c0, c1, c2, c3, hI, _⟩ := hf j hil
      rw [Addr.add_lit] at c0 c1 c2 c3
      rw [Addr.add_lit] at c1 c2 c3
      exact ⟨b, off, _, _, rfl, World.block_lt_of_cell? W _ c0, c0, c1, c2, c3, hI⟩
    · obtain ⟨i, hi, rfl⟩ := List.mem_map.1 hz
      exact (hf i (by simpa using hi)).2.2.2.2.2
end

end Go.Proofs.YtpabngicbfcdkaaDoor

/- a list of nodes as an argument: its texts are no longer than its bulk. -/
namespace Go.Proofs.YtpabngicbfcdkaaDoor
open Go.RowKit Go.ChangeShapes Go.WideShapes Go.Deep Go.Joins
set_option linter.unusedVariables false
set_option linter.unusedSimpArgs false

section
variable {H : Type} {enc : TypeId × Value → H} {W : World}

set_option maxRecDepth 100000 in
theorem cells_ndu {n : Nat} {cs : List Value} {y : DataW H × List MemPlace} (h : DataW.trod enc Tryd.prog W 0 (fun _ => true) true n 83 cs = some y) :
    ∃ k s m aa gs cc, cs = [.int .i64 k, .string s, .int .i64 m, .slice aa (gs : List Int).length cc] ∧ RdI W (fun b => b < W.heap.size) aa gs ∧ s.size ≤ Rows.uptoBulk y.1 := by
  obtain ⟨y0, y1, y2, y3, m, hy, hlen, h0, h1, h2, h3⟩ := trod_struct4 Tryd.underlying83 h
  rw [show Tryd.prog.cellsOf 83 = 4 by kernel_rfl] at hlen
  match cs, hlen with
  | [c0, c1, c2, c3], _ =>
    rw [show Tryd.prog.cellsOf 3 = 1 by kernel_rfl] at h0 h2
    rw [show Tryd.prog.cellsOf 9 = 1 by kernel_rfl] at h1
    rw [show Tryd.prog.cellsOf 81 = 1 by kernel_rfl] at h3
    have h0 : DataW.trod enc Tryd.prog W 0 (fun _ => true) true m 3 [c0] = some y0 := h0
    have h1 : DataW.trod enc Tryd.prog W 0 (fun _ => true) true m 9 [c1] = some y1 := h1
    have h2 : DataW.trod enc Tryd.prog W 0 (fun _ => true) true m 3 [c2] = some y2 := h2
    have h3 : DataW.trod enc Tryd.prog W 0 (fun _ => true) true m 81 [c3] = some y3 := h3
    obtain ⟨k, e1, _, e3⟩ := DataW.trod_int Tryd.underlying3 h0
    obtain ⟨s, f1, f2, f3⟩ := DataW.trod_string Tryd.underlying9 h1
    obtain ⟨q, g1, _, g3⟩ := DataW.trod_int Tryd.underlying3 h2
    obtain ⟨aa, gs, cc, k1, k2⟩ := open_rdi h3
    refine ⟨k, s, q, aa, gs, cc, ?_, k2, ?_⟩
    · simp only [List.cons.injEq, and_true] at e1 f1 g1
      rw [e1, f1, g1, k1]
    · have hs : s.data.toList.length = s.size := rfl
      rw [hy, f2]
      simp only [Rows.uptoBulk, Rows.uptoBulkAll]
      omega

theorem open_ndsu {a : Option Addr} {len cap : Nat} {d : DataW H} {p : List MemPlace} (h : DataW.Trod enc Tryd.prog W 0 (fun _ => true) true 22 (.slice a len cap) d p) :
    ∃ L, RdN W (fun i => i < W.heap.size) a len L ∧ len ≤ cap ∧ ∀ x ∈ L, x.2.1.size ≤ Rows.uptoBulk d := by
  obtain ⟨fuel, hf⟩ := h
  rcases open_slice Tryd.underlying22 hf with ⟨hcs, hx⟩ | ⟨x, l, c', m, n, D, Pl, hcs, _, hl, hm, hmm, hx, hel⟩
  · simp [Value.cells] at hcs
    obtain ⟨rfl, rfl, rfl⟩ := hcs
    exact ⟨[], ⟨rfl, by omega, fun i x hx => by simp at hx⟩, Nat.le_refl _, fun x hx => by simp at hx⟩
  · simp [Value.cells] at hcs
    obtain ⟨rfl, rfl, rfl⟩ := hcs
    simp only [if_true] at hmm
    subst hmm
    rw [show Tryd.prog.cellsOf 83 = 4 by kernel_rfl] at hel
    have each : ∀ i, i < len → ∃ y : Nd × Option Addr × Nat, W.cell? (x.add (i * 4)) = some (.int .i64 y.1.1) ∧ W.cell? ((x.add (i * 4)).add 1) = some (.string y.1.2.1) ∧ W.cell? ((x.add (i * 4)).add 2) = some (.int .i64 y.1.2.2.1) ∧ W.cell? ((x.add (i * 4)).add 3) = some (.slice y.2.1 y.1.2.2.2.length y.2.2) ∧ RdI W (fun b => b < W.heap.size) y.2.1 y.1.2.2.2 ∧ y.1.2.1.size ≤ Rows.uptoBulk (D i) := by
      intro i hi
      obtain ⟨cs', hc, ht⟩ := hel i (by omega)
      obtain ⟨k, s, q, aa, gs, cc, rfl, h1, h4⟩ := cells_ndu ht
      obtain ⟨_, _, hat⟩ := World.cells?_some hc
      have a0 := hat 0 (by omega)
      rw [show (x.add (i * 4)).add 0 = x.add (i * 4) from rfl] at a0
      exact ⟨((k, s, q, gs), aa, cc), a0, hat 1 (by omega), hat 2 (by omega), hat 3 (by omega), h1, h4⟩
    have hd : d = .slice ((List.range len).map D) ((List.range (m - len)).map fun j => D (len + j)) := congrArg Prod.fst hx
    obtain ⟨f, hf⟩ := choose_lt each
    refine ⟨(List.range len).map fun i => (f i).1, ⟨by simp, by unfold maxLen at hm; omega, fun i z hz => ?_⟩, hl, fun z hz => ?_⟩
    · rw [List.getElem?_map, Option.map_eq_some_iff] at hz
      obtain ⟨j, hj, rfl⟩ := hz
      have hil : i < len := by have := (List.getElem?_eq_some_iff.1 hj).1; simpa using this
      have : j = i := by simpa [hil] using hj.symm
      subst this
      obtain ⟨b, off, rfl⟩ := spot_none (show W.cell? (x.add 0) = some (.int .i64 (f 0).1.1) from (hf 0 (by omega)).1)
      obtain ⟨c0, c1, c2, c3, hI, _⟩ := hf j hil
      rw [Addr.add_lit] at c0 c1 c2 c3
      rw [Addr.add_lit] at c1 c2 c3
      exact ⟨b, off, _, _, rfl, World.block_lt_of_cell? W _ c0, c0, c1, c2, c3, hI⟩
    · obtain ⟨i, hi, rfl⟩ := List.mem_map.1 hz
      have h1 := (hf i (by simpa using hi)).2.2.2.2.2
      have h2 : Rows.uptoBulk (D i) ≤ Rows.uptoBulkAll ((List.range len).map D) := bulks.part_le (List.mem_map.2 ⟨i, hi, rfl⟩)
      have h3 := bulks.slice_elems ((List.range len).map D) ((List.range (m - len)).map fun j => D (len + j))
      rw [hd]
      omega
end

end Go.Proofs.YtpabngicbfcdkaaDoor

/- SyntaxReturns, for every input of bulk at most 1048576: the frame round its walk: what the arguments are read as, the call, what is read behind it; the tied card. The condition: the listed package variables hold what the program lays (the card ties this to the program's text). -/
namespace Go.Proofs.YtpabngicbfcdkaaDoor.syntaxReturns
open Go.ChangeShapes Go.WideShapes Go.ChangeAt Go.RowKit
open Go.ChangeMaps (open_string shut_string)
set_option linter.unusedVariables false
set_option linter.unusedSimpArgs false

theorem own : ownKnob Tryd.prog.godebug = none := by kernel_rfl
theorem laidOut : laidOutB Tryd.prog = true := by kernel_rfl

set_option maxRecDepth 100000 in
theorem contract (H : Type) (enc : TypeId × Value → H) (W : World) (base : Nat) (args : Array Value) (ds gs : List (DataW H)) (before : List MemPlace)
    (hval0 : ∀ (j : Nat) t v, Tryd.f4.params[j]? = some t → args[j]? = some v → Value.okWide Tryd.prog W .any base t v)
    (hW : DataW.Whole enc Tryd.prog Tryd.f4.params.toList Rows.syntaxReturnsSpec.vars false W args.toList ds gs before) (hk : Rows.uptoSmall H (ds ++ gs) = true) (hL : laidMetH Tryd.prog Rows.syntaxReturnsUptoRow.laid W) :
    Calls Tryd.prog 4 args W fun e W' => ∃ v, e = .returned v ∧ Rows.syntaxReturnsSpec.post enc Tryd.prog Tryd.f4 false true false false W args v W' := by
  have hval : ∀ (j : Nat) t v, Tryd.f4.params[j]? = some t → args[j]? = some v → Value.okWide Tryd.prog W .any base t v := hval0
  have hW' := hW
  obtain ⟨p, q, hA0, hV, rfl, hfz, hnd⟩ := hW
  have hA : DataW.TrodAll enc Tryd.prog W 0 (fun _ => true) true Tryd.f4.params.toList args.toList ds p := hA0
  rw [Tryd.params4] at hA hval
  obtain ⟨v0, vs0, d0, ds0, p0, q0, hargs, rfl, rfl, h0, r0⟩ := trodAll_cons hA
  obtain ⟨rfl, rfl, rfl⟩ := trodAll_nil r0
  obtain rfl : args = #[v0] := by cases args; simp_all
  obtain ⟨rfl, rfl⟩ := trodVars_none hV
  have hbk := bulks.bound hk
  rw [List.append_nil] at hbk
  have k0 := h0
  have lt0 : ∀ x ∈ p0, x.block < W.heap.size := by obtain ⟨m, hm⟩ := k0; exact DataW.trod_lt m _ _ _ hm
  obtain ⟨a0, len0, cap0, rfl⟩ := okWide_slice Tryd.underlying22 (hval 0 22 v0 rfl rfl)
  obtain ⟨l0, w0, c0, s0⟩ := open_ndsu h0
  have b0 : ∀ x ∈ l0, x.2.1.size ≤ 1048576 := fun x hx => by
    have h1 := s0 x hx
    have h3 := bulks.part_le (l := [d0]) (d := d0) (by simp)
    have h5 := hbk
    omega
  clear hA0 hval0
  refine (walk_SyntaxReturns a0 len0 cap0 l0 W w0 b0 (tab_of hL (tab_lt hL))).mono fun e W' ⟨he, bel⟩ => ?_
  subst he
  exact ⟨_, rfl, _, _, _, [], _, [], hW', trodAll_mk1 (shut_bool Tryd.underlying4 _), (trodAll_cons_mk (Below.trod laidOut (by kernel_rfl) (of_decide_eq_true (by kernel_rfl)) k0 bel lt0) trodAll_mk0), rfl, bel.frame _, fun h => by cases h⟩

theorem reads (os : Os) {H : Type} (enc : TypeId × Value → H) : ∃ places, DataW.whole enc Tryd.prog ((World.doorLaid Tryd.prog 24 os).forCall (fun _ _ => 0) ⟨#[], #[.slice none 0 0], []⟩).memory Tryd.f4.params.toList Rows.syntaxReturnsSpec.vars false (#[.slice none 0 0] : Array Value).toList 8 = some ([.nil], [], places) :=
  ⟨[], by kernel_rfl⟩

set_option maxRecDepth 100000 in
theorem lifted (os : Os) (started : os.Started) (H : Type) (enc : TypeId × Value → H) (F : Stop.Interp) :
    ReturnsInHanded {} Tryd.checked os 4 .any ((Rows.OpenSpec.upto Rows.syntaxReturnsSpec).preRow enc Tryd.prog Tryd.f4 Rows.syntaxReturnsUptoRow.domain false Rows.syntaxReturnsUptoRow.laid) (((Rows.OpenSpec.upto Rows.syntaxReturnsSpec).at F).post enc Tryd.prog Tryd.f4 false true false false) := by
  obtain ⟨places, hx⟩ := reads os enc
  refine returnsInHanded_of_row (C := Tryd.checked) (s := (Rows.OpenSpec.upto Rows.syntaxReturnsSpec)) own started (by kernel_rfl) Tryd.func4
    (witness_row_at (enc := enc) (C := Tryd.checked) false (World.doorLaid Tryd.prog 24 os) #[.slice none 0 0] rfl (by kernel_rfl) (by kernel_rfl) (by kernel_rfl)
      (OpenSpec.preRow_of_cond 8 hx (by kernel_rfl) (fun k hk => by cases hk; kernel_rfl) (by kernel_rfl) (laid_met os _))) ?_
  intro W base args ds gs before hval hW _ hcond hsz hL _ _
  exact contract H enc W base args ds gs before hval hW (hcond _ rfl) hL

theorem over : Rows.syntaxReturnsUptoRow.holds Tryd.pinned (Rows.OpenSpec.upto Rows.syntaxReturnsSpec) :=
  OpenClaim.holds_of_cond 4 Tryd.f4 rfl rfl rfl rfl rfl rfl rfl ⟨rfl, rfl, rfl, rfl, rfl⟩ rfl rfl rfl rfl rfl (by kernel_rfl) Tryd.func4 (by kernel_rfl)
    (of_decide_eq_true (by kernel_rfl)) (by unfold Func.isWrapper; first | (rw [if_pos (by decide +kernel)]; kernel_rfl) | (rw [if_neg (by decide +kernel)]; exact ⟨rfl, rfl⟩))
    (fun os started H enc _ F => by rw [OpenClaim.pre_eq_preRow]; exact lifted os started H enc F)

/-- No parameter wants a stand-in; the program's own looks: what the card asks. -/
theorem plain (f : FuncId) (fn : Func) (hf : Tryd.pinned.checked.prog.funcNamed "evergreen/evergreenlaw54.SyntaxReturns" = some f) (hfn : Tryd.pinned.checked.prog.funcs[f]? = some fn) :
    true = Tryd.pinned.checked.prog.looks [] ∧ ∀ (j : Nat) t, fn.params[j]? = some t → Tryd.pinned.checked.prog.wantsStandIn t = false := by
  obtain rfl : f = 4 := Option.some.inj ((show Tryd.prog.funcNamed "evergreen/evergreenlaw54.SyntaxReturns" = some 4 by kernel_rfl).symm.trans hf) |>.symm
  obtain rfl : fn = Tryd.f4 := (Option.some.inj (Tryd.func4.symm.trans hfn)).symm
  refine ⟨by kernel_rfl, fun j t ht => ?_⟩
  rw [Tryd.params4] at ht
  have hm : t ∈ [22] := by simpa using Array.mem_of_getElem? ht
  have hall : ([22].all fun u => !Tryd.prog.wantsStandIn u) = true := by kernel_rfl
  exact (show Tryd.prog.wantsStandIn t = false by simpa using List.all_eq_true.1 hall t hm)
theorem card : Rows.SyntaxReturnsUptoCardSaid :=
  Claim7.holds_tied_plain_at .later [] _ _ _ _ over (fun _ h => by cases h) (by kernel_rfl) (fun _ h => by cases h) syntaxReturnsUpto_row_tie rfl ⟨rfl, rfl⟩ (by kernel_rfl) rfl plain (by kernel_rfl)

end Go.Proofs.YtpabngicbfcdkaaDoor.syntaxReturns
namespace Go.Proofs.YtpabngicbfcdkaaDoor
theorem syntaxReturns_upto_card_proved : Rows.SyntaxReturnsUptoCardSaid := syntaxReturns.card
#print axioms syntaxReturns_upto_card_proved
end Go.Proofs.YtpabngicbfcdkaaDoor
