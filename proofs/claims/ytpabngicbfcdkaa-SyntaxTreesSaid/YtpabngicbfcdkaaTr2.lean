/-
  evergreenlaw54.tree: the walk.
-/
import Derived.Test.YtpabngicbfcdkaaTr1
import Derived.Deep.RegionLaw
import Derived.Deep.RegionHeld3
import Derived.Deep.LoopGhost
import Derived.Deep.DeepCutAuto
namespace Go.Proofs.Ytpabngicbfcdkaa
open Go.RowKit
set_option linter.unusedVariables false
set_option linter.unusedSimpArgs false

set_option maxRecDepth 100000 in
set_option maxHeartbeats 4000000 in
theorem tree_any (good : Int → ByteArray → Int → Bool) (h0 : good 0 ⟨#[]⟩ 0 = true) (ns : List Nd) (hg : ∀ x ∈ ns, good x.1 x.2.1 x.2.2.1 = true) : ∀ (m : Nat) (T : Nat → Prop) (a : Option Addr) (n c i pb : Nat) (x : Int) (w : World), RdN w T a n ns → ¬ T pb → CtA w pb x → 0 ≤ x → x ≤ 300 → x < m → i ≤ n →
    Calls Try.prog 27 #[.slice a n c, .int .i64 (i : Nat), .pointer (some ⟨pb, 0, none⟩)] w (TreePost good x pb w)
  | 0, _, _, _, _, _, _, x, _, _, _, _, h, _, h', _ => absurd h' (by omega)
  | m + 1, T, a, n, c, i, pb, x, w, hr, hT, hc, hx0, hx3, hxm, hin => by
    have IH := Lib.hid (tree_any good h0 ns hg m)
    obtain ⟨w1, hw1⟩ : ∃ w1, w1 = w.alloc (.cells #[.int .i64 0, .string ⟨#[]⟩, .int .i64 0, .slice none 0 0] 38) := ⟨_, rfl⟩
    have HB1 : Hid (Below w.heap.size w w1) := Lib.hid (by rw [hw1]; exact below_alloc _ _)
    have HS1 : Hid (w1.heap.size = w.heap.size + 1) := Lib.hid (by rw [hw1]; simp)
    have HTC : Hid (EC w1 w.heap.size eE none 0) := Lib.hid (by rw [hw1]; exact alloc_ec w eE none 0 _)
    have HPL : Hid (pb < w.heap.size) := Lib.hid hc.lt
    have HC1 := Lib.hid (hc.below HB1.out)
    obtain ⟨c1, z1⟩ := HC1.out
    obtain ⟨w2, hw2⟩ : ∃ w2, w2 = w1.setCell ⟨pb, 0, none⟩ (.int .i64 (x - 1)) := ⟨_, rfl⟩
    have HF12 : Hid (Fr (fun b => b = pb) w1 w2) := Lib.hid (by rw [hw2]; exact (Fr.refl (fun b => b = pb) w1).setCell (p := ⟨pb, 0, none⟩) rfl _)
    have HF2 : Hid (Fr (fun b => b = pb) w w2) := Lib.hid ((Fr.of_below (S := fun b => b = pb) HB1.out).trans HF12.out)
    have HC2 : Hid (CtA w2 pb (x - 1)) := Lib.hid (by rw [hw2]; exact HC1.out.set _)
    have HTC2 : Hid (EC w2 w.heap.size eE none 0) := Lib.hid (HTC.out.fr HF12.out (by have := HPL.out; omega))
    have HR0 := Lib.hid hr
    have HFR : Hid (∀ wx, Fr (fun b => b = pb) w wx → RdN wx T a n ns) := Lib.hid (fun wx hf => hr.fr hf (fun j hj e => hT (by rw [← e]; exact hj)))
    have HW1 := Lib.hid hw1
    have HW2 := Lib.hid hw2
    have HNT := Lib.hid hT
    have HIN := Lib.hid hin
    have HXM := Lib.hid hxm
    have HX3 := Lib.hid hx3
    have HX0 := Lib.hid hx0
    have HG := Lib.hid hg
    have HFIN0 : Hid ((¬ (i < n) ∨ x - 1 < 0) → ∀ wf, Fr (fun b => b = w.heap.size) w2 wf → TreePost good x pb w (.returned (exV eE none 0)) wf) := Lib.hid (fun hh wf hf => fin_tree (t := eE) HC2.out HPL.out (Nat.le_refl _) (.inl rfl) HF2.out hf (by omega) (by omega) (fun h => by simp only [eE, Ex.size, Ex.sizes]; omega) (by rw [Ex.all_eq]; exact ⟨h0, fun j u hu => by simp [eE, Ex.args] at hu⟩))
    clear hw1 hw2 hr hc hxm hg
    by_cases hlt : i < n
    · have hlti : decide ((n : Int) ≤ (i : Int)) = false := decide_eq_false (by omega)
      have hltn : decide (n ≤ i) = false := decide_eq_false (by omega)
      by_cases hx1 : x - 1 < 0
      · have HFINZ := Lib.hid (HFIN0.out (.inr hx1))
        obtain rfl : x = 0 := by omega
        clear hlt hx1
        go_enter Try.func27, Try.ntmps27
        go_upto_region 1 with fail
        rw [← HW1.out]
        go_upto_region 2 with fail
        have HW2' := Lib.hid HW2.out
        simp only [Int.zero_sub] at HW2' HC2
        rw [← HW2'.out]
        obtain ⟨c2, z2⟩ := HC2.out
        obtain ⟨y0, y1, y2, y3, yf⟩ := HTC2.out
        have yf0 := yf 0
        have yf1 := yf 1
        have yf2 := yf 2
        have yf3 := yf 3
        clear yf
        go_wp2
        exact bodyPost_ret (v := .agg #[.int .i64 0, .string ⟨#[]⟩, .int .i64 0, .slice none 0 0]) (by simp [results, Try.results27, go_sem, y0, y1, y2, y3]; try rfl) rfl (HFINZ.out _ (fr4 _ w.heap.size (.int .i64 0) (.string ⟨#[]⟩) (.int .i64 0) (.slice none 0 0)))
      · obtain ⟨nd, hnd⟩ : ∃ nd, ns[i]? = some nd := ⟨_, List.getElem?_eq_getElem (by rw [HR0.out.len]; exact hlt)⟩
        obtain ⟨kd, s, nm, gs⟩ := nd
        have HGD : Hid (good kd s nm = true) := Lib.hid (HG.out _ (List.mem_of_getElem? hnd))
        obtain ⟨b, off, aa, cc, rfl, hTb, k0, k1, k2, k3, hI⟩ := HR0.out.cell i _ hnd
        simp only at k0 k1 k2 k3 hI
        have hbp : ¬ (b = pb) := fun e => HNT.out (by rw [← e]; exact hTb)
        have HBP := Lib.hid hbp
        obtain ⟨N, hN⟩ : ∃ N, N = gs.length := ⟨_, rfl⟩
        rw [← hN] at k3
        have HN := Lib.hid hN
        have HTB := Lib.hid hTb
        have HI := Lib.hid hI
        have HK3 := Lib.hid k3
        have hb0 : b < w.heap.size := World.block_lt_of_cell? w _ k0
        have k0 := HF2.out.cell k0 hbp
        have k1 := HF2.out.cell k1 hbp
        have k2 := HF2.out.cell k2 hbp
        have hli : (i : Int) < (n : Int) := by omega
        have hN9 : (N : Int) ≤ 9223372036854775807 := by have := hI.max; omega
        have hn9 : (n : Int) ≤ 9223372036854775807 := by have := HR0.out.max; omega
        have HLT := Lib.hid hlt
        have hx2 : decide (x - 1 < 0) = false := decide_eq_false hx1
        obtain ⟨c2, z2⟩ := HC2.out
        have hbl : b < w2.heap.size := World.block_lt_of_cell? w2 _ k0
        have hnb : ¬ (b = w2.heap.size) := by omega
        have hnb' : ¬ (w2.heap.size = b) := by omega
        have HXG : Hid (¬ (x - 1 < 0)) := Lib.hid hx1
        have HEX0 : Hid (∀ (be : Nat) (wr : World) (L : List TV) (ra : Option Addr) (rc : Nat) (xk : Int), w.heap.size < be → TLp good w pb be x kd s nm wr L ra rc xk → ∀ wf, Fr (fun b => b = w.heap.size) wr wf → TreePost good x pb w (.returned (.agg #[.int .i64 kd, .string s, .int .i64 nm, .slice ra L.length rc])) wf) := Lib.hid (fun be wr L ra rc xk hbe h wf hf => by
          obtain ⟨U, hU⟩ : ∃ U, U = L.map (·.1) := ⟨_, rfl⟩
          have hrd := h.rd hbe
          have hal := h.all HGD.out
          have hsi := h.size
          have hul : U.length = L.length := by rw [hU]; simp
          rw [← hU] at hrd hal hsi
          have h9 := fin_tree (good := good) (x := x) (t := .mk kd s nm U) (aa := ra) (cc := rc) h.ct HPL.out (by simp only [Ex.args]; rw [hul]; exact Row.cap h.row) hrd h.fr hf h.lo (by have := h.hi; omega) hsi hal
          simpa [exV, Ex.args, Ex.kind, Ex.text, Ex.num, hul] using h9)
        clear hlt hnd hTb hI hN HFIN0 k3 hb0 hbp
        go_enter Try.func27, Try.ntmps27
        go_upto_region 1 with fail
        rw [← HW1.out]
        go_upto_region 2 with fail
        rw [← HW2.out]
        go_upto_region 4 with fail
        go_region_held3 (fun w' => w'.cell? ⟨b, off + i * 4, none⟩ = some (.int .i64 kd) ∧ w'.cell? ⟨b, off + i * 4 + 1, none⟩ = some (.string s) ∧ w'.cell? ⟨b, off + i * 4 + 2, none⟩ = some (.int .i64 nm)) (go_keep) (fail)
        obtain ⟨w3, hw3⟩ : ∃ w3, w3 = (w2.alloc (.cells #[.int .i64 kd, .string s, .int .i64 nm, .slice none 0 0] 38)).drew := ⟨_, rfl⟩
        rw [← hw3]
        obtain ⟨be, hbe⟩ : ∃ be, be = w2.heap.size := ⟨_, rfl⟩
        rw [← hbe]
        have HB3 : Hid (Below w2.heap.size w2 w3) := Lib.hid (by rw [hw3]; exact (below_alloc _ _).drew)
        have HBE : Hid (w.heap.size < be) := Lib.hid (by have h1 := HF12.out.size; have h2 := HS1.out; omega)
        have HTL : Hid (TLp good w pb be x kd s nm w3 [] none 0 (x - 1)) := Lib.hid ⟨HC2.out.below HB3.out, (by rw [hw3, hbe]; have h := alloc_ec w2 (.mk kd s nm []) none 0 38; exact ⟨h.c0, h.c1, h.c2, h.c3, h.fz⟩), HTC2.out.below HB3.out, World.ownsRow_nil _ _ _ _, (fun y hy => by cases hy), HF2.out.trans (.of_below HB3.out), by have := HXG.out; omega, by simp only [List.length_nil]; omega, fun _ => by simp only [List.map_nil, Ex.sizes]; omega, fun y hy => by cases hy⟩
        have HEX := Lib.hid (fun wr L ra rc xk => HEX0.out be wr L ra rc xk HBE.out)
        have HIN2 : Hid (i + 1 ≤ n) := Lib.hid HLT.out
        clear hw3 hbe k0 k1 k2 c2 z2 hbl hnb hnb'
        go_wp2
        go_loopg [8] N (fun gg kv wr => ∃ (L : List TV) (ra : Option Addr) (rc : Nat) (xk : Int), kv = .int .i64 (L.length : Nat) ∧ L.length ≤ N ∧ N ≤ L.length + gg ∧ TLp good w pb be x kd s nm wr L ra rc xk)
        case atStart => exact ⟨[], none, 0, x - 1, rfl, by simp, by simp, HTL.out⟩
        case round =>
          clear HTL
          obtain ⟨L, ra, rc, xk, rfl, hLN, hgg, htl⟩ := hrel
          have HTL := Lib.hid htl
          have HGG := Lib.hid hgg
          have HLN := Lib.hid hLN
          obtain ⟨c4, z4⟩ := htl.ct
          have hxklo := htl.lo
          have hxkhi := htl.hi
          have hxk9 : xk ≤ 300 := by have := HX3.out; omega
          have hL9 : (L.length : Int) ≤ 400 := by have := HX3.out; omega
          have k3 : wr.cell? ⟨b, off + i * 4 + 3, none⟩ = some (.slice aa N cc) := HTL.out.fr.cell HK3.out HBP.out
          have htlrow := htl.row
          clear htl hgg
          by_cases hkl : L.length < N
          · have hkli : (L.length : Int) < (N : Int) := by omega
            have hkln : decide (L.length < N) = true := decide_eq_true hkl
            by_cases hxk : 0 ≤ xk
            · have HXK := Lib.hid hxk
              obtain ⟨y, hy⟩ : ∃ y, gs[L.length]? = some y := ⟨_, List.getElem?_eq_getElem (by rw [← HN.out]; exact hkl)⟩
              obtain ⟨b2, o2, rfl, hTb2, hc5⟩ := HI.out.cell _ y hy
              have hyw := HI.out.wf y (List.mem_of_getElem? hy)
              have c5 : wr.cell? ⟨b2, o2 + L.length, none⟩ = some (.int .i64 y) := HTL.out.fr.cell hc5 (fun e => HNT.out (by rw [← e]; exact hTb2))
              have HKL := Lib.hid hkl
              have hway : ∃ j : Nat, j ≤ n ∧ ((y = (j : Int) ∧ decide (j ≤ i) = false ∧ decide (n ≤ j) = false) ∨ (y ≤ (i : Int) ∧ (i : Int) + 1 = (j : Int)) ∨ (decide (y ≤ (i : Int)) = false ∧ (n : Int) ≤ y ∧ (i : Int) + 1 = (j : Int))) := by
                by_cases e1 : y ≤ (i : Int)
                · exact ⟨i + 1, HIN2.out, .inr (.inl ⟨e1, by push_cast; rfl⟩)⟩
                · by_cases e2 : (n : Int) ≤ y
                  · exact ⟨i + 1, HIN2.out, .inr (.inr ⟨decide_eq_false e1, e2, by push_cast; rfl⟩)⟩
                  · exact ⟨y.toNat, by omega, .inl ⟨by omega, decide_eq_false (by omega), decide_eq_false (by omega)⟩⟩
              obtain ⟨j, hjn, hway⟩ := hway
              have hjn9 : (j : Int) ≤ (n : Int) := by omega
              have hC : Calls Try.prog 27 #[.slice (some ⟨b, off, none⟩) n c, .int .i64 (j : Nat), .pointer (some ⟨pb, 0, none⟩)] wr.drew (TreePost good xk pb wr.drew) := IH.out T _ n c j pb xk wr.drew (HFR.out _ HTL.out.fr.drew) HNT.out HTL.out.ct.drew hxk (by omega) (by have := HXM.out; have := HTL.out.hi; omega) hjn
              have HC := Lib.hid hC
              have HROW := Lib.hid htlrow
              have hx3 : wr.cell? ⟨be, 3, none⟩ = some (.slice ra L.length rc) := by have := HTL.out.ec.c3; simpa [Ex.args] using this
              have HX3 := Lib.hid hx3
              have HROWB : Hid (∀ g, (Value.slice ra L.length rc).ownBlock = some g → be < g) := Lib.hid (fun g hg => by have := (Row.block_lt HROW.out hg).2; omega)
              have HBW : Hid (be < wr.heap.size) := Lib.hid HTL.out.ec.lt
              have HBEP : Hid (¬ (be = pb)) := Lib.hid (by have := HBE.out; have := HPL.out; omega)
              have hx3d : wr.drew.cell? ⟨be, 3, none⟩ = some (.slice ra L.length rc) := hx3
              have HL9 := Lib.hid hL9
              have HXKLO := Lib.hid hxklo
              clear hyw hy hc5 hTb2 hkl hLN hjn hC htlrow
              rcases hway with ⟨rfl, e1, e2⟩ | ⟨e1, e2⟩ | ⟨e1, e2, e3⟩
              all_goals
                go_wp2
                clear hx3
                go_region_law (first
                  | (refine step_app_row_at (.tmp 78) (.tmp 83) EExpr rfl rfl (be + 1) (.slice ra L.length rc) L.length (cellsX L) rfl (Row.below HROW6.out (below_alloc w6 _)) (some ⟨_, 0, none⟩) 1 1 [.int .i64 t6.kind, .string t6.text, .int .i64 t6.num, .slice aa6 t6.args.length cc6] rfl (RdG.lits w6 4 38 1 [.int .i64 t6.kind, .string t6.text, .int .i64 t6.num, .slice aa6 t6.args.length cc6] rfl) (by simp [Value.oneCell']) (by have := HL9.out; omega) (by decide) (by have := HBW.out; have := HW6.out; simp; omega) ?_; intro a7 c7 w7 hr7 hg7 hat7; have HR7 := Lib.hid hr7; have HG7 := Lib.hid hg7; have HAT7 := Lib.hid hat7; have HGF7 : Hid (Fr (fun x => (Value.slice ra L.length rc).ownBlock = some x) (w6.alloc (.cells #[.int .i64 t6.kind, .string t6.text, .int .i64 t6.num, .slice aa6 t6.args.length cc6] 38)) w7) := Lib.hid (Fr.of_grown hg7 (fun k hk => hk)); have HEC7 := Lib.hid ((HEC6.out.below (below_alloc _ _)).fr HGF7.out (fun e => by have := HROWB.out _ e; omega)); have p3 := HEC7.out.c3; have pf3 := HEC7.out.fz 3; clear hr7 hg7 hat7)
                  | (go_simp; go_at_call 27; refine HC.out.mono ?_; rintro e9 w6 ⟨t6, aa6, cc6, x6, rfl, hcc6, hra6, hct6, h61, h62, h63, h64, hf6⟩; simp only [exV]; have HF6 : Hid (Fr (fun x => x = pb) wr w6) := Lib.hid ((Fr.refl (fun x => x = pb) wr).drew.trans hf6); have HEC6 := Lib.hid (HTL.out.ec.fr HF6.out HBEP.out); have HW6 := Lib.hid HF6.out.size; have HROW6 := Lib.hid (HROW.out.fr HF6.out (fun g hg e => by have h1 := HROWB.out g hg; have h2 := HBE.out; have h3 := HPL.out; omega)); have hx36 : w6.cell? ⟨be, 3, none⟩ = some (.slice ra L.length rc) := HF6.out.cell HX3.out HBEP.out; have hx3a : (w6.alloc (.cells #[.int .i64 t6.kind, .string t6.text, .int .i64 t6.num, .slice aa6 t6.args.length cc6] 38)).cell? ⟨be, 3, none⟩ = some (.slice ra L.length rc) := below_cell (below_alloc _ _) hx36))
                all_goals
                  have hpush := TLp.push HTL.out HPL.out HBE.out HXK.out HF6.out hct6 hcc6 (hra6.mono (fun i _ hi => hi)) h61 h62 h63 h64 HR7.out HGF7.out HAT7.out
                  obtain ⟨wA, hwA⟩ : ∃ wA, wA = w7.setCell ⟨be, 3, none⟩ (.slice a7 (L.length + 1) c7) := ⟨_, rfl⟩
                  rw [← hwA] at hpush ⊢
                  have HPUSH := Lib.hid hpush
                  clear hpush hwA hct6 hcc6 hra6 h61 h62 h63 h64 hf6 hx36 hx3a p3 pf3 hx3d
                  go_wp2
                  go_roundg (N - L.length - 1)
                  case measure => have h1 := HGG.out; have h2 := HKL.out; omega
                  case rel => exact ⟨L ++ [(t6, aa6, cc6)], a7, c7, x6, by simp, by have := HKL.out; simp only [List.length_append, List.length_cons, List.length_nil]; omega, by have := HKL.out; simp only [List.length_append, List.length_cons, List.length_nil]; omega, HPUSH.out⟩
            · have hxkd : xk < 0 := by omega
              have hxkd2 : decide (0 ≤ xk) = false := decide_eq_false hxk
              clear hkl hLN hxk hxklo
              obtain ⟨y0, y1, y2, y3, yf⟩ := HTL.out.tc
              have yf0 := yf 0
              have yf1 := yf 1
              have yf2 := yf 2
              have yf3 := yf 3
              clear yf
              obtain ⟨p0, p1, p2, p3, pf⟩ := HTL.out.ec
              change wr.cell? ⟨be, 0, none⟩ = some (.int .i64 kd) at p0
              change wr.cell? ⟨be, 1, none⟩ = some (.string s) at p1
              change wr.cell? ⟨be, 2, none⟩ = some (.int .i64 nm) at p2
              replace p3 : wr.cell? ⟨be, 3, none⟩ = some (.slice ra L.length rc) := by simpa [Ex.args] using p3
              clear pf
              go_wp2
              have hz := HEX.out wr L ra rc xk HTL.out _ (fr4 _ w.heap.size (.int .i64 kd) (.string s) (.int .i64 nm) (.slice ra L.length rc))
              exact bodyPost_ret (v := .agg #[.int .i64 kd, .string s, .int .i64 nm, .slice ra L.length rc]) (by simp [results, Try.results27, go_sem, y0, y1, y2, y3]; try rfl) rfl hz
          · obtain hkk : N = L.length := by omega
            have hkli : decide ((L.length : Int) < (N : Int)) = false := decide_eq_false (by omega)
            have hkln : decide (L.length < N) = false := decide_eq_false (by omega)
            subst hkk
            clear hkl hLN
            obtain ⟨y0, y1, y2, y3, yf⟩ := HTL.out.tc
            have yf0 := yf 0
            have yf1 := yf 1
            have yf2 := yf 2
            have yf3 := yf 3
            clear yf
            obtain ⟨p0, p1, p2, p3, pf⟩ := HTL.out.ec
            change wr.cell? ⟨be, 0, none⟩ = some (.int .i64 kd) at p0
            change wr.cell? ⟨be, 1, none⟩ = some (.string s) at p1
            change wr.cell? ⟨be, 2, none⟩ = some (.int .i64 nm) at p2
            replace p3 : wr.cell? ⟨be, 3, none⟩ = some (.slice ra L.length rc) := by simpa [Ex.args] using p3
            clear pf
            go_wp2
            have hz := HEX.out wr L ra rc xk HTL.out _ (fr4 _ w.heap.size (.int .i64 kd) (.string s) (.int .i64 nm) (.slice ra L.length rc))
            exact bodyPost_ret (v := .agg #[.int .i64 kd, .string s, .int .i64 nm, .slice ra L.length rc]) (by simp [results, Try.results27, go_sem, y0, y1, y2, y3]; try rfl) rfl hz
    · have HFINZ := Lib.hid (HFIN0.out (.inl hlt))
      obtain rfl : i = n := by omega
      clear hlt
      go_enter Try.func27, Try.ntmps27
      go_upto_region 1 with fail
      rw [← HW1.out]
      go_upto_region 2 with fail
      rw [← HW2.out]
      obtain ⟨c2, z2⟩ := HC2.out
      obtain ⟨y0, y1, y2, y3, yf⟩ := HTC2.out
      have yf0 := yf 0
      have yf1 := yf 1
      have yf2 := yf 2
      have yf3 := yf 3
      clear yf
      go_wp2
      exact bodyPost_ret (v := .agg #[.int .i64 0, .string ⟨#[]⟩, .int .i64 0, .slice none 0 0]) (by simp [results, Try.results27, go_sem, y0, y1, y2, y3]; try rfl) rfl (HFINZ.out _ (fr4 _ w.heap.size (.int .i64 0) (.string ⟨#[]⟩) (.int .i64 0) (.slice none 0 0)))

end Go.Proofs.Ytpabngicbfcdkaa
