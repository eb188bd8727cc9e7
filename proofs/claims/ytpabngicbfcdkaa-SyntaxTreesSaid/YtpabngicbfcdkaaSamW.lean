/-
  syntax.Same: the walk.
-/
import Derived.Test.YtpabngicbfcdkaaSamF
import Derived.Test.YtpabngicbfcdkaaRt2
import Derived.Deep.RegionHeld3
import Derived.Deep.LoopGhost
import Derived.Deep.DeepCutAuto
namespace Go.Proofs.Ytpabngicbfcdkaa
open Go.RowKit
set_option linter.unusedVariables false
set_option linter.unusedSimpArgs false

theorem EPair : EltG Try.prog 78 77 (.agg #[.pointer none, .pointer none]) 2 16 := ⟨Try.underlying78, info_parts (by kernel_rfl), rfl, by decide⟩
theorem zeroB (w : World) : (zeroValue 4).run Try.prog w = .ok (.bool false) w := by kernel_rfl

/-- what Same keeps in memory -/
structure SM (w0 : World) (bm : Nat) (S : List PE) (f : Addr × Addr → Option Value) (sv : Value) (wr : World) : Prop where
  stk : Row wr w0.heap.size 77 2 sv S.length (cellsPE S)
  mp : PMap wr penc2 bm f
  bel : Below w0.heap.size w0 wr
  lo : w0.heap.size ≤ bm
theorem SM.below {w0 bm S f sv w w'} (h : SM w0 bm S f sv w) (hb : Below w.heap.size w w') : SM w0 bm S f sv w' :=
  ⟨h.stk.below hb, h.mp.below hb, bthen h.bel hb, h.lo⟩
theorem SM.push {w0 bm S f sv w w'} (h : SM w0 bm S f sv w) {x : PE} {sv'} (hr : Row w' w0.heap.size 77 2 sv' (S.length + 1) (cellsPE S ++ [.pointer (some x.p), .pointer (some x.q)])) (hg : w.grownBy w' sv.ownBlock) : SM w0 bm (S ++ [x]) f sv' w' := by
  refine ⟨?_, h.mp.fr (S := fun b => sv.ownBlock = some b) (Fr.of_grown hg (fun k hk => hk)) (Row.ne_map h.stk h.mp), Row.grown h.stk hg h.bel.size |> h.bel.trans, h.lo⟩
  rw [List.length_append, cellsPE_snoc]; exact hr
theorem SM.map {w0 bm S f f' sv w w'} (h : SM w0 bm S f sv w) (hm : PMap w' penc2 bm f') (hg : w.grownBy w' (some bm)) : SM w0 bm S f' sv w' := by
  have hf : Fr (fun b => b = bm) w w' := Fr.of_grown hg (fun k hk => (Option.some.inj hk).symm)
  exact ⟨Row.fr h.stk hf (fun g hg2 e => Row.ne_map h.stk h.mp (by rw [hg2, e])), hm, h.bel.trans (hf.below (fun b e => by rw [e]; exact h.lo) h.bel.size), h.lo⟩
theorem SM.pop {w0 bm S x f a n c w} (h : SM w0 bm (S ++ [x]) f (.slice a n c) w) : SM w0 bm S f (.slice a S.length c) w := by
  refine ⟨?_, h.mp, h.bel, h.lo⟩
  have hs := h.stk
  obtain ⟨a', c', hv⟩ := Row.form hs
  simp only [Value.slice.injEq] at hv
  obtain ⟨rfl, rfl, rfl⟩ := hv
  rw [List.length_append, List.length_singleton] at hs
  have := Row.pop hs
  rw [cellsPE_snoc, List.take_left' (by rw [cellsPE_len])] at this
  exact this
theorem SM.top {w0 bm S x f a n c w} (h : SM w0 bm (S ++ [x]) f (.slice a n c) w) : ∃ g, a = some ⟨g, 0, none⟩ ∧ w.cell? ⟨g, S.length * 2, none⟩ = some (.pointer (some x.p)) ∧ w.cell? ⟨g, S.length * 2 + 1, none⟩ = some (.pointer (some x.q)) := by
  have hs := h.stk
  obtain ⟨a', c', hv⟩ := Row.form hs
  simp only [Value.slice.injEq] at hv
  obtain ⟨rfl, rfl, rfl⟩ := hv
  obtain ⟨h1, h2⟩ := cellsPE_last S x
  have hr := Row.rdG hs
  obtain ⟨b, off, ha, hc⟩ := hr.cell _ _ h1
  obtain ⟨b', off', ha', hc'⟩ := hr.cell _ _ h2
  rcases hs.2 with ⟨hv, h0⟩ | ⟨g, cap, cur, hv, _⟩
  · simp at h0
  · simp only [Value.slice.injEq] at hv
    obtain ⟨rfl, _, _⟩ := hv
    simp only [Option.some.injEq, Addr.mk.injEq, and_true] at ha ha'
    obtain ⟨rfl, rfl⟩ := ha
    obtain ⟨rfl, rfl⟩ := ha'
    rw [Nat.zero_add] at hc hc'
    exact ⟨g, rfl, hc, hc'⟩
theorem SI.ok {T T' w root root' p0 q0 S f} (h : SI T T' w root root' p0 q0 S f) : ∀ y v, f y = some v → OkA2 w y := fun y v hv => by
  obtain ⟨p, q⟩ := y
  obtain ⟨_, t, u, h1, h2, _⟩ := h.sn p q v hv
  exact ⟨h1.ok, h2.ok⟩
theorem OkA2.below {w w' : World} {y} (h : OkA2 w y) (hb : Below w.heap.size w w') : OkA2 w' y := ⟨h.1.fr (S := fun _ => False) (.of_below hb) (fun h => h), h.2.fr (S := fun _ => False) (.of_below hb) (fun h => h)⟩
theorem RdP.below {T : Nat → Prop} {w w' : World} {t p} (h : RdP T w t p) (hb : Below w.heap.size w w') : RdP T w' t p := ⟨h.1, RdE.below hb t h.2⟩
theorem kidbase {T : Nat → Prop} {w : World} {t : Ex} {pb po : Nat} {aa : Option Addr} {ac : Nat} (hnd : NodeAt w pb po t.kind t.text t.num (.slice aa t.args.length ac)) (hra : RdA T w t.args aa) :
    ∃ kb ko, (t.args.length ≠ 0 → aa = some ⟨kb, ko, none⟩) ∧ ∀ (i : Nat) (u : Ex), t.args[i]? = some u → KidAt w ⟨pb, po, none⟩ i ⟨kb, ko + 4 * i, none⟩ := by
  rcases hra with h0 | ⟨b', o', h1, h2⟩
  · exact ⟨0, 0, fun h => absurd (by rw [h0]; rfl) h, fun i u hu => by rw [h0] at hu; cases hu⟩
  · subst h1
    exact ⟨b', o', fun _ => rfl, fun i u hu => ⟨_, _, _, b', o', _, ac, hnd, rfl⟩⟩

set_option maxRecDepth 100000 in
set_option maxHeartbeats 4000000 in
theorem same_any (T T' : Nat → Prop) (t u : Ex) (a a' : Option Addr) (c c' : Nat) (w : World) (ha : RdA T w t.args a) (hc : t.args.length ≤ c) (ha' : RdA T' w u.args a') (hc' : u.args.length ≤ c') (hsz : t.size ≤ 1000000) (hsz' : u.size ≤ 1000000) :
    Calls Try.prog 18 #[exV t a c, exV u a' c'] w fun e w' => e = .returned (.bool (exq t u)) ∧ Below w.heap.size w w' := by
  obtain ⟨w1, hw1⟩ : ∃ w1, w1 = w.alloc (.cells #[.int .i64 t.kind, .string t.text, .int .i64 t.num, .slice a t.args.length c] 38) := ⟨_, rfl⟩
  obtain ⟨w2, hw2⟩ : ∃ w2, w2 = w1.alloc (.cells #[.int .i64 u.kind, .string u.text, .int .i64 u.num, .slice a' u.args.length c'] 38) := ⟨_, rfl⟩
  have HB1 : Hid (Below w.heap.size w w1) := Lib.hid (by rw [hw1]; exact below_alloc _ _)
  have HB12 : Hid (Below w1.heap.size w1 w2) := Lib.hid (by rw [hw2]; exact below_alloc _ _)
  have HB2 : Hid (Below w.heap.size w w2) := Lib.hid (bthen HB1.out HB12.out)
  obtain ⟨g, hg⟩ : ∃ g, g = w.heap.size := ⟨_, rfl⟩
  obtain ⟨g', hg'⟩ : ∃ g', g' = g + 1 := ⟨_, rfl⟩
  have hgs : w1.heap.size = g' := by rw [hg', hg, hw1]; simp
  have HRT : Hid (RdP (fun b => T b ∨ b = w.heap.size) w2 t ⟨g, 0, none⟩) := Lib.hid ⟨rfl, RdE.below HB12.out t (by rw [hw1, hg]; exact exV_boxed ha hc _)⟩
  have HRU : Hid (RdP (fun b => T' b ∨ b = w1.heap.size) w2 u ⟨g', 0, none⟩) := Lib.hid ⟨rfl, by rw [hw2, ← hgs]; exact exV_boxed (ha'.below HB1.out) hc' _⟩
  have HFP := Lib.hid (Finite_any _ t ⟨g, 0, none⟩ w2 HRT.out (by omega))
  have HFQ : Hid (∀ wx, Below w2.heap.size w2 wx → Calls Try.prog 28 #[.pointer (some ⟨g', 0, none⟩)] wx fun e w' => e = .returned (.bool true) ∧ Below wx.heap.size wx w') := Lib.hid (fun wx hb => Finite_any _ u ⟨g', 0, none⟩ wx (HRU.out.below hb) (by omega))
  have HSZ := Lib.hid hsz
  have HSZ' := Lib.hid hsz'
  have HW1 := Lib.hid hw1
  have HW2 := Lib.hid hw2
  have HG := Lib.hid hg
  have HG' := Lib.hid hg'
  have hmm := @run_makeMap Try.prog
  clear ha hc ha' hc' hsz hsz' hw1 hw2 hg hg' hgs
  unfold exV
  go_enter Try.func18, Try.ntmps18
  go_upto_region 1 with fail
  rw [← HW1.out, ← HW2.out, ← HG.out, ← HG'.out]
  go_upto_region 3 with (first | (go_at_call 28; refine HFP.out.mono ?_; rintro e w3 ⟨rfl, hb3⟩; have HB3 := Lib.hid hb3; clear hb3) | (go_at_call 28; refine (HFQ.out _ HB3.out).mono ?_; rintro e w4 ⟨rfl, hb34⟩; have HB34 := Lib.hid hb34; clear hb34))
  have HB24 : Hid (Below w2.heap.size w2 w4) := Lib.hid (bthen HB3.out HB34.out)
  have HB4 : Hid (Below w.heap.size w w4) := Lib.hid (bthen HB2.out HB24.out)
  have HRT4 := Lib.hid (HRT.out.below HB24.out)
  have HRU4 := Lib.hid (HRU.out.below HB24.out)
  go_wp2
  obtain ⟨w5, hw5⟩ : ∃ w5, w5 = (w4.alloc (.cells #[.pointer (some ⟨g, 0, none⟩), .pointer (some ⟨g', 0, none⟩)] 77)).alloc (.map #[] 0) := ⟨_, rfl⟩
  obtain ⟨bm, hbm⟩ : ∃ bm, bm = w4.heap.size + 1 := ⟨_, rfl⟩
  have HSM : Hid (SM w4 bm [⟨⟨g, 0, none⟩, t, ⟨g', 0, none⟩, u⟩] (fun _ => none) (.slice (some ⟨w4.heap.size, 0, none⟩) 1 1) w5) := Lib.hid (by
    have hb1 := below_alloc w4 (.cells #[.pointer (some ⟨g, 0, none⟩), .pointer (some ⟨g', 0, none⟩)] 77)
    have hb2 := below_alloc (w4.alloc (.cells #[.pointer (some ⟨g, 0, none⟩), .pointer (some ⟨g', 0, none⟩)] 77)) (.map #[] 0)
    rw [hw5, hbm]
    refine ⟨?_, ?_, bthen hb1 hb2, by omega⟩
    · have := World.ownsRow_lit (e := 77) (base := w4.heap.size) (size := 2) w4 #[.pointer (some ⟨g, 0, none⟩), .pointer (some ⟨g', 0, none⟩)] 1 (by simp) (by unfold maxLen; omega) rfl
      simp at this
      exact (show Row _ _ _ _ _ _ _ from this).below hb2
    · have := PMap.made (w4.alloc (.cells #[.pointer (some ⟨g, 0, none⟩), .pointer (some ⟨g', 0, none⟩)] 77)) penc2
      simpa using this)
  have HSI := Lib.hid (SI.start HRT4.out HRU4.out)
  have HBM := Lib.hid hbm
  rw [← hw5]
  rw [← hbm] at ⊢
  clear hw5 hbm
  go_loopg [5] t.size (fun gg sv wr => ∃ (S : List PE) (f : Addr × Addr → Option Value) (sa : Option Addr) (sc : Nat), pw S ≤ gg ∧ sv = .slice sa S.length sc ∧ SI (fun b => T b ∨ b = w.heap.size) (fun b => T' b ∨ b = w1.heap.size) w4 t u ⟨g, 0, none⟩ ⟨g', 0, none⟩ S f ∧ SM w4 bm S f sv wr ∧ pw S ≤ 1000000 ∧ ∀ x ∈ S, x.u.size ≤ 1000000)
  case atStart => exact ⟨[⟨⟨g, 0, none⟩, t, ⟨g', 0, none⟩, u⟩], fun _ => none, _, 1, by simp [pw], rfl, HSI.out, HSM.out, by have := HSZ.out; simp [pw]; omega, fun x hx => by simp at hx; subst hx; exact HSZ'.out⟩
  case round =>
    clear HSI HSM
    obtain ⟨S, f, sa, sc, hgg, rfl, hsi, hsm, hpw, hus⟩ := hrel
    rcases List.eq_nil_or_concat S with rfl | ⟨S', x, rfl⟩
    · have HSM := Lib.hid hsm
      have HE : Hid (exq t u = true) := Lib.hid ((exq_iff t u).2 (hsi.end_ HRT4.out HRU4.out))
      clear hsi hsm hpw hgg hus
      go_wp2
      go_ret
      exact ⟨by rw [HE.out]; rfl, bthen HB4.out HSM.out.bel⟩
    · rw [List.concat_eq_append] at *
      obtain ⟨gs, rfl, hc0, hc1⟩ := hsm.top
      obtain ⟨n, hn⟩ : ∃ n, n = S'.length := ⟨_, rfl⟩
      have hlen : (S' ++ [x]).length = n + 1 := by rw [hn]; simp
      have hn9 : (n : Int) ≤ 2000000000 := by
        have h1 := pw_len (S' ++ [x])
        omega
      have HN0 := Lib.hid hn
      have HSM := Lib.hid hsm
      have HSI := Lib.hid hsi
      have HGG := Lib.hid hgg
      have HPW := Lib.hid hpw
      have HUS := Lib.hid hus
      have hcap : n ≤ sc := by have := Row.cap hsm.stk; omega
      rw [← hn] at hc0 hc1
      rw [hlen]
      obtain ⟨hrp, hrq⟩ := hsi.rd x (by simp)
      clear hlen hn hsi hsm hgg hpw hus
      obtain ⟨p, t1, q, u1⟩ := x
      simp only at hc0 hc1 hrp hrq
      obtain ⟨pb, po, rfl⟩ : ∃ pb po, p = ⟨pb, po, none⟩ := ⟨_, _, addr_eta hrp.1⟩
      obtain ⟨qb, qo, rfl⟩ : ∃ qb qo, q = ⟨qb, qo, none⟩ := ⟨_, _, addr_eta hrq.1⟩
      obtain ⟨w3', hw3⟩ : ∃ w3', w3' = wr.alloc (.cells #[.pointer (some ⟨pb, po, none⟩), .pointer (some ⟨qb, qo, none⟩)] 77) := ⟨_, rfl⟩
      have hb3 : Below wr.heap.size wr w3' := by rw [hw3]; exact below_alloc _ _
      have x0 : w3'.cell? ⟨wr.heap.size, 0, none⟩ = some (.pointer (some ⟨pb, po, none⟩)) := by rw [hw3]; simp
      have x1 : w3'.cell? ⟨wr.heap.size, 1, none⟩ = some (.pointer (some ⟨qb, qo, none⟩)) := by rw [hw3]; simp
      have HSM3 := Lib.hid (HSM.out.pop.below hb3)
      have HBXM : Hid (¬ (bm = wr.heap.size)) := Lib.hid (by have h1 := HSM.out.mp.lt; omega)
      have HB3X : Hid (Below w4.heap.size w4 w3') := Lib.hid (bthen HSM.out.bel hb3)
      have HOKP : Hid (OkA2 w3' (⟨pb, po, none⟩, ⟨qb, qo, none⟩)) := Lib.hid (OkA2.below ⟨hrp.ok, hrq.ok⟩ HB3X.out)
      have HOK := Lib.hid (fun (y : Addr × Addr) (v : Value) (hv : f y = some v) => (HSI.out.ok y v hv).below HB3X.out)
      have HW3 := Lib.hid hw3
      have HRP := Lib.hid hrp
      have HRQ := Lib.hid hrq
      have HPW2 : Hid (pw S' + t1.size ≤ 1000000) := Lib.hid (by have := HPW.out; rw [pw_append] at this; simpa [pw] using this)
      rw [← HN0.out] at HSM3
      clear hb3 hw3 hrp hrq
      cases hf : f (⟨pb, po, none⟩, ⟨qb, qo, none⟩) with
      | some v =>
        obtain ⟨rfl, -⟩ := HSI.out.sn _ _ _ hf
        have HF := Lib.hid hf
        have HSI3 := Lib.hid (HSI.out.skip (by simp [hf]))
        clear hf
        go_upto_region 8 with fail
        rw [← HW3.out]
        go_wp2_with (refine PMap.wpLook HSM3.out.mp pk2 HOK.out Try.underlying79 (zeroB _) rfl (.tmp 34) (.tmp 35) rfl rfl (⟨pb, po, none⟩, ⟨qb, qo, none⟩) HOKP.out rfl ?_; rw [HF.out, Option.getD_some])
        go_roundg (pw S')
        case measure => have h1 := HGG.out; have := t1.size_pos; rw [pw_append] at h1; simp [pw] at h1; omega
        case rel => exact ⟨S', f, some ⟨gs, 0, none⟩, sc, Nat.le_refl _, by rw [HN0.out], HSI3.out, HSM3.out, by have := HPW2.out; omega, fun x hx => HUS.out x (List.mem_append_left _ hx)⟩
      | none =>
        have HF := Lib.hid hf
        have HBAD : Hid (¬ ndq t1 u1 → exq t u = false) := Lib.hid (fun h => by
          have h9 := HSI.out.bad (x := ⟨⟨pb, po, none⟩, t1, ⟨qb, qo, none⟩, u1⟩) h
          cases e : exq t u with
          | false => rfl
          | true => exact absurd ((exq_iff t u).1 e) h9)
        clear hf
        obtain ⟨-, aa, ac, hnd, hac, hra⟩ := HRP.out.2.node
        obtain ⟨-, aa', ac', hnd', hac', hra'⟩ := HRQ.out.2.node
        obtain ⟨N, hN⟩ : ∃ N, N = t1.args.length := ⟨_, rfl⟩
        obtain ⟨N', hN'⟩ : ∃ N', N' = u1.args.length := ⟨_, rfl⟩
        have HN := Lib.hid hN
        have HN' := Lib.hid hN'
        have HNT : Hid (∀ wx, Below w4.heap.size w4 wx → wx.cell? ⟨pb, po, none⟩ = some (.int .i64 t1.kind) ∧ wx.cell? ⟨pb, po + 1, none⟩ = some (.string t1.text) ∧ wx.cell? ⟨pb, po + 2, none⟩ = some (.int .i64 t1.num) ∧ wx.cell? ⟨pb, po + 3, none⟩ = some (.slice aa N ac)) := Lib.hid (fun wx hb => by
          obtain ⟨h0, h1, h2, h3⟩ := hnd.cells
          rw [← HN.out] at h3
          exact ⟨below_cell hb h0, below_cell hb h1, below_cell hb h2, below_cell hb h3⟩)
        have HNU : Hid (∀ wx, Below w4.heap.size w4 wx → wx.cell? ⟨qb, qo, none⟩ = some (.int .i64 u1.kind) ∧ wx.cell? ⟨qb, qo + 1, none⟩ = some (.string u1.text) ∧ wx.cell? ⟨qb, qo + 2, none⟩ = some (.int .i64 u1.num) ∧ wx.cell? ⟨qb, qo + 3, none⟩ = some (.slice aa' N' ac')) := Lib.hid (fun wx hb => by
          obtain ⟨h0, h1, h2, h3⟩ := hnd'.cells
          rw [← HN'.out] at h3
          exact ⟨below_cell hb h0, below_cell hb h1, below_cell hb h2, below_cell hb h3⟩)
        have HKB := Lib.hid (kidbase hnd hra)
        have HKB' := Lib.hid (kidbase hnd' hra')
        have hNi : (N : Int) ≤ 1000000 := by have h1 := Ex.sizes_len t1.args; have h2 := t1.size_eq; have h3 := HPW2.out; omega
        have HUZ : Hid (u1.size ≤ 1000000) := Lib.hid (HUS.out ⟨⟨pb, po, none⟩, t1, ⟨qb, qo, none⟩, u1⟩ (by simp))
        have hNi' : (N' : Int) ≤ 1000000 := by have h1 := Ex.sizes_len u1.args; have h2 := u1.size_eq; have h3 := HUZ.out; omega
        clear hnd hac hra hnd' hac' hra' hN hN'
        obtain ⟨q0, hq0⟩ : ∃ q, (t1.kind == u1.kind) = q := ⟨_, rfl⟩
        obtain ⟨q1, hq1⟩ : ∃ q, (t1.text.toList == u1.text.toList) = q := ⟨_, rfl⟩
        obtain ⟨q2, hq2⟩ : ∃ q, (t1.num == u1.num) = q := ⟨_, rfl⟩
        have hq0n : (t1.kind != u1.kind) = !q0 := by rw [bne, hq0]
        have hq1n : (t1.text.toList != u1.text.toList) = !q1 := by rw [bne, hq1]
        have hq2n : (t1.num != u1.num) = !q2 := by rw [bne, hq2]
        have hq1s : (!(t1.text.toList == u1.text.toList)) = !q1 := by rw [hq1]
        cases q0 with
        | false =>
          have HND : Hid (¬ ndq t1 u1) := Lib.hid (fun h => by rw [h.1] at hq0; simp at hq0)
          simp only [Bool.not_false] at hq0n
          clear hq0 hq1 hq2 hq1n hq2n hq1s
          have HE : Hid (exq t u = false) := Lib.hid (HBAD.out (by exact HND.out))
          go_upto_region 8 with fail
          rw [← HW3.out]
          go_upto_region 10 with (first | (refine PMap.wpLook HSM3.out.mp pk2 HOK.out Try.underlying79 (zeroB _) rfl (.tmp 34) (.tmp 35) rfl rfl (⟨pb, po, none⟩, ⟨qb, qo, none⟩) HOKP.out rfl ?_; rw [HF.out, Option.getD_none]) | (refine PMap.wpUpdate HSM3.out.mp pk2 HOK.out Try.underlying79 rfl (.tmp 37) (.tmp 38) (.const (.bool true)) rfl rfl (⟨pb, po, none⟩, ⟨qb, qo, none⟩) HOKP.out rfl (.bool true) rfl ?_; intro w7 hm7 hg7; have HSM7 := Lib.hid (HSM3.out.map hm7 hg7); have x0 : w7.cell? ⟨wr.heap.size, 0, none⟩ = some (.pointer (some ⟨pb, po, none⟩)) := hg7.cell x0 (fun e => by have h1 := HBXM.out; simp at e; omega); have x1 : w7.cell? ⟨wr.heap.size, 1, none⟩ = some (.pointer (some ⟨qb, qo, none⟩)) := hg7.cell x1 (fun e => by have h1 := HBXM.out; simp at e; omega); have HSZ7 := Lib.hid hg7.size; obtain ⟨m0, m1, m2, m3⟩ := HNT.out w7 HSM7.out.bel; obtain ⟨k0, k1, k2, k3⟩ := HNU.out w7 HSM7.out.bel; clear hm7 hg7))
          go_quiet (fail)
          go_wp2
          go_quiet (fail)
          go_wp2
          go_ret
          exact ⟨by rw [HE.out]; rfl, bthen HB4.out (bdrewN (bdrewN HSM7.out.bel _) _)⟩
        | true =>
        simp only [Bool.not_true] at hq0n
        cases q1 with
        | false =>
          have HND : Hid (¬ ndq t1 u1) := Lib.hid (fun h => by rw [h.2.1] at hq1; simp at hq1)
          simp only [Bool.not_false] at hq1n hq1s
          clear hq0 hq1 hq2 hq2n
          have HE : Hid (exq t u = false) := Lib.hid (HBAD.out (by exact HND.out))
          go_upto_region 8 with fail
          rw [← HW3.out]
          go_upto_region 10 with (first | (refine PMap.wpLook HSM3.out.mp pk2 HOK.out Try.underlying79 (zeroB _) rfl (.tmp 34) (.tmp 35) rfl rfl (⟨pb, po, none⟩, ⟨qb, qo, none⟩) HOKP.out rfl ?_; rw [HF.out, Option.getD_none]) | (refine PMap.wpUpdate HSM3.out.mp pk2 HOK.out Try.underlying79 rfl (.tmp 37) (.tmp 38) (.const (.bool true)) rfl rfl (⟨pb, po, none⟩, ⟨qb, qo, none⟩) HOKP.out rfl (.bool true) rfl ?_; intro w7 hm7 hg7; have HSM7 := Lib.hid (HSM3.out.map hm7 hg7); have x0 : w7.cell? ⟨wr.heap.size, 0, none⟩ = some (.pointer (some ⟨pb, po, none⟩)) := hg7.cell x0 (fun e => by have h1 := HBXM.out; simp at e; omega); have x1 : w7.cell? ⟨wr.heap.size, 1, none⟩ = some (.pointer (some ⟨qb, qo, none⟩)) := hg7.cell x1 (fun e => by have h1 := HBXM.out; simp at e; omega); have HSZ7 := Lib.hid hg7.size; obtain ⟨m0, m1, m2, m3⟩ := HNT.out w7 HSM7.out.bel; obtain ⟨k0, k1, k2, k3⟩ := HNU.out w7 HSM7.out.bel; clear hm7 hg7))
          go_quiet (fail)
          go_wp2
          go_quiet (fail)
          go_wp2
          go_ret
          exact ⟨by rw [HE.out]; rfl, bthen HB4.out (bdrewN (bdrewN HSM7.out.bel _) _)⟩
        | true =>
        simp only [Bool.not_true] at hq1n hq1s
        cases q2 with
        | false =>
          have HND : Hid (¬ ndq t1 u1) := Lib.hid (fun h => by rw [h.2.2.1] at hq2; simp at hq2)
          simp only [Bool.not_false] at hq2n
          clear hq0 hq1 hq2
          have HE : Hid (exq t u = false) := Lib.hid (HBAD.out (by exact HND.out))
          go_upto_region 8 with fail
          rw [← HW3.out]
          go_upto_region 10 with (first | (refine PMap.wpLook HSM3.out.mp pk2 HOK.out Try.underlying79 (zeroB _) rfl (.tmp 34) (.tmp 35) rfl rfl (⟨pb, po, none⟩, ⟨qb, qo, none⟩) HOKP.out rfl ?_; rw [HF.out, Option.getD_none]) | (refine PMap.wpUpdate HSM3.out.mp pk2 HOK.out Try.underlying79 rfl (.tmp 37) (.tmp 38) (.const (.bool true)) rfl rfl (⟨pb, po, none⟩, ⟨qb, qo, none⟩) HOKP.out rfl (.bool true) rfl ?_; intro w7 hm7 hg7; have HSM7 := Lib.hid (HSM3.out.map hm7 hg7); have x0 : w7.cell? ⟨wr.heap.size, 0, none⟩ = some (.pointer (some ⟨pb, po, none⟩)) := hg7.cell x0 (fun e => by have h1 := HBXM.out; simp at e; omega); have x1 : w7.cell? ⟨wr.heap.size, 1, none⟩ = some (.pointer (some ⟨qb, qo, none⟩)) := hg7.cell x1 (fun e => by have h1 := HBXM.out; simp at e; omega); have HSZ7 := Lib.hid hg7.size; obtain ⟨m0, m1, m2, m3⟩ := HNT.out w7 HSM7.out.bel; obtain ⟨k0, k1, k2, k3⟩ := HNU.out w7 HSM7.out.bel; clear hm7 hg7))
          go_quiet (fail)
          go_wp2
          go_quiet (fail)
          go_wp2
          go_ret
          exact ⟨by rw [HE.out]; rfl, bthen HB4.out (bdrewN (bdrewN HSM7.out.bel _) _)⟩
        | true =>
        simp only [Bool.not_true] at hq2n
        by_cases hl : N = N'
        · subst hl
          have HNDQ : Hid (ndq t1 u1) := Lib.hid ⟨by simpa using hq0, toList_inj (by simpa using hq1), by simpa using hq2, by rw [← HN.out, ← HN'.out]⟩
          obtain ⟨kb, ko, hka, hkk⟩ := HKB.out
          obtain ⟨kb', ko', hka', hkk'⟩ := HKB'.out
          have HKA := Lib.hid hka
          have HKA' := Lib.hid hka'
          have HOPEN := Lib.hid (SI.open HSI.out HNDQ.out (b := kb) (o := ko) (b' := kb') (o' := ko') hkk hkk')
          have HS9 : Hid (S'.length + N ≤ 1000000) := Lib.hid (by have h1 := HPW2.out; have h2 := pw_len S'; have h3 := Ex.sizes_len t1.args; have h4 := t1.size_eq; have h5 := HN.out; omega)
          clear hq0 hq1 hq2 hka hkk hka' hkk'
          go_upto_region 8 with fail
          rw [← HW3.out]
          go_upto_region 10 with (first | (refine PMap.wpLook HSM3.out.mp pk2 HOK.out Try.underlying79 (zeroB _) rfl (.tmp 34) (.tmp 35) rfl rfl (⟨pb, po, none⟩, ⟨qb, qo, none⟩) HOKP.out rfl ?_; rw [HF.out, Option.getD_none]) | (refine PMap.wpUpdate HSM3.out.mp pk2 HOK.out Try.underlying79 rfl (.tmp 37) (.tmp 38) (.const (.bool true)) rfl rfl (⟨pb, po, none⟩, ⟨qb, qo, none⟩) HOKP.out rfl (.bool true) rfl ?_; intro w7 hm7 hg7; have HSM7 := Lib.hid (HSM3.out.map hm7 hg7); have x0 : w7.cell? ⟨wr.heap.size, 0, none⟩ = some (.pointer (some ⟨pb, po, none⟩)) := hg7.cell x0 (fun e => by have h1 := HBXM.out; simp at e; omega); have x1 : w7.cell? ⟨wr.heap.size, 1, none⟩ = some (.pointer (some ⟨qb, qo, none⟩)) := hg7.cell x1 (fun e => by have h1 := HBXM.out; simp at e; omega); have HSZ7 := Lib.hid hg7.size; obtain ⟨m0, m1, m2, m3⟩ := HNT.out w7 HSM7.out.bel; obtain ⟨k0, k1, k2, k3⟩ := HNU.out w7 HSM7.out.bel; clear hm7 hg7))
          go_quiet (fail)
          obtain ⟨wq, hwq⟩ : ∃ wq, wq = w7.drewN nq := ⟨_, rfl⟩
          rw [← hwq]
          have HSMQ : Hid (SM w4 bm S' (fun y => if y = ((⟨pb, po, none⟩ : Addr), (⟨qb, qo, none⟩ : Addr)) then some (Value.bool true) else f y) (.slice (some ⟨gs, 0, none⟩) n sc) wq) := Lib.hid (by rw [hwq]; exact HSM7.out.below (bdrewN (Below.refl _ _) nq))
          clear hwq m0 m1 m2 m3 k0 k1 k2 k3 x0 x1
          obtain ⟨m0, m1, m2, m3⟩ := HNT.out wq HSMQ.out.bel
          obtain ⟨k0, k1, k2, k3⟩ := HNU.out wq HSMQ.out.bel
          go_wp2
          go_quiet (fail)
          obtain ⟨wp, hwp⟩ : ∃ wp, wp = wq.drewN nq := ⟨_, rfl⟩
          rw [← hwp]
          have HSMP : Hid (SM w4 bm S' (fun y => if y = ((⟨pb, po, none⟩ : Addr), (⟨qb, qo, none⟩ : Addr)) then some (Value.bool true) else f y) (.slice (some ⟨gs, 0, none⟩) n sc) wp) := Lib.hid (by rw [hwp]; exact HSMQ.out.below (bdrewN (Below.refl _ _) nq))
          clear hwp m0 m1 m2 m3 k0 k1 k2 k3
          obtain ⟨m0, m1, m2, m3⟩ := HNT.out wp HSMP.out.bel
          have hn2 := HN0.out
          subst hn2
          go_wp2
          clear m0 m1 m2 m3
          obtain ⟨wo, hwo⟩ : ∃ wo : World, wo = wr := ⟨_, rfl⟩
          subst hwo
          go_loopw [5, 92] (fun sv jv wx => ∃ (i : Nat) (sa : Option Addr) (sc' : Nat), jv = .int .i64 i ∧ i ≤ N ∧ sv = .slice sa (S'.length + i) sc' ∧ SM w4 bm (S' ++ kp kb ko kb' ko' (t1.args.take i) (u1.args.take i)) (fun y => if y = ((⟨pb, po, none⟩ : Addr), (⟨qb, qo, none⟩ : Addr)) then some (Value.bool true) else f y) sv wx) (fun _ jv _ => N - (intOf jv).toNat)
          case atStart => exact ⟨0, some ⟨gs, 0, none⟩, sc, rfl, by omega, rfl, by simpa [kp] using HSMP.out⟩
          case round =>
            obtain ⟨i, sa, sc', rfl, hi, rfl, hsm⟩ := hrel
            have HTL : Hid (∀ j, j ≤ N → (t1.args.take j).length = (u1.args.take j).length) := Lib.hid (fun j hj => by simp [← HN.out, ← HN'.out])
            have HLEN : Hid ((S' ++ kp kb ko kb' ko' (t1.args.take i) (u1.args.take i)).length = S'.length + i) := Lib.hid (by rw [List.length_append, kp_len _ _ _ _ _ _ (HTL.out i hi)]; simp [← HN.out]; omega)
            have HSMI := Lib.hid hsm
            have m3 := (HNT.out wr hsm.bel).2.2.2
            have k3 := (HNU.out wr hsm.bel).2.2.2
            by_cases hlt : i < N
            · obtain ⟨tt, htt⟩ : ∃ u, t1.args[i]? = some u := ⟨_, List.getElem?_eq_getElem (by rw [← HN.out]; exact hlt)⟩
              obtain ⟨uu, huu⟩ : ∃ u, u1.args[i]? = some u := ⟨_, List.getElem?_eq_getElem (by rw [← HN'.out]; exact hlt)⟩
              obtain rfl := HKA.out (by rw [← HN.out]; omega)
              obtain rfl := HKA'.out (by rw [← HN'.out]; omega)
              have HTT := Lib.hid htt
              have HUU := Lib.hid huu
              have HLT := Lib.hid hlt
              have hlti : (i : Int) < (N : Int) := by omega
              have HSTK : Hid (Row wr w4.heap.size 77 2 (.slice sa (S'.length + i) sc') (S'.length + i) (cellsPE (S' ++ kp kb ko kb' ko' (t1.args.take i) (u1.args.take i)))) := Lib.hid (by have h := hsm.stk; rw [HLEN.out] at h; exact h)
              have HGEW : Hid (w4.heap.size ≤ wr.heap.size) := Lib.hid hsm.bel.size
              clear htt huu hlt hsm hi
              go_upto_region 16 with fail
              go_region_held3 (fun w' => w'.cell? ⟨pb, po + 3, none⟩ = some (.slice (some ⟨kb, ko, none⟩) N ac) ∧ w'.cell? ⟨qb, qo + 3, none⟩ = some (.slice (some ⟨kb', ko', none⟩) N ac')) (go_keep) (first | (refine step_app_row_at (.tmp 95) (.tmp 109) EPair rfl rfl w4.heap.size (.slice sa (S'.length + i) sc') (S'.length + i) (cellsPE (S' ++ kp kb ko kb' ko' (t1.args.take i) (u1.args.take i))) rfl (Row.drew (Row.alloc HSTK.out _)) (some ⟨_, 0, none⟩) 1 1 [.pointer (some ⟨kb, ko + i * 4, none⟩), .pointer (some ⟨kb', ko' + i * 4, none⟩)] rfl (RdG.drew (RdG.lits wr 2 77 1 [.pointer (some ⟨kb, ko + i * 4, none⟩), .pointer (some ⟨kb', ko' + i * 4, none⟩)] rfl)) (by simp [Value.oneCell']) (by have h1 := HS9.out; have h2 := HLT.out; omega) (by decide) (by have := HGEW.out; simp; omega) ?_; intro a6 c6 w6 hr6 hg6 hat6; rw [← HLEN.out] at hr6; have HSM6 := Lib.hid ((HSMI.out.below (below_alloc _ _).drew).push (x := ⟨⟨kb, ko + i * 4, none⟩, tt, ⟨kb', ko' + i * 4, none⟩, uu⟩) hr6 hg6); have p3 := (HNT.out w6 HSM6.out.bel).2.2.2; have r3 := (HNU.out w6 HSM6.out.bel).2.2.2; clear hr6 hg6 hat6))
              all_goals
                go_wp2
                go_roundw
                case rel => exact ⟨i + 1, a6, c6, by go_num, HLT.out, rfl, by
                  have h := HSM6.out
                  rw [List.append_assoc, show (⟨⟨kb, ko + i * 4, none⟩, tt, ⟨kb', ko' + i * 4, none⟩, uu⟩ : PE) = ⟨⟨kb, ko + 4 * (t1.args.take i).length, none⟩, tt, ⟨kb', ko' + 4 * (t1.args.take i).length, none⟩, uu⟩ by simp [← HN.out, Nat.min_eq_left (Nat.le_of_lt HLT.out), Nat.mul_comm], ← kp_snoc _ _ _ _ _ _ _ _ (HTL.out i (Nat.le_of_lt HLT.out)), ← take_snoc HTT.out, ← take_snoc HUU.out] at h
                  rw [HLEN.out] at h
                  exact h⟩
                case measure => have := HLT.out; simp [intOf]; omega
            · obtain rfl : N = i := by omega
              have HAT : Hid (t1.args.take N = t1.args) := Lib.hid (List.take_of_length_le (by rw [HN.out]; exact Nat.le_refl _))
              have HAU : Hid (u1.args.take N = u1.args) := Lib.hid (List.take_of_length_le (by rw [HN'.out]; exact Nat.le_refl _))
              rw [HAT.out, HAU.out] at HSMI HLEN
              have HPK := Lib.hid (kp_pw t1.args u1.args kb ko kb' ko')
              clear hsm hlt hi m3 k3
              go_wp2
              go_roundg (pw (S' ++ kp kb ko kb' ko' t1.args u1.args))
              case measure => have h1 := HGG.out; have h2 := HPK.out; have h3 := t1.size_eq; rw [pw_append] at h1 ⊢; simp only [pw] at h1; omega
              case rel => exact ⟨S' ++ kp kb ko kb' ko' t1.args u1.args, _, sa, sc', Nat.le_refl _, by rw [HLEN.out], HOPEN.out, HSMI.out, by have h1 := HPW2.out; have h2 := HPK.out; have h3 := t1.size_eq; rw [pw_append]; omega, fun x hx => by
                rcases List.mem_append.1 hx with hx | hx
                · exact HUS.out x (List.mem_append_left _ hx)
                · obtain ⟨j, _, h2, _, _⟩ := kp_mem _ _ _ _ _ _ x hx
                  have h3 := Ex.size_kid h2
                  have h4 := u1.size_eq
                  have h5 := HUZ.out
                  omega⟩
        · have HND : Hid (¬ ndq t1 u1) := Lib.hid (fun h => hl (by rw [HN.out, HN'.out]; exact h.2.2.2))
          have hlb : ((N : Int) != (N' : Int)) = true := by simp; omega
          have hlb2 : ((N : Int) == (N' : Int)) = false := by rw [beq_eq_false_iff_ne]; omega
          have hlb3 : decide (N = N') = false := decide_eq_false hl
          have hlb4 : (N == N') = false := by rw [beq_eq_false_iff_ne]; exact hl
          clear hq0 hq1 hq2 hl
          have HE : Hid (exq t u = false) := Lib.hid (HBAD.out (by exact HND.out))
          go_upto_region 8 with fail
          rw [← HW3.out]
          go_upto_region 10 with (first | (refine PMap.wpLook HSM3.out.mp pk2 HOK.out Try.underlying79 (zeroB _) rfl (.tmp 34) (.tmp 35) rfl rfl (⟨pb, po, none⟩, ⟨qb, qo, none⟩) HOKP.out rfl ?_; rw [HF.out, Option.getD_none]) | (refine PMap.wpUpdate HSM3.out.mp pk2 HOK.out Try.underlying79 rfl (.tmp 37) (.tmp 38) (.const (.bool true)) rfl rfl (⟨pb, po, none⟩, ⟨qb, qo, none⟩) HOKP.out rfl (.bool true) rfl ?_; intro w7 hm7 hg7; have HSM7 := Lib.hid (HSM3.out.map hm7 hg7); have x0 : w7.cell? ⟨wr.heap.size, 0, none⟩ = some (.pointer (some ⟨pb, po, none⟩)) := hg7.cell x0 (fun e => by have h1 := HBXM.out; simp at e; omega); have x1 : w7.cell? ⟨wr.heap.size, 1, none⟩ = some (.pointer (some ⟨qb, qo, none⟩)) := hg7.cell x1 (fun e => by have h1 := HBXM.out; simp at e; omega); have HSZ7 := Lib.hid hg7.size; obtain ⟨m0, m1, m2, m3⟩ := HNT.out w7 HSM7.out.bel; obtain ⟨k0, k1, k2, k3⟩ := HNU.out w7 HSM7.out.bel; clear hm7 hg7))
          go_quiet (fail)
          go_wp2
          go_quiet (fail)
          go_wp2
          go_ret
          exact ⟨by rw [HE.out]; rfl, bthen HB4.out (bdrewN (bdrewN HSM7.out.bel _) _)⟩

end Go.Proofs.Ytpabngicbfcdkaa
