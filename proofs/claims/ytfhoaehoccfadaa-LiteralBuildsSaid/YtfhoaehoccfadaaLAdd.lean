/-
  (*trie).add: the walk.
-/
import Derived.Test.YtfhoaehoccfadaaLTrie
namespace Go.Proofs.Ytfhoaehoccfadaa
open Go.RowKit Go.Maps
set_option linter.unusedVariables false
set_option linter.unusedSimpArgs false

/-- how many patterns the words are -/
def eqsL (ps W : List (List Int)) : List Int := W.map fun x => (eqs ps x : Int)

theorem eqs_zero {ps : List (List Int)} {x : List Int} (h : x ∉ ps) : eqs ps x = 0 := by
  unfold eqs
  rw [List.length_eq_zero_iff, List.filter_eq_nil_iff]
  intro p hp e
  rw [beq_iff_eq] at e
  exact h (e ▸ hp)
theorem eqs_snoc (ps : List (List Int)) (p x : List Int) : eqs (ps ++ [p]) x = eqs ps x + if p = x then 1 else 0 := by
  unfold eqs
  rw [List.filter_append, List.length_append]
  congr 1
  by_cases h : p = x <;> simp [h]
theorem eqs_le (ps : List (List Int)) (x : List Int) : eqs ps x ≤ ps.length := List.length_filter_le _ _
theorem eqsL_len (ps W) : (eqsL ps W).length = W.length := by simp [eqsL]
theorem eqsL_new {ps W : List (List Int)} {x : List Int} (h : ∀ p ∈ ps, p ∈ W) (hx : x ∉ W) : eqsL ps (W ++ [x]) = eqsL ps W ++ [0] := by
  unfold eqsL
  rw [List.map_append]
  simp [eqs_zero (fun hp => hx (h x hp))]
theorem eqsL_inc {ps W : List (List Int)} {p : List Int} (hn : W.Nodup) (hp : p ∈ W) : (eqsL ps W).set (W.idxOf p) ((eqs ps p : Int) + 1) = eqsL (ps ++ [p]) W := by
  obtain ⟨q1, q2⟩ := mem_getD (d := []) hp
  refine List.ext_getElem (by simp [eqsL]) fun i h1 h2 => ?_
  have hi : i < W.length := by simpa [eqsL] using h2
  rw [List.getElem_set]
  have hgi : W.getD i [] = W[i] := by simp [List.getD, hi]
  by_cases e : W.idxOf p = i
  · rw [if_pos e]
    have : W[i] = p := by rw [← hgi, ← e, q2]
    simp [eqsL, this, eqs_snoc]
  · rw [if_neg e]
    have : p ≠ W[i] := fun h => e (by rw [h, ← hgi]; exact idx_getD hn hi)
    simp [eqsL, eqs_snoc, this]
theorem eqsL_get {ps W : List (List Int)} {p : List Int} (hp : p ∈ W) : (eqsL ps W)[W.idxOf p]? = some (eqs ps p : Int) := by
  obtain ⟨q1, q2⟩ := mem_getD (d := []) hp
  unfold eqsL
  rw [List.getElem?_map]
  have : W[W.idxOf p]? = some p := by
    rw [List.getElem?_eq_getElem q1]; simp
  rw [this]; rfl
theorem used_snoc (ps : List (List Int)) (p : List Int) {k b : Nat} (hk : k < p.length) (hb : p.getD k 0 = (b : Int)) : (fun x => usedB (ps ++ [p.take k]) x || x == b) = usedB (ps ++ [p.take (k + 1)]) := by
  funext x
  unfold usedB
  rw [List.any_append, List.any_append, take_snoc_getD hk, hb]
  simp only [List.any_cons, List.any_nil, Bool.or_false]
  rw [Bool.or_assoc]
  congr 1
  rw [Bool.eq_iff_iff]
  simp [List.contains_iff_mem, Int.ofNat_inj]
theorem used_nil (ps : List (List Int)) : usedB (ps ++ [[]]) = usedB ps := by
  funext x; simp [usedB]

theorem take_mem_addP {ps W : List (List Int)} (hW : Tw ps W) {p : List Int} {k : Nat} (hk : k ≤ p.length) : p.take k ∈ addP p W k := by
  rw [mem_addP]
  rcases Nat.eq_zero_or_pos k with h | h
  · subst h; exact .inl hW.closed.nil
  · exact .inr ⟨k, h, Nat.le_refl _, rfl⟩
theorem addP_closed {ps W : List (List Int)} (hW : Tw ps W) (p : List Int) : ∀ k, k ≤ p.length → Closed (addP p W k) := by
  intro k hk
  refine ⟨(mem_addP p W k _).2 (.inl hW.closed.nil), fun {u b} hm => ?_⟩
  rcases (mem_addP p W k _).1 hm with h | ⟨i, h1, h2, h3⟩
  · exact (mem_addP p W k _).2 (.inl (hW.closed.pre h))
  · obtain ⟨j, rfl⟩ : ∃ j, i = j + 1 := ⟨i - 1, by omega⟩
    rw [take_snoc_getD (by omega)] at h3
    have := (List.append_inj' h3 rfl).1
    rw [this]
    rcases Nat.eq_zero_or_pos j with e | e
    · subst e; exact (mem_addP p W k _).2 (.inl hW.closed.nil)
    · exact (mem_addP p W k _).2 (.inr ⟨j, e, by omega, rfl⟩)
theorem tw_sub {ps W : List (List Int)} (hW : Tw ps W) (p : List Int) (k : Nat) : ∀ q ∈ ps, q ∈ addP p W k := fun q hq => (mem_addP p W k q).2 (.inl ((hW.mem q).2 (.inr ⟨q, hq, List.prefix_refl q⟩)))

def AddPost (B bt bm : Nat) (ps W : List (List Int)) (p : List Int) (w : World) (e : Ending) (w' : World) : Prop :=
  e = .returned (.bool (decide ((addP p W p.length).length ≤ 256))) ∧ Below B w w' ∧ ((addP p W p.length).length ≤ 256 → ∃ g c, TM B w' bt bm g c (addP p W p.length) (eqsL (ps ++ [p]) (addP p W p.length)) (usedB (ps ++ [p])))

theorem tm_below {B : Nat} {w w' : World} {bt bm g : Nat} (hf : Fr (fun i => i = bm ∨ i = g ∨ i = bt) w w') (h1 : B ≤ bt) (h2 : B ≤ bm) (h3 : B ≤ g) (hB : B ≤ w.heap.size) : Below B w w' :=
  hf.below (by rintro i (rfl | rfl | rfl) <;> assumption) hB

set_option maxRecDepth 100000 in
set_option maxHeartbeats 4000000 in
theorem add_any (B bt bm g c : Nat) (w0 w : World) (ps W : List (List Int)) (p : List Int) (a : Option Addr) (n cp : Nat) (hT : TM B w bt bm g c W (eqsL ps W) (usedB ps)) (hW : Tw ps W) (hl : W.length ≤ 256) (hps : ps.length < 4294967296)
    (hr : Rd w0 .u8 a n p) (hb : Below w0.heap.size w0 w) (hB : w0.heap.size ≤ B) (hBw : B ≤ w.heap.size) :
    Calls Try.prog 25 #[.pointer (some ⟨bt, 0, none⟩), .slice a n cp] w (AddPost B bt bm ps W p w) := by
  have HR := Lib.hid hr
  have HB := Lib.hid hb
  have HT := Lib.hid hT
  have HW := Lib.hid hW
  have HL := Lib.hid hr.len
  have HWL := Lib.hid hl
  have HPS := Lib.hid hps
  have HBB := Lib.hid (And.intro hB hBw)
  have hmax := hr.max
  have HBY := Lib.hid (fun x hx => bd_u8 (hr.wf x hx))
  clear hr hb hT hW hl hps hB hBw
  go_enter Try.func25, Try.ntmps25
  go_wp2
  go_loopw [5, 12] (fun nv iv wr => ∃ k g c : Nat, k ≤ n ∧ iv = .int .i64 k ∧ nv = .int .i64 ((addP p W k).idxOf (p.take k) : Nat) ∧ TM B wr bt bm g c (addP p W k) (eqsL ps (addP p W k)) (usedB (ps ++ [p.take k])) ∧ Below B w wr ∧ (addP p W k).length ≤ 256) (fun _ iv _ => n - (intOf iv).toNat)
  case atStart =>
    refine ⟨0, g, c, by omega, rfl, ?_, by rw [List.take_zero, used_nil]; exact HT.out, Below.refl _ _, HWL.out⟩
    have h0 := HW.out.hd
    have := idx_getD HW.out.nodup (hd_len h0)
    rw [getD_any (hd_len h0) [] [0], h0] at this
    rw [List.take_zero]; show _ = Value.int .i64 ((W.idxOf [] : Nat) : Int); rw [this]; rfl
  case round =>
    obtain ⟨k, g, c, hk, rfl, rfl, htm, hbl, hln⟩ := hrel
    have HTM := Lib.hid htm
    have HBL := Lib.hid hbl
    have HLN := Lib.hid hln
    clear htm hbl hln HT
    have HBW0 : Hid (Below w0.heap.size w0 wr) := Lib.hid (HB.out.trans (HBL.out.mono HBB.out.1))
    by_cases hlt : k < n
    · have hkl : k < p.length := by rw [HL.out]; exact hlt
      obtain ⟨b1, o1, rfl, hcell⟩ := (HR.out.below HBW0.out).cell k hlt
      have hby := HBY.out (p.getD k 0) (getD_mem hkl)
      obtain ⟨b, hbe⟩ := Int.eq_ofNat_of_zero_le hby.1
      have hb255 : b < 256 := by omega
      have HSN := Lib.hid (used_snoc ps p hkl hbe)
      have HTK : Hid (p.take (k + 1) = p.take k ++ [(b : Int)]) := Lib.hid (by rw [take_snoc_getD hkl, hbe])
      rw [hbe] at hcell
      have HMT := Lib.hid (take_mem_addP HW.out (p := p) (k := k) (by omega))
      obtain ⟨q1, q2⟩ := mem_getD (d := []) HMT.out
      have HQ := Lib.hid (And.intro q1 q2)
      have hc0 := HTM.out.c0
      have hc1 := HTM.out.c1
      have hcu := HTM.out.cu b hb255
      have hfz := HTM.out.fz (2 + b)
      have hfz1 := HTM.out.fz 1
      have HMK := Lib.hid (HTM.out.mark hb255)
      have hmc0 := HMK.out.c0
      have HST : Hid ((addP p W (k + 1)) = if p.take (k + 1) ∈ addP p W k then addP p W k else addP p W k ++ [p.take (k + 1)]) := Lib.hid rfl
      have HND := Lib.hid (addP_nodup p HW.out.nodup k)
      have HCL := Lib.hid (addP_closed HW.out p k (by omega))
      have HSB := Lib.hid (tw_sub HW.out p k)
      have HMO := Lib.hid (addP_mono p W (show k + 1 ≤ p.length by omega))
      clear q1 q2 hby hbe
      by_cases hm : p.take (k + 1) ∈ addP p W k
      · have HM := Lib.hid hm
        clear hm
        have HXW : Hid ((addP p W k).getD ((addP p W k).idxOf (p.take k)) [] ++ [(b : Int)] = p.take (k + 1)) := Lib.hid (by rw [HQ.out.2, HTK.out])
        go_wp2_with (at_lookup; refine look_hit rfl _ _ rfl HMK.out.map rfl ((addP p W k).idxOf (p.take k)) (b : Int) rfl HQ.out.1 (by have := HLN.out; omega) (by omega) (by omega) _ HXW.out HM.out ?_)
        go_roundw
        case rel =>
          have e : addP p W (k + 1) = addP p W k := by rw [HST.out, if_pos HM.out]
          refine ⟨k + 1, g, c, by omega, by go_num, by rw [e], ?_, ?_, by rw [e]; exact HLN.out⟩
          · rw [e, ← HSN.out]; exact HMK.out
          · exact HBL.out.setCell (by exact HTM.out.bB) _
        case measure => simp [intOf]; omega
      · have HM := Lib.hid hm
        clear hm
        have HXW : Hid ((addP p W k).getD ((addP p W k).idxOf (p.take k)) [] ++ [(b : Int)] = p.take (k + 1)) := Lib.hid (by rw [HQ.out.2, HTK.out])
        by_cases hful : (addP p W k).length = 256
        · have hfi : ((addP p W k).length : Int) = 256 := by omega
          have hel : ((eqsL ps (addP p W k)).length : Int) = 256 := by rw [eqsL_len]; omega
          have hmc1 := HMK.out.c1
          rw [eqsL_len, hful] at hmc1
          have HF : Hid (decide ((addP p W p.length).length ≤ 256) = false) := Lib.hid (by
            rw [decide_eq_false_iff_not]
            have h1 := HMO.out
            rw [HST.out, if_neg HM.out, List.length_append, List.length_singleton] at h1
            omega)
          clear hful hfi hel hc1
          go_wp2_with (at_lookup; refine look_miss rfl _ _ rfl HMK.out.map rfl ((addP p W k).idxOf (p.take k)) (b : Int) rfl HQ.out.1 (by have := HLN.out; omega) (by omega) (by omega) _ HXW.out HM.out ?_)
          go_ret
          refine ⟨ret_eq (by rw [HF.out]; rfl), HBL.out.setCell HTM.out.bB _, fun h => ?_⟩
          have := HF.out
          rw [decide_eq_false_iff_not] at this
          exact absurd h this
        · have hful2 : (addP p W k).length < 256 := by have := HLN.out; omega
          have hmc1 := HMK.out.c1
          rw [eqsL_len] at hmc1
          have hn256 : (((addP p W k).length : Int) == 256) = false := by simp; omega
          have HBM : Hid (Below B w (wr.setCell ⟨bt, 2 + b, none⟩ (.bool true))) := Lib.hid (HBL.out.setCell HTM.out.bB _)
          have hbtm : some bt ≠ some bm := by have := HTM.out.mb; simp; omega
          have hbtg : some bt ≠ some g := by have := HTM.out.gb; simp; omega
          have HNE := Lib.hid (And.intro hbtm hbtg)
          have hmf1 := HMK.out.fz 1
          clear hcu hfz hbtm hbtg hc0 hc1 hfz1
          obtain ⟨wm, hwm⟩ : ∃ wm, wm = wr.setCell ⟨bt, 2 + b, none⟩ (.bool true) := ⟨_, rfl⟩
          have hcu := HTM.out.cu b hb255
          have hfz := HTM.out.fz (2 + b)
          have hc0 := HTM.out.c0
          have hc1 := HTM.out.c1
          have HWM := Lib.hid hwm
          rw [← hwm] at HMK HBM hmc0 hmc1 hmf1
          clear hwm hmc0 hmc1 hmf1
          have HOM : Hid (Own wm B 3 .i64 (.slice (some ⟨g, 0, none⟩) (eqsL ps (addP p W k)).length c) (eqsL ps (addP p W k))) := Lib.hid HMK.out.own
          have HSZM : Hid (B ≤ wm.heap.size) := Lib.hid (by have := HBM.out.size; have := HBB.out.2; omega)
          have HMF : Hid (wm.frozen? ⟨bt, 1, none⟩ = false) := Lib.hid (HMK.out.fz 1)
          have HGM : Hid (g ≠ bm) := Lib.hid HTM.out.gm
          go_wp2_with (first
            | (at_lookup; rw [← HWM.out]; refine look_miss rfl _ _ rfl HMK.out.map rfl ((addP p W k).idxOf (p.take k)) (b : Int) rfl HQ.out.1 (by have := HLN.out; omega) (by omega) (by omega) _ HXW.out HM.out ?_; have hmc0 := HMK.out.c0; have hmc1 := HMK.out.c1; rw [eqsL_len] at hmc1; clear hcu hfz hc0 hc1)
            | (at_mapUpdate; refine upd_edge rfl _ _ _ rfl HMK.out.map HND.out HCL.out rfl ((addP p W k).idxOf (p.take k)) (b : Int) rfl rfl HQ.out.1 (by have := HLN.out; omega) (by omega) (by omega) _ HXW.out HM.out ?_; intro w1 D1 hm1 hg1 hd1; have gc1 := hg1.cell hmc1 HNE.out.1; have HM1 := Lib.hid hm1; have HG1 := Lib.hid hg1; have HD1 := Lib.hid hd1; have hgc := below_cell (below_alloc w1 (.cells #[.int .i64 0] 3)) gc1; clear hm1 hg1 hd1 hmc1 hmc0; have HO1 : Hid (Row w1 B 3 1 (.slice (some ⟨g, 0, none⟩) (addP p W k).length c) (addP p W k).length ((eqsL ps (addP p W k)).map (Value.int .i64))) := Lib.hid (by have h := World.ownsRow.kept HOM.out HG1.out (.inr (fun e => HGM.out (Option.some.inj e))); rw [eqsL_len] at h; exact h); have HSZ : Hid (B ≤ (w1.alloc (.cells #[.int .i64 0] 3)).heap.size) := Lib.hid (Nat.le_trans HSZM.out (Nat.le_trans HG1.out.size (below_alloc w1 _).size)))
            | (at_builtin; refine app_row_at (.tmp 53) (.tmp 54) EIG rfl rfl B (.slice (some ⟨g, 0, none⟩) (addP p W k).length c) (addP p W k).length _ rfl (Row.alloc HO1.out _) _ 1 _ [.int .i64 0] rfl (RdG.lits w1 1 3 1 [.int .i64 0] rfl) (by simp [Value.oneCell']) (by omega) (by decide) HSZ.out ?_; intro a7 c7 w7 hr7 hg7 hat7; have hc7 := hg7.cell hgc HNE.out.2; have hf7 : w7.frozen? ⟨bt, 1, none⟩ = false := (World.frozen?_of_block (w := w1.alloc (.cells #[.int .i64 0] 3)) (hg7.block bt (World.block_lt_of_cell? _ _ hgc) HNE.out.2)).trans (((below_alloc w1 _).frozen (World.block_lt_of_cell? _ _ gc1)).trans ((World.frozen?_of_block (w := wm) (HG1.out.block bt HMK.out.lt HNE.out.1)).trans HMF.out)); have HR7 := Lib.hid hr7; have HG7 := Lib.hid hg7; have HAT7 := Lib.hid hat7; clear hr7 hg7 hat7))
          obtain ⟨ho8, hat8⟩ := own_app (eqsL_len ps _).symm HR7.out HAT7.out
          obtain ⟨g8, hg8, htm8, hfr8⟩ := HMK.out.push HM1.out HG1.out HD1.out (below_alloc w1 _) ho8 HG7.out hat8
          have HE8 : Hid ((addP p W k).length + 1 = (eqsL ps (addP p W k) ++ [0]).length) := Lib.hid (by simp [eqsL_len])
          rw [HE8.out]
          have HT8 := Lib.hid htm8
          have HF8 := Lib.hid hfr8
          clear ho8 hat8 htm8 hfr8 hc7 hf7 gc1 hgc hcell
          subst hg8
          go_roundw
          case rel =>
            have e : addP p W (k + 1) = addP p W k ++ [p.take (k + 1)] := by rw [HST.out, if_neg HM.out]
            refine ⟨k + 1, g8, c7, by omega, by go_num, ?_, ?_, ?_, by rw [e]; simp; omega⟩
            · rw [e, idx_new HM.out]
            · rw [e, ← HSN.out, eqsL_new HSB.out HM.out]; exact HT8.out
            · exact HBM.out.trans (tm_below HF8.out HTM.out.bB HTM.out.mB HTM.out.gB.1 HSZM.out)
          case measure => simp [intOf]; omega
    · have hkn : k = n := by omega
      subst hkn
      have HKL : Hid (p.take k = p) := Lib.hid (List.take_of_length_le (by rw [HL.out]; omega))
      have hpm := take_mem_addP HW.out (p := p) (k := k) (by rw [HL.out]; omega)
      rw [HKL.out] at hpm HTM ⊢
      have HPM := Lib.hid hpm
      have hc1 := HTM.out.c1
      have hce := Own.cellAt HTM.out.own (i := (addP p W k).idxOf p) (x := (eqs ps p : Int)) rfl (eqsL_get hpm)
      have hlt2 : (((addP p W k).idxOf p : Nat) : Int) < ((eqsL ps (addP p W k)).length : Nat) := by
        have := (mem_getD (d := []) hpm).1
        rw [eqsL_len]; omega
      have hle := eqs_le ps p
      have hwr : IntKind.i64.wrap ((eqs ps p : Int) + 1) = (eqs ps p : Int) + 1 := IntWalk.i64_in _ (by have := HPS.out; omega)
      clear hpm hle
      go_wp2_with (refine store_int rfl 3 .i64 (.tmp 68) (.tmp 67) rfl g ((addP p W k).idxOf p) rfl ((eqs ps p : Int) + 1) rfl (by kernel_rfl) B _ _ _ _ HTM.out.own rfl (by rw [eqsL_len]; exact (mem_getD (d := []) HPM.out).1) ?_)
      intro w7 ho7 hg7
      have HT7 := Lib.hid (HTM.out.inc (by simp) ho7 hg7)
      have HB7 := Lib.hid (HBL.out.grown hg7 (by have := HBL.out.size; have := HBB.out.2; omega) (fun x hx => by cases hx; exact HTM.out.gB.1))
      clear ho7 hg7 hwr hce hc1
      go_wp2
      go_ret
      have hlk := HLN.out
      refine ⟨ret_eq (by rw [HL.out, decide_eq_true hlk]; rfl), HB7.out, fun _ => ⟨g, c, ?_⟩⟩
      rw [HL.out, ← eqsL_inc (addP_nodup p HW.out.nodup k) HPM.out]
      exact HT7.out

end Go.Proofs.Ytfhoaehoccfadaa
