/-
  syntax.deeper: the walk.
-/
import Derived.Test.YtpabngicbfcdkaaSizeW
namespace Go.Proofs.Ytpabngicbfcdkaa
open Go.RowKit
set_option linter.unusedVariables false
set_option linter.unusedSimpArgs false

set_option maxRecDepth 100000 in
set_option maxHeartbeats 2000000 in
theorem deeper_any (T : Nat → Prop) (t : Ex) (p0 : Addr) (M : Nat) (w1 : World) (hr : RdP T w1 t p0) (hsz : t.size ≤ 1000000000) (hM : M ≤ 1000000000) :
    Calls Try.prog 23 #[.pointer (some p0), .int .i64 M] w1 fun e w' => e = .returned (.bool (decide (M < t.depth))) ∧ Below w1.heap.size w1 w' := by
  have HRD := Lib.hid hr
  have HSZ := Lib.hid hsz
  have HORD := Lib.hid (Order_any T t p0 w1 hr hsz)
  obtain ⟨g0, h0, rfl⟩ : ∃ g0 h0, p0 = ⟨g0, h0, none⟩ := ⟨_, _, addr_eta hr.1⟩
  have hM9 : (M : Int) ≤ 1000000000 := by omega
  clear hr hsz hM
  go_enter Try.func23, Try.ntmps23
  go_wp2_with fail
  refine HORD.out.mono ?_
  rintro e w2 ⟨hb2, L, la, lc, rfl, hrl, htp, hm0, hll⟩
  have HB2 := Lib.hid hb2
  have HRL := Lib.hid (fun (wx : World) (hb : Below w2.heap.size w2 wx) => hrl.below hb)
  have HTP := Lib.hid htp
  have HM0 := Lib.hid hm0
  have HLL := Lib.hid hll
  obtain ⟨N, hN⟩ : ∃ N, N = L.length := ⟨_, rfl⟩
  have hN9 : (N : Int) ≤ 2000000000 := by have h1 := HSZ.out; omega
  have HN := Lib.hid hN
  rw [← hN] at HRL ⊢
  have hmm : ∀ w, (Instr.makeMap 72 (some (.int .i64 (N : Int)))).run Try.prog w = .ok (.map (some w.heap.size)) (w.alloc (.map #[] 0)) := fun w => by
    simp [Instr.makeMap, run_underlying Try.underlying72, asInt, asIntOf]
  clear hb2 hrl htp hm0 hll hN
  go_wp2
  obtain ⟨bm, hbm⟩ : ∃ bm, bm = w2.heap.size := ⟨_, rfl⟩
  obtain ⟨wm, hwm⟩ : ∃ wm, wm = w2.alloc (.map #[] 0) := ⟨_, rfl⟩
  have HBM := Lib.hid hbm
  have HPM : Hid (PMap wm penc bm (fun _ => none) ∧ Below w2.heap.size w2 wm) := Lib.hid (by rw [hwm, hbm]; exact ⟨PMap.made _ _, below_alloc _ _⟩)
  rw [← hwm, ← hbm]
  clear hwm hbm
  go_loopw [22] (fun jv wr => ∃ (j : Nat) (f : Addr → Option Value), jv = .int .i64 j ∧ j ≤ N ∧ Vals T w1 Ex.depth L j f ∧ PMap wr penc bm f ∧ Below w2.heap.size w2 wr) (fun jv _ => N - (intOf jv).toNat)
  case atStart => exact ⟨0, _, rfl, by omega, Vals.start _ _ _ _, HPM.out.1, HPM.out.2⟩
  case round =>
    obtain ⟨j, f, rfl, hj, hvs, hpm, hb⟩ := hrel
    have HVS := Lib.hid hvs
    have HPMR := Lib.hid hpm
    have HB := Lib.hid hb
    by_cases hlt : j < N
    · obtain ⟨p, hp⟩ : ∃ p, L[j]? = some p := ⟨_, List.getElem?_eq_getElem (by rw [← HN.out]; exact hlt)⟩
      obtain ⟨u, hu, hus, hkids⟩ := HTP.out.rd j p hp
      obtain ⟨pb, po, rfl⟩ : ∃ pb po, p = ⟨pb, po, none⟩ := ⟨_, _, addr_eta hu.1⟩
      obtain ⟨lb, lo, rfl, hlc⟩ := (HRL.out wr hb).cell j (.pointer (some ⟨pb, po, none⟩)) (by rw [List.getElem?_map, hp]; rfl)
      obtain ⟨-, aa, ac, hnd, hac, hra⟩ := hu.2.node
      have hb1r : Below w1.heap.size w1 wr := bthen HB2.out hb
      have z3 : wr.cell? ⟨pb, po + 3, none⟩ = some (.slice aa u.args.length ac) := below_cell hb1r hnd.cells.2.2.2
      obtain ⟨k, hk⟩ : ∃ k, k = u.args.length := ⟨_, rfl⟩
      have hk9 : (k : Int) ≤ 1000000000 := by have h2 := HSZ.out; have h3 := Ex.sizes_len u.args; have h4 := u.size_eq; omega
      have HK := Lib.hid hk
      have HUS : Hid (u.size ≤ 1000000000) := Lib.hid (by have h2 := HSZ.out; omega)
      have HP := Lib.hid hp
      have HU := Lib.hid hu
      have HND := Lib.hid hnd
      have HRA := Lib.hid hra
      have HKIDS := Lib.hid hkids
      have HLT := Lib.hid hlt
      have hji : (j : Int) < (N : Int) := by omega
      have HOKR : Hid (∀ q v, f q = some v → OkA wr q) := Lib.hid (fun q v hq => (HVS.out.ok q v hq).fr (S := fun _ => False) (.of_below hb1r) (fun h => h))
      have HOKP : Hid (OkA wr ⟨pb, po, none⟩) := Lib.hid (hu.ok.fr (S := fun _ => False) (.of_below hb1r) (fun h => h))
      have HB1R := Lib.hid hb1r
      rw [← hk] at z3
      clear hp hu hus hkids hnd hac hra hb1r hk hlt hj hvs hpm hb
      go_wp2
      go_loop [10, 31] (fun nv iv => ∃ i : Nat, iv = .int .i64 i ∧ i ≤ k ∧ nv = .int .i64 ((1 + Ex.depths (u.args.take i) : Nat) : Int)) (fun _ iv => k - (intOf iv).toNat)
      case atStart => exact ⟨0, rfl, by omega, rfl⟩
      case round =>
        obtain ⟨i, rfl, hi, rfl⟩ := hrel
        by_cases hlt : i < k
        · obtain ⟨v, hv⟩ : ∃ v, u.args[i]? = some v := ⟨_, List.getElem?_eq_getElem (by rw [← HK.out]; exact hlt)⟩
          obtain ⟨q, hq1, hq2⟩ := HU.out.kid hv
          obtain ⟨m, q', hm, hmq, hkq⟩ := HKIDS.out i v hv
          obtain rfl := hq1.uniq hkq
          have HF := Lib.hid (HVS.out.get hm hmq hq2)
          have HOKQ : Hid (OkA wr q) := Lib.hid (hq2.ok.fr (S := fun _ => False) (.of_below HB1R.out) (fun h => h))
          obtain ⟨kb, ko, haa, rfl⟩ : ∃ kb ko, aa = some ⟨kb, ko, none⟩ ∧ q = ⟨kb, ko + 4 * i, none⟩ := by
            rcases HRA.out with h0 | ⟨b', o', h1, h2⟩
            · rw [h0] at hv; cases hv
            · subst h1
              exact ⟨b', o', rfl, hq1.uniq ⟨_, _, _, b', o', _, ac, HND.out, rfl⟩⟩
          subst haa
          have hsn : Ex.depths (u.args.take (i + 1)) = max (Ex.depths (u.args.take i)) v.depth := by rw [take_snoc hv, Ex.depths_append]; simp [Ex.depths]
          have hle : 1 + Ex.depths (u.args.take (i + 1)) ≤ u.size := by
            have h1 := Ex.depths_append (u.args.take (i + 1)) (u.args.drop (i + 1))
            rw [List.take_append_drop] at h1
            have := u.depth_eq
            have := Ex.depth_le u
            omega
          have HSN := Lib.hid hsn
          have HLT2 := Lib.hid hlt
          have hii : (i : Int) < (k : Int) := by omega
          obtain ⟨s, hs⟩ : ∃ s, s = 1 + Ex.depths (u.args.take i) := ⟨_, rfl⟩
          obtain ⟨sv, hsv⟩ : ∃ sv, sv = v.depth := ⟨_, rfl⟩
          have hs9 : (s : Int) ≤ 1000000000 := by have h := HUS.out; omega
          have hsv9 : (sv : Int) ≤ 1000000000 := by have h := HUS.out; omega
          have HS := Lib.hid (And.intro hs hsv)
          rw [← hsv] at HF
          rw [← hs]
          clear hv hq1 hq2 hm hmq hkq hsn hle hlt hi hs hsv
          go_wp2_with (refine PMap.wpLook HPMR.out pk HOKR.out Try.underlying72 (zeroI _) rfl (.tmp 35) (.tmp 41) rfl rfl ⟨kb, ko + 4 * i, none⟩ HOKQ.out (by simp [Act.eval, Nat.mul_comm]) ?_; rw [HF.out, Option.getD_some])
          go_round
          case rel => exact ⟨i + 1, by go_num, HLT2.out, by rw [HSN.out, HS.out.1, HS.out.2]; congr 1; omega⟩
          case measure => have := HLT2.out; simp [intOf]; omega
        · obtain rfl : k = i := by omega
          have HNV : Hid (1 + Ex.depths (u.args.take k) = u.depth) := Lib.hid (by rw [List.take_of_length_le (by rw [HK.out]; exact Nat.le_refl _), ← u.depth_eq])
          rw [HNV.out]
          clear hlt hi
          go_wp2_with (refine PMap.wpUpdate HPMR.out pk HOKR.out Try.underlying72 rfl (.tmp 46) (.tmp 47) (.tmp 48) rfl rfl ⟨pb, po, none⟩ HOKP.out rfl (.int .i64 (u.depth : Nat)) rfl ?_; intro w5 hm5 hg5; have HM5 := Lib.hid hm5; have HB5 : Hid (Below w2.heap.size w2 w5) := Lib.hid (HB.out.grown hg5 HB.out.size (fun x hx => by cases hx; rw [HBM.out]; exact Nat.le_refl _)); clear hm5 hg5)
          go_roundw
          case rel => exact ⟨j + 1, _, by go_num, HLT.out, HVS.out.put HP.out HU.out, HM5.out, HB5.out⟩
          case measure => have := HLT.out; simp [intOf]; omega
    · obtain rfl : N = j := by omega
      obtain ⟨m0, hm0⟩ := List.getElem?_of_mem HM0.out
      have HF := Lib.hid (hvs.get (by rw [HN.out]; exact (List.getElem?_eq_some_iff.1 hm0).1) hm0 HRD.out)
      have HOKR : Hid (∀ q v, f q = some v → OkA wr q) := Lib.hid (fun q v hq => (hvs.ok q v hq).fr (S := fun _ => False) (.of_below (bthen HB2.out hb)) (fun h => h))
      have HOKP : Hid (OkA wr ⟨g0, h0, none⟩) := Lib.hid (HRD.out.ok.fr (S := fun _ => False) (.of_below (bthen HB2.out hb)) (fun h => h))
      have HBE := Lib.hid (bthen HB2.out hb)
      obtain ⟨d, hd⟩ : ∃ d, d = t.depth := ⟨_, rfl⟩
      have hd9 : (d : Int) ≤ 1000000000 := by have h1 := HSZ.out; have h2 := Ex.depth_le t; omega
      have HD := Lib.hid hd
      rw [← hd] at HF
      clear hvs hpm hb hlt hj hm0 hd
      go_wp2_with (refine PMap.wpLook HPMR.out pk HOKR.out Try.underlying72 (zeroI _) rfl (.tmp 50) (.tmp 51) rfl rfl ⟨g0, h0, none⟩ HOKP.out rfl ?_; rw [HF.out, Option.getD_some])
      go_ret
      exact ⟨by rw [HD.out]; first | done | simp, HBE.out⟩

end Go.Proofs.Ytpabngicbfcdkaa
