/-
  Joined texts: The parser: every level, from every state; how large its trees are. · syntax.deeper: the walk. · The tokens' texts: bytes, of bounded length. · small functions that all statements share: Num, Is; errors as values. · The fixed fact ahead of every law of chapter 54: "1 - 2 - 3". · syntax.wellFormed: the walk.
-/
import Derived.Test.YtpabngicbfcdkaaDoorFo5
import Derived.Test.YtpabngicbfcdkaaDoorFo2
import Derived.Test.YtpabngicbfcdkaaDoorFo1
import Derived.Deep.QuietTactic
import Derived.BigQuiet
import Derived.Test.YtpabngicbfcdkaaDoorFo4
import Derived.Deep.RegionHeld3

/- The parser: every level, from every state; how large its trees are. -/
namespace Go.Proofs.YtpabngicbfcdkaaDoor
open Go.RowKit
set_option linter.unusedVariables false
set_option linter.unusedSimpArgs false

theorem spec_all : ∀ M, Spec M
  | 0 => fun n _ _ w pb a c ts bad _ h => absurd h (by omega)
  | M + 1 => fun n h1 h9 w pb a c ts bad hp h => by
    have ih := spec_all M
    have hM : (Job.lev n ts).wt ≤ M := by omega
    match n, h1, h9, hM with
    | 1, _, _, hM => exact lev1_any M ih w pb a c ts bad hp hM
    | 2, _, _, hM => exact lev2_any M ih w pb a c ts bad hp hM
    | 3, _, _, hM => exact lev3_any M ih w pb a c ts bad hp hM
    | 4, _, _, hM => exact lev4_any M ih w pb a c ts bad hp hM
    | 5, _, _, hM => exact lev5_any M ih w pb a c ts bad hp hM
    | 6, _, _, hM => exact lev6_any M ih w pb a c ts bad hp hM
    | 7, _, _, hM => exact lev7_any M ih w pb a c ts bad hp hM
    | 8, _, _, hM => exact lev8_any M ih w pb a c ts bad hp hM
    | 9, _, _, hM => exact lev9_any M ih w pb a c ts bad hp hM
/-- query, from every state -/
theorem query_any (w : World) (pb : Nat) (a : Option Addr) (c : Nat) (ts : List Tk) (bad : Bool) (hp : PS w pb a c ts bad) :
    Calls Tryd.prog 31 #[.pointer (some ⟨pb, 0, none⟩)] w (ParPost pb w (runJ (.lev 1 ts)) bad ts) :=
  spec_all _ 1 (by omega) (by omega) w pb a c ts bad hp (Nat.lt_succ_self _)

/-- nodes that a job brings along -/
def Job.sz : Job → Nat
  | .lev _ _ => 0
  | .loop _ e _ => e.size
  | .post e _ => e.size
  | .args _ acc _ => 1 + Ex.sizes acc
def SzOk (go : Job → Res) : Prop := ∀ j x, go j = some x → x.1.size + x.2.length ≤ j.ts.length + j.sz
theorem size_call (name : List Nat) (us : List Ex) : (callE name us).size = 1 + Ex.sizes us := by simp [callE, Ex.size]
theorem stepJ_sz {go : Job → Res} (h : SzOk go) : SzOk (stepJ go) := by
  intro j x hx
  have bnd : ∀ {o : Res} {g : Ex × List Tk → Res} {x}, o.bind g = some x → ∃ y, o = some y ∧ g y = some x := fun {o g x} e => by
    cases o with
    | none => cases e
    | some y => exact ⟨y, rfl, e⟩
  cases j with
  | lev n ts =>
    change levJ go n ts = some x at hx
    unfold levJ at hx
    split at hx
    · unfold notJ at hx
      split at hx
      · rename_i h1
        obtain ⟨y, hy, e⟩ := bnd hx
        cases e
        have := h _ _ hy
        have := tail_len h1
        simp only [Job.sz, Job.ts, size_call, Ex.sizes] at *; omega
      · have := h _ _ hx
        simpa only [Job.sz, Job.ts] using this
    · split at hx
      · unfold cmpJ at hx
        obtain ⟨y, hy, e⟩ := bnd hx
        have h2 := h _ _ hy
        split at e
        · rename_i h1
          obtain ⟨z, hz, e⟩ := bnd e
          cases e
          have h3 := h _ _ hz
          have := tail_len h1
          simp only [Job.sz, Job.ts, size_call, Ex.sizes] at *; omega
        · cases e
          simpa only [Job.sz, Job.ts] using h2
      · split at hx
        · obtain ⟨y, hy, e⟩ := bnd hx
          have h2 := h _ _ hy
          have h3 := h _ _ e
          simp only [Job.sz, Job.ts] at *; omega
        · split at hx
          · unfold primJ at hx
            split at hx
            · cases hx
            · rename_i t r
              split at hx
              · cases hx; simp [Job.sz, Job.ts, Ex.size, Ex.sizes]; omega
              · split at hx
                · cases hx; simp [Job.sz, Job.ts, Ex.size, Ex.sizes]; omega
                · split at hx
                  · cases hx; simp [Job.sz, Job.ts, Ex.size, Ex.sizes]; omega
                  · split at hx
                    · split at hx
                      · rename_i h1
                        simp only [Bool.and_eq_true] at h1
                        have h2 := tail_len h1.2
                        split at hx
                        · rename_i h3
                          have h4 := tail_len h3
                          cases hx
                          simp only [Job.sz, Job.ts, List.length_cons, size_call, Ex.sizes]; omega
                        · have h4 := h _ _ hx
                          simp only [Job.sz, Job.ts, List.length_cons, Ex.sizes] at *; omega
                      · cases hx
                    · split at hx
                      · obtain ⟨y, hy, e⟩ := bnd hx
                        have h2 := h _ _ hy
                        split at e
                        · rename_i h1
                          have h3 := tail_len h1
                          cases e
                          simp only [Job.sz, Job.ts, List.length_cons] at *; omega
                        · cases e
                      · cases hx
          · obtain ⟨y, hy, e⟩ := bnd hx
            have h2 := h _ _ hy
            have h3 := h _ _ e
            simp only [Job.sz, Job.ts] at *; omega
  | loop n e ts =>
    change loopJ go n e ts = some x at hx
    unfold loopJ at hx
    split at hx
    · rename_i h1
      obtain ⟨y, hy, e⟩ := bnd hx
      have h2 := h _ _ hy
      have h3 := h _ _ e
      have := tail_len h1
      simp only [Job.sz, Job.ts, size_call, Ex.sizes] at *; omega
    · cases hx; simp [Job.sz, Job.ts]; omega
  | post e ts =>
    change postJ go e ts = some x at hx
    unfold postJ at hx
    split at hx
    · rename_i h1
      obtain ⟨y, hy, e⟩ := bnd hx
      have h2 := h _ _ hy
      have := tail_len h1
      split at e
      · rename_i h4
        have := tail_len h4
        obtain ⟨z, hz, e⟩ := bnd e
        have h3 := h _ _ hz
        split at e
        · rename_i h6
          have := tail_len h6
          have h5 := h _ _ e
          simp only [Job.sz, Job.ts, size_call, Ex.sizes] at *; omega
        · cases e
      · cases e
    · cases hx; simp [Job.sz, Job.ts]; omega
  | args name acc ts =>
    change argsJ go name acc ts = some x at hx
    unfold argsJ at hx
    obtain ⟨y, hy, e⟩ := bnd hx
    have h2 := h _ _ hy
    split at e
    · rename_i h1
      have := tail_len h1
      have h3 := h _ _ e
      simp only [Job.sz, Job.ts, Ex.sizes_append, Ex.sizes] at *; omega
    · split at e
      · rename_i h1
        have := tail_len h1
        cases e
        simp only [Job.sz, Job.ts, size_call, Ex.sizes_append, Ex.sizes] at *; omega
      · cases e
theorem runF_sz : ∀ f, SzOk (runF f)
  | 0 => fun j x h => by cases h
  | f + 1 => stepJ_sz (runF_sz f)
/-- a tree has at most as many nodes as tokens were read -/
theorem runJ_sz {j : Job} {x : Ex × List Tk} (h : runJ j = some x) : x.1.size + x.2.length ≤ j.ts.length + j.sz := runF_sz _ j x h

end Go.Proofs.YtpabngicbfcdkaaDoor

/- syntax.deeper: the walk. -/
namespace Go.Proofs.YtpabngicbfcdkaaDoor
open Go.RowKit
set_option linter.unusedVariables false
set_option linter.unusedSimpArgs false

set_option maxRecDepth 100000 in
set_option maxHeartbeats 2000000 in
theorem deeper_any (T : Nat → Prop) (t : Ex) (p0 : Addr) (M : Nat) (w1 : World) (hr : RdP T w1 t p0) (hsz : t.size ≤ 1000000000) (hM : M ≤ 1000000000) :
    Calls Tryd.prog 23 #[.pointer (some p0), .int .i64 M] w1 fun e w' => e = .returned (.bool (decide (M < t.depth))) ∧ Below w1.heap.size w1 w' := by
  have HRD := Lib.hid hr
  have HSZ := Lib.hid hsz
  have HORD := Lib.hid (Order_any T t p0 w1 hr hsz)
  obtain ⟨g0, h0, rfl⟩ : ∃ g0 h0, p0 = ⟨g0, h0, none⟩ := ⟨_, _, addr_eta hr.1⟩
  have hM9 : (M : Int) ≤ 1000000000 := by omega
  clear hr hsz hM
  go_enter Tryd.func23, Tryd.ntmps23
  go_wp2_with fail
  refine HORD.out.mono ?_
  rintro e w2 ⟨hb2, L, la, lc, rfl, hrl, htp, hm0, hll⟩
  have HB2 := Lib.hid hb2
  have HRL := Lib.hid (fun (wx : World) (hb : Below w2.heap.size w2 wx) => hrl.below hb)
  have HTP := Lib.hid htp
  have HM0 := Lib.hid hm0
  have HLL := Lib.hid hll
  obtain ⟨N, hN⟩ : ∃ N, N = L.length := ⟨_, rfl⟩
  have hN9 : (N : Int) ≤ 2000000000 := by have h1 := HSZ.out; omega
  have HN := Lib.hid hN
  rw [← hN] at HRL ⊢
  have hmm : ∀ w, (Instr.makeMap 91 (some (.int .i64 (N : Int)))).run Tryd.prog w = .ok (.map (some w.heap.size)) (w.alloc (.map #[] 0)) := fun w => by
    simp [Instr.makeMap, run_underlying Tryd.underlying91, asInt, asIntOf]
  clear hb2 hrl htp hm0 hll hN
  go_wp2
  obtain ⟨bm, hbm⟩ : ∃ bm, bm = w2.heap.size := ⟨_, rfl⟩
  obtain ⟨wm, hwm⟩ : ∃ wm, wm = w2.alloc (.map #[] 0) := ⟨_, rfl⟩
  have HBM := Lib.hid hbm
  have HPM : Hid (PMap wm penc bm (fun _ => none) ∧ Below w2.heap.size w2 wm) := Lib.hid (by rw [hwm, hbm]; exact ⟨PMap.made _ _, below_alloc _ _⟩)
  rw [← hwm, ← hbm]
  clear hwm hbm
  go_loopw [22] (fun jv wr => ∃ (j : Nat) (f : Addr → Option Value), jv = .int .i64 j ∧ j ≤ N ∧ Vals T w1 Ex.depth L j f ∧ PMap wr penc bm f ∧ Below w2.heap.size w2 wr) (fun jv _ => N - (intOf jv).toNat)
  case atStart => exact ⟨0, _, rfl, by omega, Vals.start _ _ _ _, HPM.out.1, HPM.out.2⟩
  case round =>
    obtain ⟨j, f, rfl, hj, hvs, hpm, hb⟩ := hrel
    have HVS := Lib.hid hvs
    have HPMR := Lib.hid hpm
    have HB := Lib.hid hb
    by_cases hlt : j < N
    · obtain ⟨p, hp⟩ : ∃ p, L[j]? = some p := ⟨_, List.getElem?_eq_getElem (by rw [← HN.out]; exact hlt)⟩
      obtain ⟨u, hu, hus, hkids⟩ := HTP.out.rd j p hp
      obtain ⟨pb, po, rfl⟩ : ∃ pb po, p = ⟨pb, po, none⟩ := ⟨_, _, addr_eta hu.1⟩
      obtain ⟨lb, lo, rfl, hlc⟩ := (HRL.out wr hb).cell j (.pointer (some ⟨pb, po, none⟩)) (by rw [List.getElem?_map, hp]; rfl)
      obtain ⟨-, aa, ac, hnd, hac, hra⟩ := hu.2.node
      have hb1r : Below w1.heap.size w1 wr := bthen HB2.out hb
      have z3 : wr.cell? ⟨pb, po + 3, none⟩ = some (.slice aa u.args.length ac) := below_cell hb1r hnd.cells.2.2.2
      obtain ⟨k, hk⟩ : ∃ k, k = u.args.length := ⟨_, rfl⟩
      have hk9 : (k : Int) ≤ 1000000000 := by have h2 := HSZ.out; have h3 := Ex.sizes_len u.args; have h4 := u.size_eq; omega
      have HK := Lib.hid hk
      have HUS : Hid (u.size ≤ 1000000000) := Lib.hid (by have h2 := HSZ.out; omega)
      have HP := Lib.hid hp
      have HU := Lib.hid hu
      have HND := Lib.hid hnd
      have HRA := Lib.hid hra
      have HKIDS := Lib.hid hkids
      have HLT := Lib.hid hlt
      have hji : (j : Int) < (N : Int) := by omega
      have HOKR : Hid (∀ q v, f q = some v → OkA wr q) := Lib.hid (fun q v hq => (HVS.out.ok q v hq).fr (S := fun _ => False) (.of_below hb1r) (fun h => h))
      have HOKP : Hid (OkA wr ⟨pb, po, none⟩) := Lib.hid (hu.ok.fr (S := fun _ => False) (.of_below hb1r) (fun h => h))
      have HB1R := Lib.hid hb1r
      rw [← hk] at z3
      clear hp hu hus hkids hnd hac hra hb1r hk hlt hj hvs hpm hb
      go_wp2
      go_loop [10, 31] (fun nv iv => ∃ i : Nat, iv = .int .i64 i ∧ i ≤ k ∧ nv = .int .i64 ((1 + Ex.depths (u.args.take i) : Nat) : Int)) (fun _ iv => k - (intOf iv).toNat)
      case atStart => exact ⟨0, rfl, by omega, rfl⟩
      case round =>
        obtain ⟨i, rfl, hi, rfl⟩ := hrel
        by_cases hlt : i < k
        · obtain ⟨v, hv⟩ : ∃ v, u.args[i]? = some v := ⟨_, List.getElem?_eq_getElem (by rw [← HK.out]; exact hlt)⟩
          obtain ⟨q, hq1, hq2⟩ := HU.out.kid hv
          obtain ⟨m, q', hm, hmq, hkq⟩ := HKIDS.out i v hv
          obtain rfl := hq1.uniq hkq
          have HF := Lib.hid (HVS.out.get hm hmq hq2)
          have HOKQ : Hid (OkA wr q) := Lib.hid (hq2.ok.fr (S := fun _ => False) (.of_below HB1R.out) (fun h => h))
          obtain ⟨kb, ko, haa, rfl⟩ : ∃ kb ko, aa = some ⟨kb, ko, none⟩ ∧ q = ⟨kb, ko + 4 * i, none⟩ := by
            rcases HRA.out with h0 | ⟨b', o', h1, h2⟩
            · rw [h0] at hv; cases hv
            · subst h1
              exact ⟨b', o', rfl, hq1.uniq ⟨_, _, _, b', o', _, ac, HND.out, rfl⟩⟩
          subst haa
          have hsn : Ex.depths (u.args.take (i + 1)) = max (Ex.depths (u.args.take i)) v.depth := by rw [take_snoc hv, Ex.depths_append]; simp [Ex.depths]
          have hle : 1 + Ex.depths (u.args.take (i + 1)) ≤ u.size := by
            have h1 := Ex.depths_append (u.args.take (i + 1)) (u.args.drop (i + 1))
            rw [List.take_append_drop] at h1
            have := u.depth_eq
            have := Ex.depth_le u
            omega
          have HSN := Lib.hid hsn
          have HLT2 := Lib.hid hlt
          have hii : (i : Int) < (k : Int) := by omega
          obtain ⟨s, hs⟩ : ∃ s, s = 1 + Ex.depths (u.args.take i) := ⟨_, rfl⟩
          obtain ⟨sv, hsv⟩ : ∃ sv, sv = v.depth := ⟨_, rfl⟩
          have hs9 : (s : Int) ≤ 1000000000 := by have h := HUS.out; omega
          have hsv9 : (sv : Int) ≤ 1000000000 := by have h := HUS.out; omega
          have HS := Lib.hid (And.intro hs hsv)
          rw [← hsv] at HF
          rw [← hs]
          clear hv hq1 hq2 hm hmq hkq hsn hle hlt hi hs hsv
          go_wp2_with (refine PMap.wpLook HPMR.out pk HOKR.out Tryd.underlying91 (zeroI _) rfl (.tmp 35) (.tmp 41) rfl rfl ⟨kb, ko + 4 * i, none⟩ HOKQ.out (by simp [Act.eval, Nat.mul_comm]) ?_; rw [HF.out, Option.getD_some])
          go_round
          case rel => exact ⟨i + 1, by go_num, HLT2.out, by rw [HSN.out, HS.out.1, HS.out.2]; congr 1; omega⟩
          case measure => have := HLT2.out; simp [intOf]; omega
        · obtain rfl : k = i := by omega
          have HNV : Hid (1 + Ex.depths (u.args.take k) = u.depth) := Lib.hid (by rw [List.take_of_length_le (by rw [HK.out]; exact Nat.le_refl _), ← u.depth_eq])
          rw [HNV.out]
          clear hlt hi
          go_wp2_with (refine PMap.wpUpdate HPMR.out pk HOKR.out Tryd.underlying91 rfl (.tmp 46) (.tmp 47) (.tmp 48) rfl rfl ⟨pb, po, none⟩ HOKP.out rfl (.int .i64 (u.depth : Nat)) rfl ?_; intro w5 hm5 hg5; have HM5 := Lib.hid hm5; have HB5 : Hid (Below w2.heap.size w2 w5) := Lib.hid (HB.out.grown hg5 HB.out.size (fun x hx => by cases hx; rw [HBM.out]; exact Nat.le_refl _)); clear hm5 hg5)
          go_roundw
          case rel => exact ⟨j + 1, _, by go_num, HLT.out, HVS.out.put HP.out HU.out, HM5.out, HB5.out⟩
          case measure => have := HLT.out; simp [intOf]; omega
    · obtain rfl : N = j := by omega
      obtain ⟨m0, hm0⟩ := List.getElem?_of_mem HM0.out
      have HF := Lib.hid (hvs.get (by rw [HN.out]; exact (List.getElem?_eq_some_iff.1 hm0).1) hm0 HRD.out)
      have HOKR : Hid (∀ q v, f q = some v → OkA wr q) := Lib.hid (fun q v hq => (hvs.ok q v hq).fr (S := fun _ => False) (.of_below (bthen HB2.out hb)) (fun h => h))
      have HOKP : Hid (OkA wr ⟨g0, h0, none⟩) := Lib.hid (HRD.out.ok.fr (S := fun _ => False) (.of_below (bthen HB2.out hb)) (fun h => h))
      have HBE := Lib.hid (bthen HB2.out hb)
      obtain ⟨d, hd⟩ : ∃ d, d = t.depth := ⟨_, rfl⟩
      have hd9 : (d : Int) ≤ 1000000000 := by have h1 := HSZ.out; have h2 := Ex.depth_le t; omega
      have HD := Lib.hid hd
      rw [← hd] at HF
      clear hvs hpm hb hlt hj hm0 hd
      go_wp2_with (refine PMap.wpLook HPMR.out pk HOKR.out Tryd.underlying91 (zeroI _) rfl (.tmp 50) (.tmp 51) rfl rfl ⟨g0, h0, none⟩ HOKP.out rfl ?_; rw [HF.out, Option.getD_some])
      go_ret
      exact ⟨by rw [HD.out]; first | done | simp, HBE.out⟩

end Go.Proofs.YtpabngicbfcdkaaDoor

/- The tokens' texts: bytes, of bounded length. -/
namespace Go.Proofs.YtpabngicbfcdkaaDoor
open Go.RowKit
set_option linter.unusedVariables false
set_option linter.unusedSimpArgs false

theorem quoGo_ok : ∀ (m : Nat) (acc l b r : List Nat), l.length ≤ m → quoGo acc l = some (b, r) → (∀ c ∈ acc, c < 256) → (∀ c ∈ l, c < 256) → (∀ c ∈ b, c < 256) ∧ b.length ≤ acc.length + l.length
  | m, acc, [], b, r, _, h, _, _ => by rw [quo_nil] at h; cases h
  | 0, acc, c :: l, b, r, hm, h, _, _ => by simp at hm
  | m + 1, acc, c :: l, b, r, hm, h, ha, hl => by
    have hc := hl c (List.mem_cons_self ..)
    have hl' : ∀ x ∈ l, x < 256 := fun x hx => hl x (List.mem_cons_of_mem _ hx)
    have snoc : ∀ x, x < 256 → ∀ y ∈ acc ++ [x], y < 256 := fun x hx y hy => by
      rcases List.mem_append.1 hy with hy | hy
      · exact ha y hy
      · rcases List.mem_cons.1 hy with rfl | hy
        · exact hx
        · cases hy
    by_cases e1 : c = 34
    · subst e1; rw [quo_end] at h; cases h; exact ⟨ha, by omega⟩
    · by_cases e2 : c = 92
      · subst e2
        cases he : escP l with
        | none => rw [quo_escn _ he] at h; cases h
        | some v =>
          obtain ⟨x, n⟩ := v
          rw [quo_esc _ he] at h
          have h2 := quoGo_ok m _ _ _ _ (by simp at hm ⊢; omega) h (snoc x (escP_lt hl' he)) (fun y hy => hl' y (List.mem_of_mem_drop hy))
          refine ⟨h2.1, ?_⟩
          have := h2.2
          simp at this ⊢; omega
      · by_cases e3 : c < 32 ∨ c = 127
        · rw [quo_bad _ _ e1 e2 e3] at h; cases h
        · rw [quo_chr _ _ e1 e2 e3] at h
          have h2 := quoGo_ok m _ _ _ _ (by simpa using hm) h (snoc c hc) hl'
          refine ⟨h2.1, ?_⟩
          have := h2.2
          simp at this ⊢; omega
theorem nextP_ok {l : List Nat} {t : Nat × List Nat × Nat} {n : Nat} (h : nextP l = some (t, n)) (hl : ∀ c ∈ l, c < 256) : (∀ c ∈ t.2.1, c < 256) ∧ t.2.1.length ≤ l.length := by
  cases l with
  | nil => cases h
  | cons c r =>
    have hr : ∀ x ∈ r, x < 256 := fun x hx => hl x (List.mem_cons_of_mem _ hx)
    unfold nextP at h
    simp only at h
    split at h
    · cases hv : valP ((c :: r).take (spn digB (c :: r))) with
      | none => rw [hv] at h; cases h
      | some v => rw [hv] at h; cases h; exact ⟨fun x hx => (by cases hx), by simp⟩
    · split at h
      · cases hv : quoP (c :: r) with
        | none => rw [hv] at h; cases h
        | some v =>
          obtain ⟨b, m⟩ := v
          rw [hv] at h; cases h
          unfold quoP at hv
          cases hg : quoGo [] ((c :: r).drop 1) with
          | none => rw [hg] at hv; cases hv
          | some u =>
            obtain ⟨b2, q⟩ := u
            rw [hg] at hv; cases hv
            have := quoGo_ok _ _ _ _ _ (Nat.le_refl _) hg (fun x hx => by cases hx) (fun x hx => hl x (List.mem_of_mem_drop hx))
            exact ⟨this.1, by have := this.2; simp at this ⊢; omega⟩
      · split at h
        · split at h
          · cases h
          · cases h
            exact ⟨fun x hx => hr x (List.mem_of_mem_take hx), by simp; omega⟩
        · split at h
          · cases h
            exact ⟨fun x hx => hl x (List.mem_of_mem_take hx), by rw [List.length_take]; exact Nat.min_le_right _ _⟩
          · unfold sgnP at h
            split at h
            · split at h
              · cases h; exact ⟨fun x hx => by simp at hx; rw [hx]; exact hl _ (List.mem_cons_self ..), by simp⟩
              · cases h
            · rename_i d q
              split at h
              · cases h
                exact ⟨fun x hx => by
                  rcases List.mem_cons.1 hx with rfl | hx
                  · exact hl _ (List.mem_cons_self ..)
                  · simp at hx; rw [hx]; exact hr _ (List.mem_cons_self ..), by simp⟩
              · split at h
                · cases h; exact ⟨fun x hx => by simp at hx; rw [hx]; exact hl _ (List.mem_cons_self ..), by simp⟩
                · cases h
theorem toks_ok : ∀ (m : Nat) (acc : List Tk) (i : Nat) (l : List Nat) (ts : List Tk) (B : Nat), l.length ≤ m → l.length ≤ B → toksGo acc i l = some ts → (∀ t ∈ acc, (∀ c ∈ t.1.2.1, c < 256) ∧ t.1.2.1.length ≤ B) → (∀ c ∈ l, c < 256) → ∀ t ∈ ts, (∀ c ∈ t.1.2.1, c < 256) ∧ t.1.2.1.length ≤ B
  | m, acc, i, [], ts, B, _, _, h, ha, _ => by rw [toks_nil] at h; cases h; exact ha
  | 0, acc, i, c :: l, ts, B, hm, _, h, _, _ => by simp at hm
  | m + 1, acc, i, c :: l, ts, B, hm, hB, h, ha, hl => by
    have hl' : ∀ x ∈ l, x < 256 := fun x hx => hl x (List.mem_cons_of_mem _ hx)
    by_cases hb : blankB c = true
    · rw [toks_blank _ _ _ hb] at h
      exact toks_ok m acc (i + 1) l ts B (by simpa using hm) (by simp at hB; omega) h ha hl'
    · have hb : blankB c = false := by simpa using hb
      cases hn : nextP (c :: l) with
      | none => rw [toks_none _ _ hb hn] at h; cases h
      | some v =>
        obtain ⟨t, n⟩ := v
        rw [toks_some _ _ hb hn] at h
        have hp := nextP_pos hn
        have ho := nextP_ok hn hl
        refine toks_ok m _ _ _ ts B (by simp at hm ⊢; omega) (by simp at hB ⊢; omega) h (fun x hx => ?_) (fun x hx => hl x (List.mem_of_mem_drop hx))
        rcases List.mem_append.1 hx with hx | hx
        · exact ha x hx
        · rcases List.mem_cons.1 hx with rfl | hx
          · exact ⟨ho.1, Nat.le_trans ho.2 hB⟩
          · cases hx
theorem toksP_ok {s : ByteArray} {ts : List Tk} (h : toksP (ns s) = some ts) (hs : s.size ≤ 4096) : ∀ t ∈ ts, (∀ c ∈ t.1.2.1, c < 256) ∧ t.1.2.1.length ≤ 1000000 := by
  have := toks_ok _ [] 0 (ns s) ts 4096 (Nat.le_refl _) (by rw [ns_len]; exact hs) h (fun t ht => by cases ht) (ns_lt s)
  exact fun t ht => ⟨(this t ht).1, by have := (this t ht).2; omega⟩

theorem toks_len : ∀ (m : Nat) (acc : List Tk) (i : Nat) (l : List Nat) (ts : List Tk), l.length ≤ m → toksGo acc i l = some ts → ts.length ≤ acc.length + l.length
  | m, acc, i, [], ts, _, h => by rw [toks_nil] at h; cases h; simp
  | 0, acc, i, c :: l, ts, hm, h => by simp at hm
  | m + 1, acc, i, c :: l, ts, hm, h => by
    by_cases hb : blankB c = true
    · rw [toks_blank _ _ _ hb] at h
      have := toks_len m acc (i + 1) l ts (by simpa using hm) h
      simp; omega
    · have hb : blankB c = false := by simpa using hb
      cases hn : nextP (c :: l) with
      | none => rw [toks_none _ _ hb hn] at h; cases h
      | some v =>
        obtain ⟨t, n⟩ := v
        rw [toks_some _ _ hb hn] at h
        have hp := nextP_pos hn
        have := toks_len m _ _ _ ts (by simp at hm ⊢; omega) h
        simp at this hp ⊢; omega

/-- what Parse answers: a code, or a tree -/
def parseP (s : ByteArray) : Nat × Ex :=
  if 4096 < s.size then (9, eE) else match toksP (ns s) with
  | none => (4, eE)
  | some ts => match runJ (.lev 1 ts) with
    | some (t, []) => if 64 < t.depth then (9, eE) else (0, t)
    | _ => (4, eE)

/-- an error's value -/
def errN (k : Nat) : Value := if k = 0 then .nilIface else .iface 39 (.int .i64 k)
def ParsePost (w : World) (s : ByteArray) (e : Ending) (w' : World) : Prop :=
  ∃ aa cc, e = .returned (.tuple #[exV (parseP s).2 aa cc, errN (parseP s).1]) ∧ (parseP s).2.args.length ≤ cc ∧ RdA (fun i => w.heap.size ≤ i) w' (parseP s).2.args aa ∧ Below w.heap.size w w'

set_option maxRecDepth 100000 in
set_option maxHeartbeats 1500000 in
/-- Parse where Tokens fails -/
theorem parse_bad (s : ByteArray) (w : World) (k : Nat) (hk : (k = 4 ∨ k = 9)) (hpp : parseP s = (k, eE))
    (HT : ∀ w1, Calls Tryd.prog 17 #[.string s] w1 fun e w' => e = .returned (.tuple #[.slice none 0 0, .iface 39 (.int .i64 k)]) ∧ Below w1.heap.size w1 w') : Calls Tryd.prog 15 #[.string s] w (ParsePost w s) := by
  obtain ⟨w1, hw1⟩ : ∃ w1, w1 = w.alloc (.cells #[.int .i64 0, .string ⟨#[]⟩, .int .i64 0, .slice none 0 0] 25) := ⟨_, rfl⟩
  have HB1 : Hid (Below w.heap.size w w1) := Lib.hid (by rw [hw1]; exact below_alloc _ _)
  have HTC : Hid (EC w1 w.heap.size eE none 0) := Lib.hid (by rw [hw1]; exact alloc_ec w eE none 0 _)
  have HT1 := Lib.hid (HT w1)
  have HW1 := Lib.hid hw1
  have HPP := Lib.hid hpp
  have HK := Lib.hid hk
  have hne : ∀ w, (binOp .neq 29 (.iface 39 (.int .i64 k)) .nilIface).run Tryd.prog w = .ok (.bool true) w := fun w => by kernel_rfl
  clear hw1 HT hpp hk
  go_enter Tryd.func15, Tryd.ntmps15
  go_upto_region 1 with fail
  rw [← HW1.out]
  go_wp2_with (go_at_call 17; refine HT1.out.mono ?_; rintro e w2 ⟨rfl, hb2⟩; have HB2 := Lib.hid hb2; obtain ⟨y0, y1, y2, y3, yf⟩ := HTC.out.below hb2; have yf0 := yf 0; have yf1 := yf 1; have yf2 := yf 2; have yf3 := yf 3; clear yf hb2)
  refine bodyPost_ret (v := .tuple #[.agg #[.int .i64 0, .string ⟨#[]⟩, .int .i64 0, .slice none 0 0], .iface 39 (.int .i64 k)]) (by simp [results, Tryd.results15, go_sem, y0, y1, y2, y3]; try rfl) rfl ⟨none, 0, ?_, by rw [HPP.out]; simp [eE, Ex.args], by rw [HPP.out]; exact .inl rfl, ?_⟩
  · rw [HPP.out]
    have : errN k = .iface 39 (.int .i64 k) := by unfold errN; rw [if_neg (by have := HK.out; omega)]
    simp only [this]; rfl
  · exact (bthen HB1.out HB2.out).trans ((fr4 w2 w.heap.size (.int .i64 0) (.string ⟨#[]⟩) (.int .i64 0) (.slice none 0 0)).below (fun i e => by omega) (bthen HB1.out HB2.out).size)

set_option maxRecDepth 100000 in
set_option maxHeartbeats 1500000 in
/-- Parse where Tokens succeeds -/
theorem parse_toks (s : ByteArray) (w : World) (ts : List Tk) (hs : s.size ≤ 4096) (hts : toksP (ns s) = some ts) (hl : ts.length ≤ 4096) : Calls Tryd.prog 15 #[.string s] w (ParsePost w s) := by
  obtain ⟨w1, hw1⟩ : ∃ w1, w1 = w.alloc (.cells #[.int .i64 0, .string ⟨#[]⟩, .int .i64 0, .slice none 0 0] 25) := ⟨_, rfl⟩
  have HB1 : Hid (Below w.heap.size w w1) := Lib.hid (by rw [hw1]; exact below_alloc _ _)
  have HS1 : Hid (w1.heap.size = w.heap.size + 1) := Lib.hid (by rw [hw1]; simp)
  have HTC : Hid (EC w1 w.heap.size eE none 0) := Lib.hid (by rw [hw1]; exact alloc_ec w eE none 0 _)
  have HT : Hid (Calls Tryd.prog 17 #[.string s] w1 fun e w' => ∃ a c, e = .returned (.tuple #[.slice a ts.length c, .nilIface]) ∧ Row w' w1.heap.size 48 4 (.slice a ts.length c) ts.length (cellsT ts) ∧ Below w1.heap.size w1 w') := Lib.hid ((tokens_any s w1 (by omega)).mono (fun e w' h => by
    obtain ⟨h1, h2⟩ := h
    rcases h1 with ⟨h, _⟩ | ⟨_, h, _⟩ | ⟨_, ts', a, c, h, _, he, hr⟩
    · omega
    · rw [hts] at h; cases h
    · rw [hts] at h; cases h; exact ⟨a, c, he, hr, h2⟩))
  have HOK := Lib.hid (toksP_ok hts hs)
  have HTS := Lib.hid hts
  have HS := Lib.hid hs
  have HL := Lib.hid hl
  have HW1 := Lib.hid hw1
  clear hs hts hl hw1
  go_enter Tryd.func15, Tryd.ntmps15
  go_upto_region 1 with fail
  rw [← HW1.out]
  go_upto_region 5 with (go_at_call 17; refine HT.out.mono ?_; rintro e w2 ⟨a, c, rfl, hrow, hb2⟩)
  obtain ⟨w3, hw3⟩ : ∃ w3, w3 = w2.alloc (.cells #[.slice a ts.length c, .bool false] 72) := ⟨_, rfl⟩
  rw [← hw3]
  have hb3 : Below w2.heap.size w2 w3 := by rw [hw3]; exact below_alloc _ _
  obtain ⟨pb, hpb⟩ : ∃ pb, pb = w2.heap.size := ⟨_, rfl⟩
  have HPS : Hid (PS w3 pb a c ts false) := Lib.hid (by
    refine ⟨by rw [hw3, hpb]; simp, by rw [hw3, hpb]; simp, fun j => by rw [hw3, hpb]; simp, (Row.rdG hrow).below hb3, fun x hx => ?_, Row.cap hrow, by have := HL.out; omega, fun t ht => (HOK.out t ht).1, fun t ht => (HOK.out t ht).2⟩
    subst hx
    have := (Row.block_lt hrow (g := x.block) rfl).1
    omega)
  have HB3 : Hid (Below w1.heap.size w1 w3) := Lib.hid (bthen hb2 hb3)
  have HQ := Lib.hid (query_any w3 pb a c ts false HPS.out)
  have HPB : Hid (w.heap.size < pb) := Lib.hid (by have h1 := hb2.size; have h2 := HS1.out; omega)
  rw [← hpb]
  clear hw3 hb3 hpb hrow hb2
  go_upto_region 6 with (go_at_call 31; refine HQ.out.mono ?_; rintro e9 w4 ⟨t6, v6, a6, c6, ts6, bad6, rfl, ⟨aa6, cc6, rfl, hcc6, hra6⟩, hps6, hlen6, hf6, hb6, hb6'⟩; simp only [exV])
  obtain ⟨w5, hw5⟩ : ∃ w5, w5 = w4.alloc (.cells #[.int .i64 t6.kind, .string t6.text, .int .i64 t6.num, .slice aa6 t6.args.length cc6] 25) := ⟨_, rfl⟩
  rw [← hw5]
  have HB5 : Hid (Below w4.heap.size w4 w5) := Lib.hid (by rw [hw5]; exact below_alloc _ _)
  obtain ⟨be, hbe⟩ : ∃ be, be = w4.heap.size := ⟨_, rfl⟩
  have HEC5 : Hid (EC w5 be t6 aa6 cc6) := Lib.hid (by rw [hw5, hbe]; exact alloc_ec _ _ _ _ _)
  have HRP : Hid (RdP (fun i => w3.heap.size ≤ i) w5 t6 ⟨be, 0, none⟩) := Lib.hid ⟨rfl, RdE.mk' (a := aa6) (c := cc6) (by have := hf6.size; show w3.heap.size ≤ be; omega) ⟨#[.int .i64 t6.kind, .string t6.text, .int .i64 t6.num, .slice aa6 t6.args.length cc6], _, by rw [hw5, hbe]; exact heap_new_at rfl, rfl, rfl, rfl, rfl⟩ hcc6 (hra6.below HB5.out)⟩
  have HPS5 := Lib.hid (hps6.below HB5.out)
  have HF5 : Hid (Fr (fun x => x = pb) w3 w5) := Lib.hid (hf6.trans (.of_below HB5.out))
  have HBW3 : Hid (Below w.heap.size w w3) := Lib.hid (bthen HB1.out HB3.out)
  have HBW5 : Hid (Below w.heap.size w w5) := Lib.hid (HBW3.out.trans (HF5.out.below (fun i e => by have := HPB.out; omega) HBW3.out.size))
  have HTC5 : Hid (EC w5 w.heap.size eE none 0) := Lib.hid ((HTC.out.below HB3.out).fr HF5.out (by have := HPB.out; omega))
  have HRA5 : Hid (RdA (fun i => w3.heap.size ≤ i) w5 t6.args aa6) := Lib.hid (hra6.below HB5.out)
  have HCC := Lib.hid hcc6
  have HK := Lib.hid (hb6' (by first | rfl | trivial))
  have hc1 := HPS5.out.c1
  rw [← hbe]
  have HW35 : Hid (w.heap.size < w3.heap.size) := Lib.hid (by have h1 := HB3.out.size; have h2 := HS1.out; omega)
  clear hw5 hbe hcc6 hra6 hps6 hlen6 hf6 hb6 hb6'
  have HPARSE : Hid (parseP s = match runJ (.lev 1 ts) with
    | some (t, []) => if 64 < t.depth then (9, eE) else (0, t)
    | _ => (4, eE)) := Lib.hid (by unfold parseP; rw [if_neg (by have := HS.out; omega), HTS.out])
  have HBW := HBW5
  cases bad6 with
  | true =>
    have HPP : Hid (parseP s = (4, eE)) := Lib.hid (by rw [HPARSE.out]; have := HK.out; rw [if_pos rfl] at this; rw [this])
    obtain ⟨y0, y1, y2, y3, yf⟩ := HTC5.out
    have yf0 := yf 0
    have yf1 := yf 1
    have yf2 := yf 2
    have yf3 := yf 3
    clear yf
    go_wp2
    refine bodyPost_ret (v := .tuple #[.agg #[.int .i64 0, .string ⟨#[]⟩, .int .i64 0, .slice none 0 0], .iface 39 (.int .i64 4)]) (by simp [results, Tryd.results15, go_sem, y0, y1, y2, y3]; try rfl) rfl ⟨none, 0, by rw [HPP.out]; rfl, by rw [HPP.out]; simp [eE, Ex.args], by rw [HPP.out]; exact .inl rfl, ?_⟩
    exact HBW.out.trans ((fr4 w5 w.heap.size (.int .i64 0) (.string ⟨#[]⟩) (.int .i64 0) (.slice none 0 0)).below (fun i e => by omega) HBW.out.size)
  | false =>
    have HK2 : Hid (runJ (.lev 1 ts) = some (t6, ts6)) := Lib.hid (by have := HK.out; rwa [if_neg (by simp)] at this)
    have hc0 := HPS5.out.c0
    cases ts6 with
    | cons x r =>
      have HPP : Hid (parseP s = (4, eE)) := Lib.hid (by rw [HPARSE.out, HK2.out])
      simp only [List.length_cons] at hc0
      have hpos : (0 : Int) < ((r.length + 1 : Nat) : Int) := by omega
      have hpos2 : decide ((0 : Int) < ((r.length + 1 : Nat) : Int)) = true := decide_eq_true hpos
      obtain ⟨n, hn⟩ : ∃ n, n = r.length + 1 := ⟨_, rfl⟩
      rw [← hn] at hc0 hpos hpos2
      clear hn
      obtain ⟨y0, y1, y2, y3, yf⟩ := HTC5.out
      have yf0 := yf 0
      have yf1 := yf 1
      have yf2 := yf 2
      have yf3 := yf 3
      clear yf
      go_wp2
      refine bodyPost_ret (v := .tuple #[.agg #[.int .i64 0, .string ⟨#[]⟩, .int .i64 0, .slice none 0 0], .iface 39 (.int .i64 4)]) (by simp [results, Tryd.results15, go_sem, y0, y1, y2, y3]; try rfl) rfl ⟨none, 0, by rw [HPP.out]; rfl, by rw [HPP.out]; simp [eE, Ex.args], by rw [HPP.out]; exact .inl rfl, ?_⟩
      exact HBW.out.trans ((fr4 w5 w.heap.size (.int .i64 0) (.string ⟨#[]⟩) (.int .i64 0) (.slice none 0 0)).below (fun i e => by omega) HBW.out.size)
    | nil =>
      simp only [List.length_nil] at hc0
      have HD : Hid (Calls Tryd.prog 23 #[.pointer (some ⟨be, 0, none⟩), .int .i64 64] w5 fun e w' => e = .returned (.bool (decide (64 < t6.depth))) ∧ Below w5.heap.size w5 w') := Lib.hid (deeper_any (fun i => w3.heap.size ≤ i) t6 ⟨be, 0, none⟩ 64 w5 HRP.out (by have := runJ_sz HK2.out; simp only [Job.sz, Job.ts] at this; have := HL.out; omega) (by omega))
      by_cases hd : 64 < t6.depth
      · rw [decide_eq_true hd] at HD
        have HPP : Hid (parseP s = (9, eE)) := Lib.hid (by rw [HPARSE.out, HK2.out]; simp [hd])
        clear hd
        go_upto_region 9 with (go_at_call 23; refine HD.out.mono ?_; rintro e9 w6 ⟨rfl, hb6⟩)
        have HBW : Hid (Below w.heap.size w w6) := Lib.hid (bthen HBW5.out hb6)
        have HTC6 := Lib.hid (HTC5.out.below hb6)
        clear hb6 hc0 hc1
        obtain ⟨y0, y1, y2, y3, yf⟩ := HTC6.out
        have yf0 := yf 0
        have yf1 := yf 1
        have yf2 := yf 2
        have yf3 := yf 3
        clear yf
        go_wp2
        refine bodyPost_ret (v := .tuple #[.agg #[.int .i64 0, .string ⟨#[]⟩, .int .i64 0, .slice none 0 0], .iface 39 (.int .i64 9)]) (by simp [results, Tryd.results15, go_sem, y0, y1, y2, y3]; try rfl) rfl ⟨none, 0, by rw [HPP.out]; rfl, by rw [HPP.out]; simp [eE, Ex.args], by rw [HPP.out]; exact .inl rfl, ?_⟩
        exact HBW.out.trans ((fr4 w6 w.heap.size (.int .i64 0) (.string ⟨#[]⟩) (.int .i64 0) (.slice none 0 0)).below (fun i e => by omega) HBW.out.size)
      · rw [decide_eq_false hd] at HD
        have HPP : Hid (parseP s = (0, t6)) := Lib.hid (by rw [HPARSE.out, HK2.out]; simp [hd])
        clear hd
        go_upto_region 10 with (go_at_call 23; refine HD.out.mono ?_; rintro e9 w6 ⟨rfl, hb6⟩)
        have HBW : Hid (Below w.heap.size w w6) := Lib.hid (bthen HBW5.out hb6)
        have HTC6 := Lib.hid (HTC5.out.below hb6)
        have HRA6 : Hid (RdA (fun i => w3.heap.size ≤ i) w6 t6.args aa6) := Lib.hid (HRA5.out.below hb6)
        obtain ⟨x0, x1, x2, x3, xf⟩ := HEC5.out.below hb6
        clear hb6 hc0 hc1 xf
        obtain ⟨y0, y1, y2, y3, yf⟩ := HTC6.out
        have yf0 := yf 0
        have yf1 := yf 1
        have yf2 := yf 2
        have yf3 := yf 3
        clear yf
        go_wp2
        refine bodyPost_ret (v := .tuple #[.agg #[.int .i64 t6.kind, .string t6.text, .int .i64 t6.num, .slice aa6 t6.args.length cc6], .nilIface]) (by simp [results, Tryd.results15, go_sem, y0, y1, y2, y3]; try rfl) rfl ⟨aa6, cc6, by rw [HPP.out]; rfl, by rw [HPP.out]; exact HCC.out, ?_, ?_⟩
        · rw [HPP.out]
          exact (HRA6.out.fr (fr4 w6 w.heap.size (.int .i64 t6.kind) (.string t6.text) (.int .i64 t6.num) (.slice aa6 t6.args.length cc6)) (fun i hi e => by have := HW35.out; omega)).mono (fun i _ hi => by have := HW35.out; omega)
        · exact HBW.out.trans ((fr4 w6 w.heap.size (.int .i64 t6.kind) (.string t6.text) (.int .i64 t6.num) (.slice aa6 t6.args.length cc6)).below (fun i e => by omega) HBW.out.size)

/-- Parse, at every text -/
theorem parse_any (s : ByteArray) (w : World) (hs : s.size ≤ 1000000000000) : Calls Tryd.prog 15 #[.string s] w (ParsePost w s) := by
  by_cases hb : 4096 < s.size
  · refine parse_bad s w 9 (.inr rfl) (by unfold parseP; rw [if_pos hb]) (fun w1 => (tokens_any s w1 hs).mono (fun e w' h => ?_))
    obtain ⟨h1, h2⟩ := h
    rcases h1 with ⟨_, he⟩ | ⟨h, _⟩ | ⟨h, _⟩
    · exact ⟨he, h2⟩
    · omega
    · omega
  · cases ht : toksP (ns s) with
    | none =>
      refine parse_bad s w 4 (.inl rfl) (by unfold parseP; rw [if_neg hb, ht]) (fun w1 => (tokens_any s w1 hs).mono (fun e w' h => ?_))
      obtain ⟨h1, h2⟩ := h
      rcases h1 with ⟨h, _⟩ | ⟨_, _, he⟩ | ⟨_, ts', a, c, h, _⟩
      · omega
      · exact ⟨he, h2⟩
      · rw [ht] at h; cases h
    | some ts =>
      exact parse_toks s w ts (by omega) ht (by have := toks_len _ [] 0 (ns s) ts (Nat.le_refl _) ht; rw [ns_len] at this; simp at this; omega)

end Go.Proofs.YtpabngicbfcdkaaDoor

/- small functions that all statements share: Num, Is; errors as values. -/
namespace Go.Proofs.YtpabngicbfcdkaaDoor
open Go.RowKit
set_option linter.unusedVariables false
set_option linter.unusedSimpArgs false

/-- an error code as an error; 0: nil -/
def errV (k : Int) : Value := if k = 0 then .nilIface else .iface 39 (.int .i64 k)

theorem num_nil (w : World) : Calls Tryd.prog 12 #[.nilIface] w fun e w' => e = .returned (.int .i64 0) ∧ w = w' := by
  go_enter Tryd.func12, Tryd.ntmps12
  go_wp2
  go_ret
  exact ⟨rfl, rfl⟩

theorem num_errno (n : Int) (w : World) : Calls Tryd.prog 12 #[.iface 39 (.int .i64 n)] w fun e w' => e = .returned (.int .i64 n) ∧ w = w' := by
  have ht : ∀ w, (Instr.typeAssert (.iface 39 (.int .i64 n)) 29 39 true).run Tryd.prog w = .ok (.tuple #[.int .i64 n, .bool true]) w := fun w => by kernel_rfl
  go_enter Tryd.func12, Tryd.ntmps12
  go_wp2
  go_ret
  exact ⟨rfl, rfl⟩

theorem num_errV (k : Int) (w : World) : Calls Tryd.prog 12 #[errV k] w fun e w' => e = .returned (.int .i64 k) ∧ w = w' := by
  unfold errV
  by_cases h : k = 0
  · rw [if_pos h, h]; exact num_nil w
  · rw [if_neg h]; exact num_errno k w

theorem is_errno (k : Int) (hk : (k != 0) = true) (w : World) : Calls Tryd.prog 14 #[.iface 39 (.int .i64 k), .int .i64 k] w fun e w' => e = .returned (.bool true) ∧ w = w' := by
  go_enter Tryd.func14, Tryd.ntmps14
  go_wp2_with fail
  refine (num_errno _ _).mono ?_
  rintro e w' ⟨rfl, rfl⟩
  go_wp2
  go_ret
  exact ⟨ret_eq (by simp), rfl⟩


theorem bdrewN {B : Nat} {a w : World} (h : Below B a w) (n : Nat) : Below B a (w.drewN n) := ⟨h.os, h.tape, h.output, h.size, h.block⟩

end Go.Proofs.YtpabngicbfcdkaaDoor

/- The fixed fact ahead of every law of chapter 54: "1 - 2 - 3". -/
namespace Go.Proofs.YtpabngicbfcdkaaDoor
open Go.RowKit
set_option linter.unusedVariables false
set_option linter.unusedSimpArgs false

theorem errN_errV (k : Nat) : errN k = errV (k : Int) := by
  unfold errN errV
  by_cases h : k = 0
  · subst h; rfl
  · rw [if_neg h, if_neg (by omega)]
theorem errN_zero : errN 0 = .nilIface := rfl
theorem num_errN (k : Nat) (w : World) : Calls Tryd.prog 12 #[errN k] w fun e w' => e = .returned (.int .i64 (k : Int)) ∧ w = w' := by
  rw [errN_errV]; exact num_errV k w

def awTxt : List Nat := [49, 32, 45, 32, 50, 32, 45, 32, 51]
def awToks : List Tk := [((1, [], 1), 0), ((5, [45], 0), 2), ((1, [], 2), 4), ((5, [45], 0), 6), ((1, [], 3), 8)]
def awTree : Ex := callE [45] [callE [45] [.mk 1 (bs []) ((1 : Nat) : Int) [], .mk 1 (bs []) ((2 : Nat) : Int) []], .mk 1 (bs []) ((3 : Nat) : Int) []]
theorem aw_toks : toksP awTxt = some awToks := by
  unfold toksP awTxt
  rw [toks_some [] 0 (t := (1, [], 1)) (n := 1) rfl rfl]
  simp only [List.drop_succ_cons, List.drop_zero, List.nil_append]
  rw [toks_blank _ _ _ rfl, toks_some _ _ (t := (5, [45], 0)) (n := 1) rfl rfl]
  simp only [List.drop_succ_cons, List.drop_zero]
  rw [toks_blank _ _ _ rfl, toks_some _ _ (t := (1, [], 2)) (n := 1) rfl rfl]
  simp only [List.drop_succ_cons, List.drop_zero]
  rw [toks_blank _ _ _ rfl, toks_some _ _ (t := (5, [45], 0)) (n := 1) rfl rfl]
  simp only [List.drop_succ_cons, List.drop_zero]
  rw [toks_blank _ _ _ rfl, toks_some _ _ (t := (1, [], 3)) (n := 1) rfl rfl]
  simp only [List.drop_succ_cons, List.drop_zero]
  rw [toks_nil]
  rfl
set_option maxRecDepth 100000 in
theorem aw_run : runJ (.lev 1 awToks) = some (awTree, []) := by kernel_rfl
theorem aw_parse : parseP ⟨#[49, 32, 45, 32, 50, 32, 45, 32, 51]⟩ = (0, awTree) := by
  unfold parseP
  rw [if_neg (by decide), show ns ⟨#[49, 32, 45, 32, 50, 32, 45, 32, 51]⟩ = awTxt from rfl, aw_toks]
  simp only [aw_run]
  rw [if_neg (by simp [awTree, callE, Ex.depth, Ex.depths])]

set_option maxRecDepth 100000 in
set_option maxHeartbeats 1500000 in
theorem awake_any (w : World) : Calls Tryd.prog 11 #[] w fun e w' => e = .returned (.bool true) ∧ Below w.heap.size w w' := by
  have HP := Lib.hid (parse_any ⟨#[49, 32, 45, 32, 50, 32, 45, 32, 51]⟩ w (by decide))
  unfold ParsePost at HP
  rw [aw_parse] at HP
  go_enter Tryd.func11, Tryd.ntmps11
  go_upto_region 2 with (go_at_call 15; refine HP.out.mono ?_; rintro e w2 ⟨aa, cc, rfl, hcc, hra, hb2⟩; simp only [exV, errN_zero])
  obtain ⟨w4, hw4⟩ : ∃ w4, w4 = w2.alloc (.cells #[.int .i64 awTree.kind, .string awTree.text, .int .i64 awTree.num, .slice aa awTree.args.length cc] 25) := ⟨_, rfl⟩
  rw [← hw4]
  obtain ⟨bx, hbx⟩ : ∃ bx, bx = w2.heap.size := ⟨_, rfl⟩
  have hb4 : Below w2.heap.size w2 w4 := by rw [hw4]; exact below_alloc _ _
  have HB4 : Hid (Below w.heap.size w w4) := Lib.hid (bthen hb2 hb4)
  have z1 : w4.cell? ⟨bx, 1, none⟩ = some (.string ⟨#[45]⟩) := by rw [hw4, hbx]; simp; rfl
  have hra4 := hra.below hb4
  obtain ⟨b', o', rfl, he0⟩ := hra4.get (i := 0) (t := callE [45] [.mk 1 (bs []) ((1 : Nat) : Int) [], .mk 1 (bs []) ((2 : Nat) : Int) []]) rfl
  obtain ⟨b1, o1, hab, he1⟩ := hra4.get (i := 1) (t := .mk 1 (bs []) ((3 : Nat) : Int) []) rfl
  simp only [Option.some.injEq, Addr.mk.injEq, and_true] at hab
  obtain ⟨rfl, rfl⟩ := hab
  have z3 : w4.cell? ⟨bx, 3, none⟩ = some (.slice (some ⟨b', o', none⟩) 2 cc) := by rw [hw4, hbx]; simp; rfl
  obtain ⟨_, a0, c0, hn0, _⟩ := he0.node
  obtain ⟨_, a1, c1, hn1, _⟩ := he1.node
  have y1 : w4.cell? ⟨b', o' + 1, none⟩ = some (.string ⟨#[45]⟩) := hn0.cells.2.1
  have y2 : w4.cell? ⟨b', o' + 4 + 2, none⟩ = some (.int .i64 3) := hn1.cells.2.2.1
  have y2' : w4.cell? ⟨b', o' + 6, none⟩ = some (.int .i64 3) := y2
  rw [← hbx]
  clear hw4 hbx hb4 hb2 hra hra4 he0 he1 hn0 hn1
  go_wp2
  go_ret
  exact ⟨rfl, HB4.out⟩

end Go.Proofs.YtpabngicbfcdkaaDoor

/- syntax.wellFormed: the walk. -/
namespace Go.Proofs.YtpabngicbfcdkaaDoor
open Go.RowKit
set_option linter.unusedVariables false
set_option linter.unusedSimpArgs false

theorem spn_allr (l : List Nat) : (spn refB l = l.length) ↔ l.all refB = true := by
  unfold spn
  constructor
  · intro h
    have h2 : l.takeWhile refB = l := (List.takeWhile_prefix refB).eq_of_length h
    rw [List.all_eq_true]
    intro c hc
    rw [← h2] at hc
    exact mem_tw l c hc
  · intro h
    induction l with
    | nil => rfl
    | cons a r ih =>
      simp only [List.all_cons, Bool.and_eq_true] at h
      rw [List.takeWhile_cons, if_pos h.1, List.length_cons, List.length_cons, ih h.2]

set_option maxRecDepth 100000 in
set_option maxHeartbeats 4000000 in
theorem wellFormed_any (T : Nat → Prop) (t : Ex) (pb po : Nat) (w : World) (hr : RdP T w t ⟨pb, po, none⟩) (hl : t.args.length ≤ 1000000000) (hsz : t.text.size ≤ 1000000000) :
    Calls Tryd.prog 22 #[.pointer (some ⟨pb, po, none⟩)] w fun e w' => e = .returned (.bool (wellN t)) ∧ Below w.heap.size w w' := by
  obtain ⟨-, aa, ac, hnd, -, -⟩ := hr.2.node
  obtain ⟨c0, c1, c2, c3⟩ := hnd.cells
  simp only at c0 c1 c2 c3
  obtain ⟨k, hk⟩ : ∃ k, k = t.kind := ⟨_, rfl⟩
  obtain ⟨s, hs⟩ : ∃ s, s = t.text := ⟨_, rfl⟩
  obtain ⟨m, hm⟩ : ∃ m, m = t.num := ⟨_, rfl⟩
  obtain ⟨n, hn⟩ : ∃ n, n = t.args.length := ⟨_, rfl⟩
  have HW : Hid (wellN t = if k = 1 then ns s == [] && decide (0 ≤ m) && decide (m ≤ 1152921504606846976) && n == 0 else if k = 2 then m == 0 && n == 0 else if k = 3 then (ns s).all refB && !(ns s == []) && m == 0 && n == 0 else if k = 4 then (if 0 < lvR (ns s) then m == 0 && n == 2 else if ns s = wNot then m == 0 && n == 1 else m == 0 && !(ns s == []) && (ns s).all letB) else false) := Lib.hid (by rw [hk, hs, hm, hn]; rfl)
  rw [← hk] at c0
  rw [← hs] at c1 hsz
  rw [← hm] at c2
  rw [← hn] at c3 hl
  have hni : (n : Int) ≤ 1000000000 := by omega
  have hss : (s.size : Int) ≤ 1000000000 := by omega
  have s0 : (s.toList == []) = decide (ns s = []) := str_lit s []
  clear hnd hr hk hs hm hn
  by_cases k1 : k = 1
  · subst k1
    by_cases h1 : ns s = []
    rotate_left
    · have HE : Hid (wellN t = false) := Lib.hid (by rw [HW.out]; simp [h1])
      have g0 : (s.toList == []) = false := by rw [s0]; exact decide_eq_false h1
      go_enter Tryd.func22, Tryd.ntmps22
      go_wp2
      go_ret
      exact ⟨by rw [HE.out]; rfl, Below.refl _ _⟩
    by_cases h2 : n = 0
    rotate_left
    · have HE : Hid (wellN t = false) := Lib.hid (by rw [HW.out]; simp [h1, h2])
      have g0 : (s.toList == []) = true := by rw [s0]; exact decide_eq_true h1
      have g1 : ((n : Int) == 0) = false := by rw [beq_eq_false_iff_ne]; omega
      go_enter Tryd.func22, Tryd.ntmps22
      go_wp2
      go_ret
      exact ⟨by rw [HE.out]; rfl, Below.refl _ _⟩
    by_cases h3 : 0 ≤ m
    rotate_left
    · have HE : Hid (wellN t = false) := Lib.hid (by rw [HW.out]; simp [h1, h2, h3])
      have g0 : (s.toList == []) = true := by rw [s0]; exact decide_eq_true h1
      have g1 : (n : Int) = 0 := by omega
      have g2 : decide (0 ≤ m) = false := decide_eq_false h3
      go_enter Tryd.func22, Tryd.ntmps22
      go_wp2
      go_ret
      exact ⟨by rw [HE.out]; rfl, Below.refl _ _⟩
    by_cases h4 : m ≤ 1152921504606846976
    rotate_left
    · have HE : Hid (wellN t = false) := Lib.hid (by rw [HW.out]; simp [h1, h2, h3, h4])
      have g0 : (s.toList == []) = true := by rw [s0]; exact decide_eq_true h1
      have g1 : (n : Int) = 0 := by omega
      have g2 : decide (0 ≤ m) = true := decide_eq_true h3
      have g3 : decide (m ≤ 1152921504606846976) = false := decide_eq_false h4
      go_enter Tryd.func22, Tryd.ntmps22
      go_wp2
      go_ret
      exact ⟨by rw [HE.out]; rfl, Below.refl _ _⟩
    have HE : Hid (wellN t = true) := Lib.hid (by rw [HW.out]; simp [h1, h2, h3, h4])
    have g0 : (s.toList == []) = true := by rw [s0]; exact decide_eq_true h1
    have g1 : (n : Int) = 0 := by omega
    have g2 : decide (0 ≤ m) = true := decide_eq_true h3
    have g3 : decide (m ≤ 1152921504606846976) = true := decide_eq_true h4
    go_enter Tryd.func22, Tryd.ntmps22
    go_wp2
    go_ret
    exact ⟨by rw [HE.out]; rfl, Below.refl _ _⟩
  by_cases k2 : k = 2
  · subst k2
    by_cases h5 : m = 0
    rotate_left
    · have HE : Hid (wellN t = false) := Lib.hid (by rw [HW.out]; simp [h5])
      have g0 : (m == 0) = false := by rw [beq_eq_false_iff_ne]; exact h5
      go_enter Tryd.func22, Tryd.ntmps22
      go_wp2
      go_ret
      exact ⟨by rw [HE.out]; rfl, Below.refl _ _⟩
    by_cases h2 : n = 0
    rotate_left
    · have HE : Hid (wellN t = false) := Lib.hid (by rw [HW.out]; simp [h5, h2])
      have g0 : (m == 0) = true := by simp [h5]
      have g1 : ((n : Int) == 0) = false := by rw [beq_eq_false_iff_ne]; omega
      go_enter Tryd.func22, Tryd.ntmps22
      go_wp2
      go_ret
      exact ⟨by rw [HE.out]; rfl, Below.refl _ _⟩
    have HE : Hid (wellN t = true) := Lib.hid (by rw [HW.out]; simp [h5, h2])
    have g0 : (m == 0) = true := by simp [h5]
    have g1 : (n : Int) = 0 := by omega
    go_enter Tryd.func22, Tryd.ntmps22
    go_wp2
    go_ret
    exact ⟨by rw [HE.out]; rfl, Below.refl _ _⟩
  by_cases k3 : k = 3
  · subst k3
    obtain ⟨v, hv⟩ : ∃ v, v = spn refB (ns s) := ⟨_, rfl⟩
    have HH := Lib.hid (fun (n : Nat) => (span_any 37 refB s hsz (w.drewN n) cf_ref (fun c w h => isRef_any c h w)).mono (R' := fun r w' => r = .returned (.int .i64 (v : Nat)) ∧ w' = w.drewN n) (fun _ _ h => ⟨by rw [hv]; exact h.1, h.2.symm⟩))
    have HSA : Hid ((ns s).all refB = decide (v = s.size)) := Lib.hid (by rw [Bool.eq_iff_iff, decide_eq_true_iff, ← spn_allr, hv, ns_len])
    clear hv
    by_cases h5 : m = 0
    rotate_left
    · have HE : Hid (wellN t = false) := Lib.hid (by rw [HW.out]; simp [HSA.out, h5])
      have g0 : (m == 0) = false := by rw [beq_eq_false_iff_ne]; exact h5
      clear h5
      go_enter Tryd.func22, Tryd.ntmps22
      go_wp2
      go_quiet (first | (go_at_call 36; exact Calls.quiet_of_same (HH.out _)))
      go_wp2
      go_ret
      exact ⟨by rw [HE.out]; rfl, bdrewN (Below.refl _ _) _⟩
    by_cases h2 : n = 0
    rotate_left
    · have HE : Hid (wellN t = false) := Lib.hid (by rw [HW.out]; simp [HSA.out, h5, h2])
      have g0 : (m == 0) = true := by simp [h5]
      have g1 : ((n : Int) == 0) = false := by rw [beq_eq_false_iff_ne]; omega
      clear h5 h2
      go_enter Tryd.func22, Tryd.ntmps22
      go_wp2
      go_quiet (first | (go_at_call 36; exact Calls.quiet_of_same (HH.out _)))
      go_wp2
      go_ret
      exact ⟨by rw [HE.out]; rfl, bdrewN (Below.refl _ _) _⟩
    by_cases h6 : ¬ ns s = []
    rotate_left
    · have HE : Hid (wellN t = false) := Lib.hid (by rw [HW.out]; simp [HSA.out, h5, h2, h6]; exact fun _ => Classical.not_not.1 h6)
      have g0 : (m == 0) = true := by simp [h5]
      have g1 : (n : Int) = 0 := by omega
      have g2 : (s.toList == []) = true := by rw [s0]; exact decide_eq_true (Classical.not_not.1 h6)
      clear h5 h2 h6 s0
      go_enter Tryd.func22, Tryd.ntmps22
      go_wp2
      go_quiet (first | (go_at_call 36; exact Calls.quiet_of_same (HH.out _)))
      go_wp2
      go_ret
      exact ⟨by rw [HE.out]; rfl, bdrewN (Below.refl _ _) _⟩
    by_cases h7 : v = s.size
    rotate_left
    · have HE : Hid (wellN t = false) := Lib.hid (by rw [HW.out]; simp [HSA.out, h5, h2, h6, h7])
      have g0 : (m == 0) = true := by simp [h5]
      have g1 : (n : Int) = 0 := by omega
      have g2 : (s.toList == []) = false := by rw [s0]; exact decide_eq_false h6
      have g3 : ((v : Int) == (s.size : Int)) = false := by rw [beq_eq_false_iff_ne]; omega
      clear h5 h2 h6 h7 s0
      go_enter Tryd.func22, Tryd.ntmps22
      go_wp2
      go_quiet (first | (go_at_call 36; exact Calls.quiet_of_same (HH.out _)))
      go_wp2
      go_ret
      exact ⟨by rw [HE.out]; rfl, bdrewN (Below.refl _ _) _⟩
    have HE : Hid (wellN t = true) := Lib.hid (by rw [HW.out]; simp [HSA.out, h5, h2, h6, h7])
    have g0 : (m == 0) = true := by simp [h5]
    have g1 : (n : Int) = 0 := by omega
    have g2 : (s.toList == []) = false := by rw [s0]; exact decide_eq_false h6
    have g3 : ((v : Int) == (s.size : Int)) = true := by rw [beq_iff_eq]; omega
    clear h5 h2 h6 h7 s0
    go_enter Tryd.func22, Tryd.ntmps22
    go_wp2
    go_quiet (first | (go_at_call 36; exact Calls.quiet_of_same (HH.out _)))
    go_wp2
    go_ret
    exact ⟨by rw [HE.out]; rfl, bdrewN (Below.refl _ _) _⟩
  by_cases k4 : k = 4
  · subst k4
    obtain ⟨v, hv⟩ : ∃ v, v = lvR (ns s) := ⟨_, rfl⟩
    have HO : Hid (Calls Tryd.prog 38 #[.string s] w fun e w' => e = .returned (oprV v) ∧ w = w') := Lib.hid (by rw [hv]; exact operator_any s w)
    have HW4 : Hid (wellN t = if 0 < v then m == 0 && n == 2 else if ns s = wNot then m == 0 && n == 1 else m == 0 && !(ns s == []) && (ns s).all letB) := Lib.hid (by rw [HW.out, hv]; rfl)
    have hv7 : v ≤ 7 := by rw [hv]; exact (lvR_lt _).1
    by_cases h5 : m = 0
    rotate_left
    · have HE : Hid (wellN t = false) := Lib.hid (by rw [HW4.out]; simp [h5])
      have g0 : (m != 0) = true := by simp [bne, h5]
      clear h5 HO HW4
      go_enter Tryd.func22, Tryd.ntmps22
      go_wp2
      go_ret
      exact ⟨by rw [HE.out]; rfl, Below.refl _ _⟩
    have g0 : (m != 0) = false := by simp [bne, h5]
    by_cases h0 : 0 < v
    · have h0i : (0 : Int) < (v : Int) := by omega
      by_cases h2 : n = 2
      · have HE : Hid (wellN t = true) := Lib.hid (by rw [HW4.out, if_pos h0]; simp [h5, h2])
        have g1 : (n : Int) = 2 := by omega
        unfold oprV at HO
        clear h0 hv h2 h5 HW HW4
        go_enter Tryd.func22, Tryd.ntmps22
        go_wp2_with (go_at_call 38; refine HO.out.mono ?_; rintro e w2 ⟨rfl, rfl⟩)
        go_ret
        exact ⟨by rw [HE.out]; rfl, Below.refl _ _⟩
      · have HE : Hid (wellN t = false) := Lib.hid (by rw [HW4.out, if_pos h0]; simp [h5, h2])
        have g1 : ((n : Int) == 2) = false := by rw [beq_eq_false_iff_ne]; omega
        unfold oprV at HO
        clear h0 hv h2 h5 HW HW4
        go_enter Tryd.func22, Tryd.ntmps22
        go_wp2_with (go_at_call 38; refine HO.out.mono ?_; rintro e w2 ⟨rfl, rfl⟩)
        go_ret
        exact ⟨by rw [HE.out]; rfl, Below.refl _ _⟩
    · obtain rfl : v = 0 := by omega
      unfold oprV at HO
      have s1 : (s.toList == [110, 111, 116]) = decide (ns s = wNot) := str_lit s [110, 111, 116]
      by_cases h1 : ns s = wNot
      · rw [decide_eq_true h1] at s1
        by_cases h2 : n = 1
        · have HE : Hid (wellN t = true) := Lib.hid (by rw [HW4.out]; simp [h5, h2, h1])
          have g1 : (n : Int) = 1 := by omega
          clear h0 hv h1 h2 h5 HW HW4
          go_enter Tryd.func22, Tryd.ntmps22
          go_wp2_with (go_at_call 38; refine HO.out.mono ?_; rintro e w2 ⟨rfl, rfl⟩)
          go_ret
          exact ⟨by rw [HE.out]; rfl, Below.refl _ _⟩
        · have HE : Hid (wellN t = false) := Lib.hid (by rw [HW4.out]; simp [h5, h2, h1])
          have g1 : ((n : Int) == 1) = false := by rw [beq_eq_false_iff_ne]; omega
          clear h0 hv h1 h2 h5 HW HW4
          go_enter Tryd.func22, Tryd.ntmps22
          go_wp2_with (go_at_call 38; refine HO.out.mono ?_; rintro e w2 ⟨rfl, rfl⟩)
          go_ret
          exact ⟨by rw [HE.out]; rfl, Below.refl _ _⟩
      · rw [decide_eq_false h1] at s1
        have HE : Hid (wellN t = isNm (ns s)) := Lib.hid (by
          have e1 : ns s ≠ [97, 110, 100] := fun e => by rw [e] at hv; cases hv
          have e2 : ns s ≠ [111, 114] := fun e => by rw [e] at hv; cases hv
          have b1 : (ns s == [97, 110, 100]) = false := by rw [beq_eq_false_iff_ne]; exact e1
          have b2 : (ns s == [111, 114]) = false := by rw [beq_eq_false_iff_ne]; exact e2
          have b3 : (ns s == wNot) = false := by rw [beq_eq_false_iff_ne]; exact h1
          rw [HW4.out]; simp [h5, h1, isNm, b1, b2, b3])
        have HNM := Lib.hid (name_any (ns s) (ns_lt s) (by rw [ns_len]; exact hsz) w)
        rw [bs_ns] at HNM
        obtain ⟨q, hq⟩ : ∃ q, q = isNm (ns s) := ⟨_, rfl⟩
        rw [← hq] at HNM HE
        clear h0 hv h1 h5 HW HW4 hq
        go_enter Tryd.func22, Tryd.ntmps22
        go_wp2_with (first | (go_at_call 38; refine HO.out.mono ?_; rintro e w2 ⟨rfl, rfl⟩) | (go_at_call 39; refine HNM.out.mono ?_; rintro e w2 ⟨rfl, rfl⟩))
        go_ret
        exact ⟨by rw [HE.out]; rfl, Below.refl _ _⟩
  · have HE : Hid (wellN t = false) := Lib.hid (by rw [HW.out]; simp [k1, k2, k3, k4])
    have j1 : (k == 1) = false := by rw [beq_eq_false_iff_ne]; exact k1
    have j2 : (k == 2) = false := by rw [beq_eq_false_iff_ne]; exact k2
    have j3 : (k == 3) = false := by rw [beq_eq_false_iff_ne]; exact k3
    have j4 : (k == 4) = false := by rw [beq_eq_false_iff_ne]; exact k4
    go_enter Tryd.func22, Tryd.ntmps22
    go_wp2
    go_ret
    exact ⟨by rw [HE.out]; rfl, Below.refl _ _⟩

end Go.Proofs.YtpabngicbfcdkaaDoor
