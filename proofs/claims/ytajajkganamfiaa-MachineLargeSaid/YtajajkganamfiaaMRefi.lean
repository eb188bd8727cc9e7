/-
  refine: the blocks of the states that the same texts accept.
-/
import Derived.Test.YtajajkganamfiaaMMap
import Derived.Maps.OwnOps
namespace Go.Proofs.Ytajajkganamfiaa
open Go.RowKit Go.Maps
set_option linter.unusedVariables false
set_option linter.unusedSimpArgs false

theorem RF.sub {B N w l l'} (h : RF B N w l) (f : Nat → Nat) (hf : ∀ i j, f i = f j → i = j) (hl : ∀ (j : Nat) (x : Rw), l'[j]? = some (some x) → l[f j]? = some (some x)) : RF B N w l' :=
  ⟨fun i e v xs hi => h.own (f i) e v xs (hl i (e, v, xs) hi), fun i j e v xs e' v' xs' g hne hi hj hg => h.ne (f i) (f j) e v xs e' v' xs' g (fun e => hne (hf i j e)) (hl i (e, v, xs) hi) (hl j (e', v', xs') hj) hg, fun i e v xs g hi hg => h.av (f i) e v xs g (hl i (e, v, xs) hi) hg, h.nl, h.bw⟩
theorem RF.weak {B} {N N' : Nat → Prop} {w l} (h : RF B N w l) (hN : ∀ b, N' b → N b) : RF B N' w l :=
  ⟨h.own, h.ne, fun i e v xs g hi hg hn => h.av i e v xs g hi hg (hN g hn), fun b hb => h.nl b (hN b hb), h.bw⟩

/-- bytes as values -/
abbrev u8v (us : List Nat) : List Value := us.map fun (u : Nat) => Value.int .u8 (u : Int)
def sliceLen : Value → Nat
  | .slice _ n _ => n
  | _ => 0

structure RefPost (next : List (List Int)) (acc : List Bool) (classes states : List Nat) (nn : Nat) (w : World) (e : Ending) (w' : World) : Prop where
  ex : ∃ (b first : List Nat) (ga : Option Addr) (gc : Nat) (fa : Option Addr) (fc : Nat), e = .returned (.tuple #[.slice ga nn gc, .slice fa first.length fc]) ∧ b.length = nn ∧ first ≠ [] ∧
    Part (fun q => acc.getD q false) states (fun q => b.getD q 0) first ∧ Stable (nxN next) classes states (fun q => b.getD q 0) ∧
    Row w' w.heap.size 3 1 (.slice ga nn gc) nn (iv b) ∧ Row w' w.heap.size 3 1 (.slice fa first.length fc) first.length (iv first) ∧ Below w.heap.size w w'

def swap01 (j : Nat) : Nat := if j = 0 then 1 else if j = 1 then 0 else j
theorem swap01_inj (i j : Nat) (h : swap01 i = swap01 j) : i = j := by
  unfold swap01 at h
  split at h <;> split at h <;> (try split at h) <;> (try split at h) <;> omega

def pick24 (j : Nat) : Nat := if j = 0 then 2 else if j = 1 then 4 else j + 10
theorem pick24_inj (i j : Nat) (h : pick24 i = pick24 j) : i = j := by
  unfold pick24 at h
  split at h <;> split at h <;> (try split at h) <;> (try split at h) <;> omega

theorem Part.nd {ac : Nat → Bool} {states : List Nat} {b : Nat → Nat} {first : List Nat} (h : Part ac states b first) : first.Nodup := by
  refine List.pairwise_iff_getElem.2 (fun i j hi hj hij e => ?_)
  have h1 := (h.rep i hi).2
  have h2 := (h.rep j hj).2
  rw [e] at h1
  omega
theorem Part.len {ac : Nat → Bool} {states : List Nat} {b : Nat → Nat} {first : List Nat} (h : Part ac states b first) : first.length ≤ states.length :=
  List.Nodup.length_le_of_subset h.nd (fun q hq => by
    obtain ⟨i, hi, e⟩ := List.getElem_of_mem hq
    exact e ▸ (h.rep i hi).1)
theorem Part.lt {ac : Nat → Bool} {states : List Nat} {b : Nat → Nat} {first : List Nat} (h : Part ac states b first) (hs : states.length ≤ 256) {q : Nat} (hq : q ∈ states) : b q < 256 := by
  have := h.len
  rcases h.bd with ⟨_, h1⟩ | h1
  · have := h1 q; omega
  · have := h1 q hq; omega

theorem getD_set (b : List Nat) (q r x : Nat) (hq : q < b.length) : (b.set q x).getD r 0 = if r = q then x else b.getD r 0 := by
  simp only [List.getD, List.getElem?_set]
  by_cases e : q = r
  · subst e; simp [hq]
  · rw [if_neg e, if_neg (fun h => e h.symm)]

structure RI (key : Nat → List Nat) (states : List Nat) (na j : Nat) (first' nxt : List Nat) (W : List (List Nat)) : Prop where
  w : W = dd ((states.take j).map key)
  map : first'.map key = W
  sub : ∀ q ∈ first', q ∈ states
  nl : nxt.length = na
  val : ∀ q, q ∈ states.take j → nxt.getD q 0 = ix W (key q)

theorem take_snoc {α : Type} {l : List α} {j : Nat} {q : α} (hq : l[j]? = some q) : l.take (j + 1) = l.take j ++ [q] := by
  have h1 : j < l.length := (List.getElem?_eq_some_iff.1 hq).1
  have h2 : l[j] = q := (List.getElem?_eq_some_iff.1 hq).2
  rw [← List.take_append_getElem h1, h2]

theorem take_set_snoc {l : List Nat} {k y : Nat} (h : k < l.length) : (l.set k y).take (k + 1) = l.take k ++ [y] := by
  rw [take_snoc (q := y) (by rw [List.getElem?_set_self h]), List.take_set_of_le (Nat.le_refl _)]

theorem RI.start (key : Nat → List Nat) (states : List Nat) (na : Nat) : RI key states na 0 [] (List.replicate na 0) [] := ⟨by simp [dd], rfl, (fun q hq => by cases hq), by simp, (fun q hq => by simp at hq)⟩

theorem RI.hit {key states na j first' nxt W} (h : RI key states na j first' nxt W) {q : Nat} (hq : states[j]? = some q) (hqn : q < na) (hm : key q ∈ W) : RI key states na (j + 1) first' (nxt.set q (ix W (key q))) W := by
  have ht := take_snoc hq
  refine ⟨by rw [ht, List.map_append, List.map_singleton, dd_snoc, ← h.w, ddStep_in hm], h.map, h.sub, by rw [List.length_set]; exact h.nl, fun r hr => ?_⟩
  rw [getD_set _ _ _ _ (by rw [h.nl]; exact hqn)]
  split
  · rename_i e; rw [e]
  · rename_i hne
    rw [ht, List.mem_append] at hr
    rcases hr with hr | hr
    · exact h.val r hr
    · exact absurd (List.mem_singleton.1 hr) hne

theorem RI.new {key states na j first' nxt W} (h : RI key states na j first' nxt W) {q : Nat} (hq : states[j]? = some q) (hqn : q < na) (hm : key q ∉ W) : RI key states na (j + 1) (first' ++ [q]) (nxt.set q W.length) (W ++ [key q]) := by
  have ht := take_snoc hq
  have hstep := ddStep_out hm
  refine ⟨by rw [ht, List.map_append, List.map_singleton, dd_snoc, ← h.w, hstep], by rw [List.map_append, h.map]; rfl, fun r hr => ?_, by rw [List.length_set]; exact h.nl, fun r hr => ?_⟩
  · rcases List.mem_append.1 hr with hr | hr
    · exact h.sub r hr
    · rw [List.mem_singleton.1 hr]; exact List.mem_of_getElem? hq
  · rw [getD_set _ _ _ _ (by rw [h.nl]; exact hqn), ← hstep]
    split
    · rename_i e; rw [e, idx_new hm]
    · rename_i hne
      rw [ht, List.mem_append] at hr
      rcases hr with hr | hr
      · rw [h.val r hr, idx_old]
        rw [h.w, dd_mem]
        exact List.mem_map.2 ⟨r, hr, rfl⟩
      · exact absurd (List.mem_singleton.1 hr) hne

set_option maxRecDepth 100000 in
set_option maxHeartbeats 2000000 in
theorem refine_any (st : Nat) (ac : Option Addr) (nc cc : Nat) (an : Option Addr) (nn cn : Nat) (aa : Option Addr) (na ca : Nat) (cls : List Int) (next : List (List Int)) (acc : List Bool) (ka : Option Addr) (kc : Nat) (classes : List Nat) (sa : Option Addr) (sc : Nat) (states : List Nat) (w : World)
    (hm : RdM w ac nc an nn aa na cls next acc) (hv : Valid st cls next acc) (hk : RdG w 1 ka classes.length (iv classes)) (hcl : ∀ c ∈ classes, c < ncls next) (hk9 : classes.length ≤ 256) (hs : RdG w 1 sa states.length (iv states)) (hrc : RcI next st classes states states.length) :
    Calls Try.prog 46 #[.agg #[.int .i64 st, .slice ac nc cc, .slice an nn cn, .slice aa na ca], .slice ka classes.length kc, .slice sa states.length sc] w (RefPost next acc classes states nn w) := by
  obtain ⟨w1, hw1⟩ : ∃ w1, w1 = w.alloc (.cells #[.int .i64 st, .slice ac nc cc, .slice an nn cn, .slice aa na ca] 26) := ⟨_, rfl⟩
  have HW1 := Lib.hid hw1
  have hb1 : Below w.heap.size w w1 := by rw [hw1]; exact below_alloc _ _
  have x2 : w1.cell? ⟨w.heap.size, 2, none⟩ = some (.slice an nn cn) := by rw [hw1]; simp
  have x3 : w1.cell? ⟨w.heap.size, 3, none⟩ = some (.slice aa na ca) := by rw [hw1]; simp
  have hnn : next.length = nn := hm.n.len
  have hna : na = nn := by rw [← hm.a.len, hv.accL, hnn]
  have hn9 : nn ≤ 256 := by rw [← hnn]; exact hv.n1
  have hni : (nn : Int) ≤ 256 := by omega
  have hsn : states.length ≤ nn := nodup_lt hrc.nd (fun q hq => by rw [← hnn]; exact hrc.lt q hq)
  have HBOX := Lib.hid (And.intro x2 x3)
  have HN9 := Lib.hid hn9
  have HNN := Lib.hid hnn
  have HV := Lib.hid hv
  have HROWS := Lib.hid (fun (wx : World) (hb : Below w1.heap.size w1 wx) => (hm.n.below hb1).below hb)
  have HACC := Lib.hid (fun (wx : World) (hb : Below w1.heap.size w1 wx) => (hm.a.below hb1).below hb)
  have HCLS := Lib.hid (fun (wx : World) (hb : Below w1.heap.size w1 wx) => (hk.below hb1).below hb)
  have HSTS := Lib.hid (fun (wx : World) (hb : Below w1.heap.size w1 wx) => (hs.below hb1).below hb)
  have HCL := Lib.hid hcl
  have HK9 := Lib.hid hk9
  have HRC := Lib.hid hrc
  have hk9i : (classes.length : Int) ≤ 256 := by omega
  have hs9i : (states.length : Int) ≤ 256 := by omega
  have HSN := Lib.hid hsn
  have HRF1 : Hid (RF w1.heap.size (fun _ => False) w1 [some (3, .slice none 0 0, [])]) := Lib.hid (RF.one (Own.nil w1 w1.heap.size 3 .i64) (fun g hg => by cases hg) (fun b hb => hb.elim) (Nat.le_refl _))
  have HB1 := Lib.hid hb1
  have hmm := @run_makeMap Try.prog
  obtain ⟨C, hC⟩ : ∃ C, C = ncls next := ⟨_, rfl⟩
  have HC := Lib.hid hC
  clear hm hv hk hcl hk9 hw1 hb1 hnn hn9 hC hs hrc hsn
  subst hna
  generalize hkl : classes.length = kn at *
  have HKL := Lib.hid hkl
  generalize hsl : states.length = sn at *
  have HSL := Lib.hid hsl
  clear hkl hsl
  go_enter Try.func46, Try.ntmps46
  go_upto_region 1 with fail
  rw [← HW1.out]
  go_wp2_with (at_make; refine RF.make HRF1.out EIG rfl rfl _ _ rfl _ _ _ _ na rfl rfl rfl rfl (by have := HN9.out; omega) (by have := HN9.out; omega) ?_; intro w2 hrf2 hb2 hsz2; have HRF2 := Lib.hid hrf2; have HB2 := Lib.hid hb2; clear hrf2 hb2 hsz2 x2 x3)
  obtain ⟨g, hg⟩ : ∃ g, g = w1.heap.size := ⟨_, rfl⟩
  have HG := Lib.hid hg
  rw [← hg] at HRF2 ⊢
  clear hg
  go_loopw [26] (fun jv wr => ∃ (i : Nat) (b : List Nat), jv = .int .i64 i ∧ i ≤ sn ∧ b.length = na ∧ (∀ r, b.getD r 0 = 0 ∨ (b.getD r 0 = 1 ∧ acc.getD r false = true)) ∧ (∀ q, q ∈ states.take i → acc.getD q false = true → b.getD q 0 = 1) ∧ RF g (fun _ => False) wr [some (3, .slice none 0 0, []), some (3, .slice (some ⟨g, 0, none⟩) na na, iv b)] ∧ Below w1.heap.size w1 wr) (fun jv _ => sn - (intOf jv).toNat)
  case atStart => exact ⟨0, List.replicate na 0, rfl, by omega, by simp, fun r => .inl (by simp [List.getD, List.getElem?_replicate]; split <;> rfl), fun q hq => by simp at hq, by
    have h := HRF2.out
    rw [show iv (List.replicate na 0) = List.replicate na (.int .i64 0) by simp [iv]]
    exact h, HB2.out⟩
  case round =>
    obtain ⟨i, b, rfl, hi, hbl, hb01, hdone, hrf, hb⟩ := hrel
    have HRF := Lib.hid hrf
    have HB := Lib.hid hb
    have HB01 := Lib.hid (And.intro hbl (And.intro hb01 hdone))
    have hx3 := below_cell hb HBOX.out.2
    by_cases hlt : i < sn
    · obtain ⟨q, hq⟩ : ∃ q, states[i]? = some q := ⟨_, List.getElem?_eq_getElem (by rw [HSL.out]; exact hlt)⟩
      have hqn : q < na := by rw [← HNN.out]; exact HRC.out.lt q (List.mem_of_getElem? hq)
      obtain ⟨sb, so, rfl, hcs⟩ := (HSTS.out wr hb).cell i (.int .i64 (q : Int)) (by simp [iv, hq])
      obtain ⟨ab, ao, rfl, hca⟩ := (HACC.out wr hb).cell q hqn
      have HQN := Lib.hid hqn
      have HTK : Hid (states.take (i + 1) = states.take i ++ [q]) := Lib.hid (by
        have h1 : i < states.length := (List.getElem?_eq_some_iff.1 hq).1
        have h2 : states[i] = q := (List.getElem?_eq_some_iff.1 hq).2
        rw [← List.take_append_getElem h1, h2])
      have hqi : (q : Int) < (na : Int) := by omega
      have hlti : (i : Int) < (sn : Int) := by omega
      have hi9 : (i : Int) ≤ 256 := by omega
      have hq9 : (q : Int) ≤ 256 := by omega
      have HLT := Lib.hid hlt
      cases hz : acc.getD q false with
      | true =>
        rw [hz] at hca
        have HZ := Lib.hid hz
        clear hz hq hqn hrf hb hbl hb01 hdone hi hlt
        go_wp2_with (refine guard_op (.store 3 (.tmp 37) (.const (.int .i64 1))) rfl ?_; refine RF.store HRF.out (i := 1) rfl rfl 3 (.tmp 37) (.const (.int .i64 1)) rfl q rfl (.int .i64 1) rfl rfl rfl (by kernel_rfl) (by rw [List.length_map, HB01.out.1]; exact HQN.out) ?_; intro w7 hrf7 hg7 hbl7 hfr7; have HRF7 := Lib.hid hrf7; have HB7 := Lib.hid (HB.out.trans (hbl7.mono (Nat.le_of_eq HG.out.symm))); clear hrf7 hg7 hbl7 hfr7)
        go_roundw
        case rel => exact ⟨i + 1, b.set q 1, by go_num, HLT.out, by rw [List.length_set]; exact HB01.out.1, fun r => by
          rw [getD_set b q r 1 (by rw [HB01.out.1]; exact HQN.out)]
          split
          · rename_i e; exact .inr ⟨rfl, e ▸ HZ.out⟩
          · exact HB01.out.2.1 r, fun r hr hz => by
          rw [getD_set b q r 1 (by rw [HB01.out.1]; exact HQN.out)]
          split
          · rfl
          · rename_i hne
            rw [HTK.out, List.mem_append] at hr
            rcases hr with hr | hr
            · exact HB01.out.2.2 r hr hz
            · exact absurd (List.mem_singleton.1 hr) hne, by
          have h := HRF7.out
          rw [show iv (b.set q 1) = (iv b).set q (.int .i64 1) by simp [iv, List.map_set]]
          exact h, HB7.out⟩
        case measure => have := HLT.out; simp [intOf]; omega
      | false =>
        rw [hz] at hca
        have HZ := Lib.hid hz
        clear hz hq hqn hrf hb hbl hb01 hdone hi hlt
        go_wp2
        go_roundw
        case rel => exact ⟨i + 1, b, by go_num, HLT.out, HB01.out.1, HB01.out.2.1, (fun r hr hz => by
            rw [HTK.out, List.mem_append] at hr
            rcases hr with hr | hr
            · exact HB01.out.2.2 r hr hz
            · rw [List.mem_singleton.1 hr, HZ.out] at hz
              cases hz), HRF.out, HB.out⟩
        case measure => have := HLT.out; simp [intOf]; omega
    · obtain rfl : sn = i := by omega
      have HPART : Hid (Part (fun q => acc.getD q false) states (fun q => b.getD q 0) []) := Lib.hid (by
        rw [List.take_of_length_le (by rw [HSL.out]; exact Nat.le_refl _)] at hdone
        have hval : ∀ q, q ∈ states → b.getD q 0 = if acc.getD q false = true then 1 else 0 := fun q hq => by
          split
          · rename_i hz; exact hdone q hq hz
          · rename_i hz
            rcases hb01 q with h | ⟨_, h⟩
            · exact h
            · exact absurd h hz
        refine ⟨fun i h => by simp at h, fun q r hq hr e => ?_, .inl ⟨rfl, fun q => ?_⟩⟩
        · simp only [hval q hq, hval r hr] at e
          cases h1 : acc.getD q false <;> cases h2 : acc.getD r false <;> simp_all
        · rcases hb01 q with h | ⟨h, _⟩ <;> omega)
      have HBL := Lib.hid hbl
      clear hb01 hdone hlt hi hrf hb hbl hx3
      have HRF0 : Hid (RF g (fun _ => False) wr [some (3, .slice (some ⟨g, 0, none⟩) na na, iv b), some (3, .slice none 0 0, [])]) := Lib.hid (HRF.out.sub swap01 swap01_inj (fun j x h => by
        rcases j with _ | _ | j
        · exact h
        · exact h
        · simp at h))
      go_wp2
      go_loopw [6, 7] (fun bv fv wr => ∃ (b first : List Nat) (g6 : Nat) (fa : Option Addr) (fc : Nat), bv = .slice (some ⟨g6, 0, none⟩) na na ∧ fv = .slice fa first.length fc ∧ b.length = na ∧ Part (fun q => acc.getD q false) states (fun q => b.getD q 0) first ∧ RF g (fun _ => False) wr [some (3, .slice (some ⟨g6, 0, none⟩) na na, iv b), some (3, .slice fa first.length fc, iv first)] ∧ Below w1.heap.size w1 wr) (fun _ fv _ => 257 - sliceLen fv)
      case atStart => exact ⟨b, [], g, none, 0, rfl, rfl, HBL.out, HPART.out, HRF0.out, HB.out⟩
      case round =>
        obtain ⟨b, first, g6, fa, fc, rfl, rfl, hbl, hpart, hrf, hb⟩ := hrel
        have HPT := Lib.hid hpart
        have HBL2 := Lib.hid hbl
        have HRF2 := Lib.hid hrf
        have HB2' := Lib.hid hb
        have hx2 := below_cell hb HBOX.out.1
        obtain ⟨wo, hwo⟩ : ∃ wo : World, wo = wr := ⟨_, rfl⟩
        subst hwo
        generalize hfl : first.length = fl at *
        have HFL := Lib.hid hfl
        clear hfl hpart hbl hrf hb
        go_wp2_with (first
          | (at_make; refine RF.make HRF2.out EIG rfl rfl _ _ rfl _ _ _ _ na rfl rfl rfl rfl (by have := HN9.out; omega) (by have := HN9.out; omega) ?_; intro w3 hrf3 hb3 hsz3; have HRF3 := Lib.hid (hrf3.addN (.map #[] 0)); have HB3 := Lib.hid ((HB2'.out.trans (hb3.mono HB2'.out.size)).alloc (Nat.le_trans HB2'.out.size hb3.size) (.map #[] 0)); have HMP3 : Hid (MP (w3.alloc (.map #[] 0)) w3.heap.size []) := Lib.hid ⟨.map [], World.ownsMap_made w3 Try.prog 9 (plainElem (H := Unit) Try.prog 3), mapIs_start⟩; have HS3 := Lib.hid (Nat.le_trans HB2'.out.size hb3.size); clear hrf3 hb3 hsz3)
          | (at_make; refine RF.make HRF3.out EU8G rfl rfl _ _ rfl _ _ _ _ (kn + 1) rfl rfl (by simp) (by simp) (by have := HK9.out; omega) (by have := HK9.out; omega) ?_; intro w4 hrf4 hb4 hsz4; have HRF4 := Lib.hid hrf4; have HB4 := Lib.hid (HB3.out.trans (hb4.mono HB3.out.size)); have HMP4 := Lib.hid (HMP3.out.fr (S := fun _ => False) (.of_below hb4) (fun h => h)); clear hrf4 hb4 hsz4))
        obtain ⟨gn, hgn⟩ : ∃ gn, gn = wo.heap.size := ⟨_, rfl⟩
        obtain ⟨bm, hbm⟩ : ∃ bm, bm = w3.heap.size := ⟨_, rfl⟩
        obtain ⟨gk, hgk⟩ : ∃ gk, gk = w3.heap.size + 1 := ⟨_, rfl⟩
        rw [show (w3.alloc (.map #[] 0)).heap.size = w3.heap.size + 1 by simp, ← hgn, ← hgk, ← hbm] at HRF4
        rw [← hbm] at HMP4
        rw [← hgn, ← hgk, ← hbm]
        obtain ⟨key, hkey⟩ : ∃ key, key = pkey (nxN next) classes (fun q => b.getD q 0) := ⟨_, rfl⟩
        have HKEY := Lib.hid hkey
        have HRF5 : Hid (RF g (fun x => x = bm) w4 [some (3, .slice (some ⟨g6, 0, none⟩) na na, iv b), some (3, .slice fa fl fc, iv first), some (3, .slice (some ⟨gn, 0, none⟩) na na, iv (List.replicate na 0)), some (5, .slice (some ⟨gk, 0, none⟩) (kn + 1) (kn + 1), u8v (List.replicate (kn + 1) 0)), some (3, .slice none 0 0, [])]) := Lib.hid (by
          have h := (HRF4.out.weak (N' := fun x => x = bm) (fun b hb => .inr hb)).new (w' := w4) (e := 3) (v := .slice none 0 0) (xs := []) (Own.nil w4 g 3 .i64) (Below.refl _ _) (.inr rfl)
          rw [show iv (List.replicate na 0) = List.replicate na (.int .i64 0) by simp [iv], show u8v (List.replicate (kn + 1) 0) = List.replicate (kn + 1) (.int .u8 0) by simp [u8v]]
          exact h)
        have HKBD : Hid (∀ q, q ∈ states → b.getD q 0 < 256) := Lib.hid (fun q hq => HPT.out.lt (by rw [HSL.out]; have := HSN.out; have := HN9.out; omega) hq)
        have HKY : Hid (∀ q, q ∈ states → Ky (key q) ∧ (key q).length = kn + 1) := Lib.hid (fun q hq => by
          have hl : (key q).length = kn + 1 := by rw [HKEY.out]; simp [pkey, HKL.out]
          refine ⟨⟨by rw [hl]; have := HK9.out; omega, fun u hu => ?_⟩, hl⟩
          rw [HKEY.out] at hu
          rcases List.mem_cons.1 hu with rfl | hu
          · exact HKBD.out q hq
          · obtain ⟨c, hc, rfl⟩ := List.mem_map.1 hu
            refine HKBD.out _ ?_
            obtain ⟨i, hi, e⟩ := List.getElem_of_mem hq
            exact HRC.out.cl i q (by rw [← HSL.out]; exact hi) (by rw [List.getElem?_eq_getElem hi, e]) c hc)
        have HBMB : Hid (w1.heap.size ≤ bm) := Lib.hid (by rw [hbm]; exact HS3.out)
        clear hkey hgn hbm hgk
        go_loopw [7, 52] (fun fv jv wr => ∃ (j : Nat) (first' nxt kv : List Nat) (W : List (List Nat)) (a7 : Option Addr) (c7 : Nat), jv = .int .i64 j ∧ j ≤ sn ∧ fv = .slice a7 first'.length c7 ∧ RI key states na j first' nxt W ∧ kv.length = kn + 1 ∧ RF g (fun x => x = bm) wr [some (3, .slice (some ⟨g6, 0, none⟩) na na, iv b), some (3, .slice fa fl fc, iv first), some (3, .slice (some ⟨gn, 0, none⟩) na na, iv nxt), some (5, .slice (some ⟨gk, 0, none⟩) (kn + 1) (kn + 1), u8v kv), some (3, .slice a7 first'.length c7, iv first')] ∧ MP wr bm W ∧ Below w1.heap.size w1 wr) (fun _ jv _ => sn - (intOf jv).toNat)
        case atStart => exact ⟨0, [], List.replicate na 0, List.replicate (kn + 1) 0, [], none, 0, rfl, by omega, rfl, RI.start key states na, by simp, HRF5.out, HMP4.out, HB4.out⟩
        case round =>
          obtain ⟨j, first', nxt, kv, W, a7, c7, rfl, hj, rfl, hri, hkv, hrf, hmp, hb⟩ := hrel
          have HRI := Lib.hid hri
          have HKV := Lib.hid hkv
          have HRFR := Lib.hid hrf
          have HMPR := Lib.hid hmp
          have HBR := Lib.hid hb
          have hx2 := below_cell hb HBOX.out.1
          by_cases hlt : j < sn
          · obtain ⟨q, hq⟩ : ∃ q, states[j]? = some q := ⟨_, List.getElem?_eq_getElem (by rw [HSL.out]; exact hlt)⟩
            have hqs := List.mem_of_getElem? hq
            have hqn : q < na := by rw [← HNN.out]; exact HRC.out.lt q hqs
            obtain ⟨sb, so, rfl, hcs⟩ := (HSTS.out wr hb).cell j (.int .i64 (q : Int)) (by simp [iv, hq])
            have HQ := Lib.hid (And.intro hq (And.intro hqs hqn))
            have hqi : (q : Int) < (na : Int) := by omega
            have hlti : (j : Int) < (sn : Int) := by omega
            have hj9 : (j : Int) ≤ 256 := by omega
            have hq9 : (q : Int) ≤ 256 := by omega
            have HLT := Lib.hid hlt
            obtain ⟨x, hx⟩ : ∃ x, x = b.getD q 0 := ⟨_, rfl⟩
            have hx256 : x < 256 := by rw [hx]; exact HKBD.out q hqs
            have hcb := hrf.cell (i := 0) rfl (show (iv b)[q]? = some (.int .i64 (x : Int)) by
              have hqb : q < b.length := by rw [HBL2.out]; exact hqn
              rw [List.getElem?_map, List.getElem?_eq_getElem hqb, hx]
              simp [List.getD, List.getElem?_eq_getElem hqb])
            have HX := Lib.hid (And.intro hx hx256)
            have hwrap : IntKind.u8.wrap (x : Int) = (x : Int) := IntWalk.u8_in _ (by omega)
            generalize hfl' : first'.length = fl' at *
            have HFL' := Lib.hid hfl'
            clear hq hqs hqn hlt hx hx256 hri hkv hrf hmp hb hj hfl'
            go_wp2_with (refine guard_op (.store 5 (.tmp 62) (.tmp 61)) rfl ?_; refine RF.store HRFR.out (i := 3) rfl rfl 5 (.tmp 62) (.tmp 61) rfl 0 rfl (.int .u8 (x : Int)) rfl rfl rfl (by kernel_rfl) (by rw [List.length_map, HKV.out]; omega) ?_; intro w7 hrf7 hg7 hbl7 hfr7; have HRF7 := Lib.hid hrf7; have HB7 := Lib.hid (HBR.out.trans (hbl7.mono (Nat.le_of_eq HG.out.symm))); have HMP7 := Lib.hid (HMPR.out.fr hfr7 (fun h => h rfl)); clear hrf7 hg7 hbl7 hfr7)
            have HKQ : Hid (∃ tl, key q = x :: tl ∧ tl = classes.map (fun c => b.getD (nxN next q c) 0)) := Lib.hid (by rw [HKEY.out]; exact ⟨_, by unfold pkey; rw [HX.out.1], rfl⟩)
            have HRF8 : Hid (RF g (fun x => x = bm) w7 [some (3, .slice (some ⟨g6, 0, none⟩) na na, iv b), some (3, .slice fa fl fc, iv first), some (3, .slice (some ⟨gn, 0, none⟩) na na, iv nxt), some (5, .slice (some ⟨gk, 0, none⟩) (kn + 1) (kn + 1), u8v (kv.set 0 x)), some (3, .slice a7 fl' c7, iv first')]) := Lib.hid (by
              have h := HRF7.out
              rw [show u8v (kv.set 0 x) = (u8v kv).set 0 (.int .u8 (x : Int)) by simp [u8v, List.map_set]]
              rw [← HFL'.out] at h ⊢
              exact h)
            clear hx2 hcb hwrap hcs
            obtain ⟨wo2, hwo2⟩ : ∃ wo2 : World, wo2 = wr := ⟨_, rfl⟩
            subst hwo2
            go_loopw [65] (fun kv3 wr => ∃ (k : Nat) (kv2 : List Nat), kv3 = .int .i64 k ∧ k ≤ kn ∧ kv2.length = kn + 1 ∧ kv2.take (k + 1) = (key q).take (k + 1) ∧ RF g (fun x => x = bm) wr [some (3, .slice (some ⟨g6, 0, none⟩) na na, iv b), some (3, .slice fa fl fc, iv first), some (3, .slice (some ⟨gn, 0, none⟩) na na, iv nxt), some (5, .slice (some ⟨gk, 0, none⟩) (kn + 1) (kn + 1), u8v kv2), some (3, .slice a7 fl' c7, iv first')] ∧ MP wr bm W ∧ Below w1.heap.size w1 wr) (fun kv3 _ => kn - (intOf kv3).toNat)
            case atStart => exact ⟨0, kv.set 0 x, rfl, by omega, by rw [List.length_set]; exact HKV.out, by
              obtain ⟨tl, h1, _⟩ := HKQ.out
              rw [h1, take_set_snoc (by rw [HKV.out]; omega)]; rfl, HRF8.out, HMP7.out, HB7.out⟩
            case round =>
              obtain ⟨k, kv2, rfl, hk, hkl2, hkt, hrf, hmp, hb⟩ := hrel
              have HK2 := Lib.hid (And.intro hkl2 hkt)
              have HRFK := Lib.hid hrf
              have HMPK := Lib.hid hmp
              have HBK := Lib.hid hb
              have hx2 := below_cell hb HBOX.out.1
              by_cases hkn : k < kn
              · obtain ⟨cc2, hcc⟩ : ∃ cc2, classes[k]? = some cc2 := ⟨_, List.getElem?_eq_getElem (by rw [HKL.out]; exact hkn)⟩
                have hcn := HCL.out cc2 (List.mem_of_getElem? hcc)
                obtain ⟨kb, ko, rfl, hck⟩ := (HCLS.out wr hb).cell k (.int .i64 (cc2 : Int)) (by simp [iv, hcc])
                obtain ⟨bb, boff, b2, off2, ci, rfl, hr1, hr2⟩ := row_cell (HROWS.out wr hb) HV.out HQ.out.2.2 hcn
                have hpn := (nxN_val HV.out (q := q) (c := cc2) (by rw [HNN.out]; exact HQ.out.2.2) hcn).2.1
                rw [HNN.out] at hpn
                obtain ⟨p, hp⟩ : ∃ p, p = nxN next q cc2 := ⟨_, rfl⟩
                have hps : p ∈ states := by
                  rw [hp]
                  exact HRC.out.cl j q HLT.out HQ.out.1 cc2 (List.mem_of_getElem? hcc)
                obtain ⟨y, hy⟩ : ∃ y, y = b.getD p 0 := ⟨_, rfl⟩
                have hy256 : y < 256 := by rw [hy]; exact HKBD.out p hps
                have HKN1 : Hid ((key q)[k + 1]? = some y) := Lib.hid (by
                  obtain ⟨tl, h1, h2⟩ := HKQ.out
                  rw [h1, h2, List.getElem?_cons_succ, List.getElem?_map, hcc, hy, hp]; rfl)
                rw [← hp] at hr2 hpn
                rw [← HC.out] at hcn hr1
                have hcp := hrf.cell (i := 0) rfl (show (iv b)[p]? = some (.int .i64 (y : Int)) by
                  have hpb : p < b.length := by rw [HBL2.out]; exact hpn
                  rw [List.getElem?_map, List.getElem?_eq_getElem hpb, hy]
                  simp [List.getD, List.getElem?_eq_getElem hpb])
                have hwrap : IntKind.u8.wrap (y : Int) = (y : Int) := IntWalk.u8_in _ (by omega)
                have hpi : (p : Int) < (na : Int) := by omega
                have hci : (cc2 : Int) < (C : Int) := by omega
                have hkni : (k : Int) < (kn : Int) := by omega
                have hk9 : (k : Int) ≤ 256 := by omega
                have hp9 : (p : Int) ≤ 256 := by omega
                have hkk : (k : Int) + 1 < (kn : Int) + 1 := by omega
                have HKNL := Lib.hid hkn
                clear hcc hpn hp hps hy hy256 hkl2 hkt hrf hmp hb hk hkn hcn
                go_wp2_with (refine guard_op (.store 5 (.tmp 85) (.tmp 84)) rfl ?_; refine RF.store HRFK.out (i := 3) rfl rfl 5 (.tmp 85) (.tmp 84) rfl (k + 1) rfl (.int .u8 (y : Int)) rfl rfl rfl (by kernel_rfl) (by rw [List.length_map, HK2.out.1]; have := HKNL.out; omega) ?_; intro w9 hrf9 hg9 hbl9 hfr9; have HRF9 := Lib.hid hrf9; have HB9 := Lib.hid (HBK.out.trans (hbl9.mono (Nat.le_of_eq HG.out.symm))); have HMP9 := Lib.hid (HMPK.out.fr hfr9 (fun h => h rfl)); clear hrf9 hg9 hbl9 hfr9)
                go_roundw
                case rel => exact ⟨k + 1, kv2.set (k + 1) y, by go_num, HKNL.out, by rw [List.length_set]; exact HK2.out.1, by
                  rw [take_set_snoc (by rw [HK2.out.1]; have := HKNL.out; omega), HK2.out.2, take_snoc HKN1.out], by
                  have h := HRF9.out
                  rw [show u8v (kv2.set (k + 1) y) = (u8v kv2).set (k + 1) (.int .u8 (y : Int)) by simp [u8v, List.map_set]]
                  exact h, HMP9.out, HB9.out⟩
                case measure => have := HKNL.out; simp [intOf]; omega
              · obtain rfl : kn = k := by omega
                have HKK : Hid (kv2 = key q) := Lib.hid (by
                  have h := hkt
                  rw [List.take_of_length_le (by omega), List.take_of_length_le (by rw [(HKY.out q HQ.out.2.1).2]; exact Nat.le_refl _)] at h
                  exact h)
                have HKYQ := Lib.hid (HKY.out q HQ.out.2.1).1
                rw [HKK.out] at HRFK
                have hcv := run_convert_bytes_arg (P := Try.prog) wr 28 5 Try.underlying28 Try.underlying5 gk 0 (kn + 1) (kn + 1) (nints (key q)) (by simp [(HKY.out q HQ.out.2.1).2]) (fun i hi => by
                  rw [Nat.zero_add]
                  have hil : i < (key q).length := by rw [(HKY.out q HQ.out.2.1).2]; exact hi
                  refine HRFK.out.cell (i := 3) rfl (show (u8v (key q))[i]? = some (.int .u8 ((nints (key q)).getD i 0)) from ?_)
                  rw [List.getElem?_map, List.getElem?_eq_getElem hil]
                  simp [List.getD, List.getElem?_map, List.getElem?_eq_getElem hil]) 9 Try.underlying9
                rw [show strOfNums (nints (key q)) = kstr (key q) from rfl] at hcv
                by_cases hmem : key q ∈ W
                · have HM := Lib.hid hmem
                  clear hmem hkl2 hkt hrf hmp hb hk hkn
                  go_wp2_with (first
                    | (at_lookup; refine look_hit rfl _ _ rfl HMPK.out rfl (key q) HKYQ.out rfl HM.out ?_)
                    | (refine guard_op (.store 3 (.tmp 109) (.tmp 108)) rfl ?_; refine RF.store HRFK.out (i := 2) rfl rfl 3 (.tmp 109) (.tmp 108) rfl q rfl (.int .i64 (ix W (key q) : Nat)) rfl rfl rfl (by kernel_rfl) (by rw [List.length_map, HRI.out.nl]; exact HQ.out.2.2) ?_; intro w9 hrf9 hg9 hbl9 hfr9; have HRF9 := Lib.hid hrf9; have HB9 := Lib.hid (HBK.out.trans (hbl9.mono (Nat.le_of_eq HG.out.symm))); have HMP9 := Lib.hid (HMPK.out.fr hfr9 (fun h => h rfl)); clear hrf9 hg9 hbl9 hfr9))
                  go_roundw
                  case rel => exact ⟨j + 1, first', nxt.set q (ix W (key q)), key q, W, a7, c7, by go_num, HLT.out, by rw [HFL'.out], HRI.out.hit HQ.out.1 HQ.out.2.2 HM.out, (HKY.out q HQ.out.2.1).2, by
                    have h := HRF9.out
                    rw [show iv (nxt.set q (ix W (key q))) = (iv nxt).set q (.int .i64 (ix W (key q) : Nat)) by simp [iv, List.map_set], HFL'.out]
                    exact h, HMP9.out, HB9.out⟩
                  case measure => have := HLT.out; simp [intOf]; omega
                · have HM := Lib.hid hmem
                  have HWL : Hid (W.length = fl') := Lib.hid (by rw [← HRI.out.map, List.length_map, HFL'.out])
                  have HFL9 : Hid (fl' ≤ 256) := Lib.hid (by
                    have h := HRI.out.w
                    have h2 := dd_len ((states.take j).map key)
                    rw [← h, List.length_map, List.length_take] at h2
                    have := HWL.out; have := HLT.out; have := HSN.out; have := HN9.out; omega)
                  have hfl9 : (fl' : Int) ≤ 256 := by have := HFL9.out; omega
                  clear hmem hkl2 hkt hrf hmp hb hk hkn
                  go_wp2_with (first
                    | (at_lookup; refine look_miss rfl _ _ rfl HMPK.out rfl (key q) HKYQ.out rfl HM.out ?_)
                    | (at_mapUpdate; refine upd_key rfl _ _ _ rfl HMPK.out rfl (key q) HKYQ.out rfl (by rw [HWL.out]; rfl) (by have := HWL.out; have := HFL9.out; omega) HM.out ?_; intro w8 hmp8 hg8; have HMP8 := Lib.hid hmp8; have HRF8' := Lib.hid (HRFK.out.cells (Fr.of_grown hg8 (fun k hk => by cases hk; rfl))); have HB8 := Lib.hid (HBK.out.grown hg8 HBK.out.size (fun k hk => by cases hk; exact HBMB.out)); clear hmp8 hg8)
                    | (at_builtin; refine RF.append HRF8'.out (i := 4) rfl fl' (by rw [List.length_map, HFL'.out]) (below_alloc w8 _) (.tmp 102) (.tmp 104) EIG rfl rfl rfl _ 1 _ [.int .i64 (q : Int)] rfl (RdG.lits w8 1 3 1 [.int .i64 (q : Int)] rfl) (by simp [Value.oneCell']) (by have := HFL9.out; omega) (by decide) ?_; intro a8 c8 w9 hrf9 hg9 hbl9 hfr9; have HRF9 := Lib.hid hrf9; have HB9 := Lib.hid (HB8.out.trans (hbl9.mono (Nat.le_of_eq HG.out.symm))); have HMP9 := Lib.hid (HMP8.out.fr hfr9 (fun h => h rfl)); clear hrf9 hg9 hbl9 hfr9)
                    | (refine guard_op (.store 3 (.tmp 109) (.tmp 108)) rfl ?_; refine RF.store HRF9.out (i := 2) rfl rfl 3 (.tmp 109) (.tmp 108) rfl q rfl (.int .i64 (fl' : Nat)) rfl rfl rfl (by kernel_rfl) (by rw [List.length_map, HRI.out.nl]; exact HQ.out.2.2) ?_; intro w10 hrf10 hg10 hbl10 hfr10; have HRF10 := Lib.hid hrf10; have HB10 := Lib.hid (HB9.out.trans (hbl10.mono (Nat.le_of_eq HG.out.symm))); have HMP10 := Lib.hid (HMP9.out.fr hfr10 (fun h => h rfl)); clear hrf10 hg10 hbl10 hfr10))
                  go_roundw
                  case rel => exact ⟨j + 1, first' ++ [q], nxt.set q W.length, key q, W ++ [key q], a8, c8, by go_num, HLT.out, by simp [HFL'.out], HRI.out.new HQ.out.1 HQ.out.2.2 HM.out, (HKY.out q HQ.out.2.1).2, by
                    have h := HRF10.out
                    rw [show iv (nxt.set q W.length) = (iv nxt).set q (.int .i64 (fl' : Nat)) by simp [iv, List.map_set, HWL.out], iv_snoc, List.length_append, HFL'.out]
                    exact h, HMP10.out, HB10.out⟩
                  case measure => have := HLT.out; simp [intOf]; omega
          · obtain rfl : sn = j := by omega
            have HPR : Hid (Part (fun q => acc.getD q false) states (fun q => nxt.getD q 0) first' ∧ first.length ≤ first'.length ∧ (first'.length = first.length → first ≠ [] → Stable (nxN next) classes states (fun q => nxt.getD q 0))) := Lib.hid (by
              have htk : states.take sn = states := List.take_of_length_le (by rw [HSL.out]; exact Nat.le_refl _)
              have hw := hri.w
              have hmap := hri.map
              have hval := hri.val
              rw [htk] at hw hval
              rw [HKEY.out] at hw hmap hval
              refine part_round HPT.out (fun q hq c hc => ?_) (by rw [hmap, hw]) hri.sub (fun q hq => by rw [hval q hq, hw])
              obtain ⟨i, hi, e⟩ := List.getElem_of_mem hq
              exact HRC.out.cl i q (by rw [← HSL.out]; exact hi) (by rw [List.getElem?_eq_getElem hi, e]) c hc)
            have HNE : Hid (0 < first'.length) := Lib.hid (by
              have h := hri.map
              rw [hri.w, List.take_of_length_le (by rw [HSL.out]; exact Nat.le_refl _)] at h
              have hm : key st ∈ first'.map key := by rw [h, dd_mem]; exact List.mem_map.2 ⟨st, HRC.out.st, rfl⟩
              have := List.length_pos_of_mem hm
              simpa using this)
            have HNXL := Lib.hid hri.nl
            have HLE : Hid (first'.length ≤ 256) := Lib.hid (by have := HPR.out.1.len; rw [HSL.out] at this; have := HSN.out; have := HN9.out; omega)
            have HROWN := Lib.hid (hrf.own 2 _ _ _ rfl)
            have HROWF := Lib.hid (hrf.own 4 _ _ _ rfl)
            generalize hfl' : first'.length = fl' at *
            have HFL' := Lib.hid hfl'
            by_cases hfe : fl' = fl
            · subst hfe
              have HSTB : Hid (Stable (nxN next) classes states (fun q => nxt.getD q 0)) := Lib.hid (HPR.out.2.2 HFL.out.symm (fun e => by rw [e] at HFL; have := HFL.out; have := HNE.out; simp at *; omega))
              clear hfl' hri hkv hrf hmp hb hj hlt
              go_wp2
              go_ret2
              have hs := HB1.out.size
              refine ⟨nxt, first', some ⟨gn, 0, none⟩, na, a7, c7, by rw [HFL'.out]; rfl, HNXL.out, (fun e => by have h := HNE.out; rw [← HFL'.out, e] at h; simp at h), HPR.out.1, HSTB.out, ?_, ?_, bthen HB1.out HBR.out⟩
              · have h := HROWN.out
                rw [List.length_map, HNXL.out] at h
                exact h.mono (by rw [HG.out]; exact hs)
              · have h := HROWF.out
                rw [List.length_map, HFL'.out] at h
                rw [HFL'.out]
                exact h.mono (by rw [HG.out]; exact hs)
            · have hfei : ((fl' : Int) == (fl : Int)) = false := beq_eq_false_iff_ne.2 (by omega)
              have HFE := Lib.hid hfe
              have HRF9 : Hid (RF g (fun _ => False) wr [some (3, .slice (some ⟨gn, 0, none⟩) na na, iv nxt), some (3, .slice a7 fl' c7, iv first')]) := Lib.hid ((hrf.weak (N' := fun _ => False) (fun b h => h.elim)).sub pick24 pick24_inj (fun j x h => by
                rcases j with _ | _ | j
                · exact h
                · exact h
                · simp at h))
              clear hfl' hri hkv hrf hmp hb hj hlt hfe
              go_wp2
              go_roundw
              case rel => exact ⟨nxt, first', gn, a7, c7, rfl, by rw [HFL'.out], HNXL.out, HPR.out.1, by rw [HFL'.out]; exact HRF9.out, HBR.out⟩
              case measure =>
                have h1 := HPR.out.2.1
                have := HFL.out; have := HFL'.out; have := HFE.out; have := HLE.out
                show 257 - fl' < 257 - fl
                omega

end Go.Proofs.Ytajajkganamfiaa
