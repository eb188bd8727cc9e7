/-
  literal.Of: its three ways; the walk.
-/
import Derived.Test.YtfhoaehoccfadaaLMach
import Derived.Test.YtfhoaehoccfadaaSmall
import Derived.Laws.Tables
namespace Go.Proofs.Ytfhoaehoccfadaa
open Go.RowKit Go.Maps
set_option linter.unusedVariables false
set_option linter.unusedSimpArgs false

/-- the error of patterns -/
def ocode (ps : List (List Int)) : Int := if ps = [] ∨ [] ∈ ps then 4 else if 256 < (trieOf ps).length then 9 else 0

/-- what Of hands back -/
def OfPost (ps : List (List Int)) (w : World) (e : Ending) (w' : World) : Prop :=
  Below w.heap.size w w' ∧ ((ocode ps ≠ 0 ∧ e = .returned (.tuple #[.agg #[.int .i64 0, .slice none 0 0, .slice none 0 0, .slice none 0 0], .slice none 0 0, errV (ocode ps)])) ∨
    (ocode ps = 0 ∧ ∃ ac an cn aa ca ah ch, e = .returned (.tuple #[.agg #[.int .i64 0, .slice ac 256 256, .slice an (prefs ps).length cn, .slice aa (prefs ps).length ca], .slice ah (prefs ps).length ch, .nilIface]) ∧
      RdM w' ac 256 an (prefs ps).length aa (prefs ps).length (litC ps) (litN ps) (litA ps) ∧ Rd w' .i64 ah (prefs ps).length (litH ps)))

def zeroM : List Value := [.int .i64 0, .slice none 0 0, .slice none 0 0, .slice none 0 0]
def trieCells (bm g : Nat) : Array Value := (.map (some bm) :: .slice (some ⟨g, 0, none⟩) 1 1 :: arrU (fun _ => false)).toArray
theorem build_trie (bm g : Nat) (w : World) : (Instr.build 61 #[(0, .map (some bm)), (1, .slice (some ⟨g, 0, none⟩) 1 1)]).run Try.prog w = .ok (.agg (trieCells bm g)) w := run_build w 61 _ _ (by kernel_rfl)

theorem wpList_build_trie {ops : Array Oper} {rest : List Oper} {o : Oper} {a : Act} {w : World} {Q : Exit → Act → World → Prop} (hg : o.guard = none) (x y : Operand) (hop : o.op = Op.build 61 #[(0, x), (1, y)]) (bm g : Nat) (hx : a.eval x = .map (some bm)) (hy : a.eval y = .slice (some ⟨g, 0, none⟩) 1 1)
    (h : wpList Try.prog ops Q rest (a.put o.dst (.agg (trieCells bm g))) w) : wpList Try.prog ops Q (o :: rest) a w := by
  have hb : (Try.prog.built 61 [(0, .map (some bm)), (1, .slice (some ⟨g, 0, none⟩) 1 1)]) = some (trieCells bm g) := by kernel_rfl
  refine wpList_build hg 61 _ hop ?_ ?_
  · simp only [List.map_toArray, List.map_cons, List.map_nil, hx, hy, hb]; rfl
  · simp only [List.map_toArray, List.map_cons, List.map_nil, hx, hy, hb]; exact h

theorem there_below {w w' : World} {b n : Nat} (h : w.there b 0 n) (hb : Below w.heap.size w w') (hlt : b < w.heap.size) : w'.there b 0 n := fun j hj => by
  obtain ⟨h1, h2⟩ := h j hj
  exact ⟨by rw [hb.cell (p := ⟨b, 0 + j, none⟩) hlt]; exact h1, by rw [hb.frozen (p := ⟨b, 0 + j, none⟩) hlt]; exact h2⟩

/-- the trie as it is laid -/
theorem trie_laid (w : World) : TM w.heap.size (((w.alloc (.map #[] 0)).alloc (.cells #[.int .i64 0] 3)).alloc (.cells (trieCells w.heap.size (w.heap.size + 1)) 61)) (w.heap.size + 2) w.heap.size (w.heap.size + 1) 1 [[]] (eqsL [] [[]]) (usedB []) := by
  have hs : ((w.alloc (.map #[] 0)).alloc (.cells #[.int .i64 0] 3)).heap.size = w.heap.size + 2 := by simp
  have hcell : ∀ j u, (trieCells w.heap.size (w.heap.size + 1))[j]? = some u → (((w.alloc (.map #[] 0)).alloc (.cells #[.int .i64 0] 3)).alloc (.cells (trieCells w.heap.size (w.heap.size + 1)) 61)).cell? ⟨w.heap.size + 2, j, none⟩ = some u := by
    intro j u hu
    simp only [World.cell?, heap_new_at hs.symm]
    exact hu
  refine ⟨hcell 0 _ (by unfold trieCells; simp), hcell 1 _ (by unfold trieCells; simp [eqsL]), fun b hb => hcell (2 + b) _ ?_, fun j => ?_, ?_, rfl, ⟨.map [], ?_, mapIs_start⟩, by omega, by omega, by omega, by omega, by omega⟩
  · rw [show 2 + b = b + 1 + 1 by omega]
    unfold trieCells
    rw [List.getElem?_toArray, List.getElem?_cons_succ, List.getElem?_cons_succ, arr_get _ hb]; rfl
  · simp only [World.frozen?, heap_new_at hs.symm]
    simp
  · have h := Own.lits (w.alloc (.map #[] 0)) .i64 3 [0] w.heap.size (by simp) (by simp)
    have hs1 : (w.alloc (.map #[] 0)).heap.size = w.heap.size + 1 := by simp
    rw [hs1] at h
    exact h.alloc _
  · have h := (((World.ownsMap_made w Try.prog 69 (plainElem (H := Unit) Try.prog 3)).alloc (.cells #[.int .i64 0] 3)).alloc (.cells (trieCells w.heap.size (w.heap.size + 1)) 61))
    exact h.mono (by simp)

theorem take_snoc_ps {ps : List (List Int)} {k : Nat} (hk : k < ps.length) : ps.take (k + 1) = ps.take k ++ [ps.getD k []] := getD_take_snoc hk

theorem range_store {w : World} {b : Nat} {vs : List Value} (h : w.there b 0 vs.length) : (w.setCells b 0 vs).rangeAt b 0 vs := World.rangeAt_setCells_same _ _ _ _ h

theorem results_of {fn : Func} {p u u2 : Tmp} (h : fn.results = #[.cell p 28, .tmp u, .tmp u2]) (tmps : Array Value) (w : World) (b : Nat) (cs : List Value) (hp : tmps.getD p undef = .pointer (some ⟨b, 0, none⟩)) (hr : w.rangeAt b 0 cs) (hl : cs.length = 4) :
    (results fn tmps).run Try.prog w = .ok (.tuple #[.agg cs.toArray, tmps.getD u undef, tmps.getD u2 undef]) w := by
  have hload := run_loadVar_mid (P := Try.prog) w b 0 28 cs _ hr Try.underlying28 rfl (by rw [hl]; exact mach_info)
  rw [results_cell_tmp2 h, hp]
  simp [asAddr, Result.andThen, hload]

theorem below_setCells {B : Nat} {a w : World} {b : Nat} (h : Below B a w) (hb : B ≤ b) (vs : List Value) (hB : B ≤ w.heap.size) : Below B a (w.setCells b 0 vs) :=
  h.trans ((fr_setCells vs 0 w).below (fun i hi => by rw [hi]; exact hb) hB)

set_option maxRecDepth 100000 in
set_option maxHeartbeats 8000000 in
theorem of_any (a : Option Addr) (n c : Nat) (ps : List (List Int)) (w : World) (hr : RdRows w .u8 a n ps) (hps : ps.length < 4294967296) :
    Calls Try.prog 12 #[.slice a n c] w (OfPost ps w) := by
  obtain ⟨w1, hw1⟩ : ∃ w1, w1 = w.alloc (.cells #[.int .i64 0, .slice none 0 0, .slice none 0 0, .slice none 0 0] 28) := ⟨_, rfl⟩
  have HB1 := Lib.hid (show Below w.heap.size w w1 by rw [hw1]; exact below_alloc _ _)
  have HR := Lib.hid (hr.below HB1.out)
  have HL := Lib.hid hr.len
  have HPS := Lib.hid hps
  have hmax := hr.max
  have HTH : Hid (w1.there w.heap.size 0 4) := Lib.hid (by
    intro j hj
    rw [hw1]
    rcases j with _ | _ | _ | _ | j
    · simp
    · simp
    · simp
    · simp
    · omega)
  have HW1 := Lib.hid hw1
  have HS1 : Hid (w1.heap.size = w.heap.size + 1) := Lib.hid (by rw [hw1]; simp)
  have hth1 := HTH.out
  by_cases hn0 : n = 0
  · have HC : Hid (ocode ps = 4) := Lib.hid (by
      have : ps = [] := List.eq_nil_of_length_eq_zero (by rw [HL.out]; exact hn0)
      unfold ocode; rw [if_pos (.inl this)])
    subst hn0
    clear hr hps hw1
    go_enter Try.func12, Try.ntmps12
    go_wp2_with (rw [← HW1.out]; refine wpList_store_mid rfl 28 _ _ rfl w.heap.size 0 #[.int .i64 0, .slice none 0 0, .slice none 0 0, .slice none 0 0] rfl rfl hth1 mach_info (by simp [Value.oneCell']) ?_)
    (try simp only [Exit.inBlock, Exit.then])
    refine bodyPost_ret (results_of rfl _ _ _ zeroM rfl (range_store HTH.out) rfl) rfl ?_
    refine ⟨below_setCells HB1.out (Nat.le_refl _) _ HB1.out.size, .inl ⟨by rw [HC.out]; decide, ?_⟩⟩
    rw [HC.out]; rfl
  · have hn1 : ((n : Int) == 0) = false := by simp; omega
    have HNE : Hid (ps ≠ []) := Lib.hid (by intro e; rw [e] at HL; exact hn0 HL.out.symm)
    clear hr hps hw1 hth1
    go_enter Try.func12, Try.ntmps12
    go_wp2
    rw [← HW1.out]
    go_loopg [19] n (fun gg iv wr => ∃ k : Nat, k ≤ n ∧ gg = n - k ∧ iv = .int .i64 k ∧ w1 = wr ∧ ∀ i, i < k → ps.getD i [] ≠ [])
    case atStart => exact ⟨0, by omega, rfl, rfl, rfl, fun i hi => by omega⟩
    case round =>
      obtain ⟨k, hk, rfl, rfl, hwr, hne⟩ := hrel
      subst hwr
      have HNS := Lib.hid hne
      clear hne
      by_cases hlt : k < n
      · obtain ⟨b1, o1, ai, ni, ci, rfl, hcell, hri, hnc⟩ := HR.out.cell k hlt
        have HLI := Lib.hid hri.len
        have hkn : (k : Int) < (n : Int) := by omega
        clear hri
        by_cases hni : ni = 0
        · have HC : Hid (ocode ps = 4) := Lib.hid (by
            have h0 : ps.getD k [] = [] := List.eq_nil_of_length_eq_zero (by rw [HLI.out]; exact hni)
            unfold ocode; rw [if_pos (.inr (by rw [← h0]; exact getD_mem' (by rw [HL.out]; exact hlt)))])
          have hth1 := HTH.out
          subst hni
          go_wp2_with (refine wpList_store_mid rfl 28 _ _ rfl w.heap.size 0 #[.int .i64 0, .slice none 0 0, .slice none 0 0, .slice none 0 0] rfl rfl hth1 mach_info (by simp [Value.oneCell']) ?_)
          (try simp only [Exit.inBlock, Exit.then])
          refine bodyPost_ret (results_of rfl _ _ _ zeroM rfl (range_store HTH.out) rfl) rfl ?_
          refine ⟨below_setCells HB1.out (Nat.le_refl _) _ HB1.out.size, .inl ⟨by rw [HC.out]; decide, ?_⟩⟩
          rw [HC.out]; rfl
        · have hni1 : ((ni : Int) == 0) = false := by simp; omega
          go_wp2
          go_roundg (n - (k + 1))
          case measure => omega
          case rel =>
            refine ⟨k + 1, by omega, rfl, by go_num, rfl, fun i hi => ?_⟩
            by_cases e : i < k
            · exact HNS.out i e
            · obtain rfl : i = k := by omega
              intro h0
              have := HLI.out
              rw [h0] at this
              exact hni this.symm
      · have HNN : Hid ([] ∉ ps) := Lib.hid (by
          intro hm
          obtain ⟨q1, q2⟩ := mem_getD (d := []) hm
          exact HNS.out _ (by rw [HL.out] at q1; omega) q2)
        have hkn : k = n := by omega
        subst hkn
        have hmm := @run_makeMap Try.prog
        clear HNS
        go_wp2_with (refine wpList_build_trie rfl (.tmp 29) (.tmp 30) rfl _ _ rfl rfl ?_)
        obtain ⟨w2, hw2⟩ : ∃ w2, w2 = (((w1.alloc (.map #[] 0)).alloc (.cells #[.int .i64 0] 3)).alloc (.cells (trieCells w1.heap.size (w1.heap.size + 1)) 61)) := ⟨_, rfl⟩
        have HT2 : Hid (TM w1.heap.size w2 (w1.heap.size + 2) w1.heap.size (w1.heap.size + 1) 1 [[]] (eqsL [] [[]]) (usedB [])) := Lib.hid (by rw [hw2]; exact trie_laid w1)
        have HB2 : Hid (Below w1.heap.size w1 w2) := Lib.hid (by rw [hw2]; exact ((below_alloc w1 _).alloc (by simp) _).alloc (by simp; omega) _)
        rw [← hw2]
        obtain ⟨bt, hbt⟩ : ∃ bt, bt = w1.heap.size + 2 := ⟨_, rfl⟩
        rw [show w1.heap.size + 1 + 1 = w1.heap.size + 2 from rfl, ← hbt]
        rw [← hbt] at HT2
        clear hw2 hbt hmm
        go_loopg [35] k (fun gg iv wr => ∃ (m g c : Nat), m ≤ k ∧ gg = k - m ∧ iv = .int .i64 m ∧ TM w1.heap.size wr bt w1.heap.size g c (trieOf (ps.take m)) (eqsL (ps.take m) (trieOf (ps.take m))) (usedB (ps.take m)) ∧ (trieOf (ps.take m)).length ≤ 256 ∧ Below w1.heap.size w1 wr)
        case atStart => exact ⟨0, _, _, by omega, rfl, rfl, HT2.out, by simp [trieOf], HB2.out⟩
        case round =>
          obtain ⟨m, g, c, hm, rfl, rfl, htm, hlen, hbl⟩ := hrel
          have HTM := Lib.hid htm
          have HLEN := Lib.hid hlen
          have HBL := Lib.hid hbl
          clear htm hlen hbl HT2 HB2
          by_cases hlt : m < k
          · obtain ⟨b1, o1, ai, ni, ci, rfl, hcell, hri, hnc⟩ := (HR.out.below HBL.out).cell m hlt
            obtain ⟨_, _, ai2, ni2, ci2, hx, hcell2, hri2, _⟩ := HR.out.cell m hlt
            cases hx
            have hcc := below_cell HBL.out hcell2
            rw [hcc] at hcell
            obtain ⟨rfl, rfl, rfl⟩ : ai2 = ai ∧ ni2 = ni ∧ ci2 = ci := by simpa using hcell
            have HRI := Lib.hid hri2
            have hmk : (m : Int) < (k : Int) := by omega
            have HSN : Hid (trieOf (ps.take (m + 1)) = addP (ps.getD m []) (trieOf (ps.take m)) (ps.getD m []).length) := Lib.hid (by rw [take_snoc_ps (by rw [HL.out]; exact hlt), trie_snoc])
            have HSN2 := Lib.hid (take_snoc_ps (ps := ps) (k := m) (by rw [HL.out]; exact hlt))
            have hpl : (ps.take m).length < 4294967296 := by have := HPS.out; rw [List.length_take]; omega
            have HC := Lib.hid (add_any w1.heap.size bt w1.heap.size g c w1 wr (ps.take m) (trieOf (ps.take m)) (ps.getD m []) ai2 ni2 ci2 HTM.out (trie_tw _) HLEN.out hpl HRI.out HBL.out (Nat.le_refl _) HBL.out.size)
            clear hri hri2 hnc hpl hcell hcell2
            by_cases hle : (addP (ps.getD m []) (trieOf (ps.take m)) (ps.getD m []).length).length ≤ 256
            · have HLE := Lib.hid hle
              clear hle
              go_wp2_with fail
              refine HC.out.mono ?_
              rintro e w5 ⟨he, hb5, htm5⟩
              rw [decide_eq_true HLE.out] at he
              subst he
              obtain ⟨g5, c5, htm6⟩ := htm5 HLE.out
              have HT5 := Lib.hid htm6
              have HB5 := Lib.hid hb5
              clear htm6 htm5 hb5
              go_wp2
              go_roundg (k - (m + 1))
              case measure => omega
              case rel =>
                refine ⟨m + 1, g5, c5, by omega, rfl, by go_num, ?_, by rw [HSN.out]; exact HLE.out, HBL.out.trans HB5.out⟩
                have h := HT5.out
                rw [← HSN.out, ← HSN2.out] at h
                exact h
            · have HLE : Hid (decide ((addP (ps.getD m []) (trieOf (ps.take m)) (ps.getD m []).length).length ≤ 256) = false) := Lib.hid (by simpa using hle)
              have HC9 : Hid (ocode ps = 9) := Lib.hid (by
                unfold ocode
                rw [if_neg (by rintro (h | h); exact HNE.out h; exact HNN.out h), if_pos]
                have h1 := trie_mono (ps.take (m + 1)) (ps.drop (m + 1))
                rw [List.take_append_drop, HSN.out] at h1
                omega)
              clear hle
              go_wp2_with fail
              refine HC.out.mono ?_
              rintro e w5 ⟨he, hb5, _⟩
              rw [HLE.out] at he
              subst he
              have HB5 := Lib.hid (HBL.out.trans hb5)
              have HTH5 := Lib.hid (there_below HTH.out HB5.out (by rw [HS1.out]; omega))
              have hth5 := HTH5.out
              clear hb5
              go_wp2_with (refine wpList_store_mid rfl 28 _ _ rfl w.heap.size 0 #[.int .i64 0, .slice none 0 0, .slice none 0 0, .slice none 0 0] rfl rfl hth5 mach_info (by simp [Value.oneCell']) ?_)
              (try simp only [Exit.inBlock, Exit.then])
              refine bodyPost_ret (results_of rfl _ _ _ zeroM rfl (range_store HTH5.out) rfl) rfl ?_
              refine ⟨below_setCells (bthen HB1.out HB5.out) (Nat.le_refl _) _ (by have := HB5.out.size; have := HB1.out.size; omega), .inl ⟨by rw [HC9.out]; decide, ?_⟩⟩
              rw [HC9.out]; rfl
          · have hmk : m = k := by omega
            subst hmk
            have HTK : Hid (ps.take m = ps) := Lib.hid (List.take_of_length_le (by rw [HL.out]; omega))
            have htm := HTM.out
            have hlen := HLEN.out
            rw [HTK.out] at htm hlen
            have hby : Byt ps := by
              intro p hp b hb
              obtain ⟨q1, q2⟩ := mem_getD (d := []) hp
              obtain ⟨_, _, _, _, _, _, _, hri, _⟩ := HR.out.cell _ (by rw [HL.out] at q1; exact q1)
              rw [q2] at hri
              exact bd_u8 (hri.wf b hb)
            have HC := Lib.hid (mach_any w1.heap.size bt w1.heap.size g c wr ps (trieOf ps) htm (trie_tw ps) hlen HPS.out hby HBL.out.size)
            have HC0 : Hid (ocode ps = 0) := Lib.hid (by
              unfold ocode
              rw [if_neg (by rintro (h | h); exact HNE.out h; exact HNN.out h), if_neg (by omega)])
            clear htm hlen hby HLEN HTM
            go_wp2_with fail
            refine HC.out.mono ?_
            rintro e w5 ⟨ac, an, cn, aa, ca, ah, ch, rfl, hm5, hb5⟩
            have HM5 := Lib.hid hm5
            have HB5 := Lib.hid (HBL.out.trans hb5)
            have HTH5 := Lib.hid (there_below HTH.out HB5.out (by rw [HS1.out]; omega))
            clear hm5 hb5
            have hth5 : (w5.alloc (.cells #[.int .i64 0, .slice ac 256 256, .slice an (prefs ps).length cn, .slice aa (prefs ps).length ca] 28)).there w.heap.size 0 4 := there_below HTH5.out (below_alloc _ _) (by have := HB5.out.size; have := HS1.out; omega)
            have HTH6 := Lib.hid hth5
            go_wp2_with (refine wpList_store_mid rfl 28 _ _ rfl w.heap.size 0 #[.int .i64 0, .slice ac 256 256, .slice an (prefs ps).length cn, .slice aa (prefs ps).length ca] rfl rfl hth5 mach_info (by simp [Value.oneCell']) ?_)
            (try simp only [Exit.inBlock, Exit.then])
            refine bodyPost_ret (results_of rfl _ _ _ [.int .i64 0, .slice ac 256 256, .slice an (prefs ps).length cn, .slice aa (prefs ps).length ca] rfl (range_store HTH6.out) rfl) rfl ?_
            have hfr := fr_setCells (b := w.heap.size) [.int .i64 0, .slice ac 256 256, .slice an (prefs ps).length cn, .slice aa (prefs ps).length ca] 0 (w5.alloc (.cells #[.int .i64 0, .slice ac 256 256, .slice an (prefs ps).length cn, .slice aa (prefs ps).length ca] 28))
            have hbl6 : Below w.heap.size w (w5.alloc (.cells #[.int .i64 0, .slice ac 256 256, .slice an (prefs ps).length cn, .slice aa (prefs ps).length ca] 28)) := (bthen HB1.out HB5.out).alloc (by have := HB5.out.size; have := HB1.out.size; omega) _
            have hfin := HM5.out _ (((Fr.refl _ _).alloc _).trans (hfr.mono (T := fun i => i < w1.heap.size) fun i hi => by rw [hi, HS1.out]; omega))
            exact ⟨hbl6.trans (hfr.below (fun i hi => by rw [hi]; exact Nat.le_refl _) hbl6.size), .inr ⟨HC0.out, ac, an, cn, aa, ca, ah, ch, rfl, hfin.1, hfin.2⟩⟩

end Go.Proofs.Ytfhoaehoccfadaa
