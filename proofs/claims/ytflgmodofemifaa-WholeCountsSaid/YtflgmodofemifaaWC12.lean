/-
  Joined texts: literal.Of: its three ways; the walk. · PLAIN LAW: the literal machine of at most four patterns, with its hits, is a machine as the table wants it. · machine.Check; the literal machine is valid. · transfer.entry of whatever rule.
-/
import Derived.Test.YtflgmodofemifaaWC11
import Derived.Test.YtflgmodofemifaaWC1
import Derived.Laws.Tables
import Derived.Test.YtflgmodofemifaaWC4
import Derived.Deep.RegionHeld3
import Derived.Test.YtflgmodofemifaaWC9
import Derived.Test.YtflgmodofemifaaWC10

/- literal.Of: its three ways; the walk. -/
namespace Go.Proofs.Ytflgmodofemifaa
open Go.RowKit Go.Maps
set_option linter.unusedVariables false
set_option linter.unusedSimpArgs false

/-- the error of patterns -/
def ocode (ps : List (List Int)) : Int := if ps = [] ∨ [] ∈ ps then 4 else if 256 < (trieOf ps).length then 9 else 0

/-- what Of hands back -/
def OfPost (ps : List (List Int)) (w : World) (e : Ending) (w' : World) : Prop :=
  Below w.heap.size w w' ∧ ((ocode ps ≠ 0 ∧ e = .returned (.tuple #[.agg #[.int .i64 0, .slice none 0 0, .slice none 0 0, .slice none 0 0], .slice none 0 0, errV (ocode ps)])) ∨
    (ocode ps = 0 ∧ ∃ ac an cn aa ca ah ch, e = .returned (.tuple #[.agg #[.int .i64 0, .slice ac 256 256, .slice an (prefs ps).length cn, .slice aa (prefs ps).length ca], .slice ah (prefs ps).length ch, .nilIface]) ∧
      RdM w' ac 256 an (prefs ps).length aa (prefs ps).length (litC ps) (litN ps) (litA ps) ∧ Rd w' .i64 ah (prefs ps).length (litH ps)))

def zeroM : List Value := [.int .i64 0, .slice none 0 0, .slice none 0 0, .slice none 0 0]
def trieCells (bm g : Nat) : Array Value := (.map (some bm) :: .slice (some ⟨g, 0, none⟩) 1 1 :: arrU (fun _ => false)).toArray
theorem build_trie (bm g : Nat) (w : World) : (Instr.build 56 #[(0, .map (some bm)), (1, .slice (some ⟨g, 0, none⟩) 1 1)]).run Try.prog w = .ok (.agg (trieCells bm g)) w := run_build w 56 _ _ (by kernel_rfl)

theorem wpList_build_trie {ops : Array Oper} {rest : List Oper} {o : Oper} {a : Act} {w : World} {Q : Exit → Act → World → Prop} (hg : o.guard = none) (x y : Operand) (hop : o.op = Op.build 56 #[(0, x), (1, y)]) (bm g : Nat) (hx : a.eval x = .map (some bm)) (hy : a.eval y = .slice (some ⟨g, 0, none⟩) 1 1)
    (h : wpList Try.prog ops Q rest (a.put o.dst (.agg (trieCells bm g))) w) : wpList Try.prog ops Q (o :: rest) a w := by
  have hb : (Try.prog.built 56 [(0, .map (some bm)), (1, .slice (some ⟨g, 0, none⟩) 1 1)]) = some (trieCells bm g) := by kernel_rfl
  refine wpList_build hg 56 _ hop ?_ ?_
  · simp only [List.map_toArray, List.map_cons, List.map_nil, hx, hy, hb]; rfl
  · simp only [List.map_toArray, List.map_cons, List.map_nil, hx, hy, hb]; exact h

theorem there_below {w w' : World} {b n : Nat} (h : w.there b 0 n) (hb : Below w.heap.size w w') (hlt : b < w.heap.size) : w'.there b 0 n := fun j hj => by
  obtain ⟨h1, h2⟩ := h j hj
  exact ⟨by rw [hb.cell (p := ⟨b, 0 + j, none⟩) hlt]; exact h1, by rw [hb.frozen (p := ⟨b, 0 + j, none⟩) hlt]; exact h2⟩

/-- the trie as it is laid -/
theorem trie_laid (w : World) : TM w.heap.size (((w.alloc (.map #[] 0)).alloc (.cells #[.int .i64 0] 3)).alloc (.cells (trieCells w.heap.size (w.heap.size + 1)) 56)) (w.heap.size + 2) w.heap.size (w.heap.size + 1) 1 [[]] (eqsL [] [[]]) (usedB []) := by
  have hs : ((w.alloc (.map #[] 0)).alloc (.cells #[.int .i64 0] 3)).heap.size = w.heap.size + 2 := by simp
  have hcell : ∀ j u, (trieCells w.heap.size (w.heap.size + 1))[j]? = some u → (((w.alloc (.map #[] 0)).alloc (.cells #[.int .i64 0] 3)).alloc (.cells (trieCells w.heap.size (w.heap.size + 1)) 56)).cell? ⟨w.heap.size + 2, j, none⟩ = some u := by
    intro j u hu
    simp only [World.cell?, heap_new_at hs.symm]
    exact hu
  refine ⟨hcell 0 _ (by unfold trieCells; simp), hcell 1 _ (by unfold trieCells; simp [eqsL]), fun b hb => hcell (2 + b) _ ?_, fun j => ?_, ?_, rfl, ⟨.map [], ?_, mapIs_start⟩, by omega, by omega, by omega, by omega, by omega⟩
  · rw [show 2 + b = b + 1 + 1 by omega]
    unfold trieCells
    rw [List.getElem?_toArray, List.getElem?_cons_succ, List.getElem?_cons_succ, arr_get _ hb]; rfl
  · simp only [World.frozen?, heap_new_at hs.symm]
    simp
  · have h := Own.lits (w.alloc (.map #[] 0)) .i64 3 [0] w.heap.size (by simp) (by simp)
    have hs1 : (w.alloc (.map #[] 0)).heap.size = w.heap.size + 1 := by simp
    rw [hs1] at h
    exact h.alloc _
  · have h := (((World.ownsMap_made w Try.prog 103 (plainElem (H := Unit) Try.prog 3)).alloc (.cells #[.int .i64 0] 3)).alloc (.cells (trieCells w.heap.size (w.heap.size + 1)) 56))
    exact h.mono (by simp)

theorem take_snoc_ps {ps : List (List Int)} {k : Nat} (hk : k < ps.length) : ps.take (k + 1) = ps.take k ++ [ps.getD k []] := getD_take_snoc hk

theorem range_store {w : World} {b : Nat} {vs : List Value} (h : w.there b 0 vs.length) : (w.setCells b 0 vs).rangeAt b 0 vs := World.rangeAt_setCells_same _ _ _ _ h

theorem results_of {fn : Func} {p u u2 : Tmp} (h : fn.results = #[.cell p 32, .tmp u, .tmp u2]) (tmps : Array Value) (w : World) (b : Nat) (cs : List Value) (hp : tmps.getD p undef = .pointer (some ⟨b, 0, none⟩)) (hr : w.rangeAt b 0 cs) (hl : cs.length = 4) :
    (results fn tmps).run Try.prog w = .ok (.tuple #[.agg cs.toArray, tmps.getD u undef, tmps.getD u2 undef]) w := by
  have hload := run_loadVar_mid (P := Try.prog) w b 0 32 cs _ hr Try.underlying32 rfl (by rw [hl]; exact mach_info)
  rw [results_cell_tmp2 h, hp]
  simp [asAddr, Result.andThen, hload]

theorem below_setCells {B : Nat} {a w : World} {b : Nat} (h : Below B a w) (hb : B ≤ b) (vs : List Value) (hB : B ≤ w.heap.size) : Below B a (w.setCells b 0 vs) :=
  h.trans ((fr_setCells vs 0 w).below (fun i hi => by rw [hi]; exact hb) hB)

set_option maxRecDepth 100000 in
set_option maxHeartbeats 8000000 in
theorem of_any (a : Option Addr) (n c : Nat) (ps : List (List Int)) (w : World) (hr : RdRows w .u8 a n ps) (hps : ps.length < 4294967296) :
    Calls Try.prog 6 #[.slice a n c] w (OfPost ps w) := by
  obtain ⟨w1, hw1⟩ : ∃ w1, w1 = w.alloc (.cells #[.int .i64 0, .slice none 0 0, .slice none 0 0, .slice none 0 0] 32) := ⟨_, rfl⟩
  have HB1 := Lib.hid (show Below w.heap.size w w1 by rw [hw1]; exact below_alloc _ _)
  have HR := Lib.hid (hr.below HB1.out)
  have HL := Lib.hid hr.len
  have HPS := Lib.hid hps
  have hmax := hr.max
  have HTH : Hid (w1.there w.heap.size 0 4) := Lib.hid (by
    intro j hj
    rw [hw1]
    rcases j with _ | _ | _ | _ | j
    · simp
    · simp
    · simp
    · simp
    · omega)
  have HW1 := Lib.hid hw1
  have HS1 : Hid (w1.heap.size = w.heap.size + 1) := Lib.hid (by rw [hw1]; simp)
  have hth1 := HTH.out
  by_cases hn0 : n = 0
  · have HC : Hid (ocode ps = 4) := Lib.hid (by
      have : ps = [] := List.eq_nil_of_length_eq_zero (by rw [HL.out]; exact hn0)
      unfold ocode; rw [if_pos (.inl this)])
    subst hn0
    clear hr hps hw1
    go_enter Try.func6, Try.ntmps6
    go_wp2_with (rw [← HW1.out]; refine wpList_store_mid rfl 32 _ _ rfl w.heap.size 0 #[.int .i64 0, .slice none 0 0, .slice none 0 0, .slice none 0 0] rfl rfl hth1 mach_info (by simp [Value.oneCell']) ?_)
    (try simp only [Exit.inBlock, Exit.then])
    refine bodyPost_ret (results_of rfl _ _ _ zeroM rfl (range_store HTH.out) rfl) rfl ?_
    refine ⟨below_setCells HB1.out (Nat.le_refl _) _ HB1.out.size, .inl ⟨by rw [HC.out]; decide, ?_⟩⟩
    rw [HC.out]; rfl
  · have hn1 : ((n : Int) == 0) = false := by simp; omega
    have HNE : Hid (ps ≠ []) := Lib.hid (by intro e; rw [e] at HL; exact hn0 HL.out.symm)
    clear hr hps hw1 hth1
    go_enter Try.func6, Try.ntmps6
    go_wp2
    rw [← HW1.out]
    go_loopg [19] n (fun gg iv wr => ∃ k : Nat, k ≤ n ∧ gg = n - k ∧ iv = .int .i64 k ∧ w1 = wr ∧ ∀ i, i < k → ps.getD i [] ≠ [])
    case atStart => exact ⟨0, by omega, rfl, rfl, rfl, fun i hi => by omega⟩
    case round =>
      obtain ⟨k, hk, rfl, rfl, hwr, hne⟩ := hrel
      subst hwr
      have HNS := Lib.hid hne
      clear hne
      by_cases hlt : k < n
      · obtain ⟨b1, o1, ai, ni, ci, rfl, hcell, hri, hnc⟩ := HR.out.cell k hlt
        have HLI := Lib.hid hri.len
        have hkn : (k : Int) < (n : Int) := by omega
        clear hri
        by_cases hni : ni = 0
        · have HC : Hid (ocode ps = 4) := Lib.hid (by
            have h0 : ps.getD k [] = [] := List.eq_nil_of_length_eq_zero (by rw [HLI.out]; exact hni)
            unfold ocode; rw [if_pos (.inr (by rw [← h0]; exact getD_mem' (by rw [HL.out]; exact hlt)))])
          have hth1 := HTH.out
          subst hni
          go_wp2_with (refine wpList_store_mid rfl 32 _ _ rfl w.heap.size 0 #[.int .i64 0, .slice none 0 0, .slice none 0 0, .slice none 0 0] rfl rfl hth1 mach_info (by simp [Value.oneCell']) ?_)
          (try simp only [Exit.inBlock, Exit.then])
          refine bodyPost_ret (results_of rfl _ _ _ zeroM rfl (range_store HTH.out) rfl) rfl ?_
          refine ⟨below_setCells HB1.out (Nat.le_refl _) _ HB1.out.size, .inl ⟨by rw [HC.out]; decide, ?_⟩⟩
          rw [HC.out]; rfl
        · have hni1 : ((ni : Int) == 0) = false := by simp; omega
          go_wp2
          go_roundg (n - (k + 1))
          case measure => omega
          case rel =>
            refine ⟨k + 1, by omega, rfl, by go_num, rfl, fun i hi => ?_⟩
            by_cases e : i < k
            · exact HNS.out i e
            · obtain rfl : i = k := by omega
              intro h0
              have := HLI.out
              rw [h0] at this
              exact hni this.symm
      · have HNN : Hid ([] ∉ ps) := Lib.hid (by
          intro hm
          obtain ⟨q1, q2⟩ := mem_getD (d := []) hm
          exact HNS.out _ (by rw [HL.out] at q1; omega) q2)
        have hkn : k = n := by omega
        subst hkn
        have hmm := @run_makeMap Try.prog
        clear HNS
        go_wp2_with (refine wpList_build_trie rfl (.tmp 29) (.tmp 30) rfl _ _ rfl rfl ?_)
        obtain ⟨w2, hw2⟩ : ∃ w2, w2 = (((w1.alloc (.map #[] 0)).alloc (.cells #[.int .i64 0] 3)).alloc (.cells (trieCells w1.heap.size (w1.heap.size + 1)) 56)) := ⟨_, rfl⟩
        have HT2 : Hid (TM w1.heap.size w2 (w1.heap.size + 2) w1.heap.size (w1.heap.size + 1) 1 [[]] (eqsL [] [[]]) (usedB [])) := Lib.hid (by rw [hw2]; exact trie_laid w1)
        have HB2 : Hid (Below w1.heap.size w1 w2) := Lib.hid (by rw [hw2]; exact ((below_alloc w1 _).alloc (by simp) _).alloc (by simp; omega) _)
        rw [← hw2]
        obtain ⟨bt, hbt⟩ : ∃ bt, bt = w1.heap.size + 2 := ⟨_, rfl⟩
        rw [show w1.heap.size + 1 + 1 = w1.heap.size + 2 from rfl, ← hbt]
        rw [← hbt] at HT2
        clear hw2 hbt hmm
        go_loopg [35] k (fun gg iv wr => ∃ (m g c : Nat), m ≤ k ∧ gg = k - m ∧ iv = .int .i64 m ∧ TM w1.heap.size wr bt w1.heap.size g c (trieOf (ps.take m)) (eqsL (ps.take m) (trieOf (ps.take m))) (usedB (ps.take m)) ∧ (trieOf (ps.take m)).length ≤ 256 ∧ Below w1.heap.size w1 wr)
        case atStart => exact ⟨0, _, _, by omega, rfl, rfl, HT2.out, by simp [trieOf], HB2.out⟩
        case round =>
          obtain ⟨m, g, c, hm, rfl, rfl, htm, hlen, hbl⟩ := hrel
          have HTM := Lib.hid htm
          have HLEN := Lib.hid hlen
          have HBL := Lib.hid hbl
          clear htm hlen hbl HT2 HB2
          by_cases hlt : m < k
          · obtain ⟨b1, o1, ai, ni, ci, rfl, hcell, hri, hnc⟩ := (HR.out.below HBL.out).cell m hlt
            obtain ⟨_, _, ai2, ni2, ci2, hx, hcell2, hri2, _⟩ := HR.out.cell m hlt
            cases hx
            have hcc := below_cell HBL.out hcell2
            rw [hcc] at hcell
            obtain ⟨rfl, rfl, rfl⟩ : ai2 = ai ∧ ni2 = ni ∧ ci2 = ci := by simpa using hcell
            have HRI := Lib.hid hri2
            have hmk : (m : Int) < (k : Int) := by omega
            have HSN : Hid (trieOf (ps.take (m + 1)) = addP (ps.getD m []) (trieOf (ps.take m)) (ps.getD m []).length) := Lib.hid (by rw [take_snoc_ps (by rw [HL.out]; exact hlt), trie_snoc])
            have HSN2 := Lib.hid (take_snoc_ps (ps := ps) (k := m) (by rw [HL.out]; exact hlt))
            have hpl : (ps.take m).length < 4294967296 := by have := HPS.out; rw [List.length_take]; omega
            have HC := Lib.hid (add_any w1.heap.size bt w1.heap.size g c w1 wr (ps.take m) (trieOf (ps.take m)) (ps.getD m []) ai2 ni2 ci2 HTM.out (trie_tw _) HLEN.out hpl HRI.out HBL.out (Nat.le_refl _) HBL.out.size)
            clear hri hri2 hnc hpl hcell hcell2
            by_cases hle : (addP (ps.getD m []) (trieOf (ps.take m)) (ps.getD m []).length).length ≤ 256
            · have HLE := Lib.hid hle
              clear hle
              go_wp2_with fail
              refine HC.out.mono ?_
              rintro e w5 ⟨he, hb5, htm5⟩
              rw [decide_eq_true HLE.out] at he
              subst he
              obtain ⟨g5, c5, htm6⟩ := htm5 HLE.out
              have HT5 := Lib.hid htm6
              have HB5 := Lib.hid hb5
              clear htm6 htm5 hb5
              go_wp2
              go_roundg (k - (m + 1))
              case measure => omega
              case rel =>
                refine ⟨m + 1, g5, c5, by omega, rfl, by go_num, ?_, by rw [HSN.out]; exact HLE.out, HBL.out.trans HB5.out⟩
                have h := HT5.out
                rw [← HSN.out, ← HSN2.out] at h
                exact h
            · have HLE : Hid (decide ((addP (ps.getD m []) (trieOf (ps.take m)) (ps.getD m []).length).length ≤ 256) = false) := Lib.hid (by simpa using hle)
              have HC9 : Hid (ocode ps = 9) := Lib.hid (by
                unfold ocode
                rw [if_neg (by rintro (h | h); exact HNE.out h; exact HNN.out h), if_pos]
                have h1 := trie_mono (ps.take (m + 1)) (ps.drop (m + 1))
                rw [List.take_append_drop, HSN.out] at h1
                omega)
              clear hle
              go_wp2_with fail
              refine HC.out.mono ?_
              rintro e w5 ⟨he, hb5, _⟩
              rw [HLE.out] at he
              subst he
              have HB5 := Lib.hid (HBL.out.trans hb5)
              have HTH5 := Lib.hid (there_below HTH.out HB5.out (by rw [HS1.out]; omega))
              have hth5 := HTH5.out
              clear hb5
              go_wp2_with (refine wpList_store_mid rfl 32 _ _ rfl w.heap.size 0 #[.int .i64 0, .slice none 0 0, .slice none 0 0, .slice none 0 0] rfl rfl hth5 mach_info (by simp [Value.oneCell']) ?_)
              (try simp only [Exit.inBlock, Exit.then])
              refine bodyPost_ret (results_of rfl _ _ _ zeroM rfl (range_store HTH5.out) rfl) rfl ?_
              refine ⟨below_setCells (bthen HB1.out HB5.out) (Nat.le_refl _) _ (by have := HB5.out.size; have := HB1.out.size; omega), .inl ⟨by rw [HC9.out]; decide, ?_⟩⟩
              rw [HC9.out]; rfl
          · have hmk : m = k := by omega
            subst hmk
            have HTK : Hid (ps.take m = ps) := Lib.hid (List.take_of_length_le (by rw [HL.out]; omega))
            have htm := HTM.out
            have hlen := HLEN.out
            rw [HTK.out] at htm hlen
            have hby : Byt ps := by
              intro p hp b hb
              obtain ⟨q1, q2⟩ := mem_getD (d := []) hp
              obtain ⟨_, _, _, _, _, _, _, hri, _⟩ := HR.out.cell _ (by rw [HL.out] at q1; exact q1)
              rw [q2] at hri
              exact bd_u8 (hri.wf b hb)
            have HC := Lib.hid (mach_any w1.heap.size bt w1.heap.size g c wr ps (trieOf ps) htm (trie_tw ps) hlen HPS.out hby HBL.out.size)
            have HC0 : Hid (ocode ps = 0) := Lib.hid (by
              unfold ocode
              rw [if_neg (by rintro (h | h); exact HNE.out h; exact HNN.out h), if_neg (by omega)])
            clear htm hlen hby HLEN HTM
            go_wp2_with fail
            refine HC.out.mono ?_
            rintro e w5 ⟨ac, an, cn, aa, ca, ah, ch, rfl, hm5, hb5⟩
            have HM5 := Lib.hid hm5
            have HB5 := Lib.hid (HBL.out.trans hb5)
            have HTH5 := Lib.hid (there_below HTH.out HB5.out (by rw [HS1.out]; omega))
            clear hm5 hb5
            have hth5 : (w5.alloc (.cells #[.int .i64 0, .slice ac 256 256, .slice an (prefs ps).length cn, .slice aa (prefs ps).length ca] 32)).there w.heap.size 0 4 := there_below HTH5.out (below_alloc _ _) (by have := HB5.out.size; have := HS1.out; omega)
            have HTH6 := Lib.hid hth5
            go_wp2_with (refine wpList_store_mid rfl 32 _ _ rfl w.heap.size 0 #[.int .i64 0, .slice ac 256 256, .slice an (prefs ps).length cn, .slice aa (prefs ps).length ca] rfl rfl hth5 mach_info (by simp [Value.oneCell']) ?_)
            (try simp only [Exit.inBlock, Exit.then])
            refine bodyPost_ret (results_of rfl _ _ _ [.int .i64 0, .slice ac 256 256, .slice an (prefs ps).length cn, .slice aa (prefs ps).length ca] rfl (range_store HTH6.out) rfl) rfl ?_
            have hfr := fr_setCells (b := w.heap.size) [.int .i64 0, .slice ac 256 256, .slice an (prefs ps).length cn, .slice aa (prefs ps).length ca] 0 (w5.alloc (.cells #[.int .i64 0, .slice ac 256 256, .slice an (prefs ps).length cn, .slice aa (prefs ps).length ca] 32))
            have hbl6 : Below w.heap.size w (w5.alloc (.cells #[.int .i64 0, .slice ac 256 256, .slice an (prefs ps).length cn, .slice aa (prefs ps).length ca] 32)) := (bthen HB1.out HB5.out).alloc (by have := HB5.out.size; have := HB1.out.size; omega) _
            have hfin := HM5.out _ (((Fr.refl _ _).alloc _).trans (hfr.mono (T := fun i => i < w1.heap.size) fun i hi => by rw [hi, HS1.out]; omega))
            exact ⟨hbl6.trans (hfr.below (fun i hi => by rw [hi]; exact Nat.le_refl _) hbl6.size), .inr ⟨HC0.out, ac, an, cn, aa, ca, ah, ch, rfl, hfin.1, hfin.2⟩⟩

end Go.Proofs.Ytflgmodofemifaa

/- PLAIN LAW: the literal machine of at most four patterns, with its hits, is a machine as the table wants it. -/
namespace Go.Proofs.Ytflgmodofemifaa
set_option linter.unusedVariables false
set_option linter.unusedSimpArgs false

/-- the machine of patterns -/
def litM (ps : List (List Int)) : Mc := ⟨litC ps, litN ps, litH ps⟩
theorem lit_mc {ps : List (List Int)} (hp : ps.length ≤ 4) (hl : (prefs ps).length ≤ 256) : McOk (litM ps) := by
  have hn : (litM ps).next.length = (prefs ps).length := litN_len ps
  refine ⟨by rw [hn]; exact prefs_len_pos ps, by rw [hn]; exact hl, by rw [hn]; simp [litM, litH], fun x hx => ?_, fun q b hq hb => ?_⟩
  · obtain ⟨v, hv, rfl⟩ := List.mem_map.1 hx
    have := cnt_le ps v
    omega
  · rw [hn] at hq ⊢
    have hv : (prefs ps).getD q [] ∈ prefs ps := getD_mem' hq
    have hi : (prefs ps).idxOf ((prefs ps).getD q []) = q := idx_getD (sorted_nodup (prefs_sorted ps)) hq
    have h := litGo_eq hv hb
    rw [hi] at h
    show (litGo ps (q : Int) b).toNat < _
    rw [h, Int.toNat_natCast]
    exact List.idxOf_lt_length_of_mem (lsuf_mem (prefs_closed ps).nil _)

end Go.Proofs.Ytflgmodofemifaa

/- machine.Check; the literal machine is valid. -/
namespace Go.Proofs.Ytflgmodofemifaa
open Go.RowKit
set_option linter.unusedVariables false
set_option linter.unusedSimpArgs false

set_option maxRecDepth 100000 in
set_option maxHeartbeats 4000000 in
theorem check_any (s : Int) (ac : Option Addr) (nc cc : Nat) (an : Option Addr) (nn cn : Nat) (aa : Option Addr) (na ca : Nat) (cls : List Int) (next : List (List Int)) (acc : List Bool) (w : World)
    (hm : RdM w ac nc an nn aa na cls next acc) :
    Calls Try.prog 27 #[.agg #[.int .i64 s, .slice ac nc cc, .slice an nn cn, .slice aa na ca]] w fun e w' => e = .returned (errV (mcode s cls next acc)) ∧ Below w.heap.size w w' := by
  have HM := Lib.hid (hm.below (below_alloc w (.cells #[.int .i64 s, .slice ac nc cc, .slice an nn cn, .slice aa na ca] 32)))
  have HLc := Lib.hid hm.c.len
  have HLn := Lib.hid hm.n.len
  have HLa := Lib.hid hm.a.len
  have HB := Lib.hid (below_alloc w (.cells #[.int .i64 s, .slice ac nc cc, .slice an nn cn, .slice aa na ca] 32))
  have hmx := hm.n.max
  clear hm
  by_cases hbad : HeadBad s cls next acc
  · have HE : Hid (mcode s cls next acc = 4) := Lib.hid (by unfold mcode; rw [if_pos hbad])
    have hb : nc ≠ 256 ∨ nn = 0 ∨ na ≠ nn ∨ s < 0 ∨ (nn : Int) ≤ s := by
      unfold HeadBad at hbad; rw [HLc.out, HLn.out, HLa.out] at hbad; exact hbad
    clear hbad
    go_enter Try.func27, Try.ntmps27
    go_wp2
    all_goals go_ret
    all_goals exact ⟨ret_eq (by rw [HE.out]; rfl), below_alloc _ _⟩
  · have hb1 : 256 ≤ nc ∧ nc ≤ 256 ∧ 1 ≤ nn ∧ na ≤ nn ∧ nn ≤ na ∧ 0 ≤ s ∧ s < (nn : Int) := by
      unfold HeadBad at hbad; rw [HLc.out, HLn.out, HLa.out] at hbad; omega
    obtain ⟨e1, e2, e3, e4, e5, e6, e7⟩ := hb1
    have ez : ((nn : Int) == 0) = false := by simp; omega
    obtain ⟨b0, off0, a0, n0, c0, rfl, hrow0, hr0, _⟩ := HM.out.n.cell 0 (by omega)
    rw [Nat.add_zero] at hrow0
    have HN0 : Hid (ncls next = n0) := Lib.hid hr0.len
    clear hr0
    have HC : Hid (mcode s cls next acc = if n0 = 0 ∨ 256 < n0 then 4 else if next.all (rowOk nn n0) = false then 4 else if clsOk n0 cls = false then 4 else if 256 < nn then 9 else 0) := Lib.hid (by
      unfold mcode; rw [if_neg hbad, HN0.out, HLn.out])
    clear hbad
    by_cases hc : n0 < 1 ∨ 256 < n0
    · have HE : Hid (mcode s cls next acc = 4) := Lib.hid (by rw [HC.out, if_pos (by omega)])
      go_enter Try.func27, Try.ntmps27
      go_wp2
      all_goals go_ret
      all_goals exact ⟨ret_eq (by rw [HE.out]; rfl), below_alloc _ _⟩
    · have hc1 : 1 ≤ n0 := by omega
      have hc2 : n0 ≤ 256 := by omega
      have HC2 : Hid (mcode s cls next acc = if next.all (rowOk nn n0) = false then 4 else if clsOk n0 cls = false then 4 else if 256 < nn then 9 else 0) := Lib.hid (by rw [HC.out, if_neg (by omega)])
      clear hc HC
      go_enter Try.func27, Try.ntmps27
      go_wp2
      go_loop [56] (fun iv => ∃ i : Nat, i ≤ nn ∧ iv = .int .i64 i ∧ rowsTo next i) (fun iv => nn - (intOf iv).toNat)
      case atStart => exact ⟨0, by omega, rfl, rowsTo_zero _⟩
      case round =>
        obtain ⟨i, hi, rfl, hrt⟩ := hrel
        have HRT := Lib.hid hrt
        clear hrt
        by_cases hlt : i < nn
        · obtain ⟨b1, off1, a1, n1, c1, hx, hrow, hr1, _⟩ := HM.out.n.cell i hlt
          cases hx
          have HR1 := Lib.hid hr1
          have HL1 := Lib.hid hr1.len
          clear hr1
          by_cases hne : n1 = n0
          · subst hne
            go_wp2
            go_loop [67] (fun kv => ∃ k : Nat, k ≤ n1 ∧ kv = .int .i64 k ∧ entTo nn (next.getD i []) k) (fun kv => n1 - (intOf kv).toNat)
            case atStart => exact ⟨0, by omega, rfl, entTo_zero _ _⟩
            case round =>
              obtain ⟨k, hk, rfl, hent⟩ := hrel
              have HEn := Lib.hid hent
              clear hent
              by_cases hkl : k < n1
              · obtain ⟨b2, off2, rfl, hcell⟩ := HR1.out.cell k hkl
                have hk2 : k < (next.getD i []).length := by rw [HL1.out]; exact hkl
                by_cases hq : (next.getD i []).getD k 0 < 0 ∨ (nn : Int) ≤ (next.getD i []).getD k 0
                · have HE : Hid (mcode s cls next acc = 4) := Lib.hid (by
                    rw [HC2.out, if_pos]
                    have := rows_bad (next := next) (i := i) (by rw [HLn.out]; exact hlt) (ent_bad hk2 (by rw [HLn.out]; exact hq))
                    rw [HN0.out, HLn.out] at this; exact this)
                  generalize (next.getD i []).getD k 0 = q at *
                  go_wp2
                  all_goals go_ret
                  all_goals exact ⟨ret_eq (by rw [HE.out]; rfl), below_alloc _ _⟩
                · have HE2 := Lib.hid (entTo_succ hk2 HEn.out (by omega) (by omega))
                  have hq1 : 0 ≤ (next.getD i []).getD k 0 := by omega
                  have hq2 : (next.getD i []).getD k 0 < (nn : Int) := by omega
                  generalize (next.getD i []).getD k 0 = q at *
                  go_wp2
                  go_round
                  case rel => exact ⟨k + 1, by omega, by go_num, HE2.out⟩
                  case measure => simp [intOf]; omega
              · have HR3 := Lib.hid (rowsTo_succ (next := next) (i := i) (by rw [HLn.out]; exact hlt) HRT.out (by
                  rw [HN0.out, HLn.out]
                  exact entTo_row HL1.out (by rw [HL1.out]; have h : k = n1 := (by omega); rw [← h]; exact HEn.out)))
                go_wp2
                go_round
                case rel => exact ⟨i + 1, by omega, by go_num, HR3.out⟩
                case measure => simp [intOf]; omega
          · have HE : Hid (mcode s cls next acc = 4) := Lib.hid (by
              rw [HC2.out, if_pos]
              have := rows_bad (next := next) (i := i) (by rw [HLn.out]; exact hlt) (len_bad (by rw [HL1.out, HN0.out]; exact hne))
              rw [HN0.out, HLn.out] at this; exact this)
            go_wp2
            go_ret
            exact ⟨ret_eq (by rw [HE.out]; rfl), below_alloc _ _⟩
        · have HC3 : Hid (mcode s cls next acc = if clsOk n0 cls = false then 4 else if 256 < nn then 9 else 0) := Lib.hid (by
            have h : i = nn := by omega
            have h2 := HRT.out
            rw [h, ← HLn.out] at h2
            have h3 := rowsTo_all h2
            rw [HLn.out, HN0.out] at h3
            rw [HC2.out, if_neg (by rw [h3]; simp)])
          clear HRT
          go_wp2
          go_loop [84] (fun kv => ∃ k : Nat, k ≤ 256 ∧ kv = .int .i64 k ∧ entTo n0 cls k) (fun kv => 256 - (intOf kv).toNat)
          case atStart => exact ⟨0, by omega, rfl, entTo_zero _ _⟩
          case round =>
            obtain ⟨k, hk, rfl, hent⟩ := hrel
            have HEn := Lib.hid hent
            clear hent
            by_cases hkl : k < 256
            · obtain ⟨b2, off2, rfl, hcell⟩ := HM.out.c.cell k (by omega)
              have hk2 : k < cls.length := by rw [HLc.out]; omega
              by_cases hq : cls.getD k 0 < 0 ∨ (n0 : Int) ≤ cls.getD k 0
              · have HE : Hid (mcode s cls next acc = 4) := Lib.hid (by rw [HC3.out, if_pos (cls_bad hk2 hq)])
                generalize cls.getD k 0 = q at *
                go_wp2
                all_goals go_ret
                all_goals exact ⟨ret_eq (by rw [HE.out]; rfl), below_alloc _ _⟩
              · have HE2 := Lib.hid (entTo_succ hk2 HEn.out (by omega) (by omega))
                have hq1 : 0 ≤ cls.getD k 0 := by omega
                have hq2 : cls.getD k 0 < (n0 : Int) := by omega
                generalize cls.getD k 0 = q at *
                go_wp2
                go_round
                case rel => exact ⟨k + 1, by omega, by go_num, HE2.out⟩
                case measure => simp [intOf]; omega
            · have HC4 : Hid (mcode s cls next acc = if 256 < nn then 9 else 0) := Lib.hid (by
                have h : k = 256 := by omega
                have h2 := HEn.out
                rw [h, show 256 = cls.length by rw [HLc.out]; omega] at h2
                rw [HC3.out, if_neg (by rw [cls_ok h2]; simp)])
              by_cases hbig : 256 < nn
              · have HE : Hid (mcode s cls next acc = 9) := Lib.hid (by rw [HC4.out, if_pos hbig])
                go_wp2
                go_ret
                exact ⟨ret_eq (by rw [HE.out]; rfl), below_alloc _ _⟩
              · have HE : Hid (mcode s cls next acc = 0) := Lib.hid (by rw [HC4.out, if_neg hbig])
                go_wp2
                go_ret
                exact ⟨ret_eq (by rw [HE.out]; rfl), below_alloc _ _⟩

theorem check_ok (s : Int) (ac : Option Addr) (nc cc : Nat) (an : Option Addr) (nn cn : Nat) (aa : Option Addr) (na ca : Nat) (cls : List Int) (next : List (List Int)) (acc : List Bool) (w : World)
    (hm : RdM w ac nc an nn aa na cls next acc) (hv : Valid s cls next acc) :
    Calls Try.prog 27 #[.agg #[.int .i64 s, .slice ac nc cc, .slice an nn cn, .slice aa na ca]] w fun e w' => e = .returned .nilIface ∧ Below w.heap.size w w' := by
  have h := check_any s ac nc cc an nn cn aa na ca cls next acc w hm
  rw [code_of_valid hv] at h
  exact h

theorem ncls_lit (ps : List (List Int)) : ncls (litN ps) = (litL ps).length + 1 := by
  unfold ncls
  exact (litN_row (ps := ps) _ (getD_mem' (by rw [litN_len]; exact prefs_len_pos ps))).1
/-- no letter 0 .. 255 is missing only if all 256 occur: then there would be 257 classes -/
theorem lit_valid {ps : List (List Int)} (hl : (prefs ps).length ≤ 256) (hc : (litL ps).length ≤ 255) : Valid 0 (litC ps) (litN ps) (litA ps) := by
  have hn := litN_len ps
  have hp := prefs_len_pos ps
  refine ⟨litC_len ps, by rw [litA_len, hn], by omega, by rw [hn]; omega, by rw [ncls_lit]; omega, by rw [ncls_lit]; omega, by rw [hn]; exact hl, fun row hr => ?_, fun q hq => ?_⟩
  · rw [ncls_lit, hn]; exact litN_row row hr
  · have := cls_bd (usedB ps) 256 q hq
    rw [ncls_lit]; unfold litL; exact ⟨this.1, by exact_mod_cast this.2⟩

/-- each letter of the patterns ends a prefix of them -/
theorem litL_255 {ps : List (List Int)} (hl : (prefs ps).length ≤ 256) : (litL ps).length ≤ 255 := by
  have h1 : (litL ps).length ≤ (((prefs ps).filter fun x => !x.isEmpty).map fun x => x.getLastD 0).length := by
    refine nodup_sub_len ((letsTo_sorted _ _).imp (fun {a b} h => by omega)) fun x hx => ?_
    obtain ⟨m, _, hu, rfl⟩ := mem_letsTo.1 hx
    unfold usedB at hu
    obtain ⟨p, hp, hc⟩ := List.any_eq_true.1 hu
    obtain ⟨k, hk, he⟩ := List.mem_iff_getElem.1 (List.contains_iff_mem.1 hc)
    refine List.mem_map.2 ⟨p.take (k + 1), List.mem_filter.2 ⟨(mem_prefs ps _).2 (.inr ⟨p, hp, List.take_prefix _ _⟩), ?_⟩, ?_⟩
    · cases p with
      | nil => simp at hk
      | cons a r => simp
    · rw [List.take_succ_eq_append_getElem hk, List.getLastD_eq_getLast?]
      simp [he]
  have h2 : ((prefs ps).filter fun x => !x.isEmpty).length < (prefs ps).length := by
    refine Nat.lt_of_le_of_ne (List.length_filter_le _ _) fun h => ?_
    have := List.length_filter_eq_length_iff.1 h [] (prefs_closed ps).nil
    simp at this
  rw [List.length_map] at h1
  omega
theorem lit_valid' {ps : List (List Int)} (hl : (prefs ps).length ≤ 256) : Valid 0 (litC ps) (litN ps) (litA ps) := lit_valid hl (litL_255 hl)

end Go.Proofs.Ytflgmodofemifaa

/- transfer.entry of whatever rule. -/
namespace Go.Proofs.Ytflgmodofemifaa
open Go.RowKit Go.Maps
set_option linter.unusedVariables false
set_option linter.unusedSimpArgs false

theorem valid_cls {s cls next acc} (h : Valid s cls next acc) : ∀ q, q < 256 → 0 ≤ cls.getD q 0 ∧ ((cls.getD q 0).toNat : Nat) < (next.getD 0 []).length := fun q hq => by
  have h1 := h.let_ (cls.getD q 0) (getD_mem (d := 0) (by rw [h.clsL]; exact hq))
  have h2 : (ncls next) = (next.getD 0 []).length := rfl
  omega
theorem valid_row {s cls next acc} (h : Valid s cls next acc) : ∀ q, q < next.length → (next.getD q []).length = (next.getD 0 []).length ∧ ∀ z ∈ next.getD q [], 0 ≤ z := fun q hq => by
  have h1 := h.row _ (getD_mem (d := []) hq)
  exact ⟨h1.1, fun z hz => (h1.2 z hz).1⟩

theorem entry_any {m acc B bs most L x w tb nk K} (h : TB m acc B bs most L x w tb nk K) (hv : Valid 0 m.cls m.next acc) {id : Nat} {e : En} (h0 : 0 < id) (he : L[id - 1]? = some e) (hk : ∀ y ∈ refsAt L id, (K y).isSome = true) (hsh : 8 * (tx L id).length ≤ ML) :
    Calls Try.prog 63 #[.pointer (some ⟨tb, 0, none⟩), ruV e.ru] w (EntPost m (tx L id) w) := by
  have hl := (List.getElem?_eq_some_iff.1 he).1
  have hru := h.si.good.ru _ _ he
  have htx := tx_at h.si.good he
  rw [show id - 1 + 1 = id by omega] at htx
  rw [refsAt_get he] at hk
  unfold refs at hk
  rcases hru with ⟨a, b, c, d, f⟩ | ⟨a, b, c, d, f, g, k⟩ | ⟨a, b, c, d, f, g, k⟩
  · rw [a, if_pos rfl] at htx
    have hr : ruV e.ru = .agg #[.int .i64 1, .int .u8 (e.ru.letter : Nat), .int .i64 0, .int .i64 0, .int .i64 0] := by unfold ruV; rw [a, c, d, f]; rfl
    rw [hr, htx]
    exact entry_letter h e.ru.letter b (valid_cls hv) (valid_row hv)
  · rw [a, if_neg (by decide), if_pos rfl] at htx
    rw [a, if_pos rfl] at hk
    have hr : ruV e.ru = .agg #[.int .i64 2, .int .u8 0, .int .i64 (e.ru.left : Nat), .int .i64 (e.ru.right : Nat), .int .i64 0] := by unfold ruV; rw [a, b, c]; rfl
    rw [hr, htx]
    rw [htx, List.length_append] at hsh
    exact entry_pair h e.ru.left e.ru.right d g (by omega) (by omega) (hk _ (by simp)) (hk _ (by simp)) (by omega)
  · rw [a, if_neg (by decide), if_neg (by decide)] at htx
    rw [a, if_neg (by decide), if_pos rfl] at hk
    have hr : ruV e.ru = .agg #[.int .i64 3, .int .u8 0, .int .i64 (e.ru.left : Nat), .int .i64 0, .int .i64 (e.ru.times : Nat)] := by unfold ruV; rw [a, b, c]; rfl
    rw [hr, htx]
    rw [htx, rep_len] at hsh
    exact entry_power h e.ru.left e.ru.times d (by omega) (hk _ (by simp)) g k (by omega)

end Go.Proofs.Ytflgmodofemifaa
