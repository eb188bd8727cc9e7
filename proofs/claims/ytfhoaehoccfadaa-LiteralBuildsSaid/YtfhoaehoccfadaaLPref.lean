/-
  evergreenref32.Prefixes of few short patterns.
-/
import Derived.Test.YtfhoaehoccfadaaLRef
import Derived.Test.YtfhoaehoccfadaaLRepsW
import Derived.ArgAppend
namespace Go.Proofs.Ytfhoaehoccfadaa
open Go.RowKit Go.Maps
set_option linter.unusedVariables false
set_option linter.unusedSimpArgs false

/-- where a word is laid in -/
theorem insW_at (p : List Int) : ∀ (l : List (List Int)) (j : Nat), j ≤ l.length → (∀ i, i < j → wlt (l.getD i []) p) → (j = l.length ∨ ¬ wlt (l.getD j []) p) → insW p l = if l[j]? = some p then l else l.take j ++ p :: l.drop j
  | [], j, hj, _, _ => by
    have : j = 0 := by simpa using hj
    subst this; simp [insW]
  | x :: r, 0, _, _, h => by
    have hn : ¬ wlt x p := by rcases h with h | h; simp at h; exact h
    unfold insW
    rw [if_neg hn]
    by_cases e : x = p
    · simp [e]
    · simp [e]
  | x :: r, j + 1, hj, h1, h => by
    have hx : wlt x p := h1 0 (by omega)
    unfold insW
    rw [if_pos hx, insW_at p r j (by simpa using hj) (fun i hi => h1 (i + 1) (by omega)) (by
      rcases h with h | h
      · exact .inl (by simpa using h)
      · exact .inr h)]
    simp only [List.getElem?_cons_succ, List.take_succ_cons, List.drop_succ_cons]
    split <;> rfl
theorem prefs_take_succ (ps : List (List Int)) {i : Nat} (hi : i < ps.length) : prefs (ps.take (i + 1)) = insP (ps.getD i []) (prefs (ps.take i)) (ps.getD i []).length := by
  have e1 : ps.take (i + 1) = ps.take i ++ [ps.getD i []] := getD_take_snoc hi
  rw [e1]; unfold prefs; rw [List.foldl_append]; rfl
theorem insP_len (ps : List (List Int)) {i k : Nat} (hi : i < ps.length) : (insP (ps.getD i []) (prefs (ps.take i)) k).length ≤ (prefs ps).length := by
  refine nodup_sub_len (sorted_nodup (insP_sorted _ _ (prefs_sorted _) k)) fun x hx => ?_
  rw [mem_prefs]
  rcases (mem_insP _ _ _ _).1 hx with h | ⟨m, _, _, rfl⟩
  · rcases (mem_prefs _ _).1 h with h | ⟨p, hp, hx⟩
    · exact .inl h
    · exact .inr ⟨p, List.mem_of_mem_take hp, hx⟩
  · exact .inr ⟨_, getD_mem hi, List.take_prefix _ _⟩

/-- out[j:] -/
theorem row_cutL {w0 : World} {B g m c j : Nat} {xs : List Value} (h : Row w0 B 9 1 (.slice (some ⟨g, 0, none⟩) m c) m xs) (hj : j ≤ m) :
    ∃ a', RdG w0 1 a' (m - j) (xs.drop j) ∧ ∀ (kl : IntKind) (w : World), (Instr.slice 22 (.slice (some ⟨g, 0, none⟩) m c) (some (.int kl (j : Int))) none none).run Try.prog w = .ok (.slice a' (m - j) (c - j)) w := by
  have hl := h.1
  have hmc := Row.cap h
  refine ⟨if c = j then some ⟨g, 0, none⟩ else some ⟨g, j, none⟩, ⟨by rw [List.length_drop]; omega, fun i u hu => ?_⟩, fun kl w => ?_⟩
  · rw [List.getElem?_drop] at hu
    have hi : j + i < xs.length := (List.getElem?_eq_some_iff.1 hu).1
    rw [if_neg (by omega)]
    obtain ⟨b, off, ha, hc⟩ := (Row.rdG h).cell (j + i) u hu
    cases ha
    exact ⟨g, j, rfl, by rw [Nat.zero_add] at hc; exact hc⟩
  · have he : Try.prog.elem 22 = 9 := by unfold Program.elem; rw [Try.underlying22]
    have hsz : (sizeOf 9).run Try.prog w = .ok 1 w := by kernel_rfl
    rw [run_slice_l (P := Try.prog) w 22 _ m c (by rw [he]; exact Try.underlying22) kl j (by omega) (by omega), he, hsz]
    simp only [Result.andThen_ok, sliced, Int.toNat_natCast, Nat.mul_one]
    by_cases e : c = j
    · rw [if_pos e, if_pos e]
    · rw [if_neg e, if_neg e]; simp [Addr.add_lit]
/-- out[:j:j] -/
theorem row_cutHM {g m c j : Nat} (hj : j ≤ m) (hmc : m ≤ c) (w : World) : (Instr.slice 22 (.slice (some ⟨g, 0, none⟩) m c) none (some (.int .i64 (j : Int))) (some (.int .i64 (j : Int)))).run Try.prog w = .ok (.slice (some ⟨g, 0, none⟩) j j) w := by
  have he : Try.prog.elem 22 = 9 := by unfold Program.elem; rw [Try.underlying22]
  have hsz : (sizeOf 9).run Try.prog w = .ok 1 w := by kernel_rfl
  rw [run_slice_hm (P := Try.prog) w 22 _ m c (by rw [he]; exact Try.underlying22) .i64 .i64 j j (by omega) (by omega) (by omega), he, hsz]
  simp only [Result.andThen_ok, sliced, Int.toNat_natCast, Nat.zero_mul, Nat.sub_zero]
  by_cases e : j = 0
  · rw [if_pos e]
  · rw [if_neg e]; simp [Addr.add_lit]

/-- append that must grow -/
theorem app_grows {P : Program} {w : World} {ops : Array Oper} {rest : List Oper} {o : Oper} {a : Act} {Q : Exit → Act → World → Prop} (s x : Operand) {t e : TypeId} {z : Value} {bytes : Nat} (E : EltG P t e z 1 bytes)
    (hgd : o.guard = none) (ho : o.op = .call { callee := .builtin .append, args := #[s, x], argTypes := #[t, t] }) (g j : Nat) (olds : List Value) (hs : a.eval s = .slice (some ⟨g, 0, none⟩) j j) (hr0 : RdG w 1 (some ⟨g, 0, none⟩) j olds)
    (ad : Addr) (m c : Nat) (news : List Value) (hx : a.eval x = .slice (some ad) m c) (hr : RdG w 1 (some ad) m news) (h1 : ∀ u ∈ news, u.oneCell' = true) (hm : 0 < m) (hlen : (j + m) * bytes ≤ 140737488355328) (hpos : 0 < bytes)
    (hK : ∀ a' c' w', Row w' w.heap.size e 1 (.slice a' (j + m) c') (j + m) (olds ++ news) → Below w.heap.size w w' → wpList P ops Q rest (a.put o.dst (.slice a' (j + m) c')) w') : wpList P ops Q (o :: rest) a w := by
  obtain ⟨i, hi, hz, hsz, hby⟩ := E.hi
  have hb2 : (j + m) ≤ 140737488355328 := Nat.le_trans (Nat.le_mul_of_pos_right _ hpos) hlen
  refine wpList_append_grows w hgd s x t ho e i z 1 bytes E.ht hi hz hsz hby E.hz E.h0 (some ⟨g, 0, none⟩) j j olds hs (by intro h; cases h) (by have := hr0.len; omega) (fun b hb k u hu => by cases hb; exact hr0.news k u hu) ad m c news hx (by have := hr.len; omega) hr.news h1 (by omega) (by unfold maxLen; omega) hlen ?_
  intro v' w' hr' hg
  obtain ⟨a', c', rfl⟩ := Row.form hr'
  exact hK a' c' w' hr' (grown_below' hg (Nat.le_refl _))

/-- what Prefixes has so far -/
structure PF (W wr : World) (g m c : Nat) (outs : List ByteArray) (l : List (List Int)) : Prop where
  row : Row wr W.heap.size 9 1 (.slice (some ⟨g, 0, none⟩) m c) m (outs.map Value.string)
  len : outs.length = m
  words : outs.map numsOf = l
  sz : ∀ s ∈ outs, s.size ≤ 120
  bel : Below W.heap.size W wr

set_option maxRecDepth 100000 in
set_option maxHeartbeats 1500000 in
theorem prefixes_any (a : Option Addr) (n cp : Nat) (ss : List ByteArray) (W : World) (hr : RdS W a n ss) (hs : Small ss) :
    Calls Try.prog 27 #[.slice a n cp] W fun e w' => ∃ g m c outs, e = .returned (.slice (some ⟨g, 0, none⟩) m c) ∧ PF W w' g m c outs (prefs (pats ss)) := by
  have HR := Lib.hid hr
  have HL := Lib.hid hr.len
  have hmax := hr.max
  have HS := Lib.hid hs
  have HPL : Hid ((prefs (pats ss)).length ≤ 121) := Lib.hid (by rw [← trie_len]; exact hs.trie)
  have hn120 : n ≤ 120 := by rw [← hr.len]; exact hs.n
  clear hr hs
  go_enter Try.func27, Try.ntmps27
  go_wp2
  go_loopg [3, 4] n (fun gg ov iv wr => ∃ (i g m c : Nat) (outs : List ByteArray), i ≤ n ∧ gg = n - i ∧ iv = .int .i64 i ∧ ov = .slice (some ⟨g, 0, none⟩) m c ∧ PF W wr g m c outs (prefs ((pats ss).take i)))
  case atStart =>
    refine ⟨0, W.heap.size, 1, 1, [ByteArray.empty], by omega, rfl, rfl, rfl, ⟨?_, rfl, rfl, fun s hs => by rw [List.mem_singleton] at hs; subst hs; decide, below_alloc _ _⟩⟩
    exact World.ownsRow_lit W _ 1 (Nat.le_refl _) (by decide) rfl
  case round =>
    obtain ⟨i, g, m, c, outs, hi, rfl, rfl, rfl, hpf⟩ := hrel
    have HPF := Lib.hid hpf
    clear hpf
    by_cases hlt : i < n
    · have hiz : (i : Int) < (n : Int) := by omega
      have hip : i < (pats ss).length := by rw [pats_len, HL.out]; exact hlt
      obtain ⟨s, hs⟩ : ∃ s, s = ss.getD i ByteArray.empty := ⟨_, rfl⟩
      have hsz : s.size ≤ 120 := by rw [hs]; exact HS.out.len i
      have hpi : (pats ss).getD i [] = numsOf s := by rw [pats_getD, hs]
      have HNX : Hid (prefs ((pats ss).take (i + 1)) = insP (numsOf s) (prefs ((pats ss).take i)) s.size) := Lib.hid (by rw [prefs_take_succ _ hip, hpi, numsOf_len])
      have HIL : Hid (∀ k, (insP (numsOf s) (prefs ((pats ss).take i)) k).length ≤ 121) := Lib.hid (fun k => by have := insP_len (pats ss) (k := k) hip; rw [hpi] at this; exact Nat.le_trans this HPL.out)
      have HC : Hid (∀ wr, Below W.heap.size W wr → ∃ b off, a = some ⟨b, off, none⟩ ∧ wr.cell? ⟨b, off + i, none⟩ = some (.string s)) := Lib.hid (fun wr hb => by rw [hs]; exact (HR.out.below hb).cell i hlt)
      clear hs hpi hip
      go_wp2
      go_loopg [3, 5] (s.size + 1) (fun gg ov kv wr => ∃ (k g m c : Nat) (outs : List ByteArray), k ≤ s.size ∧ gg = s.size + 1 - k ∧ kv = .int .i64 ((k : Int) + 1) ∧ ov = .slice (some ⟨g, 0, none⟩) m c ∧ PF W wr g m c outs (insP (numsOf s) (prefs ((pats ss).take i)) k))
      case atStart => exact ⟨0, g, m, c, outs, by omega, rfl, rfl, rfl, HPF.out⟩
      case round =>
        clear HPF
        obtain ⟨k, g, m, c, outs, hk, rfl, rfl, rfl, hpf⟩ := hrel
        have HPF := Lib.hid hpf
        obtain ⟨b, off, rfl, hc⟩ := HC.out _ hpf.bel
        clear hpf
        by_cases hks : k < s.size
        · have hk1 : (k : Int) + 1 ≤ (s.size : Int) := by omega
          have hkc : ((k : Int) + 1) = ((k + 1 : Nat) : Int) := by omega
          obtain ⟨K1, hK1⟩ : ∃ K1 : Nat, K1 = k + 1 := ⟨_, rfl⟩
          rw [← hK1] at hkc
          obtain ⟨px, hpx⟩ : ∃ px, px = s.extract 0 K1 := ⟨_, rfl⟩
          have hpn : numsOf px = (numsOf s).take K1 := by rw [hpx]; exact take_nums s K1
          have HPS : Hid (px.size ≤ 120) := Lib.hid (by rw [← numsOf_len, hpn, List.length_take, numsOf_len]; omega)
          have HST : Hid (insP (numsOf s) (prefs ((pats ss).take i)) K1 = insW (numsOf px) (outs.map numsOf)) := Lib.hid (by rw [HPF.out.words, hpn, hK1]; rfl)
          have hKs : (K1 : Int) ≤ (s.size : Int) := by omega
          have hKs2 : K1 ≤ s.size := by omega
          have HK1 := Lib.hid hK1
          clear hpn hK1
          go_wp2
          rw [← hpx]
          (try rw [hkc])
          have hm121 : m ≤ 121 := by
            have h := HIL.out k
            rw [← HPF.out.words, List.length_map, HPF.out.len] at h; exact h
          have HPX := Lib.hid hpx
          clear hpx
          go_loopg [7] m (fun gg jv wr2 => ∃ j : Nat, j ≤ m ∧ gg = m - j ∧ jv = .int .i64 j ∧ wr = wr2 ∧ ∀ t, t < j → wlt ((outs.map numsOf).getD t []) (numsOf px))
          case atStart => exact ⟨0, by omega, rfl, rfl, rfl, fun t ht => by omega⟩
          case round =>
            obtain ⟨j, hjm, rfl, rfl, hw, hlts⟩ := hrel
            subst hw
            have HLT := Lib.hid hlts
            clear hlts
            have HTAKE : Hid (∀ w2, RdG w2 1 (some ⟨g, 0, none⟩) m (outs.map Value.string) → RdG w2 1 (some ⟨g, 0, none⟩) j ((outs.map Value.string).take j)) := Lib.hid (fun w2 h => ⟨by rw [List.length_take]; have := h.len; omega, fun t u hu => h.cell t u (by
              rw [List.getElem?_take] at hu
              split at hu
              · exact hu
              · cases hu)⟩)
            by_cases hjlt : j < m
            · have hjz : (j : Int) < (m : Int) := by omega
              have hjl : j < outs.length := by rw [HPF.out.len]; exact hjlt
              obtain ⟨y, hy⟩ : ∃ y, y = outs.getD j ByteArray.empty := ⟨_, rfl⟩
              have hyg : (outs.map numsOf).getD j [] = numsOf y := by rw [hy]; simp [List.getD, hjl]
              have hyq : (outs.map numsOf)[j]? = some (numsOf y) := by rw [hy]; simp [List.getD, hjl]
              have hcy : wr.cell? ⟨g, j, none⟩ = some (.string y) := by
                have h := World.ownsRow.cellAt HPF.out.row j (by omega)
                rw [h, hy]; simp [List.getD, hjl]
              have hys : y.size ≤ 120 := HPF.out.sz y (by rw [hy]; exact getD_mem hjl)
              have HBE := Lib.hid (before_any y px wr (by omega) (by have := HPS.out; omega))
              have HBEQ := Lib.hid (beq_str y px)
              have HYG := Lib.hid hyg
              have HYQ := Lib.hid hyq
              clear hy hyg hyq
              by_cases hwl : wlt (numsOf y) (numsOf px)
              · rw [decide_eq_true hwl] at HBE
                have HWL := Lib.hid hwl
                clear hwl
                go_wp2_with fail
                refine HBE.out.mono ?_
                rintro e w9 ⟨rfl, rfl⟩
                go_wp2
                go_roundg (m - (j + 1))
                case measure => omega
                case rel =>
                  refine ⟨j + 1, by omega, rfl, by go_num, rfl, fun t ht => ?_⟩
                  by_cases e : t < j
                  · exact HLT.out t e
                  · obtain rfl : t = j := by omega
                    rw [HYG.out]; exact HWL.out
              · rw [decide_eq_false hwl] at HBE
                have HEX : Hid (j = (outs.map numsOf).length ∨ ¬ wlt ((outs.map numsOf).getD j []) (numsOf px)) := Lib.hid (.inr (by rw [HYG.out]; exact hwl))
                clear hwl
                by_cases hyp : y = px
                · have hbt : (y.toList == px.toList) = true := by rw [HBEQ.out]; exact decide_eq_true hyp
                  have HSAME : Hid (insP (numsOf s) (prefs ((pats ss).take i)) K1 = outs.map numsOf) := Lib.hid (by
                    rw [HST.out, insW_at _ _ j (by rw [List.length_map, HPF.out.len]; exact hjm) HLT.out HEX.out, if_pos (by rw [HYQ.out, hyp])])
                  clear hyp
                  go_wp2_with fail
                  refine HBE.out.mono ?_
                  rintro e w9 ⟨rfl, rfl⟩
                  go_wp2
                  go_roundg (s.size + 1 - K1)
                  case measure => have := HK1.out; omega
                  case rel => exact ⟨K1, g, m, c, outs, hKs2, rfl, by first | rfl | go_num, rfl, ⟨HPF.out.row, HPF.out.len, by rw [HSAME.out], HPF.out.sz, HPF.out.bel⟩⟩
                · have hbt : (y.toList == px.toList) = false := by rw [HBEQ.out]; exact decide_eq_false hyp
                  have HNQ : Hid (¬ (outs.map numsOf)[j]? = some (numsOf px)) := Lib.hid (fun h => by
                    rw [HYQ.out] at h; exact hyp (numsOf_inj (Option.some.inj h)))
                  clear hyp
                  go_wp2_with fail
                  refine HBE.out.mono ?_
                  rintro e w9 ⟨rfl, rfl⟩
                  obtain ⟨ax, hcutr, hrunL⟩ := row_cutL (HPF.out.row) hjm
                  have hrunH := fun w => row_cutHM (g := g) hjm (Row.cap HPF.out.row) w
                  have HCUT := Lib.hid hcutr
                  have HIN : Hid (insP (numsOf s) (prefs ((pats ss).take i)) K1 = (outs.take j ++ px :: outs.drop j).map numsOf) := Lib.hid (by
                    rw [HST.out, insW_at _ _ j (by rw [List.length_map, HPF.out.len]; exact hjm) HLT.out HEX.out, if_neg HNQ.out, List.map_append, List.map_cons, List.map_take, List.map_drop])
                  clear hcutr
                  go_wp2_with (first
                    | (at_builtin; refine app_row (.tmp 58) (.tmp 61) EST rfl rfl wr.heap.size (.slice (some ⟨wr.heap.size, 0, none⟩) 1 1) 1 [.string px] rfl (World.ownsRow_lit wr _ 1 (Nat.le_refl _) (by decide) rfl) ax (m - j) _ ((outs.map Value.string).drop j) rfl (HCUT.out.below (below_alloc _ _)) (by intro u hu; obtain ⟨y, _, rfl⟩ := List.mem_map.1 (List.mem_of_mem_drop hu); rfl) (by omega) (by decide) (by simp) ?_; intro a6 c6 w6 hr6 hg6; obtain ⟨g6, rfl, _⟩ := Row.addr hr6 (by omega); have HR6 := Lib.hid hr6; have HB6 := Lib.hid ((below_alloc wr (.cells #[.string px] 9)).grown hg6 (by simp) (fun x hx => by cases hx; exact Nat.le_refl _)); clear hr6 hg6)
                    | (at_builtin; refine app_grows (.tmp 66) (.tmp 67) EST rfl rfl g j ((outs.map Value.string).take j) rfl (HTAKE.out _ (HPF.out.row.rdG.below HB6.out)) ⟨g6, 0, none⟩ (1 + (m - j)) _ _ rfl (Row.rdG HR6.out) (by intro u hu; rcases List.mem_append.1 hu with hu | hu; (rw [List.mem_singleton] at hu; subst hu; rfl); (obtain ⟨y, _, rfl⟩ := List.mem_map.1 (List.mem_of_mem_drop hu); rfl)) (by omega) (by omega) (by decide) ?_; intro a7 c7 w7 hr7 hb7; have HR7 := Lib.hid hr7; have HB7 := Lib.hid hb7; clear hr7 hb7))

                  obtain ⟨g7, rfl, _⟩ := Row.addr HR7.out (by omega)
                  go_roundg (s.size + 1 - K1)
                  case measure => have := HK1.out; omega
                  case rel =>
                    have hb1 : Below W.heap.size W w6 := HPF.out.bel.trans (HB6.out.mono HPF.out.bel.size)
                    refine ⟨K1, g7, j + (1 + (m - j)), c7, outs.take j ++ px :: outs.drop j, hKs2, rfl, by first | rfl | go_num, rfl, ⟨?_, ?_, HIN.out.symm, fun y hy => ?_, hb1.trans (HB7.out.mono hb1.size)⟩⟩
                    · have h := Row.mono HR7.out (base' := W.heap.size) hb1.size
                      rw [List.map_append, List.map_cons, List.map_take, List.map_drop]
                      exact h
                    · have := HPF.out.len
                      rw [List.length_append, List.length_cons, List.length_take, List.length_drop]; omega
                    · rcases List.mem_append.1 hy with h | h
                      · exact HPF.out.sz y (List.mem_of_mem_take h)
                      · rcases List.mem_cons.1 h with h | h
                        · rw [h]; exact HPS.out
                        · exact HPF.out.sz y (List.mem_of_mem_drop h)
            · have hjm2 : j = m := by omega
              have HEX : Hid (m = (outs.map numsOf).length ∨ ¬ wlt ((outs.map numsOf).getD m []) (numsOf px)) := Lib.hid (.inl (by rw [List.length_map, HPF.out.len]))
              have HNQ : Hid (¬ (outs.map numsOf)[m]? = some (numsOf px)) := Lib.hid (by rw [List.getElem?_eq_none (by rw [List.length_map, HPF.out.len]; omega)]; intro h; cases h)
              rw [hjm2] at HLT HTAKE ⊢
              clear hjm2 hjlt hjm
              have hjm : m ≤ m := Nat.le_refl _
              obtain ⟨ax, hcutr, hrunL⟩ := row_cutL (HPF.out.row) hjm
              have hrunH := fun w => row_cutHM (g := g) hjm (Row.cap HPF.out.row) w
              rw [Nat.sub_self] at hcutr hrunL
              have HCUT := Lib.hid hcutr
              have HIN : Hid (insP (numsOf s) (prefs ((pats ss).take i)) K1 = (outs.take m ++ px :: outs.drop m).map numsOf) := Lib.hid (by
                rw [HST.out, insW_at _ _ m (by rw [List.length_map, HPF.out.len]; exact hjm) HLT.out HEX.out, if_neg HNQ.out, List.map_append, List.map_cons, List.map_take, List.map_drop])
              clear hcutr
              go_wp2_with (first
                | (at_builtin; refine app_row (.tmp 58) (.tmp 61) EST rfl rfl wr.heap.size (.slice (some ⟨wr.heap.size, 0, none⟩) 1 1) 1 [.string px] rfl (World.ownsRow_lit wr _ 1 (Nat.le_refl _) (by decide) rfl) ax 0 _ ((outs.map Value.string).drop m) rfl (HCUT.out.below (below_alloc _ _)) (by intro u hu; obtain ⟨y, _, rfl⟩ := List.mem_map.1 (List.mem_of_mem_drop hu); rfl) (by omega) (by decide) (by simp) ?_; intro a6 c6 w6 hr6 hg6; obtain ⟨g6, rfl, _⟩ := Row.addr hr6 (by omega); have HR6 := Lib.hid hr6; have HB6 := Lib.hid ((below_alloc wr (.cells #[.string px] 9)).grown hg6 (by simp) (fun x hx => by cases hx; exact Nat.le_refl _)); clear hr6 hg6)
                | (at_builtin; refine app_grows (.tmp 66) (.tmp 67) EST rfl rfl g m ((outs.map Value.string).take m) rfl (HTAKE.out _ (HPF.out.row.rdG.below HB6.out)) ⟨g6, 0, none⟩ 1 _ _ rfl (Row.rdG HR6.out) (by intro u hu; rcases List.mem_append.1 hu with hu | hu; (rw [List.mem_singleton] at hu; subst hu; rfl); (obtain ⟨y, _, rfl⟩ := List.mem_map.1 (List.mem_of_mem_drop hu); rfl)) (by omega) (by omega) (by decide) ?_; intro a7 c7 w7 hr7 hb7; have HR7 := Lib.hid hr7; have HB7 := Lib.hid hb7; clear hr7 hb7))

              obtain ⟨g7, rfl, _⟩ := Row.addr HR7.out (by omega)
              go_roundg (s.size + 1 - K1)
              case measure => have := HK1.out; omega
              case rel =>
                have hb1 : Below W.heap.size W w6 := HPF.out.bel.trans (HB6.out.mono HPF.out.bel.size)
                refine ⟨K1, g7, m + 1, c7, outs.take m ++ px :: outs.drop m, hKs2, rfl, by first | rfl | go_num, rfl, ⟨?_, ?_, HIN.out.symm, fun y hy => ?_, hb1.trans (HB7.out.mono hb1.size)⟩⟩
                · have h := Row.mono HR7.out (base' := W.heap.size) hb1.size
                  rw [List.map_append, List.map_cons, List.map_take, List.map_drop]
                  exact h
                · have := HPF.out.len
                  rw [List.length_append, List.length_cons, List.length_take, List.length_drop]; omega
                · rcases List.mem_append.1 hy with h | h
                  · exact HPF.out.sz y (List.mem_of_mem_take h)
                  · rcases List.mem_cons.1 h with h | h
                    · rw [h]; exact HPS.out
                    · exact HPF.out.sz y (List.mem_of_mem_drop h)
        · have hkn : k = s.size := by omega
          subst hkn
          have hk1 : ¬ ((s.size : Int) + 1 ≤ (s.size : Int)) := by omega
          go_wp2
          go_roundg (n - (i + 1))
          case measure => omega
          case rel => exact ⟨i + 1, g, m, c, outs, by omega, rfl, by go_num, rfl, by rw [HNX.out]; exact HPF.out⟩
    · have hin : i = n := by omega
      subst hin
      have HE : Hid ((pats ss).take i = pats ss) := Lib.hid (List.take_of_length_le (by rw [pats_len, HL.out]; omega))
      go_wp2
      go_ret
      exact ⟨g, m, c, outs, rfl, by rw [← HE.out]; exact HPF.out⟩

end Go.Proofs.Ytfhoaehoccfadaa
