/-
  Between of a tree.
-/
import Derived.Test.YtjajlnhobchkgaaURef
import Derived.Test.YtjajlnhobchkgaaRF
import Derived.Test.YtjajlnhobchkgaaRevI
import Derived.Deep.LoopGhost
import Derived.BigQuiet
namespace Go.Proofs.Ytjajlnhobchkgaa
open Go.RowKit
set_option linter.unusedVariables false
set_option linter.unusedSimpArgs false

def BtwPost3 (U D : List Nat) (w : World) (e : Ending) (w' : World) : Prop :=
  ∃ a1 c1 a2 c2, e = .returned (.tuple #[.slice a1 U.length c1, .slice a2 D.length c2, .nilIface]) ∧ Rd w' .i64 a1 U.length (ints U) ∧ Rd w' .i64 a2 D.length (ints D) ∧ Below w.heap.size w w'

theorem between_no (S : Nat → Prop) (bt : Nat) (l : List Nd) (now x y : Int) (w : World) (ht : TI w S bt l now) (hl : 0 < l.length) (h0 : (x < 0 ∨ (0 ≤ x ∧ (l.length : Int) ≤ x)) ∨ ((0 ≤ x ∧ x < (l.length : Int)) ∧ (y < 0 ∨ (0 ≤ y ∧ (l.length : Int) ≤ y)))) :
    Calls Try.prog 16 #[.pointer (some ⟨bt, 0, none⟩), .int .i64 x, .int .i64 y] w fun e w' => e = .returned (.tuple #[.slice none 0 0, .slice none 0 0, .iface 46 (.int .i64 1)]) ∧ w = w' := by
  obtain ⟨g, n, c, vs, hT, rfl, hSg, hSo⟩ := ht.ex
  have hn := hT.hn
  rw [List.length_map] at hl h0
  have hne : ∀ w, (binOp .neq 28 (.iface 46 (.int .i64 1)) .nilIface).run Try.prog w = .ok (.bool true) w := fun w => by kernel_rfl
  have hne2 : ∀ w, (binOp .neq 28 .nilIface .nilIface).run Try.prog w = .ok (.bool false) w := fun w => by kernel_rfl
  rcases h0 with h0 | ⟨⟨h1, h2⟩, h0⟩
  · have H := Lib.hid (check_no bt g n c x w hT.c0 (by omega) (by rw [hn]; exact h0))
    clear ht hT hSg hSo hn hl h0
    go_enter Try.func16, Try.ntmps16
    go_wp2_with fail
    refine H.out.mono ?_
    rintro e w' ⟨rfl, rfl⟩
    go_wp2
    go_ret3
    exact ⟨rfl, rfl⟩
  · have H := Lib.hid (check_ok bt g n c x w hT.c0 (by omega) h1 (by omega))
    have H2 := Lib.hid (check_no bt g n c y w hT.c0 (by omega) (by rw [hn]; exact h0))
    clear ht hT hSg hSo hn hl h0 h1 h2
    go_enter Try.func16, Try.ntmps16
    go_wp2_with fail
    refine H.out.mono ?_
    rintro e w' ⟨rfl, rfl⟩
    go_wp2_with fail
    refine H2.out.mono ?_
    rintro e w' ⟨rfl, rfl⟩
    go_wp2
    go_ret3
    exact ⟨rfl, rfl⟩

theorem ints_map (us : List Nat) : ((ints us).map (Value.int .i64)).length = us.length := by simp [ints]
theorem nodes_depth {l : List Nd} (hw : WfT l) {a : Nat} {us : List Nat} (h : IsPath l a us) {x : Nd} (hx : l[a]? = some x) : (us.length : Int) = x.depth + 1 := (h.facts hw).2.2.2.2 x hx

set_option maxRecDepth 100000 in
set_option maxHeartbeats 4000000 in
theorem between_ok (S : Nat → Prop) (bt : Nat) (l : List Nd) (now : Int) (x y : Nat) (us ws : List Nat) (w : World) (ht : TI w S bt l now) (hw : WfT l) (hx : x < l.length) (hy : y < l.length) (hp : IsPath l x us) (hq : IsPath l y ws) (hlen : l.length ≤ 1000) :
    Calls Try.prog 16 #[.pointer (some ⟨bt, 0, none⟩), .int .i64 x, .int .i64 y] w (BtwPost3 (offP us ws).reverse (offP ws us) w) := by
  obtain ⟨g, n, c, vs, hT, hvs, hSg, hSo⟩ := ht.ex
  have hn := hT.hn
  have hln : l.length = n := by rw [hvs, List.length_map, hn]
  have HCX := Lib.hid (check_ok bt g n c x w hT.c0 (by omega) (by omega) (by omega))
  have HCY := Lib.hid (check_ok bt g n c y w hT.c0 (by omega) (by omega) (by omega))
  have hne : ∀ w, (binOp .neq 28 .nilIface .nilIface).run Try.prog w = .ok (.bool false) w := fun w => by kernel_rfl
  have HNODE : Hid (∀ (i : Nat) (z : Nd), l[i]? = some z → w.cell? ⟨g, i * 5 + 1, none⟩ = some (.int .i64 z.parent) ∧ w.cell? ⟨g, i * 5 + 3, none⟩ = some (.int .i64 z.depth)) := Lib.hid (fun i z hz => by
    rw [hvs, List.getElem?_map, Option.map_eq_some_iff] at hz
    obtain ⟨p, hp, rfl⟩ := hz
    have := hT.node hp
    exact ⟨this.2.1, this.2.2.2.1⟩)
  have HC0 := Lib.hid hT.c0
  have HW := Lib.hid hw
  have HU : Hid (us.length ≤ 1000 ∧ (∀ u ∈ us, u ≤ 1000) ∧ ws.length ≤ 1000 ∧ (∀ u ∈ ws, u ≤ 1000)) := Lib.hid (by
    have k1 := nodes_depth hw hp (List.getElem?_eq_getElem hx)
    have k2 := nodes_depth hw hq (List.getElem?_eq_getElem hy)
    have k3 := hw.dep x _ (List.getElem?_eq_getElem hx)
    have k4 := hw.dep y _ (List.getElem?_eq_getElem hy)
    exact ⟨by omega, fun u hu => by have := hp.le u hu; omega, by omega, fun u hu => by have := hq.le u hu; omega⟩)
  have HP := Lib.hid hp
  have HQ := Lib.hid hq
  have HLN := Lib.hid (And.intro hln (And.intro hx hy))
  have hn9 : n ≤ 1000 := by omega
  clear ht hT hvs hSg hSo hn hln hw hx hy hp hq hlen
  go_enter Try.func16, Try.ntmps16
  go_wp2_with fail
  refine HCX.out.mono ?_
  rintro e w1 ⟨rfl, rfl⟩
  go_wp2_with fail
  refine HCY.out.mono ?_
  rintro e w1 ⟨rfl, rfl⟩
  go_wp2
  go_loopg [1, 2, 6, 7] (x + y) (fun gg xv yv uv dv wr => ∃ (a b : Nat) (us' ws' : List Nat) (U D : List Int) (au ad : Option Addr) (cu cd : Nat), gg = a + b ∧ xv = .int .i64 (a : Int) ∧ yv = .int .i64 (b : Int) ∧ uv = .slice au U.length cu ∧ dv = .slice ad D.length cd ∧ IsPath l a us' ∧ IsPath l b ws' ∧ a < n ∧ b < n ∧ U ++ ints (offP us' ws').reverse = ints (offP us ws).reverse ∧ D ++ ints (offP ws' us').reverse = ints (offP ws us).reverse ∧ RF w.heap.size (fun _ => False) wr [some (3, .slice au U.length cu, U.map (Value.int .i64)), some (3, .slice ad D.length cd, D.map (Value.int .i64))] ∧ Below w.heap.size w wr)
  case atStart =>
    have h1 : RF w.heap.size (fun _ => False) w [some (3, .slice none 0 0, [])] := RF.one (Own.nil w w.heap.size 3 .i64) (fun g hg => by cases hg) (fun b hb => hb.elim) (Nat.le_refl _)
    have h2 := h1.new (w' := w) (e := 3) (v := .slice none 0 0) (xs := []) (Own.nil w w.heap.size 3 .i64) (Below.refl _ _) (.inr rfl)
    exact ⟨x, y, us, ws, [], [], none, none, 0, 0, rfl, rfl, rfl, rfl, rfl, HP.out, HQ.out, by have := HLN.out; omega, by have := HLN.out; omega, rfl, rfl, h2, Below.refl _ _⟩
  case round =>
    obtain ⟨a, b, us', ws', U, D, au, ad, cu, cd, rfl, rfl, rfl, rfl, rfl, hp, hq, ha, hb, hU, hD, hrf, hbel⟩ := hrel
    have HRF := Lib.hid hrf
    have HBEL := Lib.hid hbel
    have hlU : U.length ≤ 1000 := by
      have := congrArg List.length hU
      rw [List.length_append, ints_len, ints_len, List.length_reverse, List.length_reverse] at this
      have h2 := offP_len us ws
      have := HU.out; omega
    have hlD : D.length ≤ 1000 := by
      have := congrArg List.length hD
      rw [List.length_append, ints_len, ints_len, List.length_reverse, List.length_reverse] at this
      have h2 := offP_len ws us
      have := HU.out; omega
    have hc0 := below_cell hbel HC0.out
    have hal : a < l.length := by have := HLN.out; omega
    have hbl : b < l.length := by have := HLN.out; omega
    obtain ⟨xa, hxa⟩ : ∃ z, l[a]? = some z := ⟨_, List.getElem?_eq_getElem hal⟩
    obtain ⟨xb, hxb⟩ : ∃ z, l[b]? = some z := ⟨_, List.getElem?_eq_getElem hbl⟩
    have da := nodes_depth HW.out hp hxa
    have db := nodes_depth HW.out hq hxb
    have na := HNODE.out a xa hxa
    have nb := HNODE.out b xb hxb
    by_cases hab : a = b
    · subst hab
      obtain rfl := hp.uniq _ hq
      rw [offP_self] at hU hD
      have HUU : Hid (U = ints (offP us ws).reverse) := Lib.hid (by simpa [ints] using hU)
      have HDD : Hid (D = ints (offP ws us).reverse) := Lib.hid (by simpa [ints] using hD)
      have HOD : Hid (Own wr w.heap.size 3 .i64 (.slice ad D.length cd) D) := Lib.hid (by have := hrf.own 1 _ _ _ rfl; rw [List.length_map] at this; exact this)
      have HOU : Hid (Own wr w.heap.size 3 .i64 (.slice au U.length cu) U) := Lib.hid (by have := hrf.own 0 _ _ _ rfl; rw [List.length_map] at this; exact this)
      have HNEQ : Hid (∀ k, (Value.slice au U.length cu).ownBlock = some k → (Value.slice ad D.length cd).ownBlock ≠ some k) := Lib.hid (fun k hk => hrf.ne 0 1 _ _ _ _ _ _ k (by decide) rfl rfl hk)
      have HFIN : Hid (∀ w6, Own w6 w.heap.size 3 .i64 (.slice au U.length cu) U → Own w6 w.heap.size 3 .i64 (.slice ad D.length cd) D.reverse → Below w.heap.size w w6 → BtwPost3 (offP us ws).reverse (offP ws us) w (.returned (.tuple #[.slice au U.length cu, .slice ad D.length cd, .nilIface])) w6) := Lib.hid (fun w6 h1 h2 h3 => by
        have e1 : U.length = (offP us ws).reverse.length := by rw [HUU.out, ints_len]
        have e2 : D.length = (offP ws us).length := by rw [HDD.out, ints_len, List.length_reverse]
        have e3 : D.reverse = ints (offP ws us) := by rw [HDD.out]; simp [ints]
        rw [e1, HUU.out] at h1
        rw [e2, e3] at h2
        refine ⟨au, cu, ad, cd, by rw [e1, e2], ?_, ?_, h3⟩
        · exact Own.rd' h1 (ints_wf (v := 1000) (fun u hu => HU.out.2.1 u (offP_mem (List.mem_reverse.1 hu))) (Nat.le_refl _))
        · exact Own.rd' h2 (ints_wf (v := 1000) (fun u hu => HU.out.2.2.2 u (offP_mem hu)) (Nat.le_refl _)))
      clear hp hq hU hD hrf na nb da db hxa hxb hal hbl
      rcases HOD.out.2 with ⟨hv, h0⟩ | ⟨gd, cap, cur, hv, -⟩
      · simp only [Value.slice.injEq] at hv
        obtain ⟨rfl, hD0, rfl⟩ := hv
        have hDn := List.eq_nil_of_length_eq_zero hD0
        subst hDn
        clear hD0 h0 hbel
        go_wp2_with fail
        refine (revnil_any wr).mono ?_
        rintro e w6 ⟨rfl, rfl⟩
        go_wp2
        go_ret3
        exact HFIN.out wr HOU.out HOD.out HBEL.out
      · simp only [Value.slice.injEq] at hv
        obtain ⟨rfl, -, -⟩ := hv
        clear hbel
        go_wp2_with fail
        refine (revi_any w.heap.size gd D.length cd D wr HOD.out rfl (by omega)).mono ?_
        rintro e w6 ⟨rfl, ho6, hg6⟩
        have HO6 := Lib.hid ho6
        have HG6 := Lib.hid hg6
        clear ho6 hg6
        go_wp2
        go_ret3
        refine HFIN.out w6 (HOU.out.kept HG6.out ?_) HO6.out (HBEL.out.trans ((Below.refl _ _).grown HG6.out HBEL.out.size (fun k hk => by cases hk; exact (Row.block_lt HOD.out rfl).2)))
        cases hk : (Value.slice au U.length cu).ownBlock with
        | none => exact .inl rfl
        | some k => exact .inr (fun e => HNEQ.out k hk (by cases e; rfl))
    · have hneb : ((a : Int) == (b : Int)) = false := beq_eq_false_iff_ne.2 (by omega)
      have haz : (a : Int) < (n : Int) := by omega
      have hbz : (b : Int) < (n : Int) := by omega
      by_cases hdep : ws'.length ≤ us'.length
      · have hdd : decide (xb.depth ≤ xa.depth) = true := decide_eq_true (by omega)
        obtain ⟨p, vs', x', k1, k2, k3, k4, k5, k6⟩ := btw_up HW.out hp hq hdep hab
        rw [hxa] at k2
        cases k2
        have HK := Lib.hid (And.intro k1 (And.intro hq (And.intro k4 (And.intro k5 k6))))
        have HUD := Lib.hid (And.intro hU hD)
        have hc1 := below_cell hbel na.1
        have hc2 := below_cell hbel na.2
        have hc3 := below_cell hbel nb.2
        rw [k3] at hc1
        have HNB := Lib.hid (show w.cell? ⟨g, a * 5 + 1, none⟩ = some (.int .i64 (p : Int)) by rw [← k3]; exact na.1)
        generalize xa.depth = dA at *
        generalize xb.depth = dB at *
        clear hp hq hU hD hrf na nb da db hxa hxb hal hbl hdep hab k1 k3 k4 k5 k6
        go_wp2_with fail
        go_quiet (fail)
        obtain ⟨wq, hwq⟩ : ∃ wq, wq = wr.drewN nq := ⟨_, rfl⟩
        rw [← hwq]
        have hbq : Below wr.heap.size wr wq := by rw [hwq]; exact ⟨rfl, rfl, rfl, Nat.le_refl _, fun _ _ => rfl⟩
        have HRFQ := Lib.hid (HRF.out.below hbq)
        have HBQ : Hid (Below w.heap.size w wq) := Lib.hid (HBEL.out.trans (hbq.mono HBEL.out.size))
        have HNA := Lib.hid HNB.out
        clear hc0 hc1 hc2 hc3 hbq hwq hbel hdd
        go_wp2_with (at_builtin; refine RF.append HRFQ.out (i := 0) rfl U.length (by rw [List.length_map]) (below_alloc wq _) (.tmp 43) (.tmp 45) EIG rfl rfl rfl _ 1 _ [.int .i64 (a : Int)] rfl (RdG.lits wq 1 3 1 [.int .i64 (a : Int)] rfl) (by simp [Value.oneCell']) (by omega) (by decide) ?_; intro a7 c7 w7 hrf7 hg7 hbl7 hfr7; have hb7 := HBQ.out.trans (hbl7.mono (Nat.le_refl _)); have HB7 := Lib.hid hb7; have HRF7 := Lib.hid hrf7; have x0 := below_cell hb7 HC0.out; have x1 := below_cell hb7 HNA.out; clear hrf7 hg7 hbl7 hfr7 hb7)
        go_roundg (p + b)
        case measure => have := HK.out.2.2.1; omega
        case rel =>
          obtain ⟨q1, q2, q3, q4, q5⟩ := HK.out
          obtain ⟨u1, u2⟩ := HUD.out
          refine ⟨p, b, vs', ws', U ++ [(a : Int)], D, a7, ad, c7, cd, rfl, rfl, rfl, by simp, rfl, q1, q2, by omega, by omega, ?_, ?_, ?_, HB7.out⟩
          · rw [← u1, q4, List.append_assoc]; rfl
          · rw [← u2, q5]
          · have h := HRF7.out
            rw [List.length_append, List.map_append]
            exact h
      · have hdep2 : us'.length < ws'.length := by omega
        have hdd : decide (xb.depth ≤ xa.depth) = false := decide_eq_false (by omega)
        obtain ⟨p, vs', x', k1, k2, k3, k4, k5, k6⟩ := btw_down HW.out hp hq hdep2
        rw [hxb] at k2
        cases k2
        have HK := Lib.hid (And.intro hp (And.intro k1 (And.intro k4 (And.intro k5 k6))))
        have HUD := Lib.hid (And.intro hU hD)
        have hc1 := below_cell hbel nb.1
        have hc2 := below_cell hbel na.2
        have hc3 := below_cell hbel nb.2
        rw [k3] at hc1
        have HNB := Lib.hid (show w.cell? ⟨g, b * 5 + 1, none⟩ = some (.int .i64 (p : Int)) by rw [← k3]; exact nb.1)
        generalize xa.depth = dA at *
        generalize xb.depth = dB at *
        clear hp hq hU hD hrf na nb da db hxa hxb hal hbl hdep hdep2 hab k1 k3 k4 k5 k6
        go_wp2_with fail
        go_quiet (fail)
        obtain ⟨wq, hwq⟩ : ∃ wq, wq = wr.drewN nq := ⟨_, rfl⟩
        rw [← hwq]
        have hbq : Below wr.heap.size wr wq := by rw [hwq]; exact ⟨rfl, rfl, rfl, Nat.le_refl _, fun _ _ => rfl⟩
        have HRFQ := Lib.hid (HRF.out.below hbq)
        have HBQ : Hid (Below w.heap.size w wq) := Lib.hid (HBEL.out.trans (hbq.mono HBEL.out.size))
        have HNA := Lib.hid HNB.out
        clear hc0 hc1 hc2 hc3 hbq hwq hbel hdd
        go_wp2_with (at_builtin; refine RF.append HRFQ.out (i := 1) rfl D.length (by rw [List.length_map]) (below_alloc wq _) (.tmp 55) (.tmp 57) EIG rfl rfl rfl _ 1 _ [.int .i64 (b : Int)] rfl (RdG.lits wq 1 3 1 [.int .i64 (b : Int)] rfl) (by simp [Value.oneCell']) (by omega) (by decide) ?_; intro a7 c7 w7 hrf7 hg7 hbl7 hfr7; have hb7 := HBQ.out.trans (hbl7.mono (Nat.le_refl _)); have HB7 := Lib.hid hb7; have HRF7 := Lib.hid hrf7; have x0 := below_cell hb7 HC0.out; have x1 := below_cell hb7 HNA.out; clear hrf7 hg7 hbl7 hfr7 hb7)
        go_roundg (a + p)
        case measure => have := HK.out.2.2.1; omega
        case rel =>
          obtain ⟨q1, q2, q3, q4, q5⟩ := HK.out
          obtain ⟨u1, u2⟩ := HUD.out
          refine ⟨a, p, us', vs', U, D ++ [(b : Int)], au, a7, cu, c7, rfl, rfl, rfl, rfl, by simp, q1, q2, by omega, by omega, ?_, ?_, ?_, HB7.out⟩
          · rw [← u1, q5]
          · rw [← u2, q4, List.reverse_append, List.append_assoc]; rfl
          · have h := HRF7.out
            rw [List.length_append, List.map_append]
            exact h

end Go.Proofs.Ytjajlnhobchkgaa
