/-
  evergreenlaw29.Cycle: the walk.
-/
import Derived.Test.YtajajkganamfiaaMCycP
import Derived.Test.YtajajkganamfiaaMOdd
namespace Go.Proofs.Ytajajkganamfiaa
open Go.RowKit
set_option linter.unusedVariables false
set_option linter.unusedSimpArgs false

theorem RF.nil {B : Nat} {N : Nat → Prop} {w : World} (nl : ∀ b, N b → b < w.heap.size) (bw : B ≤ w.heap.size) : RF B N w [] :=
  ⟨fun i e v xs hi => by simp [AtR] at hi, fun i j e v xs e' v' xs' g _ hi => by simp [AtR] at hi, fun i e v xs g hi => by simp [AtR] at hi, nl, bw⟩
/-- make([]T, n): the run -/
theorem make_run (P : Program) {t e : TypeId} {z : Value} {bytes : Nat} (E : EltG P t e z 1 bytes) (hz : z.cells = #[z]) (n : Nat) (hb : n * bytes ≤ 281474976710656) (hn : n ≤ 9223372036854775807) : ∃ C : Array Value, C.toList = List.replicate n z ∧ ∀ w : World, (Instr.makeSlice t (.int .i64 (n : Int)) (.int .i64 (n : Int))).run P w = .ok (.slice (some ⟨w.heap.size, 0, none⟩) n n) (w.alloc (.cells C e)) := by
  obtain ⟨i, hi, hz2, hsz, hby⟩ := E.hi
  have hb' : (i.bytes : Int) * (n : Int) ≤ 281474976710656 := by
    have h : ((i.bytes * n : Nat) : Int) ≤ 281474976710656 := by rw [hby, Nat.mul_comm]; omega
    rwa [Int.natCast_mul] at h
  refine ⟨madeCells z.cells (n * i.size), ?_, fun w => ?_⟩
  · rw [hsz, Nat.mul_one, hz, toList_madeCells_one]
  · have hr := run_make (P := P) w t e i z E.ht hi hz2 .i64 .i64 n n (by omega) (by omega) hb' (by omega)
    simp only [Int.toNat_natCast] at hr
    exact hr
theorem RF.newMade {B N w l} (h : RF B N w l) {e : TypeId} {z : Value} {C : Array Value} {n : Nat} (hC : C.toList = List.replicate n z) (hn : n ≤ 9223372036854775807) : RF B N (w.alloc (.cells C e)) (l ++ [some (e, .slice (some ⟨w.heap.size, 0, none⟩) n n, List.replicate n z)]) := by
  refine h.new ?_ (below_alloc _ _) (.inl rfl)
  rw [List.length_replicate]
  refine ⟨by simp, .inr ⟨w.heap.size, n, C, rfl, h.bw, heap_alloc_new w _, Nat.le_refl _, by unfold maxLen; omega, ?_, ?_⟩⟩
  · rw [← Array.length_toList, hC]; simp
  · rw [hC]; simp

theorem at3 {x0 x1 x2 : Option Rw} {rs : List (Option Rw)} {e v xs} {k : Nat} (hk : rs.length = k) : AtR (x0 :: x1 :: x2 :: (rs ++ [some (e, v, xs)])) (k + 3) e v xs := by
  show (rs ++ [some (e, v, xs)])[k]? = _
  rw [List.getElem?_append_right (by omega), hk, Nat.sub_self]; rfl
theorem at3i {x0 x1 x2 : Option Rw} {rs : List (Option Rw)} {e v xs} {i : Nat} (hi : rs[i]? = some (some (e, v, xs))) : AtR (x0 :: x1 :: x2 :: rs) (i + 3) e v xs := hi
theorem heap_alloc_old' (w : World) (o : Obj) (i : Nat) (h : i < w.heap.size) : (w.alloc o).heap[i]? = w.heap[i]? := by
  show (w.heap.push o)[i]? = w.heap[i]?
  rw [Array.getElem?_push, if_neg (Nat.ne_of_lt h)]
theorem al3 (w : World) (a b c : Obj) : ((((w.alloc a).alloc b).alloc c).drew).heap[w.heap.size]? = some a ∧ ((((w.alloc a).alloc b).alloc c).drew).heap[w.heap.size + 1]? = some b ∧ ((((w.alloc a).alloc b).alloc c).drew).heap[w.heap.size + 1 + 1]? = some c ∧ ((((w.alloc a).alloc b).alloc c).drew).heap.size = w.heap.size + 1 + 1 + 1 := by
  have s1 : (w.alloc a).heap.size = w.heap.size + 1 := by simp
  have s2 : ((w.alloc a).alloc b).heap.size = w.heap.size + 1 + 1 := by simp
  have h1 := heap_alloc_new w a
  have h2 := heap_alloc_new (w.alloc a) b
  have h3 := heap_alloc_new ((w.alloc a).alloc b) c
  rw [s1] at h2
  rw [s2] at h3
  refine ⟨?_, ?_, h3, by simp⟩
  · show (((w.alloc a).alloc b).alloc c).heap[w.heap.size]? = some a
    exact (heap_alloc_old' _ _ _ (by omega)).trans ((heap_alloc_old' _ _ _ (by omega)).trans h1)
  · show (((w.alloc a).alloc b).alloc c).heap[w.heap.size + 1]? = some b
    exact (heap_alloc_old' _ _ _ (by omega)).trans h2
/-- two rows and a block of four cells that were made, in whatever order -/
theorem RF.two {B : Nat} {w : World} {e1 e2 : TypeId} {z1 z2 : Value} {C1 C2 : Array Value} {n1 n2 x y q : Nat} (hC1 : C1.toList = List.replicate n1 z1) (hC2 : C2.toList = List.replicate n2 z2) (h1 : n1 ≤ 1000000) (h2 : n2 ≤ 1000000)
    (hx : w.heap[x]? = some (.cells C1 e1)) (hy : w.heap[y]? = some (.cells C2 e2)) (hxy : x ≠ y) (hxq : x ≠ q) (hyq : y ≠ q) (hBx : B ≤ x) (hBy : B ≤ y) (hq : q < w.heap.size) (hB : B ≤ w.heap.size) :
    RF B (fun b => b = q) w [some (e1, .slice (some ⟨x, 0, none⟩) n1 n1, List.replicate n1 z1), some (e2, .slice (some ⟨y, 0, none⟩) n2 n2, List.replicate n2 z2)] := by
  have row : ∀ (e : TypeId) (z : Value) (C : Array Value) (n b : Nat), C.toList = List.replicate n z → n ≤ 1000000 → w.heap[b]? = some (.cells C e) → B ≤ b → Row w B e 1 (.slice (some ⟨b, 0, none⟩) n n) (List.replicate n z).length (List.replicate n z) := fun e z C n b hC hn hb hBb => by
    rw [List.length_replicate]
    refine ⟨by simp, .inr ⟨b, n, C, rfl, hBb, hb, Nat.le_refl _, by unfold maxLen; omega, ?_, ?_⟩⟩
    · rw [← Array.length_toList, hC]; simp
    · rw [hC]; simp
  have get : ∀ {i e v xs}, AtR [some (e1, .slice (some ⟨x, 0, none⟩) n1 n1, List.replicate n1 z1), some (e2, .slice (some ⟨y, 0, none⟩) n2 n2, List.replicate n2 z2)] i e v xs → (i = 0 ∧ e = e1 ∧ v = .slice (some ⟨x, 0, none⟩) n1 n1 ∧ xs = List.replicate n1 z1) ∨ (i = 1 ∧ e = e2 ∧ v = .slice (some ⟨y, 0, none⟩) n2 n2 ∧ xs = List.replicate n2 z2) := by
    intro i e v xs hi
    rcases i with _ | _ | i
    · have h := Option.some.inj (Option.some.inj hi)
      simp only [Prod.mk.injEq] at h
      exact .inl ⟨rfl, h.1.symm, h.2.1.symm, h.2.2.symm⟩
    · have h := Option.some.inj (Option.some.inj hi)
      simp only [Prod.mk.injEq] at h
      exact .inr ⟨rfl, h.1.symm, h.2.1.symm, h.2.2.symm⟩
    · cases hi
  refine ⟨fun i e v xs hi => ?_, fun i j e v xs e' v' xs' g hne hi hj hg hg' => ?_, fun i e v xs g hi hg hN => ?_, fun b hb => by rw [hb]; exact hq, hB⟩
  · rcases get hi with ⟨_, rfl, rfl, rfl⟩ | ⟨_, rfl, rfl, rfl⟩
    · exact row _ _ _ _ _ hC1 h1 hx hBx
    · exact row _ _ _ _ _ hC2 h2 hy hBy
  · rcases get hi with ⟨a1, rfl, rfl, rfl⟩ | ⟨a1, rfl, rfl, rfl⟩ <;> rcases get hj with ⟨a2, rfl, rfl, rfl⟩ | ⟨a2, rfl, rfl, rfl⟩
    · omega
    · simp [Value.ownBlock] at hg hg'; omega
    · simp [Value.ownBlock] at hg hg'; omega
    · omega
  · rcases get hi with ⟨_, rfl, rfl, rfl⟩ | ⟨_, rfl, rfl, rfl⟩ <;> (simp [Value.ownBlock] at hg; omega)

/-- what Cycle returns -/
def CycPost (n : Nat) (w : World) (e : Ending) (w' : World) : Prop :=
  ∃ ac cc an cn aa ca, e = .returned (.agg #[.int .i64 0, .slice ac 256 cc, .slice an n cn, .slice aa n ca]) ∧ Below w.heap.size w w' ∧ RdM w' ac 256 an n aa n cycC (cycN n) (cycA n)
/-- its rows, as numbers -/
def cycR (i n : Nat) : List (List Nat) := (List.range i).map fun j => [(j + 1) % n]
theorem cycR_succ (i n : Nat) : cycR (i + 1) n = cycR i n ++ [[(i + 1) % n]] := by simp [cycR, List.range_succ]
theorem cycR_len (i n : Nat) : (cycR i n).length = i := by simp [cycR]
theorem cycR_all (n : Nat) : (cycR n n).map nints = cycN n := by simp [cycR, cycN, nints]
/-- the state of its loop -/
structure CyL (n B q x y : Nat) (w1 wr : World) (i : Nat) (aN : Option Addr) (cN : Nat) (xs : List Value) (rs : List (Option Rw)) : Prop where
  rf : RF B (fun b => b = q) wr (some (3, .slice (some ⟨x, 0, none⟩) 256 256, iv (List.replicate 256 0)) :: some (4, .slice (some ⟨y, 0, none⟩) n n, (cycA n).map Value.bool) :: some (22, .slice aN i cN, xs) :: rs)
  ct : CT wr q 0 (.slice (some ⟨x, 0, none⟩) 256 256) (.slice aN i cN) (.slice (some ⟨y, 0, none⟩) n n)
  ro : RowsAt xs rs (cycR i n) 1
  be : Below B w1 wr

set_option maxRecDepth 100000 in
set_option maxHeartbeats 4000000 in
theorem cycle_any (n : Nat) (h0 : 0 < n) (h9 : n ≤ 256) (w : World) : Calls Try.prog 25 #[.int .i64 (n : Nat)] w (CycPost n w) := by
  obtain ⟨w1, hw1⟩ : ∃ w1, w1 = w.alloc (.cells #[.int .i64 0, .slice none 0 0, .slice none 0 0, .slice none 0 0] 26) := ⟨_, rfl⟩
  have HB1 : Hid (Below w.heap.size w w1) := Lib.hid (by rw [hw1]; exact below_alloc _ _)
  have HS1 : Hid (w1.heap.size = w.heap.size + 1) := Lib.hid (by rw [hw1]; simp)
  have HRES : Hid (CT w1 w.heap.size 0 (.slice none 0 0) (.slice none 0 0) (.slice none 0 0)) := Lib.hid (by rw [hw1]; exact alloc_ct _ _ _ _ _ _)
  have HW1 := Lib.hid hw1
  obtain ⟨B, hB⟩ : ∃ B, B = w1.heap.size := ⟨_, rfl⟩
  have HBB := Lib.hid hB
  have hni : (n : Int) ≤ 256 := by omega
  have h0i : (0 : Int) < (n : Int) := by omega
  have HN := Lib.hid (And.intro h0 h9)
  clear hw1 h0 h9
  go_enter Try.func25, Try.ntmps25
  go_upto_region 1 with fail
  rw [← HW1.out]
  obtain ⟨CI, hCI, hmI⟩ := make_run Try.prog EIG rfl 256 (by decide) (by decide)
  obtain ⟨CB, hCB, hmB⟩ := make_run Try.prog EBG rfl n (by have := HN.out; omega) (by have := HN.out; omega)
  have hmI : ∀ w : World, (Instr.makeSlice 22 (.int .i64 256) (.int .i64 256)).run Try.prog w = .ok (.slice (some ⟨w.heap.size, 0, none⟩) 256 256) (w.alloc (.cells CI 3)) := hmI
  have HCI := Lib.hid hCI
  have HCB := Lib.hid hCB
  clear hCI hCB hB
  go_region_law (fail)
  · obtain ⟨wf, hwf⟩ : ∃ wf, wf = (((w1.alloc (.cells CI 3)).alloc (.cells CB 4)).alloc (.cells #[.int .i64 0, .slice (some ⟨w1.heap.size, 0, none⟩) 256 256, .slice none 0 0, .slice (some ⟨w1.heap.size + 1, 0, none⟩) n n] 26)).drew := ⟨_, rfl⟩
    rw [← hwf]
    obtain ⟨x, hx⟩ : ∃ x, x = w1.heap.size := ⟨_, rfl⟩
    obtain ⟨y, hy⟩ : ∃ y, y = w1.heap.size + 1 := ⟨_, rfl⟩
    obtain ⟨q, hq⟩ : ∃ q, q = w1.heap.size + 1 + 1 := ⟨_, rfl⟩
    have HX : Hid (B ≤ x ∧ B ≤ y ∧ B ≤ q ∧ x ≠ y ∧ x ≠ q ∧ y ≠ q) := Lib.hid (by have := HBB.out; omega)
    have HBF : Hid (Below B w1 wf) := Lib.hid (by rw [hwf, HBB.out]; exact ((((Below.refl _ _).alloc (by simp) _).alloc (by simp; try omega) _).alloc (by simp; try omega) _).drew)
    have HRF0 : Hid (RF B (fun b => b = q) wf [some (3, .slice (some ⟨x, 0, none⟩) 256 256, List.replicate 256 (.int .i64 0)), some (4, .slice (some ⟨y, 0, none⟩) n n, List.replicate n (.bool false))]) := Lib.hid (by
      refine RF.two HCI.out HCB.out (by decide) (by have := HN.out; omega) ?_ ?_ HX.out.2.2.2.1 HX.out.2.2.2.2.1 HX.out.2.2.2.2.2 HX.out.1 HX.out.2.1 ?_ ?_
      · rw [hwf, hx]; exact (al3 _ _ _ _).1
      · rw [hwf, hy]; exact (al3 _ _ _ _).2.1
      · rw [hwf, hq, (al3 _ _ _ _).2.2.2]; omega
      · rw [hwf, (al3 _ _ _ _).2.2.2, HBB.out]; omega)
    have HCT0 : Hid (CT wf q 0 (.slice (some ⟨x, 0, none⟩) 256 256) (.slice none 0 0) (.slice (some ⟨y, 0, none⟩) n n)) := Lib.hid (by
      rw [hwf]
      rw [hq, hx, hy]
      have h := alloc_ct ((w1.alloc (.cells CI 3)).alloc (.cells CB 4)) 0 (.slice (some ⟨w1.heap.size, 0, none⟩) 256 256) (.slice none 0 0) (.slice (some ⟨w1.heap.size + 1, 0, none⟩) n n) 26
      rw [show ((w1.alloc (.cells CI 3)).alloc (.cells CB 4)).heap.size = w1.heap.size + 1 + 1 by simp] at h
      exact h.below (Below.drew (Below.refl _ _)))
    rw [← hq, ← hy, ← hx]
    clear hwf hx hy hq
    obtain ⟨c0, c1, c2, c3, cf⟩ := HCT0.out
    have hln : (List.replicate n (Value.bool false)).length = n := List.length_replicate
    go_wp2_with (refine guard_op (.store 4 (.tmp 11) (.const (.bool true))) rfl ?_; refine RF.store HRF0.out (i := 1) rfl rfl 4 (.tmp 11) (.const (.bool true)) rfl 0 rfl (.bool true) rfl rfl rfl (by kernel_rfl) (by rw [hln]; exact HN.out.1) ?_; intro w4 hrf4 hg4 hbl4 hfr4; have HRF4 := Lib.hid hrf4; have HB4 : Hid (Below B w1 w4) := Lib.hid (HBF.out.trans hbl4); have HCT4 := Lib.hid (HCT0.out.fr hfr4 (fun h => h rfl)); clear hrf4 hg4 hbl4 hfr4 c0 c1 c2 c3 cf)
    have HL0 : Hid (CyL n B q x y w1 w4 0 none 0 [] []) := Lib.hid ⟨by
      have h1 := HRF4.out
      have e1 : (List.replicate n (Value.bool false)).set 0 (.bool true) = (cycA n).map Value.bool := by
        apply List.ext_getElem (by simp [cycA])
        intro j j1 j2
        simp only [List.getElem_set, List.getElem_replicate, cycA, List.getElem_map, List.getElem_range]
        by_cases hj : j = 0
        · subst hj; simp
        · simp [hj, Ne.symm hj]
      have h2 := h1.new (w' := w4) (e := 22) (v := .slice none 0 0) (xs := []) (World.ownsRow_nil _ _ _ _) (Below.refl _ _) (.inr rfl)
      rw [show iv (List.replicate 256 0) = List.replicate 256 (.int .i64 0) by simp [iv], ← e1]
      exact h2, HCT4.out, ⟨rfl, rfl, fun j r h => by simp [cycR] at h⟩, HB4.out⟩
    clear hln
    go_wp2
    go_loopw [4] (fun iv0 wr => ∃ (i : Nat) (aN : Option Addr) (cN : Nat) (xs : List Value) (rs : List (Option Rw)), iv0 = .int .i64 i ∧ i ≤ n ∧ CyL n B q x y w1 wr i aN cN xs rs) (fun iv0 _ => n - (intOf iv0).toNat)
    case atStart => exact ⟨0, none, 0, [], [], rfl, by omega, HL0.out⟩
    case round =>
      obtain ⟨i, aN, cN, xs, rs, rfl, hi, hl⟩ := hrel
      have HL := Lib.hid hl
      obtain ⟨c0, c1, c2, c3, cf⟩ := hl.ct
      have hxl : xs.length = i := by rw [hl.ro.1, cycR_len]
      have hrl : rs.length = i := by rw [hl.ro.2.1, cycR_len]
      have HXL := Lib.hid hxl
      have HRL := Lib.hid hrl
      have hiI : (i : Int) ≤ (n : Int) := by omega
      clear hl hxl hrl
      by_cases hlt : i < n
      · have hii : (i : Int) < (n : Int) := by omega
        have HLT := Lib.hid hlt
        obtain ⟨m, hm⟩ : ∃ m, m = (i + 1) % n := ⟨_, rfl⟩
        have HM := Lib.hid hm
        have hrem : ((i : Int) + 1).tmod (n : Int) = (m : Int) := by rw [Int.tmod_eq_emod_of_nonneg (by omega), hm]; push_cast; rfl
        have hw1a : IntKind.i64.wrap ((i : Int) + 1) = (i : Int) + 1 := IntWalk.i64_in _ (by omega)
        have hmn : m < n := by rw [hm]; exact Nat.mod_lt _ HN.out.1
        have hw2a : IntKind.i64.wrap (m : Int) = (m : Int) := IntWalk.i64_in _ (by omega)
        have hn0 : ¬ (n : Int) = 0 := by omega
        have hn00 : ¬ n = 0 := by omega
        have hnb : ((n : Int) == 0) = false := by rw [beq_eq_false_iff_ne]; exact hn0
        have c2d : wr.drew.cell? ⟨q, 2, none⟩ = some (.slice aN i cN) := c2
        have c2a : ∀ o, (wr.alloc o).cell? ⟨q, 2, none⟩ = some (.slice aN i cN) := fun o => below_cell (below_alloc wr o) c2
        have c2b : ∀ o o', ((wr.alloc o).alloc o').cell? ⟨q, 2, none⟩ = some (.slice aN i cN) := fun o o' => below_cell (below_alloc (wr.alloc o) o') (c2a o)
        have HRN : Hid (RF B (fun b => b = q) (wr.alloc (.cells #[.int .i64 (m : Int)] 3)) (some (3, .slice (some ⟨x, 0, none⟩) 256 256, iv (List.replicate 256 0)) :: some (4, .slice (some ⟨y, 0, none⟩) n n, (cycA n).map Value.bool) :: some (22, .slice aN i cN, xs) :: (rs ++ [some (3, .slice (some ⟨wr.heap.size, 0, none⟩) 1 1, iv [m])]))) := Lib.hid (by
          have h1 := HL.out.rf.new (w' := wr.alloc (.cells #[.int .i64 (m : Int)] 3)) (e := 3) (v := .slice (some ⟨wr.heap.size, 0, none⟩) 1 1) (xs := iv [m]) (by
            have h2 := Own.lits wr .i64 3 [(m : Int)] B HL.out.rf.bw (by simp)
            simpa [Own, iv] using h2) (below_alloc _ _) (.inl rfl)
          simpa using h1)
        have HRDG : Hid (RdG ((wr.alloc (.cells #[.int .i64 (m : Int)] 3)).alloc (.cells #[.slice (some ⟨wr.heap.size, 0, none⟩) 1 1] 22)).drew 1 (some ⟨wr.heap.size + 1, 0, none⟩) 1 [.slice (some ⟨wr.heap.size, 0, none⟩) 1 1]) := Lib.hid (by
          have h := (RdG.lits (wr.alloc (.cells #[.int .i64 (m : Int)] 3)) 1 22 1 [.slice (some ⟨wr.heap.size, 0, none⟩) 1 1] rfl).drew
          rw [show (wr.alloc (.cells #[.int .i64 (m : Int)] 3)).heap.size = wr.heap.size + 1 by simp] at h
          exact h)
        clear hm hlt hi
        go_upto_region 6 with fail
        go_region_law (refine RF.stepAppend HRN.out (i := 2) rfl i HXL.out.symm ((below_alloc _ _).drew) (.tmp 18) (.tmp 24) ESI rfl rfl rfl _ 1 _ [.slice (some ⟨wr.heap.size, 0, none⟩) 1 1] rfl HRDG.out (by simp [Value.oneCell']) (by have := HLT.out; have := HN.out; omega) (by decide) ?_; intro a9 c9 w10 hrf10 hg10 hbl10 hfr10; have hq92 := ((HL.out.ct.below (below_alloc _ _)).fr hfr10 (fun h => h rfl)).c2; have hqf9 := ((HL.out.ct.below (below_alloc _ _)).fr hfr10 (fun h => h rfl)).fz 2)
        all_goals
          obtain ⟨w11, hw11⟩ : ∃ w11, w11 = w10.setCell ⟨q, 2, none⟩ (.slice a9 (i + 1) c9) := ⟨_, rfl⟩
          have HCY : Hid (CyL n B q x y w1 w11 (i + 1) a9 c9 (xs ++ [.slice (some ⟨wr.heap.size, 0, none⟩) 1 1]) (rs ++ [some (3, .slice (some ⟨wr.heap.size, 0, none⟩) 1 1, iv [m])])) := Lib.hid ⟨by
            rw [hw11]; exact hrf10.cells ((Fr.refl (fun b => b = q) w10).setCell (p := ⟨q, 2, none⟩) rfl _), by
            rw [hw11]; exact ((HL.out.ct.below (below_alloc _ _)).fr hfr10 (fun h => h rfl)).set2 _, by
            rw [cycR_succ, ← HM.out]; exact HL.out.ro.push _ _ _, by
            rw [hw11]; exact ((HL.out.be.alloc HL.out.rf.bw _).trans hbl10).setCell HX.out.2.2.1 _⟩
          rw [← hw11]
          clear hw11 hrf10 hg10 hbl10 hfr10 hq92 hqf9 c0 c1 c2 c3 cf c2d c2a c2b
          go_wp2
          exact ⟨⟨i + 1, a9, c9, _, _, by go_num, HLT.out, HCY.out⟩, by have := HLT.out; simp only [intOf]; omega⟩
      · obtain rfl : i = n := by omega
        have HBW : Hid (Below w1.heap.size w1 wr) := Lib.hid (by rw [← HBB.out]; exact HL.out.be)
        obtain ⟨r0, r1, r2, r3, rf⟩ := HRES.out.below HBW.out
        have rf0 := rf 0
        have rf1 := rf 1
        have rf2 := rf 2
        have rf3 := rf 3
        have HFIN : Hid (∀ wf, Fr (fun b => b = w.heap.size) wr wf → CycPost i w (.returned (.agg #[.int .i64 0, .slice (some ⟨x, 0, none⟩) 256 256, .slice aN i cN, .slice (some ⟨y, 0, none⟩) i i])) wf) := Lib.hid (fun wf hf => by
          have hWB : w.heap.size < B := by have h1 := HS1.out; have h2 := HBB.out; omega
          have hrf' := HL.out.rf.fr hf (fun j e v us g hj hg e2 => by have := (HL.out.rf.lt hj hg).2; omega)
          refine ⟨_, _, _, _, _, _, rfl, ((HB1.out.trans (HBW.out.mono (by have := HS1.out; omega))).trans (hf.below (fun b e => by omega) (by have h1 := HB1.out.size; have h2 := HBW.out.size; omega))), ?_, ?_, ?_⟩
          · have h := hrf'.rdN (i := 0) rfl (fun u hu => by have := (List.mem_replicate.1 hu).2; omega)
            rw [show nints (List.replicate 256 0) = cycC by simp [nints, cycC]] at h
            exact h
          · obtain ⟨e1, e2, e3⟩ := HL.out.ro
            have hN := HN.out
            refine ⟨by rw [cycN_len], by omega, fun j hj => ?_⟩
            obtain ⟨gN, rfl⟩ := hrf'.addr (i := 2) rfl (by rw [e1, cycR_len]; omega)
            obtain ⟨r, hr⟩ : ∃ r, (cycR i i)[j]? = some r := ⟨_, List.getElem?_eq_getElem (by rw [cycR_len]; exact hj)⟩
            have hrj : r = [(j + 1) % i] := by simpa [cycR, hj] using hr.symm
            obtain ⟨g3, c3, e4, e5⟩ := e3 j r hr
            refine ⟨gN, 0, some ⟨g3, 0, none⟩, 1, c3, rfl, by rw [Nat.zero_add]; exact hrf'.cell (i := 2) rfl e4, ?_, ?_⟩
            · have hrd := hrf'.rdN (i := j + 3) (at3i e5) (fun u hu => by
                rw [hrj] at hu
                have := Nat.mod_lt (j + 1) (show 0 < i by omega)
                simp at hu; omega)
              rw [cycN_get hj]
              rw [hrj] at hrd
              simpa [nints] using hrd
            · have ho := hrf'.own (j + 3) _ _ _ (at3i e5)
              exact Row.cap ho
          · exact hrf'.rdB (i := 1) rfl (by have := HN.out; omega))
        have hii : decide ((i : Int) < (i : Int)) = false := by simp
        clear rf hlt hi cf
        go_wp2
        exact bodyPost_ret (v := .agg #[.int .i64 0, .slice (some ⟨x, 0, none⟩) 256 256, .slice aN i cN, .slice (some ⟨y, 0, none⟩) i i]) (by simp [results, Try.results25, go_sem, r0, r1, r2, r3]) rfl (HFIN.out _ (fr4 wr w.heap.size (.int .i64 0) (.slice (some ⟨x, 0, none⟩) 256 256) (.slice aN i cN) (.slice (some ⟨y, 0, none⟩) i i)))
  · obtain ⟨wf, hwf⟩ : ∃ wf, wf = (((w1.alloc (.cells CI 3)).alloc (.cells #[.int .i64 0, .slice (some ⟨w1.heap.size, 0, none⟩) 256 256, .slice none 0 0, .slice (some ⟨w1.heap.size + 1 + 1, 0, none⟩) n n] 26)).alloc (.cells CB 4)).drew := ⟨_, rfl⟩
    rw [← hwf]
    obtain ⟨x, hx⟩ : ∃ x, x = w1.heap.size := ⟨_, rfl⟩
    obtain ⟨y, hy⟩ : ∃ y, y = w1.heap.size + 1 + 1 := ⟨_, rfl⟩
    obtain ⟨q, hq⟩ : ∃ q, q = w1.heap.size + 1 := ⟨_, rfl⟩
    have HX : Hid (B ≤ x ∧ B ≤ y ∧ B ≤ q ∧ x ≠ y ∧ x ≠ q ∧ y ≠ q) := Lib.hid (by have := HBB.out; omega)
    have HBF : Hid (Below B w1 wf) := Lib.hid (by rw [hwf, HBB.out]; exact ((((Below.refl _ _).alloc (by simp) _).alloc (by simp; try omega) _).alloc (by simp; try omega) _).drew)
    have HRF0 : Hid (RF B (fun b => b = q) wf [some (3, .slice (some ⟨x, 0, none⟩) 256 256, List.replicate 256 (.int .i64 0)), some (4, .slice (some ⟨y, 0, none⟩) n n, List.replicate n (.bool false))]) := Lib.hid (by
      refine RF.two HCI.out HCB.out (by decide) (by have := HN.out; omega) ?_ ?_ HX.out.2.2.2.1 HX.out.2.2.2.2.1 HX.out.2.2.2.2.2 HX.out.1 HX.out.2.1 ?_ ?_
      · rw [hwf, hx]; exact (al3 _ _ _ _).1
      · rw [hwf, hy]; exact (al3 _ _ _ _).2.2.1
      · rw [hwf, hq, (al3 _ _ _ _).2.2.2]; omega
      · rw [hwf, (al3 _ _ _ _).2.2.2, HBB.out]; omega)
    have HCT0 : Hid (CT wf q 0 (.slice (some ⟨x, 0, none⟩) 256 256) (.slice none 0 0) (.slice (some ⟨y, 0, none⟩) n n)) := Lib.hid (by
      rw [hwf]
      rw [hq, hx, hy]
      have h := alloc_ct (w1.alloc (.cells CI 3)) 0 (.slice (some ⟨w1.heap.size, 0, none⟩) 256 256) (.slice none 0 0) (.slice (some ⟨w1.heap.size + 1 + 1, 0, none⟩) n n) 26
      rw [show (w1.alloc (.cells CI 3)).heap.size = w1.heap.size + 1 by simp] at h
      exact (h.below (below_alloc _ _)).below (Below.drew (Below.refl _ _)))
    rw [← hy, ← hq, ← hx]
    clear hwf hx hy hq
    obtain ⟨c0, c1, c2, c3, cf⟩ := HCT0.out
    have hln : (List.replicate n (Value.bool false)).length = n := List.length_replicate
    go_wp2_with (refine guard_op (.store 4 (.tmp 11) (.const (.bool true))) rfl ?_; refine RF.store HRF0.out (i := 1) rfl rfl 4 (.tmp 11) (.const (.bool true)) rfl 0 rfl (.bool true) rfl rfl rfl (by kernel_rfl) (by rw [hln]; exact HN.out.1) ?_; intro w4 hrf4 hg4 hbl4 hfr4; have HRF4 := Lib.hid hrf4; have HB4 : Hid (Below B w1 w4) := Lib.hid (HBF.out.trans hbl4); have HCT4 := Lib.hid (HCT0.out.fr hfr4 (fun h => h rfl)); clear hrf4 hg4 hbl4 hfr4 c0 c1 c2 c3 cf)
    have HL0 : Hid (CyL n B q x y w1 w4 0 none 0 [] []) := Lib.hid ⟨by
      have h1 := HRF4.out
      have e1 : (List.replicate n (Value.bool false)).set 0 (.bool true) = (cycA n).map Value.bool := by
        apply List.ext_getElem (by simp [cycA])
        intro j j1 j2
        simp only [List.getElem_set, List.getElem_replicate, cycA, List.getElem_map, List.getElem_range]
        by_cases hj : j = 0
        · subst hj; simp
        · simp [hj, Ne.symm hj]
      have h2 := h1.new (w' := w4) (e := 22) (v := .slice none 0 0) (xs := []) (World.ownsRow_nil _ _ _ _) (Below.refl _ _) (.inr rfl)
      rw [show iv (List.replicate 256 0) = List.replicate 256 (.int .i64 0) by simp [iv], ← e1]
      exact h2, HCT4.out, ⟨rfl, rfl, fun j r h => by simp [cycR] at h⟩, HB4.out⟩
    clear hln
    go_wp2
    go_loopw [4] (fun iv0 wr => ∃ (i : Nat) (aN : Option Addr) (cN : Nat) (xs : List Value) (rs : List (Option Rw)), iv0 = .int .i64 i ∧ i ≤ n ∧ CyL n B q x y w1 wr i aN cN xs rs) (fun iv0 _ => n - (intOf iv0).toNat)
    case atStart => exact ⟨0, none, 0, [], [], rfl, by omega, HL0.out⟩
    case round =>
      obtain ⟨i, aN, cN, xs, rs, rfl, hi, hl⟩ := hrel
      have HL := Lib.hid hl
      obtain ⟨c0, c1, c2, c3, cf⟩ := hl.ct
      have hxl : xs.length = i := by rw [hl.ro.1, cycR_len]
      have hrl : rs.length = i := by rw [hl.ro.2.1, cycR_len]
      have HXL := Lib.hid hxl
      have HRL := Lib.hid hrl
      have hiI : (i : Int) ≤ (n : Int) := by omega
      clear hl hxl hrl
      by_cases hlt : i < n
      · have hii : (i : Int) < (n : Int) := by omega
        have HLT := Lib.hid hlt
        obtain ⟨m, hm⟩ : ∃ m, m = (i + 1) % n := ⟨_, rfl⟩
        have HM := Lib.hid hm
        have hrem : ((i : Int) + 1).tmod (n : Int) = (m : Int) := by rw [Int.tmod_eq_emod_of_nonneg (by omega), hm]; push_cast; rfl
        have hw1a : IntKind.i64.wrap ((i : Int) + 1) = (i : Int) + 1 := IntWalk.i64_in _ (by omega)
        have hmn : m < n := by rw [hm]; exact Nat.mod_lt _ HN.out.1
        have hw2a : IntKind.i64.wrap (m : Int) = (m : Int) := IntWalk.i64_in _ (by omega)
        have hn0 : ¬ (n : Int) = 0 := by omega
        have hn00 : ¬ n = 0 := by omega
        have hnb : ((n : Int) == 0) = false := by rw [beq_eq_false_iff_ne]; exact hn0
        have c2d : wr.drew.cell? ⟨q, 2, none⟩ = some (.slice aN i cN) := c2
        have c2a : ∀ o, (wr.alloc o).cell? ⟨q, 2, none⟩ = some (.slice aN i cN) := fun o => below_cell (below_alloc wr o) c2
        have c2b : ∀ o o', ((wr.alloc o).alloc o').cell? ⟨q, 2, none⟩ = some (.slice aN i cN) := fun o o' => below_cell (below_alloc (wr.alloc o) o') (c2a o)
        have HRN : Hid (RF B (fun b => b = q) (wr.alloc (.cells #[.int .i64 (m : Int)] 3)) (some (3, .slice (some ⟨x, 0, none⟩) 256 256, iv (List.replicate 256 0)) :: some (4, .slice (some ⟨y, 0, none⟩) n n, (cycA n).map Value.bool) :: some (22, .slice aN i cN, xs) :: (rs ++ [some (3, .slice (some ⟨wr.heap.size, 0, none⟩) 1 1, iv [m])]))) := Lib.hid (by
          have h1 := HL.out.rf.new (w' := wr.alloc (.cells #[.int .i64 (m : Int)] 3)) (e := 3) (v := .slice (some ⟨wr.heap.size, 0, none⟩) 1 1) (xs := iv [m]) (by
            have h2 := Own.lits wr .i64 3 [(m : Int)] B HL.out.rf.bw (by simp)
            simpa [Own, iv] using h2) (below_alloc _ _) (.inl rfl)
          simpa using h1)
        have HRDG : Hid (RdG ((wr.alloc (.cells #[.int .i64 (m : Int)] 3)).alloc (.cells #[.slice (some ⟨wr.heap.size, 0, none⟩) 1 1] 22)).drew 1 (some ⟨wr.heap.size + 1, 0, none⟩) 1 [.slice (some ⟨wr.heap.size, 0, none⟩) 1 1]) := Lib.hid (by
          have h := (RdG.lits (wr.alloc (.cells #[.int .i64 (m : Int)] 3)) 1 22 1 [.slice (some ⟨wr.heap.size, 0, none⟩) 1 1] rfl).drew
          rw [show (wr.alloc (.cells #[.int .i64 (m : Int)] 3)).heap.size = wr.heap.size + 1 by simp] at h
          exact h)
        clear hm hlt hi
        go_upto_region 6 with fail
        go_region_law (refine RF.stepAppend HRN.out (i := 2) rfl i HXL.out.symm ((below_alloc _ _).drew) (.tmp 18) (.tmp 24) ESI rfl rfl rfl _ 1 _ [.slice (some ⟨wr.heap.size, 0, none⟩) 1 1] rfl HRDG.out (by simp [Value.oneCell']) (by have := HLT.out; have := HN.out; omega) (by decide) ?_; intro a9 c9 w10 hrf10 hg10 hbl10 hfr10; have hq92 := ((HL.out.ct.below (below_alloc _ _)).fr hfr10 (fun h => h rfl)).c2; have hqf9 := ((HL.out.ct.below (below_alloc _ _)).fr hfr10 (fun h => h rfl)).fz 2)
        all_goals
          obtain ⟨w11, hw11⟩ : ∃ w11, w11 = w10.setCell ⟨q, 2, none⟩ (.slice a9 (i + 1) c9) := ⟨_, rfl⟩
          have HCY : Hid (CyL n B q x y w1 w11 (i + 1) a9 c9 (xs ++ [.slice (some ⟨wr.heap.size, 0, none⟩) 1 1]) (rs ++ [some (3, .slice (some ⟨wr.heap.size, 0, none⟩) 1 1, iv [m])])) := Lib.hid ⟨by
            rw [hw11]; exact hrf10.cells ((Fr.refl (fun b => b = q) w10).setCell (p := ⟨q, 2, none⟩) rfl _), by
            rw [hw11]; exact ((HL.out.ct.below (below_alloc _ _)).fr hfr10 (fun h => h rfl)).set2 _, by
            rw [cycR_succ, ← HM.out]; exact HL.out.ro.push _ _ _, by
            rw [hw11]; exact ((HL.out.be.alloc HL.out.rf.bw _).trans hbl10).setCell HX.out.2.2.1 _⟩
          rw [← hw11]
          clear hw11 hrf10 hg10 hbl10 hfr10 hq92 hqf9 c0 c1 c2 c3 cf c2d c2a c2b
          go_wp2
          exact ⟨⟨i + 1, a9, c9, _, _, by go_num, HLT.out, HCY.out⟩, by have := HLT.out; simp only [intOf]; omega⟩
      · obtain rfl : i = n := by omega
        have HBW : Hid (Below w1.heap.size w1 wr) := Lib.hid (by rw [← HBB.out]; exact HL.out.be)
        obtain ⟨r0, r1, r2, r3, rf⟩ := HRES.out.below HBW.out
        have rf0 := rf 0
        have rf1 := rf 1
        have rf2 := rf 2
        have rf3 := rf 3
        have HFIN : Hid (∀ wf, Fr (fun b => b = w.heap.size) wr wf → CycPost i w (.returned (.agg #[.int .i64 0, .slice (some ⟨x, 0, none⟩) 256 256, .slice aN i cN, .slice (some ⟨y, 0, none⟩) i i])) wf) := Lib.hid (fun wf hf => by
          have hWB : w.heap.size < B := by have h1 := HS1.out; have h2 := HBB.out; omega
          have hrf' := HL.out.rf.fr hf (fun j e v us g hj hg e2 => by have := (HL.out.rf.lt hj hg).2; omega)
          refine ⟨_, _, _, _, _, _, rfl, ((HB1.out.trans (HBW.out.mono (by have := HS1.out; omega))).trans (hf.below (fun b e => by omega) (by have h1 := HB1.out.size; have h2 := HBW.out.size; omega))), ?_, ?_, ?_⟩
          · have h := hrf'.rdN (i := 0) rfl (fun u hu => by have := (List.mem_replicate.1 hu).2; omega)
            rw [show nints (List.replicate 256 0) = cycC by simp [nints, cycC]] at h
            exact h
          · obtain ⟨e1, e2, e3⟩ := HL.out.ro
            have hN := HN.out
            refine ⟨by rw [cycN_len], by omega, fun j hj => ?_⟩
            obtain ⟨gN, rfl⟩ := hrf'.addr (i := 2) rfl (by rw [e1, cycR_len]; omega)
            obtain ⟨r, hr⟩ : ∃ r, (cycR i i)[j]? = some r := ⟨_, List.getElem?_eq_getElem (by rw [cycR_len]; exact hj)⟩
            have hrj : r = [(j + 1) % i] := by simpa [cycR, hj] using hr.symm
            obtain ⟨g3, c3, e4, e5⟩ := e3 j r hr
            refine ⟨gN, 0, some ⟨g3, 0, none⟩, 1, c3, rfl, by rw [Nat.zero_add]; exact hrf'.cell (i := 2) rfl e4, ?_, ?_⟩
            · have hrd := hrf'.rdN (i := j + 3) (at3i e5) (fun u hu => by
                rw [hrj] at hu
                have := Nat.mod_lt (j + 1) (show 0 < i by omega)
                simp at hu; omega)
              rw [cycN_get hj]
              rw [hrj] at hrd
              simpa [nints] using hrd
            · have ho := hrf'.own (j + 3) _ _ _ (at3i e5)
              exact Row.cap ho
          · exact hrf'.rdB (i := 1) rfl (by have := HN.out; omega))
        have hii : decide ((i : Int) < (i : Int)) = false := by simp
        clear rf hlt hi cf
        go_wp2
        exact bodyPost_ret (v := .agg #[.int .i64 0, .slice (some ⟨x, 0, none⟩) 256 256, .slice aN i cN, .slice (some ⟨y, 0, none⟩) i i]) (by simp [results, Try.results25, go_sem, r0, r1, r2, r3]) rfl (HFIN.out _ (fr4 wr w.heap.size (.int .i64 0) (.slice (some ⟨x, 0, none⟩) 256 256) (.slice aN i cN) (.slice (some ⟨y, 0, none⟩) i i)))
  · obtain ⟨wf, hwf⟩ : ∃ wf, wf = (((w1.alloc (.cells CB 4)).alloc (.cells CI 3)).alloc (.cells #[.int .i64 0, .slice (some ⟨w1.heap.size + 1, 0, none⟩) 256 256, .slice none 0 0, .slice (some ⟨w1.heap.size, 0, none⟩) n n] 26)).drew := ⟨_, rfl⟩
    rw [← hwf]
    obtain ⟨x, hx⟩ : ∃ x, x = w1.heap.size + 1 := ⟨_, rfl⟩
    obtain ⟨y, hy⟩ : ∃ y, y = w1.heap.size := ⟨_, rfl⟩
    obtain ⟨q, hq⟩ : ∃ q, q = w1.heap.size + 1 + 1 := ⟨_, rfl⟩
    have HX : Hid (B ≤ x ∧ B ≤ y ∧ B ≤ q ∧ x ≠ y ∧ x ≠ q ∧ y ≠ q) := Lib.hid (by have := HBB.out; omega)
    have HBF : Hid (Below B w1 wf) := Lib.hid (by rw [hwf, HBB.out]; exact ((((Below.refl _ _).alloc (by simp) _).alloc (by simp; try omega) _).alloc (by simp; try omega) _).drew)
    have HRF0 : Hid (RF B (fun b => b = q) wf [some (3, .slice (some ⟨x, 0, none⟩) 256 256, List.replicate 256 (.int .i64 0)), some (4, .slice (some ⟨y, 0, none⟩) n n, List.replicate n (.bool false))]) := Lib.hid (by
      refine RF.two HCI.out HCB.out (by decide) (by have := HN.out; omega) ?_ ?_ HX.out.2.2.2.1 HX.out.2.2.2.2.1 HX.out.2.2.2.2.2 HX.out.1 HX.out.2.1 ?_ ?_
      · rw [hwf, hx]; exact (al3 _ _ _ _).2.1
      · rw [hwf, hy]; exact (al3 _ _ _ _).1
      · rw [hwf, hq, (al3 _ _ _ _).2.2.2]; omega
      · rw [hwf, (al3 _ _ _ _).2.2.2, HBB.out]; omega)
    have HCT0 : Hid (CT wf q 0 (.slice (some ⟨x, 0, none⟩) 256 256) (.slice none 0 0) (.slice (some ⟨y, 0, none⟩) n n)) := Lib.hid (by
      rw [hwf]
      rw [hq, hx, hy]
      have h := alloc_ct ((w1.alloc (.cells CB 4)).alloc (.cells CI 3)) 0 (.slice (some ⟨w1.heap.size + 1, 0, none⟩) 256 256) (.slice none 0 0) (.slice (some ⟨w1.heap.size, 0, none⟩) n n) 26
      rw [show ((w1.alloc (.cells CB 4)).alloc (.cells CI 3)).heap.size = w1.heap.size + 1 + 1 by simp] at h
      exact h.below (Below.drew (Below.refl _ _)))
    rw [← hq, ← hx, ← hy]
    clear hwf hx hy hq
    obtain ⟨c0, c1, c2, c3, cf⟩ := HCT0.out
    have hln : (List.replicate n (Value.bool false)).length = n := List.length_replicate
    go_wp2_with (refine guard_op (.store 4 (.tmp 11) (.const (.bool true))) rfl ?_; refine RF.store HRF0.out (i := 1) rfl rfl 4 (.tmp 11) (.const (.bool true)) rfl 0 rfl (.bool true) rfl rfl rfl (by kernel_rfl) (by rw [hln]; exact HN.out.1) ?_; intro w4 hrf4 hg4 hbl4 hfr4; have HRF4 := Lib.hid hrf4; have HB4 : Hid (Below B w1 w4) := Lib.hid (HBF.out.trans hbl4); have HCT4 := Lib.hid (HCT0.out.fr hfr4 (fun h => h rfl)); clear hrf4 hg4 hbl4 hfr4 c0 c1 c2 c3 cf)
    have HL0 : Hid (CyL n B q x y w1 w4 0 none 0 [] []) := Lib.hid ⟨by
      have h1 := HRF4.out
      have e1 : (List.replicate n (Value.bool false)).set 0 (.bool true) = (cycA n).map Value.bool := by
        apply List.ext_getElem (by simp [cycA])
        intro j j1 j2
        simp only [List.getElem_set, List.getElem_replicate, cycA, List.getElem_map, List.getElem_range]
        by_cases hj : j = 0
        · subst hj; simp
        · simp [hj, Ne.symm hj]
      have h2 := h1.new (w' := w4) (e := 22) (v := .slice none 0 0) (xs := []) (World.ownsRow_nil _ _ _ _) (Below.refl _ _) (.inr rfl)
      rw [show iv (List.replicate 256 0) = List.replicate 256 (.int .i64 0) by simp [iv], ← e1]
      exact h2, HCT4.out, ⟨rfl, rfl, fun j r h => by simp [cycR] at h⟩, HB4.out⟩
    clear hln
    go_wp2
    go_loopw [4] (fun iv0 wr => ∃ (i : Nat) (aN : Option Addr) (cN : Nat) (xs : List Value) (rs : List (Option Rw)), iv0 = .int .i64 i ∧ i ≤ n ∧ CyL n B q x y w1 wr i aN cN xs rs) (fun iv0 _ => n - (intOf iv0).toNat)
    case atStart => exact ⟨0, none, 0, [], [], rfl, by omega, HL0.out⟩
    case round =>
      obtain ⟨i, aN, cN, xs, rs, rfl, hi, hl⟩ := hrel
      have HL := Lib.hid hl
      obtain ⟨c0, c1, c2, c3, cf⟩ := hl.ct
      have hxl : xs.length = i := by rw [hl.ro.1, cycR_len]
      have hrl : rs.length = i := by rw [hl.ro.2.1, cycR_len]
      have HXL := Lib.hid hxl
      have HRL := Lib.hid hrl
      have hiI : (i : Int) ≤ (n : Int) := by omega
      clear hl hxl hrl
      by_cases hlt : i < n
      · have hii : (i : Int) < (n : Int) := by omega
        have HLT := Lib.hid hlt
        obtain ⟨m, hm⟩ : ∃ m, m = (i + 1) % n := ⟨_, rfl⟩
        have HM := Lib.hid hm
        have hrem : ((i : Int) + 1).tmod (n : Int) = (m : Int) := by rw [Int.tmod_eq_emod_of_nonneg (by omega), hm]; push_cast; rfl
        have hw1a : IntKind.i64.wrap ((i : Int) + 1) = (i : Int) + 1 := IntWalk.i64_in _ (by omega)
        have hmn : m < n := by rw [hm]; exact Nat.mod_lt _ HN.out.1
        have hw2a : IntKind.i64.wrap (m : Int) = (m : Int) := IntWalk.i64_in _ (by omega)
        have hn0 : ¬ (n : Int) = 0 := by omega
        have hn00 : ¬ n = 0 := by omega
        have hnb : ((n : Int) == 0) = false := by rw [beq_eq_false_iff_ne]; exact hn0
        have c2d : wr.drew.cell? ⟨q, 2, none⟩ = some (.slice aN i cN) := c2
        have c2a : ∀ o, (wr.alloc o).cell? ⟨q, 2, none⟩ = some (.slice aN i cN) := fun o => below_cell (below_alloc wr o) c2
        have c2b : ∀ o o', ((wr.alloc o).alloc o').cell? ⟨q, 2, none⟩ = some (.slice aN i cN) := fun o o' => below_cell (below_alloc (wr.alloc o) o') (c2a o)
        have HRN : Hid (RF B (fun b => b = q) (wr.alloc (.cells #[.int .i64 (m : Int)] 3)) (some (3, .slice (some ⟨x, 0, none⟩) 256 256, iv (List.replicate 256 0)) :: some (4, .slice (some ⟨y, 0, none⟩) n n, (cycA n).map Value.bool) :: some (22, .slice aN i cN, xs) :: (rs ++ [some (3, .slice (some ⟨wr.heap.size, 0, none⟩) 1 1, iv [m])]))) := Lib.hid (by
          have h1 := HL.out.rf.new (w' := wr.alloc (.cells #[.int .i64 (m : Int)] 3)) (e := 3) (v := .slice (some ⟨wr.heap.size, 0, none⟩) 1 1) (xs := iv [m]) (by
            have h2 := Own.lits wr .i64 3 [(m : Int)] B HL.out.rf.bw (by simp)
            simpa [Own, iv] using h2) (below_alloc _ _) (.inl rfl)
          simpa using h1)
        have HRDG : Hid (RdG ((wr.alloc (.cells #[.int .i64 (m : Int)] 3)).alloc (.cells #[.slice (some ⟨wr.heap.size, 0, none⟩) 1 1] 22)).drew 1 (some ⟨wr.heap.size + 1, 0, none⟩) 1 [.slice (some ⟨wr.heap.size, 0, none⟩) 1 1]) := Lib.hid (by
          have h := (RdG.lits (wr.alloc (.cells #[.int .i64 (m : Int)] 3)) 1 22 1 [.slice (some ⟨wr.heap.size, 0, none⟩) 1 1] rfl).drew
          rw [show (wr.alloc (.cells #[.int .i64 (m : Int)] 3)).heap.size = wr.heap.size + 1 by simp] at h
          exact h)
        clear hm hlt hi
        go_upto_region 6 with fail
        go_region_law (refine RF.stepAppend HRN.out (i := 2) rfl i HXL.out.symm ((below_alloc _ _).drew) (.tmp 18) (.tmp 24) ESI rfl rfl rfl _ 1 _ [.slice (some ⟨wr.heap.size, 0, none⟩) 1 1] rfl HRDG.out (by simp [Value.oneCell']) (by have := HLT.out; have := HN.out; omega) (by decide) ?_; intro a9 c9 w10 hrf10 hg10 hbl10 hfr10; have hq92 := ((HL.out.ct.below (below_alloc _ _)).fr hfr10 (fun h => h rfl)).c2; have hqf9 := ((HL.out.ct.below (below_alloc _ _)).fr hfr10 (fun h => h rfl)).fz 2)
        all_goals
          obtain ⟨w11, hw11⟩ : ∃ w11, w11 = w10.setCell ⟨q, 2, none⟩ (.slice a9 (i + 1) c9) := ⟨_, rfl⟩
          have HCY : Hid (CyL n B q x y w1 w11 (i + 1) a9 c9 (xs ++ [.slice (some ⟨wr.heap.size, 0, none⟩) 1 1]) (rs ++ [some (3, .slice (some ⟨wr.heap.size, 0, none⟩) 1 1, iv [m])])) := Lib.hid ⟨by
            rw [hw11]; exact hrf10.cells ((Fr.refl (fun b => b = q) w10).setCell (p := ⟨q, 2, none⟩) rfl _), by
            rw [hw11]; exact ((HL.out.ct.below (below_alloc _ _)).fr hfr10 (fun h => h rfl)).set2 _, by
            rw [cycR_succ, ← HM.out]; exact HL.out.ro.push _ _ _, by
            rw [hw11]; exact ((HL.out.be.alloc HL.out.rf.bw _).trans hbl10).setCell HX.out.2.2.1 _⟩
          rw [← hw11]
          clear hw11 hrf10 hg10 hbl10 hfr10 hq92 hqf9 c0 c1 c2 c3 cf c2d c2a c2b
          go_wp2
          exact ⟨⟨i + 1, a9, c9, _, _, by go_num, HLT.out, HCY.out⟩, by have := HLT.out; simp only [intOf]; omega⟩
      · obtain rfl : i = n := by omega
        have HBW : Hid (Below w1.heap.size w1 wr) := Lib.hid (by rw [← HBB.out]; exact HL.out.be)
        obtain ⟨r0, r1, r2, r3, rf⟩ := HRES.out.below HBW.out
        have rf0 := rf 0
        have rf1 := rf 1
        have rf2 := rf 2
        have rf3 := rf 3
        have HFIN : Hid (∀ wf, Fr (fun b => b = w.heap.size) wr wf → CycPost i w (.returned (.agg #[.int .i64 0, .slice (some ⟨x, 0, none⟩) 256 256, .slice aN i cN, .slice (some ⟨y, 0, none⟩) i i])) wf) := Lib.hid (fun wf hf => by
          have hWB : w.heap.size < B := by have h1 := HS1.out; have h2 := HBB.out; omega
          have hrf' := HL.out.rf.fr hf (fun j e v us g hj hg e2 => by have := (HL.out.rf.lt hj hg).2; omega)
          refine ⟨_, _, _, _, _, _, rfl, ((HB1.out.trans (HBW.out.mono (by have := HS1.out; omega))).trans (hf.below (fun b e => by omega) (by have h1 := HB1.out.size; have h2 := HBW.out.size; omega))), ?_, ?_, ?_⟩
          · have h := hrf'.rdN (i := 0) rfl (fun u hu => by have := (List.mem_replicate.1 hu).2; omega)
            rw [show nints (List.replicate 256 0) = cycC by simp [nints, cycC]] at h
            exact h
          · obtain ⟨e1, e2, e3⟩ := HL.out.ro
            have hN := HN.out
            refine ⟨by rw [cycN_len], by omega, fun j hj => ?_⟩
            obtain ⟨gN, rfl⟩ := hrf'.addr (i := 2) rfl (by rw [e1, cycR_len]; omega)
            obtain ⟨r, hr⟩ : ∃ r, (cycR i i)[j]? = some r := ⟨_, List.getElem?_eq_getElem (by rw [cycR_len]; exact hj)⟩
            have hrj : r = [(j + 1) % i] := by simpa [cycR, hj] using hr.symm
            obtain ⟨g3, c3, e4, e5⟩ := e3 j r hr
            refine ⟨gN, 0, some ⟨g3, 0, none⟩, 1, c3, rfl, by rw [Nat.zero_add]; exact hrf'.cell (i := 2) rfl e4, ?_, ?_⟩
            · have hrd := hrf'.rdN (i := j + 3) (at3i e5) (fun u hu => by
                rw [hrj] at hu
                have := Nat.mod_lt (j + 1) (show 0 < i by omega)
                simp at hu; omega)
              rw [cycN_get hj]
              rw [hrj] at hrd
              simpa [nints] using hrd
            · have ho := hrf'.own (j + 3) _ _ _ (at3i e5)
              exact Row.cap ho
          · exact hrf'.rdB (i := 1) rfl (by have := HN.out; omega))
        have hii : decide ((i : Int) < (i : Int)) = false := by simp
        clear rf hlt hi cf
        go_wp2
        exact bodyPost_ret (v := .agg #[.int .i64 0, .slice (some ⟨x, 0, none⟩) 256 256, .slice aN i cN, .slice (some ⟨y, 0, none⟩) i i]) (by simp [results, Try.results25, go_sem, r0, r1, r2, r3]) rfl (HFIN.out _ (fr4 wr w.heap.size (.int .i64 0) (.slice (some ⟨x, 0, none⟩) 256 256) (.slice aN i cN) (.slice (some ⟨y, 0, none⟩) i i)))
  · obtain ⟨wf, hwf⟩ : ∃ wf, wf = (((w1.alloc (.cells CB 4)).alloc (.cells #[.int .i64 0, .slice (some ⟨w1.heap.size + 1 + 1, 0, none⟩) 256 256, .slice none 0 0, .slice (some ⟨w1.heap.size, 0, none⟩) n n] 26)).alloc (.cells CI 3)).drew := ⟨_, rfl⟩
    rw [← hwf]
    obtain ⟨x, hx⟩ : ∃ x, x = w1.heap.size + 1 + 1 := ⟨_, rfl⟩
    obtain ⟨y, hy⟩ : ∃ y, y = w1.heap.size := ⟨_, rfl⟩
    obtain ⟨q, hq⟩ : ∃ q, q = w1.heap.size + 1 := ⟨_, rfl⟩
    have HX : Hid (B ≤ x ∧ B ≤ y ∧ B ≤ q ∧ x ≠ y ∧ x ≠ q ∧ y ≠ q) := Lib.hid (by have := HBB.out; omega)
    have HBF : Hid (Below B w1 wf) := Lib.hid (by rw [hwf, HBB.out]; exact ((((Below.refl _ _).alloc (by simp) _).alloc (by simp; try omega) _).alloc (by simp; try omega) _).drew)
    have HRF0 : Hid (RF B (fun b => b = q) wf [some (3, .slice (some ⟨x, 0, none⟩) 256 256, List.replicate 256 (.int .i64 0)), some (4, .slice (some ⟨y, 0, none⟩) n n, List.replicate n (.bool false))]) := Lib.hid (by
      refine RF.two HCI.out HCB.out (by decide) (by have := HN.out; omega) ?_ ?_ HX.out.2.2.2.1 HX.out.2.2.2.2.1 HX.out.2.2.2.2.2 HX.out.1 HX.out.2.1 ?_ ?_
      · rw [hwf, hx]; exact (al3 _ _ _ _).2.2.1
      · rw [hwf, hy]; exact (al3 _ _ _ _).1
      · rw [hwf, hq, (al3 _ _ _ _).2.2.2]; omega
      · rw [hwf, (al3 _ _ _ _).2.2.2, HBB.out]; omega)
    have HCT0 : Hid (CT wf q 0 (.slice (some ⟨x, 0, none⟩) 256 256) (.slice none 0 0) (.slice (some ⟨y, 0, none⟩) n n)) := Lib.hid (by
      rw [hwf]
      rw [hq, hx, hy]
      have h := alloc_ct (w1.alloc (.cells CB 4)) 0 (.slice (some ⟨w1.heap.size + 1 + 1, 0, none⟩) 256 256) (.slice none 0 0) (.slice (some ⟨w1.heap.size, 0, none⟩) n n) 26
      rw [show (w1.alloc (.cells CB 4)).heap.size = w1.heap.size + 1 by simp] at h
      exact (h.below (below_alloc _ _)).below (Below.drew (Below.refl _ _)))
    rw [← hx, ← hq, ← hy]
    clear hwf hx hy hq
    obtain ⟨c0, c1, c2, c3, cf⟩ := HCT0.out
    have hln : (List.replicate n (Value.bool false)).length = n := List.length_replicate
    go_wp2_with (refine guard_op (.store 4 (.tmp 11) (.const (.bool true))) rfl ?_; refine RF.store HRF0.out (i := 1) rfl rfl 4 (.tmp 11) (.const (.bool true)) rfl 0 rfl (.bool true) rfl rfl rfl (by kernel_rfl) (by rw [hln]; exact HN.out.1) ?_; intro w4 hrf4 hg4 hbl4 hfr4; have HRF4 := Lib.hid hrf4; have HB4 : Hid (Below B w1 w4) := Lib.hid (HBF.out.trans hbl4); have HCT4 := Lib.hid (HCT0.out.fr hfr4 (fun h => h rfl)); clear hrf4 hg4 hbl4 hfr4 c0 c1 c2 c3 cf)
    have HL0 : Hid (CyL n B q x y w1 w4 0 none 0 [] []) := Lib.hid ⟨by
      have h1 := HRF4.out
      have e1 : (List.replicate n (Value.bool false)).set 0 (.bool true) = (cycA n).map Value.bool := by
        apply List.ext_getElem (by simp [cycA])
        intro j j1 j2
        simp only [List.getElem_set, List.getElem_replicate, cycA, List.getElem_map, List.getElem_range]
        by_cases hj : j = 0
        · subst hj; simp
        · simp [hj, Ne.symm hj]
      have h2 := h1.new (w' := w4) (e := 22) (v := .slice none 0 0) (xs := []) (World.ownsRow_nil _ _ _ _) (Below.refl _ _) (.inr rfl)
      rw [show iv (List.replicate 256 0) = List.replicate 256 (.int .i64 0) by simp [iv], ← e1]
      exact h2, HCT4.out, ⟨rfl, rfl, fun j r h => by simp [cycR] at h⟩, HB4.out⟩
    clear hln
    go_wp2
    go_loopw [4] (fun iv0 wr => ∃ (i : Nat) (aN : Option Addr) (cN : Nat) (xs : List Value) (rs : List (Option Rw)), iv0 = .int .i64 i ∧ i ≤ n ∧ CyL n B q x y w1 wr i aN cN xs rs) (fun iv0 _ => n - (intOf iv0).toNat)
    case atStart => exact ⟨0, none, 0, [], [], rfl, by omega, HL0.out⟩
    case round =>
      obtain ⟨i, aN, cN, xs, rs, rfl, hi, hl⟩ := hrel
      have HL := Lib.hid hl
      obtain ⟨c0, c1, c2, c3, cf⟩ := hl.ct
      have hxl : xs.length = i := by rw [hl.ro.1, cycR_len]
      have hrl : rs.length = i := by rw [hl.ro.2.1, cycR_len]
      have HXL := Lib.hid hxl
      have HRL := Lib.hid hrl
      have hiI : (i : Int) ≤ (n : Int) := by omega
      clear hl hxl hrl
      by_cases hlt : i < n
      · have hii : (i : Int) < (n : Int) := by omega
        have HLT := Lib.hid hlt
        obtain ⟨m, hm⟩ : ∃ m, m = (i + 1) % n := ⟨_, rfl⟩
        have HM := Lib.hid hm
        have hrem : ((i : Int) + 1).tmod (n : Int) = (m : Int) := by rw [Int.tmod_eq_emod_of_nonneg (by omega), hm]; push_cast; rfl
        have hw1a : IntKind.i64.wrap ((i : Int) + 1) = (i : Int) + 1 := IntWalk.i64_in _ (by omega)
        have hmn : m < n := by rw [hm]; exact Nat.mod_lt _ HN.out.1
        have hw2a : IntKind.i64.wrap (m : Int) = (m : Int) := IntWalk.i64_in _ (by omega)
        have hn0 : ¬ (n : Int) = 0 := by omega
        have hn00 : ¬ n = 0 := by omega
        have hnb : ((n : Int) == 0) = false := by rw [beq_eq_false_iff_ne]; exact hn0
        have c2d : wr.drew.cell? ⟨q, 2, none⟩ = some (.slice aN i cN) := c2
        have c2a : ∀ o, (wr.alloc o).cell? ⟨q, 2, none⟩ = some (.slice aN i cN) := fun o => below_cell (below_alloc wr o) c2
        have c2b : ∀ o o', ((wr.alloc o).alloc o').cell? ⟨q, 2, none⟩ = some (.slice aN i cN) := fun o o' => below_cell (below_alloc (wr.alloc o) o') (c2a o)
        have HRN : Hid (RF B (fun b => b = q) (wr.alloc (.cells #[.int .i64 (m : Int)] 3)) (some (3, .slice (some ⟨x, 0, none⟩) 256 256, iv (List.replicate 256 0)) :: some (4, .slice (some ⟨y, 0, none⟩) n n, (cycA n).map Value.bool) :: some (22, .slice aN i cN, xs) :: (rs ++ [some (3, .slice (some ⟨wr.heap.size, 0, none⟩) 1 1, iv [m])]))) := Lib.hid (by
          have h1 := HL.out.rf.new (w' := wr.alloc (.cells #[.int .i64 (m : Int)] 3)) (e := 3) (v := .slice (some ⟨wr.heap.size, 0, none⟩) 1 1) (xs := iv [m]) (by
            have h2 := Own.lits wr .i64 3 [(m : Int)] B HL.out.rf.bw (by simp)
            simpa [Own, iv] using h2) (below_alloc _ _) (.inl rfl)
          simpa using h1)
        have HRDG : Hid (RdG ((wr.alloc (.cells #[.int .i64 (m : Int)] 3)).alloc (.cells #[.slice (some ⟨wr.heap.size, 0, none⟩) 1 1] 22)).drew 1 (some ⟨wr.heap.size + 1, 0, none⟩) 1 [.slice (some ⟨wr.heap.size, 0, none⟩) 1 1]) := Lib.hid (by
          have h := (RdG.lits (wr.alloc (.cells #[.int .i64 (m : Int)] 3)) 1 22 1 [.slice (some ⟨wr.heap.size, 0, none⟩) 1 1] rfl).drew
          rw [show (wr.alloc (.cells #[.int .i64 (m : Int)] 3)).heap.size = wr.heap.size + 1 by simp] at h
          exact h)
        clear hm hlt hi
        go_upto_region 6 with fail
        go_region_law (refine RF.stepAppend HRN.out (i := 2) rfl i HXL.out.symm ((below_alloc _ _).drew) (.tmp 18) (.tmp 24) ESI rfl rfl rfl _ 1 _ [.slice (some ⟨wr.heap.size, 0, none⟩) 1 1] rfl HRDG.out (by simp [Value.oneCell']) (by have := HLT.out; have := HN.out; omega) (by decide) ?_; intro a9 c9 w10 hrf10 hg10 hbl10 hfr10; have hq92 := ((HL.out.ct.below (below_alloc _ _)).fr hfr10 (fun h => h rfl)).c2; have hqf9 := ((HL.out.ct.below (below_alloc _ _)).fr hfr10 (fun h => h rfl)).fz 2)
        all_goals
          obtain ⟨w11, hw11⟩ : ∃ w11, w11 = w10.setCell ⟨q, 2, none⟩ (.slice a9 (i + 1) c9) := ⟨_, rfl⟩
          have HCY : Hid (CyL n B q x y w1 w11 (i + 1) a9 c9 (xs ++ [.slice (some ⟨wr.heap.size, 0, none⟩) 1 1]) (rs ++ [some (3, .slice (some ⟨wr.heap.size, 0, none⟩) 1 1, iv [m])])) := Lib.hid ⟨by
            rw [hw11]; exact hrf10.cells ((Fr.refl (fun b => b = q) w10).setCell (p := ⟨q, 2, none⟩) rfl _), by
            rw [hw11]; exact ((HL.out.ct.below (below_alloc _ _)).fr hfr10 (fun h => h rfl)).set2 _, by
            rw [cycR_succ, ← HM.out]; exact HL.out.ro.push _ _ _, by
            rw [hw11]; exact ((HL.out.be.alloc HL.out.rf.bw _).trans hbl10).setCell HX.out.2.2.1 _⟩
          rw [← hw11]
          clear hw11 hrf10 hg10 hbl10 hfr10 hq92 hqf9 c0 c1 c2 c3 cf c2d c2a c2b
          go_wp2
          exact ⟨⟨i + 1, a9, c9, _, _, by go_num, HLT.out, HCY.out⟩, by have := HLT.out; simp only [intOf]; omega⟩
      · obtain rfl : i = n := by omega
        have HBW : Hid (Below w1.heap.size w1 wr) := Lib.hid (by rw [← HBB.out]; exact HL.out.be)
        obtain ⟨r0, r1, r2, r3, rf⟩ := HRES.out.below HBW.out
        have rf0 := rf 0
        have rf1 := rf 1
        have rf2 := rf 2
        have rf3 := rf 3
        have HFIN : Hid (∀ wf, Fr (fun b => b = w.heap.size) wr wf → CycPost i w (.returned (.agg #[.int .i64 0, .slice (some ⟨x, 0, none⟩) 256 256, .slice aN i cN, .slice (some ⟨y, 0, none⟩) i i])) wf) := Lib.hid (fun wf hf => by
          have hWB : w.heap.size < B := by have h1 := HS1.out; have h2 := HBB.out; omega
          have hrf' := HL.out.rf.fr hf (fun j e v us g hj hg e2 => by have := (HL.out.rf.lt hj hg).2; omega)
          refine ⟨_, _, _, _, _, _, rfl, ((HB1.out.trans (HBW.out.mono (by have := HS1.out; omega))).trans (hf.below (fun b e => by omega) (by have h1 := HB1.out.size; have h2 := HBW.out.size; omega))), ?_, ?_, ?_⟩
          · have h := hrf'.rdN (i := 0) rfl (fun u hu => by have := (List.mem_replicate.1 hu).2; omega)
            rw [show nints (List.replicate 256 0) = cycC by simp [nints, cycC]] at h
            exact h
          · obtain ⟨e1, e2, e3⟩ := HL.out.ro
            have hN := HN.out
            refine ⟨by rw [cycN_len], by omega, fun j hj => ?_⟩
            obtain ⟨gN, rfl⟩ := hrf'.addr (i := 2) rfl (by rw [e1, cycR_len]; omega)
            obtain ⟨r, hr⟩ : ∃ r, (cycR i i)[j]? = some r := ⟨_, List.getElem?_eq_getElem (by rw [cycR_len]; exact hj)⟩
            have hrj : r = [(j + 1) % i] := by simpa [cycR, hj] using hr.symm
            obtain ⟨g3, c3, e4, e5⟩ := e3 j r hr
            refine ⟨gN, 0, some ⟨g3, 0, none⟩, 1, c3, rfl, by rw [Nat.zero_add]; exact hrf'.cell (i := 2) rfl e4, ?_, ?_⟩
            · have hrd := hrf'.rdN (i := j + 3) (at3i e5) (fun u hu => by
                rw [hrj] at hu
                have := Nat.mod_lt (j + 1) (show 0 < i by omega)
                simp at hu; omega)
              rw [cycN_get hj]
              rw [hrj] at hrd
              simpa [nints] using hrd
            · have ho := hrf'.own (j + 3) _ _ _ (at3i e5)
              exact Row.cap ho
          · exact hrf'.rdB (i := 1) rfl (by have := HN.out; omega))
        have hii : decide ((i : Int) < (i : Int)) = false := by simp
        clear rf hlt hi cf
        go_wp2
        exact bodyPost_ret (v := .agg #[.int .i64 0, .slice (some ⟨x, 0, none⟩) 256 256, .slice aN i cN, .slice (some ⟨y, 0, none⟩) i i]) (by simp [results, Try.results25, go_sem, r0, r1, r2, r3]) rfl (HFIN.out _ (fr4 wr w.heap.size (.int .i64 0) (.slice (some ⟨x, 0, none⟩) 256 256) (.slice aN i cN) (.slice (some ⟨y, 0, none⟩) i i)))
  · obtain ⟨wf, hwf⟩ : ∃ wf, wf = (((w1.alloc (.cells #[.int .i64 0, .slice (some ⟨w1.heap.size + 1, 0, none⟩) 256 256, .slice none 0 0, .slice (some ⟨w1.heap.size + 1 + 1, 0, none⟩) n n] 26)).alloc (.cells CI 3)).alloc (.cells CB 4)).drew := ⟨_, rfl⟩
    rw [← hwf]
    obtain ⟨x, hx⟩ : ∃ x, x = w1.heap.size + 1 := ⟨_, rfl⟩
    obtain ⟨y, hy⟩ : ∃ y, y = w1.heap.size + 1 + 1 := ⟨_, rfl⟩
    obtain ⟨q, hq⟩ : ∃ q, q = w1.heap.size := ⟨_, rfl⟩
    have HX : Hid (B ≤ x ∧ B ≤ y ∧ B ≤ q ∧ x ≠ y ∧ x ≠ q ∧ y ≠ q) := Lib.hid (by have := HBB.out; omega)
    have HBF : Hid (Below B w1 wf) := Lib.hid (by rw [hwf, HBB.out]; exact ((((Below.refl _ _).alloc (by simp) _).alloc (by simp; try omega) _).alloc (by simp; try omega) _).drew)
    have HRF0 : Hid (RF B (fun b => b = q) wf [some (3, .slice (some ⟨x, 0, none⟩) 256 256, List.replicate 256 (.int .i64 0)), some (4, .slice (some ⟨y, 0, none⟩) n n, List.replicate n (.bool false))]) := Lib.hid (by
      refine RF.two HCI.out HCB.out (by decide) (by have := HN.out; omega) ?_ ?_ HX.out.2.2.2.1 HX.out.2.2.2.2.1 HX.out.2.2.2.2.2 HX.out.1 HX.out.2.1 ?_ ?_
      · rw [hwf, hx]; exact (al3 _ _ _ _).2.1
      · rw [hwf, hy]; exact (al3 _ _ _ _).2.2.1
      · rw [hwf, hq, (al3 _ _ _ _).2.2.2]; omega
      · rw [hwf, (al3 _ _ _ _).2.2.2, HBB.out]; omega)
    have HCT0 : Hid (CT wf q 0 (.slice (some ⟨x, 0, none⟩) 256 256) (.slice none 0 0) (.slice (some ⟨y, 0, none⟩) n n)) := Lib.hid (by
      rw [hwf]
      rw [hq, hx, hy]
      have h := alloc_ct w1 0 (.slice (some ⟨w1.heap.size + 1, 0, none⟩) 256 256) (.slice none 0 0) (.slice (some ⟨w1.heap.size + 1 + 1, 0, none⟩) n n) 26
      exact ((h.below (below_alloc _ _)).below (below_alloc _ _)).below (Below.drew (Below.refl _ _)))
    rw [← hy, ← hx, ← hq]
    clear hwf hx hy hq
    obtain ⟨c0, c1, c2, c3, cf⟩ := HCT0.out
    have hln : (List.replicate n (Value.bool false)).length = n := List.length_replicate
    go_wp2_with (refine guard_op (.store 4 (.tmp 11) (.const (.bool true))) rfl ?_; refine RF.store HRF0.out (i := 1) rfl rfl 4 (.tmp 11) (.const (.bool true)) rfl 0 rfl (.bool true) rfl rfl rfl (by kernel_rfl) (by rw [hln]; exact HN.out.1) ?_; intro w4 hrf4 hg4 hbl4 hfr4; have HRF4 := Lib.hid hrf4; have HB4 : Hid (Below B w1 w4) := Lib.hid (HBF.out.trans hbl4); have HCT4 := Lib.hid (HCT0.out.fr hfr4 (fun h => h rfl)); clear hrf4 hg4 hbl4 hfr4 c0 c1 c2 c3 cf)
    have HL0 : Hid (CyL n B q x y w1 w4 0 none 0 [] []) := Lib.hid ⟨by
      have h1 := HRF4.out
      have e1 : (List.replicate n (Value.bool false)).set 0 (.bool true) = (cycA n).map Value.bool := by
        apply List.ext_getElem (by simp [cycA])
        intro j j1 j2
        simp only [List.getElem_set, List.getElem_replicate, cycA, List.getElem_map, List.getElem_range]
        by_cases hj : j = 0
        · subst hj; simp
        · simp [hj, Ne.symm hj]
      have h2 := h1.new (w' := w4) (e := 22) (v := .slice none 0 0) (xs := []) (World.ownsRow_nil _ _ _ _) (Below.refl _ _) (.inr rfl)
      rw [show iv (List.replicate 256 0) = List.replicate 256 (.int .i64 0) by simp [iv], ← e1]
      exact h2, HCT4.out, ⟨rfl, rfl, fun j r h => by simp [cycR] at h⟩, HB4.out⟩
    clear hln
    go_wp2
    go_loopw [4] (fun iv0 wr => ∃ (i : Nat) (aN : Option Addr) (cN : Nat) (xs : List Value) (rs : List (Option Rw)), iv0 = .int .i64 i ∧ i ≤ n ∧ CyL n B q x y w1 wr i aN cN xs rs) (fun iv0 _ => n - (intOf iv0).toNat)
    case atStart => exact ⟨0, none, 0, [], [], rfl, by omega, HL0.out⟩
    case round =>
      obtain ⟨i, aN, cN, xs, rs, rfl, hi, hl⟩ := hrel
      have HL := Lib.hid hl
      obtain ⟨c0, c1, c2, c3, cf⟩ := hl.ct
      have hxl : xs.length = i := by rw [hl.ro.1, cycR_len]
      have hrl : rs.length = i := by rw [hl.ro.2.1, cycR_len]
      have HXL := Lib.hid hxl
      have HRL := Lib.hid hrl
      have hiI : (i : Int) ≤ (n : Int) := by omega
      clear hl hxl hrl
      by_cases hlt : i < n
      · have hii : (i : Int) < (n : Int) := by omega
        have HLT := Lib.hid hlt
        obtain ⟨m, hm⟩ : ∃ m, m = (i + 1) % n := ⟨_, rfl⟩
        have HM := Lib.hid hm
        have hrem : ((i : Int) + 1).tmod (n : Int) = (m : Int) := by rw [Int.tmod_eq_emod_of_nonneg (by omega), hm]; push_cast; rfl
        have hw1a : IntKind.i64.wrap ((i : Int) + 1) = (i : Int) + 1 := IntWalk.i64_in _ (by omega)
        have hmn : m < n := by rw [hm]; exact Nat.mod_lt _ HN.out.1
        have hw2a : IntKind.i64.wrap (m : Int) = (m : Int) := IntWalk.i64_in _ (by omega)
        have hn0 : ¬ (n : Int) = 0 := by omega
        have hn00 : ¬ n = 0 := by omega
        have hnb : ((n : Int) == 0) = false := by rw [beq_eq_false_iff_ne]; exact hn0
        have c2d : wr.drew.cell? ⟨q, 2, none⟩ = some (.slice aN i cN) := c2
        have c2a : ∀ o, (wr.alloc o).cell? ⟨q, 2, none⟩ = some (.slice aN i cN) := fun o => below_cell (below_alloc wr o) c2
        have c2b : ∀ o o', ((wr.alloc o).alloc o').cell? ⟨q, 2, none⟩ = some (.slice aN i cN) := fun o o' => below_cell (below_alloc (wr.alloc o) o') (c2a o)
        have HRN : Hid (RF B (fun b => b = q) (wr.alloc (.cells #[.int .i64 (m : Int)] 3)) (some (3, .slice (some ⟨x, 0, none⟩) 256 256, iv (List.replicate 256 0)) :: some (4, .slice (some ⟨y, 0, none⟩) n n, (cycA n).map Value.bool) :: some (22, .slice aN i cN, xs) :: (rs ++ [some (3, .slice (some ⟨wr.heap.size, 0, none⟩) 1 1, iv [m])]))) := Lib.hid (by
          have h1 := HL.out.rf.new (w' := wr.alloc (.cells #[.int .i64 (m : Int)] 3)) (e := 3) (v := .slice (some ⟨wr.heap.size, 0, none⟩) 1 1) (xs := iv [m]) (by
            have h2 := Own.lits wr .i64 3 [(m : Int)] B HL.out.rf.bw (by simp)
            simpa [Own, iv] using h2) (below_alloc _ _) (.inl rfl)
          simpa using h1)
        have HRDG : Hid (RdG ((wr.alloc (.cells #[.int .i64 (m : Int)] 3)).alloc (.cells #[.slice (some ⟨wr.heap.size, 0, none⟩) 1 1] 22)).drew 1 (some ⟨wr.heap.size + 1, 0, none⟩) 1 [.slice (some ⟨wr.heap.size, 0, none⟩) 1 1]) := Lib.hid (by
          have h := (RdG.lits (wr.alloc (.cells #[.int .i64 (m : Int)] 3)) 1 22 1 [.slice (some ⟨wr.heap.size, 0, none⟩) 1 1] rfl).drew
          rw [show (wr.alloc (.cells #[.int .i64 (m : Int)] 3)).heap.size = wr.heap.size + 1 by simp] at h
          exact h)
        clear hm hlt hi
        go_upto_region 6 with fail
        go_region_law (refine RF.stepAppend HRN.out (i := 2) rfl i HXL.out.symm ((below_alloc _ _).drew) (.tmp 18) (.tmp 24) ESI rfl rfl rfl _ 1 _ [.slice (some ⟨wr.heap.size, 0, none⟩) 1 1] rfl HRDG.out (by simp [Value.oneCell']) (by have := HLT.out; have := HN.out; omega) (by decide) ?_; intro a9 c9 w10 hrf10 hg10 hbl10 hfr10; have hq92 := ((HL.out.ct.below (below_alloc _ _)).fr hfr10 (fun h => h rfl)).c2; have hqf9 := ((HL.out.ct.below (below_alloc _ _)).fr hfr10 (fun h => h rfl)).fz 2)
        all_goals
          obtain ⟨w11, hw11⟩ : ∃ w11, w11 = w10.setCell ⟨q, 2, none⟩ (.slice a9 (i + 1) c9) := ⟨_, rfl⟩
          have HCY : Hid (CyL n B q x y w1 w11 (i + 1) a9 c9 (xs ++ [.slice (some ⟨wr.heap.size, 0, none⟩) 1 1]) (rs ++ [some (3, .slice (some ⟨wr.heap.size, 0, none⟩) 1 1, iv [m])])) := Lib.hid ⟨by
            rw [hw11]; exact hrf10.cells ((Fr.refl (fun b => b = q) w10).setCell (p := ⟨q, 2, none⟩) rfl _), by
            rw [hw11]; exact ((HL.out.ct.below (below_alloc _ _)).fr hfr10 (fun h => h rfl)).set2 _, by
            rw [cycR_succ, ← HM.out]; exact HL.out.ro.push _ _ _, by
            rw [hw11]; exact ((HL.out.be.alloc HL.out.rf.bw _).trans hbl10).setCell HX.out.2.2.1 _⟩
          rw [← hw11]
          clear hw11 hrf10 hg10 hbl10 hfr10 hq92 hqf9 c0 c1 c2 c3 cf c2d c2a c2b
          go_wp2
          exact ⟨⟨i + 1, a9, c9, _, _, by go_num, HLT.out, HCY.out⟩, by have := HLT.out; simp only [intOf]; omega⟩
      · obtain rfl : i = n := by omega
        have HBW : Hid (Below w1.heap.size w1 wr) := Lib.hid (by rw [← HBB.out]; exact HL.out.be)
        obtain ⟨r0, r1, r2, r3, rf⟩ := HRES.out.below HBW.out
        have rf0 := rf 0
        have rf1 := rf 1
        have rf2 := rf 2
        have rf3 := rf 3
        have HFIN : Hid (∀ wf, Fr (fun b => b = w.heap.size) wr wf → CycPost i w (.returned (.agg #[.int .i64 0, .slice (some ⟨x, 0, none⟩) 256 256, .slice aN i cN, .slice (some ⟨y, 0, none⟩) i i])) wf) := Lib.hid (fun wf hf => by
          have hWB : w.heap.size < B := by have h1 := HS1.out; have h2 := HBB.out; omega
          have hrf' := HL.out.rf.fr hf (fun j e v us g hj hg e2 => by have := (HL.out.rf.lt hj hg).2; omega)
          refine ⟨_, _, _, _, _, _, rfl, ((HB1.out.trans (HBW.out.mono (by have := HS1.out; omega))).trans (hf.below (fun b e => by omega) (by have h1 := HB1.out.size; have h2 := HBW.out.size; omega))), ?_, ?_, ?_⟩
          · have h := hrf'.rdN (i := 0) rfl (fun u hu => by have := (List.mem_replicate.1 hu).2; omega)
            rw [show nints (List.replicate 256 0) = cycC by simp [nints, cycC]] at h
            exact h
          · obtain ⟨e1, e2, e3⟩ := HL.out.ro
            have hN := HN.out
            refine ⟨by rw [cycN_len], by omega, fun j hj => ?_⟩
            obtain ⟨gN, rfl⟩ := hrf'.addr (i := 2) rfl (by rw [e1, cycR_len]; omega)
            obtain ⟨r, hr⟩ : ∃ r, (cycR i i)[j]? = some r := ⟨_, List.getElem?_eq_getElem (by rw [cycR_len]; exact hj)⟩
            have hrj : r = [(j + 1) % i] := by simpa [cycR, hj] using hr.symm
            obtain ⟨g3, c3, e4, e5⟩ := e3 j r hr
            refine ⟨gN, 0, some ⟨g3, 0, none⟩, 1, c3, rfl, by rw [Nat.zero_add]; exact hrf'.cell (i := 2) rfl e4, ?_, ?_⟩
            · have hrd := hrf'.rdN (i := j + 3) (at3i e5) (fun u hu => by
                rw [hrj] at hu
                have := Nat.mod_lt (j + 1) (show 0 < i by omega)
                simp at hu; omega)
              rw [cycN_get hj]
              rw [hrj] at hrd
              simpa [nints] using hrd
            · have ho := hrf'.own (j + 3) _ _ _ (at3i e5)
              exact Row.cap ho
          · exact hrf'.rdB (i := 1) rfl (by have := HN.out; omega))
        have hii : decide ((i : Int) < (i : Int)) = false := by simp
        clear rf hlt hi cf
        go_wp2
        exact bodyPost_ret (v := .agg #[.int .i64 0, .slice (some ⟨x, 0, none⟩) 256 256, .slice aN i cN, .slice (some ⟨y, 0, none⟩) i i]) (by simp [results, Try.results25, go_sem, r0, r1, r2, r3]) rfl (HFIN.out _ (fr4 wr w.heap.size (.int .i64 0) (.slice (some ⟨x, 0, none⟩) 256 256) (.slice aN i cN) (.slice (some ⟨y, 0, none⟩) i i)))
  · obtain ⟨wf, hwf⟩ : ∃ wf, wf = (((w1.alloc (.cells #[.int .i64 0, .slice (some ⟨w1.heap.size + 1 + 1, 0, none⟩) 256 256, .slice none 0 0, .slice (some ⟨w1.heap.size + 1, 0, none⟩) n n] 26)).alloc (.cells CB 4)).alloc (.cells CI 3)).drew := ⟨_, rfl⟩
    rw [← hwf]
    obtain ⟨x, hx⟩ : ∃ x, x = w1.heap.size + 1 + 1 := ⟨_, rfl⟩
    obtain ⟨y, hy⟩ : ∃ y, y = w1.heap.size + 1 := ⟨_, rfl⟩
    obtain ⟨q, hq⟩ : ∃ q, q = w1.heap.size := ⟨_, rfl⟩
    have HX : Hid (B ≤ x ∧ B ≤ y ∧ B ≤ q ∧ x ≠ y ∧ x ≠ q ∧ y ≠ q) := Lib.hid (by have := HBB.out; omega)
    have HBF : Hid (Below B w1 wf) := Lib.hid (by rw [hwf, HBB.out]; exact ((((Below.refl _ _).alloc (by simp) _).alloc (by simp; try omega) _).alloc (by simp; try omega) _).drew)
    have HRF0 : Hid (RF B (fun b => b = q) wf [some (3, .slice (some ⟨x, 0, none⟩) 256 256, List.replicate 256 (.int .i64 0)), some (4, .slice (some ⟨y, 0, none⟩) n n, List.replicate n (.bool false))]) := Lib.hid (by
      refine RF.two HCI.out HCB.out (by decide) (by have := HN.out; omega) ?_ ?_ HX.out.2.2.2.1 HX.out.2.2.2.2.1 HX.out.2.2.2.2.2 HX.out.1 HX.out.2.1 ?_ ?_
      · rw [hwf, hx]; exact (al3 _ _ _ _).2.2.1
      · rw [hwf, hy]; exact (al3 _ _ _ _).2.1
      · rw [hwf, hq, (al3 _ _ _ _).2.2.2]; omega
      · rw [hwf, (al3 _ _ _ _).2.2.2, HBB.out]; omega)
    have HCT0 : Hid (CT wf q 0 (.slice (some ⟨x, 0, none⟩) 256 256) (.slice none 0 0) (.slice (some ⟨y, 0, none⟩) n n)) := Lib.hid (by
      rw [hwf]
      rw [hq, hx, hy]
      have h := alloc_ct w1 0 (.slice (some ⟨w1.heap.size + 1 + 1, 0, none⟩) 256 256) (.slice none 0 0) (.slice (some ⟨w1.heap.size + 1, 0, none⟩) n n) 26
      exact ((h.below (below_alloc _ _)).below (below_alloc _ _)).below (Below.drew (Below.refl _ _)))
    rw [← hx, ← hy, ← hq]
    clear hwf hx hy hq
    obtain ⟨c0, c1, c2, c3, cf⟩ := HCT0.out
    have hln : (List.replicate n (Value.bool false)).length = n := List.length_replicate
    go_wp2_with (refine guard_op (.store 4 (.tmp 11) (.const (.bool true))) rfl ?_; refine RF.store HRF0.out (i := 1) rfl rfl 4 (.tmp 11) (.const (.bool true)) rfl 0 rfl (.bool true) rfl rfl rfl (by kernel_rfl) (by rw [hln]; exact HN.out.1) ?_; intro w4 hrf4 hg4 hbl4 hfr4; have HRF4 := Lib.hid hrf4; have HB4 : Hid (Below B w1 w4) := Lib.hid (HBF.out.trans hbl4); have HCT4 := Lib.hid (HCT0.out.fr hfr4 (fun h => h rfl)); clear hrf4 hg4 hbl4 hfr4 c0 c1 c2 c3 cf)
    have HL0 : Hid (CyL n B q x y w1 w4 0 none 0 [] []) := Lib.hid ⟨by
      have h1 := HRF4.out
      have e1 : (List.replicate n (Value.bool false)).set 0 (.bool true) = (cycA n).map Value.bool := by
        apply List.ext_getElem (by simp [cycA])
        intro j j1 j2
        simp only [List.getElem_set, List.getElem_replicate, cycA, List.getElem_map, List.getElem_range]
        by_cases hj : j = 0
        · subst hj; simp
        · simp [hj, Ne.symm hj]
      have h2 := h1.new (w' := w4) (e := 22) (v := .slice none 0 0) (xs := []) (World.ownsRow_nil _ _ _ _) (Below.refl _ _) (.inr rfl)
      rw [show iv (List.replicate 256 0) = List.replicate 256 (.int .i64 0) by simp [iv], ← e1]
      exact h2, HCT4.out, ⟨rfl, rfl, fun j r h => by simp [cycR] at h⟩, HB4.out⟩
    clear hln
    go_wp2
    go_loopw [4] (fun iv0 wr => ∃ (i : Nat) (aN : Option Addr) (cN : Nat) (xs : List Value) (rs : List (Option Rw)), iv0 = .int .i64 i ∧ i ≤ n ∧ CyL n B q x y w1 wr i aN cN xs rs) (fun iv0 _ => n - (intOf iv0).toNat)
    case atStart => exact ⟨0, none, 0, [], [], rfl, by omega, HL0.out⟩
    case round =>
      obtain ⟨i, aN, cN, xs, rs, rfl, hi, hl⟩ := hrel
      have HL := Lib.hid hl
      obtain ⟨c0, c1, c2, c3, cf⟩ := hl.ct
      have hxl : xs.length = i := by rw [hl.ro.1, cycR_len]
      have hrl : rs.length = i := by rw [hl.ro.2.1, cycR_len]
      have HXL := Lib.hid hxl
      have HRL := Lib.hid hrl
      have hiI : (i : Int) ≤ (n : Int) := by omega
      clear hl hxl hrl
      by_cases hlt : i < n
      · have hii : (i : Int) < (n : Int) := by omega
        have HLT := Lib.hid hlt
        obtain ⟨m, hm⟩ : ∃ m, m = (i + 1) % n := ⟨_, rfl⟩
        have HM := Lib.hid hm
        have hrem : ((i : Int) + 1).tmod (n : Int) = (m : Int) := by rw [Int.tmod_eq_emod_of_nonneg (by omega), hm]; push_cast; rfl
        have hw1a : IntKind.i64.wrap ((i : Int) + 1) = (i : Int) + 1 := IntWalk.i64_in _ (by omega)
        have hmn : m < n := by rw [hm]; exact Nat.mod_lt _ HN.out.1
        have hw2a : IntKind.i64.wrap (m : Int) = (m : Int) := IntWalk.i64_in _ (by omega)
        have hn0 : ¬ (n : Int) = 0 := by omega
        have hn00 : ¬ n = 0 := by omega
        have hnb : ((n : Int) == 0) = false := by rw [beq_eq_false_iff_ne]; exact hn0
        have c2d : wr.drew.cell? ⟨q, 2, none⟩ = some (.slice aN i cN) := c2
        have c2a : ∀ o, (wr.alloc o).cell? ⟨q, 2, none⟩ = some (.slice aN i cN) := fun o => below_cell (below_alloc wr o) c2
        have c2b : ∀ o o', ((wr.alloc o).alloc o').cell? ⟨q, 2, none⟩ = some (.slice aN i cN) := fun o o' => below_cell (below_alloc (wr.alloc o) o') (c2a o)
        have HRN : Hid (RF B (fun b => b = q) (wr.alloc (.cells #[.int .i64 (m : Int)] 3)) (some (3, .slice (some ⟨x, 0, none⟩) 256 256, iv (List.replicate 256 0)) :: some (4, .slice (some ⟨y, 0, none⟩) n n, (cycA n).map Value.bool) :: some (22, .slice aN i cN, xs) :: (rs ++ [some (3, .slice (some ⟨wr.heap.size, 0, none⟩) 1 1, iv [m])]))) := Lib.hid (by
          have h1 := HL.out.rf.new (w' := wr.alloc (.cells #[.int .i64 (m : Int)] 3)) (e := 3) (v := .slice (some ⟨wr.heap.size, 0, none⟩) 1 1) (xs := iv [m]) (by
            have h2 := Own.lits wr .i64 3 [(m : Int)] B HL.out.rf.bw (by simp)
            simpa [Own, iv] using h2) (below_alloc _ _) (.inl rfl)
          simpa using h1)
        have HRDG : Hid (RdG ((wr.alloc (.cells #[.int .i64 (m : Int)] 3)).alloc (.cells #[.slice (some ⟨wr.heap.size, 0, none⟩) 1 1] 22)).drew 1 (some ⟨wr.heap.size + 1, 0, none⟩) 1 [.slice (some ⟨wr.heap.size, 0, none⟩) 1 1]) := Lib.hid (by
          have h := (RdG.lits (wr.alloc (.cells #[.int .i64 (m : Int)] 3)) 1 22 1 [.slice (some ⟨wr.heap.size, 0, none⟩) 1 1] rfl).drew
          rw [show (wr.alloc (.cells #[.int .i64 (m : Int)] 3)).heap.size = wr.heap.size + 1 by simp] at h
          exact h)
        clear hm hlt hi
        go_upto_region 6 with fail
        go_region_law (refine RF.stepAppend HRN.out (i := 2) rfl i HXL.out.symm ((below_alloc _ _).drew) (.tmp 18) (.tmp 24) ESI rfl rfl rfl _ 1 _ [.slice (some ⟨wr.heap.size, 0, none⟩) 1 1] rfl HRDG.out (by simp [Value.oneCell']) (by have := HLT.out; have := HN.out; omega) (by decide) ?_; intro a9 c9 w10 hrf10 hg10 hbl10 hfr10; have hq92 := ((HL.out.ct.below (below_alloc _ _)).fr hfr10 (fun h => h rfl)).c2; have hqf9 := ((HL.out.ct.below (below_alloc _ _)).fr hfr10 (fun h => h rfl)).fz 2)
        all_goals
          obtain ⟨w11, hw11⟩ : ∃ w11, w11 = w10.setCell ⟨q, 2, none⟩ (.slice a9 (i + 1) c9) := ⟨_, rfl⟩
          have HCY : Hid (CyL n B q x y w1 w11 (i + 1) a9 c9 (xs ++ [.slice (some ⟨wr.heap.size, 0, none⟩) 1 1]) (rs ++ [some (3, .slice (some ⟨wr.heap.size, 0, none⟩) 1 1, iv [m])])) := Lib.hid ⟨by
            rw [hw11]; exact hrf10.cells ((Fr.refl (fun b => b = q) w10).setCell (p := ⟨q, 2, none⟩) rfl _), by
            rw [hw11]; exact ((HL.out.ct.below (below_alloc _ _)).fr hfr10 (fun h => h rfl)).set2 _, by
            rw [cycR_succ, ← HM.out]; exact HL.out.ro.push _ _ _, by
            rw [hw11]; exact ((HL.out.be.alloc HL.out.rf.bw _).trans hbl10).setCell HX.out.2.2.1 _⟩
          rw [← hw11]
          clear hw11 hrf10 hg10 hbl10 hfr10 hq92 hqf9 c0 c1 c2 c3 cf c2d c2a c2b
          go_wp2
          exact ⟨⟨i + 1, a9, c9, _, _, by go_num, HLT.out, HCY.out⟩, by have := HLT.out; simp only [intOf]; omega⟩
      · obtain rfl : i = n := by omega
        have HBW : Hid (Below w1.heap.size w1 wr) := Lib.hid (by rw [← HBB.out]; exact HL.out.be)
        obtain ⟨r0, r1, r2, r3, rf⟩ := HRES.out.below HBW.out
        have rf0 := rf 0
        have rf1 := rf 1
        have rf2 := rf 2
        have rf3 := rf 3
        have HFIN : Hid (∀ wf, Fr (fun b => b = w.heap.size) wr wf → CycPost i w (.returned (.agg #[.int .i64 0, .slice (some ⟨x, 0, none⟩) 256 256, .slice aN i cN, .slice (some ⟨y, 0, none⟩) i i])) wf) := Lib.hid (fun wf hf => by
          have hWB : w.heap.size < B := by have h1 := HS1.out; have h2 := HBB.out; omega
          have hrf' := HL.out.rf.fr hf (fun j e v us g hj hg e2 => by have := (HL.out.rf.lt hj hg).2; omega)
          refine ⟨_, _, _, _, _, _, rfl, ((HB1.out.trans (HBW.out.mono (by have := HS1.out; omega))).trans (hf.below (fun b e => by omega) (by have h1 := HB1.out.size; have h2 := HBW.out.size; omega))), ?_, ?_, ?_⟩
          · have h := hrf'.rdN (i := 0) rfl (fun u hu => by have := (List.mem_replicate.1 hu).2; omega)
            rw [show nints (List.replicate 256 0) = cycC by simp [nints, cycC]] at h
            exact h
          · obtain ⟨e1, e2, e3⟩ := HL.out.ro
            have hN := HN.out
            refine ⟨by rw [cycN_len], by omega, fun j hj => ?_⟩
            obtain ⟨gN, rfl⟩ := hrf'.addr (i := 2) rfl (by rw [e1, cycR_len]; omega)
            obtain ⟨r, hr⟩ : ∃ r, (cycR i i)[j]? = some r := ⟨_, List.getElem?_eq_getElem (by rw [cycR_len]; exact hj)⟩
            have hrj : r = [(j + 1) % i] := by simpa [cycR, hj] using hr.symm
            obtain ⟨g3, c3, e4, e5⟩ := e3 j r hr
            refine ⟨gN, 0, some ⟨g3, 0, none⟩, 1, c3, rfl, by rw [Nat.zero_add]; exact hrf'.cell (i := 2) rfl e4, ?_, ?_⟩
            · have hrd := hrf'.rdN (i := j + 3) (at3i e5) (fun u hu => by
                rw [hrj] at hu
                have := Nat.mod_lt (j + 1) (show 0 < i by omega)
                simp at hu; omega)
              rw [cycN_get hj]
              rw [hrj] at hrd
              simpa [nints] using hrd
            · have ho := hrf'.own (j + 3) _ _ _ (at3i e5)
              exact Row.cap ho
          · exact hrf'.rdB (i := 1) rfl (by have := HN.out; omega))
        have hii : decide ((i : Int) < (i : Int)) = false := by simp
        clear rf hlt hi cf
        go_wp2
        exact bodyPost_ret (v := .agg #[.int .i64 0, .slice (some ⟨x, 0, none⟩) 256 256, .slice aN i cN, .slice (some ⟨y, 0, none⟩) i i]) (by simp [results, Try.results25, go_sem, r0, r1, r2, r3]) rfl (HFIN.out _ (fr4 wr w.heap.size (.int .i64 0) (.slice (some ⟨x, 0, none⟩) 256 256) (.slice aN i cN) (.slice (some ⟨y, 0, none⟩) i i)))

end Go.Proofs.Ytajajkganamfiaa
