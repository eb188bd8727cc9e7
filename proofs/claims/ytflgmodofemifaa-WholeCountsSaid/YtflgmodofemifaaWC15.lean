/-
  Joined texts: parts.Of of no letters and of the whole text; length.Range. · locate.Count of the whole text. · finds: the pattern aa ends twice in aaa. · what the walk of WholeCounts calls: greatly; a power of whatever number of copies; bytes from ahead of the store.
-/
import Derived.Test.YtflgmodofemifaaWC14
import Derived.Test.YtflgmodofemifaaWC8
import Derived.Lib.SlBytesConst
import Derived.Lib.SmallJoins

/- parts.Of of no letters and of the whole text; length.Range. -/
namespace Go.Proofs.Ytflgmodofemifaa
open Go.RowKit Go.Maps
set_option linter.unusedVariables false
set_option linter.unusedSimpArgs false

theorem EPTG : EltG Try.prog 96 121 (.agg #[.int .i64 0, .int .i64 0, .int .i64 0]) 3 24 := ⟨Try.underlying96, info_parts (by kernel_rfl), rfl, by decide⟩

set_option maxRecDepth 100000 in
set_option maxHeartbeats 1000000 in
theorem partsZero_any (bs id : Nat) (w : World) : Calls Try.prog 53 #[.pointer (some ⟨bs, 0, none⟩), .int .i64 (id : Nat), .int .i64 0, .int .i64 0] w fun e w' => e = .returned (.tuple #[.slice none 0 0, .nilIface]) ∧ Below w.heap.size w w' := by
  obtain ⟨w1, hw1⟩ : ∃ w1, w1 = w.alloc (.cells [.int .i64 (id : Nat), .int .i64 0, .int .i64 0].toArray 146) := ⟨_, rfl⟩
  have HB := Lib.hid (show Below w.heap.size w w1 by rw [hw1]; exact below_alloc _ _)
  have HX := Lib.hid (show BX w1 w.heap.size [.int .i64 (id : Nat), .int .i64 0, .int .i64 0] by rw [hw1]; exact BX.alloc _ _ _)
  have HW1 := Lib.hid hw1
  clear hw1
  go_enter Try.func53, Try.ntmps53
  go_upto_region 4 with fail
  rw [← HW1.out]
  go_loopg [10, 12] 1 (fun gg lv sv wr => lv = .slice none 0 0 ∧ ((gg = 1 ∧ sv = .slice (some ⟨w.heap.size, 0, none⟩) 1 1 ∧ wr = w1) ∨ (gg = 0 ∧ sv = .slice (some ⟨w.heap.size, 0, none⟩) 0 1 ∧ Below w1.heap.size w1 wr)))
  case atStart => exact ⟨rfl, .inl ⟨rfl, rfl, rfl⟩⟩
  case round =>
    rcases hrel with ⟨rfl, ⟨rfl, rfl, rfl⟩ | ⟨rfl, rfl, hb⟩⟩
    · have c0 := HX.out.cell (j := 0) rfl
      have c1 := HX.out.cell (j := 1) rfl
      have c2 := HX.out.cell (j := 2) rfl
      go_wp2
      go_roundg 0
      case measure => omega
      case rel => exact ⟨rfl, .inr ⟨rfl, rfl, below_alloc _ _⟩⟩
    · have HBB := Lib.hid (HB.out.trans (hb.mono HB.out.size))
      clear hb
      go_wp2
      go_ret2
      exact ⟨rfl, HBB.out⟩

/-- the whole text, in one part -/
def PartsPost (id : Nat) (w : World) (e : Ending) (w' : World) : Prop :=
  ∃ g c, e = .returned (.tuple #[.slice (some ⟨g, 0, none⟩) 1 c, .nilIface]) ∧ w'.cell? ⟨g, 0, none⟩ = some (.int .i64 (id : Nat)) ∧ w'.cell? ⟨g, 1, none⟩ = some (.int .i64 0) ∧ w'.cell? ⟨g, 2, none⟩ = some (.int .i64 1) ∧ Below w.heap.size w w'

set_option maxRecDepth 100000 in
set_option maxHeartbeats 1000000 in
theorem partsAll_any {B bs most : Nat} {L : List En} {w : World} (h : SI B w bs most L) (id n : Nat) (h0 : 0 < id) (hid : id ≤ L.length) (hn : n = (tx L id).length) (hn0 : 0 < n) :
    Calls Try.prog 53 #[.pointer (some ⟨bs, 0, none⟩), .int .i64 (id : Nat), .int .i64 0, .int .i64 (n : Nat)] w (PartsPost id w) := by
  obtain ⟨e, he, hl⟩ := h.ent h0 hid
  rw [← hl] at hn
  obtain ⟨w1, hw1⟩ : ∃ w1, w1 = w.alloc (.cells [.int .i64 (id : Nat), .int .i64 0, .int .i64 (n : Nat)].toArray 146) := ⟨_, rfl⟩
  have HB := Lib.hid (show Below w.heap.size w w1 by rw [hw1]; exact below_alloc _ _)
  have HX := Lib.hid (show BX w1 w.heap.size [.int .i64 (id : Nat), .int .i64 0, .int .i64 (n : Nat)] by rw [hw1]; exact BX.alloc _ _ _)
  have HS := Lib.hid (h.below HB.out)
  have HE := Lib.hid he
  have H0 := Lib.hid h0
  have hne : ∀ w, (binOp .neq 34 .nilIface .nilIface).run Try.prog w = .ok (.bool false) w := fun w => by kernel_rfl
  have hid0 : ((id : Int) == 0) = false := by simp; omega
  have hn1 : (0 : Int) < (n : Int) := by omega
  have HW1 := Lib.hid hw1
  have HN := Lib.hid hn
  clear hw1 h he h0 hid hl hn hn0
  go_enter Try.func53, Try.ntmps53
  go_upto_region 4 with fail
  rw [← HW1.out]
  go_loopg [10, 12] 1 (fun gg lv sv wr => (gg = 1 ∧ lv = .slice none 0 0 ∧ sv = .slice (some ⟨w.heap.size, 0, none⟩) 1 1 ∧ wr = w1) ∨ (gg = 0 ∧ ∃ g c, lv = .slice (some ⟨g, 0, none⟩) 1 c ∧ sv = .slice (some ⟨w.heap.size, 0, none⟩) 0 1 ∧ Below w1.heap.size w1 wr ∧ wr.cell? ⟨g, 0, none⟩ = some (.int .i64 (id : Nat)) ∧ wr.cell? ⟨g, 1, none⟩ = some (.int .i64 0) ∧ wr.cell? ⟨g, 2, none⟩ = some (.int .i64 1)))
  case atStart => exact .inl ⟨rfl, rfl, rfl, rfl⟩
  case round =>
    rcases hrel with ⟨rfl, rfl, rfl, rfl⟩ | ⟨rfl, g, c, rfl, rfl, hb, k0, k1, k2⟩
    · have c0 := HX.out.cell (j := 0) rfl
      have c1 := HX.out.cell (j := 1) rfl
      have c2 := HX.out.cell (j := 2) rfl
      go_upto_region 7 with fail
      obtain ⟨w2, hw2⟩ : ∃ w2, w2 = wr.alloc (.cells [.int .i64 (id : Nat), .int .i64 0, .int .i64 (n : Nat)].toArray 146) := ⟨_, rfl⟩
      obtain ⟨b2, hb2⟩ : ∃ b2, b2 = wr.heap.size := ⟨_, rfl⟩
      have HB2 := Lib.hid (show Below wr.heap.size wr w2 by rw [hw2]; exact below_alloc _ _)
      have HX2 := Lib.hid (show BX w2 b2 [.int .i64 (id : Nat), .int .i64 0, .int .i64 (n : Nat)] by rw [hw2, hb2]; exact BX.alloc _ _ _)
      have HWT := Lib.hid (storeWeight_any (HS.out.below HB2.out) id e H0.out HE.out)
      unfold weV at HWT
      have d0 := HX2.out.cell (j := 0) rfl
      have d2 := HX2.out.cell (j := 2) rfl
      rw [show [Value.int .i64 (id : Nat), Value.int .i64 0, Value.int .i64 (n : Nat)].toArray = #[Value.int .i64 (id : Nat), Value.int .i64 0, Value.int .i64 (n : Nat)] from rfl] at hw2
      rw [← hw2, ← hb2]
      clear hw2 hb2 c0 c1 c2
      go_wp2_with fail
      refine HWT.out.mono ?_
      rintro r w3 ⟨rfl, hb3⟩
      have HB3 := Lib.hid (HB2.out.trans (hb3.mono HB2.out.size))
      have HX3 := Lib.hid (HX2.out.below hb3)
      have hnl : (e.we.len : Int) ≤ (n : Int) := by rw [HN.out]; exact Int.le_refl _
      clear hb3 d0 d2
      go_upto_region 11 with fail
      obtain ⟨w4, hw4⟩ : ∃ w4, w4 = w3.alloc (.cells #[.int .i64 (e.we.len : Nat), .int .i64 (e.we.lines : Nat), .int .i64 (e.we.head : Nat), .int .i64 (e.we.tail : Nat), .int .u64 (e.we.dv : Nat), .int .u64 (e.we.ds : Nat)] 72) := ⟨_, rfl⟩
      obtain ⟨b4, hb4⟩ : ∃ b4, b4 = w3.heap.size := ⟨_, rfl⟩
      have HB4 := Lib.hid (show Below wr.heap.size wr w4 by rw [hw4]; exact HB3.out.trans ((below_alloc w3 _).mono HB3.out.size))
      have HX4 := Lib.hid (show BX w4 b4 (weCs e.we) by rw [hw4, hb4]; exact BX.alloc _ (weCs e.we) _)
      have d0 := (HX3.out.below (show Below w3.heap.size w3 w4 by rw [hw4]; exact below_alloc _ _)).cell (j := 0) rfl
      have d2 := (HX3.out.below (show Below w3.heap.size w3 w4 by rw [hw4]; exact below_alloc _ _)).cell (j := 2) rfl
      have f0 := HX4.out.cell (j := 0) rfl
      have hnl2 : decide (e.we.len ≤ n) = true := by rw [decide_eq_true_iff]; rw [HN.out]; exact Nat.le_refl _
      rw [← hw4, ← hb4]
      clear hw4 hb4
      go_wp2_with (at_builtin; refine app_row_at (.tmp 60) (.tmp 64) EPTG rfl rfl wr.heap.size (.slice none 0 0) 0 [] rfl (World.ownsRow_nil _ _ _ _) _ 1 1 [.int .i64 (id : Nat), .int .i64 0, .int .i64 1] rfl (RdG.lits w4 3 121 1 [.int .i64 (id : Nat), .int .i64 0, .int .i64 1] rfl) (by simp [Value.oneCell']) (by decide) (by decide) (by have := HB4.out.size; simp; omega) ?_; intro a7 c7 w7 hr7 hg7 hat7; simp only [Nat.zero_add, List.nil_append] at hr7; have HR7 := Lib.hid hr7; have HB7 := Lib.hid ((below_alloc w4 (.cells [Value.int .i64 (id : Nat), .int .i64 0, .int .i64 1].toArray 121)).grown hg7 (by simp) (fun x hx => by cases hx)); clear hr7 hg7 hat7)
      go_roundg 0
      case measure => omega
      case rel =>
        obtain ⟨g, cc, hv⟩ : ∃ g cc, Value.slice a7 (0 + 1) c7 = .slice (some ⟨g, 0, none⟩) 1 cc := by
          rcases HR7.out.2 with ⟨_, h0⟩ | ⟨g', cap, cur, hv, _⟩
          · cases h0
          · exact ⟨g', cap, hv⟩
        obtain ⟨rfl, -, rfl⟩ := Value.slice.inj hv
        have hc : ∀ j u, j < 3 → [Value.int .i64 (id : Nat), .int .i64 0, .int .i64 1][j]? = some u → w7.cell? ⟨g, j, none⟩ = some u := fun j u hj hu => by
          rw [World.ownsRow.cellAt HR7.out j (by omega)]; exact hu
        exact .inr ⟨rfl, g, c7, rfl, rfl, HB4.out.trans (HB7.out.mono HB4.out.size), hc 0 _ (by decide) rfl, hc 1 _ (by decide) rfl, hc 2 _ (by decide) rfl⟩
    · have HBB := Lib.hid (HB.out.trans (hb.mono HB.out.size))
      have HK := Lib.hid (And.intro k0 (And.intro k1 k2))
      clear hb k0 k1 k2
      go_wp2
      go_ret2
      exact ⟨g, c, rfl, HK.out.1, HK.out.2.1, HK.out.2.2, HBB.out⟩

end Go.Proofs.Ytflgmodofemifaa

/- locate.Count of the whole text. -/
namespace Go.Proofs.Ytflgmodofemifaa
open Go.RowKit Go.Maps
set_option linter.unusedVariables false
set_option linter.unusedSimpArgs false

set_option maxRecDepth 100000 in
theorem scanParts0_any {m acc B bs most L x w tb nk K} (h : TB m acc B bs most L x w tb nk K) (id : Nat) : Calls Try.prog 35 #[.pointer (some ⟨tb, 0, none⟩), .int .i64 (id : Nat), .int .i64 0, .int .i64 0] w fun e w' => e = .returned (.slice none 0 0) ∧ Below w.heap.size w w' := by
  have HS := Lib.hid (tabStore_any h)
  have HP := Lib.hid (partsZero_any bs id w)
  have HT := Lib.hid h
  have hne : ∀ w, (binOp .neq 34 .nilIface .nilIface).run Try.prog w = .ok (.bool false) w := fun w => by kernel_rfl
  clear h
  go_enter Try.func35, Try.ntmps35
  go_wp2_with fail
  refine HS.out.mono ?_
  rintro e w1 ⟨rfl, rfl⟩
  go_wp2_with fail
  refine HP.out.mono ?_
  rintro e w2 ⟨rfl, hb2⟩
  have HBK := Lib.hid (tabBack_any (HT.out.below hb2))
  have HB2 := Lib.hid hb2
  clear hb2
  go_wp2_with fail
  refine HBK.out.mono ?_
  rintro e w3 ⟨rfl, rfl⟩
  go_wp2
  go_ret
  exact ⟨rfl, HB2.out⟩

set_option maxRecDepth 100000 in
theorem through0_any (tb q : Nat) (w : World) : Calls Try.prog 34 #[.pointer (some ⟨tb, 0, none⟩), .slice none 0 0, .int .i64 (q : Nat)] w fun e w' => e = .returned (.int .i64 (q : Nat)) ∧ w' = w := by
  go_enter Try.func34, Try.ntmps34
  go_upto_region 2 with fail
  go_loopg [2, 11] 0 (fun gg qv iv wr => qv = .int .i64 (q : Nat) ∧ iv = .int .i64 0 ∧ wr = w)
  case atStart => exact ⟨rfl, rfl, rfl⟩
  case round =>
    obtain ⟨rfl, rfl, rfl⟩ := hrel
    go_wp2
    go_ret
    exact ⟨rfl, rfl⟩

set_option maxRecDepth 100000 in
theorem tabMachine_any {m acc B bs most L x w tb nk K} (h : TB m acc B bs most L x w tb nk K) (hv : Valid 0 m.cls m.next acc) : Calls Try.prog 36 #[.pointer (some ⟨tb, 0, none⟩)] w fun e w' => (∃ a b c, e = .returned (.agg #[.int .i64 0, a, b, c])) ∧ Below w.heap.size w w' := by
  obtain ⟨w1, hw1⟩ : ∃ w1, w1 = w.alloc (.cells [.int .i64 0, .slice none 0 0, .slice none 0 0, .slice none 0 0].toArray 32) := ⟨_, rfl⟩
  have HB := Lib.hid (show Below w.heap.size w w1 by rw [hw1]; exact below_alloc _ _)
  have HZ := Lib.hid (show BX w1 w.heap.size [.int .i64 0, .slice none 0 0, .slice none 0 0, .slice none 0 0] by rw [hw1]; exact BX.alloc _ _ _)
  have HT := Lib.hid (h.below HB.out)
  have HCL := Lib.hid (mclone_any w1 x.ac x.an x.aa x.cc x.cn x.ca m.next.length m.cls m.next acc HT.out.rd hv)
  obtain ⟨n, hn⟩ : ∃ n, n = m.next.length := ⟨_, rfl⟩
  have c1 := HT.out.bx.cell (j := 1) rfl
  have c2 := HT.out.bx.cell (j := 2) rfl
  have c3 := HT.out.bx.cell (j := 3) rfl
  have c4 := HT.out.bx.cell (j := 4) rfl
  rw [← hn] at HCL c3 c4
  have HW1 := Lib.hid hw1
  clear hw1 h hv hn
  go_enter Try.func36, Try.ntmps36
  go_upto_region 1 with fail
  rw [← HW1.out]
  go_wp2_with fail
  refine HCL.out.mono ?_
  rintro e w2 ⟨ac, cc, an, cn, aa, ca, rfl, -, hb2⟩
  have HB2 := Lib.hid (HB.out.trans (hb2.mono HB.out.size))
  have HZ2 := Lib.hid (HZ.out.below hb2)
  have hth := HZ2.out.there 0 4 (by simp)
  clear hb2 c1 c2 c3 c4
  go_wp2_with (refine wpList_store_mid rfl 32 _ _ rfl w.heap.size 0 #[.int .i64 0, .slice ac 256 cc, .slice an n cn, .slice aa n ca] rfl rfl hth mach_info (by simp [Value.oneCell']) ?_)
  have hz := HZ2.out.putAll [.int .i64 0, .slice ac 256 cc, .slice an n cn, .slice aa n ca] rfl
  refine bodyPost_ret (res_cell rfl _ _ w.heap.size _ _ rfl hz.rng Try.underlying32 rfl mach_info) rfl ?_
  exact ⟨⟨_, _, _, rfl⟩, belowSetCells HB2.out (Nat.le_refl _) 0 _ HB2.out.size⟩


set_option maxRecDepth 100000 in
set_option maxHeartbeats 2000000 in
theorem part_any {m acc B bs most L x w tb nk K} (h : TB m acc B bs most L x w tb nk K) (hv : Valid 0 m.cls m.next acc) (id n q : Nat) (h0 : 0 < id) (hid : id ≤ L.length) (hn : n = (tx L id).length) (hn0 : 0 < n) (hq : q < m.next.length) (hsh : 8 * (tx L id).length ≤ ML) :
    Calls Try.prog 37 #[.pointer (some ⟨tb, 0, none⟩), .int .i64 (id : Nat), .int .i64 0, .int .i64 (n : Nat), .int .i64 (q : Nat)] w fun e w' => (∃ v, e = .returned (.tuple #[v, .int .i64 (m.hs q (tx L id) : Nat), .nilIface])) ∧ ∃ nk K, TB m acc B bs most L x w' tb nk K ∧ Fr (fun b => b = x.bk) w w' := by
  have HCK := Lib.hid (tabCheck_any h id q hid hq)
  obtain ⟨e, he, hl⟩ := h.si.ent h0 hid
  have HWT := Lib.hid (storeWeight_any h.si id e h0 he)
  unfold weV at HWT
  have HT := Lib.hid h
  have HV := Lib.hid hv
  have HID := Lib.hid (And.intro h0 (And.intro hid (And.intro hn (And.intro hn0 hq))))
  have hne : ∀ w, (binOp .neq 34 .nilIface .nilIface).run Try.prog w = .ok (.bool false) w := fun w => by kernel_rfl
  have HSH := Lib.hid hsh
  have HRM := Lib.hid h.si.room
  have c0 := h.bx.cell (j := 0) rfl
  have hlen : e.we.len = n := by rw [hl, hn]
  rw [hlen] at HWT
  clear h hv h0 hid hn hn0 hq he hl hsh
  go_enter Try.func37, Try.ntmps37
  go_wp2_with fail
  refine HCK.out.mono ?_
  rintro r w1 ⟨rfl, rfl⟩
  go_wp2_with fail
  refine HWT.out.mono ?_
  rintro r w2 ⟨rfl, hb2⟩
  have HB2 := Lib.hid hb2
  clear hb2 c0
  go_upto_region 7 with fail
  obtain ⟨w3, hw3⟩ : ∃ w3, w3 = w2.alloc (.cells #[.int .i64 (n : Nat), .int .i64 (e.we.lines : Nat), .int .i64 (e.we.head : Nat), .int .i64 (e.we.tail : Nat), .int .u64 (e.we.dv : Nat), .int .u64 (e.we.ds : Nat)] 72) := ⟨_, rfl⟩
  obtain ⟨b3, hb3⟩ : ∃ b3, b3 = w2.heap.size := ⟨_, rfl⟩
  have HX3 := Lib.hid (show BX w3 b3 [.int .i64 (n : Nat), .int .i64 (e.we.lines : Nat), .int .i64 (e.we.head : Nat), .int .i64 (e.we.tail : Nat), .int .u64 (e.we.dv : Nat), .int .u64 (e.we.ds : Nat)] by rw [hw3, hb3]; exact BX.alloc _ _ _)
  have HB3 := Lib.hid (show Below w1.heap.size w1 w3 by rw [hw3]; exact HB2.out.trans ((below_alloc w2 _).mono HB2.out.size))
  have HT3 := Lib.hid (HT.out.below HB3.out)
  have d0 := HX3.out.cell (j := 0) rfl
  rw [← hw3, ← hb3]
  have HLR := Lib.hid (lenRange_any 0 n n (by omega) (by have h1 := HSH.out; have h2 := HID.out.2.2.1; omega) w3)
  have HLE := Lib.hid (learn_any HT3.out HV.out id HID.out.1 HID.out.2.1 HSH.out)
  clear hw3 hb3
  go_wp2_with fail
  refine HLR.out.mono ?_
  rintro r w4 ⟨rfl, rfl⟩
  go_wp2_with fail
  refine HLE.out.mono ?_
  rintro r w5 ⟨rfl, nk', K', ht5, hk5, -, hf5⟩
  have HT5 := Lib.hid ht5
  have HK5 := Lib.hid hk5
  have HF5 := Lib.hid ((Fr.of_below (S := fun b => b = x.bk) HB3.out).trans hf5)
  have c0 := ht5.bx.cell (j := 0) rfl
  have HPA := Lib.hid (partsAll_any ht5.si id n HID.out.1 HID.out.2.1 HID.out.2.2.1 HID.out.2.2.2.1)
  clear ht5 hk5 hf5 d0
  go_wp2_with fail
  refine HPA.out.mono ?_
  rintro r w6 ⟨g, c, rfl, k0, k1, k2, hb6⟩
  have HT6 := Lib.hid (HT5.out.below hb6)
  have HF6 := Lib.hid (HF5.out.trans (.of_below hb6))
  have HK6 := Lib.hid (And.intro k0 (And.intro k1 k2))
  have c6 := HT6.out.bx.cell (j := 6) rfl
  clear hb6 c0 k0 k1 k2
  go_upto_region 19 with fail
  go_loopg [4, 11, 78] 1 (fun gg qv hvv iv wr => (gg = 1 ∧ qv = .int .i64 (q : Nat) ∧ hvv = .int .i64 0 ∧ iv = .int .i64 0 ∧ wr = w6) ∨ (gg = 0 ∧ (∃ z : Nat, qv = .int .i64 (z : Nat)) ∧ hvv = .int .i64 (m.hs q (tx L id) : Nat) ∧ iv = .int .i64 1 ∧ Below w6.heap.size w6 wr))
  case atStart => exact .inl ⟨rfl, rfl, rfl, rfl, rfl⟩
  case round =>
    rcases hrel with ⟨rfl, rfl, rfl, rfl, rfl⟩ | ⟨rfl, ⟨z, rfl⟩, rfl, rfl, hb⟩
    · obtain ⟨v, hv5⟩ := Option.isSome_iff_exists.1 HK5.out
      obtain ⟨-, -, ae, ce, ah, ch, cp, rfl, hef, -⟩ := HT6.out.ent id v hv5
      have k0 := HK6.out.1
      have k1 := HK6.out.2.1
      have k2 := HK6.out.2.2
      go_upto_region 21 with fail
      obtain ⟨w7, hw7⟩ : ∃ w7, w7 = wr.alloc (.cells #[.int .i64 (id : Nat), .int .i64 0, .int .i64 1] 121) := ⟨_, rfl⟩
      obtain ⟨b7, hb7⟩ : ∃ b7, b7 = wr.heap.size := ⟨_, rfl⟩
      have HX7 := Lib.hid (show BX w7 b7 [.int .i64 (id : Nat), .int .i64 0, .int .i64 1] by rw [hw7, hb7]; exact BX.alloc _ _ _)
      have HB7 := Lib.hid (show Below wr.heap.size wr w7 by rw [hw7]; exact below_alloc _ _)
      have HT7 := Lib.hid (HT6.out.below HB7.out)
      have d2 := HX7.out.cell (j := 2) rfl
      have HCC := Lib.hid (fun (wx : World) (hb : Below w7.heap.size w7 wx) => And.intro ((HT7.out.below hb).bx.cell (j := 7) rfl) ((HX7.out.below hb).cell (j := 0) rfl))
      have hl := ((HT7.out.below (Below.refl _ _).drew).km.hit (by have := HRM.out; have := HID.out.2.1; omega) hv5).2
      have hff := fun w => ent_field (.slice ae m.next.length ce) (.slice ah m.next.length ch) cp w
      have hst := HT.out.ok.hs_le (tx L id) q
      have hsh := HSH.out
      have hru := run_any m HT.out.ok w7.drew ae ah ce ch (tx L id) (tx_bts HT.out.si.good _ id (Nat.le_refl _) HID.out.1 HID.out.2.1) (hef.below (HB7.out.drew)) q 0 HID.out.2.2.2.2 (by omega)
      rw [Int.natCast_zero, Nat.zero_add] at hru
      have HRU := Lib.hid hru
      rw [← hw7, ← hb7]
      clear hw7 hb7 hst hsh hru hef hv5 k0 k1 k2
      go_upto_region 22 with fail
      go_region_held3 (fun wx => wx.cell? ⟨tb, 7, none⟩ = some (.map (some x.bk)) ∧ wx.cell? ⟨b7, 0, none⟩ = some (.int .i64 (id : Nat))) (first | exact HCC.out _ (Below.refl _ _).drew | exact HCC.out _ HB8.out)
        (first | (go_at_call 55; refine HRU.out.mono ?_; rintro r w8 ⟨rfl, hb8⟩; have HB8 : Hid (Below w7.heap.size w7 w8) := Lib.hid ((Below.refl _ _).drew.trans hb8); clear hb8))
      go_wp2
      go_roundg 0
      case measure => omega
      case rel => exact .inr ⟨rfl, ⟨_, rfl⟩, rfl, rfl, HB7.out.trans (HB8.out.mono HB7.out.size)⟩
    · have HBB := Lib.hid hb
      have hst := HT.out.ok.hs_le (tx L id) q
      have hsh := HSH.out
      rw [ML_val] at hsh
      obtain ⟨y, hy⟩ : ∃ y, y = m.hs q (tx L id) := ⟨_, rfl⟩
      have HY := Lib.hid hy
      have hyb : decide ((1152921504606846976 : Int) < (y : Int)) = false := by rw [decide_eq_false_iff_not]; omega
      rw [← hy]
      clear hb hst hsh hy
      go_wp2
      go_ret3
      exact ⟨⟨_, by rw [← HY.out]; rfl⟩, nk', K', HT6.out.below HBB.out, HF6.out.trans (.of_below HBB.out)⟩

set_option maxRecDepth 100000 in
set_option maxHeartbeats 2000000 in
theorem count_any {m acc B bs most L x w tb nk K} (h : TB m acc B bs most L x w tb nk K) (hv : Valid 0 m.cls m.next acc) (id n : Nat) (h0 : 0 < id) (hid : id ≤ L.length) (hn : n = (tx L id).length) (hn0 : 0 < n) (hsh : 8 * (tx L id).length ≤ ML) :
    Calls Try.prog 14 #[.pointer (some ⟨tb, 0, none⟩), .int .i64 (id : Nat), .int .i64 0, .int .i64 (n : Nat)] w fun e w' => e = .returned (.tuple #[.int .i64 (m.hs 0 (tx L id) : Nat), .nilIface]) ∧ ∃ nk K, TB m acc B bs most L x w' tb nk K ∧ Fr (fun b => b = x.bk) w w' := by
  have HCK := Lib.hid (locCheck_any h id hid)
  have hsz := scanSize_any h id h0 hid
  rw [← hn] at hsz
  have HSZ := Lib.hid hsz
  have HT := Lib.hid h
  have HV := Lib.hid hv
  have HSH := Lib.hid hsh
  have HID := Lib.hid (And.intro h0 (And.intro hid (And.intro hn hn0)))
  have hne : ∀ w, (binOp .neq 34 .nilIface .nilIface).run Try.prog w = .ok (.bool false) w := fun w => by kernel_rfl
  clear h hv h0 hid hn hn0 hsz hsh
  go_enter Try.func14, Try.ntmps14
  go_wp2_with fail
  refine HCK.out.mono ?_
  rintro r w1 ⟨rfl, rfl⟩
  go_wp2_with fail
  refine HSZ.out.mono ?_
  rintro r w2 ⟨rfl, hb2⟩
  have HB2 := Lib.hid hb2
  have HT2 := Lib.hid (HT.out.below hb2)
  have HLR := Lib.hid (lenRange_any 0 n n (by omega) (by have h1 := HSH.out; have h2 := HID.out.2.2.1; omega) w2)
  clear hb2
  go_wp2_with fail
  refine HLR.out.mono ?_
  rintro r w3 ⟨rfl, rfl⟩
  have HSP := Lib.hid (scanParts0_any HT2.out id)
  go_wp2_with fail
  refine HSP.out.mono ?_
  rintro r w4 ⟨rfl, hb4⟩
  have HT4 := Lib.hid (HT2.out.below hb4)
  have HB4 := Lib.hid (HB2.out.trans (hb4.mono HB2.out.size))
  have HMC := Lib.hid (tabMachine_any HT4.out HV.out)
  clear hb4
  go_wp2_with fail
  refine HMC.out.mono ?_
  rintro r w5 ⟨⟨a, b, c, rfl⟩, hb5⟩
  have HT5 := Lib.hid (HT4.out.below hb5)
  have HB5 := Lib.hid (HB4.out.trans (hb5.mono HB4.out.size))
  have hfm : ∀ w, (Instr.field 32 (.agg #[.int .i64 0, a, b, c]) 0).run Try.prog w = .ok (.int .i64 0) w := fun w => by kernel_rfl
  have htr := through0_any tb 0 w5
  rw [Int.natCast_zero] at htr
  have HTR := Lib.hid htr
  have hpt := part_any HT5.out HV.out id n 0 HID.out.1 HID.out.2.1 HID.out.2.2.1 HID.out.2.2.2 HT.out.ok.n0 HSH.out
  rw [Int.natCast_zero] at hpt
  have HPT := Lib.hid hpt
  clear hb5 htr hpt
  go_wp2_with fail
  refine HTR.out.mono ?_
  rintro r w6 ⟨rfl, rfl⟩
  go_wp2_with fail
  refine HPT.out.mono ?_
  rintro r w7 ⟨⟨v, rfl⟩, nk', K', ht7, hf7⟩
  have HT7 := Lib.hid ht7
  have HF7 := Lib.hid ((Fr.of_below (S := fun b => b = x.bk) HB5.out).trans hf7)
  clear ht7 hf7
  go_wp2
  go_ret2
  exact ⟨rfl, nk', K', HT7.out, HF7.out⟩

end Go.Proofs.Ytflgmodofemifaa

/- finds: the pattern aa ends twice in aaa. -/
namespace Go.Proofs.Ytflgmodofemifaa
open Go.RowKit Go.Maps Go.Joins
set_option linter.unusedVariables false
set_option linter.unusedSimpArgs false

theorem of_ok {ps : List (List Int)} {w : World} {e : Ending} {w' : World} (h : OfPost ps w e w') (h0 : ocode ps = 0) : Below w.heap.size w w' ∧ ∃ ac an cn aa ca ah ch, e = .returned (.tuple #[.agg #[.int .i64 0, .slice ac 256 256, .slice an (litM ps).next.length cn, .slice aa (litM ps).next.length ca], .slice ah (litM ps).next.length ch, .nilIface]) ∧
      RdM w' ac 256 an (litM ps).next.length aa (litM ps).next.length (litM ps).cls (litM ps).next (litA ps) ∧ Rd w' .i64 ah (litM ps).next.length (litM ps).hits := by
  have hn : (litM ps).next.length = (prefs ps).length := litN_len ps
  rw [hn]
  obtain ⟨hb, ⟨h1, _⟩ | ⟨_, h2⟩⟩ := h
  · exact absurd h0 h1
  · exact ⟨hb, h2⟩
theorem of_bad {ps : List (List Int)} {w : World} {e : Ending} {w' : World} {k : Int} (h : OfPost ps w e w') (hk : ocode ps = k) (h0 : k ≠ 0) : Below w.heap.size w w' ∧ e = .returned (.tuple #[.agg #[.int .i64 0, .slice none 0 0, .slice none 0 0, .slice none 0 0], .slice none 0 0, errV k]) := by
  obtain ⟨hb, ⟨_, h2⟩ | ⟨h1, _⟩⟩ := h
  · rw [hk] at h2; exact ⟨hb, h2⟩
  · exact absurd (hk ▸ h1) h0
theorem ocode_small' {ps : List (List Int)} (h : ocode ps = 0) : (prefs ps).length ≤ 256 := by
  unfold ocode at h
  split at h
  · cases h
  · split at h
    · cases h
    · rw [← trie_len]; omega

theorem rd_mark (w : World) (k : IntKind) (e : TypeId) (fr : Nat × Nat) (l : List Int) (g : Nat) (hg : g = w.heap.size) (hm : l.length ≤ 9223372036854775807) (hx : ∀ x ∈ l, (Lit.int k x).wf = true) : Rd (w.alloc (.cells (l.map (Value.int k)).toArray e fr)) k (some ⟨g, 0, none⟩) l.length l := by
  subst hg
  exact ⟨rfl, hm, fun i hi => ⟨_, _, rfl, by rw [Nat.zero_add, World.cell?_alloc_mark]; simp [hi]⟩, hx⟩

/-- a block of bytes that was just made -/
theorem PR.lits (B : Nat) (w : World) (fr : Nat × Nat) (l : List Int) (hm : l.length ≤ 65536) (hx : ∀ x ∈ l, (Lit.int .u8 x).wf = true) : PR B (w.alloc (.cells (l.map (Value.int .u8)).toArray 5 fr)) (some ⟨w.heap.size, 0, none⟩) l.length l := by
  intro w' hb
  have hr := rd_mark w .u8 5 fr l w.heap.size rfl (by omega) hx
  have hu : U8B (w.alloc (.cells (l.map (Value.int .u8)).toArray 5 fr)) w.heap.size := ⟨_, fr, heap_alloc_new w _, fun v hv => by
    simp at hv
    obtain ⟨x, _, rfl⟩ := hv
    exact ⟨x, rfl⟩⟩
  have he := hb.2 _ hu
  refine ⟨hr.len, hr.max, fun i hi => ?_, hr.wf⟩
  obtain ⟨b, off, ha, hc⟩ := hr.cell i hi
  cases ha
  exact ⟨w.heap.size, 0, rfl, (World.cell?_of_block (a := ⟨w.heap.size, 0 + i, none⟩) he).trans hc⟩

theorem aa_code : ocode [[97, 97]] = 0 := by decide
theorem aa_hits : (litM [[97, 97]]).hs 0 [97, 97, 97] = 2 := by decide +kernel

set_option maxRecDepth 100000 in
set_option maxHeartbeats 2000000 in
theorem finds_any (w : World) : Calls Try.prog 4 #[] w fun e w' => e = .returned (.bool true) ∧ Below w.heap.size w w' := by
  have hne : ∀ w, (binOp .neq 34 .nilIface .nilIface).run Try.prog w = .ok (.bool false) w := fun w => by kernel_rfl
  have heq : ∀ w, (binOp .eql 34 .nilIface .nilIface).run Try.prog w = .ok (.bool true) w := fun w => by kernel_rfl
  have hnw := storeNew_any 100 (by decide) w
  rw [show ((100 : Nat) : Int) = 100 from rfl] at hnw
  have HNW := Lib.hid hnw
  clear hnw
  go_enter Try.func4, Try.ntmps4
  go_wp2_with fail
  refine HNW.out.mono ?_
  rintro e w1 ⟨bs, rfl, hs, hb⟩
  have HS := Lib.hid hs
  have HB1 := Lib.hid hb
  have HTX := Lib.hid (Text_any w.heap.size bs 100 3 (some ⟨w1.heap.size, 0, none⟩) 3 [97, 97, 97] [] _ (by decide) (by decide) (by decide) (PR.lits w.heap.size w1 (3, 4) [97, 97, 97] (by decide) (by decide)) (hs.below (below_alloc _ _)) (by have := hb.size; simp; omega) (by decide))
  clear hs hb
  have k1 := run_convert_bytes_const_at (P := Try.prog) w1 22 5 #[.int .u8 97, .int .u8 97, .int .u8 97] 3 3 w1.heap.size rfl Try.underlying22 Try.underlying5
  go_wp2_with fail
  refine HTX.out.mono ?_
  rintro e w2 ⟨id, L', rfl, hs2, hx, hl, hi0, hil, htx, hbk⟩
  have HS2 := Lib.hid hs2
  have HB2 := Lib.hid hbk.1
  have HL := Lib.hid (And.intro hi0 (And.intro hil htx))
  obtain ⟨w3, hw3⟩ : ∃ w3, w3 = w2.alloc (.cells #[.int .u8 97, .int .u8 97] 5 (2, 3)) := ⟨_, rfl⟩
  obtain ⟨w4, hw4⟩ : ∃ w4, w4 = w3.alloc (.cells #[.slice (some ⟨w2.heap.size, 0, none⟩) 2 2] 22) := ⟨_, rfl⟩
  have HB4 := Lib.hid (show Below w2.heap.size w2 w4 by rw [hw4, hw3]; exact (below_alloc _ _).alloc (by simp) _)
  have HR4 : Hid (RdRows w4 .u8 (some ⟨w2.heap.size + 1, 0, none⟩) 1 [[97, 97]]) := Lib.hid (by
    have hs3 : w2.heap.size + 1 = w3.heap.size := by rw [hw3]; simp
    rw [hs3]
    refine ⟨rfl, by decide, fun i hi => ?_⟩
    obtain rfl : i = 0 := by omega
    have hr : Rd w3 .u8 (some ⟨w2.heap.size, 0, none⟩) 2 [97, 97] := by rw [hw3]; exact rd_mark w2 .u8 5 (2, 3) [97, 97] w2.heap.size rfl (by decide) (by decide)
    refine ⟨w3.heap.size, 0, some ⟨w2.heap.size, 0, none⟩, 2, 2, rfl, ?_, by rw [hw4]; exact hr.below (below_alloc _ _), by decide⟩
    rw [hw4]; simp)
  have HOF := Lib.hid (of_any (some ⟨w2.heap.size + 1, 0, none⟩) 1 1 [[97, 97]] w4 HR4.out (by decide))
  have HW := Lib.hid (And.intro hw3 hw4)
  have k2 := run_convert_bytes_const_at (P := Try.prog) w2 22 5 #[.int .u8 97, .int .u8 97] 2 2 w2.heap.size rfl Try.underlying22 Try.underlying5
  clear hs2 hx hl hi0 hil htx hbk hw3 hw4
  go_wp2_with fail
  rw [← HW.out.1, ← HW.out.2]
  refine HOF.out.mono ?_
  rintro r w5 hof
  obtain ⟨hb5, ac, an, cn, aa, ca, ah, ch, rfl, hrd, hh⟩ := of_ok hof aa_code
  obtain ⟨m, hm⟩ : ∃ m, m = litM [[97, 97]] := ⟨_, rfl⟩
  rw [← hm] at hrd hh ⊢
  have HMO : Hid (McOk m) := Lib.hid (by rw [hm]; exact lit_mc (by decide) (ocode_small' aa_code))
  have HV : Hid (Valid 0 m.cls m.next (litA [[97, 97]])) := Lib.hid (by rw [hm]; exact lit_valid' (ocode_small' aa_code))
  have HH2 : Hid (m.hs 0 [97, 97, 97] = 2) := Lib.hid (by rw [hm]; exact aa_hits)
  have HB5 := Lib.hid (HB4.out.trans (hb5.mono HB4.out.size))
  have HS5 := Lib.hid (HS2.out.below HB5.out)
  have HRD := Lib.hid hrd
  have HH := Lib.hid hh
  obtain ⟨n, hn⟩ : ∃ n, n = m.next.length := ⟨_, rfl⟩
  have HN := Lib.hid hn
  rw [← hn]
  clear hof hb5 hm hrd hh hn k1 k2
  go_upto_region 6 with fail
  obtain ⟨w6, hw6⟩ : ∃ w6, w6 = w5.alloc (.cells #[.int .i64 0, .slice ac 256 256, .slice an n cn, .slice aa n ca] 32) := ⟨_, rfl⟩
  obtain ⟨b6, hb6⟩ : ∃ b6, b6 = w5.heap.size := ⟨_, rfl⟩
  have HX6 := Lib.hid (show BX w6 b6 [.int .i64 0, .slice ac 256 256, .slice an n cn, .slice aa n ca] by rw [hw6, hb6]; exact BX.alloc _ _ _)
  have hb56 : Below w5.heap.size w5 w6 := by rw [hw6]; exact below_alloc _ _
  have HB6 := Lib.hid (HB5.out.trans (hb56.mono HB5.out.size))
  have HTN := Lib.hid (tabNew_any w6 m HMO.out (litA [[97, 97]]) HV.out ac an aa ah 256 cn ca ch w.heap.size bs 100 L' (HRD.out.below hb56) (HH.out.below hb56) (HS5.out.below hb56))
  rw [← HN.out] at HTN
  have c0 := HX6.out.cell (j := 0) rfl
  have c1 := HX6.out.cell (j := 1) rfl
  have c2 := HX6.out.cell (j := 2) rfl
  have c3 := HX6.out.cell (j := 3) rfl
  rw [← hw6, ← hb6]
  clear hw6 hb6 hb56
  go_wp2_with fail
  refine HTN.out.mono ?_
  rintro r w7 ⟨tb, x, rfl, ht, hb7, hbk⟩
  have htx : (tx L' id).length = 3 := by rw [HL.out.2.2]; rfl
  have HCT := Lib.hid (count_any ht HV.out id 3 HL.out.1 HL.out.2.1 htx.symm (by decide) (by rw [htx]; decide))
  have hct : m.hs 0 (tx L' id) = 2 := by rw [HL.out.2.2]; exact HH2.out
  rw [hct] at HCT
  have HB7 := Lib.hid (HB6.out.trans (hb7.mono HB6.out.size))
  have HBK := Lib.hid hbk
  have HWS : Hid (w.heap.size ≤ w6.heap.size) := Lib.hid (by have h1 := HB1.out.size; have h2 := HB2.out.size; have h3 := HB6.out.size; simp at h2; omega)
  clear ht hb7 hbk htx hct c0 c1 c2 c3
  go_wp2_with fail
  refine HCT.out.mono ?_
  rintro r w8 ⟨rfl, nk', K', ht8, hf8⟩
  have HF8 := Lib.hid hf8
  clear ht8 hf8
  go_wp2
  go_ret
  refine ⟨rfl, ?_⟩
  have h1 : Below w.heap.size w w2 := (HB1.out.alloc HB1.out.size _).trans HB2.out
  have h2 : Below w.heap.size w w7 := h1.trans (HB7.out.mono h1.size)
  exact h2.trans (HF8.out.below (fun i hi => by have h3 := HBK.out; have h4 := HWS.out; omega) h2.size)

end Go.Proofs.Ytflgmodofemifaa

/- what the walk of WholeCounts calls: greatly; a power of whatever number of copies; bytes from ahead of the store. -/
namespace Go.Proofs.Ytflgmodofemifaa
open Go.RowKit Go.Maps
set_option linter.unusedVariables false
set_option linter.unusedSimpArgs false

theorem PR.of {B : Nat} {w0 w : World} {a : Option Addr} {n : Nat} {l : List Int} (hr : Rd w0 .u8 a n l) (h0 : w0.heap.size ≤ B) (hb : Below w0.heap.size w0 w) : PR B w a n l := fun w' h => hr.below (hb.trans (h.1.mono h0))

def gr (n : Nat) (t : Int) : Bool := decide (0 < n) && decide (n ≤ 40) && decide (1 ≤ t) && decide (t ≤ 1125899906842624)

set_option maxRecDepth 100000 in
theorem greatly_any (a : Option Addr) (n c : Nat) (t : Int) (w : World) : Calls Try.prog 5 #[.slice a n c, .int .i64 t] w fun e w' => e = .returned (.bool (gr n t)) ∧ w' = w := by
  by_cases h1 : (0 : Int) < (n : Int)
  · by_cases h2 : (n : Int) ≤ 40
    · by_cases h3 : (1 : Int) ≤ t
      · have HG : Hid (gr n t = decide (t ≤ 1125899906842624)) := Lib.hid (by
          unfold gr
          rw [show decide (0 < n) = true by simp; omega, show decide (n ≤ 40) = true by simp; omega, show decide (1 ≤ t) = true by simp; omega]
          simp)
        go_enter Try.func5, Try.ntmps5
        go_wp2
        go_ret
        exact ⟨ret_eq (by rw [HG.out]; rfl), rfl⟩
      · have h3' : decide ((1 : Int) ≤ t) = false := by simpa using h3
        have HG : Hid (gr n t = false) := Lib.hid (by unfold gr; rw [h3']; simp)
        clear h3
        go_enter Try.func5, Try.ntmps5
        go_wp2
        go_ret
        exact ⟨ret_eq (by rw [HG.out]; rfl), rfl⟩
    · have h2' : decide ((n : Int) ≤ 40) = false := by simpa using h2
      have HG : Hid (gr n t = false) := Lib.hid (by unfold gr; simp; omega)
      clear h2
      go_enter Try.func5, Try.ntmps5
      go_wp2
      go_ret
      exact ⟨ret_eq (by rw [HG.out]; rfl), rfl⟩
  · obtain rfl : n = 0 := by omega
    have HG : Hid (gr 0 t = false) := Lib.hid (by unfold gr; simp)
    clear h1
    go_enter Try.func5, Try.ntmps5
    go_wp2
    go_ret
    exact ⟨ret_eq (by rw [HG.out]; rfl), rfl⟩

/-- a rule for a text -/
def RulePost (B bs most : Nat) (L : List En) (t : List Nat) (w : World) (r : Ending) (w' : World) : Prop :=
  ∃ (id : Nat) (L' : List En), r = .returned (.tuple #[.int .i64 (id : Nat), .nilIface]) ∧ SI B w' bs most L' ∧ Ext L L' ∧ L'.length ≤ L.length + 1 ∧ 0 < id ∧ id ≤ L'.length ∧ tx L' id = t ∧ BK B w w'

theorem power_all {B bs most : Nat} {L : List En} {w : World} (h : SI B w bs most L) (x k : Nat) (hx0 : 0 < x) (hx : x ≤ L.length) (hk : 1 ≤ k) (hlen : (tx L x).length * k ≤ ML) (hro : L.length < most) (hB : B ≤ w.heap.size) :
    Calls Try.prog 9 #[.pointer (some ⟨bs, 0, none⟩), .int .i64 (x : Nat), .int .i64 (k : Nat)] w (RulePost B bs most L (rep k (tx L x)) w) := by
  by_cases h1 : k = 1
  · subst h1
    refine (power_one h x hx0 hx).mono ?_
    rintro e w' ⟨rfl, rfl⟩
    exact ⟨x, L, rfl, h, Ext.refl L, by omega, hx0, hx, (rep_one _).symm, ⟨Below.refl _ _, Kp.refl _⟩⟩
  · obtain ⟨ex, he, hl⟩ := h.ent hx0 hx
    rw [← hl] at hlen
    refine (power_any h x k ex hx0 he (by omega) hlen hro hB).mono ?_
    rintro e w' ⟨id, L', e', rfl, hs, hxt, hll, hi0, hi, hru, hbk⟩
    have hil := (List.getElem?_eq_some_iff.1 hi).1
    refine ⟨id, L', rfl, hs, hxt, hll, hi0, by omega, ?_, hbk⟩
    have ht := tx_at hs.good hi
    rw [show id - 1 + 1 = id by omega, hru] at ht
    rw [ht]
    simp only [Nat.reduceEqDiff, if_false]
    rw [hxt.tx hx0 hx]

theorem pair_all {B bs most : Nat} {L : List En} {w : World} (h : SI B w bs most L) (l r : Nat) (hl0 : 0 < l) (hr0 : 0 < r) (hl : l ≤ L.length) (hr : r ≤ L.length) (hlen : (tx L l).length + (tx L r).length ≤ ML) (hro : L.length < most) (hB : B ≤ w.heap.size) :
    Calls Try.prog 10 #[.pointer (some ⟨bs, 0, none⟩), .int .i64 (l : Nat), .int .i64 (r : Nat)] w (RulePost B bs most L (tx L l ++ tx L r) w) := by
  obtain ⟨el, hel, hll⟩ := h.ent hl0 hl
  obtain ⟨er, her, hlr⟩ := h.ent hr0 hr
  refine (pair_any h l r el er hl0 hr0 hel her (by omega) hro hB).mono ?_
  rintro e w' ⟨id, L', e', rfl, hs, hxt, hlll, hi0, hi, hru, hbk⟩
  have hil := (List.getElem?_eq_some_iff.1 hi).1
  refine ⟨id, L', rfl, hs, hxt, hlll, hi0, by omega, ?_, hbk⟩
  have ht := tx_at hs.good hi
  rw [show id - 1 + 1 = id by omega, hru] at ht
  rw [ht]
  simp only [Nat.reduceEqDiff, if_false, if_true]
  rw [hxt.tx hl0 hl, hxt.tx hr0 hr]

end Go.Proofs.Ytflgmodofemifaa
