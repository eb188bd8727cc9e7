/-
  Joined texts: transfer.entry of a Pair: the walk. · PLAIN LAW: a text repeated by doubling. · GENERIC, over any program: append onto an empty slice without capacity, wherever it lies: what comes back reads as what was appended. · transfer.entry of a Power: the walk (under way).
-/
import Derived.Test.YtflgmodofemifaaWC9
import Derived.Test.YtflgmodofemifaaWC4
import Derived.ArgAppend
import Derived.Laws.BitsLemmas

/- transfer.entry of a Pair: the walk. -/
namespace Go.Proofs.Ytflgmodofemifaa
open Go.RowKit Go.Maps
set_option linter.unusedVariables false
set_option linter.unusedSimpArgs false

theorem ent_info : (Try.prog.info? 116).map (·.size) = some 3 := by kernel_rfl
theorem ent_field (a b c : Value) (w : World) : (Instr.field 116 (.agg #[a, b, c]) 0).run Try.prog w = .ok (.agg #[a, b]) w := by kernel_rfl
/-- no effect, no entry -/
def efZ : List Value := [.slice none 0 0, .slice none 0 0]
def enZ3 : List Value := [.slice none 0 0, .slice none 0 0, .slice none 0 0]

theorem al2 (w : World) (a b : Obj) : (((w.alloc a).alloc b).drew).heap[w.heap.size]? = some a ∧ (((w.alloc a).alloc b).drew).heap[w.heap.size + 1]? = some b := by
  have h2 := heap_alloc_new (w.alloc a) b
  rw [show (w.alloc a).heap.size = w.heap.size + 1 by simp] at h2
  exact ⟨(heap_alloc_old' _ _ _ (by simp)).trans (heap_alloc_new w a), h2⟩
theorem below2 (w : World) (a b : Obj) : Below w.heap.size w ((w.alloc a).alloc b).drew := (((Below.refl _ _).alloc (Nat.le_refl _) _).alloc (by simp) _).drew

theorem Rd.frS {w w' : World} {k : IntKind} {a : Option Addr} {n : Nat} {l : List Int} {S : Nat → Prop} (h : Rd w k a n l) (hf : Fr S w w') (hn : ∀ z, a = some z → ¬ S z.block) : Rd w' k a n l :=
  ⟨h.len, h.max, fun i hi => by
    obtain ⟨b, off, ha, hc⟩ := h.cell i hi
    exact ⟨b, off, ha, hf.cell hc (show ¬ S b from hn _ ha)⟩, h.wf⟩
theorem EfR.fr {m w w' ae ah t} {S : Nat → Prop} (h : EfR m w ae ah t) (hf : Fr S w w') (hn : ∀ z, ae = some z ∨ ah = some z → ¬ S z.block) : EfR m w' ae ah t :=
  ⟨h.e.frS hf (fun z hz => hn z (.inl hz)), h.h.frS hf (fun z hz => hn z (.inr hz))⟩

set_option maxRecDepth 100000 in
set_option maxHeartbeats 4000000 in
theorem entry_pair {m acc B bs most L x w tb nk K} (h : TB m acc B bs most L x w tb nk K) (l r : Nat) (hl0 : 0 < l) (hr0 : 0 < r) (hl : l ≤ L.length) (hr : r ≤ L.length) (hkl : (K l).isSome = true) (hkr : (K r).isSome = true) (hlen : 4 * ((tx L l).length + (tx L r).length) ≤ ML) :
    Calls Try.prog 63 #[.pointer (some ⟨tb, 0, none⟩), .agg #[.int .i64 2, .int .u8 0, .int .i64 (l : Nat), .int .i64 (r : Nat), .int .i64 0]] w (EntPost m (tx L l ++ tx L r) w) := by
  obtain ⟨w1, hw1⟩ : ∃ w1, w1 = (w.alloc (.cells [.int .i64 2, .int .u8 0, .int .i64 (l : Nat), .int .i64 (r : Nat), .int .i64 0].toArray 67)).alloc (.cells enZ3.toArray 116) := ⟨_, rfl⟩
  have HB := Lib.hid (show Below w.heap.size w w1 by rw [hw1]; exact (below_alloc _ _).alloc (by simp) _)
  have HX := Lib.hid (show BX w1 w.heap.size [.int .i64 2, .int .u8 0, .int .i64 (l : Nat), .int .i64 (r : Nat), .int .i64 0] by rw [hw1]; exact BX.alloc2 _ _ _ _)
  have HZ := Lib.hid (show BX w1 (w.heap.size + 1) enZ3 by rw [hw1]; exact BX.allocAt (by simp) _ _)
  have HT := Lib.hid (h.below HB.out)
  have HW1 := Lib.hid hw1
  unfold enZ3 at HW1
  obtain ⟨vl, hvl⟩ := Option.isSome_iff_exists.1 hkl
  obtain ⟨vr, hvr⟩ := Option.isSome_iff_exists.1 hkr
  obtain ⟨-, -, ae, ce, ah, ch, cp, rfl, hel, -⟩ := HT.out.ent l _ hvl
  obtain ⟨-, -, be, de, bh, dh, cq, rfl, her, -⟩ := HT.out.ent r _ hvr
  have hl9 : l < 9223372036854775808 := by have := h.si.room; omega
  have hr9 : r < 9223372036854775808 := by have := h.si.room; omega
  have hA := fun (wx : World) (hb : Below w1.heap.size w1 wx) => ((HT.out.below hb).km.hit hl9 hvl).2
  have hC := fun (wx : World) (hb : Below w1.heap.size w1 wx) => ((HT.out.below hb).km.hit hr9 hvr).2
  have HJ := Lib.hid (fun (wx : World) (hb : Below w1.heap.size w1 wx) => join_any m HT.out.ok wx ae ah be bh ce ch de dh (tx L l) (tx L r) (tx_bts HT.out.si.good _ l (Nat.le_refl _) hl0 hl) (tx_bts HT.out.si.good _ r (Nat.le_refl _) hr0 hr) hlen (hel.below hb) (her.below hb))
  have HCC := Lib.hid (fun (wx : World) (hb : Below w1.heap.size w1 wx) => And.intro ((HT.out.below hb).bx.cell (j := 7) rfl) (And.intro ((HX.out.below hb).cell (j := 2) rfl) ((HX.out.below hb).cell (j := 3) rfl)))
  have c0 := HX.out.cell (j := 0) rfl
  have HT6 := Lib.hid (fun (wx : World) (hb : Below w1.heap.size w1 wx) => (HT.out.below hb).bx.cell (j := 6) rfl)
  obtain ⟨n, hn⟩ : ∃ n, n = m.next.length := ⟨_, rfl⟩
  have HN := Lib.hid hn
  rw [← hn] at hA hC HJ
  have hA0 := hA w1.drew (Below.refl _ _).drew
  have hC0 := hC w1.drew (Below.refl _ _).drew
  have hA1 := fun o => hA ((w1.alloc o).drew) (below_alloc _ _).drew
  have hC1 := fun o => hC ((w1.alloc o).drew) (below_alloc _ _).drew
  have hA2 := fun o o' => hA (((w1.alloc o).alloc o').drew) ((below_alloc _ _).alloc (by simp) _).drew
  have hC2 := fun o o' => hC (((w1.alloc o).alloc o').drew) ((below_alloc _ _).alloc (by simp) _).drew
  have hf1 := fun w => ent_field (.slice ae n ce) (.slice ah n ch) cp w
  have hf2 := fun w => ent_field (.slice be n de) (.slice bh n dh) cq w
  clear hA hC hvl hvr hkl hkr hel her hw1 hl9 hr9 hl0 hr0 hl hr hlen h hn
  go_enter Try.func63, Try.ntmps63
  go_upto_region 1 with fail
  rw [← HW1.out]
  go_upto_region 3 with fail
  go_cut [5, 6] (fun s5 s6 wc => ∃ b5 b6 : Nat, s5 = .pointer (some ⟨b5, 0, none⟩) ∧ s6 = .pointer (some ⟨b6, 0, none⟩) ∧ Below w1.heap.size w1 wc ∧ BX wc b5 [.slice ae n ce, .slice ah n ch] ∧ BX wc b6 [.slice be n de, .slice bh n dh])
  case first =>
    go_region_held3 (fun wx => wx.cell? ⟨tb, 7, none⟩ = some (.map (some x.bk)) ∧ wx.cell? ⟨w.heap.size, 2, none⟩ = some (.int .i64 (l : Nat)) ∧ wx.cell? ⟨w.heap.size, 3, none⟩ = some (.int .i64 (r : Nat))) (exact HCC.out _ (by repeat (first | with_reducible exact Below.refl _ _ | with_reducible refine Below.drew ?_ | with_reducible refine bthen ?_ (below_alloc _ _) | with_reducible refine Below.setCell ?_ (by first | (simp; done) | (simp; omega) | omega) _))) (fail)
    all_goals
      go_wp2
      go_meet
      refine' ⟨_, _, rfl, rfl, below2 _ _ _, ?bx, ?by'⟩
      case bx => exact BX.ofHeap (t := 89) (by first | exact (al2 _ _ _).1 | exact (al2 _ _ _).2)
      case by' => exact BX.ofHeap (t := 89) (by first | exact (al2 _ _ _).1 | exact (al2 _ _ _).2)
  case rest =>
    obtain ⟨b5, b6, rfl, rfl, hbc, hx5, hx6⟩ := hcut
    have HBC := Lib.hid hbc
    have HX5 := Lib.hid hx5
    have HX6 := Lib.hid hx6
    have d0 := hx5.cell (j := 0) rfl
    have d1 := hx5.cell (j := 1) rfl
    have e0 := hx6.cell (j := 0) rfl
    have e1 := hx6.cell (j := 1) rfl
    have t6 := HT6.out wc hbc
    clear hbc hx5 hx6 hA0 hC0 hA1 hC1 hA2 hC2 hf1 hf2 c0
    go_wp2_with fail
    refine (HJ.out wc HBC.out).mono ?_
    rintro e w7 ⟨ae', ce', ah', ch', rfl, hnew, hef, hb7⟩
    have HNEW := Lib.hid hnew
    have HEF := Lib.hid hef
    have HB7 := Lib.hid (HBC.out.trans (hb7.mono HBC.out.size))
    have HZ7 := Lib.hid (HZ.out.below HB7.out)
    clear hnew hef hb7 d0 d1 e0 e1 t6
    rw [← HN.out]
    have hth := HZ7.out.there 0 3 (by simp [enZ3])
    go_wp2_with (refine wpList_store_mid rfl 116 _ _ rfl (w.heap.size + 1) 0 #[.slice ae' n ce', .slice ah' n ch', .slice none 0 0] rfl rfl hth ent_info (by simp [Value.oneCell']) ?_)
    have hz := HZ7.out.putAll [.slice ae' n ce', .slice ah' n ch', .slice none 0 0] rfl
    refine bodyPost_ret (res_cell rfl _ _ (w.heap.size + 1) _ _ rfl hz.rng Try.underlying116 rfl ent_info) rfl ?_
    have hfs := frSetCells (w.heap.size + 1) [.slice ae' n ce', .slice ah' n ch', .slice none 0 0] 0 w7
    refine ⟨ae', ce', ah', ch', .slice none 0 0, by rw [← HN.out], fun z hz => by
      have h1 := HNEW.out z hz
      have h2 := HBC.out.size
      have h3 := HB.out.size
      omega, HEF.out.fr hfs (fun z hz e2 => by
      have h1 := HNEW.out z hz
      have h2 := HBC.out.size
      have h3 := HZ.out.lt
      omega), belowSetCells (HB.out.trans (HB7.out.mono HB.out.size)) (by omega) 0 _ (by have h1 := HB.out.size; have h2 := HB7.out.size; omega), _, _, _, rfl⟩

end Go.Proofs.Ytflgmodofemifaa

/- PLAIN LAW: a text repeated by doubling. -/
namespace Go.Proofs.Ytflgmodofemifaa
set_option linter.unusedVariables false
set_option linter.unusedSimpArgs false

/-- the state of the loop: i doublings are done, j copies are gathered, r are left (r copies of 2^i) -/
structure Dbl (k i j r : Nat) : Prop where
  sum : j + 2 ^ i * r = k
theorem Dbl.start {k : Nat} : Dbl k 0 0 k := ⟨by simp⟩
theorem Dbl.even {k i j r : Nat} (h : Dbl k i j r) (hr : r % 2 = 0) : Dbl k (i + 1) j (r / 2) := ⟨by
  have h1 := h.sum
  rw [Nat.pow_succ, Nat.mul_assoc, Nat.mul_div_cancel' (Nat.dvd_of_mod_eq_zero hr)]
  exact h1⟩
theorem Dbl.odd {k i j r : Nat} (h : Dbl k i j r) (hr : r % 2 = 1) : Dbl k (i + 1) (j + 2 ^ i) (r / 2) := ⟨by
  have h1 := h.sum
  obtain ⟨s, rfl⟩ : ∃ s, r = 2 * s + 1 := ⟨r / 2, by omega⟩
  rw [show (2 * s + 1) / 2 = s by omega]
  rw [Nat.mul_add, Nat.mul_one] at h1
  rw [Nat.pow_succ, Nat.mul_assoc]
  omega⟩
theorem Dbl.done {k i j : Nat} (h : Dbl k i j 0) : j = k := by have := h.sum; omega
theorem rep_dbl (i : Nat) (t : List Nat) : rep (2 ^ i) t ++ rep (2 ^ i) t = rep (2 ^ (i + 1)) t := by
  rw [← rep_add, Nat.pow_succ, Nat.mul_two]

end Go.Proofs.Ytflgmodofemifaa

/- GENERIC, over any program: append onto an empty slice without capacity, wherever it lies: what comes back reads as what was appended. -/
namespace Go.Proofs.Ytflgmodofemifaa
open Go.RowKit
set_option linter.unusedVariables false
set_option linter.unusedSimpArgs false

theorem run_app_empty {P : Program} (w : World) {t e : TypeId} {z : Value} {size bytes : Nat} (E : EltG P t e z size bytes) (ty : TypeId) (g0 : Nat)
    (ad : Option Addr) (m c : Nat) (news : List Value) (hr : RdG w size ad m news) (h1 : ∀ u ∈ news, u.oneCell' = true) (hlen : m * bytes ≤ 140737488355328) (hpos : 0 < bytes) :
    ∃ a' c' w', (Builtin.append_ #[t, t] ty #[.slice (some ⟨g0, 0, none⟩) 0 0, .slice ad m c]).run P w = .ok (.slice a' m c') w' ∧ RdG w' size a' m news ∧ Below w.heap.size w w' ∧ m ≤ c' ∧ (∀ x, a' = some x → 0 < m → w.heap.size ≤ x.block ∧ x.block < w'.heap.size) := by
  obtain ⟨i, hi, hz, hsz, hby⟩ := E.hi
  have hb2 : m ≤ 140737488355328 := Nat.le_trans (Nat.le_mul_of_pos_right _ hpos) hlen
  rcases Nat.eq_zero_or_pos m with h0 | h0
  · subst h0
    have hn : news = [] := List.eq_nil_of_length_eq_zero (by have := hr.len; omega)
    subst hn
    refine ⟨some ⟨g0, 0, none⟩, 0, w, ?_, ⟨by simp, fun j u hu => by simp at hu⟩, Below.refl _ _, Nat.le_refl _, fun x _ h => absurd h (Nat.lt_irrefl _)⟩
    cases ad with
    | none => simp [Builtin.append_, run_underlying E.ht, sizeOf, typeInfo, hi, Builtin.lenOf, Builtin.firstCells, storeCells]
    | some a => simp [Builtin.append_, run_underlying E.ht, sizeOf, typeInfo, hi, Builtin.lenOf, Builtin.firstCells, loadCells, loadCellsFrom, storeCells]
  · cases ad with
    | none =>
      have hl := hr.len
      have : news ≠ [] := by
        intro h; subst h
        have h3 := E.h0
        simp only [List.length_nil] at hl
        rcases Nat.mul_eq_zero.1 hl.symm with h4 | h4 <;> omega
      cases news with
      | nil => exact absurd rfl this
      | cons u r => obtain ⟨b, off, ha, _⟩ := hr.cell 0 u rfl; cases ha
    | some ad =>
      obtain ⟨v', w', hrun, ho, hg⟩ := run_append_arg_grows (P := P) w t ty e i z size bytes E.ht hi hz hsz hby E.hz E.h0 ⟨g0, 0, none⟩ 0 0 [] (by simp) (fun j u hu => by simp at hu) ad m c news hr.len hr.news (by omega) (by unfold maxLen; omega) (by rw [Nat.zero_add]; exact hlen)
      rw [Nat.zero_add] at ho
      obtain ⟨a', c', rfl⟩ := Row.form ho
      refine ⟨a', c', w', hrun, ?_, (Below.refl _ _).grown hg (Nat.le_refl _) (fun x hx => by cases hx), ?_, ?_⟩
      · have h := Row.rdG ho; simpa using h
      · rcases ho.2 with ⟨h1, h2⟩ | ⟨g', cap, cur, hv, _, _, hc, _⟩
        · omega
        · simp only [Value.slice.injEq] at hv; omega
      · intro x hx _
        have h2 := Row.block_lt ho (g := x.block) (by rw [hx]; rfl)
        exact ⟨h2.2, h2.1⟩

theorem RdG.fr1 {w w' : World} {size : Nat} {a : Option Addr} {n : Nat} {xs : List Value} {g : Nat} (h : RdG w size a n xs) (hs : 0 < size) (hf : Fr (fun x => x = g) w w') (hne : ∀ x, a = some x → 0 < n → x.block ≠ g) : RdG w' size a n xs :=
  ⟨h.len, fun j u hu => by
    obtain ⟨b, off, ha, hc⟩ := h.cell j u hu
    have hj := (List.getElem?_eq_some_iff.1 hu).1
    have hn : 0 < n := by
      rcases Nat.eq_zero_or_pos n with e | e
      · rw [h.len, e, Nat.zero_mul] at hj; omega
      · exact e
    exact ⟨b, off, ha, hf.cell hc (hne ⟨b, off, none⟩ ha hn)⟩⟩

section
variable {P : Program} {w : World} {ops : Array Oper} {rest : List Oper} {o : Oper} {a : Act} {Q : Exit → Act → World → Prop}

/-- at a step of a region that draws its order -/
theorem step_app_empty {K : Act → World → Prop} {G : Prop} (s x : Operand) {t e : TypeId} {z : Value} {size bytes : Nat} (E : EltG P t e z size bytes)
    (hgd : o.guard = none) (ho : o.op = .call { callee := .builtin .append, args := #[s, x], argTypes := #[t, t] })
    (g0 : Nat) (hs : a.eval s = .slice (some ⟨g0, 0, none⟩) 0 0) (ad : Option Addr) (m c : Nat) (news : List Value) (hx : a.eval x = .slice ad m c) (hr : RdG w size ad m news) (h1 : ∀ u ∈ news, u.oneCell' = true)
    (hlen : m * bytes ≤ 140737488355328) (hpos : 0 < bytes)
    (h : ∀ a' c' w', RdG w' size a' m news → Below w.heap.size w w' → m ≤ c' → (∀ x, a' = some x → 0 < m → w.heap.size ≤ x.block ∧ x.block < w'.heap.size) → K (a.put o.dst (.slice a' m c')) w') : if Region.wanted o (yielded ops a.tmps) = true then Oper.wp P o a w K Q else G := by
  have hw : Region.wanted o (yielded ops a.tmps) = true := by simp [Region.wanted, hgd]
  rw [if_pos hw]
  obtain ⟨a', c', w', hrun, hrd, hb, hc, hx2⟩ := run_app_empty w E o.type g0 ad m c news hr h1 hlen hpos
  unfold Oper.wp execOp
  simp only [ho, resolve, invoke, builtin, Sem.run_bind, Sem.run_pure, Result.andThen_ok, List.map_toArray, List.map_cons, List.map_nil, hs, hx, hrun]
  exact h a' c' w' hrd hb hc hx2
end

end Go.Proofs.Ytflgmodofemifaa

/- transfer.entry of a Power: the walk (under way). -/
namespace Go.Proofs.Ytflgmodofemifaa
open Go.RowKit Go.Maps
set_option linter.unusedVariables false
set_option linter.unusedSimpArgs false

theorem EEFG : EltG Try.prog 114 89 (.agg #[.slice none 0 0, .slice none 0 0]) 2 48 := ⟨Try.underlying114, info_parts (by kernel_rfl), rfl, by decide⟩

theorem and_one_i64 {x : Nat} (h : x < 9223372036854775808) : bits BinOp.and IntKind.i64 (x : Int) 1 = (x : Int) % 2 := by
  have := bits_mask .i64 63 (by decide) (fun n h0 h1 => IntWalk.i64_in _ (by omega)) 1 (by decide) (x : Int) (by omega) (by omega)
  simpa using this

/-- the state of the doubling: one (b7) has 2^i copies, whole (b9) j copies; the copies' own row -/
structure PwS (m : Mc) (n B b7 b9 b4 : Nat) (t : List Nat) (w1 w : World) (s8 : Value) (cnt i j : Nat) (a1 a2 x1 x2 : Option Addr) (c1 c2 d1 d2 : Nat) : Prop where
  one : BX w b7 [.slice a1 n c1, .slice a2 n c2]
  oneE : EfR m w a1 a2 (rep (2 ^ i) t)
  who : BX w b9 [.slice x1 n d1, .slice x2 n d2]
  whoE : 0 < j → EfR m w x1 x2 (rep j t)
  row : ∃ xs, Row w B 89 2 s8 cnt xs
  cne : ∀ g, s8.ownBlock = some g → g ≠ b7 ∧ g ≠ b9 ∧ ∀ z y, z ∈ [a1, a2, x1, x2] → z = some y → y.block ≠ g
  ap : ∀ z y, z ∈ [a1, a2, x1, x2] → z = some y → y.block ≠ b7 ∧ y.block ≠ b9 ∧ y.block < w.heap.size
  b79 : b7 ≠ b9 ∧ B ≤ b7 ∧ B ≤ b9 ∧ B ≤ w1.heap.size ∧ B ≤ w.heap.size
  bel : Below B w1 w
  a4 : ∀ z y, z ∈ [a1, a2, x1, x2] → z = some y → y.block ≠ b4
  nw : (0 < i → ∀ z y, z ∈ [a1, a2] → z = some y → b4 ≤ y.block) ∧ (1 < j → ∀ z y, z ∈ [x1, x2] → z = some y → b4 ≤ y.block)

section
variable {m : Mc} {n B b7 b9 b4 : Nat} {t : List Nat} {w1 w w' : World} {s8 : Value} {cnt i j : Nat} {a1 a2 x1 x2 : Option Addr} {c1 c2 d1 d2 : Nat}
theorem PwS.below (h : PwS m n B b7 b9 b4 t w1 w s8 cnt i j a1 a2 x1 x2 c1 c2 d1 d2) (hb : Below w.heap.size w w') : PwS m n B b7 b9 b4 t w1 w' s8 cnt i j a1 a2 x1 x2 c1 c2 d1 d2 := by
  obtain ⟨xs, hx⟩ := h.row
  have h1 := h.b79
  exact ⟨h.one.below hb, h.oneE.below hb, h.who.below hb, fun hj => (h.whoE hj).below hb, ⟨xs, hx.below hb⟩, h.cne, fun z y hz e => ⟨(h.ap z y hz e).1, (h.ap z y hz e).2.1, Nat.lt_of_lt_of_le (h.ap z y hz e).2.2 hb.size⟩, ⟨h1.1, h1.2.1, h1.2.2.1, h1.2.2.2.1, by have := hb.size; omega⟩, h.bel.trans (hb.mono h1.2.2.2.2), h.a4, h.nw⟩
theorem PwS.form (h : PwS m n B b7 b9 b4 t w1 w s8 cnt i j a1 a2 x1 x2 c1 c2 d1 d2) : ∃ a c, s8 = .slice a cnt c := by
  obtain ⟨xs, hx⟩ := h.row
  exact Row.form hx
theorem PwS.lt (h : PwS m n B b7 b9 b4 t w1 w s8 cnt i j a1 a2 x1 x2 c1 c2 d1 d2) {g : Nat} (hg : s8.ownBlock = some g) : g < w.heap.size := by
  obtain ⟨xs, hx⟩ := h.row
  exact (Row.block_lt hx hg).1
/-- one is another effect -/
theorem PwS.turn (h : PwS m n B b7 b9 b4 t w1 w s8 cnt i j a1 a2 x1 x2 c1 c2 d1 d2) {y1 y2 : Option Addr} {i' e1 e2 : Nat} (hy : EfR m w y1 y2 (rep (2 ^ i') t)) (hap : ∀ z y, z ∈ [y1, y2] → z = some y → y.block ≠ b7 ∧ y.block ≠ b9 ∧ y.block < w.heap.size ∧ s8.ownBlock ≠ some y.block) (h4 : ∀ z y, z ∈ [y1, y2] → z = some y → y.block ≠ b4) (hnw : ∀ z y, z ∈ [y1, y2] → z = some y → b4 ≤ y.block) :
    PwS m n B b7 b9 b4 t w1 (w.setCells b7 0 [.slice y1 n e1, .slice y2 n e2]) s8 cnt i' j y1 y2 x1 x2 e1 e2 d1 d2 := by
  obtain ⟨xs, hx⟩ := h.row
  have hf := frSetCells b7 [.slice y1 n e1, .slice y2 n e2] 0 w
  have h1 := h.b79
  refine ⟨h.one.putAll _ rfl, hy.fr hf (fun z hz => (hap (some z) z (by rcases hz with rfl | rfl <;> simp) rfl).1), h.who.fr hf (fun e => h1.1 e.symm), fun hj => (h.whoE hj).fr hf (fun z hz => (h.ap _ z (by rcases hz with rfl | rfl <;> simp) rfl).1), ⟨xs, Row.fr hx hf (fun g hg => (h.cne g hg).1)⟩, fun g hg => ⟨(h.cne g hg).1, (h.cne g hg).2.1, fun z y hz e => ?_⟩, fun z y hz e => ?_, ⟨h1.1, h1.2.1, h1.2.2.1, h1.2.2.2.1, by have := hf.size; omega⟩, belowSetCells h.bel h1.2.1 0 _ h1.2.2.2.2, fun z y hz e => ?_, ⟨fun _ => hnw, h.nw.2⟩⟩
  · simp only [List.mem_cons, List.not_mem_nil, or_false] at hz
    rcases hz with hz | hz | hz | hz
    · exact fun e2 => (hap z y (by simp [hz]) e).2.2.2 (by rw [hg, e2])
    · exact fun e2 => (hap z y (by simp [hz]) e).2.2.2 (by rw [hg, e2])
    · exact (h.cne g hg).2.2 z y (by simp [hz]) e
    · exact (h.cne g hg).2.2 z y (by simp [hz]) e
  · simp only [List.mem_cons, List.not_mem_nil, or_false] at hz
    rcases hz with hz | hz | hz | hz
    · exact ⟨(hap z y (by simp [hz]) e).1, (hap z y (by simp [hz]) e).2.1, Nat.lt_of_lt_of_le (hap z y (by simp [hz]) e).2.2.1 hf.size⟩
    · exact ⟨(hap z y (by simp [hz]) e).1, (hap z y (by simp [hz]) e).2.1, Nat.lt_of_lt_of_le (hap z y (by simp [hz]) e).2.2.1 hf.size⟩
    · exact ⟨(h.ap z y (by simp [hz]) e).1, (h.ap z y (by simp [hz]) e).2.1, Nat.lt_of_lt_of_le (h.ap z y (by simp [hz]) e).2.2 hf.size⟩
    · exact ⟨(h.ap z y (by simp [hz]) e).1, (h.ap z y (by simp [hz]) e).2.1, Nat.lt_of_lt_of_le (h.ap z y (by simp [hz]) e).2.2 hf.size⟩
  · simp only [List.mem_cons, List.not_mem_nil, or_false] at hz
    rcases hz with hz | hz | hz | hz
    · exact h4 z y (by simp [hz]) e
    · exact h4 z y (by simp [hz]) e
    · exact h.a4 z y (by simp [hz]) e
    · exact h.a4 z y (by simp [hz]) e
/-- whole is another effect -/
theorem PwS.gather (h : PwS m n B b7 b9 b4 t w1 w s8 cnt i j a1 a2 x1 x2 c1 c2 d1 d2) {y1 y2 : Option Addr} {j' e1 e2 : Nat} (hy : EfR m w y1 y2 (rep j' t)) (hap : ∀ z y, z ∈ [y1, y2] → z = some y → y.block ≠ b7 ∧ y.block ≠ b9 ∧ y.block < w.heap.size ∧ s8.ownBlock ≠ some y.block) (h4 : ∀ z y, z ∈ [y1, y2] → z = some y → y.block ≠ b4) (hnw : ∀ z y, z ∈ [y1, y2] → z = some y → b4 ≤ y.block) :
    PwS m n B b7 b9 b4 t w1 (w.setCells b9 0 [.slice y1 n e1, .slice y2 n e2]) s8 cnt i j' a1 a2 y1 y2 c1 c2 e1 e2 := by
  obtain ⟨xs, hx⟩ := h.row
  have hf := frSetCells b9 [.slice y1 n e1, .slice y2 n e2] 0 w
  have h1 := h.b79
  refine ⟨h.one.fr hf h1.1, h.oneE.fr hf (fun z hz => (h.ap _ z (by rcases hz with rfl | rfl <;> simp) rfl).2.1), h.who.putAll _ rfl, fun hj => hy.fr hf (fun z hz => (hap (some z) z (by rcases hz with rfl | rfl <;> simp) rfl).2.1), ⟨xs, Row.fr hx hf (fun g hg => (h.cne g hg).2.1)⟩, fun g hg => ⟨(h.cne g hg).1, (h.cne g hg).2.1, fun z y hz e => ?_⟩, fun z y hz e => ?_, ⟨h1.1, h1.2.1, h1.2.2.1, h1.2.2.2.1, by have := hf.size; omega⟩, belowSetCells h.bel h1.2.2.1 0 _ h1.2.2.2.2, fun z y hz e => ?_, ⟨h.nw.1, fun _ => hnw⟩⟩
  · simp only [List.mem_cons, List.not_mem_nil, or_false] at hz
    rcases hz with hz | hz | hz | hz
    · exact (h.cne g hg).2.2 z y (by simp [hz]) e
    · exact (h.cne g hg).2.2 z y (by simp [hz]) e
    · exact fun e2 => (hap z y (by simp [hz]) e).2.2.2 (by rw [hg, e2])
    · exact fun e2 => (hap z y (by simp [hz]) e).2.2.2 (by rw [hg, e2])
  · simp only [List.mem_cons, List.not_mem_nil, or_false] at hz
    rcases hz with hz | hz | hz | hz
    · exact ⟨(h.ap z y (by simp [hz]) e).1, (h.ap z y (by simp [hz]) e).2.1, Nat.lt_of_lt_of_le (h.ap z y (by simp [hz]) e).2.2 hf.size⟩
    · exact ⟨(h.ap z y (by simp [hz]) e).1, (h.ap z y (by simp [hz]) e).2.1, Nat.lt_of_lt_of_le (h.ap z y (by simp [hz]) e).2.2 hf.size⟩
    · exact ⟨(hap z y (by simp [hz]) e).1, (hap z y (by simp [hz]) e).2.1, Nat.lt_of_lt_of_le (hap z y (by simp [hz]) e).2.2.1 hf.size⟩
    · exact ⟨(hap z y (by simp [hz]) e).1, (hap z y (by simp [hz]) e).2.1, Nat.lt_of_lt_of_le (hap z y (by simp [hz]) e).2.2.1 hf.size⟩
  · simp only [List.mem_cons, List.not_mem_nil, or_false] at hz
    rcases hz with hz | hz | hz | hz
    · exact h.a4 z y (by simp [hz]) e
    · exact h.a4 z y (by simp [hz]) e
    · exact h4 z y (by simp [hz]) e
    · exact h4 z y (by simp [hz]) e
/-- the row of copies has grown -/
theorem PwS.push (h : PwS m n B b7 b9 b4 t w1 w s8 cnt i j a1 a2 x1 x2 c1 c2 d1 d2) {s8' : Value} {cnt' : Nat} {xs : List Value} (hr : Row w' B 89 2 s8' cnt' xs) (hg : w.grownBy w' s8.ownBlock) (hat : s8'.ownBlock = s8.ownBlock ∨ s8'.ownBlock = some w.heap.size) :
    PwS m n B b7 b9 b4 t w1 w' s8' cnt' i j a1 a2 x1 x2 c1 c2 d1 d2 := by
  obtain ⟨xs', hx⟩ := h.row
  have h1 := h.b79
  have hf : Fr (fun g => s8.ownBlock = some g) w w' := Fr.of_grown hg (fun k hk => hk)
  refine ⟨h.one.fr hf (fun e => (h.cne _ e).1 rfl), h.oneE.fr hf (fun z hz e => (h.cne _ e).2.2 _ z (by rcases hz with rfl | rfl <;> simp) rfl rfl), h.who.fr hf (fun e => (h.cne _ e).2.1 rfl), fun hj => (h.whoE hj).fr hf (fun z hz e => (h.cne _ e).2.2 _ z (by rcases hz with rfl | rfl <;> simp) rfl rfl), ⟨xs, hr⟩, fun g hg2 => ?_, fun z y hz e => ⟨(h.ap z y hz e).1, (h.ap z y hz e).2.1, Nat.lt_of_lt_of_le (h.ap z y hz e).2.2 hf.size⟩, ⟨h1.1, h1.2.1, h1.2.2.1, h1.2.2.2.1, by have := hf.size; omega⟩, h.bel.trans (Row.grown hx hg h1.2.2.2.2), h.a4, h.nw⟩
  rcases hat with e | e
  · exact h.cne g (by rw [← e]; exact hg2)
  · rw [e] at hg2
    cases hg2
    have l7 := h.one.lt
    have l9 := h.who.lt
    exact ⟨by omega, by omega, fun z y hz e2 => by have := (h.ap z y hz e2).2.2; omega⟩
end

set_option maxRecDepth 100000 in
set_option maxHeartbeats 2000000 in
theorem entry_power {m acc B bs most L x w tb nk K} (h : TB m acc B bs most L x w tb nk K) (l k : Nat) (hl0 : 0 < l) (hl : l ≤ L.length) (hkl : (K l).isSome = true) (hk : 2 ≤ k) (hk9 : k < 9223372036854775808) (hlen : 4 * (2 * (k * (tx L l).length)) ≤ ML) :
    Calls Try.prog 63 #[.pointer (some ⟨tb, 0, none⟩), .agg #[.int .i64 3, .int .u8 0, .int .i64 (l : Nat), .int .i64 0, .int .i64 (k : Nat)]] w (EntPost m (rep k (tx L l)) w) := by
  obtain ⟨w1, hw1⟩ : ∃ w1, w1 = (w.alloc (.cells [.int .i64 3, .int .u8 0, .int .i64 (l : Nat), .int .i64 0, .int .i64 (k : Nat)].toArray 67)).alloc (.cells enZ3.toArray 116) := ⟨_, rfl⟩
  have HB := Lib.hid (show Below w.heap.size w w1 by rw [hw1]; exact (below_alloc _ _).alloc (by simp) _)
  have HX := Lib.hid (show BX w1 w.heap.size [.int .i64 3, .int .u8 0, .int .i64 (l : Nat), .int .i64 0, .int .i64 (k : Nat)] by rw [hw1]; exact BX.alloc2 _ _ _ _)
  have HZ := Lib.hid (show BX w1 (w.heap.size + 1) enZ3 by rw [hw1]; exact BX.allocAt (by simp) _ _)
  have HT := Lib.hid (h.below HB.out)
  have HW1 := Lib.hid hw1
  unfold enZ3 at HW1
  obtain ⟨vl, hvl⟩ := Option.isSome_iff_exists.1 hkl
  obtain ⟨-, -, ae, ce, ah, ch, cp, rfl, hel, -⟩ := HT.out.ent l _ hvl
  have hl9 : l < 9223372036854775808 := by have := h.si.room; omega
  have hA := fun (wx : World) (hb : Below w1.heap.size w1 wx) => ((HT.out.below hb).km.hit hl9 hvl).2
  have HCC := Lib.hid (fun (wx : World) (hb : Below w1.heap.size w1 wx) => And.intro ((HT.out.below hb).bx.cell (j := 7) rfl) ((HX.out.below hb).cell (j := 2) rfl))
  have c0 := HX.out.cell (j := 0) rfl
  obtain ⟨n, hn⟩ : ∃ n, n = m.next.length := ⟨_, rfl⟩
  have HN := Lib.hid hn
  rw [← hn] at hA
  have hA0 := hA w1.drew (Below.refl _ _).drew
  have hA1 := fun o => hA ((w1.alloc o).drew) (below_alloc _ _).drew
  have hf1 := fun w => ent_field (.slice ae n ce) (.slice ah n ch) cp w
  have HEL := Lib.hid hel
  have HLO := Lib.hid (show ∀ z y, z ∈ [ae, ah, ae, ah] → z = some y → y.block < w.heap.size from by
    obtain ⟨-, -, ae', ce', ah', ch', cp', e1, e2, -⟩ := h.ent l _ hvl
    obtain ⟨h1, h2, h3⟩ : (Value.slice ae m.next.length ce = .slice ae' m.next.length ce') ∧ (Value.slice ah m.next.length ch = .slice ah' m.next.length ch') ∧ cp = cp' := by simpa using e1
    obtain ⟨rfl, -, -⟩ := Value.slice.inj h1
    obtain ⟨rfl, -, -⟩ := Value.slice.inj h2
    intro z y hz e3
    have hn0 := h.ok.n0
    simp only [List.mem_cons, List.not_mem_nil, or_false] at hz
    rcases hz with rfl | rfl | rfl | rfl
    · exact e2.e.lt y e3 hn0
    · exact e2.h.lt y e3 hn0
    · exact e2.e.lt y e3 hn0
    · exact e2.h.lt y e3 hn0)
  have HK := Lib.hid (And.intro hk (And.intro hk9 hlen))
  have HL := Lib.hid (And.intro hl0 hl)
  clear hA hvl hkl hel hw1 hl9 hl0 hl hk hk9 hlen h hn
  go_enter Try.func63, Try.ntmps63
  go_upto_region 1 with fail
  rw [← HW1.out]
  go_upto_region 8 with fail
  go_cut [7] (fun s7 wc => ∃ b7 : Nat, s7 = .pointer (some ⟨b7, 0, none⟩) ∧ Below w1.heap.size w1 wc ∧ w1.heap.size ≤ b7 ∧ BX wc b7 [.slice ae n ce, .slice ah n ch])
  case first =>
    go_region_held3 (fun wx => wx.cell? ⟨tb, 7, none⟩ = some (.map (some x.bk)) ∧ wx.cell? ⟨w.heap.size, 2, none⟩ = some (.int .i64 (l : Nat))) (exact HCC.out _ (by repeat (first | with_reducible exact Below.refl _ _ | with_reducible refine Below.drew ?_ | with_reducible refine bthen ?_ (below_alloc _ _) | with_reducible refine Below.setCell ?_ (by first | (simp; done) | (simp; omega) | omega) _))) (fail)
    all_goals
      go_wp2
      go_meet
      exact ⟨_, rfl, (below_alloc _ _).drew, by first | exact Nat.le_refl _ | (simp; done), (BX.alloc _ [.slice ae n ce, .slice ah n ch] _).drew⟩
  case rest =>
    obtain ⟨b7, rfl, hbc, hb7, hx7⟩ := hcut
    have HB7 := Lib.hid hb7
    have HBC := Lib.hid hbc
    have HX7 := Lib.hid hx7
    have d0 := hx7.cell (j := 0) rfl
    have d1 := hx7.cell (j := 1) rfl
    clear hbc hb7 hx7 hA0 hA1 hf1 c0
    go_upto_region 10 with fail
    obtain ⟨w2, hw2⟩ : ∃ w2, w2 = wc.alloc (.cells [.slice ae n ce, .slice ah n ch].toArray 89) := ⟨_, rfl⟩
    obtain ⟨b8, hb8⟩ : ∃ b8, b8 = wc.heap.size := ⟨_, rfl⟩
    have HB2 : Hid (Below wc.heap.size wc w2) := Lib.hid (by rw [hw2]; exact below_alloc _ _)
    have HB12 := Lib.hid (HBC.out.trans (HB2.out.mono HBC.out.size))
    have HX72 := Lib.hid (HX7.out.below HB2.out)
    rw [show [Value.slice ae n ce, Value.slice ah n ch].toArray = #[Value.slice ae n ce, Value.slice ah n ch] from rfl] at hw2
    rw [← hw2, ← hb8]
    have HNE : Hid (b7 < b8 ∧ w1.heap.size ≤ b8 ∧ b8 < w2.heap.size ∧ w1.heap.size ≤ w2.heap.size) := Lib.hid (by
      have h1 := HX7.out.lt
      have h2 := HBC.out.size
      have h3 : w2.heap.size = wc.heap.size + 1 := by rw [hw2]; simp
      omega)
    have HR2 : Hid (Row w2 w1.heap.size 89 2 (.slice (some ⟨b8, 0, none⟩) 1 1) 1 [.slice ae n ce, .slice ah n ch]) := Lib.hid (by rw [hw2, hb8]; exact World.ownsRow_lit wc #[.slice ae n ce, .slice ah n ch] 1 HBC.out.size (by unfold maxLen; omega) rfl)
    have HCA := Lib.hid (fun (wx : World) (hb : Below w2.heap.size w2 wx) => And.intro ((HX72.out.below hb).cell (j := 0) rfl) (And.intro ((HX72.out.below hb).cell (j := 1) rfl) ((HX.out.below (HB12.out.trans (hb.mono HB12.out.size))).cell (j := 4) rfl)))
    obtain ⟨e, he⟩ : ∃ e, e = k % 2 := ⟨_, rfl⟩
    have hand : bits BinOp.and IntKind.i64 (k : Int) 1 = (e : Int) := by rw [and_one_i64 HK.out.2.1]; omega
    obtain ⟨q0, hq0⟩ : ∃ q0, q0 = ((e : Int) == 1) := ⟨_, rfl⟩
    have hq1 : ((e : Int) == 1) = q0 := hq0.symm
    have HQ0 : Hid (q0 = true ↔ 0 < k % 2) := Lib.hid (by rw [hq0, he]; rcases Nat.mod_two_eq_zero_or_one k with h9 | h9 <;> (rw [h9]; decide))
    clear hw2 hb8 d0 d1 he hq0
    go_cut [9, 10] (fun s9 s10 wd => ∃ b9 : Nat, s9 = .pointer (some ⟨b9, 0, none⟩) ∧ s10 = .bool q0 ∧ w2.heap.size ≤ b9 ∧ Below w2.heap.size w2 wd ∧ BX wd b9 [.slice ae n ce, .slice ah n ch])
    case first =>
      go_region_held3 (fun wx => wx.cell? ⟨b7, 0, none⟩ = some (.slice ae n ce) ∧ wx.cell? ⟨b7, 1, none⟩ = some (.slice ah n ch) ∧ wx.cell? ⟨w.heap.size, 4, none⟩ = some (.int .i64 (k : Nat))) (exact HCA.out _ (by repeat (first | with_reducible exact Below.refl _ _ | with_reducible refine Below.drew ?_ | with_reducible refine bthen ?_ (below_alloc _ _) | with_reducible refine Below.setCell ?_ (by first | (simp; done) | (simp; omega) | omega) _))) (fail)
      all_goals
        go_wp2
        go_meet
        exact ⟨_, rfl, rfl, by first | exact Nat.le_refl _ | (simp; done), (below_alloc _ _).drew, (BX.alloc _ [.slice ae n ce, .slice ah n ch] _).drew⟩
    case rest =>
      obtain ⟨b9, rfl, rfl, hb9, hbd, hx9⟩ := hcut
      have HB9 := Lib.hid hb9
      have HBW := Lib.hid (HB12.out.trans (hbd.mono HB12.out.size))
      have hn0 : 0 < m.next.length := HT.out.ok.n0
      have hlo : ∀ z y, z ∈ [ae, ah, ae, ah] → z = some y → y.block < w.heap.size := HLO.out
      have hs1 := HB.out.size
      have HP0 : Hid (PwS m n w1.heap.size b7 b9 (w.heap.size + 1) (tx L l) w1 wc (.slice (some ⟨b8, 0, none⟩) 1 1) 1 0 (k % 2) ae ah ae ah ce ch ce ch) := Lib.hid (by
        have n1 := HNE.out
        have n2 := HB7.out
        have n3 := HBW.out.size
        have hE := HEL.out.below HBW.out
        refine ⟨HX72.out.below hbd, by rw [Nat.pow_zero, rep_one]; exact hE, hx9, fun hj => by rw [show k % 2 = 1 by omega, rep_one]; exact hE, ⟨_, HR2.out.below hbd⟩, fun g hg => ?_, fun z y hz e2 => ?_, ⟨by omega, by omega, by omega, Nat.le_refl _, n3⟩, HBW.out, fun z y hz e2 => by have := hlo z y hz e2; omega, ⟨fun h9 => by omega, fun h9 => by omega⟩⟩
        · obtain rfl : b8 = g := by simpa [Value.ownBlock] using hg
          exact ⟨by omega, by omega, fun z y hz e2 => by have := hlo z y hz e2; omega⟩
        · have := hlo z y hz e2; exact ⟨by omega, by omega, by omega⟩)
      have ht4 := (HX.out.below HBW.out).cell (j := 4) rfl
      obtain ⟨k2, hk2⟩ : ∃ k2, k2 = k / 2 := ⟨_, rfl⟩
      have hdiv : (k : Int) / 2 = (k2 : Int) := by omega
      have HD0 : Hid (Dbl k 1 (k % 2) k2) := Lib.hid (by
        rcases Nat.mod_two_eq_zero_or_one k with h9 | h9
        · have := (Dbl.start (k := k)).even h9; rw [h9, hk2]; exact this
        · have := (Dbl.start (k := k)).odd h9; rw [h9, hk2]; exact this)
      clear hb9 hbd hx9 hn0 hlo hs1 hk2 hand hq1
      go_upto_region 12 with fail
      go_loopg [8, 10, 11] (2 * k2) (fun gg s8 s10 s11 wr => ∃ (r i j : Nat) (bg : Bool) (a1 a2 x1 x2 : Option Addr) (c1 c2 d1 d2 : Nat), gg = 2 * r ∧ s11 = .int .i64 (r : Nat) ∧ s10 = .bool bg ∧ (bg = true ↔ 0 < j) ∧ Dbl k (i + 1) j r ∧ PwS m n w1.heap.size b7 b9 (w.heap.size + 1) (tx L l) w1 wr s8 (i + 1) i j a1 a2 x1 x2 c1 c2 d1 d2)
      case atStart => exact ⟨k2, 0, k % 2, q0, _, _, _, _, _, _, _, _, rfl, rfl, rfl, HQ0.out, HD0.out, HP0.out⟩
      case round =>
        obtain ⟨r, i, j, bg, a1, a2, x1, x2, c1, c2, d1, d2, rfl, rfl, rfl, hbg, hdb, hps⟩ := hrel
        obtain ⟨sa, sc, rfl⟩ := hps.form
        have HP := Lib.hid hps
        have HD := Lib.hid hdb
        have HBG := Lib.hid hbg
        clear hbg hdb hps HP0 HD0 HQ0 ht4
        by_cases hr0 : r = 0
        · subst hr0
          have hjk : j = k := HD.out.done
          have hk0 : 0 < j := by have := HK.out.1; omega
          have HEF := Lib.hid (HP.out.whoE hk0)
          rw [hjk] at HEF
          have f0 := HP.out.who.cell (j := 0) rfl
          have f1 := HP.out.who.cell (j := 1) rfl
          have HZL := Lib.hid (HZ.out.below HP.out.bel)
          have HTH := Lib.hid (HZL.out.there 0 3 (by simp [enZ3]))
          clear hjk hk0
          go_wp2_with (refine wpList_store_mid rfl 116 _ _ rfl (w.heap.size + 1) 0 #[.slice x1 n d1, .slice x2 n d2, .slice sa (i + 1) sc] rfl rfl HTH.out ent_info (by simp [Value.oneCell']) ?_)
          have hz := HZL.out.putAll [.slice x1 n d1, .slice x2 n d2, .slice sa (i + 1) sc] rfl
          refine bodyPost_ret (res_cell rfl _ _ (w.heap.size + 1) _ _ rfl hz.rng Try.underlying116 rfl ent_info) rfl ?_
          have hfr := frSetCells (w.heap.size + 1) [.slice x1 n d1, .slice x2 n d2, .slice sa (i + 1) sc] 0 wr
          have h1 := HB.out.size
          have h2 := HP.out.bel.size
          have hnew9 := HP.out.nw.2 (by have h5 := HD.out.done; have h6 := HK.out.1; omega)
          refine ⟨x1, d1, x2, d2, .slice sa (i + 1) sc, by rw [← HN.out], (fun z hz => by have := hnew9 (some z) z (by rcases hz with rfl | rfl <;> simp) rfl; omega), HEF.out.fr hfr (fun z hz => HP.out.a4 _ z (by rcases hz with rfl | rfl <;> simp) rfl), belowSetCells (HB.out.trans (HP.out.bel.mono h1)) (by omega) 0 _ (by omega), _, _, _, rfl⟩
        · have hr1 : (0 : Int) < (r : Int) := by omega
          have HB21 : Hid (j + 2 ^ (i + 1) ≤ k ∧ 2 ^ (i + 1) = 2 * 2 ^ i) := Lib.hid (by
            have h1 := HD.out.sum
            have h2 : 2 ^ (i + 1) * 1 ≤ 2 ^ (i + 1) * r := Nat.mul_le_mul_left _ (by omega)
            exact ⟨by omega, by rw [Nat.pow_succ, Nat.mul_comm]⟩)
          have HLN := Lib.hid (show ∀ a b : Nat, a + b ≤ k → 4 * ((rep a (tx L l)).length + (rep b (tx L l)).length) ≤ ML from fun a b hab => by
            have h1 := HK.out.2.2
            have h2 : (a + b) * (tx L l).length ≤ k * (tx L l).length := Nat.mul_le_mul_right _ hab
            rw [Nat.add_mul] at h2
            rw [rep_len, rep_len]
            omega)
          have hbt := tx_bts HT.out.si.good _ l (Nat.le_refl _) HL.out.1 HL.out.2
          have HJ1 := Lib.hid (join_any m HT.out.ok wr a1 a2 a1 a2 c1 c2 c1 c2 (rep (2 ^ i) (tx L l)) (rep (2 ^ i) (tx L l)) (hbt.rep _) (hbt.rep _) (HLN.out _ _ (by have := HB21.out; omega)) HP.out.oneE HP.out.oneE)
          rw [rep_dbl, ← HN.out] at HJ1
          have HBT := Lib.hid hbt
          have f0 := HP.out.one.cell (j := 0) rfl
          have f1 := HP.out.one.cell (j := 1) rfl
          clear hbt
          go_wp2_with fail
          refine HJ1.out.mono ?_
          rintro e w7 ⟨y1, e1, y2, e2, rfl, hnew, hef, hb7⟩
          have HNEW := Lib.hid hnew
          have HP7 := Lib.hid (HP.out.below hb7)
          have hap : ∀ z y, z ∈ [y1, y2] → z = some y → y.block ≠ b7 ∧ y.block ≠ b9 ∧ y.block < w7.heap.size ∧ (Value.slice sa (i + 1) sc).ownBlock ≠ some y.block := fun z y hz e => by
            simp only [List.mem_cons, List.not_mem_nil, or_false] at hz
            have h1 := hnew y (by rcases hz with rfl | rfl; exact .inl e; exact .inr e)
            have h2 := HP.out.one.lt
            have h3 := HP.out.who.lt
            have hn0 := HT.out.ok.n0
            refine ⟨by omega, by omega, ?_, fun e3 => by have := HP.out.lt e3; omega⟩
            rcases hz with rfl | rfl
            · exact hef.e.lt y e hn0
            · exact hef.h.lt y e hn0
          have hnw4 : ∀ z y, z ∈ [y1, y2] → z = some y → w.heap.size + 1 < y.block := fun z y hz e => by
            simp only [List.mem_cons, List.not_mem_nil, or_false] at hz
            have h1 := hnew y (by rcases hz with rfl | rfl; exact .inl e; exact .inr e)
            have h2 := (HZ.out.below HP.out.bel).lt
            omega
          have HP8 := Lib.hid (HP7.out.turn (i' := i + 1) (e1 := e1) (e2 := e2) hef hap (fun z y hz e => by have := hnw4 z y hz e; omega) (fun z y hz e => by have := hnw4 z y hz e; omega))
          have hth := HP7.out.one.there 0 2 (by simp)
          rw [← HN.out]
          clear hnew hef hb7 hap hnw4 f0 f1
          go_upto_region 15 with (refine wpList_store_mid rfl 89 _ _ rfl b7 0 #[.slice y1 n e1, .slice y2 n e2] rfl rfl hth ef_info (by simp [Value.oneCell']) ?_)
          obtain ⟨w8, hw8⟩ : ∃ w8, w8 = w7.setCells b7 0 [.slice y1 n e1, .slice y2 n e2] := ⟨_, rfl⟩
          rw [← hw8] at HP8
          have HW8 := Lib.hid hw8
          have f0 := HP8.out.one.cell (j := 0) rfl
          have f1 := HP8.out.one.cell (j := 1) rfl
          obtain ⟨xs, hrow⟩ := HP8.out.row
          have HROW := Lib.hid hrow
          have HIB : Hid (i + 1 < 64) := Lib.hid (by
            have h1 := HB21.out.1
            have h2 := HK.out.2.1
            refine (Nat.pow_lt_pow_iff_right (a := 2) (by decide)).1 ?_
            have : (2 : Nat) ^ 64 = 18446744073709551616 := rfl
            omega)
          clear hrow hth hw8
          rw [← HW8.out]
          go_upto_region 16 with (at_builtin; refine app_row_at (.tmp 74) (.tmp 76) EEFG rfl rfl w1.heap.size (.slice sa (i + 1) sc) (i + 1) xs rfl (Row.below HROW.out (below_alloc _ _)) _ 1 1 [.slice y1 n e1, .slice y2 n e2] rfl (RdG.lits w8 2 89 1 [.slice y1 n e1, .slice y2 n e2] rfl) (by simp [Value.oneCell']) (by have := HIB.out; omega) (by decide) (by have := HP8.out.b79; simp; omega) ?_; intro a9 c9 w9 hr9 hg9 hat9; have HP9 := Lib.hid ((HP8.out.below (below_alloc w8 (.cells [.slice y1 n e1, .slice y2 n e2].toArray 89))).push hr9 hg9 hat9); clear hr9 hg9 hat9 f0 f1)
          obtain ⟨r2, hr2⟩ : ∃ r2, r2 = r / 2 := ⟨_, rfl⟩
          have hdv : (r : Int) / 2 = (r2 : Int) := by omega
          have HR2' := Lib.hid hr2
          have HRM : Hid (r2 < r) := Lib.hid (by omega)
          have hr9 : r < 9223372036854775808 := by
            have h1 := HD.out.sum
            have h2 := HK.out.2.1
            have h3 : 1 * r ≤ 2 ^ (i + 1) * r := Nat.mul_le_mul_right _ (Nat.pow_pos (by decide))
            omega
          rcases Nat.mod_two_eq_zero_or_one r with h9 | h9
          · have hand : bits BinOp.and IntKind.i64 (r : Int) 1 = 0 := by rw [and_one_i64 hr9]; omega
            have HDN := Lib.hid (HD.out.even h9)
            clear hr2 h9 hr9 hr0
            go_wp2
            go_roundg (2 * r2)
            case measure => have := HRM.out; omega
            case rel =>
              have h := HDN.out
              rw [← HR2'.out] at h
              exact ⟨r2, i + 1, j, bg, y1, y2, x1, x2, e1, e2, d1, d2, rfl, rfl, rfl, HBG.out, h, HP9.out⟩
          · have hand : bits BinOp.and IntKind.i64 (r : Int) 1 = 1 := by rw [and_one_i64 hr9]; omega
            have HDN := Lib.hid (HD.out.odd h9)
            clear hr2 h9 hr9 hr0
            have g0 := HP9.out.one.cell (j := 0) rfl
            have g1 := HP9.out.one.cell (j := 1) rfl
            have hth9 := HP9.out.who.there 0 2 (by simp)
            rcases bg with _ | _
            · have hj0 : j = 0 := by
                have h := HBG.out
                simp only [Bool.false_eq_true, false_iff] at h
                omega
              subst hj0
              have HPA := Lib.hid (HP9.out.gather (e1 := e1) (e2 := e2) HP9.out.oneE (fun z y hz e => by
                have hz' : z ∈ [y1, y2, x1, x2] := by
                  simp only [List.mem_cons, List.not_mem_nil, or_false] at hz ⊢
                  rcases hz with rfl | rfl <;> simp
                have h1 := HP9.out.ap z y hz' e
                exact ⟨h1.1, h1.2.1, h1.2.2, fun e3 => (HP9.out.cne _ e3).2.2 z y hz' e rfl⟩) (fun z y hz e => HP9.out.a4 z y (by
                  simp only [List.mem_cons, List.not_mem_nil, or_false] at hz ⊢
                  rcases hz with rfl | rfl <;> simp) e) (HP9.out.nw.1 (by omega)))
              go_wp2_with (refine wpList_store_mid rfl 89 _ _ rfl b9 0 #[.slice y1 n e1, .slice y2 n e2] rfl rfl hth9 ef_info (by simp [Value.oneCell']) ?_)
              go_roundg (2 * r2)
              case measure => have := HRM.out; omega
              case rel =>
                have h := HDN.out
                rw [← HR2'.out, Nat.zero_add] at h
                exact ⟨r2, i + 1, 2 ^ (i + 1), true, y1, y2, y1, y2, e1, e2, e1, e2, rfl, rfl, rfl, by simp [Nat.pow_pos], h, HPA.out⟩
            · have hj0 : 0 < j := HBG.out.1 rfl
              have HJ2 := Lib.hid (join_any m HT.out.ok w9 x1 x2 y1 y2 d1 d2 e1 e2 (rep j (tx L l)) (rep (2 ^ (i + 1)) (tx L l)) (HBT.out.rep _) (HBT.out.rep _) (HLN.out _ _ HB21.out.1) (HP9.out.whoE hj0) HP9.out.oneE)
              rw [← rep_add, ← HN.out] at HJ2
              have k0 := HP9.out.who.cell (j := 0) rfl
              have k1 := HP9.out.who.cell (j := 1) rfl
              clear hj0
              go_wp2_with fail
              refine HJ2.out.mono ?_
              rintro e wA ⟨z1, f1, z2, f2, rfl, hnew, hef, hbA⟩
              have HPA := Lib.hid (HP9.out.below hbA)
              have hap : ∀ z y, z ∈ [z1, z2] → z = some y → y.block ≠ b7 ∧ y.block ≠ b9 ∧ y.block < wA.heap.size ∧ (Value.slice a9 (i + 1 + 1) c9).ownBlock ≠ some y.block := fun z y hz e => by
                simp only [List.mem_cons, List.not_mem_nil, or_false] at hz
                have h1 := hnew y (by rcases hz with rfl | rfl; exact .inl e; exact .inr e)
                have h2 := HP9.out.one.lt
                have h3 := HP9.out.who.lt
                have hn0 := HT.out.ok.n0
                refine ⟨by omega, by omega, ?_, fun e3 => by have := HP9.out.lt e3; omega⟩
                rcases hz with rfl | rfl
                · exact hef.e.lt y e hn0
                · exact hef.h.lt y e hn0
              have hnw4 : ∀ z y, z ∈ [z1, z2] → z = some y → w.heap.size + 1 < y.block := fun z y hz e => by
                simp only [List.mem_cons, List.not_mem_nil, or_false] at hz
                have h1 := hnew y (by rcases hz with rfl | rfl; exact .inl e; exact .inr e)
                have h2 := (HZ.out.below HP9.out.bel).lt
                omega
              have HPB := Lib.hid (HPA.out.gather (e1 := f1) (e2 := f2) hef hap (fun z y hz e => by have := hnw4 z y hz e; omega) (fun z y hz e => by have := hnw4 z y hz e; omega))
              have hthA := HPA.out.who.there 0 2 (by simp)
              rw [← HN.out]
              clear hnew hef hbA hap hnw4 g0 g1 k0 k1 hth9
              go_wp2_with (refine wpList_store_mid rfl 89 _ _ rfl b9 0 #[.slice z1 n f1, .slice z2 n f2] rfl rfl hthA ef_info (by simp [Value.oneCell']) ?_)
              go_roundg (2 * r2)
              case measure => have := HRM.out; omega
              case rel =>
                have h := HDN.out
                rw [← HR2'.out] at h
                exact ⟨r2, i + 1, j + 2 ^ (i + 1), true, y1, y2, z1, z2, e1, e2, f1, f2, rfl, rfl, rfl, ⟨fun _ => by have : 0 < 2 ^ (i + 1) := Nat.pow_pos (by decide); omega, fun _ => rfl⟩, h, HPB.out⟩

end Go.Proofs.Ytflgmodofemifaa
