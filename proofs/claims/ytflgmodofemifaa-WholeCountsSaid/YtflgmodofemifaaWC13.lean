/-
  Joined texts: rule.Refs: what a rule refers to. · learn: what its walk carries. · learn: the walk. · effect, End, Hits of the table.
-/
import Derived.Test.YtflgmodofemifaaWC11
import Derived.Test.YtflgmodofemifaaWC12

/- rule.Refs: what a rule refers to. -/
namespace Go.Proofs.Ytflgmodofemifaa
open Go.RowKit Go.Maps
set_option linter.unusedVariables false
set_option linter.unusedSimpArgs false

def refsI (r : Ru) : List Int := (refs r).map Int.ofNat
theorem refsI_len (r : Ru) : (refsI r).length = (refs r).length := by simp [refsI]
theorem refsI_get (r : Ru) (i : Nat) : (refsI r).getD i 0 = (((refs r).getD i 0 : Nat) : Int) := by
  unfold refsI
  simp only [List.getD, List.getElem?_map]
  cases (refs r)[i]? <;> rfl

def RefPost (r : Ru) (w : World) (e : Ending) (w' : World) : Prop :=
  ∃ a c, e = .returned (.slice a (refs r).length c) ∧ Rd w' .i64 a (refs r).length (refsI r) ∧ Below w.heap.size w w' ∧ (∀ z, a = some z → w.heap.size ≤ z.block)

set_option maxRecDepth 100000 in
theorem refs_any (r : Ru) (hl : r.left < 9223372036854775808) (hr : r.right < 9223372036854775808) (w : World) : Calls Try.prog 62 #[ruV r] w (RefPost r w) := by
  obtain ⟨w1, hw1⟩ : ∃ w1, w1 = w.alloc (.cells (ruC r).toArray 67) := ⟨_, rfl⟩
  have HB := Lib.hid (show Below w.heap.size w w1 by rw [hw1]; exact below_alloc _ _)
  have HX := Lib.hid (show BX w1 w.heap.size (ruC r) by rw [hw1]; exact BX.alloc _ _ _)
  have c0 := HX.out.cell (j := 0) rfl
  have c2 := HX.out.cell (j := 2) rfl
  have c3 := HX.out.cell (j := 3) rfl
  have HW1 := Lib.hid hw1
  unfold ruC at HW1
  unfold ruV
  have HL := Lib.hid (And.intro hl hr)
  clear hl hr hw1
  by_cases k2 : r.kind = 2
  · have HR : Hid (refs r = [r.left, r.right]) := Lib.hid (by unfold refs; rw [if_pos k2])
    have e2 : ((r.kind : Int) == 2) = true := by rw [k2]; rfl
    clear k2
    go_enter Try.func62, Try.ntmps62
    go_upto_region 1 with fail
    rw [← HW1.out]
    go_wp2
    go_ret
    have h := HL.out
    refine ⟨_, 2, ret_eq (by rw [HR.out]; rfl), ?_, HB.out.alloc HB.out.size _, fun z hz => by cases hz; exact HB.out.size⟩
    have hR := Rd.lits w1 .i64 39 [(r.left : Int), (r.right : Int)] (by simp) (fun x hx => by
      simp only [List.mem_cons, List.not_mem_nil, or_false] at hx
      rcases hx with rfl | rfl
      · exact wfI h.1
      · exact wfI h.2)
    unfold refsI
    rw [HR.out]
    exact hR
  · by_cases k3 : r.kind = 3
    · have HR : Hid (refs r = [r.left]) := Lib.hid (by unfold refs; rw [if_neg k2, if_pos k3])
      have e2 : ((r.kind : Int) == 2) = false := by rw [k3]; rfl
      have e3 : ((r.kind : Int) == 3) = true := by rw [k3]; rfl
      clear k2 k3
      go_enter Try.func62, Try.ntmps62
      go_upto_region 1 with fail
      rw [← HW1.out]
      go_wp2
      go_ret
      have h := HL.out
      refine ⟨_, 1, ret_eq (by rw [HR.out]; rfl), ?_, HB.out.alloc HB.out.size _, fun z hz => by cases hz; exact HB.out.size⟩
      have hR := Rd.lits w1 .i64 39 [(r.left : Int)] (by simp) (fun x hx => by
        simp only [List.mem_cons, List.not_mem_nil, or_false] at hx
        subst hx
        exact wfI h.1)
      unfold refsI
      rw [HR.out]
      exact hR
    · have HR : Hid (refs r = []) := Lib.hid (by unfold refs; rw [if_neg k2, if_neg k3])
      have e2 : ((r.kind : Int) == 2) = false := by simp; omega
      have e3 : ((r.kind : Int) == 3) = false := by simp; omega
      clear k2 k3
      go_enter Try.func62, Try.ntmps62
      go_upto_region 1 with fail
      rw [← HW1.out]
      go_wp2
      go_ret
      refine ⟨none, 0, ret_eq (by rw [HR.out]; rfl), ?_, HB.out, fun z hz => by cases hz⟩
      unfold refsI
      rw [HR.out]
      exact ⟨rfl, by simp, fun i hi => by simp at hi, fun x hx => by simp at hx⟩

end Go.Proofs.Ytflgmodofemifaa

/- learn: what its walk carries. -/
namespace Go.Proofs.Ytflgmodofemifaa
open Go.RowKit Go.Maps
set_option linter.unusedVariables false
set_option linter.unusedSimpArgs false

theorem Row.cutTo {w : World} {B : Nat} {e : TypeId} {size g n c k : Nat} {xs : List Value} (h : Row w B e size (.slice (some ⟨g, 0, none⟩) n c) n xs) (hk : k ≤ n) : Row w B e size (.slice (some ⟨g, 0, none⟩) k c) k (xs.take (k * size)) := by
  have hl := h.1
  have hks : k * size ≤ n * size := Nat.mul_le_mul_right _ hk
  refine ⟨by rw [List.length_take, hl]; omega, .inr ?_⟩
  rcases h.2 with ⟨hv, _⟩ | ⟨g', cap, cur, hv, hb, hg, hn, hc, hs, ht⟩
  · cases hv
  · obtain ⟨ha, -, hcc⟩ := Value.slice.inj hv
    cases ha
    subst hcc
    refine ⟨g, c, cur, rfl, hb, hg, by omega, hc, hs, ?_⟩
    rw [← ht, List.take_take, Nat.min_eq_left hks]

theorem KM.cellNe {w : World} {b n : Nat} {K : Nat → Option Value} (h : KM w b n K) {a : Addr} {v : Value} (hc : w.cell? a = some v) : a.block ≠ b := by
  intro e
  obtain ⟨D, ⟨es, ck, he, _⟩, _⟩ := h
  simp [World.cell?, e, he] at hc

def idsV (S : List Nat) : List Value := S.map fun (y : Nat) => Value.int .i64 (y : Int)
theorem idsV_len (S) : (idsV S).length = S.length := by simp [idsV]
theorem idsV_app (S T) : idsV (S ++ T) = idsV S ++ idsV T := by simp [idsV]

/-- what of a list is not known -/
def unk (K : Nat → Option Value) (l : List Nat) : List Nat := l.filter fun y => (K y).isNone
theorem unk_nil (K) : unk K [] = [] := rfl
theorem unk_hit {K : Nat → Option Value} {l : List Nat} {q : Nat} (hq : q < l.length) (h : (K (l.getD q 0)).isSome = true) : unk K (l.take (q + 1)) = unk K (l.take q) := by
  rw [List.take_succ_eq_append_getElem hq]
  have : l.getD q 0 = l[q] := by simp [List.getD, hq]
  rw [this] at h
  unfold unk
  rw [List.filter_append]
  cases hk : K l[q] with
  | none => rw [hk] at h; cases h
  | some v => simp [hk]
theorem unk_miss {K : Nat → Option Value} {l : List Nat} {q : Nat} (hq : q < l.length) (h : K (l.getD q 0) = none) : unk K (l.take (q + 1)) = unk K (l.take q) ++ [l.getD q 0] := by
  rw [List.take_succ_eq_append_getElem hq]
  have e : l.getD q 0 = l[q] := by simp [List.getD, hq]
  rw [e] at h ⊢
  unfold unk
  rw [List.filter_append]
  simp [h]
theorem unk_len (K) (l : List Nat) : (unk K l).length ≤ l.length := List.length_filter_le _ _
theorem mem_unk {K : Nat → Option Value} {l : List Nat} {y : Nat} : y ∈ unk K l ↔ y ∈ l ∧ K y = none := by
  unfold unk
  rw [List.mem_filter]
  simp

structure LI (m : Mc) (acc : List Bool) (B bs most : Nat) (L : List En) (x : Tb) (tb : Nat) (wb w0 wr : World) (K0 : Nat → Option Value) (sv : Value) (S : List Nat) (nk : Nat) (K : Nat → Option Value) : Prop where
  tab : TB m acc B bs most L x wr tb nk K
  ts : TS m acc B bs most L x tb wb
  fb : Fr (fun b => b = x.bk) wb wr
  fr : Fr (fun b => b = x.bk) w0 wr
  b0 : wb.heap.size ≤ w0.heap.size
  row : Row wr w0.heap.size 39 1 sv S.length (idsV S)
  ap : ∀ j v, K j = some v → ∀ b ∈ entBl v, sv.ownBlock ≠ some b
  mono : ∀ y, (K0 y).isSome = true → (K y).isSome = true

section
variable {m : Mc} {acc : List Bool} {B bs most : Nat} {L : List En} {x : Tb} {tb : Nat} {wb w0 wr w' : World} {K0 : Nat → Option Value} {sv : Value} {S : List Nat} {nk : Nat} {K : Nat → Option Value}

theorem LI.below (h : LI m acc B bs most L x tb wb w0 wr K0 sv S nk K) (hb : Below wr.heap.size wr w') : LI m acc B bs most L x tb wb w0 w' K0 sv S nk K :=
  ⟨h.tab.below hb, h.ts, h.fb.trans (.of_below hb), h.fr.trans (.of_below hb), h.b0, h.row.below hb, h.ap, h.mono⟩
theorem LI.form (h : LI m acc B bs most L x tb wb w0 wr K0 sv S nk K) : ∃ a c, sv = .slice a S.length c := Row.form h.row
theorem LI.addr {a : Option Addr} {n c : Nat} (h : LI m acc B bs most L x tb wb w0 wr K0 (.slice a n c) S nk K) (hn : 0 < S.length) : ∃ g, a = some ⟨g, 0, none⟩ := by
  rcases h.row.2 with ⟨hv, h0⟩ | ⟨g', cap, cur, hv, _⟩
  · omega
  · cases hv; exact ⟨_, rfl⟩
theorem LI.cell {g n c : Nat} (h : LI m acc B bs most L x tb wb w0 wr K0 (.slice (some ⟨g, 0, none⟩) n c) S nk K) {j y : Nat} (hy : S[j]? = some y) : wr.cell? ⟨g, j, none⟩ = some (.int .i64 (y : Nat)) := by
  have hn : n = S.length := by
    rcases h.row.2 with ⟨hv, h0⟩ | ⟨g', cap, cur, hv, _⟩
    · cases hv
    · simp only [Value.slice.injEq] at hv; exact hv.2.1
  subst hn
  have hj := (List.getElem?_eq_some_iff.1 hy).1
  rw [World.ownsRow.cellAt h.row j (by omega)]
  simp [idsV, hy]
theorem LI.cap {a : Option Addr} {n c : Nat} (h : LI m acc B bs most L x tb wb w0 wr K0 (.slice a n c) S nk K) : n ≤ c := Row.cap h.row
/-- the top is taken off -/
theorem LI.pop {g c y : Nat} {T : List Nat} (h : LI m acc B bs most L x tb wb w0 wr K0 (.slice (some ⟨g, 0, none⟩) (T ++ [y]).length c) (T ++ [y]) nk K) : LI m acc B bs most L x tb wb w0 wr K0 (.slice (some ⟨g, 0, none⟩) T.length c) T nk K := by
  refine ⟨h.tab, h.ts, h.fb, h.fr, h.b0, ?_, h.ap, h.mono⟩
  have := Row.cutTo h.row (k := T.length) (by simp)
  rw [Nat.mul_one, idsV_app, List.take_append_of_le_length (by rw [idsV_len]; exact Nat.le_refl _), List.take_of_length_le (by rw [idsV_len]; exact Nat.le_refl _)] at this
  exact this
/-- a number is appended -/
theorem LI.app (h : LI m acc B bs most L x tb wb w0 wr K0 sv S nk K) {sv' : Value} {y : Nat} (hr : Row w' w0.heap.size 39 1 sv' (S.length + 1) (idsV S ++ [.int .i64 (y : Nat)])) (hg : wr.grownBy w' sv.ownBlock) (hat : sv'.ownBlock = sv.ownBlock ∨ sv'.ownBlock = some wr.heap.size) :
    LI m acc B bs most L x tb wb w0 w' K0 sv' (S ++ [y]) nk K := by
  have hge : ∀ g, sv.ownBlock = some g → w0.heap.size ≤ g := fun g hg => (Row.block_lt h.row hg).2
  obtain ⟨h1, h2⟩ := h.tab.wrote h.ts h.fb hg (fun g hg2 => by have := hge g hg2; have := h.b0; omega) (fun id v hv b hb => h.ap id v hv b hb)
  have hg2 : Fr (fun b => sv.ownBlock = some b) wr w' := Fr.of_grown hg (fun k hk => hk)
  refine ⟨h1, h.ts, h2, h.fr.then hg2 (fun i hi => .inr (hge i hi)), h.b0, ?_, fun j v hv b hb => ?_, h.mono⟩
  · rw [List.length_append, idsV_app]; exact hr
  · rcases hat with e | e
    · rw [e]; exact h.ap j v hv b hb
    · rw [e]
      intro e2
      have := h.tab.entLt hv b hb
      cases e2; omega
/-- an entry is put into the map -/
theorem LI.put (h : LI m acc B bs most L x tb wb w0 wr K0 sv S nk K) {id : Nat} (h0 : 0 < id) (hid : id ≤ L.length) (hn : K id = none) {ae ah : Option Addr} {ce ch : Nat} {cp : Value} (hef : EfR m wr ae ah (tx L id)) (hcp : IsSl cp)
    (hnew : ∀ z, ae = some z ∨ ah = some z → sv.ownBlock ≠ some z.block)
    (hkm : KM w' x.bk (nk + 1) (fun j => if j = id then some (.agg #[.slice ae m.next.length ce, .slice ah m.next.length ch, cp]) else K j)) (hg : wr.grownBy w' (some x.bk)) :
    LI m acc B bs most L x tb wb w0 w' K0 sv S (nk + 1) (fun j => if j = id then some (.agg #[.slice ae m.next.length ce, .slice ah m.next.length ch, cp]) else K j) := by
  obtain ⟨h1, h2⟩ := h.tab.put h.ts h.fb h0 hid hn hef hcp hkm hg
  have hf : Fr (fun b => b = x.bk) wr w' := Fr.of_grown hg (fun k hk => (Option.some.inj hk).symm)
  refine ⟨h1, h.ts, h2, h.fr.trans hf, h.b0, Row.fr h.row hf (fun g hg3 e => ?_), fun j v hv b hb => ?_, fun y hy => ?_⟩
  · subst e
    obtain ⟨D, ⟨es, ck, he2, _⟩, _⟩ := h.tab.km
    rcases h.row.2 with ⟨hv, h0⟩ | ⟨g', cap, cur, hv, _, hgg, _⟩
    · rw [hv] at hg3; cases hg3
    · rw [hv] at hg3; cases hg3
      rw [he2] at hgg; cases hgg
  · by_cases e : j = id
    · subst e
      simp only [if_true] at hv
      cases hv
      obtain ⟨z, hz, rfl⟩ := (entBl_mk _ _ _ _ _ _ _ _).1 hb
      exact hnew z hz
    · simp only [if_neg e] at hv
      exact h.ap j v hv b hb
  · by_cases e : y = id
    · subst e; simp
    · simp only [if_neg e]; exact h.mono y hy
end

end Go.Proofs.Ytflgmodofemifaa

/- learn: the walk. -/
namespace Go.Proofs.Ytflgmodofemifaa
open Go.RowKit Go.Maps
set_option linter.unusedVariables false
set_option linter.unusedSimpArgs false

theorem EIDG : EltG Try.prog 135 39 (.int .i64 0) 1 8 := ⟨Try.underlying135, info_parts (by kernel_rfl), rfl, by decide⟩

/-- what learn leaves behind -/
def LearnPost (m : Mc) (acc : List Bool) (B bs most : Nat) (L : List En) (x : Tb) (tb id : Nat) (K : Nat → Option Value) (w : World) (e : Ending) (w' : World) : Prop :=
  e = .returned .nilIface ∧ ∃ nk' K', TB m acc B bs most L x w' tb nk' K' ∧ (K' id).isSome = true ∧ (∀ y, (K y).isSome = true → (K' y).isSome = true) ∧ Fr (fun b => b = x.bk) w w'

set_option maxRecDepth 100000 in
set_option maxHeartbeats 2000000 in
theorem learn_any {m acc B bs most L x w tb nk K} (h : TB m acc B bs most L x w tb nk K) (hv : Valid 0 m.cls m.next acc) (id : Nat) (h0 : 0 < id) (hid : id ≤ L.length) (hsh : 8 * (tx L id).length ≤ ML) :
    Calls Try.prog 46 #[.pointer (some ⟨tb, 0, none⟩), .int .i64 (id : Nat)] w (LearnPost m acc B bs most L x tb id K w) := by
  have HV := Lib.hid hv
  have HG := Lib.hid h.si.good
  have HRM := Lib.hid h.si.room
  obtain ⟨wb, hts, hfb⟩ := h.base
  have HLI0 : Hid (LI m acc B bs most L x tb wb w (w.alloc (.cells [Value.int .i64 (id : Nat)].toArray 39)) K (.slice (some ⟨w.heap.size, 0, none⟩) 1 1) [id] nk K) := Lib.hid (by
    have hb := below_alloc w (.cells [Value.int .i64 (id : Nat)].toArray 39)
    refine ⟨h.below hb, hts, hfb.trans (.of_below hb), .of_below hb, hfb.size, ?_, fun j v hv b hb2 e => ?_, fun y hy => hy⟩
    · exact World.ownsRow_lit w #[.int .i64 (id : Nat)] 1 (Nat.le_refl _) (by unfold maxLen; omega) rfl
    · have := h.entLt hv b hb2
      have e2 : w.heap.size = b := by simpa [Value.ownBlock] using e
      omega)
  have HST0 := Lib.hid (Stk.start (L := L) (id := id) K h0 hid)
  have hne : ∀ w, (binOp .neq 34 .nilIface .nilIface).run Try.prog w = .ok (.bool false) w := fun w => by kernel_rfl
  have hid0 : ((id : Int) == 0) = false := by simp; omega
  have HID := Lib.hid (And.intro h0 hid)
  have HSH := Lib.hid hsh
  clear h hts hfb h0 hid hv hsh
  go_enter Try.func46, Try.ntmps46
  go_upto_region 4 with fail
  go_loopg [5] (2 * ms [(id, false)]) (fun gg sv wr => ∃ (T : List (Nat × Bool)) (nk' : Nat) (K' : Nat → Option Value), gg = 2 * ms T ∧ LI m acc B bs most L x tb wb w wr K sv (T.map (·.1)) nk' K' ∧ Stk L id K' T)
  case atStart => exact ⟨[(id, false)], nk, K, rfl, HLI0.out, HST0.out⟩
  case round =>
    obtain ⟨T, nk', K', rfl, hli, hst⟩ := hrel
    clear HLI0 HST0
    have hT : T = [] ∨ ∃ T' y f, T = T' ++ [(y, f)] := by
      rcases List.eq_nil_or_concat T with h | ⟨T', ⟨y, f⟩, h⟩
      · exact .inl h
      · exact .inr ⟨T', y, f, by rw [h, List.concat_eq_append]⟩
    rcases hT with rfl | ⟨T', y, f, rfl⟩
    · obtain ⟨a, c, rfl⟩ := hli.form
      have HLI := Lib.hid hli
      have HDN := Lib.hid hst.done
      clear hli hst
      go_wp2
      go_ret
      exact ⟨rfl, nk', K', HLI.out.tab, HDN.out, HLI.out.mono, HLI.out.fr⟩
    · obtain ⟨S, hS⟩ : ∃ S, S = T'.map (·.1) := ⟨_, rfl⟩
      have hmap : (T' ++ [(y, f)]).map (·.1) = S ++ [y] := by simp [hS]
      rw [hmap] at hli
      obtain ⟨a, c, rfl⟩ := hli.form
      obtain ⟨g, rfl⟩ := hli.addr (by simp)
      have HLI := Lib.hid hli
      obtain ⟨y0, y1, y2⟩ := hst.pos T'.length (y, f) (by simp)
      simp only at y0 y1 y2
      have HY := Lib.hid (And.intro y0 y1)
      have HSX := Lib.hid hS
      have HSL : Hid ((S ++ [y]).length ≤ 2 * id) := Lib.hid (by have := hst.len; simp at this; simp [hS]; exact this)
      have HST := Lib.hid hst
      have HY9 : Hid (y < 9223372036854775808) := Lib.hid (by have := HRM.out; omega)
      have hcell : wr.cell? ⟨g, S.length, none⟩ = some (.int .i64 (y : Nat)) := hli.cell (by simp)
      have hcap := hli.cap
      obtain ⟨k, hk⟩ : ∃ k, k = S.length := ⟨_, rfl⟩
      obtain ⟨n, hn⟩ : ∃ n, n = (S ++ [y]).length := ⟨_, rfl⟩
      have HN : Hid (n = k + 1) := Lib.hid (by rw [hn, hk]; simp)
      have HKS := Lib.hid hk
      have HNS := Lib.hid hn
      rw [← hk] at hcell
      rw [← hn] at hcap ⊢
      have hn0 : (0 : Int) < (n : Int) := by have := HN.out; omega
      have hn1 : (n : Int) - 1 = (k : Int) := by have := HN.out; omega
      have hkn : (k : Int) < (n : Int) := by have := HN.out; omega
      have hkn' : k < n := by have := HN.out; omega
      have hkb : n ≤ 9223372036854775807 := by have h1 := HSL.out; have h2 := HID.out; have h3 := HRM.out; have h4 := HNS.out; have h5 := HN.out; omega
      have t7 := hli.tab.bx.cell (j := 7) rfl
      clear hli hst hS hmap y0 y1 y2 hk hn
      cases hky : K' y with
      | some v =>
        obtain ⟨-, -, ae, ce, ah, ch, cp, rfl, -, ⟨pa, pn, pc, rfl⟩⟩ := HLI.out.tab.ent y v hky
        have hl6 := (HLI.out.tab.km.hit HY9.out hky).1
        have HKY := Lib.hid hky
        clear hky
        go_wp2
        go_roundg (2 * ms T')
        case measure => have := ms_pop T' (y, f); omega
        case rel =>
          refine ⟨T', nk', K', rfl, ?_, HST.out.pop (by rw [HKY.out]; rfl)⟩
          have h := HLI.out.pop
          rw [← HKS.out] at h
          rw [← HSX.out]
          exact h.below (below_alloc _ _)
      | none =>
        have hl6 := HLI.out.tab.km.miss HY9.out hky
        have HKY := Lib.hid hky
        unfold entZ at hl6
        clear hky
        go_upto_region 9 with fail
        obtain ⟨w2, hw2⟩ : ∃ w2, w2 = wr.alloc (.cells #[.slice none 0 0, .slice none 0 0, .slice none 0 0] 116) := ⟨_, rfl⟩
        have HLI2 := Lib.hid (HLI.out.below (show Below wr.heap.size wr w2 by rw [hw2]; exact below_alloc _ _))
        rw [← hw2]
        obtain ⟨e, he⟩ : ∃ e, L[y - 1]? = some e := ⟨_, List.getElem?_eq_getElem (by have := HY.out; omega)⟩
        have HRU := Lib.hid (storeRule_any HLI2.out.tab.si y e HY.out.1 he)
        unfold ruV at HRU
        have HE := Lib.hid he
        have t0 := HLI2.out.tab.bx.cell (j := 0) rfl
        clear hw2 he hl6 hcell t7 HLI
        go_wp2_with fail
        refine HRU.out.mono ?_
        rintro r w3 ⟨rfl, hb3⟩
        have HLI3 := Lib.hid (HLI2.out.below hb3)
        clear hb3 t0 HRU HLI2
        go_upto_region 13 with fail
        obtain ⟨w4, hw4⟩ : ∃ w4, w4 = w3.alloc (.cells (ruC e.ru).toArray 67) := ⟨_, rfl⟩
        obtain ⟨b9, hb9⟩ : ∃ b9, b9 = w3.heap.size := ⟨_, rfl⟩
        have HX9 : Hid (BX w4 b9 (ruC e.ru)) := Lib.hid (by rw [hw4, hb9]; exact BX.alloc _ _ _)
        have HLI4 := Lib.hid (HLI3.out.below (show Below w3.heap.size w3 w4 by rw [hw4]; exact below_alloc _ _))
        have HGB : Hid (g < b9 ∧ b9 < w4.heap.size) := Lib.hid ⟨by rw [hb9]; exact (Row.block_lt HLI3.out.row rfl).1, HX9.out.lt⟩
        unfold ruC at hw4
        rw [← hw4, ← hb9]
        have HWF := Lib.hid (ruOk_wf (HG.out.ru _ _ HE.out) (by have := HRM.out; have := (List.getElem?_eq_some_iff.1 HE.out).1; omega))
        have HRE := Lib.hid (refs_any e.ru HWF.out.kl HWF.out.kr w4)
        unfold ruV at HRE
        have c0 := HX9.out.cell (j := 0) rfl
        have c1 := HX9.out.cell (j := 1) rfl
        have c2 := HX9.out.cell (j := 2) rfl
        have c3 := HX9.out.cell (j := 3) rfl
        have c4 := HX9.out.cell (j := 4) rfl
        clear hw4 hb9 HLI3
        go_wp2_with fail
        refine HRE.out.mono ?_
        rintro r w5 ⟨ra, rc, rfl, hrd, hb5, hra⟩
        have HLI5 := Lib.hid (HLI4.out.below hb5)
        have HX5 := Lib.hid (HX9.out.below hb5)
        have HRD := Lib.hid hrd
        have HRA := Lib.hid hra
        have HB5 := Lib.hid hb5
        obtain ⟨n2, hn2⟩ : ∃ n2, n2 = (refs e.ru).length := ⟨_, rfl⟩
        have HN2 := Lib.hid hn2
        rw [← hn2] at HRD ⊢
        clear hrd hb5 hra hn2 c0 c1 c2 c3 c4 HRE HLI4 HX9
        go_upto_region 14 with fail
        have HFG : Hid (g < w5.heap.size ∧ g < w4.heap.size) := Lib.hid ⟨(Row.block_lt HLI5.out.row rfl).1, by have := HGB.out; omega⟩
        have HRF : Hid (refsAt L y = refs e.ru) := Lib.hid (refsAt_get HE.out)
        have HRB : Hid (∀ z ∈ refs e.ru, 0 < z ∧ z ≤ L.length) := Lib.hid (fun z hz => by
          have h1 := refs_lt (HG.out.ru _ _ HE.out) z hz
          have h2 := (List.getElem?_eq_some_iff.1 HE.out).1
          omega)
        have hn29 : n2 ≤ 9223372036854775807 := by have := refs_len e.ru; have := HN2.out; omega
        go_loopg [5, 11, 59] n2 (fun gg sv rv iv wq => ∃ (q : Nat) (bb : Bool), q ≤ n2 ∧ gg = n2 - q ∧ iv = .int .i64 (q : Nat) ∧ rv = .bool bb ∧ bb = (unk K' ((refs e.ru).take q)).isEmpty ∧ LI m acc B bs most L x tb wb w wq K sv (S ++ [y] ++ unk K' ((refs e.ru).take q)) nk' K' ∧
          Fr (fun b => b = g) w5 wq ∧ (∀ z, sv.ownBlock = some z → z = g ∨ w5.heap.size ≤ z))
        case atStart =>
          refine ⟨0, true, by omega, rfl, rfl, rfl, rfl, ?_, Fr.refl _ _, fun z hz => .inl (by simpa [Value.ownBlock] using hz.symm)⟩
          have h := HLI5.out
          rw [← HNS.out] at h
          simpa [unk] using h
        case round =>
          obtain ⟨q, bb, hq, rfl, rfl, rfl, hbb, hliq, hfq, hob⟩ := hrel
          obtain ⟨ys, hys⟩ : ∃ ys, ys = unk K' ((refs e.ru).take q) := ⟨_, rfl⟩
          rw [← hys] at hbb hliq
          obtain ⟨a2, cq, rfl⟩ := hliq.form
          obtain ⟨N, hN⟩ : ∃ N, N = (S ++ [y] ++ ys).length := ⟨_, rfl⟩
          rw [← hN] at hob ⊢
          have HLQ := Lib.hid hliq
          have HNN := Lib.hid hN
          have HFQ := Lib.hid hfq
          have HOB := Lib.hid hob
          have HYS := Lib.hid hys
          have HBB := Lib.hid hbb
          have t7 := hliq.tab.bx.cell (j := 7) rfl
          clear hliq hfq hob hys hN hbb
          by_cases hlt : q < n2
          · have hr2 := HRD.out.frS' HFQ.out (fun z hz e2 => by have h1 := HRA.out z hz; have h2 := HFG.out; omega)
            obtain ⟨b1, o1, hra, hrc⟩ := hr2.cell q hlt
            obtain ⟨z, hz⟩ : ∃ z, z = (refs e.ru).getD q 0 := ⟨_, rfl⟩
            rw [refsI_get, ← hz] at hrc
            have hqr : q < (refs e.ru).length := by rw [← HN2.out]; exact hlt
            have HZB : Hid (0 < z ∧ z ≤ L.length) := Lib.hid (HRB.out z (by rw [hz]; exact getD_mem' hqr))
            have HZ9 : Hid (z < 9223372036854775808) := Lib.hid (by have := HRM.out; have := HZB.out; omega)
            have HZ := Lib.hid hz
            have HQR := Lib.hid hqr
            have HLT := Lib.hid hlt
            have hqi : (q : Int) < (n2 : Int) := by omega
            have HRAE := Lib.hid hra
            rw [hra]
            clear hr2 hz hqr hlt hra
            cases hkz : K' z with
            | some v =>
              obtain ⟨-, -, ae, ce, ah, ch, cp, rfl, -, ⟨pa, pn, pc, rfl⟩⟩ := HLQ.out.tab.ent z v hkz
              have hl6 := (HLQ.out.tab.km.hit HZ9.out hkz).1
              have HKZ := Lib.hid hkz
              clear hkz
              go_wp2
              rw [← HRAE.out]
              go_roundg (n2 - (q + 1))
              case measure => have := HLT.out; omega
              case rel =>
                have hu := unk_hit (K := K') HQR.out (by rw [← HZ.out, HKZ.out]; rfl)
                refine ⟨q + 1, bb, HLT.out, rfl, by go_num, rfl, by rw [hu, ← HYS.out]; exact HBB.out, ?_, HFQ.out.alloc _, HOB.out⟩
                rw [hu, ← HYS.out]
                have h := HLQ.out.below (below_alloc wr (.cells #[.slice ae m.next.length ce, .slice ah m.next.length ch, .slice pa pn pc] 116))
                rw [← HNN.out] at h
                exact h
            | none =>
              have hl6 := HLQ.out.tab.km.miss HZ9.out hkz
              unfold entZ at hl6
              have HKZ := Lib.hid hkz
              clear hkz
              go_upto_region 18 with fail
              obtain ⟨w6, hw6⟩ : ∃ w6, w6 = wr.alloc (.cells #[.slice none 0 0, .slice none 0 0, .slice none 0 0] 116) := ⟨_, rfl⟩
              have HB6 : Hid (Below wr.heap.size wr w6) := Lib.hid (by rw [hw6]; exact below_alloc _ _)
              have HLQ6 := Lib.hid (HLQ.out.below HB6.out)
              have HROW : Hid (Row w6 w.heap.size 39 1 (.slice a2 N cq) N (idsV (S ++ [y] ++ ys))) := Lib.hid (by rw [HNN.out]; exact HLQ6.out.row)
              have HFQ6 := Lib.hid (HFQ.out.trans (.of_below HB6.out))
              have HNB : Hid (N ≤ 2 * id + 2 ∧ id ≤ 1048576) := Lib.hid (by
                have h1 := HSL.out
                have h2 := unk_len K' ((refs e.ru).take q)
                have h3 := refs_len e.ru
                have h4 : ((refs e.ru).take q).length ≤ (refs e.ru).length := by rw [List.length_take]; omega
                have h5 := HNN.out
                rw [List.length_append] at h5
                rw [← HYS.out] at h2
                have h6 := HRM.out
                have h7 := HID.out
                omega)
              rw [← hw6]
              clear hw6 hl6 t7 hrc
              go_wp2_with (at_builtin; refine app_row_at (.tmp 74) (.tmp 76) EIDG rfl rfl w.heap.size (.slice a2 N cq) N _ rfl (Row.below HROW.out (below_alloc _ _)) _ 1 1 [.int .i64 (z : Nat)] rfl (RdG.lits w6 1 39 1 [.int .i64 (z : Nat)] rfl) (by simp [Value.oneCell']) (by have := HNB.out; omega) (by decide) (by have h1 := HLQ6.out.fr.size; simp; omega) ?_; intro a8 c8 w8 hr8 hg8 hat8; have HR8 := Lib.hid hr8; have HG8 := Lib.hid hg8; have HA8 := Lib.hid hat8; clear hr8 hg8 hat8)
              rw [← HRAE.out]
              go_roundg (n2 - (q + 1))
              case measure => have := HLT.out; omega
              case rel =>
                have hu := unk_miss (K := K') HQR.out (by rw [← HZ.out]; exact HKZ.out)
                rw [← HZ.out, ← HYS.out] at hu
                have hwA := below_alloc w6 (.cells [Value.int .i64 (z : Nat)].toArray 39)
                have hLA := HLQ6.out.below hwA
                rw [← HNN.out] at hLA
                have hR := HR8.out
                have hL8 := hLA.app (by rw [← HNN.out]; exact hR) HG8.out HA8.out
                refine ⟨q + 1, false, HLT.out, rfl, by go_num, rfl, by rw [hu]; simp, ?_, ?_, fun z' hz' => ?_⟩
                · rw [hu, ← List.append_assoc]
                  exact hL8
                · refine (HFQ6.out.trans (.of_below hwA)).then (Fr.of_grown HG8.out (S := fun b => (Value.slice a2 N cq).ownBlock = some b) (fun k hk => hk)) (fun i hi => ?_)
                  rcases HOB.out i hi with e2 | e2
                  · exact .inl e2
                  · exact .inr e2
                · rcases HA8.out with e2 | e2
                  · rw [e2] at hz'; exact HOB.out z' hz'
                  · rw [e2] at hz'
                    have h1 := (HFQ6.out.trans (.of_below hwA)).size
                    cases hz'
                    exact .inr h1
          · obtain rfl : q = n2 := by omega
            have HYA : Hid (ys = unk K' (refs e.ru)) := Lib.hid (by rw [HYS.out, HN2.out, List.take_length])
            have HXQ := Lib.hid (HX5.out.fr HFQ.out (fun e2 => by have := HGB.out; omega))
            by_cases hy0 : ys = []
            · subst hy0
              obtain rfl : bb = true := HBB.out
              have hNn : N = n := by rw [HNN.out, HNS.out]; simp
              subst hNn
              have HLR : Hid (LI m acc B bs most L x tb wb w wr K (.slice a2 (S ++ [y]).length cq) (S ++ [y]) nk' K') := Lib.hid (by have h := HLQ.out; rw [List.append_nil] at h; exact h)
              obtain ⟨g2, rfl⟩ := HLR.out.addr (by simp)
              have HKA := Lib.hid (show ∀ z ∈ refsAt L y, (K' z).isSome = true from fun z hz => by
                rw [HRF.out] at hz
                cases hk : K' z with
                | some v => rfl
                | none =>
                  have : z ∈ unk K' (refs e.ru) := mem_unk.2 ⟨hz, hk⟩
                  rw [← HYA.out] at this
                  simp at this)
              have HLD := Lib.hid (HLR.out.below (Below.refl _ _).drew)
              have HEN := Lib.hid (entry_any HLD.out.tab HV.out HY.out.1 HE.out HKA.out (by have h1 := HST.out.sh T'.length (y, f) (by simp); have h2 := HSH.out; simp only at h1; omega))
              unfold ruV at HEN
              have HCC := Lib.hid (fun (wx : World) (hb : Below wr.heap.size wr wx) => And.intro ((HLR.out.below hb).tab.bx.cell (j := 7) rfl) (And.intro ((HXQ.out.below hb).cell (j := 0) rfl) (And.intro ((HXQ.out.below hb).cell (j := 1) rfl) (And.intro ((HXQ.out.below hb).cell (j := 2) rfl) (And.intro ((HXQ.out.below hb).cell (j := 3) rfl) ((HXQ.out.below hb).cell (j := 4) rfl))))))
              clear t7
              go_upto_region 22 with fail
              go_region_held3 (fun wx => wx.cell? ⟨tb, 7, none⟩ = some (.map (some x.bk)) ∧ wx.cell? ⟨b9, 0, none⟩ = some (.int .i64 (e.ru.kind : Nat)) ∧ wx.cell? ⟨b9, 1, none⟩ = some (.int .u8 (e.ru.letter : Nat)) ∧ wx.cell? ⟨b9, 2, none⟩ = some (.int .i64 (e.ru.left : Nat)) ∧ wx.cell? ⟨b9, 3, none⟩ = some (.int .i64 (e.ru.right : Nat)) ∧ wx.cell? ⟨b9, 4, none⟩ = some (.int .i64 (e.ru.times : Nat)))
                (first | exact HCC.out _ (Below.refl _ _).drew | exact HCC.out _ HB9.out | exact HC10.out)
                (first | (go_at_call 63; refine HEN.out.mono ?_; rintro r w9 ⟨ae, ce, ah, ch, cp, rfl, hnew, hef, hb9, hsl⟩; have HB9 : Hid (Below wr.heap.size wr w9) := Lib.hid ((Below.refl _ _).drew.trans hb9); have HL9 := Lib.hid (HLR.out.below HB9.out); have HNK : Hid (nk' < 9223372036854775807) := Lib.hid (by have h1 := HLR.out.tab.nk; have h2 := cntK_le K' L.length; have h3 := HRM.out; omega); obtain ⟨w10, hrun, hkm, hg10⟩ := HL9.out.tab.km.put (.agg #[.slice ae m.next.length ce, .slice ah m.next.length ch, cp]) HY9.out HNK.out; have HC10 := Lib.hid (show w10.cell? ⟨tb, 7, none⟩ = some (.map (some x.bk)) ∧ w10.cell? ⟨b9, 0, none⟩ = some (.int .i64 (e.ru.kind : Nat)) ∧ w10.cell? ⟨b9, 1, none⟩ = some (.int .u8 (e.ru.letter : Nat)) ∧ w10.cell? ⟨b9, 2, none⟩ = some (.int .i64 (e.ru.left : Nat)) ∧ w10.cell? ⟨b9, 3, none⟩ = some (.int .i64 (e.ru.right : Nat)) ∧ w10.cell? ⟨b9, 4, none⟩ = some (.int .i64 (e.ru.times : Nat)) from by have hk : ∀ {a : Addr} {v : Value}, w9.cell? a = some v → w10.cell? a = some v := (fun {a v} hc => hg10.cell hc (fun e2 => HL9.out.tab.km.cellNe hc (Option.some.inj e2))); have h9 := HCC.out w9 HB9.out; exact ⟨hk h9.1, hk h9.2.1, hk h9.2.2.1, hk h9.2.2.2.1, hk h9.2.2.2.2.1, hk h9.2.2.2.2.2⟩); have HNW := Lib.hid hnew; have HEF := Lib.hid hef; have HSL2 := Lib.hid hsl; have HKM := Lib.hid hkm; have HG10 := Lib.hid hg10; clear hnew hef hb9 hsl hkm hg10))
              have HL10 := Lib.hid (HL9.out.put HY.out.1 HY.out.2 HKY.out HEF.out HSL2.out (fun z hz e2 => by have h1 := HNW.out z hz; have h2 := (Row.block_lt HLR.out.row e2).1; have h3 : wr.drew.heap.size = wr.heap.size := rfl; omega) HKM.out HG10.out)
              clear hrun
              have hcq := HLR.out.cap
              rw [← HNS.out] at hcq
              go_wp2
              go_roundg (2 * ms T')
              case measure => have := ms_pop T' (y, f); omega
              case rel =>
                have h := HL10.out.pop
                rw [← HKS.out] at h
                refine ⟨T', nk' + 1, (fun j => if j = y then some (.agg #[.slice ae m.next.length ce, .slice ah m.next.length ch, cp]) else K' j), rfl, ?_, (HST.out.more (fun z hz => ?_)).pop (by show (if y = y then _ else _ : Option Value).isSome = true; rw [if_pos rfl]; rfl)⟩
                · rw [← HSX.out]; exact h
                · by_cases e2 : z = y
                  · simp [e2]
                  · simp only [if_neg e2]; exact hz
            · obtain rfl : bb = false := by
                have h := HBB.out
                rw [h]
                cases ys with
                | nil => exact absurd rfl hy0
                | cons a r => rfl
              have hf : f = false := by
                cases f with
                | false => rfl
                | true =>
                  exfalso
                  refine hy0 ?_
                  rw [HYA.out]
                  refine List.eq_nil_iff_forall_not_mem.2 fun z hz => ?_
                  obtain ⟨h1, h2⟩ := mem_unk.1 hz
                  have := HST.out.ready z (by rw [HRF.out]; exact h1)
                  rw [h2] at this; cases this
              subst hf
              have HPU := Lib.hid (HST.out.push HG.out ys (fun z hz => by rw [HYA.out] at hz; rw [HRF.out]; exact (mem_unk.1 hz).1) (by have h1 := unk_len K' (refs e.ru); have h2 := refs_len e.ru; rw [← HYA.out] at h1; omega) (fun z hz => by
                rw [HRF.out] at hz
                cases hk : K' z with
                | some v => exact .inl rfl
                | none => exact .inr (by rw [HYA.out]; exact mem_unk.2 ⟨hz, hk⟩)))
              clear hy0 t7
              go_wp2
              go_roundg (2 * ms (T' ++ [(y, true)] ++ ys.map (·, false)))
              case measure => have := HPU.out.2; omega
              case rel =>
                refine ⟨_, nk', K', rfl, ?_, HPU.out.1⟩
                have h := HLQ.out
                rw [← HNN.out] at h
                have e2 : (T' ++ [(y, true)] ++ ys.map (·, false)).map (·.1) = S ++ [y] ++ ys := by
                  rw [HSX.out]; simp [Function.comp_def]
                rw [e2]
                exact h

end Go.Proofs.Ytflgmodofemifaa

/- effect, End, Hits of the table. -/
namespace Go.Proofs.Ytflgmodofemifaa
open Go.RowKit Go.Maps
set_option linter.unusedVariables false
set_option linter.unusedSimpArgs false

theorem Rd.box {w : World} {k : IntKind} {a : Option Addr} {n b : Nat} {l : List Int} {cs vs : List Value} (h : Rd w k a n l) (hb : BX w b cs) (hs : ∀ c ∈ cs, IsSl c) (hl : vs.length = cs.length) : Rd (w.setCells b 0 vs) k a n l :=
  ⟨h.len, h.max, fun i hi => by
    obtain ⟨b1, off, ha, hc⟩ := h.cell i hi
    refine ⟨b1, off, ha, ?_⟩
    by_cases e : b1 = b
    · subst e
      by_cases e2 : off + i < cs.length
      · have h1 := hb.cell (List.getElem?_eq_getElem e2)
        rw [hc] at h1
        obtain ⟨x, y, z, h2⟩ := hs _ (List.getElem_mem e2)
        rw [h2] at h1; cases h1
      · rw [cell_setCells_out _ _ _ _ _ (.inr (by omega))]; exact hc
    · exact (frSetCells b vs 0 w).cell hc e, h.wf⟩
theorem TB.box {m acc B bs most L x w tb nk K wb} (h : TB m acc B bs most L x w tb nk K) (hs : TS m acc B bs most L x tb wb) (hf : Fr (fun b => b = x.bk) wb w) {b : Nat} {cs vs : List Value} (hb : BX w b cs) (hsl : ∀ c ∈ cs, IsSl c) (hl : vs.length = cs.length) (hwb : wb.heap.size ≤ b) :
    TB m acc B bs most L x (w.setCells b 0 vs) tb nk K := by
  have hg := frSetCells b vs 0 w
  have hf' : Fr (fun b => b = x.bk) wb (w.setCells b 0 vs) := hf.then hg (fun i hi => .inr (by rw [hi]; exact hwb))
  refine ⟨hs.bx' hf', hs.rd' hf', hs.hr' hf', hs.si' hf', h.km.fr hg (fun e => by have := hs.lt; omega), h.ok, fun id v hv => ?_, h.nk, wb, hs, hf'⟩
  obtain ⟨h0, h1, ae, ce, ah, ch, cp, rfl, he, hcp⟩ := h.ent id v hv
  exact ⟨h0, h1, ae, ce, ah, ch, cp, rfl, ⟨he.e.box hb hsl hl, he.h.box hb hsl hl⟩, hcp⟩

/-- what effect hands back -/
def EffPost (m : Mc) (acc : List Bool) (B bs most : Nat) (L : List En) (x : Tb) (tb id : Nat) (w : World) (e : Ending) (w' : World) : Prop :=
  ∃ ae ce ah ch nk K, e = .returned (.tuple #[.agg #[.slice ae m.next.length ce, .slice ah m.next.length ch], .nilIface]) ∧ EfR m w' ae ah (tx L id) ∧ TB m acc B bs most L x w' tb nk K ∧ Fr (fun b => b = x.bk) w w'

set_option maxRecDepth 100000 in
set_option maxHeartbeats 2000000 in
theorem effect_any {m acc B bs most L x w tb nk K} (h : TB m acc B bs most L x w tb nk K) (hv : Valid 0 m.cls m.next acc) (id q : Nat) (h0 : 0 < id) (hid : id ≤ L.length) (hq : q < m.next.length) (hsh : 8 * (tx L id).length ≤ ML) :
    Calls Try.prog 30 #[.pointer (some ⟨tb, 0, none⟩), .int .i64 (id : Nat), .int .i64 (q : Nat)] w (EffPost m acc B bs most L x tb id w) := by
  obtain ⟨w1, hw1⟩ : ∃ w1, w1 = w.alloc (.cells [.slice none 0 0, .slice none 0 0].toArray 89) := ⟨_, rfl⟩
  have HB1 := Lib.hid (show Below w.heap.size w w1 by rw [hw1]; exact below_alloc _ _)
  have HX := Lib.hid (show BX w1 w.heap.size [.slice none 0 0, .slice none 0 0] by rw [hw1]; exact BX.alloc _ _ _)
  have HW1 := Lib.hid hw1
  have HT := Lib.hid (h.below HB1.out)
  obtain ⟨wb, hts, hfb⟩ := h.base
  have HTS := Lib.hid hts
  have HFB := Lib.hid hfb
  have HCK := Lib.hid (tabCheck_any HT.out id q hid hq)
  have HLE := Lib.hid (learn_any HT.out hv id h0 hid hsh)
  have HRM := Lib.hid h.si.room
  have HID := Lib.hid hid
  have hne : ∀ w, (binOp .neq 34 .nilIface .nilIface).run Try.prog w = .ok (.bool false) w := fun w => by kernel_rfl
  obtain ⟨n, hn⟩ : ∃ n, n = m.next.length := ⟨_, rfl⟩
  have HN := Lib.hid hn
  clear h hw1 hts hfb hid hv h0 hq hn hsh
  go_enter Try.func30, Try.ntmps30
  go_upto_region 1 with fail
  rw [← HW1.out]
  go_wp2_with fail
  refine HCK.out.mono ?_
  rintro e w2 ⟨rfl, rfl⟩
  go_wp2_with fail
  refine HLE.out.mono ?_
  rintro e w3 ⟨rfl, nk', K', ht3, hk3, -, hf3⟩
  obtain ⟨v, hv3⟩ := Option.isSome_iff_exists.1 hk3
  obtain ⟨-, -, ae, ce, ah, ch, cp, rfl, hef, -⟩ := ht3.ent id v hv3
  have hl := (ht3.km.hit (by have := HRM.out; have := HID.out; omega) hv3).2
  have hff := fun w => ent_field (.slice ae m.next.length ce) (.slice ah m.next.length ch) cp w
  rw [← HN.out] at hl hff
  have t7 := ht3.bx.cell (j := 7) rfl
  have HX3 := Lib.hid (HX.out.fr hf3 (fun e => by have h1 := HTS.out.lt; have h2 := HFB.out.size; omega))
  have HF3 := Lib.hid hf3
  have HT3 := Lib.hid ht3
  have HEF := Lib.hid hef
  have hth := HX3.out.there 0 2 (by simp)
  clear hv3 hk3 hef hf3 ht3
  go_wp2_with (refine wpList_store_mid rfl 89 _ _ rfl w.heap.size 0 #[.slice ae n ce, .slice ah n ch] rfl rfl hth ef_info (by simp [Value.oneCell']) ?_)
  have hz := HX3.out.putAll [.slice ae n ce, .slice ah n ch] rfl
  refine bodyPost_ret (res_cell_tmp rfl _ _ w.heap.size _ _ rfl hz.rng Try.underlying89 rfl ef_info) rfl ?_
  have hsl : ∀ c ∈ [Value.slice none 0 0, Value.slice none 0 0], IsSl c := fun c hc => by
    simp only [List.mem_cons, List.not_mem_nil, or_false, or_self] at hc
    exact ⟨none, 0, 0, hc⟩
  have hfb3 := (HFB.out.trans (.of_below HB1.out)).trans HF3.out
  refine ⟨ae, ce, ah, ch, nk', K', by rw [← HN.out]; rfl, ⟨HEF.out.e.box HX3.out hsl rfl, HEF.out.h.box HX3.out hsl rfl⟩, HT3.out.box HTS.out hfb3 HX3.out hsl rfl HFB.out.size, ?_⟩
  have hf := (Fr.of_below (S := fun b => b = x.bk) HB1.out).trans HF3.out
  exact hf.then (frSetCells w.heap.size _ 0 w3) (fun i hi => .inr (by rw [hi]; exact Nat.le_refl _))

end Go.Proofs.Ytflgmodofemifaa
