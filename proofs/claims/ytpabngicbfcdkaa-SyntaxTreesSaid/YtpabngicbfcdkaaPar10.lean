/-
  The tokens' texts: bytes, of bounded length.
-/
import Derived.Test.YtpabngicbfcdkaaPar9
import Derived.Test.YtpabngicbfcdkaaDeep
namespace Go.Proofs.Ytpabngicbfcdkaa
open Go.RowKit
set_option linter.unusedVariables false
set_option linter.unusedSimpArgs false

theorem quoGo_ok : ∀ (m : Nat) (acc l b r : List Nat), l.length ≤ m → quoGo acc l = some (b, r) → (∀ c ∈ acc, c < 256) → (∀ c ∈ l, c < 256) → (∀ c ∈ b, c < 256) ∧ b.length ≤ acc.length + l.length
  | m, acc, [], b, r, _, h, _, _ => by rw [quo_nil] at h; cases h
  | 0, acc, c :: l, b, r, hm, h, _, _ => by simp at hm
  | m + 1, acc, c :: l, b, r, hm, h, ha, hl => by
    have hc := hl c (List.mem_cons_self ..)
    have hl' : ∀ x ∈ l, x < 256 := fun x hx => hl x (List.mem_cons_of_mem _ hx)
    have snoc : ∀ x, x < 256 → ∀ y ∈ acc ++ [x], y < 256 := fun x hx y hy => by
      rcases List.mem_append.1 hy with hy | hy
      · exact ha y hy
      · rcases List.mem_cons.1 hy with rfl | hy
        · exact hx
        · cases hy
    by_cases e1 : c = 34
    · subst e1; rw [quo_end] at h; cases h; exact ⟨ha, by omega⟩
    · by_cases e2 : c = 92
      · subst e2
        cases he : escP l with
        | none => rw [quo_escn _ he] at h; cases h
        | some v =>
          obtain ⟨x, n⟩ := v
          rw [quo_esc _ he] at h
          have h2 := quoGo_ok m _ _ _ _ (by simp at hm ⊢; omega) h (snoc x (escP_lt hl' he)) (fun y hy => hl' y (List.mem_of_mem_drop hy))
          refine ⟨h2.1, ?_⟩
          have := h2.2
          simp at this ⊢; omega
      · by_cases e3 : c < 32 ∨ c = 127
        · rw [quo_bad _ _ e1 e2 e3] at h; cases h
        · rw [quo_chr _ _ e1 e2 e3] at h
          have h2 := quoGo_ok m _ _ _ _ (by simpa using hm) h (snoc c hc) hl'
          refine ⟨h2.1, ?_⟩
          have := h2.2
          simp at this ⊢; omega
theorem nextP_ok {l : List Nat} {t : Nat × List Nat × Nat} {n : Nat} (h : nextP l = some (t, n)) (hl : ∀ c ∈ l, c < 256) : (∀ c ∈ t.2.1, c < 256) ∧ t.2.1.length ≤ l.length := by
  cases l with
  | nil => cases h
  | cons c r =>
    have hr : ∀ x ∈ r, x < 256 := fun x hx => hl x (List.mem_cons_of_mem _ hx)
    unfold nextP at h
    simp only at h
    split at h
    · cases hv : valP ((c :: r).take (spn digB (c :: r))) with
      | none => rw [hv] at h; cases h
      | some v => rw [hv] at h; cases h; exact ⟨fun x hx => (by cases hx), by simp⟩
    · split at h
      · cases hv : quoP (c :: r) with
        | none => rw [hv] at h; cases h
        | some v =>
          obtain ⟨b, m⟩ := v
          rw [hv] at h; cases h
          unfold quoP at hv
          cases hg : quoGo [] ((c :: r).drop 1) with
          | none => rw [hg] at hv; cases hv
          | some u =>
            obtain ⟨b2, q⟩ := u
            rw [hg] at hv; cases hv
            have := quoGo_ok _ _ _ _ _ (Nat.le_refl _) hg (fun x hx => by cases hx) (fun x hx => hl x (List.mem_of_mem_drop hx))
            exact ⟨this.1, by have := this.2; simp at this ⊢; omega⟩
      · split at h
        · split at h
          · cases h
          · cases h
            exact ⟨fun x hx => hr x (List.mem_of_mem_take hx), by simp; omega⟩
        · split at h
          · cases h
            exact ⟨fun x hx => hl x (List.mem_of_mem_take hx), by rw [List.length_take]; exact Nat.min_le_right _ _⟩
          · unfold sgnP at h
            split at h
            · split at h
              · cases h; exact ⟨fun x hx => by simp at hx; rw [hx]; exact hl _ (List.mem_cons_self ..), by simp⟩
              · cases h
            · rename_i d q
              split at h
              · cases h
                exact ⟨fun x hx => by
                  rcases List.mem_cons.1 hx with rfl | hx
                  · exact hl _ (List.mem_cons_self ..)
                  · simp at hx; rw [hx]; exact hr _ (List.mem_cons_self ..), by simp⟩
              · split at h
                · cases h; exact ⟨fun x hx => by simp at hx; rw [hx]; exact hl _ (List.mem_cons_self ..), by simp⟩
                · cases h
theorem toks_ok : ∀ (m : Nat) (acc : List Tk) (i : Nat) (l : List Nat) (ts : List Tk) (B : Nat), l.length ≤ m → l.length ≤ B → toksGo acc i l = some ts → (∀ t ∈ acc, (∀ c ∈ t.1.2.1, c < 256) ∧ t.1.2.1.length ≤ B) → (∀ c ∈ l, c < 256) → ∀ t ∈ ts, (∀ c ∈ t.1.2.1, c < 256) ∧ t.1.2.1.length ≤ B
  | m, acc, i, [], ts, B, _, _, h, ha, _ => by rw [toks_nil] at h; cases h; exact ha
  | 0, acc, i, c :: l, ts, B, hm, _, h, _, _ => by simp at hm
  | m + 1, acc, i, c :: l, ts, B, hm, hB, h, ha, hl => by
    have hl' : ∀ x ∈ l, x < 256 := fun x hx => hl x (List.mem_cons_of_mem _ hx)
    by_cases hb : blankB c = true
    · rw [toks_blank _ _ _ hb] at h
      exact toks_ok m acc (i + 1) l ts B (by simpa using hm) (by simp at hB; omega) h ha hl'
    · have hb : blankB c = false := by simpa using hb
      cases hn : nextP (c :: l) with
      | none => rw [toks_none _ _ hb hn] at h; cases h
      | some v =>
        obtain ⟨t, n⟩ := v
        rw [toks_some _ _ hb hn] at h
        have hp := nextP_pos hn
        have ho := nextP_ok hn hl
        refine toks_ok m _ _ _ ts B (by simp at hm ⊢; omega) (by simp at hB ⊢; omega) h (fun x hx => ?_) (fun x hx => hl x (List.mem_of_mem_drop hx))
        rcases List.mem_append.1 hx with hx | hx
        · exact ha x hx
        · rcases List.mem_cons.1 hx with rfl | hx
          · exact ⟨ho.1, Nat.le_trans ho.2 hB⟩
          · cases hx
theorem toksP_ok {s : ByteArray} {ts : List Tk} (h : toksP (ns s) = some ts) (hs : s.size ≤ 4096) : ∀ t ∈ ts, (∀ c ∈ t.1.2.1, c < 256) ∧ t.1.2.1.length ≤ 1000000 := by
  have := toks_ok _ [] 0 (ns s) ts 4096 (Nat.le_refl _) (by rw [ns_len]; exact hs) h (fun t ht => by cases ht) (ns_lt s)
  exact fun t ht => ⟨(this t ht).1, by have := (this t ht).2; omega⟩

theorem toks_len : ∀ (m : Nat) (acc : List Tk) (i : Nat) (l : List Nat) (ts : List Tk), l.length ≤ m → toksGo acc i l = some ts → ts.length ≤ acc.length + l.length
  | m, acc, i, [], ts, _, h => by rw [toks_nil] at h; cases h; simp
  | 0, acc, i, c :: l, ts, hm, h => by simp at hm
  | m + 1, acc, i, c :: l, ts, hm, h => by
    by_cases hb : blankB c = true
    · rw [toks_blank _ _ _ hb] at h
      have := toks_len m acc (i + 1) l ts (by simpa using hm) h
      simp; omega
    · have hb : blankB c = false := by simpa using hb
      cases hn : nextP (c :: l) with
      | none => rw [toks_none _ _ hb hn] at h; cases h
      | some v =>
        obtain ⟨t, n⟩ := v
        rw [toks_some _ _ hb hn] at h
        have hp := nextP_pos hn
        have := toks_len m _ _ _ ts (by simp at hm ⊢; omega) h
        simp at this hp ⊢; omega

/-- what Parse answers: a code, or a tree -/
def parseP (s : ByteArray) : Nat × Ex :=
  if 4096 < s.size then (9, eE) else match toksP (ns s) with
  | none => (4, eE)
  | some ts => match runJ (.lev 1 ts) with
    | some (t, []) => if 64 < t.depth then (9, eE) else (0, t)
    | _ => (4, eE)

/-- an error's value -/
def errN (k : Nat) : Value := if k = 0 then .nilIface else .iface 47 (.int .i64 k)
def ParsePost (w : World) (s : ByteArray) (e : Ending) (w' : World) : Prop :=
  ∃ aa cc, e = .returned (.tuple #[exV (parseP s).2 aa cc, errN (parseP s).1]) ∧ (parseP s).2.args.length ≤ cc ∧ RdA (fun i => w.heap.size ≤ i) w' (parseP s).2.args aa ∧ Below w.heap.size w w'

set_option maxRecDepth 100000 in
set_option maxHeartbeats 1500000 in
/-- Parse where Tokens fails -/
theorem parse_bad (s : ByteArray) (w : World) (k : Nat) (hk : (k = 4 ∨ k = 9)) (hpp : parseP s = (k, eE))
    (HT : ∀ w1, Calls Try.prog 7 #[.string s] w1 fun e w' => e = .returned (.tuple #[.slice none 0 0, .iface 47 (.int .i64 k)]) ∧ Below w1.heap.size w1 w') : Calls Try.prog 11 #[.string s] w (ParsePost w s) := by
  obtain ⟨w1, hw1⟩ : ∃ w1, w1 = w.alloc (.cells #[.int .i64 0, .string ⟨#[]⟩, .int .i64 0, .slice none 0 0] 38) := ⟨_, rfl⟩
  have HB1 : Hid (Below w.heap.size w w1) := Lib.hid (by rw [hw1]; exact below_alloc _ _)
  have HTC : Hid (EC w1 w.heap.size eE none 0) := Lib.hid (by rw [hw1]; exact alloc_ec w eE none 0 _)
  have HT1 := Lib.hid (HT w1)
  have HW1 := Lib.hid hw1
  have HPP := Lib.hid hpp
  have HK := Lib.hid hk
  have hne : ∀ w, (binOp .neq 24 (.iface 47 (.int .i64 k)) .nilIface).run Try.prog w = .ok (.bool true) w := fun w => by kernel_rfl
  clear hw1 HT hpp hk
  go_enter Try.func11, Try.ntmps11
  go_upto_region 1 with fail
  rw [← HW1.out]
  go_wp2_with (go_at_call 7; refine HT1.out.mono ?_; rintro e w2 ⟨rfl, hb2⟩; have HB2 := Lib.hid hb2; obtain ⟨y0, y1, y2, y3, yf⟩ := HTC.out.below hb2; have yf0 := yf 0; have yf1 := yf 1; have yf2 := yf 2; have yf3 := yf 3; clear yf hb2)
  refine bodyPost_ret (v := .tuple #[.agg #[.int .i64 0, .string ⟨#[]⟩, .int .i64 0, .slice none 0 0], .iface 47 (.int .i64 k)]) (by simp [results, Try.results11, go_sem, y0, y1, y2, y3]; try rfl) rfl ⟨none, 0, ?_, by rw [HPP.out]; simp [eE, Ex.args], by rw [HPP.out]; exact .inl rfl, ?_⟩
  · rw [HPP.out]
    have : errN k = .iface 47 (.int .i64 k) := by unfold errN; rw [if_neg (by have := HK.out; omega)]
    simp only [this]; rfl
  · exact (bthen HB1.out HB2.out).trans ((fr4 w2 w.heap.size (.int .i64 0) (.string ⟨#[]⟩) (.int .i64 0) (.slice none 0 0)).below (fun i e => by omega) (bthen HB1.out HB2.out).size)

set_option maxRecDepth 100000 in
set_option maxHeartbeats 1500000 in
/-- Parse where Tokens succeeds -/
theorem parse_toks (s : ByteArray) (w : World) (ts : List Tk) (hs : s.size ≤ 4096) (hts : toksP (ns s) = some ts) (hl : ts.length ≤ 4096) : Calls Try.prog 11 #[.string s] w (ParsePost w s) := by
  obtain ⟨w1, hw1⟩ : ∃ w1, w1 = w.alloc (.cells #[.int .i64 0, .string ⟨#[]⟩, .int .i64 0, .slice none 0 0] 38) := ⟨_, rfl⟩
  have HB1 : Hid (Below w.heap.size w w1) := Lib.hid (by rw [hw1]; exact below_alloc _ _)
  have HS1 : Hid (w1.heap.size = w.heap.size + 1) := Lib.hid (by rw [hw1]; simp)
  have HTC : Hid (EC w1 w.heap.size eE none 0) := Lib.hid (by rw [hw1]; exact alloc_ec w eE none 0 _)
  have HT : Hid (Calls Try.prog 7 #[.string s] w1 fun e w' => ∃ a c, e = .returned (.tuple #[.slice a ts.length c, .nilIface]) ∧ Row w' w1.heap.size 33 4 (.slice a ts.length c) ts.length (cellsT ts) ∧ Below w1.heap.size w1 w') := Lib.hid ((tokens_any s w1 (by omega)).mono (fun e w' h => by
    obtain ⟨h1, h2⟩ := h
    rcases h1 with ⟨h, _⟩ | ⟨_, h, _⟩ | ⟨_, ts', a, c, h, _, he, hr⟩
    · omega
    · rw [hts] at h; cases h
    · rw [hts] at h; cases h; exact ⟨a, c, he, hr, h2⟩))
  have HOK := Lib.hid (toksP_ok hts hs)
  have HTS := Lib.hid hts
  have HS := Lib.hid hs
  have HL := Lib.hid hl
  have HW1 := Lib.hid hw1
  clear hs hts hl hw1
  go_enter Try.func11, Try.ntmps11
  go_upto_region 1 with fail
  rw [← HW1.out]
  go_upto_region 5 with (go_at_call 7; refine HT.out.mono ?_; rintro e w2 ⟨a, c, rfl, hrow, hb2⟩)
  obtain ⟨w3, hw3⟩ : ∃ w3, w3 = w2.alloc (.cells #[.slice a ts.length c, .bool false] 61) := ⟨_, rfl⟩
  rw [← hw3]
  have hb3 : Below w2.heap.size w2 w3 := by rw [hw3]; exact below_alloc _ _
  obtain ⟨pb, hpb⟩ : ∃ pb, pb = w2.heap.size := ⟨_, rfl⟩
  have HPS : Hid (PS w3 pb a c ts false) := Lib.hid (by
    refine ⟨by rw [hw3, hpb]; simp, by rw [hw3, hpb]; simp, fun j => by rw [hw3, hpb]; simp, (Row.rdG hrow).below hb3, fun x hx => ?_, Row.cap hrow, by have := HL.out; omega, fun t ht => (HOK.out t ht).1, fun t ht => (HOK.out t ht).2⟩
    subst hx
    have := (Row.block_lt hrow (g := x.block) rfl).1
    omega)
  have HB3 : Hid (Below w1.heap.size w1 w3) := Lib.hid (bthen hb2 hb3)
  have HQ := Lib.hid (query_any w3 pb a c ts false HPS.out)
  have HPB : Hid (w.heap.size < pb) := Lib.hid (by have h1 := hb2.size; have h2 := HS1.out; omega)
  rw [← hpb]
  clear hw3 hb3 hpb hrow hb2
  go_upto_region 6 with (go_at_call 22; refine HQ.out.mono ?_; rintro e9 w4 ⟨t6, v6, a6, c6, ts6, bad6, rfl, ⟨aa6, cc6, rfl, hcc6, hra6⟩, hps6, hlen6, hf6, hb6, hb6'⟩; simp only [exV])
  obtain ⟨w5, hw5⟩ : ∃ w5, w5 = w4.alloc (.cells #[.int .i64 t6.kind, .string t6.text, .int .i64 t6.num, .slice aa6 t6.args.length cc6] 38) := ⟨_, rfl⟩
  rw [← hw5]
  have HB5 : Hid (Below w4.heap.size w4 w5) := Lib.hid (by rw [hw5]; exact below_alloc _ _)
  obtain ⟨be, hbe⟩ : ∃ be, be = w4.heap.size := ⟨_, rfl⟩
  have HEC5 : Hid (EC w5 be t6 aa6 cc6) := Lib.hid (by rw [hw5, hbe]; exact alloc_ec _ _ _ _ _)
  have HRP : Hid (RdP (fun i => w3.heap.size ≤ i) w5 t6 ⟨be, 0, none⟩) := Lib.hid ⟨rfl, RdE.mk' (a := aa6) (c := cc6) (by have := hf6.size; show w3.heap.size ≤ be; omega) ⟨#[.int .i64 t6.kind, .string t6.text, .int .i64 t6.num, .slice aa6 t6.args.length cc6], _, by rw [hw5, hbe]; exact heap_new_at rfl, rfl, rfl, rfl, rfl⟩ hcc6 (hra6.below HB5.out)⟩
  have HPS5 := Lib.hid (hps6.below HB5.out)
  have HF5 : Hid (Fr (fun x => x = pb) w3 w5) := Lib.hid (hf6.trans (.of_below HB5.out))
  have HBW3 : Hid (Below w.heap.size w w3) := Lib.hid (bthen HB1.out HB3.out)
  have HBW5 : Hid (Below w.heap.size w w5) := Lib.hid (HBW3.out.trans (HF5.out.below (fun i e => by have := HPB.out; omega) HBW3.out.size))
  have HTC5 : Hid (EC w5 w.heap.size eE none 0) := Lib.hid ((HTC.out.below HB3.out).fr HF5.out (by have := HPB.out; omega))
  have HRA5 : Hid (RdA (fun i => w3.heap.size ≤ i) w5 t6.args aa6) := Lib.hid (hra6.below HB5.out)
  have HCC := Lib.hid hcc6
  have HK := Lib.hid (hb6' (by first | rfl | trivial))
  have hc1 := HPS5.out.c1
  rw [← hbe]
  have HW35 : Hid (w.heap.size < w3.heap.size) := Lib.hid (by have h1 := HB3.out.size; have h2 := HS1.out; omega)
  clear hw5 hbe hcc6 hra6 hps6 hlen6 hf6 hb6 hb6'
  have HPARSE : Hid (parseP s = match runJ (.lev 1 ts) with
    | some (t, []) => if 64 < t.depth then (9, eE) else (0, t)
    | _ => (4, eE)) := Lib.hid (by unfold parseP; rw [if_neg (by have := HS.out; omega), HTS.out])
  have HBW := HBW5
  cases bad6 with
  | true =>
    have HPP : Hid (parseP s = (4, eE)) := Lib.hid (by rw [HPARSE.out]; have := HK.out; rw [if_pos rfl] at this; rw [this])
    obtain ⟨y0, y1, y2, y3, yf⟩ := HTC5.out
    have yf0 := yf 0
    have yf1 := yf 1
    have yf2 := yf 2
    have yf3 := yf 3
    clear yf
    go_wp2
    refine bodyPost_ret (v := .tuple #[.agg #[.int .i64 0, .string ⟨#[]⟩, .int .i64 0, .slice none 0 0], .iface 47 (.int .i64 4)]) (by simp [results, Try.results11, go_sem, y0, y1, y2, y3]; try rfl) rfl ⟨none, 0, by rw [HPP.out]; rfl, by rw [HPP.out]; simp [eE, Ex.args], by rw [HPP.out]; exact .inl rfl, ?_⟩
    exact HBW.out.trans ((fr4 w5 w.heap.size (.int .i64 0) (.string ⟨#[]⟩) (.int .i64 0) (.slice none 0 0)).below (fun i e => by omega) HBW.out.size)
  | false =>
    have HK2 : Hid (runJ (.lev 1 ts) = some (t6, ts6)) := Lib.hid (by have := HK.out; rwa [if_neg (by simp)] at this)
    have hc0 := HPS5.out.c0
    cases ts6 with
    | cons x r =>
      have HPP : Hid (parseP s = (4, eE)) := Lib.hid (by rw [HPARSE.out, HK2.out])
      simp only [List.length_cons] at hc0
      have hpos : (0 : Int) < ((r.length + 1 : Nat) : Int) := by omega
      have hpos2 : decide ((0 : Int) < ((r.length + 1 : Nat) : Int)) = true := decide_eq_true hpos
      obtain ⟨n, hn⟩ : ∃ n, n = r.length + 1 := ⟨_, rfl⟩
      rw [← hn] at hc0 hpos hpos2
      clear hn
      obtain ⟨y0, y1, y2, y3, yf⟩ := HTC5.out
      have yf0 := yf 0
      have yf1 := yf 1
      have yf2 := yf 2
      have yf3 := yf 3
      clear yf
      go_wp2
      refine bodyPost_ret (v := .tuple #[.agg #[.int .i64 0, .string ⟨#[]⟩, .int .i64 0, .slice none 0 0], .iface 47 (.int .i64 4)]) (by simp [results, Try.results11, go_sem, y0, y1, y2, y3]; try rfl) rfl ⟨none, 0, by rw [HPP.out]; rfl, by rw [HPP.out]; simp [eE, Ex.args], by rw [HPP.out]; exact .inl rfl, ?_⟩
      exact HBW.out.trans ((fr4 w5 w.heap.size (.int .i64 0) (.string ⟨#[]⟩) (.int .i64 0) (.slice none 0 0)).below (fun i e => by omega) HBW.out.size)
    | nil =>
      simp only [List.length_nil] at hc0
      have HD : Hid (Calls Try.prog 23 #[.pointer (some ⟨be, 0, none⟩), .int .i64 64] w5 fun e w' => e = .returned (.bool (decide (64 < t6.depth))) ∧ Below w5.heap.size w5 w') := Lib.hid (deeper_any (fun i => w3.heap.size ≤ i) t6 ⟨be, 0, none⟩ 64 w5 HRP.out (by have := runJ_sz HK2.out; simp only [Job.sz, Job.ts] at this; have := HL.out; omega) (by omega))
      by_cases hd : 64 < t6.depth
      · rw [decide_eq_true hd] at HD
        have HPP : Hid (parseP s = (9, eE)) := Lib.hid (by rw [HPARSE.out, HK2.out]; simp [hd])
        clear hd
        go_upto_region 9 with (go_at_call 23; refine HD.out.mono ?_; rintro e9 w6 ⟨rfl, hb6⟩)
        have HBW : Hid (Below w.heap.size w w6) := Lib.hid (bthen HBW5.out hb6)
        have HTC6 := Lib.hid (HTC5.out.below hb6)
        clear hb6 hc0 hc1
        obtain ⟨y0, y1, y2, y3, yf⟩ := HTC6.out
        have yf0 := yf 0
        have yf1 := yf 1
        have yf2 := yf 2
        have yf3 := yf 3
        clear yf
        go_wp2
        refine bodyPost_ret (v := .tuple #[.agg #[.int .i64 0, .string ⟨#[]⟩, .int .i64 0, .slice none 0 0], .iface 47 (.int .i64 9)]) (by simp [results, Try.results11, go_sem, y0, y1, y2, y3]; try rfl) rfl ⟨none, 0, by rw [HPP.out]; rfl, by rw [HPP.out]; simp [eE, Ex.args], by rw [HPP.out]; exact .inl rfl, ?_⟩
        exact HBW.out.trans ((fr4 w6 w.heap.size (.int .i64 0) (.string ⟨#[]⟩) (.int .i64 0) (.slice none 0 0)).below (fun i e => by omega) HBW.out.size)
      · rw [decide_eq_false hd] at HD
        have HPP : Hid (parseP s = (0, t6)) := Lib.hid (by rw [HPARSE.out, HK2.out]; simp [hd])
        clear hd
        go_upto_region 10 with (go_at_call 23; refine HD.out.mono ?_; rintro e9 w6 ⟨rfl, hb6⟩)
        have HBW : Hid (Below w.heap.size w w6) := Lib.hid (bthen HBW5.out hb6)
        have HTC6 := Lib.hid (HTC5.out.below hb6)
        have HRA6 : Hid (RdA (fun i => w3.heap.size ≤ i) w6 t6.args aa6) := Lib.hid (HRA5.out.below hb6)
        obtain ⟨x0, x1, x2, x3, xf⟩ := HEC5.out.below hb6
        clear hb6 hc0 hc1 xf
        obtain ⟨y0, y1, y2, y3, yf⟩ := HTC6.out
        have yf0 := yf 0
        have yf1 := yf 1
        have yf2 := yf 2
        have yf3 := yf 3
        clear yf
        go_wp2
        refine bodyPost_ret (v := .tuple #[.agg #[.int .i64 t6.kind, .string t6.text, .int .i64 t6.num, .slice aa6 t6.args.length cc6], .nilIface]) (by simp [results, Try.results11, go_sem, y0, y1, y2, y3]; try rfl) rfl ⟨aa6, cc6, by rw [HPP.out]; rfl, by rw [HPP.out]; exact HCC.out, ?_, ?_⟩
        · rw [HPP.out]
          exact (HRA6.out.fr (fr4 w6 w.heap.size (.int .i64 t6.kind) (.string t6.text) (.int .i64 t6.num) (.slice aa6 t6.args.length cc6)) (fun i hi e => by have := HW35.out; omega)).mono (fun i _ hi => by have := HW35.out; omega)
        · exact HBW.out.trans ((fr4 w6 w.heap.size (.int .i64 t6.kind) (.string t6.text) (.int .i64 t6.num) (.slice aa6 t6.args.length cc6)).below (fun i e => by omega) HBW.out.size)

/-- Parse, at every text -/
theorem parse_any (s : ByteArray) (w : World) (hs : s.size ≤ 1000000000000) : Calls Try.prog 11 #[.string s] w (ParsePost w s) := by
  by_cases hb : 4096 < s.size
  · refine parse_bad s w 9 (.inr rfl) (by unfold parseP; rw [if_pos hb]) (fun w1 => (tokens_any s w1 hs).mono (fun e w' h => ?_))
    obtain ⟨h1, h2⟩ := h
    rcases h1 with ⟨_, he⟩ | ⟨h, _⟩ | ⟨h, _⟩
    · exact ⟨he, h2⟩
    · omega
    · omega
  · cases ht : toksP (ns s) with
    | none =>
      refine parse_bad s w 4 (.inl rfl) (by unfold parseP; rw [if_neg hb, ht]) (fun w1 => (tokens_any s w1 hs).mono (fun e w' h => ?_))
      obtain ⟨h1, h2⟩ := h
      rcases h1 with ⟨h, _⟩ | ⟨_, _, he⟩ | ⟨_, ts', a, c, h, _⟩
      · omega
      · exact ⟨he, h2⟩
      · rw [ht] at h; cases h
    | some ts =>
      exact parse_toks s w ts (by omega) ht (by have := toks_len _ [] 0 (ns s) ts (Nat.le_refl _) ht; rw [ns_len] at this; simp at this; omega)

end Go.Proofs.Ytpabngicbfcdkaa
