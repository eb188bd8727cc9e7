/-
  syntax: strings in quotes.
-/
import Derived.Test.YtpabngicbfcdkaaTok3
import Derived.Lib.Strings
namespace Go.Proofs.Ytpabngicbfcdkaa
open Go.RowKit
set_option linter.unusedVariables false
set_option linter.unusedSimpArgs false

theorem escP_cases {l : List Nat} {x n : Nat} (h : escP l = some (x, n)) : ∃ c r, l = c :: r ∧ ((c = 110 ∧ x = 10 ∧ n = 1) ∨ (c = 116 ∧ x = 9 ∧ n = 1) ∨ (c = 114 ∧ x = 13 ∧ n = 1) ∨ ((c = 34 ∨ c = 92) ∧ x = c ∧ n = 1) ∨
    ∃ a b q y z, c = 120 ∧ r = a :: b :: q ∧ hexP a = some y ∧ hexP b = some z ∧ x = 16 * y + z ∧ n = 3) := by
  cases l with
  | nil => cases h
  | cons c r =>
    refine ⟨c, r, rfl, ?_⟩
    by_cases e1 : c = 110
    · subst e1; simp [escP] at h; exact .inl ⟨rfl, by omega, by omega⟩
    by_cases e2 : c = 116
    · subst e2; simp [escP] at h; exact .inr (.inl ⟨rfl, by omega, by omega⟩)
    by_cases e3 : c = 114
    · subst e3; simp [escP] at h; exact .inr (.inr (.inl ⟨rfl, by omega, by omega⟩))
    by_cases e4 : c = 34 ∨ c = 92
    · simp [escP, e1, e2, e3, e4] at h; exact .inr (.inr (.inr (.inl ⟨e4, by omega, by omega⟩)))
    by_cases e5 : c = 120
    · subst e5
      match r, h with
      | [], h => simp [escP] at h
      | [_], h => simp [escP] at h
      | a :: b :: q, h =>
        cases ha : hexP a with
        | none => simp [escP, ha] at h
        | some y =>
          cases hb : hexP b with
          | none => simp [escP, ha, hb] at h
          | some z =>
            simp [escP, ha, hb] at h
            exact .inr (.inr (.inr (.inr ⟨a, b, q, y, z, rfl, rfl, ha, hb, by omega, by omega⟩)))
    · simp [escP, e1, e2, e3, e4, e5] at h
theorem escP_pos {l : List Nat} {x n : Nat} (h : escP l = some (x, n)) : 1 ≤ n ∧ n ≤ l.length := by
  obtain ⟨c, r, rfl, h | h | h | h | ⟨a, b, q, y, z, -, rfl, -, -, -, rfl⟩⟩ := escP_cases h
  · simp; omega
  · simp; omega
  · simp; omega
  · simp; omega
  · simp
theorem escP_lt {l : List Nat} {x n : Nat} (hl : ∀ c ∈ l, c < 256) (h : escP l = some (x, n)) : x < 256 := by
  obtain ⟨c, r, rfl, h | h | h | h | ⟨a, b, q, y, z, -, rfl, ha, hb, rfl, -⟩⟩ := escP_cases h
  · omega
  · omega
  · omega
  · have := hl c (by simp); omega
  · have := hexP_lt ha; have := hexP_lt hb; omega

/-- the bytes of a string up to its last sign, and what follows -/
def quoGo (acc l : List Nat) : Option (List Nat × List Nat) :=
  match l with
  | [] => none
  | c :: r =>
    if c = 34 then some (acc, r)
    else if c = 92 then
      match escP r with
      | none => none
      | some (x, n) => quoGo (acc ++ [x]) (r.drop n)
    else if c < 32 ∨ c = 127 then none
    else quoGo (acc ++ [c]) r
termination_by l.length
decreasing_by all_goals simp; try omega

theorem quo_nil (acc : List Nat) : quoGo acc [] = none := by rw [quoGo]
theorem quo_end (acc r : List Nat) : quoGo acc (34 :: r) = some (acc, r) := by rw [quoGo, if_pos rfl]
theorem quo_esc (acc : List Nat) {r : List Nat} {x n : Nat} (h : escP r = some (x, n)) : quoGo acc (92 :: r) = quoGo (acc ++ [x]) (r.drop n) := by
  rw [quoGo, if_neg (by decide), if_pos rfl, h]
theorem quo_escn (acc : List Nat) {r : List Nat} (h : escP r = none) : quoGo acc (92 :: r) = none := by
  rw [quoGo, if_neg (by decide), if_pos rfl, h]
theorem quo_bad (acc r : List Nat) {c : Nat} (h1 : c ≠ 34) (h2 : c ≠ 92) (h3 : c < 32 ∨ c = 127) : quoGo acc (c :: r) = none := by
  rw [quoGo, if_neg h1, if_neg h2, if_pos h3]
theorem quo_chr (acc r : List Nat) {c : Nat} (h1 : c ≠ 34) (h2 : c ≠ 92) (h3 : ¬ (c < 32 ∨ c = 127)) : quoGo acc (c :: r) = quoGo (acc ++ [c]) r := by
  rw [quoGo, if_neg h1, if_neg h2, if_neg h3]

/-- a string and how many bytes it takes -/
def quoP (l : List Nat) : Option (List Nat × Nat) := match quoGo [] (l.drop 1) with
  | none => none
  | some (b, r) => some (b, l.length - r.length)

abbrev nints (us : List Nat) : List Int := us.map fun (u : Nat) => (u : Int)
/-- bytes as a string -/
def bs (l : List Nat) : ByteArray := strOfNums (nints l)
/-- a token by value -/
def tokV (k : Int) (s : ByteArray) (n a : Int) : Value := .agg #[.int .i64 k, .string s, .int .i64 n, .int .i64 a]
def quoV : Option (List Nat × Nat) → Value
  | some (b, n) => .tuple #[tokV 2 (bs b) 0 0, .int .i64 (n : Nat)]
  | none => .tuple #[tokV 0 ByteArray.empty 0 0, .int .i64 0]

theorem ns_extract (s : ByteArray) (a : Nat) : ns (s.extract a s.size) = (ns s).drop a := by
  unfold ns
  rw [Lib.extract_data, List.take_of_length_le (by simp), List.map_drop]

theorem EU8' : Elt Try.prog 45 5 .u8 1 := ⟨Try.underlying45, info_parts (by kernel_rfl)⟩
/-- the cells of a token -/
structure TC (w : World) (g : Nat) (k : Int) (s : ByteArray) (n a : Int) : Prop where
  c0 : w.cell? ⟨g, 0, none⟩ = some (.int .i64 k)
  c1 : w.cell? ⟨g, 1, none⟩ = some (.string s)
  c2 : w.cell? ⟨g, 2, none⟩ = some (.int .i64 n)
  c3 : w.cell? ⟨g, 3, none⟩ = some (.int .i64 a)
  fz : ∀ j, w.frozen? ⟨g, j, none⟩ = false
theorem TC.lt {w : World} {g k s n a} (h : TC w g k s n a) : g < w.heap.size := World.block_lt_of_cell? w _ h.c0
theorem TC.fr {w w' : World} {F : Nat → Prop} {g k s n a} (h : TC w g k s n a) (hf : Fr F w w') (hF : ¬ F g) : TC w' g k s n a :=
  ⟨hf.cell h.c0 hF, hf.cell h.c1 hF, hf.cell h.c2 hF, hf.cell h.c3 hF, fun j => (hf.frozen h.lt hF).trans (h.fz j)⟩
theorem TC.below {w w' : World} {g k s n a} (h : TC w g k s n a) (hb : Below w.heap.size w w') : TC w' g k s n a := h.fr (.of_below (S := fun _ => False) hb) (fun h => h)
theorem alloc_tc (w : World) (k : Int) (s : ByteArray) (n a : Int) (A : TypeId) : TC (w.alloc (.cells #[.int .i64 k, .string s, .int .i64 n, .int .i64 a] A)) w.heap.size k s n a := ⟨by simp, by simp, by simp, by simp, fun j => by simp⟩
theorem fr4 (w : World) (g : Nat) (a b c d : Value) : Fr (fun x => x = g) w ((((w.setCell ⟨g, 0, none⟩ a).setCell ⟨g, 1, none⟩ b).setCell ⟨g, 2, none⟩ c).setCell ⟨g, 3, none⟩ d) := by
  have h0 := Fr.refl (fun x => x = g) w
  exact (((h0.setCell (p := ⟨g, 0, none⟩) rfl a).setCell (p := ⟨g, 1, none⟩) rfl b).setCell (p := ⟨g, 2, none⟩) rfl c).setCell (p := ⟨g, 3, none⟩) rfl d

set_option maxRecDepth 100000 in
set_option maxHeartbeats 2000000 in
theorem quoted_any (s : ByteArray) (hs : s.size ≤ 1000000000) (h0 : 0 < s.size) (w : World) : Calls Try.prog 33 #[.string s] w fun e w' => e = .returned (quoV (quoP (ns s))) ∧ Below w.heap.size w w' := by
  have hsi : (s.size : Int) ≤ 1000000000 := by omega
  have hpi : (0 : Int) < (s.size : Int) := by omega
  have HSZ := Lib.hid hs
  have HNL := Lib.hid (ns_len s)
  have HLT := Lib.hid (ns_lt s)
  obtain ⟨w1, hw1⟩ : ∃ w1, w1 = w.alloc (.cells #[.int .i64 0, .string ⟨#[]⟩, .int .i64 0, .int .i64 0] 33) := ⟨_, rfl⟩
  have HTC : Hid (TC w1 w.heap.size 0 ByteArray.empty 0 0) := Lib.hid (by rw [hw1]; exact alloc_tc _ _ _ _ _ _)
  have HB1 : Hid (Below w.heap.size w w1) := Lib.hid (by rw [hw1]; exact below_alloc _ _)
  have HS1 : Hid (w1.heap.size = w.heap.size + 1) := Lib.hid (by rw [hw1]; simp)
  have HW1 := Lib.hid hw1
  clear hs hw1
  go_enter Try.func33, Try.ntmps33
  go_wp2
  rw [← HW1.out]
  go_loopw [4, 5] (fun sv iv wr => ∃ (i N : Nat) (acc : List Nat) (a : Option Addr) (c : Nat), iv = .int .i64 i ∧ 1 ≤ i ∧ i ≤ s.size ∧ sv = .slice a N c ∧ acc.length = N ∧ N ≤ i ∧ (∀ u ∈ acc, u < 256) ∧ quoGo acc ((ns s).drop i) = quoGo [] ((ns s).drop 1) ∧ Own wr w1.heap.size 5 .u8 (.slice a N c) (nints acc) ∧ Below w1.heap.size w1 wr) (fun _ iv _ => s.size - (intOf iv).toNat)
  case atStart => exact ⟨1, 0, [], none, 0, rfl, by omega, by omega, rfl, rfl, by omega, fun u hu => (by cases hu), rfl, Own.nil _ _ _ _, Below.refl _ _⟩
  case round =>
    obtain ⟨i, N, acc, a, c, rfl, hi1, hi, rfl, hN, hNi, hby, hq, hown, hb⟩ := hrel
    have HFIN : Hid (∀ wf, Fr (fun x => x = w.heap.size) wr wf → Below w.heap.size w wf) := Lib.hid (fun wf hf => (bthen HB1.out hb).trans (hf.below (fun x e => by omega) (bthen HB1.out hb).size))
    obtain ⟨r0, r1, r2, r3, rf⟩ := HTC.out.below hb
    have rf0 := rf 0
    have rf1 := rf 1
    have rf2 := rf 2
    have rf3 := rf 3
    clear rf
    have HOWN := Lib.hid hown
    have HB := Lib.hid hb
    have HN := Lib.hid hN
    have HBY := Lib.hid hby
    have hN9 : (N : Int) ≤ 1000000000 := by have := HSZ.out; omega
    have HI1 := Lib.hid hi1
    have HNI := Lib.hid hNi
    by_cases hlt : i < s.size
    · have HG := Lib.hid (ns_get hlt)
      obtain ⟨x, hx⟩ : ∃ x, (s[i]'hlt).toNat = x := ⟨_, rfl⟩
      rw [hx] at HG
      have HX9 : Hid (x < 256) := Lib.hid (HLT.out x (List.mem_of_getElem? HG.out))
      have hx9 : (x : Int) ≤ 255 := by have := HX9.out; omega
      obtain ⟨r, hr⟩ : ∃ r, r = (ns s).drop (i + 1) := ⟨_, rfl⟩
      have hdrop : (ns s).drop i = x :: r := by
        rw [List.drop_eq_getElem_cons (by rw [ns_len]; exact hlt), hr]
        rw [(List.getElem?_eq_some_iff.1 HG.out).2]
      rw [hdrop] at hq
      have HQ := Lib.hid hq
      have HR := Lib.hid hr
      have HRL : Hid (r.length = s.size - (i + 1)) := Lib.hid (by rw [hr, List.length_drop, ns_len])
      have hii : (i : Int) < (s.size : Int) := by omega
      have HLTI := Lib.hid hlt
      have hcv := run_str wr c (Own.rd hown (fun y hy => by obtain ⟨u, hu, rfl⟩ := List.mem_map.1 hy; have := hby u hu; simp [Lit.wf, IntKind.min, IntKind.max, IntKind.signed, IntKind.bits]; omega)) rfl 45 9 5 Try.underlying45 Try.underlying5 Try.underlying9
      obtain ⟨str, hstr⟩ : ∃ str, str = strOfNums (nints acc) := ⟨_, rfl⟩
      rw [← hstr] at hcv
      have HSTR := Lib.hid hstr
      clear hi1 hi hN hNi hby hq hown hb hdrop hr hstr
      by_cases e1 : x = 34
      · subst e1
        have HE : Hid (quoP (ns s) = some (acc, i + 1)) := Lib.hid (by
          unfold quoP
          rw [← HQ.out, quo_end]
          simp only
          rw [HRL.out, HNL.out]
          have := HLTI.out
          congr 2
          omega)
        go_wp2
        exact bodyPost_ret (v := .tuple #[.agg #[.int .i64 2, .string str, .int .i64 0, .int .i64 0], .int .i64 ((i : Int) + 1)]) (by simp [results, Try.results33, go_sem, r0, r1, r2, r3]) rfl ⟨by rw [HE.out, HSTR.out]; rfl, HFIN.out _ (fr4 wr w.heap.size (.int .i64 2) (.string str) (.int .i64 0) (.int .i64 0))⟩
      · have b1 : ((x : Int) == 34) = false := by rw [beq_eq_false_iff_ne]; omega
        by_cases e2 : x = 92
        · subst e2
          obtain ⟨K1, hK1⟩ : ∃ K1, K1 = i + 1 := ⟨_, rfl⟩
          have hKi : (i : Int) + 1 = (K1 : Int) := by omega
          have hKs : K1 ≤ s.size := by have := HLTI.out; omega
          have hKsi : (K1 : Int) ≤ (s.size : Int) := by omega
          have HEX : Hid (ns (s.extract K1 s.size) = r) := Lib.hid (by rw [ns_extract, hK1, HR.out])
          have HESC := Lib.hid (escaped_any (s.extract K1 s.size) (by have h1 := ns_len (s.extract K1 s.size); rw [HEX.out, HRL.out] at h1; have := HSZ.out; omega) wr)
          rw [HEX.out] at HESC
          have HKI := Lib.hid hK1
          clear hK1 e1 hcv
          cases hes : escP r with
          | none =>
            have HE : Hid (quoP (ns s) = none) := Lib.hid (by unfold quoP; rw [← HQ.out, quo_escn _ hes])
            rw [hes] at HESC
            clear hes
            go_wp2_with fail
            refine HESC.out.mono ?_
            rintro e w5 ⟨rfl, rfl⟩
            unfold escV
            go_wp2
            exact bodyPost_ret (v := .tuple #[.agg #[.int .i64 0, .string ⟨#[]⟩, .int .i64 0, .int .i64 0], .int .i64 0]) (by simp [results, Try.results33, go_sem, r0, r1, r2, r3]) rfl ⟨by rw [HE.out]; rfl, HFIN.out _ (fr4 _ w.heap.size (.int .i64 0) (.string ⟨#[]⟩) (.int .i64 0) (.int .i64 0))⟩
          | some q =>
            obtain ⟨y, m⟩ := q
            have hyp := escP_pos hes
            have hy := escP_lt (fun u hu => by rw [HR.out] at hu; exact HLT.out u (List.mem_of_mem_drop hu)) hes
            have HQ2 : Hid (quoGo (acc ++ [y]) ((ns s).drop (i + (1 + m))) = quoGo [] ((ns s).drop 1)) := Lib.hid (by
              rw [← HQ.out, quo_esc _ hes, HR.out, List.drop_drop]
              congr 2
              omega)
            rw [hes] at HESC
            have HM : Hid (1 ≤ m ∧ i + (1 + m) ≤ s.size ∧ y < 256) := Lib.hid ⟨hyp.1, by have h1 := HRL.out; have h2 := hyp.2; have := HLTI.out; omega, hy⟩
            have hmi : (m : Int) ≤ 1000000000 := by have := HM.out; have := HSZ.out; omega
            have hm0 : ((m : Int) == 0) = false := by rw [beq_eq_false_iff_ne]; omega
            have hyi : (y : Int) ≤ 255 := by omega
            clear hes hyp hy
            go_wp2_with fail
            refine HESC.out.mono ?_
            rintro e w5 ⟨rfl, rfl⟩
            unfold escV
            go_wp2_with (at_builtin; refine app_rd (.tmp 44) (.tmp 46) EU8' rfl rfl w1.heap.size (.slice a N c) (nints acc) rfl (HOWN.out.alloc _) (some ⟨_, 0, none⟩) 1 1 [(y : Int)] rfl (Rd.one _ .u8 _ _ (by have := HM.out; simp [Lit.wf, IntKind.min, IntKind.max, IntKind.signed, IntKind.bits]; omega)) (by have h1 := HN.out; have h2 := HNI.out; have h3 := HSZ.out; have h4 := HLTI.out; simp; omega) (by decide) (by have := HB.out.size; simp; omega) ?_; intro a6 c6 w6 ho6 hg6; have HO6 := Lib.hid ho6; have HB6 : Hid (Below w1.heap.size w1 w6) := Lib.hid ((HB.out.alloc (by exact HB.out.size) _).trans (grown_below (HOWN.out.alloc _) hg6 (by have := HB.out.size; simp; omega))); rw [show (nints acc ++ [(y : Int)]).length = N + 1 by simp [HN.out]] at HO6 ⊢; clear ho6 hg6)
            go_roundw
            case rel => exact ⟨i + (1 + m), N + 1, acc ++ [y], a6, c6, by go_num, by omega, HM.out.2.1, rfl, by rw [List.length_append, HN.out]; rfl, by have := HM.out.1; have := HNI.out; omega, fun u hu => by
              rcases List.mem_append.1 hu with hu | hu
              · exact HBY.out u hu
              · rw [List.mem_singleton] at hu; subst hu; exact HM.out.2.2, HQ2.out, by
              have h := HO6.out
              rw [show nints (acc ++ [y]) = nints acc ++ [(y : Int)] by simp [nints]]
              exact h, HB6.out⟩
            case measure => have := HM.out; simp [intOf]; omega
        · have b2 : ((x : Int) == 92) = false := by rw [beq_eq_false_iff_ne]; omega
          by_cases e3 : x < 32 ∨ x = 127
          · have HE : Hid (quoP (ns s) = none) := Lib.hid (by unfold quoP; rw [← HQ.out, quo_bad _ _ e1 e2 e3])
            have e3' : ((x : Int) < 32) ∨ (decide ((x : Int) < 32) = false ∧ ((x : Int) == 127) = true) := by
              by_cases h : x < 32
              · exact .inl (by omega)
              · exact .inr ⟨decide_eq_false (by omega), by rw [beq_iff_eq]; omega⟩
            clear e1 e2 e3 hcv
            rcases e3' with e3' | ⟨e3', e3''⟩
            all_goals
              go_wp2
              exact bodyPost_ret (v := .tuple #[.agg #[.int .i64 0, .string ⟨#[]⟩, .int .i64 0, .int .i64 0], .int .i64 0]) (by simp [results, Try.results33, go_sem, r0, r1, r2, r3]) rfl ⟨by rw [HE.out]; rfl, HFIN.out _ (fr4 _ w.heap.size (.int .i64 0) (.string ⟨#[]⟩) (.int .i64 0) (.int .i64 0))⟩
          · have HQ2 : Hid (quoGo (acc ++ [x]) ((ns s).drop (i + 1)) = quoGo [] ((ns s).drop 1)) := Lib.hid (by rw [← HQ.out, quo_chr _ _ e1 e2 e3, HR.out])
            have b3 : decide ((x : Int) < 32) = false := decide_eq_false (by omega)
            have b4 : ((x : Int) == 127) = false := by rw [beq_eq_false_iff_ne]; omega
            clear e1 e2 e3 hcv
            go_wp2_with (at_builtin; refine app_rd (.tmp 16) (.tmp 18) EU8' rfl rfl w1.heap.size (.slice a N c) (nints acc) rfl (HOWN.out.alloc _) (some ⟨_, 0, none⟩) 1 1 [(x : Int)] rfl (Rd.one _ .u8 _ _ (by have := HX9.out; simp [Lit.wf, IntKind.min, IntKind.max, IntKind.signed, IntKind.bits]; omega)) (by have h1 := HN.out; have h2 := HNI.out; have h3 := HSZ.out; have h4 := HLTI.out; simp; omega) (by decide) (by have := HB.out.size; simp; omega) ?_; intro a6 c6 w6 ho6 hg6; have HO6 := Lib.hid ho6; have HB6 : Hid (Below w1.heap.size w1 w6) := Lib.hid ((HB.out.alloc (by exact HB.out.size) _).trans (grown_below (HOWN.out.alloc _) hg6 (by have := HB.out.size; simp; omega))); rw [show (nints acc ++ [(x : Int)]).length = N + 1 by simp [HN.out]] at HO6 ⊢; clear ho6 hg6)
            go_roundw
            case rel => exact ⟨i + 1, N + 1, acc ++ [x], a6, c6, by go_num, by omega, HLTI.out, rfl, by rw [List.length_append, HN.out]; rfl, by have := HNI.out; omega, fun u hu => by
              rcases List.mem_append.1 hu with hu | hu
              · exact HBY.out u hu
              · rw [List.mem_singleton] at hu; subst hu; exact HX9.out, HQ2.out, by
              have h := HO6.out
              rw [show nints (acc ++ [x]) = nints acc ++ [(x : Int)] by simp [nints]]
              exact h, HB6.out⟩
            case measure => have := HLTI.out; simp [intOf]; omega
    · have HE : Hid (quoP (ns s) = none) := Lib.hid (by
        unfold quoP
        rw [← hq, List.drop_eq_nil_of_le (by rw [ns_len]; omega), quo_nil])
      obtain rfl : i = s.size := by omega
      clear hi1 hi hN hNi hby hq hown hb hlt
      go_wp2
      exact bodyPost_ret (v := .tuple #[.agg #[.int .i64 0, .string ⟨#[]⟩, .int .i64 0, .int .i64 0], .int .i64 0]) (by simp [results, Try.results33, go_sem, r0, r1, r2, r3]) rfl ⟨by rw [HE.out]; rfl, HFIN.out _ (fr4 wr w.heap.size (.int .i64 0) (.string ⟨#[]⟩) (.int .i64 0) (.int .i64 0))⟩

end Go.Proofs.Ytpabngicbfcdkaa
