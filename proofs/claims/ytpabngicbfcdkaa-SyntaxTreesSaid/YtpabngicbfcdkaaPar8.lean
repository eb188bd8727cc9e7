/-
  The parser: names, primary.
-/
import Derived.Test.YtpabngicbfcdkaaPar7
namespace Go.Proofs.Ytpabngicbfcdkaa
open Go.RowKit
set_option linter.unusedVariables false
set_option linter.unusedSimpArgs false

theorem ns_bs {l : List Nat} (h : ∀ c ∈ l, c < 256) : ns (bs l) = l := by
  unfold ns
  rw [← Go.ByteArray.toList_eq, bs_toList, List.map_map]
  conv => rhs; rw [← List.map_id l]
  exact List.map_congr_left fun c hc => by have := h c hc; simp; omega
theorem bs_eqs {l : List Nat} (h : ∀ c ∈ l, c < 256) (m : List Nat) (hm : ∀ c ∈ m, c < 256) : ((bs l).toList == m.map (fun u => u.toUInt8)) = (l == m) := by
  rw [Bool.eq_iff_iff, beq_iff_eq, beq_iff_eq]
  constructor
  · intro e
    rw [← bs_toList] at e
    have : bs l = bs m := by
      rw [Go.ByteArray.toList_eq, Go.ByteArray.toList_eq] at e
      have e2 := Array.toList_inj.1 e
      cases hx : bs l; cases hy : bs m
      rw [hx, hy] at e2
      simpa using e2
    exact bs_inj h hm this
  · rintro rfl
    exact bs_toList
theorem spn_all (l : List Nat) : (spn letB l = l.length) ↔ l.all letB = true := by
  unfold spn
  constructor
  · intro h
    have h2 : l.takeWhile letB = l := (List.takeWhile_prefix letB).eq_of_length h
    rw [List.all_eq_true]
    intro c hc
    rw [← h2] at hc
    exact mem_tw l c hc
  · intro h
    induction l with
    | nil => rfl
    | cons a r ih =>
      simp only [List.all_cons, Bool.and_eq_true] at h
      rw [List.takeWhile_cons, if_pos h.1, List.length_cons, List.length_cons, ih h.2]

set_option maxRecDepth 100000 in
set_option maxHeartbeats 1500000 in
theorem name_any (l : List Nat) (h8 : ∀ c ∈ l, c < 256) (hl : l.length ≤ 1000000000) (w : World) : Calls Try.prog 70 #[.string (bs l)] w fun e w' => e = .returned (.bool (isNm l)) ∧ w = w' := by
  have hsz : (bs l).size = l.length := by have := ns_len (bs l); rw [ns_bs h8] at this; exact this.symm
  have HSP := Lib.hid (span_any 35 letB (bs l) (by omega) w cf_let (fun c w h => isLetter_any c h w))
  rw [ns_bs h8] at HSP
  have e1 : ((bs l).toList == [97, 110, 100]) = (l == [97, 110, 100]) := bs_eqs h8 [97, 110, 100] (by simp)
  have e2 : ((bs l).toList == [111, 114]) = (l == [111, 114]) := bs_eqs h8 [111, 114] (by simp)
  have e3 : ((bs l).toList == [110, 111, 116]) = (l == wNot) := bs_eqs h8 wNot (by simp [wNot])
  have e4 : ((bs l).toList == []) = (l == []) := bs_eqs h8 [] (by simp)
  obtain ⟨n, hn⟩ : ∃ n, n = spn letB l := ⟨_, rfl⟩
  rw [← hn] at HSP
  have HN : Hid (((n : Int) == (l.length : Int)) = l.all letB) := Lib.hid (by
    rw [Bool.eq_iff_iff, beq_iff_eq, ← spn_all, ← hn]; omega)
  obtain ⟨z, hz⟩ : ∃ z, z = ((n : Int) == (l.length : Int)) := ⟨_, rfl⟩
  obtain ⟨m, hm⟩ : ∃ m, m = (bs l).size := ⟨_, rfl⟩
  obtain ⟨q1, hq1⟩ : ∃ q, q = (l == [97, 110, 100]) := ⟨_, rfl⟩
  obtain ⟨q2, hq2⟩ : ∃ q, q = (l == [111, 114]) := ⟨_, rfl⟩
  obtain ⟨q3, hq3⟩ : ∃ q, q = (l == wNot) := ⟨_, rfl⟩
  obtain ⟨q4, hq4⟩ : ∃ q, q = (l == []) := ⟨_, rfl⟩
  have HNM : Hid (isNm l = (!(q1 || q2 || q3) && !q4 && z)) := Lib.hid (by rw [hz, HN.out, hq1, hq2, hq3, hq4]; rfl)
  rw [← hq1] at e1
  rw [← hq2] at e2
  rw [← hq3] at e3
  rw [← hq4] at e4
  have ez : ((n : Int) == ((bs l).size : Int)) = z := by rw [hsz, hz]
  obtain ⟨s, hs⟩ : ∃ s, s = bs l := ⟨_, rfl⟩
  rw [← hs] at e1 e2 e3 e4 ez HSP ⊢
  clear hsz hn hz hm hq1 hq2 hq3 hq4 hs
  have close : ∀ b, b = (!(q1 || q2 || q3) && !q4 && z) → isNm l = b := fun b h => by rw [HNM.out, h]
  have HCL := Lib.hid close
  clear close
  cases q1
  · cases q2
    · cases q3
      · cases q4
        · go_enter Try.func70, Try.ntmps70
          go_wp2_with (go_at_call 31; refine HSP.out.mono ?_; rintro e w2 ⟨rfl, rfl⟩)
          go_ret
          exact ⟨by rw [HCL.out z (by simp)]; rfl, rfl⟩
        · go_enter Try.func70, Try.ntmps70
          go_wp2
          go_ret
          exact ⟨by rw [HCL.out false (by simp)]; rfl, rfl⟩
      · go_enter Try.func70, Try.ntmps70
        go_wp2
        go_ret
        exact ⟨by rw [HCL.out false (by simp)]; rfl, rfl⟩
    · go_enter Try.func70, Try.ntmps70
      go_wp2
      go_ret
      exact ⟨by rw [HCL.out false (by simp)]; rfl, rfl⟩
  · go_enter Try.func70, Try.ntmps70
    go_wp2
    go_ret
    exact ⟨by rw [HCL.out false (by simp)]; rfl, rfl⟩


set_option maxRecDepth 100000 in
set_option maxHeartbeats 3000000 in
theorem lev9_any (M : Nat) (H : Spec M) (w : World) (pb : Nat) (a : Option Addr) (c : Nat) (ts : List Tk) (bad : Bool) (hp : PS w pb a c ts bad) (hM : (Job.lev 9 ts).wt ≤ M) :
    Calls Try.prog 68 #[.pointer (some ⟨pb, 0, none⟩)] w (ParPost pb w (runJ (.lev 9 ts)) bad ts) := by
  obtain ⟨w1, hw1⟩ : ∃ w1, w1 = w.alloc (.cells #[.int .i64 0, .string ⟨#[]⟩, .int .i64 0, .slice none 0 0] 38) := ⟨_, rfl⟩
  have HB1 : Hid (Below w.heap.size w w1) := Lib.hid (by rw [hw1]; exact below_alloc _ _)
  have HS1 : Hid (w1.heap.size = w.heap.size + 1) := Lib.hid (by rw [hw1]; simp)
  have HTC : Hid (EC w1 w.heap.size eE none 0) := Lib.hid (by rw [hw1]; exact alloc_ec w eE none 0 _)
  have HP1 := Lib.hid (hp.below HB1.out)
  have HF1 : Hid (Fr (fun x => x = pb) w w1) := Lib.hid (Fr.of_below HB1.out)
  have HPL := Lib.hid hp.lt
  have HW1 := Lib.hid hw1
  have HM := Lib.hid hM
  have HSPEC := Lib.hid H
  have c1 := HP1.out.c1
  clear H hw1 hp hM
  cases hbd : bad with
  | true =>
    subst hbd
    obtain ⟨y0, y1, y2, y3, yf⟩ := HTC.out
    have yf0 := yf 0
    have yf1 := yf 1
    have yf2 := yf 2
    have yf3 := yf 3
    clear yf
    go_enter Try.func68, Try.ntmps68
    go_upto_region 1 with fail
    rw [← HW1.out]
    go_wp2
    exact bodyPost_ret (v := .agg #[.int .i64 0, .string ⟨#[]⟩, .int .i64 0, .slice none 0 0]) (by simp [results, Try.results68, go_sem, y0, y1, y2, y3]; try rfl) rfl (fin_par (be := 0) (e := eE) (rest := none) HP1.out (by simp [eE, Ex.args]) (.inl rfl) HF1.out ⟨by omega, fun _ => rfl, fun h => by cases h⟩ (fun h => by cases h) (fr4 w1 w.heap.size (.int .i64 0) (.string ⟨#[]⟩) (.int .i64 0) (.slice none 0 0)) HPL.out)
  | false =>
    subst hbd
    have HTK := Lib.hid (take_any HP1.out)
    cases ts with
    | nil =>
      simp only [hdV, tokV, TakePost, List.isEmpty, Bool.or_true, List.tail_nil] at HTK
      have HRES : Hid (runJ (.lev 9 []) = none) := Lib.hid (by rw [runJ_prim]; rfl)
      go_enter Try.func68, Try.ntmps68
      go_upto_region 1 with fail
      rw [← HW1.out]
      go_upto_region 4 with (go_at_call 55; refine HTK.out.mono ?_; rintro e9 w2 ⟨rfl, ⟨a2, c2, hps2⟩, hf2⟩)
      obtain ⟨w3, hw3⟩ : ∃ w3, w3 = w2.alloc (.cells #[.int .i64 0, .string (bs []), .int .i64 0, .int .i64 0] 33) := ⟨_, rfl⟩
      rw [← hw3]
      have HB3 : Hid (Below w2.heap.size w2 w3) := Lib.hid (by rw [hw3]; exact below_alloc _ _)
      obtain ⟨bt, hbt⟩ : ∃ bt, bt = w2.heap.size := ⟨_, rfl⟩
      have HTT : Hid (TC w3 bt 0 (bs []) 0 0) := Lib.hid (by rw [hw3, hbt]; exact alloc_tc _ _ _ _ _ _)
      have HF3 : Hid (Fr (fun x => x = pb) w1 w3) := Lib.hid (hf2.trans (.of_below HB3.out))
      have HTC3 := Lib.hid (HTC.out.fr HF3.out (by have := HPL.out; omega))
      have HPS3 := Lib.hid (hps2.below HB3.out)
      have HBT : Hid (w.heap.size < bt) := Lib.hid (by have h1 := hf2.size; have h2 := HS1.out; omega)
      rw [← hbt]
      obtain ⟨z0, z1, z2, z3, zf⟩ := HTT.out
      clear hw3 hbt hps2 hf2 zf c1
      have p1 := HPS3.out.c1
      have pf1 := HPS3.out.fz 1
      have hn1 : ¬ (pb = w.heap.size) := by have := HPL.out; omega
      have hn2 : ¬ (w.heap.size = pb) := by have := HPL.out; omega
      obtain ⟨y0, y1, y2, y3, yf⟩ := HTC3.out
      have yf0 := yf 0
      have yf1 := yf 1
      have yf2 := yf 2
      have yf3 := yf 3
      clear yf
      go_wp2
      exact bodyPost_ret (v := .agg #[.int .i64 0, .string ⟨#[]⟩, .int .i64 0, .slice none 0 0]) (by simp [results, Try.results68, go_sem, y0, y1, y2, y3]; try rfl) rfl (fin_par (be := 0) (wr := w3.setCell ⟨pb, 1, none⟩ (.bool true)) (e := eE) (rest := none) HPS3.out.setBad (by simp [eE, Ex.args]) (.inl rfl) ((HF1.out.trans HF3.out).setCell (p := ⟨pb, 1, none⟩) rfl _) ⟨by simp, fun _ => rfl, fun _ => by rw [if_pos rfl]; exact HRES.out⟩ (fun h => by cases h) (fr4 (w3.setCell ⟨pb, 1, none⟩ (.bool true)) w.heap.size (.int .i64 0) (.string ⟨#[]⟩) (.int .i64 0) (.slice none 0 0)) HPL.out)
    | cons t r =>
      obtain ⟨⟨k, tx, nm⟩, at0⟩ := t
      simp only [hdV, tokV, TakePost, List.isEmpty, Bool.or_false, List.tail_cons] at HTK
      have HT8 : Hid (∀ c ∈ tx, c < 256) := Lib.hid (HP1.out.by8 _ (List.mem_cons_self ..))
      have HTS : Hid (tx.length ≤ 1000000) := Lib.hid (HP1.out.sz _ (List.mem_cons_self ..))
      by_cases hk1 : k = 1
      · subst hk1
        have HRES : Hid (runJ (.lev 9 (((1, tx, nm), at0) :: r)) = some (.mk 1 (bs []) (nm : Nat) [], r)) := Lib.hid (by rw [runJ_prim]; simp [primJ])
        go_enter Try.func68, Try.ntmps68
        go_upto_region 1 with fail
        rw [← HW1.out]
        go_upto_region 4 with (go_at_call 55; refine HTK.out.mono ?_; rintro e9 w2 ⟨rfl, ⟨a2, c2, hps2⟩, hf2⟩)
        obtain ⟨w3, hw3⟩ : ∃ w3, w3 = w2.alloc (.cells #[.int .i64 1, .string (bs tx), .int .i64 (nm : Nat), .int .i64 (at0 : Nat)] 33) := ⟨_, rfl⟩
        rw [← hw3]
        have HB3 : Hid (Below w2.heap.size w2 w3) := Lib.hid (by rw [hw3]; exact below_alloc _ _)
        obtain ⟨bt, hbt⟩ : ∃ bt, bt = w2.heap.size := ⟨_, rfl⟩
        have HTT : Hid (TC w3 bt 1 (bs tx) (nm : Nat) (at0 : Nat)) := Lib.hid (by rw [hw3, hbt]; exact alloc_tc _ _ _ _ _ _)
        have HF3 : Hid (Fr (fun x => x = pb) w1 w3) := Lib.hid (hf2.trans (.of_below HB3.out))
        have HTC3 := Lib.hid (HTC.out.fr HF3.out (by have := HPL.out; omega))
        have HPS3 := Lib.hid (hps2.below HB3.out)
        have HBT : Hid (w.heap.size < bt) := Lib.hid (by have h1 := hf2.size; have h2 := HS1.out; omega)
        rw [← hbt]
        obtain ⟨z0, z1, z2, z3, zf⟩ := HTT.out
        clear hw3 hbt hps2 hf2 zf c1
        obtain ⟨y0, y1, y2, y3, yf⟩ := HTC3.out
        have yf0 := yf 0
        have yf1 := yf 1
        have yf2 := yf 2
        have yf3 := yf 3
        clear yf
        go_wp2
        exact bodyPost_ret (v := .agg #[.int .i64 1, .string ⟨#[]⟩, .int .i64 (nm : Nat), .slice none 0 0]) (by simp [results, Try.results68, go_sem, y0, y1, y2, y3]; try rfl) rfl (fin_par (be := 0) (e := .mk 1 (bs []) (nm : Nat) []) (rest := some (.mk 1 (bs []) (nm : Nat) [], r)) HPS3.out (by simp [Ex.args]) (.inl rfl) (HF1.out.trans HF3.out) ⟨by simp, (fun h => by cases h), fun _ => HRES.out⟩ (fun _ => rfl) (fr4 w3 w.heap.size (.int .i64 1) (.string ⟨#[]⟩) (.int .i64 (nm : Nat)) (.slice none 0 0)) HPL.out)
      by_cases hk2 : k = 2
      · subst hk2
        have HRES : Hid (runJ (.lev 9 (((2, tx, nm), at0) :: r)) = some (.mk 2 (bs tx) 0 [], r)) := Lib.hid (by rw [runJ_prim]; simp [primJ])
        go_enter Try.func68, Try.ntmps68
        go_upto_region 1 with fail
        rw [← HW1.out]
        go_upto_region 4 with (go_at_call 55; refine HTK.out.mono ?_; rintro e9 w2 ⟨rfl, ⟨a2, c2, hps2⟩, hf2⟩)
        obtain ⟨w3, hw3⟩ : ∃ w3, w3 = w2.alloc (.cells #[.int .i64 2, .string (bs tx), .int .i64 (nm : Nat), .int .i64 (at0 : Nat)] 33) := ⟨_, rfl⟩
        rw [← hw3]
        have HB3 : Hid (Below w2.heap.size w2 w3) := Lib.hid (by rw [hw3]; exact below_alloc _ _)
        obtain ⟨bt, hbt⟩ : ∃ bt, bt = w2.heap.size := ⟨_, rfl⟩
        have HTT : Hid (TC w3 bt 2 (bs tx) (nm : Nat) (at0 : Nat)) := Lib.hid (by rw [hw3, hbt]; exact alloc_tc _ _ _ _ _ _)
        have HF3 : Hid (Fr (fun x => x = pb) w1 w3) := Lib.hid (hf2.trans (.of_below HB3.out))
        have HTC3 := Lib.hid (HTC.out.fr HF3.out (by have := HPL.out; omega))
        have HPS3 := Lib.hid (hps2.below HB3.out)
        have HBT : Hid (w.heap.size < bt) := Lib.hid (by have h1 := hf2.size; have h2 := HS1.out; omega)
        rw [← hbt]
        obtain ⟨z0, z1, z2, z3, zf⟩ := HTT.out
        clear hw3 hbt hps2 hf2 zf c1
        obtain ⟨y0, y1, y2, y3, yf⟩ := HTC3.out
        have yf0 := yf 0
        have yf1 := yf 1
        have yf2 := yf 2
        have yf3 := yf 3
        clear yf
        go_wp2
        exact bodyPost_ret (v := .agg #[.int .i64 2, .string (bs tx), .int .i64 0, .slice none 0 0]) (by simp [results, Try.results68, go_sem, y0, y1, y2, y3]; try rfl) rfl (fin_par (be := 0) (e := .mk 2 (bs tx) 0 []) (rest := some (.mk 2 (bs tx) 0 [], r)) HPS3.out (by simp [Ex.args]) (.inl rfl) (HF1.out.trans HF3.out) ⟨by simp, (fun h => by cases h), fun _ => HRES.out⟩ (fun _ => rfl) (fr4 w3 w.heap.size (.int .i64 2) (.string (bs tx)) (.int .i64 0) (.slice none 0 0)) HPL.out)
      by_cases hk3 : k = 3
      · subst hk3
        have HRES : Hid (runJ (.lev 9 (((3, tx, nm), at0) :: r)) = some (.mk 3 (bs tx) 0 [], r)) := Lib.hid (by rw [runJ_prim]; simp [primJ])
        go_enter Try.func68, Try.ntmps68
        go_upto_region 1 with fail
        rw [← HW1.out]
        go_upto_region 4 with (go_at_call 55; refine HTK.out.mono ?_; rintro e9 w2 ⟨rfl, ⟨a2, c2, hps2⟩, hf2⟩)
        obtain ⟨w3, hw3⟩ : ∃ w3, w3 = w2.alloc (.cells #[.int .i64 3, .string (bs tx), .int .i64 (nm : Nat), .int .i64 (at0 : Nat)] 33) := ⟨_, rfl⟩
        rw [← hw3]
        have HB3 : Hid (Below w2.heap.size w2 w3) := Lib.hid (by rw [hw3]; exact below_alloc _ _)
        obtain ⟨bt, hbt⟩ : ∃ bt, bt = w2.heap.size := ⟨_, rfl⟩
        have HTT : Hid (TC w3 bt 3 (bs tx) (nm : Nat) (at0 : Nat)) := Lib.hid (by rw [hw3, hbt]; exact alloc_tc _ _ _ _ _ _)
        have HF3 : Hid (Fr (fun x => x = pb) w1 w3) := Lib.hid (hf2.trans (.of_below HB3.out))
        have HTC3 := Lib.hid (HTC.out.fr HF3.out (by have := HPL.out; omega))
        have HPS3 := Lib.hid (hps2.below HB3.out)
        have HBT : Hid (w.heap.size < bt) := Lib.hid (by have h1 := hf2.size; have h2 := HS1.out; omega)
        rw [← hbt]
        obtain ⟨z0, z1, z2, z3, zf⟩ := HTT.out
        clear hw3 hbt hps2 hf2 zf c1
        obtain ⟨y0, y1, y2, y3, yf⟩ := HTC3.out
        have yf0 := yf 0
        have yf1 := yf 1
        have yf2 := yf 2
        have yf3 := yf 3
        clear yf
        go_wp2
        exact bodyPost_ret (v := .agg #[.int .i64 3, .string (bs tx), .int .i64 0, .slice none 0 0]) (by simp [results, Try.results68, go_sem, y0, y1, y2, y3]; try rfl) rfl (fin_par (be := 0) (e := .mk 3 (bs tx) 0 []) (rest := some (.mk 3 (bs tx) 0 [], r)) HPS3.out (by simp [Ex.args]) (.inl rfl) (HF1.out.trans HF3.out) ⟨by simp, (fun h => by cases h), fun _ => HRES.out⟩ (fun _ => rfl) (fr4 w3 w.heap.size (.int .i64 3) (.string (bs tx)) (.int .i64 0) (.slice none 0 0)) HPL.out)
      by_cases hk4 : k = 4
      · subst hk4
        cases hnm : isNm tx with
        | false =>
          have HRES : Hid (runJ (.lev 9 (((4, tx, nm), at0) :: r)) = none) := Lib.hid (by rw [runJ_prim]; simp [primJ, hnm])
          have HNM := Lib.hid (name_any tx HT8.out (Nat.le_trans HTS.out (by decide)))
          rw [hnm] at HNM
          clear hnm
          go_enter Try.func68, Try.ntmps68
          go_upto_region 1 with fail
          rw [← HW1.out]
          go_upto_region 4 with (go_at_call 55; refine HTK.out.mono ?_; rintro e9 w2 ⟨rfl, ⟨a2, c2, hps2⟩, hf2⟩)
          obtain ⟨w3, hw3⟩ : ∃ w3, w3 = w2.alloc (.cells #[.int .i64 4, .string (bs tx), .int .i64 (nm : Nat), .int .i64 (at0 : Nat)] 33) := ⟨_, rfl⟩
          rw [← hw3]
          have HB3 : Hid (Below w2.heap.size w2 w3) := Lib.hid (by rw [hw3]; exact below_alloc _ _)
          obtain ⟨bt, hbt⟩ : ∃ bt, bt = w2.heap.size := ⟨_, rfl⟩
          have HTT : Hid (TC w3 bt 4 (bs tx) (nm : Nat) (at0 : Nat)) := Lib.hid (by rw [hw3, hbt]; exact alloc_tc _ _ _ _ _ _)
          have HF3 : Hid (Fr (fun x => x = pb) w1 w3) := Lib.hid (hf2.trans (.of_below HB3.out))
          have HTC3 := Lib.hid (HTC.out.fr HF3.out (by have := HPL.out; omega))
          have HPS3 := Lib.hid (hps2.below HB3.out)
          have HBT : Hid (w.heap.size < bt) := Lib.hid (by have h1 := hf2.size; have h2 := HS1.out; omega)
          rw [← hbt]
          obtain ⟨z0, z1, z2, z3, zf⟩ := HTT.out
          clear hw3 hbt hps2 hf2 zf c1
          have p1 := HPS3.out.c1
          have pf1 := HPS3.out.fz 1
          have hn1 : ¬ (pb = w.heap.size) := by have := HPL.out; omega
          have hn2 : ¬ (w.heap.size = pb) := by have := HPL.out; omega
          obtain ⟨y0, y1, y2, y3, yf⟩ := HTC3.out
          have yf0 := yf 0
          have yf1 := yf 1
          have yf2 := yf 2
          have yf3 := yf 3
          clear yf
          go_wp2_with (go_at_call 70; refine (HNM.out _).mono ?_; rintro e9 w9 ⟨rfl, rfl⟩)
          exact bodyPost_ret (v := .agg #[.int .i64 0, .string ⟨#[]⟩, .int .i64 0, .slice none 0 0]) (by simp [results, Try.results68, go_sem, y0, y1, y2, y3]; try rfl) rfl (fin_par (be := 0) (wr := w3.setCell ⟨pb, 1, none⟩ (.bool true)) (e := eE) (rest := none) HPS3.out.setBad (by simp [eE, Ex.args]) (.inl rfl) ((HF1.out.trans HF3.out).setCell (p := ⟨pb, 1, none⟩) rfl _) ⟨by simp, fun _ => rfl, fun _ => by rw [if_pos rfl]; exact HRES.out⟩ (fun h => by cases h) (fr4 (w3.setCell ⟨pb, 1, none⟩ (.bool true)) w.heap.size (.int .i64 0) (.string ⟨#[]⟩) (.int .i64 0) (.slice none 0 0)) HPL.out)
        | true =>
          have HRES : Hid (runJ (.lev 9 (((4, tx, nm), at0) :: r)) = argsRes tx r) := Lib.hid (by rw [runJ_prim]; simp only [primJ, argsRes, hnm]; simp)
          have HNM := Lib.hid (name_any tx HT8.out (Nat.le_trans HTS.out (by decide)))
          rw [hnm] at HNM
          clear hnm
          go_enter Try.func68, Try.ntmps68
          go_upto_region 1 with fail
          rw [← HW1.out]
          go_upto_region 4 with (go_at_call 55; refine HTK.out.mono ?_; rintro e9 w2 ⟨rfl, ⟨a2, c2, hps2⟩, hf2⟩)
          obtain ⟨w3, hw3⟩ : ∃ w3, w3 = w2.alloc (.cells #[.int .i64 4, .string (bs tx), .int .i64 (nm : Nat), .int .i64 (at0 : Nat)] 33) := ⟨_, rfl⟩
          rw [← hw3]
          have HB3 : Hid (Below w2.heap.size w2 w3) := Lib.hid (by rw [hw3]; exact below_alloc _ _)
          obtain ⟨bt, hbt⟩ : ∃ bt, bt = w2.heap.size := ⟨_, rfl⟩
          have HTT : Hid (TC w3 bt 4 (bs tx) (nm : Nat) (at0 : Nat)) := Lib.hid (by rw [hw3, hbt]; exact alloc_tc _ _ _ _ _ _)
          have HF3 : Hid (Fr (fun x => x = pb) w1 w3) := Lib.hid (hf2.trans (.of_below HB3.out))
          have HTC3 := Lib.hid (HTC.out.fr HF3.out (by have := HPL.out; omega))
          have HPS3 := Lib.hid (hps2.below HB3.out)
          have HBT : Hid (w.heap.size < bt) := Lib.hid (by have h1 := hf2.size; have h2 := HS1.out; omega)
          rw [← hbt]
          obtain ⟨z0, z1, z2, z3, zf⟩ := HTT.out
          clear hw3 hbt hps2 hf2 zf c1
          have HAR := Lib.hid (args_any M HSPEC.out tx w3 pb a2 c2 r HPS3.out (by have h1 := HM.out; simp only [Job.wt, List.length_cons, List.length_tail] at *; omega))
          go_wp2_with (first
            | (go_at_call 70; refine (HNM.out _).mono ?_; rintro e9 w9 ⟨rfl, rfl⟩)
            | (go_at_call 71; refine HAR.out.mono ?_; rintro e9 w4 ⟨t6, v6, a6, c6, ts6, bad6, rfl, ⟨aa6, cc6, rfl, hcc6, hra6⟩, hps6, hlen6, hf6, hb6, hb6'⟩; simp only [exV]; obtain ⟨y0, y1, y2, y3, yf⟩ := HTC3.out.fr hf6 (by have := HPL.out; omega); have yf0 := yf 0; have yf1 := yf 1; have yf2 := yf 2; have yf3 := yf 3; clear yf; have HRA := Lib.hid hra6; have HPS := Lib.hid hps6; have HF := Lib.hid hf6; have HSO := Lib.hid (ParPost.sofar (pb := pb) (w := w) hlen6 hb6 hb6'); have HCC := Lib.hid hcc6; clear hra6 hps6 hf6 hb6 hb6' hlen6 hcc6))
          rw [HRES.out]
          exact bodyPost_ret (v := .agg #[.int .i64 t6.kind, .string t6.text, .int .i64 t6.num, .slice aa6 t6.args.length cc6]) (by simp [results, Try.results68, go_sem, y0, y1, y2, y3]; try rfl) rfl (fin_par (be := 0) HPS.out HCC.out (HRA.out.mono (fun i _ hi => ⟨by have h1 := HF3.out.size; have h2 := HS1.out; omega, by have h1 := HF3.out.size; have h2 := HS1.out; omega⟩)) ((HF1.out.trans HF3.out).trans HF.out) ⟨by have := HSO.out.1; simp only [List.length_cons]; omega, HSO.out.2.1, HSO.out.2.2⟩ (fun _ => rfl) (fr4 w4 w.heap.size (.int .i64 t6.kind) (.string t6.text) (.int .i64 t6.num) (.slice aa6 t6.args.length cc6)) HPL.out)
      by_cases hk5 : k = 5
      · subst hk5
        obtain ⟨q, hq⟩ : ∃ q, q = (tx == [40]) := ⟨_, rfl⟩
        have he : ((bs tx).toList == [40]) = q := by rw [hq]; exact bs_eqs HT8.out [40] (by simp)
        cases q with
        | false =>
          have hne : tx ≠ [40] := by simpa using hq.symm
          have HRES : Hid (runJ (.lev 9 (((5, tx, nm), at0) :: r)) = none) := Lib.hid (by rw [runJ_prim]; simp [primJ, hne])
          clear hq hne
          go_enter Try.func68, Try.ntmps68
          go_upto_region 1 with fail
          rw [← HW1.out]
          go_upto_region 4 with (go_at_call 55; refine HTK.out.mono ?_; rintro e9 w2 ⟨rfl, ⟨a2, c2, hps2⟩, hf2⟩)
          obtain ⟨w3, hw3⟩ : ∃ w3, w3 = w2.alloc (.cells #[.int .i64 5, .string (bs tx), .int .i64 (nm : Nat), .int .i64 (at0 : Nat)] 33) := ⟨_, rfl⟩
          rw [← hw3]
          have HB3 : Hid (Below w2.heap.size w2 w3) := Lib.hid (by rw [hw3]; exact below_alloc _ _)
          obtain ⟨bt, hbt⟩ : ∃ bt, bt = w2.heap.size := ⟨_, rfl⟩
          have HTT : Hid (TC w3 bt 5 (bs tx) (nm : Nat) (at0 : Nat)) := Lib.hid (by rw [hw3, hbt]; exact alloc_tc _ _ _ _ _ _)
          have HF3 : Hid (Fr (fun x => x = pb) w1 w3) := Lib.hid (hf2.trans (.of_below HB3.out))
          have HTC3 := Lib.hid (HTC.out.fr HF3.out (by have := HPL.out; omega))
          have HPS3 := Lib.hid (hps2.below HB3.out)
          have HBT : Hid (w.heap.size < bt) := Lib.hid (by have h1 := hf2.size; have h2 := HS1.out; omega)
          rw [← hbt]
          obtain ⟨z0, z1, z2, z3, zf⟩ := HTT.out
          clear hw3 hbt hps2 hf2 zf c1
          have p1 := HPS3.out.c1
          have pf1 := HPS3.out.fz 1
          have hn1 : ¬ (pb = w.heap.size) := by have := HPL.out; omega
          have hn2 : ¬ (w.heap.size = pb) := by have := HPL.out; omega
          obtain ⟨y0, y1, y2, y3, yf⟩ := HTC3.out
          have yf0 := yf 0
          have yf1 := yf 1
          have yf2 := yf 2
          have yf3 := yf 3
          clear yf
          go_wp2
          exact bodyPost_ret (v := .agg #[.int .i64 0, .string ⟨#[]⟩, .int .i64 0, .slice none 0 0]) (by simp [results, Try.results68, go_sem, y0, y1, y2, y3]; try rfl) rfl (fin_par (be := 0) (wr := w3.setCell ⟨pb, 1, none⟩ (.bool true)) (e := eE) (rest := none) HPS3.out.setBad (by simp [eE, Ex.args]) (.inl rfl) ((HF1.out.trans HF3.out).setCell (p := ⟨pb, 1, none⟩) rfl _) ⟨by simp, fun _ => rfl, fun _ => by rw [if_pos rfl]; exact HRES.out⟩ (fun h => by cases h) (fr4 (w3.setCell ⟨pb, 1, none⟩ (.bool true)) w.heap.size (.int .i64 0) (.string ⟨#[]⟩) (.int .i64 0) (.slice none 0 0)) HPL.out)
        | true =>
          have hne : tx = [40] := by simpa using hq.symm
          have HRES : Hid (runJ (.lev 9 (((5, tx, nm), at0) :: r)) = (runJ (.lev 1 r)).bind fun x => if isT 5 [[41]] x.2 then some (x.1, x.2.tail) else none) := Lib.hid (by rw [runJ_prim]; simp [primJ, hne])
          clear hq hne
          go_enter Try.func68, Try.ntmps68
          go_upto_region 1 with fail
          rw [← HW1.out]
          go_upto_region 4 with (go_at_call 55; refine HTK.out.mono ?_; rintro e9 w2 ⟨rfl, ⟨a2, c2, hps2⟩, hf2⟩)
          obtain ⟨w3, hw3⟩ : ∃ w3, w3 = w2.alloc (.cells #[.int .i64 5, .string (bs tx), .int .i64 (nm : Nat), .int .i64 (at0 : Nat)] 33) := ⟨_, rfl⟩
          rw [← hw3]
          have HB3 : Hid (Below w2.heap.size w2 w3) := Lib.hid (by rw [hw3]; exact below_alloc _ _)
          obtain ⟨bt, hbt⟩ : ∃ bt, bt = w2.heap.size := ⟨_, rfl⟩
          have HTT : Hid (TC w3 bt 5 (bs tx) (nm : Nat) (at0 : Nat)) := Lib.hid (by rw [hw3, hbt]; exact alloc_tc _ _ _ _ _ _)
          have HF3 : Hid (Fr (fun x => x = pb) w1 w3) := Lib.hid (hf2.trans (.of_below HB3.out))
          have HTC3 := Lib.hid (HTC.out.fr HF3.out (by have := HPL.out; omega))
          have HPS3 := Lib.hid (hps2.below HB3.out)
          have HBT : Hid (w.heap.size < bt) := Lib.hid (by have h1 := hf2.size; have h2 := HS1.out; omega)
          rw [← hbt]
          obtain ⟨z0, z1, z2, z3, zf⟩ := HTT.out
          clear hw3 hbt hps2 hf2 zf c1
          have HQ : Hid (Calls Try.prog 22 #[.pointer (some ⟨pb, 0, none⟩)] w3 (ParPost pb w3 (runJ (.lev 1 r)) false r)) := Lib.hid (HSPEC.out 1 (by omega) (by omega) w3 pb a2 c2 r false HPS3.out (by have h1 := HM.out; simp only [Job.wt, List.length_cons] at *; omega))
          go_upto_region 17 with (go_at_call 22; refine HQ.out.mono ?_; rintro e9 w4 ⟨t6, v6, a6, c6, ts6, bad6, rfl, ⟨aa6, cc6, rfl, hcc6, hra6⟩, hps6, hlen6, hf6, hb6, hb6'⟩; simp only [exV])
          obtain ⟨w5, hw5⟩ : ∃ w5, w5 = w4.alloc (.cells #[.int .i64 t6.kind, .string t6.text, .int .i64 t6.num, .slice aa6 t6.args.length cc6] 38) := ⟨_, rfl⟩
          rw [← hw5]
          have HB5 : Hid (Below w4.heap.size w4 w5) := Lib.hid (by rw [hw5]; exact below_alloc _ _)
          obtain ⟨bf, hbf⟩ : ∃ bf, bf = w4.heap.size := ⟨_, rfl⟩
          have HECB : Hid (EC w5 bf t6 aa6 cc6) := Lib.hid (by rw [hw5, hbf]; exact alloc_ec _ _ _ _ _)
          have HF5 : Hid (Fr (fun x => x = pb) w3 w5) := Lib.hid (hf6.trans (.of_below HB5.out))
          have HBFP : Hid (¬ (bf = pb)) := Lib.hid (by have h1 := hf6.size; have h2 := HF3.out.size; have h3 := HS1.out; have := HPL.out; omega)
          have HRT5 : Hid (RdA (fun i => w.heap.size < i ∧ i ≠ 0) w5 t6.args aa6) := Lib.hid ((hra6.mono (fun i _ hi => ⟨by have h2 := HF3.out.size; have h3 := HS1.out; omega, by have h2 := HF3.out.size; have h3 := HS1.out; omega⟩)).below HB5.out)
          have HPS5 := Lib.hid (hps6.below HB5.out)
          have HCC6 := Lib.hid hcc6
          obtain ⟨tsX, htsX⟩ : ∃ x, x = (if isT 5 [[41]] ts6 then ts6.tail else ts6) := ⟨_, rfl⟩
          obtain ⟨badX, hbadX⟩ : ∃ x, x = (if isT 5 [[41]] ts6 then bad6 else true) := ⟨_, rfl⟩
          have HEX : Hid (Calls Try.prog 69 #[.pointer (some ⟨pb, 0, none⟩), .string ⟨#[41]⟩] w5 fun e w' => e = .returned (.tuple #[]) ∧ (∃ a' c', PS w' pb a' c' tsX badX) ∧ Fr (fun x => x = pb) w5 w') := Lib.hid (by rw [htsX, hbadX]; exact expect_any [41] (by simp) HPS5.out)
          have HLX : Hid (tsX.length ≤ (((5, tx, nm), at0) :: r : List Tk).length) := Lib.hid (by
            have h3 : tsX.length ≤ ts6.length := by rw [htsX]; split <;> simp
            simp only [List.length_cons]; omega)
          have HNO : Hid (if badX = true then runJ (.lev 9 (((5, tx, nm), at0) :: r)) = none else runJ (.lev 9 (((5, tx, nm), at0) :: r)) = some (t6, tsX)) := Lib.hid (by
            have h2 := hb6' (by first | rfl | trivial)
            rw [HRES.out, htsX, hbadX]
            cases hx : isT 5 [[41]] ts6 with
            | true =>
              simp only [if_true]
              split at h2
              · rename_i hy; rw [if_pos hy, h2]; rfl
              · rename_i hy; rw [if_neg hy, h2]; simp [hx]
            | false =>
              simp only [Bool.false_eq_true, if_false, if_true]
              split at h2
              · rw [h2]; rfl
              · rw [h2]; simp [hx])
          rw [← hbf]
          clear htsX hbadX hw5 hbf hra6 hps6 hcc6 hlen6 hb6 hb6' hf6 z0 z1 z2 z3
          go_upto_region 18 with (go_at_call 69; refine HEX.out.mono ?_; rintro e9 w6 ⟨rfl, ⟨a9, c9, hps9⟩, hf9⟩; have HPS9 := Lib.hid hps9; have HF9 := Lib.hid hf9; clear hps9 hf9)
          obtain ⟨x0, x1, x2, x3, xf⟩ := HECB.out.fr HF9.out HBFP.out
          obtain ⟨y0, y1, y2, y3, yf⟩ := (HTC3.out.fr (HF5.out.trans HF9.out) (by have := HPL.out; omega))
          have yf0 := yf 0
          have yf1 := yf 1
          have yf2 := yf 2
          have yf3 := yf 3
          clear xf yf
          go_wp2
          exact bodyPost_ret (v := .agg #[.int .i64 t6.kind, .string t6.text, .int .i64 t6.num, .slice aa6 t6.args.length cc6]) (by simp [results, Try.results68, go_sem, y0, y1, y2, y3]; try rfl) rfl (fin_par (be := 0) (rest := some (t6, tsX)) HPS9.out HCC6.out (HRT5.out.fr HF9.out (fun i hi e => by have := HPL.out; omega)) (((HF1.out.trans HF3.out).trans HF5.out).trans HF9.out) ⟨HLX.out, (fun h => by cases h), fun _ => HNO.out⟩ (fun _ => rfl) (fr4 w6 w.heap.size (.int .i64 t6.kind) (.string t6.text) (.int .i64 t6.num) (.slice aa6 t6.args.length cc6)) HPL.out)
      have hb1 : ((k : Int) == 1) = false := by rw [beq_eq_false_iff_ne]; omega
      have hb2 : ((k : Int) == 2) = false := by rw [beq_eq_false_iff_ne]; omega
      have hb3 : ((k : Int) == 3) = false := by rw [beq_eq_false_iff_ne]; omega
      have hb4 : ((k : Int) == 4) = false := by rw [beq_eq_false_iff_ne]; omega
      have hb5 : ((k : Int) == 5) = false := by rw [beq_eq_false_iff_ne]; omega
      have HRES : Hid (runJ (.lev 9 (((k, tx, nm), at0) :: r)) = none) := Lib.hid (by rw [runJ_prim]; simp [primJ, hk1, hk2, hk3, hk4, hk5])
      clear hk1 hk2 hk3 hk4 hk5
      go_enter Try.func68, Try.ntmps68
      go_upto_region 1 with fail
      rw [← HW1.out]
      go_upto_region 4 with (go_at_call 55; refine HTK.out.mono ?_; rintro e9 w2 ⟨rfl, ⟨a2, c2, hps2⟩, hf2⟩)
      obtain ⟨w3, hw3⟩ : ∃ w3, w3 = w2.alloc (.cells #[.int .i64 (k : Nat), .string (bs tx), .int .i64 (nm : Nat), .int .i64 (at0 : Nat)] 33) := ⟨_, rfl⟩
      rw [← hw3]
      have HB3 : Hid (Below w2.heap.size w2 w3) := Lib.hid (by rw [hw3]; exact below_alloc _ _)
      obtain ⟨bt, hbt⟩ : ∃ bt, bt = w2.heap.size := ⟨_, rfl⟩
      have HTT : Hid (TC w3 bt (k : Nat) (bs tx) (nm : Nat) (at0 : Nat)) := Lib.hid (by rw [hw3, hbt]; exact alloc_tc _ _ _ _ _ _)
      have HF3 : Hid (Fr (fun x => x = pb) w1 w3) := Lib.hid (hf2.trans (.of_below HB3.out))
      have HTC3 := Lib.hid (HTC.out.fr HF3.out (by have := HPL.out; omega))
      have HPS3 := Lib.hid (hps2.below HB3.out)
      have HBT : Hid (w.heap.size < bt) := Lib.hid (by have h1 := hf2.size; have h2 := HS1.out; omega)
      rw [← hbt]
      obtain ⟨z0, z1, z2, z3, zf⟩ := HTT.out
      clear hw3 hbt hps2 hf2 zf c1
      have p1 := HPS3.out.c1
      have pf1 := HPS3.out.fz 1
      have hn1 : ¬ (pb = w.heap.size) := by have := HPL.out; omega
      have hn2 : ¬ (w.heap.size = pb) := by have := HPL.out; omega
      obtain ⟨y0, y1, y2, y3, yf⟩ := HTC3.out
      have yf0 := yf 0
      have yf1 := yf 1
      have yf2 := yf 2
      have yf3 := yf 3
      clear yf
      go_wp2
      exact bodyPost_ret (v := .agg #[.int .i64 0, .string ⟨#[]⟩, .int .i64 0, .slice none 0 0]) (by simp [results, Try.results68, go_sem, y0, y1, y2, y3]; try rfl) rfl (fin_par (be := 0) (wr := w3.setCell ⟨pb, 1, none⟩ (.bool true)) (e := eE) (rest := none) HPS3.out.setBad (by simp [eE, Ex.args]) (.inl rfl) ((HF1.out.trans HF3.out).setCell (p := ⟨pb, 1, none⟩) rfl _) ⟨by simp, fun _ => rfl, fun _ => by rw [if_pos rfl]; exact HRES.out⟩ (fun h => by cases h) (fr4 (w3.setCell ⟨pb, 1, none⟩ (.bool true)) w.heap.size (.int .i64 0) (.string ⟨#[]⟩) (.int .i64 0) (.slice none 0 0)) HPL.out)

end Go.Proofs.Ytpabngicbfcdkaa
