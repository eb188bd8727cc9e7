/-
  Joined texts: THE LAW, walked in company. · THE WAY TO A STOP, WITH A MEASURE: a tree beside the judgement; the orders of the machine's proof. · WHAT ALL GOROUTINES KNOW TOGETHER, and the heap: nobody names a place twice; how it is kept. · WHAT ALL GOROUTINES KNOW TOGETHER, and the trace: whoever may touch a place knows whoever touched it; how it is kept.
-/
import Derived.Test.YtacfhfeegalmlaaWW12
import Derived.Test.YtacfhfeegalmlaaWW1
import Derived.Conc.CrowdStepC2
import Derived.Conc.TokenTrace

/- THE LAW, walked in company. -/
namespace Go.Proofs.Ytacfhfeegalmlaa
open Go.Conc
set_option linter.unusedVariables false
set_option linter.unusedSimpArgs false

noncomputable def body3 : Code := Try.f3.body.getD .skip
def LawQ (e : Exit) (a : Act) (k : Kn) : Prop := (e = .ret ∨ e = .normal) ∧ a.defers = [] ∧ a.tmps.getD 6 undef = .bool true ∧ ∃ b, k.gh = .lone b
theorem start_valid : ∀ x ∈ startL, validN x.1 = true := by
  intro x hx
  simp only [startL, List.mem_cons, List.not_mem_nil, or_false] at hx
  rcases hx with rfl | rfl <;> decide
theorem start_apart : startL.Pairwise fun x y => x.1 ≠ y.1 := by
  simp only [startL, List.pairwise_cons, List.mem_cons, List.not_mem_nil, or_false, forall_eq, List.Pairwise.nil, and_true, false_imp_iff, implies_true]
  decide
set_option maxRecDepth 100000 in
set_option maxHeartbeats 8000000 in
theorem law_k {main : Who} (hO : main.Ours) (hKid : ∀ k g, KidK k g → main.Kid k g) (k : Kn) (n c b : Nat) (sa : Option Addr) (one two : Int) (J : List JobT) (hJn : J.length = n)
    (hgh : k.gh = .lone (b + workN two n + workN one n)) (hd : k.deaf = 0) (hl : k.live = none)
    (hjobs : 0 < n → ∃ jb joff, sa = some ⟨jb, joff, none⟩ ∧ ∀ j Ji, J[j]? = some Ji → JobAt k.ro jb (joff + j * 3) Ji) (hfit0 : ∀ Ji ∈ J, Ji.1.length ≤ 1048576 ∧ Ji.2.1.length ≤ 1048576) :
    body3.wpK Try.prog main 3 LawQ ⟨#[.slice sa n c, .int .i64 one, .int .i64 two] ++ Array.replicate (Try.f3.ntmps - 3) undef, []⟩ k := by
  have hfit : ∀ Ji ∈ J, Ji.1.length < 1099511627776 ∧ Ji.2.1.length < 1099511627776 := fun Ji h => by
    have := hfit0 Ji h
    omega
  simp only [body3, Try.f3, Option.getD_some, Try.ntmps3, List.size_toArray, List.length_cons, List.length_nil, Nat.reduceAdd, Nat.reduceSub, Array.replicate_succ, Array.replicate_zero, List.push_toArray, List.append_toArray, List.nil_append, List.cons_append]
  refine goF ?_
  refine opsK_callv rfl (by rfl) rfl (by first | (walk_nrm; done) | (walk_nrm; rfl)) (boxes_k k) ?_
  rintro _ k1 ⟨rfl, x1⟩
  walk_nrm
  by_cases c1 : 20 < n
  · have e1 : decide ((20 : Int) < (n : Int)) = true := decide_eq_true (by omega)
    refine goF ?_
    exact ⟨.inl rfl, rfl, rfl, _, x1.gh.trans hgh⟩
  have e1 : decide ((20 : Int) < (n : Int)) = false := decide_eq_false (by omega)
  by_cases c2 : one < 1
  · have e2 : decide (one < 1) = true := decide_eq_true c2
    refine goF ?_
    exact ⟨.inl rfl, rfl, rfl, _, x1.gh.trans hgh⟩
  have e2 : decide (one < 1) = false := decide_eq_false c2
  by_cases c3 : two < 1
  · have e3 : decide (two < 1) = true := decide_eq_true c3
    refine goF ?_
    exact ⟨.inl rfl, rfl, rfl, _, x1.gh.trans hgh⟩
  have e3 : decide (two < 1) = false := decide_eq_false c3
  by_cases c4 : 8 < one
  · have e4 : decide (8 < one) = true := decide_eq_true c4
    refine goF ?_
    exact ⟨.inl rfl, rfl, rfl, _, x1.gh.trans hgh⟩
  have e4 : decide (8 < one) = false := decide_eq_false c4
  by_cases c5 : 8 < two
  · have e5 : decide (8 < two) = true := decide_eq_true c5
    refine goF ?_
    exact ⟨.inl rfl, rfl, rfl, _, x1.gh.trans hgh⟩
  have e5 : decide (8 < two) = false := decide_eq_false c5
  refine goF ?_
  refine opsK_buildSlice2 (e := 26) (sz := 2) (z := .agg #[.string ⟨#[]⟩, .int .i64 0]) (cs := #[.string nmTA, .int .i64 1, .string nmTB, .int .i64 2]) rfl (by rfl) rfl rfl rfl (by kernel_rfl) (fun w => by kernel_rfl) (by decide) (by decide) (fun w => by kernel_rfl) (by kernel_rfl) ?_
  (intro b2 hb2; refine hb2.pack (M := fun k1 => OpsK _ _ _ _ _ _ _ k1) _ ?_; intro k2 x2 o2 n2; try simp only [Value.cells] at o2); walk_nrm
  refine goF ?_
  have hcells : ∀ j u, (namedC startL)[j]? = some u → k2.Has ⟨b2, 0 + j, none⟩ u := fun j u hj => by
    rw [Nat.zero_add]
    exact Kn.has_own o2 (by
      match j, hj with
      | 0, hj => exact hj
      | 1, hj => exact hj
      | 2, hj => exact hj
      | 3, hj => exact hj)
  refine opsK_callv rfl (by rfl) rfl (by first | (walk_nrm; done) | (walk_nrm; rfl)) (new_k k2 startL ⟨b2, 0, none⟩ 2 start_valid start_apart (by decide) rfl hcells) ?_
  rintro _ k3 ⟨A, ma, pa, ta, rfl, x3, nA, nma, hA, hLa, hta, ota, eta, sta, sza⟩
  walk_nrm
  refine goF ?_
  refine opsK_callv rfl (by rfl) rfl (by first | (walk_nrm; done) | (walk_nrm; rfl)) (new_k k3 startL ⟨b2, 0, none⟩ 2 start_valid start_apart (by decide) rfl (fun j u hj => x3.has (hcells j u hj))) ?_
  rintro _ k4 ⟨B, mb, pb, tb, rfl, x4, nB, nmb, hB, hLb, htb, otb, etb, stb, szb⟩
  walk_nrm
  refine goF ?_
  refine opsK_sure (.bool false) rfl (by rfl) (fun w => by kernel_rfl) (fun w => by kernel_rfl) ?_; walk_nrm
  refine goF ?_
  refine opsK_sure (.bool false) rfl (by rfl) (fun w => by kernel_rfl) (fun w => by kernel_rfl) ?_; walk_nrm
  refine goF ?_
  obtain ⟨esa, cla, hma, _⟩ := hLa.at_
  obtain ⟨esb, clb, hmb, _⟩ := hLb.at_
  have nAB : A ≠ B := fun e => by rw [← e, hA] at nB; cases nB
  have nAmb : A ≠ mb := fun e => by rw [← e, hA] at nmb; cases nmb
  have nBma : B ≠ ma := fun e => by rw [e, hma] at nB; cases nB
  have nmm : mb ≠ ma := fun e => by rw [e, hma] at nmb; cases nmb
  have gh4 : k4.gh = .lone (b + workN two n + workN one n) := x4.gh.trans (x3.gh.trans (x2.gh.trans (x1.gh.trans hgh)))
  have deaf4 : k4.deaf = 0 := x4.deaf.trans (x3.deaf.trans (x2.deaf.trans (x1.deaf.trans hd)))
  have live4 : k4.live = none := x4.live.trans (x3.live.trans (x2.live.trans (x1.live.trans hl)))
  have ro4 : ∀ a u, k.ro a = some u → k4.ro a = some u := fun a u h => x4.ro _ _ (x3.ro _ _ (x2.ro _ _ (x1.ro _ _ h)))
  have hA4 := x4.own _ _ hA
  have hLa4 := hLa.ext (x4.own _)
  have hta4 := hta.mono x4.ro
  have hj4 : 0 < n → ∃ jb joff, sa = some ⟨jb, joff, none⟩ ∧ ∀ j Ji, J[j]? = some Ji → JobAt k4.ro jb (joff + j * 3) Ji := fun h => by
    obtain ⟨jb, joff, h1, h2⟩ := hjobs h
    exact ⟨jb, joff, h1, fun j Ji hJ => (h2 j Ji hJ).mono ro4⟩
  have hSE : Srt (insAll startL) := by rw [← eta]; exact sta
  have hSL : (insAll startL).length ≤ 2 := by
    have h1 := insF_len startL []
    have h2 : insF startL [] = insAll startL := rfl
    rw [h2] at h1
    have h3 : startL.length = 2 := rfl
    have h4 : ([] : Ents).length = 0 := rfl
    omega
  generalize insAll startL = E at hSE hSL eta etb
  clear x1 x2 x3 x4 hcells o2 n2 hjobs ro4 hgh hd hl hLa hA hma hta
  refine opsK_callv rfl (by rfl) rfl (by first | (walk_nrm; done) | (walk_nrm; rfl)) (runAll_k hO hKid k4 A ma n c (b + workN two n) sa one pa ta J E (by omega) hJn gh4 deaf4 live4 hA4 hLa4 hta4 ota eta hSE (by omega) hj4 hfit) ?_
  intro v1 k5 h1
  obtain ⟨a1, cp1, rfl, r1⟩ := h1.res
  walk_nrm
  refine goF ?_
  have hj5 : 0 < n → ∃ jb joff, sa = some ⟨jb, joff, none⟩ ∧ ∀ j Ji, J[j]? = some Ji → JobAt k5.ro jb (joff + j * 3) Ji := fun h => by
    obtain ⟨jb, joff, h3, h4⟩ := hj4 h
    exact ⟨jb, joff, h3, fun j Ji hJ => (h4 j Ji hJ).mono h1.ro⟩
  refine opsK_callv rfl (by rfl) rfl (by first | (walk_nrm; done) | (walk_nrm; rfl)) (runAll_k hO hKid k5 B mb n c b sa two pb tb J E (by omega) hJn h1.gh h1.deaf h1.live (h1.own B _ (Ne.symm nAB) nBma hB) (hLb.ext fun o h => h1.own mb o (Ne.symm nAmb) nmm h) (htb.mono h1.ro) otb etb hSE (by omega) hj5 hfit) ?_
  intro v2 k6 h2
  obtain ⟨a2, cp2, rfl, r2⟩ := h2.res
  walk_nrm
  have R1 : ∀ i Ji, J[i]? = some Ji → ∃ RB cs, a1 = some ⟨RB, 0, none⟩ ∧ k6.own RB = some (.cells cs 38) ∧ ResAt k6.ro cs i (resJ J E i Ji) := fun i Ji hJ => by
    obtain ⟨RB, cs, e, n4, o5, q⟩ := r1 i Ji hJ
    exact ⟨RB, cs, e, h2.own RB _ (fun e => by rw [e, hB] at n4; cases n4) (fun e => by rw [e, hmb] at n4; cases n4) o5, q.mono h2.ro⟩
  have R2 : ∀ i Ji, J[i]? = some Ji → ∃ RB cs, a2 = some ⟨RB, 0, none⟩ ∧ k6.own RB = some (.cells cs 38) ∧ ResAt k6.ro cs i (resJ J E i Ji) := fun i Ji hJ => by
    obtain ⟨RB, cs, e, n4, o5, q⟩ := r2 i Ji hJ
    exact ⟨RB, cs, e, o5, q⟩
  obtain ⟨p5, t5, hA5, ht5, ot5, et5⟩ := h1.box
  obtain ⟨p6, t6, hB6, ht6, ot6, et6⟩ := h2.box
  have hA6 := h2.own A _ nAB nAmb hA5
  have ht56 := ht5.mono h2.ro
  have g6 := h2.gh
  have hp5 := ht5.ptr
  have hp6 := ht6.ptr
  have hlen6 := stJ_len (E := E) (M := 1048577) (fun Ji h => by have := (hfit0 Ji h).2; omega) n
  generalize (stJ J E n).num = num at hA6 hB6
  generalize (stJ J E n).ents = ES at et5 et6 hlen6
  clear r1 r2 h1 h2 hj4 hj5 hA4 hLa4 hta4 hLb htb hB hmb hA5 ht5 gh4 deaf4 live4
  refine goF ?_
  refine opsK_callv rfl (by rfl) rfl (by first | (walk_nrm; done) | (walk_nrm; rfl)) (version_k k6 A num p5 _ hp5 ⟨_, rfl⟩ hA6) ?_
  rintro _ k7 ⟨rfl, x7⟩
  simp only [intV]
  walk_nrm
  refine goF ?_
  refine opsK_callv rfl (by rfl) rfl (by first | (walk_nrm; done) | (walk_nrm; rfl)) (version_k k7 B num p6 _ hp6 ⟨_, rfl⟩ (x7.own _ _ hB6)) ?_
  rintro _ k8 ⟨rfl, x8⟩
  simp only [intV]
  walk_nrm
  refine goF ?_
  have S1 : ∀ i Ji, J[i]? = some Ji → ∃ RB cs, a1 = some ⟨RB, 0, none⟩ ∧ k8.own RB = some (.cells cs 38) ∧ ResAt k8.ro cs i (resJ J E i Ji) := fun i Ji hJ => by
    obtain ⟨RB, cs, e, o5, q⟩ := R1 i Ji hJ
    exact ⟨RB, cs, e, x8.own _ _ (x7.own _ _ o5), q.mono fun a u h => x8.ro _ _ (x7.ro _ _ h)⟩
  have S2 : ∀ i Ji, J[i]? = some Ji → ∃ RB cs, a2 = some ⟨RB, 0, none⟩ ∧ k8.own RB = some (.cells cs 38) ∧ ResAt k8.ro cs i (resJ J E i Ji) := fun i Ji hJ => by
    obtain ⟨RB, cs, e, o5, q⟩ := R2 i Ji hJ
    exact ⟨RB, cs, e, x8.own _ _ (x7.own _ _ o5), q.mono fun a u h => x8.ro _ _ (x7.ro _ _ h)⟩
  have hA8 := x8.own _ _ (x7.own _ _ hA6)
  have hB8 := x8.own _ _ (x7.own _ _ hB6)
  have ht58 := ht56.mono fun a u h => x8.ro _ _ (x7.ro _ _ h)
  have ht68 := ht6.mono fun a u h => x8.ro _ _ (x7.ro _ _ h)
  have g8 : k8.gh = .lone b := x8.gh.trans (x7.gh.trans g6)
  clear x7 x8 R1 R2 hA6 hB6 ht56 ht6 g6 e1 e2 e3 e4 e5
  refine wpK_midB (M := fun a' k' => k8 = k' ∧ ∃ T' : Array Value, a' = ⟨T', []⟩ ∧ T' = #[(fun j => T'.getD j undef) 0, (fun j => T'.getD j undef) 1, (fun j => T'.getD j undef) 2, (fun j => T'.getD j undef) 3, (fun j => T'.getD j undef) 4, (fun j => T'.getD j undef) 5, (fun j => T'.getD j undef) 6, (fun j => T'.getD j undef) 7, .pointer (some ⟨A, 0, none⟩), (fun j => T'.getD j undef) 9, .pointer (some ⟨B, 0, none⟩), (fun j => T'.getD j undef) 11, (fun j => T'.getD j undef) 12, (fun j => T'.getD j undef) 13, (fun j => T'.getD j undef) 14, (fun j => T'.getD j undef) 15, (fun j => T'.getD j undef) 16, (fun j => T'.getD j undef) 17, (fun j => T'.getD j undef) 18, (fun j => T'.getD j undef) 19, (fun j => T'.getD j undef) 20, (fun j => T'.getD j undef) 21, (fun j => T'.getD j undef) 22, (fun j => T'.getD j undef) 23, (fun j => T'.getD j undef) 24, (fun j => T'.getD j undef) 25, (fun j => T'.getD j undef) 26, (fun j => T'.getD j undef) 27, (fun j => T'.getD j undef) 28, (fun j => T'.getD j undef) 29, (fun j => T'.getD j undef) 30, (fun j => T'.getD j undef) 31, (fun j => T'.getD j undef) 32, (fun j => T'.getD j undef) 33, (fun j => T'.getD j undef) 34, (fun j => T'.getD j undef) 35, (fun j => T'.getD j undef) 36, (fun j => T'.getD j undef) 37, (fun j => T'.getD j undef) 38, (fun j => T'.getD j undef) 39, (fun j => T'.getD j undef) 40, (fun j => T'.getD j undef) 41, (fun j => T'.getD j undef) 42, (fun j => T'.getD j undef) 43, (fun j => T'.getD j undef) 44, (fun j => T'.getD j undef) 45, (fun j => T'.getD j undef) 46, (fun j => T'.getD j undef) 47, (fun j => T'.getD j undef) 48, (fun j => T'.getD j undef) 49, (fun j => T'.getD j undef) 50, (fun j => T'.getD j undef) 51, (fun j => T'.getD j undef) 52, (fun j => T'.getD j undef) 53, (fun j => T'.getD j undef) 54, (fun j => T'.getD j undef) 55, (fun j => T'.getD j undef) 56, (fun j => T'.getD j undef) 57, (fun j => T'.getD j undef) 58, (fun j => T'.getD j undef) 59, (fun j => T'.getD j undef) 60, (fun j => T'.getD j undef) 61, (fun j => T'.getD j undef) 62, (fun j => T'.getD j undef) 63, (fun j => T'.getD j undef) 64, (fun j => T'.getD j undef) 65, (fun j => T'.getD j undef) 66, (fun j => T'.getD j undef) 67, (fun j => T'.getD j undef) 68, (fun j => T'.getD j undef) 69, (fun j => T'.getD j undef) 70, (fun j => T'.getD j undef) 71, (fun j => T'.getD j undef) 72, (fun j => T'.getD j undef) 73, (fun j => T'.getD j undef) 74, (fun j => T'.getD j undef) 75, (fun j => T'.getD j undef) 76, (fun j => T'.getD j undef) 77, (fun j => T'.getD j undef) 78, (fun j => T'.getD j undef) 79, (fun j => T'.getD j undef) 80, (fun j => T'.getD j undef) 81, (fun j => T'.getD j undef) 82, (fun j => T'.getD j undef) 83, (fun j => T'.getD j undef) 84, (fun j => T'.getD j undef) 85, (fun j => T'.getD j undef) 86, (fun j => T'.getD j undef) 87, (fun j => T'.getD j undef) 88, (fun j => T'.getD j undef) 89, (fun j => T'.getD j undef) 90, (fun j => T'.getD j undef) 91, (fun j => T'.getD j undef) 92, (fun j => T'.getD j undef) 93, (fun j => T'.getD j undef) 94, (fun j => T'.getD j undef) 95, (fun j => T'.getD j undef) 96, (fun j => T'.getD j undef) 97, (fun j => T'.getD j undef) 98, (fun j => T'.getD j undef) 99, (fun j => T'.getD j undef) 100, (fun j => T'.getD j undef) 101, (fun j => T'.getD j undef) 102, (fun j => T'.getD j undef) 103, (fun j => T'.getD j undef) 104, (fun j => T'.getD j undef) 105, (fun j => T'.getD j undef) 106, (fun j => T'.getD j undef) 107, (fun j => T'.getD j undef) 108, (fun j => T'.getD j undef) 109, (fun j => T'.getD j undef) 110, (fun j => T'.getD j undef) 111, (fun j => T'.getD j undef) 112, (fun j => T'.getD j undef) 113, (fun j => T'.getD j undef) 114, (fun j => T'.getD j undef) 115, (fun j => T'.getD j undef) 116, (fun j => T'.getD j undef) 117, (fun j => T'.getD j undef) 118, (fun j => T'.getD j undef) 119, (fun j => T'.getD j undef) 120, (fun j => T'.getD j undef) 121, (fun j => T'.getD j undef) 122, (fun j => T'.getD j undef) 123, (fun j => T'.getD j undef) 124, (fun j => T'.getD j undef) 125, (fun j => T'.getD j undef) 126, (fun j => T'.getD j undef) 127, (fun j => T'.getD j undef) 128, (fun j => T'.getD j undef) 129, (fun j => T'.getD j undef) 130, (fun j => T'.getD j undef) 131, (fun j => T'.getD j undef) 132, (fun j => T'.getD j undef) 133, (fun j => T'.getD j undef) 134, (fun j => T'.getD j undef) 135, (fun j => T'.getD j undef) 136, (fun j => T'.getD j undef) 137, (fun j => T'.getD j undef) 138, (fun j => T'.getD j undef) 139, (fun j => T'.getD j undef) 140, (fun j => T'.getD j undef) 141, (fun j => T'.getD j undef) 142, (fun j => T'.getD j undef) 143, (fun j => T'.getD j undef) 144, (fun j => T'.getD j undef) 145, (fun j => T'.getD j undef) 146, (fun j => T'.getD j undef) 147, (fun j => T'.getD j undef) 148, (fun j => T'.getD j undef) 149, (fun j => T'.getD j undef) 150, (fun j => T'.getD j undef) 151, (fun j => T'.getD j undef) 152, (fun j => T'.getD j undef) 153, (fun j => T'.getD j undef) 154]) ?_ ?_
  · clear hA8 hB8 ht58 ht68 g8
    refine wpK_loop (measure fun i => n - i).wf (I := fun i a' k' => k8 = k' ∧ i ≤ n ∧ ∃ T' : Array Value, a' = ⟨T', []⟩ ∧ T' = #[(fun j => T'.getD j undef) 0, (fun j => T'.getD j undef) 1, (fun j => T'.getD j undef) 2, (fun j => T'.getD j undef) 3, (fun j => T'.getD j undef) 4, (fun j => T'.getD j undef) 5, (fun j => T'.getD j undef) 6, (fun j => T'.getD j undef) 7, .pointer (some ⟨A, 0, none⟩), (fun j => T'.getD j undef) 9, .pointer (some ⟨B, 0, none⟩), (fun j => T'.getD j undef) 11, .slice a1 n cp1, .slice a2 n cp2, .int .i64 i, (fun j => T'.getD j undef) 15, (fun j => T'.getD j undef) 16, (fun j => T'.getD j undef) 17, (fun j => T'.getD j undef) 18, (fun j => T'.getD j undef) 19, (fun j => T'.getD j undef) 20, (fun j => T'.getD j undef) 21, (fun j => T'.getD j undef) 22, (fun j => T'.getD j undef) 23, (fun j => T'.getD j undef) 24, (fun j => T'.getD j undef) 25, (fun j => T'.getD j undef) 26, (fun j => T'.getD j undef) 27, (fun j => T'.getD j undef) 28, (fun j => T'.getD j undef) 29, (fun j => T'.getD j undef) 30, (fun j => T'.getD j undef) 31, (fun j => T'.getD j undef) 32, (fun j => T'.getD j undef) 33, (fun j => T'.getD j undef) 34, (fun j => T'.getD j undef) 35, (fun j => T'.getD j undef) 36, (fun j => T'.getD j undef) 37, (fun j => T'.getD j undef) 38, (fun j => T'.getD j undef) 39, (fun j => T'.getD j undef) 40, (fun j => T'.getD j undef) 41, (fun j => T'.getD j undef) 42, (fun j => T'.getD j undef) 43, (fun j => T'.getD j undef) 44, (fun j => T'.getD j undef) 45, (fun j => T'.getD j undef) 46, (fun j => T'.getD j undef) 47, (fun j => T'.getD j undef) 48, (fun j => T'.getD j undef) 49, (fun j => T'.getD j undef) 50, (fun j => T'.getD j undef) 51, (fun j => T'.getD j undef) 52, (fun j => T'.getD j undef) 53, (fun j => T'.getD j undef) 54, (fun j => T'.getD j undef) 55, (fun j => T'.getD j undef) 56, (fun j => T'.getD j undef) 57, (fun j => T'.getD j undef) 58, (fun j => T'.getD j undef) 59, (fun j => T'.getD j undef) 60, (fun j => T'.getD j undef) 61, (fun j => T'.getD j undef) 62, (fun j => T'.getD j undef) 63, (fun j => T'.getD j undef) 64, (fun j => T'.getD j undef) 65, (fun j => T'.getD j undef) 66, (fun j => T'.getD j undef) 67, (fun j => T'.getD j undef) 68, (fun j => T'.getD j undef) 69, (fun j => T'.getD j undef) 70, (fun j => T'.getD j undef) 71, (fun j => T'.getD j undef) 72, (fun j => T'.getD j undef) 73, (fun j => T'.getD j undef) 74, (fun j => T'.getD j undef) 75, (fun j => T'.getD j undef) 76, (fun j => T'.getD j undef) 77, (fun j => T'.getD j undef) 78, (fun j => T'.getD j undef) 79, (fun j => T'.getD j undef) 80, (fun j => T'.getD j undef) 81, (fun j => T'.getD j undef) 82, (fun j => T'.getD j undef) 83, (fun j => T'.getD j undef) 84, (fun j => T'.getD j undef) 85, (fun j => T'.getD j undef) 86, (fun j => T'.getD j undef) 87, (fun j => T'.getD j undef) 88, (fun j => T'.getD j undef) 89, (fun j => T'.getD j undef) 90, (fun j => T'.getD j undef) 91, (fun j => T'.getD j undef) 92, (fun j => T'.getD j undef) 93, (fun j => T'.getD j undef) 94, (fun j => T'.getD j undef) 95, (fun j => T'.getD j undef) 96, (fun j => T'.getD j undef) 97, (fun j => T'.getD j undef) 98, (fun j => T'.getD j undef) 99, (fun j => T'.getD j undef) 100, (fun j => T'.getD j undef) 101, (fun j => T'.getD j undef) 102, (fun j => T'.getD j undef) 103, (fun j => T'.getD j undef) 104, (fun j => T'.getD j undef) 105, (fun j => T'.getD j undef) 106, (fun j => T'.getD j undef) 107, (fun j => T'.getD j undef) 108, (fun j => T'.getD j undef) 109, (fun j => T'.getD j undef) 110, (fun j => T'.getD j undef) 111, (fun j => T'.getD j undef) 112, (fun j => T'.getD j undef) 113, (fun j => T'.getD j undef) 114, (fun j => T'.getD j undef) 115, (fun j => T'.getD j undef) 116, (fun j => T'.getD j undef) 117, (fun j => T'.getD j undef) 118, (fun j => T'.getD j undef) 119, (fun j => T'.getD j undef) 120, (fun j => T'.getD j undef) 121, (fun j => T'.getD j undef) 122, (fun j => T'.getD j undef) 123, (fun j => T'.getD j undef) 124, (fun j => T'.getD j undef) 125, (fun j => T'.getD j undef) 126, (fun j => T'.getD j undef) 127, (fun j => T'.getD j undef) 128, (fun j => T'.getD j undef) 129, (fun j => T'.getD j undef) 130, (fun j => T'.getD j undef) 131, (fun j => T'.getD j undef) 132, (fun j => T'.getD j undef) 133, (fun j => T'.getD j undef) 134, (fun j => T'.getD j undef) 135, (fun j => T'.getD j undef) 136, (fun j => T'.getD j undef) 137, (fun j => T'.getD j undef) 138, (fun j => T'.getD j undef) 139, (fun j => T'.getD j undef) 140, (fun j => T'.getD j undef) 141, (fun j => T'.getD j undef) 142, (fun j => T'.getD j undef) 143, (fun j => T'.getD j undef) 144, (fun j => T'.getD j undef) 145, (fun j => T'.getD j undef) 146, (fun j => T'.getD j undef) 147, (fun j => T'.getD j undef) 148, (fun j => T'.getD j undef) 149, (fun j => T'.getD j undef) 150, (fun j => T'.getD j undef) 151, (fun j => T'.getD j undef) 152, (fun j => T'.getD j undef) 153, (fun j => T'.getD j undef) 154]) (x := 0) ⟨rfl, Nat.zero_le _, _, rfl, rfl⟩ ?_
    rintro i _ _ ⟨rfl, hi, T', rfl, hT'⟩
    obtain ⟨y, rfl⟩ : ∃ y : Nat → Value, T' = #[y 0, y 1, y 2, y 3, y 4, y 5, y 6, y 7, .pointer (some ⟨A, 0, none⟩), y 9, .pointer (some ⟨B, 0, none⟩), y 11, .slice a1 n cp1, .slice a2 n cp2, .int .i64 i, y 15, y 16, y 17, y 18, y 19, y 20, y 21, y 22, y 23, y 24, y 25, y 26, y 27, y 28, y 29, y 30, y 31, y 32, y 33, y 34, y 35, y 36, y 37, y 38, y 39, y 40, y 41, y 42, y 43, y 44, y 45, y 46, y 47, y 48, y 49, y 50, y 51, y 52, y 53, y 54, y 55, y 56, y 57, y 58, y 59, y 60, y 61, y 62, y 63, y 64, y 65, y 66, y 67, y 68, y 69, y 70, y 71, y 72, y 73, y 74, y 75, y 76, y 77, y 78, y 79, y 80, y 81, y 82, y 83, y 84, y 85, y 86, y 87, y 88, y 89, y 90, y 91, y 92, y 93, y 94, y 95, y 96, y 97, y 98, y 99, y 100, y 101, y 102, y 103, y 104, y 105, y 106, y 107, y 108, y 109, y 110, y 111, y 112, y 113, y 114, y 115, y 116, y 117, y 118, y 119, y 120, y 121, y 122, y 123, y 124, y 125, y 126, y 127, y 128, y 129, y 130, y 131, y 132, y 133, y 134, y 135, y 136, y 137, y 138, y 139, y 140, y 141, y 142, y 143, y 144, y 145, y 146, y 147, y 148, y 149, y 150, y 151, y 152, y 153, y 154] := ⟨fun j => T'.getD j undef, hT'⟩
    clear hT'
    by_cases hlt : i < n
    · have d1 : decide ((i : Int) < (n : Int)) = true := by simp; omega
      have w1 : IntKind.i64.wrap ((i : Int) + 1) = ((i + 1 : Nat) : Int) := by rw [wr64 (by omega) (by omega)]; rfl
      obtain ⟨Ji, hJi⟩ : ∃ Ji, J[i]? = some Ji := ⟨J[i]'(by omega), List.getElem?_eq_getElem (by omega)⟩
      obtain ⟨RB1, cs1, rfl, o1, q1⟩ := S1 i Ji hJi
      obtain ⟨RB2, cs2, rfl, o2, q2⟩ := S2 i Ji hJi
      have hsaw : (resJ J E i Ji).saw.length < 1099511627776 := Nat.lt_of_le_of_lt resJ_len (hfit Ji (List.mem_of_getElem? hJi)).1
      generalize resJ J E i Ji = pr at q1 q2 hsaw
      obtain ⟨sv1, u0, u1, u2, u3⟩ := q1.at_
      obtain ⟨sv2, v0, v1, v2, v3⟩ := q2.at_
      obtain ⟨saw, ver, err⟩ := pr
      have l0 : k8.Has ⟨RB1, i * 3, none⟩ sv1 := Kn.has_own o1 u0
      have l1 : k8.Has ⟨RB1, i * 3 + 1, none⟩ (.int .i64 ver) := Kn.has_own o1 u1
      have l2 : k8.Has ⟨RB1, i * 3 + 2, none⟩ (okErr err) := Kn.has_own o1 u2
      have m0 : k8.Has ⟨RB2, i * 3, none⟩ sv2 := Kn.has_own o2 v0
      have m1 : k8.Has ⟨RB2, i * 3 + 1, none⟩ (.int .i64 ver) := Kn.has_own o2 v1
      have m2 : k8.Has ⟨RB2, i * 3 + 2, none⟩ (okErr err) := Kn.has_own o2 v2
      have u3 : RoSl k8.ro sv1 saw.length 1 (saw.map intV) := u3
      have v3 : RoSl k8.ro sv2 saw.length 1 (saw.map intV) := v3
      have hsaw : saw.length < 1099511627776 := hsaw
      obtain ⟨ad1, sc1, rfl, _⟩ := u3.at_
      obtain ⟨ad2, sc2, rfl, _⟩ := v3.at_
      clear S1 S2 q1 q2 u0 u1 u2 v0 v1 v2 o1 o2
      refine goF ?_
      have sK : k8 = k8 := rfl
      (refine wpK_region_held (fun k' => k8 = k') (by kernel_rfl) ?_; simp only [List.size_toArray, List.length_cons, List.length_nil, Nat.reduceAdd, Nat.zero_add])
      refine tkE 0 ?_
      refine tkE 1 ?_
      refine tkE 2 ?_
      refine tkE 3 ?_
      refine tkE 4 ?_
      refine tkE 5 ?_
      refine tkE 6 ?_
      refine tkE 7 ?_
      refine tkE 8 ?_
      refine tkE 9 ?_
      refine tkE 10 ?_
      refine tkE 11 ?_
      refine tkE 12 ?_
      refine tkE 13 ?_
      refine tkE 14 ?_
      refine tkE 15 ?_
      refine tkE 16 ?_
      (refine takeK_call (i := 17) rfl (by rfl) (by kernel_rfl) (by kernel_rfl) (by kernel_rfl) (by first | assumption | exact Kn.Grow.refl _ | rfl) rfl (by walk_nrm) (fun k' _ => num_k k' err) ?_; try walk_nrm)
      refine tkE 18 ?_
      refine tkE 19 ?_
      refine tkE 20 ?_
      refine tkE 21 ?_
      refine tkE 22 ?_
      (refine takeK_call (i := 23) rfl (by rfl) (by kernel_rfl) (by kernel_rfl) (by kernel_rfl) (by first | assumption | exact Kn.Grow.refl _ | rfl) rfl (by walk_nrm) (fun k' _ => num_k k' err) ?_; try walk_nrm)
      simp only [intV]
      refine tkE 24 ?_
      refine tkE 25 ?_
      refine tkE 26 ?_
      refine tkE 27 ?_
      refine tkE 28 ?_
      refine tkE 29 ?_
      refine tkE 30 ?_
      refine tkE 31 ?_
      refine tkE 32 ?_
      refine tkE 33 ?_
      refine tkE 34 ?_
      refine tkE 35 ?_
      refine tkE 36 ?_
      (refine takeK_call (i := 37) rfl (by rfl) (by kernel_rfl) (by kernel_rfl) (by kernel_rfl) (by first | assumption | exact Kn.Grow.refl _ | rfl) rfl (by walk_nrm) (fun k' h => ids_at h u3 v3 hsaw) ?_; try walk_nrm)
      refine tkF 38 ?_
      refine tkF 39 ?_
      (refine anyK_done (by kernel_rfl) ?_ _; simp only [thenK, blockK, if_true, if_false, reduceIte, Nat.reduceEqDiff])
      refine goF ?_
      refine ⟨i + 1, ?_, (by first | rfl | trivial), by omega, _, rfl, rfl⟩
      simp [WellFoundedRelation.rel, measure, invImage, InvImage]; omega
    · have d1 : decide ((i : Int) < (n : Int)) = false := by simp; omega
      refine goF ?_
      exact ⟨(by first | rfl | trivial), _, rfl, rfl⟩
  rintro _ _ ⟨rfl, T', rfl, hT'⟩
  obtain ⟨y, rfl⟩ : ∃ y : Nat → Value, T' = #[y 0, y 1, y 2, y 3, y 4, y 5, y 6, y 7, .pointer (some ⟨A, 0, none⟩), y 9, .pointer (some ⟨B, 0, none⟩), y 11, y 12, y 13, y 14, y 15, y 16, y 17, y 18, y 19, y 20, y 21, y 22, y 23, y 24, y 25, y 26, y 27, y 28, y 29, y 30, y 31, y 32, y 33, y 34, y 35, y 36, y 37, y 38, y 39, y 40, y 41, y 42, y 43, y 44, y 45, y 46, y 47, y 48, y 49, y 50, y 51, y 52, y 53, y 54, y 55, y 56, y 57, y 58, y 59, y 60, y 61, y 62, y 63, y 64, y 65, y 66, y 67, y 68, y 69, y 70, y 71, y 72, y 73, y 74, y 75, y 76, y 77, y 78, y 79, y 80, y 81, y 82, y 83, y 84, y 85, y 86, y 87, y 88, y 89, y 90, y 91, y 92, y 93, y 94, y 95, y 96, y 97, y 98, y 99, y 100, y 101, y 102, y 103, y 104, y 105, y 106, y 107, y 108, y 109, y 110, y 111, y 112, y 113, y 114, y 115, y 116, y 117, y 118, y 119, y 120, y 121, y 122, y 123, y 124, y 125, y 126, y 127, y 128, y 129, y 130, y 131, y 132, y 133, y 134, y 135, y 136, y 137, y 138, y 139, y 140, y 141, y 142, y 143, y 144, y 145, y 146, y 147, y 148, y 149, y 150, y 151, y 152, y 153, y 154] := ⟨fun j => T'.getD j undef, hT'⟩
  clear hT' S1 S2
  have hES : ES.length < 30000000 := by omega
  refine goF ?_
  refine opsK_callv rfl (by rfl) rfl (by first | (walk_nrm; done) | (walk_nrm; rfl)) (list_k k8 A num p5 _ t5 ht58 ⟨_, rfl⟩ hA8 (by rw [et5]; omega)) ?_
  intro v9 k9 h9
  obtain ⟨y9, w9⟩ := h9
  rw [et5] at w9
  obtain ⟨a9, c9, rfl, z9⟩ := w9.named
  walk_nrm
  refine goF ?_
  refine opsK_callv rfl (by rfl) rfl (by first | (walk_nrm; done) | (walk_nrm; rfl)) (list_k k9 B num p6 _ t6 (ht68.mono y9.ro) ⟨_, rfl⟩ (y9.own _ _ hB8) (by rw [et6]; omega)) ?_
  intro v10 k10 h10
  obtain ⟨y10, w10⟩ := h10
  rw [et6] at w10
  obtain ⟨a10, c10, rfl, z10⟩ := w10.named
  have z9 : ∀ j x, ES[j]? = some x → ∃ b, a9 = some ⟨b, 0, none⟩ ∧ k10.Has ⟨b, j * 2, none⟩ (.string x.1) ∧ k10.Has ⟨b, j * 2 + 1, none⟩ (.int .i64 x.2) := fun j x hj => by
    obtain ⟨b, e, g1, g2⟩ := z9 j x hj
    exact ⟨b, e, y10.has g1, y10.has g2⟩
  have g10 : k10.gh = .lone b := y10.gh.trans (y9.gh.trans g8)
  clear y9 y10 w9 w10 hA8 hB8 ht58 ht68 g8 et5 et6 hlen6 hp5 hp6 ot5 ot6
  walk_nrm
  refine goF ?_
  refine wpK_midB (M := fun a' k' => k10 = k' ∧ ∃ T' : Array Value, a' = ⟨T', []⟩ ∧ T' = #[(fun j => T'.getD j undef) 0, (fun j => T'.getD j undef) 1, (fun j => T'.getD j undef) 2, (fun j => T'.getD j undef) 3, (fun j => T'.getD j undef) 4, (fun j => T'.getD j undef) 5, (fun j => T'.getD j undef) 6, (fun j => T'.getD j undef) 7, (fun j => T'.getD j undef) 8, (fun j => T'.getD j undef) 9, (fun j => T'.getD j undef) 10, (fun j => T'.getD j undef) 11, (fun j => T'.getD j undef) 12, (fun j => T'.getD j undef) 13, (fun j => T'.getD j undef) 14, (fun j => T'.getD j undef) 15, (fun j => T'.getD j undef) 16, (fun j => T'.getD j undef) 17, (fun j => T'.getD j undef) 18, (fun j => T'.getD j undef) 19, (fun j => T'.getD j undef) 20, (fun j => T'.getD j undef) 21, (fun j => T'.getD j undef) 22, (fun j => T'.getD j undef) 23, (fun j => T'.getD j undef) 24, (fun j => T'.getD j undef) 25, (fun j => T'.getD j undef) 26, (fun j => T'.getD j undef) 27, (fun j => T'.getD j undef) 28, (fun j => T'.getD j undef) 29, (fun j => T'.getD j undef) 30, (fun j => T'.getD j undef) 31, (fun j => T'.getD j undef) 32, (fun j => T'.getD j undef) 33, (fun j => T'.getD j undef) 34, (fun j => T'.getD j undef) 35, (fun j => T'.getD j undef) 36, (fun j => T'.getD j undef) 37, (fun j => T'.getD j undef) 38, (fun j => T'.getD j undef) 39, (fun j => T'.getD j undef) 40, (fun j => T'.getD j undef) 41, (fun j => T'.getD j undef) 42, (fun j => T'.getD j undef) 43, (fun j => T'.getD j undef) 44, (fun j => T'.getD j undef) 45, (fun j => T'.getD j undef) 46, (fun j => T'.getD j undef) 47, (fun j => T'.getD j undef) 48, (fun j => T'.getD j undef) 49, (fun j => T'.getD j undef) 50, (fun j => T'.getD j undef) 51, (fun j => T'.getD j undef) 52, (fun j => T'.getD j undef) 53, (fun j => T'.getD j undef) 54, (fun j => T'.getD j undef) 55, (fun j => T'.getD j undef) 56, (fun j => T'.getD j undef) 57, (fun j => T'.getD j undef) 58, (fun j => T'.getD j undef) 59, (fun j => T'.getD j undef) 60, (fun j => T'.getD j undef) 61, (fun j => T'.getD j undef) 62, (fun j => T'.getD j undef) 63, (fun j => T'.getD j undef) 64, (fun j => T'.getD j undef) 65, (fun j => T'.getD j undef) 66, (fun j => T'.getD j undef) 67, (fun j => T'.getD j undef) 68, (fun j => T'.getD j undef) 69, (fun j => T'.getD j undef) 70, (fun j => T'.getD j undef) 71, (fun j => T'.getD j undef) 72, (fun j => T'.getD j undef) 73, (fun j => T'.getD j undef) 74, (fun j => T'.getD j undef) 75, (fun j => T'.getD j undef) 76, (fun j => T'.getD j undef) 77, (fun j => T'.getD j undef) 78, (fun j => T'.getD j undef) 79, (fun j => T'.getD j undef) 80, (fun j => T'.getD j undef) 81, (fun j => T'.getD j undef) 82, (fun j => T'.getD j undef) 83, (fun j => T'.getD j undef) 84, (fun j => T'.getD j undef) 85, (fun j => T'.getD j undef) 86, (fun j => T'.getD j undef) 87, (fun j => T'.getD j undef) 88, (fun j => T'.getD j undef) 89, (fun j => T'.getD j undef) 90, (fun j => T'.getD j undef) 91, (fun j => T'.getD j undef) 92, (fun j => T'.getD j undef) 93, (fun j => T'.getD j undef) 94, (fun j => T'.getD j undef) 95, (fun j => T'.getD j undef) 96, (fun j => T'.getD j undef) 97, (fun j => T'.getD j undef) 98, (fun j => T'.getD j undef) 99, (fun j => T'.getD j undef) 100, (fun j => T'.getD j undef) 101, (fun j => T'.getD j undef) 102, (fun j => T'.getD j undef) 103, (fun j => T'.getD j undef) 104, (fun j => T'.getD j undef) 105, (fun j => T'.getD j undef) 106, (fun j => T'.getD j undef) 107, (fun j => T'.getD j undef) 108, (fun j => T'.getD j undef) 109, (fun j => T'.getD j undef) 110, (fun j => T'.getD j undef) 111, (fun j => T'.getD j undef) 112, (fun j => T'.getD j undef) 113, (fun j => T'.getD j undef) 114, (fun j => T'.getD j undef) 115, (fun j => T'.getD j undef) 116, (fun j => T'.getD j undef) 117, (fun j => T'.getD j undef) 118, (fun j => T'.getD j undef) 119, (fun j => T'.getD j undef) 120, (fun j => T'.getD j undef) 121, (fun j => T'.getD j undef) 122, (fun j => T'.getD j undef) 123, (fun j => T'.getD j undef) 124, (fun j => T'.getD j undef) 125, (fun j => T'.getD j undef) 126, (fun j => T'.getD j undef) 127, (fun j => T'.getD j undef) 128, (fun j => T'.getD j undef) 129, (fun j => T'.getD j undef) 130, (fun j => T'.getD j undef) 131, (fun j => T'.getD j undef) 132, (fun j => T'.getD j undef) 133, (fun j => T'.getD j undef) 134, (fun j => T'.getD j undef) 135, (fun j => T'.getD j undef) 136, (fun j => T'.getD j undef) 137, (fun j => T'.getD j undef) 138, (fun j => T'.getD j undef) 139, (fun j => T'.getD j undef) 140, (fun j => T'.getD j undef) 141, (fun j => T'.getD j undef) 142, (fun j => T'.getD j undef) 143, (fun j => T'.getD j undef) 144, (fun j => T'.getD j undef) 145, (fun j => T'.getD j undef) 146, (fun j => T'.getD j undef) 147, (fun j => T'.getD j undef) 148, (fun j => T'.getD j undef) 149, (fun j => T'.getD j undef) 150, (fun j => T'.getD j undef) 151, (fun j => T'.getD j undef) 152, (fun j => T'.getD j undef) 153, (fun j => T'.getD j undef) 154]) ?_ ?_
  · refine wpK_loop (measure fun i => ES.length - i).wf (I := fun i a' k' => k10 = k' ∧ i ≤ ES.length ∧ ∃ T' : Array Value, a' = ⟨T', []⟩ ∧ T' = #[(fun j => T'.getD j undef) 0, (fun j => T'.getD j undef) 1, (fun j => T'.getD j undef) 2, (fun j => T'.getD j undef) 3, (fun j => T'.getD j undef) 4, (fun j => T'.getD j undef) 5, (fun j => T'.getD j undef) 6, (fun j => T'.getD j undef) 7, (fun j => T'.getD j undef) 8, (fun j => T'.getD j undef) 9, (fun j => T'.getD j undef) 10, (fun j => T'.getD j undef) 11, (fun j => T'.getD j undef) 12, (fun j => T'.getD j undef) 13, (fun j => T'.getD j undef) 14, .slice a9 ES.length c9, .slice a10 ES.length c10, .int .i64 i, (fun j => T'.getD j undef) 18, (fun j => T'.getD j undef) 19, (fun j => T'.getD j undef) 20, (fun j => T'.getD j undef) 21, (fun j => T'.getD j undef) 22, (fun j => T'.getD j undef) 23, (fun j => T'.getD j undef) 24, (fun j => T'.getD j undef) 25, (fun j => T'.getD j undef) 26, (fun j => T'.getD j undef) 27, (fun j => T'.getD j undef) 28, (fun j => T'.getD j undef) 29, (fun j => T'.getD j undef) 30, (fun j => T'.getD j undef) 31, (fun j => T'.getD j undef) 32, (fun j => T'.getD j undef) 33, (fun j => T'.getD j undef) 34, (fun j => T'.getD j undef) 35, (fun j => T'.getD j undef) 36, (fun j => T'.getD j undef) 37, (fun j => T'.getD j undef) 38, (fun j => T'.getD j undef) 39, (fun j => T'.getD j undef) 40, (fun j => T'.getD j undef) 41, (fun j => T'.getD j undef) 42, (fun j => T'.getD j undef) 43, (fun j => T'.getD j undef) 44, (fun j => T'.getD j undef) 45, (fun j => T'.getD j undef) 46, (fun j => T'.getD j undef) 47, (fun j => T'.getD j undef) 48, (fun j => T'.getD j undef) 49, (fun j => T'.getD j undef) 50, (fun j => T'.getD j undef) 51, (fun j => T'.getD j undef) 52, (fun j => T'.getD j undef) 53, (fun j => T'.getD j undef) 54, (fun j => T'.getD j undef) 55, (fun j => T'.getD j undef) 56, (fun j => T'.getD j undef) 57, (fun j => T'.getD j undef) 58, (fun j => T'.getD j undef) 59, (fun j => T'.getD j undef) 60, (fun j => T'.getD j undef) 61, (fun j => T'.getD j undef) 62, (fun j => T'.getD j undef) 63, (fun j => T'.getD j undef) 64, (fun j => T'.getD j undef) 65, (fun j => T'.getD j undef) 66, (fun j => T'.getD j undef) 67, (fun j => T'.getD j undef) 68, (fun j => T'.getD j undef) 69, (fun j => T'.getD j undef) 70, (fun j => T'.getD j undef) 71, (fun j => T'.getD j undef) 72, (fun j => T'.getD j undef) 73, (fun j => T'.getD j undef) 74, (fun j => T'.getD j undef) 75, (fun j => T'.getD j undef) 76, (fun j => T'.getD j undef) 77, (fun j => T'.getD j undef) 78, (fun j => T'.getD j undef) 79, (fun j => T'.getD j undef) 80, (fun j => T'.getD j undef) 81, (fun j => T'.getD j undef) 82, (fun j => T'.getD j undef) 83, (fun j => T'.getD j undef) 84, (fun j => T'.getD j undef) 85, (fun j => T'.getD j undef) 86, (fun j => T'.getD j undef) 87, (fun j => T'.getD j undef) 88, (fun j => T'.getD j undef) 89, (fun j => T'.getD j undef) 90, (fun j => T'.getD j undef) 91, (fun j => T'.getD j undef) 92, (fun j => T'.getD j undef) 93, (fun j => T'.getD j undef) 94, (fun j => T'.getD j undef) 95, (fun j => T'.getD j undef) 96, (fun j => T'.getD j undef) 97, (fun j => T'.getD j undef) 98, (fun j => T'.getD j undef) 99, (fun j => T'.getD j undef) 100, (fun j => T'.getD j undef) 101, (fun j => T'.getD j undef) 102, (fun j => T'.getD j undef) 103, (fun j => T'.getD j undef) 104, (fun j => T'.getD j undef) 105, (fun j => T'.getD j undef) 106, (fun j => T'.getD j undef) 107, (fun j => T'.getD j undef) 108, (fun j => T'.getD j undef) 109, (fun j => T'.getD j undef) 110, (fun j => T'.getD j undef) 111, (fun j => T'.getD j undef) 112, (fun j => T'.getD j undef) 113, (fun j => T'.getD j undef) 114, (fun j => T'.getD j undef) 115, (fun j => T'.getD j undef) 116, (fun j => T'.getD j undef) 117, (fun j => T'.getD j undef) 118, (fun j => T'.getD j undef) 119, (fun j => T'.getD j undef) 120, (fun j => T'.getD j undef) 121, (fun j => T'.getD j undef) 122, (fun j => T'.getD j undef) 123, (fun j => T'.getD j undef) 124, (fun j => T'.getD j undef) 125, (fun j => T'.getD j undef) 126, (fun j => T'.getD j undef) 127, (fun j => T'.getD j undef) 128, (fun j => T'.getD j undef) 129, (fun j => T'.getD j undef) 130, (fun j => T'.getD j undef) 131, (fun j => T'.getD j undef) 132, (fun j => T'.getD j undef) 133, (fun j => T'.getD j undef) 134, (fun j => T'.getD j undef) 135, (fun j => T'.getD j undef) 136, (fun j => T'.getD j undef) 137, (fun j => T'.getD j undef) 138, (fun j => T'.getD j undef) 139, (fun j => T'.getD j undef) 140, (fun j => T'.getD j undef) 141, (fun j => T'.getD j undef) 142, (fun j => T'.getD j undef) 143, (fun j => T'.getD j undef) 144, (fun j => T'.getD j undef) 145, (fun j => T'.getD j undef) 146, (fun j => T'.getD j undef) 147, (fun j => T'.getD j undef) 148, (fun j => T'.getD j undef) 149, (fun j => T'.getD j undef) 150, (fun j => T'.getD j undef) 151, (fun j => T'.getD j undef) 152, (fun j => T'.getD j undef) 153, (fun j => T'.getD j undef) 154]) (x := 0) ⟨rfl, Nat.zero_le _, _, rfl, rfl⟩ ?_
    rintro i _ _ ⟨rfl, hi, T', rfl, hT'⟩
    obtain ⟨y, rfl⟩ : ∃ y : Nat → Value, T' = #[y 0, y 1, y 2, y 3, y 4, y 5, y 6, y 7, y 8, y 9, y 10, y 11, y 12, y 13, y 14, .slice a9 ES.length c9, .slice a10 ES.length c10, .int .i64 i, y 18, y 19, y 20, y 21, y 22, y 23, y 24, y 25, y 26, y 27, y 28, y 29, y 30, y 31, y 32, y 33, y 34, y 35, y 36, y 37, y 38, y 39, y 40, y 41, y 42, y 43, y 44, y 45, y 46, y 47, y 48, y 49, y 50, y 51, y 52, y 53, y 54, y 55, y 56, y 57, y 58, y 59, y 60, y 61, y 62, y 63, y 64, y 65, y 66, y 67, y 68, y 69, y 70, y 71, y 72, y 73, y 74, y 75, y 76, y 77, y 78, y 79, y 80, y 81, y 82, y 83, y 84, y 85, y 86, y 87, y 88, y 89, y 90, y 91, y 92, y 93, y 94, y 95, y 96, y 97, y 98, y 99, y 100, y 101, y 102, y 103, y 104, y 105, y 106, y 107, y 108, y 109, y 110, y 111, y 112, y 113, y 114, y 115, y 116, y 117, y 118, y 119, y 120, y 121, y 122, y 123, y 124, y 125, y 126, y 127, y 128, y 129, y 130, y 131, y 132, y 133, y 134, y 135, y 136, y 137, y 138, y 139, y 140, y 141, y 142, y 143, y 144, y 145, y 146, y 147, y 148, y 149, y 150, y 151, y 152, y 153, y 154] := ⟨fun j => T'.getD j undef, hT'⟩
    clear hT'
    by_cases hlt : i < ES.length
    · have d1 : decide ((i : Int) < (ES.length : Int)) = true := by simp; omega
      have w1 : IntKind.i64.wrap ((i : Int) + 1) = ((i + 1 : Nat) : Int) := by rw [wr64 (by omega) (by omega)]; rfl
      obtain ⟨⟨s, x⟩, hx⟩ : ∃ x, ES[i]? = some x := ⟨ES[i], List.getElem?_eq_getElem hlt⟩
      obtain ⟨q1, rfl, ga, gb⟩ := z9 i _ hx
      obtain ⟨q2, rfl, gc, gd⟩ := z10 i _ hx
      clear z9 z10
      refine goF ?_
      have sK : k10 = k10 := rfl
      (refine wpK_region_held (fun k' => k10 = k') (by kernel_rfl) ?_; simp only [List.size_toArray, List.length_cons, List.length_nil, Nat.reduceAdd, Nat.zero_add])
      refine tkF 0 ?_
      refine tkF 1 ?_
      refine tkF 2 ?_
      refine takeK_loadN (i := 3) (vs := [.string s, .int .i64 x]) rfl (by rfl) (by kernel_rfl) (by kernel_rfl) (by kernel_rfl) sK rfl rfl (fun w => by kernel_rfl) (fun w => by kernel_rfl) (fun k' h => by subst h; exact reads2 ga gb) ?_
      walk_nrm
      refine tkF 4 ?_
      refine tkF 5 ?_
      refine tkF 6 ?_
      refine takeK_loadN (i := 7) (vs := [.string s, .int .i64 x]) rfl (by rfl) (by kernel_rfl) (by kernel_rfl) (by kernel_rfl) sK rfl rfl (fun w => by kernel_rfl) (fun w => by kernel_rfl) (fun k' h => by subst h; exact reads2 gc gd) ?_
      walk_nrm
      refine anyK_trip 8 (by kernel_rfl) rfl (by rfl) (exec_neqNamed (s := s) (n := x) rfl rfl rfl ⟨sK, ?_⟩)
      walk_nrm
      (refine anyK_done (by kernel_rfl) ?_ _; simp only [thenK, blockK, if_true, if_false, reduceIte, Nat.reduceEqDiff])
      refine goF ?_
      refine ⟨i + 1, ?_, (by first | rfl | trivial), by omega, _, rfl, rfl⟩
      simp [WellFoundedRelation.rel, measure, invImage, InvImage]; omega
    · have d1 : decide ((i : Int) < (ES.length : Int)) = false := by simp; omega
      obtain rfl : i = ES.length := by omega
      refine goF ?_
      exact ⟨(by first | rfl | trivial), _, rfl, rfl⟩
  rintro _ _ ⟨rfl, T', rfl, hT'⟩
  obtain ⟨y, rfl⟩ : ∃ y : Nat → Value, T' = #[y 0, y 1, y 2, y 3, y 4, y 5, y 6, y 7, y 8, y 9, y 10, y 11, y 12, y 13, y 14, y 15, y 16, y 17, y 18, y 19, y 20, y 21, y 22, y 23, y 24, y 25, y 26, y 27, y 28, y 29, y 30, y 31, y 32, y 33, y 34, y 35, y 36, y 37, y 38, y 39, y 40, y 41, y 42, y 43, y 44, y 45, y 46, y 47, y 48, y 49, y 50, y 51, y 52, y 53, y 54, y 55, y 56, y 57, y 58, y 59, y 60, y 61, y 62, y 63, y 64, y 65, y 66, y 67, y 68, y 69, y 70, y 71, y 72, y 73, y 74, y 75, y 76, y 77, y 78, y 79, y 80, y 81, y 82, y 83, y 84, y 85, y 86, y 87, y 88, y 89, y 90, y 91, y 92, y 93, y 94, y 95, y 96, y 97, y 98, y 99, y 100, y 101, y 102, y 103, y 104, y 105, y 106, y 107, y 108, y 109, y 110, y 111, y 112, y 113, y 114, y 115, y 116, y 117, y 118, y 119, y 120, y 121, y 122, y 123, y 124, y 125, y 126, y 127, y 128, y 129, y 130, y 131, y 132, y 133, y 134, y 135, y 136, y 137, y 138, y 139, y 140, y 141, y 142, y 143, y 144, y 145, y 146, y 147, y 148, y 149, y 150, y 151, y 152, y 153, y 154] := ⟨fun j => T'.getD j undef, hT'⟩
  clear hT'
  refine goF ?_
  exact ⟨.inl rfl, rfl, rfl, _, g10⟩
end Go.Proofs.Ytacfhfeegalmlaa

/- THE WAY TO A STOP, WITH A MEASURE: a tree beside the judgement; the orders of the machine's proof. -/
namespace Go.Proofs.Ytacfhfeegalmlaa
open Go.Conc
open Go.ConcR (KK wgBlock WgAt stA smA rd wr)
set_option linter.unusedVariables false
set_option linter.unusedSimpArgs false

section
variable (P : Program) (W : Who) (S : Kn → Goroutine → Prop) (k : Kn) (g : Goroutine)
structure RecvEF (X : RunC) (q wg left i j : Nat) (z : Value) : Prop where
  gh : k.gh = .wk X q wg left (.job i false)
  le : j ≤ i
  deaf : k.deaf = 0
  run : g.status = .running
  comm : ∀ w, k.Sat w → stepG P W.main g w = .comm g #[rcase (X.ex j) z] true (.recv false) w #[]
  next : ∀ k', k.Grow k' → W.Pub X j k'.ro → S k' (Go.Conc.served g z)
structure RecvTF (X : RunC) (q wg left i : Nat) (z : Value) : Prop where
  gh : k.gh = .wk X q wg left (.job i false)
  deaf : k.deaf = 0
  run : g.status = .running
  comm : ∀ w, k.Sat w → stepG P W.main g w = .comm g #[rcase (X.ex i) z] true (.recv false) w #[]
  next : ∀ kt, W.Tok X i kt → k.Disj kt → S { k.join kt with gh := .wk X q wg left (.job i true) } (Go.Conc.served g z)
structure CloseEF (k1 kt : Kn) (g' : Goroutine) (X : RunC) (j : Nat) (gh' : Gh) : Prop where
  cl : Closes k X j k1 kt gh'
  deaf : k.deaf = 0
  run : g.status = .running
  wakes : mayWake P g = true
  split : k.Split k1 kt
  tok : W.Tok X j kt
  pub : W.Pub X j k.ro
  go : ∀ w, k.Sat w → w.heap[X.ex j]? = some chanO → stepG P W.main g w = .go g' (w.setChan (X.ex j) 0 #[] true 0 0 false) (closeEvents (X.ex j))
  next : S { k1 with gh := gh' } g'
structure RecvQF (X : RunC) (q wg left : Nat) (z : Value) : Prop where
  gh : k.gh = .wk X q wg left .idle
  deaf : k.deaf = 0
  run : g.status = .running
  comm : ∀ w, k.Sat w → stepG P W.main g w = .comm g #[rcase q z] true (.recv true) w #[]
  next : ∀ i l, i < X.n → left = l + 1 → S { k with gh := .wk X q wg l (.job i false) } (Go.Conc.served g (.tuple #[.int .i64 i, .bool true]))
  shut : S { k with gh := .wkf X q wg } (Go.Conc.served g (.tuple #[z, .bool false]))
structure ShareF (X : RunC) (q wg b : Nat) : Prop where
  gh : k.gh = .run X b
  oq : k.own q = some chanO
  ow : k.own wg = some (wgBlock W.wgT 0 0)
  ne : q ≠ wg
  next : S { k.minus q with gh := .par X q wg 0 0 b } g
structure SpawnF (g' c : Goroutine) (X : RunC) (q wg m b : Nat) : Prop where
  gh : k.gh = .par X q wg m 0 (b + 1)
  deaf : k.deaf = 0
  run : g.status = .running
  go : ∀ w, k.Sat w → stepG P W.main g w = .spawn g' c w #[]
  crun : c.status = .running
  kid : W.Kid (k.child (.wk X q wg X.n .idle)) c
  next : S { k with gh := .par X q wg (m + 1) 0 b } g'
structure SendQF (X : RunC) (q wg m s b : Nat) (z : Value) : Prop where
  gh : k.gh = .par X q wg m s b
  lt : s < X.n
  pos : 0 < m
  deaf : k.deaf = 0
  run : g.status = .running
  comm : ∀ w, k.Sat w → stepG P W.main g w = .comm g #[scase q (.int .i64 s) z] true .send w #[]
  next : S { k with gh := .par X q wg m (s + 1) b } (Go.Conc.served g undef)
structure CloseQF (g' : Goroutine) (X : RunC) (q wg m b : Nat) : Prop where
  gh : k.gh = .par X q wg m X.n b
  pos : 0 < m
  lt : m < 2147483648
  deaf : k.deaf = 0
  run : g.status = .running
  wakes : mayWake P g = true
  ow : k.own wg = some (wgBlock W.wgT (m * KK) 0)
  go : ∀ w s, k.Sat w → w.heap[q]? = some (.chan 0 #[] false s s false) → stepG P W.main g w = .go g' (w.setChan q 0 #[] true s s false) (closeEvents q)
  next : S { k.minus wg with live := some (wg, W.wgT), gh := .shut X q wg m m b } g'
structure WLoadF (X : RunC) (q wg m B b : Nat) (G' : Nat → Goroutine) : Prop where
  gh : k.gh = .shut X q wg m B b
  deaf : 0 < k.deaf
  run : g.status = .running
  go : ∀ w v, k.Sat w → v ≤ B → WgAt W.wgT wg w (v * KK) 0 → stepG P W.main g w = .go (G' v) w #[rd (stA wg)]
  next : ∀ v, v ≤ B → S { k with gh := if v = 0 then .fin X q wg m b else .shut X q wg m v b } (G' v)
structure WCasF (g1 g2 : Goroutine) (X : RunC) (q wg m B b : Nat) : Prop where
  gh : k.gh = .shut X q wg m (B + 1) b
  deaf : 0 < k.deaf
  run : g.status = .running
  hit : ∀ w, k.Sat w → WgAt W.wgT wg w (((B + 1 : Nat) : Int) * KK) 0 → stepG P W.main g w = .go g1 (w.setCell (stA wg) (.int .u64 (((B + 1 : Nat) : Int) * KK + 1))) #[rd (stA wg), wr (stA wg)]
  miss : ∀ w v, k.Sat w → v ≤ B → WgAt W.wgT wg w (v * KK) 0 → stepG P W.main g w = .go g2 w #[rd (stA wg)]
  next1 : S { k with gh := .reg X q wg m b } g1
  next2 : S { k with gh := .shut X q wg m B b } g2
structure WWriteF (g' : Goroutine) (X : RunC) (q wg m b : Nat) (a : Addr) : Prop where
  gh : k.gh = .reg X q wg m b
  blk : a.block = wg
  run : g.status = .running
  go : ∀ w, k.Sat w → stepG P W.main g w = .go g' w #[⟨.mark (.write a), false, true⟩]
  next : S k g'
structure WSemF (g' : Goroutine) (X : RunC) (q wg m b : Nat) : Prop where
  gh : k.gh = .reg X q wg m b
  deaf : 0 < k.deaf
  run : g.status = .running
  offers : g.offers = none
  waits : ∀ w st, k.Sat w → WgAt W.wgT wg w st 0 → stepG P W.main g w = .go { g with status := .blocked } w #[]
  takes : ∀ w, k.Sat w → WgAt W.wgT wg w 0 1 → stepG P W.main g w = .go g' (w.setCell (smA wg) (.int .u32 0)) (semEvents (smA wg))
  next : S { k with gh := .fin X q wg m b } g'
structure WLoad0F (g' : Goroutine) (X : RunC) (q wg m b : Nat) : Prop where
  gh : k.gh = .fin X q wg m b
  deaf : 0 < k.deaf
  run : g.status = .running
  go : ∀ w, k.Sat w → WgAt W.wgT wg w 0 0 → stepG P W.main g w = .go g' w #[rd (stA wg)]
  next : S k g'
structure WAcqF (g' : Goroutine) (X : RunC) (q wg m b : Nat) : Prop where
  gh : k.gh = .fin X q wg m b
  deaf : k.deaf = 0
  run : g.status = .running
  go : ∀ w, stepG P W.main g w = .go g' w #[⟨.mark (.acquire (stA wg)), false, true⟩]
  next : ∀ kt, W.Tok X X.n kt → k.Disj kt → S { k.join kt with live := none, gh := .lone b } g'
/-- ONE STEP ON THE WAY. -/
inductive GKF : Prop
  | step (nx : World → Kn) : g.status = .running →
      (∀ w, k.Sat w → (stepG P W.main g w).goes fun _ w' es => k.Step (nx w) w w' es) →
      (∀ w g' w' es, k.Sat w → stepG P W.main g w = .go g' w' es → S (nx w) g') → GKF
  | mark (g' : Goroutine) (m : Mark) : tameMark m = true → g.status = .running → (∀ w, stepG P W.main g w = .go g' w #[⟨.mark m, false, true⟩]) → S (k.said m) g' → GKF
  | turn (k1 : Kn) : k.Turn k1 → S k1 g → GKF
  | recvE (X : RunC) (q wg left i j : Nat) (z : Value) : RecvEF P W S k g X q wg left i j z → GKF
  | recvT (X : RunC) (q wg left i : Nat) (z : Value) : RecvTF P W S k g X q wg left i z → GKF
  | closeE (k1 kt : Kn) (g' : Goroutine) (X : RunC) (j : Nat) (gh' : Gh) : CloseEF P W S k g k1 kt g' X j gh' → GKF
  | recvQ (X : RunC) (q wg left : Nat) (z : Value) : RecvQF P W S k g X q wg left z → GKF
  | share (X : RunC) (q wg b : Nat) : ShareF W S k g X q wg b → GKF
  | spawn (g' c : Goroutine) (X : RunC) (q wg m b : Nat) : SpawnF P W S k g g' c X q wg m b → GKF
  | sendQ (X : RunC) (q wg m s b : Nat) (z : Value) : SendQF P W S k g X q wg m s b z → GKF
  | closeQ (g' : Goroutine) (X : RunC) (q wg m b : Nat) : CloseQF P W S k g g' X q wg m b → GKF
  | wLoad (X : RunC) (q wg m B b : Nat) (G' : Nat → Goroutine) : WLoadF P W S k g X q wg m B b G' → GKF
  | wCas (g1 g2 : Goroutine) (X : RunC) (q wg m B b : Nat) : WCasF P W S k g g1 g2 X q wg m B b → GKF
  | wWrite (g' : Goroutine) (X : RunC) (q wg m b : Nat) (a : Addr) : WWriteF P W S k g g' X q wg m b a → GKF
  | wSem (g' : Goroutine) (X : RunC) (q wg m b : Nat) : WSemF P W S k g g' X q wg m b → GKF
  | wLoad0 (g' : Goroutine) (X : RunC) (q wg m b : Nat) : WLoad0F P W S k g g' X q wg m b → GKF
  | wAcq (g' : Goroutine) (X : RunC) (q wg m b : Nat) : WAcqF P W S k g g' X q wg m b → GKF
end

inductive Tree where
  | leaf
  | mk (f : Kn × Goroutine → Tree)
def GKR (P : Program) (W : Who) (Stop : Kn → Goroutine → Prop) : Tree → Kn → Goroutine → Prop
  | .leaf => Stop
  | .mk f => fun k g => GKF P W (fun k' g' => GKR P W Stop (f (k', g')) k' g') k g
open Classical in
theorem GK.tree {P : Program} {W : Who} {Stop : Kn → Goroutine → Prop} {k : Kn} {g : Goroutine} (h : GK P W Stop k g) : ∃ t, GKR P W Stop t k g := by
  have ne : Nonempty Tree := ⟨.leaf⟩
  let f0 : Kn × Goroutine → Tree := fun x => epsilon (fun t => GKR P W Stop t x.1 x.2)
  have get : ∀ {k' g'}, (∃ t, GKR P W Stop t k' g') → GKR P W Stop (f0 (k', g')) k' g' := fun h => epsilon_spec h
  induction h with
  | stop h => exact ⟨.leaf, h⟩
  | step nx hs h1 _ ih => exact ⟨.mk f0, GKF.step nx hs h1 fun w g' w' es hw e => get (ih w g' w' es hw e)⟩
  | @mark _ _ g' m hm hs h1 _ ih => exact ⟨.mk f0, GKF.mark g' m hm hs h1 (get ih)⟩
  | @turn _ k1 _ h _ ih => exact ⟨.mk f0, GKF.turn k1 h (get ih)⟩
  | recvE X q wg left i j z h1 h2 h3 h4 h5 _ ih => exact ⟨.mk f0, GKF.recvE X q wg left i j z ⟨h1, h2, h3, h4, h5, fun k' a b => get (ih k' a b)⟩⟩
  | recvT X q wg left i z h1 h2 h3 h4 _ ih => exact ⟨.mk f0, GKF.recvT X q wg left i z ⟨h1, h2, h3, h4, fun k' a b => get (ih k' a b)⟩⟩
  | @closeE _ k1 kt _ g' X j gh' h1 h2 h3 hm h4 h5 h6 h7 _ ih => exact ⟨.mk f0, GKF.closeE k1 kt g' X j gh' ⟨h1, h2, h3, hm, h4, h5, h6, h7, get ih⟩⟩
  | recvQ X q wg left z h1 h2 h3 h4 _ _ ih1 ih2 => exact ⟨.mk f0, GKF.recvQ X q wg left z ⟨h1, h2, h3, h4, fun i l a b => get (ih1 i l a b), get ih2⟩⟩
  | share X q wg b h1 h2 h3 h4 _ ih => exact ⟨.mk f0, GKF.share X q wg b ⟨h1, h2, h3, h4, get ih⟩⟩
  | @spawn _ _ g' c X q wg m b h1 h2 h3 h4 h5 h6 _ ih => exact ⟨.mk f0, GKF.spawn g' c X q wg m b ⟨h1, h2, h3, h4, h5, h6, get ih⟩⟩
  | sendQ X q wg m s b z h1 h2 h3 h4 h5 h6 _ ih => exact ⟨.mk f0, GKF.sendQ X q wg m s b z ⟨h1, h2, h3, h4, h5, h6, get ih⟩⟩
  | @closeQ _ _ g' X q wg m b h1 h2 h3 h4 h5 hm h6 h7 _ ih => exact ⟨.mk f0, GKF.closeQ g' X q wg m b ⟨h1, h2, h3, h4, h5, hm, h6, h7, get ih⟩⟩
  | wLoad X q wg m B b G' h1 h2 h3 h4 _ ih => exact ⟨.mk f0, GKF.wLoad X q wg m B b G' ⟨h1, h2, h3, h4, fun v hv => get (ih v hv)⟩⟩
  | @wCas _ _ g1 g2 X q wg m B b h1 h2 h3 h4 h5 _ _ ih1 ih2 => exact ⟨.mk f0, GKF.wCas g1 g2 X q wg m B b ⟨h1, h2, h3, h4, h5, get ih1, get ih2⟩⟩
  | @wWrite _ _ g' X q wg m b a h1 h2 h3 h4 _ ih => exact ⟨.mk f0, GKF.wWrite g' X q wg m b a ⟨h1, h2, h3, h4, get ih⟩⟩
  | @wSem _ _ g' X q wg m b h1 h2 h3 h4 h5 h6 _ ih => exact ⟨.mk f0, GKF.wSem g' X q wg m b ⟨h1, h2, h3, h4, h5, h6, get ih⟩⟩
  | @wLoad0 _ _ g' X q wg m b h1 h2 h3 h4 _ ih => exact ⟨.mk f0, GKF.wLoad0 g' X q wg m b ⟨h1, h2, h3, h4, get ih⟩⟩
  | @wAcq _ _ g' X q wg m b h1 h2 h3 h4 _ ih => exact ⟨.mk f0, GKF.wAcq g' X q wg m b ⟨h1, h2, h3, h4, fun k' a b => get (ih k' a b)⟩⟩
theorem GKF.silent_or_running {P : Program} {W : Who} {S : Kn → Goroutine → Prop} {k : Kn} {g : Goroutine} (hS : ∀ k g, S k g → g.status = .running) (h : GKF P W S k g) : g.status = .running := by
  cases h with
  | step _ h _ _ => exact h
  | mark _ _ _ h _ _ => exact h
  | turn _ _ h => exact hS _ _ h
  | recvE _ _ _ _ _ _ _ h => exact h.run
  | recvT _ _ _ _ _ _ h => exact h.run
  | closeE _ _ _ _ _ _ h => exact h.run
  | recvQ _ _ _ _ _ h => exact h.run
  | share _ _ _ _ h => exact hS _ _ h.next
  | spawn _ _ _ _ _ _ _ h => exact h.run
  | sendQ _ _ _ _ _ _ _ h => exact h.run
  | closeQ _ _ _ _ _ _ h => exact h.run
  | wLoad _ _ _ _ _ _ _ h => exact h.run
  | wCas _ _ _ _ _ _ _ _ h => exact h.run
  | wWrite _ _ _ _ _ _ _ h => exact h.run
  | wSem _ _ _ _ _ _ h => exact h.run
  | wLoad0 _ _ _ _ _ _ h => exact h.run
  | wAcq _ _ _ _ _ _ h => exact h.run
theorem GKR.running {P : Program} {W : Who} {Stop : Kn → Goroutine → Prop} (hS : ∀ k g, Stop k g → g.status = .running) : ∀ {t : Tree} {k : Kn} {g : Goroutine}, GKR P W Stop t k g → g.status = .running
  | .leaf, _, _, h => hS _ _ h
  | .mk f, _, _, h => GKF.silent_or_running (fun _ _ x => GKR.running hS x) h

/-! ### orders -/
def Tree.Sub (a : Tree) : Tree → Prop
  | .leaf => False
  | .mk f => ∃ x, a = f x
theorem Tree.sub_wf : WellFounded Tree.Sub := by
  refine ⟨fun t => ?_⟩
  induction t with
  | leaf => exact ⟨_, fun _ h => h.elim⟩
  | mk f ih => exact ⟨_, fun _ ⟨x, e⟩ => e ▸ ih x⟩
abbrev Rank := Nat × Tree × Nat
def Rank.Lt : Rank → Rank → Prop := Prod.Lex (· < ·) (Prod.Lex Tree.Sub (· < ·))
theorem Rank.wf : WellFounded Rank.Lt := (Prod.lex Nat.lt_wfRel (Prod.lex ⟨Tree.Sub, Tree.sub_wf⟩ Nat.lt_wfRel)).wf
theorem Rank.irrefl (x : Rank) : ¬ Rank.Lt x x := Rank.wf.induction (C := fun x => ¬ Rank.Lt x x) x fun x ih hx => ih x hx hx
theorem Rank.stage {s s' : Nat} {x y : Tree × Nat} (h : s' < s) : Rank.Lt (s', x) (s, y) := Prod.Lex.left _ _ h
theorem Rank.child {s : Nat} {f : Kn × Goroutine → Tree} {x : Kn × Goroutine} {n m : Nat} : Rank.Lt (s, f x, n) (s, .mk f, m) := Prod.Lex.right _ (Prod.Lex.left _ _ ⟨x, rfl⟩)
theorem Rank.fuel {s : Nat} {t : Tree} {n m : Nat} (h : n < m) : Rank.Lt (s, t, n) (s, t, m) := Prod.Lex.right _ (Prod.Lex.right _ h)
/-- Some of the first N go down; none of them goes up. -/
def RLt (N : Nat) (r' r : Nat → Rank) : Prop := (∀ i, i < N → r' i = r i ∨ Rank.Lt (r' i) (r i)) ∧ ∃ i, i < N ∧ Rank.Lt (r' i) (r i)
theorem rlt_wf : ∀ N, WellFounded (RLt N)
  | 0 => ⟨fun r => ⟨_, fun r' ⟨_, i, hi, _⟩ => by omega⟩⟩
  | N + 1 => by
    have ih := rlt_wf N
    have key : ∀ x : Rank, ∀ r, r N = x → Acc (RLt (N + 1)) r := by
      intro x
      induction x using Rank.wf.induction with
      | _ x ihx =>
        intro r
        induction r using ih.induction with
        | _ r ihr =>
          intro hr
          refine ⟨_, fun r' ⟨h1, i, hi, h2⟩ => ?_⟩
          rcases h1 N (Nat.lt_succ_self N) with h | h
          · refine ihr r' ⟨fun j hj => h1 j (by omega), ?_⟩ (h.trans hr)
            have : i ≠ N := fun e => by
              subst e
              rw [h] at h2
              exact Rank.irrefl (r i) h2
            exact ⟨i, by omega, h2⟩
          · exact ihx _ (hr ▸ h) r' rfl
    exact ⟨fun r => key _ r rfl⟩
def NR (a b : Nat × (Nat → Rank)) : Prop := a.1 = b.1 ∧ RLt b.1 a.2 b.2
theorem nr_wf : WellFounded NR := by
  refine ⟨fun ⟨N, r⟩ => ?_⟩
  induction r using (rlt_wf N).induction with
  | _ r ih =>
    refine ⟨_, fun ⟨N', r'⟩ ⟨h1, h2⟩ => ?_⟩
    simp only at h1 h2
    subst h1
    exact ih r' h2
abbrev Mu := Nat × (Nat × (Nat → Rank)) × Nat
def Mu.Lt : Mu → Mu → Prop := Prod.Lex (· < ·) (Prod.Lex NR (· < ·))
theorem Mu.wf : WellFounded Mu.Lt := (Prod.lex Nat.lt_wfRel (Prod.lex ⟨NR, nr_wf⟩ Nat.lt_wfRel)).wf
theorem Mu.budget {b b' : Nat} {x y : (Nat × (Nat → Rank)) × Nat} (h : b' < b) : Mu.Lt (b', x) (b, y) := Prod.Lex.left _ _ h
theorem Mu.rank {b N f f' : Nat} {r r' : Nat → Rank} (h : RLt N r' r) : Mu.Lt (b, (N, r'), f') (b, (N, r), f) := Prod.Lex.right _ (Prod.Lex.left _ _ ⟨rfl, h⟩)
theorem Mu.flag {b f f' : Nat} {x : Nat × (Nat → Rank)} (h : f' < f) : Mu.Lt (b, x, f') (b, x, f) := Prod.Lex.right _ (Prod.Lex.right _ h)

/-- THE RULE: an invariant with a measure; a view may turn without a step of the machine. -/
theorem run_of_inv' {P : Program} {α : Type} {r : α → α → Prop} (wf : WellFounded r) (Inv : α → Machine → Trace → Prop) (Q : Machine → Outcome → World → Trace → Prop)
    (h : ∀ μ m t, Inv μ m t → (∃ o w ops, stepT P m = (.ended o w, ops) ∧ Q m o w (t ++ ops)) ∨ (∃ m' ops μ', stepT P m = (.next m', ops) ∧ r μ' μ ∧ Inv μ' m' (t ++ ops)) ∨ ∃ μ', r μ' μ ∧ Inv μ' m t) :
    ∀ μ m t, Inv μ m t → ∃ n last o w t', runNT P (n + 1) m t = (.ended o w, t') ∧ runN P n m = .next last ∧ step P last = .ended o w ∧ Q last o w t' := by
  intro μ
  induction μ using wf.induction with
  | _ μ ih =>
    intro m t hI
    rcases h μ m t hI with ⟨o, w, ops, hs, hq⟩ | ⟨m', ops, μ', hs, hr, hI'⟩ | ⟨μ', hr, hI'⟩
    · exact ⟨0, m, o, w, t ++ ops, by simp [runNT, hs], rfl, by simp [step, hs], hq⟩
    · obtain ⟨n, last, o, w, t', h1, h2, h3, h4⟩ := ih μ' hr m' (t ++ ops) hI'
      exact ⟨n + 1, last, o, w, t', by rw [runNT_succ_next hs]; exact h1, by rw [runN_succ_next hs]; exact h2, h3, h4⟩
    · exact ih μ' hr m t hI'
end Go.Proofs.Ytacfhfeegalmlaa

/- WHAT ALL GOROUTINES KNOW TOGETHER, and the heap: nobody names a place twice; how it is kept. -/
namespace Go.Proofs.Ytacfhfeegalmlaa
open Go.Conc
open Go.ConcN (upd upd_same upd_ne)
set_option linter.unusedVariables false
set_option linter.unusedSimpArgs false

theorem cell_lt {w : World} {a : Addr} {v : Value} (h : w.cell? a = some v) : a.block < w.heap.size := by
  unfold World.cell? at h
  cases e1 : w.heap[a.block]? with
  | none => rw [e1] at h; cases h
  | some _ => exact (Array.getElem?_eq_some_iff.1 e1).1
theorem cell_same {w w' : World} {a : Addr} (h : w'.heap[a.block]? = w.heap[a.block]?) : w'.cell? a = w.cell? a ∧ w'.frozen? a = w.frozen? a := by
  unfold World.cell? World.frozen?
  rw [h]
  exact ⟨rfl, rfl⟩
/-- The world fits (the group's block aside). -/
structure SatH (k : Kn) (w : World) : Prop where
  ro : ∀ a v, k.ro a = some v → w.cell? a = some v
  own : ∀ b o, k.own b = some o → w.heap[b]? = some o
  oc : ∀ a v, k.oc a = some v → w.cell? a = some v ∧ w.frozen? a = false
  ro_own : ∀ a v, k.ro a = some v → k.own a.block = none
  oc_own : ∀ a v, k.oc a = some v → k.own a.block = none
  oc_ro : ∀ a v, k.oc a = some v → k.ro a = none
theorem Kn.Sat.h {k : Kn} {w : World} (h : k.Sat w) : SatH k w := ⟨h.ro, h.own, h.oc, h.ro_own, h.oc_own, h.oc_ro⟩
theorem SatH.sat {k : Kn} {w : World} (h : SatH k w) (hl : ∀ b t, k.live = some (b, t) → (k.own b = none ∧ ∀ a v, k.oc a = some v → a.block ≠ b) ∧ ∃ st sm, Go.ConcR.WgAt t b w st sm) : k.Sat w := ⟨h.ro, h.own, h.oc, h.ro_own, h.oc_own, h.oc_ro, hl⟩
theorem SatH.sat0 {k : Kn} {w : World} (h : SatH k w) (hl : k.live = none) : k.Sat w := h.sat fun b t e => by rw [hl] at e; cases e
theorem SatH.own_lt {k : Kn} {w : World} (h : SatH k w) {b : Nat} (hb : k.own b ≠ none) : b < w.heap.size := by
  obtain ⟨o, ho⟩ := Option.ne_none_iff_exists'.1 hb
  exact (Array.getElem?_eq_some_iff.1 (h.own b o ho)).1
theorem SatH.oc_lt {k : Kn} {w : World} (h : SatH k w) {a : Addr} (hb : k.oc a ≠ none) : a.block < w.heap.size := by
  obtain ⟨o, ho⟩ := Option.ne_none_iff_exists'.1 hb
  exact cell_lt (h.oc a o ho).1
theorem SatH.oc_own' {k : Kn} {w : World} (h : SatH k w) {a : Addr} (hb : k.oc a ≠ none) : k.own a.block = none := by
  obtain ⟨o, ho⟩ := Option.ne_none_iff_exists'.1 hb
  exact h.oc_own a o ho
theorem SatH.has {k : Kn} {w : World} (h : SatH k w) {a : Addr} {v : Value} (hc : k.Has a v) : w.cell? a = some v := by
  rcases hc with hc | ⟨c, t, f, h1, h2, h3⟩ | hc
  · exact h.ro a v hc
  · have := h.own _ _ h1
    unfold World.cell?
    rw [this]
    simp [h2, h3]
  · exact (h.oc a v hc).1
/-- Knows nothing, has nothing. -/
def Kn.emp : Kn := { ro := fun _ => none, own := fun _ => none, oc := fun _ => none, deaf := 0, live := none, gh := .lone 0 }

structure HInv (K : Nat → Kn) (RO : Addr → Option Value) (Sp : Nat → Prop) (n0 : Nat) (w : World) : Prop where
  sat : ∀ p, SatH (K p) w
  ro : ∀ p a v, (K p).ro a = some v → RO a = some v
  rosat : ∀ a v, RO a = some v → w.cell? a = some v
  oo : ∀ p p' b, p ≠ p' → (K p).own b ≠ none → (K p').own b = none
  ooc : ∀ p p' a, p ≠ p' → (K p).own a.block ≠ none → (K p').oc a = none
  cc : ∀ p p' a, p ≠ p' → (K p).oc a ≠ none → (K p').oc a = none
  ownRO : ∀ p a, (K p).own a.block ≠ none → RO a = none
  ocRO : ∀ p a, (K p).oc a ≠ none → RO a = none
  sp : ∀ b, Sp b → b < w.heap.size ∧ n0 ≤ b ∧ (∀ p, (K p).own b = none) ∧ (∀ p a, (K p).oc a ≠ none → a.block ≠ b) ∧ ∀ a, RO a ≠ none → a.block ≠ b
  old : ∀ b, b < n0 → (∀ p, (K p).own b = none) ∧ ∀ p a, (K p).oc a ≠ none → a.block ≠ b
  n0 : n0 ≤ w.heap.size

section
variable {K K' : Nat → Kn} {RO : Addr → Option Value} {Sp : Nat → Prop} {n0 : Nat} {w w' : World}
theorem HInv.roN (h : HInv K RO Sp n0 w) {p : Nat} {a : Addr} (ha : RO a = none) : (K p).ro a = none := by
  cases e : (K p).ro a with
  | none => rfl
  | some v => have := h.ro p a v e; rw [ha] at this; cases this
theorem HInv.ro_ne (h : HInv K RO Sp n0 w) {p : Nat} {a : Addr} (ha : (K p).ro a ≠ none) : RO a ≠ none := fun e => ha (h.roN e)
theorem HInv.disj (h : HInv K RO Sp n0 w) {p p' : Nat} (hp : p ≠ p') : (K p).Disj (K p') :=
  ⟨fun b hb => h.oo p p' b hp hb, fun a ha => h.roN (h.ownRO p a ha), fun a ha => h.ooc p p' a hp ha, fun a ha => h.roN (h.ownRO p' a ha), fun a ha => h.ooc p' p a hp.symm ha, fun a ha => ⟨h.cc p p' a hp ha, h.roN (h.ocRO p a ha)⟩,
    fun a ha => h.roN (h.ocRO p' a ha), fun a v v' h1 h2 => by have e1 := h.ro _ _ _ h1; have e2 := h.ro _ _ _ h2; rw [e1] at e2; exact Option.some.inj e2⟩
/-- The world turned at one of the places that are nobody's, or not at all. -/
theorem HInv.world (h : HInv K RO Sp n0 w) (b : Nat) (hb : Sp b) (hs : w'.heap.size = w.heap.size) (hw : ∀ x, x ≠ b → w'.heap[x]? = w.heap[x]?) : HInv K RO Sp n0 w' := by
  obtain ⟨h1, h2, h3, h4, h5⟩ := h.sp b hb
  refine ⟨fun p => ⟨fun a v hv => ?_, fun x o ho => ?_, fun a v hv => ?_, (h.sat p).ro_own, (h.sat p).oc_own, (h.sat p).oc_ro⟩, h.ro, fun a v hv => ?_, h.oo, h.ooc, h.cc, h.ownRO, h.ocRO, fun x hx => ?_, h.old, by rw [hs]; exact h.n0⟩
  · rw [(cell_same (hw _ (h5 a (by rw [h.ro p a v hv]; simp)))).1]; exact (h.sat p).ro a v hv
  · rw [hw x (fun e => by rw [e, h3 p] at ho; cases ho)]; exact (h.sat p).own x o ho
  · have := cell_same (hw _ (h4 p a (by rw [hv]; simp)))
    rw [this.1, this.2]; exact (h.sat p).oc a v hv
  · rw [(cell_same (hw _ (h5 a (by rw [hv]; simp)))).1]; exact h.rosat a v hv
  · rw [hs]; exact h.sp x hx
theorem HInv.heap (h : HInv K RO Sp n0 w) (hw : w'.heap = w.heap) : HInv K RO Sp n0 w' := by
  have hc : ∀ a, w'.cell? a = w.cell? a ∧ w'.frozen? a = w.frozen? a := fun a => cell_same (by rw [hw])
  refine ⟨fun p => ⟨fun a v hv => by rw [(hc a).1]; exact (h.sat p).ro a v hv, fun x o ho => by rw [hw]; exact (h.sat p).own x o ho, fun a v hv => by rw [(hc a).1, (hc a).2]; exact (h.sat p).oc a v hv, (h.sat p).ro_own, (h.sat p).oc_own, (h.sat p).oc_ro⟩,
    h.ro, fun a v hv => by rw [(hc a).1]; exact h.rosat a v hv, h.oo, h.ooc, h.cc, h.ownRO, h.ocRO, fun x hx => by rw [hw]; exact h.sp x hx, h.old, by rw [hw]; exact h.n0⟩
/-- What all have is divided anew; some lay things down. -/
theorem HInv.redist (h : HInv K RO Sp n0 w) (own : ∀ p b o, (K' p).own b = some o → ∃ q, (K q).own b = some o) (oc : ∀ p a v, (K' p).oc a = some v → ∃ q, (K q).oc a = some v) (ro : ∀ p a v, (K' p).ro a = some v → RO a = some v)
    (oo : ∀ p p' b, p ≠ p' → (K' p).own b ≠ none → (K' p').own b = none) (cc : ∀ p p' a, p ≠ p' → (K' p).oc a ≠ none → (K' p').oc a = none) : HInv K' RO Sp n0 w := by
  have own' : ∀ p b, (K' p).own b ≠ none → ∃ q, (K q).own b ≠ none := fun p b hb => by
    obtain ⟨o, ho⟩ := Option.ne_none_iff_exists'.1 hb
    obtain ⟨q, hq⟩ := own p b o ho
    exact ⟨q, by rw [hq]; simp⟩
  have oc' : ∀ p b, (K' p).oc b ≠ none → ∃ q, (K q).oc b ≠ none := fun p b hb => by
    obtain ⟨o, ho⟩ := Option.ne_none_iff_exists'.1 hb
    obtain ⟨q, hq⟩ := oc p b o ho
    exact ⟨q, by rw [hq]; simp⟩
  have apart : ∀ p p' a, (K' p).own a.block ≠ none → (K' p').oc a = none := fun p p' a h1 => by
    obtain ⟨q, hq⟩ := own' p _ h1
    cases e : (K' p').oc a with
    | none => rfl
    | some v =>
      obtain ⟨q', hq'⟩ := oc p' a v e
      by_cases hh : q = q'
      · subst hh; exact absurd ((h.sat q).oc_own a v hq') hq
      · have := h.ooc q q' a hh hq; rw [hq'] at this; cases this
  refine ⟨fun p => ⟨fun a v hv => h.rosat a v (ro p a v hv), fun b o ho => ?_, fun a v hv => ?_, fun a v hv => ?_, fun a v hv => ?_, fun a v hv => ?_⟩, ro, h.rosat, oo, fun p p' a _ h1 => apart p p' a h1, cc, fun p a h1 => ?_, fun p a h1 => ?_, fun b hb => ?_, fun b hb => ?_, h.n0⟩
  · obtain ⟨q, hq⟩ := own p b o ho; exact (h.sat q).own b o hq
  · obtain ⟨q, hq⟩ := oc p a v hv; exact (h.sat q).oc a v hq
  · cases e : (K' p).own a.block with
    | none => rfl
    | some o =>
      obtain ⟨q, hq⟩ := own p _ o e
      have := h.ownRO q a (by rw [hq]; simp)
      rw [ro p a v hv] at this; cases this
  · cases e : (K' p).own a.block with
    | none => rfl
    | some o => have := apart p p a (by rw [e]; simp); rw [hv] at this; cases this
  · cases e : (K' p).ro a with
    | none => rfl
    | some o =>
      obtain ⟨q, hq⟩ := oc p a v hv
      have := h.ocRO q a (by rw [hq]; simp)
      rw [ro p a o e] at this; cases this
  · obtain ⟨q, hq⟩ := own' p _ h1; exact h.ownRO q a hq
  · obtain ⟨q, hq⟩ := oc' p _ h1; exact h.ocRO q a hq
  · obtain ⟨h1, h2, h3, h4, h5⟩ := h.sp b hb
    refine ⟨h1, h2, fun p => ?_, fun p a ha => ?_, h5⟩
    · cases e : (K' p).own b with
      | none => rfl
      | some o => obtain ⟨q, hq⟩ := own p b o e; rw [h3 q] at hq; cases hq
    · obtain ⟨q, hq⟩ := oc' p _ ha; exact h4 q a hq
  · obtain ⟨h3, h4⟩ := h.old b hb
    refine ⟨fun p => ?_, fun p a ha => ?_⟩
    · cases e : (K' p).own b with
      | none => rfl
      | some o => obtain ⟨q, hq⟩ := own p b o e; rw [h3 q] at hq; cases hq
    · obtain ⟨q, hq⟩ := oc' p _ ha; exact h4 q a hq
/-- One lays things down, and may learn what stands. -/
theorem HInv.view (h : HInv K RO Sp n0 w) (p : Nat) {k' : Kn} (own : ∀ b o, k'.own b = some o → (K p).own b = some o) (oc : ∀ a v, k'.oc a = some v → (K p).oc a = some v) (ro : ∀ a v, k'.ro a = some v → RO a = some v) : HInv (upd K p k') RO Sp n0 w := by
  have hown : ∀ q b o, (upd K p k' q).own b = some o → (K q).own b = some o := fun q b o ho => by
    by_cases e : q = p
    · subst e; rw [upd_same] at ho; exact own b o ho
    · rw [upd_ne K _ e] at ho; exact ho
  have hoc : ∀ q b o, (upd K p k' q).oc b = some o → (K q).oc b = some o := fun q b o ho => by
    by_cases e : q = p
    · subst e; rw [upd_same] at ho; exact oc b o ho
    · rw [upd_ne K _ e] at ho; exact ho
  refine h.redist (fun q b o ho => ⟨q, hown q b o ho⟩) (fun q a v hv => ⟨q, hoc q a v hv⟩) (fun q a v hv => ?_) (fun q q' b hq h1 => ?_) (fun q q' b hq h1 => ?_)
  · by_cases e : q = p
    · subst e; rw [upd_same] at hv; exact ro a v hv
    · rw [upd_ne K _ e] at hv; exact h.ro q a v hv
  · obtain ⟨o, ho⟩ := Option.ne_none_iff_exists'.1 h1
    have := h.oo q q' b hq (by rw [hown q b o ho]; simp)
    cases e : (upd K p k' q').own b with
    | none => rfl
    | some o => rw [hown q' b o e] at this; cases this
  · obtain ⟨o, ho⟩ := Option.ne_none_iff_exists'.1 h1
    have := h.cc q q' b hq (by rw [hoc q b o ho]; simp)
    cases e : (upd K p k' q').oc b with
    | none => rfl
    | some o => rw [hoc q' b o e] at this; cases this
/-- What a step or a new view is to the others. -/
structure Mv (k k' : Kn) (w w' : World) : Prop where
  sat : SatH k' w'
  size : w.heap.size ≤ w'.heap.size
  far : ∀ b, b < w.heap.size → k.own b = none → (∀ a v, k.oc a = some v → a.block ≠ b) → w'.heap[b]? = w.heap[b]?
  row : ∀ a, k.own a.block = none → k.oc a = none → a.block < w.heap.size → w'.cell? a = w.cell? a ∧ w'.frozen? a = w.frozen? a
  own : ∀ b, k'.own b ≠ none → k.own b ≠ none ∨ w.heap.size ≤ b
  roN : ∀ a, k'.ro a ≠ none → k.ro a ≠ none ∨ k.own a.block ≠ none ∨ k.oc a ≠ none ∨ w.heap.size ≤ a.block
  oc : ∀ a, k'.oc a ≠ none → k.oc a ≠ none ∨ k.own a.block ≠ none
theorem Kn.Step.mv {k k' : Kn} {es : Array Event} (h : k.Step k' w w' es) : Mv k k' w w' :=
  ⟨h.sat.h, h.size, h.far, h.row, h.own, fun a ha => (h.roN a ha).elim .inl fun x => .inr (x.elim .inl fun y => .inr (.inr y)), fun a ha => .inl (h.oc a ha)⟩
theorem Kn.Turn.mv {k k' : Kn} (h : k.Turn k') (hs : SatH k w) : Mv k k' w w := by
  have hown : ∀ b, k'.own b ≠ none → k.own b ≠ none := fun b hb => by
    obtain ⟨o, ho⟩ := Option.ne_none_iff_exists'.1 hb
    rw [h.own b o ho]; simp
  refine ⟨⟨fun a v hv => ?_, fun b o ho => hs.own b o (h.own b o ho), fun a v hv => ?_, fun a v hv => ?_, fun a v hv => ?_, fun a v hv => h.ocr a v hv⟩, Nat.le_refl _, fun _ _ _ _ => rfl, fun _ _ _ _ => ⟨rfl, rfl⟩, fun b hb => .inl (hown b hb), fun a ha => ?_, fun a ha => ?_⟩
  · rcases h.roN a v hv with h1 | ⟨h1, _, _⟩
    · exact hs.ro a v h1
    · exact hs.has h1
  · rcases h.oc a v hv with h1 | ⟨⟨c, t, h1, h2, h3⟩, _⟩
    · exact hs.oc a v h1
    · have := hs.own _ _ h1
      exact ⟨by simp [World.cell?, this, h2, h3], by simp [World.frozen?, this]⟩
  · rcases h.roN a v hv with h1 | ⟨_, h1, _⟩
    · cases e : k'.own a.block with
      | none => rfl
      | some o => have := hs.ro_own a v h1; rw [h.own _ o e] at this; cases this
    · exact h1
  · rcases h.oc a v hv with h1 | ⟨_, h1⟩
    · cases e : k'.own a.block with
      | none => rfl
      | some o => have := hs.oc_own a v h1; rw [h.own _ o e] at this; cases this
    · exact h1
  · obtain ⟨v, hv⟩ := Option.ne_none_iff_exists'.1 ha
    rcases h.roN a v hv with h1 | ⟨h1 | ⟨c, t, f, h1, _, _⟩ | h1, _, _⟩
    · exact .inl (by rw [h1]; simp)
    · exact .inl (by rw [h1]; simp)
    · exact .inr (.inl (by rw [h1]; simp))
    · exact .inr (.inr (.inl (by rw [h1]; simp)))
  · obtain ⟨v, hv⟩ := Option.ne_none_iff_exists'.1 ha
    rcases h.oc a v hv with h1 | ⟨⟨c, t, h1, _, _⟩, _⟩
    · exact .inl (by rw [h1]; simp)
    · exact .inr (by rw [h1]; simp)
def roAnd (RO ro : Addr → Option Value) : Addr → Option Value := fun a => (RO a).or (ro a)
theorem roAnd_le {RO ro : Addr → Option Value} {a : Addr} {v : Value} (h : RO a = some v) : roAnd RO ro a = some v := by simp [roAnd, h]
theorem roAnd_ne {RO ro : Addr → Option Value} {a : Addr} (h : roAnd RO ro a ≠ none) : RO a ≠ none ∨ ro a ≠ none := by
  unfold roAnd at h
  cases e : RO a with
  | some v => exact .inl (by simp)
  | none => rw [e] at h; exact .inr (by simpa using h)
theorem roAnd_none {RO ro : Addr → Option Value} {a : Addr} (h : RO a = none) (h' : ro a = none) : roAnd RO ro a = none := by simp [roAnd, h, h']
/-- WHATEVER one does. -/
theorem HInv.mv (h : HInv K RO Sp n0 w) {p : Nat} {k' : Kn} (m : Mv (K p) k' w w') : HInv (upd K p k') (roAnd RO k'.ro) Sp n0 w' ∧ ∀ b, (Sp b ∨ b < n0) → w'.heap[b]? = w.heap[b]? := by
  have rolt : ∀ a, RO a ≠ none → a.block < w.heap.size := fun a ha => by
    obtain ⟨v, hv⟩ := Option.ne_none_iff_exists'.1 ha
    exact cell_lt (h.rosat a v hv)
  have stays : ∀ a v, RO a = some v → w'.cell? a = some v := fun a v hv => by
    have ne : RO a ≠ none := by rw [hv]; simp
    have h1 : (K p).own a.block = none := by
      cases e : (K p).own a.block with
      | none => rfl
      | some o => exact absurd (h.ownRO p a (by rw [e]; simp)) ne
    have h2 : (K p).oc a = none := by
      cases e : (K p).oc a with
      | none => rfl
      | some o => exact absurd (h.ocRO p a (by rw [e]; simp)) ne
    rw [(m.row a h1 h2 (rolt a ne)).1]
    exact h.rosat a v hv
  have hro : ∀ a, k'.ro a ≠ none → RO a ≠ none ∨ (K p).own a.block ≠ none ∨ (K p).oc a ≠ none ∨ w.heap.size ≤ a.block := fun a ha => (m.roN a ha).imp_left h.ro_ne
  refine ⟨⟨fun q => ?_, fun q a v hv => ?_, fun a v hv => ?_, fun q q' b hq hb => ?_, fun q q' a hq ha => ?_, fun q q' a hq ha => ?_, fun q a ha => ?_, fun q a ha => ?_, fun b hb => ?_, fun b hb => ?_, Nat.le_trans h.n0 m.size⟩, fun b hb => ?_⟩
  · by_cases e : q = p
    · subst e; rw [upd_same]; exact m.sat
    · rw [upd_ne K _ e]
      refine ⟨fun a v hv => stays a v (h.ro q a v hv), fun b o ho => ?_, fun a v hv => ?_, (h.sat q).ro_own, (h.sat q).oc_own, (h.sat q).oc_ro⟩
      · have hb : (K q).own b ≠ none := by rw [ho]; simp
        rw [m.far b ((h.sat q).own_lt hb) (h.oo q p b e hb) (fun a v hv e2 => by subst e2; have := h.ooc q p a e hb; rw [hv] at this; cases this)]
        exact (h.sat q).own b o ho
      · have ha : (K q).oc a ≠ none := by rw [hv]; simp
        have h1 : (K p).own a.block = none := by
          cases e1 : (K p).own a.block with
          | none => rfl
          | some o => exact absurd (h.ooc p q a (Ne.symm e) (by rw [e1]; simp)) ha
        obtain ⟨r1, r2⟩ := m.row a h1 (h.cc q p a e ha) ((h.sat q).oc_lt ha)
        rw [r1, r2]
        exact (h.sat q).oc a v hv
  · by_cases e : q = p
    · subst e
      rw [upd_same] at hv
      cases e1 : RO a with
      | none => simp [roAnd, e1, hv]
      | some u =>
        have := stays a u e1
        rw [m.sat.ro a v hv] at this
        simp [roAnd, e1, this]
    · rw [upd_ne K _ e] at hv
      exact roAnd_le (h.ro q a v hv)
  · cases e1 : RO a with
    | none => simp [roAnd, e1] at hv; exact m.sat.ro a v hv
    | some u => simp [roAnd, e1] at hv; subst hv; exact stays a u e1
  · by_cases e : q = p
    · subst e
      rw [upd_same] at hb
      rw [upd_ne K _ (Ne.symm hq)]
      rcases m.own b hb with h1 | h1
      · exact h.oo q q' b hq h1
      · cases e1 : (K q').own b with
        | none => rfl
        | some o => have := (h.sat q').own_lt (b := b) (by rw [e1]; simp); omega
    · rw [upd_ne K _ e] at hb
      by_cases e' : q' = p
      · subst e'
        rw [upd_same]
        cases e1 : k'.own b with
        | none => rfl
        | some o =>
          rcases m.own b (by rw [e1]; simp) with h1 | h1
          · exact absurd (h.oo q q' b hq hb) h1
          · have := (h.sat q).own_lt hb; omega
      · rw [upd_ne K _ e']; exact h.oo q q' b hq hb
  · by_cases e : q = p
    · subst e
      rw [upd_same] at ha
      rw [upd_ne K _ (Ne.symm hq)]
      rcases m.own _ ha with h1 | h1
      · exact h.ooc q q' a hq h1
      · cases e1 : (K q').oc a with
        | none => rfl
        | some o => have := (h.sat q').oc_lt (a := a) (by rw [e1]; simp); omega
    · rw [upd_ne K _ e] at ha
      by_cases e' : q' = p
      · subst e'
        rw [upd_same]
        cases e1 : k'.oc a with
        | none => rfl
        | some o =>
          rcases m.oc a (by rw [e1]; simp) with h1 | h1
          · exact absurd (h.ooc q q' a hq ha) h1
          · exact absurd (h.oo q q' _ hq ha) h1
      · rw [upd_ne K _ e']; exact h.ooc q q' a hq ha
  · by_cases e : q = p
    · subst e
      rw [upd_same] at ha
      rw [upd_ne K _ (Ne.symm hq)]
      rcases m.oc _ ha with h1 | h1
      · exact h.cc q q' a hq h1
      · exact h.ooc q q' a hq h1
    · rw [upd_ne K _ e] at ha
      by_cases e' : q' = p
      · subst e'
        rw [upd_same]
        cases e1 : k'.oc a with
        | none => rfl
        | some o =>
          rcases m.oc a (by rw [e1]; simp) with h1 | h1
          · exact absurd (h.cc q q' a hq ha) h1
          · exact absurd (h.ooc q' q a (Ne.symm hq) h1) ha
      · rw [upd_ne K _ e']; exact h.cc q q' a hq ha
  · by_cases e : q = p
    · subst e
      rw [upd_same] at ha
      refine roAnd_none ?_ ?_
      · rcases m.own _ ha with h1 | h1
        · exact h.ownRO q a h1
        · cases e1 : RO a with
          | none => rfl
          | some o => have := rolt a (by rw [e1]; simp); omega
      · cases e1 : k'.ro a with
        | none => rfl
        | some v => exact absurd (m.sat.ro_own a v e1) ha
    · rw [upd_ne K _ e] at ha
      refine roAnd_none (h.ownRO q a ha) ?_
      cases e1 : k'.ro a with
      | none => rfl
      | some v =>
        rcases hro a (by rw [e1]; simp) with h1 | h1 | h1 | h1
        · exact absurd (h.ownRO q a ha) h1
        · exact absurd (h.oo q p _ e ha) h1
        · exact absurd (h.ooc q p a e ha) h1
        · have := (h.sat q).own_lt ha; omega
  · by_cases e : q = p
    · subst e
      rw [upd_same] at ha
      refine roAnd_none ?_ ?_
      · rcases m.oc _ ha with h1 | h1
        · exact h.ocRO q a h1
        · exact h.ownRO q a h1
      · obtain ⟨v, hv⟩ := Option.ne_none_iff_exists'.1 ha
        exact m.sat.oc_ro a v hv
    · rw [upd_ne K _ e] at ha
      refine roAnd_none (h.ocRO q a ha) ?_
      cases e1 : k'.ro a with
      | none => rfl
      | some v =>
        rcases hro a (by rw [e1]; simp) with h1 | h1 | h1 | h1
        · exact absurd (h.ocRO q a ha) h1
        · exact absurd (h.ooc p q a (Ne.symm e) h1) ha
        · exact absurd (h.cc q p a e ha) h1
        · have := (h.sat q).oc_lt ha; omega
  · obtain ⟨h1, h2, h3, h4, h5⟩ := h.sp b hb
    refine ⟨Nat.lt_of_lt_of_le h1 m.size, h2, fun q => ?_, fun q a ha => ?_, fun a ha => ?_⟩
    · by_cases e : q = p
      · subst e
        rw [upd_same]
        cases e1 : k'.own b with
        | none => rfl
        | some o =>
          rcases m.own b (by rw [e1]; simp) with x | x
          · exact absurd (h3 q) x
          · omega
      · rw [upd_ne K _ e]; exact h3 q
    · by_cases e : q = p
      · subst e
        rw [upd_same] at ha
        rcases m.oc a ha with x | x
        · exact h4 q a x
        · exact fun e => x (e ▸ h3 q)
      · rw [upd_ne K _ e] at ha; exact h4 q a ha
    · rcases roAnd_ne ha with x | x
      · exact h5 a x
      · rcases hro a x with y | y | y | y
        · exact h5 a y
        · exact fun e => y (e ▸ h3 p)
        · exact h4 p a y
        · omega
  · obtain ⟨h3, h4⟩ := h.old b hb
    refine ⟨fun q => ?_, fun q a ha => ?_⟩
    · by_cases e : q = p
      · subst e
        rw [upd_same]
        cases e1 : k'.own b with
        | none => rfl
        | some o =>
          rcases m.own b (by rw [e1]; simp) with x | x
          · exact absurd (h3 q) x
          · have := h.n0; omega
      · rw [upd_ne K _ e]; exact h3 q
    · by_cases e : q = p
      · subst e
        rw [upd_same] at ha
        rcases m.oc a ha with x | x
        · exact h4 q a x
        · exact fun e => x (e ▸ h3 q)
      · rw [upd_ne K _ e] at ha; exact h4 q a ha
  · rcases hb with hb | hb
    · obtain ⟨h1, h2, h3, h4, h5⟩ := h.sp b hb
      exact m.far b h1 (h3 p) fun a v hv => h4 p a (by rw [hv]; simp)
    · obtain ⟨h3, h4⟩ := h.old b hb
      exact m.far b (Nat.lt_of_lt_of_le hb h.n0) (h3 p) fun a v hv => h4 p a (by rw [hv]; simp)
/-- What somebody had becomes a place that is nobody's. -/
theorem HInv.addSp (h : HInv K RO Sp n0 w) (h' : HInv K' RO Sp n0 w) (S : Nat → Prop) (hO : ∀ q a, (K' q).oc a ≠ none → ∃ q', (K q').oc a ≠ none) (hS : ∀ b, S b → (∃ p, (K p).own b ≠ none) ∧ ∀ p, (K' p).own b = none) : HInv K' RO (fun b => Sp b ∨ S b) n0 w := by
  refine ⟨h'.sat, h'.ro, h'.rosat, h'.oo, h'.ooc, h'.cc, h'.ownRO, h'.ocRO, fun b hb => ?_, h'.old, h'.n0⟩
  rcases hb with hb | hb
  · exact h'.sp b hb
  · obtain ⟨⟨p, hp⟩, h2⟩ := hS b hb
    refine ⟨(h.sat p).own_lt hp, ?_, h2, fun q a ha e => ?_, fun a ha e => ?_⟩
    · rcases Nat.lt_or_ge b n0 with hlt | hge
      · exact absurd ((h.old b hlt).1 p) hp
      · exact hge
    · obtain ⟨q', hq'⟩ := hO q a ha
      subst e
      by_cases e1 : p = q'
      · subst e1; exact hp ((h.sat p).oc_own' hq')
      · exact hq' (h.ooc p q' a e1 hp)
    · subst e; exact ha (h.ownRO p a hp)
end
end Go.Proofs.Ytacfhfeegalmlaa

/- WHAT ALL GOROUTINES KNOW TOGETHER, and the trace: whoever may touch a place knows whoever touched it; how it is kept. -/
namespace Go.Proofs.Ytacfhfeegalmlaa
open Go.Conc
open Go.ConcN (upd upd_same upd_ne)
set_option linter.unusedVariables false
set_option linter.unusedSimpArgs false

def blkOf : Loc → Option Nat
  | .cell a => some a.block
  | .obj r => some r
  | _ => none
/-- What a touch of one's own may be. -/
def TL (k : Kn) (n n' : Nat) (x : Touch) : Prop :=
  ∃ b, blkOf x.loc = some b ∧ b < n' ∧ (k.own b ≠ none ∨ (∃ a, x.loc = .cell a ∧ k.oc a ≠ none) ∨ (∃ a, x.loc = .cell a ∧ x.write = false ∧ k.ro a ≠ none) ∨ n ≤ b)
theorem tl_of {k : Kn} {n n' : Nat} {e : Event} (h : k.Lets n e) (hl : lowE n' e) {x : Touch} (hx : (MemAct.ofEvent e).touch? = some x) : TL k n n' x := by
  obtain ⟨loc, wr, sy⟩ := e
  unfold Kn.Lets at h
  unfold lowE at hl
  cases loc with
  | cell a =>
    have : x = ⟨.cell a, wr, if sy then .atomic else .plain⟩ := by
      cases wr <;> cases sy <;> simp [MemAct.ofEvent, MemAct.touch?] at hx <;> exact hx.symm
    subst this
    simp only at h hl
    refine ⟨a.block, rfl, hl, ?_⟩
    rcases h with h | h | ⟨h1, h2⟩ | h
    · exact .inl h
    · exact .inr (.inl ⟨a, rfl, h⟩)
    · exact .inr (.inr (.inl ⟨a, rfl, h1, h2⟩))
    · exact .inr (.inr (.inr h))
  | obj r =>
    simp only at h hl
    obtain ⟨h0, h⟩ := h
    subst h0
    have : x = ⟨.obj r, wr, .plain⟩ := by
      cases wr <;> simp [MemAct.ofEvent, MemAct.touch?] at hx <;> exact hx.symm
    subst this
    exact ⟨r, rfl, hl, h.elim .inl fun y => .inr (.inr (.inr y))⟩
  | mark m =>
    cases m with
    | read a =>
      have : x = ⟨.cell a, false, .said⟩ := by
        simp [MemAct.ofEvent, MemAct.touch?] at hx; exact hx.symm
      subst this
      simp only at h hl
      exact ⟨a.block, rfl, hl, h.elim .inl fun y => .inr (.inr (.inr y))⟩
    | write a =>
      have : x = ⟨.cell a, true, .said⟩ := by
        simp [MemAct.ofEvent, MemAct.touch?] at hx; exact hx.symm
      subst this
      simp only at h hl
      exact ⟨a.block, rfl, hl, h.elim .inl fun y => .inr (.inr (.inr y))⟩
    | _ => simp [MemAct.ofEvent, MemAct.touch?] at hx
  | _ => exact h.elim

def KnB (t : Trace) (Q : Nat → Prop) (b : Nat) : Prop := ∀ i x, touchAt t i = some x → blkOf x.loc = some b → Q i
def KnC (t : Trace) (Q : Nat → Prop) (a : Addr) : Prop := ∀ i x, touchAt t i = some x → x.loc = .cell a → Q i
def KnW (t : Trace) (Q : Nat → Prop) (a : Addr) : Prop := ∀ i x, touchAt t i = some x → x.loc = .cell a → x.write = true → Q i
structure Cov (t : Trace) (Q : Nat → Prop) (k : Kn) : Prop where
  own : ∀ b, k.own b ≠ none → KnB t Q b
  oc : ∀ a, k.oc a ≠ none → KnC t Q a
  ro : ∀ a, k.ro a ≠ none → KnW t Q a
theorem Cov.mono {t : Trace} {Q Q' : Nat → Prop} {k : Kn} (h : Cov t Q k) (hQ : ∀ i, Q i → Q' i) : Cov t Q' k :=
  ⟨fun b hb i x h1 h2 => hQ i (h.own b hb i x h1 h2), fun b hb i x h1 h2 => hQ i (h.oc b hb i x h1 h2), fun b hb i x h1 h2 h3 => hQ i (h.ro b hb i x h1 h2 h3)⟩
theorem Cov.less {t : Trace} {Q : Nat → Prop} {k k' : Kn} (h : Cov t Q k) (own : ∀ b, k'.own b ≠ none → k.own b ≠ none) (oc : ∀ a, k'.oc a ≠ none → k.oc a ≠ none) (ro : ∀ a, k'.ro a ≠ none → k.ro a ≠ none) : Cov t Q k' :=
  ⟨fun b hb => h.own b (own b hb), fun b hb => h.oc b (oc b hb), fun b hb => h.ro b (ro b hb)⟩
theorem Cov.emp (t : Trace) (Q : Nat → Prop) : Cov t Q Kn.emp := ⟨fun _ h => absurd rfl h, fun _ h => absurd rfl h, fun _ h => absurd rfl h⟩
/-- Old or new. -/
theorem touch_cases {t u : Trace} {i : Nat} {x : Touch} (h : touchAt (t ++ u) i = some x) : (i < t.size ∧ touchAt t i = some x) ∨ (t.size ≤ i ∧ ∃ op ∈ u, op.act.touch? = some x ∧ (t ++ u)[i]? = some op) := by
  obtain ⟨op, ho, hx⟩ := touch_of h
  rcases getElem?_append_cases ho with ⟨hlt, ho'⟩ | ⟨hge, hou⟩
  · exact .inl ⟨hlt, by rw [touchAt_of ho']; exact hx⟩
  · exact .inr ⟨hge, op, hou, hx, ho⟩
/-- WHAT THE OTHERS SUFFER of goroutine i's operations u. -/
structure UFit (K : Nat → Kn) (RO : Addr → Option Value) (Sp : Nat → Prop) (i n' : Nat) (u : Trace) : Prop where
  g : ∀ op ∈ u, op.g = i
  low : ∀ op ∈ u, ∀ x, op.act.touch? = some x → ∀ b, blkOf x.loc = some b → b < n'
  own : ∀ op ∈ u, ∀ x, op.act.touch? = some x → ∀ b, blkOf x.loc = some b → ∀ p, p ≠ i + 1 → (K p).own b = none
  oc : ∀ op ∈ u, ∀ x, op.act.touch? = some x → ∀ a, x.loc = .cell a → ∀ p, p ≠ i + 1 → (K p).oc a = none
  ro : ∀ op ∈ u, ∀ x, op.act.touch? = some x → x.write = true → ∀ a, x.loc = .cell a → RO a = none
  sp : ∀ op ∈ u, ∀ x, op.act.touch? = some x → ∀ b, blkOf x.loc = some b → Sp b → x.kind ≠ .plain ∧ (x.kind = .said → i = 0)
theorem Cov.app {K : Nat → Kn} {RO : Addr → Option Value} {Sp : Nat → Prop} {i n' p : Nat} {t u : Trace} {Q Q' : Nat → Prop} (hf : UFit K RO Sp i n' u) (h : Cov t Q (K p)) (hp : p ≠ i + 1) (hro : ∀ a, (K p).ro a ≠ none → RO a ≠ none) (hQ : ∀ j, Q j → Q' j) : Cov (t ++ u) Q' (K p) := by
  refine ⟨fun b hb j x h1 h2 => ?_, fun a ha j x h1 h2 => ?_, fun a ha j x h1 h2 h3 => ?_⟩
  · rcases touch_cases h1 with ⟨_, h1⟩ | ⟨_, op, ho, hx, _⟩
    · exact hQ _ (h.own b hb j x h1 h2)
    · exact absurd (hf.own op ho x hx b h2 p hp) hb
  · rcases touch_cases h1 with ⟨_, h1⟩ | ⟨_, op, ho, hx, _⟩
    · exact hQ _ (h.oc a ha j x h1 h2)
    · exact absurd (hf.oc op ho x hx a h2 p hp) ha
  · rcases touch_cases h1 with ⟨_, h1⟩ | ⟨_, op, ho, hx, _⟩
    · exact hQ _ (h.ro a ha j x h1 h2 h3)
    · exact absurd (hf.ro op ho x hx h3 a h2) (hro a ha)
/-- Nothing is touched. -/
theorem Cov.mute {t u : Trace} {Q Q' : Nat → Prop} {k : Kn} (h : Cov t Q k) (hn : ∀ op ∈ u, op.act.touch? = none) (hQ : ∀ j, Q j → Q' j) : Cov (t ++ u) Q' k := by
  have old : ∀ {i x}, touchAt (t ++ u) i = some x → touchAt t i = some x := fun h1 => by
    rcases touch_cases h1 with ⟨_, h1⟩ | ⟨_, op, ho, hx, _⟩
    · exact h1
    · rw [hn op ho] at hx; cases hx
  exact ⟨fun b hb j x h1 h2 => hQ _ (h.own b hb j x (old h1) h2), fun a ha j x h1 h2 => hQ _ (h.oc a ha j x (old h1) h2), fun a ha j x h1 h2 h3 => hQ _ (h.ro a ha j x (old h1) h2 h3)⟩

section
variable {K : Nat → Kn} {RO : Addr → Option Value} {Sp : Nat → Prop} {n0 : Nat} {w w' : World} {i : Nat} {t u : Trace}
/-- What one does with what is one's own the others do not suffer. -/
theorem HInv.ufit (h : HInv K RO Sp n0 w) (hg : ∀ op ∈ u, op.g = i) (hsz : w.heap.size ≤ w'.heap.size) (hu : ∀ op ∈ u, ∀ x, op.act.touch? = some x → TL (K (i + 1)) w.heap.size w'.heap.size x) : UFit K RO Sp i w'.heap.size u := by
  have rolt : ∀ a, RO a ≠ none → a.block < w.heap.size := fun a ha => by
    obtain ⟨v, hv⟩ := Option.ne_none_iff_exists'.1 ha
    exact cell_lt (h.rosat a v hv)
  have own : ∀ op ∈ u, ∀ x, op.act.touch? = some x → ∀ b, blkOf x.loc = some b → ∀ p, p ≠ i + 1 → (K p).own b = none := fun op ho x hx b hb p hp => by
    obtain ⟨b', h1, h2, h3⟩ := hu op ho x hx
    rw [h1] at hb; cases hb
    rcases h3 with h3 | ⟨a, ha, h3⟩ | ⟨a, ha, _, h3⟩ | h3
    · exact h.oo (i + 1) p b (Ne.symm hp) h3
    · rw [ha] at h1; cases h1
      cases e : (K p).own a.block with
      | none => rfl
      | some o => exact absurd (h.ooc p (i + 1) a hp (by rw [e]; simp)) h3
    · rw [ha] at h1; cases h1
      cases e : (K p).own a.block with
      | none => rfl
      | some o => exact absurd (h.ownRO p a (by rw [e]; simp)) (h.ro_ne h3)
    · cases e : (K p).own b with
      | none => rfl
      | some o => have := (h.sat p).own_lt (b := b) (by rw [e]; simp); omega
  refine ⟨hg, fun op ho x hx b hb => ?_, own, fun op ho x hx a ha p hp => ?_, fun op ho x hx hw a ha => ?_, fun op ho x hx b hb hs => ?_⟩
  · obtain ⟨b', h1, h2, h3⟩ := hu op ho x hx
    rw [h1] at hb; cases hb; exact h2
  · obtain ⟨b', h1, h2, h3⟩ := hu op ho x hx
    rw [ha] at h1; cases h1
    cases e : (K p).oc a with
    | none => rfl
    | some o =>
      have he : (K p).oc a ≠ none := by rw [e]; simp
      rcases h3 with h3 | ⟨a', ha', h3⟩ | ⟨a', ha', _, h3⟩ | h3
      · exact absurd (h.ooc (i + 1) p a (Ne.symm hp) h3) he
      · rw [ha] at ha'; cases ha'; exact absurd (h.cc (i + 1) p a (Ne.symm hp) h3) he
      · rw [ha] at ha'; cases ha'; exact absurd (h.ocRO p a he) (h.ro_ne h3)
      · have := (h.sat p).oc_lt he; omega
  · obtain ⟨b', h1, h2, h3⟩ := hu op ho x hx
    rw [ha] at h1; cases h1
    rcases h3 with h3 | ⟨a', ha', h3⟩ | ⟨a', ha', hf, h3⟩ | h3
    · exact h.ownRO _ a h3
    · rw [ha] at ha'; cases ha'; exact h.ocRO _ a h3
    · rw [hw] at hf; cases hf
    · cases e : RO a with
      | none => rfl
      | some o => have := rolt a (by rw [e]; simp); omega
  · obtain ⟨b', h1, h2, h3⟩ := hu op ho x hx
    rw [h1] at hb; cases hb
    obtain ⟨s1, s2, s3, s4, s5⟩ := h.sp b hs
    exfalso
    rcases h3 with h3 | ⟨a, ha, h3⟩ | ⟨a, ha, _, h3⟩ | h3
    · exact h3 (s3 _)
    · rw [ha] at h1; cases h1; exact s4 _ a h3 rfl
    · rw [ha] at h1; cases h1; exact s5 a (h.ro_ne h3) rfl
    · omega
/-- The library's bookkeeping at a place that is nobody's. -/
structure SyncU (i b : Nat) (u : Trace) : Prop where
  g : ∀ op ∈ u, op.g = i
  at_ : ∀ op ∈ u, ∀ x, op.act.touch? = some x → blkOf x.loc = some b ∧ x.kind ≠ .plain ∧ (x.kind = .said → i = 0)
theorem HInv.ufitS (h : HInv K RO Sp n0 w) {b : Nat} (hb : Sp b) (hu : SyncU i b u) : UFit K RO Sp i w.heap.size u := by
  obtain ⟨s1, s2, s3, s4, s5⟩ := h.sp b hb
  refine ⟨hu.g, fun op ho x hx b' hb' => ?_, fun op ho x hx b' hb' p _ => ?_, fun op ho x hx a ha p _ => ?_, fun op ho x hx _ a ha => ?_, fun op ho x hx b' hb' _ => (hu.at_ op ho x hx).2⟩
  · rw [(hu.at_ op ho x hx).1] at hb'; cases hb'; exact s1
  · rw [(hu.at_ op ho x hx).1] at hb'; cases hb'; exact s3 p
  · have := (hu.at_ op ho x hx).1
    rw [ha] at this; cases this
    cases e : (K p).oc a with
    | none => rfl
    | some v => exact absurd rfl (s4 p a (by rw [e]; simp))
  · have := (hu.at_ op ho x hx).1
    rw [ha] at this; cases this
    cases e : RO a with
    | none => rfl
    | some v => exact absurd rfl (s5 a (by rw [e]; simp))
/-- All touches lie in the heap; nobody races; everybody is numbered. -/
structure TB (N : Nat) (w : World) (t : Trace) : Prop where
  low : ∀ j x, touchAt t j = some x → ∀ b, blkOf x.loc = some b → b < w.heap.size
  nr : ∀ said, ¬ Race said t
  gs : ∀ (j : Nat) (op : MemOp), t[j]? = some op → op.g < N
def confl (a b : Touch) : Prop := a.loc = b.loc ∧ (a.write = true ∨ b.write = true) ∧ (a.kind = .plain ∨ b.kind = .plain ∨ (a.kind = .said ∧ b.kind = .said))
theorem TB.app {N : Nat} (h : TB N w t) (hi : i < N) (hsz : w.heap.size ≤ w'.heap.size) (hf : UFit K RO Sp i w'.heap.size u)
    (hk : ∀ j a, touchAt t j = some a → ∀ op ∈ u, ∀ b, op.act.touch? = some b → confl a b → Knows t i j) : TB N w' (t ++ u) := by
  refine ⟨fun j x hx b hb => ?_, fun said => ?_, fun j op hj => ?_⟩
  · rcases touch_cases hx with ⟨_, h1⟩ | ⟨_, op, ho, hx, _⟩
    · exact Nat.lt_of_lt_of_le (h.low j x h1 b hb) hsz
    · exact hf.low op ho x hx b hb
  · refine noRace_append (h.nr said) hf.g fun j a ha op ho b hb hc => hk j a ha op ho b hb ⟨hc.1, ?_, ?_⟩
    · simpa using hc.2.2.1
    · rcases hc.2.2.2 with x | x | ⟨_, x⟩
      · exact .inl x
      · exact .inr (.inl x)
      · exact .inr (.inr x)
  · rcases getElem?_append_cases hj with ⟨_, h1⟩ | ⟨_, ho⟩
    · exact h.gs j op h1
    · rw [hf.g op ho]; exact hi
theorem TB.mute {N : Nat} (h : TB N w t) (hn : ∀ op ∈ u, op.act.touch? = none) (hg : ∀ op ∈ u, op.g < N) (hsz : w.heap.size ≤ w'.heap.size) : TB N w' (t ++ u) := by
  refine ⟨fun j x hx b hb => ?_, fun said => noRace_appendMute (h.nr said) hn, fun j op hj => ?_⟩
  · rcases touch_cases hx with ⟨_, h1⟩ | ⟨_, op, ho, hx, _⟩
    · exact Nat.lt_of_lt_of_le (h.low j x h1 b hb) hsz
    · rw [hn op ho] at hx; cases hx
  · rcases getElem?_append_cases hj with ⟨_, h1⟩ | ⟨_, ho⟩
    · exact h.gs j op h1
    · exact hg op ho
theorem TB.more {N N' : Nat} (h : TB N w t) (hN : N ≤ N') : TB N' w t := ⟨h.low, h.nr, fun j op hj => Nat.lt_of_lt_of_le (h.gs j op hj) hN⟩
/-- An own step: whoever takes it knows all that conflicts. -/
theorem tl_knows {N : Nat} (hT : TB N w t) (hc : Cov t (Knows t i) (K (i + 1))) (hu : ∀ op ∈ u, ∀ x, op.act.touch? = some x → TL (K (i + 1)) w.heap.size w'.heap.size x) :
    ∀ j a, touchAt t j = some a → ∀ op ∈ u, ∀ b, op.act.touch? = some b → confl a b → Knows t i j := by
  intro j a ha op ho b hb ⟨hl, hw, hk⟩
  obtain ⟨b', h1, h2, h3⟩ := hu op ho b hb
  rcases h3 with h3 | ⟨ad, had, h3⟩ | ⟨ad, had, hf, h3⟩ | h3
  · exact hc.own b' h3 j a ha (by rw [hl]; exact h1)
  · exact hc.oc ad h3 j a ha (by rw [hl]; exact had)
  · exact hc.ro ad h3 j a ha (by rw [hl]; exact had) (hw.resolve_right (by rw [hf]; simp))
  · have := hT.low j a ha b' (by rw [hl]; exact h1)
    omega
/-- .. and behind it knows what it needs to. -/
theorem Cov.self {N : Nat} {k' : Kn} (h : HInv K RO Sp n0 w) (hT : TB N w t) (hc : Cov t (Knows t i) (K (i + 1))) (hg : ∀ op ∈ u, op.g = i) (m : Mv (K (i + 1)) k' w w') : Cov (t ++ u) (Knows (t ++ u) i) k' := by
  have new : ∀ {j x}, touchAt (t ++ u) j = some x → Knows (t ++ u) i j ∨ touchAt t j = some x := fun h1 => by
    rcases touch_cases h1 with ⟨_, h1⟩ | ⟨_, op, ho, hx, hj⟩
    · exact .inr h1
    · have := knows_own hj
      rw [hg op ho] at this
      exact .inl this
  refine ⟨fun b hb j x h1 h2 => ?_, fun a ha j x h1 h2 => ?_, fun a ha j x h1 h2 h3 => ?_⟩
  · rcases new h1 with hh | h1
    · exact hh
    rcases m.own b hb with h3 | h3
    · exact (hc.own b h3 j x h1 h2).app u
    · have := hT.low j x h1 b h2; omega
  · rcases new h1 with hh | h1
    · exact hh
    rcases m.oc a ha with h3 | h3
    · exact (hc.oc a h3 j x h1 h2).app u
    · exact (hc.own _ h3 j x h1 (by rw [h2]; rfl)).app u
  · rcases new h1 with hh | h1
    · exact hh
    rcases m.roN a ha with h4 | h4 | h4 | h4
    · exact (hc.ro a h4 j x h1 h2 h3).app u
    · exact (hc.own _ h4 j x h1 (by rw [h2]; rfl)).app u
    · exact (hc.oc a h4 j x h1 h2).app u
    · have := hT.low j x h1 a.block (by rw [h2]; rfl); omega
end

/-! ### places that are nobody's -/
def SK (t : Trace) (Q : Nat → Prop) (b : Nat) : Prop := ∀ j x, touchAt t j = some x → blkOf x.loc = some b → x.kind = .plain → Q j
def SS (t : Trace) (b : Nat) : Prop := ∀ j x, touchAt t j = some x → blkOf x.loc = some b → x.kind = .said → Knows t 0 j
section
variable {K : Nat → Kn} {RO : Addr → Option Value} {Sp : Nat → Prop} {i n' b : Nat} {t u : Trace} {Q Q' : Nat → Prop}
theorem SK.app (h : SK t Q b) (hf : UFit K RO Sp i n' u) (hb : Sp b) (hQ : ∀ j, Q j → Q' j) : SK (t ++ u) Q' b := fun j x h1 h2 h3 => by
  rcases touch_cases h1 with ⟨_, h1⟩ | ⟨_, op, ho, hx, _⟩
  · exact hQ _ (h j x h1 h2 h3)
  · exact absurd h3 (hf.sp op ho x hx b h2 hb).1
theorem SK.mute (h : SK t Q b) (hn : ∀ op ∈ u, op.act.touch? = none) (hQ : ∀ j, Q j → Q' j) : SK (t ++ u) Q' b := fun j x h1 h2 h3 => by
  rcases touch_cases h1 with ⟨_, h1⟩ | ⟨_, op, ho, hx, _⟩
  · exact hQ _ (h j x h1 h2 h3)
  · rw [hn op ho] at hx; cases hx
theorem SS.app (h : SS t b) (hf : UFit K RO Sp i n' u) (hb : Sp b) : SS (t ++ u) b := fun j x h1 h2 h3 => by
  rcases touch_cases h1 with ⟨_, h1⟩ | ⟨_, op, ho, hx, hj⟩
  · exact (h j x h1 h2 h3).app u
  · have := (hf.sp op ho x hx b h2 hb).2 h3
    have h4 := knows_own hj
    rw [hf.g op ho, this] at h4
    exact h4
theorem SS.mute (h : SS t b) (hn : ∀ op ∈ u, op.act.touch? = none) : SS (t ++ u) b := fun j x h1 h2 h3 => by
  rcases touch_cases h1 with ⟨_, h1⟩ | ⟨_, op, ho, hx, hj⟩
  · exact (h j x h1 h2 h3).app u
  · rw [hn op ho] at hx; cases hx
theorem KnB.sk (h : KnB t Q b) : SK t Q b := fun j x h1 h2 _ => h j x h1 h2
theorem KnB.ss (h : KnB t (Knows t 0) b) : SS t b := fun j x h1 h2 _ => h j x h1 h2
/-- Whoever knows the plain touches there may do the library's bookkeeping there. -/
theorem sync_knows (hs : SK t (Knows t i) b) (hs0 : i = 0 → SS t b) (hu : SyncU i b u) : ∀ j a, touchAt t j = some a → ∀ op ∈ u, ∀ x, op.act.touch? = some x → confl a x → Knows t i j := by
  intro j a ha op ho x hx ⟨hl, hw, hk⟩
  obtain ⟨h1, h2, h3⟩ := hu.at_ op ho x hx
  rcases hk with hk | hk | ⟨hk, hk'⟩
  · exact hs j a ha (by rw [hl]; exact h1) hk
  · exact absurd hk h2
  · have := h3 hk'
    subst this
    exact hs0 rfl j a ha (by rw [hl]; exact h1) hk
theorem KnW.app {a : Addr} (h : KnW t Q a) (hf : UFit K RO Sp i n' u) (ha : RO a ≠ none) (hQ : ∀ j, Q j → Q' j) : KnW (t ++ u) Q' a := fun j x h1 h2 h3 => by
  rcases touch_cases h1 with ⟨_, h1⟩ | ⟨_, op, ho, hx, _⟩
  · exact hQ _ (h j x h1 h2 h3)
  · exact absurd (hf.ro op ho x hx h3 a h2) ha
theorem KnW.mute {a : Addr} (h : KnW t Q a) (hn : ∀ op ∈ u, op.act.touch? = none) (hQ : ∀ j, Q j → Q' j) : KnW (t ++ u) Q' a := fun j x h1 h2 h3 => by
  rcases touch_cases h1 with ⟨_, h1⟩ | ⟨_, op, ho, hx, _⟩
  · exact hQ _ (h j x h1 h2 h3)
  · rw [hn op ho] at hx; cases hx
end

/-! ### edges -/
structure ClAt (t : Trace) (c pc : Nat) : Prop where
  act : t.act? pc = some (.close c)
  heard : t.heard pc
theorem ClAt.app {t : Trace} {c pc : Nat} (h : ClAt t c pc) (u : Trace) : ClAt (t ++ u) c pc := by
  have hr := lt_of_act? h.act
  exact ⟨by rw [act?_old hr]; exact h.act, (heard_old hr).2 h.heard⟩
/-- WHOEVER FINDS A CHANNEL CLOSED knows all that is before the close. -/
theorem knows_closed {t : Trace} {c pc i : Nat} (h : ClAt t c pc) {y : MemOp} (hg : y.g = i) (hy : y.act = .recvClosed c) (hd : Deaf t i = 0) {j : Nat} (hj : Before t j pc) : Knows (t ++ #[y]) i j := by
  have hyp : (t ++ #[y])[t.size]? = some y := by rw [Array.getElem?_append_right (Nat.le_refl _)]; simp
  have h1 := h.app #[y]
  have e1 : (t ++ #[y]).heard t.size := ⟨i, by simp [Trace.g?, hg], by rw [deaf_old (Nat.le_refl _)]; exact hd⟩
  exact ⟨t.size, y, hyp, hg, .inr ((hj.app #[y]).hb (.single (.inr ⟨.closed h1.act (by rw [act?_of hyp, hy]), h1.heard, e1⟩)))⟩
/-- WHOEVER CLOSES. -/
theorem close_at {t : Trace} {c i : Nat} (fn : FuncId) (pos : String) (hd : Deaf t i = 0) : ClAt (t ++ MemOp.ofEvents i fn pos (closeEvents c)) c (t.size + 1) ∧ (t ++ MemOp.ofEvents i fn pos (closeEvents c)).g? (t.size + 1) = some i ∧
    ∀ j, Knows t i j → Before (t ++ MemOp.ofEvents i fn pos (closeEvents c)) j (t.size + 1) := by
  have e : MemOp.ofEvents i fn pos (closeEvents c) = #[{ g := i, fn, pos, act := .access ⟨.obj c, false, true⟩ }, { g := i, fn, pos, act := .close c }] := by
    rw [ofEvents_eq]; simp [closeEvents, MemAct.ofEvent]
  rw [e]
  have h0 : (t ++ #[({ g := i, fn, pos, act := .access ⟨.obj c, false, true⟩ } : MemOp), { g := i, fn, pos, act := .close c }])[t.size]? = some { g := i, fn, pos, act := .access ⟨.obj c, false, true⟩ } := by
    rw [Array.getElem?_append_right (Nat.le_refl _)]; simp
  have h1 : (t ++ #[({ g := i, fn, pos, act := .access ⟨.obj c, false, true⟩ } : MemOp), { g := i, fn, pos, act := .close c }])[t.size + 1]? = some { g := i, fn, pos, act := .close c } := by
    rw [Array.getElem?_append_right (by omega)]; simp
  refine ⟨⟨by rw [act?_of h1], i, by simp [Trace.g?, h1], ?_⟩, by simp [Trace.g?, h1], fun j hj => .inr (hj.hb_new (by omega) h1 rfl)⟩
  rw [deaf_succ h0, deaf_old (Nat.le_refl _)]
  simp only [deafStep]
  exact hd
theorem close_sync {i c : Nat} (fn : FuncId) (pos : String) : SyncU i c (MemOp.ofEvents i fn pos (closeEvents c)) := by
  have e : MemOp.ofEvents i fn pos (closeEvents c) = #[{ g := i, fn, pos, act := .access ⟨.obj c, false, true⟩ }, { g := i, fn, pos, act := .close c }] := by
    rw [ofEvents_eq]; simp [closeEvents, MemAct.ofEvent]
  rw [e]
  refine ⟨fun op ho => ?_, fun op ho x hx => ?_⟩
  · simp at ho; rcases ho with rfl | rfl <;> rfl
  · simp at ho
    rcases ho with rfl | rfl
    · simp [MemAct.touch?] at hx
      subst hx
      exact ⟨rfl, by simp, by simp⟩
    · simp [MemAct.touch?] at hx
end Go.Proofs.Ytacfhfeegalmlaa
