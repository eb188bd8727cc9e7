/-
  Joined texts: Receives from the channels of 'executed'; execute, in company. · Run's worker, from its birth to its Done. · sync.WaitGroup's Wait, in company. · make, in company: rows and channels of one's own.
-/
import Derived.Test.YtacfhfeegalmlaaWW9
import Derived.Conc.QuitsD
import Derived.Conc.AtomicLaws

/- Receives from the channels of 'executed'; execute, in company. -/
namespace Go.Proofs.Ytacfhfeegalmlaa
open Go.Conc
set_option linter.unusedVariables false
set_option linter.unusedSimpArgs false

section
variable {P : Program} {main : Who} {fn : FuncId} {k : Kn} {s : Sem Next} {X : RunC} {q wg left i j : Nat} {z : Value}
theorem stepG_recvS {b : Frame} {a : Act} {kk : List Item} {cs : List Frame} {ops : Array Oper} {n : Nat} {rest : List Nat} {o : Oper} {c : Nat} {ok : Bool} (ho : ops[n]? = some o) (hw : Region.wanted o (yielded ops a.tmps) = true) (hk : b.kind ≠ .early) (hs : execOp a.eval o = s)
    (hr : ∀ w, s.run P w = .ok (.comm #[rcase c z] true (.recv ok)) w) (he : ∀ w, s.events P w #[] = #[]) (w : World) :
    stepG P main.main (G (b.at a (.inRegion ops (n :: rest) :: kk)) cs) w = .comm (G (b.at a (.inRegion ops (n :: rest) :: kk)) cs) #[rcase c z] true (.recv ok) w #[] := by
  rw [stepG_comm ho hw hk (by rw [hs]; exact hr w), listed_nil (by rw [hs]; exact he w)]
theorem does_recvE (hr : ∀ w, s.run P w = .ok (.comm #[rcase (X.ex j) z] true (.recv false)) w) (he : ∀ w, s.events P w #[] = #[]) (hg : k.gh = .wk X q wg left (.job i false)) (hj : j ≤ i) (hd : k.deaf = 0) :
    Does P main fn s k (fun v k' => v = z ∧ k.Grow k' ∧ main.Pub X j k'.ro) := fun ops n o rest a b kk cs Stop ho hw hs hb hk hc => by
  refine GK.recvE X q wg left i j z hg hj hd rfl (fun w _ => stepG_recvS ho hw hk hs hr he w) fun k' hk' hp => ?_
  rw [served_G, ho]
  exact hc z k' ⟨rfl, hk', hp⟩
theorem does_recvT (hr : ∀ w, s.run P w = .ok (.comm #[rcase (X.ex i) z] true (.recv false)) w) (he : ∀ w, s.events P w #[] = #[]) (hg : k.gh = .wk X q wg left (.job i false)) (hd : k.deaf = 0) :
    Does P main fn s k (fun v k' => v = z ∧ ∃ kt, main.Tok X i kt ∧ k.Disj kt ∧ k' = { k.join kt with gh := .wk X q wg left (.job i true) }) := fun ops n o rest a b kk cs Stop ho hw hs hb hk hc => by
  refine GK.recvT X q wg left i z hg hd rfl (fun w _ => stepG_recvS ho hw hk hs hr he w) fun kt ht hdj => ?_
  rw [served_G, ho]
  exact hc z _ ⟨rfl, kt, ht, hdj, rfl⟩
end
/-- What joins is known from then on, and what was known too. -/
theorem join_ro {k kt : Kn} (hd : k.Disj kt) {a : Addr} {v : Value} (h : kt.ro a = some v) : (k.join kt).ro a = some v := by
  simp only [Kn.join]
  cases e : k.ro a with
  | none => simpa using h
  | some u => rw [hd.rr a u v e h]; rfl
theorem join_ro1 {k kt : Kn} {a : Addr} {v : Value} (h : k.ro a = some v) : (k.join kt).ro a = some v := by simp [Kn.join, h]
theorem join_own {k kt : Kn} (hd : k.Disj kt) {b : Nat} {o : Obj} (h : kt.own b = some o) : (k.join kt).own b = some o := by
  simp only [Kn.join]
  cases e : k.own b with
  | none => simpa using h
  | some u => have := hd.oo b (by rw [e]; simp); rw [h] at this; cases this
theorem join_own1 {k kt : Kn} {b : Nat} {o : Obj} (h : k.own b = some o) : (k.join kt).own b = some o := by simp [Kn.join, h]
theorem join_oc {k kt : Kn} {a : Addr} (h : kt.oc a ≠ none) : (k.join kt).oc a ≠ none := by
  simp only [Kn.join]
  cases k.oc a with
  | none => simpa using h
  | some u => simp
theorem TokM.join {X : RunC} {j m l : Nat} {k kt : Kn} (h : TokM X j m l kt) (hd : k.Disj kt) (g : Gh) : TokM X j m l { k.join kt with gh := g } :=
  h.mono (fun a u x => join_ro hd x) (fun o x => join_own hd x) (fun o x => join_own hd x) (fun o x => join_own hd x) (fun i _ _ x => ⟨join_oc x.1, join_oc x.2⟩)
theorem TokM.congr {X : RunC} {j j' m l : Nat} {k : Kn} (h : X.S j' = X.S j) (t : TokM X j m l k) : TokM X j' m l k := ⟨by rw [h]; exact t.box, by rw [h]; exact t.last, t.res, t.ver⟩
theorem TokM.extX {X : RunC} {j m l : Nat} {k k' : Kn} {S : Nat → Prop} (t : TokM X j m l k) (x : k.ExtX S k') (nB : ¬ S X.B) (nl : ¬ S X.ml) (nR : ¬ S X.RB) : TokM X j m l k' :=
  t.mono x.ro (fun o h => x.own _ _ nB h) (fun o h => x.own _ _ nl h) (fun o h => x.own _ _ nR h) (fun i _ _ h => by rw [x.oc]; exact h)
theorem reads3 {k : Kn} {b o : Nat} {u v x : Value} (h1 : k.Has ⟨b, o, none⟩ u) (h2 : k.Has ⟨b, o + 1, none⟩ v) (h3 : k.Has ⟨b, o + 2, none⟩ x) : k.Reads ⟨b, o, none⟩ [u, v, x] := by
  intro j y hj
  match j, hj with
  | 0, hj => obtain rfl := Option.some.inj hj; exact h1
  | 1, hj => obtain rfl := Option.some.inj hj; exact h2
  | 2, hj => obtain rfl := Option.some.inj hj; exact h3
theorem Kn.Turn.refl {k : Kn} (hs : ∃ w, k.Sat w) : k.Turn k := by
  obtain ⟨w, hw⟩ := hs
  exact ⟨fun _ _ h => h, fun _ _ h => .inl h, fun a v h => hw.oc_ro a v h, fun _ _ h => h, fun _ _ h => .inl h, rfl, rfl, rfl⟩
/-- A row of one's own stands from now on. -/
theorem ownSl_stand {k : Kn} {et : TypeId} {v : Value} {n : Nat} {vs : List Value} (hs : ∃ w, k.Sat w) (h : OwnSl k et 1 v n vs) :
    ∃ k9, k.Turn k9 ∧ RoSl k9.ro v n 1 vs ∧ k.ExtX (fun b => ∃ c, k.own b = some (.cells c et)) k9 ∧ (∀ b, (∀ m c, v ≠ .slice (some ⟨b, 0, none⟩) m c) → k9.own b = k.own b) := by
  rcases h.at_ with ⟨rfl, rfl⟩ | ⟨b, cap, c, rfl, h1, h2, h3, h4⟩
  · have : vs = [] := by have := h.len; simpa using this
    subst this
    exact ⟨k, .refl hs, ⟨rfl, _, _, rfl, fun j u hj => by cases hj⟩, .refl k, fun _ _ => rfl⟩
  · refine ⟨k.stand b c, Kn.stand_turn hs h2, ⟨h.len, _, _, rfl, fun j u hj => ⟨b, 0, rfl, ?_⟩⟩, ⟨fun a u x => Kn.stand_roK hs h2 x, fun x o hx ho => ?_, rfl, rfl, rfl, rfl⟩, fun x hx => ?_⟩
    · rw [Nat.zero_add]
      apply Kn.stand_ro
      rw [← h4] at hj
      have hl := (List.getElem?_eq_some_iff.1 hj).1
      rw [List.getElem?_take] at hj
      split at hj
      · simpa using hj
      · cases hj
    · rw [Kn.stand_own (fun e => hx ⟨c, by rw [e]; exact h2⟩)]
      exact ho
    · rw [Kn.stand_own (fun e => hx n cap (by rw [e]))]
/-- What execute comes to. -/
def ExecTo (k : Kn) (X : RunC) (q wg left i : Nat) (R : PR) (v : Value) (k' : Kn) : Prop :=
  ∃ sv, v = .agg #[sv, intV R.ver, okErr R.err] ∧ RoSl k'.ro sv R.saw.length 1 (R.saw.map intV) ∧ TokM X (i + 1) (i + 1) i k' ∧ (∀ a u, k.ro a = some u → k'.ro a = some u) ∧ k'.gh = .wk X q wg left (.job i true) ∧ k'.deaf = 0
set_option maxRecDepth 100000 in
set_option maxHeartbeats 4000000 in
theorem execute_k {main : Who} (hO : main.Ours) (k : Kn) (X : RunC) (q wg left i : Nat) (J : JobT) (hX : RunR X k.ro) (hJ : X.jobs[i]? = some J) (hg : k.gh = .wk X q wg left (.job i false)) (hd : k.deaf = 0) :
    CallsK Try.prog main 22 #[.pointer (some ⟨X.r, 0, none⟩), .int .i64 i] k fun v k' => ExecTo k X q wg left i (resJ X.jobs X.ents i J) v k' := by
  obtain ⟨rs, ws, af⟩ := J
  have r0 := hX.box
  have r2 := hX.res
  have r3 := hX.ex
  have r4 := hX.ver
  obtain ⟨jb, joff, jc, r1, hjob⟩ := hX.jobs
  obtain ⟨rv, wv, j0, j1, j2, hrv, hwv⟩ := (hjob i _ hJ).at_
  obtain ⟨ra, rc, rfl, hra⟩ := hrv.at_
  obtain ⟨wa, wc, rfl, hwa⟩ := hwv.at_
  have hin : i < X.n := by rw [← hX.len]; exact (List.getElem?_eq_some_iff.1 hJ).1
  obtain ⟨N, hN⟩ : ∃ N, N = X.n + 1 := ⟨_, rfl⟩
  obtain ⟨n, hn⟩ : ∃ n, n = X.n := ⟨_, rfl⟩
  rw [← hN] at r3 r4
  rw [← hn] at r1 r2
  have hlt : i < N := by omega
  have hlt' : i < n := by omega
  have rci := hX.chs i (by omega)
  clear hN hn
  dsimp only at j2 hra hwa
  (refine callsK_of Try.func22 (by first | rfl | kernel_rfl) rfl ?_; simp only [Try.ntmps22, List.size_toArray, List.length_cons, List.length_nil, Nat.reduceAdd, Nat.reduceSub, Array.replicate_succ, Array.replicate_zero, List.push_toArray, List.append_toArray, List.nil_append, List.cons_append])
  refine goF ?_
  refine opsK_alloc (z := .agg #[.slice none 0 0, .int .i64 0, .nilIface]) rfl (by rfl) rfl (fun w => by kernel_rfl) ?_
  (intro b1 hb1; refine hb1.pack (M := fun k1 => OpsK _ _ _ _ _ _ _ k1) _ ?_; intro k1 x1 o1 n1; try simp only [Value.cells] at o1); walk_nrm
  have z0 := x1.ro _ _ r0
  have z1 := x1.ro _ _ r1
  have z2 := x1.ro _ _ r2
  have z3 := x1.ro _ _ r3
  have z4 := x1.ro _ _ r4
  refine goI ?_
  refine opsK_loadN (vs := [.slice ra rs.length rc, .slice wa ws.length wc, intV af]) rfl (by rfl) rfl rfl (fun w => by kernel_rfl) (fun w => by kernel_rfl) (reads3 (.inl (x1.ro _ _ j0)) (.inl (x1.ro _ _ j1)) (.inl (x1.ro _ _ j2))) ?_
  walk_nrm
  refine opsK_alloc (z := .agg #[.slice none 0 0, .slice none 0 0, .int .i64 0]) rfl (by rfl) rfl (fun w => by kernel_rfl) ?_
  (intro b2 hb2; refine hb2.pack (M := fun k1 => OpsK _ _ _ _ _ _ _ k1) _ ?_; intro k2 x2 o2 n2; try simp only [Value.cells] at o2); walk_nrm
  refine opsK_storeL (c' := #[.slice ra rs.length rc, .slice wa ws.length wc, intV af]) rfl (by rfl) rfl rfl rfl rfl (fun w => by kernel_rfl) o2 rfl rfl rfl ?_
  have x3 : k1.Ext (k2.set b2 (.cells #[.slice ra rs.length rc, .slice wa ws.length wc, intV af] 119)) := x2.set_new n2 _
  have o3 : (k2.set b2 (.cells #[.slice ra rs.length rc, .slice wa ws.length wc, intV af] 119)).own b2 = some (.cells #[.slice ra rs.length rc, .slice wa ws.length wc, intV af] 119) := Kn.set_same _ _ _
  generalize k2.set b2 (.cells #[.slice ra rs.length rc, .slice wa ws.length wc, intV af] 119) = k3 at x3 o3
  have p1 := x3.own _ _ o1
  have n12 : b1 ≠ b2 := fun e => by subst e; rw [o1] at n2; cases n2
  have x03 := x1.trans x3
  clear z0 z1 z2 z3 z4 x2 o2
  have z0 := x03.ro _ _ r0
  have z3 := x03.ro _ _ r3
  have z4 := x03.ro _ _ r4
  have zc := x03.ro _ _ rci
  have g3 : k3.gh = .wk X q wg left (.job i false) := x03.gh.trans hg
  have d3 : k3.deaf = 0 := x03.deaf.trans hd
  have y2 : k3.Has ⟨b2, 2, none⟩ (.int .i64 af) := Kn.has_own o3 rfl
  walk_nrm
  by_cases hbad : af < 0 ∨ (i : Int) < af
  · have hres : resJ X.jobs X.ents i (rs, ws, af) = ⟨[], 0, 1⟩ ∧ X.S (i + 1) = X.S i := by
      constructor
      · unfold resJ stepJ; simp only [hbad, if_true]
      · unfold RunC.S; rw [stJ_succ _ _ hJ]; unfold stepJ; simp only [hbad, if_true]
    have hc : decide (af < 0) = true ∨ (decide (af < 0) = false ∧ decide ((i : Int) < af) = true) := by
      by_cases h0 : af < 0
      · exact .inl (decide_eq_true h0)
      · exact .inr ⟨decide_eq_false h0, decide_eq_true (by omega)⟩
    rcases hc with e0 | ⟨e0, e1⟩
    all_goals
      repeat (first | (apply wpK_region; simp only [List.size_toArray, List.length_cons, List.length_nil, Nat.reduceAdd, Nat.zero_add, List.range, List.range.loop]) | ((first | refine opsK_max rfl (by rfl) rfl rfl rfl ?_ | refine opsK_eqNil rfl (by rfl) rfl rfl (by kernel_rfl) ?_ | refine opsK_neNil rfl (by rfl) rfl rfl (by kernel_rfl) ?_); try simp only [Option.isNone_none, Option.isNone_some, Bool.not_true, Bool.not_false]; try walk_nrm) | (co_applyP opsK_pure_k rfl (by rfl) ?_ ?_ ?_; (focus (intro _ K hK; go_simp; exact hK)); (focus (first | (exact fun _ => ev_int rfl rfl rfl rfl) | (exact fun _ => ev_str rfl rfl rfl) | (exact fun _ => ev_build rfl) | (exact fun _ => ev_lenS rfl rfl) | (exact fun _ => ev_lenL rfl rfl) | (exact fun _ => ev_mkI rfl) | (intro _; simp [go_sem, *]; done))); try walk_nrm) | (co_applyP opsK_load1 rfl (by rfl) rfl rfl ?_ ?_ ?_; (focus (intro _; go_simp)); (focus (first | exact y2 | exact .inl (by assumption))); try walk_nrm) | ((first | apply wpK_seq | apply wpK_block | apply wpK_skip | apply wpK_label | apply wpK_ret | apply wpK_exit | apply opsK_nil); try simp only [thenK, blockK, if_true, if_false, reduceIte, Nat.reduceEqDiff]) | (refine wpK_cond rfl ?_; simp only [if_true, if_false, reduceIte, Bool.false_eq_true]) | (refine opsK_unwanted rfl (by rfl) ?_; try walk_nrm))
      refine opsK_does rfl (by rfl) rfl (does_recvT (z := .agg #[]) (fun w => by kernel_rfl) (fun w => by kernel_rfl) g3 d3) ?_
      rintro _ k4 ⟨rfl, kt, ht, hdj, hk4⟩
      rw [hO.tok] at ht
      have t4 : TokM X i (i + 1) i k4 := by rw [hk4]; exact TokM.join ht hdj _
      have ro4 : ∀ a u, k.ro a = some u → k4.ro a = some u := fun a u h => by rw [hk4]; exact join_ro1 (x03.ro _ _ h)
      have o4 : k4.own b1 = some (.cells #[.slice none 0 0, .int .i64 0, .nilIface] 38) := by rw [hk4]; exact join_own1 p1
      have nb : ¬ (X.B = b1) ∧ ¬ (X.ml = b1) ∧ ¬ (X.RB = b1) := by
        have h0 : kt.own b1 = none := hdj.oo b1 (by rw [p1]; simp)
        obtain ⟨_, _, h1, _⟩ := ht.box
        obtain ⟨_, _, h2, _⟩ := ht.last.at_
        obtain ⟨_, h3, _⟩ := ht.res
        refine ⟨fun e => ?_, fun e => ?_, fun e => ?_⟩
        · rw [e, h0] at h1; cases h1
        · rw [e, h0] at h2; cases h2
        · rw [e, h0] at h3; cases h3
      have g4 : k4.gh = .wk X q wg left (.job i true) := by rw [hk4]
      have d4 : k4.deaf = 0 := by rw [hk4]; exact d3
      clear hk4
      walk_nrm
      refine goF ?_
      refine opsK_storeL (c' := #[.slice none 0 0, .int .i64 0, errV 1]) rfl (by rfl) rfl rfl rfl rfl (fun w => by kernel_rfl) o4 rfl rfl rfl ?_
      refine goF ?_
      have os := Kn.set_same k4 b1 (.cells #[.slice none 0 0, .int .i64 0, errV 1] 38)
      refine retKN rfl rfl rfl (fun w => by kernel_rfl) (fun w => by kernel_rfl) (reads3 (Kn.has_own os rfl) (Kn.has_own os rfl) (Kn.has_own os rfl)) ?_
      rw [hres.1]
      exact ⟨_, rfl, ⟨rfl, _, _, rfl, fun j u h => by cases h⟩, (t4.extX (Kn.ExtX.set (S := (· = b1)) _ _ _ rfl) nb.1 nb.2.1 nb.2.2).congr hres.2, ro4, g4, d4⟩
  · obtain ⟨aj, rfl⟩ : ∃ aj : Nat, af = (aj : Int) := ⟨af.toNat, by omega⟩
    have haj : aj ≤ i := by omega
    have e0 : decide ((aj : Int) < 0) = false := decide_eq_false (by omega)
    have e1 : decide ((i : Int) < (aj : Int)) = false := decide_eq_false (by omega)
    have hla : aj < N := by omega
    have e2 : decide (i < aj) = false := decide_eq_false (by omega)
    have zca := x03.ro _ _ (hX.chs aj (by omega))
    have hres : resJ X.jobs X.ents i (rs, ws, (aj : Int)) = (stepJ (X.S aj) (X.S i) i (rs, ws, (aj : Int))).1 ∧ X.S (i + 1) = (stepJ (X.S aj) (X.S i) i (rs, ws, (aj : Int))).2 := by
      constructor
      · unfold resJ; simp
      · unfold RunC.S; rw [stJ_succ _ _ hJ]; simp
    repeat (first | (apply wpK_region; simp only [List.size_toArray, List.length_cons, List.length_nil, Nat.reduceAdd, Nat.zero_add, List.range, List.range.loop]) | ((first | refine opsK_max rfl (by rfl) rfl rfl rfl ?_ | refine opsK_eqNil rfl (by rfl) rfl rfl (by kernel_rfl) ?_ | refine opsK_neNil rfl (by rfl) rfl rfl (by kernel_rfl) ?_); try simp only [Option.isNone_none, Option.isNone_some, Bool.not_true, Bool.not_false]; try walk_nrm) | (co_applyP opsK_pure_k rfl (by rfl) ?_ ?_ ?_; (focus (intro _ K hK; go_simp; exact hK)); (focus (first | (exact fun _ => ev_int rfl rfl rfl rfl) | (exact fun _ => ev_str rfl rfl rfl) | (exact fun _ => ev_build rfl) | (exact fun _ => ev_lenS rfl rfl) | (exact fun _ => ev_lenL rfl rfl) | (exact fun _ => ev_mkI rfl) | (intro _; simp [go_sem, *]; done))); try walk_nrm) | (co_applyP opsK_load1 rfl (by rfl) rfl rfl ?_ ?_ ?_; (focus (intro _; go_simp)); (focus (first | exact y2 | exact .inl (by assumption))); try walk_nrm) | ((first | apply wpK_seq | apply wpK_block | apply wpK_skip | apply wpK_label | apply wpK_ret | apply wpK_exit | apply opsK_nil); try simp only [thenK, blockK, if_true, if_false, reduceIte, Nat.reduceEqDiff]) | (refine wpK_cond rfl ?_; simp only [if_true, if_false, reduceIte, Bool.false_eq_true]) | (refine opsK_unwanted rfl (by rfl) ?_; try walk_nrm))
    have o3 : k3.own b2 = some (.cells #[.slice ra rs.length rc, .slice wa ws.length wc, .int .i64 aj] 119) := o3
    have s3 := Kn.ExtX.refl (S := fun _ => False) k3
    (refine wpK_region_held (fun k' => k3.ExtX (fun _ => False) k') (by kernel_rfl) ?_; simp only [List.size_toArray, List.length_cons, List.length_nil, Nat.reduceAdd, Nat.zero_add])
    (first | (refine takeK_nil (i := 0) rfl (by rfl) (by kernel_rfl) (by kernel_rfl) (by kernel_rfl) (by first | assumption | exact Kn.Grow.refl _ | rfl) rfl rfl (by kernel_rfl) ?_; try simp only [Option.isNone_none, Option.isNone_some]; try walk_nrm) | (co_applyP takeK_pure (i := 0) rfl (by rfl) (by kernel_rfl) (by kernel_rfl) (by kernel_rfl) (by first | assumption | exact Kn.Grow.refl _ | rfl) ?_ ?_ ?_; (focus (intro _ K hK; go_simp; exact hK)); (focus (first | (exact fun _ => ev_int rfl rfl rfl rfl) | (exact fun _ => ev_str rfl rfl rfl) | (exact fun _ => ev_build rfl) | (exact fun _ => ev_lenS rfl rfl) | (exact fun _ => ev_lenL rfl rfl) | (exact fun _ => ev_mkI rfl) | (intro _; simp [go_sem, *]; done))); try walk_nrm) | (co_applyP takeK_load1 (i := 0) rfl (by rfl) (by kernel_rfl) (by kernel_rfl) (by kernel_rfl) (by first | assumption | exact Kn.Grow.refl _ | rfl) rfl rfl ?_ ?_ ?_; (focus (intro _; go_simp)); (focus (first | exact fun k' h => .inl (h.ro _ _ z3) | exact fun k' h => .inl (h.ro _ _ zca) | exact fun k' h => Kn.has_own (h.own _ _ id o3) rfl)); try walk_nrm) | (refine takeK_un (i := 0) rfl (by rfl) (by kernel_rfl) (by kernel_rfl) (by kernel_rfl) (by first | assumption | exact Kn.Grow.refl _ | rfl) ?_; try walk_nrm))
    (first | (refine takeK_nil (i := 1) rfl (by rfl) (by kernel_rfl) (by kernel_rfl) (by kernel_rfl) (by first | assumption | exact Kn.Grow.refl _ | rfl) rfl rfl (by kernel_rfl) ?_; try simp only [Option.isNone_none, Option.isNone_some]; try walk_nrm) | (co_applyP takeK_pure (i := 1) rfl (by rfl) (by kernel_rfl) (by kernel_rfl) (by kernel_rfl) (by first | assumption | exact Kn.Grow.refl _ | rfl) ?_ ?_ ?_; (focus (intro _ K hK; go_simp; exact hK)); (focus (first | (exact fun _ => ev_int rfl rfl rfl rfl) | (exact fun _ => ev_str rfl rfl rfl) | (exact fun _ => ev_build rfl) | (exact fun _ => ev_lenS rfl rfl) | (exact fun _ => ev_lenL rfl rfl) | (exact fun _ => ev_mkI rfl) | (intro _; simp [go_sem, *]; done))); try walk_nrm) | (co_applyP takeK_load1 (i := 1) rfl (by rfl) (by kernel_rfl) (by kernel_rfl) (by kernel_rfl) (by first | assumption | exact Kn.Grow.refl _ | rfl) rfl rfl ?_ ?_ ?_; (focus (intro _; go_simp)); (focus (first | exact fun k' h => .inl (h.ro _ _ z3) | exact fun k' h => .inl (h.ro _ _ zca) | exact fun k' h => Kn.has_own (h.own _ _ id o3) rfl)); try walk_nrm) | (refine takeK_un (i := 1) rfl (by rfl) (by kernel_rfl) (by kernel_rfl) (by kernel_rfl) (by first | assumption | exact Kn.Grow.refl _ | rfl) ?_; try walk_nrm))
    (first | (refine takeK_nil (i := 2) rfl (by rfl) (by kernel_rfl) (by kernel_rfl) (by kernel_rfl) (by first | assumption | exact Kn.Grow.refl _ | rfl) rfl rfl (by kernel_rfl) ?_; try simp only [Option.isNone_none, Option.isNone_some]; try walk_nrm) | (co_applyP takeK_pure (i := 2) rfl (by rfl) (by kernel_rfl) (by kernel_rfl) (by kernel_rfl) (by first | assumption | exact Kn.Grow.refl _ | rfl) ?_ ?_ ?_; (focus (intro _ K hK; go_simp; exact hK)); (focus (first | (exact fun _ => ev_int rfl rfl rfl rfl) | (exact fun _ => ev_str rfl rfl rfl) | (exact fun _ => ev_build rfl) | (exact fun _ => ev_lenS rfl rfl) | (exact fun _ => ev_lenL rfl rfl) | (exact fun _ => ev_mkI rfl) | (intro _; simp [go_sem, *]; done))); try walk_nrm) | (co_applyP takeK_load1 (i := 2) rfl (by rfl) (by kernel_rfl) (by kernel_rfl) (by kernel_rfl) (by first | assumption | exact Kn.Grow.refl _ | rfl) rfl rfl ?_ ?_ ?_; (focus (intro _; go_simp)); (focus (first | exact fun k' h => .inl (h.ro _ _ z3) | exact fun k' h => .inl (h.ro _ _ zca) | exact fun k' h => Kn.has_own (h.own _ _ id o3) rfl)); try walk_nrm) | (refine takeK_un (i := 2) rfl (by rfl) (by kernel_rfl) (by kernel_rfl) (by kernel_rfl) (by first | assumption | exact Kn.Grow.refl _ | rfl) ?_; try walk_nrm))
    (first | (refine takeK_nil (i := 3) rfl (by rfl) (by kernel_rfl) (by kernel_rfl) (by kernel_rfl) (by first | assumption | exact Kn.Grow.refl _ | rfl) rfl rfl (by kernel_rfl) ?_; try simp only [Option.isNone_none, Option.isNone_some]; try walk_nrm) | (co_applyP takeK_pure (i := 3) rfl (by rfl) (by kernel_rfl) (by kernel_rfl) (by kernel_rfl) (by first | assumption | exact Kn.Grow.refl _ | rfl) ?_ ?_ ?_; (focus (intro _ K hK; go_simp; exact hK)); (focus (first | (exact fun _ => ev_int rfl rfl rfl rfl) | (exact fun _ => ev_str rfl rfl rfl) | (exact fun _ => ev_build rfl) | (exact fun _ => ev_lenS rfl rfl) | (exact fun _ => ev_lenL rfl rfl) | (exact fun _ => ev_mkI rfl) | (intro _; simp [go_sem, *]; done))); try walk_nrm) | (co_applyP takeK_load1 (i := 3) rfl (by rfl) (by kernel_rfl) (by kernel_rfl) (by kernel_rfl) (by first | assumption | exact Kn.Grow.refl _ | rfl) rfl rfl ?_ ?_ ?_; (focus (intro _; go_simp)); (focus (first | exact fun k' h => .inl (h.ro _ _ z3) | exact fun k' h => .inl (h.ro _ _ zca) | exact fun k' h => Kn.has_own (h.own _ _ id o3) rfl)); try walk_nrm) | (refine takeK_un (i := 3) rfl (by rfl) (by kernel_rfl) (by kernel_rfl) (by kernel_rfl) (by first | assumption | exact Kn.Grow.refl _ | rfl) ?_; try walk_nrm))
    (first | (refine takeK_nil (i := 4) rfl (by rfl) (by kernel_rfl) (by kernel_rfl) (by kernel_rfl) (by first | assumption | exact Kn.Grow.refl _ | rfl) rfl rfl (by kernel_rfl) ?_; try simp only [Option.isNone_none, Option.isNone_some]; try walk_nrm) | (co_applyP takeK_pure (i := 4) rfl (by rfl) (by kernel_rfl) (by kernel_rfl) (by kernel_rfl) (by first | assumption | exact Kn.Grow.refl _ | rfl) ?_ ?_ ?_; (focus (intro _ K hK; go_simp; exact hK)); (focus (first | (exact fun _ => ev_int rfl rfl rfl rfl) | (exact fun _ => ev_str rfl rfl rfl) | (exact fun _ => ev_build rfl) | (exact fun _ => ev_lenS rfl rfl) | (exact fun _ => ev_lenL rfl rfl) | (exact fun _ => ev_mkI rfl) | (intro _; simp [go_sem, *]; done))); try walk_nrm) | (co_applyP takeK_load1 (i := 4) rfl (by rfl) (by kernel_rfl) (by kernel_rfl) (by kernel_rfl) (by first | assumption | exact Kn.Grow.refl _ | rfl) rfl rfl ?_ ?_ ?_; (focus (intro _; go_simp)); (focus (first | exact fun k' h => .inl (h.ro _ _ z3) | exact fun k' h => .inl (h.ro _ _ zca) | exact fun k' h => Kn.has_own (h.own _ _ id o3) rfl)); try walk_nrm) | (refine takeK_un (i := 4) rfl (by rfl) (by kernel_rfl) (by kernel_rfl) (by kernel_rfl) (by first | assumption | exact Kn.Grow.refl _ | rfl) ?_; try walk_nrm))
    (first | (refine takeK_nil (i := 5) rfl (by rfl) (by kernel_rfl) (by kernel_rfl) (by kernel_rfl) (by first | assumption | exact Kn.Grow.refl _ | rfl) rfl rfl (by kernel_rfl) ?_; try simp only [Option.isNone_none, Option.isNone_some]; try walk_nrm) | (co_applyP takeK_pure (i := 5) rfl (by rfl) (by kernel_rfl) (by kernel_rfl) (by kernel_rfl) (by first | assumption | exact Kn.Grow.refl _ | rfl) ?_ ?_ ?_; (focus (intro _ K hK; go_simp; exact hK)); (focus (first | (exact fun _ => ev_int rfl rfl rfl rfl) | (exact fun _ => ev_str rfl rfl rfl) | (exact fun _ => ev_build rfl) | (exact fun _ => ev_lenS rfl rfl) | (exact fun _ => ev_lenL rfl rfl) | (exact fun _ => ev_mkI rfl) | (intro _; simp [go_sem, *]; done))); try walk_nrm) | (co_applyP takeK_load1 (i := 5) rfl (by rfl) (by kernel_rfl) (by kernel_rfl) (by kernel_rfl) (by first | assumption | exact Kn.Grow.refl _ | rfl) rfl rfl ?_ ?_ ?_; (focus (intro _; go_simp)); (focus (first | exact fun k' h => .inl (h.ro _ _ z3) | exact fun k' h => .inl (h.ro _ _ zca) | exact fun k' h => Kn.has_own (h.own _ _ id o3) rfl)); try walk_nrm) | (refine takeK_un (i := 5) rfl (by rfl) (by kernel_rfl) (by kernel_rfl) (by kernel_rfl) (by first | assumption | exact Kn.Grow.refl _ | rfl) ?_; try walk_nrm))
    (first | (refine takeK_nil (i := 6) rfl (by rfl) (by kernel_rfl) (by kernel_rfl) (by kernel_rfl) (by first | assumption | exact Kn.Grow.refl _ | rfl) rfl rfl (by kernel_rfl) ?_; try simp only [Option.isNone_none, Option.isNone_some]; try walk_nrm) | (co_applyP takeK_pure (i := 6) rfl (by rfl) (by kernel_rfl) (by kernel_rfl) (by kernel_rfl) (by first | assumption | exact Kn.Grow.refl _ | rfl) ?_ ?_ ?_; (focus (intro _ K hK; go_simp; exact hK)); (focus (first | (exact fun _ => ev_int rfl rfl rfl rfl) | (exact fun _ => ev_str rfl rfl rfl) | (exact fun _ => ev_build rfl) | (exact fun _ => ev_lenS rfl rfl) | (exact fun _ => ev_lenL rfl rfl) | (exact fun _ => ev_mkI rfl) | (intro _; simp [go_sem, *]; done))); try walk_nrm) | (co_applyP takeK_load1 (i := 6) rfl (by rfl) (by kernel_rfl) (by kernel_rfl) (by kernel_rfl) (by first | assumption | exact Kn.Grow.refl _ | rfl) rfl rfl ?_ ?_ ?_; (focus (intro _; go_simp)); (focus (first | exact fun k' h => .inl (h.ro _ _ z3) | exact fun k' h => .inl (h.ro _ _ zca) | exact fun k' h => Kn.has_own (h.own _ _ id o3) rfl)); try walk_nrm) | (refine takeK_un (i := 6) rfl (by rfl) (by kernel_rfl) (by kernel_rfl) (by kernel_rfl) (by first | assumption | exact Kn.Grow.refl _ | rfl) ?_; try walk_nrm))
    (first | (refine takeK_nil (i := 7) rfl (by rfl) (by kernel_rfl) (by kernel_rfl) (by kernel_rfl) (by first | assumption | exact Kn.Grow.refl _ | rfl) rfl rfl (by kernel_rfl) ?_; try simp only [Option.isNone_none, Option.isNone_some]; try walk_nrm) | (co_applyP takeK_pure (i := 7) rfl (by rfl) (by kernel_rfl) (by kernel_rfl) (by kernel_rfl) (by first | assumption | exact Kn.Grow.refl _ | rfl) ?_ ?_ ?_; (focus (intro _ K hK; go_simp; exact hK)); (focus (first | (exact fun _ => ev_int rfl rfl rfl rfl) | (exact fun _ => ev_str rfl rfl rfl) | (exact fun _ => ev_build rfl) | (exact fun _ => ev_lenS rfl rfl) | (exact fun _ => ev_lenL rfl rfl) | (exact fun _ => ev_mkI rfl) | (intro _; simp [go_sem, *]; done))); try walk_nrm) | (co_applyP takeK_load1 (i := 7) rfl (by rfl) (by kernel_rfl) (by kernel_rfl) (by kernel_rfl) (by first | assumption | exact Kn.Grow.refl _ | rfl) rfl rfl ?_ ?_ ?_; (focus (intro _; go_simp)); (focus (first | exact fun k' h => .inl (h.ro _ _ z3) | exact fun k' h => .inl (h.ro _ _ zca) | exact fun k' h => Kn.has_own (h.own _ _ id o3) rfl)); try walk_nrm) | (refine takeK_un (i := 7) rfl (by rfl) (by kernel_rfl) (by kernel_rfl) (by kernel_rfl) (by first | assumption | exact Kn.Grow.refl _ | rfl) ?_; try walk_nrm))
    refine anyK_does 8 (by kernel_rfl) rfl (by rfl) rfl (does_recvE (z := .agg #[]) (fun w => by kernel_rfl) (fun w => by kernel_rfl) g3 haj d3) ?_
    rintro _ k4 ⟨rfl, x4, hpub⟩
    refine ⟨x4.ext.x, ?_⟩
    rw [hO.pub] at hpub
    obtain ⟨pb, tb, v0, v1, tp, otb, etb⟩ := hpub
    obtain ⟨bp, rfl⟩ := tp.ptr
    obtain ⟨bg, hbg⟩ : ∃ bg, bg = (X.S aj).num := ⟨_, rfl⟩
    rw [← hbg] at v0
    have v0 : k4.ro ⟨X.VB, aj * 2, none⟩ = some (.int .i64 bg) := v0
    clear s3
    have z0 := x4.ro _ _ z0
    have z3 := x4.ro _ _ z3
    have z4 := x4.ro _ _ z4
    have zc := x4.ro _ _ zc
    have o4 := x4.ext.own _ _ o3
    have p4 := x4.ext.own _ _ p1
    have g4 : k4.gh = _ := x4.gh.trans g3
    have d4 : k4.deaf = 0 := x4.deaf.trans d3
    walk_nrm
    (refine anyK_done (by kernel_rfl) ?_ _; simp only [thenK, blockK, if_true, if_false, reduceIte, Nat.reduceEqDiff])
    (first | apply wpK_seq | apply wpK_block | apply wpK_skip | apply wpK_label | apply wpK_ret | apply wpK_exit | apply opsK_nil)
    have s4 := Kn.ExtX.refl (S := fun _ => False) k4
    (refine wpK_region_held (fun k' => k4.ExtX (fun _ => False) k') (by kernel_rfl) ?_; simp only [List.size_toArray, List.length_cons, List.length_nil, Nat.reduceAdd, Nat.zero_add])
    (first | (refine takeK_nil (i := 0) rfl (by rfl) (by kernel_rfl) (by kernel_rfl) (by kernel_rfl) (by first | assumption | exact Kn.Grow.refl _ | rfl) rfl rfl (by kernel_rfl) ?_; try simp only [Option.isNone_none, Option.isNone_some]; try walk_nrm) | (co_applyP takeK_pure (i := 0) rfl (by rfl) (by kernel_rfl) (by kernel_rfl) (by kernel_rfl) (by first | assumption | exact Kn.Grow.refl _ | rfl) ?_ ?_ ?_; (focus (intro _ K hK; go_simp; exact hK)); (focus (first | (exact fun _ => ev_int rfl rfl rfl rfl) | (exact fun _ => ev_str rfl rfl rfl) | (exact fun _ => ev_build rfl) | (exact fun _ => ev_lenS rfl rfl) | (exact fun _ => ev_lenL rfl rfl) | (exact fun _ => ev_mkI rfl) | (intro _; simp [go_sem, *]; done))); try walk_nrm) | (co_applyP takeK_load1 (i := 0) rfl (by rfl) (by kernel_rfl) (by kernel_rfl) (by kernel_rfl) (by first | assumption | exact Kn.Grow.refl _ | rfl) rfl rfl ?_ ?_ ?_; (focus (intro _; go_simp)); (focus (first | exact fun k' h => .inl (h.ro _ _ z0) | exact fun k' h => .inl (h.ro _ _ z4) | exact fun k' h => Kn.has_own (h.own _ _ id o4) rfl)); try walk_nrm) | (refine takeK_un (i := 0) rfl (by rfl) (by kernel_rfl) (by kernel_rfl) (by kernel_rfl) (by first | assumption | exact Kn.Grow.refl _ | rfl) ?_; try walk_nrm))
    (first | (refine takeK_nil (i := 1) rfl (by rfl) (by kernel_rfl) (by kernel_rfl) (by kernel_rfl) (by first | assumption | exact Kn.Grow.refl _ | rfl) rfl rfl (by kernel_rfl) ?_; try simp only [Option.isNone_none, Option.isNone_some]; try walk_nrm) | (co_applyP takeK_pure (i := 1) rfl (by rfl) (by kernel_rfl) (by kernel_rfl) (by kernel_rfl) (by first | assumption | exact Kn.Grow.refl _ | rfl) ?_ ?_ ?_; (focus (intro _ K hK; go_simp; exact hK)); (focus (first | (exact fun _ => ev_int rfl rfl rfl rfl) | (exact fun _ => ev_str rfl rfl rfl) | (exact fun _ => ev_build rfl) | (exact fun _ => ev_lenS rfl rfl) | (exact fun _ => ev_lenL rfl rfl) | (exact fun _ => ev_mkI rfl) | (intro _; simp [go_sem, *]; done))); try walk_nrm) | (co_applyP takeK_load1 (i := 1) rfl (by rfl) (by kernel_rfl) (by kernel_rfl) (by kernel_rfl) (by first | assumption | exact Kn.Grow.refl _ | rfl) rfl rfl ?_ ?_ ?_; (focus (intro _; go_simp)); (focus (first | exact fun k' h => .inl (h.ro _ _ z0) | exact fun k' h => .inl (h.ro _ _ z4) | exact fun k' h => Kn.has_own (h.own _ _ id o4) rfl)); try walk_nrm) | (refine takeK_un (i := 1) rfl (by rfl) (by kernel_rfl) (by kernel_rfl) (by kernel_rfl) (by first | assumption | exact Kn.Grow.refl _ | rfl) ?_; try walk_nrm))
    (first | (refine takeK_nil (i := 2) rfl (by rfl) (by kernel_rfl) (by kernel_rfl) (by kernel_rfl) (by first | assumption | exact Kn.Grow.refl _ | rfl) rfl rfl (by kernel_rfl) ?_; try simp only [Option.isNone_none, Option.isNone_some]; try walk_nrm) | (co_applyP takeK_pure (i := 2) rfl (by rfl) (by kernel_rfl) (by kernel_rfl) (by kernel_rfl) (by first | assumption | exact Kn.Grow.refl _ | rfl) ?_ ?_ ?_; (focus (intro _ K hK; go_simp; exact hK)); (focus (first | (exact fun _ => ev_int rfl rfl rfl rfl) | (exact fun _ => ev_str rfl rfl rfl) | (exact fun _ => ev_build rfl) | (exact fun _ => ev_lenS rfl rfl) | (exact fun _ => ev_lenL rfl rfl) | (exact fun _ => ev_mkI rfl) | (intro _; simp [go_sem, *]; done))); try walk_nrm) | (co_applyP takeK_load1 (i := 2) rfl (by rfl) (by kernel_rfl) (by kernel_rfl) (by kernel_rfl) (by first | assumption | exact Kn.Grow.refl _ | rfl) rfl rfl ?_ ?_ ?_; (focus (intro _; go_simp)); (focus (first | exact fun k' h => .inl (h.ro _ _ z0) | exact fun k' h => .inl (h.ro _ _ z4) | exact fun k' h => Kn.has_own (h.own _ _ id o4) rfl)); try walk_nrm) | (refine takeK_un (i := 2) rfl (by rfl) (by kernel_rfl) (by kernel_rfl) (by kernel_rfl) (by first | assumption | exact Kn.Grow.refl _ | rfl) ?_; try walk_nrm))
    (first | (refine takeK_nil (i := 3) rfl (by rfl) (by kernel_rfl) (by kernel_rfl) (by kernel_rfl) (by first | assumption | exact Kn.Grow.refl _ | rfl) rfl rfl (by kernel_rfl) ?_; try simp only [Option.isNone_none, Option.isNone_some]; try walk_nrm) | (co_applyP takeK_pure (i := 3) rfl (by rfl) (by kernel_rfl) (by kernel_rfl) (by kernel_rfl) (by first | assumption | exact Kn.Grow.refl _ | rfl) ?_ ?_ ?_; (focus (intro _ K hK; go_simp; exact hK)); (focus (first | (exact fun _ => ev_int rfl rfl rfl rfl) | (exact fun _ => ev_str rfl rfl rfl) | (exact fun _ => ev_build rfl) | (exact fun _ => ev_lenS rfl rfl) | (exact fun _ => ev_lenL rfl rfl) | (exact fun _ => ev_mkI rfl) | (intro _; simp [go_sem, *]; done))); try walk_nrm) | (co_applyP takeK_load1 (i := 3) rfl (by rfl) (by kernel_rfl) (by kernel_rfl) (by kernel_rfl) (by first | assumption | exact Kn.Grow.refl _ | rfl) rfl rfl ?_ ?_ ?_; (focus (intro _; go_simp)); (focus (first | exact fun k' h => .inl (h.ro _ _ z0) | exact fun k' h => .inl (h.ro _ _ z4) | exact fun k' h => Kn.has_own (h.own _ _ id o4) rfl)); try walk_nrm) | (refine takeK_un (i := 3) rfl (by rfl) (by kernel_rfl) (by kernel_rfl) (by kernel_rfl) (by first | assumption | exact Kn.Grow.refl _ | rfl) ?_; try walk_nrm))
    (first | (refine takeK_nil (i := 4) rfl (by rfl) (by kernel_rfl) (by kernel_rfl) (by kernel_rfl) (by first | assumption | exact Kn.Grow.refl _ | rfl) rfl rfl (by kernel_rfl) ?_; try simp only [Option.isNone_none, Option.isNone_some]; try walk_nrm) | (co_applyP takeK_pure (i := 4) rfl (by rfl) (by kernel_rfl) (by kernel_rfl) (by kernel_rfl) (by first | assumption | exact Kn.Grow.refl _ | rfl) ?_ ?_ ?_; (focus (intro _ K hK; go_simp; exact hK)); (focus (first | (exact fun _ => ev_int rfl rfl rfl rfl) | (exact fun _ => ev_str rfl rfl rfl) | (exact fun _ => ev_build rfl) | (exact fun _ => ev_lenS rfl rfl) | (exact fun _ => ev_lenL rfl rfl) | (exact fun _ => ev_mkI rfl) | (intro _; simp [go_sem, *]; done))); try walk_nrm) | (co_applyP takeK_load1 (i := 4) rfl (by rfl) (by kernel_rfl) (by kernel_rfl) (by kernel_rfl) (by first | assumption | exact Kn.Grow.refl _ | rfl) rfl rfl ?_ ?_ ?_; (focus (intro _; go_simp)); (focus (first | exact fun k' h => .inl (h.ro _ _ z0) | exact fun k' h => .inl (h.ro _ _ z4) | exact fun k' h => Kn.has_own (h.own _ _ id o4) rfl)); try walk_nrm) | (refine takeK_un (i := 4) rfl (by rfl) (by kernel_rfl) (by kernel_rfl) (by kernel_rfl) (by first | assumption | exact Kn.Grow.refl _ | rfl) ?_; try walk_nrm))
    (first | (refine takeK_nil (i := 5) rfl (by rfl) (by kernel_rfl) (by kernel_rfl) (by kernel_rfl) (by first | assumption | exact Kn.Grow.refl _ | rfl) rfl rfl (by kernel_rfl) ?_; try simp only [Option.isNone_none, Option.isNone_some]; try walk_nrm) | (co_applyP takeK_pure (i := 5) rfl (by rfl) (by kernel_rfl) (by kernel_rfl) (by kernel_rfl) (by first | assumption | exact Kn.Grow.refl _ | rfl) ?_ ?_ ?_; (focus (intro _ K hK; go_simp; exact hK)); (focus (first | (exact fun _ => ev_int rfl rfl rfl rfl) | (exact fun _ => ev_str rfl rfl rfl) | (exact fun _ => ev_build rfl) | (exact fun _ => ev_lenS rfl rfl) | (exact fun _ => ev_lenL rfl rfl) | (exact fun _ => ev_mkI rfl) | (intro _; simp [go_sem, *]; done))); try walk_nrm) | (co_applyP takeK_load1 (i := 5) rfl (by rfl) (by kernel_rfl) (by kernel_rfl) (by kernel_rfl) (by first | assumption | exact Kn.Grow.refl _ | rfl) rfl rfl ?_ ?_ ?_; (focus (intro _; go_simp)); (focus (first | exact fun k' h => .inl (h.ro _ _ z0) | exact fun k' h => .inl (h.ro _ _ z4) | exact fun k' h => Kn.has_own (h.own _ _ id o4) rfl)); try walk_nrm) | (refine takeK_un (i := 5) rfl (by rfl) (by kernel_rfl) (by kernel_rfl) (by kernel_rfl) (by first | assumption | exact Kn.Grow.refl _ | rfl) ?_; try walk_nrm))
    (first | (refine takeK_nil (i := 6) rfl (by rfl) (by kernel_rfl) (by kernel_rfl) (by kernel_rfl) (by first | assumption | exact Kn.Grow.refl _ | rfl) rfl rfl (by kernel_rfl) ?_; try simp only [Option.isNone_none, Option.isNone_some]; try walk_nrm) | (co_applyP takeK_pure (i := 6) rfl (by rfl) (by kernel_rfl) (by kernel_rfl) (by kernel_rfl) (by first | assumption | exact Kn.Grow.refl _ | rfl) ?_ ?_ ?_; (focus (intro _ K hK; go_simp; exact hK)); (focus (first | (exact fun _ => ev_int rfl rfl rfl rfl) | (exact fun _ => ev_str rfl rfl rfl) | (exact fun _ => ev_build rfl) | (exact fun _ => ev_lenS rfl rfl) | (exact fun _ => ev_lenL rfl rfl) | (exact fun _ => ev_mkI rfl) | (intro _; simp [go_sem, *]; done))); try walk_nrm) | (co_applyP takeK_load1 (i := 6) rfl (by rfl) (by kernel_rfl) (by kernel_rfl) (by kernel_rfl) (by first | assumption | exact Kn.Grow.refl _ | rfl) rfl rfl ?_ ?_ ?_; (focus (intro _; go_simp)); (focus (first | exact fun k' h => .inl (h.ro _ _ z0) | exact fun k' h => .inl (h.ro _ _ z4) | exact fun k' h => Kn.has_own (h.own _ _ id o4) rfl)); try walk_nrm) | (refine takeK_un (i := 6) rfl (by rfl) (by kernel_rfl) (by kernel_rfl) (by kernel_rfl) (by first | assumption | exact Kn.Grow.refl _ | rfl) ?_; try walk_nrm))
    (first | (refine takeK_nil (i := 7) rfl (by rfl) (by kernel_rfl) (by kernel_rfl) (by kernel_rfl) (by first | assumption | exact Kn.Grow.refl _ | rfl) rfl rfl (by kernel_rfl) ?_; try simp only [Option.isNone_none, Option.isNone_some]; try walk_nrm) | (co_applyP takeK_pure (i := 7) rfl (by rfl) (by kernel_rfl) (by kernel_rfl) (by kernel_rfl) (by first | assumption | exact Kn.Grow.refl _ | rfl) ?_ ?_ ?_; (focus (intro _ K hK; go_simp; exact hK)); (focus (first | (exact fun _ => ev_int rfl rfl rfl rfl) | (exact fun _ => ev_str rfl rfl rfl) | (exact fun _ => ev_build rfl) | (exact fun _ => ev_lenS rfl rfl) | (exact fun _ => ev_lenL rfl rfl) | (exact fun _ => ev_mkI rfl) | (intro _; simp [go_sem, *]; done))); try walk_nrm) | (co_applyP takeK_load1 (i := 7) rfl (by rfl) (by kernel_rfl) (by kernel_rfl) (by kernel_rfl) (by first | assumption | exact Kn.Grow.refl _ | rfl) rfl rfl ?_ ?_ ?_; (focus (intro _; go_simp)); (focus (first | exact fun k' h => .inl (h.ro _ _ z0) | exact fun k' h => .inl (h.ro _ _ z4) | exact fun k' h => Kn.has_own (h.own _ _ id o4) rfl)); try walk_nrm) | (refine takeK_un (i := 7) rfl (by rfl) (by kernel_rfl) (by kernel_rfl) (by kernel_rfl) (by first | assumption | exact Kn.Grow.refl _ | rfl) ?_; try walk_nrm))
    (first | (refine takeK_nil (i := 8) rfl (by rfl) (by kernel_rfl) (by kernel_rfl) (by kernel_rfl) (by first | assumption | exact Kn.Grow.refl _ | rfl) rfl rfl (by kernel_rfl) ?_; try simp only [Option.isNone_none, Option.isNone_some]; try walk_nrm) | (co_applyP takeK_pure (i := 8) rfl (by rfl) (by kernel_rfl) (by kernel_rfl) (by kernel_rfl) (by first | assumption | exact Kn.Grow.refl _ | rfl) ?_ ?_ ?_; (focus (intro _ K hK; go_simp; exact hK)); (focus (first | (exact fun _ => ev_int rfl rfl rfl rfl) | (exact fun _ => ev_str rfl rfl rfl) | (exact fun _ => ev_build rfl) | (exact fun _ => ev_lenS rfl rfl) | (exact fun _ => ev_lenL rfl rfl) | (exact fun _ => ev_mkI rfl) | (intro _; simp [go_sem, *]; done))); try walk_nrm) | (co_applyP takeK_load1 (i := 8) rfl (by rfl) (by kernel_rfl) (by kernel_rfl) (by kernel_rfl) (by first | assumption | exact Kn.Grow.refl _ | rfl) rfl rfl ?_ ?_ ?_; (focus (intro _; go_simp)); (focus (first | exact fun k' h => .inl (h.ro _ _ z0) | exact fun k' h => .inl (h.ro _ _ z4) | exact fun k' h => Kn.has_own (h.own _ _ id o4) rfl)); try walk_nrm) | (refine takeK_un (i := 8) rfl (by rfl) (by kernel_rfl) (by kernel_rfl) (by kernel_rfl) (by first | assumption | exact Kn.Grow.refl _ | rfl) ?_; try walk_nrm))
    (first | (refine takeK_nil (i := 9) rfl (by rfl) (by kernel_rfl) (by kernel_rfl) (by kernel_rfl) (by first | assumption | exact Kn.Grow.refl _ | rfl) rfl rfl (by kernel_rfl) ?_; try simp only [Option.isNone_none, Option.isNone_some]; try walk_nrm) | (co_applyP takeK_pure (i := 9) rfl (by rfl) (by kernel_rfl) (by kernel_rfl) (by kernel_rfl) (by first | assumption | exact Kn.Grow.refl _ | rfl) ?_ ?_ ?_; (focus (intro _ K hK; go_simp; exact hK)); (focus (first | (exact fun _ => ev_int rfl rfl rfl rfl) | (exact fun _ => ev_str rfl rfl rfl) | (exact fun _ => ev_build rfl) | (exact fun _ => ev_lenS rfl rfl) | (exact fun _ => ev_lenL rfl rfl) | (exact fun _ => ev_mkI rfl) | (intro _; simp [go_sem, *]; done))); try walk_nrm) | (co_applyP takeK_load1 (i := 9) rfl (by rfl) (by kernel_rfl) (by kernel_rfl) (by kernel_rfl) (by first | assumption | exact Kn.Grow.refl _ | rfl) rfl rfl ?_ ?_ ?_; (focus (intro _; go_simp)); (focus (first | exact fun k' h => .inl (h.ro _ _ z0) | exact fun k' h => .inl (h.ro _ _ z4) | exact fun k' h => Kn.has_own (h.own _ _ id o4) rfl)); try walk_nrm) | (refine takeK_un (i := 9) rfl (by rfl) (by kernel_rfl) (by kernel_rfl) (by kernel_rfl) (by first | assumption | exact Kn.Grow.refl _ | rfl) ?_; try walk_nrm))
    (first | (refine takeK_nil (i := 10) rfl (by rfl) (by kernel_rfl) (by kernel_rfl) (by kernel_rfl) (by first | assumption | exact Kn.Grow.refl _ | rfl) rfl rfl (by kernel_rfl) ?_; try simp only [Option.isNone_none, Option.isNone_some]; try walk_nrm) | (co_applyP takeK_pure (i := 10) rfl (by rfl) (by kernel_rfl) (by kernel_rfl) (by kernel_rfl) (by first | assumption | exact Kn.Grow.refl _ | rfl) ?_ ?_ ?_; (focus (intro _ K hK; go_simp; exact hK)); (focus (first | (exact fun _ => ev_int rfl rfl rfl rfl) | (exact fun _ => ev_str rfl rfl rfl) | (exact fun _ => ev_build rfl) | (exact fun _ => ev_lenS rfl rfl) | (exact fun _ => ev_lenL rfl rfl) | (exact fun _ => ev_mkI rfl) | (intro _; simp [go_sem, *]; done))); try walk_nrm) | (co_applyP takeK_load1 (i := 10) rfl (by rfl) (by kernel_rfl) (by kernel_rfl) (by kernel_rfl) (by first | assumption | exact Kn.Grow.refl _ | rfl) rfl rfl ?_ ?_ ?_; (focus (intro _; go_simp)); (focus (first | exact fun k' h => .inl (h.ro _ _ z0) | exact fun k' h => .inl (h.ro _ _ z4) | exact fun k' h => Kn.has_own (h.own _ _ id o4) rfl)); try walk_nrm) | (refine takeK_un (i := 10) rfl (by rfl) (by kernel_rfl) (by kernel_rfl) (by kernel_rfl) (by first | assumption | exact Kn.Grow.refl _ | rfl) ?_; try walk_nrm))
    refine takeK_loadN (i := 11) (vs := [.int .i64 bg, .pointer bp]) rfl (by rfl) (by kernel_rfl) (by kernel_rfl) (by kernel_rfl) s4 rfl rfl (fun w => by kernel_rfl) (fun w => by kernel_rfl) (fun k' h => reads2 (.inl (h.ro _ _ v0)) (.inl (h.ro _ _ v1))) ?_
    walk_nrm
    refine anyK_call 12 (by kernel_rfl) rfl (by rfl) rfl (by walk_nrm; rfl) (begin_k k4 X.B bg _ ⟨_, rfl⟩) ?_
    rintro _ k5 ⟨T, mr, mc, rfl, x5, hT5, nT, nmr, nmc⟩
    refine ⟨x5.x, ?_⟩
    have s5 : k4.ExtX (fun _ => False) k5 := x5.x
    walk_nrm
    refine tkF 13 ?_
    (refine anyK_done (by kernel_rfl) ?_ _; simp only [thenK, blockK, if_true, if_false, reduceIte, Nat.reduceEqDiff])
    have x04 := x03.trans x4.ext
    have z0 := x5.ro _ _ z0
    have z3 := x5.ro _ _ z3
    have zc := x5.ro _ _ zc
    have o5 := x5.own _ _ o4
    have p5 := x5.own _ _ p4
    have g5 : k5.gh = _ := x5.gh.trans g4
    have d5 : k5.deaf = 0 := x5.deaf.trans d4
    have nTb : ∀ b, k4.own b ≠ none → b ≠ T ∧ b ≠ mr ∧ b ≠ mc := fun b h => ⟨fun e => h (by rw [e]; exact nT), fun e => h (by rw [e]; exact nmr), fun e => h (by rw [e]; exact nmc)⟩
    have n1T := nTb b1 (by rw [p4]; simp)
    refine goF ?_
    refine opsK_loadN (vs := [.slice ra rs.length rc, .slice wa ws.length wc, .int .i64 aj]) rfl (by rfl) rfl rfl (fun w => by kernel_rfl) (fun w => by kernel_rfl) (reads3 (Kn.has_own o5 rfl) (Kn.has_own o5 rfl) (Kn.has_own o5 rfl)) ?_
    walk_nrm
    have tb5 : TrK k5.ro (.pointer bp) tb := tp.mono x5.ro
    have hfit := hX.fit _ (List.mem_of_getElem? hJ)
    refine opsK_callv rfl (by rfl) rfl (by first | (walk_nrm; done) | (walk_nrm; rfl)) (perform_k k5 T X.B bg (.pointer bp) mr mc tb rs ws (.slice ra rs.length rc) (.slice wa ws.length wc) aj hT5 tb5 (hrv.mono fun a u h => x5.ro _ _ (x04.ro _ _ h)) (hwv.mono fun a u h => x5.ro _ _ (x04.ro _ _ h)) hfit.1 hfit.2) ?_
    rintro _ k6 hpf
    have hpf : PerformTo k5 T X.B bg (.pointer bp) mr mc tb rs ws _ k6 := hpf
    rcases hpf with ⟨hbj, rfl, x56⟩ | ⟨hv1, hv2, sv, rfl, osv, nsv, hT6, x56⟩
    · have hR : (stepJ (X.S aj) (X.S i) i (rs, ws, (aj : Int))) = (⟨[], 0, 13⟩, X.S i) := by
        unfold stepJ
        rw [if_neg (by simpa using hbad), if_pos (show badJ (rs, ws, (aj : Int)) from hbj)]
      rw [hR] at hres
      have z0 := x56.ro _ _ z0
      have z3 := x56.ro _ _ z3
      have zc := x56.ro _ _ zc
      have p6 := x56.own _ _ (by simp [n1T.2.1, n1T.2.2]) p5
      have g6 : k6.gh = _ := x56.gh.trans g5
      have d6 : k6.deaf = 0 := x56.deaf.trans d5
      have x6 : ∀ a u, k4.ro a = some u → k6.ro a = some u := fun a u h => x56.ro _ _ (x5.ro _ _ h)
      walk_nrm
      refine goI ?_
      refine opsK_does rfl (by rfl) rfl (does_recvT (z := .agg #[]) (fun w => by kernel_rfl) (fun w => by kernel_rfl) g6 d6) ?_
      rintro _ k7 ⟨rfl, kt, ht, hdj, hk7⟩
      rw [hO.tok] at ht
      have t7 : TokM X i (i + 1) i k7 := by rw [hk7]; exact TokM.join ht hdj _
      have ro7 : ∀ a u, k.ro a = some u → k7.ro a = some u := fun a u h => by rw [hk7]; exact join_ro1 (x6 _ _ (x04.ro _ _ h))
      have o7 : k7.own b1 = some (.cells #[.slice none 0 0, .int .i64 0, .nilIface] 38) := by rw [hk7]; exact join_own1 p6
      have nb : ∀ b, k6.own b ≠ none → ¬ (X.B = b) ∧ ¬ (X.ml = b) ∧ ¬ (X.RB = b) := fun b hb => by
        have h0 : kt.own b = none := hdj.oo b hb
        obtain ⟨_, _, h1, _⟩ := ht.box
        obtain ⟨_, _, h2, _⟩ := ht.last.at_
        obtain ⟨_, h3, _⟩ := ht.res
        refine ⟨fun e => ?_, fun e => ?_, fun e => ?_⟩
        · rw [e, h0] at h1; cases h1
        · rw [e, h0] at h2; cases h2
        · rw [e, h0] at h3; cases h3
      have nb1 := nb b1 (by rw [p6]; simp)
      have g7 : k7.gh = .wk X q wg left (.job i true) := by rw [hk7]
      have d7 : k7.deaf = 0 := by rw [hk7]; exact d6

      clear hk7
      walk_nrm
      refine goF ?_
      refine opsK_sure (.bool true) rfl (by rfl) (fun w => by kernel_rfl) (fun w => by kernel_rfl) ?_; walk_nrm
      refine goF ?_
      refine opsK_storeL (c' := #[.slice none 0 0, .int .i64 0, errV 13]) rfl (by rfl) rfl rfl rfl rfl (fun w => by kernel_rfl) o7 rfl rfl rfl ?_
      refine goF ?_
      have os := Kn.set_same k7 b1 (.cells #[.slice none 0 0, .int .i64 0, errV 13] 38)
      refine retKN rfl rfl rfl (fun w => by kernel_rfl) (fun w => by kernel_rfl) (reads3 (Kn.has_own os rfl) (Kn.has_own os rfl) (Kn.has_own os rfl)) ?_
      rw [hres.1]
      exact ⟨_, rfl, ⟨rfl, _, _, rfl, fun j u h => by cases h⟩, (t7.extX (Kn.ExtX.set (S := (· = b1)) _ _ _ rfl) nb1.1 nb1.2.1 nb1.2.2).congr hres.2, ro7, g7, d7⟩
    · have hnb : ¬ badJ (rs, ws, (aj : Int)) := by
        rintro ⟨s, h | ⟨x, h, rfl⟩, h2⟩
        · have := hv1 s h; rw [this] at h2; cases h2
        · have := hv2 x h; rw [this] at h2; cases h2
      have z0 := x56.ro _ _ z0
      have z3 := x56.ro _ _ z3
      have zc := x56.ro _ _ zc
      have p6 := x56.own _ _ (by simp [n1T.2.1, n1T.2.2]) p5
      have g6 : k6.gh = _ := x56.gh.trans g5
      have d6 : k6.deaf = 0 := x56.deaf.trans d5
      have x6 : ∀ a u, k4.ro a = some u → k6.ro a = some u := fun a u h => x56.ro _ _ (x5.ro _ _ h)
      have hsv : ∃ sa sl sc, sv = .slice sa sl sc := by
        rcases osv.at_ with ⟨e, _⟩ | ⟨b, cap, c, e, _⟩ <;> exact ⟨_, _, _, e⟩
      obtain ⟨sa, sl, sc, rfl⟩ := hsv
      walk_nrm
      refine goI ?_
      refine opsK_does rfl (by rfl) rfl (does_recvT (z := .agg #[]) (fun w => by kernel_rfl) (fun w => by kernel_rfl) g6 d6) ?_
      rintro _ k7 ⟨rfl, kt, ht, hdj, hk7⟩
      rw [hO.tok] at ht
      have t7 : TokM X i (i + 1) i k7 := by rw [hk7]; exact TokM.join ht hdj _
      have ro7 : ∀ a u, k.ro a = some u → k7.ro a = some u := fun a u h => by rw [hk7]; exact join_ro1 (x6 _ _ (x04.ro _ _ h))
      have o7 : k7.own b1 = some (.cells #[.slice none 0 0, .int .i64 0, .nilIface] 38) := by rw [hk7]; exact join_own1 p6
      have nb : ∀ b, k6.own b ≠ none → ¬ (X.B = b) ∧ ¬ (X.ml = b) ∧ ¬ (X.RB = b) := fun b hb => by
        have h0 : kt.own b = none := hdj.oo b hb
        obtain ⟨_, _, h1, _⟩ := ht.box
        obtain ⟨_, _, h2, _⟩ := ht.last.at_
        obtain ⟨_, h3, _⟩ := ht.res
        refine ⟨fun e => ?_, fun e => ?_, fun e => ?_⟩
        · rw [e, h0] at h1; cases h1
        · rw [e, h0] at h2; cases h2
        · rw [e, h0] at h3; cases h3
      have nb1 := nb b1 (by rw [p6]; simp)
      have g7 : k7.gh = .wk X q wg left (.job i true) := by rw [hk7]
      have d7 : k7.deaf = 0 := by rw [hk7]; exact d6

      have oT7 : ∀ b o, k6.own b = some o → k7.own b = some o := fun b o h => by rw [hk7]; exact join_own1 h
      have roT : ∀ a u, k6.ro a = some u → k7.ro a = some u := fun a u h => by rw [hk7]; exact join_ro1 h
      clear hk7
      walk_nrm
      refine goF ?_
      refine opsK_sure (.bool false) rfl (by rfl) (fun w => by kernel_rfl) (fun w => by kernel_rfl) ?_; walk_nrm
      refine goF ?_
      obtain ⟨p7, tt, hB7, hp7, ot7, et7⟩ := t7.box
      have hT7 := hT6.ext oT7
      have hsrt := stJ_srt (jobs := X.jobs) hX.srt i
      have hnum : 0 ≤ (X.S i).num ∧ (X.S i).num ≤ (i : Int) := stJ_num X.jobs X.ents i
      have hlen : (X.S i).ents.length ≤ X.ents.length + i * 1099511627776 := stJ_len (E := X.ents) (M := 1099511627776) (fun J hJ => (hX.fit J hJ).2) i
      have hsm := hX.small
      have heln := hX.eln
      have hfw : ws.length < 1099511627776 := hfit.2
      have hsz : tt.sz + ws.length < 288230376151711744 := by
        have e1 := ot7.size
        rw [et7] at e1
        omega
      have nmr' := nb mr (by obtain ⟨_, _, h, _⟩ := hT6.rd; rw [h]; simp)
      have nmc' := nb mc (by obtain ⟨_, _, h, _⟩ := hT6.ch; rw [h]; simp)
      have nT' := nb T (by rw [hT6.txn]; simp)
      refine opsK_callv rfl (by rfl) rfl (by first | (walk_nrm; done) | (walk_nrm; rfl)) (tcommit_k k7 X.B X.ml T (X.S i).num bg p7 (.pointer bp) tt (X.S i).last (wrF ws) (rdF rs) mr mc ws.length hB7 t7.last hT7 hp7 ot7 (by rw [et7]; exact hsrt) ⟨hnum.1, by omega⟩ hsz nmr'.2.1 nmc'.2.1) ?_
      rintro vv k8 hcm
      have x78 : k7.ExtX (fun b => b = X.B ∨ b = X.ml ∨ b = T) k8 := by
        rcases hcm with ⟨_, _, h⟩ | ⟨_, _, _, h⟩ | ⟨_, _, _, _, _, _, _, _, _, _, _, _, h⟩
        · exact h.mono fun b e => .inr (.inr e)
        · exact h.mono fun b e => .inr (.inr e)
        · exact h
      have o8 := x78.own b1 _ (by rintro (e | e | e); exact nb1.1 e.symm; exact nb1.2.1 e.symm; exact n1T.1 e) o7
      have osv8 : OwnSl k8 24 1 (.slice sa sl sc) rs.length (rs.map fun s => intV (lookT tb s)) := by
        refine ⟨osv.len, osv.at_.imp id fun ⟨b, cap, c, h1, h2, h3, h4, h5⟩ => ⟨b, cap, c, h1, h2, ?_, h4, h5⟩⟩
        have nbb := nb b (by rw [h3]; simp)
        refine x78.own b _ ?_ (oT7 _ _ h3)
        rintro (e | e | e)
        · exact nbb.1 e.symm
        · exact nbb.2.1 e.symm
        · subst e; rw [hT6.txn] at h3; cases h3
      have ro8 : ∀ a u, k.ro a = some u → k8.ro a = some u := fun a u h => x78.ro _ _ (ro7 _ _ h)
      have g8 := x78.gh.trans g7
      have d8 : k8.deaf = 0 := x78.deaf.trans d7
      have hEb : ∀ s, lookT tb s = lookE (X.S aj).ents s := fun s => by
        unfold lookT lookE
        rw [getT_ents (by rw [etb]; exact stJ_srt hX.srt aj), etb]
      have eSaw : (rs.map fun s => intV (lookT tb s)) = (rs.map (lookE (X.S aj).ents)).map intV := by
        rw [List.map_map]
        exact List.map_congr_left fun s _ => by simp [hEb]
      rw [eSaw] at osv8
      have tsame : TokM X (i + 1) (i + 1) i k7 ∨ True := .inr trivial
      have key : (vv = .tuple #[intV 0, errV 11] ∧ resJ X.jobs X.ents i (rs, ws, (aj : Int)) = ⟨[], 0, 11⟩ ∧ TokM X (i + 1) (i + 1) i k8) ∨
          ∃ ver, vv = .tuple #[intV ver, .nilIface] ∧ resJ X.jobs X.ents i (rs, ws, (aj : Int)) = ⟨rs.map (lookE (X.S aj).ents), ver, 0⟩ ∧ TokM X (i + 1) (i + 1) i k8 := by
        rcases hcm with ⟨h1, rfl, h⟩ | ⟨⟨s1, h1⟩, rfl, h2, h⟩ | ⟨⟨s1, h1⟩, rfl, h2, p8, t8, h3, h4, h5, h6, h7, h8, h9, h⟩
        · have hR : (stepJ (X.S aj) (X.S i) i (rs, ws, (aj : Int))) = (⟨rs.map (lookE (X.S aj).ents), bg, 0⟩, X.S i) := by
            unfold stepJ
            rw [if_neg (by simpa using hbad), if_neg hnb, if_pos h1, hbg]
          rw [hR] at hres
          exact .inr ⟨bg, rfl, hres.1, (t7.extX h nT'.1 nT'.2.1 nT'.2.2).congr hres.2⟩
        · have hR : (stepJ (X.S aj) (X.S i) i (rs, ws, (aj : Int))) = (⟨[], 0, 11⟩, X.S i) := by
            unfold stepJ
            rw [if_neg (by simpa using hbad), if_neg hnb, if_neg (fun h => h1 (h s1)), if_pos (by rw [hbg] at h2; exact h2)]
          rw [hR] at hres
          exact .inl ⟨rfl, hres.1, (t7.extX h nT'.1 nT'.2.1 nT'.2.2).congr hres.2⟩
        · have hnh : ¬ hitJ (X.S aj) (X.S i) (rs, ws, (aj : Int)) := by
            rintro ⟨s, g1, g2⟩
            have := h2 s g1
            rw [hbg] at this
            omega
          have hR : (stepJ (X.S aj) (X.S i) i (rs, ws, (aj : Int))) = (⟨rs.map (lookE (X.S aj).ents), (X.S i).num + 1, 0⟩, ⟨(X.S i).num + 1, fun s => if (wrF ws s).isSome then some ((X.S i).num + 1) else (X.S i).last s, insF ws (X.S i).ents⟩) := by
            unfold stepJ
            rw [if_neg (by simpa using hbad), if_neg hnb, if_neg (fun h => h1 (h s1)), if_neg hnh]
          rw [hR] at hres
          refine .inr ⟨_, rfl, hres.1, ?_⟩
          obtain ⟨cR, r1, r2, r3⟩ := t7.res
          refine ⟨⟨p8, t8, ?_, h5, h6, ?_⟩, ?_, ⟨cR, h.own _ _ ?_ r1, r2, fun i' J hi hJ => (r3 i' J hi hJ).mono h.ro⟩, fun i' g1 g2 => by rw [h.oc]; exact t7.ver i' g1 g2⟩
          · rw [hres.2]; exact h3
          · rw [hres.2]
            refine srt_ext h7 (insF_srt hsrt) fun s => ?_
            rw [h8 s, insF_get hsrt, et7]
          · rw [hres.2]; exact h4
          · obtain ⟨_, _, lq, _⟩ := t7.last.at_
            rintro (e | e | e)
            · rw [e, hB7] at r1; cases r1
            · rw [e, lq] at r1; cases r1
            · exact nT'.2.2 e
      clear hcm tsame
      rcases key with ⟨rfl, hR, t8⟩ | ⟨ver, rfl, hR, t8⟩
      · walk_nrm
        refine goF ?_
        refine opsK_sure (.bool true) rfl (by rfl) (fun w => by kernel_rfl) (fun w => by kernel_rfl) ?_; walk_nrm
        refine goF ?_
        refine opsK_storeL (c' := #[.slice none 0 0, .int .i64 0, errV 11]) rfl (by rfl) rfl rfl rfl rfl (fun w => by kernel_rfl) o8 rfl rfl rfl ?_
        refine goF ?_
        have os := Kn.set_same k8 b1 (.cells #[.slice none 0 0, .int .i64 0, errV 11] 38)
        refine retKN rfl rfl rfl (fun w => by kernel_rfl) (fun w => by kernel_rfl) (reads3 (Kn.has_own os rfl) (Kn.has_own os rfl) (Kn.has_own os rfl)) ?_
        rw [hR]
        exact ⟨_, rfl, ⟨rfl, _, _, rfl, fun j u h => by cases h⟩, t8.extX (Kn.ExtX.set (S := (· = b1)) _ _ _ rfl) nb1.1 nb1.2.1 nb1.2.2, ro8, g8, d8⟩
      · walk_nrm
        refine goF ?_
        refine opsK_sure (.bool false) rfl (by rfl) (fun w => by kernel_rfl) (fun w => by kernel_rfl) ?_; walk_nrm
        refine goF ?_
        refine opsK_sat fun hs8 => ?_
        obtain ⟨k9, tk9, rsl, x89, own9⟩ := ownSl_stand hs8 osv8
        refine opsK_turn tk9 ?_
        have o9 := x89.own b1 _ (by rintro ⟨c, e⟩; rw [o8] at e; cases e) o8
        have t9 := t8.extX x89 (by rintro ⟨c, e⟩; obtain ⟨_, _, h, _⟩ := t8.box; rw [h] at e; cases e) (by rintro ⟨c, e⟩; obtain ⟨_, _, h, _⟩ := t8.last.at_; rw [h] at e; cases e) (by rintro ⟨c, e⟩; obtain ⟨_, h, _⟩ := t8.res; rw [h] at e; cases e)
        refine opsK_storeL (c' := #[.slice sa sl sc, intV ver, .nilIface]) rfl (by rfl) rfl rfl rfl rfl (fun w => by kernel_rfl) o9 rfl rfl rfl ?_
        refine goF ?_
        have os := Kn.set_same k9 b1 (.cells #[.slice sa sl sc, intV ver, .nilIface] 38)
        refine retKN rfl rfl rfl (fun w => by kernel_rfl) (fun w => by kernel_rfl) (reads3 (Kn.has_own os rfl) (Kn.has_own os rfl) (Kn.has_own os rfl)) ?_
        rw [hR]
        refine ⟨_, rfl, ?_, t9.extX (Kn.ExtX.set (S := (· = b1)) _ _ _ rfl) nb1.1 nb1.2.1 nb1.2.2, fun a u h => x89.ro _ _ (ro8 a u h), x89.gh.trans g8, x89.deaf.trans d8⟩
        simpa using rsl
end Go.Proofs.Ytacfhfeegalmlaa

/- Run's worker, from its birth to its Done. -/
namespace Go.Proofs.Ytacfhfeegalmlaa
open Go.Conc
set_option linter.unusedVariables false
set_option linter.unusedSimpArgs false

section
variable {P : Program} {main : Who} {fn : FuncId} {k : Kn} {s : Sem Next} {X : RunC} {q wg left : Nat} {z : Value}
theorem does_recvQ (hr : ∀ w, s.run P w = .ok (.comm #[rcase q z] true (.recv true)) w) (he : ∀ w, s.events P w #[] = #[]) (hg : k.gh = .wk X q wg left .idle) (hd : k.deaf = 0) :
    Does P main fn s k (fun v k' => (∃ i l : Nat, i < X.n ∧ left = l + 1 ∧ v = .tuple #[.int .i64 i, .bool true] ∧ k' = { k with gh := .wk X q wg l (.job i false) }) ∨ (v = .tuple #[z, .bool false] ∧ k' = { k with gh := .wkf X q wg })) := fun ops n o rest a b kk cs Stop ho hw hs hb hk hc => by
  refine GK.recvQ X q wg left z hg hd rfl (fun w _ => stepG_recvS ho hw hk hs hr he w) (fun i l hi hl => ?_) ?_
  · rw [served_G, ho]
    exact hc _ _ (.inl ⟨i, l, hi, hl, rfl, rfl⟩)
  · rw [served_G, ho]
    exact hc _ _ (.inr ⟨rfl, rfl⟩)
end
def b20 : Frame := baseD 20
noncomputable def bot : Frame := { (default : Frame) with fn := Try.prog.funcs.size, defers := [], mode := .panicking [goexitEntry] }
noncomputable def body20 : Code := Try.f20.body.getD .skip
noncomputable def body21 : Code := Try.f21.body.getD .skip
/-- The worker's own way out, once Done has left: it only leaves. -/
theorem quits20 (T : Array Value) (todo : List Item) : QuitsD Try.prog 2 0 (G { b20.at ⟨T, []⟩ todo with mode := .returning } [bot]) := by
  refine QuitsD.ctl (g' := G bot []) rfl (fun w => ?_) ?_
  · simp [G, stepG, unwind, doReturn, results, Frame.at, b20, baseD, bot, Try.func20, Try.f20, seen, GStep.after, goexitEntry]
  refine QuitsD.ctl (g' := { G bot [] with status := .finished }) rfl (fun w => ?_) ⟨rfl, rfl⟩
  simp [G, stepG, unwind, bot, goexitEntry, Frame.catches]
  rfl
def call20 (wg vq vr : Nat) : Deferred := { target := .fn (.func 20) #[.pointer (some ⟨wg, 0, none⟩), .pointer (some ⟨vq, 0, none⟩), .pointer (some ⟨vr, 0, none⟩)], args := #[] }
theorem born20 (wg vq vr : Nat) (w : World) : stepG Try.prog false (born Try.prog (call20 wg vq vr)) w =
    .go (G (b20.at ⟨#[.pointer (some ⟨wg, 0, none⟩), .pointer (some ⟨vq, 0, none⟩), .pointer (some ⟨vr, 0, none⟩), undef, undef, undef, undef, undef, undef, undef, undef, undef, undef, undef, undef, undef, undef, undef, undef, undef, undef], []⟩ [.code body20]) [bot]) w #[] := by
  simp [born, call20, stepG, unwind, callDeferred, invoke, callFunc, Try.func20, Try.f20, seen, GStep.after, G, Frame.enter, Frame.at, b20, baseD, bot, body20]
/-- At Done: the library's, from here on. -/
def AtDone (k : Kn) (g : Goroutine) : Prop :=
  k.deaf = 0 ∧ ∃ X q wg c, k.gh = .wkf X q wg ∧ g = G ((baseD 21).at ⟨#[.pointer (some ⟨wg, 0, none⟩), undef, undef, undef], []⟩ [.code body21]) (c :: [bot]) ∧ c.mode = .returning ∧ QuitsD Try.prog 2 0 (G c [bot]) ∧ RunR X k.ro
/-- What a child is. -/
def KidK (k : Kn) (g : Goroutine) : Prop :=
  ∃ X q wg vq vr left, k.gh = .wk X q wg left .idle ∧ k.deaf = 0 ∧ RunR X k.ro ∧ k.ro ⟨vq, 0, none⟩ = some (.chan (some q)) ∧ k.ro ⟨vr, 0, none⟩ = some (.pointer (some ⟨X.r, 0, none⟩)) ∧ g = born Try.prog (call20 wg vq vr)
theorem okErr_one (e : Int) : (okErr e).oneCell' = true := by
  unfold okErr errV
  split <;> rfl
theorem laid3 {c : Array Value} {i : Nat} (h : i * 3 + 3 ≤ c.size) (u v x : Value) : (laidIn c (i * 3) [u, v, x]).size = c.size ∧ (laidIn c (i * 3) [u, v, x])[i * 3]? = some u ∧ (laidIn c (i * 3) [u, v, x])[i * 3 + 1]? = some v ∧ (laidIn c (i * 3) [u, v, x])[i * 3 + 2]? = some x ∧
    ∀ j, j < i * 3 → (laidIn c (i * 3) [u, v, x])[j]? = c[j]? := by
  refine ⟨laidIn_size _ _ _, ?_, ?_, ?_, fun j hj => ?_⟩
  · simp only [laidIn]
    rw [Array.getElem?_setIfInBounds_ne (by omega), Array.getElem?_setIfInBounds_ne (by omega), Array.getElem?_setIfInBounds_self_of_lt (by omega)]
  · simp only [laidIn]
    rw [Array.getElem?_setIfInBounds_ne (by omega), Array.getElem?_setIfInBounds_self_of_lt (by simp; omega)]
  · simp only [laidIn]
    rw [Array.getElem?_setIfInBounds_self_of_lt (by simp; omega)]
  · simp only [laidIn]
    rw [Array.getElem?_setIfInBounds_ne (by omega), Array.getElem?_setIfInBounds_ne (by omega), Array.getElem?_setIfInBounds_ne (by omega)]
theorem exec_store3 {P : Program} {k : Kn} {a : Act} {o : Oper} {K : Act → Kn → Prop} {t te : TypeId} {x y : Operand} {b off : Nat} {u v z : Value} {c : Array Value} (hop : o.op = .store t x y) (hx : a.eval x = .pointer (some ⟨b, off, none⟩)) (hy : a.eval y = .agg #[u, v, z])
    (hsz : ∀ w, (Go.sizeOf t).run P w = .ok 3 w) (hb : k.own b = some (.cells c te)) (hl : off + 3 ≤ c.size) (hu : u.oneCell' = true) (hv : v.oneCell' = true) (hz : z.oneCell' = true)
    (h : K (a.put o.dst undef) (k.set b (.cells (laidIn c off [u, v, z]) te))) : Trip P k (execOp a.eval o) (nextA K a o.dst) :=
  exec_storeL (vs := [u, v, z]) (c' := laidIn c off [u, v, z]) hop hx (by rw [hy]; rfl) rfl hsz hb (by simpa using hl) (by simp [hu, hv, hz]) rfl h
set_option maxRecDepth 100000 in
set_option maxHeartbeats 4000000 in
theorem body_k {main : Who} (hO : main.Ours) (k : Kn) (X : RunC) (q wg vq vr left : Nat) (hg : k.gh = .wk X q wg left .idle) (hd : k.deaf = 0) (hX : RunR X k.ro) (hq : k.ro ⟨vq, 0, none⟩ = some (.chan (some q))) (hr : k.ro ⟨vr, 0, none⟩ = some (.pointer (some ⟨X.r, 0, none⟩))) :
    body20.wpK Try.prog main 20 (fun e a k' => (e = .normal ∨ e = .ret) ∧ a.defers = [dcall 21 #[.pointer (some ⟨wg, 0, none⟩)]] ∧ k'.gh = .wkf X q wg ∧ k'.deaf = 0 ∧ ∀ a u, k.ro a = some u → k'.ro a = some u) ⟨#[.pointer (some ⟨wg, 0, none⟩), .pointer (some ⟨vq, 0, none⟩), .pointer (some ⟨vr, 0, none⟩), undef, undef, undef, undef, undef, undef, undef, undef, undef, undef, undef, undef, undef, undef, undef, undef, undef, undef], []⟩ k := by
  simp only [body20, Try.f20, Option.getD_some]
  (first | apply wpK_seq | apply wpK_block | apply wpK_skip | apply wpK_label | apply wpK_ret | apply wpK_exit | apply opsK_nil)
  (apply wpK_region; simp only [List.size_toArray, List.length_cons, List.length_nil, Nat.reduceAdd, Nat.zero_add, List.range, List.range.loop])
  refine opsK_defer rfl (by rfl) rfl ?_
  walk_nrm
  refine goI ?_
  refine wpK_loop (measure id).wf (I := fun n a' k' => k'.gh = .wk X q wg n .idle ∧ k'.deaf = 0 ∧ (∀ a u, k.ro a = some u → k'.ro a = some u) ∧
    ∃ T' : Array Value, a' = ⟨T', [dcall 21 #[.pointer (some ⟨wg, 0, none⟩)]]⟩ ∧ T' = #[.pointer (some ⟨wg, 0, none⟩), .pointer (some ⟨vq, 0, none⟩), .pointer (some ⟨vr, 0, none⟩), (fun j => T'.getD j undef) 3, .chan (some q), (fun j => T'.getD j undef) 5, (fun j => T'.getD j undef) 6, (fun j => T'.getD j undef) 7, (fun j => T'.getD j undef) 8, (fun j => T'.getD j undef) 9, (fun j => T'.getD j undef) 10, (fun j => T'.getD j undef) 11, (fun j => T'.getD j undef) 12, (fun j => T'.getD j undef) 13, (fun j => T'.getD j undef) 14, (fun j => T'.getD j undef) 15, (fun j => T'.getD j undef) 16, (fun j => T'.getD j undef) 17, (fun j => T'.getD j undef) 18, (fun j => T'.getD j undef) 19, (fun j => T'.getD j undef) 20]) (x := left) ⟨hg, hd, fun _ _ h => h, _, rfl, rfl⟩ ?_
  clear hg hd
  rintro n _ k1 ⟨hg, hd, m1, T', rfl, hT'⟩
  obtain ⟨y, rfl⟩ : ∃ y : Nat → Value, T' = #[.pointer (some ⟨wg, 0, none⟩), .pointer (some ⟨vq, 0, none⟩), .pointer (some ⟨vr, 0, none⟩), y 3, .chan (some q), y 5, y 6, y 7, y 8, y 9, y 10, y 11, y 12, y 13, y 14, y 15, y 16, y 17, y 18, y 19, y 20] := ⟨fun j => T'.getD j undef, hT'⟩
  clear hT'
  have hX1 := hX.mono m1
  have hq1 := m1 _ _ hq
  have hr1 := m1 _ _ hr
  clear hq hr
  (first | apply wpK_seq | apply wpK_block | apply wpK_skip | apply wpK_label | apply wpK_ret | apply wpK_exit | apply opsK_nil)
  (apply wpK_region; simp only [List.size_toArray, List.length_cons, List.length_nil, Nat.reduceAdd, Nat.zero_add, List.range, List.range.loop])
  refine opsK_does rfl (by rfl) rfl (does_recvQ (z := .int .i64 0) (fun w => by kernel_rfl) (fun w => by kernel_rfl) hg hd) ?_
  rintro _ k2 (⟨i, l, hi, rfl, rfl, rfl⟩ | ⟨rfl, rfl⟩)
  · obtain ⟨J, hJ⟩ : ∃ J, X.jobs[i]? = some J := ⟨X.jobs[i]'(by rw [hX.len]; exact hi), List.getElem?_eq_getElem _⟩
    have g2 : ({ k1 with gh := .wk X q wg l (.job i false) } : Kn).gh = .wk X q wg l (.job i false) := rfl
    have hX2 : RunR X ({ k1 with gh := .wk X q wg l (.job i false) } : Kn).ro := hX1
    have r2 : ({ k1 with gh := .wk X q wg l (.job i false) } : Kn).ro ⟨vr, 0, none⟩ = _ := hr1
    have d2 : ({ k1 with gh := .wk X q wg l (.job i false) } : Kn).deaf = 0 := hd
    have m2 : ∀ a u, k.ro a = some u → ({ k1 with gh := .wk X q wg l (.job i false) } : Kn).ro a = some u := m1
    generalize ({ k1 with gh := .wk X q wg l (.job i false) } : Kn) = k2 at g2 hX2 r2 d2 m2
    clear hg hd hX1 hq1 hr1 m1
    walk_nrm
    refine goF ?_
    obtain ⟨N, hN⟩ : ∃ N, N = X.n := ⟨_, rfl⟩
    have r3 := hX2.res
    rw [← hN] at r3
    have hlt : i < N := by omega
    have s2 := Kn.RoLe.refl k2
    (refine wpK_region_held (fun k' => k2.RoLe k') (by kernel_rfl) ?_; simp only [List.size_toArray, List.length_cons, List.length_nil, Nat.reduceAdd, Nat.zero_add])
    refine tkI 0 ?_
    refine tkI 1 ?_
    refine tkI 2 ?_
    refine tkI 3 ?_
    refine tkI 4 ?_
    refine tkI 5 ?_
    refine tkI 6 ?_
    refine anyK_call 7 (by kernel_rfl) rfl (by rfl) rfl (by walk_nrm) (execute_k hO k2 X q wg l i J hX2 hJ g2 d2) ?_
    rintro _ k3 ⟨sv, rfl, hsv, t3, m3, g3, d3⟩
    have s3 : k2.RoLe k3 := ⟨m3⟩
    refine ⟨s3, ?_⟩
    clear s2
    walk_nrm
    refine tkF 8 ?_
    obtain ⟨sa, sc, rfl, hsa⟩ := hsv.at_
    obtain ⟨cR, hR1, hR2, hR3⟩ := t3.res
    refine anyK_trip 9 (by kernel_rfl) rfl (by rfl) (exec_store3 (b := X.RB) (off := i * 3) rfl rfl rfl (fun w => by kernel_rfl) hR1 (by omega) rfl rfl (okErr_one _) ?_)
    refine ⟨⟨m3⟩, ?_⟩
    obtain ⟨l1, l2, l3, l4, l5⟩ := laid3 (show i * 3 + 3 ≤ cR.size by omega) (.slice sa (resJ X.jobs X.ents i J).saw.length sc) (intV (resJ X.jobs X.ents i J).ver) (okErr (resJ X.jobs X.ents i J).err)
    generalize hk4 : k3.set X.RB _ = k4
    have t4 : TokM X (i + 1) (i + 1) (i + 1) k4 := by
      rw [← hk4]
      obtain ⟨p, t, e1, e2, e3, e4⟩ := t3.box
      obtain ⟨es, cl, f1, f2⟩ := t3.last.at_
      refine ⟨⟨p, t, ?_, e2, e3, e4⟩, ⟨es, cl, ?_, f2⟩, ⟨_, Kn.set_same _ _ _, l1.trans hR2, fun i' J' hi' hJ' => ?_⟩, t3.ver⟩
      · rw [Kn.set_ne _ _ (fun e => by rw [← e, e1] at hR1; cases hR1)]; exact e1
      · rw [Kn.set_ne _ _ (fun e => by rw [← e, f1] at hR1; cases hR1)]; exact f1
      · by_cases e : i' = i
        · subst e
          rw [hJ] at hJ'
          cases hJ'
          exact ⟨_, l2, l3, l4, hsv⟩
        · obtain ⟨sv', a1, a2, a3, a4⟩ := (hR3 i' J' (by omega) hJ').at_
          exact ⟨sv', by rw [l5 _ (by omega)]; exact a1, by rw [l5 _ (by omega)]; exact a2, by rw [l5 _ (by omega)]; exact a3, a4⟩
    have e4 : k4.ro = k3.ro ∧ k4.gh = k3.gh ∧ k4.deaf = k3.deaf := by rw [← hk4]; exact ⟨rfl, rfl, rfl⟩
    obtain ⟨e41, e42, e43⟩ := e4
    clear hk4
    have m4 : ∀ a u, k2.ro a = some u → k4.ro a = some u := fun a u h => by rw [e41]; exact m3 _ _ h
    (refine anyK_done (by kernel_rfl) ?_ _; simp only [thenK, blockK, if_true, if_false, reduceIte, Nat.reduceEqDiff])
    have r4 := m4 _ _ r2
    have w1 : IntKind.i64.wrap ((i : Int) + 1) = ((i + 1 : Nat) : Int) := by rw [wr64 (by omega) (by have := hX2.small; omega)]; rfl
    refine goI ?_
    refine opsK_callv rfl (by rfl) rfl (by first | (walk_nrm; done) | (walk_nrm; rfl)) (finish_k hO k4 X (i + 1) _ (hX2.mono m4) (by omega) t4 (.wk (e42.trans g3) rfl) (e43.trans d3)) ?_
    rintro _ k5 ⟨m5, _, _, d5, _, g5⟩
    walk_nrm
    refine goF ?_
    refine ⟨l, ?_, g5, d5, fun a u h => m5 _ _ (m4 _ _ (m2 _ _ h)), _, rfl, rfl⟩
    simp [WellFoundedRelation.rel, measure, invImage, InvImage]
  · walk_nrm
    refine goF ?_
    exact ⟨.inl trivial, trivial, trivial, hd, m1⟩
/-- THE WORKER, from its birth to its Done. -/
theorem kid_gk {W : Who} (hO : W.Ours) (hm : W.main = false) {k : Kn} {g : Goroutine} (h : KidK k g) : GK Try.prog W AtDone k g := by
  obtain ⟨X, q, wg, vq, vr, left, hg, hd, hX, hq, hr, rfl⟩ := h
  refine GK.quiet rfl (fun w => by rw [hm]; exact born20 wg vq vr w) ?_
  have lv : ∀ (a : Act) (k' : Kn) (todo : List Item), a.defers = [dcall 21 #[.pointer (some ⟨wg, 0, none⟩)]] → k'.gh = .wkf X q wg → k'.deaf = 0 → RunR X k'.ro → GK Try.prog W AtDone k' (G { b20.at a todo with mode := .returning } [bot]) := by
    intro a k' todo ha h1 h2 h3
    refine GK.quiet rfl (fun w => stepG_unwind_enter (c := body21) ha Try.func21 (by rfl) rfl) (.stop ⟨h2, X, q, wg, _, h1, ?_, rfl, quits20 a.tmps todo, h3⟩)
    rfl
  refine body_k hO k X q wg vq vr left hg hd hX hq hr b20 [] [bot] AtDone rfl (by simp [b20, baseD]) fun e a k' ⟨he, ha, h1, h2, h3⟩ => ?_
  rcases he with rfl | rfl
  · exact GK.quiet rfl (fun _ => stepG_end) (lv a k' [] ha h1 h2 (hX.mono h3))
  · exact fun todo => lv a k' todo ha h1 h2 (hX.mono h3)
end Go.Proofs.Ytacfhfeegalmlaa

/- sync.WaitGroup's Wait, in company. -/
namespace Go.Proofs.Ytacfhfeegalmlaa
open Go.Conc
open Go.ConcR (KK wgBlock WgAt stA smA)
set_option linter.unusedVariables false
set_option linter.unusedSimpArgs false

section
variable {P : Program} {main : Who} {fn : FuncId} {Q : Exit → Act → Kn → Prop} {a : Act} {k : Kn} {ops : Array Oper} {i : Nat} {rest : List Nat} {o : Oper} {f : FuncId} {fd : Func} {ats : Array TypeId} {ags : Array Operand} {X : RunC} {q wg m B b : Nat}
theorem opsK_wLoad {x : Operand} (ho : ops[i]? = some o) (hw : Region.wanted o (yielded ops a.tmps) = true) (hop : o.op = .call { callee := .value (.func f), args := #[x], argTypes := ats })
    (hf : P.funcs[f]? = some fd) (hname : (fd.name == "runtime.NumGoroutine") = false) (hb : fd.body.isNone = true) (hn : Extern.findNext fd = none) (he : Extern.find fd = some (Extern.Atomic.loadT (.int .u64)))
    (hx : a.eval x = .pointer (some (stA wg))) (hg : k.gh = .shut X q wg m B b) (hd : 0 < k.deaf)
    (h : ∀ v : Nat, v ≤ B → OpsK P main fn ops rest Q (a.put o.dst (.int .u64 (v * KK))) { k with gh := if v = 0 then .fin X q wg m b else .shut X q wg m v b }) : OpsK P main fn ops (i :: rest) Q a k :=
  fun b' kk cs Stop hbf hk hc => GK.wLoad X q wg m B b (fun v => G (b'.at (a.put o.dst (.int .u64 (v * KK))) (.inRegion ops rest :: kk)) cs) hg hd rfl
    (fun w v hs hv hat => stepG_load_atomic (v := (v : Int) * KK) ho hw hk hop hf hname hb hn .u64 he hx hat.cellSt) fun v hv => h v hv b' kk cs Stop hbf hk hc
theorem opsK_wLoad0 {x : Operand} (ho : ops[i]? = some o) (hw : Region.wanted o (yielded ops a.tmps) = true) (hop : o.op = .call { callee := .value (.func f), args := #[x], argTypes := ats })
    (hf : P.funcs[f]? = some fd) (hname : (fd.name == "runtime.NumGoroutine") = false) (hb : fd.body.isNone = true) (hn : Extern.findNext fd = none) (he : Extern.find fd = some (Extern.Atomic.loadT (.int .u64)))
    (hx : a.eval x = .pointer (some (stA wg))) (hg : k.gh = .fin X q wg m b) (hd : 0 < k.deaf)
    (h : OpsK P main fn ops rest Q (a.put o.dst (.int .u64 0)) k) : OpsK P main fn ops (i :: rest) Q a k :=
  fun b' kk cs Stop hbf hk hc => GK.wLoad0 X q wg m b hg hd rfl (fun w hs hat => stepG_load_atomic (v := 0) ho hw hk hop hf hname hb hn .u64 he hx hat.cellSt) (h b' kk cs Stop hbf hk hc)
theorem opsK_wCas {x y z : Operand} (ho : ops[i]? = some o) (hw : Region.wanted o (yielded ops a.tmps) = true) (hop : o.op = .call { callee := .value (.func f), args := #[x, y, z], argTypes := ats })
    (hf : P.funcs[f]? = some fd) (hname : (fd.name == "runtime.NumGoroutine") = false) (hb : fd.body.isNone = true) (hn : Extern.findNext fd = none) (he : Extern.find fd = some (Extern.Atomic.casT (.int .u64)))
    (hx : a.eval x = .pointer (some (stA wg))) (hy : a.eval y = .int .u64 (((B + 1 : Nat) : Int) * KK)) (hz : a.eval z = .int .u64 (((B + 1 : Nat) : Int) * KK + 1)) (hg : k.gh = .shut X q wg m (B + 1) b) (hd : 0 < k.deaf)
    (h1 : OpsK P main fn ops rest Q (a.put o.dst (.bool true)) { k with gh := .reg X q wg m b }) (h2 : OpsK P main fn ops rest Q (a.put o.dst (.bool false)) { k with gh := .shut X q wg m B b }) : OpsK P main fn ops (i :: rest) Q a k :=
  fun b' kk cs Stop hbf hk hc => GK.wCas X q wg m B b (g1 := G (b'.at (a.put o.dst (.bool true)) (.inRegion ops rest :: kk)) cs) (g2 := G (b'.at (a.put o.dst (.bool false)) (.inRegion ops rest :: kk)) cs) hg hd rfl
    (fun w hs hat => stepG_cas_hit ho hw hk hop hf hname hb hn .u64 he hx hy hz hat.cellSt (hat.thaw 0))
    (fun w v hs hv hat => stepG_cas_miss ho hw hk hop hf hname hb hn .u64 he hx hy hz hat.cellSt (hat.thaw 0) (by simp only [KK]; omega)) (h1 b' kk cs Stop hbf hk hc) (h2 b' kk cs Stop hbf hk hc)
theorem opsK_wWrite (ho : ops[i]? = some o) (hw : Region.wanted o (yielded ops a.tmps) = true) (hop : o.op = .call { callee := .value (.func f), args := ags, argTypes := ats })
    (hf : P.funcs[f]? = some fd) (hname : (fd.name == "runtime.NumGoroutine") = false) (hb : fd.body.isNone = true) (hn : Extern.findNext fd = none) (he : Extern.find fd = some (Extern.Race.marked .write)) {ad : Addr} (hx : (ags.map a.eval)[0]? = some (.pointer (some ad))) (had : ad.block = wg)
    (hg : k.gh = .reg X q wg m b) (h : OpsK P main fn ops rest Q (a.put o.dst (.tuple #[])) k) : OpsK P main fn ops (i :: rest) Q a k :=
  fun b' kk cs Stop hbf hk hc => GK.wWrite X q wg m b ad hg had rfl (fun w _ => stepG_markAt .write (by simp) ho hw hk hop hf hname hb hn he hx) (h b' kk cs Stop hbf hk hc)
theorem opsK_wSem (ho : ops[i]? = some o) (hw : Region.wanted o (yielded ops a.tmps) = true) (hop : o.op = .call { callee := .value (.func f), args := ags, argTypes := ats })
    (hf : P.funcs[f]? = some fd) (hname : (fd.name == "runtime.NumGoroutine") = false) (hb : fd.body.isNone = true) (hn : Extern.findNext fd = none) (he : Extern.find fd = some Extern.Sync.semacquire) (hx : (ags.map a.eval)[0]? = some (.pointer (some (smA wg))))
    (hg : k.gh = .reg X q wg m b) (hd : 0 < k.deaf) (h : OpsK P main fn ops rest Q (a.put o.dst (.tuple #[])) { k with gh := .fin X q wg m b }) : OpsK P main fn ops (i :: rest) Q a k :=
  fun b' kk cs Stop hbf hk hc => GK.wSem X q wg m b (g' := G (b'.at (a.put o.dst (.tuple #[])) (.inRegion ops rest :: kk)) cs) hg hd rfl rfl
    (fun w st hs hat => stepG_semacquire_wait ho hw hop hf hname hb hn he hx hat.cellSm)
    (fun w hs hat => stepG_semacquire (n := 1) ho hw hk hop hf hname hb hn he hx hat.cellSm (by decide) (hat.thaw 1)) (h b' kk cs Stop hbf hk hc)
theorem opsK_wAcq (ho : ops[i]? = some o) (hw : Region.wanted o (yielded ops a.tmps) = true) (hop : o.op = .call { callee := .value (.func f), args := ags, argTypes := ats })
    (hf : P.funcs[f]? = some fd) (hname : (fd.name == "runtime.NumGoroutine") = false) (hb : fd.body.isNone = true) (hn : Extern.findNext fd = none) (he : Extern.find fd = some (Extern.Race.marked .acquire)) (hx : (ags.map a.eval)[0]? = some (.pointer (some (stA wg))))
    (hg : k.gh = .fin X q wg m b) (hd : k.deaf = 0) (h : ∀ kt, main.Tok X X.n kt → k.Disj kt → OpsK P main fn ops rest Q (a.put o.dst (.tuple #[])) { k.join kt with live := none, gh := .lone b }) : OpsK P main fn ops (i :: rest) Q a k :=
  fun b' kk cs Stop hbf hk hc => GK.wAcq X q wg m b hg hd rfl (fun w => stepG_markAt .acquire (by simp) ho hw hk hop hf hname hb hn he hx) fun kt h1 h2 => h kt h1 h2 b' kk cs Stop hbf hk hc
end
set_option maxRecDepth 100000 in
theorem uload_k {main : Who} (k : Kn) (X : RunC) (q wg m B b : Nat) (hg : k.gh = .shut X q wg m B b) (hd : 0 < k.deaf) :
    CallsK Try.prog main 42 #[.pointer (some ⟨wg, 0, none⟩)] k fun v k' => ∃ n : Nat, n ≤ B ∧ v = .int .u64 (n * KK) ∧ k' = { k with gh := if n = 0 then .fin X q wg m b else .shut X q wg m n b } := by
  (refine callsK_of Try.func42 (by first | rfl | kernel_rfl) rfl ?_; simp only [Try.ntmps42, List.size_toArray, List.length_cons, List.length_nil, Nat.reduceAdd, Nat.reduceSub, Array.replicate_succ, Array.replicate_zero, List.push_toArray, List.append_toArray, List.nil_append, List.cons_append])
  refine goF ?_
  refine opsK_wLoad rfl (by rfl) rfl (by rfl) (by kernel_rfl) (by kernel_rfl) (by kernel_rfl) (by rfl) rfl hg hd ?_
  intro n hn
  obtain ⟨S, hS⟩ : ∃ S : Int, (n : Int) * KK = S := ⟨_, rfl⟩
  rw [hS]
  walk_nrm
  refine goF ?_
  exact retK1 rfl rfl ⟨n, hn, by rw [hS]; rfl, rfl⟩
set_option maxRecDepth 100000 in
theorem uload0_k {main : Who} (k : Kn) (X : RunC) (q wg m b : Nat) (hg : k.gh = .fin X q wg m b) (hd : 0 < k.deaf) :
    CallsK Try.prog main 42 #[.pointer (some ⟨wg, 0, none⟩)] k fun v k' => v = .int .u64 0 ∧ k = k' := by
  (refine callsK_of Try.func42 (by first | rfl | kernel_rfl) rfl ?_; simp only [Try.ntmps42, List.size_toArray, List.length_cons, List.length_nil, Nat.reduceAdd, Nat.reduceSub, Array.replicate_succ, Array.replicate_zero, List.push_toArray, List.append_toArray, List.nil_append, List.cons_append])
  refine goF ?_
  refine opsK_wLoad0 rfl (by rfl) rfl (by rfl) (by kernel_rfl) (by kernel_rfl) (by kernel_rfl) (by rfl) rfl hg hd ?_
  walk_nrm
  refine goF ?_
  exact retK1 rfl rfl ⟨rfl, rfl⟩
set_option maxRecDepth 100000 in
theorem ucas_k {main : Who} (k : Kn) (X : RunC) (q wg m B b : Nat) (S S1 : Int) (hS : S = ((B + 1 : Nat) : Int) * KK) (hS1 : S1 = S + 1) (hg : k.gh = .shut X q wg m (B + 1) b) (hd : 0 < k.deaf) :
    CallsK Try.prog main 49 #[.pointer (some ⟨wg, 0, none⟩), .int .u64 S, .int .u64 S1] k fun v k' => (v = .bool true ∧ k' = { k with gh := .reg X q wg m b }) ∨ (v = .bool false ∧ k' = { k with gh := .shut X q wg m B b }) := by
  have hh : Nonempty (PLift ((Value.int .u64 S) = .int .u64 (((B + 1 : Nat) : Int) * KK) ∧ (Value.int .u64 S1) = .int .u64 (((B + 1 : Nat) : Int) * KK + 1))) := ⟨⟨by rw [hS], by rw [hS1, hS]⟩⟩
  clear hS hS1
  (refine callsK_of Try.func49 (by first | rfl | kernel_rfl) rfl ?_; simp only [Try.ntmps49, List.size_toArray, List.length_cons, List.length_nil, Nat.reduceAdd, Nat.reduceSub, Array.replicate_succ, Array.replicate_zero, List.push_toArray, List.append_toArray, List.nil_append, List.cons_append])
  refine goF ?_
  obtain ⟨⟨e1, e2⟩⟩ := hh
  refine opsK_wCas rfl (by rfl) rfl (by rfl) (by kernel_rfl) (by kernel_rfl) (by kernel_rfl) (by rfl) rfl e1 e2 hg hd ?_ ?_
  all_goals clear e1 e2
  · walk_nrm
    refine goF ?_
    exact retK1 rfl rfl (.inl ⟨rfl, rfl⟩)
  · walk_nrm
    refine goF ?_
    exact retK1 rfl rfl (.inr ⟨rfl, rfl⟩)
set_option maxRecDepth 100000 in
set_option maxHeartbeats 4000000 in
theorem wait_k {main : Who} (hO : main.Ours) (k : Kn) (X : RunC) (q wg m b : Nat) (hm : m < 1000) (hg : k.gh = .shut X q wg m m b) (hd : k.deaf = 0) (hl : k.live = some (wg, 84)) :
    CallsK Try.prog main 23 #[.pointer (some ⟨wg, 0, none⟩)] k fun _ k' => ∃ kt, TokK X X.n kt ∧ k.Disj kt ∧ k' = { k.join kt with live := none, gh := .lone b } := by
  (refine callsK_of Try.func23 (by first | rfl | kernel_rfl) rfl ?_; simp only [Try.ntmps23, List.size_toArray, List.length_cons, List.length_nil, Nat.reduceAdd, Nat.reduceSub, Array.replicate_succ, Array.replicate_zero, List.push_toArray, List.append_toArray, List.nil_append, List.cons_append])
  refine goF ?_
  refine opsK_mark0 .disable (by simp) rfl rfl (by rfl) rfl (by rfl) (by kernel_rfl) (by kernel_rfl) (by kernel_rfl) (by rfl) ?_
  walk_nrm
  refine goF ?_
  refine wpK_loop (measure id).wf (I := fun n a' k' => n ≤ m ∧ k' = { k with deaf := 1, gh := .shut X q wg m n b } ∧
    ∃ T' : Array Value, a' = ⟨T', []⟩ ∧ T' = #[.pointer (some ⟨wg, 0, none⟩), (fun j => T'.getD j undef) 1, (fun j => T'.getD j undef) 2, (fun j => T'.getD j undef) 3, (fun j => T'.getD j undef) 4, (fun j => T'.getD j undef) 5, (fun j => T'.getD j undef) 6, (fun j => T'.getD j undef) 7, (fun j => T'.getD j undef) 8, (fun j => T'.getD j undef) 9, (fun j => T'.getD j undef) 10, (fun j => T'.getD j undef) 11, (fun j => T'.getD j undef) 12, (fun j => T'.getD j undef) 13, (fun j => T'.getD j undef) 14, (fun j => T'.getD j undef) 15, (fun j => T'.getD j undef) 16, (fun j => T'.getD j undef) 17, (fun j => T'.getD j undef) 18, (fun j => T'.getD j undef) 19, (fun j => T'.getD j undef) 20, (fun j => T'.getD j undef) 21, (fun j => T'.getD j undef) 22, (fun j => T'.getD j undef) 23, (fun j => T'.getD j undef) 24, (fun j => T'.getD j undef) 25, (fun j => T'.getD j undef) 26, (fun j => T'.getD j undef) 27, (fun j => T'.getD j undef) 28, (fun j => T'.getD j undef) 29, (fun j => T'.getD j undef) 30, (fun j => T'.getD j undef) 31, (fun j => T'.getD j undef) 32, (fun j => T'.getD j undef) 33, (fun j => T'.getD j undef) 34, (fun j => T'.getD j undef) 35, (fun j => T'.getD j undef) 36, (fun j => T'.getD j undef) 37, (fun j => T'.getD j undef) 38, (fun j => T'.getD j undef) 39, (fun j => T'.getD j undef) 40, (fun j => T'.getD j undef) 41, (fun j => T'.getD j undef) 42, (fun j => T'.getD j undef) 43, (fun j => T'.getD j undef) 44, (fun j => T'.getD j undef) 45, (fun j => T'.getD j undef) 46, (fun j => T'.getD j undef) 47, (fun j => T'.getD j undef) 48, (fun j => T'.getD j undef) 49, (fun j => T'.getD j undef) 50, (fun j => T'.getD j undef) 51, (fun j => T'.getD j undef) 52, (fun j => T'.getD j undef) 53, (fun j => T'.getD j undef) 54, (fun j => T'.getD j undef) 55, (fun j => T'.getD j undef) 56, (fun j => T'.getD j undef) 57, (fun j => T'.getD j undef) 58, (fun j => T'.getD j undef) 59, (fun j => T'.getD j undef) 60, (fun j => T'.getD j undef) 61, (fun j => T'.getD j undef) 62, (fun j => T'.getD j undef) 63, (fun j => T'.getD j undef) 64, (fun j => T'.getD j undef) 65, (fun j => T'.getD j undef) 66, (fun j => T'.getD j undef) 67, (fun j => T'.getD j undef) 68, (fun j => T'.getD j undef) 69, (fun j => T'.getD j undef) 70, (fun j => T'.getD j undef) 71, (fun j => T'.getD j undef) 72, (fun j => T'.getD j undef) 73, (fun j => T'.getD j undef) 74, (fun j => T'.getD j undef) 75, (fun j => T'.getD j undef) 76, (fun j => T'.getD j undef) 77, (fun j => T'.getD j undef) 78, (fun j => T'.getD j undef) 79, (fun j => T'.getD j undef) 80, (fun j => T'.getD j undef) 81, (fun j => T'.getD j undef) 82, (fun j => T'.getD j undef) 83]) (x := m) ⟨Nat.le_refl _, by simp only [Kn.said]; rw [hd, ← hg], _, rfl, rfl⟩ ?_
  rintro n _ _ ⟨hn, rfl, T', rfl, hT'⟩
  obtain ⟨y, rfl⟩ : ∃ y : Nat → Value, T' = #[.pointer (some ⟨wg, 0, none⟩), y 1, y 2, y 3, y 4, y 5, y 6, y 7, y 8, y 9, y 10, y 11, y 12, y 13, y 14, y 15, y 16, y 17, y 18, y 19, y 20, y 21, y 22, y 23, y 24, y 25, y 26, y 27, y 28, y 29, y 30, y 31, y 32, y 33, y 34, y 35, y 36, y 37, y 38, y 39, y 40, y 41, y 42, y 43, y 44, y 45, y 46, y 47, y 48, y 49, y 50, y 51, y 52, y 53, y 54, y 55, y 56, y 57, y 58, y 59, y 60, y 61, y 62, y 63, y 64, y 65, y 66, y 67, y 68, y 69, y 70, y 71, y 72, y 73, y 74, y 75, y 76, y 77, y 78, y 79, y 80, y 81, y 82, y 83] := ⟨fun j => T'.getD j undef, hT'⟩
  clear hT'
  (first | apply wpK_seq | apply wpK_block | apply wpK_skip | apply wpK_label | apply wpK_ret | apply wpK_exit | apply opsK_nil)
  refine goF ?_
  refine opsK_callv rfl (by rfl) rfl (by first | (walk_nrm; done) | (walk_nrm; rfl)) (uload_k { k with deaf := 1, gh := .shut X q wg m n b } X q wg m n b rfl Nat.zero_lt_one) ?_
  rintro _ _ ⟨v, hv, rfl, rfl⟩
  have c0 : IntKind.i32.wrap 0 = 0 := by decide
  have c1 : IntKind.u32.wrap 0 = 0 := by decide
  rcases Nat.eq_zero_or_pos v with rfl | hvp
  · have z : ((0 : Nat) : Int) * KK = 0 := by simp
    rw [z]
    have b0 : Go.bits .and .u64 0 2147483647 = 0 := by decide
    simp only [if_true]
    walk_nrm
    refine goF ?_
    refine opsK_mark0 .enable (by simp) rfl rfl (by rfl) rfl (by rfl) (by kernel_rfl) (by kernel_rfl) (by kernel_rfl) (by rfl) ?_
    walk_nrm
    refine goF ?_
    refine opsK_unsafe (t := 84) rfl (by rfl) rfl rfl (by kernel_rfl) (by kernel_rfl) (by kernel_rfl) (fun w hw => ?_) ?_
    · obtain ⟨_, st, sm, h⟩ := hw.live wg 84 hl
      exact ⟨_, h.cellSt⟩
    walk_nrm
    refine opsK_wAcq (X := X) (q := q) (wg := wg) (m := m) (b := b) rfl (by rfl) rfl (by rfl) (by kernel_rfl) (by kernel_rfl) (by kernel_rfl) (by rfl) (by simp [Act.eval]; rfl) rfl rfl ?_
    intro kt ht hdj
    rw [hO.tok] at ht
    walk_nrm
    refine goF ?_
    refine retK0 (.inl rfl) rfl rfl ⟨kt, ht, ⟨hdj.oo, hdj.oro, hdj.ooc, hdj.ro, hdj.roc, hdj.cc, hdj.cr, hdj.rr⟩, ?_⟩
    simp [Kn.join, Kn.said, hd]
  · obtain ⟨B, rfl⟩ : ∃ B, v = B + 1 := ⟨v - 1, by omega⟩
    obtain ⟨V, hV⟩ : ∃ V : Int, V = ((B + 1 : Nat) : Int) := ⟨_, rfl⟩
    obtain ⟨S, hS⟩ : ∃ S : Int, S = ((B + 1 : Nat) : Int) * KK := ⟨_, rfl⟩
    have hh : Nonempty (PLift (S = ((B + 1 : Nat) : Int) * KK)) := ⟨⟨hS⟩⟩
    have a1 : S / 4294967296 = V := by rw [hS, hV]; simp only [KK]; omega
    have b1 : Go.bits .and .u64 S 2147483648 = 0 := by rw [hS]; have := Go.ConcN.st_flag (B + 1) 0 (by omega) (by omega); simpa [KK] using this
    have b2 : Go.bits .and .u64 S 2147483647 = 0 := by rw [hS]; have := Go.ConcN.st_waiters (B + 1) 0 (by omega) (by omega); simpa [KK] using this
    have c2 : IntKind.i32.wrap V = V := by rw [IntKind.wrap_i32]; omega
    have w1 : IntKind.u64.wrap (S + 1) = S + 1 := by rw [IntKind.wrap_u64, hS]; simp only [KK]; omega
    have q5 : (V == 0) = false := by simp; omega
    have q6 : decide (V = 0) = false := decide_eq_false (by omega)
    rw [← hS]
    rw [if_neg (by omega)]
    clear hS hV
    walk_nrm
    refine goF ?_
    refine opsK_callv rfl (by rfl) rfl (by first | (walk_nrm; done) | (walk_nrm; rfl)) (ucas_k { k with deaf := 1, gh := .shut X q wg m (B + 1) b } X q wg m B b S (S + 1) (let ⟨⟨h⟩⟩ := hh; h) rfl rfl Nat.zero_lt_one) ?_
    rintro _ _ (⟨rfl, rfl⟩ | ⟨rfl, rfl⟩)
    · walk_nrm
      refine goF ?_
      refine opsK_unsafe (t := 53) rfl (by rfl) rfl rfl (by kernel_rfl) (by kernel_rfl) (by kernel_rfl) (fun w hw => ?_) ?_
      · obtain ⟨_, st, sm, h⟩ := hw.live wg 84 hl
        exact ⟨_, h.cellSm⟩
      walk_nrm
      refine opsK_wWrite (X := X) (q := q) (wg := wg) (m := m) (b := b) rfl (by rfl) rfl (by rfl) (by kernel_rfl) (by kernel_rfl) (by kernel_rfl) (by rfl) (by simp [Act.eval]; rfl) rfl rfl ?_
      walk_nrm
      refine goF ?_
      refine opsK_wSem (X := X) (q := q) (wg := wg) (m := m) (b := b) rfl (by rfl) rfl (by rfl) (by kernel_rfl) (by kernel_rfl) (by kernel_rfl) (by rfl) (by simp [Act.eval]; rfl) rfl Nat.zero_lt_one ?_
      walk_nrm
      refine goF ?_
      refine opsK_callv rfl (by rfl) rfl (by first | (walk_nrm; done) | (walk_nrm; rfl)) (uload0_k { k with deaf := 1, gh := .fin X q wg m b } X q wg m b rfl Nat.zero_lt_one) ?_
      rintro _ _ ⟨rfl, rfl⟩
      walk_nrm
      refine goF ?_
      refine opsK_mark0 .enable (by simp) rfl rfl (by rfl) rfl (by rfl) (by kernel_rfl) (by kernel_rfl) (by kernel_rfl) (by rfl) ?_
      walk_nrm
      refine goF ?_
      refine opsK_unsafe (t := 84) rfl (by rfl) rfl rfl (by kernel_rfl) (by kernel_rfl) (by kernel_rfl) (fun w hw => ?_) ?_
      · obtain ⟨_, st, sm, h⟩ := hw.live wg 84 hl
        exact ⟨_, h.cellSt⟩
      walk_nrm
      refine opsK_wAcq (X := X) (q := q) (wg := wg) (m := m) (b := b) rfl (by rfl) rfl (by rfl) (by kernel_rfl) (by kernel_rfl) (by kernel_rfl) (by rfl) (by simp [Act.eval]; rfl) rfl rfl ?_
      intro kt ht hdj
      rw [hO.tok] at ht
      walk_nrm
      refine goF ?_
      refine retK0 (.inl rfl) rfl rfl ⟨kt, ht, ⟨hdj.oo, hdj.oro, hdj.ooc, hdj.ro, hdj.roc, hdj.cc, hdj.cr, hdj.rr⟩, ?_⟩
      simp [Kn.join, Kn.said, hd]

    · walk_nrm
      refine goF ?_
      refine ⟨B, ?_, by omega, rfl, _, rfl, rfl⟩
      simp [WellFoundedRelation.rel, measure, invImage, InvImage]; omega
end Go.Proofs.Ytacfhfeegalmlaa

/- make, in company: rows and channels of one's own. -/
namespace Go.Proofs.Ytacfhfeegalmlaa
open Go.Conc
set_option linter.unusedVariables false
set_option linter.unusedSimpArgs false

section
variable {P : Program} {main : Who} {fn : FuncId} {Q : Exit → Act → Kn → Prop} {a : Act} {k : Kn} {ops : Array Oper} {i : Nat} {rest : List Nat} {o : Oper} {K : Act → Kn → Prop}
theorem Trip.asInt {kd : IntKind} {n : Int} {Ψ : Int → Kn → Prop} (h : Ψ n k) : Trip P k (asInt (.int kd n)) Ψ := by
  unfold Go.asInt asIntOf
  exact Trip.bind (Trip.pure (Trip.pure h))
theorem Trip.makeSlice {t e : TypeId} {ti : TypeInfo} {sz n : Nat} {z : Value} {Ψ : Value → Kn → Prop} (ht : P.underlying t = some (.slice e)) (hi : P.info? e = some ti) (hsz : ∀ w, (Go.sizeOf e).run P w = .ok sz w) (hz : ∀ w, (Go.zeroValue e).run P w = .ok z w)
    (hn : n < 2000) (hb : ti.bytes * 2000 ≤ 1099511627776) (h : ∀ b c, k.New b → c.size = n * sz → Ψ (.slice (some ⟨b, 0, none⟩) n n) (k.set b (.cells c e))) : Trip P k (Instr.makeSlice t (.int .i64 n) (.int .i64 n)) Ψ := by
  have w1 : IntKind.i64.wrap (n : Int) = n := wr64 (by omega) (by omega)
  have hb' : ti.bytes * n ≤ 1099511627776 := Nat.le_trans (Nat.mul_le_mul_left _ (by omega)) hb
  have hb2 : (ti.bytes : Int) * (n : Int) ≤ 1099511627776 := by rw [← Int.natCast_mul]; exact Int.ofNat_le.2 hb'
  have t1 : (decide ((n : Int) < 0) || decide ((ti.bytes : Int) * (n : Int) > 2 ^ 48)) = false := by
    rw [Bool.or_eq_false_iff]
    exact ⟨decide_eq_false (by omega), decide_eq_false (by have : (2 : Int) ^ 48 = 281474976710656 := by decide
                                                           omega)⟩
  unfold Instr.makeSlice
  refine Trip.bind (Trip.underlying ht ?_)
  refine Trip.bind (Trip.asInt ?_)
  refine Trip.bind (Trip.asInt ?_)
  refine Trip.bind (Trip.typeInfo hi ?_)
  simp only [w1, t1, Bool.false_or]
  have t2 : (decide ((n : Int) < 0) || decide ((n : Int) > (n : Int))) = false := by simp
  simp only [t2, Bool.false_eq_true, if_false]
  refine Trip.bind (Trip.askRoom ?_)
  refine Trip.bind (Trip.sizeOf hsz ?_)
  simp only [Int.toNat_natCast]
  have fin : ∀ zero : Array Value, Trip P k (newRow e ((Array.range (n * sz)).map fun x => zero[x % zero.size]!) >>= fun a => Pure.pure (Value.slice (some a) n n)) Ψ := fun zero => by
    unfold newRow
    exact Trip.bind (Trip.bind (Trip.new' fun b hb => Trip.pure (Trip.pure (h b _ hb (by simp)))))
  exact Trip.ite (fun _ => Trip.bind (Trip.pure (fin _))) fun _ => Trip.bind (Trip.zeroValue hz (Trip.bind (Trip.pure (fin _))))
theorem Trip.makeChan0 {t e : TypeId} {dir : ChanDir} {ti : TypeInfo} {Ψ : Value → Kn → Prop} (ht : P.underlying t = some (.chan dir e)) (hi : P.info? e = some ti) (h : ∀ b, k.New b → Ψ (.chan (some b)) (k.set b chanO)) : Trip P k (Instr.makeChan t (.int .i64 0)) Ψ := by
  unfold Instr.makeChan
  refine Trip.bind (Trip.asInt ?_)
  refine Trip.bind (Trip.underlying ht ?_)
  have h0 : ¬ ((0 : Int) < 0) := by decide
  have h1 : ¬ ((0 : Int) > IntKind.i64.max) := by decide
  refine Trip.bind (Trip.typeInfo hi ?_)
  rw [if_neg (by simp [h1])]
  exact Trip.bind (Trip.new' fun b hb => Trip.pure (h b hb))
theorem exec_makeSlice {t e : TypeId} {ti : TypeInfo} {sz n : Nat} {z : Value} {x y : Operand} (hop : o.op = .makeSlice t x y) (hx : a.eval x = .int .i64 n) (hy : a.eval y = .int .i64 n) (ht : P.underlying t = some (.slice e)) (hi : P.info? e = some ti) (hsz : ∀ w, (Go.sizeOf e).run P w = .ok sz w) (hz : ∀ w, (Go.zeroValue e).run P w = .ok z w)
    (hn : n < 2000) (hb : ti.bytes * 2000 ≤ 1099511627776) (h : ∀ b c, k.New b → c.size = n * sz → K (a.put o.dst (.slice (some ⟨b, 0, none⟩) n n)) (k.set b (.cells c e))) : Trip P k (execOp a.eval o) (nextA K a o.dst) := by
  unfold execOp
  simp only [hop, hx, hy]
  exact Trip.bind (Trip.makeSlice ht hi hsz hz hn hb fun b c h1 h2 => Trip.pure (h b c h1 h2))
theorem exec_makeChan {t e : TypeId} {dir : ChanDir} {ti : TypeInfo} {x : Operand} (hop : o.op = .makeChan t x) (hx : a.eval x = .int .i64 0) (ht : P.underlying t = some (.chan dir e)) (hi : P.info? e = some ti) (h : ∀ b, k.New b → K (a.put o.dst (.chan (some b))) (k.set b chanO)) : Trip P k (execOp a.eval o) (nextA K a o.dst) := by
  unfold execOp
  simp only [hop, hx]
  exact Trip.bind (Trip.makeChan0 ht hi fun b h1 => Trip.pure (h b h1))
theorem exec_box {t : TypeId} {x : Operand} {v : Value} (hop : o.op = .box t x) (hx : a.eval x = v) (h : ∀ b, k.New b → K (a.put o.dst (.pointer (some ⟨b, 0, none⟩))) (k.set b (.cells v.cells t))) : Trip P k (execOp a.eval o) (nextA K a o.dst) := by
  unfold execOp
  simp only [hop, hx, Instr.box]
  exact Trip.bind (Trip.bind (Trip.newVar fun b hb => Trip.pure (Trip.pure (h b hb))))
theorem opsK_makeChan {t e : TypeId} {dir : ChanDir} {ti : TypeInfo} {x : Operand} (ho : ops[i]? = some o) (hw : Region.wanted o (yielded ops a.tmps) = true) (hop : o.op = .makeChan t x) (hx : a.eval x = .int .i64 0) (ht : P.underlying t = some (.chan dir e)) (hi : P.info? e = some ti) (h : ∀ b, k.New b → OpsK P main fn ops rest Q (a.put o.dst (.chan (some b))) (k.set b chanO)) : OpsK P main fn ops (i :: rest) Q a k := by
  refine opsK_trip ho hw ?_
  unfold execOp
  simp only [hop, hx]
  exact Trip.bind (Trip.makeChan0 ht hi fun b h1 => Trip.pure (h b h1))
end
end Go.Proofs.Ytacfhfeegalmlaa
