/-
  Joined texts: THE MACHINE's INVARIANT: a worker works: own steps, marks, views; what is published; its turn; passing it on. · THE MACHINE's INVARIANT: a worker's turn comes; it passes the token on. · THE MACHINE's INVARIANT: the queue. · THE MACHINE's INVARIANT: receiving from the queue, sending to it. · THE MACHINE's INVARIANT: a worker's way out.
-/
import Derived.Test.YtacfhfeegalmlaaWW15

/- THE MACHINE's INVARIANT: a worker works: own steps, marks, views; what is published; its turn; passing it on. -/
namespace Go.Proofs.Ytacfhfeegalmlaa
open Go.Conc
open Go.ConcR (KK wgBlock WgAt stA smA rd wr mk DC0 g_of_ofEvents)
open Go.ConcN (upd upd_same upd_ne WgLive RelBy sumTo sumTo_congr sumTo_upd le_sumTo sumTo_le get_map_set get_map_set_same)
set_option linter.unusedVariables false
set_option linter.unusedSimpArgs false

/-- Goroutine i's turn, and the token's. -/
def Gho.turn2 (G : Gho) (i : Nat) (k' k0 : Kn) (pos : Nat) (RO' : Addr → Option Value) (Sp' : Nat → Prop) (wg' : Nat) (r' : Rank) (np : Pk → Pk) : Gho :=
  { K := upd (upd G.K (i + 1) k') 0 k0, RO := RO', Sp := Sp', pos := pos, wg := wg', rk := upd G.rk i r', pk := fun j => if j = i then none else np (G.pk j), dd := upd G.dd i k'.deaf }
section
variable {P : Program} {W : Who} {StopM StopW : Kn → Goroutine → Prop} {w0 : World} {n0 : Nat} {gs gs' : Array Goroutine} {w w' : World} {t u : Trace} {G G' : Gho} {i : Nat} {x g g' : Goroutine} {es : Array Event} {k' k0 : Kn} {pos wg' : Nat} {RO' : Addr → Option Value} {Sp' : Nat → Prop} {r' : Rank} {np : Pk → Pk} {sl : Option (Nat × Nat)} {p : Pk} {f : Kn × Goroutine → Tree}
theorem Gho.turn2_K : (G.turn2 i k' k0 pos RO' Sp' wg' r' np).K (i + 1) = k' := by show upd (upd G.K (i + 1) k') 0 k0 (i + 1) = k'; rw [upd_ne _ _ (by omega), upd_same]
theorem Gho.turn2_K0 : (G.turn2 i k' k0 pos RO' Sp' wg' r' np).K 0 = k0 := (show upd (upd G.K (i + 1) k') 0 k0 0 = k0 from upd_same _ _ _)
theorem Gho.turn2_rk : (G.turn2 i k' k0 pos RO' Sp' wg' r' np).rk i = r' := upd_same _ _ _
theorem Gho.turn2_pk : (G.turn2 i k' k0 pos RO' Sp' wg' r' np).pk i = none := if_pos rfl
theorem Gho.turn2_dd : (G.turn2 i k' k0 pos RO' Sp' wg' r' np).dd i = k'.deaf := upd_same _ _ _
theorem Gho.turn2_oth {j : Nat} (h : j ≠ i) : (G.turn2 i k' k0 pos RO' Sp' wg' r' np).K (j + 1) = G.K (j + 1) ∧ (G.turn2 i k' k0 pos RO' Sp' wg' r' np).rk j = G.rk j ∧ (G.turn2 i k' k0 pos RO' Sp' wg' r' np).pk j = np (G.pk j) ∧ (G.turn2 i k' k0 pos RO' Sp' wg' r' np).dd j = G.dd j :=
  ⟨by show upd (upd G.K (i + 1) k') 0 k0 (j + 1) = _; rw [upd_ne _ _ (by omega), upd_ne _ _ (by omega)], upd_ne _ _ h, if_neg h, upd_ne _ _ h⟩
theorem Gho.turn2_view {N : Nat} {t' : Trace} (h9 : (G.rk i).1 = 9) (hr : r'.1 = 9) {lv : Option (Nat × TypeId)} (hlv : (i = 0 → lv = k'.live) ∧ (1 ≤ i → lv = (G.K 1).live)) :
    (G.turn2 i k' k0 pos RO' Sp' wg' r' np).view N w' t' = { (G.view N w t) with gh := upd (G.view N w t).gh i k'.gh, lv := lv, k0 := k0, RO := RO', Sp := Sp', pos := pos, wg := wg', pk := fun j => if j = i then none else np (G.pk j), hp := fun b => w'.heap[b]?, t := t' } := by
  refine View.eq_of (fun j => ?_) ?_ (show upd (upd G.K (i + 1) k') 0 k0 0 = k0 from upd_same _ _ _) rfl rfl rfl rfl (fun j => ?_) (fun _ => rfl) rfl (fun _ => rfl) rfl
  · show (upd (upd G.K (i + 1) k') 0 k0 (j + 1)).gh = upd (fun i => (G.K (i + 1)).gh) i k'.gh j
    rw [upd_ne _ _ (by omega)]
    by_cases e : j = i
    · subst e; rw [upd_same, upd_same]
    · rw [upd_ne _ _ (by omega), upd_ne _ _ e]
  · show (upd (upd G.K (i + 1) k') 0 k0 1).live = lv
    rw [upd_ne _ _ (by omega)]
    by_cases e : i = 0
    · subst e; rw [upd_same]; exact (hlv.1 rfl).symm
    · rw [upd_ne _ _ (by omega)]; exact (hlv.2 (by omega)).symm
  · show (upd G.rk i r' j).1 = (G.rk j).1
    by_cases e : j = i
    · subst e; rw [upd_same, hr, h9]
    · rw [upd_ne _ _ e]
/-- The round in which a worker is about. -/
theorem Inv.round (h : Inv P W StopM StopW w0 n0 gs w t G) (hi : 1 ≤ i) (hi' : i < gs.size) (h9 : (G.rk i).1 = 9) : ∃ X q wg m b first T s, Rnd W (G.view gs.size w t) X first T s ∧ LR W (G.view gs.size w t) X q wg m b first s ∧ (G.view gs.size w t).at first i := by
  have hsg : (G.view gs.size w t).sg i = 9 := h9
  obtain ⟨X, q, wg, m, b, first, T, s, hr, hl, hf⟩ := h.ph.worker hi hi' (by rw [hsg]; omega)
  exact ⟨X, q, wg, m, b, first, T, s, hr, hl, hf, hi', hsg⟩
theorem Inv.mainPk (h : Inv P W StopM StopW w0 n0 gs w t G) {c : Nat} (hc : G.pk 0 = some (some c)) : ∃ X wg m s b, (G.view gs.size w t).gh 0 = .par X c wg m s b ∧ s < X.n := by
  obtain ⟨hh, g, X, wg, m, s, b, z, _, hq, _⟩ := h.oneSend (i := 1) (Nat.le_refl _) hc
  exact ⟨X, wg, m, s, b, hq.gh, hq.lt⟩
/-- The main one does not wait at a channel of 'executed'. -/
theorem Inv.exPk (h : Inv P W StopM StopW w0 n0 gs w t G) {X : RunC} {q wg m b first T s j : Nat} (hr : Rnd W (G.view gs.size w t) X first T s) (hl : LR W (G.view gs.size w t) X q wg m b first s) (hs : 1 ≤ s) (hj : j ≤ X.n) : G.pk 0 ≠ some (some (X.ex j)) := by
  intro hc
  obtain ⟨X', wg', m', s', b', h1, _⟩ := h.mainPk hc
  obtain ⟨_, e, _⟩ := hl.ofPar h1
  exact hr.q_ne hl ⟨j, hj, e.symm⟩ hs
/-! ### own steps -/
theorem Inv.wStep (hy : Hyp P W StopM StopW) (h : Inv P W StopM StopW w0 n0 gs w t G) (hi : 1 ≤ i) (hx : gs[i]? = some x) (ha : Act' x g) (hr : G.rk i = (9, .mk f, 0)) (hp : G.pk i = none) (hd : G.dd i = (G.K (i + 1)).deaf)
    (nx : World → Kn) (h1 : ∀ w, (G.K (i + 1)).Sat w → (stepG P false g w).goes fun _ w' es => (G.K (i + 1)).Step (nx w) w w' es) (h2 : ∀ w g' w' es, (G.K (i + 1)).Sat w → stepG P false g w = .go g' w' es → GKR P (W.as false) StopW (f (nx w, g')) (nx w) g') :
    NextOk P W StopM StopW w0 n0 (crowd gs w sl) t (mu G gs.size) i := by
  have hi' := (Array.getElem?_eq_some_iff.1 hx).1
  have hs := h.satW hi
  obtain ⟨g', w', es, hgo, hst⟩ := goes_elim (h1 w hs)
  have hG := h2 w g' w' es hs hgo
  have h9 : (G.rk i).1 = 9 := by rw [hr]
  refine h.goneW hi hx (by rw [ha.step]; exact hgo) (h.okStep (r' := (9, f (nx w, g'), 0)) hi' hst h9 hp rfl _ _) ?_ ?_ ?_ ?_
  · rw [Gho.turn_K, Gho.turn_rk, Gho.turn_pk, Gho.turn_dd]
    exact .run hG (.refl (GKR.running hy.stopW hG))
  · rw [Deaf_own, (lets_nomark (i := i) hst.evs (fn := 0) (pos := "")).2.2, h.deafW i hi hi', hd, Gho.turn_dd, hst.deaf]
  · rw [Gho.turn_K, hst.live]; exact h.live i hi
  · rw [Gho.turn_rk, hr]; exact Rank.child
theorem Inv.wMark (hy : Hyp P W StopM StopW) (h : Inv P W StopM StopW w0 n0 gs w t G) (hi : 1 ≤ i) (hx : gs[i]? = some x) (ha : Act' x g) (hr : G.rk i = (9, .mk f, 0)) (hp : G.pk i = none) (hd : G.dd i = (G.K (i + 1)).deaf)
    {m : Mark} (hm : tameMark m = true) (h1 : ∀ w, stepG P false g w = .go g' w #[⟨.mark m, false, true⟩]) (hG : GKR P (W.as false) StopW (f ((G.K (i + 1)).said m, g')) ((G.K (i + 1)).said m) g') :
    NextOk P W StopM StopW w0 n0 (crowd gs w sl) t (mu G gs.size) i := by
  have hi' := (Array.getElem?_eq_some_iff.1 hx).1
  have h9 : (G.rk i).1 = 9 := by rw [hr]
  refine h.goneW hi hx (by rw [ha.step]; exact h1 w) (h.okMark (r' := (9, f ((G.K (i + 1)).said m, g'), 0)) hi' hm h9 hp rfl _ _) ?_ ?_ ?_ ?_
  · rw [Gho.turn_K, Gho.turn_rk, Gho.turn_pk, Gho.turn_dd]
    exact .run hG (.refl (GKR.running hy.stopW hG))
  · rw [Deaf_own, h.deafW i hi hi', hd, Gho.turn_dd]
    exact (tame_fact (i := i) hm 0 "").2 _
  · rw [Gho.turn_K]
    have : ((G.K (i + 1)).said m).live = (G.K (i + 1)).live := by cases m <;> rfl
    rw [this]; exact h.live i hi
  · rw [Gho.turn_rk, hr]; exact Rank.child
theorem Inv.wTurn (h : Inv P W StopM StopW w0 n0 gs w t G) (hi : 1 ≤ i) (hx : gs[i]? = some x) (ha : Act' x g) (hr : G.rk i = (9, .mk f, 0)) (hp : G.pk i = none) (hd : G.dd i = (G.K (i + 1)).deaf)
    (ht : (G.K (i + 1)).Turn k') (hG : GKR P (W.as false) StopW (f (k', g)) k' g) : ∃ G', Inv P W StopM StopW w0 n0 gs w t G' ∧ Mu.Lt (mu G' gs.size) (mu G gs.size) := by
  have hi' := (Array.getElem?_eq_some_iff.1 hx).1
  have h9 : (G.rk i).1 = 9 := by rw [hr]
  refine ⟨_, h.viewTurn (r' := (9, f (k', g), 0)) hi' ht h9 hp rfl (fun e => by omega) (fun _ => ⟨x, hx, .run hG ha⟩) (fun _ => by rw [h.deafW i hi hi', hd, ht.deaf]), ?_⟩
  refine mu_lt (by rw [Gho.turn_Kne (by omega)]) (fun j hj => ?_) hi' (by rw [Gho.turn_rk, hr]; exact Rank.child)
  by_cases e : j = i
  · subst e; exact .inr (by rw [Gho.turn_rk, hr]; exact Rank.child)
  · exact .inl (Gho.turn_oth e).2.1
/-! ### communications -/
theorem recvClosed_mute {c : Nat} {fn : FuncId} {ps : String} : ∀ op ∈ (#[({ g := i, fn := fn, pos := ps, act := .recvClosed c } : MemOp)] : Array MemOp), op.act.touch? = none ∧ op.g = i ∧ (∀ a, op.act ≠ .mark (.release a)) ∧ ∀ c, op.act ≠ .close c := by
  intro op ho
  simp only [List.mem_toArray, List.mem_singleton] at ho
  subst ho
  exact ⟨rfl, rfl, fun a => by simp, fun c => by simp⟩
theorem ofEvents_nil_append {fn : FuncId} {ps : String} (u : Array MemOp) : MemOp.ofEvents i fn ps #[] ++ u = u := by simp [MemOp.ofEvents]
theorem Inv.pkId (h : Inv P W StopM StopW w0 n0 gs w t G) (hp : G.pk i = none) (j : Nat) : (if j = i then none else id (G.pk j)) = G.pk j ∨ (G.pk j = some none ∧ (if j = i then none else id (G.pk j)) = none) := by
  by_cases e : j = i
  · subst e; rw [if_pos rfl]; exact .inl hp.symm
  · rw [if_neg e]; exact .inl rfl
/-- Somebody is parked (protocol). -/
theorem Inv.phPark (h : Inv P W StopM StopW w0 n0 gs w t G) (hi : 1 ≤ i) {c : Nat} (hc : ∀ X q wg m s b, (G.view gs.size w t).gh 0 = .par X q wg m s b → G.pk 0 = some (some q) → c ≠ q) : Phase W { (G.view gs.size w t) with pk := upd G.pk i (some (some c)) } := by
  refine h.ph.park _ (fun X q wg m s b hg h0 j hj hj' he => ?_) (fun h0 _ _ => by rw [upd_ne _ _ (by omega)]; exact h0)
  rw [upd_ne _ _ (by omega)] at h0
  by_cases e : j = i
  · subst e
    rw [upd_same] at he
    cases he
    exact hc X _ wg m s b hg h0 rfl
  · rw [upd_ne _ _ e] at he
    obtain ⟨_, first, T, h3, h4⟩ := h.ph.ofPar hg
    rcases Nat.lt_or_ge j first with hlt | hge
    · have h1 := (h3.gone j hj hlt).1
      obtain ⟨y, hy, hs⟩ := h.wk j hj hj'
      have := hs.nine (by rw [he]; simp)
      have h1' : (G.rk j).1 = 1 := h1
      omega
    · exact h4.one h0 j hge hj' he
/-- WHAT IS PUBLISHED. -/
theorem Inv.wRecvE (hy : Hyp P W StopM StopW) (h : Inv P W StopM StopW w0 n0 gs w t G) (hi : 1 ≤ i) (hx : gs[i]? = some x) (ha : Act' x g) (hr : G.rk i = (9, .mk f, 0)) (hp : G.pk i = none) (hd : G.dd i = (G.K (i + 1)).deaf)
    {X : RunC} {q wg left i0 j : Nat} {z : Value} (hq : RecvEF P (W.as false) (Ch P (W.as false) StopW f) (G.K (i + 1)) g X q wg left i0 j z) : NextOk P W StopM StopW w0 n0 (crowd gs w sl) t (mu G gs.size) i := by
  have hi' := (Array.getElem?_eq_some_iff.1 hx).1
  have h9 : (G.rk i).1 = 9 := by rw [hr]
  obtain ⟨X', q', wg', m, b, first, T, s, hrn, hl, hat⟩ := h.round hi hi' h9
  obtain ⟨rfl, rfl, rfl⟩ := hl.inj hat (show (G.view gs.size w t).gh i = _ from hq.gh)
  have hjs := hrn.jobs i hat i0 (by rw [show (G.view gs.size w t).gh i = _ from hq.gh]; rfl)
  have hsn := hrn.sn
  have hle := hq.le
  have hjn : j ≤ X.n := by omega
  have hc : w.heap[X.ex j]? = _ := hrn.ex j hjn
  have hcomm : stepG P (i == 0) x w = .comm g #[rcase (X.ex j) z] true (.recv false) w #[] := by
    rw [show (i == 0) = false by simp; omega, ha.step]
    exact hq.comm w (h.satW hi)
  have hns : partners (gs.setIfInBounds i Go.Conc.ph) (X.ex j) true = [] := h.noSend (.inr (h.exPk hrn hl (by omega) hjn))
  by_cases hT : j ≤ T
  · rw [decide_eq_true hT] at hc
    obtain ⟨pc, R, p1, p2, p3, p4⟩ := hrn.pub j hT
    have hrun := crowd_recv_closed (sl := sl) hx hcomm hc hns
    rw [ofEvents_nil_append] at hrun
    have hm := recvClosed_mute (i := i) (c := X.ex j) (fn := g.frame.fn) (ps := g.frame.place)
    have hd0 : Deaf t i = 0 := by rw [h.deafW i hi hi', hd]; exact hq.deaf
    obtain ⟨kE, hkE⟩ : ∃ kE : Kn, kE = { G.K (i + 1) with ro := fun a => ((G.K (i + 1)).ro a).or (R a) } := ⟨_, rfl⟩
    have hgrow : (G.K (i + 1)).Grow kE := by subst hkE; exact ⟨fun a v hv => by simp [hv], rfl, rfl, rfl, rfl, rfl⟩
    have hpub : W.Pub X j kE.ro := by
      subst hkE
      refine hy.pub X j R _ p2 fun a v hv => ?_
      show ((G.K (i + 1)).ro a).or (R a) = some v
      cases e : (G.K (i + 1)).ro a with
      | none => simpa using hv
      | some v' =>
        have h1 := h.hp.ro _ a v' e
        have h2 := p3 a v hv
        have h1' : G.RO a = some v' := h1
        have h2' : G.RO a = some v := h2
        rw [h1'] at h2'
        simpa using h2'
    have hG := hq.next kE hgrow hpub
    refine h.servedW (y := Go.Conc.served g z) hi hi' hrun (h.okView (k' := kE) (r' := (9, f (kE, Go.Conc.served g z), 0)) (np := id) hi' rfl rfl rfl rfl (fun b o ho => by rw [hgrow.own] at ho; exact ho) (fun a v hv => by rw [hgrow.oc] at hv; exact hv) (fun a v hv => ?_) (fun op ho => (hm op ho).1) (fun op ho => (hm op ho).2.1) ?_ (fun h => h) ?_) ?_ ?_ ?_ ?_
    · subst hkE
      have hv' : ((G.K (i + 1)).ro a).or (R a) = some v := hv
      cases e : (G.K (i + 1)).ro a with
      | none => rw [e] at hv'; exact p3 a v (by simpa using hv')
      | some v' => rw [e] at hv'; simp at hv'; subst hv'; exact h.hp.ro _ a v' e
    · have c0 : Cov (t ++ #[({ g := i, fn := g.frame.fn, pos := g.frame.place, act := .recvClosed (X.ex j) } : MemOp)]) (Knows (t ++ #[({ g := i, fn := g.frame.fn, pos := g.frame.place, act := .recvClosed (X.ex j) } : MemOp)]) i) (G.K (i + 1)) := (h.cov i).mute (fun op ho => (hm op ho).1) fun c hc => hc.app _
      refine ⟨fun b hb => c0.own b (by rw [hgrow.own] at hb; exact hb), fun b hb => c0.oc b (by rw [hgrow.oc] at hb; exact hb), fun a ha => ?_⟩
      subst hkE
      by_cases e : (G.K (i + 1)).ro a = none
      · have ha' : R a ≠ none := fun e2 => ha (by show ((G.K (i + 1)).ro a).or (R a) = none; rw [e, e2]; rfl)
        refine (p4 a ha').mute (fun op ho => (hm op ho).1) fun c hc => ?_
        exact knows_closed (t := t) (i := i) (pc := pc) p1 (y := { g := i, fn := g.frame.fn, pos := g.frame.place, act := .recvClosed (X.ex j) }) rfl rfl hd0 hc
      · exact c0.ro a e
    · rw [Gho.turn_next (w := w) (t := t) h9 rfl (fun e => by omega) hgrow.gh]
      exact h.ph.gr (Gr.mute (fun op ho => (hm op ho).1) (fun op ho => (hm op ho).2.2.1 _) fun op ho _ c => (hm op ho).2.2.2 c) (fun a v hv => hv) (fun j => h.pkId hp j) fun b hb => rfl
    · rw [Gho.turn_K, Gho.turn_rk, Gho.turn_pk, Gho.turn_dd]
      exact .run hG (.refl (GKR.running hy.stopW hG))
    · rw [Go.ConcN.Deaf_still t i _ (fun op ho => ?_), h.deafW i hi hi', hd, Gho.turn_dd, hgrow.deaf]
      simp only [List.mem_toArray, List.mem_singleton] at ho
      subst ho
      exact ⟨by simp, by simp⟩
    · rw [Gho.turn_K, hgrow.live]; exact h.live i hi
    · rw [Gho.turn_rk, hr]; exact Rank.child
  · rw [decide_eq_false hT] at hc
    have hrun := crowd_waits (sl := sl) hx hcomm (fun cc hcc => by
      simp only [List.mem_toArray, List.mem_singleton] at hcc
      subst hcc
      exact ways_recv_none hc hns)
    refine h.parked (p := some (X.ex j)) hi' hp hrun (by simp [MemOp.ofEvents]) (h.park hi' (fun e => by omega) (fun _ => ⟨X.ex j, rfl, by unfold closedAt; rw [hc], ?_⟩) (h.phPark hi fun X2 q2 wg2 m2 s2 b2 hg hpq e => ?_))
    · rw [hr, hd]; exact .pkE hq rfl
    · obtain ⟨_, e2, _⟩ := hl.ofPar hg
      exact hrn.q_ne hl ⟨j, hjn, e2.symm.trans e.symm⟩ (by omega)
end
end Go.Proofs.Ytacfhfeegalmlaa

/- THE MACHINE's INVARIANT: a worker's turn comes; it passes the token on. -/
namespace Go.Proofs.Ytacfhfeegalmlaa
open Go.Conc
open Go.ConcR (KK wgBlock WgAt stA smA rd wr mk DC0 g_of_ofEvents)
open Go.ConcN (upd upd_same upd_ne WgLive RelBy sumTo sumTo_congr sumTo_upd le_sumTo sumTo_le get_map_set get_map_set_same)
set_option linter.unusedVariables false
set_option linter.unusedSimpArgs false

theorem LR.gr {W : Who} {V : View} {X : RunC} {q wg m b first s : Nat} {u : Trace} {RO' : Addr → Option Value} {pk' : Nat → Pk} {hp' : Nat → Option Obj} (h : LR W V X q wg m b first s) (hg : Gr V u) (hpk : ∀ i, pk' i = V.pk i ∨ (V.pk i = some none ∧ pk' i = none)) (hhp : ∀ x, V.Sp x → hp' x = V.hp x) : LR W (V.next RO' pk' hp' u) X q wg m b first s := by
  cases h with
  | par h1 h2 h3 => exact .par h1 h2 (h3.gr hg hpk (hhp _ h3.spq))
  | shut p0 pq st sm h0 h1 h2 => exact .shut p0 pq st sm h0 h1 (h2.gr hg hpk hhp)
section
variable {P : Program} {W : Who} {StopM StopW : Kn → Goroutine → Prop} {w0 : World} {n0 : Nat} {gs gs' : Array Goroutine} {w w' : World} {t u : Trace} {G G' : Gho} {i : Nat} {x g g' : Goroutine} {es : Array Event} {k' k0 : Kn} {pos wg' : Nat} {RO' : Addr → Option Value} {Sp' : Nat → Prop} {r' : Rank} {np : Pk → Pk} {sl : Option (Nat × Nat)} {p : Pk} {f : Kn × Goroutine → Tree}
/-- Nobody has a stake where the library's bookkeeping is done. -/
theorem Cov.appS {K : Nat → Kn} {RO : Addr → Option Value} {Sp : Nat → Prop} {b q : Nat} {Q Q' : Nat → Prop} (H : HInv K RO Sp n0 w) (hb : Sp b) (hu : SyncU i b u) (h : Cov t Q (K q)) (hQ : ∀ j, Q j → Q' j) : Cov (t ++ u) Q' (K q) := by
  obtain ⟨s1, s2, s3, s4, s5⟩ := H.sp b hb
  have new : ∀ {j y}, touchAt (t ++ u) j = some y → touchAt t j = some y ∨ blkOf y.loc = some b := fun h1 => by
    rcases touch_cases h1 with ⟨_, h1⟩ | ⟨_, op, ho, hx, _⟩
    · exact .inl h1
    · exact .inr (hu.at_ op ho _ hx).1
  refine ⟨fun c hc j y h1 h2 => ?_, fun a ha j y h1 h2 => ?_, fun a ha j y h1 h2 h3 => ?_⟩
  · rcases new h1 with h4 | h4
    · exact hQ _ (h.own c hc j y h4 h2)
    · rw [h2] at h4; cases h4; exact absurd (s3 q) hc
  · rcases new h1 with h4 | h4
    · exact hQ _ (h.oc a ha j y h4 h2)
    · rw [h2] at h4; cases h4; exact absurd rfl (s4 q a ha)
  · rcases new h1 with h4 | h4
    · exact hQ _ (h.ro a ha j y h4 h2 h3)
    · rw [h2] at h4; cases h4; exact absurd rfl (s5 a (H.ro_ne ha))
theorem setChan_ne {w : World} {c b cap s r : Nat} {buf : Array Value} {cl tm : Bool} (h : b ≠ c) : (w.setChan c cap buf cl s r tm).heap[b]? = w.heap[b]? := by simp [World.setChan, Array.getElem?_setIfInBounds_ne (Ne.symm h)]
theorem setChan_same {w : World} {c cap s r : Nat} {buf : Array Value} {cl tm : Bool} (h : c < w.heap.size) : (w.setChan c cap buf cl s r tm).heap[c]? = some (.chan cap buf cl s r tm) := by simp [World.setChan, h]
theorem setChan_size {w : World} {c cap s r : Nat} {buf : Array Value} {cl tm : Bool} : (w.setChan c cap buf cl s r tm).heap.size = w.heap.size := by simp [World.setChan]
/-- HIS TURN. -/
theorem Inv.wRecvT (hy : Hyp P W StopM StopW) (h : Inv P W StopM StopW w0 n0 gs w t G) (hi : 1 ≤ i) (hx : gs[i]? = some x) (ha : Act' x g) (hr : G.rk i = (9, .mk f, 0)) (hp : G.pk i = none) (hd : G.dd i = (G.K (i + 1)).deaf)
    {X : RunC} {q wg left i0 : Nat} {z : Value} (hq : RecvTF P (W.as false) (Ch P (W.as false) StopW f) (G.K (i + 1)) g X q wg left i0 z) : NextOk P W StopM StopW w0 n0 (crowd gs w sl) t (mu G gs.size) i := by
  have hi' := (Array.getElem?_eq_some_iff.1 hx).1
  have h9 : (G.rk i).1 = 9 := by rw [hr]
  obtain ⟨X', q', wg', m, b, first, T, s, hrn, hl, hat⟩ := h.round hi hi' h9
  obtain ⟨rfl, rfl, rfl⟩ := hl.inj hat (show (G.view gs.size w t).gh i = _ from hq.gh)
  have hjs := hrn.jobs i hat i0 (by rw [show (G.view gs.size w t).gh i = _ from hq.gh]; rfl)
  have hsn := hrn.sn
  have hjn : i0 ≤ X.n := by omega
  have hc : w.heap[X.ex i0]? = _ := hrn.ex i0 hjn
  have hcomm : stepG P (i == 0) x w = .comm g #[rcase (X.ex i0) z] true (.recv false) w #[] := by
    rw [show (i == 0) = false by simp; omega, ha.step]
    exact hq.comm w (h.satW hi)
  have hns : partners (gs.setIfInBounds i Go.Conc.ph) (X.ex i0) true = [] := h.noSend (.inr (h.exPk hrn hl (by omega) hjn))
  by_cases hT : i0 ≤ T
  · rw [decide_eq_true hT] at hc
    obtain ⟨rfl, htok, hcl, hph⟩ := Phase.recvT hrn hl hat (show (G.view gs.size w t).gh i = _ from hq.gh) hT
    have htok' : W.Tok X i0 (G.K 0) := htok
    have hcl' : ClAt t (X.ex i0) G.pos := hcl
    have hrun := crowd_recv_closed (sl := sl) hx hcomm hc hns
    rw [ofEvents_nil_append] at hrun
    have hm := recvClosed_mute (i := i) (c := X.ex i0) (fn := g.frame.fn) (ps := g.frame.place)
    have hd0 : Deaf t i = 0 := by rw [h.deafW i hi hi', hd]; exact hq.deaf
    have hG := hq.next (G.K 0) htok' (h.hp.disj (p := i + 1) (p' := 0) (by omega))
    obtain ⟨kj, hkj⟩ : ∃ kj : Kn, kj = { (G.K (i + 1)).join (G.K 0) with gh := .wk X q wg left (.job i0 true) } := ⟨_, rfl⟩
    rw [← hkj] at hG
    have jown : ∀ b, kj.own b = ((G.K (i + 1)).own b).or ((G.K 0).own b) := fun b => by rw [hkj]; rfl
    have joc : ∀ b, kj.oc b = ((G.K (i + 1)).oc b).or ((G.K 0).oc b) := fun b => by rw [hkj]; rfl
    have jro : ∀ b, kj.ro b = ((G.K (i + 1)).ro b).or ((G.K 0).ro b) := fun b => by rw [hkj]; rfl
    have orc : ∀ {α : Type} {a b : Option α} {v : α}, a.or b = some v → a = some v ∨ b = some v := fun {α a b v} h => by
      cases a with
      | none => exact .inr (by simpa using h)
      | some y => exact .inl (by simpa using h)
    have orn : ∀ {α : Type} {a b : Option α}, a.or b ≠ none → a ≠ none ∨ b ≠ none := fun {α a b} h => by
      cases a with
      | none => exact .inr (by simpa using h)
      | some y => exact .inl (by simp)
    -- all that is new
    have K0 : ∀ {p}, (G.turn2 i kj Kn.emp G.pos G.RO G.Sp G.wg (9, f (kj, Go.Conc.served g z), 0) id).K p = if p = 0 then Kn.emp else if p = i + 1 then kj else G.K p := fun {p} => by
      show upd (upd G.K (i + 1) kj) 0 Kn.emp p = _
      unfold upd
      rfl
    have hH : HInv (G.turn2 i kj Kn.emp G.pos G.RO G.Sp G.wg (9, f (kj, Go.Conc.served g z), 0) id).K G.RO G.Sp n0 w := by
      refine h.hp.redist (fun p b o ho => ?_) (fun p b o ho => ?_) (fun p b o ho => ?_) (fun p p' b hpp hb => ?_) (fun p p' b hpp hb => ?_)
      · rw [K0] at ho
        split at ho
        · cases ho
        · split at ho
          · rw [jown] at ho; exact (orc ho).elim (fun e => ⟨_, e⟩) fun e => ⟨_, e⟩
          · exact ⟨p, ho⟩
      · rw [K0] at ho
        split at ho
        · cases ho
        · split at ho
          · rw [joc] at ho; exact (orc ho).elim (fun e => ⟨_, e⟩) fun e => ⟨_, e⟩
          · exact ⟨p, ho⟩
      · rw [K0] at ho
        split at ho
        · cases ho
        · split at ho
          · rw [jro] at ho; exact (orc ho).elim (h.hp.ro _ _ _) (h.hp.ro _ _ _)
          · exact h.hp.ro _ _ _ ho
      · rw [K0] at hb ⊢
        by_cases e0 : p' = 0
        · rw [if_pos e0]; rfl
        rw [if_neg e0]
        by_cases e1 : p = 0
        · rw [if_pos e1] at hb; exact absurd rfl hb
        rw [if_neg e1] at hb
        by_cases e2 : p' = i + 1
        · rw [if_pos e2, jown]
          rw [if_neg (fun e => hpp (e.trans e2.symm))] at hb
          rw [h.hp.oo p (i + 1) b (fun e => hpp (e.trans e2.symm)) hb, h.hp.oo p 0 b e1 hb]; rfl
        · rw [if_neg e2]
          by_cases e3 : p = i + 1
          · rw [if_pos e3, jown] at hb
            rcases orn hb with hb | hb
            · exact h.hp.oo (i + 1) p' b (fun e => e2 e.symm) hb
            · exact h.hp.oo 0 p' b (fun e => e0 e.symm) hb
          · rw [if_neg e3] at hb; exact h.hp.oo p p' b hpp hb
      · rw [K0] at hb ⊢
        by_cases e0 : p' = 0
        · rw [if_pos e0]; rfl
        rw [if_neg e0]
        by_cases e1 : p = 0
        · rw [if_pos e1] at hb; exact absurd rfl hb
        rw [if_neg e1] at hb
        by_cases e2 : p' = i + 1
        · rw [if_pos e2, joc]
          rw [if_neg (fun e => hpp (e.trans e2.symm))] at hb
          rw [h.hp.cc p (i + 1) b (fun e => hpp (e.trans e2.symm)) hb, h.hp.cc p 0 b e1 hb]; rfl
        · rw [if_neg e2]
          by_cases e3 : p = i + 1
          · rw [if_pos e3, joc] at hb
            rcases orn hb with hb | hb
            · exact h.hp.cc (i + 1) p' b (fun e => e2 e.symm) hb
            · exact h.hp.cc 0 p' b (fun e => e0 e.symm) hb
          · rw [if_neg e3] at hb; exact h.hp.cc p p' b hpp hb
    have hn : ∀ op ∈ (#[({ g := i, fn := g.frame.fn, pos := g.frame.place, act := .recvClosed (X.ex i0) } : MemOp)] : Trace), op.act.touch? = none := fun op ho => (hm op ho).1
    have hcov : Cov (t ++ #[({ g := i, fn := g.frame.fn, pos := g.frame.place, act := .recvClosed (X.ex i0) } : MemOp)]) (Knows (t ++ #[({ g := i, fn := g.frame.fn, pos := g.frame.place, act := .recvClosed (X.ex i0) } : MemOp)]) i) kj := by
      have c1 : Cov (t ++ #[({ g := i, fn := g.frame.fn, pos := g.frame.place, act := .recvClosed (X.ex i0) } : MemOp)]) (Knows (t ++ #[({ g := i, fn := g.frame.fn, pos := g.frame.place, act := .recvClosed (X.ex i0) } : MemOp)]) i) (G.K (i + 1)) := (h.cov i).mute hn fun c hc => hc.app _
      have c2 : Cov (t ++ #[({ g := i, fn := g.frame.fn, pos := g.frame.place, act := .recvClosed (X.ex i0) } : MemOp)]) (Knows (t ++ #[({ g := i, fn := g.frame.fn, pos := g.frame.place, act := .recvClosed (X.ex i0) } : MemOp)]) i) (G.K 0) := h.cov0.mute hn fun c hc =>
        knows_closed (t := t) (i := i) (pc := G.pos) hcl' (y := { g := i, fn := g.frame.fn, pos := g.frame.place, act := .recvClosed (X.ex i0) }) rfl rfl hd0 hc
      exact ⟨fun b hb => by rw [jown] at hb; exact (orn hb).elim (c1.own b) (c2.own b), fun b hb => by rw [joc] at hb; exact (orn hb).elim (c1.oc b) (c2.oc b), fun b hb => by rw [jro] at hb; exact (orn hb).elim (c1.ro b) (c2.ro b)⟩
    have hjd : kj.deaf = (G.K (i + 1)).deaf := by rw [hkj]; rfl
    have hjl : kj.live = (G.K (i + 1)).live := by rw [hkj]; rfl
    have hjg : kj.gh = .wk X q wg left (.job i0 true) := by rw [hkj]
    refine h.servedW (G' := G.turn2 i kj Kn.emp G.pos G.RO G.Sp G.wg (9, f (kj, Go.Conc.served g z), 0) id) (y := Go.Conc.served g z) hi hi' hrun ⟨hH, h.tb.mute hn (fun op ho => by rw [(hm op ho).2.1]; exact hi') (Nat.le_refl _), fun j => ?_, ?_, fun op ho => (hm op ho).2.1, fun j hj => Gho.turn2_oth hj, h.grpNext rfl (fun b _ => rfl), rel0_heap h.hp.rosat rfl, fun a v hv => hv, fun j h1 h2 c hc => ?_, ?_, h.os, h.tape, h.output, h.old⟩ ?_ ?_ ?_ ?_
    · by_cases e : j = i
      · subst e; rw [Gho.turn2_K]; exact hcov
      · rw [(Gho.turn2_oth e).1]; exact (h.cov j).mute hn fun c hc => hc.app _
    · rw [Gho.turn2_K0]; exact Cov.emp _ _
    · by_cases e : j = i
      · subst e; rw [Gho.turn2_pk] at hc; cases hc
      · rw [(Gho.turn2_oth e).2.2.1] at hc; exact h.opn j h1 h2 c hc
    · have hgr := hph.gr (u := #[({ g := i, fn := g.frame.fn, pos := g.frame.place, act := .recvClosed (X.ex i0) } : MemOp)]) (RO' := G.RO) (pk' := fun j => if j = i then none else id (G.pk j)) (hp' := fun b => w.heap[b]?) (Gr.mute hn (fun op ho => (hm op ho).2.2.1 _) fun op ho _ c => (hm op ho).2.2.2 c) (fun a v hv => hv) (fun j => h.pkId hp j) fun b hb => rfl
      rw [Gho.turn2_view (w := w) (t := t) (lv := (G.K 1).live) h9 rfl ⟨fun e => by omega, fun _ => rfl⟩, hjg]
      exact hgr
    · rw [Gho.turn2_K, Gho.turn2_rk, Gho.turn2_pk, Gho.turn2_dd]
      exact .run hG (.refl (GKR.running hy.stopW hG))
    · rw [Go.ConcN.Deaf_still t i _ (fun op ho => ?_), h.deafW i hi hi', hd, Gho.turn2_dd, hjd]
      simp only [List.mem_toArray, List.mem_singleton] at ho
      subst ho
      exact ⟨by simp, by simp⟩
    · rw [Gho.turn2_K, hjl]; exact h.live i hi
    · rw [Gho.turn2_rk, hr]; exact Rank.child
  · rw [decide_eq_false hT] at hc
    have hrun := crowd_waits (sl := sl) hx hcomm (fun cc hcc => by
      simp only [List.mem_toArray, List.mem_singleton] at hcc
      subst hcc
      exact ways_recv_none hc hns)
    refine h.parked (p := some (X.ex i0)) hi' hp hrun (by simp [MemOp.ofEvents]) (h.park hi' (fun e => by omega) (fun _ => ⟨X.ex i0, rfl, by unfold closedAt; rw [hc], ?_⟩) (h.phPark hi fun X2 q2 wg2 m2 s2 b2 hg hpq e => ?_))
    · rw [hr, hd]; exact .pkT hq rfl
    · obtain ⟨_, e2, _⟩ := hl.ofPar hg
      exact hrn.q_ne hl ⟨i0, hjn, e2.symm.trans e.symm⟩ (by omega)
/-- HE PASSES IT ON. -/
theorem Inv.wCloseE (hy : Hyp P W StopM StopW) (h : Inv P W StopM StopW w0 n0 gs w t G) (hi : 1 ≤ i) (hx : gs[i]? = some x) (ha : Act' x g) (hr : G.rk i = (9, .mk f, 0)) (hp : G.pk i = none) (hd : G.dd i = (G.K (i + 1)).deaf)
    {k1 kt : Kn} {X : RunC} {j : Nat} {gh' : Gh} (hq : CloseEF P (W.as false) (Ch P (W.as false) StopW f) (G.K (i + 1)) g k1 kt g' X j gh') : NextOk P W StopM StopW w0 n0 (crowd gs w sl) t (mu G gs.size) i := by
  have hi' := (Array.getElem?_eq_some_iff.1 hx).1
  have h9 : (G.rk i).1 = 9 := by rw [hr]
  obtain ⟨X', q', wg', m, b, first, T, s, hrn, hl, hat⟩ := h.round hi hi' h9
  have hcl := hq.cl
  generalize hkk : G.K (i + 1) = kk at hcl
  cases hcl with
  | main e1 =>
    subst hkk
    exfalso
    rcases hl.gh hat with ⟨l, st, e2, _⟩ | ⟨e2, _⟩
    · rw [show (G.view gs.size w t).gh i = _ from e1] at e2; cases e2
    · rw [show (G.view gs.size w t).gh i = _ from e1] at e2; cases e2
  | @wk q wg left i0 e1 e2 =>
    subst hkk e2
    obtain ⟨rfl, rfl, rfl⟩ := hl.inj hat (show (G.view gs.size w t).gh i = _ from e1)
    obtain ⟨rfl, hk0, hTn, hhp, _⟩ := Phase.closeW hrn hl hat (show (G.view gs.size w t).gh i = _ from e1)
    have hk0 : G.K 0 = Kn.emp := hk0
    have hhp : w.heap[X.ex (i0 + 1)]? = some chanO := hhp
    have hspc : G.Sp (X.ex (i0 + 1)) := hrn.sp _ hTn
    obtain ⟨hclt, hcn0, _⟩ := h.hp.sp _ hspc
    have hgo := hq.go w (h.satW hi) hhp
    obtain ⟨w', hw'⟩ : ∃ w', w' = w.setChan (X.ex (i0 + 1)) 0 #[] true 0 0 false := ⟨_, rfl⟩
    have hgo : stepG P false x w = .go g' w' (closeEvents (X.ex (i0 + 1))) := by rw [ha.step, hw']; exact hgo
    have wne : ∀ b, b ≠ X.ex (i0 + 1) → w'.heap[b]? = w.heap[b]? := fun b hb => by rw [hw']; exact setChan_ne hb
    have wsm : w'.heap[X.ex (i0 + 1)]? = some (.chan 0 #[] true 0 0 false) := by rw [hw']; exact setChan_same hclt
    have wsz : w'.heap.size = w.heap.size := by rw [hw']; exact setChan_size
    have wos : w'.os = w.os ∧ w'.tape = w.tape ∧ w'.output = w.output := by rw [hw']; exact ⟨rfl, rfl, rfl⟩
    clear hw'
    have hG := hq.next
    obtain ⟨kn, hkn⟩ : ∃ kn : Kn, kn = { k1 with gh := .wk X q wg left .idle } := ⟨_, rfl⟩
    rw [← hkn] at hG
    have hsp := hq.split
    have nown : kn.own = k1.own := by rw [hkn]
    have noc : kn.oc = k1.oc := by rw [hkn]
    have nro : kn.ro = (G.K (i + 1)).ro := by rw [hkn]; exact hsp.ro1
    have nd : kn.deaf = (G.K (i + 1)).deaf := by rw [hkn]; exact hsp.deaf
    have nl : kn.live = (G.K (i + 1)).live := by rw [hkn]; exact hsp.live
    have ng : kn.gh = .wk X q wg left .idle := by rw [hkn]
    clear hkn
    have own1 : ∀ b, kn.own b ≠ none → (G.K (i + 1)).own b ≠ none ∧ kt.own b = none := fun b hb => by
      obtain ⟨o, ho⟩ := Option.ne_none_iff_exists'.1 hb
      obtain ⟨e1, e2⟩ := hsp.own1 b o (by rw [← nown]; exact ho)
      exact ⟨by rw [e1]; simp, e2⟩
    have oc1 : ∀ b, kn.oc b ≠ none → (G.K (i + 1)).oc b ≠ none ∧ kt.oc b = none := fun b hb => by
      obtain ⟨o, ho⟩ := Option.ne_none_iff_exists'.1 hb
      obtain ⟨e1, e2⟩ := hsp.oc1 b o (by rw [← noc]; exact ho)
      exact ⟨by rw [e1]; simp, e2⟩
    have ownt : ∀ b, kt.own b ≠ none → (G.K (i + 1)).own b ≠ none := fun b hb => by
      obtain ⟨o, ho⟩ := Option.ne_none_iff_exists'.1 hb
      rw [hsp.ownt b o ho]; simp
    have oct : ∀ b, kt.oc b ≠ none → (G.K (i + 1)).oc b ≠ none := fun b hb => by
      obtain ⟨o, ho⟩ := Option.ne_none_iff_exists'.1 hb
      rw [hsp.oct b o ho]; simp
    have hrun' := GKR.running hy.stopW hG
    have hwk : wakesB P x g' = true := by
      unfold wakesB
      rw [ha.wakes, hq.wakes, hrun']
      rfl
    have hdf0 : Deaf t i = 0 := by rw [h.deafW i hi hi', hd]; exact hq.deaf
    obtain ⟨c1, c2, c3⟩ := close_at (t := t) (c := X.ex (i0 + 1)) (i := i) x.frame.fn x.frame.place hdf0
    have hsy := close_sync (i := i) (c := X.ex (i0 + 1)) x.frame.fn x.frame.place
    have hfit := h.hp.ufitS hspc hsy
    have hsk := hrn.skx i hat (i0 + 1) hTn
    have hnr : ∀ op ∈ MemOp.ofEvents i x.frame.fn x.frame.place (closeEvents (X.ex (i0 + 1))), op.act ≠ .mark (.release (stA G.wg)) := fun op ho e => by
      rw [ofEvents_eq] at ho
      simp [closeEvents] at ho
      rcases ho with rfl | rfl <;> simp [MemAct.ofEvent] at e
    obtain ⟨U, hU⟩ : ∃ U, U = MemOp.ofEvents i x.frame.fn x.frame.place (closeEvents (X.ex (i0 + 1))) := ⟨_, rfl⟩
    rw [← hU] at c1 c2 c3 hsy hfit hnr
    have covK : ∀ p Q Q', Cov t Q (G.K p) → (∀ j, Q j → Q' j) → Cov (t ++ U) Q' (G.K p) := fun p Q Q' hc hQ => Cov.appS h.hp hspc hsy hc hQ
    have K0 : ∀ {p}, (G.turn2 i kn kt (t.size + 1) G.RO G.Sp G.wg (9, f (kn, g'), 0) (newpk P x g' w')).K p = if p = 0 then kt else if p = i + 1 then kn else G.K p := fun {p} => by
      show upd (upd G.K (i + 1) kn) 0 kt p = _
      unfold upd
      rfl
    have hH : HInv (G.turn2 i kn kt (t.size + 1) G.RO G.Sp G.wg (9, f (kn, g'), 0) (newpk P x g' w')).K G.RO G.Sp n0 w := by
      refine h.hp.redist (fun p b o ho => ?_) (fun p b o ho => ?_) (fun p b o ho => ?_) (fun p p' b hpp hb => ?_) (fun p p' b hpp hb => ?_)
      · rw [K0] at ho
        split at ho
        · exact ⟨_, hsp.ownt b o ho⟩
        · split at ho
          · rw [nown] at ho; exact ⟨_, (hsp.own1 b o ho).1⟩
          · exact ⟨p, ho⟩
      · rw [K0] at ho
        split at ho
        · exact ⟨_, hsp.oct b o ho⟩
        · split at ho
          · rw [noc] at ho; exact ⟨_, (hsp.oc1 b o ho).1⟩
          · exact ⟨p, ho⟩
      · rw [K0] at ho
        split at ho
        · rw [hsp.rot] at ho; exact h.hp.ro _ _ _ ho
        · split at ho
          · rw [nro] at ho; exact h.hp.ro _ _ _ ho
          · exact h.hp.ro _ _ _ ho
      · rw [K0] at hb ⊢
        by_cases e0 : p' = 0
        · rw [if_pos e0]
          rw [if_neg (fun e => hpp (e.trans e0.symm))] at hb
          by_cases e2 : p = i + 1
          · rw [if_pos e2] at hb; exact (own1 b hb).2
          · rw [if_neg e2] at hb
            cases e3 : kt.own b with
            | none => rfl
            | some o => exact absurd (h.hp.oo p (i + 1) b e2 hb) (ownt b (by rw [e3]; simp))
        · rw [if_neg e0]
          by_cases e1 : p = 0
          · rw [if_pos e1] at hb
            by_cases e2 : p' = i + 1
            · rw [if_pos e2]
              cases e3 : kn.own b with
              | none => rfl
              | some o => exact absurd (own1 b (by rw [e3]; simp)).2 hb
            · rw [if_neg e2]; exact h.hp.oo (i + 1) p' b (fun e => e2 e.symm) (ownt b hb)
          · rw [if_neg e1] at hb
            by_cases e2 : p' = i + 1
            · rw [if_pos e2]
              rw [if_neg (fun e => hpp (e.trans e2.symm))] at hb
              cases e3 : kn.own b with
              | none => rfl
              | some o => exact absurd (h.hp.oo p (i + 1) b (fun e => hpp (e.trans e2.symm)) hb) (own1 b (by rw [e3]; simp)).1
            · rw [if_neg e2]
              by_cases e3 : p = i + 1
              · rw [if_pos e3] at hb; exact h.hp.oo (i + 1) p' b (fun e => e2 e.symm) (own1 b hb).1
              · rw [if_neg e3] at hb; exact h.hp.oo p p' b hpp hb
      · rw [K0] at hb ⊢
        by_cases e0 : p' = 0
        · rw [if_pos e0]
          rw [if_neg (fun e => hpp (e.trans e0.symm))] at hb
          by_cases e2 : p = i + 1
          · rw [if_pos e2] at hb; exact (oc1 b hb).2
          · rw [if_neg e2] at hb
            cases e3 : kt.oc b with
            | none => rfl
            | some o => exact absurd (h.hp.cc p (i + 1) b e2 hb) (oct b (by rw [e3]; simp))
        · rw [if_neg e0]
          by_cases e1 : p = 0
          · rw [if_pos e1] at hb
            by_cases e2 : p' = i + 1
            · rw [if_pos e2]
              cases e3 : kn.oc b with
              | none => rfl
              | some o => exact absurd (oc1 b (by rw [e3]; simp)).2 hb
            · rw [if_neg e2]; exact h.hp.cc (i + 1) p' b (fun e => e2 e.symm) (oct b hb)
          · rw [if_neg e1] at hb
            by_cases e2 : p' = i + 1
            · rw [if_pos e2]
              rw [if_neg (fun e => hpp (e.trans e2.symm))] at hb
              cases e3 : kn.oc b with
              | none => rfl
              | some o => exact absurd (h.hp.cc p (i + 1) b (fun e => hpp (e.trans e2.symm)) hb) (oc1 b (by rw [e3]; simp)).1
            · rw [if_neg e2]
              by_cases e3 : p = i + 1
              · rw [if_pos e3] at hb; exact h.hp.cc (i + 1) p' b (fun e => e2 e.symm) (oc1 b hb).1
              · rw [if_neg e3] at hb; exact h.hp.cc p p' b hpp hb
    have clo : ∀ c, c ≠ X.ex (i0 + 1) → closedAt w' c = closedAt w c := fun c hc => closedAt_same (wne c hc)
    have hok : GoOk P W n0 w0 gs w w' t U G (G.turn2 i kn kt (t.size + 1) G.RO G.Sp G.wg (9, f (kn, g'), 0) (newpk P x g' w')) i (newpk P x g' w') := by
      refine ⟨hH.world _ hspc wsz wne, h.tb.app hi' (by rw [wsz]; exact Nat.le_refl _) (by rw [wsz]; exact hfit) (sync_knows hsk (fun e => by omega) hsy), fun j => ?_, ?_, hsy.g, fun j hj => Gho.turn2_oth hj, fun j hj h1 h2 h3 h4 => ⟨rfl, wgLive_same (wne _ ?_)⟩, h.hp.rel0S hspc wne, fun a v hv => hv, fun j h1 h2 c hc => ?_, ?_, wos.1.trans h.os, wos.2.1.trans h.tape, wos.2.2.trans h.output, fun b hb => (wne b (by omega)).trans (h.old b hb)⟩
      · by_cases e : j = i
        · subst e
          rw [Gho.turn2_K]
          exact (covK _ _ _ (h.cov j) fun c hc => hc.app _).less (fun b hb => (own1 b hb).1) (fun b hb => (oc1 b hb).1) (fun b hb => by rw [nro] at hb; exact hb)
        · rw [(Gho.turn2_oth e).1]; exact covK _ _ _ (h.cov j) fun c hc => hc.app _
      · rw [Gho.turn2_K0]
        exact (covK _ _ _ (h.cov i) c3).less ownt oct (fun b hb => by rw [hsp.rot] at hb; exact hb)
      · intro e
        obtain ⟨_, st, sm, e2⟩ := h.ph.groupSp (j := j) h1 h2 h3 h4
        have e2 : w.heap[G.wg]? = some (wgBlock W.wgT st sm) := e2
        rw [e, hhp] at e2; cases e2
      · by_cases e : j = i
        · subst e; rw [Gho.turn2_pk] at hc; cases hc
        · rw [(Gho.turn2_oth e).2.2.1] at hc
          obtain ⟨e1, e2⟩ := newpk_some hc
          exact e2 hwk
      · have hV := h.ph
        have hg : Gr (G.view gs.size w t) U := Gr.of hfit (show (G.view gs.size w t).sg i = 9 from h9) hnr
        -- first the trace grows, then the token passes
        have pkk : ∀ a, G.pk a = G.pk a ∨ (G.pk a = some none ∧ G.pk a = none) := fun a => .inl rfl
        have hr1 : Rnd W ((G.view gs.size w t).next G.RO G.pk (fun b => w.heap[b]?) U) X first i0 s := hrn.gr hg (fun a v hv => hv) fun j hj => rfl
        have hl1 : LR W ((G.view gs.size w t).next G.RO G.pk (fun b => w.heap[b]?) U) X q wg m b first s := hl.gr hg pkk fun x hx => rfl
        obtain ⟨_, _, _, _, hfin⟩ := Phase.closeW hr1 hl1 (i := i) (left := left) (j := i0) hat e1
        have hpub : PubAt W G.RO (t ++ U) X (i0 + 1) := ⟨t.size + 1, (G.K (i + 1)).ro, c1, hq.pub, fun a v hv => h.hp.ro _ a v hv, fun a ha => (covK _ _ _ (h.cov i) c3).ro a ha⟩
        have hfin := hfin kt (t.size + 1) (fun b => w'.heap[b]?) hq.tok c1 c2 hpub (fun x hx => wne x hx) wsm
        have hfin := hfin.park (fun j => if j = i then none else newpk P x g' w' (G.pk j)) (fun X2 q2 wg2 m2 s2 b2 hg2 h0 a ha1 ha2 => ?_) (fun h0 _ _ => by
          have h0 : G.pk 0 = none := h0
          show (if 0 = i then none else newpk P x g' w' (G.pk 0)) = none
          rw [h0]; split <;> rfl)
        · rw [Gho.turn2_view (w := w) (t := t) (lv := (G.K 1).live) h9 rfl ⟨fun e => by omega, fun _ => rfl⟩, ng]
          exact hfin
        · have i0' : (0 : Nat) ≠ i := by omega
          rw [if_neg i0'] at h0
          have h0' := (newpk_some h0).1
          intro e
          split at e
          · cases e
          · have e' := (newpk_some e).1
            have hg3 : (G.view gs.size w t).gh 0 = .par X2 q2 wg2 m2 s2 b2 := by
              have : upd (G.view gs.size w t).gh i (.wk X q wg left .idle) 0 = .par X2 q2 wg2 m2 s2 b2 := hg2
              rwa [upd_ne _ _ i0'] at this
            obtain ⟨rfl, rfl, rfl, rfl, rfl, rfl, _, hpar⟩ := hl.ofPar hg3
            rcases Nat.lt_or_ge a first with hlt | hge
            · have h1 := (hrn.gone a ha1 hlt).1
              obtain ⟨y, hy', hs'⟩ := h.wk a ha1 ha2
              have := hs'.nine (by rw [e']; simp)
              have h1' : (G.rk a).1 = 1 := h1
              omega
            · exact hpar.one h0' a hge ha2 e'
    rw [hU] at hok
    refine h.goneW (G' := G.turn2 i kn kt (t.size + 1) G.RO G.Sp G.wg (9, f (kn, g'), 0) (newpk P x g' w')) hi hx hgo hok ?_ ?_ ?_ ?_
    · rw [Gho.turn2_K, Gho.turn2_rk, Gho.turn2_pk, Gho.turn2_dd]
      exact .run hG (.refl hrun')
    · rw [Deaf_own, h.deafW i hi hi', hd, Gho.turn2_dd, nd]
      simp [deafBehind, closeEvents]
    · rw [Gho.turn2_K, nl]; exact h.live i hi
    · rw [Gho.turn2_rk, hr]; exact Rank.child
end
end Go.Proofs.Ytacfhfeegalmlaa

/- THE MACHINE's INVARIANT: the queue. -/
namespace Go.Proofs.Ytacfhfeegalmlaa
open Go.Conc
open Go.ConcR (KK wgBlock WgAt stA smA rd wr mk DC0 g_of_ofEvents)
open Go.ConcN (upd upd_same upd_ne WgLive RelBy sumTo sumTo_congr sumTo_upd le_sumTo sumTo_le get_map_set get_map_set_same)
set_option linter.unusedVariables false
set_option linter.unusedSimpArgs false

theorem parked_inj {g g2 : Goroutine} {cs cs2 : Array CommCase} {sh sh2 : CommShape} (h : parked g cs sh = parked g2 cs2 sh2) : (∀ v, Go.Conc.served g v = Go.Conc.served g2 v) ∧ cs = cs2 ∧ sh = sh2 := by
  obtain ⟨a1, a2, a3, a4, a5⟩ := g
  obtain ⟨b1, b2, b3, b4, b5⟩ := g2
  simp only [parked, Goroutine.mk.injEq, Option.some.injEq, Prod.mk.injEq, true_and] at h
  obtain ⟨rfl, rfl, rfl, rfl, rfl⟩ := h
  exact ⟨fun v => rfl, rfl, rfl⟩
/-- Operations of a communication. -/
structure CommU (N : Nat) (u : Trace) : Prop where
  mute : ∀ op ∈ u, op.act.touch? = none
  g : ∀ op ∈ u, op.g < N
  rel : ∀ op ∈ u, ∀ a, op.act ≠ .mark (.release a)
  cl : ∀ op ∈ u, ∀ c, op.act ≠ .close c
  deaf : ∀ op ∈ u, op.act ≠ .mark .disable ∧ op.act ≠ .mark .enable
section
variable {P : Program} {W : Who} {StopM StopW : Kn → Goroutine → Prop} {w0 : World} {n0 : Nat} {gs gs' : Array Goroutine} {w w' : World} {t u : Trace} {G G' : Gho} {i j : Nat} {x g g' : Goroutine} {es : Array Event} {k' k0 : Kn} {pos wg' : Nat} {RO' : Addr → Option Value} {Sp' : Nat → Prop} {r' : Rank} {np : Pk → Pk} {sl : Option (Nat × Nat)} {p : Pk} {f : Kn × Goroutine → Tree}
/-- Who waits at the queue. -/
theorem Inv.atQ (h : Inv P W StopM StopW w0 n0 gs w t G) (hj : 1 ≤ j) (hj' : j < gs.size) {X : RunC} {q wg m b first T s : Nat} (hrn : Rnd W (G.view gs.size w t) X first T s) (hl : LR W (G.view gs.size w t) X q wg m b first s) (hc : G.pk j = some (some q)) :
    ∃ (hh : Kn × Goroutine → Tree) (g : Goroutine) (left : Nat) (z : Value), G.rk j = (9, .mk hh, 0) ∧ RecvQF P (W.as false) (Ch P (W.as false) StopW hh) (G.K (j + 1)) g X q wg left z ∧ gs[j]? = some (Go.Conc.parked g #[rcase q z] (.recv true)) ∧ G.dd j = (G.K (j + 1)).deaf ∧ (G.view gs.size w t).at first j := by
  obtain ⟨y, hy, hs⟩ := h.wk j hj hj'
  have h9 := hs.nine (by rw [hc]; simp)
  have hf : first ≤ j := by
    rcases Nat.lt_or_ge j first with hlt | hge
    · have h1 : (G.rk j).1 = 1 := (hrn.gone j hj hlt).1
      omega
    · exact hge
  have hat : (G.view gs.size w t).at first j := ⟨hf, hj', h9⟩
  have ex : ∀ X' q' wg' left jj i0, (G.view gs.size w t).gh j = .wk X' q' wg' left (.job i0 false) → jj ≤ i0 → X'.ex jj = q → False := fun X' q' wg' left jj i0 hg hle e => by
    obtain ⟨rfl, rfl, rfl⟩ := hl.inj hat hg
    have := hrn.jobs j hat i0 (by rw [hg]; rfl)
    have := hrn.sn
    exact hrn.q_ne hl ⟨jj, by omega, e.symm⟩ (by omega)
  generalize hrk : G.rk j = r at hs
  generalize hpp : G.pk j = p at hs
  generalize hdd : G.dd j = d at hs
  rw [hc] at hpp
  cases hs with
  | run => cases hpp
  | pkE hq e => cases hpp; exact (ex _ _ _ _ _ _ hq.gh hq.le rfl).elim
  | pkT hq e => cases hpp; exact (ex _ _ _ _ _ _ hq.gh (Nat.le_refl _) rfl).elim
  | pkQ hq e =>
    cases hpp
    obtain ⟨rfl, _, rfl⟩ := hl.inj hat (show (G.view gs.size w t).gh j = _ from hq.gh)
    subst e
    exact ⟨_, _, _, _, rfl, hq, hy, rfl, hat⟩
  | dn => cases hpp
  | qt => cases hpp
/-- THEY MEET. -/
theorem Inv.meet (hy : Hyp P W StopM StopW) (h : Inv P W StopM StopW w0 n0 gs w t G) (hj : 1 ≤ j) (hj' : j < gs.size) {X : RunC} {q wg m b first T s : Nat} (hrn : Rnd W (G.view gs.size w t) X first T s) (hl : LR W (G.view gs.size w t) X q wg m b first s)
    {h0 hw : Kn × Goroutine → Tree} {g0 gj : Goroutine} {left : Nat} {z0 zj : Value} (hr0 : G.rk 0 = (9, .mk h0, 0)) (hrj : G.rk j = (9, .mk hw, 0)) (hq0 : SendQF P (W.as true) (Ch P (W.as true) StopM h0) (G.K 1) g0 X q wg m s b z0) (hqj : RecvQF P (W.as false) (Ch P (W.as false) StopW hw) (G.K (j + 1)) gj X q wg left zj)
    (hdj : G.dd j = (G.K (j + 1)).deaf) (hat : (G.view gs.size w t).at first j) (hsz : gs'.size = gs.size) (hg0 : gs'[0]? = some (Go.Conc.served g0 undef)) (hgj : gs'[j]? = some (Go.Conc.served gj (.tuple #[.int .i64 s, .bool true]))) (hgo : ∀ a, a ≠ 0 → a ≠ j → gs'[a]? = gs[a]?)
    (hu : CommU gs.size u) (hws : w'.heap.size = w.heap.size) (hwq : w'.heap[q]? = some (.chan 0 #[] false (s + 1) (s + 1) false)) (hwo : ∀ x, x ≠ q → w'.heap[x]? = w.heap[x]?) (hos : w'.os = w.os) (htp : w'.tape = w.tape) (hot : w'.output = w.output) :
    ∃ G', Inv P W StopM StopW w0 n0 gs' w' (t ++ u) G' ∧ Mu.Lt (mu G' gs'.size) (mu G gs.size) := by
  have hg0' : (G.view gs.size w t).gh 0 = .par X q wg m s b := hq0.gh
  obtain ⟨_, _, _, _, _, _, hlv, hpar⟩ := hl.ofPar hg0'
  have hspq : G.Sp q := hpar.spq
  have hqx := hpar.qx
  have hcq : w.heap[q]? = some (.chan 0 #[] false s s false) := hpar.hq
  have hg : Gr (G.view gs.size w t) u := Gr.mute hu.mute (fun op ho => hu.rel op ho _) fun op ho _ c => hu.cl op ho c
  have hr1 : Rnd W ((G.view gs.size w t).next G.RO G.pk (fun b => w.heap[b]?) u) X first T s := hrn.gr hg (fun a v hv => hv) fun j hj => rfl
  have hl1 : LR W ((G.view gs.size w t).next G.RO G.pk (fun b => w.heap[b]?) u) X q wg m b first s := hl.gr hg (fun a => .inl rfl) fun x hx => rfl
  obtain ⟨l, rfl, hfin⟩ := Phase.meet hr1 hl1 (i := j) hg0' hat hqj.gh hq0.lt
  obtain ⟨km, hkm⟩ : ∃ km : Kn, km = { G.K 1 with gh := .par X q wg m (s + 1) b } := ⟨_, rfl⟩
  obtain ⟨kw, hkw⟩ : ∃ kw : Kn, kw = { G.K (j + 1) with gh := .wk X q wg l (.job s false) } := ⟨_, rfl⟩
  have hGm := hq0.next
  have hGw := hqj.next s l hq0.lt rfl
  rw [← hkm] at hGm
  rw [← hkw] at hGw
  have m1 : km.own = (G.K 1).own ∧ km.oc = (G.K 1).oc ∧ km.ro = (G.K 1).ro ∧ km.deaf = (G.K 1).deaf ∧ km.live = (G.K 1).live ∧ km.gh = .par X q wg m (s + 1) b := by rw [hkm]; exact ⟨rfl, rfl, rfl, rfl, rfl, rfl⟩
  have m2 : kw.own = (G.K (j + 1)).own ∧ kw.oc = (G.K (j + 1)).oc ∧ kw.ro = (G.K (j + 1)).ro ∧ kw.deaf = (G.K (j + 1)).deaf ∧ kw.live = (G.K (j + 1)).live ∧ kw.gh = .wk X q wg l (.job s false) := by rw [hkw]; exact ⟨rfl, rfl, rfl, rfl, rfl, rfl⟩
  clear hkm hkw
  obtain ⟨m11, m12, m13, m14, m15, m16⟩ := m1
  obtain ⟨m21, m22, m23, m24, m25, m26⟩ := m2
  have h01 : (0 : Nat) ≠ j := by omega
  have hv1 := h.hp.view 1 (k' := km) (fun b o ho => by rw [m11] at ho; exact ho) (fun b o ho => by rw [m12] at ho; exact ho) (fun b o ho => by rw [m13] at ho; exact h.hp.ro _ _ _ ho)
  have e1 : upd G.K 1 km (j + 1) = G.K (j + 1) := upd_ne _ _ (by omega)
  have hv2 := hv1.view (j + 1) (k' := kw) (fun b o ho => by rw [e1, ← m21]; exact ho) (fun b o ho => by rw [e1, ← m22]; exact ho) (fun b o ho => by rw [m23] at ho; exact h.hp.ro _ _ _ ho)
  have hv3 := hv2.world q hspq hws hwo
  let G2 : Gho := { G with K := upd (upd G.K 1 km) (j + 1) kw, rk := upd (upd G.rk 0 (9, h0 (km, Go.Conc.served g0 undef), 0)) j (9, hw (kw, Go.Conc.served gj (.tuple #[.int .i64 s, .bool true])), 0), pk := upd (upd G.pk 0 none) j none }
  have K1 : G2.K 1 = km := by show upd (upd G.K 1 km) (j + 1) kw 1 = km; rw [upd_ne _ _ (by omega), upd_same]
  have Kj : G2.K (j + 1) = kw := upd_same _ _ _
  have Ke : ∀ a, a ≠ 1 → a ≠ j + 1 → G2.K a = G.K a := fun a h1 h2 => by show upd (upd G.K 1 km) (j + 1) kw a = _; rw [upd_ne _ _ h2, upd_ne _ _ h1]
  have R0 : G2.rk 0 = (9, h0 (km, Go.Conc.served g0 undef), 0) := by show upd (upd G.rk 0 _) j _ 0 = _; rw [upd_ne _ _ h01, upd_same]
  have Rj : G2.rk j = (9, hw (kw, Go.Conc.served gj (.tuple #[.int .i64 s, .bool true])), 0) := upd_same _ _ _
  have Re : ∀ a, a ≠ 0 → a ≠ j → G2.rk a = G.rk a := fun a h1 h2 => by show upd (upd G.rk 0 _) j _ a = _; rw [upd_ne _ _ h2, upd_ne _ _ h1]
  have P0 : G2.pk 0 = none := by show upd (upd G.pk 0 none) j none 0 = _; rw [upd_ne _ _ h01, upd_same]
  have Pj : G2.pk j = none := upd_same _ _ _
  have Pe : ∀ a, a ≠ 0 → a ≠ j → G2.pk a = G.pk a := fun a h1 h2 => by show upd (upd G.pk 0 none) j none a = _; rw [upd_ne _ _ h2, upd_ne _ _ h1]
  have hwg : ∀ a, 1 ≤ a → a < gs.size → 2 ≤ (G.rk a).1 → (G.rk a).1 ≤ 7 → G.wg ≠ q := fun a h1 h2 h3 h4 e => by
    obtain ⟨_, st, sm, e2⟩ := h.ph.groupSp (j := a) h1 h2 h3 h4
    have e2 : w.heap[G.wg]? = some (wgBlock W.wgT st sm) := e2
    rw [e, hcq] at e2; cases e2
  have hI : Inv P W StopM StopW w0 n0 gs' w' (t ++ u) G2 := by
    refine ⟨by rw [hsz]; exact h.N1, hv3, by rw [hsz]; exact h.tb.mute hu.mute hu.g (by rw [hws]; exact Nat.le_refl _), fun a => ?_, ?_, ?_, fun a h1 h2 => ?_, ?_, fun a h1 h2 => ?_, fun a h1 => ?_, fun a h1 => ?_, fun a h1 h2 c hc => ?_, fun a h1 => ?_, ?_, hos.trans h.os, htp.trans h.tape, hot.trans h.output, fun b hb => (hwo b (fun e => ?_)).trans (h.old b hb)⟩
    · by_cases e : a = 0
      · subst e
        rw [K1]
        have c : Cov (t ++ u) (Knows (t ++ u) 0) (G.K 1) := (h.cov 0).mute hu.mute fun c hc => hc.app _
        exact c.less (fun b hb => by rw [m11] at hb; exact hb) (fun b hb => by rw [m12] at hb; exact hb) (fun b hb => by rw [m13] at hb; exact hb)
      · by_cases e' : a = j
        · subst e'
          rw [Kj]
          have c : Cov (t ++ u) (Knows (t ++ u) a) (G.K (a + 1)) := (h.cov a).mute hu.mute fun c hc => hc.app _
          exact c.less (fun b hb => by rw [m21] at hb; exact hb) (fun b hb => by rw [m22] at hb; exact hb) (fun b hb => by rw [m23] at hb; exact hb)
        · rw [Ke (a + 1) (by omega) (by omega)]
          exact (h.cov a).mute hu.mute fun c hc => hc.app _
    · rw [Ke 0 (by omega) (by omega)]
      exact h.cov0.mute hu.mute fun c hc => hc.app _
    · exact ⟨_, hg0, by rw [K1, R0, P0]; exact .run hGm (.refl (GKR.running hy.stopM hGm))⟩
    · rw [hsz] at h2
      by_cases e' : a = j
      · subst e'
        refine ⟨_, hgj, ?_⟩
        rw [Kj, Rj, Pj, show G2.dd a = kw.deaf from hdj.trans m24.symm]
        exact .run hGw (.refl (GKR.running hy.stopW hGw))
      · obtain ⟨y, hy', hs⟩ := h.wk a h1 h2
        refine ⟨y, (hgo a (by omega) e').trans hy', ?_⟩
        rw [Ke (a + 1) (by omega) (by omega), Re a (by omega) e', Pe a (by omega) e']
        exact hs.rely (h.hp.rel0S hspq hwo) (fun h3 h4 => wgLive_same (hwo _ (hwg a h1 h2 h3 h4))) fun _ _ hv => hv
    · rw [Go.ConcN.Deaf_still t 0 u hu.deaf, h.deaf0, K1, m14]
    · rw [hsz] at h2
      rw [Go.ConcN.Deaf_still t a u hu.deaf, h.deafW a h1 h2]
    · by_cases e' : a = j
      · subst e'; rw [Kj, m25]; exact h.live a h1
      · rw [Ke (a + 1) (by omega) (by omega)]; exact h.live a h1
    · rw [hsz] at h1
      rw [Ke (a + 1) (by have := h.N1; omega) (by omega)]; exact h.out a h1
    · rw [hsz] at h2
      by_cases e' : a = j
      · subst e'; rw [Pj] at hc; cases hc
      · rw [Pe a (by omega) e'] at hc
        by_cases ec : c = q
        · subst ec; unfold closedAt; rw [hwq]
        · rw [closedAt_same (hwo c ec)]; exact h.opn a h1 h2 c hc
    · rw [hsz] at h1
      rw [Pe a (by have := h.N1; omega) (by omega)]; exact h.pko a h1
    · rw [hsz]
      have hF := hfin G2.pk (fun b => w'.heap[b]?) (fun x hx => hwo x hx) hwq P0
      have : G2.view gs.size w' (t ++ u) = { ((G.view gs.size w t).next G.RO G.pk (fun b => w.heap[b]?) u) with gh := upd (upd ((G.view gs.size w t).next G.RO G.pk (fun b => w.heap[b]?) u).gh j (.wk X q wg l (.job s false))) 0 (.par X q wg m (s + 1) b), hp := fun b => w'.heap[b]?, pk := G2.pk } := by
        refine View.eq_of (fun a => ?_) ?_ ?_ rfl rfl rfl rfl (fun a => ?_) (fun _ => rfl) rfl (fun _ => rfl) rfl
        · show (G2.K (a + 1)).gh = upd (upd (fun i => (G.K (i + 1)).gh) j (.wk X q wg l (.job s false))) 0 (.par X q wg m (s + 1) b) a
          by_cases e : a = 0
          · subst e; rw [K1, upd_same, m16]
          · rw [upd_ne _ _ e]
            by_cases e' : a = j
            · subst e'; rw [Kj, upd_same, m26]
            · rw [upd_ne _ _ e', Ke (a + 1) (by omega) (by omega)]
        · show (G2.K 1).live = (G.K 1).live
          rw [K1, m15]
        · show G2.K 0 = G.K 0
          exact Ke 0 (by omega) (by omega)
        · show (G2.rk a).1 = (G.rk a).1
          by_cases e : a = 0
          · subst e; rw [R0, hr0]
          · by_cases e' : a = j
            · subst e'; rw [Rj, hrj]
            · rw [Re a e e']
      rw [this]
      exact hF
    · subst e
      have := (h.hp.sp b hspq).2.1
      omega
  refine ⟨G2, hI, ?_⟩
  rw [hsz]
  refine mu_lt ?_ (fun a ha => ?_) (i := 0) (by omega) (by rw [R0, hr0]; exact Rank.child)
  · rw [K1, m16]
    have : (G.K 1).gh = .par X q wg m s b := hq0.gh
    rw [this]; rfl
  · by_cases e : a = 0
    · subst e; exact .inr (by rw [R0, hr0]; exact Rank.child)
    · by_cases e' : a = j
      · subst e'; exact .inr (by rw [Rj, hrj]; exact Rank.child)
      · exact .inl (Re a e e')
end
end Go.Proofs.Ytacfhfeegalmlaa

/- THE MACHINE's INVARIANT: receiving from the queue, sending to it. -/
namespace Go.Proofs.Ytacfhfeegalmlaa
open Go.Conc
open Go.ConcR (KK wgBlock WgAt stA smA rd wr mk DC0 g_of_ofEvents)
open Go.ConcN (upd upd_same upd_ne WgLive RelBy sumTo sumTo_congr sumTo_upd le_sumTo sumTo_le get_map_set get_map_set_same)
set_option linter.unusedVariables false
set_option linter.unusedSimpArgs false
section
variable {P : Program} {W : Who} {StopM StopW : Kn → Goroutine → Prop} {w0 : World} {n0 : Nat} {gs gs' : Array Goroutine} {w w' : World} {t u : Trace} {G G' : Gho} {i j : Nat} {x g g' : Goroutine} {es : Array Event} {k' k0 : Kn} {pos wg' : Nat} {RO' : Addr → Option Value} {Sp' : Nat → Prop} {r' : Rank} {np : Pk → Pk} {sl : Option (Nat × Nat)} {p : Pk} {f : Kn × Goroutine → Tree}
theorem commU4 {N a b c k r cap : Nat} {fa fb fc fd : FuncId} {pa pb pc pd : String} (ha : a < N) (hb : b < N) : CommU N #[({ g := a, fn := fa, pos := pa, act := .send c k } : MemOp), { g := b, fn := fb, pos := pb, act := .recv c r cap }, { g := a, fn := fc, pos := pc, act := .sendDone c k }, { g := b, fn := fd, pos := pd, act := .recvDone c r }] := by
  have key : ∀ op ∈ (#[({ g := a, fn := fa, pos := pa, act := .send c k } : MemOp), { g := b, fn := fb, pos := pb, act := .recv c r cap }, { g := a, fn := fc, pos := pc, act := .sendDone c k }, { g := b, fn := fd, pos := pd, act := .recvDone c r }] : Trace), op.act.touch? = none ∧ op.g < N ∧ (∀ a, op.act ≠ .mark (.release a)) ∧ (∀ c, op.act ≠ .close c) ∧ op.act ≠ .mark .disable ∧ op.act ≠ .mark .enable := by
    intro op ho
    simp only [List.mem_toArray, List.mem_cons, List.not_mem_nil, or_false] at ho
    rcases ho with rfl | rfl | rfl | rfl
    · exact ⟨rfl, ha, by simp, by simp, by simp, by simp⟩
    · exact ⟨rfl, hb, by simp, by simp, by simp, by simp⟩
    · exact ⟨rfl, ha, by simp, by simp, by simp, by simp⟩
    · exact ⟨rfl, hb, by simp, by simp, by simp, by simp⟩
  exact ⟨fun op h => (key op h).1, fun op h => (key op h).2.1, fun op h => (key op h).2.2.1, fun op h => (key op h).2.2.2.1, fun op h => (key op h).2.2.2.2⟩
/-- A WORKER RECEIVES. -/
theorem Inv.wRecvQ (hy : Hyp P W StopM StopW) (h : Inv P W StopM StopW w0 n0 gs w t G) (hi : 1 ≤ i) (hx : gs[i]? = some x) (ha : Act' x g) (hr : G.rk i = (9, .mk f, 0)) (hp : G.pk i = none) (hd : G.dd i = (G.K (i + 1)).deaf)
    {X : RunC} {q wg left : Nat} {z : Value} (hq : RecvQF P (W.as false) (Ch P (W.as false) StopW f) (G.K (i + 1)) g X q wg left z) : NextOk P W StopM StopW w0 n0 (crowd gs w sl) t (mu G gs.size) i := by
  have hi' := (Array.getElem?_eq_some_iff.1 hx).1
  have h9 : (G.rk i).1 = 9 := by rw [hr]
  obtain ⟨X', q', wg', m, b, first, T, s, hrn, hl, hat⟩ := h.round hi hi' h9
  obtain ⟨rfl, rfl, rfl⟩ := hl.inj hat (show (G.view gs.size w t).gh i = _ from hq.gh)
  have hcomm : stepG P (i == 0) x w = .comm g #[rcase q z] true (.recv true) w #[] := by
    rw [show (i == 0) = false by simp; omega, ha.step]
    exact hq.comm w (h.satW hi)
  cases hl with
  | par a1 a2 a3 =>
    have hl : LR W (G.view gs.size w t) X q wg m b first s := .par a1 a2 a3
    have hcq : w.heap[q]? = some (.chan 0 #[] false s s false) := a3.hq
    by_cases hm : G.pk 0 = some (some q)
    · -- THE MAIN ONE WAITS THERE
      obtain ⟨h0, g0, X2, wg2, m2, s2, b2, z2, e1, hq0, e3, e4⟩ := h.oneSend hi hm
      obtain ⟨rfl, _, rfl, rfl, rfl, rfl, _, _⟩ := hl.ofPar (show (G.view gs.size w t).gh 0 = _ from hq0.gh)
      have hrun := crowd_recv_meets (sl := sl) hx hcomm hcq (show (0 : Nat) ≠ i by omega) e3 e4
      rw [ofEvents_nil_append] at hrun
      have hsz : ((gs.setIfInBounds 0 (Go.Conc.served g0 undef)).setIfInBounds i (Go.Conc.served g (.tuple #[.int .i64 s2, .bool true]))).size = gs.size := by simp
      have hqlt : q < w.heap.size := (Array.getElem?_eq_some_iff.1 hcq).1
      obtain ⟨G', hI, hlt⟩ := Inv.meet (gs' := (gs.setIfInBounds 0 (Go.Conc.served g0 undef)).setIfInBounds i (Go.Conc.served g (.tuple #[.int .i64 s2, .bool true]))) (w' := w.setChan q 0 #[] false (s2 + 1) (s2 + 1) false)
        hy h hi hi' hrn hl e1 hr hq0 hq hd hat hsz
        (by rw [Array.getElem?_setIfInBounds_ne (by omega), Array.getElem?_setIfInBounds_self_of_lt h.N1]) (by rw [Array.getElem?_setIfInBounds_self_of_lt (by simpa using hi')])
        (fun a h1 h2 => by rw [Array.getElem?_setIfInBounds_ne (Ne.symm h2), Array.getElem?_setIfInBounds_ne (Ne.symm h1)])
        (commU4 (a := 0) (b := i) (c := q) (k := s2) (r := s2) (cap := 0) (fa := g0.frame.fn) (pa := g0.frame.place) (fb := g.frame.fn) (pb := g.frame.place) (fc := g0.frame.fn) (pc := g0.frame.place) (fd := g.frame.fn) (pd := g.frame.place) h.N1 hi') setChan_size (setChan_same hqlt) (fun x hx => setChan_ne hx) rfl rfl rfl
      exact ⟨_, _, _, hrun, hlt, _, _, sl, G', rfl, hI, rfl⟩
    · -- NOBODY SENDS
      have hns : partners (gs.setIfInBounds i Go.Conc.ph) q true = [] := h.noSend (.inr hm)
      have hrun := crowd_waits (sl := sl) hx hcomm (fun cc hcc => by
        simp only [List.mem_toArray, List.mem_singleton] at hcc
        subst hcc
        exact ways_recv_none hcq hns)
      refine h.parked (p := some q) hi' hp hrun (by simp [MemOp.ofEvents]) (h.park hi' (fun e => by omega) (fun _ => ⟨q, rfl, by unfold closedAt; rw [hcq], ?_⟩) (h.phPark hi fun X2 q2 wg2 m2 s2 b2 hg hpq e => ?_))
      · rw [hr, hd]; exact .pkQ hq rfl
      · obtain ⟨_, rfl, _⟩ := hl.ofPar hg
        exact hm hpq
  | shut p0 pq st sm a0 a1 a2 =>
    subst a0
    have hl : LR W (G.view gs.size w t) X q wg m b first X.n := .shut p0 pq st sm rfl a1 a2
    have n0p : ∀ X q wg m s b, (G.view gs.size w t).gh 0 ≠ .par X q wg m s b := fun X q wg m s b e => by
      have := a2.md
      cases this with
      | opn y => rw [e] at y; cases y
      | reg y => rw [e] at y; cases y
      | last L y => rw [e] at y; cases y
      | sema y => rw [e] at y; cases y
      | fin y => rw [e] at y; cases y
    have hcq : w.heap[q]? = some (.chan 0 #[] true X.n X.n false) := a2.hq
    have hns : partners (gs.setIfInBounds i Go.Conc.ph) q true = [] := h.noSend (.inr fun hc => by
      obtain ⟨X2, wg2, m2, s2, b2, h1, _⟩ := h.mainPk hc
      exact n0p _ _ _ _ _ _ h1)
    have hrun := crowd_recv_closed (sl := sl) hx hcomm hcq hns
    rw [ofEvents_nil_append] at hrun
    have hm := recvClosed_mute (i := i) (c := q) (fn := g.frame.fn) (ps := g.frame.place)
    have hn : ∀ op ∈ (#[({ g := i, fn := g.frame.fn, pos := g.frame.place, act := .recvClosed q } : MemOp)] : Trace), op.act.touch? = none := fun op ho => (hm op ho).1
    have hd0 : Deaf t i = 0 := by rw [h.deafW i hi hi', hd]; exact hq.deaf
    have hG := hq.shut
    obtain ⟨kf, hkf⟩ : ∃ kf : Kn, kf = { G.K (i + 1) with gh := .wkf X q wg } := ⟨_, rfl⟩
    rw [← hkf] at hG
    have f1 : kf.own = (G.K (i + 1)).own ∧ kf.oc = (G.K (i + 1)).oc ∧ kf.ro = (G.K (i + 1)).ro ∧ kf.deaf = (G.K (i + 1)).deaf ∧ kf.live = (G.K (i + 1)).live ∧ kf.gh = .wkf X q wg := by rw [hkf]; exact ⟨rfl, rfl, rfl, rfl, rfl, rfl⟩
    clear hkf
    obtain ⟨f1, f2, f3, f4, f5, f6⟩ := f1
    refine h.servedW (y := Go.Conc.served g (.tuple #[z, .bool false])) hi hi' hrun (h.okView (k' := kf) (r' := (9, f (kf, Go.Conc.served g (.tuple #[z, .bool false])), 0)) (np := id) hi' rfl rfl rfl rfl (fun b o ho => by rw [f1] at ho; exact ho) (fun a v hv => by rw [f2] at hv; exact hv) (fun a v hv => by rw [f3] at hv; exact h.hp.ro _ _ _ hv) hn (fun op ho => (hm op ho).2.1) ?_ (fun h => h) ?_) ?_ ?_ ?_ ?_
    · have c0 : Cov (t ++ #[({ g := i, fn := g.frame.fn, pos := g.frame.place, act := .recvClosed q } : MemOp)]) (Knows (t ++ #[({ g := i, fn := g.frame.fn, pos := g.frame.place, act := .recvClosed q } : MemOp)]) i) (G.K (i + 1)) := (h.cov i).mute hn fun c hc => hc.app _
      exact c0.less (fun b hb => by rw [f1] at hb; exact hb) (fun b hb => by rw [f2] at hb; exact hb) (fun b hb => by rw [f3] at hb; exact hb)
    · have hg : Gr (G.view gs.size w t) #[({ g := i, fn := g.frame.fn, pos := g.frame.place, act := .recvClosed q } : MemOp)] := Gr.mute hn (fun op ho => (hm op ho).2.2.1 _) fun op ho _ c => (hm op ho).2.2.2 c
      have hr1 := hrn.gr (RO' := G.RO) (pk' := G.pk) (hp' := fun b => w.heap[b]?) hg (fun a v hv => hv) fun j hj => rfl
      have hl1 := hl.gr (RO' := G.RO) (pk' := G.pk) (hp' := fun b => w.heap[b]?) hg (fun a => .inl rfl) fun x hx => rfl
      have hsk : SK (t ++ #[({ g := i, fn := g.frame.fn, pos := g.frame.place, act := .recvClosed q } : MemOp)]) (Knows (t ++ #[({ g := i, fn := g.frame.fn, pos := g.frame.place, act := .recvClosed q } : MemOp)]) i) wg :=
        SK.mute (t := t) a2.skp hn fun c hc => knows_closed (t := t) (i := i) (pc := pq) a2.clq (y := { g := i, fn := g.frame.fn, pos := g.frame.place, act := .recvClosed q }) rfl rfl hd0 hc
      have hF := Phase.shutQ hr1 hl1 n0p hat (show (G.K (i + 1)).gh = _ from hq.gh) hsk
      rw [Gho.turn_view (w := w) (t := t) h9 rfl (fun e => by omega), f6]
      have e : ∀ j, (if j = i then none else id (G.pk j)) = G.pk j := fun j => by
        by_cases e : j = i
        · subst e; rw [if_pos rfl, hp]
        · rw [if_neg e]; rfl
      rw [funext e]
      exact hF
    · rw [Gho.turn_K, Gho.turn_rk, Gho.turn_pk, Gho.turn_dd]
      exact .run hG (.refl (GKR.running hy.stopW hG))
    · rw [Go.ConcN.Deaf_still t i _ (fun op ho => ?_), h.deafW i hi hi', hd, Gho.turn_dd, f4]
      simp only [List.mem_toArray, List.mem_singleton] at ho
      subst ho
      exact ⟨by simp, by simp⟩
    · rw [Gho.turn_K, f5]; exact h.live i hi
    · rw [Gho.turn_rk, hr]; exact Rank.child
/-- THE MAIN ONE SENDS. -/
theorem Inv.mSendQ (hy : Hyp P W StopM StopW) (h : Inv P W StopM StopW w0 n0 gs w t G) (hx : gs[0]? = some x) (ha : Act' x g) (hr : G.rk 0 = (9, .mk f, 0)) (hp : G.pk 0 = none)
    {X : RunC} {q wg m s b : Nat} {z : Value} (hq : SendQF P (W.as true) (Ch P (W.as true) StopM f) (G.K 1) g X q wg m s b z) : NextOk P W StopM StopW w0 n0 (crowd gs w sl) t (mu G gs.size) 0 := by
  have hi' := (Array.getElem?_eq_some_iff.1 hx).1
  have hg0 : (G.view gs.size w t).gh 0 = .par X q wg m s b := hq.gh
  obtain ⟨hlv, first, T, hrn, hpar⟩ := h.ph.ofPar hg0
  have hl : LR W (G.view gs.size w t) X q wg m b first s := .par hg0 hlv hpar
  have hcq : w.heap[q]? = some (.chan 0 #[] false s s false) := hpar.hq
  have hcomm : stepG P (0 == 0) x w = .comm g #[scase q (.int .i64 s) z] true .send w #[] := by
    show stepG P true x w = _
    rw [ha.step]
    exact hq.comm w h.sat0
  rcases h.recvs q with ⟨hnil, hnone⟩ | ⟨hne, hall⟩
  · have hrun := crowd_waits (sl := sl) hx hcomm (fun cc hcc => by
      simp only [List.mem_toArray, List.mem_singleton] at hcc
      subst hcc
      exact ways_send_none hcq (by simp) hnil)
    refine h.parked (p := some q) hi' hp hrun (by simp [MemOp.ofEvents]) (h.park hi' (fun _ => ?_) (fun e => by omega) ?_)
    · rw [hr]; exact .send hq rfl
    · refine h.ph.park _ (fun X2 q2 wg2 m2 s2 b2 hg h0 j hj hj' he => ?_) (fun _ ⟨X2, q2, wg2, m2, b2, e⟩ => by rw [hg0] at e; cases e)
      rw [upd_same] at h0
      cases h0
      rw [upd_ne _ _ (by omega)] at he
      exact hnone j hj hj' he
  · obtain ⟨j, gj, zj, shj, d, hj0, hgj, hrun⟩ := crowd_send_meets_some (sl := sl) hx hcomm hcq hne hall
    have hj1 : 1 ≤ j := by omega
    have hj' := (Array.getElem?_eq_some_iff.1 hgj).1
    -- who that is
    obtain ⟨y, hy', hs⟩ := h.wk j hj1 hj'
    rw [hgj] at hy'; cases hy'
    have hpk : G.pk j = some (some q) := by
      rcases hs.offersRecv q with ⟨h1, _⟩ | ⟨h1, _⟩
      · rw [offersAt_parked_recv, if_pos rfl] at h1; cases h1
      · exact h1
    obtain ⟨hw, g2, left, z2, e1, hqj, e3, e4, hat⟩ := h.atQ hj1 hj' hrn hl hpk
    rw [hgj] at e3
    obtain ⟨hsv, _, hsh⟩ := parked_inj (Option.some.inj e3)
    subst hsh
    have hrun := hrun
    rw [ofEvents_nil_append] at hrun
    have esv : gj.finishComm P #[rcase q zj] (.recv true) 0 (.int .i64 s) true = Go.Conc.served g2 (.tuple #[.int .i64 s, .bool true]) := by
      rw [finishComm_recv]
      exact hsv _
    rw [esv] at hrun
    have hqlt : q < w.heap.size := (Array.getElem?_eq_some_iff.1 hcq).1
    have hsz : ((gs.setIfInBounds j (Go.Conc.served g2 (.tuple #[.int .i64 s, .bool true]))).setIfInBounds 0 (Go.Conc.served g undef)).size = gs.size := by simp
    obtain ⟨G', hI, hlt⟩ := Inv.meet (gs' := (gs.setIfInBounds j (Go.Conc.served g2 (.tuple #[.int .i64 s, .bool true]))).setIfInBounds 0 (Go.Conc.served g undef)) (w' := (w.at d).setChan q 0 #[] false (s + 1) (s + 1) false)
      hy h hj1 hj' hrn hl hr e1 hq hqj e4 hat hsz
      (by rw [Array.getElem?_setIfInBounds_self_of_lt (by simpa using hi')]) (by rw [Array.getElem?_setIfInBounds_ne (by omega), Array.getElem?_setIfInBounds_self_of_lt hj'])
      (fun a h1 h2 => by rw [Array.getElem?_setIfInBounds_ne (Ne.symm h1), Array.getElem?_setIfInBounds_ne (Ne.symm h2)])
      (commU4 (a := 0) (b := j) (c := q) (k := s) (r := s) (cap := 0) (fa := g.frame.fn) (pa := g.frame.place) (fb := gj.frame.fn) (pb := gj.frame.place) (fc := g.frame.fn) (pc := g.frame.place) (fd := gj.frame.fn) (pd := gj.frame.place) hi' hj') setChan_size (setChan_same hqlt) (fun x hx => setChan_ne (w := w.at d) hx) rfl rfl rfl
    exact ⟨_, _, _, hrun, hlt, _, _, sl, G', rfl, hI, rfl⟩
end
end Go.Proofs.Ytacfhfeegalmlaa

/- THE MACHINE's INVARIANT: a worker's way out. -/
namespace Go.Proofs.Ytacfhfeegalmlaa
open Go.Conc
open Go.ConcR (KK wgBlock WgAt stA smA rd wr mk DC0 g_of_ofEvents)
open Go.ConcN (upd upd_same upd_ne WgLive RelBy sumTo sumTo_congr sumTo_upd le_sumTo sumTo_le get_map_set get_map_set_same AtR0)
set_option linter.unusedVariables false
set_option linter.unusedSimpArgs false
section
variable {P : Program} {W : Who} {StopM StopW : Kn → Goroutine → Prop} {w0 : World} {n0 : Nat} {gs gs' : Array Goroutine} {w w' : World} {t u : Trace} {G G' : Gho} {i j : Nat} {x g g' : Goroutine} {es : Array Event} {k' k0 : Kn} {pos wg' : Nat} {RO' : Addr → Option Value} {Sp' : Nat → Prop} {r' : Rank} {np : Pk → Pk} {sl : Option (Nat × Nat)} {p : Pk} {f : Kn × Goroutine → Tree}
/-- Whoever steps alike goes alike. -/
theorem goes_act {R : World → World → Prop} {D : World → World → Array Event → Prop} {Stop : Goroutine → World → Prop} {n : Nat} (ha : Act' x g) (hS : ∀ w, Stop g w → Stop x w) (h : Goes P false R D Stop n g w) : Goes P false R D Stop n x w := by
  cases n with
  | zero => exact fun w₁ r => hS _ (h w₁ r)
  | succ n =>
    rcases h with h | ⟨_, h⟩
    · exact .inl fun w₁ r => hS _ (h w₁ r)
    · refine .inr ⟨ha.run, fun w₁ r => ?_⟩
      have := h w₁ r
      rw [ha.step]
      exact this
theorem r0_act {ty : TypeId} {wg m : Nat} {A : Anch} (ha : Act' x g) (h : R0 P ty wg A m g w) : R0 P ty wg A m x w := by
  refine goes_act ha (fun w ⟨_, h2, g', h3, h4⟩ => ⟨ha.run, h2, g', ?_, h4⟩) h
  rw [ha.step]; exact h3
/-- HE COMES TO DONE. -/
theorem Inv.wLeaf (hy : Hyp P W StopM StopW) (h : Inv P W StopM StopW w0 n0 gs w t G) (hi : 1 ≤ i) (hx : gs[i]? = some x) (ha : Act' x g) (hr : G.rk i = (9, .leaf, 0)) (hp : G.pk i = none) (hd : G.dd i = (G.K (i + 1)).deaf)
    (hS : StopW (G.K (i + 1)) g) : ∃ G', Inv P W StopM StopW w0 n0 gs w t G' ∧ Mu.Lt (mu G' gs.size) (mu G gs.size) := by
  have hi' := (Array.getElem?_eq_some_iff.1 hx).1
  have h9 : (G.rk i).1 = 9 := by rw [hr]
  obtain ⟨hdf, X, q, wg, hgh, C1, i1, v1, C2, i2, v2, hne, r1, r2, hR⟩ := hy.done _ _ hS
  obtain ⟨X', q', wg', m, b, first, T, s, hrn, hl, hat⟩ := h.round hi hi' h9
  obtain ⟨rfl, rfl, rfl⟩ := hl.injf hat (show (G.view gs.size w t).gh i = _ from hgh)
  have n0p : ∀ X2 q2 wg2 m2 s2 b2, (G.view gs.size w t).gh 0 ≠ .par X2 q2 wg2 m2 s2 b2 := fun X2 q2 wg2 m2 s2 b2 e => by
    obtain ⟨_, _, _, _, _, _, _, hpar⟩ := hl.ofPar e
    obtain ⟨_, l, st, e2, _⟩ := hpar.wk i hat.1 hat.2.1
    rw [show (G.view gs.size w t).gh i = _ from hgh] at e2; cases e2
  obtain ⟨p0, pq, st, sm, rfl, hlv, hs⟩ := hl.ofIdle n0p
  obtain ⟨a, rfl⟩ : ∃ a, i = first + a := ⟨i - first, by have := hat.1; omega⟩
  have haM : a < m := by have := hat.2.1; have := hs.N; omega
  have hw : w.heap[wg]? = some (wgBlock W.wgT st sm) := hs.hw
  have hewg : G.wg = wg := hs.ewg
  have s1 := h.hp.ro _ _ _ r1
  have s2 := h.hp.ro _ _ _ r2
  have c1 := h.hp.rosat _ _ s1
  have c2 := h.hp.rosat _ _ s2
  obtain ⟨M1, hM1⟩ := exists_void c1
  obtain ⟨M2, hM2⟩ := exists_void c2
  obtain ⟨⟨m1, R1⟩, m2, R2⟩ := hR M1 M2 w ⟨st, sm, hw⟩ c1 c2
  have hds : DS P W.wgT G.wg ⟨C1, i1, M1, v1⟩ ⟨C2, i2, M2, v2⟩ x w 7 (m1 + m2) 0 := by rw [hewg]; exact .r0 hne (r0_act ha R1) (r0_act ha R2)
  let G2 : Gho := { G with K := upd G.K (first + a + 1) Kn.emp, rk := upd G.rk (first + a) (7, .leaf, m1 + m2) }
  have Ki : G2.K (first + a + 1) = Kn.emp := upd_same _ _ _
  have Ke : ∀ c, c ≠ first + a + 1 → G2.K c = G.K c := fun c hc => upd_ne _ _ hc
  have Ri : G2.rk (first + a) = (7, .leaf, m1 + m2) := upd_same _ _ _
  have Re : ∀ c, c ≠ first + a → G2.rk c = G.rk c := fun c hc => upd_ne _ _ hc
  have hv := h.hp.view (first + a + 1) (k' := Kn.emp) (fun b o ho => by cases ho) (fun b o ho => by cases ho) (fun b o ho => by cases ho)
  have f1 := hrn.f1
  refine ⟨G2, ⟨h.N1, hv, h.tb, fun c => ?_, ?_, ?_, fun c h1 h2 => ?_, ?_, h.deafW, fun c h1 => ?_, fun c h1 => ?_, h.opn, h.pko, ?_, h.os, h.tape, h.output, h.old⟩, ?_⟩
  · by_cases e : c = first + a
    · subst e; rw [Ki]; exact Cov.emp _ _
    · rw [Ke _ (by omega)]; exact h.cov c
  · rw [Ke _ (by omega)]; exact h.cov0
  · obtain ⟨y, hy', hs'⟩ := h.main
    exact ⟨y, hy', by rw [Ke _ (by omega), Re _ (by omega)]; exact hs'⟩
  · by_cases e : c = first + a
    · subst e
      refine ⟨x, hx, ?_⟩
      rw [Ki, Ri]
      show WkS P W StopW G.wg G.RO x Kn.emp w (7, .leaf, m1 + m2) (G.pk (first + a)) (G.dd (first + a))
      rw [hp, hd, hdf]
      exact .dn (by omega) hds ⟨s1, c1, hM1⟩ ⟨s2, c2, hM2⟩
    · obtain ⟨y, hy', hs'⟩ := h.wk c h1 h2
      exact ⟨y, hy', by rw [Ke _ (by omega), Re _ e]; exact hs'⟩
  · rw [Ke _ (by omega)]; exact h.deaf0
  · by_cases e : c = first + a
    · subst e; rw [Ki]; rfl
    · rw [Ke _ (by omega)]; exact h.live c h1
  · rw [Ke _ (by omega)]; exact h.out c h1
  · have hst := hrn.stage (i := first + a) (by omega) (fun _ => by rw [show (G.view gs.size w t).gh (first + a) = _ from hgh]; rfl) (x := 7) (by omega) (.lone 0)
    have hmd : Md { (G.view gs.size w t) with gh := upd (G.view gs.size w t).gh (first + a) (.lone 0), sg := upd (G.view gs.size w t).sg (first + a) 7, hp := (G.view gs.size w t).hp, pk := (G.view gs.size w t).pk } X q wg m b first st sm :=
      hs.md.counted (V' := { (G.view gs.size w t) with gh := upd (G.view gs.size w t).gh (first + a) (.lone 0), sg := upd (G.view gs.size w t).sg (first + a) 7, hp := (G.view gs.size w t).hp, pk := (G.view gs.size w t).pk }) (a := a) (x := 7) ⟨upd_ne _ _ (by omega), rfl, fun h => h⟩ haM (by rw [show (G.view gs.size w t).sg (first + a) = 9 from h9]; omega) (.inl rfl)
    have hqw : q ≠ wg := fun e => by
      have h1 : w.heap[q]? = _ := hs.hq
      rw [e, hw] at h1; cases h1
    have hsk : SK (G.view gs.size w t).t (Knows (G.view gs.size w t).t (first + a)) wg := by
      rcases hs.wk _ hat with ⟨l, st', e⟩ | ⟨_, e⟩
      · rw [show (G.view gs.size w t).gh (first + a) = _ from hgh] at e; cases e
      · exact e
    have hsh := hs.stage haM f1 (x := 7) (by omega) (.lone 0) (G.view gs.size w t).hp (G.view gs.size w t).pk st sm (fun _ _ => rfl) hw hqw hsk (fun e => by omega) hmd
    have hV : G2.view gs.size w t = { (G.view gs.size w t) with gh := upd (G.view gs.size w t).gh (first + a) (.lone 0), sg := upd (G.view gs.size w t).sg (first + a) 7, hp := (G.view gs.size w t).hp, pk := (G.view gs.size w t).pk } := by
      refine View.eq_of (fun c => ?_) ?_ ?_ rfl rfl rfl rfl (fun c => ?_) (fun _ => rfl) rfl (fun _ => rfl) rfl
      · show (G2.K (c + 1)).gh = upd (fun i => (G.K (i + 1)).gh) (first + a) (.lone 0) c
        by_cases e : c = first + a
        · subst e; rw [Ki, upd_same]; rfl
        · rw [Ke _ (by omega), upd_ne _ _ e]
      · show (G2.K 1).live = (G.K 1).live
        rw [Ke _ (by omega)]
      · show G2.K 0 = G.K 0
        exact Ke _ (by omega)
      · show (G2.rk c).1 = upd (fun i => (G.rk i).1) (first + a) 7 c
        by_cases e : c = first + a
        · subst e; rw [Ri, upd_same]
        · rw [Re _ e, upd_ne _ _ e]
    rw [hV]
    exact .shut X q wg m b first T p0 pq st sm hlv hst hsh
  · refine mu_lt (by rw [Ke _ (by omega)]) (fun c hc => ?_) hi' (by rw [Ri, hr]; exact Rank.stage (by omega))
    by_cases e : c = first + a
    · subst e; exact .inr (by rw [Ri, hr]; exact Rank.stage (by omega))
    · exact .inl (Re _ e)
/-! ### behind it -/
theorem not_counts {fn : FuncId} {ps : String} (hes : ∀ k e, es[k]? = some e → (MemAct.ofEvent e).touch? = none ∨ ((∃ ad wr, e = ⟨.cell ad, wr, true⟩) ∧ 0 < deafBehind (Deaf t i) (es.extract 0 k))) :
    ∀ j, t.size ≤ j → ∀ i', (t ++ MemOp.ofEvents i fn ps es).g? j = some i' → ¬ (t ++ MemOp.ofEvents i fn ps es).counts j := by
  intro j hj i' hgj ⟨y, hy, _, hk⟩
  obtain ⟨op, ho, hxx⟩ := touch_of hy
  have hjj : (MemOp.ofEvents i fn ps es)[j - t.size]? = some op := by
    rw [Array.getElem?_append] at ho
    simpa [Nat.not_lt.2 hj] using ho
  rw [ofEvents_eq, Array.getElem?_map] at hjj
  obtain ⟨e, he, rfl⟩ := Option.map_eq_some_iff.1 hjj
  have hjs : j - t.size ≤ es.size := by
    rcases Nat.lt_or_ge (j - t.size) es.size with h' | h'
    · omega
    · rw [Array.getElem?_eq_none h'] at he; cases he
  rcases hes _ e he with h0 | ⟨⟨ad, wr, rfl⟩, hd⟩
  · simp only at hxx; rw [h0] at hxx; cases hxx
  · have hxk : y.kind = .atomic := by
      cases wr <;> simp [MemAct.ofEvent, MemAct.touch?] at hxx <;> subst hxx <;> rfl
    rcases hk with hk | ⟨g, hg, hdf⟩
    · exact hk hxk
    · have hg1 : g = i := by simp [Trace.g?, ho] at hg; exact hg.symm
      subst hg1
      have := deaf_inside t g fn ps es (j - t.size) hjs
      rw [show t.size + (j - t.size) = j by omega, hdf] at this
      omega
end
end Go.Proofs.Ytacfhfeegalmlaa
