/-
  Joined texts: THE MACHINE's INVARIANT: a worker more; the queue is closed. · THE MACHINE: the queue is closed; nobody waits for ever; EVERY RUN ENDS, AND WELL. · THE MACHINE: EVERY RUN ENDS, AND WELL: from one goroutine that goes its way in company, to the return, on every tape. · OUR PROTOCOL: what is asked of the program is met. · what the bound of the second form gives (from the seat's own example).
-/
import Derived.Test.YtacfhfeegalmlaaWW17
import Derived.Test.YtacfhfeegalmlaaWW10
import Derived.Conc.WgGenN2
import Derived.Test.YtacfhfeegalmlaaRows

/- THE MACHINE's INVARIANT: a worker more; the queue is closed. -/
namespace Go.Proofs.Ytacfhfeegalmlaa
open Go.Conc
open Go.ConcR (KK wgBlock WgAt stA smA rd wr DC0 g_of_ofEvents)
open Go.ConcN (upd upd_same upd_ne WgLive RelBy sumTo sumTo_congr sumTo_upd le_sumTo sumTo_le get_map_set get_map_set_same AtR0 runT_crowd_ended fork_knows Deaf_absent)
set_option linter.unusedVariables false
set_option linter.unusedSimpArgs false
section
variable {P : Program} {W : Who} {StopM StopW : Kn → Goroutine → Prop} {w0 : World} {n0 : Nat} {gs gs' : Array Goroutine} {w w' : World} {t u : Trace} {G G' : Gho} {i j : Nat} {x g g' : Goroutine} {es : Array Event} {k' k0 : Kn} {pos wg' : Nat} {RO' : Addr → Option Value} {Sp' : Nat → Prop} {r' : Rank} {np : Pk → Pk} {sl : Option (Nat × Nat)} {p : Pk} {f : Kn × Goroutine → Tree}
/-- A WORKER MORE. -/
theorem Inv.mSpawn (hy : Hyp P W StopM StopW) (h : Inv P W StopM StopW w0 n0 gs w t G) (hx : gs[0]? = some x) (ha : Act' x g) (hr : G.rk 0 = (9, .mk f, 0)) (hp : G.pk 0 = none)
    {c : Goroutine} {X : RunC} {q wg m b : Nat} (hq : SpawnF P (W.as true) (Ch P (W.as true) StopM f) (G.K 1) g g' c X q wg m b) : NextOk P W StopM StopW w0 n0 (crowd gs w sl) t (mu G gs.size) 0 := by
  have hi' := (Array.getElem?_eq_some_iff.1 hx).1
  have h9 : (G.rk 0).1 = 9 := by rw [hr]
  have hN1 := h.N1
  obtain ⟨hlv, first, T, hrn, hpar⟩ := h.ph.ofPar (X := X) (q := q) (wg := wg) (m := m) (s := 0) (b := b + 1) hq.gh
  have hlv : (G.K 1).live = none := hlv
  have hgo := hq.go w h.sat0
  have hrun := runT_crowd_spawn (P := P) (sl := sl) (i := 0) hx (by show stepG P true x w = _; rw [ha.step]; exact hgo)
  obtain ⟨x1, hx1⟩ : ∃ x1 : MemOp, x1 = { g := 0, fn := x.frame.fn, pos := x.frame.place, act := .go gs.size } := ⟨_, rfl⟩
  obtain ⟨y1, hy1⟩ : ∃ y1 : MemOp, y1 = { g := gs.size, fn := c.frame.fn, pos := x.frame.place, act := .start } := ⟨_, rfl⟩
  have hops : ((MemOp.ofEvents 0 x.frame.fn x.frame.place #[]).push { g := 0, fn := x.frame.fn, pos := x.frame.place, act := .go gs.size } |>.push { g := gs.size, fn := c.frame.fn, pos := x.frame.place, act := .start }) = #[x1, y1] := by rw [hx1, hy1]; simp [MemOp.ofEvents]
  rw [hops] at hrun
  have a1 : x1.g = 0 ∧ x1.act = .go gs.size := by rw [hx1]; exact ⟨rfl, rfl⟩
  have a2 : y1.g = gs.size ∧ y1.act = .start := by rw [hy1]; exact ⟨rfl, rfl⟩
  clear hops hx1 hy1
  have mem : ∀ op ∈ (#[x1, y1] : Trace), op = x1 ∨ op = y1 := fun op ho => by simpa using ho
  have hn : ∀ op ∈ (#[x1, y1] : Trace), op.act.touch? = none := fun op ho => by rcases mem op ho with rfl | rfl <;> simp [a1.2, a2.2, MemAct.touch?]
  have hst : ∀ op ∈ (#[x1, y1] : Trace), op.act ≠ .mark .disable ∧ op.act ≠ .mark .enable := fun op ho => by rcases mem op ho with rfl | rfl <;> simp [a1.2, a2.2]
  have hmute : Gr (G.view gs.size w t) #[x1, y1] := Gr.mute hn (fun op ho => by rcases mem op ho with rfl | rfl <;> simp [a1.2, a2.2]) fun op ho _ c => by rcases mem op ho with rfl | rfl <;> simp [a1.2, a2.2]
  have hd0 : Deaf t 0 = 0 := by rw [h.deaf0]; exact hq.deaf
  have hdN : Deaf t gs.size = 0 := Deaf_absent fun i op hi e => by have := h.tb.gs i op hi; omega
  have hfk : ∀ i, Knows t 0 i → Knows (t ++ #[x1, y1]) gs.size i := fun i hi => fork_knows a1 a2 hd0 hdN hi
  obtain ⟨tc, htc⟩ := (hy.kid _ _ hq.kid).tree
  have hG := hq.next
  obtain ⟨km, hkm⟩ : ∃ km : Kn, km = { G.K 1 with gh := .par X q wg (m + 1) 0 b } := ⟨_, rfl⟩
  obtain ⟨kc, hkc⟩ : ∃ kc : Kn, kc = (G.K 1).child (.wk X q wg X.n .idle) := ⟨_, rfl⟩
  rw [← hkm] at hG
  rw [← hkc] at htc
  have m1 : km.own = (G.K 1).own ∧ km.oc = (G.K 1).oc ∧ km.ro = (G.K 1).ro ∧ km.deaf = (G.K 1).deaf ∧ km.live = (G.K 1).live ∧ km.gh = .par X q wg (m + 1) 0 b := by rw [hkm]; exact ⟨rfl, rfl, rfl, rfl, rfl, rfl⟩
  have m2 : (∀ b, kc.own b = none) ∧ (∀ b, kc.oc b = none) ∧ kc.ro = (G.K 1).ro ∧ kc.deaf = 0 ∧ kc.live = none ∧ kc.gh = .wk X q wg X.n .idle := by rw [hkc]; exact ⟨fun _ => rfl, fun _ => rfl, rfl, rfl, rfl, rfl⟩
  clear hkm hkc
  obtain ⟨m11, m12, m13, m14, m15, m16⟩ := m1
  obtain ⟨m21, m22, m23, m24, m25, m26⟩ := m2
  have hv1 := h.hp.view 1 (k' := km) (fun b o ho => by rw [m11] at ho; exact ho) (fun b o ho => by rw [m12] at ho; exact ho) (fun b o ho => by rw [m13] at ho; exact h.hp.ro _ _ _ ho)
  have hv2 := hv1.view (gs.size + 1) (k' := kc) (fun b o ho => by rw [m21] at ho; cases ho) (fun b o ho => by rw [m22] at ho; cases ho) (fun b o ho => by rw [m23] at ho; exact h.hp.ro _ _ _ ho)
  have ne0 : (0 : Nat) ≠ gs.size := by omega
  let G2 : Gho := { G with K := upd (upd G.K 1 km) (gs.size + 1) kc, rk := upd (upd G.rk 0 (9, f (km, g'), 0)) gs.size (9, tc, 0), dd := upd G.dd gs.size 0 }
  have K1 : G2.K 1 = km := by show upd (upd G.K 1 km) (gs.size + 1) kc 1 = km; rw [upd_ne _ _ (by omega), upd_same]
  have KN : G2.K (gs.size + 1) = kc := (show upd (upd G.K 1 km) (gs.size + 1) kc (gs.size + 1) = kc from upd_same _ _ _)
  have Ke : ∀ a, a ≠ 1 → a ≠ gs.size + 1 → G2.K a = G.K a := fun a h1 h2 => by show upd (upd G.K 1 km) (gs.size + 1) kc a = _; rw [upd_ne _ _ h2, upd_ne _ _ h1]
  have R0 : G2.rk 0 = (9, f (km, g'), 0) := by show upd (upd G.rk 0 _) gs.size _ 0 = _; rw [upd_ne _ _ ne0, upd_same]
  have RN : G2.rk gs.size = (9, tc, 0) := (show upd (upd G.rk 0 _) gs.size (9, tc, 0) gs.size = _ from upd_same _ _ _)
  have Re : ∀ a, a ≠ 0 → a ≠ gs.size → G2.rk a = G.rk a := fun a h1 h2 => by show upd (upd G.rk 0 _) gs.size _ a = _; rw [upd_ne _ _ h2, upd_ne _ _ h1]
  have DN : G2.dd gs.size = 0 := (show upd G.dd gs.size 0 gs.size = 0 from upd_same _ _ _)
  have De : ∀ a, a ≠ gs.size → G2.dd a = G.dd a := fun a h1 => (show upd G.dd gs.size 0 a = _ from upd_ne _ _ h1)
  have hsz : ((gs.setIfInBounds 0 g').push c).size = gs.size + 1 := by simp
  have get0 : ((gs.setIfInBounds 0 g').push c)[0]? = some g' := by
    rw [Array.getElem?_push_lt (by simpa using hi'), ← Array.getElem?_eq_getElem, Array.getElem?_setIfInBounds_self_of_lt hi']
  have getN : ((gs.setIfInBounds 0 g').push c)[gs.size]? = some c := by
    have e : gs.size = (gs.setIfInBounds 0 g').size := by simp
    rw [e, Array.getElem?_push_size]
  have gete : ∀ a, a ≠ 0 → a < gs.size → ((gs.setIfInBounds 0 g').push c)[a]? = gs[a]? := fun a h1 h2 => by
    rw [Array.getElem?_push_lt (by simpa using h2), ← Array.getElem?_eq_getElem, Array.getElem?_setIfInBounds_ne (Ne.symm h1)]
  have hg0 := GKR.running hy.stopM hG
  have hI : Inv P W StopM StopW w0 n0 ((gs.setIfInBounds 0 g').push c) w (t ++ #[x1, y1]) G2 := by
    refine ⟨by rw [hsz]; omega, hv2, by rw [hsz]; exact (h.tb.more (Nat.le_succ _)).mute hn (fun op ho => by rcases mem op ho with rfl | rfl <;> simp [a1.1, a2.1]) (Nat.le_refl _), fun a => ?_, ?_, ⟨g', get0, by rw [K1, R0, show G2.pk 0 = none from hp]; exact .run hG (.refl hg0)⟩, fun a h1 h2 => ?_, ?_, fun a h1 h2 => ?_, fun a h1 => ?_, fun a h1 => ?_, fun a h1 h2 c hc => ?_, fun a h1 => h.pko a (by rw [hsz] at h1; omega), ?_, h.os, h.tape, h.output, h.old⟩
    · by_cases e : a = gs.size
      · subst e
        rw [KN]
        refine ⟨fun b hb => absurd (m21 b) hb, fun b hb => absurd (m22 b) hb, fun ad had => ?_⟩
        rw [m23] at had
        exact ((h.cov 0).ro ad had).mute hn hfk
      · by_cases e0 : a = 0
        · subst e0
          rw [K1]
          have c0 : Cov (t ++ #[x1, y1]) (Knows (t ++ #[x1, y1]) 0) (G.K 1) := (h.cov 0).mute hn fun c hc => hc.app _
          exact c0.less (fun b hb => by rw [m11] at hb; exact hb) (fun b hb => by rw [m12] at hb; exact hb) (fun b hb => by rw [m13] at hb; exact hb)
        · rw [Ke _ (by omega) (by omega)]
          exact (h.cov a).mute hn fun c hc => hc.app _
    · rw [Ke _ (by omega) (by omega)]
      exact h.cov0.mute hn fun c hc => hc.app _
    · rw [hsz] at h2
      by_cases e : a = gs.size
      · subst e
        refine ⟨c, getN, ?_⟩
        rw [KN, RN, DN, show G2.pk gs.size = none from h.pko _ (Nat.le_refl _)]
        have hWk : WkS P W StopW G2.wg G2.RO c kc w (9, tc, 0) none kc.deaf := .run htc (.refl hq.crun)
        rw [m24] at hWk
        exact hWk
      · obtain ⟨y, hy', hs⟩ := h.wk a h1 (by omega)
        exact ⟨y, (gete a (by omega) (by omega)).trans hy', by rw [Ke _ (by omega) (by omega), Re _ (by omega) e, De _ e]; exact hs⟩
    · rw [Go.ConcN.Deaf_still t 0 _ hst, h.deaf0, K1, m14]
    · rw [hsz] at h2
      rw [Go.ConcN.Deaf_still t a _ hst]
      by_cases e : a = gs.size
      · subst e; rw [DN]; exact hdN
      · rw [De _ e]; exact h.deafW a h1 (by omega)
    · by_cases e : a = gs.size
      · subst e; rw [KN, m25]
      · rw [Ke _ (by omega) (by omega)]; exact h.live a h1
    · rw [hsz] at h1
      rw [Ke _ (by omega) (by omega)]; exact h.out a (by omega)
    · rw [hsz] at h2
      by_cases e : a = gs.size
      · subst e
        have hc' : G.pk gs.size = some (some c) := hc
        rw [h.pko _ (Nat.le_refl _)] at hc'; cases hc'
      · exact h.opn a h1 (by omega) c hc
    · rw [hsz]
      have hP1 : Phase W ((G.view gs.size w t).next G.RO G.pk (fun b => w.heap[b]?) #[x1, y1]) := h.ph.gr hmute (fun a v hv => hv) (fun a => .inl rfl) fun b hb => rfl
      have hsk : ∀ j, j ≤ X.n → SK (t ++ #[x1, y1]) (Knows (t ++ #[x1, y1]) gs.size) (X.ex j) := fun j hj => by
        have hsk0 : SK t (Knows t 0) (X.ex j) := hrn.sk0 j hj
        exact hsk0.mute hn hfk
      have hF := hP1.spawn (X := X) (q := q) (wg := wg) (m := m) (b := b) hq.gh hsk hp
      have hV : G2.view (gs.size + 1) w (t ++ #[x1, y1]) = { ((G.view gs.size w t).next G.RO G.pk (fun b => w.heap[b]?) #[x1, y1]) with gh := upd (upd ((G.view gs.size w t).next G.RO G.pk (fun b => w.heap[b]?) #[x1, y1]).gh 0 (.par X q wg (m + 1) 0 b)) gs.size (.wk X q wg X.n .idle), sg := upd ((G.view gs.size w t).next G.RO G.pk (fun b => w.heap[b]?) #[x1, y1]).sg gs.size 9, pk := upd G.pk gs.size none, N := gs.size + 1 } := by
        refine View.eq_of (fun a => ?_) ?_ ?_ rfl rfl rfl rfl (fun a => ?_) (fun a => ?_) rfl (fun _ => rfl) rfl
        · show (G2.K (a + 1)).gh = upd (upd (fun i => (G.K (i + 1)).gh) 0 (.par X q wg (m + 1) 0 b)) gs.size (.wk X q wg X.n .idle) a
          by_cases e : a = gs.size
          · subst e; rw [KN, upd_same, m26]
          · rw [upd_ne _ _ e]
            by_cases e0 : a = 0
            · subst e0; rw [K1, upd_same, m16]
            · rw [upd_ne _ _ e0, Ke _ (by omega) (by omega)]
        · show (G2.K 1).live = (G.K 1).live
          rw [K1, m15]
        · show G2.K 0 = G.K 0
          exact Ke _ (by omega) (by omega)
        · show (G2.rk a).1 = upd (fun i => (G.rk i).1) gs.size 9 a
          by_cases e : a = gs.size
          · subst e; rw [RN, upd_same]
          · rw [upd_ne _ _ e]
            by_cases e0 : a = 0
            · subst e0; rw [R0, h9]
            · rw [Re _ e0 e]
        · show G.pk a = upd G.pk gs.size none a
          by_cases e : a = gs.size
          · subst e; rw [upd_same]; exact h.pko _ (Nat.le_refl _)
          · rw [upd_ne _ _ e]
      rw [hV]
      exact hF
  refine ⟨_, _, _, hrun, ?_, _, w, sl, G2, rfl, hI, rfl⟩
  rw [hsz]
  unfold mu
  rw [K1, m16, hq.gh]
  exact Mu.budget (Nat.lt_succ_self b)
end
end Go.Proofs.Ytacfhfeegalmlaa

/- THE MACHINE: the queue is closed; nobody waits for ever; EVERY RUN ENDS, AND WELL. -/
namespace Go.Proofs.Ytacfhfeegalmlaa
open Go.Conc
open Go.ConcR (KK wgBlock WgAt stA smA rd wr DC0 g_of_ofEvents)
open Go.ConcN (upd upd_same upd_ne WgLive RelBy sumTo sumTo_congr sumTo_upd le_sumTo sumTo_le get_map_set get_map_set_same AtR0 runT_crowd_ended fork_knows Deaf_absent)
set_option linter.unusedVariables false
set_option linter.unusedSimpArgs false
section
variable {P : Program} {W : Who} {StopM StopW : Kn → Goroutine → Prop} {w0 : World} {n0 : Nat} {gs gs' : Array Goroutine} {w w' : World} {t u : Trace} {G G' : Gho} {i j : Nat} {x g g' : Goroutine} {es : Array Event} {k' k0 : Kn} {pos wg' : Nat} {RO' : Addr → Option Value} {Sp' : Nat → Prop} {r' : Rank} {np : Pk → Pk} {sl : Option (Nat × Nat)} {p : Pk} {f : Kn × Goroutine → Tree}
theorem upd_back {α : Type} (K : Nat → α) (a : Nat) : upd K a (K a) = K := by
  funext b
  by_cases e : b = a
  · subst e; rw [upd_same]
  · rw [upd_ne _ _ e]
/-- ALL JOBS ARE HANDED OUT. -/
theorem Inv.mCloseQ (hy : Hyp P W StopM StopW) (h : Inv P W StopM StopW w0 n0 gs w t G) (hx : gs[0]? = some x) (ha : Act' x g) (hr : G.rk 0 = (9, .mk f, 0)) (hp : G.pk 0 = none)
    {X : RunC} {q wg m b : Nat} (hq : CloseQF P (W.as true) (Ch P (W.as true) StopM f) (G.K 1) g g' X q wg m b) : NextOk P W StopM StopW w0 n0 (crowd gs w sl) t (mu G gs.size) 0 := by
  have hi' := (Array.getElem?_eq_some_iff.1 hx).1
  have h9 : (G.rk 0).1 = 9 := by rw [hr]
  obtain ⟨hlv, first, T, hrn, hpar⟩ := h.ph.ofPar (X := X) (q := q) (wg := wg) (m := m) (s := X.n) (b := b) hq.gh
  have hcq : w.heap[q]? = some (.chan 0 #[] false X.n X.n false) := hpar.hq
  have hspq : G.Sp q := hpar.spq
  have hqw : q ≠ wg := fun e => by
    have h1 := (h.hp.sp q hspq).2.2.1 1
    rw [e, hq.ow] at h1; cases h1
  have hgo := hq.go w X.n h.sat0 hcq
  obtain ⟨w', hw'⟩ : ∃ w', w' = w.setChan q 0 #[] true X.n X.n false := ⟨_, rfl⟩
  have hgo : stepG P true x w = .go g' w' (closeEvents q) := by rw [ha.step, hw']; exact hgo
  have hclt : q < w.heap.size := (Array.getElem?_eq_some_iff.1 hcq).1
  have wne : ∀ b, b ≠ q → w'.heap[b]? = w.heap[b]? := fun b hb => by rw [hw']; exact setChan_ne hb
  have wsm : w'.heap[q]? = some (.chan 0 #[] true X.n X.n false) := by rw [hw']; exact setChan_same hclt
  have wsz : w'.heap.size = w.heap.size := by rw [hw']; exact setChan_size
  have wos : w'.os = w.os ∧ w'.tape = w.tape ∧ w'.output = w.output := by rw [hw']; exact ⟨rfl, rfl, rfl⟩
  clear hw'
  have hG := hq.next
  obtain ⟨kn, hkn⟩ : ∃ kn : Kn, kn = { (G.K 1).minus wg with live := some (wg, W.wgT), gh := .shut X q wg m m b } := ⟨_, rfl⟩
  have hG : GKR P (W.as true) StopM (f (kn, g')) kn g' := by rw [hkn]; exact hG
  have nown : ∀ b, kn.own b = if b = wg then none else (G.K 1).own b := fun b => by rw [hkn]; rfl
  have noc : kn.oc = (G.K 1).oc := by rw [hkn]; rfl
  have nro : kn.ro = (G.K 1).ro := by rw [hkn]; rfl
  have nd : kn.deaf = (G.K 1).deaf := by rw [hkn]; rfl
  have nl : kn.live = some (wg, W.wgT) := by rw [hkn]
  have ng : kn.gh = .shut X q wg m m b := by rw [hkn]
  clear hkn
  have hrun' := GKR.running hy.stopM hG
  have hwk : wakesB P x g' = true := by
    unfold wakesB
    rw [ha.wakes, hq.wakes, hrun']
    rfl
  have hv := h.hp.view 1 (k' := kn) (fun b o ho => by rw [nown] at ho; split at ho; exact absurd ho (by simp); exact ho) (fun b o ho => by rw [noc] at ho; exact ho) (fun b o ho => by rw [nro] at ho; exact h.hp.ro _ _ _ ho)
  have hv2 := h.hp.addSp hv (fun b => b = wg) (fun c a hc => by
    by_cases e : c = 1
    · subst e; rw [upd_same, noc] at hc; exact ⟨1, hc⟩
    · rw [upd_ne _ _ e] at hc; exact ⟨c, hc⟩) fun b hb => ⟨⟨1, by rw [hb, hq.ow]; simp⟩, fun c => by
      subst hb
      by_cases e : c = 1
      · subst e; rw [upd_same, nown, if_pos rfl]
      · rw [upd_ne _ _ e]; exact h.hp.oo 1 c _ (Ne.symm e) (by rw [hq.ow]; simp)⟩
  have eK : upd (upd G.K 1 kn) 0 (G.K 0) = upd G.K 1 kn := by
    have := upd_back (upd G.K 1 kn) 0
    rwa [upd_ne _ _ (by omega)] at this
  have hdf0 : Deaf t 0 = 0 := by rw [h.deaf0]; exact hq.deaf
  obtain ⟨c1, c2, c3⟩ := close_at (t := t) (c := q) (i := 0) x.frame.fn x.frame.place hdf0
  have hsy := close_sync (i := 0) (c := q) x.frame.fn x.frame.place
  have hfit := h.hp.ufitS hspq hsy
  have hskn := close_knows (i := 0) (fn := x.frame.fn) (ps := x.frame.place) hpar.skq
  have hnr := close_norel (i := 0) (c := q) (fn := x.frame.fn) (ps := x.frame.place) G.wg
  obtain ⟨U, hU⟩ : ∃ U, U = MemOp.ofEvents 0 x.frame.fn x.frame.place (closeEvents q) := ⟨_, rfl⟩
  have hskn : ∀ j a, touchAt t j = some a → ∀ op ∈ U, ∀ y, op.act.touch? = some y → confl a y → Knows t 0 j := by rw [hU]; exact hskn
  rw [← hU] at c1 c2 c3 hsy hfit hnr
  have hspq2 : (fun b => G.Sp b ∨ b = wg) q := .inl hspq
  have ow := (h.cov 0).own wg (by rw [hq.ow]; simp)
  have wgT : ∀ Q : Nat → Prop, (∀ j, Knows t 0 j → Q j) → ∀ j y, touchAt (t ++ U) j = some y → blkOf y.loc = some wg → Q j := fun Q hQ j y h1 h2 => by
    rcases touch_cases h1 with ⟨_, h1⟩ | ⟨_, op, ho, hyy, _⟩
    · exact hQ _ (ow j y h1 h2)
    · have := (hsy.at_ op ho y hyy).1
      rw [h2] at this
      exact absurd (Option.some.inj this).symm hqw
  have hok : GoOk P W n0 w0 gs w w' t U G (G.turn2 0 kn (G.K 0) G.pos G.RO (fun b => G.Sp b ∨ b = wg) wg (9, f (kn, g'), 0) (newpk P x g' w')) 0 (newpk P x g' w') := by
    refine ⟨?_, h.tb.app hi' (by rw [wsz]; exact Nat.le_refl _) (by rw [wsz]; exact hfit) hskn, fun j => ?_, ?_, hsy.g, fun j hj => Gho.turn2_oth hj, fun j hj h1 h2 h3 h4 => ?_, h.hp.rel0S hspq wne, fun a v hv => hv, fun j h1 h2 c hc => ?_, ?_, wos.1.trans h.os, wos.2.1.trans h.tape, wos.2.2.trans h.output, fun b hb => (wne b (fun e => ?_)).trans (h.old b hb)⟩
    · have : HInv (upd (upd G.K 1 kn) 0 (G.K 0)) G.RO (fun b => G.Sp b ∨ b = wg) n0 w' := by rw [eK]; exact hv2.world q hspq2 wsz wne
      exact this
    · by_cases e : j = 0
      · subst e
        rw [Gho.turn2_K (i := 0)]
        have c0 : Cov (t ++ U) (Knows (t ++ U) 0) (G.K 1) := Cov.appS h.hp hspq hsy (h.cov 0) fun c hc => hc.app _
        exact c0.less (fun b hb => by rw [nown] at hb; split at hb; exact absurd rfl hb; exact hb) (fun b hb => by rw [noc] at hb; exact hb) (fun b hb => by rw [nro] at hb; exact hb)
      · rw [(Gho.turn2_oth e).1]
        exact Cov.appS h.hp hspq hsy (h.cov j) fun c hc => hc.app _
    · rw [Gho.turn2_K0]
      exact Cov.appS h.hp hspq hsy h.cov0 fun c hc => hc.app _
    · exfalso
      rcases Nat.lt_or_ge j first with hlt | hge
      · have : (G.rk j).1 = 1 := (hrn.gone j h1 hlt).1
        omega
      · have : (G.rk j).1 = 9 := (hpar.wk j hge h2).1
        omega
    · rw [(Gho.turn2_oth (by omega)).2.2.1] at hc
      exact (newpk_some hc).2 hwk
    · have hg : Gr (G.view gs.size w t) U := Gr.of hfit (show (G.view gs.size w t).sg 0 = 9 from h9) hnr
      have hP1 : Phase W ((G.view gs.size w t).next G.RO G.pk (fun b => w.heap[b]?) U) := h.ph.gr hg (fun a v hv => hv) (fun a => .inl rfl) fun b hb => rfl
      have hww : w'.heap[wg]? = some (wgBlock W.wgT (m * KK) 0) := (wne wg (Ne.symm hqw)).trans ((h.hp.sat 1).own _ _ hq.ow)
      have hF := hP1.closeQ (X := X) (q := q) (wg := wg) (m := m) (b := b) (pq := t.size + 1) hq.gh hq.pos hq.lt (Sp' := fun b => G.Sp b ∨ b = wg) (hp := fun b => w'.heap[b]?) (p0 := (t ++ U).size) (fun x hx => .inl hx) (.inr rfl) (fun x hx => wne x hx) wsm hww c1
        (fun j y h1 h2 _ => wgT _ c3 j y h1 h2) (fun j y h1 h2 _ => wgT _ (fun j hj => hj.app _) j y h1 h2) (fun j y h1 h2 _ => wgT _ (fun j hj => hj.app _) j y h1 h2) (Nat.le_refl _) (fun j hj e => by have := lt_of_act? e; have : j < (t ++ U).size := this; omega) (some (wg, W.wgT)) rfl
      have hF := hF.park (fun j => if j = 0 then none else newpk P x g' w' (G.pk j)) (fun X2 q2 wg2 m2 s2 b2 hg2 h0 => by rw [if_pos rfl] at h0; cases h0) (fun _ _ _ => rfl)
      rw [Gho.turn2_view (w := w) (t := t) (lv := some (wg, W.wgT)) h9 rfl ⟨fun _ => nl.symm, fun e => by omega⟩, ng]
      exact hF
    · have := (h.hp.sp q hspq).2.1
      omega
  rw [hU] at hok
  refine h.gone0 hx hgo hok ?_ ?_ ?_ ?_
  · rw [Gho.turn2_K (i := 0), Gho.turn2_rk, Gho.turn2_pk]
    exact .run hG (.refl hrun')
  · rw [Deaf_own, h.deaf0, Gho.turn2_K (i := 0), nd]
    simp [deafBehind, closeEvents]
  · rw [Gho.turn2_K (i := 0), ng, hq.gh]; rfl
  · rw [Gho.turn2_rk, hr]; exact Rank.child
/-! ### nobody waits for ever -/
theorem closed_ex {c : Nat} (h : w.heap[c]? = some (.chan 0 #[] true i j false)) : closedAt w c = true := by unfold closedAt; rw [h]
/-- Whose turn it is runs. -/
theorem Inv.turnRuns (h : Inv P W StopM StopW w0 n0 gs w t G) {X : RunC} {q wg m b first T s : Nat} (hrn : Rnd W (G.view gs.size w t) X first T s) (hl : LR W (G.view gs.size w t) X q wg m b first s) (hT : T < s) : ∃ (i : Nat) (y : Goroutine), gs[i]? = some y ∧ y.status = .running := by
  obtain ⟨c, hat, hj⟩ := hrn.all T (Nat.le_refl _) hT
  obtain ⟨y, hy, hs⟩ := h.wk c (by have := hat.1; have := hrn.f1; omega) hat.2.1
  refine ⟨c, y, hy, ?_⟩
  have hop := h.opn c (by have := hat.1; have := hrn.f1; omega) hat.2.1
  have h9 : (G.rk c).1 = 9 := hat.2.2
  have sn := hrn.sn
  have ex : ∀ X' q' wg' left jj i0, (G.view gs.size w t).gh c = .wk X' q' wg' left (.job i0 false) → jj ≤ i0 → G.pk c = some (some (X'.ex jj)) → False := fun X' q' wg' left jj i0 hg hle hpk => by
    obtain ⟨rfl, rfl, rfl⟩ := hl.inj hat hg
    rw [hg] at hj
    cases hj
    have h1 : w.heap[X'.ex jj]? = _ := hrn.ex jj (by omega)
    rw [decide_eq_true hle] at h1
    have := hop _ hpk
    rw [closed_ex h1] at this; cases this
  generalize G.rk c = r at hs h9
  generalize hpp : G.pk c = p at hs
  generalize G.dd c = d at hs
  cases hs with
  | run hG a => exact a.run
  | pkE hq e => exact (ex _ _ _ _ _ _ hq.gh hq.le hpp).elim
  | pkT hq e => exact (ex _ _ _ _ _ _ hq.gh (Nat.le_refl _) hpp).elim
  | pkQ hq e => rw [show (G.view gs.size w t).gh c = _ from hq.gh] at hj; cases hj
  | dn h2 hds => have := hds.le7; simp at h9; omega
  | qt => simp at h9
theorem Inv.someRuns (hy : Hyp P W StopM StopW) (h : Inv P W StopM StopW w0 n0 gs w t G) : ∃ (i : Nat) (y : Goroutine), gs[i]? = some y ∧ y.status = .running := by
  obtain ⟨x, hx, hs⟩ := h.main
  generalize hrk : G.rk 0 = r at hs
  generalize hpp : G.pk 0 = p at hs
  cases hs with
  | run hG a => exact ⟨0, x, hx, a.run⟩
  | @send hh g X q wg m s b z hq e =>
    obtain ⟨hlv, first, T, hrn, hpar⟩ := h.ph.ofPar (X := X) (q := q) (wg := wg) (m := m) (s := s) (b := b) hq.gh
    have hl : LR W (G.view gs.size w t) X q wg m b first s := .par hq.gh hlv hpar
    rcases Nat.lt_or_ge T s with hT | hT
    · exact h.turnRuns hrn hl hT
    · have hN : gs.size = first + m := hpar.N
      have hm := hq.pos
      have hlt : first < gs.size := by omega
      obtain ⟨h9, left, st, hgh, _⟩ := hpar.wk first (Nat.le_refl _) hlt
      have hat : (G.view gs.size w t).at first first := ⟨Nat.le_refl _, hlt, h9⟩
      obtain ⟨y, hy', hs⟩ := h.wk first hrn.f1 hlt
      refine ⟨first, y, hy', ?_⟩
      have h9 : (G.rk first).1 = 9 := h9
      have nojob : ∀ i0 a, (G.view gs.size w t).gh first = a → jobOf a = some i0 → False := fun i0 a e1 e2 => by
        have := hrn.jobs first hat i0 (by rw [e1]; exact e2)
        omega
      generalize G.rk first = r at hs h9
      generalize hpp2 : G.pk first = p2 at hs
      generalize G.dd first = d at hs
      cases hs with
      | run hG a => exact a.run
      | pkE hq' e => exact (nojob _ _ hq'.gh rfl).elim
      | pkT hq' e => exact (nojob _ _ hq'.gh rfl).elim
      | pkQ hq' e =>
        obtain ⟨_, rfl, _⟩ := hl.inj hat (show (G.view gs.size w t).gh first = _ from hq'.gh)
        exact absurd hpp2 (hpar.one hpp first (Nat.le_refl _) hlt)
      | dn h2 hds => have := hds.le7; simp at h9; omega
      | qt => simp at h9
  | @sem hh g g' X q wg m b hq e =>
    obtain ⟨first, T, p0, pq, st, sm, hlv, hrn, hsh⟩ := h.ph.inWait (X := X) (q := q) (wg := wg) (m := m) (b := b) (.inr (.inl hq.gh))
    have hl : LR W (G.view gs.size w t) X q wg m b first X.n := .shut p0 pq st sm rfl hlv hsh
    have hN : gs.size = first + m := hsh.N
    have f1 := hrn.f1
    have dnRuns : ∀ a, a < m → 2 ≤ (G.rk (first + a)).1 → (G.rk (first + a)).1 ≤ 7 → ∃ (i : Nat) (y : Goroutine), gs[i]? = some y ∧ y.status = .running := fun a ha h2 h7 => by
      obtain ⟨y, hy', hs⟩ := h.wk (first + a) (by omega) (by omega)
      refine ⟨_, y, hy', ?_⟩
      generalize G.rk (first + a) = r at hs h2 h7
      generalize G.pk (first + a) = p2 at hs
      generalize G.dd (first + a) = d at hs
      cases hs with
      | dn h2 hds => exact hds.running (by omega)
      | qt => simp at h2
      | _ => simp at h7
    have hreg : ∀ st sm, Md (G.view gs.size w t) X q wg m b first st sm → ∃ (i : Nat) (y : Goroutine), gs[i]? = some y ∧ y.status = .running := fun st sm hmd => by
      cases hmd with
      | opn y1 => rw [show (G.view gs.size w t).gh 0 = _ from hq.gh] at y1; cases y1
      | reg y1 y2 y3 =>
        have : ∃ a, a < m ∧ 5 ≤ (G.rk (first + a)).1 := by
          apply Classical.byContradiction
          intro hno
          have : Vc (G.view gs.size w t) first m = 0 := by
            have h0 : Vc (G.view gs.size w t) first m = sumTo m fun _ => 0 := sumTo_congr fun a ha => by
              have : ¬ 5 ≤ (G.rk (first + a)).1 := fun e => hno ⟨a, ha, e⟩
              show cnt1 (G.rk (first + a)).1 = 0
              simp only [cnt1, if_neg this]
            have key : ∀ k, (sumTo k fun _ => 0) = 0 := fun k => by
              induction k with
              | zero => rfl
              | succ k ih => simp only [sumTo, ih]
            rw [h0, key]
          omega
        obtain ⟨a, haM, h5⟩ := this
        have := y2 a haM
        have ho : (G.rk (first + a)).1 = 9 ∨ (G.rk (first + a)).1 = 7 ∨ (G.rk (first + a)).1 = 6 ∨ (G.rk (first + a)).1 = 5 ∨ (G.rk (first + a)).1 = 1 := this
        rcases Nat.lt_or_ge 7 (G.rk (first + a)).1 with h8 | h8
        · have h9 : (G.rk (first + a)).1 = 9 := by omega
          have hat : (G.view gs.size w t).at first (first + a) := ⟨by omega, by show first + a < gs.size; omega, h9⟩
          obtain ⟨y, hy', hs⟩ := h.wk (first + a) (by omega) (by omega)
          have hop := h.opn (first + a) (by omega) (by omega)
          have job : ∀ i0 gg, (G.view gs.size w t).gh (first + a) = gg → jobOf gg = some i0 → ∃ (i : Nat) (y : Goroutine), gs[i]? = some y ∧ y.status = .running := fun i0 gg e1 e2 => by
            have := hrn.jobs (first + a) hat i0 (by rw [e1]; exact e2)
            exact h.turnRuns hrn hl (by omega)
          generalize G.rk (first + a) = r at hs h9
          generalize hpp2 : G.pk (first + a) = p2 at hs
          generalize G.dd (first + a) = d at hs
          cases hs with
          | run hG aa => exact ⟨_, y, hy', aa.run⟩
          | pkE hq' e => exact job _ _ hq'.gh rfl
          | pkT hq' e => exact job _ _ hq'.gh rfl
          | pkQ hq' e =>
            obtain ⟨_, rfl, _⟩ := hl.inj hat (show (G.view gs.size w t).gh (first + a) = _ from hq'.gh)
            have h1 := hop _ hpp2
            rw [closed_ex (show w.heap[_]? = _ from hsh.hq)] at h1; cases h1
          | dn h2 hds => have := hds.le7; simp at h9; omega
          | qt => simp at h9
        · exact dnRuns a haM (by omega) h8
      | last L y1 y2 y3 y4 =>
        have y3 : (G.rk (first + L)).1 = 4 ∨ (G.rk (first + L)).1 = 3 ∨ (G.rk (first + L)).1 = 2 := y3
        exact dnRuns L y2 (by omega) (by omega)
      | sema y1 y2 y3 =>
        have y3 : G.pk 0 = none := y3
        rw [hpp] at y3; cases y3
      | fin y1 => rw [show (G.view gs.size w t).gh 0 = _ from hq.gh] at y1; cases y1
    exact hreg st sm hsh.md
theorem Inv.allAwake (hy : Hyp P W StopM StopW) (h : Inv P W StopM StopW w0 n0 gs w t G) : ∀ g ∈ gs, awake g := by
  intro g hg tm
  obtain ⟨i, hi⟩ := Array.mem_iff_getElem?.1 hg
  rcases Nat.eq_zero_or_pos i with rfl | hi0
  · obtain ⟨x, hx, hs⟩ := h.main
    rw [hi] at hx; cases hx
    rcases hs.status hy.stopM with ⟨e, _⟩ | ⟨e, _⟩ <;> rw [e] <;> simp
  · obtain ⟨x, hx, hs⟩ := h.wk i hi0 (Array.getElem?_eq_some_iff.1 hi).1
    rw [hi] at hx; cases hx
    rcases hs.status with ⟨e, _⟩ | ⟨e, _⟩ | ⟨e, _⟩ <;> rw [e] <;> simp
end
end Go.Proofs.Ytacfhfeegalmlaa

/- THE MACHINE: EVERY RUN ENDS, AND WELL: from one goroutine that goes its way in company, to the return, on every tape. -/
namespace Go.Proofs.Ytacfhfeegalmlaa
open Go.Conc
open Go.ConcR (KK wgBlock WgAt stA smA rd wr DC0 g_of_ofEvents)
open Go.ConcN (upd upd_same upd_ne WgLive RelBy sumTo sumTo_congr sumTo_upd le_sumTo sumTo_le get_map_set get_map_set_same)
set_option linter.unusedVariables false
set_option linter.unusedSimpArgs false
section
variable {P : Program} {W : Who} {StopM StopW : Kn → Goroutine → Prop} {w0 : World} {n0 : Nat} {gs : Array Goroutine} {w w' : World} {t u : Trace} {G G' : Gho} {i j : Nat} {x g g' : Goroutine} {sl : Option (Nat × Nat)}
theorem Phase.noWk {V : View} (h : Phase W V) : (∀ X q wg l st, V.gh 0 ≠ .wk X q wg l st) ∧ ∀ X q wg, V.gh 0 ≠ .wkf X q wg := by
  cases h with
  | lone b x1 => rw [x1]; exact ⟨by simp, by simp⟩
  | run X b x1 => rw [x1]; exact ⟨by simp, by simp⟩
  | par X q wg m s b first T x1 => rw [x1]; exact ⟨by simp, by simp⟩
  | shut X q wg m b first T p0 pq st sm x1 x3 x4 =>
    cases x4.md with
    | opn y => rw [y]; exact ⟨by simp, by simp⟩
    | reg y => rw [y]; exact ⟨by simp, by simp⟩
    | last L y => rw [y]; exact ⟨by simp, by simp⟩
    | sema y => rw [y]; exact ⟨by simp, by simp⟩
    | fin y => rw [y]; exact ⟨by simp, by simp⟩
/-- What is said of the end. -/
def EndsAs (R : Value → Prop) (w0 : World) (n0 : Nat) (v : Value) (w' : World) : Prop := R v ∧ w'.os = w0.os ∧ w'.tape = w0.tape ∧ w'.output = w0.output ∧ ∀ b, b < n0 → w'.heap[b]? = w0.heap[b]?
/-- The main one at its return. -/
def RetAt (P : Program) (R : Value → Prop) (k : Kn) (g : Goroutine) : Prop := (∃ b, k.gh = .lone b) ∧ ∃ v, R v ∧ ∀ w, k.Sat w → stepG P true g w = .ended (.done v) w #[]
/-- A worker's step. -/
theorem Inv.workerStep (hy : Hyp P W StopM StopW) (h : Inv P W StopM StopW w0 n0 gs w t G) (hi : 1 ≤ i) (hx : gs[i]? = some x) (hrun : x.status = .running) : NextOk P W StopM StopW w0 n0 (crowd gs w sl) t (mu G gs.size) i ∨ ∃ G', Inv P W StopM StopW w0 n0 gs w t G' ∧ Mu.Lt (mu G' gs.size) (mu G gs.size) := by
  have hi' := (Array.getElem?_eq_some_iff.1 hx).1
  obtain ⟨y, hy', hs⟩ := h.wk i hi hi'
  rw [hx] at hy'; cases hy'
  generalize hr : G.rk i = r at hs
  generalize hp : G.pk i = p at hs
  generalize hd : G.dd i = d at hs
  cases hs with
  | @run T g hG ha =>
    have h9 : (G.rk i).1 = 9 := by rw [hr]
    obtain ⟨X, q, wg, m, b, first, T0, s, hrn, hl, hat⟩ := h.round hi hi' h9
    have hwk : (∃ left st, (G.K (i + 1)).gh = .wk X q wg left st) ∨ (G.K (i + 1)).gh = .wkf X q wg := by
      rcases hl.gh hat with ⟨l, st, e, _⟩ | ⟨e, _⟩
      · exact .inl ⟨l, st, e⟩
      · exact .inr e
    have no : ∀ {a : Gh}, (G.K (i + 1)).gh = a → (∀ l st, a ≠ .wk X q wg l st) → a ≠ .wkf X q wg → False := fun e e1 e2 => by
      rcases hwk with ⟨l, st, e3⟩ | e3
      · exact e1 l st (e.symm.trans e3)
      · exact e2 (e.symm.trans e3)
    cases T with
    | leaf => exact .inr (h.wLeaf hy hi hx ha hr hp hd hG)
    | mk f =>
      have hG : GKF P (W.as false) (Ch P (W.as false) StopW f) (G.K (i + 1)) g := hG
      cases hG with
      | step nx _ h1 h2 => exact .inl (h.wStep hy hi hx ha hr hp hd nx h1 h2)
      | mark g' m hm _ h1 h2 => exact .inl (h.wMark hy hi hx ha hr hp hd hm h1 h2)
      | turn k1 h1 h2 => exact .inr (h.wTurn hi hx ha hr hp hd h1 h2)
      | recvE X q wg left i0 j z hq => exact .inl (h.wRecvE hy hi hx ha hr hp hd hq)
      | recvT X q wg left i0 z hq => exact .inl (h.wRecvT hy hi hx ha hr hp hd hq)
      | closeE k1 kt g' X j gh' hq => exact .inl (h.wCloseE hy hi hx ha hr hp hd hq)
      | recvQ X q wg left z hq => exact .inl (h.wRecvQ hy hi hx ha hr hp hd hq)
      | share X q wg b hq => exact (no hq.gh (by simp) (by simp)).elim
      | spawn g' c X q wg m b hq => exact (no hq.gh (by simp) (by simp)).elim
      | sendQ X q wg m s b z hq => exact (no hq.gh (by simp) (by simp)).elim
      | closeQ g' X q wg m b hq => exact (no hq.gh (by simp) (by simp)).elim
      | wLoad X q wg m B b G' hq => exact (no hq.gh (by simp) (by simp)).elim
      | wCas g1 g2 X q wg m B b hq => exact (no hq.gh (by simp) (by simp)).elim
      | wWrite g' X q wg m b a hq => exact (no hq.gh (by simp) (by simp)).elim
      | wSem g' X q wg m b hq => exact (no hq.gh (by simp) (by simp)).elim
      | wLoad0 g' X q wg m b hq => exact (no hq.gh (by simp) (by simp)).elim
      | wAcq g' X q wg m b hq => exact (no hq.gh (by simp) (by simp)).elim
  | pkE hq e => subst e; cases hrun
  | pkT hq e => subst e; cases hrun
  | pkQ hq e => subst e; cases hrun
  | dn h2 hds a1 a2 => exact .inl (h.wOut hi hx hr hp hd h2 hds a1 a2)
  | qt hq => exact .inl (h.wQuit hi hx hr hp hd hq hrun)
/-- The main one's step. -/
theorem Inv.mainStep (hy : Hyp P W StopM StopW) {R : Value → Prop} (hret : ∀ k g, StopM k g → RetAt P R k g) (h : Inv P W StopM StopW w0 n0 gs w t G) (hx : gs[0]? = some x) (hrun : x.status = .running) :
    (∃ o w1 ops, runT P (crowd gs w sl) 0 = (.ended o w1, ops) ∧ ∀ w2 sl2, Go.Conc.Good P (EndsAs R w0 n0) (crowd gs w2 sl2) o w1 (t ++ ops)) ∨ NextOk P W StopM StopW w0 n0 (crowd gs w sl) t (mu G gs.size) 0 ∨ ∃ G', Inv P W StopM StopW w0 n0 gs w t G' ∧ Mu.Lt (mu G' gs.size) (mu G gs.size) := by
  obtain ⟨y, hy', hs⟩ := h.main
  rw [hx] at hy'; cases hy'
  generalize hr : G.rk 0 = r at hs
  generalize hp : G.pk 0 = p at hs
  obtain ⟨nw1, nw2⟩ := h.ph.noWk
  cases hs with
  | @run T g hG ha =>
    cases T with
    | leaf =>
      obtain ⟨⟨b, hb⟩, v, hv, hgo⟩ := hret _ _ hG
      exact .inl (h.mReturn hx ha hb (hgo w h.sat0) ⟨hv, h.os, h.tape, h.output, h.old⟩)
    | mk f =>
      have hG : GKF P (W.as true) (Ch P (W.as true) StopM f) (G.K 1) g := hG
      refine .inr ?_
      cases hG with
      | step nx _ h1 h2 => exact .inl (h.mStep hy hx ha hr hp nx h1 h2)
      | mark g' m hm _ h1 h2 => exact .inl (h.mMark hy hx ha hr hp hm h1 h2)
      | turn k1 h1 h2 => exact .inr (h.mTurn hx ha hr hp h1 h2)
      | recvE X q wg left i0 j z hq => exact (nw1 _ _ _ _ _ hq.gh).elim
      | recvT X q wg left i0 z hq => exact (nw1 _ _ _ _ _ hq.gh).elim
      | closeE k1 kt g' X j gh' hq => exact .inl (h.mCloseE hy hx ha hr hp hq fun _ _ _ _ _ => nw1 _ _ _ _ _)
      | recvQ X q wg left z hq => exact (nw1 _ _ _ _ _ hq.gh).elim
      | share X q wg b hq => exact .inr (h.mShare hx ha hr hp hq)
      | spawn g' c X q wg m b hq => exact .inl (h.mSpawn hy hx ha hr hp hq)
      | sendQ X q wg m s b z hq => exact .inl (h.mSendQ hy hx ha hr hp hq)
      | closeQ g' X q wg m b hq => exact .inl (h.mCloseQ hy hx ha hr hp hq)
      | wLoad X q wg m B b G' hq => exact .inl (h.mWLoad hy hx ha hr hp hq)
      | wCas g1 g2 X q wg m B b hq => exact .inl (h.mWCas hy hx ha hr hp hq)
      | wWrite g' X q wg m b a hq => exact .inl (h.mWWrite hy hx ha hr hp hq)
      | wSem g' X q wg m b hq => exact .inl (h.mWSem hy hx ha hr hp hq)
      | wLoad0 g' X q wg m b hq => exact .inl (h.mWLoad0 hy hx ha hr hp hq)
      | wAcq g' X q wg m b hq => exact .inl (h.mWAcq hy hx ha hr hp hq)
  | send hq e => subst e; cases hrun
  | sem hq e => subst e; cases hrun
theorem at_back (w : World) (d : Nat) : (w.at d).at w.drawn = w := by cases w; rfl
theorem workers_run (hy : Hyp P W StopM StopW) {R : Value → Prop} (hret : ∀ k g, StopM k g → RetAt P R k g) : ∀ μ m t, InvM P W StopM StopW w0 n0 μ m t →
    ∃ n last o w t', runNT P (n + 1) m t = (.ended o w, t') ∧ runN P n m = .next last ∧ step P last = .ended o w ∧ Go.Conc.Good P (EndsAs R w0 n0) last o w t' := by
  refine run_of_inv' Mu.wf (InvM P W StopM StopW w0 n0) (Go.Conc.Good P (EndsAs R w0 n0)) ?_
  rintro μ m t ⟨gs, w, sl, G, rfl, h, rfl⟩
  obtain ⟨i, x, d, sl', hx, hrun, hst⟩ := crowd_pick (P := P) (w := w) (sl := sl) (h.allAwake hy) (h.someRuns hy)
  have h' := h.at d
  have back : (∃ G', Inv P W StopM StopW w0 n0 gs (w.at d) t G' ∧ Mu.Lt (mu G' gs.size) (mu G gs.size)) → ∃ μ', Mu.Lt μ' (mu G gs.size) ∧ InvM P W StopM StopW w0 n0 μ' (crowd gs w sl) t := fun ⟨G', hI, hlt⟩ => by
    have := hI.at w.drawn
    rw [at_back] at this
    exact ⟨_, hlt, gs, w, sl, G', rfl, this, rfl⟩
  rcases Nat.eq_zero_or_pos i with rfl | hi
  · rcases h'.mainStep (sl := sl') hy hret hx hrun with ⟨o, w1, ops, h1, h2⟩ | ⟨m', ops, μ', h1, h2, h3⟩ | h1
    · exact .inl ⟨o, w1, ops, hst.trans h1, h2 w sl⟩
    · exact .inr (.inl ⟨m', ops, μ', hst.trans h1, h2, h3⟩)
    · exact .inr (.inr (back h1))
  · rcases h'.workerStep (sl := sl') hy hi hx hrun with ⟨m', ops, μ', h1, h2, h3⟩ | h1
    · exact .inr (.inl ⟨m', ops, μ', hst.trans h1, h2, h3⟩)
    · exact .inr (.inr (back h1))
/-- What the first goroutine knows at its entry: all that is there stands. -/
def Kn.start (w : World) (b : Nat) : Kn := { ro := fun a => w.cell? a, own := fun _ => none, oc := fun _ => none, deaf := 0, live := none, gh := .lone b }
/-- ████ FROM THE ENTRY TO THE RETURN, ON EVERY TAPE. ████ -/
theorem workers_from (hy : Hyp P W StopM StopW) {R : Value → Prop} (hret : ∀ k g, StopM k g → RetAt P R k g) {g0 : Goroutine} {b : Nat} (hG : GK P (W.as true) StopM (Kn.start w0 b) g0) :
    ∃ n last o w t', runNT P (n + 1) (solo g0 w0) #[] = (.ended o w, t') ∧ runN P n (solo g0 w0) = .next last ∧ step P last = .ended o w ∧ Go.Conc.Good P (EndsAs R w0 w0.heap.size) last o w t' := by
  obtain ⟨T, hT⟩ := hG.tree
  let G0 : Gho := { K := fun p => if p = 1 then Kn.start w0 b else Kn.emp, RO := fun a => w0.cell? a, Sp := fun _ => False, pos := 0, wg := 0, rk := fun _ => (9, T, 0), pk := fun _ => none, dd := fun _ => 0 }
  have K1 : G0.K 1 = Kn.start w0 b := rfl
  have Ke : ∀ p, p ≠ 1 → G0.K p = Kn.emp := fun p hp => if_neg hp
  have hown : ∀ p c, (G0.K p).own c = none := fun p c => by
    by_cases e : p = 1
    · subst e; rfl
    · rw [Ke p e]; rfl
  have hoc : ∀ p c, (G0.K p).oc c = none := fun p c => by
    by_cases e : p = 1
    · subst e; rfl
    · rw [Ke p e]; rfl
  have hro : ∀ p a v, (G0.K p).ro a = some v → w0.cell? a = some v := fun p a v hv => by
    by_cases e : p = 1
    · subst e; exact hv
    · rw [Ke p e] at hv; cases hv
  have hrun := GKR.running hy.stopM hT
  have not : ∀ j y, touchAt (#[] : Trace) j ≠ some y := fun j y hj => by
    obtain ⟨op, ho, _⟩ := touch_of hj
    simp at ho
  have cov : ∀ Q k, Cov (#[] : Trace) Q k := fun Q k => ⟨fun b _ j y h1 => absurd h1 (not j y), fun b _ j y h1 => absurd h1 (not j y), fun b _ j y h1 => absurd h1 (not j y)⟩
  have hI : Inv P W StopM StopW w0 w0.heap.size #[g0] w0 #[] G0 := by
    refine ⟨by simp, ⟨fun p => ⟨fun a v hv => hro p a v hv, fun c o ho => (by rw [hown] at ho; cases ho), fun a v hv => (by rw [hoc] at hv; cases hv), fun a v _ => hown p _, fun a v hv => (by rw [hoc] at hv; cases hv), fun a v hv => (by rw [hoc] at hv; cases hv)⟩, hro, fun a v hv => hv, fun p p' c _ hc => hown _ _, fun p p' a _ ha => hoc _ _, fun p p' a _ ha => hoc _ _, fun p a ha => absurd (hown _ _) ha, fun p a ha => absurd (hoc _ _) ha, fun c hc => hc.elim, fun c hc => ⟨fun p => hown _ _, fun p a ha => absurd (hoc _ _) ha⟩, Nat.le_refl _⟩,
      ⟨fun j y hj => absurd hj (not j y), fun said => Go.ConcN.noRace_nil said, fun j op hj => by simp at hj⟩, fun j => cov _ _, cov _ _, ⟨g0, rfl, .run hT (.refl hrun)⟩, fun j h1 h2 => by simp at h2; omega, rfl, fun j h1 h2 => by simp at h2; omega, fun j h1 => by rw [Ke _ (by omega)]; rfl, fun j h1 => by simp at h1; rw [Ke _ (by omega)], fun j h1 h2 => by simp at h2; omega, fun j h1 => rfl, .lone b rfl rfl (Ke 0 (by omega)) (fun j h1 h2 => ?_), rfl, rfl, rfl, fun c hc => rfl⟩
    have : j < 1 := h2
    omega
  exact workers_run hy hret _ _ _ ⟨#[g0], w0, none, G0, rfl, hI, rfl⟩
end
end Go.Proofs.Ytacfhfeegalmlaa

/- OUR PROTOCOL: what is asked of the program is met. -/
namespace Go.Proofs.Ytacfhfeegalmlaa
open Go.Conc
open Go.ConcN (WgLive)
set_option linter.unusedVariables false
set_option linter.unusedSimpArgs false

abbrev wgLink : Go.Conc.Lib.WgLink := { add := 19, done := 21, wait := 23, relMerge := 33, disable := 34, enable := 35, inBubble := 36, associate := 37, fatal := 38, uOr := 39, uAdd := 40, raceRead := 41, uLoad := 42, uStore := 43, disassociate := 44, semrelease := 45, acquire := 47, isAssociated := 48, uCas := 49, raceWrite := 50, semacquire := 51, orU64 := 59, addU64 := 60, loadU64 := 61, storeU64 := 62, casU64 := 63, tWgP := 104, tUP := 106, tAssoc := 107, tWg := 84, tAU := 82, tU64 := 80, tUint := 111, tU32 := 53, tPU32 := 112, tPAU := 132, tPU64 := 134, tNoCopy := 52, tANoCopy := 78, tAlign64 := 79 }
set_option maxRecDepth 100000 in
theorem wgLib : Go.Conc.Lib.WgLib Try.prog wgLink :=
  ⟨Try.func19, Try.func21, Try.func23, Try.func33, Try.func34, Try.func35, Try.func36, Try.func37, Try.func38, Try.func39, Try.func40, Try.func41, Try.func42, Try.func43, Try.func44, Try.func45, Try.func47, Try.func48, Try.func49, Try.func50, Try.func51, Try.func59, Try.func60, Try.func61, Try.func62, Try.func63, Try.underlying104, Try.runUnderlying104, Try.sizeOf104, Try.isAgg104, Try.zeroValue104, Try.underlying106, Try.runUnderlying106, Try.sizeOf106, Try.isAgg106, Try.zeroValue106, Try.underlying107, Try.runUnderlying107, Try.sizeOf107, Try.isAgg107, Try.zeroValue107, Try.underlying84, Try.runUnderlying84, Try.sizeOf84, Try.isAgg84, Try.zeroValue84, Try.underlying82, Try.runUnderlying82, Try.sizeOf82, Try.isAgg82, Try.zeroValue82, Try.underlying80, Try.runUnderlying80, Try.sizeOf80, Try.isAgg80, Try.zeroValue80, Try.underlying111, Try.runUnderlying111, Try.sizeOf111, Try.isAgg111, Try.zeroValue111, Try.underlying53, Try.runUnderlying53, Try.sizeOf53, Try.isAgg53, Try.zeroValue53, Try.underlying112, Try.runUnderlying112, Try.sizeOf112, Try.isAgg112, Try.zeroValue112, Try.underlying132, Try.runUnderlying132, Try.sizeOf132, Try.isAgg132, Try.zeroValue132, Try.underlying134, Try.runUnderlying134, Try.sizeOf134, Try.isAgg134, Try.zeroValue134, Try.underlying0, Try.runUnderlying0, Try.sizeOf0, Try.isAgg0, Try.zeroValue0, Try.underlying3, Try.runUnderlying3, Try.sizeOf3, Try.isAgg3, Try.zeroValue3, Try.underlying4, Try.runUnderlying4, Try.sizeOf4, Try.isAgg4, Try.zeroValue4, Try.underlying9, Try.runUnderlying9, Try.sizeOf9, Try.isAgg9, Try.zeroValue9, Try.underlying20, Try.runUnderlying20, Try.sizeOf20, Try.isAgg20, Try.zeroValue20, Try.underlying21, Try.runUnderlying21, Try.sizeOf21, Try.isAgg21, Try.zeroValue21, (by kernel_rfl), (by kernel_rfl)⟩
def wOurs : Who := { main := true, Tok := TokK, Pub := PubK, Kid := KidK, wgT := 84 }
theorem wOurs_ours (b : Bool) : (wOurs.as b).Ours := ⟨rfl, rfl, rfl⟩
theorem body21_eq : body21 = Go.ConcR.Gen.body_done wgLink := by
  have h : Try.f21 = Go.Conc.Lib.doneFn wgLink := Option.some.inj (Try.func21.symm.trans wgLib.f_done)
  unfold body21 Go.ConcR.Gen.body_done
  rw [h]
theorem hypOurs {StopM : Kn → Goroutine → Prop} (hM : ∀ k g, StopM k g → g.status = .running) : Hyp Try.prog wOurs StopM AtDone := by
  refine ⟨hM, fun k g ⟨_, X, q, wg, c, _, e, _⟩ => by rw [e]; rfl, fun X j ro ro' h hm => VerAt.mono h hm, fun k g h => kid_gk (W := wOurs.as false) (wOurs_ours false) rfl h, fun k g ⟨hd, X, q, wg, c, hg, e, hc, hq, hr⟩ => ⟨hd, X, q, wg, hg, X.r, 0, _, X.EB, 0, _, fun e2 => ?_, hr.box, hr.chs 0 (Nat.zero_le _), fun M1 M2 w hl h1 h2 => ?_⟩⟩
  · have h1 := hr.box
    have h2 := hr.chs 0 (Nat.zero_le _)
    rw [e2, h2] at h1
    cases h1
  · subst e
    rw [body21_eq]
    exact ⟨⟨23, Go.ConcN.Gen.doneN wgLib (n := M1 + 1) (Low := 0) (k := 1) hc hq w ⟨hl, h1⟩⟩, 23, Go.ConcN.Gen.doneN wgLib (n := M2 + 1) (Low := 0) (k := 1) hc hq w ⟨hl, h2⟩⟩
end Go.Proofs.Ytacfhfeegalmlaa

/- what the bound of the second form gives (from the seat's own example). -/
namespace Go.Proofs.Ytacfhfeegalmlaa.bulks

theorem one_le {H : Type} (d : DataW H) : 1 ≤ Rows.uptoBulk d := by
  cases d with
  | lit l => cases l <;> simp [Rows.uptoBulk]
  | nil => simp [Rows.uptoBulk]
  | ptr d => simp [Rows.uptoBulk]
  | slice elems spare => simp [Rows.uptoBulk]
  | agg parts => simp [Rows.uptoBulk]
  | iface t d => simp [Rows.uptoBulk]
  | map entries => simp [Rows.uptoBulk]
  | held h => simp [Rows.uptoBulk]

/-- a part's bulk is at most the whole's -/
theorem part_le {H : Type} {d : DataW H} {l : List (DataW H)} (h : d ∈ l) : Rows.uptoBulk d ≤ Rows.uptoBulkAll l := by
  induction l with
  | nil => cases h
  | cons x r ih =>
    simp only [Rows.uptoBulkAll]
    cases List.mem_cons.1 h with
    | inl e => subst e; omega
    | inr e => have := ih e; omega

theorem append {H : Type} (l r : List (DataW H)) : Rows.uptoBulkAll (l ++ r) = Rows.uptoBulkAll l + Rows.uptoBulkAll r := by
  induction l with
  | nil => simp [Rows.uptoBulkAll]
  | cons x l ih => simp only [List.cons_append, Rows.uptoBulkAll, ih]; omega

/-- so many values at the most -/
theorem length_le {H : Type} (l : List (DataW H)) : l.length ≤ Rows.uptoBulkAll l := by
  induction l with
  | nil => simp [Rows.uptoBulkAll]
  | cons x r ih => have := one_le x; simp only [Rows.uptoBulkAll, List.length_cons]; omega

/-- a slice's places, and what they hold -/
theorem slice_le {H : Type} (elems spare : List (DataW H)) : elems.length + spare.length + 1 ≤ Rows.uptoBulk (.slice elems spare) := by
  have h1 := length_le elems
  have h2 := length_le spare
  simp only [Rows.uptoBulk]
  omega
theorem slice_elems {H : Type} (elems spare : List (DataW H)) : Rows.uptoBulkAll elems + 1 ≤ Rows.uptoBulk (.slice elems spare) := by
  simp only [Rows.uptoBulk]
  omega

/-- a string's letters -/
theorem string_eq {H : Type} (bytes : List UInt8) : Rows.uptoBulk (DataW.lit (H := H) (.string bytes)) = bytes.length + 1 := by
  simp [Rows.uptoBulk]

/-- THE BOUND, as the builder hands it over ('hk') -/
theorem bound {H : Type} {l : List (DataW H)} (hk : Rows.uptoSmall H l = true) : Rows.uptoBulkAll l ≤ 1048576 := by
  simpa [Rows.uptoSmall] using hk

/-- ROOM: a slice of n elements of b bytes, grown by append: below the 2^48 bytes that append, make and a Builder bear. Here n up to 2^21, b up to 4,096: put your own numbers. -/
theorem room {n b : Nat} (hn : n ≤ 2097152) (hb : b ≤ 4096) : (n + n / 4 + 192) * b ≤ 281474976710656 := by
  have h : (n + n / 4 + 192) * b ≤ 2621632 * 4096 := Nat.mul_le_mul (by omega) hb
  omega

end Go.Proofs.Ytacfhfeegalmlaa.bulks
