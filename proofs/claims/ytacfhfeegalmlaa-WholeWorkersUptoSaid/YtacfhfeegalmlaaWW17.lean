/-
  Joined texts: THE MACHINE's INVARIANT: a worker's last steps. · THE MACHINE's INVARIANT: the main one: own steps, marks, views; Wait. · THE MACHINE's INVARIANT: the main one in Wait. · THE MACHINE's INVARIANT: all is joined; the return. · THE MACHINE's INVARIANT: a run begins; the queue; a worker more; the queue is closed.
-/
import Derived.Test.YtacfhfeegalmlaaWW16

/- THE MACHINE's INVARIANT: a worker's last steps. -/
namespace Go.Proofs.Ytacfhfeegalmlaa
open Go.Conc
open Go.ConcR (KK wgBlock WgAt stA smA rd wr mk DC0 g_of_ofEvents)
open Go.ConcN (upd upd_same upd_ne WgLive RelBy sumTo sumTo_congr sumTo_upd le_sumTo sumTo_le get_map_set get_map_set_same AtR0)
set_option linter.unusedVariables false
set_option linter.unusedSimpArgs false

def Gho.out (G : Gho) (i : Nat) (r' : Rank) (np : Pk → Pk) (d' : Nat) : Gho := { G with rk := upd G.rk i r', pk := fun j => if j = i then none else np (G.pk j), dd := upd G.dd i d' }
/-- What a leaving worker lists: bookkeeping at its group's block. -/
structure OutU (wg : Nat) (es : Array Event) : Prop where
  ev : ∀ e ∈ es, (∀ x, (MemAct.ofEvent e).touch? = some x → (∃ a, x.loc = .cell a ∧ a.block = wg) ∧ x.kind ≠ .plain ∧ x.kind ≠ .said) ∧ e.loc ≠ .mark (.release (stA wg))
/-- .. deaf wherever it touches. -/
structure OutD (d : Nat) (es : Array Event) : Prop where
  deaf : ∀ k e, es[k]? = some e → (MemAct.ofEvent e).touch? = none ∨ ((∃ ad wr, e = ⟨.cell ad, wr, true⟩) ∧ 0 < deafBehind d (es.extract 0 k))
  cl : ∀ e ∈ es, ∀ c, MemAct.ofEvent e ≠ .close c
section
variable {P : Program} {W : Who} {StopM StopW : Kn → Goroutine → Prop} {w0 : World} {n0 : Nat} {gs gs' : Array Goroutine} {w w' : World} {t u : Trace} {G G' : Gho} {i j : Nat} {x g g' : Goroutine} {es : Array Event} {k' k0 : Kn} {pos wg' : Nat} {RO' : Addr → Option Value} {Sp' : Nat → Prop} {r' : Rank} {np : Pk → Pk} {sl : Option (Nat × Nat)} {p : Pk} {f : Kn × Goroutine → Tree}
theorem Gho.out_oth {d' : Nat} {j : Nat} (h : j ≠ i) : (G.out i r' np d').K (j + 1) = G.K (j + 1) ∧ (G.out i r' np d').rk j = G.rk j ∧ (G.out i r' np d').pk j = np (G.pk j) ∧ (G.out i r' np d').dd j = G.dd j := ⟨rfl, upd_ne _ _ h, if_neg h, upd_ne _ _ h⟩
/-- The conclusion, once the protocol's part is shown. -/
theorem Inv.outGo (h : Inv P W StopM StopW w0 n0 gs w t G) (hi : 1 ≤ i) (hx : gs[i]? = some x) (hgo : stepG P false x w = .go g' w' es) {d' : Nat}
    (hk : GoOk P W n0 w0 gs w w' t (MemOp.ofEvents i x.frame.fn x.frame.place es) G (G.out i r' (newpk P x g' w') d') i (newpk P x g' w')) (hd : deafBehind (G.dd i) es = d')
    (hme : WkS P W StopW G.wg G.RO g' (G.K (i + 1)) w' r' none d') (hlt : Rank.Lt r' (G.rk i)) : NextOk P W StopM StopW w0 n0 (crowd gs w sl) t (mu G gs.size) i := by
  have hi' := (Array.getElem?_eq_some_iff.1 hx).1
  have e1 : (G.out i r' (newpk P x g' w') d').rk i = r' := upd_same _ _ _
  have e2 : (G.out i r' (newpk P x g' w') d').dd i = d' := upd_same _ _ _
  have e3 : (G.out i r' (newpk P x g' w') d').pk i = none := if_pos rfl
  refine h.goneW hi hx hgo hk ?_ ?_ (h.live i hi) (by rw [e1]; exact hlt)
  · rw [e1, e2, e3]; exact hme
  · rw [Deaf_own, h.deafW i hi hi', e2]; exact hd
theorem outV {N d' : Nat} {t' : Trace} {s' m' : Nat} : (G.out i (s', .leaf, m') np d').view N w' t' = { (G.view N w t) with sg := upd (G.view N w t).sg i s', pk := fun j => if j = i then none else np (G.pk j), hp := fun b => w'.heap[b]?, t := t' } := by
  refine View.eq_of (fun _ => rfl) rfl rfl rfl rfl rfl rfl (fun j => ?_) (fun _ => rfl) rfl (fun _ => rfl) rfl
  show (upd G.rk i (s', Tree.leaf, m') j).1 = upd (fun i => (G.rk i).1) i s' j
  by_cases e : j = i
  · subst e; rw [upd_same, upd_same]
  · rw [upd_ne _ _ e, upd_ne _ _ e]
theorem outV_same {N d' : Nat} {s' m' : Nat} (hs : (G.rk i).1 = s') : (G.out i (s', .leaf, m') np d').view N w' (t ++ u) = (G.view N w t).next G.RO (fun j => if j = i then none else np (G.pk j)) (fun b => w'.heap[b]?) u := by
  rw [outV (w := w) (t := t)]
  refine View.eq_of (fun _ => rfl) rfl rfl rfl rfl rfl rfl (fun j => ?_) (fun _ => rfl) rfl (fun _ => rfl) rfl
  show upd (fun i => (G.rk i).1) i s' j = (G.rk j).1
  by_cases e : j = i
  · subst e; rw [upd_same, hs]
  · rw [upd_ne _ _ e]
/-- WHO ONLY LEAVES. -/
theorem Inv.wQuit (h : Inv P W StopM StopW w0 n0 gs w t G) (hi : 1 ≤ i) (hx : gs[i]? = some x) {m d : Nat} (hr : G.rk i = (1, .leaf, m)) (hp : G.pk i = none) (hd : G.dd i = d) (hq : QuitsD P m d x) (hrun : x.status = .running) :
    NextOk P W StopM StopW w0 n0 (crowd gs w sl) t (mu G gs.size) i := by
  have hi' := (Array.getElem?_eq_some_iff.1 hx).1
  cases m with
  | zero => rw [hq.1] at hrun; cases hrun
  | succ m =>
    rcases hq with ⟨hf, _⟩ | ⟨_, g', es, hmute, hstep, hq⟩
    · rw [hf] at hrun; cases hrun
    have hact : ∀ op ∈ MemOp.ofEvents i x.frame.fn x.frame.place es, op.act = .mark .disable ∨ op.act = .mark .enable := fun op ho => by
      rw [ofEvents_eq] at ho
      obtain ⟨e, he, rfl⟩ := Array.mem_map.1 ho
      have hm := hmute e he
      obtain ⟨loc, wr, sy⟩ := e
      cases loc with
      | mark mm => cases mm <;> simp [Event.mute] at hm <;> simp [MemAct.ofEvent]
      | _ => simp [Event.mute] at hm
    have hn : ∀ op ∈ MemOp.ofEvents i x.frame.fn x.frame.place es, op.act.touch? = none := fun op ho => by
      rcases hact op ho with e | e <;> rw [e] <;> rfl
    have hs1 : (G.rk i).1 = 1 := by rw [hr]
    refine h.outGo (r' := (1, .leaf, m)) (d' := deafBehind d es) hi hx (hstep w) ⟨h.hp, h.tb.mute hn (fun op ho => by rw [g_of_ofEvents op ho]; exact hi') (Nat.le_refl _), fun j => (h.cov j).mute hn fun c hc => hc.app _, h.cov0.mute hn fun c hc => hc.app _, g_of_ofEvents, fun j hj => Gho.out_oth hj, h.grpNext rfl (fun b _ => rfl), rel0_heap h.hp.rosat rfl, fun a v hv => hv, h.opnNext (fun j hj => (Gho.out_oth hj).2.2.1) (if_pos rfl) (fun b _ => rfl), ?_, h.os, h.tape, h.output, h.old⟩ (by rw [hd]) (.qt hq) (by rw [hr]; exact Rank.fuel (Nat.lt_succ_self m))
    rw [outV_same (w := w) hs1]
    refine h.ph.gr (Gr.mute hn (fun op ho => by rcases hact op ho with e | e <;> rw [e] <;> simp) fun op ho _ c => by rcases hact op ho with e | e <;> rw [e] <;> simp) (fun a v hv => hv) (fun j => ?_) fun b hb => rfl
    by_cases hj : j < gs.size
    · exact h.pkNext hp (fun _ _ => rfl) hj
    · left
      show (if j = i then none else newpk P x g' w (G.pk j)) = G.pk j
      rw [if_neg (by omega), h.pko j (by omega)]; rfl
theorem OutU.sync {wg : Nat} (h : OutU wg es) (i : Nat) (fn : FuncId) (ps : String) : SyncU i wg (MemOp.ofEvents i fn ps es) := by
  refine ⟨g_of_ofEvents, fun op ho y hy => ?_⟩
  rw [ofEvents_eq] at ho
  obtain ⟨e, he, rfl⟩ := Array.mem_map.1 ho
  obtain ⟨⟨a, h1, h2⟩, h3, h4⟩ := (h.ev e he).1 y hy
  exact ⟨by rw [h1]; show some a.block = _; rw [h2], h3, fun e => absurd e h4⟩
theorem OutU.rel {wg : Nat} (h : OutU wg es) (i : Nat) (fn : FuncId) (ps : String) : ∀ op ∈ MemOp.ofEvents i fn ps es, op.act ≠ .mark (.release (stA wg)) := fun op ho e => by
  rw [ofEvents_eq] at ho
  obtain ⟨ev, he, rfl⟩ := Array.mem_map.1 ho
  exact (h.ev ev he).2 (Go.ConcR.loc_of_ofEvent e)
theorem OutU.gr {wg d : Nat} (h : OutU wg es) (hI : Inv P W StopM StopW w0 n0 gs w t G) (hi : 1 ≤ i) (hw : G.wg = wg) (hsp : G.Sp wg) (hs : 6 < (G.rk i).1 ∨ (Deaf t i = d ∧ OutD d es)) (fn : FuncId) (ps : String) : Gr (G.view gs.size w t) (MemOp.ofEvents i fn ps es) := by
  have hf := hI.hp.ufitS hsp (h.sync i fn ps)
  refine ⟨hf.ro, fun op ho y hy b hb hs => ⟨(hf.sp op ho y hy b hb hs).1, fun e => by rw [hf.g op ho]; exact (hf.sp op ho y hy b hb hs).2 e⟩, fun op ho => by rw [show (G.view gs.size w t).wg = wg from hw]; exact h.rel i fn ps op ho, fun j hj i' hi' hs' => ?_, fun op ho hs' c => ?_⟩
  · have e : i' = i := by
      obtain ⟨op, ho, hog⟩ := Option.map_eq_some_iff.1 hi'
      rcases getElem?_append_cases ho with ⟨hlt, _⟩ | ⟨_, hou⟩
      · have : (G.view gs.size w t).t = t := rfl
        rw [this] at hlt hj; omega
      · rw [hf.g op hou] at hog; exact hog.symm
    subst e
    have hs' : (G.rk i').1 ≤ 6 := hs'
    rcases hs with hs | ⟨hs, hD⟩
    · omega
    · exact not_counts (t := t) (fun k e he => by rw [hs]; exact hD.deaf k e he) j hj i' hi'
  · rw [ofEvents_eq] at ho
    obtain ⟨ev, he, rfl⟩ := Array.mem_map.1 ho
    rcases hs with hs | ⟨_, hD⟩
    · have hs' : (G.rk i).1 ≤ 6 := hs'
      omega
    · exact hD.cl ev he c
/-- At the group's block alone. -/
theorem Inv.okOut (h : Inv P W StopM StopW w0 n0 gs w t G) (hi : 1 ≤ i) (hi' : i < gs.size) {wg d' : Nat} (hw : G.wg = wg) (hsp : G.Sp wg) (hsk : SK t (Knows t i) wg) (hu : OutU wg es) (hne : ∀ b, b ≠ wg → w'.heap[b]? = w.heap[b]?) (hsz : w'.heap.size = w.heap.size) {st' sm' : Int} (hww : w'.heap[wg]? = some (wgBlock W.wgT st' sm'))
    (hos : w'.os = w.os) (htp : w'.tape = w.tape) (hot : w'.output = w.output) (fn : FuncId) (ps : String) (hph : Phase W ((G.out i r' (newpk P x g' w') d').view gs.size w' (t ++ MemOp.ofEvents i fn ps es))) :
    GoOk P W n0 w0 gs w w' t (MemOp.ofEvents i fn ps es) G (G.out i r' (newpk P x g' w') d') i (newpk P x g' w') := by
  have hsy := hu.sync i fn ps
  have hfit := h.hp.ufitS hsp hsy
  have hn0 := (h.hp.sp wg hsp).2.1
  refine ⟨h.hp.world wg hsp hsz hne, h.tb.app hi' (by rw [hsz]; exact Nat.le_refl _) (by rw [hsz]; exact hfit) (sync_knows hsk (fun e => by omega) hsy), fun j => Cov.appS h.hp hsp hsy (h.cov j) fun c hc => hc.app _, Cov.appS h.hp hsp hsy h.cov0 fun c hc => hc.app _, g_of_ofEvents, fun j hj => Gho.out_oth hj, fun j hj h1 h2 h3 h4 => ⟨rfl, fun _ => by rw [hw]; exact ⟨st', sm', hww⟩⟩, h.hp.rel0S hsp hne, fun a v hv => hv, fun j h1 h2 c hc => ?_, hph, hos.trans h.os, htp.trans h.tape, hot.trans h.output, fun b hb => (hne b (by omega)).trans (h.old b hb)⟩
  by_cases e : j = i
  · subst e
    have : (if j = j then none else newpk P x g' w' (G.pk j)) = some (some c) := hc
    rw [if_pos rfl] at this; cases this
  · rw [(Gho.out_oth e).2.2.1] at hc
    obtain ⟨h3, h4⟩ := h.pkSp h2 (newpk_some hc).1
    by_cases ec : c = wg
    · subst ec; unfold closedAt; rw [hww]; rfl
    · rw [closedAt_same (hne c ec)]; exact h4
/-- HIS LAST STEPS. -/
theorem Inv.wOut (h : Inv P W StopM StopW w0 n0 gs w t G) (hi : 1 ≤ i) (hx : gs[i]? = some x) {A1 A2 : Anch} {s m d : Nat} (hr : G.rk i = (s, .leaf, m)) (hp : G.pk i = none) (hd : G.dd i = d) (hs2 : 2 ≤ s) (hds : DS P W.wgT G.wg A1 A2 x w s m d) (ha1 : A1.Ok G.RO w) (ha2 : A2.Ok G.RO w) :
    NextOk P W StopM StopW w0 n0 (crowd gs w sl) t (mu G gs.size) i := by
  have hi' := (Array.getElem?_eq_some_iff.1 hx).1
  have hs7 := hds.le7
  have hsg : (G.view gs.size w t).sg i = s := by show (G.rk i).1 = s; rw [hr]
  obtain ⟨X, q, wg, mm, b, first, T, ss, hrn, hl, hf⟩ := h.ph.worker hi hi' (by rw [hsg]; omega)
  obtain ⟨a, rfl⟩ : ∃ a, i = first + a := ⟨i - first, by omega⟩
  have f1 := hrn.f1
  cases hl with
  | par a1 a2 a3 => have := (a3.wk _ hf hi').1; rw [hsg] at this; omega
  | shut p0 pq st sm a0 a1 a2 =>
    subst a0
    have haM : a < mm := by have := a2.N; have : first + a < first + mm := by rw [← a2.N]; exact hi'
                            omega
    have hewg : G.wg = wg := a2.ewg
    have hspw : G.Sp wg := a2.spw
    have hw : w.heap[wg]? = some (wgBlock W.wgT st sm) := a2.hw
    have hsk : SK t (Knows t (first + a)) wg := a2.dn _ hf hi' (by rw [hsg]; omega)
    have hqw : q ≠ wg := fun e => by
      have h1 : w.heap[q]? = _ := a2.hq
      rw [e, hw] at h1; cases h1
    have hrun := hds.running (by omega)
    have hD : Deaf t (first + a) = d := by rw [h.deafW _ hi hi', hd]
    have hWg : WgAt W.wgT G.wg w st sm := by rw [hewg]; exact hw
    have hlen : wg < w.heap.size := (Array.getElem?_eq_some_iff.1 hw).1
    have hst : stA wg = ⟨wg, 0, none⟩ := rfl
    have setne : ∀ (ad : Addr) v b, ad.block = wg → b ≠ wg → (w.setCell ad v).heap[b]? = w.heap[b]? := fun ad v b h1 h2 => by simp [World.setCell, Array.getElem?_modify, h1, Ne.symm h2]
    have setsz : ∀ (ad : Addr) v, (w.setCell ad v).heap.size = w.heap.size := fun ad v => by simp [World.setCell]
    have at5 : s = 5 → ∃ v wt : Nat, wt ≤ 1 ∧ v < mm ∧ st = ((v : Int) + 1) * KK + wt ∧ sm = 0 ∧ ∀ V', Stg (G.view gs.size w t) V' first a (if v = 0 ∧ wt = 1 then 4 else 1) → Md V' X q wg mm b first ((v : Int) * KK + wt) 0 := fun e => a2.md.at5 haM (by rw [hsg, e])
    have lst : (s = 4 ∨ s = 3 ∨ s = 2) → st = (if s = 2 then 0 else 1) ∧ sm = 0 := fun e => by
      obtain ⟨_, _, h1, h2⟩ := a2.md.isLast haM (by rw [hsg]; exact e)
      rw [hsg] at h1
      exact ⟨h1, h2⟩
    obtain ⟨v, wt, h5⟩ : ∃ v wt : Nat, s = 5 → wt ≤ 1 ∧ v < mm ∧ st = ((v : Int) + 1) * KK + wt ∧ sm = 0 ∧ ∀ V', Stg (G.view gs.size w t) V' first a (if v = 0 ∧ wt = 1 then 4 else 1) → Md V' X q wg mm b first ((v : Int) * KK + wt) 0 := by
      by_cases e : s = 5
      · obtain ⟨v, wt, h⟩ := at5 e
        exact ⟨v, wt, fun _ => h⟩
      · exact ⟨0, 0, fun e' => absurd e' e⟩
    have m31 := a2.m31
    obtain ⟨g', w', es, s', m', d', hgo, hmv, hds', hlt⟩ := ds_step (v := v) (wt := wt) hds hrun (fun e => by
      obtain ⟨x1, x2, x3, x4, _⟩ := h5 e
      exact ⟨x1, by omega, by rw [← x3]; rw [x4] at hWg; exact hWg⟩) (fun e => by
      obtain ⟨x1, x2⟩ := lst (by omega)
      rw [if_neg (by omega)] at x1
      rw [x1, x2] at hWg; exact hWg) (fun e => by
      obtain ⟨x1, x2⟩ := lst (by omega)
      rw [if_pos e] at x1
      rw [x1, x2] at hWg; exact hWg)
    have hrlt : ∀ m'', (s' < s ∨ (s' = s ∧ m'' < m)) → Rank.Lt (s', Tree.leaf, m'') (G.rk (first + a)) := fun m'' hh => by
      rw [hr]
      rcases hh with hh | ⟨rfl, hh⟩
      · exact Rank.stage hh
      · exact Rank.fuel hh
    -- he goes on, or only leaves
    have hme : ∀ {w'' : World}, Rel0 G.RO w w'' → DS P W.wgT G.wg A1 A2 g' w'' s' m' d' → WkS P W StopW G.wg G.RO g' (G.K (first + a + 1)) w'' (s', .leaf, m') none d' := fun hre hh => by
      have k1 : A1.Ok G.RO _ := ⟨ha1.ro, hre.ro _ _ ha1.ro, hre.void ⟨A1.C, A1.i, none⟩ _ (by rw [ha1.ro]; simp) rfl ha1.void⟩
      have k2 : A2.Ok G.RO _ := ⟨ha2.ro, hre.ro _ _ ha2.ro, hre.void ⟨A2.C, A2.i, none⟩ _ (by rw [ha2.ro]; simp) rfl ha2.void⟩
      by_cases e : 2 ≤ s'
      · exact .dn e hh k1 k2
      · cases hh with
        | r0 => omega
        | aft1 hl6 hw6 => cases hw6 <;> first | omega | exact .qt ‹_›
        | aft2 hl6 hw6 => cases hw6 <;> first | omega | exact .qt ‹_›
    -- nothing of the protocol turns
    have same : s' = s → w'.heap = w.heap → w'.os = w.os → w'.tape = w.tape → w'.output = w.output → OutU wg es → (6 < s ∨ OutD d es) → deafBehind d es = d' → NextOk P W StopM StopW w0 n0 (crowd gs w sl) t (mu G gs.size) (first + a) := fun e1 e2 e3 e4 e5 hu hD2 e6 => by
      subst e1
      refine h.outGo (r' := (s', .leaf, m')) (d' := d') hi hx hgo (h.okOut hi hi' hewg hspw hsk hu (fun b _ => by rw [e2]) (by rw [e2]) (by rw [e2]; exact hw) e3 e4 e5 _ _ ?_) (by rw [hd]; exact e6) (hme (rel0_heap h.hp.rosat e2) hds') (hrlt m' hlt)
      rw [outV_same (w := w) (by rw [hr])]
      have hg := hu.gr h hi hewg hspw (hD2.imp (fun e => by rw [hr]; exact e) fun e => ⟨hD, e⟩) x.frame.fn x.frame.place
      refine h.ph.gr hg (fun a v hv => hv) (fun j => ?_) fun b hb => by show w'.heap[b]? = w.heap[b]?; rw [e2]
      by_cases hj : j < gs.size
      · exact h.pkNext hp (fun _ _ => by rw [e2]) hj
      · left
        show (if j = first + a then none else newpk P x g' w' (G.pk j)) = G.pk j
        rw [if_neg (by omega), h.pko j (by omega)]; rfl
    -- the stage turns
    have turn : ∀ (st' sm' : Int), s' ≠ 9 → (∀ b, b ≠ wg → w'.heap[b]? = w.heap[b]?) → w'.heap.size = w.heap.size → w'.heap[wg]? = some (wgBlock W.wgT st' sm') → w'.os = w.os → w'.tape = w.tape → w'.output = w.output → OutU wg es → (6 < s ∨ OutD d es) → deafBehind d es = d' →
        (s' ≤ 6 → RelI (t ++ MemOp.ofEvents (first + a) x.frame.fn x.frame.place es) wg p0 (first + a)) → (∀ V', Stg (G.view gs.size w t) V' first a s' → V'.pk = (fun j => if j = first + a then none else newpk P x g' w' (G.pk j)) → Md V' X q wg mm b first st' sm') → NextOk P W StopM StopW w0 n0 (crowd gs w sl) t (mu G gs.size) (first + a) := fun st' sm' e0 e1 e2 e3 e4 e5 e6 hu hD2 e7 hrel hmd => by
      refine h.outGo (r' := (s', .leaf, m')) (d' := d') hi hx hgo (h.okOut hi hi' hewg hspw hsk hu e1 e2 e3 e4 e5 e6 _ _ ?_) (by rw [hd]; exact e7) (hme (h.hp.rel0S hspw e1) hds') (hrlt m' hlt)
      have hg := hu.gr h hi hewg hspw (hD2.imp (fun e => by rw [hr]; exact e) fun e => ⟨hD, e⟩) x.frame.fn x.frame.place
      have hr1 := hrn.gr (RO' := G.RO) (pk' := G.pk) (hp' := fun b => w.heap[b]?) hg (fun a v hv => hv) fun j hj => rfl
      have hs1 := a2.gr (RO' := G.RO) (pk' := G.pk) (hp' := fun b => w.heap[b]?) hg (fun a => .inl rfl) fun x hx => rfl
      have hrs := hr1.stage (i := first + a) (by omega) (fun hh => by have := hh.2.2; rw [show ((G.view gs.size w t).next G.RO G.pk (fun b => w.heap[b]?) (MemOp.ofEvents (first + a) x.frame.fn x.frame.place es)).sg (first + a) = s from hsg] at this; omega) e0 ((G.view gs.size w t).gh (first + a))
      have hss := hs1.stage haM f1 e0 ((G.view gs.size w t).gh (first + a)) (fun b => w'.heap[b]?) (fun j => if j = first + a then none else newpk P x g' w' (G.pk j)) st' sm' (fun y hy => e1 y hy) e3 hqw ((hsk.gr hg hspw fun c hc => hc.app _)) hrel (hmd _ ⟨?_, rfl, fun h0 => ?_⟩ rfl)
      · have hV : (G.out (first + a) (s', .leaf, m') (newpk P x g' w') d').view gs.size w' (t ++ MemOp.ofEvents (first + a) x.frame.fn x.frame.place es) = { ((G.view gs.size w t).next G.RO G.pk (fun b => w.heap[b]?) (MemOp.ofEvents (first + a) x.frame.fn x.frame.place es)) with gh := upd ((G.view gs.size w t).next G.RO G.pk (fun b => w.heap[b]?) (MemOp.ofEvents (first + a) x.frame.fn x.frame.place es)).gh (first + a) ((G.view gs.size w t).gh (first + a)), sg := upd ((G.view gs.size w t).next G.RO G.pk (fun b => w.heap[b]?) (MemOp.ofEvents (first + a) x.frame.fn x.frame.place es)).sg (first + a) s', hp := fun b => w'.heap[b]?, pk := fun j => if j = first + a then none else newpk P x g' w' (G.pk j) } := by
          rw [outV (w := w) (t := t)]
          refine View.eq_of (fun c => ?_) rfl rfl rfl rfl rfl rfl (fun _ => rfl) (fun _ => rfl) rfl (fun _ => rfl) rfl
          show (G.view gs.size w t).gh c = upd (G.view gs.size w t).gh (first + a) ((G.view gs.size w t).gh (first + a)) c
          by_cases e : c = first + a
          · subst e; rw [upd_same]
          · rw [upd_ne _ _ e]
        rw [hV]
        have hrs' : Rnd W { ((G.view gs.size w t).next G.RO G.pk (fun b => w.heap[b]?) (MemOp.ofEvents (first + a) x.frame.fn x.frame.place es)) with gh := upd ((G.view gs.size w t).next G.RO G.pk (fun b => w.heap[b]?) (MemOp.ofEvents (first + a) x.frame.fn x.frame.place es)).gh (first + a) ((G.view gs.size w t).gh (first + a)), sg := upd ((G.view gs.size w t).next G.RO G.pk (fun b => w.heap[b]?) (MemOp.ofEvents (first + a) x.frame.fn x.frame.place es)).sg (first + a) s', hp := fun b => w'.heap[b]?, pk := fun j => if j = first + a then none else newpk P x g' w' (G.pk j) } X first T X.n := by
          refine ⟨hrs.sp, fun j hj => (e1 _ fun e => ?_).trans (hrs.ex j hj), hrs.inj, hrs.Ts, hrs.sn, hrs.pub, ?_, hrs.f1, hrs.fN, hrs.uniq, hrs.all, hrs.jobs, hrs.tk, hrs.skx, hrs.sk0, hrs.gone⟩
          · exact hrn.wg_ne ⟨st, sm, hw⟩ j hj e.symm
          · cases hrs.tok with
            | air t1 t2 t3 t4 => exact .air t1 t2 t3 t4
            | held c t1 t2 t3 => exact .held c t1 t2 t3
        exact .shut X q wg mm b first T p0 pq st' sm' a1 hrs' hss
      · exact upd_ne _ _ (by omega)
      · have h0 : G.pk 0 = none := h0
        show (if 0 = first + a then none else newpk P x g' w' (G.pk 0)) = none
        rw [h0]; split <;> rfl
    have rels : ∀ (hu : OutU wg es), OutD d es → s ≤ 6 → RelI (t ++ MemOp.ofEvents (first + a) x.frame.fn x.frame.place es) wg p0 (first + a) := fun hu hD2 h6 =>
      (a2.rel _ hf hi' (by rw [hsg]; exact h6)).gr (hu.gr h hi hewg hspw (.inr ⟨hD, hD2⟩) x.frame.fn x.frame.place) (by rw [hsg]; exact h6)
    have one : ∀ (e0 : Event), ((∃ wr, e0 = ⟨.cell (stA wg), wr, true⟩) ∨ e0 = Go.ConcR.mk .disable ∨ e0 = Go.ConcR.mk (.releaseMerge (stA wg))) → OutU wg #[e0] := fun e0 hh => by
      refine ⟨fun e he => ?_⟩
      simp only [List.mem_toArray, List.mem_singleton] at he
      subst he
      rcases hh with ⟨wr, rfl⟩ | rfl | rfl
      · refine ⟨fun y hy => ?_, by simp⟩
        cases wr <;> simp [MemAct.ofEvent, MemAct.touch?] at hy <;> subst hy <;> exact ⟨⟨_, rfl, rfl⟩, by simp, by simp⟩
      · exact ⟨fun y hy => by simp [Go.ConcR.mk, MemAct.ofEvent, MemAct.touch?] at hy, by simp [Go.ConcR.mk]⟩
      · exact ⟨fun y hy => by simp [Go.ConcR.mk, MemAct.ofEvent, MemAct.touch?] at hy, by simp [Go.ConcR.mk]⟩
    have oneD : ∀ (e0 : Event), ((∃ ad wr, e0 = ⟨.cell ad, wr, true⟩) ∧ 0 < d ∨ e0 = Go.ConcR.mk .disable) → OutD d #[e0] := fun e0 hh => by
      refine ⟨fun k e he => ?_, fun e he c => ?_⟩
      · match k, he with
        | 0, he =>
          simp at he; subst he
          rcases hh with ⟨⟨ad, wr, rfl⟩, hd0⟩ | rfl
          · exact .inr ⟨⟨_, _, rfl⟩, by simpa [deafBehind] using hd0⟩
          · exact .inl rfl
        | k + 1, he => simp at he
      · simp only [List.mem_toArray, List.mem_singleton] at he
        subst he
        rcases hh with ⟨⟨ad, wr, rfl⟩, _⟩ | rfl
        · cases wr <;> simp [MemAct.ofEvent]
        · simp [Go.ConcR.mk, MemAct.ofEvent]
    have noMark : ∀ (e0 : Event) dd, (∃ ad wr, e0 = ⟨.cell ad, wr, true⟩) → deafBehind dd #[e0] = dd := fun e0 dd ⟨ad, wr, e⟩ => by subst e; simp [deafBehind]
    rw [hewg] at hmv
    cases hmv with
    | idle7 e1 e2 e3 e4 hev => exact same rfl e1 e2 e3 e4 ⟨fun e he => ⟨(hev e he).1, (hev e he).2.2.2⟩⟩ (.inl (by omega)) (Go.ConcN.deafBehind_idle (fun e he => ⟨(hev e he).2.1, (hev e he).2.2.1⟩) 0)
    | rel =>
      have hu := one _ (.inr (.inr rfl))
      refine turn st sm (by omega) (fun _ _ => rfl) rfl hw rfl rfl rfl hu (.inl (by omega)) (by simp [deafBehind, Go.ConcR.mk]) (fun _ => ?_) fun V' hV _ => a2.md.counted hV haM (by rw [hsg]; omega) (.inr (.inl rfl))
      refine ⟨t.size, RelBy.new hD _ _, a2.ep0, fun j c hc hgj => ?_⟩
      have hlt := lt_of_act? hc
      rcases Nat.lt_or_ge j t.size with hj | hj
      · exact hj
      · exfalso
        obtain ⟨op, ho, hoa⟩ := Option.map_eq_some_iff.1 hc
        rcases getElem?_append_cases ho with ⟨hj', _⟩ | ⟨_, hou⟩
        · omega
        · rw [ofEvents_eq] at hou
          simp [Go.ConcR.mk, MemAct.ofEvent] at hou
          subst hou
          simp at hoa
    | idle e1 e2 => exact same rfl rfl rfl rfl rfl ⟨by simp⟩ (.inr ⟨by simp, by simp⟩) rfl
    | dis =>
      have hu := one _ (.inr (.inl rfl))
      have hu2 := oneD _ (.inr rfl)
      exact turn st sm (by omega) (fun _ _ => rfl) rfl hw rfl rfl rfl hu (.inr hu2) (by simp [deafBehind, Go.ConcR.mk]) (fun _ => rels hu hu2 (by omega)) fun V' hV _ => a2.md.counted hV haM (by rw [hsg]; omega) (.inr (.inr rfl))
    | @add _ v' wt' e0 e1 =>
      obtain ⟨x1, x2, x3, x4, x5⟩ := h5 rfl
      have hst' : (((v' : Int) + 1) * KK + wt') = st := by
        have e1' : w.heap[wg]? = some (wgBlock W.wgT (((v' : Int) + 1) * KK + wt') 0) := e1
        rw [hw] at e1'
        injection e1' with e1'
        simp only [wgBlock, Obj.cells.injEq] at e1'
        have := e1'.1
        simp at this
        exact this.1.symm
      have hvv : v' = v ∧ wt' = wt := by
        rw [x3] at hst'
        simp only [KK] at hst'
        omega
      obtain ⟨rfl, rfl⟩ := hvv
      have hu : OutU wg #[rd (stA wg), wr (stA wg)] := by
        refine ⟨fun e he => ?_⟩
        simp only [List.mem_toArray, List.mem_cons, List.not_mem_nil, or_false] at he
        rcases he with rfl | rfl
        · refine ⟨fun y hy => ?_, by simp [rd]⟩
          simp [rd, MemAct.ofEvent, MemAct.touch?] at hy
          subst hy
          exact ⟨⟨_, rfl, rfl⟩, by simp, by simp⟩
        · refine ⟨fun y hy => ?_, by simp [wr]⟩
          simp [wr, MemAct.ofEvent, MemAct.touch?] at hy
          subst hy
          exact ⟨⟨_, rfl, rfl⟩, by simp, by simp⟩
      have hu2 : OutD 1 #[rd (stA wg), wr (stA wg)] := by
        refine ⟨fun k e he => ?_, fun e he c => ?_⟩
        · match k, he with
          | 0, he => simp at he; subst he; exact .inr ⟨⟨_, _, rfl⟩, by simp [deafBehind]⟩
          | 1, he => simp at he; subst he; exact .inr ⟨⟨_, _, rfl⟩, by simp [deafBehind, rd]⟩
          | k + 2, he => simp at he
        · simp only [List.mem_toArray, List.mem_cons, List.not_mem_nil, or_false] at he
          rcases he with rfl | rfl <;> simp [rd, wr, MemAct.ofEvent]
      exact turn ((v' : Int) * KK + wt') 0 (by split <;> omega) (fun b hb => setne _ _ _ rfl hb) (setsz _ _) (Go.ConcR.WgAt.setSt e1 _) rfl rfl rfl hu (.inr hu2) (by simp [deafBehind, rd, wr]) (fun _ => rels hu hu2 (by omega)) fun V' hV _ => x5 V' hV
    | ld e1 =>
      have hu := one _ (.inl ⟨false, rfl⟩)
      have hu2 := oneD (rd (stA wg)) (.inl ⟨⟨_, _, rfl⟩, by omega⟩)
      obtain ⟨x1, x2⟩ := lst (by omega)
      refine turn 1 0 (by omega) (fun _ _ => rfl) rfl e1 rfl rfl rfl hu (.inr hu2) (noMark _ _ ⟨_, _, rfl⟩) (fun _ => rels hu hu2 (by omega)) fun V' hV _ => ?_
      have := a2.md.last' haM (by rw [hsg]; omega) hV (.inl rfl)
      simpa using this
    | st e1 =>
      have hu := one _ (.inl ⟨true, rfl⟩)
      have hu2 := oneD (wr (stA wg)) (.inl ⟨⟨_, _, rfl⟩, by omega⟩)
      have e1' := e1
      refine turn 0 0 (by omega) (fun b hb => setne _ _ _ rfl hb) (setsz _ _) (Go.ConcR.WgAt.setSt e1 0) rfl rfl rfl hu (.inr hu2) (noMark _ _ ⟨_, _, rfl⟩) (fun _ => rels hu hu2 (by omega)) fun V' hV _ => ?_
      have := a2.md.last' haM (by rw [hsg]; omega) hV (.inr rfl)
      simpa using this
    | sem e1 e2 e3 =>
      have hu : OutU wg (semEvents (smA wg)) := by
        refine ⟨fun e he => ?_⟩
        simp only [semEvents, List.mem_toArray, List.mem_cons, List.not_mem_nil, or_false] at he
        rcases he with rfl | rfl | rfl | rfl
        · exact ⟨fun y hy => by simp [MemAct.ofEvent, MemAct.touch?] at hy, by simp⟩
        · refine ⟨fun y hy => ?_, by simp⟩
          simp [MemAct.ofEvent, MemAct.touch?] at hy
          subst hy
          exact ⟨⟨_, rfl, rfl⟩, by simp, by simp⟩
        · refine ⟨fun y hy => ?_, by simp⟩
          simp [MemAct.ofEvent, MemAct.touch?] at hy
          subst hy
          exact ⟨⟨_, rfl, rfl⟩, by simp, by simp⟩
        · exact ⟨fun y hy => by simp [MemAct.ofEvent, MemAct.touch?] at hy, by simp⟩
      have hu2 : OutD 1 (semEvents (smA wg)) := by
        refine ⟨fun k e he => ?_, fun e he c => ?_⟩
        · match k, he with
          | 0, he => simp [semEvents] at he; subst he; exact .inl rfl
          | 1, he => simp [semEvents] at he; subst he; exact .inr ⟨⟨_, _, rfl⟩, by simp [deafBehind, semEvents]⟩
          | 2, he => simp [semEvents] at he; subst he; exact .inr ⟨⟨_, _, rfl⟩, by simp [deafBehind, semEvents]⟩
          | 3, he => simp [semEvents] at he; subst he; exact .inl rfl
          | k + 4, he => simp [semEvents] at he
        · simp only [semEvents, List.mem_toArray, List.mem_cons, List.not_mem_nil, or_false] at he
          rcases he with rfl | rfl | rfl | rfl <;> simp [MemAct.ofEvent]
      have hwk : wakesB P x g' = true := by
        unfold wakesB
        rw [e2, e3]
        rfl
      obtain ⟨hreg, _, _, _⟩ := a2.md.isLast haM (by rw [hsg]; omega)
      have hpk0 : newpk P x g' (w.setCell (smA wg) (.int .u32 1)) (G.pk 0) = none := by
        cases hpp : G.pk 0 with
        | none => rfl
        | some o =>
          cases o with
          | none => simp only [newpk, hwk, if_true]
          | some c =>
            obtain ⟨X2, wg2, m2, s2, b2, h1, _⟩ := h.mainPk hpp
            rw [hreg] at h1; cases h1
      refine turn 0 1 (by omega) (fun b hb => setne _ _ _ rfl hb) (setsz _ _) (Go.ConcR.WgAt.setSm e1 1) rfl rfl rfl hu (.inr hu2) (by simp [deafBehind, semEvents]) (fun _ => rels hu hu2 (by omega)) fun V' hV hVp => ?_
      refine a2.md.sem' haM hsg hV ?_
      rw [hVp]
      show (if 0 = first + a then none else newpk P x g' (w.setCell (smA wg) (.int .u32 1)) (G.pk 0)) = none
      rw [hpk0]; split <;> rfl
    | quit e1 => omega
end
end Go.Proofs.Ytacfhfeegalmlaa

/- THE MACHINE's INVARIANT: the main one: own steps, marks, views; Wait. -/
namespace Go.Proofs.Ytacfhfeegalmlaa
open Go.Conc
open Go.ConcR (KK wgBlock WgAt stA smA rd wr mk DC0 g_of_ofEvents)
open Go.ConcN (upd upd_same upd_ne WgLive RelBy sumTo sumTo_congr sumTo_upd le_sumTo sumTo_le get_map_set get_map_set_same AtR0)
set_option linter.unusedVariables false
set_option linter.unusedSimpArgs false

theorem or_some {α : Type} {a b : Option α} {v : α} (h : a.or b = some v) : a = some v ∨ b = some v := by
  cases a with
  | none => exact .inr (by simpa using h)
  | some y => exact .inl (by simpa using h)
theorem or_ne {α : Type} {a b : Option α} (h : a.or b ≠ none) : a ≠ none ∨ b ≠ none := by
  cases a with
  | none => exact .inr (by simpa using h)
  | some y => exact .inl (by simp)
/-- The token comes. -/
theorem HInv.joinTok {K : Nat → Kn} {RO : Addr → Option Value} {Sp : Nat → Prop} {n0 : Nat} {w : World} (h : HInv K RO Sp n0 w) {p0 : Nat} (hp0 : p0 ≠ 0) {kj : Kn} (jown : ∀ b, kj.own b = ((K p0).own b).or ((K 0).own b)) (joc : ∀ b, kj.oc b = ((K p0).oc b).or ((K 0).oc b)) (jro : ∀ b, kj.ro b = ((K p0).ro b).or ((K 0).ro b)) :
    HInv (upd (upd K p0 kj) 0 Kn.emp) RO Sp n0 w := by
  have K0 : ∀ {p}, (upd (upd K p0 kj) 0 Kn.emp) p = if p = 0 then Kn.emp else if p = p0 then kj else K p := fun {p} => by unfold upd; rfl
  refine h.redist (fun p b o ho => ?_) (fun p b o ho => ?_) (fun p b o ho => ?_) (fun p p' b hpp hb => ?_) (fun p p' b hpp hb => ?_)
  · rw [K0] at ho
    split at ho
    · cases ho
    · split at ho
      · rw [jown] at ho; exact (or_some ho).elim (fun e => ⟨_, e⟩) fun e => ⟨_, e⟩
      · exact ⟨p, ho⟩
  · rw [K0] at ho
    split at ho
    · cases ho
    · split at ho
      · rw [joc] at ho; exact (or_some ho).elim (fun e => ⟨_, e⟩) fun e => ⟨_, e⟩
      · exact ⟨p, ho⟩
  · rw [K0] at ho
    split at ho
    · cases ho
    · split at ho
      · rw [jro] at ho; exact (or_some ho).elim (h.ro _ _ _) (h.ro _ _ _)
      · exact h.ro _ _ _ ho
  · rw [K0] at hb ⊢
    by_cases e0 : p' = 0
    · rw [if_pos e0]; rfl
    rw [if_neg e0]
    by_cases e1 : p = 0
    · rw [if_pos e1] at hb; exact absurd rfl hb
    rw [if_neg e1] at hb
    by_cases e2 : p' = p0
    · rw [if_pos e2, jown]
      rw [if_neg (fun e => hpp (e.trans e2.symm))] at hb
      rw [h.oo p p0 b (fun e => hpp (e.trans e2.symm)) hb, h.oo p 0 b e1 hb]; rfl
    · rw [if_neg e2]
      by_cases e3 : p = p0
      · rw [if_pos e3, jown] at hb
        rcases or_ne hb with hb | hb
        · exact h.oo p0 p' b (fun e => e2 e.symm) hb
        · exact h.oo 0 p' b (fun e => e0 e.symm) hb
      · rw [if_neg e3] at hb; exact h.oo p p' b hpp hb
  · rw [K0] at hb ⊢
    by_cases e0 : p' = 0
    · rw [if_pos e0]; rfl
    rw [if_neg e0]
    by_cases e1 : p = 0
    · rw [if_pos e1] at hb; exact absurd rfl hb
    rw [if_neg e1] at hb
    by_cases e2 : p' = p0
    · rw [if_pos e2, joc]
      rw [if_neg (fun e => hpp (e.trans e2.symm))] at hb
      rw [h.cc p p0 b (fun e => hpp (e.trans e2.symm)) hb, h.cc p 0 b e1 hb]; rfl
    · rw [if_neg e2]
      by_cases e3 : p = p0
      · rw [if_pos e3, joc] at hb
        rcases or_ne hb with hb | hb
        · exact h.cc p0 p' b (fun e => e2 e.symm) hb
        · exact h.cc 0 p' b (fun e => e0 e.symm) hb
      · rw [if_neg e3] at hb; exact h.cc p p' b hpp hb
section
variable {P : Program} {W : Who} {StopM StopW : Kn → Goroutine → Prop} {w0 : World} {n0 : Nat} {gs gs' : Array Goroutine} {w w' : World} {t u : Trace} {G G' : Gho} {i j : Nat} {x g g' : Goroutine} {es : Array Event} {k' k0 : Kn} {pos wg' : Nat} {RO' : Addr → Option Value} {Sp' : Nat → Prop} {r' : Rank} {np : Pk → Pk} {sl : Option (Nat × Nat)} {p : Pk} {f : Kn × Goroutine → Tree}
theorem Inv.mStep (hy : Hyp P W StopM StopW) (h : Inv P W StopM StopW w0 n0 gs w t G) (hx : gs[0]? = some x) (ha : Act' x g) (hr : G.rk 0 = (9, .mk f, 0)) (hp : G.pk 0 = none)
    (nx : World → Kn) (h1 : ∀ w, (G.K 1).Sat w → (stepG P true g w).goes fun _ w' es => (G.K 1).Step (nx w) w w' es) (h2 : ∀ w g' w' es, (G.K 1).Sat w → stepG P true g w = .go g' w' es → GKR P (W.as true) StopM (f (nx w, g')) (nx w) g') :
    NextOk P W StopM StopW w0 n0 (crowd gs w sl) t (mu G gs.size) 0 := by
  have hi' := (Array.getElem?_eq_some_iff.1 hx).1
  have hs := h.sat0
  obtain ⟨g', w', es, hgo, hst⟩ := goes_elim (h1 w hs)
  have hG := h2 w g' w' es hs hgo
  have h9 : (G.rk 0).1 = 9 := by rw [hr]
  refine h.gone0 hx (by rw [ha.step]; exact hgo) (h.okStep (i := 0) (r' := (9, f (nx w, g'), 0)) hi' hst h9 hp rfl _ _) ?_ ?_ ?_ ?_
  · rw [Gho.turn_K (i := 0), Gho.turn_rk, Gho.turn_pk]
    exact .run hG (.refl (GKR.running hy.stopM hG))
  · rw [Deaf_own, (lets_nomark (i := 0) hst.evs (fn := 0) (pos := "")).2.2, h.deaf0, Gho.turn_K (i := 0), hst.deaf]
  · rw [Gho.turn_K (i := 0), hst.gh]
  · rw [Gho.turn_rk, hr]; exact Rank.child
theorem Inv.mMark (hy : Hyp P W StopM StopW) (h : Inv P W StopM StopW w0 n0 gs w t G) (hx : gs[0]? = some x) (ha : Act' x g) (hr : G.rk 0 = (9, .mk f, 0)) (hp : G.pk 0 = none)
    {m : Mark} (hm : tameMark m = true) (h1 : ∀ w, stepG P true g w = .go g' w #[⟨.mark m, false, true⟩]) (hG : GKR P (W.as true) StopM (f ((G.K 1).said m, g')) ((G.K 1).said m) g') :
    NextOk P W StopM StopW w0 n0 (crowd gs w sl) t (mu G gs.size) 0 := by
  have hi' := (Array.getElem?_eq_some_iff.1 hx).1
  have h9 : (G.rk 0).1 = 9 := by rw [hr]
  refine h.gone0 hx (by rw [ha.step]; exact h1 w) (h.okMark (i := 0) (r' := (9, f ((G.K 1).said m, g'), 0)) hi' hm h9 hp rfl _ _) ?_ ?_ ?_ ?_
  · rw [Gho.turn_K (i := 0), Gho.turn_rk, Gho.turn_pk]
    exact .run hG (.refl (GKR.running hy.stopM hG))
  · rw [Deaf_own, h.deaf0, Gho.turn_K (i := 0)]
    exact (tame_fact (i := 0) hm 0 "").2 _
  · rw [Gho.turn_K (i := 0)]
    have : ((G.K 1).said m).gh = (G.K 1).gh := by cases m <;> rfl
    rw [this]
  · rw [Gho.turn_rk, hr]; exact Rank.child
theorem Inv.mTurn (h : Inv P W StopM StopW w0 n0 gs w t G) (hx : gs[0]? = some x) (ha : Act' x g) (hr : G.rk 0 = (9, .mk f, 0)) (hp : G.pk 0 = none)
    (ht : (G.K 1).Turn k') (hG : GKR P (W.as true) StopM (f (k', g)) k' g) : ∃ G', Inv P W StopM StopW w0 n0 gs w t G' ∧ Mu.Lt (mu G' gs.size) (mu G gs.size) := by
  have hi' := (Array.getElem?_eq_some_iff.1 hx).1
  have h9 : (G.rk 0).1 = 9 := by rw [hr]
  refine ⟨_, h.viewTurn (i := 0) (r' := (9, f (k', g), 0)) hi' ht h9 hp rfl (fun _ => ⟨x, hx, .run hG ha⟩) (fun e => by omega) (fun e => by omega), ?_⟩
  refine mu_lt (by rw [Gho.turn_K (i := 0), ht.gh]) (fun j hj => ?_) hi' (by rw [Gho.turn_rk, hr]; exact Rank.child)
  by_cases e : j = 0
  · subst e; exact .inr (by rw [Gho.turn_rk, hr]; exact Rank.child)
  · exact .inl (Gho.turn_oth e).2.1
/-! ### Wait -/
/-- What Wait lists. -/
structure WaitU (wg : Nat) (es : Array Event) : Prop where
  ev : ∀ e ∈ es, (∀ x, (MemAct.ofEvent e).touch? = some x → (∃ a, x.loc = .cell a ∧ a.block = wg) ∧ x.kind ≠ .plain) ∧ e.loc ≠ .mark (.release (stA wg))
theorem WaitU.sync {wg : Nat} (h : WaitU wg es) (fn : FuncId) (ps : String) : SyncU 0 wg (MemOp.ofEvents 0 fn ps es) := by
  refine ⟨g_of_ofEvents, fun op ho y hy => ?_⟩
  rw [ofEvents_eq] at ho
  obtain ⟨e, he, rfl⟩ := Array.mem_map.1 ho
  obtain ⟨⟨a, h1, h2⟩, h3⟩ := (h.ev e he).1 y hy
  exact ⟨by rw [h1]; show some a.block = _; rw [h2], h3, fun _ => rfl⟩
theorem WaitU.rel {wg : Nat} (h : WaitU wg es) (fn : FuncId) (ps : String) : ∀ op ∈ MemOp.ofEvents 0 fn ps es, op.act ≠ .mark (.release (stA wg)) := fun op ho e => by
  rw [ofEvents_eq] at ho
  obtain ⟨ev, he, rfl⟩ := Array.mem_map.1 ho
  exact (h.ev ev he).2 (Go.ConcR.loc_of_ofEvent e)
/-- A step of Wait. -/
theorem Inv.mWait (hy : Hyp P W StopM StopW) (h : Inv P W StopM StopW w0 n0 gs w t G) (hx : gs[0]? = some x) (ha : Act' x g) (hr : G.rk 0 = (9, .mk f, 0)) (hp : G.pk 0 = none)
    {X : RunC} {q wg m b : Nat} (hg : (∃ B, (G.K 1).gh = .shut X q wg m B b) ∨ (G.K 1).gh = .reg X q wg m b ∨ (G.K 1).gh = .fin X q wg m b) (hgo : stepG P true g w = .go g' w' es) (hu : WaitU wg es) (hdd : ∀ d, deafBehind d es = d)
    (hne : ∀ b, b ≠ wg → w'.heap[b]? = w.heap[b]?) (hsz : w'.heap.size = w.heap.size) {st' sm' : Int} (hww : w'.heap[wg]? = some (wgBlock W.wgT st' sm')) (hos : w'.os = w.os) (htp : w'.tape = w.tape) (hot : w'.output = w.output)
    {gh' : Gh} (hb : budget gh' = budget (G.K 1).gh) (hmd : ∀ V' : View, V'.gh 0 = gh' → V'.sg = (G.view gs.size w t).sg → V'.pk 0 = none → ∀ first st sm, Md (G.view gs.size w t) X q wg m b first st sm → w.heap[wg]? = some (wgBlock W.wgT st sm) → Md V' X q wg m b first st' sm')
    (hG : GKR P (W.as true) StopM (f ({ G.K 1 with gh := gh' }, g')) { G.K 1 with gh := gh' } g') : NextOk P W StopM StopW w0 n0 (crowd gs w sl) t (mu G gs.size) 0 := by
  have hi' := (Array.getElem?_eq_some_iff.1 hx).1
  have h9 : (G.rk 0).1 = 9 := by rw [hr]
  obtain ⟨first, T, p0, pq, st, sm, hlv, hrn, hsh⟩ := h.ph.inWait (X := X) (q := q) (wg := wg) (m := m) (b := b) hg
  have hewg : G.wg = wg := hsh.ewg
  have hspw : G.Sp wg := hsh.spw
  have hw : w.heap[wg]? = some (wgBlock W.wgT st sm) := hsh.hw
  have f1 := hrn.f1
  have hn0 := (h.hp.sp wg hspw).2.1
  obtain ⟨kn, hkn⟩ : ∃ kn : Kn, kn = { G.K 1 with gh := gh' } := ⟨_, rfl⟩
  rw [← hkn] at hG
  have n1 : kn.own = (G.K 1).own ∧ kn.oc = (G.K 1).oc ∧ kn.ro = (G.K 1).ro ∧ kn.deaf = (G.K 1).deaf ∧ kn.live = (G.K 1).live ∧ kn.gh = gh' := by rw [hkn]; exact ⟨rfl, rfl, rfl, rfl, rfl, rfl⟩
  clear hkn
  obtain ⟨n1, n2, n3, n4, n5, n6⟩ := n1
  have hsy := hu.sync x.frame.fn x.frame.place
  have hfit := h.hp.ufitS hspw hsy
  have hv := (h.hp.view 1 (k' := kn) (fun b o ho => by rw [n1] at ho; exact ho) (fun b o ho => by rw [n2] at ho; exact ho) (fun b o ho => by rw [n3] at ho; exact h.hp.ro _ _ _ ho)).world wg hspw hsz hne
  have hgr : Gr (G.view gs.size w t) (MemOp.ofEvents 0 x.frame.fn x.frame.place es) := Gr.of hfit (show (G.view gs.size w t).sg 0 = 9 from h9) (by rw [show (G.view gs.size w t).wg = wg from hewg]; exact hu.rel _ _)
  refine h.gone0 (G' := G.turn 0 kn G.RO (9, f (kn, g'), 0) (newpk P x g' w')) hx (by rw [ha.step]; exact hgo) ⟨hv, h.tb.app hi' (by rw [hsz]; exact Nat.le_refl _) (by rw [hsz]; exact hfit) (sync_knows hsh.sk0 (fun _ => hsh.ss) hsy), fun j => ?_, ?_, g_of_ofEvents, fun j hj => Gho.turn_oth hj, fun j hj h1 h2 h3 h4 => ⟨rfl, fun _ => by rw [hewg]; exact ⟨st', sm', hww⟩⟩, h.hp.rel0S hspw hne, fun a v hv => hv, fun j h1 h2 c hc => ?_, ?_, hos.trans h.os, htp.trans h.tape, hot.trans h.output, fun b hb => (hne b (by omega)).trans (h.old b hb)⟩ ?_ ?_ ?_ ?_
  · by_cases e : j = 0
    · subst e
      rw [Gho.turn_K (i := 0)]
      have c : Cov (t ++ MemOp.ofEvents 0 x.frame.fn x.frame.place es) (Knows (t ++ MemOp.ofEvents 0 x.frame.fn x.frame.place es) 0) (G.K 1) := Cov.appS h.hp hspw hsy (h.cov 0) fun c hc => hc.app _
      exact c.less (fun b hb => by rw [n1] at hb; exact hb) (fun b hb => by rw [n2] at hb; exact hb) (fun b hb => by rw [n3] at hb; exact hb)
    · rw [Gho.turn_Kne (by omega)]
      exact Cov.appS h.hp hspw hsy (h.cov j) fun c hc => hc.app _
  · rw [Gho.turn_Kne (by omega)]
    exact Cov.appS h.hp hspw hsy h.cov0 fun c hc => hc.app _
  · rw [(Gho.turn_oth (by omega)).2.2.1] at hc
    obtain ⟨h3, h4⟩ := h.pkSp h2 (newpk_some hc).1
    by_cases ec : c = wg
    · subst ec; unfold closedAt; rw [hww]; rfl
    · rw [closedAt_same (hne c ec)]; exact h4
  · rw [Gho.turn_view (w := w) (t := t) h9 rfl (fun _ => n5), n6]
    have hr1 := hrn.gr (RO' := G.RO) (pk' := G.pk) (hp' := fun b => w.heap[b]?) hgr (fun a v hv => hv) fun j hj => rfl
    have hs1 := hsh.gr (RO' := G.RO) (pk' := G.pk) (hp' := fun b => w.heap[b]?) hgr (fun a => .inl rfl) fun x hx => rfl
    have hqw : q ≠ wg := fun e => by
      have h1 : w.heap[q]? = _ := hsh.hq
      rw [e, hw] at h1; cases h1
    have hr2 := hr1.turnM gh' (fun b => w'.heap[b]?) (fun j hj => hne _ fun e => hrn.wg_ne ⟨st, sm, hw⟩ j hj e.symm)
    have hs2 := hs1.turnM f1 gh' (fun b => w'.heap[b]?) (hne q hqw) hww (hmd (((G.view gs.size w t).next G.RO G.pk (fun b => w.heap[b]?) (MemOp.ofEvents 0 x.frame.fn x.frame.place es)).turnM gh' (fun b => w'.heap[b]?)) (View.turnM_gh0 _ _ _) rfl hp first st sm hsh.md hw)
    have hPh : Phase W (((G.view gs.size w t).next G.RO G.pk (fun b => w.heap[b]?) (MemOp.ofEvents 0 x.frame.fn x.frame.place es)).turnM gh' (fun b => w'.heap[b]?)) := .shut X q wg m b first T p0 pq st' sm' hlv hr2 hs2
    refine hPh.park (fun j => if j = 0 then none else newpk P x g' w' (G.pk j)) (fun X2 q2 wg2 m2 s2 b2 hg2 h0 => ?_) (fun _ _ _ => rfl)
    rw [if_pos rfl] at h0; cases h0
  · rw [Gho.turn_K (i := 0), Gho.turn_rk, Gho.turn_pk]
    exact .run hG (.refl (GKR.running hy.stopM hG))
  · rw [Deaf_own, hdd, h.deaf0, Gho.turn_K (i := 0), n4]
  · rw [Gho.turn_K (i := 0), n6]; exact hb
  · rw [Gho.turn_rk, hr]; exact Rank.child
end
end Go.Proofs.Ytacfhfeegalmlaa

/- THE MACHINE's INVARIANT: the main one in Wait. -/
namespace Go.Proofs.Ytacfhfeegalmlaa
open Go.Conc
open Go.ConcR (KK wgBlock WgAt stA smA rd wr DC0 g_of_ofEvents)
open Go.ConcN (upd upd_same upd_ne WgLive RelBy sumTo sumTo_congr sumTo_upd le_sumTo sumTo_le get_map_set get_map_set_same AtR0)
set_option linter.unusedVariables false
set_option linter.unusedSimpArgs false
section
variable {P : Program} {W : Who} {StopM StopW : Kn → Goroutine → Prop} {w0 : World} {n0 : Nat} {gs gs' : Array Goroutine} {w w' : World} {t u : Trace} {G G' : Gho} {i j : Nat} {x g g' : Goroutine} {es : Array Event} {k' k0 : Kn} {pos wg' : Nat} {RO' : Addr → Option Value} {Sp' : Nat → Prop} {r' : Rank} {np : Pk → Pk} {sl : Option (Nat × Nat)} {p : Pk} {f : Kn × Goroutine → Tree}
theorem wgBlock_inj {ty : TypeId} {a b c d : Int} (h : some (wgBlock ty a b) = some (wgBlock ty c d)) : a = c ∧ b = d := by
  injection h with h
  simp only [wgBlock, Obj.cells.injEq] at h
  have := h.1
  simp at this
  exact this
theorem waitU_rd {wg : Nat} (a : Addr) (h : a.block = wg) : WaitU wg #[rd a] := by
  refine ⟨fun e he => ?_⟩
  simp only [List.mem_toArray, List.mem_singleton] at he
  subst he
  refine ⟨fun y hy => ?_, by simp [rd]⟩
  simp [rd, MemAct.ofEvent, MemAct.touch?] at hy
  subst hy
  exact ⟨⟨_, rfl, h⟩, by simp⟩
theorem waitU_rw {wg : Nat} (a : Addr) (h : a.block = wg) : WaitU wg #[rd a, wr a] := by
  refine ⟨fun e he => ?_⟩
  simp only [List.mem_toArray, List.mem_cons, List.not_mem_nil, or_false] at he
  rcases he with rfl | rfl
  · refine ⟨fun y hy => ?_, by simp [rd]⟩
    simp [rd, MemAct.ofEvent, MemAct.touch?] at hy
    subst hy
    exact ⟨⟨_, rfl, h⟩, by simp⟩
  · refine ⟨fun y hy => ?_, by simp [wr]⟩
    simp [wr, MemAct.ofEvent, MemAct.touch?] at hy
    subst hy
    exact ⟨⟨_, rfl, h⟩, by simp⟩
theorem waitU_sem {wg : Nat} : WaitU wg (semEvents (smA wg)) := by
  refine ⟨fun e he => ?_⟩
  simp only [semEvents, List.mem_toArray, List.mem_cons, List.not_mem_nil, or_false] at he
  rcases he with rfl | rfl | rfl | rfl
  · exact ⟨fun y hy => by simp [MemAct.ofEvent, MemAct.touch?] at hy, by simp⟩
  · refine ⟨fun y hy => ?_, by simp⟩
    simp [MemAct.ofEvent, MemAct.touch?] at hy
    subst hy
    exact ⟨⟨_, rfl, rfl⟩, by simp⟩
  · refine ⟨fun y hy => ?_, by simp⟩
    simp [MemAct.ofEvent, MemAct.touch?] at hy
    subst hy
    exact ⟨⟨_, rfl, rfl⟩, by simp⟩
  · exact ⟨fun y hy => by simp [MemAct.ofEvent, MemAct.touch?] at hy, by simp⟩
theorem setC_ne {ad : Addr} {v : Value} {b : Nat} (h : b ≠ ad.block) : (w.setCell ad v).heap[b]? = w.heap[b]? := by simp [World.setCell, Array.getElem?_modify, Ne.symm h]
theorem setC_size {ad : Addr} {v : Value} : (w.setCell ad v).heap.size = w.heap.size := by simp [World.setCell]
theorem Inv.mWLoad (hy : Hyp P W StopM StopW) (h : Inv P W StopM StopW w0 n0 gs w t G) (hx : gs[0]? = some x) (ha : Act' x g) (hr : G.rk 0 = (9, .mk f, 0)) (hp : G.pk 0 = none)
    {X : RunC} {q wg m B b : Nat} {G1 : Nat → Goroutine} (hq : WLoadF P (W.as true) (Ch P (W.as true) StopM f) (G.K 1) g X q wg m B b G1) : NextOk P W StopM StopW w0 n0 (crowd gs w sl) t (mu G gs.size) 0 := by
  obtain ⟨first, T, p0, pq, st, sm, hlv, hrn, hsh⟩ := h.ph.inWait (X := X) (q := q) (wg := wg) (m := m) (b := b) (.inl ⟨B, hq.gh⟩)
  obtain ⟨v, v1, v2, v3, _, _, _⟩ := hsh.md.load (B := B) hq.gh
  have hw : w.heap[wg]? = some (wgBlock W.wgT st sm) := hsh.hw
  rw [v2, v3] at hw
  have hgo := hq.go w v h.sat0 v1 hw
  refine h.mWait hy hx ha hr hp (.inl ⟨B, hq.gh⟩) hgo (waitU_rd _ rfl) (fun d => by simp [deafBehind, rd]) (fun _ _ => rfl) rfl hw rfl rfl rfl (gh' := if v = 0 then .fin X q wg m b else .shut X q wg m v b) ?_ (fun V' hg hs hpk first2 st2 sm2 hmd2 hw2 => ?_) (hq.next v v1)
  · have := hq.gh
    rw [this]
    split <;> rfl
  · obtain ⟨v', w1, w2, w3, w4, w5, w6⟩ := hmd2.load (B := B) hq.gh
    rw [hw] at hw2
    obtain ⟨x1, x2⟩ := wgBlock_inj hw2
    have : v' = v := by rw [w2] at x1; simp only [KK] at x1; omega
    subst this
    have := (w6 (G.view gs.size w t).hp).congr (V' := V') (by rw [hg]; exact (View.turnM_gh0 _ _ _).symm) (fun c _ => by rw [hs]; rfl) (by rw [hpk]; exact hp.symm)
    rwa [← x1, ← x2] at this
theorem Inv.mWCas (hy : Hyp P W StopM StopW) (h : Inv P W StopM StopW w0 n0 gs w t G) (hx : gs[0]? = some x) (ha : Act' x g) (hr : G.rk 0 = (9, .mk f, 0)) (hp : G.pk 0 = none)
    {X : RunC} {q wg m B b : Nat} {g1 g2 : Goroutine} (hq : WCasF P (W.as true) (Ch P (W.as true) StopM f) (G.K 1) g g1 g2 X q wg m B b) : NextOk P W StopM StopW w0 n0 (crowd gs w sl) t (mu G gs.size) 0 := by
  obtain ⟨first, T, p0, pq, st, sm, hlv, hrn, hsh⟩ := h.ph.inWait (X := X) (q := q) (wg := wg) (m := m) (b := b) (.inl ⟨B + 1, hq.gh⟩)
  obtain ⟨v, v1, v2, v3, v4, v5, _⟩ := hsh.md.load (B := B + 1) hq.gh
  have hw : w.heap[wg]? = some (wgBlock W.wgT st sm) := hsh.hw
  rw [v2, v3] at hw
  have hgh := hq.gh
  by_cases hv : v = B + 1
  · subst hv
    have hgo := hq.hit w h.sat0 hw
    refine h.mWait hy hx ha hr hp (.inl ⟨B + 1, hq.gh⟩) hgo (waitU_rw _ rfl) (fun d => by simp [deafBehind, rd, wr]) (fun c hc => setC_ne hc) setC_size (Go.ConcR.WgAt.setSt hw _) rfl rfl rfl (gh' := .reg X q wg m b) (by rw [hgh]; rfl) (fun V' hg hs hpk first2 st2 sm2 hmd2 hw2 => ?_) hq.next1
    obtain ⟨v', w1, w2, w3, w4, w5, w6⟩ := hmd2.load (B := B + 1) hq.gh
    rw [hw] at hw2
    obtain ⟨x1, x2⟩ := wgBlock_inj hw2
    have : v' = B + 1 := by rw [w2] at x1; simp only [KK] at x1; omega
    have hvc : Vc V' first2 m = B + 1 := by rw [← this, w4]; unfold Vc; rw [hs]
    have := Md.reg (V := V') (X := X) (q := q) (wg := wg) (b := b) (m := m) (first := first2) hg (fun c hc => by rw [hs]; exact w5 c hc) (by omega)
    rwa [hvc] at this
  · have hgo := hq.miss w v h.sat0 (by omega) hw
    refine h.mWait hy hx ha hr hp (.inl ⟨B + 1, hq.gh⟩) hgo (waitU_rd _ rfl) (fun d => by simp [deafBehind, rd]) (fun _ _ => rfl) rfl hw rfl rfl rfl (gh' := .shut X q wg m B b) (by rw [hgh]; rfl) (fun V' hg hs hpk first2 st2 sm2 hmd2 hw2 => ?_) hq.next2
    obtain ⟨v', w1, w2, w3, w4, w5, w6⟩ := hmd2.load (B := B + 1) hq.gh
    rw [hw] at hw2
    obtain ⟨x1, x2⟩ := wgBlock_inj hw2
    have : v' = v := by rw [w2] at x1; simp only [KK] at x1; omega
    have hvc : Vc V' first2 m = v := by rw [← this, w4]; unfold Vc; rw [hs]
    have := Md.opn (V := V') (X := X) (q := q) (wg := wg) (b := b) (m := m) (first := first2) (B := B) hg (fun c hc => by rw [hs]; exact w5 c hc) (by omega)
    rwa [hvc] at this
theorem Inv.mWWrite (hy : Hyp P W StopM StopW) (h : Inv P W StopM StopW w0 n0 gs w t G) (hx : gs[0]? = some x) (ha : Act' x g) (hr : G.rk 0 = (9, .mk f, 0)) (hp : G.pk 0 = none)
    {X : RunC} {q wg m b : Nat} {a : Addr} (hq : WWriteF P (W.as true) (Ch P (W.as true) StopM f) (G.K 1) g g' X q wg m b a) : NextOk P W StopM StopW w0 n0 (crowd gs w sl) t (mu G gs.size) 0 := by
  obtain ⟨first, T, p0, pq, st, sm, hlv, hrn, hsh⟩ := h.ph.inWait (X := X) (q := q) (wg := wg) (m := m) (b := b) (.inr (.inl hq.gh))
  have hw : w.heap[wg]? = some (wgBlock W.wgT st sm) := hsh.hw
  have hgo := hq.go w h.sat0
  have hgh := hq.gh
  have e : ({ G.K 1 with gh := (G.K 1).gh } : Kn) = G.K 1 := rfl
  refine h.mWait hy hx ha hr hp (.inr (.inl hq.gh)) hgo ⟨fun e he => ?_⟩ (fun d => by simp [deafBehind]) (fun _ _ => rfl) rfl hw rfl rfl rfl (gh' := (G.K 1).gh) rfl (fun V' hg hs hpk first2 st2 sm2 hmd2 hw2 => ?_) (by rw [e]; exact hq.next)
  · simp only [List.mem_toArray, List.mem_singleton] at he
    subst he
    refine ⟨fun y hy => ?_, by simp⟩
    simp [MemAct.ofEvent, MemAct.touch?] at hy
    subst hy
    exact ⟨⟨_, rfl, hq.blk⟩, by simp⟩
  · rw [hw] at hw2
    obtain ⟨rfl, rfl⟩ := wgBlock_inj hw2
    exact hmd2.congr hg (fun c _ => by rw [hs]) (hpk.trans hp.symm)
theorem Inv.mWLoad0 (hy : Hyp P W StopM StopW) (h : Inv P W StopM StopW w0 n0 gs w t G) (hx : gs[0]? = some x) (ha : Act' x g) (hr : G.rk 0 = (9, .mk f, 0)) (hp : G.pk 0 = none)
    {X : RunC} {q wg m b : Nat} (hq : WLoad0F P (W.as true) (Ch P (W.as true) StopM f) (G.K 1) g g' X q wg m b) : NextOk P W StopM StopW w0 n0 (crowd gs w sl) t (mu G gs.size) 0 := by
  obtain ⟨first, T, p0, pq, st, sm, hlv, hrn, hsh⟩ := h.ph.inWait (X := X) (q := q) (wg := wg) (m := m) (b := b) (.inr (.inr hq.gh))
  have hw : w.heap[wg]? = some (wgBlock W.wgT st sm) := hsh.hw
  obtain ⟨e1, e2, _⟩ := hsh.md.atFin hq.gh
  rw [e1, e2] at hw
  have hgo := hq.go w h.sat0 hw
  have e : ({ G.K 1 with gh := (G.K 1).gh } : Kn) = G.K 1 := rfl
  refine h.mWait hy hx ha hr hp (.inr (.inr hq.gh)) hgo (waitU_rd _ rfl) (fun d => by simp [deafBehind, rd]) (fun _ _ => rfl) rfl hw rfl rfl rfl (gh' := (G.K 1).gh) rfl (fun V' hg hs hpk first2 st2 sm2 hmd2 hw2 => ?_) (by rw [e]; exact hq.next)
  rw [hw] at hw2
  obtain ⟨rfl, rfl⟩ := wgBlock_inj hw2
  exact hmd2.congr hg (fun c _ => by rw [hs]) (hpk.trans hp.symm)
theorem Inv.mWSem (hy : Hyp P W StopM StopW) (h : Inv P W StopM StopW w0 n0 gs w t G) (hx : gs[0]? = some x) (ha : Act' x g) (hr : G.rk 0 = (9, .mk f, 0)) (hp : G.pk 0 = none)
    {X : RunC} {q wg m b : Nat} (hq : WSemF P (W.as true) (Ch P (W.as true) StopM f) (G.K 1) g g' X q wg m b) : NextOk P W StopM StopW w0 n0 (crowd gs w sl) t (mu G gs.size) 0 := by
  have hi' := (Array.getElem?_eq_some_iff.1 hx).1
  obtain ⟨first, T, p0, pq, st, sm, hlv, hrn, hsh⟩ := h.ph.inWait (X := X) (q := q) (wg := wg) (m := m) (b := b) (.inr (.inl hq.gh))
  have hw : w.heap[wg]? = some (wgBlock W.wgT st sm) := hsh.hw
  have hgh := hq.gh
  rcases hsh.md.atReg hq.gh with e | ⟨e1, e2, e3, e4⟩
  · rw [e] at hw
    have hgo := hq.waits w st h.sat0 hw
    have hrun := runT_crowd_go (P := P) (sl := sl) (i := 0) hx (by show stepG P true x w = _; rw [ha.step]; exact hgo)
    have hnw : ∀ y, woken P x ({ g with status := .blocked } : Goroutine) w y = y := fun y => by
      rw [woken_eq]
      have : wakesB P x { g with status := .blocked } = false := by
        unfold wakesB
        simp
      rw [this]; rfl
    have hmap : gs.map (woken P x ({ g with status := .blocked } : Goroutine) w) = gs := by
      apply Array.ext_getElem?
      intro c
      rw [Array.getElem?_map]
      cases gs[c]? with
      | none => rfl
      | some y => simp [hnw]
    rw [hmap] at hrun
    refine h.parked (p := none) hi' hp hrun (by simp [MemOp.ofEvents]) (h.park hi' (fun _ => by rw [hr]; exact .sem hq rfl) (fun e => by omega) (h.ph.park _ (fun X2 q2 wg2 m2 s2 b2 hg h0 => ?_) fun _ _ hw2 => ?_))
    · rw [upd_same] at h0; cases h0
    · have hw2 : w.heap[G.wg]? = some (wgBlock W.wgT 0 1) := hw2
      rw [show G.wg = wg from hsh.ewg, hw] at hw2
      obtain ⟨_, x2⟩ := wgBlock_inj hw2
      cases x2
  · rw [e1, e2] at hw
    have hgo := hq.takes w h.sat0 hw
    refine h.mWait hy hx ha hr hp (.inr (.inl hq.gh)) hgo waitU_sem (fun d => by simp [deafBehind, semEvents]) (fun c hc => setC_ne hc) setC_size (Go.ConcR.WgAt.setSm hw _) rfl rfl rfl (gh' := .fin X q wg m b) (by rw [hgh]; rfl) (fun V' hg hs hpk first2 st2 sm2 hmd2 hw2 => ?_) hq.next
    rw [hw] at hw2
    obtain ⟨x1, x2⟩ := wgBlock_inj hw2
    rcases hmd2.atReg hq.gh with y | ⟨_, _, y3, _⟩
    · omega
    · exact .fin hg fun c hc => by rw [hs]; exact y3 c hc
end
end Go.Proofs.Ytacfhfeegalmlaa

/- THE MACHINE's INVARIANT: all is joined; the return. -/
namespace Go.Proofs.Ytacfhfeegalmlaa
open Go.Conc
open Go.ConcR (KK wgBlock WgAt stA smA rd wr DC0 g_of_ofEvents)
open Go.ConcN (upd upd_same upd_ne WgLive RelBy sumTo sumTo_congr sumTo_upd le_sumTo sumTo_le get_map_set get_map_set_same AtR0 runT_crowd_ended)
set_option linter.unusedVariables false
set_option linter.unusedSimpArgs false
section
variable {P : Program} {W : Who} {StopM StopW : Kn → Goroutine → Prop} {w0 : World} {n0 : Nat} {gs gs' : Array Goroutine} {w w' : World} {t u : Trace} {G G' : Gho} {i j : Nat} {x g g' : Goroutine} {es : Array Event} {k' k0 : Kn} {pos wg' : Nat} {RO' : Addr → Option Value} {Sp' : Nat → Prop} {r' : Rank} {np : Pk → Pk} {sl : Option (Nat × Nat)} {p : Pk} {f : Kn × Goroutine → Tree}
/-- Behind an 'acquire' the main one knows all that a worker knew at its release. -/
theorem acq_edge {wg p0 c : Nat} (hrel : RelI t wg p0 c) (hnr : ∀ j, p0 ≤ j → t.act? j ≠ some (.mark (.release (stA wg)))) (hd : Deaf t 0 = 0) {y : MemOp} (hy0 : y.g = 0) (hy : y.act = .mark (.acquire (stA wg))) :
    ∃ r, RelBy (stA wg) t c r ∧ (∀ j k, t.act? j = some (.close k) → t.g? j = some c → j < r) ∧ HappensBefore (t ++ #[y]) r t.size := by
  obtain ⟨r, h1, h2, h3⟩ := hrel
  refine ⟨r, h1, h3, ?_⟩
  have hr := lt_of_act? h1.act
  have hyp : (t ++ #[y])[t.size]? = some y := by rw [Array.getElem?_append_right (Nat.le_refl _)]; simp
  have e1 : (t ++ #[y]).heard t.size := ⟨0, by simp [Trace.g?, hy0], by rw [deaf_old (Nat.le_refl _)]; exact hd⟩
  refine .single (.inr ⟨.marked (a := stA wg) hr (.inr (by rw [act?_old hr]; exact h1.act)) (by rw [act?_of hyp, hy]) (fun k hk1 hk2 => ?_), (heard_old hr).2 h1.heard, e1⟩)
  rw [act?_old hk2]
  exact hnr k (by omega)
theorem hb_of_g {i j c : Nat} (hij : i < j) (hi : t.g? i = some c) (hj : t.g? j = some c) : HappensBefore t i j := .single (.inl ⟨hij, c, hi, hj⟩)
theorem Inv.mWAcq (hy : Hyp P W StopM StopW) (h : Inv P W StopM StopW w0 n0 gs w t G) (hx : gs[0]? = some x) (ha : Act' x g) (hr : G.rk 0 = (9, .mk f, 0)) (hp : G.pk 0 = none)
    {X : RunC} {q wg m b : Nat} (hq : WAcqF P (W.as true) (Ch P (W.as true) StopM f) (G.K 1) g g' X q wg m b) : NextOk P W StopM StopW w0 n0 (crowd gs w sl) t (mu G gs.size) 0 := by
  have hi' := (Array.getElem?_eq_some_iff.1 hx).1
  have h9 : (G.rk 0).1 = 9 := by rw [hr]
  obtain ⟨first, T, p0, pq, st, sm, hlv, hrn, hsh⟩ := h.ph.inWait (X := X) (q := q) (wg := wg) (m := m) (b := b) (.inr (.inr hq.gh))
  have hewg : G.wg = wg := hsh.ewg
  have hd0 : Deaf t 0 = 0 := by rw [h.deaf0]; exact hq.deaf
  obtain ⟨y, hyy⟩ : ∃ y : MemOp, y = { g := 0, fn := x.frame.fn, pos := x.frame.place, act := .mark (.acquire (stA wg)) } := ⟨_, rfl⟩
  have hops : MemOp.ofEvents 0 x.frame.fn x.frame.place #[⟨.mark (.acquire (stA wg)), false, true⟩] = #[y] := by rw [ofEvents_eq, hyy]; simp [MemAct.ofEvent]
  have y1 : y.g = 0 := by rw [hyy]
  have y2 : y.act = .mark (.acquire (stA wg)) := by rw [hyy]
  clear hyy
  have ym : ∀ op ∈ (#[y] : Trace), op = y := fun op ho => by simpa using ho
  have hn : ∀ op ∈ (#[y] : Trace), op.act.touch? = none := fun op ho => by rw [ym op ho, y2]; rfl
  have hyg : ∀ op ∈ (#[y] : Trace), op.g = 0 := fun op ho => by rw [ym op ho]; exact y1
  have hmute : Gr (G.view gs.size w t) #[y] := Gr.mute hn (fun op ho => by rw [ym op ho, y2]; simp) fun op ho _ c => by rw [ym op ho, y2]; simp
  have hyp : (t ++ #[y])[t.size]? = some y := by rw [Array.getElem?_append_right (Nat.le_refl _)]; simp
  have edge : ∀ c, first ≤ c → c < gs.size → (G.rk c).1 ≤ 6 → ∃ r, RelBy (stA wg) t c r ∧ (∀ j k, t.act? j = some (.close k) → t.g? j = some c → j < r) ∧ HappensBefore (t ++ #[y]) r t.size := fun c h1 h2 h3 => acq_edge (hsh.rel c h1 h2 h3) hsh.norel hd0 y1 y2
  -- all are handed over
  have hand : ∀ c, 1 ≤ c → c < gs.size → (G.rk c).1 = 1 → Handed (t ++ #[y]) c := fun c h1 h2 h3 => by
    rcases Nat.lt_or_ge c first with hlt | hge
    · have hh : Handed t c := (hrn.gone c h1 hlt).2
      exact Handed.gr (V := G.view gs.size w t) hh hmute (by show (G.rk c).1 ≤ 6; omega)
    · obtain ⟨r, r1, r2, r3⟩ := edge c hge h2 (by omega)
      have hrlt := lt_of_act? r1.act
      intro k hk hc
      have hgq : (t ++ #[y]).g? t.size = some 0 := by simp [Trace.g?, y1]
      rcases Nat.lt_or_ge k t.size with hlt | hge2
      · have hk' : t.g? k = some c := by rw [← g?_old (u := #[y]) hlt]; exact hk
        have hc' : t.counts k := by rwa [counts_old hlt] at hc
        have hle : k ≤ r := Nat.le_of_not_lt fun hh => r1.after k hh hk' hc'
        refine ⟨t.size, hgq, ?_⟩
        rcases Nat.lt_or_ge k r with hh | hh
        · exact .trans (hb_of_g hh hk (by rw [g?_old hrlt]; exact r1.g)) r3
        · obtain rfl : k = r := by omega
          exact r3
      · exfalso
        obtain ⟨op, ho, hog⟩ := Option.map_eq_some_iff.1 hk
        rcases getElem?_append_cases ho with ⟨hj', _⟩ | ⟨_, hou⟩
        · omega
        · rw [ym op hou, y1] at hog; omega
  have hP1 : Phase W ((G.view gs.size w t).next G.RO G.pk (fun b => w.heap[b]?) #[y]) := h.ph.gr hmute (fun a v hv => hv) (fun a => .inl rfl) fun b hb => rfl
  obtain ⟨htok, hcl, hPh⟩ := hP1.acq (X := X) (q := q) (wg := wg) (m := m) (b := b) hq.gh (fun c h1 h2 h3 => hand c h1 h2 h3) none rfl
  have htok : W.Tok X X.n (G.K 0) := htok
  -- where the token was laid down
  obtain ⟨_, _, hallq⟩ := hsh.md.atFin hq.gh
  have hallq : ∀ c, first ≤ c → c < gs.size → (G.rk c).1 = 1 := fun c h1 h2 => by
    have := hallq (c - first) (by have : gs.size = first + m := hsh.N; omega)
    have e : first + (c - first) = c := by omega
    rw [e] at this; exact this
  have hkn : ∀ j, Before t j G.pos → Knows (t ++ #[y]) 0 j := fun j hj => by
    have no : ∀ c, ¬ (G.view gs.size w t).at first c := fun c hc => by
      have h1 := hallq c hc.1 hc.2.1
      have h2 : (G.rk c).1 = 9 := hc.2.2
      omega
    cases hrn.tok with
    | held c t1 t2 t3 => exact absurd t2 (no c)
    | air t1 t2 t3 t4 =>
      obtain ⟨c, t5, t6⟩ := t3
      have t5 : t.g? G.pos = some c := t5
      have t2 : ClAt t (X.ex T) G.pos := t2
      have hposlt := lt_of_act? t2.act
      rcases t6 with rfl | ⟨t6, t7⟩
      · obtain ⟨op, ho, hog⟩ := Option.map_eq_some_iff.1 t5
        have hk : Knows t 0 j := ⟨G.pos, op, ho, hog, hj⟩
        exact hk.app _
      · obtain ⟨r, r1, r2, r3⟩ := edge c t6 t7 (by rw [hallq c t6 t7]; omega)
        have hlt := r2 G.pos _ t2.act t5
        have hrlt := lt_of_act? r1.act
        have h1 : HappensBefore (t ++ #[y]) G.pos r := hb_of_g hlt (by rw [g?_old hposlt]; exact t5) (by rw [g?_old hrlt]; exact r1.g)
        exact ⟨t.size, y, hyp, y1, .inr ((hj.app #[y]).hb (h1.trans r3))⟩
  have hG := hq.next (G.K 0) htok (h.hp.disj (p := 1) (p' := 0) (by omega))
  obtain ⟨kj, hkj⟩ : ∃ kj : Kn, kj = { (G.K 1).join (G.K 0) with live := none, gh := .lone b } := ⟨_, rfl⟩
  rw [← hkj] at hG
  have jown : ∀ b, kj.own b = ((G.K 1).own b).or ((G.K 0).own b) := fun b => by rw [hkj]; rfl
  have joc : ∀ b, kj.oc b = ((G.K 1).oc b).or ((G.K 0).oc b) := fun b => by rw [hkj]; rfl
  have jro : ∀ b, kj.ro b = ((G.K 1).ro b).or ((G.K 0).ro b) := fun b => by rw [hkj]; rfl
  have jd : kj.deaf = (G.K 1).deaf := by rw [hkj]; rfl
  have jl : kj.live = none := by rw [hkj]
  have jg : kj.gh = .lone b := by rw [hkj]
  clear hkj
  have hH := h.hp.joinTok (p0 := 1) (by omega) jown joc jro
  have hcov : Cov (t ++ #[y]) (Knows (t ++ #[y]) 0) kj := by
    have c1 : Cov (t ++ #[y]) (Knows (t ++ #[y]) 0) (G.K 1) := (h.cov 0).mute hn fun c hc => hc.app _
    have c2 : Cov (t ++ #[y]) (Knows (t ++ #[y]) 0) (G.K 0) := h.cov0.mute hn hkn
    exact ⟨fun b hb => by rw [jown] at hb; exact (or_ne hb).elim (c1.own b) (c2.own b), fun b hb => by rw [joc] at hb; exact (or_ne hb).elim (c1.oc b) (c2.oc b), fun b hb => by rw [jro] at hb; exact (or_ne hb).elim (c1.ro b) (c2.ro b)⟩
  have hok : GoOk P W n0 w0 gs w w t #[y] G (G.turn2 0 kj Kn.emp G.pos G.RO G.Sp G.wg (9, f (kj, g'), 0) (newpk P x g' w)) 0 (newpk P x g' w) := by
    refine ⟨hH, h.tb.mute hn (fun op ho => by rw [hyg op ho]; exact hi') (Nat.le_refl _), fun j => ?_, ?_, hyg, fun j hj => Gho.turn2_oth hj, h.grpNext rfl (fun b _ => rfl), rel0_heap h.hp.rosat rfl, fun a v hv => hv, h.opnNext (fun j hj => (Gho.turn2_oth hj).2.2.1) Gho.turn2_pk (fun b _ => rfl), ?_, h.os, h.tape, h.output, h.old⟩
    · by_cases e : j = 0
      · subst e; rw [Gho.turn2_K (i := 0)]; exact hcov
      · rw [(Gho.turn2_oth e).1]; exact (h.cov j).mute hn fun c hc => hc.app _
    · rw [Gho.turn2_K0]; exact Cov.emp _ _
    · rw [Gho.turn2_view (w := w) (t := t) (lv := none) h9 rfl ⟨fun _ => jl.symm, fun e => by omega⟩, jg]
      refine hPh.park (fun j => if j = 0 then none else newpk P x g' w (G.pk j)) (fun X2 q2 wg2 m2 s2 b2 hg2 h0 => ?_) (fun _ _ _ => rfl)
      rw [if_pos rfl] at h0; cases h0
  rw [← hops] at hok
  refine h.gone0 hx (by rw [ha.step]; exact hq.go w) hok ?_ ?_ ?_ ?_
  · rw [Gho.turn2_K (i := 0), Gho.turn2_rk, Gho.turn2_pk]
    exact .run hG (.refl (GKR.running hy.stopM hG))
  · rw [Deaf_own, h.deaf0, Gho.turn2_K (i := 0), jd]
    simp [deafBehind]
  · rw [Gho.turn2_K (i := 0), jg, hq.gh]; rfl
  · rw [Gho.turn2_rk, hr]; exact Rank.child
/-- THE RETURN. -/
theorem Inv.mReturn (h : Inv P W StopM StopW w0 n0 gs w t G) (hx : gs[0]? = some x) (ha : Act' x g) {b : Nat} (hgh : (G.K 1).gh = .lone b) {v : Value} {Post : Value → World → Prop} (hgo : stepG P true g w = .ended (.done v) w #[]) (hpost : Post v w) :
    ∃ o w1 ops, runT P (crowd gs w sl) 0 = (.ended o w1, ops) ∧ ∀ w2 sl2, Go.Conc.Good P Post (crowd gs w2 sl2) o w1 (t ++ ops) := by
  obtain ⟨_, _, hq⟩ := h.ph.ofLone (b := b) hgh
  have hrun := runT_crowd_ended (P := P) (sl := sl) (i := 0) hx (by show stepG P true x w = _; rw [ha.step]; exact hgo)
  have e0 : MemOp.ofEvents 0 x.frame.fn x.frame.place #[] = #[] := by simp [MemOp.ofEvents]
  rw [e0] at hrun
  refine ⟨_, _, _, hrun, fun w2 sl2 => ⟨v, rfl, hpost, by rw [Array.append_empty]; exact h.tb.nr, ?_, ⟨fun g hg => ?_, rfl⟩, fun i g hg hi0 => ?_⟩⟩
  · rw [Array.append_empty]
    intro i c hgi hne hc
    obtain ⟨op, ho, hog⟩ := Option.map_eq_some_iff.1 hgi
    have := h.tb.gs i op ho
    exact (hq c (by omega) (by rw [hog] at this; exact this)).2 i hgi hc
  · obtain ⟨i, hi⟩ := List.mem_iff_getElem?.1 hg
    rw [List.getElem?_drop] at hi
    have hi : gs[1 + i]? = some g := by simpa [crowd] using hi
    have hlt := (Array.getElem?_eq_some_iff.1 hi).1
    obtain ⟨y, hy, hs⟩ := h.wk (1 + i) (by omega) hlt
    rw [hi] at hy; cases hy
    have h1 : (G.rk (1 + i)).1 = 1 := (hq (1 + i) (by omega) hlt).1
    generalize G.rk (1 + i) = r at hs h1
    generalize G.pk (1 + i) = pp at hs
    generalize G.dd (1 + i) = ddd at hs
    cases hs with
    | qt hqq => exact ⟨_, hqq.leaves⟩
    | dn h2 => simp at h1; omega
    | _ => simp at h1
  · have hi : gs[i]? = some g := hg
    have hlt := (Array.getElem?_eq_some_iff.1 hi).1
    obtain ⟨y, hy, hs⟩ := h.wk i (by omega) hlt
    rw [hi] at hy; cases hy
    have h1 : (G.rk i).1 = 1 := (hq i (by omega) hlt).1
    have hdf := h.deafW i (by omega) hlt
    rw [Array.append_empty]
    generalize G.rk i = r at hs h1
    generalize G.dd i = d at hs hdf
    generalize G.pk i = pp at hs
    cases hs with
    | @qt m d hqq =>
      refine ⟨m, ?_⟩
      have : t.deaf i t.size = d := hdf
      rw [this]
      exact hqq.hears _
    | dn h2 => simp at h1; omega
    | _ => simp at h1
end
end Go.Proofs.Ytacfhfeegalmlaa

/- THE MACHINE's INVARIANT: a run begins; the queue; a worker more; the queue is closed. -/
namespace Go.Proofs.Ytacfhfeegalmlaa
open Go.Conc
open Go.ConcR (KK wgBlock WgAt stA smA rd wr DC0 g_of_ofEvents)
open Go.ConcN (upd upd_same upd_ne WgLive RelBy sumTo sumTo_congr sumTo_upd le_sumTo sumTo_le get_map_set get_map_set_same AtR0 runT_crowd_ended fork_knows Deaf_absent)
set_option linter.unusedVariables false
set_option linter.unusedSimpArgs false

/-- The token is laid down. -/
theorem HInv.splitTok {K : Nat → Kn} {RO : Addr → Option Value} {Sp : Nat → Prop} {n0 : Nat} {w : World} (h : HInv K RO Sp n0 w) {p0 : Nat} (hp0 : p0 ≠ 0) {kn k1 kt : Kn} (hsp : (K p0).Split k1 kt) (nown : kn.own = k1.own) (noc : kn.oc = k1.oc) (nro : kn.ro = (K p0).ro) :
    HInv (upd (upd K p0 kn) 0 kt) RO Sp n0 w := by
  have own1 : ∀ b, kn.own b ≠ none → (K p0).own b ≠ none ∧ kt.own b = none := fun b hb => by
    obtain ⟨o, ho⟩ := Option.ne_none_iff_exists'.1 hb
    obtain ⟨e1, e2⟩ := hsp.own1 b o (by rw [← nown]; exact ho)
    exact ⟨by rw [e1]; simp, e2⟩
  have oc1 : ∀ b, kn.oc b ≠ none → (K p0).oc b ≠ none ∧ kt.oc b = none := fun b hb => by
    obtain ⟨o, ho⟩ := Option.ne_none_iff_exists'.1 hb
    obtain ⟨e1, e2⟩ := hsp.oc1 b o (by rw [← noc]; exact ho)
    exact ⟨by rw [e1]; simp, e2⟩
  have ownt : ∀ b, kt.own b ≠ none → (K p0).own b ≠ none := fun b hb => by
    obtain ⟨o, ho⟩ := Option.ne_none_iff_exists'.1 hb
    rw [hsp.ownt b o ho]; simp
  have oct : ∀ b, kt.oc b ≠ none → (K p0).oc b ≠ none := fun b hb => by
    obtain ⟨o, ho⟩ := Option.ne_none_iff_exists'.1 hb
    rw [hsp.oct b o ho]; simp
  have K0 : ∀ {p}, (upd (upd K p0 kn) 0 kt) p = if p = 0 then kt else if p = p0 then kn else K p := fun {p} => by unfold upd; rfl
  refine h.redist (fun p b o ho => ?_) (fun p b o ho => ?_) (fun p b o ho => ?_) (fun p p' b hpp hb => ?_) (fun p p' b hpp hb => ?_)
  · rw [K0] at ho
    split at ho
    · exact ⟨_, hsp.ownt b o ho⟩
    · split at ho
      · rw [nown] at ho; exact ⟨_, (hsp.own1 b o ho).1⟩
      · exact ⟨p, ho⟩
  · rw [K0] at ho
    split at ho
    · exact ⟨_, hsp.oct b o ho⟩
    · split at ho
      · rw [noc] at ho; exact ⟨_, (hsp.oc1 b o ho).1⟩
      · exact ⟨p, ho⟩
  · rw [K0] at ho
    split at ho
    · rw [hsp.rot] at ho; exact h.ro _ _ _ ho
    · split at ho
      · rw [nro] at ho; exact h.ro _ _ _ ho
      · exact h.ro _ _ _ ho
  · rw [K0] at hb ⊢
    by_cases e0 : p' = 0
    · rw [if_pos e0]
      rw [if_neg (fun e => hpp (e.trans e0.symm))] at hb
      by_cases e2 : p = p0
      · rw [if_pos e2] at hb; exact (own1 b hb).2
      · rw [if_neg e2] at hb
        cases e3 : kt.own b with
        | none => rfl
        | some o => exact absurd (h.oo p p0 b e2 hb) (ownt b (by rw [e3]; simp))
    · rw [if_neg e0]
      by_cases e1 : p = 0
      · rw [if_pos e1] at hb
        by_cases e2 : p' = p0
        · rw [if_pos e2]
          cases e3 : kn.own b with
          | none => rfl
          | some o => exact absurd (own1 b (by rw [e3]; simp)).2 hb
        · rw [if_neg e2]; exact h.oo p0 p' b (fun e => e2 e.symm) (ownt b hb)
      · rw [if_neg e1] at hb
        by_cases e2 : p' = p0
        · rw [if_pos e2]
          rw [if_neg (fun e => hpp (e.trans e2.symm))] at hb
          cases e3 : kn.own b with
          | none => rfl
          | some o => exact absurd (h.oo p p0 b (fun e => hpp (e.trans e2.symm)) hb) (own1 b (by rw [e3]; simp)).1
        · rw [if_neg e2]
          by_cases e3 : p = p0
          · rw [if_pos e3] at hb; exact h.oo p0 p' b (fun e => e2 e.symm) (own1 b hb).1
          · rw [if_neg e3] at hb; exact h.oo p p' b hpp hb
  · rw [K0] at hb ⊢
    by_cases e0 : p' = 0
    · rw [if_pos e0]
      rw [if_neg (fun e => hpp (e.trans e0.symm))] at hb
      by_cases e2 : p = p0
      · rw [if_pos e2] at hb; exact (oc1 b hb).2
      · rw [if_neg e2] at hb
        cases e3 : kt.oc b with
        | none => rfl
        | some o => exact absurd (h.cc p p0 b e2 hb) (oct b (by rw [e3]; simp))
    · rw [if_neg e0]
      by_cases e1 : p = 0
      · rw [if_pos e1] at hb
        by_cases e2 : p' = p0
        · rw [if_pos e2]
          cases e3 : kn.oc b with
          | none => rfl
          | some o => exact absurd (oc1 b (by rw [e3]; simp)).2 hb
        · rw [if_neg e2]; exact h.cc p0 p' b (fun e => e2 e.symm) (oct b hb)
      · rw [if_neg e1] at hb
        by_cases e2 : p' = p0
        · rw [if_pos e2]
          rw [if_neg (fun e => hpp (e.trans e2.symm))] at hb
          cases e3 : kn.oc b with
          | none => rfl
          | some o => exact absurd (h.cc p p0 b (fun e => hpp (e.trans e2.symm)) hb) (oc1 b (by rw [e3]; simp)).1
        · rw [if_neg e2]
          by_cases e3 : p = p0
          · rw [if_pos e3] at hb; exact h.cc p0 p' b (fun e => e2 e.symm) (oc1 b hb).1
          · rw [if_neg e3] at hb; exact h.cc p p' b hpp hb
theorem UFit.less {K : Nat → Kn} {RO : Addr → Option Value} {Sp Sp' : Nat → Prop} {i n' : Nat} {u : Trace} (h : UFit K RO Sp' i n' u) (hs : ∀ b, Sp b → Sp' b) : UFit K RO Sp i n' u := ⟨h.g, h.low, h.own, h.oc, h.ro, fun op ho x hx b hb hsb => h.sp op ho x hx b hb (hs b hsb)⟩
section
variable {P : Program} {W : Who} {StopM StopW : Kn → Goroutine → Prop} {w0 : World} {n0 : Nat} {gs gs' : Array Goroutine} {w w' : World} {t u : Trace} {G G' : Gho} {i j : Nat} {x g g' : Goroutine} {es : Array Event} {k' k0 : Kn} {pos wg' : Nat} {RO' : Addr → Option Value} {Sp' : Nat → Prop} {r' : Rank} {np : Pk → Pk} {sl : Option (Nat × Nat)} {p : Pk} {f : Kn × Goroutine → Tree}
/-- Whoever knows the plain touches of a channel may close it. -/
theorem close_knows {c : Nat} {fn : FuncId} {ps : String} (hs : SK t (Knows t i) c) : ∀ j a, touchAt t j = some a → ∀ op ∈ MemOp.ofEvents i fn ps (closeEvents c), ∀ y, op.act.touch? = some y → confl a y → Knows t i j := by
  intro j a ha op ho y hy ⟨hl, hw, hk⟩
  rw [ofEvents_eq] at ho
  simp [closeEvents] at ho
  rcases ho with rfl | rfl
  · simp [MemAct.ofEvent, MemAct.touch?] at hy
    subst hy
    rcases hk with hk | hk | ⟨_, hk⟩
    · exact hs j a ha (by rw [hl]; rfl) hk
    · cases hk
    · cases hk
  · simp [MemAct.ofEvent, MemAct.touch?] at hy
theorem close_norel {c : Nat} {fn : FuncId} {ps : String} (wg : Nat) : ∀ op ∈ MemOp.ofEvents i fn ps (closeEvents c), op.act ≠ .mark (.release (stA wg)) := fun op ho e => by
  rw [ofEvents_eq] at ho
  simp [closeEvents] at ho
  rcases ho with rfl | rfl <;> simp [MemAct.ofEvent] at e
/-- A RUN BEGINS. -/
theorem Inv.mCloseE (hy : Hyp P W StopM StopW) (h : Inv P W StopM StopW w0 n0 gs w t G) (hx : gs[0]? = some x) (ha : Act' x g) (hr : G.rk 0 = (9, .mk f, 0)) (hp : G.pk 0 = none)
    {k1 kt : Kn} {X : RunC} {j : Nat} {gh' : Gh} (hq : CloseEF P (W.as true) (Ch P (W.as true) StopM f) (G.K 1) g k1 kt g' X j gh') (hnw : ∀ X q wg left st, (G.K 1).gh ≠ .wk X q wg left st) : NextOk P W StopM StopW w0 n0 (crowd gs w sl) t (mu G gs.size) 0 := by
  have hi' := (Array.getElem?_eq_some_iff.1 hx).1
  have h9 : (G.rk 0).1 = 9 := by rw [hr]
  have hcl := hq.cl
  generalize hkk : G.K 1 = kk at hcl
  cases hcl with
  | wk e1 e2 => subst hkk; exact absurd e1 (hnw _ _ _ _ _)
  | @main b e1 e2 e3 e4 =>
    subst hkk e2
    obtain ⟨hlv, hk0, hall⟩ := h.ph.ofLone (b := b) e1
    have hk0 : G.K 0 = Kn.emp := hk0
    have hlv : (G.K 1).live = none := hlv
    have hown : ∀ a, a ≤ X.n → w.heap[X.ex a]? = some chanO := fun a ha => (h.hp.sat 1).own _ _ (e3 a ha).1
    have hgo := hq.go w h.sat0 (hown 0 (Nat.zero_le _))
    obtain ⟨w', hw'⟩ : ∃ w', w' = w.setChan (X.ex 0) 0 #[] true 0 0 false := ⟨_, rfl⟩
    have hgo : stepG P true x w = .go g' w' (closeEvents (X.ex 0)) := by rw [ha.step, hw']; exact hgo
    have hclt : X.ex 0 < w.heap.size := (Array.getElem?_eq_some_iff.1 (hown 0 (Nat.zero_le _))).1
    have wne : ∀ b, b ≠ X.ex 0 → w'.heap[b]? = w.heap[b]? := fun b hb => by rw [hw']; exact setChan_ne hb
    have wsm : w'.heap[X.ex 0]? = some (.chan 0 #[] true 0 0 false) := by rw [hw']; exact setChan_same hclt
    have wsz : w'.heap.size = w.heap.size := by rw [hw']; exact setChan_size
    have wos : w'.os = w.os ∧ w'.tape = w.tape ∧ w'.output = w.output := by rw [hw']; exact ⟨rfl, rfl, rfl⟩
    clear hw'
    have hG := hq.next
    obtain ⟨kn, hkn⟩ : ∃ kn : Kn, kn = { k1 with gh := .run X b } := ⟨_, rfl⟩
    rw [← hkn] at hG
    have hsp := hq.split
    have nown : kn.own = k1.own := by rw [hkn]
    have noc : kn.oc = k1.oc := by rw [hkn]
    have nro : kn.ro = (G.K 1).ro := by rw [hkn]; exact hsp.ro1
    have nd : kn.deaf = (G.K 1).deaf := by rw [hkn]; exact hsp.deaf
    have nl : kn.live = none := by rw [hkn]; exact hsp.live.trans hlv
    have ng : kn.gh = .run X b := by rw [hkn]
    clear hkn
    have hrun' := GKR.running hy.stopM hG
    have hdf0 : Deaf t 0 = 0 := by rw [h.deaf0]; exact hq.deaf
    obtain ⟨c1, c2, c3⟩ := close_at (t := t) (c := X.ex 0) (i := 0) x.frame.fn x.frame.place hdf0
    have hsy := close_sync (i := 0) (c := X.ex 0) x.frame.fn x.frame.place
    -- who has what, first
    have hS1 := h.hp.splitTok (p0 := 1) (by omega) hsp nown noc nro
    have K1 : (upd (upd G.K 1 kn) 0 kt) 1 = kn := by rw [upd_ne _ _ (by omega), upd_same]
    have hS2 : HInv (upd (upd G.K 1 kn) 0 kt) G.RO (fun b => G.Sp b ∨ ∃ a, a ≤ X.n ∧ b = X.ex a) n0 w := by
      refine h.hp.addSp hS1 (fun b => ∃ a, a ≤ X.n ∧ b = X.ex a) (fun q a hqa => ?_) fun b ⟨a, ha1, ha2⟩ => ⟨⟨1, by rw [ha2, (e3 a ha1).1]; simp⟩, fun q => ?_⟩
      · by_cases e0 : q = 0
        · subst e0
          rw [upd_same] at hqa
          obtain ⟨v, hv⟩ := Option.ne_none_iff_exists'.1 hqa
          exact ⟨1, by rw [hsp.oct a v hv]; simp⟩
        · rw [upd_ne _ _ e0] at hqa
          by_cases e1 : q = 1
          · subst e1
            rw [upd_same, noc] at hqa
            obtain ⟨v, hv⟩ := Option.ne_none_iff_exists'.1 hqa
            exact ⟨1, by rw [(hsp.oc1 a v hv).1]; simp⟩
          · rw [upd_ne _ _ e1] at hqa; exact ⟨q, hqa⟩
      · subst ha2
        by_cases e0 : q = 0
        · subst e0; rw [upd_same]; exact (e3 a ha1).2.2
        · rw [upd_ne _ _ e0]
          by_cases e1 : q = 1
          · subst e1; rw [upd_same, nown]; exact (e3 a ha1).2.1
          · rw [upd_ne _ _ e1]; exact h.hp.oo 1 q _ (Ne.symm e1) (by rw [(e3 a ha1).1]; simp)
    have hspc : (fun b => G.Sp b ∨ ∃ a, a ≤ X.n ∧ b = X.ex a) (X.ex 0) := .inr ⟨0, Nat.zero_le _, rfl⟩
    have hcn0 : n0 ≤ X.ex 0 := (hS2.sp _ hspc).2.1
    have hfit := hS2.ufitS hspc hsy
    have hskc : SK t (Knows t 0) (X.ex 0) := ((h.cov 0).own (X.ex 0) (by rw [(e3 0 (Nat.zero_le _)).1]; simp)).sk
    have cK : ∀ p Q, Cov t Q (G.K p) → p ≠ 0 → p ≠ 1 → Cov t Q ((upd (upd G.K 1 kn) 0 kt) p) := fun p Q hc h0 h1 => by rw [upd_ne _ _ h0, upd_ne _ _ h1]; exact hc
    have c1n : Cov t (Knows t 0) ((upd (upd G.K 1 kn) 0 kt) 1) := by
      rw [K1]
      refine (h.cov 0).less (fun b hb => ?_) (fun b hb => ?_) (fun b hb => by rw [nro] at hb; exact hb)
      · rw [nown] at hb
        obtain ⟨o, ho⟩ := Option.ne_none_iff_exists'.1 hb
        rw [show (G.K (0 + 1)).own b = _ from (hsp.own1 b o ho).1]; simp
      · rw [noc] at hb
        obtain ⟨o, ho⟩ := Option.ne_none_iff_exists'.1 hb
        rw [show (G.K (0 + 1)).oc b = _ from (hsp.oc1 b o ho).1]; simp
    have c0t : Cov t (Knows t 0) ((upd (upd G.K 1 kn) 0 kt) 0) := by
      rw [upd_same]
      refine (h.cov 0).less (fun b hb => ?_) (fun b hb => ?_) (fun b hb => by rw [hsp.rot] at hb; exact hb)
      · obtain ⟨o, ho⟩ := Option.ne_none_iff_exists'.1 hb
        rw [show (G.K (0 + 1)).own b = _ from hsp.ownt b o ho]; simp
      · obtain ⟨o, ho⟩ := Option.ne_none_iff_exists'.1 hb
        rw [show (G.K (0 + 1)).oc b = _ from hsp.oct b o ho]; simp
    obtain ⟨U, hU⟩ : ∃ U, U = MemOp.ofEvents 0 x.frame.fn x.frame.place (closeEvents (X.ex 0)) := ⟨_, rfl⟩
    have hkn := close_knows (i := 0) (fn := x.frame.fn) (ps := x.frame.place) hskc
    have hnr := close_norel (i := 0) (c := X.ex 0) (fn := x.frame.fn) (ps := x.frame.place) G.wg
    rw [← hU] at c1 c2 c3 hsy hfit hkn hnr
    have hok : GoOk P W n0 w0 gs w w' t U G (G.turn2 0 kn kt (t.size + 1) G.RO (fun b => G.Sp b ∨ ∃ a, a ≤ X.n ∧ b = X.ex a) G.wg (9, f (kn, g'), 0) (newpk P x g' w')) 0 (newpk P x g' w') := by
      refine ⟨hS2.world _ hspc wsz wne, h.tb.app hi' (by rw [wsz]; exact Nat.le_refl _) (by rw [wsz]; exact hfit) hkn, fun j => ?_, ?_, hsy.g, fun j hj => Gho.turn2_oth hj, fun j hj h1 h2 h3 h4 => ?_, hS2.rel0S hspc wne, fun a v hv => hv, fun j h1 h2 c hc => ?_, ?_, wos.1.trans h.os, wos.2.1.trans h.tape, wos.2.2.trans h.output, fun b hb => (wne b (by omega)).trans (h.old b hb)⟩
      · by_cases e : j = 0
        · subst e
          exact Cov.appS hS2 hspc hsy c1n fun c hc => hc.app _
        · exact Cov.appS hS2 hspc hsy (cK _ _ (h.cov j) (by omega) (by omega)) fun c hc => hc.app _
      · exact Cov.appS hS2 hspc hsy c0t c3
      · have := (hall j h1 h2).1
        have : (G.rk j).1 = 1 := this
        omega
      · rw [(Gho.turn2_oth (by omega)).2.2.1] at hc
        have hc' := (newpk_some hc).1
        obtain ⟨y, hy', hs⟩ := h.wk j h1 h2
        have h9' := hs.nine (by rw [hc']; simp)
        have h1' : (G.rk j).1 = 1 := (hall j h1 h2).1
        omega
      · have hg : Gr (G.view gs.size w t) U := Gr.of (hfit.less fun b hb => .inl hb) (show (G.view gs.size w t).sg 0 = 9 from h9) hnr
        have hP1 : Phase W ((G.view gs.size w t).next G.RO G.pk (fun b => w.heap[b]?) U) := h.ph.gr hg (fun a v hv => hv) (fun a => .inl rfl) fun b hb => rfl
        have hpub : PubAt W G.RO (t ++ U) X 0 := ⟨t.size + 1, (G.K 1).ro, c1, hq.pub, fun a v hv => h.hp.ro _ a v hv, fun a ha => (Cov.appS hS2 hspc hsy c0t c3).ro a (by rw [upd_same, hsp.rot]; exact ha)⟩
        have hex : ∀ a, a ≤ X.n → w'.heap[X.ex a]? = some (.chan 0 #[] (decide (a ≤ 0)) 0 0 false) := fun a ha => by
          by_cases e : a = 0
          · subst e; rw [wsm]; simp
          · rw [wne _ (fun e2 => e (e4 a 0 ha (Nat.zero_le _) e2)), hown a ha]
            have : decide (a ≤ 0) = false := decide_eq_false (by omega)
            rw [this]
            first | rfl | done
        have hska : ∀ a, a ≤ X.n → SK (t ++ U) (Knows (t ++ U) 0) (X.ex a) := fun a ha j y h1 h2 h3 => by
          rcases touch_cases h1 with ⟨_, h1⟩ | ⟨_, op, ho, hyy, _⟩
          · exact ((h.cov 0).own (X.ex a) (by rw [(e3 a ha).1]; simp) j y h1 h2).app _
          · exact absurd h3 (hsy.at_ op ho y hyy).2.1
        obtain ⟨_, _, hF⟩ := hP1.closeM (X := X) (b := b) h.N1 e1 (kt := kt) (pos := t.size + 1) (Sp' := fun b => G.Sp b ∨ ∃ a, a ≤ X.n ∧ b = X.ex a) (hp := fun b => w'.heap[b]?) (fun a ha => .inr ⟨a, ha, rfl⟩) hex e4 hpub hq.tok c1 c2 hska
        · have hF := hF.park (fun j => if j = 0 then none else newpk P x g' w' (G.pk j)) (fun X2 q2 wg2 m2 s2 b2 hg2 h0 => by rw [if_pos rfl] at h0; cases h0) (fun _ _ _ => rfl)
          rw [Gho.turn2_view (w := w) (t := t) (lv := (G.K 1).live) h9 rfl ⟨fun _ => hlv.trans nl.symm, fun e => by omega⟩, ng]
          exact hF
    rw [hU] at hok
    refine h.gone0 hx hgo hok ?_ ?_ ?_ ?_
    · rw [Gho.turn2_K (i := 0), Gho.turn2_rk, Gho.turn2_pk]
      exact .run hG (.refl hrun')
    · rw [Deaf_own, h.deaf0, Gho.turn2_K (i := 0), nd]
      simp [deafBehind, closeEvents]
    · rw [Gho.turn2_K (i := 0), ng, e1]; rfl
    · rw [Gho.turn2_rk, hr]; exact Rank.child
/-- The queue and the group are there. -/
theorem Inv.mShare (h : Inv P W StopM StopW w0 n0 gs w t G) (hx : gs[0]? = some x) (ha : Act' x g) (hr : G.rk 0 = (9, .mk f, 0)) (hp : G.pk 0 = none)
    {X : RunC} {q wg b : Nat} (hq : ShareF (W.as true) (Ch P (W.as true) StopM f) (G.K 1) g X q wg b) : ∃ G', Inv P W StopM StopW w0 n0 gs w t G' ∧ Mu.Lt (mu G' gs.size) (mu G gs.size) := by
  have hi' := (Array.getElem?_eq_some_iff.1 hx).1
  have h9 : (G.rk 0).1 = 9 := by rw [hr]
  obtain ⟨hlv, hrn⟩ := h.ph.ofRun (X := X) (b := b) hq.gh
  have hG := hq.next
  obtain ⟨kn, hkn⟩ : ∃ kn : Kn, kn = { (G.K 1).minus q with gh := .par X q wg 0 0 b } := ⟨_, rfl⟩
  rw [← hkn] at hG
  have nown : ∀ b, kn.own b = if b = q then none else (G.K 1).own b := fun b => by rw [hkn]; rfl
  have noc : kn.oc = (G.K 1).oc := by rw [hkn]; rfl
  have nro : kn.ro = (G.K 1).ro := by rw [hkn]; rfl
  have nd : kn.deaf = (G.K 1).deaf := by rw [hkn]; rfl
  have nl : kn.live = (G.K 1).live := by rw [hkn]; rfl
  have ng : kn.gh = .par X q wg 0 0 b := by rw [hkn]
  clear hkn
  have hv := h.hp.view 1 (k' := kn) (fun b o ho => by rw [nown] at ho; split at ho; exact absurd ho (by simp); exact ho) (fun b o ho => by rw [noc] at ho; exact ho) (fun b o ho => by rw [nro] at ho; exact h.hp.ro _ _ _ ho)
  have hv2 := h.hp.addSp hv (fun b => b = q) (fun c a hc => by
    by_cases e : c = 1
    · subst e; rw [upd_same, noc] at hc; exact ⟨1, hc⟩
    · rw [upd_ne _ _ e] at hc; exact ⟨c, hc⟩) fun b hb => ⟨⟨1, by rw [hb, hq.oq]; simp⟩, fun c => by
      subst hb
      by_cases e : c = 1
      · subst e; rw [upd_same, nown, if_pos rfl]
      · rw [upd_ne _ _ e]; exact h.hp.oo 1 c _ (Ne.symm e) (by rw [hq.oq]; simp)⟩
  let G2 : Gho := { G with K := upd G.K 1 kn, Sp := fun b => G.Sp b ∨ b = q, rk := upd G.rk 0 (9, f (kn, g), 0) }
  have K1 : G2.K 1 = kn := (show upd G.K 1 kn 1 = kn from upd_same _ _ _)
  have Ke : ∀ c, c ≠ 1 → G2.K c = G.K c := fun c hc => upd_ne _ _ hc
  have R0 : G2.rk 0 = (9, f (kn, g), 0) := (show upd G.rk 0 (9, f (kn, g), 0) 0 = _ from upd_same _ _ _)
  have Re : ∀ c, c ≠ 0 → G2.rk c = G.rk c := fun c hc => upd_ne _ _ hc
  have hN1 := h.N1
  refine ⟨G2, ⟨h.N1, hv2, h.tb, fun c => ?_, ?_, ?_, fun c h1 h2 => ?_, ?_, h.deafW, fun c h1 => ?_, fun c h1 => ?_, h.opn, h.pko, ?_, h.os, h.tape, h.output, h.old⟩, ?_⟩
  · by_cases e : c = 0
    · subst e
      rw [K1]
      exact (h.cov 0).less (fun b hb => by rw [nown] at hb; split at hb; exact absurd rfl hb; exact hb) (fun b hb => by rw [noc] at hb; exact hb) (fun b hb => by rw [nro] at hb; exact hb)
    · rw [Ke _ (by omega)]; exact h.cov c
  · rw [Ke _ (by omega)]; exact h.cov0
  · exact ⟨x, hx, by rw [K1, R0, show G2.pk 0 = none from hp]; exact .run hG ha⟩
  · obtain ⟨y, hy', hs⟩ := h.wk c h1 h2
    exact ⟨y, hy', by rw [Ke _ (by omega), Re _ (by omega)]; exact hs⟩
  · rw [K1, nd]; exact h.deaf0
  · rw [Ke _ (by omega)]; exact h.live c h1
  · rw [Ke _ (by omega)]; exact h.out c h1
  · have hF := h.ph.share (X := X) (b := b) (q := q) (wg := wg) hq.gh (Sp' := fun b => G.Sp b ∨ b = q) (fun x hx => .inl hx) (.inr rfl) ((h.hp.sat 1).own _ _ hq.oq) ((h.cov 0).own q (by rw [hq.oq]; simp)).sk (fun a ha e => by
      have h1 := (h.hp.sp (X.ex a) (hrn.sp a ha)).2.2.1 1
      rw [← e, hq.oq] at h1; cases h1)
    have hV : G2.view gs.size w t = { (G.view gs.size w t) with gh := upd (G.view gs.size w t).gh 0 (.par X q wg 0 0 b), Sp := fun b => G.Sp b ∨ b = q } := by
      refine View.eq_of (fun c => ?_) ?_ ?_ rfl rfl rfl rfl (fun c => ?_) (fun _ => rfl) rfl (fun _ => rfl) rfl
      · show (G2.K (c + 1)).gh = upd (fun i => (G.K (i + 1)).gh) 0 (.par X q wg 0 0 b) c
        by_cases e : c = 0
        · subst e; rw [K1, upd_same, ng]
        · rw [Ke _ (by omega), upd_ne _ _ e]
      · show (G2.K 1).live = (G.K 1).live
        rw [K1, nl]
      · show G2.K 0 = G.K 0
        exact Ke _ (by omega)
      · show (G2.rk c).1 = (G.rk c).1
        by_cases e : c = 0
        · subst e; rw [R0, h9]
        · rw [Re _ e]
    rw [hV]
    exact hF
  · refine mu_lt (by rw [K1, ng, hq.gh]; rfl) (fun c hc => ?_) hi' (by rw [R0, hr]; exact Rank.child)
    by_cases e : c = 0
    · subst e; exact .inr (by rw [R0, hr]; exact Rank.child)
    · exact .inl (Re _ e)
end
end Go.Proofs.Ytacfhfeegalmlaa
