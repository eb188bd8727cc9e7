/-
  Joined texts: A WORKER's WAY OUT: sync.WaitGroup's Done (the library's own walk, at two anchors), step by step. · WHERE EACH GOROUTINE STANDS, and where the whole stands. · HOW THE WHOLE STANDS WHERE THE TRACE GROWS. · THE PROTOCOL, turn by turn (no machine in sight); nobody waits for ever. · THE PROTOCOL: the queue; a worker's way out.
-/
import Derived.Test.YtacfhfeegalmlaaWW13
import Derived.Conc.WgGenN2

/- A WORKER's WAY OUT: sync.WaitGroup's Done (the library's own walk, at two anchors), step by step. -/
namespace Go.Proofs.Ytacfhfeegalmlaa
open Go.Conc
open Go.ConcR (KK wgBlock WgAt stA smA rd wr mk DC0)
open Go.ConcN (upd upd_same upd_ne RW DWs AtR0 AtK1 AtD1 AtD2 AtD3 AtD4 WSit EvW OkW ShN WgLive AsideCell Has deafBehind_idle)
set_option linter.unusedVariables false
set_option linter.unusedSimpArgs false

instance pay0 : Go.ConcR.Payload := ⟨0⟩
def noL : Nat → Loc → Prop := fun _ _ => False
/-- A cell that stands, and a place of its block that is none. -/
structure Anch where
  C : Nat
  i : Nat
  M : Nat
  v : Value
structure Anch.Ok (A : Anch) (RO : Addr → Option Value) (w : World) : Prop where
  ro : RO ⟨A.C, A.i, none⟩ = some A.v
  cell : w.cell? ⟨A.C, A.i, none⟩ = some A.v
  void : w.cell? ⟨A.C, A.M, none⟩ = none
/-- Whatever another does. -/
structure Rel (RO : Addr → Option Value) (ty : TypeId) (wg : Nat) (w w' : World) : Prop where
  ro : ∀ a v, RO a = some v → w'.cell? a = some v
  void : ∀ a a', RO a ≠ none → a'.block = a.block → w.cell? a' = none → w'.cell? a' = none
  live : WgLive ty wg w → WgLive ty wg w'
theorem Anch.Ok.rel {A : Anch} {RO : Addr → Option Value} {ty : TypeId} {wg : Nat} {w w' : World} (h : A.Ok RO w) (r : Rel RO ty wg w w') : A.Ok RO w' :=
  ⟨h.ro, r.ro _ _ h.ro, r.void ⟨A.C, A.i, none⟩ _ (by rw [h.ro]; simp) rfl h.void⟩
theorem Anch.Ok.rw {A : Anch} {RO : Addr → Option Value} {ty : TypeId} {wg : Nat} {w w' : World} (h : A.Ok RO w) (r : Rel RO ty wg w w') : RW ty wg A.C (A.M + 1) 0 A.i w w' := by
  refine ⟨fun b hb => absurd hb (Nat.not_lt_zero b), r.live, fun ⟨cs, h1, h2⟩ => ?_, (r.ro _ _ h.ro).trans h.cell.symm⟩
  exfalso
  have := h.void
  unfold World.cell? at this
  rw [h1] at this
  simp at this
  omega
theorem Anch.Ok.le {A : Anch} {RO RO' : Addr → Option Value} {w : World} (h : A.Ok RO w) (hr : ∀ a v, RO a = some v → RO' a = some v) : A.Ok RO' w := ⟨hr _ _ h.ro, h.cell, h.void⟩
theorem exists_void {w : World} {C i : Nat} {v : Value} (h : w.cell? ⟨C, i, none⟩ = some v) : ∃ M, w.cell? ⟨C, M, none⟩ = none := by
  unfold World.cell? at h ⊢
  cases e : w.heap[C]? with
  | none => rw [e] at h; cases h
  | some o =>
    rw [e] at h
    cases o with
    | cells c t f => exact ⟨c.size, by simp [e]⟩
    | _ => simp at h
section
variable (P : Program) (ty : TypeId) (wg : Nat)
abbrev R0 (A : Anch) (m : Nat) (g : Goroutine) (w : World) : Prop := Goes P false (RW ty wg A.C (A.M + 1) 0 A.i) (DWs wg noL noL A.C (A.M + 1) (A.i + 1)) (AtR0 P ty wg A.C (A.M + 1) 0 (A.i + 1) A.v) m g w
abbrev WS6 (A : Anch) (s m d : Nat) (g : Goroutine) (w : World) : Prop := WSit P ty wg A.C (A.M + 1) noL noL 0 (A.i + 1) A.v s m d g w
/-- Where it stands. -/
inductive DS (A1 A2 : Anch) (g : Goroutine) (w : World) : Nat → Nat → Nat → Prop
  | r0 {m1 m2 : Nat} : A1.C ≠ A2.C → R0 P ty wg A1 m1 g w → R0 P ty wg A2 m2 g w → DS A1 A2 g w 7 (m1 + m2) 0
  | aft1 {s m d : Nat} : s ≤ 6 → WS6 P ty wg A1 s m d g w → DS A1 A2 g w s m d
  | aft2 {s m d : Nat} : s ≤ 6 → WS6 P ty wg A2 s m d g w → DS A1 A2 g w s m d
end
section
variable {P : Program} {ty : TypeId} {wg : Nat} {A1 A2 : Anch} {g : Goroutine} {w w' : World} {s m d : Nat} {RO : Addr → Option Value}
theorem DS.rely (h : DS P ty wg A1 A2 g w s m d) (h1 : A1.Ok RO w) (h2 : A2.Ok RO w) (r : Rel RO ty wg w w') : DS P ty wg A1 A2 g w' s m d := by
  cases h with
  | r0 hne a b => exact .r0 hne (Goes.rely (fun _ _ _ x y => x.trans y) a (h1.rw r)) (Goes.rely (fun _ _ _ x y => x.trans y) b (h2.rw r))
  | aft1 hs a => exact .aft1 hs (a.rely (h1.rw r))
  | aft2 hs a => exact .aft2 hs (a.rely (h2.rw r))
theorem DS.status (h : DS P ty wg A1 A2 g w s m d) : g.status = .running ∨ g.status = .finished := by
  cases h with
  | r0 hne a b => exact .inl (Goes.running (fun _ _ x => x.1) w (RW.refl w) a)
  | aft1 hs a => exact a.status
  | aft2 hs a => exact a.status
theorem DS.running (h : DS P ty wg A1 A2 g w s m d) (h1 : s ≠ 1) : g.status = .running := by
  cases h with
  | r0 hne a b => exact Goes.running (fun _ _ x => x.1) w (RW.refl w) a
  | aft1 hs a => exact a.running_of h1
  | aft2 hs a => exact a.running_of h1
theorem DS.le7 (h : DS P ty wg A1 A2 g w s m d) : s ≤ 7 := by
  cases h with
  | r0 => exact Nat.le_refl _
  | aft1 hs => omega
  | aft2 hs => omega
/-- WHAT ITS STEP IS. -/
inductive DMove (P : Program) (ty : TypeId) (wg : Nat) (g : Goroutine) (w : World) : Nat → Nat → Nat → Nat → Goroutine → World → Array Event → Prop
  | idle7 {g' : Goroutine} {w' : World} {es : Array Event} : w'.heap = w.heap → w'.os = w.os → w'.tape = w.tape → w'.output = w.output →
      (∀ e ∈ es, (∀ x, (MemAct.ofEvent e).touch? = some x → (∃ a, x.loc = .cell a ∧ a.block = wg) ∧ x.kind ≠ .plain ∧ x.kind ≠ .said) ∧ e.loc ≠ .mark .disable ∧ e.loc ≠ .mark .enable ∧ e.loc ≠ .mark (.release (stA wg))) → DMove P ty wg g w 7 0 7 0 g' w' es
  | rel {g' : Goroutine} : DMove P ty wg g w 7 0 6 0 g' w #[mk (.releaseMerge (stA wg))]
  | idle {g' : Goroutine} {s d : Nat} : 2 ≤ s → s ≤ 6 → DMove P ty wg g w s d s d g' w #[]
  | dis {g' : Goroutine} : DMove P ty wg g w 6 0 5 1 g' w #[mk .disable]
  | add {g' : Goroutine} {v wt : Nat} : wt ≤ 1 → WgAt ty wg w (((v : Int) + 1) * KK + wt) 0 → DMove P ty wg g w 5 1 (if v = 0 ∧ wt = 1 then 4 else 1) 1 g' (w.setCell (stA wg) (.int .u64 ((v : Int) * KK + wt))) #[rd (stA wg), wr (stA wg)]
  | ld {g' : Goroutine} : WgAt ty wg w 1 0 → DMove P ty wg g w 4 1 3 1 g' w #[rd (stA wg)]
  | st {g' : Goroutine} : WgAt ty wg w 1 0 → DMove P ty wg g w 3 1 2 1 g' (w.setCell (stA wg) (.int .u64 0)) #[wr (stA wg)]
  | sem {g' : Goroutine} : WgAt ty wg w 0 0 → mayWake P g = true → g'.status = .running → DMove P ty wg g w 2 1 1 1 g' (w.setCell (smA wg) (.int .u32 1)) (semEvents (smA wg))
  | quit {g' : Goroutine} {d : Nat} {es : Array Event} : (∀ e ∈ es, Event.mute e = true) → DMove P ty wg g w 1 d 1 (deafBehind d es) g' w es
theorem ws6_step {A : Anch} (h : WS6 P ty wg A s m d g w) (hs : s ≤ 6) (hrun : g.status = .running) {v wt : Nat} (h5 : s = 5 → wt ≤ 1 ∧ v < 2147483647 ∧ WgAt ty wg w (((v : Int) + 1) * KK + wt) 0) (h43 : s = 4 ∨ s = 3 → WgAt ty wg w 1 0) (h2 : s = 2 → WgAt ty wg w 0 0) :
    ∃ g' w' es s' m' d', stepG P false g w = .go g' w' es ∧ DMove P ty wg g w s d s' d' g' w' es ∧ WS6 P ty wg A s' m' d' g' w' ∧ s' ≤ 6 ∧ (s' < s ∨ (s' = s ∧ m' < m)) := by
  cases h with
  | r0 h => omega
  | k1 h =>
    rcases Goes.cases h with hstop | ⟨m', rfl, hstep⟩
    · obtain ⟨_, g', hgo, m₂, hk⟩ := hstop w (RW.refl w)
      exact ⟨g', w, _, 5, m₂, 1, hgo, .dis, .d1 hk, by omega, .inl (by omega)⟩
    · obtain ⟨g', w', es, hgo, ⟨rfl, rfl⟩, hg'⟩ := hstep w (RW.refl w)
      exact ⟨g', w', _, 6, m', 0, hgo, .idle (by omega) (by omega), .k1 hg', by omega, .inr ⟨rfl, by omega⟩⟩
  | d1 h =>
    rcases Goes.cases h with hstop | ⟨m', rfl, hstep⟩
    · obtain ⟨_, hall⟩ := hstop w (RW.refl w)
      obtain ⟨a1, a2, a3⟩ := h5 rfl
      obtain ⟨g', hgo, hl, hq⟩ := hall v wt a1 a2 a3
      by_cases hc : v = 0 ∧ wt = 1
      · obtain ⟨m₂, hk⟩ := hl hc
        refine ⟨g', _, _, 4, m₂, 1, hgo, ?_, .d2 hk, by omega, .inl (by omega)⟩
        have := DMove.add (P := P) (g := g) (g' := g') a1 a3
        rwa [if_pos hc] at this
      · obtain ⟨q, hq⟩ := hq hc
        refine ⟨g', _, _, 1, q, 1, hgo, ?_, .quit hq, by omega, .inl (by omega)⟩
        have := DMove.add (P := P) (g := g) (g' := g') a1 a3
        rwa [if_neg hc] at this
    · obtain ⟨g', w', es, hgo, ⟨rfl, rfl⟩, hg'⟩ := hstep w (RW.refl w)
      exact ⟨g', w', _, 5, m', 1, hgo, .idle (by omega) (by omega), .d1 hg', by omega, .inr ⟨rfl, by omega⟩⟩
  | d2 h =>
    rcases Goes.cases h with hstop | ⟨m', rfl, hstep⟩
    · obtain ⟨_, hx⟩ := hstop w (RW.refl w)
      obtain ⟨g', hgo, m₂, hk⟩ := hx (h43 (.inl rfl))
      exact ⟨g', _, _, 3, m₂, 1, hgo, .ld (h43 (.inl rfl)), .d3 hk, by omega, .inl (by omega)⟩
    · obtain ⟨g', w', es, hgo, ⟨rfl, rfl⟩, hg'⟩ := hstep w (RW.refl w)
      exact ⟨g', w', _, 4, m', 1, hgo, .idle (by omega) (by omega), .d2 hg', by omega, .inr ⟨rfl, by omega⟩⟩
  | d3 h =>
    rcases Goes.cases h with hstop | ⟨m', rfl, hstep⟩
    · obtain ⟨_, hx⟩ := hstop w (RW.refl w)
      obtain ⟨g', hgo, m₂, hk⟩ := hx (h43 (.inr rfl))
      exact ⟨g', _, _, 2, m₂, 1, hgo, .st (h43 (.inr rfl)), .d4 hk, by omega, .inl (by omega)⟩
    · obtain ⟨g', w', es, hgo, ⟨rfl, rfl⟩, hg'⟩ := hstep w (RW.refl w)
      exact ⟨g', w', _, 3, m', 1, hgo, .idle (by omega) (by omega), .d3 hg', by omega, .inr ⟨rfl, by omega⟩⟩
  | d4 h =>
    rcases Goes.cases h with hstop | ⟨m', rfl, hstep⟩
    · obtain ⟨_, hmw, hx⟩ := hstop w (RW.refl w)
      obtain ⟨g', hgo, q, hq⟩ := hx (h2 rfl)
      have hrun' : g'.status = .running := by
        cases q with
        | zero => exact absurd hq.2 (by decide)
        | succ q => exact hq.elim (fun x => absurd x.2 (by decide)) (fun x => x.1)
      exact ⟨g', _, _, 1, q, 1, hgo, .sem (h2 rfl) hmw hrun', .quit hq, by omega, .inl (by omega)⟩
    · obtain ⟨g', w', es, hgo, ⟨rfl, rfl⟩, hg'⟩ := hstep w (RW.refl w)
      exact ⟨g', w', _, 2, m', 1, hgo, .idle (by omega) (by omega), .d4 hg', by omega, .inr ⟨rfl, by omega⟩⟩
  | quit h =>
    cases m with
    | zero => rw [h.1] at hrun; cases hrun
    | succ q =>
      rcases h with ⟨hf, _⟩ | ⟨_, g', es, hmute, hstep, hq⟩
      · rw [hf] at hrun; cases hrun
      · exact ⟨g', w, es, 1, q, _, hstep w, .quit hmute, .quit hq, by omega, .inr ⟨rfl, by omega⟩⟩
theorem evw_ok {k : Nat} {es : Array Event} (h : ∀ e ∈ es, EvW wg noL noL k e) : ∀ e ∈ es, (∀ x, (MemAct.ofEvent e).touch? = some x → (∃ a, x.loc = .cell a ∧ a.block = wg) ∧ x.kind ≠ .plain ∧ x.kind ≠ .said) ∧ e.loc ≠ .mark .disable ∧ e.loc ≠ .mark .enable ∧ e.loc ≠ .mark (.release (stA wg)) := by
  intro e he
  obtain ⟨h1, h2, h3, h4⟩ := h e he
  refine ⟨fun x hx => ?_, h2, h3, h4⟩
  rcases (h1 0 "").2 x hx with ⟨⟨a, ha, hb⟩, hk, hk'⟩ | hh | ⟨hh, _⟩
  · exact ⟨⟨a, ha, hb⟩, hk, hk'⟩
  · exact hh.elim
  · exact hh.elim
theorem ds_step (h : DS P ty wg A1 A2 g w s m d) (hrun : g.status = .running) {v wt : Nat} (h5 : s = 5 → wt ≤ 1 ∧ v < 2147483647 ∧ WgAt ty wg w (((v : Int) + 1) * KK + wt) 0) (h43 : s = 4 ∨ s = 3 → WgAt ty wg w 1 0) (h2 : s = 2 → WgAt ty wg w 0 0) :
    ∃ g' w' es s' m' d', stepG P false g w = .go g' w' es ∧ DMove P ty wg g w s d s' d' g' w' es ∧ DS P ty wg A1 A2 g' w' s' m' d' ∧ (s' < s ∨ (s' = s ∧ m' < m)) := by
  cases h with
  | aft1 hs h =>
    obtain ⟨g', w', es, s', m', d', x1, x2, x3, x4, x5⟩ := ws6_step h hs hrun h5 h43 h2
    exact ⟨g', w', es, s', m', d', x1, x2, .aft1 x4 x3, x5⟩
  | aft2 hs h =>
    obtain ⟨g', w', es, s', m', d', x1, x2, x3, x4, x5⟩ := ws6_step h hs hrun h5 h43 h2
    exact ⟨g', w', es, s', m', d', x1, x2, .aft2 x4 x3, x5⟩
  | r0 hne a b =>
    rcases Goes.cases a with hstop | ⟨m1', rfl, hstep⟩
    · obtain ⟨_, hhas, g', hgo, m₂, hk⟩ := hstop w (RW.refl w)
      exact ⟨g', w, _, 6, m₂, 0, hgo, .rel, .aft1 (by omega) (.k1 hk), .inl (by omega)⟩
    · rcases Goes.cases b with hstop | ⟨m2', rfl, hstep2⟩
      · obtain ⟨_, hhas, g', hgo, m₂, hk⟩ := hstop w (RW.refl w)
        exact ⟨g', w, _, 6, m₂, 0, hgo, .rel, .aft2 (by omega) (.k1 hk), .inl (by omega)⟩
      · obtain ⟨g', w', es, hgo, ⟨hac, hev⟩, hg'⟩ := hstep w (RW.refl w)
        obtain ⟨g2, w2, es2, hgo2, ⟨hac2, hev2⟩, hg2⟩ := hstep2 w (RW.refl w)
        rw [hgo] at hgo2
        injection hgo2 with e1 e2 e3
        subst e1 e2 e3
        refine ⟨g', w', es, 7, m1' + m2', 0, hgo, .idle7 ?_ hac.os hac.tape hac.output (evw_ok hev), .r0 hne hg' hg2, .inr ⟨rfl, by omega⟩⟩
        apply Array.ext_getElem?
        intro b
        by_cases e : b = A1.C
        · exact hac2.block b (fun e2 => hne (e.symm.trans e2))
        · exact hac.block b e
end
end Go.Proofs.Ytacfhfeegalmlaa

/- WHERE EACH GOROUTINE STANDS, and where the whole stands. -/
namespace Go.Proofs.Ytacfhfeegalmlaa
open Go.Conc
open Go.ConcR (KK wgBlock WgAt stA smA rd wr mk DC0)
open Go.ConcN (upd upd_same upd_ne WgLive RelBy sumTo)
set_option linter.unusedVariables false
set_option linter.unusedSimpArgs false

def Who.as (W : Who) (b : Bool) : Who := { W with main := b }
/-- The goroutine that is there steps as that one. -/
structure Act' (x g : Goroutine) : Prop where
  frame : x.frame = g.frame
  callers : x.callers = g.callers
  dying : x.dying = g.dying
  run : x.status = .running
theorem Act'.step {P : Program} {x g : Goroutine} (h : Act' x g) (m : Bool) (w : World) : stepG P m x w = stepG P m g w := stepG_same h.frame h.callers h.dying w
theorem Act'.refl {g : Goroutine} (h : g.status = .running) : Act' g g := ⟨rfl, rfl, rfl, h⟩
theorem Act'.wakes {P : Program} {x g : Goroutine} (h : Act' x g) : mayWake P x = mayWake P g := by
  unfold mayWake
  rw [h.frame]
abbrev Pk := Option (Option Nat)
section
variable (P : Program) (W : Who) (StopM StopW : Kn → Goroutine → Prop)
abbrev Ch (W : Who) (Stop : Kn → Goroutine → Prop) (h : Kn × Goroutine → Tree) : Kn → Goroutine → Prop := fun k' g' => GKR P W Stop (h (k', g')) k' g'
/-- THE MAIN ONE. -/
inductive MS (x : Goroutine) (k : Kn) : Rank → Pk → Prop
  | run {t : Tree} {g : Goroutine} : GKR P (W.as true) StopM t k g → Act' x g → MS x k (9, t, 0) none
  | send {h : Kn × Goroutine → Tree} {g : Goroutine} {X : RunC} {q wg m s b : Nat} {z : Value} : SendQF P (W.as true) (Ch P (W.as true) StopM h) k g X q wg m s b z → x = parked g #[scase q (.int .i64 s) z] .send → MS x k (9, .mk h, 0) (some (some q))
  | sem {h : Kn × Goroutine → Tree} {g g' : Goroutine} {X : RunC} {q wg m b : Nat} : WSemF P (W.as true) (Ch P (W.as true) StopM h) k g g' X q wg m b → x = { g with status := .blocked } → MS x k (9, .mk h, 0) (some none)
/-- A WORKER. -/
inductive WkS (wg : Nat) (RO : Addr → Option Value) (x : Goroutine) (k : Kn) (w : World) : Rank → Pk → Nat → Prop
  | run {t : Tree} {g : Goroutine} : GKR P (W.as false) StopW t k g → Act' x g → WkS wg RO x k w (9, t, 0) none k.deaf
  | pkE {h : Kn × Goroutine → Tree} {g : Goroutine} {X : RunC} {q wg' left i j : Nat} {z : Value} : RecvEF P (W.as false) (Ch P (W.as false) StopW h) k g X q wg' left i j z → x = parked g #[rcase (X.ex j) z] (.recv false) → WkS wg RO x k w (9, .mk h, 0) (some (some (X.ex j))) k.deaf
  | pkT {h : Kn × Goroutine → Tree} {g : Goroutine} {X : RunC} {q wg' left i : Nat} {z : Value} : RecvTF P (W.as false) (Ch P (W.as false) StopW h) k g X q wg' left i z → x = parked g #[rcase (X.ex i) z] (.recv false) → WkS wg RO x k w (9, .mk h, 0) (some (some (X.ex i))) k.deaf
  | pkQ {h : Kn × Goroutine → Tree} {g : Goroutine} {X : RunC} {q wg' left : Nat} {z : Value} : RecvQF P (W.as false) (Ch P (W.as false) StopW h) k g X q wg' left z → x = parked g #[rcase q z] (.recv true) → WkS wg RO x k w (9, .mk h, 0) (some (some q)) k.deaf
  | dn {A1 A2 : Anch} {s m d : Nat} : 2 ≤ s → DS P W.wgT wg A1 A2 x w s m d → A1.Ok RO w → A2.Ok RO w → WkS wg RO x k w (s, .leaf, m) none d
  | qt {m d : Nat} : QuitsD P m d x → WkS wg RO x k w (1, .leaf, m) none d
end
def closedAt (w : World) (c : Nat) : Bool := match w.heap[c]? with
  | some (.chan _ _ true ..) => true
  | _ => false
def wakesB (P : Program) (g g' : Goroutine) : Bool := mayWake P g && g'.status != .blocked && g'.status != .waiting
def newpk (P : Program) (g g' : Goroutine) (w' : World) : Pk → Pk
  | some (some c) => if wakesB P g g' && closedAt w' c then none else some (some c)
  | some none => if wakesB P g g' then none else some none
  | none => none
theorem woken_eq {P : Program} {g g' : Goroutine} {w' : World} {x : Goroutine} : woken P g g' w' x = if wakesB P g g' then x.again w' else x := rfl
theorem again_recv {g : Goroutine} {c : Nat} {z : Value} {sh : CommShape} {w : World} : (parked g #[rcase c z] sh).again w = if closedAt w c then { parked g #[rcase c z] sh with status := .running } else parked g #[rcase c z] sh := by
  unfold Goroutine.again closedAt
  simp only [parked, rcase]
  cases e : w.heap[c]? with
  | none => simp [e]
  | some o =>
    cases o with
    | chan cap buf cl s r tm => cases cl <;> simp [e]
    | _ => simp [e]
theorem again_send {g : Goroutine} {c : Nat} {v z : Value} {sh : CommShape} {w : World} : (parked g #[scase c v z] sh).again w = if closedAt w c then { parked g #[scase c v z] sh with status := .running } else parked g #[scase c v z] sh := by
  unfold Goroutine.again closedAt
  simp only [parked, scase]
  cases e : w.heap[c]? with
  | none => simp [e]
  | some o =>
    cases o with
    | chan cap buf cl s r tm => cases cl <;> simp [e]
    | _ => simp [e]
section
variable {P : Program} {W : Who} {StopM StopW : Kn → Goroutine → Prop} {wg : Nat} {RO RO' : Addr → Option Value} {x g g' : Goroutine} {k : Kn} {w w' : World} {r : Rank} {pk : Pk} {d : Nat}
theorem MS.woken (h : MS P W StopM x k r pk) : MS P W StopM (woken P g g' w' x) k r (newpk P g g' w' pk) := by
  cases h with
  | run h a =>
    have e : Go.Conc.woken P g g' w' x = x := by
      rw [woken_eq]
      split
      · exact again_running _ (.inl a.run)
      · rfl
    rw [e]
    exact .run h a
  | send h e =>
    subst e
    rw [woken_eq]
    simp only [newpk]
    cases hw : wakesB P g g' with
    | false => simp; exact .send h rfl
    | true =>
      simp only [if_true, Bool.true_and]
      rw [again_send]
      split
      · exact .run (GKF.sendQ _ _ _ _ _ _ _ h) ⟨rfl, rfl, rfl, rfl⟩
      · exact .send h rfl
  | sem h e =>
    subst e
    rw [woken_eq]
    simp only [newpk]
    cases hw : wakesB P g g' with
    | false => simp; exact .sem h rfl
    | true =>
      simp only [if_true]
      refine .run (GKF.wSem _ _ _ _ _ _ h) ?_
      have : ∀ y : Goroutine, y.offers = none → Goroutine.again w' { y with status := .blocked } = { y with status := .running } := fun y hy => by
        unfold Goroutine.again
        simp only [hy]
      rw [this _ h.offers]
      exact ⟨rfl, rfl, rfl, rfl⟩
theorem WkS.woken (h : WkS P W StopW wg RO x k w r pk d) : WkS P W StopW wg RO (woken P g g' w' x) k w r (newpk P g g' w' pk) d := by
  cases h with
  | run h a =>
    have e : Go.Conc.woken P g g' w' x = x := by
      rw [woken_eq]
      split
      · exact again_running _ (.inl a.run)
      · rfl
    rw [e]
    exact .run h a
  | pkE h e =>
    subst e
    rw [woken_eq]
    simp only [newpk]
    cases hw : wakesB P g g' with
    | false => simp; exact .pkE h rfl
    | true =>
      simp only [if_true, Bool.true_and]
      rw [again_recv]
      split
      · exact .run (GKF.recvE _ _ _ _ _ _ _ h) ⟨rfl, rfl, rfl, rfl⟩
      · exact .pkE h rfl
  | pkT h e =>
    subst e
    rw [woken_eq]
    simp only [newpk]
    cases hw : wakesB P g g' with
    | false => simp; exact .pkT h rfl
    | true =>
      simp only [if_true, Bool.true_and]
      rw [again_recv]
      split
      · exact .run (GKF.recvT _ _ _ _ _ _ h) ⟨rfl, rfl, rfl, rfl⟩
      · exact .pkT h rfl
  | pkQ h e =>
    subst e
    rw [woken_eq]
    simp only [newpk]
    cases hw : wakesB P g g' with
    | false => simp; exact .pkQ h rfl
    | true =>
      simp only [if_true, Bool.true_and]
      rw [again_recv]
      split
      · exact .run (GKF.recvQ _ _ _ _ _ h) ⟨rfl, rfl, rfl, rfl⟩
      · exact .pkQ h rfl
  | dn hs h a1 a2 =>
    have e : Go.Conc.woken P g g' w' x = x := by
      rw [woken_eq]
      split
      · exact again_running _ h.status
      · rfl
    rw [e]
    exact .dn hs h a1 a2
  | qt h =>
    rw [woken_quitsD h]
    exact .qt h
structure Rel0 (RO : Addr → Option Value) (w w' : World) : Prop where
  ro : ∀ a v, RO a = some v → w'.cell? a = some v
  void : ∀ a a', RO a ≠ none → a'.block = a.block → w.cell? a' = none → w'.cell? a' = none
theorem WkS.rely (h : WkS P W StopW wg RO x k w r pk d) (hr0 : Rel0 RO w w') (hl : 2 ≤ r.1 → r.1 ≤ 7 → WgLive W.wgT wg w → WgLive W.wgT wg w') (hRO : ∀ a v, RO a = some v → RO' a = some v) : WkS P W StopW wg RO' x k w' r pk d := by
  cases h with
  | run h a => exact .run h a
  | pkE h e => exact .pkE h e
  | pkT h e => exact .pkT h e
  | pkQ h e => exact .pkQ h e
  | dn hs h a1 a2 =>
    have hr : Rel RO W.wgT wg w w' := ⟨hr0.ro, hr0.void, hl hs h.le7⟩
    exact .dn hs (h.rely a1 a2 hr) ((a1.rel hr).le hRO) ((a2.rel hr).le hRO)
  | qt h => exact .qt h
/-- Whoever works or leaves does not hang on the group. -/
theorem WkS.regroup {wg' : Nat} (h : WkS P W StopW wg RO x k w r pk d) (hs : r.1 = 9 ∨ r.1 = 1) (hRO : ∀ a v, RO a = some v → RO' a = some v) : WkS P W StopW wg' RO' x k w' r pk d := by
  cases h with
  | run h a => exact .run h a
  | pkE h e => exact .pkE h e
  | pkT h e => exact .pkT h e
  | pkQ h e => exact .pkQ h e
  | dn hs' h a1 a2 => have := h.le7; simp at hs; omega
  | qt h => exact .qt h
theorem MS.status (hS : ∀ k g, StopM k g → g.status = .running) (h : MS P W StopM x k r pk) : (x.status = .running ∧ pk = none) ∨ (x.status = .blocked ∧ pk ≠ none) := by
  cases h with
  | run h a => exact .inl ⟨a.run, rfl⟩
  | send h e => subst e; exact .inr ⟨rfl, by simp⟩
  | sem h e => subst e; exact .inr ⟨rfl, by simp⟩
theorem WkS.status (h : WkS P W StopW wg RO x k w r pk d) : (x.status = .running ∧ pk = none) ∨ (x.status = .blocked ∧ ∃ c, pk = some (some c)) ∨ (x.status = .finished ∧ pk = none ∧ r.1 = 1) := by
  cases h with
  | run h a => exact .inl ⟨a.run, rfl⟩
  | pkE h e => subst e; exact .inr (.inl ⟨rfl, _, rfl⟩)
  | pkT h e => subst e; exact .inr (.inl ⟨rfl, _, rfl⟩)
  | pkQ h e => subst e; exact .inr (.inl ⟨rfl, _, rfl⟩)
  | dn hs h a1 a2 => exact .inl ⟨h.running (by omega), rfl⟩
  | qt h => exact h.status.elim (fun x => .inl ⟨x, rfl⟩) fun x => .inr (.inr ⟨x, rfl, rfl⟩)
theorem WkS.stage (h : WkS P W StopW wg RO x k w r pk d) : r.1 = 9 ∨ (2 ≤ r.1 ∧ r.1 ≤ 7) ∨ r.1 = 1 := by
  cases h with
  | run h a => exact .inl rfl
  | pkE h e => exact .inl rfl
  | pkT h e => exact .inl rfl
  | pkQ h e => exact .inl rfl
  | dn hs h a1 a2 => exact .inr (.inl ⟨hs, h.le7⟩)
  | qt h => exact .inr (.inr rfl)
end

theorem WkS.nine {P : Program} {W : Who} {StopW : Kn → Goroutine → Prop} {wg : Nat} {RO : Addr → Option Value} {x : Goroutine} {k : Kn} {w : World} {r : Rank} {pk : Pk} {d : Nat} (h : WkS P W StopW wg RO x k w r pk d) (hp : pk ≠ none) : r.1 = 9 := by
  cases h <;> first | rfl | exact absurd rfl hp
/-! ### the whole -/
def jobOf : Gh → Option Nat
  | .wk _ _ _ _ (.job j _) => some j
  | _ => none
def Handed (t : Trace) (i : Nat) : Prop := ∀ j, t.g? j = some i → t.counts j → ∃ j', t.g? j' = some 0 ∧ HappensBefore t j j'
/-- i has said its release. -/
def RelI (t : Trace) (wg p0 i : Nat) : Prop := ∃ r, RelBy (stA wg) t i r ∧ p0 ≤ r ∧ ∀ j c, t.act? j = some (.close c) → t.g? j = some i → j < r
def PubAt (W : Who) (RO : Addr → Option Value) (t : Trace) (X : RunC) (j : Nat) : Prop :=
  ∃ pc R, ClAt t (X.ex j) pc ∧ W.Pub X j R ∧ (∀ a v, R a = some v → RO a = some v) ∧ ∀ a, R a ≠ none → KnW t (fun i => Before t i pc) a
/-- What all parts of the proof speak of. -/
structure View where
  gh : Nat → Gh
  lv : Option (Nat × TypeId)
  k0 : Kn
  RO : Addr → Option Value
  Sp : Nat → Prop
  pos : Nat
  wg : Nat
  sg : Nat → Nat
  pk : Nat → Pk
  N : Nat
  hp : Nat → Option Obj
  t : Trace
def View.at (V : View) (first i : Nat) : Prop := first ≤ i ∧ i < V.N ∧ V.sg i = 9
inductive Toks (W : Who) (V : View) (X : RunC) (first T : Nat) : Prop
  | air : W.Tok X T V.k0 → ClAt V.t (X.ex T) V.pos → (∃ c, V.t.g? V.pos = some c ∧ (c = 0 ∨ (first ≤ c ∧ c < V.N))) → (∀ i, V.at first i → ∀ q wg left j, V.gh i ≠ .wk X q wg left (.job j true)) → Toks W V X first T
  | held (i : Nat) : V.k0 = Kn.emp → V.at first i → (∃ q wg left, V.gh i = .wk X q wg left (.job T true)) → Toks W V X first T
structure Rnd (W : Who) (V : View) (X : RunC) (first T s : Nat) : Prop where
  sp : ∀ j, j ≤ X.n → V.Sp (X.ex j)
  ex : ∀ j, j ≤ X.n → V.hp (X.ex j) = some (.chan 0 #[] (decide (j ≤ T)) 0 0 false)
  inj : ∀ i j, i ≤ X.n → j ≤ X.n → X.ex i = X.ex j → i = j
  Ts : T ≤ s
  sn : s ≤ X.n
  pub : ∀ j, j ≤ T → PubAt W V.RO V.t X j
  tok : Toks W V X first T
  f1 : 1 ≤ first
  fN : first ≤ V.N
  uniq : ∀ i i' j, V.at first i → V.at first i' → jobOf (V.gh i) = some j → jobOf (V.gh i') = some j → i = i'
  all : ∀ j, T ≤ j → j < s → ∃ i, V.at first i ∧ jobOf (V.gh i) = some j
  jobs : ∀ i, V.at first i → ∀ j, jobOf (V.gh i) = some j → T ≤ j ∧ j < s
  tk : ∀ i, V.at first i → ∀ q wg left j, V.gh i = .wk X q wg left (.job j true) → j = T
  skx : ∀ i, V.at first i → ∀ j, j ≤ X.n → SK V.t (Knows V.t i) (X.ex j)
  sk0 : ∀ j, j ≤ X.n → SK V.t (Knows V.t 0) (X.ex j)
  gone : ∀ i, 1 ≤ i → i < first → V.sg i = 1 ∧ Handed V.t i
def cnt1 (s : Nat) : Nat := if 5 ≤ s then 1 else 0
def Vc (V : View) (first m : Nat) : Nat := sumTo m fun a => cnt1 (V.sg (first + a))
def OpenSt (V : View) (first m : Nat) : Prop := ∀ a, a < m → V.sg (first + a) = 9 ∨ V.sg (first + a) = 7 ∨ V.sg (first + a) = 6 ∨ V.sg (first + a) = 5 ∨ V.sg (first + a) = 1
def AllQ (V : View) (first m : Nat) : Prop := ∀ a, a < m → V.sg (first + a) = 1
inductive Md (V : View) (X : RunC) (q wg m b first : Nat) : Int → Int → Prop
  | opn {B : Nat} : V.gh 0 = .shut X q wg m B b → OpenSt V first m → Vc V first m ≤ B → Md V X q wg m b first ((Vc V first m : Int) * KK) 0
  | reg : V.gh 0 = .reg X q wg m b → OpenSt V first m → 1 ≤ Vc V first m → Md V X q wg m b first ((Vc V first m : Int) * KK + 1) 0
  | last (L : Nat) : V.gh 0 = .reg X q wg m b → L < m → (V.sg (first + L) = 4 ∨ V.sg (first + L) = 3 ∨ V.sg (first + L) = 2) → (∀ a, a < m → a ≠ L → V.sg (first + a) = 1) → Md V X q wg m b first (if V.sg (first + L) = 2 then 0 else 1) 0
  | sema : V.gh 0 = .reg X q wg m b → AllQ V first m → V.pk 0 = none → Md V X q wg m b first 0 1
  | fin : V.gh 0 = .fin X q wg m b → AllQ V first m → Md V X q wg m b first 0 0
structure Par (W : Who) (V : View) (X : RunC) (q wg m s first : Nat) : Prop where
  N : V.N = first + m
  spq : V.Sp q
  hq : V.hp q = some (.chan 0 #[] false s s false)
  skq : SK V.t (Knows V.t 0) q
  wk : ∀ i, first ≤ i → i < V.N → V.sg i = 9 ∧ ∃ left st, V.gh i = .wk X q wg left st ∧ X.n ≤ s + left
  one : V.pk 0 = some (some q) → ∀ i, first ≤ i → i < V.N → V.pk i ≠ some (some q)
  qx : ∀ j, j ≤ X.n → q ≠ X.ex j
structure Sht (W : Who) (V : View) (X : RunC) (q wg m b first p0 pq : Nat) (st sm : Int) : Prop where
  N : V.N = first + m
  m0 : 0 < m
  m31 : m < 2147483648
  ewg : V.wg = wg
  spq : V.Sp q
  spw : V.Sp wg
  hq : V.hp q = some (.chan 0 #[] true X.n X.n false)
  clq : ClAt V.t q pq
  skp : SK V.t (fun i => Before V.t i pq) wg
  wk : ∀ i, V.at first i → (∃ left st, V.gh i = .wk X q wg left st) ∨ (V.gh i = .wkf X q wg ∧ SK V.t (Knows V.t i) wg)
  dn : ∀ i, first ≤ i → i < V.N → V.sg i ≤ 7 → SK V.t (Knows V.t i) wg
  ss : SS V.t wg
  sk0 : SK V.t (Knows V.t 0) wg
  ep0 : p0 ≤ V.t.size
  norel : ∀ j, p0 ≤ j → V.t.act? j ≠ some (.mark (.release (stA wg)))
  rel : ∀ i, first ≤ i → i < V.N → V.sg i ≤ 6 → RelI V.t wg p0 i
  md : Md V X q wg m b first st sm
  hw : V.hp wg = some (wgBlock W.wgT st sm)
inductive Phase (W : Who) (V : View) : Prop
  | lone (b : Nat) : V.gh 0 = .lone b → V.lv = none → V.k0 = Kn.emp → (∀ i, 1 ≤ i → i < V.N → V.sg i = 1 ∧ Handed V.t i) → Phase W V
  | run (X : RunC) (b : Nat) : V.gh 0 = .run X b → V.lv = none → Rnd W V X V.N 0 0 → Phase W V
  | par (X : RunC) (q wg m s b first T : Nat) : V.gh 0 = .par X q wg m s b → V.lv = none → Rnd W V X first T s → Par W V X q wg m s first → Phase W V
  | shut (X : RunC) (q wg m b first T p0 pq : Nat) (st sm : Int) : V.lv = some (wg, W.wgT) → Rnd W V X first T X.n → Sht W V X q wg m b first p0 pq st sm → Phase W V
end Go.Proofs.Ytacfhfeegalmlaa

/- HOW THE WHOLE STANDS WHERE THE TRACE GROWS. -/
namespace Go.Proofs.Ytacfhfeegalmlaa
open Go.Conc
open Go.ConcR (KK wgBlock WgAt stA smA rd wr mk DC0)
open Go.ConcN (upd upd_same upd_ne WgLive RelBy sumTo)
set_option linter.unusedVariables false
set_option linter.unusedSimpArgs false

structure Gr (V : View) (u : Trace) : Prop where
  ro : ∀ op ∈ u, ∀ x, op.act.touch? = some x → x.write = true → ∀ a, x.loc = .cell a → V.RO a = none
  sp : ∀ op ∈ u, ∀ x, op.act.touch? = some x → ∀ b, blkOf x.loc = some b → V.Sp b → x.kind ≠ .plain ∧ (x.kind = .said → op.g = 0)
  rel : ∀ op ∈ u, op.act ≠ .mark (.release (stA V.wg))
  cnt : ∀ j, V.t.size ≤ j → ∀ i, (V.t ++ u).g? j = some i → V.sg i ≤ 6 → ¬ (V.t ++ u).counts j
  cl : ∀ op ∈ u, V.sg op.g ≤ 6 → ∀ c, op.act ≠ .close c
/-- Nothing is touched. -/
theorem Gr.mute {V : View} {u : Trace} (hn : ∀ op ∈ u, op.act.touch? = none) (hr : ∀ op ∈ u, op.act ≠ .mark (.release (stA V.wg))) (hc : ∀ op ∈ u, V.sg op.g ≤ 6 → ∀ c, op.act ≠ .close c) : Gr V u := by
  refine ⟨fun op ho x hx => ?_, fun op ho x hx => ?_, hr, fun j hj i hi _ ⟨x, hx, _⟩ => ?_, hc⟩
  · rw [hn op ho] at hx; cases hx
  · rw [hn op ho] at hx; cases hx
  · obtain ⟨op, ho, hxx⟩ := touch_of hx
    rcases getElem?_append_cases ho with ⟨hlt, _⟩ | ⟨_, hou⟩
    · omega
    · rw [hn op hou] at hxx; cases hxx
/-- One goroutine's operations, which works. -/
theorem Gr.of {V : View} {K : Nat → Kn} {i n' : Nat} {u : Trace} (hf : UFit K V.RO V.Sp i n' u) (hi : V.sg i = 9) (hr : ∀ op ∈ u, op.act ≠ .mark (.release (stA V.wg))) : Gr V u := by
  refine ⟨hf.ro, fun op ho x hx b hb hs => ⟨(hf.sp op ho x hx b hb hs).1, fun e => by rw [hf.g op ho]; exact (hf.sp op ho x hx b hb hs).2 e⟩, hr, fun j hj i' hi' hs => ?_, fun op ho hs => ?_⟩
  · obtain ⟨op, ho, hog⟩ := Option.map_eq_some_iff.1 hi'
    rcases getElem?_append_cases ho with ⟨hlt, _⟩ | ⟨_, hou⟩
    · omega
    · rw [hf.g op hou] at hog; subst hog; omega
  · rw [hf.g op ho, hi] at hs; omega
section
variable {V : View} {u : Trace} {b i : Nat} {Q Q' : Nat → Prop}
theorem SK.gr (h : SK V.t Q b) (hg : Gr V u) (hb : V.Sp b) (hQ : ∀ j, Q j → Q' j) : SK (V.t ++ u) Q' b := fun j x h1 h2 h3 => by
  rcases touch_cases h1 with ⟨_, h1⟩ | ⟨_, op, ho, hx, _⟩
  · exact hQ _ (h j x h1 h2 h3)
  · exact absurd h3 (hg.sp op ho x hx b h2 hb).1
theorem SK.grK (h : SK V.t (Knows V.t i) b) (hg : Gr V u) (hb : V.Sp b) : SK (V.t ++ u) (Knows (V.t ++ u) i) b := h.gr hg hb fun j hj => hj.app u
theorem SS.gr (h : SS V.t b) (hg : Gr V u) (hb : V.Sp b) : SS (V.t ++ u) b := fun j x h1 h2 h3 => by
  rcases touch_cases h1 with ⟨_, h1⟩ | ⟨_, op, ho, hx, hj⟩
  · exact (h j x h1 h2 h3).app u
  · have := (hg.sp op ho x hx b h2 hb).2 h3
    have h4 := knows_own hj
    rw [this] at h4
    exact h4
theorem PubAt.gr {W : Who} {X : RunC} {j : Nat} {RO' : Addr → Option Value} (h : PubAt W V.RO V.t X j) (hg : Gr V u) (hRO : ∀ a v, V.RO a = some v → RO' a = some v) : PubAt W RO' (V.t ++ u) X j := by
  obtain ⟨pc, R, h1, h2, h3, h4⟩ := h
  refine ⟨pc, R, h1.app u, h2, fun a v hv => hRO a v (h3 a v hv), fun a ha k x x1 x2 x3 => ?_⟩
  rcases touch_cases x1 with ⟨_, x1⟩ | ⟨_, op, ho, hx, _⟩
  · exact (h4 a ha k x x1 x2 x3).app u
  · obtain ⟨v, hv⟩ := Option.ne_none_iff_exists'.1 ha
    have := hg.ro op ho x hx x3 a x2
    rw [h3 a v hv] at this; cases this
theorem Handed.gr (h : Handed V.t i) (hg : Gr V u) (hs : V.sg i ≤ 6) : Handed (V.t ++ u) i := by
  intro j hj hc
  rcases Nat.lt_or_ge j V.t.size with hlt | hge
  · obtain ⟨j', h1, h2⟩ := h j (by rw [← g?_old (u := u) hlt]; exact hj) (by rwa [counts_old hlt] at hc)
    refine ⟨j', ?_, hb_app u h2⟩
    have : j' < V.t.size := by
      obtain ⟨op, ho, _⟩ := Option.map_eq_some_iff.1 h1
      exact lt_size_of_getElem? ho
    rw [g?_old this]; exact h1
  · exact absurd hc (hg.cnt j hge i hj hs)
theorem RelI.gr {wg p0 : Nat} (h : RelI V.t wg p0 i) (hg : Gr V u) (hs : V.sg i ≤ 6) : RelI (V.t ++ u) wg p0 i := by
  obtain ⟨r, h1, h2, h3⟩ := h
  refine ⟨r, h1.app fun j hj hgj => hg.cnt j hj i hgj hs, h2, fun j c hc hgj => ?_⟩
  rcases Nat.lt_or_ge j V.t.size with hlt | hge
  · exact h3 j c (by rw [← act?_old (u := u) hlt]; exact hc) (by rw [← g?_old (u := u) hlt]; exact hgj)
  · exfalso
    obtain ⟨op, ho, hoa⟩ := Option.map_eq_some_iff.1 hc
    obtain ⟨op', ho', hog⟩ := Option.map_eq_some_iff.1 hgj
    rw [ho] at ho'; cases ho'
    rcases getElem?_append_cases ho with ⟨hlt, _⟩ | ⟨_, hou⟩
    · omega
    · exact hg.cl op hou (by rw [hog]; exact hs) c hoa
theorem norel_gr {wg p0 : Nat} (h : ∀ j, p0 ≤ j → V.t.act? j ≠ some (.mark (.release (stA wg)))) (hg : Gr V u) (hw : V.wg = wg) : ∀ j, p0 ≤ j → (V.t ++ u).act? j ≠ some (.mark (.release (stA wg))) := by
  intro j hj e
  rcases Nat.lt_or_ge j V.t.size with hlt | hge
  · rw [act?_old hlt] at e; exact h j hj e
  · obtain ⟨op, ho, hoa⟩ := Option.map_eq_some_iff.1 e
    rcases getElem?_append_cases ho with ⟨hlt, _⟩ | ⟨_, hou⟩
    · omega
    · exact hg.rel op hou (by rw [hw]; exact hoa)
/-- The trace grows; more stands; what is nobody's stands; the main one may be let try again. -/
def View.next (V : View) (RO' : Addr → Option Value) (pk' : Nat → Pk) (hp' : Nat → Option Obj) (u : Trace) : View := { V with RO := RO', pk := pk', hp := hp', t := V.t ++ u }
variable {W : Who} {RO' : Addr → Option Value} {pk' : Nat → Pk} {hp' : Nat → Option Obj}
theorem Toks.gr {X : RunC} {first T : Nat} (h : Toks W V X first T) : Toks W (V.next RO' pk' hp' u) X first T := by
  cases h with
  | air h1 h2 h3 h4 =>
    refine .air h1 (h2.app u) ?_ h4
    obtain ⟨c, h5, h6⟩ := h3
    exact ⟨c, by show (V.t ++ u).g? V.pos = _; rw [g?_old (lt_of_act? h2.act)]; exact h5, h6⟩
  | held i h1 h2 h3 => exact .held i h1 h2 h3
theorem Rnd.gr {X : RunC} {first T s : Nat} (h : Rnd W V X first T s) (hg : Gr V u) (hRO : ∀ a v, V.RO a = some v → RO' a = some v) (hhp : ∀ j, j ≤ X.n → hp' (X.ex j) = V.hp (X.ex j)) : Rnd W (V.next RO' pk' hp' u) X first T s := by
  refine ⟨h.sp, fun j hj => (hhp j hj).trans (h.ex j hj), h.inj, h.Ts, h.sn, fun j hj => (h.pub j hj).gr hg hRO, h.tok.gr, h.f1, h.fN, h.uniq, h.all, h.jobs, h.tk, fun i hi j hj => (h.skx i hi j hj).grK hg (h.sp j hj), fun j hj => (h.sk0 j hj).grK hg (h.sp j hj), fun i h1 h2 => ?_⟩
  obtain ⟨x1, x2⟩ := h.gone i h1 h2
  exact ⟨x1, x2.gr hg (by rw [x1]; omega)⟩
theorem Md.gr {X : RunC} {q wg m b first : Nat} {st sm : Int} (h : Md V X q wg m b first st sm) (hpk : ∀ i, pk' i = V.pk i ∨ (V.pk i = some none ∧ pk' i = none)) : Md (V.next RO' pk' hp' u) X q wg m b first st sm := by
  cases h with
  | opn h1 h2 h3 => exact .opn (V := V.next RO' pk' hp' u) h1 h2 h3
  | reg h1 h2 h3 => exact .reg (V := V.next RO' pk' hp' u) h1 h2 h3
  | last L h1 h2 h3 h4 => exact .last (V := V.next RO' pk' hp' u) L h1 h2 h3 h4
  | sema h1 h2 h3 =>
    refine .sema (V := V.next RO' pk' hp' u) h1 h2 ?_
    rcases hpk 0 with e | ⟨_, e⟩
    · exact e.trans h3
    · exact e
  | fin h1 h2 => exact .fin (V := V.next RO' pk' hp' u) h1 h2
theorem Par.gr {X : RunC} {q wg m s first : Nat} (h : Par W V X q wg m s first) (hg : Gr V u) (hpk : ∀ i, pk' i = V.pk i ∨ (V.pk i = some none ∧ pk' i = none)) (hhp : hp' q = V.hp q) : Par W (V.next RO' pk' hp' u) X q wg m s first := by
  refine ⟨h.N, h.spq, hhp.trans h.hq, h.skq.grK hg h.spq, h.wk, fun h0 i h1 h2 h3 => ?_, h.qx⟩
  have e0 : V.pk 0 = some (some q) := by
    rcases hpk 0 with e | ⟨_, e⟩
    · exact e.symm.trans h0
    · have : pk' 0 = some (some q) := h0
      rw [e] at this; cases this
  have e1 : V.pk i = some (some q) := by
    rcases hpk i with e | ⟨_, e⟩
    · exact e.symm.trans h3
    · have : pk' i = some (some q) := h3
      rw [e] at this; cases this
  exact h.one e0 i h1 h2 e1
theorem Sht.gr {X : RunC} {q wg m b first p0 pq : Nat} {st sm : Int} (h : Sht W V X q wg m b first p0 pq st sm) (hg : Gr V u) (hpk : ∀ i, pk' i = V.pk i ∨ (V.pk i = some none ∧ pk' i = none)) (hhp : ∀ x, V.Sp x → hp' x = V.hp x) : Sht W (V.next RO' pk' hp' u) X q wg m b first p0 pq st sm := by
  refine ⟨h.N, h.m0, h.m31, h.ewg, h.spq, h.spw, (hhp _ h.spq).trans h.hq, h.clq.app u, h.skp.gr hg h.spw fun j hj => hj.app u, fun i hi => ?_, fun i h1 h2 h3 => (h.dn i h1 h2 h3).grK hg h.spw, h.ss.gr hg h.spw, h.sk0.grK hg h.spw,
    by show p0 ≤ (V.t ++ u).size; rw [Array.size_append]; have := h.ep0; omega, norel_gr h.norel hg h.ewg, fun i h1 h2 h3 => (h.rel i h1 h2 h3).gr hg h3, h.md.gr hpk, (hhp _ h.spw).trans h.hw⟩
  rcases h.wk i hi with x | ⟨x1, x2⟩
  · exact .inl x
  · exact .inr ⟨x1, x2.grK hg h.spw⟩
/-- THE WHOLE STANDS AS IT STOOD. -/
theorem Phase.gr (h : Phase W V) (hg : Gr V u) (hRO : ∀ a v, V.RO a = some v → RO' a = some v) (hpk : ∀ i, pk' i = V.pk i ∨ (V.pk i = some none ∧ pk' i = none)) (hhp : ∀ x, V.Sp x → hp' x = V.hp x) : Phase W (V.next RO' pk' hp' u) := by
  cases h with
  | lone b h1 h2 h3 h4 =>
    refine .lone b h1 h2 h3 fun i hi hi' => ?_
    obtain ⟨x1, x2⟩ := h4 i hi hi'
    exact ⟨x1, x2.gr hg (by rw [x1]; omega)⟩
  | run X b h1 h2 h3 => exact .run X b h1 h2 (h3.gr hg hRO fun j hj => hhp _ (h3.sp j hj))
  | par X q wg m s b first T h1 h2 h3 h4 => exact .par X q wg m s b first T h1 h2 (h3.gr hg hRO fun j hj => hhp _ (h3.sp j hj)) (h4.gr hg hpk (hhp _ h4.spq))
  | shut X q wg m b first T p0 pq st sm h1 h2 h3 => exact .shut X q wg m b first T p0 pq st sm h1 (h2.gr hg hRO fun j hj => hhp _ (h2.sp j hj)) (h3.gr hg hpk hhp)
end
end Go.Proofs.Ytacfhfeegalmlaa

/- THE PROTOCOL, turn by turn (no machine in sight); nobody waits for ever. -/
namespace Go.Proofs.Ytacfhfeegalmlaa
open Go.Conc
open Go.ConcR (KK wgBlock WgAt stA smA rd wr mk DC0)
open Go.ConcN (upd upd_same upd_ne WgLive RelBy sumTo sumTo_congr sumTo_upd le_sumTo sumTo_le)
set_option linter.unusedVariables false
set_option linter.unusedSimpArgs false

/-- A round in which workers are about. -/
inductive LR (W : Who) (V : View) (X : RunC) (q wg m b first s : Nat) : Prop
  | par : V.gh 0 = .par X q wg m s b → V.lv = none → Par W V X q wg m s first → LR W V X q wg m b first s
  | shut (p0 pq : Nat) (st sm : Int) : s = X.n → V.lv = some (wg, W.wgT) → Sht W V X q wg m b first p0 pq st sm → LR W V X q wg m b first s
section
variable {W : Who} {V : View} {X : RunC} {q wg m b first T s i : Nat}
theorem LR.phase (h : LR W V X q wg m b first s) (hr : Rnd W V X first T s) : Phase W V := by
  cases h with
  | par h1 h2 h3 => exact .par X q wg m s b first T h1 h2 hr h3
  | shut p0 pq st sm h0 h1 h2 => subst h0; exact .shut X q wg m b first T p0 pq st sm h1 hr h2
theorem LR.N (h : LR W V X q wg m b first s) : V.N = first + m := by
  cases h with
  | par h1 h2 h3 => exact h3.N
  | shut p0 pq st sm h0 h1 h2 => exact h2.N
theorem Phase.worker (h : Phase W V) (hi0 : 1 ≤ i) (hiN : i < V.N) (hs : V.sg i ≠ 1) : ∃ X q wg m b first T s, Rnd W V X first T s ∧ LR W V X q wg m b first s ∧ first ≤ i := by
  cases h with
  | lone b h1 h2 h3 h4 => exact absurd (h4 i hi0 hiN).1 hs
  | run X b h1 h2 h3 => exact absurd (h3.gone i hi0 hiN).1 hs
  | par X q wg m s b first T h1 h2 h3 h4 =>
    refine ⟨X, q, wg, m, b, first, T, s, h3, .par h1 h2 h4, ?_⟩
    rcases Nat.lt_or_ge i first with hlt | hge
    · exact absurd (h3.gone i hi0 hlt).1 hs
    · exact hge
  | shut X q wg m b first T p0 pq st sm h1 h2 h3 =>
    refine ⟨X, q, wg, m, b, first, T, X.n, h2, .shut p0 pq st sm rfl h1 h3, ?_⟩
    rcases Nat.lt_or_ge i first with hlt | hge
    · exact absurd (h2.gone i hi0 hlt).1 hs
    · exact hge
/-- What a worker is about is this round. -/
theorem LR.gh (h : LR W V X q wg m b first s) (hi : V.at first i) : (∃ left st, V.gh i = .wk X q wg left st ∧ (V.gh 0 = .par X q wg m s b → X.n ≤ s + left)) ∨ (V.gh i = .wkf X q wg ∧ V.gh 0 ≠ .par X q wg m s b) := by
  cases h with
  | par h1 h2 h3 =>
    obtain ⟨_, left, st, h4, h5⟩ := h3.wk i hi.1 hi.2.1
    exact .inl ⟨left, st, h4, fun _ => h5⟩
  | shut p0 pq st sm h0 h1 h2 =>
    have : V.gh 0 ≠ .par X q wg m s b := fun e => by
      have := h2.md
      cases this with
      | opn x => rw [e] at x; cases x
      | reg x => rw [e] at x; cases x
      | last L x => rw [e] at x; cases x
      | sema x => rw [e] at x; cases x
      | fin x => rw [e] at x; cases x
    rcases h2.wk i hi with ⟨left, st, h4⟩ | ⟨h4, _⟩
    · exact .inl ⟨left, st, h4, fun e => absurd e this⟩
    · exact .inr ⟨h4, this⟩
theorem LR.inj (h : LR W V X q wg m b first s) (hi : V.at first i) {X' : RunC} {q' wg' left : Nat} {st : WSt} (hg : V.gh i = .wk X' q' wg' left st) : X' = X ∧ q' = q ∧ wg' = wg := by
  rcases h.gh hi with ⟨l, s', h1, _⟩ | ⟨h1, _⟩
  · rw [hg] at h1; cases h1; exact ⟨rfl, rfl, rfl⟩
  · rw [hg] at h1; cases h1
theorem LR.injf (h : LR W V X q wg m b first s) (hi : V.at first i) {X' : RunC} {q' wg' : Nat} (hg : V.gh i = .wkf X' q' wg') : X' = X ∧ q' = q ∧ wg' = wg := by
  rcases h.gh hi with ⟨l, s', h1, _⟩ | ⟨h1, _⟩
  · rw [hg] at h1; cases h1
  · rw [hg] at h1; cases h1; exact ⟨rfl, rfl, rfl⟩
theorem LR.hq (h : LR W V X q wg m b first s) : V.Sp q ∧ V.hp q = some (.chan 0 #[] (match V.gh 0 with | .par .. => false | _ => true) s s false) := by
  cases h with
  | par h1 h2 h3 => exact ⟨h3.spq, by rw [h3.hq, h1]⟩
  | shut p0 pq st sm h0 h1 h2 =>
    subst h0
    refine ⟨h2.spq, ?_⟩
    rw [h2.hq]
    have := h2.md
    cases this with
    | opn x => rw [x]
    | reg x => rw [x]
    | last L x => rw [x]
    | sema x => rw [x]
    | fin x => rw [x]
/-! ### a worker's turn -/
/-- V, but for what worker i is about, the token, and channels of 'executed'. -/
def View.turnW (V : View) (i : Nat) (g : Gh) (k0 : Kn) (pos : Nat) (hp : Nat → Option Obj) : View := { V with gh := upd V.gh i g, k0 := k0, pos := pos, hp := hp }
theorem View.turnW_gh {g : Gh} {k0 : Kn} {pos : Nat} {hp : Nat → Option Obj} {j : Nat} (h : j ≠ i) : (V.turnW i g k0 pos hp).gh j = V.gh j := upd_ne _ _ h
theorem View.turnW_ghi {g : Gh} {k0 : Kn} {pos : Nat} {hp : Nat → Option Obj} : (V.turnW i g k0 pos hp).gh i = g := upd_same _ _ _
theorem View.turnW_at {g : Gh} {k0 : Kn} {pos : Nat} {hp : Nat → Option Obj} {j : Nat} : (V.turnW i g k0 pos hp).at first j ↔ V.at first j := Iff.rfl
theorem Md.congr {V V' : View} {st sm : Int} (h : Md V X q wg m b first st sm) (hg : V'.gh 0 = V.gh 0) (hs : ∀ a, a < m → V'.sg (first + a) = V.sg (first + a)) (hp : V'.pk 0 = V.pk 0) : Md V' X q wg m b first st sm := by
  have hv : Vc V' first m = Vc V first m := sumTo_congr fun a ha => by rw [hs a ha]
  cases h with
  | opn h1 h2 h3 => rw [← hv]; exact .opn (hg.trans h1) (fun a ha => by rw [hs a ha]; exact h2 a ha) (by rw [hv]; exact h3)
  | reg h1 h2 h3 => rw [← hv]; exact .reg (hg.trans h1) (fun a ha => by rw [hs a ha]; exact h2 a ha) (by rw [hv]; exact h3)
  | last L h1 h2 h3 h4 => rw [← hs L h2]; exact .last L (hg.trans h1) h2 (by rw [hs L h2]; exact h3) (fun a ha e => by rw [hs a ha]; exact h4 a ha e)
  | sema h1 h2 h3 => exact .sema (hg.trans h1) (fun a ha => by rw [hs a ha]; exact h2 a ha) (hp.trans h3)
  | fin h1 h2 => exact .fin (hg.trans h1) (fun a ha => by rw [hs a ha]; exact h2 a ha)
theorem LR.turnW (h : LR W V X q wg m b first s) (hi : V.at first i) (hf : 1 ≤ first) {left : Nat} {st : WSt} {k0 : Kn} {pos : Nat} {hp : Nat → Option Obj} (hl : V.gh 0 = .par X q wg m s b → X.n ≤ s + left) (hhp : ∀ x, (∀ j, j ≤ X.n → x ≠ X.ex j) → hp x = V.hp x)
    (hqe : ∀ j, j ≤ X.n → q ≠ X.ex j) (hwe : ∀ j, j ≤ X.n → V.hp wg = V.hp wg → (∃ st sm, V.hp wg = some (wgBlock W.wgT st sm)) → wg ≠ X.ex j) : LR W (V.turnW i (.wk X q wg left st) k0 pos hp) X q wg m b first s := by
  have n0 : (0 : Nat) ≠ i := by have := hi.1; omega
  cases h with
  | par h1 h2 h3 =>
    refine .par ((View.turnW_gh n0).trans h1) h2 ⟨h3.N, h3.spq, (hhp q hqe).trans h3.hq, h3.skq, fun j hj hj' => ?_, h3.one, h3.qx⟩
    obtain ⟨x1, l, st', x2, x3⟩ := h3.wk j hj hj'
    refine ⟨x1, ?_⟩
    by_cases e : j = i
    · subst e; exact ⟨left, st, View.turnW_ghi, hl h1⟩
    · exact ⟨l, st', (View.turnW_gh e).trans x2, x3⟩
  | shut p0 pq st' sm h0 h1 h2 =>
    refine .shut p0 pq st' sm h0 h1 ⟨h2.N, h2.m0, h2.m31, h2.ewg, h2.spq, h2.spw, (hhp q hqe).trans h2.hq, h2.clq, h2.skp, fun j hj => ?_, h2.dn, h2.ss, h2.sk0, h2.ep0, h2.norel, h2.rel, h2.md.congr (View.turnW_gh n0) (fun _ _ => rfl) rfl, (hhp wg fun j hj => hwe j hj rfl ⟨_, _, h2.hw⟩).trans h2.hw⟩
    by_cases e : j = i
    · subst e; exact .inl ⟨left, st, View.turnW_ghi⟩
    · rcases h2.wk j hj with ⟨l, st2, x2⟩ | ⟨x1, x2⟩
      · exact .inl ⟨l, st2, (View.turnW_gh e).trans x2⟩
      · exact .inr ⟨(View.turnW_gh e).trans x1, x2⟩
theorem Rnd.q_ne (hr : Rnd W V X first T s) (h : LR W V X q wg m b first s) (hn : ∃ j, j ≤ X.n ∧ q = X.ex j) (hs : 1 ≤ s) : False := by
  obtain ⟨j, hj, e⟩ := hn
  have h1 := hr.ex j hj
  rw [← e, h.hq.2] at h1
  injection h1 with h1
  injection h1 with _ _ _ h1
  omega
theorem Rnd.wg_ne (hr : Rnd W V X first T s) (hn : ∃ st sm, V.hp wg = some (wgBlock W.wgT st sm)) : ∀ j, j ≤ X.n → wg ≠ X.ex j := by
  intro j hj e
  obtain ⟨st, sm, h⟩ := hn
  rw [e, hr.ex j hj] at h
  cases h
/-- HIS TURN: the token goes to worker i. -/
theorem Phase.recvT (hr : Rnd W V X first T s) (hl : LR W V X q wg m b first s) (hi : V.at first i) {left j : Nat} (hg : V.gh i = .wk X q wg left (.job j false)) (hc : j ≤ T) :
    j = T ∧ W.Tok X T V.k0 ∧ ClAt V.t (X.ex T) V.pos ∧ Phase W (V.turnW i (.wk X q wg left (.job j true)) Kn.emp V.pos V.hp) := by
  have hjj := hr.jobs i hi j (by rw [hg]; rfl)
  have e : j = T := by omega
  subst e
  cases hr.tok with
  | held i' h1 h2 h3 =>
    obtain ⟨q', wg', l', h3⟩ := h3
    have := hr.uniq i i' j hi h2 (by rw [hg]; rfl) (by rw [h3]; rfl)
    subst this
    rw [hg] at h3; cases h3
  | air h1 h2 h3 h4 =>
    refine ⟨rfl, h1, h2, ?_⟩
    have hq1 : ∀ j', j' ≤ X.n → q ≠ X.ex j' := fun j' hj' e => hr.q_ne hl ⟨j', hj', e⟩ (by omega)
    have jo : ∀ i', jobOf ((V.turnW i (.wk X q wg left (.job j true)) Kn.emp V.pos V.hp).gh i') = jobOf (V.gh i') := fun i' => by
      by_cases e : i' = i
      · subst e; rw [View.turnW_ghi, hg]; rfl
      · rw [View.turnW_gh e]
    refine LR.phase (T := j) (hl.turnW hi hr.f1 (fun e => ?_) (fun _ _ => rfl) hq1 (fun j' hj' _ hh => hr.wg_ne hh j' hj')) ?_
    · rcases hl.gh hi with ⟨l, st, x1, x2⟩ | ⟨x1, _⟩
      · rw [hg] at x1; cases x1; exact x2 e
      · rw [hg] at x1; cases x1
    · refine ⟨hr.sp, hr.ex, hr.inj, hr.Ts, hr.sn, hr.pub, .held i rfl hi ⟨q, wg, left, View.turnW_ghi⟩, hr.f1, hr.fN, fun a a' x ha ha' h5 h6 => hr.uniq a a' x ha ha' (by rw [← jo]; exact h5) (by rw [← jo]; exact h6), fun x x1 x2 => ?_, fun a ha x hx => hr.jobs a ha x (by rw [← jo]; exact hx), fun a ha q' wg' l' x hx => ?_, hr.skx, hr.sk0, hr.gone⟩
      · obtain ⟨a, ha, hx⟩ := hr.all x x1 x2
        exact ⟨a, ha, by rw [jo]; exact hx⟩
      · by_cases e : a = i
        · subst e; rw [View.turnW_ghi] at hx; cases hx; rfl
        · rw [View.turnW_gh e] at hx; exact hr.tk a ha q' wg' l' x hx
/-- HE PASSES IT ON. -/
theorem Phase.closeW (hr : Rnd W V X first T s) (hl : LR W V X q wg m b first s) (hi : V.at first i) {left j : Nat} (hg : V.gh i = .wk X q wg left (.job j true)) :
    j = T ∧ V.k0 = Kn.emp ∧ T + 1 ≤ X.n ∧ V.hp (X.ex (T + 1)) = some chanO ∧ ∀ (kt : Kn) (pos : Nat) (hp : Nat → Option Obj), W.Tok X (T + 1) kt → ClAt V.t (X.ex (T + 1)) pos → V.t.g? pos = some i → PubAt W V.RO V.t X (T + 1) → (∀ x, x ≠ X.ex (T + 1) → hp x = V.hp x) → hp (X.ex (T + 1)) = some (.chan 0 #[] true 0 0 false) →
      Phase W (V.turnW i (.wk X q wg left .idle) kt pos hp) := by
  have e : j = T := hr.tk i hi q wg left j hg
  subst e
  have hjj := hr.jobs i hi j (by rw [hg]; rfl)
  have hn : j + 1 ≤ X.n := by have := hr.sn; omega
  have hk0 : V.k0 = Kn.emp := by
    cases hr.tok with
    | held i' h1 h2 h3 => exact h1
    | air h1 h2 h3 h4 => exact absurd hg (h4 i hi q wg left j)
  refine ⟨rfl, hk0, hn, ?_, fun kt pos hp ht hc hgp hpb hhp hhe => ?_⟩
  · rw [hr.ex _ hn]
    have : decide (j + 1 ≤ j) = false := decide_eq_false (by omega)
    rw [this]; rfl
  have hq1 : ∀ j', j' ≤ X.n → q ≠ X.ex j' := fun j' hj' e => hr.q_ne hl ⟨j', hj', e⟩ (by omega)
  have jo : ∀ i', i' ≠ i → (V.turnW i (.wk X q wg left .idle) kt pos hp).gh i' = V.gh i' := fun i' e => View.turnW_gh e
  have ji : (V.turnW i (.wk X q wg left .idle) kt pos hp).gh i = .wk X q wg left .idle := View.turnW_ghi
  have oth : ∀ a x, V.at first a → a ≠ i → jobOf (V.gh a) = some x → x ≠ j := fun a x ha hne hx e => by
    subst e
    exact hne (hr.uniq a i x ha hi hx (by rw [hg]; rfl))
  refine LR.phase (T := j + 1) (hl.turnW hi hr.f1 (fun e => ?_) (fun x hx => hhp x (hx _ hn)) hq1 (fun j' hj' _ hh => hr.wg_ne hh j' hj')) ?_
  · rcases hl.gh hi with ⟨l, st, x1, x2⟩ | ⟨x1, _⟩
    · rw [hg] at x1; cases x1; exact x2 e
    · rw [hg] at x1; cases x1
  · refine ⟨hr.sp, fun x hx => ?_, hr.inj, by omega, hr.sn, fun x hx => ?_, .air ht hc ⟨i, hgp, .inr ⟨hi.1, hi.2.1⟩⟩ (fun a ha q' wg' l' x hx => ?_), hr.f1, hr.fN, fun a a' x ha ha' h5 h6 => ?_, fun x x1 x2 => ?_, fun a ha x hx => ?_, fun a ha q' wg' l' x hx => ?_, hr.skx, hr.sk0, hr.gone⟩
    · show hp (X.ex x) = _
      by_cases e : x = j + 1
      · subst e; rw [hhe]; simp
      · rw [hhp _ (fun e2 => e (hr.inj _ _ hx hn e2)), hr.ex x hx]
        have : decide (x ≤ j) = decide (x ≤ j + 1) := by
          by_cases h : x ≤ j
          · rw [decide_eq_true h, decide_eq_true (by omega)]
          · rw [decide_eq_false h, decide_eq_false (by omega)]
        rw [this]
    · by_cases e : x = j + 1
      · subst e; exact hpb
      · exact hr.pub x (by omega)
    · by_cases e : a = i
      · subst e; rw [ji] at hx; cases hx
      · rw [jo a e] at hx
        exact oth a x ha e (by rw [hx]; rfl) (hr.tk a ha q' wg' l' x hx)
    · by_cases e : a = i
      · subst e; rw [ji] at h5; cases h5
      · by_cases e' : a' = i
        · subst e'; rw [ji] at h6; cases h6
        · rw [jo a e] at h5; rw [jo a' e'] at h6
          exact hr.uniq a a' x ha ha' h5 h6
    · obtain ⟨a, ha, hx⟩ := hr.all x (by omega) x2
      have e : a ≠ i := fun e => by subst e; rw [hg] at hx; cases hx; omega
      exact ⟨a, ha, by rw [jo a e]; exact hx⟩
    · by_cases e : a = i
      · subst e; rw [ji] at hx; cases hx
      · rw [jo a e] at hx
        have h1 := hr.jobs a ha x hx
        have h2 := oth a x ha e hx
        omega
    · by_cases e : a = i
      · subst e; rw [ji] at hx; cases hx
      · rw [jo a e] at hx
        have h1 := hr.tk a ha q' wg' l' x hx
        exact absurd h1 (oth a x ha e (by rw [hx]; rfl))
end
end Go.Proofs.Ytacfhfeegalmlaa

/- THE PROTOCOL: the queue; a worker's way out. -/
namespace Go.Proofs.Ytacfhfeegalmlaa
open Go.Conc
open Go.ConcR (KK wgBlock WgAt stA smA rd wr mk DC0)
open Go.ConcN (upd upd_same upd_ne WgLive RelBy sumTo sumTo_congr sumTo_upd le_sumTo sumTo_le)
set_option linter.unusedVariables false
set_option linter.unusedSimpArgs false

section
variable {W : Who} {V : View} {X : RunC} {q wg m b first T s i p0 pq : Nat} {st sm : Int}
theorem LR.ofPar (h : LR W V X q wg m b first s) {X' : RunC} {q' wg' m' s' b' : Nat} (h0 : V.gh 0 = .par X' q' wg' m' s' b') : X' = X ∧ q' = q ∧ wg' = wg ∧ m' = m ∧ s' = s ∧ b' = b ∧ V.lv = none ∧ Par W V X q wg m s first := by
  cases h with
  | par h1 h2 h3 => rw [h0] at h1; cases h1; exact ⟨rfl, rfl, rfl, rfl, rfl, rfl, h2, h3⟩
  | shut p0 pq st sm _ _ h2 =>
    exfalso
    cases h2.md with
    | opn x => rw [h0] at x; cases x
    | reg x => rw [h0] at x; cases x
    | last L x => rw [h0] at x; cases x
    | sema x => rw [h0] at x; cases x
    | fin x => rw [h0] at x; cases x
theorem LR.ofIdle (h : LR W V X q wg m b first s) (h0 : ∀ X q wg m s b, V.gh 0 ≠ .par X q wg m s b) : ∃ p0 pq st sm, s = X.n ∧ V.lv = some (wg, W.wgT) ∧ Sht W V X q wg m b first p0 pq st sm := by
  cases h with
  | par h1 h2 h3 => exact absurd h1 (h0 _ _ _ _ _ _)
  | shut p0 pq st sm x y h2 => exact ⟨p0, pq, st, sm, x, y, h2⟩
/-- A job is handed over. -/
theorem Phase.meet (hr : Rnd W V X first T s) (hl : LR W V X q wg m b first s) (h0 : V.gh 0 = .par X q wg m s b) (hi : V.at first i) {left : Nat} (hg : V.gh i = .wk X q wg left .idle) (hs : s < X.n) :
    ∃ l, left = l + 1 ∧ ∀ (pk' : Nat → Pk) (hp' : Nat → Option Obj), (∀ x, x ≠ q → hp' x = V.hp x) → hp' q = some (.chan 0 #[] false (s + 1) (s + 1) false) → (pk' 0 = none) →
      Phase W { V with gh := upd (upd V.gh i (.wk X q wg l (.job s false))) 0 (.par X q wg m (s + 1) b), hp := hp', pk := pk' } := by
  obtain ⟨_, _, _, _, _, _, hlv, hp⟩ := hl.ofPar h0
  obtain ⟨_, l0, st0, x1, x2⟩ := hp.wk i hi.1 hi.2.1
  rw [hg] at x1; cases x1
  obtain ⟨l, rfl⟩ : ∃ l, left = l + 1 := ⟨left - 1, by omega⟩
  refine ⟨l, rfl, fun pk' hp' hh1 hh2 hpk => ?_⟩
  have i0 : i ≠ 0 := by have := hi.1; have := hr.f1; omega
  have ge : ∀ a, a ≠ 0 → a ≠ i → upd (upd V.gh i (.wk X q wg l (.job s false))) 0 (.par X q wg m (s + 1) b) a = V.gh a := fun a h1 h2 => by rw [upd_ne _ _ h1, upd_ne _ _ h2]
  have gi : upd (upd V.gh i (.wk X q wg l (.job s false))) 0 (.par X q wg m (s + 1) b) i = .wk X q wg l (.job s false) := by rw [upd_ne _ _ i0, upd_same]
  have a0 : ∀ a, V.at first a → a ≠ 0 := fun a ha => by have := ha.1; have := hr.f1; omega
  refine Phase.par X q wg m (s + 1) b first T (show upd (upd V.gh i (.wk X q wg l (.job s false))) 0 (.par X q wg m (s + 1) b) 0 = _ from upd_same _ _ _) hlv ⟨hr.sp, fun j hj => ?_, hr.inj, by have := hr.Ts; omega, by omega, hr.pub, ?_, hr.f1, hr.fN, fun a a' x ha ha' h5 h6 => ?_, fun x x1 x2 => ?_, fun a ha x hx => ?_, fun a ha q' wg' l' x hx => ?_, hr.skx, hr.sk0, hr.gone⟩ ⟨hp.N, hp.spq, hh2, hp.skq, fun a h1 h2 => ?_, fun e => ?_, hp.qx⟩
  · show hp' (X.ex j) = _
    rw [hh1 _ (fun e => hp.qx j hj e.symm)]; exact hr.ex j hj
  · cases hr.tok with
    | air t1 t2 t3 t4 =>
      refine .air t1 t2 t3 fun a ha q' wg' l' x hx => ?_
      by_cases e : a = i
      · subst e; rw [show ({ V with gh := upd (upd V.gh a (.wk X q wg l (.job s false))) 0 (.par X q wg m (s + 1) b), hp := hp', pk := pk' } : View).gh a = _ from gi] at hx; cases hx
      · rw [show ({ V with gh := upd (upd V.gh i (.wk X q wg l (.job s false))) 0 (.par X q wg m (s + 1) b), hp := hp', pk := pk' } : View).gh a = _ from ge a (a0 a ha) e] at hx
        exact t4 a ha q' wg' l' x hx
    | held a t1 t2 t3 =>
      have e : a ≠ i := fun e => by subst e; obtain ⟨_, _, _, t3⟩ := t3; rw [hg] at t3; cases t3
      obtain ⟨q', wg', l', t3⟩ := t3
      exact .held a t1 t2 ⟨q', wg', l', (ge a (a0 a t2) e).trans t3⟩
  · dsimp only at h5 h6
    by_cases e : a = i
    · by_cases e' : a' = i
      · rw [e, e']
      · subst e
        rw [gi] at h5
        rw [ge a' (a0 a' ha') e'] at h6
        cases h5
        have := hr.jobs a' ha' s h6
        omega
    · by_cases e' : a' = i
      · subst e'
        rw [gi] at h6
        rw [ge a (a0 a ha) e] at h5
        cases h6
        have := hr.jobs a ha s h5
        omega
      · rw [ge a (a0 a ha) e] at h5
        rw [ge a' (a0 a' ha') e'] at h6
        exact hr.uniq a a' x ha ha' h5 h6
  · by_cases e : x = s
    · subst e; exact ⟨i, hi, by show jobOf (upd _ 0 _ i) = _; rw [gi]; rfl⟩
    · obtain ⟨a, ha, hx⟩ := hr.all x x1 (by omega)
      have e : a ≠ i := fun e => by subst e; rw [hg] at hx; cases hx
      exact ⟨a, ha, by show jobOf (upd _ 0 _ a) = _; rw [ge a (a0 a ha) e]; exact hx⟩
  · dsimp only at hx
    by_cases e : a = i
    · subst e; rw [gi] at hx; cases hx; have := hr.Ts; omega
    · rw [ge a (a0 a ha) e] at hx
      have := hr.jobs a ha x hx
      omega
  · dsimp only at hx
    by_cases e : a = i
    · subst e; rw [gi] at hx; cases hx
    · rw [ge a (a0 a ha) e] at hx
      exact hr.tk a ha q' wg' l' x hx
  · obtain ⟨y1, l1, st1, y2, y3⟩ := hp.wk a h1 h2
    refine ⟨y1, ?_⟩
    by_cases e : a = i
    · subst e; exact ⟨l, _, gi, by omega⟩
    · exact ⟨l1, st1, (ge a (by have := hr.f1; omega) e).trans y2, by omega⟩
  · have : pk' 0 = some (some q) := e
    rw [hpk] at this; cases this
/-- The queue is closed. -/
theorem Phase.shutQ (hr : Rnd W V X first T s) (hl : LR W V X q wg m b first s) (h0 : ∀ X q wg m s b, V.gh 0 ≠ .par X q wg m s b) (hi : V.at first i) {left : Nat} (hg : V.gh i = .wk X q wg left .idle) (hk : SK V.t (Knows V.t i) wg) :
    Phase W { V with gh := upd V.gh i (.wkf X q wg) } := by
  obtain ⟨p0, pq, st, sm, rfl, hlv, h⟩ := hl.ofIdle h0
  have i0 : (0 : Nat) ≠ i := by have := hi.1; have := hr.f1; omega
  have ge : ∀ a, a ≠ i → upd V.gh i (.wkf X q wg) a = V.gh a := fun a h2 => upd_ne _ _ h2
  have gi : upd V.gh i (.wkf X q wg) i = .wkf X q wg := upd_same _ _ _
  have jo : ∀ a, jobOf (upd V.gh i (.wkf X q wg) a) = jobOf (V.gh a) := fun a => by
    by_cases e : a = i
    · subst e; rw [gi, hg]; rfl
    · rw [ge a e]
  refine .shut X q wg m b first T p0 pq st sm hlv ⟨hr.sp, hr.ex, hr.inj, hr.Ts, hr.sn, hr.pub, ?_, hr.f1, hr.fN, fun a a' x ha ha' h5 h6 => hr.uniq a a' x ha ha' (by rw [← jo]; exact h5) (by rw [← jo]; exact h6), fun x x1 x2 => ?_, fun a ha x hx => hr.jobs a ha x (by rw [← jo]; exact hx), fun a ha q' wg' l' x hx => ?_, hr.skx, hr.sk0, hr.gone⟩
    ⟨h.N, h.m0, h.m31, h.ewg, h.spq, h.spw, h.hq, h.clq, h.skp, fun a ha => ?_, h.dn, h.ss, h.sk0, h.ep0, h.norel, h.rel, h.md.congr (ge 0 i0) (fun _ _ => rfl) rfl, h.hw⟩
  · cases hr.tok with
    | air t1 t2 t3 t4 =>
      refine .air t1 t2 t3 fun a ha q' wg' l' x hx => ?_
      by_cases e : a = i
      · subst e; rw [show ({ V with gh := upd V.gh a (.wkf X q wg) } : View).gh a = _ from gi] at hx; cases hx
      · rw [show ({ V with gh := upd V.gh i (.wkf X q wg) } : View).gh a = _ from ge a e] at hx
        exact t4 a ha q' wg' l' x hx
    | held a t1 t2 t3 =>
      have e : a ≠ i := fun e => by subst e; obtain ⟨_, _, _, t3⟩ := t3; rw [hg] at t3; cases t3
      obtain ⟨q', wg', l', t3⟩ := t3
      exact .held a t1 t2 ⟨q', wg', l', (ge a e).trans t3⟩
  · obtain ⟨a, ha, hx⟩ := hr.all x x1 x2
    exact ⟨a, ha, by show jobOf (upd _ _ _ a) = _; rw [jo]; exact hx⟩
  · change upd V.gh i (.wkf X q wg) a = _ at hx
    by_cases e : a = i
    · subst e; rw [gi] at hx; cases hx
    · rw [ge a e] at hx; exact hr.tk a ha q' wg' l' x hx
  · by_cases e : a = i
    · subst e; exact .inr ⟨gi, hk⟩
    · rcases h.wk a ha with ⟨l, st', y⟩ | ⟨y1, y2⟩
      · exact .inl ⟨l, st', (ge a e).trans y⟩
      · exact .inr ⟨(ge a e).trans y1, y2⟩
/-- Somebody waits; or is waited for no more. -/
theorem Phase.park (h : Phase W V) (pk' : Nat → Pk) (h1 : ∀ X q wg m s b, V.gh 0 = .par X q wg m s b → pk' 0 = some (some q) → ∀ i, 1 ≤ i → i < V.N → pk' i ≠ some (some q)) (h2 : V.pk 0 = none → (∃ X q wg m b, V.gh 0 = .reg X q wg m b) → V.hp V.wg = some (wgBlock W.wgT 0 1) → pk' 0 = none) : Phase W { V with pk := pk' } := by
  cases h with
  | lone b x1 x2 x3 x4 => exact .lone b x1 x2 x3 x4
  | run X b x1 x2 x3 =>
    refine .run X b x1 x2 ⟨x3.sp, x3.ex, x3.inj, x3.Ts, x3.sn, x3.pub, ?_, x3.f1, x3.fN, x3.uniq, x3.all, x3.jobs, x3.tk, x3.skx, x3.sk0, x3.gone⟩
    cases x3.tok with
    | air t1 t2 t3 t4 => exact .air t1 t2 t3 t4
    | held a t1 t2 t3 => exact .held a t1 t2 t3
  | par X q wg m s b first T x1 x2 x3 x4 =>
    refine .par X q wg m s b first T x1 x2 ⟨x3.sp, x3.ex, x3.inj, x3.Ts, x3.sn, x3.pub, ?_, x3.f1, x3.fN, x3.uniq, x3.all, x3.jobs, x3.tk, x3.skx, x3.sk0, x3.gone⟩ ⟨x4.N, x4.spq, x4.hq, x4.skq, x4.wk, fun e i hi hi' => h1 _ _ _ _ _ _ x1 e i (by have := x3.f1; omega) hi', x4.qx⟩
    cases x3.tok with
    | air t1 t2 t3 t4 => exact .air t1 t2 t3 t4
    | held a t1 t2 t3 => exact .held a t1 t2 t3
  | shut X q wg m b first T p0 pq st sm x1 x3 x4 =>
    refine .shut X q wg m b first T p0 pq st sm x1 ⟨x3.sp, x3.ex, x3.inj, x3.Ts, x3.sn, x3.pub, ?_, x3.f1, x3.fN, x3.uniq, x3.all, x3.jobs, x3.tk, x3.skx, x3.sk0, x3.gone⟩ ⟨x4.N, x4.m0, x4.m31, x4.ewg, x4.spq, x4.spw, x4.hq, x4.clq, x4.skp, x4.wk, x4.dn, x4.ss, x4.sk0, x4.ep0, x4.norel, x4.rel, ?_, x4.hw⟩
    · cases x3.tok with
      | air t1 t2 t3 t4 => exact .air t1 t2 t3 t4
      | held a t1 t2 t3 => exact .held a t1 t2 t3
    · have hw := x4.hw
      cases x4.md with
      | opn y1 y2 y3 => exact .opn (V := { V with pk := pk' }) y1 y2 y3
      | reg y1 y2 y3 => exact .reg (V := { V with pk := pk' }) y1 y2 y3
      | last L y1 y2 y3 y4 => exact .last (V := { V with pk := pk' }) L y1 y2 y3 y4
      | sema y1 y2 y3 => exact .sema (V := { V with pk := pk' }) y1 y2 (h2 y3 ⟨_, _, _, _, _, y1⟩ (by rw [x4.ewg]; exact hw))
      | fin y1 y2 => exact .fin (V := { V with pk := pk' }) y1 y2
/-! ### the way out -/
theorem Vc_upd (V : View) {a : Nat} (x : Nat) (ha : a < m) : Vc { V with sg := upd V.sg (first + a) x } first m + cnt1 (V.sg (first + a)) = Vc V first m + cnt1 x := by
  have h := sumTo_upd (fun a => V.sg (first + a)) x cnt1 ha
  have e : (sumTo m fun c => cnt1 (upd (fun a => V.sg (first + a)) a x c)) = Vc { V with sg := upd V.sg (first + a) x } first m := by
    refine sumTo_congr fun c hc => ?_
    by_cases e : c = a
    · subst e; simp [upd]
    · simp only [upd]
      rw [if_neg e, if_neg (by omega)]
  rw [e] at h
  exact h
theorem Vc_le (V : View) (first m : Nat) : Vc V first m ≤ m := by
  have := sumTo_le (f := fun a => cnt1 (V.sg (first + a))) (c := 1) (j := m) fun i _ => by simp only [cnt1]; split <;> omega
  simpa [Vc] using this
theorem cnt1_le_Vc (V : View) {a : Nat} (ha : a < m) : cnt1 (V.sg (first + a)) ≤ Vc V first m := le_sumTo (f := fun a => cnt1 (V.sg (first + a))) ha
/-- A worker's stage turns. -/
theorem Rnd.stage (hr : Rnd W V X first T s) (hi : first ≤ i) (hj : V.at first i → jobOf (V.gh i) = none) {x : Nat} (hx : x ≠ 9) (g : Gh) : Rnd W { V with gh := upd V.gh i g, sg := upd V.sg i x } X first T s := by
  have at' : ∀ a, ({ V with gh := upd V.gh i g, sg := upd V.sg i x } : View).at first a → a ≠ i ∧ V.at first a := fun a ha => by
    obtain ⟨h1, h2, h3⟩ := ha
    have e : a ≠ i := fun e => by
      subst e
      have : upd V.sg a x a = 9 := h3
      rw [upd_same] at this
      exact hx this
    refine ⟨e, h1, h2, ?_⟩
    have : upd V.sg i x a = 9 := h3
    rwa [upd_ne _ _ e] at this
  have back : ∀ a, a ≠ i → V.at first a → ({ V with gh := upd V.gh i g, sg := upd V.sg i x } : View).at first a := fun a e ha => ⟨ha.1, ha.2.1, by show upd V.sg i x a = 9; rw [upd_ne _ _ e]; exact ha.2.2⟩
  have ge : ∀ a, a ≠ i → upd V.gh i g a = V.gh a := fun a h2 => upd_ne _ _ h2
  refine ⟨hr.sp, hr.ex, hr.inj, hr.Ts, hr.sn, hr.pub, ?_, hr.f1, hr.fN, fun a a' x ha ha' h5 h6 => ?_, fun x x1 x2 => ?_, fun a ha x hx => ?_, fun a ha q' wg' l' x hx => ?_, fun a ha j hj => hr.skx a (at' a ha).2 j hj, hr.sk0, fun a h1 h2 => ?_⟩
  · cases hr.tok with
    | air t1 t2 t3 t4 =>
      refine .air t1 t2 t3 fun a ha q' wg' l' x hx => ?_
      obtain ⟨e, ha⟩ := at' a ha
      exact t4 a ha q' wg' l' x ((ge a e).symm.trans hx)
    | held a t1 t2 t3 =>
      obtain ⟨q', wg', l', t3⟩ := t3
      have e : a ≠ i := fun e => by subst e; have := hj t2; rw [t3] at this; cases this
      exact .held a t1 (back a e t2) ⟨q', wg', l', (ge a e).trans t3⟩
  · obtain ⟨e, ha⟩ := at' a ha
    obtain ⟨e', ha'⟩ := at' a' ha'
    exact hr.uniq a a' x ha ha' (by rw [← ge a e]; exact h5) (by rw [← ge a' e']; exact h6)
  · obtain ⟨a, ha, hx⟩ := hr.all x x1 x2
    have e : a ≠ i := fun e => by subst e; have := hj ha; rw [hx] at this; cases this
    exact ⟨a, back a e ha, by show jobOf (upd _ _ _ a) = _; rw [ge a e]; exact hx⟩
  · obtain ⟨e, ha⟩ := at' a ha
    exact hr.jobs a ha x (by rw [← ge a e]; exact hx)
  · obtain ⟨e, ha⟩ := at' a ha
    exact hr.tk a ha q' wg' l' x (by rw [← ge a e]; exact hx)
  · have e : a ≠ i := by omega
    obtain ⟨y1, y2⟩ := hr.gone a h1 h2
    exact ⟨by show upd V.sg i x a = 1; rw [upd_ne _ _ e]; exact y1, y2⟩
/-- .. and the group's state. -/
theorem Sht.stage (h : Sht W V X q wg m b first p0 pq st sm) {a : Nat} (ha : a < m) (hf : 1 ≤ first) {x : Nat} (hx9 : x ≠ 9) (g : Gh) (hp' : Nat → Option Obj) (pk' : Nat → Pk) (st' sm' : Int) (hhp : ∀ y, y ≠ wg → hp' y = V.hp y) (hw' : hp' wg = some (wgBlock W.wgT st' sm')) (hqw : q ≠ wg)
    (hsk : SK V.t (Knows V.t (first + a)) wg) (hrel : x ≤ 6 → RelI V.t wg p0 (first + a)) (hmd : Md { V with gh := upd V.gh (first + a) g, sg := upd V.sg (first + a) x, hp := hp', pk := pk' } X q wg m b first st' sm') :
    Sht W { V with gh := upd V.gh (first + a) g, sg := upd V.sg (first + a) x, hp := hp', pk := pk' } X q wg m b first p0 pq st' sm' := by
  refine ⟨h.N, h.m0, h.m31, h.ewg, h.spq, h.spw, (hhp q hqw).trans h.hq, h.clq, h.skp, fun c hc => ?_, fun c h1 h2 h3 => ?_, h.ss, h.sk0, h.ep0, h.norel, fun c h1 h2 h3 => ?_, hmd, hw'⟩
  · have e : c ≠ first + a := fun e => by
      have : upd V.sg (first + a) x c = 9 := hc.2.2
      rw [e, upd_same] at this
      exact hx9 this
    have hc' : V.at first c := ⟨hc.1, hc.2.1, by have : upd V.sg (first + a) x c = 9 := hc.2.2; rwa [upd_ne _ _ e] at this⟩
    rcases h.wk c hc' with ⟨l, s', y⟩ | ⟨y1, y2⟩
    · exact .inl ⟨l, s', (upd_ne _ _ e).trans y⟩
    · exact .inr ⟨(upd_ne _ _ e).trans y1, y2⟩
  · by_cases e : c = first + a
    · subst e; exact hsk
    · have h3' : upd V.sg (first + a) x c ≤ 7 := h3
      rw [upd_ne _ _ e] at h3'
      exact h.dn c h1 h2 h3'
  · have h3' : upd V.sg (first + a) x c ≤ 6 := h3
    by_cases e : c = first + a
    · subst e; rw [upd_same] at h3'; exact hrel h3'
    · rw [upd_ne _ _ e] at h3'; exact h.rel c h1 h2 h3'
end
end Go.Proofs.Ytacfhfeegalmlaa
