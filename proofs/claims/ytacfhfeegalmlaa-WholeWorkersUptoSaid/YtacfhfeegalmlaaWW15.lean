/-
  Joined texts: THE PROTOCOL: the group's state; the main one's turns. · THE MACHINE's INVARIANT; one goroutine's own step. · THE MACHINE's INVARIANT: its tools; an own step, a mark, a new view. · THE MACHINE's INVARIANT: an own step; a mark; a new view; the library's bookkeeping. · THE MACHINE's INVARIANT: who waits where; a worker works.
-/
import Derived.Test.YtacfhfeegalmlaaWW14

/- THE PROTOCOL: the group's state; the main one's turns. -/
namespace Go.Proofs.Ytacfhfeegalmlaa
open Go.Conc
open Go.ConcR (KK wgBlock WgAt stA smA rd wr mk DC0)
open Go.ConcN (upd upd_same upd_ne WgLive RelBy sumTo sumTo_congr sumTo_upd le_sumTo sumTo_le)
set_option linter.unusedVariables false
set_option linter.unusedSimpArgs false

section
variable {W : Who} {V V' : View} {X : RunC} {q wg m b first T s i a x p0 pq : Nat} {st sm : Int}
/-- V' is V, but that worker first + a stands at stage x. -/
structure Stg (V V' : View) (first a x : Nat) : Prop where
  gh : V'.gh 0 = V.gh 0
  sg : V'.sg = upd V.sg (first + a) x
  pk : V.pk 0 = none → V'.pk 0 = none
theorem Stg.same (h : Stg V V' first a x) : V'.sg (first + a) = x := by rw [h.sg, upd_same]
theorem Stg.ne (h : Stg V V' first a x) {c : Nat} (hc : c ≠ a) : V'.sg (first + c) = V.sg (first + c) := by rw [h.sg, upd_ne _ _ (by omega)]
theorem Stg.vc (h : Stg V V' first a x) (ha : a < m) : Vc V' first m + cnt1 (V.sg (first + a)) = Vc V first m + cnt1 x := by
  have := Vc_upd (first := first) V x ha
  have e : Vc V' first m = Vc { V with sg := upd V.sg (first + a) x } first m := by unfold Vc; rw [h.sg]
  rw [e]; exact this
/-- One that is counted goes on and is counted. -/
theorem Md.counted (h : Md V X q wg m b first st sm) (e : Stg V V' first a x) (ha : a < m) (h5 : 5 ≤ V.sg (first + a)) (hx : x = 7 ∨ x = 6 ∨ x = 5) : Md V' X q wg m b first st sm := by
  have hv : Vc V' first m = Vc V first m := by
    have := e.vc ha
    have c1 : cnt1 (V.sg (first + a)) = 1 := by simp [cnt1, h5]
    have c2 : cnt1 x = 1 := by rcases hx with rfl | rfl | rfl <;> rfl
    omega
  have ho : OpenSt V first m → OpenSt V' first m := fun h c hc => by
    by_cases e' : c = a
    · subst e'; rw [e.same]; omega
    · rw [e.ne e']; exact h c hc
  cases h with
  | opn h1 h2 h3 => rw [← hv]; exact .opn (e.gh.trans h1) (ho h2) (by omega)
  | reg h1 h2 h3 => rw [← hv]; exact .reg (e.gh.trans h1) (ho h2) (by omega)
  | last L h1 h2 h3 h4 =>
    by_cases e' : a = L
    · subst e'; omega
    · have := h4 a ha e'; omega
  | sema h1 h2 h3 => have := h2 a ha; omega
  | fin h1 h2 => have := h2 a ha; omega
theorem others_out (V : View) (ha : a < m) (h1 : Vc V first m = 1) (hc : cnt1 (V.sg (first + a)) = 1) : ∀ c, c < m → c ≠ a → cnt1 (V.sg (first + c)) = 0 := by
  intro c hcm e
  have h0 := Vc_upd (first := first) V 0 ha
  have c0 : cnt1 0 = 0 := rfl
  have := cnt1_le_Vc (first := first) { V with sg := upd V.sg (first + a) 0 } hcm
  have e2 : cnt1 (({ V with sg := upd V.sg (first + a) 0 } : View).sg (first + c)) = cnt1 (V.sg (first + c)) := by
    show cnt1 (upd V.sg (first + a) 0 (first + c)) = _
    rw [upd_ne _ _ (by omega)]
  rw [e2] at this
  omega
/-- He counts himself out. -/
theorem Md.at5 (h : Md V X q wg m b first st sm) (ha : a < m) (h5 : V.sg (first + a) = 5) : ∃ v wt : Nat, wt ≤ 1 ∧ v < m ∧ st = ((v : Int) + 1) * KK + wt ∧ sm = 0 ∧
    ∀ V', Stg V V' first a (if v = 0 ∧ wt = 1 then 4 else 1) → Md V' X q wg m b first ((v : Int) * KK + wt) 0 := by
  have hc1 : cnt1 (V.sg (first + a)) = 1 := by rw [h5]; rfl
  have hle := cnt1_le_Vc (first := first) V ha
  have hm := Vc_le V first m
  cases h with
  | @opn B h1 h2 h3 =>
    obtain ⟨v, hv⟩ : ∃ v, Vc V first m = v + 1 := ⟨Vc V first m - 1, by omega⟩
    refine ⟨v, 0, by omega, by omega, by rw [hv]; simp, rfl, fun V' e => ?_⟩
    rw [if_neg (by omega)] at e
    have hv' : Vc V' first m = v := by have := e.vc ha; have : cnt1 1 = 0 := rfl; omega
    have ez : ((v : Int) * KK + ((0 : Nat) : Int)) = (Vc V' first m : Int) * KK := by rw [hv']; simp
    rw [ez]
    refine .opn (B := B) (e.gh.trans h1) (fun c hc => ?_) (by omega)
    by_cases e' : c = a
    · subst e'; rw [e.same]; simp
    · rw [e.ne e']; exact h2 c hc
  | reg h1 h2 h3 =>
    obtain ⟨v, hv⟩ : ∃ v, Vc V first m = v + 1 := ⟨Vc V first m - 1, by omega⟩
    refine ⟨v, 1, by omega, by omega, by rw [hv]; simp, rfl, fun V' e => ?_⟩
    by_cases hv0 : v = 0
    · subst hv0
      rw [if_pos ⟨rfl, rfl⟩] at e
      have hoth : ∀ c, c < m → c ≠ a → V.sg (first + c) = 1 := fun c hc e' => by
        have c0 := others_out V ha hv hc1 c hc e'
        have := h2 c hc
        simp only [cnt1] at c0
        split at c0 <;> omega
      have := Md.last (V := V') (X := X) (q := q) (wg := wg) (b := b) a (e.gh.trans h1) ha (by rw [e.same]; simp) (fun c hc e' => by rw [e.ne e']; exact hoth c hc e')
      rw [e.same] at this
      simpa using this
    · rw [if_neg (by omega)] at e
      have hv' : Vc V' first m = v := by have := e.vc ha; have : cnt1 1 = 0 := rfl; omega
      have ez : ((v : Int) * KK + ((1 : Nat) : Int)) = (Vc V' first m : Int) * KK + 1 := by rw [hv']; simp
      rw [ez]
      refine .reg (e.gh.trans h1) (fun c hc => ?_) (by omega)
      by_cases e' : c = a
      · subst e'; rw [e.same]; simp
      · rw [e.ne e']; exact h2 c hc
  | last L h1 h2 h3 h4 =>
    by_cases e' : a = L
    · subst e'; omega
    · have := h4 a ha e'; omega
  | sema h1 h2 h3 => have := h2 a ha; omega
  | fin h1 h2 => have := h2 a ha; omega
/-- Whoever stands at stage 4, 3 or 2 is the last one. -/
theorem Md.isLast (h : Md V X q wg m b first st sm) (ha : a < m) (h4 : V.sg (first + a) = 4 ∨ V.sg (first + a) = 3 ∨ V.sg (first + a) = 2) :
    V.gh 0 = .reg X q wg m b ∧ (∀ c, c < m → c ≠ a → V.sg (first + c) = 1) ∧ st = (if V.sg (first + a) = 2 then 0 else 1) ∧ sm = 0 := by
  cases h with
  | opn h1 h2 h3 => have := h2 a ha; omega
  | reg h1 h2 h3 => have := h2 a ha; omega
  | last L h1 h2 h3 h5 =>
    by_cases e' : a = L
    · subst e'; exact ⟨h1, h5, rfl, rfl⟩
    · have := h5 a ha e'; omega
  | sema h1 h2 h3 => have := h2 a ha; omega
  | fin h1 h2 => have := h2 a ha; omega
theorem Md.last' (h : Md V X q wg m b first st sm) (ha : a < m) (h4 : V.sg (first + a) = 4 ∨ V.sg (first + a) = 3) (e : Stg V V' first a x) (hx : x = 3 ∨ x = 2) : Md V' X q wg m b first (if x = 2 then 0 else 1) 0 := by
  obtain ⟨h1, h2, _, _⟩ := h.isLast ha (by omega)
  have := Md.last (V := V') (X := X) (q := q) (wg := wg) (b := b) a (e.gh.trans h1) ha (by rw [e.same]; omega) (fun c hc e' => by rw [e.ne e']; exact h2 c hc e')
  rwa [e.same] at this
theorem Md.sem' (h : Md V X q wg m b first st sm) (ha : a < m) (h4 : V.sg (first + a) = 2) (e : Stg V V' first a 1) (hp : V'.pk 0 = none) : Md V' X q wg m b first 0 1 := by
  obtain ⟨h1, h2, _, _⟩ := h.isLast ha (by omega)
  refine .sema (e.gh.trans h1) (fun c hc => ?_) hp
  by_cases e' : c = a
  · subst e'; exact e.same
  · rw [e.ne e']; exact h2 c hc e'
theorem allQ_of (h : OpenSt V first m) (h0 : Vc V first m = 0) : AllQ V first m := fun c hc => by
  have := cnt1_le_Vc (first := first) V hc
  have h1 : cnt1 (V.sg (first + c)) = 0 := by omega
  have := h c hc
  simp only [cnt1] at h1
  split at h1 <;> omega
/-! ### the main one's turns -/
/-- V, but for what the main one is about. -/
def View.turnM (V : View) (g : Gh) (hp : Nat → Option Obj) : View := { V with gh := upd V.gh 0 g, hp := hp }
theorem View.turnM_gh0 (V : View) (g : Gh) (hp : Nat → Option Obj) : (V.turnM g hp).gh 0 = g := (show upd V.gh 0 g 0 = g from upd_same _ _ _)
theorem Rnd.turnM (hr : Rnd W V X first T s) (g : Gh) (hp : Nat → Option Obj) (hhp : ∀ j, j ≤ X.n → hp (X.ex j) = V.hp (X.ex j)) : Rnd W (V.turnM g hp) X first T s := by
  have a0 : ∀ a, V.at first a → a ≠ 0 := fun a ha => by have := ha.1; have := hr.f1; omega
  have ge : ∀ a, a ≠ 0 → (V.turnM g hp).gh a = V.gh a := fun a h => upd_ne _ _ h
  refine ⟨hr.sp, fun j hj => (hhp j hj).trans (hr.ex j hj), hr.inj, hr.Ts, hr.sn, hr.pub, ?_, hr.f1, hr.fN, fun a a' x ha ha' h5 h6 => hr.uniq a a' x ha ha' (by rw [← ge a (a0 a ha)]; exact h5) (by rw [← ge a' (a0 a' ha')]; exact h6), fun x x1 x2 => ?_, fun a ha x hx => hr.jobs a ha x (by rw [← ge a (a0 a ha)]; exact hx), fun a ha q' wg' l' x hx => hr.tk a ha q' wg' l' x (by rw [← ge a (a0 a ha)]; exact hx), hr.skx, hr.sk0, hr.gone⟩
  · cases hr.tok with
    | air t1 t2 t3 t4 => exact .air t1 t2 t3 fun a ha q' wg' l' x hx => t4 a ha q' wg' l' x (by rw [← ge a (a0 a ha)]; exact hx)
    | held a t1 t2 t3 =>
      obtain ⟨q', wg', l', t3⟩ := t3
      exact .held a t1 t2 ⟨q', wg', l', (ge a (a0 a t2)).trans t3⟩
  · obtain ⟨a, ha, hx⟩ := hr.all x x1 x2
    exact ⟨a, ha, by rw [ge a (a0 a ha)]; exact hx⟩
theorem Sht.turnM (h : Sht W V X q wg m b first p0 pq st sm) (hf : 1 ≤ first) (g : Gh) (hp : Nat → Option Obj) {st' sm' : Int} (hq : hp q = V.hp q) (hw : hp wg = some (wgBlock W.wgT st' sm')) (hmd : Md (V.turnM g hp) X q wg m b first st' sm') : Sht W (V.turnM g hp) X q wg m b first p0 pq st' sm' := by
  have a0 : ∀ a, V.at first a → a ≠ 0 := fun a ha => by have := ha.1; omega
  have ge : ∀ a, a ≠ 0 → (V.turnM g hp).gh a = V.gh a := fun a h => upd_ne _ _ h
  refine ⟨h.N, h.m0, h.m31, h.ewg, h.spq, h.spw, hq.trans h.hq, h.clq, h.skp, fun a ha => ?_, h.dn, h.ss, h.sk0, h.ep0, h.norel, h.rel, hmd, hw⟩
  rcases h.wk a ha with ⟨l, s', y⟩ | ⟨y1, y2⟩
  · exact .inl ⟨l, s', (ge a (a0 a ha)).trans y⟩
  · exact .inr ⟨(ge a (a0 a ha)).trans y1, y2⟩
/-- The main one is in Wait. -/
theorem Phase.inWait (h : Phase W V) {X : RunC} {q wg m b : Nat} (hg : (∃ B, V.gh 0 = .shut X q wg m B b) ∨ V.gh 0 = .reg X q wg m b ∨ V.gh 0 = .fin X q wg m b) :
    ∃ first T p0 pq st sm, V.lv = some (wg, W.wgT) ∧ Rnd W V X first T X.n ∧ Sht W V X q wg m b first p0 pq st sm := by
  cases h with
  | lone b x1 => rcases hg with ⟨B, h⟩ | h | h <;> rw [x1] at h <;> cases h
  | run X b x1 => rcases hg with ⟨B, h⟩ | h | h <;> rw [x1] at h <;> cases h
  | par X q wg m s b first T x1 => rcases hg with ⟨B, h⟩ | h | h <;> rw [x1] at h <;> cases h
  | shut X' q' wg' m' b' first T p0 pq st sm x1 x3 x4 =>
    have : X' = X ∧ q' = q ∧ wg' = wg ∧ m' = m ∧ b' = b := by
      cases x4.md with
      | opn y => rcases hg with ⟨B, h⟩ | h | h <;> rw [y] at h <;> cases h; exact ⟨rfl, rfl, rfl, rfl, rfl⟩
      | reg y => rcases hg with ⟨B, h⟩ | h | h <;> rw [y] at h <;> cases h; exact ⟨rfl, rfl, rfl, rfl, rfl⟩
      | last L y => rcases hg with ⟨B, h⟩ | h | h <;> rw [y] at h <;> cases h; exact ⟨rfl, rfl, rfl, rfl, rfl⟩
      | sema y => rcases hg with ⟨B, h⟩ | h | h <;> rw [y] at h <;> cases h; exact ⟨rfl, rfl, rfl, rfl, rfl⟩
      | fin y => rcases hg with ⟨B, h⟩ | h | h <;> rw [y] at h <;> cases h; exact ⟨rfl, rfl, rfl, rfl, rfl⟩
    obtain ⟨rfl, rfl, rfl, rfl, rfl⟩ := this
    exact ⟨first, T, p0, pq, st, sm, x1, x3, x4⟩
theorem Md.load (h : Md V X q wg m b first st sm) {B : Nat} (hg : V.gh 0 = .shut X q wg m B b) : ∃ v, v ≤ B ∧ st = (v : Int) * KK ∧ sm = 0 ∧ v = Vc V first m ∧ OpenSt V first m ∧ ∀ hp, Md (V.turnM (if v = 0 then .fin X q wg m b else .shut X q wg m v b) hp) X q wg m b first st sm := by
  cases h with
  | opn h1 h2 h3 =>
    rw [hg] at h1; cases h1
    refine ⟨Vc V first m, h3, rfl, rfl, rfl, h2, fun hp => ?_⟩
    by_cases h0 : Vc V first m = 0
    · rw [if_pos h0, h0]
      have e : ((0 : Nat) : Int) * KK = 0 := by simp
      rw [e]
      exact .fin (View.turnM_gh0 _ _ _) (allQ_of h2 h0)
    · rw [if_neg h0]
      have e : Vc (V.turnM (.shut X q wg m (Vc V first m) b) hp) first m = Vc V first m := rfl
      exact .opn (V := V.turnM (.shut X q wg m (Vc V first m) b) hp) (View.turnM_gh0 _ _ _) h2 (Nat.le_refl _)
  | reg h1 => rw [hg] at h1; cases h1
  | last L h1 => rw [hg] at h1; cases h1
  | sema h1 => rw [hg] at h1; cases h1
  | fin h1 => rw [hg] at h1; cases h1
theorem Md.atReg (h : Md V X q wg m b first st sm) (hg : V.gh 0 = .reg X q wg m b) : sm = 0 ∨ (st = 0 ∧ sm = 1 ∧ AllQ V first m ∧ V.pk 0 = none) := by
  cases h with
  | opn h1 => rw [hg] at h1; cases h1
  | reg h1 => exact .inl rfl
  | last L h1 => exact .inl rfl
  | sema h1 h2 h3 => exact .inr ⟨rfl, rfl, h2, h3⟩
  | fin h1 => rw [hg] at h1; cases h1
theorem Md.atFin (h : Md V X q wg m b first st sm) (hg : V.gh 0 = .fin X q wg m b) : st = 0 ∧ sm = 0 ∧ AllQ V first m := by
  cases h with
  | opn h1 => rw [hg] at h1; cases h1
  | reg h1 => rw [hg] at h1; cases h1
  | last L h1 => rw [hg] at h1; cases h1
  | sema h1 => rw [hg] at h1; cases h1
  | fin h1 h2 => exact ⟨rfl, rfl, h2⟩
/-- Run begins. -/
theorem Phase.closeM (h : Phase W V) (hN : 1 ≤ V.N) (h0 : V.gh 0 = .lone b) {kt : Kn} {pos : Nat} {Sp' : Nat → Prop} {hp : Nat → Option Obj} (hsp : ∀ j, j ≤ X.n → Sp' (X.ex j)) (hex : ∀ j, j ≤ X.n → hp (X.ex j) = some (.chan 0 #[] (decide (j ≤ 0)) 0 0 false)) (hinj : ∀ i j, i ≤ X.n → j ≤ X.n → X.ex i = X.ex j → i = j)
    (hpb : PubAt W V.RO V.t X 0) (ht : W.Tok X 0 kt) (hc : ClAt V.t (X.ex 0) pos) (hg : V.t.g? pos = some 0) (hsk0 : ∀ j, j ≤ X.n → SK V.t (Knows V.t 0) (X.ex j)) : V.k0 = Kn.emp ∧ V.lv = none ∧ Phase W { V with gh := upd V.gh 0 (.run X b), k0 := kt, pos := pos, Sp := Sp', hp := hp } := by
  cases h with
  | lone b' x1 x2 x3 x4 =>
    rw [h0] at x1; cases x1
    refine ⟨x3, x2, Phase.run X b (show upd V.gh 0 (.run X b) 0 = _ from upd_same _ _ _) x2 ⟨hsp, hex, hinj, Nat.le_refl _, Nat.zero_le _, fun j hj => ?_, .air ht hc ⟨0, hg, .inl rfl⟩ (fun a ha => ?_), hN, Nat.le_refl _, fun a a' x ha => ?_, fun j _ hj => by omega, fun a ha => ?_, fun a ha => ?_, fun a ha => ?_, hsk0, fun a h1 h2 => x4 a h1 h2⟩⟩
    · obtain rfl : j = 0 := by omega
      exact hpb
    all_goals have h1 := ha.1; have h2 := ha.2.1; (try dsimp only at h1 h2); omega
  | run X b x1 => rw [h0] at x1; cases x1
  | par X q wg m s b first T x1 => rw [h0] at x1; cases x1
  | shut X' q' wg' m' b' first T p0 pq st sm x1 x3 x4 =>
    exfalso
    cases x4.md with
    | opn y => rw [h0] at y; cases y
    | reg y => rw [h0] at y; cases y
    | last L y => rw [h0] at y; cases y
    | sema y => rw [h0] at y; cases y
    | fin y => rw [h0] at y; cases y
theorem Phase.ofRun (h : Phase W V) (h0 : V.gh 0 = .run X b) : V.lv = none ∧ Rnd W V X V.N 0 0 := by
  cases h with
  | lone b' x1 => rw [h0] at x1; cases x1
  | run X b x1 x2 x3 => rw [h0] at x1; cases x1; exact ⟨x2, x3⟩
  | par X q wg m s b first T x1 => rw [h0] at x1; cases x1
  | shut X' q' wg' m' b' first T p0 pq st sm x1 x3 x4 =>
    exfalso
    cases x4.md with
    | opn y => rw [h0] at y; cases y
    | reg y => rw [h0] at y; cases y
    | last L y => rw [h0] at y; cases y
    | sema y => rw [h0] at y; cases y
    | fin y => rw [h0] at y; cases y
theorem Phase.ofPar (h : Phase W V) (h0 : V.gh 0 = .par X q wg m s b) : V.lv = none ∧ ∃ first T, Rnd W V X first T s ∧ Par W V X q wg m s first := by
  cases h with
  | lone b' x1 => rw [h0] at x1; cases x1
  | run X b x1 x2 x3 => rw [h0] at x1; cases x1
  | par X q wg m s b first T x1 x2 x3 x4 => rw [h0] at x1; cases x1; exact ⟨x2, first, T, x3, x4⟩
  | shut X' q' wg' m' b' first T p0 pq st sm x1 x3 x4 =>
    exfalso
    cases x4.md with
    | opn y => rw [h0] at y; cases y
    | reg y => rw [h0] at y; cases y
    | last L y => rw [h0] at y; cases y
    | sema y => rw [h0] at y; cases y
    | fin y => rw [h0] at y; cases y
theorem Phase.ofLone (h : Phase W V) (h0 : V.gh 0 = .lone b) : V.lv = none ∧ V.k0 = Kn.emp ∧ (∀ i, 1 ≤ i → i < V.N → V.sg i = 1 ∧ Handed V.t i) := by
  cases h with
  | lone b' x1 x2 x3 x4 => exact ⟨x2, x3, x4⟩
  | run X b x1 x2 x3 => rw [h0] at x1; cases x1
  | par X q wg m s b first T x1 x2 x3 x4 => rw [h0] at x1; cases x1
  | shut X' q' wg' m' b' first T p0 pq st sm x1 x3 x4 =>
    exfalso
    cases x4.md with
    | opn y => rw [h0] at y; cases y
    | reg y => rw [h0] at y; cases y
    | last L y => rw [h0] at y; cases y
    | sema y => rw [h0] at y; cases y
    | fin y => rw [h0] at y; cases y
/-- The queue and the group are there. -/
theorem Phase.share (h : Phase W V) (h0 : V.gh 0 = .run X b) {Sp' : Nat → Prop} (hsp : ∀ x, V.Sp x → Sp' x) (hq : Sp' q) (hhq : V.hp q = some chanO) (hk : SK V.t (Knows V.t 0) q) (hqx : ∀ j, j ≤ X.n → q ≠ X.ex j) : Phase W { V with gh := upd V.gh 0 (.par X q wg 0 0 b), Sp := Sp' } := by
  obtain ⟨x2, x3⟩ := h.ofRun h0
  refine Phase.par X q wg 0 0 b V.N 0 (show upd V.gh 0 _ 0 = _ from upd_same _ _ _) x2 ⟨fun j hj => hsp _ (x3.sp j hj), x3.ex, x3.inj, x3.Ts, x3.sn, x3.pub, ?_, x3.f1, x3.fN, fun a a' x ha => ?_, fun j _ hj => by omega, fun a ha => ?_, fun a ha => ?_, fun a ha => ?_, x3.sk0, x3.gone⟩ ⟨rfl, hq, hhq, hk, fun i h1 h2 => by (try dsimp only at h2); omega, fun _ i h1 h2 => by (try dsimp only at h2); omega, hqx⟩
  · cases x3.tok with
    | air t1 t2 t3 t4 => exact .air t1 t2 t3 fun a ha => by have h1 := ha.1; have h2 := ha.2.1; (try dsimp only at h1 h2); omega
    | held a t1 t2 t3 => exfalso; have h1 := t2.1; have h2 := t2.2.1; (try dsimp only at h1 h2); omega
  all_goals have h1 := ha.1; have h2 := ha.2.1; (try dsimp only at h1 h2); omega
/-- A worker more. -/
theorem Phase.spawn (h : Phase W V) (h0 : V.gh 0 = .par X q wg m 0 (b + 1)) (hsk : ∀ j, j ≤ X.n → SK V.t (Knows V.t V.N) (X.ex j)) (hpk : V.pk 0 = none) : Phase W { V with gh := upd (upd V.gh 0 (.par X q wg (m + 1) 0 b)) V.N (.wk X q wg X.n .idle), sg := upd V.sg V.N 9, pk := upd V.pk V.N none, N := V.N + 1 } := by
  obtain ⟨x2, first, T, x3, x4⟩ := h.ofPar h0
  have hN0 : (0 : Nat) ≠ V.N := by have := x3.f1; have := x3.fN; omega
  have T0 : T = 0 := by have := x3.Ts; omega
  subst T0
  have g0 : upd (upd V.gh 0 (.par X q wg (m + 1) 0 b)) V.N (.wk X q wg X.n .idle) 0 = .par X q wg (m + 1) 0 b := by rw [upd_ne _ _ hN0, upd_same]
  have gN : upd (upd V.gh 0 (.par X q wg (m + 1) 0 b)) V.N (.wk X q wg X.n .idle) V.N = .wk X q wg X.n .idle := upd_same _ _ _
  have ge : ∀ a, a ≠ 0 → a ≠ V.N → upd (upd V.gh 0 (.par X q wg (m + 1) 0 b)) V.N (.wk X q wg X.n .idle) a = V.gh a := fun a h1 h2 => by rw [upd_ne _ _ h2, upd_ne _ _ h1]
  -- whoever is about was about, or is new
  have at' : ∀ a, ({ V with gh := upd (upd V.gh 0 (.par X q wg (m + 1) 0 b)) V.N (.wk X q wg X.n .idle), sg := upd V.sg V.N 9, pk := upd V.pk V.N none, N := V.N + 1 } : View).at first a → a = V.N ∨ (a ≠ V.N ∧ a ≠ 0 ∧ V.at first a) := fun a ha => by
    by_cases e : a = V.N
    · exact .inl e
    · refine .inr ⟨e, by have h1 := ha.1; have := x3.f1; omega, ha.1, by have h1 := ha.2.1; dsimp only at h1; omega, ?_⟩
      have : upd V.sg V.N 9 a = 9 := ha.2.2
      rwa [upd_ne _ _ e] at this
  have back : ∀ a, V.at first a → a ≠ V.N ∧ a ≠ 0 ∧ ({ V with gh := upd (upd V.gh 0 (.par X q wg (m + 1) 0 b)) V.N (.wk X q wg X.n .idle), sg := upd V.sg V.N 9, pk := upd V.pk V.N none, N := V.N + 1 } : View).at first a := fun a ha => by
    have e : a ≠ V.N := by have := ha.2.1; omega
    exact ⟨e, by have := ha.1; have := x3.f1; omega, ha.1, by have := ha.2.1; show a < V.N + 1; omega, by show upd V.sg V.N 9 a = 9; rw [upd_ne _ _ e]; exact ha.2.2⟩
  refine Phase.par X q wg (m + 1) 0 b first 0 (show upd _ V.N _ 0 = _ from g0) x2 ⟨x3.sp, x3.ex, x3.inj, x3.Ts, x3.sn, x3.pub, ?_, x3.f1, by have := x3.fN; show first ≤ V.N + 1; omega, fun a a' x ha ha' h5 h6 => ?_, fun j _ hj => by omega, fun a ha x hx => ?_, fun a ha q' wg' l' x hx => ?_, fun a ha j hj => ?_, x3.sk0, fun a h1 h2 => ?_⟩
    ⟨by show V.N + 1 = first + (m + 1); have := x4.N; omega, x4.spq, x4.hq, x4.skq, fun a h1 h2 => ?_, fun e => ?_, x4.qx⟩
  · cases x3.tok with
    | air t1 t2 t3 t4 =>
      obtain ⟨c, t3, t5⟩ := t3
      refine .air t1 t2 ⟨c, t3, t5.imp id fun t => ⟨t.1, by show c < V.N + 1; omega⟩⟩ fun a ha q' wg' l' x hx => ?_
      dsimp only at hx
      rcases at' a ha with rfl | ⟨e1, e2, e3⟩
      · rw [gN] at hx; cases hx
      · rw [ge a e2 e1] at hx; exact t4 a e3 q' wg' l' x hx
    | held a t1 t2 t3 =>
      obtain ⟨q', wg', l', t3⟩ := t3
      obtain ⟨e1, e2, e3⟩ := back a t2
      exact .held a t1 e3 ⟨q', wg', l', (ge a e2 e1).trans t3⟩
  · dsimp only at h5 h6
    rcases at' a ha with rfl | ⟨e1, e2, e3⟩
    · rw [gN] at h5; cases h5
    · rcases at' a' ha' with rfl | ⟨e1', e2', e3'⟩
      · rw [gN] at h6; cases h6
      · rw [ge a e2 e1] at h5; rw [ge a' e2' e1'] at h6
        exact x3.uniq a a' x e3 e3' h5 h6
  · dsimp only at hx
    rcases at' a ha with rfl | ⟨e1, e2, e3⟩
    · rw [gN] at hx; cases hx
    · rw [ge a e2 e1] at hx; exact x3.jobs a e3 x hx
  · dsimp only at hx
    rcases at' a ha with rfl | ⟨e1, e2, e3⟩
    · rw [gN] at hx; cases hx
    · rw [ge a e2 e1] at hx; exact x3.tk a e3 q' wg' l' x hx
  · rcases at' a ha with rfl | ⟨e1, e2, e3⟩
    · exact hsk j hj
    · exact x3.skx a e3 j hj
  · obtain ⟨y1, y2⟩ := x3.gone a h1 h2
    exact ⟨by show upd V.sg V.N 9 a = 1; rw [upd_ne _ _ (by have := x3.fN; omega)]; exact y1, y2⟩
  · by_cases e : a = V.N
    · subst e; exact ⟨upd_same _ _ _, X.n, .idle, gN, by omega⟩
    · have h2' : a < V.N + 1 := h2
      obtain ⟨y1, l, st, y2, y3⟩ := x4.wk a h1 (by omega)
      exact ⟨by show upd V.sg V.N 9 a = 9; rw [upd_ne _ _ e]; exact y1, l, st, (ge a (by have := x3.f1; omega) e).trans y2, y3⟩
  · have : upd V.pk V.N none 0 = some (some q) := e
    rw [upd_ne _ _ hN0, hpk] at this; cases this
/-- All jobs are handed out; the group lives from now on. -/
theorem Phase.closeQ (h : Phase W V) (h0 : V.gh 0 = .par X q wg m X.n b) (hm : 0 < m) (hm2 : m < 2147483648) {Sp' : Nat → Prop} {hp : Nat → Option Obj} {p0 : Nat} (hsp : ∀ x, V.Sp x → Sp' x) (hw : Sp' wg) (hhp : ∀ x, x ≠ q → hp x = V.hp x) (hhq : hp q = some (.chan 0 #[] true X.n X.n false)) (hhw : hp wg = some (wgBlock W.wgT (m * KK) 0))
    (hc : ClAt V.t q pq) (hskp : SK V.t (fun i => Before V.t i pq) wg) (hss : SS V.t wg) (hsk : SK V.t (Knows V.t 0) wg) (hp0 : p0 ≤ V.t.size) (hnr : ∀ j, p0 ≤ j → V.t.act? j ≠ some (.mark (.release (stA wg)))) (lv : Option (Nat × TypeId)) (hlv : lv = some (wg, W.wgT)) :
    Phase W { V with gh := upd V.gh 0 (.shut X q wg m m b), Sp := Sp', hp := hp, wg := wg, lv := lv } := by
  obtain ⟨x2, first, T, x3, x4⟩ := h.ofPar h0
  have a0 : ∀ a, V.at first a → a ≠ 0 := fun a ha => by have := ha.1; have := x3.f1; omega
  have ge : ∀ a, a ≠ 0 → upd V.gh 0 (.shut X q wg m m b) a = V.gh a := fun a h => upd_ne _ _ h
  have hvc : Vc V first m = m := by
    have h1 : ∀ c, c < m → cnt1 (V.sg (first + c)) = 1 := fun c hc => by rw [(x4.wk (first + c) (by omega) (by rw [x4.N]; omega)).1]; rfl
    have h2 : Vc V first m = sumTo m fun _ => 1 := sumTo_congr h1
    have key : ∀ k, (sumTo k fun _ => 1) = k := fun k => by
      induction k with
      | zero => rfl
      | succ k ih => simp only [sumTo, ih]
    rw [h2, key]
  refine Phase.shut X q wg m b first T p0 pq (m * KK) 0 hlv ⟨fun j hj => hsp _ (x3.sp j hj), fun j hj => (hhp _ (fun e => x4.qx j hj e.symm)).trans (x3.ex j hj), x3.inj, x3.Ts, x3.sn, x3.pub, ?_, x3.f1, x3.fN, fun a a' x ha ha' h5 h6 => x3.uniq a a' x ha ha' (by rw [← ge a (a0 a ha)]; exact h5) (by rw [← ge a' (a0 a' ha')]; exact h6), fun x x1 x2 => ?_, fun a ha x hx => x3.jobs a ha x (by rw [← ge a (a0 a ha)]; exact hx), fun a ha q' wg' l' x hx => x3.tk a ha q' wg' l' x (by rw [← ge a (a0 a ha)]; exact hx), x3.skx, x3.sk0, x3.gone⟩
    ⟨x4.N, hm, hm2, rfl, hsp _ x4.spq, hw, hhq, hc, hskp, fun a ha => ?_, fun a h1 h2 h3 => ?_, hss, hsk, hp0, hnr, fun a h1 h2 h3 => ?_, ?_, hhw⟩
  · cases x3.tok with
    | air t1 t2 t3 t4 => exact .air t1 t2 t3 fun a ha q' wg' l' x hx => t4 a ha q' wg' l' x (by rw [← ge a (a0 a ha)]; exact hx)
    | held a t1 t2 t3 =>
      obtain ⟨q', wg', l', t3⟩ := t3
      exact .held a t1 t2 ⟨q', wg', l', (ge a (a0 a t2)).trans t3⟩
  · obtain ⟨a, ha, hx⟩ := x3.all x x1 x2
    exact ⟨a, ha, by show jobOf (upd V.gh 0 _ a) = _; rw [ge a (a0 a ha)]; exact hx⟩
  · obtain ⟨_, l, st, y2, _⟩ := x4.wk a ha.1 ha.2.1
    exact .inl ⟨l, st, (ge a (a0 a ha)).trans y2⟩
  · have := (x4.wk a h1 h2).1; dsimp only at h3; omega
  · have := (x4.wk a h1 h2).1; dsimp only at h3; omega
  · have := Md.opn (V := { V with gh := upd V.gh 0 (.shut X q wg m m b), Sp := Sp', hp := hp, wg := wg, lv := lv }) (X := X) (q := q) (wg := wg) (b := b) (first := first) (m := m) (B := m) (show upd V.gh 0 _ 0 = _ from upd_same _ _ _) (fun c hc => .inl (x4.wk (first + c) (by omega) (by rw [x4.N]; omega)).1) (by show Vc V first m ≤ m; omega)
    have e : Vc { V with gh := upd V.gh 0 (.shut X q wg m m b), Sp := Sp', hp := hp, wg := wg, lv := lv } first m = m := hvc
    rw [e] at this
    exact this
/-- All is joined. -/
theorem Phase.acq (h : Phase W V) (h0 : V.gh 0 = .fin X q wg m b) (hh : ∀ i, 1 ≤ i → i < V.N → V.sg i = 1 → Handed V.t i) (lv : Option (Nat × TypeId)) (hlv : lv = none) : W.Tok X X.n V.k0 ∧ ClAt V.t (X.ex X.n) V.pos ∧ Phase W { V with gh := upd V.gh 0 (.lone b), k0 := Kn.emp, lv := lv } := by
  obtain ⟨first, T, p0, pq, st, sm, h1, h2, h3⟩ := h.inWait (.inr (.inr h0))
  obtain ⟨_, _, hq⟩ := h3.md.atFin h0
  have hall : ∀ i, first ≤ i → i < V.N → V.sg i = 1 := fun i hi hi' => by
    have := hq (i - first) (by have := h3.N; omega)
    rwa [show first + (i - first) = i by omega] at this
  have no : ∀ i, ¬ V.at first i := fun i hi => by have := hall i hi.1 hi.2.1; have := hi.2.2; omega
  have hT : T = X.n := by
    rcases Nat.lt_or_ge T X.n with hlt | hge
    · obtain ⟨a, ha, _⟩ := h2.all T (Nat.le_refl _) hlt
      exact absurd ha (no a)
    · have := h2.Ts; omega
  subst hT
  cases h2.tok with
  | held a t1 t2 t3 => exact absurd t2 (no a)
  | air t1 t2 t3 t4 =>
    refine ⟨t1, t2, Phase.lone b (show upd V.gh 0 _ 0 = _ from upd_same _ _ _) hlv rfl fun i hi hi' => ?_⟩
    have : V.sg i = 1 := by
      rcases Nat.lt_or_ge i first with hlt | hge
      · exact (h2.gone i hi hlt).1
      · exact hall i hge hi'
    exact ⟨this, hh i hi hi' this⟩
end
end Go.Proofs.Ytacfhfeegalmlaa

/- THE MACHINE's INVARIANT; one goroutine's own step. -/
namespace Go.Proofs.Ytacfhfeegalmlaa
open Go.Conc
open Go.ConcR (KK wgBlock WgAt stA smA rd wr mk DC0)
open Go.ConcN (upd upd_same upd_ne WgLive RelBy sumTo sumTo_congr sumTo_upd le_sumTo sumTo_le get_map_set get_map_set_same)
set_option linter.unusedVariables false
set_option linter.unusedSimpArgs false

structure Gho where
  K : Nat → Kn
  RO : Addr → Option Value
  Sp : Nat → Prop
  pos : Nat
  wg : Nat
  rk : Nat → Rank
  pk : Nat → Pk
  dd : Nat → Nat
def Gho.view (G : Gho) (N : Nat) (w : World) (t : Trace) : View :=
  { gh := fun i => (G.K (i + 1)).gh, lv := (G.K 1).live, k0 := G.K 0, RO := G.RO, Sp := G.Sp, pos := G.pos, wg := G.wg, sg := fun i => (G.rk i).1, pk := G.pk, N := N, hp := fun b => w.heap[b]?, t := t }
theorem View.eq_of {V V' : View} (h1 : ∀ i, V.gh i = V'.gh i) (h2 : V.lv = V'.lv) (h3 : V.k0 = V'.k0) (h4 : V.RO = V'.RO) (h5 : V.Sp = V'.Sp) (h6 : V.pos = V'.pos) (h7 : V.wg = V'.wg) (h8 : ∀ i, V.sg i = V'.sg i) (h9 : ∀ i, V.pk i = V'.pk i) (h10 : V.N = V'.N) (h11 : ∀ b, V.hp b = V'.hp b) (h12 : V.t = V'.t) : V = V' := by
  obtain ⟨a1, a2, a3, a4, a5, a6, a7, a8, a9, a10, a11, a12⟩ := V
  obtain ⟨b1, b2, b3, b4, b5, b6, b7, b8, b9, b10, b11, b12⟩ := V'
  simp only at h1 h2 h3 h4 h5 h6 h7 h8 h9 h10 h11 h12
  obtain rfl := funext h1
  obtain rfl := funext h8
  obtain rfl := funext h9
  obtain rfl := funext h11
  subst h2 h3 h4 h5 h6 h7 h10 h12
  rfl
section
variable (P : Program) (W : Who) (StopM StopW : Kn → Goroutine → Prop) (w0 : World) (n0 : Nat)
structure Inv (gs : Array Goroutine) (w : World) (t : Trace) (G : Gho) : Prop where
  N1 : 1 ≤ gs.size
  hp : HInv G.K G.RO G.Sp n0 w
  tb : TB gs.size w t
  cov : ∀ i, Cov t (Knows t i) (G.K (i + 1))
  cov0 : Cov t (fun j => Before t j G.pos) (G.K 0)
  main : ∃ x, gs[0]? = some x ∧ MS P W StopM x (G.K 1) (G.rk 0) (G.pk 0)
  wk : ∀ i, 1 ≤ i → i < gs.size → ∃ x, gs[i]? = some x ∧ WkS P W StopW G.wg G.RO x (G.K (i + 1)) w (G.rk i) (G.pk i) (G.dd i)
  deaf0 : Deaf t 0 = (G.K 1).deaf
  deafW : ∀ i, 1 ≤ i → i < gs.size → Deaf t i = G.dd i
  live : ∀ i, 1 ≤ i → (G.K (i + 1)).live = none
  out : ∀ i, gs.size ≤ i → G.K (i + 1) = Kn.emp
  opn : ∀ i, 1 ≤ i → i < gs.size → ∀ c, G.pk i = some (some c) → closedAt w c = false
  pko : ∀ i, gs.size ≤ i → G.pk i = none
  ph : Phase W (G.view gs.size w t)
  os : w.os = w0.os
  tape : w.tape = w0.tape
  output : w.output = w0.output
  old : ∀ b, b < n0 → w.heap[b]? = w0.heap[b]?
end
section
variable {P : Program} {W : Who} {StopM StopW : Kn → Goroutine → Prop} {w0 : World} {n0 : Nat} {gs : Array Goroutine} {w w' : World} {t : Trace} {G G' : Gho} {i : Nat} {x g' : Goroutine} {es : Array Event}
theorem Phase.groupSp {V : View} (h : Phase W V) {j : Nat} (h1 : 1 ≤ j) (h2 : j < V.N) (h3 : 2 ≤ V.sg j) (h4 : V.sg j ≤ 7) : V.Sp V.wg ∧ ∃ st sm, V.hp V.wg = some (wgBlock W.wgT st sm) := by
  obtain ⟨X, q, wg, m, b, first, T, s, hr, hl, hf⟩ := h.worker h1 h2 (by omega)
  cases hl with
  | par a1 a2 a3 => have := (a3.wk j hf h2).1; omega
  | shut p0 pq st sm a0 a1 a2 => rw [a2.ewg]; exact ⟨a2.spw, st, sm, a2.hw⟩
theorem Inv.sat0 (h : Inv P W StopM StopW w0 n0 gs w t G) : (G.K 1).Sat w := by
  refine (h.hp.sat 1).sat fun b ty hb => ?_
  have hb' : (G.view gs.size w t).lv = some (b, ty) := hb
  cases h.ph with
  | lone _ _ x => rw [hb'] at x; cases x
  | run _ _ _ x => rw [hb'] at x; cases x
  | par _ _ _ _ _ _ _ _ _ x => rw [hb'] at x; cases x
  | shut X q wg m b' first T p0 pq st sm x1 x3 x4 =>
    rw [hb'] at x1; cases x1
    obtain ⟨_, _, h3, h4, _⟩ := h.hp.sp _ x4.spw
    exact ⟨⟨h3 1, fun a v hv => h4 1 a (by rw [hv]; simp)⟩, st, sm, x4.hw⟩
theorem Inv.satW (h : Inv P W StopM StopW w0 n0 gs w t G) (hi : 1 ≤ i) : (G.K (i + 1)).Sat w := (h.hp.sat (i + 1)).sat0 (h.live i hi)
theorem rel0_heap {RO : Addr → Option Value} (hr : ∀ a v, RO a = some v → w.cell? a = some v) (e : w'.heap = w.heap) : Rel0 RO w w' := by
  have hc : ∀ a, w'.cell? a = w.cell? a := fun a => (cell_same (by rw [e])).1
  exact ⟨fun a v hv => by rw [hc]; exact hr a v hv, fun a a' _ _ hv => by rw [hc]; exact hv⟩
theorem HInv.rel0S {K : Nat → Kn} {RO : Addr → Option Value} {Sp : Nat → Prop} (h : HInv K RO Sp n0 w) {b : Nat} (hb : Sp b) (hw : ∀ x, x ≠ b → w'.heap[x]? = w.heap[x]?) : Rel0 RO w w' := by
  obtain ⟨_, _, _, _, h5⟩ := h.sp b hb
  refine ⟨fun a v hv => ?_, fun a a' ha e hv => ?_⟩
  · rw [(cell_same (hw _ (h5 a (by rw [hv]; simp)))).1]; exact h.rosat a v hv
  · rw [(cell_same (hw _ (by rw [e]; exact h5 a ha))).1]; exact hv
theorem HInv.rel0 {K : Nat → Kn} {RO : Addr → Option Value} {Sp : Nat → Prop} (h : HInv K RO Sp n0 w) {p : Nat} {k' : Kn} (m : Mv (K p) k' w w') : Rel0 RO w w' := by
  obtain ⟨h', _⟩ := h.mv m
  refine ⟨fun a v hv => h'.rosat a v (roAnd_le hv), fun a a' ha e hv => ?_⟩
  have h1 : (K p).own a'.block = none := by
    rw [e]
    cases e1 : (K p).own a.block with
    | none => rfl
    | some o => exact absurd (h.ownRO p a (by rw [e1]; simp)) ha
  have h2 : (K p).oc a' = none := by
    cases e1 : (K p).oc a' with
    | none => rfl
    | some o => have := ((h.sat p).oc a' o e1).1; rw [hv] at this; cases this
  obtain ⟨v, hv'⟩ := Option.ne_none_iff_exists'.1 ha
  rw [(m.row a' h1 h2 (by rw [e]; exact cell_lt (h.rosat a v hv'))).1]
  exact hv
/-- A draw. -/
theorem Inv.at (h : Inv P W StopM StopW w0 n0 gs w t G) (d : Nat) : Inv P W StopM StopW w0 n0 gs (w.at d) t G :=
  ⟨h.N1, h.hp.heap rfl, ⟨h.tb.low, h.tb.nr, h.tb.gs⟩, h.cov, h.cov0, h.main, fun j h1 h2 => let ⟨x, a, b⟩ := h.wk j h1 h2; ⟨x, a, b.rely (rel0_heap h.hp.rosat rfl) (fun _ _ => id) fun _ _ => id⟩, h.deaf0, h.deafW, h.live, h.out, h.opn, h.pko, h.ph, h.os, h.tape, h.output, h.old⟩
theorem newpk_some {P : Program} {x g' : Goroutine} {w' : World} {p : Pk} {c : Nat} (h : newpk P x g' w' p = some (some c)) : p = some (some c) ∧ (wakesB P x g' = true → closedAt w' c = false) := by
  cases p with
  | none => cases h
  | some o =>
    cases o with
    | none =>
      simp only [newpk] at h
      split at h <;> cases h
    | some c' =>
      simp only [newpk] at h
      split at h
      · cases h
      · rename_i hn
        cases h
        refine ⟨rfl, fun hw => ?_⟩
        rw [hw] at hn
        simpa using hn
/-- What a step of another does to whoever stands still. -/
structure Still (P : Program) (W : Who) (StopM StopW : Kn → Goroutine → Prop) (f : Goroutine → Goroutine) (np : Pk → Pk) : Prop where
  fm : ∀ {y : Goroutine} {k : Kn} {r : Rank} {p : Pk}, MS P W StopM y k r p → MS P W StopM (f y) k r (np p)
  fw : ∀ {wg : Nat} {RO : Addr → Option Value} {y : Goroutine} {k : Kn} {w : World} {r : Rank} {p : Pk} {d : Nat}, WkS P W StopW wg RO y k w r p d → WkS P W StopW wg RO (f y) k w r (np p) d
  fs : ∀ {p : Pk} {c : Nat}, np p = some (some c) → p = some (some c)
  fn : np none = none
theorem Still.woken {P : Program} {W : Who} {StopM StopW : Kn → Goroutine → Prop} (x g' : Goroutine) (w' : World) : Still P W StopM StopW (woken P x g' w') (newpk P x g' w') := ⟨fun h => h.woken, fun h => h.woken, fun h => (newpk_some h).1, rfl⟩
theorem Still.id {P : Program} {W : Who} {StopM StopW : Kn → Goroutine → Prop} : Still P W StopM StopW id id := ⟨fun h => h, fun h => h, fun h => h, rfl⟩
/-- What has to be shown of an own step. -/
structure GoOk (P : Program) (W : Who) (n0 : Nat) (w0 : World) (gs : Array Goroutine) (w w' : World) (t u : Trace) (G G' : Gho) (i : Nat) (np : Pk → Pk) : Prop where
  hp : HInv G'.K G'.RO G'.Sp n0 w'
  tb : TB gs.size w' (t ++ u)
  cov : ∀ j, Cov (t ++ u) (Knows (t ++ u) j) (G'.K (j + 1))
  cov0 : Cov (t ++ u) (fun j => Before (t ++ u) j G'.pos) (G'.K 0)
  gu : ∀ op ∈ u, op.g = i
  oth : ∀ j, j ≠ i → G'.K (j + 1) = G.K (j + 1) ∧ G'.rk j = G.rk j ∧ G'.pk j = np (G.pk j) ∧ G'.dd j = G.dd j
  grp : ∀ j, j ≠ i → 1 ≤ j → j < gs.size → 2 ≤ (G.rk j).1 → (G.rk j).1 ≤ 7 → G'.wg = G.wg ∧ (WgLive W.wgT G.wg w → WgLive W.wgT G.wg w')
  rel : Rel0 G.RO w w'
  ro : ∀ a v, G.RO a = some v → G'.RO a = some v
  opn : ∀ j, 1 ≤ j → j < gs.size → ∀ c, G'.pk j = some (some c) → closedAt w' c = false
  ph : Phase W (G'.view gs.size w' (t ++ u))
  os : w'.os = w0.os
  tape : w'.tape = w0.tape
  output : w'.output = w0.output
  old : ∀ b, b < n0 → w'.heap[b]? = w0.heap[b]?
section
variable {f : Goroutine → Goroutine} {np : Pk → Pk}
theorem Inv.wkOth (h : Inv P W StopM StopW w0 n0 gs w t G) (hf : Still P W StopM StopW f np) {u : Trace} (hk : GoOk P W n0 w0 gs w w' t u G G' i np) {j : Nat} (hj : j ≠ i) (h1 : 1 ≤ j) (h2 : j < gs.size) :
    ∃ y, ((gs.map f).setIfInBounds i g')[j]? = some y ∧ WkS P W StopW G'.wg G'.RO y (G'.K (j + 1)) w' (G'.rk j) (G'.pk j) (G'.dd j) := by
  obtain ⟨y, hy, hs⟩ := h.wk j h1 h2
  refine ⟨f y, by rw [get_map_set _ _ _ _ (Ne.symm hj), hy]; rfl, ?_⟩
  obtain ⟨e1, e2, e3, e4⟩ := hk.oth j hj
  rw [e1, e2, e3, e4]
  rcases hs.stage with hst | ⟨hst1, hst2⟩ | hst
  · exact (hf.fw hs).regroup (.inl hst) hk.ro
  · obtain ⟨e5, e6⟩ := hk.grp j hj h1 h2 hst1 hst2
    rw [e5]
    exact (hf.fw hs).rely hk.rel (fun _ _ => e6) hk.ro
  · exact (hf.fw hs).regroup (.inr hst) hk.ro
/-- A WORKER's OWN STEP. -/
theorem Inv.goW (h : Inv P W StopM StopW w0 n0 gs w t G) (hf : Still P W StopM StopW f np) {u : Trace} (hi : 1 ≤ i) (hi' : i < gs.size) (hk : GoOk P W n0 w0 gs w w' t u G G' i np)
    (hme : WkS P W StopW G'.wg G'.RO g' (G'.K (i + 1)) w' (G'.rk i) (G'.pk i) (G'.dd i)) (hdf : Deaf (t ++ u) i = G'.dd i) (hlv : (G'.K (i + 1)).live = none) :
    Inv P W StopM StopW w0 n0 ((gs.map f).setIfInBounds i g') w' (t ++ u) G' := by
  have hsz : ((gs.map f).setIfInBounds i g').size = gs.size := by simp
  refine ⟨by rw [hsz]; exact h.N1, hk.hp, by rw [hsz]; exact hk.tb, hk.cov, hk.cov0, ?_, fun j h1 h2 => ?_, ?_, fun j h1 h2 => ?_, fun j h1 => ?_, fun j h1 => ?_, fun j h1 h2 => hk.opn j h1 (by rw [hsz] at h2; exact h2), fun j h1 => by rw [hsz] at h1; rw [(hk.oth j (by have := h.N1; omega)).2.2.1, h.pko j h1]; exact hf.fn, by rw [hsz]; exact hk.ph, hk.os, hk.tape, hk.output, hk.old⟩
  · obtain ⟨y, hy, hs⟩ := h.main
    refine ⟨f y, by rw [get_map_set _ _ _ _ (by omega), hy]; rfl, ?_⟩
    obtain ⟨e1, e2, e3, e4⟩ := hk.oth 0 (by omega)
    rw [e1, e2, e3]
    exact hf.fm hs
  · rw [hsz] at h2
    by_cases e : j = i
    · subst e; exact ⟨g', get_map_set_same _ _ _ h2, hme⟩
    · exact h.wkOth hf hk e h1 h2
  · rw [Deaf_other t (show i ≠ 0 by omega) u hk.gu, h.deaf0, (hk.oth 0 (by omega)).1]
  · rw [hsz] at h2
    by_cases e : j = i
    · subst e; exact hdf
    · rw [Deaf_other t (Ne.symm e) u hk.gu, h.deafW j h1 h2, (hk.oth j e).2.2.2]
  · by_cases e : j = i
    · subst e; exact hlv
    · rw [(hk.oth j e).1]; exact h.live j h1
  · rw [hsz] at h1
    rw [(hk.oth j (by omega)).1]; exact h.out j h1
/-- THE MAIN ONE's OWN STEP. -/
theorem Inv.go0 (h : Inv P W StopM StopW w0 n0 gs w t G) (hf : Still P W StopM StopW f np) {u : Trace} (hk : GoOk P W n0 w0 gs w w' t u G G' 0 np)
    (hme : MS P W StopM g' (G'.K 1) (G'.rk 0) (G'.pk 0)) (hdf : Deaf (t ++ u) 0 = (G'.K 1).deaf) :
    Inv P W StopM StopW w0 n0 ((gs.map f).setIfInBounds 0 g') w' (t ++ u) G' := by
  have hsz : ((gs.map f).setIfInBounds 0 g').size = gs.size := by simp
  refine ⟨by rw [hsz]; exact h.N1, hk.hp, by rw [hsz]; exact hk.tb, hk.cov, hk.cov0, ?_, fun j h1 h2 => ?_, hdf, fun j h1 h2 => ?_, fun j h1 => ?_, fun j h1 => ?_, fun j h1 h2 => hk.opn j h1 (by rw [hsz] at h2; exact h2), fun j h1 => by rw [hsz] at h1; rw [(hk.oth j (by have := h.N1; omega)).2.2.1, h.pko j h1]; exact hf.fn, by rw [hsz]; exact hk.ph, hk.os, hk.tape, hk.output, hk.old⟩
  · exact ⟨g', get_map_set_same _ _ _ (by have := h.N1; omega), hme⟩
  · rw [hsz] at h2
    exact h.wkOth hf hk (by omega) h1 h2
  · rw [hsz] at h2
    rw [Deaf_other t (show 0 ≠ j by omega) u hk.gu, h.deafW j h1 h2, (hk.oth j (by omega)).2.2.2]
  · rw [(hk.oth j (by omega)).1]; exact h.live j h1
  · rw [hsz] at h1
    have := h.N1
    rw [(hk.oth j (by omega)).1]; exact h.out j h1
end
/-- Where one waits is a place of the round, and open. -/
theorem Inv.pkSp (h : Inv P W StopM StopW w0 n0 gs w t G) {j c : Nat} (hj : j < gs.size) (hc : G.pk j = some (some c)) : G.Sp c ∧ closedAt w c = false := by
  rcases Nat.eq_zero_or_pos j with rfl | hj0
  · obtain ⟨y, hy, hs⟩ := h.main
    generalize G.rk 0 = r at hs
    generalize hpp : G.pk 0 = p at hs
    rw [hc] at hpp
    cases hs with
    | run => cases hpp
    | sem => cases hpp
    | @send hh g X q wg m s b z hq e =>
      cases hpp
      obtain ⟨_, first, T, h3, h4⟩ := h.ph.ofPar (show (G.view gs.size w t).gh 0 = _ from hq.gh)
      refine ⟨h4.spq, ?_⟩
      unfold closedAt
      rw [show w.heap[c]? = _ from h4.hq]
  · refine ⟨?_, h.opn j hj0 hj c hc⟩
    obtain ⟨y, hy, hs⟩ := h.wk j hj0 hj
    have h9 : (G.rk j).1 = 9 := hs.nine (by rw [hc]; simp)
    have hsg : (G.view gs.size w t).sg j = 9 := h9
    obtain ⟨X, q, wg, m, b, first, T, s, hr, hl, hf⟩ := h.ph.worker hj0 hj (by rw [hsg]; omega)
    have hat : (G.view gs.size w t).at first j := ⟨hf, hj, hsg⟩
    have fin : ∀ X' q' wg' left j' jj, (G.view gs.size w t).gh j = .wk X' q' wg' left (.job j' false) → jj ≤ j' → G.Sp (X'.ex jj) := fun X' q' wg' left j' jj hg hle => by
      obtain ⟨rfl, _, _⟩ := hl.inj hat hg
      have := (hr.jobs j hat j' (by rw [hg]; rfl)).2
      have := hr.sn
      exact hr.sp jj (by omega)
    generalize hrk : G.rk j = r at hs
    generalize hdd : G.dd j = d at hs
    generalize hpp : G.pk j = p at hs
    rw [hc] at hpp
    cases hs with
    | run => cases hpp
    | pkE hq e => cases hpp; exact fin _ _ _ _ _ _ hq.gh hq.le
    | pkT hq e => cases hpp; exact fin _ _ _ _ _ _ hq.gh (Nat.le_refl _)
    | pkQ hq e => cases hpp; obtain ⟨_, rfl, _⟩ := hl.inj hat (show (G.view gs.size w t).gh j = _ from hq.gh); exact hl.hq.1
    | dn => cases hpp
    | qt => cases hpp
end
end Go.Proofs.Ytacfhfeegalmlaa

/- THE MACHINE's INVARIANT: its tools; an own step, a mark, a new view. -/
namespace Go.Proofs.Ytacfhfeegalmlaa
open Go.Conc
open Go.ConcR (KK wgBlock WgAt stA smA rd wr mk DC0 g_of_ofEvents)
open Go.ConcN (upd upd_same upd_ne WgLive RelBy sumTo sumTo_congr sumTo_upd le_sumTo sumTo_le get_map_set get_map_set_same)
set_option linter.unusedVariables false
set_option linter.unusedSimpArgs false

/-- Goroutine i's turn. -/
def Gho.turn (G : Gho) (i : Nat) (k' : Kn) (RO' : Addr → Option Value) (r' : Rank) (np : Pk → Pk) : Gho :=
  { G with K := upd G.K (i + 1) k', RO := RO', rk := upd G.rk i r', pk := fun j => if j = i then none else np (G.pk j), dd := upd G.dd i k'.deaf }
section
variable {P : Program} {W : Who} {StopM StopW : Kn → Goroutine → Prop} {w0 : World} {n0 : Nat} {gs : Array Goroutine} {w w' : World} {t u : Trace} {G G' : Gho} {i : Nat} {x g' : Goroutine} {es : Array Event} {k' : Kn} {RO' : Addr → Option Value} {r' : Rank} {np : Pk → Pk}
theorem Gho.turn_K : (G.turn i k' RO' r' np).K (i + 1) = k' := upd_same _ _ _
theorem Gho.turn_Kne {p : Nat} (h : p ≠ i + 1) : (G.turn i k' RO' r' np).K p = G.K p := upd_ne _ _ h
theorem Gho.turn_rk : (G.turn i k' RO' r' np).rk i = r' := upd_same _ _ _
theorem Gho.turn_pk : (G.turn i k' RO' r' np).pk i = none := if_pos rfl
theorem Gho.turn_dd : (G.turn i k' RO' r' np).dd i = k'.deaf := upd_same _ _ _
theorem Gho.turn_oth {j : Nat} (h : j ≠ i) : (G.turn i k' RO' r' np).K (j + 1) = G.K (j + 1) ∧ (G.turn i k' RO' r' np).rk j = G.rk j ∧ (G.turn i k' RO' r' np).pk j = np (G.pk j) ∧ (G.turn i k' RO' r' np).dd j = G.dd j :=
  ⟨upd_ne _ _ (by omega), upd_ne _ _ h, if_neg h, upd_ne _ _ h⟩
theorem Gho.turn_view {N : Nat} {t' : Trace} (h9 : (G.rk i).1 = 9) (hr : r'.1 = 9) (hlv : i = 0 → k'.live = (G.K 1).live) :
    (G.turn i k' RO' r' np).view N w' t' = { (G.view N w t) with gh := upd (G.view N w t).gh i k'.gh, RO := RO', pk := fun j => if j = i then none else np (G.pk j), hp := fun b => w'.heap[b]?, t := t' } := by
  refine View.eq_of (fun j => ?_) ?_ ?_ rfl rfl rfl rfl (fun j => ?_) (fun _ => rfl) rfl (fun _ => rfl) rfl
  · show (upd G.K (i + 1) k' (j + 1)).gh = upd (fun i => (G.K (i + 1)).gh) i k'.gh j
    by_cases e : j = i
    · subst e; rw [upd_same, upd_same]
    · rw [upd_ne _ _ (by omega), upd_ne _ _ e]
  · show (upd G.K (i + 1) k' 1).live = (G.K 1).live
    by_cases e : i = 0
    · subst e; rw [upd_same]; exact hlv rfl
    · rw [upd_ne _ _ (by omega)]
  · show upd G.K (i + 1) k' 0 = G.K 0
    exact upd_ne _ _ (by omega)
  · show (upd G.rk i r' j).1 = (G.rk j).1
    by_cases e : j = i
    · subst e; rw [upd_same, hr, h9]
    · rw [upd_ne _ _ e]
/-- .. and is about the same. -/
theorem Gho.turn_next {N : Nat} (h9 : (G.rk i).1 = 9) (hr : r'.1 = 9) (hlv : i = 0 → k'.live = (G.K 1).live) (hg : k'.gh = (G.K (i + 1)).gh) :
    (G.turn i k' RO' r' np).view N w' (t ++ u) = (G.view N w t).next RO' (fun j => if j = i then none else np (G.pk j)) (fun b => w'.heap[b]?) u := by
  rw [Gho.turn_view (w := w) (t := t) h9 hr hlv]
  refine View.eq_of (fun j => ?_) rfl rfl rfl rfl rfl rfl (fun _ => rfl) (fun _ => rfl) rfl (fun _ => rfl) rfl
  show upd (G.view N w t).gh i k'.gh j = (G.K (j + 1)).gh
  by_cases e : j = i
  · subst e; rw [upd_same, hg]
  · rw [upd_ne _ _ e]; rfl
theorem closedAt_same {c : Nat} (h : w'.heap[c]? = w.heap[c]?) : closedAt w' c = closedAt w c := by unfold closedAt; rw [h]
theorem wgLive_same {ty : TypeId} {b : Nat} (h : w'.heap[b]? = w.heap[b]?) (hl : WgLive ty b w) : WgLive ty b w' := by
  obtain ⟨st, sm, x⟩ := hl
  exact ⟨st, sm, by unfold WgAt at *; rw [h]; exact x⟩
theorem newpk_none {p : Pk} (h : newpk P x g' w' p = none) : p = none ∨ p = some none ∨ ∃ c, p = some (some c) ∧ closedAt w' c = true := by
  cases p with
  | none => exact .inl rfl
  | some o =>
    cases o with
    | none => exact .inr (.inl rfl)
    | some c =>
      refine .inr (.inr ⟨c, rfl, ?_⟩)
      simp only [newpk] at h
      split at h
      · rename_i hc; simp only [Bool.and_eq_true] at hc; exact hc.2
      · cases h
theorem newpk_cases (p : Pk) : newpk P x g' w' p = p ∨ newpk P x g' w' p = none := by
  cases p with
  | none => exact .inl rfl
  | some o =>
    cases o with
    | none => simp only [newpk]; split <;> simp
    | some c => simp only [newpk]; split <;> simp
/-- Nobody is woken whose channel stands. -/
theorem Inv.pkNext (h : Inv P W StopM StopW w0 n0 gs w t G) (hp : G.pk i = none) (hsp : ∀ b, G.Sp b → w'.heap[b]? = w.heap[b]?) {j : Nat} (hj : j < gs.size) :
    (if j = i then none else newpk P x g' w' (G.pk j)) = G.pk j ∨ (G.pk j = some none ∧ (if j = i then none else newpk P x g' w' (G.pk j)) = none) := by
  by_cases e : j = i
  · subst e; rw [if_pos rfl, hp]; exact .inl rfl
  · rw [if_neg e]
    rcases newpk_cases (P := P) (x := x) (g' := g') (w' := w') (G.pk j) with h1 | h1
    · exact .inl h1
    · rcases newpk_none h1 with h2 | h2 | ⟨c, h2, h3⟩
      · exact .inl (h1.trans h2.symm)
      · exact .inr ⟨h2, h1⟩
      · obtain ⟨h4, h5⟩ := h.pkSp hj h2
        rw [closedAt_same (hsp c h4), h5] at h3
        cases h3
theorem Inv.opnNext (h : Inv P W StopM StopW w0 n0 gs w t G) (hp : ∀ j, j ≠ i → G'.pk j = newpk P x g' w' (G.pk j)) (hpi : G'.pk i = none) (hsp : ∀ b, G.Sp b → w'.heap[b]? = w.heap[b]?) : ∀ j, 1 ≤ j → j < gs.size → ∀ c, G'.pk j = some (some c) → closedAt w' c = false := by
  intro j h1 h2 c hc
  by_cases e : j = i
  · subst e; rw [hpi] at hc; cases hc
  · rw [hp j e] at hc
    obtain ⟨h3, h4⟩ := h.pkSp h2 (newpk_some hc).1
    rw [closedAt_same (hsp c h3)]; exact h4
theorem Inv.grpNext (h : Inv P W StopM StopW w0 n0 gs w t G) (hw : G'.wg = G.wg) (hsp : ∀ b, G.Sp b → w'.heap[b]? = w.heap[b]?) : ∀ j, j ≠ i → 1 ≤ j → j < gs.size → 2 ≤ (G.rk j).1 → (G.rk j).1 ≤ 7 → G'.wg = G.wg ∧ (WgLive W.wgT G.wg w → WgLive W.wgT G.wg w') := by
  intro j _ h1 h2 h3 h4
  exact ⟨hw, wgLive_same (hsp _ (h.ph.groupSp (j := j) h1 h2 h3 h4).1)⟩
theorem lets_nomark {k : Kn} {n : Nat} {es : Array Event} {n' : Nat} (h : ∀ e ∈ es, k.Lets n e ∧ lowE n' e) {fn : FuncId} {pos : String} : (∀ op ∈ MemOp.ofEvents i fn pos es, ∀ a, op.act ≠ .mark (.release a)) ∧ deafBehind 0 es = 0 ∧ ∀ d, deafBehind d es = d := by
  have key : ∀ d, deafBehind d es = d := Go.ConcN.deafBehind_idle (fun e he => ?_)
  · refine ⟨fun op ho a e => ?_, key 0, key⟩
    rw [ofEvents_eq] at ho
    obtain ⟨ev, hev, rfl⟩ := Array.mem_map.1 ho
    have h1 := (h ev hev).1
    have h2 := Go.ConcR.loc_of_ofEvent e
    unfold Kn.Lets at h1
    rw [h2] at h1
    exact h1.elim
  · have h1 := (h e he).1
    unfold Kn.Lets at h1
    exact ⟨fun h2 => by rw [h2] at h1; exact h1.elim, fun h2 => by rw [h2] at h1; exact h1.elim⟩
end
end Go.Proofs.Ytacfhfeegalmlaa

/- THE MACHINE's INVARIANT: an own step; a mark; a new view; the library's bookkeeping. -/
namespace Go.Proofs.Ytacfhfeegalmlaa
open Go.Conc
open Go.ConcR (KK wgBlock WgAt stA smA rd wr mk DC0 g_of_ofEvents)
open Go.ConcN (upd upd_same upd_ne WgLive RelBy sumTo sumTo_congr sumTo_upd le_sumTo sumTo_le get_map_set get_map_set_same)
set_option linter.unusedVariables false
set_option linter.unusedSimpArgs false
section
variable {P : Program} {W : Who} {StopM StopW : Kn → Goroutine → Prop} {w0 : World} {n0 : Nat} {gs : Array Goroutine} {w w' : World} {t u : Trace} {G G' : Gho} {i : Nat} {x g' : Goroutine} {es : Array Event} {k' : Kn} {RO' : Addr → Option Value} {r' : Rank} {np : Pk → Pk}
/-- AN OWN STEP. -/
theorem Inv.okStep (h : Inv P W StopM StopW w0 n0 gs w t G) (hi : i < gs.size) (hst : (G.K (i + 1)).Step k' w w' es) (h9 : (G.rk i).1 = 9) (hp : G.pk i = none) (hr : r'.1 = 9) (fn : FuncId) (pos : String) :
    GoOk P W n0 w0 gs w w' t (MemOp.ofEvents i fn pos es) G (G.turn i k' (roAnd G.RO k'.ro) r' (newpk P x g' w')) i (newpk P x g' w') := by
  obtain ⟨hH, hsp⟩ := h.hp.mv hst.mv
  have hTL : ∀ op ∈ MemOp.ofEvents i fn pos es, ∀ y, op.act.touch? = some y → TL (G.K (i + 1)) w.heap.size w'.heap.size y := fun op ho y hy => by
    rw [ofEvents_eq] at ho
    obtain ⟨ev, hev, rfl⟩ := Array.mem_map.1 ho
    exact tl_of (hst.evs ev hev).1 (hst.evs ev hev).2 hy
  have hfit := h.hp.ufit (g_of_ofEvents (fn := fn) (pos := pos) (es := es)) hst.size hTL
  have hsp' : ∀ b, G.Sp b → w'.heap[b]? = w.heap[b]? := fun b hb => hsp b (.inl hb)
  refine ⟨hH, h.tb.app hi hst.size hfit (tl_knows h.tb (h.cov i) hTL), fun j => ?_, ?_, g_of_ofEvents, fun j hj => Gho.turn_oth hj, h.grpNext rfl hsp', h.hp.rel0 hst.mv, fun a v hv => roAnd_le hv, h.opnNext (fun j hj => (Gho.turn_oth hj).2.2.1) Gho.turn_pk hsp', ?_, hst.os.trans h.os, hst.tape.trans h.tape, hst.output.trans h.output, fun b hb => (hsp b (.inr hb)).trans (h.old b hb)⟩
  · by_cases e : j = i
    · subst e
      rw [Gho.turn_K]
      exact Cov.self h.hp h.tb (h.cov j) g_of_ofEvents hst.mv
    · rw [Gho.turn_Kne (by omega)]
      exact Cov.app hfit (h.cov j) (by omega) (fun a ha => h.hp.ro_ne ha) fun c hc => hc.app _
  · rw [Gho.turn_Kne (by omega)]
    exact Cov.app hfit h.cov0 (by omega) (fun a ha => h.hp.ro_ne ha) fun c hc => hc.app _
  · rw [Gho.turn_next h9 hr (fun e => by subst e; exact hst.live) hst.gh]
    refine h.ph.gr (Gr.of hfit (show (G.view gs.size w t).sg i = 9 from h9) ((lets_nomark hst.evs).1 · · _)) (fun a v hv => roAnd_le hv) (fun j => ?_) fun b hb => hsp' b hb
    by_cases hj : j < gs.size
    · exact h.pkNext hp hsp' hj
    · left
      show (if j = i then none else newpk P x g' w' (G.pk j)) = G.pk j
      rw [if_neg (by omega), h.pko j (by omega)]; rfl
/-- NOTHING IS TOUCHED; the heap stands; one knows more, or has less. -/
theorem Inv.okView (h : Inv P W StopM StopW w0 n0 gs w t G) (hi : i < gs.size) (hw : w'.heap = w.heap) (hos : w'.os = w.os) (htp : w'.tape = w.tape) (hout : w'.output = w.output)
    (own : ∀ b o, k'.own b = some o → (G.K (i + 1)).own b = some o) (oc : ∀ a v, k'.oc a = some v → (G.K (i + 1)).oc a = some v) (ro : ∀ a v, k'.ro a = some v → G.RO a = some v)
    (hn : ∀ op ∈ u, op.act.touch? = none) (hg : ∀ op ∈ u, op.g = i) (hcov : Cov (t ++ u) (Knows (t ++ u) i) k') (hs : ∀ {p : Pk} {c : Nat}, np p = some (some c) → p = some (some c)) (ph : Phase W ((G.turn i k' G.RO r' np).view gs.size w' (t ++ u))) :
    GoOk P W n0 w0 gs w w' t u G (G.turn i k' G.RO r' np) i np := by
  have hH := (h.hp.view (i + 1) own oc ro).heap hw
  refine ⟨hH, h.tb.mute hn (fun op ho => by rw [hg op ho]; exact hi) (by rw [hw]; exact Nat.le_refl _), fun j => ?_, ?_, hg, fun j hj => Gho.turn_oth hj, h.grpNext rfl (fun b _ => by rw [hw]), rel0_heap h.hp.rosat hw, fun a v hv => hv, fun j h1 h2 c hc => ?_, ph, hos.trans h.os, htp.trans h.tape, hout.trans h.output, fun b hb => by rw [hw]; exact h.old b hb⟩
  · by_cases e : j = i
    · subst e; rw [Gho.turn_K]; exact hcov
    · rw [Gho.turn_Kne (by omega)]
      exact (h.cov j).mute hn fun c hc => hc.app _
  · rw [Gho.turn_Kne (by omega)]
    exact h.cov0.mute hn fun c hc => hc.app _
  · by_cases e : j = i
    · subst e; rw [Gho.turn_pk] at hc; cases hc
    · rw [(Gho.turn_oth e).2.2.1] at hc
      rw [closedAt_same (w := w) (w' := w') (c := c) (by rw [hw])]
      exact (h.pkSp h2 (hs hc)).2
/-- A MARK. -/
theorem tame_fact {m : Mark} (hm : tameMark m = true) (fn : FuncId) (pos : String) : (∀ op ∈ MemOp.ofEvents i fn pos #[⟨.mark m, false, true⟩], op.act.touch? = none ∧ (∀ a, op.act ≠ .mark (.release a)) ∧ ∀ c, op.act ≠ .close c) ∧ ∀ k : Kn, deafBehind k.deaf #[⟨.mark m, false, true⟩] = (k.said m).deaf := by
  refine ⟨fun op ho => ?_, fun k => ?_⟩
  · rw [ofEvents_eq] at ho
    simp only [List.map_toArray, List.map_cons, List.map_nil, List.mem_toArray, List.mem_singleton] at ho
    subst ho
    cases m <;> simp [tameMark] at hm <;> simp [MemAct.ofEvent, MemAct.touch?]
  · cases m <;> simp [tameMark] at hm <;> simp [deafBehind, Kn.said]
theorem Inv.okMark (h : Inv P W StopM StopW w0 n0 gs w t G) (hi : i < gs.size) {m : Mark} (hm : tameMark m = true) (h9 : (G.rk i).1 = 9) (hp : G.pk i = none) (hr : r'.1 = 9) (fn : FuncId) (pos : String) :
    GoOk P W n0 w0 gs w w t (MemOp.ofEvents i fn pos #[⟨.mark m, false, true⟩]) G (G.turn i ((G.K (i + 1)).said m) G.RO r' (newpk P x g' w)) i (newpk P x g' w) := by
  obtain ⟨f1, f2⟩ := tame_fact (i := i) hm fn pos
  have hn : ∀ op ∈ MemOp.ofEvents i fn pos #[⟨.mark m, false, true⟩], op.act.touch? = none := fun op ho => (f1 op ho).1
  refine h.okView hi rfl rfl rfl rfl (fun b o ho => by rw [Kn.said_own] at ho; exact ho) (fun a v hv => by rw [Kn.said_oc] at hv; exact hv) (fun a v hv => by rw [Kn.said_ro] at hv; exact h.hp.ro _ a v hv) hn g_of_ofEvents ?_ (fun h => (newpk_some h).1) ?_
  · refine ((h.cov i).mute hn fun c hc => hc.app _).less (fun b hb => by rw [Kn.said_own] at hb; exact hb) (fun b hb => by rw [Kn.said_oc] at hb; exact hb) (fun b hb => by rw [Kn.said_ro] at hb; exact hb)
  · have hgh : ((G.K (i + 1)).said m).gh = (G.K (i + 1)).gh := by cases m <;> rfl
    have hlv : ((G.K (i + 1)).said m).live = (G.K (i + 1)).live := by cases m <;> rfl
    rw [Gho.turn_next (w := w) (t := t) h9 hr (fun e => by subst e; exact hlv) hgh]
    refine h.ph.gr (Gr.mute hn (fun op ho => (f1 op ho).2.1 _) fun op ho _ c => (f1 op ho).2.2 c) (fun a v hv => hv) (fun j => ?_) fun b hb => rfl
    by_cases hj : j < gs.size
    · exact h.pkNext hp (fun _ _ => rfl) hj
    · left
      show (if j = i then none else newpk P x g' w (G.pk j)) = G.pk j
      rw [if_neg (by omega), h.pko j (by omega)]; rfl
end

/-! ### the measure -/
def budget : Gh → Nat
  | .lone b | .run _ b | .par _ _ _ _ _ b | .shut _ _ _ _ _ b | .reg _ _ _ _ b | .fin _ _ _ _ b => b
  | _ => 0
def fl (pk : Nat → Pk) (N : Nat) : Nat := sumTo N fun i => if pk i = none then 1 else 0
def mu (G : Gho) (N : Nat) : Mu := (budget (G.K 1).gh, (N, G.rk), fl G.pk N)
section
variable (P : Program) (W : Who) (StopM StopW : Kn → Goroutine → Prop) (w0 : World) (n0 : Nat)
def InvM (μ : Mu) (m : Machine) (t : Trace) : Prop := ∃ gs w sl G, m = crowd gs w sl ∧ Inv P W StopM StopW w0 n0 gs w t G ∧ μ = mu G gs.size
/-- It goes on. -/
def NextOk (m : Machine) (t : Trace) (μ : Mu) (i : Nat) : Prop := ∃ m' ops μ', runT P m i = (.next m', ops) ∧ Mu.Lt μ' μ ∧ InvM P W StopM StopW w0 n0 μ' m' (t ++ ops)
end
section
variable {P : Program} {W : Who} {StopM StopW : Kn → Goroutine → Prop} {w0 : World} {n0 : Nat} {gs gs' : Array Goroutine} {w w' : World} {t u : Trace} {G G' : Gho} {i : Nat} {x g' : Goroutine} {es : Array Event} {k' : Kn} {RO' : Addr → Option Value} {r' : Rank} {np : Pk → Pk} {sl : Option (Nat × Nat)}
theorem mu_lt {N : Nat} (hb : budget (G'.K 1).gh = budget (G.K 1).gh) (h : ∀ j, j < N → G'.rk j = G.rk j ∨ Rank.Lt (G'.rk j) (G.rk j)) (hi : i < N) (hlt : Rank.Lt (G'.rk i) (G.rk i)) : Mu.Lt (mu G' N) (mu G N) := by
  unfold mu
  rw [hb]
  exact Mu.rank ⟨h, i, hi, hlt⟩
/-- A worker's own step is taken. -/
theorem Inv.goneW (h : Inv P W StopM StopW w0 n0 gs w t G) (hi : 1 ≤ i) (hx : gs[i]? = some x) (hgo : stepG P false x w = .go g' w' es) (hk : GoOk P W n0 w0 gs w w' t (MemOp.ofEvents i x.frame.fn x.frame.place es) G G' i (newpk P x g' w'))
    (hme : WkS P W StopW G'.wg G'.RO g' (G'.K (i + 1)) w' (G'.rk i) (G'.pk i) (G'.dd i)) (hdf : Deaf (t ++ MemOp.ofEvents i x.frame.fn x.frame.place es) i = G'.dd i) (hlv : (G'.K (i + 1)).live = none) (hlt : Rank.Lt (G'.rk i) (G.rk i)) :
    NextOk P W StopM StopW w0 n0 (crowd gs w sl) t (mu G gs.size) i := by
  have hi' := (Array.getElem?_eq_some_iff.1 hx).1
  refine ⟨_, _, _, runT_crowd_go hx (by rw [show (i == 0) = false by simp; omega]; exact hgo), ?_, _, w', sl, G', rfl, h.goW (.woken x g' w') hi hi' hk hme hdf hlv, rfl⟩
  have hsz : ((gs.map (woken P x g' w')).setIfInBounds i g').size = gs.size := by simp
  rw [hsz]
  refine mu_lt (by rw [(hk.oth 0 (by omega)).1]) (fun j hj => ?_) hi' hlt
  by_cases e : j = i
  · subst e; exact .inr hlt
  · exact .inl (hk.oth j e).2.1
/-- The main one's. -/
theorem Inv.gone0 (h : Inv P W StopM StopW w0 n0 gs w t G) (hx : gs[0]? = some x) (hgo : stepG P true x w = .go g' w' es) (hk : GoOk P W n0 w0 gs w w' t (MemOp.ofEvents 0 x.frame.fn x.frame.place es) G G' 0 (newpk P x g' w'))
    (hme : MS P W StopM g' (G'.K 1) (G'.rk 0) (G'.pk 0)) (hdf : Deaf (t ++ MemOp.ofEvents 0 x.frame.fn x.frame.place es) 0 = (G'.K 1).deaf) (hb : budget (G'.K 1).gh = budget (G.K 1).gh) (hlt : Rank.Lt (G'.rk 0) (G.rk 0)) :
    NextOk P W StopM StopW w0 n0 (crowd gs w sl) t (mu G gs.size) 0 := by
  have hi' := (Array.getElem?_eq_some_iff.1 hx).1
  refine ⟨_, _, _, runT_crowd_go hx hgo, ?_, _, w', sl, G', rfl, h.go0 (.woken x g' w') hk hme hdf, rfl⟩
  have hsz : ((gs.map (woken P x g' w')).setIfInBounds 0 g').size = gs.size := by simp
  rw [hsz]
  refine mu_lt hb (fun j hj => ?_) hi' hlt
  by_cases e : j = 0
  · subst e; exact .inr hlt
  · exact .inl (hk.oth j e).2.1
end
end Go.Proofs.Ytacfhfeegalmlaa

/- THE MACHINE's INVARIANT: who waits where; a worker works. -/
namespace Go.Proofs.Ytacfhfeegalmlaa
open Go.Conc
open Go.ConcR (KK wgBlock WgAt stA smA rd wr mk DC0 g_of_ofEvents)
open Go.ConcN (upd upd_same upd_ne WgLive RelBy sumTo sumTo_congr sumTo_upd le_sumTo sumTo_le get_map_set get_map_set_same)
set_option linter.unusedVariables false
set_option linter.unusedSimpArgs false

/-- WHAT IS ASKED OF A PROGRAM. -/
structure Hyp (P : Program) (W : Who) (StopM StopW : Kn → Goroutine → Prop) : Prop where
  stopM : ∀ k g, StopM k g → g.status = .running
  stopW : ∀ k g, StopW k g → g.status = .running
  pub : ∀ X j ro ro', W.Pub X j ro → (∀ a v, ro a = some v → ro' a = some v) → W.Pub X j ro'
  kid : ∀ k g, W.Kid k g → GK P (W.as false) StopW k g
  done : ∀ k g, StopW k g → k.deaf = 0 ∧ ∃ X q wg, k.gh = .wkf X q wg ∧ ∃ C1 i1 v1 C2 i2 v2, C1 ≠ C2 ∧ k.ro ⟨C1, i1, none⟩ = some v1 ∧ k.ro ⟨C2, i2, none⟩ = some v2 ∧
    ∀ M1 M2 w, WgLive W.wgT wg w → w.cell? ⟨C1, i1, none⟩ = some v1 → w.cell? ⟨C2, i2, none⟩ = some v2 → (∃ m, R0 P W.wgT wg ⟨C1, i1, M1, v1⟩ m g w) ∧ ∃ m, R0 P W.wgT wg ⟨C2, i2, M2, v2⟩ m g w

section
variable {P : Program} {W : Who} {StopM StopW : Kn → Goroutine → Prop} {w0 : World} {n0 : Nat} {gs gs' : Array Goroutine} {w w' : World} {t u : Trace} {G G' : Gho} {i : Nat} {x g g' : Goroutine} {es : Array Event} {k' : Kn} {RO' : Addr → Option Value} {r' : Rank} {np : Pk → Pk} {sl : Option (Nat × Nat)} {p : Pk}
/-! ### who waits where -/
theorem offers_none {y : Goroutine} (h : y.offers = none) (r : Nat) (b : Bool) : offersAt y r b = [] := by
  unfold offersAt
  rw [h]
  cases y.status <;> rfl
theorem MS.offersRecv (h : MS P W StopM x k' r' p) (c : Nat) : offersAt x c false = [] := by
  cases h with
  | run h a => exact offersAt_of_not_blocked (by rw [a.run]; simp) _ _
  | send h e => subst e; exact offersAt_parked_send' _ _ _ _ _ _
  | @sem hh g g' X q wg m b h e => subst e; exact offers_none (y := { g with status := .blocked }) h.offers _ _
theorem MS.offersSend (h : MS P W StopM x k' r' p) {c : Nat} (hc : p ≠ some (some c)) : offersAt x c true = [] := by
  cases h with
  | run h a => exact offersAt_of_not_blocked (by rw [a.run]; simp) _ _
  | @send hh g X q wg m s b z h e =>
    subst e
    rw [offersAt_parked_send, if_neg (fun e => hc (by rw [e]))]
  | @sem hh g g' X q wg m b h e => subst e; exact offers_none (y := { g with status := .blocked }) h.offers _ _
theorem WkS.offersSend {wg d : Nat} {RO : Addr → Option Value} (h : WkS P W StopW wg RO x k' w r' p d) (c : Nat) : offersAt x c true = [] := by
  cases h with
  | run h a => exact offersAt_of_not_blocked (by rw [a.run]; simp) _ _
  | pkE h e => subst e; exact offersAt_parked_recv' _ _ _ _ _
  | pkT h e => subst e; exact offersAt_parked_recv' _ _ _ _ _
  | pkQ h e => subst e; exact offersAt_parked_recv' _ _ _ _ _
  | dn hs h a1 a2 => exact offersAt_of_not_blocked (by rcases h.status with e | e <;> rw [e] <;> simp) _ _
  | qt h => exact offersAt_of_not_blocked (by rcases h.status with e | e <;> rw [e] <;> simp) _ _
theorem WkS.offersRecv {wg d : Nat} {RO : Addr → Option Value} (h : WkS P W StopW wg RO x k' w r' p d) (c : Nat) : offersAt x c false = [] ∧ p ≠ some (some c) ∨ (p = some (some c) ∧ offersAt x c false = [0] ∧ ∃ g z sh, x = parked g #[rcase c z] sh) := by
  cases h with
  | run h a => exact .inl ⟨offersAt_of_not_blocked (by rw [a.run]; simp) _ _, by simp⟩
  | @pkE hh g X q wg' left i j z h e =>
    subst e
    by_cases hc : X.ex j = c
    · subst hc; exact .inr ⟨rfl, by rw [offersAt_parked_recv, if_pos rfl], _, _, _, rfl⟩
    · exact .inl ⟨by rw [offersAt_parked_recv, if_neg hc], by simpa using hc⟩
  | @pkT hh g X q wg' left i z h e =>
    subst e
    by_cases hc : X.ex i = c
    · subst hc; exact .inr ⟨rfl, by rw [offersAt_parked_recv, if_pos rfl], _, _, _, rfl⟩
    · exact .inl ⟨by rw [offersAt_parked_recv, if_neg hc], by simpa using hc⟩
  | @pkQ hh g X q wg' left z h e =>
    subst e
    by_cases hc : q = c
    · subst hc; exact .inr ⟨rfl, by rw [offersAt_parked_recv, if_pos rfl], _, _, _, rfl⟩
    · exact .inl ⟨by rw [offersAt_parked_recv, if_neg hc], by simpa using hc⟩
  | dn hs h a1 a2 => exact .inl ⟨offersAt_of_not_blocked (by rcases h.status with e | e <;> rw [e] <;> simp) _ _, by simp⟩
  | qt h => exact .inl ⟨offersAt_of_not_blocked (by rcases h.status with e | e <;> rw [e] <;> simp) _ _, by simp⟩
/-- Nobody stands at a send there. -/
theorem Inv.noSend (h : Inv P W StopM StopW w0 n0 gs w t G) {c : Nat} (hc : i = 0 ∨ G.pk 0 ≠ some (some c)) : partners (gs.setIfInBounds i Go.Conc.ph) c true = [] := by
  refine partners_nil fun j y hy => ?_
  rcases getElem?_stand gs i j y hy with ⟨_, rfl⟩ | ⟨hne, hy⟩
  · exact offersAt_ph _ _
  · rcases Nat.eq_zero_or_pos j with rfl | hj
    · obtain ⟨z, hz, hs⟩ := h.main
      rw [hy] at hz; cases hz
      exact hs.offersSend (hc.resolve_left (fun e => hne e.symm))
    · obtain ⟨z, hz, hs⟩ := h.wk j hj (Array.getElem?_eq_some_iff.1 hy).1
      rw [hy] at hz; cases hz
      exact hs.offersSend c
/-- The main one alone stands at a send there. -/
theorem Inv.oneSend (h : Inv P W StopM StopW w0 n0 gs w t G) (hi : 1 ≤ i) {c : Nat} (hc : G.pk 0 = some (some c)) : ∃ (hh : Kn × Goroutine → Tree) (g : Goroutine) (X : RunC) (wg m s b : Nat) (z : Value),
    G.rk 0 = (9, .mk hh, 0) ∧ SendQF P (W.as true) (Ch P (W.as true) StopM hh) (G.K 1) g X c wg m s b z ∧ gs[0]? = some (parked g #[scase c (.int .i64 s) z] .send) ∧ partners (gs.setIfInBounds i Go.Conc.ph) c true = [(0, 0)] := by
  obtain ⟨y, hy, hs⟩ := h.main
  generalize hrk : G.rk 0 = r at hs
  rw [hc] at hs
  generalize hpp : (some (some c) : Pk) = p at hs
  cases hs with
  | run => cases hpp
  | sem => cases hpp
  | @send hh g X q wg m s b z hq e =>
    cases hpp
    subst e
    refine ⟨hh, g, X, wg, m, s, b, z, rfl, hq, hy, ?_⟩
    have hy' : (gs.setIfInBounds i Go.Conc.ph)[0]? = some (parked g #[scase c (.int .i64 s) z] .send) := stand_get (by omega) hy
    rw [partners_one hy' fun j z' hj hz' => ?_, offersAt_parked_send, if_pos rfl]
    · rfl
    · rcases getElem?_stand gs i j z' hz' with ⟨_, rfl⟩ | ⟨hne, hz'⟩
      · exact offersAt_ph _ _
      · obtain ⟨z2, hz2, hs2⟩ := h.wk j (by omega) (Array.getElem?_eq_some_iff.1 hz').1
        rw [hz'] at hz2; cases hz2
        exact hs2.offersSend c
/-- Who stands at a receive there. -/
theorem Inv.recvs (h : Inv P W StopM StopW w0 n0 gs w t G) (c : Nat) : (partners (gs.setIfInBounds 0 Go.Conc.ph) c false = [] ∧ ∀ j, 1 ≤ j → j < gs.size → G.pk j ≠ some (some c)) ∨
    (partners (gs.setIfInBounds 0 Go.Conc.ph) c false ≠ [] ∧ ∀ j k, (j, k) ∈ partners (gs.setIfInBounds 0 Go.Conc.ph) c false → k = 0 ∧ j ≠ 0 ∧ ∃ gj zj shj, gs[j]? = some (parked gj #[rcase c zj] shj)) := by
  have key : ∀ j k, (j, k) ∈ partners (gs.setIfInBounds 0 Go.Conc.ph) c false → k = 0 ∧ j ≠ 0 ∧ ∃ gj zj shj, gs[j]? = some (parked gj #[rcase c zj] shj) := by
    intro j k hm
    obtain ⟨y, hy, hk⟩ := mem_partners.1 hm
    rcases getElem?_stand gs 0 j y hy with ⟨_, rfl⟩ | ⟨hne, hy⟩
    · rw [offersAt_ph] at hk; cases hk
    · obtain ⟨z, hz, hs⟩ := h.wk j (by omega) (Array.getElem?_eq_some_iff.1 hy).1
      rw [hy] at hz; cases hz
      rcases hs.offersRecv c with ⟨h1, _⟩ | ⟨_, h1, g, z, sh, e⟩
      · rw [h1] at hk; cases hk
      · rw [h1] at hk
        simp only [List.mem_singleton] at hk
        subst e
        exact ⟨hk, hne, g, z, sh, hy⟩
  by_cases hnil : partners (gs.setIfInBounds 0 Go.Conc.ph) c false = []
  · refine .inl ⟨hnil, fun j h1 h2 hp => ?_⟩
    obtain ⟨y, hy, hs⟩ := h.wk j h1 h2
    rcases hs.offersRecv c with ⟨_, h3⟩ | ⟨_, h3, _⟩
    · exact h3 hp
    · have : (j, 0) ∈ partners (gs.setIfInBounds 0 Go.Conc.ph) c false := mem_partners.2 ⟨y, stand_get (by omega) hy, by rw [h3]; simp⟩
      rw [hnil] at this; cases this
  · exact .inr ⟨hnil, key⟩
/-! ### a new view -/
theorem Inv.viewTurn (h : Inv P W StopM StopW w0 n0 gs w t G) (hi : i < gs.size) (ht : (G.K (i + 1)).Turn k') (h9 : (G.rk i).1 = 9) (hp : G.pk i = none) (hr : r'.1 = 9)
    (hme0 : i = 0 → ∃ x, gs[0]? = some x ∧ MS P W StopM x k' r' none) (hmeW : 1 ≤ i → ∃ x, gs[i]? = some x ∧ WkS P W StopW G.wg (roAnd G.RO k'.ro) x k' w r' none k'.deaf) (hd : 1 ≤ i → Deaf t i = k'.deaf) :
    Inv P W StopM StopW w0 n0 gs w t (G.turn i k' (roAnd G.RO k'.ro) r' id) := by
  have m := ht.mv (h.hp.sat (i + 1))
  obtain ⟨hH, _⟩ := h.hp.mv m
  have hview : (G.turn i k' (roAnd G.RO k'.ro) r' id).view gs.size w t = (G.view gs.size w t).next (roAnd G.RO k'.ro) (fun j => if j = i then none else id (G.pk j)) (fun b => w.heap[b]?) #[] := by
    have := Gho.turn_next (G := G) (i := i) (k' := k') (RO' := roAnd G.RO k'.ro) (r' := r') (np := id) (w := w) (w' := w) (t := t) (u := #[]) (N := gs.size) h9 hr (fun e => by subst e; exact ht.live) ht.gh
    rw [Array.append_empty] at this
    exact this
  have hc : ∀ j, Cov (t ++ #[]) (Knows (t ++ #[]) j) (G.K (j + 1)) := fun j => by rw [Array.append_empty]; exact h.cov j
  refine ⟨h.N1, hH, h.tb, fun j => ?_, ?_, ?_, fun j h1 h2 => ?_, ?_, fun j h1 h2 => ?_, fun j h1 => ?_, fun j h1 => ?_, fun j h1 h2 c hc => ?_, fun j h1 => ?_, ?_, h.os, h.tape, h.output, h.old⟩
  · by_cases e : j = i
    · subst e
      rw [Gho.turn_K]
      have := Cov.self (u := #[]) h.hp h.tb (h.cov j) (fun op ho => by simp at ho) m
      rwa [Array.append_empty] at this
    · rw [Gho.turn_Kne (by omega)]; exact h.cov j
  · rw [Gho.turn_Kne (by omega)]; exact h.cov0
  · by_cases e : i = 0
    · subst e
      obtain ⟨x, hx, hs⟩ := hme0 rfl
      exact ⟨x, hx, by rw [Gho.turn_K, Gho.turn_rk, Gho.turn_pk]; exact hs⟩
    · obtain ⟨x, hx, hs⟩ := h.main
      obtain ⟨e1, e2, e3, _⟩ := Gho.turn_oth (G := G) (i := i) (k' := k') (RO' := roAnd G.RO k'.ro) (r' := r') (np := id) (j := 0) (Ne.symm e)
      exact ⟨x, hx, by rw [e1, e2, e3]; exact hs⟩
  · by_cases e : j = i
    · subst e
      obtain ⟨x, hx, hs⟩ := hmeW h1
      exact ⟨x, hx, by rw [Gho.turn_K, Gho.turn_rk, Gho.turn_pk, Gho.turn_dd]; exact hs⟩
    · obtain ⟨x, hx, hs⟩ := h.wk j h1 h2
      obtain ⟨e1, e2, e3, e4⟩ := Gho.turn_oth (G := G) (i := i) (k' := k') (RO' := roAnd G.RO k'.ro) (r' := r') (np := id) e
      exact ⟨x, hx, by rw [e1, e2, e3, e4]; exact hs.rely (rel0_heap h.hp.rosat rfl) (fun _ _ => id) fun a v hv => roAnd_le hv⟩
  · by_cases e : i = 0
    · subst e; rw [Gho.turn_K, h.deaf0]; exact ht.deaf.symm
    · rw [Gho.turn_Kne (by omega)]; exact h.deaf0
  · by_cases e : j = i
    · subst e; rw [Gho.turn_dd]; exact hd h1
    · rw [(Gho.turn_oth e).2.2.2]; exact h.deafW j h1 h2
  · by_cases e : j = i
    · subst e; rw [Gho.turn_K, ht.live]; exact h.live j h1
    · rw [Gho.turn_Kne (by omega)]; exact h.live j h1
  · rw [Gho.turn_Kne (by omega)]; exact h.out j h1
  · by_cases e : j = i
    · subst e; rw [Gho.turn_pk] at hc; cases hc
    · rw [(Gho.turn_oth e).2.2.1] at hc; exact h.opn j h1 h2 c hc
  · rw [(Gho.turn_oth (by omega)).2.2.1]; exact h.pko j h1
  · rw [hview]
    refine h.ph.gr (Gr.mute (fun op ho => by simp at ho) (fun op ho => by simp at ho) (fun op ho => by simp at ho)) (fun a v hv => roAnd_le hv) (fun j => .inl ?_) fun _ _ => rfl
    by_cases e : j = i
    · subst e; rw [if_pos rfl]; exact hp.symm
    · rw [if_neg e]; rfl
/-! ### somebody waits -/
theorem fl_park {pk : Nat → Pk} {N : Nat} (hi : i < N) (hp : pk i = none) (p : Option Nat) : fl (upd pk i (some p)) N < fl pk N := by
  have h := sumTo_upd pk (some p : Pk) (fun q => if q = none then 1 else 0) hi
  rw [hp] at h
  simp only [if_true, reduceCtorEq, if_false] at h
  unfold fl
  omega
theorem Inv.park (h : Inv P W StopM StopW w0 n0 gs w t G) (hi : i < gs.size) {p : Option Nat} {y : Goroutine} (hme0 : i = 0 → MS P W StopM y (G.K 1) (G.rk 0) (some p)) (hmeW : 1 ≤ i → ∃ c, p = some c ∧ closedAt w c = false ∧ WkS P W StopW G.wg G.RO y (G.K (i + 1)) w (G.rk i) (some p) (G.dd i))
    (hph : Phase W { (G.view gs.size w t) with pk := upd G.pk i (some p) }) : Inv P W StopM StopW w0 n0 (gs.setIfInBounds i y) w t { G with pk := upd G.pk i (some p) } := by
  have hsz : (gs.setIfInBounds i y).size = gs.size := by simp
  have hget : ∀ j, j ≠ i → (gs.setIfInBounds i y)[j]? = gs[j]? := fun j hj => Array.getElem?_setIfInBounds_ne (Ne.symm hj)
  have hgi : (gs.setIfInBounds i y)[i]? = some y := Array.getElem?_setIfInBounds_self_of_lt hi
  refine ⟨by rw [hsz]; exact h.N1, h.hp, by rw [hsz]; exact h.tb, h.cov, h.cov0, ?_, fun j h1 h2 => ?_, h.deaf0, fun j h1 h2 => h.deafW j h1 (by rw [hsz] at h2; exact h2), h.live, fun j h1 => h.out j (by rw [hsz] at h1; exact h1), fun j h1 h2 c hc => ?_, fun j h1 => ?_, by rw [hsz]; exact hph, h.os, h.tape, h.output, h.old⟩
  · by_cases e : i = 0
    · subst e; exact ⟨y, hgi, by show MS _ _ _ _ _ _ (upd G.pk 0 (some p) 0); rw [upd_same]; exact hme0 rfl⟩
    · obtain ⟨x, hx, hs⟩ := h.main
      exact ⟨x, (hget 0 (Ne.symm e)).trans hx, by show MS _ _ _ _ _ _ (upd G.pk i (some p) 0); rw [upd_ne _ _ (Ne.symm e)]; exact hs⟩
  · rw [hsz] at h2
    by_cases e : j = i
    · subst e
      obtain ⟨c, _, _, hs⟩ := hmeW h1
      exact ⟨y, hgi, by show WkS _ _ _ _ _ _ _ _ _ (upd G.pk j (some p) j) _; rw [upd_same]; exact hs⟩
    · obtain ⟨x, hx, hs⟩ := h.wk j h1 h2
      exact ⟨x, (hget j e).trans hx, by show WkS _ _ _ _ _ _ _ _ _ (upd G.pk i (some p) j) _; rw [upd_ne _ _ e]; exact hs⟩
  · rw [hsz] at h2
    have hc' : upd G.pk i (some p) j = some (some c) := hc
    by_cases e : j = i
    · subst e
      obtain ⟨c', e1, e2, _⟩ := hmeW h1
      rw [upd_same, e1] at hc'
      cases hc'
      exact e2
    · rw [upd_ne _ _ e] at hc'; exact h.opn j h1 h2 c hc'
  · rw [hsz] at h1
    show upd G.pk i (some p) j = none
    rw [upd_ne _ _ (by omega)]; exact h.pko j h1
theorem Inv.parked (h : Inv P W StopM StopW w0 n0 gs w t G) {p : Option Nat} {y : Goroutine} {ops : Array MemOp} (hi : i < gs.size) (hp : G.pk i = none) (hrun : runT P (crowd gs w sl) i = (.next (crowd (gs.setIfInBounds i y) w sl), ops)) (ho : ops = #[])
    (hI : Inv P W StopM StopW w0 n0 (gs.setIfInBounds i y) w t { G with pk := upd G.pk i (some p) }) : NextOk P W StopM StopW w0 n0 (crowd gs w sl) t (mu G gs.size) i := by
  subst ho
  refine ⟨_, _, mu { G with pk := upd G.pk i (some p) } gs.size, hrun, Mu.flag (fl_park hi hp p), _, w, sl, { G with pk := upd G.pk i (some p) }, rfl, by rw [Array.append_empty]; exact hI, ?_⟩
  simp
/-- A communication that is served: one alone turns. -/
theorem Inv.servedW (h : Inv P W StopM StopW w0 n0 gs w t G) (hi : 1 ≤ i) (hi' : i < gs.size) {y : Goroutine} {ops : Array MemOp} (hrun : runT P (crowd gs w sl) i = (.next (crowd (gs.setIfInBounds i y) w' sl), ops)) (hk : GoOk P W n0 w0 gs w w' t ops G G' i id)
    (hme : WkS P W StopW G'.wg G'.RO y (G'.K (i + 1)) w' (G'.rk i) (G'.pk i) (G'.dd i)) (hdf : Deaf (t ++ ops) i = G'.dd i) (hlv : (G'.K (i + 1)).live = none) (hlt : Rank.Lt (G'.rk i) (G.rk i)) :
    NextOk P W StopM StopW w0 n0 (crowd gs w sl) t (mu G gs.size) i := by
  have := h.goW (f := id) .id hi hi' hk hme hdf hlv
  rw [Array.map_id] at this
  refine ⟨_, _, _, hrun, ?_, _, w', sl, G', rfl, this, rfl⟩
  have hsz : (gs.setIfInBounds i y).size = gs.size := by simp
  rw [hsz]
  refine mu_lt (by rw [(hk.oth 0 (by omega)).1]) (fun j hj => ?_) hi' hlt
  by_cases e : j = i
  · subst e; exact .inr hlt
  · exact .inl (hk.oth j e).2.1
end
end Go.Proofs.Ytacfhfeegalmlaa
