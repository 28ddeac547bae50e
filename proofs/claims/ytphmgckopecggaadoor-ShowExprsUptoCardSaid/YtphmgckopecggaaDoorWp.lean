/- The evaluator, item by item: what is still to be run is a plain list, so that rewriting steps through code. -/
import Derived.Test.YtphmgckopecggaaDoorMono
namespace Go.Ev

inductive Item where
  | st (c : CStep)
  | cd (c : CCode)
  | blk (id : Nat)
  | lp (b : CCode)

section
variable (call : CallF) (fuel : Nat)

def evX : List Item → Ex → St → Option (Ex × St)
  | [], e, s => some (e, s)
  | .blk i :: r, .exit j, s => if j = i then evX r .normal s else evX r (.exit j) s
  | .st _ :: r, .exit j, s => evX r (.exit j) s
  | .cd _ :: r, .exit j, s => evX r (.exit j) s
  | .lp _ :: r, .exit j, s => evX r (.exit j) s
  | _ :: r, .ret, s => evX r .ret s
  | .blk _ :: r, .normal, s => evX r .normal s
  | .st c :: r, .normal, s =>
    match evStep call c s with
    | some s' => evX r .normal s'
    | none => none
  | .cd c :: r, .normal, s =>
    match evC call fuel c s with
    | some (e, s') => evX r e s'
    | none => none
  | .lp b :: r, .normal, s =>
    match evC call fuel (.loop b) s with
    | some (e, s') => evX r e s'
    | none => none
end

theorem evX_mono {c c' : CallF} (h : CallLe c c') {n m : Nat} (hl : n ≤ m) : ∀ {l : List Item} {e : Ex} {s : St} {r : Ex × St}, evX c n l e s = some r → evX c' m l e s = some r
  | [], _, _, _, hr => hr
  | .blk i :: l, .exit j, s, r, hr => by
    simp only [evX] at hr ⊢
    split at hr
    · rename_i hj; rw [if_pos hj]; exact evX_mono h hl hr
    · rename_i hj; rw [if_neg hj]; exact evX_mono h hl hr
  | .st _ :: l, .exit j, s, r, hr => evX_mono h hl (l := l) (e := .exit j) hr
  | .cd _ :: l, .exit j, s, r, hr => evX_mono h hl (l := l) (e := .exit j) hr
  | .lp _ :: l, .exit j, s, r, hr => evX_mono h hl (l := l) (e := .exit j) hr
  | .blk _ :: l, .ret, s, r, hr => evX_mono h hl (l := l) (e := .ret) hr
  | .st _ :: l, .ret, s, r, hr => evX_mono h hl (l := l) (e := .ret) hr
  | .cd _ :: l, .ret, s, r, hr => evX_mono h hl (l := l) (e := .ret) hr
  | .lp _ :: l, .ret, s, r, hr => evX_mono h hl (l := l) (e := .ret) hr
  | .blk _ :: l, .normal, s, r, hr => evX_mono h hl (l := l) (e := .normal) hr
  | .st x :: l, .normal, s, r, hr => by
    simp only [evX] at hr ⊢
    cases h1 : evStep c x s with
    | none => simp [h1] at hr
    | some y => rw [evStep_mono h h1]; rw [h1] at hr; exact evX_mono h hl hr
  | .cd x :: l, .normal, s, r, hr => by
    simp only [evX] at hr ⊢
    cases h1 : evC c n x s with
    | none => simp [h1] at hr
    | some y => rw [evC_mono h hl h1]; rw [h1] at hr; exact evX_mono h hl hr
  | .lp x :: l, .normal, s, r, hr => by
    simp only [evX] at hr ⊢
    cases h1 : evC c n (.loop x) s with
    | none => simp [h1] at hr
    | some y => rw [evC_mono h hl h1]; rw [h1] at hr; exact evX_mono h hl hr

abbrev Qt := Ex → (Nat → Val) → Hp → Prop

section
variable (F : FuncId → Option CFn) (H : FuncId → Option Hook)

/-- All items run, and what holds behind them. -/
def RX (l : List Item) (e : Ex) (t : Nat → Val) (σ : Hp) (Q : Qt) : Prop := ∃ n e' t' σ', evX (EvO F H) n l e (t, σ) = some (e', (t', σ')) ∧ Q e' t' σ'

def R (l : List Item) (t : Nat → Val) (σ : Hp) (Q : Qt) : Prop := RX F H l .normal t σ Q

/-- A step's value, and on. -/
def RV (o : Option (Val × Hp)) (d : Option Nat) (r : List Item) (t : Nat → Val) (Q : Qt) : Prop :=
  ∃ v σ, o = some (v, σ) ∧ R F H r (updO t d v) σ Q

/-- A test, and on. -/
def RB (v : Val) (a b : CCode) (r : List Item) (t : Nat → Val) (σ : Hp) (Q : Qt) : Prop :=
  ∃ p, v = .bool p ∧ (if p = true then R F H (.cd a :: r) t σ Q else R F H (.cd b :: r) t σ Q)

/-- A guard, and on. -/
def RG (v : Val) (want : Bool) (op : COp) (d : Option Nat) (r : List Item) (t : Nat → Val) (σ : Hp) (Q : Qt) : Prop :=
  ∃ p, v = .bool p ∧ (if p = want then RV F H (evOp (EvO F H) op (t, σ)) d r t Q else R F H r (updO t d .undef) σ Q)

/-- A region whose order is open, step by step: K takes the values and the effects' objects. -/
def RD (base : Nat) (ds : List DStep) (t : Nat → Val) (σ : Hp) (K : List Val → List Hp → Prop) : Prop := ∃ vs hs, evD (EvO F H) base ds (t, σ) = some (vs, hs) ∧ K vs hs

def RDV (base : Nat) (o : Option (Val × Hp)) (d : Option Nat) (eff : Bool) (r : List DStep) (t : Nat → Val) (K : List Val → List Hp → Prop) : Prop :=
  ∃ v σ, o = some (v, σ) ∧ RD F H base r (updO t d v) σ (fun vs hs => K (v :: vs) (if eff then σ :: hs else hs))
end

section
variable {F : FuncId → Option CFn} {H : FuncId → Option Hook} {r : List Item} {t : Nat → Val} {σ : Hp} {Q : Qt}

theorem RX_nil {e : Ex} : RX F H [] e t σ Q ↔ Q e t σ := by
  constructor
  · rintro ⟨n, e, t', σ', h, hq⟩
    simp only [evX, Option.some.injEq, Prod.mk.injEq] at h
    obtain ⟨rfl, rfl, rfl⟩ := h
    exact hq
  · exact fun h => ⟨0, _, _, _, rfl, h⟩

theorem R_nil : R F H [] t σ Q ↔ Q .normal t σ := RX_nil

theorem RX_ret : RX F H r .ret t σ Q ↔ Q .ret t σ := by
  induction r with
  | nil => exact RX_nil
  | cons x r ih => exact Iff.trans (by cases x <;> rfl) ih

theorem RX_st {c : CStep} {j : Nat} : RX F H (.st c :: r) (.exit j) t σ Q ↔ RX F H r (.exit j) t σ Q := Iff.rfl
theorem RX_cd {c : CCode} {j : Nat} : RX F H (.cd c :: r) (.exit j) t σ Q ↔ RX F H r (.exit j) t σ Q := Iff.rfl
theorem RX_lp {c : CCode} {j : Nat} : RX F H (.lp c :: r) (.exit j) t σ Q ↔ RX F H r (.exit j) t σ Q := Iff.rfl
theorem RX_blk {i j : Nat} : RX F H (.blk i :: r) (.exit j) t σ Q ↔ if j = i then R F H r t σ Q else RX F H r (.exit j) t σ Q := by
  unfold R RX
  simp only [evX]
  split <;> rfl
theorem R_blk {i : Nat} : R F H (.blk i :: r) t σ Q ↔ R F H r t σ Q := Iff.rfl
theorem R_ret : R F H (.cd .ret :: r) t σ Q ↔ Q .ret t σ :=
  Iff.trans (show RX F H (.cd .ret :: r) .normal t σ Q ↔ RX F H r .ret t σ Q from Iff.rfl) RX_ret
theorem R_exit {j : Nat} : R F H (.cd (.exit j) :: r) t σ Q ↔ RX F H r (.exit j) t σ Q := Iff.rfl
theorem R_skip : R F H (.cd .skip :: r) t σ Q ↔ R F H r t σ Q := Iff.rfl

theorem R_congr {l l' : List Item} {t t' : Nat → Val} {σ σ' : Hp} (h : ∀ n, evX (EvO F H) n l .normal (t, σ) = evX (EvO F H) n l' .normal (t', σ')) : R F H l t σ Q ↔ R F H l' t' σ' Q := by
  unfold R RX
  constructor
  · rintro ⟨n, e, t', σ', h1, hq⟩; exact ⟨n, e, t', σ', (h n).symm.trans h1, hq⟩
  · rintro ⟨n, e, t', σ', h1, hq⟩; exact ⟨n, e, t', σ', (h n).trans h1, hq⟩

theorem R_seq {a b : CCode} : R F H (.cd (.seq a b) :: r) t σ Q ↔ R F H (.cd a :: .cd b :: r) t σ Q := by
  refine R_congr fun n => ?_
  simp only [evX, evC]
  cases h : evC (EvO F H) n a (t, σ) with
  | none => rfl
  | some x => obtain ⟨e, s⟩ := x; cases e <;> simp [evX]

theorem R_block {i : Nat} {b : CCode} : R F H (.cd (.block i b) :: r) t σ Q ↔ R F H (.cd b :: .blk i :: r) t σ Q := by
  refine R_congr fun n => ?_
  simp only [evX, evC]
  cases h : evC (EvO F H) n b (t, σ) with
  | none => rfl
  | some x =>
    obtain ⟨e, s⟩ := x
    cases e with
    | exit j => by_cases hj : j = i <;> simp [evX, hj]
    | _ => rfl

theorem evX_steps {call : CallF} {fuel : Nat} {r : List Item} : ∀ (ss : List CStep) (s : St), evX call fuel (ss.map .st ++ r) .normal s = match evSteps call ss s with | some s' => evX call fuel r .normal s' | none => none
  | [], s => rfl
  | c :: ss, s => by
    simp only [List.map_cons, List.cons_append, evX, evSteps]
    cases evStep call c s with
    | none => rfl
    | some s' => exact evX_steps ss s'

theorem R_region {ss : List CStep} : R F H (.cd (.region ss) :: r) t σ Q ↔ R F H (ss.map .st ++ r) t σ Q := by
  refine R_congr fun n => ?_
  rw [evX_steps]
  simp only [evX, evC]
  cases evSteps (EvO F H) ss (t, σ) <;> rfl

/-- A region's steps, one by one (so that rewriting need not map them all at once). -/
theorem R_region_nil : R F H (.cd (.region []) :: r) t σ Q ↔ R F H r t σ Q := R_region
theorem R_region_cons {c : CStep} {ss : List CStep} : R F H (.cd (.region (c :: ss)) :: r) t σ Q ↔ R F H (.st c :: .cd (.region ss) :: r) t σ Q := by
  refine R_congr fun n => ?_
  simp only [evX, evC, evSteps]
  cases evStep (EvO F H) c (t, σ) with
  | none => rfl
  | some s1 => simp only

theorem R_cond {c : CO} {a b : CCode} : R F H (.cd (.cond c a b) :: r) t σ Q ↔ RB F H (c.ev t) a b r t σ Q := by
  constructor
  · rintro ⟨n, e, t', σ', h, hq⟩
    simp only [evX, evC] at h
    split at h
    · rename_i x e1 s1 h1
      split at h1
      · rename_i hc
        exact ⟨true, hc, by rw [if_pos rfl]; exact ⟨n, e, t', σ', by simp only [evX, h1]; exact h, hq⟩⟩
      · rename_i hc
        exact ⟨false, hc, by rw [if_neg (by simp)]; exact ⟨n, e, t', σ', by simp only [evX, h1]; exact h, hq⟩⟩
      · cases h1
    · cases h
  · rintro ⟨p, hp, h⟩
    cases p
    · rw [if_neg (by simp)] at h
      obtain ⟨n, e, t', σ', h, hq⟩ := h
      exact ⟨n, e, t', σ', by simpa only [evX, evC, hp] using h, hq⟩
    · rw [if_pos rfl] at h
      obtain ⟨n, e, t', σ', h, hq⟩ := h
      exact ⟨n, e, t', σ', by simpa only [evX, evC, hp] using h, hq⟩

theorem RB_true {a b : CCode} : RB F H (.bool true) a b r t σ Q ↔ R F H (.cd a :: r) t σ Q := by
  constructor
  · rintro ⟨q, hq, h⟩
    simp only [Val.bool.injEq] at hq
    subst hq
    simpa using h
  · exact fun h => ⟨true, rfl, by simpa using h⟩
theorem RB_false {a b : CCode} : RB F H (.bool false) a b r t σ Q ↔ R F H (.cd b :: r) t σ Q := by
  constructor
  · rintro ⟨q, hq, h⟩
    simp only [Val.bool.injEq] at hq
    subst hq
    simpa using h
  · exact fun h => ⟨false, rfl, by simpa using h⟩
theorem RB_bool {p : Bool} {a b : CCode} : RB F H (.bool p) a b r t σ Q ↔ if p = true then R F H (.cd a :: r) t σ Q else R F H (.cd b :: r) t σ Q := by
  cases p
  · simp [RB_false]
  · simp [RB_true]

theorem R_st {d : Option Nat} {op : COp} : R F H (.st ⟨d, none, op⟩ :: r) t σ Q ↔ RV F H (evOp (EvO F H) op (t, σ)) d r t Q := by
  constructor
  · rintro ⟨n, e, t', σ', h, hq⟩
    simp only [evX, evStep] at h
    cases ho : evOp (EvO F H) op (t, σ) with
    | none => rw [ho] at h; cases h
    | some x =>
      rw [ho] at h
      exact ⟨x.1, x.2, rfl, n, e, t', σ', h, hq⟩
  · rintro ⟨v, σ1, ho, n, e, t', σ', h, hq⟩
    exact ⟨n, e, t', σ', by simp only [evX, evStep, ho]; exact h, hq⟩

theorem RV_some {v : Val} {d : Option Nat} : RV F H (some (v, σ)) d r t Q ↔ R F H r (updO t d v) σ Q := by
  constructor
  · rintro ⟨v', σ', h, hr⟩
    simp only [Option.some.injEq, Prod.mk.injEq] at h
    obtain ⟨rfl, rfl⟩ := h
    exact hr
  · exact fun h => ⟨v, σ, rfl, h⟩
theorem RV_to {v : Val} {i : Nat} : RV F H (some (v, σ)) (some i) r t Q ↔ R F H r (upd t i v) σ Q := RV_some
theorem RV_no {v : Val} : RV F H (some (v, σ)) none r t Q ↔ R F H r t σ Q := RV_some

theorem R_stG {d : Option Nat} {j : Nat} {want : Bool} {op : COp} : R F H (.st ⟨d, some (j, want), op⟩ :: r) t σ Q ↔ RG F H (t j) want op d r t σ Q := by
  constructor
  · rintro ⟨n, e, t', σ', h, hq⟩
    simp only [evX, evStep] at h
    cases hj : t j with
    | bool p =>
      refine ⟨p, rfl, ?_⟩
      simp only [hj] at h
      by_cases hp : p = want
      · rw [if_pos hp] at h ⊢
        cases ho : evOp (EvO F H) op (t, σ) with
        | none => rw [ho] at h; cases h
        | some x =>
          rw [ho] at h
          exact ⟨x.1, x.2, rfl, n, e, t', σ', h, hq⟩
      · rw [if_neg hp] at h ⊢
        exact ⟨n, e, t', σ', h, hq⟩
    | _ => simp [hj] at h
  · rintro ⟨p, hp, h⟩
    by_cases hw : p = want
    · rw [if_pos hw] at h
      obtain ⟨v, σ1, ho, n, e, t', σ', h, hq⟩ := h
      exact ⟨n, e, t', σ', by simp only [evX, evStep, hp, if_pos hw, ho]; exact h, hq⟩
    · rw [if_neg hw] at h
      obtain ⟨n, e, t', σ', h, hq⟩ := h
      exact ⟨n, e, t', σ', by simp only [evX, evStep, hp, if_neg hw]; exact h, hq⟩

theorem RG_bool {p want : Bool} {op : COp} {d : Option Nat} : RG F H (.bool p) want op d r t σ Q ↔ if p = want then RV F H (evOp (EvO F H) op (t, σ)) d r t Q else R F H r (updO t d .undef) σ Q := by
  constructor
  · rintro ⟨q, hq, h⟩
    simp only [Val.bool.injEq] at hq
    subst hq
    exact h
  · exact fun h => ⟨p, rfl, h⟩

theorem R_regionD {news : List (List Val)} {ds : List DStep} : R F H (.cd (.regionD news ds) :: r) t σ Q ↔
    RD F H σ.length ds t (σ ++ news.map .cells) (fun vs hs => readsOk ((σ ++ news.map .cells) :: hs) ds vs t = true ∧ R F H r (endT ds vs t) (lastD (σ ++ news.map .cells) hs) Q) := by
  constructor
  · rintro ⟨n, e, t', σ', h, hq⟩
    simp only [evX, evC, evRegionD] at h
    cases h1 : evD (EvO F H) σ.length ds (t, σ ++ news.map .cells) with
    | none => simp [h1] at h
    | some y =>
      simp only [h1] at h
      by_cases h2 : readsOk ((σ ++ news.map .cells) :: y.2) ds y.1 t = true
      · simp only [h2, if_true] at h
        exact ⟨y.1, y.2, h1, h2, n, e, t', σ', h, hq⟩
      · simp only [h2] at h
        cases h
  · rintro ⟨vs, hs, h1, h2, n, e, t', σ', h, hq⟩
    refine ⟨n, e, t', σ', ?_, hq⟩
    simp only [evX, evC, evRegionD, h1, h2, if_true]
    exact h

theorem RD_nil {base : Nat} {K : List Val → List Hp → Prop} : RD F H base [] t σ K ↔ K [] [] := by
  constructor
  · rintro ⟨vs, hs, h, hk⟩
    simp only [evD, Option.some.injEq, Prod.mk.injEq] at h
    obtain ⟨rfl, rfl⟩ := h
    exact hk
  · exact fun h => ⟨[], [], rfl, h⟩

theorem RD_cons {base : Nat} {d : DStep} {ds : List DStep} {K : List Val → List Hp → Prop} : RD F H base (d :: ds) t σ K ↔ RDV F H base (evDStep (EvO F H) base d (t, σ)) d.dst d.kind.isEff ds t K := by
  constructor
  · rintro ⟨vs, hs, h, hk⟩
    simp only [evD] at h
    cases h1 : evDStep (EvO F H) base d (t, σ) with
    | none => simp [h1] at h
    | some y =>
      simp only [h1] at h
      cases h2 : evD (EvO F H) base ds (updO t d.dst y.1, y.2) with
      | none => simp [h2] at h
      | some z =>
        simp only [h2, Option.some.injEq, Prod.mk.injEq] at h
        obtain ⟨rfl, rfl⟩ := h
        exact ⟨y.1, y.2, rfl, z.1, z.2, h2, hk⟩
  · rintro ⟨v, σ', h1, vs, hs, h2, hk⟩
    exact ⟨_, _, by simp only [evD, h1, h2], hk⟩

theorem RDV_some {base : Nat} {v : Val} {d : Option Nat} {eff : Bool} {ds : List DStep} {K : List Val → List Hp → Prop} :
    RDV F H base (some (v, σ)) d eff ds t K ↔ RD F H base ds (updO t d v) σ (fun vs hs => K (v :: vs) (if eff then σ :: hs else hs)) := by
  constructor
  · rintro ⟨v', σ', h, hr⟩
    simp only [Option.some.injEq, Prod.mk.injEq] at h
    obtain ⟨rfl, rfl⟩ := h
    exact hr
  · exact fun h => ⟨v, σ, rfl, h⟩

theorem R_lp {b : CCode} : R F H (.lp b :: r) t σ Q ↔ R F H (.cd (.loop b) :: r) t σ Q := Iff.rfl

/-- Once more round. -/
theorem R_again {b : CCode} (h : R F H (.cd b :: .lp b :: r) t σ Q) : R F H (.cd (.loop b) :: r) t σ Q := by
  obtain ⟨n, e, t', σ', h, hq⟩ := h
  refine ⟨n + 1, e, t', σ', ?_, hq⟩
  simp only [evX] at h ⊢
  cases h1 : evC (EvO F H) n b (t, σ) with
  | none => simp [h1] at h
  | some y =>
    obtain ⟨e1, s1⟩ := y
    simp only [h1] at h
    have h1' := evC_mono (c := EvO F H) (c' := EvO F H) (fun _ _ _ _ h => h) (Nat.le_succ n) h1
    simp only [evC, iter, h1']
    cases e1 with
    | normal =>
      simp only [evC] at h ⊢
      simp only [evX, evC] at h
      cases h2 : iter (evC (EvO F H) n b) n s1 with
      | none => simp [h2] at h
      | some z =>
        rw [iter_mono (fun s r hr => evC_mono (fun _ _ _ _ h => h) (Nat.le_succ n) hr) (Nat.le_refl n) h2]
        simp only [h2] at h
        exact evX_mono (fun _ _ _ _ h => h) (Nat.le_succ n) h
    | exit j =>
      simp only [evX] at h ⊢
      exact evX_mono (fun _ _ _ _ h => h) (Nat.le_succ n) h
    | ret =>
      simp only [evX] at h ⊢
      exact evX_mono (fun _ _ _ _ h => h) (Nat.le_succ n) h

/-- A loop with a measure. -/
theorem R_loop {b : CCode} (I : Nat → (Nat → Val) → Hp → Prop)
    (hs : ∀ k t σ, (∀ k' t' σ', k' < k → I k' t' σ' → R F H (.lp b :: r) t' σ' Q) → I k t σ → R F H (.cd b :: .lp b :: r) t σ Q) {k : Nat} (h0 : I k t σ) : R F H (.cd (.loop b) :: r) t σ Q := by
  induction k using Nat.strongRecOn generalizing t σ with
  | ind k ih => exact R_again (hs k t σ (fun k' t' σ' hk hi => ih k' hk hi) h0)

/-- What holds behind a body. -/
def Fin (rs : List CRes) (K : Val → Hp → Prop) : Qt := fun e t σ => (e = .normal ∨ e = .ret) ∧ ∃ vs, evRess t σ rs = some vs ∧ K (oneOr vs) σ

theorem Fin_ret {rs : List CRes} {K : Val → Hp → Prop} : Fin rs K .ret t σ ↔ ∃ vs, evRess t σ rs = some vs ∧ K (oneOr vs) σ := by simp [Fin]
theorem Fin_normal {rs : List CRes} {K : Val → Hp → Prop} : Fin rs K .normal t σ ↔ ∃ vs, evRess t σ rs = some vs ∧ K (oneOr vs) σ := by simp [Fin]

theorem R_mono {l : List Item} {Q' : Qt} (h : R F H l t σ Q) (k : ∀ e t σ, Q e t σ → Q' e t σ) : R F H l t σ Q' := by
  obtain ⟨n, e, t', σ', h, hq⟩ := h
  exact ⟨n, e, t', σ', h, k _ _ _ hq⟩

theorem call_body {g : FuncId} {cf : CFn} (hH : H g = none) (hF : F g = some cf) (hp : cf.pure = false) {args : List Val} {K : Val → Hp → Prop} (hl : args.length ≤ cf.ntmps)
    (h : R F H [.cd cf.body] (argT args) σ (Fin cf.results K)) : ∃ v σ', EvO F H g args σ = some (v, σ') ∧ K v σ' := by
  obtain ⟨n, e, t', σ', h, he, vs, hvs, hk⟩ := h
  refine ⟨oneOr vs, σ', EvO_of_body hH hF hp (n := n) ?_, hk⟩
  simp only [evX] at h
  unfold runBody
  rw [if_pos hl]
  cases h1 : evC (EvO F H) n cf.body (argT args, σ) with
  | none => simp [h1] at h
  | some y =>
    obtain ⟨e1, s1⟩ := y
    simp only [h1] at h
    cases e1 with
    | exit j =>
      simp only [evX, Option.some.injEq, Prod.mk.injEq] at h
      obtain ⟨rfl, rfl⟩ := h
      simp at he
    | normal =>
      simp only [evX, Option.some.injEq, Prod.mk.injEq] at h
      obtain ⟨rfl, rfl⟩ := h
      simp [hvs]
    | ret =>
      simp only [evX, Option.some.injEq, Prod.mk.injEq] at h
      obtain ⟨rfl, rfl⟩ := h
      simp [hvs]

theorem call_eq {g : FuncId} {cf : CFn} (hH : H g = none) (hF : F g = some cf) (hp : cf.pure = false) {args : List Val} {v : Val} {σ' : Hp} (hl : args.length ≤ cf.ntmps)
    (h : R F H [.cd cf.body] (argT args) σ (Fin cf.results fun v' τ => v' = v ∧ τ = σ')) : EvO F H g args σ = some (v, σ') := by
  obtain ⟨v', τ, h1, rfl, rfl⟩ := call_body hH hF hp hl h
  exact h1

theorem fzs_len : ∀ (l : List Val), (Val.fzs l).length = l.length
  | [] => rfl
  | _ :: l => by simp [Val.fzs, fzs_len l]

theorem pure_body {g : FuncId} {cf : CFn} (hH : H g = none) (hF : F g = some cf) (hp : cf.pure = true) {args : List Val} {K : Val → Prop} (hl : args.length ≤ cf.ntmps) (hc : Val.closeds args = true)
    (h : R F H [.cd cf.body] (argT (Val.fzs args)) [] (Fin cf.results fun v _ => v.closed = true ∧ K v.fz)) : ∃ v, EvO F H g args σ = some (v, σ) ∧ K v := by
  obtain ⟨n, e, t', σ', h, he, vs, hvs, hcl, hk⟩ := h
  refine ⟨(oneOr vs).fz, EvO_of_pure hH hF hp (n := n) (σ' := σ') hc ?_ hcl, hk⟩
  simp only [evX] at h
  unfold runBody
  rw [if_pos (by rw [fzs_len]; exact hl)]
  cases h1 : evC (EvO F H) n cf.body (argT (Val.fzs args), []) with
  | none => simp [h1] at h
  | some y =>
    obtain ⟨e1, s1⟩ := y
    simp only [h1] at h
    cases e1 with
    | exit j =>
      simp only [evX, Option.some.injEq, Prod.mk.injEq] at h
      obtain ⟨rfl, rfl⟩ := h
      simp at he
    | normal =>
      simp only [evX, Option.some.injEq, Prod.mk.injEq] at h
      obtain ⟨rfl, rfl⟩ := h
      simp [hvs]
    | ret =>
      simp only [evX, Option.some.injEq, Prod.mk.injEq] at h
      obtain ⟨rfl, rfl⟩ := h
      simp [hvs]

theorem pure_eq {g : FuncId} {cf : CFn} (hH : H g = none) (hF : F g = some cf) (hp : cf.pure = true) {args : List Val} {v : Val} (hl : args.length ≤ cf.ntmps) (hc : Val.closeds args = true)
    (h : R F H [.cd cf.body] (argT (Val.fzs args)) [] (Fin cf.results fun v' _ => v'.closed = true ∧ v'.fz = v)) : EvO F H g args σ = some (v, σ) := by
  obtain ⟨v', h1, rfl⟩ := pure_body (K := fun x => x = v) (σ := σ) hH hF hp hl hc h
  exact h1
end

section
/-! The rules, one for each operation, and their bundle for 'simp only'. -/
variable (call : CallF) (t : Nat → Val) (σ : Hp)

theorem op_mv (x : CO) : evOp call (.mv x) (t, σ) = some (x.ev t, σ) := rfl
theorem op_pick (c a b : CO) : evOp call (.pick c a b) (t, σ) = match c.ev t with | .bool true => some (a.ev t, σ) | .bool false => some (b.ev t, σ) | _ => none := rfl
theorem op_alloc (z : List Val) : evOp call (.alloc z) (t, σ) = some (.ptr (some (σ.length, 0)), σ ++ [.cells z]) := rfl
theorem op_boxI (x : CO) : evOp call (.boxI x) (t, σ) = if (x.ev t).st then some (.iptr (x.ev t).cells, σ) else none := rfl
theorem op_boxM (x : CO) : evOp call (.boxM x) (t, σ) = if (x.ev t).st then some (.ptr (some (σ.length, 0)), σ ++ [.cells (x.ev t).cells]) else none := rfl
theorem op_build (z : List Val) (ps : List (Nat × Nat × CO)) : evOp call (.build z ps) (t, σ) = match fillV z (ps.map fun p => (p.1, p.2.1, p.2.2.ev t)) with | some cs => some (.agg cs, σ) | none => none := rfl
theorem op_buildSl (sz n : Nat) (z : List Val) (ps : List (Nat × Nat × CO)) : evOp call (.buildSl sz n z ps) (t, σ) = match fillV z (ps.map fun p => (p.1, p.2.1, p.2.2.ev t)) with | some cs => some (.lst sz (chunks sz n cs) .mine, σ) | none => none := rfl
theorem op_load (agg : Bool) (n : Nat) (a : CO) : evOp call (.load agg n a) (t, σ) = match loadV agg n (a.ev t) σ with | some v => some (v, σ) | none => none := rfl
theorem op_store (n : Nat) (a x : CO) : evOp call (.store n a x) (t, σ) = match storeV n (a.ev t) (x.ev t) σ with | some σ' => some (.undef, σ') | none => none := rfl
theorem op_nilCheck (x : CO) : evOp call (.nilCheck x) (t, σ) = match x.ev t with | .ptr (some a) => some (.ptr (some a), σ) | .iptr vs => some (.iptr vs, σ) | .func (.func f) a b => some (.func (.func f) a b, σ) | _ => none := rfl
theorem op_bin (op : BinOp) (e : EqT) (x y : CO) : evOp call (.bin op e x y) (t, σ) = match binV op e (x.ev t) (y.ev t) with | some v => some (v, σ) | none => none := rfl
theorem op_un (op : UnOp) (x : CO) : evOp call (.un op x) (t, σ) = match unV op (x.ev t) with | some v => some (v, σ) | none => none := rfl
theorem op_cvInt (k : IntKind) (x : CO) : evOp call (.cvInt k x) (t, σ) = match x.ev t with | .int _ n => some (.int k (k.wrap n), σ) | _ => none := rfl
theorem op_cvSame (x : CO) : evOp call (.cvSame x) (t, σ) = match x.ev t with | .str s => some (.str s, σ) | _ => none := rfl
theorem op_cvToStr (x : CO) : evOp call (.cvToStr x) (t, σ) = match x.ev t with | .lst _ xs _ => (match bytesOfL xs with | some l => some (.str ⟨l.toArray⟩, σ) | none => none) | _ => none := rfl
theorem op_cvToBytes (x : CO) : evOp call (.cvToBytes x) (t, σ) = match x.ev t with | .str s => some (.lst 1 (s.toList.map byteV) .shared, σ) | _ => none := rfl
theorem op_cvMark (x : CO) : evOp call (.cvMark x) (t, σ) = match x.ev t with | .lst 1 xs .mine => some (.lst 1 xs .mine, σ) | _ => none := rfl
theorem op_mkfn (fn : Fn) (a b : List CO) : evOp call (.mkfn fn a b) (t, σ) = some (.func fn (a.map (·.ev t)) (b.map (·.ev t)), σ) := rfl
theorem op_sliceS (x : CO) (lo hi : Option CO) : evOp call (.sliceS x lo hi) (t, σ) = match x.ev t with
    | .str s => (match boundOr s.size (hi.map (·.ev t)) s.size with
      | some h => (match boundOr 0 (lo.map (·.ev t)) h with | some l => some (.str (s.extract l h), σ) | none => none)
      | none => none)
    | _ => none := rfl
theorem op_faddr (off : Nat) (x : CO) : evOp call (.faddr off x) (t, σ) = match x.ev t with | .ptr (some (i, o)) => some (.ptr (some (i, o + off)), σ) | .iptr vs => some (.iptr (vs.drop off), σ) | _ => none := rfl
theorem op_fld (agg : Bool) (off n : Nat) (x : CO) : evOp call (.fld agg off n x) (t, σ) = match x.ev t with | .agg cs => (match readV agg n (cs.drop off) with | some v => some (v, σ) | none => none) | _ => none := rfl
theorem op_iaddrL {sz : Nat} {x i : CO} {xs : List Val} {o : Own} {k : IntKind} {j : Int} (hx : x.ev t = .lst sz xs o) (hi : i.ev t = .int k j) {v : Val} (h : xs[j.toNat]? = some v) (h0 : 0 ≤ j) : evOp call (.iaddr sz x i) (t, σ) = some (.iptr v.cells, σ) := by
  have h1 : j.toNat < xs.length := by
    have := List.getElem?_eq_some_iff.1 h
    exact this.1
  simp only [evOp, COp.ev, hx, hi, h]
  rw [if_pos ⟨h0, by omega, trivial⟩]
theorem op_idxS (x i : CO) : evOp call (.idxS x i) (t, σ) = match x.ev t, i.ev t with
    | .str s, .int _ k => if 0 ≤ k then (match s.toList[k.toNat]? with | some b => some (byteV b, σ) | none => none) else none
    | _, _ => none := rfl
theorem op_ext (i : Nat) (x : CO) : evOp call (.ext i x) (t, σ) = match x.ev t with | .tuple vs => (match vs[i]? with | some v => some (v, σ) | none => none) | _ => none := rfl
theorem op_app (ref : Bool) (sz bytes : Nat) (x y : CO) : evOp call (.app ref sz bytes x y) (t, σ) = appV ref sz bytes (x.ev t) (y.ev t) σ := rfl
theorem op_len (s : Bool) (x : CO) : evOp call (.len s x) (t, σ) = match lenV s (x.ev t) with | some v => some (v, σ) | none => none := rfl
theorem op_minmax (mx : Bool) (x y : CO) : evOp call (.minmax mx x [y]) (t, σ) = match x.ev t, y.ev t with | .int k a, .int _ b => some (.int k (if mx then (if a < b then b else a) else (if b < a then b else a)), σ) | _, _ => none := rfl
theorem op_mkMap : evOp call .mkMap (t, σ) = some (.map (some σ.length), σ ++ [.map []]) := rfl
theorem op_mkSl (ref : Bool) (sz bytes : Nat) (z : List Val) (n c : CO) : evOp call (.mkSl ref sz bytes z n c) (t, σ) = mkSlV ref sz bytes z (n.ev t) (c.ev t) σ := rfl
theorem op_lookup (kt : Option IntKind) (z : Val) (ok : Bool) (m k : CO) : evOp call (.lookup kt z ok m k) (t, σ) = match lookV kt z ok (m.ev t) (k.ev t) σ with | some v => some (v, σ) | none => none := rfl
theorem op_mapSet (kt : Option IntKind) (m k x : CO) : evOp call (.mapSet kt m k x) (t, σ) = match mapSetV kt (m.ev t) (k.ev t) (x.ev t) σ with | some σ' => some (.undef, σ') | none => none := rfl
theorem op_del (kt : Option IntKind) (m k : CO) : evOp call (.del kt m k) (t, σ) = match delV kt (m.ev t) (k.ev t) σ with | some σ' => some (.undef, σ') | none => none := rfl

theorem co_t (i : Nat) : CO.ev t (.t i) = t i := rfl
theorem co_c (v : Val) : CO.ev t (.c v) = v := rfl
theorem upd_get (i j : Nat) (v : Val) : upd t i v j = if j = i then v else t j := rfl
theorem argT_get (args : List Val) (i : Nat) : argT args i = args.getD i .undef := rfl
end
end Go.Ev
