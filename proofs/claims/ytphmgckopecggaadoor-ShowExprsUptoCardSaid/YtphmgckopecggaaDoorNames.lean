/- An operation asks its names alone; a pure one asks no object. -/
import Derived.Test.YtphmgckopecggaaDoorSound1
namespace Go.Ev

theorem CO.ev_congr {t t' : Nat → Val} {x : CO} (h : ∀ i ∈ namesO x, t i = t' i) : x.ev t = x.ev t' := by
  cases x with
  | t i => exact h i (by simp [namesO])
  | c v => rfl

theorem map_ev_congr {t t' : Nat → Val} : ∀ {xs : List CO}, (∀ i ∈ xs.flatMap namesO, t i = t' i) → xs.map (·.ev t) = xs.map (·.ev t')
  | [], _ => rfl
  | x :: xs, h => by
    simp only [List.flatMap_cons, List.mem_append] at h
    rw [List.map_cons, List.map_cons, CO.ev_congr (fun i hi => h i (.inl hi)), map_ev_congr (fun i hi => h i (.inr hi))]

theorem parts_ev_congr {t t' : Nat → Val} : ∀ {ps : List (Nat × Nat × CO)}, (∀ i ∈ namesP ps, t i = t' i) → (ps.map fun (o, n, x) => (o, n, x.ev t)) = ps.map fun (o, n, x) => (o, n, x.ev t')
  | [], _ => rfl
  | p :: ps, h => by
    simp only [namesP, List.flatMap_cons, List.mem_append] at h
    obtain ⟨o, n, x⟩ := p
    have h1 : x.ev t = x.ev t' := CO.ev_congr (fun i hi => h i (.inl hi))
    have h2 := parts_ev_congr (t := t) (t' := t') (ps := ps) (fun i hi => h i (.inr hi))
    rw [List.map_cons, List.map_cons, h2]
    simp only [h1]

theorem opt_ev_congr {t t' : Nat → Val} {x : Option CO} (h : ∀ i ∈ namesOp x, t i = t' i) : x.map (·.ev t) = x.map (·.ev t') := by
  cases x with
  | none => rfl
  | some x => exact congrArg some (CO.ev_congr h)

theorem COp.ev_congr {t t' : Nat → Val} {σ : Hp} {op : COp} (h : ∀ i ∈ namesOf op, t i = t' i) : COp.ev t σ op = COp.ev t' σ op := by
  cases op <;> simp only [namesOf, List.mem_append] at h
  case mv x | boxI x | boxM x | nilCheck x | un _ x | cvInt _ x | cvSame x | cvToStr x | cvToBytes x | cvMark x | faddr _ x | fld _ _ _ x | ext _ x | len _ x | load _ _ x => simp only [COp.ev, CO.ev_congr h]
  case pick a b c => simp only [COp.ev, CO.ev_congr (fun i hi => h i (.inl (.inl hi))), CO.ev_congr (fun i hi => h i (.inl (.inr hi))), CO.ev_congr (fun i hi => h i (.inr hi))]
  case alloc z => rfl
  case mkMap => rfl
  case build z ps => simp only [COp.ev, parts_ev_congr h]
  case buildSl a b z ps => simp only [COp.ev, parts_ev_congr h]
  case store _ a x | bin _ _ a x | iaddr _ a x | iaddrA _ _ a x | idxS a x | idxA _ _ _ a x | app _ _ _ a x | lookup _ _ _ a x | del _ a x | mkSl _ _ _ _ a x => simp only [COp.ev, CO.ev_congr (fun i hi => h i (.inl hi)), CO.ev_congr (fun i hi => h i (.inr hi))]
  case mkfn f a b => simp only [COp.ev, map_ev_congr (fun i hi => h i (.inl hi)), map_ev_congr (fun i hi => h i (.inr hi))]
  case slice sz x lo hi mx =>
    simp only [COp.ev, CO.ev_congr (fun i hi => h i (.inl (.inl (.inl hi)))), opt_ev_congr (fun i hi => h i (.inl (.inl (.inr hi)))), opt_ev_congr (fun i hi => h i (.inl (.inr hi))), opt_ev_congr (fun i hi => h i (.inr hi))]
  case sliceS x lo hi =>
    simp only [COp.ev, CO.ev_congr (fun i hi => h i (.inl (.inl hi))), opt_ev_congr (fun i hi => h i (.inl (.inr hi))), opt_ev_congr (fun i hi => h i (.inr hi))]
  case minmax mx x r =>
    match r with
    | [] => rfl
    | [y] => simp only [COp.ev, CO.ev_congr (fun i hi => h i (.inl hi)), CO.ev_congr (x := y) (fun i hi => h i (.inr (by simpa using hi)))]
    | _ :: _ :: _ => rfl
  case mapSet _ a b c => simp only [COp.ev, CO.ev_congr (fun i hi => h i (.inl (.inl hi))), CO.ev_congr (fun i hi => h i (.inl (.inr hi))), CO.ev_congr (fun i hi => h i (.inr hi))]
  case call => rfl

theorem evOp_congr {call : CallF} {t t' : Nat → Val} {σ : Hp} {op : COp} (h : ∀ i ∈ namesOf op, t i = t' i) : evOp call op (t, σ) = evOp call op (t', σ) := by
  by_cases hc : ∃ f as, op = .call f as
  · obtain ⟨f, as, rfl⟩ := hc
    simp only [namesOf, List.mem_append] at h
    simp only [evOp, CO.ev_congr (fun i hi => h i (.inl hi)), map_ev_congr (fun i hi => h i (.inr hi))]
  · have e : ∀ s, evOp call op s = op.ev s.1 s.2 := by
      intro s
      cases op <;> first | rfl | exact absurd ⟨_, _, rfl⟩ hc
    rw [e, e]
    exact COp.ev_congr h

theorem pure_ev {t : Nat → Val} {σ σ' : Hp} {v : Val} {op : COp} (hp : pureOp op = true) (h : COp.ev t σ op = some (v, σ')) : σ' = σ ∧ ∀ τ, COp.ev t τ op = some (v, τ) := by
  cases op <;> simp only [pureOp] at hp <;> try (cases hp; done)
  case minmax mx x r =>
    match r, h with
    | [y], h =>
      simp only [COp.ev] at h ⊢
      split at h
      · simp only [Option.some.injEq, Prod.mk.injEq] at h
        obtain ⟨rfl, rfl⟩ := h
        simp_all
      · cases h
    | [], h => cases h
    | _ :: _ :: _, h => cases h
  all_goals
    simp only [COp.ev] at h ⊢
    (repeat' (split at h)) <;> first
      | (cases h; done)
      | (simp only [Option.some.injEq, Prod.mk.injEq] at h
         obtain ⟨rfl, rfl⟩ := h
         simp_all)

end Go.Ev
