/- A region whose order is open: the run in the order of the text. -/
import Derived.Test.YtphmgckopecggaaDoorDraw
namespace Go.Ev
set_option linter.unusedSectionVars false
variable [Glob]

variable {P : Program}

def effB (ds : List DStep) (i : Nat) : Bool :=
  match ds[i]? with
  | some d => d.kind.isEff
  | none => false

def effsD (ds : List DStep) : List Nat := (List.range ds.length).filter (effB ds)

def namesD (d : DStep) : List Nat := d.dst.toList ++ (match d.guard with | some (g, _) => [g] | none => []) ++ namesOf d.op

structure Stat (P : Program) (cf : Cfg) (fid : FuncId) (nt : Nat) (ops : Array Oper) (ds : List DStep) (news : List (List Val)) : Prop where
  len : ds.length = ops.size
  step : ∀ (i : Nat) (o : Oper), ops[i]? = some o → ∃ d : DStep, ds[i]? = some d ∧ d.dst = o.dst ∧ dstOk nt o.dst = true ∧ guardOf nt ops o = some d.guard ∧ compOp P cf fid o = some d.op
  names : ∀ (i j : Nat) (x y : DStep) (τ : Nat), ds[i]? = some x → ds[j]? = some y → i ≠ j → y.dst = some τ → τ ∈ namesD x → (j < i → Bef ops.toList j i) ∧ (i < j → Bef ops.toList i j)
  effOrd : ∀ (i j : Nat), i ∈ effsD ds → j ∈ effsD ds → i < j → Bef ops.toList i j
  kPure : ∀ (i : Nat) (d : DStep), ds[i]? = some d → d.kind = .pure → pureOp d.op = true
  kRead : ∀ (i : Nat) (d : DStep) (ks : List Nat), ds[i]? = some d → d.kind = .read ks → (∃ g n a, d.op = .load g n a) ∧
    ∀ k, k ≤ (effsD ds).length → (∀ j ∈ (effsD ds).take k, ¬ Bef ops.toList i j) → (∀ j ∈ (effsD ds).drop k, ¬ Bef ops.toList j i) → k ∈ ks
  kNew : ∀ (i : Nat) (d : DStep) (j : Nat), ds[i]? = some d → d.kind = .new j → ∃ z, d.op = .alloc z ∧ news[j]? = some z
  newInj : ∀ (i i' : Nat) (d d' : DStep) (j : Nat), ds[i]? = some d → ds[i']? = some d' → d.kind = .new j → d'.kind = .new j → i = i'
  edges : ∀ (i : Nat) (o : Oper), ops[i]? = some o → ∀ j ∈ edges o, j < i

theorem compSteps_get {cf : Cfg} {fid : FuncId} {nt : Nat} {ops : Array Oper} : ∀ {l : List Oper} {ss : List CStep}, compSteps P cf fid nt ops l = some ss → ss.length = l.length ∧ ∀ (i : Nat) (o : Oper), l[i]? = some o → ∃ s : CStep, ss[i]? = some s ∧ compStep P cf fid nt ops o = some s
  | [], ss, h => by simp [compSteps] at h; subst h; simp
  | o :: r, ss, h => by
    simp only [compSteps] at h
    split at h
    · rename_i s rs h1 h2
      simp only [Option.some.injEq] at h; subst h
      obtain ⟨k1, k2⟩ := compSteps_get h2
      refine ⟨by simp [k1], fun i o' ho => ?_⟩
      match i, ho with
      | 0, ho => simp at ho; subst ho; exact ⟨s, by simp, h1⟩
      | i + 1, ho => simpa using k2 i o' (by simpa using ho)
    · cases h

theorem edgesOk_get : ∀ {l : List Oper} {k : Nat}, edgesOk k l = true → ∀ (i : Nat) (o : Oper), l[i]? = some o → ∀ j ∈ edges o, j < k + i
  | [], k, _, i, o, h => by simp at h
  | o :: r, k, h, i, o', ho => by
    simp only [edgesOk, Bool.and_eq_true, List.all_eq_true, decide_eq_true_eq] at h
    match i, ho with
    | 0, ho => simp at ho; subst ho; intro j hj; have := h.1 j hj; omega
    | i + 1, ho =>
      intro j hj
      have := edgesOk_get h.2 i o' (by simpa using ho) j hj
      omega

theorem mem_allocs {ss : List CStep} {i : Nat} : i ∈ allocsOf ss ↔ ∃ s, ss[i]? = some s ∧ isNewOp s.op = true := by
  simp only [allocsOf, List.mem_filter, List.mem_range]
  constructor
  · rintro ⟨_, h⟩
    split at h
    · exact ⟨_, ‹_›, h⟩
    · cases h
  · rintro ⟨s, h1, h2⟩
    exact ⟨(List.getElem?_eq_some_iff.1 h1).1, by rw [h1]; exact h2⟩

theorem dsteps_get {ss : List CStep} {bs : List Nat} {i : Nat} : (dsteps ss bs)[i]? = (ss[i]?).map fun s => { dst := s.dst, guard := s.guard, op := s.op, kind := kindOf (allocsOf ss) (effsOf ss) bs i s.op } := by
  simp [dsteps, List.getElem?_zipIdx]
  cases ss[i]? <;> simp

theorem effs_eq (ss : List CStep) (bs : List Nat) : effsD (dsteps ss bs) = effsOf ss := by
  have hl : (dsteps ss bs).length = ss.length := by simp [dsteps]
  unfold effsD effsOf
  rw [hl]
  congr 1
  funext i
  unfold effB
  rw [dsteps_get]
  cases h : ss[i]? with
  | none => rfl
  | some s =>
    simp only [Option.map_some]
    unfold kindOf isEffOp
    cases hp : pureOp s.op with
    | true => simp [DK.isEff]
    | false =>
      simp only [Bool.false_eq_true, if_false, Bool.not_false, Bool.true_and]
      cases s.op <;> rfl

theorem findIdx_self : ∀ {l : List Nat} {i : Nat}, i ∈ l → l[l.findIdx (· == i)]? = some i := by
  intro l i h
  have h1 : l.findIdx (· == i) < l.length := List.findIdx_lt_length_of_exists ⟨i, h, by simp⟩
  rw [List.getElem?_eq_getElem h1]
  have := List.findIdx_getElem (w := h1)
  simp at this
  rw [this]

theorem stat_of {cf : Cfg} {fid : FuncId} {nt : Nat} {ops : Array Oper} {ss : List CStep} (h1 : compSteps P cf fid nt ops ops.toList = some ss) (h2 : orderOk ss (befs ops.toList []) = true) (h3 : edgesOk 0 ops.toList = true) :
    Stat P cf fid nt ops (dsteps ss (befs ops.toList [])) (dnews ss) := by
  obtain ⟨k1, k2⟩ := compSteps_get h1
  have hb := befs_ok ops.toList [] [] rfl (fun i j h => by simp at h)
  simp only [List.nil_append] at hb
  have hl : (dsteps ss (befs ops.toList [])).length = ss.length := by simp [dsteps]
  have hget : ∀ (i : Nat) (d : DStep), (dsteps ss (befs ops.toList []))[i]? = some d → ∃ s : CStep, ss[i]? = some s ∧ d = { dst := s.dst, guard := s.guard, op := s.op, kind := kindOf (allocsOf ss) (effsOf ss) (befs ops.toList []) i s.op } := by
    intro i d hd
    rw [dsteps_get, Option.map_eq_some_iff] at hd
    obtain ⟨s, e1, e2⟩ := hd
    exact ⟨s, e1, e2.symm⟩
  have hord : ∀ (i j : Nat) (x y : CStep), ss[i]? = some x → ss[j]? = some y →
      (i < j → isEffOp x.op = true → isEffOp y.op = true → ((befs ops.toList []).getD j 0).testBit i = true) ∧
      (i ≠ j → ∀ d, y.dst = some d → d ∈ namesS x → (if j < i then ((befs ops.toList []).getD i 0).testBit j else ((befs ops.toList []).getD j 0).testBit i) = true) := by
    intro i j x y hx hy
    have hi : i < ss.length := (List.getElem?_eq_some_iff.1 hx).1
    have hj : j < ss.length := (List.getElem?_eq_some_iff.1 hy).1
    simp only [orderOk, List.all_eq_true, List.mem_range] at h2
    have := h2 i hi j hj
    rw [hx, hy] at this
    simp only [Bool.and_eq_true] at this
    obtain ⟨t1, t2⟩ := this
    refine ⟨fun a b c => ?_, fun hne d hd hn => ?_⟩
    · rw [if_pos (by simp [a, b, c])] at t1
      exact t1
    · rw [if_pos (by simpa using hne), hd] at t2
      simp only at t2
      rw [if_pos (by simpa using hn)] at t2
      exact t2
  constructor
  case len => rw [hl, k1]; simp
  case step =>
    intro i o ho
    obtain ⟨s, e1, e2⟩ := k2 i o (by simpa using ho)
    unfold compStep at e2
    split at e2
    · rename_i co g e3 e4
      split at e2
      · rename_i e5
        simp only [Option.some.injEq] at e2; subst e2
        exact ⟨_, by rw [dsteps_get, e1]; rfl, rfl, e5, e4, e3⟩
      · cases e2
    · cases e2
  case names =>
    intro i j x y τ hx hy hne hd hn
    obtain ⟨sx, e1, rfl⟩ := hget i x hx
    obtain ⟨sy, e2, rfl⟩ := hget j y hy
    have := (hord i j sx sy e1 e2).2 hne τ hd hn
    refine ⟨fun hji => ?_, fun hij => ?_⟩
    · rw [if_pos hji] at this; exact hb _ _ this
    · rw [if_neg (by omega)] at this; exact hb _ _ this
  case effOrd =>
    intro i j hi hj hij
    rw [effs_eq] at hi hj
    simp only [effsOf, List.mem_filter, List.mem_range] at hi hj
    have hi2 := hi.2
    have hj2 := hj.2
    split at hi2
    · rename_i sx e1
      split at hj2
      · rename_i sy e2
        exact hb _ _ ((hord i j sx sy e1 e2).1 hij hi2 hj2)
      · cases hj2
    · cases hi2
  case kPure =>
    intro i d hd hk
    obtain ⟨s, e1, rfl⟩ := hget i d hd
    simp only [kindOf] at hk
    split at hk
    · assumption
    · split at hk <;> cases hk
  case kRead =>
    intro i d ks hd hk
    obtain ⟨s, e1, rfl⟩ := hget i d hd
    simp only [kindOf] at hk
    split at hk
    · cases hk
    · split at hk
      · rename_i g n a hop
        simp only [DK.read.injEq] at hk
        subst hk
        refine ⟨⟨g, n, a, hop⟩, fun k hkl ha hb' => ?_⟩
        rw [effs_eq] at hkl ha hb'
        simp only [stages, List.mem_filter, List.mem_range, Bool.and_eq_true, List.all_eq_true, Bool.not_eq_true']
        refine ⟨by omega, fun j hj => ?_, fun j hj => ?_⟩
        · cases hq : ((befs ops.toList []).getD j 0).testBit i with
          | false => rfl
          | true => exact absurd (hb _ _ hq) (ha j hj)
        · cases hq : ((befs ops.toList []).getD i 0).testBit j with
          | false => rfl
          | true => exact absurd (hb _ _ hq) (hb' j hj)
      · cases hk
      · cases hk
  case kNew =>
    intro i d j hd hk
    obtain ⟨s, e1, rfl⟩ := hget i d hd
    simp only [kindOf] at hk
    split at hk
    · cases hk
    · split at hk
      · cases hk
      · rename_i z hop
        simp only [DK.new.injEq] at hk
        subst hk
        refine ⟨z, hop, ?_⟩
        have hm : i ∈ allocsOf ss := mem_allocs.2 ⟨s, e1, by rw [hop]; rfl⟩
        simp only [dnews, List.getElem?_map, findIdx_self hm, Option.map_some, e1, hop, newCells]
      · cases hk
  case newInj =>
    intro i i' d d' j hd hd' hk hk'
    have hmem : ∀ (i : Nat) (d : DStep), (dsteps ss (befs ops.toList []))[i]? = some d → d.kind = .new j → (allocsOf ss)[j]? = some i := by
      intro i d hd hk
      obtain ⟨s, e1, rfl⟩ := hget i d hd
      simp only [kindOf] at hk
      split at hk
      · cases hk
      · split at hk
        · cases hk
        · rename_i z hop
          simp only [DK.new.injEq] at hk
          subst hk
          exact findIdx_self (mem_allocs.2 ⟨s, e1, by rw [hop]; rfl⟩)
        · cases hk
    have a := hmem i d hd hk
    have b := hmem i' d' hd' hk'
    rw [a] at b
    simpa using b
  case edges =>
    intro i o ho j hj
    have := edgesOk_get h3 i o (by simpa using ho) j hj
    omega

/-! the run in the order of the text -/

theorem lastD_getD (σ : Hp) : ∀ hs : List Hp, lastD σ hs = (σ :: hs).getD hs.length []
  | [] => rfl
  | h :: r => by
    rw [lastD, lastD_getD h r]
    simp

def DKOk (d : DStep) : Prop := (d.kind = .pure → pureOp d.op = true) ∧ (∀ ks, d.kind = .read ks → ∃ g n a, d.op = .load g n a)

theorem evD_quiet {call : CallF} {base : Nat} {d : DStep} {s : St} {v : Val} {σ : Hp} (hk : DKOk d) (hq : d.kind.isEff = false) (h : evDStep call base d s = some (v, σ)) : σ = s.2 := by
  unfold evDStep at h
  split at h
  · unfold evDRun at h
    split at h
    · simp only [Option.some.injEq, Prod.mk.injEq] at h; exact h.2.symm
    · rename_i hne
      cases hkk : d.kind with
      | pure =>
        have hp := hk.1 hkk
        have e : evOp call d.op s = d.op.ev s.1 s.2 := by cases hop : d.op <;> first | rfl | (rw [hop] at hp; cases hp)
        rw [e] at h
        exact (pure_ev hp h).1
      | read ks =>
        obtain ⟨g, n, a, hop⟩ := hk.2 ks hkk
        rw [hop] at h
        simp only [evOp, COp.ev] at h
        split at h
        · simp only [Option.some.injEq, Prod.mk.injEq] at h; exact h.2.symm
        · cases h
      | new j => exact absurd hkk (hne j)
      | eff => rw [hkk] at hq; cases hq
  · simp only [Option.some.injEq, Prod.mk.injEq] at h; exact h.2.symm
  · cases h

/-- How many effects there are ahead of the i-th operation. -/
def cntD (ds : List DStep) (i : Nat) : Nat := ((ds.take i).filter (·.kind.isEff)).length

theorem canon {call : CallF} {base : Nat} : ∀ (ds : List DStep) (t : Nat → Val) (σ : Hp) {vs : List Val} {hs : List Hp}, (∀ d ∈ ds, DKOk d) → evD call base ds (t, σ) = some (vs, hs) →
    vs.length = ds.length ∧ hs.length = (ds.filter (·.kind.isEff)).length ∧
      ∀ (i : Nat) (d : DStep), ds[i]? = some d → ∃ v : Val, vs[i]? = some v ∧ evDStep call base d (endT (ds.take i) (vs.take i) t, (σ :: hs).getD (cntD ds i) []) = some (v, (σ :: hs).getD (cntD ds (i + 1)) [])
  | [], t, σ, vs, hs, _, h => by
    simp only [evD, Option.some.injEq, Prod.mk.injEq] at h
    obtain ⟨rfl, rfl⟩ := h
    simp
  | d :: r, t, σ, vs, hs, hk, h => by
    simp only [evD] at h
    split at h
    · rename_i v σ1 h1
      split at h
      · rename_i vs' hs' h2
        simp only [Option.some.injEq, Prod.mk.injEq] at h
        obtain ⟨rfl, rfl⟩ := h
        obtain ⟨k1, k2, k3⟩ := canon r _ _ (fun d hd => hk d (by simp [hd])) h2
        have hq := fun hq => evD_quiet (hk d (by simp)) hq h1
        refine ⟨by simp [k1], ?_, ?_⟩
        · rw [List.filter_cons]
          split <;> simp [k2]
        · intro i d' hd'
          match i, hd' with
          | 0, hd' =>
            simp at hd'; subst hd'
            refine ⟨v, by simp, ?_⟩
            simp only [cntD, List.take_zero, endT, List.filter_nil, List.length_nil, List.getD_cons_zero]
            rw [h1]
            congr 2
            cases he : d.kind.isEff with
            | true => simp [he]
            | false => simp [he, hq he]
          | i + 1, hd' =>
            obtain ⟨v', e1, e2⟩ := k3 i d' (by simpa using hd')
            refine ⟨v', by simpa using e1, ?_⟩
            simp only [List.take_succ_cons, endT]
            have hc : ∀ m, (σ :: (if d.kind.isEff then σ1 :: hs' else hs')).getD (cntD (d :: r) (m + 1)) [] = (σ1 :: hs').getD (cntD r m) [] := by
              intro m
              unfold cntD
              rw [List.take_succ_cons, List.filter_cons]
              cases he : d.kind.isEff with
              | true => simp
              | false => simp [hq he]
            rw [hc, hc]
            exact e2
      · cases h
    · cases h

theorem readsOk_get {hs : List Hp} : ∀ {ds : List DStep} {vs : List Val} {t : Nat → Val}, readsOk hs ds vs t = true → ∀ (i : Nat) (d : DStep) (v : Val), ds[i]? = some d → vs[i]? = some v → readOk hs (endT (ds.take i) (vs.take i) t) d v = true
  | [], vs, t, _, i, d, v, hd, _ => by simp at hd
  | _ :: _, [], t, _, i, d, v, _, hv => by simp at hv
  | d0 :: ds, v0 :: vs, t, h, i, d, v, hd, hv => by
    simp only [readsOk, Bool.and_eq_true] at h
    match i, hd, hv with
    | 0, hd, hv => simp at hd hv; subst hd; subst hv; simpa [endT] using h.1
    | i + 1, hd, hv =>
      simp only [List.take_succ_cons, endT]
      exact readsOk_get h.2 i d v (by simpa using hd) (by simpa using hv)

end Go.Ev
