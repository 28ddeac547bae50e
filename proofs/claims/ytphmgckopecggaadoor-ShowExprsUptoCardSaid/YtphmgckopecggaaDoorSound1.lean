/- What the evaluator answers, the machine comes to. -/
import Derived.Test.YtphmgckopecggaaDoorOps7
import Derived.Tactics
import Derived.LoopN
namespace Go.Ev
set_option linter.unusedSectionVars false
variable [Glob]

variable {P : Program} {γ : Gh} {σ σ' : Hp} {w : World}

/-- A call's answer, on the machine's side. -/
def CallPost (v : Val) (γ : Gh) (σ : Hp) (w : World) (σ' : Hp) : Ending → World → Prop := fun e w' =>
  ∃ γ' u, e = .returned u ∧ VRel γ' v u ∧ WInv γ' σ' w' ∧ Frame γ σ w γ' σ' w'

/-- A function with a Go body. -/
def HasBody (P : Program) (g : FuncId) : Prop := ∃ fn, P.funcs[g]? = some fn ∧ fn.body.isNone = false ∧ (fn.name == "runtime.NumGoroutine") = false

def CallOk (P : Program) (call : CallF) : Prop :=
  ∀ g args σ v σ', call g args σ = some (v, σ') → HasBody P g ∧ ∀ γ w us, WInv γ σ w → VRels γ args us → Calls P g us.toArray w (CallPost v γ σ w σ')

def Ex.toExit : Ex → Exit
  | .normal => .normal
  | .exit id => .exit id
  | .ret => .ret

/-- How a piece of code ends, on the machine's side. -/
def Post (nt : Nat) (γ : Gh) (σ : Hp) (w : World) (e : Ex) (s : St) : Exit → Act → World → Prop := fun e' a' w' =>
  e' = e.toExit ∧ a'.defers = [] ∧ ∃ γ', TRel γ' s.1 nt a'.tmps ∧ WInv γ' s.2 w' ∧ Frame γ σ w γ' s.2 w'

theorem callFunc_run {g : FuncId} (h : HasBody P g) (args : Array Value) (w : World) : (callFunc g args).run P w = .ok (.enter g args) w := by
  obtain ⟨fn, h1, h2, h3⟩ := h
  simp only [callFunc, Sem.run_bind, run_program, Result.andThen_ok, h1, h2, h3, Bool.false_eq_true, if_false, Sem.run_pure]

section
variable {nt : Nat} {γ0 : Gh} {σ0 : Hp} {w0 : World}

theorem TRel.putO {t : Nat → Val} {ts : Array Value} (k : TRel γ t nt ts) {d : Option Nat} (hd : dstOk nt d = true) {v : Val} {u : Value} (h : VRel γ v u) (a : Act) (ha : a.tmps = ts) :
    TRel γ (updO t d v) nt (a.put d u).tmps := by
  subst ha
  cases d with
  | none => exact k
  | some d => exact k.put (by simpa [dstOk] using hd) h

theorem put_defers (a : Act) (d : Option Nat) (u : Value) : (a.put d u).defers = a.defers := by cases d <;> rfl

/-- One operation, calls among them. -/
theorem evOp_wp {call : CallF} (hcall : CallOk P call) {cf : Cfg} {fid : FuncId} {o : Oper} {co : COp} {t : Nat → Val} {a : Act} {v : Val} (hT : TRel γ t nt a.tmps) (hW : WInv γ σ w) (hdef : a.defers = [])
    (hd : dstOk nt o.dst = true) (hc : compOp P cf fid o = some co) (he : evOp call co (t, σ) = some (v, σ')) {next : Act → World → Prop} {Q : Exit → Act → World → Prop}
    (hn : ∀ γ' a' w', TRel γ' (updO t o.dst v) nt a'.tmps → a'.defers = [] → WInv γ' σ' w' → Frame γ σ w γ' σ' w' → next a' w') : o.wp P a w next Q := by
  have hT' := hT.2
  by_cases hcl : ∃ f args, co = .call f args
  · obtain ⟨f, args, rfl⟩ := hcl
    simp only [evOp] at he
    split at he
    · rename_i g first captured hf
      obtain ⟨hb, hr⟩ := hcall _ _ _ _ _ he
      -- the machine's operation
      obtain ⟨F, as, ts, hop, hF, has⟩ : ∃ F as ts, o.op = .call { callee := .value F, args := as, argTypes := ts } ∧ compO F = some f ∧ compOs as.toList = some args := by
        obtain ⟨dst, op, ty, pos, af, gd⟩ := o
        cases op <;> simp only [compOp] at hc <;> try (cases hc; done)
        case call c =>
          obtain ⟨cal, as, ts⟩ := c
          cases cal with
          | value F =>
            simp only at hc
            split at hc
            · rename_i f' as' h1 h2
              simp only [Option.some.injEq, COp.call.injEq] at hc
              obtain ⟨rfl, rfl⟩ := hc
              exact ⟨F, as, ts, rfl, h1, h2⟩
            · cases hc
          | invoke r m => simp at hc
          | builtin b =>
            exfalso
            cases b <;> simp only at hc <;> (repeat' (split at hc)) <;> simp at hc
        all_goals
          exfalso
          first
            | (simp only [Option.map_eq_some_iff] at hc; obtain ⟨y, _, hy⟩ := hc; first | cases hy | (split at hy <;> cases hy))
            | ((repeat' (split at hc)) <;> first | (simp at hc; done) | (simp only [Option.map_eq_some_iff] at hc; obtain ⟨y, _, hy⟩ := hc; cases hy))
      have r1 := compO_rel hT' hF
      rw [hf] at r1
      have r2 := compOs_rel hT' has
      have hev : ∃ f' c', a.eval F = .func (.func g) f' c' ∧ VRels γ first f'.toList ∧ VRels γ captured c'.toList := by
        generalize a.eval F = u at r1
        cases r1
        exact ⟨_, _, rfl, by assumption, by assumption⟩
      obtain ⟨f', c', hev, e1, e2⟩ := hev
      have hargs : VRels γ (first ++ args.map (·.ev t) ++ captured) (f'.toList ++ as.toList.map a.eval ++ c'.toList) := (e1.append r2).append e2
      have hrun : (execOp a.eval o).run P w = .ok (.enter g (f'.toList ++ as.toList.map a.eval ++ c'.toList).toArray) w := by
        have harr : (f' ++ as.map a.eval ++ c') = (f'.toList ++ as.toList.map a.eval ++ c'.toList).toArray := by
          apply Array.ext'
          simp
        simp only [execOp, hop, resolve, Deferred.ofValue, hev, Sem.run_bind, Sem.run_pure, Result.andThen_ok, invoke]
        rw [callFunc_run hb, harr]
      unfold Oper.wp
      rw [hrun]
      show Calls P g _ w _
      refine (hr γ w _ hW hargs).mono ?_
      rintro e w' ⟨γ', u, rfl, h1, h2, h3⟩
      exact hn γ' _ w' ((hT.ext h3.ext).putO hd h1 a rfl) (by rw [put_defers]; exact hdef) h2 h3
    · cases he
  · have he' : co.ev t σ = some (v, σ') := by
      cases co <;> first | exact he | exact absurd ⟨_, _, rfl⟩ hcl
    obtain ⟨γ', w', h1, h2, h3⟩ := op_sound hT' hW hc he'
    unfold Oper.wp
    rcases h1 with ⟨rfl, h1⟩ | ⟨u, h1, h4⟩
    · rw [h1]
      exact hn γ' _ w' ((hT.ext h3.ext).putO hd (.undef _) a rfl) (by rw [put_defers]; exact hdef) h2 h3
    · rw [h1]
      exact hn γ' _ w' ((hT.ext h3.ext).putO hd h4 a rfl) (by rw [put_defers]; exact hdef) h2 h3

theorem guard_rel {ops : Array Oper} {o : Oper} {d : Nat} {want b : Bool} {t : Nat → Val} {ts : Array Value} (hT : TRel γ t nt ts) (hg : guardOf nt ops o = some (some (d, want))) (hb : t d = .bool b) :
    Region.wanted o (yielded ops ts) = (b == want) := by
  unfold guardOf at hg
  split at hg
  · simp at hg
  · rename_i j bb hgd
    split at hg
    · rename_i oj hoj
      split at hg
      · rename_i d' hd'
        split at hg
        · rename_i hlt
          simp only [Option.some.injEq, Prod.mk.injEq] at hg
          obtain ⟨rfl, rfl⟩ := hg
          have h1 := hT.2 d'
          rw [hb] at h1
          have h2 : d' < ts.size := by rw [hT.1]; exact hlt
          have h3 : ts[d']? = some (.bool b) := by
            rw [Array.getElem?_eq_getElem h2]
            have h4 : ts.getD d' Go.undef = ts[d'] := by simp [Array.getD, h2]
            rw [h4] at h1
            generalize ts[d'] = u at h1
            cases h1
            rfl
          simp [Region.wanted, hgd, yielded, hoj, hd', h3]
        · cases hg
      · cases hg
    · cases hg

theorem guard_none {ops : Array Oper} {o : Oper} {ts : Array Value} (hg : guardOf nt ops o = some none) : Region.wanted o (yielded ops ts) = true := by
  unfold guardOf at hg
  split at hg
  · rename_i h; simp [Region.wanted, h]
  · (repeat' (split at hg)) <;> simp at hg

theorem steps_sound {call : CallF} (hcall : CallOk P call) {cf : Cfg} {fid : FuncId} {ops : Array Oper} : ∀ (l : List Oper) {ss : List CStep} {γ : Gh} {σ : Hp} {w : World} {t : Nat → Val} {a : Act} {s' : St},
    compSteps P cf fid nt ops l = some ss → evSteps call ss (t, σ) = some s' → TRel γ t nt a.tmps → a.defers = [] → WInv γ σ w → Frame γ0 σ0 w0 γ σ w →
    wpList P ops (Post nt γ0 σ0 w0 .normal s') l a w
  | [], ss, γ, σ, w, t, a, s', hc, he, hT, hdef, hW, hF => by
    simp [compSteps] at hc; subst hc
    simp [evSteps] at he; subst he
    exact ⟨rfl, hdef, γ, hT, hW, hF⟩
  | o :: r, ss, γ, σ, w, t, a, s', hc, he, hT, hdef, hW, hF => by
    simp only [compSteps] at hc
    split at hc
    · rename_i c rs h1 h2
      simp only [Option.some.injEq] at hc; subst hc
      simp only [evSteps] at he
      split at he
      · rename_i s1 hs1
        unfold compStep at h1
        split at h1
        · rename_i co g h3 h4
          split at h1
          · rename_i hdst
            simp only [Option.some.injEq] at h1; subst h1
            refine wpList_step fun K hK => ?_
            have run : ∀ v σ1, evOp call co (t, σ) = some (v, σ1) → evSteps call rs (updO t o.dst v, σ1) = some s' → o.wp P a w K (Post nt γ0 σ0 w0 .normal s') := by
              intro v σ1 hev hrest
              exact evOp_wp hcall hT hW hdef hdst h3 hev fun γ' a' w' k1 k2 k3 k4 => hK _ _ (steps_sound hcall r h2 hrest k1 k2 k3 (hF.trans k4))
            unfold evStep at hs1
            split at hs1
            · rename_i hg
              simp only at hg
              subst hg
              rw [if_pos (guard_none h4)]
              split at hs1
              · rename_i v σ1 hev
                simp only [Option.some.injEq] at hs1; subst hs1
                exact run v σ1 hev he
              · cases hs1
            · rename_i d want hg
              simp only at hg
              subst hg
              split at hs1
              · rename_i b hb
                rw [guard_rel hT h4 hb]
                split at hs1
                · rename_i hbw
                  subst hbw
                  rw [if_pos (by simp)]
                  split at hs1
                  · rename_i v σ1 hev
                    simp only [Option.some.injEq] at hs1; subst hs1
                    exact run v σ1 hev he
                  · cases hs1
                · rename_i hbw
                  rw [if_neg (by simpa using hbw)]
                  simp only [Option.some.injEq] at hs1; subst hs1
                  exact hK _ _ (steps_sound hcall r h2 he (hT.putO hdst (.undef _) a rfl) (by rw [put_defers]; exact hdef) hW hF)
              · cases hs1
          · cases h1
        · cases h1
      · cases he
    · cases hc

end
end Go.Ev
