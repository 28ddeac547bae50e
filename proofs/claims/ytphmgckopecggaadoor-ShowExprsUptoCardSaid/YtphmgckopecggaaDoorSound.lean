/- What the evaluator answers, the machine comes to. -/
import Derived.Test.YtphmgckopecggaaDoorIso
namespace Go.Ev
set_option linter.unusedSectionVars false
variable [Glob]

variable {P : Program} {γ : Gh} {σ σ' : Hp} {w : World}

section
variable {nt : Nat} {γ0 : Gh} {σ0 : Hp} {w0 : World}

theorem code_sound {call : CallF} (hcall : CallOk P call) {fuel : Nat} {cf : Cfg} {fid : FuncId} : ∀ (c : Code) {cc : CCode} {γ : Gh} {σ : Hp} {w : World} {t : Nat → Val} {a : Act} {e : Ex} {s' : St},
    compC P cf fid nt c = some cc → evC call fuel cc (t, σ) = some (e, s') → TRel γ t nt a.tmps → a.defers = [] → WInv γ σ w → Frame γ0 σ0 w0 γ σ w →
    c.wp P (Post nt γ0 σ0 w0 e s') a w := by
  intro c
  induction c with
  | skip =>
    intro cc γ σ w t a e s' hc he hT hdef hW hF
    simp [compC] at hc; subst hc
    simp [evC] at he
    obtain ⟨rfl, rfl⟩ := he
    exact wp_skip ⟨rfl, hdef, γ, hT, hW, hF⟩
  | region id ops draw =>
    intro cc γ σ w t a e s' hc he hT hdef hW hF
    cases draw with
    | false =>
      simp only [compC, Option.map_eq_some_iff] at hc
      obtain ⟨ss, h1, rfl⟩ := hc
      simp only [evC] at he
      split at he
      · rename_i s1 hs
        simp only [Option.some.injEq, Prod.mk.injEq] at he
        obtain ⟨rfl, rfl⟩ := he
        exact wp_region_list (steps_sound hcall _ h1 hs hT hdef hW hF)
      · cases he
    | true =>
      simp only [compC] at hc
      split at hc
      · rename_i hm
        split at hc
        · rename_i ss h1
          split at hc
          · rename_i h2
            simp only [Option.some.injEq] at hc; subst hc
            simp only [Bool.and_eq_true] at h2
            simp only [evC] at he
            split at he
            · rename_i s1 hs
              simp only [Option.some.injEq, Prod.mk.injEq] at he
              obtain ⟨rfl, rfl⟩ := he
              exact region_sound hcall hm h1 h2.1 h2.2 hs hT hdef hW hF
            · cases he
          · cases hc
        · cases hc
      · cases hc
  | seq x y ihx ihy =>
    intro cc γ σ w t a e s' hc he hT hdef hW hF
    simp only [compC] at hc
    split at hc
    · rename_i x' y' h1 h2
      simp only [Option.some.injEq] at hc; subst hc
      simp only [evC] at he
      split at he
      · rename_i s1 hs
        refine wp_seq (wp_mono (ihx h1 hs hT hdef hW hF) ?_)
        rintro e1 a1 w1 ⟨rfl, k2, γ1, k3, k4, k5⟩
        exact ihy h2 he k3 k2 k4 k5
      · rename_i hne
        refine wp_seq (wp_mono (ihx h1 he hT hdef hW hF) ?_)
        intro e1 a1 w1 hp
        have hpe := hp.1
        cases e with
        | normal => exact absurd he (by intro h; exact hne _ h)
        | exit id => simp only [Ex.toExit] at hpe; subst hpe; exact hp
        | ret => simp only [Ex.toExit] at hpe; subst hpe; exact hp
    · cases hc
  | cond q x y ihx ihy =>
    intro cc γ σ w t a e s' hc he hT hdef hW hF
    simp only [compC] at hc
    split at hc
    · rename_i q' x' y' h0 h1 h2
      simp only [Option.some.injEq] at hc; subst hc
      have r1 := compO_rel hT.2 h0
      simp only [evC] at he
      split at he
      · rename_i hb
        rw [hb] at r1
        have : a.eval q = .bool true := by
          generalize a.eval q = u at r1
          cases r1; rfl
        exact wp_cond_true this (ihx h1 he hT hdef hW hF)
      · rename_i hb
        rw [hb] at r1
        have : a.eval q = .bool false := by
          generalize a.eval q = u at r1
          cases r1; rfl
        exact wp_cond_false this (ihy h2 he hT hdef hW hF)
      · cases he
    · cases hc
  | block id b ih =>
    intro cc γ σ w t a e s' hc he hT hdef hW hF
    simp only [compC, Option.map_eq_some_iff] at hc
    obtain ⟨b', h1, rfl⟩ := hc
    simp only [evC] at he
    refine wp_block ?_
    split at he
    · rename_i i s1 hs
      refine wp_mono (ih h1 hs hT hdef hW hF) ?_
      rintro e1 a1 w1 ⟨rfl, k2⟩
      simp only [Ex.toExit, Exit.inBlock]
      split at he
      · rename_i hi
        simp only [Option.some.injEq, Prod.mk.injEq] at he
        obtain ⟨rfl, rfl⟩ := he
        rw [if_pos hi]
        exact ⟨rfl, k2⟩
      · rename_i hi
        simp only [Option.some.injEq, Prod.mk.injEq] at he
        obtain ⟨rfl, rfl⟩ := he
        rw [if_neg hi]
        exact ⟨rfl, k2⟩
    · rename_i hne
      refine wp_mono (ih h1 he hT hdef hW hF) ?_
      intro e1 a1 w1 hp
      have hpe := hp.1
      cases e with
      | normal => simp only [Ex.toExit] at hpe; subst hpe; exact hp
      | exit i => exact absurd he (by intro h; exact hne _ _ h)
      | ret => simp only [Ex.toExit] at hpe; subst hpe; exact hp
  | loop b ih =>
    intro cc γ σ w t a e s' hc he hT hdef hW hF
    simp only [compC, Option.map_eq_some_iff] at hc
    obtain ⟨b', h1, rfl⟩ := hc
    simp only [evC] at he
    have key : ∀ (n : Nat) {γ : Gh} {σ : Hp} {w : World} {t : Nat → Val} {a : Act}, iter (evC call fuel b') n (t, σ) = some (e, s') → TRel γ t nt a.tmps → a.defers = [] → WInv γ σ w → Frame γ0 σ0 w0 γ σ w →
        Code.rounds P b (Post nt γ0 σ0 w0 e s') n a w := by
      intro n
      induction n with
      | zero => intro γ σ w t a h; simp [iter] at h
      | succ n ihn =>
        intro γ σ w t a h hT hdef hW hF
        rw [rounds_succ]
        simp only [iter] at h
        split at h
        · rename_i s1 hs
          refine wp_mono (ih h1 hs hT hdef hW hF) ?_
          rintro e1 a1 w1 ⟨rfl, k2, γ1, k3, k4, k5⟩
          exact ihn h k3 k2 k4 k5
        · rename_i hne
          refine wp_mono (ih h1 h hT hdef hW hF) ?_
          intro e1 a1 w1 hp
          have hpe := hp.1
          cases e with
          | normal => exact absurd h (by intro h; exact hne _ h)
          | exit i => simp only [Ex.toExit] at hpe; subst hpe; exact hp
          | ret => simp only [Ex.toExit] at hpe; subst hpe; exact hp
    exact wp_loop_rounds fuel (key fuel he hT hdef hW hF)
  | exit id =>
    intro cc γ σ w t a e s' hc he hT hdef hW hF
    simp [compC] at hc; subst hc
    simp [evC] at he
    obtain ⟨rfl, rfl⟩ := he
    exact wp_exit ⟨rfl, hdef, γ, hT, hW, hF⟩
  | ret =>
    intro cc γ σ w t a e s' hc he hT hdef hW hF
    simp [compC] at hc; subst hc
    simp [evC] at he
    obtain ⟨rfl, rfl⟩ := he
    exact wp_ret ⟨rfl, hdef, γ, hT, hW, hF⟩
  | rangeFunc f ps x y ihx ihy => intro cc γ σ w t a e s' hc; simp [compC] at hc
  | scope b ih => intro cc γ σ w t a e s' hc; simp [compC] at hc
  | label l => intro cc γ σ w t a e s' hc; simp [compC] at hc
  | goto l => intro cc γ σ w t a e s' hc; simp [compC] at hc
  | refuse s => intro cc γ σ w t a e s' hc; simp [compC] at hc
end

theorem res1_sound {t : Nat → Val} {ts : Array Value} (hT : ∀ i, VRel γ (t i) (ts.getD i Go.undef)) (hW : WInv γ σ w) {r : ResultVar} {c : CRes} {v : Val} (hc : compRes1 P r = some c) (he : evRes1 t σ c = some v) :
    ∃ u, (match r with | .tmp i => pure (ts.getD i Go.undef) | .cell i ty => do loadVar ty (← asAddr (ts.getD i Go.undef)) : Sem Value).run P w = .ok u w ∧ VRel γ v u := by
  cases r with
  | tmp i =>
    simp [compRes1] at hc; subst hc
    simp [evRes1] at he; subst he
    exact ⟨_, rfl, hT i⟩
  | cell i ty =>
    simp only [compRes1] at hc
    split at hc
    · rename_i g n h1 h2
      simp only [Option.some.injEq] at hc; subst hc
      simp only [evRes1] at he
      obtain ⟨b, o, u, hp, k1, us, k2, k3⟩ := loadV_rel hW (hT i) he
      refine ⟨u, ?_, k1⟩
      have := run_loadAt (P := P) (w := w) h1 h2 k2 k3
      simp only [hp, Sem.run_bind, asAddr, Sem.run_pure, Result.andThen_ok]
      simpa [Instr.loadAt, Instr.sureAddr] using this
    · cases hc

theorem ress_sound {t : Nat → Val} {ts : Array Value} (hT : ∀ i, VRel γ (t i) (ts.getD i Go.undef)) (hW : WInv γ σ w) : ∀ {rs : List ResultVar} {cs : List CRes} {vs : List Val}, compRess P rs = some cs → evRess t σ cs = some vs →
    ∃ us, (rs.mapM fun
      | .tmp i => pure (ts.getD i Go.undef)
      | .cell i ty => do loadVar ty (← asAddr (ts.getD i Go.undef)) : Sem (List Value)).run P w = .ok us w ∧ VRels γ vs us
  | [], cs, vs, hc, he => by
    simp [compRess] at hc; subst hc
    simp [evRess] at he; subst he
    exact ⟨[], by simp, .nil⟩
  | r :: rs, cs, vs, hc, he => by
    simp only [compRess] at hc
    split at hc
    · rename_i c cs' h1 h2
      simp only [Option.some.injEq] at hc; subst hc
      simp only [evRess] at he
      split at he
      · rename_i v vs' h3 h4
        simp only [Option.some.injEq] at he; subst he
        obtain ⟨u, k1, k2⟩ := res1_sound (w := w) hT hW h1 h3
        obtain ⟨us, k3, k4⟩ := ress_sound hT hW h2 h4
        refine ⟨u :: us, ?_, .cons k2 k4⟩
        rw [List.mapM_cons]
        simp only [Sem.run_bind, k1, Result.andThen_ok, k3, Sem.run_pure]
      · cases he
    · cases hc

theorem results_sound {t : Nat → Val} {ts : Array Value} (hT : ∀ i, VRel γ (t i) (ts.getD i Go.undef)) (hW : WInv γ σ w) {fn : Func} {cs : List CRes} {vs : List Val} (hc : compRess P fn.results.toList = some cs) (he : evRess t σ cs = some vs) :
    ∃ u, (results fn ts).run P w = .ok u w ∧ VRel γ (oneOr vs) u := by
  obtain ⟨us, h1, h2⟩ := ress_sound hT hW hc he
  have h3 : (fn.results.mapM fun
      | .tmp t => pure (ts.getD t Go.undef)
      | .cell a t => do loadVar t (← asAddr (ts.getD a Go.undef)) : Sem (Array Value)).run P w = .ok us.toArray w := by
    rw [Array.mapM_eq_mapM_toList, Sem.run_map, h1]
    rfl
  refine ⟨if h : us.toArray.size = 1 then us.toArray[0] else .tuple us.toArray, ?_, ?_⟩
  · unfold results
    rw [Sem.run_bind]
    exact (congrArg (fun r : Result (Array Value) => r.andThen fun vs w' => (Pure.pure (if h : vs.size = 1 then vs[0] else .tuple vs) : Sem Value).run P w') h3).trans rfl
  match vs, us, h2 with
  | [], [], .nil => exact .tuple [] #[] .nil
  | [v], [u], .cons k .nil => simpa [oneOr] using k
  | v1 :: v2 :: vs, u1 :: u2 :: us, hh =>
    have : ¬ ((u1 :: u2 :: us).toArray.size = 1) := by simp
    rw [dif_neg this]
    exact .tuple _ _ (by simpa using hh)

/-- What the hooks answer, the machine comes to. -/
def HookOk (P : Program) (H : FuncId → Option Hook) : Prop :=
  ∀ g h args σ v σ', H g = some h → h args σ = some (v, σ') → HasBody P g ∧ ∀ γ w us, WInv γ σ w → VRels γ args us → Calls P g us.toArray w (CallPost v γ σ w σ')

def TableOk (P : Program) (cfg : Cfg) (F : FuncId → Option CFn) : Prop := ∀ g cf, F g = some cf → compFn P cfg g = some cf

theorem body_sound {cfg : Cfg} {call : CallF} (hcall : CallOk P call) {n : Nat} {g : FuncId} {cf : CFn} (hcomp : compFn P cfg g = some cf) : HasBody P g ∧ ∀ {args : List Val} {σ σ' : Hp} {v : Val},
    runBody call n cf args σ = some (v, σ') → ∀ γ w us, WInv γ σ w → VRels γ args us → Calls P g us.toArray w (CallPost v γ σ w σ') := by
  unfold compFn at hcomp
  split at hcomp
  · cases hcomp
  · rename_i fn hfn
    split at hcomp
    · cases hcomp
    · rename_i hname
      split at hcomp
      · cases hcomp
      · rename_i body hbody
        split at hcomp
        · rename_i cb crs hcb hcr
          simp only [Option.some.injEq] at hcomp; subst hcomp
          refine ⟨⟨fn, hfn, by rw [hbody]; rfl, by simpa using hname⟩, ?_⟩
          intro args σ σ' v h γ w us hW hargs
          unfold runBody at h
          split at h
          · rename_i hlen
            refine calls_of_wp hfn hbody ?_
            have hul : us.length = args.length := hargs.length.symm
            have hT : TRel γ (argT args) fn.ntmps (us.toArray ++ Array.replicate (fn.ntmps - us.toArray.size) Go.undef) := by
              simp only at hlen
              refine ⟨by simp; omega, fun i => ?_⟩
              by_cases hi : i < args.length
              · have h1 : (argT args) i = args[i] := by simp [argT, List.getD, hi]
                have h2 : (us.toArray ++ Array.replicate (fn.ntmps - us.toArray.size) Go.undef).getD i Go.undef = us[i]'(by omega) := by
                  rw [Array.getD_eq_getD_getElem?, Array.getElem?_append_left (by simp; omega)]
                  simp [show i < us.length by omega]
                rw [h1, h2]
                obtain ⟨y, h3, h4⟩ := hargs.get (i := i) (x := args[i]) (by simp [hi])
                have h5 : us[i]? = some us[i] := by simp [show i < us.length by omega]
                rw [h5] at h3
                simp only [Option.some.injEq] at h3
                rw [h3]
                exact h4
              · have h1 : (argT args) i = .undef := by simp [argT, List.getD, List.getElem?_eq_none (Nat.le_of_not_lt hi)]
                have h2 : (us.toArray ++ Array.replicate (fn.ntmps - us.toArray.size) Go.undef).getD i Go.undef = Go.undef := by
                  rw [Array.getD_eq_getD_getElem?, Array.getElem?_append_right (by simp; omega), Array.getElem?_replicate]
                  split <;> rfl
                rw [h1, h2]
                exact .undef _
            have hbody' : ∀ e s1, evC call n cb (argT args, σ) = some (e, s1) → body.wp P (Post fn.ntmps γ σ w e s1) { tmps := us.toArray ++ Array.replicate (fn.ntmps - us.toArray.size) Go.undef, defers := [] } w :=
              fun e s1 hev => code_sound hcall body hcb hev hT rfl hW (.refl _ _ _)
            have fin : ∀ (e : Ex) (s1 : St), (e = .normal ∨ e = .ret) → evC call n cb (argT args, σ) = some (e, s1) → (∃ vs, evRess s1.1 s1.2 crs = some vs ∧ v = oneOr vs ∧ σ' = s1.2) →
                body.wp P (bodyPost P fn (CallPost v γ σ w σ')) { tmps := us.toArray ++ Array.replicate (fn.ntmps - us.toArray.size) Go.undef, defers := [] } w := by
              rintro e s1 he hev ⟨vs, hvs, rfl, rfl⟩
              refine wp_mono (hbody' e s1 hev) ?_
              rintro e1 a1 w1 ⟨rfl, k2, γ1, k3, k4, k5⟩
              obtain ⟨u, r1, r2⟩ := results_sound k3.2 k4 hcr hvs
              rcases he with rfl | rfl
              · exact ⟨k2, u, r1, γ1, u, rfl, r2, k4, k5⟩
              · exact ⟨k2, u, r1, γ1, u, rfl, r2, k4, k5⟩
            simp only at h
            split at h
            · rename_i s1 hev
              split at h
              · rename_i vs hvs
                simp only [Option.some.injEq, Prod.mk.injEq] at h
                exact fin .normal s1 (.inl rfl) hev ⟨vs, hvs, h.1.symm, h.2.symm⟩
              · cases h
            · rename_i s1 hev
              split at h
              · rename_i vs hvs
                simp only [Option.some.injEq, Prod.mk.injEq] at h
                exact fin .ret s1 (.inr rfl) hev ⟨vs, hvs, h.1.symm, h.2.symm⟩
              · cases h
            · cases h
          · cases h
        · cases hcomp

theorem evF_sound {cfg : Cfg} {F : FuncId → Option CFn} {H : FuncId → Option Hook} (hF : TableOk P cfg F) (hH : HookOk P H) : ∀ n, CallOk P (evF F H n)
  | 0 => fun g args σ v σ' h => by simp [evF] at h
  | n + 1 => fun g args σ v σ' h => by
    simp only [evF] at h
    split at h
    · rename_i hk hg
      exact hH g hk args σ v σ' hg h
    · split at h
      · cases h
      · rename_i cf hcf
        obtain ⟨hb, hrun⟩ := body_sound (evF_sound hF hH n) (n := n) (hF g cf hcf)
        refine ⟨hb, fun γ w us hW hargs => ?_⟩
        split at h
        · split at h
          · rename_i v1 hp
            simp only [Option.some.injEq, Prod.mk.injEq] at h
            obtain ⟨rfl, rfl⟩ := h
            unfold pureBody at hp
            split at hp
            · rename_i hcl
              split at hp
              · rename_i v2 σ2 hr
                split at hp
                · rename_i hc2
                  simp only [Option.some.injEq] at hp; subst hp
                  exact (hrun hr γ.bare w us hW.bare (@VRels.bareTo _ γ γ.bare (fun _ _ _ h => h) _ _ hargs hcl)).mono fun e w' hpost => CallPost.iso hW hc2 hpost
                · cases hp
              · cases hp
            · cases hp
          · cases h
        · exact hrun h γ w us hW hargs

end Go.Ev
