/- Every operation of the evaluator that calls nothing is the machine's. -/
import Derived.Test.YtphmgckopecggaaDoorOpsM
namespace Go.Ev
set_option linter.unusedSectionVars false
variable [Glob]

variable {P : Program} {γ : Gh} {σ σ' : Hp} {w : World}

theorem execOp_eq (ρ : Operand → Value) (o : Oper) : execOp ρ o = (match o.op with
  | .move x | .assign x => pure (.value (ρ x))
  | .pick c a b => do pure (.value (if ← asBool (ρ c) then ρ a else ρ b))
  | .alloc elem => valOf (Instr.alloc elem true (.tuple #[]))
  | .box elem x => valOf (Instr.box elem (ρ x))
  | .build t parts => valOf (Instr.build t (parts.map fun (i, x) => (i, ρ x)))
  | .buildSlice t len parts => valOf (Instr.buildSlice t len (parts.map fun (i, x) => (i, ρ x)))
  | .load t a => valOf (Instr.loadAt t (ρ a))
  | .store t a x => unitOf (Instr.storeAt t (ρ a) (ρ x))
  | .binOp op xType x y _ => valOf (do eqGuard op xType x y (ρ x) (ρ y); binOp op xType (ρ x) (ρ y))
  | .unOp op _ x => valOf (Op.unary op (ρ x))
  | .convert src dst x => valOf (convert src dst (ρ x))
  | .makeFunc fn first captured => valOf (Instr.makeFunc fn (first.map ρ) (captured.map ρ))
  | .slice t x lo hi mx => valOf (Instr.sliceAt t (ρ x) (lo.map ρ) (hi.map ρ) (mx.map ρ))
  | .fieldAddr s x f => valOf (Instr.fieldAt s (ρ x) f)
  | .field xType x f => valOf (Instr.field xType (ρ x) f)
  | .indexAddr t x ix => valOf (Instr.indexAt t (ρ x) (ρ ix))
  | .index xType x ix => valOf (Instr.index xType (ρ x) (ρ ix))
  | .makeSlice t n c => valOf (Instr.makeSlice t (ρ n) (ρ c))
  | .makeMap t r => valOf (Instr.makeMap t (r.map ρ))
  | .lookup t m k b => valOf (Instr.lookup t (ρ m) (ρ k) b)
  | .mapUpdate t m k x => unitOf (Instr.mapUpdate t (ρ m) (ρ k) (ρ x))
  | .extract t ix => valOf (Instr.extract (ρ t) ix)
  | .call { callee := .builtin b, args := as, argTypes := ts } => builtin b ts o.type (as.map fun | .const _ => true | _ => false) (as.map ρ)
  | _ => execOp ρ o) := by
  obtain ⟨d, op, ty, pos, af, g⟩ := o
  cases op <;> try rfl
  rename_i c
  obtain ⟨cal, as, ts⟩ := c
  cases cal <;> rfl

theorem lst_sizes {s : Nat} {xs : List Val} {o : Own} {u : Value} (h : VRel γ (.lst s xs o) u) : ∀ y ∈ xs, y.cells.length = s := by cases h; assumption
theorem lst_ones {s : Nat} {xs : List Val} {o : Own} {u : Value} (h : VRel γ (.lst s xs o) u) : (flat xs).all Val.one = true := by cases h; assumption
theorem lst_form {s : Nat} {xs : List Val} {o : Own} {u : Value} (h : VRel γ (.lst s xs o) u) : ∃ a c, u = .slice a xs.length c := by
  cases h with
  | lst s xs o a n c us hn => subst hn; exact ⟨a, c, rfl⟩

section
variable {t : Nat → Val} {a : Act} (hT : ∀ i, VRel γ (t i) (a.tmps.getD i Go.undef)) (hW : WInv γ σ w)
include hT hW

theorem op_sound {cf : Cfg} {fid : FuncId} {o : Oper} {co : COp} {v : Val} (hc : compOp P cf fid o = some co) (he : co.ev t σ = some (v, σ')) :
    OpOk γ σ w ((execOp a.eval o).run P w) v σ' := by
  obtain ⟨dst, op, ty, pos, af, g⟩ := o
  rw [execOp_eq]
  cases op <;> simp only [compOp] at hc ⊢ <;> try (cases hc; done)
  case move x | assign x =>
    simp only [Option.map_eq_some_iff] at hc
    obtain ⟨y, h1, rfl⟩ := hc
    simp only [COp.ev, Option.some.injEq, Prod.mk.injEq] at he
    obtain ⟨rfl, rfl⟩ := he
    exact ok_pure hW rfl (compO_rel hT h1)
  case pick c x y =>
    split at hc
    · rename_i c' x' y' h1 h2 h3
      simp only [Option.some.injEq] at hc; subst hc
      have r1 := compO_rel hT h1
      simp only [COp.ev] at he
      split at he
      · rename_i hb
        rw [hb] at r1
        simp only [Option.some.injEq, Prod.mk.injEq] at he
        obtain ⟨rfl, rfl⟩ := he
        generalize a.eval c = ec at r1
        cases r1
        exact ok_pure hW (by simp [asBool]) (compO_rel hT h2)
      · rename_i hb
        rw [hb] at r1
        simp only [Option.some.injEq, Prod.mk.injEq] at he
        obtain ⟨rfl, rfl⟩ := he
        generalize a.eval c = ec at r1
        cases r1
        exact ok_pure hW (by simp [asBool]) (compO_rel hT h3)
      · cases he
    · cases hc
  case alloc e =>
    split at hc
    · rename_i z hz
      split at hc
      · rename_i h1
        simp only [Option.some.injEq] at hc; subst hc
        simp only [COp.ev, Option.some.injEq, Prod.mk.injEq] at he
        obtain ⟨rfl, rfl⟩ := he
        exact ok_alloc hW hz h1
      · cases hc
    · cases hc
  case box e x =>
    simp only [Option.map_eq_some_iff] at hc
    obtain ⟨y, h1, rfl⟩ := hc
    split at he
    · simp only [COp.ev] at he
      split at he
      · rename_i hst
        simp only [Option.some.injEq, Prod.mk.injEq] at he
        obtain ⟨rfl, rfl⟩ := he
        exact ok_boxI hW (compO_rel hT h1) hst
      · cases he
    · simp only [COp.ev] at he
      split at he
      · rename_i hst
        simp only [Option.some.injEq, Prod.mk.injEq] at he
        obtain ⟨rfl, rfl⟩ := he
        exact ok_boxM hW (compO_rel hT h1) hst
      · cases he
  case build ty ps =>
    split at hc
    · rename_i z fs hz hu
      split at hc
      · rename_i hfs
        simp only [Bool.and_eq_true] at hfs
        simp only [Option.map_eq_some_iff] at hc
        obtain ⟨qs, h1, rfl⟩ := hc
        simp only [COp.ev] at he
        split at he
        · rename_i cs hf
          simp only [Option.some.injEq, Prod.mk.injEq] at he
          obtain ⟨rfl, rfl⟩ := he
          exact ok_buildS hW hT hz hu hfs.1 h1 hf hfs.2
        · cases he
      · cases hc
    · rename_i z ln e hz hu
      split at hc
      · rename_i sz hs
        split at hc
        · rename_i h1z
          simp only [Option.map_eq_some_iff] at hc
          obtain ⟨qs, h1, rfl⟩ := hc
          simp only [COp.ev] at he
          split at he
          · rename_i cs hf
            simp only [Option.some.injEq, Prod.mk.injEq] at he
            obtain ⟨rfl, rfl⟩ := he
            exact ok_buildA hW hT hz hu hs h1 hf h1z
          · cases he
        · cases hc
      · cases hc
    · cases hc
  case buildSlice ty n ps =>
    split at hc
    · rename_i e hu
      split at hc
      · rename_i sz z hs hz
        split at hc
        · rename_i hcd
          obtain ⟨c1, c2, c3, c4⟩ := hcd
          simp only [Option.map_eq_some_iff] at hc
          obtain ⟨qs, h1, rfl⟩ := hc
          simp only [COp.ev] at he
          split at he
          · rename_i cs hf
            simp only [Option.some.injEq, Prod.mk.injEq] at he
            obtain ⟨rfl, rfl⟩ := he
            exact ok_buildSl hW hT hu hs hz c1 c2 c3 c4 h1 hf
          · cases he
        · cases hc
      · cases hc
    · cases hc
  case load ty x =>
    split at hc
    · rename_i g n y h1 h2 h3
      simp only [Option.some.injEq] at hc; subst hc
      simp only [COp.ev] at he
      split at he
      · rename_i r hl
        simp only [Option.some.injEq, Prod.mk.injEq] at he
        obtain ⟨rfl, rfl⟩ := he
        exact ok_load hW h1 h2 (compO_rel hT h3) hl
      · cases he
    · cases hc
  case store ty x y =>
    split at hc
    · rename_i n x' y' h1 h2 h3
      simp only [Option.some.injEq] at hc; subst hc
      simp only [COp.ev] at he
      split at he
      · rename_i r hl
        simp only [Option.some.injEq, Prod.mk.injEq] at he
        obtain ⟨rfl, rfl⟩ := he
        exact ok_store hW h1 (compO_rel hT h2) (compO_rel hT h3) hl
      · cases he
    · cases hc
  case nilCheck x =>
    simp only [Option.map_eq_some_iff] at hc
    obtain ⟨y, h1, rfl⟩ := hc
    have r1 := compO_rel hT h1
    simp only [COp.ev] at he
    simp only [execOp]
    split at he
    · rename_i p hp
      rw [hp] at r1
      simp only [Option.some.injEq, Prod.mk.injEq] at he
      obtain ⟨rfl, rfl⟩ := he
      generalize a.eval x = u at r1
      have r2 := r1
      cases r1
      exact ok_pure hW rfl r2
    · rename_i p hp
      rw [hp] at r1
      simp only [Option.some.injEq, Prod.mk.injEq] at he
      obtain ⟨rfl, rfl⟩ := he
      generalize a.eval x = u at r1
      have r2 := r1
      cases r1
      exact ok_pure hW rfl r2
    · rename_i f p q hp
      rw [hp] at r1
      simp only [Option.some.injEq, Prod.mk.injEq] at he
      obtain ⟨rfl, rfl⟩ := he
      generalize a.eval x = u at r1
      have r2 := r1
      cases r1
      exact ok_pure hW rfl r2
    · cases he
  case binOp op ty x y ty2 =>
    split at hc
    · rename_i e x' y' h1 h2 h3
      simp only [Option.some.injEq] at hc; subst hc
      simp only [COp.ev] at he
      split at he
      · rename_i r hl
        simp only [Option.some.injEq, Prod.mk.injEq] at he
        obtain ⟨rfl, rfl⟩ := he
        exact ok_bin hW h1 (compO_rel hT h2) (compO_rel hT h3) hl
      · cases he
    · cases hc
  case unOp op ty x =>
    simp only [Option.map_eq_some_iff] at hc
    obtain ⟨y, h1, rfl⟩ := hc
    simp only [COp.ev] at he
    split at he
    · rename_i r hl
      simp only [Option.some.injEq, Prod.mk.injEq] at he
      obtain ⟨rfl, rfl⟩ := he
      exact ok_un hW (compO_rel hT h1) hl
    · cases he
  case convert s d x =>
    split at hc
    · rename_i k' k y h1 h2 h3
      simp only [Option.some.injEq] at hc; subst hc
      have r1 := compO_rel hT h3
      simp only [COp.ev] at he
      split at he
      · rename_i l n hl
        rw [hl] at r1
        simp only [Option.some.injEq, Prod.mk.injEq] at he
        obtain ⟨rfl, rfl⟩ := he
        exact ok_cvInt hW h1 h2 r1
      · cases he
    · rename_i y h1 h2 h3
      simp only [Option.some.injEq] at hc; subst hc
      have r1 := compO_rel hT h3
      simp only [COp.ev] at he
      split at he
      · rename_i n hl
        rw [hl] at r1
        simp only [Option.some.injEq, Prod.mk.injEq] at he
        obtain ⟨rfl, rfl⟩ := he
        exact ok_cvSame hW h1 h2 r1
      · cases he
    · rename_i e y h1 h2 h3
      split at hc
      · rename_i h4
        simp only [Option.some.injEq] at hc; subst hc
        have r1 := compO_rel hT h3
        simp only [COp.ev] at he
        split at he
        · rename_i sz xs o hl
          rw [hl] at r1
          split at he
          · rename_i l hb
            simp only [Option.some.injEq, Prod.mk.injEq] at he
            obtain ⟨rfl, rfl⟩ := he
            exact ok_cvToStr hW h1 h4 h2 r1 hb
          · cases he
        · cases he
      · cases hc
    · rename_i e y h1 h2 h3
      split at hc
      · rename_i h4
        simp only [Option.some.injEq] at hc; subst hc
        have r1 := compO_rel hT h3
        simp only [COp.ev] at he
        split at he
        · rename_i b hl
          rw [hl] at r1
          simp only [Option.some.injEq, Prod.mk.injEq] at he
          obtain ⟨rfl, rfl⟩ := he
          exact ok_cvToBytes hW h1 h4 h2 r1
        · cases he
      · cases hc
    · rename_i e0 e y h1 h2 h3
      split at hc
      · rename_i h4
        split at hc
        · rename_i hsd
          subst hsd
          simp only [Option.some.injEq] at hc; subst hc
          have r1 := compO_rel hT h3
          simp only [COp.ev] at he
          split at he
          · rename_i xs hl
            rw [hl] at r1
            simp only [Option.some.injEq, Prod.mk.injEq] at he
            obtain ⟨rfl, rfl⟩ := he
            exact ok_mark hW h2 h4 r1
          · cases he
        · cases hc
      · cases hc
    · cases hc
  case makeSlice ty n m =>
    split at hc
    · rename_i e n' m' hu h1 h2
      split at hc
      · rename_i sz by_ z h3 h4 h5
        split at hc
        · rename_i hcd
          obtain ⟨c1, c2, c3, c4⟩ := hcd
          simp only [Option.some.injEq] at hc; subst hc
          simp only [COp.ev] at he
          exact ok_mkSl hW hu h3 h4 h5 c1 c2 c4 (compO_rel hT h1) (compO_rel hT h2) he
        · cases hc
      · cases hc
    · cases hc
  case makeMap ty r =>
    split at hc
    · rename_i hr
      have hr' : r = none := by simpa using hr
      subst hr'
      simp only [Option.some.injEq] at hc; subst hc
      simp only [COp.ev, Option.some.injEq, Prod.mk.injEq] at he
      obtain ⟨rfl, rfl⟩ := he
      exact ok_mkMap hW
    · cases hc
  case lookup ty m k b =>
    split at hc
    · rename_i q e m' k' hu h1 h2
      split at hc
      · rename_i z hz
        split at hc
        · rename_i kt hkt
          simp only [Option.some.injEq] at hc; subst hc
          simp only [COp.ev] at he
          split at he
          · rename_i r hl
            simp only [Option.some.injEq, Prod.mk.injEq] at he
            obtain ⟨rfl, rfl⟩ := he
            exact ok_lookup hW hu hkt hz (compO_rel hT h1) (compO_rel hT h2) hl
          · cases he
        · cases hc
      · cases hc
    · cases hc
  case mapUpdate ty m k x =>
    split at hc
    · rename_i q e m' k' x' hu h1 h2 h3
      split at hc
      · rename_i kt hkt
        simp only [Option.some.injEq] at hc; subst hc
        simp only [COp.ev] at he
        split at he
        · rename_i r hl
          simp only [Option.some.injEq, Prod.mk.injEq] at he
          obtain ⟨rfl, rfl⟩ := he
          exact ok_mapSet hW hu hkt (compO_rel hT h1) (compO_rel hT h2) (compO_rel hT h3) hl
        · cases he
      · cases hc
    · cases hc
  case makeFunc fn fs cs =>
    split at hc
    · rename_i x y h1 h2
      simp only [Option.some.injEq] at hc; subst hc
      simp only [COp.ev, Option.some.injEq, Prod.mk.injEq] at he
      obtain ⟨rfl, rfl⟩ := he
      refine ok_val hW (u := .func fn (fs.map a.eval) (cs.map a.eval)) rfl (.func _ _ _ _ _ ?_ ?_)
      · simpa using compOs_rel hT h1
      · simpa using compOs_rel hT h2
    · cases hc
  case slice ty x lo hi mx =>
    split at hc
    · rename_i x' lo' hi' mx' h1 h2 h3 h4
      split at hc
      · rename_i e hu
        simp only [Option.map_eq_some_iff] at hc
        obtain ⟨sz, h5, rfl⟩ := hc
        have r1 := compO_rel hT h1
        simp only [COp.ev] at he
        split at he
        · rename_i s xs o hl
          rw [hl] at r1
          split at he
          · rename_i hs
            split at he
            · rename_i r hr
              simp only [Option.some.injEq, Prod.mk.injEq] at he
              obtain ⟨rfl, rfl⟩ := he
              exact ok_sliceL hW hu h5 r1 hs (compOO_rel hT h2) (compOO_rel hT h3) (compOO_rel hT h4) hr
            · cases he
          · cases he
        · rename_i s id off n hl
          rw [hl] at r1
          split at he
          · rename_i hcd
            obtain ⟨rfl, hmm⟩ := hcd
            have hmx : mx = none := by
              cases mx with
              | none => rfl
              | some m =>
                simp only [compOO, Option.map_eq_some_iff] at h4
                obtain ⟨q, _, rfl⟩ := h4
                simp at hmm
            subst hmx
            split at he
            · rename_i h' hh
              split at he
              · rename_i l hll
                simp only [Option.some.injEq, Prod.mk.injEq] at he
                obtain ⟨rfl, rfl⟩ := he
                exact ok_sliceR hW hu h5 r1 (compOO_rel hT h2) (compOO_rel hT h3) hh hll
              · cases he
            · cases he
          · cases he
        · cases he
      · rename_i hu
        split at hc
        · rename_i hm
          simp only [Option.some.injEq] at hc; subst hc
          have r1 := compO_rel hT h1
          have hmx : mx = none := by
            cases mx with
            | none => rfl
            | some m =>
              simp only [compOO, Option.map_eq_some_iff] at h4
              obtain ⟨q, _, rfl⟩ := h4
              simp at hm
          subst hmx
          simp only [COp.ev] at he
          split at he
          · rename_i s hl
            rw [hl] at r1
            split at he
            · rename_i h' hh
              split at he
              · rename_i l hll
                simp only [Option.some.injEq, Prod.mk.injEq] at he
                obtain ⟨rfl, rfl⟩ := he
                exact ok_sliceS hW hu r1 (compOO_rel hT h2) (compOO_rel hT h3) hh hll
              · cases he
            · cases he
          · cases he
        · cases hc
      · cases hc
    · cases hc
  case fieldAddr s x i =>
    split at hc
    · rename_i fs x' hu h1
      split at hc
      · rename_i f hf
        split at hc
        · rename_i n hn
          simp only [Option.some.injEq] at hc; subst hc
          have r1 := compO_rel hT h1
          simp only [COp.ev] at he
          split at he
          · rename_i i' o' hl
            rw [hl] at r1
            simp only [Option.some.injEq, Prod.mk.injEq] at he
            obtain ⟨rfl, rfl⟩ := he
            exact ok_faddr hW hu hf hn r1 rfl
          · rename_i vs hl
            rw [hl] at r1
            simp only [Option.some.injEq, Prod.mk.injEq] at he
            obtain ⟨rfl, rfl⟩ := he
            exact ok_faddr hW hu hf hn r1 rfl
          · cases he
        · cases hc
      · cases hc
    · cases hc
  case field s x i =>
    split at hc
    · rename_i fs x' hu h1
      split at hc
      · rename_i f hf
        split at hc
        · rename_i g n hg hn
          simp only [Option.some.injEq] at hc; subst hc
          have r1 := compO_rel hT h1
          simp only [COp.ev] at he
          split at he
          · rename_i cs hl
            rw [hl] at r1
            split at he
            · rename_i r hr
              simp only [Option.some.injEq, Prod.mk.injEq] at he
              obtain ⟨rfl, rfl⟩ := he
              exact ok_fld hW hu hf hg hn r1 hr
            · cases he
          · cases he
        · cases hc
      · cases hc
    · cases hc
  case indexAddr ty x i =>
    split at hc
    · rename_i e x' i' hu h1 h2
      simp only [Option.map_eq_some_iff] at hc
      obtain ⟨sz, hs, rfl⟩ := hc
      have r1 := compO_rel hT h1
      have r2 := compO_rel hT h2
      simp only [COp.ev] at he
      split at he
      · rename_i s xs o k j hl hk
        rw [hl] at r1
        rw [hk] at r2
        split at he
        · rename_i hcd
          obtain ⟨c1, c2, rfl⟩ := hcd
          split at he
          · rename_i r hr
            simp only [Option.some.injEq, Prod.mk.injEq] at he
            obtain ⟨rfl, rfl⟩ := he
            exact ok_iaddrL hW hu hs r1 r2 ⟨c1, c2⟩ hr
          · cases he
        · cases he
      · rename_i s id off n k j hl hk
        rw [hl] at r1
        rw [hk] at r2
        split at he
        · rename_i hcd
          obtain ⟨c1, c2, rfl⟩ := hcd
          simp only [Option.some.injEq, Prod.mk.injEq] at he
          obtain ⟨rfl, rfl⟩ := he
          exact ok_iaddrR hW hu hs r1 r2 ⟨c1, c2⟩
        · cases he
      · cases he
    · rename_i ln e x' i' hu h1 h2
      simp only [Option.map_eq_some_iff] at hc
      obtain ⟨sz, hs, rfl⟩ := hc
      have r1 := compO_rel hT h1
      have r2 := compO_rel hT h2
      simp only [COp.ev] at he
      split at he
      · rename_i id o k j hl hk
        rw [hl] at r1
        rw [hk] at r2
        split at he
        · rename_i hcd
          simp only [Option.some.injEq, Prod.mk.injEq] at he
          obtain ⟨rfl, rfl⟩ := he
          exact ok_iaddrA hW hu hs r1 r2 hcd rfl
        · cases he
      · rename_i vs k j hl hk
        rw [hl] at r1
        rw [hk] at r2
        split at he
        · rename_i hcd
          simp only [Option.some.injEq, Prod.mk.injEq] at he
          obtain ⟨rfl, rfl⟩ := he
          exact ok_iaddrA hW hu hs r1 r2 hcd rfl
        · cases he
      · cases he
    · cases hc
  case index ty x i =>
    split at hc
    · rename_i x' i' hu h1 h2
      simp only [Option.some.injEq] at hc; subst hc
      have r1 := compO_rel hT h1
      have r2 := compO_rel hT h2
      simp only [COp.ev] at he
      split at he
      · rename_i s k j hl hk
        rw [hl] at r1
        rw [hk] at r2
        split at he
        · rename_i hcd
          split at he
          · rename_i r hr
            simp only [Option.some.injEq, Prod.mk.injEq] at he
            obtain ⟨rfl, rfl⟩ := he
            exact ok_idxS hW hu r1 r2 hcd hr
          · cases he
        · cases he
      · cases he
    · rename_i ln e x' i' hu h1 h2
      split at hc
      · rename_i g sz hg hs
        simp only [Option.some.injEq] at hc; subst hc
        have r1 := compO_rel hT h1
        have r2 := compO_rel hT h2
        simp only [COp.ev] at he
        split at he
        · rename_i cs k j hl hk
          rw [hl] at r1
          rw [hk] at r2
          split at he
          · rename_i hcd
            split at he
            · rename_i r hr
              simp only [Option.some.injEq, Prod.mk.injEq] at he
              obtain ⟨rfl, rfl⟩ := he
              exact ok_idxA hW hu hg hs r1 r2 hcd hr
            · cases he
          · cases he
        · cases he
      · cases hc
    · cases hc
  case extract x i =>
    simp only [Option.map_eq_some_iff] at hc
    obtain ⟨y, h1, rfl⟩ := hc
    have r1 := compO_rel hT h1
    simp only [COp.ev] at he
    split at he
    · rename_i vs hl
      rw [hl] at r1
      split at he
      · rename_i r hr
        simp only [Option.some.injEq, Prod.mk.injEq] at he
        obtain ⟨rfl, rfl⟩ := he
        generalize a.eval x = u at r1
        cases r1 with
        | tuple cs us hv =>
          obtain ⟨s, h2, h3⟩ := hv.get hr
          have h4 : us[i]? = some s := by simpa using h2
          exact ok_val hW (by simp [Instr.extract, h4]) h3
      · cases he
    · cases he
  case call c =>
    obtain ⟨cal, as, ts⟩ := c
    cases cal with
    | value f =>
      simp only at hc
      split at hc
      · simp only [Option.some.injEq] at hc; subst hc
        simp [COp.ev] at he
      · cases hc
    | invoke r m => simp at hc
    | builtin b =>
      cases b <;> simp only at hc <;> try (cases hc; done)
      case append =>
        split at hc
        · rename_i x y tt uu ha ht
          obtain rfl : as = #[x, y] := by cases as; simpa using ha
          obtain rfl : ts = #[tt, uu] := by cases ts; simpa using ht
          split at hc
          · rename_i x' y' e h1 h2 hu
            have r1 := compO_rel hT h1
            have r2 := compO_rel hT h2
            have key : ∀ (sz by_ : Nat), szOf P e = some sz → byOf P e = some by_ → zeroIs P e sz = true → 1 ≤ sz → ((∃ q, P.underlying uu = some (.slice q)) ∨ (P.underlying uu = some .string)) →
                appV (cf.ref fid) sz by_ (x'.ev t) (y'.ev t) σ = some (v, σ') → OpOk γ σ w ((valOf (Builtin.append_ #[tt, uu] ty #[a.eval x, a.eval y])).run P w) v σ' := by
              intro sz by_ hs hb hz hsz1 huu hap
              have hz' : ∃ z, zeroOf P e = some z ∧ z.cells.length = sz := by
                unfold zeroIs at hz
                split at hz
                · exact ⟨_, ‹_›, by simpa using hz⟩
                · cases hz
              unfold appV at hap
              split at hap
              · -- nothing
                rename_i hsv
                obtain ⟨news, n1, n2, n3, n4⟩ := source_any (P := P) hW r2 hsv
                have hn0 : news = [] := List.eq_nil_of_length_eq_zero (by have := n1.size; simpa using this)
                subst hn0
                have hx : (x'.ev t) = v ∧ σ = σ' ∧ ∃ b n c, a.eval x = .slice b n c ∧ n ≤ c := by
                  split at hap
                  · rename_i s xs o hxv
                    rw [hxv] at r1
                    split at hap
                    · simp only [Option.some.injEq, Prod.mk.injEq] at hap
                      refine ⟨hxv.trans hap.1, hap.2, ?_⟩
                      generalize a.eval x = u at r1
                      cases r1 with
                      | lst s xs o a n c us hn hc => exact ⟨_, _, _, rfl, hc⟩
                    · cases hap
                  · rename_i s id off n hxv
                    rw [hxv] at r1
                    split at hap
                    · simp only [Option.some.injEq, Prod.mk.injEq] at hap
                      refine ⟨hxv.trans hap.1, hap.2, ?_⟩
                      generalize a.eval x = u at r1
                      cases r1 with
                      | ref _ _ _ _ c b e o hr hs hc he ho => exact ⟨_, _, _, rfl, hc⟩
                    · cases hap
                  · cases hap
                obtain ⟨hx1, rfl, hx3⟩ := hx
                rw [hx1] at r1
                exact ok_app0 hW hu huu hs r1 hx3 n1
              · rename_i y0 ys hsv
                obtain ⟨news, n1, n2, n3, n4⟩ := source_any (P := P) hW r2 hsv
                split at hap
                · rename_i s xs o h5 h6
                  rw [h6] at r1
                  split at hap
                  · rename_i hcd
                    exact ok_app hW hu huu hs hb hz' hcd n3 r1 n1 n2 n4 (.inr ⟨by simp, hap⟩)
                  · cases hap
                · exact ok_appR hW hu huu hs hb hz' n3 hsz1 r1 n1 n2 n4 (by simp) hap
                · cases hap
              · cases hap
            split at hc
            · rename_i sz by_ q h3 h4 h5
              split at hc
              · rename_i hcd
                simp only [Option.some.injEq] at hc; subst hc
                show OpOk γ σ w ((valOf (Builtin.append_ #[tt, uu] ty (#[x, y].map a.eval))).run P w) v σ'
                rw [show #[x, y].map a.eval = #[a.eval x, a.eval y] from by simp]
                exact key sz by_ h3 h4 hcd.2.2 hcd.2.1 (.inl ⟨q, h5⟩) (by simpa [COp.ev] using he)
              · cases hc
            · rename_i sz by_ h3 h4 h5
              split at hc
              · rename_i hcd
                simp only [Option.some.injEq] at hc; subst hc
                show OpOk γ σ w ((valOf (Builtin.append_ #[tt, uu] ty (#[x, y].map a.eval))).run P w) v σ'
                rw [show #[x, y].map a.eval = #[a.eval x, a.eval y] from by simp]
                exact key sz by_ h3 h4 hcd.2.2 (by rw [hcd.2.1]; exact Nat.le_refl _) (.inr h5) (by simpa [COp.ev] using he)
              · cases hc
            · cases hc
          · cases hc
        · cases hc
      case delete =>
        split at hc
        · rename_i m k tt r' ha ht
          obtain rfl : as = #[m, k] := by cases as; simpa using ha
          have h0' : ts[0]? = some tt := by cases ts; simp at ht; simp [ht]
          split at hc
          · rename_i q e m' k' hu h1 h2
            split at hc
            · rename_i kt hkt
              simp only [Option.some.injEq] at hc; subst hc
              simp only [COp.ev] at he
              split at he
              · rename_i r hl
                simp only [Option.some.injEq, Prod.mk.injEq] at he
                obtain ⟨rfl, rfl⟩ := he
                show OpOk γ σ w ((valOf (Builtin.delete_ ts ty (#[m, k].map a.eval))).run P w) .undef _
                rw [show #[m, k].map a.eval = #[a.eval m, a.eval k] from by simp]
                exact ok_del hW hu hkt (compO_rel hT h1) (compO_rel hT h2) hl h0'
              · cases he
            · cases hc
          · cases hc
        · cases hc
      case len =>
        split at hc
        · rename_i x r tt r' ha ht
          have h0 : as[0]? = some x := by cases as; simp at ha; simp [ha]
          have h0' : ts[0]? = some tt := by cases ts; simp at ht; simp [ht]
          have h2 : (as.map a.eval)[0]? = some (a.eval x) := by simp [h0]
          have fin : ∀ (u : Value) (n : Int), a.eval x = u → (Builtin.len_ ts ty (as.map a.eval)).run P w = .ok (.int .i64 n) w → COp.ev t σ (.mv (.c (.int .i64 n))) = some (v, σ') →
              OpOk γ σ w ((builtin .len ts ty (as.map fun | .const _ => true | _ => false) (as.map a.eval)).run P w) v σ' := by
            intro u n hu hr he
            simp only [COp.ev, CO.ev, Option.some.injEq, Prod.mk.injEq] at he
            obtain ⟨rfl, rfl⟩ := he
            exact ok_val hW hr (.int _ _)
          split at hc
          · rename_i x' q h1 hu
            simp only [Option.some.injEq] at hc; subst hc
            have r1 := compO_rel hT h1
            simp only [COp.ev] at he
            split at he
            · rename_i r hr
              unfold lenV at hr
              split at hr
              · rename_i hs hx; rw [hx] at r1
                obtain ⟨ad, c, hf⟩ := lst_form r1
                simp only [Option.some.injEq] at hr; subst hr
                refine fin _ _ hf ?_ he
                rw [hf] at h2
                simp [Builtin.len_, h0', h2, run_underlying hu, goInt]
              · rename_i s0 i0 o0 n0 hs hx; rw [hx] at r1
                have hf : ∃ b c, a.eval x = .slice b n0 c := by
                  generalize a.eval x = u at r1
                  cases r1
                  exact ⟨_, _, rfl⟩
                obtain ⟨b, c, hf⟩ := hf
                simp only [Option.some.injEq] at hr; subst hr
                refine fin _ _ hf ?_ he
                rw [hf] at h2
                simp [Builtin.len_, h0', h2, run_underlying hu, goInt]
              · rename_i hs hx; cases hs
              · cases hr
            · cases he
          · rename_i x' h1 hu
            simp only [Option.some.injEq] at hc; subst hc
            have r1 := compO_rel hT h1
            simp only [COp.ev] at he
            split at he
            · rename_i r hr
              unfold lenV at hr
              split at hr
              · rename_i hs hx; cases hs
              · rename_i hs hx; cases hs
              · rename_i b hs hx; rw [hx] at r1
                have hf : a.eval x = .string b := by
                  generalize a.eval x = u at r1
                  cases r1
                  rfl
                simp only [Option.some.injEq] at hr; subst hr
                refine fin _ _ hf ?_ he
                rw [hf] at h2
                simp [Builtin.len_, h0', h2, run_underlying hu, goInt]
              · cases hr
            · cases he
          · cases hc
        · cases hc
      case max | min =>
        split at hc
        · rename_i x y ha
          obtain rfl : as = #[x, y] := by cases as; simpa using ha
          split at hc
          · rename_i x' y' h1 h2
            simp only [Option.some.injEq] at hc; subst hc
            have r1 := compO_rel hT h1
            have r2 := compO_rel hT h2
            simp only [COp.ev] at he
            split at he
            · rename_i k p l q hp hq
              rw [hp] at r1
              rw [hq] at r2
              simp only [Option.some.injEq, Prod.mk.injEq] at he
              obtain ⟨rfl, rfl⟩ := he
              have hx : a.eval x = .int k p := by
                generalize a.eval x = ux at r1
                cases r1
                rfl
              have hy : a.eval y = .int l q := by
                generalize a.eval y = uy at r2
                cases r2
                rfl
              first
                | (show OpOk γ σ w ((valOf (Builtin.max_ ts ty (#[x, y].map a.eval))).run P w) _ _
                   refine ok_val hW ?_ (.int _ _)
                   simp [Builtin.max_, hx, hy, Builtin.max2]
                   done)
                | (show OpOk γ σ w ((valOf (Builtin.min_ ts ty (#[x, y].map a.eval))).run P w) _ _
                   refine ok_val hW ?_ (.int _ _)
                   simp [Builtin.min_, hx, hy, Builtin.min2]
                   done)
            · cases he
          · cases hc
        · cases hc
end
end Go.Ev
