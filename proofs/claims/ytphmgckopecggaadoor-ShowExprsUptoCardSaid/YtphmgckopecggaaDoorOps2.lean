/- More operations: comparing, sums, conversions, slices. -/
import Derived.Test.YtphmgckopecggaaDoorOps
import Derived.Laws.StructEq
namespace Go.Ev
set_option linter.unusedSectionVars false
variable [Glob]

variable {P : Program} {γ : Gh} {σ σ' : Hp} {w : World}

/-! a slice literal -/

theorem repZ_succ (n : Nat) (z : List Val) : repZ (n + 1) z = z ++ repZ n z := by simp [repZ, List.replicate_succ]

theorem zeros_rel {z : List Val} {zu : Array Value} (hz : VRels γ z zu.toList) (hs : 0 < zu.size) : ∀ n : Nat,
    VRels γ (repZ n z) ((List.range (n * zu.size)).map fun j => zu[j % zu.size]!)
  | 0 => by simpa [repZ] using VRels.nil
  | n + 1 => by
    have h1 : (List.range ((n + 1) * zu.size)).map (fun j => zu[j % zu.size]!) = zu.toList ++ (List.range (n * zu.size)).map fun j => zu[j % zu.size]! := by
      rw [show (n + 1) * zu.size = zu.size + n * zu.size by rw [Nat.add_mul]; omega, List.range_add, List.map_append, List.map_map]
      congr 1
      · apply List.ext_getElem
        · simp
        · intro i h1 h2
          have h3 : i < zu.size := by simpa using h1
          simp [Nat.mod_eq_of_lt h3, h3]
      · apply List.map_congr_left
        intro j _
        simp
    rw [repZ_succ, h1]
    exact hz.append (zeros_rel hz hs n)

theorem ok_buildSl (hW : WInv γ σ w) {t : Nat → Val} {a : Act} (hT : ∀ i, VRel γ (t i) (a.tmps.getD i Go.undef)) {ty e : TypeId} {n sz : Nat} {z : Val} {ps : Array (Nat × Operand)} {qs : List (Nat × Nat × CO)} {cs : List Val}
    (hu : P.underlying ty = some (.slice e)) (hs : szOf P e = some sz) (hz : zeroOf P e = some z) (hzl : z.cells.length = sz) (h1 : 1 ≤ sz) (hn : n * sz ≤ 1048576) (hone : allOne z.cells = true)
    (hp : partsA sz ps.toList = some qs) (hf : fillV (repZ n z.cells) (qs.map fun (o, k, x) => (o, k, x.ev t)) = some cs) :
    OpOk γ σ w ((valOf (Instr.buildSlice ty n (ps.map fun (i, x) => (i, a.eval x)))).run P w) (.lst sz (chunks sz n cs) .mine) σ := by
  obtain ⟨zu, hz1, hz2⟩ := zeroOf_run (γ := γ) (w := w) hz
  have hzc := hz2.cells
  have hzs : zu.cells.size = sz := by have := hzc.length; simp at this; omega
  have hz0 := zeros_rel hzc (by omega) n
  rw [hzs] at hz0
  have hrone : (repZ n z.cells).all Val.one = true := by
    unfold allOne at hone
    clear hf hz0
    induction n with
    | zero => simp [repZ]
    | succ n ih => rw [repZ_succ, List.all_append, hone, ih (by rw [Nat.add_mul] at hn; omega)]; rfl
  have hrl : (repZ n z.cells).length = n * sz := by
    clear hf hz0 hrone
    induction n with
    | zero => simp [repZ]
    | succ n ih => rw [repZ_succ, List.length_append, hzl, ih (by rw [Nat.add_mul] at hn; omega), Nat.add_mul]; omega
  obtain ⟨f1, f2⟩ := fillV_one _ (partsA_ok hT hp).one hf hrone
  obtain ⟨c1, c2⟩ := chunks_flat sz n cs (by rw [f2, hrl]) f1
  obtain ⟨us', h5, h6⟩ := fill_rel (us := ((Array.range (n * sz)).map fun j => zu.cells[j % zu.cells.size]!)) (partsA_ok hT hp) (by simpa [hzs] using hz0) hf
  obtain ⟨h7, h8⟩ := hW.newLit us' e
  refine ⟨_, _, .inr ⟨.slice (some ⟨w.heap.size, 0, none⟩) n n, run_valOf ?_, ?_⟩, h7, h8⟩
  · have h24 : ¬ (n * sz > 2 ^ 24) := by omega
    simp only [Instr.buildSlice, Sem.run_bind, run_underlying hu, Result.andThen_ok, szOf_run hs]
    rw [if_neg h24]
    by_cases h0 : n * sz = 0
    · rw [if_pos h0]
      rw [h0] at h5
      simp only [Sem.run_bind, Sem.run_pure, Result.andThen_ok, h0]
      have h5' : Instr.fill (fun i => some (i * sz, sz)) (Array.map (fun x => (#[] : Array Value)[x % (#[] : Array Value).size]!) (Array.range 0)) (ps.map fun (i, x) => (i, a.eval x)).toList = some us' := by
        rw [show Array.range 0 = #[] from rfl] at h5 ⊢
        simpa using h5
      rw [h5']
      simp [newRow]
    · rw [if_neg h0]
      simp only [Sem.run_bind, hz1, Sem.run_pure, Result.andThen_ok]
      have h5' : Instr.fill (fun i => some (i * sz, sz)) (Array.map (fun x => zu.cells[x % zu.cells.size]!) (Array.range (n * sz))) (ps.map fun (i, x) => (i, a.eval x)).toList = some us' := by
        simpa using h5
      rw [h5']
      simp [newRow]
  · refine .lst sz _ .mine _ n n us'.toList (chunks_length sz n cs).symm (Nat.le_refl _) c2 (by rw [c1]; exact h6.ext h8.ext) (.inr ⟨_, _, rfl, addIm_zero _ _ _⟩) ⟨rfl, _, rfl, .inl rfl⟩ (by rw [c1]; exact f1)

/-! sums and comparisons -/

theorem binInt_run {op : BinOp} {k : IntKind} {a b : Int} {v : Val} (t : TypeId) (h : binInt op k a b = some v) :
    ∃ u, (binOp op t (.int k a) (.int k b)).run P w = .ok u w ∧ VRel γ v u := by
  cases op <;> simp only [binInt] at h
  case quo | rem =>
    split at h
    · cases h
    · rename_i hb
      simp at h; subst h
      exact ⟨_, by simp [binOp, Op.intDiv, hb], .int _ _⟩
  case shl | shr => cases h
  case eql | neq | lss | leq | gtr | geq => simp at h; subst h; exact ⟨_, by simp [binOp, Op.intCmp], .bool _⟩
  case add | sub | mul => simp at h; subst h; exact ⟨_, by simp [binOp, Op.intArith], .int _ _⟩
  case and | or | xor | andNot => simp at h; subst h; exact ⟨_, by simp [binOp, Op.intBits], .int _ _⟩

theorem binShift_run {op : BinOp} {k l : IntKind} {a b : Int} {v : Val} (t : TypeId) (h : binShift op k a b = some v) :
    ∃ u, (binOp op t (.int k a) (.int l b)).run P w = .ok u w ∧ VRel γ v u := by
  simp only [binShift] at h
  split at h
  · cases h
  · rename_i hb
    cases op <;> simp at h <;> subst h
    · exact ⟨_, by simp [binOp, Op.shift, hb], .int _ _⟩
    · exact ⟨_, by simp [binOp, Op.shift, hb], .int _ _⟩

theorem binStr_run {op : BinOp} {a b : ByteArray} {v : Val} (t : TypeId) (h : binStr op a b = some v) :
    ∃ u, (binOp op t (.string a) (.string b)).run P w = .ok u w ∧ VRel γ v u := by
  cases op <;> simp only [binStr] at h
  case add =>
    split at h
    · cases h
    · rename_i hc
      simp at h; subst h
      refine ⟨.string (a ++ b), ?_, .str _⟩
      simp only [binOp, Op.stringOp]
      rw [if_neg hc]
      rfl
  case eql | neq | lss | leq | gtr | geq => simp at h; subst h; exact ⟨_, by simp [binOp, Op.stringOp], .bool _⟩
  all_goals cases h

inductive EqTy (P : Program) (t : TypeId) : EqT → Prop
  | bool (h : P.underlying t = some .bool) : EqTy P t .bool
  | int (k : IntKind) (h : P.underlying t = some (.int k)) : EqTy P t .int
  | str (h : P.underlying t = some .string) : EqTy P t .str

theorem eqCell_run {e : EqT} {x y : Val} {u s : Value} {r : Bool} {t : TypeId} (d : Nat) (hx : VRel γ x u) (hy : VRel γ y s) (h : eqCell e x y = some r) (ht : EqTy P t e) :
    (Op.equalIn (d + 1) t u s).run P w = .ok r w := by
  unfold eqCell at h
  split at h
  · cases hx; cases hy
    simp at h; subst h
    cases ht with | bool hb => exact run_equalIn_bool' w d t _ _ hb
  · split at h
    · rename_i hkl
      subst hkl
      cases hx; cases hy
      simp at h; subst h
      cases ht with | int k hk => exact run_equalIn_int w d t _ k _ _ hk
    · cases h
  · cases hx; cases hy
    simp at h; subst h
    cases ht with | str hk => exact run_equalIn_string w d t _ _ hk
  · cases h

theorem eqFields_run {xs ys : Array Value} {cs ds : List Val} (hx : VRels γ cs xs.toList) (hy : VRels γ ds ys.toList) (d : Nat) : ∀ {fs : List Field} {es : List (Nat × EqT)} {r : Bool},
    eqFields P fs = some es → eqFs cs ds es = some r → (Op.eqFields (d + 1) xs ys fs).run P w = .ok r w
  | [], es, r, h, hr => by
    simp [eqFields] at h; subst h
    simp [eqFs] at hr; subst hr
    simp [Op.eqFields]
  | f :: fs, es, r, h, hr => by
    simp only [eqFields] at h
    split at h
    · cases h
    · rename_i hname
      have key : ∀ (e : EqT) (s : List (Nat × EqT)), EqTy P f.type e → isAggD ((P.underlying f.type).getD .invalid) = false → eqFields P fs = some s → eqFs cs ds ((f.offset, e) :: s) = some r →
          (Op.eqFields (d + 1) xs ys (f :: fs)).run P w = .ok r w := by
        intro e s he hag hs hr
        simp only [eqFs] at hr
        split at hr
        · rename_i x y h1 h2
          obtain ⟨u, u1, u2⟩ := hx.get h1
          obtain ⟨v, v1, v2⟩ := hy.get h2
          have hu : ∃ dd, P.underlying f.type = some dd ∧ isAggD dd = false := by
            cases he with
            | bool h => exact ⟨_, h, rfl⟩
            | int k h => exact ⟨_, h, rfl⟩
            | str h => exact ⟨_, h, rfl⟩
          obtain ⟨dd, hd1, hd2⟩ := hu
          have hagg : (isAgg f.type).run P w = .ok false w := aggOf_run (by simp [aggOf, hd1, hd2])
          have p1 : (part f.type xs f.offset).run P w = .ok u w := by
            have : xs[f.offset]? = some u := by simpa using u1
            simp [part, hagg, this]
          have p2 : (part f.type ys f.offset).run P w = .ok v w := by
            have : ys[f.offset]? = some v := by simpa using v1
            simp [part, hagg, this]
          simp only [Op.eqFields, hname, ne_eq, not_false_eq_true, if_true, Sem.run_bind, p1, p2, Result.andThen_ok]
          split at hr
          · rename_i he1
            rw [eqCell_run d u2 v2 he1 he]
            simpa using eqFields_run hx hy d hs hr
          · rename_i he1
            rw [eqCell_run d u2 v2 he1 he]
            simp at hr; subst hr
            simp
          · cases hr
        · cases hr
      split at h
      · rename_i s h1 h2 h3
        simp at h; subst h
        exact key .bool s (.bool h1) (by simp [h1, isAggD]) h3 hr
      · rename_i k s h1 h2 h3
        simp at h; subst h
        exact key .int s (.int k h1) (by simp [h1, isAggD]) h3 hr
      · rename_i s h1 h2 h3
        simp at h; subst h
        exact key .str s (.str h1) (by simp [h1, isAggD]) h3 hr
      · cases h

end Go.Ev
