/- Each operation of the evaluator is the machine's. -/
import Derived.Test.YtphmgckopecggaaDoorComp
import Derived.Test.YtphmgckopecggaaDoorLists
import Derived.Test.YtphmgckopecggaaDoorTok
namespace Go.Ev
set_option linter.unusedSectionVars false
variable [Glob]

variable {P : Program} {γ : Gh} {σ σ' : Hp} {w : World}

def OpOk (γ : Gh) (σ : Hp) (w : World) (r : Result Next) (v : Val) (σ' : Hp) : Prop :=
  ∃ γ' w', ((v = .undef ∧ r = .ok .skip w') ∨ ∃ u, r = .ok (.value u) w' ∧ VRel γ' v u) ∧ WInv γ' σ' w' ∧ Frame γ σ w γ' σ' w'

theorem ok_pure (hW : WInv γ σ w) {r : Result Next} {u : Value} {v : Val} (hr : r = .ok (.value u) w) (hv : VRel γ v u) : OpOk γ σ w r v σ :=
  ⟨γ, w, .inr ⟨u, hr, hv⟩, hW, .refl _ _ _⟩

/-- What stands for the machine's values: an operation's value in the form that 'execOp' has. -/
def valOf (s : Sem Value) : Sem Next := do pure (.value (← s))
theorem run_valOf {s : Sem Value} {u : Value} {w w' : World} (h : s.run P w = .ok u w') : (valOf s).run P w = .ok (.value u) w' := by
  simp [valOf, h]
def unitOf (s : Sem Unit) : Sem Next := do s; pure .skip
theorem run_unitOf {s : Sem Unit} {w w' : World} (h : s.run P w = .ok () w') : (unitOf s).run P w = .ok .skip w' := by
  simp [unitOf, h]

theorem ok_val (hW : WInv γ σ w) {s : Sem Value} {u : Value} {v : Val} (hr : s.run P w = .ok u w) (hv : VRel γ v u) : OpOk γ σ w ((valOf s).run P w) v σ :=
  ok_pure hW (run_valOf hr) hv

/-! constants and operands -/

theorem ofV_rel : ∀ (d : Nat) {v : Value} {c : Val}, ofV d v = some c → VRel γ c v
  | 0, _, _, h => by simp [ofV] at h
  | d + 1, v, c, h => by
    have hl : ∀ (l : List Value) (cs : List Val), l.mapM (ofV d) = some cs → VRels γ cs l := by
      intro l
      induction l with
      | nil => intro cs hm; simp at hm; subst hm; exact .nil
      | cons x r ih =>
        intro cs hm
        simp only [List.mapM_cons, Option.bind_eq_bind, Option.bind_eq_some_iff, Option.pure_def, Option.some.injEq] at hm
        obtain ⟨y, h1, ys, h2, rfl⟩ := hm
        exact .cons (ofV_rel d h1) (ih _ h2)
    simp only [ofV] at h
    split at h
    case h_1 => simp at h; subst h; constructor
    case h_2 => simp at h; subst h; constructor
    case h_3 => simp at h; subst h; constructor
    case h_4 => simp at h; subst h; constructor
    case h_5 =>
      simp at h; subst h
      exact .lst 0 [] .nil none 0 0 [] rfl (Nat.le_refl _) (by simp) .nil (.inl rfl) ⟨rfl, rfl, rfl⟩ rfl
    case h_6 => simp at h; subst h; constructor
    case h_7 => simp at h; subst h; constructor
    case h_8 => simp at h; subst h; constructor
    case h_9 cs =>
      split at h
      · rename_i l hl1
        split at h
        · rename_i h1
          simp at h; subst h
          exact .agg l cs (hl _ _ hl1) h1
        · cases h
      · cases h
    case h_10 cs =>
      simp only [Option.map_eq_some_iff] at h
      obtain ⟨l, h1, rfl⟩ := h
      exact .tuple l cs (hl _ _ h1)
    case h_11 => cases h

section
variable {t : Nat → Val} {a : Act} (hT : ∀ i, VRel γ (t i) (a.tmps.getD i Go.undef))
include hT

theorem compO_rel {x : Operand} {y : CO} (h : compO x = some y) : VRel γ (y.ev t) (a.eval x) := by
  cases x with
  | tmp i => simp [compO] at h; subst h; exact hT i
  | const v =>
    simp only [compO, Option.map_eq_some_iff] at h
    obtain ⟨c, h1, rfl⟩ := h
    exact ofV_rel 4 h1
  | global g => simp [compO] at h
  | func f => simp [compO] at h; subst h; exact .func _ _ _ _ _ .nil .nil

theorem compOs_rel : ∀ {x : List Operand} {y : List CO}, compOs x = some y → VRels γ (y.map (·.ev t)) (x.map a.eval)
  | [], y, h => by simp [compOs] at h; subst h; exact .nil
  | x :: r, y, h => by
    simp only [compOs] at h
    split at h
    · rename_i y' s h1 h2
      simp at h; subst h
      exact .cons (compO_rel hT h1) (compOs_rel h2)
    · cases h

inductive ORel (γ : Gh) : Option Val → Option Value → Prop
  | none : ORel γ none none
  | some {v : Val} {u : Value} (h : VRel γ v u) : ORel γ (some v) (some u)

theorem compOO_rel {x : Option Operand} {y : Option CO} (h : compOO x = some y) : ORel γ (y.map (·.ev t)) (x.map a.eval) := by
  cases x with
  | none => simp [compOO] at h; subst h; exact .none
  | some x =>
    simp only [compOO, Option.map_eq_some_iff] at h
    obtain ⟨c, h1, rfl⟩ := h
    exact .some (compO_rel hT h1)
end

/-! types -/

theorem szOf_run {t : TypeId} {n : Nat} (h : szOf P t = some n) : (sizeOf t).run P w = .ok n w := by
  simp only [szOf, Option.map_eq_some_iff] at h
  obtain ⟨i, h1, rfl⟩ := h
  simp [sizeOf, typeInfo, h1]

theorem aggOf_run {t : TypeId} {g : Bool} (h : aggOf P t = some g) : (isAgg t).run P w = .ok g w := by
  simp only [aggOf, Option.map_eq_some_iff] at h
  obtain ⟨d, h1, rfl⟩ := h
  simp only [isAgg, Sem.run_bind, run_underlying h1, Result.andThen_ok]
  cases d <;> rfl

theorem zeroOf_run {t : TypeId} {v : Val} (h : zeroOf P t = some v) : ∃ z, (zeroValue t).run P w = .ok z w ∧ VRel γ v z := by
  simp only [zeroOf, Option.bind_eq_some_iff] at h
  obtain ⟨z, ⟨i, h1, h2⟩, h3⟩ := h
  exact ⟨z, by simp [zeroValue, typeInfo, h1, h2], ofV_rel 4 h3⟩

/-! memory that is laid -/

theorem ok_alloc (hW : WInv γ σ w) {e : TypeId} {v : Val} (hz : zeroOf P e = some v) (h1v : allOne v.cells = true) :
    OpOk γ σ w ((valOf (Instr.alloc e true (.tuple #[]))).run P w) (.ptr (some (σ.length, 0))) (σ ++ [.cells v.cells]) := by
  obtain ⟨z, h1, h2⟩ := zeroOf_run (γ := γ) (w := w) hz
  obtain ⟨h3, h4⟩ := hW.newObj v.cells z.cells e h2.cells h1v
  refine ⟨_, _, .inr ⟨.pointer (some ⟨w.heap.size, 0, none⟩), run_valOf ?_, .ptr _ _ _ (by simp [Gh.addRef])⟩, h3, h4⟩
  simp [Instr.alloc, h1, newVar, newRow]

theorem ok_boxM (hW : WInv γ σ w) {e : TypeId} {v : Val} {u : Value} (hv : VRel γ v u) (hst : v.st = true) :
    OpOk γ σ w ((valOf (Instr.box e u)).run P w) (.ptr (some (σ.length, 0))) (σ ++ [.cells v.cells]) := by
  obtain ⟨h3, h4⟩ := hW.newObj v.cells u.cells e hv.cells (hv.cellsOne hst)
  refine ⟨_, _, .inr ⟨.pointer (some ⟨w.heap.size, 0, none⟩), run_valOf ?_, .ptr _ _ _ (by simp [Gh.addRef])⟩, h3, h4⟩
  simp [Instr.box, newVar, newRow]

theorem addIm_zero (γ : Gh) (b : Nat) (us : List Value) : ∀ j, j < us.length → (γ.addIm b 0 us).im b (0 + j) = us[j]? := fun j hj => addIm_in γ b 0 us j hj

theorem ok_boxI (hW : WInv γ σ w) {e : TypeId} {v : Val} {u : Value} (hv : VRel γ v u) (hst : v.st = true) :
    OpOk γ σ w ((valOf (Instr.box e u)).run P w) (.iptr v.cells) σ := by
  obtain ⟨h3, h4⟩ := hW.newIm u.cells.toList u.cells e (0, 0) (fun j x hx => by simpa using hx)
  refine ⟨_, _, .inr ⟨.pointer (some ⟨w.heap.size, 0, none⟩), run_valOf ?_, .iptr _ u.cells.toList _ _ (addIm_zero _ _ _) (hv.cells.ext h4.ext) (hv.cellsOne hst)⟩, h3, h4⟩
  simp [Instr.box, newVar, newRow]

/-! reading -/

theorem run_loadAt {t : TypeId} {g : Bool} {n : Nat} (hg : aggOf P t = some g) (hn : szOf P t = some n) {b o : Nat} {us : List Value} {u : Value}
    (hc : ∀ (j : Nat) (y : Value), us[j]? = some y → w.cell? ⟨b, o + j, none⟩ = some y)
    (h : if g then n ≤ us.length ∧ u = .agg (us.take n).toArray else us[0]? = some u) :
    (Instr.loadAt t (.pointer (some ⟨b, o, none⟩))).run P w = .ok u w := by
  simp only [Instr.loadAt, Instr.sureAddr, Sem.run_bind, Sem.run_pure, Result.andThen_ok, loadVar, aggOf_run hg]
  cases g with
  | true =>
    obtain ⟨h1, rfl⟩ := by simpa using h
    have hl := run_loadCells_list (P := P) w ⟨b, o, none⟩ (us.take n) (fun j v hv => by
      rw [add_at]
      refine hc j v ?_
      rw [List.getElem?_take] at hv
      split at hv
      · exact hv
      · cases hv)
    rw [List.length_take, Nat.min_eq_left h1] at hl
    simp [szOf_run hn, hl]
  | false =>
    have h1 : us[0]? = some u := by simpa using h
    have := hc 0 u h1
    simp only [Nat.add_zero] at this
    simp [this]

theorem all_take (n : Nat) {vs : List Val} (h : vs.all Val.one = true) : (vs.take n).all Val.one = true := by
  simp only [List.all_eq_true] at *
  exact fun x hx => h x (List.mem_of_mem_take hx)
theorem all_drop (n : Nat) {vs : List Val} (h : vs.all Val.one = true) : (vs.drop n).all Val.one = true := by
  simp only [List.all_eq_true] at *
  exact fun x hx => h x (List.mem_of_mem_drop hx)

theorem readV_rel {g : Bool} {n : Nat} {vs : List Val} {us : List Value} {v : Val} (hv : VRels γ vs us) (h1v : vs.all Val.one = true) (h : readV g n vs = some v) :
    ∃ u, VRel γ v u ∧ if g then n ≤ us.length ∧ u = .agg (us.take n).toArray else us[0]? = some u := by
  cases g with
  | true =>
    simp only [readV, if_true] at h
    split at h
    · rename_i hl
      simp at h; subst h
      refine ⟨.agg (us.take n).toArray, .agg _ _ (by simpa using hv.take n) (all_take n h1v), ?_⟩
      rw [if_pos rfl]
      exact ⟨by rw [← hv.length]; exact hl, rfl⟩
    · cases h
  | false =>
    simp only [readV, Bool.false_eq_true, if_false] at h
    obtain ⟨u, h1, h2⟩ := hv.get h
    exact ⟨u, h2, by simpa using h1⟩

theorem take_get {α : Type} {l : List α} {n i : Nat} {x : α} (h : (l.take n)[i]? = some x) : l[i]? = some x := by
  rw [List.getElem?_take] at h
  split at h
  · exact h
  · cases h

theorem put_take {α : Type} (us new : List α) (o L : Nat) (h1 : o + new.length ≤ L) (h2 : L ≤ us.length) :
    (us.take o ++ new ++ us.drop (o + new.length)).take L = (us.take L).take o ++ new ++ (us.take L).drop (o + new.length) := by
  rw [List.append_assoc, List.append_assoc, List.take_append, List.take_append]
  have e1 : (us.take o).length = o := by simp; omega
  rw [e1, List.take_take, List.take_take, Nat.min_eq_right (show o ≤ L by omega), Nat.min_eq_left (show o ≤ L by omega)]
  congr 1
  rw [List.take_of_length_le (show new.length ≤ L - o by omega), List.drop_take]
  congr 2
  omega

theorem loadV_rel (hW : WInv γ σ w) {g : Bool} {n : Nat} {x v : Val} {p : Value} (hp : VRel γ x p) (h : loadV g n x σ = some v) :
    ∃ b o u, p = .pointer (some ⟨b, o, none⟩) ∧ VRel γ v u ∧ ∃ us : List Value, (∀ (j : Nat) (y : Value), us[j]? = some y → w.cell? ⟨b, o + j, none⟩ = some y) ∧
      if g then n ≤ us.length ∧ u = .agg (us.take n).toArray else us[0]? = some u := by
  cases hp <;> simp only [loadV] at h <;> try (cases h; done)
  case ptr i o b hr =>
    split at h
    · rename_i vs hi
      obtain ⟨us, e, h1, h2, h2v⟩ := hW.objOk i vs b hi hr
      obtain ⟨u, h3, h4⟩ := readV_rel (h2.drop o) (all_drop o h2v) h
      refine ⟨b, o, u, rfl, h3, (us.toList.take vs.length).drop o, fun j y hy => ?_, h4⟩
      rw [List.getElem?_drop] at hy
      have hy := take_get hy
      simp only [World.cell?, h1]
      simpa using hy
    · cases h
  case iptr vs us b o hi hv h1 =>
    obtain ⟨u, h3, h4⟩ := readV_rel hv h1 h
    refine ⟨b, o, u, rfl, h3, us, fun j y hy => ?_, h4⟩
    have hj : j < us.length := (List.getElem?_eq_some_iff.1 hy).1
    exact hW.imOk _ _ _ ((hi j hj).trans hy)

theorem ok_load (hW : WInv γ σ w) {t : TypeId} {g : Bool} {n : Nat} {x v : Val} {p : Value} (hg : aggOf P t = some g) (hn : szOf P t = some n) (hp : VRel γ x p)
    (h : loadV g n x σ = some v) : OpOk γ σ w ((valOf (Instr.loadAt t p)).run P w) v σ := by
  obtain ⟨b, o, u, rfl, h1, us, h2, h3⟩ := loadV_rel hW hp h
  exact ok_val hW (run_loadAt hg hn h2 h3) h1

/-! writing -/

theorem ok_store (hW : WInv γ σ w) {t : TypeId} {n : Nat} {x y : Val} {p u : Value} (hn : szOf P t = some n) (hp : VRel γ x p) (hy : VRel γ y u)
    (h : storeV n x y σ = some σ') : OpOk γ σ w ((unitOf (Instr.storeAt t p u)).run P w) .undef σ' := by
  cases hp <;> simp only [storeV] at h <;> try (cases h; done)
  case ptr i o b hr =>
    split at h
    · rename_i vs hi
      split at h
      · rename_i hc
        obtain ⟨hc1, hc2, hc3⟩ := hc
        simp at h; subst h
        obtain ⟨us, e, h1, h2, h2v⟩ := hW.objOk i vs b hi hr
        have hcl := hy.cells
        have hc3 := hy.cellsOne hc3
        have hlen := hcl.length
        have hvl := h2.length
        simp only [Array.length_toList] at hlen
        simp only [List.length_take, Array.length_toList] at hvl
        have hput := h2.putCells o hcl
        have hpl : (putCells vs o y.cells).length = vs.length := by simp only [putCells, List.length_append, List.length_take, List.length_drop]; omega
        obtain ⟨h3, h4⟩ := hW.setObj i b vs (putCells vs o y.cells) us (us.toList.take o ++ u.cells.toList ++ us.toList.drop (o + u.cells.toList.length)).toArray e hi hr h1
          (by simp only [List.size_toArray, List.length_append, List.length_take, List.length_drop, Array.length_toList]; omega) (by
            rw [hpl]
            show VRels γ _ (List.take _ (us.toList.take o ++ u.cells.toList ++ us.toList.drop (o + u.cells.toList.length)))
            rw [put_take _ _ _ _ (by simp; omega) (by simp; omega)]
            exact hput) (putCells_one h2v hc3)
        refine ⟨_, _, .inl ⟨rfl, run_unitOf ?_⟩, h3, h4⟩
        have hone : ∀ z ∈ u.cells.toList, z.oneCell' = true := by
          intro z hz
          have := hcl.one
          rw [hc3] at this
          exact List.all_eq_true.1 this.symm z hz
        have hst := run_storeCells_at P b o e u.cells.toList 0 us w h1 (by simp; omega) hone
        simp only [Nat.add_zero] at hst
        have hsz : u.cells.size = n := by omega
        simp only [Instr.storeAt, Instr.sureAddr, Sem.run_bind, Sem.run_pure, Result.andThen_ok, storeVar, szOf_run hn]
        simp [hsz, hst]
      · cases h
    · cases h

/-! literals -/

theorem partsA_ok {t : Nat → Val} {a : Act} (hT : ∀ i, VRel γ (t i) (a.tmps.getD i Go.undef)) {sz : Nat} : ∀ {ps : List (Nat × Operand)} {qs : List (Nat × Nat × CO)}, partsA sz ps = some qs →
    PartsOk γ (fun i => some (i * sz, sz)) (qs.map fun (o, n, x) => (o, n, x.ev t)) (ps.map fun (i, x) => (i, a.eval x))
  | [], qs, h => by simp [partsA] at h; subst h; exact .nil
  | (i, x) :: r, qs, h => by
    simp only [partsA] at h
    split at h
    · rename_i y s h1 h2
      simp at h; subst h
      exact .cons ⟨rfl, compO_rel hT h1⟩ (partsA_ok hT h2)
    · cases h

theorem partsS_ok {t : Nat → Val} {a : Act} (hT : ∀ i, VRel γ (t i) (a.tmps.getD i Go.undef)) {fs : Array Field} {pl : Array (Nat × Nat)}
    (hpl : ∀ (i : Nat) (f : Field) (n : Nat), fs[i]? = some f → szOf P f.type = some n → pl[i]? = some (f.offset, n)) :
    ∀ {ps : List (Nat × Operand)} {qs : List (Nat × Nat × CO)}, partsS P fs ps = some qs →
    PartsOk γ (pl[·]?) (qs.map fun (o, n, x) => (o, n, x.ev t)) (ps.map fun (i, x) => (i, a.eval x))
  | [], qs, h => by simp [partsS] at h; subst h; exact .nil
  | (i, x) :: r, qs, h => by
    simp only [partsS] at h
    split at h
    · cases h
    · rename_i f hf
      split at h
      · rename_i n y s h1 h2 h3
        simp at h; subst h
        exact .cons ⟨hpl i f n hf h1, compO_rel hT h2⟩ (partsS_ok hT hpl h3)
      · cases h

theorem run_places (fs : Array Field) (h : fs.all (fun f => (P.info? f.type).isSome) = true) :
    ∃ pl : Array (Nat × Nat), (fs.mapM fun f => do pure (f.offset, ← sizeOf f.type) : Sem (Array (Nat × Nat))).run P w = .ok pl w ∧
      ∀ (i : Nat) (f : Field) (n : Nat), fs[i]? = some f → szOf P f.type = some n → pl[i]? = some (f.offset, n) := by
  have key : ∀ (l : List Field), (∀ f ∈ l, (P.info? f.type).isSome = true) →
      ∃ pl : List (Nat × Nat), (l.mapM fun f => do pure (f.offset, ← sizeOf f.type) : Sem (List (Nat × Nat))).run P w = .ok pl w ∧
        ∀ (i : Nat) (f : Field) (n : Nat), l[i]? = some f → szOf P f.type = some n → pl[i]? = some (f.offset, n) := by
    intro l
    induction l with
    | nil => intro _; exact ⟨[], by simp, by simp⟩
    | cons f r ih =>
      intro hl
      obtain ⟨pl, h1, h2⟩ := ih (fun g hg => hl g (by simp [hg]))
      obtain ⟨i, hi⟩ := Option.isSome_iff_exists.1 (hl f (by simp))
      refine ⟨(f.offset, i.size) :: pl, ?_, ?_⟩
      · have hsz : (sizeOf f.type).run P w = .ok i.size w := by simp [sizeOf, typeInfo, hi]
        rw [List.mapM_cons]
        simp only [Sem.run_bind, hsz, Result.andThen_ok, Sem.run_pure, h1]
      · intro j g n hg hn
        match j, hg with
        | 0, hg =>
          simp at hg; subst hg
          simp [szOf, hi] at hn
          simp [hn]
        | j + 1, hg => simpa using h2 j g n (by simpa using hg) hn
  obtain ⟨pl, h1, h2⟩ := key fs.toList (by
    intro f hf
    rw [Array.all_eq_true_iff_forall_mem] at h
    exact h f (by simpa using hf))
  refine ⟨pl.toArray, ?_, fun i f n hf hn => by simpa using h2 i f n (by simpa using hf) hn⟩
  rw [Array.mapM_eq_mapM_toList, Sem.run_map, h1]
  rfl

theorem ok_buildS (hW : WInv γ σ w) {t : Nat → Val} {a : Act} (hT : ∀ i, VRel γ (t i) (a.tmps.getD i Go.undef)) {ty : TypeId} {z : Val} {fs : Array Field} {ps : Array (Nat × Operand)} {qs : List (Nat × Nat × CO)} {cs : List Val}
    (hz : zeroOf P ty = some z) (hu : P.underlying ty = some (.struct fs)) (hfs : fs.all (fun f => (P.info? f.type).isSome) = true)
    (hp : partsS P fs ps.toList = some qs) (hf : fillV z.cells (qs.map fun (o, n, x) => (o, n, x.ev t)) = some cs) (h1z : allOne z.cells = true) :
    OpOk γ σ w ((valOf (Instr.build ty (ps.map fun (i, x) => (i, a.eval x)))).run P w) (.agg cs) σ := by
  obtain ⟨zu, h1, h2⟩ := zeroOf_run (γ := γ) (w := w) hz
  obtain ⟨pl, h3, h4⟩ := run_places (w := w) fs hfs
  obtain ⟨us', h5, h6⟩ := fill_rel (partsS_ok hT h4 hp) h2.cells hf
  refine ok_val hW (u := .agg us') ?_ (.agg _ _ h6 (fillV_one _ (partsS_ok hT h4 hp).one hf h1z).1)
  simp only [Instr.build, Sem.run_bind, h1, Result.andThen_ok, run_underlying hu, h3]
  simp [h5]

theorem ok_buildA (hW : WInv γ σ w) {t : Nat → Val} {a : Act} (hT : ∀ i, VRel γ (t i) (a.tmps.getD i Go.undef)) {ty e : TypeId} {len sz : Nat} {z : Val} {ps : Array (Nat × Operand)} {qs : List (Nat × Nat × CO)} {cs : List Val}
    (hz : zeroOf P ty = some z) (hu : P.underlying ty = some (.array len e)) (hs : szOf P e = some sz)
    (hp : partsA sz ps.toList = some qs) (hf : fillV z.cells (qs.map fun (o, n, x) => (o, n, x.ev t)) = some cs) (h1z : allOne z.cells = true) :
    OpOk γ σ w ((valOf (Instr.build ty (ps.map fun (i, x) => (i, a.eval x)))).run P w) (.agg cs) σ := by
  obtain ⟨zu, h1, h2⟩ := zeroOf_run (γ := γ) (w := w) hz
  obtain ⟨us', h5, h6⟩ := fill_rel (partsA_ok hT hp) h2.cells hf
  refine ok_val hW (u := .agg us') ?_ (.agg _ _ h6 (fillV_one _ (partsA_ok hT hp).one hf h1z).1)
  simp only [Instr.build, Sem.run_bind, h1, Result.andThen_ok, run_underlying hu, szOf_run hs]
  simp [h5]

end Go.Ev
