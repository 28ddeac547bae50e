/- From a row's own words to the evaluator, and back: a law over plain data. -/
import Derived.Test.YtphmgckopecggaaDoorArgs
import Derived.Test.YtphmgckopecggaaDoorHook
import Derived.Carry
import Derived.RowKit
import Derived.ChangeSame
import Derived.OpenShut
namespace Go.Ev
open Go.RowKit (Below)
set_option linter.unusedSectionVars false

section
variable [Glob]

/-- The world in which the call begins: its cells stay, and nothing is the run's own. -/
def Gh.start (w : World) : Gh := { im := fun b o => w.cell? ⟨b, o, none⟩, ref := fun _ => none, siz := fun _ => none, tok := fun _ _ => none, own := fun _ => False, lit := fun _ => False }

def GlobOk (w : World) : Prop := ∀ b cs, Glob.row b = some cs → ∃ e fr, w.heap[b]? = some (.cells cs e fr)

theorem winv_start {w : World} (hg : GlobOk w) : WInv (Gh.start w) [] w where
  imOk b o u h := h
  objOk i vs b h := by simp at h
  mapOk i vs b h := by simp at h
  sizOk i b e h := by cases h
  sizRef i e h := by cases h
  glob b cs h := ⟨hg b cs h, fun h => h⟩
  litOk b h := h.elim
  refInj i j b x y h := by simp at h
  refIm i b o h := by cases h
  refOwn i b h := by cases h
  refLt i b h := by cases h
  tokOk k l b f e h := by simp at h
  tokInj k l b f e k' l' f' e' h := by simp at h
  tokOwn k l x h := by cases h
  tokLt k l x h := by cases h
  tokOld k l x l' h := by simp at h
  ownLt b h := h.elim

theorem below_start {w w' : World} {γ' : Gh} {σ' : Hp} (h : Frame (Gh.start w) [] w γ' σ' w') : Below w.heap.size w w' :=
  ⟨h.os, h.tape, h.output, h.size, fun b hb => h.block b hb (fun h => h)⟩

section
variable {P : Program} {H : Type} {enc : TypeId × Value → H}

def isAggT (P : Program) (t : TypeId) : Bool := (aggOf P t).getD false

/-- Each argument's data, as a value of the evaluator. -/
def ArgVals (P : Program) : List TypeId → List (DataW H) → List Val → Prop
  | [], [], [] => True
  | t :: ts, d :: ds, x :: xs => (∃ n vs, valsOf P n t d = some vs ∧ x = mkEl (isAggT P t) vs ∧ Val.fzs vs = vs) ∧ x.closed = true ∧ ArgVals P ts ds xs
  | _, _, _ => False

theorem arg_val {book : List TypeId} (hb : plainBook P book = true) {w : World} {base b0 : Nat} {sp : Nat → Bool} {held : Bool} {r : Reach} {t : TypeId} {v : Value} {d : DataW H} {ps : List MemPlace} (ht : t ∈ book)
    (hval : Value.okWide P w r b0 t v) (h : DataW.Trod enc P w base sp held t v d ps) : ∃ n vs, valsOf P n t d = some vs ∧ VRel (Gh.start w) (mkEl (isAggT P t) vs) v ∧ (mkEl (isAggT P t) vs).closed = true ∧ Val.fzs vs = vs := by
  obtain ⟨n, hn⟩ := h
  obtain ⟨vs, h1, h2, h3, h4, h5⟩ := trod_vals (γ := Gh.start w) hb (fun _ _ => rfl) n t _ d ps ht hn
  refine ⟨n, vs, h1, ?_⟩
  have hp := List.all_eq_true.1 hb t ht
  unfold plainT at hp
  have flat1 : ∀ (u : Value), v = u → (∀ cs, u ≠ .agg cs) → VRel (Gh.start w) (vs.headD .undef) v ∧ (vs.headD .undef).closed = true := by
    rintro u rfl hu
    have hc : v.cells.toList = [v] := by cases v <;> first | rfl | exact absurd rfl (hu _)
    rw [hc] at h2
    cases h2 with
    | cons a b =>
      cases b
      simp only [Val.closeds, Bool.and_true] at h4
      exact ⟨a, h4⟩
  unfold Value.okWide at hval
  split at hp
  · rename_i hu
    have ha : isAggT P t = false := by simp [isAggT, aggOf, hu, isAggD]
    simp only [hu] at hval
    rw [ha]
    have : ∃ b, v = .bool b := by
      unfold Cell.okWide at hval
      simp only [hu] at hval
      unfold Cell.ok at hval
      simp only [hu] at hval
      cases v <;> first | exact ⟨_, rfl⟩ | exact hval.elim
    obtain ⟨b, hv⟩ := this
    obtain ⟨k1, k2⟩ := flat1 _ hv (fun _ h => by cases h)
    exact ⟨k1, k2, h5⟩
  · rename_i k hu
    have ha : isAggT P t = false := by simp [isAggT, aggOf, hu, isAggD]
    simp only [hu] at hval
    rw [ha]
    have : ∃ k n, v = .int k n := by
      unfold Cell.okWide at hval
      simp only [hu] at hval
      unfold Cell.ok at hval
      simp only [hu] at hval
      cases v <;> first | exact ⟨_, _, rfl⟩ | exact hval.elim
    obtain ⟨_, _, hv⟩ := this
    obtain ⟨k1, k2⟩ := flat1 _ hv (fun _ h => by cases h)
    exact ⟨k1, k2, h5⟩
  · rename_i hu
    have ha : isAggT P t = false := by simp [isAggT, aggOf, hu, isAggD]
    simp only [hu] at hval
    rw [ha]
    have : ∃ s, v = .string s := by
      unfold Cell.okWide at hval
      simp only [hu] at hval
      unfold Cell.ok at hval
      simp only [hu] at hval
      cases v <;> first | exact ⟨_, rfl⟩ | exact hval.elim
    obtain ⟨_, hv⟩ := this
    obtain ⟨k1, k2⟩ := flat1 _ hv (fun _ h => by cases h)
    exact ⟨k1, k2, h5⟩
  · rename_i e hu
    have ha : isAggT P t = false := by simp [isAggT, aggOf, hu, isAggD]
    simp only [hu] at hval
    rw [ha]
    have : ∃ a n c, v = .slice a n c := by
      unfold Cell.okWide at hval
      simp only [hu] at hval
      unfold Cell.ok at hval
      simp only [hu] at hval
      cases v <;> first | exact ⟨_, _, _, rfl⟩ | exact hval.elim
    obtain ⟨_, _, _, hv⟩ := this
    obtain ⟨k1, k2⟩ := flat1 _ hv (fun _ h => by cases h)
    exact ⟨k1, k2, h5⟩
  · rename_i fs hu
    have ha : isAggT P t = true := by simp [isAggT, aggOf, hu, isAggD]
    simp only [hu] at hval
    rw [ha]
    obtain ⟨cs, rfl, _, _⟩ := hval
    exact ⟨.agg vs cs h2 h3, by simp [mkEl, Val.closed, h4], h5⟩
  · cases hp

theorem args_vals {book : List TypeId} (hb : plainBook P book = true) {w : World} {base b0 : Nat} {sp : Nat → Bool} {held : Bool} {r : Reach} : ∀ {ts : List TypeId} {vs : List Value} {ds : List (DataW H)} {ps : List MemPlace},
    (∀ t ∈ ts, t ∈ book) → (∀ (j : Nat) (t : TypeId) (v : Value), ts[j]? = some t → vs[j]? = some v → Value.okWide P w r b0 t v) → DataW.TrodAll enc P w base sp held ts vs ds ps →
    ∃ xs, ArgVals P ts ds xs ∧ VRels (Gh.start w) xs vs
  | [], [], [], ps, _, _, _ => ⟨[], trivial, .nil⟩
  | t :: ts, v :: vs, d :: ds, ps, hm, hv, ⟨p, q, h1, h2, _⟩ => by
    obtain ⟨n, us, k1, k2, k3, k4⟩ := arg_val hb (hm t (by simp)) (hv 0 t v rfl rfl) h1
    obtain ⟨xs, k5, k6⟩ := args_vals hb (fun t ht => hm t (by simp [ht])) (fun j t v hj hv' => hv (j + 1) t v (by simpa using hj) (by simpa using hv')) h2
    exact ⟨_ :: xs, ⟨⟨n, us, k1, rfl, k4⟩, k3, k5⟩, .cons k2 k6⟩
  | [], _ :: _, _, _, _, _, h => by simp [DataW.TrodAll] at h
  | [], [], _ :: _, _, _, _, h => by simp [DataW.TrodAll] at h
  | _ :: _, [], _, _, _, _, h => by simp [DataW.TrodAll] at h
  | _ :: _, _ :: _, [], _, _, _, h => by simp [DataW.TrodAll] at h

/-- All arguments read behind the call as they did. -/
theorem trodAll_below (hl : laidOutB P = true) {W W' : World} (hb : Below W.heap.size W W') {sp : Nat → Bool} : ∀ {ts : List TypeId} {vs : List Value} {ds : List (DataW H)} {ps : List MemPlace},
    (∀ t ∈ ts, P.readableRec t = true ∧ t < P.types.size) → DataW.TrodAll enc P W 0 (fun _ => true) true ts vs ds ps → (∀ p ∈ ps, p.block < W.heap.size) → (∀ p ∈ ps, sp p.block = true) → DataW.TrodAll enc P W' 0 sp true ts vs ds ps
  | [], [], [], ps, _, h, _, _ => h
  | t :: ts, v :: vs, d :: ds, ps, hr, ⟨p, q, h1, h2, e⟩, hlt, hsp => by
    subst e
    refine ⟨p, q, ?_, trodAll_below hl hb (fun t ht => hr t (by simp [ht])) h2 (fun x hx => hlt x (by simp [hx])) (fun x hx => hsp x (by simp [hx])), rfl⟩
    exact WideElems.Trod_stays hl (hr t (by simp)).1 (hr t (by simp)).2 h1 (fun x hx => hb.same (hlt x (by simp [hx]))) (fun x hx => hsp x (by simp [hx]))
  | [], _ :: _, _, _, _, h, _, _ => by simp [DataW.TrodAll] at h
  | [], [], _ :: _, _, _, h, _, _ => by simp [DataW.TrodAll] at h
  | _ :: _, [], _, _, _, h, _, _ => by simp [DataW.TrodAll] at h
  | _ :: _, _ :: _, [], _, _, h, _, _ => by simp [DataW.TrodAll] at h

/-- 'It answers true, and each argument reads as it did.' -/
theorem law_post {f : Func} {s : ChangeSpec} {apart fresh handsOn again : Bool} {tb : TypeId} (hl : laidOutB P = true) (hro : ∀ t ∈ f.params.toList, P.readableRec t = true ∧ t < P.types.size)
    (hrt : f.resultTypes = #[tb]) (htb : P.underlying tb = some .bool) (hsv : s.vars = []) {W W' : World} {args : Array Value} {ds gs : List (DataW H)} {before : List MemPlace}
    (hfn : s.fn H (ds ++ gs) = { results := [.lit (.bool true)], args := ds }) (hW : DataW.Whole enc P f.params.toList s.vars apart W args.toList ds gs before) (hb : Below W.heap.size W W') :
    s.post enc P f apart fresh handsOn again W args (.bool true) W' := by
  have hlt : ∀ p ∈ before, p.block < W.heap.size := fun p hp => hW.lt p hp
  have hW0 := hW
  obtain ⟨p, q, hA, hV, e, hz, hn⟩ := hW
  rw [hsv] at hV
  obtain ⟨rfl, rfl⟩ := ChangeShapes.trodVars_none hV
  rw [List.append_nil] at e
  subst e
  have hA' : ∀ sp : Nat → Bool, (∀ x ∈ before, sp x.block = true) → DataW.TrodAll enc P W' 0 sp true f.params.toList args.toList ds before := fun sp hsp => trodAll_below hl hb hro hA hlt hsp
  have hR : ∀ (b : Nat) (sp : Nat → Bool) (hd : Bool), DataW.TrodAll enc P W' b sp hd f.resultTypes.toList ((Value.bool true).resultList f.resultTypes.size) [.lit (.bool true)] [] := by
    intro b sp hd
    rw [hrt]
    exact ⟨[], [], RowKit.shut_bool htb _, rfl, rfl⟩
  refine ⟨ds, [], before, [], before, [], hW0, ?_, ?_, ?_, World.keptBut_mono (fun p hp => ⟨hp, .inr (.inl hp)⟩) (hb.frame (· ∈ before)), fun _ => ?_⟩
  · rw [hfn]; exact hR _ _ _
  · rw [hfn]; exact hA' _ (fun x hx => by simpa using hlt x hx)
  · rw [hfn, hsv]; rfl
  · refine ⟨RowKit.ok_one hrt rfl (RowKit.okWide_bool_mk htb _), [.lit (.bool true)] ++ ds, [], before, ⟨before, [], ?_, ?_, by simp, ?_, hn⟩, fun x hx _ => hx⟩
    · have := ChangeShapes.trodAll_append (hA' (fun _ => true) (fun _ _ => rfl)) (hR 0 (fun _ => true) true)
      simpa using this
    · rw [hsv]; rfl
    · intro b off hp
      rw [hb.frozen (hlt _ hp)]
      exact hz b off hp

/-- A law: what the evaluator answers at every reading of the arguments, the row says. -/
theorem law_calls {F : FuncId → Option CFn} {K : FuncId → Option Hook} {cfg : Cfg} (hT : TableOk P cfg F) (hK : HookOk P K) {g : FuncId} {f : Func} {s : ChangeSpec} {apart fresh handsOn again : Bool} {tb : TypeId} {book : List TypeId}
    (hbook : plainBook P book = true) (hin : ∀ t ∈ f.params.toList, t ∈ book) (hl : laidOutB P = true) (hro : ∀ t ∈ f.params.toList, P.readableRec t = true ∧ t < P.types.size)
    (hrt : f.resultTypes = #[tb]) (htb : P.underlying tb = some .bool) (hsv : s.vars = []) {W : World} {args : Array Value} {ds gs : List (DataW H)} {before : List MemPlace} {r : Reach} {b0 : Nat}
    (hfn : s.fn H (ds ++ gs) = { results := [.lit (.bool true)], args := ds }) (hW : DataW.Whole enc P f.params.toList s.vars apart W args.toList ds gs before)
    (hval : ∀ (j : Nat) (t : TypeId) (v : Value), f.params[j]? = some t → args[j]? = some v → Value.okWide P W r b0 t v) (hg : GlobOk W)
    (run : ∀ xs, ArgVals P f.params.toList ds xs → ∃ n σ', evF F K n g xs [] = some (.bool true, σ')) :
    Calls P g args W fun e W' => ∃ v, e = .returned v ∧ s.post enc P f apart fresh handsOn again W args v W' := by
  have hW0 := hW
  obtain ⟨p, q, hA, hV, e, hz, hn⟩ := hW
  obtain ⟨xs, h1, h2⟩ := args_vals hbook (b0 := b0) (r := r) hin (fun j t v hj hv => hval j t v (by simpa using hj) (by simpa using hv)) hA
  obtain ⟨n, σ', hr⟩ := run xs h1
  obtain ⟨_, hc⟩ := evF_sound hT hK n g xs [] (.bool true) σ' hr
  have := hc (Gh.start W) W args.toList (winv_start hg) h2
  rw [Array.toArray_toList] at this
  refine this.mono ?_
  rintro e W' ⟨γ', u, rfl, hu, _, hF⟩
  cases hu
  exact ⟨_, rfl, law_post hl hro hrt htb hsv hfn hW0 (below_start hF)⟩
end
end
end Go.Ev
