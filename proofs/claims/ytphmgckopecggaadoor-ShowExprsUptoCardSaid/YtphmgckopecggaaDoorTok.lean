/- Lists that grow: in a new block, or where they lie. -/
import Derived.Test.YtphmgckopecggaaDoorMem
namespace Go.Ev
set_option linter.unusedSectionVars false
variable [Glob]

variable {γ : Gh} {σ : Hp} {w : World}

def Gh.addTok (γ : Gh) (k lab : Nat) (x : Nat × Nat × Nat) (b : Nat) : Gh :=
  { γ with tok := fun k' l => if k' = k ∧ l = lab then some x else γ.tok k' l, own := fun c => c = b ∨ γ.own c }

theorem addTok_ext (γ : Gh) (k lab : Nat) (x : Nat × Nat × Nat) (b : Nat) (h : γ.tok k lab = none) : Ext γ (γ.addTok k lab x b) where
  im _ _ _ h := h
  ref _ _ h := h
  tok k' l y hy := by
    simp only [Gh.addTok]
    split
    · rename_i hc
      obtain ⟨rfl, rfl⟩ := hc
      rw [h] at hy; cases hy
    · exact hy
  own _ h := .inr h
  siz _ _ h := h
  lit _ h := h

/-- The mark k gets the label lab: nothing else of the objects turns. -/
structure Marks (σ σ' : Hp) (k lab : Nat) : Prop where
  same : σ'[k]? = some (.tok lab)
  other : ∀ j, j ≠ k → j < σ.length → σ'[j]? = σ[j]?
  len : σ'.length = max σ.length (k + 1)
  old : ∀ x, σ[k]? = some x → ∃ l, x = .tok l
  kle : k ≤ σ.length

theorem Marks.get {σ σ' : Hp} {k lab : Nat} (h : Marks σ σ' k lab) {j : Nat} {x : HObj} (hx : σ'[j]? = some x) : (j = k ∧ x = .tok lab) ∨ (j ≠ k ∧ (σ[j]? = some x)) := by
  by_cases hj : j = k
  · subst hj
    rw [h.same] at hx
    exact .inl ⟨rfl, by simpa using hx.symm⟩
  · refine .inr ⟨hj, ?_⟩
    by_cases hl : j < σ.length
    · rw [← h.other j hj hl]; exact hx
    · have h1 : j < σ'.length := (List.getElem?_eq_some_iff.1 hx).1
      have := h.len; have := h.kle
      omega

theorem marks_new (σ : Hp) : Marks σ (σ ++ [.tok 0]) σ.length 0 where
  same := by simp
  other j hj hl := by rw [List.getElem?_append_left hl]
  len := by simp
  old vs h := by simp at h
  kle := Nat.le_refl _

theorem marks_set (σ : Hp) (k l lab : Nat) (h : σ[k]? = some (.tok l)) : Marks σ (σ.set k (.tok lab)) k lab := by
  have hk : k < σ.length := (List.getElem?_eq_some_iff.1 h).1
  exact ⟨by rw [List.getElem?_set_self hk], fun j hj _ => by rw [List.getElem?_set_ne (Ne.symm hj)], by simp; omega, (fun x hc => ⟨l, by rw [h] at hc; simpa using hc.symm⟩), by omega⟩

/-- A new block whose first cells stay as they are, and which may grow behind them. -/
theorem WInv.newTok (h : WInv γ σ w) {σ' : Hp} {k lab : Nat} (hm : Marks σ σ' k lab) (hno : ∀ l x, γ.tok k l = some x → l < lab) (us : List Value) (cs : Array Value) (e : TypeId)
    (hc : ∀ (j : Nat) (u : Value), us[j]? = some u → cs[j]? = some u) :
    WInv ((γ.addIm w.heap.size 0 us).addTok k lab (w.heap.size, us.length, cs.size) w.heap.size) σ' (w.alloc (.cells cs e (0, 0))) ∧
      Frame γ σ w ((γ.addIm w.heap.size 0 us).addTok k lab (w.heap.size, us.length, cs.size) w.heap.size) σ' (w.alloc (.cells cs e (0, 0))) := by
  obtain ⟨h1, h2⟩ := h.newIm us cs e (0, 0) hc
  have hnone : γ.tok k lab = none := by
    cases hq : γ.tok k lab with
    | none => rfl
    | some x => have := hno _ _ hq; omega
  have hx2 : Ext (γ.addIm w.heap.size 0 us) ((γ.addIm w.heap.size 0 us).addTok k lab (w.heap.size, us.length, cs.size) w.heap.size) := addTok_ext _ _ _ _ _ hnone
  have htk : ∀ k' l' x, ((γ.addIm w.heap.size 0 us).addTok k lab (w.heap.size, us.length, cs.size) w.heap.size).tok k' l' = some x →
      (k' = k ∧ l' = lab ∧ x = (w.heap.size, us.length, cs.size)) ∨ (¬ (k' = k ∧ l' = lab) ∧ γ.tok k' l' = some x) := by
    intro k' l' x hx
    simp only [Gh.addTok, Gh.addIm] at hx
    split at hx
    · rename_i hcd; exact .inl ⟨hcd.1, hcd.2, by simpa using hx.symm⟩
    · rename_i hcd; exact .inr ⟨hcd, hx⟩
  refine ⟨?_, ?_⟩
  · constructor
    case imOk => exact h1.imOk
    case objOk =>
      intro i vs b hi hr
      rcases hm.get hi with ⟨_, h3⟩ | ⟨_, h3⟩
      · cases h3
      · obtain ⟨us', e', h4, h5, h6⟩ := h1.objOk i vs b h3 hr
        exact ⟨us', e', h4, h5.ext hx2, h6⟩
    case mapOk =>
      intro i vs b hi hr
      rcases hm.get hi with ⟨_, h3⟩ | ⟨_, h3⟩
      · cases h3
      · obtain ⟨us', e', h4, h5⟩ := h1.mapOk i vs b h3 hr
        exact ⟨us', e', h4, h5.ext hx2⟩
    case sizOk => exact h1.sizOk
    case sizRef => exact h1.sizRef
    case glob => exact h.globTo (fun b hb _ => heap_alloc_ne w _ hb) (fun b hb => hb.elim (fun h => .inr (by omega)) .inl)
    case litOk =>
      intro b hb
      obtain ⟨k1, k2, k3⟩ := h1.litOk b hb
      refine ⟨.inr k1, k2, fun k' l' x ht => ?_⟩
      rcases htk k' l' _ ht with ⟨_, _, rfl⟩ | ⟨_, ht'⟩
      · have := h.ownLt _ k1; simp only [ne_eq]; omega
      · exact k3 k' l' x ht'
    case refInj =>
      intro i j b x y hx hxl hy hyl hi hj
      have hk : ∀ (j : Nat) (y : HObj) (b : Nat), σ'[j]? = some y → y.live = true → γ.ref j = some b → ∃ y', σ[j]? = some y' ∧ y'.live = true := by
        intro j y b hy hyl hr
        have hjl := h.refLt _ _ hr
        by_cases hjk : j = k
        · subst hjk
          obtain ⟨l, hl⟩ := hm.old _ (List.getElem?_eq_getElem hjl)
          exact ⟨_, List.getElem?_eq_getElem hjl, by rw [hl]; rfl⟩
        · rcases hm.get hy with ⟨h3, _⟩ | ⟨_, h3⟩
          · exact absurd h3 hjk
          · exact ⟨y, h3, hyl⟩
      obtain ⟨x', e1, e2⟩ := hk i x b hx hxl hi
      obtain ⟨y', e3, e4⟩ := hk j y b hy hyl hj
      exact h1.refInj _ _ _ _ _ e1 e2 e3 e4 hi hj
    case refIm => exact h1.refIm
    case refOwn => intro i b hr; exact .inr (h1.refOwn i b hr)
    case refLt => intro i b hr; have := h1.refLt i b hr; have := hm.len; omega
    case tokOk =>
      intro k' l' b f e' hi ht
      rcases htk k' l' _ ht with ⟨rfl, rfl, hx⟩ | ⟨hne, ht'⟩
      · simp only [Prod.mk.injEq] at hx
        obtain ⟨rfl, rfl, rfl⟩ := hx
        refine ⟨.inl rfl, ⟨cs, e, heap_alloc_eq w _, rfl⟩, fun o ho => ?_, fun i hr => ?_⟩
        · simp only [Gh.addTok, Gh.addIm]
          rw [if_neg (by omega)]
          exact h.fresh (Nat.le_refl _)
        · have := h.freshRef hr; omega
      · rcases hm.get hi with ⟨rfl, h3⟩ | ⟨_, h3⟩
        · simp only [HObj.tok.injEq] at h3
          exact absurd ⟨rfl, h3⟩ hne
        · obtain ⟨k1, k2, k3, k4⟩ := h1.tokOk k' l' b f e' h3 ht'
          exact ⟨.inr k1, k2, k3, k4⟩
    case tokInj =>
      intro k1 l1 b f1 e1 k2 l2 f2 e2 hi1 ht1 hi2 ht2
      rcases htk k1 l1 _ ht1 with ⟨rfl, rfl, hx1⟩ | ⟨hne1, ht1'⟩
      · simp only [Prod.mk.injEq] at hx1
        obtain ⟨rfl, _, _⟩ := hx1
        rcases htk k2 l2 _ ht2 with ⟨rfl, _, _⟩ | ⟨hne2, ht2'⟩
        · rfl
        · rcases hm.get hi2 with ⟨rfl, h3⟩ | ⟨_, h3⟩
          · rfl
          · have := h.ownLt _ (h.tokOk _ _ _ _ _ h3 ht2').1; omega
      · rcases hm.get hi1 with ⟨rfl, h3⟩ | ⟨_, h3⟩
        · simp only [HObj.tok.injEq] at h3
          exact absurd ⟨rfl, h3⟩ hne1
        · rcases htk k2 l2 _ ht2 with ⟨rfl, rfl, hq2⟩ | ⟨hne2, ht2'⟩
          · simp only [Prod.mk.injEq] at hq2
            obtain ⟨rfl, _, _⟩ := hq2
            have := h.ownLt _ (h.tokOk _ _ _ _ _ h3 ht1').1; omega
          · rcases hm.get hi2 with ⟨rfl, h4⟩ | ⟨_, h4⟩
            · simp only [HObj.tok.injEq] at h4
              exact absurd ⟨rfl, h4⟩ hne2
            · exact h.tokInj _ _ _ _ _ _ _ _ _ h3 ht1' h4 ht2'
    case tokOwn =>
      intro k' l' x ht
      rcases htk k' l' _ ht with ⟨_, _, rfl⟩ | ⟨_, ht'⟩
      · exact .inl rfl
      · exact .inr (h1.tokOwn _ _ _ ht')
    case tokLt =>
      intro k' l' x ht
      have hl := hm.len
      rcases htk k' l' _ ht with ⟨rfl, _, _⟩ | ⟨_, ht'⟩
      · omega
      · have := h.tokLt _ _ _ ht'; omega
    case tokOld =>
      intro k' l' x l hi ht
      rcases htk k' l' _ ht with ⟨rfl, rfl, _⟩ | ⟨hne, ht'⟩
      · rw [hm.same] at hi
        simp only [Option.some.injEq, HObj.tok.injEq] at hi
        omega
      · rcases hm.get hi with ⟨rfl, h3⟩ | ⟨_, h3⟩
        · simp only [HObj.tok.injEq] at h3
          have := hno _ _ ht'; omega
        · exact h.tokOld _ _ _ _ h3 ht'
    case ownLt =>
      intro b hb
      rcases hb with rfl | hb
      · simp
      · exact h1.ownLt b hb
  · refine ⟨h2.ext.trans hx2, rfl, rfl, rfl, h2.size, h2.block, fun b hb => ?_, by have := hm.len; omega, ?_, h2.imOld⟩
    · rcases hb with rfl | hb
      · exact .inr (Nat.le_refl _)
      · exact .inl hb
    · intro i vs hi hr
      have hil : i < σ.length := (List.getElem?_eq_some_iff.1 hi).1
      have hik : i ≠ k := by rintro rfl; obtain ⟨l, hl⟩ := hm.old _ hi; cases hl
      exact ⟨by rw [hm.other i hik hil]; exact hi, hr⟩

/-- The list grows where it lies. -/
theorem WInv.growTok (h : WInv γ σ w) (k lab b f e : Nat) (news : List Value) (cs cs' : Array Value) (el : TypeId)
    (hi : σ[k]? = some (.tok lab)) (ht : γ.tok k lab = some (b, f, e)) (hb : w.heap[b]? = some (.cells cs el (0, 0)))
    (hs : cs'.size = cs.size) (hn : ∀ (j : Nat) (u : Value), news[j]? = some u → cs'[f + j]? = some u) (ho : ∀ j, j < f → cs'[j]? = cs[j]?) :
    WInv ((γ.addIm b f news).addTok k (lab + 1) (b, f + news.length, e) b) (σ.set k (.tok (lab + 1))) (w.setRow b cs') ∧
      Frame γ σ w ((γ.addIm b f news).addTok k (lab + 1) (b, f + news.length, e) b) (σ.set k (.tok (lab + 1))) (w.setRow b cs') := by
  have hm := marks_set σ k lab (lab + 1) hi
  obtain ⟨t1, ⟨us0, el0, t2, t3⟩, t4, t5⟩ := h.tokOk k lab b f e hi ht
  rw [hb] at t2
  simp only [Option.some.injEq, Obj.cells.injEq, and_true] at t2
  obtain ⟨rfl, rfl⟩ := t2
  have hnone : γ.tok k (lab + 1) = none := by
    cases hq : γ.tok k (lab + 1) with
    | none => rfl
    | some x => have := h.tokOld _ _ _ _ hi hq; omega
  have hx1 : Ext γ (γ.addIm b f news) := addIm_ext γ b f news t4
  have hx2 : Ext (γ.addIm b f news) ((γ.addIm b f news).addTok k (lab + 1) (b, f + news.length, e) b) := addTok_ext _ _ _ _ _ hnone
  have hblk : (w.setRow b cs').heap[b]? = some (.cells cs' el (0, 0)) := setRow_heap w b cs cs' el (0, 0) hb
  have hoth : ∀ c, c ≠ b → (w.setRow b cs').heap[c]? = w.heap[c]? := fun c hc => setRow_other w b c cs' hc
  have htk : ∀ k' l' x, ((γ.addIm b f news).addTok k (lab + 1) (b, f + news.length, e) b).tok k' l' = some x →
      (k' = k ∧ l' = lab + 1 ∧ x = (b, f + news.length, e)) ∨ (¬ (k' = k ∧ l' = lab + 1) ∧ γ.tok k' l' = some x) := by
    intro k' l' x hx
    simp only [Gh.addTok, Gh.addIm] at hx
    split at hx
    · rename_i hcd; exact .inl ⟨hcd.1, hcd.2, by simpa using hx.symm⟩
    · rename_i hcd; exact .inr ⟨hcd, hx⟩
  refine ⟨?_, ?_⟩
  · constructor
    case imOk =>
      intro c o u hu
      simp only [Gh.addTok, Gh.addIm] at hu
      split at hu
      · rename_i hcd
        obtain ⟨rfl, h1, h2⟩ := hcd
        have := hn (o - f) u hu
        rw [show f + (o - f) = o by omega] at this
        simp only [World.cell?, hblk]
        simpa using this
      · have h1 := h.imOk c o u hu
        by_cases hcb : c = b
        · subst hcb
          have hof : o < f := by
            rcases Nat.lt_or_ge o f with h2 | h2
            · exact h2
            · rw [t4 o h2] at hu; cases hu
          simp only [World.cell?, hb] at h1
          simp only [World.cell?, hblk]
          rw [ho o hof]
          exact h1
        · unfold World.cell? at *
          rw [hoth c hcb]
          exact h1
    case objOk =>
      intro i vs c hi' hr
      rcases hm.get hi' with ⟨_, h3⟩ | ⟨_, h3⟩
      · cases h3
      · obtain ⟨us', e', h4, h5, h6⟩ := h.objOk i vs c h3 hr
        have hcb : c ≠ b := by rintro rfl; exact t5 i hr
        exact ⟨us', e', by rw [hoth c hcb]; exact h4, (h5.ext hx1).ext hx2, h6⟩
    case mapOk =>
      intro i vs c hi' hr
      rcases hm.get hi' with ⟨_, h3⟩ | ⟨_, h3⟩
      · cases h3
      · obtain ⟨us', e', h4, h5⟩ := h.mapOk i vs c h3 hr
        have hcb : c ≠ b := by rintro rfl; exact t5 i hr
        exact ⟨us', e', by rw [hoth c hcb]; exact h4, (h5.ext hx1).ext hx2⟩
    case sizOk =>
      intro i c e' hr hs'
      obtain ⟨us', el', h4, h5⟩ := h.sizOk i c e' hr hs'
      have hcb : c ≠ b := by rintro rfl; exact t5 i hr
      exact ⟨us', el', by rw [hoth c hcb]; exact h4, h5⟩
    case sizRef => exact h.sizRef
    case glob => exact h.globTo (fun c _ hc => hoth c (fun hcb => hc (hcb ▸ t1))) (fun c hc => hc.elim (fun h' => .inl (h' ▸ t1)) .inl)
    case litOk =>
      intro c hc
      obtain ⟨k1, k2, k3⟩ := h.litOk c hc
      refine ⟨.inr k1, k2, fun k' l' x ht' => ?_⟩
      rcases htk k' l' _ ht' with ⟨_, _, rfl⟩ | ⟨_, ht''⟩
      · exact k3 k lab (b, f, e) ht
      · exact k3 k' l' x ht''
    case refInj =>
      intro i j c x y hx hxl hy hyl hi' hj'
      have hk : ∀ (j : Nat) (y : HObj) (c : Nat), (σ.set k (.tok (lab + 1)))[j]? = some y → y.live = true → γ.ref j = some c → ∃ y', σ[j]? = some y' ∧ y'.live = true := by
        intro j y c hy hyl hr
        rcases hm.get hy with ⟨rfl, _⟩ | ⟨_, h3⟩
        · exact ⟨_, hi, rfl⟩
        · exact ⟨y, h3, hyl⟩
      obtain ⟨x', e1, e2⟩ := hk i x c hx hxl hi'
      obtain ⟨y', e3, e4⟩ := hk j y c hy hyl hj'
      exact h.refInj _ _ _ _ _ e1 e2 e3 e4 hi' hj'
    case refIm =>
      intro i c o hr
      have hcb : c ≠ b := by rintro rfl; exact t5 i hr
      simp only [Gh.addTok, Gh.addIm]
      rw [if_neg (fun hc => hcb hc.1)]
      exact h.refIm i c o hr
    case refOwn => intro i c hr; exact .inr (h.refOwn i c hr)
    case refLt => intro i c hr; have := h.refLt i c hr; simpa using this
    case tokOk =>
      intro k' l' c f' e' hi' ht'
      rcases htk k' l' _ ht' with ⟨rfl, rfl, hx⟩ | ⟨hne, ht''⟩
      · simp only [Prod.mk.injEq] at hx
        obtain ⟨rfl, rfl, rfl⟩ := hx
        refine ⟨.inl rfl, ⟨cs', el, hblk, by omega⟩, fun o ho' => ?_, t5⟩
        simp only [Gh.addTok, Gh.addIm]
        rw [if_neg (by omega)]
        exact t4 o (by omega)
      · rcases hm.get hi' with ⟨rfl, h3⟩ | ⟨hkk, h3⟩
        · simp only [HObj.tok.injEq] at h3
          exact absurd ⟨rfl, h3⟩ hne
        · obtain ⟨k1, ⟨us', el', k2, k2'⟩, k3, k4⟩ := h.tokOk k' l' c f' e' h3 ht''
          have hcb : c ≠ b := by
            rintro rfl
            exact hkk (h.tokInj _ _ _ _ _ _ _ _ _ h3 ht'' hi ht)
          refine ⟨.inr k1, ⟨us', el', by rw [hoth c hcb]; exact k2, k2'⟩, fun o ho' => ?_, k4⟩
          simp only [Gh.addTok, Gh.addIm]
          rw [if_neg (fun hc => hcb hc.1)]
          exact k3 o ho'
    case tokInj =>
      intro k1 l1 c f1 e1 k2 l2 f2 e2 hi1 ht1 hi2 ht2
      rcases htk k1 l1 _ ht1 with ⟨rfl, rfl, hx1'⟩ | ⟨hne1, ht1'⟩
      · simp only [Prod.mk.injEq] at hx1'
        obtain ⟨rfl, _, _⟩ := hx1'
        rcases htk k2 l2 _ ht2 with ⟨rfl, _, _⟩ | ⟨hne2, ht2'⟩
        · rfl
        · rcases hm.get hi2 with ⟨rfl, h3⟩ | ⟨_, h3⟩
          · rfl
          · exact h.tokInj _ _ _ _ _ _ _ _ _ hi ht h3 ht2'
      · rcases hm.get hi1 with ⟨rfl, h3⟩ | ⟨_, h3⟩
        · simp only [HObj.tok.injEq] at h3
          exact absurd ⟨rfl, h3⟩ hne1
        · rcases htk k2 l2 _ ht2 with ⟨rfl, rfl, hx2'⟩ | ⟨hne2, ht2'⟩
          · simp only [Prod.mk.injEq] at hx2'
            obtain ⟨rfl, _, _⟩ := hx2'
            exact h.tokInj _ _ _ _ _ _ _ _ _ h3 ht1' hi ht
          · rcases hm.get hi2 with ⟨rfl, h4⟩ | ⟨_, h4⟩
            · simp only [HObj.tok.injEq] at h4
              exact absurd ⟨rfl, h4⟩ hne2
            · exact h.tokInj _ _ _ _ _ _ _ _ _ h3 ht1' h4 ht2'
    case tokOwn =>
      intro k' l' x ht'
      rcases htk k' l' _ ht' with ⟨_, _, rfl⟩ | ⟨_, ht''⟩
      · exact .inl rfl
      · exact .inr (h.tokOwn _ _ _ ht'')
    case tokLt =>
      intro k' l' x ht'
      have hk : k < σ.length := (List.getElem?_eq_some_iff.1 hi).1
      rcases htk k' l' _ ht' with ⟨rfl, _, _⟩ | ⟨_, ht''⟩
      · simpa using hk
      · have := h.tokLt _ _ _ ht''; simpa using this
    case tokOld =>
      intro k' l' x l hi' ht'
      rcases htk k' l' _ ht' with ⟨rfl, rfl, _⟩ | ⟨hne, ht''⟩
      · rw [hm.same] at hi'
        simp only [Option.some.injEq, HObj.tok.injEq] at hi'
        omega
      · rcases hm.get hi' with ⟨rfl, h3⟩ | ⟨_, h3⟩
        · simp only [HObj.tok.injEq] at h3
          have := h.tokOld _ _ _ _ hi ht''; omega
        · exact h.tokOld _ _ _ _ h3 ht''
    case ownLt =>
      intro c hc
      rcases hc with rfl | hc
      · have := h.ownLt _ t1; simpa [World.setRow] using this
      · have := h.ownLt c hc; simpa [World.setRow] using this
  · refine ⟨hx1.trans hx2, rfl, rfl, rfl, by simp [World.setRow], fun c _ hc => hoth c (fun hcb => hc (hcb ▸ t1)), fun c hc => ?_, by simp, ?_, fun c o u hu _ hc => ?_⟩
    · rcases hc with rfl | hc
      · exact .inl t1
      · exact .inl hc
    · intro i vs hi' hr
      have hik : i ≠ k := by rintro rfl; rw [hi] at hi'; cases hi'
      exact ⟨by rw [List.getElem?_set_ne (Ne.symm hik)]; exact hi', hr⟩
    · have hcb : c ≠ b := fun hcb => hc (hcb ▸ t1)
      simp only [Gh.addTok, Gh.addIm] at hu
      rw [if_neg (fun h => hcb h.1)] at hu
      exact hu

end Go.Ev
