/- What becomes of the ghost when memory is laid or written. -/
import Derived.Test.YtphmgckopecggaaDoorRel
import Derived.Laws.CopyRow
namespace Go.Ev
set_option linter.unusedSectionVars false
variable [Glob]

variable {γ : Gh} {σ : Hp} {w : World}

theorem add_at (b o j : Nat) : (⟨b, o, none⟩ : Addr).add j = ⟨b, o + j, none⟩ := by unfold Addr.add; split <;> simp_all

def Gh.addIm (γ : Gh) (b off : Nat) (us : List Value) : Gh :=
  { γ with im := fun b' o => if b' = b ∧ off ≤ o ∧ o < off + us.length then us[o - off]? else γ.im b' o }

theorem addIm_in (γ : Gh) (b off : Nat) (us : List Value) (j : Nat) (hj : j < us.length) : (γ.addIm b off us).im b (off + j) = us[j]? := by
  show (if b = b ∧ off ≤ off + j ∧ off + j < off + us.length then us[off + j - off]? else γ.im b (off + j)) = _
  rw [if_pos ⟨rfl, by omega, by omega⟩]
  congr 1
  omega

theorem addIm_ext (γ : Gh) (b off : Nat) (us : List Value) (h : ∀ o, off ≤ o → γ.im b o = none) : Ext γ (γ.addIm b off us) where
  im b' o u hu := by
    simp only [Gh.addIm]
    split
    · rename_i hc
      obtain ⟨rfl, h1, h2⟩ := hc
      rw [h o h1] at hu; cases hu
    · exact hu
  ref _ _ h := h
  tok _ _ _ h := h
  own _ h := h
  siz _ _ h := h
  lit _ h := h

theorem WInv.globTo (h : WInv γ σ w) {γ' : Gh} {w' : World} (hb : ∀ b, b < w.heap.size → ¬ γ.own b → w'.heap[b]? = w.heap[b]?) (ho : ∀ b, γ'.own b → γ.own b ∨ w.heap.size ≤ b) :
    ∀ b cs, Glob.row b = some cs → (∃ e fr, w'.heap[b]? = some (.cells cs e fr)) ∧ ¬ γ'.own b := by
  intro b cs hg
  obtain ⟨⟨e, fr, h1⟩, h2⟩ := h.glob b cs hg
  have hlt : b < w.heap.size := (Array.getElem?_eq_some_iff.1 h1).1
  refine ⟨⟨e, fr, by rw [hb b hlt h2]; exact h1⟩, fun hc => ?_⟩
  rcases ho b hc with h3 | h3
  · exact h2 h3
  · omega

theorem WInv.fresh (h : WInv γ σ w) {b o : Nat} (hb : w.heap.size ≤ b) : γ.im b o = none := by
  cases hi : γ.im b o with
  | none => rfl
  | some u =>
    have := World.block_lt_of_cell? w _ (h.imOk _ _ _ hi)
    simp at this; omega

theorem WInv.freshRef (h : WInv γ σ w) {i b : Nat} (hr : γ.ref i = some b) : b < w.heap.size := h.ownLt _ (h.refOwn _ _ hr)

theorem heap_alloc_ne (w : World) (o : Obj) {b : Nat} (hb : b < w.heap.size) : (w.alloc o).heap[b]? = w.heap[b]? := by
  show (w.heap.push o)[b]? = _
  rw [Array.getElem?_push, if_neg (by omega)]

theorem heap_alloc_eq (w : World) (o : Obj) : (w.alloc o).heap[w.heap.size]? = some o := by
  show (w.heap.push o)[w.heap.size]? = _
  simp

theorem cell_alloc_lt (w : World) (o : Obj) {a : Addr} (hb : a.block < w.heap.size) : (w.alloc o).cell? a = w.cell? a := by
  unfold World.cell?
  rw [heap_alloc_ne w o hb]

/-- The world has drawn. -/
theorem WInv.drew (h : WInv γ σ w) : WInv γ σ w.drew where
  imOk := h.imOk
  objOk := h.objOk
  refInj := h.refInj
  refIm := h.refIm
  mapOk := h.mapOk
  sizOk := h.sizOk
  sizRef := h.sizRef
  glob := h.glob
  litOk := h.litOk
  refOwn := h.refOwn
  refLt := h.refLt
  tokOk := h.tokOk
  tokInj := h.tokInj
  tokOwn := h.tokOwn
  tokLt := h.tokLt
  tokOld := h.tokOld
  ownLt := h.ownLt
theorem Frame.drew (γ : Gh) (σ : Hp) (w : World) : Frame γ σ w γ σ w.drew :=
  ⟨.refl γ, rfl, rfl, rfl, Nat.le_refl _, fun _ _ _ => rfl, fun _ h => .inl h, Nat.le_refl _, fun _ _ h k => ⟨h, k⟩, fun _ _ _ h _ _ => h⟩

/-- A new block whose first cells stay as they are; nobody writes it. -/
theorem WInv.newIm' (h : WInv γ σ w) {w' : World} (us : List Value) (cs : Array Value) (e : TypeId) (fr : Nat × Nat) (hc : ∀ (j : Nat) (u : Value), us[j]? = some u → cs[j]? = some u)
    (hsz : w'.heap.size = w.heap.size + 1) (hold : ∀ b, b < w.heap.size → w'.heap[b]? = w.heap[b]?) (hnew : w'.heap[w.heap.size]? = some (.cells cs e fr))
    (hos : w'.os = w.os) (htp : w'.tape = w.tape) (hout : w'.output = w.output) :
    WInv (γ.addIm w.heap.size 0 us) σ w' ∧ Frame γ σ w (γ.addIm w.heap.size 0 us) σ w' := by
  have hx := addIm_ext γ w.heap.size 0 us (fun o _ => h.fresh (Nat.le_refl _))
  refine ⟨?_, ?_⟩
  · constructor
    case imOk =>
      intro b o u hu
      simp only [Gh.addIm] at hu
      split at hu
      · rename_i hcd
        obtain ⟨rfl, _, _⟩ := hcd
        simp only [World.cell?, hnew]
        simpa using hc _ _ (by simpa using hu)
      · have h1 := h.imOk _ _ _ hu
        have hb : b < w.heap.size := World.block_lt_of_cell? w _ h1
        unfold World.cell? at *
        rw [hold b hb]
        exact h1
    case objOk =>
      intro i vs b h1 h2
      obtain ⟨us', e', h3, h4, h5⟩ := h.objOk i vs b h1 h2
      exact ⟨us', e', by rw [hold b (h.freshRef h2)]; exact h3, h4.ext hx, h5⟩
    case mapOk =>
      intro i es b h1 h2
      obtain ⟨us', c', h3, h4⟩ := h.mapOk i es b h1 h2
      exact ⟨us', c', by rw [hold b (h.freshRef h2)]; exact h3, h4.ext hx⟩
    case sizOk =>
      intro i b e' h1 h2
      obtain ⟨us', c', h3, h4⟩ := h.sizOk i b e' h1 h2
      exact ⟨us', c', by rw [hold b (h.freshRef h1)]; exact h3, h4⟩
    case sizRef => exact h.sizRef
    case glob => exact h.globTo (fun b hb _ => hold b hb) (fun b hb => .inl hb)
    case litOk => exact h.litOk
    case refInj => exact h.refInj
    case refIm =>
      intro i b o hr
      simp only [Gh.addIm]
      split
      · rename_i hcd
        have := h.freshRef hr
        omega
      · exact h.refIm i b o hr
    case refOwn => exact h.refOwn
    case refLt => exact h.refLt
    case tokOk =>
      intro k lab b f e' h1 h2
      obtain ⟨k1, ⟨us', el, k2, k3⟩, k4, k5⟩ := h.tokOk k lab b f e' h1 h2
      refine ⟨k1, ⟨us', el, by rw [hold b (h.ownLt _ k1)]; exact k2, k3⟩, fun o ho => ?_, k5⟩
      simp only [Gh.addIm]
      split
      · rename_i hcd
        have := h.ownLt _ k1
        omega
      · exact k4 o ho
    case tokInj => exact h.tokInj
    case tokOwn => exact h.tokOwn
    case tokLt => exact h.tokLt
    case tokOld => exact h.tokOld
    case ownLt => intro b hb; have := h.ownLt b hb; omega
  · refine ⟨hx, hos, htp, hout, by omega, fun b hb _ => hold b hb, fun b hb => .inl hb, Nat.le_refl _, fun _ _ h k => ⟨h, k⟩, fun b o u hu hb _ => ?_⟩
    simp only [Gh.addIm] at hu
    rw [if_neg (by omega)] at hu
    exact hu

theorem WInv.newIm (h : WInv γ σ w) (us : List Value) (cs : Array Value) (e : TypeId) (fr : Nat × Nat) (hc : ∀ (j : Nat) (u : Value), us[j]? = some u → cs[j]? = some u) :
    WInv (γ.addIm w.heap.size 0 us) σ (w.alloc (.cells cs e fr)) ∧ Frame γ σ w (γ.addIm w.heap.size 0 us) σ (w.alloc (.cells cs e fr)) :=
  h.newIm' us cs e fr hc (by simp) (fun b hb => heap_alloc_ne w _ hb) (heap_alloc_eq w _) rfl rfl rfl

def Gh.addRef (γ : Gh) (i b : Nat) : Gh :=
  { γ with ref := fun j => if j = i then some b else γ.ref j, own := fun c => c = b ∨ γ.own c }

def Gh.addSiz (γ : Gh) (i e : Nat) : Gh :=
  { γ with siz := fun j => if j = i then some e else γ.siz j }

theorem addRef_ext (γ : Gh) (i b : Nat) (hn : γ.ref i = none) : Ext γ (γ.addRef i b) := by
  refine ⟨fun _ _ _ x => x, fun j c hj => ?_, fun _ _ _ x => x, fun b hb => .inr hb, fun _ _ x => x, fun _ x => x⟩
  simp only [Gh.addRef]
  split
  · rename_i hji; subst hji; rw [hn] at hj; cases hj
  · exact hj

theorem addRef_old {γ : Gh} {i b : Nat} : ∀ {j c}, (γ.addRef i b).ref j = some c → (j = i ∧ c = b) ∨ (j ≠ i ∧ γ.ref j = some c) := by
  intro j c hj
  simp only [Gh.addRef] at hj
  split at hj
  · rename_i hji; exact .inl ⟨hji, by simpa using hj.symm⟩
  · rename_i hji; exact .inr ⟨hji, hj⟩

theorem addSiz_ext (γ : Gh) (i e : Nat) (hn : γ.siz i = none) : Ext γ (γ.addSiz i e) := by
  refine ⟨fun _ _ _ x => x, fun _ _ x => x, fun _ _ _ x => x, fun _ x => x, fun j c hj => ?_, fun _ x => x⟩
  simp only [Gh.addSiz]
  split
  · rename_i hji; subst hji; rw [hn] at hj; cases hj
  · exact hj

/-- The world has a new block for an object that was unborn. -/
theorem WInv.bornAt (h : WInv γ σ w) (i : Nat) (ob : Obj) (hil : i < σ.length) (hn : γ.ref i = none)
    (hc : ∀ vs, σ[i]? = some (.cells vs) → ∃ us e, ob = .cells us e (0, 0) ∧ VRels γ vs (us.toList.take vs.length) ∧ vs.all Val.one = true)
    (hm : ∀ es, σ[i]? = some (.map es) → ∃ us c, ob = .map us c ∧ ERel γ es us.toList) :
    WInv (γ.addRef i w.heap.size) σ (w.alloc ob) := by
  have hx := addRef_ext γ i w.heap.size hn
  constructor
  case imOk =>
    intro b o u hu
    have h1 := h.imOk b o u hu
    rw [cell_alloc_lt w _ (World.block_lt_of_cell? w _ h1)]
    exact h1
  case objOk =>
    intro j vs' b h1 h2
    rcases addRef_old h2 with ⟨rfl, rfl⟩ | ⟨hne, h3⟩
    · obtain ⟨us, e, rfl, h4, h5⟩ := hc _ h1
      exact ⟨us, e, heap_alloc_eq w _, h4.ext hx, h5⟩
    · obtain ⟨us', e', h4, h5, h6⟩ := h.objOk j vs' b h1 h3
      exact ⟨us', e', by rw [heap_alloc_ne w _ (h.freshRef h3)]; exact h4, h5.ext hx, h6⟩
  case mapOk =>
    intro j vs' b h1 h2
    rcases addRef_old h2 with ⟨rfl, rfl⟩ | ⟨hne, h3⟩
    · obtain ⟨us, e, rfl, h4⟩ := hm _ h1
      exact ⟨us, e, heap_alloc_eq w _, h4.ext hx⟩
    · obtain ⟨us', e', h4, h5⟩ := h.mapOk j vs' b h1 h3
      exact ⟨us', e', by rw [heap_alloc_ne w _ (h.freshRef h3)]; exact h4, h5.ext hx⟩
  case sizOk =>
    intro j b e h1 h2
    rcases addRef_old h1 with ⟨rfl, rfl⟩ | ⟨hne, h3⟩
    · obtain ⟨b', hb'⟩ := h.sizRef _ _ h2
      rw [hn] at hb'; cases hb'
    · obtain ⟨us', c', h4, h5⟩ := h.sizOk j b e h3 h2
      exact ⟨us', c', by rw [heap_alloc_ne w _ (h.freshRef h3)]; exact h4, h5⟩
  case sizRef =>
    intro j e hj
    obtain ⟨b, hb⟩ := h.sizRef j e hj
    exact ⟨b, hx.ref _ _ hb⟩
  case glob => exact h.globTo (fun b hb _ => heap_alloc_ne w _ hb) (fun b hb => hb.elim (fun h => .inr (by omega)) .inl)
  case litOk =>
    intro b hb
    obtain ⟨h1, h2, h3⟩ := h.litOk b hb
    refine ⟨.inr h1, fun j hj => ?_, h3⟩
    rcases addRef_old hj with ⟨rfl, rfl⟩ | ⟨_, hj⟩
    · have := h.ownLt _ h1; omega
    · exact h2 j hj
  case refInj =>
    intro j j' b x y hx1 hl1 hx2 hl2 h1 h2
    rcases addRef_old h1 with ⟨rfl, rfl⟩ | ⟨hne, h3⟩
    · rcases addRef_old h2 with ⟨rfl, _⟩ | ⟨_, h4⟩
      · rfl
      · have := h.freshRef h4; omega
    · rcases addRef_old h2 with ⟨rfl, rfl⟩ | ⟨_, h4⟩
      · have := h.freshRef h3; omega
      · exact h.refInj _ _ _ _ _ hx1 hl1 hx2 hl2 h3 h4
  case refIm =>
    intro j b o h1
    rcases addRef_old h1 with ⟨rfl, rfl⟩ | ⟨hne, h3⟩
    · exact h.fresh (Nat.le_refl _)
    · exact h.refIm j b o h3
  case refOwn =>
    intro j b h1
    rcases addRef_old h1 with ⟨rfl, rfl⟩ | ⟨hne, h3⟩
    · exact .inl rfl
    · exact .inr (h.refOwn j b h3)
  case refLt =>
    intro j b h1
    rcases addRef_old h1 with ⟨rfl, rfl⟩ | ⟨hne, h3⟩
    · exact hil
    · exact h.refLt j b h3
  case tokOk =>
    intro k lab b f e' h1 h2
    obtain ⟨k1, ⟨us', el, k2, k3⟩, k4, k5⟩ := h.tokOk k lab b f e' h1 h2
    refine ⟨.inr k1, ⟨us', el, by rw [heap_alloc_ne w _ (h.ownLt _ k1)]; exact k2, k3⟩, k4, fun j hj => ?_⟩
    rcases addRef_old hj with ⟨rfl, rfl⟩ | ⟨hne, h3⟩
    · have := h.ownLt _ k1; omega
    · exact k5 j h3
  case tokInj => exact h.tokInj
  case tokOwn => exact fun k l x hx' => .inr (h.tokOwn k l x hx')
  case tokLt => exact h.tokLt
  case tokOld => exact h.tokOld
  case ownLt =>
    intro b hb
    rcases hb with rfl | hb
    · simp
    · have := h.ownLt b hb; simp; omega

theorem Frame.bornAt (γ : Gh) (σ : Hp) (w : World) (i : Nat) (ob : Obj) (hil : i < σ.length) (hn : γ.ref i = none) :
    Frame γ (σ.set i .dead) w (γ.addRef i w.heap.size) σ (w.alloc ob) := by
  refine ⟨addRef_ext _ _ _ hn, rfl, rfl, rfl, by simp, fun b hb _ => heap_alloc_ne w _ hb, fun b hb => ?_, by simp, ?_, fun _ _ _ h _ _ => h⟩
  · rcases hb with rfl | hb
    · exact .inr (Nat.le_refl _)
    · exact .inl hb
  · intro j vs' hj hr
    have hne : j ≠ i := by
      rintro rfl
      rw [List.getElem?_set_self hil] at hj
      cases hj
    rw [List.getElem?_set_ne (Ne.symm hne)] at hj
    exact ⟨hj, by simp only [Gh.addRef]; rw [if_neg hne]; exact hr⟩

/-- An object that is there in the row of objects, unborn, is born: a new block. -/
theorem WInv.born (h : WInv γ σ w) (i : Nat) (vs : List Val) (us : Array Value) (e : TypeId) (hi : σ[i]? = some (.cells vs)) (hn : γ.ref i = none) (hv : VRels γ vs us.toList) (h1v : vs.all Val.one = true) :
    WInv (γ.addRef i w.heap.size) σ (w.alloc (.cells us e (0, 0))) ∧ Frame γ (σ.set i .dead) w (γ.addRef i w.heap.size) σ (w.alloc (.cells us e (0, 0))) ∧ Ext γ (γ.addRef i w.heap.size) := by
  have hil : i < σ.length := (List.getElem?_eq_some_iff.1 hi).1
  refine ⟨h.bornAt i _ hil hn (fun vs' hv' => ?_) (fun es he => ?_), Frame.bornAt γ σ w i _ hil hn, addRef_ext _ _ _ hn⟩
  · rw [hi] at hv'
    obtain rfl : vs = vs' := by simpa using hv'
    exact ⟨us, e, rfl, by rw [List.take_of_length_le (by rw [hv.length]; omega)]; exact hv, h1v⟩
  · rw [hi] at he; cases he

/-- Objects are there, unborn. -/
theorem WInv.addObjs (h : WInv γ σ w) (l : List HObj) : WInv γ (σ ++ l) w := by
  have hget : ∀ (i : Nat) (x : HObj), (σ ++ l)[i]? = some x → (i < σ.length ∧ σ[i]? = some x) ∨ σ.length ≤ i := by
    intro i x hx
    by_cases hi : i < σ.length
    · rw [List.getElem?_append_left hi] at hx
      exact .inl ⟨hi, hx⟩
    · exact .inr (by omega)
  constructor
  case imOk => exact h.imOk
  case objOk =>
    intro i vs b h1 h2
    rcases hget i _ h1 with ⟨_, h3⟩ | h3
    · exact h.objOk i vs b h3 h2
    · have := h.refLt i b h2; omega
  case mapOk =>
    intro i vs b h1 h2
    rcases hget i _ h1 with ⟨_, h3⟩ | h3
    · exact h.mapOk i vs b h3 h2
    · have := h.refLt i b h2; omega
  case sizOk => exact h.sizOk
  case sizRef => exact h.sizRef
  case glob => exact h.glob
  case litOk => exact h.litOk
  case refInj =>
    intro i j b x y hx hl hy hm h1 h2
    rcases hget i _ hx with ⟨_, h3⟩ | h3
    · rcases hget j _ hy with ⟨_, h4⟩ | h4
      · exact h.refInj _ _ _ _ _ h3 hl h4 hm h1 h2
      · have := h.refLt _ _ h2; omega
    · have := h.refLt _ _ h1; omega
  case refIm => exact h.refIm
  case refOwn => exact h.refOwn
  case refLt => intro i b h1; have := h.refLt i b h1; simp; omega
  case tokOk =>
    intro k lab b f e h1 h2
    rcases hget k _ h1 with ⟨_, h3⟩ | h3
    · exact h.tokOk k lab b f e h3 h2
    · have := h.tokLt _ _ _ h2; omega
  case tokInj =>
    intro k lab b f e k' lab' f' e' h1 h2 h3 h4
    rcases hget k _ h1 with ⟨_, h5⟩ | h5
    · rcases hget k' _ h3 with ⟨_, h6⟩ | h6
      · exact h.tokInj k lab b f e k' lab' f' e' h5 h2 h6 h4
      · have := h.tokLt _ _ _ h4; omega
    · have := h.tokLt _ _ _ h2; omega
  case tokOwn => exact h.tokOwn
  case tokLt => intro k lab x h1; have := h.tokLt k lab x h1; simp; omega
  case tokOld =>
    intro k lab x l' h1 h2
    rcases hget k _ h1 with ⟨_, h5⟩ | h5
    · exact h.tokOld k lab x l' h5 h2
    · have := h.tokLt _ _ _ h2; omega
  case ownLt => exact h.ownLt

theorem WInv.addCells (h : WInv γ σ w) (l : List HObj) (_hl : ∀ x ∈ l, ∃ vs, x = .cells vs) : WInv γ (σ ++ l) w := h.addObjs l

theorem Frame.addCells (γ : Gh) (σ : Hp) (w : World) (l : List HObj) : Frame γ σ w γ (σ ++ l) w :=
  ⟨.refl γ, rfl, rfl, rfl, Nat.le_refl _, fun _ _ _ => rfl, fun _ h => .inl h, by simp, fun i vs h k => ⟨by
    have hi : i < σ.length := (List.getElem?_eq_some_iff.1 h).1
    rw [List.getElem?_append_left hi]; exact h, k⟩, fun _ _ _ h _ _ => h⟩

theorem WInv.refNone (h : WInv γ σ w) {i : Nat} (hi : σ.length ≤ i) : γ.ref i = none := by
  cases hq : γ.ref i with
  | none => rfl
  | some b => have := h.refLt _ _ hq; omega

theorem WInv.sizNone (h : WInv γ σ w) {i : Nat} (hi : γ.ref i = none) : γ.siz i = none := by
  cases hq : γ.siz i with
  | none => rfl
  | some b => obtain ⟨b, hb⟩ := h.sizRef _ _ hq; rw [hi] at hb; cases hb

/-- A new object in a new block. -/
theorem WInv.newAt (h : WInv γ σ w) (ho : HObj) (ob : Obj)
    (hc : ∀ vs, ho = .cells vs → ∃ us e, ob = .cells us e (0, 0) ∧ VRels γ vs (us.toList.take vs.length) ∧ vs.all Val.one = true)
    (hm : ∀ es, ho = .map es → ∃ us c, ob = .map us c ∧ ERel γ es us.toList) :
    WInv (γ.addRef σ.length w.heap.size) (σ ++ [ho]) (w.alloc ob) ∧ Frame γ σ w (γ.addRef σ.length w.heap.size) (σ ++ [ho]) (w.alloc ob) := by
  have hr : γ.ref σ.length = none := h.refNone (Nat.le_refl _)
  have h1 := h.addObjs [ho]
  have hg : (σ ++ [ho])[σ.length]? = some ho := by simp
  refine ⟨h1.bornAt σ.length ob (by simp) hr (fun vs hv => ?_) (fun es he => ?_), ?_⟩
  · rw [hg] at hv
    exact hc _ (by simpa using hv)
  · rw [hg] at he
    exact hm _ (by simpa using he)
  · have h3 := Frame.bornAt γ (σ ++ [ho]) w σ.length ob (by simp) hr
    refine ⟨addRef_ext _ _ _ hr, h3.os, h3.tape, h3.output, h3.size, h3.block, h3.own, by simp, ?_, fun _ _ _ h _ _ => h⟩
    intro i vs' hi hn
    have hil : i < σ.length := (List.getElem?_eq_some_iff.1 hi).1
    refine ⟨by rw [List.getElem?_append_left hil]; exact hi, ?_⟩
    simp only [Gh.addRef]
    rw [if_neg (by omega)]
    exact hn

theorem WInv.newObj (h : WInv γ σ w) (vs : List Val) (us : Array Value) (e : TypeId) (hv : VRels γ vs us.toList) (h1v : vs.all Val.one = true) :
    WInv (γ.addRef σ.length w.heap.size) (σ ++ [.cells vs]) (w.alloc (.cells us e (0, 0))) ∧
      Frame γ σ w (γ.addRef σ.length w.heap.size) (σ ++ [.cells vs]) (w.alloc (.cells us e (0, 0))) :=
  h.newAt _ _ (fun vs' hv' => by
    obtain rfl : vs = vs' := by simpa using hv'
    exact ⟨us, e, rfl, by rw [List.take_of_length_le (by rw [hv.length]; omega)]; exact hv, h1v⟩) (fun es he => by cases he)

/-- An object's block has so many cells. -/
theorem WInv.setSiz (h : WInv γ σ w) (i b : Nat) (us : Array Value) (el : TypeId) (hr : γ.ref i = some b) (hn : γ.siz i = none) (hb : w.heap[b]? = some (.cells us el (0, 0))) :
    WInv (γ.addSiz i us.size) σ w ∧ Frame γ σ w (γ.addSiz i us.size) σ w := by
  have hx := addSiz_ext γ i us.size hn
  refine ⟨?_, ⟨hx, rfl, rfl, rfl, Nat.le_refl _, fun _ _ _ => rfl, fun _ h => .inl h, Nat.le_refl _, fun _ _ h k => ⟨h, k⟩, fun _ _ _ h _ _ => h⟩⟩
  constructor
  case imOk => exact h.imOk
  case objOk =>
    intro i vs b h1 h2
    obtain ⟨us', e', h4, h5, h6⟩ := h.objOk i vs b h1 h2
    exact ⟨us', e', h4, h5.ext hx, h6⟩
  case mapOk =>
    intro i vs b h1 h2
    obtain ⟨us', e', h4, h5⟩ := h.mapOk i vs b h1 h2
    exact ⟨us', e', h4, h5.ext hx⟩
  case sizOk =>
    intro j c e h1 h2
    simp only [Gh.addSiz] at h2
    split at h2
    · rename_i hji
      subst hji
      change γ.ref j = some c at h1
      rw [hr] at h1
      obtain rfl : b = c := by simpa using h1
      exact ⟨us, el, hb, by simpa using h2⟩
    · exact h.sizOk j c e h1 h2
  case sizRef =>
    intro j e h2
    simp only [Gh.addSiz] at h2
    split at h2
    · rename_i hji
      subst hji
      exact ⟨b, hr⟩
    · exact h.sizRef j e h2
  case glob => exact h.glob
  case litOk => exact h.litOk
  case refInj => exact h.refInj
  case refIm => exact h.refIm
  case refOwn => exact h.refOwn
  case refLt => exact h.refLt
  case tokOk => exact h.tokOk
  case tokInj => exact h.tokInj
  case tokOwn => exact h.tokOwn
  case tokLt => exact h.tokLt
  case tokOld => exact h.tokOld
  case ownLt => exact h.ownLt

/-- A new object in a new block, whose first cells are its. -/
theorem WInv.newRow (h : WInv γ σ w) (vs : List Val) (us : Array Value) (e : TypeId) (hv : VRels γ vs (us.toList.take vs.length)) (h1v : vs.all Val.one = true) :
    WInv ((γ.addRef σ.length w.heap.size).addSiz σ.length us.size) (σ ++ [.cells vs]) (w.alloc (.cells us e (0, 0))) ∧
      Frame γ σ w ((γ.addRef σ.length w.heap.size).addSiz σ.length us.size) (σ ++ [.cells vs]) (w.alloc (.cells us e (0, 0))) := by
  obtain ⟨h1, h2⟩ := h.newAt (.cells vs) (.cells us e (0, 0)) (fun vs' hv' => by
    obtain rfl : vs = vs' := by simpa using hv'
    exact ⟨us, e, rfl, hv, h1v⟩) (fun es he => by cases he)
  obtain ⟨h3, h4⟩ := h1.setSiz σ.length w.heap.size us e (by simp [Gh.addRef]) (h.sizNone (h.refNone (Nat.le_refl _))) (heap_alloc_eq w _)
  exact ⟨h3, h2.trans h4⟩

/-- Another world, and another object at a place: its block alone is another one. -/
theorem WInv.setAt (h : WInv γ σ w) (i b : Nat) (x : HObj) (ho : HObj) (ob : Obj) {w' : World} (hi : σ[i]? = some x) (hxl : x.live = true) (hot : ∀ l, ho ≠ .tok l) (hr : γ.ref i = some b)
    (hblk : w'.heap[b]? = some ob) (hoth : ∀ c, c ≠ b → w'.heap[c]? = w.heap[c]?) (hsz : w'.heap.size = w.heap.size)
    (hos : w'.os = w.os) (htp : w'.tape = w.tape) (hout : w'.output = w.output)
    (hc : ∀ vs, ho = .cells vs → ∃ us e, ob = .cells us e (0, 0) ∧ VRels γ vs (us.toList.take vs.length) ∧ vs.all Val.one = true)
    (hm : ∀ es, ho = .map es → ∃ us c, ob = .map us c ∧ ERel γ es us.toList)
    (hs : ∀ us el, w.heap[b]? = some (.cells us el (0, 0)) → ∃ us' el', ob = .cells us' el' (0, 0) ∧ us'.size = us.size) :
    WInv γ (σ.set i ho) w' ∧ Frame γ σ w γ (σ.set i ho) w' := by
  have hil : i < σ.length := (List.getElem?_eq_some_iff.1 hi).1
  have hget : ∀ (j : Nat) (y : HObj), (σ.set i ho)[j]? = some y → (j = i ∧ y = ho) ∨ (j ≠ i ∧ σ[j]? = some y) := by
    intro j y hy
    by_cases hj : j = i
    · subst hj
      rw [List.getElem?_set_self hil] at hy
      exact .inl ⟨rfl, by simpa using hy.symm⟩
    · rw [List.getElem?_set_ne (Ne.symm hj)] at hy
      exact .inr ⟨hj, hy⟩
  refine ⟨?_, ?_⟩
  · constructor
    case imOk =>
      intro c o u hu
      have h1 := h.imOk c o u hu
      have hc : c ≠ b := by rintro rfl; rw [h.refIm i c o hr] at hu; cases hu
      unfold World.cell? at *
      rw [hoth c hc]
      exact h1
    case objOk =>
      intro j xs c h1 h2
      rcases hget j _ h1 with ⟨rfl, h3⟩ | ⟨hne, h3⟩
      · obtain ⟨us, e, rfl, h4, h5⟩ := hc xs h3.symm
        rw [hr] at h2
        obtain rfl : b = c := by simpa using h2
        exact ⟨us, e, hblk, h4, h5⟩
      · obtain ⟨us1, e1, h4, h5, h6⟩ := h.objOk j xs c h3 h2
        have hc : c ≠ b := by rintro rfl; exact hne (h.refInj _ _ _ _ _ h3 rfl hi hxl h2 hr)
        exact ⟨us1, e1, by rw [hoth c hc]; exact h4, h5, h6⟩
    case mapOk =>
      intro j xs c h1 h2
      rcases hget j _ h1 with ⟨rfl, h3⟩ | ⟨hne, h3⟩
      · obtain ⟨us, e, rfl, h4⟩ := hm xs h3.symm
        rw [hr] at h2
        obtain rfl : b = c := by simpa using h2
        exact ⟨us, e, hblk, h4⟩
      · obtain ⟨us1, e1, h4, h5⟩ := h.mapOk j xs c h3 h2
        have hc : c ≠ b := by rintro rfl; exact hne (h.refInj _ _ _ _ _ h3 rfl hi hxl h2 hr)
        exact ⟨us1, e1, by rw [hoth c hc]; exact h4, h5⟩
    case sizOk =>
      intro j c e h1 h2
      obtain ⟨us, el, h3, h4⟩ := h.sizOk j c e h1 h2
      by_cases hcb : c = b
      · subst hcb
        obtain ⟨us', el', rfl, h5⟩ := hs us el h3
        exact ⟨us', el', hblk, by omega⟩
      · exact ⟨us, el, by rw [hoth c hcb]; exact h3, h4⟩
    case sizRef => exact h.sizRef
    case glob => exact h.globTo (fun c _ hc => hoth c (fun hcb => hc (hcb ▸ h.refOwn i b hr))) (fun c hc => .inl hc)
    case litOk => exact h.litOk
    case refInj =>
      intro j j' c y z hy hyl hz hzl h1 h2
      have hk : ∀ (j : Nat) (y : HObj), (σ.set i ho)[j]? = some y → y.live = true → ∃ y', σ[j]? = some y' ∧ y'.live = true := by
        intro j y hy hyl
        rcases hget j y hy with ⟨rfl, _⟩ | ⟨_, h3⟩
        · exact ⟨x, hi, hxl⟩
        · exact ⟨y, h3, hyl⟩
      obtain ⟨y', e1, e2⟩ := hk j y hy hyl
      obtain ⟨z', e3, e4⟩ := hk j' z hz hzl
      exact h.refInj _ _ _ _ _ e1 e2 e3 e4 h1 h2
    case refIm => exact h.refIm
    case refOwn => exact h.refOwn
    case refLt => intro j c h1; have := h.refLt j c h1; simpa using this
    case tokOk =>
      intro k lab c f e' h1 h2
      rcases hget k _ h1 with ⟨_, h3⟩ | ⟨_, h3⟩
      · exact absurd h3.symm (hot _)
      · obtain ⟨k1, ⟨us1, el, k2, k3⟩, k4, k5⟩ := h.tokOk k lab c f e' h3 h2
        have hc : c ≠ b := by rintro rfl; exact k5 i hr
        exact ⟨k1, ⟨us1, el, by rw [hoth c hc]; exact k2, k3⟩, k4, k5⟩
    case tokInj =>
      intro k lab c f e1 k' lab' f' e' h1 h2 h3 h4
      rcases hget k _ h1 with ⟨_, h5⟩ | ⟨_, h5⟩
      · exact absurd h5.symm (hot _)
      · rcases hget k' _ h3 with ⟨_, h6⟩ | ⟨_, h6⟩
        · exact absurd h6.symm (hot _)
        · exact h.tokInj k lab c f e1 k' lab' f' e' h5 h2 h6 h4
    case tokOwn => exact h.tokOwn
    case tokLt => intro k lab x h1; have := h.tokLt k lab x h1; simpa using this
    case tokOld =>
      intro k lab x l' h1 h2
      rcases hget k _ h1 with ⟨_, h5⟩ | ⟨_, h5⟩
      · exact absurd h5.symm (hot _)
      · exact h.tokOld k lab x l' h5 h2
    case ownLt => intro c hc; have := h.ownLt c hc; omega
  · refine ⟨.refl γ, hos, htp, hout, by omega, fun c _ hc => hoth c (fun hcb => hc (hcb ▸ h.refOwn i b hr)), fun c hc => .inl hc, by simp, ?_, fun _ _ _ h _ _ => h⟩
    intro j xs hj hn
    have hji : j ≠ i := by rintro rfl; rw [hr] at hn; cases hn
    exact ⟨by rw [List.getElem?_set_ne (Ne.symm hji)]; exact hj, hn⟩

/-- An object is written. -/
theorem WInv.setObj (h : WInv γ σ w) (i b : Nat) (vs vs' : List Val) (us us' : Array Value) (e : TypeId) (hi : σ[i]? = some (.cells vs)) (hr : γ.ref i = some b)
    (hb : w.heap[b]? = some (.cells us e (0, 0))) (hsz : us'.size = us.size) (hv : VRels γ vs' (us'.toList.take vs'.length)) (h1v : vs'.all Val.one = true) :
    WInv γ (σ.set i (.cells vs')) (w.setRow b us') ∧ Frame γ σ w γ (σ.set i (.cells vs')) (w.setRow b us') :=
  h.setAt i b (.cells vs) (.cells vs') (.cells us' e (0, 0)) hi rfl (fun _ => by simp) hr (setRow_heap w b us us' e (0, 0) hb) (fun c hc => setRow_other w b c us' hc) (by simp [World.setRow]) rfl rfl rfl
    (fun vs'' hv'' => by
      obtain rfl : vs' = vs'' := by simpa using hv''
      exact ⟨us', e, rfl, hv, h1v⟩) (fun es he => by cases he) (fun us0 el h0 => by
      rw [hb] at h0
      simp only [Option.some.injEq, Obj.cells.injEq, and_true] at h0
      obtain ⟨rfl, rfl⟩ := h0
      exact ⟨us', e, rfl, hsz⟩)

/-- An object goes by another number: the old one is gone. -/
theorem WInv.rename (h : WInv γ σ w) (i b : Nat) (x : HObj) (hi : σ[i]? = some x) (hxl : x.live = true) (hxt : ∀ l, x ≠ .tok l) (hr : γ.ref i = some b) :
    WInv (γ.addRef σ.length b) (σ.set i .dead ++ [x]) w ∧ Frame γ σ w (γ.addRef σ.length b) (σ.set i .dead ++ [x]) w := by
  have hil : i < σ.length := (List.getElem?_eq_some_iff.1 hi).1
  have hn : γ.ref σ.length = none := h.refNone (Nat.le_refl _)
  have hx := addRef_ext γ σ.length b hn
  have hget : ∀ (j : Nat) (y : HObj), (σ.set i .dead ++ [x])[j]? = some y → (j = σ.length ∧ y = x) ∨ (j = i ∧ y = .dead) ∨ (j ≠ i ∧ j < σ.length ∧ σ[j]? = some y) := by
    intro j y hy
    by_cases hj : j < σ.length
    · rw [List.getElem?_append_left (by simpa using hj)] at hy
      by_cases hji : j = i
      · subst hji
        rw [List.getElem?_set_self hil] at hy
        exact .inr (.inl ⟨rfl, by simpa using hy.symm⟩)
      · rw [List.getElem?_set_ne (Ne.symm hji)] at hy
        exact .inr (.inr ⟨hji, hj, hy⟩)
    · rw [List.getElem?_append_right (by simp; omega)] at hy
      simp only [List.length_set] at hy
      have h0 : j - σ.length = 0 := by
        by_cases h1 : j - σ.length = 0
        · exact h1
        · rw [List.getElem?_cons, if_neg h1] at hy
          simp at hy
      rw [h0] at hy
      exact .inl ⟨by omega, by simpa using hy.symm⟩
  refine ⟨?_, ?_⟩
  · constructor
    case imOk => exact h.imOk
    case objOk =>
      intro j vs c h1 h2
      rcases hget j _ h1 with ⟨rfl, rfl⟩ | ⟨_, h3⟩ | ⟨hji, hjl, h3⟩
      · rcases addRef_old h2 with ⟨_, rfl⟩ | ⟨h4, _⟩
        · obtain ⟨us, e, k1, k2, k3⟩ := h.objOk i vs c hi hr
          exact ⟨us, e, k1, k2.ext hx, k3⟩
        · exact absurd rfl h4
      · cases h3
      · rcases addRef_old h2 with ⟨h4, _⟩ | ⟨_, h4⟩
        · omega
        · obtain ⟨us, e, k1, k2, k3⟩ := h.objOk j vs c h3 h4
          exact ⟨us, e, k1, k2.ext hx, k3⟩
    case mapOk =>
      intro j vs c h1 h2
      rcases hget j _ h1 with ⟨rfl, rfl⟩ | ⟨_, h3⟩ | ⟨hji, hjl, h3⟩
      · rcases addRef_old h2 with ⟨_, rfl⟩ | ⟨h4, _⟩
        · obtain ⟨us, e, k1, k2⟩ := h.mapOk i vs c hi hr
          exact ⟨us, e, k1, k2.ext hx⟩
        · exact absurd rfl h4
      · cases h3
      · rcases addRef_old h2 with ⟨h4, _⟩ | ⟨_, h4⟩
        · omega
        · obtain ⟨us, e, k1, k2⟩ := h.mapOk j vs c h3 h4
          exact ⟨us, e, k1, k2.ext hx⟩
    case sizOk =>
      intro j c e h1 h2
      rcases addRef_old h1 with ⟨rfl, rfl⟩ | ⟨_, h4⟩
      · obtain ⟨b', hb'⟩ := h.sizRef _ _ h2
        rw [hn] at hb'; cases hb'
      · exact h.sizOk j c e h4 h2
    case sizRef =>
      intro j e h2
      obtain ⟨b', hb'⟩ := h.sizRef _ _ h2
      exact ⟨b', hx.ref _ _ hb'⟩
    case glob => exact h.globTo (fun _ _ _ => rfl) (fun c hc => hc.elim (fun h' => .inl (h' ▸ h.refOwn i b hr)) .inl)
    case litOk =>
      intro c hc
      obtain ⟨h1, h2, h3⟩ := h.litOk c hc
      refine ⟨.inr h1, fun j hj => ?_, h3⟩
      rcases addRef_old hj with ⟨_, rfl⟩ | ⟨_, h4⟩
      · exact h2 i hr
      · exact h2 j h4
    case refInj =>
      intro j j' c y z hy hyl hz hzl h1 h2
      rcases hget j _ hy with ⟨rfl, rfl⟩ | ⟨_, rfl⟩ | ⟨hji, hjl, h3⟩
      · rcases hget j' _ hz with ⟨rfl, _⟩ | ⟨_, rfl⟩ | ⟨hji', hjl', h3'⟩
        · rfl
        · cases hzl
        · rcases addRef_old h1 with ⟨_, rfl⟩ | ⟨h4, _⟩
          · rcases addRef_old h2 with ⟨h5, _⟩ | ⟨_, h5⟩
            · omega
            · exact absurd (h.refInj _ _ _ _ _ h3' hzl hi hxl h5 hr) hji'
          · exact absurd rfl h4
      · cases hyl
      · rcases hget j' _ hz with ⟨rfl, rfl⟩ | ⟨_, rfl⟩ | ⟨hji', hjl', h3'⟩
        · rcases addRef_old h2 with ⟨_, rfl⟩ | ⟨h4, _⟩
          · rcases addRef_old h1 with ⟨h5, _⟩ | ⟨_, h5⟩
            · omega
            · exact absurd (h.refInj _ _ _ _ _ h3 hyl hi hxl h5 hr) hji
          · exact absurd rfl h4
        · cases hzl
        · rcases addRef_old h1 with ⟨h5, _⟩ | ⟨_, h5⟩
          · omega
          · rcases addRef_old h2 with ⟨h6, _⟩ | ⟨_, h6⟩
            · omega
            · exact h.refInj _ _ _ _ _ h3 hyl h3' hzl h5 h6
    case refIm =>
      intro j c o h1
      rcases addRef_old h1 with ⟨_, rfl⟩ | ⟨_, h4⟩
      · exact h.refIm i c o hr
      · exact h.refIm j c o h4
    case refOwn =>
      intro j c h1
      rcases addRef_old h1 with ⟨_, rfl⟩ | ⟨_, h4⟩
      · exact .inl rfl
      · exact .inr (h.refOwn j c h4)
    case refLt =>
      intro j c h1
      rcases addRef_old h1 with ⟨rfl, _⟩ | ⟨_, h4⟩
      · simp
      · have := h.refLt j c h4; simp; omega
    case tokOk =>
      intro k lab c f e' h1 h2
      rcases hget k _ h1 with ⟨_, h3⟩ | ⟨_, h3⟩ | ⟨_, _, h3⟩
      · exact absurd h3.symm (hxt _)
      · cases h3
      · obtain ⟨k1, k2, k3, k4⟩ := h.tokOk k lab c f e' h3 h2
        refine ⟨.inr k1, k2, k3, fun j hj => ?_⟩
        rcases addRef_old hj with ⟨_, rfl⟩ | ⟨_, h5⟩
        · exact k4 i hr
        · exact k4 j h5
    case tokInj =>
      intro k lab c f e1 k' lab' f' e' h1 h2 h3 h4
      rcases hget k _ h1 with ⟨_, h5⟩ | ⟨_, h5⟩ | ⟨_, _, h5⟩
      · exact absurd h5.symm (hxt _)
      · cases h5
      · rcases hget k' _ h3 with ⟨_, h6⟩ | ⟨_, h6⟩ | ⟨_, _, h6⟩
        · exact absurd h6.symm (hxt _)
        · cases h6
        · exact h.tokInj k lab c f e1 k' lab' f' e' h5 h2 h6 h4
    case tokOwn => exact fun k l x hx' => .inr (h.tokOwn k l x hx')
    case tokLt => intro k lab x h1; have := h.tokLt k lab x h1; simp; omega
    case tokOld =>
      intro k lab x l' h1 h2
      rcases hget k _ h1 with ⟨_, h5⟩ | ⟨_, h5⟩ | ⟨_, _, h5⟩
      · exact absurd h5.symm (hxt _)
      · cases h5
      · exact h.tokOld k lab x l' h5 h2
    case ownLt =>
      intro c hc
      rcases hc with rfl | hc
      · exact h.freshRef hr
      · exact h.ownLt c hc
  · refine ⟨hx, rfl, rfl, rfl, Nat.le_refl _, fun _ _ _ => rfl, fun c hc => ?_, by simp, ?_, fun _ _ _ h _ _ => h⟩
    · rcases hc with rfl | hc
      · exact .inl (h.refOwn i c hr)
      · exact .inl hc
    · intro j vs hj hnj
      have hjl : j < σ.length := (List.getElem?_eq_some_iff.1 hj).1
      have hji : j ≠ i := by rintro rfl; rw [hr] at hnj; cases hnj
      refine ⟨?_, ?_⟩
      · rw [List.getElem?_append_left (by simpa using hjl), List.getElem?_set_ne (Ne.symm hji)]
        exact hj
      · simp only [Gh.addRef]
        rw [if_neg (by omega)]
        exact hnj

/-- An object is gone. -/
theorem WInv.kill (h : WInv γ σ w) (i b : Nat) (hr : γ.ref i = some b) : WInv γ (σ.set i .dead) w ∧ Frame γ σ w γ (σ.set i .dead) w := by
  have hil := h.refLt _ _ hr
  have hget : ∀ (j : Nat) (y : HObj), (σ.set i .dead)[j]? = some y → (j = i ∧ y = .dead) ∨ (j ≠ i ∧ σ[j]? = some y) := by
    intro j y hy
    by_cases hj : j = i
    · subst hj
      rw [List.getElem?_set_self hil] at hy
      exact .inl ⟨rfl, by simpa using hy.symm⟩
    · rw [List.getElem?_set_ne (Ne.symm hj)] at hy
      exact .inr ⟨hj, hy⟩
  refine ⟨?_, ?_⟩
  · constructor
    case imOk => exact h.imOk
    case objOk =>
      intro j vs c h1 h2
      rcases hget j _ h1 with ⟨_, h3⟩ | ⟨_, h3⟩
      · cases h3
      · exact h.objOk j vs c h3 h2
    case mapOk =>
      intro j vs c h1 h2
      rcases hget j _ h1 with ⟨_, h3⟩ | ⟨_, h3⟩
      · cases h3
      · exact h.mapOk j vs c h3 h2
    case sizOk => exact h.sizOk
    case sizRef => exact h.sizRef
    case glob => exact h.glob
    case litOk => exact h.litOk
    case refInj =>
      intro j j' c y z hy hyl hz hzl h1 h2
      rcases hget j _ hy with ⟨_, rfl⟩ | ⟨_, h3⟩
      · cases hyl
      · rcases hget j' _ hz with ⟨_, rfl⟩ | ⟨_, h4⟩
        · cases hzl
        · exact h.refInj _ _ _ _ _ h3 hyl h4 hzl h1 h2
    case refIm => exact h.refIm
    case refOwn => exact h.refOwn
    case refLt => intro j c h1; have := h.refLt j c h1; simpa using this
    case tokOk =>
      intro k lab c f e' h1 h2
      rcases hget k _ h1 with ⟨_, h3⟩ | ⟨_, h3⟩
      · cases h3
      · exact h.tokOk k lab c f e' h3 h2
    case tokInj =>
      intro k lab c f e1 k' lab' f' e' h1 h2 h3 h4
      rcases hget k _ h1 with ⟨_, h5⟩ | ⟨_, h5⟩
      · cases h5
      · rcases hget k' _ h3 with ⟨_, h6⟩ | ⟨_, h6⟩
        · cases h6
        · exact h.tokInj k lab c f e1 k' lab' f' e' h5 h2 h6 h4
    case tokOwn => exact h.tokOwn
    case tokLt => intro k lab x h1; have := h.tokLt k lab x h1; simpa using this
    case tokOld =>
      intro k lab x l' h1 h2
      rcases hget k _ h1 with ⟨_, h5⟩ | ⟨_, h5⟩
      · cases h5
      · exact h.tokOld k lab x l' h5 h2
    case ownLt => exact h.ownLt
  · refine ⟨.refl γ, rfl, rfl, rfl, Nat.le_refl _, fun _ _ _ => rfl, fun c hc => .inl hc, by simp, ?_, fun _ _ _ h _ _ => h⟩
    intro j xs hj hn
    have hji : j ≠ i := by rintro rfl; rw [hr] at hn; cases hn
    exact ⟨by rw [List.getElem?_set_ne (Ne.symm hji)]; exact hj, hn⟩

def Gh.addLit (γ : Gh) (b : Nat) : Gh := { γ with own := fun c => c = b ∨ γ.own c, lit := fun c => c = b ∨ γ.lit c }

theorem addLit_ext (γ : Gh) (b : Nat) : Ext γ (γ.addLit b) := ⟨fun _ _ _ h => h, fun _ _ h => h, fun _ _ _ h => h, fun _ h => .inr h, fun _ _ h => h, fun _ h => .inr h⟩

/-- A literal's block is the run's own. -/
theorem WInv.newLit (h : WInv γ σ w) (us : Array Value) (e : TypeId) :
    WInv ((γ.addIm w.heap.size 0 us.toList).addLit w.heap.size) σ (w.alloc (.cells us e (0, 0))) ∧
      Frame γ σ w ((γ.addIm w.heap.size 0 us.toList).addLit w.heap.size) σ (w.alloc (.cells us e (0, 0))) := by
  obtain ⟨h1, h2⟩ := h.newIm us.toList us e (0, 0) (fun j x hx => by simpa using hx)
  have hx := addLit_ext (γ.addIm w.heap.size 0 us.toList) w.heap.size
  refine ⟨?_, ⟨h2.ext.trans hx, h2.os, h2.tape, h2.output, h2.size, h2.block, fun b hb => ?_, h2.len, h2.unborn, h2.imOld⟩⟩
  · constructor
    case imOk => exact h1.imOk
    case objOk =>
      intro i vs b h3 h4
      obtain ⟨us', e', k1, k2, k3⟩ := h1.objOk i vs b h3 h4
      exact ⟨us', e', k1, k2.ext hx, k3⟩
    case mapOk =>
      intro i vs b h3 h4
      obtain ⟨us', e', k1, k2⟩ := h1.mapOk i vs b h3 h4
      exact ⟨us', e', k1, k2.ext hx⟩
    case sizOk => exact h1.sizOk
    case sizRef => exact h1.sizRef
    case glob => exact h.globTo (fun b hb _ => heap_alloc_ne w _ hb) (fun b hb => hb.elim (fun h => .inr (by omega)) .inl)
    case litOk =>
      intro b hb
      rcases hb with rfl | hb
      · refine ⟨.inl rfl, fun i hi => ?_, fun k l x hx' hxb => ?_⟩
        · have := h.freshRef (show γ.ref i = some w.heap.size from hi); omega
        · have := h.ownLt _ (h.tokOwn k l x hx'); omega
      · obtain ⟨k1, k2, k3⟩ := h1.litOk b hb
        exact ⟨.inr k1, k2, k3⟩
    case refInj => exact h1.refInj
    case refIm => exact h1.refIm
    case refOwn => exact fun i b hr => .inr (h1.refOwn i b hr)
    case refLt => exact h1.refLt
    case tokOk =>
      intro k lab b f e' h3 h4
      obtain ⟨k1, k2, k3, k4⟩ := h1.tokOk k lab b f e' h3 h4
      exact ⟨.inr k1, k2, k3, k4⟩
    case tokInj => exact h1.tokInj
    case tokOwn => exact fun k l x hx' => .inr (h1.tokOwn k l x hx')
    case tokLt => exact h1.tokLt
    case tokOld => exact h1.tokOld
    case ownLt =>
      intro b hb
      rcases hb with rfl | hb
      · simp
      · exact h1.ownLt b hb
  · rcases hb with rfl | hb
    · exact .inr (Nat.le_refl _)
    · exact h2.own b hb

end Go.Ev
