/- What a plain value has to do with the machine's: a ghost says which cells stay as they are, where objects lie, where lists may grow, and what is the run's own. -/
import Derived.Test.YtphmgckopecggaaDoorDefs
namespace Go.Ev

structure Gh where
  im : Nat → Nat → Option Value
  ref : Nat → Option Nat
  siz : Nat → Option Nat
  tok : Nat → Nat → Option (Nat × Nat × Nat)
  own : Nat → Prop
  lit : Nat → Prop

/-- Blocks that stay as they are from the beginning (the tables of package variables). -/
class Glob where
  row : Nat → Option (Array Value)

def OwnOk (γ : Gh) (sz : Nat) (o : Own) (a : Option Addr) (n c : Nat) : Prop :=
  match o with
  | .nil => a = none ∧ n = 0 ∧ c = 0
  | .shared => a ≠ none
  | .full => a ≠ none ∧ c = n
  | .mine => c = n ∧ ∃ b, a = some ⟨b, 0, none⟩ ∧ γ.lit b
  | .tail k lab => a ≠ none ∧ (c = n ∨ ∃ b off e, a = some ⟨b, off, none⟩ ∧ γ.tok k lab = some (b, off + n * sz, e) ∧ off + c * sz ≤ e)

mutual
inductive VRel (γ : Gh) : Val → Value → Prop
  | bool (b : Bool) : VRel γ (.bool b) (.bool b)
  | int (k : IntKind) (n : Int) : VRel γ (.int k n) (.int k n)
  | str (s : ByteArray) : VRel γ (.str s) (.string s)
  | ptrN : VRel γ (.ptr none) (.pointer none)
  | ptr (i o b : Nat) (h : γ.ref i = some b) : VRel γ (.ptr (some (i, o))) (.pointer (some ⟨b, o, none⟩))
  | iptr (vs : List Val) (us : List Value) (b o : Nat) (hi : ∀ j, j < us.length → γ.im b (o + j) = us[j]?) (hv : VRels γ vs us) (h1 : vs.all Val.one = true) :
      VRel γ (.iptr vs) (.pointer (some ⟨b, o, none⟩))
  | lst (sz : Nat) (xs : List Val) (o : Own) (a : Option Addr) (n c : Nat) (us : List Value) (hn : n = xs.length) (hc : n ≤ c)
      (hs : ∀ x ∈ xs, x.cells.length = sz) (hv : VRels γ (flat xs) us)
      (ha : n = 0 ∨ ∃ b off, a = some ⟨b, off, none⟩ ∧ ∀ j, j < us.length → γ.im b (off + j) = us[j]?) (ho : OwnOk γ sz o a n c) (h1 : (flat xs).all Val.one = true) :
      VRel γ (.lst sz xs o) (.slice a n c)
  | ref (sz i off n c b e o : Nat) (h : γ.ref i = some b) (hs : γ.siz i = some e) (hc : n ≤ c) (he : off + c * sz ≤ e) (ho : o = off ∨ c = 0) : VRel γ (.ref sz i off n) (.slice (some ⟨b, o, none⟩) n c)
  | mapN : VRel γ (.map none) (.map none)
  | map (i b : Nat) (h : γ.ref i = some b) : VRel γ (.map (some i)) (.map (some b))
  | func (fn : Fn) (f c : List Val) (f' c' : Array Value) (hf : VRels γ f f'.toList) (hc : VRels γ c c'.toList) : VRel γ (.func fn f c) (.func fn f' c')
  | nilFunc : VRel γ .nilFunc .nilFunc
  | iface (t : TypeId) (v : Val) (u : Value) (h : VRel γ v u) : VRel γ (.iface t v) (.iface t u)
  | nilIface : VRel γ .nilIface .nilIface
  | agg (cs : List Val) (us : Array Value) (h : VRels γ cs us.toList) (h1 : cs.all Val.one = true) : VRel γ (.agg cs) (.agg us)
  | tuple (cs : List Val) (us : Array Value) (h : VRels γ cs us.toList) : VRel γ (.tuple cs) (.tuple us)
inductive VRels (γ : Gh) : List Val → List Value → Prop
  | nil : VRels γ [] []
  | cons {v : Val} {u : Value} {vs : List Val} {us : List Value} (h : VRel γ v u) (hs : VRels γ vs us) : VRels γ (v :: vs) (u :: us)
end

structure Ext (γ γ' : Gh) : Prop where
  im : ∀ b o u, γ.im b o = some u → γ'.im b o = some u
  ref : ∀ i b, γ.ref i = some b → γ'.ref i = some b
  tok : ∀ k l x, γ.tok k l = some x → γ'.tok k l = some x
  own : ∀ b, γ.own b → γ'.own b
  siz : ∀ i b, γ.siz i = some b → γ'.siz i = some b
  lit : ∀ b, γ.lit b → γ'.lit b

theorem Ext.refl (γ : Gh) : Ext γ γ := ⟨fun _ _ _ h => h, fun _ _ h => h, fun _ _ _ h => h, fun _ h => h, fun _ _ h => h, fun _ h => h⟩
theorem Ext.trans {a b c : Gh} (h : Ext a b) (k : Ext b c) : Ext a c :=
  ⟨fun _ _ _ x => k.im _ _ _ (h.im _ _ _ x), fun _ _ x => k.ref _ _ (h.ref _ _ x), fun _ _ _ x => k.tok _ _ _ (h.tok _ _ _ x), fun _ x => k.own _ (h.own _ x),
    fun _ _ x => k.siz _ _ (h.siz _ _ x), fun _ x => k.lit _ (h.lit _ x)⟩

theorem im_ext {γ γ' : Gh} (h : Ext γ γ') {b o : Nat} {us : List Value} (hi : ∀ j, j < us.length → γ.im b (o + j) = us[j]?) : ∀ j, j < us.length → γ'.im b (o + j) = us[j]? := by
  intro j hj
  have := hi j hj
  rw [List.getElem?_eq_getElem hj] at this ⊢
  exact h.im _ _ _ this

theorem OwnOk.ext {γ γ' : Gh} (h : Ext γ γ') {sz : Nat} {o : Own} {a : Option Addr} {n c : Nat} (k : OwnOk γ sz o a n c) : OwnOk γ' sz o a n c := by
  unfold OwnOk at *
  split
  · exact k
  · exact k
  · exact k
  · obtain ⟨k0, b, k1, k2⟩ := k
    exact ⟨k0, b, k1, h.lit _ k2⟩
  · obtain ⟨k0, k⟩ := k
    rcases k with k | ⟨b, off, e, k1, k2, k3⟩
    · exact ⟨k0, .inl k⟩
    · exact ⟨k0, .inr ⟨b, off, e, k1, h.tok _ _ _ k2, k3⟩⟩

mutual
theorem VRel.ext {γ γ' : Gh} (h : Ext γ γ') : ∀ {v : Val} {u : Value}, VRel γ v u → VRel γ' v u
  | _, _, .bool b => .bool b
  | _, _, .int k n => .int k n
  | _, _, .str s => .str s
  | _, _, .ptrN => .ptrN
  | _, _, .ptr i o b hr => .ptr i o b (h.ref _ _ hr)
  | _, _, .iptr vs us b o hi hv h1 => .iptr vs us b o (im_ext h hi) (VRels.ext h hv) h1
  | _, _, .lst sz xs o a n c us hn hc hs hv ha ho h1 =>
    .lst sz xs o a n c us hn hc hs (VRels.ext h hv) (ha.imp id fun ⟨b, off, e, hi⟩ => ⟨b, off, e, im_ext h hi⟩) (ho.ext h) h1
  | _, _, .ref sz i off n c b e o hr hs hc he ho => .ref sz i off n c b e o (h.ref _ _ hr) (h.siz _ _ hs) hc he ho
  | _, _, .mapN => .mapN
  | _, _, .map i b hr => .map i b (h.ref _ _ hr)
  | _, _, .func fn f c f' c' hf hc => .func fn f c f' c' (VRels.ext h hf) (VRels.ext h hc)
  | _, _, .nilFunc => .nilFunc
  | _, _, .iface t v u hv => .iface t v u (VRel.ext h hv)
  | _, _, .nilIface => .nilIface
  | _, _, .agg cs us hv h1 => .agg cs us (VRels.ext h hv) h1
  | _, _, .tuple cs us hv => .tuple cs us (VRels.ext h hv)
theorem VRels.ext {γ γ' : Gh} (h : Ext γ γ') : ∀ {v : List Val} {u : List Value}, VRels γ v u → VRels γ' v u
  | _, _, .nil => .nil
  | _, _, .cons a b => .cons (VRel.ext h a) (VRels.ext h b)
end

theorem VRels.length {γ : Gh} : ∀ {v : List Val} {u : List Value}, VRels γ v u → v.length = u.length
  | _, _, .nil => rfl
  | _, _, .cons _ b => by simp [VRels.length b]
theorem VRels.append {γ : Gh} : ∀ {v : List Val} {u : List Value} {v' : List Val} {u' : List Value}, VRels γ v u → VRels γ v' u' → VRels γ (v ++ v') (u ++ u')
  | _, _, _, _, .nil, h => h
  | _, _, _, _, .cons a b, h => .cons a (VRels.append b h)
theorem VRels.get {γ : Gh} : ∀ {v : List Val} {u : List Value}, VRels γ v u → ∀ {i : Nat} {x : Val}, v[i]? = some x → ∃ y, u[i]? = some y ∧ VRel γ x y
  | _, _, .nil, i, x, h => by simp at h
  | _, _, .cons a b, 0, x, h => by simp at h; subst h; exact ⟨_, rfl, a⟩
  | _, _, .cons a b, i + 1, x, h => by simp at h; simpa using VRels.get b h
theorem VRels.get' {γ : Gh} : ∀ {v : List Val} {u : List Value}, VRels γ v u → ∀ {i : Nat} {y : Value}, u[i]? = some y → ∃ x, v[i]? = some x ∧ VRel γ x y
  | _, _, .nil, i, x, h => by simp at h
  | _, _, .cons a b, 0, x, h => by simp at h; subst h; exact ⟨_, rfl, a⟩
  | _, _, .cons a b, i + 1, x, h => by simp at h; simpa using VRels.get' b h
theorem VRels.take {γ : Gh} : ∀ (n : Nat) {v : List Val} {u : List Value}, VRels γ v u → VRels γ (v.take n) (u.take n)
  | 0, _, _, _ => by simpa using VRels.nil
  | _ + 1, _, _, .nil => .nil
  | n + 1, _, _, .cons a b => .cons a (VRels.take n b)
theorem VRels.drop {γ : Gh} : ∀ (n : Nat) {v : List Val} {u : List Value}, VRels γ v u → VRels γ (v.drop n) (u.drop n)
  | 0, _, _, h => by simpa using h
  | _ + 1, _, _, .nil => .nil
  | n + 1, _, _, .cons _ b => by simpa using VRels.drop n b
theorem VRels.set {γ : Gh} : ∀ {v : List Val} {u : List Value}, VRels γ v u → ∀ (n : Nat) {x : Val} {y : Value}, VRel γ x y → VRels γ (v.set n x) (u.set n y)
  | _, _, .nil, _, _, _, _ => .nil
  | _, _, .cons _ b, 0, _, _, h => .cons h b
  | _, _, .cons a b, n + 1, _, _, h => .cons a (VRels.set b n h)
theorem VRels.eraseIdx {γ : Gh} : ∀ {v : List Val} {u : List Value}, VRels γ v u → ∀ (n : Nat), VRels γ (v.eraseIdx n) (u.eraseIdx n)
  | _, _, .nil, _ => .nil
  | _, _, .cons _ b, 0 => b
  | _, _, .cons a b, n + 1 => .cons a (VRels.eraseIdx b n)
theorem _root_.List.map_eraseIdx' {α β : Type} (f : α → β) : ∀ (l : List α) (n : Nat), (l.eraseIdx n).map f = (l.map f).eraseIdx n
  | [], _ => rfl
  | _ :: _, 0 => rfl
  | _ :: l, n + 1 => by simp [List.map_eraseIdx' f l n]
theorem _root_.List.set_same {α : Type} : ∀ {l : List α} {n : Nat} {x : α}, l[n]? = some x → l.set n x = l
  | [], _, _, h => by simp at h
  | _ :: _, 0, _, h => by simp at h; subst h; rfl
  | _ :: l, n + 1, _, h => by simp at h; simp [List.set_same h]
theorem VRels.nil_inv {γ : Gh} {u : List Value} (h : VRels γ [] u) : u = [] := by cases h; rfl

theorem VRel.cells {γ : Gh} {v : Val} {u : Value} (h : VRel γ v u) : VRels γ v.cells u.cells.toList := by
  cases h
  case agg us hv h1 => exact hv
  all_goals exact .cons (by constructor <;> assumption) .nil

theorem VRel.one {γ : Gh} {v : Val} {u : Value} (h : VRel γ v u) : v.one = u.oneCell' := by cases h <;> rfl

theorem VRel.cellsOne {γ : Gh} {v : Val} {u : Value} (h : VRel γ v u) (hs : v.st = true) : v.cells.all Val.one = true := by
  cases h
  case agg us hv h1 => exact h1
  case tuple => cases hs
  all_goals rfl

theorem VRels.one {γ : Gh} : ∀ {v : List Val} {u : List Value}, VRels γ v u → v.all Val.one = u.all Value.oneCell'
  | _, _, .nil => rfl
  | _, _, .cons a b => by simp [a.one, b.one]

/-- Is the object there? -/
def HObj.live : HObj → Bool
  | .dead => false
  | _ => true

/-- A map's entries, in their order. -/
def ERel (γ : Gh) (es : List (Val × Val)) (us : List MapEntry) : Prop := VRels γ (es.map (·.1)) (us.map (·.key)) ∧ VRels γ (es.map (·.2)) (us.map (·.val))

theorem ERel.ext {γ γ' : Gh} (h : Ext γ γ') {es : List (Val × Val)} {us : List MapEntry} (k : ERel γ es us) : ERel γ' es us := ⟨k.1.ext h, k.2.ext h⟩

section
variable [Glob]
structure WInv (γ : Gh) (σ : Hp) (w : World) : Prop where
  imOk : ∀ b o u, γ.im b o = some u → w.cell? ⟨b, o, none⟩ = some u
  objOk : ∀ i vs b, σ[i]? = some (.cells vs) → γ.ref i = some b →
    ∃ us e, w.heap[b]? = some (.cells us e (0, 0)) ∧ VRels γ vs (us.toList.take vs.length) ∧ vs.all Val.one = true
  mapOk : ∀ i es b, σ[i]? = some (.map es) → γ.ref i = some b → ∃ us clock, w.heap[b]? = some (.map us clock) ∧ ERel γ es us.toList
  sizOk : ∀ i b e, γ.ref i = some b → γ.siz i = some e → ∃ us el, w.heap[b]? = some (.cells us el (0, 0)) ∧ us.size = e
  sizRef : ∀ i e, γ.siz i = some e → ∃ b, γ.ref i = some b
  glob : ∀ b cs, Glob.row b = some cs → (∃ e fr, w.heap[b]? = some (.cells cs e fr)) ∧ ¬ γ.own b
  litOk : ∀ b, γ.lit b → γ.own b ∧ (∀ i, γ.ref i ≠ some b) ∧ (∀ k l x, γ.tok k l = some x → x.1 ≠ b)
  refInj : ∀ i j b x y, σ[i]? = some x → x.live = true → σ[j]? = some y → y.live = true → γ.ref i = some b → γ.ref j = some b → i = j
  refIm : ∀ i b o, γ.ref i = some b → γ.im b o = none
  refOwn : ∀ i b, γ.ref i = some b → γ.own b
  refLt : ∀ i b, γ.ref i = some b → i < σ.length
  tokOk : ∀ k lab b f e, σ[k]? = some (.tok lab) → γ.tok k lab = some (b, f, e) →
    γ.own b ∧ (∃ us el, w.heap[b]? = some (.cells us el (0, 0)) ∧ us.size = e) ∧ (∀ o, f ≤ o → γ.im b o = none) ∧ (∀ i, γ.ref i ≠ some b)
  tokInj : ∀ k lab b f e k' lab' f' e', σ[k]? = some (.tok lab) → γ.tok k lab = some (b, f, e) → σ[k']? = some (.tok lab') → γ.tok k' lab' = some (b, f', e') → k = k'
  tokOwn : ∀ k lab x, γ.tok k lab = some x → γ.own x.1
  tokLt : ∀ k lab x, γ.tok k lab = some x → k < σ.length
  tokOld : ∀ k lab x l, σ[k]? = some (.tok l) → γ.tok k lab = some x → lab ≤ l
  ownLt : ∀ b, γ.own b → b < w.heap.size

end

/-- What a run does to the world and to the objects: only what is its own turns. -/
structure Frame (γ : Gh) (σ : Hp) (w : World) (γ' : Gh) (σ' : Hp) (w' : World) : Prop where
  ext : Ext γ γ'
  os : w'.os = w.os
  tape : w'.tape = w.tape
  output : w'.output = w.output
  size : w.heap.size ≤ w'.heap.size
  block : ∀ b, b < w.heap.size → ¬ γ.own b → w'.heap[b]? = w.heap[b]?
  own : ∀ b, γ'.own b → γ.own b ∨ w.heap.size ≤ b
  len : σ.length ≤ σ'.length
  unborn : ∀ i vs, σ[i]? = some (.cells vs) → γ.ref i = none → σ'[i]? = some (.cells vs) ∧ γ'.ref i = none
  imOld : ∀ b o u, γ'.im b o = some u → b < w.heap.size → ¬ γ.own b → γ.im b o = some u

theorem Frame.refl (γ : Gh) (σ : Hp) (w : World) : Frame γ σ w γ σ w :=
  ⟨.refl γ, rfl, rfl, rfl, Nat.le_refl _, fun _ _ _ => rfl, fun _ h => .inl h, Nat.le_refl _, fun _ _ h k => ⟨h, k⟩, fun _ _ _ h _ _ => h⟩
theorem Frame.trans {γ : Gh} {σ : Hp} {w : World} {γ' : Gh} {σ' : Hp} {w' : World} {γ'' : Gh} {σ'' : Hp} {w'' : World}
    (h : Frame γ σ w γ' σ' w') (k : Frame γ' σ' w' γ'' σ'' w'') : Frame γ σ w γ'' σ'' w'' where
  ext := h.ext.trans k.ext
  os := k.os.trans h.os
  tape := k.tape.trans h.tape
  output := k.output.trans h.output
  size := Nat.le_trans h.size k.size
  block b hb ho := (k.block b (Nat.lt_of_lt_of_le hb h.size) (fun hc => (h.own b hc).elim ho (fun hl => absurd hb (by omega)))).trans (h.block b hb ho)
  own b hb := (k.own b hb).elim (h.own b) (fun hl => .inr (Nat.le_trans h.size hl))
  len := Nat.le_trans h.len k.len
  unborn i vs hs hr := let ⟨h1, h2⟩ := h.unborn i vs hs hr; k.unborn i vs h1 h2
  imOld b o u hu hb ho := h.imOld b o u (k.imOld b o u hu (Nat.lt_of_lt_of_le hb h.size) (fun hc => (h.own b hc).elim ho (fun hl => absurd hb (by omega)))) hb ho

/-- The temporaries. -/
def TRel (γ : Gh) (t : Nat → Val) (nt : Nat) (a : Array Value) : Prop := a.size = nt ∧ ∀ i, VRel γ (t i) (a.getD i Go.undef)

theorem TRel.ext {γ γ' : Gh} (h : Ext γ γ') {t : Nat → Val} {nt : Nat} {a : Array Value} (k : TRel γ t nt a) : TRel γ' t nt a := ⟨k.1, fun i => (k.2 i).ext h⟩

theorem TRel.put {γ : Gh} {t : Nat → Val} {nt : Nat} {a : Array Value} (k : TRel γ t nt a) {d : Nat} (hd : d < nt) {v : Val} {u : Value} (h : VRel γ v u) :
    TRel γ (upd t d v) nt (a.setIfInBounds d u) := by
  refine ⟨by simp [k.1], fun i => ?_⟩
  unfold upd
  by_cases e : i = d
  · subst e
    have : i < a.size := by rw [k.1]; exact hd
    simpa [Array.getD_eq_getD_getElem?, Array.getElem?_setIfInBounds, this] using h
  · have := k.2 i
    rw [if_neg e]
    simpa [Array.getD_eq_getD_getElem?, Array.getElem?_setIfInBounds, Ne.symm e] using this

theorem VRel.undef (γ : Gh) : VRel γ .undef Go.undef := .tuple [] #[] .nil

end Go.Ev
