/- A call that names no object runs as if there were none. -/
import Derived.Test.YtphmgckopecggaaDoorDraw3
namespace Go.Ev
set_option linter.unusedSectionVars false
variable [Glob]

variable {P : Program} {γ : Gh} {σ σ' : Hp} {w : World}

/-- What stays as it is, and nothing else. -/
def Gh.bare (γ : Gh) : Gh := { im := γ.im, ref := fun _ => none, siz := fun _ => none, tok := fun _ _ => none, own := fun _ => False, lit := fun _ => False }

/-- Another ghost's cells. -/
def Gh.withIm (γ : Gh) (im : Nat → Nat → Option Value) : Gh := { γ with im := im }

theorem own_fz {γ γ' : Gh} {sz n c : Nat} {o : Own} {a : Option Addr} (h : OwnOk γ sz o a n c) : OwnOk γ' sz o.fz a n c := by
  cases o
  · exact h
  · exact h
  · exact h
  · obtain ⟨h1, b, rfl, _⟩ := h
    exact ⟨by simp, h1⟩
  · exact h.1

theorem fz_cells : ∀ (v : Val), v.fz.cells = Val.fzs v.cells
  | .agg _ => rfl
  | .bool _ | .int _ _ | .str _ | .ptr _ | .iptr _ | .lst _ _ _ | .ref _ _ _ _ | .map _ | .func _ _ _ | .nilFunc | .iface _ _ | .nilIface | .tuple _ => by simp [Val.fz, Val.cells, Val.fzs]

theorem fz_one : ∀ (v : Val), v.fz.one = v.one
  | .agg _ => rfl
  | .bool _ | .int _ _ | .str _ | .ptr _ | .iptr _ | .lst _ _ _ | .ref _ _ _ _ | .map _ | .func _ _ _ | .nilFunc | .iface _ _ | .nilIface | .tuple _ => by simp [Val.fz, Val.one]

theorem fzs_map : ∀ (l : List Val), Val.fzs l = l.map Val.fz
  | [] => rfl
  | v :: l => by simp [Val.fzs, fzs_map l]

theorem fzs_append (l m : List Val) : Val.fzs (l ++ m) = Val.fzs l ++ Val.fzs m := by simp [fzs_map]

theorem fzs_flat : ∀ (l : List Val), flat (Val.fzs l) = Val.fzs (flat l)
  | [] => rfl
  | v :: l => by rw [Val.fzs, flat_cons, flat_cons, fzs_append, fz_cells, fzs_flat l]

theorem fzs_one (l : List Val) : (Val.fzs l).all Val.one = l.all Val.one := by
  rw [fzs_map, List.all_map]
  congr 1
  funext v
  exact fz_one v

theorem closeds_append : ∀ (l m : List Val), Val.closeds (l ++ m) = (Val.closeds l && Val.closeds m)
  | [], m => by simp [Val.closeds]
  | v :: l, m => by simp [Val.closeds, closeds_append l m, Bool.and_assoc]

theorem closed_cells : ∀ (v : Val), Val.closeds v.cells = v.closed
  | .agg _ => by simp [Val.cells, Val.closed]
  | .bool _ | .int _ _ | .str _ | .ptr _ | .iptr _ | .lst _ _ _ | .ref _ _ _ _ | .map _ | .func _ _ _ | .nilFunc | .iface _ _ | .nilIface | .tuple _ => by simp [Val.cells, Val.closeds]

theorem closeds_flat : ∀ (l : List Val), Val.closeds (flat l) = Val.closeds l
  | [] => rfl
  | v :: l => by rw [flat_cons, closeds_append, closed_cells, closeds_flat l, Val.closeds]

mutual
/-- A value that names no object is related by what stays alone. -/
theorem VRel.bareTo {γ γ' : Gh} (h : ∀ b o u, γ.im b o = some u → γ'.im b o = some u) : ∀ {v : Val} {u : Value}, VRel γ v u → v.closed = true → VRel γ' v.fz u
  | _, _, .bool b, _ => .bool b
  | _, _, .int k n, _ => .int k n
  | _, _, .str s, _ => .str s
  | _, _, .ptrN, _ => .ptrN
  | _, _, .iptr vs us b o hi hv h1, hc => by
    simp only [Val.closed] at hc
    refine .iptr _ us b o (fun j hj => ?_) (VRels.bareTo h hv hc) (by rw [fzs_one]; exact h1)
    have := hi j hj
    rw [List.getElem?_eq_getElem hj] at this ⊢
    exact h _ _ _ this
  | _, _, .lst sz xs o a n c us hn hc hs hv ha ho h1, hcl => by
    simp only [Val.closed] at hcl
    refine .lst sz _ _ a n c us (by rw [fzs_map, List.length_map]; exact hn) hc (fun x hx => ?_) ?_ (ha.imp id fun ⟨b, off, e, hi⟩ => ⟨b, off, e, fun j hj => ?_⟩) (own_fz ho) (by rw [fzs_flat, fzs_one]; exact h1)
    · rw [fzs_map, List.mem_map] at hx
      obtain ⟨y, hy, rfl⟩ := hx
      rw [fz_cells, fzs_map, List.length_map]
      exact hs y hy
    · rw [fzs_flat]
      exact VRels.bareTo h hv (by rw [closeds_flat]; exact hcl)
    · have := hi j hj
      rw [List.getElem?_eq_getElem hj] at this ⊢
      exact h _ _ _ this
  | _, _, .mapN, _ => .mapN
  | _, _, .func fn f c f' c' hf hc, hcl => by
    simp only [Val.closed, Bool.and_eq_true] at hcl
    exact .func _ _ _ _ _ (VRels.bareTo h hf hcl.1) (VRels.bareTo h hc hcl.2)
  | _, _, .nilFunc, _ => .nilFunc
  | _, _, .iface t v u hv, hc => by
    simp only [Val.closed] at hc
    exact .iface _ _ _ (VRel.bareTo h hv hc)
  | _, _, .nilIface, _ => .nilIface
  | _, _, .agg cs us hv h1, hc => by
    simp only [Val.closed] at hc
    exact .agg _ us (VRels.bareTo h hv hc) (by rw [fzs_one]; exact h1)
  | _, _, .tuple cs us hv, hc => by
    simp only [Val.closed] at hc
    exact .tuple _ us (VRels.bareTo h hv hc)
theorem VRels.bareTo {γ γ' : Gh} (h : ∀ b o u, γ.im b o = some u → γ'.im b o = some u) : ∀ {v : List Val} {u : List Value}, VRels γ v u → Val.closeds v = true → VRels γ' (Val.fzs v) u
  | _, _, .nil, _ => .nil
  | _, _, .cons a b, hc => by
    simp only [Val.closeds, Bool.and_eq_true] at hc
    exact .cons (VRel.bareTo h a hc.1) (VRels.bareTo h b hc.2)
end

theorem WInv.bare (h : WInv γ σ w) : WInv γ.bare [] w where
  imOk := h.imOk
  objOk i vs b h1 := by simp at h1
  mapOk i vs b h1 := by simp at h1
  sizOk i b e h1 := by cases h1
  sizRef i e h1 := by cases h1
  glob b cs hg := ⟨(h.glob b cs hg).1, fun h => h⟩
  litOk b h1 := h1.elim
  refInj i j b x y h1 := by simp at h1
  refIm i b o h1 := by cases h1
  refOwn i b h1 := by cases h1
  refLt i b h1 := by cases h1
  tokOk k l b f e h1 := by simp at h1
  tokInj k l b f e k' l' f' e' h1 := by simp at h1
  tokOwn k l x h1 := by cases h1
  tokLt k l x h1 := by cases h1
  tokOld k l x l' h1 := by simp at h1
  ownLt b h1 := h1.elim

/-- Behind such a run: all that was stands. -/
theorem WInv.unbare (h : WInv γ σ w) {γ' : Gh} {w' : World} (hw : WInv γ' σ' w') (hF : Frame γ.bare [] w γ' σ' w') :
    WInv (γ.withIm γ'.im) σ w' ∧ Frame γ σ w (γ.withIm γ'.im) σ w' := by
  have hblk : ∀ b, b < w.heap.size → w'.heap[b]? = w.heap[b]? := fun b hb => hF.block b hb (fun h => h)
  have him : ∀ b o u, γ'.im b o = some u → b < w.heap.size → γ.im b o = some u := fun b o u hu hb => hF.imOld b o u hu hb (fun h => h)
  have hx : Ext γ (γ.withIm γ'.im) := ⟨hF.ext.im, fun _ _ h => h, fun _ _ _ h => h, fun _ h => h, fun _ _ h => h, fun _ h => h⟩
  have hnone : ∀ b o, b < w.heap.size → γ.im b o = none → γ'.im b o = none := by
    intro b o hb hn
    cases hq : γ'.im b o with
    | none => rfl
    | some u => rw [him b o u hq hb] at hn; cases hn
  refine ⟨?_, ?_⟩
  · constructor
    case imOk => exact hw.imOk
    case objOk =>
      intro i vs b h1 h2
      obtain ⟨us, e, k1, k2, k3⟩ := h.objOk i vs b h1 h2
      exact ⟨us, e, by rw [hblk b (h.freshRef h2)]; exact k1, k2.ext hx, k3⟩
    case mapOk =>
      intro i vs b h1 h2
      obtain ⟨us, e, k1, k2⟩ := h.mapOk i vs b h1 h2
      exact ⟨us, e, by rw [hblk b (h.freshRef h2)]; exact k1, k2.ext hx⟩
    case sizOk =>
      intro i b e h1 h2
      obtain ⟨us, el, k1, k2⟩ := h.sizOk i b e h1 h2
      exact ⟨us, el, by rw [hblk b (h.freshRef h1)]; exact k1, k2⟩
    case sizRef => exact h.sizRef
    case glob => exact h.globTo (fun b hb _ => hblk b hb) (fun b hb => .inl hb)
    case litOk => exact h.litOk
    case refInj => exact h.refInj
    case refIm =>
      intro i b o h1
      exact hnone b o (h.freshRef h1) (h.refIm i b o h1)
    case refOwn => exact h.refOwn
    case refLt => exact h.refLt
    case tokOk =>
      intro k lab b f e h1 h2
      obtain ⟨k1, ⟨us, el, k2, k3⟩, k4, k5⟩ := h.tokOk k lab b f e h1 h2
      have hb := h.ownLt _ k1
      exact ⟨k1, ⟨us, el, by rw [hblk b hb]; exact k2, k3⟩, fun o ho => hnone b o hb (k4 o ho), k5⟩
    case tokInj => exact h.tokInj
    case tokOwn => exact h.tokOwn
    case tokLt => exact h.tokLt
    case tokOld => exact h.tokOld
    case ownLt => intro b hb; have := h.ownLt b hb; have := hF.size; omega
  · exact ⟨hx, hF.os, hF.tape, hF.output, hF.size, fun b hb _ => hblk b hb, fun b hb => .inl hb, Nat.le_refl _, fun _ _ h k => ⟨h, k⟩, fun b o u hu hb _ => him b o u hu hb⟩

theorem CallPost.iso (h : WInv γ σ w) {v : Val} (hc : v.closed = true) {e : Ending} {w' : World} (hp : CallPost v γ.bare [] w σ' e w') : CallPost v.fz γ σ w σ e w' := by
  obtain ⟨γ', u, rfl, h1, h2, h3⟩ := hp
  obtain ⟨k1, k2⟩ := h.unbare h2 h3
  exact ⟨γ.withIm γ'.im, u, rfl, (@VRel.bareTo _ γ' (γ.withIm γ'.im) (fun _ _ _ h => h) _ _ h1 hc), k1, k2⟩

end Go.Ev
