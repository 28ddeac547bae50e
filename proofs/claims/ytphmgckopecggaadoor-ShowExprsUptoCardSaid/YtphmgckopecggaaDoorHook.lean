/- Functions of the library, met by their contracts. -/
import Derived.Test.YtphmgckopecggaaDoorSound
import Derived.Below
namespace Go.Ev
set_option linter.unusedSectionVars false
variable [Glob]
open Go.RowKit (Below)

variable {P : Program} {γ : Gh} {σ σ' : Hp} {w w' : World}

theorem WInv.below (h : WInv γ σ w) (hb : Below w.heap.size w w') : WInv γ σ w' ∧ Frame γ σ w γ σ w' := by
  refine ⟨?_, ⟨.refl γ, hb.os, hb.tape, hb.output, hb.size, fun b hl _ => hb.block b hl, fun b ho => .inl ho, Nat.le_refl _, fun _ _ h k => ⟨h, k⟩, fun _ _ _ h _ _ => h⟩⟩
  constructor
  case imOk =>
    intro b o u hu
    have h1 := h.imOk b o u hu
    have hl := World.block_lt_of_cell? w _ h1
    rw [hb.cell (show (⟨b, o, none⟩ : Addr).block < w.heap.size from hl)]
    exact h1
  case objOk =>
    intro i vs b h1 h2
    obtain ⟨us, e, k1, k2⟩ := h.objOk i vs b h1 h2
    exact ⟨us, e, by rw [hb.block b (h.freshRef h2)]; exact k1, k2⟩
  case mapOk =>
    intro i vs b h1 h2
    obtain ⟨us, e, k1, k2⟩ := h.mapOk i vs b h1 h2
    exact ⟨us, e, by rw [hb.block b (h.freshRef h2)]; exact k1, k2⟩
  case sizOk =>
    intro i b e h1 h2
    obtain ⟨us, el, k1, k2⟩ := h.sizOk i b e h1 h2
    exact ⟨us, el, by rw [hb.block b (h.freshRef h1)]; exact k1, k2⟩
  case sizRef => exact h.sizRef
  case glob => exact h.globTo (fun b hl _ => hb.block b hl) (fun b ho => .inl ho)
  case litOk => exact h.litOk
  case refInj => exact h.refInj
  case refIm => exact h.refIm
  case refOwn => exact h.refOwn
  case refLt => exact h.refLt
  case tokOk =>
    intro k lab b f e h1 h2
    obtain ⟨k1, ⟨us, el, k2, k3⟩, k4, k5⟩ := h.tokOk k lab b f e h1 h2
    exact ⟨k1, ⟨us, el, by rw [hb.block b (h.ownLt _ k1)]; exact k2, k3⟩, k4, k5⟩
  case tokInj => exact h.tokInj
  case tokOwn => exact h.tokOwn
  case tokLt => exact h.tokLt
  case tokOld => exact h.tokOld
  case ownLt => intro b ho; have := h.ownLt b ho; have := hb.size; omega

/-- A contract that leaves what was as it was. -/
theorem post_below (hW : WInv γ σ w) {v : Val} {u : Value} (hv : VRel γ v u) {e : Ending} (he : e = .returned u) (hb : Below w.heap.size w w') : CallPost v γ σ w σ e w' := by
  obtain ⟨h1, h2⟩ := hW.below hb
  exact ⟨γ, u, he, hv, h1, h2⟩

end Go.Ev
