/- More operations: equality of whatever, conversions, slices, places. -/
import Derived.Test.YtphmgckopecggaaDoorOps2
namespace Go.Ev
set_option linter.unusedSectionVars false
variable [Glob]

variable {P : Program} {γ : Gh} {σ σ' : Hp} {w : World}

theorem eqOf_struct {t : TypeId} {fs : List (Nat × EqT)} (h : eqOf P t = some (.struct fs)) :
    ∃ ff, P.underlying t = some (.struct ff) ∧ P.stoodInHeld t = false ∧ P.eqGuardType P.depth t = false ∧ eqFields P ff.toList = some fs := by
  unfold eqOf at h
  split at h <;> try (cases h; done)
  rename_i ff hu
  split at h
  · cases h
  · rename_i hc
    simp only [Option.map_eq_some_iff, EqT.struct.injEq] at h
    obtain ⟨es, h1, rfl⟩ := h
    simp only [Bool.or_eq_true, not_or, Bool.not_eq_true] at hc
    exact ⟨ff, hu, hc.1, hc.2, h1⟩

section
variable {t : TypeId} (d : Nat)
theorem eqIn_ptr {p : TypeId} (hu : P.underlying t = some (.pointer p)) (b : Option Addr) : (Op.equalIn (d + 1) t (.pointer none) (.pointer b)).run P w = .ok b.isNone w := by
  simp [Op.equalIn, run_underlying hu]
theorem eqIn_ptr2 {p : TypeId} (hu : P.underlying t = some (.pointer p)) (a : Addr) : (Op.equalIn (d + 1) t (.pointer (some a)) (.pointer none)).run P w = .ok false w := by
  simp [Op.equalIn, run_underlying hu]
theorem eqIn_map {p q : TypeId} (hu : P.underlying t = some (.map p q)) (b : Option Nat) : (Op.equalIn (d + 1) t (.map none) (.map b)).run P w = .ok b.isNone w := by
  simp [Op.equalIn, run_underlying hu]
theorem eqIn_map2 {p q : TypeId} (hu : P.underlying t = some (.map p q)) (a : Nat) : (Op.equalIn (d + 1) t (.map (some a)) (.map none)).run P w = .ok false w := by
  simp [Op.equalIn, run_underlying hu]
theorem eqIn_sl {p : TypeId} (hu : P.underlying t = some (.slice p)) (b : Option Addr) (n c : Nat) : (Op.equalIn (d + 1) t (.slice b n c) (.slice none 0 0)).run P w = .ok b.isNone w := by
  cases b <;> simp [Op.equalIn, run_underlying hu]
theorem eqIn_fn {a b : Array TypeId} {c : Bool} (hu : P.underlying t = some (.func a b c)) : (Op.equalIn (d + 1) t .nilFunc .nilFunc).run P w = .ok true w := by
  simp [Op.equalIn, run_underlying hu]
theorem eqIn_fn2 {a b : Array TypeId} {c : Bool} (hu : P.underlying t = some (.func a b c)) (f : Fn) (x y : Array Value) : (Op.equalIn (d + 1) t (.func f x y) .nilFunc).run P w = .ok false w := by
  simp [Op.equalIn, run_underlying hu]
theorem eqIn_fn3 {a b : Array TypeId} {c : Bool} (hu : P.underlying t = some (.func a b c)) (f : Fn) (x y : Array Value) : (Op.equalIn (d + 1) t .nilFunc (.func f x y)).run P w = .ok false w := by
  simp [Op.equalIn, run_underlying hu]
end

theorem own_isNone {sz n c : Nat} {o : Own} {a : Option Addr} (ho : OwnOk γ sz o a n c) : a.isNone = decide (o = .nil) := by
  cases o <;> simp only [OwnOk] at ho
  · simp [ho.1]
  · cases a with
    | none => exact absurd rfl ho
    | some _ => simp
  · cases a with
    | none => exact absurd rfl ho.1
    | some _ => simp
  · obtain ⟨_, b, rfl, _⟩ := ho
    simp
  · cases a with
    | none => exact absurd rfl ho.1
    | some _ => simp

theorem eqV_run {t : TypeId} {e : EqT} {x y : Val} {u s : Value} {r : Bool} (he : eqOf P t = some e) (hx : VRel γ x u) (hy : VRel γ y s) (h : eqV e x y = some r) :
    (Op.equal t u s).run P w = .ok r w ∧ (∀ op X Y, (eqGuard op t X Y u s).run P w = .ok () w) ∧
      binOp .eql t u s = (do pure (.bool (← Op.equal t u s))) ∧ binOp .neq t u s = (do pure (.bool (!(← Op.equal t u s)))) := by
  unfold eqV at h
  split at h
  · -- bool
    have hu : P.underlying t = some .bool := by
      unfold eqOf at he
      split at he <;> first | assumption | (cases he; done) | (split at he <;> first | (cases he; done) | (simp at he; done))
    cases hx; cases hy
    simp at h; subst h
    exact ⟨run_equalIn_bool' w 9999 t _ _ hu, fun op X Y => by rw [eqGuard_at_bool]; rfl, rfl, rfl⟩
  · -- nil and a pointer
    have hu : ∃ p, P.underlying t = some (.pointer p) := by
      unfold eqOf at he
      split at he <;> first | exact ⟨_, ‹_›⟩ | (cases he; done) | (split at he <;> first | (cases he; done) | (simp at he; done))
    obtain ⟨p, hu⟩ := hu
    cases hx
    cases hy <;> (simp at h; subst h; exact ⟨by first | exact eqIn_ptr 9999 hu _ | exact eqIn_ptr2 9999 hu _ | exact eqIn_fn 9999 hu | exact eqIn_fn2 9999 hu _ _ _ | exact eqIn_fn3 9999 hu _ _ _ | exact eqIn_map 9999 hu _ | exact eqIn_map2 9999 hu _, fun op X Y => by rw [eqGuard_at_pointer]; rfl, rfl, rfl⟩)
  · have hu : ∃ p, P.underlying t = some (.pointer p) := by
      unfold eqOf at he
      split at he <;> first | exact ⟨_, ‹_›⟩ | (cases he; done) | (split at he <;> first | (cases he; done) | (simp at he; done))
    obtain ⟨p, hu⟩ := hu
    cases hx; cases hy
    simp at h; subst h
    exact ⟨by first | exact eqIn_ptr 9999 hu _ | exact eqIn_ptr2 9999 hu _ | exact eqIn_fn 9999 hu | exact eqIn_fn2 9999 hu _ _ _ | exact eqIn_fn3 9999 hu _ _ _ | exact eqIn_map 9999 hu _ | exact eqIn_map2 9999 hu _, fun op X Y => by rw [eqGuard_at_pointer]; rfl, rfl, rfl⟩
  · have hu : ∃ p, P.underlying t = some (.pointer p) := by
      unfold eqOf at he
      split at he <;> first | exact ⟨_, ‹_›⟩ | (cases he; done) | (split at he <;> first | (cases he; done) | (simp at he; done))
    obtain ⟨p, hu⟩ := hu
    cases hx; cases hy
    simp at h; subst h
    exact ⟨by first | exact eqIn_ptr 9999 hu _ | exact eqIn_ptr2 9999 hu _ | exact eqIn_fn 9999 hu | exact eqIn_fn2 9999 hu _ _ _ | exact eqIn_fn3 9999 hu _ _ _ | exact eqIn_map 9999 hu _ | exact eqIn_map2 9999 hu _, fun op X Y => by rw [eqGuard_at_pointer]; rfl, rfl, rfl⟩
  · have hu : ∃ p, P.underlying t = some (.pointer p) := by
      unfold eqOf at he
      split at he <;> first | exact ⟨_, ‹_›⟩ | (cases he; done) | (split at he <;> first | (cases he; done) | (simp at he; done))
    obtain ⟨p, hu⟩ := hu
    cases hx; cases hy
    simp at h; subst h
    exact ⟨by first | exact eqIn_ptr 9999 hu _ | exact eqIn_ptr2 9999 hu _ | exact eqIn_fn 9999 hu | exact eqIn_fn2 9999 hu _ _ _ | exact eqIn_fn3 9999 hu _ _ _ | exact eqIn_map 9999 hu _ | exact eqIn_map2 9999 hu _, fun op X Y => by rw [eqGuard_at_pointer]; rfl, rfl, rfl⟩
  · have hu : ∃ a b c, P.underlying t = some (.func a b c) := by
      unfold eqOf at he
      split at he <;> first | exact ⟨_, _, _, ‹_›⟩ | (cases he; done) | (split at he <;> first | (cases he; done) | (simp at he; done))
    obtain ⟨_, _, _, hu⟩ := hu
    cases hx; cases hy
    simp at h; subst h
    exact ⟨by first | exact eqIn_ptr 9999 hu _ | exact eqIn_ptr2 9999 hu _ | exact eqIn_fn 9999 hu | exact eqIn_fn2 9999 hu _ _ _ | exact eqIn_fn3 9999 hu _ _ _ | exact eqIn_map 9999 hu _ | exact eqIn_map2 9999 hu _, fun op X Y => by rw [eqGuard_at_nilFunc]; rfl, rfl, rfl⟩
  · have hu : ∃ a b c, P.underlying t = some (.func a b c) := by
      unfold eqOf at he
      split at he <;> first | exact ⟨_, _, _, ‹_›⟩ | (cases he; done) | (split at he <;> first | (cases he; done) | (simp at he; done))
    obtain ⟨_, _, _, hu⟩ := hu
    cases hx; cases hy
    simp at h; subst h
    exact ⟨by first | exact eqIn_ptr 9999 hu _ | exact eqIn_ptr2 9999 hu _ | exact eqIn_fn 9999 hu | exact eqIn_fn2 9999 hu _ _ _ | exact eqIn_fn3 9999 hu _ _ _ | exact eqIn_map 9999 hu _ | exact eqIn_map2 9999 hu _, fun op X Y => by rw [eqGuard_at_func]; rfl, rfl, rfl⟩
  · have hu : ∃ a b c, P.underlying t = some (.func a b c) := by
      unfold eqOf at he
      split at he <;> first | exact ⟨_, _, _, ‹_›⟩ | (cases he; done) | (split at he <;> first | (cases he; done) | (simp at he; done))
    obtain ⟨_, _, _, hu⟩ := hu
    cases hx; cases hy
    simp at h; subst h
    exact ⟨by first | exact eqIn_ptr 9999 hu _ | exact eqIn_ptr2 9999 hu _ | exact eqIn_fn 9999 hu | exact eqIn_fn2 9999 hu _ _ _ | exact eqIn_fn3 9999 hu _ _ _ | exact eqIn_map 9999 hu _ | exact eqIn_map2 9999 hu _, fun op X Y => by rw [eqGuard_at_nilFunc]; rfl, rfl, rfl⟩
  · have hu : ∃ a b, P.underlying t = some (.map a b) := by
      unfold eqOf at he
      split at he <;> first | exact ⟨_, _, ‹_›⟩ | (cases he; done) | (split at he <;> first | (cases he; done) | (simp at he; done))
    obtain ⟨_, _, hu⟩ := hu
    cases hx
    cases hy <;> (simp at h; subst h; exact ⟨by first | exact eqIn_ptr 9999 hu _ | exact eqIn_ptr2 9999 hu _ | exact eqIn_fn 9999 hu | exact eqIn_fn2 9999 hu _ _ _ | exact eqIn_fn3 9999 hu _ _ _ | exact eqIn_map 9999 hu _ | exact eqIn_map2 9999 hu _, fun op X Y => by rw [eqGuard_at_map]; rfl, rfl, rfl⟩)
  · have hu : ∃ a b, P.underlying t = some (.map a b) := by
      unfold eqOf at he
      split at he <;> first | exact ⟨_, _, ‹_›⟩ | (cases he; done) | (split at he <;> first | (cases he; done) | (simp at he; done))
    obtain ⟨_, _, hu⟩ := hu
    cases hx; cases hy
    simp at h; subst h
    exact ⟨by first | exact eqIn_ptr 9999 hu _ | exact eqIn_ptr2 9999 hu _ | exact eqIn_fn 9999 hu | exact eqIn_fn2 9999 hu _ _ _ | exact eqIn_fn3 9999 hu _ _ _ | exact eqIn_map 9999 hu _ | exact eqIn_map2 9999 hu _, fun op X Y => by rw [eqGuard_at_map]; rfl, rfl, rfl⟩
  · have hu : ∃ a, P.underlying t = some (.slice a) := by
      unfold eqOf at he
      split at he <;> first | exact ⟨_, ‹_›⟩ | (cases he; done) | (split at he <;> first | (cases he; done) | (simp at he; done))
    obtain ⟨_, hu⟩ := hu
    cases hy with
    | lst _ _ _ a n c us hn hc hss hv ha ho h1 =>
    obtain ⟨rfl, rfl, rfl⟩ := ho
    cases hx with
    | lst _ _ o a n c us hn hc hss hv ha ho h1 =>
    simp at h; subst h
    refine ⟨?_, fun op X Y => by rw [eqGuard_at_slice]; rfl, rfl, rfl⟩
    refine (eqIn_sl 9999 hu _ _ _).trans ?_
    congr 1
    exact own_isNone ho
  · have hu : ∃ a, P.underlying t = some (.slice a) := by
      unfold eqOf at he
      split at he <;> first | exact ⟨_, ‹_›⟩ | (cases he; done) | (split at he <;> first | (cases he; done) | (simp at he; done))
    obtain ⟨_, hu⟩ := hu
    cases hy with
    | lst _ _ _ a n c us hn hc hss hv ha ho h1 =>
    obtain ⟨rfl, rfl, rfl⟩ := ho
    cases hx
    simp at h; subst h
    exact ⟨eqIn_sl 9999 hu _ _ _, fun op X Y => by rw [eqGuard_at_slice]; rfl, rfl, rfl⟩
  · obtain ⟨ff, h1, h2, h3, h4⟩ := eqOf_struct he
    cases hx with | agg cs us hx _ =>
    cases hy with | agg ds vs hy _ =>
    have hff : P.fieldsOf t = ff := by simp [Program.fieldsOf, h1]
    have hs := run_equalIn_struct (P := P) w 9999 t us vs (by rw [hff]; exact h1) h2
    rw [hff] at hs
    exact ⟨hs.trans (eqFields_run hx hy 9998 h4 h), fun op X Y => run_eqGuard_agg w op t X Y us vs h3, rfl, rfl⟩
  · cases h

theorem ok_bin (hW : WInv γ σ w) {t : TypeId} {e : EqT} {op : BinOp} {X Y : Operand} {x y v : Val} {u s : Value} (he : eqOf P t = some e) (hx : VRel γ x u) (hy : VRel γ y s) (h : binV op e x y = some v) :
    OpOk γ σ w ((valOf (do eqGuard op t X Y u s; binOp op t u s)).run P w) v σ := by
  unfold binV at h
  split at h
  · rename_i k a l b
    cases hx; cases hy
    split at h
    · obtain ⟨r, h1, h2⟩ := binShift_run (P := P) (γ := γ) (w := w) (l := l) t h
      exact ok_val hW (by simpa [eqGuard_at_int] using h1) h2
    · split at h
      · rename_i hkl
        subst hkl
        obtain ⟨r, h1, h2⟩ := binInt_run (P := P) (γ := γ) (w := w) t h
        exact ok_val hW (by simpa [eqGuard_at_int] using h1) h2
      · cases h
  · cases hx; cases hy
    obtain ⟨r, h1, h2⟩ := binStr_run (P := P) (γ := γ) (w := w) t h
    exact ok_val hW (by simpa [eqGuard_at_string] using h1) h2
  · split at h
    · simp only [Option.map_eq_some_iff] at h
      obtain ⟨r, h1, rfl⟩ := h
      obtain ⟨e1, e2, e3, e4⟩ := eqV_run (w := w) he hx hy h1
      exact ok_val hW (by rw [Sem.run_bind, e2, e3]; simp [e1]) (.bool r)
    · simp only [Option.map_eq_some_iff] at h
      obtain ⟨r, h1, rfl⟩ := h
      obtain ⟨e1, e2, e3, e4⟩ := eqV_run (w := w) he hx hy h1
      exact ok_val hW (by rw [Sem.run_bind, e2, e4]; simp [e1]) (.bool _)
    · cases h

theorem ok_un (hW : WInv γ σ w) {op : UnOp} {x v : Val} {u : Value} (hx : VRel γ x u) (h : unV op x = some v) : OpOk γ σ w ((valOf (Op.unary op u)).run P w) v σ := by
  unfold unV at h
  split at h
  · cases hx
    simp at h; subst h
    exact ok_val hW (by simp [Op.unary, Op.intArith]) (.int _ _)
  · cases hx
    simp at h; subst h
    exact ok_val hW (by simp [Op.unary]) (.bool _)
  · cases h

/-! conversions -/

theorem ok_cvInt (hW : WInv γ σ w) {s d : TypeId} {k k' l : IntKind} {n : Int} {u : Value} (hs : P.underlying s = some (.int k')) (hd : P.underlying d = some (.int k)) (hx : VRel γ (.int l n) u) :
    OpOk γ σ w ((valOf (convert s d u)).run P w) (.int k (k.wrap n)) σ := by
  cases hx
  exact ok_val hW (by simp [convert, run_underlying hs, run_underlying hd, Conv.intToInt]) (.int _ _)

theorem ok_cvSame (hW : WInv γ σ w) {s d : TypeId} {b : ByteArray} {u : Value} (hs : P.underlying s = some .string) (hd : P.underlying d = some .string) (hx : VRel γ (.str b) u) :
    OpOk γ σ w ((valOf (convert s d u)).run P w) (.str b) σ := by
  cases hx
  exact ok_val hW (by simp [convert, run_underlying hs, run_underlying hd]) (.str _)

theorem bytesOfL_rel : ∀ {xs : List Val} {us : List Value} {l : List UInt8}, bytesOfL xs = some l → VRels γ (flat xs) us →
    us.length = xs.length ∧ ∃ ns : List Int, us = ns.map (Value.int .u8) ∧ l = ns.map fun n => UInt8.ofNat n.toNat
  | [], us, l, h, hv => by
    simp [bytesOfL] at h; subst h
    obtain rfl := hv.nil_inv
    exact ⟨rfl, [], rfl, rfl⟩
  | x :: xs, us, l, h, hv => by
    unfold bytesOfL at h
    split at h
    · rename_i hx; cases hx
    · rename_i n r hx
      simp only [List.cons.injEq] at hx
      obtain ⟨rfl, rfl⟩ := hx
      simp only [Option.map_eq_some_iff] at h
      obtain ⟨l', h1, rfl⟩ := h
      cases hv with
      | cons a b =>
        cases a
        obtain ⟨e1, ns, e2, e3⟩ := bytesOfL_rel h1 b
        exact ⟨by simp [e1], n :: ns, by simp [e2], by simp [e3]⟩
    · cases h

end Go.Ev
