/- More operations: pieces of lists, append. -/
import Derived.Test.YtphmgckopecggaaDoorOps4
namespace Go.Ev
set_option linter.unusedSectionVars false
variable [Glob]

variable {P : Program} {γ : Gh} {σ σ' : Hp} {w : World}

theorem bound_run' {x : Val} {u : Value} {y y' m : Nat} (c : BoundsCode) (hx : VRel γ x u) (hy : y ≤ y') (h : bound x y = some m) : (Instr.sliceBound u y' c).run P w = .ok m w ∧ m ≤ y := by
  unfold bound at h
  split at h
  · cases hx
    rename_i k i
    split at h
    · rename_i hc
      simp at h; subst h
      have : 0 ≤ i ∧ i ≤ (y' : Int) := ⟨hc.1, by omega⟩
      exact ⟨by simp [Instr.sliceBound, asIntOf, this], by omega⟩
    · cases h
  · cases h

theorem lst_slice {sz n c h l m : Nat} {xs : List Val} {o o' : Own} {a : Option Addr} (hx : VRel γ (.lst sz xs o) (.slice a n c)) (hl : l ≤ h) (hh : h ≤ n) (hm : h ≤ m) (_hm' : m ≤ c)
    (ho : (o = .nil ∧ o' = .nil) ∨ (o ≠ .nil ∧ (o' = .shared ∨ (o' = .full ∧ h = m) ∨ (o' = (match o with | .mine => .full | o => o) ∧ h = n ∧ m = c)))) :
    VRel γ (.lst sz ((xs.take h).drop l) o') (.slice (if m = l then a else a.map (·.add (l * sz))) (h - l) (m - l)) := by
  cases hx with
  | lst sz xs o a n c us hn hc hss hv ha hok h1v =>
    have hss' : ∀ x ∈ xs.take h, x.cells.length = sz := fun x hx => hss x (List.mem_of_mem_take hx)
    have hfl : flat ((xs.take h).drop l) = ((flat xs).take (h * sz)).drop (l * sz) := by
      rw [flat_drop l hss' (by simp; omega), flat_take h hss (by omega)]
    have hlen := hv.length
    rw [flat_length hss] at hlen
    have hmul : l * sz ≤ h * sz := Nat.mul_le_mul_right _ hl
    have hmul2 : h * sz ≤ n * sz := Nat.mul_le_mul_right _ hh
    refine .lst sz _ o' _ _ _ ((us.take (h * sz)).drop (l * sz)) (by simp; omega) (by omega) (fun x hx => hss' x (List.mem_of_mem_drop hx)) (by rw [hfl]; exact (hv.take _).drop _) ?_ ?_ (by rw [hfl]; exact all_drop _ (all_take _ h1v))
    · by_cases h0 : h - l = 0
      · exact .inl h0
      · refine .inr ?_
        rcases ha with h1 | ⟨b, off, rfl, hi⟩
        · omega
        · refine ⟨b, off + l * sz, by rw [if_neg (by omega)]; simp [add_at], fun j hj => ?_⟩
          simp only [List.length_drop, List.length_take] at hj
          rw [List.getElem?_drop, List.getElem?_take, if_pos (by omega), Nat.add_assoc]
          exact hi _ (by omega)
    · rcases ho with ⟨rfl, rfl⟩ | ⟨ho0, ho⟩
      · obtain ⟨rfl, rfl, rfl⟩ := hok
        refine ⟨by simp, by omega, by omega⟩
      · have ha0 : a ≠ none := by
          intro hc
          subst hc
          have := own_isNone hok
          simp at this
          exact ho0 this
        have hA : (if m = l then a else a.map (·.add (l * sz))) ≠ none := by
          split
          · exact ha0
          · cases a with
            | none => exact absurd rfl ha0
            | some _ => simp
        rcases ho with rfl | ⟨rfl, h1⟩ | ⟨rfl, h1, h2⟩
        · exact hA
        · exact ⟨hA, by omega⟩
        · cases o with
          | nil => exact absurd rfl ho0
          | shared => exact hA
          | full =>
            obtain ⟨_, hok⟩ := hok
            exact ⟨hA, by omega⟩
          | mine =>
            obtain ⟨hok, _⟩ := hok
            exact ⟨hA, by omega⟩
          | tail k lab =>
            obtain ⟨_, hok⟩ := hok
            refine ⟨hA, ?_⟩
            rcases hok with h3 | ⟨b, off, e, rfl, h4, h5⟩
            · exact .inl (by omega)
            · by_cases h6 : m = l
              · exact .inl (by omega)
              · refine .inr ⟨b, off + l * sz, e, by rw [if_neg h6]; simp [add_at], ?_, ?_⟩
                · rw [h4]
                  congr 3
                  rw [h1, Nat.sub_mul]
                  have := Nat.mul_le_mul_right sz (show l ≤ n by omega)
                  omega
                · rw [h2, Nat.sub_mul]
                  have := Nat.mul_le_mul_right sz (show l ≤ c by omega)
                  omega

/-- A list that is nil is a row of whatever. -/
theorem lst_re {s sz : Nat} {xs : List Val} {o : Own} {u : Value} (hx : VRel γ (.lst s xs o) u) (hs : s = sz ∨ o = .nil) : VRel γ (.lst sz xs o) u ∧ (o = .nil → xs = []) := by
  cases hx with
  | lst sz xs o a n c us hn hc hss hv ha hok h1v =>
    refine ⟨?_, ?_⟩
    · rcases hs with rfl | rfl
      · exact .lst _ _ _ _ _ _ us hn hc hss hv ha hok h1v
      · obtain ⟨rfl, rfl, rfl⟩ := hok
        have hx0 : xs = [] := List.eq_nil_of_length_eq_zero hn.symm
        subst hx0
        exact .lst _ _ _ _ _ _ us rfl (Nat.le_refl _) (by simp) hv (.inl rfl) ⟨rfl, rfl, rfl⟩ h1v
    · rintro rfl
      obtain ⟨rfl, rfl, rfl⟩ := hok
      exact List.eq_nil_of_length_eq_zero hn.symm

theorem ok_sliceL (hW : WInv γ σ w) {t e : TypeId} {s sz : Nat} {xs : List Val} {o : Own} {u : Value} {lo hi mx : Option Val} {lo' hi' mx' : Option Value} {v : Val}
    (hu : P.underlying t = some (.slice e)) (hn : szOf P e = some sz) (hx : VRel γ (.lst s xs o) u) (hs : s = sz ∨ o = .nil)
    (hl : ORel γ lo lo') (hh : ORel γ hi hi') (hm : ORel γ mx mx') (h : sliceL sz xs o lo hi mx = some v) :
    OpOk γ σ w ((valOf (Instr.sliceAt t u lo' hi' mx')).run P w) v σ := by
  obtain ⟨hx', hnil⟩ := lst_re hx hs
  clear hx hs
  obtain ⟨a, n, c, rfl⟩ : ∃ a n c, u = .slice a n c := by cases hx'; exact ⟨_, _, _, rfl⟩
  have hnc : n = xs.length ∧ n ≤ c := by cases hx'; exact ⟨by assumption, by assumption⟩
  obtain ⟨hnx, hnc⟩ := hnc
  have fin : ∀ l h' m, (Instr.sliceBounds true n c lo' hi' mx').run P w = .ok (l, h', m) w →
      (Instr.sliceAt t (.slice a n c) lo' hi' mx').run P w = .ok (.slice (if m = l then a else a.map (·.add (l * sz))) (h' - l) (m - l)) w := by
    intro l h' m hb
    simp only [Instr.sliceAt, Sem.run_bind, run_underlying hu, Result.andThen_ok, Instr.slice, hb, szOf_run hn, Sem.run_pure]
  unfold sliceL at h
  cases hm with
  | some hmv =>
    rename_i mv mu
    simp only at h
    split at h
    · rename_i m hm1
      obtain ⟨r1, r2⟩ := bound_run' (P := P) (w := w) .slice3Acap hmv (show xs.length ≤ c by omega) hm1
      cases hh with
      | none => cases h
      | some hhv =>
        rename_i hv0 hu0
        simp only at h
        split at h
        · rename_i h' hh1
          obtain ⟨r3, r4⟩ := bound_run' (P := P) (w := w) .slice3B hhv (Nat.le_refl _) hh1
          split at h
          · rename_i l hl1
            simp at h; subst h
            have hb : (Instr.sliceBounds true n c lo' (some hu0) (some mu)).run P w = .ok (l, h', m) w := by
              simp only [Instr.sliceBounds, if_true, Sem.run_bind, r1, r3, Result.andThen_ok, Option.isSome_some]
              cases hl with
              | none => simp [boundOr] at hl1; subst hl1; simp
              | some hlv =>
                obtain ⟨r5, r6⟩ := bound_run' (P := P) (w := w) .slice3C hlv (Nat.le_refl _) (by simpa [boundOr] using hl1)
                simp [r5]
            have hlh : l ≤ h' := by
              cases hl with
              | none => simp [boundOr] at hl1; omega
              | some hlv => exact (bound_run' (P := P) (w := w) .slice3C hlv (Nat.le_refl _) (by simpa [boundOr] using hl1)).2
            refine ok_val hW (fin _ _ _ hb) (lst_slice hx' hlh (by omega) r4 (by omega) ?_)
            split
            · rename_i he0; exact .inl ⟨he0, rfl⟩
            · rename_i he0
              split
              · rename_i he; exact .inr ⟨he0, .inr (.inl ⟨rfl, he⟩)⟩
              · exact .inr ⟨he0, .inl rfl⟩
          · cases h
        · cases h
    · cases h
  | none =>
    simp only at h
    split at h
    · rename_i h' hh1
      split at h
      · rename_i l hl1
        simp at h; subst h
        have hh2 : h' ≤ xs.length := by
          cases hh with
          | none => simp [boundOr] at hh1; omega
          | some hhv => exact (bound_run' (P := P) (w := w) .sliceAcap hhv (show xs.length ≤ c by omega) (by simpa [boundOr] using hh1)).2
        have hb : (Instr.sliceBounds true n c lo' hi' none).run P w = .ok (l, h', c) w ∧ l ≤ h' := by
          cases hh with
          | none =>
            simp [boundOr] at hh1; subst hh1
            cases hl with
            | none => simp [boundOr] at hl1; subst hl1; simp [Instr.sliceBounds, hnx]
            | some hlv =>
              obtain ⟨r5, r6⟩ := bound_run' (P := P) (w := w) .sliceB hlv (Nat.le_refl _) (by simpa [boundOr] using hl1)
              exact ⟨by simp [Instr.sliceBounds, r5, hnx], r6⟩
          | some hhv =>
            obtain ⟨r3, r4⟩ := bound_run' (P := P) (w := w) .sliceAcap hhv (show xs.length ≤ c by omega) (by simpa [boundOr] using hh1)
            cases hl with
            | none => simp [boundOr] at hl1; subst hl1; simp [Instr.sliceBounds, r3]
            | some hlv =>
              obtain ⟨r5, r6⟩ := bound_run' (P := P) (w := w) .sliceB hlv (Nat.le_refl _) (by simpa [boundOr] using hl1)
              exact ⟨by simp [Instr.sliceBounds, r3, r5], r6⟩
        refine ok_val hW (fin _ _ _ hb.1) (lst_slice hx' hb.2 (by omega) (by omega) (Nat.le_refl _) ?_)
        split
        · rename_i he
          by_cases ho : o = .nil
          · subst ho; exact .inl ⟨rfl, rfl⟩
          · exact .inr ⟨ho, .inr (.inr ⟨by cases o <;> rfl, by omega, rfl⟩)⟩
        · rename_i he
          refine .inr ⟨fun ho => ?_, .inl rfl⟩
          have := hnil ho
          subst this
          simp at *
          omega
      · cases h
    · cases h

/-- A piece of an object. -/
theorem ok_sliceR (hW : WInv γ σ w) {t e : TypeId} {sz id off n : Nat} {u : Value} {lo hi : Option Val} {lo' hi' : Option Value} {h l : Nat}
    (hu : P.underlying t = some (.slice e)) (hn : szOf P e = some sz) (hx : VRel γ (.ref sz id off n) u)
    (hl : ORel γ lo lo') (hh : ORel γ hi hi') (e1 : boundOr n hi n = some h) (e2 : boundOr 0 lo h = some l) :
    OpOk γ σ w ((valOf (Instr.sliceAt t u lo' hi' none)).run P w) (.ref sz id (off + l * sz) (h - l)) σ := by
  cases hx with
  | ref sz id off n c b e' oo hr hs hc he ho =>
  have hb : (Instr.sliceBounds true n c lo' hi' none).run P w = .ok (l, h, c) w ∧ l ≤ h ∧ h ≤ n := by
    cases hh with
    | none =>
      simp [boundOr] at e1; subst e1
      cases hl with
      | none => simp [boundOr] at e2; subst e2; simp [Instr.sliceBounds]
      | some hlv =>
        obtain ⟨r5, r6⟩ := bound_run' (P := P) (w := w) .sliceB hlv (Nat.le_refl _) (by simpa [boundOr] using e2)
        exact ⟨by simp [Instr.sliceBounds, r5], r6, Nat.le_refl _⟩
    | some hhv =>
      obtain ⟨r3, r4⟩ := bound_run' (P := P) (w := w) .sliceAcap hhv (show n ≤ c by omega) (by simpa [boundOr] using e1)
      cases hl with
      | none => simp [boundOr] at e2; subst e2; exact ⟨by simp [Instr.sliceBounds, r3], Nat.zero_le _, r4⟩
      | some hlv =>
        obtain ⟨r5, r6⟩ := bound_run' (P := P) (w := w) .sliceB hlv (Nat.le_refl _) (by simpa [boundOr] using e2)
        exact ⟨by simp [Instr.sliceBounds, r3, r5], r6, r4⟩
  obtain ⟨hb, hlh, hhn⟩ := hb
  by_cases hcl : c = l
  · have hl0 : l = h := by omega
    refine ok_val hW (u := .slice (some ⟨b, oo, none⟩) (h - l) (c - l)) ?_ (.ref _ _ _ _ _ _ _ _ hr hs (by omega) ?_ (.inr (by omega)))
    · simp only [Instr.sliceAt, Sem.run_bind, run_underlying hu, Result.andThen_ok, Instr.slice, hb, szOf_run hn, Sem.run_pure]
      simp [hcl]
    · rw [show c - l = 0 by omega, Nat.zero_mul, ← hcl]; exact he
  · refine ok_val hW (u := .slice (some ⟨b, oo + l * sz, none⟩) (h - l) (c - l)) ?_ (.ref _ _ _ _ _ _ _ _ hr hs (by omega) ?_ (by omega))
    · simp only [Instr.sliceAt, Sem.run_bind, run_underlying hu, Result.andThen_ok, Instr.slice, hb, szOf_run hn, Sem.run_pure]
      rw [if_neg hcl]
      simp [add_at]
    · have := Nat.mul_le_mul_right sz (show l ≤ c by omega)
      rw [Nat.sub_mul]
      omega

end Go.Ev
