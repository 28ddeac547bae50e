/- A region whose order is open: whatever the order, the same. -/
import Derived.Test.YtphmgckopecggaaDoorSound1
import Derived.Test.YtphmgckopecggaaDoorNames
namespace Go.Ev
set_option linter.unusedSectionVars false
variable [Glob]

/-! the temporaries behind some of the operations -/

def TD : Nat → List DStep → List Val → (Nat → Bool) → (Nat → Val) → (Nat → Val)
  | k, d :: ds, v :: vs, D, t => TD (k + 1) ds vs D (if D k then updO t d.dst v else t)
  | _, _, _, _, t => t

theorem updO_ne (t : Nat → Val) {d : Option Nat} {τ : Nat} (h : d ≠ some τ) (v : Val) : updO t d v τ = t τ := by
  cases d with
  | none => rfl
  | some i => simp only [updO, upd]; rw [if_neg]; rintro rfl; exact h rfl
theorem updO_eq (t : Nat → Val) {τ : Nat} (v : Val) : updO t (some τ) v τ = v := by simp [updO, upd]

theorem TD_congr {τ : Nat} : ∀ (ds : List DStep) (vs : List Val) (k : Nat) {D D' : Nat → Bool} {t t' : Nat → Val},
    (∀ j d, ds[j]? = some d → d.dst = some τ → D (k + j) = D' (k + j)) → t τ = t' τ → TD k ds vs D t τ = TD k ds vs D' t' τ
  | [], vs, k, D, D', t, t', _, ht => by cases vs <;> simpa [TD] using ht
  | d :: ds, [], k, D, D', t, t', _, ht => by simpa [TD] using ht
  | d :: ds, v :: vs, k, D, D', t, t', h, ht => by
    simp only [TD]
    refine TD_congr ds vs (k + 1) (fun j d' hj hd => by have := h (j + 1) d' (by simpa using hj) hd; rw [show k + 1 + j = k + (j + 1) by omega]; exact this) ?_
    by_cases hd : d.dst = some τ
    · have := h 0 d (by simp) hd
      simp only [Nat.add_zero] at this
      rw [this]
      split
      · rw [hd, updO_eq, updO_eq]
      · exact ht
    · have e : ∀ (c : Bool) (q : Nat → Val), (if c = true then updO q d.dst v else q) τ = q τ := by
        intro c q
        cases c
        · rfl
        · exact updO_ne q hd v
      rw [e, e]
      exact ht

theorem TD_none : ∀ (ds : List DStep) (vs : List Val) (k : Nat) (t : Nat → Val), TD k ds vs (fun _ => false) t = t
  | [], vs, k, t => by cases vs <;> rfl
  | d :: ds, [], k, t => rfl
  | d :: ds, v :: vs, k, t => by simp only [TD, Bool.false_eq_true, if_false]; exact TD_none ds vs (k + 1) t

theorem TD_stable {τ : Nat} (ds : List DStep) (vs : List Val) (k : Nat) {D : Nat → Bool} {t : Nat → Val} (h : ∀ j d, ds[j]? = some d → d.dst = some τ → D (k + j) = false) : TD k ds vs D t τ = t τ := by
  rw [TD_congr ds vs k (D' := fun _ => false) (t' := t) (fun j d hj hd => h j d hj hd) rfl, TD_none]

theorem TD_prefix : ∀ (ds : List DStep) (vs : List Val) (k m : Nat) (t : Nat → Val), TD k ds vs (fun i => decide (i < k + m)) t = endT (ds.take m) (vs.take m) t
  | ds, vs, k, 0, t => by
    have : TD k ds vs (fun i => decide (i < k + 0)) t = t := by
      funext τ
      exact TD_stable ds vs k (fun j d _ _ => by simp)
    rw [this]
    simp [endT]
  | [], vs, k, m + 1, t => by cases vs <;> simp [TD, endT]
  | d :: ds, [], k, m + 1, t => by simp [TD, endT]
  | d :: ds, v :: vs, k, m + 1, t => by
    simp only [TD, List.take_succ_cons, endT]
    rw [if_pos (by simp)]
    have := TD_prefix ds vs (k + 1) m (updO t d.dst v)
    rw [← this]
    congr 1
    funext i
    congr 1
    exact propext ⟨fun h => by omega, fun h => by omega⟩

theorem TD_all (ds : List DStep) (vs : List Val) (t : Nat → Val) {D : Nat → Bool} (h : ∀ i, i < ds.length → D i = true) : TD 0 ds vs D t = endT ds vs t := by
  have := TD_prefix ds vs 0 ds.length t
  by_cases hl : ds.length ≤ vs.length
  · rw [List.take_length] at this
    have h2 : endT ds (vs.take ds.length) t = endT ds vs t := by
      clear this h
      induction ds generalizing vs t with
      | nil => cases vs <;> simp [endT]
      | cons d ds ih =>
        match vs with
        | [] => simp at hl
        | v :: vs => simp only [List.length_cons, List.take_succ_cons, endT]; exact ih vs _ (by simpa using hl)
    rw [h2] at this
    rw [← this]
    funext τ
    refine TD_congr ds vs 0 (fun j d hj _ => ?_) rfl
    have : j < ds.length := (List.getElem?_eq_some_iff.1 hj).1
    simp [h j this, this]
  · rw [List.take_of_length_le (by omega), List.take_of_length_le (by omega)] at this
    rw [← this]
    funext τ
    refine TD_congr ds vs 0 (fun j d hj _ => ?_) rfl
    have : j < ds.length := (List.getElem?_eq_some_iff.1 hj).1
    simp [h j this, this]

theorem TD_add : ∀ (i : Nat) (ds : List DStep) (vs : List Val) (k : Nat) {D : Nat → Bool} (t : Nat → Val) {d : DStep} {v : Val}, ds[i]? = some d → vs[i]? = some v →
    (∀ j d' τ, ds[j]? = some d' → i < j → d.dst = some τ → d'.dst = some τ → D (k + j) = false) →
    TD k ds vs (fun x => x == k + i || D x) t = updO (TD k ds vs D t) d.dst v
  | 0, d0 :: ds, v0 :: vs, k, D, t, d, v, hd, hv, h => by
    simp at hd hv
    subst hd; subst hv
    simp only [TD]
    rw [if_pos (by simp)]
    funext τ
    by_cases hτ : d0.dst = some τ
    · have e2 : updO (TD (k + 1) ds vs D (if D k = true then updO t d0.dst v0 else t)) d0.dst v0 τ = v0 := by rw [hτ, updO_eq]
      rw [e2, TD_stable ds vs (k + 1) (fun j d' hj hd' => ?_), hτ, updO_eq]
      have := h (j + 1) d' τ (by simpa using hj) (by omega) hτ hd'
      rw [show k + 1 + j = k + (j + 1) by omega, this]
      simp
    · rw [updO_ne _ hτ]
      refine TD_congr ds vs (k + 1) (fun j d' hj hd' => ?_) ?_
      · have : (k + 1 + j == k + 0) = false := by simp; omega
        rw [this, Bool.false_or]
      · split <;> simp only [updO_ne _ hτ]
  | i + 1, d0 :: ds, v0 :: vs, k, D, t, d, v, hd, hv, h => by
    simp only [TD]
    have e1 : (k == k + (i + 1)) = false := by simp
    simp only [e1, Bool.false_or]
    have := TD_add i ds vs (k + 1) (D := D) (if D k = true then updO t d0.dst v0 else t) (by simpa using hd) (by simpa using hv) (fun j d' τ hj hij hdt hdt' => by
      have := h (j + 1) d' τ (by simpa using hj) (by omega) hdt hdt'
      rw [show k + 1 + j = k + (j + 1) by omega]; exact this)
    rw [← this]
    congr 1
    funext x
    rw [show k + 1 + i = k + (i + 1) by omega]
  | _, [], _, _, _, _, _, _, hd, _, _ => by simp at hd
  | _, _ :: _, [], _, _, _, _, _, _, hv, _ => by simp at hv

/-! what comes ahead of what -/

inductive Bef (l : List Oper) : Nat → Nat → Prop
  | one {i j : Nat} {o : Oper} (h : l[i]? = some o) (hj : j ∈ edges o) : Bef l j i
  | more {i j k : Nat} {o : Oper} (h : l[i]? = some o) (hk : k ∈ edges o) (hb : Bef l j k) : Bef l j i

theorem foldl_bit (acc : List Nat) (x : Nat) : ∀ (L : List Nat) (m : Nat), (L.foldl (fun m j => m ||| 2 ^ j ||| acc.getD j 0) m).testBit x = true → m.testBit x = true ∨ ∃ j ∈ L, x = j ∨ (acc.getD j 0).testBit x = true
  | [], m, h => .inl h
  | j :: L, m, h => by
    rw [List.foldl_cons] at h
    rcases foldl_bit acc x L _ h with h1 | ⟨j', h1, h2⟩
    · simp only [Nat.testBit_or, Bool.or_eq_true, Nat.testBit_two_pow, decide_eq_true_eq] at h1
      rcases h1 with (h1 | h1) | h1
      · exact .inl h1
      · exact .inr ⟨j, by simp, .inl h1.symm⟩
      · exact .inr ⟨j, by simp, .inr h1⟩
    · exact .inr ⟨j', by simp [h1], h2⟩

theorem befs_ok : ∀ (l don : List Oper) (acc : List Nat), don.length = acc.length → (∀ i j, (acc.getD i 0).testBit j = true → Bef (don ++ l) j i) →
    ∀ i j, ((befs l acc).getD i 0).testBit j = true → Bef (don ++ l) j i
  | [], don, acc, _, h => by simpa [befs] using h
  | o :: r, don, acc, hl, h => by
    intro i j hij
    simp only [befs] at hij
    have := befs_ok r (don ++ [o]) (acc ++ [(edges o).foldl (fun m j => m ||| 2 ^ j ||| acc.getD j 0) 0]) (by simp [hl]) (fun i j hb => by
      rw [List.append_assoc]
      show Bef (don ++ o :: r) j i
      by_cases hi : i < acc.length
      · refine h i j ?_
        rw [List.getD_eq_getElem?_getD, List.getElem?_append_left hi] at hb
        rw [List.getD_eq_getElem?_getD]; exact hb
      · by_cases hi2 : i = acc.length
        · subst hi2
          rw [List.getD_eq_getElem?_getD, List.getElem?_append_right (Nat.le_refl _)] at hb
          simp only [Nat.sub_self, List.getElem?_cons_zero, Option.getD_some] at hb
          have ho : (don ++ o :: r)[acc.length]? = some o := by rw [← hl]; simp
          rcases foldl_bit acc j _ _ hb with h1 | ⟨q, h1, h2⟩
          · simp at h1
          · rcases h2 with rfl | h2
            · exact .one ho h1
            · exact .more ho h1 (h q j h2)
        · rw [List.getD_eq_getElem?_getD, List.getElem?_eq_none (by simp; omega)] at hb
          simp at hb) i j hij
    rw [List.append_assoc] at this
    exact this

end Go.Ev
