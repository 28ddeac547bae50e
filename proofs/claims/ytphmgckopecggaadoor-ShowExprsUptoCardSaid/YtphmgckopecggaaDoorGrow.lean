/- Lists that grow, objects laid last: rules. -/
import Derived.Test.YtphmgckopecggaaDoorStrs
namespace Go.Ev

def growO (o : Own) (σ : Hp) : Own × Hp :=
  match o with
  | .nil | .full | .mine => (.tail σ.length 0, σ ++ [.tok 0])
  | .tail k lab => (.tail k (lab + 1), σ.set k (.tok (lab + 1)))
  | .shared => (.shared, σ)

def canGrow (o : Own) (σ : Hp) : Prop :=
  match o with
  | .nil | .full | .mine => True
  | .tail k lab => σ[k]? = some (.tok lab)
  | .shared => False

theorem canGrow_grow {o : Own} {σ : Hp} (h : canGrow o σ) : canGrow (growO o σ).1 (growO o σ).2 := by
  cases o with
  | nil | full | mine => simp [growO, canGrow]
  | shared => cases h
  | tail k lab =>
    simp only [canGrow] at h
    have hk : k < σ.length := (List.getElem?_eq_some_iff.1 h).1
    simp [growO, canGrow, hk]

theorem canGrow_ext {o : Own} {σ : Hp} (h : canGrow o σ) (τ : Hp) : canGrow o (σ ++ τ) := by
  cases o with
  | nil | full | mine => trivial
  | shared => cases h
  | tail k lab =>
    simp only [canGrow] at h ⊢
    have hk : k < σ.length := (List.getElem?_eq_some_iff.1 h).1
    rw [List.getElem?_append_left hk]
    exact h

theorem app_src {sz b s : Nat} {xs ys : List Val} {o : Own} {σ : Hp} {y : Val} (hy : srcV sz y σ = some ys) (hn : ys ≠ []) (hg : canGrow o σ) (hs : s = sz ∨ o = .nil)
    (hb : (xs.length + ys.length) * b ≤ 1099511627776 ∧ xs.length + ys.length ≤ 1099511627776) :
    appV false sz b (.lst s xs o) y σ = some (.lst sz (xs ++ ys) (growO o σ).1, (growO o σ).2) := by
  cases ys with
  | nil => exact absurd rfl hn
  | cons z zs =>
    simp only [appV, hy, if_pos hs, appL, if_pos hb]
    cases o with
    | nil | full | mine => rfl
    | shared => cases hg
    | tail k lab =>
      simp only [canGrow] at hg
      simp only [hg, if_true, growO]

theorem app_lst {sz b s s2 : Nat} {xs ys : List Val} {o o2 : Own} {σ : Hp} (hn : ys ≠ []) (hg : canGrow o σ) (hs : s = sz ∨ o = .nil) (hs2 : s2 = sz)
    (hb : (xs.length + ys.length) * b ≤ 1099511627776 ∧ xs.length + ys.length ≤ 1099511627776) :
    appV false sz b (.lst s xs o) (.lst s2 ys o2) σ = some (.lst sz (xs ++ ys) (growO o σ).1, (growO o σ).2) := by
  subst hs2
  exact app_src (by simp [srcV]) hn hg hs hb

theorem app_none {ref : Bool} {sz b s s2 : Nat} {xs : List Val} {o o2 : Own} {σ : Hp} (hs : s = sz ∨ o = .nil) : appV ref sz b (.lst s xs o) (.lst s2 [] o2) σ = some (.lst s xs o, σ) := by
  simp [appV, srcV, hs]

theorem hp_last (σ : Hp) (x : HObj) : (σ ++ [x])[σ.length]? = some x := by simp
theorem hp_set (σ : Hp) (x y : HObj) : (σ ++ [x]).set σ.length y = σ ++ [y] := by simp
theorem chunks_0 (sz : Nat) (cs : List Val) : chunks sz 0 cs = [] := rfl
theorem chunks_1 (n : Nat) (v : Val) (cs : List Val) : chunks 1 (n + 1) (v :: cs) = v :: chunks 1 n cs := rfl
theorem chunks_n (sz n : Nat) (cs : List Val) : chunks (sz + 2) (n + 1) cs = .agg (cs.take (sz + 2)) :: chunks (sz + 2) n (cs.drop (sz + 2)) := rfl
theorem tok_own (o : Own) (σ : Hp) : (growO o σ).1 = (growO o σ).1 := rfl
theorem growO_nil (σ : Hp) : growO .nil σ = (.tail σ.length 0, σ ++ [.tok 0]) := rfl
theorem growO_ne (o : Own) (σ : Hp) (h : canGrow o σ) : (growO o σ).1 ≠ .nil := by
  cases o <;> simp [growO]
/-- 'x[i]' of an array. -/
def idxAV (agg : Bool) (ln sz : Nat) (x i : Val) : Option Val :=
  match x, i with
  | .agg cs, .int _ k => if 0 ≤ k ∧ k < ln then readV agg sz (cs.drop (k.toNat * sz)) else none
  | _, _ => none
theorem op_idxA (call : CallF) (t : Nat → Val) (σ : Hp) (agg : Bool) (ln sz : Nat) (x i : CO) : evOp call (.idxA agg ln sz x i) (t, σ) = match idxAV agg ln sz (x.ev t) (i.ev t) with | some v => some (v, σ) | none => none := by
  show COp.ev t σ (.idxA agg ln sz x i) = _
  simp only [COp.ev]
  generalize x.ev t = a
  generalize i.ev t = b
  cases a <;> cases b <;> simp only [idxAV]
  split
  · rename_i cs _ k _
    cases readV agg sz (cs.drop (k.toNat * sz)) <;> rfl
  · rfl
theorem idxAV_a {agg : Bool} {ln sz : Nat} {cs : List Val} {k : IntKind} {j : Int} (h : 0 ≤ j ∧ j < ln) : idxAV agg ln sz (.agg cs) (.int k j) = readV agg sz (cs.drop (j.toNat * sz)) := by simp [idxAV, h]
end Go.Ev
namespace Go.Ev
section
variable {F : FuncId → Option CFn} {H : FuncId → Option Hook} {r : List Item} {t : Nat → Val} {σ : Hp} {Q : Qt}
theorem R_cons {x : Item} (h : R F H [x] t σ (fun e t' σ' => RX F H r e t' σ' Q)) : R F H (x :: r) t σ Q := by
  obtain ⟨n, e1, t1, σ1, h1, m, e2, t2, σ2, h2, hq⟩ := h
  have hle : CallLe (EvO F H) (EvO F H) := fun _ _ _ _ h => h
  have h1' := evX_mono hle (Nat.le_max_left n m) h1
  have h2' := evX_mono hle (Nat.le_max_right n m) h2
  refine ⟨max n m, e2, t2, σ2, ?_, hq⟩
  cases x with
  | st c =>
    simp only [evX] at h1' ⊢
    cases h3 : evStep (EvO F H) c (t, σ) with
    | none => simp [h3] at h1'
    | some s =>
      simp only [h3, Option.some.injEq, Prod.mk.injEq] at h1' ⊢
      obtain ⟨rfl, rfl⟩ := h1'
      exact h2'
  | cd c =>
    simp only [evX] at h1' ⊢
    cases h3 : evC (EvO F H) (max n m) c (t, σ) with
    | none => simp [h3] at h1'
    | some s =>
      obtain ⟨e, s⟩ := s
      simp only [h3] at h1' ⊢
      cases e <;> simp only [evX, Option.some.injEq, Prod.mk.injEq] at h1' <;> obtain ⟨rfl, rfl⟩ := h1' <;> exact h2'
  | lp c =>
    simp only [evX] at h1' ⊢
    cases h3 : evC (EvO F H) (max n m) (.loop c) (t, σ) with
    | none => simp [h3] at h1'
    | some s =>
      obtain ⟨e, s⟩ := s
      simp only [h3] at h1' ⊢
      cases e <;> simp only [evX, Option.some.injEq, Prod.mk.injEq] at h1' <;> obtain ⟨rfl, rfl⟩ := h1' <;> exact h2'
  | blk i =>
    simp only [evX, Option.some.injEq, Prod.mk.injEq] at h1' ⊢
    obtain ⟨rfl, rfl, rfl⟩ := h1'
    exact h2'

/-- A piece of code that ends as it should, and on. -/
theorem R_mid {x : Item} (P : (Nat → Val) → Hp → Prop) (h1 : R F H [x] t σ (fun e t' σ' => e = .normal ∧ P t' σ')) (h2 : ∀ t' σ', P t' σ' → R F H r t' σ' Q) : R F H (x :: r) t σ Q :=
  R_cons (R_mono h1 fun e t' σ' ⟨he, hp⟩ => by subst he; exact h2 t' σ' hp)

/-- A test whose ways meet again. -/
theorem RB_mid {p : Bool} {a b : CCode} (P : (Nat → Val) → Hp → Prop) (h1 : p = true → R F H [.cd a] t σ (fun e t' σ' => e = .normal ∧ P t' σ')) (h2 : p = false → R F H [.cd b] t σ (fun e t' σ' => e = .normal ∧ P t' σ'))
    (h3 : ∀ t' σ', P t' σ' → R F H r t' σ' Q) : RB F H (.bool p) a b r t σ Q :=
  RB_split (fun h => R_mid P (h1 h) h3) (fun h => R_mid P (h2 h) h3)
end
end Go.Ev
