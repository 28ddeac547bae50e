/- More fuel never turns an answer; and the answer without fuel. -/
import Derived.Test.YtphmgckopecggaaDoorSound
namespace Go.Ev

def CallLe (c c' : CallF) : Prop := ∀ g args σ r, c g args σ = some r → c' g args σ = some r

section
variable {c c' : CallF}

theorem evOp_call (call : CallF) (f : CO) (as : List CO) (s : St) : evOp call (.call f as) s = match f.ev s.1 with
    | .func (.func g) first captured => call g (first ++ as.map (·.ev s.1) ++ captured) s.2
    | _ => none := rfl

theorem evOp_mono (h : CallLe c c') {op : COp} {s : St} {r : Val × Hp} (hr : evOp c op s = some r) : evOp c' op s = some r := by
  cases op
  case call f as =>
    rw [evOp_call] at hr ⊢
    generalize f.ev s.1 = x at hr ⊢
    split at hr
    · exact h _ _ _ _ hr
    · cases hr
  all_goals exact hr

theorem evStep_mono (h : CallLe c c') {x : CStep} {s s' : St} (hr : evStep c x s = some s') : evStep c' x s = some s' := by
  have key : ∀ r, evOp c x.op s = some r → evOp c' x.op s = some r := fun r => evOp_mono h
  unfold evStep at hr ⊢
  generalize evOp c x.op s = o at hr key
  generalize evOp c' x.op s = o' at key ⊢
  cases o with
  | none =>
    cases hg : x.guard with
    | none => simp [hg] at hr
    | some p =>
      simp only [hg] at hr ⊢
      split at hr
      · split at hr
        · cases hr
        · rename_i h2; simp only [h2, if_false]; exact hr
      · cases hr
  | some r =>
    rw [key r rfl]
    exact hr

theorem evSteps_mono (h : CallLe c c') : ∀ {ss : List CStep} {s s' : St}, evSteps c ss s = some s' → evSteps c' ss s = some s'
  | [], _, _, hr => hr
  | x :: ss, s, s', hr => by
    simp only [evSteps] at hr ⊢
    cases h1 : evStep c x s with
    | none => simp [h1] at hr
    | some s1 =>
      simp only [h1] at hr
      simp only [evStep_mono h h1]
      exact evSteps_mono h hr

theorem evDStep_mono (h : CallLe c c') {base : Nat} {d : DStep} {s : St} {r : Val × Hp} (hr : evDStep c base d s = some r) : evDStep c' base d s = some r := by
  unfold evDStep at hr ⊢
  cases hg : guardV s.1 d.guard with
  | none => simp [hg] at hr
  | some b =>
    cases b with
    | false => simpa [hg] using hr
    | true =>
      simp only [hg] at hr ⊢
      unfold evDRun at hr ⊢
      cases hk : d.kind <;> simp only [hk] at hr ⊢ <;> first | exact hr | exact evOp_mono h hr

theorem evD_mono (h : CallLe c c') {base : Nat} : ∀ {ds : List DStep} {s : St} {r : List Val × List Hp}, evD c base ds s = some r → evD c' base ds s = some r
  | [], _, _, hr => hr
  | d :: ds, s, r, hr => by
    simp only [evD] at hr ⊢
    cases h1 : evDStep c base d s with
    | none => simp [h1] at hr
    | some x =>
      simp only [h1] at hr
      simp only [evDStep_mono h h1]
      cases h2 : evD c base ds (updO s.1 d.dst x.1, x.2) with
      | none => simp [h2] at hr
      | some y =>
        simp only [h2] at hr
        simp only [evD_mono h h2]
        exact hr

theorem evRegionD_mono (h : CallLe c c') {news : List (List Val)} {ds : List DStep} {s s' : St} (hr : evRegionD c news ds s = some s') : evRegionD c' news ds s = some s' := by
  unfold evRegionD at hr ⊢
  simp only at hr ⊢
  cases h1 : evD c s.2.length ds (s.1, s.2 ++ news.map .cells) with
  | none => simp [h1] at hr
  | some y =>
    simp only [h1] at hr
    simp only [evD_mono h h1]
    exact hr

theorem iter_mono {b b' : St → Option (Ex × St)} (h : ∀ s r, b s = some r → b' s = some r) : ∀ {n m : Nat} {s : St} {r : Ex × St}, n ≤ m → iter b n s = some r → iter b' m s = some r
  | 0, _, _, _, _, hr => by simp [iter] at hr
  | n + 1, 0, _, _, hl, _ => by omega
  | n + 1, m + 1, s, r, hl, hr => by
    simp only [iter] at hr ⊢
    cases h1 : b s with
    | none => simp [h1] at hr
    | some x =>
      rw [h _ _ h1]
      obtain ⟨e, s1⟩ := x
      rw [h1] at hr
      cases e with
      | normal => exact iter_mono h (by omega) hr
      | exit i => exact hr
      | ret => exact hr

theorem evC_mono (h : CallLe c c') {n m : Nat} (hl : n ≤ m) : ∀ {x : CCode} {s : St} {r : Ex × St}, evC c n x s = some r → evC c' m x s = some r := by
  intro x
  induction x with
  | skip => exact fun hr => hr
  | region ss =>
    intro s r hr
    simp only [evC] at hr ⊢
    cases h1 : evSteps c ss s with
    | none => simp [h1] at hr
    | some y => rw [evSteps_mono h h1]; rw [h1] at hr; exact hr
  | regionD nw ds =>
    intro s r hr
    simp only [evC] at hr ⊢
    cases h1 : evRegionD c nw ds s with
    | none => simp [h1] at hr
    | some y => rw [evRegionD_mono h h1]; rw [h1] at hr; exact hr
  | seq a b iha ihb =>
    intro s r hr
    simp only [evC] at hr ⊢
    cases h1 : evC c n a s with
    | none => simp [h1] at hr
    | some y =>
      rw [iha h1]; rw [h1] at hr
      obtain ⟨e, s1⟩ := y
      cases e with
      | normal => exact ihb hr
      | exit i => exact hr
      | ret => exact hr
  | cond q a b iha ihb =>
    intro s r hr
    simp only [evC] at hr ⊢
    generalize q.ev s.1 = v at hr ⊢
    split at hr
    · exact iha hr
    · exact ihb hr
    · cases hr
  | block i b ih =>
    intro s r hr
    simp only [evC] at hr ⊢
    cases h1 : evC c n b s with
    | none => simp [h1] at hr
    | some y => rw [ih h1]; rw [h1] at hr; exact hr
  | loop b ih =>
    intro s r hr
    simp only [evC] at hr ⊢
    exact iter_mono (fun s r => ih) hl hr
  | exit i => exact fun hr => hr
  | ret => exact fun hr => hr

theorem runBody_mono (h : CallLe c c') {n m : Nat} (hl : n ≤ m) {cf : CFn} {args : List Val} {σ : Hp} {r : Val × Hp} (hr : runBody c n cf args σ = some r) : runBody c' m cf args σ = some r := by
  unfold runBody at hr ⊢
  split at hr
  · rename_i hlen
    rw [if_pos hlen]
    cases h1 : evC c n cf.body (argT args, σ) with
    | none => simp [h1] at hr
    | some y => rw [evC_mono h hl h1]; rw [h1] at hr; exact hr
  · cases hr

theorem pureBody_mono (h : CallLe c c') {n m : Nat} (hl : n ≤ m) {cf : CFn} {args : List Val} {r : Val} (hr : pureBody c n cf args = some r) : pureBody c' m cf args = some r := by
  unfold pureBody at hr ⊢
  split at hr
  · rename_i hc
    rw [if_pos hc]
    cases h1 : runBody c n cf (Val.fzs args) [] with
    | none => simp [h1] at hr
    | some y => rw [runBody_mono h hl h1]; rw [h1] at hr; exact hr
  · cases hr
end

section
variable {F : FuncId → Option CFn} {H : FuncId → Option Hook}

theorem evF_succ : ∀ (n : Nat), CallLe (evF F H n) (evF F H (n + 1))
  | 0 => fun g args σ r h => by simp [evF] at h
  | n + 1 => fun g args σ r h => by
    rw [evF] at h ⊢
    cases hh : H g with
    | some k => simpa [hh] using h
    | none =>
      simp only [hh] at h ⊢
      cases hf : F g with
      | none => simp [hf] at h
      | some cf =>
        simp only [hf] at h ⊢
        split at h
        · rename_i hp
          rw [if_pos hp]
          cases h1 : pureBody (evF F H n) n cf args with
          | none => simp [h1] at h
          | some y => rw [pureBody_mono (evF_succ n) (Nat.le_succ n) h1]; rw [h1] at h; exact h
        · rename_i hp
          rw [if_neg hp]
          exact runBody_mono (evF_succ n) (Nat.le_succ n) h

theorem evF_mono {n m : Nat} (hl : n ≤ m) : CallLe (evF F H n) (evF F H m) := by
  induction hl with
  | refl => exact fun g args σ r h => h
  | step _ ih => exact fun g args σ r h => evF_succ _ g args σ r (ih g args σ r h)
end

section
variable (F : FuncId → Option CFn) (H : FuncId → Option Hook)
open Classical in
/-- What a call comes to, with enough fuel. -/
noncomputable def EvO : CallF := fun g args σ => if h : ∃ r n, evF F H n g args σ = some r then some h.choose else none
end

section
variable {F : FuncId → Option CFn} {H : FuncId → Option Hook}

theorem EvO_iff {g : FuncId} {args : List Val} {σ : Hp} {r : Val × Hp} : EvO F H g args σ = some r ↔ ∃ n, evF F H n g args σ = some r := by
  unfold EvO
  constructor
  · intro h
    split at h
    · rename_i hh
      obtain ⟨n, hn⟩ := hh.choose_spec
      simp only [Option.some.injEq] at h
      exact ⟨n, by rw [hn, h]⟩
    · cases h
  · rintro ⟨n, hn⟩
    have hh : ∃ r n, evF F H n g args σ = some r := ⟨r, n, hn⟩
    rw [dif_pos hh]
    obtain ⟨m, hm⟩ := hh.choose_spec
    have h1 := evF_mono (Nat.le_max_left n m) g args σ r hn
    have h2 := evF_mono (Nat.le_max_right n m) g args σ _ hm
    rw [h1] at h2
    exact h2.symm

/-- From some fuel on. -/
def Late (p : Nat → Prop) : Prop := ∃ m0, ∀ m, m0 ≤ m → p m

theorem Late.both {p q : Nat → Prop} (h : Late p) (k : Late q) : Late fun m => p m ∧ q m := by
  obtain ⟨a, ha⟩ := h
  obtain ⟨b, hb⟩ := k
  exact ⟨max a b, fun m hm => ⟨ha m (by omega), hb m (by omega)⟩⟩
theorem Late.imp {p q : Nat → Prop} (h : Late p) (k : ∀ m, p m → q m) : Late q := by
  obtain ⟨a, ha⟩ := h
  exact ⟨a, fun m hm => k m (ha m hm)⟩
theorem Late.all {p : Nat → Prop} (k : ∀ m, p m) : Late p := ⟨0, fun m _ => k m⟩

theorem EvO_late {g : FuncId} {args : List Val} {σ : Hp} {r : Val × Hp} (h : EvO F H g args σ = some r) : Late fun m => evF F H m g args σ = some r := by
  obtain ⟨n, hn⟩ := EvO_iff.1 h
  exact ⟨n, fun m hm => evF_mono hm _ _ _ _ hn⟩

theorem evOp_late {op : COp} {s : St} {r : Val × Hp} (hr : evOp (EvO F H) op s = some r) : Late fun m => evOp (evF F H m) op s = some r := by
  cases op
  case call f as =>
    simp only [evOp_call] at hr ⊢
    generalize f.ev s.1 = x at hr ⊢
    split at hr
    · exact EvO_late hr
    · cases hr
  all_goals exact Late.all fun _ => hr

theorem evStep_late {x : CStep} {s s' : St} (hr : evStep (EvO F H) x s = some s') : Late fun m => evStep (evF F H m) x s = some s' := by
  cases h1 : evOp (EvO F H) x.op s with
  | none =>
    refine Late.all fun m => ?_
    unfold evStep at hr ⊢
    rw [h1] at hr
    cases hg : x.guard with
    | none => simp [hg] at hr
    | some p =>
      simp only [hg] at hr ⊢
      split at hr
      · split at hr
        · cases hr
        · rename_i h2; simp only [h2, if_false]; exact hr
      · cases hr
  | some r =>
    refine (evOp_late h1).imp fun m hm => ?_
    unfold evStep at hr ⊢
    rw [hm]
    rw [h1] at hr
    exact hr

theorem evSteps_late : ∀ {ss : List CStep} {s s' : St}, evSteps (EvO F H) ss s = some s' → Late fun m => evSteps (evF F H m) ss s = some s'
  | [], _, _, hr => Late.all fun _ => hr
  | x :: ss, s, s', hr => by
    simp only [evSteps] at hr ⊢
    cases h1 : evStep (EvO F H) x s with
    | none => simp [h1] at hr
    | some s1 =>
      simp only [h1] at hr
      refine ((evStep_late h1).both (evSteps_late hr)).imp fun m hm => ?_
      simp only [hm.1, hm.2]

theorem evDStep_late {base : Nat} {d : DStep} {s : St} {r : Val × Hp} (hr : evDStep (EvO F H) base d s = some r) : Late fun m => evDStep (evF F H m) base d s = some r := by
  unfold evDStep at hr ⊢
  cases hg : guardV s.1 d.guard with
  | none => simp [hg] at hr
  | some b =>
    cases b with
    | false => refine Late.all fun m => ?_; simpa [hg] using hr
    | true =>
      simp only [hg] at hr ⊢
      unfold evDRun at hr ⊢
      cases hk : d.kind <;> simp only [hk] at hr ⊢ <;> first | exact Late.all fun _ => hr | exact evOp_late hr

theorem evD_late {base : Nat} : ∀ {ds : List DStep} {s : St} {r : List Val × List Hp}, evD (EvO F H) base ds s = some r → Late fun m => evD (evF F H m) base ds s = some r
  | [], _, _, hr => Late.all fun _ => hr
  | d :: ds, s, r, hr => by
    simp only [evD] at hr ⊢
    cases h1 : evDStep (EvO F H) base d s with
    | none => simp [h1] at hr
    | some x =>
      simp only [h1] at hr
      cases h2 : evD (EvO F H) base ds (updO s.1 d.dst x.1, x.2) with
      | none => simp [h2] at hr
      | some y =>
        simp only [h2] at hr
        refine ((evDStep_late h1).both (evD_late h2)).imp fun m hm => ?_
        simp only [hm.1, hm.2]
        exact hr

theorem evRegionD_late {news : List (List Val)} {ds : List DStep} {s s' : St} (hr : evRegionD (EvO F H) news ds s = some s') : Late fun m => evRegionD (evF F H m) news ds s = some s' := by
  unfold evRegionD at hr ⊢
  simp only at hr ⊢
  cases h1 : evD (EvO F H) s.2.length ds (s.1, s.2 ++ news.map .cells) with
  | none => simp [h1] at hr
  | some y =>
    simp only [h1] at hr
    refine (evD_late h1).imp fun m hm => ?_
    simp only [hm]
    exact hr

theorem evC_late {n : Nat} : ∀ {x : CCode} {s : St} {r : Ex × St}, evC (EvO F H) n x s = some r → Late fun m => evC (evF F H m) m x s = some r := by
  intro x
  induction x with
  | skip => exact fun hr => Late.all fun _ => hr
  | region ss =>
    intro s r hr
    simp only [evC] at hr ⊢
    cases h1 : evSteps (EvO F H) ss s with
    | none => simp [h1] at hr
    | some y => rw [h1] at hr; exact (evSteps_late h1).imp fun m hm => by rw [hm]; exact hr
  | regionD nw ds =>
    intro s r hr
    simp only [evC] at hr ⊢
    cases h1 : evRegionD (EvO F H) nw ds s with
    | none => simp [h1] at hr
    | some y => rw [h1] at hr; exact (evRegionD_late h1).imp fun m hm => by rw [hm]; exact hr
  | seq a b iha ihb =>
    intro s r hr
    simp only [evC] at hr ⊢
    cases h1 : evC (EvO F H) n a s with
    | none => simp [h1] at hr
    | some y =>
      rw [h1] at hr
      obtain ⟨e, s1⟩ := y
      cases e with
      | normal => exact ((iha h1).both (ihb hr)).imp fun m hm => by rw [hm.1]; exact hm.2
      | exit i => exact (iha h1).imp fun m hm => by rw [hm]; exact hr
      | ret => exact (iha h1).imp fun m hm => by rw [hm]; exact hr
  | cond q a b iha ihb =>
    intro s r hr
    simp only [evC] at hr ⊢
    generalize q.ev s.1 = v at hr ⊢
    split at hr
    · exact iha hr
    · exact ihb hr
    · cases hr
  | block i b ih =>
    intro s r hr
    simp only [evC] at hr ⊢
    cases h1 : evC (EvO F H) n b s with
    | none => simp [h1] at hr
    | some y => rw [h1] at hr; exact (ih h1).imp fun m hm => by rw [hm]; exact hr
  | loop b ih =>
    intro s r hr
    simp only [evC] at hr ⊢
    have key : ∀ (k : Nat) (s : St), iter (evC (EvO F H) n b) k s = some r → Late fun m => iter (evC (evF F H m) m b) m s = some r := by
      intro k
      induction k with
      | zero => intro s h; simp [iter] at h
      | succ k ihk =>
        intro s h
        simp only [iter] at h
        cases h1 : evC (EvO F H) n b s with
        | none => simp [h1] at h
        | some y =>
          rw [h1] at h
          obtain ⟨e, s1⟩ := y
          have hb := ih h1
          cases e with
          | normal =>
            obtain ⟨m0, hm⟩ := hb.both (ihk s1 h)
            refine ⟨m0 + 1, fun m hm0 => ?_⟩
            obtain ⟨m', rfl⟩ : ∃ m', m = m' + 1 := ⟨m - 1, by omega⟩
            simp only [iter]
            rw [(hm (m' + 1) (by omega)).1]
            exact iter_mono (fun s r hr => evC_mono (evF_mono (Nat.le_succ m')) (Nat.le_succ m') hr) (Nat.le_refl m') (hm m' (by omega)).2
          | exit i =>
            obtain ⟨m0, hm⟩ := hb
            refine ⟨m0 + 1, fun m hm0 => ?_⟩
            obtain ⟨m', rfl⟩ : ∃ m', m = m' + 1 := ⟨m - 1, by omega⟩
            simp only [iter]
            rw [hm (m' + 1) (by omega)]
            exact h
          | ret =>
            obtain ⟨m0, hm⟩ := hb
            refine ⟨m0 + 1, fun m hm0 => ?_⟩
            obtain ⟨m', rfl⟩ : ∃ m', m = m' + 1 := ⟨m - 1, by omega⟩
            simp only [iter]
            rw [hm (m' + 1) (by omega)]
            exact h
    exact key n s hr
  | exit i => exact fun hr => Late.all fun _ => hr
  | ret => exact fun hr => Late.all fun _ => hr

theorem runBody_late {n : Nat} {cf : CFn} {args : List Val} {σ : Hp} {r : Val × Hp} (hr : runBody (EvO F H) n cf args σ = some r) : Late fun m => runBody (evF F H m) m cf args σ = some r := by
  unfold runBody at hr ⊢
  split at hr
  · rename_i hlen
    simp only [hlen, if_true]
    cases h1 : evC (EvO F H) n cf.body (argT args, σ) with
    | none => simp [h1] at hr
    | some y => rw [h1] at hr; exact (evC_late h1).imp fun m hm => by rw [hm]; exact hr
  · cases hr

theorem EvO_of_body {g : FuncId} {cf : CFn} (hH : H g = none) (hF : F g = some cf) (hp : cf.pure = false) {n : Nat} {args : List Val} {σ : Hp} {r : Val × Hp} (h : runBody (EvO F H) n cf args σ = some r) : EvO F H g args σ = some r := by
  obtain ⟨m, hm⟩ := runBody_late h
  refine EvO_iff.2 ⟨m + 1, ?_⟩
  rw [evF, hH, hF]
  simp only [hp, Bool.false_eq_true, if_false]
  exact hm m (Nat.le_refl m)

theorem EvO_of_pure {g : FuncId} {cf : CFn} (hH : H g = none) (hF : F g = some cf) (hp : cf.pure = true) {n : Nat} {args : List Val} {σ σ' : Hp} {v : Val} (hc : Val.closeds args = true)
    (h : runBody (EvO F H) n cf (Val.fzs args) [] = some (v, σ')) (hv : v.closed = true) : EvO F H g args σ = some (v.fz, σ) := by
  obtain ⟨m, hm⟩ := runBody_late h
  refine EvO_iff.2 ⟨m + 1, ?_⟩
  rw [evF, hH, hF]
  simp only [hp, if_true, pureBody, hc, hm m (Nat.le_refl m), hv]

theorem EvO_of_hook {g : FuncId} {k : Hook} (hH : H g = some k) {args : List Val} {σ : Hp} {r : Val × Hp} (h : k args σ = some r) : EvO F H g args σ = some r := by
  refine EvO_iff.2 ⟨1, ?_⟩
  rw [evF, hH]
  exact h
end
end Go.Ev
