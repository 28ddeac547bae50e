/- Objects that are slices: what is appended to them, and out of them; make. -/
import Derived.Test.YtphmgckopecggaaDoorOps6
namespace Go.Ev
set_option linter.unusedSectionVars false
variable [Glob]

variable {P : Program} {γ : Gh} {σ σ' : Hp} {w : World}

theorem chunks_rows {sz n : Nat} {vs : List Val} {off : Nat} (h : off + n * sz ≤ vs.length) (h1 : vs.all Val.one = true) :
    flat (chunks sz n ((vs.drop off).take (n * sz))) = (vs.drop off).take (n * sz) ∧ ∀ x ∈ chunks sz n ((vs.drop off).take (n * sz)), x.cells.length = sz :=
  chunks_flat sz n _ (by simp; omega) (all_take _ (all_drop _ h1))

theorem source_ref (hW : WInv γ σ w) {sz id off n : Nat} {vs : List Val} {x : Value} (hx : VRel γ (.ref sz id off n) x) (hi : σ[id]? = some (.cells vs)) (hl : off + n * sz ≤ vs.length) :
    ∃ news, Source P sz x n news w ∧ VRels γ ((vs.drop off).take (n * sz)) news ∧ vs.all Val.one = true := by
  cases hx with
  | ref sz id off n c b e o hr hs hc he ho =>
    obtain ⟨us, el, h1, h2, h3⟩ := hW.objOk id vs b hi hr
    have hlen := h2.length
    refine ⟨((us.toList.take vs.length).drop off).take (n * sz), ⟨fun w' => by simp [Builtin.lenOf], fun w' hw' => ?_, by simp at *; omega⟩, (h2.drop off).take _, h3⟩
    by_cases h0 : n * sz = 0
    · rw [h0]
      simp [Builtin.firstCells, loadCells, loadCellsFrom, h0]
    · have ho' : o = off := by
        rcases ho with h | h
        · exact h
        · have : n = 0 := by omega
          subst this; simp at h0
      subst ho'
      refine run_firstCells_some (P := P) w' sz n ⟨b, o, none⟩ n c _ (by simp at *; omega) (fun j v hj => ?_)
      have h4 := take_get hj
      rw [List.getElem?_drop] at h4
      have h5 := take_get h4
      rw [add_at]
      unfold World.cell?
      rw [hw', h1]
      simpa using h5

/-- What is appended, whatever it is. -/
theorem source_any (hW : WInv γ σ w) {sz : Nat} {y : Val} {x : Value} {ys : List Val} (hx : VRel γ y x) (h : srcV sz y σ = some ys) :
    ∃ news, Source P sz x ys.length news w ∧ VRels γ (flat ys) news ∧ (∀ y ∈ ys, y.cells.length = sz) ∧ (flat ys).all Val.one = true := by
  unfold srcV at h
  split at h
  · rename_i s zs o
    split at h
    · rename_i c2
      simp at h; subst h
      obtain ⟨news, n1, n2⟩ := source_lst (P := P) hW hx c2
      refine ⟨news, n1, n2, ?_, by cases hx; assumption⟩
      rcases c2 with rfl | rfl
      · cases hx; assumption
      · simp
    · cases h
  · rename_i b
    split at h
    · rename_i c1
      subst c1
      simp at h; subst h
      cases hx
      have hlen : (b.toList.map byteV).length = b.size := by
        rw [List.length_map, ByteArray.toList_eq]; rfl
      have n1 := source_str (P := P) (w := w) (s := b)
      rw [← hlen] at n1
      refine ⟨_, n1, bytes_rels b.toList, fun y hy => ?_, bytes_one b.toList⟩
      simp only [List.mem_map] at hy
      obtain ⟨c, _, rfl⟩ := hy
      rfl
    · cases h
  · rename_i s id off n
    split at h
    · rename_i vs hi
      split at h
      · rename_i hc
        obtain ⟨rfl, hl⟩ := hc
        simp at h; subst h
        obtain ⟨news, n1, n2, n3⟩ := source_ref (P := P) hW hx hi hl
        obtain ⟨k1, k2⟩ := chunks_rows hl n3
        rw [chunks_length, k1]
        exact ⟨news, n1, n2, k2, all_take _ (all_drop _ n3)⟩
      · cases h
    · cases h
  · cases h

theorem ok_app0 (hW : WInv γ σ w) {t u ty e : TypeId} {sz : Nat} {v : Val} {a x : Value}
    (ht : P.underlying t = some (.slice e)) (hu : (∃ q, P.underlying u = some (.slice q)) ∨ P.underlying u = some .string) (hsz : szOf P e = some sz)
    (ha : VRel γ v a) (hf : ∃ b n c, a = .slice b n c ∧ n ≤ c) (hsrc : Source P sz x 0 [] w) :
    OpOk γ σ w ((valOf (Builtin.append_ #[t, u] ty #[a, x])).run P w) v σ := by
  obtain ⟨i, hi⟩ : ∃ i, P.info? e = some i := by
    cases hq : P.info? e with
    | none => simp [szOf, hq] at hsz
    | some i => exact ⟨i, rfl⟩
  have hisz : i.size = sz := by simpa [szOf, hi] using hsz
  obtain ⟨b, n, c, rfl, hnc⟩ := hf
  subst hisz
  exact ok_val hW (run_app_none ht hi hu hsrc hnc) ha

theorem ok_appR (hW : WInv γ σ w) {t u ty e : TypeId} {sz bytes : Nat} {xv : Val} {ys : List Val} {a x : Value} {v : Val} {news : List Value}
    (ht : P.underlying t = some (.slice e)) (hu : (∃ q, P.underlying u = some (.slice q)) ∨ P.underlying u = some .string) (hsz : szOf P e = some sz) (hby : byOf P e = some bytes)
    (hz : ∃ z, zeroOf P e = some z ∧ z.cells.length = sz) (hys : ∀ y ∈ ys, y.cells.length = sz) (h1sz : 1 ≤ sz)
    (ha : VRel γ xv a) (hsrc : Source P sz x ys.length news w) (hnews : VRels γ (flat ys) news) (hys1 : (flat ys).all Val.one = true) (hy0 : 0 < ys.length)
    (h : appR sz bytes xv ys σ = some (v, σ')) :
    OpOk γ σ w ((valOf (Builtin.append_ #[t, u] ty #[a, x])).run P w) v σ' := by
  have hone : ∀ u ∈ news, u.oneCell' = true := by
    have := hnews.one
    rw [hys1] at this
    exact fun u hu => List.all_eq_true.1 this.symm u hu
  obtain ⟨i, hi⟩ : ∃ i, P.info? e = some i := by
    cases hq : P.info? e with
    | none => simp [szOf, hq] at hsz
    | some i => exact ⟨i, rfl⟩
  have hisz : i.size = sz := by simpa [szOf, hi] using hsz
  have hiby : i.bytes = bytes := by simpa [byOf, hi] using hby
  obtain ⟨zv, hzv, hzl⟩ := hz
  obtain ⟨z, hiz, hzrel⟩ : ∃ z, i.zero = some z ∧ VRel γ zv z := by
    simp only [zeroOf, hi, Option.bind_some, Option.bind_eq_some_iff] at hzv
    obtain ⟨z, h1, h2⟩ := hzv
    exact ⟨z, h1, ofV_rel 4 h2⟩
  have hzsz : z.cells.size = i.size := by
    have := hzrel.cells.length
    simp only [Array.length_toList] at this
    omega
  have hln := hsrc.size
  have hfl := flat_length hys
  -- a new block
  have grow : ∀ (σ1 : Hp) (b : Option Addr) (n c : Nat) (olds : List Value) (vs : List Val), WInv γ σ1 w → Frame γ σ w γ σ1 w → σ1.length = σ.length → a = .slice b n c → Source P sz a n olds w →
      VRels γ vs olds → vs.all Val.one = true → c < n + ys.length → (n + ys.length) * bytes ≤ 1099511627776 → n + ys.length ≤ 1099511627776 →
      OpOk γ σ w ((valOf (Builtin.append_ #[t, u] ty #[a, x])).run P w) (.ref sz σ.length 0 (n + ys.length)) (σ1 ++ [.cells (vs ++ flat ys)]) := by
    intro σ1 b n c olds vs hW1 hF1 hl1 hae ho horel hv1 hgc hb1 hb2
    subst hae hisz hiby
    obtain ⟨cap, hcap, hrun⟩ := run_app_grow ht hi hu (ty := ty) hiz hsrc ho hgc hb2 hb1
    have hlo := ho.size
    have hvl := horel.length
    obtain ⟨h1, h2⟩ := hW1.drew.newRow (vs ++ flat ys) (olds.toArray ++ news.toArray ++ Builtin.zeroCells z.cells (cap - (n + ys.length))) e (by
      have : (olds.toArray ++ news.toArray ++ Builtin.zeroCells z.cells (cap - (n + ys.length))).toList.take (vs ++ flat ys).length = olds ++ news := by
        simp only [Array.toList_append, List.length_append, hfl, hvl, hlo]
        rw [List.take_append_of_le_length (by simp; omega), List.take_of_length_le (by simp; omega)]
      rw [this]
      exact horel.append hnews) (by rw [List.all_append, hv1, hys1]; rfl)
    rw [hl1] at h1 h2
    refine ⟨_, _, .inr ⟨_, run_valOf hrun, ?_⟩, h1, hF1.trans ((Frame.drew γ σ1 w).trans h2)⟩
    have hmul : (n + ys.length) * i.size = n * i.size + ys.length * i.size := Nat.add_mul _ _ _
    have hmul2 : (cap - (n + ys.length)) * i.size = cap * i.size - (n + ys.length) * i.size := Nat.sub_mul _ _ _
    have hmul3 := Nat.mul_le_mul_right i.size hcap
    refine .ref _ _ _ _ _ _ (olds.toArray ++ news.toArray ++ Builtin.zeroCells z.cells (cap - (n + ys.length))).size _ (by simp [Gh.addSiz, Gh.addRef]) (by simp [Gh.addSiz]) hcap ?_ (.inl rfl)
    simp only [Array.size_append, List.size_toArray, zeroCells_size, hzsz, hlo, hln]
    omega
  unfold appR at h
  split at h
  · rename_i s xs o
    split at h
    · rename_i hc
      obtain ⟨c1, c2, c3, c4⟩ := hc
      simp only [Option.some.injEq, Prod.mk.injEq] at h
      obtain ⟨rfl, rfl⟩ := h
      obtain ⟨ha', hnil⟩ := lst_re ha c1
      obtain ⟨olds, ho, horel⟩ := source_lst (P := P) hW ha' (sz := sz) (.inl rfl)
      obtain ⟨b, c, rfl⟩ : ∃ b c, a = .slice b xs.length c := by
        cases ha' with
        | lst s xs o a n c us hn => subst hn; exact ⟨_, _, rfl⟩
      have hcn : c = xs.length := by
        cases ha' with
        | lst _ _ _ _ _ _ us hn hc hss hvv haa ho _ => exact own_full ho c2
      have hx1 : (flat xs).all Val.one = true := by cases ha'; assumption
      have := grow σ b xs.length c olds (flat xs) hW (.refl _ _ _) rfl rfl ho horel hx1 (by omega) c3 c4
      rw [flat_append]
      exact this
    · cases h
  · rename_i s id off n
    split at h
    · rename_i vs hvs
      split at h
      · rename_i hc
        obtain ⟨rfl, rfl, c2, c3, c4⟩ := hc
        simp only [Option.some.injEq, Prod.mk.injEq] at h
        obtain ⟨rfl, rfl⟩ := h
        obtain ⟨olds, ho, horel, hv1⟩ := source_ref (P := P) hW ha hvs (by omega)
        rw [List.drop_zero, List.take_of_length_le (by omega)] at horel
        cases ha with
        | ref _ _ _ _ c b e' o hr hs hc he hoo =>
        by_cases hroom : n + ys.length ≤ c
        · have ho0 : o = 0 := by omega
          subst ho0
          obtain ⟨cur, el, k1, k2⟩ := hW.sizOk id b e' hr hs
          obtain ⟨us, el', k3, k4, k5⟩ := hW.objOk id vs b hvs hr
          rw [k1] at k3
          simp only [Option.some.injEq, Obj.cells.injEq, and_true] at k3
          obtain ⟨rfl, rfl⟩ := k3
          have hmul := Nat.mul_le_mul_right s hroom
          rw [Nat.add_mul] at hmul
          have hfit : 0 + n * s + news.length ≤ cur.size := by omega
          subst hisz
          have hrun := run_app_room ht hi hu (ty := ty) hsrc hroom k1 hfit hone
          simp only [Nat.zero_add] at hrun
          have hk4 := k4.length
          obtain ⟨h1, h2⟩ := hW.setObj id b vs (vs ++ flat ys) cur (cur.toList.take (n * i.size) ++ news ++ cur.toList.drop (n * i.size + news.length)).toArray el hvs hr k1
            (by simp; omega) (by
              show VRels γ _ (List.take _ (cur.toList.take (n * i.size) ++ news ++ cur.toList.drop (n * i.size + news.length)))
              rw [List.take_append_of_le_length (by simp; omega), List.take_of_length_le (by simp; omega), c2]
              exact k4.append hnews) (by rw [List.all_append, hv1, hys1]; rfl)
          have hidl : id < σ.length := (List.getElem?_eq_some_iff.1 hvs).1
          obtain ⟨h3, h4⟩ := h1.rename id b (.cells (vs ++ flat ys)) (by rw [List.getElem?_set_self hidl]) rfl (fun _ => by simp) hr
          rw [List.length_set, List.set_set] at h3 h4
          have hn0 : γ.ref σ.length = none := hW.refNone (Nat.le_refl _)
          obtain ⟨h5, h6⟩ := h3.setSiz σ.length b _ el (by simp [Gh.addRef]) (hW.sizNone hn0) (setRow_heap w b cur _ el (0, 0) k1)
          refine ⟨_, _, .inr ⟨_, run_valOf hrun, ?_⟩, h5, h2.trans (h4.trans h6)⟩
          refine .ref _ _ _ _ _ _ _ _ (by simp [Gh.addSiz, Gh.addRef]) (by simp only [Gh.addSiz, if_true]; rfl) hroom ?_ (.inl rfl)
          simp only [List.size_toArray, List.length_append, List.length_take, List.length_drop, Array.length_toList]
          omega
        · obtain ⟨g1, g2⟩ := hW.kill id b hr
          exact grow (σ.set id .dead) _ n c olds vs g1 g2 (by simp) rfl ho horel hv1 (by omega) c3 c4
      · cases h
    · cases h
  · cases h

end Go.Ev
