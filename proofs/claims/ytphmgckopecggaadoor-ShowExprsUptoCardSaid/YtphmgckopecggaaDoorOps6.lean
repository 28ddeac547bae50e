/- append. -/
import Derived.Test.YtphmgckopecggaaDoorOps5
namespace Go.Ev
set_option linter.unusedSectionVars false
variable [Glob]

variable {P : Program} {γ : Gh} {σ σ' : Hp} {w : World}

/-- What is appended: so many elements, their cells, in whatever world with that heap. -/
structure Source (P : Program) (sz : Nat) (x : Value) (n : Nat) (news : List Value) (w : World) : Prop where
  len : ∀ w', (Builtin.lenOf x).run P w' = .ok n w'
  cells : ∀ w', w'.heap = w.heap → (Builtin.firstCells sz n x).run P w' = .ok news.toArray w'
  size : news.length = n * sz

theorem source_lst (hW : WInv γ σ w) {sz s : Nat} {ys : List Val} {o : Own} {x : Value} (hx : VRel γ (.lst s ys o) x) (hs : s = sz ∨ ys = []) :
    ∃ news, Source P sz x ys.length news w ∧ VRels γ (flat ys) news := by
  cases hx with
  | lst s ys o a n c us hn hc hss hv ha ho h1v =>
    subst hn
    have hlen := hv.length
    have hfl : (flat ys).length = ys.length * sz := by
      rcases hs with rfl | rfl
      · exact flat_length hss
      · simp [flat]
    refine ⟨us, ⟨fun w' => by simp [Builtin.lenOf], fun w' hw' => ?_, by omega⟩, hv⟩
    rcases ha with h0 | ⟨b, off, rfl, hi⟩
    · have : us = [] := List.eq_nil_of_length_eq_zero (by rw [← hlen, hfl, h0, Nat.zero_mul])
      subst this
      cases a with
      | none => simp [Builtin.firstCells]
      | some a => simp [Builtin.firstCells, h0, loadCells, loadCellsFrom]
    · refine run_firstCells_some (P := P) w' sz ys.length ⟨b, off, none⟩ ys.length c us (by omega) (fun j v hj => ?_)
      have hjl : j < us.length := (List.getElem?_eq_some_iff.1 hj).1
      have := hW.imOk _ _ _ ((hi j hjl).trans hj)
      rw [add_at]
      unfold World.cell? at *
      rw [hw']
      exact this

theorem source_str {s : ByteArray} : Source P 1 (.string s) s.size (s.toList.map fun b => Value.int .u8 b.toNat) w where
  len w' := by simp [Builtin.lenOf]
  cells w' _ := by
    simp only [Builtin.firstCells, Sem.run_pure]
    congr 2
    apply Array.ext'
    rw [ByteArray.toList_eq]
    have : s.extract 0 s.size = s := by simp
    rw [this]
    simp
  size := by
    rw [ByteArray.toList_eq, List.length_map, Nat.mul_one]
    rfl

section
variable {t u ty e : TypeId} {i : TypeInfo} (ht : P.underlying t = some (.slice e)) (hi : P.info? e = some i) (hu : (∃ q, P.underlying u = some (.slice q)) ∨ P.underlying u = some .string)
include ht hi hu

theorem run_app_fits {x : Value} {base : Option Addr} {n c m : Nat} (hl : ∀ w', (Builtin.lenOf x).run P w' = .ok m w') (h : n + m ≤ c) :
    (Builtin.append_ #[t, u] ty #[.slice base n c, x]).run P w =
      (do
        let new ← Builtin.firstCells i.size m x
        match base with
        | some a => do
          storeCells (a.add (n * i.size)) new.toList
          pure (.slice base (n + m) c)
        | _ => pure (.slice base (n + m) c) : Sem Value).run P w := by
  have hsz : ∀ w', (sizeOf e).run P w' = .ok i.size w' := fun w' => by simp [sizeOf, typeInfo, hi]
  rcases hu with ⟨q, hu⟩ | hu
  all_goals
    unfold Builtin.append_
    simp only [Sem.run_bind, run_underlying ht, run_underlying hu, Result.andThen_ok, hsz, Sem.run_pure, hl, Bool.false_eq_true, if_false, Bool.not_false, if_true,
      List.getElem?_toArray, List.getElem?_cons_zero, List.getElem?_cons_succ]
    rw [if_pos h]
    rw [Sem.run_bind]
    cases base <;> rfl

theorem run_app_none {x : Value} {base : Option Addr} {n c : Nat} (hs : Source P i.size x 0 [] w) (hnc : n ≤ c) :
    (Builtin.append_ #[t, u] ty #[.slice base n c, x]).run P w = .ok (.slice base n c) w := by
  rw [run_app_fits ht hi hu hs.len (by omega)]
  simp only [Sem.run_bind, hs.cells w rfl, Result.andThen_ok]
  cases base <;> simp [storeCells]

theorem run_app_room {x : Value} {b off n c m : Nat} {news : List Value} {cur : Array Value} {el : TypeId} (hs : Source P i.size x m news w) (hroom : n + m ≤ c)
    (hb : w.heap[b]? = some (.cells cur el (0, 0))) (hfit : off + n * i.size + news.length ≤ cur.size) (h1 : ∀ v ∈ news, v.oneCell' = true) :
    (Builtin.append_ #[t, u] ty #[.slice (some ⟨b, off, none⟩) n c, x]).run P w =
      .ok (.slice (some ⟨b, off, none⟩) (n + m) c) (w.setRow b (cur.toList.take (off + n * i.size) ++ news ++ cur.toList.drop (off + n * i.size + news.length)).toArray) := by
  have hst := run_storeCells_at P b (off + n * i.size) el news 0 cur w hb (by simpa using hfit) h1
  simp only [Nat.add_zero] at hst
  rw [run_app_fits ht hi hu hs.len hroom]
  simp only [Sem.run_bind, hs.cells w rfl, Result.andThen_ok, add_at, hst, Sem.run_pure]

theorem run_app_grow {x z : Value} {base : Option Addr} {n c m : Nat} {olds news : List Value} (hz : i.zero = some z) (hs : Source P i.size x m news w) (ho : Source P i.size (.slice base n c) n olds w)
    (hg : c < n + m) (h63 : n + m ≤ 1099511627776) (hfit : (n + m) * i.bytes ≤ 1099511627776) :
    ∃ cap, n + m ≤ cap ∧ (Builtin.append_ #[t, u] ty #[.slice base n c, x]).run P w =
      .ok (.slice (some ⟨w.heap.size, 0, none⟩) (n + m) cap) (w.drew.alloc (.cells (olds.toArray ++ news.toArray ++ Builtin.zeroCells z.cells (cap - (n + m))) e)) := by
  have hn : ¬ (n + m ≤ c) := by omega
  have h63' : ¬ (((n + m : Nat) : Int) > IntKind.i64.max ∧ i.bytes = 0) := by rw [IntKind.max_i64]; omega
  have h48 := growslice_fits hg (show (n + m) * i.bytes ≤ 140737488355328 by omega)
  have h48' : ¬ (Builtin.nextslicecap (n + m) c * i.bytes > 2 ^ 48) := by omega
  have hti : ∀ w', (typeInfo e).run P w' = .ok i w' := fun w' => by simp [typeInfo, hi]
  have hsz : ∀ w', (sizeOf e).run P w' = .ok i.size w' := fun w' => by simp [sizeOf, hti]
  have hzv : ∀ w', (zeroValue e).run P w' = .ok z w' := fun w' => by simp [zeroValue, hti, hz]
  refine ⟨grownCap w (n + m) c e, by simp only [grownCap, Question.cut]; omega, ?_⟩
  rcases hu with ⟨q, hu⟩ | hu
  all_goals
    unfold Builtin.append_
    simp only [Sem.run_bind, run_underlying ht, run_underlying hu, Result.andThen_ok, hsz, Sem.run_pure, hs.len, Bool.false_eq_true, if_false, Bool.not_false, if_true, false_or,
      List.getElem?_toArray, List.getElem?_cons_zero, List.getElem?_cons_succ]
    rw [if_neg hn]
    simp only [Sem.run_bind, hti, Result.andThen_ok]
    rw [if_neg h63']
    simp only [Sem.run_bind, hti, Result.andThen_ok]
    rw [if_neg h48']
    simp only [Sem.run_bind, hti, Result.andThen_ok, run_choose, Question.forced, Bool.false_eq_true, if_false, run_askRoom, World.drew_eq, ho.cells w.drew rfl, hs.cells w.drew rfl, hzv, newRow, run_newObj, Sem.run_pure]
    rfl
end

theorem zeroCells_size (z : Array Value) (n : Nat) : (Builtin.zeroCells z n).size = n * z.size := by simp [Builtin.zeroCells]

theorem own_full {sz n c : Nat} {o : Own} {a : Option Addr} (ho : OwnOk γ sz o a n c) (h : o = .nil ∨ o = .full ∨ o = .mine) : c = n := by
  rcases h with rfl | rfl | rfl
  · obtain ⟨_, rfl, rfl⟩ := ho; rfl
  · exact ho.2
  · exact ho.1

theorem ok_app (hW : WInv γ σ w) {t u ty e : TypeId} {s sz bytes : Nat} {xs ys : List Val} {o : Own} {a x : Value} {v : Val} {news : List Value}
    (ht : P.underlying t = some (.slice e)) (hu : (∃ q, P.underlying u = some (.slice q)) ∨ P.underlying u = some .string) (hsz : szOf P e = some sz) (hby : byOf P e = some bytes)
    (hz : ∃ z, zeroOf P e = some z ∧ z.cells.length = sz) (hxs : s = sz ∨ o = .nil) (hys : ∀ y ∈ ys, y.cells.length = sz)
    (ha : VRel γ (.lst s xs o) a) (hsrc : Source P sz x ys.length news w) (hnews : VRels γ (flat ys) news) (hys1 : (flat ys).all Val.one = true)
    (h : (ys = [] ∧ v = .lst s xs o ∧ σ' = σ) ∨ (0 < ys.length ∧ appL sz bytes xs o ys σ = some (v, σ'))) :
    OpOk γ σ w ((valOf (Builtin.append_ #[t, u] ty #[a, x])).run P w) v σ' := by
  have hone : ∀ u ∈ news, u.oneCell' = true := by
    have := hnews.one
    rw [hys1] at this
    exact fun u hu => List.all_eq_true.1 this.symm u hu
  have hxs1 : (flat xs).all Val.one = true := by cases ha; assumption
  obtain ⟨i, hi⟩ : ∃ i, P.info? e = some i := by
    cases hq : P.info? e with
    | none => simp [szOf, hq] at hsz
    | some i => exact ⟨i, rfl⟩
  have hisz : i.size = sz := by simpa [szOf, hi] using hsz
  have hiby : i.bytes = bytes := by simpa [byOf, hi] using hby
  obtain ⟨zv, hzv, hzl⟩ := hz
  obtain ⟨z, hiz, hzrel⟩ : ∃ z, i.zero = some z ∧ VRel γ zv z := by
    simp only [zeroOf, hi, Option.bind_some, Option.bind_eq_some_iff] at hzv
    obtain ⟨z, h1, h2⟩ := hzv
    exact ⟨z, h1, ofV_rel 4 h2⟩
  have hzsz : z.cells.size = i.size := by
    have := hzrel.cells.length
    simp only [Array.length_toList] at this
    omega
  obtain ⟨ad, n, c, rfl⟩ : ∃ ad n c, a = .slice ad n c := by cases ha; exact ⟨_, _, _, rfl⟩
  have hnc : n = xs.length ∧ n ≤ c := by cases ha; exact ⟨by assumption, by assumption⟩
  obtain ⟨hnx, hnc⟩ := hnc
  rcases h with ⟨rfl, rfl, rfl⟩ | ⟨hysl, h⟩
  · have hn0 : news = [] := List.eq_nil_of_length_eq_zero (by have := hsrc.size; simpa using this)
    subst hn0
    subst hisz
    exact ok_val hW (run_app_none ht hi hu hsrc hnc) ha
  · have hbd : (xs.length + ys.length) * bytes ≤ 1099511627776 ∧ xs.length + ys.length ≤ 1099511627776 ∧
        (((o = .nil ∨ o = .full ∨ o = .mine) ∧ v = .lst sz (xs ++ ys) (.tail σ.length 0) ∧ σ' = σ ++ [.tok 0]) ∨
          ∃ k lab, o = .tail k lab ∧ σ[k]? = some (.tok lab) ∧ v = .lst sz (xs ++ ys) (.tail k (lab + 1)) ∧ σ' = σ.set k (.tok (lab + 1))) := by
      unfold appL at h
      split at h
      · simp at hysl
      · split at h
        · rename_i hc
          refine ⟨hc.1, hc.2, ?_⟩
          split at h
          · simp only [Option.some.injEq, Prod.mk.injEq] at h
            exact .inl ⟨.inl rfl, h.1.symm, h.2.symm⟩
          · simp only [Option.some.injEq, Prod.mk.injEq] at h
            exact .inl ⟨.inr (.inl rfl), h.1.symm, h.2.symm⟩
          · simp only [Option.some.injEq, Prod.mk.injEq] at h
            exact .inl ⟨.inr (.inr rfl), h.1.symm, h.2.symm⟩
          · rename_i k lab
            split at h
            · rename_i l hk
              split at h
              · rename_i hll
                subst hll
                simp only [Option.some.injEq, Prod.mk.injEq] at h
                exact .inr ⟨_, _, rfl, hk, h.1.symm, h.2.symm⟩
              · cases h
            · cases h
          · cases h
        · cases h
    clear h
    obtain ⟨hbd1, hbd2, hcase⟩ := hbd
    obtain ⟨ha', hnil⟩ := lst_re ha hxs
    have hxss : ∀ x ∈ xs, x.cells.length = sz := by
      cases ha'; assumption
    have hall : ∀ x ∈ xs ++ ys, x.cells.length = sz := by
      intro q hq
      rw [List.mem_append] at hq
      rcases hq with hq | hq
      · exact hxss q hq
      · exact hys q hq
    -- the row that grows into a new block
    have grow : ∀ (k lab : Nat), Marks σ σ' k lab → (∀ l x, γ.tok k l = some x → l < lab) → c < n + ys.length → v = .lst sz (xs ++ ys) (.tail k lab) →
        OpOk γ σ w ((valOf (Builtin.append_ #[t, u] ty #[.slice ad n c, x])).run P w) v σ' := by
      intro k lab hm hno hgc hv
      subst hv
      obtain ⟨olds, ho, horel⟩ := source_lst (P := P) hW ha (sz := sz) (by rcases hxs with h | h; exact .inl h; exact .inr (hnil h))
      rw [← hnx] at ho
      subst hisz hiby
      obtain ⟨cap, hcap, hrun⟩ := run_app_grow ht hi hu (ty := ty) hiz hsrc ho hgc (by omega) (by rw [hnx]; exact hbd1)
      have hlo := ho.size
      have hln := hsrc.size
      obtain ⟨h1, h2⟩ := hW.drew.newTok hm hno (olds ++ news) (olds.toArray ++ news.toArray ++ Builtin.zeroCells z.cells (cap - (n + ys.length))) e (fun j u hj => by
        have hjl : j < (olds ++ news).length := (List.getElem?_eq_some_iff.1 hj).1
        rw [Array.getElem?_append_left (by simpa using hjl)]
        simpa using hj)
      refine ⟨_, _, .inr ⟨_, run_valOf hrun, ?_⟩, h1, (Frame.drew γ σ w).trans h2⟩
      have hmul : (n + ys.length) * i.size = n * i.size + ys.length * i.size := Nat.add_mul _ _ _
      refine .lst _ _ _ _ _ _ (olds ++ news) (by simp [hnx]) hcap hall ?_ (.inr ⟨_, _, rfl, addIm_zero _ _ _⟩) ?_ (by rw [flat_append, List.all_append, hxs1, hys1]; rfl)
      · rw [flat_append]
        exact (horel.append hnews).ext h2.ext
      · refine ⟨by simp, .inr ?_⟩
        refine ⟨w.heap.size, 0, (olds.toArray ++ news.toArray ++ Builtin.zeroCells z.cells (cap - (n + ys.length))).size, rfl, ?_, ?_⟩
        · show (if k = k ∧ lab = lab then some (w.heap.size, (olds ++ news).length, (olds.toArray ++ news.toArray ++ Builtin.zeroCells z.cells (cap - (n + ys.length))).size) else _) = _
          rw [if_pos ⟨rfl, rfl⟩]
          congr 3
          rw [List.length_append, hlo, hln]
          omega
        · have hmul2 : (cap - (n + ys.length)) * i.size = cap * i.size - (n + ys.length) * i.size := Nat.sub_mul _ _ _
          have hmul3 := Nat.mul_le_mul_right i.size hcap
          simp only [Array.size_append, List.size_toArray, zeroCells_size, hzsz, hlo, hln]
          omega
    rcases hcase with ⟨ho3, hv, rfl⟩ | ⟨k, lab, rfl, hk, hv, rfl⟩
    · refine grow σ.length 0 (marks_new σ) (fun l x hx => ?_) ?_ hv
      · have := hW.tokLt _ _ _ hx; omega
      · have hcn : c = n := by
          cases ha with
          | lst _ _ _ _ _ _ us hn hc hss hvv haa ho _ => exact own_full ho ho3
        omega
    · have hse : s = sz := by rcases hxs with h | h; exact h; exact absurd h (by simp)
      subst hse
      by_cases hroom : n + ys.length ≤ c
      · cases ha with
        | lst _ _ _ _ _ _ us hn hc hss hvv haa ho _ =>
        simp only [OwnOk] at ho
        obtain ⟨_, ho⟩ := ho
        rcases ho with ho | ⟨b, off, en, rfl, htk, hen⟩
        · omega
        · subst hv
          obtain ⟨t1, ⟨cur, el, t2, t3⟩, t4, t5⟩ := hW.tokOk k lab b _ en hk htk
          have hln := hsrc.size
          have hmul := Nat.mul_le_mul_right s hroom
          rw [Nat.add_mul] at hmul
          subst hisz
          have hfit : off + n * i.size + news.length ≤ cur.size := by omega
          have hrun := run_app_room ht hi hu (ty := ty) hsrc hroom t2 hfit hone
          have hpl : (cur.toList.take (off + n * i.size)).length = off + n * i.size := by simp; omega
          obtain ⟨h1, h2⟩ := hW.growTok k lab b (off + n * i.size) en news cur (cur.toList.take (off + n * i.size) ++ news ++ cur.toList.drop (off + n * i.size + news.length)).toArray el hk htk t2
            (by simp; omega) (fun j u hj => by
              have hjl : j < news.length := (List.getElem?_eq_some_iff.1 hj).1
              simp only [List.getElem?_toArray]
              rw [List.append_assoc, List.getElem?_append_right (by omega), List.getElem?_append_left (by omega), hpl]
              rw [show off + n * i.size + j - (off + n * i.size) = j by omega]
              exact hj) (fun j hj => by
              simp only [List.getElem?_toArray]
              rw [List.append_assoc, List.getElem?_append_left (by omega), List.getElem?_take, if_pos hj]
              simp)
          refine ⟨_, _, .inr ⟨_, run_valOf hrun, ?_⟩, h1, h2⟩
          have hul : us.length = n * i.size := by rw [← hvv.length, flat_length hss, hn]
          refine .lst _ _ _ _ _ _ (us ++ news) (by simp [hn]) hroom hall ?_ (.inr ⟨b, off, rfl, fun j hj => ?_⟩) ?_ (by rw [flat_append, List.all_append, hxs1, hys1]; rfl)
          · rw [flat_append]
            exact (hvv.append hnews).ext h2.ext
          · simp only [List.length_append] at hj
            by_cases hju : j < us.length
            · rw [List.getElem?_append_left hju]
              simp only [Gh.addTok, Gh.addIm]
              rw [if_neg (by omega)]
              rcases haa with h0 | ⟨b', off', hbe, hi'⟩
              · rw [hul, h0, Nat.zero_mul] at hju; omega
              · simp only [Option.some.injEq, Addr.mk.injEq, and_true] at hbe
                obtain ⟨rfl, rfl⟩ := hbe
                exact hi' j hju
            · rw [List.getElem?_append_right (by omega)]
              simp only [Gh.addTok, Gh.addIm]
              rw [if_pos ⟨trivial, by omega, by omega⟩]
              congr 1
              omega
          · refine ⟨by simp, .inr ?_⟩
            refine ⟨b, off, en, rfl, ?_, hen⟩
            simp only [Gh.addTok, and_self, if_true]
            rw [Nat.add_mul]
            congr 3
            omega
      · refine grow k (lab + 1) (marks_set σ k lab (lab + 1) hk) (fun l' x hx => ?_) (by omega) hv
        have := hW.tokOld _ _ _ _ hk hx; omega

end Go.Ev
