/- make, maps, and the mark on a literal. -/
import Derived.Test.YtphmgckopecggaaDoorOpsR
import Derived.MapKept
import Derived.Laws.MakeOwn
namespace Go.Ev
open Go.MapKept
set_option linter.unusedSectionVars false
variable [Glob]

variable {P : Program} {γ : Gh} {σ σ' : Hp} {w : World}

/-! a literal is marked -/

theorem freeze_other (w : World) (a : Addr) (n c : Nat) (h : c ≠ a.block) : (w.freeze a n).heap[c]? = w.heap[c]? := by
  unfold World.freeze
  split
  · rfl
  · show (w.heap.modify _ _)[c]? = _
    rw [Array.getElem?_modify]
    rw [if_neg (Ne.symm h)]

theorem freeze_cells (w : World) (a : Addr) (n : Nat) {us : Array Value} {e : TypeId} {fr : Nat × Nat} (h : w.heap[a.block]? = some (.cells us e fr)) :
    ∃ fr', (w.freeze a n).heap[a.block]? = some (.cells us e fr') := by
  unfold World.freeze
  split
  · exact ⟨fr, h⟩
  · show ∃ fr', (w.heap.modify _ _)[a.block]? = _
    rw [Array.getElem?_modify, if_pos rfl, h]
    exact ⟨_, rfl⟩

theorem freeze_size (w : World) (a : Addr) (n : Nat) : (w.freeze a n).heap.size = w.heap.size := by
  unfold World.freeze
  split
  · rfl
  · simp

theorem WInv.freezeLit (h : WInv γ σ w) (b o n : Nat) (hl : γ.lit b) : WInv γ σ (w.freeze ⟨b, o, none⟩ n) ∧ Frame γ σ w γ σ (w.freeze ⟨b, o, none⟩ n) := by
  obtain ⟨l1, l2, l3⟩ := h.litOk b hl
  have hoth : ∀ c, c ≠ b → (w.freeze ⟨b, o, none⟩ n).heap[c]? = w.heap[c]? := fun c hc => freeze_other w _ n c hc
  have hsz := freeze_size w ⟨b, o, none⟩ n
  have hw : ∀ (P : World → Prop), P (w.freeze ⟨b, o, none⟩ n) → P (w.freeze ⟨b, o, none⟩ n) := fun _ h => h
  refine ⟨?_, ?_⟩
  · constructor
    case imOk =>
      intro c i u hu
      have h1 := h.imOk c i u hu
      by_cases hc : c = b
      · subst hc
        unfold World.cell? at *
        cases hb : w.heap[c]? with
        | none => rw [hb] at h1; cases h1
        | some ob =>
          cases ob <;> rw [hb] at h1 <;> try (cases h1; done)
          obtain ⟨fr', hf⟩ := freeze_cells w ⟨c, o, none⟩ n hb
          rw [hf]
          exact h1
      · unfold World.cell? at *
        rw [hoth c hc]
        exact h1
    case objOk =>
      intro i vs c h1 h2
      obtain ⟨us, e, k1, k2⟩ := h.objOk i vs c h1 h2
      exact ⟨us, e, by rw [hoth c (fun hc => l2 i (hc ▸ h2))]; exact k1, k2⟩
    case mapOk =>
      intro i vs c h1 h2
      obtain ⟨us, e, k1, k2⟩ := h.mapOk i vs c h1 h2
      exact ⟨us, e, by rw [hoth c (fun hc => l2 i (hc ▸ h2))]; exact k1, k2⟩
    case sizOk =>
      intro i c e h1 h2
      obtain ⟨us, el, k1, k2⟩ := h.sizOk i c e h1 h2
      exact ⟨us, el, by rw [hoth c (fun hc => l2 i (hc ▸ h1))]; exact k1, k2⟩
    case sizRef => exact h.sizRef
    case glob => exact h.globTo (fun c _ hc => hoth c (fun hcb => hc (hcb ▸ l1))) (fun c hc => .inl hc)
    case litOk => exact h.litOk
    case refInj => exact h.refInj
    case refIm => exact h.refIm
    case refOwn => exact h.refOwn
    case refLt => exact h.refLt
    case tokOk =>
      intro k lab c f e h1 h2
      obtain ⟨k1, ⟨us, el, k2, k3⟩, k4, k5⟩ := h.tokOk k lab c f e h1 h2
      exact ⟨k1, ⟨us, el, by rw [hoth c (fun hc => l3 _ _ _ h2 hc)]; exact k2, k3⟩, k4, k5⟩
    case tokInj => exact h.tokInj
    case tokOwn => exact h.tokOwn
    case tokLt => exact h.tokLt
    case tokOld => exact h.tokOld
    case ownLt => intro c hc; rw [hsz]; exact h.ownLt c hc
  · refine ⟨.refl γ, ?_, ?_, ?_, by omega, fun c _ hc => hoth c (fun hcb => hc (hcb ▸ l1)), fun c hc => .inl hc, Nat.le_refl _, fun _ _ h k => ⟨h, k⟩, fun _ _ _ h _ _ => h⟩
    all_goals (unfold World.freeze; split <;> rfl)

theorem ok_mark (hW : WInv γ σ w) {s e : TypeId} {xs : List Val} {u : Value} (hs : P.underlying s = some (.slice e)) (he : P.underlying e = some (.int .u8))
    (hx : VRel γ (.lst 1 xs .mine) u) : OpOk γ σ w ((valOf (convert s s u)).run P w) (.lst 1 xs .mine) σ := by
  have hx0 := hx
  cases hx with
  | lst sz xs o a n c us hn hc hss hv ha ho h1v =>
    obtain ⟨rfl, b, rfl, hl⟩ := ho
    have hrun : ∀ w', (markStringish ⟨b, 0, none⟩).run P w = .ok () w' → (convert s s (.slice (some ⟨b, 0, none⟩) c c)).run P w = .ok (.slice (some ⟨b, 0, none⟩) c c) w' := by
      intro w' hm
      simp [convert, run_underlying hs, run_underlying he, hm]
    unfold markStringish at hrun
    simp only [Sem.run_bind, run_shape, Result.andThen_ok] at hrun
    cases hq : w.shape? b with
    | none =>
      rw [hq] at hrun
      exact ok_val hW (hrun w (by simp)) hx0
    | some q =>
      obtain ⟨t0, m⟩ := q
      rw [hq] at hrun
      obtain ⟨h1, h2⟩ := hW.freezeLit b m 1 hl
      exact ⟨γ, _, .inr ⟨_, run_valOf (hrun _ (by rw [run_freeze])), hx0⟩, h1, h2⟩

/-! make -/

theorem madeCells_size (z : Array Value) (n : Nat) : (madeCells z n).size = n := by simp [madeCells]

theorem ok_mkSl (hW : WInv γ σ w) {t e : TypeId} {ref : Bool} {sz bytes : Nat} {z : Val} {n c v : Val} {nu cu : Value}
    (hu : P.underlying t = some (.slice e)) (hsz : szOf P e = some sz) (hby : byOf P e = some bytes) (hz : zeroOf P e = some z) (hzl : z.cells.length = sz) (h1sz : 1 ≤ sz) (hone : allOne z.cells = true)
    (hn : VRel γ n nu) (hc : VRel γ c cu) (h : mkSlV ref sz bytes z.cells n c σ = some (v, σ')) :
    OpOk γ σ w ((valOf (Instr.makeSlice t nu cu)).run P w) v σ' := by
  obtain ⟨i, hi⟩ : ∃ i, P.info? e = some i := by
    cases hq : P.info? e with
    | none => simp [szOf, hq] at hsz
    | some i => exact ⟨i, rfl⟩
  have hisz : i.size = sz := by simpa [szOf, hi] using hsz
  have hiby : i.bytes = bytes := by simpa [byOf, hi] using hby
  obtain ⟨zu, hiz, hzrel⟩ : ∃ zu, i.zero = some zu ∧ VRel γ z zu := by
    simp only [zeroOf, hi, Option.bind_some, Option.bind_eq_some_iff] at hz
    obtain ⟨zu, h1, h2⟩ := hz
    exact ⟨zu, h1, ofV_rel 4 h2⟩
  have hzsz : zu.cells.size = sz := by
    have := hzrel.cells.length
    simp only [Array.length_toList] at this
    omega
  unfold mkSlV at h
  split at h
  · rename_i k1 n k2 c
    split at h
    · rename_i hcd
      obtain ⟨q1, q2, q3, q4⟩ := hcd
      cases hn; cases hc
      obtain ⟨m, rfl⟩ := Int.eq_ofNat_of_zero_le q1
      obtain ⟨d, rfl⟩ := Int.eq_ofNat_of_zero_le (show 0 ≤ c by omega)
      simp only [Int.toNat_natCast] at h q3
      have hrun := run_make (P := P) w t e i zu hu hi hiz k1 k2 (m : Int) (d : Int) (by omega) q2 (by
        rw [hiby]
        have : ((d * bytes : Nat) : Int) ≤ 1099511627776 := Int.ofNat_le.2 q3
        rw [Int.natCast_mul] at this
        rw [Int.mul_comm]
        omega) (by omega)
      simp only [Int.toNat_natCast] at hrun
      have hmd : m ≤ d := by omega
      rw [hisz] at hrun
      split at h
      · rename_i h0
        obtain ⟨h0, rfl⟩ := h0
        obtain rfl : m = 0 := by omega
        simp only [Option.some.injEq, Prod.mk.injEq] at h
        obtain ⟨rfl, rfl⟩ := h
        obtain ⟨g1, g2⟩ := hW.newTok (marks_new σ) (fun l x hx => by have := hW.tokLt _ _ _ hx; omega) [] (madeCells zu.cells (d * sz)) e (fun j u hj => by simp at hj)
        refine ⟨_, _, .inr ⟨_, run_valOf hrun, ?_⟩, g1, g2⟩
        refine .lst _ _ _ _ _ _ [] rfl hmd (by simp) .nil (.inl rfl) ⟨by simp, .inr ⟨w.heap.size, 0, d * sz, rfl, ?_, by omega⟩⟩ rfl
        simp [Gh.addTok, madeCells_size]
      · simp only [Option.some.injEq, Prod.mk.injEq] at h
        obtain ⟨rfl, rfl⟩ := h
        have hzr := zeros_rel hzrel.cells (by omega) m
        rw [hzsz] at hzr
        have hmz : m * sz ≤ d * sz := Nat.mul_le_mul_right _ hmd
        have htk : (madeCells zu.cells (d * sz)).toList.take (repZ m z.cells).length = (List.range (m * sz)).map fun j => zu.cells[j % zu.cells.size]! := by
          rw [hzr.length]
          simp only [List.length_map, List.length_range, madeCells, Array.toList_map, Array.toList_range, hzsz]
          rw [← List.map_take, List.take_range, Nat.min_eq_left hmz]
        have hrone : (repZ m z.cells).all Val.one = true := by
          rw [List.all_eq_true]
          intro x hx
          simp only [repZ, List.mem_flatten, List.mem_replicate] at hx
          obtain ⟨l, ⟨_, rfl⟩, hx⟩ := hx
          exact List.all_eq_true.1 hone x hx
        obtain ⟨g1, g2⟩ := hW.newRow (repZ m z.cells) (madeCells zu.cells (d * sz)) e (by rw [htk, hzsz]; exact hzr) hrone
        refine ⟨_, _, .inr ⟨_, run_valOf hrun, ?_⟩, g1, g2⟩
        exact .ref _ _ _ _ _ _ (d * sz) _ (by simp [Gh.addSiz, Gh.addRef]) (by simp [Gh.addSiz, madeCells_size]) hmd (by omega) (.inl rfl)
    · cases h
  · cases h

/-! maps -/

theorem ok_mkMap (hW : WInv γ σ w) {t : TypeId} : OpOk γ σ w ((valOf (Instr.makeMap t none)).run P w) (.map (some σ.length)) (σ ++ [.map []]) := by
  obtain ⟨h1, h2⟩ := hW.newAt (.map []) (.map #[] 0) (fun vs hv => by cases hv) (fun es he => by
    simp only [HObj.map.injEq] at he
    subst he
    exact ⟨_, _, rfl, .nil, .nil⟩)
  exact ⟨_, _, .inr ⟨_, run_valOf rfl, .map _ _ (by simp [Gh.addRef])⟩, h1, h2⟩

inductive KTy (P : Program) (t : TypeId) : Option IntKind → TypeDesc → Prop
  | int (k : IntKind) (h : P.underlying t = some (.int k)) : KTy P t (some k) (.int k)
  | str (h : P.underlying t = some .string) : KTy P t none .string

theorem keyTy_spec {t : TypeId} {kt : Option IntKind} (h : keyTy P t = some kt) : ∃ d, P.underlying t = some d ∧ KTy P t kt d := by
  unfold keyTy at h
  split at h
  · rename_i k hk; simp at h; subst h; exact ⟨_, hk, .int k hk⟩
  · rename_i hk; simp at h; subst h; exact ⟨_, hk, .str hk⟩
  · cases h

theorem key_isKey {t : TypeId} {kt : Option IntKind} {d : TypeDesc} {k : Val} {u : Value} (ht : KTy P t kt d) (hk : keyOk kt k = true) (h : VRel γ k u) : IsKey d u := by
  cases ht <;> cases h <;> simp [keyOk] at hk
  · simpa [IsKey] using hk
  · simp [IsKey]

theorem findM_run {d : TypeDesc} {kt : Option IntKind} {t : TypeId} (ht : KTy P t kt d) {k : Val} {u : Value} (hk : keyOk kt k = true) (hu : VRel γ k u) :
    ∀ {es : List (Val × Val)} {us : List MapEntry} (i : Nat) {r : Option (Nat × Val)}, ERel γ es us → findM k es i = some r →
      match r with
      | none => Instr.findNow d u us i = some none
      | some (j, v) => ∃ x, Instr.findNow d u us i = some (some (j, x)) ∧ VRel γ v x ∧ i ≤ j ∧ ∃ e, us[j - i]? = some e ∧ e.key = u
  | [], us, i, r, he, h => by
    simp [findM] at h; subst h
    have : us = [] := by
      have := he.1.length
      exact List.eq_nil_of_length_eq_zero (by simpa using this.symm)
    subst this
    rfl
  | (x, v) :: es, us, i, r, he, h => by
    match us, he with
    | [], he => have := he.1.length; simp at this
    | e :: us, he =>
      obtain ⟨he1, he2⟩ := he
      simp only [List.map_cons] at he1 he2
      cases he1 with
      | cons a1 a2 =>
      cases he2 with
      | cons b1 b2 =>
      simp only [findM] at h
      have hsame : ∀ q, keyEq k x = some q → Instr.sameNow d u e.key = some q ∧ (q = true → e.key = u) := by
        intro q hq
        unfold keyEq at hq
        split at hq
        · rename_i k1 a k2 b
          split at hq
          · rename_i hkk
            subst hkk
            simp only [Option.some.injEq] at hq
            cases hu
            generalize e.key = ek at a1 ⊢
            cases a1
            cases ht <;> simp [keyOk] at hk
            subst hk
            subst hq
            exact ⟨by simp [Instr.sameNow], by simp; intro h; exact h.symm⟩
          · cases hq
        · rename_i a b
          simp only [Option.some.injEq] at hq
          cases hu
          generalize e.key = ek at a1 ⊢
          cases a1
          cases ht <;> simp [keyOk] at hk
          subst hq
          exact ⟨by simp [Instr.sameNow], by simp [bytes_beq]; intro h; exact h.symm⟩
        · cases hq
      split at h
      · rename_i hq
        obtain ⟨s1, s2⟩ := hsame _ hq
        simp at h; subst h
        exact ⟨e.val, by simp [Instr.findNow, s1], b1, Nat.le_refl _, e, by simp, s2 rfl⟩
      · rename_i hq
        obtain ⟨s1, s2⟩ := hsame _ hq
        have ih := findM_run ht hk hu (i + 1) ⟨a2, b2⟩ h
        cases r with
        | none => simpa [Instr.findNow, s1] using ih
        | some jv =>
          obtain ⟨j, v'⟩ := jv
          obtain ⟨y, i1, i2, i3, e', i4, i5⟩ := ih
          refine ⟨y, by simpa [Instr.findNow, s1] using i1, i2, by omega, e', ?_, i5⟩
          rw [show j - i = (j - (i + 1)) + 1 by omega]
          simpa using i4
      · cases h

theorem ok_lookup (hW : WInv γ σ w) {t q e : TypeId} {kt : Option IntKind} {zero : Val} {ok : Bool} {m k v : Val} {mu ku : Value}
    (hu : P.underlying t = some (.map q e)) (hk : keyTy P q = some kt) (hz : zeroOf P e = some zero) (hm : VRel γ m mu) (hku : VRel γ k ku) (h : lookV kt zero ok m k σ = some v) :
    OpOk γ σ w ((valOf (Instr.lookup t mu ku ok)).run P w) v σ := by
  obtain ⟨d, hd, hkt⟩ := keyTy_spec hk
  obtain ⟨zu, z1, z2⟩ := zeroOf_run (γ := γ) (w := w) hz
  unfold lookV at h
  split at h
  · rename_i hko
    have hisk := key_isKey hkt hko hku
    have fin : ∀ (es : Array MapEntry) (x : Val) (b : Bool) (xu : Value), VRel γ x xu → (match (some (if ok then .tuple [x, .bool b] else x) : Option Val) with | some r => r | none => x) = v →
        ∀ s : Sem Value, s.run P w = .ok (if ok then .tuple #[xu, .bool b] else xu) w → OpOk γ σ w ((valOf s).run P w) v σ := by
      intro es x b xu hx hv s hs
      simp only at hv
      subst hv
      refine ok_val hW hs ?_
      cases ok
      · exact hx
      · exact .tuple _ _ (.cons hx (.cons (.bool _) .nil))
    split at h
    · cases hm
      simp only [Option.some.injEq] at h
      refine fin #[] zero false zu z2 h _ ?_
      simp [Instr.lookup, run_underlying hu, run_checkKey hd hisk, run_findKey hd (show Instr.findNow d ku [] 0 = some none from rfl), z1]
    · rename_i i
      split at h
      · rename_i es hi
        cases hm with
        | map _ b hr =>
        obtain ⟨us, clock, m1, m2⟩ := hW.mapOk i es b hi hr
        split at h
        · rename_i j x hf
          obtain ⟨xu, f1, f2, _⟩ := findM_run hkt hko hku 0 m2 hf
          simp only [Option.some.injEq] at h
          refine fin us x true xu f2 h _ ?_
          simp [Instr.lookup, run_underlying hu, run_getObj_map m1, run_checkKey hd hisk, run_findKey hd f1]
        · rename_i hf
          have f1 := findM_run hkt hko hku 0 m2 hf
          simp only [Option.some.injEq] at h
          refine fin us zero false zu z2 h _ ?_
          simp [Instr.lookup, run_underlying hu, run_getObj_map m1, run_checkKey hd hisk, run_findKey hd f1, z1]
        · cases h
      · cases h
    · cases h
  · cases h

theorem setBlk_heap (w : World) (b : Nat) (o : Obj) {x : Obj} (h : w.heap[b]? = some x) : (w.heap.setIfInBounds b o)[b]? = some o := by
  have : b < w.heap.size := (Array.getElem?_eq_some_iff.1 h).1
  simp [this]
theorem setBlk_other (w : World) (b c : Nat) (o : Obj) (h : c ≠ b) : (w.heap.setIfInBounds b o)[c]? = w.heap[c]? := by
  rw [Array.getElem?_setIfInBounds, if_neg (Ne.symm h)]

/-- A map is written. -/
theorem WInv.setMap (h : WInv γ σ w) (i b : Nat) (es es' : List (Val × Val)) (us us' : Array MapEntry) (c c' : Nat) (hi : σ[i]? = some (.map es)) (hr : γ.ref i = some b)
    (hb : w.heap[b]? = some (.map us c)) (hv : ERel γ es' us'.toList) :
    WInv γ (σ.set i (.map es')) { w with heap := w.heap.setIfInBounds b (.map us' c') } ∧ Frame γ σ w γ (σ.set i (.map es')) { w with heap := w.heap.setIfInBounds b (.map us' c') } :=
  h.setAt i b (.map es) (.map es') (.map us' c') hi rfl (fun _ => by simp) hr (setBlk_heap w b _ hb) (fun c hc => setBlk_other w b c _ hc) (by simp) rfl rfl rfl
    (fun vs hv' => by cases hv') (fun es'' he => by
      obtain rfl : es' = es'' := by simpa using he
      exact ⟨us', c', rfl, hv⟩) (fun us0 el h0 => by rw [hb] at h0; cases h0)

theorem ok_mapSet (hW : WInv γ σ w) {t q e : TypeId} {kt : Option IntKind} {m k x : Val} {mu ku xu : Value}
    (hu : P.underlying t = some (.map q e)) (hk : keyTy P q = some kt) (hm : VRel γ m mu) (hku : VRel γ k ku) (hx : VRel γ x xu) (h : mapSetV kt m k x σ = some σ') :
    OpOk γ σ w ((unitOf (Instr.mapUpdate t mu ku xu)).run P w) .undef σ' := by
  obtain ⟨d, hd, hkt⟩ := keyTy_spec hk
  unfold mapSetV at h
  split at h
  · rename_i hko
    have hisk := key_isKey hkt hko hku
    split at h
    · rename_i i
      split at h
      · rename_i es hi
        cases hm with
        | map _ b hr =>
        obtain ⟨us, clock, m1, m2⟩ := hW.mapOk i es b hi hr
        split at h
        · rename_i j y hf
          obtain ⟨yu, f1, f2, _, e0, f3, f4⟩ := findM_run hkt hko hku 0 m2 hf
          simp only [Option.some.injEq] at h
          subst h
          simp only [Nat.sub_zero] at f3
          have hj : j < us.toList.length := (List.getElem?_eq_some_iff.1 f3).1
          have hstay : (Instr.keyThatStays ku ku).run P w = .ok ku w := by
            have : Instr.sameBits 10000 ku ku = true := by
              cases d <;> cases ku <;> simp_all [IsKey, Instr.sameBits, bytes_beq]
            simp [Instr.keyThatStays, this]
          have hkey : ((us[j]?).map (·.key)).getD ku = ku := by
            have : us[j]? = some e0 := by simpa using f3
            rw [this]; exact f4
          obtain ⟨g1, g2⟩ := hW.setMap i b es (es.set j (k, x)) us (us.modify j fun e => { e with key := ku, val := xu }) clock clock hi hr m1 (by
            have hel : es.length = us.toList.length := by have := m2.1.length; simpa using this
            have e1 : (us.modify j fun e => { e with key := ku, val := xu }).toList = us.toList.set j { e0 with key := ku, val := xu } := by
              apply List.ext_getElem?
              intro n
              simp only [Array.getElem?_toList, Array.getElem?_modify, List.getElem?_set]
              split
              · rename_i hn
                subst hn
                have : us[j]? = some e0 := by simpa using f3
                rw [this]
                simp at hj
                simp
              · rfl
            rw [e1]
            refine ⟨?_, ?_⟩
            · rw [List.map_set, List.map_set]
              exact VRels.set m2.1 j hku
            · rw [List.map_set, List.map_set]
              exact VRels.set m2.2 j hx)
          refine ⟨_, _, .inl ⟨rfl, run_unitOf ?_⟩, g1, g2⟩
          simp [Instr.mapUpdate, run_underlying hu, run_getObj_map m1, run_checkKey hd hisk, run_findKey hd f1, hkey, hstay, run_setObj_map _ m1]
        · rename_i hf
          have f1 := findM_run hkt hko hku 0 m2 hf
          simp only [Option.some.injEq] at h
          subst h
          obtain ⟨g1, g2⟩ := hW.setMap i b es (es ++ [(k, x)]) us (us.push { key := ku, val := xu, born := clock }) clock (clock + 1) hi hr m1 (by
            refine ⟨?_, ?_⟩
            · simp only [List.map_append, Array.toList_push]
              exact m2.1.append (.cons hku .nil)
            · simp only [List.map_append, Array.toList_push]
              exact m2.2.append (.cons hx .nil))
          refine ⟨_, _, .inl ⟨rfl, run_unitOf ?_⟩, g1, g2⟩
          simp [Instr.mapUpdate, run_underlying hu, run_getObj_map m1, run_checkKey hd hisk, run_findKey hd f1, run_setObj_map _ m1]
        · cases h
      · cases h
    · cases h
  · cases h

theorem ok_del (hW : WInv γ σ w) {t ty q e : TypeId} {kt : Option IntKind} {m k : Val} {mu ku : Value}
    (hu : P.underlying t = some (.map q e)) (hk : keyTy P q = some kt) (hm : VRel γ m mu) (hku : VRel γ k ku) (h : delV kt m k σ = some σ') {ts : Array TypeId} (hts : ts[0]? = some t) :
    OpOk γ σ w ((valOf (Builtin.delete_ ts ty #[mu, ku])).run P w) .undef σ' := by
  obtain ⟨d, hd, hkt⟩ := keyTy_spec hk
  unfold delV at h
  split at h
  · rename_i hko
    have hisk := key_isKey hkt hko hku
    split at h
    · rename_i i
      split at h
      · rename_i es hi
        cases hm with
        | map _ b hr =>
        obtain ⟨us, clock, m1, m2⟩ := hW.mapOk i es b hi hr
        split at h
        · rename_i j y hf
          obtain ⟨yu, f1, f2, _, e0, f3, f4⟩ := findM_run hkt hko hku 0 m2 hf
          simp only [Option.some.injEq] at h
          subst h
          simp only [Nat.sub_zero] at f3
          have hj : j < us.size := by simpa using (List.getElem?_eq_some_iff.1 f3).1
          obtain ⟨g1, g2⟩ := hW.setMap i b es (es.eraseIdx j) us (us.eraseIdxIfInBounds j) clock clock hi hr m1 (by
            have e1 : (us.eraseIdxIfInBounds j).toList = us.toList.eraseIdx j := by
              simp [Array.eraseIdxIfInBounds, hj]
            rw [e1]
            refine ⟨?_, ?_⟩
            · rw [List.map_eraseIdx', List.map_eraseIdx']
              exact VRels.eraseIdx m2.1 j
            · rw [List.map_eraseIdx', List.map_eraseIdx']
              exact VRels.eraseIdx m2.2 j)
          refine ⟨_, _, .inr ⟨.tuple #[], run_valOf ?_, .undef _⟩, g1, g2⟩
          simp [Builtin.delete_, hts, run_underlying hu, run_getObj_map m1, run_checkKey hd hisk, run_findKey hd f1, run_setObj_map _ m1]
        · rename_i hf
          have f1 := findM_run hkt hko hku 0 m2 hf
          simp only [Option.some.injEq] at h
          subst h
          obtain ⟨g1, g2⟩ := hW.setMap i b es es us us clock clock hi hr m1 m2
          rw [List.set_same hi] at g1 g2
          refine ⟨_, _, .inr ⟨.tuple #[], run_valOf ?_, .undef _⟩, g1, g2⟩
          simp [Builtin.delete_, hts, run_underlying hu, run_getObj_map m1, run_checkKey hd hisk, run_findKey hd f1, run_setObj_map _ m1]
        · cases h
      · cases h
    · cases h
  · cases h

end Go.Ev
