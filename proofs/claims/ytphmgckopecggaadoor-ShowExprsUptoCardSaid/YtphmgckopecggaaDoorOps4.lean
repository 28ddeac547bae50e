/- More operations: conversions, slices, places. -/
import Derived.Test.YtphmgckopecggaaDoorOps3
import Derived.Lib.ConvBytes
import Derived.Laws.BytesArg
namespace Go.Ev
set_option linter.unusedSectionVars false
variable [Glob]

variable {P : Program} {γ : Gh} {σ σ' : Hp} {w : World}

theorem ok_cvToStr (hW : WInv γ σ w) {s d e : TypeId} {sz : Nat} {xs : List Val} {o : Own} {l : List UInt8} {u : Value} (hs : P.underlying s = some (.slice e)) (he : P.underlying e = some (.int .u8)) (hd : P.underlying d = some .string)
    (hx : VRel γ (.lst sz xs o) u) (hl : bytesOfL xs = some l) : OpOk γ σ w ((valOf (convert s d u)).run P w) (.str ⟨l.toArray⟩) σ := by
  cases hx with
  | lst sz xs o a n c us hn hc hss hv ha ho h1v =>
    obtain ⟨h1, ns, h2, h3⟩ := bytesOfL_rel hl hv
    subst h2
    simp only [List.length_map] at h1
    refine ok_val hW (u := .string ⟨l.toArray⟩) ?_ (.str _)
    rcases ha with h0 | ⟨b, off, rfl, hi⟩
    · have hns : ns = [] := List.eq_nil_of_length_eq_zero (by omega)
      subst hns
      simp only [List.map_nil] at h3
      subst h3
      cases a with
      | none => exact run_convert_bytes_nil w s e hs he n c d hd
      | some a =>
        subst h0
        have := run_convert_bytes_arg w s e hs he 0 0 0 c [] rfl (fun i hi => by omega) d hd
        simp only [convert, Sem.run_bind, run_underlying hs, run_underlying hd, run_underlying he, Result.andThen_ok, Conv.bytesToString, loadCells, loadCellsFrom]
        rfl
    · have := run_convert_bytes_arg w s e hs he b off n c ns (by omega) (fun i hi' => by
        have hj : i < (ns.map (Value.int .u8)).length := by simp; omega
        have := hi i hj
        refine hW.imOk _ _ _ (this.trans ?_)
        rw [List.getElem?_eq_getElem hj]
        simp only [List.getElem_map, List.getD_eq_getElem?_getD]
        rw [List.getElem?_eq_getElem (by omega)]
        rfl) d hd
      rw [this]
      simp [strOfNums, h3]

theorem byteV_rel (b : UInt8) : VRel γ (byteV b) (.int .u8 b.toNat) := .int _ _

theorem bytes_rels : ∀ l : List UInt8, VRels γ (flat (l.map byteV)) (l.map fun b => Value.int .u8 b.toNat)
  | [] => .nil
  | b :: l => .cons (byteV_rel b) (bytes_rels l)

theorem bytes_one : ∀ l : List UInt8, (flat (l.map byteV)).all Val.one = true
  | [] => rfl
  | _ :: l => bytes_one l

theorem ok_cvToBytes (hW : WInv γ σ w) {s d e : TypeId} {b : ByteArray} {u : Value} (hs : P.underlying s = some .string) (he : P.underlying e = some (.int .u8)) (hd : P.underlying d = some (.slice e))
    (hx : VRel γ (.str b) u) : OpOk γ σ w ((valOf (convert s d u)).run P w) (.lst 1 (b.toList.map byteV) .shared) σ := by
  cases hx
  have hr := Lib.run_convert_string_bytes w s d e b hs hd he
  obtain ⟨h1, h2⟩ := hW.newIm' (w' := Lib.bytesWorld w e b) (b.toList.map fun b => Value.int .u8 b.toNat) (Lib.bytesCells w e b) e ((Lib.bytesCells w e b).size, (Lib.bytesCells w e b).size + 1) (fun j x hx => by
      rw [ByteArray.toList_eq] at hx
      have hj : j < b.data.toList.length := by
        have := (List.getElem?_eq_some_iff.1 hx).1
        simpa using this
      have hj' : j < b.data.size := by simpa using hj
      simp only [List.getElem?_map] at hx
      simp only [Lib.bytesCells, Array.getElem?_append, Array.size_map, hj', if_true, Array.getElem?_map]
      simpa using hx)
    (Lib.bytesWorld_size w e b) (Lib.bytesWorld_at_old w e b) (Lib.bytesWorld_at_new w e b) rfl rfl rfl
  refine ⟨_, _, .inr ⟨_, run_valOf hr, ?_⟩, h1, h2⟩
  have hlen : b.toList.length = b.size := by rw [ByteArray.toList_eq]; rfl
  refine .lst 1 _ .shared _ b.size _ _ (by rw [List.length_map, hlen]) ?_ (fun x hx => ?_) ((bytes_rels b.toList).ext h2.ext) (.inr ⟨_, _, rfl, addIm_zero _ _ _⟩) (by simp [OwnOk]) (bytes_one b.toList)
  · simp only [grownCap, Question.cut]
    omega
  · simp only [List.mem_map] at hx
    obtain ⟨c, _, rfl⟩ := hx
    rfl

/-! places -/

theorem fieldPlace_run {f : Field} {n : Nat} (h : szOf P f.type = some (n + 1)) (b o : Nat) : (fieldPlace ⟨b, o, none⟩ f).run P w = .ok ⟨b, o + f.offset, none⟩ w := by
  simp only [fieldPlace, Sem.run_bind, szOf_run h, Result.andThen_ok]
  simp [add_at]

theorem iptr_drop {vs : List Val} {b o : Nat} (k : Nat) (h : VRel γ (.iptr vs) (.pointer (some ⟨b, o, none⟩))) : VRel γ (.iptr (vs.drop k)) (.pointer (some ⟨b, o + k, none⟩)) := by
  cases h with
  | iptr vs us b o hi hv h1v =>
    refine .iptr _ (us.drop k) _ _ (fun j hj => ?_) (hv.drop k) (all_drop k h1v)
    rw [List.getElem?_drop, Nat.add_assoc]
    simp only [List.length_drop] at hj
    exact hi (k + j) (by omega)

theorem ok_faddr (hW : WInv γ σ w) {s : TypeId} {fs : Array Field} {i : Nat} {f : Field} {n : Nat} {x v : Val} {u : Value} (hu : P.underlying s = some (.struct fs)) (hf : fs[i]? = some f) (hn : szOf P f.type = some (n + 1))
    (hx : VRel γ x u) (h : (match x with | .ptr (some (i, o)) => some (Val.ptr (some (i, o + f.offset))) | .iptr vs => some (Val.iptr (vs.drop f.offset)) | _ => none) = some v) :
    OpOk γ σ w ((valOf (Instr.fieldAt s u i)).run P w) v σ := by
  have key : ∀ b o, u = .pointer (some ⟨b, o, none⟩) → (Instr.fieldAt s u i).run P w = .ok (.pointer (some ⟨b, o + f.offset, none⟩)) w := by
    rintro b o rfl
    simp [Instr.fieldAt, run_underlying hu, hf, Instr.sureAddr, fieldPlace_run hn]
  cases hx <;> simp only [] at h <;> try (cases h; done)
  case ptr i o b hr => simp at h; subst h; exact ok_val hW (key _ _ rfl) (.ptr _ _ _ hr)
  case iptr vs us b o hi hv h1v => simp at h; subst h; exact ok_val hW (key _ _ rfl) (iptr_drop f.offset (.iptr vs us b o hi hv h1v))

theorem part_run {t : TypeId} {g : Bool} {n off : Nat} {cs : Array Value} {ds : List Val} {v : Val} (hg : aggOf P t = some g) (hn : szOf P t = some n) (hc : VRels γ ds cs.toList) (h1v : ds.all Val.one = true) (h : readV g n (ds.drop off) = some v) :
    ∃ u, (part t cs off).run P w = .ok u w ∧ VRel γ v u := by
  obtain ⟨u, h1, h2⟩ := readV_rel (hc.drop off) (all_drop off h1v) h
  refine ⟨u, ?_, h1⟩
  cases g with
  | true =>
    obtain ⟨h3, rfl⟩ := by simpa using h2
    simp only [part, Sem.run_bind, aggOf_run hg, Result.andThen_ok, if_true, szOf_run hn, Sem.run_pure]
    congr 2
    apply Array.ext'
    simp [List.take_drop]
  | false =>
    have h3 : cs[off]? = some u := by
      have : (cs.toList.drop off)[0]? = some u := by simpa using h2
      simpa [List.getElem?_drop] using this
    simp [part, aggOf_run hg, h3]

theorem ok_fld (hW : WInv γ σ w) {s : TypeId} {fs : Array Field} {i : Nat} {f : Field} {g : Bool} {n : Nat} {cs : List Val} {v : Val} {u : Value} (hu : P.underlying s = some (.struct fs)) (hf : fs[i]? = some f)
    (hg : aggOf P f.type = some g) (hn : szOf P f.type = some n) (hx : VRel γ (.agg cs) u) (h : readV g n (cs.drop f.offset) = some v) :
    OpOk γ σ w ((valOf (Instr.field s u i)).run P w) v σ := by
  cases hx with
  | agg cs us hv h1v =>
    obtain ⟨r, h1, h2⟩ := part_run (w := w) hg hn hv h1v h
    exact ok_val hW (by simp [Instr.field, run_underlying hu, hf, asAgg, h1]) h2

theorem ok_idxA (hW : WInv γ σ w) {t e : TypeId} {ln : Nat} {g : Bool} {n : Nat} {cs : List Val} {v : Val} {u s : Value} {k : IntKind} {j : Int} (hu : P.underlying t = some (.array ln e))
    (hg : aggOf P e = some g) (hn : szOf P e = some n) (hx : VRel γ (.agg cs) u) (hy : VRel γ (.int k j) s) (h0 : 0 ≤ j ∧ j < ln) (h : readV g n (cs.drop (j.toNat * n)) = some v) :
    OpOk γ σ w ((valOf (Instr.index t u s)).run P w) v σ := by
  cases hx with
  | agg cs us hv h1v =>
    cases hy
    obtain ⟨r, h1, h2⟩ := part_run (w := w) hg hn hv h1v h
    exact ok_val hW (by simp [Instr.index, run_underlying hu, asIntOf, h0, szOf_run hn, h1]) h2

theorem ok_idxS (hW : WInv γ σ w) {t : TypeId} {b : ByteArray} {c : UInt8} {u s : Value} {k : IntKind} {j : Int} (hu : P.underlying t = some .string)
    (hx : VRel γ (.str b) u) (hy : VRel γ (.int k j) s) (h0 : 0 ≤ j) (h : b.toList[j.toNat]? = some c) :
    OpOk γ σ w ((valOf (Instr.index t u s)).run P w) (byteV c) σ := by
  cases hx; cases hy
  have hb : b[j.toNat]? = some c := by
    rw [ByteArray.toList_eq] at h
    have h1 : j.toNat < b.data.size := by simpa using (List.getElem?_eq_some_iff.1 h).1
    have h2 : b.data[j.toNat] = c := by
      have := (List.getElem?_eq_some_iff.1 h).2
      simpa using this
    have h3 : j.toNat < b.size := h1
    rw [getElem?_pos b j.toNat h3]
    exact congrArg some h2
  exact ok_val hW (by simp [Instr.index, run_underlying hu, asIntOf, h0, hb]) (byteV_rel c)

theorem ok_iaddrL (hW : WInv γ σ w) {t e : TypeId} {sz : Nat} {xs : List Val} {o : Own} {v : Val} {u s : Value} {k : IntKind} {j : Int} (hu : P.underlying t = some (.slice e)) (hn : szOf P e = some sz)
    (hx : VRel γ (.lst sz xs o) u) (hy : VRel γ (.int k j) s) (h0 : 0 ≤ j ∧ j < xs.length) (h : xs[j.toNat]? = some v) :
    OpOk γ σ w ((valOf (Instr.indexAt t u s)).run P w) (.iptr v.cells) σ := by
  cases hx with
  | lst sz xs o a n c us hn' hc hss hv ha ho h1v =>
    cases hy
    rcases ha with h1 | ⟨b, off, rfl, hi⟩
    · omega
    · have hlt : j < n := by omega
      have hget := flat_get j.toNat hss h
      have hlen := hv.length
      rw [flat_length hss] at hlen
      have hvl : v.cells.length = sz := hss v (List.mem_of_getElem? h)
      have hjn : j.toNat < xs.length := by omega
      have hmul : j.toNat * sz + sz ≤ xs.length * sz := by
        have := Nat.mul_le_mul_right sz (show j.toNat + 1 ≤ xs.length by omega)
        rw [Nat.add_mul] at this
        omega
      refine ok_val hW (u := .pointer (some ⟨b, off + j.toNat * sz, none⟩)) ?_ (.iptr _ ((us.drop (j.toNat * sz)).take sz) _ _ (fun i hi' => ?_) ?_ (by rw [← hget]; exact all_take _ (all_drop _ h1v)))
      · simp only [Instr.indexAt, asIntOf, Sem.run_bind, Sem.run_pure, Result.andThen_ok, run_underlying hu]
        have : ((match TypeDesc.slice e with | .array .. => true | _ => false) : Bool) = false := rfl
        simp [h0.1, hlt, szOf_run hn, add_at]
      · simp only [List.length_take, List.length_drop] at hi'
        rw [List.getElem?_take, if_pos (by omega), List.getElem?_drop, Nat.add_assoc]
        exact hi _ (by omega)
      · rw [← hget]
        exact (hv.drop _).take _

theorem ok_iaddrR (hW : WInv γ σ w) {t e : TypeId} {sz id off n : Nat} {u s : Value} {k : IntKind} {j : Int} (hu : P.underlying t = some (.slice e)) (hn : szOf P e = some sz)
    (hx : VRel γ (.ref sz id off n) u) (hy : VRel γ (.int k j) s) (h0 : 0 ≤ j ∧ j < n) :
    OpOk γ σ w ((valOf (Instr.indexAt t u s)).run P w) (.ptr (some (id, off + j.toNat * sz))) σ := by
  cases hy
  cases hx with
  | ref _ _ _ _ c b e o hr hs hc he ho =>
  have ho' : o = off := by omega
  subst ho'
  refine ok_val hW (u := .pointer (some ⟨b, o + j.toNat * sz, none⟩)) ?_ (.ptr _ _ _ hr)
  simp only [Instr.indexAt, asIntOf, Sem.run_bind, Sem.run_pure, Result.andThen_ok, run_underlying hu]
  simp [h0.1, h0.2, szOf_run hn, add_at]

theorem ok_iaddrA (hW : WInv γ σ w) {t e : TypeId} {ln sz : Nat} {x v : Val} {u s : Value} {k : IntKind} {j : Int} (hu : P.underlying t = some (.array ln e)) (hn : szOf P e = some sz)
    (hx : VRel γ x u) (hy : VRel γ (.int k j) s) (h0 : 0 ≤ j ∧ j < ln)
    (h : (match x with | .ptr (some (i, o)) => some (Val.ptr (some (i, o + j.toNat * sz))) | .iptr vs => some (Val.iptr (vs.drop (j.toNat * sz))) | _ => none) = some v) :
    OpOk γ σ w ((valOf (Instr.indexAt t u s)).run P w) v σ := by
  cases hy
  have key : ∀ b o, u = .pointer (some ⟨b, o, none⟩) → (Instr.indexAt t u (.int k j)).run P w = .ok (.pointer (some ⟨b, o + j.toNat * sz, none⟩)) w := by
    rintro b o rfl
    simp [Instr.indexAt, run_underlying hu, asIntOf, Instr.sureAddr, h0, szOf_run hn, add_at]
  cases hx <;> simp only [] at h <;> try (cases h; done)
  case ptr i o b hr => simp at h; subst h; exact ok_val hW (key _ _ rfl) (.ptr _ _ _ hr)
  case iptr vs us b o hi hv h1v => simp at h; subst h; exact ok_val hW (key _ _ rfl) (iptr_drop _ (.iptr vs us b o hi hv h1v))

/-! pieces -/

theorem bound_run {x : Val} {u : Value} {y m : Nat} (c : BoundsCode) (hx : VRel γ x u) (h : bound x y = some m) : (Instr.sliceBound u y c).run P w = .ok m w ∧ m ≤ y := by
  unfold bound at h
  split at h
  · cases hx
    split at h
    · rename_i hc
      simp at h; subst h
      exact ⟨by simp [Instr.sliceBound, asIntOf, hc], by omega⟩
    · cases h
  · cases h

theorem boundOr_run {x : Option Val} {u : Option Value} {d y m : Nat} (c : BoundsCode) (hx : ORel γ x u) (hd : d ≤ y) (h : boundOr d x y = some m) :
    (match u with | some v => Instr.sliceBound v y c | none => pure d : Sem Nat).run P w = .ok m w ∧ m ≤ y := by
  cases hx with
  | none => simp [boundOr] at h; subst h; exact ⟨rfl, hd⟩
  | some hv => exact bound_run c hv (by simpa [boundOr] using h)

theorem ok_sliceS (hW : WInv γ σ w) {t : TypeId} {b : ByteArray} {u : Value} {lo hi : Option Val} {lo' hi' : Option Value} {h l : Nat} (hu : P.underlying t = some .string) (hx : VRel γ (.str b) u)
    (hl : ORel γ lo lo') (hh : ORel γ hi hi') (e1 : boundOr b.size hi b.size = some h) (e2 : boundOr 0 lo h = some l) :
    OpOk γ σ w ((valOf (Instr.sliceAt t u lo' hi' none)).run P w) (.str (b.extract l h)) σ := by
  cases hx
  refine ok_val hW (u := .string (b.extract l h)) ?_ (.str _)
  obtain ⟨r1, r2⟩ := boundOr_run (P := P) (w := w) .sliceAlen hh (Nat.le_refl _) e1
  obtain ⟨r3, r4⟩ := boundOr_run (P := P) (w := w) .sliceB hl (Nat.zero_le _) e2
  simp only [Instr.sliceAt, Sem.run_bind, run_underlying hu, Result.andThen_ok, Instr.slice]
  have hb : (Instr.sliceBounds false b.size b.size lo' hi' none).run P w = .ok (l, h, b.size) w := by
    simp only [Instr.sliceBounds, Sem.run_bind, Sem.run_pure, Result.andThen_ok]
    cases hh <;> cases hl <;> simp_all
  simp [hb]

end Go.Ev
