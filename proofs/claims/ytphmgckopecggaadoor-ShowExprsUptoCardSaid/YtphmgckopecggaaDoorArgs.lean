/- The arguments, as plain values: all cells of the world in which the call begins stay as they are. -/
import Derived.Test.YtphmgckopecggaaDoorStrs
import Derived.ChangeArms
import Derived.DataReads
namespace Go.Ev
set_option linter.unusedSectionVars false

section
variable (P : Program) {H : Type}

def mkEl (g : Bool) (cs : List Val) : Val := if g then .agg cs else cs.headD .undef

def valsOf : Nat → TypeId → DataW H → Option (List Val)
  | 0, _, _ => none
  | n + 1, t, d =>
    match P.underlying t, d with
    | some .bool, .lit (.bool b) => some [.bool b]
    | some (.int k), .lit (.int k' m) => if k' = k ∧ k.min ≤ m ∧ m ≤ k.max then some [.int k m] else none
    | some .string, .lit (.string s) => some [.str (bs s)]
    | some (.slice _), .nil => some [.lst 0 [] .nil]
    | some (.slice e), .slice elems _ =>
      match elems.mapM (valsOf n e) with
      | some xs => some [.lst (P.cellsOf e) (xs.map (mkEl ((aggOf P e).getD false))) .shared]
      | none => none
    | some (.struct fs), .agg ds =>
      if ds.length = fs.size then
        match (fs.toList.zip ds).mapM fun p => valsOf n p.1.type p.2 with
        | some xs => some xs.flatten
        | none => none
      else none
    | _, _ => none

def offOk : Nat → List Field → Nat → Bool
  | off, [], total => off == total
  | off, f :: fs, total => f.offset == off && offOk (off + P.cellsOf f.type) fs total

def plainT (book : List TypeId) (t : TypeId) : Bool :=
  match P.underlying t with
  | some .bool | some (.int _) | some .string => true
  | some (.slice e) => book.contains e && decide (1 ≤ P.cellsOf e) && (match aggOf P e with | some true => true | some false => P.cellsOf e == 1 | none => false)
  | some (.struct fs) => fs.toList.all (fun f => book.contains f.type) && offOk P 0 fs.toList (P.cellsOf t)
  | _ => false

def plainBook (book : List TypeId) : Bool := book.all (plainT P book)
end

section
variable [Glob]
variable {P : Program} {H : Type} {enc : TypeId × Value → H} {w : World} {base : Nat} {sp : Nat → Bool} {held : Bool} {γ : Gh}

theorem headD_one {vs : List Val} (h : vs.length = 1) (h1 : vs.all Val.one = true) : (vs.headD .undef).cells = vs := by
  match vs, h with
  | [v], _ =>
    simp at h1
    cases v <;> first | rfl | cases h1

theorem mkEl_cells {g : Bool} {vs : List Val} (h : g = false → vs.length = 1) (h1 : vs.all Val.one = true) : (mkEl g vs).cells = vs := by
  cases g with
  | true => rfl
  | false => exact headD_one (h rfl) h1

theorem add_plain (b o n : Nat) : (⟨b, o, none⟩ : Addr).add n = ⟨b, o + n, none⟩ := by
  unfold Addr.add
  split
  · rename_i h; simp [h]
  · rfl

theorem row_vals {n : Nat} {e : TypeId} {b o : Nat} {sz : Nat} {g : Bool} (hg : g = false → sz = 1) (hγ : ∀ b o, γ.im b o = w.cell? ⟨b, o, none⟩)
    (ih : ∀ cs d ps, cs.length = sz → DataW.trod enc P w base sp held n e cs = some (d, ps) → ∃ vs, valsOf P n e d = some vs ∧ VRels γ vs cs ∧ vs.all Val.one = true ∧ Val.closeds vs = true ∧ Val.fzs vs = vs) :
    ∀ (elems : List (DataW H × List MemPlace)) (i0 : Nat), (∀ i, i < elems.length → (w.cells? base ⟨b, o + (i0 + i) * sz, none⟩ sz).bind (DataW.trod enc P w base sp held n e) = elems[i]?) →
      ∃ xs us, (elems.map (·.1)).mapM (valsOf P n e) = some xs ∧ VRels γ (flat (xs.map (mkEl g))) us ∧ (∀ x ∈ xs.map (mkEl g), x.cells.length = sz) ∧ us.length = elems.length * sz ∧ xs.length = elems.length ∧
        (∀ j, j < us.length → w.cell? ⟨b, o + (i0 * sz + j), none⟩ = us[j]?) ∧ (flat (xs.map (mkEl g))).all Val.one = true ∧ Val.closeds (xs.map (mkEl g)) = true ∧ Val.fzs (xs.map (mkEl g)) = xs.map (mkEl g)
  | [], i0, _ => ⟨[], [], rfl, .nil, by simp, by simp, rfl, by simp, rfl, rfl, rfl⟩
  | (d, ps) :: elems, i0, h => by
    have h0 := h 0 (by simp)
    simp only [Nat.add_zero, List.getElem?_cons_zero, Option.bind_eq_some_iff] at h0
    obtain ⟨cs, hc, ht⟩ := h0
    obtain ⟨_, hlen, hcell⟩ := World.cells?_some hc
    obtain ⟨vs, hv, hr, h1, hcl, hfz⟩ := ih cs d ps hlen ht
    obtain ⟨xs, us, k1, k2, k3, k4, k5, k6, k7, k8, k9⟩ := row_vals hg hγ ih elems (i0 + 1) (fun i hi => by
      have := h (i + 1) (by simpa using hi)
      rw [show i0 + (i + 1) = i0 + 1 + i by omega] at this
      simpa using this)
    have hvl : vs.length = sz := by rw [hr.length]; exact hlen
    have hm : (mkEl g vs).cells = vs := mkEl_cells (fun hgf => by rw [hvl]; exact hg hgf) h1
    refine ⟨vs :: xs, cs ++ us, by simp [hv, k1], ?_, ?_, by simp [hlen, k4, Nat.add_mul]; omega, by simp [k5], ?_, ?_, ?_, ?_⟩
    · rw [List.map_cons, flat_cons, hm]
      exact hr.append k2
    · intro x hx
      rw [List.map_cons] at hx
      cases hx with
      | head => rw [hm]; exact hvl
      | tail _ hx => exact k3 x hx
    · intro j hj
      by_cases hjs : j < sz
      · rw [List.getElem?_append_left (by omega), ← hcell j hjs, add_plain, Nat.add_assoc]
      · rw [List.getElem?_append_right (by omega)]
        rw [List.length_append] at hj
        rw [← k6 (j - cs.length) (by omega)]
        congr 2
        rw [Nat.add_mul]
        omega
    · rw [List.map_cons, flat_cons, hm, List.all_append, h1, k7]; rfl
    · rw [List.map_cons, Val.closeds, k8, ← closed_cells, hm, hcl]; rfl
    · rw [List.map_cons, Val.fzs, k9]
      congr 1
      cases g with
      | true => simp [mkEl, Val.fz, hfz]
      | false =>
        match vs, hvl, hg rfl with
        | [v], _, _ =>
          simp only [Val.fzs, List.cons.injEq, and_true] at hfz
          simpa [mkEl] using hfz

theorem fields_vals {n : Nat} {book : List TypeId} (ih : ∀ t cs d ps, t ∈ book → DataW.trod enc P w base sp held n t cs = some (d, ps) → ∃ vs, valsOf P n t d = some vs ∧ VRels γ vs cs ∧ vs.all Val.one = true ∧ Val.closeds vs = true ∧ Val.fzs vs = vs) :
    ∀ (fs : List Field) (cs : List Value) (off : Nat) (xs : List (DataW H × List MemPlace)), (∀ f : Field, f ∈ fs → f.type ∈ book) → offOk P off fs cs.length = true → xs.length = fs.length →
      (∀ (i : Nat) (f : Field), fs[i]? = some f → DataW.trod enc P w base sp held n f.type ((cs.drop f.offset).take (P.cellsOf f.type)) = xs[i]?) →
      ∃ vss, ((fs.zip (xs.map (·.1))).mapM fun p => valsOf P n p.1.type p.2) = some vss ∧ VRels γ vss.flatten (cs.drop off) ∧ vss.flatten.all Val.one = true ∧ Val.closeds vss.flatten = true ∧ Val.fzs vss.flatten = vss.flatten
  | [], cs, off, xs, _, ho, hx, _ => by
    simp only [offOk, beq_iff_eq] at ho
    refine ⟨[], by simp, ?_, rfl, rfl, rfl⟩
    rw [List.drop_eq_nil_of_le (by omega)]
    exact .nil
  | f :: fs, cs, off, [], _, _, hx, _ => by simp at hx
  | f :: fs, cs, off, (d, ps) :: xs, hb, ho, hx, h => by
    simp only [offOk, Bool.and_eq_true, beq_iff_eq] at ho
    have h0 := h 0 f rfl
    rw [ho.1] at h0
    simp only [List.getElem?_cons_zero] at h0
    obtain ⟨vs, hv, hr, h1, hcl, hfz⟩ := ih _ _ _ _ (hb f (by simp)) h0
    obtain ⟨vss, k1, k2, k3, k4, k5⟩ := fields_vals ih fs cs (off + P.cellsOf f.type) xs (fun g hg => hb g (by simp [hg])) ho.2 (by simpa using hx) (fun i g hg => by simpa using h (i + 1) g (by simpa using hg))
    refine ⟨vs :: vss, by simp [hv, k1], ?_, by simp only [List.flatten_cons, List.all_append, h1, k3]; rfl, by simp only [List.flatten_cons, closeds_append, hcl, k4]; rfl, by simp only [List.flatten_cons, fzs_append, hfz, k5]⟩
    rw [List.flatten_cons]
    have e : cs.drop off = (cs.drop off).take (P.cellsOf f.type) ++ cs.drop (off + P.cellsOf f.type) := by
      rw [← List.drop_drop, List.take_append_drop]
    rw [e]
    exact hr.append k2

theorem trod_vals {book : List TypeId} (hb : plainBook P book = true) (hγ : ∀ b o, γ.im b o = w.cell? ⟨b, o, none⟩) : ∀ (n : Nat) (t : TypeId) (cs : List Value) (d : DataW H) (ps : List MemPlace), t ∈ book →
    DataW.trod enc P w base sp held n t cs = some (d, ps) → ∃ vs, valsOf P n t d = some vs ∧ VRels γ vs cs ∧ vs.all Val.one = true ∧ Val.closeds vs = true ∧ Val.fzs vs = vs
  | 0, t, cs, d, ps, ht, h => by simp [DataW.trod] at h
  | n + 1, t, cs, d, ps, ht, h => by
    have ih := trod_vals hb hγ n
    have hp := List.all_eq_true.1 hb t ht
    unfold plainT at hp
    split at hp
    · rename_i hu
      obtain ⟨b, rfl, hx⟩ := DataW.trod_bool hu h
      simp only [Prod.mk.injEq] at hx
      obtain ⟨rfl, rfl⟩ := hx
      exact ⟨[.bool b], by simp [valsOf, hu], .cons (.bool b) .nil, rfl, rfl, rfl⟩
    · rename_i k hu
      obtain ⟨m, rfl, hx, hwf⟩ := DataW.trod_int hu h
      simp only [Prod.mk.injEq] at hx
      obtain ⟨rfl, rfl⟩ := hx
      simp only [Lit.wf, Bool.and_eq_true, decide_eq_true_eq] at hwf
      exact ⟨[.int k m], by simp [valsOf, hu, hwf], .cons (.int k m) .nil, rfl, rfl, rfl⟩
    · rename_i hu
      obtain ⟨s, rfl, hx, _⟩ := DataW.trod_string hu h
      simp only [Prod.mk.injEq] at hx
      obtain ⟨rfl, rfl⟩ := hx
      exact ⟨[.str (bs s.data.toList)], by simp [valsOf, hu], by rw [bs_of]; exact .cons (.str s) .nil, rfl, rfl, rfl⟩
    · rename_i e hu
      simp only [Bool.and_eq_true, decide_eq_true_eq, List.contains_iff_mem] at hp
      obtain ⟨⟨he, hsz⟩, hg⟩ := hp
      rcases DataW.trod_slice hu h with ⟨rfl, hx⟩ | ⟨a, len, cap, elems, rest, n', hn, rfl, hx, hba, hlc, hcm, hel, hget, _, _⟩
      · simp only [Prod.mk.injEq] at hx
        obtain ⟨rfl, rfl⟩ := hx
        refine ⟨[.lst 0 [] .nil], by simp [valsOf, hu], .cons ?_ .nil, rfl, rfl, rfl⟩
        exact .lst 0 [] .nil none 0 0 [] rfl (Nat.le_refl _) (by simp) .nil (.inl rfl) ⟨rfl, rfl, rfl⟩ rfl
      · simp only [Prod.mk.injEq] at hx
        obtain ⟨rfl, rfl⟩ := hx
        obtain rfl : n' = n := by omega
        have hgs : (aggOf P e).getD false = false → P.cellsOf e = 1 := by
          intro hf
          revert hg
          cases hq : aggOf P e with
          | none => simp
          | some b => cases b <;> simp_all
        have hspot : 0 < len → a = ⟨a.block, a.off, none⟩ := by
          intro h0
          have g0 := hget 0 h0
          rw [List.getElem?_eq_getElem (by omega)] at g0
          simp only [Option.bind_eq_some_iff, Nat.zero_mul] at g0
          obtain ⟨cs, hc, _⟩ := g0
          obtain ⟨_, hl, hcell⟩ := World.cells?_some hc
          have hc0 := hcell 0 hsz
          rw [List.getElem?_eq_getElem (by omega)] at hc0
          unfold World.cell? at hc0
          split at hc0
          · split at hc0
            · cases hc0
            · rename_i hs
              have : a.spot = none := by simpa [Addr.add] using hs
              cases a
              simp at this
              rw [this]
          · cases hc0
        obtain ⟨xs, us, k1, k2, k3, k4, k5, k6, k7, k8, k9⟩ := row_vals (enc := enc) (n := n') (b := a.block) (o := a.off) (g := (aggOf P e).getD false) hgs hγ (fun cs d ps _ ht => ih e cs d ps he ht) elems 0 (fun i hi => by
          have := hget i (by omega)
          rw [hspot (by omega), add_plain] at this
          rw [Nat.zero_add]
          exact this)
        refine ⟨[.lst (P.cellsOf e) (xs.map (mkEl ((aggOf P e).getD false))) .shared], by simp [valsOf, hu, k1], .cons ?_ .nil, rfl, by simp [Val.closeds, Val.closed, k8], by simp [Val.fzs, Val.fz, k9, Own.fz]⟩
        refine .lst _ _ _ _ _ _ us (by simp [k5, hel]) hlc k3 k2 ?_ (by simp [OwnOk]) k7
        by_cases h0 : len = 0
        · exact .inl h0
        · right
          refine ⟨a.block, a.off, congrArg some (hspot (by omega)), fun j hj => ?_⟩
          rw [hγ, ← k6 j hj, Nat.zero_mul, Nat.zero_add]
    · rename_i fs hu
      simp only [Bool.and_eq_true, List.all_eq_true, List.contains_iff_mem] at hp
      obtain ⟨xs, n', hn, hx, hlen, hxl, hget⟩ := DataW.trod_struct hu h
      simp only [Prod.mk.injEq] at hx
      obtain ⟨rfl, rfl⟩ := hx
      obtain rfl : n' = n := by omega
      rw [← hlen] at hp
      obtain ⟨vss, k1, k2, k3, k4, k5⟩ := fields_vals (book := book) ih fs.toList cs 0 xs (fun f hf => hp.1 f hf) hp.2 (by simpa using hxl) (fun i f hf => hget i f (by simpa using hf))
      exact ⟨vss.flatten, by simp [valsOf, hu, k1, hxl], by simpa using k2, k3, k4, k5⟩
    · cases hp

/-! what a reading holds, type by type -/
theorem vals_bool {n : Nat} {t : TypeId} {d : DataW H} {vs : List Val} (hu : P.underlying t = some .bool) (h : valsOf P n t d = some vs) : ∃ b, d = .lit (.bool b) ∧ vs = [.bool b] := by
  cases n with
  | zero => simp [valsOf] at h
  | succ n =>
    simp only [valsOf, hu] at h
    split at h <;> simp_all

theorem vals_int {n : Nat} {t : TypeId} {k : IntKind} {d : DataW H} {vs : List Val} (hu : P.underlying t = some (.int k)) (h : valsOf P n t d = some vs) : ∃ m, d = .lit (.int k m) ∧ vs = [.int k m] ∧ k.min ≤ m ∧ m ≤ k.max := by
  cases n with
  | zero => simp [valsOf] at h
  | succ n =>
    simp only [valsOf, hu] at h
    split at h
    all_goals first
      | (rename_i h1 h2; split at h
         · rename_i hc
           obtain ⟨rfl, hc⟩ := hc
           simp only [Option.some.injEq, TypeDesc.int.injEq] at h1 h
           subst h1
           exact ⟨_, rfl, h.symm, hc⟩
         · cases h)
      | simp_all

theorem vals_str {n : Nat} {t : TypeId} {d : DataW H} {vs : List Val} (hu : P.underlying t = some .string) (h : valsOf P n t d = some vs) : ∃ s, d = .lit (.string s) ∧ vs = [.str (bs s)] := by
  cases n with
  | zero => simp [valsOf] at h
  | succ n =>
    simp only [valsOf, hu] at h
    split at h <;> simp_all

theorem vals_slice {n : Nat} {t e : TypeId} {d : DataW H} {vs : List Val} (hu : P.underlying t = some (.slice e)) (h : valsOf P n t d = some vs) :
    (d = .nil ∧ vs = [.lst 0 [] .nil]) ∨ ∃ n' elems spare xs, n = n' + 1 ∧ d = .slice elems spare ∧ elems.mapM (valsOf P n' e) = some xs ∧ vs = [.lst (P.cellsOf e) (xs.map (mkEl ((aggOf P e).getD false))) .shared] := by
  cases n with
  | zero => simp [valsOf] at h
  | succ n =>
    simp only [valsOf, hu] at h
    cases d with
    | nil => left; simpa [eq_comm] using h
    | slice elems spare =>
      right
      simp only at h
      cases hm : elems.mapM (valsOf P n e) with
      | none => simp [hm] at h
      | some xs =>
        simp only [hm, Option.some.injEq] at h
        exact ⟨n, elems, spare, xs, rfl, rfl, hm, h.symm⟩
    | _ => simp at h

theorem vals_struct {n : Nat} {t : TypeId} {fs : Array Field} {d : DataW H} {vs : List Val} (hu : P.underlying t = some (.struct fs)) (h : valsOf P n t d = some vs) :
    ∃ n' ds xs, n = n' + 1 ∧ d = .agg ds ∧ ds.length = fs.size ∧ ((fs.toList.zip ds).mapM fun p => valsOf P n' p.1.type p.2) = some xs ∧ vs = xs.flatten := by
  cases n with
  | zero => simp [valsOf] at h
  | succ n =>
    simp only [valsOf, hu] at h
    cases d with
    | agg ds =>
      simp only at h
      split at h
      · rename_i hl
        cases hm : (fs.toList.zip ds).mapM fun p => valsOf P n p.1.type p.2 with
        | none => simp [hm] at h
        | some xs =>
          simp only [hm, Option.some.injEq] at h
          exact ⟨n, ds, xs, rfl, rfl, hl, hm, h.symm⟩
      · cases h
    | _ => simp at h
end
end Go.Ev
