/- Rows of cells and their elements. -/
import Derived.Test.YtphmgckopecggaaDoorMem
namespace Go.Ev

theorem flat_nil : flat [] = [] := rfl
theorem flat_cons (x : Val) (xs : List Val) : flat (x :: xs) = x.cells ++ flat xs := rfl
theorem flat_append (xs ys : List Val) : flat (xs ++ ys) = flat xs ++ flat ys := by simp [flat]

theorem flat_length {sz : Nat} : ∀ {xs : List Val}, (∀ x ∈ xs, x.cells.length = sz) → (flat xs).length = xs.length * sz
  | [], _ => by simp [flat]
  | x :: xs, h => by
    rw [flat_cons, List.length_append, h x (by simp), flat_length (fun y hy => h y (by simp [hy]))]
    simp [Nat.add_mul, Nat.add_comm]

theorem flat_drop {sz : Nat} : ∀ (l : Nat) {xs : List Val}, (∀ x ∈ xs, x.cells.length = sz) → l ≤ xs.length → flat (xs.drop l) = (flat xs).drop (l * sz)
  | 0, xs, _, _ => by simp
  | l + 1, [], _, h => by simp at h
  | l + 1, x :: xs, h, hl => by
    have h1 := h x (by simp)
    rw [List.drop_succ_cons, flat_drop l (fun y hy => h y (by simp [hy])) (by simpa using hl), flat_cons]
    have e : x.cells.drop ((l + 1) * sz) = [] := List.drop_of_length_le (by rw [h1, Nat.add_mul]; omega)
    have e2 : (l + 1) * sz - x.cells.length = l * sz := by rw [h1, Nat.add_mul]; omega
    rw [List.drop_append, e, e2, List.nil_append]

theorem flat_take {sz : Nat} : ∀ (l : Nat) {xs : List Val}, (∀ x ∈ xs, x.cells.length = sz) → l ≤ xs.length → flat (xs.take l) = (flat xs).take (l * sz)
  | 0, xs, _, _ => by simp [flat]
  | l + 1, [], _, h => by simp at h
  | l + 1, x :: xs, h, hl => by
    have h1 := h x (by simp)
    rw [List.take_succ_cons, flat_cons, flat_take l (fun y hy => h y (by simp [hy])) (by simpa using hl), flat_cons]
    have e : x.cells.take ((l + 1) * sz) = x.cells := List.take_of_length_le (by rw [h1, Nat.add_mul]; omega)
    have e2 : (l + 1) * sz - x.cells.length = l * sz := by rw [h1, Nat.add_mul]; omega
    rw [List.take_append, e, e2]

theorem flat_get {sz : Nat} : ∀ (i : Nat) {xs : List Val} {v : Val}, (∀ x ∈ xs, x.cells.length = sz) → xs[i]? = some v → ((flat xs).drop (i * sz)).take sz = v.cells
  | i, [], v, _, h => by simp at h
  | 0, x :: xs, v, h, hv => by
    simp at hv; subst hv
    rw [flat_cons, Nat.zero_mul, List.drop_zero, List.take_append_of_le_length (by rw [h x (by simp)]; exact Nat.le_refl _), List.take_of_length_le (by rw [h x (by simp)]; exact Nat.le_refl _)]
  | i + 1, x :: xs, v, h, hv => by
    have h1 := h x (by simp)
    simp at hv
    have := flat_get i (fun y hy => h y (by simp [hy])) hv
    have e : x.cells.drop ((i + 1) * sz) = [] := List.drop_of_length_le (by rw [h1, Nat.add_mul]; omega)
    have e2 : (i + 1) * sz - x.cells.length = i * sz := by rw [h1, Nat.add_mul]; omega
    rw [flat_cons, List.drop_append, e, e2, List.nil_append, ← this]

theorem one_cells {v : Val} (h : v.one = true) : v.cells = [v] := by cases v <;> first | rfl | cases h

theorem chunks_length (sz : Nat) : ∀ (n : Nat) (cs : List Val), (chunks sz n cs).length = n
  | 0, _ => rfl
  | n + 1, cs => by simp [chunks, chunks_length sz n]

theorem chunks_flat (sz : Nat) : ∀ (n : Nat) (cs : List Val), cs.length = n * sz → cs.all Val.one = true → flat (chunks sz n cs) = cs ∧ ∀ x ∈ chunks sz n cs, x.cells.length = sz
  | 0, cs, h, _ => by
    have : cs = [] := List.eq_nil_of_length_eq_zero (by simpa using h)
    subst this
    exact ⟨rfl, by simp [chunks]⟩
  | n + 1, cs, h, h1 => by
    have hl : sz ≤ cs.length := by rw [h, Nat.add_mul]; omega
    have h2 : (cs.drop sz).all Val.one = true := by
      simp only [List.all_eq_true] at h1 ⊢
      exact fun x hx => h1 x (List.mem_of_mem_drop hx)
    obtain ⟨i1, i2⟩ := chunks_flat sz n (cs.drop sz) (by rw [List.length_drop, h, Nat.add_mul]; omega) h2
    have hx : (if sz = 1 then cs.headD .undef else .agg (cs.take sz) : Val).cells = cs.take sz := by
      split
      · rename_i he
        subst he
        match cs, hl, h1 with
        | c :: r, _, h1 =>
          simp only [List.all_cons, Bool.and_eq_true] at h1
          simpa using one_cells h1.1
      · rfl
    refine ⟨?_, ?_⟩
    · rw [chunks, flat_cons, hx, i1, List.take_append_drop]
    · intro x hxm
      rw [chunks, List.mem_cons] at hxm
      rcases hxm with rfl | hxm
      · rw [hx, List.length_take]; omega
      · exact i2 x hxm

theorem fold_put (off : Nat) : ∀ (l : List Value) (k : Nat) (cells : Array Value), off + k + l.length ≤ cells.size →
    (l.zipIdx k).foldl (fun cs (p : Value × Nat) => cs.setIfInBounds (off + p.2) p.1) cells = (cells.toList.take (off + k) ++ l ++ cells.toList.drop (off + k + l.length)).toArray
  | [], k, cells, _ => by simp
  | v :: rest, k, cells, h => by
    have hl : off + k + (rest.length + 1) ≤ cells.size := by simpa using h
    rw [List.zipIdx_cons, List.foldl_cons]
    rw [fold_put off rest (k + 1) _ (by simp; omega)]
    have e := list_seg_step cells.toList (off + k) v rest (by simpa using hl)
    simp only [Array.toList_setIfInBounds, List.length_cons]
    rw [show off + (k + 1) = off + k + 1 by omega, ← Nat.add_assoc, e]
    rfl

theorem VRels.putCells {γ : Gh} {vs ns : List Val} {us ms : List Value} (o : Nat) (h : VRels γ vs us) (hn : VRels γ ns ms) :
    VRels γ (putCells vs o ns) (us.take o ++ ms ++ us.drop (o + ms.length)) := by
  unfold Go.Ev.putCells
  rw [hn.length]
  exact ((h.take o).append hn).append (h.drop _)

theorem putCells_length {vs ns : List Val} {o : Nat} (h : o + ns.length ≤ vs.length) : (putCells vs o ns).length = vs.length := by
  simp [putCells]; omega

theorem putCells_one {vs ns : List Val} {o : Nat} (h : vs.all Val.one = true) (hn : ns.all Val.one = true) : (putCells vs o ns).all Val.one = true := by
  simp only [putCells, List.all_append, Bool.and_eq_true, List.all_eq_true] at *
  exact ⟨⟨fun x hx => h x (List.mem_of_mem_take hx), hn⟩, fun x hx => h x (List.mem_of_mem_drop hx)⟩

theorem fillV_one : ∀ (ps : List (Nat × Nat × Val)) (_ : ∀ p ∈ ps, p.2.2.st = true → p.2.2.cells.all Val.one = true) {cs cs' : List Val}, fillV cs ps = some cs' → cs.all Val.one = true → cs'.all Val.one = true ∧ cs'.length = cs.length
  | [], _, cs, cs', h, h1 => by simp [fillV] at h; subst h; exact ⟨h1, rfl⟩
  | (o, n, v) :: r, hp, cs, cs', h, h1 => by
    simp only [fillV] at h
    split at h
    · rename_i hc
      obtain ⟨hc1, hc2, hc3⟩ := hc
      obtain ⟨i1, i2⟩ := fillV_one r (fun p hm => hp p (by simp [hm])) h (putCells_one h1 (hp (o, n, v) (by simp) hc3))
      exact ⟨i1, by rw [i2, putCells_length (by omega)]⟩
    · cases h

theorem fillV_length : ∀ (ps : List (Nat × Nat × Val)) {cs cs' : List Val}, fillV cs ps = some cs' → cs'.length = cs.length
  | [], cs, cs', h => by simp [fillV] at h; subst h; rfl
  | (o, n, v) :: r, cs, cs', h => by
    simp only [fillV] at h
    split at h
    · rename_i hc
      obtain ⟨hc1, hc2, hc3⟩ := hc
      rw [fillV_length r h, putCells_length (by omega)]
    · cases h

/-- A part of a literal on the two sides. -/
structure PartOk (γ : Gh) (place : Nat → Option (Nat × Nat)) (x : Nat × Nat × Val) (y : Nat × Value) : Prop where
  place : place y.1 = some (x.1, x.2.1)
  rel : VRel γ x.2.2 y.2

inductive PartsOk (γ : Gh) (place : Nat → Option (Nat × Nat)) : List (Nat × Nat × Val) → List (Nat × Value) → Prop
  | nil : PartsOk γ place [] []
  | cons {x : Nat × Nat × Val} {y : Nat × Value} {xs : List (Nat × Nat × Val)} {ys : List (Nat × Value)} (h : PartOk γ place x y) (hs : PartsOk γ place xs ys) : PartsOk γ place (x :: xs) (y :: ys)

theorem PartsOk.one {γ : Gh} {place : Nat → Option (Nat × Nat)} : ∀ {ps : List (Nat × Nat × Val)} {qs : List (Nat × Value)}, PartsOk γ place ps qs → ∀ p ∈ ps, p.2.2.st = true → p.2.2.cells.all Val.one = true
  | _, _, .nil => by simp
  | _, _, .cons h hs => by
    intro p hp
    rw [List.mem_cons] at hp
    rcases hp with rfl | hp
    · exact h.rel.cellsOne
    · exact hs.one p hp

theorem fill_rel {γ : Gh} {place : Nat → Option (Nat × Nat)} : ∀ {ps : List (Nat × Nat × Val)} {qs : List (Nat × Value)}, PartsOk γ place ps qs → ∀ {cs cs' : List Val} {us : Array Value}, VRels γ cs us.toList →
    fillV cs ps = some cs' → ∃ us', Instr.fill place us qs = some us' ∧ VRels γ cs' us'.toList
  | _, _, .nil, cs, cs', us, hv, hf => by
    simp [fillV] at hf; subst hf
    exact ⟨us, rfl, hv⟩
  | (o, n, v) :: ps, (i, u) :: qs, .cons hp hs, cs, cs', us, hv, hf => by
    simp only [fillV] at hf
    split at hf
    · rename_i hc
      obtain ⟨hc1, hc2, hc3⟩ := hc
      have hpl : place i = some (o, n) := hp.place
      have hr : VRel γ v u := hp.rel
      have hcl := hr.cells
      have hlen := hcl.length
      have hvl := hv.length
      simp only [Array.length_toList] at hlen hvl
      have hfold : u.cells.zipIdx.foldl (fun cs (c, j) => cs.setIfInBounds (o + j) c) us = (us.toList.take o ++ u.cells.toList ++ us.toList.drop (o + u.cells.toList.length)).toArray := by
        have := fold_put o u.cells.toList 0 us (by simp; omega)
        simp only [Nat.add_zero] at this
        rw [← this, ← Array.foldl_toList]
        simp
      have hput := hv.putCells o hcl
      obtain ⟨us', h1, h2⟩ := fill_rel hs (us := (us.toList.take o ++ u.cells.toList ++ us.toList.drop (o + u.cells.toList.length)).toArray) (by simpa using hput) hf
      refine ⟨us', ?_, h2⟩
      simp only [Instr.fill, hpl]
      rw [if_neg (by simp; omega), hfold]
      exact h1
    · cases hf

end Go.Ev
