/- The library's functions that the program calls, as answers of the evaluator. -/
import Derived.Test.YtphmgckopecggaaDoorHook
import Derived.Test.YtphmgckopecggaaDoorSxShelf
import Derived.Test.YtphmgckopecggaaDoorSxTab
import Derived.Lib.LaidTab
import Derived.Lib.Fields
namespace Go.Sx
open Go Go.Ev Go.Proofs
open Go.RowKit (Below)

/-! plain functions that the kernel reckons -/

def decF : Nat → Nat → List UInt8
  | 0, _ => []
  | f + 1, u => if u < 10 then [UInt8.ofNat (48 + u)] else decF f (u / 10) ++ [UInt8.ofNat (48 + u % 10)]

theorem decF_eq : ∀ (f u : Nat), u < 10 ^ (f + 1) → decF (f + 1) u = Lib.decDigits u
  | 0, u, h => by
    rw [decF, Lib.decDigits, if_pos (by simpa using h), dif_pos (by simpa using h)]
  | f + 1, u, h => by
    rw [decF, Lib.decDigits]
    split
    · rfl
    · rw [decF_eq f (u / 10) (by rw [Nat.pow_succ] at h; omega)]

def itoaF (n : Int) : List UInt8 := if n < 0 then 45 :: decF 19 n.natAbs else decF 19 n.toNat

theorem itoaF_eq (n : Int) (h0 : -9223372036854775808 ≤ n) (h1 : n ≤ 9223372036854775807) : itoaF n = Lib.itoa n := by
  unfold itoaF Lib.itoa
  have e : (10 : Nat) ^ 19 = 10000000000000000000 := by decide
  split
  · rw [decF_eq 18 _ (by rw [e]; omega)]
  · rw [decF_eq 18 _ (by rw [e]; omega)]

def idxF : List UInt8 → UInt8 → Int → Int
  | [], _, _ => -1
  | b :: l, c, k => if b = c then k else idxF l c (k + 1)

theorem idxF_eq : ∀ (l : List UInt8) (c : UInt8) (k : Int), 0 ≤ k → idxF l c k = (if Lib.indexByte l c = -1 then -1 else Lib.indexByte l c + k)
  | [], c, k, _ => by simp [idxF, Lib.indexByte]
  | b :: l, c, k, hk => by
    rw [idxF, Lib.indexByte]
    by_cases h : b = c
    · subst h
      simp
    · have hb : (b == c) = false := by simpa using h
      rw [if_neg h, idxF_eq l c (k + 1) (by omega)]
      simp only [hb, Bool.false_eq_true, if_false]
      have := Lib.indexByte_ge l c
      by_cases h1 : Lib.indexByte l c = -1
      · simp [h1]
      · have h2 : (Lib.indexByte l c == -1) = false := by simpa using h1
        simp only [h1, h2, Bool.false_eq_true, if_false]
        rw [if_neg (by omega)]
        omega

def strsOf : List Val → Option (List ByteArray)
  | [] => some []
  | .str s :: r => (strsOf r).map (s :: ·)
  | _ => none

def strV (l : List UInt8) : Val := .str ⟨l.toArray⟩

def hFormat : Hook := fun args σ =>
  match args with
  | [.int .i64 n, .int .i64 10] => if -9223372036854775808 ≤ n ∧ n ≤ 9223372036854775807 then some (strV (itoaF n), σ) else none
  | _ => none

def hJoin : Hook := fun args σ =>
  match args with
  | [.lst s xs _, .str sep] =>
    if s = 1 ∨ xs = [] then
      match strsOf xs with
      | some l => if l.length ≤ 140737488355328 ∧ (Lib.join (l.map (·.data.toList)) sep.data.toList).length ≤ 140737488355328 then some (strV (Lib.join (l.map (·.data.toList)) sep.data.toList), σ) else none
      | none => none
    else none
  | _ => none

def hFields : Hook := fun args σ =>
  match args with
  | [.str s] => if s.size < 4294967281 ∧ s.data.toList.all (fun b => decide (b.toNat < 128)) = true then some (.lst 1 ((Lib.fields s.data.toList).map strV) .full, σ) else none
  | _ => none

def hIndex : Hook := fun args σ =>
  match args with
  | [.str s, .int .u8 c] => some (.int .i64 (idxF s.data.toList c.toNat.toUInt8 0), σ)
  | _ => none

def H : FuncId → Option Hook
  | 13 => some hFormat
  | 15 => some hJoin
  | 32 => some hFields
  | 55 => some hIndex
  | _ => none

def rows (b : Nat) : Option (Array Value) :=
  match b with
  | 0 => some (Lib.asciiSpaceTab.map fun z => Value.int .u8 z).toArray
  | 1 => some (Lib.pow10Tab.map fun z => Value.int .u64 z).toArray
  | _ => none

instance : Glob := ⟨rows⟩

theorem tabSpace {γ : Gh} {σ : Hp} {w : World} (h : WInv γ σ w) : Lib.TabIs Tryd.prog w "strings.asciiSpace" .u8 Lib.asciiSpaceTab := by
  obtain ⟨⟨e, fr, h1⟩, _⟩ := h.glob 0 _ rfl
  have hg : Tryd.prog.globalNamed "strings.asciiSpace" = some 0 := by kernel_rfl
  simp [Lib.TabIs, World.var?, hg, h1]

theorem tabPow {γ : Gh} {σ : Hp} {w : World} (h : WInv γ σ w) : Lib.TabIs Tryd.prog w "internal/strconv.uint64pow10" .u64 Lib.pow10Tab := by
  obtain ⟨⟨e, fr, h1⟩, _⟩ := h.glob 1 _ rfl
  have hg : Tryd.prog.globalNamed "internal/strconv.uint64pow10" = some 1 := by kernel_rfl
  simp [Lib.TabIs, World.var?, hg, h1]

theorem strsOf_rel {γ : Gh} : ∀ {xs : List Val} {l : List ByteArray} {us : List Value}, strsOf xs = some l → VRels γ (flat xs) us → us = l.map Value.string ∧ l.length = xs.length
  | [], l, us, h, hv => by
    simp [strsOf] at h; subst h
    cases hv
    exact ⟨rfl, rfl⟩
  | .str s :: r, l, us, h, hv => by
    simp only [strsOf, Option.map_eq_some_iff] at h
    obtain ⟨l', h1, rfl⟩ := h
    rw [flat_cons] at hv
    cases hv with
    | cons a b =>
      cases a
      obtain ⟨h2, h3⟩ := strsOf_rel h1 b
      exact ⟨by rw [h2]; rfl, by simp [h3]⟩

theorem below_grow (w : World) (k : Nat) (os : Array Obj) : Below w.heap.size w (Sort.grow (w.drewN k) os) := by
  refine ⟨rfl, rfl, rfl, ?_, fun j hj => ?_⟩
  · show w.heap.size ≤ (w.heap ++ os).size
    simp
  · show (w.heap ++ os)[j]? = _
    rw [Array.getElem?_append_left hj]

theorem hasBody13 : HasBody Tryd.prog 13 := ⟨_, Tryd.func13, by kernel_rfl, by kernel_rfl⟩
theorem hasBody15 : HasBody Tryd.prog 15 := ⟨_, Tryd.func15, by kernel_rfl, by kernel_rfl⟩
theorem hasBody32 : HasBody Tryd.prog 32 := ⟨_, Tryd.func32, by kernel_rfl, by kernel_rfl⟩
theorem hasBody55 : HasBody Tryd.prog 55 := ⟨_, Tryd.func55, by kernel_rfl, by kernel_rfl⟩

theorem hookOk : HookOk Tryd.prog H := by
  intro g h args σ v σ' hg ha
  unfold H at hg
  split at hg
  · cases hg
    refine ⟨hasBody13, fun γ w us hW hargs => ?_⟩
    unfold hFormat at ha
    split at ha
    · split at ha
      · rename_i n hc
        simp only [Option.some.injEq, Prod.mk.injEq] at ha
        obtain ⟨rfl, rfl⟩ := ha
        cases hargs with
        | cons a b =>
        cases b with
        | cons b c =>
        cases a; cases b; cases c
        refine (Tryd.strconv_FormatInt_10 n hc.1 hc.2 w (tabPow hW)).mono ?_
        rintro e w' ⟨rfl, k, os, rfl⟩
        rw [← itoaF_eq n hc.1 hc.2]
        exact post_below hW (.str _) rfl (below_grow w k os)
      · cases ha
    · cases ha
  · cases hg
    refine ⟨hasBody15, fun γ w us hW hargs => ?_⟩
    unfold hJoin at ha
    split at ha
    · rename_i s xs o sep
      split at ha
      · rename_i hs
        split at ha
        · rename_i l hl
          split at ha
          · rename_i hc
            simp only [Option.some.injEq, Prod.mk.injEq] at ha
            obtain ⟨rfl, rfl⟩ := ha
            cases hargs with
            | cons a b =>
            cases b with
            | cons b c =>
            cases b; cases c
            cases a with
            | lst s xs o ad n c us hn hcc hss hv haa hok h1v =>
              obtain ⟨h2, h3⟩ := strsOf_rel hl hv
              subst h2
              rcases haa with h0 | ⟨b, off, rfl, hi⟩
              · subst h0
                have hl0 : l = [] := List.eq_nil_of_length_eq_zero (by omega)
                subst hl0
                refine (Tryd.strings_Join_none ad c sep w).mono ?_
                rintro e w' ⟨rfl, rfl⟩
                exact post_below hW (.str _) rfl (Below.refl _ _)
              · by_cases h0 : n = 0
                · subst h0
                  have hl0 : l = [] := List.eq_nil_of_length_eq_zero (by omega)
                  subst hl0
                  refine (Tryd.strings_Join_none _ c sep w).mono ?_
                  rintro e w' ⟨rfl, rfl⟩
                  exact post_below hW (.str _) rfl (Below.refl _ _)
                · have hcell : ∀ (j : Nat) x, l[j]? = some x → w.cell? ⟨b, off + j, none⟩ = some (.string x) := by
                    intro j x hx
                    have hj : j < (l.map Value.string).length := by
                      have := (List.getElem?_eq_some_iff.1 hx).1
                      simpa using this
                    refine hW.imOk _ _ _ ((hi j hj).trans ?_)
                    simp [hx]
                  have hbk : b < w.heap.size := by
                    have h4 : 0 < l.length := by omega
                    exact World.block_lt_of_cell? w _ (hcell 0 l[0] (by simp [h4]))
                  have := Tryd.strings_Join b off c l sep w hcell hbk hc.1 (by omega) hc.2
                  rw [h3, ← hn] at this
                  refine this.mono ?_
                  rintro e w' ⟨rfl, hb⟩
                  exact post_below hW (.str _) rfl hb
          · cases ha
        · cases ha
      · cases ha
    · cases ha
  · cases hg
    refine ⟨hasBody32, fun γ w us hW hargs => ?_⟩
    unfold hFields at ha
    split at ha
    · rename_i s
      split at ha
      · rename_i hc
        simp only [Option.some.injEq, Prod.mk.injEq] at ha
        obtain ⟨rfl, rfl⟩ := ha
        cases hargs with
        | cons a b =>
        cases a; cases b
        refine (Tryd.strings_Fields_laid s w hc.1 (fun j b hb => ?_) (tabSpace hW)).mono ?_
        · have := List.all_eq_true.1 hc.2 b (List.mem_of_getElem? hb)
          simpa using this
        · rintro e w' ⟨rfl, rfl⟩
          obtain ⟨h1, h2⟩ := hW.newIm ((Lib.fields s.data.toList).map fun l => Value.string ⟨l.toArray⟩) ((Lib.fields s.data.toList).map fun l => Value.string ⟨l.toArray⟩).toArray 9 (0, 0) (fun j x hx => by simpa using hx)
          refine ⟨_, _, rfl, ?_, h1, h2⟩
          have hfl : ∀ l : List (List UInt8), VRels (γ.addIm w.heap.size 0 ((Lib.fields s.data.toList).map fun l => Value.string ⟨l.toArray⟩)) (flat (l.map strV)) (l.map fun l => Value.string ⟨l.toArray⟩) ∧ (flat (l.map strV)).all Val.one = true := by
            intro l
            induction l with
            | nil => exact ⟨.nil, rfl⟩
            | cons x r ih => exact ⟨.cons (.str _) ih.1, ih.2⟩
          refine .lst 1 _ .full _ _ _ _ (by simp) (Nat.le_refl _) (fun x hx => ?_) (hfl _).1 (.inr ⟨_, _, rfl, addIm_zero _ _ _⟩) ⟨by simp, rfl⟩ (hfl _).2
          rw [List.mem_map] at hx
          obtain ⟨y, _, rfl⟩ := hx
          rfl
      · cases ha
    · cases ha
  · cases hg
    refine ⟨hasBody55, fun γ w us hW hargs => ?_⟩
    unfold hIndex at ha
    split at ha
    · rename_i s c
      simp only [Option.some.injEq, Prod.mk.injEq] at ha
      obtain ⟨rfl, rfl⟩ := ha
      cases hargs with
      | cons a b =>
      cases b with
      | cons b c =>
      cases a; cases b; cases c
      refine (Tryd.strings_IndexByte s c w).mono ?_
      rintro e w' ⟨rfl, rfl⟩
      refine post_below hW ?_ rfl (Below.refl _ _)
      rw [idxF_eq _ _ _ (Int.le_refl 0)]
      have : (if Lib.indexByte s.data.toList c.toNat.toUInt8 = -1 then -1 else Lib.indexByte s.data.toList c.toNat.toUInt8 + 0) = Lib.indexByte s.data.toList c.toNat.toUInt8 := by
        split <;> omega
      rw [this]
      exact .int _ _
    · cases ha
  · cases hg

end Go.Sx
