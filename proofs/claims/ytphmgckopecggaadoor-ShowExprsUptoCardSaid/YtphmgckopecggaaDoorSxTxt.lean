/- The text of an expression, in plain Lean. -/
import Derived.Test.YtphmgckopecggaaDoorSxSpec
import Derived.Test.YtphmgckopecggaaDoorSxHook
namespace Go.Sx
open Go Go.Ev

/-- A sign's level. -/
def lev (s : List UInt8) : Int :=
  if s == [124, 124] then 1 else if s == [38, 38] then 2 else if s == [61, 61] then 3 else if s == [60] then 3 else if s == [43] then 4 else if s == [45] then 4 else if s == [42] then 5 else 0

def Expr.kind : Expr → Int
  | .mk k _ _ _ _ _ _ => k
def Expr.name : Expr → List UInt8
  | .mk _ _ _ nm _ _ _ => nm
def zeroE : Expr := .mk 0 0 0 [] [] .nil []

def wrapB (e : Expr) (s : List UInt8) (least : Int) : List UInt8 := if e.kind = 5 ∧ lev e.name < least then 40 :: s ++ [41] else s

def commas (l : List (List UInt8)) : List UInt8 := Lib.join l [44, 32]

mutual
def txt : Expr → List UInt8
  | .mk k _ n nm lb _ l =>
    if k = 0 then Lib.itoa n
    else if k = 1 then (if n = 0 then [102, 97, 108, 115, 101] else [116, 114, 117, 101])
    else if k = 2 then nm
    else if k = 3 then nm ++ [40] ++ commas (txts l) ++ [41]
    else if k = 4 then nm ++ wrapB (l.getD 0 zeroE) ((txts l).getD 0 [48]) 6
    else if k = 5 then wrapB (l.getD 0 zeroE) ((txts l).getD 0 [48]) (lev nm) ++ [32] ++ nm ++ [32] ++ wrapB (l.getD 1 zeroE) ((txts l).getD 1 [48]) (lev nm + 1)
    else if k = 6 then [100, 101, 99, 108, 97, 115, 115, 105, 102, 121, 40] ++ (txts l).getD 0 [48] ++ [44, 32, 64] ++ lb ++ [41]
    else []
def txts : List Expr → List (List UInt8)
  | [] => []
  | e :: l => txt e :: txts l
end

theorem txts_map : ∀ l, txts l = l.map txt
  | [] => rfl
  | e :: l => by simp [txts, txts_map l]

theorem txt_zero : txt zeroE = [48] := by
  simp [zeroE, txt, Lib.itoa]
  rw [Lib.decDigits]; rfl

theorem txts_getD (l : List Expr) (i : Nat) : (txts l).getD i [48] = txt (l.getD i zeroE) := by
  rw [txts_map, ← txt_zero]
  simp [List.getD, List.getElem?_map]

mutual
/-- What an expression weighs: more than its text is long. -/
def wt : Expr → Nat
  | .mk _ _ _ nm lb _ l => 40 + nm.length + lb.length + wts l
def wts : List Expr → Nat
  | [] => 0
  | e :: l => wt e + wts l
end

theorem lev_bd (s : List UInt8) : 0 ≤ lev s ∧ lev s ≤ 5 := by
  unfold lev
  repeat' split
  all_goals omega

theorem decDigits_len : ∀ (f u : Nat), u < 10 ^ (f + 1) → (Lib.decDigits u).length ≤ f + 1
  | 0, u, h => by
    rw [Lib.decDigits, dif_pos (by simpa using h)]
    simp
  | f + 1, u, h => by
    rw [Lib.decDigits]
    split
    · simp
    · have := decDigits_len f (u / 10) (by rw [Nat.pow_succ] at h; omega)
      simp
      omega

theorem itoa_len {n : Int} (h0 : -9223372036854775808 ≤ n) (h1 : n ≤ 9223372036854775807) : (Lib.itoa n).length ≤ 20 := by
  have e : (10 : Nat) ^ 19 = 10000000000000000000 := by decide
  unfold Lib.itoa
  split
  · have := decDigits_len 18 n.natAbs (by rw [e]; omega)
    simp; omega
  · have := decDigits_len 18 n.toNat (by rw [e]; omega)
    omega

theorem joinTail_len (sep : List UInt8) : ∀ (l : List (List UInt8)), (Lib.joinTail sep l).length = (l.map List.length).sum + sep.length * l.length
  | [] => by simp [Lib.joinTail]
  | x :: l => by
    have := joinTail_len sep l
    simp only [Lib.joinTail, List.map_cons, List.flatten_cons, List.length_append, List.sum_cons, List.length_cons, Nat.mul_add] at this ⊢
    omega
theorem join_len (sep : List UInt8) (l : List (List UInt8)) : (Lib.join l sep).length ≤ (l.map List.length).sum + sep.length * l.length := by
  cases l with
  | nil => simp [Lib.join_nil]
  | cons x l =>
    rw [Lib.join_cons, List.length_append, joinTail_len]
    simp only [List.map_cons, List.sum_cons, List.length_cons, Nat.mul_add]
    omega

theorem wrapB_len (e : Expr) (s : List UInt8) (n : Int) : (wrapB e s n).length ≤ s.length + 2 := by
  unfold wrapB
  split
  · simp
  · omega

theorem wts_mem : ∀ {l : List Expr} {e : Expr}, e ∈ l → wt e ≤ wts l
  | [], e, h => by cases h
  | x :: l, e, h => by
    rw [wts]
    cases h with
    | head => omega
    | tail _ h => have := wts_mem h; omega

theorem wts_two : ∀ (l : List Expr), (wt (l.getD 0 zeroE) ≤ wts l ∨ l.getD 0 zeroE = zeroE) ∧ (wt (l.getD 0 zeroE) + wt (l.getD 1 zeroE) ≤ wts l ∨ l.getD 1 zeroE = zeroE)
  | [] => ⟨.inr rfl, .inr rfl⟩
  | [x] => ⟨.inl (by simp [wts]), .inr rfl⟩
  | x :: y :: l => ⟨.inl (by simp [wts]), .inl (by simp only [wts, List.getD_cons_zero, List.getD_cons_succ]; omega)⟩

theorem txt_len : ∀ e : Expr, e.ok → (txt e).length + 10 ≤ wt e := by
  intro e
  induction e using Expr.ind with
  | h k a n nm lb o l ih =>
  intro hok
  simp only [Expr.ok] at hok
  have hc : ∀ i, (txt (l.getD i zeroE)).length + 10 ≤ wt (l.getD i zeroE) ∧ (l.getD i zeroE = zeroE → (txt (l.getD i zeroE)).length = 1) := by
    intro i
    refine ⟨?_, fun h => by rw [h, txt_zero]; rfl⟩
    by_cases hi : i < l.length
    · have : l.getD i zeroE = l[i] := by simp [List.getD, hi]
      rw [this]
      exact ih _ (List.getElem_mem hi) (oks_mem hok.2.2.2 _ (List.getElem_mem hi))
    · have : l.getD i zeroE = zeroE := by simp [List.getD, Nat.le_of_not_lt hi]
      rw [this, txt_zero]
      simp [zeroE, wt, wts]
  have h2 := wts_two l
  have c0 := hc 0
  have c1 := hc 1
  have hs : ∀ l : List Expr, (∀ x ∈ l, x.ok → (txt x).length + 10 ≤ wt x) → Expr.oks l → ((txts l).map List.length).sum + 10 * (txts l).length ≤ wts l := by
    intro l hl ho
    induction l with
    | nil => simp [txts, wts]
    | cons x l ih =>
      simp only [Expr.oks] at ho
      have h1 := hl x (by simp) ho.1
      have h2 := ih (fun y hy => hl y (by simp [hy])) ho.2
      simp only [txts, wts, List.map_cons, List.sum_cons, List.length_cons]
      omega
  have hss := hs l (fun x hx => ih x hx) hok.2.2.2
  have hj := join_len [44, 32] (txts l)
  have hi := itoa_len hok.2.1.1 hok.2.1.2
  have w0 := fun s m => wrapB_len (l.getD 0 zeroE) s m
  have w1 := fun s m => wrapB_len (l.getD 1 zeroE) s m
  rw [txt, wt]
  simp only [txts_getD, commas]
  simp only [List.length_cons, List.length_nil] at hj
  have g1 := fun m => w0 (txt (l.getD 0 zeroE)) m
  have g2 := fun m => w1 (txt (l.getD 1 zeroE)) m
  have g3 := g1 6
  have g4 := g1 (lev nm)
  have g5 := g2 (lev nm + 1)
  have z : zeroE = zeroE := rfl
  have e0 : wt (l.getD 0 zeroE) ≤ wts l ∨ (txt (l.getD 0 zeroE)).length = 1 := h2.1.imp id c0.2
  have e1 : wt (l.getD 0 zeroE) + wt (l.getD 1 zeroE) ≤ wts l ∨ (txt (l.getD 1 zeroE)).length = 1 := h2.2.imp id c1.2
  have i0 := c0.1
  have i1 := c1.1
  repeat' split
  all_goals try simp only [List.length_append, List.length_cons, List.length_nil]
  all_goals omega
end Go.Sx
