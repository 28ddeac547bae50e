/- What the functions compute, in plain Lean. -/
import Derived.Test.YtphmgckopecggaaDoorGrow
namespace Go.Sx
open Go Go.Ev

/-- An expression, as the program holds it. -/
inductive Expr where
  | mk (kind at_ num : Int) (name label : List UInt8) (o : Own) (l : List Expr)

theorem Expr.ind {P : Expr → Prop} (h : ∀ k a n nm lb o l, (∀ x ∈ l, P x) → P (.mk k a n nm lb o l)) : ∀ e, P e
  | .mk k a n nm lb o l => h k a n nm lb o l (go l)
where
  go : ∀ (l : List Expr), ∀ x ∈ l, P x
    | [], x, hx => by cases hx
    | y :: l, x, hx => by
      cases hx with
      | head => exact Expr.ind h y
      | tail _ hx => exact go l x hx

mutual
def Expr.enc : Expr → Val
  | .mk k a n nm lb o l => .agg [.int .i64 k, .int .i64 a, .int .i64 n, .str (bs nm), .str (bs lb), .lst (lsz o 6) (Expr.encs l) o]
def Expr.encs : List Expr → List Val
  | [] => []
  | e :: l => e.enc :: Expr.encs l
end

theorem encs_map : ∀ (l : List Expr), Expr.encs l = l.map Expr.enc
  | [] => rfl
  | e :: l => by simp [Expr.encs, encs_map l]

mutual
/-- Every list of it may be read, no more. -/
def Expr.ok : Expr → Prop
  | .mk _ _ n nm lb o l => (o.fz = o ∧ (o = .nil → l = [])) ∧ (-9223372036854775808 ≤ n ∧ n ≤ 9223372036854775807) ∧ (nm.length ≤ 1099511627776 ∧ lb.length ≤ 1099511627776 ∧ l.length ≤ 1099511627776) ∧ Expr.oks l
def Expr.oks : List Expr → Prop
  | [] => True
  | e :: l => e.ok ∧ Expr.oks l
end

theorem oks_mem : ∀ {l : List Expr}, Expr.oks l → ∀ e ∈ l, e.ok
  | [], _, e, he => by cases he
  | x :: l, h, e, he => by
    simp only [Expr.oks] at h
    cases he with
    | head => exact h.1
    | tail _ he => exact oks_mem h.2 e he

mutual
theorem enc_closed : ∀ (e : Expr), e.enc.closed = true
  | .mk k a n nm lb o l => by simp [Expr.enc, Val.closed, Val.closeds, encs_closed l]
theorem encs_closed : ∀ (l : List Expr), Val.closeds (Expr.encs l) = true
  | [] => by simp [Expr.encs, Val.closeds]
  | e :: l => by simp [Expr.encs, Val.closeds, enc_closed e, encs_closed l]
end
mutual
theorem enc_fz : ∀ (e : Expr), e.ok → e.enc.fz = e.enc
  | .mk k a n nm lb o l, h => by
    simp only [Expr.ok] at h
    simp [Expr.enc, Val.fz, Val.fzs, encs_fz l h.2.2.2, h.1.1]
theorem encs_fz : ∀ (l : List Expr), Expr.oks l → Val.fzs (Expr.encs l) = Expr.encs l
  | [], _ => by simp [Expr.encs, Val.fzs]
  | e :: l, h => by
    simp only [Expr.oks] at h
    simp [Expr.encs, Val.fzs, enc_fz e h.1, encs_fz l h.2]
end

/-- A text's letters, a hundred a part. -/
def hund (s : List UInt8) : Int := (min (s.length : Int) 1000).tdiv 100

mutual
def great : Expr → Int → Int
  | .mk _ _ _ nm lb _ l, left => greats l (left - 1 - hund nm - hund lb)
def greats : List Expr → Int → Int
  | [], left => left
  | e :: l, left => if 0 ≤ left then greats l (great e left) else left
end

theorem hund_bd (s : List UInt8) : 0 ≤ hund s ∧ hund s ≤ 10 := by
  unfold hund
  have h : 0 ≤ min (s.length : Int) 1000 := by omega
  rw [Int.tdiv_eq_ediv_of_nonneg h]
  omega

mutual
theorem great_bd : ∀ (e : Expr) (left : Int), left ≤ 1000 → great e left ≤ left ∧ (0 ≤ left → -21 ≤ great e left)
  | .mk _ _ _ nm lb _ l, left, h => by
    have h1 := hund_bd nm
    have h2 := hund_bd lb
    have := greats_bd l (left - 1 - hund nm - hund lb) (by omega)
    rw [great]
    omega
theorem greats_bd : ∀ (l : List Expr) (left : Int), left ≤ 1000 → greats l left ≤ left ∧ (-21 ≤ left → -21 ≤ greats l left)
  | [], left, h => by simp [greats]
  | e :: l, left, h => by
    rw [greats]
    split
    · have h1 := great_bd e left h
      have h2 := greats_bd l (great e left) (by omega)
      omega
    · omega
end
end Go.Sx
