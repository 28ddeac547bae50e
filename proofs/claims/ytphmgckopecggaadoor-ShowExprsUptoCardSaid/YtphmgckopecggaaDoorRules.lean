/- Rules that turn on a fact of arithmetic (for 'simp' with omega as its discharger). -/
import Derived.Test.YtphmgckopecggaaDoorWp
import Derived.IntWalk
namespace Go.Ev

theorem wrap_i64 {n : Int} (h : -9223372036854775808 ≤ n ∧ n ≤ 9223372036854775807) : IntKind.i64.wrap n = n := IntWalk.i64_in n h
theorem wrap_u8 {n : Int} (h : 0 ≤ n ∧ n ≤ 255) : IntKind.u8.wrap n = n := IntWalk.u8_in n h
theorem wrap_u64 {n : Int} (h : 0 ≤ n ∧ n ≤ 18446744073709551615) : IntKind.u64.wrap n = n := IntWalk.u64_in n h
theorem min_if (a b : Int) : (if b < a then b else a) = min a b := by omega
theorem max_if (a b : Int) : (if a < b then b else a) = max a b := by omega
theorem tdiv_pos {a b : Int} (h : 0 ≤ a) : a.tdiv b = a / b := Int.tdiv_eq_ediv_of_nonneg h
theorem tmod_pos {a b : Int} (h : 0 ≤ a) : a.tmod b = a % b := Int.tmod_eq_emod_of_nonneg h
theorem dlt_t {a b : Int} (h : a < b) : decide (a < b) = true := by simpa using h
theorem dlt_f {a b : Int} (h : b ≤ a) : decide (a < b) = false := by simpa using h
theorem dle_t {a b : Int} (h : a ≤ b) : decide (a ≤ b) = true := by simpa using h
theorem dle_f {a b : Int} (h : b < a) : decide (a ≤ b) = false := by simpa using h
theorem beq_t {a b : Int} (h : a = b) : (a == b) = true := by simpa using h
theorem beq_f {a b : Int} (h : a < b ∨ b < a) : (a == b) = false := by simp; omega
theorem bne_t {a b : Int} (h : a < b ∨ b < a) : (a != b) = true := by simp; omega
theorem bne_f {a b : Int} (h : a = b) : (a != b) = false := by simp [h]

def iaddrV (sz : Nat) (x i : Val) : Option Val :=
  match x, i with
  | .lst s xs _, .int _ k =>
    if 0 ≤ k ∧ k < xs.length ∧ s = sz then
      match xs[k.toNat]? with
      | some v => some (.iptr v.cells)
      | none => none
    else none
  | .ref s id off n, .int _ k => if 0 ≤ k ∧ k < n ∧ s = sz then some (.ptr (some (id, off + k.toNat * sz))) else none
  | _, _ => none

theorem op_iaddr (call : CallF) (t : Nat → Val) (σ : Hp) (sz : Nat) (x i : CO) : evOp call (.iaddr sz x i) (t, σ) = match iaddrV sz (x.ev t) (i.ev t) with | some v => some (v, σ) | none => none := by
  show COp.ev t σ (.iaddr sz x i) = _
  simp only [COp.ev]
  generalize x.ev t = a
  generalize i.ev t = b
  cases a <;> cases b <;> simp only [iaddrV]
  · split
    · rename_i xs _ _ j _
      cases xs[j.toNat]? <;> rfl
    · rfl
  · split <;> rfl

theorem iaddrV_l {sz : Nat} {xs : List Val} {o : Own} {k : IntKind} {j : Int} (h : 0 ≤ j ∧ j < xs.length) : iaddrV sz (.lst sz xs o) (.int k j) = some (.iptr (xs.getD j.toNat .undef).cells) := by
  have h1 : j.toNat < xs.length := by omega
  simp [iaddrV, h, List.getD, h1]

theorem iaddrV_r {sz id off n : Nat} {k : IntKind} {j : Int} (h : 0 ≤ j ∧ j < n) : iaddrV sz (.ref sz id off n) (.int k j) = some (.ptr (some (id, off + j.toNat * sz))) := by
  simp [iaddrV, h]
end Go.Ev
namespace Go.Ev
theorem cells_agg (l : List Val) : (Val.agg l).cells = l := rfl
theorem cells_bool (b : Bool) : (Val.bool b).cells = [.bool b] := rfl
theorem cells_int (k : IntKind) (n : Int) : (Val.int k n).cells = [.int k n] := rfl
theorem cells_str (s : ByteArray) : (Val.str s).cells = [.str s] := rfl
theorem cells_ptr (a : Option (Nat × Nat)) : (Val.ptr a).cells = [.ptr a] := rfl
theorem cells_iptr (l : List Val) : (Val.iptr l).cells = [.iptr l] := rfl
theorem cells_lst (n : Nat) (l : List Val) (o : Own) : (Val.lst n l o).cells = [.lst n l o] := rfl
theorem cells_ref (a b c d : Nat) : (Val.ref a b c d).cells = [.ref a b c d] := rfl
theorem cells_map (a : Option Nat) : (Val.map a).cells = [.map a] := rfl
theorem cells_func (f : Fn) (a b : List Val) : (Val.func f a b).cells = [.func f a b] := rfl
theorem cells_nilFunc : Val.nilFunc.cells = [.nilFunc] := rfl
theorem st_agg (l : List Val) : (Val.agg l).st = true := rfl
theorem st_bool (b : Bool) : (Val.bool b).st = true := rfl
theorem st_int (k : IntKind) (n : Int) : (Val.int k n).st = true := rfl
theorem st_str (s : ByteArray) : (Val.str s).st = true := rfl
theorem st_ptr (a : Option (Nat × Nat)) : (Val.ptr a).st = true := rfl
theorem st_iptr (l : List Val) : (Val.iptr l).st = true := rfl
theorem st_lst (n : Nat) (l : List Val) (o : Own) : (Val.lst n l o).st = true := rfl
theorem st_ref (a b c d : Nat) : (Val.ref a b c d).st = true := rfl
theorem st_map (a : Option Nat) : (Val.map a).st = true := rfl
theorem st_func (f : Fn) (a b : List Val) : (Val.func f a b).st = true := rfl
theorem st_nilFunc : Val.nilFunc.st = true := rfl
theorem loadV_i (g : Bool) (n : Nat) (vs : List Val) (σ : Hp) : loadV g n (.iptr vs) σ = readV g n vs := rfl
theorem loadV_p (g : Bool) (n i o : Nat) (σ : Hp) : loadV g n (.ptr (some (i, o))) σ = match σ[i]? with | some (.cells vs) => readV g n (vs.drop o) | _ => none := rfl
theorem readV_1 (n : Nat) (v : Val) (vs : List Val) : readV false n (v :: vs) = some v := rfl
theorem readV_n (n : Nat) (v : Val) (vs : List Val) : readV true n (v :: vs) = if n ≤ (v :: vs).length then some (.agg ((v :: vs).take n)) else none := rfl
theorem storeV_p (n i o : Nat) (x : Val) (σ : Hp) : storeV n (.ptr (some (i, o))) x σ = match σ[i]? with
    | some (.cells vs) => if x.cells.length = n ∧ o + n ≤ vs.length ∧ x.st = true then some (σ.set i (.cells (putCells vs o x.cells))) else none
    | _ => none := rfl
end Go.Ev
namespace Go.Ev
section
variable {F : FuncId → Option CFn} {H : FuncId → Option Hook} {r : List Item} {t : Nat → Val} {σ : Hp} {Q : Qt}
/-- A loop, once more round (for loops that end by themselves under rewriting). -/
theorem R_unroll {b : CCode} : R F H (.cd (.loop b) :: r) t σ Q ↔ R F H (.cd b :: .lp b :: r) t σ Q := by
  constructor
  · rintro ⟨n, e, t', σ', h, hq⟩
    cases n with
    | zero => simp [evX, evC, iter] at h
    | succ n =>
    simp only [evX, evC, iter] at h
    refine ⟨n + 1, e, t', σ', ?_, hq⟩
    simp only [evX]
    cases h1 : evC (EvO F H) (n + 1) b (t, σ) with
    | none => simp [h1] at h
    | some y =>
      obtain ⟨e1, s1⟩ := y
      simp only [h1] at h
      cases e1 with
      | normal =>
        simp only [evX, evC] at h ⊢
        cases h2 : iter (evC (EvO F H) (n + 1) b) n s1 with
        | none => simp [h2] at h
        | some z =>
          simp only [h2] at h
          rw [iter_mono (fun s r hr => hr) (Nat.le_succ n) h2]
          exact h
      | exit j => simpa only [evX] using h
      | ret => simpa only [evX] using h
  · exact R_again
theorem RB_split {p : Bool} {a b : CCode} (h1 : p = true → R F H (.cd a :: r) t σ Q) (h2 : p = false → R F H (.cd b :: r) t σ Q) : RB F H (.bool p) a b r t σ Q := by
  cases p
  · exact RB_false.2 (h2 rfl)
  · exact RB_true.2 (h1 rfl)
end
end Go.Ev
