/- Strings as rows of bytes. -/
import Derived.Test.YtphmgckopecggaaDoorRules
namespace Go.Ev

/-- A row of bytes, as a string. -/
def bs (l : List UInt8) : ByteArray := ⟨l.toArray⟩

theorem mk_bs (l : List UInt8) : ByteArray.mk l.toArray = bs l := rfl
theorem bs_data (l : List UInt8) : (bs l).data = l.toArray := rfl
theorem bs_size (l : List UInt8) : (bs l).size = l.length := rfl
theorem bs_of (s : ByteArray) : bs s.data.toList = s := by
  cases s; simp [bs]
theorem ba_ext {a b : ByteArray} (h : a.data = b.data) : a = b := by
  cases a; cases b; simp_all
theorem bs_append (a b : List UInt8) : bs a ++ bs b = bs (a ++ b) := by
  apply ba_ext
  simp [bs, ByteArray.data_append]
theorem ba_size (s : ByteArray) : s.data.toList.length = s.size := by
  simp only [ByteArray.size, Array.length_toList]
theorem ba_get (s : ByteArray) (i : Nat) (h : i < s.size) : s.get! i = s.data.toList[i]'(by rw [ba_size]; exact h) := by
  have h1 : i < s.data.size := h
  show s.data[i]! = _
  rw [getElem!_pos s.data i h1]
  rfl
theorem ba_loop (s : ByteArray) : ∀ (n i : Nat) (r : List UInt8), n = s.size - i → ByteArray.toList.loop s i r = r.reverse ++ s.data.toList.drop i
  | 0, i, r, h => by
    have hs := ba_size s
    rw [ByteArray.toList.loop, if_neg (by omega), List.drop_eq_nil_of_le (by omega), List.append_nil]
  | n + 1, i, r, h => by
    have hs := ba_size s
    have hi : i < s.size := by omega
    rw [ByteArray.toList.loop, if_pos hi, ba_loop s n (i + 1) _ (by omega), List.reverse_cons, List.append_assoc, ba_get s i hi, List.singleton_append, ← List.drop_eq_getElem_cons (by omega)]
theorem ba_toList (s : ByteArray) : s.toList = s.data.toList := by
  unfold ByteArray.toList
  rw [ba_loop s s.size 0 [] (by omega), List.drop_zero, List.reverse_nil, List.nil_append]
theorem bs_toList (l : List UInt8) : (bs l).toList = l := by rw [ba_toList]; rfl
theorem bs_extract (a : List UInt8) (l h : Nat) : (bs a).extract l h = bs ((a.take h).drop l) := by
  apply ba_ext
  simp [bs, ByteArray.data_extract, List.drop_take, List.extract_eq_take_drop]
theorem bs_inj {a b : List UInt8} (h : bs a = bs b) : a = b := by
  have := congrArg (fun s => s.data.toList) h
  simpa [bs] using this

theorem str_add {a b : List UInt8} (h : a.length + b.length ≤ 4611686018427387904) : binStr .add (bs a) (bs b) = some (.str (bs (a ++ b))) := by
  have : IntKind.i64.max = 9223372036854775807 := by decide
  simp only [binStr, bs_size, bs_append, this]
  rw [if_neg (by omega)]
theorem str_eql (a b : List UInt8) : binStr .eql (bs a) (bs b) = some (.bool (a == b)) := by simp only [binStr, bs_toList]
theorem str_neq (a b : List UInt8) : binStr .neq (bs a) (bs b) = some (.bool (!(a == b))) := by simp only [binStr, bs_toList]
theorem bin_str (op : BinOp) (e : EqT) (x y : ByteArray) : binV op e (.str x) (.str y) = binStr op x y := rfl
theorem bin_add (e : EqT) (k : IntKind) (x y : Int) : binV .add e (.int k x) (.int k y) = some (.int k (k.wrap (x + y))) := by simp [binV, isShift, binInt]
theorem bin_sub (e : EqT) (k : IntKind) (x y : Int) : binV .sub e (.int k x) (.int k y) = some (.int k (k.wrap (x - y))) := by simp [binV, isShift, binInt]
theorem bin_mul (e : EqT) (k : IntKind) (x y : Int) : binV .mul e (.int k x) (.int k y) = some (.int k (k.wrap (x * y))) := by simp [binV, isShift, binInt]
theorem bin_quo (e : EqT) (k : IntKind) (x y : Int) : binV .quo e (.int k x) (.int k y) = if y = 0 then none else some (.int k (k.wrap (x.tdiv y))) := by simp [binV, isShift, binInt]
theorem bin_rem (e : EqT) (k : IntKind) (x y : Int) : binV .rem e (.int k x) (.int k y) = if y = 0 then none else some (.int k (x.tmod y)) := by simp [binV, isShift, binInt]
theorem bin_eql (e : EqT) (k : IntKind) (x y : Int) : binV .eql e (.int k x) (.int k y) = some (.bool (x == y)) := by simp [binV, isShift, binInt]
theorem bin_neq (e : EqT) (k : IntKind) (x y : Int) : binV .neq e (.int k x) (.int k y) = some (.bool (x != y)) := by simp [binV, isShift, binInt]
theorem bin_lss (e : EqT) (k : IntKind) (x y : Int) : binV .lss e (.int k x) (.int k y) = some (.bool (decide (x < y))) := by simp [binV, isShift, binInt]
theorem bin_leq (e : EqT) (k : IntKind) (x y : Int) : binV .leq e (.int k x) (.int k y) = some (.bool (decide (x ≤ y))) := by simp [binV, isShift, binInt]
theorem bin_gtr (e : EqT) (k : IntKind) (x y : Int) : binV .gtr e (.int k x) (.int k y) = some (.bool (decide (x > y))) := by simp [binV, isShift, binInt]
theorem bin_geq (e : EqT) (k : IntKind) (x y : Int) : binV .geq e (.int k x) (.int k y) = some (.bool (decide (x ≥ y))) := by simp [binV, isShift, binInt]
theorem len_str (a : List UInt8) : lenV true (.str (bs a)) = some (.int .i64 a.length) := rfl
theorem len_lst (sz : Nat) (xs : List Val) (o : Own) : lenV false (.lst sz xs o) = some (.int .i64 xs.length) := rfl
theorem len_ref (a b c n : Nat) : lenV false (.ref a b c n) = some (.int .i64 n) := rfl

theorem bytes_of (l : List UInt8) : bytesOfL (l.map byteV) = some l := by
  induction l with
  | nil => rfl
  | cons b l ih => simp [bytesOfL, byteV, ih]
theorem op_cvToBytesB (call : CallF) (t : Nat → Val) (σ : Hp) (x : CO) : evOp call (.cvToBytes x) (t, σ) = match x.ev t with | .str s => some (.lst 1 (s.data.toList.map byteV) .shared, σ) | _ => none := by
  show COp.ev t σ (.cvToBytes x) = _
  simp only [COp.ev]
  cases x.ev t <;> simp only [ba_toList]
theorem bs_dataL (l : List UInt8) : (bs l).data.toList = l := rfl

def idxSV (x i : Val) : Option Val :=
  match x, i with
  | .str s, .int _ k => if 0 ≤ k then (match s.toList[k.toNat]? with | some b => some (byteV b) | none => none) else none
  | _, _ => none
theorem op_idxSV (call : CallF) (t : Nat → Val) (σ : Hp) (x i : CO) : evOp call (.idxS x i) (t, σ) = match idxSV (x.ev t) (i.ev t) with | some v => some (v, σ) | none => none := by
  show COp.ev t σ (.idxS x i) = _
  simp only [COp.ev]
  generalize x.ev t = a
  generalize i.ev t = b
  cases a <;> cases b <;> simp only [idxSV]
  split
  · rename_i s _ j _
    cases s.toList[j.toNat]? <;> rfl
  · rfl
theorem idxSV_b {a : List UInt8} {k : IntKind} {j : Int} (h : 0 ≤ j ∧ j < a.length) : idxSV (.str (bs a)) (.int k j) = some (byteV (a.getD j.toNat 0)) := by
  have h1 : j.toNat < a.length := by omega
  simp [idxSV, bs_toList, h, List.getD, h1]

def sliceSV (x : Val) (lo hi : Option Val) : Option Val :=
  match x with
  | .str s =>
    match boundOr s.size hi s.size with
    | some h => (match boundOr 0 lo h with | some l => some (.str (s.extract l h)) | none => none)
    | none => none
  | _ => none
theorem op_sliceSV (call : CallF) (t : Nat → Val) (σ : Hp) (x : CO) (lo hi : Option CO) : evOp call (.sliceS x lo hi) (t, σ) = match sliceSV (x.ev t) (lo.map (·.ev t)) (hi.map (·.ev t)) with | some v => some (v, σ) | none => none := by
  show COp.ev t σ (.sliceS x lo hi) = _
  simp only [COp.ev]
  generalize x.ev t = a
  cases a <;> simp only [sliceSV]
  rename_i s
  cases boundOr s.size (hi.map (·.ev t)) s.size with
  | none => rfl
  | some h => cases h2 : boundOr 0 (lo.map (·.ev t)) h <;> simp only [h2]
theorem slS_both {a : List UInt8} {k k' : IntKind} {l h : Int} (hh : 0 ≤ l ∧ l ≤ h ∧ h ≤ a.length) : sliceSV (.str (bs a)) (some (.int k l)) (some (.int k' h)) = some (.str (bs ((a.take h.toNat).drop l.toNat))) := by
  have h1 : 0 ≤ h ∧ h ≤ ((bs a).size : Int) := by rw [bs_size]; omega
  have h2 : 0 ≤ l ∧ l ≤ (h.toNat : Int) := by omega
  simp only [sliceSV, boundOr, bound]
  rw [if_pos h1]
  simp only []
  rw [if_pos h2]
  simp only [bs_extract]
theorem slS_lo {a : List UInt8} {k : IntKind} {l : Int} (hh : 0 ≤ l ∧ l ≤ a.length) : sliceSV (.str (bs a)) (some (.int k l)) none = some (.str (bs (a.drop l.toNat))) := by
  simp [sliceSV, boundOr, bound, bs_size, hh, bs_extract]
theorem slS_hi {a : List UInt8} {k : IntKind} {h : Int} (hh : 0 ≤ h ∧ h ≤ a.length) : sliceSV (.str (bs a)) none (some (.int k h)) = some (.str (bs (a.take h.toNat))) := by
  simp [sliceSV, boundOr, bound, bs_size, hh, bs_extract]
/-- The size that a list's elements are booked with: none of a nil list. -/
def lsz (o : Own) (n : Nat) : Nat := if o = .nil then 0 else n
theorem lsz_nil (n : Nat) : lsz .nil n = 0 := rfl
theorem lsz_full (n : Nat) : lsz .full n = n := rfl
theorem lsz_shared (n : Nat) : lsz .shared n = n := rfl
theorem lsz_mine (n : Nat) : lsz .mine n = n := rfl
theorem lsz_tail (k l n : Nat) : lsz (.tail k l) n = n := rfl
theorem lsz_of {α : Type} {o : Own} {l : List α} {n i : Nat} (h : o = .nil → l = []) (hi : i < l.length) : lsz o n = n := by
  unfold lsz
  split
  · rename_i ho
    rw [h ho] at hi
    simp at hi
  · rfl
theorem lsz_or (o : Own) (n : Nat) : lsz o n = n ∨ o = .nil := by
  unfold lsz
  split
  · exact .inr ‹_›
  · exact .inl rfl
end Go.Ev
