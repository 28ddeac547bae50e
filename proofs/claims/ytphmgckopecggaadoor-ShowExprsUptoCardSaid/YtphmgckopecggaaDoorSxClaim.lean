/- ShowExprs is proved in its second form: for every expression of bulk at most 1048576 the law answers true and leaves its argument as it was; the condition: the two tables of the library that it reads hold what the row lists. Method: an evaluator over plain values, proved sound for the loaded code, is run symbolically, function by function. -/
import Derived.Test.YtphmgckopecggaaDoorSxLaw
import Derived.Test.YtphmgckopecggaaDoorStart
import Derived.Test.YtphmgckopecggaaDoorCards
import Derived.Test.YtphmgckopecggaaDoorTie
import Derived.Deep.DeepHandedRow
import Derived.Deep.DeepWitnessRowRef
import Derived.Lib.LaidTab
import Derived.LaidMore
import Derived.Stop.LaidErr
namespace Go.Proofs.YtphmgckopecggaaDoor
open Go Go.Ev Go.Sx
set_option maxRecDepth 100000

def book : List TypeId := [24, 3, 2, 9, 22]
theorem bookOk : plainBook Tryd.prog book = true := by kernel_rfl
theorem laidOut : laidOutB Tryd.prog = true := by kernel_rfl
theorem own : ownKnob Tryd.prog.godebug = none := by kernel_rfl
theorem cells24 : Tryd.prog.cellsOf 24 = 6 := by kernel_rfl
theorem agg24 : aggOf Tryd.prog 24 = some true := by kernel_rfl

section
variable {H : Type}
theorem bulk_one (d : DataW H) : 1 ≤ Rows.uptoBulk d := by
  cases d with
  | lit l => cases l <;> simp [Rows.uptoBulk]
  | _ => simp [Rows.uptoBulk]

mutual
/-- What is read at the type of expressions is one. -/
theorem expr_of : ∀ (n : Nat) (d : DataW H) (vs : List Val), Rows.uptoBulk d ≤ 1048576 → valsOf Tryd.prog n 24 d = some vs → ∃ e : Sx.Expr, vs = e.enc.cells ∧ e.ok ∧ wt e ≤ 40 * Rows.uptoBulk d
  | n, d, vs, hb, h => by
    obtain ⟨n', ds, xs, rfl, rfl, hl, hm, rfl⟩ := vals_struct Tryd.underlying24 h
    match ds, hl with
    | [d0, d1, d2, d3, d4, d5], _ =>
    simp only [Rows.uptoBulk, Rows.uptoBulkAll] at hb ⊢
    simp only [List.zip_cons_cons, List.zip_nil_left, List.mapM_cons, List.mapM_nil, Option.bind_eq_bind, Option.bind_eq_some_iff, Option.pure_def, Option.some.injEq] at hm
    obtain ⟨v0, h0, _, ⟨v1, h1, _, ⟨v2, h2, _, ⟨v3, h3, _, ⟨v4, h4, _, ⟨v5, h5, _, rfl, rfl⟩, rfl⟩, rfl⟩, rfl⟩, rfl⟩, rfl⟩ := hm
    obtain ⟨m0, rfl, rfl, _⟩ := vals_int Tryd.underlying3 h0
    obtain ⟨m1, rfl, rfl, _⟩ := vals_int Tryd.underlying3 h1
    obtain ⟨m2, rfl, rfl, r2⟩ := vals_int Tryd.underlying2 h2
    obtain ⟨s3, rfl, rfl⟩ := vals_str Tryd.underlying9 h3
    obtain ⟨s4, rfl, rfl⟩ := vals_str Tryd.underlying9 h4
    have e1 : IntKind.i64.min = -9223372036854775808 := by decide
    have e2 : IntKind.i64.max = 9223372036854775807 := by decide
    rw [e1, e2] at r2
    simp only [Rows.uptoBulk] at hb ⊢
    rcases vals_slice Tryd.underlying22 h5 with ⟨rfl, rfl⟩ | ⟨n2, elems, spare, xs, rfl, rfl, hx, rfl⟩
    · refine ⟨.mk m0 m1 m2 s3 s4 .nil [], rfl, ?_, ?_⟩
      · rw [Sx.Expr.ok]
        refine ⟨⟨rfl, fun _ => rfl⟩, r2, ⟨?_, ?_, by simp⟩, by simp [Expr.oks]⟩ <;> omega
      · simp only [wt, wts]
        omega
    · simp only [Rows.uptoBulk] at hb ⊢
      obtain ⟨l, hl1, hl2, hl3, hl4⟩ := exprs_of n2 elems xs (by omega) hx
      have hz : (xs.map (mkEl ((aggOf Tryd.prog 24).getD false))) = Expr.encs l := by
        rw [agg24, hl1, List.map_map, encs_map]
        refine List.map_congr_left fun e _ => ?_
        cases e
        rfl
      refine ⟨.mk m0 m1 m2 s3 s4 .shared l, ?_, ?_, ?_⟩
      · simp only [List.flatten_cons, List.flatten_nil, List.singleton_append, hz, Sx.Expr.enc, cells_agg, lsz_shared, cells24]
      · rw [Sx.Expr.ok]
        have hll : l.length ≤ 1048576 := by rw [hl4]; have := len_bulk elems; omega
        refine ⟨⟨rfl, fun h => by cases h⟩, r2, ⟨?_, ?_, ?_⟩, hl2⟩ <;> omega
      · simp only [wt]
        omega
theorem exprs_of : ∀ (n : Nat) (ds : List (DataW H)) (xs : List (List Val)), Rows.uptoBulkAll ds ≤ 1048576 → ds.mapM (valsOf Tryd.prog n 24) = some xs → ∃ l : List Sx.Expr, xs = l.map (fun e => e.enc.cells) ∧ Expr.oks l ∧ wts l ≤ 40 * Rows.uptoBulkAll ds ∧ l.length = ds.length
  | n, [], xs, hb, h => by
    simp only [List.mapM_nil, Option.pure_def, Option.some.injEq] at h
    subst h
    exact ⟨[], rfl, by simp [Expr.oks], by simp [wts], rfl⟩
  | n, d :: ds, xs, hb, h => by
    simp only [Rows.uptoBulkAll] at hb ⊢
    simp only [List.mapM_cons, Option.bind_eq_bind, Option.bind_eq_some_iff, Option.pure_def, Option.some.injEq] at h
    obtain ⟨v, h1, vs, h2, rfl⟩ := h
    obtain ⟨e, rfl, k1, k2⟩ := expr_of n d v (by omega) h1
    obtain ⟨l, rfl, k3, k4, k5⟩ := exprs_of n ds vs (by omega) h2
    exact ⟨e :: l, rfl, by rw [Expr.oks]; exact ⟨k1, k3⟩, by simp only [wts]; omega, by simp [k5]⟩
theorem len_bulk : ∀ (ds : List (DataW H)), ds.length ≤ Rows.uptoBulkAll ds
  | [] => by simp
  | d :: ds => by
    have := len_bulk ds
    have := bulk_one d
    simp only [Rows.uptoBulkAll, List.length_cons]
    omega
end
end

/-- What the row's list gives: the two tables that the library's functions read. -/
theorem rowOf {W : World} {name : String} {k : IntKind} {zs : List Int} {g : Nat} (hg : Tryd.prog.globalNamed name = some g) (h : Lib.TabIs Tryd.prog W name k zs) : ∃ e fr, W.heap[g]? = some (.cells (zs.map fun z => Value.int k z).toArray e fr) := by
  simp only [Lib.TabIs, World.var?, hg, Option.bind_some] at h
  split at h
  · rename_i cs e fr hc
    simp only [Option.some.injEq] at h
    subst h
    exact ⟨e, fr, hc⟩
  · cases h
theorem globOk {W : World} (h : laidMetH Tryd.prog Rows.showExprsUptoRow.laid W) : GlobOk W := by
  have h0 : laidMet Tryd.prog Rows.showExprsUptoRow.laid W := h
  have h2 := laidMet.tail (laidMet.tail h0)
  have h4 := laidMet.tail (laidMet.tail h2)
  have hp : Lib.TabIs Tryd.prog W "internal/strconv.uint64pow10" .u64 Lib.pow10Tab :=
    Lib.tabIs_of_head (g := 1) (by kernel_rfl) (t := 93) (by kernel_rfl) Tryd.underlying93 (e := 78) Tryd.underlying78 (by kernel_rfl) (by kernel_rfl) h2
  have hs : Lib.TabIs Tryd.prog W "strings.asciiSpace" .u8 Lib.asciiSpaceTab :=
    Lib.tabIs_of_head (g := 0) (by kernel_rfl) (t := 84) (by kernel_rfl) Tryd.underlying84 (e := 5) Tryd.underlying5 (by kernel_rfl) (by kernel_rfl) h4
  intro b cs hb
  simp only [Glob.row, rows] at hb
  split at hb
  · simp only [Option.some.injEq] at hb
    subst hb
    exact rowOf (by kernel_rfl) hs
  · simp only [Option.some.injEq] at hb
    subst hb
    exact rowOf (by kernel_rfl) hp
  · cases hb

/-- At every reading of the argument the law's function answers true. -/
theorem run {H : Type} {ds : List (DataW H)} (hk : Rows.uptoSmall H ds = true) {xs : List Val} (h : ArgVals Tryd.prog Tryd.f3.params.toList ds xs) : ∃ n σ', evF F Sx.H n 3 xs [] = some (.bool true, σ') := by
  rw [Tryd.params3] at h
  match ds, xs, h with
  | [d], [x], h =>
    obtain ⟨⟨n, vs, h1, h2, _⟩, _, _⟩ := h
    have hb : Rows.uptoBulkAll [d] ≤ 1048576 := of_decide_eq_true hk
    simp only [Rows.uptoBulkAll] at hb
    obtain ⟨e, rfl, k1, k2⟩ := expr_of n d vs (by omega) h1
    have hx : x = e.enc := by
      rw [h2]
      have : isAggT Tryd.prog 24 = true := by simp [isAggT, agg24]
      rw [this]
      cases e
      rfl
    rw [hx]
    obtain ⟨m, hm⟩ := law_run e k1 (by omega) []
    exact ⟨m, [], hm⟩
  | [], [], h => exact absurd h (by simp [ArgVals])
  | [], _ :: _, h => exact absurd h (by simp [ArgVals])
  | [_], [], h => exact absurd h (by simp [ArgVals])
  | [_], _ :: _ :: _, h => exact absurd h (by simp [ArgVals])
  | _ :: _ :: _, [], h => exact absurd h (by simp [ArgVals])
  | _ :: _ :: _, [_], h => exact absurd h (by simp [ArgVals])
  | _ :: _ :: _, _ :: _ :: _, h => exact absurd h (by simp [ArgVals])

def arg0 : Value := .agg #[.int .i64 0, .int .i64 0, .int .i64 0, .string ⟨#[]⟩, .string ⟨#[]⟩, .slice none 0 0]
theorem door_met (os : Os) : laidMetH Tryd.prog Rows.showExprsUptoRow.laid ((World.doorLaid Tryd.prog 48 os).forCall (fun _ _ => 0) ⟨#[], #[arg0], []⟩).memory :=
  laidMet_of_run' 8 (by kernel_rfl) (by kernel_rfl)
theorem reads (os : Os) {H : Type} (enc : TypeId × Value → H) : ∃ x places, DataW.whole enc Tryd.prog ((World.doorLaid Tryd.prog 48 os).forCall (fun _ _ => 0) ⟨#[], #[arg0], []⟩).memory Tryd.f3.params.toList Rows.showExprsSpec.vars false #[arg0].toList 8 = some ([x], [], places) ∧ Rows.uptoSmall H [x] = true :=
  ⟨.agg [.lit (.int .i64 0), .lit (.int .i64 0), .lit (.int .i64 0), .lit (.string []), .lit (.string []), .nil], [], by kernel_rfl, by kernel_rfl⟩

theorem lifted (os : Os) (started : os.Started) (H : Type) (enc : TypeId × Value → H) (K : Stop.Interp) :
    ReturnsInHanded {} Tryd.checked os 3 .any ((Rows.OpenSpec.upto Rows.showExprsSpec).preRow enc Tryd.prog Tryd.f3 Rows.showExprsUptoRow.domain false Rows.showExprsUptoRow.laid) (((Rows.OpenSpec.upto Rows.showExprsSpec).at K).post enc Tryd.prog Tryd.f3 false true false false) := by
  obtain ⟨x, places, hx, hk⟩ := reads os enc
  refine returnsInHanded_of_row (C := Tryd.checked) (s := Rows.OpenSpec.upto Rows.showExprsSpec) own started (by kernel_rfl) Tryd.func3
    (witness_row_atRef (enc := enc) (C := Tryd.checked) false (World.doorLaid Tryd.prog 48 os) #[arg0] rfl (by kernel_rfl) (by kernel_rfl) (by kernel_rfl)
      (OpenSpec.preRow_of_cond 8 hx (by kernel_rfl) (fun k hk' => by cases hk'; exact hk) (by kernel_rfl) (door_met os))) ?_
  intro W base args ds gs before hval hW _ hcond _ hL _ _
  have hb := hcond _ rfl
  have hV := hW
  obtain ⟨_, _, _, hV, _⟩ := hV
  obtain ⟨rfl, _⟩ := ChangeShapes.trodVars_none hV
  rw [List.append_nil] at hb
  have hds : ∃ d, ds = [d] := by
    obtain ⟨_, _, hA, _⟩ := hW
    have hA' : DataW.TrodAll enc Tryd.prog W 0 (fun _ => true) true Tryd.f3.params.toList args.toList ds _ := hA
    rw [Tryd.params3] at hA'
    match args.toList, ds, hA' with
    | [_], [d], _ => exact ⟨d, rfl⟩
    | [_], _ :: _ :: _, h => simp [DataW.TrodAll] at h
    | _ :: _ :: _, [_], h => simp [DataW.TrodAll] at h
    | _ :: _ :: _, _ :: _ :: _, h => simp [DataW.TrodAll] at h
  obtain ⟨d, rfl⟩ := hds
  exact law_calls (r := .any) (b0 := base) tableOk hookOk bookOk (by rw [Tryd.params3]; decide) laidOut (by rw [Tryd.params3]; intro t ht; simp at ht; subst ht; exact ⟨by kernel_rfl, of_decide_eq_true (by kernel_rfl)⟩) (tb := 4) (by kernel_rfl) Tryd.underlying4 rfl rfl hW hval (globOk hL) (fun xs h => run hb h)

theorem said : Rows.ShowExprsUptoSaid :=
  OpenClaim.holds_of_cond 3 Tryd.f3 rfl rfl rfl rfl rfl rfl rfl ⟨rfl, rfl, rfl, rfl, rfl⟩ rfl rfl rfl rfl rfl (by kernel_rfl) Tryd.func3 (by kernel_rfl)
    (of_decide_eq_true (by kernel_rfl)) (by unfold Func.isWrapper; first | (rw [if_pos (by decide +kernel)]; kernel_rfl) | (rw [if_neg (by decide +kernel)]; exact ⟨rfl, rfl⟩))
    (fun os started H enc _ K => by rw [OpenClaim.pre_eq_preRow]; exact lifted os started H enc K)

theorem plain (f : FuncId) (fn : Func) (hf : Tryd.pinned.checked.prog.funcNamed "blazon/blazonlaw11.ShowExprs" = some f) (hfn : Tryd.pinned.checked.prog.funcs[f]? = some fn) :
    false = Tryd.pinned.checked.prog.looks [] ∧ ∀ (j : Nat) t, fn.params[j]? = some t → Tryd.pinned.checked.prog.wantsStandIn t = false := by
  obtain rfl : f = 3 := Option.some.inj ((show Tryd.prog.funcNamed "blazon/blazonlaw11.ShowExprs" = some 3 by kernel_rfl).symm.trans hf) |>.symm
  obtain rfl : fn = Tryd.f3 := (Option.some.inj (Tryd.func3.symm.trans hfn)).symm
  refine ⟨by kernel_rfl, fun j t ht => ?_⟩
  rw [Tryd.params3] at ht
  obtain rfl : t = 24 := by simpa using Array.mem_of_getElem? ht
  exact (show Tryd.prog.wantsStandIn 24 = false by kernel_rfl)

theorem showExprs_card : Rows.ShowExprsUptoCardSaid :=
  Claim7.holds_tied_plain_at .later [] _ _ _ _ said (fun _ h => by cases h) (by kernel_rfl) (fun _ h => by cases h) showExprsUpto_row_tie rfl ⟨rfl, rfl⟩ (by kernel_rfl) rfl plain (by kernel_rfl)
end Go.Proofs.YtphmgckopecggaaDoor
#print axioms Go.Proofs.YtphmgckopecggaaDoor.showExprs_card
