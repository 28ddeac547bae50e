/- A region whose order is open: whatever the order, the same (the machine's side). -/
import Derived.Test.YtphmgckopecggaaDoorDraw2
namespace Go.Ev
set_option linter.unusedSectionVars false
variable [Glob]

variable {P : Program}

theorem ready_get {ops : Array Oper} {listed : Array Bool} {i : Nat} : i ∈ Region.ready .any ops listed ↔ ∃ o, ops[i]? = some o ∧ listed.getD i true = false ∧ ∀ q ∈ edges o, listed.getD q false = true := by
  simp only [Region.ready, List.mem_filter, List.mem_range, Bool.and_eq_true, Bool.not_eq_true']
  constructor
  · rintro ⟨h1, h2, h3⟩
    have ho : ops[i]? = some ops[i] := by simp [h1]
    rw [ho] at h3
    simp only [Option.map_some, Option.getD_some, Array.all_eq_true_iff_forall_mem, Bool.or_eq_true, Bool.not_eq_true'] at h3
    refine ⟨_, ho, h2, fun q hq => ?_⟩
    simp only [edges, List.mem_map, List.mem_filter] at hq
    obtain ⟨e, ⟨e1, e2⟩, rfl⟩ := hq
    rcases h3 e (by simpa using e1) with h4 | h4
    · rw [e2] at h4; cases h4
    · exact h4
  · rintro ⟨o, h1, h2, h3⟩
    refine ⟨(Array.getElem?_eq_some_iff.1 h1).1, h2, ?_⟩
    rw [h1]
    simp only [Option.map_some, Option.getD_some, Array.all_eq_true_iff_forall_mem, Bool.or_eq_true, Bool.not_eq_true']
    intro e he
    cases hb : Region.binds .any e with
    | false => exact .inl rfl
    | true => exact .inr (h3 _ (by simp only [edges, List.mem_map, List.mem_filter]; exact ⟨e, ⟨by simpa using he, hb⟩, rfl⟩))

theorem getD_false_true {l : Array Bool} {i : Nat} (h : l.getD i false = true) : l.getD i true = true := by
  simp only [Array.getD_eq_getD_getElem?] at *
  cases hq : l[i]? with
  | none => rfl
  | some b => rw [hq] at h; exact h

theorem set_getD {l : Array Bool} {i : Nat} (hi : i < l.size) : (fun x => (l.setIfInBounds i true).getD x true) = fun x => x == 0 + i || l.getD x true := by
  funext x
  simp only [Array.getD_eq_getD_getElem?, Array.getElem?_setIfInBounds]
  by_cases h : i = x
  · subst h
    simp [hi]
  · rw [if_neg h]
    have : (x == 0 + i) = false := by simp; omega
    rw [this, Bool.false_or]

section
variable {cf : Cfg} {fid : FuncId} {nt : Nat} {ops : Array Oper} {ds : List DStep} {nw : List (List Val)} {vs : List Val} {HH : List Hp} {t0 : Nat → Val} {base : Nat} {γ0 : Gh} {σ0 : Hp} {w0 : World}

structure DInv (ops : Array Oper) (ds : List DStep) (vs : List Val) (HH : List Hp) (t0 : Nat → Val) (base nt : Nat) (γ0 : Gh) (σ0 : Hp) (w0 : World)
    (listed : Array Bool) (a : Act) (w : World) (γ : Gh) (k : Nat) : Prop where
  size : listed.size = ops.size
  closed : ∀ (i : Nat) (o : Oper), ops[i]? = some o → listed.getD i true = true → ∀ j ∈ edges o, listed.getD j true = true
  early : ∀ j ∈ (effsD ds).take k, listed.getD j true = true
  late : ∀ j ∈ (effsD ds).drop k, listed.getD j true = false
  kle : k ≤ (effsD ds).length
  tr : TRel γ (TD 0 ds vs (fun i => listed.getD i true) t0) nt a.tmps
  dfr : a.defers = []
  inv : WInv γ (HH.getD k []) w
  frame : Frame γ0 σ0 w0 γ (HH.getD k []) w
  news : ∀ (i : Nat) (d : DStep) (j : Nat) (z : List Val), ds[i]? = some d → d.kind = .new j → d.op = .alloc z → listed.getD i true = false → (HH.getD k [])[base + j]? = some (.cells z) ∧ γ.ref (base + j) = none

variable {listed : Array Bool} {a : Act} {w : World} {γ : Gh} {k : Nat}

theorem bef_listed (hc : ∀ (i : Nat) (o : Oper), ops[i]? = some o → listed.getD i true = true → ∀ j ∈ edges o, listed.getD j true = true) {j i : Nat} (h : Bef ops.toList j i) : listed.getD i true = true → listed.getD j true = true := by
  induction h with
  | one h hj => intro hl; exact hc _ _ (by simpa using h) hl _ hj
  | more h hk hb ih => intro hl; exact ih (hc _ _ (by simpa using h) hl _ hk)

theorem bef_ready (hc : ∀ (i : Nat) (o : Oper), ops[i]? = some o → listed.getD i true = true → ∀ j ∈ edges o, listed.getD j true = true) {j i : Nat} {o : Oper} (ho : ops[i]? = some o) (hr : ∀ q ∈ edges o, listed.getD q true = true)
    (h : Bef ops.toList j i) : listed.getD j true = true := by
  cases h with
  | one h hj =>
    rename_i o'
    have : ops[i]? = some o' := by simpa using h
    rw [ho] at this; simp only [Option.some.injEq] at this; subst this
    exact hr _ hj
  | more h hk hb =>
    rename_i q o'
    have : ops[i]? = some o' := by simpa using h
    rw [ho] at this; simp only [Option.some.injEq] at this; subst this
    exact bef_listed hc hb (hr _ hk)

theorem cnt_range {i : Nat} (hi : i ≤ ds.length) : ((List.range i).filter (effB ds)).length = cntD ds i := by
  induction i with
  | zero => simp [cntD]
  | succ i ih =>
    have hlt : i < ds.length := by omega
    have e1 : ds.take (i + 1) = ds.take i ++ [ds[i]] := List.take_succ_eq_append_getElem hlt
    rw [List.range_succ, List.filter_append, List.length_append, ih (by omega)]
    unfold cntD
    rw [e1, List.filter_append, List.length_append]
    congr 1
    have : effB ds i = ds[i].kind.isEff := by simp [effB, hlt]
    simp only [List.filter_cons, List.filter_nil, this]
    cases ds[i].kind.isEff <;> rfl

theorem effs_split {i : Nat} (hi : i < ds.length) (he : effB ds i = true) : ∃ B, effsD ds = (List.range i).filter (effB ds) ++ i :: B ∧ ∀ j ∈ B, i < j := by
  refine ⟨(List.range' (i + 1) (ds.length - (i + 1))).filter (effB ds), ?_, ?_⟩
  · have : List.range ds.length = List.range i ++ i :: List.range' (i + 1) (ds.length - (i + 1)) := by
      rw [List.range_eq_range', List.range_eq_range']
      have h1 : ds.length = i + (1 + (ds.length - (i + 1))) := by omega
      conv => lhs; rw [h1]
      rw [← List.range'_append_1, Nat.add_comm 1, List.range'_succ, Nat.zero_add]
    unfold effsD
    rw [this, List.filter_append, List.filter_cons, if_pos he]
  · intro j hj
    simp only [List.mem_filter, List.mem_range'_1] at hj
    omega

/-- When every operation has run. -/
theorem draw_end (S : Stat P cf fid nt ops ds nw) (I : DInv ops ds vs HH t0 base nt γ0 σ0 w0 listed a w γ k) (hall : ∀ i, i < ops.size → listed.getD i true = true) :
    Post nt γ0 σ0 w0 .normal (endT ds vs t0, HH.getD (effsD ds).length []) .normal a w := by
  have hk : k = (effsD ds).length := by
    rcases Nat.lt_or_ge k (effsD ds).length with h | h
    · have hm : (effsD ds)[k] ∈ (effsD ds).drop k := by
        rw [List.mem_iff_getElem]
        exact ⟨0, by simp; omega, by simp⟩
      have h1 := I.late _ hm
      have h2 : (effsD ds)[k] < ds.length := by
        have := List.mem_of_getElem (rfl : (effsD ds)[k] = (effsD ds)[k])
        simp only [effsD, List.mem_filter, List.mem_range] at this
        exact this.1
      rw [hall _ (by rw [← S.len]; exact h2)] at h1
      cases h1
    · have := I.kle; omega
  subst hk
  refine ⟨rfl, I.dfr, γ, ?_, I.inv, I.frame⟩
  have := I.tr
  rwa [TD_all ds vs t0 (fun i hi => hall i (by rw [← S.len]; exact hi))] at this

theorem draw_any {call : CallF} (hcall : CallOk P call) (S : Stat P cf fid nt ops ds nw) {σ1 : Hp} {hs : List Hp} (hHH : HH = σ1 :: hs) (hD : evD call base ds (t0, σ1) = some (vs, hs)) (hR : readsOk HH ds vs t0 = true) (hbase : σ0.length ≤ base) :
    ∀ (fuel : Nat) (listed : Array Bool) (a : Act) (w : World) (γ : Gh) (k : Nat), DInv ops ds vs HH t0 base nt γ0 σ0 w0 listed a w γ k →
      ((List.range ops.size).countP fun i => !listed.getD i true) = fuel →
      wpAny P .any ops (Post nt γ0 σ0 w0 .normal (endT ds vs t0, HH.getD (effsD ds).length [])) fuel listed a w := by
  subst hHH
  have hDK : ∀ d ∈ ds, DKOk d := by
    intro d hd
    obtain ⟨i, hi⟩ := List.mem_iff_getElem?.1 hd
    exact ⟨S.kPure i d hi, fun ks hk => (S.kRead i d ks hi hk).1⟩
  obtain ⟨c1, c2, c3⟩ := canon ds t0 σ1 hDK hD
  have done : ∀ (listed : Array Bool) (a : Act) (w : World) (γ : Gh) (k : Nat), DInv ops ds vs (σ1 :: hs) t0 base nt γ0 σ0 w0 listed a w γ k → Region.ready .any ops listed = [] →
      Post nt γ0 σ0 w0 .normal (endT ds vs t0, (σ1 :: hs).getD (effsD ds).length []) .normal a w := by
    intro listed a w γ k I hr
    refine draw_end S I ?_
    intro i
    induction i using Nat.strongRecOn with
    | _ i ih =>
      intro hi
      cases hl : listed.getD i true with
      | true => rfl
      | false =>
        have ho : ops[i]? = some ops[i] := by simp [hi]
        have hm : i ∈ Region.ready .any ops listed := ready_get.2 ⟨_, ho, hl, fun q hq => by
          have hqi := S.edges i _ ho q hq
          have h1 := ih q hqi (by omega)
          have h2 : q < listed.size := by rw [I.size]; omega
          simp only [Array.getD_eq_getD_getElem?, Array.getElem?_eq_getElem h2, Option.getD_some] at h1 ⊢
          exact h1⟩
        rw [hr] at hm
        cases hm
  intro fuel
  induction fuel with
  | zero =>
    intro listed a w γ k I hcnt
    have hr : Region.ready .any ops listed = [] := by
      cases hq : Region.ready .any ops listed with
      | nil => rfl
      | cons i rest =>
        have hm : i ∈ Region.ready .any ops listed := by rw [hq]; simp
        obtain ⟨o, h1, h2, _⟩ := ready_get.1 hm
        have hi : i < ops.size := (Array.getElem?_eq_some_iff.1 h1).1
        have := List.countP_eq_zero.1 hcnt i (by simpa using hi)
        rw [h2] at this
        simp at this
    exact ⟨hr, done listed a w γ k I hr⟩
  | succ fuel ihf =>
    intro listed a w γ k I hcnt
    refine ⟨done listed a w γ k I, fun i hi => ?_⟩
    obtain ⟨o, ho, hun, hed⟩ := ready_get.1 hi
    have hed' : ∀ q ∈ edges o, listed.getD q true = true := fun q hq => getD_false_true (hed q hq)
    have hin : i < ops.size := (Array.getElem?_eq_some_iff.1 ho).1
    obtain ⟨d, hd, hdst, hdok, hgd, hco⟩ := S.step i o ho
    obtain ⟨v, hv, hstep⟩ := c3 i d hd
    have hread := readsOk_get hR i d v hd hv
    -- the names that it asks are as in the text's order
    have hnames : ∀ τ ∈ namesD d, TD 0 ds vs (fun i => listed.getD i true) t0 τ = endT (ds.take i) (vs.take i) t0 τ := by
      intro τ hτ
      rw [← TD_prefix ds vs 0 i t0]
      refine TD_congr ds vs 0 (fun j d' hj hdj => ?_) rfl
      simp only [Nat.zero_add]
      by_cases hji : j = i
      · subst hji
        rw [hun]; simp
      · obtain ⟨n1, n2⟩ := S.names i j d d' τ hd hj (Ne.symm hji) hdj hτ
        rcases Nat.lt_or_ge j i with hlt | hge
        · rw [bef_ready I.closed ho hed' (n1 hlt)]; simp [hlt]
        · have hgt : i < j := by omega
          have : listed.getD j true = false := by
            cases hq : listed.getD j true with
            | false => rfl
            | true => rw [bef_listed I.closed (n2 hgt) hq] at hun; cases hun
          rw [this]; simp; omega
    have hcnt' : ((List.range ops.size).countP fun x => !(listed.setIfInBounds i true).getD x true) = fuel := by
      have hls : i < listed.size := by rw [I.size]; exact hin
      have key : ∀ (L : List Nat), L.Nodup → i ∈ L → L.countP (fun x => !listed.getD x true) = L.countP (fun x => !(listed.setIfInBounds i true).getD x true) + 1 := by
        intro L
        induction L with
        | nil => intro _ h; cases h
        | cons x L ihL =>
          intro hnd hm
          rw [List.nodup_cons] at hnd
          rw [List.countP_cons, List.countP_cons]
          have hx := congrFun (set_getD hls) x
          simp only [Nat.zero_add] at hx
          by_cases hxi : x = i
          · subst hxi
            have hrest : L.countP (fun x => !listed.getD x true) = L.countP (fun y => !(listed.setIfInBounds x true).getD y true) := by
              refine List.countP_congr fun y hy => ?_
              have hy2 := congrFun (set_getD hls) y
              simp only [Nat.zero_add] at hy2
              have : (y == x) = false := by
                simp only [beq_eq_false_iff_ne]; rintro rfl; exact hnd.1 hy
              rw [hy2, this, Bool.false_or]
            rw [hrest, hx, hun]
            simp
          · have : (x == i) = false := by simpa using hxi
            rw [hx, this, Bool.false_or, ihL hnd.2 (by simpa [Ne.symm hxi] using hm)]
            omega
      have := key (List.range ops.size) List.nodup_range (by simpa using hin)
      omega
    have hset := set_getD (l := listed) (i := i) (by rw [I.size]; exact hin)
    have hTD : TD 0 ds vs (fun x => (listed.setIfInBounds i true).getD x true) t0 = updO (TD 0 ds vs (fun x => listed.getD x true) t0) d.dst v := by
      rw [hset]
      exact TD_add i ds vs 0 t0 hd hv (fun j d' τ hj hij hdt hdt' => by
        simp only [Nat.zero_add]
        obtain ⟨n1, n2⟩ := S.names i j d d' τ hd hj (by omega) hdt' (by simp [namesD, hdt])
        cases hq : listed.getD j true with
        | false => rfl
        | true => rw [bef_listed I.closed (n2 hij) hq] at hun; cases hun)
    have hgetset : ∀ x, (listed.setIfInBounds i true).getD x true = (x == i || listed.getD x true) := by
      intro x
      have := congrFun hset x
      simpa using this
    -- where it stands among the effects
    have hpos : (effB ds i = true → k = cntD ds i ∧ k + 1 ≤ (effsD ds).length ∧ cntD ds (i + 1) = k + 1 ∧
        (∀ j ∈ (effsD ds).take (k + 1), (listed.setIfInBounds i true).getD j true = true) ∧ (∀ j ∈ (effsD ds).drop (k + 1), (listed.setIfInBounds i true).getD j true = false)) ∧
        (effB ds i = false → (∀ j ∈ (effsD ds).take k, (listed.setIfInBounds i true).getD j true = true) ∧ (∀ j ∈ (effsD ds).drop k, (listed.setIfInBounds i true).getD j true = false)) := by
      have hids : i < ds.length := by rw [S.len]; exact hin
      refine ⟨fun he => ?_, fun he => ?_⟩
      · obtain ⟨B, e1, e2⟩ := effs_split hids he
        have hA := cnt_range (ds := ds) (i := i) (by omega)
        generalize hAA : (List.range i).filter (effB ds) = A at e1 hA
        have hmem : ∀ j ∈ A, listed.getD j true = true := by
          intro j hj
          rw [← hAA] at hj
          simp only [List.mem_filter, List.mem_range] at hj
          refine bef_ready I.closed ho hed' (S.effOrd j i ?_ ?_ hj.1)
          · simp only [effsD, List.mem_filter, List.mem_range]; exact ⟨by omega, hj.2⟩
          · simp only [effsD, List.mem_filter, List.mem_range]; exact ⟨hids, he⟩
        have hk : k = A.length := by
          rcases Nat.lt_trichotomy k A.length with h | h | h
          · exfalso
            have h1 : A[k] ∈ (effsD ds).drop k := by
              rw [e1, List.drop_append_of_le_length (by omega), List.mem_append]
              left
              rw [List.mem_iff_getElem]
              exact ⟨0, by simp; omega, by simp⟩
            have h2 := I.late _ h1
            rw [hmem _ (List.getElem_mem h)] at h2
            cases h2
          · exact h
          · exfalso
            have h1 : i ∈ (effsD ds).take k := by
              rw [e1, List.take_append, List.mem_append]
              right
              have : k - A.length = (k - A.length - 1) + 1 := by omega
              rw [this, List.take_succ_cons]
              simp
            rw [I.early _ h1] at hun
            cases hun
        have hc1 : cntD ds (i + 1) = k + 1 := by
          rw [← cnt_range (by omega), List.range_succ, List.filter_append, hAA, List.length_append, ← hk]
          simp [he]
        have ht : (effsD ds).take (k + 1) = A ++ [i] := by
          rw [e1, hk, List.take_append, List.take_of_length_le (by omega)]
          have : A.length + 1 - A.length = 1 := by omega
          rw [this]; rfl
        have hdr : (effsD ds).drop (k + 1) = B := by
          rw [e1, hk, List.drop_append, List.drop_of_length_le (by omega)]
          have : A.length + 1 - A.length = 1 := by omega
          rw [this]; rfl
        refine ⟨by omega, by rw [e1]; simp; omega, hc1, ?_, ?_⟩
        · intro j hj
          rw [ht, List.mem_append] at hj
          rw [hgetset]
          rcases hj with hj | hj
          · rw [hmem j hj]; simp
          · simp at hj; subst hj; simp
        · intro j hj
          rw [hdr] at hj
          have h1 := e2 j hj
          have h2 : listed.getD j true = false := I.late j (by
            rw [e1, hk, List.drop_append, List.drop_of_length_le (by omega)]
            simp [hj])
          rw [hgetset, h2]
          simp; omega
      · refine ⟨fun j hj => ?_, fun j hj => ?_⟩
        · rw [hgetset, I.early j hj]; simp
        · have hji : j ≠ i := by
            rintro rfl
            have := List.mem_of_mem_drop hj
            simp only [effsD, List.mem_filter] at this
            rw [he] at this
            cases this.2
          rw [hgetset, I.late j hj]
          simpa using hji
    -- going on
    have go : ∀ (γ' : Gh) (a' : Act) (w' : World) (k' : Nat), TRel γ' (updO (TD 0 ds vs (fun i => listed.getD i true) t0) d.dst v) nt a'.tmps → a'.defers = [] → WInv γ' ((σ1 :: hs).getD k' []) w' →
        Frame γ0 σ0 w0 γ' ((σ1 :: hs).getD k' []) w' → k' = (if effB ds i then k + 1 else k) →
        (∀ (i' : Nat) (d' : DStep) (j : Nat) (z : List Val), ds[i']? = some d' → d'.kind = .new j → d'.op = .alloc z → i' ≠ i → listed.getD i' true = false → ((σ1 :: hs).getD k' [])[base + j]? = some (.cells z) ∧ γ'.ref (base + j) = none) →
        wpAny P .any ops (Post nt γ0 σ0 w0 .normal (endT ds vs t0, (σ1 :: hs).getD (effsD ds).length [])) fuel (listed.setIfInBounds i true) a' w' := by
      intro γ' a' w' k' g1 g2 g3 g4 g5 g6
      refine ihf _ a' w' γ' k' ⟨by simp [I.size], ?_, ?_, ?_, ?_, by rw [hTD]; exact g1, g2, g3, g4, ?_⟩ hcnt'
      · intro x o' hx hl j hj
        rw [hgetset] at hl ⊢
        simp only [Bool.or_eq_true, beq_iff_eq] at hl ⊢
        rcases hl with rfl | hl
        · rw [ho] at hx; simp only [Option.some.injEq] at hx; subst hx
          exact .inr (hed' j hj)
        · exact .inr (I.closed x o' hx hl j hj)
      · subst g5
        split
        · rename_i he; exact (hpos.1 he).2.2.2.1
        · rename_i he; exact (hpos.2 (by simpa using he)).1
      · subst g5
        split
        · rename_i he; exact (hpos.1 he).2.2.2.2
        · rename_i he; exact (hpos.2 (by simpa using he)).2
      · subst g5
        split
        · rename_i he; exact (hpos.1 he).2.1
        · exact I.kle
      · intro i' d' j z hd' hk' hz' hl'
        rw [hgetset] at hl'
        simp only [Bool.or_eq_false_iff, beq_eq_false_iff_ne] at hl'
        exact g6 i' d' j z hd' hk' hz' hl'.1 hl'.2
    -- the operation itself
    have hgv : guardV (TD 0 ds vs (fun i => listed.getD i true) t0) d.guard = guardV (endT (ds.take i) (vs.take i) t0) d.guard := by
      cases hg : d.guard with
      | none => rfl
      | some g =>
        obtain ⟨gd, want⟩ := g
        simp only [guardV]
        rw [hnames gd (by simp [namesD, hg])]
    have hopn : ∀ τ ∈ namesOf d.op, TD 0 ds vs (fun i => listed.getD i true) t0 τ = endT (ds.take i) (vs.take i) t0 τ := fun τ hτ => hnames τ (by simp [namesD, hτ])
    have heffkind : effB ds i = d.kind.isEff := by simp [effB, hd]
    have nothing : ∀ (γ' : Gh), (∀ x, γ.ref x = none → γ'.ref x = γ.ref x) → ∀ (i' : Nat) (d' : DStep) (j : Nat) (z : List Val), ds[i']? = some d' → d'.kind = .new j → d'.op = .alloc z → i' ≠ i → listed.getD i' true = false →
        ((σ1 :: hs).getD k [])[base + j]? = some (.cells z) ∧ γ'.ref (base + j) = none := by
      intro γ' hγ i' d' j z e1 e2 e3 e4 e5
      obtain ⟨n1, n2⟩ := I.news i' d' j z e1 e2 e3 e5
      exact ⟨n1, by rw [hγ _ n2]; exact n2⟩
    unfold wpOp
    rw [ho]
    simp only
    -- with the guard's answer
    have skip : guardV (endT (ds.take i) (vs.take i) t0) d.guard = some false → wpAny P .any ops (Post nt γ0 σ0 w0 .normal (endT ds vs t0, (σ1 :: hs).getD (effsD ds).length [])) fuel (listed.setIfInBounds i true) (a.put o.dst Go.undef) w := by
      intro hgf
      unfold evDStep at hstep
      rw [hgf] at hstep
      simp only [Option.some.injEq, Prod.mk.injEq] at hstep
      obtain ⟨rfl, hheap⟩ := hstep
      have hsame : (σ1 :: hs).getD (if effB ds i then k + 1 else k) [] = (σ1 :: hs).getD k [] := by
        split
        · rename_i he
          obtain ⟨p1, _, p3, _⟩ := hpos.1 he
          rw [p3, ← p1] at hheap
          exact hheap.symm
        · rfl
      refine go γ _ w (if effB ds i then k + 1 else k) ?_ (by rw [put_defers]; exact I.dfr) (by rw [hsame]; exact I.inv) (by rw [hsame]; exact I.frame) rfl (by rw [hsame]; exact nothing γ (fun _ _ => rfl))
      rw [hdst]
      exact I.tr.putO hdok (.undef _) a rfl
    have run : evDRun call base d (endT (ds.take i) (vs.take i) t0, (σ1 :: hs).getD (cntD ds i) []) = some (v, (σ1 :: hs).getD (cntD ds (i + 1)) []) → guardV (endT (ds.take i) (vs.take i) t0) d.guard = some true →
        o.wp P a w (wpAny P .any ops (Post nt γ0 σ0 w0 .normal (endT ds vs t0, (σ1 :: hs).getD (effsD ds).length [])) fuel (listed.setIfInBounds i true)) (Post nt γ0 σ0 w0 .normal (endT ds vs t0, (σ1 :: hs).getD (effsD ds).length [])) := by
      intro hrun hgt
      have byOp : ∀ (k' : Nat), k' = (if effB ds i then k + 1 else k) → (∀ j, d.kind ≠ .new j) →
          evOp call d.op (TD 0 ds vs (fun i => listed.getD i true) t0, (σ1 :: hs).getD k []) = some (v, (σ1 :: hs).getD k' []) →
          o.wp P a w (wpAny P .any ops (Post nt γ0 σ0 w0 .normal (endT ds vs t0, (σ1 :: hs).getD (effsD ds).length [])) fuel (listed.setIfInBounds i true)) (Post nt γ0 σ0 w0 .normal (endT ds vs t0, (σ1 :: hs).getD (effsD ds).length [])) := by
        intro k' hk' hnn hev
        refine evOp_wp hcall I.tr I.inv I.dfr hdok hco hev ?_
        intro γ' a' w' e1 e2 e3 e4
        rw [← hdst] at e1
        refine go γ' a' w' k' e1 e2 e3 (I.frame.trans e4) hk' ?_
        intro i' d' j z f1 f2 f3 f4 f5
        obtain ⟨n1, n2⟩ := I.news i' d' j z f1 f2 f3 f5
        exact e4.unborn _ _ n1 n2
      unfold evDRun at hrun
      cases hkind : d.kind with
      | pure =>
        rw [hkind] at hrun
        have hp := S.kPure i d hd hkind
        have e : ∀ s, evOp call d.op s = d.op.ev s.1 s.2 := by
          intro s
          cases hop : d.op <;> first | rfl | (rw [hop] at hp; cases hp)
        simp only [e] at hrun
        obtain ⟨q1, q2⟩ := pure_ev hp hrun
        refine byOp k (by rw [heffkind, hkind]; rfl) (fun j hj => by rw [hkind] at hj; cases hj) ?_
        rw [e]
        simp only
        rw [COp.ev_congr hopn]
        exact q2 _
      | read ks =>
        rw [hkind] at hrun
        obtain ⟨⟨g, n, ad, hop⟩, hks⟩ := S.kRead i d ks hd hkind
        have hkk : k ∈ ks := by
          refine hks k I.kle (fun j hj hb => ?_) (fun j hj hb => ?_)
          · rw [bef_listed I.closed hb (I.early j hj)] at hun; cases hun
          · have h1 := bef_ready I.closed ho hed' hb
            rw [I.late j hj] at h1; cases h1
        have hklen : k < (σ1 :: hs).length := by
          have h1 := I.kle
          have h2 : (effsD ds).length = hs.length := by
            rw [c2]
            have := cnt_range (ds := ds) (i := ds.length) (Nat.le_refl _)
            unfold cntD at this
            rw [List.take_length] at this
            exact this
          simp; omega
        refine byOp k (by rw [heffkind, hkind]; rfl) (fun j hj => by rw [hkind] at hj; cases hj) ?_
        unfold readOk at hread
        rw [hkind] at hread
        simp only [hgt, hop, isLoad, List.all_eq_true] at hread
        have hrk := hread k hkk
        rw [List.getElem?_eq_getElem hklen] at hrk
        simp only at hrk
        have hgd2 : (σ1 :: hs).getD k [] = (σ1 :: hs)[k] := by
          rw [List.getD_eq_getElem?_getD, List.getElem?_eq_getElem hklen]; rfl
        rw [evOp_congr hopn, hop, hgd2]
        simp only [evOp, COp.ev]
        split at hrk
        · rename_i u hu
          have := Val.eqb_eq hrk
          subst this
          first | rfl | rw [hu]
        · cases hrk
      | new j =>
        rw [hkind] at hrun
        obtain ⟨z, hop, hz⟩ := S.kNew i d j hd hkind
        simp only [Option.some.injEq, Prod.mk.injEq] at hrun
        obtain ⟨rfl, _⟩ := hrun
        obtain ⟨n1, n2⟩ := I.news i d j z hd hkind hop hun
        rw [hop] at hco
        -- the machine's allocation
        obtain ⟨e, zv, hoe, hzv, hzo, hzz⟩ : ∃ e zv, o.op = .alloc e ∧ zeroOf P e = some zv ∧ allOne zv.cells = true ∧ zv.cells = z := by
          obtain ⟨dst, op, ty, pos, af, gd⟩ := o
          cases op <;> simp only [compOp] at hco <;> try (cases hco; done)
          case alloc e =>
            split at hco
            · rename_i q hq
              split at hco
              · simp only [Option.some.injEq, COp.alloc.injEq] at hco
                exact ⟨e, q, rfl, hq, by assumption, hco⟩
              · cases hco
            · cases hco
          case call c =>
            exfalso
            obtain ⟨cal, as, ts⟩ := c
            cases cal with
            | value F => simp only at hco; split at hco <;> simp at hco
            | invoke r m => simp at hco
            | builtin b => cases b <;> simp only at hco <;> (repeat' (split at hco)) <;> simp at hco
          all_goals
            exfalso
            first
              | (simp only [Option.map_eq_some_iff] at hco; obtain ⟨y, _, hy⟩ := hco; first | cases hy | (split at hy <;> cases hy))
              | ((repeat' (split at hco)) <;> first | (simp at hco; done) | (simp only [Option.map_eq_some_iff] at hco; obtain ⟨y, _, hy⟩ := hco; cases hy))
        subst hzz
        obtain ⟨zu, z1, z2⟩ := zeroOf_run (γ := γ) (w := w) hzv
        obtain ⟨b1, b2, b3⟩ := I.inv.born (base + j) zv.cells zu.cells e n1 n2 z2.cells hzo
        have hexec : (execOp a.eval o).run P w = .ok (.value (.pointer (some ⟨w.heap.size, 0, none⟩))) (w.alloc (.cells zu.cells e (0, 0))) := by
          rw [execOp_eq]
          simp only [hoe]
          refine run_valOf ?_
          simp [Instr.alloc, z1, newVar, newRow]
        unfold Oper.wp
        rw [hexec]
        refine go _ _ _ k ?_ (by rw [put_defers]; exact I.dfr) b1 ?_ (by rw [heffkind, hkind]; rfl) ?_
        · rw [hdst]
          exact (I.tr.ext b3).putO hdok (.ptr _ _ _ (by simp [Gh.addRef])) a rfl
        · have hf := I.frame
          refine ⟨hf.ext.trans b3, hf.os, hf.tape, hf.output, by have := hf.size; simp; omega, fun b hb ho' => ?_, fun b hb => ?_, hf.len, fun i' vs' h1 h2 => ?_, hf.imOld⟩
          · rw [heap_alloc_ne w _ (Nat.lt_of_lt_of_le hb hf.size)]
            exact hf.block b hb ho'
          · rcases hb with rfl | hb
            · exact .inr hf.size
            · exact hf.own b hb
          · obtain ⟨h3, h4⟩ := hf.unborn i' vs' h1 h2
            refine ⟨h3, ?_⟩
            have hil : i' < σ0.length := (List.getElem?_eq_some_iff.1 h1).1
            simp only [Gh.addRef]
            rw [if_neg (by omega)]
            exact h4
        · intro i' d' j' z' f1 f2 f3 f4 f5
          obtain ⟨m1, m2⟩ := I.news i' d' j' z' f1 f2 f3 f5
          refine ⟨m1, ?_⟩
          have hjj : j' ≠ j := by
            rintro rfl
            exact f4 (S.newInj i' i d' d j' f1 hd f2 hkind)
          simp only [Gh.addRef]
          rw [if_neg (by omega)]
          exact m2
      | eff =>
        rw [hkind] at hrun
        have he : effB ds i = true := by rw [heffkind, hkind]; rfl
        obtain ⟨p1, p2, p3, _, _⟩ := hpos.1 he
        refine byOp (k + 1) (by rw [he]; rfl) (fun j hj => by rw [hkind] at hj; cases hj) ?_
        rw [p3, ← p1] at hrun
        rw [evOp_congr hopn]
        exact hrun
    unfold evDStep at hstep
    split at hstep
    · rename_i hgt
      have hw : Region.wanted o (yielded ops a.tmps) = true := by
        cases hg : d.guard with
        | none => rw [hg] at hgd; exact guard_none hgd
        | some g =>
          obtain ⟨gd, want⟩ := g
          rw [hg] at hgd hgt hgv
          rw [hgt] at hgv
          simp only [guardV] at hgv
          split at hgv
          · rename_i b hb
            rw [guard_rel I.tr hgd hb]
            simpa using hgv
          · cases hgv
      rw [if_pos hw]
      exact .inl (run hstep hgt)
    · rename_i hgf
      have hw : Region.wanted o (yielded ops a.tmps) = false := by
        cases hg : d.guard with
        | none => rw [hg] at hgf; cases hgf
        | some g =>
          obtain ⟨gd, want⟩ := g
          rw [hg] at hgd hgf hgv
          rw [hgf] at hgv
          simp only [guardV] at hgv
          split at hgv
          · rename_i b hb
            rw [guard_rel I.tr hgd hb]
            simpa using hgv
          · cases hgv
      rw [if_neg (by rw [hw]; simp)]
      exact skip hgf
    · cases hstep
end

section
variable {nt : Nat} {γ0 : Gh} {σ0 : Hp} {w0 : World} {γ : Gh} {σ : Hp} {w : World}

theorem region_sound {call : CallF} (hcall : CallOk P call) {cf : Cfg} {fid : FuncId} {id : Nat} {ops : Array Oper} {ss : List CStep} {t : Nat → Val} {a : Act} {s' : St} (hm : P.follows .mixedOrders = true)
    (h1 : compSteps P cf fid nt ops ops.toList = some ss) (h2 : orderOk ss (befs ops.toList []) = true) (h3 : edgesOk 0 ops.toList = true)
    (he : evRegionD call (dnews ss) (dsteps ss (befs ops.toList [])) (t, σ) = some s') (hT : TRel γ t nt a.tmps) (hdef : a.defers = []) (hW : WInv γ σ w) (hF : Frame γ0 σ0 w0 γ σ w) :
    (Code.region id ops true).wp P (Post nt γ0 σ0 w0 .normal s') a w := by
  have S := stat_of h1 h2 h3
  simp only [evRegionD] at he
  split at he
  · rename_i vs hs hD
    split at he
    · rename_i hR
      simp only [Option.some.injEq] at he; subst he
      refine wp_region_any hm ?_
      have hbase : σ0.length ≤ σ.length := hF.len
      have hlast : lastD (σ ++ (dnews ss).map .cells) hs = ((σ ++ (dnews ss).map .cells) :: hs).getD (effsD (dsteps ss (befs ops.toList []))).length [] := by
        rw [lastD_getD]
        congr 1
        have hDK : ∀ d ∈ dsteps ss (befs ops.toList []), DKOk d := by
          intro d hd
          obtain ⟨i, hi⟩ := List.mem_iff_getElem?.1 hd
          exact ⟨S.kPure i d hi, fun ks hk => (S.kRead i d ks hi hk).1⟩
        rw [(canon _ _ _ hDK hD).2.1]
        have := cnt_range (ds := dsteps ss (befs ops.toList [])) (i := (dsteps ss (befs ops.toList [])).length) (Nat.le_refl _)
        unfold cntD at this
        rw [List.take_length] at this
        exact this.symm
      rw [hlast]
      refine draw_any hcall S rfl hD hR hbase ops.size _ a _ γ 0 ?_ ?_
      · refine ⟨by simp, fun i o hi hl => ?_, by simp, fun j hj => ?_, Nat.zero_le _, ?_, hdef, ?_, ?_, ?_⟩
        · have hi' : i < ops.size := (Array.getElem?_eq_some_iff.1 hi).1
          simp [Array.getD_eq_getD_getElem?, hi'] at hl
        · simp only [List.drop_zero, effsD, List.mem_filter, List.mem_range] at hj
          have : j < ops.size := by rw [← S.len]; exact hj.1
          simp [Array.getD_eq_getD_getElem?, this]
        · have : TD 0 (dsteps ss (befs ops.toList [])) vs (fun i => (Array.replicate ops.size false).getD i true) t = t := by
            funext τ
            refine TD_stable _ _ _ (fun j d hj _ => ?_)
            have hj' : j < ops.size := by rw [← S.len]; exact (List.getElem?_eq_some_iff.1 hj).1
            simp [Array.getD_eq_getD_getElem?, hj']
          rw [this]
          exact hT
        · exact (hW.drew.addCells _ (by simp only [List.mem_map]; rintro x ⟨vs, _, rfl⟩; exact ⟨vs, rfl⟩))
        · exact hF.trans ((Frame.drew γ σ w).trans (Frame.addCells γ σ _ _))
        · intro i d j z hd hk hz hl
          obtain ⟨z', e1, e2⟩ := S.kNew i d j hd hk
          rw [hz] at e1
          simp only [COp.alloc.injEq] at e1
          subst e1
          refine ⟨?_, ?_⟩
          · simp only [List.getD_cons_zero]
            rw [List.getElem?_append_right (by omega), Nat.add_sub_cancel_left, List.getElem?_map, e2]
            rfl
          · cases hq : γ.ref (σ.length + j) with
            | none => rfl
            | some b => have := hW.refLt _ _ hq; omega
      · have : (List.range ops.size).countP (fun i => !(Array.replicate ops.size false).getD i true) = (List.range ops.size).length := by
          rw [List.countP_eq_length]
          intro i hi
          simp only [List.mem_range] at hi
          simp [Array.getD_eq_getD_getElem?, hi]
        rw [this]; simp
    · cases he
  · cases he
end
end Go.Ev
