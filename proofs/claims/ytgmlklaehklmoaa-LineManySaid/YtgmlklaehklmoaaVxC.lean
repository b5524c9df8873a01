/- The evaluator's regions of open order are the machine's, whatever the order. (A help: no statement of the seat is proved here.) -/
import Derived.Test.YtgmlklaehklmoaaVxB
set_option linter.unusedVariables false
set_option linter.unusedSimpArgs false
namespace Go.Vx

mutual
theorem AV.beq_eq : ∀ {a b : AV}, AV.beq a b = true → a = b
  | .bool _ _, b, h => by cases b <;> simp [AV.beq] at h; rw [h.1, h.2]
  | .int _ _ _, b, h => by cases b <;> simp [AV.beq] at h; rw [h.1, h.2.1, h.2.2]
  | .str _ _, b, h => by cases b <;> simp [AV.beq] at h; rw [h.1, h.2]
  | .ptr _ _, b, h => by cases b <;> simp [AV.beq] at h; rw [h.1, h.2]
  | .slice _ _ _ _, b, h => by cases b <;> simp [AV.beq] at h; rw [h.1, h.2.1.1, h.2.1.2, h.2.2]
  | .vec _ _, b, h => by cases b <;> simp [AV.beq] at h
  | .eptr _ _ _ _, b, h => by cases b <;> simp [AV.beq] at h
  | .map _, b, h => by cases b <;> simp [AV.beq] at h; rw [h]
  | .func f x y, b, h => by
    cases b <;> simp [AV.beq] at h
    rw [h.1.1, AV.beqL_eq h.1.2, AV.beqL_eq h.2]
  | .nilFunc, b, h => by cases b <;> simp [AV.beq] at h; rfl
  | .nilIface, b, h => by cases b <;> simp [AV.beq] at h; rfl
  | .agg x, b, h => by cases b <;> simp [AV.beq] at h; rw [AV.beqL_eq h]
  | .tup x, b, h => by cases b <;> simp [AV.beq] at h; rw [AV.beqL_eq h]
theorem AV.beqL_eq : ∀ {a b : List AV}, AV.beqL a b = true → a = b
  | [], [], _ => rfl
  | [], _ :: _, h => by simp [AV.beqL] at h
  | _ :: _, [], h => by simp [AV.beqL] at h
  | x :: xs, y :: ys, h => by
    simp only [AV.beqL, Bool.and_eq_true] at h
    rw [AV.beq_eq h.1, AV.beqL_eq h.2]
end

section spec
variable {P : Program} {ops : Array Oper} {b : Array Nat}

theorem bits_spec (h : bitsOk ops b = true) {i j : Nat} (hj : j < ops.size) (hb : (b.getD j 0).testBit i = true) :
    i < j ∧ ∃ o e, ops[j]? = some o ∧ e ∈ o.after ∧ Region.binds .any e = true ∧ e.on < j ∧ (e.on = i ∨ (b.getD e.on 0).testBit i = true) := by
  simp only [bitsOk, List.all_eq_true, List.mem_range, Bool.and_eq_true] at h
  obtain ⟨h1, h2⟩ := h j hj
  have hlt : b.getD j 0 < 2 ^ j := Nat.blt_eq.mp h1
  have hij : i < j := by
    apply Classical.byContradiction
    intro hn
    have : b.getD j 0 < 2 ^ i := Nat.lt_of_lt_of_le hlt (Nat.pow_le_pow_right (by omega) (by omega))
    rw [Nat.testBit_lt_two_pow this] at hb
    cases hb
  refine ⟨hij, ?_⟩
  have h3 := h2 i hij
  rw [hb] at h3
  have ho : ops[j]? = some ops[j] := Array.getElem?_eq_getElem hj
  simp only [ho, Bool.not_true, Bool.false_or, Array.any_eq_true', Bool.and_eq_true, Bool.or_eq_true, beq_iff_eq] at h3
  obtain ⟨e, he, ⟨hb1, hb2⟩, hb3⟩ := h3
  exact ⟨_, e, ho, he, hb1, Nat.blt_eq.mp hb2, hb3⟩

theorem back_spec (h : backEdges ops = true) {j : Nat} {o : Oper} (hj : ops[j]? = some o) {e : Edge} (he : e ∈ o.after) (hb : Region.binds .any e = true) : e.on < j := by
  have hlt : j < ops.size := (Array.getElem?_eq_some_iff.mp hj).1
  simp only [backEdges, List.all_eq_true, List.mem_range] at h
  have h1 := h j hlt
  simp only [hj, Array.all_eq_true', Bool.or_eq_true, Bool.not_eq_true'] at h1
  rcases h1 e he with h2 | h2
  · rw [hb] at h2; cases h2
  · exact Nat.blt_eq.mp h2

theorem loose_spec (h : looseOk P ops b = true) {i j : Nat} {x y : Oper} (hij : i < j) (hi : ops[i]? = some x) (hj : ops[j]? = some y) (hb : ¬ (b.getD j 0).testBit i = true) :
    x.apart ops y = true ∧ y.apart ops x = true ∧ ¬ (isEff P x.op = true ∧ isEff P y.op = true) := by
  have hlt : j < ops.size := (Array.getElem?_eq_some_iff.mp hj).1
  simp only [looseOk, List.all_eq_true, List.mem_range, Bool.or_eq_true] at h
  rcases h j hlt i hij with h1 | h1
  · exact absurd h1 hb
  · simp only [hi, hj, Bool.and_eq_true, Bool.not_eq_true', Bool.and_eq_false_iff] at h1
    refine ⟨h1.1.1, h1.1.2, fun hc => ?_⟩
    rcases h1.2 with h2 | h2
    · rw [hc.1] at h2; cases h2
    · rw [hc.2] at h2; cases h2

theorem reads_spec {tr : List (Heap × Option Nat)} {hs : Nat → Heap} {rd : Nat → Option Nat} {n : Nat} (hn : n = ops.size) (htr : ∀ i, i < n → tr[i]? = some (hs i, rd i)) (hl : tr.length = n)
    (h : readsP P ops b tr (hs n)) {i j g : Nat} {x y : Oper} (hx : ops[i]? = some x) (hj : ops[j]? = some y) (he : isEff P y.op = true) (h1 : ¬ (b.getD j 0).testBit i = true) (h2 : ¬ (b.getD i 0).testBit j = true) (hr : rd i = some g) :
    (hs j).get g = (hs (j + 1)).get g := by
  have hlt : j < ops.size := (Array.getElem?_eq_some_iff.mp hj).1
  have hi : i < ops.size := (Array.getElem?_eq_some_iff.mp hx).1
  simp only [Bool.not_eq_true] at h1 h2
  have h5 := h i j g x y (hs i) (hs j) hx hj he h1 h2 (by rw [htr i (by omega), hr]) (by rw [htr j (by omega)]; rfl)
  rw [h5]
  by_cases e : j + 1 < n
  · rw [htr (j + 1) e]
  · rw [List.getElem?_eq_none (by omega)]
    have : j + 1 = n := by omega
    rw [this]
end spec

/-! The order is open. -/
section open_order
variable {P : Program} {cl : Caller} {ops : Array Oper} {b : Array Nat} {ms : Nat → Tm} {hs : Nat → Heap} {vs : Nat → AV} {β0 : At} {w0 : World} {a0 : Act}

def Ds (listed : Array Bool) (k : Nat) : Bool := listed.getD k false

structure Inv (P : Program) (ops : Array Oper) (b : Array Nat) (m0 : Tm) (hs : Nat → Heap) (vs : Nat → AV) (β0 : At) (w0 : World) (a0 : Act) (listed : Array Bool) (a : Act) (w : World) : Prop where
  size : listed.size = ops.size
  closed : ∀ j i, j < ops.size → Ds listed j = true → (b.getD j 0).testBit i = true → Ds listed i = true
  ex : ∃ β p, p ≤ ops.size ∧ (∀ j o, ops[j]? = some o → isEff P o.op = true → (Ds listed j = true ↔ j < p)) ∧ Rel β (hs p) w ∧ Le β0 (hs 0) w0 β (hs p) w ∧
    TRel (hs p).n β (mD ops m0 vs (Ds listed) ops.size) a.tmps
  defers : a.defers = a0.defers

theorem Ds_set {listed : Array Bool} {i : Nat} (hi : i < listed.size) (j : Nat) : Ds (listed.setIfInBounds i true) j = (Ds listed j || j == i) := by
  unfold Ds
  simp only [Array.getD_eq_getD_getElem?]
  by_cases e : i = j
  · subst e
    simp [Array.getElem?_setIfInBounds, hi]
  · rw [Array.getElem?_setIfInBounds_ne e]
    have : (j == i) = false := by simp; omega
    simp [this]

theorem ready_spec {listed : Array Bool} (hsz : listed.size = ops.size) {i : Nat} (h : i ∈ Region.ready .any ops listed) :
    i < ops.size ∧ Ds listed i = false ∧ ∃ o, ops[i]? = some o ∧ ∀ e ∈ o.after, Region.binds .any e = true → Ds listed e.on = true := by
  simp only [Region.ready, List.mem_filter, List.mem_range, Bool.and_eq_true, Bool.not_eq_true'] at h
  obtain ⟨h1, h2, h3⟩ := h
  refine ⟨h1, ?_, ?_⟩
  · unfold Ds
    simp only [Array.getD_eq_getD_getElem?, Array.getElem?_eq_getElem (show i < listed.size by omega), Option.getD_some] at h2 ⊢
    exact h2
  · have ho : ops[i]? = some ops[i] := Array.getElem?_eq_getElem h1
    refine ⟨_, ho, fun e he hb => ?_⟩
    simp only [ho, Option.map_some, Option.getD_some, Array.all_eq_true', Bool.or_eq_true, Bool.not_eq_true'] at h3
    rcases h3 e he with h4 | h4
    · rw [hb] at h4; cases h4
    · exact h4

theorem all_listed (hback : backEdges ops = true) {listed : Array Bool} (hsz : listed.size = ops.size) (h : Region.ready .any ops listed = []) : ∀ i, i < ops.size → Ds listed i = true := by
  intro i
  induction i using Nat.strongRecOn with
  | ind i ih =>
    intro hi
    cases hd : Ds listed i with
    | true => rfl
    | false =>
      have ho : ops[i]? = some ops[i] := Array.getElem?_eq_getElem hi
      have : i ∈ Region.ready .any ops listed := by
        simp only [Region.ready, List.mem_filter, List.mem_range, Bool.and_eq_true, Bool.not_eq_true', ho, Option.map_some, Option.getD_some, Array.all_eq_true', Bool.or_eq_true]
        refine ⟨hi, ?_, fun e he => ?_⟩
        · unfold Ds at hd
          simp only [Array.getD_eq_getD_getElem?, Array.getElem?_eq_getElem (show i < listed.size by omega), Option.getD_some] at hd ⊢
          exact hd
        · cases hb : Region.binds .any e with
          | false => exact .inl rfl
          | true =>
            have := back_spec hback ho he hb
            exact .inr (ih e.on this (by omega))
      rw [h] at this
      cases this

theorem Inv.done (hrun : Run P cl ops ms hs vs) {listed : Array Bool} {a : Act} {w : World} (I : Inv P ops b (ms 0) hs vs β0 w0 a0 listed a w) (hall : ∀ i, i < ops.size → Ds listed i = true) :
    ∃ β, Rel β (hs ops.size) w ∧ Le β0 (hs 0) w0 β (hs ops.size) w ∧ TRel (hs ops.size).n β (ms ops.size) a.tmps ∧ a.defers = a0.defers := by
  obtain ⟨β, p, hp, heff, hR, hLe, hT⟩ := I.ex
  have hh : hs p = hs ops.size := by
    refine hrun.flat hp (Nat.le_refl _) fun j o h1 h2 ho => ?_
    cases he : isEff P o.op with
    | false => rfl
    | true => have := (heff j o ho he).mp (hall j h2); omega
  rw [hh] at hR hLe hT
  refine ⟨β, hR, hLe, ?_, I.defers⟩
  refine Tm.ext_get ?_ (fun t => ?_) hT
  · rw [mD_n, (hrun.get 0 (k := ops.size) (Nat.le_refl _)).1]
  · rw [(hrun.get t (k := ops.size) (Nat.le_refl _)).2]
    exact mD_ext fun j hj _ => hall j hj

/-- Of two that touch one variable, one comes first by the table. -/
theorem order_of (hloose : looseOk P ops b = true) {i j : Nat} {x y : Oper} (hi : ops[i]? = some x) (hj : ops[j]? = some y) (hne : i ≠ j) {t : Nat} (hy : y.dst = some t) (hx : x.dst = some t ∨ t ∈ x.looksAt ops) :
    (i < j → (b.getD j 0).testBit i = true) ∧ (j < i → (b.getD i 0).testBit j = true) := by
  constructor
  · intro hij
    apply Classical.byContradiction
    intro hb
    obtain ⟨h1, h2, _⟩ := loose_spec hloose hij hi hj hb
    rcases hx with hx | hx
    · exact (Oper.apart_spec h1).2.1 t hx hy
    · exact (Oper.apart_spec h1).2.2 t hy hx
  · intro hji
    apply Classical.byContradiction
    intro hb
    obtain ⟨h1, h2, _⟩ := loose_spec hloose hji hj hi hb
    rcases hx with hx | hx
    · exact (Oper.apart_spec h1).2.1 t hy hx
    · exact (Oper.apart_spec h1).1 t hy hx

theorem wr_spec {k t : Nat} (h : wr ops k t = true) : ∃ o, ops[k]? = some o ∧ o.dst = some t := by
  unfold wr at h
  split at h
  · rename_i o ho; exact ⟨o, ho, by simpa using h⟩
  · cases h

theorem count_set : ∀ (l : List Bool) (i : Nat), l[i]? = some false → (l.set i true).countP (fun x => !x) + 1 = l.countP (fun x => !x)
  | [], i, h => by simp at h
  | x :: l, 0, h => by simp at h; subst h; simp
  | x :: l, i + 1, h => by
    simp only [List.getElem?_cons_succ] at h
    have := count_set l i h
    cases x <;> simp [List.countP_cons] <;> omega

theorem any_sound (hcl : CallOk P cl) (hrun : Run P cl ops ms hs vs) (hbits : bitsOk ops b = true) (hback : backEdges ops = true) (hloose : looseOk P ops b = true)
    (hreads : ∀ i j g x y, ops[i]? = some x → ops[j]? = some y → isEff P y.op = true → ¬ (b.getD j 0).testBit i = true → ¬ (b.getD i 0).testBit j = true → readOf x.op (ms i) = some g → (hs j).get g = (hs (j + 1)).get g)
    {Q : Exit → Act → World → Prop}
    (hQ : ∀ β a w, Rel β (hs ops.size) w → Le β0 (hs 0) w0 β (hs ops.size) w → TRel (hs ops.size).n β (ms ops.size) a.tmps → a.defers = a0.defers → Q .normal a w) :
    ∀ (fuel : Nat) (listed : Array Bool) (a : Act) (w : World), Inv P ops b (ms 0) hs vs β0 w0 a0 listed a w → (listed.toList.countP fun x => !x) ≤ fuel → wpAny P .any ops Q fuel listed a w
  | 0, listed, a, w, I, hf => by
    have hall : ∀ i, i < ops.size → Ds listed i = true := by
      intro i hi
      have h0 : listed.toList.countP (fun x => !x) = 0 := by omega
      rw [List.countP_eq_zero] at h0
      have hlt : i < listed.size := by rw [I.size]; exact hi
      have := h0 listed[i] (by simp)
      unfold Ds
      simp only [Array.getD_eq_getD_getElem?, Array.getElem?_eq_getElem hlt, Option.getD_some]
      simpa using this
    obtain ⟨β, h1, h2, h3, h4⟩ := I.done hrun hall
    refine ⟨?_, hQ β a w h1 h2 h3 h4⟩
    apply List.eq_nil_iff_forall_not_mem.mpr
    intro i hi
    have := ready_spec I.size hi
    rw [hall i this.1] at this
    cases this.2.1
  | fuel + 1, listed, a, w, I, hf => by
    refine ⟨fun hr => ?_, fun i hi => ?_⟩
    · obtain ⟨β, h1, h2, h3, h4⟩ := I.done hrun (all_listed hback I.size hr)
      exact hQ β a w h1 h2 h3 h4
    · obtain ⟨hlt, hun, o, ho, hedges⟩ := ready_spec I.size hi
      obtain ⟨β, p, hp, heff, hR, hLe, hT⟩ := I.ex
      obtain ⟨hstep, hdst⟩ := hrun i o ho
      -- what must come first has come
      have hpre : ∀ k, (b.getD i 0).testBit k = true → Ds listed k = true := by
        intro k hk
        obtain ⟨hki, o', e, ho', he, hb1, hb2, hb3⟩ := bits_spec hbits hlt hk
        rw [ho] at ho'
        cases ho'
        have hl := hedges e he hb1
        rcases hb3 with rfl | hb3
        · exact hl
        · exact I.closed e.on k (by omega) hl hb3
      -- what must come behind has not
      have hpost : ∀ k, k < ops.size → (b.getD k 0).testBit i = true → Ds listed k = false := by
        intro k hk hb
        cases hd : Ds listed k with
        | false => rfl
        | true => have := I.closed k i hk hd hb; rw [hun] at this; cases this
      -- the variables that it looks at
      have hag : Agree ops o (mD ops (ms 0) vs (Ds listed) ops.size) (ms i) := by
        intro t ht
        have key : ∀ k, k < ops.size → wr ops k t = true → Ds listed k = decide (k < i) := by
          intro k hk hw
          obtain ⟨y, hy, hyd⟩ := wr_spec hw
          by_cases e : k = i
          · subst e; rw [hun]; simp
          · obtain ⟨q1, q2⟩ := order_of hloose ho hy (fun e' => e e'.symm) hyd (.inr ht)
            by_cases hki : k < i
            · rw [hpre k (q2 hki)]; simp [hki]
            · rw [hpost k hk (q1 (by omega))]; simp [hki]
        rw [(hrun.get t (k := i) (by omega)).2, mD_ext (D := Ds listed) (D' := fun j => decide (j < i)) key,
          mD_skip (i := i) (n := ops.size) (D := fun j => decide (j < i)) (by omega) (by intro j h1 _ _; simp; omega)]
        exact mD_ext fun j hj _ => by simp [hj]
      -- the memory that it meets
      have hmem : ∃ p', stepV P cl ops o (ms i) (hs p) = some (vs i, hs p') ∧ p' ≤ ops.size ∧
          ∀ j o, ops[j]? = some o → isEff P o.op = true → (Ds (listed.setIfInBounds i true) j = true ↔ j < p') := by
        have hsz : i < listed.size := by rw [I.size]; exact hlt
        cases hE : isEff P o.op with
        | true =>
          have hip : p ≤ i := by
            apply Classical.byContradiction
            intro hn
            have := (heff i o ho hE).mpr (by omega)
            rw [hun] at this; cases this
          have hno : ∀ j y, p ≤ j → j < i → ops[j]? = some y → isEff P y.op = false := by
            intro j y h1 h2 hj
            cases he : isEff P y.op with
            | false => rfl
            | true =>
              exfalso
              by_cases hb : (b.getD i 0).testBit j = true
              · have := (heff j y hj he).mp (hpre j hb); omega
              · exact (loose_spec hloose h2 hj ho hb).2.2 ⟨he, hE⟩
          have hh : hs p = hs i := hrun.flat hip (by omega) hno
          refine ⟨i + 1, by rw [hh]; exact hstep, hlt, fun j y hj he => ?_⟩
          rw [Ds_set hsz]
          simp only [Bool.or_eq_true, beq_iff_eq]
          constructor
          · rintro (h | h)
            · have := (heff j y hj he).mp h; omega
            · omega
          · intro h
            by_cases e : j = i
            · exact .inr e
            · left
              apply (heff j y hj he).mpr
              apply Classical.byContradiction
              intro hn
              have := hno j y (by omega) (by omega) hj
              rw [he] at this; cases this
        | false =>
          obtain ⟨h1, h2⟩ := stepV_still hE hstep
          refine ⟨p, h2 (hs p) fun r hr => ?_, hp, fun j y hj he => ?_⟩
          · by_cases hpi : p ≤ i
            · refine hrun.row hpi (by omega) fun j y q1 q2 hj he => ?_
              have hjn : ¬ Ds listed j = true := fun h => by have := (heff j y hj he).mp h; omega
              refine hreads i j r o y ho hj he (fun hb => ?_) (fun hb => hjn (hpre j hb)) hr
              have := (bits_spec hbits (by omega) hb).1; omega
            · refine (hrun.row (p := i) (q := p) (by omega) hp fun j y q1 q2 hj he => ?_).symm
              have hjl := (heff j y hj he).mpr q2
              refine hreads i j r o y ho hj he (fun hb => ?_) (fun hb => ?_) hr
              · rw [hpost j (by omega) hb] at hjl; cases hjl
              · have := (bits_spec hbits hlt hb).1; omega
          · rw [Ds_set hsz]
            have hne : j ≠ i := by
              intro e
              subst e
              rw [ho] at hj
              cases hj
              rw [hE] at he; cases he
            simp only [Bool.or_eq_true, beq_iff_eq, hne, or_false]
            exact heff j y hj he
      obtain ⟨p', hst, hp', heff'⟩ := hmem
      have hsz : i < listed.size := by rw [I.size]; exact hlt
      obtain ⟨m2, hm2⟩ := Tm.dst_some (m1 := mD ops (ms 0) vs (Ds listed) ops.size) (u := vs i) hdst (by rw [mD_n, (hrun.get 0 (k := i) (by omega)).1])
      have hsA : stepA P cl ops o (mD ops (ms 0) vs (Ds listed) ops.size) (hs p) = some (m2, hs p') := by
        rw [stepA_eq, stepV_congr hag, hst]
        simp only [Option.bind_some, hm2, Option.map_some]
      unfold wpOp
      rw [ho]
      refine step_sound hcl hsA hR hT fun β' a' w' hR' hLe' hT' hd' => ?_
      refine any_sound hcl hrun hbits hback hloose hreads hQ fuel _ a' w' ?_ ?_
      · refine ⟨by simp [I.size], fun j k hj hd hb => ?_, ⟨β', p', hp', heff', hR', hLe.trans hLe', ?_⟩, hd'.trans I.defers⟩
        · rw [Ds_set hsz] at hd ⊢
          simp only [Bool.or_eq_true, beq_iff_eq] at hd ⊢
          rcases hd with hd | rfl
          · exact .inl (I.closed j k hj hd hb)
          · exact .inl (hpre k hb)
        · refine Tm.ext_get ?_ (fun t => ?_) hT'
          · rw [(Tm.dst_get hm2).1, mD_n, mD_n]
          · rw [(Tm.dst_get hm2).2 t, mD_add hlt (Ds_set hsz)]
            · simp [wr, ho]
            · intro j h1 h2 w1 w2
              obtain ⟨x, hx, hxd⟩ := wr_spec w1
              obtain ⟨y, hy, hyd⟩ := wr_spec w2
              exact hpost j h2 ((order_of hloose hx hy (by omega) hyd (.inl hxd)).1 h1)
      · have hf2 := count_set listed.toList i (by
          have : Ds listed i = false := hun
          unfold Ds at this
          simp only [Array.getD_eq_getD_getElem?, Array.getElem?_eq_getElem hsz, Option.getD_some] at this
          rw [Array.getElem?_toList, Array.getElem?_eq_getElem hsz, this])
        rw [Array.toList_setIfInBounds]
        omega
end open_order

/-- A region whose order is open. -/
theorem draw_any {P : Program} {cl : Caller} (hcl : CallOk P cl) {ops : Array Oper} {m m' : Tm} {H H' : Heap} (h : drawA P cl ops m H = some (m', H'))
    {a : Act} {β : At} {w : World} (hR : Rel β H w) (hT : TRel H.n β m a.tmps) {Q : Exit → Act → World → Prop}
    (hQ : ∀ β' a' w', Rel β' H' w' → Le β H w β' H' w' → TRel H'.n β' m' a'.tmps → a'.defers = a.defers → Q .normal a' w') : wpAny P .any ops Q ops.size (Array.replicate ops.size false) a { w with drawn := w.drawn + 1 } := by
  unfold drawA at h
  split at h
  · rename_i hd
    simp only [drawOk, Bool.and_eq_true] at hd
    obtain ⟨⟨hback, hbits⟩, hloose⟩ := hd
    split at h
    · cases h
    · rename_i m1 H1 tr htr
      split at h
      · rename_i hreads
        cases h
        obtain ⟨ms, hs, vs, e1, e2, e3, e4, e5, e6⟩ := run_of_trace htr
        have hlen : ops.toList.length = ops.size := by simp
        rw [hlen] at e3 e4 e5
        have hrun : Run P cl ops ms hs vs := fun i o ho => (e6 i o (by simpa using ho)).1
        subst e1 e2 e3 e4
        refine any_sound (b := Region.before ops) (β0 := β) (w0 := w) (a0 := a) hcl hrun hbits hback hloose ?_ hQ ops.size _ a _ ?_ ?_
        · intro i j g x y hi hj he h1 h2 hr
          have hlt : i < ops.size := (Array.getElem?_eq_some_iff.mp hi).1
          refine reads_spec (rd := fun i => match ops[i]? with | some o => readOf o.op (ms i) | none => none) rfl ?_ e5 hreads hi hj he h1 h2 (by simp only [hi]; exact hr)
          intro k hk
          have hk' : ops[k]? = some ops[k] := Array.getElem?_eq_getElem hk
          rw [(e6 k ops[k] (by simp [hk])).2]
          simp only [hk']
        · have hDs : ∀ k, Ds (Array.replicate ops.size false) k = false := by
            intro k
            unfold Ds
            simp [Array.getD_eq_getD_getElem?, Array.getElem?_replicate]
            split <;> rfl
          refine ⟨by simp, fun j i _ hd => ?_, ⟨β, 0, Nat.zero_le _, fun j o _ _ => ?_, hR.drew, Le.drew _ _ _, ?_⟩, rfl⟩
          · rw [hDs] at hd; cases hd
          · rw [hDs]; simp
          · refine Tm.ext_get ?_ (fun t => ?_) hT
            · rw [mD_n]
            · rw [mD_skip (i := 0) (Nat.zero_le _) (fun j _ _ _ => hDs j)]; rfl
        · refine Nat.le_trans List.countP_le_length ?_
          simp
      · cases h
  · cases h
theorem draw_sound {P : Program} {cl : Caller} (hcl : CallOk P cl) (hm : P.follows .mixedOrders = true) {id : Nat} {ops : Array Oper} {m m' : Tm} {H H' : Heap} (h : drawA P cl ops m H = some (m', H'))
    {a : Act} {β : At} {w : World} (hR : Rel β H w) (hT : TRel H.n β m a.tmps) {Q : Exit → Act → World → Prop}
    (hQ : ∀ β' a' w', Rel β' H' w' → Le β H w β' H' w' → TRel H'.n β' m' a'.tmps → a'.defers = a.defers → Q .normal a' w') : (Code.region id ops true).wp P Q a w :=
  wp_region_any hm (draw_any hcl h hR hT hQ)
end Go.Vx
