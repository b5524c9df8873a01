/- The evaluator's regions of open order are the machine's, in whatever order. (A help: no statement of the seat is proved here.) -/
import Derived.Test.YtgmlklaehklmoaaVxA
set_option linter.unusedVariables false
set_option linter.unusedSimpArgs false
namespace Go.Vx

theorem Tm.ext_get {N : Nat} {β : At} {m m' : Tm} {tmps : Array Value} (hn : m.n = m'.n) (hg : ∀ t, m.get t = m'.get t) (h : TRel N β m tmps) : TRel N β m' tmps :=
  ⟨by rw [h.1, hn], fun i v hv => h.2 i v (by rw [hg]; exact hv)⟩

/-! What an operation hangs on. -/
section congr
variable {P : Program} {m m' : Tm} {H H' : Heap}

theorem opnds_congr : ∀ {l : List Operand}, (∀ x ∈ l, opnd m x = opnd m' x) → opnds m l = opnds m' l
  | [], _ => rfl
  | x :: l, h => by
    simp only [opnds]
    rw [h x (by simp), opnds_congr fun y hy => h y (by simp [hy])]
theorem partsA_congr : ∀ {l : List (Nat × Operand)}, (∀ x ∈ l.map (·.2), opnd m x = opnd m' x) → partsA m l = partsA m' l
  | [], _ => rfl
  | (i, x) :: l, h => by
    simp only [partsA]
    rw [h x (by simp), partsA_congr fun y hy => h y (by simp at hy ⊢; exact .inr hy)]
theorem optOpnd_congr {x : Option Operand} (h : ∀ y ∈ x.toArray, opnd m y = opnd m' y) : optOpnd m x = optOpnd m' x := by
  cases x with
  | none => rfl
  | some x => simp only [optOpnd]; rw [h x (by simp)]

theorem callA_congr {c : Call} (h : ∀ x ∈ c.operands, opnd m x = opnd m' x) : callA P c m H = callA P c m' H := by
  unfold callA
  rw [opnds_congr (m := m) (m' := m') (l := c.args.toList) fun x hx => h x (by simp [Call.operands]; right; simpa using hx)]
  cases hc : c.callee with
  | value f => simp only; rw [h f (by simp [Call.operands, hc])]
  | invoke r s => rfl
  | builtin b => rfl

theorem opA_congr {o : Op} (h : ∀ x ∈ o.operands, opnd m x = opnd m' x) : opA P o m H = opA P o m' H := by
  cases o <;> simp only [Op.operands] at h <;> simp only [opA]
  case move x => rw [h x (by simp)]
  case assign x => rw [h x (by simp)]
  case pick c x y => rw [h c (by simp), h x (by simp), h y (by simp)]
  case box t x => rw [h x (by simp)]
  case build t ps => rw [partsA_congr (m := m) (m' := m') (l := ps.toList) fun x hx => h x (by simpa using hx)]
  case buildSlice t n ps => rw [partsA_congr (m := m) (m' := m') (l := ps.toList) fun x hx => h x (by simpa using hx)]
  case load t x => rw [h x (by simp)]
  case store t x y => rw [h x (by simp), h y (by simp)]
  case nilCheck x => rw [h x (by simp)]
  case binOp op t x y u => rw [h x (by simp), h y (by simp)]
  case unOp op t x => rw [h x (by simp)]
  case convert s d x => rw [h x (by simp)]
  case makeFunc fn x y =>
    rw [opnds_congr (m := m) (m' := m') (l := x.toList) fun z hz => h z (by simp; left; simpa using hz), opnds_congr (m := m) (m' := m') (l := y.toList) fun z hz => h z (by simp; right; simpa using hz)]
  case makeSlice t x y => rw [h x (by simp), h y (by simp)]
  case slice t x lo hi mx =>
    cases mx with
    | none =>
      simp only
      rw [h x (by simp), optOpnd_congr (m := m) (m' := m') (x := lo) fun y hy => h y (by simp at hy ⊢; simp [hy]), optOpnd_congr (m := m) (m' := m') (x := hi) fun y hy => h y (by simp at hy ⊢; simp [hy])]
    | some y =>
      simp only
      rw [h x (by simp), h y (by simp), optOpnd_congr (m := m) (m' := m') (x := lo) fun y hy => h y (by simp at hy ⊢; simp [hy]), optOpnd_congr (m := m) (m' := m') (x := hi) fun y hy => h y (by simp at hy ⊢; simp [hy])]
  case fieldAddr s x f => rw [h x (by simp)]
  case field s x f => rw [h x (by simp)]
  case indexAddr t x y => rw [h x (by simp), h y (by simp)]
  case index t x y => rw [h x (by simp), h y (by simp)]
  case extract x i => rw [h x (by simp)]
  case call c => exact callA_congr h

theorem readOf_congr {o : Op} (h : ∀ x ∈ o.operands, opnd m x = opnd m' x) : readOf o m = readOf o m' := by
  cases o <;> simp only [Op.operands] at h <;> simp only [readOf]
  case load t x => rw [h x (by simp)]
  case convert s d x => rw [h x (by simp)]

/-- What touches no memory but by reading one row. -/
theorem opA_still {o : Op} {g : Got} (he : isEff P o = false) (h : opA P o m H = some g) (hr : ∀ r, readOf o m = some r → H'.get r = H.get r) : ∃ v, g = .val v H ∧ opA P o m H' = some (.val v H') := by
  cases o <;> simp only [opA] at h ⊢ <;> simp only [isEff] at he <;> try (first | (cases he; done) | (cases h; done))
  case move x => obtain ⟨v, hv, rfl⟩ := map_some h; exact ⟨_, rfl, by simp [*]⟩
  case assign x => obtain ⟨v, hv, rfl⟩ := map_some h; exact ⟨_, rfl, by simp [*]⟩
  case pick c x y =>
    split at h
    · rename_i hc; obtain ⟨v, hv, rfl⟩ := map_some h; exact ⟨_, rfl, by simp [*]⟩
    · rename_i hc; obtain ⟨v, hv, rfl⟩ := map_some h; exact ⟨_, rfl, by simp [*]⟩
    · cases h
  case build t ps =>
    split at h
    · rename_i z qs fields hz hp hu
      split at h
      · rename_i pl hpl; obtain ⟨v, hv, rfl⟩ := map_some h; exact ⟨_, rfl, by simp [*]⟩
      · cases h
    · rename_i z qs n e hz hp hu
      split at h
      · rename_i s hs; obtain ⟨v, hv, rfl⟩ := map_some h; exact ⟨_, rfl, by simp [*]⟩
      · cases h
    · cases h
  case load t x =>
    split at h
    · rename_i r hx
      obtain ⟨v, hv, rfl⟩ := map_some h
      refine ⟨_, rfl, ?_⟩
      have hg : H'.get r.g = H.get r.g := hr r.g (by simp only [readOf, hx])
      have : loadV P H' t r = some v := by rw [← hv]; unfold loadV Heap.row; rw [hg]
      simp [this]
    · rename_i t' l e p hx
      obtain ⟨v, hv, rfl⟩ := map_some h
      exact ⟨_, rfl, by simp [hv]⟩
    · cases h
  case nilCheck x =>
    split at h
    · rename_i r hx; cases h; exact ⟨_, rfl, by simp [*]⟩
    · rename_i t' l e p hx; cases h; exact ⟨_, rfl, by simp [*]⟩
    · rename_i f p q hx; cases h; exact ⟨_, rfl, by simp [*]⟩
    · cases h
  case binOp op t x y u =>
    split at h
    · rename_i p q hp hq; obtain ⟨v, hv, rfl⟩ := map_some h; exact ⟨_, rfl, by simp [*]⟩
    · cases h
  case unOp op t x =>
    split at h
    · rename_i p hp; obtain ⟨v, hv, rfl⟩ := map_some h; exact ⟨_, rfl, by simp [*]⟩
    · cases h
  case convert s d x =>
    split at h
    · rename_i p hp
      obtain ⟨⟨v, H1⟩, hv, rfl⟩ := map_some h
      unfold convA at hv
      split at hv
      · rename_i hs hd; cases hv; exact ⟨_, rfl, by simp [convA, hs, hd]⟩
      · rename_i hs hd; cases hv; exact ⟨_, rfl, by simp [convA, hs, hd]⟩
      · rename_i e tt s' hs hd
        have : kindOf P d = 3 := by simp [kindOf, hd]
        rw [this] at he
        cases he
      · rename_i e tt r n sz hs hd
        split at hv
        · rename_i hc
          split at hv
          · rename_i L hL
            obtain ⟨s', hs', hv'⟩ := map_some hv
            simp only [Prod.mk.injEq] at hv'
            obtain ⟨rfl, rfl⟩ := hv'
            refine ⟨_, rfl, ?_⟩
            have : sliceSrc H' r n 1 = some L := by
              rw [← hL]
              cases r with
              | none => rfl
              | some r =>
                simp only [sliceSrc]
                rw [hr r.g (by simp only [readOf, hp])]
            simp only [convA, hs, hd, if_pos hc, this, hs', Option.map_some]
          · cases hv
        · cases hv
      · rename_i e l hs hd
        split at hv
        · rename_i hc; cases hv; exact ⟨_, rfl, by simp [convA, hs, hd, hc]⟩
        · cases hv
      · cases hv
    · cases h
  case makeFunc fn x y =>
    split at h
    · rename_i p q hp hq; cases h; exact ⟨_, rfl, by simp [*]⟩
    · cases h
  case slice t x lo hi mx =>
    cases mx with
    | none =>
      simp only at h ⊢
      split at h
      · rename_i p l u hp hl hu; obtain ⟨v, hv, rfl⟩ := map_some h; exact ⟨_, rfl, by simp [*]⟩
      · cases h
    | some y =>
      simp only at h ⊢
      split at h
      · rename_i p l u q hp hl hu hq; obtain ⟨v, hv, rfl⟩ := map_some h; exact ⟨_, rfl, by simp [*]⟩
      · cases h
  case fieldAddr s x f =>
    split at h
    · rename_i r fd hr' hf
      split at h
      · rename_i k hk; cases h; exact ⟨_, rfl, by simp [*]⟩
      · cases h
    · rename_i t' l e p fd hr' hf
      split at h
      · rename_i k hk; cases h; exact ⟨_, rfl, by simp [*]⟩
      · cases h
    · cases h
  case field s x f =>
    split at h
    · rename_i cs fd hc hf; obtain ⟨v, hv, rfl⟩ := map_some h; exact ⟨_, rfl, by simp [*]⟩
    · cases h
  case indexAddr t x y =>
    split at h
    · rename_i p q hp hq; obtain ⟨v, hv, rfl⟩ := map_some h; exact ⟨_, rfl, by simp [*]⟩
    · cases h
  case index t x y =>
    split at h
    · rename_i p q hp hq; obtain ⟨v, hv, rfl⟩ := map_some h; exact ⟨_, rfl, by simp [*]⟩
    · cases h
  case extract x i =>
    split at h
    · rename_i vs hvs; obtain ⟨v, hv, rfl⟩ := map_some h; exact ⟨_, rfl, by simp [*]⟩
    · cases h
  case call c =>
    unfold callA at h ⊢
    split at h
    · cases h
    · rename_i args hargs
      split at h
      · rename_i b hb
        rw [hb] at he
        unfold builtinA at h ⊢
        split at h
        · rename_i t ts x hts; obtain ⟨v, hv, rfl⟩ := map_some h; exact ⟨_, rfl, by simp [*]⟩
        · rename_i ts x l; obtain ⟨v, hv, rfl⟩ := map_some h; exact ⟨v, rfl, by simp [hv]⟩
        · rename_i ts x l; obtain ⟨v, hv, rfl⟩ := map_some h; exact ⟨v, rfl, by simp [hv]⟩
        · cases he
        · cases h
      · rename_i f hf; rw [hf] at he; cases he
      · cases h
end congr

/-! A step's value and heap. -/
def stepV (P : Program) (cl : Caller) (ops : Array Oper) (o : Oper) (m : Tm) (H : Heap) : Option (AV × Heap) :=
  match guardA ops o m with
  | none => none
  | some false => some (.tup [], H)
  | some true => match opA P o.op m H with
    | none => none
    | some (.val v H') => some (v, H')
    | some (.enter f args) => cl f args H

theorem stepA_eq (P : Program) (cl : Caller) (ops : Array Oper) (o : Oper) (m : Tm) (H : Heap) :
    stepA P cl ops o m H = (stepV P cl ops o m H).bind fun r => (m.dst o.dst r.1).map fun m' => (m', r.2) := by
  unfold stepA stepV
  cases guardA ops o m with
  | none => rfl
  | some b =>
    cases b with
    | false => rfl
    | true =>
      simp only
      cases opA P o.op m H with
      | none => rfl
      | some g =>
        cases g with
        | val v H' => rfl
        | enter f args =>
          simp only
          cases cl f args H with
          | none => rfl
          | some r => rfl

section some_order
variable {P : Program} {cl : Caller} {ops : Array Oper}

def Agree (ops : Array Oper) (o : Oper) (m m' : Tm) : Prop := ∀ t, t ∈ o.looksAt ops → m.get t = m'.get t

theorem Agree.op {o : Oper} {m m' : Tm} (h : Agree ops o m m') : ∀ x ∈ o.op.operands, opnd m x = opnd m' x := by
  intro x hx
  cases x with
  | tmp t =>
    simp only [opnd]
    refine h t ?_
    simp only [Oper.looksAt, List.mem_append, List.mem_filterMap]
    exact .inl ⟨.tmp t, by simpa using hx, rfl⟩
  | _ => rfl

theorem Agree.guard {o : Oper} {m m' : Tm} (h : Agree ops o m m') : guardA ops o m = guardA ops o m' := by
  unfold guardA
  cases hg : o.guard with
  | none => rfl
  | some g =>
    obtain ⟨j, want⟩ := g
    simp only
    cases hj : ops[j]? with
    | none => rfl
    | some oj =>
      simp only
      cases hd : oj.dst with
      | none => rfl
      | some d =>
        simp only
        rw [h d (by simp [Oper.looksAt, hg, hj, hd])]

theorem stepV_congr {o : Oper} {m m' : Tm} {H : Heap} (h : Agree ops o m m') : stepV P cl ops o m H = stepV P cl ops o m' H := by
  unfold stepV
  rw [h.guard, opA_congr h.op]

theorem stepV_still {o : Oper} {m : Tm} {H H' : Heap} {v : AV} (he : isEff P o.op = false) (h : stepV P cl ops o m H = some (v, H')) :
    H' = H ∧ ∀ H2, (∀ r, readOf o.op m = some r → H2.get r = H.get r) → stepV P cl ops o m H2 = some (v, H2) := by
  unfold stepV at h ⊢
  split at h
  · cases h
  · rename_i hg
    simp only [Option.some.injEq, Prod.mk.injEq] at h
    obtain ⟨rfl, rfl⟩ := h
    exact ⟨rfl, fun H2 _ => by simp only [hg]⟩
  · rename_i hg
    cases hop : opA P o.op m H with
    | none => rw [hop] at h; cases h
    | some g =>
      rw [hop] at h
      obtain ⟨v1, rfl, _⟩ := opA_still (H' := H) he hop fun _ _ => rfl
      simp only [Option.some.injEq, Prod.mk.injEq] at h
      obtain ⟨rfl, rfl⟩ := h
      refine ⟨rfl, fun H2 hr => ?_⟩
      obtain ⟨v2, hv, h2⟩ := opA_still (H' := H2) he hop hr
      cases hv
      simp only [hg, h2]

theorem Tm.dst_get {m m' : Tm} {d : Option Nat} {v : AV} (h : m.dst d v = some m') : m'.n = m.n ∧ ∀ t, m'.get t = if d = some t then some v else m.get t := by
  cases d with
  | none => cases h; exact ⟨rfl, fun t => by simp⟩
  | some i =>
    simp only [Tm.dst, Tm.put] at h
    cases hb : Nat.blt i m.n with
    | false => rw [hb] at h; cases h
    | true =>
      rw [hb] at h
      cases h
      refine ⟨rfl, fun t => ?_⟩
      simp only [Tm.get, Trie.get_set, Option.some.injEq]
      by_cases e : t = i
      · subst e; simp
      · rw [if_neg e, if_neg (fun e' => e e'.symm)]
theorem Tm.dst_some {m m1 m' : Tm} {d : Option Nat} {v u : AV} (h : m.dst d v = some m') (hn : m1.n = m.n) : ∃ m2, m1.dst d u = some m2 := by
  cases d with
  | none => exact ⟨_, rfl⟩
  | some i =>
    simp only [Tm.dst, Tm.put] at h ⊢
    rw [hn]
    cases hb : Nat.blt i m.n with
    | false => rw [hb] at h; cases h
    | true => exact ⟨_, rfl⟩

/-! The variables after some of a region's operations. -/
def wr (ops : Array Oper) (k t : Nat) : Bool := match ops[k]? with
  | some o => o.dst == some t
  | none => false
def mD (ops : Array Oper) (m0 : Tm) (vs : Nat → AV) (D : Nat → Bool) : Nat → Tm
  | 0 => m0
  | k + 1 => match (ops[k]?).bind (·.dst) with
    | some t => if D k = true then { n := m0.n, t := (mD ops m0 vs D k).t.set t (vs k) } else mD ops m0 vs D k
    | none => mD ops m0 vs D k
theorem mD_n (ops : Array Oper) (m0 : Tm) (vs : Nat → AV) (D : Nat → Bool) : ∀ k, (mD ops m0 vs D k).n = m0.n
  | 0 => rfl
  | k + 1 => by
    unfold mD
    split
    · split
      · rfl
      · exact mD_n ops m0 vs D k
    · exact mD_n ops m0 vs D k
theorem mD_get (ops : Array Oper) (m0 : Tm) (vs : Nat → AV) (D : Nat → Bool) (k t : Nat) :
    (mD ops m0 vs D (k + 1)).get t = if D k = true ∧ wr ops k t = true then some (vs k) else (mD ops m0 vs D k).get t := by
  have hw : wr ops k t = ((ops[k]?).bind (·.dst) == some t) := by
    unfold wr
    cases ops[k]? <;> rfl
  rw [hw, mD]
  generalize (ops[k]?).bind (·.dst) = q
  cases q with
    | none => simp
    | some d =>
      simp only
      by_cases hD : D k = true
      · rw [if_pos hD]
        simp only [Tm.get, Trie.get_set, hD, true_and, beq_iff_eq, Option.some.injEq]
        by_cases e : t = d
        · subst e; simp
        · rw [if_neg e, if_neg (fun e' => e e'.symm)]
      · rw [if_neg hD]; simp [hD]
theorem mD_ext {ops : Array Oper} {m0 : Tm} {vs : Nat → AV} {D D' : Nat → Bool} {t : Nat} : ∀ {k}, (∀ j, j < k → wr ops j t = true → D j = D' j) → (mD ops m0 vs D k).get t = (mD ops m0 vs D' k).get t
  | 0, _ => rfl
  | k + 1, h => by
    rw [mD_get, mD_get, mD_ext fun j hj => h j (by omega)]
    by_cases hw : wr ops k t = true
    · rw [h k (by omega) hw]
    · simp [hw]
theorem mD_skip {ops : Array Oper} {m0 : Tm} {vs : Nat → AV} {D : Nat → Bool} {t i : Nat} : ∀ {n}, i ≤ n → (∀ j, i ≤ j → j < n → wr ops j t = true → D j = false) → (mD ops m0 vs D n).get t = (mD ops m0 vs D i).get t
  | 0, hi, _ => by rw [Nat.le_zero.mp hi]
  | n + 1, hi, h => by
    by_cases e : i = n + 1
    · rw [e]
    · rw [mD_get, mD_skip (i := i) (n := n) (by omega) fun j h1 h2 => h j h1 (by omega)]
      by_cases hw : wr ops n t = true
      · rw [h n (by omega) (by omega) hw]; simp
      · simp [hw]
theorem mD_add {ops : Array Oper} {m0 : Tm} {vs : Nat → AV} {D D' : Nat → Bool} {t i n : Nat} (hi : i < n) (hD : ∀ j, D' j = (D j || j == i)) (h : ∀ j, i < j → j < n → wr ops i t = true → wr ops j t = true → D j = false) :
    (mD ops m0 vs D' n).get t = if wr ops i t = true then some (vs i) else (mD ops m0 vs D n).get t := by
  by_cases hw : wr ops i t = true
  · rw [if_pos hw, mD_skip (i := i + 1) (by omega), mD_get]
    · rw [if_pos ⟨by rw [hD]; simp, hw⟩]
    · intro j h1 h2 h3
      rw [hD, h j (by omega) h2 hw h3]
      simp; omega
  · rw [if_neg hw]
    refine mD_ext fun j _ hj => ?_
    rw [hD]
    have : j ≠ i := fun e => hw (e ▸ hj)
    simp [this]

/-- The run in the text's order. -/
def Run (P : Program) (cl : Caller) (ops : Array Oper) (ms : Nat → Tm) (hs : Nat → Heap) (vs : Nat → AV) : Prop :=
  ∀ i o, ops[i]? = some o → stepV P cl ops o (ms i) (hs i) = some (vs i, hs (i + 1)) ∧ (ms i).dst o.dst (vs i) = some (ms (i + 1))

theorem run_of_trace : ∀ {l : List Oper} {m m' : Tm} {H H' : Heap} {tr : List (Heap × Option Nat)}, traceA P cl ops l m H = some (m', H', tr) →
    ∃ (ms : Nat → Tm) (hs : Nat → Heap) (vs : Nat → AV), ms 0 = m ∧ hs 0 = H ∧ ms l.length = m' ∧ hs l.length = H' ∧ tr.length = l.length ∧
      ∀ i o, l[i]? = some o → (stepV P cl ops o (ms i) (hs i) = some (vs i, hs (i + 1)) ∧ (ms i).dst o.dst (vs i) = some (ms (i + 1))) ∧ tr[i]? = some (hs i, readOf o.op (ms i))
  | [], m, m', H, H', tr, h => by
    simp only [traceA, Option.some.injEq, Prod.mk.injEq] at h
    obtain ⟨rfl, rfl, rfl⟩ := h
    exact ⟨fun _ => m, fun _ => H, fun _ => .tup [], rfl, rfl, rfl, rfl, rfl, fun i o h => by simp at h⟩
  | o :: l, m, m', H, H', tr, h => by
    simp only [traceA] at h
    split at h
    · cases h
    · rename_i m1 H1 hs1
      split at h
      · cases h
      · rename_i m2 H2 tr1 ht
        simp only [Option.some.injEq, Prod.mk.injEq] at h
        obtain ⟨rfl, rfl, rfl⟩ := h
        obtain ⟨ms, hs, vs, e1, e2, e3, e4, e5, e6⟩ := run_of_trace ht
        rw [stepA_eq] at hs1
        cases hv : stepV P cl ops o m H with
        | none => rw [hv] at hs1; cases hs1
        | some r =>
          obtain ⟨v, Hv⟩ := r
          rw [hv] at hs1
          simp only [Option.bind_some] at hs1
          obtain ⟨mx, hmx, he⟩ := map_some hs1
          simp only [Prod.mk.injEq] at he
          obtain ⟨rfl, rfl⟩ := he
          refine ⟨fun k => match k with | 0 => m | k + 1 => ms k, fun k => match k with | 0 => H | k + 1 => hs k, fun k => match k with | 0 => v | k + 1 => vs k, rfl, rfl, e3, e4, by simp [e5], ?_⟩
          intro i o' hi
          cases i with
          | zero =>
            simp only [List.getElem?_cons_zero, Option.some.injEq] at hi
            subst hi
            simp only [e1, e2]
            exact ⟨⟨hv, hmx⟩, by simp⟩
          | succ i =>
            simp only [List.getElem?_cons_succ] at hi ⊢
            exact e6 i o' hi

theorem Run.get {ms : Nat → Tm} {hs : Nat → Heap} {vs : Nat → AV} (h : Run P cl ops ms hs vs) (t : Nat) : ∀ {k}, k ≤ ops.size → (ms k).n = (ms 0).n ∧ (ms k).get t = (mD ops (ms 0) vs (fun _ => true) k).get t
  | 0, _ => ⟨rfl, rfl⟩
  | k + 1, hk => by
    have ho : ops[k]? = some ops[k] := Array.getElem?_eq_getElem (by omega)
    obtain ⟨hn, hg⟩ := Tm.dst_get (h k _ ho).2
    obtain ⟨in_, ig⟩ := h.get t (k := k) (by omega)
    refine ⟨by rw [hn, in_], ?_⟩
    rw [mD_get, hg t, ig]
    simp [wr, ho]

theorem Run.flat {ms : Nat → Tm} {hs : Nat → Heap} {vs : Nat → AV} (h : Run P cl ops ms hs vs) {p : Nat} : ∀ {q}, p ≤ q → q ≤ ops.size → (∀ j o, p ≤ j → j < q → ops[j]? = some o → isEff P o.op = false) → hs p = hs q
  | 0, hp, _, _ => by rw [Nat.le_zero.mp hp]
  | q + 1, hp, hq, he => by
    by_cases e : p = q + 1
    · rw [e]
    · have ho : ops[q]? = some ops[q] := Array.getElem?_eq_getElem (by omega)
      rw [h.flat (p := p) (q := q) (by omega) (by omega) fun j o h1 h2 => he j o h1 (by omega)]
      exact (stepV_still (he q _ (by omega) (by omega) ho) (h q _ ho).1).1.symm
theorem Run.row {ms : Nat → Tm} {hs : Nat → Heap} {vs : Nat → AV} (h : Run P cl ops ms hs vs) {p g : Nat} : ∀ {q}, p ≤ q → q ≤ ops.size → (∀ j o, p ≤ j → j < q → ops[j]? = some o → isEff P o.op = true → (hs j).get g = (hs (j + 1)).get g) → (hs p).get g = (hs q).get g
  | 0, hp, _, _ => by rw [Nat.le_zero.mp hp]
  | q + 1, hp, hq, he => by
    by_cases e : p = q + 1
    · rw [e]
    · have ho : ops[q]? = some ops[q] := Array.getElem?_eq_getElem (by omega)
      rw [h.row (p := p) (q := q) (by omega) (by omega) fun j o h1 h2 => he j o h1 (by omega)]
      cases hE : isEff P ops[q].op with
      | true => exact he q _ (by omega) (by omega) ho hE
      | false => rw [(stepV_still hE (h q _ ho).1).1]

end some_order
end Go.Vx
