/- Regions of open order: two operations that may come in either order are tried in both. (A help: no statement of the seat is proved here.) -/
import Derived.Test.YtgmlklaehklmoaaVxC
set_option linter.unusedVariables false
set_option linter.unusedSimpArgs false
namespace Go.Vx

def relabel (π : Nat → Nat) (ex : Bool) (s : Nat) (o : Oper) : Oper :=
  { o with after := (o.after.map fun e => { e with on := π e.on }) ++ (if ex = true then #[⟨s, .data⟩] else #[]), guard := o.guard.map fun g => (π g.1, g.2) }
/-- The operations in another order, one of two ahead of the other. -/
def permOps (ops : Array Oper) (l : List Nat) (s t : Nat) : Array Oper := (l.map fun i => relabel (fun j => l.idxOf j) (Nat.beq i t) (l.idxOf s) (ops.getD i default)).toArray
def permOk (l : List Nat) (n : Nat) : Bool := Nat.beq l.length n && (List.range n).all fun i => decide (l[l.idxOf i]? = some i) && (match l[i]? with
  | some j => Nat.blt j n && Nat.beq (l.idxOf j) i
  | none => false)

structure Ref2 (ops ops' : Array Oper) (π : Nat → Nat) (s t : Nat) : Prop where
  size : ops'.size = ops.size
  lt : ∀ i, i < ops.size → π i < ops.size
  inj : ∀ i j, i < ops.size → j < ops.size → π i = π j → i = j
  sur : ∀ k, k < ops.size → ∃ i, i < ops.size ∧ π i = k
  out : ∀ j, ops.size ≤ j → ops.size ≤ π j
  at_ : ∀ i o, ops[i]? = some o → ops'[π i]? = some (relabel π (Nat.beq i t) (π s) o)

theorem perm_ref {ops : Array Oper} {l : List Nat} {s t : Nat} (h : permOk l ops.size = true) : Ref2 ops (permOps ops l s t) (fun j => l.idxOf j) s t := by
  simp only [permOk, Bool.and_eq_true, List.all_eq_true, List.mem_range, decide_eq_true_eq] at h
  obtain ⟨hl, h⟩ := h
  have hl := Nat.eq_of_beq_eq_true hl
  have hlt : ∀ i, i < ops.size → l.idxOf i < ops.size := fun i hi => by
    have := (List.getElem?_eq_some_iff.1 (h i hi).1).1
    omega
  refine ⟨by simp [permOps, hl], hlt, fun i j hi hj he => ?_, fun k hk => ?_, fun j hj => ?_, fun i o ho => ?_⟩
  · have h1 := (h i hi).1
    have h2 := (h j hj).1
    have he : l.idxOf i = l.idxOf j := he
    rw [he] at h1
    rw [h1] at h2
    exact (by simpa using h2)
  · have := (h k hk).2
    cases hk' : l[k]? with
    | none => rw [hk'] at this; cases this
    | some j =>
      rw [hk'] at this
      simp only [Bool.and_eq_true] at this
      exact ⟨j, Nat.blt_eq.mp this.1, Nat.eq_of_beq_eq_true this.2⟩
  · show ops.size ≤ l.idxOf j
    refine Nat.le_of_not_lt fun hlt' => ?_
    have hm : j ∈ l := List.idxOf_lt_length_iff.1 (by omega)
    obtain ⟨k, hk⟩ := List.mem_iff_getElem?.1 hm
    have hkl := (List.getElem?_eq_some_iff.1 hk).1
    have := (h k (by omega)).2
    rw [hk] at this
    simp only [Bool.and_eq_true] at this
    have := Nat.blt_eq.mp this.1
    omega
  · have hi := (Array.getElem?_eq_some_iff.1 ho).1
    have h1 := (h i hi).1
    show (permOps ops l s t)[l.idxOf i]? = _
    simp only [permOps, List.getElem?_toArray, List.getElem?_map, h1, Option.map_some]
    have : ops.getD i default = o := by rw [Array.getD_eq_getD_getElem?, ho]; rfl
    rw [this]

section cover
variable {P : Program} {ops v : Array Oper} {π : Nat → Nat} {s t : Nat} {Q : Exit → Act → World → Prop}
/-- What is listed here is listed there. -/
def Alike (n : Nat) (π : Nat → Nat) (L L' : Array Bool) : Prop := L.size = n ∧ L'.size = n ∧ ∀ i, i < n → Ds L' (π i) = Ds L i
theorem ready_of {ops : Array Oper} {L : Array Bool} (hsz : L.size = ops.size) {i : Nat} {o : Oper} (ho : ops[i]? = some o) (hd : Ds L i = false) (he : ∀ e ∈ o.after, Region.binds .any e = true → Ds L e.on = true) : i ∈ Region.ready .any ops L := by
  have hi := (Array.getElem?_eq_some_iff.1 ho).1
  simp only [Region.ready, List.mem_filter, List.mem_range, Bool.and_eq_true, Bool.not_eq_true']
  refine ⟨hi, ?_, ?_⟩
  · unfold Ds at hd
    simp only [Array.getD_eq_getD_getElem?, Array.getElem?_eq_getElem (show i < L.size by omega), Option.getD_some] at hd ⊢
    exact hd
  · simp only [ho, Option.map_some, Option.getD_some, Array.all_eq_true', Bool.or_eq_true, Bool.not_eq_true']
    intro e hem
    cases hb : Region.binds .any e with
    | false => exact .inl rfl
    | true => exact .inr (he e hem hb)
theorem Ds_out {L : Array Bool} {i : Nat} (h : L.size ≤ i) : Ds L i = false := by
  unfold Ds
  rw [Array.getD_eq_getD_getElem?, Array.getElem?_eq_none h]; rfl
theorem binds_on (e : Edge) (n : Nat) : Region.binds .any { e with on := n } = Region.binds .any e := rfl
theorem Ref2.ready (R : Ref2 ops v π s t) {L L' : Array Bool} (hL : Alike ops.size π L L') {i : Nat} (h : i ∈ Region.ready .any ops L) (hs : i = t → Ds L s = true) : π i ∈ Region.ready .any v L' := by
  obtain ⟨hi, hd, o, ho, he⟩ := ready_spec hL.1 h
  have hlt : ∀ j, Ds L j = true → Ds L' (π j) = true := fun j hj => by
    have : j < ops.size := Nat.lt_of_not_le fun hn => by rw [Ds_out (by rw [hL.1]; exact hn)] at hj; cases hj
    rw [hL.2.2 j this]; exact hj
  refine ready_of (by rw [hL.2.1, R.size]) (R.at_ i o ho) (by rw [hL.2.2 i hi]; exact hd) fun e' hem hb => ?_
  simp only [relabel, Array.mem_append, Array.mem_map] at hem
  rcases hem with ⟨e, hem, rfl⟩ | hem
  · exact hlt _ (he e hem hb)
  · split at hem
    · rename_i ht
      simp only [List.mem_toArray, List.mem_singleton] at hem
      subst hem
      exact hlt _ (hs (Nat.eq_of_beq_eq_true ht))
    · simp at hem
theorem Ref2.back (R : Ref2 ops v π s t) {L L' : Array Bool} (hL : Alike ops.size π L L') {k : Nat} (h : k ∈ Region.ready .any v L') : ∃ i, π i = k ∧ i ∈ Region.ready .any ops L := by
  obtain ⟨hk, hd, o', ho', he⟩ := ready_spec (by rw [hL.2.1, R.size]) h
  rw [R.size] at hk
  obtain ⟨i, hi, rfl⟩ := R.sur k hk
  have ho : ops[i]? = some ops[i] := Array.getElem?_eq_getElem hi
  have hat := R.at_ i _ ho
  rw [ho'] at hat
  cases hat
  refine ⟨i, rfl, ready_of hL.1 ho (by rw [← hL.2.2 i hi]; exact hd) fun e hem hb => ?_⟩
  have h1 := he { e with on := π e.on } (by
    simp only [relabel, Array.mem_append, Array.mem_map]
    exact .inl ⟨e, hem, rfl⟩) hb
  have hlt : e.on < ops.size := Nat.lt_of_not_le fun hn => by
    have := R.out _ hn
    rw [Ds_out (by rw [hL.2.1]; exact this)] at h1
    cases h1
  rw [hL.2.2 _ hlt] at h1
  exact h1
theorem Ref2.wpOp (R : Ref2 ops v π s t) {i : Nat} (hi : i < ops.size) (K : Act → World → Prop) (a : Act) (w : World) : wpOp P v Q (π i) K a w = Go.wpOp P ops Q i K a w := by
  have ho : ops[i]? = some ops[i] := Array.getElem?_eq_getElem hi
  have hat := R.at_ i _ ho
  unfold Go.wpOp
  rw [hat, ho]
  simp only
  have hy : ∀ j, yielded v a.tmps (π j) = yielded ops a.tmps j := fun j => by
    unfold yielded
    by_cases hj : j < ops.size
    · have hoj : ops[j]? = some ops[j] := Array.getElem?_eq_getElem hj
      rw [R.at_ j _ hoj, hoj]
      rfl
    · have h1 : v[π j]? = none := Array.getElem?_eq_none (by rw [R.size]; exact R.out _ (by omega))
      have h2 : ops[j]? = none := Array.getElem?_eq_none (by omega)
      rw [h1, h2]
  have hw : Region.wanted (relabel π (Nat.beq i t) (π s) ops[i]) (yielded v a.tmps) = Region.wanted ops[i] (yielded ops a.tmps) := by
    unfold Region.wanted relabel
    simp only
    cases hg : ops[i].guard with
    | none => rfl
    | some g => obtain ⟨j, b⟩ := g; simp only [Option.map_some, hy]
  rw [hw]
  rfl

/-- An order that may come. -/
def Sched (ops : Array Oper) : Array Bool → List Nat → Prop
  | L, [] => Region.ready .any ops L = []
  | L, i :: σ => i ∈ Region.ready .any ops L ∧ Sched ops (L.setIfInBounds i true) σ
theorem sched_ops : ∀ (σ : List Nat) (fuel : Nat) (L : Array Bool) (a : Act) (w : World), wpAny P .any ops Q fuel L a w → Sched ops L σ → wpOps P ops Q σ a w := by
  intro σ
  induction σ with
  | nil =>
    intro fuel L a w h hs
    cases fuel with
    | zero => exact h.2
    | succ n => exact h.1 hs
  | cons i σ ih =>
    intro fuel L a w h hs
    cases fuel with
    | zero =>
      have h1 := h.1
      have h2 := hs.1
      rw [h1] at h2; cases h2
    | succ n =>
      rw [wpOps_cons]
      exact wpOp_mono (fun a' w' h' => ih n _ a' w' h' hs.2) (h.2 i hs.1)
theorem sched_lin : ∀ (fuel t : Nat) (L : Array Bool), (L.toList.countP fun x => !x) ≤ fuel → L.size = ops.size → Sched ops L (Region.linearise.go .any ops fuel t L []) := by
  intro fuel
  induction fuel with
  | zero =>
    intro t L hc hsz
    simp only [Region.linearise.go, List.reverse_nil, Sched]
    apply List.eq_nil_iff_forall_not_mem.2
    intro i hi
    obtain ⟨h1, h2, _⟩ := ready_spec hsz hi
    have hL : L.toList[i]? = some false := by
      unfold Ds at h2
      rw [Array.getD_eq_getD_getElem?, Array.getElem?_eq_getElem (by omega)] at h2
      simp only [Option.getD_some] at h2
      rw [Array.getElem?_toList, Array.getElem?_eq_getElem (by omega), h2]
    have := count_set _ _ hL
    omega
  | succ n ih =>
    intro t L hc hsz
    simp only [Region.linearise.go]
    change Sched ops L (match (Region.ready .any ops L)[t % (Region.ready .any ops L).length]? with
      | some i => Region.linearise.go .any ops n (t / (Region.ready .any ops L).length) (L.setIfInBounds i true) [i]
      | none => ([] : List Nat).reverse)
    cases hr : (Region.ready .any ops L)[t % (Region.ready .any ops L).length]? with
    | none =>
      simp only [List.reverse_nil, Sched]
      cases hl : Region.ready .any ops L with
      | nil => rfl
      | cons x l =>
        rw [hl] at hr
        have : t % (x :: l).length < (x :: l).length := Nat.mod_lt _ (by simp)
        rw [List.getElem?_eq_getElem this] at hr
        cases hr
    | some i =>
      simp only
      rw [linearise_go_acc]
      have hi := List.mem_of_getElem? hr
      obtain ⟨h1, h2, _⟩ := ready_spec hsz hi
      have hL : L.toList[i]? = some false := by
        unfold Ds at h2
        rw [Array.getD_eq_getD_getElem?, Array.getElem?_eq_getElem (by omega)] at h2
        simp only [Option.getD_some] at h2
        rw [Array.getElem?_toList, Array.getElem?_eq_getElem (by omega), h2]
      have hcnt := count_set _ _ hL
      refine ⟨hi, ih _ _ ?_ (by simp [hsz])⟩
      rw [Array.toList_setIfInBounds]
      omega
theorem Alike.set {n : Nat} {L L' : Array Bool} (hL : Alike n π L L') (hlt : ∀ i, i < n → π i < n) (hinj : ∀ i j, i < n → j < n → π i = π j → i = j) {i : Nat} (hi : i < n) : Alike n π (L.setIfInBounds i true) (L'.setIfInBounds (π i) true) := by
  refine ⟨by simp [hL.1], by simp [hL.2.1], fun j hj => ?_⟩
  rw [Ds_set (listed := L) (by rw [hL.1]; exact hi), Ds_set (listed := L') (by rw [hL.2.1]; exact hlt i hi), hL.2.2 j hj]
  by_cases hji : j = i
  · subst hji; simp
  · have : ¬ π j = π i := fun h => hji (hinj j i hj hi h)
    simp only [beq_false_of_ne hji, beq_false_of_ne this]
/-- An order in which the one comes ahead of the other. -/
theorem Ref2.sched (R : Ref2 ops v π s t) : ∀ (σ : List Nat) (L L' : Array Bool), Alike ops.size π L L' → Sched ops L σ → (∀ p q, σ = p ++ t :: q → Ds L s = true ∨ s ∈ p) → Sched v L' (σ.map π) ∧ ∀ i ∈ σ, i < ops.size := by
  intro σ
  induction σ with
  | nil =>
    intro L L' hL hs _
    refine ⟨?_, fun i hi => by cases hi⟩
    simp only [List.map_nil, Sched]
    apply List.eq_nil_iff_forall_not_mem.2
    intro k hk
    obtain ⟨i, _, hi⟩ := R.back hL hk
    have hs : Region.ready .any ops L = [] := hs
    rw [hs] at hi
    cases hi
  | cons i σ ih =>
    intro L L' hL hs hc
    obtain ⟨hi, _, _⟩ := ready_spec hL.1 hs.1
    obtain ⟨h1, h2⟩ := ih _ _ (hL.set R.lt R.inj hi) hs.2 fun p q e => by
      rcases hc (i :: p) q (by rw [e]; rfl) with h | h
      · left
        rw [Ds_set (by rw [hL.1]; exact hi), h]; rfl
      · simp only [List.mem_cons] at h
        rcases h with h | h
        · left
          subst h
          rw [Ds_set (by rw [hL.1]; exact hi)]; simp
        · exact .inr h
    refine ⟨⟨R.ready hL hs.1 fun e => ?_, h1⟩, fun j hj => ?_⟩
    · rcases hc [] σ (by rw [e]; rfl) with h | h
      · exact h
      · cases h
    · simp only [List.mem_cons] at hj
      rcases hj with rfl | hj
      · exact hi
      · exact h2 j hj
theorem Ref2.wpOps (R : Ref2 ops v π s t) : ∀ (σ : List Nat), (∀ i ∈ σ, i < ops.size) → ∀ a w, wpOps P v Q (σ.map π) a w → Go.wpOps P ops Q σ a w := by
  intro σ
  induction σ with
  | nil => intro _ a w h; exact h
  | cons i σ ih =>
    intro hs a w h
    rw [List.map_cons, wpOps_cons] at h
    rw [wpOps_cons]
    rw [R.wpOp (hs i (by simp))] at h
    exact wpOp_mono (fun a' w' h' => ih (fun j hj => hs j (by simp [hj])) a' w' h') h
/-- Each order that may come runs well. -/
def Runs (P : Program) (ops : Array Oper) (Q : Exit → Act → World → Prop) (a : Act) (w : World) : Prop := ∀ σ, Sched ops (Array.replicate ops.size false) σ → wpOps P ops Q σ a w
theorem Runs.of_any {a : Act} {w : World} (h : wpAny P .any ops Q ops.size (Array.replicate ops.size false) a w) : Runs P ops Q a w := fun σ hs => sched_ops σ _ _ a w h hs
theorem Ds_none (n k : Nat) : Ds (Array.replicate n false) k = false := by
  unfold Ds
  simp [Array.getD_eq_getD_getElem?, Array.getElem?_replicate]
  split <;> rfl
theorem Runs.split {v2 : Array Oper} {π2 : Nat → Nat} {a : Act} {w : World} (hne : s ≠ t) (R1 : Ref2 ops v π s t) (R2 : Ref2 ops v2 π2 t s) (h1 : Runs P v Q a w) (h2 : Runs P v2 Q a w) : Runs P ops Q a w := by
  intro σ hs
  have hA : ∀ (π : Nat → Nat) (v : Array Oper), v.size = ops.size → Alike ops.size π (Array.replicate ops.size false) (Array.replicate v.size false) := fun π v hv => ⟨by simp, by simp [hv], fun i hi => by rw [Ds_none, Ds_none]⟩
  by_cases hc : ∀ p q, σ = p ++ t :: q → Ds (Array.replicate ops.size false) s = true ∨ s ∈ p
  · obtain ⟨q1, q2⟩ := R1.sched σ _ _ (hA π v R1.size) hs hc
    exact R1.wpOps σ q2 a w (h1 _ q1)
  · have hc2 : ∀ p q, σ = p ++ s :: q → Ds (Array.replicate ops.size false) t = true ∨ t ∈ p := by
      simp only [Classical.not_forall, not_or] at hc
      obtain ⟨p, q, e, _, hsp⟩ := hc
      intro p' q' e'
      right
      have hcut : p ++ t :: q = p' ++ s :: q' := by rw [← e, e']
      rcases Nat.lt_trichotomy p.length p'.length with hlt | heq | hgt
      · have h1 : (p ++ t :: q)[p.length]? = some t := by simp
        rw [hcut, List.getElem?_append_left hlt] at h1
        exact List.mem_of_getElem? h1
      · have h1 : (p ++ t :: q)[p.length]? = some t := by simp
        rw [hcut, heq] at h1
        simp at h1
        exact absurd h1 hne
      · have h1 : (p' ++ s :: q')[p'.length]? = some s := by simp
        rw [← hcut, List.getElem?_append_left hgt] at h1
        exact absurd (List.mem_of_getElem? h1) hsp
    obtain ⟨q1, q2⟩ := R2.sched σ _ _ (hA π2 v2 R2.size) hs hc2
    exact R2.wpOps σ q2 a w (h2 _ q1)
theorem wp_region_runs {id : Nat} {a : Act} {w : World} (hm : P.follows .mixedOrders = true) (h : Runs P ops Q a { w with drawn := w.drawn + 1 }) : (Code.region id ops true).wp P Q a w :=
  wp_region_draw fun t => by
    simp only [Region.schedule, hm, Bool.true_or, if_true]
    refine h _ (sched_lin ops.size t _ ?_ (by simp))
    refine Nat.le_trans List.countP_le_length ?_
    simp
end cover

/-! The orders that are tried. -/
def effs (P : Program) (ops : Array Oper) : List Nat := (List.range ops.size).filter fun i => match ops[i]? with
  | some o => isEff P o.op
  | none => false
def firstLoose (b : Array Nat) : List Nat → Option (Nat × Nat)
  | [] => none
  | i :: l => match l.find? (fun j => !(b.getD j 0).testBit i) with
    | some j => some (i, j)
    | none => firstLoose b l
/-- j and what it waits for, ahead of i. -/
def moved (n : Nat) (b : Array Nat) (i j : Nat) : List Nat :=
  let up := fun k => Nat.beq k j || (b.getD j 0).testBit k
  (List.range i) ++ ((List.range n).filter fun k => Nat.ble i k && up k) ++ ((List.range n).filter fun k => Nat.ble i k && !up k)
def turnsOf (P : Program) : Nat → Array Oper → List (Array Oper)
  | 0, ops => [ops]
  | n + 1, ops => match effs P ops with
    | [] => [ops]
    | [_] => [ops]
    | l => match firstLoose (Region.before ops) l with
      | none => [ops]
      | some (i, j) => match permOk (List.range ops.size) ops.size && (permOk (moved ops.size (Region.before ops) i j) ops.size && !Nat.beq i j) with
        | true => turnsOf P n (permOps ops (List.range ops.size) i j) ++ turnsOf P n (permOps ops (moved ops.size (Region.before ops) i j) j i)
        | false => [ops]
/-- Where no two are loose there is one order to try. -/
theorem firstLoose_none {b : Array Nat} : ∀ {l : List Nat}, l.Pairwise (fun i j => (b.getD j 0).testBit i = true) → firstLoose b l = none
  | [], _ => rfl
  | i :: l, h => by
    rw [List.pairwise_cons] at h
    rw [firstLoose]
    have : l.find? (fun j => !(b.getD j 0).testBit i) = none := List.find?_eq_none.2 fun j hj => by rw [h.1 j hj]; simp
    rw [this]
    exact firstLoose_none h.2
theorem turns_one {P : Program} {ops : Array Oper} {n : Nat} (h : looseOk P ops (Region.before ops) = true) : turnsOf P n ops = [ops] := by
  cases n with
  | zero => rfl
  | succ n =>
    rw [turnsOf]
    have hp : (effs P ops).Pairwise (fun i j => ((Region.before ops).getD j 0).testBit i = true) := by
      have h1 : (effs P ops).Pairwise (fun i j => i < j) := List.Pairwise.filter _ List.pairwise_lt_range
      have h2 : ∀ i ∈ effs P ops, ∃ o, ops[i]? = some o ∧ isEff P o.op = true := fun i hi => by
        simp only [effs, List.mem_filter] at hi
        obtain ⟨_, hi⟩ := hi
        split at hi
        · rename_i o ho; exact ⟨o, ho, hi⟩
        · cases hi
      refine (List.Pairwise.and_mem.1 h1).imp fun {i j} hij => ?_
      obtain ⟨hi, hj, hlt⟩ := hij
      obtain ⟨x, hx, ex⟩ := h2 i hi
      obtain ⟨y, hy, ey⟩ := h2 j hj
      cases hb : ((Region.before ops).getD j 0).testBit i with
      | true => rfl
      | false => exact absurd ⟨ex, ey⟩ (loose_spec h hlt hx hy (by rw [hb]; simp)).2.2
    split
    · rfl
    · rfl
    · rw [firstLoose_none hp]
theorem turns_runs {P : Program} {Q : Exit → Act → World → Prop} {a : Act} {w : World} : ∀ (n : Nat) (ops : Array Oper), (∀ v ∈ turnsOf P n ops, Runs P v Q a w) → Runs P ops Q a w := by
  intro n
  induction n with
  | zero => intro ops h; exact h ops (by simp [turnsOf])
  | succ n ih =>
    intro ops h
    rw [turnsOf] at h
    split at h
    · exact h ops (by simp)
    · exact h ops (by simp)
    · split at h
      · exact h ops (by simp)
      · rename_i i j _
        split at h
        · rename_i hc
          simp only [Bool.and_eq_true, Bool.not_eq_true'] at hc
          have hne : i ≠ j := fun e => by
            subst e
            rw [nbeq_yes rfl] at hc
            exact absurd hc.2.2 (by simp)
          exact Runs.split hne (perm_ref hc.1) (perm_ref hc.2.1) (ih _ fun v hv => h v (List.mem_append_left _ hv)) (ih _ fun v hv => h v (List.mem_append_right _ hv))
        · exact h ops (by simp)
end Go.Vx
