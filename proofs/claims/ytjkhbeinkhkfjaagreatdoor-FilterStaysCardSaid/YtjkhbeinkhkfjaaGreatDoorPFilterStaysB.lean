/- Printed by a program of ours out of our texts: the evaluator, the printed functions, the plain laws. (A help: no statement of the seat is proved here.) -/
import Derived.Test.YtjkhbeinkhkfjaaGreatDoorPFilterStaysA
import Derived.ProofKit
set_option linter.unusedVariables false
set_option linter.unusedSimpArgs false
section
namespace Go.Vx
mutual
theorem AV.beq_eq : ∀ {a b : AV}, AV.beq a b = true -> a = b
 | .bool _ _, b, h => by cases b <;> simp [AV.beq] at h; rw [h.1, h.2]
 | .int _ _ _, b, h => by cases b <;> simp [AV.beq] at h; rw [h.1, h.2.1, h.2.2]
 | .str _ _, b, h => by cases b <;> simp [AV.beq] at h; rw [h.1, h.2]
 | .ptr _ _, b, h => by cases b <;> simp [AV.beq] at h; rw [h.1, h.2]
 | .slice _ _ _ _, b, h => by cases b <;> simp [AV.beq] at h; rw [h.1, h.2.1.1, h.2.1.2, h.2.2]
 | .vec _ _, b, h => by cases b <;> simp [AV.beq] at h
 | .eptr _ _ _ _, b, h => by cases b <;> simp [AV.beq] at h
 | .map _, b, h => by cases b <;> simp [AV.beq] at h; rw [h]
 | .func f x y, b, h => by
  cases b <;> simp [AV.beq] at h
  rw [h.1.1, AV.beqL_eq h.1.2, AV.beqL_eq h.2]
 | .nilFunc, b, h => by cases b <;> simp [AV.beq] at h; rfl
 | .nilIface, b, h => by cases b <;> simp [AV.beq] at h; rfl
 | .agg x, b, h => by cases b <;> simp [AV.beq] at h; rw [AV.beqL_eq h]
 | .tup x, b, h => by cases b <;> simp [AV.beq] at h; rw [AV.beqL_eq h]
theorem AV.beqL_eq : ∀ {a b : List AV}, AV.beqL a b = true -> a = b
 | [], [], _ => rfl
 | [], _ :: _, h => by simp [AV.beqL] at h
 | _ :: _, [], h => by simp [AV.beqL] at h
 | x :: xs, y :: ys, h => by
  simp only [AV.beqL, Bool.and_eq_true] at h
  rw [AV.beq_eq h.1, AV.beqL_eq h.2]
end
section spec
variable {P : Program} {ops : Array Oper} {b : Array Nat}
theorem z7l (h : z29 ops b = true) {i j : Nat} (hj : j < ops.size) (hb : (b.getD j 0).testBit i = true) :
  i < j ∧ ∃ o e, ops[j]? = some o ∧ e ∈ o.after ∧ Region.binds .any e = true ∧ e.on < j ∧ (e.on = i ∨ (b.getD e.on 0).testBit i = true) := by
 simp only [z29, List.all_eq_true, List.mem_range, Bool.and_eq_true] at h
 obtain ⟨h1, h2⟩ := h j hj
 have hlt : b.getD j 0 < 2 ^ j := Nat.blt_eq.mp h1
 have hij : i < j := by
  apply Classical.byContradiction
  intro hn
  have : b.getD j 0 < 2 ^ i := Nat.lt_of_lt_of_le hlt (Nat.pow_le_pow_right (by omega) (by omega))
  rw [Nat.testBit_lt_two_pow this] at hb
  cases hb
 refine ⟨hij, ?_⟩
 have h3 := h2 i hij
 rw [hb] at h3
 have ho : ops[j]? = some ops[j] := Array.getElem?_eq_getElem hj
 simp only [ho, Bool.not_true, Bool.false_or, Array.any_eq_true', Bool.and_eq_true, Bool.or_eq_true, beq_iff_eq] at h3
 obtain ⟨e, he, ⟨hb1, hb2⟩, hb3⟩ := h3
 exact ⟨_, e, ho, he, hb1, Nat.blt_eq.mp hb2, hb3⟩
theorem z7m (h : z2a ops = true) {j : Nat} {o : Oper} (hj : ops[j]? = some o) {e : Edge} (he : e ∈ o.after) (hb : Region.binds .any e = true) : e.on < j := by
 have hlt : j < ops.size := (Array.getElem?_eq_some_iff.mp hj).1
 simp only [z2a, List.all_eq_true, List.mem_range] at h
 have h1 := h j hlt
 simp only [hj, Array.all_eq_true', Bool.or_eq_true, Bool.not_eq_true'] at h1
 rcases h1 e he with h2 | h2
 ·rw [hb] at h2; cases h2
 ·exact Nat.blt_eq.mp h2
theorem z7n (h : z2b P ops b = true) {i j : Nat} {x y : Oper} (hij : i < j) (hi : ops[i]? = some x) (hj : ops[j]? = some y) (hb : ¬ (b.getD j 0).testBit i = true) :
  x.apart ops y = true ∧ y.apart ops x = true ∧ ¬ (z27 P x.op = true ∧ z27 P y.op = true) := by
 have hlt : j < ops.size := (Array.getElem?_eq_some_iff.mp hj).1
 simp only [z2b, List.all_eq_true, List.mem_range, Bool.or_eq_true] at h
 rcases h j hlt i hij with h1 | h1
 ·exact absurd h1 hb
 ·simp only [hi, hj, Bool.and_eq_true, Bool.not_eq_true', Bool.and_eq_false_iff] at h1
  refine ⟨h1.1.1, h1.1.2, fun hc => ?_⟩
  rcases h1.2 with h2 | h2
  ·rw [hc.1] at h2; cases h2
  ·rw [hc.2] at h2; cases h2
theorem z7o {tr : List (Heap × Option Nat)} {hs : Nat -> Heap} {rd : Nat -> Option Nat} {n : Nat} (hn : n = ops.size) (htr : ∀ i, i < n -> tr[i]? = some (hs i, rd i)) (hl : tr.length = n)
  (h : z2e P ops b tr (hs n)) {i j g : Nat} {x y : Oper} (hx : ops[i]? = some x) (hj : ops[j]? = some y) (he : z27 P y.op = true) (h1 : ¬ (b.getD j 0).testBit i = true) (h2 : ¬ (b.getD i 0).testBit j = true) (hr : rd i = some g) :
  (hs j).get g = (hs (j + 1)).get g := by
 have hlt : j < ops.size := (Array.getElem?_eq_some_iff.mp hj).1
 have hi : i < ops.size := (Array.getElem?_eq_some_iff.mp hx).1
 simp only [Bool.not_eq_true] at h1 h2
 have h5 := h i j g x y (hs i) (hs j) hx hj he h1 h2 (by rw [htr i (by omega), hr]) (by rw [htr j (by omega)]; rfl)
 rw [h5]
 by_cases e : j + 1 < n
 ·rw [htr (j + 1) e]
 ·rw [List.getElem?_eq_none (by omega)]
  have : j + 1 = n := by omega
  rw [this]
end spec
section open_order
variable {P : Program} {cl : z20} {ops : Array Oper} {b : Array Nat} {ms : Nat -> Tm} {hs : Nat -> Heap} {vs : Nat -> AV} {β0 : At} {w0 : World} {a0 : Act}
def Ds (listed : Array Bool) (k:Nat) : Bool := listed.getD k false
structure Inv (P : Program) (ops : Array Oper) (b : Array Nat) (m0 : Tm) (hs : Nat -> Heap) (vs : Nat -> AV) (β0 : At) (w0 : World) (a0 : Act) (listed : Array Bool) (a : Act) (w : World) : Prop where
 size : listed.size = ops.size
 closed : ∀ j i, j < ops.size -> Ds listed j = true -> (b.getD j 0).testBit i = true -> Ds listed i = true
 ex : ∃ β p, p <= ops.size ∧ (∀ j o, ops[j]? = some o -> z27 P o.op = true -> (Ds listed j = true ↔ j < p)) ∧ Rel β (hs p) w ∧ Le β0 (hs 0) w0 β (hs p) w ∧
  TRel (hs p).n β (mD ops m0 vs (Ds listed) ops.size) a.tmps
 defers : a.defers = a0.defers
theorem z7p {listed : Array Bool} {i : Nat} (hi : i < listed.size) (j:Nat) : Ds (listed.setIfInBounds i true) j = (Ds listed j || j == i) := by
 unfold Ds
 simp only [Array.getD_eq_getD_getElem?]
 by_cases e : i = j
 ·subst e
  simp [Array.getElem?_setIfInBounds, hi]
 ·rw [Array.getElem?_setIfInBounds_ne e]
  have : (j == i) = false := by simp; omega
  simp [this]
theorem z7q {listed : Array Bool} (hsz : listed.size = ops.size) {i : Nat} (h : i ∈ Region.ready .any ops listed) :
  i < ops.size ∧ Ds listed i = false ∧ ∃ o, ops[i]? = some o ∧ ∀ e ∈ o.after, Region.binds .any e = true -> Ds listed e.on = true := by
 simp only [Region.ready, List.mem_filter, List.mem_range, Bool.and_eq_true, Bool.not_eq_true'] at h
 obtain ⟨h1, h2, h3⟩ := h
 refine ⟨h1, ?_, ?_⟩
 ·unfold Ds
  simp only [Array.getD_eq_getD_getElem?, Array.getElem?_eq_getElem (show i < listed.size by omega), Option.getD_some] at h2 ⊢
  exact h2
 ·have ho : ops[i]? = some ops[i] := Array.getElem?_eq_getElem h1
  refine ⟨_, ho, fun e he hb => ?_⟩
  simp only [ho, Option.map_some, Option.getD_some, Array.all_eq_true', Bool.or_eq_true, Bool.not_eq_true'] at h3
  rcases h3 e he with h4 | h4
  ·rw [hb] at h4; cases h4
  ·exact h4
theorem z7r (hback : z2a ops = true) {listed : Array Bool} (hsz : listed.size = ops.size) (h : Region.ready .any ops listed = []) : ∀ i, i < ops.size -> Ds listed i = true := by
 intro i
 induction i using Nat.strongRecOn with
 | ind i ih =>
  intro hi
  cases hd : Ds listed i with
  | true => rfl
  | false =>
   have ho : ops[i]? = some ops[i] := Array.getElem?_eq_getElem hi
   have : i ∈ Region.ready .any ops listed := by
    simp only [Region.ready, List.mem_filter, List.mem_range, Bool.and_eq_true, Bool.not_eq_true', ho, Option.map_some, Option.getD_some, Array.all_eq_true', Bool.or_eq_true]
    refine ⟨hi, ?_, fun e he => ?_⟩
    ·unfold Ds at hd
     simp only [Array.getD_eq_getD_getElem?, Array.getElem?_eq_getElem (show i < listed.size by omega), Option.getD_some] at hd ⊢
     exact hd
    ·cases hb : Region.binds .any e with
     | false => exact .inl rfl
     | true =>
      have := z7m hback ho he hb
      exact .inr (ih e.on this (by omega))
   rw [h] at this
   cases this
theorem Inv.done (hrun : Run P cl ops ms hs vs) {listed : Array Bool} {a : Act} {w : World} (I : Inv P ops b (ms 0) hs vs β0 w0 a0 listed a w) (hall : ∀ i, i < ops.size -> Ds listed i = true) :
  ∃ β, Rel β (hs ops.size) w ∧ Le β0 (hs 0) w0 β (hs ops.size) w ∧ TRel (hs ops.size).n β (ms ops.size) a.tmps ∧ a.defers = a0.defers := by
 obtain ⟨β, p, hp, heff, hR, hLe, hT⟩ := I.ex
 have hh : hs p = hs ops.size := by
  refine hrun.flat hp (Nat.le_refl _) fun j o h1 h2 ho => ?_
  cases he : z27 P o.op with
  | false => rfl
  | true => have := (heff j o ho he).mp (hall j h2); omega
 rw [hh] at hR hLe hT
 refine ⟨β, hR, hLe, ?_, I.defers⟩
 refine Tm.ext_get ?_ (fun t => ?_) hT
 ·rw [mD_n, (hrun.get 0 (k := ops.size) (Nat.le_refl _)).1]
 ·rw [(hrun.get t (k := ops.size) (Nat.le_refl _)).2]
  exact z7h fun j hj _ => hall j hj
theorem z7s (hloose : z2b P ops b = true) {i j : Nat} {x y : Oper} (hi : ops[i]? = some x) (hj : ops[j]? = some y) (hne : i ≠ j) {t : Nat} (hy : y.dst = some t) (hx : x.dst = some t ∨ t ∈ x.looksAt ops) :
  (i < j -> (b.getD j 0).testBit i = true) ∧ (j < i -> (b.getD i 0).testBit j = true) := by
 constructor
 ·intro hij
  apply Classical.byContradiction
  intro hb
  obtain ⟨h1, h2, _⟩ := z7n hloose hij hi hj hb
  rcases hx with hx | hx
  ·exact (Oper.apart_spec h1).2.1 t hx hy
  ·exact (Oper.apart_spec h1).2.2 t hy hx
 ·intro hji
  apply Classical.byContradiction
  intro hb
  obtain ⟨h1, h2, _⟩ := z7n hloose hji hj hi hb
  rcases hx with hx | hx
  ·exact (Oper.apart_spec h1).2.1 t hy hx
  ·exact (Oper.apart_spec h1).1 t hy hx
theorem z7t {k t : Nat} (h : wr ops k t = true) : ∃ o, ops[k]? = some o ∧ o.dst = some t := by
 unfold wr at h
 split at h
 ·rename_i o ho; exact ⟨o, ho, by simpa using h⟩
 ·cases h
theorem z7u : ∀ (l : List Bool) (i:Nat), l[i]? = some false -> (l.set i true).countP (fun x => !x) + 1 = l.countP (fun x => !x)
 | [], i, h => by simp at h
 | x :: l, 0, h => by simp at h; subst h; simp
 | x :: l, i + 1, h => by
  simp only [List.getElem?_cons_succ] at h
  have := z7u l i h
  cases x <;> simp [List.countP_cons] <;> omega
theorem z7v (hcl : z6t P cl) (hrun : Run P cl ops ms hs vs) (hbits : z29 ops b = true) (hback : z2a ops = true) (hloose : z2b P ops b = true)
  (hreads : ∀ i j g x y, ops[i]? = some x -> ops[j]? = some y -> z27 P y.op = true -> ¬ (b.getD j 0).testBit i = true -> ¬ (b.getD i 0).testBit j = true -> z28 x.op (ms i) = some g -> (hs j).get g = (hs (j + 1)).get g)
  {Q : Exit -> Act -> World -> Prop}
  (hQ : ∀ β a w, Rel β (hs ops.size) w -> Le β0 (hs 0) w0 β (hs ops.size) w -> TRel (hs ops.size).n β (ms ops.size) a.tmps -> a.defers = a0.defers -> Q .normal a w) :
  ∀ (fuel:Nat) (listed : Array Bool) (a : Act) (w : World), Inv P ops b (ms 0) hs vs β0 w0 a0 listed a w -> (listed.toList.countP fun x => !x) <= fuel -> wpAny P .any ops Q fuel listed a w
 | 0, listed, a, w, I, hf => by
  have hall : ∀ i, i < ops.size -> Ds listed i = true := by
   intro i hi
   have h0 : listed.toList.countP (fun x => !x) = 0 := by omega
   rw [List.countP_eq_zero] at h0
   have hlt : i < listed.size := by rw [I.size]; exact hi
   have := h0 listed[i] (by simp)
   unfold Ds
   simp only [Array.getD_eq_getD_getElem?, Array.getElem?_eq_getElem hlt, Option.getD_some]
   simpa using this
  obtain ⟨β, h1, h2, h3, h4⟩ := I.done hrun hall
  refine ⟨?_, hQ β a w h1 h2 h3 h4⟩
  apply List.eq_nil_iff_forall_not_mem.mpr
  intro i hi
  have := z7q I.size hi
  rw [hall i this.1] at this
  cases this.2.1
 | fuel + 1, listed, a, w, I, hf => by
  refine ⟨fun hr => ?_, fun i hi => ?_⟩
  ·obtain ⟨β, h1, h2, h3, h4⟩ := I.done hrun (z7r hback I.size hr)
   exact hQ β a w h1 h2 h3 h4
  ·obtain ⟨hlt, hun, o, ho, hedges⟩ := z7q I.size hi
   obtain ⟨β, p, hp, heff, hR, hLe, hT⟩ := I.ex
   obtain ⟨hstep, hdst⟩ := hrun i o ho
   -- what must come first has come
   have hpre : ∀ k, (b.getD i 0).testBit k = true -> Ds listed k = true := by
    intro k hk
    obtain ⟨hki, o', e, ho', he, hb1, hb2, hb3⟩ := z7l hbits hlt hk
    rw [ho] at ho'
    cases ho'
    have hl := hedges e he hb1
    rcases hb3 with rfl | hb3
    ·exact hl
    ·exact I.closed e.on k (by omega) hl hb3
   -- what must come behind has not
   have hpost : ∀ k, k < ops.size -> (b.getD k 0).testBit i = true -> Ds listed k = false := by
    intro k hk hb
    cases hd : Ds listed k with
    | false => rfl
    | true => have := I.closed k i hk hd hb; rw [hun] at this; cases this
   -- the variables that it looks at
   have hag : z7d ops o (mD ops (ms 0) vs (Ds listed) ops.size) (ms i) := by
    intro t ht
    have key : ∀ k, k < ops.size -> wr ops k t = true -> Ds listed k = decide (k < i) := by
     intro k hk hw
     obtain ⟨y, hy, hyd⟩ := z7t hw
     by_cases e : k = i
     ·subst e; rw [hun]; simp
     ·obtain ⟨q1, q2⟩ := z7s hloose ho hy (fun e' => e e'.symm) hyd (.inr ht)
      by_cases hki : k < i
      ·rw [hpre k (q2 hki)]; simp [hki]
      ·rw [hpost k hk (q1 (by omega))]; simp [hki]
    rw [(hrun.get t (k := i) (by omega)).2, z7h (D := Ds listed) (D' := fun j => decide (j < i)) key,
     z7i (i := i) (n := ops.size) (D := fun j => decide (j < i)) (by omega) (by intro j h1 _ _; simp; omega)]
    exact z7h fun j hj _ => by simp [hj]
   -- the memory that it z6s
   have hmem : ∃ p', z7b P cl ops o (ms i) (hs p) = some (vs i, hs p') ∧ p' <= ops.size ∧
     ∀ j o, ops[j]? = some o -> z27 P o.op = true -> (Ds (listed.setIfInBounds i true) j = true ↔ j < p') := by
    have hsz : i < listed.size := by rw [I.size]; exact hlt
    cases hE : z27 P o.op with
    | true =>
     have hip : p <= i := by
      apply Classical.byContradiction
      intro hn
      have := (heff i o ho hE).mpr (by omega)
      rw [hun] at this; cases this
     have hno : ∀ j y, p <= j -> j < i -> ops[j]? = some y -> z27 P y.op = false := by
      intro j y h1 h2 hj
      cases he : z27 P y.op with
      | false => rfl
      | true =>
       exfalso
       by_cases hb : (b.getD i 0).testBit j = true
       ·have := (heff j y hj he).mp (hpre j hb); omega
       ·exact (z7n hloose h2 hj ho hb).2.2 ⟨he, hE⟩
     have hh : hs p = hs i := hrun.flat hip (by omega) hno
     refine ⟨i + 1, by rw [hh]; exact hstep, hlt, fun j y hj he => ?_⟩
     rw [z7p hsz]
     simp only [Bool.or_eq_true, beq_iff_eq]
     constructor
     ·rintro (h | h)
      ·have := (heff j y hj he).mp h; omega
      ·omega
     ·intro h
      by_cases e : j = i
      ·exact .inr e
      ·left
       apply (heff j y hj he).mpr
       apply Classical.byContradiction
       intro hn
       have := hno j y (by omega) (by omega) hj
       rw [he] at this; cases this
    | false =>
     obtain ⟨h1, h2⟩ := z7f hE hstep
     refine ⟨p, h2 (hs p) fun r hr => ?_, hp, fun j y hj he => ?_⟩
     ·by_cases hpi : p <= i
      ·refine hrun.row hpi (by omega) fun j y q1 q2 hj he => ?_
       have hjn : ¬ Ds listed j = true := fun h => by have := (heff j y hj he).mp h; omega
       refine hreads i j r o y ho hj he (fun hb => ?_) (fun hb => hjn (hpre j hb)) hr
       have := (z7l hbits (by omega) hb).1; omega
      ·refine (hrun.row (p := i) (q := p) (by omega) hp fun j y q1 q2 hj he => ?_).symm
       have hjl := (heff j y hj he).mpr q2
       refine hreads i j r o y ho hj he (fun hb => ?_) (fun hb => ?_) hr
       ·rw [hpost j (by omega) hb] at hjl; cases hjl
       ·have := (z7l hbits hlt hb).1; omega
     ·rw [z7p hsz]
      have hne : j ≠ i := by
       intro e
       subst e
       rw [ho] at hj
       cases hj
       rw [hE] at he; cases he
      simp only [Bool.or_eq_true, beq_iff_eq, hne, or_false]
      exact heff j y hj he
   obtain ⟨p', hst, hp', heff'⟩ := hmem
   have hsz : i < listed.size := by rw [I.size]; exact hlt
   obtain ⟨m2, hm2⟩ := Tm.dst_some (m1 := mD ops (ms 0) vs (Ds listed) ops.size) (u := vs i) hdst (by rw [mD_n, (hrun.get 0 (k := i) (by omega)).1])
   have hsA : z22 P cl ops o (mD ops (ms 0) vs (Ds listed) ops.size) (hs p) = some (m2, hs p') := by
    rw [z7c, z7e hag, hst]
    simp only [Option.bind_some, hm2, Option.map_some]
   unfold wpOp
   rw [ho]
   refine z6w hcl hsA hR hT fun β' a' w' hR' hLe' hT' hd' => ?_
   refine z7v hcl hrun hbits hback hloose hreads hQ fuel _ a' w' ?_ ?_
   ·refine ⟨by simp [I.size], fun j k hj hd hb => ?_, ⟨β', p', hp', heff', hR', hLe.trans hLe', ?_⟩, hd'.trans I.defers⟩
    ·rw [z7p hsz] at hd ⊢
     simp only [Bool.or_eq_true, beq_iff_eq] at hd ⊢
     rcases hd with hd | rfl
     ·exact .inl (I.closed j k hj hd hb)
     ·exact .inl (hpre k hb)
    ·refine Tm.ext_get ?_ (fun t => ?_) hT'
     ·rw [(Tm.dst_get hm2).1, mD_n, mD_n]
     ·rw [(Tm.dst_get hm2).2 t, z7j hlt (z7p hsz)]
      ·simp [wr, ho]
      ·intro j h1 h2 w1 w2
       obtain ⟨x, hx, hxd⟩ := z7t w1
       obtain ⟨y, hy, hyd⟩ := z7t w2
       exact hpost j h2 ((z7s hloose hx hy (by omega) hyd (.inl hxd)).1 h1)
   ·have hf2 := z7u listed.toList i (by
     have : Ds listed i = false := hun
     unfold Ds at this
     simp only [Array.getD_eq_getD_getElem?, Array.getElem?_eq_getElem hsz, Option.getD_some] at this
     rw [Array.getElem?_toList, Array.getElem?_eq_getElem hsz, this])
    rw [Array.toList_setIfInBounds]
    omega
end open_order
theorem z7w {P : Program} {cl : z20} (hcl : z6t P cl) {ops : Array Oper} {m m' : Tm} {H H' : Heap} (h : drawA P cl ops m H = some (m', H'))
  {a : Act} {β : At} {w : World} (hR : Rel β H w) (hT : TRel H.n β m a.tmps) {Q : Exit -> Act -> World -> Prop}
  (hQ : ∀ β' a' w', Rel β' H' w' -> Le β H w β' H' w' -> TRel H'.n β' m' a'.tmps -> a'.defers = a.defers -> Q .normal a' w') : wpAny P .any ops Q ops.size (Array.replicate ops.size false) a { w with drawn := w.drawn + 1 } := by
 unfold drawA at h
 split at h
 ·rename_i hd
  simp only [z2c, Bool.and_eq_true] at hd
  obtain ⟨⟨hback, hbits⟩, hloose⟩ := hd
  split at h
  ·cases h
  ·rename_i m1 H1 tr htr
   split at h
   ·rename_i hreads
    cases h
    obtain ⟨ms, hs, vs, e1, e2, e3, e4, e5, e6⟩ := z7k htr
    have hlen : ops.toList.length = ops.size := by simp
    rw [hlen] at e3 e4 e5
    have hrun : Run P cl ops ms hs vs := fun i o ho => (e6 i o (by simpa using ho)).1
    subst e1 e2 e3 e4
    refine z7v (b := Region.before ops) (β0 := β) (w0 := w) (a0 := a) hcl hrun hbits hback hloose ?_ hQ ops.size _ a _ ?_ ?_
    ·intro i j g x y hi hj he h1 h2 hr
     have hlt : i < ops.size := (Array.getElem?_eq_some_iff.mp hi).1
     refine z7o (rd := fun i => match ops[i]? with | some o => z28 o.op (ms i) | none => none) rfl ?_ e5 hreads hi hj he h1 h2 (by simp only [hi]; exact hr)
     intro k hk
     have hk' : ops[k]? = some ops[k] := Array.getElem?_eq_getElem hk
     rw [(e6 k ops[k] (by simp [hk])).2]
     simp only [hk']
    ·have hDs : ∀ k, Ds (Array.replicate ops.size false) k = false := by
      intro k
      unfold Ds
      simp [Array.getD_eq_getD_getElem?, Array.getElem?_replicate]
      split <;> rfl
     refine ⟨by simp, fun j i _ hd => ?_, ⟨β, 0, Nat.zero_le _, fun j o _ _ => ?_, hR.drew, Le.drew _ _ _, ?_⟩, rfl⟩
     ·rw [hDs] at hd; cases hd
     ·rw [hDs]; simp
     ·refine Tm.ext_get ?_ (fun t => ?_) hT
      ·rw [mD_n]
      ·rw [z7i (i := 0) (Nat.zero_le _) (fun j _ _ _ => hDs j)]; rfl
    ·refine Nat.le_trans List.countP_le_length ?_
     simp
   ·cases h
 ·cases h
theorem z7x {P : Program} {cl : z20} (hcl : z6t P cl) (hm : P.follows .mixedOrders = true) {id : Nat} {ops : Array Oper} {m m' : Tm} {H H' : Heap} (h : drawA P cl ops m H = some (m', H'))
  {a : Act} {β : At} {w : World} (hR : Rel β H w) (hT : TRel H.n β m a.tmps) {Q : Exit -> Act -> World -> Prop}
  (hQ : ∀ β' a' w', Rel β' H' w' -> Le β H w β' H' w' -> TRel H'.n β' m' a'.tmps -> a'.defers = a.defers -> Q .normal a' w') : (Code.region id ops true).wp P Q a w :=
 wp_region_any hm (z7w hcl h hR hT hQ)
end Go.Vx
end
section
namespace Go.Vx
def z7y (π : Nat -> Nat) (ex:Bool) (s:Nat) (o : Oper) : Oper :=
 {o with after := (o.after.map fun e => { e with on := π e.on }) ++ (if ex = true then #[⟨s, .data⟩] else #[]), guard := o.guard.map fun g => (π g.1, g.2) }
def z7z (ops : Array Oper) (l : List Nat) (s t:Nat) : Array Oper := (l.map fun i => z7y (fun j => l.idxOf j) (Nat.beq i t) (l.idxOf s) (ops.getD i default)).toArray
def z80 (l : List Nat) (n:Nat) : Bool := Nat.beq l.length n && (List.range n).all fun i => decide (l[l.idxOf i]? = some i) && (match l[i]? with
 | some j => Nat.blt j n && Nat.beq (l.idxOf j) i
 | none => false)
structure Ref2 (ops ops' : Array Oper) (π : Nat -> Nat) (s t:Nat) : Prop where
 size : ops'.size = ops.size
 lt : ∀ i, i < ops.size -> π i < ops.size
 inj : ∀ i j, i < ops.size -> j < ops.size -> π i = π j -> i = j
 sur : ∀ k, k < ops.size -> ∃ i, i < ops.size ∧ π i = k
 out : ∀ j, ops.size <= j -> ops.size <= π j
 at_ : ∀ i o, ops[i]? = some o -> ops'[π i]? = some (z7y π (Nat.beq i t) (π s) o)
theorem z81 {ops : Array Oper} {l : List Nat} {s t : Nat} (h : z80 l ops.size = true) : Ref2 ops (z7z ops l s t) (fun j => l.idxOf j) s t := by
 simp only [z80, Bool.and_eq_true, List.all_eq_true, List.mem_range, decide_eq_true_eq] at h
 obtain ⟨hl, h⟩ := h
 have hl := Nat.eq_of_beq_eq_true hl
 have hlt : ∀ i, i < ops.size -> l.idxOf i < ops.size := fun i hi => by
  have := (List.getElem?_eq_some_iff.1 (h i hi).1).1
  omega
 refine ⟨by simp [z7z, hl], hlt, fun i j hi hj he => ?_, fun k hk => ?_, fun j hj => ?_, fun i o ho => ?_⟩
 ·have h1 := (h i hi).1
  have h2 := (h j hj).1
  have he : l.idxOf i = l.idxOf j := he
  rw [he] at h1
  rw [h1] at h2
  exact (by simpa using h2)
 ·have := (h k hk).2
  cases hk' : l[k]? with
  | none => rw [hk'] at this; cases this
  | some j =>
   rw [hk'] at this
   simp only [Bool.and_eq_true] at this
   exact ⟨j, Nat.blt_eq.mp this.1, Nat.eq_of_beq_eq_true this.2⟩
 ·show ops.size <= l.idxOf j
  refine Nat.le_of_not_lt fun hlt' => ?_
  have hm : j ∈ l := List.idxOf_lt_length_iff.1 (by omega)
  obtain ⟨k, hk⟩ := List.mem_iff_getElem?.1 hm
  have hkl := (List.getElem?_eq_some_iff.1 hk).1
  have := (h k (by omega)).2
  rw [hk] at this
  simp only [Bool.and_eq_true] at this
  have := Nat.blt_eq.mp this.1
  omega
 ·have hi := (Array.getElem?_eq_some_iff.1 ho).1
  have h1 := (h i hi).1
  show (z7z ops l s t)[l.idxOf i]? = _
  simp only [z7z, List.getElem?_toArray, List.getElem?_map, h1, Option.map_some]
  have : ops.getD i default = o := by rw [Array.getD_eq_getD_getElem?, ho]; rfl
  rw [this]
section cover
variable {P : Program} {ops v : Array Oper} {π : Nat -> Nat} {s t : Nat} {Q : Exit -> Act -> World -> Prop}
def z82 (n:Nat) (π : Nat -> Nat) (L L' : Array Bool) : Prop := L.size = n ∧ L'.size = n ∧ ∀ i, i < n -> Ds L' (π i) = Ds L i
theorem z83 {ops : Array Oper} {L : Array Bool} (hsz : L.size = ops.size) {i : Nat} {o : Oper} (ho : ops[i]? = some o) (hd : Ds L i = false) (he : ∀ e ∈ o.after, Region.binds .any e = true -> Ds L e.on = true) : i ∈ Region.ready .any ops L := by
 have hi := (Array.getElem?_eq_some_iff.1 ho).1
 simp only [Region.ready, List.mem_filter, List.mem_range, Bool.and_eq_true, Bool.not_eq_true']
 refine ⟨hi, ?_, ?_⟩
 ·unfold Ds at hd
  simp only [Array.getD_eq_getD_getElem?, Array.getElem?_eq_getElem (show i < L.size by omega), Option.getD_some] at hd ⊢
  exact hd
 ·simp only [ho, Option.map_some, Option.getD_some, Array.all_eq_true', Bool.or_eq_true, Bool.not_eq_true']
  intro e hem
  cases hb : Region.binds .any e with
  | false => exact .inl rfl
  | true => exact .inr (he e hem hb)
theorem z84 {L : Array Bool} {i : Nat} (h : L.size <= i) : Ds L i = false := by
 unfold Ds
 rw [Array.getD_eq_getD_getElem?, Array.getElem?_eq_none h]; rfl
theorem Ref2.ready (R : Ref2 ops v π s t) {L L' : Array Bool} (hL : z82 ops.size π L L') {i : Nat} (h : i ∈ Region.ready .any ops L) (hs : i = t -> Ds L s = true) : π i ∈ Region.ready .any v L' := by
 obtain ⟨hi, hd, o, ho, he⟩ := z7q hL.1 h
 have hlt : ∀ j, Ds L j = true -> Ds L' (π j) = true := fun j hj => by
  have : j < ops.size := Nat.lt_of_not_le fun hn => by rw [z84 (by rw [hL.1]; exact hn)] at hj; cases hj
  rw [hL.2.2 j this]; exact hj
 refine z83 (by rw [hL.2.1, R.size]) (R.at_ i o ho) (by rw [hL.2.2 i hi]; exact hd) fun e' hem hb => ?_
 simp only [z7y, Array.mem_append, Array.mem_map] at hem
 rcases hem with ⟨e, hem, rfl⟩ | hem
 ·exact hlt _ (he e hem hb)
 ·split at hem
  ·rename_i ht
   simp only [List.mem_toArray, List.mem_singleton] at hem
   subst hem
   exact hlt _ (hs (Nat.eq_of_beq_eq_true ht))
  ·simp at hem
theorem Ref2.back (R : Ref2 ops v π s t) {L L' : Array Bool} (hL : z82 ops.size π L L') {k : Nat} (h : k ∈ Region.ready .any v L') : ∃ i, π i = k ∧ i ∈ Region.ready .any ops L := by
 obtain ⟨hk, hd, o', ho', he⟩ := z7q (by rw [hL.2.1, R.size]) h
 rw [R.size] at hk
 obtain ⟨i, hi, rfl⟩ := R.sur k hk
 have ho : ops[i]? = some ops[i] := Array.getElem?_eq_getElem hi
 have hat := R.at_ i _ ho
 rw [ho'] at hat
 cases hat
 refine ⟨i, rfl, z83 hL.1 ho (by rw [← hL.2.2 i hi]; exact hd) fun e hem hb => ?_⟩
 have h1 := he { e with on := π e.on } (by
  simp only [z7y, Array.mem_append, Array.mem_map]
  exact .inl ⟨e, hem, rfl⟩) hb
 have hlt : e.on < ops.size := Nat.lt_of_not_le fun hn => by
  have := R.out _ hn
  rw [z84 (by rw [hL.2.1]; exact this)] at h1
  cases h1
 rw [hL.2.2 _ hlt] at h1
 exact h1
theorem Ref2.wpOp (R : Ref2 ops v π s t) {i : Nat} (hi : i < ops.size) (K : Act -> World -> Prop) (a : Act) (w : World) : wpOp P v Q (π i) K a w = Go.wpOp P ops Q i K a w := by
 have ho : ops[i]? = some ops[i] := Array.getElem?_eq_getElem hi
 have hat := R.at_ i _ ho
 unfold Go.wpOp
 rw [hat, ho]
 simp only
 have hy : ∀ j, yielded v a.tmps (π j) = yielded ops a.tmps j := fun j => by
  unfold yielded
  by_cases hj : j < ops.size
  ·have hoj : ops[j]? = some ops[j] := Array.getElem?_eq_getElem hj
   rw [R.at_ j _ hoj, hoj]
   rfl
  ·have h1 : v[π j]? = none := Array.getElem?_eq_none (by rw [R.size]; exact R.out _ (by omega))
   have h2 : ops[j]? = none := Array.getElem?_eq_none (by omega)
   rw [h1, h2]
 have hw : Region.wanted (z7y π (Nat.beq i t) (π s) ops[i]) (yielded v a.tmps) = Region.wanted ops[i] (yielded ops a.tmps) := by
  unfold Region.wanted z7y
  simp only
  cases hg : ops[i].guard with
  | none => rfl
  | some g => obtain ⟨j, b⟩ := g; simp only [Option.map_some, hy]
 rw [hw]
 rfl
def z85 (ops : Array Oper) : Array Bool -> List Nat -> Prop
 | L, [] => Region.ready .any ops L = []
 | L, i :: σ => i ∈ Region.ready .any ops L ∧ z85 ops (L.setIfInBounds i true) σ
theorem z86 : ∀ (σ : List Nat) (fuel:Nat) (L : Array Bool) (a : Act) (w : World), wpAny P .any ops Q fuel L a w -> z85 ops L σ -> wpOps P ops Q σ a w := by
 intro σ
 induction σ with
 | nil =>
  intro fuel L a w h hs
  cases fuel with
  | zero => exact h.2
  | succ n => exact h.1 hs
 | cons i σ ih =>
  intro fuel L a w h hs
  cases fuel with
  | zero =>
   have h1 := h.1
   have h2 := hs.1
   rw [h1] at h2; cases h2
  | succ n =>
   rw [wpOps_cons]
   exact wpOp_mono (fun a' w' h' => ih n _ a' w' h' hs.2) (h.2 i hs.1)
theorem z87 : ∀ (fuel t:Nat) (L : Array Bool), (L.toList.countP fun x => !x) <= fuel -> L.size = ops.size -> z85 ops L (Region.linearise.go .any ops fuel t L []) := by
 intro fuel
 induction fuel with
 | zero =>
  intro t L hc hsz
  simp only [Region.linearise.go, List.reverse_nil, z85]
  apply List.eq_nil_iff_forall_not_mem.2
  intro i hi
  obtain ⟨h1, h2, _⟩ := z7q hsz hi
  have hL : L.toList[i]? = some false := by
   unfold Ds at h2
   rw [Array.getD_eq_getD_getElem?, Array.getElem?_eq_getElem (by omega)] at h2
   simp only [Option.getD_some] at h2
   rw [Array.getElem?_toList, Array.getElem?_eq_getElem (by omega), h2]
  have := z7u _ _ hL
  omega
 | succ n ih =>
  intro t L hc hsz
  simp only [Region.linearise.go]
  change z85 ops L (match (Region.ready .any ops L)[t % (Region.ready .any ops L).length]? with
   | some i => Region.linearise.go .any ops n (t / (Region.ready .any ops L).length) (L.setIfInBounds i true) [i]
   | none => ([] : List Nat).reverse)
  cases hr : (Region.ready .any ops L)[t % (Region.ready .any ops L).length]? with
  | none =>
   simp only [List.reverse_nil, z85]
   cases hl : Region.ready .any ops L with
   | nil => rfl
   | cons x l =>
    rw [hl] at hr
    have : t % (x :: l).length < (x :: l).length := Nat.mod_lt _ (by simp)
    rw [List.getElem?_eq_getElem this] at hr
    cases hr
  | some i =>
   simp only
   rw [linearise_go_acc]
   have hi := List.mem_of_getElem? hr
   obtain ⟨h1, h2, _⟩ := z7q hsz hi
   have hL : L.toList[i]? = some false := by
    unfold Ds at h2
    rw [Array.getD_eq_getD_getElem?, Array.getElem?_eq_getElem (by omega)] at h2
    simp only [Option.getD_some] at h2
    rw [Array.getElem?_toList, Array.getElem?_eq_getElem (by omega), h2]
   have hcnt := z7u _ _ hL
   refine ⟨hi, ih _ _ ?_ (by simp [hsz])⟩
   rw [Array.toList_setIfInBounds]
   omega
theorem z82.set {n : Nat} {L L' : Array Bool} (hL : z82 n π L L') (hlt : ∀ i, i < n -> π i < n) (hinj : ∀ i j, i < n -> j < n -> π i = π j -> i = j) {i : Nat} (hi : i < n) : z82 n π (L.setIfInBounds i true) (L'.setIfInBounds (π i) true) := by
 refine ⟨by simp [hL.1], by simp [hL.2.1], fun j hj => ?_⟩
 rw [z7p (listed := L) (by rw [hL.1]; exact hi), z7p (listed := L') (by rw [hL.2.1]; exact hlt i hi), hL.2.2 j hj]
 by_cases hji : j = i
 ·subst hji; simp
 ·have : ¬ π j = π i := fun h => hji (hinj j i hj hi h)
  simp only [beq_false_of_ne hji, beq_false_of_ne this]
theorem Ref2.sched (R : Ref2 ops v π s t) : ∀ (σ : List Nat) (L L' : Array Bool), z82 ops.size π L L' -> z85 ops L σ -> (∀ p q, σ = p ++ t :: q -> Ds L s = true ∨ s ∈ p) -> z85 v L' (σ.map π) ∧ ∀ i ∈ σ, i < ops.size := by
 intro σ
 induction σ with
 | nil =>
  intro L L' hL hs _
  refine ⟨?_, fun i hi => by cases hi⟩
  simp only [List.map_nil, z85]
  apply List.eq_nil_iff_forall_not_mem.2
  intro k hk
  obtain ⟨i, _, hi⟩ := R.back hL hk
  have hs : Region.ready .any ops L = [] := hs
  rw [hs] at hi
  cases hi
 | cons i σ ih =>
  intro L L' hL hs hc
  obtain ⟨hi, _, _⟩ := z7q hL.1 hs.1
  obtain ⟨h1, h2⟩ := ih _ _ (hL.set R.lt R.inj hi) hs.2 fun p q e => by
   rcases hc (i :: p) q (by rw [e]; rfl) with h | h
   ·left
    rw [z7p (by rw [hL.1]; exact hi), h]; rfl
   ·simp only [List.mem_cons] at h
    rcases h with h | h
    ·left
     subst h
     rw [z7p (by rw [hL.1]; exact hi)]; simp
    ·exact .inr h
  refine ⟨⟨R.ready hL hs.1 fun e => ?_, h1⟩, fun j hj => ?_⟩
  ·rcases hc [] σ (by rw [e]; rfl) with h | h
   ·exact h
   ·cases h
  ·simp only [List.mem_cons] at hj
   rcases hj with rfl | hj
   ·exact hi
   ·exact h2 j hj
theorem Ref2.wpOps (R : Ref2 ops v π s t) : ∀ (σ : List Nat), (∀ i ∈ σ, i < ops.size) -> ∀ a w, wpOps P v Q (σ.map π) a w -> Go.wpOps P ops Q σ a w := by
 intro σ
 induction σ with
 | nil => intro _ a w h; exact h
 | cons i σ ih =>
  intro hs a w h
  rw [List.map_cons, wpOps_cons] at h
  rw [wpOps_cons]
  rw [R.wpOp (hs i (by simp))] at h
  exact wpOp_mono (fun a' w' h' => ih (fun j hj => hs j (by simp [hj])) a' w' h') h
def Runs (P : Program) (ops : Array Oper) (Q : Exit -> Act -> World -> Prop) (a : Act) (w : World) : Prop := ∀ σ, z85 ops (Array.replicate ops.size false) σ -> wpOps P ops Q σ a w
theorem Runs.of_any {a : Act} {w : World} (h : wpAny P .any ops Q ops.size (Array.replicate ops.size false) a w) : Runs P ops Q a w := fun σ hs => z86 σ _ _ a w h hs
theorem z88 (n k:Nat) : Ds (Array.replicate n false) k = false := by
 unfold Ds
 simp [Array.getD_eq_getD_getElem?, Array.getElem?_replicate]
 split <;> rfl
theorem Runs.split {v2 : Array Oper} {π2 : Nat -> Nat} {a : Act} {w : World} (hne : s ≠ t) (R1 : Ref2 ops v π s t) (R2 : Ref2 ops v2 π2 t s) (h1 : Runs P v Q a w) (h2 : Runs P v2 Q a w) : Runs P ops Q a w := by
 intro σ hs
 have hA : ∀ (π : Nat -> Nat) (v : Array Oper), v.size = ops.size -> z82 ops.size π (Array.replicate ops.size false) (Array.replicate v.size false) := fun π v hv => ⟨by simp, by simp [hv], fun i hi => by rw [z88, z88]⟩
 by_cases hc : ∀ p q, σ = p ++ t :: q -> Ds (Array.replicate ops.size false) s = true ∨ s ∈ p
 ·obtain ⟨q1, q2⟩ := R1.sched σ _ _ (hA π v R1.size) hs hc
  exact R1.wpOps σ q2 a w (h1 _ q1)
 ·have hc2 : ∀ p q, σ = p ++ s :: q -> Ds (Array.replicate ops.size false) t = true ∨ t ∈ p := by
   simp only [Classical.not_forall, not_or] at hc
   obtain ⟨p, q, e, _, hsp⟩ := hc
   intro p' q' e'
   right
   have hcut : p ++ t :: q = p' ++ s :: q' := by rw [← e, e']
   rcases Nat.lt_trichotomy p.length p'.length with hlt | heq | hgt
   ·have h1 : (p ++ t :: q)[p.length]? = some t := by simp
    rw [hcut, List.getElem?_append_left hlt] at h1
    exact List.mem_of_getElem? h1
   ·have h1 : (p ++ t :: q)[p.length]? = some t := by simp
    rw [hcut, heq] at h1
    simp at h1
    exact absurd h1 hne
   ·have h1 : (p' ++ s :: q')[p'.length]? = some s := by simp
    rw [← hcut, List.getElem?_append_left hgt] at h1
    exact absurd (List.mem_of_getElem? h1) hsp
  obtain ⟨q1, q2⟩ := R2.sched σ _ _ (hA π2 v2 R2.size) hs hc2
  exact R2.wpOps σ q2 a w (h2 _ q1)
theorem z89 {id : Nat} {a : Act} {w : World} (hm : P.follows .mixedOrders = true) (h : Runs P ops Q a { w with drawn := w.drawn + 1 }) : (Code.region id ops true).wp P Q a w :=
 wp_region_draw fun t => by
  simp only [Region.schedule, hm, Bool.true_or, if_true]
  refine h _ (z87 ops.size t _ ?_ (by simp))
  refine Nat.le_trans List.countP_le_length ?_
  simp
end cover
def effs (P : Program) (ops : Array Oper) : List Nat := (List.range ops.size).filter fun i => match ops[i]? with
 | some o => z27 P o.op
 | none => false
def z8a (b : Array Nat) : List Nat -> Option (Nat × Nat)
 | [] => none
 | i :: l => match l.find? (fun j => !(b.getD j 0).testBit i) with
  | some j => some (i, j)
  | none => z8a b l
def z8b (n:Nat) (b : Array Nat) (i j:Nat) : List Nat :=
 let up := fun k => Nat.beq k j || (b.getD j 0).testBit k
 (List.range i) ++ ((List.range n).filter fun k => Nat.ble i k && up k) ++ ((List.range n).filter fun k => Nat.ble i k && !up k)
def z8c (P : Program) : Nat -> Array Oper -> List (Array Oper)
 | 0, ops => [ops]
 | n + 1, ops => match effs P ops with
  | [] => [ops]
  | [_] => [ops]
  | l => match z8a (Region.before ops) l with
   | none => [ops]
   | some (i, j) => match z80 (List.range ops.size) ops.size && (z80 (z8b ops.size (Region.before ops) i j) ops.size && !Nat.beq i j) with
    | true => z8c P n (z7z ops (List.range ops.size) i j) ++ z8c P n (z7z ops (z8b ops.size (Region.before ops) i j) j i)
    | false => [ops]
theorem z8d {b : Array Nat} : ∀ {l : List Nat}, l.Pairwise (fun i j => (b.getD j 0).testBit i = true) -> z8a b l = none
 | [], _ => rfl
 | i :: l, h => by
  rw [List.pairwise_cons] at h
  rw [z8a]
  have : l.find? (fun j => !(b.getD j 0).testBit i) = none := List.find?_eq_none.2 fun j hj => by rw [h.1 j hj]; simp
  rw [this]
  exact z8d h.2
theorem z8e {P : Program} {ops : Array Oper} {n : Nat} (h : z2b P ops (Region.before ops) = true) : z8c P n ops = [ops] := by
 cases n with
 | zero => rfl
 | succ n =>
  rw [z8c]
  have hp : (effs P ops).Pairwise (fun i j => ((Region.before ops).getD j 0).testBit i = true) := by
   have h1 : (effs P ops).Pairwise (fun i j => i < j) := List.Pairwise.filter _ List.pairwise_lt_range
   have h2 : ∀ i ∈ effs P ops, ∃ o, ops[i]? = some o ∧ z27 P o.op = true := fun i hi => by
    simp only [effs, List.mem_filter] at hi
    obtain ⟨_, hi⟩ := hi
    split at hi
    ·rename_i o ho; exact ⟨o, ho, hi⟩
    ·cases hi
   refine (List.Pairwise.and_mem.1 h1).imp fun {i j} hij => ?_
   obtain ⟨hi, hj, hlt⟩ := hij
   obtain ⟨x, hx, ex⟩ := h2 i hi
   obtain ⟨y, hy, ey⟩ := h2 j hj
   cases hb : ((Region.before ops).getD j 0).testBit i with
   | true => rfl
   | false => exact absurd ⟨ex, ey⟩ (z7n h hlt hx hy (by rw [hb]; simp)).2.2
  split
  ·rfl
  ·rfl
  ·rw [z8d hp]
theorem z8f {P : Program} {Q : Exit -> Act -> World -> Prop} {a : Act} {w : World} : ∀ (n:Nat) (ops : Array Oper), (∀ v ∈ z8c P n ops, Runs P v Q a w) -> Runs P ops Q a w := by
 intro n
 induction n with
 | zero => intro ops h; exact h ops (by simp [z8c])
 | succ n ih =>
  intro ops h
  rw [z8c] at h
  split at h
  ·exact h ops (by simp)
  ·exact h ops (by simp)
  ·split at h
   ·exact h ops (by simp)
   ·rename_i i j _
    split at h
    ·rename_i hc
     simp only [Bool.and_eq_true, Bool.not_eq_true'] at hc
     have hne : i ≠ j := fun e => by
      subst e
      rw [z00 rfl] at hc
      exact absurd hc.2.2 (by simp)
     exact Runs.split hne (z81 hc.1) (z81 hc.2.1) (ih _ fun v hv => h v (List.mem_append_left _ hv)) (ih _ fun v hv => h v (List.mem_append_right _ hv))
    ·exact h ops (by simp)
end Go.Vx
end
section
namespace Go.Vx
def Out.ex : Out -> Exit
 | .norm => .normal
 | .exit id => .exit id
 | .ret => .ret
section exec
variable {P : Program} {cl : z20}
def z8g (P : Program) (β : At) (H : Heap) (w : World) (a : Act) (e : Exit) (m' : Tm) (H' : Heap) (Q : Exit -> Act -> World -> Prop) : Prop :=
 ∀ β' a' w', Rel β' H' w' -> Le β H w β' H' w' -> TRel H'.n β' m' a'.tmps -> a'.defers = a.defers -> Q e a' w'
theorem z8h (hm : P.follows .mixedOrders = true) (hcl : z6t P cl) : ∀ (n:Nat),
  (∀ (c : Code) {m : Tm} {H : Heap} {o : Out} {m' : Tm} {H' : Heap}, execA P cl n c m H = some (o, m', H') -> ∀ {a : Act} {β : At} {w : World}, Rel β H w -> TRel H.n β m a.tmps ->
   ∀ {Q : Exit -> Act -> World -> Prop}, z8g P β H w a o.ex m' H' Q -> c.wp P Q a w) ∧
  (∀ (b : Code) {m : Tm} {H : Heap} {o : Out} {m' : Tm} {H' : Heap}, execA P cl n (.loop b) m H = some (o, m', H') -> ∃ k, ∀ {a : Act} {β : At} {w : World}, Rel β H w -> TRel H.n β m a.tmps ->
   ∀ {Q : Exit -> Act -> World -> Prop}, z8g P β H w a o.ex m' H' Q -> Code.rounds P b Q k a w)
 | 0 => by
  constructor
  ·intro c m H o m' H' h; simp only [execA] at h; cases h
  ·intro c m H o m' H' h; simp only [execA] at h; cases h
 | n + 1 => by
  obtain ⟨ih, ihl⟩ := z8h hm hcl n
  have hloop : ∀ (b : Code) {m : Tm} {H : Heap} {o : Out} {m' : Tm} {H' : Heap}, execA P cl (n + 1) (.loop b) m H = some (o, m', H') -> ∃ k, ∀ {a : Act} {β : At} {w : World}, Rel β H w -> TRel H.n β m a.tmps ->
    ∀ {Q : Exit -> Act -> World -> Prop}, z8g P β H w a o.ex m' H' Q -> Code.rounds P b Q k a w := by
   intro b m H o m' H' h
   simp only [execA] at h
   split at h
   ·rename_i m1 H1 h1
    obtain ⟨k, hk⟩ := ihl b h
    refine ⟨k + 1, fun {a β w} hR hT {Q} hQ => ?_⟩
    rw [rounds_succ]
    refine ih b h1 hR hT fun β' a' w' hR' hLe' hT' hd' => ?_
    exact hk hR' hT' fun β2 a2 w2 hR2 hLe2 hT2 hd2 => hQ β2 a2 w2 hR2 (hLe'.trans hLe2) hT2 (hd2.trans hd')
   ·rename_i hne
    refine ⟨1, fun {a β w} hR hT {Q} hQ => ?_⟩
    rw [rounds_succ]
    refine ih b h hR hT fun β' a' w' hR' hLe' hT' hd' => ?_
    have hq := hQ β' a' w' hR' hLe' hT' hd'
    cases o with
    | norm => exact absurd h (hne m' H')
    | exit id => exact hq
    | ret => exact hq
  refine ⟨fun c => ?_, hloop⟩
  intro m H o m' H' h a β w hR hT Q hQ
  cases c with
  | skip =>
   simp only [execA, Option.some.injEq, Prod.mk.injEq] at h
   obtain ⟨rfl, rfl, rfl⟩ := h
   exact wp_skip (hQ β a w hR (Le.refl _ _ _) hT rfl)
  | label l =>
   simp only [execA, Option.some.injEq, Prod.mk.injEq] at h
   obtain ⟨rfl, rfl, rfl⟩ := h
   exact wp_label (hQ β a w hR (Le.refl _ _ _) hT rfl)
  | exit id =>
   simp only [execA, Option.some.injEq, Prod.mk.injEq] at h
   obtain ⟨rfl, rfl, rfl⟩ := h
   exact wp_exit (hQ β a w hR (Le.refl _ _ _) hT rfl)
  | ret =>
   simp only [execA, Option.some.injEq, Prod.mk.injEq] at h
   obtain ⟨rfl, rfl, rfl⟩ := h
   exact wp_ret (hQ β a w hR (Le.refl _ _ _) hT rfl)
  | region id ops draw =>
   simp only [execA] at h
   obtain ⟨⟨m1, H1⟩, h1, he⟩ := map_some h
   simp only [Prod.mk.injEq] at he
   obtain ⟨rfl, rfl, rfl⟩ := he
   cases draw with
   | true =>
    rw [if_pos rfl] at h1
    exact z7x hcl hm h1 hR hT hQ
   | false =>
    rw [if_neg (by simp)] at h1
    exact wp_region_list (z74 hcl h1 hR hT hQ)
  | seq x y =>
   simp only [execA] at h
   split at h
   ·rename_i m1 H1 h1
    refine wp_seq (ih x h1 hR hT fun β' a' w' hR' hLe' hT' hd' => ?_)
    exact ih y h hR' hT' fun β2 a2 w2 hR2 hLe2 hT2 hd2 => hQ β2 a2 w2 hR2 (hLe'.trans hLe2) hT2 (hd2.trans hd')
   ·rename_i hne
    refine wp_seq (ih x h hR hT fun β' a' w' hR' hLe' hT' hd' => ?_)
    have hq := hQ β' a' w' hR' hLe' hT' hd'
    cases o with
    | norm => exact absurd h (hne m' H')
    | exit id => exact hq
    | ret => exact hq
  | cond x t f =>
   simp only [execA] at h
   split at h
   ·rename_i hx
    have hv := z2s hT hx
    exact wp_cond_true (z30 hv) (ih t h hR (hT.coolX hx) hQ)
   ·rename_i hx
    have hv := z2s hT hx
    exact wp_cond_false (z30 hv) (ih f h hR (hT.coolX hx) hQ)
   ·cases h
  | block id b =>
   simp only [execA] at h
   split at h
   ·rename_i id' m1 H1 h1
    split at h
    ·rename_i hid
     cases h
     refine wp_block (ih b h1 hR hT fun β' a' w' hR' hLe' hT' hd' => ?_)
     show (if id' = id then Q .normal a' w' else Q (.exit id') a' w')
     rw [if_pos hid]
     exact hQ β' a' w' hR' hLe' hT' hd'
    ·rename_i hid
     cases h
     refine wp_block (ih b h1 hR hT fun β' a' w' hR' hLe' hT' hd' => ?_)
     show (if id' = id then Q .normal a' w' else Q (.exit id') a' w')
     rw [if_neg hid]
     exact hQ β' a' w' hR' hLe' hT' hd'
   ·rename_i hne
    refine wp_block (ih b h hR hT fun β' a' w' hR' hLe' hT' hd' => ?_)
    have hq := hQ β' a' w' hR' hLe' hT' hd'
    cases o with
    | norm => exact hq
    | exit id' => exact absurd h (hne id' m' H')
    | ret => exact hq
  | loop b =>
   obtain ⟨k, hk⟩ := hloop b h
   exact wp_loop_rounds k (hk hR hT hQ)
  | _ => simp only [execA] at h; cases h
def z8i (tmps : Array Value) : ResultVar -> Sem Value
 | .tmp t => pure (tmps.getD t undef)
 | .cell a t => do loadVar t (← asAddr (tmps.getD a undef))
theorem z8j {β : At} {H : Heap} {w : World} {m : Tm} {a : Act} (hR : Rel β H w) (hT : TRel H.n β m a.tmps) : ∀ {l : List ResultVar} {vs : List AV}, resA P m H l = some vs ->
  ∃ cs : List Value, (l.mapM (z8i a.tmps)).run P w = .ok cs w ∧ z2i H.n β vs cs
 | [], vs, h => by
  simp only [resA, Option.some.injEq] at h
  subst h
  exact ⟨[], rfl, .nil⟩
 | .tmp t :: l, vs, h => by
  simp only [resA] at h
  split at h
  ·rename_i v vs' hv hvs
   cases h
   obtain ⟨cs, hcs, hr⟩ := z8j hR hT hvs
   obtain ⟨c, hc, hrc⟩ := hT.2 t v hv
   refine ⟨c :: cs, ?_, .cons _ _ _ _ hrc hr⟩
   have hg : z8i a.tmps (.tmp t) = pure c := by simp [z8i, Array.getD_eq_getD_getElem?, hc]
   rw [List.mapM_cons]
   simp only [hg, pure_bind, Sem.run_bind, hcs, Result.andThen_ok, Sem.run_pure]
  ·cases h
 | .cell ad t :: l, vs, h => by
  simp only [resA] at h
  split at h
  ·rename_i r hr0
   split at h
   ·rename_i v vs' hv hvs
    cases h
    obtain ⟨cs, hcs, hr⟩ := z8j hR hT hvs
    obtain ⟨c, hc, hrc⟩ := hT.2 ad _ hr0
    obtain ⟨d, hd, hrd⟩ := z4p hR hrc hv
    refine ⟨d :: cs, ?_, .cons _ _ _ _ hrd hr⟩
    have hg : (z8i a.tmps (.cell ad t)).run P w = .ok d w := by
     simp only [z8i, Array.getD_eq_getD_getElem?, hc, Option.getD_some]
     cases hrc
     rw [← hd]
     rfl
    rw [List.mapM_cons]
    simp only [Sem.run_bind, hg, hcs, Result.andThen_ok, Sem.run_pure]
   ·cases h
  ·cases h
theorem z8k {β : At} {H : Heap} {w : World} {m : Tm} {a : Act} (hR : Rel β H w) (hT : TRel H.n β m a.tmps) {fn : Func} {vs : List AV} (h : resA P m H fn.results.toList = some vs) :
  ∃ c, (results fn a.tmps).run P w = .ok c w ∧ VRel H.n β (pack vs) c := by
 obtain ⟨cs, hcs, hr⟩ := z8j hR hT h
 have hrun : (results fn a.tmps).run P w = .ok (if h : cs.toArray.size = 1 then cs.toArray[0] else .tuple cs.toArray) w := by
  have : results fn a.tmps = (fn.results.mapM (z8i a.tmps)) >>= fun vs => pure (if h : vs.size = 1 then vs[0] else .tuple vs) := rfl
  rw [this, Array.mapM_eq_mapM_toList]
  simp only [Sem.run_bind, Sem.run_map, hcs, Result.andThen_ok, Sem.run_pure]
 refine ⟨_, hrun, ?_⟩
 cases vs with
 | nil => cases hr; exact .tup _ _ .nil
 | cons v vs =>
  cases hr with
  | cons _ _ _ _ h1 h2 =>
   cases vs with
   | nil => cases h2; exact h1
   | cons v2 vs =>
    cases h2 with
    | cons _ _ _ _ h3 h4 =>
     rw [dif_neg (by simp)]
     exact .tup _ _ (.cons _ _ _ _ h1 (.cons _ _ _ _ h3 h4))
theorem z8l : ∀ (l : List AV) (k:Nat) (t : Trie AV) (i:Nat), (z2f k l t).get i = if k <= i ∧ i < k + l.length then l[i - k]? else t.get i
 | [], k, t, i => by
  simp only [z2f, List.length_nil, Nat.add_zero]
  rw [if_neg (by omega)]
 | v :: l, k, t, i => by
  simp only [z2f, z8l l (k + 1), Trie.get_set, List.length_cons]
  by_cases e : i = k
  ·subst e
   rw [if_neg (by omega), if_pos rfl, if_pos (by omega)]
   simp
  ·by_cases h : k + 1 <= i ∧ i < k + 1 + l.length
   ·rw [if_pos h, if_pos (by omega)]
    have : i - k = (i - (k + 1)) + 1 := by omega
    rw [this, List.getElem?_cons_succ]
   ·rw [if_neg h, if_neg e, if_neg (by omega)]
theorem z8m {N n : Nat} {β : At} {args : List AV} {cargs : Array Value} (h : z2i N β args cargs.toList) (hl : args.length <= n) :
  TRel N β (z2g n args) (cargs ++ Array.replicate (n - cargs.size) undef) := by
 have hlen : args.length = cargs.size := by rw [h.length]; simp
 refine ⟨by simp [z2g]; omega, fun i v hv => ?_⟩
 simp only [Tm.get, z2g, z8l, Nat.zero_le, true_and, Nat.zero_add, Nat.sub_zero, Trie.get_leaf] at hv
 split at hv
 ·rename_i hi
  obtain ⟨c, hc, hr⟩ := h.at i v hv
  refine ⟨c, ?_, hr⟩
  rw [Array.getElem?_append_left (by omega)]
  simpa using hc
 ·cases hv
theorem z8n (hm : P.follows .mixedOrders = true) (hcl : z6t P cl) {n : Nat} {f : FuncId} {fn : Func} {c : Code} (hf : P.funcs[f]? = some fn) (hb : fn.body = some c) {args : List AV} {H H' : Heap} {v : AV}
  (h : bodyA P cl n fn c args H = some (v, H')) {β : At} {w : World} {cargs : Array Value} (hR : Rel β H w) (ha : z2i H.n β args cargs.toList) :
  Calls P f cargs w fun e w' => ∃ β' d, e = .returned d ∧ Rel β' H' w' ∧ Le β H w β' H' w' ∧ VRel H'.n β' v d := by
 unfold bodyA at h
 split at h
 ·rename_i hl
  refine calls_of_wp hf hb ?_
  split at h
  ·rename_i m H1 he
   obtain ⟨vs, hvs, he2⟩ := map_some h
   simp only [Prod.mk.injEq] at he2
   obtain ⟨rfl, rfl⟩ := he2
   refine (z8h hm hcl n).1 c he hR (z8m ha hl) fun β' a' w' hR' hLe' hT' hd' => ?_
   obtain ⟨d, hd, hrd⟩ := z8k hR' hT' hvs
   exact ⟨hd', d, hd, β', d, rfl, hR', hLe', hrd⟩
  ·rename_i m H1 he
   obtain ⟨vs, hvs, he2⟩ := map_some h
   simp only [Prod.mk.injEq] at he2
   obtain ⟨rfl, rfl⟩ := he2
   refine (z8h hm hcl n).1 c he hR (z8m ha hl) fun β' a' w' hR' hLe' hT' hd' => ?_
   obtain ⟨d, hd, hrd⟩ := z8k hR' hT' hvs
   exact ⟨hd', d, hd, β', d, rfl, hR', hLe', hrd⟩
  ·cases h
 ·cases h
end exec
end Go.Vx
end
section
namespace Go.Vx
def Kept (w w' : World) : Prop := w.keptBut w' (fun _ => False) ∧ (∀ a : Addr, a.block < w.heap.size -> w'.frozen? a = w.frozen? a) ∧ w.heap.size <= w'.heap.size
theorem Kept.frame {w w' : World} (h : Kept w w') (may : MemPlace -> Prop) : w.keptBut w' may := World.keptBut_mono (fun _ f => f.elim) h.1
theorem Kept.cell {w w' : World} (h : Kept w w') {a : Addr} {v : Value} (hc : w.cell? a = some v) : w'.cell? a = some v := by
 have hlt : a.block < w.heap.size := by
  unfold World.cell? at hc
  cases hb : w.heap[a.block]? with
  | none => simp [hb] at hc
  | some o => exact (Array.getElem?_eq_some_iff.mp hb).1
 have := h.1.2.2 a.block hlt
 unfold World.cell? at hc ⊢
 cases hb : w.heap[a.block]? with
 | none => simp [hb] at hc
 | some o =>
  cases hb' : w'.heap[a.block]? with
  | none => rw [hb, hb'] at this; cases o <;> simp at this
  | some o' =>
   rw [hb] at hc
   rw [hb, hb'] at this
   cases o <;> cases o' <;> simp at this hc ⊢
   ·obtain ⟨rfl, rfl, h1, h2⟩ := this
    exact ⟨hc.1, by rw [h2]; exact hc.2⟩
theorem z8o {β β' : At} {H H' : Heap} {w w' : World} (hro : ∀ g cs e, H.row g ≠ some (cs, e, false)) (h : Le β H w β' H' w') : Kept w w' := by
 have hsame : ∀ k, k < w.heap.size -> w'.heap[k]? = w.heap[k]? := fun k hk => h.blocks k hk fun ⟨g, b, cs, e, _, h2, _⟩ => hro g cs e h2
 refine ⟨⟨h.os, h.output, fun i hi => ?_⟩, fun a ha => ?_, h.size⟩
 ·rw [hsame i hi]
  split
  ·rename_i h1 h2
   rw [h1] at h2
   simp only [Option.some.injEq, Obj.cells.injEq] at h2
   obtain ⟨rfl, rfl, rfl⟩ := h2
   exact ⟨rfl, rfl, rfl, fun _ _ => rfl⟩
  ·rename_i h1 h2
   rw [h1] at h2
   simp only [Option.some.injEq, Obj.map.injEq] at h2
   obtain ⟨rfl, rfl⟩ := h2
   exact .inr ⟨rfl, rfl⟩
  ·rfl
 ·simp only [World.frozen?, hsame a.block ha]
theorem z8p (w : World) (i : Nat -> Nat -> Option Value) (hi : ∀ b o c, i b o = some c -> w.cell? ⟨b, o, none⟩ = some c) (hg : z2k i) (hT : z2m i w) : Rel ⟨fun _ => none, i⟩ Heap.empty w where
 lies := fun g b h => by cases h
 tot := fun g cs e ro h => by simp [Heap.empty, Heap.row, Heap.get, Trie.get_leaf] at h
 fresh := fun g o h => by simp [Heap.empty, Heap.row, Heap.get, Trie.get_leaf] at h
 apart := fun g g' b b' cs e _ h => by cases h
 immw := hi
 immm := fun b o c hc hm => by obtain ⟨_, _, _, _, h, _⟩ := hm; cases h
 glob := hg
 tab := hT
 fro := fun g t l e b h => by simp [Heap.empty, Heap.get, Trie.get_leaf] at h
def isTrue (r : Option (AV × Heap)) : Bool :=
 match r with
 | some (.bool _ true, _) => true
 | _ => false
open Go.ChangeShapes in
theorem post_kept {P : Program} {H : Type} {enc : TypeId × Value -> H} {f : Func} {s : ChangeSpec} {apart fresh handsOn again : Bool} {W W' : World} {args : Array Value} {v : Value} {ds gs : List (DataW H)} {before pa pv : List MemPlace}
  (hW : DataW.Whole enc P f.params.toList s.vars apart W args.toList ds gs before)
  (hres : ∀ (b:Nat) (sp : Nat -> Bool) (hd:Bool), DataW.TrodAll enc P W' b sp hd f.resultTypes.toList (v.resultList f.resultTypes.size) (s.fn H (ds ++ gs)).results [])
  (hargs : ∀ sp : Nat -> Bool, (∀ p ∈ before, sp p.block = true) -> DataW.TrodAll enc P W' 0 sp true f.params.toList args.toList (s.fn H (ds ++ gs)).args pa)
  (hvars : ∀ sp : Nat -> Bool, (∀ p ∈ before, sp p.block = true) -> DataW.TrodVars enc P W' sp s.vars (s.fn H (ds ++ gs)).vars pv)
  (hps : before = pa ++ pv) (hg : Kept W W')
  (hok : ∀ (j:Nat) (t : TypeId) (r : Value), f.resultTypes[j]? = some t -> (v.resultList f.resultTypes.size)[j]? = some r -> Value.okWide P W' .any 0 t r) :
  s.post enc P f apart fresh handsOn again W args v W' := by
 have hold : ∀ p ∈ before, (fun b => decide (b < W.heap.size)) p.block = true := fun p hp => by simpa using hW.lt p hp
 have hlt := hW.lt
 refine ⟨ds, gs, before, [], pa, pv, hW, hres _ _ _, hargs _ hold, hvars _ hold, World.keptBut_mono (fun _ f => f.elim) hg.1, fun _ => ?_⟩
 obtain ⟨_, _, _, _, _, hz, hn⟩ := hW
 refine ⟨hok, _, _, ([] ++ pa) ++ pv, ⟨[] ++ pa, pv, trodAll_append (hargs _ (fun _ _ => rfl)) (hres _ _ _), hvars _ (fun _ _ => rfl), rfl, ?_, ?_⟩, ?_⟩
 ·intro b off hp
  have hp' : MemPlace.cell b off ∈ before := by rw [hps]; simpa using hp
  rw [hg.2.1 _ (hlt _ hp')]
  exact hz b off hp'
 ·intro ha
  have := hn ha
  rw [hps] at this
  simpa using this
 ·intro p hp _
  rw [hps]
  simpa using hp
end Go.Vx
end
section
namespace Go.Vx
def need (t:Bool) (c : Prop) [d : Decidable c] (p : Prop) : Prop := bif t then c ∧ p else match d with
 | .isTrue _ => p
 | .isFalse _ => False
theorem z8q {t : Bool} {c : Prop} [d : Decidable c] {p : Prop} (h : need t c p) : c ∧ p := by
 unfold need at h
 cases t with
 | true => exact h
 | false =>
  cases d with
  | isTrue hc => exact ⟨hc, h⟩
  | isFalse hc => exact h.elim
def fork (t b:Bool) (x y : Prop) : Prop := bif t then (b = true -> x) ∧ (b = false -> y) else match b with
 | true => x
 | false => y
theorem z8r {t b : Bool} {x y : Prop} (h : fork t b x y) : (b = true ∧ x) ∨ (b = false ∧ y) := by
 unfold fork at h
 cases t with
 | true =>
  cases b with
  | true => exact .inl ⟨rfl, h.1 rfl⟩
  | false => exact .inr ⟨rfl, h.2 rfl⟩
 | false =>
  cases b with
  | true => exact .inl ⟨rfl, h⟩
  | false => exact .inr ⟨rfl, h⟩
def must {α : Type} (x : Option α) (k : α -> Prop) : Prop := match x with
 | some v => k v
 | none => False
theorem z8s {α : Type} {x : Option α} {k : α -> Prop} (h : must x k) : ∃ v, x = some v ∧ k v := by
 cases x with
 | none => exact h.elim
 | some v => exact ⟨v, rfl, h⟩
def z8t (k : IntKind) : List AV -> Option (List Int)
 | [] => some []
 | .int _ k' n :: l => if k = k' then (z8t k l).map (n :: ·) else none
 | _ :: _ => none
def z8u : List AV -> Option (List (List UInt8))
 | [] => some []
 | .str _ s :: l => (z8u l).map (s :: ·)
 | _ :: _ => none
def z8v : List AV -> Option (List Bool)
 | [] => some []
 | .bool _ s :: l => (z8v l).map (s :: ·)
 | _ :: _ => none
def z8w (l : List AV) (k : Bool -> List AV -> Prop) : Prop := match l with
 | .bool _ b :: l => k b l
 | _ => False
def z8x (kd : IntKind) (l : List AV) (k : Int -> List AV -> Prop) : Prop := match l with
 | .int _ k' n :: l => if kd = k' then k n l else False
 | _ => False
def z8y (l : List AV) (k : UInt8 -> List AV -> Prop) : Prop := match l with
 | .int t k' n :: l => if k' = .u8 then need t (0 <= n ∧ n < 256) (k (UInt8.ofNat n.toNat) l) else False
 | _ => False
def z8z (l : List AV) (k : List UInt8 -> List AV -> Prop) : Prop := match l with
 | .str _ s :: l => k s l
 | _ => False
def z90 (t : Ty) (l : List AV) (k : List t.den -> List AV -> Prop) : Prop := match l with
 | .vec t' x :: l => if h : t' = t then k (h ▸ x) l else False
 | .slice _ r _ _ :: l => match r with
  | none => k [] l
  | some _ => False
 | _ => False
def decS : (t : Ty) -> List AV -> (t.den -> List AV -> Prop) -> Prop
 | .bool, l, k => z8w l k
 | .int kd, l, k => z8x kd l k
 | .byte, l, k => z8y l k
 | .str, l, k => z8z l k
 | .sl t, l, k => z90 t l k
 | .unit, l, k => k () l
 | .pair a b, l, k => decS a l fun x l => decS b l fun y l => k (x, y) l
theorem z91 : (t : Ty) -> {l : List AV} -> {k : t.den -> List AV -> Prop} -> decS t l k -> ∃ x rest, dec t l = some (x, rest) ∧ k x rest
 | .bool, l, k, h => by
  simp only [decS] at h
  unfold z8w at h
  split at h
  ·exact ⟨_, _, rfl, h⟩
  ·exact h.elim
 | .int kd, l, k, h => by
  simp only [decS] at h
  unfold z8x at h
  split at h
  ·split at h
   ·rename_i hk; exact ⟨_, _, by simp only [dec, z0c, if_pos hk], h⟩
   ·exact h.elim
  ·exact h.elim
 | .byte, l, k, h => by
  simp only [decS] at h
  unfold z8y at h
  split at h
  ·split at h
   ·rename_i hk
    obtain ⟨h1, h2⟩ := z8q h
    exact ⟨_, _, by simp only [dec, z0d, if_pos (And.intro hk h1)], h2⟩
   ·exact h.elim
  ·exact h.elim
 | .str, l, k, h => by
  simp only [decS] at h
  unfold z8z at h
  split at h
  ·exact ⟨_, _, rfl, h⟩
  ·exact h.elim
 | .sl t, l, k, h => by
  simp only [decS] at h
  unfold z90 at h
  split at h
  ·split at h
   ·rename_i ht; exact ⟨_, _, by simp only [dec, z0f, dif_pos ht], h⟩
   ·exact h.elim
  ·split at h
   ·exact ⟨_, _, rfl, h⟩
   ·exact h.elim
  ·exact h.elim
 | .unit, l, k, h => ⟨_, _, rfl, h⟩
 | .pair a b, l, k, h => by
  simp only [decS] at h
  obtain ⟨x, l', hx, h⟩ := z91 a h
  obtain ⟨y, l'', hy, h⟩ := z91 b h
  exact ⟨_, _, by simp only [dec, hx, hy], h⟩
def z92 (t : Ty) (l : List AV) (k : t.den -> Prop) : Prop := decS t l fun x l => match l with
 | [] => k x
 | _ => False
theorem z93 {t : Ty} {l : List AV} {k : t.den -> Prop} (h : z92 t l k) : ∃ x, dec1 t l = some x ∧ k x := by
 obtain ⟨x, rest, hx, h⟩ := z91 t h
 split at h
 ·exact ⟨x, by simp only [dec1, hx], h⟩
 ·exact h.elim
def z94 (t : Ty) : Nat -> List AV -> (List t.den -> Prop) -> Prop
 | 0, l, k => match l with
  | [] => k []
  | _ => False
 | n + 1, l, k => decS t l fun x l => z94 t n l fun xs => k (x :: xs)
theorem z95 {t : Ty} : {n : Nat} -> {l : List AV} -> {k : List t.den -> Prop} -> z94 t n l k -> ∃ xs, decN t n l = some xs ∧ k xs
 | 0, l, k, h => by
  simp only [z94] at h
  split at h
  ·exact ⟨[], rfl, h⟩
  ·exact h.elim
 | n + 1, l, k, h => by
  simp only [z94] at h
  obtain ⟨x, rest, hx, h⟩ := z91 t h
  obtain ⟨xs, hxs, h⟩ := z95 h
  exact ⟨_, by simp only [decN, hx, hxs, Option.map_some], h⟩
def z96 (t : Ty) (l : List AV) (k : List t.den -> Prop) : Prop := match t.z with
 | 0 => False
 | z + 1 => z94 t (l.length / (z + 1)) l k
theorem z97 {t : Ty} {l : List AV} {k : List t.den -> Prop} (h : z96 t l k) : ∃ xs, decL t l = some xs ∧ k xs := by
 unfold z96 at h
 split at h
 ·exact h.elim
 ·rename_i z hz
  obtain ⟨xs, hxs, h⟩ := z95 h
  exact ⟨xs, by simp only [decL, hz, if_neg (show ¬ (z + 1 = 0) by omega), hxs], h⟩
def z98 (t t' : Ty) (l : List t'.den) (r : Ref) (n z:Nat) (k : AV -> Prop) : Prop :=
 if t' = t then (match Nat.beq r.z t'.z && Nat.beq r.o 0 && Nat.beq z t'.z with
  | true => need true (r.e + n <= l.length) (k (.vec t' ((l.drop r.e).take n)))
  | false => False) else False
def z99 (f : Nat -> List AV -> Heap -> (List AV -> Heap -> Prop) -> Prop) (t : Ty) (v : AV) (H : Heap) (k : AV -> Heap -> Prop) : Prop :=
 match v with
 | .slice _ (some r) n z => match H.get r.g with
  | some (.fro t' l _) => z98 t t' l r n z fun v => k v H
  | some (.vec t' l e false) => z98 t t' l r n z fun v => k v (H.set r.g (.fro t' l e))
  | some (.cells cs _ false) => f (cs.length / t.z) cs H fun cs' H' => z96 t cs' fun l => match H'.get r.g with
   | some (.cells cs2 e2 false) => match Nat.beq cs2.length cs'.length with
    | true => z98 t t l r n z fun v => k v (H'.set r.g (.fro t l e2))
    | false => False
   | _ => False
  | _ => False
 | v => k v H
def z9a (f : List AV -> Heap -> (List AV -> List AV -> Heap -> Prop) -> Prop) : Nat -> List AV -> Heap -> (List AV -> Heap -> Prop) -> Prop
 | 0, l, H, k => match l with
  | [] => k [] H
  | _ :: _ => False
 | n + 1, l, H, k => f l H fun d l' H' => z9a f n l' H' fun d' H'' => k (d ++ d') H''
def z9b : (t : Ty) -> List AV -> Heap -> (List AV -> List AV -> Heap -> Prop) -> Prop
 | .sl t, l, H, k => (match l with
  | v :: l => z99 (z9a (z9b t)) t v H fun v H' => k [v] l H'
  | [] => False)
 | .pair a b, l, H, k => z9b a l H fun d l' H' => z9b b l' H' fun d' l'' H'' => k (d ++ d') l'' H''
 | .unit, l, H, k => k [] l H
 | .bool, l, H, k => (match l with
  | v :: l => k [v] l H
  | [] => False)
 | .int _, l, H, k => (match l with
  | v :: l => k [v] l H
  | [] => False)
 | .byte, l, H, k => (match l with
  | v :: l => k [v] l H
  | [] => False)
 | .str, l, H, k => (match l with
  | v :: l => k [v] l H
  | [] => False)
theorem z9c {t t' : Ty} {l : List t'.den} {r : Ref} {n z : Nat} {k : AV -> Prop} (h : z98 t t' l r n z k) : ∃ v, z1q t t' l r n z = some v ∧ k v := by
 unfold z98 at h
 split at h
 ·rename_i ht
  split at h
  ·rename_i hb
   simp only [Bool.and_eq_true] at hb
   obtain ⟨h1, h2⟩ := z8q h
   exact ⟨_, by unfold z1q; rw [if_pos ⟨ht, Nat.eq_of_beq_eq_true hb.1.1, Nat.eq_of_beq_eq_true hb.1.2, Nat.eq_of_beq_eq_true hb.2, h1⟩], h2⟩
  ·exact h.elim
 ·exact h.elim
def z9d (fs : Nat -> List AV -> Heap -> (List AV -> Heap -> Prop) -> Prop) (f : Nat -> List AV -> Heap -> Option (List AV × Heap)) : Prop := ∀ n l H k, fs n l H k -> ∃ l' H', f n l H = some (l', H') ∧ k l' H'
def z9e (fs : List AV -> Heap -> (List AV -> List AV -> Heap -> Prop) -> Prop) (f : List AV -> Heap -> Option (List AV × List AV × Heap)) : Prop := ∀ l H k, fs l H k -> ∃ d l' H', f l H = some (d, l', H') ∧ k d l' H'
theorem z9f {fs : Nat -> List AV -> Heap -> (List AV -> Heap -> Prop) -> Prop} {f : Nat -> List AV -> Heap -> Option (List AV × Heap)} (hf : z9d fs f) {t : Ty} {v : AV} {H : Heap} {k : AV -> Heap -> Prop} (h : z99 fs t v H k) : ∃ v' H', z1r f t v H = some (v', H') ∧ k v' H' := by
 unfold z99 at h
 split at h
 ·split at h
  ·rename_i hg
   obtain ⟨v, h1, h2⟩ := z9c h
   exact ⟨_, _, by simp only [z1r, hg, h1, Option.map_some], h2⟩
  ·rename_i hg
   obtain ⟨v, h1, h2⟩ := z9c h
   exact ⟨_, _, by simp only [z1r, hg, h1, Option.map_some], h2⟩
  ·rename_i hg
   obtain ⟨cs', H', h1, h2⟩ := hf _ _ _ _ h
   obtain ⟨l, hl, h3⟩ := z97 h2
   split at h3
   ·rename_i hg2
    split at h3
    ·rename_i hb
     obtain ⟨v, h4, h5⟩ := z9c h3
     exact ⟨_, _, by simp only [z1r, hg, h1, hl, hg2, if_pos (Nat.eq_of_beq_eq_true hb), h4, Option.map_some], h5⟩
    ·exact h3.elim
   ·exact h3.elim
  ·exact h.elim
 ·rename_i hn
  refine ⟨v, H, ?_, h⟩
  unfold z1r
  split
  ·rename_i b r n z; exact absurd rfl (hn b r n z)
  ·rfl
theorem z9g {fs : List AV -> Heap -> (List AV -> List AV -> Heap -> Prop) -> Prop} {f : List AV -> Heap -> Option (List AV × List AV × Heap)} (hf : z9e fs f) : z9d (z9a fs) (z1s f) := by
 intro n
 induction n with
 | zero =>
  intro l H k h
  cases l with
  | nil => exact ⟨_, _, rfl, h⟩
  | cons => exact h.elim
 | succ n ih =>
  intro l H k h
  obtain ⟨d, l', H', h1, h2⟩ := hf _ _ _ h
  obtain ⟨d', H'', h3, h4⟩ := ih _ _ _ h2
  exact ⟨_, _, by simp only [z1s, h1, h3], h4⟩
theorem z9h : (t : Ty) -> z9e (z9b t) (z1t t)
 | .sl t, l, H, k, h => by
  cases l with
  | nil => exact h.elim
  | cons v l =>
   obtain ⟨v', H', h1, h2⟩ := z9f (z9g (z9h t)) (show z99 _ _ _ _ _ from h)
   exact ⟨_, _, _, by simp only [z1t, h1, Option.map_some], h2⟩
 | .pair a b, l, H, k, h => by
  obtain ⟨d, l', H', h1, h2⟩ := z9h a _ _ _ h
  obtain ⟨d', l'', H'', h3, h4⟩ := z9h b _ _ _ h2
  exact ⟨_, _, _, by simp only [z1t, h1, h3], h4⟩
 | .unit, l, H, k, h => ⟨_, _, _, by simp only [z1t], h⟩
 | .bool, l, H, k, h => by
  cases l with
  | nil => exact h.elim
  | cons v l => exact ⟨_, _, _, by simp only [z1t], h⟩
 | .int _, l, H, k, h => by
  cases l with
  | nil => exact h.elim
  | cons v l => exact ⟨_, _, _, by simp only [z1t], h⟩
 | .byte, l, H, k, h => by
  cases l with
  | nil => exact h.elim
  | cons v l => exact ⟨_, _, _, by simp only [z1t], h⟩
 | .str, l, H, k, h => by
  cases l with
  | nil => exact h.elim
  | cons v l => exact ⟨_, _, _, by simp only [z1t], h⟩
section ops
variable (P : Program)
def z9i (g:Nat) (e : TypeId) (H : Heap) (k : Heap -> Prop) : Prop := match z1v P e with
 | none => k H
 | some t => match H.get g with
  | some (.cells cs _ false) => z9a (z9b t) (cs.length / t.z) cs H fun cs' H' => z96 t cs' fun l => match H'.get g with
   | some (.cells cs2 e2 false) => match Nat.beq cs2.length cs'.length with
    | true => k (H'.set g (.vec t l e2 false))
    | false => False
   | _ => False
  | _ => False
theorem z9j {P : Program} {g : Nat} {e : TypeId} {H : Heap} {k : Heap -> Prop} (h : z9i P g e H k) : ∃ H', settle P g e H = some H' ∧ k H' := by
 unfold z9i at h
 split at h
 ·rename_i hd; exact ⟨H, by simp only [settle, hd], h⟩
 ·rename_i hd
  split at h
  ·rename_i hg
   obtain ⟨cs', H', h1, h2⟩ := z9g (z9h _) _ _ _ _ h
   obtain ⟨l, hl, h3⟩ := z97 h2
   split at h3
   ·rename_i hg2
    split at h3
    ·rename_i hb
     exact ⟨_, by simp only [settle, hd, hg, h1, hl, hg2, if_pos (Nat.eq_of_beq_eq_true hb)], h3⟩
    ·exact h3.elim
   ·exact h3.elim
  ·exact h.elim
def z9k : List AV -> Option IntKind
 | .int _ k _ :: _ => some k
 | _ => none
def z9l (u : TypeId) (t : Ty) (l : List t.den) (e o:Nat) (k : AV -> Prop) : Prop :=
 match isAgg? P u, size? P u with
 | some true, some s => match Nat.ble (o + s) t.z with
  | true => need true (e < l.length) (k (.agg (((enc t (l.getD e t.dflt)).drop o).take s)))
  | false => False
 | some false, some _ => match Nat.blt o t.z with
  | true => must ((enc t (l.getD e t.dflt))[o]?) fun v => need true (e < l.length) (k v)
  | false => False
 | _, _ => False
def z9m (H : Heap) (t : TypeId) (u:Bool) (r : Ref) (k : AV -> Prop) : Prop :=
 match H.get r.g with
 | some (.vec t' l _ _) => match Nat.beq r.z t'.z with
  | true => z9l P t t' l r.e r.o fun v => k (v.hot u)
  | false => False
 | some (.fro t' l _) => match Nat.beq r.z t'.z with
  | true => z9l P t t' l r.e r.o fun v => k (v.hot u)
  | false => False
 | some (.cells cs _ _) => match u with
  | false => must (z0l P H t r) fun v => k (v.hot false)
  | true => match isAgg? P t with
   | some false => match z9k cs with
    | some kd => must (z8t kd cs) fun l => need true (r.i < l.length) (k (.int true kd (l.getD r.i 0)))
    | none => match z8v cs with
     | some l => need true (r.i < l.length) (k (.bool true (l.getD r.i false)))
     | none => must (z8u cs) fun l => need true (r.i < l.length) (k (.str true (l.getD r.i [])))
   | _ => False
 | _ => False
def z9n (H : Heap) (t : TypeId) (r : Ref) (v : AV) (k : Heap -> Prop) : Prop :=
 match H.get r.g with
 | some (.vec t' l e false) => match size? P t, Nat.beq r.z t'.z && Nat.ble (r.o + v.cells.length) t'.z && Nat.beq v.cells.length ((size? P t).getD 0) && v.cells.all AV.cell with
  | some _, true => need true (r.e < l.length) (z92 t' (z0k (enc t' (l.getD r.e t'.dflt)) r.o v.cells) fun x => k (H.set r.g (.vec t' (l.set r.e x) e false)))
  | _, _ => False
 | _ => must (z0n P H t r v) k
def binS (op : BinOp) (t : TypeId) (x y : AV) (k : AV -> Prop) : Prop :=
 match op, x, y with
 | .quo, .int u kd a, .int u' kd' b => if kd = kd' then need u' (b ≠ 0) (k (.int (u || u') kd (kd.wrap (a.tdiv b)))) else False
 | .rem, .int u kd a, .int u' kd' b => if kd = kd' then need u' (b ≠ 0) (k (.int (u || u') kd (a.tmod b))) else False
 | .shl, .int u kd a, .int u' _ b => need u' (¬ b < 0) (k (.int (u || u') kd (kd.wrap (a * 2 ^ min b.toNat kd.bits))))
 | .shr, .int u kd a, .int u' _ b => need u' (¬ b < 0) (k (.int (u || u') kd (a.fdiv (2 ^ min b.toNat kd.bits))))
 | .add, .str u a, .str u' b => need (u || u') (((a.length + b.length:Nat):Int) <= 9223372036854775807) (k (.str (u || u') (a ++ b)))
 | op, x, y => must (binA P op t x y) k
def srcS (H : Heap) (u:Bool) (r : Ref) (n s:Nat) (k : Lot -> Prop) : Prop :=
 match H.get r.g with
 | some (.vec t l _ _) => match Nat.beq r.z t.z && Nat.beq r.o 0 && Nat.beq s t.z with
  | true => need true (r.e + n <= l.length) (k (.vec t ((l.drop r.e).take n)))
  | false => False
 | some (.fro t l _) => match Nat.beq r.z t.z && Nat.beq r.o 0 && Nat.beq s t.z with
  | true => need true (r.e + n <= l.length) (k (.vec t ((l.drop r.e).take n)))
  | false => False
 | some (.cells cs e ro) => match u with
  | true => False
  | false => must ((AObj.cells cs e ro).srcAt r n s) k
 | _ => False
def z9o (a b : Lot) (e : TypeId) (k : AObj -> Prop) : Prop :=
 match a, b with
 | .vec t l, .vec t' l' => if h : t' = t then k (.vec t (l ++ (h ▸ l')) e false) else False
 | .vec t l, .cells cs => z96 t cs fun l' => k (.vec t (l ++ l') e false)
 | .cells cs, .vec t l' => z96 t cs fun l => k (.vec t (l ++ l') e false)
 | .cells cs, .cells cs' => k (.cells (cs ++ cs') e false)
def z9p (src dst : TypeId) (x : AV) (H : Heap) (k : AV × Heap -> Prop) : Prop :=
 match P.underlying src, P.underlying dst, x with
 | some .string, some (.slice e), .str t s =>
  if isU8 P e = true then need t (s.length <= 140737488355328) (z9o (.cells []) (z0y t s) e fun o => k (.slice t (some ⟨H.n, 0, 1, 0⟩) s.length 1, H.push o)) else False
 | some (.slice e), some .string, .slice t (some r) n sz =>
  if isU8 P e = true ∧ sz = 1 then srcS H t r n 1 fun L => must (z10 L) fun s => k (.str (t || s.1) s.2, H) else False
 | _, _, _ => must (z12 P src dst x H) k
def z9q (t : TypeId) (x : AV) (lo hi : Option AV) (k : AV -> Prop) : Prop :=
 match P.underlying t, x with
 | some .string, .str u s => must (z1a 0 lo) fun l => must (z1a s.length hi) fun h =>
  need (u || z1b lo || z1b hi) (0 <= l ∧ l <= h ∧ h <= (s.length:Int)) (k (.str (u || z1b lo || z1b hi) ((s.take h.toNat).drop l.toNat)))
 | some (.slice e), .slice u (some r) n sz => must (z1a 0 lo) fun l => must (z1a n hi) fun h =>
  must (size? P e) fun s => if s = sz then
   need (u || z1b lo || z1b hi) (0 <= l ∧ l <= h ∧ h <= (n:Int)) (k (.slice (u || z1b lo || z1b hi) (some (r.el l.toNat sz)) (h - l).toNat sz)) else False
 | some (.slice e), .vec t' s => must (z1a 0 lo) fun l => must (z1a s.length hi) fun h =>
  if size? P e = some t'.z then need true (0 <= l ∧ l <= h ∧ h <= (s.length:Int)) (k (.vec t' ((s.take h.toNat).drop l.toNat))) else False
 | _, _ => must (z1d P t x lo hi) k
def z9r (T : TypeId) (x ix : AV) (k : AV -> Prop) : Prop :=
 match P.underlying T, x, ix with
 | some (.slice e), .vec t l, .int _ _ i => if size? P e = some t.z then need true (0 <= i ∧ i < (l.length:Int)) (k (.eptr t l i.toNat 0)) else False
 | some (.slice e), .slice t (some r) n _, .int u _ i => must (size? P e) fun s =>
  need (t || u) (0 <= i ∧ i < (n:Int)) (k (.ptr (t || u) (some (r.el i.toNat s))))
 | some (.array n e), .ptr t (some r), .int u _ i => must (size? P e) fun s =>
  need u (0 <= i ∧ i < (n:Int)) (k (.ptr (t || u) (some (r.elA t i.toNat s))))
 | some (.array n e), .eptr t l q p, .int u _ i => must (size? P e) fun s =>
  need u (0 <= i ∧ i < (n:Int)) (k (.eptr t l q (p + i.toNat * s)))
 | _, _, _ => must (z1f P T x ix) k
def z9s (t : TypeId) (l c : AV) (H : Heap) (k : AV -> Heap -> Prop) : Prop :=
 match z19 P t, l, c with
 | some e, .int true .i64 l, .int tc .i64 c => must (size? P e) fun sz => must (bytes? P e) fun by_ => must (zero? P e) fun z =>
  match z1o z.cells with
  | some ⟨ty, d⟩ => if sz ≠ 0 ∧ z.cells.length = sz ∧ z.cells.all AV.cell = true then
    need true (0 <= l ∧ l <= c ∧ c * by_ <= 140737488355328 ∧ c <= 140737488355328) (k (.slice true (some ⟨H.n, 0, sz, 0⟩) l.toNat sz) (H.push (.vec ty (List.replicate l.toNat d) e false)))
   else False
  | none => False
 | _, _, _ => must (z1p P t l c H) fun r => k r.1 r.2
def z9t (t : TypeId) (x ix : AV) (k : AV -> Prop) : Prop :=
 match P.underlying t, x, ix with
 | some .string, .str u s, .int u' _ i => need (u || u') (0 <= i ∧ i < (s.length:Int)) (k (.int (u || u') .u8 (s.getD i.toNat 0).toNat))
 | some (.array n e), .agg cs, .int true kd i => match isAgg? P e, size? P e, z8u cs with
  | some false, some 1, some l => need true (0 <= i ∧ i < (n:Int) ∧ i.toNat < l.length) (k (.str true (l.getD i.toNat [])))
  | _, _, _ => must (z1g P t (.agg cs) (.int true kd i)) k
 | _, _, _ => must (z1g P t x ix) k
def z9u (sz by_:Nat) (e : TypeId) (s : AV) (H : Heap) (k : AV × Heap -> Prop) (new : Lot) (n:Nat) (tn:Bool) : Prop :=
 match tn || !(Nat.beq n 0) with
 | false =>
  (match s with
   | .slice ts r m z => if (r.isSome -> z = sz) then k (.slice ts r m z, H) else False
   | _ => False)
 | true =>
  (match s with
   | .slice _ none _ _ => if new.ok = true then need tn (n * by_ <= 140737488355328) (z9o (.cells []) new e fun o => k (.slice tn (some ⟨H.n, 0, sz, 0⟩) n sz, H.push o)) else False
   | .slice ts (some r) m z =>
    if z = sz ∧ new.ok = true then
     match H.row r.g with
     | some (_, _, false) => srcS H ts r m sz fun old =>
      need (ts || tn) ((m + n) * by_ <= 140737488355328) (z9o old new e fun o => k (.slice (ts || tn) (some ⟨H.n, 0, sz, 0⟩) (m + n) sz, (H.set r.g .dead).push o))
     | _ => False
    else False
   | _ => False)
def z9v (t : TypeId) (s x : AV) (H : Heap) (k : AV × Heap -> Prop) : Prop :=
 must (z19 P t) fun e => must (size? P e) fun sz => must (bytes? P e) fun by_ => must (zero? P e) fun ze =>
 if sz = 0 ∨ by_ = 0 ∨ ze.cells.length ≠ sz then False else
 match x with
 | .slice _ none _ _ => z9u sz by_ e s H k (.cells []) 0 false
 | .slice tx (some r) n z => if z = sz then srcS H tx r n sz fun L => z9u sz by_ e s H k L n tx else False
 | .vec t' l => if sz = t'.z then z9u sz by_ e s H k (.vec t' l) l.length true else False
 | .str tx l => if sz = 1 then z9u sz by_ e s H k (z0y tx l) l.length tx else False
 | _ => False
def z9w (c : Call) (m : Tm) (H : Heap) (k : Got -> Prop) : Prop :=
 match c.callee with
 | .builtin .append => match c.argTypes.toList, z0j m c.args.toList with
  | [t, u], some [s, x] => if z1w P u x = true then z9v P t s x H fun r => k (.val r.1 r.2) else False
  | _, _ => False
 | _ => must (z1y P c m H) k
def opS (o : Op) (m : Tm) (H : Heap) (k : Got -> Prop) : Prop :=
 match o with
 | .pick c a b => match opnd m c with
  | some (.bool t x) => fork t x (must (opnd m a) fun v => k (.val v H)) (must (opnd m b) fun v => k (.val v H))
  | _ => False
 | .load t a => match opnd m a with
  | some (.ptr u (some r)) => z9m P H t u r fun v => k (.val v H)
  | some (.eptr t' l e o) => z9l P t t' l e o fun v => k (.val v H)
  | _ => False
 | .store t a x => match opnd m a, opnd m x with
  | some (.ptr _ (some r)), some v => z9n P H t r v fun H' => k (.val (.tup []) H')
  | _, _ => False
 | .binOp op t x y _ => match opnd m x, opnd m y with
  | some a, some b => binS P op t a b fun v => k (.val v H)
  | _, _ => False
 | .convert s d x => match opnd m x with
  | some a => z9p P s d a H fun r => k (.val r.1 r.2)
  | none => False
 | .slice t x lo hi none => match opnd m x, z1c m lo, z1c m hi with
  | some a, some l, some h => z9q P t a l h fun v => k (.val v H)
  | _, _, _ => False
 | .indexAddr t x i => match opnd m x, opnd m i with
  | some a, some b => z9r P t a b fun v => k (.val v H)
  | _, _ => False
 | .index t x i => match opnd m x, opnd m i with
  | some a, some b => z9t P t a b fun v => k (.val v H)
  | _, _ => False
 | .makeSlice t x i => match opnd m x, opnd m i with
  | some a, some b => z9s P t a b H fun v H' => k (.val v H')
  | _, _ => False
 | .call c => z9w P c m H k
 | .buildSlice t n parts => match z19 P t, z17 m parts.toList with
  | some e, some ps => match size? P e, zero? P e with
   | some s, some z =>
    if s ≠ 0 ∧ n * s <= 16777216 ∧ z.cells.length = s then
     match z15 (fun i => some (i * s, s)) (z18 z.cells n) ps with
     | some cs => if cs.all AV.cell = true ∧ cs.length = n * s then z9i P H.n e (H.push (.cells cs e false)) fun H' => k (.val (.slice false (some ⟨H.n, 0, s, 0⟩) n s) H') else False
     | none => False
    else False
   | _, _ => False
  | _, _ => False
 | o => must (opA P o m H) k
end ops
section sound
variable {P : Program} {H : Heap}
theorem z9x {α : Type} {l : List α} {i : Nat} {d : α} (h : i < l.length) : l[i]? = some (l.getD i d) := by
 rw [List.getElem?_eq_getElem h, List.getD_eq_getElem?_getD, List.getElem?_eq_getElem h]; rfl
theorem z9y {k : IntKind} : ∀ {cs : List AV} {l : List Int}, z8t k cs = some l -> cs.length = l.length ∧ ∀ (i:Nat) (n:Int), l[i]? = some n -> ∃ t : Bool, cs[i]? = some (AV.int t k n)
 | [], l, h => by simp only [z8t, Option.some.injEq] at h; subst h; exact ⟨rfl, fun i n h => by simp at h⟩
 | v :: cs, l, h => by
  cases v with
  | int t k' n =>
   simp only [z8t] at h
   split at h
   ·rename_i hk
    subst hk
    cases hl : z8t k cs with
    | none => rw [hl] at h; cases h
    | some l' =>
     rw [hl] at h
     cases h
     obtain ⟨h1, h2⟩ := z9y hl
     refine ⟨by simp [h1], fun i x hx => ?_⟩
     cases i with
     | zero => simp at hx; subst hx; exact ⟨t, by simp⟩
     | succ i => simp at hx; simpa using h2 i x hx
   ·cases h
  | _ => simp only [z8t] at h; cases h
theorem z9z : ∀ {cs : List AV} {l : List (List UInt8)}, z8u cs = some l -> cs.length = l.length ∧ ∀ (i:Nat) (n : List UInt8), l[i]? = some n -> ∃ t : Bool, cs[i]? = some (AV.str t n)
 | [], l, h => by simp only [z8u, Option.some.injEq] at h; subst h; exact ⟨rfl, fun i n h => by simp at h⟩
 | v :: cs, l, h => by
  cases v with
  | str t n =>
   simp only [z8u] at h
   cases hl : z8u cs with
   | none => rw [hl] at h; cases h
   | some l' =>
    rw [hl] at h
    cases h
    obtain ⟨h1, h2⟩ := z9z hl
    refine ⟨by simp [h1], fun i x hx => ?_⟩
    cases i with
    | zero => simp at hx; subst hx; exact ⟨t, by simp⟩
    | succ i => simp at hx; simpa using h2 i x hx
  | _ => simp only [z8u] at h; cases h
theorem za0 : ∀ {cs : List AV} {l : List Bool}, z8v cs = some l -> cs.length = l.length ∧ ∀ (i:Nat) (n:Bool), l[i]? = some n -> ∃ t : Bool, cs[i]? = some (AV.bool t n)
 | [], l, h => by simp only [z8v, Option.some.injEq] at h; subst h; exact ⟨rfl, fun i n h => by simp at h⟩
 | v :: cs, l, h => by
  cases v with
  | bool t n =>
   simp only [z8v] at h
   cases hl : z8v cs with
   | none => rw [hl] at h; cases h
   | some l' =>
    rw [hl] at h
    cases h
    obtain ⟨h1, h2⟩ := za0 hl
    refine ⟨by simp [h1], fun i x hx => ?_⟩
    cases i with
    | zero => simp at hx; subst hx; exact ⟨t, by simp⟩
    | succ i => simp at hx; simpa using h2 i x hx
  | _ => simp only [z8v] at h; cases h
theorem za1 {u : TypeId} {t : Ty} {l : List t.den} {e o : Nat} {k : AV -> Prop} (h : z9l P u t l e o k) : ∃ v, z0m P u t l e o = some v ∧ k v := by
 unfold z9l at h
 split at h
 ·rename_i s hag hs
  split at h
  ·rename_i hb
   obtain ⟨he, hk⟩ := z8q h
   exact ⟨_, by simp only [z0m, hag, hs, if_pos (And.intro he (Nat.le_of_ble_eq_true hb))], hk⟩
  ·exact h.elim
 ·rename_i s hag hs
  split at h
  ·rename_i hb
   obtain ⟨v, hv, h⟩ := z8s h
   obtain ⟨he, hk⟩ := z8q h
   exact ⟨v, by simp only [z0m, hag, hs, if_pos (And.intro he (Nat.blt_eq.mp hb)), hv], hk⟩
  ·exact h.elim
 ·exact h.elim
theorem za2 {t : TypeId} {r : Ref} {t' : Ty} {l : List t'.den} {e : TypeId} {ro : Bool} {v : AV} (hrow : H.row r.g = some (encL t' l, e, ro)) (hz : r.z = t'.z) (h : z0m P t t' l r.e r.o = some v) : z0l P H t r = some v := by
 have hi : r.i = r.e * t'.z + r.o := by unfold Ref.i; rw [hz]
 unfold z0l
 rw [hrow]
 unfold z0m at h
 split at h
 ·rename_i s hag hs
  split at h
  ·rename_i hc
   cases h
   have hle : r.i + s <= (encL t' l).length := by
    rw [z04, hi]
    have : (r.e + 1) * t'.z <= l.length * t'.z := Nat.mul_le_mul_right _ hc.1
    rw [Nat.add_mul] at this
    omega
   simp only [hag, hs, if_pos hle]
   rw [← z0a t' l r.e hc.1, List.drop_take, List.take_take, List.drop_drop, Nat.min_eq_left (by omega), hi]
  ·cases h
 ·rename_i s hag hs
  split at h
  ·rename_i hc
   simp only [hag]
   rw [hi, z09 t' l r.e r.o hc.1 hc.2]
   exact h
  ·cases h
 ·cases h
theorem za3 {t : TypeId} {u : Bool} {r : Ref} {k : AV -> Prop} (h : z9m P H t u r k) : ∃ v, z0l P H t r = some v ∧ k (v.hot u) := by
 unfold z9m at h
 have hrow : ∀ o, H.get r.g = some o -> H.row r.g = o.row := fun o ho => by unfold Heap.row; rw [ho]; rfl
 split at h
 ·rename_i t' l e ro hg
  split at h
  ·rename_i hz
   obtain ⟨v, hv, hk⟩ := za1 h
   exact ⟨v, za2 (hrow _ hg) (Nat.eq_of_beq_eq_true hz) hv, hk⟩
  ·exact h.elim
 ·rename_i t' l e hg
  split at h
  ·rename_i hz
   obtain ⟨v, hv, hk⟩ := za1 h
   exact ⟨v, za2 (hrow _ hg) (Nat.eq_of_beq_eq_true hz) hv, hk⟩
  ·exact h.elim
 ·rename_i cs e ro hg
  split at h
  ·obtain ⟨v, hv, hk⟩ := z8s h
   exact ⟨v, hv, hk⟩
  ·split at h
   ·rename_i ha
    split at h
    ·rename_i kd hkd
     obtain ⟨l, hl, h⟩ := z8s h
     obtain ⟨hi, hk⟩ := z8q h
     obtain ⟨h1, h2⟩ := z9y hl
     obtain ⟨tt, ht⟩ := h2 r.i _ (z9x (d := 0) hi)
     refine ⟨.int tt kd (l.getD r.i 0), ?_, by simpa only [AV.hot, Bool.true_or] using hk⟩
     unfold z0l
     rw [hrow _ hg]
     simp only [AObj.row, ha, ht]
    ·split at h
     ·rename_i l hl
      obtain ⟨hi, hk⟩ := z8q h
      obtain ⟨h1, h2⟩ := za0 hl
      obtain ⟨tt, ht⟩ := h2 r.i _ (z9x (d := false) hi)
      refine ⟨.bool tt (l.getD r.i false), ?_, by simpa only [AV.hot, Bool.true_or] using hk⟩
      unfold z0l
      rw [hrow _ hg]
      simp only [AObj.row, ha, ht]
     ·obtain ⟨l, hl, h⟩ := z8s h
      obtain ⟨hi, hk⟩ := z8q h
      obtain ⟨h1, h2⟩ := z9z hl
      obtain ⟨tt, ht⟩ := h2 r.i _ (z9x (d := []) hi)
      refine ⟨.str tt (l.getD r.i []), ?_, by simpa only [AV.hot, Bool.true_or] using hk⟩
      unfold z0l
      rw [hrow _ hg]
      simp only [AObj.row, ha, ht]
   ·exact h.elim
 ·exact h.elim
theorem za4 {t : TypeId} {r : Ref} {v : AV} {k : Heap -> Prop} (h : z9n P H t r v k) : ∃ H', z0n P H t r v = some H' ∧ k H' := by
 unfold z9n at h
 split at h
 ·rename_i t' l e hg
  split at h
  ·rename_i s hs hc
   obtain ⟨he, h⟩ := z8q h
   obtain ⟨x, hx, hk⟩ := z93 h
   simp only [Bool.and_eq_true, hs, Option.getD_some] at hc
   obtain ⟨⟨⟨hz, ho⟩, hl⟩, hall⟩ := hc
   have hz := Nat.eq_of_beq_eq_true hz
   have ho := Nat.le_of_ble_eq_true ho
   have hl := Nat.eq_of_beq_eq_true hl
   refine ⟨_, ?_, hk⟩
   have hi : r.i = r.e * t'.z + r.o := by unfold Ref.i; rw [hz]
   have hle : r.i + s <= (encL t' l).length := by
    rw [z04, hi]
    have : (r.e + 1) * t'.z <= l.length * t'.z := Nat.mul_le_mul_right _ he
    rw [Nat.add_mul] at this
    omega
   unfold z0n
   rw [hg]
   simp only [AObj.row, hs]
   rw [if_pos ⟨hl, hle, hall⟩]
   simp only [AObj.put]
   rw [if_pos ⟨hz, he, ho⟩, hx]
  ·exact h.elim
 ·exact z8s h
theorem za5 {op : BinOp} {t : TypeId} {x y : AV} {k : AV -> Prop} (h : binS P op t x y k) : ∃ v, binA P op t x y = some v ∧ k v := by
 unfold binS at h
 split at h
 ·split at h
  ·rename_i hk
   obtain ⟨h1, h2⟩ := z8q h
   exact ⟨_, by simp [binA, hk, z0o, h1], h2⟩
  ·exact h.elim
 ·split at h
  ·rename_i hk
   obtain ⟨h1, h2⟩ := z8q h
   exact ⟨_, by simp [binA, hk, z0o, h1], h2⟩
  ·exact h.elim
 ·obtain ⟨h1, h2⟩ := z8q h
  exact ⟨_, by simp only [binA, z0p, if_neg h1], h2⟩
 ·obtain ⟨h1, h2⟩ := z8q h
  exact ⟨_, by simp only [binA, z0p, if_neg h1], h2⟩
 ·obtain ⟨h1, h2⟩ := z8q h
  exact ⟨_, by simp only [binA, strA, if_pos h1], h2⟩
 ·exact z8s h
theorem za6 {u : Bool} {r : Ref} {n s : Nat} {k : Lot -> Prop} (h : srcS H u r n s k) : ∃ L, z11 H (some r) n s = some L ∧ k L := by
 unfold srcS at h
 simp only [z11]
 split at h
 ·rename_i hg
  split at h
  ·rename_i hc
   simp only [Bool.and_eq_true] at hc
   obtain ⟨⟨h1, h2⟩, h3⟩ := hc
   obtain ⟨h4, h5⟩ := z8q h
   rw [hg]
   exact ⟨_, by simp only [AObj.srcAt, if_pos (And.intro (Nat.eq_of_beq_eq_true h1) (And.intro (Nat.eq_of_beq_eq_true h2) (And.intro (Nat.eq_of_beq_eq_true h3) h4)))], h5⟩
  ·exact h.elim
 ·rename_i hg
  split at h
  ·rename_i hc
   simp only [Bool.and_eq_true] at hc
   obtain ⟨⟨h1, h2⟩, h3⟩ := hc
   obtain ⟨h4, h5⟩ := z8q h
   rw [hg]
   exact ⟨_, by simp only [AObj.srcAt, if_pos (And.intro (Nat.eq_of_beq_eq_true h1) (And.intro (Nat.eq_of_beq_eq_true h2) (And.intro (Nat.eq_of_beq_eq_true h3) h4)))], h5⟩
  ·exact h.elim
 ·rename_i hg
  split at h
  ·exact h.elim
  ·rw [hg]; exact z8s h
 ·exact h.elim
theorem za7 {a b : Lot} {e : TypeId} {k : AObj -> Prop} (h : z9o a b e k) : k (z0z a b e) := by
 unfold z9o at h
 unfold z0z
 split at h
 ·split at h
  ·rename_i ht; simp only [dif_pos ht]; exact h
  ·exact h.elim
 ·obtain ⟨l', hl', hk⟩ := z97 h
  simp only [hl']; exact hk
 ·obtain ⟨l', hl', hk⟩ := z97 h
  simp only [hl']; exact hk
 ·exact h
theorem za8 {src dst : TypeId} {x : AV} {k : AV × Heap -> Prop} (h : z9p P src dst x H k) : ∃ r, z12 P src dst x H = some r ∧ k r := by
 unfold z9p at h
 split at h
 ·rename_i e t s hs hd
  split at h
  ·rename_i he
   obtain ⟨h1, h2⟩ := z8q h
   exact ⟨_, by simp only [z12, hs, hd, he, h1, and_self, if_true], za7 h2⟩
  ·exact h.elim
 ·rename_i e t r n sz hs hd
  split at h
  ·rename_i hc
   obtain ⟨L, hL, h⟩ := za6 h
   obtain ⟨s, hs', hk⟩ := z8s h
   exact ⟨_, by simp only [z12, hs, hd, if_pos hc, hL, hs', Option.map_some], hk⟩
  ·exact h.elim
 ·exact z8s h
theorem za9 {t : TypeId} {x : AV} {lo hi : Option AV} {k : AV -> Prop} (h : z9q P t x lo hi k) : ∃ v, z1d P t x lo hi = some v ∧ k v := by
 unfold z9q at h
 split at h
 ·rename_i u s hu
  obtain ⟨l, hl, h⟩ := z8s h
  obtain ⟨b, hb, h⟩ := z8s h
  obtain ⟨h1, h2⟩ := z8q h
  exact ⟨_, by simp only [z1d, hu, hl, hb, if_pos h1], h2⟩
 ·rename_i e u r n sz hu
  obtain ⟨l, hl, h⟩ := z8s h
  obtain ⟨b, hb, h⟩ := z8s h
  obtain ⟨s, hs, h⟩ := z8s h
  split at h
  ·rename_i hz
   obtain ⟨h1, h2⟩ := z8q h
   exact ⟨_, by simp only [z1d, hu, hl, hb, if_pos h1, hs, if_pos hz], h2⟩
  ·exact h.elim
 ·rename_i e t' s hu
  obtain ⟨l, hl, h⟩ := z8s h
  obtain ⟨b, hb, h⟩ := z8s h
  split at h
  ·rename_i hs
   obtain ⟨h1, h2⟩ := z8q h
   exact ⟨_, by simp only [z1d, hu, hl, hb]; rw [if_pos ⟨h1.1, h1.2.1, h1.2.2, hs⟩], h2⟩
  ·exact h.elim
 ·exact z8s h
theorem zaa {t : TypeId} {x ix : AV} {k : AV -> Prop} (h : z9r P t x ix k) : ∃ v, z1f P t x ix = some v ∧ k v := by
 unfold z9r at h
 split at h
 ·rename_i hu
  split at h
  ·rename_i hs
   obtain ⟨h1, h2⟩ := z8q h
   exact ⟨_, by simp only [z1f, hu]; rw [if_pos ⟨hs, h1.1, h1.2⟩], h2⟩
  ·exact h.elim
 ·rename_i hu
  obtain ⟨s, hs, h⟩ := z8s h
  obtain ⟨h1, h2⟩ := z8q h
  exact ⟨_, by simp only [z1f, hu, hs, if_pos h1], h2⟩
 ·rename_i hu
  obtain ⟨s, hs, h⟩ := z8s h
  obtain ⟨h1, h2⟩ := z8q h
  exact ⟨_, by simp only [z1f, hu, hs, if_pos h1], h2⟩
 ·rename_i hu
  obtain ⟨s, hs, h⟩ := z8s h
  obtain ⟨h1, h2⟩ := z8q h
  exact ⟨_, by simp only [z1f, hu, hs, if_pos h1], h2⟩
 ·exact z8s h
theorem zab {t : TypeId} {l c : AV} {H : Heap} {k : AV -> Heap -> Prop} (h : z9s P t l c H k) : ∃ r, z1p P t l c H = some r ∧ k r.1 r.2 := by
 unfold z9s at h
 split at h
 ·rename_i he
  obtain ⟨sz, hs, h⟩ := z8s h
  obtain ⟨by_, hby, h⟩ := z8s h
  obtain ⟨z, hz, h⟩ := z8s h
  split at h
  ·rename_i ty d hzt
   split at h
   ·rename_i hc
    obtain ⟨h1, h2⟩ := z8q h
    refine ⟨(_, _), ?_, h2⟩
    simp only [z1p, he, hs, hby, hz, hzt]
    rw [if_pos ⟨hc.1, hc.2.1, h1.1, h1.2.1, h1.2.2.1, h1.2.2.2, hc.2.2⟩]
    rfl
   ·exact h.elim
  ·exact h.elim
 ·exact z8s h
theorem zac {t : TypeId} {x ix : AV} {k : AV -> Prop} (h : z9t P t x ix k) : ∃ v, z1g P t x ix = some v ∧ k v := by
 unfold z9t at h
 split at h
 ·rename_i hu
  obtain ⟨h1, h2⟩ := z8q h
  refine ⟨_, ?_, h2⟩
  simp only [z1g, hu, if_pos h1.1]
  rw [z9x (d := 0) (by omega)]
  rfl
 ·rename_i n e cs kd i hu
  split at h
  ·rename_i l ha hs hl
   obtain ⟨h1, h2⟩ := z8q h
   obtain ⟨g1, g2⟩ := z9z hl
   obtain ⟨tt, ht⟩ := g2 i.toNat _ (z9x (d := []) h1.2.2)
   refine ⟨_, ?_, h2⟩
   simp only [z1g, hu, hs, if_pos (And.intro h1.1 h1.2.1), z14, ha, Nat.mul_one, ht, Option.map_some, AV.hot, Bool.true_or]
  ·exact z8s h
 ·exact z8s h
theorem zad {t : TypeId} {s x : AV} {k : AV × Heap -> Prop} (h : z9v P t s x H k) : ∃ r, z1n P t s x H = some r ∧ k r := by
 unfold z9v at h
 obtain ⟨e, he, h⟩ := z8s h
 obtain ⟨sz, hsz, h⟩ := z8s h
 obtain ⟨by_, hby, h⟩ := z8s h
 obtain ⟨ze, hze, h⟩ := z8s h
 split at h
 ·exact h.elim
 ·rename_i hpos
  have hrest : ∀ (new : Lot) (n:Nat) (tn:Bool), z1m H sz x = some (new, n, tn) -> z9u sz by_ e s H k new n tn -> ∃ r, z1n P t s x H = some r ∧ k r := by
   intro new n tn hsrc hf
   unfold z9u at hf
   unfold z1n
   simp only [he, hsz, hby, hze, if_neg hpos, hsrc]
   split at hf
   ·rename_i hn
    have hn' : n = 0 ∧ tn = false := by
     simp only [Bool.or_eq_false_iff, Bool.not_eq_false'] at hn
     exact ⟨Nat.eq_of_beq_eq_true hn.2, hn.1⟩
    simp only [if_pos hn']
    split at hf
    ·split at hf
     ·rename_i hc
      refine ⟨_, ?_, hf⟩
      simp only [if_pos hc]
     ·exact hf.elim
    ·exact hf.elim
   ·rename_i hn
    have hn' : ¬ (n = 0 ∧ tn = false) := by
     rintro ⟨rfl, rfl⟩
     simp at hn
    simp only [if_neg hn']
    split at hf
    ·split at hf
     ·rename_i hok
      obtain ⟨h1, h2⟩ := z8q hf
      refine ⟨_, ?_, za7 h2⟩
      simp only [if_pos (And.intro h1 hok)]
     ·exact hf.elim
    ·split at hf
     ·rename_i hc
      split at hf
      ·rename_i hrow
       obtain ⟨old, hold, hf⟩ := za6 hf
       obtain ⟨h1, h2⟩ := z8q hf
       refine ⟨_, ?_, za7 h2⟩
       simp only [if_pos hc.1, hrow, hold, if_pos (And.intro h1 hc.2)]
      ·exact hf.elim
     ·exact hf.elim
    ·exact hf.elim
  split at h
  ·exact hrest _ _ _ rfl h
  ·rename_i tx r n z
   split at h
   ·rename_i hz
    obtain ⟨L, hL, h⟩ := za6 h
    exact hrest _ _ _ (by simp only [z1m, if_pos hz, hL, Option.map_some]) h
   ·exact h.elim
  ·split at h
   ·rename_i hz
    exact hrest _ _ _ (by simp only [z1m, if_pos hz]) h
   ·exact h.elim
  ·split at h
   ·rename_i hz
    exact hrest _ _ _ (by simp only [z1m, if_pos hz]) h
   ·exact h.elim
  ·exact h.elim
theorem zae {c : Call} {m : Tm} {k : Got -> Prop} (h : z9w P c m H k) : ∃ g, z1y P c m H = some g ∧ k g := by
 unfold z9w at h
 split at h
 ·rename_i hc
  split at h
  ·rename_i t u s x hts hargs
   split at h
   ·rename_i hk
    obtain ⟨r, hr, hk'⟩ := zad h
    refine ⟨_, ?_, hk'⟩
    simp only [z1y, hargs, hc, z1x, hts, if_pos hk, hr, Option.map_some]
   ·exact h.elim
  ·exact h.elim
 ·exact z8s h
theorem zaf {o : Op} {m : Tm} {k : Got -> Prop} (h : opS P o m H k) : ∃ g, opA P o m H = some g ∧ k g := by
 unfold opS at h
 split at h
 ·rename_i c a b
  split at h
  ·rename_i t x hc
   rcases z8r h with ⟨rfl, h'⟩ | ⟨rfl, h'⟩
   ·obtain ⟨v, hv, hk⟩ := z8s h'
    exact ⟨.val v H, by simp only [opA, hc, hv, Option.map_some], hk⟩
   ·obtain ⟨v, hv, hk⟩ := z8s h'
    exact ⟨.val v H, by simp only [opA, hc, hv, Option.map_some], hk⟩
  ·exact h.elim
 ·split at h
  ·rename_i hx
   obtain ⟨v, hv, hk⟩ := za3 h
   exact ⟨_, by simp only [opA, hx, hv, Option.map_some], hk⟩
  ·rename_i hx
   obtain ⟨v, hv, hk⟩ := za1 h
   exact ⟨_, by simp only [opA, hx, hv, Option.map_some], hk⟩
  ·exact h.elim
 ·split at h
  ·rename_i hx hy
   obtain ⟨v, hv, hk⟩ := za4 h
   exact ⟨_, by simp only [opA, hx, hy, hv, Option.map_some], hk⟩
  ·exact h.elim
 ·split at h
  ·rename_i hx hy
   obtain ⟨v, hv, hk⟩ := za5 h
   exact ⟨_, by simp only [opA, hx, hy, hv, Option.map_some], hk⟩
  ·exact h.elim
 ·split at h
  ·rename_i hx
   obtain ⟨v, hv, hk⟩ := za8 h
   exact ⟨_, by simp only [opA, hx, hv, Option.map_some], hk⟩
  ·exact h.elim
 ·split at h
  ·rename_i hx hl hh
   obtain ⟨v, hv, hk⟩ := za9 h
   exact ⟨_, by simp only [opA, hx, hl, hh, hv, Option.map_some], hk⟩
  ·exact h.elim
 ·split at h
  ·rename_i hx hy
   obtain ⟨v, hv, hk⟩ := zaa h
   exact ⟨_, by simp only [opA, hx, hy, hv, Option.map_some], hk⟩
  ·exact h.elim
 ·split at h
  ·rename_i hx hy
   obtain ⟨v, hv, hk⟩ := zac h
   exact ⟨_, by simp only [opA, hx, hy, hv, Option.map_some], hk⟩
  ·exact h.elim
 ·split at h
  ·rename_i hx hy
   obtain ⟨r, hv, hk⟩ := zab h
   exact ⟨_, by simp only [opA, hx, hy, hv, Option.map_some], hk⟩
  ·exact h.elim
 ·exact zae h
 ·split at h
  ·rename_i he hp
   split at h
   ·rename_i hs hz
    split at h
    ·rename_i hc
     split at h
     ·rename_i hcs
      split at h
      ·rename_i hall
       obtain ⟨H', h1, hk⟩ := z9j h
       exact ⟨_, by simp only [opA, he, hp, hs, hz, if_pos hc, hcs, if_pos hall, h1, Option.map_some], hk⟩
      ·exact h.elim
     ·exact h.elim
    ·exact h.elim
   ·exact h.elim
  ·exact h.elim
 ·exact z8s h
end sound
end Go.Vx
end
section
namespace Go.Vx
abbrev zag := FuncId -> List AV -> Heap -> (AV -> Heap -> Prop) -> Prop
abbrev zah := Code -> Tm -> Heap -> (Out -> Tm -> Heap -> Prop) -> Option Prop
def zai (b:Bool) (k : Bool -> Prop) : Prop := match b with
 | true => k true
 | false => k false
theorem zaj {b : Bool} {k : Bool -> Prop} (h : zai b k) : k b := by cases b <;> exact h
def zak (n:Nat) (k : Nat -> Prop) : Prop := match n with
 | 0 => k 0
 | n + 1 => k (Nat.succ n)
theorem zal {n : Nat} {k : Nat -> Prop} (h : zak n k) : k n := by cases n <;> exact h
def zam (n:Int) (k : Int -> Prop) : Prop := match n with
 | .ofNat m => zak m fun m => k (.ofNat m)
 | .negSucc m => zak m fun m => k (.negSucc m)
theorem zan {n : Int} {k : Int -> Prop} (h : zam n k) : k n := by cases n <;> exact zal (k := fun m => k _) h
def zao (t:Bool) (g e z o:Nat) (k : Option Ref -> Prop) : Prop := match t with
 | true => k (some ⟨g, e, z, o⟩)
 | false => zak e fun e => zak o fun o => k (some ⟨g, e, z, o⟩)
theorem zap {t : Bool} {g e z o : Nat} {k : Option Ref -> Prop} (h : zao t g e z o k) : k (some ⟨g, e, z, o⟩) := by
 cases t with
 | true => exact h
 | false => exact zal (k := fun o => k (some ⟨g, e, z, o⟩)) (zal (k := fun e => zak o fun o => k (some ⟨g, e, z, o⟩)) h)
def zaq (t:Bool) (r : Option Ref) (k : Option Ref -> Prop) : Prop := match r with
 | none => k none
 | some ⟨g, e, z, o⟩ => zak g fun g => zak z fun z => zao t g e z o k
theorem zar {t : Bool} {r : Option Ref} {k : Option Ref -> Prop} (h : zaq t r k) : k r := by
 cases r with
 | none => exact h
 | some r =>
  obtain ⟨g, e, z, o⟩ := r
  exact zap (zal (k := fun z => zao t g e z o k) (zal (k := fun g => zak z fun z => zao t g e z o k) h))
mutual
def zas : AV -> (AV -> Prop) -> Prop
 | .bool t b, k => match t with
  | true => k (.bool true b)
  | false => zai b fun b => k (.bool false b)
 | .int t kd n, k => match t with
  | true => k (.int true kd n)
  | false => zam n fun n => k (.int false kd n)
 | .str t s, k => zai t fun t => k (.str t s)
 | .ptr t r, k => zai t fun t => zaq t r fun r => k (.ptr t r)
 | .slice t r n z, k => zai t fun t => zaq t r fun r => zak z fun z => match t with
  | true => k (.slice true r n z)
  | false => zak n fun n => k (.slice false r n z)
 | .eptr t l e o, k => zak o fun o => k (.eptr t l e o)
 | .agg l, k => zat l fun l => k (.agg l)
 | .tup l, k => zat l fun l => k (.tup l)
 | v, k => k v
def zat : List AV -> (List AV -> Prop) -> Prop
 | [], k => k []
 | v :: l, k => zas v fun v => zat l fun l => k (v :: l)
end
mutual
theorem zau : ∀ {v : AV} {k : AV -> Prop}, zas v k -> k v
 | .bool t b, k, h => by
  cases t with
  | true => simpa only [zas] using h
  | false => simp only [zas] at h; exact zaj (k := fun b => k (.bool false b)) h
 | .int t kd n, k, h => by
  cases t with
  | true => simpa only [zas] using h
  | false => simp only [zas] at h; exact zan (k := fun n => k (.int false kd n)) h
 | .str t s, k, h => by simp only [zas] at h; exact zaj (k := fun t => k (.str t s)) h
 | .ptr t r, k, h => by
  simp only [zas] at h
  exact zar (zaj (k := fun t => zaq t r fun r => k (.ptr t r)) h)
 | .slice t r n z, k, h => by
  simp only [zas] at h
  have h1 := zal (zar (zaj h))
  cases t with
  | true => exact h1
  | false => exact zal (k := fun n => k (.slice false r n z)) h1
 | .vec t l, k, h => by simpa only [zas] using h
 | .eptr t l e o, k, h => by simp only [zas] at h; exact zal (k := fun o => k (.eptr t l e o)) h
 | .map r, k, h => by simpa only [zas] using h
 | .func f a b, k, h => by simpa only [zas] using h
 | .nilFunc, k, h => by simpa only [zas] using h
 | .nilIface, k, h => by simpa only [zas] using h
 | .agg l, k, h => by simp only [zas] at h; exact zav (k := fun l => k (.agg l)) h
 | .tup l, k, h => by simp only [zas] at h; exact zav (k := fun l => k (.tup l)) h
theorem zav : ∀ {l : List AV} {k : List AV -> Prop}, zat l k -> k l
 | [], k, h => by simpa only [zat] using h
 | v :: l, k, h => by
  simp only [zat] at h
  exact zav (k := fun l => k (v :: l)) (zau (k := fun v => zat l fun l => k (v :: l)) h)
end
def zaw (o : Option AObj) (k : Option AObj -> Prop) : Prop := match o with
 | some (.cells cs e ro) => zat cs fun cs => zai ro fun ro => k (some (.cells cs e ro))
 | some (.vec t l e ro) => zai ro fun ro => k (some (.vec t l e ro))
 | o => k o
theorem zax {o : Option AObj} {k : Option AObj -> Prop} (h : zaw o k) : k o := by
 unfold zaw at h
 split at h
 ·rename_i cs e ro; exact zaj (k := fun ro => k (some (.cells cs e ro))) (zav (k := fun cs => zai ro fun ro => k (some (.cells cs e ro))) h)
 ·rename_i t l e ro; exact zaj (k := fun ro => k (some (.vec t l e ro))) h
 ·exact h
def zay : Trie AObj -> (Trie AObj -> Prop) -> Prop
 | .leaf, k => k .leaf
 | .node v l r, k => zaw v fun v => zay l fun l => zay r fun r => k (.node v l r)
theorem zaz : ∀ {t : Trie AObj} {k : Trie AObj -> Prop}, zay t k -> k t
 | .leaf, k, h => h
 | .node v l r, k, h => zaz (k := fun r => k (.node v l r)) (zaz (k := fun l => zay r fun r => k (.node v l r)) (zax (k := fun v => zay l fun l => zay r fun r => k (.node v l r)) h))
def zb0 : Trie Nat -> (Trie Nat -> Prop) -> Prop
 | .leaf, k => k .leaf
 | .node none l r, k => zb0 l fun l => zb0 r fun r => k (.node none l r)
 | .node (some n) l r, k => zak n fun n => zb0 l fun l => zb0 r fun r => k (.node (some n) l r)
theorem zb1 : ∀ {t : Trie Nat} {k : Trie Nat -> Prop}, zb0 t k -> k t
 | .leaf, k, h => h
 | .node none l r, k, h => zb1 (k := fun r => k (.node none l r)) (zb1 (k := fun l => zb0 r fun r => k (.node none l r)) h)
 | .node (some n) l r, k, h => zb1 (k := fun r => k (.node (some n) l r)) (zb1 (k := fun l => zb0 r fun r => k (.node (some n) l r)) (zal (k := fun n => zb0 l fun l => zb0 r fun r => k (.node (some n) l r)) h))
def zb2 (H : Heap) (k : Heap -> Prop) : Prop := match H with
 | ⟨n, t, w⟩ => zak n fun n => zay t fun t => zb0 w fun w => k ⟨n, t, w⟩
theorem zb3 {H : Heap} {k : Heap -> Prop} (h : zb2 H k) : k H := by
 obtain ⟨n, t, w⟩ := H
 exact zb1 (k := fun w => k ⟨n, t, w⟩) (zaz (k := fun t => zb0 w fun w => k ⟨n, t, w⟩) (zal (k := fun n => zay t fun t => zb0 w fun w => k ⟨n, t, w⟩) h))
def setK : Nat -> Trie AV -> Nat -> AV -> (Trie AV -> Prop) -> Prop
 | 0, t, _, _, k => k t
 | f + 1, .leaf, n, a, k => match Nat.beq n 0 with
  | true => k (.node (some a) .leaf .leaf)
  | false => match Nat.beq (n % 2) 1 with
   | true => setK f .leaf (n / 2) a fun l => k (.node none l .leaf)
   | false => setK f .leaf (n / 2 - 1) a fun r => k (.node none .leaf r)
 | f + 1, .node v l r, n, a, k => match Nat.beq n 0 with
  | true => k (.node (some a) l r)
  | false => match Nat.beq (n % 2) 1 with
   | true => setK f l (n / 2) a fun l => k (.node v l r)
   | false => setK f r (n / 2 - 1) a fun r => k (.node v l r)
theorem zb4 : ∀ {f : Nat} {t : Trie AV} {n : Nat} {a : AV} {k : Trie AV -> Prop}, setK f t n a k -> k (t.setF f n a)
 | 0, t, n, a, k, h => by simp only [setK] at h; simpa only [Trie.setF] using h
 | f + 1, t, n, a, k, h => by
  rw [Trie.setF]
  cases t with
  | leaf =>
   simp only [setK] at h
   split at h
   ·rename_i e; rw [e]; exact h
   ·rename_i e
    rw [e]
    split at h
    ·rename_i e'; rw [e']; exact zb4 h
    ·rename_i e'; rw [e']; exact zb4 h
  | node v l r =>
   simp only [setK] at h
   split at h
   ·rename_i e; rw [e]; exact h
   ·rename_i e
    rw [e]
    split at h
    ·rename_i e'; rw [e']; exact zb4 h
    ·rename_i e'; rw [e']; exact zb4 h
def dstK (m : Tm) (d : Option Nat) (v : AV) (k : Tm -> Prop) : Prop := match d, m with
 | none, m => k m
 | some i, ⟨n, t⟩ => match Nat.blt i n with
  | true => zas v fun v => setK (i + 1) t i v fun t => k ⟨n, t⟩
  | false => False
theorem zb5 {m : Tm} {d : Option Nat} {v : AV} {k : Tm -> Prop} (h : dstK m d v k) : ∃ m', m.dst d v = some m' ∧ k m' := by
 cases d with
 | none => exact ⟨m, rfl, h⟩
 | some i =>
  obtain ⟨n, t⟩ := m
  simp only [dstK] at h
  split at h
  ·rename_i hb
   refine ⟨_, ?_, zb4 (zau h)⟩
   simp only [Tm.dst, Tm.put, hb, cond_true]
   rfl
  ·exact h.elim
def zb6 (dst : Option Nat) (d:Nat) (b:Bool) (m : Tm) (k : Tm -> Prop) : Prop := match dst, m with
 | none, ⟨n, t⟩ => setK (d + 1) t d (.bool false b) fun t => k ⟨n, t⟩
 | some e, ⟨n, t⟩ => match Nat.beq e d with
  | true => k ⟨n, t⟩
  | false => setK (d + 1) t d (.bool false b) fun t => k ⟨n, t⟩
theorem zb7 {dst : Option Nat} {d : Nat} {b : Bool} {m : Tm} {k : Tm -> Prop} (h : zb6 dst d b m k) : k (z23 dst d b m) := by
 obtain ⟨n, t⟩ := m
 cases dst with
 | none => exact zb4 h
 | some e =>
  simp only [zb6] at h
  unfold z23
  split at h
  ·rename_i e'; simp only [e', cond_true]; exact h
  ·rename_i e'; simp only [e', cond_false]; exact zb4 h
def zb8 (x : Operand) (b:Bool) (m : Tm) (k : Tm -> Prop) : Prop := match x with
 | .tmp d => zb6 none d b m k
 | _ => k m
theorem zb9 {x : Operand} {b : Bool} {m : Tm} {k : Tm -> Prop} (h : zb8 x b m k) : k (coolX x b m) := by
 cases x with
 | tmp d => exact zb7 (show zb6 none d b m k from h)
 | _ => exact h
def zba (P : Program) (o : Op) (H : Heap) (k : Heap -> Prop) : Prop := match z27 P o with
 | true => zb2 H k
 | false => k H
theorem zbb {P : Program} {o : Op} {H : Heap} {k : Heap -> Prop} (h : zba P o H k) : k H := by
 unfold zba at h
 split at h
 ·exact zb3 h
 ·exact h
section defs
variable (P : Program)
abbrev Kn := List (Nat × Bool)
def knows? : Kn -> Nat -> Option Bool
 | [], _ => none
 | (e, b) :: l, d => match Nat.beq e d with
  | true => some b
  | false => knows? l d
def zbc : Kn -> Option Nat -> Kn
 | kn, none => kn
 | [], some _ => []
 | (e, b) :: l, some d => match Nat.beq e d with
  | true => zbc l (some d)
  | false => (e, b) :: zbc l (some d)
def zbd (ops : Array Oper) (o : Oper) (m : Tm) (kn : Kn) (x y : Kn -> Prop) : Prop :=
 match o.guard with
 | none => x kn
 | some (j, want) => match ops[j]? with
  | some oj => match oj.dst with
   | some d => match knows? kn d with
    | some b => match b == want with
     | true => x kn
     | false => y kn
    | none => match m.get d with
     | some (.bool t b) => match want with
      | true => fork t b (x ((d, true) :: kn)) (y ((d, false) :: kn))
      | false => fork t b (y ((d, true) :: kn)) (x ((d, false) :: kn))
     | some (.tup []) => y kn
     | _ => False
   | none => False
  | none => False
def zbe (S : zag) (ops : Array Oper) (o : Oper) (m : Tm) (H : Heap) (kn : Kn) (k : Tm -> Heap -> Kn -> Prop) : Prop :=
 zbd ops o m kn
  (fun kn => match o.op with
   | .pick (.tmp c) a b => match knows? kn c with
    | some true => must (opnd m a) fun v => dstK m o.dst v fun m' => k m' H (zbc kn o.dst)
    | some false => must (opnd m b) fun v => dstK m o.dst v fun m' => k m' H (zbc kn o.dst)
    | none => match m.get c with
     | some (.bool t x) => fork t x (must (opnd m a) fun v => dstK m o.dst v fun m' => k m' H (zbc ((c, true) :: kn) o.dst)) (must (opnd m b) fun v => dstK m o.dst v fun m' => k m' H (zbc ((c, false) :: kn) o.dst))
     | _ => False
   | op => opS P op m H fun g => match g with
    | .val v H' => zba P op H' fun H' => dstK m o.dst v fun m' => k m' H' (zbc kn o.dst)
    | .enter f args => zat args fun args => S f args H fun v H' => zb2 H' fun H' => dstK m o.dst v fun m' => k m' H' (zbc kn o.dst))
  (fun kn => dstK m o.dst (.tup []) fun m' => k m' H (zbc kn o.dst))
def zbf (ops : Array Oper) (o : Oper) (m : Tm) (x y : (Tm -> (Tm -> Prop) -> Prop) -> Prop) : Prop :=
 match o.guard with
 | none => x fun m k => k m
 | some (j, want) => match ops[j]? with
  | some oj => match oj.dst with
   | some d => match m.get d with
    | some (.bool t b) => match want with
     | true => fork t b (x (zb6 o.dst d true)) (y (zb6 o.dst d false))
     | false => fork t b (y (zb6 o.dst d true)) (x (zb6 o.dst d false))
    | some (.tup []) => y fun m k => k m
    | _ => False
   | none => False
  | none => False
def zbg (S : zag) (ops : Array Oper) (o : Oper) (m : Tm) (H : Heap) (k : Tm -> Heap -> Prop) : Prop :=
 zbf ops o m
  (fun cool => match o.op with
   | .pick (.tmp c) a b => match m.get c with
    | some (.bool t x) => fork t x (must (opnd m a) fun v => dstK m o.dst v fun m' => cool m' fun m' => zb6 o.dst c true m' fun m' => k m' H) (must (opnd m b) fun v => dstK m o.dst v fun m' => cool m' fun m' => zb6 o.dst c false m' fun m' => k m' H)
    | _ => False
   | .pick _ _ _ => False
   | op => opS P op m H fun g => match g with
    | .val v H' => zba P op H' fun H' => dstK m o.dst v fun m' => cool m' fun m' => k m' H'
    | .enter f args => zat args fun args => S f args H fun v H' => zb2 H' fun H' => dstK m o.dst v fun m' => cool m' fun m' => k m' H')
  (fun cool => match o.op with
   | .pick (.tmp c) _ _ => match m.get c with
    | some (.tup []) => dstK m o.dst (.tup []) fun m' => cool m' fun m' => k m' H
    | _ => False
   | .pick _ _ _ => False
   | _ => dstK m o.dst (.tup []) fun m' => cool m' fun m' => k m' H)
def opsS (S : zag) (ops : Array Oper) : List Oper -> Tm -> Heap -> (Tm -> Heap -> Prop) -> Prop
 | [], m, H, k => k m H
 | o :: l, m, H, k => zbg P S ops o m H fun m' H' => opsS S ops l m' H' k
abbrev zbh := Heap × Option Nat
def zbi (S : zag) (ops : Array Oper) : List Oper -> Tm -> Heap -> Kn -> (Tm -> Heap -> List zbh -> Prop) -> Prop
 | [], m, H, _, k => k m H []
 | o :: l, m, H, kn, k => zbe P S ops o m H kn fun m' H' kn' => zbi S ops l m' H' kn' fun m2 H2 tr => k m2 H2 ((H, z28 o.op m) :: tr)
def zbj (tr : List zbh) (Hl : Heap) (j:Nat) : Heap :=
 match tr[j + 1]? with
 | some (Hk, _) => Hk
 | none => Hl
def zbk (ops : Array Oper) (i:Nat) : Bool := match ops[i]? with
 | some o => match o.op with
  | .load _ _ => true
  | .convert _ _ _ => true
  | _ => false
 | none => false
def zbl (ops : Array Oper) (b : Array Nat) (tr : List zbh) (Hl : Heap) (j i:Nat) (p : Prop) : Prop :=
 match (b.getD j 0).testBit i || (b.getD i 0).testBit j with
 | true => p
 | false => match tr[i]?, tr[j]? with
  | some (_, some g), some (Hj, _) => match Nat.beq (Hj.gen g) ((zbj tr Hl j).gen g) && Nat.blt g Hj.n with
   | true => p
   | false => Hj.get g = (zbj tr Hl j).get g ∧ p
  | _, _ => p
def zbm (ops : Array Oper) (b : Array Nat) (tr : List zbh) (Hl : Heap) (j:Nat) : List Nat -> Prop -> Prop
 | [], p => p
 | i :: l, p => match zbk ops i with
  | true => zbl ops b tr Hl j i (zbm ops b tr Hl j l p)
  | false => zbm ops b tr Hl j l p
def zbn (ops : Array Oper) (b : Array Nat) (tr : List zbh) (Hl : Heap) : List Nat -> Prop -> Prop
 | [], p => p
 | j :: l, p => match ops[j]? with
  | some y => match z27 P y.op with
   | true => zbm ops b tr Hl j (List.range ops.size) (zbn ops b tr Hl l p)
   | false => zbn ops b tr Hl l p
  | none => zbn ops b tr Hl l p
def zbo (D : zag) (ops : Array Oper) (m : Tm) (H : Heap) (k : Tm -> Heap -> Prop) : Prop :=
 zbi P D ops ops.toList m H [] fun m' H' tr => zbn P ops (Region.before ops) tr H' (List.range ops.size) (k m' H')
structure Twice (a b : Prop) : Prop where
 fst : a
 snd : b
def allS (p : Array Oper -> Prop) : List (Array Oper) -> Prop
 | [] => False
 | v :: l => match l with
  | [] => p v
  | w :: l' => Twice (p v) (allS p (w :: l'))
theorem zbp {p : Array Oper -> Prop} : ∀ {l : List (Array Oper)}, allS p l -> ∀ v ∈ l, p v
 | [], h, v, hv => by cases hv
 | [u], h, v, hv => by
  simp only [List.mem_singleton] at hv
  subst hv
  exact h
 | u :: x :: l, h, v, hv => by
  have h : Twice (p u) (allS p (x :: l)) := h
  rcases List.mem_cons.1 hv with e | hv
  ·subst e; exact h.fst
  ·exact zbp h.snd v hv
def zbq : Code -> Bool
 | .region _ ops true => z2c P ops (Region.before ops)
 | .seq a b => zbq a && zbq b
 | .cond _ a b => zbq a && zbq b
 | .block _ b => zbq b
 | .loop b => zbq b
 | _ => true
def zbr : Code -> Bool
 | .region _ ops true => (z8c P 4 ops).all fun v => z2c P v (Region.before v)
 | .seq a b => zbr a && zbr b
 | .cond _ a b => zbr a && zbr b
 | .block _ b => zbr b
 | .loop b => zbr b
 | _ => true
def fnOk (fn : Func) : Bool := match fn.body with
 | some c => zbr P c
 | none => true
def zbs : Bool := P.funcs.all (fnOk P)
def zbt (S D : zag) (L : zah) : Nat -> Code -> Tm -> Heap -> (Out -> Tm -> Heap -> Prop) -> Prop
 | 0, _, _, _, _ => False
 | n + 1, c, m, H, k => match c with
  | .skip => k .norm m H
  | .label _ => k .norm m H
  | .region _ ops true => allS (fun v => zbo P D v m H fun m' H' => k .norm m' H') (z8c P 4 ops)
  | .region _ ops false => opsS P S ops ops.toList m H fun m' H' => k .norm m' H'
  | .seq a b => zbt S D L n a m H fun o m' H' => match o with
   | .norm => zbt S D L n b m' H' k
   | o => k o m' H'
  | .cond x a b => match opnd m x with
   | some (.bool t y) => fork t y (zb8 x true m fun m => zbt S D L n a m H k) (zb8 x false m fun m => zbt S D L n b m H k)
   | _ => False
  | .block id b => zbt S D L n b m H fun o m' H' => match o with
   | .exit id' => match Nat.beq id' id with
    | true => k .norm m' H'
    | false => k (.exit id') m' H'
   | o => k o m' H'
  | .loop b => match L b m H k with
   | some p => p
   | none => zbt S D L n b m H fun o m' H' => match o with
    | .norm => zbt S D L n (.loop b) m' H' k
    | o => k o m' H'
  | .exit id => k (.exit id) m H
  | .ret => k .ret m H
  | _ => False
def zbu (S D : zag) (L : zah) (n:Nat) (fn : Func) (c : Code) (args : List AV) (H : Heap) (k : AV -> Heap -> Prop) : Prop :=
 match Nat.ble args.length fn.ntmps with
 | false => False
 | true => zbt P S D L n c (z2g fn.ntmps args) H fun o m H' => match o with
  | .norm => must (resA P m H' fn.results.toList) fun l => k (pack l) H'
  | .ret => must (resA P m H' fn.results.toList) fun l => k (pack l) H'
  | .exit _ => False
end defs
section sound
variable {P : Program}
def ClS (S : zag) (cl : z20) : Prop := ∀ f args H k, S f args H k -> ∃ v H', cl f args H = some (v, H') ∧ k v H'
def KnOk (kn : Kn) (m : Tm) : Prop := ∀ d b, knows? kn d = some b -> ∃ t, m.get d = some (.bool t b)
theorem KnOk.cons {kn : Kn} {m : Tm} (h : KnOk kn m) {d : Nat} {t b : Bool} (hd : m.get d = some (.bool t b)) : KnOk ((d, b) :: kn) m := fun e c hc => by
 simp only [knows?] at hc
 split at hc
 ·rename_i he
  cases hc
  rw [← Nat.eq_of_beq_eq_true he]
  exact ⟨t, hd⟩
 ·exact h e c hc
theorem zbv : ∀ (kn : Kn) (dst : Option Nat) (d:Nat) (b:Bool), knows? (zbc kn dst) d = some b -> knows? kn d = some b ∧ dst ≠ some d
 | kn, none, d, b, h => ⟨by simpa only [zbc] using h, by simp⟩
 | [], some e, d, b, h => by simp only [zbc, knows?] at h; cases h
 | (e, c) :: l, some x, d, b, h => by
  simp only [zbc] at h
  split at h
  ·rename_i he
   obtain ⟨h1, h2⟩ := zbv l (some x) d b h
   refine ⟨?_, h2⟩
   simp only [knows?]
   have : ¬ e = d := fun e' => h2 (by rw [← e', Nat.eq_of_beq_eq_true he])
   rw [z01 this]
   exact h1
  ·rename_i he
   simp only [knows?] at h ⊢
   split at h
   ·rename_i hd
    cases h
    refine ⟨rfl, fun e' => ?_⟩
    cases e'
    rw [he] at hd
    cases hd
   ·rename_i hd
    obtain ⟨h1, h2⟩ := zbv l (some x) d b h
    exact ⟨h1, h2⟩
theorem KnOk.dst {kn : Kn} {m m' : Tm} (h : KnOk kn m) {dst : Option Nat} {v : AV} (hm : m.dst dst v = some m') : KnOk (zbc kn dst) m' := fun d b hd => by
 obtain ⟨h1, h2⟩ := zbv kn dst d b hd
 obtain ⟨t, ht⟩ := h d b h1
 exact ⟨t, by rw [z6y hm h2]; exact ht⟩
theorem zbw {ops : Array Oper} {o : Oper} {m : Tm} {kn : Kn} {x y : Kn -> Prop} (hk : KnOk kn m) (h : zbd ops o m kn x y) : ∃ kn', KnOk kn' m ∧ ((z1z ops o m = some true ∧ x kn') ∨ (z1z ops o m = some false ∧ y kn')) := by
 unfold zbd at h
 unfold z1z
 cases hg : o.guard with
 | none => rw [hg] at h; exact ⟨kn, hk, .inl ⟨rfl, h⟩⟩
 | some g =>
  obtain ⟨j, want⟩ := g
  rw [hg] at h
  simp only at h ⊢
  cases hj : ops[j]? with
  | none => rw [hj] at h; exact h.elim
  | some oj =>
   rw [hj] at h
   simp only at h ⊢
   cases hd : oj.dst with
   | none => rw [hd] at h; exact h.elim
   | some d =>
    rw [hd] at h
    simp only at h ⊢
    split at h
    ·rename_i b hb
     obtain ⟨t, ht⟩ := hk d b hb
     rw [ht]
     refine ⟨kn, hk, ?_⟩
     simp only
     split at h
     ·rename_i e; rw [e]; exact .inl ⟨rfl, h⟩
     ·rename_i e; rw [e]; exact .inr ⟨rfl, h⟩
    ·cases hm : m.get d with
     | none => rw [hm] at h; exact h.elim
     | some v =>
      rw [hm] at h
      cases v <;> (try simp only at h ⊢) <;> try (first | exact h.elim; done)
      rotate_left
      ·rename_i l
       cases l with
       | nil => exact ⟨kn, hk, .inr ⟨rfl, h⟩⟩
       | cons _ _ => exact h.elim
      cases want with
      | true =>
       rcases z8r h with ⟨rfl, h'⟩ | ⟨rfl, h'⟩
       ·exact ⟨_, hk.cons hm, .inl ⟨rfl, h'⟩⟩
       ·exact ⟨_, hk.cons hm, .inr ⟨rfl, h'⟩⟩
      | false =>
       rcases z8r h with ⟨rfl, h'⟩ | ⟨rfl, h'⟩
       ·exact ⟨_, hk.cons hm, .inr ⟨rfl, h'⟩⟩
       ·exact ⟨_, hk.cons hm, .inl ⟨rfl, h'⟩⟩
theorem zbx {S : zag} {cl : z20} (hcl : ClS S cl) {ops : Array Oper} {o : Oper} {m : Tm} {H : Heap} {kn : Kn} (hk : KnOk kn m) {k : Tm -> Heap -> Kn -> Prop} (h : zbe P S ops o m H kn k) :
  ∃ m' H' kn', z22 P cl ops o m H = some (m', H') ∧ KnOk kn' m' ∧ k m' H' kn' := by
 unfold zbe at h
 unfold z22
 obtain ⟨kn, hk, ⟨hg, h⟩ | ⟨hg, h⟩⟩ := zbw hk h
 ·rw [hg]
  have pickT : ∀ c a b t, o.op = .pick (.tmp c) a b -> m.get c = some (.bool t true) -> ∀ kn', KnOk kn' m -> (must (opnd m a) fun v => dstK m o.dst v fun m' => k m' H (zbc kn' o.dst)) ->
    ∃ m' H' kn', (match opA P o.op m H with
     | none => none
     | some (.val v H') => (m.dst o.dst v).map fun m' => (m', H')
     | some (.enter f args) => match cl f args H with
      | none => none
      | some (v, H') => (m.dst o.dst v).map fun m' => (m', H')) = some (m', H') ∧ KnOk kn' m' ∧ k m' H' kn' := by
   intro c a b t ho hc kn' hk' h
   obtain ⟨v, hv, h⟩ := z8s h
   obtain ⟨m', hm, h⟩ := zb5 h
   have hc' : opnd m (.tmp c) = some (.bool t true) := hc
   exact ⟨m', H, _, by simp only [ho, opA, hc', hv, hm, Option.map_some], hk'.dst hm, h⟩
  have pickF : ∀ c a b t, o.op = .pick (.tmp c) a b -> m.get c = some (.bool t false) -> ∀ kn', KnOk kn' m -> (must (opnd m b) fun v => dstK m o.dst v fun m' => k m' H (zbc kn' o.dst)) ->
    ∃ m' H' kn', (match opA P o.op m H with
     | none => none
     | some (.val v H') => (m.dst o.dst v).map fun m' => (m', H')
     | some (.enter f args) => match cl f args H with
      | none => none
      | some (v, H') => (m.dst o.dst v).map fun m' => (m', H')) = some (m', H') ∧ KnOk kn' m' ∧ k m' H' kn' := by
   intro c a b t ho hc kn' hk' h
   obtain ⟨v, hv, h⟩ := z8s h
   obtain ⟨m', hm, h⟩ := zb5 h
   have hc' : opnd m (.tmp c) = some (.bool t false) := hc
   exact ⟨m', H, _, by simp only [ho, opA, hc', hv, hm, Option.map_some], hk'.dst hm, h⟩
  split at h
  ·rename_i c a b ho
   split at h
   ·rename_i hb; obtain ⟨t, ht⟩ := hk _ _ hb; exact pickT c a b t ho ht kn hk h
   ·rename_i hb; obtain ⟨t, ht⟩ := hk _ _ hb; exact pickF c a b t ho ht kn hk h
   ·split at h
    ·rename_i t x hx
     rcases z8r h with ⟨rfl, h'⟩ | ⟨rfl, h'⟩
     ·exact pickT c a b t ho hx _ (hk.cons hx) h'
     ·exact pickF c a b t ho hx _ (hk.cons hx) h'
    ·exact h.elim
  ·obtain ⟨g, hg', h⟩ := zaf h
   rw [hg']
   cases g with
   | val v H' =>
    obtain ⟨m', hm, h⟩ := zb5 (zbb h)
    exact ⟨m', H', _, by simp only [hm, Option.map_some], hk.dst hm, h⟩
   | enter f args =>
    obtain ⟨v, H', hc, h⟩ := hcl f args H _ (zav h)
    obtain ⟨m', hm, h⟩ := zb5 (zb3 h)
    exact ⟨m', H', _, by simp only [hc, hm, Option.map_some], hk.dst hm, h⟩
 ·rw [hg]
  obtain ⟨m', hm, h⟩ := zb5 h
  exact ⟨m', H, _, by simp only [hm, Option.map_some], hk.dst hm, h⟩
theorem zby {ops : Array Oper} {o : Oper} {m : Tm} {x y : (Tm -> (Tm -> Prop) -> Prop) -> Prop} (h : zbf ops o m x y) :
  ∃ cool, (∀ m' (k : Tm -> Prop), cool m' k -> k (z24 ops o m m')) ∧ ((z1z ops o m = some true ∧ x cool) ∨ (z1z ops o m = some false ∧ y cool)) := by
 unfold zbf at h
 unfold z1z z24
 cases hg : o.guard with
 | none => rw [hg] at h; exact ⟨_, fun _ _ h => h, .inl ⟨rfl, h⟩⟩
 | some g =>
  obtain ⟨j, want⟩ := g
  rw [hg] at h
  simp only at h ⊢
  cases hj : ops[j]? with
  | none => rw [hj] at h; exact h.elim
  | some oj =>
   rw [hj] at h
   simp only at h ⊢
   cases hd : oj.dst with
   | none => rw [hd] at h; exact h.elim
   | some d =>
    rw [hd] at h
    simp only at h ⊢
    cases hm : m.get d with
    | none => rw [hm] at h; exact h.elim
    | some v =>
     rw [hm] at h
     cases v <;> simp only at h ⊢ <;> try (first | exact h.elim; done)
     rotate_left
     ·rename_i l
      cases l with
      | nil => exact ⟨_, fun _ _ h => h, .inr ⟨rfl, h⟩⟩
      | cons _ _ => exact h.elim
     cases want with
     | true =>
      rcases z8r h with ⟨rfl, h'⟩ | ⟨rfl, h'⟩
      ·exact ⟨_, fun _ _ h => zb7 h, .inl ⟨rfl, h'⟩⟩
      ·exact ⟨_, fun _ _ h => zb7 h, .inr ⟨rfl, h'⟩⟩
     | false =>
      rcases z8r h with ⟨rfl, h'⟩ | ⟨rfl, h'⟩
      ·exact ⟨_, fun _ _ h => zb7 h, .inr ⟨rfl, h'⟩⟩
      ·exact ⟨_, fun _ _ h => zb7 h, .inl ⟨rfl, h'⟩⟩
theorem zbz {o : Oper} (h : ∀ c a b, o.op ≠ .pick c a b) (m m' : Tm) : z25 o m m' = m' := by
 unfold z25
 split
 ·rename_i c a b ho; exact absurd ho (h _ a b)
 ·rfl
theorem zc0 {S : zag} {cl : z20} (hcl : ClS S cl) {ops : Array Oper} {o : Oper} {m : Tm} {H : Heap} {k : Tm -> Heap -> Prop} (h : zbg P S ops o m H k) :
  ∃ m' H', z26 P cl ops o m H = some (m', H') ∧ k m' H' := by
 unfold zbg at h
 obtain ⟨cool, hc, ⟨hg, h⟩ | ⟨hg, h⟩⟩ := zby h
 ·split at h
  ·rename_i c a b ho
   split at h
   ·rename_i t x hx
    rcases z8r h with ⟨rfl, h'⟩ | ⟨rfl, h'⟩
    ·obtain ⟨v, hv, h'⟩ := z8s h'
     obtain ⟨m', hm, h'⟩ := zb5 h'
     have hk := zb7 (hc _ _ h')
     refine ⟨_, H, ?_, hk⟩
     have hx' : opnd m (.tmp c) = some (.bool t true) := hx
     simp only [z26, z22, hg, ho, opA, hx', hv, hx, hm, Option.map_some, z25]
    ·obtain ⟨v, hv, h'⟩ := z8s h'
     obtain ⟨m', hm, h'⟩ := zb5 h'
     have hk := zb7 (hc _ _ h')
     refine ⟨_, H, ?_, hk⟩
     have hx' : opnd m (.tmp c) = some (.bool t false) := hx
     simp only [z26, z22, hg, ho, opA, hx', hv, hx, hm, Option.map_some, z25]
   ·exact h.elim
  ·exact h.elim
  ·rename_i hno1 hno2
   have hno : ∀ c a b, o.op ≠ .pick c a b := fun c a b e => hno2 c a b e
   obtain ⟨g, hg', h⟩ := zaf h
   cases g with
   | val v H' =>
    obtain ⟨m', hm, h⟩ := zb5 (zbb h)
    have hk := hc _ _ h
    exact ⟨_, H', by simp only [z26, z22, hg, hg', hm, Option.map_some, zbz hno], hk⟩
   | enter f args =>
    obtain ⟨v, H', hcv, h⟩ := hcl f args H _ (zav h)
    obtain ⟨m', hm, h⟩ := zb5 (zb3 h)
    have hk := hc _ _ h
    exact ⟨_, H', by simp only [z26, z22, hg, hg', hcv, hm, Option.map_some, zbz hno], hk⟩
 ·split at h
  ·rename_i c a b ho
   split at h
   ·rename_i hx
    obtain ⟨m', hm, h⟩ := zb5 h
    have hk := hc _ _ h
    exact ⟨_, H, by simp only [z26, z22, hg, hm, Option.map_some, z25, ho, hx], hk⟩
   ·exact h.elim
  ·exact h.elim
  ·rename_i hno1 hno
   obtain ⟨m', hm, h⟩ := zb5 h
   have hk := hc _ _ h
   exact ⟨_, H, by simp only [z26, z22, hg, hm, Option.map_some, zbz (fun c a b e => hno c a b e)], hk⟩
theorem zc1 {S : zag} {cl : z20} (hcl : ClS S cl) {ops : Array Oper} : ∀ {l : List Oper} {m : Tm} {H : Heap} {k : Tm -> Heap -> Prop}, opsS P S ops l m H k -> ∃ m' H', opsA P cl ops l m H = some (m', H') ∧ k m' H'
 | [], m, H, k, h => ⟨m, H, rfl, h⟩
 | o :: l, m, H, k, h => by
  obtain ⟨m1, H1, h1, h⟩ := zc0 hcl h
  obtain ⟨m2, H2, h2, hk⟩ := zc1 hcl h
  exact ⟨m2, H2, by simp only [opsA, h1, h2], hk⟩
def zc2 (H H' : Heap) : Prop := H.n <= H'.n ∧ ∀ g, g < H.n -> H.gen g <= H'.gen g ∧ (H'.gen g = H.gen g -> H'.get g = H.get g)
theorem zc2.refl (H : Heap) : zc2 H H := ⟨Nat.le_refl _, fun _ _ => ⟨Nat.le_refl _, fun _ => rfl⟩⟩
theorem zc2.trans {H H1 H2 : Heap} (h : zc2 H H1) (k : zc2 H1 H2) : zc2 H H2 :=
 ⟨Nat.le_trans h.1 k.1, fun g hg => by
  obtain ⟨a1, a2⟩ := h.2 g hg
  obtain ⟨b1, b2⟩ := k.2 g (Nat.lt_of_lt_of_le hg h.1)
  exact ⟨Nat.le_trans a1 b1, fun e => by rw [b2 (by omega), a2 (by omega)]⟩⟩
theorem zc2.push (H : Heap) (o : AObj) : zc2 H (H.push o) :=
 ⟨by simp, fun g hg => ⟨Nat.le_refl _, fun _ => by rw [Heap.get_push, if_neg (by omega)]⟩⟩
theorem zc2.set (H : Heap) (g:Nat) (o : AObj) : zc2 H (H.set g o) :=
 ⟨by simp, fun h hh => by
  have hgen : (H.set g o).gen h = if h = g then H.gen g + 1 else H.gen h := by
   have h1 : (H.set g o).w.get h = if h = g then some (H.gen g + 1) else H.w.get h := Trie.get_set ..
   by_cases e : h = g
   ·rw [if_pos e] at h1 ⊢
    unfold Heap.gen at h1 ⊢
    rw [h1]
   ·rw [if_neg e] at h1 ⊢
    unfold Heap.gen
    rw [h1]
  rw [hgen]
  by_cases e : h = g
  ·subst e
   rw [if_pos rfl]
   exact ⟨by omega, fun e => by omega⟩
  ·rw [if_neg e]
   exact ⟨Nat.le_refl _, fun _ => by rw [Heap.get_set, if_neg e]⟩⟩
theorem zc3 {f : Nat -> List AV -> Heap -> Option (List AV × Heap)} (hf : ∀ n l H l' H', f n l H = some (l', H') -> zc2 H H') {t : Ty} {v v' : AV} {H H' : Heap} (h : z1r f t v H = some (v', H')) : zc2 H H' := by
 unfold z1r at h
 split at h
 ·split at h
  ·obtain ⟨_, _, he⟩ := z57 h; cases he; exact zc2.refl _
  ·obtain ⟨_, _, he⟩ := z57 h; cases he; exact zc2.set _ _ _
  ·split at h
   ·rename_i h1
    split at h
    ·split at h
     ·obtain ⟨_, _, he⟩ := z57 h; cases he; exact (hf _ _ _ _ _ h1).trans (zc2.set _ _ _)
     ·cases h
    ·cases h
   ·cases h
  ·cases h
 ·cases h; exact zc2.refl _
theorem zc4 {f : List AV -> Heap -> Option (List AV × List AV × Heap)} (hf : ∀ l H d l' H', f l H = some (d, l', H') -> zc2 H H') : ∀ (n:Nat) (l : List AV) (H : Heap) (l' : List AV) (H' : Heap), z1s f n l H = some (l', H') -> zc2 H H' := by
 intro n
 induction n with
 | zero =>
  intro l H l' H' h
  cases l with
  | nil => simp only [z1s, Option.some.injEq, Prod.mk.injEq] at h; obtain ⟨_, rfl⟩ := h; exact zc2.refl _
  | cons => simp [z1s] at h
 | succ n ih =>
  intro l H l' H' h
  simp only [z1s] at h
  split at h
  ·rename_i h1
   split at h
   ·rename_i h2; cases h; exact (hf _ _ _ _ _ h1).trans (ih _ _ _ _ h2)
   ·cases h
  ·cases h
theorem zc5 : (t : Ty) -> ∀ (l : List AV) (H : Heap) (d l' : List AV) (H' : Heap), z1t t l H = some (d, l', H') -> zc2 H H'
 | .sl t, l, H, d, l', H', h => by
  cases l with
  | nil => simp [z1t] at h
  | cons v l =>
   simp only [z1t] at h
   obtain ⟨u, hu, he⟩ := z57 h
   cases he
   exact zc3 (zc4 (zc5 t)) hu
 | .pair a b, l, H, d, l', H', h => by
  simp only [z1t] at h
  split at h
  ·rename_i h1
   split at h
   ·rename_i h2; cases h; exact (zc5 a _ _ _ _ _ h1).trans (zc5 b _ _ _ _ _ h2)
   ·cases h
  ·cases h
 | .unit, l, H, d, l', H', h => by simp only [z1t, Option.some.injEq, Prod.mk.injEq] at h; obtain ⟨_, _, rfl⟩ := h; exact zc2.refl _
 | .bool, l, H, d, l', H', h => by cases l <;> simp [z1t] at h; obtain ⟨_, _, rfl⟩ := h; exact zc2.refl _
 | .int _, l, H, d, l', H', h => by cases l <;> simp [z1t] at h; obtain ⟨_, _, rfl⟩ := h; exact zc2.refl _
 | .byte, l, H, d, l', H', h => by cases l <;> simp [z1t] at h; obtain ⟨_, _, rfl⟩ := h; exact zc2.refl _
 | .str, l, H, d, l', H', h => by cases l <;> simp [z1t] at h; obtain ⟨_, _, rfl⟩ := h; exact zc2.refl _
theorem zc6 {g : Nat} {e : TypeId} {H H' : Heap} (h : settle P g e H = some H') : zc2 H H' := by
 unfold settle at h
 split at h
 ·cases h; exact zc2.refl _
 ·split at h
  ·split at h
   ·rename_i h1
    split at h
    ·split at h
     ·cases h; exact (zc4 (zc5 _) _ _ _ _ _ h1).trans (zc2.set _ _ _)
     ·cases h
    ·cases h
   ·cases h
  ·cases h
theorem zc7 {H H' : Heap} {t : TypeId} {r : Ref} {v : AV} (h : z0n P H t r v = some H') : zc2 H H' := by
 unfold z0n at h
 split at h
 ·split at h
  ·split at h
   ·split at h
    ·cases h; exact zc2.set _ _ _
    ·cases h
   ·cases h
  ·cases h
 ·cases h
theorem zc8 {H H' : Heap} {t : TypeId} {s x v : AV} (h : z1n P t s x H = some (v, H')) : zc2 H H' := by
 unfold z1n at h
 split at h
 ·cases h
 ·split at h
  ·split at h
   ·cases h
   ·split at h
    ·cases h
    ·split at h
     ·split at h
      ·obtain ⟨_, h⟩ := Option.ite_none_right_eq_some.mp h
       cases h; exact zc2.refl _
      ·cases h
     ·split at h
      ·split at h
       ·cases h; exact zc2.push _ _
       ·cases h
      ·split at h
       ·split at h
        ·split at h
         ·cases h; exact (zc2.set _ _ _).trans (zc2.push _ _)
         ·cases h
        ·cases h
       ·cases h
      ·cases h
  ·cases h
theorem zc9 {H H' : Heap} {s d : TypeId} {x v : AV} (h : z12 P s d x H = some (v, H')) : zc2 H H' := by
 unfold z12 at h
 split at h
 ·cases h; exact zc2.refl _
 ·cases h; exact zc2.refl _
 ·split at h
  ·cases h; exact zc2.push _ _
  ·cases h
 ·split at h
  ·split at h
   ·obtain ⟨_, _, he⟩ := map_some h; cases he; exact zc2.refl _
   ·cases h
  ·cases h
 ·split at h
  ·cases h; exact zc2.refl _
  ·cases h
 ·split at h
  ·split at h
   ·split at h
    ·cases h; exact zc2.set _ _ _
    ·cases h
   ·cases h
  ·cases h
 ·cases h
theorem zca {H H' : Heap} {t : TypeId} {l c v : AV} (h : z1p P t l c H = some (v, H')) : zc2 H H' := by
 unfold z1p at h
 split at h
 ·split at h
  ·split at h
   ·split at h
    ·cases h; exact zc2.push _ _
    ·cases h; exact zc2.push _ _
   ·cases h
  ·cases h
 ·cases h
theorem zcb {H H' : Heap} {c : Call} {m : Tm} {v : AV} (h : z1y P c m H = some (.val v H')) : zc2 H H' := by
 unfold z1y at h
 split at h
 ·cases h
 ·split at h
  ·unfold z1x at h
   split at h
   ·obtain ⟨_, _, he⟩ := map_some h; cases he; exact zc2.refl _
   ·obtain ⟨_, _, he⟩ := map_some h; cases he; exact zc2.refl _
   ·obtain ⟨_, _, he⟩ := map_some h; cases he; exact zc2.refl _
   ·split at h
    ·obtain ⟨⟨_, _⟩, h1, he⟩ := map_some h; cases he; exact zc8 h1
    ·cases h
   ·cases h
  ·split at h
   ·split at h
    ·split at h <;> cases h
    ·cases h
   ·cases h
  ·cases h
theorem zcc {H H' : Heap} {o : Op} {m : Tm} {v : AV} (h : opA P o m H = some (.val v H')) : zc2 H H' := by
 cases he : z27 P o with
 | false =>
  obtain ⟨v', hv, _⟩ := z7a (H' := H) he h fun _ _ => rfl
  cases hv
  exact zc2.refl _
 | true =>
  cases o <;> simp only [z27] at he <;> try (first | (cases he; done))
  case alloc t =>
   simp only [opA] at h
   split at h
   ·split at h
    ·cases h; exact zc2.push _ _
    ·cases h
   ·cases h
  case box t x =>
   simp only [opA] at h
   split at h
   ·split at h
    ·cases h; exact zc2.push _ _
    ·cases h
   ·cases h
  case buildSlice t n ps =>
   simp only [opA] at h
   split at h
   ·split at h
    ·split at h
     ·split at h
      ·split at h
       ·obtain ⟨_, h1, he⟩ := z57 h; cases he; exact (zc2.push _ _).trans (zc6 h1)
       ·cases h
      ·cases h
     ·cases h
    ·cases h
   ·cases h
  case store t x y =>
   simp only [opA] at h
   split at h
   ·obtain ⟨_, h1, he⟩ := map_some h; cases he; exact zc7 h1
   ·cases h
  case convert s d x =>
   simp only [opA] at h
   split at h
   ·obtain ⟨⟨_, _⟩, h1, he⟩ := map_some h; cases he; exact zc9 h1
   ·cases h
  case makeSlice t l c =>
   simp only [opA] at h
   split at h
   ·obtain ⟨⟨_, _⟩, h1, he⟩ := map_some h; cases he; exact zca h1
   ·cases h
  case call c => simp only [opA] at h; exact zcb h
def zcd (cl : z20) : Prop := ∀ f args H v H', cl f args H = some (v, H') -> zc2 H H'
theorem zce {cl : z20} (hL : zcd cl) {ops : Array Oper} {o : Oper} {m m' : Tm} {H H' : Heap} (h : z22 P cl ops o m H = some (m', H')) : zc2 H H' := by
 unfold z22 at h
 split at h
 ·cases h
 ·obtain ⟨_, _, he⟩ := map_some h; cases he; exact zc2.refl _
 ·split at h
  ·cases h
  ·rename_i hop; obtain ⟨_, _, he⟩ := map_some h; cases he; exact zcc hop
  ·split at h
   ·cases h
   ·rename_i hc; obtain ⟨_, _, he⟩ := map_some h; cases he; exact hL _ _ _ _ _ hc
theorem zcf {cl : z20} (hL : zcd cl) {ops : Array Oper} : ∀ {l : List Oper} {m m' : Tm} {H H' : Heap}, opsA P cl ops l m H = some (m', H') -> zc2 H H'
 | [], m, m', H, H', h => by simp only [opsA] at h; cases h; exact zc2.refl _
 | o :: l, m, m', H, H', h => by
  simp only [opsA] at h
  split at h
  ·cases h
  ·rename_i hs
   unfold z26 at hs
   obtain ⟨⟨_, _⟩, h1, he⟩ := map_some hs
   cases he
   exact (zce hL h1).trans (zcf hL h)
theorem zcg {cl : z20} (hL : zcd cl) {ops : Array Oper} : ∀ {l : List Oper} {m m' : Tm} {H H' : Heap} {tr : List (Heap × Option Nat)}, z2d P cl ops l m H = some (m', H', tr) -> zc2 H H'
 | [], m, m', H, H', tr, h => by simp only [z2d] at h; cases h; exact zc2.refl _
 | o :: l, m, m', H, H', tr, h => by
  simp only [z2d] at h
  split at h
  ·cases h
  ·rename_i hs
   split at h
   ·cases h
   ·rename_i ht
    cases h
    exact (zce hL hs).trans (zcg hL ht)
theorem zch {cl : z20} (hL : zcd cl) : ∀ (n:Nat) (c : Code) {m m' : Tm} {H H' : Heap} {o : Out}, execA P cl n c m H = some (o, m', H') -> zc2 H H'
 | 0, c, m, m', H, H', o, h => by simp only [execA] at h; cases h
 | n + 1, c, m, m', H, H', o, h => by
  cases c with
  | skip => simp only [execA] at h; cases h; exact zc2.refl _
  | label l => simp only [execA] at h; cases h; exact zc2.refl _
  | exit id => simp only [execA] at h; cases h; exact zc2.refl _
  | ret => simp only [execA] at h; cases h; exact zc2.refl _
  | region id ops draw =>
   simp only [execA] at h
   obtain ⟨⟨m1, H1⟩, h1, he⟩ := map_some h
   cases he
   cases draw with
   | true =>
    rw [if_pos rfl] at h1
    unfold drawA at h1
    split at h1
    ·split at h1
     ·cases h1
     ·rename_i ht
      split at h1
      ·cases h1; exact zcg hL ht
      ·cases h1
    ·cases h1
   | false => rw [if_neg (by simp)] at h1; exact zcf hL h1
  | seq a b =>
   simp only [execA] at h
   split at h
   ·rename_i h1; exact (zch hL n a h1).trans (zch hL n b h)
   ·exact zch hL n a h
  | cond x a b =>
   simp only [execA] at h
   split at h
   ·exact zch hL n a h
   ·exact zch hL n b h
   ·cases h
  | block id b =>
   simp only [execA] at h
   split at h
   ·rename_i h1
    split at h
    ·cases h; exact zch hL n b h1
    ·cases h; exact zch hL n b h1
   ·exact zch hL n b h
  | loop b =>
   simp only [execA] at h
   split at h
   ·rename_i h1; exact (zch hL n b h1).trans (zch hL n (.loop b) h)
   ·exact zch hL n b h
  | _ => simp only [execA] at h; cases h
def zci (tr : List zbh) (Hl : Heap) : Prop := ∀ j Hj rd, tr[j]? = some (Hj, rd) -> zc2 Hj (zbj tr Hl j)
theorem zcj {S : zag} {cl : z20} (hcl : ClS S cl) (hL : zcd cl) {ops : Array Oper} : ∀ {l : List Oper} {m : Tm} {H : Heap} {kn : Kn} (_ : KnOk kn m) {k : Tm -> Heap -> List zbh -> Prop}, zbi P S ops l m H kn k ->
  ∃ m' H' tr, z2d P cl ops l m H = some (m', H', tr) ∧ zci tr H' ∧ k m' H' tr ∧ ((tr[0]?).map (·.1) = some H ∨ (tr = [] ∧ H' = H))
 | [], m, H, kn, _, k, h => ⟨m, H, [], rfl, fun j Hj rd h => by simp at h, h, .inr ⟨rfl, rfl⟩⟩
 | o :: l, m, H, kn, hkn, k, h => by
  obtain ⟨m1, H1, kn1, h1, hkn1, h⟩ := zbx hcl hkn h
  obtain ⟨m2, H2, tr, h2, hv, hk, h0⟩ := zcj hcl hL hkn1 h
  refine ⟨m2, H2, _, by simp only [z2d, h1, h2], fun j Hj rd hj => ?_, hk, .inl rfl⟩
  cases j with
  | zero =>
   simp only [List.getElem?_cons_zero, Option.some.injEq, Prod.mk.injEq] at hj
   obtain ⟨rfl, rfl⟩ := hj
   have := zce hL h1
   unfold zbj
   simp only [Nat.zero_add, List.getElem?_cons_succ]
   rcases h0 with h0 | ⟨rfl, rfl⟩
   ·cases hq : tr[0]? with
    | none => rw [hq] at h0; cases h0
    | some e =>
     rw [hq] at h0
     simp only [Option.map_some, Option.some.injEq] at h0
     subst h0
     exact this
   ·simpa using this
  | succ j =>
   simp only [List.getElem?_cons_succ] at hj
   have := hv j Hj rd hj
   unfold zbj at this ⊢
   simpa using this
theorem zck {ops : Array Oper} {b : Array Nat} {tr : List zbh} {Hl : Heap} (hv : zci tr Hl) {j i : Nat} {p : Prop} (h : zbl ops b tr Hl j i p) :
  p ∧ ∀ g Hi Hj rj, (b.getD j 0).testBit i = false -> (b.getD i 0).testBit j = false -> tr[i]? = some (Hi, some g) -> tr[j]? = some (Hj, rj) -> Hj.get g = (zbj tr Hl j).get g := by
 unfold zbl at h
 split at h
 ·rename_i hb
  refine ⟨h, fun g Hi Hj rj h1 h2 => ?_⟩
  rw [h1, h2] at hb
  cases hb
 ·split at h
  ·rename_i g Hj rj hi hj
   split at h
   ·rename_i hc
    refine ⟨h, fun g' Hi' Hj' rj' _ _ h3 h4 => ?_⟩
    rw [hi] at h3; rw [hj] at h4
    cases h3; cases h4
    simp only [Bool.and_eq_true] at hc
    exact ((hv j _ _ hj).2 _ (Nat.blt_eq.mp hc.2)).2 (Nat.eq_of_beq_eq_true hc.1).symm |>.symm
   ·refine ⟨h.2, fun g' Hi' Hj' rj' _ _ h3 h4 => ?_⟩
    rw [hi] at h3; rw [hj] at h4
    cases h3; cases h4
    exact h.1
  ·rename_i h5
   exact ⟨h, fun g' Hi' Hj' rj' _ _ h3 h4 => (h5 _ _ _ _ h3 h4).elim⟩
theorem zcl {ops : Array Oper} {b : Array Nat} {tr : List zbh} {Hl : Heap} (hv : zci tr Hl) {j : Nat} : ∀ {l : List Nat} {p : Prop}, zbm ops b tr Hl j l p ->
  p ∧ ∀ i, i ∈ l -> zbk ops i = true -> ∀ g Hi Hj rj, (b.getD j 0).testBit i = false -> (b.getD i 0).testBit j = false -> tr[i]? = some (Hi, some g) -> tr[j]? = some (Hj, rj) -> Hj.get g = (zbj tr Hl j).get g
 | [], p, h => ⟨h, fun i hi => by cases hi⟩
 | i :: l, p, h => by
  simp only [zbm] at h
  split at h
  ·obtain ⟨h, h1⟩ := zck hv h
   obtain ⟨h, h2⟩ := zcl hv h
   refine ⟨h, fun i' hi => ?_⟩
   rcases List.mem_cons.1 hi with rfl | hi
   ·exact fun _ => h1
   ·exact h2 i' hi
  ·rename_i hn
   obtain ⟨h, h2⟩ := zcl hv h
   refine ⟨h, fun i' hi => ?_⟩
   rcases List.mem_cons.1 hi with rfl | hi
   ·intro hr; rw [hn] at hr; cases hr
   ·exact h2 i' hi
theorem zcm {ops : Array Oper} {b : Array Nat} {tr : List zbh} {Hl : Heap} (hv : zci tr Hl) : ∀ {l : List Nat} {p : Prop}, zbn P ops b tr Hl l p ->
  p ∧ ∀ j, j ∈ l -> ∀ y, ops[j]? = some y -> z27 P y.op = true -> ∀ i, i < ops.size -> zbk ops i = true -> ∀ g Hi Hj rj, (b.getD j 0).testBit i = false -> (b.getD i 0).testBit j = false -> tr[i]? = some (Hi, some g) -> tr[j]? = some (Hj, rj) -> Hj.get g = (zbj tr Hl j).get g
 | [], p, h => ⟨h, fun i hi => by cases hi⟩
 | j :: l, p, h => by
  unfold zbn at h
  split at h
  ·rename_i y hy
   split at h
   ·obtain ⟨h, h1⟩ := zcl hv h
    obtain ⟨h, h2⟩ := zcm hv h
    refine ⟨h, fun j' hj => ?_⟩
    rcases List.mem_cons.1 hj with rfl | hj
    ·exact fun y' _ _ i hi => h1 i (List.mem_range.2 hi)
    ·exact h2 j' hj
   ·rename_i he
    obtain ⟨h, h2⟩ := zcm hv h
    refine ⟨h, fun j' hj => ?_⟩
    rcases List.mem_cons.1 hj with rfl | hj
    ·intro y' hy' he'
     rw [hy] at hy'
     cases hy'
     rw [he] at he'
     cases he'
    ·exact h2 j' hj
  ·rename_i hn
   obtain ⟨h, h2⟩ := zcm hv h
   refine ⟨h, fun j' hj => ?_⟩
   rcases List.mem_cons.1 hj with rfl | hj
   ·intro y' hy'
    rw [hn] at hy'
    cases hy'
   ·exact h2 j' hj
theorem zcn {cl : z20} {ops : Array Oper} : ∀ {l : List Oper} {m m' : Tm} {H H' : Heap} {tr : List (Heap × Option Nat)}, z2d P cl ops l m H = some (m', H', tr) -> ∀ (i:Nat) (o : Oper) (Hi : Heap) (g:Nat), l[i]? = some o -> tr[i]? = some (Hi, some g) -> ∃ mi, z28 o.op mi = some g
 | [], m, m', H, H', tr, h, i, o, Hi, g, hi, ht => by simp at hi
 | o :: l, m, m', H, H', tr, h, i, o', Hi, g, hi, ht => by
  simp only [z2d] at h
  split at h
  ·cases h
  ·split at h
   ·cases h
   ·rename_i h2
    simp only [Option.some.injEq, Prod.mk.injEq] at h
    obtain ⟨rfl, rfl, rfl⟩ := h
    cases i with
    | zero =>
     simp only [List.getElem?_cons_zero, Option.some.injEq, Prod.mk.injEq] at hi ht
     subst hi
     exact ⟨m, ht.2⟩
    | succ i =>
     simp only [List.getElem?_cons_succ] at hi ht
     exact zcn h2 i o' Hi g hi ht
theorem zco {D : zag} {cl : z20} (hcl : ClS D cl) (hL : zcd cl) {ops : Array Oper} (hd : z2c P ops (Region.before ops) = true) {m : Tm} {H : Heap} {k : Tm -> Heap -> Prop} (h : zbo P D ops m H k) : ∃ m' H', drawA P cl ops m H = some (m', H') ∧ k m' H' := by
 unfold zbo at h
 obtain ⟨m', H', tr, ht, hv, h, _⟩ := zcj hcl hL (fun d b hd => by simp only [knows?] at hd; cases hd) h
 obtain ⟨hk, hr⟩ := zcm hv h
 refine ⟨m', H', ?_, hk⟩
 unfold drawA
 rw [if_pos hd, ht]
 simp only
 rw [if_pos]
 intro i j g x y Hi Hj hi hj he h1 h2 h3 h4
 have hji : j < ops.size := (Array.getElem?_eq_some_iff.mp hj).1
 have hii : i < ops.size := (Array.getElem?_eq_some_iff.mp hi).1
 have hread : zbk ops i = true := by
  obtain ⟨mi, hm⟩ := zcn ht i x Hi g (by simpa using hi) h3
  unfold zbk
  rw [hi]
  unfold z28 at hm
  split at hm
  ·rename_i ho; simp only [ho]
  ·rename_i ho; simp only [ho]
  ·cases hm
 cases htj : tr[j]? with
 | none => rw [htj] at h4; cases h4
 | some ej =>
  obtain ⟨aj, bj⟩ := ej
  rw [htj] at h4
  simp only [Option.map_some, Option.some.injEq] at h4
  subst h4
  have := hr j (List.mem_range.2 hji) y hj he i hii hread g _ _ _ h1 h2 h3 htj
  rw [this]
  unfold zbj
  cases tr[j + 1]? with
  | none => rfl
  | some e => rfl
theorem zcp {ops : Array Oper} (h : z2c P ops (Region.before ops) = true) : z2b P ops (Region.before ops) = true := by
 unfold z2c at h
 simp only [Bool.and_eq_true] at h
 exact h.2
theorem zcq {S : zag} {cl : z20} (hcl : ClS S cl) (hL : zcd cl) : ∀ (n:Nat) (c : Code) (_ : zbq P c = true) {m : Tm} {H : Heap} {k : Out -> Tm -> Heap -> Prop}, zbt P S S (fun _ _ _ _ => none) n c m H k -> ∃ o m' H', execA P cl n c m H = some (o, m', H') ∧ k o m' H'
 | 0, c, _, m, H, k, h => by simp only [zbt] at h
 | n + 1, c, hC, m, H, k, h => by
  cases c with
  | skip => simp only [zbt] at h; exact ⟨_, _, _, rfl, h⟩
  | label l => simp only [zbt] at h; exact ⟨_, _, _, rfl, h⟩
  | exit id => simp only [zbt] at h; exact ⟨_, _, _, rfl, h⟩
  | ret => simp only [zbt] at h; exact ⟨_, _, _, rfl, h⟩
  | region id ops draw =>
   cases draw with
   | true =>
    simp only [zbt] at h
    have hC : z2c P ops (Region.before ops) = true := by simpa only [zbq] using hC
    obtain ⟨m', H', h1, hk⟩ := zco hcl hL hC (zbp h ops (by rw [z8e (zcp hC)]; simp))
    exact ⟨_, _, _, by simp only [execA, if_true, h1, Option.map_some], hk⟩
   | false =>
    simp only [zbt] at h
    obtain ⟨m', H', h1, hk⟩ := zc1 hcl h
    exact ⟨_, _, _, by simp only [execA, Bool.false_eq_true, if_false, h1, Option.map_some], hk⟩
  | seq a b =>
   simp only [zbq, Bool.and_eq_true] at hC
   simp only [zbt] at h
   obtain ⟨o, m1, H1, h1, h⟩ := zcq hcl hL n a hC.1 h
   cases o with
   | norm =>
    obtain ⟨o2, m2, H2, h2, hk⟩ := zcq hcl hL n b hC.2 h
    exact ⟨_, _, _, by simp only [execA, h1, h2], hk⟩
   | exit id => exact ⟨_, _, _, by simp only [execA, h1], h⟩
   | ret => exact ⟨_, _, _, by simp only [execA, h1], h⟩
  | cond x a b =>
   simp only [zbq, Bool.and_eq_true] at hC
   simp only [zbt] at h
   split at h
   ·rename_i t y hx
    rcases z8r h with ⟨rfl, h'⟩ | ⟨rfl, h'⟩
    ·obtain ⟨o, m1, H1, h1, hk⟩ := zcq hcl hL n a hC.1 (zb9 h')
     exact ⟨_, _, _, by simp only [execA, hx, h1], hk⟩
    ·obtain ⟨o, m1, H1, h1, hk⟩ := zcq hcl hL n b hC.2 (zb9 h')
     exact ⟨_, _, _, by simp only [execA, hx, h1], hk⟩
   ·exact h.elim
  | block id b =>
   have hb : zbq P b = true := by simpa only [zbq] using hC
   simp only [zbt] at h
   obtain ⟨o, m1, H1, h1, h⟩ := zcq hcl hL n b hb h
   cases o with
   | norm => exact ⟨_, _, _, by simp only [execA, h1], h⟩
   | ret => exact ⟨_, _, _, by simp only [execA, h1], h⟩
   | exit id' =>
    simp only at h
    split at h
    ·rename_i hb
     exact ⟨_, _, _, by simp only [execA, h1, if_pos (Nat.eq_of_beq_eq_true hb)], h⟩
    ·rename_i hb
     exact ⟨_, _, _, by simp only [execA, h1, if_neg (Nat.ne_of_beq_eq_false hb)], h⟩
  | loop b =>
   have hb : zbq P b = true := by simpa only [zbq] using hC
   simp only [zbt] at h
   obtain ⟨o, m1, H1, h1, h⟩ := zcq hcl hL n b hb h
   cases o with
   | norm =>
    obtain ⟨o2, m2, H2, h2, hk⟩ := zcq hcl hL n (.loop b) hC h
    exact ⟨_, _, _, by simp only [execA, h1, h2], hk⟩
   | exit id => exact ⟨_, _, _, by simp only [execA, h1], h⟩
   | ret => exact ⟨_, _, _, by simp only [execA, h1], h⟩
  | _ => simp only [zbt] at h
theorem zcr (hP : zbs P = true) {f : FuncId} {fn : Func} {c : Code} (hf : P.funcs[f]? = some fn) (hc : fn.body = some c) : zbr P c = true := by
 unfold zbs at hP
 have := Array.all_eq_true'.mp hP fn (Array.mem_of_getElem? hf)
 simpa only [fnOk, hc] using this
end sound
end Go.Vx
end
section
namespace Go.Vx
section good
variable {P : Program}
structure zcs where
 β : At
 H : Heap
 w : World
 fresh : ∀ g o, H.get g = some o -> g < H.n
def zcs.le (S : zcs) (β : At) (H : Heap) (w : World) : Prop := Le S.β S.H S.w β H w
def zct (S : zcs) (d : Act) (k : Out -> Tm -> Heap -> Prop) (Q : Exit -> Act -> World -> Prop) : Prop :=
 ∀ o m' H', k o m' H' -> ∀ β' a' w', Rel β' H' w' -> S.le β' H' w' -> TRel H'.n β' m' a'.tmps -> a'.defers = d.defers -> Q o.ex a' w'
def Good (P : Program) (S : zcs) (c : Code) (m : Tm) (H : Heap) (k : Out -> Tm -> Heap -> Prop) : Prop :=
 ∀ (a : Act) (β : At) (w : World), Rel β H w -> S.le β H w -> TRel H.n β m a.tmps -> ∀ Q : Exit -> Act -> World -> Prop, zct S a k Q -> c.wp P Q a w
def zcu (P : Program) (f : FuncId) (args : List AV) (H : Heap) (k : AV -> Heap -> Prop) : Prop :=
 ∀ (β : At) (w : World) (cargs : Array Value), Rel β H w -> z2i H.n β args cargs.toList ->
  Calls P f cargs w fun e w' => ∃ v H', k v H' ∧ ∃ β' c, e = .returned c ∧ Rel β' H' w' ∧ Le β H w β' H' w' ∧ VRel H'.n β' v c
def SOk (P : Program) (S : zag) : Prop := ∀ f args H k, S f args H k -> zcu P f args H k
theorem SOk.of_cl {S : zag} {cl : z20} (hcl : ClS S cl) (hc : z6t P cl) : SOk P S := fun f args H k h β w cargs hR ha => by
 obtain ⟨v, H', h1, hk⟩ := hcl f args H k h
 refine (hc f args H v H' h1 β w cargs hR ha).mono ?_
 rintro e w' ⟨β', c, he, hR', hLe, hv⟩
 exact ⟨v, H', hk, β', c, he, hR', hLe, hv⟩
theorem zcv {S : zag} (hS : SOk P S) {ops : Array Oper} {o : Oper} {m : Tm} {H : Heap} {k : Tm -> Heap -> Prop} (h : zbg P S ops o m H k) {a : Act} {β : At} {w : World} (hR : Rel β H w) (hT : TRel H.n β m a.tmps)
  {Q : Exit -> Act -> World -> Prop} {K : Act -> World -> Prop}
  (hK : ∀ m' H', k m' H' -> ∀ β' a' w', Rel β' H' w' -> Le β H w β' H' w' -> TRel H'.n β' m' a'.tmps -> a'.defers = a.defers -> K a' w') :
  if Region.wanted o (yielded ops a.tmps) = true then o.wp P a w K Q ∨ (o.asks P a w ∧ LetsOut Q) else K (a.put o.dst undef) w := by
 unfold zbg at h
 obtain ⟨cool, hc, ⟨hg, h⟩ | ⟨hg, h⟩⟩ := zby h
 ·rw [z6u hT hg]
  simp only [if_true]
  refine .inl ?_
  have hval : ∀ v H', opA P o.op m H = some (.val v H') -> ∀ m', m.dst o.dst v = some m' -> k (z25 o m (z24 ops o m m')) H' -> o.wp P a w K Q := by
   intro v H' hop m' hm hk
   obtain ⟨β', w', hR', hLe, hf⟩ : Fits P o a β H w v H' := z6s hR hT hop
   have hT' := hT.mono hLe.n hLe.keeps
   unfold Oper.wp
   rcases hf with ⟨c, hrun, hv⟩ | ⟨hrun, rfl⟩
   ·rw [hrun, Oper.upon_value]
    exact hK _ _ hk β' _ w' hR' hLe (z71 hm (hT'.dst hv hm)) (z6v _ _ _)
   ·rw [hrun, Oper.upon_skip]
    exact hK _ _ hk β' _ w' hR' hLe (z71 hm (hT'.dst (.tup _ _ .nil) hm)) (z6v _ _ _)
  split at h
  ·rename_i c x y ho
   split at h
   ·rename_i t b hx
    rcases z8r h with ⟨rfl, h'⟩ | ⟨rfl, h'⟩
    ·obtain ⟨v, hv, h'⟩ := z8s h'
     obtain ⟨m', hm, h'⟩ := zb5 h'
     have hk := zb7 (hc _ _ h')
     have hx' : opnd m (.tmp c) = some (.bool t true) := hx
     refine hval v H (by simp only [ho, opA, hx', hv, Option.map_some]) m' hm ?_
     simp only [z25, ho, hx]
     exact hk
    ·obtain ⟨v, hv, h'⟩ := z8s h'
     obtain ⟨m', hm, h'⟩ := zb5 h'
     have hk := zb7 (hc _ _ h')
     have hx' : opnd m (.tmp c) = some (.bool t false) := hx
     refine hval v H (by simp only [ho, opA, hx', hv, Option.map_some]) m' hm ?_
     simp only [z25, ho, hx]
     exact hk
   ·exact h.elim
  ·exact h.elim
  ·rename_i hno1 hno2
   have hno : ∀ c a b, o.op ≠ .pick c a b := fun c a b e => hno2 c a b e
   obtain ⟨g, hg', h⟩ := zaf h
   cases g with
   | val v H' =>
    obtain ⟨m', hm, h⟩ := zb5 (zbb h)
    refine hval v H' hg' m' hm ?_
    rw [zbz hno]
    exact hc _ _ h
   | enter f args =>
    obtain ⟨cargs, hrun, hv⟩ : ∃ cargs : Array Value, (execOp a.eval o).run P w = .ok (.enter f cargs) w ∧ z2i H.n β args cargs.toList := z6s hR hT hg'
    unfold Oper.wp
    rw [hrun, Oper.upon_enter]
    refine (hS f args H _ (zav h) β w cargs hR hv).mono ?_
    rintro e w' ⟨v, H', h, β', c, rfl, hR', hLe, hv'⟩
    obtain ⟨m', hm, h⟩ := zb5 (zb3 h)
    have hk := hc _ _ h
    have := z71 (ops := ops) hm ((hT.mono hLe.n hLe.keeps).dst hv' hm)
    rw [zbz hno] at this
    exact hK _ _ hk β' _ w' hR' hLe this (z6v _ _ _)
 ·rw [z6u hT hg]
  simp only [Bool.false_eq_true, if_false]
  split at h
  ·rename_i c x y ho
   split at h
   ·rename_i hx
    obtain ⟨m', hm, h⟩ := zb5 h
    have hk := hc _ _ h
    have := z71 (ops := ops) hm (hT.dst (c := undef) (.tup _ _ .nil) hm)
    simp only [z25, ho, hx] at this
    exact hK _ _ hk β _ w hR (Le.refl _ _ _) this (z6v _ _ _)
   ·exact h.elim
  ·exact h.elim
  ·rename_i hno1 hno
   obtain ⟨m', hm, h⟩ := zb5 h
   have hk := hc _ _ h
   have := z71 (ops := ops) hm (hT.dst (c := undef) (.tup _ _ .nil) hm)
   rw [zbz (fun c a b e => hno c a b e)] at this
   exact hK _ _ hk β _ w hR (Le.refl _ _ _) this (z6v _ _ _)
theorem zcw {S : zag} (hS : SOk P S) {ops : Array Oper} {Q : Exit -> Act -> World -> Prop} : ∀ {l : List Oper} {m : Tm} {H : Heap} {k : Tm -> Heap -> Prop}, opsS P S ops l m H k -> ∀ {a : Act} {β : At} {w : World}, Rel β H w -> TRel H.n β m a.tmps ->
  (∀ m' H', k m' H' -> ∀ β' a' w', Rel β' H' w' -> Le β H w β' H' w' -> TRel H'.n β' m' a'.tmps -> a'.defers = a.defers -> Q .normal a' w') -> wpList P ops Q l a w
 | [], m, H, k, h, a, β, w, hR, hT, hQ => hQ m H h β a w hR (Le.refl _ _ _) hT rfl
 | o :: l, m, H, k, h, a, β, w, hR, hT, hQ => by
  unfold wpList
  refine zcv hS h hR hT fun m' H' hk β' a' w' hR' hLe hT' hd => ?_
  exact zcw hS hk hR' hT' fun m2 H2 hk2 β2 a2 w2 hR2 hLe2 hT2 hd2 => hQ m2 H2 hk2 β2 a2 w2 hR2 (hLe.trans hLe2) hT2 (hd2.trans hd)
def zcx (P : Program) (c : Code) (Q : Exit -> Act -> World -> Prop) (a : Act) (w : World) : Prop :=
 ∀ (b : Frame) k cs, ∃ e a' w', Q e a' w' ∧ Arrives P (lone (b.at a (.code c :: .inLoop c :: k)) cs w) b k cs e a' w'
theorem zcy {c : Code} {Q : Exit -> Act -> World -> Prop} {a : Act} {w : World} (h : c.wp P (Exit.then (zcx P c Q) Q) a w) : zcx P c Q a w := by
 intro b k cs
 obtain ⟨e, a₁, w₁, hq, harr⟩ := h b (.inLoop c :: k) cs
 cases e with
 | normal =>
  obtain ⟨e₂, a₂, w₂, hq₂, harr₂⟩ := hq b k cs
  exact ⟨e₂, a₂, w₂, hq₂, .of_steps (Steps.trans harr (.one step_inLoop)) harr₂⟩
 | exit id => exact ⟨_, a₁, w₁, hq, .pass (x := .inLoop c) rfl (fun _ _ => .inl (by simp)) harr⟩
 | goto l => exact ⟨_, a₁, w₁, hq, .pass (x := .inLoop c) rfl (fun _ _ => .inl (by simp)) harr⟩
 | ret => exact ⟨_, a₁, w₁, hq, .pass (x := .inLoop c) rfl (fun _ _ => .inl (by simp)) harr⟩
 | panic ch => exact ⟨_, a₁, w₁, hq, .pass (x := .inLoop c) rfl (fun _ _ => .inl (by simp)) harr⟩
 | outgrown => exact ⟨_, a₁, w₁, hq, .pass (x := .inLoop c) rfl (fun _ _ => .inl (by simp)) harr⟩
theorem zcz {c : Code} {Q : Exit -> Act -> World -> Prop} {a : Act} {w : World} (h : zcx P c Q a w) : (Code.loop c).wp P Q a w := by
 intro b k cs
 obtain ⟨e, a', w', hq, harr⟩ := h b k cs
 exact ⟨e, a', w', hq, .of_steps (.one step_loop) harr⟩
def zd0 (P : Program) (S : zcs) (c : Code) (m : Tm) (H : Heap) (k : Out -> Tm -> Heap -> Prop) : Prop :=
 ∀ (a : Act) (β : At) (w : World), Rel β H w -> S.le β H w -> TRel H.n β m a.tmps -> ∀ Q : Exit -> Act -> World -> Prop, zct S a k Q -> zcx P c Q a w
def zd1 : Code -> List Code
 | .seq a b => zd1 a ++ zd1 b
 | .cond _ a b => zd1 a ++ zd1 b
 | .block _ b => zd1 b
 | .loop b => b :: zd1 b
 | _ => []
def zd2 (P : Program) (K:Nat) (LS : List Code) (L : zah) : Prop := ∀ S : zcs, S.H.n = K -> ∀ b, b ∈ LS -> ∀ m H k p, L b m H k = some p -> p -> zd0 P S b m H k
theorem zct.defers {S : zcs} {d d' : Act} {k : Out -> Tm -> Heap -> Prop} {Q : Exit -> Act -> World -> Prop} (h : zct S d k Q) (hd : d'.defers = d.defers) : zct S d' k Q :=
 fun o m' H' hk β' a' w' h1 h2 h3 h4 => h o m' H' hk β' a' w' h1 h2 h3 (h4.trans hd)
theorem zd3 (hm : P.follows .mixedOrders = true) {S D : zag} {L : zah} {cl : z20} {K : Nat} {LS : List Code} (hS : SOk P S) (hD : ClS D cl) (hcl : z6t P cl) (hl : zcd cl) (hL : zd2 P K LS L) {S0 : zcs} (hK : S0.H.n = K) : ∀ (n:Nat),
  (∀ (c : Code) (_ : zbr P c = true) (_ : ∀ b, b ∈ zd1 c -> b ∈ LS) {m : Tm} {H : Heap} {k : Out -> Tm -> Heap -> Prop}, zbt P S D L n c m H k -> Good P S0 c m H k) ∧
  (∀ (b : Code) (_ : zbr P b = true) (_ : ∀ b', b' ∈ zd1 (.loop b) -> b' ∈ LS) {m : Tm} {H : Heap} {k : Out -> Tm -> Heap -> Prop}, zbt P S D L n (.loop b) m H k -> zd0 P S0 b m H k)
 | 0 => by
  constructor
  ·intro c _ _ m H k h; simp only [zbt] at h
  ·intro c _ _ m H k h; simp only [zbt] at h
 | n + 1 => by
  obtain ⟨ih, ihl⟩ := zd3 hm hS hD hcl hl hL hK n
  have hloop : ∀ (b : Code) (_ : zbr P b = true) (_ : ∀ b', b' ∈ zd1 (.loop b) -> b' ∈ LS) {m : Tm} {H : Heap} {k : Out -> Tm -> Heap -> Prop}, zbt P S D L (n + 1) (.loop b) m H k -> zd0 P S0 b m H k := by
   intro b hC hls m H k h
   simp only [zbt] at h
   split at h
   ·rename_i p hp
    exact hL S0 hK b (hls b (by simp [zd1])) m H k p hp h
   ·intro a β w hR hS0 hT Q hQ
    refine zcy (ih b hC (fun b' hb' => hls b' (by simp [zd1, hb'])) h a β w hR hS0 hT _ fun o m' H' hk β' a' w' hR' hS' hT' hd' => ?_)
    cases o with
    | norm => exact ihl b hC hls hk a' β' w' hR' hS' hT' Q (hQ.defers hd')
    | exit id => exact hQ _ m' H' hk β' a' w' hR' hS' hT' hd'
    | ret => exact hQ _ m' H' hk β' a' w' hR' hS' hT' hd'
  refine ⟨fun c hC hls => ?_, hloop⟩
  intro m H k h a β w hR hS0 hT Q hQ
  cases c with
  | skip => simp only [zbt] at h; exact wp_skip (hQ _ m H h β a w hR hS0 hT rfl)
  | label l => simp only [zbt] at h; exact wp_label (hQ _ m H h β a w hR hS0 hT rfl)
  | exit id => simp only [zbt] at h; exact wp_exit (hQ _ m H h β a w hR hS0 hT rfl)
  | ret => simp only [zbt] at h; exact wp_ret (hQ _ m H h β a w hR hS0 hT rfl)
  | region id ops draw =>
   cases draw with
   | true =>
    simp only [zbt] at h
    refine z89 hm (z8f 4 ops fun v hv => Runs.of_any ?_)
    have hCv : z2c P v (Region.before v) = true := by
     simp only [zbr, List.all_eq_true] at hC
     exact hC v hv
    obtain ⟨m', H', h1, hk⟩ := zco hD hl hCv (zbp h v hv)
    exact z7w hcl h1 hR hT fun β' a' w' hR' hLe hT' hd' => hQ _ m' H' hk β' a' w' hR' (hS0.trans hLe) hT' hd'
   | false =>
    simp only [zbt] at h
    exact wp_region_list (zcw hS h hR hT fun m' H' hk β' a' w' hR' hLe hT' hd' => hQ _ m' H' hk β' a' w' hR' (hS0.trans hLe) hT' hd')
  | seq x y =>
   simp only [zbr, Bool.and_eq_true] at hC
   simp only [zbt] at h
   refine wp_seq (ih x hC.1 (fun b hb => hls b (by simp [zd1, hb])) h a β w hR hS0 hT _ fun o m' H' hk β' a' w' hR' hS' hT' hd' => ?_)
   cases o with
   | norm => exact ih y hC.2 (fun b hb => hls b (by simp [zd1, hb])) hk a' β' w' hR' hS' hT' Q (hQ.defers hd')
   | exit id => exact hQ _ m' H' hk β' a' w' hR' hS' hT' hd'
   | ret => exact hQ _ m' H' hk β' a' w' hR' hS' hT' hd'
  | cond x t f =>
   simp only [zbr, Bool.and_eq_true] at hC
   simp only [zbt] at h
   split at h
   ·rename_i u b hx
    rcases z8r h with ⟨rfl, h'⟩ | ⟨rfl, h'⟩
    ·exact wp_cond_true (z30 (z2s hT hx)) (ih t hC.1 (fun b hb => hls b (by simp [zd1, hb])) (zb9 h') a β w hR hS0 (hT.coolX hx) Q hQ)
    ·exact wp_cond_false (z30 (z2s hT hx)) (ih f hC.2 (fun b hb => hls b (by simp [zd1, hb])) (zb9 h') a β w hR hS0 (hT.coolX hx) Q hQ)
   ·exact h.elim
  | block id b =>
   have hb : zbr P b = true := by simpa only [zbr] using hC
   simp only [zbt] at h
   refine wp_block (ih b hb (fun b' hb' => hls b' (by simpa [zd1] using hb')) h a β w hR hS0 hT _ fun o m' H' hk β' a' w' hR' hS' hT' hd' => ?_)
   cases o with
   | norm => exact hQ _ m' H' hk β' a' w' hR' hS' hT' hd'
   | ret => exact hQ _ m' H' hk β' a' w' hR' hS' hT' hd'
   | exit id' =>
    simp only at hk
    show (if id' = id then Q .normal a' w' else Q (.exit id') a' w')
    split at hk
    ·rename_i he
     rw [if_pos (Nat.eq_of_beq_eq_true he)]
     exact hQ _ m' H' hk β' a' w' hR' hS' hT' hd'
    ·rename_i he
     rw [if_neg (Nat.ne_of_beq_eq_false he)]
     exact hQ _ m' H' hk β' a' w' hR' hS' hT' hd'
  | loop b =>
   have hb : zbr P b = true := by simpa only [zbr] using hC
   exact zcz (hloop b hb hls h a β w hR hS0 hT Q hQ)
  | _ => simp only [zbt] at h
theorem zd4 (hm : P.follows .mixedOrders = true) {S D : zag} {L : zah} {cl : z20} (hS : SOk P S) (hD : ClS D cl) (hcl : z6t P cl) (hl : zcd cl) {n : Nat} {f : FuncId} {fn : Func} {c : Code} (hf : P.funcs[f]? = some fn) (hb : fn.body = some c) (hC : zbr P c = true)
  {args : List AV} {H : Heap} (hL : zd2 P H.n (zd1 c) L) {k : AV -> Heap -> Prop} (h : zbu P S D L n fn c args H k) : zcu P f args H k := by
 intro β w cargs hR ha
 unfold zbu at h
 split at h
 ·exact h.elim
 ·rename_i hle
  refine calls_of_wp hf hb ?_
  refine (zd3 hm hS hD hcl hl hL (S0 := ⟨β, H, w, hR.fresh⟩) rfl n).1 c hC (fun _ h => h) h _ β w hR (Le.refl _ _ _) (z8m ha (Nat.le_of_ble_eq_true hle)) _ fun o m H' hk β' a' w' hR' hS' hT' hd' => ?_
  cases o with
  | norm =>
   obtain ⟨l, hr, hk⟩ := z8s hk
   obtain ⟨d, hd, hrd⟩ := z8k hR' hT' hr
   exact ⟨hd', d, hd, _, H', hk, β', d, rfl, hR', hS', hrd⟩
  | ret =>
   obtain ⟨l, hr, hk⟩ := z8s hk
   obtain ⟨d, hd, hrd⟩ := z8k hR' hT' hr
   exact ⟨hd', d, hd, _, H', hk, β', d, rfl, hR', hS', hrd⟩
  | exit id => exact hk.elim
end good
end Go.Vx
end
section
namespace Go.Vx
inductive VP where
 | bool
 | int (k : IntKind)
 | num (k : IntKind)
 | byte
 | str
 | vec (t : Ty)
 | lit (v : AV)
 | ptr (g e z o:Nat)
 | sl (g z:Nat)
 | part (g z:Nat)
 | nil
 | cat (a b : VP)
 | agg (l : VP)
 | tup (l : VP)
 | func (f : Fn) (a b : VP)
@[reducible] def VP.den : VP -> Type
 | .bool => Bool
 | .int _ => Int
 | .num _ => Int
 | .byte => UInt8
 | .str => List UInt8
 | .vec t => List t.den
 | .lit _ => Unit
 | .ptr _ _ _ _ => Unit
 | .sl _ _ => Unit
 | .part _ _ => Nat × Nat
 | .nil => Unit
 | .cat a b => a.den × b.den
 | .agg l => l.den
 | .tup l => l.den
 | .func _ a b => a.den × b.den
def encV : (p : VP) -> p.den -> (Nat -> Nat) -> List AV
 | .bool, b, _ => [.bool true b]
 | .int k, n, _ => [.int true k n]
 | .num k, n, _ => [.int false k n]
 | .byte, b, _ => [.int true .u8 (b.toNat:Int)]
 | .str, s, _ => [.str true s]
 | .vec t, l, _ => [.vec t l]
 | .lit v, _, _ => [v]
 | .ptr g e z o, _, _ => [.ptr false (some ⟨g, e, z, o⟩)]
 | .sl g z, _, len => [.slice true (some ⟨g, 0, z, 0⟩) (len g) z]
 | .part g z, x, _ => [.slice true (some ⟨g, x.1, z, 0⟩) x.2 z]
 | .nil, _, _ => []
 | .cat a b, x, len => encV a x.1 len ++ encV b x.2 len
 | .agg l, x, len => [.agg (encV l x len)]
 | .tup l, x, len => [.tup (encV l x len)]
 | .func f a b, x, len => [.func f (encV a x.1 len) (encV b x.2 len)]
inductive RP where
 | vec (t : Ty) (e : TypeId) (ro:Bool)
 | cells (p : VP) (e : TypeId) (ro:Bool)
 | dead
@[reducible] def RP.den : RP -> Type
 | .vec t _ _ => List t.den
 | .cells p _ _ => p.den
 | .dead => Unit
@[reducible] def rowsDen : List RP -> Type
 | [] => Unit
 | r :: rs => r.den × rowsDen rs
def RP.len : (r : RP) -> r.den -> Nat
 | .vec _ _ _, l => l.length
 | _, _ => 0
def lens : (rs : List RP) -> rowsDen rs -> Nat -> Nat
 | [], _, _ => 0
 | r :: rs, x, i => match i with
  | 0 => r.len x.1
  | i + 1 => lens rs x.2 i
def encR : (r : RP) -> r.den -> (Nat -> Nat) -> AObj
 | .vec t e ro, l, _ => .vec t l e ro
 | .cells p e ro, x, len => .cells (encV p x len) e ro
 | .dead, _, _ => .dead
def zd5 : (rs : List RP) -> rowsDen rs -> (Nat -> Nat) -> List AObj
 | [], _, _ => []
 | r :: rs, x, len => encR r x.1 len :: zd5 rs x.2 len
theorem zd6 : (rs : List RP) -> (x : rowsDen rs) -> (len : Nat -> Nat) -> (zd5 rs x len).length = rs.length
 | [], _, _ => rfl
 | r :: rs, x, len => by simp only [zd5, List.length_cons, zd6 rs]
def zd7 : Heap -> List AObj -> Heap
 | H, [] => H
 | H, o :: l => zd7 (H.push o) l
theorem zd8 : (H : Heap) -> (l : List AObj) -> (zd7 H l).n = H.n + l.length
 | H, [] => rfl
 | H, o :: l => by simp only [zd7, zd8, Heap.n_push, List.length_cons]; omega
theorem zd9 : (H : Heap) -> (l : List AObj) -> (i:Nat) -> (zd7 H l).get i = if i < H.n then H.get i else if i < H.n + l.length then l[i - H.n]? else H.get i
 | H, [], i => by simp only [zd7, List.length_nil, Nat.add_zero]; split <;> simp_all
 | H, o :: l, i => by
  simp only [zd7, zd9, Heap.n_push, Heap.get_push, List.length_cons]
  by_cases h1 : i < H.n
  ·rw [if_pos (by omega), if_neg (by omega), if_pos h1]
  ·by_cases h2 : i = H.n
   ·subst h2; rw [if_pos (by omega), if_pos rfl, if_neg h1, if_pos (by omega)]; simp
   ·rw [if_neg (by omega), if_neg h1, if_neg h2]
    by_cases h3 : i < H.n + 1 + l.length
    ·rw [if_pos h3, if_pos (by omega), show i - H.n = (i - (H.n + 1)) + 1 from by omega, List.getElem?_cons_succ]
    ·rw [if_neg h3, if_neg (by omega)]
structure Dom where
 rows : List RP
 vals : VP
@[reducible] def Dom.den (D : Dom) : Type := rowsDen D.rows × D.vals.den
def Dom.len (D : Dom) (x : D.den) : Nat -> Nat := lens D.rows x.1
def zda : (p : VP) -> p.den -> (Nat -> Nat) -> List AV -> List AV
 | .bool, b, _, r => .bool true b :: r
 | .int k, n, _, r => .int true k n :: r
 | .num k, n, _, r => .int false k n :: r
 | .byte, b, _, r => .int true .u8 (b.toNat:Int) :: r
 | .str, s, _, r => .str true s :: r
 | .vec t, l, _, r => .vec t l :: r
 | .lit v, _, _, r => v :: r
 | .ptr g e z o, _, _, r => .ptr false (some ⟨g, e, z, o⟩) :: r
 | .sl g z, _, len, r => .slice true (some ⟨g, 0, z, 0⟩) (len g) z :: r
 | .part g z, x, _, r => (match x with
  | (e, n) => .slice true (some ⟨g, e, z, 0⟩) n z :: r)
 | .nil, _, _, r => r
 | .cat a b, x, len, r => (match x with
  | (u, v) => zda a u len (zda b v len r))
 | .agg l, x, len, r => .agg (zda l x len []) :: r
 | .tup l, x, len, r => .tup (zda l x len []) :: r
 | .func f a b, x, len, r => (match x with
  | (u, v) => .func f (zda a u len []) (zda b v len []) :: r)
theorem zdb : (p : VP) -> (x : p.den) -> (len : Nat -> Nat) -> (r : List AV) -> zda p x len r = encV p x len ++ r
 | .bool, _, _, _ => rfl
 | .int _, _, _, _ => rfl
 | .num _, _, _, _ => rfl
 | .byte, _, _, _ => rfl
 | .str, _, _, _ => rfl
 | .vec _, _, _, _ => rfl
 | .lit _, _, _, _ => rfl
 | .ptr _ _ _ _, _, _, _ => rfl
 | .sl _ _, _, _, _ => rfl
 | .part _ _, _, _, _ => rfl
 | .nil, _, _, _ => rfl
 | .cat a b, (u, v), len, r => by simp only [zda, encV, zdb a, zdb b, List.append_assoc]
 | .agg l, x, len, r => by simp only [zda, encV, zdb l, List.append_nil, List.singleton_append]
 | .tup l, x, len, r => by simp only [zda, encV, zdb l, List.append_nil, List.singleton_append]
 | .func f a b, (u, v), len, r => by simp only [zda, encV, zdb a, zdb b, List.append_nil, List.singleton_append]
def zdc : (r : RP) -> r.den -> (Nat -> Nat) -> AObj
 | .vec t e ro, l, _ => .vec t l e ro
 | .cells p e ro, x, len => .cells (zda p x len []) e ro
 | .dead, _, _ => .dead
theorem zdd (r : RP) (x : r.den) (len : Nat -> Nat) : zdc r x len = encR r x len := by
 cases r <;> simp [zdc, encR, zdb]
def zde : (rs : List RP) -> rowsDen rs -> (Nat -> Nat) -> List AObj
 | [], _, _ => []
 | r :: rs, x, len => match x with
  | (u, v) => zdc r u len :: zde rs v len
theorem zdf : (rs : List RP) -> (x : rowsDen rs) -> (len : Nat -> Nat) -> zde rs x len = zd5 rs x len
 | [], _, _ => rfl
 | r :: rs, (u, v), len => by simp only [zde, zd5, zdd, zdf rs]
def zdg : (rs : List RP) -> rowsDen rs -> Nat -> Nat
 | [], _, _ => 0
 | r :: rs, x, i => match x, i with
  | (u, _), 0 => r.len u
  | (_, v), i + 1 => zdg rs v i
theorem zdh : (rs : List RP) -> (x : rowsDen rs) -> zdg rs x = lens rs x
 | [], _ => rfl
 | r :: rs, (u, v) => by
  funext i
  cases i with
  | zero => rfl
  | succ i => simp only [zdg, lens, zdh rs]
def Dom.heap (D : Dom) (x : D.den) : Heap := match x with
 | (r, _) => zd7 Heap.empty (zde D.rows r (zdg D.rows r))
def Dom.args (D : Dom) (x : D.den) : List AV := match x with
 | (r, v) => zda D.vals v (zdg D.rows r) []
theorem Dom.heap_eq (D : Dom) (x : D.den) : D.heap x = zd7 Heap.empty (zd5 D.rows x.1 (D.len x)) := by
 obtain ⟨r, v⟩ := x
 simp only [Dom.heap, zdf, zdh, Dom.len]
theorem Dom.args_eq (D : Dom) (x : D.den) : D.args x = encV D.vals x.2 (D.len x) := by
 obtain ⟨r, v⟩ := x
 simp only [Dom.args, zdb, zdh, Dom.len, List.append_nil]
theorem Dom.heap_n (D : Dom) (x : D.den) : (D.heap x).n = D.rows.length := by
 rw [Dom.heap_eq, zd8, zd6]; simp [Heap.empty]
theorem Dom.heap_get (D : Dom) (x : D.den) (i:Nat) : (D.heap x).get i = (zd5 D.rows x.1 (D.len x))[i]? := by
 simp only [Dom.heap_eq, zd9, Heap.empty, Nat.not_lt_zero, if_false, Nat.zero_add, Nat.sub_zero]
 split
 ·rfl
 ·rename_i h
  rw [List.getElem?_eq_none (by omega)]
  simp [Heap.get, Trie.get_leaf]
inductive Src where
 | whole (g:Nat)
 | win (g e n z:Nat)
 | nil
 | inl (t : Ty) (l : List t.den)
abbrev Rho := List (Nat × Src)
def Rho.find : Rho -> Nat -> Option Src
 | [], _ => none
 | (i, s) :: l, g => match Nat.beq i g with
  | true => some s
  | false => Rho.find l g
theorem Rho.find_cons (i g:Nat) (s : Src) (l : Rho) : Rho.find ((i, s) :: l) g = if i = g then some s else l.find g := by
 simp only [Rho.find]
 by_cases h : i = g
 ·subst h; rw [if_pos rfl]; simp
 ·rw [if_neg h, z01 h]
def zdi : AV -> AV -> Bool
 | .bool _ a, .bool t b => !t && a == b
 | .int _ k n, .int t k' n' => !t && (decide (k = k') && decide (n = n'))
 | .str _ s, .str t s' => !t && decide (s = s')
 | .ptr _ none, .ptr _ none => true
 | .map none, .map none => true
 | .nilFunc, .nilFunc => true
 | .nilIface, .nilIface => true
 | .func f [] [], .func g [] [] => decide (f = g)
 | _, _ => false
def zdj (H : Heap) (g z:Nat) : Option Nat := match H.get g with
 | some (.vec t l _ _) => if t.z = z then some l.length else none
 | _ => none
def zdk (v : AV) (l : List AV) : Option (List AV) := match l with
 | u :: l => if zdi v u = true then some l else none
 | [] => none
def zdl (g e z o:Nat) (l : List AV) (ρ : Rho) : Option (List AV × Rho) := match l with
 | .ptr _ (some r) :: l => if r.e = e ∧ r.z = z ∧ r.o = o then match ρ.find g with
   | none => some (l, (g, .whole r.g) :: ρ)
   | some (.whole g') => if g' = r.g then some (l, ρ) else none
   | _ => none
  else none
 | _ => none
def zdm (H : Heap) (g z:Nat) (l : List AV) (ρ : Rho) : Option (List AV × Rho) := match l with
 | .slice _ none _ _ :: l => match ρ.find g with
   | none => some (l, (g, .nil) :: ρ)
   | some .nil => some (l, ρ)
   | _ => none
 | .slice _ (some r) n z' :: l => if z' = z ∧ r.z = z ∧ r.o = 0 then match ρ.find g with
   | none => some (l, (g, .win r.g r.e n z) :: ρ)
   | some (.whole g') => if g' = r.g ∧ r.e = 0 ∧ zdj H r.g z = some n then some (l, ρ) else none
   | some (.win g' e' n' z0) => if g' = r.g ∧ e' = r.e ∧ n' = n ∧ z0 = z then some (l, ρ) else none
   | _ => none
  else none
 | .vec t x :: l => if t.z = z then match ρ.find g with
   | none => some (l, (g, .inl t x) :: ρ)
   | _ => none
  else none
 | _ => none
def zdn (H : Heap) (t : Ty) : List AV -> Option (List t.den × List AV)
 | .slice _ (some r) n z :: l => match H.get r.g with
  | some (.fro t' L _) => if h : t' = t then (if r.z = t'.z ∧ r.o = 0 ∧ z = t'.z ∧ r.e + n <= L.length then some (h ▸ (L.drop r.e).take n, l) else none) else none
  | _ => none
 | l => z0f t l
def zdo (g z:Nat) (l : List AV) (ρ : Rho) : Option ((Nat × Nat) × List AV × Rho) := match l with
 | .slice _ (some r) n z' :: l => if z' = z ∧ r.z = z ∧ r.o = 0 then match ρ.find g with
   | none => some ((r.e, n), l, (g, .whole r.g) :: ρ)
   | some (.whole g') => if g' = r.g then some ((r.e, n), l, ρ) else none
   | _ => none
  else none
 | _ => none
def matV (H : Heap) : (p : VP) -> List AV -> Rho -> Option (p.den × List AV × Rho)
 | .bool, l, ρ => (z0b l).map fun r => (r.1, r.2, ρ)
 | .int k, l, ρ => (z0c k l).map fun r => (r.1, r.2, ρ)
 | .num k, l, ρ => (z0c k l).map fun r => (r.1, r.2, ρ)
 | .byte, l, ρ => (z0d l).map fun r => (r.1, r.2, ρ)
 | .str, l, ρ => (z0e l).map fun r => (r.1, r.2, ρ)
 | .vec t, l, ρ => (zdn H t l).map fun r => (r.1, r.2, ρ)
 | .lit v, l, ρ => (zdk v l).map fun r => ((), r, ρ)
 | .ptr g e z o, l, ρ => (zdl g e z o l ρ).map fun r => ((), r)
 | .sl g z, l, ρ => (zdm H g z l ρ).map fun r => ((), r)
 | .part g z, l, ρ => zdo g z l ρ
 | .nil, l, ρ => some ((), l, ρ)
 | .cat a b, l, ρ => match matV H a l ρ with
  | some (x, l', ρ') => match matV H b l' ρ' with
   | some (y, l'', ρ'') => some ((x, y), l'', ρ'')
   | none => none
  | none => none
 | .agg p, l, ρ => match l with
  | .agg cs :: l => match matV H p cs ρ with
   | some (x, [], ρ') => some (x, l, ρ')
   | _ => none
  | _ => none
 | .tup p, l, ρ => match l with
  | .tup cs :: l => match matV H p cs ρ with
   | some (x, [], ρ') => some (x, l, ρ')
   | _ => none
  | _ => none
 | .func f p q, l, ρ => match l with
  | .func f' xs ys :: l => if f' = f then match matV H p xs ρ with
    | some (x, [], ρ') => match matV H q ys ρ' with
     | some (y, [], ρ'') => some ((x, y), l, ρ'')
     | _ => none
    | _ => none
   else none
  | _ => none
def zdp (H : Heap) (t : Ty) (ro:Bool) : Src -> Option (List t.den)
 | .whole g => match H.get g with
  | some (.vec t' L _ ro') => if h : t' = t then (if ro = false -> ro' = false then some (h ▸ L) else none) else none
  | _ => none
 | .win g e n z => if z = t.z ∧ z ≠ 0 then match H.get g with
   | some (.vec t' L _ ro') => if h : t' = t then
     (match ro with
      | true => if e + n <= L.length then some (h ▸ (L.drop e).take n) else none
      | false => if e = 0 ∧ n = L.length ∧ ro' = false then some (h ▸ L) else none) else none
   | some (.fro t' L _) => if h : t' = t then
     (match ro with
      | true => if e + n <= L.length then some (h ▸ (L.drop e).take n) else none
      | false => none) else none
   | some (.cells cs _ ro') => match ro with
    | true => if e * z + n * z <= cs.length then decL t ((cs.drop (e * z)).take (n * z)) else none
    | false => if e = 0 ∧ n * z = cs.length ∧ ro' = false then decL t cs else none
   | _ => none
  else none
 | .nil => some []
 | .inl t' l => if h : t' = t then (if ro = true ∧ t.z ≠ 0 then some (h ▸ l) else none) else none
def matR (H : Heap) : (r : RP) -> Option Src -> Rho -> Option (r.den × Rho)
 | .dead, _, ρ => some ((), ρ)
 | .vec t _ ro, s, ρ => match s with
  | some s => (zdp H t ro s).map fun l => (l, ρ)
  | none => none
 | .cells p _ ro, s, ρ => match s with
  | some (.whole g) => match H.get g with
   | some (.cells cs _ ro') => if ro = false -> ro' = false then match matV H p cs ρ with
     | some (x, [], ρ') => some (x, ρ')
     | _ => none
    else none
   | _ => none
  | _ => none
def zdq (H : Heap) : (rs : List RP) -> Nat -> Rho -> Option (rowsDen rs × Rho)
 | [], _, ρ => some ((), ρ)
 | r :: rs, i, ρ => match matR H r (ρ.find i) ρ with
  | some (x, ρ') => match zdq H rs (i + 1) ρ' with
   | some (xs, ρ'') => some ((x, xs), ρ'')
   | none => none
  | none => none
def Src.row? : Option Src -> Option Nat
 | some (.whole g) => some g
 | some (.win g _ _ _) => some g
 | _ => none
def RP.rw : RP -> Bool
 | .vec _ _ ro => !ro
 | .cells _ _ ro => !ro
 | .dead => false
def RP.dead? : RP -> Bool
 | .dead => true
 | _ => false
def zdr (ρ : Rho) : List RP -> Nat -> List (Option Nat × Bool)
 | [], _ => []
 | r :: rs, i => (bif r.dead? then (none, false) else (Src.row? (ρ.find i), r.rw)) :: zdr ρ rs (i + 1)
def zds (g:Nat) : List (Option Nat × Bool) -> Bool
 | [] => true
 | (some g', _) :: l => !(Nat.beq g g') && zds g l
 | (none, _) :: l => zds g l
def noRw (g:Nat) : List (Option Nat × Bool) -> Bool
 | [] => true
 | (some g', b) :: l => !(Nat.beq g g' && b) && noRw g l
 | (none, _) :: l => noRw g l
def zdt : List (Option Nat × Bool) -> Bool
 | [] => true
 | (some g, true) :: l => zds g l && zdt l
 | (some g, false) :: l => noRw g l && zdt l
 | (none, _) :: l => zdt l
def zdu (H : Heap) (ρ : Rho) : List RP -> Nat -> Bool
 | [], _ => true
 | r :: rs, i => (match r.dead?, ρ.find i with
  | true, some (.whole g) => true
  | true, some _ => false
  | _, _ => true) && zdu H ρ rs (i + 1)
def zdv (n:Nat) : Rho -> Bool
 | [] => true
 | (i, _) :: l => Nat.blt i n && zdv n l
def Dom.live (D : Dom) (i:Nat) : Bool := match D.rows[i]? with
 | some r => !r.dead?
 | none => false
def VP.sls : VP -> List Nat
 | .sl g _ => [g]
 | .cat a b => a.sls ++ b.sls
 | .agg l => l.sls
 | .tup l => l.sls
 | .func _ a b => a.sls ++ b.sls
 | _ => []
def RP.sls : RP -> List Nat
 | .cells p _ _ => p.sls
 | _ => []
def zdw : List RP -> List Nat
 | [] => []
 | r :: rs => r.sls ++ zdw rs
def zdx (D : Dom) : Bool := (D.vals.sls ++ zdw D.rows).all D.live
theorem zdy : (p : VP) -> (x : p.den) -> (len len' : Nat -> Nat) -> (∀ g, g ∈ p.sls -> len g = len' g) -> encV p x len = encV p x len'
 | .sl g z, x, len, len', h => by simp only [encV, h g (by simp [VP.sls])]
 | .cat a b, x, len, len', h => by
  simp only [encV]
  rw [zdy a x.1 len len' fun g hg => h g (by simp [VP.sls, hg]), zdy b x.2 len len' fun g hg => h g (by simp [VP.sls, hg])]
 | .agg l, x, len, len', h => by simp only [encV]; rw [zdy l x len len' fun g hg => h g (by simpa [VP.sls] using hg)]
 | .tup l, x, len, len', h => by simp only [encV]; rw [zdy l x len len' fun g hg => h g (by simpa [VP.sls] using hg)]
 | .func f a b, x, len, len', h => by
  simp only [encV]
  rw [zdy a x.1 len len' fun g hg => h g (by simp [VP.sls, hg]), zdy b x.2 len len' fun g hg => h g (by simp [VP.sls, hg])]
 | .bool, _, _, _, _ => rfl
 | .int _, _, _, _, _ => rfl
 | .num _, _, _, _, _ => rfl
 | .byte, _, _, _, _ => rfl
 | .str, _, _, _, _ => rfl
 | .vec _, _, _, _, _ => rfl
 | .lit _, _, _, _, _ => rfl
 | .ptr _ _ _ _, _, _, _, _ => rfl
 | .part _ _, _, _, _, _ => rfl
 | .nil, _, _, _, _ => rfl
theorem zdz : (rs : List RP) -> (x : rowsDen rs) -> (len len' : Nat -> Nat) -> (∀ g, g ∈ zdw rs -> len g = len' g) -> zd5 rs x len = zd5 rs x len'
 | [], _, _, _, _ => rfl
 | r :: rs, x, len, len', h => by
  simp only [zd5]
  rw [zdz rs x.2 len len' fun g hg => h g (by simp [zdw, hg])]
  congr 1
  cases r with
  | cells p e ro => simp only [encR]; rw [zdy p x.1 len len' fun g hg => h g (by simp [zdw, RP.sls, hg])]
  | vec t e ro => rfl
  | dead => rfl
def Dom.mat (D : Dom) (vs : List AV) (H : Heap) (ρ0 : Rho) : Option (D.den × Rho) :=
 match matV H D.vals vs ρ0 with
 | some (xv, [], ρ1) => match zdq H D.rows 0 ρ1 with
  | some (xr, ρ) => if zdv D.rows.length ρ = true ∧ zdt (zdr ρ D.rows 0) = true ∧ zdu H ρ D.rows 0 = true ∧ zdx D = true then some ((xr, xv), ρ) else none
  | none => none
 | _ => none
def AV.data : AV -> Bool
 | .bool _ _ => true
 | .int _ _ _ => true
 | .str _ _ => true
 | .vec _ _ => true
 | .eptr _ _ _ _ => true
 | _ => false
theorem ze0 : (t : Ty) -> (x : t.den) -> (enc t x).all AV.data = true
 | .bool, _ => rfl
 | .int _, _ => rfl
 | .byte, _ => rfl
 | .str, _ => rfl
 | .sl _, _ => rfl
 | .unit, _ => rfl
 | .pair a b, x => by simp only [enc, List.all_append, ze0 a, ze0 b, Bool.and_true]
theorem ze1 (t : Ty) (l : List t.den) : (encL t l).all AV.data = true := by
 simp only [encL, List.all_flatMap, ze0]
 simp
theorem ze2 {t : Ty} {l : List t.den} {k : Nat} {v : AV} (h : (encL t l)[k]? = some v) : v.data = true :=
 List.all_eq_true.1 (ze1 t l) v (List.mem_of_getElem? h)
theorem VRel.data {N N' : Nat} {β β' : At} (hi : ∀ b o c, β.imm b o = some c -> β'.imm b o = some c) : ∀ {v : AV} {c : Value}, VRel N β v c -> v.data = true -> VRel N' β' v c
 | _, _, .bool t b, _ => .bool t b
 | _, _, .int t k n, _ => .int t k n
 | _, _, .str t s b h, _ => .str t s b h
 | _, _, .vec t l cap a b o cs hn ha h h', _ => .vec t l cap a b o cs hn ha (fun k v hv => hi _ _ _ (h k v hv)) (fun k v hv => VRel.data hi (h' k v hv) (ze2 hv))
 | _, _, .eptr t l e p b o cs h h', _ => .eptr t l e p b o cs (fun k v hv => hi _ _ _ (h k v hv)) (fun k v hv => VRel.data hi (h' k v hv) (ze2 hv))
 | _, _, .pnil _, hd => by cases hd
 | _, _, .ptr _ _ _ _ _, hd => by cases hd
 | _, _, .snil _ _ _, hd => by cases hd
 | _, _, .slice _ _ _ _ _ _ _ _ _ _, hd => by cases hd
 | _, _, .mnil, hd => by cases hd
 | _, _, .func _ _ _ _ _ _ _, hd => by cases hd
 | _, _, .nilFunc, hd => by cases hd
 | _, _, .nilIface, hd => by cases hd
 | _, _, .agg _ _ _, hd => by cases hd
 | _, _, .tup _ _ _, hd => by cases hd
def Base.shift (b : Base) (k:Nat) : Base := if b.nil = true then b else { b with off := b.off + k, room := b.room - k }
theorem Base.shift_zero (b : Base) : b.shift 0 = b := by unfold Base.shift; split <;> simp
@[simp] theorem Base.shift_nil (b : Base) (k:Nat) : (b.shift k).nil = b.nil := by unfold Base.shift; split <;> rfl
theorem Base.shift_blk (b : Base) (k:Nat) : (b.shift k).blk = b.blk := by unfold Base.shift; split <;> rfl
def ze3 (room:Nat) : Base := ⟨0, 0, room, true⟩
def ze4 (N:Nat) (β : At) (t : Ty) (l : List t.den) (b : Option Base) : Prop :=
 (l = [] ∧ b = some (ze3 1)) ∨ (l ≠ [] ∧ ∃ (blk off room:Nat) (cs : Nat -> Value), b = some ⟨blk, off, room, false⟩ ∧ l.length * t.z <= room ∧ ∀ k v, (encL t l)[k]? = some v -> β.imm blk (off + k) = some (cs k) ∧ VRel N β v (cs k))
def ze5 (N:Nat) (β : At) (s : Src) (b : Option Base) : Prop := match s with
 | .whole g => b = β g
 | .win g e _ z => b = (β g).map (fun b => b.shift (e * z)) ∧ ∀ b0, β g = some b0 -> b0.nil = true ∨ e * z <= b0.room
 | .nil => b = some (ze3 0)
 | .inl t l => ze4 N β t l b
def OkB (N:Nat) (β : At) (ρ : Rho) (B : Nat -> Option Base) : Prop := ∀ g s, ρ.find g = some s -> ze5 N β s (B g)
def ze6 (H : Heap) (s : Src) (m:Nat) : Prop := match s with
 | .whole g => ∀ z n, zdj H g z = some n -> m = n
 | .win _ _ n _ => m = n
 | .nil => m = 0
 | .inl _ l => m = l.length
structure View (H : Heap) (β : At) (ρ : Rho) (B : Nat -> Option Base) (β1 : At) (n1:Nat) (len : Nat -> Nat) : Prop where
 imm : ∀ b o c, β.imm b o = some c -> β1.imm b o = some c
 at_ : ∀ g s, ρ.find g = some s -> g < n1 ∧ (β1 g = B g ∨ β1 g = none) ∧ ze6 H s (len g)
def Ext (ρ ρ' : Rho) : Prop := ∀ g s, ρ.find g = some s -> ρ'.find g = some s
theorem Ext.refl (ρ : Rho) : Ext ρ ρ := fun _ _ h => h
theorem Ext.trans {a b c : Rho} (h : Ext a b) (k : Ext b c) : Ext a c := fun g s hs => k g s (h g s hs)
theorem Ext.cons {ρ : Rho} {g : Nat} {s : Src} (h : ρ.find g = none) : Ext ρ ((g, s) :: ρ) := fun g' s' hs => by
 rw [Rho.find_cons]
 split
 ·rename_i e; subst e; rw [h] at hs; cases hs
 ·exact hs
theorem View.less {H : Heap} {β β1 : At} {ρ ρ' : Rho} {B B' : Nat -> Option Base} {n1 : Nat} {len : Nat -> Nat} (h : View H β ρ' B' β1 n1 len) (he : Ext ρ ρ') (hB : ∀ g s, ρ.find g = some s -> B' g = B g) : View H β ρ B β1 n1 len where
 imm := h.imm
 at_ := fun g s hs => by
  obtain ⟨h1, h2, h3⟩ := h.at_ g s (he g s hs)
  exact ⟨h1, by rw [← hB g s hs]; exact h2, h3⟩
def ze7 (H : Heap) (β : At) (ρ ρ' : Rho) (B : Nat -> Option Base) (cs : List Value) (rest : List AV) (out : (Nat -> Nat) -> List AV) : Prop :=
 Ext ρ ρ' ∧ ∃ B' : Nat -> Option Base, OkB H.n β ρ' B' ∧ (∀ g s, ρ.find g = some s -> B' g = B g) ∧ ∃ cs1 cs2, cs = cs1 ++ cs2 ∧ z2i H.n β rest cs2 ∧
  ∀ β1 n1 len, View H β ρ' B' β1 n1 len -> z2i n1 β1 (out len) cs1
theorem ze7.one {H : Heap} {β : At} {ρ : Rho} {B : Nat -> Option Base} {c : Value} {cs : List Value} {rest : List AV} {out : (Nat -> Nat) -> AV} (hB : OkB H.n β ρ B) (hr : z2i H.n β rest cs)
  (h : ∀ β1 n1 len, View H β ρ B β1 n1 len -> VRel n1 β1 (out len) c) : ze7 H β ρ ρ B (c :: cs) rest fun len => [out len] :=
 ⟨Ext.refl _, B, hB, fun _ _ _ => rfl, [c], cs, rfl, hr, fun β1 n1 len hv => .one (h β1 n1 len hv)⟩
theorem ze7.new {H : Heap} {β : At} {ρ : Rho} {B : Nat -> Option Base} {c : Value} {cs : List Value} {rest : List AV} {out : (Nat -> Nat) -> AV} {g : Nat} {s : Src} {b : Option Base} (hB : OkB H.n β ρ B) (hf : ρ.find g = none) (hs : ze5 H.n β s b) (hr : z2i H.n β rest cs)
  (h : ∀ (β1 : At) n1 len, (∀ b o c, β.imm b o = some c -> β1.imm b o = some c) -> g < n1 -> (β1 g = b ∨ β1 g = none) -> ze6 H s (len g) -> VRel n1 β1 (out len) c) : ze7 H β ρ ((g, s) :: ρ) B (c :: cs) rest fun len => [out len] := by
 refine ⟨Ext.cons hf, fun i => if i = g then b else B i, fun g' s' hs' => ?_, fun g' s' hs' => ?_, [c], cs, rfl, hr, fun β1 n1 len hv => .one ?_⟩
 ·rw [Rho.find_cons] at hs'
  split at hs'
  ·rename_i e; subst e; cases hs'; simp only [if_true]; exact hs
  ·rename_i e; simp only [if_neg (Ne.symm e)]; exact hB g' s' hs'
 ·by_cases e : g' = g
  ·subst e; rw [hf] at hs'; cases hs'
  ·simp only [if_neg e]
 ·obtain ⟨h1, h2, h3⟩ := hv.at_ g s (by rw [Rho.find_cons, if_pos rfl])
  simp only [if_true] at h2
  exact h β1 n1 len hv.imm h1 h2 h3
section mat
variable {H : Heap} {β : At} {w : World}
theorem ze8 {N N' : Nat} {β' : At} {v u : AV} {c : Value} (h : zdi v u = true) (hu : VRel N β u c) : VRel N' β' v c := by
 unfold zdi at h
 split at h
 ·simp at h; rw [z30 hu, h.2]; exact .bool _ _
 ·simp at h; rw [z2z hu, h.2.1, h.2.2]; exact .int _ _ _
 ·simp at h; obtain ⟨b, rfl, hb⟩ := z2y hu; exact .str _ _ _ (by rw [hb, h.2])
 ·cases hu; exact .pnil _
 ·cases hu; exact .mnil
 ·cases hu; exact .nilFunc
 ·cases hu; exact .nilIface
 ·simp at h
  subst h
  cases hu with
  | func f xs ys cs ds h1 h2 =>
   have e1 : cs = #[] := by cases cs with | mk l => cases h1; rfl
   have e2 : ds = #[] := by cases ds with | mk l => cases h2; rfl
   subst e1; subst e2
   exact .func _ _ _ _ _ .nil .nil
 ·cases h
theorem ze9 {N n1 : Nat} {β1 : At} {g : Nat} {t : Bool} {r : Ref} {c : Value} (h : VRel N β (.ptr t (some r)) c) (hg : g < n1) (hb : β1 g = β r.g ∨ β1 g = none) : VRel n1 β1 (.ptr false (some ⟨g, r.e, r.z, r.o⟩)) c := by
 cases h with
 | ptr _ _ a h1 h2 =>
  refine .ptr _ _ _ hg fun b hb1 => ?_
  rcases hb with e | e
  ·simp only at hb1; rw [e] at hb1; exact h2 b hb1
  ·simp only at hb1; rw [e] at hb1; cases hb1
theorem zea {N n1 : Nat} {β1 : At} {g : Nat} {t t' : Bool} {r : Ref} {n z : Nat} {c : Value} (h : VRel N β (.slice t (some r) n z) c) (hg : g < n1) (hb : β1 g = β r.g ∨ β1 g = none) : VRel n1 β1 (.slice t' (some ⟨g, r.e, r.z, r.o⟩) n z) c := by
 cases h with
 | slice _ _ _ _ cap a h1 hn hs h2 =>
  refine .slice _ _ _ _ _ _ hg hn hs fun b hb1 => ?_
  rcases hb with e | e
  ·simp only at hb1; rw [e] at hb1; exact h2 b hb1
  ·simp only at hb1; rw [e] at hb1; cases hb1
theorem SlAt.shift {b : Base} {i n cap z : Nat} {a : Option Addr} (h : SlAt b i n cap z a) : SlAt (b.shift i) 0 n cap z a := by
 unfold Base.shift
 by_cases hn : b.nil = true
 ·rw [if_pos hn]
  exact ⟨h.1, fun h' => by rw [hn] at h'; cases h'⟩
 ·rw [if_neg hn]
  have hn' : b.nil = false := by simpa using hn
  obtain ⟨h1, h2⟩ := h.2 hn'
  exact ⟨fun h' => absurd h' hn, fun _ => ⟨fun hc => by rw [h1 hc, Nat.add_zero], by simp only [Nat.zero_add]; omega⟩⟩
theorem zeb {N n1 : Nat} {β1 : At} {g : Nat} {t t' : Bool} {r : Ref} {n z : Nat} {c : Value} (h : VRel N β (.slice t (some r) n z) c) (hz : r.z = z) (ho : r.o = 0) (hg : g < n1) (hb : β1 g = (β r.g).map (fun b => b.shift (r.e * z)) ∨ β1 g = none) :
  VRel n1 β1 (.slice t' (some ⟨g, 0, z, 0⟩) n z) c := by
 cases h with
 | slice _ _ _ _ cap a h1 hn hs h2 =>
  refine .slice _ _ _ _ _ _ hg hn hs fun b hb1 => ?_
  rcases hb with e | e
  ·simp only at hb1
   rw [e] at hb1
   cases hq : β r.g with
   | none => rw [hq] at hb1; cases hb1
   | some b0 =>
    rw [hq] at hb1
    simp only [Option.map_some, Option.some.injEq] at hb1
    subst hb1
    have := (h2 b0 hq).shift
    have hi : r.i = r.e * z := by unfold Ref.i; rw [hz, ho, Nat.add_zero]
    rw [hi] at this
    simpa [Ref.i] using this
  ·simp only at hb1; rw [e] at hb1; cases hb1
theorem zec {N : Nat} {t : Bool} {r : Ref} {n z : Nat} {c : Value} (h : VRel N β (.slice t (some r) n z) c) (hz : r.z = z) (ho : r.o = 0) : ze5 N β (.win r.g r.e n z) ((β r.g).map fun b : Base => b.shift (r.e * z)) := by
 refine ⟨rfl, fun b0 hb0 => ?_⟩
 cases h with
 | slice _ _ _ _ cap a h1 hn hs h2 =>
  cases hnil : b0.nil with
  | true => exact .inl rfl
  | false =>
   have := ((h2 b0 hb0).2 hnil).2
   have hi : r.i = r.e * z := by unfold Ref.i; rw [hz, ho, Nat.add_zero]
   exact .inr (by omega)
theorem zed (hR : Rel β H w) : (p : VP) -> {vs rest : List AV} -> {ρ ρ' : Rho} -> {x : p.den} -> {B : Nat -> Option Base} -> {cs : List Value} -> matV H p vs ρ = some (x, rest, ρ') -> z2i H.n β vs cs -> OkB H.n β ρ B ->
  ze7 H β ρ ρ' B cs rest (encV p x)
 | .bool, vs, rest, ρ, ρ', x, B, cs, h, hv, hB => by
  simp only [matV] at h
  obtain ⟨⟨y, l⟩, hd, he⟩ := map_some h
  cases he
  unfold z0b at hd
  split at hd
  ·cases hd
   cases hv with
   | cons _ c _ cs h1 h2 => exact ze7.one hB h2 fun β1 n1 len _ => by rw [z30 h1]; exact .bool _ _
  ·cases hd
 | .int k, vs, rest, ρ, ρ', x, B, cs, h, hv, hB => by
  simp only [matV] at h
  obtain ⟨⟨y, l⟩, hd, he⟩ := map_some h
  cases he
  unfold z0c at hd
  split at hd
  ·split at hd
   ·rename_i hk
    subst hk
    cases hd
    cases hv with
    | cons _ c _ cs h1 h2 => exact ze7.one hB h2 fun β1 n1 len _ => by rw [z2z h1]; exact .int _ _ _
   ·cases hd
  ·cases hd
 | .num k, vs, rest, ρ, ρ', x, B, cs, h, hv, hB => by
  simp only [matV] at h
  obtain ⟨⟨y, l⟩, hd, he⟩ := map_some h
  cases he
  unfold z0c at hd
  split at hd
  ·split at hd
   ·rename_i hk
    subst hk
    cases hd
    cases hv with
    | cons _ c _ cs h1 h2 => exact ze7.one hB h2 fun β1 n1 len _ => by rw [z2z h1]; exact .int _ _ _
   ·cases hd
  ·cases hd
 | .byte, vs, rest, ρ, ρ', x, B, cs, h, hv, hB => by
  simp only [matV] at h
  obtain ⟨⟨y, l⟩, hd, he⟩ := map_some h
  cases he
  unfold z0d at hd
  split at hd
  ·rename_i n l
   split at hd
   ·rename_i hc
    obtain ⟨rfl, h0, h3⟩ := hc
    cases hd
    cases hv with
    | cons _ c _ cs h1 h2 =>
     refine ze7.one hB h2 fun β1 n1 len _ => ?_
     rw [z2z h1]
     have : (((UInt8.ofNat n.toNat).toNat:Nat):Int) = n := by simp; omega
     rw [this]
     exact .int _ _ _
   ·cases hd
  ·cases hd
 | .str, vs, rest, ρ, ρ', x, B, cs, h, hv, hB => by
  simp only [matV] at h
  obtain ⟨⟨y, l⟩, hd, he⟩ := map_some h
  cases he
  unfold z0e at hd
  split at hd
  ·cases hd
   cases hv with
   | cons _ c _ cs h1 h2 => exact ze7.one hB h2 fun β1 n1 len _ => by obtain ⟨b, rfl, hb⟩ := z2y h1; exact .str _ _ _ hb
  ·cases hd
 | .vec t, vs, rest, ρ, ρ', x, B, cs, h, hv, hB => by
  simp only [matV] at h
  obtain ⟨⟨y, l⟩, hd, he⟩ := map_some h
  cases he
  unfold zdn at hd
  split at hd
  ·rename_i b r n z l'
   split at hd
   ·rename_i t' L e hg
    split at hd
    ·rename_i ht
     subst ht
     split at hd
     ·rename_i hc
      cases hd
      cases hv with
      | cons _ c _ cs h1 h2 =>
       refine ze7.one hB h2 fun β1 n1 len hv => ?_
       exact (z59 hR (t := t') hg (by unfold z1q; rw [if_pos ⟨rfl, hc⟩]) h1).data hv.imm rfl
     ·cases hd
    ·cases hd
   ·cases hd
  unfold z0f at hd
  split at hd
  ·split at hd
   ·rename_i ht
    subst ht
    cases hd
    cases hv with
    | cons _ c _ cs h1 h2 => exact ze7.one hB h2 fun β1 n1 len hv => h1.data hv.imm rfl
   ·cases hd
  ·split at hd
   ·cases hd
    cases hv with
    | cons _ c _ cs h1 h2 =>
     refine ze7.one hB h2 fun β1 n1 len hv => ?_
     cases h1
     exact .vec t [] 0 _ 0 0 (fun _ => undef) (by simp) ⟨fun hc => by simp at hc, fun _ => rfl⟩ (fun k v hv => by simp [encL] at hv) (fun k v hv => by simp [encL] at hv)
   ·cases hd
  ·cases hd
 | .lit v, vs, rest, ρ, ρ', x, B, cs, h, hv, hB => by
  simp only [matV] at h
  obtain ⟨l, hd, he⟩ := map_some h
  cases he
  unfold zdk at hd
  split at hd
  ·split at hd
   ·rename_i hl
    cases hd
    cases hv with
    | cons _ c _ cs h1 h2 => exact ze7.one hB h2 fun β1 n1 len _ => ze8 hl h1
   ·cases hd
  ·cases hd
 | .ptr g e z o, vs, rest, ρ, ρ', x, B, cs, h, hv, hB => by
  simp only [matV] at h
  obtain ⟨l, hd, he⟩ := map_some h
  cases he
  unfold zdl at hd
  split at hd
  ·rename_i t r l
   split at hd
   ·rename_i hc
    obtain ⟨rfl, rfl, rfl⟩ := hc
    cases hv with
    | cons _ c _ cs h1 h2 =>
     split at hd
     ·rename_i hf
      cases hd
      exact ze7.new (b := β r.g) hB hf rfl h2 fun β1 n1 len _ hg hb _ => ze9 h1 hg hb
     ·rename_i g' hf
      split at hd
      ·rename_i hg'
       subst hg'
       cases hd
       refine ze7.one hB h2 fun β1 n1 len hv => ?_
       obtain ⟨q1, q2, _⟩ := hv.at_ g _ hf
       have hs : B g = β r.g := hB g _ hf
       rw [hs] at q2
       exact ze9 h1 q1 q2
      ·cases hd
     ·cases hd
   ·cases hd
  ·cases hd
 | .sl g z, vs, rest, ρ, ρ', x, B, cs, h, hv, hB => by
  simp only [matV] at h
  obtain ⟨l, hd, he⟩ := map_some h
  cases he
  unfold zdm at hd
  split at hd
  ·rename_i t n z' l
   cases hv with
   | cons _ c _ cs h1 h2 =>
    split at hd
    ·rename_i hf
     cases hd
     refine ze7.new (b := some (ze3 0)) hB hf rfl h2 fun β1 n1 len _ hg hb hl => ?_
     cases h1 with
     | snil _ _ a =>
      have hl : len g = 0 := hl
      rw [hl]
      refine .slice _ _ _ _ _ _ hg (Nat.le_refl _) (fun _ => rfl) fun b hb1 => ?_
      rcases hb with e | e
      ·simp only at hb1; rw [e] at hb1; cases hb1; exact ⟨fun _ => ⟨rfl, fun _ => rfl⟩, fun h => by cases h⟩
      ·simp only at hb1; rw [e] at hb1; cases hb1
    ·rename_i hf
     cases hd
     refine ze7.one hB h2 fun β1 n1 len hv => ?_
     obtain ⟨hg, hb, hl⟩ := hv.at_ g _ hf
     have hs : B g = some (ze3 0) := hB g _ hf
     cases h1 with
     | snil _ _ a =>
      have hl : len g = 0 := hl
      rw [hl]
      refine .slice _ _ _ _ _ _ hg (Nat.le_refl _) (fun _ => rfl) fun b hb1 => ?_
      rcases hb with e | e
      ·simp only at hb1; rw [e, hs] at hb1; cases hb1; exact ⟨fun _ => ⟨rfl, fun _ => rfl⟩, fun h => by cases h⟩
      ·simp only at hb1; rw [e] at hb1; cases hb1
    ·cases hd
  ·rename_i t r n z' l
   split at hd
   ·rename_i hc
    obtain ⟨rfl, hz, ho⟩ := hc
    cases hv with
    | cons _ c _ cs h1 h2 =>
     split at hd
     ·rename_i hf
      cases hd
      refine ze7.new (b := (β r.g).map fun b : Base => b.shift (r.e * z')) hB hf (zec h1 hz ho) h2 fun β1 n1 len _ hg hb hl => ?_
      have hl : len g = n := hl
      rw [hl]
      exact zeb h1 hz ho hg hb
     ·rename_i g' hf
      split at hd
      ·rename_i hg'
       obtain ⟨rfl, he, hlen⟩ := hg'
       cases hd
       refine ze7.one hB h2 fun β1 n1 len hv => ?_
       obtain ⟨q1, q2, q3⟩ := hv.at_ g _ hf
       have hs : B g = β r.g := hB g _ hf
       rw [hs] at q2
       rw [q3 z' n hlen]
       have := zea (t' := true) h1 q1 q2
       rw [he, hz, ho] at this
       exact this
      ·cases hd
     ·rename_i g' e' n' z0 hf
      split at hd
      ·rename_i hw
       obtain ⟨rfl, rfl, rfl, rfl⟩ := hw
       cases hd
       refine ze7.one hB h2 fun β1 n1 len hv => ?_
       obtain ⟨q1, q2, q3⟩ := hv.at_ g _ hf
       have hs := (hB g _ hf).1
       rw [hs] at q2
       rw [show len g = _ from q3]
       exact zeb h1 hz ho q1 q2
      ·cases hd
     ·cases hd
   ·cases hd
  ·rename_i t y l
   split at hd
   ·rename_i hz
    split at hd
    ·rename_i hf
     cases hd
     cases hv with
     | cons _ c _ cs h1 h2 =>
      cases h1 with
      | vec _ _ cap a b o cs' hn ha i1 i2 =>
       by_cases hy : y = []
       ·refine ze7.new (b := some (ze3 1)) hB hf (show ze4 _ _ _ _ _ from .inl ⟨hy, rfl⟩) h2 fun β1 n1 len _ hg hb hl => ?_
        have hl : len g = y.length := hl
        have hy0 : y.length = 0 := by rw [hy]; rfl
        rw [hl]
        refine .slice _ _ _ _ _ _ hg hn (fun hna => ?_) fun b hb1 => ?_
        ·exact ha.2 hna
        ·rcases hb with e | e
         ·simp only at hb1; rw [e] at hb1; cases hb1; exact ⟨fun _ => ⟨hy0, fun h => by cases h⟩, fun h => by cases h⟩
         ·simp only at hb1; rw [e] at hb1; cases hb1
       ·have hpos : 0 < y.length := List.length_pos_iff.2 hy
        refine ze7.new (b := some ⟨b, o, cap * t.z, false⟩) hB hf (show ze4 _ _ _ _ _ from .inr ⟨hy, b, o, cap * t.z, cs', rfl, Nat.mul_le_mul_right _ hn, fun k v hv => ⟨i1 k v hv, i2 k v hv⟩⟩) h2 fun β1 n1 len _ hg hb hl => ?_
        have hl : len g = y.length := hl
        rw [hl]
        refine .slice _ _ _ _ _ _ hg hn (fun hna => ?_) fun b' hb1 => ?_
        ·exact ha.2 hna
        ·rcases hb with e | e
         ·simp only at hb1
          rw [e] at hb1
          cases hb1
          exact ⟨fun h => (by cases h), fun _ => ⟨fun hc => by simp only [Ref.i, Nat.zero_mul, Nat.add_zero]; exact ha.1 hpos, by simp only [Ref.i, Nat.zero_mul, Nat.zero_add, hz]; exact Nat.le_refl _⟩⟩
         ·simp only at hb1; rw [e] at hb1; cases hb1
    ·cases hd
   ·cases hd
  ·cases hd
 | .part g z, vs, rest, ρ, ρ', x, B, cs, h, hv, hB => by
  simp only [matV] at h
  unfold zdo at h
  split at h
  ·rename_i t r n z' l
   split at h
   ·rename_i hc
    obtain ⟨rfl, hz, ho⟩ := hc
    cases hv with
    | cons _ c _ cs h1 h2 =>
     split at h
     ·rename_i hf
      cases h
      refine ze7.new (b := β r.g) hB hf rfl h2 fun β1 n1 len _ hg hb _ => ?_
      have := zea (t' := true) h1 hg hb
      rw [hz, ho] at this
      exact this
     ·rename_i g' hf
      split at h
      ·rename_i hg'
       subst hg'
       cases h
       refine ze7.one hB h2 fun β1 n1 len hv => ?_
       obtain ⟨q1, q2, _⟩ := hv.at_ g _ hf
       have hs : B g = β r.g := hB g _ hf
       rw [hs] at q2
       have := zea (t' := true) h1 q1 q2
       rw [hz, ho] at this
       exact this
      ·cases h
     ·cases h
   ·cases h
  ·cases h
 | .nil, vs, rest, ρ, ρ', x, B, cs, h, hv, hB => by
  simp only [matV, Option.some.injEq, Prod.mk.injEq] at h
  obtain ⟨_, rfl, rfl⟩ := h
  exact ⟨Ext.refl _, B, hB, fun _ _ _ => rfl, [], cs, rfl, hv, fun _ _ _ _ => .nil⟩
 | .cat a b, vs, rest, ρ, ρ', x, B, cs, h, hv, hB => by
  simp only [matV] at h
  split at h
  ·rename_i xa l1 ρ1 ha
   split at h
   ·rename_i xb l2 ρ2 hb
    cases h
    obtain ⟨e1, B1, o1, k1, c1, c2, rfl, r1, f1⟩ := zed hR a ha hv hB
    obtain ⟨e2, B2, o2, k2, c3, c4, rfl, r2, f2⟩ := zed hR b hb r1 o1
    refine ⟨e1.trans e2, B2, o2, fun g s hs => by rw [k2 g s (e1 g s hs), k1 g s hs], c1 ++ c3, c4, by rw [List.append_assoc], r2, fun β1 n1 len hv => ?_⟩
    exact (f1 β1 n1 len (hv.less e2 k2)).append (f2 β1 n1 len hv)
   ·cases h
  ·cases h
 | .agg p, vs, rest, ρ, ρ', x, B, cs, h, hv, hB => by
  simp only [matV] at h
  split at h
  ·rename_i xs l
   split at h
   ·rename_i y ρ1 hp
    cases h
    cases hv with
    | cons _ c _ cs h1 h2 =>
     cases h1 with
     | agg _ ca h1 =>
      obtain ⟨e1, B1, o1, k1, c1, c2, hcc, r1, f1⟩ := zed hR p hp h1 hB
      cases r1
      rw [List.append_nil] at hcc
      refine ⟨e1, B1, o1, k1, [.agg ca], cs, rfl, h2, fun β1 n1 len hv => .one (.agg _ _ ?_)⟩
      rw [hcc]
      exact f1 β1 n1 len hv
   ·cases h
  ·cases h
 | .tup p, vs, rest, ρ, ρ', x, B, cs, h, hv, hB => by
  simp only [matV] at h
  split at h
  ·rename_i xs l
   split at h
   ·rename_i y ρ1 hp
    cases h
    cases hv with
    | cons _ c _ cs h1 h2 =>
     cases h1 with
     | tup _ ca h1 =>
      obtain ⟨e1, B1, o1, k1, c1, c2, hcc, r1, f1⟩ := zed hR p hp h1 hB
      cases r1
      rw [List.append_nil] at hcc
      refine ⟨e1, B1, o1, k1, [.tuple ca], cs, rfl, h2, fun β1 n1 len hv => .one (.tup _ _ ?_)⟩
      rw [hcc]
      exact f1 β1 n1 len hv
   ·cases h
  ·cases h
 | .func f p q, vs, rest, ρ, ρ', x, B, cs, h, hv, hB => by
  simp only [matV] at h
  split at h
  ·rename_i f' xs ys l
   split at h
   ·rename_i hf
    subst hf
    split at h
    ·rename_i y ρ1 hp
     split at h
     ·rename_i y2 ρ2 hq
      cases h
      cases hv with
      | cons _ c _ cs h1 h2 =>
       cases h1 with
       | func _ _ _ ca da h1 h3 =>
        obtain ⟨e1, B1, o1, k1, c1, c2, hcc, r1, f1⟩ := zed hR p hp h1 hB
        cases r1
        rw [List.append_nil] at hcc
        obtain ⟨e2, B2, o2, k2, d1, d2, hdd, r2, f2⟩ := zed hR q hq h3 o1
        cases r2
        rw [List.append_nil] at hdd
        refine ⟨e1.trans e2, B2, o2, fun g s hs => by rw [k2 g s (e1 g s hs), k1 g s hs], [.func f' ca da], cs, rfl, h2, fun β1 n1 len hv => .one (.func _ _ _ _ _ ?_ ?_)⟩
        ·rw [hcc]
         exact f1 β1 n1 len (hv.less e2 k2)
        ·rw [hdd]
         exact f2 β1 n1 len hv
     ·cases h
    ·cases h
   ·cases h
  ·cases h
end mat
end Go.Vx
end
section
namespace Go.Vx
section mat
variable {H : Heap} {β : At} {w : World}
theorem Lies.data {N N' : Nat} {β' : At} {cs : List AV} {ro ro' : Bool} {b : Base} (h : Lies N β w cs ro' b) (hd : cs.all AV.data = true) (hi : ∀ b o c, β.imm b o = some c -> β'.imm b o = some c) (hr : ro = false -> ro' = false) : Lies N' β' w cs ro b where
 cell := fun j v hv => by
  obtain ⟨c, hc, h1⟩ := h.cell j v hv
  exact ⟨c, hc, h1.data hi (List.all_eq_true.1 hd v (List.mem_of_getElem? hv))⟩
 plain := h.plain
 room := h.room
 nl := h.nl
 nr := fun e => h.nr (hr e)
 blk := h.blk
 free := fun e => h.free (hr e)
theorem Lies.window {N : Nat} {cs : List AV} {ro : Bool} {b : Base} (h : Lies N β w cs ro b) (i m:Nat) (hle : i + m <= cs.length) : Lies N β w ((cs.drop i).take m) true (b.shift i) where
 cell := fun j v hv => by
  have hj : j < m := by
   have := (List.getElem?_eq_some_iff.1 hv).1
   simp at this; omega
  rw [List.getElem?_take_of_lt hj, List.getElem?_drop] at hv
  obtain ⟨c, hc, h1⟩ := h.cell (i + j) v hv
  have hn : ¬ b.nil = true := fun e => by rw [h.nl e] at hv; simp at hv
  refine ⟨c, ?_, h1⟩
  unfold Base.shift
  rw [if_neg hn]
  rwa [← Nat.add_assoc] at hc
 plain := fun j v hv => by
  have hj : j < m := by
   have := (List.getElem?_eq_some_iff.1 hv).1
   simp at this; omega
  rw [List.getElem?_take_of_lt hj, List.getElem?_drop] at hv
  exact h.plain _ v hv
 room := by
  have h1 := h.room
  unfold Base.shift
  by_cases hn : b.nil = true
  ·rw [if_pos hn]
   rw [h.nl hn] at hle ⊢
   simp
  ·rw [if_neg hn]
   simp; omega
 nl := fun hn => by
  rw [Base.shift_nil] at hn
  rw [h.nl hn]
  simp
 nr := fun e => by cases e
 blk := fun hn => by
  rw [Base.shift_nil] at hn
  rw [Base.shift_blk]
  exact h.blk hn
 free := fun e => by cases e
theorem Lies.empty {N : Nat} {ro : Bool} {room : Nat} (h : ro = false -> room = 0) : Lies N β w [] ro (ze3 room) where
 cell := fun j v hv => by simp at hv
 plain := fun j v hv => by simp at hv
 room := by simp
 nl := fun _ => rfl
 nr := fun e _ => h e
 blk := fun hn => by cases hn
 free := fun _ hn => by cases hn
def zee (H : Heap) (β : At) (s : Src) (bs : Base) : Prop :=
 bs.nil = true ∨ (∃ g b, Src.row? (some s) = some g ∧ β g = some b ∧ b.nil = false ∧ bs.blk = b.blk) ∨ ∃ o c, β.imm bs.blk o = some c
def Mine (H : Heap) (β : At) (s : Src) (bs : Base) : Prop :=
 (s = .nil ∧ bs.nil = true) ∨ ∃ g cs e, Src.row? (some s) = some g ∧ β g = some bs ∧ H.row g = some (cs, e, false)
theorem zef (t : Ty) (L : List t.den) (e n:Nat) : encL t ((L.drop e).take n) = ((encL t L).drop (e * t.z)).take (n * t.z) := by rw [z08, z07]
theorem zeg (hR : Rel β H w) {t : Ty} {ro : Bool} {s : Src} {l : List t.den} {b : Option Base} (h : zdp H t ro s = some l) (hs : ze5 H.n β s b) :
  ∃ bs, b = some bs ∧ (∀ (β1 : At) n1, (∀ b o c, β.imm b o = some c -> β1.imm b o = some c) -> Lies n1 β1 w (encL t l) ro bs) ∧ zee H β s bs ∧ (ro = false -> Mine H β s bs) ∧ ze6 H s l.length := by
 unfold zdp at h
 split at h
 ·rename_i g
  split at h
  ·rename_i t' L e' ro' hg
   split at h
   ·rename_i ht
    subst ht
    split at h
    ·rename_i hro
     cases h
     have hrow : H.row g = some (encL t' L, e', ro') := by unfold Heap.row; rw [hg]; rfl
     obtain ⟨bs, hb⟩ := hR.tot _ _ _ _ hrow
     obtain ⟨cs1, e1, ro1, hrow1, hl⟩ := hR.lies _ _ hb
     rw [hrow] at hrow1
     cases hrow1
     have hs : b = β g := hs
     refine ⟨bs, by rw [hs, hb], fun β1 n1 hi => hl.data (ze1 _ _) hi hro, ?_, fun e => .inr ⟨g, _, _, rfl, hb, by rw [hro e] at hrow; exact hrow⟩, ?_⟩
     ·cases hn : bs.nil with
      | true => exact .inl hn
      | false => exact .inr (.inl ⟨g, bs, rfl, hb, hn, rfl⟩)
     ·intro z n hzn
      unfold zdj at hzn
      rw [hg] at hzn
      simp only at hzn
      split at hzn
      ·cases hzn; rfl
      ·cases hzn
    ·cases h
   ·cases h
  ·cases h
 ·rename_i g e n z
  split at h
  ·rename_i hz
   obtain ⟨hz, hz0⟩ := hz
   subst hz
   have hsb : b = (β g).map fun b => b.shift (e * t.z) := hs.1
   split at h
   ·rename_i t' L e' ro' hg
    split at h
    ·rename_i ht
     subst ht
     have hrow : H.row g = some (encL t' L, e', ro') := by unfold Heap.row; rw [hg]; rfl
     obtain ⟨bs, hb⟩ := hR.tot _ _ _ _ hrow
     obtain ⟨cs1, e1, ro1, hrow1, hl⟩ := hR.lies _ _ hb
     rw [hrow] at hrow1
     cases hrow1
     split at h
     ·split at h
      ·rename_i hle
       cases h
       refine ⟨bs.shift (e * t'.z), by rw [hsb, hb]; rfl, fun β1 n1 hi => ?_, ?_, fun e => (by cases e), ?_⟩
       ·have h1 := hl.window (e * t'.z) (n * t'.z) (by rw [z04, ← Nat.add_mul]; exact Nat.mul_le_mul_right _ hle)
        rw [← zef] at h1
        exact h1.data (ze1 _ _) hi (fun h => h)
       ·cases hn : bs.nil with
        | true => exact .inl (by rw [Base.shift_nil]; exact hn)
        | false => exact .inr (.inl ⟨g, bs, rfl, hb, hn, Base.shift_blk _ _⟩)
       ·show _ = n
        simp; omega
      ·cases h
     ·split at h
      ·rename_i hc
       obtain ⟨rfl, rfl, rfl⟩ := hc
       cases h
       refine ⟨bs, by rw [hsb, hb, Nat.zero_mul]; simp [Base.shift_zero], fun β1 n1 hi => hl.data (ze1 _ _) hi (fun h => h), ?_, fun _ => .inr ⟨g, _, _, rfl, hb, hrow⟩, rfl⟩
       cases hn : bs.nil with
       | true => exact .inl hn
       | false => exact .inr (.inl ⟨g, bs, rfl, hb, hn, rfl⟩)
      ·cases h
    ·cases h
   ·rename_i t' L e' hg
    split at h
    ·rename_i ht
     subst ht
     have hrow : H.row g = some (encL t' L, e', true) := by unfold Heap.row; rw [hg]; rfl
     obtain ⟨bs, hb⟩ := hR.tot _ _ _ _ hrow
     obtain ⟨cs1, e1, ro1, hrow1, hl⟩ := hR.lies _ _ hb
     rw [hrow] at hrow1
     cases hrow1
     split at h
     ·split at h
      ·rename_i hle
       cases h
       refine ⟨bs.shift (e * t'.z), by rw [hsb, hb]; rfl, fun β1 n1 hi => ?_, ?_, fun e => (by cases e), ?_⟩
       ·have h1 := hl.window (e * t'.z) (n * t'.z) (by rw [z04, ← Nat.add_mul]; exact Nat.mul_le_mul_right _ hle)
        rw [← zef] at h1
        exact h1.data (ze1 _ _) hi (fun h => h)
       ·cases hn : bs.nil with
        | true => exact .inl (by rw [Base.shift_nil]; exact hn)
        | false => exact .inr (.inl ⟨g, bs, rfl, hb, hn, Base.shift_blk _ _⟩)
       ·show _ = n
        simp; omega
      ·cases h
     ·cases h
    ·cases h
   ·rename_i cs e' ro' hg
    have hrow : H.row g = some (cs, e', ro') := by unfold Heap.row; rw [hg]; rfl
    obtain ⟨bs, hb⟩ := hR.tot _ _ _ _ hrow
    obtain ⟨cs1, e1, ro1, hrow1, hl⟩ := hR.lies _ _ hb
    rw [hrow] at hrow1
    cases hrow1
    have hlen : ∀ {cs' : List AV}, cs'.length = n * t.z -> Like cs' (encL t l) -> l.length = n := by
     intro cs' h1 h2
     have h3 := h2.1
     rw [z04, h1] at h3
     exact Nat.eq_of_mul_eq_mul_right (Nat.pos_of_ne_zero hz0) h3
    split at h
    ·split at h
     ·rename_i hle
      obtain ⟨hlk, _⟩ := z52 h
      refine ⟨bs.shift (e * t.z), by rw [hsb, hb]; rfl, fun β1 n1 hi => ?_, ?_, fun e => (by cases e), ?_⟩
      ·exact ((hl.window (e * t.z) (n * t.z) hle).like hlk).data (ze1 _ _) hi (fun h => h)
      ·cases hn : bs.nil with
       | true => exact .inl (by rw [Base.shift_nil]; exact hn)
       | false => exact .inr (.inl ⟨g, bs, rfl, hb, hn, Base.shift_blk _ _⟩)
      ·exact hlen (by simp; omega) hlk
     ·cases h
    ·split at h
     ·rename_i hc
      obtain ⟨rfl, hcl, rfl⟩ := hc
      obtain ⟨hlk, _⟩ := z52 h
      refine ⟨bs, by rw [hsb, hb, Nat.zero_mul]; simp [Base.shift_zero], fun β1 n1 hi => (hl.like hlk).data (ze1 _ _) hi (fun h => h), ?_, fun _ => .inr ⟨g, _, _, rfl, hb, hrow⟩, hlen hcl.symm hlk⟩
      cases hn : bs.nil with
      | true => exact .inl hn
      | false => exact .inr (.inl ⟨g, bs, rfl, hb, hn, rfl⟩)
     ·cases h
   ·cases h
  ·cases h
 ·cases h
  have hs : b = some (ze3 0) := hs
  exact ⟨ze3 0, hs, fun β1 n1 hi => Lies.empty fun _ => rfl, .inl rfl, fun _ => .inl ⟨rfl, rfl⟩, rfl⟩
 ·rename_i t' l'
  split at h
  ·rename_i ht
   subst ht
   split at h
   ·rename_i hc
    obtain ⟨rfl, hz0⟩ := hc
    cases h
    rcases hs with ⟨hnil, hb⟩ | ⟨hne, blk, off, room, cs, hb, hroom, hcs⟩
    ·subst hnil
     refine ⟨ze3 1, hb, fun β1 n1 hi => ?_, .inl rfl, fun e => (by cases e), rfl⟩
     exact Lies.empty fun e => by cases e
    ·have hpos : 0 < (encL t' l').length := by rw [z04]; exact Nat.mul_pos (List.length_pos_iff.2 hne) (Nat.pos_of_ne_zero hz0)
     obtain ⟨v0, hv0⟩ : ∃ v, (encL t' l')[0]? = some v := ⟨_, List.getElem?_eq_getElem hpos⟩
     refine ⟨_, hb, fun β1 n1 hi => ?_, .inr (.inr ⟨_, _, (hcs 0 v0 hv0).1⟩), fun e => (by cases e), rfl⟩
     exact {
      cell := fun j v hv => ⟨cs j, hR.immw _ _ _ (hcs j v hv).1, (hcs j v hv).2.data hi (ze2 hv)⟩
      plain := fun j v hv => List.all_eq_true.1 (z05 t' l') v (List.mem_of_getElem? hv)
      room := by rw [z04]; exact hroom
      nl := fun e => by cases e
      nr := fun e => by cases e
      blk := fun _ => hR.imm_lt (hcs 0 v0 hv0).1
      free := fun e => by cases e }
   ·cases h
  ·cases h
theorem VRel.cell_of {N : Nat} {v : AV} {c : Value} (h : VRel N β v c) (h1 : ∀ xs, c ≠ .agg xs) (h2 : ∀ xs, c ≠ .tuple xs) : v.cell = true := by
 cases h <;> first | rfl | exact absurd rfl (h1 _) | exact absurd rfl (h2 _)
theorem zeh (hR : Rel β H w) : (r : RP) -> {i : Nat} -> {ρ ρ' : Rho} -> {x : r.den} -> {B : Nat -> Option Base} -> matR H r (ρ.find i) ρ = some (x, ρ') -> OkB H.n β ρ B ->
  Ext ρ ρ' ∧ (ρ'.find i = ρ.find i) ∧ ∃ B' : Nat -> Option Base, OkB H.n β ρ' B' ∧ (∀ g s, ρ.find g = some s -> B' g = B g) ∧
   (r.dead? = false -> ∃ s bs, ρ.find i = some s ∧ B' i = some bs ∧ (∀ β1 n1 len, View H β ρ' B' β1 n1 len -> ∃ cs e, (encR r x len).row = some (cs, e, !r.rw) ∧ Lies n1 β1 w cs (!r.rw) bs) ∧ zee H β s bs ∧ (r.rw = true -> Mine H β s bs) ∧ ze6 H s (r.len x))
 | .dead, i, ρ, ρ', x, B, h, hB => by
  simp only [matR] at h
  cases h
  exact ⟨Ext.refl _, rfl, B, hB, fun _ _ _ => rfl, fun e => by cases e⟩
 | .vec t e ro, i, ρ, ρ', x, B, h, hB => by
  simp only [matR] at h
  split at h
  ·rename_i s hf
   obtain ⟨l, hl, he⟩ := map_some h
   cases he
   obtain ⟨bs, hb, h1, h2, h3, h4⟩ := zeg hR hl (hB i s hf)
   refine ⟨Ext.refl _, rfl, B, hB, fun _ _ _ => rfl, fun _ => ⟨s, bs, hf, hb, fun β1 n1 len hv => ⟨encL t x, e, by simp only [encR, AObj.row, RP.rw, Bool.not_not], ?_⟩, h2, fun e => h3 (by simpa [RP.rw] using e), h4⟩⟩
   have := h1 β1 n1 hv.imm
   simpa [RP.rw] using this
  ·cases h
 | .cells p e ro, i, ρ, ρ', x, B, h, hB => by
  simp only [matR] at h
  split at h
  ·rename_i g hf
   split at h
   ·rename_i cs e' ro' hg
    split at h
    ·rename_i hro
     split at h
     ·rename_i y ρ1 hp
      cases h
      have hrow : H.row g = some (cs, e', ro') := by unfold Heap.row; rw [hg]; rfl
      obtain ⟨bs, hb⟩ := hR.tot _ _ _ _ hrow
      obtain ⟨cs1, e1, ro1, hrow1, hl⟩ := hR.lies _ _ hb
      rw [hrow] at hrow1
      cases hrow1
      obtain ⟨vs, hvl, hvc, hvr⟩ := z4o hl 0 cs.length (by omega)
      rw [List.drop_zero, List.take_length] at hvr
      obtain ⟨ex, B', oB, kB, c1, c2, hcc, r1, f1⟩ := zed hR p hp hvr hB
      cases r1
      rw [List.append_nil] at hcc
      subst hcc
      have hBi : B' i = some bs := by
       rw [kB i _ hf]
       have hs : B i = β g := hB i _ hf
       rw [hs, hb]
      refine ⟨ex, ?_, B', oB, kB, fun _ => ⟨_, bs, hf, hBi, fun β1 n1 len hv => ⟨encV p x len, e, by simp only [encR, AObj.row, RP.rw, Bool.not_not], ?_⟩, ?_, fun e => .inr ⟨g, _, _, rfl, hb, by rw [hro (by simpa [RP.rw] using e)] at hrow; exact hrow⟩, ?_⟩⟩
      ·rw [hf]; exact ex _ _ hf
      ·have hvs := f1 β1 n1 len hv
       have hlen := hvs.length
       have e1 : (!(RP.cells p e ro).rw) = ro := by simp [RP.rw]
       rw [e1]
       exact {
        cell := fun j v hv => by
         obtain ⟨c, hc, hr⟩ := hvs.at j v hv
         have := hvc j c hc
         rw [z4n, Nat.zero_add] at this
         exact ⟨c, this, hr⟩
        plain := fun j v hv => by
         obtain ⟨c, hc, hr⟩ := hvs.at j v hv
         have hj : j < vs.length := (List.getElem?_eq_some_iff.1 hc).1
         have hj' : j < cs.length := by omega
         obtain ⟨c', hc', hr'⟩ := hvr.at j cs[j] (List.getElem?_eq_getElem hj')
         rw [hc] at hc'
         cases hc'
         obtain ⟨q1, q2⟩ := hr'.one (hl.plain j _ (List.getElem?_eq_getElem hj'))
         exact hr.cell_of q1 q2
        room := by have := hl.room; omega
        nl := fun hn => by
         have := hl.nl hn
         rw [this] at hvl
         simp only [List.length_nil] at hvl
         exact List.length_eq_zero_iff.1 (by omega)
        nr := fun e => hl.nr (hro e)
        blk := hl.blk
        free := fun e => hl.free (hro e) }
      ·cases hn : bs.nil with
       | true => exact .inl hn
       | false => exact .inr (.inl ⟨g, bs, rfl, hb, hn, rfl⟩)
      ·intro z n hzn
       unfold zdj at hzn
       rw [hg] at hzn
       cases hzn
     ·cases h
    ·cases h
   ·cases h
  ·cases h
theorem zei (hR : Rel β H w) : (rs : List RP) -> {i : Nat} -> {ρ ρ' : Rho} -> {x : rowsDen rs} -> {B : Nat -> Option Base} -> zdq H rs i ρ = some (x, ρ') -> OkB H.n β ρ B ->
  Ext ρ ρ' ∧ ∃ B' : Nat -> Option Base, OkB H.n β ρ' B' ∧ (∀ g s, ρ.find g = some s -> B' g = B g) ∧
   ∀ j r, rs[j]? = some r -> 
    (r.dead? = false -> ∃ s bs, ρ'.find (i + j) = some s ∧ B' (i + j) = some bs ∧ (∀ β1 n1 len, View H β ρ' B' β1 n1 len -> ∃ cs e, ((zd5 rs x len)[j]?.bind AObj.row) = some (cs, e, !r.rw) ∧ Lies n1 β1 w cs (!r.rw) bs) ∧ zee H β s bs ∧ (r.rw = true -> Mine H β s bs) ∧ ze6 H s (lens rs x j))
 | [], i, ρ, ρ', x, B, h, hB => by
  simp only [zdq] at h
  cases h
  exact ⟨Ext.refl _, B, hB, fun _ _ _ => rfl, fun j r hr => by simp at hr⟩
 | r :: rs, i, ρ, ρ', x, B, h, hB => by
  simp only [zdq] at h
  split at h
  ·rename_i x1 ρ1 h1
   split at h
   ·rename_i xs ρ2 h2
    cases h
    obtain ⟨e1, f1, B1, o1, k1, g1⟩ := zeh hR r h1 hB
    obtain ⟨e2, B2, o2, k2, g2⟩ := zei hR rs h2 o1
    refine ⟨e1.trans e2, B2, o2, fun g s hs => by rw [k2 g s (e1 g s hs), k1 g s hs], fun j r' hr' => ?_⟩
    cases j with
    | zero =>
     simp only [List.getElem?_cons_zero, Option.some.injEq] at hr'
     subst hr'
     intro hd
     obtain ⟨s, bs, hs, hb, q1, q2, q3, q4⟩ := g1 hd
     have hs1 : ρ1.find i = some s := e1 _ _ hs
     refine ⟨s, bs, by rw [Nat.add_zero]; exact e2 _ _ hs1, by rw [Nat.add_zero, k2 i s hs1]; exact hb, fun β1 n1 len hv => ?_, q2, q3, q4⟩
     obtain ⟨cs, e, hrow, hl⟩ := q1 β1 n1 len (hv.less e2 k2)
     exact ⟨cs, e, by simpa [zd5] using hrow, hl⟩
    | succ j =>
     simp only [List.getElem?_cons_succ] at hr'
     have q := g2 j r' hr'
     intro hd
     have e3 : i + (j + 1) = i + 1 + j := by omega
     rw [e3]
     obtain ⟨s, bs, hs, hb, q1, q2, q3, q4⟩ := q hd
     refine ⟨s, bs, hs, hb, fun β1 n1 len hv => ?_, q2, q3, q4⟩
     obtain ⟨cs, e, hrow, hl⟩ := q1 β1 n1 len hv
     exact ⟨cs, e, by simpa [zd5] using hrow, hl⟩
   ·cases h
  ·cases h
end mat
end Go.Vx
end
section
namespace Go.Vx
theorem zej {g : Nat} : ∀ {l : List (Option Nat × Bool)}, zds g l = true -> ∀ {j : Nat} {g' : Nat} {b : Bool}, l[j]? = some (some g', b) -> g ≠ g'
 | [], _, j, g', b, hj => by simp at hj
 | (none, c) :: l, h, j, g', b, hj => by
  cases j with
  | zero => simp at hj
  | succ j => exact zej (by simpa only [zds] using h) (by simpa using hj)
 | (some g0, c) :: l, h, j, g', b, hj => by
  simp only [zds, Bool.and_eq_true, Bool.not_eq_true'] at h
  cases j with
  | zero => simp at hj; rw [← hj.1]; exact Nat.ne_of_beq_eq_false h.1
  | succ j => exact zej h.2 (by simpa using hj)
theorem zek {g : Nat} : ∀ {l : List (Option Nat × Bool)}, noRw g l = true -> ∀ {j : Nat} {g' : Nat}, l[j]? = some (some g', true) -> g ≠ g'
 | [], _, j, g', hj => by simp at hj
 | (none, c) :: l, h, j, g', hj => by
  cases j with
  | zero => simp at hj
  | succ j => exact zek (by simpa only [noRw] using h) (by simpa using hj)
 | (some g0, c) :: l, h, j, g', hj => by
  simp only [noRw, Bool.and_eq_true, Bool.not_eq_true'] at h
  cases j with
  | zero =>
   simp at hj
   obtain ⟨rfl, rfl⟩ := hj
   rw [Bool.and_true] at h
   exact Nat.ne_of_beq_eq_false h.1
  | succ j => exact zek h.2 (by simpa using hj)
theorem zel : ∀ {l : List (Option Nat × Bool)}, zdt l = true -> ∀ {i j : Nat} {g g' : Nat} {b : Bool}, l[i]? = some (some g, true) -> l[j]? = some (some g', b) -> i ≠ j -> g ≠ g'
 | [], _, i, j, g, g', b, hi, hj, hne => by simp at hi
 | (none, c) :: l, h, i, j, g, g', b, hi, hj, hne => by
  cases i with
  | zero => simp at hi
  | succ i =>
   cases j with
   | zero => simp at hj
   | succ j => exact zel (by simpa only [zdt] using h) (by simpa using hi) (by simpa using hj) (by omega)
 | (some g0, c) :: l, h, i, j, g, g', b, hi, hj, hne => by
  cases c with
  | true =>
   simp only [zdt, Bool.and_eq_true] at h
   cases i with
   | zero =>
    simp at hi
    subst hi
    cases j with
    | zero => exact absurd rfl hne
    | succ j => exact zej h.1 (by simpa using hj)
   | succ i =>
    cases j with
    | zero =>
     simp at hj
     rw [← hj.1]
     exact (zej h.1 (show l[i]? = some (some g, true) by simpa using hi)).symm
    | succ j => exact zel h.2 (by simpa using hi) (by simpa using hj) (by omega)
  | false =>
   simp only [zdt, Bool.and_eq_true] at h
   cases i with
   | zero => simp at hi
   | succ i =>
    cases j with
    | zero =>
     simp at hj
     rw [← hj.1]
     exact (zek h.1 (show l[i]? = some (some g, true) by simpa using hi)).symm
    | succ j => exact zel h.2 (by simpa using hi) (by simpa using hj) (by omega)
theorem zem (ρ : Rho) : ∀ (rs : List RP) (i j:Nat), (zdr ρ rs i)[j]? = (rs[j]?).map fun r => bif r.dead? then (none, false) else (Src.row? (ρ.find (i + j)), r.rw)
 | [], i, j => by simp [zdr]
 | r :: rs, i, j => by
  cases j with
  | zero => simp [zdr]
  | succ j => simp only [zdr, List.getElem?_cons_succ, zem ρ rs (i + 1) j, show i + 1 + j = i + (j + 1) from by omega]
theorem zen {n : Nat} : ∀ {ρ : Rho}, zdv n ρ = true -> ∀ {g : Nat} {s : Src}, ρ.find g = some s -> g < n
 | [], _, g, s, hs => by simp [Rho.find] at hs
 | (i, s0) :: ρ, h, g, s, hs => by
  simp only [zdv, Bool.and_eq_true] at h
  rw [Rho.find_cons] at hs
  split at hs
  ·rename_i e; rw [← e]; exact Nat.blt_eq.mp h.1
  ·exact zen h.2 hs
theorem zeo {H : Heap} {ρ : Rho} : ∀ {rs : List RP} {i : Nat}, zdu H ρ rs i = true -> ∀ {j : Nat} {r : RP}, rs[j]? = some r -> r.dead? = true -> ∀ {s : Src}, ρ.find (i + j) = some s -> ∃ g, s = .whole g
 | [], i, _, j, r, hr, _, s, _ => by simp at hr
 | r0 :: rs, i, h, j, r, hr, hd, s, hs => by
  simp only [zdu, Bool.and_eq_true] at h
  cases j with
  | zero =>
   simp at hr
   subst hr
   rw [Nat.add_zero] at hs
   have h1 := h.1
   rw [hd, hs] at h1
   cases s with
   | whole g => exact ⟨g, rfl⟩
   | win _ _ _ _ => cases h1
   | nil => cases h1
   | inl _ _ => cases h1
  | succ j => exact zeo h.2 (by simpa using hr) hd (by rwa [show i + 1 + j = i + (j + 1) from by omega])
def Dom.at_ (D : Dom) (β : At) (B : Nat -> Option Base) : At := { base := fun i => if D.live i = true then B i else none, imm := β.imm }
theorem Dom.row_eq (D : Dom) (x : D.den) (i:Nat) : (D.heap x).row i = (zd5 D.rows x.1 (D.len x))[i]?.bind AObj.row := by unfold Heap.row; rw [D.heap_get]
theorem zep : ∀ (rs : List RP) (x : rowsDen rs) (len : Nat -> Nat) (i:Nat) (r : RP), rs[i]? = some r -> r.dead? = true -> (zd5 rs x len)[i]?.bind AObj.row = none
 | [], _, _, i, r, h, _ => by simp at h
 | r0 :: rs, x, len, i, r, h, hd => by
  cases i with
  | zero =>
   simp at h
   subst h
   cases r0 <;> simp [RP.dead?] at hd
   simp [zd5, encR, AObj.row]
  | succ i => simpa [zd5] using zep rs x.2 len i r (by simpa using h) hd
theorem zeq (t : Ty) (l : List t.den) (e : TypeId) : ∀ (rs : List RP) (x : rowsDen rs) (len : Nat -> Nat) (i:Nat), (zd5 rs x len)[i]? ≠ some (.fro t l e)
 | [], x, len, i, h => by simp [zd5] at h
 | r :: rs, x, len, i, h => by
  cases i with
  | zero => cases r <;> simp [zd5, encR] at h
  | succ i => exact zeq t l e rs x.2 len i (by simpa [zd5] using h)
section cast
variable {H : Heap} {β : At} {w : World}
structure Cast (D : Dom) (x : D.den) (H : Heap) (β : At) (w : World) (ρ : Rho) (B : Nat -> Option Base) (cs : List Value) : Prop where
 okB : OkB H.n β ρ B
 rel : Rel (D.at_ β B) (D.heap x) w
 args : z2i D.rows.length (D.at_ β B) (D.args x) cs
 muts : ∀ k, Mut (D.at_ β B) (D.heap x) k -> Mut β H k
 row : ∀ i r, D.rows[i]? = some r -> r.dead? = false -> ∃ s bs, ρ.find i = some s ∧ B i = some bs ∧ (∃ cs e, (D.heap x).row i = some (cs, e, !r.rw)) ∧ zee H β s bs ∧ (r.rw = true -> Mine H β s bs)
 inj : zdt (zdr ρ D.rows 0) = true
 dead : ∀ i r, D.rows[i]? = some r -> r.dead? = true -> ∀ s, ρ.find i = some s -> ∃ g, s = .whole g
theorem zer (hR : Rel β H w) {D : Dom} {vs : List AV} {ρ0 ρ : Rho} {x : D.den} (h : D.mat vs H ρ0 = some (x, ρ)) {cs : List Value} (hv : z2i H.n β vs cs) {B0 : Nat -> Option Base} (h0 : OkB H.n β ρ0 B0) :
  ∃ B, Cast D x H β w ρ B cs ∧ Ext ρ0 ρ ∧ ∀ g s, ρ0.find g = some s -> B g = B0 g := by
 unfold Dom.mat at h
 split at h
 ·rename_i xv ρ1 h1
  split at h
  ·rename_i xr ρ2 h2
   split at h
   ·rename_i hc
    cases h
    obtain ⟨hbelow, hinj, hdead, hslsOk⟩ := hc
    obtain ⟨e1, B1, o1, k1, c1, c2, rfl, r1, f1⟩ := zed hR D.vals h1 hv h0
    cases r1
    rw [List.append_nil]
    obtain ⟨e2, B2, o2, k2, g2⟩ := zei hR D.rows h2 o1
    have hq : ∀ i r, D.rows[i]? = some r -> r.dead? = false -> ∃ s bs, ρ.find i = some s ∧ B2 i = some bs ∧ (∀ β1 n1 len, View H β ρ B2 β1 n1 len -> ∃ cs e, ((zd5 D.rows xr len)[i]?.bind AObj.row) = some (cs, e, !r.rw) ∧ Lies n1 β1 w cs (!r.rw) bs) ∧ zee H β s bs ∧ (r.rw = true -> Mine H β s bs) ∧ ze6 H s (lens D.rows xr i) := by
     intro i r hr hd
     have := g2 i r hr hd
     simpa only [Nat.zero_add] using this
    have hdd : ∀ i r, D.rows[i]? = some r -> r.dead? = true -> ∀ s, ρ.find i = some s -> ∃ g, s = .whole g := fun i r hr hd s hs => zeo hdead hr hd (by rwa [Nat.zero_add])
    let len' : Nat -> Nat := fun g => match D.live g, ρ.find g with
     | false, some (.whole g') => match H.get g' with
      | some (.vec t l _ _) => l.length
      | _ => 0
     | _, _ => D.len (xr, xv) g
    have hlen' : ∀ g, D.live g = true -> len' g = D.len (xr, xv) g := fun g hg => by simp only [len', hg]
    have hall : ∀ g, g ∈ D.vals.sls ++ zdw D.rows -> len' g = D.len (xr, xv) g := fun g hg => hlen' g (List.all_eq_true.1 hslsOk g hg)
    have hvE : encV D.vals xv len' = encV D.vals xv (D.len (xr, xv)) := zdy _ _ _ _ fun g hg => hall g (List.mem_append_left _ hg)
    have hrE : zd5 D.rows xr len' = zd5 D.rows xr (D.len (xr, xv)) := zdz _ _ _ _ fun g hg => hall g (List.mem_append_right _ hg)
    have hview : View H β ρ B2 (D.at_ β B2) D.rows.length len' := by
     refine ⟨fun _ _ _ h => h, fun g s hs => ?_⟩
     have hlt := zen hbelow hs
     have hr : D.rows[g]? = some D.rows[g] := List.getElem?_eq_getElem hlt
     refine ⟨hlt, ?_, ?_⟩
     ·show (if D.live g = true then B2 g else none) = B2 g ∨ (if D.live g = true then B2 g else none) = none
      by_cases hl : D.live g = true
      ·rw [if_pos hl]; exact .inl rfl
      ·rw [if_neg hl]; exact .inr rfl
     ·cases hd : D.rows[g].dead? with
      | false =>
       obtain ⟨s', bs, hs', _, _, _, _, hl⟩ := hq g _ hr hd
       rw [hs] at hs'
       cases hs'
       rw [hlen' g (by unfold Dom.live; rw [hr]; simp [hd])]
       exact hl
      | true =>
       obtain ⟨g', rfl⟩ := hdd g _ hr hd s hs
       have hld : D.live g = false := by unfold Dom.live; rw [hr]; simp [hd]
       intro z n hzn
       unfold zdj at hzn
       simp only [len', hld, hs]
       split at hzn
       ·rename_i t l e ro hg
        try rw [hg]
        split at hzn
        ·simpa using hzn
        ·cases hzn
       ·cases hzn
    have hview1 : ∀ i r, D.rows[i]? = some r -> r.dead? = false -> ∀ bs, B2 i = some bs -> ∃ cs e, ((zd5 D.rows xr (D.len (xr, xv)))[i]?.bind AObj.row) = some (cs, e, !r.rw) ∧ Lies D.rows.length (D.at_ β B2) w cs (!r.rw) bs := fun i r hr hd bs hbs => by
     obtain ⟨s, bs', hs, hbs', q1, _⟩ := hq i r hr hd
     rw [hbs] at hbs'
     cases hbs'
     have := q1 _ _ _ hview
     rwa [hrE] at this
    have hlive : ∀ i b, (D.at_ β B2) i = some b -> ∃ r, D.rows[i]? = some r ∧ r.dead? = false ∧ B2 i = some b := by
     intro i b hb
     have hb : (if D.live i = true then B2 i else none) = some b := hb
     split at hb
     ·rename_i hl
      unfold Dom.live at hl
      split at hl
      ·rename_i r hr; exact ⟨r, hr, by simpa using hl, hb⟩
      ·cases hl
     ·cases hb
    have hat : ∀ i r, D.rows[i]? = some r -> r.dead? = false -> (D.at_ β B2) i = B2 i := by
     intro i r hr hd
     show (if D.live i = true then B2 i else none) = B2 i
     rw [if_pos (by unfold Dom.live; rw [hr]; simp [hd])]
    have hrow : ∀ i cs e ro, (D.heap (xr, xv)).row i = some (cs, e, ro) -> ∃ r, D.rows[i]? = some r ∧ r.dead? = false ∧ ro = !r.rw := by
     intro i cs e ro hi
     rw [D.row_eq] at hi
     cases hr : D.rows[i]? with
     | none =>
      have : D.rows.length <= i := List.getElem?_eq_none_iff.1 hr
      rw [List.getElem?_eq_none (by rw [zd6]; exact this)] at hi
      cases hi
     | some r =>
      cases hd : r.dead? with
      | true => rw [zep _ _ _ _ _ hr hd] at hi; cases hi
      | false =>
       obtain ⟨s, bs, _, hbs1, q1, _⟩ := hq i r hr hd
       obtain ⟨cs', e', hrow', _⟩ := hview1 i r hr hd bs hbs1
       have hi' : (zd5 D.rows xr (D.len (xr, xv)))[i]?.bind AObj.row = some (cs, e, ro) := hi
       rw [hrow'] at hi'
       cases hi'
       exact ⟨r, rfl, hd, rfl⟩
    have hmut : ∀ k, Mut (D.at_ β B2) (D.heap (xr, xv)) k -> Mut β H k := by
     rintro k ⟨i, b, cs, e, hb, hr0, hn, rfl⟩
     obtain ⟨r, hr, hd, hBi⟩ := hlive i b hb
     obtain ⟨r', hr', hd', hrw⟩ := hrow i cs e false hr0
     rw [hr] at hr'
     cases hr'
     obtain ⟨s, bs, hs, hbs, _, _, hmine, _⟩ := hq i r hr hd
     rw [hBi] at hbs
     cases hbs
     rcases hmine (by simpa using hrw) with ⟨_, h⟩ | ⟨g, cs', e', _, hg, hrow'⟩
     ·rw [hn] at h; cases h
     ·exact ⟨g, b, cs', e', hg, hrow', hn, rfl⟩
    have hargs : z2i D.rows.length (D.at_ β B2) (D.args (xr, xv)) c1 := by
     have := f1 _ _ _ (hview.less e2 k2)
     rw [hvE] at this
     exact (Dom.args_eq D (xr, xv)) ▸ this
    refine ⟨B2, ⟨o2, ?_, hargs, hmut, fun i r hr hd => ?_, hinj, hdd⟩, e1.trans e2, fun g s hs => by rw [k2 g s (e1 g s hs), k1 g s hs]⟩
    ·exact {
      lies := fun i b hb => by
       obtain ⟨r, hr, hd, hBi⟩ := hlive i b hb
       obtain ⟨s, bs, hs, hbs, q1, _⟩ := hq i r hr hd
       rw [hBi] at hbs
       cases hbs
       obtain ⟨cs, e, h1, h2⟩ := hview1 i r hr hd _ hBi
       exact ⟨cs, e, _, by rw [D.row_eq]; exact h1, by rw [D.heap_n]; exact h2⟩
      tot := fun i cs e ro hi => by
       obtain ⟨r, hr, hd, _⟩ := hrow i cs e ro hi
       obtain ⟨s, bs, hs, hbs, _⟩ := hq i r hr hd
       exact ⟨bs, by rw [hat i r hr hd]; exact hbs⟩
      fresh := fun i o ho => by
       rw [D.heap_get] at ho
       rw [D.heap_n, ← zd6 D.rows xr (D.len (xr, xv))]
       exact (List.getElem?_eq_some_iff.1 ho).1
      apart := fun i j b b' cs e hne hb hb' hr0 hn hn' hblk => by
       obtain ⟨r, hr, hd, hBi⟩ := hlive i b hb
       obtain ⟨r2, hr2, hd2, hBj⟩ := hlive j b' hb'
       obtain ⟨r', hr', _, hrw⟩ := hrow i cs e false hr0
       rw [hr] at hr'
       cases hr'
       obtain ⟨s, bs, hs, hbs, _, _, hmine, _⟩ := hq i r hr hd
       obtain ⟨s2, bs2, hs2, hbs2, _, hwhose, _, _⟩ := hq j r2 hr2 hd2
       rw [hBi] at hbs
       cases hbs
       rw [hBj] at hbs2
       cases hbs2
       have hrw' : r.rw = true := by simpa using hrw
       rcases hmine hrw' with ⟨_, h⟩ | ⟨g, cs', e', hsg, hg, hrow'⟩
       ·rw [hn] at h; cases h
       ·rcases hwhose with h | ⟨g2, b2, hsg2, hg2, hn2, hblk2⟩ | ⟨o, c, hc⟩
        ·rw [hn'] at h; cases h
        ·have hi1 : (zdr ρ D.rows 0)[i]? = some (some g, true) := by rw [zem, hr]; simp [hd, hs, hsg, hrw']
         have hj1 : (zdr ρ D.rows 0)[j]? = some (some g2, r2.rw) := by rw [zem, hr2]; simp [hd2, hs2, hsg2]
         have hgg := zel hinj hi1 hj1 hne
         exact hR.apart g g2 b b2 cs' e' hgg hg hg2 hrow' hn hn2 (by rw [hblk, hblk2])
        ·exact hR.immm _ _ _ hc ⟨g, b, cs', e', hg, hrow', hn, hblk⟩
      immw := hR.immw
      immm := fun b o c hc hm => hR.immm b o c hc (hmut b hm)
      glob := hR.glob
      tab := hR.tab
      fro := fun g t l e b hg => by
       rw [Dom.heap_get] at hg
       exact absurd hg (zeq _ _ _ _ _ _ _) }
    ·obtain ⟨s, bs, hs, hbs, q1, q2, q3, _⟩ := hq i r hr hd
     obtain ⟨cs, e, h1, _⟩ := hview1 i r hr hd bs hbs
     exact ⟨s, bs, hs, hbs, ⟨cs, e, by rw [D.row_eq]; exact h1⟩, q2, q3⟩
   ·cases h
  ·cases h
 ·cases h
def zes : Nat -> Rho
 | 0 => []
 | k + 1 => (k, .whole k) :: zes k
theorem zet : ∀ (k g:Nat), (zes k).find g = if g < k then some (.whole g) else none
 | 0, g => by simp [zes, Rho.find]
 | k + 1, g => by
  rw [zes, Rho.find_cons, zet k]
  by_cases e : k = g
  ·subst e; simp
  ·rw [if_neg e]
   by_cases h : g < k
   ·rw [if_pos h, if_pos (by omega)]
   ·rw [if_neg h, if_neg (by omega)]
theorem zeu (hR : Rel β H w) {D : Dom} {vs : List AV} {K : Nat} {ρ : Rho} {x : D.den} (h : D.mat vs H (zes K) = some (x, ρ)) (hK : K <= D.rows.length) {cs : List Value} (hv : z2i H.n β vs cs) {S : zcs} (hSK : S.H.n = K) (hS : S.le β H w) :
  ∃ β1, Rel β1 (D.heap x) w ∧ S.le β1 (D.heap x) w ∧ z2i (D.heap x).n β1 (D.args x) cs := by
 obtain ⟨B, hc, hext, hB⟩ := zer hR h hv (B0 := β) (fun g s hs => by
  rw [zet] at hs
  split at hs
  ·cases hs; rfl
  ·cases hs)
 have hf : ∀ g, g < K -> ρ.find g = some (.whole g) ∧ B g = β g := fun g hg => by
  have h1 : (zes K).find g = some (.whole g) := by rw [zet, if_pos hg]
  exact ⟨hext _ _ h1, hB _ _ h1⟩
 refine ⟨D.at_ β B, hc.rel, ?_, by rw [D.heap_n]; exact hc.args⟩
 refine ⟨hS.os, hS.tape, hS.output, hS.size, by rw [D.heap_n, hSK]; exact hK, ⟨fun g hg => ?_, hS.keeps.2⟩, fun g cs' e hro => ?_, hS.imm, hS.blocks, fun k hk => hS.turn k (hc.muts k hk)⟩
 ·rw [hSK] at hg
  have hBg := (hf g hg).2
  show (if D.live g = true then B g else none) = _ ∨ (if D.live g = true then B g else none) = none
  by_cases hl : D.live g = true
  ·rw [if_pos hl, hBg]; exact hS.keeps.1 g (by omega)
  ·rw [if_neg hl]; exact .inr rfl
 ·have hg : g < K := by
   rw [← hSK]
   unfold Heap.row at hro
   cases ho : S.H.get g with
   | none => rw [ho] at hro; cases hro
   | some o => exact S.fresh g o ho
  obtain ⟨hfg, hBg⟩ := hf g hg
  have hr : D.rows[g]? = some D.rows[g] := List.getElem?_eq_getElem (by omega)
  have hgn : g < (D.heap x).n := by rw [D.heap_n]; omega
  cases hd : D.rows[g].dead? with
  | true => exact .inr ⟨hgn, by show (if D.live g = true then B g else none) = none; rw [if_neg (by unfold Dom.live; rw [hr]; simp [hd])]⟩
  | false => ?_
  rcases hS.ro g cs' e hro with ⟨h1, cs1, e1, h2⟩ | ⟨_, h2⟩
  case inr => exact .inr ⟨hgn, by show (if D.live g = true then B g else none) = none; rw [hBg, h2]; simp⟩
  left
  obtain ⟨s, bs, hs, hbs, ⟨cs2, e2, hrow⟩, _, hmine⟩ := hc.row g _ hr hd
  rw [hfg] at hs
  cases hs
  refine ⟨?_, cs2, e2, ?_⟩
  ·show (if D.live g = true then B g else none) = _
   rw [if_pos (by unfold Dom.live; rw [hr]; simp [hd]), hBg]
   exact h1
  ·have hrw : D.rows[g].rw = false := by
    cases hrw : D.rows[g].rw with
    | false => rfl
    | true =>
     rcases hmine hrw with ⟨h, _⟩ | ⟨g', cs3, e3, hs3, _, h3⟩
     ·cases h
     ·simp only [Src.row?, Option.some.injEq] at hs3
      subst hs3
      rw [h2] at h3
      cases h3
   rw [hrow, hrw]
   rfl
end cast
end Go.Vx
end
section
namespace Go.Vx
def zev (ρ : Rho) (i:Nat) : Bool := match ρ.find i with
 | some .nil => true
 | _ => false
def zew (ρ : Rho) (n1 N1:Nat) : List Nat := (List.range N1).filter fun i => Nat.ble n1 i || zev ρ i
def zex (ρ : Rho) : List RP -> Nat -> List (Nat × Nat)
 | [], _ => []
 | r :: rs, i => match r.rw, Src.row? (ρ.find i) with
  | true, some g => (g, i) :: zex ρ rs (i + 1)
  | _, _ => zex ρ rs (i + 1)
def idx (i:Nat) : List Nat -> Nat
 | [] => 0
 | j :: l => bif Nat.beq i j then 0 else idx i l + 1
inductive Dest where
 | row (g:Nat)
 | win (g e z:Nat)
 | inl (t : Ty) (l : List t.den)
structure Way where
 ρ : Rho
 n1 : Nat
 N : Nat
 new : List Nat
 live : Nat -> Bool
def Heap.isLive (H : Heap) (i:Nat) : Bool := match H.get i with
 | none => false
 | some .dead => false
 | some _ => true
theorem Heap.isLive_row {H : Heap} {i : Nat} (h : H.isLive i = true) : ∃ cs e ro, H.row i = some (cs, e, ro) := by
 unfold Heap.isLive at h
 unfold Heap.row
 cases e : H.get i with
 | none => rw [e] at h; cases h
 | some o =>
  rw [e] at h
  cases o with
  | dead => cases h
  | cells cs e ro => exact ⟨_, _, _, rfl⟩
  | vec t l e ro => exact ⟨_, _, _, rfl⟩
  | fro t l e => exact ⟨_, _, _, rfl⟩
def Way.to (W : Way) (i:Nat) : Option Dest :=
 match (bif Nat.blt i W.n1 then (bif W.live i then W.ρ.find i else none) else some .nil) with
 | some (.whole g) => some (.row g)
 | some (.win g e _ z) => some (.win g e z)
 | some .nil => some (.row (W.N + idx i W.new))
 | some (.inl t l) => some (.inl t l)
 | none => none
mutual
def back (W : Way) : AV -> Option AV
 | .ptr t none => some (.ptr t none)
 | .ptr t (some r) => match W.to r.g with
  | some (.row g) => some (.ptr t (some ⟨g, r.e, r.z, r.o⟩))
  | some (.win g e z) => if r.z = z then some (.ptr t (some ⟨g, e + r.e, r.z, r.o⟩)) else none
  | some (.inl t' l) => if r.z = t'.z then some (.eptr t' l r.e r.o) else none
  | none => none
 | .slice t none n z => some (.slice t none n z)
 | .slice t (some r) n z => match W.to r.g with
  | some (.row g) => some (.slice t (some ⟨g, r.e, r.z, r.o⟩) n z)
  | some (.win g e z') => if r.z = z' then some (.slice t (some ⟨g, e + r.e, r.z, r.o⟩) n z) else none
  | some (.inl t' l) => if r.z = t'.z ∧ r.o = 0 ∧ z = t'.z ∧ r.e + n <= l.length then some (.vec t' ((l.drop r.e).take n)) else none
  | none => none
 | .agg l => (zey W l).map .agg
 | .tup l => (zey W l).map .tup
 | .func f a b => match zey W a, zey W b with
  | some a', some b' => some (.func f a' b')
  | _, _ => none
 | v => some v
def zey (W : Way) : List AV -> Option (List AV)
 | [] => some []
 | v :: l => match back W v, zey W l with
  | some v', some l' => some (v' :: l')
  | _, _ => none
end
def zez (W : Way) : Option AObj -> Option AObj
 | none => some .dead
 | some .dead => some .dead
 | some (.cells cs e ro) => (zey W cs).map fun cs' => .cells cs' e ro
 | some (.vec t l e ro) => some (.vec t l e ro)
 | some (.fro _ _ _) => none
def zf0 (W : Way) (o : Option AObj) : Option AObj := match o with
 | some (.cells cs e false) => (zey W cs).map fun cs' => .cells cs' e false
 | some (.vec t l e false) => some (.vec t l e false)
 | some (.cells _ _ true) => none
 | some (.vec _ _ _ true) => none
 | some (.fro _ _ _) => none
 | _ => some .dead
def zf1 : Heap -> List (Nat × AObj) -> Heap
 | H, [] => H
 | H, (g, o) :: l => (zf1 H l).set g o
def zf2 (W : Way) (H1 : Heap) : List (Nat × Nat) -> Option (List (Nat × AObj))
 | [] => some []
 | (g, i) :: l => match zez W (H1.get i), zf2 W H1 l with
  | some o, some os => some ((g, o) :: os)
  | _, _ => none
def zf3 (W : Way) (i:Nat) : Bool := Nat.blt i W.n1
def zf4 (W : Way) (H1 : Heap) : List Nat -> Option (List AObj)
 | [] => some []
 | i :: l => match (bif zf3 W i then zez W (H1.get i) else zf0 W (H1.get i)), zf4 W H1 l with
  | some o, some os => some (o :: os)
  | _, _ => none
def zf5 (D : Dom) (ρ : Rho) (H H1 : Heap) : Option Heap :=
 match zf2 ⟨ρ, D.rows.length, H.n, zew ρ D.rows.length H1.n, H1.isLive⟩ H1 (zex ρ D.rows 0), zf4 ⟨ρ, D.rows.length, H.n, zew ρ D.rows.length H1.n, H1.isLive⟩ H1 (zew ρ D.rows.length H1.n) with
 | some L, some NL => some (zd7 (zf1 H L) NL)
 | _, _ => none
def zf6 (D : Dom) (ρ : Rho) (H H1 : Heap) : Way := ⟨ρ, D.rows.length, H.n, zew ρ D.rows.length H1.n, H1.isLive⟩
theorem zf7 {i : Nat} : ∀ {l : List Nat}, i ∈ l -> l[idx i l]? = some i
 | [], h => by simp at h
 | j :: l, h => by
  by_cases e : i = j
  ·subst e; simp [idx]
  ·have h' : i ∈ l := by simpa [e] using h
   rw [idx, z01 e, cond_false, List.getElem?_cons_succ]
   exact zf7 h'
theorem zf8 {ρ : Rho} {n1 N1 i : Nat} : i ∈ zew ρ n1 N1 ↔ i < N1 ∧ (n1 <= i ∨ ρ.find i = some .nil) := by
 unfold zew
 rw [List.mem_filter, List.mem_range]
 have : zev ρ i = true ↔ ρ.find i = some .nil := by
  unfold zev
  split
  ·rename_i h; simp [h]
  ·rename_i h; constructor
   ·intro h'; cases h'
   ·intro h'; exact absurd h' h
 simp [this]
theorem zf9 (ρ : Rho) (n1 N1:Nat) : (zew ρ n1 N1).Nodup := List.Pairwise.filter _ List.nodup_range
theorem zfa (H : Heap) : ∀ L, (zf1 H L).n = H.n
 | [] => rfl
 | (g, o) :: l => by simp only [zf1, Heap.n_set, zfa H l]
def look (g:Nat) : List (Nat × AObj) -> Option AObj
 | [] => none
 | (h, o) :: l => if g = h then some o else look g l
theorem zfb (H : Heap) (g:Nat) : ∀ L, (zf1 H L).get g = match look g L with
  | some o => some o
  | none => H.get g
 | [] => rfl
 | (h, o) :: l => by
  simp only [zf1, Heap.get_set, look]
  by_cases e : g = h
  ·rw [if_pos e, if_pos e]
  ·rw [if_neg e, if_neg e]; exact zfb H g l
def zfc (g:Nat) : List (Nat × Nat) -> Option Nat
 | [] => none
 | (h, i) :: l => if g = h then some i else zfc g l
theorem zfd {W : Way} {H1 : Heap} {g : Nat} : ∀ {l : List (Nat × Nat)} {L : List (Nat × AObj)}, zf2 W H1 l = some L -> (zfc g l = none ∧ look g L = none) ∨ ∃ i o, zfc g l = some i ∧ look g L = some o ∧ zez W (H1.get i) = some o
 | [], L, h => by simp only [zf2, Option.some.injEq] at h; subst h; exact .inl ⟨rfl, rfl⟩
 | (g0, i) :: l, L, h => by
  simp only [zf2] at h
  split at h
  ·rename_i o os h1 h2
   cases h
   by_cases e : g = g0
   ·exact .inr ⟨i, o, by simp [zfc, e], by simp [look, e], h1⟩
   ·simp only [zfc, look, if_neg e]
    exact zfd h2
  ·cases h
theorem zfe {W : Way} {H1 : Heap} : ∀ {l : List Nat} {L : List AObj}, zf4 W H1 l = some L -> L.length = l.length ∧ ∀ (j i:Nat), l[j]? = some i -> ∃ o, L[j]? = some o ∧ (if zf3 W i = true then zez W (H1.get i) else zf0 W (H1.get i)) = some o
 | [], L, h => by simp only [zf4, Option.some.injEq] at h; subst h; exact ⟨rfl, fun j i hj => by simp at hj⟩
 | i0 :: l, L, h => by
  simp only [zf4] at h
  split at h
  ·rename_i o os h1 h2
   cases h
   obtain ⟨q1, q2⟩ := zfe h2
   refine ⟨by simp [q1], fun j i hj => ?_⟩
   cases j with
   | zero =>
    simp at hj
    subst hj
    refine ⟨o, rfl, ?_⟩
    rw [← h1]
    cases zf3 W i0 <;> rfl
   | succ j => simpa using q2 j i (by simpa using hj)
  ·cases h
theorem zff {W : Way} {x : Option AObj} {o : AObj} (h : zf0 W x = some o) : zez W x = some o ∧ ∀ cs e, o.row ≠ some (cs, e, true) := by
 unfold zf0 at h
 split at h
 ·rename_i cs e
  obtain ⟨cs', hc, rfl⟩ := map_some h
  exact ⟨by simp [zez, hc], fun _ _ h => by simp [AObj.row] at h⟩
 ·cases h; exact ⟨rfl, fun _ _ h => by simp [AObj.row] at h⟩
 ·cases h
 ·cases h
 ·cases h
 ·rename_i h1 h2 h3 h4 h5
  cases h
  refine ⟨?_, fun _ _ h => by simp [AObj.row] at h⟩
  cases x with
  | none => rfl
  | some y =>
   cases y with
   | dead => rfl
   | cells cs e ro =>
    cases ro
    ·exact absurd rfl (h1 cs e)
    ·exact absurd rfl (h3 cs e)
   | vec t l e ro =>
    cases ro
    ·exact absurd rfl (h2 t l e)
    ·exact absurd rfl (h4 t l e)
   | fro t l e => exact absurd rfl (h5 t l e)
theorem zfg {ρ : Rho} {g i : Nat} : ∀ {rs : List RP} {k : Nat}, (g, i) ∈ zex ρ rs k ↔ ∃ j r, i = k + j ∧ rs[j]? = some r ∧ r.rw = true ∧ Src.row? (ρ.find i) = some g
 | [], k => by simp [zex]
 | r :: rs, k => by
  have ih := zfg (ρ := ρ) (g := g) (i := i) (rs := rs) (k := k + 1)
  have key : (∃ j r', i = k + j ∧ (r :: rs)[j]? = some r' ∧ r'.rw = true ∧ Src.row? (ρ.find i) = some g) ↔ (i = k ∧ r.rw = true ∧ Src.row? (ρ.find k) = some g) ∨ (g, i) ∈ zex ρ rs (k + 1) := by
   rw [ih]
   constructor
   ·rintro ⟨j, r', rfl, hr, h1, h2⟩
    cases j with
    | zero => simp at hr; subst hr; exact .inl ⟨rfl, h1, h2⟩
    | succ j => exact .inr ⟨j, r', by omega, by simpa using hr, h1, h2⟩
   ·rintro (⟨rfl, h1, h2⟩ | ⟨j, r', rfl, hr, h1, h2⟩)
    ·exact ⟨0, r, rfl, rfl, h1, h2⟩
    ·exact ⟨j + 1, r', by omega, by simpa using hr, h1, h2⟩
  rw [key]
  simp only [zex]
  split
  ·rename_i g0 h1 h2
   simp only [List.mem_cons, Prod.mk.injEq]
   constructor
   ·rintro (⟨rfl, rfl⟩ | h)
    ·exact .inl ⟨rfl, h1, h2⟩
    ·exact .inr h
   ·rintro (⟨rfl, _, h3⟩ | h)
    ·rw [h2] at h3; cases h3; exact .inl ⟨rfl, rfl⟩
    ·exact .inr h
  ·rename_i hno
   constructor
   ·exact .inr
   ·rintro (⟨rfl, h1, h2⟩ | h)
    ·exact (hno g h1 h2).elim
    ·exact h
theorem zfh {g : Nat} : ∀ {l : List (Nat × Nat)}, (∀ i, zfc g l = some i -> (g, i) ∈ l) ∧ (zfc g l = none -> ∀ i, (g, i) ∉ l)
 | [] => ⟨fun i h => (by cases h), fun _ i h => List.not_mem_nil h⟩
 | (h, j) :: l => by
  obtain ⟨q1, q2⟩ := zfh (g := g) (l := l)
  constructor
  ·intro i hi
   simp only [zfc] at hi
   split at hi
   ·rename_i e; cases hi; rw [e]; simp
   ·exact List.mem_cons_of_mem _ (q1 i hi)
  ·intro hi i hm
   simp only [zfc] at hi
   split at hi
   ·cases hi
   ·rename_i e
    simp only [List.mem_cons, Prod.mk.injEq] at hm
    rcases hm with ⟨h1, _⟩ | hm
    ·exact e h1
    ·exact q2 hi i hm
section frame
variable {D : Dom} {x : D.den} {H H1 : Heap} {β β1 : At} {w w' : World} {ρ : Rho} {B : Nat -> Option Base} {cs : List Value}
def inv (D : Dom) (ρ : Rho) (H H1 : Heap) (g:Nat) : Option Nat := if g < H.n then zfc g (zex ρ D.rows 0) else (zew ρ D.rows.length H1.n)[g - H.n]?
def zfi (D : Dom) (ρ : Rho) (H H1 : Heap) (β β1 : At) : At :=
 {base := fun g => match inv D ρ H H1 g with
   | some i => β1 i
   | none => if g < H.n then β g else none
  imm := β1.imm }
theorem zfj {g i : Nat} (h : inv D ρ H H1 g = some i) : (zfi D ρ H H1 β β1) g = β1 i := by
 show (match inv D ρ H H1 g with
   | some i => β1 i
   | none => if g < H.n then β g else none) = _
 rw [h]
theorem zfk {g : Nat} (h : inv D ρ H H1 g = none) : (zfi D ρ H H1 β β1) g = if g < H.n then β g else none := by
 show (match inv D ρ H H1 g with
   | some i => β1 i
   | none => if g < H.n then β g else none) = _
 rw [h]
theorem zfl {g i : Nat} (hc : Cast D x H β w ρ B cs) (hg : g < H.n) (h : inv D ρ H H1 g = some i) : ∃ r s, D.rows[i]? = some r ∧ r.rw = true ∧ ρ.find i = some s ∧ Src.row? (some s) = some g ∧ i < D.rows.length := by
 unfold inv at h
 rw [if_pos hg] at h
 have hm := zfh.1 i h
 obtain ⟨j, r, e, hr, h1, h2⟩ := zfg.1 hm
 rw [Nat.zero_add] at e
 subst e
 cases hs : ρ.find i with
 | none => rw [hs] at h2; cases h2
 | some s => exact ⟨r, s, hr, h1, rfl, by rw [hs] at h2; exact h2, (List.getElem?_eq_some_iff.1 hr).1⟩
theorem zfm {r : RP} (h : r.rw = true) : r.dead? = false := by cases r <;> simp [RP.rw, RP.dead?] at h ⊢
theorem zfn {i g : Nat} {r : RP} (hc : Cast D x H β w ρ B cs) (hr : D.rows[i]? = some r) (hrw : r.rw = true) (hs : Src.row? (ρ.find i) = some g) (hg : g < H.n) : inv D ρ H H1 g = some i := by
 unfold inv
 rw [if_pos hg]
 cases hl : zfc g (zex ρ D.rows 0) with
 | none => exact absurd (zfg.2 ⟨i, r, by omega, hr, hrw, hs⟩) (zfh.2 hl i)
 | some j =>
  by_cases e : j = i
  ·rw [e]
  ·exfalso
   obtain ⟨k, r', hk, hr', h1, h2⟩ := zfg.1 (zfh.1 j hl)
   rw [Nat.zero_add] at hk
   subst hk
   have a1 : (zdr ρ D.rows 0)[i]? = some (some g, true) := by rw [zem, hr]; simp [zfm hrw, hs, hrw]
   have a2 : (zdr ρ D.rows 0)[j]? = some (some g, true) := by rw [zem, hr']; simp [zfm h1, h2, h1]
   exact zel hc.inj a1 a2 (fun e' => e e'.symm) rfl
theorem zfo {i g : Nat} {r : RP} (hc : Cast D x H β w ρ B cs) (hr : D.rows[i]? = some r) (hd : r.dead? = false) (hrw : r.rw = false) (hs : Src.row? (ρ.find i) = some g) (hg : g < H.n) : inv D ρ H H1 g = none := by
 unfold inv
 rw [if_pos hg]
 cases hl : zfc g (zex ρ D.rows 0) with
 | none => rfl
 | some j =>
  exfalso
  obtain ⟨k, r', hk, hr', h1, h2⟩ := zfg.1 (zfh.1 j hl)
  rw [Nat.zero_add] at hk
  subst hk
  have a1 : (zdr ρ D.rows 0)[i]? = some (some g, false) := by rw [zem, hr]; simp [hd, hs, hrw]
  have a2 : (zdr ρ D.rows 0)[j]? = some (some g, true) := by rw [zem, hr']; simp [zfm h1, h2, h1]
  have hne : j ≠ i := by
   intro e
   subst e
   rw [hr] at hr'
   cases hr'
   rw [hrw] at h1
   cases h1
  exact zel hc.inj a2 a1 hne rfl
theorem zfp {i : Nat} (hi : i ∈ zew ρ D.rows.length H1.n) : inv D ρ H H1 (H.n + idx i (zew ρ D.rows.length H1.n)) = some i := by
 unfold inv
 rw [if_neg (by omega), Nat.add_sub_cancel_left]
 exact zf7 hi
theorem zfq (hc : Cast D x H β w ρ B cs) {g g' i : Nat} (h : inv D ρ H H1 g = some i) (h' : inv D ρ H H1 g' = some i) : g = g' := by
 have hnew : ∀ {g i}, ¬ g < H.n -> inv D ρ H H1 g = some i -> (zew ρ D.rows.length H1.n)[g - H.n]? = some i := by
  intro g i hg h
  unfold inv at h
  rwa [if_neg hg] at h
 by_cases hg : g < H.n
 ·obtain ⟨r, s, hr, h1, h2, h3, h4⟩ := zfl hc hg h
  by_cases hg' : g' < H.n
  ·obtain ⟨r', s', hr', _, h2', h3', _⟩ := zfl hc hg' h'
   rw [h2] at h2'
   cases h2'
   rw [h3] at h3'
   cases h3'
   rfl
  ·exfalso
   have hm := zf8.1 (List.mem_of_getElem? (hnew hg' h'))
   rcases hm.2 with h5 | h5
   ·omega
   ·rw [h2] at h5; cases h5; cases h3
 ·by_cases hg' : g' < H.n
  ·exfalso
   obtain ⟨r, s, hr, h1, h2, h3, h4⟩ := zfl hc hg' h'
   have hm := zf8.1 (List.mem_of_getElem? (hnew hg h))
   rcases hm.2 with h5 | h5
   ·omega
   ·rw [h2] at h5; cases h5; cases h3
  ·have e := (zf9 ρ D.rows.length H1.n)
   have a := hnew hg h
   have b := hnew hg' h'
   have hlt := (List.getElem?_eq_some_iff.1 a).1
   have hlt' := (List.getElem?_eq_some_iff.1 b).1
   have ea := (List.getElem?_eq_some_iff.1 a).2
   have eb := (List.getElem?_eq_some_iff.1 b).2
   have hp := List.pairwise_iff_getElem.1 e
   rcases Nat.lt_trichotomy (g - H.n) (g' - H.n) with h1 | h1 | h1
   ·exact absurd (ea.trans eb.symm) (hp _ _ hlt hlt' h1)
   ·omega
   ·exact absurd (eb.trans ea.symm) (hp _ _ hlt' hlt h1)
def zfr (β1 β' : At) (i:Nat) (H' : Heap) : Dest -> Prop
 | .row g => g < H'.n ∧ ∀ b, β' g = some b -> β1 i = some b
 | .win g e z => g < H'.n ∧ ∀ b, β' g = some b -> (β1 i = some (b.shift (e * z)) ∧ (b.nil = true ∨ e * z <= b.room)) ∨ (β1 i = some b ∧ (b.nil = true ∨ e * z = 0))
 | .inl t l => (l = [] ∧ β1 i = some (ze3 1)) ∨ (∃ (blk off room:Nat) (ds : Nat -> Value), β1 i = some ⟨blk, off, room, false⟩ ∧ l.length * t.z <= room ∧ ∀ k v, (encL t l)[k]? = some v -> β1.imm blk (off + k) = some (ds k) ∧ VRel H'.n β' v (ds k))
theorem zfs (hR : Rel β H w) (hc : Cast D x H β w ρ B cs) (hR1 : Rel β1 H1 w') (hLe : Le (D.at_ β B) (D.heap x) w β1 H1 w') {H' : Heap} (hn : H'.n = H.n + (zew ρ D.rows.length H1.n).length) {i : Nat} (hi : i < H1.n) {d : Dest}
  (hnd : ∀ r, r ∈ D.rows -> r.dead? = false) (hd : (zf6 D ρ H H1).to i = some d) : zfr β1 (zfi D ρ H H1 β β1) i H' d := by
 have hlt : ∀ g, (∃ b, β g = some b) -> g < H.n := fun g ⟨b, hb⟩ => by
  obtain ⟨c, e, ro, h, _⟩ := hR.lies g b hb
  exact hR.row_lt h
 have hnewrow : i ∈ zew ρ D.rows.length H1.n -> zfr β1 (zfi D ρ H H1 β β1) i H' (.row (H.n + idx i (zew ρ D.rows.length H1.n))) := by
  intro hm
  have h1 := (List.getElem?_eq_some_iff.1 (zf7 hm)).1
  refine ⟨by omega, fun b hb => ?_⟩
  rw [zfj (zfp hm)] at hb
  exact hb
 unfold Way.to zf6 at hd
 by_cases hi1 : i < D.rows.length
 ·have e1 : Nat.blt i D.rows.length = true := Nat.blt_eq.mpr hi1
  simp only [e1, cond_true] at hd
  have hr : D.rows[i]? = some D.rows[i] := List.getElem?_eq_getElem hi1
  cases hlv : H1.isLive i with
  | false => rw [hlv] at hd; cases hd
  | true => ?_
  rw [hlv, cond_true] at hd
  obtain ⟨csl, el, rol, hrl⟩ := Heap.isLive_row hlv
  obtain ⟨bl, hbl⟩ := hR1.tot i csl el rol hrl
  cases hdead : D.rows[i].dead? with
  | true => rw [hnd _ (List.mem_of_getElem? hr)] at hdead; cases hdead
  | false =>
   obtain ⟨s, bs, hs, hbs, ⟨cs', e', hrow⟩, hwhose, hmine⟩ := hc.row i _ hr hdead
   have hsrc := hc.okB i s hs
   have hat : (D.at_ β B) i = some bs := by
    show (if D.live i = true then B i else none) = _
    rw [if_pos (by unfold Dom.live; rw [hr]; simp [hdead]), hbs]
   rw [hs] at hd
   have hkeep : D.rows[i].rw = false -> β1 i = some bs := by
    intro hrw
    rw [hrw] at hrow
    rcases hLe.ro i cs' e' hrow with h | ⟨_, h⟩
    ·rw [h.1]; exact hat
    ·rw [hbl] at h; cases h
   cases s with
   | whole g =>
    simp only [Option.some.injEq] at hd
    subst hd
    have hβ : β g = some bs := by rw [← hbs]; exact hsrc.symm
    have hg := hlt g ⟨bs, hβ⟩
    refine ⟨by omega, fun b hb => ?_⟩
    cases hrw : D.rows[i].rw with
    | true =>
     rw [zfj (zfn hc hr hrw (by rw [hs]; rfl) hg)] at hb
     exact hb
    | false =>
     rw [zfk (zfo hc hr hdead hrw (by rw [hs]; rfl) hg), if_pos hg, hβ] at hb
     rw [hkeep hrw]
     exact hb
   | win g e n z =>
    simp only [Option.some.injEq] at hd
    subst hd
    have hroom := hsrc.2
    have hsrc : B i = (β g).map fun b => b.shift (e * z) := hsrc.1
    rw [hbs] at hsrc
    cases hβ : β g with
    | none => rw [hβ] at hsrc; cases hsrc
    | some b0 =>
     rw [hβ] at hsrc
     simp only [Option.map_some, Option.some.injEq] at hsrc
     have hg := hlt g ⟨b0, hβ⟩
     refine ⟨by omega, fun b hb => ?_⟩
     cases hrw : D.rows[i].rw with
     | true =>
      rw [zfj (zfn hc hr hrw (by rw [hs]; rfl) hg)] at hb
      refine .inr ⟨hb, ?_⟩
      -- the window is the whole row
      have hbe : b = bs := by
       rcases hLe.keeps.1 i (by rw [D.heap_n]; exact hi1) with h | h
       ·rw [h, hat] at hb; cases hb; rfl
       ·rw [h] at hb; cases hb
      rcases hmine hrw with ⟨h, _⟩ | ⟨g', c1, e1, hg', hβ', _⟩
      ·cases h
      ·simp only [Src.row?, Option.some.injEq] at hg'
       subst hg'
       rw [hβ] at hβ'
       cases hβ'
       rw [hbe]
       by_cases hnil : bs.nil = true
       ·exact .inl hnil
       ·right
        unfold Base.shift at hsrc
        rw [if_neg hnil] at hsrc
        have := congrArg Base.off hsrc
        simp only at this
        omega
     | false =>
      rw [zfk (zfo hc hr hdead hrw (by rw [hs]; rfl) hg), if_pos hg, hβ] at hb
      cases hb
      exact .inl ⟨by rw [hkeep hrw, hsrc], hroom _ hβ⟩
   | nil =>
    simp only [Option.some.injEq] at hd
    subst hd
    exact hnewrow (zf8.2 ⟨hi, .inr hs⟩)
   | inl t l =>
    simp only [Option.some.injEq] at hd
    subst hd
    have hrw : D.rows[i].rw = false := by
     cases hrw : D.rows[i].rw with
     | false => rfl
     | true =>
      rcases hmine hrw with ⟨h, _⟩ | ⟨g', c1, e1, hg', _⟩
      ·cases h
      ·cases hg'
    have hb1 := hkeep hrw
    rcases hsrc with ⟨h1, h2⟩ | ⟨h1, blk, off, room, ds, h2, h3, h4⟩
    ·rw [hbs] at h2; cases h2; exact .inl ⟨h1, hb1⟩
    ·rw [hbs] at h2
     cases h2
     refine .inr ⟨blk, off, room, ds, hb1, h3, fun k v hv => ⟨hLe.keeps.2 _ _ _ (h4 k v hv).1, ?_⟩⟩
     exact VRel.data (β := β) (β' := zfi D ρ H H1 β β1) (fun b o c hbc => hLe.keeps.2 b o c hbc) (h4 k v hv).2 (ze2 hv)
 ·have e1 : Nat.blt i D.rows.length = false := by
   cases e : Nat.blt i D.rows.length with
   | false => rfl
   | true => exact absurd (Nat.blt_eq.mp e) hi1
  simp only [e1, cond_false, Option.some.injEq] at hd
  subst hd
  exact hnewrow (zf8.2 ⟨hi, .inl (by omega)⟩)
mutual
theorem zft {N1 : Nat} {β' : At} {W : Way} {H' : Heap} (himm : ∀ b o c, β1.imm b o = some c -> β'.imm b o = some c) (hk : ∀ i d, i < N1 -> W.to i = some d -> zfr β1 β' i H' d) : ∀ {v v' : AV} {c : Value}, back W v = some v' -> VRel N1 β1 v c -> VRel H'.n β' v' c
 | .bool t b, v', c, h, hv => by simp only [back, Option.some.injEq] at h; subst h; exact hv.data himm rfl
 | .int t k n, v', c, h, hv => by simp only [back, Option.some.injEq] at h; subst h; exact hv.data himm rfl
 | .str t s, v', c, h, hv => by simp only [back, Option.some.injEq] at h; subst h; exact hv.data himm rfl
 | .vec t l, v', c, h, hv => by simp only [back, Option.some.injEq] at h; subst h; exact hv.data himm rfl
 | .eptr t l e p, v', c, h, hv => by simp only [back, Option.some.injEq] at h; subst h; exact hv.data himm rfl
 | .map r, v', c, h, hv => by
  simp only [back, Option.some.injEq] at h
  subst h
  cases hv
  exact .mnil
 | .nilFunc, v', c, h, hv => by simp only [back, Option.some.injEq] at h; subst h; cases hv; exact .nilFunc
 | .nilIface, v', c, h, hv => by simp only [back, Option.some.injEq] at h; subst h; cases hv; exact .nilIface
 | .ptr t none, v', c, h, hv => by simp only [back, Option.some.injEq] at h; subst h; cases hv; exact .pnil _
 | .ptr t (some r), v', c, h, hv => by
  cases hv with
  | ptr _ _ a hg hb =>
   simp only [back] at h
   split at h
   ·rename_i g hd
    cases h
    obtain ⟨h1, h2⟩ := hk _ _ hg hd
    exact .ptr _ _ _ h1 fun b hb' => hb b (h2 b hb')
   ·rename_i g e z hd
    split at h
    ·rename_i hz
     cases h
     obtain ⟨h1, h2⟩ := hk _ _ hg hd
     refine .ptr _ _ _ h1 fun b hb' => ?_
     rcases h2 b hb' with ⟨h3, hrm⟩ | ⟨h3, h4⟩
     ·obtain ⟨h5, h6⟩ := hb _ h3
      rw [Base.shift_nil] at h5
      refine ⟨h5, ?_⟩
      rw [h6]
      unfold Base.shift
      rw [if_neg (by rw [h5]; simp)]
      simp only [Ref.i, hz, Nat.add_mul, Addr.mk.injEq, true_and, and_true]
      omega
     ·obtain ⟨h5, h6⟩ := hb _ h3
      refine ⟨h5, ?_⟩
      rcases h4 with h4 | h4
      ·rw [h5] at h4; cases h4
      ·rw [h6]
       simp only [Ref.i, hz, Nat.add_mul, h4, Addr.mk.injEq, true_and, and_true]
       omega
    ·cases h
   ·rename_i t' l hd
    split at h
    ·rename_i hz
     cases h
     rcases hk _ _ hg hd with ⟨_, h2⟩ | ⟨blk, off, room, ds, h2, _, h4⟩
     ·have := (hb _ h2).1; cases this
     ·have := (hb _ h2).2
      rw [this]
      have e : off + r.i = off + (r.e * t'.z + r.o) := by unfold Ref.i; rw [hz]
      simp only [e]
      exact .eptr t' l r.e r.o blk off ds (fun k v hv => himm _ _ _ (h4 k v hv).1) (fun k v hv => (h4 k v hv).2)
    ·cases h
   ·cases h
 | .slice t none n z, v', c, h, hv => by simp only [back, Option.some.injEq] at h; subst h; cases hv; exact .snil _ _ _
 | .slice t (some r) n z, v', c, h, hv => by
  cases hv with
  | slice _ _ _ _ cap a hg hn hs hb =>
   simp only [back] at h
   split at h
   ·rename_i g hd
    cases h
    obtain ⟨h1, h2⟩ := hk _ _ hg hd
    exact .slice _ _ _ _ _ _ h1 hn hs fun b hb' => hb b (h2 b hb')
   ·rename_i g e z' hd
    split at h
    ·rename_i hz
     cases h
     obtain ⟨h1, h2⟩ := hk _ _ hg hd
     refine .slice _ _ _ _ _ _ h1 hn hs fun b hb' => ?_
     rcases h2 b hb' with ⟨h3, hrm⟩ | ⟨h3, h4⟩
     ·obtain ⟨h5, h6⟩ := hb _ h3
      rw [Base.shift_nil] at h5 h6
      refine ⟨fun hnil => ⟨(h5 hnil).1, fun hr => (h5 hnil).2 ?_⟩, fun hnil => ?_⟩
      ·unfold Base.shift; rw [if_pos hnil]; exact hr
      ·obtain ⟨h7, h8⟩ := h6 hnil
       unfold Base.shift at h7 h8
       rw [if_neg (by rw [hnil]; simp)] at h7 h8
       refine ⟨fun hc => ?_, ?_⟩
       ·rw [h7 hc]
        simp only [Ref.i, hz, Nat.add_mul, Option.some.injEq, Addr.mk.injEq, true_and, and_true]
        omega
       ·rcases hrm with hrm | hrm
        ·rw [hnil] at hrm; cases hrm
        ·simp only [Ref.i, hz, Nat.add_mul] at h8 ⊢
         omega
     ·obtain ⟨h5, h6⟩ := hb _ h3
      refine ⟨h5, fun hnil => ?_⟩
      obtain ⟨h7, h8⟩ := h6 hnil
      rcases h4 with h4 | h4
      ·rw [hnil] at h4; cases h4
      ·have ei : (Ref.mk g (e + r.e) r.z r.o).i = r.i := by simp only [Ref.i, hz, Nat.add_mul, h4]; omega
       rw [ei]
       exact ⟨h7, h8⟩
    ·cases h
   ·rename_i t' l hd
    split at h
    ·rename_i hc
     obtain ⟨hz, ho, hz', hle⟩ := hc
     cases h
     have hlen : ((l.drop r.e).take n).length = n := by simp; omega
     rcases hk _ _ hg hd with ⟨h1, h2⟩ | ⟨blk, off, room, ds, h2, hroom, h4⟩
     ·subst h1
      obtain ⟨h5, _⟩ := hb _ h2
      have hn0 := (h5 rfl).1
      subst hn0
      have e0 : (([] : List t'.den).drop r.e).take 0 = [] := by simp
      rw [e0]
      exact .vec t' [] cap a 0 0 (fun _ => undef) (by simp) ⟨fun hc => by simp at hc, hs⟩ (fun k v hv => by simp [encL] at hv) (fun k v hv => by simp [encL] at hv)
     ·obtain ⟨_, h6⟩ := hb _ h2
      obtain ⟨h7, h8⟩ := h6 rfl
      have hi : r.i = r.e * t'.z := by unfold Ref.i; rw [hz, ho, Nat.add_zero]
      have hk' : ∀ k v, (encL t' ((l.drop r.e).take n))[k]? = some v -> (encL t' l)[r.e * t'.z + k]? = some v := by
       intro k v hv
       rw [z08, z07] at hv
       have hlt : k < n * t'.z := by
        have := (List.getElem?_eq_some_iff.1 hv).1
        simp only [List.length_take] at this
        omega
       rwa [List.getElem?_take_of_lt hlt, List.getElem?_drop] at hv
      have key := VRel.vec (N := H'.n) (β := β') t' ((l.drop r.e).take n) cap a blk (off + r.e * t'.z) (fun k => ds (r.e * t'.z + k)) (by rw [hlen]; exact hn) ⟨fun hc => by rw [h7 (by rw [hlen] at hc; omega), hi], hs⟩
       (fun k v hv => by rw [Nat.add_assoc]; exact himm _ _ _ (h4 _ _ (hk' k v hv)).1) (fun k v hv => (h4 _ _ (hk' k v hv)).2)
      rw [hlen] at key
      exact key
    ·cases h
   ·cases h
 | .agg l, v', c, h, hv => by
  simp only [back] at h
  obtain ⟨l', hl, rfl⟩ := map_some h
  cases hv with
  | agg _ cs hv => exact .agg _ _ (zfu himm hk hl hv)
 | .tup l, v', c, h, hv => by
  simp only [back] at h
  obtain ⟨l', hl, rfl⟩ := map_some h
  cases hv with
  | tup _ cs hv => exact .tup _ _ (zfu himm hk hl hv)
 | .func f a b, v', c, h, hv => by
  simp only [back] at h
  split at h
  ·rename_i a' b' ha hb
   cases h
   cases hv with
   | func _ _ _ cs ds h1 h2 => exact .func _ _ _ _ _ (zfu himm hk ha h1) (zfu himm hk hb h2)
  ·cases h
theorem zfu {N1 : Nat} {β' : At} {W : Way} {H' : Heap} (himm : ∀ b o c, β1.imm b o = some c -> β'.imm b o = some c) (hk : ∀ i d, i < N1 -> W.to i = some d -> zfr β1 β' i H' d) : ∀ {v v' : List AV} {c : List Value}, zey W v = some v' -> z2i N1 β1 v c -> z2i H'.n β' v' c
 | [], v', c, h, hv => by
  simp only [zey, Option.some.injEq] at h
  subst h
  cases hv
  exact .nil
 | x :: l, v', c, h, hv => by
  simp only [zey] at h
  split at h
  ·rename_i x' l' hx hl
   cases h
   cases hv with
   | cons _ c _ cs h1 h2 => exact .cons _ _ _ _ (zft himm hk hx h1) (zfu himm hk hl h2)
  ·cases h
end
end frame
end Go.Vx
end
section
namespace Go.Vx
section frame
variable {D : Dom} {x : D.den} {H H1 H' : Heap} {β β1 : At} {w w' : World} {ρ : Rho} {B : Nat -> Option Base} {cs : List Value}
theorem zfv {W : Way} {v v' : AV} (h : back W v = some v') (hv : v.cell = true) : v'.cell = true := by
 cases v with
 | ptr t r =>
  cases r with
  | none => simp only [back, Option.some.injEq] at h; subst h; rfl
  | some r =>
   simp only [back] at h
   split at h
   ·cases h; rfl
   ·split at h
    ·cases h; rfl
    ·cases h
   ·split at h
    ·cases h; rfl
    ·cases h
   ·cases h
 | slice t r n z =>
  cases r with
  | none => simp only [back, Option.some.injEq] at h; subst h; rfl
  | some r =>
   simp only [back] at h
   split at h
   ·cases h; rfl
   ·split at h
    ·cases h; rfl
    ·cases h
   ·split at h
    ·cases h; rfl
    ·cases h
   ·cases h
 | func f a b =>
  simp only [back] at h
  split at h
  ·cases h; rfl
  ·cases h
 | agg l => cases hv
 | tup l => cases hv
 | _ => simp only [back, Option.some.injEq] at h; subst h; exact hv
theorem zfw {W : Way} : ∀ {l l' : List AV}, zey W l = some l' -> l'.length = l.length ∧ ∀ (j:Nat) (v' : AV), l'[j]? = some v' -> ∃ v, l[j]? = some v ∧ back W v = some v'
 | [], l', h => by simp only [zey, Option.some.injEq] at h; subst h; exact ⟨rfl, fun j v' hj => by simp at hj⟩
 | x :: l, l', h => by
  simp only [zey] at h
  split at h
  ·rename_i x' l1 hx hl
   cases h
   obtain ⟨q1, q2⟩ := zfw hl
   refine ⟨by simp [q1], fun j v' hj => ?_⟩
   cases j with
   | zero => simp at hj; subst hj; exact ⟨x, rfl, hx⟩
   | succ j => simpa using q2 j v' (by simpa using hj)
  ·cases h
theorem zfx {N1 : Nat} {β' : At} {W : Way} (himm : ∀ b o c, β1.imm b o = some c -> β'.imm b o = some c) (hk : ∀ i d, i < N1 -> W.to i = some d -> zfr β1 β' i H' d) {o o' : AObj} (h : zez W (some o) = some o') {cs : List AV} {e : TypeId} {ro : Bool} {b : Base} (hrow : o.row = some (cs, e, ro))
  (hl : Lies N1 β1 w' cs ro b) : ∃ cs', o'.row = some (cs', e, ro) ∧ Lies H'.n β' w' cs' ro b := by
 cases o with
 | dead => cases hrow
 | cells c e' ro' =>
  simp only [AObj.row, Option.some.injEq, Prod.mk.injEq] at hrow
  obtain ⟨rfl, rfl, rfl⟩ := hrow
  simp only [zez] at h
  obtain ⟨c', hc, rfl⟩ := map_some h
  obtain ⟨q1, q2⟩ := zfw hc
  refine ⟨c', rfl, ?_⟩
  exact {
   cell := fun j v' hj => by
    obtain ⟨v, hv, hb⟩ := q2 j v' hj
    obtain ⟨d, hd, hr⟩ := hl.cell j v hv
    exact ⟨d, hd, zft himm hk hb hr⟩
   plain := fun j v' hj => by
    obtain ⟨v, hv, hb⟩ := q2 j v' hj
    exact zfv hb (hl.plain j v hv)
   room := by rw [q1]; exact hl.room
   nl := fun hn => by
    have := hl.nl hn
    subst this
    exact List.length_eq_zero_iff.1 q1
   nr := hl.nr
   blk := hl.blk
   free := hl.free }
 | vec t l e' ro' =>
  simp only [AObj.row, Option.some.injEq, Prod.mk.injEq] at hrow
  obtain ⟨rfl, rfl, rfl⟩ := hrow
  simp only [zez, Option.some.injEq] at h
  subst h
  exact ⟨_, rfl, hl.data (ze1 _ _) himm (fun h => h)⟩
 | fro t l e' => simp only [zez] at h; cases h
theorem zfy {W : Way} {x : Option AObj} {t : Ty} {l : List t.den} {e : TypeId} : zez W x ≠ some (.fro t l e) := fun h => by
 cases x with
 | none => simp [zez] at h
 | some o =>
  cases o with
  | dead => simp [zez] at h
  | cells c e' ro' => simp only [zez] at h; obtain ⟨_, _, he⟩ := map_some h; cases he
  | vec t l e' ro' => simp [zez] at h
  | fro t l e' => simp [zez] at h
theorem zfz {W : Way} {x : Option AObj} {o' : AObj} (h : zez W x = some o') {cs' : List AV} {e : TypeId} {ro : Bool} (hrow : o'.row = some (cs', e, ro)) : ∃ o cs, x = some o ∧ o.row = some (cs, e, ro) := by
 cases x with
 | none => simp only [zez, Option.some.injEq] at h; subst h; cases hrow
 | some o =>
  cases o with
  | dead => simp only [zez, Option.some.injEq] at h; subst h; cases hrow
  | cells c e' ro' =>
   simp only [zez] at h
   obtain ⟨c', hc, rfl⟩ := map_some h
   simp only [AObj.row, Option.some.injEq, Prod.mk.injEq] at hrow
   obtain ⟨_, rfl, rfl⟩ := hrow
   exact ⟨_, c, rfl, rfl⟩
  | vec t l e' ro' =>
   simp only [zez, Option.some.injEq] at h
   subst h
   exact ⟨_, cs', rfl, hrow⟩
  | fro t l e' => simp only [zez] at h; cases h
structure Rows (D : Dom) (ρ : Rho) (H H1 H' : Heap) : Prop where
 n : H'.n = H.n + (zew ρ D.rows.length H1.n).length
 some_ : ∀ g i, inv D ρ H H1 g = some i -> ∃ o', H'.get g = some o' ∧ zez (zf6 D ρ H H1) (H1.get i) = some o'
 none_ : ∀ g, inv D ρ H H1 g = none -> g < H.n -> H'.get g = H.get g
 out : ∀ g, ¬ g < H'.n -> H'.get g = none
 new : ∀ g i, inv D ρ H H1 g = some i -> D.rows.length <= i -> ∀ cs e, H'.row g ≠ some (cs, e, true)
 later : zc2 H H'
theorem zg0 (hfr : ∀ g o, H.get g = some o -> g < H.n) (hc : Cast D x H β w ρ B cs) (hlt : ∀ i r g, D.rows[i]? = some r -> r.rw = true -> Src.row? (ρ.find i) = some g -> g < H.n) (h : zf5 D ρ H H1 = some H') : Rows D ρ H H1 H' := by
 unfold zf5 at h
 split at h
 ·rename_i L NL hL hNL
  cases h
  obtain ⟨q1, q2⟩ := zfe hNL
  have hn : (zd7 (zf1 H L) NL).n = H.n + (zew ρ D.rows.length H1.n).length := by rw [zd8, zfa, q1]
  have hget : ∀ g, (zd7 (zf1 H L) NL).get g = if g < H.n then (zf1 H L).get g else if g < H.n + NL.length then NL[g - H.n]? else (zf1 H L).get g := by
   intro g
   rw [zd9, zfa]
  have hkeys : ∀ g o, look g L = some o -> g < H.n := by
   intro g o ho
   rcases zfd (g := g) hL with ⟨_, h2⟩ | ⟨i, o', h1, _, _⟩
   ·rw [h2] at ho; cases ho
   ·obtain ⟨j, r, e1, h2, h4, h3⟩ := zfg.1 (zfh.1 i h1)
    rw [Nat.zero_add] at e1
    exact hlt i r g (by rw [e1]; exact h2) h4 h3
  refine ⟨hn, fun g i hi => ?_, fun g hi hg => ?_, fun g hg => ?_, fun g i hi hge cs' e => ?_, ?_⟩
  ·unfold inv at hi
   rw [hget]
   split at hi
   ·rename_i hg
    rw [if_pos hg, zfb]
    rcases zfd (g := g) hL with ⟨h1, _⟩ | ⟨i', o', h1, h2, h3⟩
    ·rw [h1] at hi; cases hi
    ·rw [h1] at hi; cases hi
     rw [h2]
     exact ⟨o', rfl, h3⟩
   ·rename_i hg
    obtain ⟨o, ho, hb⟩ := q2 _ i hi
    have hl := (List.getElem?_eq_some_iff.1 ho).1
    rw [if_neg hg, if_pos (by omega)]
    refine ⟨o, ho, ?_⟩
    split at hb
    ·exact hb
    ·exact (zff hb).1
  ·unfold inv at hi
   rw [if_pos hg] at hi
   rw [hget, if_pos hg, zfb]
   rcases zfd (g := g) hL with ⟨_, h2⟩ | ⟨i', o', h1, _, _⟩
   ·rw [h2]
   ·rw [h1] at hi; cases hi
  ·rw [hn, ← q1] at hg
   rw [hget, if_neg (by omega), if_neg hg, zfb]
   cases hl : look g L with
   | some o => have := hkeys g o hl; omega
   | none =>
    cases ho : H.get g with
    | none => rfl
    | some o => have := hfr g o ho; omega
  ·unfold inv at hi
   intro hrow
   unfold Heap.row at hrow
   rw [hget] at hrow
   split at hi
   ·rename_i hg
    obtain ⟨j, r, e1, hr, _, _⟩ := zfg.1 (zfh.1 i hi)
    have := (List.getElem?_eq_some_iff.1 hr).1
    omega
   ·rename_i hg
    obtain ⟨o, ho, hb⟩ := q2 _ i hi
    have hl := (List.getElem?_eq_some_iff.1 ho).1
    rw [if_neg hg, if_pos (by omega), ho] at hrow
    split at hb
    ·rename_i hro
     unfold zf3 at hro
     have := Nat.blt_eq.mp hro
     simp only at this
     omega
    ·exact (zff hb).2 cs' e hrow
  ·have h1 : zc2 H (zf1 H L) := by
    clear hget hkeys hn hL
    induction L with
    | nil => exact zc2.refl _
    | cons p L ih => exact ih.trans (zc2.set _ _ _)
   have h2 : ∀ (NL : List AObj) (H0 : Heap), zc2 H0 (zd7 H0 NL) := by
    intro NL
    induction NL with
    | nil => intro H0; exact zc2.refl _
    | cons o NL ih => intro H0; exact (zc2.push _ _).trans (ih _)
   exact h1.trans (h2 _ _)
 ·cases h
theorem zg1 (hR : Rel β H w) (hc : Cast D x H β w ρ B cs) (hnd : ∀ r, r ∈ D.rows -> r.dead? = false) (hR1 : Rel β1 H1 w') (hLe : Le (D.at_ β B) (D.heap x) w β1 H1 w') (hrows : Rows D ρ H H1 H') :
  Rel (zfi D ρ H H1 β β1) H' w' ∧ Le β H w (zfi D ρ H H1 β β1) H' w' ∧ ∀ v v' c, back (zf6 D ρ H H1) v = some v' -> VRel H1.n β1 v c -> VRel H'.n (zfi D ρ H H1 β β1) v' c := by
 have hkn : ∀ i d, i < H1.n -> (zf6 D ρ H H1).to i = some d -> zfr β1 (zfi D ρ H H1 β β1) i H' d := fun i d hi hd => zfs hR hc hR1 hLe hrows.n hi hnd hd
 have himm : ∀ b o c, β1.imm b o = some c -> (zfi D ρ H H1 β β1).imm b o = some c := fun _ _ _ h => h
 have hn : H.n <= H'.n := by rw [hrows.n]; omega
 have hβlt : ∀ g b, β g = some b -> g < H.n := fun g b h => by
  obtain ⟨c, e, ro, h, _⟩ := hR.lies g b h
  exact hR.row_lt h
 have hat : ∀ i r, D.rows[i]? = some r -> (D.at_ β B) i = B i := fun i r hr => by
  show (if D.live i = true then B i else none) = _
  rw [if_pos (by unfold Dom.live; rw [hr]; simp [hnd r (List.mem_of_getElem? hr)])]
 -- a row that may be written: where it lies
 have hmine : ∀ g i, g < H.n -> inv D ρ H H1 g = some i -> ∃ bs cs e, β g = some bs ∧ B i = some bs ∧ (D.at_ β B) i = some bs ∧ H.row g = some (cs, e, false) ∧ i < D.rows.length := by
  intro g i hg hi
  obtain ⟨r, s, hr, hrw, hs, hsg, hlt⟩ := zfl hc hg hi
  obtain ⟨s', bs, hs', hbs, _, _, hm⟩ := hc.row i r hr (zfm hrw)
  rw [hs] at hs'
  cases hs'
  rcases hm hrw with ⟨h, _⟩ | ⟨g', c1, e1, hg', hβ, hrow⟩
  ·subst h; cases hsg
  ·rw [hsg] at hg'
   cases hg'
   exact ⟨bs, c1, e1, hβ, hbs, by rw [hat i r hr]; exact hbs, hrow, hlt⟩
 have hKeep : z2h H.n β (zfi D ρ H H1 β β1) := by
  refine ⟨fun g hg => ?_, fun b o c h => hLe.keeps.2 b o c h⟩
  cases hi : inv D ρ H H1 g with
  | none => rw [zfk hi, if_pos hg]; exact .inl rfl
  | some i =>
   obtain ⟨bs, _, _, hβ, _, hat', _, hlt⟩ := hmine g i hg hi
   rw [zfj hi]
   rcases hLe.keeps.1 i (by rw [D.heap_n]; exact hlt) with h | h
   ·rw [h, hat', hβ]; exact .inl rfl
   ·exact .inr h
 -- a block that one of the callee's rows had is no block of another old row
 have hother : ∀ k, Mut (D.at_ β B) (D.heap x) k -> ∀ g b, inv D ρ H H1 g = none -> β g = some b -> b.nil = false -> b.blk ≠ k := by
  rintro k ⟨i, bi, c1, e1, hbi, hri, hni, rfl⟩ g b hg hβ hnb hblk
  have hli : ∃ r, D.rows[i]? = some r := by
   have hb : (if D.live i = true then B i else none) = some bi := hbi
   split at hb
   ·rename_i hl
    unfold Dom.live at hl
    split at hl
    ·rename_i r hr; exact ⟨r, hr⟩
    ·cases hl
   ·cases hb
  obtain ⟨r, hr⟩ := hli
  obtain ⟨s, bs, hs, hbs, ⟨c2, e2, hrow2⟩, _, hm⟩ := hc.row i r hr (hnd r (List.mem_of_getElem? hr))
  rw [hri] at hrow2
  simp only [Option.some.injEq, Prod.mk.injEq] at hrow2
  rw [hat i r hr, hbs] at hbi
  cases hbi
  have hrw : r.rw = true := by simpa using hrow2.2.2.symm
  rcases hm hrw with ⟨_, h⟩ | ⟨g', c3, e3, hg', hβ', hrow'⟩
  ·rw [hni] at h; cases h
  ·have hinv := zfn (H1 := H1) hc hr hrw (by rw [hs]; exact hg') (hβlt _ _ hβ')
   have hne : g' ≠ g := fun e => by rw [e, hg] at hinv; cases hinv
   exact hR.apart g' g bi b c3 e3 hne hβ' hβ hrow' hni hnb hblk.symm
 have hsame : ∀ g b, inv D ρ H H1 g = none -> β g = some b -> b.nil = false -> w'.heap[b.blk]? = w.heap[b.blk]? := fun g b hg hβ hnb =>
  hLe.blocks _ (hR.blk_lt hβ hnb) fun hm => hother _ hm g b hg hβ hnb rfl
 have hRel : Rel (zfi D ρ H H1 β β1) H' w' := {
  lies := fun g b hb => by
   cases hi : inv D ρ H H1 g with
   | some i =>
    rw [zfj hi] at hb
    obtain ⟨c1, e1, ro1, hrow, hl⟩ := hR1.lies i b hb
    obtain ⟨o', ho', hbo⟩ := hrows.some_ g i hi
    unfold Heap.row at hrow
    cases ho : H1.get i with
    | none => rw [ho] at hrow; cases hrow
    | some o =>
     rw [ho] at hrow hbo
     obtain ⟨c2, h1, h2⟩ := zfx himm hkn hbo (by simpa using hrow) hl
     exact ⟨c2, e1, ro1, by unfold Heap.row; rw [ho']; exact h1, h2⟩
   | none =>
    rw [zfk hi] at hb
    split at hb
    ·rename_i hg
     obtain ⟨c1, e1, ro1, hrow, hl⟩ := hR.lies g b hb
     exact ⟨c1, e1, ro1, by unfold Heap.row at hrow ⊢; rw [hrows.none_ g hi hg]; exact hrow, hl.later hn hKeep fun hnb => hsame g b hi hb hnb⟩
    ·cases hb
  tot := fun g c1 e1 ro1 hrow => by
   cases hi : inv D ρ H H1 g with
   | some i =>
    obtain ⟨o', ho', hbo⟩ := hrows.some_ g i hi
    unfold Heap.row at hrow
    rw [ho'] at hrow
    obtain ⟨o, c2, ho, hro⟩ := zfz hbo (show o'.row = _ from hrow)
    obtain ⟨b, hb⟩ := hR1.tot i c2 e1 ro1 (by unfold Heap.row; rw [ho]; exact hro)
    exact ⟨b, by rw [zfj hi]; exact hb⟩
   | none =>
    by_cases hg : g < H.n
    ·unfold Heap.row at hrow
     rw [hrows.none_ g hi hg] at hrow
     obtain ⟨b, hb⟩ := hR.tot g c1 e1 ro1 hrow
     exact ⟨b, by rw [zfk hi, if_pos hg]; exact hb⟩
    ·exfalso
     have hout : ¬ g < H'.n := by
      intro hlt
      rw [hrows.n] at hlt
      unfold inv at hi
      rw [if_neg hg, List.getElem?_eq_none_iff] at hi
      omega
     unfold Heap.row at hrow
     rw [hrows.out g hout] at hrow
     cases hrow
  fresh := fun g o ho => by
   apply Classical.byContradiction
   intro hg
   rw [hrows.out g hg] at ho
   cases ho
  apart := fun g g' b b' c1 e1 hne hb hb' hrow hnb hnb' hblk => by
   cases hi : inv D ρ H H1 g with
   | some i =>
    rw [zfj hi] at hb
    obtain ⟨o', ho', hbo⟩ := hrows.some_ g i hi
    unfold Heap.row at hrow
    rw [ho'] at hrow
    obtain ⟨o, c2, ho, hro⟩ := zfz hbo (show o'.row = _ from hrow)
    have hrow1 : H1.row i = some (c2, e1, false) := by unfold Heap.row; rw [ho]; exact hro
    cases hi' : inv D ρ H H1 g' with
    | some i' =>
     rw [zfj hi'] at hb'
     exact hR1.apart i i' b b' c2 e1 (fun e => hne (zfq hc hi (e ▸ hi'))) hb hb' hrow1 hnb hnb' hblk
    | none =>
     rw [zfk hi'] at hb'
     split at hb'
     ·rcases hLe.turn b.blk ⟨i, b, c2, e1, hb, hrow1, hnb, rfl⟩ with h | h
      ·exact hother _ h g' b' hi' hb' hnb' hblk.symm
      ·have := hR.blk_lt hb' hnb'; omega
     ·cases hb'
   | none =>
    rw [zfk hi] at hb
    split at hb
    ·rename_i hg
     unfold Heap.row at hrow
     rw [hrows.none_ g hi hg] at hrow
     cases hi' : inv D ρ H H1 g' with
     | none =>
      rw [zfk hi'] at hb'
      split at hb'
      ·exact hR.apart g g' b b' c1 e1 hne hb hb' hrow hnb hnb' hblk
      ·cases hb'
     | some i' =>
      rw [zfj hi'] at hb'
      by_cases hg' : g' < H.n
      ·obtain ⟨bs, c3, e3, hβ', _, hat', _, hlt⟩ := hmine g' i' hg' hi'
       rcases hLe.keeps.1 i' (by rw [D.heap_n]; exact hlt) with h | h
       ·rw [h, hat'] at hb'
        cases hb'
        exact hR.apart g g' b b' c1 e1 hne hb hβ' hrow hnb hnb' hblk
       ·rw [h] at hb'; cases hb'
      ·-- a new row
       have hm := zf8.1 (List.mem_of_getElem? (show (zew ρ D.rows.length H1.n)[g' - H.n]? = some i' by unfold inv at hi'; rwa [if_neg hg'] at hi'))
       by_cases hge : D.rows.length <= i'
       ·obtain ⟨c2, e2, ro2, hrow2, _⟩ := hR1.lies i' b' hb'
        cases ro2 with
        | false =>
         rcases hLe.turn b'.blk ⟨i', b', c2, e2, hb', hrow2, hnb', rfl⟩ with h | h
         ·exact hother _ h g b hi hb hnb hblk
         ·have := hR.blk_lt hb hnb; omega
        | true =>
         exfalso
         obtain ⟨o', ho', hbo⟩ := hrows.some_ g' i' hi'
         unfold Heap.row at hrow2
         cases ho : H1.get i' with
         | none => rw [ho] at hrow2; cases hrow2
         | some o =>
          rw [ho] at hrow2 hbo
          obtain ⟨_, _, _, _, hl2⟩ := hR1.lies i' b' hb'
          rename_i hr3
          unfold Heap.row at hr3
          rw [ho] at hr3
          obtain ⟨c4, h4, _⟩ := zfx himm hkn hbo (show o.row = _ from hr3) hl2
          have hr2 : o.row = some (c2, e2, true) := hrow2
          have hr3' : o.row = some _ := hr3
          rw [hr2] at hr3'
          cases hr3'
          exact hrows.new g' i' hi' hge c4 e2 (by unfold Heap.row; rw [ho']; exact h4)
       ·-- a row that was nothing
        have hlt : i' < D.rows.length := by omega
        rcases hm.2 with h | h
        ·omega
        ·have hr : D.rows[i']? = some D.rows[i'] := List.getElem?_eq_getElem hlt
         obtain ⟨s, bs, hs, hbs, _⟩ := hc.row i' _ hr (hnd _ (List.mem_of_getElem? hr))
         rw [h] at hs
         cases hs
         have h5 : B i' = some (ze3 0) := hc.okB i' _ h
         rcases hLe.keeps.1 i' (by rw [D.heap_n]; exact hlt) with h6 | h6
         ·rw [h6, hat i' _ hr, h5] at hb'
          cases hb'
          cases hnb'
         ·rw [h6] at hb'; cases hb'
    ·cases hb
  immw := hR1.immw
  immm := fun b o c hbc hm => by
   obtain ⟨g, b1, c1, e1, hb1, hrow, hnb, rfl⟩ := hm
   cases hi : inv D ρ H H1 g with
   | some i =>
    rw [zfj hi] at hb1
    obtain ⟨o', ho', hbo⟩ := hrows.some_ g i hi
    unfold Heap.row at hrow
    rw [ho'] at hrow
    obtain ⟨ob, c2, ho, hro⟩ := zfz hbo (show o'.row = _ from hrow)
    exact hR1.immm _ _ _ hbc ⟨i, b1, c2, e1, hb1, by unfold Heap.row; rw [ho]; exact hro, hnb, rfl⟩
   | none =>
    rw [zfk hi] at hb1
    split at hb1
    ·rename_i hg
     unfold Heap.row at hrow
     rw [hrows.none_ g hi hg] at hrow
     rcases hLe.imm _ _ _ hbc with h | h | h
     ·exact hR.immm _ _ _ h ⟨g, b1, c1, e1, hb1, hrow, hnb, rfl⟩
     ·exact hother _ h g b1 hi hb1 hnb rfl
     ·have := hR.blk_lt hb1 hnb; omega
    ·cases hb1
  glob := hR1.glob
  tab := hR1.tab
  fro := fun g t l e b hg hb hnb k v hv => by
   cases hi : inv D ρ H H1 g with
   | some i =>
    obtain ⟨o', ho', hbo⟩ := hrows.some_ g i hi
    rw [ho'] at hg
    cases hg
    exact absurd hbo zfy
   | none =>
    have hb0 := hb
    rw [zfk hi] at hb
    split at hb
    ·rename_i hlt
     rw [hrows.none_ g hi hlt] at hg
     obtain ⟨c, hc, hr⟩ := hR.fro g t l e b hg hb hnb k v hv
     exact ⟨c, hKeep.2 _ _ _ hc, hr.mono hn hKeep⟩
    ·cases hb }
 refine ⟨hRel, ?_, fun v v' c hb hv => zft himm hkn hb hv⟩
 exact {
  os := hLe.os
  tape := hLe.tape
  output := hLe.output
  size := hLe.size
  n := hn
  keeps := hKeep
  ro := fun g c1 e1 hrow => by
   have hg := hR.row_lt hrow
   cases hi : inv D ρ H H1 g with
   | some i =>
    obtain ⟨bs, c2, e2, _, _, _, hrow2, _⟩ := hmine g i hg hi
    rw [hrow] at hrow2
    cases hrow2
   | none =>
    refine .inl ⟨by rw [zfk hi, if_pos hg], c1, e1, ?_⟩
    unfold Heap.row at hrow ⊢
    rw [hrows.none_ g hi hg]
    exact hrow
  imm := fun b o c hbc => by
   rcases hLe.imm b o c hbc with h | h | h
   ·exact .inl h
   ·exact .inr (.inl (hc.muts _ h))
   ·exact .inr (.inr h)
  blocks := fun k hk hm => hLe.blocks k hk fun h => hm (hc.muts k h)
  turn := fun k hk => by
   obtain ⟨g, b1, c1, e1, hb1, hrow, hnb, rfl⟩ := hk
   cases hi : inv D ρ H H1 g with
   | some i =>
    rw [zfj hi] at hb1
    obtain ⟨o', ho', hbo⟩ := hrows.some_ g i hi
    unfold Heap.row at hrow
    rw [ho'] at hrow
    obtain ⟨ob, c2, ho, hro⟩ := zfz hbo (show o'.row = _ from hrow)
    rcases hLe.turn b1.blk ⟨i, b1, c2, e1, hb1, by unfold Heap.row; rw [ho]; exact hro, hnb, rfl⟩ with h | h
    ·exact .inl (hc.muts _ h)
    ·exact .inr h
   | none =>
    rw [zfk hi] at hb1
    split at hb1
    ·rename_i hg
     unfold Heap.row at hrow
     rw [hrows.none_ g hi hg] at hrow
     exact .inl ⟨g, b1, c1, e1, hb1, hrow, hnb, rfl⟩
    ·cases hb1 }
end frame
end Go.Vx
end
