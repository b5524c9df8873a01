/- Lines: many in one stream come one by one. (A help: no statement of the seat is proved here.) -/
import Derived.Test.YtgmlklaehklmoaaLineM
import Derived.Test.YtgmlklaehklmoaaPxLnD
set_option linter.unusedVariables false
set_option linter.unusedSimpArgs false
set_option maxRecDepth 100000
namespace Go.Vx
namespace ManyM
open Go Go.Proofs LnD

def plain (c : UInt8) : Bool := c != 10 && c != 13
def wordOf (w : List UInt8) : List UInt8 := 120 :: (w.take 20).filter plain
def endOf (lf cr : Bool) (e : UInt8) : List UInt8 :=
  if cr && ((e.toNat : Int).tmod 3 == 2) then [13] else if lf && ((e.toNat : Int).tmod 3 == 1) then [10] else [13, 10]
theorem foldE_all {α A ρ : Type} (g : A → α → A) (r : A → ρ) (a : A) (l : List α) : foldE (fun a c => .inl (g a c)) r a l = r (l.foldl g a) := by
  induction l generalizing a with
  | nil => rfl
  | cons c l ih => exact ih (g a c)

theorem L17_f (s : List UInt8) (want l : List (List UInt8)) (i : Nat) (w : List UInt8) (hi : i < l.length) (hw : l[i]'hi = w) : law6_LineMany.L17.f s want l i [120] 0 = some (wordOf w) := by
  have h := Loop_list (body := fun z : List UInt8 × Int => law6_LineMany.L17.t s want l i z.1 z.2) (w.take 20) (fun k (x : List UInt8) => (x, (k : Int))) (fun k x => x.length ≤ k + 1 ∧ k ≤ 20)
    (fun x c => .inl (if plain c then x ++ [c] else x)) (fun x => x)
    (fun k x c hx hk hc => ?_) (fun x hx => ?_) (by simp; omega) (a := [120]) (by simp) (s0 := ([120], 0)) rfl
  · unfold law6_LineMany.L17.f
    rw [h, foldE_all]
    congr 1
    unfold wordOf
    have : ∀ (v x : List UInt8), v.foldl (fun x c => if plain c then x ++ [c] else x) x = x ++ v.filter plain := by
      intro v
      induction v with
      | nil => intro x; simp
      | cons c v ih => intro x; rw [List.foldl_cons, ih]; by_cases hp : plain c = true <;> simp [hp]
    rw [this]; rfl
  · rw [List.length_take] at hk
    have hk1 : k < w.length := by omega
    have hk2 : k < 20 := by omega
    have hc1 : w[k]'hk1 = c := by rw [← hc, List.getElem_take]
    refine ⟨?_, fun a' h => ?_⟩
    · unfold law6_LineMany.L17.t
      have hk3 : (k : Int) < 20 := by omega
      have hx1 : ((x.length + 1 : Nat) : Int) ≤ 9223372036854775807 := by omega
      simp only [getD_at hi hw, getD_nat hi hw, Tr.val, in_rng hi, Int.toNat_natCast, hi, if_true, and_self, decide_true, cond_true, getD_nat hk1 hc1, in_rng hk1, hk1, hk3, List.length_singleton, hx1]
      rw [wS (by omega)]
      have e1 : ((c.toNat : Int) != 10) = (c != 10) := by simp only [bne, byte_eqI c 10 (by omega) (by omega)]; rfl
      have e2 : ((c.toNat : Int) != 13) = (c != 13) := by simp only [bne, byte_eqI c 13 (by omega) (by omega)]; rfl
      rw [e1, e2]
      unfold plain
      cases hb1 : (c != 10) <;> cases hb2 : (c != 13) <;> simp [Tr.val]
    · cases h
      refine ⟨?_, by omega⟩
      by_cases hp : plain c = true <;> simp [hp] <;> omega
  · unfold law6_LineMany.L17.t
    obtain ⟨h1, h2⟩ := hx
    by_cases hl : w.length ≤ 20
    · have e : (w.take 20).length = w.length := by rw [List.length_take]; omega
      rw [e]
      simp only [getD_at hi hw, getD_nat hi hw, Int.toNat_natCast]
      simp [Tr.val, in_rng hi, hi]
    · have e : (w.take 20).length = 20 := by rw [List.length_take]; omega
      rw [e]
      have h20 : 20 < w.length := by omega
      simp only [getD_at hi hw, getD_nat hi hw, Int.toNat_natCast]
      simp [Tr.val, in_rng hi, hi, h20]
theorem word_len (w : List UInt8) : (wordOf w).length ≤ 21 := by
  unfold wordOf
  have := List.length_filter_le plain (w.take 20)
  rw [List.length_take] at this
  simp only [List.length_cons]; omega

def flatOf (lf cr : Bool) (z : List (List UInt8 × UInt8)) : List UInt8 := z.flatMap fun y => wordOf y.1 ++ endOf lf cr y.2
theorem L13_f (l : List (List UInt8)) (ends : List UInt8) (lf cr : Bool) (hl : l.length ≤ 10) (he : l.length ≤ ends.length) :
    law6_LineMany.L13.f [] [] l ends lf cr 0 = some (flatOf lf cr (l.zip ends), (l.zip ends).map fun y => wordOf y.1) := by
  have hz : (l.zip ends).length = l.length := by rw [List.length_zip]; omega
  have h := Loop_list (body := fun z : List UInt8 × List (List UInt8) × Int => law6_LineMany.L13.t z.1 z.2.1 l ends lf cr z.2.2) (l.zip ends) (fun k (x : List UInt8 × List (List UInt8)) => (x.1, x.2, (k : Int))) (fun k x => x.1.length ≤ 23 * k ∧ x.2.length = k ∧ k ≤ 10)
    (fun x c => .inl (x.1 ++ (wordOf c.1 ++ endOf lf cr c.2), x.2 ++ [wordOf c.1])) (fun x => x)
    (fun k x c hx hk hc => ?_) (fun x hx => ?_) (by omega) (a := ([], [])) (by simp) (s0 := ([], [], 0)) rfl
  · unfold law6_LineMany.L13.f
    rw [h, foldE_all]
    congr 1
    have : ∀ (z : List (List UInt8 × UInt8)) (x : List UInt8 × List (List UInt8)), z.foldl (fun x c => (x.1 ++ (wordOf c.1 ++ endOf lf cr c.2), x.2 ++ [wordOf c.1])) x = (x.1 ++ flatOf lf cr z, x.2 ++ z.map fun y => wordOf y.1) := by
      intro z
      induction z with
      | nil => intro x; simp [flatOf]
      | cons c v ih => intro x; rw [List.foldl_cons, ih]; simp [flatOf]
    rw [this]; simp
  · obtain ⟨hx1, hx2, hx3⟩ := hx
    have hk1 : k < l.length := by omega
    have hk2 : k < ends.length := by omega
    have hc1 : l[k]'hk1 = c.1 := by rw [← hc, List.getElem_zip]
    have hc2 : ends[k]'hk2 = c.2 := by rw [← hc, List.getElem_zip]
    have hw := word_len c.1
    have hel : (endOf lf cr c.2).length ≤ 2 := by unfold endOf; split; · simp
                                                  · split <;> simp
    refine ⟨?_, fun a' h => ?_⟩
    · unfold law6_LineMany.L13.t
      have b1 : x.1.length + (wordOf c.1).length ≤ 140737488355328 := by omega
      have b2 : x.1.length + (wordOf c.1).length + 1 ≤ 140737488355328 := by omega
      have b3 : x.1.length + (wordOf c.1).length + 2 ≤ 140737488355328 := by omega
      have b4 : (k + 1) * 16 ≤ 140737488355328 := by omega
      have hT : List.take (x.1.length + (wordOf c.1).length) (x.1 ++ wordOf c.1) = x.1 ++ wordOf c.1 := List.take_of_length_le (by simp)
      simp only [L17_f _ _ _ _ _ hk1 hc1, Tr.val, in_rng hk1, in_rng hk2, Int.toNat_natCast, hk1, hk2, if_true, and_self, decide_true, cond_true, getD_at hk2 hc2, getD_nat hk2 hc2, List.length_singleton, List.drop_zero, List.take_length, Nat.zero_add, Nat.mul_one, Nat.le_refl, List.length_append, List.length_cons, List.length_nil, b1, b2, b3, b4, hx2, hT]
      rw [wS (by omega)]
      have hww : List.take k x.2 = x.2 := List.take_of_length_le (by omega)
      unfold endOf
      cases lf <;> cases cr <;> cases h1 : ((c.2.toNat : Int).tmod 3 == 1) <;> cases h2 : ((c.2.toNat : Int).tmod 3 == 2) <;> simp [Tr.val, hww, List.append_assoc, hx2]
    · cases h
      simp only [List.length_append, List.length_cons, List.length_nil]
      omega
  · rw [hz]
    unfold law6_LineMany.L13.t
    simp [Tr.val]

/-! The reader over all. -/
structure RS where
  pend : Bool
  over : Bool
  bad : Bool
  b : List UInt8
  n : Nat
def RS.step (p : Int) (want : List (List UInt8)) (a : RS) (c : UInt8) : RS ⊕ (Int ⊕ Bool) :=
  let y := lnByte p 40 a.pend a.over a.bad a.b (c.toNat : Int)
  if y.2.2.2.2 = 0 then .inl ⟨y.1, y.2.1, y.2.2.1, y.2.2.2.1, a.n⟩
  else if y.2.2.2.2 = 1 ∨ y.2.2.2.2 = 2 then
    if want.length ≤ a.n then .inr (.inr false)
    else if (if y.2.1 && !y.2.2.1 then y.2.2.2.1 else []) ≠ want.getD a.n [] then .inr (.inr false)
    else if y.2.2.2.2 = 2 then
      let u := lnByte p 40 y.1 y.2.1 y.2.2.1 y.2.2.2.1 (c.toNat : Int)
      if u.2.2.2.2 ≠ 0 then .inr (.inr false) else .inl ⟨u.1, u.2.1, u.2.2.1, u.2.2.2.1, a.n + 1⟩
    else .inl ⟨y.1, y.2.1, y.2.2.1, y.2.2.2.1, a.n + 1⟩
  else .inr (.inr false)
theorem L33_f (s : List UInt8) (want : List (List UInt8)) (p : Int) (hs : s.length < 1000) (hw : want.length < 1000) :
    law6_LineMany.L33.f s want p 40 false false false [] 0 0 = some (foldE (RS.step p want) (fun a => .inl (a.n : Int)) ⟨false, false, false, [], 0⟩ s) := by
  have h := Loop_list (body := fun z : Bool × Bool × Bool × List UInt8 × Int × Int => law6_LineMany.L33.t s want p 40 z.1 z.2.1 z.2.2.1 z.2.2.2.1 z.2.2.2.2.1 z.2.2.2.2.2) s (fun k (x : RS) => (x.pend, x.over, x.bad, x.b, (x.n : Int), (k : Int))) (fun k x => x.n ≤ want.length)
    (RS.step p want) (fun a => .inl (a.n : Int))
    (fun k x c hx hk hc => ?_) (fun x hx => ?_) (by omega) (a := ⟨false, false, false, [], 0⟩) (by simp) (s0 := (false, false, false, [], 0, 0)) rfl
  · unfold law6_LineMany.L33.f
    rw [h]
  · refine ⟨?_, fun a' h => ?_⟩
    · unfold law6_LineMany.L33.t RS.step
      have b40 : (40 : Int) ≤ 4096 := by omega
      simp only [Nat.zero_add, getD_nat hk hc, Tr.val, in_rng hk, Int.toNat_natCast, hk, if_true, and_self, decide_true, cond_true, byte_f b40 (byte_ge c) (byte_lt c), line_f]
      rw [wS (k := k) (by omega), wS (k := x.n) (by omega)]
      generalize hy : lnByte p 40 x.pend x.over x.bad x.b (c.toNat : Int) = y
      obtain ⟨y1, y2, y3, y4, y5⟩ := y
      generalize hu : lnByte p 40 y1 y2 y3 y4 (c.toNat : Int) = u
      obtain ⟨u1, u2, u3, u4, u5⟩ := u
      simp only
      generalize hv : (if (y2 && !y3) = true then y4 else []) = v
      by_cases c0 : y5 = 0
      · simp [c0]
      have d0 : (y5 == 0) = false := by simpa using c0
      by_cases cw : want.length ≤ x.n
      · by_cases c1 : y5 = 1
        · simp [c0, c1, cw, Tr.val]
        · by_cases c2 : y5 = 2
          · simp [c0, c1, c2, cw, Tr.val]
          · have d1 : (y5 == 1) = false := by simpa using c1
            have d2 : (y5 == 2) = false := by simpa using c2
            simp [c0, c1, c2, d0, d1, d2, cw, Tr.val]
      have cw' : x.n < want.length := by omega
      have cw2 : (x.n : Int) < (want.length : Int) := by omega
      by_cases c1 : y5 = 1
      · by_cases ce : v = want[x.n]
        · simp [c0, c1, cw, cw', cw2, Tr.val, ce]
        · have ce2 : (v == want[x.n]) = false := by simpa using ce
          simp [c0, c1, cw, cw', cw2, Tr.val, ce, ce2]
      · have d1 : (y5 == 1) = false := by simpa using c1
        by_cases c2 : y5 = 2
        · by_cases ce : v = want[x.n]
          · by_cases cu : u5 = 0
            · simp [c0, c1, c2, cw, cw', cw2, Tr.val, ce, cu]
            · have du : (u5 != 0) = true := by simpa using cu
              simp [c0, c1, c2, cw, cw', cw2, Tr.val, ce, cu, du]
          · have ce2 : (v == want[x.n]) = false := by simpa using ce
            simp [c0, c1, c2, cw, cw', cw2, Tr.val, ce, ce2]
        · have d2 : (y5 == 2) = false := by simpa using c2
          simp [c0, c1, c2, d0, d1, d2, Tr.val]
    · unfold RS.step at h
      simp only at h
      generalize lnByte p 40 x.pend x.over x.bad x.b (c.toNat : Int) = y at h
      generalize (if (y.2.1 && !y.2.2.1) = true then y.2.2.2.1 else []) = v at h
      split at h
      · cases h; exact hx
      · split at h
        · split at h
          · cases h
          · rename_i hw'
            split at h
            · cases h
            · split at h
              · split at h
                · cases h
                · cases h; show x.n + 1 ≤ want.length; omega
              · cases h; show x.n + 1 ≤ want.length; omega
        · cases h
  · unfold law6_LineMany.L33.t
    simp [Tr.val]

/-- At the beginning of line k. -/
def At (p : Int) (want : List (List UInt8)) (k : Nat) (a : RS) : Prop :=
  (∃ o b, a = ⟨false, o, false, b, k⟩ ∧ (o = false → b = [])) ∨ (hasD p 2 = true ∧ ∃ j, k = j + 1 ∧ a = ⟨true, false, false, want.getD j [], j⟩)
theorem step_x {p : Int} {want : List (List UInt8)} {k : Nat} {a : RS} (h : At p want k a) (hk : k ≤ want.length) : RS.step p want a 120 = .inl ⟨false, false, false, [120], k⟩ := by
  rcases h with ⟨o, b, rfl, hb⟩ | ⟨hp, j, rfl, rfl⟩
  · cases o
    · rw [hb rfl]; simp [RS.step, lnByte, lnByte.go]
    · simp [RS.step, lnByte, lnByte.go]
  · have : ¬ want.length ≤ j := by omega
    simp [RS.step, lnByte, lnByte.go, hp, this]
theorem step_plain {p : Int} {want : List (List UInt8)} {k : Nat} {b : List UInt8} {c : UInt8} (hc : plain c = true) (hb : b.length < 40) : RS.step p want ⟨false, false, false, b, k⟩ c = .inl ⟨false, false, false, b ++ [c], k⟩ := by
  unfold plain at hc
  simp only [Bool.and_eq_true, bne_iff_ne, ne_eq] at hc
  have e1 : ¬ (c.toNat : Int) = 10 := fun e => hc.1 (UInt8.toNat_inj.1 (show c.toNat = (10 : UInt8).toNat from by simp; omega))
  have e2 : ¬ (c.toNat : Int) = 13 := fun e => hc.2 (UInt8.toNat_inj.1 (show c.toNat = (13 : UInt8).toNat from by simp; omega))
  have e3 : ¬ (40 : Int) ≤ (b.length : Int) := by omega
  simp [RS.step, lnByte, lnByte.go, e1, e2, e3]
theorem fold_plain {p : Int} {want : List (List UInt8)} {k : Nat} {fin : RS → Int ⊕ Bool} {rest : List UInt8} : ∀ (w b : List UInt8), (∀ c, c ∈ w → plain c = true) → b.length + w.length ≤ 40 →
    foldE (RS.step p want) fin ⟨false, false, false, b, k⟩ (w ++ rest) = foldE (RS.step p want) fin ⟨false, false, false, b ++ w, k⟩ rest
  | [], b, _, _ => by simp
  | c :: w, b, h, hl => by
    simp only [List.length_cons] at hl
    rw [List.cons_append, foldE, step_plain (h c (by simp)) (by omega)]
    simp only
    rw [fold_plain w (b ++ [c]) (fun d hd => h d (by simp [hd])) (by simp; omega)]
    simp
theorem fold_end {p : Int} {want : List (List UInt8)} {k : Nat} {fin : RS → Int ⊕ Bool} {rest b : List UInt8} {lf cr : Bool} (e : UInt8) (h1 : hasD p 1 = lf) (h2 : hasD p 2 = cr) (hk : k < want.length) (hb : want.getD k [] = b) :
    ∃ a, At p want (k + 1) a ∧ foldE (RS.step p want) fin ⟨false, false, false, b, k⟩ (endOf lf cr e ++ rest) = foldE (RS.step p want) fin a rest := by
  have nk : ¬ want.length ≤ k := by omega
  unfold endOf
  split
  · rename_i hc
    simp only [Bool.and_eq_true] at hc
    refine ⟨⟨true, false, false, b, k⟩, .inr ⟨by rw [h2]; exact hc.1, k, rfl, by rw [hb]⟩, ?_⟩
    rw [List.cons_append, foldE]
    have : RS.step p want ⟨false, false, false, b, k⟩ 13 = .inl ⟨true, false, false, b, k⟩ := by simp [RS.step, lnByte, lnByte.go]
    rw [this]; rfl
  · split
    · rename_i hc
      simp only [Bool.and_eq_true] at hc
      refine ⟨⟨false, true, false, b, k + 1⟩, .inl ⟨true, b, rfl, by simp⟩, ?_⟩
      rw [List.cons_append, foldE]
      have : RS.step p want ⟨false, false, false, b, k⟩ 10 = .inl ⟨false, true, false, b, k + 1⟩ := by simp [RS.step, lnByte, lnByte.go, h1, hc.1, nk, -List.getD_eq_getElem?_getD, hb]
      rw [this]; rfl
    · refine ⟨⟨false, true, false, b, k + 1⟩, .inl ⟨true, b, rfl, by simp⟩, ?_⟩
      rw [List.cons_append, foldE]
      have : RS.step p want ⟨false, false, false, b, k⟩ 13 = .inl ⟨true, false, false, b, k⟩ := by simp [RS.step, lnByte, lnByte.go]
      rw [this]
      simp only
      rw [List.cons_append, foldE]
      have : RS.step p want ⟨true, false, false, b, k⟩ 10 = .inl ⟨false, true, false, b, k + 1⟩ := by simp [RS.step, lnByte, lnByte.go, nk, -List.getD_eq_getElem?_getD, hb]
      rw [this]; rfl
theorem fold_all {p : Int} {lf cr : Bool} (h1 : hasD p 1 = lf) (h2 : hasD p 2 = cr) {want : List (List UInt8)} {fin : RS → Int ⊕ Bool} : ∀ (z : List (List UInt8 × UInt8)) (k : Nat) (a : RS), At p want k a → want.length = k + z.length → (∀ j (hj : j < z.length), want.getD (k + j) [] = wordOf z[j].1) →
    ∃ b, foldE (RS.step p want) fin a (flatOf lf cr z ++ [120]) = fin ⟨false, false, false, b, want.length⟩
  | [], k, a, ha, hw, _ => by
    refine ⟨[120], ?_⟩
    simp only [List.length_nil, Nat.add_zero] at hw
    simp only [flatOf, List.flatMap_nil, List.nil_append, foldE]
    rw [step_x ha (by omega), hw]
  | (w, e) :: z, k, a, ha, hw, hz => by
    simp only [List.length_cons] at hw
    have hk : k < want.length := by omega
    have h0 : want.getD k [] = wordOf w := hz 0 (by simp)
    have e0 : flatOf lf cr ((w, e) :: z) ++ [120] = 120 :: ((w.take 20).filter plain ++ (endOf lf cr e ++ (flatOf lf cr z ++ [120]))) := by simp [flatOf, wordOf]
    rw [e0, foldE, step_x ha (by omega)]
    simp only
    have hwl := word_len w
    unfold wordOf at hwl
    simp only [List.length_cons] at hwl
    rw [fold_plain _ [120] (fun c hc => (List.mem_filter.1 hc).2) (by simp; omega)]
    obtain ⟨a', ha', hf⟩ := fold_end (fin := fin) (rest := flatOf lf cr z ++ [120]) e h1 h2 hk h0
    have e1 : [120] ++ (w.take 20).filter plain = wordOf w := rfl
    rw [e1, hf]
    refine fold_all h1 h2 z (k + 1) a' ha' (by omega) fun j hj => ?_
    have := hz (j + 1) (by simp; omega)
    rw [show k + 1 + j = k + (j + 1) from by omega, this]
    rfl
theorem known_f : law6_known.f = some true := by kernel_rfl
theorem h61 : hasD 6 1 = true := by kernel_rfl
theorem h62 : hasD 6 2 = true := by kernel_rfl
theorem h21 : hasD 2 1 = true := by kernel_rfl
theorem h22 : hasD 2 2 = false := by kernel_rfl
theorem h41 : hasD 4 1 = false := by kernel_rfl
theorem h42 : hasD 4 2 = true := by kernel_rfl
theorem h01 : hasD 0 1 = false := by kernel_rfl
theorem h02 : hasD 0 2 = false := by kernel_rfl
theorem flat_len (lf cr : Bool) : ∀ z : List (List UInt8 × UInt8), (flatOf lf cr z).length ≤ 23 * z.length
  | [] => by simp [flatOf]
  | (w, e) :: z => by
    have h1 := word_len w
    have h2 := flat_len lf cr z
    have h3 : (endOf lf cr e).length ≤ 2 := by unfold endOf; split; · simp
                                               · split <;> simp
    unfold flatOf at h2 ⊢
    simp only [List.flatMap_cons, List.length_append, List.length_cons]
    omega
theorem L33_all (l : List (List UInt8)) (ends : List UInt8) (lf cr : Bool) (p : Int) (hl : l.length ≤ 10) (he : l.length ≤ ends.length) (h1 : hasD p 1 = lf) (h2 : hasD p 2 = cr) :
    law6_LineMany.L33.f (flatOf lf cr (l.zip ends) ++ [120]) ((l.zip ends).map fun y => wordOf y.1) p 40 false false false [] 0 0 = some (.inl (((l.zip ends).map fun y => wordOf y.1).length : Int)) := by
  have hz : (l.zip ends).length = l.length := by rw [List.length_zip]; omega
  have hf := flat_len lf cr (l.zip ends)
  rw [L33_f _ _ _ (by simp only [List.length_append, List.length_singleton]; omega) (by rw [List.length_map]; omega)]
  obtain ⟨b, hb⟩ := fold_all h1 h2 (want := (l.zip ends).map fun y => wordOf y.1) (fin := fun a => .inl (a.n : Int)) (l.zip ends) 0 ⟨false, false, false, [], 0⟩ (.inl ⟨false, [], rfl, fun _ => rfl⟩) (by simp) (fun j hj => by
    rw [Nat.zero_add, getD_nat (by simpa using hj) rfl, List.getElem_map])
  rw [hb]
theorem many (l : List (List UInt8)) (ends : List UInt8) (lf cr : Bool) : law6_LineMany.f l ends lf cr = some true := by
  unfold law6_LineMany.f law6_LineMany.t
  simp only [known_f, Tr.val, Bool.not_true, cond_false]
  by_cases c1 : (l.length : Int) > 10
  · simp [c1]
  by_cases c2 : (ends.length : Int) < (l.length : Int)
  · simp [c1, c2]
  have hl : l.length ≤ 10 := by omega
  have he : l.length ≤ ends.length := by omega
  have hz : (l.zip ends).length = l.length := by rw [List.length_zip]; omega
  have hfl : (flatOf lf cr (l.zip ends)).length + 1 ≤ 140737488355328 := by have := flat_len lf cr (l.zip ends); omega
  have hn : (mn2 (mx2 40 0) 4096) = 40 := by kernel_rfl
  simp only [c1, c2, decide_false, cond_false, L13_f l ends lf cr hl he, new_f, hn, Nat.zero_add, Nat.le_refl, if_true, Nat.mul_one, hfl, List.drop_zero, List.take_length, List.length_append, List.length_singleton, and_self, Tr.val]
  cases lf <;> cases cr
  · rw [L33_all l ends false false 0 hl he h01 h02]; simp [Tr.val]
  · rw [L33_all l ends false true 4 hl he h41 h42]; simp [Tr.val]
  · rw [L33_all l ends true false 2 hl he h21 h22]; simp [Tr.val]
  · rw [L33_all l ends true true 6 hl he h61 h62]; simp [Tr.val]
theorem many_ok : ConOk Try.prog 9 (lawCon [.sl (.sl .byte), .sl .byte, .bool, .bool]) := law6_LineMany.law_ok fun x _ => many _ _ _ _
end ManyM
end Go.Vx
