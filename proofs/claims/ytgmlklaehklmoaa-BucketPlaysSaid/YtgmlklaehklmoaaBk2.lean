/- The bucket: the law BucketFills' run. (A help: no statement of the seat is proved here.) -/
import Derived.Test.YtgmlklaehklmoaaBk1
import Derived.Test.YtgmlklaehklmoaaVxQ
set_option maxRecDepth 1000000
set_option linter.unusedVariables false
set_option linter.unusedSimpArgs false
namespace Go.Vx
open Go Go.Vx Go.Proofs

def conYes : Con where
  D := ⟨[], .nil⟩
  A := ⟨[], .bool⟩
  spec := fun _ => .inl ((), true)
def bkBookK : Book := bkBook.add 17 conYes
/-- Inside the loop: what the bucket holds when i are taken. -/
def bfD : Dom := ⟨[bkR], .cat (.int .u16) (.cat (.int .u16) (.cat (.int .i64) (.cat (.int .i64) (.cat (.ptr 0 0 0 0) (.int .i64)))))⟩
def bfA : Dom := ⟨[bkR], .cat (.int .u16) (.cat (.int .u16) (.cat (.int .i64) (.cat (.int .i64) (.ptr 0 0 0 0))))⟩
def fillIn (m e f w i most each n a : Int) : Prop := 0 ≤ m ∧ m < 20 ∧ 1 ≤ e ∧ e ≤ 30 ∧ 0 ≤ f ∧ f < 65536 ∧ 0 ≤ w ∧ w < 65536 ∧ 0 ≤ i ∧ i ≤ m ∧ most = m ∧ each = e ∧ n = m - i ∧ (i = 0 → a = 0) ∧ (0 < i → a = f)
def lapFill : Lap where
  id := 6
  N := 87
  live := [2, 3, 9, 10, 11, 12]
  D := bfD
  oA := .exit 0
  liveA := [2, 3, 9, 10, 11]
  A := bfA
  inv := fun (((most, each, n, a), _), (f, w, m, e, _, i)) => fillIn m e f w i most each n a
  relA := fun (((most, each, n, a), _), (f, w, m, e, _, i)) y => y = (((m, e, 0, if m = 0 then 0 else f), ()), (f, w, m, e, ()))
  use := fun (((most, each, n, a), _), (f, w, m, e, _, i)) ka _ => ka (((m, e, 0, if m = 0 then 0 else f), ()), (f, w, m, e, ()))
  ok := fun x ka kb h => ⟨fun y e => (by subst e; exact h), fun y h => h.elim⟩
def conFills : Con := lawCon [.int .u8, .int .u8, .int .u16, .int .u16]

theorem known_vc (qa : conYes.A.den → Prop) (qb : conYes.B.den → Prop) : (conYes.run Try.prog bkBook 9 [] 17 (fun _ => true) ((), ()) qa qb) =
  (True ∧
  bkOk 2 5 2 0 ∧
    bkOk 2 5 1 1 ∧ bkOk 2 5 0 1 ∧ (true = true → (true = true → (true = true → bkOk 2 5 0 4 ∧ (true = true → bkOk 2 5 0 5 ∧ (true = true → bkOk 2 5 0 9 ∧ qa (PUnit.unit, true)) ∧ (true = false → qa (PUnit.unit, false))) ∧ (true = false → qa (PUnit.unit, false))) ∧ (true = false → qa (PUnit.unit, false))) ∧ (true = false → qa (PUnit.unit, false))) ∧ (true = false → qa (PUnit.unit, false))) := by kernel_rfl

theorem fill_vc (most each n a f w m e i : Int) (again : bfD.den → Prop) (qa : bfA.den → Prop) (qb : lapFill.B.den → Prop) : (lapFill.run Try.prog bkBookK 9 0 [] 7 (((most, each, n, a), ()), (f, w, m, e, (), i)) again qa qb) =
  ((decide (i < m) = true →
    bkOk most each n a ∧
      ((!decide (bkN most each n a (IntKind.i64.wrap f) ≠ 0)) = true → qb (PUnit.unit, PUnit.unit)) ∧ ((!decide (bkN most each n a (IntKind.i64.wrap f) ≠ 0)) = false → again (((most, each, if bkN most each n a (IntKind.i64.wrap f) = 0 then 0 else bkN most each n a (IntKind.i64.wrap f) - 1, bkNow a (IntKind.i64.wrap f)), PUnit.unit), f, w, m, e, PUnit.unit, IntKind.i64.wrap (i + 1)))) ∧
  (decide (i < m) = false → qa (((most, each, n, a), PUnit.unit), f, w, m, e, PUnit.unit))) := by kernel_rfl

theorem fills_vc (m e f w : Int) (qa : conFills.A.den → Prop) (qb : conFills.B.den → Prop) : (conFills.run Try.prog bkBookK 9 [lapFill] 7 (fun _ => true) ((), (m, e, f, w)) qa qb) =
  (True ∧
  (false = true → qa (PUnit.unit, false)) ∧
    (false = false →
      True ∧
        fillIn (IntKind.i64.wrap (m.tmod 20)) (IntKind.i64.wrap (IntKind.i64.wrap (e.tmod 30) + 1)) f w 0 (bkMost (IntKind.i64.wrap (m.tmod 20))) (bkEach (IntKind.i64.wrap (IntKind.i64.wrap (e.tmod 30) + 1))) (bkMost (IntKind.i64.wrap (m.tmod 20))) 0 ∧
          bkOk (IntKind.i64.wrap (m.tmod 20)) (IntKind.i64.wrap (IntKind.i64.wrap (e.tmod 30) + 1)) 0 (if IntKind.i64.wrap (m.tmod 20) = 0 then 0 else f) ∧
            (decide (bkN (IntKind.i64.wrap (m.tmod 20)) (IntKind.i64.wrap (IntKind.i64.wrap (e.tmod 30) + 1)) 0 (if IntKind.i64.wrap (m.tmod 20) = 0 then 0 else f) (IntKind.i64.wrap f) ≠ 0) = true → qa (PUnit.unit, false)) ∧
              (decide (bkN (IntKind.i64.wrap (m.tmod 20)) (IntKind.i64.wrap (IntKind.i64.wrap (e.tmod 30) + 1)) 0 (if IntKind.i64.wrap (m.tmod 20) = 0 then 0 else f) (IntKind.i64.wrap f) ≠ 0) = false →
                bkOk (IntKind.i64.wrap (m.tmod 20)) (IntKind.i64.wrap (IntKind.i64.wrap (e.tmod 30) + 1))
                    (if bkN (IntKind.i64.wrap (m.tmod 20)) (IntKind.i64.wrap (IntKind.i64.wrap (e.tmod 30) + 1)) 0 (if IntKind.i64.wrap (m.tmod 20) = 0 then 0 else f) (IntKind.i64.wrap f) = 0 then 0 else bkN (IntKind.i64.wrap (m.tmod 20)) (IntKind.i64.wrap (IntKind.i64.wrap (e.tmod 30) + 1)) 0 (if IntKind.i64.wrap (m.tmod 20) = 0 then 0 else f) (IntKind.i64.wrap f) - 1)
                    (bkNow (if IntKind.i64.wrap (m.tmod 20) = 0 then 0 else f) (IntKind.i64.wrap f)) ∧
                  ((bkN (IntKind.i64.wrap (m.tmod 20)) (IntKind.i64.wrap (IntKind.i64.wrap (e.tmod 30) + 1))
                            (if bkN (IntKind.i64.wrap (m.tmod 20)) (IntKind.i64.wrap (IntKind.i64.wrap (e.tmod 30) + 1)) 0 (if IntKind.i64.wrap (m.tmod 20) = 0 then 0 else f) (IntKind.i64.wrap f) = 0 then 0 else bkN (IntKind.i64.wrap (m.tmod 20)) (IntKind.i64.wrap (IntKind.i64.wrap (e.tmod 30) + 1)) 0 (if IntKind.i64.wrap (m.tmod 20) = 0 then 0 else f) (IntKind.i64.wrap f) - 1)
                            (bkNow (if IntKind.i64.wrap (m.tmod 20) = 0 then 0 else f) (IntKind.i64.wrap f)) (IntKind.i64.wrap f) !=
                          0) =
                        true →
                      qa (PUnit.unit, false)) ∧
                    ((bkN (IntKind.i64.wrap (m.tmod 20)) (IntKind.i64.wrap (IntKind.i64.wrap (e.tmod 30) + 1))
                            (if bkN (IntKind.i64.wrap (m.tmod 20)) (IntKind.i64.wrap (IntKind.i64.wrap (e.tmod 30) + 1)) 0 (if IntKind.i64.wrap (m.tmod 20) = 0 then 0 else f) (IntKind.i64.wrap f) = 0 then 0 else bkN (IntKind.i64.wrap (m.tmod 20)) (IntKind.i64.wrap (IntKind.i64.wrap (e.tmod 30) + 1)) 0 (if IntKind.i64.wrap (m.tmod 20) = 0 then 0 else f) (IntKind.i64.wrap f) - 1)
                            (bkNow (if IntKind.i64.wrap (m.tmod 20) = 0 then 0 else f) (IntKind.i64.wrap f)) (IntKind.i64.wrap f) !=
                          0) =
                        false →
                      IntKind.i64.wrap (IntKind.i64.wrap (e.tmod 30) + 1) ≠ 0 ∧
                        IntKind.i64.wrap (IntKind.i64.wrap (e.tmod 30) + 1) ≠ 0 ∧
                          bkOk (IntKind.i64.wrap (m.tmod 20)) (IntKind.i64.wrap (IntKind.i64.wrap (e.tmod 30) + 1))
                              (bkN (IntKind.i64.wrap (m.tmod 20)) (IntKind.i64.wrap (IntKind.i64.wrap (e.tmod 30) + 1))
                                (if bkN (IntKind.i64.wrap (m.tmod 20)) (IntKind.i64.wrap (IntKind.i64.wrap (e.tmod 30) + 1)) 0 (if IntKind.i64.wrap (m.tmod 20) = 0 then 0 else f) (IntKind.i64.wrap f) = 0 then 0 else bkN (IntKind.i64.wrap (m.tmod 20)) (IntKind.i64.wrap (IntKind.i64.wrap (e.tmod 30) + 1)) 0 (if IntKind.i64.wrap (m.tmod 20) = 0 then 0 else f) (IntKind.i64.wrap f) - 1)
                                (bkNow (if IntKind.i64.wrap (m.tmod 20) = 0 then 0 else f) (IntKind.i64.wrap f)) (IntKind.i64.wrap f))
                              (bkNow (bkNow (if IntKind.i64.wrap (m.tmod 20) = 0 then 0 else f) (IntKind.i64.wrap f)) (IntKind.i64.wrap f)) ∧
                            ((bkN (IntKind.i64.wrap (m.tmod 20)) (IntKind.i64.wrap (IntKind.i64.wrap (e.tmod 30) + 1))
                                      (bkN (IntKind.i64.wrap (m.tmod 20)) (IntKind.i64.wrap (IntKind.i64.wrap (e.tmod 30) + 1))
                                        (if bkN (IntKind.i64.wrap (m.tmod 20)) (IntKind.i64.wrap (IntKind.i64.wrap (e.tmod 30) + 1)) 0 (if IntKind.i64.wrap (m.tmod 20) = 0 then 0 else f) (IntKind.i64.wrap f) = 0 then 0 else bkN (IntKind.i64.wrap (m.tmod 20)) (IntKind.i64.wrap (IntKind.i64.wrap (e.tmod 30) + 1)) 0 (if IntKind.i64.wrap (m.tmod 20) = 0 then 0 else f) (IntKind.i64.wrap f) - 1)
                                        (bkNow (if IntKind.i64.wrap (m.tmod 20) = 0 then 0 else f) (IntKind.i64.wrap f)) (IntKind.i64.wrap f))
                                      (bkNow (bkNow (if IntKind.i64.wrap (m.tmod 20) = 0 then 0 else f) (IntKind.i64.wrap f)) (IntKind.i64.wrap f)) (IntKind.i64.wrap (IntKind.i64.wrap f + IntKind.i64.wrap w)) ==
                                    mn2 (IntKind.i64.wrap (IntKind.i64.wrap ((IntKind.i64.wrap (IntKind.i64.wrap f + IntKind.i64.wrap w)).tdiv (IntKind.i64.wrap (IntKind.i64.wrap (e.tmod 30) + 1))) - IntKind.i64.wrap ((IntKind.i64.wrap f).tdiv (IntKind.i64.wrap (IntKind.i64.wrap (e.tmod 30) + 1))))) (IntKind.i64.wrap (m.tmod 20))) =
                                  true →
                                bkOk (IntKind.i64.wrap (m.tmod 20)) (IntKind.i64.wrap (IntKind.i64.wrap (e.tmod 30) + 1))
                                    (bkN (IntKind.i64.wrap (m.tmod 20)) (IntKind.i64.wrap (IntKind.i64.wrap (e.tmod 30) + 1))
                                      (bkN (IntKind.i64.wrap (m.tmod 20)) (IntKind.i64.wrap (IntKind.i64.wrap (e.tmod 30) + 1))
                                        (if bkN (IntKind.i64.wrap (m.tmod 20)) (IntKind.i64.wrap (IntKind.i64.wrap (e.tmod 30) + 1)) 0 (if IntKind.i64.wrap (m.tmod 20) = 0 then 0 else f) (IntKind.i64.wrap f) = 0 then 0 else bkN (IntKind.i64.wrap (m.tmod 20)) (IntKind.i64.wrap (IntKind.i64.wrap (e.tmod 30) + 1)) 0 (if IntKind.i64.wrap (m.tmod 20) = 0 then 0 else f) (IntKind.i64.wrap f) - 1)
                                        (bkNow (if IntKind.i64.wrap (m.tmod 20) = 0 then 0 else f) (IntKind.i64.wrap f)) (IntKind.i64.wrap f))
                                      (bkNow (bkNow (if IntKind.i64.wrap (m.tmod 20) = 0 then 0 else f) (IntKind.i64.wrap f)) (IntKind.i64.wrap f)) (IntKind.i64.wrap (IntKind.i64.wrap f + IntKind.i64.wrap w)))
                                    (bkNow (bkNow (bkNow (if IntKind.i64.wrap (m.tmod 20) = 0 then 0 else f) (IntKind.i64.wrap f)) (IntKind.i64.wrap f)) (IntKind.i64.wrap (IntKind.i64.wrap f + IntKind.i64.wrap w))) ∧
                                  ((bkN (IntKind.i64.wrap (m.tmod 20)) (IntKind.i64.wrap (IntKind.i64.wrap (e.tmod 30) + 1))
                                            (bkN (IntKind.i64.wrap (m.tmod 20)) (IntKind.i64.wrap (IntKind.i64.wrap (e.tmod 30) + 1))
                                              (bkN (IntKind.i64.wrap (m.tmod 20)) (IntKind.i64.wrap (IntKind.i64.wrap (e.tmod 30) + 1))
                                                (if bkN (IntKind.i64.wrap (m.tmod 20)) (IntKind.i64.wrap (IntKind.i64.wrap (e.tmod 30) + 1)) 0 (if IntKind.i64.wrap (m.tmod 20) = 0 then 0 else f) (IntKind.i64.wrap f) = 0 then 0 else bkN (IntKind.i64.wrap (m.tmod 20)) (IntKind.i64.wrap (IntKind.i64.wrap (e.tmod 30) + 1)) 0 (if IntKind.i64.wrap (m.tmod 20) = 0 then 0 else f) (IntKind.i64.wrap f) - 1)
                                                (bkNow (if IntKind.i64.wrap (m.tmod 20) = 0 then 0 else f) (IntKind.i64.wrap f)) (IntKind.i64.wrap f))
                                              (bkNow (bkNow (if IntKind.i64.wrap (m.tmod 20) = 0 then 0 else f) (IntKind.i64.wrap f)) (IntKind.i64.wrap f)) (IntKind.i64.wrap (IntKind.i64.wrap f + IntKind.i64.wrap w)))
                                            (bkNow (bkNow (bkNow (if IntKind.i64.wrap (m.tmod 20) = 0 then 0 else f) (IntKind.i64.wrap f)) (IntKind.i64.wrap f)) (IntKind.i64.wrap (IntKind.i64.wrap f + IntKind.i64.wrap w))) (IntKind.i64.wrap f) ==
                                          mn2 (IntKind.i64.wrap (IntKind.i64.wrap ((IntKind.i64.wrap (IntKind.i64.wrap f + IntKind.i64.wrap w)).tdiv (IntKind.i64.wrap (IntKind.i64.wrap (e.tmod 30) + 1))) - IntKind.i64.wrap ((IntKind.i64.wrap f).tdiv (IntKind.i64.wrap (IntKind.i64.wrap (e.tmod 30) + 1))))) (IntKind.i64.wrap (m.tmod 20))) =
                                        true →
                                      bkOk (IntKind.i64.wrap (m.tmod 20)) (IntKind.i64.wrap (IntKind.i64.wrap (e.tmod 30) + 1))
                                          (bkN (IntKind.i64.wrap (m.tmod 20)) (IntKind.i64.wrap (IntKind.i64.wrap (e.tmod 30) + 1))
                                            (bkN (IntKind.i64.wrap (m.tmod 20)) (IntKind.i64.wrap (IntKind.i64.wrap (e.tmod 30) + 1))
                                              (bkN (IntKind.i64.wrap (m.tmod 20)) (IntKind.i64.wrap (IntKind.i64.wrap (e.tmod 30) + 1))
                                                (if bkN (IntKind.i64.wrap (m.tmod 20)) (IntKind.i64.wrap (IntKind.i64.wrap (e.tmod 30) + 1)) 0 (if IntKind.i64.wrap (m.tmod 20) = 0 then 0 else f) (IntKind.i64.wrap f) = 0 then 0 else bkN (IntKind.i64.wrap (m.tmod 20)) (IntKind.i64.wrap (IntKind.i64.wrap (e.tmod 30) + 1)) 0 (if IntKind.i64.wrap (m.tmod 20) = 0 then 0 else f) (IntKind.i64.wrap f) - 1)
                                                (bkNow (if IntKind.i64.wrap (m.tmod 20) = 0 then 0 else f) (IntKind.i64.wrap f)) (IntKind.i64.wrap f))
                                              (bkNow (bkNow (if IntKind.i64.wrap (m.tmod 20) = 0 then 0 else f) (IntKind.i64.wrap f)) (IntKind.i64.wrap f)) (IntKind.i64.wrap (IntKind.i64.wrap f + IntKind.i64.wrap w)))
                                            (bkNow (bkNow (bkNow (if IntKind.i64.wrap (m.tmod 20) = 0 then 0 else f) (IntKind.i64.wrap f)) (IntKind.i64.wrap f)) (IntKind.i64.wrap (IntKind.i64.wrap f + IntKind.i64.wrap w))) (IntKind.i64.wrap f))
                                          (bkNow (bkNow (bkNow (bkNow (if IntKind.i64.wrap (m.tmod 20) = 0 then 0 else f) (IntKind.i64.wrap f)) (IntKind.i64.wrap f)) (IntKind.i64.wrap (IntKind.i64.wrap f + IntKind.i64.wrap w))) (IntKind.i64.wrap f)) ∧
                                        qa
                                          (PUnit.unit,
                                            bkN (IntKind.i64.wrap (m.tmod 20)) (IntKind.i64.wrap (IntKind.i64.wrap (e.tmod 30) + 1))
                                                (bkN (IntKind.i64.wrap (m.tmod 20)) (IntKind.i64.wrap (IntKind.i64.wrap (e.tmod 30) + 1))
                                                  (bkN (IntKind.i64.wrap (m.tmod 20)) (IntKind.i64.wrap (IntKind.i64.wrap (e.tmod 30) + 1))
                                                    (bkN (IntKind.i64.wrap (m.tmod 20)) (IntKind.i64.wrap (IntKind.i64.wrap (e.tmod 30) + 1))
                                                      (if bkN (IntKind.i64.wrap (m.tmod 20)) (IntKind.i64.wrap (IntKind.i64.wrap (e.tmod 30) + 1)) 0 (if IntKind.i64.wrap (m.tmod 20) = 0 then 0 else f) (IntKind.i64.wrap f) = 0 then 0
                                                      else bkN (IntKind.i64.wrap (m.tmod 20)) (IntKind.i64.wrap (IntKind.i64.wrap (e.tmod 30) + 1)) 0 (if IntKind.i64.wrap (m.tmod 20) = 0 then 0 else f) (IntKind.i64.wrap f) - 1)
                                                      (bkNow (if IntKind.i64.wrap (m.tmod 20) = 0 then 0 else f) (IntKind.i64.wrap f)) (IntKind.i64.wrap f))
                                                    (bkNow (bkNow (if IntKind.i64.wrap (m.tmod 20) = 0 then 0 else f) (IntKind.i64.wrap f)) (IntKind.i64.wrap f)) (IntKind.i64.wrap (IntKind.i64.wrap f + IntKind.i64.wrap w)))
                                                  (bkNow (bkNow (bkNow (if IntKind.i64.wrap (m.tmod 20) = 0 then 0 else f) (IntKind.i64.wrap f)) (IntKind.i64.wrap f)) (IntKind.i64.wrap (IntKind.i64.wrap f + IntKind.i64.wrap w))) (IntKind.i64.wrap f))
                                                (bkNow (bkNow (bkNow (bkNow (if IntKind.i64.wrap (m.tmod 20) = 0 then 0 else f) (IntKind.i64.wrap f)) (IntKind.i64.wrap f)) (IntKind.i64.wrap (IntKind.i64.wrap f + IntKind.i64.wrap w))) (IntKind.i64.wrap f)) (IntKind.i64.wrap (IntKind.i64.wrap f + IntKind.i64.wrap w)) ==
                                              mn2 (IntKind.i64.wrap (IntKind.i64.wrap ((IntKind.i64.wrap (IntKind.i64.wrap f + IntKind.i64.wrap w)).tdiv (IntKind.i64.wrap (IntKind.i64.wrap (e.tmod 30) + 1))) - IntKind.i64.wrap ((IntKind.i64.wrap f).tdiv (IntKind.i64.wrap (IntKind.i64.wrap (e.tmod 30) + 1))))) (IntKind.i64.wrap (m.tmod 20)))) ∧
                                    ((bkN (IntKind.i64.wrap (m.tmod 20)) (IntKind.i64.wrap (IntKind.i64.wrap (e.tmod 30) + 1))
                                            (bkN (IntKind.i64.wrap (m.tmod 20)) (IntKind.i64.wrap (IntKind.i64.wrap (e.tmod 30) + 1))
                                              (bkN (IntKind.i64.wrap (m.tmod 20)) (IntKind.i64.wrap (IntKind.i64.wrap (e.tmod 30) + 1))
                                                (if bkN (IntKind.i64.wrap (m.tmod 20)) (IntKind.i64.wrap (IntKind.i64.wrap (e.tmod 30) + 1)) 0 (if IntKind.i64.wrap (m.tmod 20) = 0 then 0 else f) (IntKind.i64.wrap f) = 0 then 0 else bkN (IntKind.i64.wrap (m.tmod 20)) (IntKind.i64.wrap (IntKind.i64.wrap (e.tmod 30) + 1)) 0 (if IntKind.i64.wrap (m.tmod 20) = 0 then 0 else f) (IntKind.i64.wrap f) - 1)
                                                (bkNow (if IntKind.i64.wrap (m.tmod 20) = 0 then 0 else f) (IntKind.i64.wrap f)) (IntKind.i64.wrap f))
                                              (bkNow (bkNow (if IntKind.i64.wrap (m.tmod 20) = 0 then 0 else f) (IntKind.i64.wrap f)) (IntKind.i64.wrap f)) (IntKind.i64.wrap (IntKind.i64.wrap f + IntKind.i64.wrap w)))
                                            (bkNow (bkNow (bkNow (if IntKind.i64.wrap (m.tmod 20) = 0 then 0 else f) (IntKind.i64.wrap f)) (IntKind.i64.wrap f)) (IntKind.i64.wrap (IntKind.i64.wrap f + IntKind.i64.wrap w))) (IntKind.i64.wrap f) ==
                                          mn2 (IntKind.i64.wrap (IntKind.i64.wrap ((IntKind.i64.wrap (IntKind.i64.wrap f + IntKind.i64.wrap w)).tdiv (IntKind.i64.wrap (IntKind.i64.wrap (e.tmod 30) + 1))) - IntKind.i64.wrap ((IntKind.i64.wrap f).tdiv (IntKind.i64.wrap (IntKind.i64.wrap (e.tmod 30) + 1))))) (IntKind.i64.wrap (m.tmod 20))) =
                                        false →
                                      qa (PUnit.unit, false))) ∧
                              ((bkN (IntKind.i64.wrap (m.tmod 20)) (IntKind.i64.wrap (IntKind.i64.wrap (e.tmod 30) + 1))
                                      (bkN (IntKind.i64.wrap (m.tmod 20)) (IntKind.i64.wrap (IntKind.i64.wrap (e.tmod 30) + 1))
                                        (if bkN (IntKind.i64.wrap (m.tmod 20)) (IntKind.i64.wrap (IntKind.i64.wrap (e.tmod 30) + 1)) 0 (if IntKind.i64.wrap (m.tmod 20) = 0 then 0 else f) (IntKind.i64.wrap f) = 0 then 0 else bkN (IntKind.i64.wrap (m.tmod 20)) (IntKind.i64.wrap (IntKind.i64.wrap (e.tmod 30) + 1)) 0 (if IntKind.i64.wrap (m.tmod 20) = 0 then 0 else f) (IntKind.i64.wrap f) - 1)
                                        (bkNow (if IntKind.i64.wrap (m.tmod 20) = 0 then 0 else f) (IntKind.i64.wrap f)) (IntKind.i64.wrap f))
                                      (bkNow (bkNow (if IntKind.i64.wrap (m.tmod 20) = 0 then 0 else f) (IntKind.i64.wrap f)) (IntKind.i64.wrap f)) (IntKind.i64.wrap (IntKind.i64.wrap f + IntKind.i64.wrap w)) ==
                                    mn2 (IntKind.i64.wrap (IntKind.i64.wrap ((IntKind.i64.wrap (IntKind.i64.wrap f + IntKind.i64.wrap w)).tdiv (IntKind.i64.wrap (IntKind.i64.wrap (e.tmod 30) + 1))) - IntKind.i64.wrap ((IntKind.i64.wrap f).tdiv (IntKind.i64.wrap (IntKind.i64.wrap (e.tmod 30) + 1))))) (IntKind.i64.wrap (m.tmod 20))) =
                                  false →
                                qa (PUnit.unit, false)))))) := by kernel_rfl

theorem u8_wf {n : Int} (h : (Lit.int .u8 n).wf = true) : 0 ≤ n ∧ n < 256 := by
  simp [Lit.wf, IntKind.min, IntKind.max, IntKind.signed, IntKind.bits] at h; omega
theorem u16_wf {n : Int} (h : (Lit.int .u16 n).wf = true) : 0 ≤ n ∧ n < 65536 := by
  simp [Lit.wf, IntKind.min, IntKind.max, IntKind.signed, IntKind.bits] at h; omega
theorem known_run (qb : conYes.B.den → Prop) : conYes.run Try.prog bkBook 9 [] 17 (fun _ => true) ((), ()) (fun y => conYes.spec ((), ()) = .inl y) qb := by
  refine (known_vc _ _).mpr ?_
  have h1 : bkOk 2 5 2 0 := by unfold bkOk; omega
  have h2 : bkOk 2 5 1 1 := by unfold bkOk; omega
  have h3 : bkOk 2 5 0 1 := by unfold bkOk; omega
  have h4 : bkOk 2 5 0 4 := by unfold bkOk; omega
  have h5 : bkOk 2 5 0 5 := by unfold bkOk; omega
  have h6 : bkOk 2 5 0 9 := by unfold bkOk; omega
  exact ⟨trivial, h1, h2, h3, fun _ => ⟨fun _ => ⟨fun _ => ⟨h4, fun _ => ⟨h5, fun _ => ⟨h6, rfl⟩, fun e => (by cases e)⟩, fun e => (by cases e)⟩, fun e => (by cases e)⟩, fun e => (by cases e)⟩, fun e => (by cases e)⟩
theorem known_ok : ConOk Try.prog 17 conYes := by
  refine Con.proved mixed prog_ok bk_book (by kernel_rfl) LapsOk.nil 9 (fun _ => true) (fun _ => rfl) (.inr fun x y _ h => by cases h) ?_
  rintro ⟨⟨⟩, ⟨⟩⟩ _
  exact known_run _
theorem bk_bookK : BookOk Try.prog bkBookK := bk_book.add known_ok

theorem fill_round (most each n a f w m e i : Int) (h : fillIn m e f w i most each n a) :
    lapFill.run Try.prog bkBookK 9 0 [] 7 (((most, each, n, a), ()), (f, w, m, e, (), i))
      (fun x' => lapFill.inv x' ∧ (x'.2.2.2.1 - x'.2.2.2.2.2.2 : Int).toNat < (m - i).toNat ∧ (∀ y, lapFill.relA x' y → lapFill.relA (((most, each, n, a), ()), (f, w, m, e, (), i)) y) ∧ ∀ y, lapFill.relB x' y → lapFill.relB (((most, each, n, a), ()), (f, w, m, e, (), i)) y)
      (lapFill.relA (((most, each, n, a), ()), (f, w, m, e, (), i))) (lapFill.relB (((most, each, n, a), ()), (f, w, m, e, (), i))) := by
  refine (fill_vc most each n a f w m e i _ _ _).mpr ?_
  obtain ⟨h1, h2, h3, h4, h5, h6, h7, h8, h9, h10, rfl, rfl, rfl, h11, h12⟩ := h
  have hf : IntKind.i64.wrap f = f := w64 (by omega) (by omega)
  have hn : bkNow a f = f := by unfold bkNow; omega
  have hN : i < most → bkN most each (most - i) a f = most - i := fun hi => by
    unfold bkN
    rw [hn]
    rcases Int.lt_or_eq_of_le h9 with g | rfl
    · rw [h12 g]; omega
    · rw [h11 rfl]
      have : 0 ≤ f / each := Int.ediv_nonneg h5 (by omega)
      simp
      omega
  rw [hf, hn]
  refine ⟨fun hi => ?_, fun hi => ?_⟩
  · have hi : i < most := by simpa using hi
    rw [hN hi, w64 (n := i + 1) (by omega) (by omega), if_neg (by omega)]
    refine ⟨⟨by omega, by omega, by omega, by omega, by omega, by omega, ?_, ?_⟩, fun e => ?_, fun _ => ?_⟩
    · rcases Int.lt_or_eq_of_le h9 with g | rfl <;> omega
    · rcases Int.lt_or_eq_of_le h9 with g | rfl <;> omega
    · simp only [Bool.not_eq_true', decide_eq_false_iff_not, ne_eq, Decidable.not_not] at e
      omega
    · refine ⟨⟨h1, h2, h3, h4, h5, h6, h7, h8, by omega, by omega, rfl, rfl, by omega, by omega, fun _ => rfl⟩, ?_, fun y hy => hy, fun y hy => hy⟩
      show (most - (i + 1)).toNat < (most - i).toNat
      omega
  · have hi : ¬ i < most := by simpa using hi
    show (_ : bfA.den) = (((most, each, 0, if most = 0 then 0 else f), ()), (f, w, most, each, ()))
    have : i = most := by omega
    subst this
    rw [Int.sub_self]
    rcases Int.lt_or_eq_of_le h9 with g | rfl
    · rw [if_neg (by omega), h12 g]; rfl
    · rw [h11 rfl]; rfl
theorem fill_ok : LapOk Try.prog 0 (codeOf Try.prog 7) lapFill := by
  refine Lap.proved mixed prog_ok bk_bookK (by kernel_rfl) (by kernel_rfl) LapsOk.nil 9 (fun x => (x.2.2.2.1 - x.2.2.2.2.2.2 : Int).toNat) ?_
  rintro ⟨⟨⟨most, each, n, a⟩, ⟨⟩⟩, f, w, m, e, ⟨⟩, i⟩ h
  exact fill_round most each n a f w m e i h

theorem fills_run (m e f w : Int) (hm0 : 0 ≤ m) (hm1 : m < 256) (he0 : 0 ≤ e) (he1 : e < 256) (hf0 : 0 ≤ f) (hf1 : f < 65536) (hw0 : 0 ≤ w) (hw1 : w < 65536) (qb : conFills.B.den → Prop) :
    conFills.run Try.prog bkBookK 9 [lapFill] 7 (fun _ => true) ((), (m, e, f, w)) (fun y => conFills.spec ((), (m, e, f, w)) = .inl y) qb := by
  refine (fills_vc m e f w _ _).mpr ?_
  have t1 : m.tmod 20 = m % 20 := Int.tmod_eq_emod_of_nonneg hm0
  have t2 : e.tmod 30 = e % 30 := Int.tmod_eq_emod_of_nonneg he0
  rw [t1, t2, w64 (n := m % 20) (by omega) (by omega), w64 (n := e % 30) (by omega) (by omega), w64 (n := e % 30 + 1) (by omega) (by omega),
    w64 (n := f) (by omega) (by omega), w64 (n := w) (by omega) (by omega), w64 (n := f + w) (by omega) (by omega)]
  obtain ⟨M, hM⟩ : ∃ M, M = m % 20 := ⟨_, rfl⟩
  obtain ⟨E, hE⟩ : ∃ E, E = e % 30 + 1 := ⟨_, rfl⟩
  rw [← hM, ← hE]
  have hM0 : 0 ≤ M := by omega
  have hM1 : M < 20 := by omega
  have hE0 : 1 ≤ E := by omega
  have hE1 : E ≤ 30 := by omega
  clear hM hE t1 t2
  have q1 : bkMost M = M := by unfold bkMost; omega
  have q2 : bkEach E = E := by unfold bkEach; omega
  have n1 : bkNow (if M = 0 then 0 else f) f = f := by unfold bkNow; split <;> omega
  have n2 : bkNow f f = f := by unfold bkNow; omega
  have n3 : bkNow f (f + w) = f + w := by unfold bkNow; omega
  have n4 : bkNow (f + w) f = f + w := by unfold bkNow; omega
  have n5 : bkNow (f + w) (f + w) = f + w := by unfold bkNow; omega
  have k1 : bkN M E 0 (if M = 0 then 0 else f) f = 0 := by
    unfold bkN
    rw [n1]
    have : 0 ≤ f / E := Int.ediv_nonneg hf0 (by omega)
    split <;> simp <;> omega
  have k2 : bkN M E 0 f f = 0 := by unfold bkN; rw [n2]; omega
  have d1 : (f + w).tdiv E = (f + w) / E := Int.tdiv_eq_ediv_of_nonneg (by omega)
  have d2 : f.tdiv E = f / E := Int.tdiv_eq_ediv_of_nonneg (by omega)
  have d3 : f / E ≤ (f + w) / E := Int.ediv_le_ediv (by omega) (by omega)
  have d4 : (f + w) / E ≤ f + w := Int.ediv_le_self _ (by omega)
  have d5 : 0 ≤ f / E := Int.ediv_nonneg hf0 (by omega)
  obtain ⟨X, hX⟩ : ∃ X, X = min ((f + w) / E - f / E) M := ⟨_, rfl⟩
  have k3 : bkN M E 0 f (f + w) = X := by unfold bkN; rw [n3, hX]; omega
  have k4 : bkN M E X (f + w) f = X := by unfold bkN; rw [n4]; omega
  have k5 : bkN M E X (f + w) (f + w) = X := by unfold bkN; rw [n5]; omega
  rw [d1, d2, w64 (n := (f + w) / E) (by omega) (by omega), w64 (n := f / E) (by omega) (by omega), w64 (n := (f + w) / E - f / E) (by omega) (by omega), mn2_eq, ← hX]
  simp only [k1, n1, if_true]
  simp only [k2, n2, k3, n3, k4, n4, k5, n5, q1, q2]
  have b0 : bkOk M E 0 (if M = 0 then 0 else f) := by unfold bkOk; split <;> omega
  have b1 : bkOk M E 0 f := by unfold bkOk; omega
  have b2 : bkOk M E X (f + w) := by unfold bkOk; omega
  have b3 : fillIn M E f w 0 M E M 0 := by unfold fillIn; omega
  simp [b0, b1, b2, b3, conFills, lawCon]
  omega
theorem fills_ok : ConOk Try.prog 7 conFills := by
  refine Con.proved mixed prog_ok bk_bookK (by kernel_rfl) (.cons fill_ok (by kernel_rfl) .nil) 9 (fun _ => true) (fun _ => rfl) (.inr fun x y _ h => by cases h) ?_
  rintro ⟨⟨⟩, m, e, f, w⟩ ⟨h1, h2, h3, h4⟩
  have h1 := u8_wf h1
  have h2 := u8_wf h2
  have h3 := u16_wf h3
  have h4 := u16_wf h4
  exact fills_run m e f w h1.1 h1.2 h2.1 h2.2 h3.1 h3.2 h4.1 h4.2 _
end Go.Vx
