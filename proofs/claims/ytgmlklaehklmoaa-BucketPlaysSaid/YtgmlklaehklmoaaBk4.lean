/- The bucket: the law BucketPlays' run. (A help: no statement of the seat is proved here.) -/
import Derived.Test.YtgmlklaehklmoaaBk3
set_option maxRecDepth 1000000
set_option linter.unusedVariables false
set_option linter.unusedSimpArgs false
namespace Go.Vx
open Go Go.Vx Go.Proofs

theorem rleft_vc (most each n a now : Int) (qa : conLeft.A.den → Prop) (qb : conLeft.B.den → Prop) : (conLeft.run Try.prog Book.none 9 [] 23 (fun _ => true) (((most, each, n, a), ()), ((), now)) qa qb) =
  (each ≠ (0 : Int) ∧
  each ≠ (0 : Int) ∧
    qa
      (((most, each, mn2 (IntKind.i64.wrap (n + IntKind.i64.wrap (IntKind.i64.wrap ((mx2 (mn2 (mx2 now (0 : Int)) (1099511627776 : Int)) a).tdiv each) - IntKind.i64.wrap (a.tdiv each)))) most, mx2 (mn2 (mx2 now (0 : Int)) (1099511627776 : Int)) a), PUnit.unit),
        mn2 (IntKind.i64.wrap (n + IntKind.i64.wrap (IntKind.i64.wrap ((mx2 (mn2 (mx2 now (0 : Int)) (1099511627776 : Int)) a).tdiv each) - IntKind.i64.wrap (a.tdiv each)))) most)) := by kernel_rfl

theorem rnew_vc (most each : Int) (qa : conNew.A.den → Prop) (qb : conNew.B.den → Prop) : (conNew.run Try.prog Book.none 9 [] 19 (fun _ => true) ((), (most, each)) qa qb) =
  (qa (((mn2 (mx2 most (0 : Int)) (1048576 : Int), mn2 (mx2 each (1 : Int)) (1048576 : Int), mn2 (mx2 most (0 : Int)) (1048576 : Int), (0 : Int)), PUnit.unit), PUnit.unit)) := by kernel_rfl

theorem rtake_vc (most each n a now : Int) (qa : conTake.A.den → Prop) (qb : conTake.B.den → Prop) : (conTake.run Try.prog (Book.none.add 23 conLeft) 9 [] 21 (fun _ => true) (((most, each, n, a), ()), ((), now)) qa qb) =
  (bkOk most each n a ∧ ((bkN most each n a now == (0 : Int)) = true → qa (((most, each, bkN most each n a now, bkNow a now), PUnit.unit), false)) ∧ ((bkN most each n a now == (0 : Int)) = false → qa (((most, each, IntKind.i64.wrap (bkN most each n a now - (1 : Int)), bkNow a now), PUnit.unit), true))) := by kernel_rfl

def bpBook : Book := ((bkBookK.add 23 conLeft).add 21 conTake).add 19 conNew
def bpRow : RP := .vec (.pair (.int .i64) (.pair (.int .i64) .unit)) 0 false
def bpV : VP := .cat (.vec (.int .u16)) (.cat (.vec (.int .i64)) (.cat (.ptr 0 0 0 0) (.cat (.ptr 1 0 0 0) (.cat (.sl 2 2) (.cat (.int .i64) (.int .i64))))))
/-- Inside the first loop. -/
def bpD1 : Dom := ⟨[bkR, bkR, bpRow], .cat (.int .i64) (.cat (.int .i64) bpV)⟩
def bpD2 : Dom := ⟨[bkR, bkR, bpRow], .cat (.int .i64) bpV⟩
def bpA1 : Dom := ⟨[bkR, bkR, bpRow], bpV⟩
def bpA2 : Dom := ⟨[.dead, .dead, bpRow], .cat (.vec (.int .u16)) (.cat (.vec (.int .i64)) (.cat (.sl 2 2) (.cat (.int .i64) (.int .i64))))⟩
def conPlays : Con := lawCon [.int .i64, .int .i64, .sl (.int .u16), .sl (.int .i64)]
def u16s (l : List Int) : Prop := l.length ≤ 40 ∧ ∀ x, x ∈ l → 0 ≤ x ∧ x < 65536
def stepIn (l : List Int) (now i most each n a most' each' n' a' : Int) : Prop := most' = most ∧ each' = each ∧ n' = n ∧ a' = a ∧ bkOk most each n a ∧ u16s l ∧ 0 ≤ i ∧ i ≤ l.length ∧ 0 ≤ now ∧ now ≤ 39 * i
def rawIn (r : List Int) (i most each n a most' each' n' a' : Int) : Prop := most' = most ∧ each' = each ∧ n' = n ∧ a' = a ∧ bkOk most each n a ∧ r.length ≤ 10 ∧ 0 ≤ i ∧ i ≤ r.length
def bothIn (tab : List (Int × Int × Unit)) (l r : List Int) (x y : Int) : Prop := u16s l ∧ r.length ≤ 10 ∧ (tab.length : Int) = x ∧ x ≤ 2 ∧ 0 ≤ y ∧ y ≤ x
def lapSteps : Lap where
  id := 11
  N := 132
  live := [13, 14, 2, 3, 11, 12, 34, 35, 36]
  D := bpD1
  oA := .exit 2
  liveA := [2, 3, 11, 12, 34, 35, 36]
  A := bpA1
  inv := fun (((most, each, n, a), (most', each', n', a'), tab, _), (now, i, l, r, _, _, _, x, y)) => stepIn l now i most each n a most' each' n' a'
  relA := fun ((_, _, tab, _), (_, _, l, r, _, _, _, x, y)) ((b, b', tab1, _), (l1, r1, _, _, _, x1, y1)) => b' = b ∧ bkOk b.1 b.2.1 b.2.2.1 b.2.2.2 ∧ tab1 = tab ∧ l1 = l ∧ r1 = r ∧ x1 = x ∧ y1 = y
  use := fun ((_, _, tab, _), (_, _, l, r, _, _, _, x, y)) ka _ => ∀ most each n a : Int, bkOk most each n a → ka (((most, each, n, a), (most, each, n, a), tab, ()), (l, r, (), (), (), x, y))
  ok := fun x ka kb h => ⟨fun y hy => (by
    obtain ⟨⟨b, b', tab1, _⟩, l1, r1, _, _, _, x1, y1⟩ := y
    obtain ⟨rfl, hb, rfl, rfl, rfl, rfl, rfl⟩ := hy
    exact h _ _ _ _ hb), fun y h => h.elim⟩
def lapRaws : Lap where
  id := 20
  N := 132
  live := [15, 2, 3, 11, 12, 34, 35, 36]
  D := bpD2
  oA := .exit 4
  liveA := [2, 3, 34, 35, 36]
  A := bpA2
  inv := fun (((most, each, n, a), (most', each', n', a'), tab, _), (i, l, r, _, _, _, x, y)) => rawIn r i most each n a most' each' n' a'
  relA := fun ((_, _, tab, _), (_, l, r, _, _, _, x, y)) ((_, _, tab1, _), (l1, r1, _, x1, y1)) => tab1 = tab ∧ l1 = l ∧ r1 = r ∧ x1 = x ∧ y1 = y
  use := fun ((_, _, tab, _), (_, l, r, _, _, _, x, y)) ka _ => ka (((), (), tab, ()), (l, r, (), x, y))
  ok := fun x ka kb h => ⟨fun y hy => (by
    obtain ⟨⟨b, b', tab1, _⟩, l1, r1, _, x1, y1⟩ := y
    obtain ⟨rfl, rfl, rfl, rfl, rfl⟩ := hy
    exact h), fun y h => h.elim⟩

def bpO : Dom := ⟨[bpRow], .cat (.vec (.int .u16)) (.cat (.vec (.int .i64)) (.cat (.sl 0 2) (.cat (.int .i64) (.int .i64))))⟩
def lapBoth : Lap where
  id := 6
  N := 132
  live := [2, 3, 34, 35, 36]
  D := bpO
  oA := .exit 0
  liveA := []
  A := ⟨[.dead], .nil⟩
  inv := fun ((tab, _), (l, r, _, x, y)) => bothIn tab l r x y
  relA := fun _ _ => True
  use := fun _ ka _ => ka (((), ()), ())
  ok := fun x ka kb h => ⟨fun _ _ => h, fun y h => h.elim⟩

theorem both_vc (x y : Int) (tab : List (Int × Int × Unit)) (l r : List Int) (again : bpO.den → Prop) (qa : lapBoth.A.den → Prop) (qb : lapBoth.B.den → Prop) : (lapBoth.run Try.prog bpBook 9 0 [lapSteps, lapRaws] 5 ((tab, ()), (l, r, (), x, y)) again qa qb) =
  ((decide (y < x) = true →
    ((0 : Int) ≤ y ∧ y < (↑tab.length : Int)) ∧
      (0 : Nat) + y.toNat < tab.length ∧
        True ∧
          True ∧
            ((0 : Nat) = (0 : Nat) ∧ tab.length = tab.length) ∧
              stepIn l (0 : Int) (0 : Int) (bkMost (tab.getD ((0 : Nat) + y.toNat) ((Ty.int IntKind.i64).pair ((Ty.int IntKind.i64).pair Ty.unit)).dflt).fst) (bkEach (tab.getD ((0 : Nat) + y.toNat) ((Ty.int IntKind.i64).pair ((Ty.int IntKind.i64).pair Ty.unit)).dflt).snd.fst) (bkMost (tab.getD ((0 : Nat) + y.toNat) ((Ty.int IntKind.i64).pair ((Ty.int IntKind.i64).pair Ty.unit)).dflt).fst)
                  (0 : Int) (bkMost (tab.getD ((0 : Nat) + y.toNat) ((Ty.int IntKind.i64).pair ((Ty.int IntKind.i64).pair Ty.unit)).dflt).fst) (bkEach (tab.getD ((0 : Nat) + y.toNat) ((Ty.int IntKind.i64).pair ((Ty.int IntKind.i64).pair Ty.unit)).dflt).snd.fst) (bkMost (tab.getD ((0 : Nat) + y.toNat) ((Ty.int IntKind.i64).pair ((Ty.int IntKind.i64).pair Ty.unit)).dflt).fst) (0 : Int) ∧
                ∀ (most each n a : Int), bkOk most each n a → ((0 : Nat) = (0 : Nat) ∧ tab.length = tab.length) ∧ rawIn r (0 : Int) most each n a most each n a ∧ ((0 : Nat) = (0 : Nat) ∧ tab.length = tab.length) ∧ again ((tab, PUnit.unit), l, r, PUnit.unit, x, IntKind.i64.wrap (y + (1 : Int)))) ∧
  (decide (y < x) = false → qa ((PUnit.unit, PUnit.unit), PUnit.unit))) := by kernel_rfl

theorem step_vc (most each n a most' each' n' a' now i x y : Int) (tab : List (Int × Int × Unit)) (l r : List Int) (again : bpD1.den → Prop) (qa : bpA1.den → Prop) (qb : lapSteps.B.den → Prop) : (lapSteps.run Try.prog bpBook 9 0 [] 5 (((most, each, n, a), (most', each', n', a'), tab, ()), (now, i, l, r, (), (), (), x, y)) again qa qb) =
  ((decide (i < (↑l.length : Int)) = true →
    ((0 : Int) ≤ i ∧ i < (↑l.length : Int)) ∧
      i.toNat < l.length ∧
        ((0 : Int) ≤ i ∧ i < (↑l.length : Int)) ∧
          i.toNat < l.length ∧
            (decide (l.getD i.toNat (Ty.int IntKind.u16).dflt < (40000 : Int)) = true →
                bkOk most each n a ∧
                  bkOk most' each' n' a' ∧
                    ((!decide (bkN most each n a (IntKind.i64.wrap (now + IntKind.i64.wrap (Int.tmod (l.getD i.toNat (Ty.int IntKind.u16).dflt) (40 : Int)))) ≠ (0 : Int)) == decide (bkN most' each' n' a' (IntKind.i64.wrap (now + IntKind.i64.wrap (Int.tmod (l.getD i.toNat (Ty.int IntKind.u16).dflt) (40 : Int)))) ≠ (0 : Int))) = true → qb (PUnit.unit, PUnit.unit)) ∧
                      ((!decide (bkN most each n a (IntKind.i64.wrap (now + IntKind.i64.wrap (Int.tmod (l.getD i.toNat (Ty.int IntKind.u16).dflt) (40 : Int)))) ≠ (0 : Int)) == decide (bkN most' each' n' a' (IntKind.i64.wrap (now + IntKind.i64.wrap (Int.tmod (l.getD i.toNat (Ty.int IntKind.u16).dflt) (40 : Int)))) ≠ (0 : Int))) = false →
                        ((0 : Nat) = (0 : Nat) ∧ tab.length = tab.length) ∧
                          again
                            (((most, each, if bkN most each n a (IntKind.i64.wrap (now + IntKind.i64.wrap (Int.tmod (l.getD i.toNat (Ty.int IntKind.u16).dflt) (40 : Int)))) = (0 : Int) then (0 : (VP.int IntKind.i64).den) else bkN most each n a (IntKind.i64.wrap (now + IntKind.i64.wrap (Int.tmod (l.getD i.toNat (Ty.int IntKind.u16).dflt) (40 : Int)))) - (1 : (VP.int IntKind.i64).den),
                                  bkNow a (IntKind.i64.wrap (now + IntKind.i64.wrap (Int.tmod (l.getD i.toNat (Ty.int IntKind.u16).dflt) (40 : Int))))),
                                (most', each', if bkN most' each' n' a' (IntKind.i64.wrap (now + IntKind.i64.wrap (Int.tmod (l.getD i.toNat (Ty.int IntKind.u16).dflt) (40 : Int)))) = (0 : Int) then (0 : (VP.int IntKind.i64).den) else bkN most' each' n' a' (IntKind.i64.wrap (now + IntKind.i64.wrap (Int.tmod (l.getD i.toNat (Ty.int IntKind.u16).dflt) (40 : Int)))) - (1 : (VP.int IntKind.i64).den),
                                  bkNow a' (IntKind.i64.wrap (now + IntKind.i64.wrap (Int.tmod (l.getD i.toNat (Ty.int IntKind.u16).dflt) (40 : Int))))),
                                tab, PUnit.unit),
                              IntKind.i64.wrap (now + IntKind.i64.wrap (Int.tmod (l.getD i.toNat (Ty.int IntKind.u16).dflt) (40 : Int))), IntKind.i64.wrap (i + (1 : Int)), l, r, PUnit.unit, PUnit.unit, PUnit.unit, x, y))) ∧
              (decide (l.getD i.toNat (Ty.int IntKind.u16).dflt < (40000 : Int)) = false →
                ((0 : Int) ≤ i ∧ i < (↑l.length : Int)) ∧
                  i.toNat < l.length ∧
                    bkOk most each n a ∧
                      ((0 : Int) ≤ i ∧ i < (↑l.length : Int)) ∧
                        i.toNat < l.length ∧
                          bkOk most' each' n' a' ∧
                            ((bkN most each n a (IntKind.i64.wrap (IntKind.i64.wrap (now + IntKind.i64.wrap (Int.tmod (l.getD i.toNat (Ty.int IntKind.u16).dflt) (40 : Int))) - IntKind.i64.wrap (Int.tmod (l.getD i.toNat (Ty.int IntKind.u16).dflt) (7 : Int)))) !=
                                    bkN most' each' n' a' (IntKind.i64.wrap (IntKind.i64.wrap (now + IntKind.i64.wrap (Int.tmod (l.getD i.toNat (Ty.int IntKind.u16).dflt) (40 : Int))) - IntKind.i64.wrap (Int.tmod (l.getD i.toNat (Ty.int IntKind.u16).dflt) (7 : Int))))) =
                                  true →
                                qb (PUnit.unit, PUnit.unit)) ∧
                              ((bkN most each n a (IntKind.i64.wrap (IntKind.i64.wrap (now + IntKind.i64.wrap (Int.tmod (l.getD i.toNat (Ty.int IntKind.u16).dflt) (40 : Int))) - IntKind.i64.wrap (Int.tmod (l.getD i.toNat (Ty.int IntKind.u16).dflt) (7 : Int)))) !=
                                    bkN most' each' n' a' (IntKind.i64.wrap (IntKind.i64.wrap (now + IntKind.i64.wrap (Int.tmod (l.getD i.toNat (Ty.int IntKind.u16).dflt) (40 : Int))) - IntKind.i64.wrap (Int.tmod (l.getD i.toNat (Ty.int IntKind.u16).dflt) (7 : Int))))) =
                                  false →
                                ((0 : Nat) = (0 : Nat) ∧ tab.length = tab.length) ∧
                                  again
                                    (((most, each, bkN most each n a (IntKind.i64.wrap (IntKind.i64.wrap (now + IntKind.i64.wrap (Int.tmod (l.getD i.toNat (Ty.int IntKind.u16).dflt) (40 : Int))) - IntKind.i64.wrap (Int.tmod (l.getD i.toNat (Ty.int IntKind.u16).dflt) (7 : Int)))),
                                          bkNow a (IntKind.i64.wrap (IntKind.i64.wrap (now + IntKind.i64.wrap (Int.tmod (l.getD i.toNat (Ty.int IntKind.u16).dflt) (40 : Int))) - IntKind.i64.wrap (Int.tmod (l.getD i.toNat (Ty.int IntKind.u16).dflt) (7 : Int))))),
                                        (most', each', bkN most' each' n' a' (IntKind.i64.wrap (IntKind.i64.wrap (now + IntKind.i64.wrap (Int.tmod (l.getD i.toNat (Ty.int IntKind.u16).dflt) (40 : Int))) - IntKind.i64.wrap (Int.tmod (l.getD i.toNat (Ty.int IntKind.u16).dflt) (7 : Int)))),
                                          bkNow a' (IntKind.i64.wrap (IntKind.i64.wrap (now + IntKind.i64.wrap (Int.tmod (l.getD i.toNat (Ty.int IntKind.u16).dflt) (40 : Int))) - IntKind.i64.wrap (Int.tmod (l.getD i.toNat (Ty.int IntKind.u16).dflt) (7 : Int))))),
                                        tab, PUnit.unit),
                                      IntKind.i64.wrap (now + IntKind.i64.wrap (Int.tmod (l.getD i.toNat (Ty.int IntKind.u16).dflt) (40 : Int))), IntKind.i64.wrap (i + (1 : Int)), l, r, PUnit.unit, PUnit.unit, PUnit.unit, x, y)))) ∧
  (decide (i < (↑l.length : Int)) = false → ((0 : Nat) = (0 : Nat) ∧ tab.length = tab.length) ∧ qa (((most, each, n, a), (most', each', n', a'), tab, PUnit.unit), l, r, PUnit.unit, PUnit.unit, PUnit.unit, x, y))) := by kernel_rfl

theorem raw_vc (most each n a most' each' n' a' i x y : Int) (tab : List (Int × Int × Unit)) (l r : List Int) (again : bpD2.den → Prop) (qa : bpA2.den → Prop) (qb : lapRaws.B.den → Prop) : (lapRaws.run Try.prog bpBook 9 0 [] 5 (((most, each, n, a), (most', each', n', a'), tab, ()), (i, l, r, (), (), (), x, y)) again qa qb) =
  ((decide (i < (↑r.length : Int)) = true →
    ((0 : Int) ≤ i ∧ i < (↑r.length : Int)) ∧
      i.toNat < r.length ∧
        bkOk most each n a ∧
          ((0 : Int) ≤ i ∧ i < (↑r.length : Int)) ∧
            i.toNat < r.length ∧
              bkOk most' each' n' a' ∧
                ((bkN most each n a (r.getD i.toNat (Ty.int IntKind.i64).dflt) != bkN most' each' n' a' (r.getD i.toNat (Ty.int IntKind.i64).dflt)) = true → qb (PUnit.unit, PUnit.unit)) ∧
                  ((bkN most each n a (r.getD i.toNat (Ty.int IntKind.i64).dflt) != bkN most' each' n' a' (r.getD i.toNat (Ty.int IntKind.i64).dflt)) = false →
                    ((0 : Int) ≤ i ∧ i < (↑r.length : Int)) ∧
                      i.toNat < r.length ∧
                        bkOk most each (bkN most each n a (r.getD i.toNat (Ty.int IntKind.i64).dflt)) (bkNow a (r.getD i.toNat (Ty.int IntKind.i64).dflt)) ∧
                          ((0 : Int) ≤ i ∧ i < (↑r.length : Int)) ∧
                            i.toNat < r.length ∧
                              bkOk most' each' (bkN most' each' n' a' (r.getD i.toNat (Ty.int IntKind.i64).dflt)) (bkNow a' (r.getD i.toNat (Ty.int IntKind.i64).dflt)) ∧
                                ((!decide (bkN most each (bkN most each n a (r.getD i.toNat (Ty.int IntKind.i64).dflt)) (bkNow a (r.getD i.toNat (Ty.int IntKind.i64).dflt)) (r.getD i.toNat (Ty.int IntKind.i64).dflt) ≠ (0 : Int)) ==
                                          decide (bkN most' each' (bkN most' each' n' a' (r.getD i.toNat (Ty.int IntKind.i64).dflt)) (bkNow a' (r.getD i.toNat (Ty.int IntKind.i64).dflt)) (r.getD i.toNat (Ty.int IntKind.i64).dflt) ≠ (0 : Int))) =
                                      true →
                                    qb (PUnit.unit, PUnit.unit)) ∧
                                  ((!decide (bkN most each (bkN most each n a (r.getD i.toNat (Ty.int IntKind.i64).dflt)) (bkNow a (r.getD i.toNat (Ty.int IntKind.i64).dflt)) (r.getD i.toNat (Ty.int IntKind.i64).dflt) ≠ (0 : Int)) ==
                                          decide (bkN most' each' (bkN most' each' n' a' (r.getD i.toNat (Ty.int IntKind.i64).dflt)) (bkNow a' (r.getD i.toNat (Ty.int IntKind.i64).dflt)) (r.getD i.toNat (Ty.int IntKind.i64).dflt) ≠ (0 : Int))) =
                                      false →
                                    ((0 : Nat) = (0 : Nat) ∧ tab.length = tab.length) ∧
                                      again
                                        (((most, each,
                                              if bkN most each (bkN most each n a (r.getD i.toNat (Ty.int IntKind.i64).dflt)) (bkNow a (r.getD i.toNat (Ty.int IntKind.i64).dflt)) (r.getD i.toNat (Ty.int IntKind.i64).dflt) = (0 : Int) then (0 : (VP.int IntKind.i64).den)
                                              else bkN most each (bkN most each n a (r.getD i.toNat (Ty.int IntKind.i64).dflt)) (bkNow a (r.getD i.toNat (Ty.int IntKind.i64).dflt)) (r.getD i.toNat (Ty.int IntKind.i64).dflt) - (1 : (VP.int IntKind.i64).den),
                                              bkNow (bkNow a (r.getD i.toNat (Ty.int IntKind.i64).dflt)) (r.getD i.toNat (Ty.int IntKind.i64).dflt)),
                                            (most', each',
                                              if bkN most' each' (bkN most' each' n' a' (r.getD i.toNat (Ty.int IntKind.i64).dflt)) (bkNow a' (r.getD i.toNat (Ty.int IntKind.i64).dflt)) (r.getD i.toNat (Ty.int IntKind.i64).dflt) = (0 : Int) then (0 : (VP.int IntKind.i64).den)
                                              else bkN most' each' (bkN most' each' n' a' (r.getD i.toNat (Ty.int IntKind.i64).dflt)) (bkNow a' (r.getD i.toNat (Ty.int IntKind.i64).dflt)) (r.getD i.toNat (Ty.int IntKind.i64).dflt) - (1 : (VP.int IntKind.i64).den),
                                              bkNow (bkNow a' (r.getD i.toNat (Ty.int IntKind.i64).dflt)) (r.getD i.toNat (Ty.int IntKind.i64).dflt)),
                                            tab, PUnit.unit),
                                          IntKind.i64.wrap (i + (1 : Int)), l, r, PUnit.unit, PUnit.unit, PUnit.unit, x, y)))) ∧
  (decide (i < (↑r.length : Int)) = false → ((0 : Nat) = (0 : Nat) ∧ tab.length = tab.length) ∧ qa ((PUnit.unit, PUnit.unit, tab, PUnit.unit), l, r, PUnit.unit, x, y))) := by kernel_rfl

theorem plays_vc (m e : Int) (l : List Int) (r : List Int) (qa : conPlays.A.den → Prop) (qb : conPlays.B.den → Prop) : (conPlays.run Try.prog bpBook 9 [lapBoth] 5 (fun _ => true) ((), (m, e, l, r)) qa qb) =
  (True ∧
  (false = true → qa (PUnit.unit, false)) ∧
    (false = false →
      (decide ((↑l.length : Int) > (40 : Int)) = true → qa (PUnit.unit, true)) ∧
        (decide ((↑l.length : Int) > (40 : Int)) = false →
          (decide ((↑r.length : Int) > (10 : Int)) = true → qa (PUnit.unit, true)) ∧
            (decide ((↑r.length : Int) > (10 : Int)) = false → bothIn [(m, e, ()), (IntKind.i64.wrap (↑(BitVec.ofInt IntKind.i64.bits m &&& BitVec.ofInt IntKind.i64.bits (7 : Int)).toNat : Int), IntKind.i64.wrap (↑(BitVec.ofInt IntKind.i64.bits e &&& BitVec.ofInt IntKind.i64.bits (15 : Int)).toNat : Int), ())] l r (2 : Int) (0 : Int) ∧ qa (PUnit.unit, true))))) := by kernel_rfl

theorem rleft_run (most each n a now : Int) (h : bkOk most each n a) (qb : conLeft.B.den → Prop) : conLeft.run Try.prog Book.none 9 [] 23 (fun _ => true) (((most, each, n, a), ()), ((), now)) (fun y => conLeft.spec (((most, each, n, a), ()), ((), now)) = .inl y) qb := by
  refine (rleft_vc most each n a now _ _).mpr ?_
  have h3 := h.2.2.1
  obtain ⟨k1, k2, k3, k4⟩ := bk_n (now := now) h
  obtain ⟨h1, h2, h3, h4, h5, h6, h7, h8⟩ := h
  have e : mx2 (mn2 (mx2 now 0) 1099511627776) a = bkNow a now := by rw [mx2_eq, mn2_eq, mx2_eq]; unfold bkNow; omega
  obtain ⟨ha, hb⟩ := bk_now (now := now) h7 h8
  have e1 : (bkNow a now).tdiv each = bkNow a now / each := Int.tdiv_eq_ediv_of_nonneg (by omega)
  have e2 : a.tdiv each = a / each := Int.tdiv_eq_ediv_of_nonneg h7
  have d1 : a / each ≤ bkNow a now / each := Int.ediv_le_ediv (by omega) ha
  have d2 : bkNow a now / each ≤ bkNow a now := Int.ediv_le_self _ (by omega)
  have d3 : 0 ≤ a / each := Int.ediv_nonneg h7 (by omega)
  have e3 : mn2 (IntKind.i64.wrap (n + IntKind.i64.wrap (IntKind.i64.wrap ((bkNow a now).tdiv each) - IntKind.i64.wrap (a.tdiv each)))) most = bkN most each n a now := by
    rw [e1, e2, mn2_eq, w64 (n := bkNow a now / each) (by omega) (by omega), w64 (n := a / each) (by omega) (by omega), w64 (n := bkNow a now / each - a / each) (by omega) (by omega), w64 (n := n + (bkNow a now / each - a / each)) (by omega) (by omega)]
    unfold bkN
    omega
  rw [e, e3]
  exact ⟨by omega, by omega, rfl⟩
theorem rleft_ok : ConOk Try.prog 23 conLeft := by
  refine Con.proved mixed prog_ok (BookOk.none _) (by kernel_rfl) LapsOk.nil 9 (fun _ => true) (fun _ => rfl) (.inr fun x y _ h => by cases h) ?_
  rintro ⟨⟨⟨most, each, n, a⟩, _⟩, _, now⟩ h
  exact rleft_run most each n a now h _
theorem rnew_run (most each : Int) (qb : conNew.B.den → Prop) : conNew.run Try.prog Book.none 9 [] 19 (fun _ => true) ((), (most, each)) (fun y => conNew.spec ((), (most, each)) = .inl y) qb := by
  refine (rnew_vc most each _ _).mpr ?_
  rw [bk_most, bk_each]
  rfl
theorem rnew_ok : ConOk Try.prog 19 conNew := by
  refine Con.proved mixed prog_ok (BookOk.none _) (by kernel_rfl) LapsOk.nil 9 (fun _ => true) (fun _ => rfl) (.inr fun x y _ h => by cases h) ?_
  rintro ⟨_, most, each⟩ _
  exact rnew_run most each _
theorem rtake_run (most each n a now : Int) (h : bkOk most each n a) (qb : conTake.B.den → Prop) : conTake.run Try.prog (Book.none.add 23 conLeft) 9 [] 21 (fun _ => true) (((most, each, n, a), ()), ((), now)) (fun y => conTake.spec (((most, each, n, a), ()), ((), now)) = .inl y) qb := by
  refine (rtake_vc most each n a now _ _).mpr ?_
  obtain ⟨_, h1, h2, h3⟩ := bk_n (now := now) h
  have h4 := h3.2.1
  refine ⟨h, fun e => ?_, fun e => ?_⟩
  · have e : bkN most each n a now = 0 := by simpa using e
    simp [conTake, e]
  · have e : ¬ bkN most each n a now = 0 := by simpa using e
    rw [w64 (by omega) (by omega)]
    simp [conTake, e]
theorem rtake_ok : ConOk Try.prog 21 conTake := by
  refine Con.proved mixed prog_ok ((BookOk.none _).add rleft_ok) (by kernel_rfl) LapsOk.nil 9 (fun _ => true) (fun _ => rfl) (.inr fun x y _ h => by cases h) ?_
  rintro ⟨⟨⟨most, each, n, a⟩, _⟩, _, now⟩ h
  exact rtake_run most each n a now h _
theorem bp_book : BookOk Try.prog bpBook := ((bk_bookK.add rleft_ok).add rtake_ok).add rnew_ok
theorem taken_ok {most each n a now : Int} (h : bkOk most each n a) : bkOk most each (if bkN most each n a now = 0 then 0 else bkN most each n a now - 1) (bkNow a now) := by
  obtain ⟨_, h1, h2, h3⟩ := bk_n (now := now) h
  unfold bkOk at h3 ⊢
  split <;> omega
theorem left_ok' {most each n a now : Int} (h : bkOk most each n a) : bkOk most each (bkN most each n a now) (bkNow a now) := (bk_n h).2.2.2
theorem getD_mem {α : Type} {l : List α} {i : Nat} {d : α} (h : i < l.length) : l.getD i d ∈ l := by
  rw [List.getD_eq_getElem?_getD, List.getElem?_eq_getElem h]
  exact List.getElem_mem h
theorem step_round (most each n a most' each' n' a' now i x y : Int) (tab : List (Int × Int × Unit)) (l r : List Int) (h : stepIn l now i most each n a most' each' n' a') :
    let X : lapSteps.D.den := (((most, each, n, a), (most', each', n', a'), tab, ()), (now, i, l, r, (), (), (), x, y))
    lapSteps.run Try.prog bpBook 9 0 [] 5 X
      (fun x' => lapSteps.inv x' ∧ ((x'.2.2.2.1.length : Int) - x'.2.2.1 : Int).toNat < ((l.length : Int) - i).toNat ∧ (∀ y, lapSteps.relA x' y → lapSteps.relA X y) ∧ ∀ y, lapSteps.relB x' y → lapSteps.relB X y)
      (lapSteps.relA X) (lapSteps.relB X) := by
  intro X
  refine (step_vc most each n a most' each' n' a' now i x y tab l r _ _ _).mpr ?_
  obtain ⟨rfl, rfl, rfl, rfl, hok, hl, h0, h1, h2, h3⟩ := h
  refine ⟨fun hi => ?_, fun hi => ⟨⟨rfl, rfl⟩, rfl, hok, rfl, rfl, rfl, rfl, rfl⟩⟩
  have hi : i < (l.length : Int) := by simpa using hi
  have hil : i.toNat < l.length := by omega
  have hx := hl.2 _ (getD_mem (d := (Ty.int IntKind.u16).dflt) hil)
  generalize l.getD i.toNat (Ty.int IntKind.u16).dflt = z at hx ⊢
  have hl1 := hl.1
  have t1 : z.tmod 40 = z % 40 := Int.tmod_eq_emod_of_nonneg hx.1
  rw [t1, w64 (n := z % 40) (by omega) (by omega), w64 (n := now + z % 40) (by omega) (by omega), w64 (n := i + 1) (by omega) (by omega)]
  have hz : 0 ≤ now + z % 40 ∧ now + z % 40 ≤ 39 * (i + 1) := by omega
  generalize now + z % 40 = t at hz ⊢
  have hμ : ((l.length : Int) - (i + 1)).toNat < ((l.length : Int) - i).toNat := by omega
  refine ⟨⟨h0, hi⟩, hil, ⟨h0, hi⟩, hil, fun _ => ⟨hok, hok, fun hc => ?_, fun _ => ⟨⟨rfl, rfl⟩, ?_, hμ, fun y hy => hy, fun y hy => hy⟩⟩, fun _ => ⟨⟨h0, hi⟩, hil, hok, ⟨h0, hi⟩, hil, hok, fun hc => ?_, fun _ => ⟨⟨rfl, rfl⟩, ?_, hμ, fun y hy => hy, fun y hy => hy⟩⟩⟩
  · simp at hc
  · exact ⟨rfl, rfl, rfl, rfl, taken_ok hok, hl, by omega, by omega, hz.1, hz.2⟩
  · simp at hc
  · exact ⟨rfl, rfl, rfl, rfl, left_ok' hok, hl, by omega, by omega, hz.1, hz.2⟩
theorem step_ok : LapOk Try.prog 0 (codeOf Try.prog 5) lapSteps := by
  refine Lap.proved mixed prog_ok bp_book (by kernel_rfl) (by kernel_rfl) LapsOk.nil 9 (fun x => ((x.2.2.2.1.length : Int) - x.2.2.1 : Int).toNat) ?_
  rintro ⟨⟨⟨most, each, n, a⟩, ⟨most', each', n', a'⟩, tab, ⟨⟩⟩, now, i, l, r, ⟨⟩, ⟨⟩, ⟨⟩, x, y⟩ h
  exact step_round most each n a most' each' n' a' now i x y tab l r h
theorem raw_round (most each n a most' each' n' a' i x y : Int) (tab : List (Int × Int × Unit)) (l r : List Int) (h : rawIn r i most each n a most' each' n' a') :
    let X : lapRaws.D.den := (((most, each, n, a), (most', each', n', a'), tab, ()), (i, l, r, (), (), (), x, y))
    lapRaws.run Try.prog bpBook 9 0 [] 5 X
      (fun x' => lapRaws.inv x' ∧ ((x'.2.2.2.1.length : Int) - x'.2.1 : Int).toNat < ((r.length : Int) - i).toNat ∧ (∀ y, lapRaws.relA x' y → lapRaws.relA X y) ∧ ∀ y, lapRaws.relB x' y → lapRaws.relB X y)
      (lapRaws.relA X) (lapRaws.relB X) := by
  intro X
  refine (raw_vc most each n a most' each' n' a' i x y tab l r _ _ _).mpr ?_
  obtain ⟨rfl, rfl, rfl, rfl, hok, hl, h0, h1⟩ := h
  refine ⟨fun hi => ?_, fun hi => ⟨⟨rfl, rfl⟩, rfl, rfl, rfl, rfl, rfl⟩⟩
  have hi : i < (r.length : Int) := by simpa using hi
  have hil : i.toNat < r.length := by omega
  generalize r.getD i.toNat (Ty.int IntKind.i64).dflt = z
  rw [w64 (n := i + 1) (by omega) (by omega)]
  have hμ : ((r.length : Int) - (i + 1)).toNat < ((r.length : Int) - i).toNat := by omega
  have hok' := left_ok' (now := z) hok
  refine ⟨⟨h0, hi⟩, hil, hok, ⟨h0, hi⟩, hil, hok, fun hc => ?_, fun _ => ⟨⟨h0, hi⟩, hil, hok', ⟨h0, hi⟩, hil, hok', fun hc => ?_, fun _ => ⟨⟨rfl, rfl⟩, ?_, hμ, fun y hy => hy, fun y hy => hy⟩⟩⟩
  · simp at hc
  · simp at hc
  · exact ⟨rfl, rfl, rfl, rfl, taken_ok hok', hl, by omega, by omega⟩
theorem raw_ok : LapOk Try.prog 0 (codeOf Try.prog 5) lapRaws := by
  refine Lap.proved mixed prog_ok bp_book (by kernel_rfl) (by kernel_rfl) LapsOk.nil 9 (fun x => ((x.2.2.2.1.length : Int) - x.2.1 : Int).toNat) ?_
  rintro ⟨⟨⟨most, each, n, a⟩, ⟨most', each', n', a'⟩, tab, ⟨⟩⟩, i, l, r, ⟨⟩, ⟨⟩, ⟨⟩, x, y⟩ h
  exact raw_round most each n a most' each' n' a' i x y tab l r h
theorem new_bk (m e : Int) : bkOk (bkMost m) (bkEach e) (bkMost m) 0 := by unfold bkOk bkMost bkEach; omega
theorem both_round (x y : Int) (tab : List (Int × Int × Unit)) (l r : List Int) (h : bothIn tab l r x y) :
    let X : lapBoth.D.den := ((tab, ()), (l, r, (), x, y))
    lapBoth.run Try.prog bpBook 9 0 [lapSteps, lapRaws] 5 X
      (fun x' => lapBoth.inv x' ∧ (x'.2.2.2.2.1 - x'.2.2.2.2.2 : Int).toNat < (x - y).toNat ∧ (∀ y, lapBoth.relA x' y → lapBoth.relA X y) ∧ ∀ y, lapBoth.relB x' y → lapBoth.relB X y)
      (lapBoth.relA X) (lapBoth.relB X) := by
  intro X
  refine (both_vc x y tab l r _ _ _).mpr ?_
  obtain ⟨hl, hr, hx, hx2, hy0, hyx⟩ := h
  refine ⟨fun hi => ?_, fun _ => trivial⟩
  have hi : y < x := by simpa using hi
  rw [w64 (n := y + 1) (by omega) (by omega)]
  refine ⟨⟨hy0, by omega⟩, by omega, trivial, trivial, ⟨rfl, rfl⟩, ⟨rfl, rfl, rfl, rfl, new_bk _ _, hl, by omega, by omega, by omega, by omega⟩, fun most each n a hok => ⟨⟨rfl, rfl⟩, ⟨rfl, rfl, rfl, rfl, hok, hr, by omega, by omega⟩, ⟨rfl, rfl⟩, ⟨hl, hr, hx, hx2, by omega, by omega⟩, ?_, fun y hy => hy, fun y hy => hy⟩⟩
  show (x - (y + 1)).toNat < (x - y).toNat
  omega
theorem both_ok : LapOk Try.prog 0 (codeOf Try.prog 5) lapBoth := by
  refine Lap.proved mixed prog_ok bp_book (by kernel_rfl) (by kernel_rfl) (.cons step_ok (by kernel_rfl) (.cons raw_ok (by kernel_rfl) .nil)) 9 (fun x => (x.2.2.2.2.1 - x.2.2.2.2.2 : Int).toNat) ?_
  rintro ⟨⟨tab, ⟨⟩⟩, l, r, ⟨⟩, x, y⟩ h
  exact both_round x y tab l r h
theorem plays_run (m e : Int) (l r : List Int) (hl : l.length ≤ maxLen ∧ ∀ x, x ∈ l → wfT (.int .u16) x) (qb : conPlays.B.den → Prop) :
    conPlays.run Try.prog bpBook 9 [lapBoth] 5 (fun _ => true) ((), (m, e, l, r)) (fun y => conPlays.spec ((), (m, e, l, r)) = .inl y) qb := by
  refine (plays_vc m e l r _ _).mpr ?_
  refine ⟨trivial, fun h => (by cases h), fun _ => ⟨fun _ => rfl, fun h1 => ⟨fun _ => rfl, fun h2 => ⟨?_, rfl⟩⟩⟩⟩
  have h1 : ¬ (l.length : Int) > 40 := by simpa using h1
  have h2 : ¬ (r.length : Int) > 10 := by simpa using h2
  exact ⟨⟨by omega, fun x hx => u16_wf (hl.2 x hx)⟩, by omega, rfl, by omega, by omega, by omega⟩
theorem plays_ok : ConOk Try.prog 5 conPlays := by
  refine Con.proved mixed prog_ok bp_book (by kernel_rfl) (.cons both_ok (by kernel_rfl) .nil) 9 (fun _ => true) (fun _ => rfl) (.inr fun x y _ h => by cases h) ?_
  rintro ⟨⟨⟩, m, e, l, r⟩ ⟨h1, h2, h3, h4⟩
  exact plays_run m e l r h3 _
end Go.Vx
