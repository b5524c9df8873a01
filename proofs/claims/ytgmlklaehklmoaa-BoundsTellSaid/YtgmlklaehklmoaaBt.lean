/- The bounds: the law BoundsTell's run. (A help: no statement of the seat is proved here.) -/
import Derived.Test.YtgmlklaehklmoaaVxQ
import Derived.Test.YtgmlklaehklmoaaChecked
import Derived.KernelRfl
set_option maxRecDepth 1000000
set_option linter.unusedVariables false
set_option linter.unusedSimpArgs false
namespace Go.Vx.Bt
open Go Go.Vx Go.Proofs

theorem mixed : Try.prog.follows .mixedOrders = true := by kernel_rfl
theorem prog_ok : progOk Try.prog = true := by kernel_rfl
def bdT : Ty := .pair (.int .i64) (.pair (.int .i64) (.pair (.int .i64) (.pair (.int .i64) (.pair (.int .i64) (.pair (.int .i64) (.pair (.int .i64) (.pair (.int .i64) (.pair .bool (.pair .bool .unit)))))))))
def rightD (l f h b e t w i : Int) : Bool := decide (64 ≤ l) && decide (l ≤ 4096) && (decide (4 ≤ f) && decide (f ≤ 100)) && (decide (256 ≤ h) && decide (h ≤ 65536)) && (decide (16 ≤ b) && decide (b ≤ 1048576)) &&
  (decide (0 ≤ e) && decide (e ≤ 256)) && (decide (0 ≤ t) && decide (t ≤ 100)) && (decide (1 ≤ w) && decide (w ≤ 16)) && (decide (1 ≤ i) && decide (i ≤ 1000))
def windowD (l h b : Int) : Int := IntKind.i64.wrap (IntKind.i64.wrap (l + h) + b)
def conRight : Con where
  D := ⟨[], argVP bdT⟩
  A := ⟨[], .bool⟩
  spec := fun (_, (l, f, h, b, e, t, w, i, _, _, _)) => .inl ((), rightD l f h b e t w i)
def conWindow : Con where
  D := ⟨[], argVP bdT⟩
  A := ⟨[], .int .i64⟩
  spec := fun (_, (l, f, h, b, e, t, w, i, _, _, _)) => .inl ((), windowD l h b)

theorem right_vc (l f h b e t w i : Int) (c o : Bool) (qa : conRight.A.den → Prop) (qb : conRight.B.den → Prop) : (conRight.run Try.prog Book.none 9 [] 14 (fun _ => true) ((), (l, f, h, b, e, t, w, i, c, o, ())) qa qb) =
  ((decide (l ≥ (64 : Int)) = true →
    (decide (l ≤ (4096 : Int)) = true →
        (decide (f ≥ (4 : Int)) = true →
            (decide (f ≤ (100 : Int)) = true →
                (decide (h ≥ (256 : Int)) = true →
                    (decide (h ≤ (65536 : Int)) = true →
                        (decide (b ≥ (16 : Int)) = true →
                            (decide (b ≤ (1048576 : Int)) = true →
                                (decide (e ≥ (0 : Int)) = true →
                                    (decide (e ≤ (256 : Int)) = true →
                                        (decide (t ≥ (0 : Int)) = true →
                                            (decide (t ≤ (100 : Int)) = true →
                                                (decide (w ≥ (1 : Int)) = true → (decide (w ≤ (16 : Int)) = true → (decide (i ≥ (1 : Int)) = true → qa (PUnit.unit, decide (i ≤ (1000 : Int)))) ∧ (decide (i ≥ (1 : Int)) = false → qa (PUnit.unit, false))) ∧ (decide (w ≤ (16 : Int)) = false → qa (PUnit.unit, false))) ∧ (decide (w ≥ (1 : Int)) = false → qa (PUnit.unit, false))) ∧
                                              (decide (t ≤ (100 : Int)) = false → qa (PUnit.unit, false))) ∧
                                          (decide (t ≥ (0 : Int)) = false → qa (PUnit.unit, false))) ∧
                                      (decide (e ≤ (256 : Int)) = false → qa (PUnit.unit, false))) ∧
                                  (decide (e ≥ (0 : Int)) = false → qa (PUnit.unit, false))) ∧
                              (decide (b ≤ (1048576 : Int)) = false → qa (PUnit.unit, false))) ∧
                          (decide (b ≥ (16 : Int)) = false → qa (PUnit.unit, false))) ∧
                      (decide (h ≤ (65536 : Int)) = false → qa (PUnit.unit, false))) ∧
                  (decide (h ≥ (256 : Int)) = false → qa (PUnit.unit, false))) ∧
              (decide (f ≤ (100 : Int)) = false → qa (PUnit.unit, false))) ∧
          (decide (f ≥ (4 : Int)) = false → qa (PUnit.unit, false))) ∧
      (decide (l ≤ (4096 : Int)) = false → qa (PUnit.unit, false))) ∧
  (decide (l ≥ (64 : Int)) = false → qa (PUnit.unit, false))) := by kernel_rfl

theorem rright_vc (l f h b e t w i : Int) (c o : Bool) (qa : conRight.A.den → Prop) (qb : conRight.B.den → Prop) : (conRight.run Try.prog Book.none 9 [] 15 (fun _ => true) ((), (l, f, h, b, e, t, w, i, c, o, ())) qa qb) =
  ((decide (l ≥ (64 : Int)) = true →
    (decide (l ≤ (4096 : Int)) = true →
        (decide (f ≥ (4 : Int)) = true →
            (decide (f ≤ (100 : Int)) = true →
                (decide (h ≥ (256 : Int)) = true →
                    (decide (h ≤ (65536 : Int)) = true →
                        (decide (b ≥ (16 : Int)) = true →
                            (decide (b ≤ (1048576 : Int)) = true →
                                (decide (e ≥ (0 : Int)) = true →
                                    (decide (e ≤ (256 : Int)) = true →
                                        (decide (t ≥ (0 : Int)) = true →
                                            (decide (t ≤ (100 : Int)) = true →
                                                (decide (w ≥ (1 : Int)) = true → (decide (w ≤ (16 : Int)) = true → (decide (i ≥ (1 : Int)) = true → qa (PUnit.unit, decide (i ≤ (1000 : Int)))) ∧ (decide (i ≥ (1 : Int)) = false → qa (PUnit.unit, false))) ∧ (decide (w ≤ (16 : Int)) = false → qa (PUnit.unit, false))) ∧ (decide (w ≥ (1 : Int)) = false → qa (PUnit.unit, false))) ∧
                                              (decide (t ≤ (100 : Int)) = false → qa (PUnit.unit, false))) ∧
                                          (decide (t ≥ (0 : Int)) = false → qa (PUnit.unit, false))) ∧
                                      (decide (e ≤ (256 : Int)) = false → qa (PUnit.unit, false))) ∧
                                  (decide (e ≥ (0 : Int)) = false → qa (PUnit.unit, false))) ∧
                              (decide (b ≤ (1048576 : Int)) = false → qa (PUnit.unit, false))) ∧
                          (decide (b ≥ (16 : Int)) = false → qa (PUnit.unit, false))) ∧
                      (decide (h ≤ (65536 : Int)) = false → qa (PUnit.unit, false))) ∧
                  (decide (h ≥ (256 : Int)) = false → qa (PUnit.unit, false))) ∧
              (decide (f ≤ (100 : Int)) = false → qa (PUnit.unit, false))) ∧
          (decide (f ≥ (4 : Int)) = false → qa (PUnit.unit, false))) ∧
      (decide (l ≤ (4096 : Int)) = false → qa (PUnit.unit, false))) ∧
  (decide (l ≥ (64 : Int)) = false → qa (PUnit.unit, false))) := by kernel_rfl

theorem window_vc (l f h b e t w i : Int) (c o : Bool) (qa : conWindow.A.den → Prop) (qb : conWindow.B.den → Prop) : (conWindow.run Try.prog Book.none 9 [] 16 (fun _ => true) ((), (l, f, h, b, e, t, w, i, c, o, ())) qa qb) =
  (qa (PUnit.unit, IntKind.i64.wrap (IntKind.i64.wrap (l + h) + b))) := by kernel_rfl

def btBook : Book := ((Book.none.add 14 conRight).add 15 conRight).add 16 conWindow
def conYes : Con where
  D := ⟨[], .nil⟩
  A := ⟨[], .bool⟩
  spec := fun _ => .inl ((), true)

theorem known_vc (qa : conYes.A.den → Prop) (qb : conYes.B.den → Prop) : (conYes.run Try.prog btBook 9 [] 11 (fun _ => true) ((), ()) qa qb) =
  (True ∧ (true = true → True ∧ (true = true → True ∧ qa (PUnit.unit, true)) ∧ (true = false → qa (PUnit.unit, false))) ∧ (true = false → qa (PUnit.unit, false))) := by kernel_rfl

def btBookK : Book := btBook.add 11 conYes
def btD : Dom := ⟨[.vec bdT 0 false], .cat (.sl 0 10) (.cat (.int .i64) (.int .i64))⟩
def btIn (tab : List bdT.den) (x y : Int) : Prop := (tab.length : Int) = x ∧ x ≤ 4 ∧ 0 ≤ y ∧ y ≤ x
def lapBt : Lap where
  id := 26
  N := 94
  live := [65, 66, 67]
  D := btD
  oA := .exit 1
  liveA := []
  A := ⟨[.dead], .nil⟩
  inv := fun ((tab, _), (_, x, y)) => btIn tab x y
  relA := fun _ _ => True
  use := fun _ ka _ => ka (((), ()), ())
  ok := fun x ka kb h => ⟨fun _ _ => h, fun y h => h.elim⟩

theorem round_vc (x y : Int) (tab : List bdT.den) (again : btD.den → Prop) (qa : lapBt.A.den → Prop) (qb : lapBt.B.den → Prop) : (lapBt.run Try.prog btBookK 9 0 [] 3 ((tab, ()), ((), x, y)) again qa qb) =
  ((decide (y < x) = true →
    ((0 : Int) ≤ y ∧ y < (↑tab.length : Int)) ∧
      (0 : Nat) + y.toNat < tab.length ∧
        True ∧
          True ∧
            ((!rightD (tab.getD ((0 : Nat) + y.toNat) bdT.dflt).fst (tab.getD ((0 : Nat) + y.toNat) bdT.dflt).snd.fst (tab.getD ((0 : Nat) + y.toNat) bdT.dflt).snd.snd.fst (tab.getD ((0 : Nat) + y.toNat) bdT.dflt).snd.snd.snd.fst (tab.getD ((0 : Nat) + y.toNat) bdT.dflt).snd.snd.snd.snd.fst (tab.getD ((0 : Nat) + y.toNat) bdT.dflt).snd.snd.snd.snd.snd.fst
                        (tab.getD ((0 : Nat) + y.toNat) bdT.dflt).snd.snd.snd.snd.snd.snd.fst (tab.getD ((0 : Nat) + y.toNat) bdT.dflt).snd.snd.snd.snd.snd.snd.snd.fst ==
                      rightD (tab.getD ((0 : Nat) + y.toNat) bdT.dflt).fst (tab.getD ((0 : Nat) + y.toNat) bdT.dflt).snd.fst (tab.getD ((0 : Nat) + y.toNat) bdT.dflt).snd.snd.fst (tab.getD ((0 : Nat) + y.toNat) bdT.dflt).snd.snd.snd.fst (tab.getD ((0 : Nat) + y.toNat) bdT.dflt).snd.snd.snd.snd.fst (tab.getD ((0 : Nat) + y.toNat) bdT.dflt).snd.snd.snd.snd.snd.fst
                        (tab.getD ((0 : Nat) + y.toNat) bdT.dflt).snd.snd.snd.snd.snd.snd.fst (tab.getD ((0 : Nat) + y.toNat) bdT.dflt).snd.snd.snd.snd.snd.snd.snd.fst) =
                  true →
                False) ∧
              ((!rightD (tab.getD ((0 : Nat) + y.toNat) bdT.dflt).fst (tab.getD ((0 : Nat) + y.toNat) bdT.dflt).snd.fst (tab.getD ((0 : Nat) + y.toNat) bdT.dflt).snd.snd.fst (tab.getD ((0 : Nat) + y.toNat) bdT.dflt).snd.snd.snd.fst (tab.getD ((0 : Nat) + y.toNat) bdT.dflt).snd.snd.snd.snd.fst (tab.getD ((0 : Nat) + y.toNat) bdT.dflt).snd.snd.snd.snd.snd.fst
                        (tab.getD ((0 : Nat) + y.toNat) bdT.dflt).snd.snd.snd.snd.snd.snd.fst (tab.getD ((0 : Nat) + y.toNat) bdT.dflt).snd.snd.snd.snd.snd.snd.snd.fst ==
                      rightD (tab.getD ((0 : Nat) + y.toNat) bdT.dflt).fst (tab.getD ((0 : Nat) + y.toNat) bdT.dflt).snd.fst (tab.getD ((0 : Nat) + y.toNat) bdT.dflt).snd.snd.fst (tab.getD ((0 : Nat) + y.toNat) bdT.dflt).snd.snd.snd.fst (tab.getD ((0 : Nat) + y.toNat) bdT.dflt).snd.snd.snd.snd.fst (tab.getD ((0 : Nat) + y.toNat) bdT.dflt).snd.snd.snd.snd.snd.fst
                        (tab.getD ((0 : Nat) + y.toNat) bdT.dflt).snd.snd.snd.snd.snd.snd.fst (tab.getD ((0 : Nat) + y.toNat) bdT.dflt).snd.snd.snd.snd.snd.snd.snd.fst) =
                  false →
                True ∧
                  (rightD (tab.getD ((0 : Nat) + y.toNat) bdT.dflt).fst (tab.getD ((0 : Nat) + y.toNat) bdT.dflt).snd.fst (tab.getD ((0 : Nat) + y.toNat) bdT.dflt).snd.snd.fst (tab.getD ((0 : Nat) + y.toNat) bdT.dflt).snd.snd.snd.fst (tab.getD ((0 : Nat) + y.toNat) bdT.dflt).snd.snd.snd.snd.fst (tab.getD ((0 : Nat) + y.toNat) bdT.dflt).snd.snd.snd.snd.snd.fst
                          (tab.getD ((0 : Nat) + y.toNat) bdT.dflt).snd.snd.snd.snd.snd.snd.fst (tab.getD ((0 : Nat) + y.toNat) bdT.dflt).snd.snd.snd.snd.snd.snd.snd.fst =
                        true →
                      True ∧
                        ((windowD (tab.getD ((0 : Nat) + y.toNat) bdT.dflt).fst (tab.getD ((0 : Nat) + y.toNat) bdT.dflt).snd.snd.fst (tab.getD ((0 : Nat) + y.toNat) bdT.dflt).snd.snd.snd.fst != IntKind.i64.wrap (IntKind.i64.wrap ((tab.getD ((0 : Nat) + y.toNat) bdT.dflt).fst + (tab.getD ((0 : Nat) + y.toNat) bdT.dflt).snd.snd.fst) + (tab.getD ((0 : Nat) + y.toNat) bdT.dflt).snd.snd.snd.fst)) =
                              true →
                            qb (PUnit.unit, PUnit.unit)) ∧
                          ((windowD (tab.getD ((0 : Nat) + y.toNat) bdT.dflt).fst (tab.getD ((0 : Nat) + y.toNat) bdT.dflt).snd.snd.fst (tab.getD ((0 : Nat) + y.toNat) bdT.dflt).snd.snd.snd.fst != IntKind.i64.wrap (IntKind.i64.wrap ((tab.getD ((0 : Nat) + y.toNat) bdT.dflt).fst + (tab.getD ((0 : Nat) + y.toNat) bdT.dflt).snd.snd.fst) + (tab.getD ((0 : Nat) + y.toNat) bdT.dflt).snd.snd.snd.fst)) =
                              false →
                            ((0 : Nat) = (0 : Nat) ∧ tab.length = tab.length) ∧ again ((tab, PUnit.unit), PUnit.unit, x, IntKind.i64.wrap (y + (1 : Int))))) ∧
                    (rightD (tab.getD ((0 : Nat) + y.toNat) bdT.dflt).fst (tab.getD ((0 : Nat) + y.toNat) bdT.dflt).snd.fst (tab.getD ((0 : Nat) + y.toNat) bdT.dflt).snd.snd.fst (tab.getD ((0 : Nat) + y.toNat) bdT.dflt).snd.snd.snd.fst (tab.getD ((0 : Nat) + y.toNat) bdT.dflt).snd.snd.snd.snd.fst (tab.getD ((0 : Nat) + y.toNat) bdT.dflt).snd.snd.snd.snd.snd.fst
                          (tab.getD ((0 : Nat) + y.toNat) bdT.dflt).snd.snd.snd.snd.snd.snd.fst (tab.getD ((0 : Nat) + y.toNat) bdT.dflt).snd.snd.snd.snd.snd.snd.snd.fst =
                        false →
                      ((0 : Nat) = (0 : Nat) ∧ tab.length = tab.length) ∧ again ((tab, PUnit.unit), PUnit.unit, x, IntKind.i64.wrap (y + (1 : Int)))))) ∧
  (decide (y < x) = false → qa ((PUnit.unit, PUnit.unit), PUnit.unit))) := by kernel_rfl

def conTell : Con := lawCon [bdT, .int .u8, .int .i64]

theorem tell_vc (l f h b e t w i what v : Int) (c o : Bool) (qa : conTell.A.den → Prop) (qb : conTell.B.den → Prop) : (conTell.run Try.prog btBookK 9 [lapBt] 3 (fun _ => true) ((), ((l, f, h, b, e, t, w, i, c, o, ()), what, v)) qa qb) =
  (True ∧
  (false = true → qa (PUnit.unit, false)) ∧
    (false = false →
      ((what.tmod (8 : Int) == (0 : Int)) = true →
          ((what.tmod (8 : Int) == (0 : Int)) = true →
              ((what.tmod (8 : Int) == (3 : Int)) = true →
                  btIn
                      [(l, f, h, b, e, t, w, i, c, o, ()), (v, (32 : Int), (8192 : Int), (65536 : Int), (32 : Int), (8 : Int), (4 : Int), (20 : Int), true, true, ()),
                        (IntKind.i64.wrap ((60 : Int) + IntKind.i64.wrap (↑(BitVec.ofInt IntKind.i64.bits v &&& BitVec.ofInt IntKind.i64.bits (7 : Int)).toNat : Int)), (32 : Int), (8192 : Int), IntKind.i64.wrap ((1048574 : Int) + IntKind.i64.wrap (↑(BitVec.ofInt IntKind.i64.bits v &&& BitVec.ofInt IntKind.i64.bits (3 : Int)).toNat : Int)), (32 : Int), (8 : Int), (4 : Int), (20 : Int), true, true,
                          ()),
                        ((4096 : Int), (100 : Int), (65536 : Int), (1048576 : Int), (256 : Int), (100 : Int), (16 : Int), (1000 : Int), true, true, ())]
                      (4 : Int) (0 : Int) ∧
                    qa (PUnit.unit, true)) ∧
                ((what.tmod (8 : Int) == (3 : Int)) = false →
                  btIn
                      [(l, f, h, b, e, t, w, i, c, o, ()), (v, (32 : Int), (8192 : Int), (65536 : Int), (32 : Int), (8 : Int), (4 : Int), (20 : Int), true, true, ()),
                        (IntKind.i64.wrap ((60 : Int) + IntKind.i64.wrap (↑(BitVec.ofInt IntKind.i64.bits v &&& BitVec.ofInt IntKind.i64.bits (7 : Int)).toNat : Int)), (32 : Int), (8192 : Int), (65536 : Int), (32 : Int), (8 : Int), (4 : Int), (20 : Int), true, true, ()), ((4096 : Int), (100 : Int), (65536 : Int), (1048576 : Int), (256 : Int), (100 : Int), (16 : Int), (1000 : Int), true, true, ())]
                      (4 : Int) (0 : Int) ∧
                    qa (PUnit.unit, true))) ∧
            ((what.tmod (8 : Int) == (0 : Int)) = false →
              ((what.tmod (8 : Int) == (3 : Int)) = true →
                  btIn
                      [(l, f, h, b, e, t, w, i, c, o, ()), (v, (32 : Int), (8192 : Int), (65536 : Int), (32 : Int), (8 : Int), (4 : Int), (20 : Int), true, true, ()),
                        (v, (32 : Int), (8192 : Int), IntKind.i64.wrap ((1048574 : Int) + IntKind.i64.wrap (↑(BitVec.ofInt IntKind.i64.bits v &&& BitVec.ofInt IntKind.i64.bits (3 : Int)).toNat : Int)), (32 : Int), (8 : Int), (4 : Int), (20 : Int), true, true, ()), ((4096 : Int), (100 : Int), (65536 : Int), (1048576 : Int), (256 : Int), (100 : Int), (16 : Int), (1000 : Int), true, true, ())]
                      (4 : Int) (0 : Int) ∧
                    qa (PUnit.unit, true)) ∧
                ((what.tmod (8 : Int) == (3 : Int)) = false →
                  btIn
                      [(l, f, h, b, e, t, w, i, c, o, ()), (v, (32 : Int), (8192 : Int), (65536 : Int), (32 : Int), (8 : Int), (4 : Int), (20 : Int), true, true, ()), (v, (32 : Int), (8192 : Int), (65536 : Int), (32 : Int), (8 : Int), (4 : Int), (20 : Int), true, true, ()),
                        ((4096 : Int), (100 : Int), (65536 : Int), (1048576 : Int), (256 : Int), (100 : Int), (16 : Int), (1000 : Int), true, true, ())]
                      (4 : Int) (0 : Int) ∧
                    qa (PUnit.unit, true)))) ∧
        ((what.tmod (8 : Int) == (0 : Int)) = false →
          ((what.tmod (8 : Int) == (1 : Int)) = true →
              ((what.tmod (8 : Int) == (0 : Int)) = true →
                  ((what.tmod (8 : Int) == (3 : Int)) = true →
                      btIn
                          [(l, f, h, b, e, t, w, i, c, o, ()), ((1024 : Int), v, (8192 : Int), (65536 : Int), (32 : Int), (8 : Int), (4 : Int), (20 : Int), true, true, ()),
                            (IntKind.i64.wrap ((60 : Int) + IntKind.i64.wrap (↑(BitVec.ofInt IntKind.i64.bits v &&& BitVec.ofInt IntKind.i64.bits (7 : Int)).toNat : Int)), v, (8192 : Int), IntKind.i64.wrap ((1048574 : Int) + IntKind.i64.wrap (↑(BitVec.ofInt IntKind.i64.bits v &&& BitVec.ofInt IntKind.i64.bits (3 : Int)).toNat : Int)), (32 : Int), (8 : Int), (4 : Int), (20 : Int), true, true, ()),
                            ((4096 : Int), (100 : Int), (65536 : Int), (1048576 : Int), (256 : Int), (100 : Int), (16 : Int), (1000 : Int), true, true, ())]
                          (4 : Int) (0 : Int) ∧
                        qa (PUnit.unit, true)) ∧
                    ((what.tmod (8 : Int) == (3 : Int)) = false →
                      btIn
                          [(l, f, h, b, e, t, w, i, c, o, ()), ((1024 : Int), v, (8192 : Int), (65536 : Int), (32 : Int), (8 : Int), (4 : Int), (20 : Int), true, true, ()),
                            (IntKind.i64.wrap ((60 : Int) + IntKind.i64.wrap (↑(BitVec.ofInt IntKind.i64.bits v &&& BitVec.ofInt IntKind.i64.bits (7 : Int)).toNat : Int)), v, (8192 : Int), (65536 : Int), (32 : Int), (8 : Int), (4 : Int), (20 : Int), true, true, ()), ((4096 : Int), (100 : Int), (65536 : Int), (1048576 : Int), (256 : Int), (100 : Int), (16 : Int), (1000 : Int), true, true, ())]
                          (4 : Int) (0 : Int) ∧
                        qa (PUnit.unit, true))) ∧
                ((what.tmod (8 : Int) == (0 : Int)) = false →
                  ((what.tmod (8 : Int) == (3 : Int)) = true →
                      btIn
                          [(l, f, h, b, e, t, w, i, c, o, ()), ((1024 : Int), v, (8192 : Int), (65536 : Int), (32 : Int), (8 : Int), (4 : Int), (20 : Int), true, true, ()),
                            ((1024 : Int), v, (8192 : Int), IntKind.i64.wrap ((1048574 : Int) + IntKind.i64.wrap (↑(BitVec.ofInt IntKind.i64.bits v &&& BitVec.ofInt IntKind.i64.bits (3 : Int)).toNat : Int)), (32 : Int), (8 : Int), (4 : Int), (20 : Int), true, true, ()), ((4096 : Int), (100 : Int), (65536 : Int), (1048576 : Int), (256 : Int), (100 : Int), (16 : Int), (1000 : Int), true, true, ())]
                          (4 : Int) (0 : Int) ∧
                        qa (PUnit.unit, true)) ∧
                    ((what.tmod (8 : Int) == (3 : Int)) = false →
                      btIn
                          [(l, f, h, b, e, t, w, i, c, o, ()), ((1024 : Int), v, (8192 : Int), (65536 : Int), (32 : Int), (8 : Int), (4 : Int), (20 : Int), true, true, ()), ((1024 : Int), v, (8192 : Int), (65536 : Int), (32 : Int), (8 : Int), (4 : Int), (20 : Int), true, true, ()),
                            ((4096 : Int), (100 : Int), (65536 : Int), (1048576 : Int), (256 : Int), (100 : Int), (16 : Int), (1000 : Int), true, true, ())]
                          (4 : Int) (0 : Int) ∧
                        qa (PUnit.unit, true)))) ∧
            ((what.tmod (8 : Int) == (1 : Int)) = false →
              ((what.tmod (8 : Int) == (2 : Int)) = true →
                  ((what.tmod (8 : Int) == (0 : Int)) = true →
                      ((what.tmod (8 : Int) == (3 : Int)) = true →
                          btIn
                              [(l, f, h, b, e, t, w, i, c, o, ()), ((1024 : Int), (32 : Int), v, (65536 : Int), (32 : Int), (8 : Int), (4 : Int), (20 : Int), true, true, ()),
                                (IntKind.i64.wrap ((60 : Int) + IntKind.i64.wrap (↑(BitVec.ofInt IntKind.i64.bits v &&& BitVec.ofInt IntKind.i64.bits (7 : Int)).toNat : Int)), (32 : Int), v, IntKind.i64.wrap ((1048574 : Int) + IntKind.i64.wrap (↑(BitVec.ofInt IntKind.i64.bits v &&& BitVec.ofInt IntKind.i64.bits (3 : Int)).toNat : Int)), (32 : Int), (8 : Int), (4 : Int), (20 : Int), true, true,
                                  ()),
                                ((4096 : Int), (100 : Int), (65536 : Int), (1048576 : Int), (256 : Int), (100 : Int), (16 : Int), (1000 : Int), true, true, ())]
                              (4 : Int) (0 : Int) ∧
                            qa (PUnit.unit, true)) ∧
                        ((what.tmod (8 : Int) == (3 : Int)) = false →
                          btIn
                              [(l, f, h, b, e, t, w, i, c, o, ()), ((1024 : Int), (32 : Int), v, (65536 : Int), (32 : Int), (8 : Int), (4 : Int), (20 : Int), true, true, ()),
                                (IntKind.i64.wrap ((60 : Int) + IntKind.i64.wrap (↑(BitVec.ofInt IntKind.i64.bits v &&& BitVec.ofInt IntKind.i64.bits (7 : Int)).toNat : Int)), (32 : Int), v, (65536 : Int), (32 : Int), (8 : Int), (4 : Int), (20 : Int), true, true, ()), ((4096 : Int), (100 : Int), (65536 : Int), (1048576 : Int), (256 : Int), (100 : Int), (16 : Int), (1000 : Int), true, true, ())]
                              (4 : Int) (0 : Int) ∧
                            qa (PUnit.unit, true))) ∧
                    ((what.tmod (8 : Int) == (0 : Int)) = false →
                      ((what.tmod (8 : Int) == (3 : Int)) = true →
                          btIn
                              [(l, f, h, b, e, t, w, i, c, o, ()), ((1024 : Int), (32 : Int), v, (65536 : Int), (32 : Int), (8 : Int), (4 : Int), (20 : Int), true, true, ()),
                                ((1024 : Int), (32 : Int), v, IntKind.i64.wrap ((1048574 : Int) + IntKind.i64.wrap (↑(BitVec.ofInt IntKind.i64.bits v &&& BitVec.ofInt IntKind.i64.bits (3 : Int)).toNat : Int)), (32 : Int), (8 : Int), (4 : Int), (20 : Int), true, true, ()),
                                ((4096 : Int), (100 : Int), (65536 : Int), (1048576 : Int), (256 : Int), (100 : Int), (16 : Int), (1000 : Int), true, true, ())]
                              (4 : Int) (0 : Int) ∧
                            qa (PUnit.unit, true)) ∧
                        ((what.tmod (8 : Int) == (3 : Int)) = false →
                          btIn
                              [(l, f, h, b, e, t, w, i, c, o, ()), ((1024 : Int), (32 : Int), v, (65536 : Int), (32 : Int), (8 : Int), (4 : Int), (20 : Int), true, true, ()), ((1024 : Int), (32 : Int), v, (65536 : Int), (32 : Int), (8 : Int), (4 : Int), (20 : Int), true, true, ()),
                                ((4096 : Int), (100 : Int), (65536 : Int), (1048576 : Int), (256 : Int), (100 : Int), (16 : Int), (1000 : Int), true, true, ())]
                              (4 : Int) (0 : Int) ∧
                            qa (PUnit.unit, true)))) ∧
                ((what.tmod (8 : Int) == (2 : Int)) = false →
                  ((what.tmod (8 : Int) == (3 : Int)) = true →
                      ((what.tmod (8 : Int) == (0 : Int)) = true →
                          ((what.tmod (8 : Int) == (3 : Int)) = true →
                              btIn
                                  [(l, f, h, b, e, t, w, i, c, o, ()), ((1024 : Int), (32 : Int), (8192 : Int), v, (32 : Int), (8 : Int), (4 : Int), (20 : Int), true, true, ()),
                                    (IntKind.i64.wrap ((60 : Int) + IntKind.i64.wrap (↑(BitVec.ofInt IntKind.i64.bits v &&& BitVec.ofInt IntKind.i64.bits (7 : Int)).toNat : Int)), (32 : Int), (8192 : Int), IntKind.i64.wrap ((1048574 : Int) + IntKind.i64.wrap (↑(BitVec.ofInt IntKind.i64.bits v &&& BitVec.ofInt IntKind.i64.bits (3 : Int)).toNat : Int)), (32 : Int), (8 : Int), (4 : Int), (20 : Int),
                                      true, true, ()),
                                    ((4096 : Int), (100 : Int), (65536 : Int), (1048576 : Int), (256 : Int), (100 : Int), (16 : Int), (1000 : Int), true, true, ())]
                                  (4 : Int) (0 : Int) ∧
                                qa (PUnit.unit, true)) ∧
                            ((what.tmod (8 : Int) == (3 : Int)) = false →
                              btIn
                                  [(l, f, h, b, e, t, w, i, c, o, ()), ((1024 : Int), (32 : Int), (8192 : Int), v, (32 : Int), (8 : Int), (4 : Int), (20 : Int), true, true, ()),
                                    (IntKind.i64.wrap ((60 : Int) + IntKind.i64.wrap (↑(BitVec.ofInt IntKind.i64.bits v &&& BitVec.ofInt IntKind.i64.bits (7 : Int)).toNat : Int)), (32 : Int), (8192 : Int), v, (32 : Int), (8 : Int), (4 : Int), (20 : Int), true, true, ()), ((4096 : Int), (100 : Int), (65536 : Int), (1048576 : Int), (256 : Int), (100 : Int), (16 : Int), (1000 : Int), true, true, ())]
                                  (4 : Int) (0 : Int) ∧
                                qa (PUnit.unit, true))) ∧
                        ((what.tmod (8 : Int) == (0 : Int)) = false →
                          ((what.tmod (8 : Int) == (3 : Int)) = true →
                              btIn
                                  [(l, f, h, b, e, t, w, i, c, o, ()), ((1024 : Int), (32 : Int), (8192 : Int), v, (32 : Int), (8 : Int), (4 : Int), (20 : Int), true, true, ()),
                                    ((1024 : Int), (32 : Int), (8192 : Int), IntKind.i64.wrap ((1048574 : Int) + IntKind.i64.wrap (↑(BitVec.ofInt IntKind.i64.bits v &&& BitVec.ofInt IntKind.i64.bits (3 : Int)).toNat : Int)), (32 : Int), (8 : Int), (4 : Int), (20 : Int), true, true, ()),
                                    ((4096 : Int), (100 : Int), (65536 : Int), (1048576 : Int), (256 : Int), (100 : Int), (16 : Int), (1000 : Int), true, true, ())]
                                  (4 : Int) (0 : Int) ∧
                                qa (PUnit.unit, true)) ∧
                            ((what.tmod (8 : Int) == (3 : Int)) = false →
                              btIn
                                  [(l, f, h, b, e, t, w, i, c, o, ()), ((1024 : Int), (32 : Int), (8192 : Int), v, (32 : Int), (8 : Int), (4 : Int), (20 : Int), true, true, ()), ((1024 : Int), (32 : Int), (8192 : Int), v, (32 : Int), (8 : Int), (4 : Int), (20 : Int), true, true, ()),
                                    ((4096 : Int), (100 : Int), (65536 : Int), (1048576 : Int), (256 : Int), (100 : Int), (16 : Int), (1000 : Int), true, true, ())]
                                  (4 : Int) (0 : Int) ∧
                                qa (PUnit.unit, true)))) ∧
                    ((what.tmod (8 : Int) == (3 : Int)) = false →
                      ((what.tmod (8 : Int) == (4 : Int)) = true →
                          ((what.tmod (8 : Int) == (0 : Int)) = true →
                              ((what.tmod (8 : Int) == (3 : Int)) = true →
                                  btIn
                                      [(l, f, h, b, e, t, w, i, c, o, ()), ((1024 : Int), (32 : Int), (8192 : Int), (65536 : Int), v, (8 : Int), (4 : Int), (20 : Int), true, true, ()),
                                        (IntKind.i64.wrap ((60 : Int) + IntKind.i64.wrap (↑(BitVec.ofInt IntKind.i64.bits v &&& BitVec.ofInt IntKind.i64.bits (7 : Int)).toNat : Int)), (32 : Int), (8192 : Int), IntKind.i64.wrap ((1048574 : Int) + IntKind.i64.wrap (↑(BitVec.ofInt IntKind.i64.bits v &&& BitVec.ofInt IntKind.i64.bits (3 : Int)).toNat : Int)), v, (8 : Int), (4 : Int), (20 : Int), true,
                                          true, ()),
                                        ((4096 : Int), (100 : Int), (65536 : Int), (1048576 : Int), (256 : Int), (100 : Int), (16 : Int), (1000 : Int), true, true, ())]
                                      (4 : Int) (0 : Int) ∧
                                    qa (PUnit.unit, true)) ∧
                                ((what.tmod (8 : Int) == (3 : Int)) = false →
                                  btIn
                                      [(l, f, h, b, e, t, w, i, c, o, ()), ((1024 : Int), (32 : Int), (8192 : Int), (65536 : Int), v, (8 : Int), (4 : Int), (20 : Int), true, true, ()),
                                        (IntKind.i64.wrap ((60 : Int) + IntKind.i64.wrap (↑(BitVec.ofInt IntKind.i64.bits v &&& BitVec.ofInt IntKind.i64.bits (7 : Int)).toNat : Int)), (32 : Int), (8192 : Int), (65536 : Int), v, (8 : Int), (4 : Int), (20 : Int), true, true, ()),
                                        ((4096 : Int), (100 : Int), (65536 : Int), (1048576 : Int), (256 : Int), (100 : Int), (16 : Int), (1000 : Int), true, true, ())]
                                      (4 : Int) (0 : Int) ∧
                                    qa (PUnit.unit, true))) ∧
                            ((what.tmod (8 : Int) == (0 : Int)) = false →
                              ((what.tmod (8 : Int) == (3 : Int)) = true →
                                  btIn
                                      [(l, f, h, b, e, t, w, i, c, o, ()), ((1024 : Int), (32 : Int), (8192 : Int), (65536 : Int), v, (8 : Int), (4 : Int), (20 : Int), true, true, ()),
                                        ((1024 : Int), (32 : Int), (8192 : Int), IntKind.i64.wrap ((1048574 : Int) + IntKind.i64.wrap (↑(BitVec.ofInt IntKind.i64.bits v &&& BitVec.ofInt IntKind.i64.bits (3 : Int)).toNat : Int)), v, (8 : Int), (4 : Int), (20 : Int), true, true, ()),
                                        ((4096 : Int), (100 : Int), (65536 : Int), (1048576 : Int), (256 : Int), (100 : Int), (16 : Int), (1000 : Int), true, true, ())]
                                      (4 : Int) (0 : Int) ∧
                                    qa (PUnit.unit, true)) ∧
                                ((what.tmod (8 : Int) == (3 : Int)) = false →
                                  btIn
                                      [(l, f, h, b, e, t, w, i, c, o, ()), ((1024 : Int), (32 : Int), (8192 : Int), (65536 : Int), v, (8 : Int), (4 : Int), (20 : Int), true, true, ()), ((1024 : Int), (32 : Int), (8192 : Int), (65536 : Int), v, (8 : Int), (4 : Int), (20 : Int), true, true, ()),
                                        ((4096 : Int), (100 : Int), (65536 : Int), (1048576 : Int), (256 : Int), (100 : Int), (16 : Int), (1000 : Int), true, true, ())]
                                      (4 : Int) (0 : Int) ∧
                                    qa (PUnit.unit, true)))) ∧
                        ((what.tmod (8 : Int) == (4 : Int)) = false →
                          ((what.tmod (8 : Int) == (5 : Int)) = true →
                              ((what.tmod (8 : Int) == (0 : Int)) = true →
                                  ((what.tmod (8 : Int) == (3 : Int)) = true →
                                      btIn
                                          [(l, f, h, b, e, t, w, i, c, o, ()), ((1024 : Int), (32 : Int), (8192 : Int), (65536 : Int), (32 : Int), v, (4 : Int), (20 : Int), true, true, ()),
                                            (IntKind.i64.wrap ((60 : Int) + IntKind.i64.wrap (↑(BitVec.ofInt IntKind.i64.bits v &&& BitVec.ofInt IntKind.i64.bits (7 : Int)).toNat : Int)), (32 : Int), (8192 : Int), IntKind.i64.wrap ((1048574 : Int) + IntKind.i64.wrap (↑(BitVec.ofInt IntKind.i64.bits v &&& BitVec.ofInt IntKind.i64.bits (3 : Int)).toNat : Int)), (32 : Int), v, (4 : Int), (20 : Int),
                                              true, true, ()),
                                            ((4096 : Int), (100 : Int), (65536 : Int), (1048576 : Int), (256 : Int), (100 : Int), (16 : Int), (1000 : Int), true, true, ())]
                                          (4 : Int) (0 : Int) ∧
                                        qa (PUnit.unit, true)) ∧
                                    ((what.tmod (8 : Int) == (3 : Int)) = false →
                                      btIn
                                          [(l, f, h, b, e, t, w, i, c, o, ()), ((1024 : Int), (32 : Int), (8192 : Int), (65536 : Int), (32 : Int), v, (4 : Int), (20 : Int), true, true, ()),
                                            (IntKind.i64.wrap ((60 : Int) + IntKind.i64.wrap (↑(BitVec.ofInt IntKind.i64.bits v &&& BitVec.ofInt IntKind.i64.bits (7 : Int)).toNat : Int)), (32 : Int), (8192 : Int), (65536 : Int), (32 : Int), v, (4 : Int), (20 : Int), true, true, ()),
                                            ((4096 : Int), (100 : Int), (65536 : Int), (1048576 : Int), (256 : Int), (100 : Int), (16 : Int), (1000 : Int), true, true, ())]
                                          (4 : Int) (0 : Int) ∧
                                        qa (PUnit.unit, true))) ∧
                                ((what.tmod (8 : Int) == (0 : Int)) = false →
                                  ((what.tmod (8 : Int) == (3 : Int)) = true →
                                      btIn
                                          [(l, f, h, b, e, t, w, i, c, o, ()), ((1024 : Int), (32 : Int), (8192 : Int), (65536 : Int), (32 : Int), v, (4 : Int), (20 : Int), true, true, ()),
                                            ((1024 : Int), (32 : Int), (8192 : Int), IntKind.i64.wrap ((1048574 : Int) + IntKind.i64.wrap (↑(BitVec.ofInt IntKind.i64.bits v &&& BitVec.ofInt IntKind.i64.bits (3 : Int)).toNat : Int)), (32 : Int), v, (4 : Int), (20 : Int), true, true, ()),
                                            ((4096 : Int), (100 : Int), (65536 : Int), (1048576 : Int), (256 : Int), (100 : Int), (16 : Int), (1000 : Int), true, true, ())]
                                          (4 : Int) (0 : Int) ∧
                                        qa (PUnit.unit, true)) ∧
                                    ((what.tmod (8 : Int) == (3 : Int)) = false →
                                      btIn
                                          [(l, f, h, b, e, t, w, i, c, o, ()), ((1024 : Int), (32 : Int), (8192 : Int), (65536 : Int), (32 : Int), v, (4 : Int), (20 : Int), true, true, ()), ((1024 : Int), (32 : Int), (8192 : Int), (65536 : Int), (32 : Int), v, (4 : Int), (20 : Int), true, true, ()),
                                            ((4096 : Int), (100 : Int), (65536 : Int), (1048576 : Int), (256 : Int), (100 : Int), (16 : Int), (1000 : Int), true, true, ())]
                                          (4 : Int) (0 : Int) ∧
                                        qa (PUnit.unit, true)))) ∧
                            ((what.tmod (8 : Int) == (5 : Int)) = false →
                              ((what.tmod (8 : Int) == (6 : Int)) = true →
                                  ((what.tmod (8 : Int) == (0 : Int)) = true →
                                      ((what.tmod (8 : Int) == (3 : Int)) = true →
                                          btIn
                                              [(l, f, h, b, e, t, w, i, c, o, ()), ((1024 : Int), (32 : Int), (8192 : Int), (65536 : Int), (32 : Int), (8 : Int), v, (20 : Int), true, true, ()),
                                                (IntKind.i64.wrap ((60 : Int) + IntKind.i64.wrap (↑(BitVec.ofInt IntKind.i64.bits v &&& BitVec.ofInt IntKind.i64.bits (7 : Int)).toNat : Int)), (32 : Int), (8192 : Int), IntKind.i64.wrap ((1048574 : Int) + IntKind.i64.wrap (↑(BitVec.ofInt IntKind.i64.bits v &&& BitVec.ofInt IntKind.i64.bits (3 : Int)).toNat : Int)), (32 : Int), (8 : Int), v,
                                                  (20 : Int), true, true, ()),
                                                ((4096 : Int), (100 : Int), (65536 : Int), (1048576 : Int), (256 : Int), (100 : Int), (16 : Int), (1000 : Int), true, true, ())]
                                              (4 : Int) (0 : Int) ∧
                                            qa (PUnit.unit, true)) ∧
                                        ((what.tmod (8 : Int) == (3 : Int)) = false →
                                          btIn
                                              [(l, f, h, b, e, t, w, i, c, o, ()), ((1024 : Int), (32 : Int), (8192 : Int), (65536 : Int), (32 : Int), (8 : Int), v, (20 : Int), true, true, ()),
                                                (IntKind.i64.wrap ((60 : Int) + IntKind.i64.wrap (↑(BitVec.ofInt IntKind.i64.bits v &&& BitVec.ofInt IntKind.i64.bits (7 : Int)).toNat : Int)), (32 : Int), (8192 : Int), (65536 : Int), (32 : Int), (8 : Int), v, (20 : Int), true, true, ()),
                                                ((4096 : Int), (100 : Int), (65536 : Int), (1048576 : Int), (256 : Int), (100 : Int), (16 : Int), (1000 : Int), true, true, ())]
                                              (4 : Int) (0 : Int) ∧
                                            qa (PUnit.unit, true))) ∧
                                    ((what.tmod (8 : Int) == (0 : Int)) = false →
                                      ((what.tmod (8 : Int) == (3 : Int)) = true →
                                          btIn
                                              [(l, f, h, b, e, t, w, i, c, o, ()), ((1024 : Int), (32 : Int), (8192 : Int), (65536 : Int), (32 : Int), (8 : Int), v, (20 : Int), true, true, ()),
                                                ((1024 : Int), (32 : Int), (8192 : Int), IntKind.i64.wrap ((1048574 : Int) + IntKind.i64.wrap (↑(BitVec.ofInt IntKind.i64.bits v &&& BitVec.ofInt IntKind.i64.bits (3 : Int)).toNat : Int)), (32 : Int), (8 : Int), v, (20 : Int), true, true, ()),
                                                ((4096 : Int), (100 : Int), (65536 : Int), (1048576 : Int), (256 : Int), (100 : Int), (16 : Int), (1000 : Int), true, true, ())]
                                              (4 : Int) (0 : Int) ∧
                                            qa (PUnit.unit, true)) ∧
                                        ((what.tmod (8 : Int) == (3 : Int)) = false →
                                          btIn
                                              [(l, f, h, b, e, t, w, i, c, o, ()), ((1024 : Int), (32 : Int), (8192 : Int), (65536 : Int), (32 : Int), (8 : Int), v, (20 : Int), true, true, ()), ((1024 : Int), (32 : Int), (8192 : Int), (65536 : Int), (32 : Int), (8 : Int), v, (20 : Int), true, true, ()),
                                                ((4096 : Int), (100 : Int), (65536 : Int), (1048576 : Int), (256 : Int), (100 : Int), (16 : Int), (1000 : Int), true, true, ())]
                                              (4 : Int) (0 : Int) ∧
                                            qa (PUnit.unit, true)))) ∧
                                ((what.tmod (8 : Int) == (6 : Int)) = false →
                                  ((what.tmod (8 : Int) == (0 : Int)) = true →
                                      ((what.tmod (8 : Int) == (3 : Int)) = true →
                                          btIn
                                              [(l, f, h, b, e, t, w, i, c, o, ()), ((1024 : Int), (32 : Int), (8192 : Int), (65536 : Int), (32 : Int), (8 : Int), (4 : Int), v, true, true, ()),
                                                (IntKind.i64.wrap ((60 : Int) + IntKind.i64.wrap (↑(BitVec.ofInt IntKind.i64.bits v &&& BitVec.ofInt IntKind.i64.bits (7 : Int)).toNat : Int)), (32 : Int), (8192 : Int), IntKind.i64.wrap ((1048574 : Int) + IntKind.i64.wrap (↑(BitVec.ofInt IntKind.i64.bits v &&& BitVec.ofInt IntKind.i64.bits (3 : Int)).toNat : Int)), (32 : Int), (8 : Int), (4 : Int),
                                                  v, true, true, ()),
                                                ((4096 : Int), (100 : Int), (65536 : Int), (1048576 : Int), (256 : Int), (100 : Int), (16 : Int), (1000 : Int), true, true, ())]
                                              (4 : Int) (0 : Int) ∧
                                            qa (PUnit.unit, true)) ∧
                                        ((what.tmod (8 : Int) == (3 : Int)) = false →
                                          btIn
                                              [(l, f, h, b, e, t, w, i, c, o, ()), ((1024 : Int), (32 : Int), (8192 : Int), (65536 : Int), (32 : Int), (8 : Int), (4 : Int), v, true, true, ()),
                                                (IntKind.i64.wrap ((60 : Int) + IntKind.i64.wrap (↑(BitVec.ofInt IntKind.i64.bits v &&& BitVec.ofInt IntKind.i64.bits (7 : Int)).toNat : Int)), (32 : Int), (8192 : Int), (65536 : Int), (32 : Int), (8 : Int), (4 : Int), v, true, true, ()),
                                                ((4096 : Int), (100 : Int), (65536 : Int), (1048576 : Int), (256 : Int), (100 : Int), (16 : Int), (1000 : Int), true, true, ())]
                                              (4 : Int) (0 : Int) ∧
                                            qa (PUnit.unit, true))) ∧
                                    ((what.tmod (8 : Int) == (0 : Int)) = false →
                                      ((what.tmod (8 : Int) == (3 : Int)) = true →
                                          btIn
                                              [(l, f, h, b, e, t, w, i, c, o, ()), ((1024 : Int), (32 : Int), (8192 : Int), (65536 : Int), (32 : Int), (8 : Int), (4 : Int), v, true, true, ()),
                                                ((1024 : Int), (32 : Int), (8192 : Int), IntKind.i64.wrap ((1048574 : Int) + IntKind.i64.wrap (↑(BitVec.ofInt IntKind.i64.bits v &&& BitVec.ofInt IntKind.i64.bits (3 : Int)).toNat : Int)), (32 : Int), (8 : Int), (4 : Int), v, true, true, ()),
                                                ((4096 : Int), (100 : Int), (65536 : Int), (1048576 : Int), (256 : Int), (100 : Int), (16 : Int), (1000 : Int), true, true, ())]
                                              (4 : Int) (0 : Int) ∧
                                            qa (PUnit.unit, true)) ∧
                                        ((what.tmod (8 : Int) == (3 : Int)) = false →
                                          btIn
                                              [(l, f, h, b, e, t, w, i, c, o, ()), ((1024 : Int), (32 : Int), (8192 : Int), (65536 : Int), (32 : Int), (8 : Int), (4 : Int), v, true, true, ()), ((1024 : Int), (32 : Int), (8192 : Int), (65536 : Int), (32 : Int), (8 : Int), (4 : Int), v, true, true, ()),
                                                ((4096 : Int), (100 : Int), (65536 : Int), (1048576 : Int), (256 : Int), (100 : Int), (16 : Int), (1000 : Int), true, true, ())]
                                              (4 : Int) (0 : Int) ∧
                                            qa (PUnit.unit, true)))))))))))) := by kernel_rfl

theorem right_run (l f h b e t w i : Int) (c o : Bool) (qb : conRight.B.den → Prop) : conRight.run Try.prog Book.none 9 [] 14 (fun _ => true) ((), (l, f, h, b, e, t, w, i, c, o, ())) (fun y => conRight.spec ((), (l, f, h, b, e, t, w, i, c, o, ())) = .inl y) qb := by
  refine (right_vc l f h b e t w i c o _ _).mpr ?_
  simp +contextual [conRight, rightD]
  omega
theorem rright_run (l f h b e t w i : Int) (c o : Bool) (qb : conRight.B.den → Prop) : conRight.run Try.prog Book.none 9 [] 15 (fun _ => true) ((), (l, f, h, b, e, t, w, i, c, o, ())) (fun y => conRight.spec ((), (l, f, h, b, e, t, w, i, c, o, ())) = .inl y) qb := by
  refine (rright_vc l f h b e t w i c o _ _).mpr ?_
  simp +contextual [conRight, rightD]
  omega
theorem window_run (l f h b e t w i : Int) (c o : Bool) (qb : conWindow.B.den → Prop) : conWindow.run Try.prog Book.none 9 [] 16 (fun _ => true) ((), (l, f, h, b, e, t, w, i, c, o, ())) (fun y => conWindow.spec ((), (l, f, h, b, e, t, w, i, c, o, ())) = .inl y) qb :=
  (window_vc l f h b e t w i c o _ _).mpr rfl
theorem right_ok : ConOk Try.prog 14 conRight := by
  refine Con.proved mixed prog_ok (BookOk.none _) (by kernel_rfl) LapsOk.nil 9 (fun _ => true) (fun _ => rfl) (.inr fun x y _ h => by cases h) ?_
  rintro ⟨⟨⟩, l, f, h, b, e, t, w, i, c, o, ⟨⟩⟩ _
  exact right_run l f h b e t w i c o _
theorem rright_ok : ConOk Try.prog 15 conRight := by
  refine Con.proved mixed prog_ok (BookOk.none _) (by kernel_rfl) LapsOk.nil 9 (fun _ => true) (fun _ => rfl) (.inr fun x y _ h => by cases h) ?_
  rintro ⟨⟨⟩, l, f, h, b, e, t, w, i, c, o, ⟨⟩⟩ _
  exact rright_run l f h b e t w i c o _
theorem window_ok : ConOk Try.prog 16 conWindow := by
  refine Con.proved mixed prog_ok (BookOk.none _) (by kernel_rfl) LapsOk.nil 9 (fun _ => true) (fun _ => rfl) (.inr fun x y _ h => by cases h) ?_
  rintro ⟨⟨⟩, l, f, h, b, e, t, w, i, c, o, ⟨⟩⟩ _
  exact window_run l f h b e t w i c o _
theorem bt_book : BookOk Try.prog btBook := (((BookOk.none _).add right_ok).add rright_ok).add window_ok
theorem known_run (qb : conYes.B.den → Prop) : conYes.run Try.prog btBook 9 [] 11 (fun _ => true) ((), ()) (fun y => conYes.spec ((), ()) = .inl y) qb :=
  (known_vc _ _).mpr ⟨trivial, fun _ => ⟨trivial, fun _ => ⟨trivial, rfl⟩, fun h => (by cases h)⟩, fun h => (by cases h)⟩
theorem known_ok : ConOk Try.prog 11 conYes := by
  refine Con.proved mixed prog_ok bt_book (by kernel_rfl) LapsOk.nil 9 (fun _ => true) (fun _ => rfl) (.inr fun x y _ h => by cases h) ?_
  rintro ⟨⟨⟩, ⟨⟩⟩ _
  exact known_run _
theorem bt_bookK : BookOk Try.prog btBookK := bt_book.add known_ok
theorem bt_w {y : Int} (h0 : 0 ≤ y) (h1 : y < 4) : IntKind.i64.wrap (y + 1) = y + 1 := by
  simp only [IntKind.wrap, IntKind.signed, IntKind.bits, if_true]
  simp
  omega
theorem bt_round (x y : Int) (tab : List bdT.den) (h : btIn tab x y) :
    let X : lapBt.D.den := ((tab, ()), ((), x, y))
    lapBt.run Try.prog btBookK 9 0 [] 3 X
      (fun x' => lapBt.inv x' ∧ (x'.2.2.1 - x'.2.2.2 : Int).toNat < (x - y).toNat ∧ (∀ y, lapBt.relA x' y → lapBt.relA X y) ∧ ∀ y, lapBt.relB x' y → lapBt.relB X y)
      (lapBt.relA X) (lapBt.relB X) := by
  intro X
  refine (round_vc x y tab _ _ _).mpr ?_
  obtain ⟨hx, hx4, hy0, hyx⟩ := h
  refine ⟨fun hi => ?_, fun _ => trivial⟩
  have hi : y < x := by simpa using hi
  rw [bt_w hy0 (by omega)]
  have hμ : (x - (y + 1)).toNat < (x - y).toNat := by omega
  have hin : btIn tab x (y + 1) := ⟨hx, hx4, by omega, by omega⟩
  refine ⟨⟨hy0, by omega⟩, by omega, trivial, trivial, fun hc => ?_, fun _ => ⟨trivial, fun _ => ⟨trivial, fun hc => ?_, fun _ => ⟨⟨rfl, rfl⟩, hin, hμ, fun y hy => hy, fun y hy => hy⟩⟩, fun _ => ⟨⟨rfl, rfl⟩, hin, hμ, fun y hy => hy, fun y hy => hy⟩⟩⟩
  · simp at hc
  · simp [windowD] at hc
theorem bt_lap : LapOk Try.prog 0 (codeOf Try.prog 3) lapBt := by
  refine Lap.proved mixed prog_ok bt_bookK (by kernel_rfl) (by kernel_rfl) LapsOk.nil 9 (fun x => (x.2.2.1 - x.2.2.2 : Int).toNat) ?_
  rintro ⟨⟨tab, ⟨⟩⟩, ⟨⟩, x, y⟩ h
  exact bt_round x y tab h
theorem bt_in4 (a b c d : bdT.den) : btIn [a, b, c, d] 4 0 := ⟨rfl, by omega, by omega, by omega⟩
theorem tell_run (l f h b e t w i what v : Int) (c o : Bool) (qb : conTell.B.den → Prop) : conTell.run Try.prog btBookK 9 [lapBt] 3 (fun _ => true) ((), ((l, f, h, b, e, t, w, i, c, o, ()), what, v)) (fun y => conTell.spec ((), ((l, f, h, b, e, t, w, i, c, o, ()), what, v)) = .inl y) qb := by
  refine (tell_vc l f h b e t w i what v c o _ _).mpr ?_
  repeat' first | exact bt_in4 _ _ _ _ | exact trivial | rfl | (intro h; cases h; done) | apply And.intro | intro _
theorem tell_ok : ConOk Try.prog 3 conTell := by
  refine Con.proved mixed prog_ok bt_bookK (by kernel_rfl) (.cons bt_lap (by kernel_rfl) .nil) 9 (fun _ => true) (fun _ => rfl) (.inr fun x y _ h => by cases h) ?_
  rintro ⟨⟨⟩, ⟨l, f, h, b, e, t, w, i, c, o, ⟨⟩⟩, what, v⟩ _
  exact tell_run l f h b e t w i what v c o _
end Go.Vx.Bt
