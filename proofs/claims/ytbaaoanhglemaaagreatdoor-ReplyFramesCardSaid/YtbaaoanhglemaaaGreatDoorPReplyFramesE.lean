/- Printed by a program of ours out of our texts: the evaluator, the printed functions, the plain laws. (A help: no statement of the seat is proved here.) -/
import Derived.Test.YtbaaoanhglemaaaGreatDoorPReplyFramesD
import Derived.Lib.Bytealg
section
set_option maxRecDepth 1000000
set_option maxHeartbeats 4000000
set_option synthInstance.maxSize 100000
set_option synthInstance.maxHeartbeats 400000
set_option linter.unusedVariables false
namespace Go.Vx
open Go Go.Vx Go.Proofs
namespace law27_known
def D : Dom := ⟨[], .nil⟩
def A : Dom := ⟨[], .bool⟩
def sel : List Nat := []
def t  : Tr (Bool) :=
 .call (reply_Error.f (404 : Int)) fun (y1a, y1b) =>
 .chk ((0 : Nat) + y1a.length ≤ y1a.length) <| .chk ((0 : Nat) + y1b.length ≤ y1b.length) <| .call (reply_Put.f (List.take y1a.length (List.drop (0 : Nat) y1a)) (List.take y1b.length (List.drop (0 : Nat) y1b)) (404 : Int) false true) fun y2 =>
 .chk ((0 : Nat) + y2.length ≤ y2.length) <| .br (List.take y2.length (List.drop (0 : Nat) y2) == [(72 : UInt8), (84 : UInt8), (84 : UInt8), (80 : UInt8), (47 : UInt8), (49 : UInt8), (46 : UInt8), (49 : UInt8), (32 : UInt8), (52 : UInt8), (48 : UInt8), (52 : UInt8), (32 : UInt8), (78 : UInt8), (111 : UInt8), (116 : UInt8), (32 : UInt8), (70 : UInt8), (111 : UInt8), (117 : UInt8), (110 : UInt8), (100 : UInt8), (13 : UInt8), (10 : UInt8), (67 : UInt8), (111 : UInt8), (110 : UInt8), (116 : UInt8), (101 : UInt8), (110 : UInt8), (116 : UInt8), (45 : UInt8), (76 : UInt8), (101 : UInt8), (110 : UInt8), (103 : UInt8)].append [(116 : UInt8), (104 : UInt8), (58 : UInt8), (32 : UInt8), (57 : UInt8), (13 : UInt8), (10 : UInt8), (67 : UInt8), (111 : UInt8), (110 : UInt8), (110 : UInt8), (101 : UInt8), (99 : UInt8), (116 : UInt8), (105 : UInt8), (111 : UInt8), (110 : UInt8), (58 : UInt8), (32 : UInt8), (99 : UInt8), (108 : UInt8), (111 : UInt8), (115 : UInt8), (101 : UInt8), (13 : UInt8), (10 : UInt8), (13 : UInt8), (10 : UInt8), (78 : UInt8), (111 : UInt8), (116 : UInt8), (32 : UInt8), (70 : UInt8), (111 : UInt8), (117 : UInt8), (110 : UInt8), (100 : UInt8)]) (.call (reply_Reason.f (999 : Int)) fun y3 =>
  .br (y3 == [(79 : UInt8), (116 : UInt8), (104 : UInt8), (101 : UInt8), (114 : UInt8)]) (.call (reply_Continue.f) fun y4 =>
  .br ((↑y4.length : Int) == (25 : Int)) (.chk ((0 : Nat) + y1a.length ≤ y1a.length) <| .chk ((0 : Nat) + y1b.length ≤ y1b.length) <| .call (reply_Right.f (List.take y1a.length (List.drop (0 : Nat) y1a)) (404 : Int)) fun y5 =>
   .br y5 (.call (reply_Right.f [] (0 : Int)) fun y6 =>
   .br (!y6) (.call (reply_Put.f [] [] (0 : Int) false false) fun y7 =>
    .br ((↑y7.length : Int) == (0 : Int)) (.chk ((0 : Nat) + y1a.length ≤ y1a.length) <| .chk ((0 : Nat) + y1b.length ≤ y1b.length) <| .call (reply_Relay.f (List.take y1a.length (List.drop (0 : Nat) y1a)) (List.take y1b.length (List.drop (0 : Nat) y1b)) [(103 : UInt8), (119 : UInt8)]) fun y8 =>
    .ret ((↑y8.length : Int) == (1 : Int)))
    (.ret false))
   (.ret false))
   (.ret false))
  (.ret false))
  (.ret false))
 (.ret false)
def f  : Option (Bool) := (t ).val
def F (x : D.den) : Option (Bool) := f
def pa : D.den → (Bool) → A.den := fun (_, _) y1 => ((), y1)
def con : Con := tcon D A pa F
theorem ok : ConOk Tryz.prog 6 con := tcon_ok Base.mixed Base.prog_ok bk_help_Place_ok (by kernel_rfl) LapsOk.nil 9 (fun _ => rfl) (fun x => t ) (fun _ => rfl) fun _ _ _ => (by kernel_rfl)
end law27_known
def bk_law27_known : Book := bk_help_Place.add 6 law27_known.con
theorem bk_law27_known_ok : BookOk Tryz.prog bk_law27_known := bk_help_Place_ok.add law27_known.ok
namespace law27_ReplyFrames
def D : Dom := ⟨[], (.cat (.int .i64) (.cat (.vec .byte) (.cat .bool (.cat .bool (.vec .byte)))))⟩
namespace L8
def D : Dom := ⟨[.cells (.cat (.int .i64) (.cat (.sl 1 2) (.vec .byte))) 25 false, .vec (.pair .str .str) 30 false], (.cat (.vec .byte) (.cat .bool (.cat .bool (.cat (.vec .byte) (.cat (.ptr 0 0 0 0) (.cat .str (.int .i64)))))))⟩
def A : Dom := ⟨[.cells (.cat (.int .i64) (.cat (.sl 1 2) (.vec .byte))) 25 false, .vec (.pair .str .str) 30 false], (.cat (.vec .byte) (.cat .bool (.cat .bool (.cat (.ptr 0 0 0 0) .str))))⟩
def sel : List Nat := [2, 6, 7, 8]
set_option maxHeartbeats 4000000 in
def t (Fields : List (List UInt8 × List UInt8)) (l : List UInt8) (want : List UInt8) (i : Int) : Tr (((List (List UInt8 × List UInt8)) × List UInt8 × Int) ⊕ ((List (List UInt8 × List UInt8)) × List UInt8)) :=
 .br (decide (i < (↑l.length : Int))) (.two (.chk ((0 : Int) ≤ i ∧ i < (↑l.length : Int)) <| .chk (i.toNat < l.length) <| .chk ((0 : Int) ≤ (↑(UInt8.toNat (l.getD i.toNat (0 : UInt8))) : Int).tmod (5 : Int) ∧ (↑(UInt8.toNat (l.getD i.toNat (0 : UInt8))) : Int).tmod (5 : Int) < (5 : Int)) <| .chk (((0 : Nat) + ((↑(UInt8.toNat (l.getD i.toNat (0 : UInt8))) : Int).tmod (5 : Int)).toNat) * (1 : Nat) < (5 : Nat)) <| .call (ref1_Put.f i) fun y1 =>
  .chk ((1 : Nat) ≤ [([[(65 : UInt8)], [(99 : UInt8), (111 : UInt8), (110 : UInt8), (116 : UInt8), (101 : UInt8), (110 : UInt8), (116 : UInt8), (45 : UInt8), (76 : UInt8), (69 : UInt8), (78 : UInt8), (71 : UInt8), (84 : UInt8), (72 : UInt8)], [(67 : UInt8), (111 : UInt8), (110 : UInt8), (110 : UInt8), (101 : UInt8), (99 : UInt8), (116 : UInt8), (105 : UInt8), (111 : UInt8), (110 : UInt8)], [(66 : UInt8)], [(116 : UInt8), (114 : UInt8), (97 : UInt8), (110 : UInt8), (115 : UInt8), (102 : UInt8), (101 : UInt8), (114 : UInt8), (45 : UInt8), (101 : UInt8), (110 : UInt8), (99 : UInt8), (111 : UInt8), (100 : UInt8), (105 : UInt8), (110 : UInt8), (103 : UInt8)]].getD (((0 : Nat) + ((↑(UInt8.toNat (l.getD i.toNat (0 : UInt8))) : Int).tmod (5 : Int)).toNat) * (1 : Nat)) [], y1)].length) <| .chk ((0 : Nat) + Fields.length ≤ Fields.length) <| .chk ((Fields.length + (1 : Nat)) * (32 : Nat) ≤ (140737488355328 : Nat)) <| .chk ((0 : Int) ≤ i ∧ i < (↑l.length : Int)) <| .chk (i.toNat < l.length) <| .br ((↑(UInt8.toNat (l.getD i.toNat (0 : UInt8))) : Int).tmod (5 : Int) == (0 : Int)) (.chk ((↑(want.length + ([[(65 : UInt8)], [(99 : UInt8), (111 : UInt8), (110 : UInt8), (116 : UInt8), (101 : UInt8), (110 : UInt8), (116 : UInt8), (45 : UInt8), (76 : UInt8), (69 : UInt8), (78 : UInt8), (71 : UInt8), (84 : UInt8), (72 : UInt8)], [(67 : UInt8), (111 : UInt8), (110 : UInt8), (110 : UInt8), (101 : UInt8), (99 : UInt8), (116 : UInt8), (105 : UInt8), (111 : UInt8), (110 : UInt8)], [(66 : UInt8)], [(116 : UInt8), (114 : UInt8), (97 : UInt8), (110 : UInt8), (115 : UInt8), (102 : UInt8), (101 : UInt8), (114 : UInt8), (45 : UInt8), (101 : UInt8), (110 : UInt8), (99 : UInt8), (111 : UInt8), (100 : UInt8), (105 : UInt8), (110 : UInt8), (103 : UInt8)]].getD (((0 : Nat) + ((↑(UInt8.toNat (l.getD i.toNat (0 : UInt8))) : Int).tmod (5 : Int)).toNat) * (1 : Nat)) []).length) : Int) ≤ (9223372036854775807 : Int)) <| .chk ((↑((want ++ [[(65 : UInt8)], [(99 : UInt8), (111 : UInt8), (110 : UInt8), (116 : UInt8), (101 : UInt8), (110 : UInt8), (116 : UInt8), (45 : UInt8), (76 : UInt8), (69 : UInt8), (78 : UInt8), (71 : UInt8), (84 : UInt8), (72 : UInt8)], [(67 : UInt8), (111 : UInt8), (110 : UInt8), (110 : UInt8), (101 : UInt8), (99 : UInt8), (116 : UInt8), (105 : UInt8), (111 : UInt8), (110 : UInt8)], [(66 : UInt8)], [(116 : UInt8), (114 : UInt8), (97 : UInt8), (110 : UInt8), (115 : UInt8), (102 : UInt8), (101 : UInt8), (114 : UInt8), (45 : UInt8), (101 : UInt8), (110 : UInt8), (99 : UInt8), (111 : UInt8), (100 : UInt8), (105 : UInt8), (110 : UInt8), (103 : UInt8)]].getD (((0 : Nat) + ((↑(UInt8.toNat (l.getD i.toNat (0 : UInt8))) : Int).tmod (5 : Int)).toNat) * (1 : Nat)) []).length + [(58 : UInt8), (32 : UInt8)].length) : Int) ≤ (9223372036854775807 : Int)) <| .chk ((↑((want ++ [[(65 : UInt8)], [(99 : UInt8), (111 : UInt8), (110 : UInt8), (116 : UInt8), (101 : UInt8), (110 : UInt8), (116 : UInt8), (45 : UInt8), (76 : UInt8), (69 : UInt8), (78 : UInt8), (71 : UInt8), (84 : UInt8), (72 : UInt8)], [(67 : UInt8), (111 : UInt8), (110 : UInt8), (110 : UInt8), (101 : UInt8), (99 : UInt8), (116 : UInt8), (105 : UInt8), (111 : UInt8), (110 : UInt8)], [(66 : UInt8)], [(116 : UInt8), (114 : UInt8), (97 : UInt8), (110 : UInt8), (115 : UInt8), (102 : UInt8), (101 : UInt8), (114 : UInt8), (45 : UInt8), (101 : UInt8), (110 : UInt8), (99 : UInt8), (111 : UInt8), (100 : UInt8), (105 : UInt8), (110 : UInt8), (103 : UInt8)]].getD (((0 : Nat) + ((↑(UInt8.toNat (l.getD i.toNat (0 : UInt8))) : Int).tmod (5 : Int)).toNat) * (1 : Nat)) [] ++ [(58 : UInt8), (32 : UInt8)]).length + y1.length) : Int) ≤ (9223372036854775807 : Int)) <| .chk ((↑((want ++ [[(65 : UInt8)], [(99 : UInt8), (111 : UInt8), (110 : UInt8), (116 : UInt8), (101 : UInt8), (110 : UInt8), (116 : UInt8), (45 : UInt8), (76 : UInt8), (69 : UInt8), (78 : UInt8), (71 : UInt8), (84 : UInt8), (72 : UInt8)], [(67 : UInt8), (111 : UInt8), (110 : UInt8), (110 : UInt8), (101 : UInt8), (99 : UInt8), (116 : UInt8), (105 : UInt8), (111 : UInt8), (110 : UInt8)], [(66 : UInt8)], [(116 : UInt8), (114 : UInt8), (97 : UInt8), (110 : UInt8), (115 : UInt8), (102 : UInt8), (101 : UInt8), (114 : UInt8), (45 : UInt8), (101 : UInt8), (110 : UInt8), (99 : UInt8), (111 : UInt8), (100 : UInt8), (105 : UInt8), (110 : UInt8), (103 : UInt8)]].getD (((0 : Nat) + ((↑(UInt8.toNat (l.getD i.toNat (0 : UInt8))) : Int).tmod (5 : Int)).toNat) * (1 : Nat)) [] ++ [(58 : UInt8), (32 : UInt8)] ++ y1).length + [(13 : UInt8), (10 : UInt8)].length) : Int) ≤ (9223372036854775807 : Int)) <| .chk ((0 : Nat) = (0 : Nat) ∧ Fields.length + (1 : Nat) = (List.take Fields.length (List.drop (0 : Nat) Fields) ++ List.take (1 : Nat) (List.drop (0 : Nat) [([[(65 : UInt8)], [(99 : UInt8), (111 : UInt8), (110 : UInt8), (116 : UInt8), (101 : UInt8), (110 : UInt8), (116 : UInt8), (45 : UInt8), (76 : UInt8), (69 : UInt8), (78 : UInt8), (71 : UInt8), (84 : UInt8), (72 : UInt8)], [(67 : UInt8), (111 : UInt8), (110 : UInt8), (110 : UInt8), (101 : UInt8), (99 : UInt8), (116 : UInt8), (105 : UInt8), (111 : UInt8), (110 : UInt8)], [(66 : UInt8)], [(116 : UInt8), (114 : UInt8), (97 : UInt8), (110 : UInt8), (115 : UInt8), (102 : UInt8), (101 : UInt8), (114 : UInt8), (45 : UInt8), (101 : UInt8), (110 : UInt8), (99 : UInt8), (111 : UInt8), (100 : UInt8), (105 : UInt8), (110 : UInt8), (103 : UInt8)]].getD (((0 : Nat) + ((↑(UInt8.toNat (l.getD i.toNat (0 : UInt8))) : Int).tmod (5 : Int)).toNat) * (1 : Nat)) [], y1)])).length) <| .ret (.inl (List.take Fields.length (List.drop (0 : Nat) Fields) ++ List.take (1 : Nat) (List.drop (0 : Nat) [([[(65 : UInt8)], [(99 : UInt8), (111 : UInt8), (110 : UInt8), (116 : UInt8), (101 : UInt8), (110 : UInt8), (116 : UInt8), (45 : UInt8), (76 : UInt8), (69 : UInt8), (78 : UInt8), (71 : UInt8), (84 : UInt8), (72 : UInt8)], [(67 : UInt8), (111 : UInt8), (110 : UInt8), (110 : UInt8), (101 : UInt8), (99 : UInt8), (116 : UInt8), (105 : UInt8), (111 : UInt8), (110 : UInt8)], [(66 : UInt8)], [(116 : UInt8), (114 : UInt8), (97 : UInt8), (110 : UInt8), (115 : UInt8), (102 : UInt8), (101 : UInt8), (114 : UInt8), (45 : UInt8), (101 : UInt8), (110 : UInt8), (99 : UInt8), (111 : UInt8), (100 : UInt8), (105 : UInt8), (110 : UInt8), (103 : UInt8)]].getD (((0 : Nat) + ((↑(UInt8.toNat (l.getD i.toNat (0 : UInt8))) : Int).tmod (5 : Int)).toNat) * (1 : Nat)) [], y1)]), want ++ [[(65 : UInt8)], [(99 : UInt8), (111 : UInt8), (110 : UInt8), (116 : UInt8), (101 : UInt8), (110 : UInt8), (116 : UInt8), (45 : UInt8), (76 : UInt8), (69 : UInt8), (78 : UInt8), (71 : UInt8), (84 : UInt8), (72 : UInt8)], [(67 : UInt8), (111 : UInt8), (110 : UInt8), (110 : UInt8), (101 : UInt8), (99 : UInt8), (116 : UInt8), (105 : UInt8), (111 : UInt8), (110 : UInt8)], [(66 : UInt8)], [(116 : UInt8), (114 : UInt8), (97 : UInt8), (110 : UInt8), (115 : UInt8), (102 : UInt8), (101 : UInt8), (114 : UInt8), (45 : UInt8), (101 : UInt8), (110 : UInt8), (99 : UInt8), (111 : UInt8), (100 : UInt8), (105 : UInt8), (110 : UInt8), (103 : UInt8)]].getD (((0 : Nat) + ((↑(UInt8.toNat (l.getD i.toNat (0 : UInt8))) : Int).tmod (5 : Int)).toNat) * (1 : Nat)) [] ++ [(58 : UInt8), (32 : UInt8)] ++ y1 ++ [(13 : UInt8), (10 : UInt8)], IntKind.i64.wrap (i + (1 : Int)))))
  (.chk ((0 : Int) ≤ i ∧ i < (↑l.length : Int)) <| .chk (i.toNat < l.length) <| .br ((↑(UInt8.toNat (l.getD i.toNat (0 : UInt8))) : Int).tmod (5 : Int) == (3 : Int)) (.chk ((↑(want.length + ([[(65 : UInt8)], [(99 : UInt8), (111 : UInt8), (110 : UInt8), (116 : UInt8), (101 : UInt8), (110 : UInt8), (116 : UInt8), (45 : UInt8), (76 : UInt8), (69 : UInt8), (78 : UInt8), (71 : UInt8), (84 : UInt8), (72 : UInt8)], [(67 : UInt8), (111 : UInt8), (110 : UInt8), (110 : UInt8), (101 : UInt8), (99 : UInt8), (116 : UInt8), (105 : UInt8), (111 : UInt8), (110 : UInt8)], [(66 : UInt8)], [(116 : UInt8), (114 : UInt8), (97 : UInt8), (110 : UInt8), (115 : UInt8), (102 : UInt8), (101 : UInt8), (114 : UInt8), (45 : UInt8), (101 : UInt8), (110 : UInt8), (99 : UInt8), (111 : UInt8), (100 : UInt8), (105 : UInt8), (110 : UInt8), (103 : UInt8)]].getD (((0 : Nat) + ((↑(UInt8.toNat (l.getD i.toNat (0 : UInt8))) : Int).tmod (5 : Int)).toNat) * (1 : Nat)) []).length) : Int) ≤ (9223372036854775807 : Int)) <| .chk ((↑((want ++ [[(65 : UInt8)], [(99 : UInt8), (111 : UInt8), (110 : UInt8), (116 : UInt8), (101 : UInt8), (110 : UInt8), (116 : UInt8), (45 : UInt8), (76 : UInt8), (69 : UInt8), (78 : UInt8), (71 : UInt8), (84 : UInt8), (72 : UInt8)], [(67 : UInt8), (111 : UInt8), (110 : UInt8), (110 : UInt8), (101 : UInt8), (99 : UInt8), (116 : UInt8), (105 : UInt8), (111 : UInt8), (110 : UInt8)], [(66 : UInt8)], [(116 : UInt8), (114 : UInt8), (97 : UInt8), (110 : UInt8), (115 : UInt8), (102 : UInt8), (101 : UInt8), (114 : UInt8), (45 : UInt8), (101 : UInt8), (110 : UInt8), (99 : UInt8), (111 : UInt8), (100 : UInt8), (105 : UInt8), (110 : UInt8), (103 : UInt8)]].getD (((0 : Nat) + ((↑(UInt8.toNat (l.getD i.toNat (0 : UInt8))) : Int).tmod (5 : Int)).toNat) * (1 : Nat)) []).length + [(58 : UInt8), (32 : UInt8)].length) : Int) ≤ (9223372036854775807 : Int)) <| .chk ((↑((want ++ [[(65 : UInt8)], [(99 : UInt8), (111 : UInt8), (110 : UInt8), (116 : UInt8), (101 : UInt8), (110 : UInt8), (116 : UInt8), (45 : UInt8), (76 : UInt8), (69 : UInt8), (78 : UInt8), (71 : UInt8), (84 : UInt8), (72 : UInt8)], [(67 : UInt8), (111 : UInt8), (110 : UInt8), (110 : UInt8), (101 : UInt8), (99 : UInt8), (116 : UInt8), (105 : UInt8), (111 : UInt8), (110 : UInt8)], [(66 : UInt8)], [(116 : UInt8), (114 : UInt8), (97 : UInt8), (110 : UInt8), (115 : UInt8), (102 : UInt8), (101 : UInt8), (114 : UInt8), (45 : UInt8), (101 : UInt8), (110 : UInt8), (99 : UInt8), (111 : UInt8), (100 : UInt8), (105 : UInt8), (110 : UInt8), (103 : UInt8)]].getD (((0 : Nat) + ((↑(UInt8.toNat (l.getD i.toNat (0 : UInt8))) : Int).tmod (5 : Int)).toNat) * (1 : Nat)) [] ++ [(58 : UInt8), (32 : UInt8)]).length + y1.length) : Int) ≤ (9223372036854775807 : Int)) <| .chk ((↑((want ++ [[(65 : UInt8)], [(99 : UInt8), (111 : UInt8), (110 : UInt8), (116 : UInt8), (101 : UInt8), (110 : UInt8), (116 : UInt8), (45 : UInt8), (76 : UInt8), (69 : UInt8), (78 : UInt8), (71 : UInt8), (84 : UInt8), (72 : UInt8)], [(67 : UInt8), (111 : UInt8), (110 : UInt8), (110 : UInt8), (101 : UInt8), (99 : UInt8), (116 : UInt8), (105 : UInt8), (111 : UInt8), (110 : UInt8)], [(66 : UInt8)], [(116 : UInt8), (114 : UInt8), (97 : UInt8), (110 : UInt8), (115 : UInt8), (102 : UInt8), (101 : UInt8), (114 : UInt8), (45 : UInt8), (101 : UInt8), (110 : UInt8), (99 : UInt8), (111 : UInt8), (100 : UInt8), (105 : UInt8), (110 : UInt8), (103 : UInt8)]].getD (((0 : Nat) + ((↑(UInt8.toNat (l.getD i.toNat (0 : UInt8))) : Int).tmod (5 : Int)).toNat) * (1 : Nat)) [] ++ [(58 : UInt8), (32 : UInt8)] ++ y1).length + [(13 : UInt8), (10 : UInt8)].length) : Int) ≤ (9223372036854775807 : Int)) <| .chk ((0 : Nat) = (0 : Nat) ∧ Fields.length + (1 : Nat) = (List.take Fields.length (List.drop (0 : Nat) Fields) ++ List.take (1 : Nat) (List.drop (0 : Nat) [([[(65 : UInt8)], [(99 : UInt8), (111 : UInt8), (110 : UInt8), (116 : UInt8), (101 : UInt8), (110 : UInt8), (116 : UInt8), (45 : UInt8), (76 : UInt8), (69 : UInt8), (78 : UInt8), (71 : UInt8), (84 : UInt8), (72 : UInt8)], [(67 : UInt8), (111 : UInt8), (110 : UInt8), (110 : UInt8), (101 : UInt8), (99 : UInt8), (116 : UInt8), (105 : UInt8), (111 : UInt8), (110 : UInt8)], [(66 : UInt8)], [(116 : UInt8), (114 : UInt8), (97 : UInt8), (110 : UInt8), (115 : UInt8), (102 : UInt8), (101 : UInt8), (114 : UInt8), (45 : UInt8), (101 : UInt8), (110 : UInt8), (99 : UInt8), (111 : UInt8), (100 : UInt8), (105 : UInt8), (110 : UInt8), (103 : UInt8)]].getD (((0 : Nat) + ((↑(UInt8.toNat (l.getD i.toNat (0 : UInt8))) : Int).tmod (5 : Int)).toNat) * (1 : Nat)) [], y1)])).length) <| .ret (.inl (List.take Fields.length (List.drop (0 : Nat) Fields) ++ List.take (1 : Nat) (List.drop (0 : Nat) [([[(65 : UInt8)], [(99 : UInt8), (111 : UInt8), (110 : UInt8), (116 : UInt8), (101 : UInt8), (110 : UInt8), (116 : UInt8), (45 : UInt8), (76 : UInt8), (69 : UInt8), (78 : UInt8), (71 : UInt8), (84 : UInt8), (72 : UInt8)], [(67 : UInt8), (111 : UInt8), (110 : UInt8), (110 : UInt8), (101 : UInt8), (99 : UInt8), (116 : UInt8), (105 : UInt8), (111 : UInt8), (110 : UInt8)], [(66 : UInt8)], [(116 : UInt8), (114 : UInt8), (97 : UInt8), (110 : UInt8), (115 : UInt8), (102 : UInt8), (101 : UInt8), (114 : UInt8), (45 : UInt8), (101 : UInt8), (110 : UInt8), (99 : UInt8), (111 : UInt8), (100 : UInt8), (105 : UInt8), (110 : UInt8), (103 : UInt8)]].getD (((0 : Nat) + ((↑(UInt8.toNat (l.getD i.toNat (0 : UInt8))) : Int).tmod (5 : Int)).toNat) * (1 : Nat)) [], y1)]), want ++ [[(65 : UInt8)], [(99 : UInt8), (111 : UInt8), (110 : UInt8), (116 : UInt8), (101 : UInt8), (110 : UInt8), (116 : UInt8), (45 : UInt8), (76 : UInt8), (69 : UInt8), (78 : UInt8), (71 : UInt8), (84 : UInt8), (72 : UInt8)], [(67 : UInt8), (111 : UInt8), (110 : UInt8), (110 : UInt8), (101 : UInt8), (99 : UInt8), (116 : UInt8), (105 : UInt8), (111 : UInt8), (110 : UInt8)], [(66 : UInt8)], [(116 : UInt8), (114 : UInt8), (97 : UInt8), (110 : UInt8), (115 : UInt8), (102 : UInt8), (101 : UInt8), (114 : UInt8), (45 : UInt8), (101 : UInt8), (110 : UInt8), (99 : UInt8), (111 : UInt8), (100 : UInt8), (105 : UInt8), (110 : UInt8), (103 : UInt8)]].getD (((0 : Nat) + ((↑(UInt8.toNat (l.getD i.toNat (0 : UInt8))) : Int).tmod (5 : Int)).toNat) * (1 : Nat)) [] ++ [(58 : UInt8), (32 : UInt8)] ++ y1 ++ [(13 : UInt8), (10 : UInt8)], IntKind.i64.wrap (i + (1 : Int)))))
   (.chk ((0 : Nat) = (0 : Nat) ∧ Fields.length + (1 : Nat) = (List.take Fields.length (List.drop (0 : Nat) Fields) ++ List.take (1 : Nat) (List.drop (0 : Nat) [([[(65 : UInt8)], [(99 : UInt8), (111 : UInt8), (110 : UInt8), (116 : UInt8), (101 : UInt8), (110 : UInt8), (116 : UInt8), (45 : UInt8), (76 : UInt8), (69 : UInt8), (78 : UInt8), (71 : UInt8), (84 : UInt8), (72 : UInt8)], [(67 : UInt8), (111 : UInt8), (110 : UInt8), (110 : UInt8), (101 : UInt8), (99 : UInt8), (116 : UInt8), (105 : UInt8), (111 : UInt8), (110 : UInt8)], [(66 : UInt8)], [(116 : UInt8), (114 : UInt8), (97 : UInt8), (110 : UInt8), (115 : UInt8), (102 : UInt8), (101 : UInt8), (114 : UInt8), (45 : UInt8), (101 : UInt8), (110 : UInt8), (99 : UInt8), (111 : UInt8), (100 : UInt8), (105 : UInt8), (110 : UInt8), (103 : UInt8)]].getD (((0 : Nat) + ((↑(UInt8.toNat (l.getD i.toNat (0 : UInt8))) : Int).tmod (5 : Int)).toNat) * (1 : Nat)) [], y1)])).length) <| .ret (.inl (List.take Fields.length (List.drop (0 : Nat) Fields) ++ List.take (1 : Nat) (List.drop (0 : Nat) [([[(65 : UInt8)], [(99 : UInt8), (111 : UInt8), (110 : UInt8), (116 : UInt8), (101 : UInt8), (110 : UInt8), (116 : UInt8), (45 : UInt8), (76 : UInt8), (69 : UInt8), (78 : UInt8), (71 : UInt8), (84 : UInt8), (72 : UInt8)], [(67 : UInt8), (111 : UInt8), (110 : UInt8), (110 : UInt8), (101 : UInt8), (99 : UInt8), (116 : UInt8), (105 : UInt8), (111 : UInt8), (110 : UInt8)], [(66 : UInt8)], [(116 : UInt8), (114 : UInt8), (97 : UInt8), (110 : UInt8), (115 : UInt8), (102 : UInt8), (101 : UInt8), (114 : UInt8), (45 : UInt8), (101 : UInt8), (110 : UInt8), (99 : UInt8), (111 : UInt8), (100 : UInt8), (105 : UInt8), (110 : UInt8), (103 : UInt8)]].getD (((0 : Nat) + ((↑(UInt8.toNat (l.getD i.toNat (0 : UInt8))) : Int).tmod (5 : Int)).toNat) * (1 : Nat)) [], y1)]), want, IntKind.i64.wrap (i + (1 : Int)))))))
  (.two (.chk ((0 : Int) ≤ i ∧ i < (↑l.length : Int)) <| .chk (i.toNat < l.length) <| .chk ((0 : Int) ≤ (↑(UInt8.toNat (l.getD i.toNat (0 : UInt8))) : Int).tmod (5 : Int) ∧ (↑(UInt8.toNat (l.getD i.toNat (0 : UInt8))) : Int).tmod (5 : Int) < (5 : Int)) <| .chk (((0 : Nat) + ((↑(UInt8.toNat (l.getD i.toNat (0 : UInt8))) : Int).tmod (5 : Int)).toNat) * (1 : Nat) < (5 : Nat)) <| .call (ref1_Put.f i) fun y1 =>
   .chk ((1 : Nat) ≤ [([[(65 : UInt8)], [(99 : UInt8), (111 : UInt8), (110 : UInt8), (116 : UInt8), (101 : UInt8), (110 : UInt8), (116 : UInt8), (45 : UInt8), (76 : UInt8), (69 : UInt8), (78 : UInt8), (71 : UInt8), (84 : UInt8), (72 : UInt8)], [(67 : UInt8), (111 : UInt8), (110 : UInt8), (110 : UInt8), (101 : UInt8), (99 : UInt8), (116 : UInt8), (105 : UInt8), (111 : UInt8), (110 : UInt8)], [(66 : UInt8)], [(116 : UInt8), (114 : UInt8), (97 : UInt8), (110 : UInt8), (115 : UInt8), (102 : UInt8), (101 : UInt8), (114 : UInt8), (45 : UInt8), (101 : UInt8), (110 : UInt8), (99 : UInt8), (111 : UInt8), (100 : UInt8), (105 : UInt8), (110 : UInt8), (103 : UInt8)]].getD (((0 : Nat) + ((↑(UInt8.toNat (l.getD i.toNat (0 : UInt8))) : Int).tmod (5 : Int)).toNat) * (1 : Nat)) [], y1)].length) <| .chk ((0 : Nat) + Fields.length ≤ Fields.length) <| .chk ((Fields.length + (1 : Nat)) * (32 : Nat) ≤ (140737488355328 : Nat)) <| .chk ((0 : Int) ≤ i ∧ i < (↑l.length : Int)) <| .chk (i.toNat < l.length) <| .br ((↑(UInt8.toNat (l.getD i.toNat (0 : UInt8))) : Int).tmod (5 : Int) == (0 : Int)) (.chk ((↑(want.length + ([[(65 : UInt8)], [(99 : UInt8), (111 : UInt8), (110 : UInt8), (116 : UInt8), (101 : UInt8), (110 : UInt8), (116 : UInt8), (45 : UInt8), (76 : UInt8), (69 : UInt8), (78 : UInt8), (71 : UInt8), (84 : UInt8), (72 : UInt8)], [(67 : UInt8), (111 : UInt8), (110 : UInt8), (110 : UInt8), (101 : UInt8), (99 : UInt8), (116 : UInt8), (105 : UInt8), (111 : UInt8), (110 : UInt8)], [(66 : UInt8)], [(116 : UInt8), (114 : UInt8), (97 : UInt8), (110 : UInt8), (115 : UInt8), (102 : UInt8), (101 : UInt8), (114 : UInt8), (45 : UInt8), (101 : UInt8), (110 : UInt8), (99 : UInt8), (111 : UInt8), (100 : UInt8), (105 : UInt8), (110 : UInt8), (103 : UInt8)]].getD (((0 : Nat) + ((↑(UInt8.toNat (l.getD i.toNat (0 : UInt8))) : Int).tmod (5 : Int)).toNat) * (1 : Nat)) []).length) : Int) ≤ (9223372036854775807 : Int)) <| .chk ((↑((want ++ [[(65 : UInt8)], [(99 : UInt8), (111 : UInt8), (110 : UInt8), (116 : UInt8), (101 : UInt8), (110 : UInt8), (116 : UInt8), (45 : UInt8), (76 : UInt8), (69 : UInt8), (78 : UInt8), (71 : UInt8), (84 : UInt8), (72 : UInt8)], [(67 : UInt8), (111 : UInt8), (110 : UInt8), (110 : UInt8), (101 : UInt8), (99 : UInt8), (116 : UInt8), (105 : UInt8), (111 : UInt8), (110 : UInt8)], [(66 : UInt8)], [(116 : UInt8), (114 : UInt8), (97 : UInt8), (110 : UInt8), (115 : UInt8), (102 : UInt8), (101 : UInt8), (114 : UInt8), (45 : UInt8), (101 : UInt8), (110 : UInt8), (99 : UInt8), (111 : UInt8), (100 : UInt8), (105 : UInt8), (110 : UInt8), (103 : UInt8)]].getD (((0 : Nat) + ((↑(UInt8.toNat (l.getD i.toNat (0 : UInt8))) : Int).tmod (5 : Int)).toNat) * (1 : Nat)) []).length + [(58 : UInt8), (32 : UInt8)].length) : Int) ≤ (9223372036854775807 : Int)) <| .chk ((↑((want ++ [[(65 : UInt8)], [(99 : UInt8), (111 : UInt8), (110 : UInt8), (116 : UInt8), (101 : UInt8), (110 : UInt8), (116 : UInt8), (45 : UInt8), (76 : UInt8), (69 : UInt8), (78 : UInt8), (71 : UInt8), (84 : UInt8), (72 : UInt8)], [(67 : UInt8), (111 : UInt8), (110 : UInt8), (110 : UInt8), (101 : UInt8), (99 : UInt8), (116 : UInt8), (105 : UInt8), (111 : UInt8), (110 : UInt8)], [(66 : UInt8)], [(116 : UInt8), (114 : UInt8), (97 : UInt8), (110 : UInt8), (115 : UInt8), (102 : UInt8), (101 : UInt8), (114 : UInt8), (45 : UInt8), (101 : UInt8), (110 : UInt8), (99 : UInt8), (111 : UInt8), (100 : UInt8), (105 : UInt8), (110 : UInt8), (103 : UInt8)]].getD (((0 : Nat) + ((↑(UInt8.toNat (l.getD i.toNat (0 : UInt8))) : Int).tmod (5 : Int)).toNat) * (1 : Nat)) [] ++ [(58 : UInt8), (32 : UInt8)]).length + y1.length) : Int) ≤ (9223372036854775807 : Int)) <| .chk ((↑((want ++ [[(65 : UInt8)], [(99 : UInt8), (111 : UInt8), (110 : UInt8), (116 : UInt8), (101 : UInt8), (110 : UInt8), (116 : UInt8), (45 : UInt8), (76 : UInt8), (69 : UInt8), (78 : UInt8), (71 : UInt8), (84 : UInt8), (72 : UInt8)], [(67 : UInt8), (111 : UInt8), (110 : UInt8), (110 : UInt8), (101 : UInt8), (99 : UInt8), (116 : UInt8), (105 : UInt8), (111 : UInt8), (110 : UInt8)], [(66 : UInt8)], [(116 : UInt8), (114 : UInt8), (97 : UInt8), (110 : UInt8), (115 : UInt8), (102 : UInt8), (101 : UInt8), (114 : UInt8), (45 : UInt8), (101 : UInt8), (110 : UInt8), (99 : UInt8), (111 : UInt8), (100 : UInt8), (105 : UInt8), (110 : UInt8), (103 : UInt8)]].getD (((0 : Nat) + ((↑(UInt8.toNat (l.getD i.toNat (0 : UInt8))) : Int).tmod (5 : Int)).toNat) * (1 : Nat)) [] ++ [(58 : UInt8), (32 : UInt8)] ++ y1).length + [(13 : UInt8), (10 : UInt8)].length) : Int) ≤ (9223372036854775807 : Int)) <| .chk ((0 : Nat) = (0 : Nat) ∧ Fields.length + (1 : Nat) = (List.take Fields.length (List.drop (0 : Nat) Fields) ++ List.take (1 : Nat) (List.drop (0 : Nat) [([[(65 : UInt8)], [(99 : UInt8), (111 : UInt8), (110 : UInt8), (116 : UInt8), (101 : UInt8), (110 : UInt8), (116 : UInt8), (45 : UInt8), (76 : UInt8), (69 : UInt8), (78 : UInt8), (71 : UInt8), (84 : UInt8), (72 : UInt8)], [(67 : UInt8), (111 : UInt8), (110 : UInt8), (110 : UInt8), (101 : UInt8), (99 : UInt8), (116 : UInt8), (105 : UInt8), (111 : UInt8), (110 : UInt8)], [(66 : UInt8)], [(116 : UInt8), (114 : UInt8), (97 : UInt8), (110 : UInt8), (115 : UInt8), (102 : UInt8), (101 : UInt8), (114 : UInt8), (45 : UInt8), (101 : UInt8), (110 : UInt8), (99 : UInt8), (111 : UInt8), (100 : UInt8), (105 : UInt8), (110 : UInt8), (103 : UInt8)]].getD (((0 : Nat) + ((↑(UInt8.toNat (l.getD i.toNat (0 : UInt8))) : Int).tmod (5 : Int)).toNat) * (1 : Nat)) [], y1)])).length) <| .ret (.inl (List.take Fields.length (List.drop (0 : Nat) Fields) ++ List.take (1 : Nat) (List.drop (0 : Nat) [([[(65 : UInt8)], [(99 : UInt8), (111 : UInt8), (110 : UInt8), (116 : UInt8), (101 : UInt8), (110 : UInt8), (116 : UInt8), (45 : UInt8), (76 : UInt8), (69 : UInt8), (78 : UInt8), (71 : UInt8), (84 : UInt8), (72 : UInt8)], [(67 : UInt8), (111 : UInt8), (110 : UInt8), (110 : UInt8), (101 : UInt8), (99 : UInt8), (116 : UInt8), (105 : UInt8), (111 : UInt8), (110 : UInt8)], [(66 : UInt8)], [(116 : UInt8), (114 : UInt8), (97 : UInt8), (110 : UInt8), (115 : UInt8), (102 : UInt8), (101 : UInt8), (114 : UInt8), (45 : UInt8), (101 : UInt8), (110 : UInt8), (99 : UInt8), (111 : UInt8), (100 : UInt8), (105 : UInt8), (110 : UInt8), (103 : UInt8)]].getD (((0 : Nat) + ((↑(UInt8.toNat (l.getD i.toNat (0 : UInt8))) : Int).tmod (5 : Int)).toNat) * (1 : Nat)) [], y1)]), want ++ [[(65 : UInt8)], [(99 : UInt8), (111 : UInt8), (110 : UInt8), (116 : UInt8), (101 : UInt8), (110 : UInt8), (116 : UInt8), (45 : UInt8), (76 : UInt8), (69 : UInt8), (78 : UInt8), (71 : UInt8), (84 : UInt8), (72 : UInt8)], [(67 : UInt8), (111 : UInt8), (110 : UInt8), (110 : UInt8), (101 : UInt8), (99 : UInt8), (116 : UInt8), (105 : UInt8), (111 : UInt8), (110 : UInt8)], [(66 : UInt8)], [(116 : UInt8), (114 : UInt8), (97 : UInt8), (110 : UInt8), (115 : UInt8), (102 : UInt8), (101 : UInt8), (114 : UInt8), (45 : UInt8), (101 : UInt8), (110 : UInt8), (99 : UInt8), (111 : UInt8), (100 : UInt8), (105 : UInt8), (110 : UInt8), (103 : UInt8)]].getD (((0 : Nat) + ((↑(UInt8.toNat (l.getD i.toNat (0 : UInt8))) : Int).tmod (5 : Int)).toNat) * (1 : Nat)) [] ++ [(58 : UInt8), (32 : UInt8)] ++ y1 ++ [(13 : UInt8), (10 : UInt8)], IntKind.i64.wrap (i + (1 : Int)))))
   (.chk ((0 : Int) ≤ i ∧ i < (↑l.length : Int)) <| .chk (i.toNat < l.length) <| .br ((↑(UInt8.toNat (l.getD i.toNat (0 : UInt8))) : Int).tmod (5 : Int) == (3 : Int)) (.chk ((↑(want.length + ([[(65 : UInt8)], [(99 : UInt8), (111 : UInt8), (110 : UInt8), (116 : UInt8), (101 : UInt8), (110 : UInt8), (116 : UInt8), (45 : UInt8), (76 : UInt8), (69 : UInt8), (78 : UInt8), (71 : UInt8), (84 : UInt8), (72 : UInt8)], [(67 : UInt8), (111 : UInt8), (110 : UInt8), (110 : UInt8), (101 : UInt8), (99 : UInt8), (116 : UInt8), (105 : UInt8), (111 : UInt8), (110 : UInt8)], [(66 : UInt8)], [(116 : UInt8), (114 : UInt8), (97 : UInt8), (110 : UInt8), (115 : UInt8), (102 : UInt8), (101 : UInt8), (114 : UInt8), (45 : UInt8), (101 : UInt8), (110 : UInt8), (99 : UInt8), (111 : UInt8), (100 : UInt8), (105 : UInt8), (110 : UInt8), (103 : UInt8)]].getD (((0 : Nat) + ((↑(UInt8.toNat (l.getD i.toNat (0 : UInt8))) : Int).tmod (5 : Int)).toNat) * (1 : Nat)) []).length) : Int) ≤ (9223372036854775807 : Int)) <| .chk ((↑((want ++ [[(65 : UInt8)], [(99 : UInt8), (111 : UInt8), (110 : UInt8), (116 : UInt8), (101 : UInt8), (110 : UInt8), (116 : UInt8), (45 : UInt8), (76 : UInt8), (69 : UInt8), (78 : UInt8), (71 : UInt8), (84 : UInt8), (72 : UInt8)], [(67 : UInt8), (111 : UInt8), (110 : UInt8), (110 : UInt8), (101 : UInt8), (99 : UInt8), (116 : UInt8), (105 : UInt8), (111 : UInt8), (110 : UInt8)], [(66 : UInt8)], [(116 : UInt8), (114 : UInt8), (97 : UInt8), (110 : UInt8), (115 : UInt8), (102 : UInt8), (101 : UInt8), (114 : UInt8), (45 : UInt8), (101 : UInt8), (110 : UInt8), (99 : UInt8), (111 : UInt8), (100 : UInt8), (105 : UInt8), (110 : UInt8), (103 : UInt8)]].getD (((0 : Nat) + ((↑(UInt8.toNat (l.getD i.toNat (0 : UInt8))) : Int).tmod (5 : Int)).toNat) * (1 : Nat)) []).length + [(58 : UInt8), (32 : UInt8)].length) : Int) ≤ (9223372036854775807 : Int)) <| .chk ((↑((want ++ [[(65 : UInt8)], [(99 : UInt8), (111 : UInt8), (110 : UInt8), (116 : UInt8), (101 : UInt8), (110 : UInt8), (116 : UInt8), (45 : UInt8), (76 : UInt8), (69 : UInt8), (78 : UInt8), (71 : UInt8), (84 : UInt8), (72 : UInt8)], [(67 : UInt8), (111 : UInt8), (110 : UInt8), (110 : UInt8), (101 : UInt8), (99 : UInt8), (116 : UInt8), (105 : UInt8), (111 : UInt8), (110 : UInt8)], [(66 : UInt8)], [(116 : UInt8), (114 : UInt8), (97 : UInt8), (110 : UInt8), (115 : UInt8), (102 : UInt8), (101 : UInt8), (114 : UInt8), (45 : UInt8), (101 : UInt8), (110 : UInt8), (99 : UInt8), (111 : UInt8), (100 : UInt8), (105 : UInt8), (110 : UInt8), (103 : UInt8)]].getD (((0 : Nat) + ((↑(UInt8.toNat (l.getD i.toNat (0 : UInt8))) : Int).tmod (5 : Int)).toNat) * (1 : Nat)) [] ++ [(58 : UInt8), (32 : UInt8)]).length + y1.length) : Int) ≤ (9223372036854775807 : Int)) <| .chk ((↑((want ++ [[(65 : UInt8)], [(99 : UInt8), (111 : UInt8), (110 : UInt8), (116 : UInt8), (101 : UInt8), (110 : UInt8), (116 : UInt8), (45 : UInt8), (76 : UInt8), (69 : UInt8), (78 : UInt8), (71 : UInt8), (84 : UInt8), (72 : UInt8)], [(67 : UInt8), (111 : UInt8), (110 : UInt8), (110 : UInt8), (101 : UInt8), (99 : UInt8), (116 : UInt8), (105 : UInt8), (111 : UInt8), (110 : UInt8)], [(66 : UInt8)], [(116 : UInt8), (114 : UInt8), (97 : UInt8), (110 : UInt8), (115 : UInt8), (102 : UInt8), (101 : UInt8), (114 : UInt8), (45 : UInt8), (101 : UInt8), (110 : UInt8), (99 : UInt8), (111 : UInt8), (100 : UInt8), (105 : UInt8), (110 : UInt8), (103 : UInt8)]].getD (((0 : Nat) + ((↑(UInt8.toNat (l.getD i.toNat (0 : UInt8))) : Int).tmod (5 : Int)).toNat) * (1 : Nat)) [] ++ [(58 : UInt8), (32 : UInt8)] ++ y1).length + [(13 : UInt8), (10 : UInt8)].length) : Int) ≤ (9223372036854775807 : Int)) <| .chk ((0 : Nat) = (0 : Nat) ∧ Fields.length + (1 : Nat) = (List.take Fields.length (List.drop (0 : Nat) Fields) ++ List.take (1 : Nat) (List.drop (0 : Nat) [([[(65 : UInt8)], [(99 : UInt8), (111 : UInt8), (110 : UInt8), (116 : UInt8), (101 : UInt8), (110 : UInt8), (116 : UInt8), (45 : UInt8), (76 : UInt8), (69 : UInt8), (78 : UInt8), (71 : UInt8), (84 : UInt8), (72 : UInt8)], [(67 : UInt8), (111 : UInt8), (110 : UInt8), (110 : UInt8), (101 : UInt8), (99 : UInt8), (116 : UInt8), (105 : UInt8), (111 : UInt8), (110 : UInt8)], [(66 : UInt8)], [(116 : UInt8), (114 : UInt8), (97 : UInt8), (110 : UInt8), (115 : UInt8), (102 : UInt8), (101 : UInt8), (114 : UInt8), (45 : UInt8), (101 : UInt8), (110 : UInt8), (99 : UInt8), (111 : UInt8), (100 : UInt8), (105 : UInt8), (110 : UInt8), (103 : UInt8)]].getD (((0 : Nat) + ((↑(UInt8.toNat (l.getD i.toNat (0 : UInt8))) : Int).tmod (5 : Int)).toNat) * (1 : Nat)) [], y1)])).length) <| .ret (.inl (List.take Fields.length (List.drop (0 : Nat) Fields) ++ List.take (1 : Nat) (List.drop (0 : Nat) [([[(65 : UInt8)], [(99 : UInt8), (111 : UInt8), (110 : UInt8), (116 : UInt8), (101 : UInt8), (110 : UInt8), (116 : UInt8), (45 : UInt8), (76 : UInt8), (69 : UInt8), (78 : UInt8), (71 : UInt8), (84 : UInt8), (72 : UInt8)], [(67 : UInt8), (111 : UInt8), (110 : UInt8), (110 : UInt8), (101 : UInt8), (99 : UInt8), (116 : UInt8), (105 : UInt8), (111 : UInt8), (110 : UInt8)], [(66 : UInt8)], [(116 : UInt8), (114 : UInt8), (97 : UInt8), (110 : UInt8), (115 : UInt8), (102 : UInt8), (101 : UInt8), (114 : UInt8), (45 : UInt8), (101 : UInt8), (110 : UInt8), (99 : UInt8), (111 : UInt8), (100 : UInt8), (105 : UInt8), (110 : UInt8), (103 : UInt8)]].getD (((0 : Nat) + ((↑(UInt8.toNat (l.getD i.toNat (0 : UInt8))) : Int).tmod (5 : Int)).toNat) * (1 : Nat)) [], y1)]), want ++ [[(65 : UInt8)], [(99 : UInt8), (111 : UInt8), (110 : UInt8), (116 : UInt8), (101 : UInt8), (110 : UInt8), (116 : UInt8), (45 : UInt8), (76 : UInt8), (69 : UInt8), (78 : UInt8), (71 : UInt8), (84 : UInt8), (72 : UInt8)], [(67 : UInt8), (111 : UInt8), (110 : UInt8), (110 : UInt8), (101 : UInt8), (99 : UInt8), (116 : UInt8), (105 : UInt8), (111 : UInt8), (110 : UInt8)], [(66 : UInt8)], [(116 : UInt8), (114 : UInt8), (97 : UInt8), (110 : UInt8), (115 : UInt8), (102 : UInt8), (101 : UInt8), (114 : UInt8), (45 : UInt8), (101 : UInt8), (110 : UInt8), (99 : UInt8), (111 : UInt8), (100 : UInt8), (105 : UInt8), (110 : UInt8), (103 : UInt8)]].getD (((0 : Nat) + ((↑(UInt8.toNat (l.getD i.toNat (0 : UInt8))) : Int).tmod (5 : Int)).toNat) * (1 : Nat)) [] ++ [(58 : UInt8), (32 : UInt8)] ++ y1 ++ [(13 : UInt8), (10 : UInt8)], IntKind.i64.wrap (i + (1 : Int)))))
   (.chk ((0 : Nat) = (0 : Nat) ∧ Fields.length + (1 : Nat) = (List.take Fields.length (List.drop (0 : Nat) Fields) ++ List.take (1 : Nat) (List.drop (0 : Nat) [([[(65 : UInt8)], [(99 : UInt8), (111 : UInt8), (110 : UInt8), (116 : UInt8), (101 : UInt8), (110 : UInt8), (116 : UInt8), (45 : UInt8), (76 : UInt8), (69 : UInt8), (78 : UInt8), (71 : UInt8), (84 : UInt8), (72 : UInt8)], [(67 : UInt8), (111 : UInt8), (110 : UInt8), (110 : UInt8), (101 : UInt8), (99 : UInt8), (116 : UInt8), (105 : UInt8), (111 : UInt8), (110 : UInt8)], [(66 : UInt8)], [(116 : UInt8), (114 : UInt8), (97 : UInt8), (110 : UInt8), (115 : UInt8), (102 : UInt8), (101 : UInt8), (114 : UInt8), (45 : UInt8), (101 : UInt8), (110 : UInt8), (99 : UInt8), (111 : UInt8), (100 : UInt8), (105 : UInt8), (110 : UInt8), (103 : UInt8)]].getD (((0 : Nat) + ((↑(UInt8.toNat (l.getD i.toNat (0 : UInt8))) : Int).tmod (5 : Int)).toNat) * (1 : Nat)) [], y1)])).length) <| .ret (.inl (List.take Fields.length (List.drop (0 : Nat) Fields) ++ List.take (1 : Nat) (List.drop (0 : Nat) [([[(65 : UInt8)], [(99 : UInt8), (111 : UInt8), (110 : UInt8), (116 : UInt8), (101 : UInt8), (110 : UInt8), (116 : UInt8), (45 : UInt8), (76 : UInt8), (69 : UInt8), (78 : UInt8), (71 : UInt8), (84 : UInt8), (72 : UInt8)], [(67 : UInt8), (111 : UInt8), (110 : UInt8), (110 : UInt8), (101 : UInt8), (99 : UInt8), (116 : UInt8), (105 : UInt8), (111 : UInt8), (110 : UInt8)], [(66 : UInt8)], [(116 : UInt8), (114 : UInt8), (97 : UInt8), (110 : UInt8), (115 : UInt8), (102 : UInt8), (101 : UInt8), (114 : UInt8), (45 : UInt8), (101 : UInt8), (110 : UInt8), (99 : UInt8), (111 : UInt8), (100 : UInt8), (105 : UInt8), (110 : UInt8), (103 : UInt8)]].getD (((0 : Nat) + ((↑(UInt8.toNat (l.getD i.toNat (0 : UInt8))) : Int).tmod (5 : Int)).toNat) * (1 : Nat)) [], y1)]), want, IntKind.i64.wrap (i + (1 : Int)))))))
  (.two (.chk ((0 : Int) ≤ i ∧ i < (↑l.length : Int)) <| .chk (i.toNat < l.length) <| .chk ((0 : Int) ≤ (↑(UInt8.toNat (l.getD i.toNat (0 : UInt8))) : Int).tmod (5 : Int) ∧ (↑(UInt8.toNat (l.getD i.toNat (0 : UInt8))) : Int).tmod (5 : Int) < (5 : Int)) <| .chk (((0 : Nat) + ((↑(UInt8.toNat (l.getD i.toNat (0 : UInt8))) : Int).tmod (5 : Int)).toNat) * (1 : Nat) < (5 : Nat)) <| .call (ref1_Put.f i) fun y1 =>
   .chk ((1 : Nat) ≤ [([[(65 : UInt8)], [(99 : UInt8), (111 : UInt8), (110 : UInt8), (116 : UInt8), (101 : UInt8), (110 : UInt8), (116 : UInt8), (45 : UInt8), (76 : UInt8), (69 : UInt8), (78 : UInt8), (71 : UInt8), (84 : UInt8), (72 : UInt8)], [(67 : UInt8), (111 : UInt8), (110 : UInt8), (110 : UInt8), (101 : UInt8), (99 : UInt8), (116 : UInt8), (105 : UInt8), (111 : UInt8), (110 : UInt8)], [(66 : UInt8)], [(116 : UInt8), (114 : UInt8), (97 : UInt8), (110 : UInt8), (115 : UInt8), (102 : UInt8), (101 : UInt8), (114 : UInt8), (45 : UInt8), (101 : UInt8), (110 : UInt8), (99 : UInt8), (111 : UInt8), (100 : UInt8), (105 : UInt8), (110 : UInt8), (103 : UInt8)]].getD (((0 : Nat) + ((↑(UInt8.toNat (l.getD i.toNat (0 : UInt8))) : Int).tmod (5 : Int)).toNat) * (1 : Nat)) [], y1)].length) <| .chk ((0 : Nat) + Fields.length ≤ Fields.length) <| .chk ((Fields.length + (1 : Nat)) * (32 : Nat) ≤ (140737488355328 : Nat)) <| .chk ((0 : Int) ≤ i ∧ i < (↑l.length : Int)) <| .chk (i.toNat < l.length) <| .br ((↑(UInt8.toNat (l.getD i.toNat (0 : UInt8))) : Int).tmod (5 : Int) == (0 : Int)) (.chk ((↑(want.length + ([[(65 : UInt8)], [(99 : UInt8), (111 : UInt8), (110 : UInt8), (116 : UInt8), (101 : UInt8), (110 : UInt8), (116 : UInt8), (45 : UInt8), (76 : UInt8), (69 : UInt8), (78 : UInt8), (71 : UInt8), (84 : UInt8), (72 : UInt8)], [(67 : UInt8), (111 : UInt8), (110 : UInt8), (110 : UInt8), (101 : UInt8), (99 : UInt8), (116 : UInt8), (105 : UInt8), (111 : UInt8), (110 : UInt8)], [(66 : UInt8)], [(116 : UInt8), (114 : UInt8), (97 : UInt8), (110 : UInt8), (115 : UInt8), (102 : UInt8), (101 : UInt8), (114 : UInt8), (45 : UInt8), (101 : UInt8), (110 : UInt8), (99 : UInt8), (111 : UInt8), (100 : UInt8), (105 : UInt8), (110 : UInt8), (103 : UInt8)]].getD (((0 : Nat) + ((↑(UInt8.toNat (l.getD i.toNat (0 : UInt8))) : Int).tmod (5 : Int)).toNat) * (1 : Nat)) []).length) : Int) ≤ (9223372036854775807 : Int)) <| .chk ((↑((want ++ [[(65 : UInt8)], [(99 : UInt8), (111 : UInt8), (110 : UInt8), (116 : UInt8), (101 : UInt8), (110 : UInt8), (116 : UInt8), (45 : UInt8), (76 : UInt8), (69 : UInt8), (78 : UInt8), (71 : UInt8), (84 : UInt8), (72 : UInt8)], [(67 : UInt8), (111 : UInt8), (110 : UInt8), (110 : UInt8), (101 : UInt8), (99 : UInt8), (116 : UInt8), (105 : UInt8), (111 : UInt8), (110 : UInt8)], [(66 : UInt8)], [(116 : UInt8), (114 : UInt8), (97 : UInt8), (110 : UInt8), (115 : UInt8), (102 : UInt8), (101 : UInt8), (114 : UInt8), (45 : UInt8), (101 : UInt8), (110 : UInt8), (99 : UInt8), (111 : UInt8), (100 : UInt8), (105 : UInt8), (110 : UInt8), (103 : UInt8)]].getD (((0 : Nat) + ((↑(UInt8.toNat (l.getD i.toNat (0 : UInt8))) : Int).tmod (5 : Int)).toNat) * (1 : Nat)) []).length + [(58 : UInt8), (32 : UInt8)].length) : Int) ≤ (9223372036854775807 : Int)) <| .chk ((↑((want ++ [[(65 : UInt8)], [(99 : UInt8), (111 : UInt8), (110 : UInt8), (116 : UInt8), (101 : UInt8), (110 : UInt8), (116 : UInt8), (45 : UInt8), (76 : UInt8), (69 : UInt8), (78 : UInt8), (71 : UInt8), (84 : UInt8), (72 : UInt8)], [(67 : UInt8), (111 : UInt8), (110 : UInt8), (110 : UInt8), (101 : UInt8), (99 : UInt8), (116 : UInt8), (105 : UInt8), (111 : UInt8), (110 : UInt8)], [(66 : UInt8)], [(116 : UInt8), (114 : UInt8), (97 : UInt8), (110 : UInt8), (115 : UInt8), (102 : UInt8), (101 : UInt8), (114 : UInt8), (45 : UInt8), (101 : UInt8), (110 : UInt8), (99 : UInt8), (111 : UInt8), (100 : UInt8), (105 : UInt8), (110 : UInt8), (103 : UInt8)]].getD (((0 : Nat) + ((↑(UInt8.toNat (l.getD i.toNat (0 : UInt8))) : Int).tmod (5 : Int)).toNat) * (1 : Nat)) [] ++ [(58 : UInt8), (32 : UInt8)]).length + y1.length) : Int) ≤ (9223372036854775807 : Int)) <| .chk ((↑((want ++ [[(65 : UInt8)], [(99 : UInt8), (111 : UInt8), (110 : UInt8), (116 : UInt8), (101 : UInt8), (110 : UInt8), (116 : UInt8), (45 : UInt8), (76 : UInt8), (69 : UInt8), (78 : UInt8), (71 : UInt8), (84 : UInt8), (72 : UInt8)], [(67 : UInt8), (111 : UInt8), (110 : UInt8), (110 : UInt8), (101 : UInt8), (99 : UInt8), (116 : UInt8), (105 : UInt8), (111 : UInt8), (110 : UInt8)], [(66 : UInt8)], [(116 : UInt8), (114 : UInt8), (97 : UInt8), (110 : UInt8), (115 : UInt8), (102 : UInt8), (101 : UInt8), (114 : UInt8), (45 : UInt8), (101 : UInt8), (110 : UInt8), (99 : UInt8), (111 : UInt8), (100 : UInt8), (105 : UInt8), (110 : UInt8), (103 : UInt8)]].getD (((0 : Nat) + ((↑(UInt8.toNat (l.getD i.toNat (0 : UInt8))) : Int).tmod (5 : Int)).toNat) * (1 : Nat)) [] ++ [(58 : UInt8), (32 : UInt8)] ++ y1).length + [(13 : UInt8), (10 : UInt8)].length) : Int) ≤ (9223372036854775807 : Int)) <| .chk ((0 : Nat) = (0 : Nat) ∧ Fields.length + (1 : Nat) = (List.take Fields.length (List.drop (0 : Nat) Fields) ++ List.take (1 : Nat) (List.drop (0 : Nat) [([[(65 : UInt8)], [(99 : UInt8), (111 : UInt8), (110 : UInt8), (116 : UInt8), (101 : UInt8), (110 : UInt8), (116 : UInt8), (45 : UInt8), (76 : UInt8), (69 : UInt8), (78 : UInt8), (71 : UInt8), (84 : UInt8), (72 : UInt8)], [(67 : UInt8), (111 : UInt8), (110 : UInt8), (110 : UInt8), (101 : UInt8), (99 : UInt8), (116 : UInt8), (105 : UInt8), (111 : UInt8), (110 : UInt8)], [(66 : UInt8)], [(116 : UInt8), (114 : UInt8), (97 : UInt8), (110 : UInt8), (115 : UInt8), (102 : UInt8), (101 : UInt8), (114 : UInt8), (45 : UInt8), (101 : UInt8), (110 : UInt8), (99 : UInt8), (111 : UInt8), (100 : UInt8), (105 : UInt8), (110 : UInt8), (103 : UInt8)]].getD (((0 : Nat) + ((↑(UInt8.toNat (l.getD i.toNat (0 : UInt8))) : Int).tmod (5 : Int)).toNat) * (1 : Nat)) [], y1)])).length) <| .ret (.inl (List.take Fields.length (List.drop (0 : Nat) Fields) ++ List.take (1 : Nat) (List.drop (0 : Nat) [([[(65 : UInt8)], [(99 : UInt8), (111 : UInt8), (110 : UInt8), (116 : UInt8), (101 : UInt8), (110 : UInt8), (116 : UInt8), (45 : UInt8), (76 : UInt8), (69 : UInt8), (78 : UInt8), (71 : UInt8), (84 : UInt8), (72 : UInt8)], [(67 : UInt8), (111 : UInt8), (110 : UInt8), (110 : UInt8), (101 : UInt8), (99 : UInt8), (116 : UInt8), (105 : UInt8), (111 : UInt8), (110 : UInt8)], [(66 : UInt8)], [(116 : UInt8), (114 : UInt8), (97 : UInt8), (110 : UInt8), (115 : UInt8), (102 : UInt8), (101 : UInt8), (114 : UInt8), (45 : UInt8), (101 : UInt8), (110 : UInt8), (99 : UInt8), (111 : UInt8), (100 : UInt8), (105 : UInt8), (110 : UInt8), (103 : UInt8)]].getD (((0 : Nat) + ((↑(UInt8.toNat (l.getD i.toNat (0 : UInt8))) : Int).tmod (5 : Int)).toNat) * (1 : Nat)) [], y1)]), want ++ [[(65 : UInt8)], [(99 : UInt8), (111 : UInt8), (110 : UInt8), (116 : UInt8), (101 : UInt8), (110 : UInt8), (116 : UInt8), (45 : UInt8), (76 : UInt8), (69 : UInt8), (78 : UInt8), (71 : UInt8), (84 : UInt8), (72 : UInt8)], [(67 : UInt8), (111 : UInt8), (110 : UInt8), (110 : UInt8), (101 : UInt8), (99 : UInt8), (116 : UInt8), (105 : UInt8), (111 : UInt8), (110 : UInt8)], [(66 : UInt8)], [(116 : UInt8), (114 : UInt8), (97 : UInt8), (110 : UInt8), (115 : UInt8), (102 : UInt8), (101 : UInt8), (114 : UInt8), (45 : UInt8), (101 : UInt8), (110 : UInt8), (99 : UInt8), (111 : UInt8), (100 : UInt8), (105 : UInt8), (110 : UInt8), (103 : UInt8)]].getD (((0 : Nat) + ((↑(UInt8.toNat (l.getD i.toNat (0 : UInt8))) : Int).tmod (5 : Int)).toNat) * (1 : Nat)) [] ++ [(58 : UInt8), (32 : UInt8)] ++ y1 ++ [(13 : UInt8), (10 : UInt8)], IntKind.i64.wrap (i + (1 : Int)))))
   (.chk ((0 : Int) ≤ i ∧ i < (↑l.length : Int)) <| .chk (i.toNat < l.length) <| .br ((↑(UInt8.toNat (l.getD i.toNat (0 : UInt8))) : Int).tmod (5 : Int) == (3 : Int)) (.chk ((↑(want.length + ([[(65 : UInt8)], [(99 : UInt8), (111 : UInt8), (110 : UInt8), (116 : UInt8), (101 : UInt8), (110 : UInt8), (116 : UInt8), (45 : UInt8), (76 : UInt8), (69 : UInt8), (78 : UInt8), (71 : UInt8), (84 : UInt8), (72 : UInt8)], [(67 : UInt8), (111 : UInt8), (110 : UInt8), (110 : UInt8), (101 : UInt8), (99 : UInt8), (116 : UInt8), (105 : UInt8), (111 : UInt8), (110 : UInt8)], [(66 : UInt8)], [(116 : UInt8), (114 : UInt8), (97 : UInt8), (110 : UInt8), (115 : UInt8), (102 : UInt8), (101 : UInt8), (114 : UInt8), (45 : UInt8), (101 : UInt8), (110 : UInt8), (99 : UInt8), (111 : UInt8), (100 : UInt8), (105 : UInt8), (110 : UInt8), (103 : UInt8)]].getD (((0 : Nat) + ((↑(UInt8.toNat (l.getD i.toNat (0 : UInt8))) : Int).tmod (5 : Int)).toNat) * (1 : Nat)) []).length) : Int) ≤ (9223372036854775807 : Int)) <| .chk ((↑((want ++ [[(65 : UInt8)], [(99 : UInt8), (111 : UInt8), (110 : UInt8), (116 : UInt8), (101 : UInt8), (110 : UInt8), (116 : UInt8), (45 : UInt8), (76 : UInt8), (69 : UInt8), (78 : UInt8), (71 : UInt8), (84 : UInt8), (72 : UInt8)], [(67 : UInt8), (111 : UInt8), (110 : UInt8), (110 : UInt8), (101 : UInt8), (99 : UInt8), (116 : UInt8), (105 : UInt8), (111 : UInt8), (110 : UInt8)], [(66 : UInt8)], [(116 : UInt8), (114 : UInt8), (97 : UInt8), (110 : UInt8), (115 : UInt8), (102 : UInt8), (101 : UInt8), (114 : UInt8), (45 : UInt8), (101 : UInt8), (110 : UInt8), (99 : UInt8), (111 : UInt8), (100 : UInt8), (105 : UInt8), (110 : UInt8), (103 : UInt8)]].getD (((0 : Nat) + ((↑(UInt8.toNat (l.getD i.toNat (0 : UInt8))) : Int).tmod (5 : Int)).toNat) * (1 : Nat)) []).length + [(58 : UInt8), (32 : UInt8)].length) : Int) ≤ (9223372036854775807 : Int)) <| .chk ((↑((want ++ [[(65 : UInt8)], [(99 : UInt8), (111 : UInt8), (110 : UInt8), (116 : UInt8), (101 : UInt8), (110 : UInt8), (116 : UInt8), (45 : UInt8), (76 : UInt8), (69 : UInt8), (78 : UInt8), (71 : UInt8), (84 : UInt8), (72 : UInt8)], [(67 : UInt8), (111 : UInt8), (110 : UInt8), (110 : UInt8), (101 : UInt8), (99 : UInt8), (116 : UInt8), (105 : UInt8), (111 : UInt8), (110 : UInt8)], [(66 : UInt8)], [(116 : UInt8), (114 : UInt8), (97 : UInt8), (110 : UInt8), (115 : UInt8), (102 : UInt8), (101 : UInt8), (114 : UInt8), (45 : UInt8), (101 : UInt8), (110 : UInt8), (99 : UInt8), (111 : UInt8), (100 : UInt8), (105 : UInt8), (110 : UInt8), (103 : UInt8)]].getD (((0 : Nat) + ((↑(UInt8.toNat (l.getD i.toNat (0 : UInt8))) : Int).tmod (5 : Int)).toNat) * (1 : Nat)) [] ++ [(58 : UInt8), (32 : UInt8)]).length + y1.length) : Int) ≤ (9223372036854775807 : Int)) <| .chk ((↑((want ++ [[(65 : UInt8)], [(99 : UInt8), (111 : UInt8), (110 : UInt8), (116 : UInt8), (101 : UInt8), (110 : UInt8), (116 : UInt8), (45 : UInt8), (76 : UInt8), (69 : UInt8), (78 : UInt8), (71 : UInt8), (84 : UInt8), (72 : UInt8)], [(67 : UInt8), (111 : UInt8), (110 : UInt8), (110 : UInt8), (101 : UInt8), (99 : UInt8), (116 : UInt8), (105 : UInt8), (111 : UInt8), (110 : UInt8)], [(66 : UInt8)], [(116 : UInt8), (114 : UInt8), (97 : UInt8), (110 : UInt8), (115 : UInt8), (102 : UInt8), (101 : UInt8), (114 : UInt8), (45 : UInt8), (101 : UInt8), (110 : UInt8), (99 : UInt8), (111 : UInt8), (100 : UInt8), (105 : UInt8), (110 : UInt8), (103 : UInt8)]].getD (((0 : Nat) + ((↑(UInt8.toNat (l.getD i.toNat (0 : UInt8))) : Int).tmod (5 : Int)).toNat) * (1 : Nat)) [] ++ [(58 : UInt8), (32 : UInt8)] ++ y1).length + [(13 : UInt8), (10 : UInt8)].length) : Int) ≤ (9223372036854775807 : Int)) <| .chk ((0 : Nat) = (0 : Nat) ∧ Fields.length + (1 : Nat) = (List.take Fields.length (List.drop (0 : Nat) Fields) ++ List.take (1 : Nat) (List.drop (0 : Nat) [([[(65 : UInt8)], [(99 : UInt8), (111 : UInt8), (110 : UInt8), (116 : UInt8), (101 : UInt8), (110 : UInt8), (116 : UInt8), (45 : UInt8), (76 : UInt8), (69 : UInt8), (78 : UInt8), (71 : UInt8), (84 : UInt8), (72 : UInt8)], [(67 : UInt8), (111 : UInt8), (110 : UInt8), (110 : UInt8), (101 : UInt8), (99 : UInt8), (116 : UInt8), (105 : UInt8), (111 : UInt8), (110 : UInt8)], [(66 : UInt8)], [(116 : UInt8), (114 : UInt8), (97 : UInt8), (110 : UInt8), (115 : UInt8), (102 : UInt8), (101 : UInt8), (114 : UInt8), (45 : UInt8), (101 : UInt8), (110 : UInt8), (99 : UInt8), (111 : UInt8), (100 : UInt8), (105 : UInt8), (110 : UInt8), (103 : UInt8)]].getD (((0 : Nat) + ((↑(UInt8.toNat (l.getD i.toNat (0 : UInt8))) : Int).tmod (5 : Int)).toNat) * (1 : Nat)) [], y1)])).length) <| .ret (.inl (List.take Fields.length (List.drop (0 : Nat) Fields) ++ List.take (1 : Nat) (List.drop (0 : Nat) [([[(65 : UInt8)], [(99 : UInt8), (111 : UInt8), (110 : UInt8), (116 : UInt8), (101 : UInt8), (110 : UInt8), (116 : UInt8), (45 : UInt8), (76 : UInt8), (69 : UInt8), (78 : UInt8), (71 : UInt8), (84 : UInt8), (72 : UInt8)], [(67 : UInt8), (111 : UInt8), (110 : UInt8), (110 : UInt8), (101 : UInt8), (99 : UInt8), (116 : UInt8), (105 : UInt8), (111 : UInt8), (110 : UInt8)], [(66 : UInt8)], [(116 : UInt8), (114 : UInt8), (97 : UInt8), (110 : UInt8), (115 : UInt8), (102 : UInt8), (101 : UInt8), (114 : UInt8), (45 : UInt8), (101 : UInt8), (110 : UInt8), (99 : UInt8), (111 : UInt8), (100 : UInt8), (105 : UInt8), (110 : UInt8), (103 : UInt8)]].getD (((0 : Nat) + ((↑(UInt8.toNat (l.getD i.toNat (0 : UInt8))) : Int).tmod (5 : Int)).toNat) * (1 : Nat)) [], y1)]), want ++ [[(65 : UInt8)], [(99 : UInt8), (111 : UInt8), (110 : UInt8), (116 : UInt8), (101 : UInt8), (110 : UInt8), (116 : UInt8), (45 : UInt8), (76 : UInt8), (69 : UInt8), (78 : UInt8), (71 : UInt8), (84 : UInt8), (72 : UInt8)], [(67 : UInt8), (111 : UInt8), (110 : UInt8), (110 : UInt8), (101 : UInt8), (99 : UInt8), (116 : UInt8), (105 : UInt8), (111 : UInt8), (110 : UInt8)], [(66 : UInt8)], [(116 : UInt8), (114 : UInt8), (97 : UInt8), (110 : UInt8), (115 : UInt8), (102 : UInt8), (101 : UInt8), (114 : UInt8), (45 : UInt8), (101 : UInt8), (110 : UInt8), (99 : UInt8), (111 : UInt8), (100 : UInt8), (105 : UInt8), (110 : UInt8), (103 : UInt8)]].getD (((0 : Nat) + ((↑(UInt8.toNat (l.getD i.toNat (0 : UInt8))) : Int).tmod (5 : Int)).toNat) * (1 : Nat)) [] ++ [(58 : UInt8), (32 : UInt8)] ++ y1 ++ [(13 : UInt8), (10 : UInt8)], IntKind.i64.wrap (i + (1 : Int)))))
    (.chk ((0 : Nat) = (0 : Nat) ∧ Fields.length + (1 : Nat) = (List.take Fields.length (List.drop (0 : Nat) Fields) ++ List.take (1 : Nat) (List.drop (0 : Nat) [([[(65 : UInt8)], [(99 : UInt8), (111 : UInt8), (110 : UInt8), (116 : UInt8), (101 : UInt8), (110 : UInt8), (116 : UInt8), (45 : UInt8), (76 : UInt8), (69 : UInt8), (78 : UInt8), (71 : UInt8), (84 : UInt8), (72 : UInt8)], [(67 : UInt8), (111 : UInt8), (110 : UInt8), (110 : UInt8), (101 : UInt8), (99 : UInt8), (116 : UInt8), (105 : UInt8), (111 : UInt8), (110 : UInt8)], [(66 : UInt8)], [(116 : UInt8), (114 : UInt8), (97 : UInt8), (110 : UInt8), (115 : UInt8), (102 : UInt8), (101 : UInt8), (114 : UInt8), (45 : UInt8), (101 : UInt8), (110 : UInt8), (99 : UInt8), (111 : UInt8), (100 : UInt8), (105 : UInt8), (110 : UInt8), (103 : UInt8)]].getD (((0 : Nat) + ((↑(UInt8.toNat (l.getD i.toNat (0 : UInt8))) : Int).tmod (5 : Int)).toNat) * (1 : Nat)) [], y1)])).length) <| .ret (.inl (List.take Fields.length (List.drop (0 : Nat) Fields) ++ List.take (1 : Nat) (List.drop (0 : Nat) [([[(65 : UInt8)], [(99 : UInt8), (111 : UInt8), (110 : UInt8), (116 : UInt8), (101 : UInt8), (110 : UInt8), (116 : UInt8), (45 : UInt8), (76 : UInt8), (69 : UInt8), (78 : UInt8), (71 : UInt8), (84 : UInt8), (72 : UInt8)], [(67 : UInt8), (111 : UInt8), (110 : UInt8), (110 : UInt8), (101 : UInt8), (99 : UInt8), (116 : UInt8), (105 : UInt8), (111 : UInt8), (110 : UInt8)], [(66 : UInt8)], [(116 : UInt8), (114 : UInt8), (97 : UInt8), (110 : UInt8), (115 : UInt8), (102 : UInt8), (101 : UInt8), (114 : UInt8), (45 : UInt8), (101 : UInt8), (110 : UInt8), (99 : UInt8), (111 : UInt8), (100 : UInt8), (105 : UInt8), (110 : UInt8), (103 : UInt8)]].getD (((0 : Nat) + ((↑(UInt8.toNat (l.getD i.toNat (0 : UInt8))) : Int).tmod (5 : Int)).toNat) * (1 : Nat)) [], y1)]), want, IntKind.i64.wrap (i + (1 : Int)))))))
   (.two (.call (ref1_Put.f i) fun y1 =>
    .chk ((0 : Int) ≤ i ∧ i < (↑l.length : Int)) <| .chk (i.toNat < l.length) <| .chk ((0 : Int) ≤ (↑(UInt8.toNat (l.getD i.toNat (0 : UInt8))) : Int).tmod (5 : Int) ∧ (↑(UInt8.toNat (l.getD i.toNat (0 : UInt8))) : Int).tmod (5 : Int) < (5 : Int)) <| .chk (((0 : Nat) + ((↑(UInt8.toNat (l.getD i.toNat (0 : UInt8))) : Int).tmod (5 : Int)).toNat) * (1 : Nat) < (5 : Nat)) <| .chk ((1 : Nat) ≤ [([[(65 : UInt8)], [(99 : UInt8), (111 : UInt8), (110 : UInt8), (116 : UInt8), (101 : UInt8), (110 : UInt8), (116 : UInt8), (45 : UInt8), (76 : UInt8), (69 : UInt8), (78 : UInt8), (71 : UInt8), (84 : UInt8), (72 : UInt8)], [(67 : UInt8), (111 : UInt8), (110 : UInt8), (110 : UInt8), (101 : UInt8), (99 : UInt8), (116 : UInt8), (105 : UInt8), (111 : UInt8), (110 : UInt8)], [(66 : UInt8)], [(116 : UInt8), (114 : UInt8), (97 : UInt8), (110 : UInt8), (115 : UInt8), (102 : UInt8), (101 : UInt8), (114 : UInt8), (45 : UInt8), (101 : UInt8), (110 : UInt8), (99 : UInt8), (111 : UInt8), (100 : UInt8), (105 : UInt8), (110 : UInt8), (103 : UInt8)]].getD (((0 : Nat) + ((↑(UInt8.toNat (l.getD i.toNat (0 : UInt8))) : Int).tmod (5 : Int)).toNat) * (1 : Nat)) [], y1)].length) <| .chk ((0 : Nat) + Fields.length ≤ Fields.length) <| .chk ((Fields.length + (1 : Nat)) * (32 : Nat) ≤ (140737488355328 : Nat)) <| .chk ((0 : Int) ≤ i ∧ i < (↑l.length : Int)) <| .chk (i.toNat < l.length) <| .br ((↑(UInt8.toNat (l.getD i.toNat (0 : UInt8))) : Int).tmod (5 : Int) == (0 : Int)) (.chk ((↑(want.length + ([[(65 : UInt8)], [(99 : UInt8), (111 : UInt8), (110 : UInt8), (116 : UInt8), (101 : UInt8), (110 : UInt8), (116 : UInt8), (45 : UInt8), (76 : UInt8), (69 : UInt8), (78 : UInt8), (71 : UInt8), (84 : UInt8), (72 : UInt8)], [(67 : UInt8), (111 : UInt8), (110 : UInt8), (110 : UInt8), (101 : UInt8), (99 : UInt8), (116 : UInt8), (105 : UInt8), (111 : UInt8), (110 : UInt8)], [(66 : UInt8)], [(116 : UInt8), (114 : UInt8), (97 : UInt8), (110 : UInt8), (115 : UInt8), (102 : UInt8), (101 : UInt8), (114 : UInt8), (45 : UInt8), (101 : UInt8), (110 : UInt8), (99 : UInt8), (111 : UInt8), (100 : UInt8), (105 : UInt8), (110 : UInt8), (103 : UInt8)]].getD (((0 : Nat) + ((↑(UInt8.toNat (l.getD i.toNat (0 : UInt8))) : Int).tmod (5 : Int)).toNat) * (1 : Nat)) []).length) : Int) ≤ (9223372036854775807 : Int)) <| .chk ((↑((want ++ [[(65 : UInt8)], [(99 : UInt8), (111 : UInt8), (110 : UInt8), (116 : UInt8), (101 : UInt8), (110 : UInt8), (116 : UInt8), (45 : UInt8), (76 : UInt8), (69 : UInt8), (78 : UInt8), (71 : UInt8), (84 : UInt8), (72 : UInt8)], [(67 : UInt8), (111 : UInt8), (110 : UInt8), (110 : UInt8), (101 : UInt8), (99 : UInt8), (116 : UInt8), (105 : UInt8), (111 : UInt8), (110 : UInt8)], [(66 : UInt8)], [(116 : UInt8), (114 : UInt8), (97 : UInt8), (110 : UInt8), (115 : UInt8), (102 : UInt8), (101 : UInt8), (114 : UInt8), (45 : UInt8), (101 : UInt8), (110 : UInt8), (99 : UInt8), (111 : UInt8), (100 : UInt8), (105 : UInt8), (110 : UInt8), (103 : UInt8)]].getD (((0 : Nat) + ((↑(UInt8.toNat (l.getD i.toNat (0 : UInt8))) : Int).tmod (5 : Int)).toNat) * (1 : Nat)) []).length + [(58 : UInt8), (32 : UInt8)].length) : Int) ≤ (9223372036854775807 : Int)) <| .chk ((↑((want ++ [[(65 : UInt8)], [(99 : UInt8), (111 : UInt8), (110 : UInt8), (116 : UInt8), (101 : UInt8), (110 : UInt8), (116 : UInt8), (45 : UInt8), (76 : UInt8), (69 : UInt8), (78 : UInt8), (71 : UInt8), (84 : UInt8), (72 : UInt8)], [(67 : UInt8), (111 : UInt8), (110 : UInt8), (110 : UInt8), (101 : UInt8), (99 : UInt8), (116 : UInt8), (105 : UInt8), (111 : UInt8), (110 : UInt8)], [(66 : UInt8)], [(116 : UInt8), (114 : UInt8), (97 : UInt8), (110 : UInt8), (115 : UInt8), (102 : UInt8), (101 : UInt8), (114 : UInt8), (45 : UInt8), (101 : UInt8), (110 : UInt8), (99 : UInt8), (111 : UInt8), (100 : UInt8), (105 : UInt8), (110 : UInt8), (103 : UInt8)]].getD (((0 : Nat) + ((↑(UInt8.toNat (l.getD i.toNat (0 : UInt8))) : Int).tmod (5 : Int)).toNat) * (1 : Nat)) [] ++ [(58 : UInt8), (32 : UInt8)]).length + y1.length) : Int) ≤ (9223372036854775807 : Int)) <| .chk ((↑((want ++ [[(65 : UInt8)], [(99 : UInt8), (111 : UInt8), (110 : UInt8), (116 : UInt8), (101 : UInt8), (110 : UInt8), (116 : UInt8), (45 : UInt8), (76 : UInt8), (69 : UInt8), (78 : UInt8), (71 : UInt8), (84 : UInt8), (72 : UInt8)], [(67 : UInt8), (111 : UInt8), (110 : UInt8), (110 : UInt8), (101 : UInt8), (99 : UInt8), (116 : UInt8), (105 : UInt8), (111 : UInt8), (110 : UInt8)], [(66 : UInt8)], [(116 : UInt8), (114 : UInt8), (97 : UInt8), (110 : UInt8), (115 : UInt8), (102 : UInt8), (101 : UInt8), (114 : UInt8), (45 : UInt8), (101 : UInt8), (110 : UInt8), (99 : UInt8), (111 : UInt8), (100 : UInt8), (105 : UInt8), (110 : UInt8), (103 : UInt8)]].getD (((0 : Nat) + ((↑(UInt8.toNat (l.getD i.toNat (0 : UInt8))) : Int).tmod (5 : Int)).toNat) * (1 : Nat)) [] ++ [(58 : UInt8), (32 : UInt8)] ++ y1).length + [(13 : UInt8), (10 : UInt8)].length) : Int) ≤ (9223372036854775807 : Int)) <| .chk ((0 : Nat) = (0 : Nat) ∧ Fields.length + (1 : Nat) = (List.take Fields.length (List.drop (0 : Nat) Fields) ++ List.take (1 : Nat) (List.drop (0 : Nat) [([[(65 : UInt8)], [(99 : UInt8), (111 : UInt8), (110 : UInt8), (116 : UInt8), (101 : UInt8), (110 : UInt8), (116 : UInt8), (45 : UInt8), (76 : UInt8), (69 : UInt8), (78 : UInt8), (71 : UInt8), (84 : UInt8), (72 : UInt8)], [(67 : UInt8), (111 : UInt8), (110 : UInt8), (110 : UInt8), (101 : UInt8), (99 : UInt8), (116 : UInt8), (105 : UInt8), (111 : UInt8), (110 : UInt8)], [(66 : UInt8)], [(116 : UInt8), (114 : UInt8), (97 : UInt8), (110 : UInt8), (115 : UInt8), (102 : UInt8), (101 : UInt8), (114 : UInt8), (45 : UInt8), (101 : UInt8), (110 : UInt8), (99 : UInt8), (111 : UInt8), (100 : UInt8), (105 : UInt8), (110 : UInt8), (103 : UInt8)]].getD (((0 : Nat) + ((↑(UInt8.toNat (l.getD i.toNat (0 : UInt8))) : Int).tmod (5 : Int)).toNat) * (1 : Nat)) [], y1)])).length) <| .ret (.inl (List.take Fields.length (List.drop (0 : Nat) Fields) ++ List.take (1 : Nat) (List.drop (0 : Nat) [([[(65 : UInt8)], [(99 : UInt8), (111 : UInt8), (110 : UInt8), (116 : UInt8), (101 : UInt8), (110 : UInt8), (116 : UInt8), (45 : UInt8), (76 : UInt8), (69 : UInt8), (78 : UInt8), (71 : UInt8), (84 : UInt8), (72 : UInt8)], [(67 : UInt8), (111 : UInt8), (110 : UInt8), (110 : UInt8), (101 : UInt8), (99 : UInt8), (116 : UInt8), (105 : UInt8), (111 : UInt8), (110 : UInt8)], [(66 : UInt8)], [(116 : UInt8), (114 : UInt8), (97 : UInt8), (110 : UInt8), (115 : UInt8), (102 : UInt8), (101 : UInt8), (114 : UInt8), (45 : UInt8), (101 : UInt8), (110 : UInt8), (99 : UInt8), (111 : UInt8), (100 : UInt8), (105 : UInt8), (110 : UInt8), (103 : UInt8)]].getD (((0 : Nat) + ((↑(UInt8.toNat (l.getD i.toNat (0 : UInt8))) : Int).tmod (5 : Int)).toNat) * (1 : Nat)) [], y1)]), want ++ [[(65 : UInt8)], [(99 : UInt8), (111 : UInt8), (110 : UInt8), (116 : UInt8), (101 : UInt8), (110 : UInt8), (116 : UInt8), (45 : UInt8), (76 : UInt8), (69 : UInt8), (78 : UInt8), (71 : UInt8), (84 : UInt8), (72 : UInt8)], [(67 : UInt8), (111 : UInt8), (110 : UInt8), (110 : UInt8), (101 : UInt8), (99 : UInt8), (116 : UInt8), (105 : UInt8), (111 : UInt8), (110 : UInt8)], [(66 : UInt8)], [(116 : UInt8), (114 : UInt8), (97 : UInt8), (110 : UInt8), (115 : UInt8), (102 : UInt8), (101 : UInt8), (114 : UInt8), (45 : UInt8), (101 : UInt8), (110 : UInt8), (99 : UInt8), (111 : UInt8), (100 : UInt8), (105 : UInt8), (110 : UInt8), (103 : UInt8)]].getD (((0 : Nat) + ((↑(UInt8.toNat (l.getD i.toNat (0 : UInt8))) : Int).tmod (5 : Int)).toNat) * (1 : Nat)) [] ++ [(58 : UInt8), (32 : UInt8)] ++ y1 ++ [(13 : UInt8), (10 : UInt8)], IntKind.i64.wrap (i + (1 : Int)))))
    (.chk ((0 : Int) ≤ i ∧ i < (↑l.length : Int)) <| .chk (i.toNat < l.length) <| .br ((↑(UInt8.toNat (l.getD i.toNat (0 : UInt8))) : Int).tmod (5 : Int) == (3 : Int)) (.chk ((↑(want.length + ([[(65 : UInt8)], [(99 : UInt8), (111 : UInt8), (110 : UInt8), (116 : UInt8), (101 : UInt8), (110 : UInt8), (116 : UInt8), (45 : UInt8), (76 : UInt8), (69 : UInt8), (78 : UInt8), (71 : UInt8), (84 : UInt8), (72 : UInt8)], [(67 : UInt8), (111 : UInt8), (110 : UInt8), (110 : UInt8), (101 : UInt8), (99 : UInt8), (116 : UInt8), (105 : UInt8), (111 : UInt8), (110 : UInt8)], [(66 : UInt8)], [(116 : UInt8), (114 : UInt8), (97 : UInt8), (110 : UInt8), (115 : UInt8), (102 : UInt8), (101 : UInt8), (114 : UInt8), (45 : UInt8), (101 : UInt8), (110 : UInt8), (99 : UInt8), (111 : UInt8), (100 : UInt8), (105 : UInt8), (110 : UInt8), (103 : UInt8)]].getD (((0 : Nat) + ((↑(UInt8.toNat (l.getD i.toNat (0 : UInt8))) : Int).tmod (5 : Int)).toNat) * (1 : Nat)) []).length) : Int) ≤ (9223372036854775807 : Int)) <| .chk ((↑((want ++ [[(65 : UInt8)], [(99 : UInt8), (111 : UInt8), (110 : UInt8), (116 : UInt8), (101 : UInt8), (110 : UInt8), (116 : UInt8), (45 : UInt8), (76 : UInt8), (69 : UInt8), (78 : UInt8), (71 : UInt8), (84 : UInt8), (72 : UInt8)], [(67 : UInt8), (111 : UInt8), (110 : UInt8), (110 : UInt8), (101 : UInt8), (99 : UInt8), (116 : UInt8), (105 : UInt8), (111 : UInt8), (110 : UInt8)], [(66 : UInt8)], [(116 : UInt8), (114 : UInt8), (97 : UInt8), (110 : UInt8), (115 : UInt8), (102 : UInt8), (101 : UInt8), (114 : UInt8), (45 : UInt8), (101 : UInt8), (110 : UInt8), (99 : UInt8), (111 : UInt8), (100 : UInt8), (105 : UInt8), (110 : UInt8), (103 : UInt8)]].getD (((0 : Nat) + ((↑(UInt8.toNat (l.getD i.toNat (0 : UInt8))) : Int).tmod (5 : Int)).toNat) * (1 : Nat)) []).length + [(58 : UInt8), (32 : UInt8)].length) : Int) ≤ (9223372036854775807 : Int)) <| .chk ((↑((want ++ [[(65 : UInt8)], [(99 : UInt8), (111 : UInt8), (110 : UInt8), (116 : UInt8), (101 : UInt8), (110 : UInt8), (116 : UInt8), (45 : UInt8), (76 : UInt8), (69 : UInt8), (78 : UInt8), (71 : UInt8), (84 : UInt8), (72 : UInt8)], [(67 : UInt8), (111 : UInt8), (110 : UInt8), (110 : UInt8), (101 : UInt8), (99 : UInt8), (116 : UInt8), (105 : UInt8), (111 : UInt8), (110 : UInt8)], [(66 : UInt8)], [(116 : UInt8), (114 : UInt8), (97 : UInt8), (110 : UInt8), (115 : UInt8), (102 : UInt8), (101 : UInt8), (114 : UInt8), (45 : UInt8), (101 : UInt8), (110 : UInt8), (99 : UInt8), (111 : UInt8), (100 : UInt8), (105 : UInt8), (110 : UInt8), (103 : UInt8)]].getD (((0 : Nat) + ((↑(UInt8.toNat (l.getD i.toNat (0 : UInt8))) : Int).tmod (5 : Int)).toNat) * (1 : Nat)) [] ++ [(58 : UInt8), (32 : UInt8)]).length + y1.length) : Int) ≤ (9223372036854775807 : Int)) <| .chk ((↑((want ++ [[(65 : UInt8)], [(99 : UInt8), (111 : UInt8), (110 : UInt8), (116 : UInt8), (101 : UInt8), (110 : UInt8), (116 : UInt8), (45 : UInt8), (76 : UInt8), (69 : UInt8), (78 : UInt8), (71 : UInt8), (84 : UInt8), (72 : UInt8)], [(67 : UInt8), (111 : UInt8), (110 : UInt8), (110 : UInt8), (101 : UInt8), (99 : UInt8), (116 : UInt8), (105 : UInt8), (111 : UInt8), (110 : UInt8)], [(66 : UInt8)], [(116 : UInt8), (114 : UInt8), (97 : UInt8), (110 : UInt8), (115 : UInt8), (102 : UInt8), (101 : UInt8), (114 : UInt8), (45 : UInt8), (101 : UInt8), (110 : UInt8), (99 : UInt8), (111 : UInt8), (100 : UInt8), (105 : UInt8), (110 : UInt8), (103 : UInt8)]].getD (((0 : Nat) + ((↑(UInt8.toNat (l.getD i.toNat (0 : UInt8))) : Int).tmod (5 : Int)).toNat) * (1 : Nat)) [] ++ [(58 : UInt8), (32 : UInt8)] ++ y1).length + [(13 : UInt8), (10 : UInt8)].length) : Int) ≤ (9223372036854775807 : Int)) <| .chk ((0 : Nat) = (0 : Nat) ∧ Fields.length + (1 : Nat) = (List.take Fields.length (List.drop (0 : Nat) Fields) ++ List.take (1 : Nat) (List.drop (0 : Nat) [([[(65 : UInt8)], [(99 : UInt8), (111 : UInt8), (110 : UInt8), (116 : UInt8), (101 : UInt8), (110 : UInt8), (116 : UInt8), (45 : UInt8), (76 : UInt8), (69 : UInt8), (78 : UInt8), (71 : UInt8), (84 : UInt8), (72 : UInt8)], [(67 : UInt8), (111 : UInt8), (110 : UInt8), (110 : UInt8), (101 : UInt8), (99 : UInt8), (116 : UInt8), (105 : UInt8), (111 : UInt8), (110 : UInt8)], [(66 : UInt8)], [(116 : UInt8), (114 : UInt8), (97 : UInt8), (110 : UInt8), (115 : UInt8), (102 : UInt8), (101 : UInt8), (114 : UInt8), (45 : UInt8), (101 : UInt8), (110 : UInt8), (99 : UInt8), (111 : UInt8), (100 : UInt8), (105 : UInt8), (110 : UInt8), (103 : UInt8)]].getD (((0 : Nat) + ((↑(UInt8.toNat (l.getD i.toNat (0 : UInt8))) : Int).tmod (5 : Int)).toNat) * (1 : Nat)) [], y1)])).length) <| .ret (.inl (List.take Fields.length (List.drop (0 : Nat) Fields) ++ List.take (1 : Nat) (List.drop (0 : Nat) [([[(65 : UInt8)], [(99 : UInt8), (111 : UInt8), (110 : UInt8), (116 : UInt8), (101 : UInt8), (110 : UInt8), (116 : UInt8), (45 : UInt8), (76 : UInt8), (69 : UInt8), (78 : UInt8), (71 : UInt8), (84 : UInt8), (72 : UInt8)], [(67 : UInt8), (111 : UInt8), (110 : UInt8), (110 : UInt8), (101 : UInt8), (99 : UInt8), (116 : UInt8), (105 : UInt8), (111 : UInt8), (110 : UInt8)], [(66 : UInt8)], [(116 : UInt8), (114 : UInt8), (97 : UInt8), (110 : UInt8), (115 : UInt8), (102 : UInt8), (101 : UInt8), (114 : UInt8), (45 : UInt8), (101 : UInt8), (110 : UInt8), (99 : UInt8), (111 : UInt8), (100 : UInt8), (105 : UInt8), (110 : UInt8), (103 : UInt8)]].getD (((0 : Nat) + ((↑(UInt8.toNat (l.getD i.toNat (0 : UInt8))) : Int).tmod (5 : Int)).toNat) * (1 : Nat)) [], y1)]), want ++ [[(65 : UInt8)], [(99 : UInt8), (111 : UInt8), (110 : UInt8), (116 : UInt8), (101 : UInt8), (110 : UInt8), (116 : UInt8), (45 : UInt8), (76 : UInt8), (69 : UInt8), (78 : UInt8), (71 : UInt8), (84 : UInt8), (72 : UInt8)], [(67 : UInt8), (111 : UInt8), (110 : UInt8), (110 : UInt8), (101 : UInt8), (99 : UInt8), (116 : UInt8), (105 : UInt8), (111 : UInt8), (110 : UInt8)], [(66 : UInt8)], [(116 : UInt8), (114 : UInt8), (97 : UInt8), (110 : UInt8), (115 : UInt8), (102 : UInt8), (101 : UInt8), (114 : UInt8), (45 : UInt8), (101 : UInt8), (110 : UInt8), (99 : UInt8), (111 : UInt8), (100 : UInt8), (105 : UInt8), (110 : UInt8), (103 : UInt8)]].getD (((0 : Nat) + ((↑(UInt8.toNat (l.getD i.toNat (0 : UInt8))) : Int).tmod (5 : Int)).toNat) * (1 : Nat)) [] ++ [(58 : UInt8), (32 : UInt8)] ++ y1 ++ [(13 : UInt8), (10 : UInt8)], IntKind.i64.wrap (i + (1 : Int)))))
    (.chk ((0 : Nat) = (0 : Nat) ∧ Fields.length + (1 : Nat) = (List.take Fields.length (List.drop (0 : Nat) Fields) ++ List.take (1 : Nat) (List.drop (0 : Nat) [([[(65 : UInt8)], [(99 : UInt8), (111 : UInt8), (110 : UInt8), (116 : UInt8), (101 : UInt8), (110 : UInt8), (116 : UInt8), (45 : UInt8), (76 : UInt8), (69 : UInt8), (78 : UInt8), (71 : UInt8), (84 : UInt8), (72 : UInt8)], [(67 : UInt8), (111 : UInt8), (110 : UInt8), (110 : UInt8), (101 : UInt8), (99 : UInt8), (116 : UInt8), (105 : UInt8), (111 : UInt8), (110 : UInt8)], [(66 : UInt8)], [(116 : UInt8), (114 : UInt8), (97 : UInt8), (110 : UInt8), (115 : UInt8), (102 : UInt8), (101 : UInt8), (114 : UInt8), (45 : UInt8), (101 : UInt8), (110 : UInt8), (99 : UInt8), (111 : UInt8), (100 : UInt8), (105 : UInt8), (110 : UInt8), (103 : UInt8)]].getD (((0 : Nat) + ((↑(UInt8.toNat (l.getD i.toNat (0 : UInt8))) : Int).tmod (5 : Int)).toNat) * (1 : Nat)) [], y1)])).length) <| .ret (.inl (List.take Fields.length (List.drop (0 : Nat) Fields) ++ List.take (1 : Nat) (List.drop (0 : Nat) [([[(65 : UInt8)], [(99 : UInt8), (111 : UInt8), (110 : UInt8), (116 : UInt8), (101 : UInt8), (110 : UInt8), (116 : UInt8), (45 : UInt8), (76 : UInt8), (69 : UInt8), (78 : UInt8), (71 : UInt8), (84 : UInt8), (72 : UInt8)], [(67 : UInt8), (111 : UInt8), (110 : UInt8), (110 : UInt8), (101 : UInt8), (99 : UInt8), (116 : UInt8), (105 : UInt8), (111 : UInt8), (110 : UInt8)], [(66 : UInt8)], [(116 : UInt8), (114 : UInt8), (97 : UInt8), (110 : UInt8), (115 : UInt8), (102 : UInt8), (101 : UInt8), (114 : UInt8), (45 : UInt8), (101 : UInt8), (110 : UInt8), (99 : UInt8), (111 : UInt8), (100 : UInt8), (105 : UInt8), (110 : UInt8), (103 : UInt8)]].getD (((0 : Nat) + ((↑(UInt8.toNat (l.getD i.toNat (0 : UInt8))) : Int).tmod (5 : Int)).toNat) * (1 : Nat)) [], y1)]), want, IntKind.i64.wrap (i + (1 : Int)))))))
   (.twice <| .call (ref1_Put.f i) fun y1 =>
    .chk ((0 : Int) ≤ i ∧ i < (↑l.length : Int)) <| .chk (i.toNat < l.length) <| .chk ((0 : Int) ≤ (↑(UInt8.toNat (l.getD i.toNat (0 : UInt8))) : Int).tmod (5 : Int) ∧ (↑(UInt8.toNat (l.getD i.toNat (0 : UInt8))) : Int).tmod (5 : Int) < (5 : Int)) <| .chk (((0 : Nat) + ((↑(UInt8.toNat (l.getD i.toNat (0 : UInt8))) : Int).tmod (5 : Int)).toNat) * (1 : Nat) < (5 : Nat)) <| .chk ((1 : Nat) ≤ [([[(65 : UInt8)], [(99 : UInt8), (111 : UInt8), (110 : UInt8), (116 : UInt8), (101 : UInt8), (110 : UInt8), (116 : UInt8), (45 : UInt8), (76 : UInt8), (69 : UInt8), (78 : UInt8), (71 : UInt8), (84 : UInt8), (72 : UInt8)], [(67 : UInt8), (111 : UInt8), (110 : UInt8), (110 : UInt8), (101 : UInt8), (99 : UInt8), (116 : UInt8), (105 : UInt8), (111 : UInt8), (110 : UInt8)], [(66 : UInt8)], [(116 : UInt8), (114 : UInt8), (97 : UInt8), (110 : UInt8), (115 : UInt8), (102 : UInt8), (101 : UInt8), (114 : UInt8), (45 : UInt8), (101 : UInt8), (110 : UInt8), (99 : UInt8), (111 : UInt8), (100 : UInt8), (105 : UInt8), (110 : UInt8), (103 : UInt8)]].getD (((0 : Nat) + ((↑(UInt8.toNat (l.getD i.toNat (0 : UInt8))) : Int).tmod (5 : Int)).toNat) * (1 : Nat)) [], y1)].length) <| .chk ((0 : Nat) + Fields.length ≤ Fields.length) <| .chk ((Fields.length + (1 : Nat)) * (32 : Nat) ≤ (140737488355328 : Nat)) <| .chk ((0 : Int) ≤ i ∧ i < (↑l.length : Int)) <| .chk (i.toNat < l.length) <| .br ((↑(UInt8.toNat (l.getD i.toNat (0 : UInt8))) : Int).tmod (5 : Int) == (0 : Int)) (.chk ((↑(want.length + ([[(65 : UInt8)], [(99 : UInt8), (111 : UInt8), (110 : UInt8), (116 : UInt8), (101 : UInt8), (110 : UInt8), (116 : UInt8), (45 : UInt8), (76 : UInt8), (69 : UInt8), (78 : UInt8), (71 : UInt8), (84 : UInt8), (72 : UInt8)], [(67 : UInt8), (111 : UInt8), (110 : UInt8), (110 : UInt8), (101 : UInt8), (99 : UInt8), (116 : UInt8), (105 : UInt8), (111 : UInt8), (110 : UInt8)], [(66 : UInt8)], [(116 : UInt8), (114 : UInt8), (97 : UInt8), (110 : UInt8), (115 : UInt8), (102 : UInt8), (101 : UInt8), (114 : UInt8), (45 : UInt8), (101 : UInt8), (110 : UInt8), (99 : UInt8), (111 : UInt8), (100 : UInt8), (105 : UInt8), (110 : UInt8), (103 : UInt8)]].getD (((0 : Nat) + ((↑(UInt8.toNat (l.getD i.toNat (0 : UInt8))) : Int).tmod (5 : Int)).toNat) * (1 : Nat)) []).length) : Int) ≤ (9223372036854775807 : Int)) <| .chk ((↑((want ++ [[(65 : UInt8)], [(99 : UInt8), (111 : UInt8), (110 : UInt8), (116 : UInt8), (101 : UInt8), (110 : UInt8), (116 : UInt8), (45 : UInt8), (76 : UInt8), (69 : UInt8), (78 : UInt8), (71 : UInt8), (84 : UInt8), (72 : UInt8)], [(67 : UInt8), (111 : UInt8), (110 : UInt8), (110 : UInt8), (101 : UInt8), (99 : UInt8), (116 : UInt8), (105 : UInt8), (111 : UInt8), (110 : UInt8)], [(66 : UInt8)], [(116 : UInt8), (114 : UInt8), (97 : UInt8), (110 : UInt8), (115 : UInt8), (102 : UInt8), (101 : UInt8), (114 : UInt8), (45 : UInt8), (101 : UInt8), (110 : UInt8), (99 : UInt8), (111 : UInt8), (100 : UInt8), (105 : UInt8), (110 : UInt8), (103 : UInt8)]].getD (((0 : Nat) + ((↑(UInt8.toNat (l.getD i.toNat (0 : UInt8))) : Int).tmod (5 : Int)).toNat) * (1 : Nat)) []).length + [(58 : UInt8), (32 : UInt8)].length) : Int) ≤ (9223372036854775807 : Int)) <| .chk ((↑((want ++ [[(65 : UInt8)], [(99 : UInt8), (111 : UInt8), (110 : UInt8), (116 : UInt8), (101 : UInt8), (110 : UInt8), (116 : UInt8), (45 : UInt8), (76 : UInt8), (69 : UInt8), (78 : UInt8), (71 : UInt8), (84 : UInt8), (72 : UInt8)], [(67 : UInt8), (111 : UInt8), (110 : UInt8), (110 : UInt8), (101 : UInt8), (99 : UInt8), (116 : UInt8), (105 : UInt8), (111 : UInt8), (110 : UInt8)], [(66 : UInt8)], [(116 : UInt8), (114 : UInt8), (97 : UInt8), (110 : UInt8), (115 : UInt8), (102 : UInt8), (101 : UInt8), (114 : UInt8), (45 : UInt8), (101 : UInt8), (110 : UInt8), (99 : UInt8), (111 : UInt8), (100 : UInt8), (105 : UInt8), (110 : UInt8), (103 : UInt8)]].getD (((0 : Nat) + ((↑(UInt8.toNat (l.getD i.toNat (0 : UInt8))) : Int).tmod (5 : Int)).toNat) * (1 : Nat)) [] ++ [(58 : UInt8), (32 : UInt8)]).length + y1.length) : Int) ≤ (9223372036854775807 : Int)) <| .chk ((↑((want ++ [[(65 : UInt8)], [(99 : UInt8), (111 : UInt8), (110 : UInt8), (116 : UInt8), (101 : UInt8), (110 : UInt8), (116 : UInt8), (45 : UInt8), (76 : UInt8), (69 : UInt8), (78 : UInt8), (71 : UInt8), (84 : UInt8), (72 : UInt8)], [(67 : UInt8), (111 : UInt8), (110 : UInt8), (110 : UInt8), (101 : UInt8), (99 : UInt8), (116 : UInt8), (105 : UInt8), (111 : UInt8), (110 : UInt8)], [(66 : UInt8)], [(116 : UInt8), (114 : UInt8), (97 : UInt8), (110 : UInt8), (115 : UInt8), (102 : UInt8), (101 : UInt8), (114 : UInt8), (45 : UInt8), (101 : UInt8), (110 : UInt8), (99 : UInt8), (111 : UInt8), (100 : UInt8), (105 : UInt8), (110 : UInt8), (103 : UInt8)]].getD (((0 : Nat) + ((↑(UInt8.toNat (l.getD i.toNat (0 : UInt8))) : Int).tmod (5 : Int)).toNat) * (1 : Nat)) [] ++ [(58 : UInt8), (32 : UInt8)] ++ y1).length + [(13 : UInt8), (10 : UInt8)].length) : Int) ≤ (9223372036854775807 : Int)) <| .chk ((0 : Nat) = (0 : Nat) ∧ Fields.length + (1 : Nat) = (List.take Fields.length (List.drop (0 : Nat) Fields) ++ List.take (1 : Nat) (List.drop (0 : Nat) [([[(65 : UInt8)], [(99 : UInt8), (111 : UInt8), (110 : UInt8), (116 : UInt8), (101 : UInt8), (110 : UInt8), (116 : UInt8), (45 : UInt8), (76 : UInt8), (69 : UInt8), (78 : UInt8), (71 : UInt8), (84 : UInt8), (72 : UInt8)], [(67 : UInt8), (111 : UInt8), (110 : UInt8), (110 : UInt8), (101 : UInt8), (99 : UInt8), (116 : UInt8), (105 : UInt8), (111 : UInt8), (110 : UInt8)], [(66 : UInt8)], [(116 : UInt8), (114 : UInt8), (97 : UInt8), (110 : UInt8), (115 : UInt8), (102 : UInt8), (101 : UInt8), (114 : UInt8), (45 : UInt8), (101 : UInt8), (110 : UInt8), (99 : UInt8), (111 : UInt8), (100 : UInt8), (105 : UInt8), (110 : UInt8), (103 : UInt8)]].getD (((0 : Nat) + ((↑(UInt8.toNat (l.getD i.toNat (0 : UInt8))) : Int).tmod (5 : Int)).toNat) * (1 : Nat)) [], y1)])).length) <| .ret (.inl (List.take Fields.length (List.drop (0 : Nat) Fields) ++ List.take (1 : Nat) (List.drop (0 : Nat) [([[(65 : UInt8)], [(99 : UInt8), (111 : UInt8), (110 : UInt8), (116 : UInt8), (101 : UInt8), (110 : UInt8), (116 : UInt8), (45 : UInt8), (76 : UInt8), (69 : UInt8), (78 : UInt8), (71 : UInt8), (84 : UInt8), (72 : UInt8)], [(67 : UInt8), (111 : UInt8), (110 : UInt8), (110 : UInt8), (101 : UInt8), (99 : UInt8), (116 : UInt8), (105 : UInt8), (111 : UInt8), (110 : UInt8)], [(66 : UInt8)], [(116 : UInt8), (114 : UInt8), (97 : UInt8), (110 : UInt8), (115 : UInt8), (102 : UInt8), (101 : UInt8), (114 : UInt8), (45 : UInt8), (101 : UInt8), (110 : UInt8), (99 : UInt8), (111 : UInt8), (100 : UInt8), (105 : UInt8), (110 : UInt8), (103 : UInt8)]].getD (((0 : Nat) + ((↑(UInt8.toNat (l.getD i.toNat (0 : UInt8))) : Int).tmod (5 : Int)).toNat) * (1 : Nat)) [], y1)]), want ++ [[(65 : UInt8)], [(99 : UInt8), (111 : UInt8), (110 : UInt8), (116 : UInt8), (101 : UInt8), (110 : UInt8), (116 : UInt8), (45 : UInt8), (76 : UInt8), (69 : UInt8), (78 : UInt8), (71 : UInt8), (84 : UInt8), (72 : UInt8)], [(67 : UInt8), (111 : UInt8), (110 : UInt8), (110 : UInt8), (101 : UInt8), (99 : UInt8), (116 : UInt8), (105 : UInt8), (111 : UInt8), (110 : UInt8)], [(66 : UInt8)], [(116 : UInt8), (114 : UInt8), (97 : UInt8), (110 : UInt8), (115 : UInt8), (102 : UInt8), (101 : UInt8), (114 : UInt8), (45 : UInt8), (101 : UInt8), (110 : UInt8), (99 : UInt8), (111 : UInt8), (100 : UInt8), (105 : UInt8), (110 : UInt8), (103 : UInt8)]].getD (((0 : Nat) + ((↑(UInt8.toNat (l.getD i.toNat (0 : UInt8))) : Int).tmod (5 : Int)).toNat) * (1 : Nat)) [] ++ [(58 : UInt8), (32 : UInt8)] ++ y1 ++ [(13 : UInt8), (10 : UInt8)], IntKind.i64.wrap (i + (1 : Int)))))
    (.chk ((0 : Int) ≤ i ∧ i < (↑l.length : Int)) <| .chk (i.toNat < l.length) <| .br ((↑(UInt8.toNat (l.getD i.toNat (0 : UInt8))) : Int).tmod (5 : Int) == (3 : Int)) (.chk ((↑(want.length + ([[(65 : UInt8)], [(99 : UInt8), (111 : UInt8), (110 : UInt8), (116 : UInt8), (101 : UInt8), (110 : UInt8), (116 : UInt8), (45 : UInt8), (76 : UInt8), (69 : UInt8), (78 : UInt8), (71 : UInt8), (84 : UInt8), (72 : UInt8)], [(67 : UInt8), (111 : UInt8), (110 : UInt8), (110 : UInt8), (101 : UInt8), (99 : UInt8), (116 : UInt8), (105 : UInt8), (111 : UInt8), (110 : UInt8)], [(66 : UInt8)], [(116 : UInt8), (114 : UInt8), (97 : UInt8), (110 : UInt8), (115 : UInt8), (102 : UInt8), (101 : UInt8), (114 : UInt8), (45 : UInt8), (101 : UInt8), (110 : UInt8), (99 : UInt8), (111 : UInt8), (100 : UInt8), (105 : UInt8), (110 : UInt8), (103 : UInt8)]].getD (((0 : Nat) + ((↑(UInt8.toNat (l.getD i.toNat (0 : UInt8))) : Int).tmod (5 : Int)).toNat) * (1 : Nat)) []).length) : Int) ≤ (9223372036854775807 : Int)) <| .chk ((↑((want ++ [[(65 : UInt8)], [(99 : UInt8), (111 : UInt8), (110 : UInt8), (116 : UInt8), (101 : UInt8), (110 : UInt8), (116 : UInt8), (45 : UInt8), (76 : UInt8), (69 : UInt8), (78 : UInt8), (71 : UInt8), (84 : UInt8), (72 : UInt8)], [(67 : UInt8), (111 : UInt8), (110 : UInt8), (110 : UInt8), (101 : UInt8), (99 : UInt8), (116 : UInt8), (105 : UInt8), (111 : UInt8), (110 : UInt8)], [(66 : UInt8)], [(116 : UInt8), (114 : UInt8), (97 : UInt8), (110 : UInt8), (115 : UInt8), (102 : UInt8), (101 : UInt8), (114 : UInt8), (45 : UInt8), (101 : UInt8), (110 : UInt8), (99 : UInt8), (111 : UInt8), (100 : UInt8), (105 : UInt8), (110 : UInt8), (103 : UInt8)]].getD (((0 : Nat) + ((↑(UInt8.toNat (l.getD i.toNat (0 : UInt8))) : Int).tmod (5 : Int)).toNat) * (1 : Nat)) []).length + [(58 : UInt8), (32 : UInt8)].length) : Int) ≤ (9223372036854775807 : Int)) <| .chk ((↑((want ++ [[(65 : UInt8)], [(99 : UInt8), (111 : UInt8), (110 : UInt8), (116 : UInt8), (101 : UInt8), (110 : UInt8), (116 : UInt8), (45 : UInt8), (76 : UInt8), (69 : UInt8), (78 : UInt8), (71 : UInt8), (84 : UInt8), (72 : UInt8)], [(67 : UInt8), (111 : UInt8), (110 : UInt8), (110 : UInt8), (101 : UInt8), (99 : UInt8), (116 : UInt8), (105 : UInt8), (111 : UInt8), (110 : UInt8)], [(66 : UInt8)], [(116 : UInt8), (114 : UInt8), (97 : UInt8), (110 : UInt8), (115 : UInt8), (102 : UInt8), (101 : UInt8), (114 : UInt8), (45 : UInt8), (101 : UInt8), (110 : UInt8), (99 : UInt8), (111 : UInt8), (100 : UInt8), (105 : UInt8), (110 : UInt8), (103 : UInt8)]].getD (((0 : Nat) + ((↑(UInt8.toNat (l.getD i.toNat (0 : UInt8))) : Int).tmod (5 : Int)).toNat) * (1 : Nat)) [] ++ [(58 : UInt8), (32 : UInt8)]).length + y1.length) : Int) ≤ (9223372036854775807 : Int)) <| .chk ((↑((want ++ [[(65 : UInt8)], [(99 : UInt8), (111 : UInt8), (110 : UInt8), (116 : UInt8), (101 : UInt8), (110 : UInt8), (116 : UInt8), (45 : UInt8), (76 : UInt8), (69 : UInt8), (78 : UInt8), (71 : UInt8), (84 : UInt8), (72 : UInt8)], [(67 : UInt8), (111 : UInt8), (110 : UInt8), (110 : UInt8), (101 : UInt8), (99 : UInt8), (116 : UInt8), (105 : UInt8), (111 : UInt8), (110 : UInt8)], [(66 : UInt8)], [(116 : UInt8), (114 : UInt8), (97 : UInt8), (110 : UInt8), (115 : UInt8), (102 : UInt8), (101 : UInt8), (114 : UInt8), (45 : UInt8), (101 : UInt8), (110 : UInt8), (99 : UInt8), (111 : UInt8), (100 : UInt8), (105 : UInt8), (110 : UInt8), (103 : UInt8)]].getD (((0 : Nat) + ((↑(UInt8.toNat (l.getD i.toNat (0 : UInt8))) : Int).tmod (5 : Int)).toNat) * (1 : Nat)) [] ++ [(58 : UInt8), (32 : UInt8)] ++ y1).length + [(13 : UInt8), (10 : UInt8)].length) : Int) ≤ (9223372036854775807 : Int)) <| .chk ((0 : Nat) = (0 : Nat) ∧ Fields.length + (1 : Nat) = (List.take Fields.length (List.drop (0 : Nat) Fields) ++ List.take (1 : Nat) (List.drop (0 : Nat) [([[(65 : UInt8)], [(99 : UInt8), (111 : UInt8), (110 : UInt8), (116 : UInt8), (101 : UInt8), (110 : UInt8), (116 : UInt8), (45 : UInt8), (76 : UInt8), (69 : UInt8), (78 : UInt8), (71 : UInt8), (84 : UInt8), (72 : UInt8)], [(67 : UInt8), (111 : UInt8), (110 : UInt8), (110 : UInt8), (101 : UInt8), (99 : UInt8), (116 : UInt8), (105 : UInt8), (111 : UInt8), (110 : UInt8)], [(66 : UInt8)], [(116 : UInt8), (114 : UInt8), (97 : UInt8), (110 : UInt8), (115 : UInt8), (102 : UInt8), (101 : UInt8), (114 : UInt8), (45 : UInt8), (101 : UInt8), (110 : UInt8), (99 : UInt8), (111 : UInt8), (100 : UInt8), (105 : UInt8), (110 : UInt8), (103 : UInt8)]].getD (((0 : Nat) + ((↑(UInt8.toNat (l.getD i.toNat (0 : UInt8))) : Int).tmod (5 : Int)).toNat) * (1 : Nat)) [], y1)])).length) <| .ret (.inl (List.take Fields.length (List.drop (0 : Nat) Fields) ++ List.take (1 : Nat) (List.drop (0 : Nat) [([[(65 : UInt8)], [(99 : UInt8), (111 : UInt8), (110 : UInt8), (116 : UInt8), (101 : UInt8), (110 : UInt8), (116 : UInt8), (45 : UInt8), (76 : UInt8), (69 : UInt8), (78 : UInt8), (71 : UInt8), (84 : UInt8), (72 : UInt8)], [(67 : UInt8), (111 : UInt8), (110 : UInt8), (110 : UInt8), (101 : UInt8), (99 : UInt8), (116 : UInt8), (105 : UInt8), (111 : UInt8), (110 : UInt8)], [(66 : UInt8)], [(116 : UInt8), (114 : UInt8), (97 : UInt8), (110 : UInt8), (115 : UInt8), (102 : UInt8), (101 : UInt8), (114 : UInt8), (45 : UInt8), (101 : UInt8), (110 : UInt8), (99 : UInt8), (111 : UInt8), (100 : UInt8), (105 : UInt8), (110 : UInt8), (103 : UInt8)]].getD (((0 : Nat) + ((↑(UInt8.toNat (l.getD i.toNat (0 : UInt8))) : Int).tmod (5 : Int)).toNat) * (1 : Nat)) [], y1)]), want ++ [[(65 : UInt8)], [(99 : UInt8), (111 : UInt8), (110 : UInt8), (116 : UInt8), (101 : UInt8), (110 : UInt8), (116 : UInt8), (45 : UInt8), (76 : UInt8), (69 : UInt8), (78 : UInt8), (71 : UInt8), (84 : UInt8), (72 : UInt8)], [(67 : UInt8), (111 : UInt8), (110 : UInt8), (110 : UInt8), (101 : UInt8), (99 : UInt8), (116 : UInt8), (105 : UInt8), (111 : UInt8), (110 : UInt8)], [(66 : UInt8)], [(116 : UInt8), (114 : UInt8), (97 : UInt8), (110 : UInt8), (115 : UInt8), (102 : UInt8), (101 : UInt8), (114 : UInt8), (45 : UInt8), (101 : UInt8), (110 : UInt8), (99 : UInt8), (111 : UInt8), (100 : UInt8), (105 : UInt8), (110 : UInt8), (103 : UInt8)]].getD (((0 : Nat) + ((↑(UInt8.toNat (l.getD i.toNat (0 : UInt8))) : Int).tmod (5 : Int)).toNat) * (1 : Nat)) [] ++ [(58 : UInt8), (32 : UInt8)] ++ y1 ++ [(13 : UInt8), (10 : UInt8)], IntKind.i64.wrap (i + (1 : Int)))))
    (.chk ((0 : Nat) = (0 : Nat) ∧ Fields.length + (1 : Nat) = (List.take Fields.length (List.drop (0 : Nat) Fields) ++ List.take (1 : Nat) (List.drop (0 : Nat) [([[(65 : UInt8)], [(99 : UInt8), (111 : UInt8), (110 : UInt8), (116 : UInt8), (101 : UInt8), (110 : UInt8), (116 : UInt8), (45 : UInt8), (76 : UInt8), (69 : UInt8), (78 : UInt8), (71 : UInt8), (84 : UInt8), (72 : UInt8)], [(67 : UInt8), (111 : UInt8), (110 : UInt8), (110 : UInt8), (101 : UInt8), (99 : UInt8), (116 : UInt8), (105 : UInt8), (111 : UInt8), (110 : UInt8)], [(66 : UInt8)], [(116 : UInt8), (114 : UInt8), (97 : UInt8), (110 : UInt8), (115 : UInt8), (102 : UInt8), (101 : UInt8), (114 : UInt8), (45 : UInt8), (101 : UInt8), (110 : UInt8), (99 : UInt8), (111 : UInt8), (100 : UInt8), (105 : UInt8), (110 : UInt8), (103 : UInt8)]].getD (((0 : Nat) + ((↑(UInt8.toNat (l.getD i.toNat (0 : UInt8))) : Int).tmod (5 : Int)).toNat) * (1 : Nat)) [], y1)])).length) <| .ret (.inl (List.take Fields.length (List.drop (0 : Nat) Fields) ++ List.take (1 : Nat) (List.drop (0 : Nat) [([[(65 : UInt8)], [(99 : UInt8), (111 : UInt8), (110 : UInt8), (116 : UInt8), (101 : UInt8), (110 : UInt8), (116 : UInt8), (45 : UInt8), (76 : UInt8), (69 : UInt8), (78 : UInt8), (71 : UInt8), (84 : UInt8), (72 : UInt8)], [(67 : UInt8), (111 : UInt8), (110 : UInt8), (110 : UInt8), (101 : UInt8), (99 : UInt8), (116 : UInt8), (105 : UInt8), (111 : UInt8), (110 : UInt8)], [(66 : UInt8)], [(116 : UInt8), (114 : UInt8), (97 : UInt8), (110 : UInt8), (115 : UInt8), (102 : UInt8), (101 : UInt8), (114 : UInt8), (45 : UInt8), (101 : UInt8), (110 : UInt8), (99 : UInt8), (111 : UInt8), (100 : UInt8), (105 : UInt8), (110 : UInt8), (103 : UInt8)]].getD (((0 : Nat) + ((↑(UInt8.toNat (l.getD i.toNat (0 : UInt8))) : Int).tmod (5 : Int)).toNat) * (1 : Nat)) [], y1)]), want, IntKind.i64.wrap (i + (1 : Int)))))))))))
 (.okl Fields.length <| .ret (.inr (Fields, want)))
def f (Fields : List (List UInt8 × List UInt8)) (l : List UInt8) (want : List UInt8) (i : Int) : Option ((List (List UInt8 × List UInt8)) × List UInt8) := Loop (fun z : (List (List UInt8 × List UInt8)) × List UInt8 × Int => t z.1 l z.2.1 z.2.2) (Fields, want, i)
def F (x : D.den) : Option ((List (List UInt8 × List UInt8)) × List UInt8) := f x.1.2.1 x.2.2.2.2.1 x.2.2.2.2.2.2.1 x.2.2.2.2.2.2.2
def pa : D.den → ((List (List UInt8 × List UInt8)) × List UInt8) → A.den := fun (((Code, (_, Body)), (_, _)), (body, (head, (closes, (_, (_, (_, _))))))) (y1, y2) => (((Code, ((), Body)), (y1, ())), (body, (head, (closes, ((), y2)))))
def lap : Lap := tlap 8 126 [1, 2, 3, 4, 11, 12, 13] D (.exit 0) [1, 2, 3, 11, 12] A pa F
def pk (x : D.den) (z : (List (List UInt8 × List UInt8)) × List UInt8 × Int) : D.den := (((x.1.1.1, ((), x.1.1.2.2)), (z.1, ())), (x.2.1, (x.2.2.1, (x.2.2.2.1, (x.2.2.2.2.1, ((), (z.2.1, z.2.2)))))))
def un (x : D.den) : (List (List UInt8 × List UInt8)) × List UInt8 × Int := (x.1.2.1, x.2.2.2.2.2.2.1, x.2.2.2.2.2.2.2)
def body (x : D.den) (z : (List (List UInt8 × List UInt8)) × List UInt8 × Int) : Tr (((List (List UInt8 × List UInt8)) × List UInt8 × Int) ⊕ ((List (List UInt8 × List UInt8)) × List UInt8)) := t z.1 x.2.2.2.2.1 z.2.1 z.2.2
theorem ok : LapOk Tryz.prog 0 (codeOf Tryz.prog 4) lap := tlap_ok Base.mixed Base.prog_ok bk_law27_known_ok (by kernel_rfl) (by kernel_rfl) LapsOk.nil 9 pk un body (fun _ _ => rfl) (fun _ _ => rfl) (fun _ _ => rfl) (fun _ => rfl) fun _ _ _ _ => (by kernel_rfl)
end L8
def A : Dom := ⟨[], .bool⟩
def sel : List Nat := [0, 1, 2, 3, 4]
set_option maxHeartbeats 4000000 in
def t (code : Int) (body : List UInt8) (head : Bool) (closes : Bool) (l : List UInt8) : Tr (Bool) :=
 .call (law27_known.f) fun y1 =>
 .br (!y1) (.ret false)
 (.br (decide ((↑body.length : Int) > (60 : Int))) (.ret true)
  (.br (decide ((↑l.length : Int) > (6 : Int))) (.ret true)
  (.call (help_Place.f code (400 : Int)) fun y2 =>
   .call (ref1_Put.f (IntKind.i64.wrap ((200 : Int) + y2))) fun y3 =>
   .chk ((↑([(72 : UInt8), (84 : UInt8), (84 : UInt8), (80 : UInt8), (47 : UInt8), (49 : UInt8), (46 : UInt8), (49 : UInt8), (32 : UInt8)].length + y3.length) : Int) ≤ (9223372036854775807 : Int)) <| .chk ((↑(([(72 : UInt8), (84 : UInt8), (84 : UInt8), (80 : UInt8), (47 : UInt8), (49 : UInt8), (46 : UInt8), (49 : UInt8), (32 : UInt8)] ++ y3).length + [(32 : UInt8)].length) : Int) ≤ (9223372036854775807 : Int)) <| .call (reply_Reason.f (IntKind.i64.wrap ((200 : Int) + y2))) fun y4 =>
   .chk ((↑(([(72 : UInt8), (84 : UInt8), (84 : UInt8), (80 : UInt8), (47 : UInt8), (49 : UInt8), (46 : UInt8), (49 : UInt8), (32 : UInt8)] ++ y3 ++ [(32 : UInt8)]).length + y4.length) : Int) ≤ (9223372036854775807 : Int)) <| .chk ((↑(([(72 : UInt8), (84 : UInt8), (84 : UInt8), (80 : UInt8), (47 : UInt8), (49 : UInt8), (46 : UInt8), (49 : UInt8), (32 : UInt8)] ++ y3 ++ [(32 : UInt8)] ++ y4).length + [(13 : UInt8), (10 : UInt8)].length) : Int) ≤ (9223372036854775807 : Int)) <| .call (law27_ReplyFrames.L8.f [] l ([(72 : UInt8), (84 : UInt8), (84 : UInt8), (80 : UInt8), (47 : UInt8), (49 : UInt8), (46 : UInt8), (49 : UInt8), (32 : UInt8)] ++ y3 ++ [(32 : UInt8)] ++ y4 ++ [(13 : UInt8), (10 : UInt8)]) (0 : Int)) fun (y5a, y5b) =>
   .br (IntKind.i64.wrap ((200 : Int) + y2) == (204 : Int)) (.br closes (.chk ((↑(y5b.length + [(67 : UInt8), (111 : UInt8), (110 : UInt8), (110 : UInt8), (101 : UInt8), (99 : UInt8), (116 : UInt8), (105 : UInt8), (111 : UInt8), (110 : UInt8), (58 : UInt8), (32 : UInt8), (99 : UInt8), (108 : UInt8), (111 : UInt8), (115 : UInt8), (101 : UInt8), (13 : UInt8), (10 : UInt8)].length) : Int) ≤ (9223372036854775807 : Int)) <| .chk ((↑((y5b ++ [(67 : UInt8), (111 : UInt8), (110 : UInt8), (110 : UInt8), (101 : UInt8), (99 : UInt8), (116 : UInt8), (105 : UInt8), (111 : UInt8), (110 : UInt8), (58 : UInt8), (32 : UInt8), (99 : UInt8), (108 : UInt8), (111 : UInt8), (115 : UInt8), (101 : UInt8), (13 : UInt8), (10 : UInt8)]).length + [(13 : UInt8), (10 : UInt8)].length) : Int) ≤ (9223372036854775807 : Int)) <| .br (!head) (.chk ((0 : Nat) + y5a.length ≤ y5a.length) <| .call (reply_Put.f (List.take y5a.length (List.drop (0 : Nat) y5a)) body (IntKind.i64.wrap ((200 : Int) + y2)) head closes) fun y6 =>
    .chk ((0 : Nat) + y6.length ≤ y6.length) <| .ret (List.take y6.length (List.drop (0 : Nat) y6) == y5b ++ [(67 : UInt8), (111 : UInt8), (110 : UInt8), (110 : UInt8), (101 : UInt8), (99 : UInt8), (116 : UInt8), (105 : UInt8), (111 : UInt8), (110 : UInt8), (58 : UInt8), (32 : UInt8), (99 : UInt8), (108 : UInt8), (111 : UInt8), (115 : UInt8), (101 : UInt8), (13 : UInt8), (10 : UInt8)] ++ [(13 : UInt8), (10 : UInt8)]))
    (.chk ((0 : Nat) + y5a.length ≤ y5a.length) <| .call (reply_Put.f (List.take y5a.length (List.drop (0 : Nat) y5a)) body (IntKind.i64.wrap ((200 : Int) + y2)) head closes) fun y7 =>
    .chk ((0 : Nat) + y7.length ≤ y7.length) <| .ret (List.take y7.length (List.drop (0 : Nat) y7) == y5b ++ [(67 : UInt8), (111 : UInt8), (110 : UInt8), (110 : UInt8), (101 : UInt8), (99 : UInt8), (116 : UInt8), (105 : UInt8), (111 : UInt8), (110 : UInt8), (58 : UInt8), (32 : UInt8), (99 : UInt8), (108 : UInt8), (111 : UInt8), (115 : UInt8), (101 : UInt8), (13 : UInt8), (10 : UInt8)] ++ [(13 : UInt8), (10 : UInt8)])))
   (.chk ((↑(y5b.length + [(13 : UInt8), (10 : UInt8)].length) : Int) ≤ (9223372036854775807 : Int)) <| .br (!head) (.chk ((0 : Nat) + y5a.length ≤ y5a.length) <| .call (reply_Put.f (List.take y5a.length (List.drop (0 : Nat) y5a)) body (IntKind.i64.wrap ((200 : Int) + y2)) head closes) fun y8 =>
    .chk ((0 : Nat) + y8.length ≤ y8.length) <| .ret (List.take y8.length (List.drop (0 : Nat) y8) == y5b ++ [(13 : UInt8), (10 : UInt8)]))
    (.chk ((0 : Nat) + y5a.length ≤ y5a.length) <| .call (reply_Put.f (List.take y5a.length (List.drop (0 : Nat) y5a)) body (IntKind.i64.wrap ((200 : Int) + y2)) head closes) fun y9 =>
    .chk ((0 : Nat) + y9.length ≤ y9.length) <| .ret (List.take y9.length (List.drop (0 : Nat) y9) == y5b ++ [(13 : UInt8), (10 : UInt8)]))))
   (.br (!IntKind.i64.wrap ((200 : Int) + y2) == (304 : Int)) (.chk ((↑(y5b.length + [(67 : UInt8), (111 : UInt8), (110 : UInt8), (116 : UInt8), (101 : UInt8), (110 : UInt8), (116 : UInt8), (45 : UInt8), (76 : UInt8), (101 : UInt8), (110 : UInt8), (103 : UInt8), (116 : UInt8), (104 : UInt8), (58 : UInt8), (32 : UInt8)].length) : Int) ≤ (9223372036854775807 : Int)) <| .call (ref1_Put.f (↑body.length : Int)) fun y10 =>
    .chk ((↑((y5b ++ [(67 : UInt8), (111 : UInt8), (110 : UInt8), (116 : UInt8), (101 : UInt8), (110 : UInt8), (116 : UInt8), (45 : UInt8), (76 : UInt8), (101 : UInt8), (110 : UInt8), (103 : UInt8), (116 : UInt8), (104 : UInt8), (58 : UInt8), (32 : UInt8)]).length + y10.length) : Int) ≤ (9223372036854775807 : Int)) <| .chk ((↑((y5b ++ [(67 : UInt8), (111 : UInt8), (110 : UInt8), (116 : UInt8), (101 : UInt8), (110 : UInt8), (116 : UInt8), (45 : UInt8), (76 : UInt8), (101 : UInt8), (110 : UInt8), (103 : UInt8), (116 : UInt8), (104 : UInt8), (58 : UInt8), (32 : UInt8)] ++ y10).length + [(13 : UInt8), (10 : UInt8)].length) : Int) ≤ (9223372036854775807 : Int)) <| .br closes (.chk ((↑((y5b ++ [(67 : UInt8), (111 : UInt8), (110 : UInt8), (116 : UInt8), (101 : UInt8), (110 : UInt8), (116 : UInt8), (45 : UInt8), (76 : UInt8), (101 : UInt8), (110 : UInt8), (103 : UInt8), (116 : UInt8), (104 : UInt8), (58 : UInt8), (32 : UInt8)] ++ y10 ++ [(13 : UInt8), (10 : UInt8)]).length + [(67 : UInt8), (111 : UInt8), (110 : UInt8), (110 : UInt8), (101 : UInt8), (99 : UInt8), (116 : UInt8), (105 : UInt8), (111 : UInt8), (110 : UInt8), (58 : UInt8), (32 : UInt8), (99 : UInt8), (108 : UInt8), (111 : UInt8), (115 : UInt8), (101 : UInt8), (13 : UInt8), (10 : UInt8)].length) : Int) ≤ (9223372036854775807 : Int)) <| .chk ((↑((y5b ++ [(67 : UInt8), (111 : UInt8), (110 : UInt8), (116 : UInt8), (101 : UInt8), (110 : UInt8), (116 : UInt8), (45 : UInt8), (76 : UInt8), (101 : UInt8), (110 : UInt8), (103 : UInt8), (116 : UInt8), (104 : UInt8), (58 : UInt8), (32 : UInt8)] ++ y10 ++ [(13 : UInt8), (10 : UInt8)] ++ [(67 : UInt8), (111 : UInt8), (110 : UInt8), (110 : UInt8), (101 : UInt8), (99 : UInt8), (116 : UInt8), (105 : UInt8), (111 : UInt8), (110 : UInt8), (58 : UInt8), (32 : UInt8), (99 : UInt8), (108 : UInt8), (111 : UInt8), (115 : UInt8), (101 : UInt8), (13 : UInt8), (10 : UInt8)]).length + [(13 : UInt8), (10 : UInt8)].length) : Int) ≤ (9223372036854775807 : Int)) <| .br (!head) (.br (!IntKind.i64.wrap ((200 : Int) + y2) == (304 : Int)) (.chk ((↑((y5b ++ [(67 : UInt8), (111 : UInt8), (110 : UInt8), (116 : UInt8), (101 : UInt8), (110 : UInt8), (116 : UInt8), (45 : UInt8), (76 : UInt8), (101 : UInt8), (110 : UInt8), (103 : UInt8), (116 : UInt8), (104 : UInt8), (58 : UInt8), (32 : UInt8)] ++ y10 ++ [(13 : UInt8), (10 : UInt8)] ++ [(67 : UInt8), (111 : UInt8), (110 : UInt8), (110 : UInt8), (101 : UInt8), (99 : UInt8), (116 : UInt8), (105 : UInt8), (111 : UInt8), (110 : UInt8), (58 : UInt8), (32 : UInt8), (99 : UInt8), (108 : UInt8), (111 : UInt8), (115 : UInt8), (101 : UInt8), (13 : UInt8), (10 : UInt8)] ++ [(13 : UInt8), (10 : UInt8)]).length + body.length) : Int) ≤ (9223372036854775807 : Int)) <| .chk ((0 : Nat) + y5a.length ≤ y5a.length) <| .call (reply_Put.f (List.take y5a.length (List.drop (0 : Nat) y5a)) body (IntKind.i64.wrap ((200 : Int) + y2)) head closes) fun y11 =>
     .chk ((0 : Nat) + y11.length ≤ y11.length) <| .ret (List.take y11.length (List.drop (0 : Nat) y11) == y5b ++ [(67 : UInt8), (111 : UInt8), (110 : UInt8), (116 : UInt8), (101 : UInt8), (110 : UInt8), (116 : UInt8), (45 : UInt8), (76 : UInt8), (101 : UInt8), (110 : UInt8), (103 : UInt8), (116 : UInt8), (104 : UInt8), (58 : UInt8), (32 : UInt8)] ++ y10 ++ [(13 : UInt8), (10 : UInt8)] ++ [(67 : UInt8), (111 : UInt8), (110 : UInt8), (110 : UInt8), (101 : UInt8), (99 : UInt8), (116 : UInt8), (105 : UInt8), (111 : UInt8), (110 : UInt8), (58 : UInt8), (32 : UInt8), (99 : UInt8), (108 : UInt8), (111 : UInt8), (115 : UInt8), (101 : UInt8), (13 : UInt8), (10 : UInt8)] ++ [(13 : UInt8), (10 : UInt8)] ++ body))
     (.chk ((0 : Nat) + y5a.length ≤ y5a.length) <| .call (reply_Put.f (List.take y5a.length (List.drop (0 : Nat) y5a)) body (IntKind.i64.wrap ((200 : Int) + y2)) head closes) fun y12 =>
     .chk ((0 : Nat) + y12.length ≤ y12.length) <| .ret (List.take y12.length (List.drop (0 : Nat) y12) == y5b ++ [(67 : UInt8), (111 : UInt8), (110 : UInt8), (116 : UInt8), (101 : UInt8), (110 : UInt8), (116 : UInt8), (45 : UInt8), (76 : UInt8), (101 : UInt8), (110 : UInt8), (103 : UInt8), (116 : UInt8), (104 : UInt8), (58 : UInt8), (32 : UInt8)] ++ y10 ++ [(13 : UInt8), (10 : UInt8)] ++ [(67 : UInt8), (111 : UInt8), (110 : UInt8), (110 : UInt8), (101 : UInt8), (99 : UInt8), (116 : UInt8), (105 : UInt8), (111 : UInt8), (110 : UInt8), (58 : UInt8), (32 : UInt8), (99 : UInt8), (108 : UInt8), (111 : UInt8), (115 : UInt8), (101 : UInt8), (13 : UInt8), (10 : UInt8)] ++ [(13 : UInt8), (10 : UInt8)])))
    (.chk ((0 : Nat) + y5a.length ≤ y5a.length) <| .call (reply_Put.f (List.take y5a.length (List.drop (0 : Nat) y5a)) body (IntKind.i64.wrap ((200 : Int) + y2)) head closes) fun y13 =>
     .chk ((0 : Nat) + y13.length ≤ y13.length) <| .ret (List.take y13.length (List.drop (0 : Nat) y13) == y5b ++ [(67 : UInt8), (111 : UInt8), (110 : UInt8), (116 : UInt8), (101 : UInt8), (110 : UInt8), (116 : UInt8), (45 : UInt8), (76 : UInt8), (101 : UInt8), (110 : UInt8), (103 : UInt8), (116 : UInt8), (104 : UInt8), (58 : UInt8), (32 : UInt8)] ++ y10 ++ [(13 : UInt8), (10 : UInt8)] ++ [(67 : UInt8), (111 : UInt8), (110 : UInt8), (110 : UInt8), (101 : UInt8), (99 : UInt8), (116 : UInt8), (105 : UInt8), (111 : UInt8), (110 : UInt8), (58 : UInt8), (32 : UInt8), (99 : UInt8), (108 : UInt8), (111 : UInt8), (115 : UInt8), (101 : UInt8), (13 : UInt8), (10 : UInt8)] ++ [(13 : UInt8), (10 : UInt8)])))
    (.chk ((↑((y5b ++ [(67 : UInt8), (111 : UInt8), (110 : UInt8), (116 : UInt8), (101 : UInt8), (110 : UInt8), (116 : UInt8), (45 : UInt8), (76 : UInt8), (101 : UInt8), (110 : UInt8), (103 : UInt8), (116 : UInt8), (104 : UInt8), (58 : UInt8), (32 : UInt8)] ++ y10 ++ [(13 : UInt8), (10 : UInt8)]).length + [(13 : UInt8), (10 : UInt8)].length) : Int) ≤ (9223372036854775807 : Int)) <| .br (!head) (.br (!IntKind.i64.wrap ((200 : Int) + y2) == (304 : Int)) (.chk ((↑((y5b ++ [(67 : UInt8), (111 : UInt8), (110 : UInt8), (116 : UInt8), (101 : UInt8), (110 : UInt8), (116 : UInt8), (45 : UInt8), (76 : UInt8), (101 : UInt8), (110 : UInt8), (103 : UInt8), (116 : UInt8), (104 : UInt8), (58 : UInt8), (32 : UInt8)] ++ y10 ++ [(13 : UInt8), (10 : UInt8)] ++ [(13 : UInt8), (10 : UInt8)]).length + body.length) : Int) ≤ (9223372036854775807 : Int)) <| .chk ((0 : Nat) + y5a.length ≤ y5a.length) <| .call (reply_Put.f (List.take y5a.length (List.drop (0 : Nat) y5a)) body (IntKind.i64.wrap ((200 : Int) + y2)) head closes) fun y14 =>
     .chk ((0 : Nat) + y14.length ≤ y14.length) <| .ret (List.take y14.length (List.drop (0 : Nat) y14) == y5b ++ [(67 : UInt8), (111 : UInt8), (110 : UInt8), (116 : UInt8), (101 : UInt8), (110 : UInt8), (116 : UInt8), (45 : UInt8), (76 : UInt8), (101 : UInt8), (110 : UInt8), (103 : UInt8), (116 : UInt8), (104 : UInt8), (58 : UInt8), (32 : UInt8)] ++ y10 ++ [(13 : UInt8), (10 : UInt8)] ++ [(13 : UInt8), (10 : UInt8)] ++ body))
     (.chk ((0 : Nat) + y5a.length ≤ y5a.length) <| .call (reply_Put.f (List.take y5a.length (List.drop (0 : Nat) y5a)) body (IntKind.i64.wrap ((200 : Int) + y2)) head closes) fun y15 =>
     .chk ((0 : Nat) + y15.length ≤ y15.length) <| .ret (List.take y15.length (List.drop (0 : Nat) y15) == y5b ++ [(67 : UInt8), (111 : UInt8), (110 : UInt8), (116 : UInt8), (101 : UInt8), (110 : UInt8), (116 : UInt8), (45 : UInt8), (76 : UInt8), (101 : UInt8), (110 : UInt8), (103 : UInt8), (116 : UInt8), (104 : UInt8), (58 : UInt8), (32 : UInt8)] ++ y10 ++ [(13 : UInt8), (10 : UInt8)] ++ [(13 : UInt8), (10 : UInt8)])))
    (.chk ((0 : Nat) + y5a.length ≤ y5a.length) <| .call (reply_Put.f (List.take y5a.length (List.drop (0 : Nat) y5a)) body (IntKind.i64.wrap ((200 : Int) + y2)) head closes) fun y16 =>
     .chk ((0 : Nat) + y16.length ≤ y16.length) <| .ret (List.take y16.length (List.drop (0 : Nat) y16) == y5b ++ [(67 : UInt8), (111 : UInt8), (110 : UInt8), (116 : UInt8), (101 : UInt8), (110 : UInt8), (116 : UInt8), (45 : UInt8), (76 : UInt8), (101 : UInt8), (110 : UInt8), (103 : UInt8), (116 : UInt8), (104 : UInt8), (58 : UInt8), (32 : UInt8)] ++ y10 ++ [(13 : UInt8), (10 : UInt8)] ++ [(13 : UInt8), (10 : UInt8)]))))
   (.br closes (.chk ((↑(y5b.length + [(67 : UInt8), (111 : UInt8), (110 : UInt8), (110 : UInt8), (101 : UInt8), (99 : UInt8), (116 : UInt8), (105 : UInt8), (111 : UInt8), (110 : UInt8), (58 : UInt8), (32 : UInt8), (99 : UInt8), (108 : UInt8), (111 : UInt8), (115 : UInt8), (101 : UInt8), (13 : UInt8), (10 : UInt8)].length) : Int) ≤ (9223372036854775807 : Int)) <| .chk ((↑((y5b ++ [(67 : UInt8), (111 : UInt8), (110 : UInt8), (110 : UInt8), (101 : UInt8), (99 : UInt8), (116 : UInt8), (105 : UInt8), (111 : UInt8), (110 : UInt8), (58 : UInt8), (32 : UInt8), (99 : UInt8), (108 : UInt8), (111 : UInt8), (115 : UInt8), (101 : UInt8), (13 : UInt8), (10 : UInt8)]).length + [(13 : UInt8), (10 : UInt8)].length) : Int) ≤ (9223372036854775807 : Int)) <| .br (!head) (.br (!IntKind.i64.wrap ((200 : Int) + y2) == (304 : Int)) (.chk ((↑((y5b ++ [(67 : UInt8), (111 : UInt8), (110 : UInt8), (110 : UInt8), (101 : UInt8), (99 : UInt8), (116 : UInt8), (105 : UInt8), (111 : UInt8), (110 : UInt8), (58 : UInt8), (32 : UInt8), (99 : UInt8), (108 : UInt8), (111 : UInt8), (115 : UInt8), (101 : UInt8), (13 : UInt8), (10 : UInt8)] ++ [(13 : UInt8), (10 : UInt8)]).length + body.length) : Int) ≤ (9223372036854775807 : Int)) <| .chk ((0 : Nat) + y5a.length ≤ y5a.length) <| .call (reply_Put.f (List.take y5a.length (List.drop (0 : Nat) y5a)) body (IntKind.i64.wrap ((200 : Int) + y2)) head closes) fun y17 =>
     .chk ((0 : Nat) + y17.length ≤ y17.length) <| .ret (List.take y17.length (List.drop (0 : Nat) y17) == y5b ++ [(67 : UInt8), (111 : UInt8), (110 : UInt8), (110 : UInt8), (101 : UInt8), (99 : UInt8), (116 : UInt8), (105 : UInt8), (111 : UInt8), (110 : UInt8), (58 : UInt8), (32 : UInt8), (99 : UInt8), (108 : UInt8), (111 : UInt8), (115 : UInt8), (101 : UInt8), (13 : UInt8), (10 : UInt8)] ++ [(13 : UInt8), (10 : UInt8)] ++ body))
     (.chk ((0 : Nat) + y5a.length ≤ y5a.length) <| .call (reply_Put.f (List.take y5a.length (List.drop (0 : Nat) y5a)) body (IntKind.i64.wrap ((200 : Int) + y2)) head closes) fun y18 =>
     .chk ((0 : Nat) + y18.length ≤ y18.length) <| .ret (List.take y18.length (List.drop (0 : Nat) y18) == y5b ++ [(67 : UInt8), (111 : UInt8), (110 : UInt8), (110 : UInt8), (101 : UInt8), (99 : UInt8), (116 : UInt8), (105 : UInt8), (111 : UInt8), (110 : UInt8), (58 : UInt8), (32 : UInt8), (99 : UInt8), (108 : UInt8), (111 : UInt8), (115 : UInt8), (101 : UInt8), (13 : UInt8), (10 : UInt8)] ++ [(13 : UInt8), (10 : UInt8)])))
    (.chk ((0 : Nat) + y5a.length ≤ y5a.length) <| .call (reply_Put.f (List.take y5a.length (List.drop (0 : Nat) y5a)) body (IntKind.i64.wrap ((200 : Int) + y2)) head closes) fun y19 =>
     .chk ((0 : Nat) + y19.length ≤ y19.length) <| .ret (List.take y19.length (List.drop (0 : Nat) y19) == y5b ++ [(67 : UInt8), (111 : UInt8), (110 : UInt8), (110 : UInt8), (101 : UInt8), (99 : UInt8), (116 : UInt8), (105 : UInt8), (111 : UInt8), (110 : UInt8), (58 : UInt8), (32 : UInt8), (99 : UInt8), (108 : UInt8), (111 : UInt8), (115 : UInt8), (101 : UInt8), (13 : UInt8), (10 : UInt8)] ++ [(13 : UInt8), (10 : UInt8)])))
    (.chk ((↑(y5b.length + [(13 : UInt8), (10 : UInt8)].length) : Int) ≤ (9223372036854775807 : Int)) <| .br (!head) (.br (!IntKind.i64.wrap ((200 : Int) + y2) == (304 : Int)) (.chk ((↑((y5b ++ [(13 : UInt8), (10 : UInt8)]).length + body.length) : Int) ≤ (9223372036854775807 : Int)) <| .chk ((0 : Nat) + y5a.length ≤ y5a.length) <| .call (reply_Put.f (List.take y5a.length (List.drop (0 : Nat) y5a)) body (IntKind.i64.wrap ((200 : Int) + y2)) head closes) fun y20 =>
     .chk ((0 : Nat) + y20.length ≤ y20.length) <| .ret (List.take y20.length (List.drop (0 : Nat) y20) == y5b ++ [(13 : UInt8), (10 : UInt8)] ++ body))
     (.chk ((0 : Nat) + y5a.length ≤ y5a.length) <| .call (reply_Put.f (List.take y5a.length (List.drop (0 : Nat) y5a)) body (IntKind.i64.wrap ((200 : Int) + y2)) head closes) fun y21 =>
     .chk ((0 : Nat) + y21.length ≤ y21.length) <| .ret (List.take y21.length (List.drop (0 : Nat) y21) == y5b ++ [(13 : UInt8), (10 : UInt8)])))
    (.chk ((0 : Nat) + y5a.length ≤ y5a.length) <| .call (reply_Put.f (List.take y5a.length (List.drop (0 : Nat) y5a)) body (IntKind.i64.wrap ((200 : Int) + y2)) head closes) fun y22 =>
     .chk ((0 : Nat) + y22.length ≤ y22.length) <| .ret (List.take y22.length (List.drop (0 : Nat) y22) == y5b ++ [(13 : UInt8), (10 : UInt8)]))))))))
def f (code : Int) (body : List UInt8) (head : Bool) (closes : Bool) (l : List UInt8) : Option (Bool) := (t code body head closes l).val
def F (x : D.den) : Option (Bool) := f x.2.1 x.2.2.1 x.2.2.2.1 x.2.2.2.2.1 x.2.2.2.2.2
def pa : D.den → (Bool) → A.den := fun (_, (_, (_, (_, (_, _))))) y1 => ((), y1)
def con : Con := tcon D A pa F
theorem ok : ConOk Tryz.prog 4 con := tcon_ok Base.mixed Base.prog_ok bk_law27_known_ok (by kernel_rfl) (.cons L8.ok (by kernel_rfl) (.nil)) 9 (fun _ => rfl) (fun x => t x.2.1 x.2.2.1 x.2.2.2.1 x.2.2.2.2.1 x.2.2.2.2.2) (fun _ => rfl) fun _ _ _ => (by kernel_rfl)
theorem law_ok (h : ∀ x, (lawCon [(.int .i64), (.sl .byte), .bool, .bool, (.sl .byte)]).pre x → F x = some true) : ConOk Tryz.prog 4 (lawCon [(.int .i64), (.sl .byte), .bool, .bool, (.sl .byte)]) := Go.Vx.law_ok ok h
end law27_ReplyFrames
end Go.Vx
end
section
set_option linter.unusedVariables false
set_option linter.unusedSimpArgs false
namespace Go.Vx
theorem w64 {n : Int} (h0 : -9223372036854775808 ≤ n) (h1 : n < 9223372036854775808) : IntKind.i64.wrap n = n := by
 simp only [IntKind.wrap, IntKind.signed, IntKind.bits, if_true]
 simp
 omega
theorem wS {k : Nat} (h : k < 4611686018427387904) : IntKind.i64.wrap ((k : Int) + 1) = ((k + 1 : Nat) : Int) := by rw [w64 (by omega) (by omega)]; omega
theorem in_rng {k n : Nat} (h : k < n) : (0 : Int) ≤ (k : Int) ∧ (k : Int) < (n : Int) := by omega
theorem Tr.val_chk {α : Type} {p : Prop} [Decidable p] {a : Tr α} (h : p) : (Tr.chk p a).val = a.val := if_pos h
theorem Tr.val_call {α β : Type} {o : Option β} {k : β → Tr α} {y : β} (h : o = some y) : (Tr.call o k).val = (k y).val := by subst h; rfl
def foldE {α A ρ : Type} (step : A → α → A ⊕ ρ) (fin : A → ρ) : A → List α → ρ
 | a, [] => fin a
 | a, c :: l => match step a c with
  | .inl a' => foldE step fin a' l
  | .inr r => r
theorem iter_list {α A σ ρ : Type} {body : σ → Tr (σ ⊕ ρ)} (s : List α) (st : Nat → A → σ) (inv : Nat → A → Prop) (step : A → α → A ⊕ ρ) (fin : A → ρ)
  (hs : ∀ (k : Nat) (a : A) (c : α), inv k a → (hk : k < s.length) → s[k]'hk = c → (body (st k a)).val = some (match step a c with
   | .inl a' => .inl (st (k + 1) a')
   | .inr r => .inr r) ∧ ∀ a', step a c = .inl a' → inv (k + 1) a')
  (he : ∀ a, inv s.length a → (body (st s.length a)).val = some (.inr (fin a))) :
  ∀ (n k : Nat) (a : A), inv k a → k ≤ s.length → s.length - k < n → iter body n (st k a) = some (foldE step fin a (s.drop k)) := by
 intro n
 induction n with
 | zero => intro k a _ _ h; omega
 | succ n ih =>
  intro k a hi hk hn
  rw [iter]
  by_cases hl : k < s.length
  ·obtain ⟨h1, h2⟩ := hs k a _ hi hl rfl
   rw [h1, List.drop_eq_getElem_cons hl, foldE]
   cases e : step a s[k] with
   | inr r => rfl
   | inl a' => exact ih (k + 1) a' (h2 a' e) (by omega) (by omega)
  ·have hkl : k = s.length := by omega
   subst hkl
   rw [he a hi, List.drop_length, foldE]
theorem Loop_list {α A σ ρ : Type} {body : σ → Tr (σ ⊕ ρ)} (s : List α) (st : Nat → A → σ) (inv : Nat → A → Prop) (step : A → α → A ⊕ ρ) (fin : A → ρ)
  (hs : ∀ (k : Nat) (a : A) (c : α), inv k a → (hk : k < s.length) → s[k]'hk = c → (body (st k a)).val = some (match step a c with
   | .inl a' => .inl (st (k + 1) a')
   | .inr r => .inr r) ∧ ∀ a', step a c = .inl a' → inv (k + 1) a')
  (he : ∀ a, inv s.length a → (body (st s.length a)).val = some (.inr (fin a))) (hn : s.length < 1125899906842624) {a : A} (hi : inv 0 a) {s0 : σ} (h0 : s0 = st 0 a) : Loop body s0 = some (foldE step fin a s) := by
 subst h0
 have := iter_list s st inv step fin hs he rounds 0 a hi (Nat.zero_le _) (by unfold rounds; omega)
 rw [List.drop_zero] at this
 exact this
theorem getD_nat {α : Type} {s : List α} {k : Nat} {c : α} {d : α} (hk : k < s.length) (hc : s[k]'hk = c) : s.getD k d = c := by
 rw [List.getD_eq_getElem?_getD, List.getElem?_eq_getElem hk, hc]; rfl
theorem getD_at {α : Type} {s : List α} {k : Nat} {c : α} {d : α} (hk : k < s.length) (hc : s[k]'hk = c) : s.getD (k : Int).toNat d = c := by
 rw [Int.toNat_natCast, List.getD_eq_getElem?_getD, List.getElem?_eq_getElem hk, hc]; rfl
end Go.Vx
end
section
set_option linter.unusedVariables false
set_option linter.unusedSimpArgs false
set_option maxRecDepth 100000
namespace Go.Vx
namespace Pl
theorem all256 {p : UInt8 → Bool} (h : ((List.range 256).all fun n => p (UInt8.ofNat n)) = true) (c : UInt8) : p c = true := by
 have := List.all_eq_true.1 h c.toNat (List.mem_range.2 (UInt8.toNat_lt c))
 simpa using this
theorem byte_fn {α : Type} [DecidableEq α] {f : Int → Option α} {g : UInt8 → α} (h : ((List.range 256).all fun n => decide (f (((UInt8.ofNat n).toNat : Nat) : Int) = some (g (UInt8.ofNat n)))) = true) (c : UInt8) : f (c.toNat : Int) = some (g c) :=
 of_decide_eq_true (all256 (p := fun c => decide (f (c.toNat : Int) = some (g c))) h c)
def isLetter (c : UInt8) : Bool := (decide (97 ≤ c) && decide (c ≤ 122)) || (decide (65 ≤ c) && decide (c ≤ 90))
def isDigit (c : UInt8) : Bool := decide (48 ≤ c) && decide (c ≤ 57)
def isTok (c : UInt8) : Bool := isLetter c || isDigit c || [33, 35, 36, 37, 38, 39, 42, 43, 45, 46, 94, 95, 96, 124, 126].contains c
def isVis (c : UInt8) : Bool := decide (33 ≤ c) && decide (c ≤ 126)
def isBlank (c : UInt8) : Bool := c == 32 || c == 9
def isText (c : UInt8) : Bool := isVis c || isBlank c || decide (128 ≤ c)
def isHex (c : UInt8) : Bool := isDigit c || (decide (97 ≤ c) && decide (c ≤ 102)) || (decide (65 ≤ c) && decide (c ≤ 70))
def hexv (c : UInt8) : Nat := if isDigit c then c.toNat - 48 else if decide (97 ≤ c) && decide (c ≤ 102) then c.toNat - 87 else if decide (65 ≤ c) && decide (c ≤ 70) then c.toNat - 55 else 0
def lowerC (c : UInt8) : UInt8 := if decide (65 ≤ c) && decide (c ≤ 90) then c + 32 else c
def isKind (k : Int) (c : UInt8) : Bool := if k = 1 then isTok c else if k = 2 then isVis c else if k = 3 then isBlank c else if k = 4 then isDigit c else if k = 5 then isHex c else if k = 6 then isText c else false
def scan {α ρ : Type} (step : Nat → α → Option ρ) (fin : ρ) : Nat → List α → ρ
 | _, [] => fin
 | k, c :: l => match step k c with
  | none => scan step fin (k + 1) l
  | some r => r
theorem scan_foldE {α ρ : Type} (step : Nat → α → Option ρ) (fin : ρ) : ∀ (l : List α) (k : Nat), foldE (fun (a : Nat) c => match step a c with
  | none => .inl (a + 1)
  | some r => .inr r) (fun _ => fin) k l = scan step fin k l
 | [], _ => rfl
 | c :: l, k => by
  rw [foldE, scan]
  cases step k c with
  | none => exact scan_foldE step fin l (k + 1)
  | some r => rfl
theorem Loop_scan {α ρ : Type} {body : Int → Tr (Int ⊕ ρ)} (s : List α) (step : Nat → α → Option ρ) (fin : ρ)
  (hs : ∀ (k : Nat) (c : α), (hk : k < s.length) → s[k]'hk = c → (body (k : Int)).val = some (match step k c with
   | none => .inl ((k + 1 : Nat) : Int)
   | some r => .inr r)) (he : (body (s.length : Int)).val = some (.inr fin)) (hn : s.length < 1125899906842624) : Loop body 0 = some (scan step fin 0 s) := by
 rw [← scan_foldE]
 refine Loop_list s (fun k _ => (k : Int)) (fun k a => a = k) (fun a c => match step a c with
  | none => .inl (a + 1)
  | some r => .inr r) (fun _ => fin) (fun k a c hi hk hc => ?_) (fun a _ => he) hn rfl rfl
 subst hi
 rw [hs a c hk hc]
 cases step a c with
 | none => exact ⟨rfl, fun a' h => by cases h; rfl⟩
 | some r => exact ⟨rfl, fun a' h => by cases h⟩
theorem scan_all {α : Type} (p : α → Bool) : ∀ (l : List α) (k : Nat), scan (fun _ c => if p c = true then none else some (Sum.inr false : Unit ⊕ Bool)) (.inl ()) k l = if l.all p = true then .inl () else .inr false
 | [], _ => rfl
 | c :: l, k => by
  rw [scan]
  by_cases h : p c = true
  ·simp only [h, if_true, scan_all p l (k + 1), List.all_cons, Bool.true_and]
  ·simp only [h, List.all_cons]; rfl
theorem bif_ite {α : Type} (c : Bool) (a b : α) : (bif c then a else b) = if c = true then a else b := by cases c <;> rfl
theorem lt_nat {k n : Nat} : decide ((k : Int) < (n : Int)) = decide (k < n) := by simp
end Pl
end Go.Vx
end
section
set_option linter.unusedVariables false
set_option linter.unusedSimpArgs false
set_option maxRecDepth 100000
namespace Go.Vx
namespace Pl
open Go
theorem Loop_front {α : Type} {t : List α → Tr (List α ⊕ List α)} {p : α → Bool} {s : List α} (h0 : (t []).val = some (.inr [])) (hs : ∀ c l, l.length < s.length → (t (c :: l)).val = some (if p c = true then .inl l else .inr (c :: l))) (hn : s.length < 1125899906842624) : Loop t s = some (s.dropWhile p) := by
 have : ∀ (n : Nat) (z : List α), z.length < n → z.length ≤ s.length → iter t n z = some (z.dropWhile p) := by
  intro n
  induction n with
  | zero => intro z h; omega
  | succ n ih =>
   intro z h hz
   cases z with
   | nil => rw [iter, h0]; rfl
   | cons c l =>
    rw [iter, hs c l (by simp at hz; omega)]
    by_cases hc : p c = true
    ·simp only [hc, if_true, List.dropWhile_cons_of_pos]
     exact ih l (by simp at h; omega) (by simp at hz; omega)
    ·simp [hc, List.dropWhile_cons_of_neg]
 exact this rounds s (by unfold rounds; omega) (Nat.le_refl _)
def dropEnd {α : Type} (p : α → Bool) (l : List α) : List α := (l.reverse.dropWhile p).reverse
theorem dropEnd_snoc {α : Type} {p : α → Bool} (l : List α) (c : α) : dropEnd p (l ++ [c]) = if p c = true then dropEnd p l else l ++ [c] := by
 unfold dropEnd
 by_cases h : p c = true
 ·simp [h]
 ·simp [h]
theorem dropEnd_length {α : Type} {p : α → Bool} (l : List α) : (dropEnd p l).length ≤ l.length := by
 unfold dropEnd
 have := (List.dropWhile_sublist p (l := l.reverse)).length_le
 simpa using this
theorem Loop_end {α : Type} {t : List α → Tr (List α ⊕ List α)} {p : α → Bool} {s : List α} (h0 : (t []).val = some (.inr [])) (hs : ∀ l c, l.length < s.length → (t (l ++ [c])).val = some (if p c = true then .inl l else .inr (l ++ [c]))) (hn : s.length < 1125899906842624) : Loop t s = some (dropEnd p s) := by
 have : ∀ (n : Nat) (z : List α), z.length < n → z.length ≤ s.length → iter t n z = some (dropEnd p z) := by
  intro n
  induction n with
  | zero => intro z h; omega
  | succ n ih =>
   intro z h hz
   rcases List.eq_nil_or_concat z with rfl | ⟨l, c, rfl⟩
   ·rw [iter, h0]; rfl
   ·simp only [List.concat_eq_append, List.length_append, List.length_cons, List.length_nil] at h hz ⊢
    rw [iter, hs l c (by omega), dropEnd_snoc]
    by_cases hc : p c = true
    ·simp only [hc, if_true]
     exact ih l (by omega) (by omega)
    ·simp [hc]
 exact this rounds s (by unfold rounds; omega) (Nat.le_refl _)
def lower (s : List UInt8) : List UInt8 := s.map lowerC
def same (a b : List UInt8) : Bool := lower a == lower b
def trimP (p : UInt8 → Bool) (s : List UInt8) : List UInt8 := dropEnd p (s.dropWhile p)
def trim (s : List UInt8) : List UInt8 := trimP isBlank s
theorem trimP_length (p : UInt8 → Bool) (s : List UInt8) : (trimP p s).length ≤ s.length := by
 unfold trimP
 have h1 := dropEnd_length (p := p) (s.dropWhile p)
 have h2 := (List.dropWhile_sublist p (l := s)).length_le
 omega
def before (c : UInt8) (s : List UInt8) : List UInt8 := s.takeWhile (· != c)
def after (c : UInt8) (s : List UInt8) : List UInt8 := (s.dropWhile (· != c)).drop 1
def cutC (c : UInt8) (s : List UInt8) : List UInt8 × List UInt8 × Bool := if s.contains c = true then (before c s, after c s, true) else (s, [], false)
theorem indexByte_not {c : UInt8} : ∀ {s : List UInt8}, s.contains c = false → Lib.indexByte s c = -1
 | [], _ => rfl
 | x :: l, h => by
  simp only [List.contains_cons, Bool.or_eq_false_iff] at h
  have hx : (x == c) = false := by
   have := h.1
   simp only [beq_eq_false_iff_ne] at this ⊢
   exact fun e => this e.symm
  unfold Lib.indexByte
  rw [indexByte_not h.2, hx]
  simp
theorem indexByte_is {c : UInt8} : ∀ {s : List UInt8}, s.contains c = true → Lib.indexByte s c = ((before c s).length : Int)
 | [], h => by simp at h
 | x :: l, h => by
  unfold Lib.indexByte before
  by_cases hx : x = c
  ·subst hx; simp
  ·have h1 : (x == c) = false := by simpa using hx
   have h2 : l.contains c = true := by
    simp only [List.contains_cons, Bool.or_eq_true, beq_iff_eq] at h
    rcases h with h | h
    ·exact absurd h.symm hx
    ·exact h
   have ih := indexByte_is h2
   have h3 : (x != c) = true := by simp [bne, h1]
   rw [h1]
   simp only [List.takeWhile_cons, h3, if_true, List.length_cons]
   rw [ih]
   have h4 : (((before c l).length : Int) == -1) = false := by
    rw [beq_eq_false_iff_ne]; omega
   simp only [h4]
   simp [before]
theorem before_after {c : UInt8} : ∀ {s : List UInt8}, s.contains c = true → s = before c s ++ c :: after c s
 | [], h => by simp at h
 | x :: l, h => by
  unfold before after
  by_cases hx : x = c
  ·subst hx; simp
  ·have h1 : (x != c) = true := by simpa using hx
   have h2 : l.contains c = true := by
    simp only [List.contains_cons, Bool.or_eq_true, beq_iff_eq] at h
    rcases h with h | h
    ·exact absurd h.symm hx
    ·exact h
   have ih := before_after h2
   simp only [List.takeWhile_cons, List.dropWhile_cons, h1, if_true, List.cons_append]
   congr 1
theorem take_before {c : UInt8} {s : List UInt8} (h : s.contains c = true) : s.take (before c s).length = before c s := by
 refine (congrArg (List.take (before c s).length) (before_after h)).trans ?_
 simp
theorem drop_after {c : UInt8} {s : List UInt8} (h : s.contains c = true) : s.drop ((before c s).length + 1) = after c s := by
 refine (congrArg (List.drop ((before c s).length + 1)) (before_after h)).trans ?_
 simp
theorem before_len {c : UInt8} {s : List UInt8} (h : s.contains c = true) : (before c s).length + 1 + (after c s).length = s.length := by
 have := congrArg List.length (before_after h)
 simp at this
 omega
end Pl
end Go.Vx
end
section
set_option linter.unusedVariables false
set_option linter.unusedSimpArgs false
set_option maxRecDepth 100000
namespace Go.Vx
namespace Pl
open Go Go.Proofs
theorem octet_Digit_f (c : UInt8) : octet_Digit.f (c.toNat : Int) = some (isDigit c) := byte_fn (f := octet_Digit.f) (g := fun c => (isDigit c)) (by decide +kernel) c
theorem octet_Token_f (c : UInt8) : octet_Token.f (c.toNat : Int) = some (isTok c) := byte_fn (f := octet_Token.f) (g := fun c => (isTok c)) (by decide +kernel) c
theorem octet_Visible_f (c : UInt8) : octet_Visible.f (c.toNat : Int) = some (isVis c) := byte_fn (f := octet_Visible.f) (g := fun c => (isVis c)) (by decide +kernel) c
theorem octet_Blank_f (c : UInt8) : octet_Blank.f (c.toNat : Int) = some (isBlank c) := byte_fn (f := octet_Blank.f) (g := fun c => (isBlank c)) (by decide +kernel) c
theorem octet_Text_f (c : UInt8) : octet_Text.f (c.toNat : Int) = some (isText c) := byte_fn (f := octet_Text.f) (g := fun c => (isText c)) (by decide +kernel) c
theorem octet_Hex_f (c : UInt8) : octet_Hex.f (c.toNat : Int) = some ((hexv c : Int), isHex c) := byte_fn (f := octet_Hex.f) (g := fun c => ((hexv c : Int), isHex c)) (by decide +kernel) c
theorem octet_of_f (c : UInt8) (k : Int) : octet_of.f (c.toNat : Int) k = some (isKind k c) := by
 unfold octet_of.f octet_of.t isKind
 rw [octet_Token_f, octet_Visible_f, octet_Blank_f, octet_Digit_f, octet_Hex_f, octet_Text_f]
 simp only [Tr.val, bif_ite, beq_iff_eq]
 split <;> (try rfl) <;> split <;> (try rfl) <;> split <;> (try rfl) <;> split <;> (try rfl) <;> split <;> (try rfl) <;> split <;> rfl
theorem octet_All_L6 {kinds : List Int} {s : List UInt8} {i : Nat} {c : UInt8} (hi : i < s.length) (hc : s[i]'hi = c) (hn : kinds.length < 1125899906842624) : octet_All.L6.f kinds s (i : Int) false (kinds.length : Int) 0 = some (kinds.any fun k => isKind k c) := by
 unfold octet_All.L6.f
 refine (Loop_list (A := Bool) (ρ := Bool) (a := false) kinds (fun k a => (a, (k : Int))) (fun _ _ => True) (fun a k => .inl (a || isKind k c)) id ?_ ?_ hn trivial rfl).trans ?_
 ·intro k a kd _ hk hkc
  refine ⟨?_, fun _ _ => trivial⟩
  have hw := wS (k := k) (by omega)
  subst hkc hc
  cases a <;> simp [octet_All.L6.t, Tr.val, octet_of_f, in_rng hk, hw, hk, in_rng hi, hi]
 ·intro a _
  simp [octet_All.L6.t, Tr.val]
 ·congr 1
  have : ∀ (l : List Int) (a : Bool), foldE (fun a k => (Sum.inl (a || isKind k c) : Bool ⊕ Bool)) id a l = (a || l.any fun k => isKind k c) := by
   intro l
   induction l with
   | nil => intro a; simp [foldE]
   | cons k l ih => intro a; simp [foldE, ih, Bool.or_assoc]
  simpa using this kinds false
theorem octet_All_f {kinds : List Int} {s : List UInt8} (hk : kinds.length < 1125899906842624) (hn : s.length < 1125899906842624) : octet_All.f kinds s = some (s.all fun c => kinds.any fun k => isKind k c) := by
 have hL : octet_All.L2.f kinds s (s.length : Int) 0 = some (if (s.all fun c => kinds.any fun k => isKind k c) = true then .inl () else .inr false) := by
  unfold octet_All.L2.f
  refine (Loop_scan s (fun _ c => if (kinds.any fun k => isKind k c) = true then none else some (Sum.inr false : Unit ⊕ Bool)) (.inl ()) (fun k c hl hc => ?_) ?_ hn).trans (by rw [scan_all])
  ·have hw := wS (k := k) (by omega)
   by_cases h : (kinds.any fun k => isKind k c) = true
   ·simp [octet_All.L2.t, Tr.val, octet_All_L6 hl hc hk, h, hw, hl]
   ·have h' : (kinds.any fun k => isKind k c) = false := by simpa using h
    simp [octet_All.L2.t, Tr.val, octet_All_L6 hl hc hk, h', hw, hl]
  ·simp [octet_All.L2.t, Tr.val]
 unfold octet_All.f octet_All.t
 rw [hL]
 cases (s.all fun c => kinds.any fun k => isKind k c) <;> simp [Tr.val]
theorem kind1 (s : List UInt8) (k : Int) : (s.all fun c => [k].any fun k => isKind k c) = s.all (isKind k) := by
 congr 1; funext c; simp
theorem octet_All1 {k : Int} {s : List UInt8} (hn : s.length < 1125899906842624) : octet_All.f [k] s = some (s.all (isKind k)) := by
 rw [octet_All_f (by simp) hn, kind1]
theorem trim_front {s : List UInt8} (hn : s.length < 1125899906842624) : text_trimmed_f_octet_Blank.L1.f s = some (s.dropWhile isBlank) := by
 unfold text_trimmed_f_octet_Blank.L1.f
 refine Loop_front (p := isBlank) ?_ ?_ hn
 ·simp [text_trimmed_f_octet_Blank.L1.t, Tr.val]
 ·intro c l _
  cases h : isBlank c <;> simp [text_trimmed_f_octet_Blank.L1.t, Tr.val, octet_Blank_f, h] <;> omega
theorem snoc_wrap {l : List UInt8} {c : UInt8} (hn : l.length < 1125899906842624) : IntKind.i64.wrap (((l ++ [c]).length : Int) - 1) = (l.length : Int) := by
 rw [List.length_append]
 simp only [List.length_cons, List.length_nil]
 rw [w64 (by omega) (by omega)]
 omega
theorem trim_end {s : List UInt8} (hn : s.length < 1125899906842624) : text_trimmed_f_octet_Blank.L3.f s = some (dropEnd isBlank s) := by
 unfold text_trimmed_f_octet_Blank.L3.f
 refine Loop_end (p := isBlank) ?_ ?_ hn
 ·simp [text_trimmed_f_octet_Blank.L3.t, Tr.val]
 ·intro l c hl
  have h1 := snoc_wrap (l := l) (c := c) (by omega)
  have h2 : ((l ++ [c]) == []) = false := by simp
  have h3 : (l ++ [c]).getD l.length 0 = c := by simp
  unfold text_trimmed_f_octet_Blank.L3.t
  rw [h1]
  simp only [Tr.val, h2, Int.toNat_natCast, h3, octet_Blank_f]
  cases h : isBlank c <;> simp <;> omega
theorem text_Trim_f {s : List UInt8} (hn : s.length < 1125899906842624) : text_Trim.f s = some (trim s) := by
 unfold text_Trim.f text_Trim.t text_trimmed_f_octet_Blank.f text_trimmed_f_octet_Blank.t trim trimP
 rw [trim_front hn]
 have := (List.dropWhile_sublist isBlank (l := s)).length_le
 simp only [Tr.val, trim_end (s := List.dropWhile isBlank s) (by omega)]
theorem lower_set {s : List UInt8} {k : Nat} (hk : k < s.length) (b : UInt8) : ((s.take k).map lowerC ++ s.drop k).set k b = (s.take k).map lowerC ++ b :: s.drop (k + 1) := by
 rw [List.set_append_right _ _ (by simp; omega)]
 have e : k - ((s.take k).map lowerC).length = 0 := by simp; omega
 rw [e, List.drop_eq_getElem_cons hk]
 rfl
theorem lower_next {s : List UInt8} {k : Nat} (hk : k < s.length) : (s.take (k + 1)).map lowerC ++ s.drop (k + 1) = (s.take k).map lowerC ++ lowerC s[k] :: s.drop (k + 1) := by
 rw [List.take_add_one, List.getElem?_eq_getElem hk, List.map_append, List.append_assoc]
 rfl
theorem lower_at {s : List UInt8} {k : Nat} (hk : k < s.length) : ((s.take k).map lowerC ++ s.drop k).getD k 0 = s[k] := by
 rw [List.getD_eq_getElem?_getD, List.getElem?_append_right (by simp; omega)]
 simp [Nat.min_eq_left (Nat.le_of_lt hk), hk]
theorem lower_len {s : List UInt8} {k : Nat} (hk : k ≤ s.length) : ((s.take k).map lowerC ++ s.drop k).length = s.length := by
 simp; omega
theorem lower_byte (c : UInt8) (h1 : (c.toNat : Int) ≥ 65) (h2 : (c.toNat : Int) ≤ 90) : IntKind.u8.wrap (IntKind.u8.wrap ((c.toNat : Int) + 97) - 65) = ((c.toNat + 32 : Nat) : Int) ∧ UInt8.ofNat (c.toNat + 32) = lowerC c := by
 have := all256 (p := fun c => !(decide ((c.toNat : Int) ≥ 65) && decide ((c.toNat : Int) ≤ 90)) || (decide (IntKind.u8.wrap (IntKind.u8.wrap ((c.toNat : Int) + 97) - 65) = ((c.toNat + 32 : Nat) : Int)) && (UInt8.ofNat (c.toNat + 32) == lowerC c))) (by decide +kernel) c
 simpa [h1, h2] using this
theorem lower_not (c : UInt8) (h : ¬ ((c.toNat : Int) ≥ 65 ∧ (c.toNat : Int) ≤ 90)) : lowerC c = c := by
 have := all256 (p := fun c => (decide ((c.toNat : Int) ≥ 65) && decide ((c.toNat : Int) ≤ 90)) || (lowerC c == c)) (by decide +kernel) c
 simpa [h] using this
theorem text_Lower_f {s : List UInt8} (hn : s.length < 140737488355328) : text_Lower.f s = some (lower s) := by
 have hL : text_Lower.L3.f s (s.length : Int) 0 = some (lower s) := by
  unfold text_Lower.L3.f
  refine (Loop_list (A := Unit) (a := ()) s (fun k _ => ((s.take k).map lowerC ++ s.drop k, (k : Int))) (fun _ _ => True) (fun _ _ => .inl ()) (fun _ => lower s) ?_ ?_ (by omega) trivial (by simp)).trans ?_
  ·intro k a c _ hk hc
   refine ⟨?_, fun _ _ => trivial⟩
   subst hc
   have hw := wS (k := k) (by omega)
   have ha := lower_at hk
   have hl := lower_len (Nat.le_of_lt hk)
   unfold text_Lower.L3.t
   simp only [Int.toNat_natCast, Nat.zero_add, ha, hl, lt_nat, decide_eq_true hk, hw, lower_next hk]
   by_cases h1 : (s[k].toNat : Int) ≥ 65
   ·by_cases h2 : (s[k].toNat : Int) ≤ 90
    ·obtain ⟨q1, q2⟩ := lower_byte s[k] h1 h2
     rw [q1]
     simp only [Tr.val, h1, h2, decide_true, cond_true, Int.toNat_natCast, q2, lower_set hk, List.length_set, hl]
     simp [hk]
     omega
    ·have := lower_not s[k] (fun h => h2 h.2)
     simp only [Tr.val, h1, h2, decide_true, decide_false, cond_true, cond_false, this]
     simp [hk]
   ·have := lower_not s[k] (fun h => h1 h.1)
    simp only [Tr.val, h1, decide_true, decide_false, cond_true, cond_false, this]
    simp [hk]
  ·intro a _
   simp [text_Lower.L3.t, Tr.val, lower]
  ·have : ∀ (l : List UInt8), foldE (fun (_ : Unit) (_ : UInt8) => (Sum.inl () : Unit ⊕ List UInt8)) (fun _ => lower s) () l = lower s := by
    intro l
    induction l with
    | nil => rfl
    | cons c l ih => exact ih
   rw [this]
 unfold text_Lower.f text_Lower.t
 rw [List.nil_append, hL]
 simp [Tr.val]
 omega
theorem text_Same_f {a b : List UInt8} (ha : a.length < 140737488355328) (hb : b.length < 140737488355328) : text_Same.f a b = some (same a b) := by
 unfold text_Same.f text_Same.t
 rw [text_Lower_f ha, text_Lower_f hb]
 rfl
theorem indexByte_cases (c : UInt8) (s : List UInt8) : Lib.indexByte s c = if s.contains c = true then ((before c s).length : Int) else -1 := by
 by_cases h : s.contains c = true
 ·rw [if_pos h, indexByte_is h]
 ·rw [if_neg h, indexByte_not (by simpa using h)]
theorem take_all {α : Type} (l : List α) : List.take l.length (List.drop 0 l) = l := by simp
theorem slite_f (s : List UInt8) (c : UInt8) : slite_IndexByte.f s (c.toNat : Int) = some (if s.contains c = true then ((before c s).length : Int) else -1) := by
 unfold slite_IndexByte.f
 have : ((c.toNat : Int)).toNat.toUInt8 = c := by simp
 rw [this, indexByte_cases]
theorem before_one {c : UInt8} {s : List UInt8} (h : [c] = s) : s.contains c = true ∧ (before c s).length = 0 := by
 subst h; simp [before]
theorem index3a_f (s : List UInt8) : internal_stringslite_Index_sx3a.f s = some (if s.contains 58 = true then ((before 58 s).length : Int) else -1) := by
 unfold internal_stringslite_Index_sx3a.f internal_stringslite_Index_sx3a.t
 rw [show (58 : Int) = ((58 : UInt8).toNat : Int) from rfl, slite_f]
 by_cases h : [(58 : UInt8)] = s
 ·have := before_one h
  simp only [Tr.val, beq_iff_eq.2 h, cond_true, this.1, this.2, if_true]
  rfl
 ·simp [Tr.val, beq_eq_false_iff_ne.2 h]
def cutT (idx : Option Int) (s : List UInt8) : Tr (List UInt8 × List UInt8 × Bool) :=
 .call idx fun y1 =>
 .br (decide (y1 ≥ (0 : Int))) (.chk ((0 : Int) ≤ (0 : Int) ∧ (0 : Int) ≤ y1 ∧ y1 ≤ (↑s.length : Int)) <| .chk ((0 : Int) ≤ IntKind.i64.wrap (y1 + (1 : Int)) ∧ IntKind.i64.wrap (y1 + (1 : Int)) ≤ (↑s.length : Int) ∧ (↑s.length : Int) ≤ (↑s.length : Int)) <| .ret (List.drop (↑(0 : Nat) : Int).toNat (List.take y1.toNat s), List.drop (IntKind.i64.wrap (y1 + (1 : Int))).toNat (List.take (↑s.length : Int).toNat s), true))
 (.ret (s, [], false))
theorem cutT_f {c : UInt8} {s : List UInt8} (hn : s.length < 1125899906842624) : (cutT (some (if s.contains c = true then ((before c s).length : Int) else -1)) s).val = some (cutC c s) := by
 unfold cutC cutT
 by_cases h : s.contains c = true
 ·have hl := before_len h
  have hw := wS (k := (before c s).length) (by omega)
  simp only [if_pos h, Tr.val, hw, Int.toNat_natCast, take_before h]
  rw [if_pos (by omega), if_pos (by omega)]
  simp [drop_after h]
 ·simp only [if_neg h]
  simp [Tr.val]
theorem cut3a_f {s : List UInt8} (hn : s.length < 1125899906842624) : strings_Cut_sx3a.f s = some (cutC 58 s) := by
 have h1 : internal_stringslite_Cut_sx3a.f s = some (cutC 58 s) := by
  unfold internal_stringslite_Cut_sx3a.f
  show (cutT (internal_stringslite_Index_sx3a.f s) s).val = _
  rw [index3a_f, cutT_f hn]
 unfold strings_Cut_sx3a.f strings_Cut_sx3a.t
 rw [h1]; rfl
theorem vtrue {α : Type} (a b : Tr α) : (Tr.br true a b).val = a.val := rfl
theorem vfalse {α : Type} (a b : Tr α) : (Tr.br false a b).val = b.val := rfl
def idxV : Unit ⊕ Int → Int
 | .inl _ => -1
 | .inr j => j
def idxStep {α : Type} (p : α → Bool) (k : Nat) (c : α) : Option (Unit ⊕ Int) := if p c = true then some (.inr (k : Int)) else none
theorem idx_scan {α : Type} (p : α → Bool) : ∀ (l : List α) (k : Nat), idxV (scan (idxStep p) (.inl ()) k l) = if l.any p = true then ((k + l.findIdx p : Nat) : Int) else -1
 | [], _ => rfl
 | c :: l, k => by
  rw [scan, idxStep, List.any_cons, List.findIdx_cons]
  by_cases h : p c = true
  ·simp [h, idxV]
  ·have h' : p c = false := by simpa using h
   simp only [h', Bool.false_eq_true, if_false, Bool.false_or, cond_false]
   rw [idx_scan p l (k + 1)]
   split
   ·congr 1; omega
   ·rfl
theorem idx_ge {α : Type} (p : α → Bool) (l : List α) : decide (idxV (scan (idxStep p) (.inl ()) 0 l) ≥ 0) = l.any p := by
 rw [idx_scan]
 cases l.any p <;> simp
theorem idx_t (q : Unit ⊕ Int) {k : Unit → Tr Int} (hk : k () = .ret (-1)) : (Tr.both (some q) k (fun y => Tr.ret y)).val = some (idxV q) := by
 cases q with
 | inl u => cases u; show (k ()).val = _; rw [hk]; rfl
 | inr j => rfl
theorem before_app {c : UInt8} : ∀ {a b : List UInt8}, a.contains c = false → before c (a ++ c :: b) = a ∧ after c (a ++ c :: b) = b
 | [], b, _ => by simp [before, after]
 | x :: a, b, h => by
  have hx : x ≠ c := by intro e; subst e; simp at h
  have ha : a.contains c = false := by simp at h ⊢; exact h.2
  have := before_app (b := b) ha
  unfold before after at this ⊢
  simp [hx, this]
def fieldR (name value : List UInt8) : Bool := !(name == []) && name.all isTok && value.all isText && trim value == value
theorem kind_tok : ∀ s : List UInt8, s.all (isKind 1) = s.all isTok := fun s => by congr 1
theorem kind_text : ∀ s : List UInt8, s.all (isKind 6) = s.all isText := fun s => by congr 1
theorem fieldR_f {name value : List UInt8} (h1 : name.length ≤ 1000000) (h2 : value.length ≤ 1000000) : field_Right.f name value = some (fieldR name value) := by
 have hx : name ++ [(58 : UInt8)] ++ value = name ++ 58 :: value := by simp
 have hc : (name ++ 58 :: value).contains 58 = true := by simp
 have hout : field_out.f 0 12 = some ([], [], false, 400) := by decide +kernel
 unfold field_Right.f field_Right.t fieldR
 rw [Tr.val_chk (by simp; omega), Tr.val_chk (by simp; omega), hx, cut3a_f (by simp; omega), Tr.val_call rfl]
 unfold cutC
 rw [if_pos hc]
 have hl := before_len hc
 simp only [List.length_append, List.length_cons] at hl
 by_cases h58 : name.contains 58 = true
 ·have hb : (before 58 (name ++ 58 :: value) == name) = false := by
   rw [beq_eq_false_iff_ne]
   intro e
   have hn : (before 58 (name ++ 58 :: value)).contains 58 = false := by
    unfold before
    rw [List.contains_eq_any_beq, List.any_eq_false]
    intro x hx e
    have h3 := List.all_eq_true.1 (List.all_takeWhile (p := (· != (58 : UInt8))) (l := name ++ 58 :: value)) x hx
    rw [← beq_iff_eq.1 e] at h3
    simp at h3
   rw [e, h58] at hn
   cases hn
  have ht : name.all isTok = false := by
   rw [List.all_eq_false]
   exact ⟨58, by simpa using h58, by decide⟩
  rw [ht]
  simp only [Bool.not_true, vfalse]
  cases h0 : (before 58 (name ++ 58 :: value) == [])
  ·rw [vfalse, text_Trim_f (by omega), Tr.val_call rfl, octet_All1 (by omega), Tr.val_call rfl, octet_All1 (by have := trimP_length isBlank (after 58 (name ++ 58 :: value)); unfold trim; omega), hb]
   cases (before 58 (name ++ 58 :: value)).all (isKind 1) <;> cases (trim (after 58 (name ++ 58 :: value))).all (isKind 6) <;> simp [Tr.val]
  ·rw [vtrue, hout]
   simp [Tr.val]
 ·obtain ⟨q1, q2⟩ := before_app (b := value) (show name.contains 58 = false by simpa using h58)
  rw [q1, q2]
  simp only [Bool.not_true, vfalse]
  cases h0 : (name == [])
  ·rw [vfalse, text_Trim_f (by omega), Tr.val_call rfl, octet_All1 (by omega), Tr.val_call rfl, octet_All1 (by have := trimP_length isBlank value; unfold trim; omega), kind_tok, kind_text]
   cases ht : (trim value == value)
   ·cases name.all isTok <;> cases (trim value).all isText <;> simp [Tr.val, ht]
   ·have e : trim value = value := by simpa using ht
    rw [e]
    cases name.all isTok <;> cases value.all isText <;> simp [Tr.val]
  ·rw [vtrue, hout]
   simp [Tr.val]
theorem gather {α β : Type} (g : α → List β) : ∀ (l : List α) (out : List β), foldE (fun out x => (Sum.inl (out ++ g x) : List β ⊕ List β)) id out l = out ++ l.flatMap g
 | [], out => by simp [foldE]
 | x :: l, out => by
  show foldE (fun out x => (Sum.inl (out ++ g x) : List β ⊕ List β)) id (out ++ g x) l = _
  rw [gather g l]; simp
theorem vokl {α : Type} (n : Nat) (a : Tr α) : (Tr.okl n a).val = a.val := rfl
def FitF (l : List (List UInt8 × List UInt8)) : Prop := l.length ≤ 1000000 ∧ ∀ f ∈ l, f.1.length ≤ 1000000 ∧ f.2.length ≤ 1000000
theorem go_call {α β : Type} {o : Option β} {k : β → Tr α} {y : β} {r : Option α} (h : o = some y) (hk : (k y).val = r) : (Tr.call o k).val = r := by subst h; exact hk
theorem go_chk {α : Type} {p : Prop} [Decidable p] {a : Tr α} {r : Option α} (h : p) (hk : a.val = r) : (Tr.chk p a).val = r := by rw [Tr.val_chk h]; exact hk
theorem go_t {α : Type} {b : Bool} {x y : Tr α} {r : Option α} (h : b = true) (hk : x.val = r) : (Tr.br b x y).val = r := by subst h; exact hk
theorem go_f {α : Type} {b : Bool} {x y : Tr α} {r : Option α} (h : b = false) (hk : y.val = r) : (Tr.br b x y).val = r := by subst h; exact hk
end Pl
end Go.Vx
end
section
set_option linter.unusedVariables false
set_option linter.unusedSimpArgs false
set_option maxRecDepth 100000
namespace Go.Vx
namespace Pl
open Go Go.Proofs
abbrev Bs := List UInt8
abbrev Fs := List (List UInt8 × List UInt8)
theorem take_one {α : Type} (x : α) : List.take 1 [x] = [x] := rfl
theorem one_drop {α : Type} (x : α) : List.take 1 (List.drop 0 [x]) = [x] := rfl
theorem take_snoc {α : Type} (l : List α) (x : α) : List.take (l.length + 1) (l ++ [x]) = l ++ [x] := List.take_of_length_le (by simp)
theorem any_without {l : List Bs} {what : Bs} (hn : l.length < 1125899906842624) (hs : ∀ x ∈ l, x.length ≤ 1000000) (hw : what.length ≤ 1000000) : slices_ContainsFunc_f_text_Without_1.f l what = some (l.any fun x => same what x) := by
 have hL : slices_IndexFunc_f_text_Without_1.L2.f l what (l.length : Int) 0 = some (scan (idxStep fun x => same what x) (.inl ()) 0 l) := by
  unfold slices_IndexFunc_f_text_Without_1.L2.f
  refine Loop_scan l (idxStep fun x => same what x) (.inl ()) (fun k c hk hc => ?_) ?_ hn
  ·have hw' := wS (k := k) (by omega)
   have hcl := hs c (by rw [← hc]; exact List.getElem_mem hk)
   have f1 : text_Without_1.f what c = some (same what c) := by
    unfold text_Without_1.f text_Without_1.t
    rw [text_Same_f (by omega) (by omega)]; rfl
   unfold slices_IndexFunc_f_text_Without_1.L2.t idxStep
   simp only [Nat.zero_add, getD_at hk hc, f1, Tr.val, lt_nat, decide_eq_true hk, cond_true, hw']
   rw [if_pos (by omega), if_pos (by simpa using hk)]
   by_cases h : same what c = true
   ·simp only [h]; rfl
   ·have h' : same what c = false := by simpa using h
    simp only [h']; rfl
  ·simp [slices_IndexFunc_f_text_Without_1.L2.t, Tr.val]
 have hI : slices_IndexFunc_f_text_Without_1.f l what = some (idxV (scan (idxStep fun x => same what x) (.inl ()) 0 l)) := by
  unfold slices_IndexFunc_f_text_Without_1.f slices_IndexFunc_f_text_Without_1.t
  rw [hL]
  exact idx_t _ rfl
 unfold slices_ContainsFunc_f_text_Without_1.f slices_ContainsFunc_f_text_Without_1.t
 rw [take_all, hI, Tr.val_chk (by omega), Tr.val_call rfl, idx_ge]
 rfl
def withoutS (l : Fs) (names : List Bs) : Fs := l.filter fun f => !(names.any fun x => same f.1 x)
theorem foldE_filter {α : Type} (p : α → Bool) : ∀ (l out : List α), foldE (fun out x => (Sum.inl (out ++ if p x = true then [x] else []) : List α ⊕ List α)) id out l = out ++ l.filter p
 | [], out => by simp [foldE]
 | x :: l, out => by
  show foldE _ id (out ++ if p x = true then [x] else []) l = _
  rw [foldE_filter p l]
  cases h : p x <;> simp [h, List.filter_cons]
theorem without_f {l : Fs} {names : List Bs} (h : FitF l) (hn : names.length ≤ 1000000) (hs : ∀ x ∈ names, x.length ≤ 1000000) : text_Without.f l names = some (withoutS l names) := by
 have hlen := h.1
 have hL : text_Without.L3.f l names [] (l.length : Int) 0 = some (withoutS l names) := by
  unfold text_Without.L3.f
  refine (Loop_list (A := Fs) (a := []) l (fun k o => (o, (k : Int))) (fun k o => o.length ≤ k) (fun o x => .inl (o ++ if (!(names.any fun y => same x.1 y)) = true then [x] else [])) id ?_ ?_ (by omega) (by simp) rfl).trans ?_
  ·intro k o x ho hk hx
   have hw := wS (k := k) (by omega)
   have hx' := h.2 x (by rw [← hx]; exact List.getElem_mem hk)
   have hany := any_without (l := names) (what := x.1) (by omega) hs hx'.1
   refine ⟨?_, fun a' h => by cases h; split <;> simp <;> omega⟩
   unfold text_Without.L3.t
   dsimp only
   rw [hw]
   simp only [Nat.zero_add, getD_at hk hx]
   refine go_t (by rw [decide_eq_true_iff]; omega) (go_chk (by omega) (go_chk (by simpa using hk) (go_chk (Nat.le_refl _) ?_)))
   refine go_call (by rw [take_all]; exact hany) ?_
   cases hs' : names.any fun y => same x.1 y with
   | true =>
    refine go_f rfl ?_
    repeat rw [vokl]
    simp [Tr.val]
   | false =>
    refine go_t rfl ?_
    repeat (first
     | refine go_chk (by omega) ?_
     | refine go_chk (by simp; omega) ?_
     | refine go_chk (by simp) ?_
     | rw [vokl])
    simp [Tr.val]
  ·intro o _
   unfold text_Without.L3.t
   dsimp only
   exact go_f (by simp) rfl
  ·rw [foldE_filter]
   rfl
 unfold text_Without.f text_Without.t
 repeat rw [vokl]
 exact go_call hL rfl
def connB : Bs := [67, 111, 110, 110, 101, 99, 116, 105, 111, 110]
end Pl
end Go.Vx
end
section
set_option linter.unusedVariables false
set_option linter.unusedSimpArgs false
set_option maxRecDepth 100000
namespace Go.Vx
namespace Pl
open Go Go.Proofs
def lineF (f : Bs × Bs) : Bs := f.1 ++ [58, 32] ++ f.2 ++ [13, 10]
def putS (l : Fs) : Bs := l.flatMap lineF
theorem lineF_len (f : Bs × Bs) : (lineF f).length = f.1.length + f.2.length + 4 := by simp [lineF]; omega
theorem putS_len {l : Fs} {M : Nat} (h : ∀ f ∈ l, f.1.length + f.2.length + 4 ≤ M) : (putS l).length ≤ l.length * M := by
 induction l with
 | nil => simp [putS]
 | cons x l ih =>
  have := ih fun f hf => h f (List.mem_cons_of_mem _ hf)
  have hx := h x (List.mem_cons_self ..)
  show (lineF x ++ putS l).length ≤ _
  rw [List.length_append, lineF_len, List.length_cons, Nat.succ_mul]
  omega
theorem fieldPut_f {l : Fs} (h : l.length ≤ 10000) (hs : ∀ f ∈ l, f.1.length ≤ 1000000 ∧ f.2.length ≤ 1000000) : field_Put.f l = some (putS l) := by
 cases l with
 | nil =>
  unfold field_Put.f field_Put.t
  exact go_f (by simp) rfl
 | cons x r =>
  have hx := hs x (List.mem_cons_self ..)
  have hlen : (x :: r).length = r.length + 1 := List.length_cons
  have hL : field_Put.L3.f (x :: r) (lineF x) ((x :: r).length : Int) 1 = some (putS (x :: r)) := by
   have key : iter (fun z : Bs × Int => field_Put.L3.t (x :: r) z.1 ((x :: r).length : Int) z.2) rounds (lineF x, ((1 : Nat) : Int)) = some (foldE (fun (o : Bs) f => (Sum.inl (o ++ lineF f) : Bs ⊕ Bs)) id (lineF x) ((x :: r).drop 1)) := by
    refine iter_list (x :: r) (fun k (o : Bs) => (o, (k : Int))) (fun k o => o.length ≤ 3000000 * k) (fun o f => .inl (o ++ lineF f)) id ?_ ?_ rounds 1 (lineF x) (by rw [lineF_len]; omega) (by omega) (by unfold rounds; omega)
    ·intro k o f ho hk hf
     have hw := wS (k := k) (by omega)
     have hf' := hs f (by rw [← hf]; exact List.getElem_mem hk)
     have hll := lineF_len f
     refine ⟨?_, fun a' h => by cases h; rw [List.length_append, hll]; omega⟩
     unfold field_Put.L3.t
     dsimp only
     rw [hw]
     simp only [Nat.zero_add, getD_at hk hf]
     have e : f.1 ++ [58, 32] ++ f.2 ++ [13, 10] = lineF f := rfl
     simp only [e]
     refine go_t (by rw [decide_eq_true_iff]; omega) ?_
     repeat (first
      | refine go_chk (by omega) ?_
      | refine go_chk (by simp; omega) ?_
      | rw [vokl])
     simp [Tr.val]
    ·intro o _
     dsimp only
     unfold field_Put.L3.t
     exact go_f (by simp) rfl
   unfold field_Put.L3.f
   refine Eq.trans key ?_
   have g : ∀ (m : Fs) (o : Bs), foldE (fun (o : Bs) f => (Sum.inl (o ++ lineF f) : Bs ⊕ Bs)) id o m = o ++ putS m := fun m o => gather lineF m o
   rw [show (x :: r).drop 1 = r from rfl, g]
   rfl
  have hpl := putS_len (l := x :: r) (M := 2000004) fun f hf => by have := hs f hf; omega
  have hpos : 0 < (putS (x :: r)).length := by
   show 0 < (lineF x ++ putS r).length
   rw [List.length_append, lineF_len]; omega
  have hll := lineF_len x
  have e : ([] : Bs) ++ (x.1 ++ [58, 32] ++ x.2 ++ [13, 10]) = lineF x := rfl
  have e' : x.1 ++ [58, 32] ++ x.2 ++ [13, 10] = lineF x := rfl
  have hbig : (putS (x :: r)).length ≤ 140737488355328 := by rw [hlen] at hpl; omega
  unfold field_Put.f field_Put.t
  rw [show (x :: r).getD (0 : Nat) ([], []) = x from rfl]
  simp only [e']
  refine go_t (by simp) ?_
  repeat (first
   | refine go_chk (by omega) ?_
   | refine go_chk (by simp; omega) ?_
   | refine go_chk (by simp) ?_
   | rw [vokl])
  refine go_call hL ?_
  generalize putS (x :: r) = y at *
  repeat (first
   | refine go_chk (by omega) ?_
   | refine go_chk (by simp; omega) ?_
   | refine go_chk (by simp) ?_
   | rw [vokl])
  simp [Tr.val]
theorem any_right1 {l : Fs} {p : Bs × Bs → Bool} (hn : l.length < 1125899906842624) (hp : ∀ f ∈ l, reply_Right_1.f f.1 f.2 = some (p f)) : slices_ContainsFunc_f_reply_Right_1.f l = some (l.any p) := by
 have hL : slices_IndexFunc_f_reply_Right_1.L2.f l (l.length : Int) 0 = some (scan (idxStep p) (.inl ()) 0 l) := by
  unfold slices_IndexFunc_f_reply_Right_1.L2.f
  refine Loop_scan l (idxStep p) (.inl ()) (fun k c hk hc => ?_) ?_ hn
  ·have hw' := wS (k := k) (by omega)
   have f1 := hp c (by rw [← hc]; exact List.getElem_mem hk)
   unfold slices_IndexFunc_f_reply_Right_1.L2.t idxStep
   rw [hw']
   simp only [Nat.zero_add, getD_at hk hc]
   refine go_t (by rw [decide_eq_true_iff]; omega) (go_chk (by omega) (go_chk (by simpa using hk) (go_call f1 ?_)))
   by_cases h : p c = true
   ·rw [if_pos h]; exact go_t h rfl
   ·rw [if_neg h]; exact go_f (by simpa using h) rfl
  ·unfold slices_IndexFunc_f_reply_Right_1.L2.t
   exact go_f (by simp) rfl
 have hI : slices_IndexFunc_f_reply_Right_1.f l = some (idxV (scan (idxStep p) (.inl ()) 0 l)) := by
  unfold slices_IndexFunc_f_reply_Right_1.f slices_IndexFunc_f_reply_Right_1.t
  rw [hL]
  exact idx_t _ rfl
 unfold slices_ContainsFunc_f_reply_Right_1.f slices_ContainsFunc_f_reply_Right_1.t
 rw [take_all, hI, Tr.val_chk (by omega), Tr.val_call rfl, idx_ge]
 rfl
theorem any_right {l : Fs} (h : FitF l) : slices_ContainsFunc_f_reply_Right_1.f l = some (l.any fun f => !(fieldR f.1 f.2)) :=
 any_right1 (by have := h.1; omega) fun f hf => by
  have hcl := h.2 f hf
  unfold reply_Right_1.f reply_Right_1.t
  exact go_call (fieldR_f hcl.1 hcl.2) rfl
def rightS (F : Fs) (c : Int) : Bool := decide (200 ≤ c) && decide (c ≤ 599) && !(F.any fun f => !(fieldR f.1 f.2))
theorem replyRight_f {F : Fs} {c : Int} (h : FitF F) : reply_Right.f F c = some (rightS F c) := by
 have hlen := h.1
 have ha := any_right h
 unfold reply_Right.f reply_Right.t rightS
 by_cases h1 : 200 ≤ c
 ·rw [decide_eq_true h1]
  refine go_t rfl ?_
  by_cases h2 : c ≤ 599
  ·rw [decide_eq_true h2]
   refine go_t rfl ?_
   refine go_chk (by omega) (go_call (by rw [take_all]; exact ha) ?_)
   rfl
  ·rw [decide_eq_false h2]
   exact go_f rfl (by simp [Tr.val])
 ·rw [decide_eq_false h1]
  exact go_f rfl (by simp [Tr.val])
end Pl
end Go.Vx
end
section
set_option linter.unusedVariables false
set_option linter.unusedSimpArgs false
set_option maxRecDepth 100000
namespace Go.Vx
namespace Pl
open Go Go.Proofs
def clB : Bs := [67, 111, 110, 116, 101, 110, 116, 45, 76, 101, 110, 103, 116, 104]
def teB : Bs := [84, 114, 97, 110, 115, 102, 101, 114, 45, 69, 110, 99, 111, 100, 105, 110, 103]
def protoB : Bs := [72, 84, 84, 80, 47, 49, 46, 49, 32]
def closeB : Bs := [99, 108, 111, 115, 101]
def hopN : List Bs := [clB, teB, connB]
theorem take_snoc2 {α : Type} (l : List α) (x y : α) : List.take (l.length + 1 + 1) (l ++ [x] ++ [y]) = l ++ [x] ++ [y] := List.take_of_length_le (by simp)
theorem take_app {α : Type} (a b : List α) : List.take (a.length + b.length) (a ++ b) = a ++ b := List.take_of_length_le (by simp)
def noneS (c : Int) : Bool := (c == 204) || (c == 304)
set_option maxHeartbeats 4000000 in
theorem put_aux {F L : Fs} {body A B N q1 q2 q3 q4 : Bs} {c : Int} {head closes : Bool} (hR : reply_Right.f F c = some true) (hW : text_Without.f F hopN = some L) (hA : number_Put.f c = some A) (hN : number_Put.f (body.length : Int) = some N)
  (hB : reply_Reason.f c = some B) (h1 : field_Put.f L = some q1) (h2 : field_Put.f (L ++ [(clB, N)]) = some q2) (h3 : field_Put.f (L ++ [(connB, closeB)]) = some q3) (h4 : field_Put.f (L ++ [(clB, N)] ++ [(connB, closeB)]) = some q4)
  (lA : A.length ≤ 10) (lB : B.length ≤ 100) (lb : body.length ≤ 1000) (lL : L.length ≤ 1000000) (lF : F.length ≤ 1000000) (k1 : q1.length ≤ 10000000000) (k2 : q2.length ≤ 10000000000) (k3 : q3.length ≤ 10000000000) (k4 : q4.length ≤ 10000000000) :
  reply_Put.f F body c head closes = some (protoB ++ A ++ [32] ++ B ++ [13, 10] ++ (if noneS c = true then (if closes = true then q3 else q1) else (if closes = true then q4 else q2)) ++ [13, 10] ++ (if (noneS c || head) = true then [] else body)) := by
 have hc : ([67, 111, 110, 110, 101, 99, 116, 105, 111, 110] : Bs) = connB := rfl
 have hcl : ([67, 111, 110, 116, 101, 110, 116, 45, 76, 101, 110, 103, 116, 104] : Bs) = clB := rfl
 have hte : ([84, 114, 97, 110, 115, 102, 101, 114, 45, 69, 110, 99, 111, 100, 105, 110, 103] : Bs) = teB := rfl
 have hcb : ([99, 108, 111, 115, 101] : Bs) = closeB := rfl
 have hpr : ([72, 84, 84, 80, 47, 49, 46, 49, 32] : Bs) = protoB := rfl
 have hho : [clB, teB, connB] = hopN := rfl
 have lp : protoB.length = 9 := rfl
 unfold reply_Put.f reply_Put.t noneS
 simp only [hc, hcl, hte, hcb, hpr, hho, Nat.zero_add, List.drop_zero, List.take_length, List.nil_append, Int.toNat_natCast, Nat.mul_one, take_one, take_snoc, take_snoc2, take_app]
 generalize (c == 204) = b1
 generalize (c == 304) = b2
 refine go_chk (Nat.le_refl _) (go_chk (Nat.le_refl _) (go_call hR (go_f rfl ?_)))
 generalize hopN = hop at hW ⊢
 generalize protoB = pr at lp ⊢
 generalize clB = cl at h2 h4 ⊢
 generalize connB = cn at h3 h4 ⊢
 generalize closeB = cb at h3 h4 ⊢
 cases b1 <;> cases b2 <;> cases head <;> cases closes <;>
  simp only [Bool.not_true, Bool.not_false, Bool.or_true, Bool.true_or, Bool.or_false, Bool.false_or, if_true, Bool.false_eq_true, if_false] <;>
  repeat' (first
   | rw [vtrue]
   | rw [vfalse]
   | rw [vokl]
   | with_reducible refine go_call hW ?_
   | with_reducible refine go_call hA ?_
   | with_reducible refine go_call hN ?_
   | with_reducible refine go_call hB ?_
   | with_reducible refine go_call h1 ?_
   | with_reducible refine go_call h2 ?_
   | with_reducible refine go_call h3 ?_
   | with_reducible refine go_call h4 ?_
   | with_reducible refine go_chk ?_ ?_
   | omega
   | exact ⟨trivial, trivial⟩
   | (simp only [List.length_append, List.length_cons, List.length_nil, lp]; omega)
   | (simp only [List.length_append, List.length_cons, List.length_nil, lp, true_and]; omega)
   | (show some _ = some _; simp only [List.append_assoc, List.append_nil]; done)
   | (show some _ = some _; simp [List.append_assoc]; done))
end Pl
end Go.Vx
end
section
set_option linter.unusedVariables false
set_option linter.unusedSimpArgs false
set_option maxRecDepth 100000
namespace Go.Vx
namespace Pl
open Go Go.Proofs
theorem go_two {α : Type} {d : Eqb α} {a b : Tr α} {y : α} (h1 : a.val = some y) (h2 : b.val = some y) : (@Tr.two α d a b).val = some y := by
 simp [Tr.val, h1, h2]
theorem go_twice {α : Type} {a : Tr α} {r : Option α} (h : a.val = r) : (Tr.twice a).val = r := h
theorem known_f : law27_known.f = some true := by decide +kernel
def pv (k : Nat) : Bs := match ref1_Put.f (k : Int) with
 | some y => y
 | none => []
theorem pv_all : ((List.range 600).all fun k => match ref1_Put.f (k : Int), number_Put.f (k : Int) with
 | some y, some z => (y == z) && decide (y.length ≤ 4)
 | _, _ => false) = true := by decide +kernel
theorem pv_f {k : Nat} (hk : k < 600) : ref1_Put.f (k : Int) = some (pv k) ∧ number_Put.f (k : Int) = some (pv k) ∧ (pv k).length ≤ 4 := by
 have := List.all_eq_true.1 pv_all k (List.mem_range.2 hk)
 unfold pv
 split at this
 ·rename_i y z hy hz
  simp only [Bool.and_eq_true, beq_iff_eq, decide_eq_true_eq] at this
  obtain ⟨rfl, h⟩ := this
  rw [hy]
  exact ⟨rfl, hz, h⟩
 ·cases this
def rs (c : Int) : Bs := ((getR tabR c).getD ⟨#[79, 116, 104, 101, 114]⟩).data.toList
theorem getR_in {n : Int} {s : ByteArray} : ∀ {l : List (Int × ByteArray)}, getR l n = some s → ∃ p ∈ l, p.2 = s
 | [], h => by cases h
 | p :: l, h => by
  unfold getR at h
  split at h
  ·exact ⟨p, List.mem_cons_self .., by simpa using h⟩
  ·obtain ⟨q, hq, e⟩ := getR_in h
   exact ⟨q, List.mem_cons_of_mem _ hq, e⟩
theorem tab_len : (tabR.all fun p => decide (p.2.data.toList.length ≤ 100)) = true := by decide +kernel
theorem rs_f (c : Int) : reply_Reason.f c = some (rs c) ∧ (rs c).length ≤ 100 := by
 refine ⟨rfl, ?_⟩
 unfold rs
 cases h : getR tabR c with
 | none => simp
 | some s =>
  obtain ⟨p, hp, rfl⟩ := getR_in h
  have := List.all_eq_true.1 tab_len p hp
  simpa using this
def nmk (r : Nat) : Bs := ([[65], [99, 111, 110, 116, 101, 110, 116, 45, 76, 69, 78, 71, 84, 72], [67, 111, 110, 110, 101, 99, 116, 105, 111, 110], [66], [116, 114, 97, 110, 115, 102, 101, 114, 45, 101, 110, 99, 111, 100, 105, 110, 103]] : List Bs).getD r []
def keep5 (f : Bs × Bs) : Bool := f.1 == [65] || f.1 == [66]
theorem nmk_all : ((List.range 5).all fun r => (List.range 7).all fun j => (keep5 (nmk r, pv j) == (decide (r = 0) || decide (r = 3))) && (keep5 (nmk r, pv j) == !(hopN.any fun x => same (nmk r) x)) && fieldR (nmk r) (pv j) && decide ((nmk r).length ≤ 20)) = true := by decide +kernel
theorem nmk_is {r j : Nat} (hr : r < 5) (hj : j < 7) : keep5 (nmk r, pv j) = (decide (r = 0) || decide (r = 3)) ∧ (keep5 (nmk r, pv j) = !(hopN.any fun x => same (nmk r) x)) ∧ fieldR (nmk r) (pv j) = true ∧ (nmk r).length ≤ 20 := by
 have := List.all_eq_true.1 (List.all_eq_true.1 nmk_all r (List.mem_range.2 hr)) j (List.mem_range.2 hj)
 simp only [Bool.and_eq_true, beq_iff_eq, decide_eq_true_eq] at this
 exact ⟨this.1.1.1, this.1.1.2, this.1.2, this.2⟩
def isF (f : Bs × Bs) : Prop := ∃ r j, r < 5 ∧ j < 7 ∧ f = (nmk r, pv j)
def addW (r j : Nat) : Bs := if r = 0 then lineF (nmk r, pv j) else if r = 3 then lineF (nmk r, pv j) else []
def stepF (a : Fs × Bs) (c : UInt8) : (Fs × Bs) ⊕ (Fs × Bs) := .inl (a.1 ++ [(nmk (c.toNat % 5), pv a.1.length)], a.2 ++ addW (c.toNat % 5) a.1.length)
theorem putS_app (a b : Fs) : putS (a ++ b) = putS a ++ putS b := by simp [putS]
theorem putS_one (f : Bs × Bs) : putS [f] = lineF f := by simp [putS]
theorem addW_len {r j : Nat} (hr : r < 5) (hj : j < 7) : (addW r j).length ≤ 30 := by
 have h1 := (nmk_is hr hj).2.2.2
 have h2 := (pv_f (k := j) (by omega)).2.2
 unfold addW
 split
 ·rw [lineF_len]; dsimp only; omega
 ·split
  ·rw [lineF_len]; dsimp only; omega
  ·simp
set_option maxHeartbeats 4000000 in
theorem loopF {l pre : Bs} (hl : l.length ≤ 6) (hp : pre.length ≤ 1000) : ∃ F, law27_ReplyFrames.L8.f [] l pre 0 = some (F, pre ++ putS (F.filter keep5)) ∧ F.length = l.length ∧ ∀ f ∈ F, isF f := by
 have key : law27_ReplyFrames.L8.f [] l pre 0 = some (foldE stepF id (([], pre) : Fs × Bs) l) := by
  unfold law27_ReplyFrames.L8.f
  refine Loop_list l (fun k (a : Fs × Bs) => (a.1, a.2, (k : Int))) (fun k a => a.1.length = k ∧ a.2.length ≤ 1000 + 30 * k) stepF id ?_ ?_ (by omega) ⟨rfl, by simpa using hp⟩ rfl
  ·intro k a c hi hk hc
   obtain ⟨F, W⟩ := a
   obtain ⟨hF, hW⟩ := hi
   dsimp only at hF hW
   have hw := wS (k := k) (by omega)
   have hpv := pv_f (k := k) (by omega)
   have hm : ((c.toNat : Nat) : Int).tmod 5 = ((c.toNat % 5 : Nat) : Int) := (Int.ofNat_tmod c.toNat 5).symm
   have h5 : c.toNat % 5 < 5 := Nat.mod_lt _ (by decide)
   have hnm := nmk_is (r := c.toNat % 5) (j := k) h5 (by omega)
   have hlen := hnm.2.2.2
   have hplen := hpv.2.2
   have hadd := addW_len (r := c.toNat % 5) (j := k) h5 (by omega)
   have hname : ([[65], [99, 111, 110, 116, 101, 110, 116, 45, 76, 69, 78, 71, 84, 72], [67, 111, 110, 110, 101, 99, 116, 105, 111, 110], [66], [116, 114, 97, 110, 115, 102, 101, 114, 45, 101, 110, 99, 111, 100, 105, 110, 103]] : List Bs).getD (c.toNat % 5) [] = nmk (c.toNat % 5) := rfl
   refine ⟨?_, fun a' ha => ?_⟩
   ·unfold law27_ReplyFrames.L8.t stepF
    dsimp only
    rw [hw]
    simp only [Int.toNat_natCast, getD_nat hk hc, hm, Nat.zero_add, Nat.mul_one, take_all, hname]
    refine go_t (by rw [decide_eq_true_iff]; omega) ?_
    rw [hF]
    by_cases h0 : c.toNat % 5 = 0
    ·have b0 : (((c.toNat % 5 : Nat) : Int) == 0) = true := by simp [h0]
     have hadd' : addW (c.toNat % 5) k = lineF (nmk (c.toNat % 5), pv k) := by unfold addW; rw [if_pos h0]
     rw [hadd']
     repeat' (first
      | with_reducible refine go_two ?_ ?_
      | with_reducible refine go_twice ?_
      | with_reducible refine go_call hpv.1 ?_
      | with_reducible refine go_t b0 ?_
      | with_reducible refine go_chk ?_ ?_
      | rw [vokl]
      | omega
      | (simp only [List.length_append, List.length_cons, List.length_nil]; omega)
      | (simp; done)
      | (simp; omega)
      | (show some _ = some _; simp only [one_drop, take_one, lineF, List.append_assoc, List.append_nil]; done))
    ·have b0 : (((c.toNat % 5 : Nat) : Int) == 0) = false := by simp; omega
     by_cases h3 : c.toNat % 5 = 3
     ·have b3 : (((c.toNat % 5 : Nat) : Int) == 3) = true := by simp [h3]
      have hadd' : addW (c.toNat % 5) k = lineF (nmk (c.toNat % 5), pv k) := by unfold addW; rw [if_neg h0, if_pos h3]
      rw [hadd']
      repeat' (first
       | with_reducible refine go_two ?_ ?_
       | with_reducible refine go_twice ?_
       | with_reducible refine go_call hpv.1 ?_
       | with_reducible refine go_f b0 ?_
       | with_reducible refine go_t b3 ?_
       | with_reducible refine go_chk ?_ ?_
       | rw [vokl]
       | omega
       | (simp only [List.length_append, List.length_cons, List.length_nil]; omega)
       | (simp; done)
       | (simp; omega)
       | (show some _ = some _; simp only [one_drop, take_one, lineF, List.append_assoc, List.append_nil]; done))
     ·have b3 : (((c.toNat % 5 : Nat) : Int) == 3) = false := by simp; omega
      have hadd' : addW (c.toNat % 5) k = [] := by unfold addW; rw [if_neg h0, if_neg h3]
      rw [hadd']
      repeat' (first
       | with_reducible refine go_two ?_ ?_
       | with_reducible refine go_twice ?_
       | with_reducible refine go_call hpv.1 ?_
       | with_reducible refine go_f b0 ?_
       | with_reducible refine go_f b3 ?_
       | with_reducible refine go_chk ?_ ?_
       | rw [vokl]
       | omega
       | (simp only [List.length_append, List.length_cons, List.length_nil]; omega)
       | (simp; done)
       | (simp; omega)
       | (show some _ = some _; simp only [one_drop, take_one, lineF, List.append_assoc, List.append_nil]; done))
   ·unfold stepF at ha
    cases ha
    exact ⟨by simp [hF], by dsimp only; rw [List.length_append, hF]; omega⟩
  ·intro a _
   unfold law27_ReplyFrames.L8.t
   dsimp only
   exact go_f (by simp) rfl
 have inv : ∀ (l : Bs) (k : Nat) (a : Fs × Bs), k + l.length ≤ 6 → (a.1.length = k ∧ a.2 = pre ++ putS (a.1.filter keep5) ∧ ∀ f ∈ a.1, isF f) →
   ((foldE stepF id a l).1.length = k + l.length ∧ (foldE stepF id a l).2 = pre ++ putS ((foldE stepF id a l).1.filter keep5) ∧ ∀ f ∈ (foldE stepF id a l).1, isF f) := by
  intro l
  induction l with
  | nil => intro k a _ h; exact h
  | cons c l ih =>
   intro k a hk h
   simp only [List.length_cons] at hk ⊢
   obtain ⟨F, W⟩ := a
   obtain ⟨h1, h2, h3⟩ := h
   dsimp only at h1 h2 h3
   have h5 : c.toNat % 5 < 5 := Nat.mod_lt _ (by decide)
   have hnm := (nmk_is (r := c.toNat % 5) (j := k) h5 (by omega)).1
   show (foldE stepF id (F ++ [(nmk (c.toNat % 5), pv F.length)], W ++ addW (c.toNat % 5) F.length) l).1.length = _ ∧ _
   rw [show k + (l.length + 1) = (k + 1) + l.length by omega]
   refine ih (k + 1) _ (by omega) ⟨by simp [h1], ?_, ?_⟩
   ·dsimp only
    rw [h1, h2, List.filter_append, putS_app, ← List.append_assoc]
    congr 1
    unfold addW
    by_cases e0 : c.toNat % 5 = 0
    ·have : keep5 (nmk (c.toNat % 5), pv k) = true := by rw [hnm, decide_eq_true e0]; rfl
     rw [if_pos e0, List.filter_cons, this]
     exact (putS_one _).symm
    ·rw [if_neg e0]
     by_cases e3 : c.toNat % 5 = 3
     ·have : keep5 (nmk (c.toNat % 5), pv k) = true := by rw [hnm, decide_eq_true e3, Bool.or_true]
      rw [if_pos e3, List.filter_cons, this]
      exact (putS_one _).symm
     ·have : keep5 (nmk (c.toNat % 5), pv k) = false := by rw [hnm, decide_eq_false e0, decide_eq_false e3]; rfl
      rw [if_neg e3, List.filter_cons, this]
      rfl
   ·intro f hf
    rcases List.mem_append.1 hf with hf | hf
    ·exact h3 f hf
    ·simp only [List.mem_cons, List.not_mem_nil, or_false] at hf
     subst hf
     exact ⟨_, k, h5, by omega, by rw [h1]⟩
 have := inv l 0 ([], pre) (by omega) ⟨rfl, by simp [putS], fun f hf => by simp at hf⟩
 rw [Nat.zero_add] at this
 refine ⟨_, ?_, this.1, this.2.2⟩
 rw [key, ← this.2.1]
theorem place_f (k : Int) : ∃ P : Nat, P < 400 ∧ help_Place.f k 400 = some (P : Int) := by
 unfold help_Place.f help_Place.t
 have hlt : k.tmod 400 < 400 := Int.tmod_lt_of_pos k (by decide)
 have hgt : -400 < k.tmod 400 := by
  have := Int.tmod_lt_of_pos (-k) (show (0 : Int) < 400 by decide)
  rw [Int.neg_tmod] at this
  omega
 generalize k.tmod 400 = m at *
 by_cases h : m < 0
 ·refine ⟨(m + 400).toNat, by omega, go_t (by rw [decide_eq_true_iff]; exact h) ?_⟩
  show some _ = some _
  rw [w64 (by omega) (by omega)]
  congr 1
  omega
 ·refine ⟨m.toNat, by omega, go_f (by rw [decide_eq_false_iff_not]; exact h) ?_⟩
  show some _ = some _
  congr 1
  omega
set_option maxHeartbeats 8000000 in
theorem frames_ok (code : Int) (body : Bs) (head closes : Bool) (l : Bs) : law27_ReplyFrames.f code body head closes l = some true := by
 unfold law27_ReplyFrames.f law27_ReplyFrames.t
 refine go_call known_f (go_f rfl ?_)
 by_cases hb : body.length ≤ 60
 ·refine go_f (by rw [decide_eq_false_iff_not]; omega) ?_
  by_cases hl : l.length ≤ 6
  ·refine go_f (by rw [decide_eq_false_iff_not]; omega) ?_
   obtain ⟨P, hP, hpl⟩ := place_f code
   have hw : IntKind.i64.wrap (200 + (P : Int)) = ((200 + P : Nat) : Int) := by rw [w64 (by omega) (by omega)]; omega
   refine go_call hpl ?_
   simp only [hw]
   obtain ⟨hA1, hA2, lA⟩ := pv_f (k := 200 + P) (by omega)
   obtain ⟨hN1, hN2, lN⟩ := pv_f (k := body.length) (by omega)
   obtain ⟨hB1, lB⟩ := rs_f ((200 + P : Nat) : Int)
   have hc1 : 200 ≤ ((200 + P : Nat) : Int) ∧ ((200 + P : Nat) : Int) ≤ 599 := by omega
   generalize ((200 + P : Nat) : Int) = c at hA1 hA2 hB1 lB hc1 ⊢
   generalize pv (200 + P) = A at hA1 hA2 lA
   generalize pv body.length = N at hN1 hN2 lN
   generalize rs c = B at hB1 lB
   obtain ⟨F, hL, hF1, hF2⟩ := loopF (l := l) (pre := protoB ++ A ++ [32] ++ B ++ [13, 10]) hl (by simp [protoB]; omega)
   have hsz : ∀ f ∈ F, f.1.length ≤ 20 ∧ f.2.length ≤ 4 := fun f hf => by
    obtain ⟨r, j, hr, hj, rfl⟩ := hF2 f hf
    exact ⟨(nmk_is hr hj).2.2.2, (pv_f (k := j) (by omega)).2.2⟩
   have hfit : FitF F := ⟨by omega, fun f hf => by have := hsz f hf; omega⟩
   have hR : reply_Right.f F c = some true := by
    rw [replyRight_f hfit]
    unfold rightS
    have ha : (F.any fun f => !(fieldR f.1 f.2)) = false := by
     rw [List.any_eq_false]
     intro f hf
     obtain ⟨r, j, hr, hj, rfl⟩ := hF2 f hf
     rw [(nmk_is hr hj).2.2.1]
     simp
    rw [ha, decide_eq_true hc1.1, decide_eq_true hc1.2]
    rfl
   have hLl : (F.filter keep5).length ≤ 6 := by have := List.length_filter_le keep5 F; omega
   have hLs : ∀ f ∈ F.filter keep5, f.1.length ≤ 20 ∧ f.2.length ≤ 4 := fun f hf => hsz f (List.mem_filter.1 hf).1
   have hW : text_Without.f F hopN = some (F.filter keep5) := by
    rw [without_f hfit (by decide) (by decide)]
    unfold withoutS
    congr 1
    refine List.filter_congr fun f hf => ?_
    obtain ⟨r, j, hr, hj, rfl⟩ := hF2 f hf
    exact ((nmk_is hr hj).2.1).symm
   generalize F.filter keep5 = L at hLl hLs hW hL
   have hlen : ∀ M : Fs, (∀ f ∈ M, f.1.length ≤ 20 ∧ f.2.length ≤ 10) → M.length ≤ 8 → field_Put.f M = some (putS M) ∧ (putS M).length ≤ 400 := fun M h1 h2 => by
    refine ⟨fieldPut_f (by omega) fun f hf => by have := h1 f hf; omega, ?_⟩
    have := putS_len (l := M) (M := 40) fun f hf => by have := h1 f hf; omega
    omega
   have hin : ∀ (X : Fs) (f : Bs × Bs), (∀ g ∈ X, g.1.length ≤ 20 ∧ g.2.length ≤ 10) → f.1.length ≤ 20 ∧ f.2.length ≤ 10 → ∀ g ∈ X ++ [f], g.1.length ≤ 20 ∧ g.2.length ≤ 10 := fun X f h1 h2 g hg => by
    rcases List.mem_append.1 hg with hg | hg
    ·exact h1 g hg
    ·simp only [List.mem_cons, List.not_mem_nil, or_false] at hg
     subst hg
     exact h2
   have i1 : ∀ g ∈ L, g.1.length ≤ 20 ∧ g.2.length ≤ 10 := fun g hg => by have := hLs g hg; omega
   have i2 := hin L (clB, N) i1 ⟨by show clB.length ≤ 20; decide, by show N.length ≤ 10; omega⟩
   have i3 := hin L (connB, closeB) i1 ⟨by decide, by decide⟩
   have i4 := hin _ (connB, closeB) i2 ⟨by decide, by decide⟩
   obtain ⟨f1, k1⟩ := hlen L i1 (by omega)
   obtain ⟨f2, k2⟩ := hlen _ i2 (by simp; omega)
   obtain ⟨f3, k3⟩ := hlen _ i3 (by simp; omega)
   obtain ⟨f4, k4⟩ := hlen _ i4 (by simp; omega)
   have hput := put_aux (head := head) (closes := closes) hR hW hA2 hN2 hB1 f1 f2 f3 f4 (by omega) lB (by omega) (by omega) (by omega) (by omega) (by omega) (by omega) (by omega)
   simp only [putS_app, putS_one] at hput
   have hQ : (putS L).length ≤ 400 := k1
   generalize putS L = Q at hput hL hQ
   unfold noneS at hput
   have lp : protoB.length = 9 := rfl
   have lW : (protoB ++ A ++ [32] ++ B ++ [13, 10] ++ Q).length ≤ 1000 := by simp only [List.length_append, List.length_cons, List.length_nil, lp]; omega
   refine go_call hA1 ?_
   refine go_chk (by simp; omega) (go_chk (by simp; omega) (go_call hB1 ?_))
   refine go_chk (by simp; omega) (go_chk (by simp; omega) ?_)
   refine go_call hL ?_
   dsimp only
   generalize hWW : protoB ++ A ++ [32] ++ B ++ [13, 10] ++ Q = W at lW ⊢
   have hput' : ∀ T : Bs, protoB ++ A ++ [32] ++ B ++ [13, 10] ++ (Q ++ T) = W ++ T := fun T => by rw [← hWW]; simp only [List.append_assoc]
   simp only [Nat.zero_add, List.drop_zero, List.take_length]
   generalize (c == 204) = b1 at hput ⊢
   generalize (c == 304) = b2 at hput ⊢
   cases b1 <;> cases b2 <;> cases head <;> cases closes <;>
    simp only [Bool.not_true, Bool.not_false, Bool.or_true, Bool.true_or, Bool.or_false, Bool.false_or, if_true, Bool.false_eq_true, if_false, List.append_assoc, hWW] at hput <;>
    simp only [Bool.not_true, Bool.not_false] <;>
    repeat' (first
     | rw [vtrue]
     | rw [vfalse]
     | rw [vokl]
     | with_reducible refine go_call hN1 ?_
     | with_reducible refine go_call hput ?_
     | with_reducible refine go_chk ?_ ?_
     | omega
     | (simp only [List.length_append, List.length_cons, List.length_nil]; omega)
     | (simp; done)
     | (simp; omega)
     | (show some _ = some _; rw [← hWW]; simp only [lineF, connB, closeB, clB, List.append_assoc, List.cons_append, List.nil_append, List.append_nil, beq_self_eq_true]; done))
  ·exact go_t (by rw [decide_eq_true_iff]; omega) rfl
 ·exact go_t (by rw [decide_eq_true_iff]; omega) rfl
end Pl
end Go.Vx
end
