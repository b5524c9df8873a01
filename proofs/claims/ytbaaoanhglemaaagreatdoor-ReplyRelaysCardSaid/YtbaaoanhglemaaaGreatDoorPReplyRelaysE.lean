/- Printed by a program of ours out of our texts: the evaluator, the printed functions, the plain laws. (A help: no statement of the seat is proved here.) -/
import Derived.Test.YtbaaoanhglemaaaGreatDoorPReplyRelaysD
import Derived.Lib.Bytealg
section
set_option maxRecDepth 1000000
set_option maxHeartbeats 4000000
set_option synthInstance.maxSize 100000
set_option synthInstance.maxHeartbeats 400000
set_option linter.unusedVariables false
namespace Go.Vx
open Go Go.Vx Go.Proofs
namespace law27_known
def D : Dom := ⟨[], .nil⟩
def A : Dom := ⟨[], .bool⟩
def sel : List Nat := []
def t  : Tr (Bool) :=
 .call (reply_Error.f (404 : Int)) fun (y1a, y1b) =>
 .chk ((0 : Nat) + y1a.length ≤ y1a.length) <| .chk ((0 : Nat) + y1b.length ≤ y1b.length) <| .call (reply_Put.f (List.take y1a.length (List.drop (0 : Nat) y1a)) (List.take y1b.length (List.drop (0 : Nat) y1b)) (404 : Int) false true) fun y2 =>
 .chk ((0 : Nat) + y2.length ≤ y2.length) <| .br (List.take y2.length (List.drop (0 : Nat) y2) == [(72 : UInt8), (84 : UInt8), (84 : UInt8), (80 : UInt8), (47 : UInt8), (49 : UInt8), (46 : UInt8), (49 : UInt8), (32 : UInt8), (52 : UInt8), (48 : UInt8), (52 : UInt8), (32 : UInt8), (78 : UInt8), (111 : UInt8), (116 : UInt8), (32 : UInt8), (70 : UInt8), (111 : UInt8), (117 : UInt8), (110 : UInt8), (100 : UInt8), (13 : UInt8), (10 : UInt8), (67 : UInt8), (111 : UInt8), (110 : UInt8), (116 : UInt8), (101 : UInt8), (110 : UInt8), (116 : UInt8), (45 : UInt8), (76 : UInt8), (101 : UInt8), (110 : UInt8), (103 : UInt8)].append [(116 : UInt8), (104 : UInt8), (58 : UInt8), (32 : UInt8), (57 : UInt8), (13 : UInt8), (10 : UInt8), (67 : UInt8), (111 : UInt8), (110 : UInt8), (110 : UInt8), (101 : UInt8), (99 : UInt8), (116 : UInt8), (105 : UInt8), (111 : UInt8), (110 : UInt8), (58 : UInt8), (32 : UInt8), (99 : UInt8), (108 : UInt8), (111 : UInt8), (115 : UInt8), (101 : UInt8), (13 : UInt8), (10 : UInt8), (13 : UInt8), (10 : UInt8), (78 : UInt8), (111 : UInt8), (116 : UInt8), (32 : UInt8), (70 : UInt8), (111 : UInt8), (117 : UInt8), (110 : UInt8), (100 : UInt8)]) (.call (reply_Reason.f (999 : Int)) fun y3 =>
  .br (y3 == [(79 : UInt8), (116 : UInt8), (104 : UInt8), (101 : UInt8), (114 : UInt8)]) (.call (reply_Continue.f) fun y4 =>
  .br ((↑y4.length : Int) == (25 : Int)) (.chk ((0 : Nat) + y1a.length ≤ y1a.length) <| .chk ((0 : Nat) + y1b.length ≤ y1b.length) <| .call (reply_Right.f (List.take y1a.length (List.drop (0 : Nat) y1a)) (404 : Int)) fun y5 =>
   .br y5 (.call (reply_Right.f [] (0 : Int)) fun y6 =>
   .br (!y6) (.call (reply_Put.f [] [] (0 : Int) false false) fun y7 =>
    .br ((↑y7.length : Int) == (0 : Int)) (.chk ((0 : Nat) + y1a.length ≤ y1a.length) <| .chk ((0 : Nat) + y1b.length ≤ y1b.length) <| .call (reply_Relay.f (List.take y1a.length (List.drop (0 : Nat) y1a)) (List.take y1b.length (List.drop (0 : Nat) y1b)) [(103 : UInt8), (119 : UInt8)]) fun y8 =>
    .ret ((↑y8.length : Int) == (1 : Int)))
    (.ret false))
   (.ret false))
   (.ret false))
  (.ret false))
  (.ret false))
 (.ret false)
def f  : Option (Bool) := (t ).val
def F (x : D.den) : Option (Bool) := f
def pa : D.den → (Bool) → A.den := fun (_, _) y1 => ((), y1)
def con : Con := tcon D A pa F
theorem ok : ConOk Tryz.prog 6 con := tcon_ok Base.mixed Base.prog_ok bk_help_Place_ok (by kernel_rfl) LapsOk.nil 9 (fun _ => rfl) (fun x => t ) (fun _ => rfl) fun _ _ _ => (by kernel_rfl)
end law27_known
def bk_law27_known : Book := bk_help_Place.add 6 law27_known.con
theorem bk_law27_known_ok : BookOk Tryz.prog bk_law27_known := bk_help_Place_ok.add law27_known.ok
namespace law27_ReplyRelays
def D : Dom := ⟨[], (.cat (.vec .byte) (.cat .byte (.vec .byte)))⟩
namespace L9
def D : Dom := ⟨[.cells (.cat (.int .i64) (.cat (.sl 1 2) (.vec .byte))) 25 false, .vec (.pair .str .str) 30 false, .vec (.pair .str .str) 30 false], (.cat (.vec .byte) (.cat (.vec .byte) (.cat .str (.cat (.ptr 0 0 0 0) (.cat (.sl 2 2) (.int .i64))))))⟩
def A : Dom := ⟨[.cells (.cat (.int .i64) (.cat (.sl 1 2) (.vec .byte))) 25 false, .vec (.pair .str .str) 30 false, .vec (.pair .str .str) 30 false], (.cat (.vec .byte) (.cat .str (.cat (.ptr 0 0 0 0) (.sl 2 2))))⟩
def sel : List Nat := [2, 3, 4, 7]
set_option maxHeartbeats 4000000 in
def t (Fields : List (List UInt8 × List UInt8)) (want : List (List UInt8 × List UInt8)) (l : List UInt8) (i : Int) : Tr (((List (List UInt8 × List UInt8)) × (List (List UInt8 × List UInt8)) × Int) ⊕ ((List (List UInt8 × List UInt8)) × (List (List UInt8 × List UInt8)))) :=
 .br (decide (i < (↑l.length : Int))) (.two (.chk ((0 : Int) ≤ i ∧ i < (↑l.length : Int)) <| .chk (i.toNat < l.length) <| .chk ((0 : Int) ≤ (↑(UInt8.toNat (l.getD i.toNat (0 : UInt8))) : Int).tmod (6 : Int) ∧ (↑(UInt8.toNat (l.getD i.toNat (0 : UInt8))) : Int).tmod (6 : Int) < (6 : Int)) <| .chk (((0 : Nat) + ((↑(UInt8.toNat (l.getD i.toNat (0 : UInt8))) : Int).tmod (6 : Int)).toNat) * (1 : Nat) < (6 : Nat)) <| .call (ref1_Put.f i) fun y1 =>
  .chk ((1 : Nat) ≤ [([[(83 : UInt8), (101 : UInt8), (114 : UInt8), (118 : UInt8), (101 : UInt8), (114 : UInt8)], [(85 : UInt8), (112 : UInt8), (103 : UInt8), (114 : UInt8), (97 : UInt8), (100 : UInt8), (101 : UInt8)], [(83 : UInt8), (101 : UInt8), (116 : UInt8), (45 : UInt8), (67 : UInt8), (111 : UInt8), (111 : UInt8), (107 : UInt8), (105 : UInt8), (101 : UInt8)], [(116 : UInt8), (101 : UInt8)], [(67 : UInt8), (111 : UInt8), (110 : UInt8), (116 : UInt8), (101 : UInt8), (110 : UInt8), (116 : UInt8), (45 : UInt8), (84 : UInt8), (121 : UInt8), (112 : UInt8), (101 : UInt8)], [(75 : UInt8), (101 : UInt8), (101 : UInt8), (112 : UInt8), (45 : UInt8), (65 : UInt8), (108 : UInt8), (105 : UInt8), (118 : UInt8), (101 : UInt8)]].getD (((0 : Nat) + ((↑(UInt8.toNat (l.getD i.toNat (0 : UInt8))) : Int).tmod (6 : Int)).toNat) * (1 : Nat)) [], y1)].length) <| .chk ((0 : Nat) + Fields.length ≤ Fields.length) <| .chk ((Fields.length + (1 : Nat)) * (32 : Nat) ≤ (140737488355328 : Nat)) <| .chk ((0 : Int) ≤ i ∧ i < (↑l.length : Int)) <| .chk (i.toNat < l.length) <| .br (((↑(UInt8.toNat (l.getD i.toNat (0 : UInt8))) : Int).tmod (6 : Int)).tmod (2 : Int) == (0 : Int)) (.chk ((1 : Nat) ≤ [([[(83 : UInt8), (101 : UInt8), (114 : UInt8), (118 : UInt8), (101 : UInt8), (114 : UInt8)], [(85 : UInt8), (112 : UInt8), (103 : UInt8), (114 : UInt8), (97 : UInt8), (100 : UInt8), (101 : UInt8)], [(83 : UInt8), (101 : UInt8), (116 : UInt8), (45 : UInt8), (67 : UInt8), (111 : UInt8), (111 : UInt8), (107 : UInt8), (105 : UInt8), (101 : UInt8)], [(116 : UInt8), (101 : UInt8)], [(67 : UInt8), (111 : UInt8), (110 : UInt8), (116 : UInt8), (101 : UInt8), (110 : UInt8), (116 : UInt8), (45 : UInt8), (84 : UInt8), (121 : UInt8), (112 : UInt8), (101 : UInt8)], [(75 : UInt8), (101 : UInt8), (101 : UInt8), (112 : UInt8), (45 : UInt8), (65 : UInt8), (108 : UInt8), (105 : UInt8), (118 : UInt8), (101 : UInt8)]].getD (((0 : Nat) + ((↑(UInt8.toNat (l.getD i.toNat (0 : UInt8))) : Int).tmod (6 : Int)).toNat) * (1 : Nat)) [], y1)].length) <| .chk ((0 : Nat) + want.length ≤ want.length) <| .chk ((want.length + (1 : Nat)) * (32 : Nat) ≤ (140737488355328 : Nat)) <| .chk ((0 : Nat) = (0 : Nat) ∧ Fields.length + (1 : Nat) = (List.take Fields.length (List.drop (0 : Nat) Fields) ++ List.take (1 : Nat) (List.drop (0 : Nat) [([[(83 : UInt8), (101 : UInt8), (114 : UInt8), (118 : UInt8), (101 : UInt8), (114 : UInt8)], [(85 : UInt8), (112 : UInt8), (103 : UInt8), (114 : UInt8), (97 : UInt8), (100 : UInt8), (101 : UInt8)], [(83 : UInt8), (101 : UInt8), (116 : UInt8), (45 : UInt8), (67 : UInt8), (111 : UInt8), (111 : UInt8), (107 : UInt8), (105 : UInt8), (101 : UInt8)], [(116 : UInt8), (101 : UInt8)], [(67 : UInt8), (111 : UInt8), (110 : UInt8), (116 : UInt8), (101 : UInt8), (110 : UInt8), (116 : UInt8), (45 : UInt8), (84 : UInt8), (121 : UInt8), (112 : UInt8), (101 : UInt8)], [(75 : UInt8), (101 : UInt8), (101 : UInt8), (112 : UInt8), (45 : UInt8), (65 : UInt8), (108 : UInt8), (105 : UInt8), (118 : UInt8), (101 : UInt8)]].getD (((0 : Nat) + ((↑(UInt8.toNat (l.getD i.toNat (0 : UInt8))) : Int).tmod (6 : Int)).toNat) * (1 : Nat)) [], y1)])).length) <| .chk ((0 : Nat) = (0 : Nat) ∧ want.length + (1 : Nat) = (List.take want.length (List.drop (0 : Nat) want) ++ List.take (1 : Nat) (List.drop (0 : Nat) [([[(83 : UInt8), (101 : UInt8), (114 : UInt8), (118 : UInt8), (101 : UInt8), (114 : UInt8)], [(85 : UInt8), (112 : UInt8), (103 : UInt8), (114 : UInt8), (97 : UInt8), (100 : UInt8), (101 : UInt8)], [(83 : UInt8), (101 : UInt8), (116 : UInt8), (45 : UInt8), (67 : UInt8), (111 : UInt8), (111 : UInt8), (107 : UInt8), (105 : UInt8), (101 : UInt8)], [(116 : UInt8), (101 : UInt8)], [(67 : UInt8), (111 : UInt8), (110 : UInt8), (116 : UInt8), (101 : UInt8), (110 : UInt8), (116 : UInt8), (45 : UInt8), (84 : UInt8), (121 : UInt8), (112 : UInt8), (101 : UInt8)], [(75 : UInt8), (101 : UInt8), (101 : UInt8), (112 : UInt8), (45 : UInt8), (65 : UInt8), (108 : UInt8), (105 : UInt8), (118 : UInt8), (101 : UInt8)]].getD (((0 : Nat) + ((↑(UInt8.toNat (l.getD i.toNat (0 : UInt8))) : Int).tmod (6 : Int)).toNat) * (1 : Nat)) [], y1)])).length) <| .ret (.inl (List.take Fields.length (List.drop (0 : Nat) Fields) ++ List.take (1 : Nat) (List.drop (0 : Nat) [([[(83 : UInt8), (101 : UInt8), (114 : UInt8), (118 : UInt8), (101 : UInt8), (114 : UInt8)], [(85 : UInt8), (112 : UInt8), (103 : UInt8), (114 : UInt8), (97 : UInt8), (100 : UInt8), (101 : UInt8)], [(83 : UInt8), (101 : UInt8), (116 : UInt8), (45 : UInt8), (67 : UInt8), (111 : UInt8), (111 : UInt8), (107 : UInt8), (105 : UInt8), (101 : UInt8)], [(116 : UInt8), (101 : UInt8)], [(67 : UInt8), (111 : UInt8), (110 : UInt8), (116 : UInt8), (101 : UInt8), (110 : UInt8), (116 : UInt8), (45 : UInt8), (84 : UInt8), (121 : UInt8), (112 : UInt8), (101 : UInt8)], [(75 : UInt8), (101 : UInt8), (101 : UInt8), (112 : UInt8), (45 : UInt8), (65 : UInt8), (108 : UInt8), (105 : UInt8), (118 : UInt8), (101 : UInt8)]].getD (((0 : Nat) + ((↑(UInt8.toNat (l.getD i.toNat (0 : UInt8))) : Int).tmod (6 : Int)).toNat) * (1 : Nat)) [], y1)]), List.take want.length (List.drop (0 : Nat) want) ++ List.take (1 : Nat) (List.drop (0 : Nat) [([[(83 : UInt8), (101 : UInt8), (114 : UInt8), (118 : UInt8), (101 : UInt8), (114 : UInt8)], [(85 : UInt8), (112 : UInt8), (103 : UInt8), (114 : UInt8), (97 : UInt8), (100 : UInt8), (101 : UInt8)], [(83 : UInt8), (101 : UInt8), (116 : UInt8), (45 : UInt8), (67 : UInt8), (111 : UInt8), (111 : UInt8), (107 : UInt8), (105 : UInt8), (101 : UInt8)], [(116 : UInt8), (101 : UInt8)], [(67 : UInt8), (111 : UInt8), (110 : UInt8), (116 : UInt8), (101 : UInt8), (110 : UInt8), (116 : UInt8), (45 : UInt8), (84 : UInt8), (121 : UInt8), (112 : UInt8), (101 : UInt8)], [(75 : UInt8), (101 : UInt8), (101 : UInt8), (112 : UInt8), (45 : UInt8), (65 : UInt8), (108 : UInt8), (105 : UInt8), (118 : UInt8), (101 : UInt8)]].getD (((0 : Nat) + ((↑(UInt8.toNat (l.getD i.toNat (0 : UInt8))) : Int).tmod (6 : Int)).toNat) * (1 : Nat)) [], y1)]), IntKind.i64.wrap (i + (1 : Int)))))
  (.chk ((0 : Nat) = (0 : Nat) ∧ Fields.length + (1 : Nat) = (List.take Fields.length (List.drop (0 : Nat) Fields) ++ List.take (1 : Nat) (List.drop (0 : Nat) [([[(83 : UInt8), (101 : UInt8), (114 : UInt8), (118 : UInt8), (101 : UInt8), (114 : UInt8)], [(85 : UInt8), (112 : UInt8), (103 : UInt8), (114 : UInt8), (97 : UInt8), (100 : UInt8), (101 : UInt8)], [(83 : UInt8), (101 : UInt8), (116 : UInt8), (45 : UInt8), (67 : UInt8), (111 : UInt8), (111 : UInt8), (107 : UInt8), (105 : UInt8), (101 : UInt8)], [(116 : UInt8), (101 : UInt8)], [(67 : UInt8), (111 : UInt8), (110 : UInt8), (116 : UInt8), (101 : UInt8), (110 : UInt8), (116 : UInt8), (45 : UInt8), (84 : UInt8), (121 : UInt8), (112 : UInt8), (101 : UInt8)], [(75 : UInt8), (101 : UInt8), (101 : UInt8), (112 : UInt8), (45 : UInt8), (65 : UInt8), (108 : UInt8), (105 : UInt8), (118 : UInt8), (101 : UInt8)]].getD (((0 : Nat) + ((↑(UInt8.toNat (l.getD i.toNat (0 : UInt8))) : Int).tmod (6 : Int)).toNat) * (1 : Nat)) [], y1)])).length) <| .okl want.length <| .ret (.inl (List.take Fields.length (List.drop (0 : Nat) Fields) ++ List.take (1 : Nat) (List.drop (0 : Nat) [([[(83 : UInt8), (101 : UInt8), (114 : UInt8), (118 : UInt8), (101 : UInt8), (114 : UInt8)], [(85 : UInt8), (112 : UInt8), (103 : UInt8), (114 : UInt8), (97 : UInt8), (100 : UInt8), (101 : UInt8)], [(83 : UInt8), (101 : UInt8), (116 : UInt8), (45 : UInt8), (67 : UInt8), (111 : UInt8), (111 : UInt8), (107 : UInt8), (105 : UInt8), (101 : UInt8)], [(116 : UInt8), (101 : UInt8)], [(67 : UInt8), (111 : UInt8), (110 : UInt8), (116 : UInt8), (101 : UInt8), (110 : UInt8), (116 : UInt8), (45 : UInt8), (84 : UInt8), (121 : UInt8), (112 : UInt8), (101 : UInt8)], [(75 : UInt8), (101 : UInt8), (101 : UInt8), (112 : UInt8), (45 : UInt8), (65 : UInt8), (108 : UInt8), (105 : UInt8), (118 : UInt8), (101 : UInt8)]].getD (((0 : Nat) + ((↑(UInt8.toNat (l.getD i.toNat (0 : UInt8))) : Int).tmod (6 : Int)).toNat) * (1 : Nat)) [], y1)]), want, IntKind.i64.wrap (i + (1 : Int))))))
  (.two (.chk ((0 : Int) ≤ i ∧ i < (↑l.length : Int)) <| .chk (i.toNat < l.length) <| .chk ((0 : Int) ≤ (↑(UInt8.toNat (l.getD i.toNat (0 : UInt8))) : Int).tmod (6 : Int) ∧ (↑(UInt8.toNat (l.getD i.toNat (0 : UInt8))) : Int).tmod (6 : Int) < (6 : Int)) <| .chk (((0 : Nat) + ((↑(UInt8.toNat (l.getD i.toNat (0 : UInt8))) : Int).tmod (6 : Int)).toNat) * (1 : Nat) < (6 : Nat)) <| .call (ref1_Put.f i) fun y1 =>
   .chk ((1 : Nat) ≤ [([[(83 : UInt8), (101 : UInt8), (114 : UInt8), (118 : UInt8), (101 : UInt8), (114 : UInt8)], [(85 : UInt8), (112 : UInt8), (103 : UInt8), (114 : UInt8), (97 : UInt8), (100 : UInt8), (101 : UInt8)], [(83 : UInt8), (101 : UInt8), (116 : UInt8), (45 : UInt8), (67 : UInt8), (111 : UInt8), (111 : UInt8), (107 : UInt8), (105 : UInt8), (101 : UInt8)], [(116 : UInt8), (101 : UInt8)], [(67 : UInt8), (111 : UInt8), (110 : UInt8), (116 : UInt8), (101 : UInt8), (110 : UInt8), (116 : UInt8), (45 : UInt8), (84 : UInt8), (121 : UInt8), (112 : UInt8), (101 : UInt8)], [(75 : UInt8), (101 : UInt8), (101 : UInt8), (112 : UInt8), (45 : UInt8), (65 : UInt8), (108 : UInt8), (105 : UInt8), (118 : UInt8), (101 : UInt8)]].getD (((0 : Nat) + ((↑(UInt8.toNat (l.getD i.toNat (0 : UInt8))) : Int).tmod (6 : Int)).toNat) * (1 : Nat)) [], y1)].length) <| .chk ((0 : Nat) + Fields.length ≤ Fields.length) <| .chk ((Fields.length + (1 : Nat)) * (32 : Nat) ≤ (140737488355328 : Nat)) <| .chk ((0 : Int) ≤ i ∧ i < (↑l.length : Int)) <| .chk (i.toNat < l.length) <| .br (((↑(UInt8.toNat (l.getD i.toNat (0 : UInt8))) : Int).tmod (6 : Int)).tmod (2 : Int) == (0 : Int)) (.chk ((1 : Nat) ≤ [([[(83 : UInt8), (101 : UInt8), (114 : UInt8), (118 : UInt8), (101 : UInt8), (114 : UInt8)], [(85 : UInt8), (112 : UInt8), (103 : UInt8), (114 : UInt8), (97 : UInt8), (100 : UInt8), (101 : UInt8)], [(83 : UInt8), (101 : UInt8), (116 : UInt8), (45 : UInt8), (67 : UInt8), (111 : UInt8), (111 : UInt8), (107 : UInt8), (105 : UInt8), (101 : UInt8)], [(116 : UInt8), (101 : UInt8)], [(67 : UInt8), (111 : UInt8), (110 : UInt8), (116 : UInt8), (101 : UInt8), (110 : UInt8), (116 : UInt8), (45 : UInt8), (84 : UInt8), (121 : UInt8), (112 : UInt8), (101 : UInt8)], [(75 : UInt8), (101 : UInt8), (101 : UInt8), (112 : UInt8), (45 : UInt8), (65 : UInt8), (108 : UInt8), (105 : UInt8), (118 : UInt8), (101 : UInt8)]].getD (((0 : Nat) + ((↑(UInt8.toNat (l.getD i.toNat (0 : UInt8))) : Int).tmod (6 : Int)).toNat) * (1 : Nat)) [], y1)].length) <| .chk ((0 : Nat) + want.length ≤ want.length) <| .chk ((want.length + (1 : Nat)) * (32 : Nat) ≤ (140737488355328 : Nat)) <| .chk ((0 : Nat) = (0 : Nat) ∧ Fields.length + (1 : Nat) = (List.take Fields.length (List.drop (0 : Nat) Fields) ++ List.take (1 : Nat) (List.drop (0 : Nat) [([[(83 : UInt8), (101 : UInt8), (114 : UInt8), (118 : UInt8), (101 : UInt8), (114 : UInt8)], [(85 : UInt8), (112 : UInt8), (103 : UInt8), (114 : UInt8), (97 : UInt8), (100 : UInt8), (101 : UInt8)], [(83 : UInt8), (101 : UInt8), (116 : UInt8), (45 : UInt8), (67 : UInt8), (111 : UInt8), (111 : UInt8), (107 : UInt8), (105 : UInt8), (101 : UInt8)], [(116 : UInt8), (101 : UInt8)], [(67 : UInt8), (111 : UInt8), (110 : UInt8), (116 : UInt8), (101 : UInt8), (110 : UInt8), (116 : UInt8), (45 : UInt8), (84 : UInt8), (121 : UInt8), (112 : UInt8), (101 : UInt8)], [(75 : UInt8), (101 : UInt8), (101 : UInt8), (112 : UInt8), (45 : UInt8), (65 : UInt8), (108 : UInt8), (105 : UInt8), (118 : UInt8), (101 : UInt8)]].getD (((0 : Nat) + ((↑(UInt8.toNat (l.getD i.toNat (0 : UInt8))) : Int).tmod (6 : Int)).toNat) * (1 : Nat)) [], y1)])).length) <| .chk ((0 : Nat) = (0 : Nat) ∧ want.length + (1 : Nat) = (List.take want.length (List.drop (0 : Nat) want) ++ List.take (1 : Nat) (List.drop (0 : Nat) [([[(83 : UInt8), (101 : UInt8), (114 : UInt8), (118 : UInt8), (101 : UInt8), (114 : UInt8)], [(85 : UInt8), (112 : UInt8), (103 : UInt8), (114 : UInt8), (97 : UInt8), (100 : UInt8), (101 : UInt8)], [(83 : UInt8), (101 : UInt8), (116 : UInt8), (45 : UInt8), (67 : UInt8), (111 : UInt8), (111 : UInt8), (107 : UInt8), (105 : UInt8), (101 : UInt8)], [(116 : UInt8), (101 : UInt8)], [(67 : UInt8), (111 : UInt8), (110 : UInt8), (116 : UInt8), (101 : UInt8), (110 : UInt8), (116 : UInt8), (45 : UInt8), (84 : UInt8), (121 : UInt8), (112 : UInt8), (101 : UInt8)], [(75 : UInt8), (101 : UInt8), (101 : UInt8), (112 : UInt8), (45 : UInt8), (65 : UInt8), (108 : UInt8), (105 : UInt8), (118 : UInt8), (101 : UInt8)]].getD (((0 : Nat) + ((↑(UInt8.toNat (l.getD i.toNat (0 : UInt8))) : Int).tmod (6 : Int)).toNat) * (1 : Nat)) [], y1)])).length) <| .ret (.inl (List.take Fields.length (List.drop (0 : Nat) Fields) ++ List.take (1 : Nat) (List.drop (0 : Nat) [([[(83 : UInt8), (101 : UInt8), (114 : UInt8), (118 : UInt8), (101 : UInt8), (114 : UInt8)], [(85 : UInt8), (112 : UInt8), (103 : UInt8), (114 : UInt8), (97 : UInt8), (100 : UInt8), (101 : UInt8)], [(83 : UInt8), (101 : UInt8), (116 : UInt8), (45 : UInt8), (67 : UInt8), (111 : UInt8), (111 : UInt8), (107 : UInt8), (105 : UInt8), (101 : UInt8)], [(116 : UInt8), (101 : UInt8)], [(67 : UInt8), (111 : UInt8), (110 : UInt8), (116 : UInt8), (101 : UInt8), (110 : UInt8), (116 : UInt8), (45 : UInt8), (84 : UInt8), (121 : UInt8), (112 : UInt8), (101 : UInt8)], [(75 : UInt8), (101 : UInt8), (101 : UInt8), (112 : UInt8), (45 : UInt8), (65 : UInt8), (108 : UInt8), (105 : UInt8), (118 : UInt8), (101 : UInt8)]].getD (((0 : Nat) + ((↑(UInt8.toNat (l.getD i.toNat (0 : UInt8))) : Int).tmod (6 : Int)).toNat) * (1 : Nat)) [], y1)]), List.take want.length (List.drop (0 : Nat) want) ++ List.take (1 : Nat) (List.drop (0 : Nat) [([[(83 : UInt8), (101 : UInt8), (114 : UInt8), (118 : UInt8), (101 : UInt8), (114 : UInt8)], [(85 : UInt8), (112 : UInt8), (103 : UInt8), (114 : UInt8), (97 : UInt8), (100 : UInt8), (101 : UInt8)], [(83 : UInt8), (101 : UInt8), (116 : UInt8), (45 : UInt8), (67 : UInt8), (111 : UInt8), (111 : UInt8), (107 : UInt8), (105 : UInt8), (101 : UInt8)], [(116 : UInt8), (101 : UInt8)], [(67 : UInt8), (111 : UInt8), (110 : UInt8), (116 : UInt8), (101 : UInt8), (110 : UInt8), (116 : UInt8), (45 : UInt8), (84 : UInt8), (121 : UInt8), (112 : UInt8), (101 : UInt8)], [(75 : UInt8), (101 : UInt8), (101 : UInt8), (112 : UInt8), (45 : UInt8), (65 : UInt8), (108 : UInt8), (105 : UInt8), (118 : UInt8), (101 : UInt8)]].getD (((0 : Nat) + ((↑(UInt8.toNat (l.getD i.toNat (0 : UInt8))) : Int).tmod (6 : Int)).toNat) * (1 : Nat)) [], y1)]), IntKind.i64.wrap (i + (1 : Int)))))
   (.chk ((0 : Nat) = (0 : Nat) ∧ Fields.length + (1 : Nat) = (List.take Fields.length (List.drop (0 : Nat) Fields) ++ List.take (1 : Nat) (List.drop (0 : Nat) [([[(83 : UInt8), (101 : UInt8), (114 : UInt8), (118 : UInt8), (101 : UInt8), (114 : UInt8)], [(85 : UInt8), (112 : UInt8), (103 : UInt8), (114 : UInt8), (97 : UInt8), (100 : UInt8), (101 : UInt8)], [(83 : UInt8), (101 : UInt8), (116 : UInt8), (45 : UInt8), (67 : UInt8), (111 : UInt8), (111 : UInt8), (107 : UInt8), (105 : UInt8), (101 : UInt8)], [(116 : UInt8), (101 : UInt8)], [(67 : UInt8), (111 : UInt8), (110 : UInt8), (116 : UInt8), (101 : UInt8), (110 : UInt8), (116 : UInt8), (45 : UInt8), (84 : UInt8), (121 : UInt8), (112 : UInt8), (101 : UInt8)], [(75 : UInt8), (101 : UInt8), (101 : UInt8), (112 : UInt8), (45 : UInt8), (65 : UInt8), (108 : UInt8), (105 : UInt8), (118 : UInt8), (101 : UInt8)]].getD (((0 : Nat) + ((↑(UInt8.toNat (l.getD i.toNat (0 : UInt8))) : Int).tmod (6 : Int)).toNat) * (1 : Nat)) [], y1)])).length) <| .okl want.length <| .ret (.inl (List.take Fields.length (List.drop (0 : Nat) Fields) ++ List.take (1 : Nat) (List.drop (0 : Nat) [([[(83 : UInt8), (101 : UInt8), (114 : UInt8), (118 : UInt8), (101 : UInt8), (114 : UInt8)], [(85 : UInt8), (112 : UInt8), (103 : UInt8), (114 : UInt8), (97 : UInt8), (100 : UInt8), (101 : UInt8)], [(83 : UInt8), (101 : UInt8), (116 : UInt8), (45 : UInt8), (67 : UInt8), (111 : UInt8), (111 : UInt8), (107 : UInt8), (105 : UInt8), (101 : UInt8)], [(116 : UInt8), (101 : UInt8)], [(67 : UInt8), (111 : UInt8), (110 : UInt8), (116 : UInt8), (101 : UInt8), (110 : UInt8), (116 : UInt8), (45 : UInt8), (84 : UInt8), (121 : UInt8), (112 : UInt8), (101 : UInt8)], [(75 : UInt8), (101 : UInt8), (101 : UInt8), (112 : UInt8), (45 : UInt8), (65 : UInt8), (108 : UInt8), (105 : UInt8), (118 : UInt8), (101 : UInt8)]].getD (((0 : Nat) + ((↑(UInt8.toNat (l.getD i.toNat (0 : UInt8))) : Int).tmod (6 : Int)).toNat) * (1 : Nat)) [], y1)]), want, IntKind.i64.wrap (i + (1 : Int))))))
  (.two (.chk ((0 : Int) ≤ i ∧ i < (↑l.length : Int)) <| .chk (i.toNat < l.length) <| .chk ((0 : Int) ≤ (↑(UInt8.toNat (l.getD i.toNat (0 : UInt8))) : Int).tmod (6 : Int) ∧ (↑(UInt8.toNat (l.getD i.toNat (0 : UInt8))) : Int).tmod (6 : Int) < (6 : Int)) <| .chk (((0 : Nat) + ((↑(UInt8.toNat (l.getD i.toNat (0 : UInt8))) : Int).tmod (6 : Int)).toNat) * (1 : Nat) < (6 : Nat)) <| .call (ref1_Put.f i) fun y1 =>
   .chk ((1 : Nat) ≤ [([[(83 : UInt8), (101 : UInt8), (114 : UInt8), (118 : UInt8), (101 : UInt8), (114 : UInt8)], [(85 : UInt8), (112 : UInt8), (103 : UInt8), (114 : UInt8), (97 : UInt8), (100 : UInt8), (101 : UInt8)], [(83 : UInt8), (101 : UInt8), (116 : UInt8), (45 : UInt8), (67 : UInt8), (111 : UInt8), (111 : UInt8), (107 : UInt8), (105 : UInt8), (101 : UInt8)], [(116 : UInt8), (101 : UInt8)], [(67 : UInt8), (111 : UInt8), (110 : UInt8), (116 : UInt8), (101 : UInt8), (110 : UInt8), (116 : UInt8), (45 : UInt8), (84 : UInt8), (121 : UInt8), (112 : UInt8), (101 : UInt8)], [(75 : UInt8), (101 : UInt8), (101 : UInt8), (112 : UInt8), (45 : UInt8), (65 : UInt8), (108 : UInt8), (105 : UInt8), (118 : UInt8), (101 : UInt8)]].getD (((0 : Nat) + ((↑(UInt8.toNat (l.getD i.toNat (0 : UInt8))) : Int).tmod (6 : Int)).toNat) * (1 : Nat)) [], y1)].length) <| .chk ((0 : Nat) + Fields.length ≤ Fields.length) <| .chk ((Fields.length + (1 : Nat)) * (32 : Nat) ≤ (140737488355328 : Nat)) <| .chk ((0 : Int) ≤ i ∧ i < (↑l.length : Int)) <| .chk (i.toNat < l.length) <| .br (((↑(UInt8.toNat (l.getD i.toNat (0 : UInt8))) : Int).tmod (6 : Int)).tmod (2 : Int) == (0 : Int)) (.chk ((1 : Nat) ≤ [([[(83 : UInt8), (101 : UInt8), (114 : UInt8), (118 : UInt8), (101 : UInt8), (114 : UInt8)], [(85 : UInt8), (112 : UInt8), (103 : UInt8), (114 : UInt8), (97 : UInt8), (100 : UInt8), (101 : UInt8)], [(83 : UInt8), (101 : UInt8), (116 : UInt8), (45 : UInt8), (67 : UInt8), (111 : UInt8), (111 : UInt8), (107 : UInt8), (105 : UInt8), (101 : UInt8)], [(116 : UInt8), (101 : UInt8)], [(67 : UInt8), (111 : UInt8), (110 : UInt8), (116 : UInt8), (101 : UInt8), (110 : UInt8), (116 : UInt8), (45 : UInt8), (84 : UInt8), (121 : UInt8), (112 : UInt8), (101 : UInt8)], [(75 : UInt8), (101 : UInt8), (101 : UInt8), (112 : UInt8), (45 : UInt8), (65 : UInt8), (108 : UInt8), (105 : UInt8), (118 : UInt8), (101 : UInt8)]].getD (((0 : Nat) + ((↑(UInt8.toNat (l.getD i.toNat (0 : UInt8))) : Int).tmod (6 : Int)).toNat) * (1 : Nat)) [], y1)].length) <| .chk ((0 : Nat) + want.length ≤ want.length) <| .chk ((want.length + (1 : Nat)) * (32 : Nat) ≤ (140737488355328 : Nat)) <| .chk ((0 : Nat) = (0 : Nat) ∧ Fields.length + (1 : Nat) = (List.take Fields.length (List.drop (0 : Nat) Fields) ++ List.take (1 : Nat) (List.drop (0 : Nat) [([[(83 : UInt8), (101 : UInt8), (114 : UInt8), (118 : UInt8), (101 : UInt8), (114 : UInt8)], [(85 : UInt8), (112 : UInt8), (103 : UInt8), (114 : UInt8), (97 : UInt8), (100 : UInt8), (101 : UInt8)], [(83 : UInt8), (101 : UInt8), (116 : UInt8), (45 : UInt8), (67 : UInt8), (111 : UInt8), (111 : UInt8), (107 : UInt8), (105 : UInt8), (101 : UInt8)], [(116 : UInt8), (101 : UInt8)], [(67 : UInt8), (111 : UInt8), (110 : UInt8), (116 : UInt8), (101 : UInt8), (110 : UInt8), (116 : UInt8), (45 : UInt8), (84 : UInt8), (121 : UInt8), (112 : UInt8), (101 : UInt8)], [(75 : UInt8), (101 : UInt8), (101 : UInt8), (112 : UInt8), (45 : UInt8), (65 : UInt8), (108 : UInt8), (105 : UInt8), (118 : UInt8), (101 : UInt8)]].getD (((0 : Nat) + ((↑(UInt8.toNat (l.getD i.toNat (0 : UInt8))) : Int).tmod (6 : Int)).toNat) * (1 : Nat)) [], y1)])).length) <| .chk ((0 : Nat) = (0 : Nat) ∧ want.length + (1 : Nat) = (List.take want.length (List.drop (0 : Nat) want) ++ List.take (1 : Nat) (List.drop (0 : Nat) [([[(83 : UInt8), (101 : UInt8), (114 : UInt8), (118 : UInt8), (101 : UInt8), (114 : UInt8)], [(85 : UInt8), (112 : UInt8), (103 : UInt8), (114 : UInt8), (97 : UInt8), (100 : UInt8), (101 : UInt8)], [(83 : UInt8), (101 : UInt8), (116 : UInt8), (45 : UInt8), (67 : UInt8), (111 : UInt8), (111 : UInt8), (107 : UInt8), (105 : UInt8), (101 : UInt8)], [(116 : UInt8), (101 : UInt8)], [(67 : UInt8), (111 : UInt8), (110 : UInt8), (116 : UInt8), (101 : UInt8), (110 : UInt8), (116 : UInt8), (45 : UInt8), (84 : UInt8), (121 : UInt8), (112 : UInt8), (101 : UInt8)], [(75 : UInt8), (101 : UInt8), (101 : UInt8), (112 : UInt8), (45 : UInt8), (65 : UInt8), (108 : UInt8), (105 : UInt8), (118 : UInt8), (101 : UInt8)]].getD (((0 : Nat) + ((↑(UInt8.toNat (l.getD i.toNat (0 : UInt8))) : Int).tmod (6 : Int)).toNat) * (1 : Nat)) [], y1)])).length) <| .ret (.inl (List.take Fields.length (List.drop (0 : Nat) Fields) ++ List.take (1 : Nat) (List.drop (0 : Nat) [([[(83 : UInt8), (101 : UInt8), (114 : UInt8), (118 : UInt8), (101 : UInt8), (114 : UInt8)], [(85 : UInt8), (112 : UInt8), (103 : UInt8), (114 : UInt8), (97 : UInt8), (100 : UInt8), (101 : UInt8)], [(83 : UInt8), (101 : UInt8), (116 : UInt8), (45 : UInt8), (67 : UInt8), (111 : UInt8), (111 : UInt8), (107 : UInt8), (105 : UInt8), (101 : UInt8)], [(116 : UInt8), (101 : UInt8)], [(67 : UInt8), (111 : UInt8), (110 : UInt8), (116 : UInt8), (101 : UInt8), (110 : UInt8), (116 : UInt8), (45 : UInt8), (84 : UInt8), (121 : UInt8), (112 : UInt8), (101 : UInt8)], [(75 : UInt8), (101 : UInt8), (101 : UInt8), (112 : UInt8), (45 : UInt8), (65 : UInt8), (108 : UInt8), (105 : UInt8), (118 : UInt8), (101 : UInt8)]].getD (((0 : Nat) + ((↑(UInt8.toNat (l.getD i.toNat (0 : UInt8))) : Int).tmod (6 : Int)).toNat) * (1 : Nat)) [], y1)]), List.take want.length (List.drop (0 : Nat) want) ++ List.take (1 : Nat) (List.drop (0 : Nat) [([[(83 : UInt8), (101 : UInt8), (114 : UInt8), (118 : UInt8), (101 : UInt8), (114 : UInt8)], [(85 : UInt8), (112 : UInt8), (103 : UInt8), (114 : UInt8), (97 : UInt8), (100 : UInt8), (101 : UInt8)], [(83 : UInt8), (101 : UInt8), (116 : UInt8), (45 : UInt8), (67 : UInt8), (111 : UInt8), (111 : UInt8), (107 : UInt8), (105 : UInt8), (101 : UInt8)], [(116 : UInt8), (101 : UInt8)], [(67 : UInt8), (111 : UInt8), (110 : UInt8), (116 : UInt8), (101 : UInt8), (110 : UInt8), (116 : UInt8), (45 : UInt8), (84 : UInt8), (121 : UInt8), (112 : UInt8), (101 : UInt8)], [(75 : UInt8), (101 : UInt8), (101 : UInt8), (112 : UInt8), (45 : UInt8), (65 : UInt8), (108 : UInt8), (105 : UInt8), (118 : UInt8), (101 : UInt8)]].getD (((0 : Nat) + ((↑(UInt8.toNat (l.getD i.toNat (0 : UInt8))) : Int).tmod (6 : Int)).toNat) * (1 : Nat)) [], y1)]), IntKind.i64.wrap (i + (1 : Int)))))
   (.chk ((0 : Nat) = (0 : Nat) ∧ Fields.length + (1 : Nat) = (List.take Fields.length (List.drop (0 : Nat) Fields) ++ List.take (1 : Nat) (List.drop (0 : Nat) [([[(83 : UInt8), (101 : UInt8), (114 : UInt8), (118 : UInt8), (101 : UInt8), (114 : UInt8)], [(85 : UInt8), (112 : UInt8), (103 : UInt8), (114 : UInt8), (97 : UInt8), (100 : UInt8), (101 : UInt8)], [(83 : UInt8), (101 : UInt8), (116 : UInt8), (45 : UInt8), (67 : UInt8), (111 : UInt8), (111 : UInt8), (107 : UInt8), (105 : UInt8), (101 : UInt8)], [(116 : UInt8), (101 : UInt8)], [(67 : UInt8), (111 : UInt8), (110 : UInt8), (116 : UInt8), (101 : UInt8), (110 : UInt8), (116 : UInt8), (45 : UInt8), (84 : UInt8), (121 : UInt8), (112 : UInt8), (101 : UInt8)], [(75 : UInt8), (101 : UInt8), (101 : UInt8), (112 : UInt8), (45 : UInt8), (65 : UInt8), (108 : UInt8), (105 : UInt8), (118 : UInt8), (101 : UInt8)]].getD (((0 : Nat) + ((↑(UInt8.toNat (l.getD i.toNat (0 : UInt8))) : Int).tmod (6 : Int)).toNat) * (1 : Nat)) [], y1)])).length) <| .okl want.length <| .ret (.inl (List.take Fields.length (List.drop (0 : Nat) Fields) ++ List.take (1 : Nat) (List.drop (0 : Nat) [([[(83 : UInt8), (101 : UInt8), (114 : UInt8), (118 : UInt8), (101 : UInt8), (114 : UInt8)], [(85 : UInt8), (112 : UInt8), (103 : UInt8), (114 : UInt8), (97 : UInt8), (100 : UInt8), (101 : UInt8)], [(83 : UInt8), (101 : UInt8), (116 : UInt8), (45 : UInt8), (67 : UInt8), (111 : UInt8), (111 : UInt8), (107 : UInt8), (105 : UInt8), (101 : UInt8)], [(116 : UInt8), (101 : UInt8)], [(67 : UInt8), (111 : UInt8), (110 : UInt8), (116 : UInt8), (101 : UInt8), (110 : UInt8), (116 : UInt8), (45 : UInt8), (84 : UInt8), (121 : UInt8), (112 : UInt8), (101 : UInt8)], [(75 : UInt8), (101 : UInt8), (101 : UInt8), (112 : UInt8), (45 : UInt8), (65 : UInt8), (108 : UInt8), (105 : UInt8), (118 : UInt8), (101 : UInt8)]].getD (((0 : Nat) + ((↑(UInt8.toNat (l.getD i.toNat (0 : UInt8))) : Int).tmod (6 : Int)).toNat) * (1 : Nat)) [], y1)]), want, IntKind.i64.wrap (i + (1 : Int))))))
   (.two (.call (ref1_Put.f i) fun y1 =>
    .chk ((0 : Int) ≤ i ∧ i < (↑l.length : Int)) <| .chk (i.toNat < l.length) <| .chk ((0 : Int) ≤ (↑(UInt8.toNat (l.getD i.toNat (0 : UInt8))) : Int).tmod (6 : Int) ∧ (↑(UInt8.toNat (l.getD i.toNat (0 : UInt8))) : Int).tmod (6 : Int) < (6 : Int)) <| .chk (((0 : Nat) + ((↑(UInt8.toNat (l.getD i.toNat (0 : UInt8))) : Int).tmod (6 : Int)).toNat) * (1 : Nat) < (6 : Nat)) <| .chk ((1 : Nat) ≤ [([[(83 : UInt8), (101 : UInt8), (114 : UInt8), (118 : UInt8), (101 : UInt8), (114 : UInt8)], [(85 : UInt8), (112 : UInt8), (103 : UInt8), (114 : UInt8), (97 : UInt8), (100 : UInt8), (101 : UInt8)], [(83 : UInt8), (101 : UInt8), (116 : UInt8), (45 : UInt8), (67 : UInt8), (111 : UInt8), (111 : UInt8), (107 : UInt8), (105 : UInt8), (101 : UInt8)], [(116 : UInt8), (101 : UInt8)], [(67 : UInt8), (111 : UInt8), (110 : UInt8), (116 : UInt8), (101 : UInt8), (110 : UInt8), (116 : UInt8), (45 : UInt8), (84 : UInt8), (121 : UInt8), (112 : UInt8), (101 : UInt8)], [(75 : UInt8), (101 : UInt8), (101 : UInt8), (112 : UInt8), (45 : UInt8), (65 : UInt8), (108 : UInt8), (105 : UInt8), (118 : UInt8), (101 : UInt8)]].getD (((0 : Nat) + ((↑(UInt8.toNat (l.getD i.toNat (0 : UInt8))) : Int).tmod (6 : Int)).toNat) * (1 : Nat)) [], y1)].length) <| .chk ((0 : Nat) + Fields.length ≤ Fields.length) <| .chk ((Fields.length + (1 : Nat)) * (32 : Nat) ≤ (140737488355328 : Nat)) <| .chk ((0 : Int) ≤ i ∧ i < (↑l.length : Int)) <| .chk (i.toNat < l.length) <| .br (((↑(UInt8.toNat (l.getD i.toNat (0 : UInt8))) : Int).tmod (6 : Int)).tmod (2 : Int) == (0 : Int)) (.chk ((1 : Nat) ≤ [([[(83 : UInt8), (101 : UInt8), (114 : UInt8), (118 : UInt8), (101 : UInt8), (114 : UInt8)], [(85 : UInt8), (112 : UInt8), (103 : UInt8), (114 : UInt8), (97 : UInt8), (100 : UInt8), (101 : UInt8)], [(83 : UInt8), (101 : UInt8), (116 : UInt8), (45 : UInt8), (67 : UInt8), (111 : UInt8), (111 : UInt8), (107 : UInt8), (105 : UInt8), (101 : UInt8)], [(116 : UInt8), (101 : UInt8)], [(67 : UInt8), (111 : UInt8), (110 : UInt8), (116 : UInt8), (101 : UInt8), (110 : UInt8), (116 : UInt8), (45 : UInt8), (84 : UInt8), (121 : UInt8), (112 : UInt8), (101 : UInt8)], [(75 : UInt8), (101 : UInt8), (101 : UInt8), (112 : UInt8), (45 : UInt8), (65 : UInt8), (108 : UInt8), (105 : UInt8), (118 : UInt8), (101 : UInt8)]].getD (((0 : Nat) + ((↑(UInt8.toNat (l.getD i.toNat (0 : UInt8))) : Int).tmod (6 : Int)).toNat) * (1 : Nat)) [], y1)].length) <| .chk ((0 : Nat) + want.length ≤ want.length) <| .chk ((want.length + (1 : Nat)) * (32 : Nat) ≤ (140737488355328 : Nat)) <| .chk ((0 : Nat) = (0 : Nat) ∧ Fields.length + (1 : Nat) = (List.take Fields.length (List.drop (0 : Nat) Fields) ++ List.take (1 : Nat) (List.drop (0 : Nat) [([[(83 : UInt8), (101 : UInt8), (114 : UInt8), (118 : UInt8), (101 : UInt8), (114 : UInt8)], [(85 : UInt8), (112 : UInt8), (103 : UInt8), (114 : UInt8), (97 : UInt8), (100 : UInt8), (101 : UInt8)], [(83 : UInt8), (101 : UInt8), (116 : UInt8), (45 : UInt8), (67 : UInt8), (111 : UInt8), (111 : UInt8), (107 : UInt8), (105 : UInt8), (101 : UInt8)], [(116 : UInt8), (101 : UInt8)], [(67 : UInt8), (111 : UInt8), (110 : UInt8), (116 : UInt8), (101 : UInt8), (110 : UInt8), (116 : UInt8), (45 : UInt8), (84 : UInt8), (121 : UInt8), (112 : UInt8), (101 : UInt8)], [(75 : UInt8), (101 : UInt8), (101 : UInt8), (112 : UInt8), (45 : UInt8), (65 : UInt8), (108 : UInt8), (105 : UInt8), (118 : UInt8), (101 : UInt8)]].getD (((0 : Nat) + ((↑(UInt8.toNat (l.getD i.toNat (0 : UInt8))) : Int).tmod (6 : Int)).toNat) * (1 : Nat)) [], y1)])).length) <| .chk ((0 : Nat) = (0 : Nat) ∧ want.length + (1 : Nat) = (List.take want.length (List.drop (0 : Nat) want) ++ List.take (1 : Nat) (List.drop (0 : Nat) [([[(83 : UInt8), (101 : UInt8), (114 : UInt8), (118 : UInt8), (101 : UInt8), (114 : UInt8)], [(85 : UInt8), (112 : UInt8), (103 : UInt8), (114 : UInt8), (97 : UInt8), (100 : UInt8), (101 : UInt8)], [(83 : UInt8), (101 : UInt8), (116 : UInt8), (45 : UInt8), (67 : UInt8), (111 : UInt8), (111 : UInt8), (107 : UInt8), (105 : UInt8), (101 : UInt8)], [(116 : UInt8), (101 : UInt8)], [(67 : UInt8), (111 : UInt8), (110 : UInt8), (116 : UInt8), (101 : UInt8), (110 : UInt8), (116 : UInt8), (45 : UInt8), (84 : UInt8), (121 : UInt8), (112 : UInt8), (101 : UInt8)], [(75 : UInt8), (101 : UInt8), (101 : UInt8), (112 : UInt8), (45 : UInt8), (65 : UInt8), (108 : UInt8), (105 : UInt8), (118 : UInt8), (101 : UInt8)]].getD (((0 : Nat) + ((↑(UInt8.toNat (l.getD i.toNat (0 : UInt8))) : Int).tmod (6 : Int)).toNat) * (1 : Nat)) [], y1)])).length) <| .ret (.inl (List.take Fields.length (List.drop (0 : Nat) Fields) ++ List.take (1 : Nat) (List.drop (0 : Nat) [([[(83 : UInt8), (101 : UInt8), (114 : UInt8), (118 : UInt8), (101 : UInt8), (114 : UInt8)], [(85 : UInt8), (112 : UInt8), (103 : UInt8), (114 : UInt8), (97 : UInt8), (100 : UInt8), (101 : UInt8)], [(83 : UInt8), (101 : UInt8), (116 : UInt8), (45 : UInt8), (67 : UInt8), (111 : UInt8), (111 : UInt8), (107 : UInt8), (105 : UInt8), (101 : UInt8)], [(116 : UInt8), (101 : UInt8)], [(67 : UInt8), (111 : UInt8), (110 : UInt8), (116 : UInt8), (101 : UInt8), (110 : UInt8), (116 : UInt8), (45 : UInt8), (84 : UInt8), (121 : UInt8), (112 : UInt8), (101 : UInt8)], [(75 : UInt8), (101 : UInt8), (101 : UInt8), (112 : UInt8), (45 : UInt8), (65 : UInt8), (108 : UInt8), (105 : UInt8), (118 : UInt8), (101 : UInt8)]].getD (((0 : Nat) + ((↑(UInt8.toNat (l.getD i.toNat (0 : UInt8))) : Int).tmod (6 : Int)).toNat) * (1 : Nat)) [], y1)]), List.take want.length (List.drop (0 : Nat) want) ++ List.take (1 : Nat) (List.drop (0 : Nat) [([[(83 : UInt8), (101 : UInt8), (114 : UInt8), (118 : UInt8), (101 : UInt8), (114 : UInt8)], [(85 : UInt8), (112 : UInt8), (103 : UInt8), (114 : UInt8), (97 : UInt8), (100 : UInt8), (101 : UInt8)], [(83 : UInt8), (101 : UInt8), (116 : UInt8), (45 : UInt8), (67 : UInt8), (111 : UInt8), (111 : UInt8), (107 : UInt8), (105 : UInt8), (101 : UInt8)], [(116 : UInt8), (101 : UInt8)], [(67 : UInt8), (111 : UInt8), (110 : UInt8), (116 : UInt8), (101 : UInt8), (110 : UInt8), (116 : UInt8), (45 : UInt8), (84 : UInt8), (121 : UInt8), (112 : UInt8), (101 : UInt8)], [(75 : UInt8), (101 : UInt8), (101 : UInt8), (112 : UInt8), (45 : UInt8), (65 : UInt8), (108 : UInt8), (105 : UInt8), (118 : UInt8), (101 : UInt8)]].getD (((0 : Nat) + ((↑(UInt8.toNat (l.getD i.toNat (0 : UInt8))) : Int).tmod (6 : Int)).toNat) * (1 : Nat)) [], y1)]), IntKind.i64.wrap (i + (1 : Int)))))
    (.chk ((0 : Nat) = (0 : Nat) ∧ Fields.length + (1 : Nat) = (List.take Fields.length (List.drop (0 : Nat) Fields) ++ List.take (1 : Nat) (List.drop (0 : Nat) [([[(83 : UInt8), (101 : UInt8), (114 : UInt8), (118 : UInt8), (101 : UInt8), (114 : UInt8)], [(85 : UInt8), (112 : UInt8), (103 : UInt8), (114 : UInt8), (97 : UInt8), (100 : UInt8), (101 : UInt8)], [(83 : UInt8), (101 : UInt8), (116 : UInt8), (45 : UInt8), (67 : UInt8), (111 : UInt8), (111 : UInt8), (107 : UInt8), (105 : UInt8), (101 : UInt8)], [(116 : UInt8), (101 : UInt8)], [(67 : UInt8), (111 : UInt8), (110 : UInt8), (116 : UInt8), (101 : UInt8), (110 : UInt8), (116 : UInt8), (45 : UInt8), (84 : UInt8), (121 : UInt8), (112 : UInt8), (101 : UInt8)], [(75 : UInt8), (101 : UInt8), (101 : UInt8), (112 : UInt8), (45 : UInt8), (65 : UInt8), (108 : UInt8), (105 : UInt8), (118 : UInt8), (101 : UInt8)]].getD (((0 : Nat) + ((↑(UInt8.toNat (l.getD i.toNat (0 : UInt8))) : Int).tmod (6 : Int)).toNat) * (1 : Nat)) [], y1)])).length) <| .okl want.length <| .ret (.inl (List.take Fields.length (List.drop (0 : Nat) Fields) ++ List.take (1 : Nat) (List.drop (0 : Nat) [([[(83 : UInt8), (101 : UInt8), (114 : UInt8), (118 : UInt8), (101 : UInt8), (114 : UInt8)], [(85 : UInt8), (112 : UInt8), (103 : UInt8), (114 : UInt8), (97 : UInt8), (100 : UInt8), (101 : UInt8)], [(83 : UInt8), (101 : UInt8), (116 : UInt8), (45 : UInt8), (67 : UInt8), (111 : UInt8), (111 : UInt8), (107 : UInt8), (105 : UInt8), (101 : UInt8)], [(116 : UInt8), (101 : UInt8)], [(67 : UInt8), (111 : UInt8), (110 : UInt8), (116 : UInt8), (101 : UInt8), (110 : UInt8), (116 : UInt8), (45 : UInt8), (84 : UInt8), (121 : UInt8), (112 : UInt8), (101 : UInt8)], [(75 : UInt8), (101 : UInt8), (101 : UInt8), (112 : UInt8), (45 : UInt8), (65 : UInt8), (108 : UInt8), (105 : UInt8), (118 : UInt8), (101 : UInt8)]].getD (((0 : Nat) + ((↑(UInt8.toNat (l.getD i.toNat (0 : UInt8))) : Int).tmod (6 : Int)).toNat) * (1 : Nat)) [], y1)]), want, IntKind.i64.wrap (i + (1 : Int))))))
   (.twice <| .call (ref1_Put.f i) fun y1 =>
    .chk ((0 : Int) ≤ i ∧ i < (↑l.length : Int)) <| .chk (i.toNat < l.length) <| .chk ((0 : Int) ≤ (↑(UInt8.toNat (l.getD i.toNat (0 : UInt8))) : Int).tmod (6 : Int) ∧ (↑(UInt8.toNat (l.getD i.toNat (0 : UInt8))) : Int).tmod (6 : Int) < (6 : Int)) <| .chk (((0 : Nat) + ((↑(UInt8.toNat (l.getD i.toNat (0 : UInt8))) : Int).tmod (6 : Int)).toNat) * (1 : Nat) < (6 : Nat)) <| .chk ((1 : Nat) ≤ [([[(83 : UInt8), (101 : UInt8), (114 : UInt8), (118 : UInt8), (101 : UInt8), (114 : UInt8)], [(85 : UInt8), (112 : UInt8), (103 : UInt8), (114 : UInt8), (97 : UInt8), (100 : UInt8), (101 : UInt8)], [(83 : UInt8), (101 : UInt8), (116 : UInt8), (45 : UInt8), (67 : UInt8), (111 : UInt8), (111 : UInt8), (107 : UInt8), (105 : UInt8), (101 : UInt8)], [(116 : UInt8), (101 : UInt8)], [(67 : UInt8), (111 : UInt8), (110 : UInt8), (116 : UInt8), (101 : UInt8), (110 : UInt8), (116 : UInt8), (45 : UInt8), (84 : UInt8), (121 : UInt8), (112 : UInt8), (101 : UInt8)], [(75 : UInt8), (101 : UInt8), (101 : UInt8), (112 : UInt8), (45 : UInt8), (65 : UInt8), (108 : UInt8), (105 : UInt8), (118 : UInt8), (101 : UInt8)]].getD (((0 : Nat) + ((↑(UInt8.toNat (l.getD i.toNat (0 : UInt8))) : Int).tmod (6 : Int)).toNat) * (1 : Nat)) [], y1)].length) <| .chk ((0 : Nat) + Fields.length ≤ Fields.length) <| .chk ((Fields.length + (1 : Nat)) * (32 : Nat) ≤ (140737488355328 : Nat)) <| .chk ((0 : Int) ≤ i ∧ i < (↑l.length : Int)) <| .chk (i.toNat < l.length) <| .br (((↑(UInt8.toNat (l.getD i.toNat (0 : UInt8))) : Int).tmod (6 : Int)).tmod (2 : Int) == (0 : Int)) (.chk ((1 : Nat) ≤ [([[(83 : UInt8), (101 : UInt8), (114 : UInt8), (118 : UInt8), (101 : UInt8), (114 : UInt8)], [(85 : UInt8), (112 : UInt8), (103 : UInt8), (114 : UInt8), (97 : UInt8), (100 : UInt8), (101 : UInt8)], [(83 : UInt8), (101 : UInt8), (116 : UInt8), (45 : UInt8), (67 : UInt8), (111 : UInt8), (111 : UInt8), (107 : UInt8), (105 : UInt8), (101 : UInt8)], [(116 : UInt8), (101 : UInt8)], [(67 : UInt8), (111 : UInt8), (110 : UInt8), (116 : UInt8), (101 : UInt8), (110 : UInt8), (116 : UInt8), (45 : UInt8), (84 : UInt8), (121 : UInt8), (112 : UInt8), (101 : UInt8)], [(75 : UInt8), (101 : UInt8), (101 : UInt8), (112 : UInt8), (45 : UInt8), (65 : UInt8), (108 : UInt8), (105 : UInt8), (118 : UInt8), (101 : UInt8)]].getD (((0 : Nat) + ((↑(UInt8.toNat (l.getD i.toNat (0 : UInt8))) : Int).tmod (6 : Int)).toNat) * (1 : Nat)) [], y1)].length) <| .chk ((0 : Nat) + want.length ≤ want.length) <| .chk ((want.length + (1 : Nat)) * (32 : Nat) ≤ (140737488355328 : Nat)) <| .chk ((0 : Nat) = (0 : Nat) ∧ Fields.length + (1 : Nat) = (List.take Fields.length (List.drop (0 : Nat) Fields) ++ List.take (1 : Nat) (List.drop (0 : Nat) [([[(83 : UInt8), (101 : UInt8), (114 : UInt8), (118 : UInt8), (101 : UInt8), (114 : UInt8)], [(85 : UInt8), (112 : UInt8), (103 : UInt8), (114 : UInt8), (97 : UInt8), (100 : UInt8), (101 : UInt8)], [(83 : UInt8), (101 : UInt8), (116 : UInt8), (45 : UInt8), (67 : UInt8), (111 : UInt8), (111 : UInt8), (107 : UInt8), (105 : UInt8), (101 : UInt8)], [(116 : UInt8), (101 : UInt8)], [(67 : UInt8), (111 : UInt8), (110 : UInt8), (116 : UInt8), (101 : UInt8), (110 : UInt8), (116 : UInt8), (45 : UInt8), (84 : UInt8), (121 : UInt8), (112 : UInt8), (101 : UInt8)], [(75 : UInt8), (101 : UInt8), (101 : UInt8), (112 : UInt8), (45 : UInt8), (65 : UInt8), (108 : UInt8), (105 : UInt8), (118 : UInt8), (101 : UInt8)]].getD (((0 : Nat) + ((↑(UInt8.toNat (l.getD i.toNat (0 : UInt8))) : Int).tmod (6 : Int)).toNat) * (1 : Nat)) [], y1)])).length) <| .chk ((0 : Nat) = (0 : Nat) ∧ want.length + (1 : Nat) = (List.take want.length (List.drop (0 : Nat) want) ++ List.take (1 : Nat) (List.drop (0 : Nat) [([[(83 : UInt8), (101 : UInt8), (114 : UInt8), (118 : UInt8), (101 : UInt8), (114 : UInt8)], [(85 : UInt8), (112 : UInt8), (103 : UInt8), (114 : UInt8), (97 : UInt8), (100 : UInt8), (101 : UInt8)], [(83 : UInt8), (101 : UInt8), (116 : UInt8), (45 : UInt8), (67 : UInt8), (111 : UInt8), (111 : UInt8), (107 : UInt8), (105 : UInt8), (101 : UInt8)], [(116 : UInt8), (101 : UInt8)], [(67 : UInt8), (111 : UInt8), (110 : UInt8), (116 : UInt8), (101 : UInt8), (110 : UInt8), (116 : UInt8), (45 : UInt8), (84 : UInt8), (121 : UInt8), (112 : UInt8), (101 : UInt8)], [(75 : UInt8), (101 : UInt8), (101 : UInt8), (112 : UInt8), (45 : UInt8), (65 : UInt8), (108 : UInt8), (105 : UInt8), (118 : UInt8), (101 : UInt8)]].getD (((0 : Nat) + ((↑(UInt8.toNat (l.getD i.toNat (0 : UInt8))) : Int).tmod (6 : Int)).toNat) * (1 : Nat)) [], y1)])).length) <| .ret (.inl (List.take Fields.length (List.drop (0 : Nat) Fields) ++ List.take (1 : Nat) (List.drop (0 : Nat) [([[(83 : UInt8), (101 : UInt8), (114 : UInt8), (118 : UInt8), (101 : UInt8), (114 : UInt8)], [(85 : UInt8), (112 : UInt8), (103 : UInt8), (114 : UInt8), (97 : UInt8), (100 : UInt8), (101 : UInt8)], [(83 : UInt8), (101 : UInt8), (116 : UInt8), (45 : UInt8), (67 : UInt8), (111 : UInt8), (111 : UInt8), (107 : UInt8), (105 : UInt8), (101 : UInt8)], [(116 : UInt8), (101 : UInt8)], [(67 : UInt8), (111 : UInt8), (110 : UInt8), (116 : UInt8), (101 : UInt8), (110 : UInt8), (116 : UInt8), (45 : UInt8), (84 : UInt8), (121 : UInt8), (112 : UInt8), (101 : UInt8)], [(75 : UInt8), (101 : UInt8), (101 : UInt8), (112 : UInt8), (45 : UInt8), (65 : UInt8), (108 : UInt8), (105 : UInt8), (118 : UInt8), (101 : UInt8)]].getD (((0 : Nat) + ((↑(UInt8.toNat (l.getD i.toNat (0 : UInt8))) : Int).tmod (6 : Int)).toNat) * (1 : Nat)) [], y1)]), List.take want.length (List.drop (0 : Nat) want) ++ List.take (1 : Nat) (List.drop (0 : Nat) [([[(83 : UInt8), (101 : UInt8), (114 : UInt8), (118 : UInt8), (101 : UInt8), (114 : UInt8)], [(85 : UInt8), (112 : UInt8), (103 : UInt8), (114 : UInt8), (97 : UInt8), (100 : UInt8), (101 : UInt8)], [(83 : UInt8), (101 : UInt8), (116 : UInt8), (45 : UInt8), (67 : UInt8), (111 : UInt8), (111 : UInt8), (107 : UInt8), (105 : UInt8), (101 : UInt8)], [(116 : UInt8), (101 : UInt8)], [(67 : UInt8), (111 : UInt8), (110 : UInt8), (116 : UInt8), (101 : UInt8), (110 : UInt8), (116 : UInt8), (45 : UInt8), (84 : UInt8), (121 : UInt8), (112 : UInt8), (101 : UInt8)], [(75 : UInt8), (101 : UInt8), (101 : UInt8), (112 : UInt8), (45 : UInt8), (65 : UInt8), (108 : UInt8), (105 : UInt8), (118 : UInt8), (101 : UInt8)]].getD (((0 : Nat) + ((↑(UInt8.toNat (l.getD i.toNat (0 : UInt8))) : Int).tmod (6 : Int)).toNat) * (1 : Nat)) [], y1)]), IntKind.i64.wrap (i + (1 : Int)))))
    (.chk ((0 : Nat) = (0 : Nat) ∧ Fields.length + (1 : Nat) = (List.take Fields.length (List.drop (0 : Nat) Fields) ++ List.take (1 : Nat) (List.drop (0 : Nat) [([[(83 : UInt8), (101 : UInt8), (114 : UInt8), (118 : UInt8), (101 : UInt8), (114 : UInt8)], [(85 : UInt8), (112 : UInt8), (103 : UInt8), (114 : UInt8), (97 : UInt8), (100 : UInt8), (101 : UInt8)], [(83 : UInt8), (101 : UInt8), (116 : UInt8), (45 : UInt8), (67 : UInt8), (111 : UInt8), (111 : UInt8), (107 : UInt8), (105 : UInt8), (101 : UInt8)], [(116 : UInt8), (101 : UInt8)], [(67 : UInt8), (111 : UInt8), (110 : UInt8), (116 : UInt8), (101 : UInt8), (110 : UInt8), (116 : UInt8), (45 : UInt8), (84 : UInt8), (121 : UInt8), (112 : UInt8), (101 : UInt8)], [(75 : UInt8), (101 : UInt8), (101 : UInt8), (112 : UInt8), (45 : UInt8), (65 : UInt8), (108 : UInt8), (105 : UInt8), (118 : UInt8), (101 : UInt8)]].getD (((0 : Nat) + ((↑(UInt8.toNat (l.getD i.toNat (0 : UInt8))) : Int).tmod (6 : Int)).toNat) * (1 : Nat)) [], y1)])).length) <| .okl want.length <| .ret (.inl (List.take Fields.length (List.drop (0 : Nat) Fields) ++ List.take (1 : Nat) (List.drop (0 : Nat) [([[(83 : UInt8), (101 : UInt8), (114 : UInt8), (118 : UInt8), (101 : UInt8), (114 : UInt8)], [(85 : UInt8), (112 : UInt8), (103 : UInt8), (114 : UInt8), (97 : UInt8), (100 : UInt8), (101 : UInt8)], [(83 : UInt8), (101 : UInt8), (116 : UInt8), (45 : UInt8), (67 : UInt8), (111 : UInt8), (111 : UInt8), (107 : UInt8), (105 : UInt8), (101 : UInt8)], [(116 : UInt8), (101 : UInt8)], [(67 : UInt8), (111 : UInt8), (110 : UInt8), (116 : UInt8), (101 : UInt8), (110 : UInt8), (116 : UInt8), (45 : UInt8), (84 : UInt8), (121 : UInt8), (112 : UInt8), (101 : UInt8)], [(75 : UInt8), (101 : UInt8), (101 : UInt8), (112 : UInt8), (45 : UInt8), (65 : UInt8), (108 : UInt8), (105 : UInt8), (118 : UInt8), (101 : UInt8)]].getD (((0 : Nat) + ((↑(UInt8.toNat (l.getD i.toNat (0 : UInt8))) : Int).tmod (6 : Int)).toNat) * (1 : Nat)) [], y1)]), want, IntKind.i64.wrap (i + (1 : Int))))))))))
 (.okl Fields.length <| .okl want.length <| .ret (.inr (Fields, want)))
def f (Fields : List (List UInt8 × List UInt8)) (want : List (List UInt8 × List UInt8)) (l : List UInt8) (i : Int) : Option ((List (List UInt8 × List UInt8)) × (List (List UInt8 × List UInt8))) := Loop (fun z : (List (List UInt8 × List UInt8)) × (List (List UInt8 × List UInt8)) × Int => t z.1 z.2.1 l z.2.2) (Fields, want, i)
def F (x : D.den) : Option ((List (List UInt8 × List UInt8)) × (List (List UInt8 × List UInt8))) := f x.1.2.1 x.1.2.2.1 x.2.1 x.2.2.2.2.2.2
def pa : D.den → ((List (List UInt8 × List UInt8)) × (List (List UInt8 × List UInt8))) → A.den := fun (((Code, (_, Body)), (_, (_, _))), (_, (body, (name, (_, (_, _)))))) (y1, y2) => (((Code, ((), Body)), (y1, (y2, ()))), (body, (name, ((), ()))))
def lap : Lap := tlap 9 90 [0, 2, 7, 8, 9, 10] D (.exit 0) [2, 7, 8, 9] A pa F
def pk (x : D.den) (z : (List (List UInt8 × List UInt8)) × (List (List UInt8 × List UInt8)) × Int) : D.den := (((x.1.1.1, ((), x.1.1.2.2)), (z.1, (z.2.1, ()))), (x.2.1, (x.2.2.1, (x.2.2.2.1, ((), ((), z.2.2))))))
def un (x : D.den) : (List (List UInt8 × List UInt8)) × (List (List UInt8 × List UInt8)) × Int := (x.1.2.1, x.1.2.2.1, x.2.2.2.2.2.2)
def body (x : D.den) (z : (List (List UInt8 × List UInt8)) × (List (List UInt8 × List UInt8)) × Int) : Tr (((List (List UInt8 × List UInt8)) × (List (List UInt8 × List UInt8)) × Int) ⊕ ((List (List UInt8 × List UInt8)) × (List (List UInt8 × List UInt8)))) := t z.1 z.2.1 x.2.1 z.2.2
theorem ok : LapOk Tryz.prog 0 (codeOf Tryz.prog 5) lap := tlap_ok Base.mixed Base.prog_ok bk_law27_known_ok (by kernel_rfl) (by kernel_rfl) LapsOk.nil 9 pk un body (fun _ _ => rfl) (fun _ _ => rfl) (fun _ _ => rfl) (fun _ => rfl) fun _ _ _ _ => (by kernel_rfl)
end L9
def A : Dom := ⟨[], .bool⟩
def sel : List Nat := [0, 1, 2]
def t (l : List UInt8) (via : UInt8) (body : List UInt8) : Tr (Bool) :=
 .call (law27_known.f) fun y1 =>
 .br (!y1) (.ret false)
 (.br (decide ((↑l.length : Int) > (10 : Int))) (.ret true)
  (.br (decide ((↑body.length : Int) > (40 : Int))) (.ret true)
  (.call (law27_ReplyRelays.L9.f [] [] l (0 : Int)) fun (y2a, y2b) =>
   .chk ((↑([(49 : UInt8), (46 : UInt8), (49 : UInt8), (32 : UInt8)].length + [UInt8.ofNat (IntKind.u8.wrap ((97 : Int) + (Int.ofNat via.toNat).tmod (26 : Int))).toNat].length) : Int) ≤ (9223372036854775807 : Int)) <| .chk ((1 : Nat) ≤ [([(86 : UInt8), (105 : UInt8), (97 : UInt8)], [(49 : UInt8), (46 : UInt8), (49 : UInt8), (32 : UInt8)] ++ [UInt8.ofNat (IntKind.u8.wrap ((97 : Int) + (Int.ofNat via.toNat).tmod (26 : Int))).toNat])].length) <| .chk ((0 : Nat) + y2b.length ≤ y2b.length) <| .chk ((y2b.length + (1 : Nat)) * (32 : Nat) ≤ (140737488355328 : Nat)) <| .chk ((0 : Nat) + y2a.length ≤ y2a.length) <| .call (reply_Relay.f (List.take y2a.length (List.drop (0 : Nat) y2a)) body [UInt8.ofNat (IntKind.u8.wrap ((97 : Int) + (Int.ofNat via.toNat).tmod (26 : Int))).toNat]) fun y3 =>
   .chk ((0 : Nat) + body.length ≤ body.length) <| .br ((200 : Int) == (200 : Int)) (.br (List.take body.length (List.drop (0 : Nat) body) == body) (.chk ((0 : Nat) + y3.length ≤ y3.length) <| .chk ((0 : Nat) + (y2b.length + (1 : Nat)) ≤ (List.take y2b.length (List.drop (0 : Nat) y2b) ++ List.take (1 : Nat) (List.drop (0 : Nat) [([(86 : UInt8), (105 : UInt8), (97 : UInt8)], [(49 : UInt8), (46 : UInt8), (49 : UInt8), (32 : UInt8)] ++ [UInt8.ofNat (IntKind.u8.wrap ((97 : Int) + (Int.ofNat via.toNat).tmod (26 : Int))).toNat])])).length) <| .call (ref1_Fields.f (List.take y3.length (List.drop (0 : Nat) y3)) (List.take (y2b.length + (1 : Nat)) (List.drop (0 : Nat) (List.take y2b.length (List.drop (0 : Nat) y2b) ++ List.take (1 : Nat) (List.drop (0 : Nat) [([(86 : UInt8), (105 : UInt8), (97 : UInt8)], [(49 : UInt8), (46 : UInt8), (49 : UInt8), (32 : UInt8)] ++ [UInt8.ofNat (IntKind.u8.wrap ((97 : Int) + (Int.ofNat via.toNat).tmod (26 : Int))).toNat])]))))) fun y4 =>
    .ret y4)
   (.ret false))
   (.ret false))))
def f (l : List UInt8) (via : UInt8) (body : List UInt8) : Option (Bool) := (t l via body).val
def F (x : D.den) : Option (Bool) := f x.2.1 x.2.2.1 x.2.2.2
def pa : D.den → (Bool) → A.den := fun (_, (_, (_, _))) y1 => ((), y1)
def con : Con := tcon D A pa F
theorem ok : ConOk Tryz.prog 5 con := tcon_ok Base.mixed Base.prog_ok bk_law27_known_ok (by kernel_rfl) (.cons L9.ok (by kernel_rfl) (.nil)) 9 (fun _ => rfl) (fun x => t x.2.1 x.2.2.1 x.2.2.2) (fun _ => rfl) fun _ _ _ => (by kernel_rfl)
theorem law_ok (h : ∀ x, (lawCon [(.sl .byte), .byte, (.sl .byte)]).pre x → F x = some true) : ConOk Tryz.prog 5 (lawCon [(.sl .byte), .byte, (.sl .byte)]) := Go.Vx.law_ok ok h
end law27_ReplyRelays
end Go.Vx
end
section
set_option linter.unusedVariables false
set_option linter.unusedSimpArgs false
namespace Go.Vx
theorem w64 {n : Int} (h0 : -9223372036854775808 ≤ n) (h1 : n < 9223372036854775808) : IntKind.i64.wrap n = n := by
 simp only [IntKind.wrap, IntKind.signed, IntKind.bits, if_true]
 simp
 omega
theorem wS {k : Nat} (h : k < 4611686018427387904) : IntKind.i64.wrap ((k : Int) + 1) = ((k + 1 : Nat) : Int) := by rw [w64 (by omega) (by omega)]; omega
theorem Tr.val_chk {α : Type} {p : Prop} [Decidable p] {a : Tr α} (h : p) : (Tr.chk p a).val = a.val := if_pos h
theorem Tr.val_call {α β : Type} {o : Option β} {k : β → Tr α} {y : β} (h : o = some y) : (Tr.call o k).val = (k y).val := by subst h; rfl
theorem Tr.val_inl {α β γ : Type} {o : Option (β ⊕ γ)} {k : β → Tr α} {l : γ → Tr α} {y : β} (h : o = some (.inl y)) : (Tr.both o k l).val = (k y).val := by subst h; rfl
def foldE {α A ρ : Type} (step : A → α → A ⊕ ρ) (fin : A → ρ) : A → List α → ρ
 | a, [] => fin a
 | a, c :: l => match step a c with
  | .inl a' => foldE step fin a' l
  | .inr r => r
theorem iter_list {α A σ ρ : Type} {body : σ → Tr (σ ⊕ ρ)} (s : List α) (st : Nat → A → σ) (inv : Nat → A → Prop) (step : A → α → A ⊕ ρ) (fin : A → ρ)
  (hs : ∀ (k : Nat) (a : A) (c : α), inv k a → (hk : k < s.length) → s[k]'hk = c → (body (st k a)).val = some (match step a c with
   | .inl a' => .inl (st (k + 1) a')
   | .inr r => .inr r) ∧ ∀ a', step a c = .inl a' → inv (k + 1) a')
  (he : ∀ a, inv s.length a → (body (st s.length a)).val = some (.inr (fin a))) :
  ∀ (n k : Nat) (a : A), inv k a → k ≤ s.length → s.length - k < n → iter body n (st k a) = some (foldE step fin a (s.drop k)) := by
 intro n
 induction n with
 | zero => intro k a _ _ h; omega
 | succ n ih =>
  intro k a hi hk hn
  rw [iter]
  by_cases hl : k < s.length
  ·obtain ⟨h1, h2⟩ := hs k a _ hi hl rfl
   rw [h1, List.drop_eq_getElem_cons hl, foldE]
   cases e : step a s[k] with
   | inr r => rfl
   | inl a' => exact ih (k + 1) a' (h2 a' e) (by omega) (by omega)
  ·have hkl : k = s.length := by omega
   subst hkl
   rw [he a hi, List.drop_length, foldE]
theorem Loop_list {α A σ ρ : Type} {body : σ → Tr (σ ⊕ ρ)} (s : List α) (st : Nat → A → σ) (inv : Nat → A → Prop) (step : A → α → A ⊕ ρ) (fin : A → ρ)
  (hs : ∀ (k : Nat) (a : A) (c : α), inv k a → (hk : k < s.length) → s[k]'hk = c → (body (st k a)).val = some (match step a c with
   | .inl a' => .inl (st (k + 1) a')
   | .inr r => .inr r) ∧ ∀ a', step a c = .inl a' → inv (k + 1) a')
  (he : ∀ a, inv s.length a → (body (st s.length a)).val = some (.inr (fin a))) (hn : s.length < 1125899906842624) {a : A} (hi : inv 0 a) {s0 : σ} (h0 : s0 = st 0 a) : Loop body s0 = some (foldE step fin a s) := by
 subst h0
 have := iter_list s st inv step fin hs he rounds 0 a hi (Nat.zero_le _) (by unfold rounds; omega)
 rw [List.drop_zero] at this
 exact this
theorem getD_nat {α : Type} {s : List α} {k : Nat} {c : α} {d : α} (hk : k < s.length) (hc : s[k]'hk = c) : s.getD k d = c := by
 rw [List.getD_eq_getElem?_getD, List.getElem?_eq_getElem hk, hc]; rfl
theorem getD_at {α : Type} {s : List α} {k : Nat} {c : α} {d : α} (hk : k < s.length) (hc : s[k]'hk = c) : s.getD (k : Int).toNat d = c := by
 rw [Int.toNat_natCast, List.getD_eq_getElem?_getD, List.getElem?_eq_getElem hk, hc]; rfl
end Go.Vx
end
section
set_option linter.unusedVariables false
set_option linter.unusedSimpArgs false
set_option maxRecDepth 100000
namespace Go.Vx
namespace Pl
theorem all256 {p : UInt8 → Bool} (h : ((List.range 256).all fun n => p (UInt8.ofNat n)) = true) (c : UInt8) : p c = true := by
 have := List.all_eq_true.1 h c.toNat (List.mem_range.2 (UInt8.toNat_lt c))
 simpa using this
def lowerC (c : UInt8) : UInt8 := if decide (65 ≤ c) && decide (c ≤ 90) then c + 32 else c
def scan {α ρ : Type} (step : Nat → α → Option ρ) (fin : ρ) : Nat → List α → ρ
 | _, [] => fin
 | k, c :: l => match step k c with
  | none => scan step fin (k + 1) l
  | some r => r
theorem scan_foldE {α ρ : Type} (step : Nat → α → Option ρ) (fin : ρ) : ∀ (l : List α) (k : Nat), foldE (fun (a : Nat) c => match step a c with
  | none => .inl (a + 1)
  | some r => .inr r) (fun _ => fin) k l = scan step fin k l
 | [], _ => rfl
 | c :: l, k => by
  rw [foldE, scan]
  cases step k c with
  | none => exact scan_foldE step fin l (k + 1)
  | some r => rfl
theorem Loop_scan {α ρ : Type} {body : Int → Tr (Int ⊕ ρ)} (s : List α) (step : Nat → α → Option ρ) (fin : ρ)
  (hs : ∀ (k : Nat) (c : α), (hk : k < s.length) → s[k]'hk = c → (body (k : Int)).val = some (match step k c with
   | none => .inl ((k + 1 : Nat) : Int)
   | some r => .inr r)) (he : (body (s.length : Int)).val = some (.inr fin)) (hn : s.length < 1125899906842624) : Loop body 0 = some (scan step fin 0 s) := by
 rw [← scan_foldE]
 refine Loop_list s (fun k _ => (k : Int)) (fun k a => a = k) (fun a c => match step a c with
  | none => .inl (a + 1)
  | some r => .inr r) (fun _ => fin) (fun k a c hi hk hc => ?_) (fun a _ => he) hn rfl rfl
 subst hi
 rw [hs a c hk hc]
 cases step a c with
 | none => exact ⟨rfl, fun a' h => by cases h; rfl⟩
 | some r => exact ⟨rfl, fun a' h => by cases h⟩
theorem lt_nat {k n : Nat} : decide ((k : Int) < (n : Int)) = decide (k < n) := by simp
end Pl
end Go.Vx
end
section
set_option linter.unusedVariables false
set_option linter.unusedSimpArgs false
set_option maxRecDepth 100000
namespace Go.Vx
namespace Pl
open Go
def lower (s : List UInt8) : List UInt8 := s.map lowerC
def same (a b : List UInt8) : Bool := lower a == lower b
def before (c : UInt8) (s : List UInt8) : List UInt8 := s.takeWhile (· != c)
def after (c : UInt8) (s : List UInt8) : List UInt8 := (s.dropWhile (· != c)).drop 1
def findS (l : List (List UInt8 × List UInt8)) (name : List UInt8) : List (List UInt8) := (l.filter fun f => same f.1 name).map (·.2)
end Pl
end Go.Vx
end
section
set_option linter.unusedVariables false
set_option linter.unusedSimpArgs false
set_option maxRecDepth 100000
namespace Go.Vx
namespace Pl
open Go Go.Proofs
theorem lower_set {s : List UInt8} {k : Nat} (hk : k < s.length) (b : UInt8) : ((s.take k).map lowerC ++ s.drop k).set k b = (s.take k).map lowerC ++ b :: s.drop (k + 1) := by
 rw [List.set_append_right _ _ (by simp; omega)]
 have e : k - ((s.take k).map lowerC).length = 0 := by simp; omega
 rw [e, List.drop_eq_getElem_cons hk]
 rfl
theorem lower_next {s : List UInt8} {k : Nat} (hk : k < s.length) : (s.take (k + 1)).map lowerC ++ s.drop (k + 1) = (s.take k).map lowerC ++ lowerC s[k] :: s.drop (k + 1) := by
 rw [List.take_add_one, List.getElem?_eq_getElem hk, List.map_append, List.append_assoc]
 rfl
theorem lower_at {s : List UInt8} {k : Nat} (hk : k < s.length) : ((s.take k).map lowerC ++ s.drop k).getD k 0 = s[k] := by
 rw [List.getD_eq_getElem?_getD, List.getElem?_append_right (by simp; omega)]
 simp [Nat.min_eq_left (Nat.le_of_lt hk), hk]
theorem lower_len {s : List UInt8} {k : Nat} (hk : k ≤ s.length) : ((s.take k).map lowerC ++ s.drop k).length = s.length := by
 simp; omega
theorem lower_byte (c : UInt8) (h1 : (c.toNat : Int) ≥ 65) (h2 : (c.toNat : Int) ≤ 90) : IntKind.u8.wrap (IntKind.u8.wrap ((c.toNat : Int) + 97) - 65) = ((c.toNat + 32 : Nat) : Int) ∧ UInt8.ofNat (c.toNat + 32) = lowerC c := by
 have := all256 (p := fun c => !(decide ((c.toNat : Int) ≥ 65) && decide ((c.toNat : Int) ≤ 90)) || (decide (IntKind.u8.wrap (IntKind.u8.wrap ((c.toNat : Int) + 97) - 65) = ((c.toNat + 32 : Nat) : Int)) && (UInt8.ofNat (c.toNat + 32) == lowerC c))) (by decide +kernel) c
 simpa [h1, h2] using this
theorem lower_not (c : UInt8) (h : ¬ ((c.toNat : Int) ≥ 65 ∧ (c.toNat : Int) ≤ 90)) : lowerC c = c := by
 have := all256 (p := fun c => (decide ((c.toNat : Int) ≥ 65) && decide ((c.toNat : Int) ≤ 90)) || (lowerC c == c)) (by decide +kernel) c
 simpa [h] using this
theorem text_Lower_f {s : List UInt8} (hn : s.length < 140737488355328) : text_Lower.f s = some (lower s) := by
 have hL : text_Lower.L3.f s (s.length : Int) 0 = some (lower s) := by
  unfold text_Lower.L3.f
  refine (Loop_list (A := Unit) (a := ()) s (fun k _ => ((s.take k).map lowerC ++ s.drop k, (k : Int))) (fun _ _ => True) (fun _ _ => .inl ()) (fun _ => lower s) ?_ ?_ (by omega) trivial (by simp)).trans ?_
  ·intro k a c _ hk hc
   refine ⟨?_, fun _ _ => trivial⟩
   subst hc
   have hw := wS (k := k) (by omega)
   have ha := lower_at hk
   have hl := lower_len (Nat.le_of_lt hk)
   unfold text_Lower.L3.t
   simp only [Int.toNat_natCast, Nat.zero_add, ha, hl, lt_nat, decide_eq_true hk, hw, lower_next hk]
   by_cases h1 : (s[k].toNat : Int) ≥ 65
   ·by_cases h2 : (s[k].toNat : Int) ≤ 90
    ·obtain ⟨q1, q2⟩ := lower_byte s[k] h1 h2
     rw [q1]
     simp only [Tr.val, h1, h2, decide_true, cond_true, Int.toNat_natCast, q2, lower_set hk, List.length_set, hl]
     simp [hk]
     omega
    ·have := lower_not s[k] (fun h => h2 h.2)
     simp only [Tr.val, h1, h2, decide_true, decide_false, cond_true, cond_false, this]
     simp [hk]
   ·have := lower_not s[k] (fun h => h1 h.1)
    simp only [Tr.val, h1, decide_true, decide_false, cond_true, cond_false, this]
    simp [hk]
  ·intro a _
   simp [text_Lower.L3.t, Tr.val, lower]
  ·have : ∀ (l : List UInt8), foldE (fun (_ : Unit) (_ : UInt8) => (Sum.inl () : Unit ⊕ List UInt8)) (fun _ => lower s) () l = lower s := by
    intro l
    induction l with
    | nil => rfl
    | cons c l ih => exact ih
   rw [this]
 unfold text_Lower.f text_Lower.t
 rw [List.nil_append, hL]
 simp [Tr.val]
 omega
theorem text_Same_f {a b : List UInt8} (ha : a.length < 140737488355328) (hb : b.length < 140737488355328) : text_Same.f a b = some (same a b) := by
 unfold text_Same.f text_Same.t
 rw [text_Lower_f ha, text_Lower_f hb]
 rfl
theorem take_all {α : Type} (l : List α) : List.take l.length (List.drop 0 l) = l := by simp
def idxV : Unit ⊕ Int → Int
 | .inl _ => -1
 | .inr j => j
def idxStep {α : Type} (p : α → Bool) (k : Nat) (c : α) : Option (Unit ⊕ Int) := if p c = true then some (.inr (k : Int)) else none
theorem idx_scan {α : Type} (p : α → Bool) : ∀ (l : List α) (k : Nat), idxV (scan (idxStep p) (.inl ()) k l) = if l.any p = true then ((k + l.findIdx p : Nat) : Int) else -1
 | [], _ => rfl
 | c :: l, k => by
  rw [scan, idxStep, List.any_cons, List.findIdx_cons]
  by_cases h : p c = true
  ·simp [h, idxV]
  ·have h' : p c = false := by simpa using h
   simp only [h', Bool.false_eq_true, if_false, Bool.false_or, cond_false]
   rw [idx_scan p l (k + 1)]
   split
   ·congr 1; omega
   ·rfl
theorem idx_ge {α : Type} (p : α → Bool) (l : List α) : decide (idxV (scan (idxStep p) (.inl ()) 0 l) ≥ 0) = l.any p := by
 rw [idx_scan]
 cases l.any p <;> simp
theorem idx_t (q : Unit ⊕ Int) {k : Unit → Tr Int} (hk : k () = .ret (-1)) : (Tr.both (some q) k (fun y => Tr.ret y)).val = some (idxV q) := by
 cases q with
 | inl u => cases u; show (k ()).val = _; rw [hk]; rfl
 | inr j => rfl
theorem gather {α β : Type} (g : α → List β) : ∀ (l : List α) (out : List β), foldE (fun out x => (Sum.inl (out ++ g x) : List β ⊕ List β)) id out l = out ++ l.flatMap g
 | [], out => by simp [foldE]
 | x :: l, out => by
  show foldE (fun out x => (Sum.inl (out ++ g x) : List β ⊕ List β)) id (out ++ g x) l = _
  rw [gather g l]; simp
theorem find_loop {l : List (List UInt8 × List UInt8)} {name : List UInt8} (h1 : ∀ f ∈ l, f.1.length < 140737488355328) (hname : name.length < 140737488355328) (h2 : l.length ≤ 4398046511104) : text_Find.f l name = some (findS l name) := by
 have hL : text_Find.L3.f l [] name (l.length : Int) 0 = some (findS l name) := by
  unfold text_Find.L3.f
  refine (Loop_list (A := List (List UInt8)) (a := []) l (fun k o => (o, (k : Int))) (fun k o => o.length ≤ k) (fun o x => .inl (o ++ if same x.1 name = true then [x.2] else [])) id ?_ ?_ (by omega) (by simp) rfl).trans ?_
  ·intro k o x ho hk hx
   have hw := wS (k := k) (by omega)
   have hx' := h1 x (by rw [← hx]; exact List.getElem_mem hk)
   refine ⟨?_, fun a' h => by cases h; split <;> simp <;> omega⟩
   unfold text_Find.L3.t
   simp only [Nat.zero_add, getD_at hk hx, text_Same_f hx' hname, Tr.val, lt_nat, decide_eq_true hk, cond_true, take_all, hw]
   rw [if_pos (by omega), if_pos (by simpa using hk)]
   cases hs : same x.1 name with
   | true =>
    simp only [cond_true, if_true]
    rw [if_pos (by omega), if_pos (by omega), if_pos (by simp)]
   | false => simp
  ·intro o _
   simp [text_Find.L3.t, Tr.val]
  ·congr 1
   rw [gather]
   unfold findS
   clear h1 h2
   induction l with
   | nil => rfl
   | cons x l ih =>
    simp only [List.nil_append, List.flatMap_cons] at ih ⊢
    rw [ih, List.filter_cons]
    split <;> simp
 unfold text_Find.f text_Find.t
 rw [hL]; rfl
theorem vokl {α : Type} (n : Nat) (a : Tr α) : (Tr.okl n a).val = a.val := rfl
def FitF (l : List (List UInt8 × List UInt8)) : Prop := l.length ≤ 1000000 ∧ ∀ f ∈ l, f.1.length ≤ 1000000 ∧ f.2.length ≤ 1000000
theorem find_f {l : List (List UInt8 × List UInt8)} {name : List UInt8} (h : FitF l) (hname : name.length ≤ 1000000) : text_Find.f l name = some (findS l name) :=
 find_loop (fun f hf => by have := (h.2 f hf).1; omega) (by omega) (by have := h.1; omega)
theorem go_call {α β : Type} {o : Option β} {k : β → Tr α} {y : β} {r : Option α} (h : o = some y) (hk : (k y).val = r) : (Tr.call o k).val = r := by subst h; exact hk
theorem go_chk {α : Type} {p : Prop} [Decidable p] {a : Tr α} {r : Option α} (h : p) (hk : a.val = r) : (Tr.chk p a).val = r := by rw [Tr.val_chk h]; exact hk
theorem go_t {α : Type} {b : Bool} {x y : Tr α} {r : Option α} (h : b = true) (hk : x.val = r) : (Tr.br b x y).val = r := by subst h; exact hk
theorem go_f {α : Type} {b : Bool} {x y : Tr α} {r : Option α} (h : b = false) (hk : y.val = r) : (Tr.br b x y).val = r := by subst h; exact hk
theorem Loop_count {σ ρ : Type} {body : σ → Tr (σ ⊕ ρ)} (N : Nat) (st : Nat → σ) (r : ρ) (hs : ∀ k, k < N → (body (st k)).val = some (.inl (st (k + 1)))) (he : (body (st N)).val = some (.inr r)) (hN : N < 1125899906842624) {s0 : σ} (h0 : s0 = st 0) : Loop body s0 = some r := by
 refine (Loop_list (A := Unit) (a := ()) (List.replicate N ()) (fun k _ => st k) (fun _ _ => True) (fun _ _ => .inl ()) (fun _ => r) ?_ ?_ (by simpa using hN) trivial h0).trans ?_
 ·intro k a c _ hk _
  exact ⟨hs k (by simpa using hk), fun _ _ => trivial⟩
 ·intro _ _
  simpa using he
 ·have : ∀ (m : List Unit), foldE (fun (_ : Unit) (_ : Unit) => (Sum.inl () : Unit ⊕ ρ)) (fun _ => r) () m = r := by
   intro m
   induction m with
   | nil => rfl
   | cons c m ih => exact ih
  rw [this]
end Pl
end Go.Vx
end
section
set_option linter.unusedVariables false
set_option linter.unusedSimpArgs false
set_option maxRecDepth 100000
namespace Go.Vx
namespace Pl
open Go Go.Proofs
abbrev Bs := List UInt8
abbrev Fs := List (List UInt8 × List UInt8)
theorem take_one {α : Type} (x : α) : List.take 1 [x] = [x] := rfl
theorem one_drop {α : Type} (x : α) : List.take 1 (List.drop 0 [x]) = [x] := rfl
theorem take_snoc {α : Type} (l : List α) (x : α) : List.take (l.length + 1) (l ++ [x]) = l ++ [x] := List.take_of_length_le (by simp)
theorem any_without {l : List Bs} {what : Bs} (hn : l.length < 1125899906842624) (hs : ∀ x ∈ l, x.length ≤ 1000000) (hw : what.length ≤ 1000000) : slices_ContainsFunc_f_text_Without_1.f l what = some (l.any fun x => same what x) := by
 have hL : slices_IndexFunc_f_text_Without_1.L2.f l what (l.length : Int) 0 = some (scan (idxStep fun x => same what x) (.inl ()) 0 l) := by
  unfold slices_IndexFunc_f_text_Without_1.L2.f
  refine Loop_scan l (idxStep fun x => same what x) (.inl ()) (fun k c hk hc => ?_) ?_ hn
  ·have hw' := wS (k := k) (by omega)
   have hcl := hs c (by rw [← hc]; exact List.getElem_mem hk)
   have f1 : text_Without_1.f what c = some (same what c) := by
    unfold text_Without_1.f text_Without_1.t
    rw [text_Same_f (by omega) (by omega)]; rfl
   unfold slices_IndexFunc_f_text_Without_1.L2.t idxStep
   simp only [Nat.zero_add, getD_at hk hc, f1, Tr.val, lt_nat, decide_eq_true hk, cond_true, hw']
   rw [if_pos (by omega), if_pos (by simpa using hk)]
   by_cases h : same what c = true
   ·simp only [h]; rfl
   ·have h' : same what c = false := by simpa using h
    simp only [h']; rfl
  ·simp [slices_IndexFunc_f_text_Without_1.L2.t, Tr.val]
 have hI : slices_IndexFunc_f_text_Without_1.f l what = some (idxV (scan (idxStep fun x => same what x) (.inl ()) 0 l)) := by
  unfold slices_IndexFunc_f_text_Without_1.f slices_IndexFunc_f_text_Without_1.t
  rw [hL]
  exact idx_t _ rfl
 unfold slices_ContainsFunc_f_text_Without_1.f slices_ContainsFunc_f_text_Without_1.t
 rw [take_all, hI, Tr.val_chk (by omega), Tr.val_call rfl, idx_ge]
 rfl
def withoutS (l : Fs) (names : List Bs) : Fs := l.filter fun f => !(names.any fun x => same f.1 x)
theorem foldE_filter {α : Type} (p : α → Bool) : ∀ (l out : List α), foldE (fun out x => (Sum.inl (out ++ if p x = true then [x] else []) : List α ⊕ List α)) id out l = out ++ l.filter p
 | [], out => by simp [foldE]
 | x :: l, out => by
  show foldE _ id (out ++ if p x = true then [x] else []) l = _
  rw [foldE_filter p l]
  cases h : p x <;> simp [h, List.filter_cons]
theorem without_f {l : Fs} {names : List Bs} (h : FitF l) (hn : names.length ≤ 1000000) (hs : ∀ x ∈ names, x.length ≤ 1000000) : text_Without.f l names = some (withoutS l names) := by
 have hlen := h.1
 have hL : text_Without.L3.f l names [] (l.length : Int) 0 = some (withoutS l names) := by
  unfold text_Without.L3.f
  refine (Loop_list (A := Fs) (a := []) l (fun k o => (o, (k : Int))) (fun k o => o.length ≤ k) (fun o x => .inl (o ++ if (!(names.any fun y => same x.1 y)) = true then [x] else [])) id ?_ ?_ (by omega) (by simp) rfl).trans ?_
  ·intro k o x ho hk hx
   have hw := wS (k := k) (by omega)
   have hx' := h.2 x (by rw [← hx]; exact List.getElem_mem hk)
   have hany := any_without (l := names) (what := x.1) (by omega) hs hx'.1
   refine ⟨?_, fun a' h => by cases h; split <;> simp <;> omega⟩
   unfold text_Without.L3.t
   dsimp only
   rw [hw]
   simp only [Nat.zero_add, getD_at hk hx]
   refine go_t (by rw [decide_eq_true_iff]; omega) (go_chk (by omega) (go_chk (by simpa using hk) (go_chk (Nat.le_refl _) ?_)))
   refine go_call (by rw [take_all]; exact hany) ?_
   cases hs' : names.any fun y => same x.1 y with
   | true =>
    refine go_f rfl ?_
    repeat rw [vokl]
    simp [Tr.val]
   | false =>
    refine go_t rfl ?_
    repeat (first
     | refine go_chk (by omega) ?_
     | refine go_chk (by simp; omega) ?_
     | refine go_chk (by simp) ?_
     | rw [vokl])
    simp [Tr.val]
  ·intro o _
   unfold text_Without.L3.t
   dsimp only
   exact go_f (by simp) rfl
  ·rw [foldE_filter]
   rfl
 unfold text_Without.f text_Without.t
 repeat rw [vokl]
 exact go_call hL rfl
def connB : Bs := [67, 111, 110, 110, 101, 99, 116, 105, 111, 110]
def namesL : List Bs := match hop_Names.f with
 | some l => l
 | none => []
def okNames : Bool := match hop_Names.f with
 | some l => decide (l.length ≤ 20) && l.all fun x => decide (x.length ≤ 30)
 | none => false
theorem okNames_is : okNames = true := by decide +kernel
theorem names_f : hop_Names.f = some namesL ∧ namesL.length ≤ 20 ∧ ∀ x ∈ namesL, x.length ≤ 30 := by
 have h := okNames_is
 unfold okNames at h
 unfold namesL
 split at h
 ·rename_i l hl
  rw [hl]
  simp only [Bool.and_eq_true, decide_eq_true_eq, List.all_eq_true] at h
  exact ⟨rfl, h.1, h.2⟩
 ·cases h
theorem clone_f {l : Fs} (h : l.length ≤ 1000001) : slices_Clone.f l = some l := by
 unfold slices_Clone.f
 rw [if_pos (by omega)]
theorem with_f {l : Fs} {name value : Bs} (h : l.length ≤ 1000000) : hop_with.f l name value = some (l ++ [(name, value)]) := by
 unfold hop_with.f hop_with.t
 refine go_chk (by omega) ?_
 refine go_call (by rw [take_all]; exact clone_f (by omega)) ?_
 repeat (first
  | refine go_chk (by omega) ?_
  | refine go_chk (by simp; omega) ?_
  | refine go_chk (by simp) ?_
  | rw [vokl])
 simp [Tr.val]
theorem via_f {l : Fs} {name : Bs} (h : l.length ≤ 1000000) (hn : name.length ≤ 1000000) : hop_Via.f l name = some (l ++ [([86, 105, 97], [49, 46, 49, 32] ++ name)]) := by
 unfold hop_Via.f hop_Via.t
 refine go_chk (by simp; omega) (go_chk (by omega) ?_)
 refine go_call (by rw [take_all]; exact with_f h) ?_
 rfl
end Pl
end Go.Vx
end
section
set_option linter.unusedVariables false
set_option linter.unusedSimpArgs false
set_option maxRecDepth 100000
namespace Go.Vx
namespace Pl
open Go Go.Proofs
theorem go_two {α : Type} {d : Eqb α} {a b : Tr α} {y : α} (h1 : a.val = some y) (h2 : b.val = some y) : (@Tr.two α d a b).val = some y := by
 simp [Tr.val, h1, h2]
theorem go_twice {α : Type} {a : Tr α} {r : Option α} (h : a.val = r) : (Tr.twice a).val = r := h
theorem fields_same {l : Fs} (hl : l.length < 1000000000) : ref1_Fields.f l l = some true := by
 have hL : ref1_Fields.L4.f l l 0 = some (.inl ()) := by
  unfold ref1_Fields.L4.f
  refine Loop_count l.length (fun k => (k : Int)) _ (fun k hk => ?_) ?_ (by omega) rfl
  ·unfold ref1_Fields.L4.t
   have hw := wS (k := k) (by omega)
   refine go_t (by rw [decide_eq_true_iff]; omega) ?_
   refine go_chk (by omega) (go_chk (by omega) (go_chk (by omega) (go_chk (by omega) ?_)))
   refine go_f (by simp) ?_
   rw [vokl, vokl, hw]
   rfl
  ·unfold ref1_Fields.L4.t
   exact go_f (by simp) rfl
 unfold ref1_Fields.f ref1_Fields.t
 refine go_f (by simp) ?_
 rw [vokl, vokl, Tr.val_inl hL]
 rfl
theorem known_f : law27_known.f = some true := by decide +kernel
def nm (c : UInt8) : Bs := ([[83, 101, 114, 118, 101, 114], [85, 112, 103, 114, 97, 100, 101], [83, 101, 116, 45, 67, 111, 111, 107, 105, 101], [116, 101], [67, 111, 110, 116, 101, 110, 116, 45, 84, 121, 112, 101], [75, 101, 101, 112, 45, 65, 108, 105, 118, 101]] : List Bs).getD (c.toNat % 6) []
def pv (k : Nat) : Bs := match ref1_Put.f (k : Int) with
 | some y => y
 | none => []
theorem pv_all : ((List.range 11).all fun k => match ref1_Put.f (k : Int) with
 | some y => decide (y.length ≤ 4)
 | none => false) = true := by decide +kernel
theorem pv_f {k : Nat} (hk : k < 11) : ref1_Put.f (k : Int) = some (pv k) ∧ (pv k).length ≤ 4 := by
 have := List.all_eq_true.1 pv_all k (List.mem_range.2 hk)
 unfold pv
 split at this
 ·rename_i y hy
  rw [hy]
  exact ⟨rfl, by simpa using this⟩
 ·cases this
def stepR (a : Fs × Fs) (c : UInt8) : (Fs × Fs) ⊕ (Fs × Fs) := .inl (if c.toNat % 6 % 2 = 0 then (a.1 ++ [(nm c, pv a.1.length)], a.2 ++ [(nm c, pv a.1.length)]) else (a.1 ++ [(nm c, pv a.1.length)], a.2))
def keepN (f : Bs × Bs) : Bool := f.1 == [83, 101, 114, 118, 101, 114] || f.1 == [83, 101, 116, 45, 67, 111, 111, 107, 105, 101] || f.1 == [67, 111, 110, 116, 101, 110, 116, 45, 84, 121, 112, 101]
def isN (f : Bs × Bs) : Prop := ∃ c : UInt8, f.1 = nm c
def InvR (k : Nat) (a : Fs × Fs) : Prop := a.1.length = k ∧ a.2 = a.1.filter keepN ∧ ∀ f ∈ a.1, isN f ∧ f.2.length ≤ 4
theorem nm_all : ((List.range 256).all fun n => let c := UInt8.ofNat n; (keepN (nm c, []) == decide (c.toNat % 6 % 2 = 0)) && (keepN (nm c, []) == !(namesL.any fun x => same (nm c) x)) && !(same (nm c) connB) && decide ((nm c).length ≤ 20)) = true := by decide +kernel
theorem nm_is (c : UInt8) : keepN (nm c, []) = decide (c.toNat % 6 % 2 = 0) ∧ keepN (nm c, []) = !(namesL.any fun x => same (nm c) x) ∧ same (nm c) connB = false ∧ (nm c).length ≤ 20 := by
 have := List.all_eq_true.1 nm_all c.toNat (List.mem_range.2 c.toNat_lt)
 simp only [Bool.and_eq_true, beq_iff_eq, decide_eq_true_eq, Bool.not_eq_true'] at this
 rw [show UInt8.ofNat c.toNat = c by simp] at this
 exact ⟨this.1.1.1, this.1.1.2, this.1.2, this.2⟩
theorem loopR {l : Bs} (hl : l.length ≤ 10) : ∃ F W, law27_ReplyRelays.L9.f [] [] l 0 = some (F, W) ∧ InvR l.length (F, W) := by
 have key : law27_ReplyRelays.L9.f [] [] l 0 = some (foldE stepR id (([], []) : Fs × Fs) l) := by
  unfold law27_ReplyRelays.L9.f
  refine Loop_list l (fun k (a : Fs × Fs) => (a.1, a.2, (k : Int))) (fun k a => a.1.length = k ∧ a.2.length ≤ k) stepR id ?_ ?_ (by omega) ⟨rfl, Nat.le_refl _⟩ rfl
  ·intro k a c hi hk hc
   obtain ⟨F, W⟩ := a
   obtain ⟨hF, hW⟩ := hi
   dsimp only at hF hW
   have hw := wS (k := k) (by omega)
   have hp := pv_f (k := k) (by omega)
   have hm : ((c.toNat : Nat) : Int).tmod 6 = ((c.toNat % 6 : Nat) : Int) := (Int.ofNat_tmod c.toNat 6).symm
   have hm2 : (((c.toNat % 6 : Nat) : Int)).tmod 2 = ((c.toNat % 6 % 2 : Nat) : Int) := (Int.ofNat_tmod (c.toNat % 6) 2).symm
   have h6 : c.toNat % 6 < 6 := Nat.mod_lt _ (by decide)
   refine ⟨?_, fun a' ha => ?_⟩
   ·unfold law27_ReplyRelays.L9.t stepR
    dsimp only
    rw [hw]
    simp only [Int.toNat_natCast, getD_nat hk hc, hm, hm2, Nat.zero_add, Nat.mul_one, take_all]
    refine go_t (by rw [decide_eq_true_iff]; omega) ?_
    rw [hF]
    by_cases he : c.toNat % 6 % 2 = 0
    ·have he' : (((c.toNat % 6 % 2 : Nat) : Int) == 0) = true := by simp [he]
     rw [if_pos he]
     repeat' (first
      | with_reducible refine go_two ?_ ?_
      | with_reducible refine go_twice ?_
      | with_reducible refine go_call hp.1 ?_
      | with_reducible refine go_t he' ?_
      | with_reducible refine go_chk ?_ ?_
      | rw [vokl]
      | omega
      | (simp; done)
      | (simp; omega))
     all_goals rfl
    ·have he' : (((c.toNat % 6 % 2 : Nat) : Int) == 0) = false := by simp; omega
     rw [if_neg he]
     repeat' (first
      | with_reducible refine go_two ?_ ?_
      | with_reducible refine go_twice ?_
      | with_reducible refine go_call hp.1 ?_
      | with_reducible refine go_f he' ?_
      | with_reducible refine go_chk ?_ ?_
      | rw [vokl]
      | omega
      | (simp; done)
      | (simp; omega))
     all_goals rfl
   ·unfold stepR at ha
    cases ha
    split
    ·exact ⟨by simp [hF], by simp; omega⟩
    ·exact ⟨by simp [hF], by simp; omega⟩
  ·intro a _
   unfold law27_ReplyRelays.L9.t
   dsimp only
   exact go_f (by simp) rfl
 have inv : ∀ (l : Bs) (k : Nat) (a : Fs × Fs), k + l.length ≤ 10 → InvR k a → InvR (k + l.length) (foldE stepR id a l) := by
  intro l
  induction l with
  | nil => intro k a _ h; exact h
  | cons c l ih =>
   intro k a hk h
   simp only [List.length_cons] at hk ⊢
   obtain ⟨F, W⟩ := a
   obtain ⟨h1, h2, h3⟩ := h
   dsimp only at h1 h2 h3
   have hp := pv_f (k := k) (by omega)
   have hn := nm_is c
   have hkeep : keepN (nm c, pv k) = decide (c.toNat % 6 % 2 = 0) := hn.1
   have hnew : ∀ f ∈ F ++ [(nm c, pv k)], isN f ∧ f.2.length ≤ 4 := by
    intro f hf
    rcases List.mem_append.1 hf with hf | hf
    ·exact h3 f hf
    ·simp only [List.mem_cons, List.not_mem_nil, or_false] at hf
     subst hf
     exact ⟨⟨c, rfl⟩, hp.2⟩
   show InvR (k + (l.length + 1)) (foldE stepR id (if c.toNat % 6 % 2 = 0 then (F ++ [(nm c, pv F.length)], W ++ [(nm c, pv F.length)]) else (F ++ [(nm c, pv F.length)], W)) l)
   rw [h1, show k + (l.length + 1) = (k + 1) + l.length by omega]
   refine ih (k + 1) _ (by omega) ?_
   by_cases he : c.toNat % 6 % 2 = 0
   ·rw [if_pos he]
    have hk' : keepN (nm c, pv k) = true := hkeep.trans (decide_eq_true he)
    exact ⟨by simp [h1], by simp [List.filter_append, List.filter_cons, hk', h2], hnew⟩
   ·rw [if_neg he]
    have hk' : keepN (nm c, pv k) = false := hkeep.trans (decide_eq_false he)
    exact ⟨by simp [h1], by simp [List.filter_append, List.filter_cons, hk', h2], hnew⟩
 refine ⟨_, _, key, ?_⟩
 have := inv l 0 ([], []) (by omega) ⟨rfl, rfl, fun f hf => by simp at hf⟩
 rw [Nat.zero_add] at this
 exact this
theorem strip_f {F : Fs} (hl : F.length ≤ 10) (hf : ∀ f ∈ F, isN f ∧ f.2.length ≤ 4) : hop_Strip.f F = some (F.filter keepN) := by
 have hfit : FitF F := ⟨by omega, fun f h => by
  obtain ⟨⟨c, hc⟩, h2⟩ := hf f h
  have := (nm_is c).2.2.2
  rw [hc]
  omega⟩
 have hfind : findS F connB = [] := by
  unfold findS
  rw [List.map_eq_nil_iff, List.filter_eq_nil_iff]
  intro f h
  obtain ⟨⟨c, hc⟩, _⟩ := hf f h
  rw [hc, (nm_is c).2.2.1]
  simp
 have h1 : text_Find.f F connB = some [] := by rw [find_f hfit (by decide), hfind]
 have h2 : text_List.f [] = some [] := by decide +kernel
 have h3 : slices_DeleteFunc_f_hop_Strip_1.f [] = some ([], 0, 0) := by decide +kernel
 have hw : withoutS F namesL = F.filter keepN := by
  unfold withoutS
  refine List.filter_congr fun f h => ?_
  obtain ⟨⟨c, hc⟩, _⟩ := hf f h
  have := (nm_is c).2.1
  rw [hc]
  show _ = keepN f
  unfold keepN at this ⊢
  rw [hc]
  exact this.symm
 have h5 := without_f (l := F) (names := namesL) hfit (by have := names_f.2.1; omega) fun x hx => by have := names_f.2.2 x hx; omega
 rw [hw] at h5
 have hn := names_f.2.1
 unfold hop_Strip.f hop_Strip.t
 simp only [Nat.zero_add, List.drop_zero, List.take_length]
 refine go_chk (Nat.le_refl _) (go_call h1 ?_)
 refine go_chk (Nat.le_refl _) (go_call h2 ?_)
 refine go_call h3 ?_
 dsimp only
 refine go_call names_f.1 ?_
 refine go_chk (by simp) (go_chk (Nat.le_refl _) (go_chk (by simp; omega) (go_chk (Nat.le_refl _) ?_)))
 simp only [Nat.add_zero, List.drop_zero, List.take_zero, List.append_nil, List.take_length]
 refine go_chk (Nat.le_refl _) (go_call h5 ?_)
 rfl
theorem relays_ok (l : Bs) (via : UInt8) (body : Bs) : law27_ReplyRelays.f l via body = some true := by
 unfold law27_ReplyRelays.f law27_ReplyRelays.t
 refine go_call known_f (go_f rfl ?_)
 by_cases hl : l.length ≤ 10
 ·refine go_f (by rw [decide_eq_false_iff_not]; omega) ?_
  by_cases hb : body.length ≤ 40
  ·refine go_f (by rw [decide_eq_false_iff_not]; omega) ?_
   obtain ⟨F, W, hL, h1, h2, h3⟩ := loopR hl
   dsimp only at h1 h2 h3
   have hW : W.length ≤ 10 := by rw [h2]; have := List.length_filter_le keepN F; omega
   have hrel : ∀ name : Bs, name.length ≤ 1000000 → reply_Relay.f F body name = some (W ++ [([86, 105, 97], [49, 46, 49, 32] ++ name)]) := by
    intro name hn
    have hs := strip_f (by omega) h3
    rw [← h2] at hs
    unfold reply_Relay.f reply_Relay.t
    refine go_chk (by omega) (go_call (by rw [take_all]; exact hs) ?_)
    refine go_chk (by omega) (go_call (by rw [take_all]; exact via_f (by omega) hn) ?_)
    rfl
   refine go_call hL ?_
   dsimp only
   simp only [Nat.zero_add, List.drop_zero, List.take_length, take_snoc]
   have hr := hrel [UInt8.ofNat (IntKind.u8.wrap (97 + (Int.ofNat via.toNat).tmod 26)).toNat] (by simp)
   repeat' (first
    | with_reducible refine go_call hr ?_
    | with_reducible refine go_t (beq_self_eq_true _) ?_
    | with_reducible refine go_chk ?_ ?_
    | rw [vokl]
    | exact Nat.le_refl _
    | omega
    | (simp; done)
    | (simp; omega)
    | (simp only [one_drop, take_one, take_snoc]; exact go_call (fields_same (by simp; omega)) rfl))
  ·exact go_t (by rw [decide_eq_true_iff]; omega) rfl
 ·exact go_t (by rw [decide_eq_true_iff]; omega) rfl
end Pl
end Go.Vx
end
