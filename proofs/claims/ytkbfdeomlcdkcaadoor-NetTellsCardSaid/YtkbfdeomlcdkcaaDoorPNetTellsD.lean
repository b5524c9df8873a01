/- Printed by a program of ours out of our texts: the evaluator, the printed functions, the plain laws. (A help: no statement of the seat is proved here.) -/
import Derived.Test.YtkbfdeomlcdkcaaDoorPNetTellsC
section
set_option maxRecDepth 1000000
set_option maxHeartbeats 4000000
set_option synthInstance.maxSize 100000
set_option synthInstance.maxHeartbeats 400000
set_option linter.unusedVariables false
namespace Go.Vx
open Go Go.Vx Go.Proofs
namespace law23_known
def D : Dom := ⟨[], .nil⟩
def A : Dom := ⟨[], .bool⟩
def sel : List Nat := []
def t  : Tr (Bool) :=
 .call (net_IP.f [(49 : UInt8), (48 : UInt8), (46 : UInt8), (49 : UInt8), (46 : UInt8), (50 : UInt8), (46 : UInt8), (51 : UInt8)]) fun (y1a, y1b) =>
 .call (net_IP.f [(49 : UInt8), (48 : UInt8), (46 : UInt8), (49 : UInt8), (46 : UInt8), (50 : UInt8), (46 : UInt8), (48 : UInt8), (51 : UInt8)]) fun (_, y2b) =>
 .call (net_Net.f [(49 : UInt8), (48 : UInt8), (46 : UInt8), (48 : UInt8), (46 : UInt8), (48 : UInt8), (46 : UInt8), (48 : UInt8), (47 : UInt8), (56 : UInt8)]) fun (y3a, y3b, y3c) =>
 .call (net_Net.f [(49 : UInt8), (48 : UInt8), (46 : UInt8), (48 : UInt8), (46 : UInt8), (48 : UInt8), (46 : UInt8), (49 : UInt8), (47 : UInt8), (56 : UInt8)]) fun (_, _, y4c) =>
 .br y1b (.br (y1a == (167838211 : Int)) (.br (!y2b) (.br y3c (.br (y3a == (167772160 : Int)) (.br (y3b == (8 : Int)) (.br (!y4c) (.call (net_Has.f [(49 : UInt8), (48 : UInt8), (46 : UInt8), (48 : UInt8), (46 : UInt8), (48 : UInt8), (46 : UInt8), (48 : UInt8), (47 : UInt8), (56 : UInt8)] y1a) fun y5 =>
     .br y5 (.call (net_Has.f [(49 : UInt8), (49 : UInt8), (46 : UInt8), (48 : UInt8), (46 : UInt8), (48 : UInt8), (46 : UInt8), (48 : UInt8), (47 : UInt8), (56 : UInt8)] y1a) fun y6 =>
     .br (!y6) (.call (net_Text.f y1a) fun y7 =>
      .ret (y7 == [(49 : UInt8), (48 : UInt8), (46 : UInt8), (49 : UInt8), (46 : UInt8), (50 : UInt8), (46 : UInt8), (51 : UInt8)]))
     (.ret false))
     (.ret false))
    (.ret false))
    (.ret false))
   (.ret false))
   (.ret false))
  (.ret false))
  (.ret false))
 (.ret false)
def f  : Option (Bool) := (t ).val
def F (x : D.den) : Option (Bool) := f
def pa : D.den → (Bool) → A.den := fun (_, _) y1 => ((), y1)
def con : Con := tcon D A pa F
theorem ok : ConOk Tryd.prog 6 con := tcon_ok Base.mixed Base.prog_ok bk_law23_some_ok (by kernel_rfl) LapsOk.nil 9 (fun _ => rfl) (fun x => t ) (fun _ => rfl) fun _ _ _ => (by kernel_rfl)
end law23_known
def bk_law23_known : Book := bk_law23_some.add 6 law23_known.con
theorem bk_law23_known_ok : BookOk Tryd.prog bk_law23_known := bk_law23_some_ok.add law23_known.ok
namespace law23_NetTells
def D : Dom := ⟨[], (.cat .str (.cat (.vec .byte) (.cat (.int .u32) (.cat (.int .u32) .byte))))⟩
namespace L13
def D : Dom := ⟨[.vec .str 9 false], (.cat (.int .u32) (.cat (.int .u32) (.cat (.int .i64) (.cat (.int .u32) (.cat .str (.cat (.sl 0 1) (.cat (.int .i64) (.int .i64))))))))⟩
def A : Dom := ⟨[], (.cat (.int .u32) (.cat (.int .u32) (.cat (.int .i64) (.cat (.int .u32) .str))))⟩
def B : Dom := ⟨[], .bool⟩
def sel : List Nat := [0, 1, 2, 6, 7]
def t (t88 : List (List UInt8)) (va : Int) (b : Int) (t89 : Int) (t90 : Int) : Tr ((Int) ⊕ ((Unit) ⊕ (Bool))) :=
 .br (decide (t90 < t89)) (.chk ((0 : Int) ≤ t90 ∧ t90 < (↑t88.length : Int)) <| .chk ((0 : Nat) + t90.toNat < t88.length) <| .call (net_IP.f (t88.getD ((0 : Nat) + t90.toNat) [])) fun (y1a, y1b) =>
  .call (ref22_IP.f (t88.getD ((0 : Nat) + t90.toNat) [])) fun (y2a, y2b) =>
  .call (net_Net.f (t88.getD ((0 : Nat) + t90.toNat) [])) fun (y3a, y3b, y3c) =>
  .call (ref22_Net.f (t88.getD ((0 : Nat) + t90.toNat) [])) fun (y4a, y4b, y4c) =>
  .br (y1a != y2a) (.ret (.inr (.inr false)))
  (.br (!y1b == y2b) (.ret (.inr (.inr false)))
  (.br (y3a != y4a) (.ret (.inr (.inr false)))
   (.br (y3b != y4b) (.ret (.inr (.inr false)))
   (.br (!y3c == y4c) (.ret (.inr (.inr false)))
    (.call (net_Has.f (t88.getD ((0 : Nat) + t90.toNat) []) b) fun y5 =>
    .call (ref22_Has.f (t88.getD ((0 : Nat) + t90.toNat) []) b) fun y6 =>
    .br (!y5 == y6) (.ret (.inr (.inr false)))
    (.call (net_Has.f (t88.getD ((0 : Nat) + t90.toNat) []) va) fun y7 =>
     .call (ref22_Has.f (t88.getD ((0 : Nat) + t90.toNat) []) va) fun y8 =>
     .br (!y7 == y8) (.ret (.inr (.inr false)))
     (.okl t88.length <| .ret (.inl (IntKind.i64.wrap (t90 + (1 : Int))))))))))))
 (.ret (.inr (.inl ())))
def f (t88 : List (List UInt8)) (va : Int) (b : Int) (t89 : Int) (t90 : Int) : Option ((Unit) ⊕ (Bool)) := Loop (fun z : Int => t t88 va b t89 z) t90
def F (x : D.den) : Option ((Unit) ⊕ (Bool)) := f x.1.1 x.2.1 x.2.2.1 x.2.2.2.2.2.2.2.1 x.2.2.2.2.2.2.2.2
def pa : D.den → (Unit) → A.den := fun ((_, _), (va, (b, (k, (m, (own, (_, (_, _)))))))) _ => ((), (va, (b, (k, (m, own)))))
def pb : D.den → (Bool) → B.den := fun ((_, _), (_, (_, (_, (_, (_, (_, (_, _)))))))) y1 => ((), y1)
def lap : Lap := tlap2 13 192 [2, 3, 11, 12, 13, 88, 89, 90] D (.exit 0) [2, 3, 11, 12, 13] A .ret [10] B pa pb F
def pk (x : D.den) (z : Int) : D.den := ((x.1.1, ()), (x.2.1, (x.2.2.1, (x.2.2.2.1, (x.2.2.2.2.1, (x.2.2.2.2.2.1, ((), (x.2.2.2.2.2.2.2.1, z))))))))
def un (x : D.den) : Int := x.2.2.2.2.2.2.2.2
def body (x : D.den) (z : Int) : Tr ((Int) ⊕ ((Unit) ⊕ (Bool))) := t x.1.1 x.2.1 x.2.2.1 x.2.2.2.2.2.2.2.1 z
theorem ok : LapOk Tryd.prog 0 (codeOf Tryd.prog 3) lap := tlap2_ok Base.mixed Base.prog_ok bk_law23_known_ok (by kernel_rfl) (by kernel_rfl) LapsOk.nil 9 pk un body (fun _ _ => rfl) (fun _ _ => rfl) (fun _ _ => rfl) (fun _ _ => rfl) (fun _ => rfl) fun _ _ _ _ => (by kernel_rfl)
end L13
def A : Dom := ⟨[], .bool⟩
def sel : List Nat := [0, 1, 2, 3, 4]
set_option maxHeartbeats 4000000 in
def t (s : List UInt8) (l : List UInt8) (va : Int) (b : Int) (n : UInt8) : Tr (Bool) :=
 .call (law23_known.f) fun y1 =>
 .br (!y1) (.ret false)
 (.br (decide ((↑s.length : Int) > (40 : Int))) (.ret true)
  (.br (decide ((↑l.length : Int) > (12 : Int))) (.ret true)
  (.br (decide (IntKind.i64.wrap ((Int.ofNat n.toNat).tmod (35 : Int)) > (0 : Int))) (.br (decide (IntKind.i64.wrap ((Int.ofNat n.toNat).tmod (35 : Int)) ≤ (32 : Int))) (.chk (¬IntKind.i64.wrap ((32 : Int) - IntKind.i64.wrap ((Int.ofNat n.toNat).tmod (35 : Int))) < (0 : Int)) <| .twice <| .call (ref22_Text.f (IntKind.u32.wrap (↑(BitVec.ofInt IntKind.u32.bits va &&& BitVec.ofInt IntKind.u32.bits (IntKind.u32.wrap ((4294967295 : Int) * (2 : Int) ^ min (IntKind.i64.wrap ((32 : Int) - IntKind.i64.wrap ((Int.ofNat n.toNat).tmod (35 : Int)))).toNat IntKind.u32.bits))).toNat : Int))) fun y2 =>
    .chk ((↑(y2.length + [(47 : UInt8)].length) : Int) ≤ (9223372036854775807 : Int)) <| .chk ((↑((y2 ++ [(47 : UInt8)]).length + [UInt8.ofNat (IntKind.u8.wrap ((48 : Int) + IntKind.u8.wrap (IntKind.i64.wrap ((IntKind.i64.wrap ((Int.ofNat n.toNat).tmod (35 : Int))).tdiv (10 : Int))))).toNat, UInt8.ofNat (IntKind.u8.wrap ((48 : Int) + IntKind.u8.wrap ((IntKind.i64.wrap ((Int.ofNat n.toNat).tmod (35 : Int))).tmod (10 : Int)))).toNat].length) : Int) ≤ (9223372036854775807 : Int)) <| .br (decide (IntKind.i64.wrap ((Int.ofNat n.toNat).tmod (35 : Int)) < (10 : Int))) (.twice <| .call (ref22_Text.f (IntKind.u32.wrap (↑(BitVec.ofInt IntKind.u32.bits va &&& BitVec.ofInt IntKind.u32.bits (IntKind.u32.wrap ((4294967295 : Int) * (2 : Int) ^ min (IntKind.i64.wrap ((32 : Int) - IntKind.i64.wrap ((Int.ofNat n.toNat).tmod (35 : Int)))).toNat IntKind.u32.bits))).toNat : Int))) fun y3 =>
    .chk ((↑(y3.length + [(47 : UInt8)].length) : Int) ≤ (9223372036854775807 : Int)) <| .chk ((↑((y3 ++ [(47 : UInt8)]).length + [UInt8.ofNat (IntKind.u8.wrap ((48 : Int) + IntKind.u8.wrap (IntKind.i64.wrap ((Int.ofNat n.toNat).tmod (35 : Int))))).toNat].length) : Int) ≤ (9223372036854775807 : Int)) <| .call (law23_some.f l) fun y4 =>
    .call (ref22_Text.f va) fun y5 =>
    .chk ((↑(y5.length + [(47 : UInt8), (50 : UInt8), (52 : UInt8)].length) : Int) ≤ (9223372036854775807 : Int)) <| .call (ref22_Text.f va) fun y6 =>
    .both (law23_NetTells.L13.f [s, y4, y3 ++ [(47 : UInt8)] ++ [UInt8.ofNat (IntKind.u8.wrap ((48 : Int) + IntKind.u8.wrap (IntKind.i64.wrap ((Int.ofNat n.toNat).tmod (35 : Int))))).toNat], y5 ++ [(47 : UInt8), (50 : UInt8), (52 : UInt8)], y6] va b (5 : Int) (0 : Int)) (fun _ => .call (net_Text.f va) fun y8 =>
     .call (net_IP.f y8) fun (y9a, y9b) =>
     .br y9b (.br (y9a == va) (.br (decide (IntKind.i64.wrap ((Int.ofNat n.toNat).tmod (35 : Int)) > (32 : Int))) (.ret true)
      (.call (net_Has.f (y3 ++ [(47 : UInt8)] ++ [UInt8.ofNat (IntKind.u8.wrap ((48 : Int) + IntKind.u8.wrap (IntKind.i64.wrap ((Int.ofNat n.toNat).tmod (35 : Int))))).toNat]) va) fun y10 =>
      .br y10 (.call (net_Has.f (y3 ++ [(47 : UInt8)] ++ [UInt8.ofNat (IntKind.u8.wrap ((48 : Int) + IntKind.u8.wrap (IntKind.i64.wrap ((Int.ofNat n.toNat).tmod (35 : Int))))).toNat]) b) fun y11 =>
       .ret (y11 == (IntKind.u32.wrap (↑(BitVec.ofInt IntKind.u32.bits b &&& BitVec.ofInt IntKind.u32.bits (IntKind.u32.wrap ((4294967295 : Int) * (2 : Int) ^ min (IntKind.i64.wrap ((32 : Int) - IntKind.i64.wrap ((Int.ofNat n.toNat).tmod (35 : Int)))).toNat IntKind.u32.bits))).toNat : Int) == IntKind.u32.wrap (↑(BitVec.ofInt IntKind.u32.bits va &&& BitVec.ofInt IntKind.u32.bits (IntKind.u32.wrap ((4294967295 : Int) * (2 : Int) ^ min (IntKind.i64.wrap ((32 : Int) - IntKind.i64.wrap ((Int.ofNat n.toNat).tmod (35 : Int)))).toNat IntKind.u32.bits))).toNat : Int))))
      (.ret false)))
     (.ret false))
     (.ret false))
    (fun y12 => .ret y12))
    (.call (law23_some.f l) fun y13 =>
    .call (ref22_Text.f va) fun y14 =>
    .chk ((↑(y14.length + [(47 : UInt8), (50 : UInt8), (52 : UInt8)].length) : Int) ≤ (9223372036854775807 : Int)) <| .call (ref22_Text.f va) fun y15 =>
    .both (law23_NetTells.L13.f [s, y13, y2 ++ [(47 : UInt8)] ++ [UInt8.ofNat (IntKind.u8.wrap ((48 : Int) + IntKind.u8.wrap (IntKind.i64.wrap ((IntKind.i64.wrap ((Int.ofNat n.toNat).tmod (35 : Int))).tdiv (10 : Int))))).toNat, UInt8.ofNat (IntKind.u8.wrap ((48 : Int) + IntKind.u8.wrap ((IntKind.i64.wrap ((Int.ofNat n.toNat).tmod (35 : Int))).tmod (10 : Int)))).toNat], y14 ++ [(47 : UInt8), (50 : UInt8), (52 : UInt8)], y15] va b (5 : Int) (0 : Int)) (fun _ => .call (net_Text.f va) fun y17 =>
     .call (net_IP.f y17) fun (y18a, y18b) =>
     .br y18b (.br (y18a == va) (.br (decide (IntKind.i64.wrap ((Int.ofNat n.toNat).tmod (35 : Int)) > (32 : Int))) (.ret true)
      (.call (net_Has.f (y2 ++ [(47 : UInt8)] ++ [UInt8.ofNat (IntKind.u8.wrap ((48 : Int) + IntKind.u8.wrap (IntKind.i64.wrap ((IntKind.i64.wrap ((Int.ofNat n.toNat).tmod (35 : Int))).tdiv (10 : Int))))).toNat, UInt8.ofNat (IntKind.u8.wrap ((48 : Int) + IntKind.u8.wrap ((IntKind.i64.wrap ((Int.ofNat n.toNat).tmod (35 : Int))).tmod (10 : Int)))).toNat]) va) fun y19 =>
      .br y19 (.call (net_Has.f (y2 ++ [(47 : UInt8)] ++ [UInt8.ofNat (IntKind.u8.wrap ((48 : Int) + IntKind.u8.wrap (IntKind.i64.wrap ((IntKind.i64.wrap ((Int.ofNat n.toNat).tmod (35 : Int))).tdiv (10 : Int))))).toNat, UInt8.ofNat (IntKind.u8.wrap ((48 : Int) + IntKind.u8.wrap ((IntKind.i64.wrap ((Int.ofNat n.toNat).tmod (35 : Int))).tmod (10 : Int)))).toNat]) b) fun y20 =>
       .ret (y20 == (IntKind.u32.wrap (↑(BitVec.ofInt IntKind.u32.bits b &&& BitVec.ofInt IntKind.u32.bits (IntKind.u32.wrap ((4294967295 : Int) * (2 : Int) ^ min (IntKind.i64.wrap ((32 : Int) - IntKind.i64.wrap ((Int.ofNat n.toNat).tmod (35 : Int)))).toNat IntKind.u32.bits))).toNat : Int) == IntKind.u32.wrap (↑(BitVec.ofInt IntKind.u32.bits va &&& BitVec.ofInt IntKind.u32.bits (IntKind.u32.wrap ((4294967295 : Int) * (2 : Int) ^ min (IntKind.i64.wrap ((32 : Int) - IntKind.i64.wrap ((Int.ofNat n.toNat).tmod (35 : Int)))).toNat IntKind.u32.bits))).toNat : Int))))
      (.ret false)))
     (.ret false))
     (.ret false))
    (fun y21 => .ret y21)))
   (.twice <| .call (ref22_Text.f (IntKind.u32.wrap (↑(BitVec.ofInt IntKind.u32.bits va &&& BitVec.ofInt IntKind.u32.bits (0 : Int)).toNat : Int))) fun y22 =>
    .chk ((↑(y22.length + [(47 : UInt8)].length) : Int) ≤ (9223372036854775807 : Int)) <| .chk ((↑((y22 ++ [(47 : UInt8)]).length + [UInt8.ofNat (IntKind.u8.wrap ((48 : Int) + IntKind.u8.wrap (IntKind.i64.wrap ((IntKind.i64.wrap ((Int.ofNat n.toNat).tmod (35 : Int))).tdiv (10 : Int))))).toNat, UInt8.ofNat (IntKind.u8.wrap ((48 : Int) + IntKind.u8.wrap ((IntKind.i64.wrap ((Int.ofNat n.toNat).tmod (35 : Int))).tmod (10 : Int)))).toNat].length) : Int) ≤ (9223372036854775807 : Int)) <| .br (decide (IntKind.i64.wrap ((Int.ofNat n.toNat).tmod (35 : Int)) < (10 : Int))) (.twice <| .call (ref22_Text.f (IntKind.u32.wrap (↑(BitVec.ofInt IntKind.u32.bits va &&& BitVec.ofInt IntKind.u32.bits (0 : Int)).toNat : Int))) fun y23 =>
    .chk ((↑(y23.length + [(47 : UInt8)].length) : Int) ≤ (9223372036854775807 : Int)) <| .chk ((↑((y23 ++ [(47 : UInt8)]).length + [UInt8.ofNat (IntKind.u8.wrap ((48 : Int) + IntKind.u8.wrap (IntKind.i64.wrap ((Int.ofNat n.toNat).tmod (35 : Int))))).toNat].length) : Int) ≤ (9223372036854775807 : Int)) <| .call (law23_some.f l) fun y24 =>
    .call (ref22_Text.f va) fun y25 =>
    .chk ((↑(y25.length + [(47 : UInt8), (50 : UInt8), (52 : UInt8)].length) : Int) ≤ (9223372036854775807 : Int)) <| .call (ref22_Text.f va) fun y26 =>
    .both (law23_NetTells.L13.f [s, y24, y23 ++ [(47 : UInt8)] ++ [UInt8.ofNat (IntKind.u8.wrap ((48 : Int) + IntKind.u8.wrap (IntKind.i64.wrap ((Int.ofNat n.toNat).tmod (35 : Int))))).toNat], y25 ++ [(47 : UInt8), (50 : UInt8), (52 : UInt8)], y26] va b (5 : Int) (0 : Int)) (fun _ => .call (net_Text.f va) fun y28 =>
     .call (net_IP.f y28) fun (y29a, y29b) =>
     .br y29b (.br (y29a == va) (.br (decide (IntKind.i64.wrap ((Int.ofNat n.toNat).tmod (35 : Int)) > (32 : Int))) (.ret true)
      (.call (net_Has.f (y23 ++ [(47 : UInt8)] ++ [UInt8.ofNat (IntKind.u8.wrap ((48 : Int) + IntKind.u8.wrap (IntKind.i64.wrap ((Int.ofNat n.toNat).tmod (35 : Int))))).toNat]) va) fun y30 =>
      .br y30 (.call (net_Has.f (y23 ++ [(47 : UInt8)] ++ [UInt8.ofNat (IntKind.u8.wrap ((48 : Int) + IntKind.u8.wrap (IntKind.i64.wrap ((Int.ofNat n.toNat).tmod (35 : Int))))).toNat]) b) fun y31 =>
       .ret (y31 == (IntKind.u32.wrap (↑(BitVec.ofInt IntKind.u32.bits b &&& BitVec.ofInt IntKind.u32.bits (0 : Int)).toNat : Int) == IntKind.u32.wrap (↑(BitVec.ofInt IntKind.u32.bits va &&& BitVec.ofInt IntKind.u32.bits (0 : Int)).toNat : Int))))
      (.ret false)))
     (.ret false))
     (.ret false))
    (fun y32 => .ret y32))
    (.call (law23_some.f l) fun y33 =>
    .call (ref22_Text.f va) fun y34 =>
    .chk ((↑(y34.length + [(47 : UInt8), (50 : UInt8), (52 : UInt8)].length) : Int) ≤ (9223372036854775807 : Int)) <| .call (ref22_Text.f va) fun y35 =>
    .both (law23_NetTells.L13.f [s, y33, y22 ++ [(47 : UInt8)] ++ [UInt8.ofNat (IntKind.u8.wrap ((48 : Int) + IntKind.u8.wrap (IntKind.i64.wrap ((IntKind.i64.wrap ((Int.ofNat n.toNat).tmod (35 : Int))).tdiv (10 : Int))))).toNat, UInt8.ofNat (IntKind.u8.wrap ((48 : Int) + IntKind.u8.wrap ((IntKind.i64.wrap ((Int.ofNat n.toNat).tmod (35 : Int))).tmod (10 : Int)))).toNat], y34 ++ [(47 : UInt8), (50 : UInt8), (52 : UInt8)], y35] va b (5 : Int) (0 : Int)) (fun _ => .call (net_Text.f va) fun y37 =>
     .call (net_IP.f y37) fun (y38a, y38b) =>
     .br y38b (.br (y38a == va) (.br (decide (IntKind.i64.wrap ((Int.ofNat n.toNat).tmod (35 : Int)) > (32 : Int))) (.ret true)
      (.call (net_Has.f (y22 ++ [(47 : UInt8)] ++ [UInt8.ofNat (IntKind.u8.wrap ((48 : Int) + IntKind.u8.wrap (IntKind.i64.wrap ((IntKind.i64.wrap ((Int.ofNat n.toNat).tmod (35 : Int))).tdiv (10 : Int))))).toNat, UInt8.ofNat (IntKind.u8.wrap ((48 : Int) + IntKind.u8.wrap ((IntKind.i64.wrap ((Int.ofNat n.toNat).tmod (35 : Int))).tmod (10 : Int)))).toNat]) va) fun y39 =>
      .br y39 (.call (net_Has.f (y22 ++ [(47 : UInt8)] ++ [UInt8.ofNat (IntKind.u8.wrap ((48 : Int) + IntKind.u8.wrap (IntKind.i64.wrap ((IntKind.i64.wrap ((Int.ofNat n.toNat).tmod (35 : Int))).tdiv (10 : Int))))).toNat, UInt8.ofNat (IntKind.u8.wrap ((48 : Int) + IntKind.u8.wrap ((IntKind.i64.wrap ((Int.ofNat n.toNat).tmod (35 : Int))).tmod (10 : Int)))).toNat]) b) fun y40 =>
       .ret (y40 == (IntKind.u32.wrap (↑(BitVec.ofInt IntKind.u32.bits b &&& BitVec.ofInt IntKind.u32.bits (0 : Int)).toNat : Int) == IntKind.u32.wrap (↑(BitVec.ofInt IntKind.u32.bits va &&& BitVec.ofInt IntKind.u32.bits (0 : Int)).toNat : Int))))
      (.ret false)))
     (.ret false))
     (.ret false))
    (fun y41 => .ret y41))))
   (.twice <| .call (ref22_Text.f (IntKind.u32.wrap (↑(BitVec.ofInt IntKind.u32.bits va &&& BitVec.ofInt IntKind.u32.bits (0 : Int)).toNat : Int))) fun y42 =>
   .chk ((↑(y42.length + [(47 : UInt8)].length) : Int) ≤ (9223372036854775807 : Int)) <| .chk ((↑((y42 ++ [(47 : UInt8)]).length + [UInt8.ofNat (IntKind.u8.wrap ((48 : Int) + IntKind.u8.wrap (IntKind.i64.wrap ((IntKind.i64.wrap ((Int.ofNat n.toNat).tmod (35 : Int))).tdiv (10 : Int))))).toNat, UInt8.ofNat (IntKind.u8.wrap ((48 : Int) + IntKind.u8.wrap ((IntKind.i64.wrap ((Int.ofNat n.toNat).tmod (35 : Int))).tmod (10 : Int)))).toNat].length) : Int) ≤ (9223372036854775807 : Int)) <| .br (decide (IntKind.i64.wrap ((Int.ofNat n.toNat).tmod (35 : Int)) < (10 : Int))) (.twice <| .call (ref22_Text.f (IntKind.u32.wrap (↑(BitVec.ofInt IntKind.u32.bits va &&& BitVec.ofInt IntKind.u32.bits (0 : Int)).toNat : Int))) fun y43 =>
    .chk ((↑(y43.length + [(47 : UInt8)].length) : Int) ≤ (9223372036854775807 : Int)) <| .chk ((↑((y43 ++ [(47 : UInt8)]).length + [UInt8.ofNat (IntKind.u8.wrap ((48 : Int) + IntKind.u8.wrap (IntKind.i64.wrap ((Int.ofNat n.toNat).tmod (35 : Int))))).toNat].length) : Int) ≤ (9223372036854775807 : Int)) <| .call (law23_some.f l) fun y44 =>
    .call (ref22_Text.f va) fun y45 =>
    .chk ((↑(y45.length + [(47 : UInt8), (50 : UInt8), (52 : UInt8)].length) : Int) ≤ (9223372036854775807 : Int)) <| .call (ref22_Text.f va) fun y46 =>
    .both (law23_NetTells.L13.f [s, y44, y43 ++ [(47 : UInt8)] ++ [UInt8.ofNat (IntKind.u8.wrap ((48 : Int) + IntKind.u8.wrap (IntKind.i64.wrap ((Int.ofNat n.toNat).tmod (35 : Int))))).toNat], y45 ++ [(47 : UInt8), (50 : UInt8), (52 : UInt8)], y46] va b (5 : Int) (0 : Int)) (fun _ => .call (net_Text.f va) fun y48 =>
    .call (net_IP.f y48) fun (y49a, y49b) =>
    .br y49b (.br (y49a == va) (.br (decide (IntKind.i64.wrap ((Int.ofNat n.toNat).tmod (35 : Int)) > (32 : Int))) (.ret true)
     (.call (net_Has.f (y43 ++ [(47 : UInt8)] ++ [UInt8.ofNat (IntKind.u8.wrap ((48 : Int) + IntKind.u8.wrap (IntKind.i64.wrap ((Int.ofNat n.toNat).tmod (35 : Int))))).toNat]) va) fun y50 =>
      .br y50 (.call (net_Has.f (y43 ++ [(47 : UInt8)] ++ [UInt8.ofNat (IntKind.u8.wrap ((48 : Int) + IntKind.u8.wrap (IntKind.i64.wrap ((Int.ofNat n.toNat).tmod (35 : Int))))).toNat]) b) fun y51 =>
      .ret (y51 == (IntKind.u32.wrap (↑(BitVec.ofInt IntKind.u32.bits b &&& BitVec.ofInt IntKind.u32.bits (0 : Int)).toNat : Int) == IntKind.u32.wrap (↑(BitVec.ofInt IntKind.u32.bits va &&& BitVec.ofInt IntKind.u32.bits (0 : Int)).toNat : Int))))
      (.ret false)))
     (.ret false))
    (.ret false))
    (fun y52 => .ret y52))
   (.call (law23_some.f l) fun y53 =>
    .call (ref22_Text.f va) fun y54 =>
    .chk ((↑(y54.length + [(47 : UInt8), (50 : UInt8), (52 : UInt8)].length) : Int) ≤ (9223372036854775807 : Int)) <| .call (ref22_Text.f va) fun y55 =>
    .both (law23_NetTells.L13.f [s, y53, y42 ++ [(47 : UInt8)] ++ [UInt8.ofNat (IntKind.u8.wrap ((48 : Int) + IntKind.u8.wrap (IntKind.i64.wrap ((IntKind.i64.wrap ((Int.ofNat n.toNat).tmod (35 : Int))).tdiv (10 : Int))))).toNat, UInt8.ofNat (IntKind.u8.wrap ((48 : Int) + IntKind.u8.wrap ((IntKind.i64.wrap ((Int.ofNat n.toNat).tmod (35 : Int))).tmod (10 : Int)))).toNat], y54 ++ [(47 : UInt8), (50 : UInt8), (52 : UInt8)], y55] va b (5 : Int) (0 : Int)) (fun _ => .call (net_Text.f va) fun y57 =>
    .call (net_IP.f y57) fun (y58a, y58b) =>
    .br y58b (.br (y58a == va) (.br (decide (IntKind.i64.wrap ((Int.ofNat n.toNat).tmod (35 : Int)) > (32 : Int))) (.ret true)
     (.call (net_Has.f (y42 ++ [(47 : UInt8)] ++ [UInt8.ofNat (IntKind.u8.wrap ((48 : Int) + IntKind.u8.wrap (IntKind.i64.wrap ((IntKind.i64.wrap ((Int.ofNat n.toNat).tmod (35 : Int))).tdiv (10 : Int))))).toNat, UInt8.ofNat (IntKind.u8.wrap ((48 : Int) + IntKind.u8.wrap ((IntKind.i64.wrap ((Int.ofNat n.toNat).tmod (35 : Int))).tmod (10 : Int)))).toNat]) va) fun y59 =>
      .br y59 (.call (net_Has.f (y42 ++ [(47 : UInt8)] ++ [UInt8.ofNat (IntKind.u8.wrap ((48 : Int) + IntKind.u8.wrap (IntKind.i64.wrap ((IntKind.i64.wrap ((Int.ofNat n.toNat).tmod (35 : Int))).tdiv (10 : Int))))).toNat, UInt8.ofNat (IntKind.u8.wrap ((48 : Int) + IntKind.u8.wrap ((IntKind.i64.wrap ((Int.ofNat n.toNat).tmod (35 : Int))).tmod (10 : Int)))).toNat]) b) fun y60 =>
      .ret (y60 == (IntKind.u32.wrap (↑(BitVec.ofInt IntKind.u32.bits b &&& BitVec.ofInt IntKind.u32.bits (0 : Int)).toNat : Int) == IntKind.u32.wrap (↑(BitVec.ofInt IntKind.u32.bits va &&& BitVec.ofInt IntKind.u32.bits (0 : Int)).toNat : Int))))
      (.ret false)))
     (.ret false))
    (.ret false))
    (fun y61 => .ret y61))))))
def f (s : List UInt8) (l : List UInt8) (va : Int) (b : Int) (n : UInt8) : Option (Bool) := (t s l va b n).val
def F (x : D.den) : Option (Bool) := f x.2.1 x.2.2.1 x.2.2.2.1 x.2.2.2.2.1 x.2.2.2.2.2
def pa : D.den → (Bool) → A.den := fun (_, (_, (_, (_, (_, _))))) y1 => ((), y1)
def con : Con := tcon D A pa F
theorem ok : ConOk Tryd.prog 3 con := tcon_ok Base.mixed Base.prog_ok bk_law23_known_ok (by kernel_rfl) (.cons L13.ok (by kernel_rfl) (.nil)) 9 (fun _ => rfl) (fun x => t x.2.1 x.2.2.1 x.2.2.2.1 x.2.2.2.2.1 x.2.2.2.2.2) (fun _ => rfl) fun _ _ _ => (by kernel_rfl)
theorem law_ok (h : ∀ x, (lawCon [.str, (.sl .byte), (.int .u32), (.int .u32), .byte]).pre x → F x = some true) : ConOk Tryd.prog 3 (lawCon [.str, (.sl .byte), (.int .u32), (.int .u32), .byte]) := Go.Vx.law_ok ok h
end law23_NetTells
end Go.Vx
end
section
set_option linter.unusedVariables false
set_option linter.unusedSimpArgs false
set_option maxRecDepth 100000
namespace Go.Vx
namespace Pl
open Go Go.Proofs
theorem known_ok : law23_known.f = some true := by
 have e1 : net_IP.f [(49 : UInt8), (48 : UInt8), (46 : UInt8), (49 : UInt8), (46 : UInt8), (50 : UInt8), (46 : UInt8), (51 : UInt8)] = some (167838211, true) := (net_IP_f (by decide)).trans (by decide +kernel)
 have e2 : net_IP.f [(49 : UInt8), (48 : UInt8), (46 : UInt8), (49 : UInt8), (46 : UInt8), (50 : UInt8), (46 : UInt8), (48 : UInt8), (51 : UInt8)] = some (0, false) := (net_IP_f (by decide)).trans (by decide +kernel)
 have e3 : net_Net.f [(49 : UInt8), (48 : UInt8), (46 : UInt8), (48 : UInt8), (46 : UInt8), (48 : UInt8), (46 : UInt8), (48 : UInt8), (47 : UInt8), (56 : UInt8)] = some (167772160, 8, true) := (net_Net_f (by decide)).trans (by decide +kernel)
 have e4 : net_Net.f [(49 : UInt8), (48 : UInt8), (46 : UInt8), (48 : UInt8), (46 : UInt8), (48 : UInt8), (46 : UInt8), (49 : UInt8), (47 : UInt8), (56 : UInt8)] = some (0, 0, false) := (net_Net_f (by decide)).trans (by decide +kernel)
 have e5 : net_Has.f [(49 : UInt8), (48 : UInt8), (46 : UInt8), (48 : UInt8), (46 : UInt8), (48 : UInt8), (46 : UInt8), (48 : UInt8), (47 : UInt8), (56 : UInt8)] ((167838211 : Nat) : Int) = some true := (net_Has_f (by decide) (by decide)).trans (by decide +kernel)
 have e6 : net_Has.f [(49 : UInt8), (49 : UInt8), (46 : UInt8), (48 : UInt8), (46 : UInt8), (48 : UInt8), (46 : UInt8), (48 : UInt8), (47 : UInt8), (56 : UInt8)] ((167838211 : Nat) : Int) = some false := (net_Has_f (by decide) (by decide)).trans (by decide +kernel)
 have e7 : net_Text.f ((167838211 : Nat) : Int) = some [(49 : UInt8), (48 : UInt8), (46 : UInt8), (49 : UInt8), (46 : UInt8), (50 : UInt8), (46 : UInt8), (51 : UInt8)] := (net_Text_f (by decide)).trans (by decide +kernel)
 rw [show ((167838211 : Nat) : Int) = 167838211 from rfl] at e5 e6 e7
 unfold law23_known.f law23_known.t
 rw [e1, e2, e3, e4, Tr.val_call rfl, Tr.val_call rfl, Tr.val_call rfl, Tr.val_call rfl]
 show (Tr.call (net_Has.f _ 167838211) _).val = _
 rw [e5, Tr.val_call rfl]
 show (Tr.call (net_Has.f _ 167838211) _).val = _
 rw [e6, Tr.val_call rfl]
 show (Tr.call (net_Text.f 167838211) _).val = _
 rw [e7, Tr.val_call rfl]
 rfl
theorem nat_of_u32 {n : Int} (h : (Lit.int .u32 n).wf = true) : ∃ k : Nat, n = (k : Int) ∧ k < 4294967296 := by
 have h1 : 0 ≤ n ∧ n ≤ 4294967295 := by
  have : (decide (IntKind.u32.min ≤ n) && decide (n ≤ IntKind.u32.max)) = true := h
  simp only [Bool.and_eq_true, decide_eq_true_eq] at this
  exact this
 exact ⟨n.toNat, by omega, by omega⟩
def someP : List (List UInt8) := [[(49 : UInt8), (48 : UInt8)], [(46 : UInt8)], [(48 : UInt8)], [(50 : UInt8), (53 : UInt8), (53 : UInt8)], [(50 : UInt8), (53 : UInt8), (54 : UInt8)], [(47 : UInt8)], [(56 : UInt8)], [(51 : UInt8), (50 : UInt8)], [(51 : UInt8), (51 : UInt8)], [(49 : UInt8)], [(48 : UInt8), (48 : UInt8)], [(45 : UInt8)], [(32 : UInt8)]]
theorem someP_len : ∀ k : Nat, (someP.getD k []).length ≤ 3 := by
 intro k
 by_cases h : k < 13
 ·exact (show ∀ k : Fin 13, (someP.getD k.val []).length ≤ 3 by decide) ⟨k, h⟩
 ·rw [List.getD_eq_getElem?_getD, List.getElem?_eq_none (by show 13 ≤ k; omega)]; simp
def someS (c : UInt8) : List UInt8 := someP.getD (c.toNat % 13) []
theorem someS_len (c : UInt8) : (someS c).length ≤ 3 := someP_len _
theorem some_f {l : List UInt8} (hl : l.length ≤ 12) : ∃ s, law23_some.f l = some s ∧ s.length ≤ 36 := by
 have hL : law23_some.L4.f l someP [] 0 = some (l.foldl (fun s c => s ++ someS c) []) := by
  unfold law23_some.L4.f
  refine (Loop_list (A := List UInt8) (a := []) l (fun k a => (a, (k : Int))) (fun k a => a.length ≤ 3 * k) (fun s c => .inl (s ++ someS c)) id ?_ ?_ (by omega) (by simp) rfl).trans ?_
  ·intro k a c hi hk hc
   have hp := someS_len c
   refine ⟨?_, fun a' ha' => by cases ha'; simp; omega⟩
   subst hc
   have hw := wS (k := k) (by omega)
   have hx : IntKind.i64.wrap (((l[k].toNat : Nat)) : Int) = (l[k].toNat : Int) := by
    have := UInt8.toNat_lt l[k]
    exact w64 (by omega) (by omega)
   have ht : ((l[k].toNat : Int)).tmod (someP.length : Int) = ((l[k].toNat % 13 : Nat) : Int) := rfl
   have h13 : someP.length = 13 := rfl
   have d1 : decide ((k : Int) < (l.length : Int)) = true := by simp; omega
   have hS : someP.getD (l[k].toNat % 13) [] = someS l[k] := rfl
   unfold law23_some.L4.t
   simp only [Nat.zero_add, Int.toNat_natCast, getD_nat hk rfl, hx, ht, hw, d1, hS]
   show (Tr.chk _ _).val = _
   rw [Tr.val_chk (by omega), Tr.val_chk hk, Tr.val_chk (by rw [h13]; decide), Tr.val_chk (by rw [h13]; omega), Tr.val_chk (by rw [h13]; omega), Tr.val_chk (by simp; omega)]
   rfl
  ·intro a _
   have d1 : decide ((l.length : Int) < (l.length : Int)) = false := by simp
   unfold law23_some.L4.t
   rw [d1]
   rfl
  ·congr 1
   generalize ([] : List UInt8) = s0
   induction l generalizing s0 with
   | nil => rfl
   | cons c l ih =>
    rw [foldE, List.foldl_cons]
    exact ih (by simp at hl; omega) (s0 ++ someS c)
 refine ⟨l.foldl (fun s c => s ++ someS c) [], ?_, ?_⟩
 ·unfold law23_some.f law23_some.t
  show (Tr.okl _ (Tr.call (law23_some.L4.f l someP [] 0) _)).val = _
  rw [hL]
  rfl
 ·have : ∀ (l : List UInt8) (s0 : List UInt8), (l.foldl (fun s c => s ++ someS c) s0).length ≤ s0.length + 3 * l.length := by
   intro l
   induction l with
   | nil => intro s0; simp
   | cons c l ih =>
    intro s0
    have hp := someS_len c
    have := ih (s0 ++ someS c)
    simp only [List.foldl_cons, List.length_cons, List.length_append] at this ⊢
    omega
  have := this l []
  simp only [List.length_nil] at this
  omega
theorem tells_loop {l : List (List UInt8)} {a b : Nat} (ha : a < 4294967296) (hb : b < 4294967296) (hl : ∀ x ∈ l, x.length < 1073741824) (hn : l.length < 1125899906842624) {N : Int} (hN : N = (l.length : Int)) :
  law23_NetTells.L13.f l (a : Int) (b : Int) N 0 = some (.inl ()) := by
 subst hN
 unfold law23_NetTells.L13.f
 refine (Loop_list (A := Unit) (a := ()) l (fun k _ => (k : Int)) (fun _ _ => True) (fun _ _ => .inl ()) (fun _ => .inl ()) ?_ ?_ hn trivial rfl).trans ?_
 ·intro k a' c _ hk hc
  refine ⟨?_, fun _ _ => trivial⟩
  subst hc
  have hw := wS (k := k) (by omega)
  have hx := hl _ (List.getElem_mem hk)
  have d1 : decide ((k : Int) < (l.length : Int)) = true := by simp; omega
  unfold law23_NetTells.L13.t
  simp only [Nat.zero_add, Int.toNat_natCast, getD_nat hk rfl, hw, d1, net_IP_f hx, ref22_IP_f hx, net_Net_f hx, ref22_Net_f hx, net_Has_f hx ha, net_Has_f hx hb, ref22_Has_f hx ha, ref22_Has_f hx hb]
  simp [Tr.val, hk]
 ·intro a' _
  have d1 : decide ((l.length : Int) < (l.length : Int)) = false := by simp
  unfold law23_NetTells.L13.t
  rw [d1]
  rfl
 ·have : ∀ (l : List (List UInt8)), foldE (fun (_ : Unit) (_ : List UInt8) => (Sum.inl () : Unit ⊕ (Unit ⊕ Bool))) (fun _ => .inl ()) () l = .inl () := by
   intro l
   induction l with
   | nil => rfl
   | cons c l ih => exact ih
  rw [this]
theorem mod35 (n : UInt8) : IntKind.i64.wrap ((Int.ofNat n.toNat).tmod (35 : Int)) = ((n.toNat % 35 : Nat) : Int) := by
 rw [show (Int.ofNat n.toNat).tmod (35 : Int) = ((n.toNat % 35 : Nat) : Int) from rfl]
 exact w64 (by omega) (by omega)
theorem digs : ∀ k : Fin 35, UInt8.ofNat (IntKind.u8.wrap ((48 : Int) + IntKind.u8.wrap (k.val : Int))).toNat = dc k.val ∧ UInt8.ofNat (IntKind.u8.wrap ((48 : Int) + IntKind.u8.wrap (IntKind.i64.wrap ((k.val : Int).tdiv (10 : Int))))).toNat = dc (k.val / 10) ∧ UInt8.ofNat (IntKind.u8.wrap ((48 : Int) + IntKind.u8.wrap ((k.val : Int).tmod (10 : Int)))).toNat = dc (k.val % 10) := by decide +kernel
theorem maskE : ∀ k : Fin 33, IntKind.u32.wrap ((4294967295 : Int) * (2 : Int) ^ min (IntKind.i64.wrap ((32 : Int) - (k.val : Int))).toNat IntKind.u32.bits) = ((maskN k.val : Nat) : Int) := by decide +kernel
theorem mask0 : maskN 0 = 0 := by decide
theorem val_yes {α : Type} (x y : Tr α) : (Tr.br true x y).val = x.val := rfl
theorem val_twice {α : Type} (x : Tr α) : (Tr.twice x).val = x.val := rfl
theorem tells_end {a b k m : Nat} {X : Int} {s y own : List UInt8} (ha : a < 4294967296) (hb : b < 4294967296) (hs : s.length ≤ 40) (hy : y.length ≤ 36) (ho : own.length ≤ 40) (hk : k < 35)
  (hok : k ≤ 32 → own = textS (a / 2 ^ (32 - k) * 2 ^ (32 - k)) ++ 47 :: dg k) (hm : k ≤ 32 → m = maskN k) (hX : k ≤ 32 → X = ((a / 2 ^ (32 - k) * 2 ^ (32 - k) : Nat) : Int)) :
  (Tr.chk ((↑((textS a).length + [(47 : UInt8), (50 : UInt8), (52 : UInt8)].length) : Int) ≤ (9223372036854775807 : Int)) (.call (ref22_Text.f (a : Int)) fun y6 =>
    .both (law23_NetTells.L13.f [s, y, own, textS a ++ [(47 : UInt8), (50 : UInt8), (52 : UInt8)], y6] (a : Int) (b : Int) (5 : Int) (0 : Int)) (fun _ => .call (net_Text.f (a : Int)) fun y8 =>
     .call (net_IP.f y8) fun (y9a, y9b) =>
     .br y9b (.br (y9a == (a : Int)) (.br (decide ((k : Int) > (32 : Int))) (.ret true)
      (.call (net_Has.f own (a : Int)) fun y10 =>
      .br y10 (.call (net_Has.f own (b : Int)) fun y11 =>
       .ret (y11 == (IntKind.u32.wrap (↑(BitVec.ofInt IntKind.u32.bits (b : Int) &&& BitVec.ofInt IntKind.u32.bits (m : Int)).toNat : Int) == X)))
      (.ret false)))
     (.ret false))
     (.ret false))
    (fun y12 => .ret y12))).val = some true := by
 have hl := text_len a
 have hloop : law23_NetTells.L13.f [s, y, own, textS a ++ [(47 : UInt8), (50 : UInt8), (52 : UInt8)], textS a] (a : Int) (b : Int) (5 : Int) (0 : Int) = some (.inl ()) := tells_loop ha hb (fun x hx => by
  simp only [List.mem_cons, List.not_mem_nil, or_false] at hx
  rcases hx with e | e | e | e | e <;> subst e <;> (try simp) <;> omega) (by simp) rfl
 rw [Tr.val_chk (by simp; omega), ref22_Text_f ha, Tr.val_call rfl, hloop, Tr.val_inl rfl, net_Text_f ha, Tr.val_call rfl, net_IP_f (by omega), Tr.val_call rfl, ipS_text ha]
 have e1 : ((a : Int) == (a : Int)) = true := by simp
 simp only [e1]
 show (Tr.br (decide ((k : Int) > (32 : Int))) _ _).val = _
 by_cases h32 : k ≤ 32
 ·have d : decide ((k : Int) > (32 : Int)) = false := by simp; omega
  have hq := pow_pos' k
  have hmod : a / 2 ^ (32 - k) * 2 ^ (32 - k) % 2 ^ (32 - k) = 0 := Nat.mul_mod_left _ _
  have hdiv : a / 2 ^ (32 - k) * 2 ^ (32 - k) / 2 ^ (32 - k) = a / 2 ^ (32 - k) := Nat.mul_div_cancel _ hq
  have hd1 : a / 2 ^ (32 - k) * 2 ^ (32 - k) ≤ a := Nat.div_mul_le_self _ _
  have hN := netS_own (a := a / 2 ^ (32 - k) * 2 ^ (32 - k)) (n := k) (by omega) h32
  rw [if_pos hmod, ← hok h32] at hN
  rw [d, val_no, hm h32, hX h32, u_and hb (maskN_lt k), and_mask hb h32, net_Has_f (by omega) ha, Tr.val_call rfl, net_Has_f (by omega) hb]
  have c4 : (((b / 2 ^ (32 - k) * 2 ^ (32 - k) : Nat) : Int) == ((a / 2 ^ (32 - k) * 2 ^ (32 - k) : Nat) : Int)) = decide (a / 2 ^ (32 - k) = b / 2 ^ (32 - k)) := by
   by_cases h : a / 2 ^ (32 - k) = b / 2 ^ (32 - k)
   ·rw [h]; simp
   ·have : b / 2 ^ (32 - k) * 2 ^ (32 - k) ≠ a / 2 ^ (32 - k) * 2 ^ (32 - k) := fun e => h (Nat.eq_of_mul_eq_mul_right hq e).symm
    rw [decide_eq_false h]; exact beq_false_of_ne (by omega)
  rw [c4]
  simp only [hasS, hN, Int.toNat_natCast, hdiv, Tr.val, Bool.true_and, decide_true, cond_true, beq_self_eq_true]
 ·have d : decide ((k : Int) > (32 : Int)) = true := by simp; omega
  rw [d]; rfl
theorem tells_ok {s l : List UInt8} {va b : Int} (n : UInt8) (h : (Lit.int .u32 va).wf = true) (h' : (Lit.int .u32 b).wf = true) : law23_NetTells.f s l va b n = some true := by
 obtain ⟨a, rfl, ha⟩ := nat_of_u32 h
 obtain ⟨b, rfl, hb⟩ := nat_of_u32 h'
 have hk : n.toNat % 35 < 35 := by omega
 unfold law23_NetTells.f law23_NetTells.t
 rw [known_ok, Tr.val_call rfl]
 show (Tr.br (decide ((s.length : Int) > (40 : Int))) _ _).val = _
 by_cases h1 : (s.length : Int) > 40
 ·rw [decide_eq_true h1]; rfl
 rw [decide_eq_false h1, val_no]
 by_cases h2 : (l.length : Int) > 12
 ·rw [decide_eq_true h2]; rfl
 rw [decide_eq_false h2, val_no, mod35]
 obtain ⟨y, hy, hyl⟩ := some_f (l := l) (by omega)
 generalize n.toNat % 35 = k at hk ⊢
 obtain ⟨g1, g2, g3⟩ := digs ⟨k, hk⟩
 simp only at g1 g2 g3
 rw [g1, g2, g3, hy]
 have d10 : decide ((k : Int) < 10) = decide (k < 10) := decide_eq_decide.2 (by omega)
 have hx := text_len a
 have ea : ∀ p q : List UInt8, p ++ [(47 : UInt8)] ++ q = p ++ 47 :: q := fun p q => by simp
 by_cases h3 : k ≤ 32
 ·have hd1 : a / 2 ^ (32 - k) * 2 ^ (32 - k) ≤ a := Nat.div_mul_le_self _ _
  have hm : ∀ m : Nat, m = maskN k → IntKind.u32.wrap (↑(BitVec.ofInt IntKind.u32.bits (a : Int) &&& BitVec.ofInt IntKind.u32.bits (m : Int)).toNat : Int) = ((a / 2 ^ (32 - k) * 2 ^ (32 - k) : Nat) : Int) := fun m e => by
   rw [e, u_and ha (maskN_lt k), and_mask ha h3]
  have ht := text_len (a / 2 ^ (32 - k) * 2 ^ (32 - k))
  have e10 : ∀ t : List UInt8, k < 10 → t ++ [(47 : UInt8)] ++ [dc k] = t ++ 47 :: dg k := fun t h => by simp [dg, h]
  have e11 : ∀ t : List UInt8, ¬ k < 10 → t ++ [(47 : UInt8)] ++ [dc (k / 10), dc (k % 10)] = t ++ 47 :: dg k := fun t h => by simp [dg, h, show k < 100 by omega]
  by_cases h0 : k = 0
  ·have hm0 := hm 0 (by subst h0; exact mask0.symm)
   rw [show ((0 : Nat) : Int) = 0 from rfl] at hm0
   have q1 : decide ((k : Int) > 0) = false := by simp; omega
   rw [q1, val_no, hm0, ref22_Text_f (by omega), val_twice, Tr.val_call rfl, Tr.val_chk (by simp; omega), Tr.val_chk (by simp; omega), d10, decide_eq_true (show k < 10 by omega), val_yes, val_twice, Tr.val_call rfl, Tr.val_chk (by simp; omega), Tr.val_chk (by simp; omega), Tr.val_call rfl, ref22_Text_f ha, Tr.val_call rfl, ← ref22_Text_f ha]
   exact tells_end (m := 0) ha hb (by omega) hyl (by simp; omega) hk (fun _ => e10 _ (by omega)) (fun _ => by subst h0; exact mask0.symm) (fun _ => rfl)
  ·have hmE := maskE ⟨k, by omega⟩
   simp only at hmE
   have q1 : decide ((k : Int) > 0) = true := by simp; omega
   have q2 : decide ((k : Int) ≤ 32) = true := by simp; omega
   have q3 : ¬ IntKind.i64.wrap ((32 : Int) - (k : Int)) < 0 := by rw [w64 (by omega) (by omega)]; omega
   rw [q1, val_yes, q2, val_yes, Tr.val_chk q3, hmE, hm _ rfl, ref22_Text_f (by omega), val_twice, Tr.val_call rfl, Tr.val_chk (by simp; omega), Tr.val_chk (by simp; omega), d10]
   by_cases h10 : k < 10
   ·rw [decide_eq_true h10, val_yes, val_twice, Tr.val_call rfl, Tr.val_chk (by simp; omega), Tr.val_chk (by simp; omega), Tr.val_call rfl, ref22_Text_f ha, Tr.val_call rfl, ← ref22_Text_f ha]
    exact tells_end ha hb (by omega) hyl (by simp; omega) hk (fun _ => e10 _ h10) (fun _ => rfl) (fun _ => rfl)
   ·rw [decide_eq_false h10, val_no, Tr.val_call rfl, ref22_Text_f ha, Tr.val_call rfl, ← ref22_Text_f ha]
    exact tells_end ha hb (by omega) hyl (by simp; omega) hk (fun _ => e11 _ h10) (fun _ => rfl) (fun _ => rfl)
 ·have hm0 : IntKind.u32.wrap (↑(BitVec.ofInt IntKind.u32.bits (a : Int) &&& BitVec.ofInt IntKind.u32.bits (0 : Int)).toNat : Int) = ((0 : Nat) : Int) := by
   have := u_and (b := 0) ha (by omega)
   rw [Nat.and_zero] at this
   exact this
  have ht := text_len 0
  have q1 : decide ((k : Int) > 0) = true := by simp; omega
  have q2 : decide ((k : Int) ≤ 32) = false := by simp; omega
  have h10 : ¬ k < 10 := by omega
  rw [q1, val_yes, q2, val_no, hm0, ref22_Text_f (by omega), val_twice, Tr.val_call rfl, Tr.val_chk (by simp; omega), Tr.val_chk (by simp; omega), d10, decide_eq_false h10, val_no, Tr.val_call rfl, ref22_Text_f ha, Tr.val_call rfl, ← ref22_Text_f ha]
  exact tells_end (m := 0) ha hb (by omega) hyl (by simp; omega) hk (fun h => absurd h h3) (fun h => absurd h h3) (fun h => absurd h h3)
end Pl
end Go.Vx
end
