/- Printed by a program of ours out of our texts: the evaluator, the printed functions, the plain laws. (A help: no statement of the seat is proved here.) -/
import Derived.Test.YtdbcghiconpjlaaGreatDoorPRuleKindsC
section
set_option maxRecDepth 1000000
set_option maxHeartbeats 4000000
set_option synthInstance.maxSize 100000
set_option synthInstance.maxHeartbeats 400000
set_option linter.unusedVariables false
namespace Go.Vx
open Go Go.Vx Go.Proofs
namespace ref25_realm
def D : Dom := ⟨[], .str⟩
namespace L2
def D : Dom := ⟨[], (.cat .str (.int .i64))⟩
def A : Dom := ⟨[], .str⟩
def B : Dom := ⟨[], .bool⟩
def sel : List Nat := [0, 1]
def t (s : List UInt8) (i : Int) : Tr ((Int) ⊕ ((Unit) ⊕ (Bool))) :=
 .br (decide (i < (↑s.length : Int))) (.chk ((0 : Int) ≤ i ∧ i < (↑s.length : Int)) <| .call (ref1_Letter.f (↑(s.getD i.toNat (0 : UInt8)).toNat : Int)) fun y1 =>
  .br (!y1) (.chk ((0 : Int) ≤ i ∧ i < (↑s.length : Int)) <| .call (ref1_Digit.f (↑(s.getD i.toNat (0 : UInt8)).toNat : Int)) fun y2 =>
  .br (!y2) (.ret (.inr (.inr false)))
  (.ret (.inl (IntKind.i64.wrap (i + (1 : Int))))))
  (.ret (.inl (IntKind.i64.wrap (i + (1 : Int))))))
 (.ret (.inr (.inl ())))
def f (s : List UInt8) (i : Int) : Option ((Unit) ⊕ (Bool)) := Loop (fun z : Int => t s z) i
def F (x : D.den) : Option ((Unit) ⊕ (Bool)) := f x.2.1 x.2.2
def pa : D.den → (Unit) → A.den := fun (_, (s, _)) _ => ((), s)
def pb : D.den → (Bool) → B.den := fun (_, (_, _)) y1 => ((), y1)
def lap : Lap := tlap2 2 30 [0, 3] D (.exit 0) [0] A .ret [2] B pa pb F
def pk (x : D.den) (z : Int) : D.den := ((), (x.2.1, z))
def un (x : D.den) : Int := x.2.2
def body (x : D.den) (z : Int) : Tr ((Int) ⊕ ((Unit) ⊕ (Bool))) := t x.2.1 z
theorem ok : LapOk Tryz.prog 0 (codeOf Tryz.prog 39) lap := tlap2_ok Base.mixed Base.prog_ok bk_ref6_Path_ok (by kernel_rfl) (by kernel_rfl) LapsOk.nil 9 pk un body (fun _ _ => rfl) (fun _ _ => rfl) (fun _ _ => rfl) (fun _ _ => rfl) (fun _ => rfl) fun _ _ _ _ => (by kernel_rfl)
end L2
def A : Dom := ⟨[], .bool⟩
def sel : List Nat := [0]
def t (s : List UInt8) : Tr (Bool) :=
 .both (ref25_realm.L2.f s (0 : Int)) (fun _ => .br (decide ((↑s.length : Int) ≥ (1 : Int))) (.ret (decide ((↑s.length : Int) ≤ (64 : Int))))
  (.ret false))
 (fun y2 => .ret y2)
def f (s : List UInt8) : Option (Bool) := (t s).val
def F (x : D.den) : Option (Bool) := f x.2
def pa : D.den → (Bool) → A.den := fun (_, _) y1 => ((), y1)
def con : Con := tcon D A pa F
theorem ok : ConOk Tryz.prog 39 con := tcon_ok Base.mixed Base.prog_ok bk_ref6_Path_ok (by kernel_rfl) (.cons L2.ok (by kernel_rfl) (.nil)) 9 (fun _ => rfl) (fun x => t x.2) (fun _ => rfl) fun _ _ _ => (by kernel_rfl)
end ref25_realm
def bk_ref25_realm : Book := bk_ref6_Path.add 39 ref25_realm.con
theorem bk_ref25_realm_ok : BookOk Tryz.prog bk_ref25_realm := bk_ref6_Path_ok.add ref25_realm.ok
namespace ref1_Split
def D : Dom := ⟨[], (.cat .str (.int .u8))⟩
namespace L4
def D : Dom := ⟨[.vec .str 9 false], (.cat .str (.cat (.int .u8) (.cat (.sl 0 1) (.cat (.int .i64) (.int .i64)))))⟩
def A : Dom := ⟨[.vec .str 9 false], (.sl 0 1)⟩
def sel : List Nat := [0, 1, 2, 3, 4]
def t (out : List (List UInt8)) (s : List UInt8) (c : Int) (vfrom : Int) (i : Int) : Tr ((List (List UInt8) × Int × Int) ⊕ (List (List UInt8))) :=
 .br (decide (i ≤ (↑s.length : Int))) (.br (i == (↑s.length : Int)) (.chk ((0 : Int) ≤ vfrom ∧ vfrom ≤ i ∧ i ≤ (↑s.length : Int)) <| .chk ((0 : Nat) + out.length ≤ out.length) <| .chk ((out.length + (1 : Nat)) * (16 : Nat) ≤ (140737488355328 : Nat)) <| .chk ((0 : Nat) = (0 : Nat) ∧ out.length + (1 : Nat) = (List.take out.length (List.drop (0 : Nat) out) ++ [List.drop vfrom.toNat (List.take i.toNat s)]).length) <| .ret (.inl (List.take out.length (List.drop (0 : Nat) out) ++ [List.drop vfrom.toNat (List.take i.toNat s)], IntKind.i64.wrap (i + (1 : Int)), IntKind.i64.wrap (i + (1 : Int)))))
  (.chk ((0 : Int) ≤ i ∧ i < (↑s.length : Int)) <| .br ((↑(s.getD i.toNat (0 : UInt8)).toNat : Int) == c) (.chk ((0 : Int) ≤ vfrom ∧ vfrom ≤ i ∧ i ≤ (↑s.length : Int)) <| .chk ((0 : Nat) + out.length ≤ out.length) <| .chk ((out.length + (1 : Nat)) * (16 : Nat) ≤ (140737488355328 : Nat)) <| .chk ((0 : Nat) = (0 : Nat) ∧ out.length + (1 : Nat) = (List.take out.length (List.drop (0 : Nat) out) ++ [List.drop vfrom.toNat (List.take i.toNat s)]).length) <| .ret (.inl (List.take out.length (List.drop (0 : Nat) out) ++ [List.drop vfrom.toNat (List.take i.toNat s)], IntKind.i64.wrap (i + (1 : Int)), IntKind.i64.wrap (i + (1 : Int)))))
  (.okl out.length <| .ret (.inl (out, vfrom, IntKind.i64.wrap (i + (1 : Int)))))))
 (.okl out.length <| .ret (.inr out))
def f (out : List (List UInt8)) (s : List UInt8) (c : Int) (vfrom : Int) (i : Int) : Option (List (List UInt8)) := Loop (fun z : List (List UInt8) × Int × Int => t z.1 s c z.2.1 z.2.2) (out, vfrom, i)
def F (x : D.den) : Option (List (List UInt8)) := f x.1.1 x.2.1 x.2.2.1 x.2.2.2.2.1 x.2.2.2.2.2
def pa : D.den → (List (List UInt8)) → A.den := fun ((_, _), (_, (_, (_, (_, _))))) y1 => ((y1, ()), ())
def lap : Lap := tlap 4 35 [0, 1, 5, 6, 7] D (.exit 0) [5] A pa F
def pk (x : D.den) (z : List (List UInt8) × Int × Int) : D.den := ((z.1, ()), (x.2.1, (x.2.2.1, ((), (z.2.1, z.2.2)))))
def un (x : D.den) : List (List UInt8) × Int × Int := (x.1.1, x.2.2.2.2.1, x.2.2.2.2.2)
def body (x : D.den) (z : List (List UInt8) × Int × Int) : Tr ((List (List UInt8) × Int × Int) ⊕ (List (List UInt8))) := t z.1 x.2.1 x.2.2.1 z.2.1 z.2.2
theorem ok : LapOk Tryz.prog 0 (codeOf Tryz.prog 41) lap := tlap_ok Base.mixed Base.prog_ok bk_ref25_realm_ok (by kernel_rfl) (by kernel_rfl) LapsOk.nil 9 pk un body (fun _ _ => rfl) (fun _ _ => rfl) (fun _ _ => rfl) (fun _ => rfl) fun _ _ _ _ => (by kernel_rfl)
end L4
def A : Dom := ⟨[.vec .str 9 false], (.sl 0 1)⟩
def sel : List Nat := [0, 1]
def t (s : List UInt8) (c : Int) : Tr (List (List UInt8)) :=
 .call (ref1_Split.L4.f [] s c (0 : Int) (0 : Int)) fun y1 =>
 .okl y1.length <| .ret y1
def f (s : List UInt8) (c : Int) : Option (List (List UInt8)) := (t s c).val
def F (x : D.den) : Option (List (List UInt8)) := f x.2.1 x.2.2
def pa : D.den → (List (List UInt8)) → A.den := fun (_, (_, _)) y1 => ((y1, ()), ())
def con : Con := tcon D A pa F
theorem ok : ConOk Tryz.prog 41 con := tcon_ok Base.mixed Base.prog_ok bk_ref25_realm_ok (by kernel_rfl) (.cons L4.ok (by kernel_rfl) (.nil)) 9 (fun _ => rfl) (fun x => t x.2.1 x.2.2) (fun _ => rfl) fun _ _ _ => (by kernel_rfl)
end ref1_Split
def bk_ref1_Split : Book := bk_ref25_realm.add 41 ref1_Split.con
theorem bk_ref1_Split_ok : BookOk Tryz.prog bk_ref1_Split := bk_ref25_realm_ok.add ref1_Split.ok
namespace ref1_number
def D : Dom := ⟨[], (.cat .str (.cat (.int .i64) (.int .i64)))⟩
namespace L6
def D : Dom := ⟨[], (.cat .str (.cat (.int .i64) (.cat (.int .i64) (.cat (.int .i64) (.cat .bool (.int .i64))))))⟩
def A : Dom := ⟨[], (.cat (.int .i64) .bool)⟩
def B : Dom := ⟨[], (.cat (.int .i64) (.int .i64))⟩
def sel : List Nat := [0, 1, 2, 3, 4, 5]
def t (s : List UInt8) (base : Int) (most : Int) (n : Int) (over : Bool) (i : Int) : Tr ((Int × Bool × Int) ⊕ ((Int × Bool) ⊕ (Int × Int))) :=
 .br (decide (i < (↑s.length : Int))) (.chk ((0 : Int) ≤ i ∧ i < (↑s.length : Int)) <| .call (ref1_Hex.f (↑(s.getD i.toNat (0 : UInt8)).toNat : Int)) fun (y1a, y1b) =>
  .br (!y1b) (.ret (.inr (.inr ((0 : Int), (22 : Int)))))
  (.br (decide (y1a ≥ base)) (.ret (.inr (.inr ((0 : Int), (22 : Int)))))
  (.br over (.ret (.inl (n, true, IntKind.i64.wrap (i + (1 : Int)))))
   (.chk (base ≠ (0 : Int)) <| .br (decide (n > IntKind.i64.wrap ((IntKind.i64.wrap (most - y1a)).tdiv base))) (.ret (.inl (n, true, IntKind.i64.wrap (i + (1 : Int)))))
   (.br (decide (y1a > most)) (.ret (.inl (n, true, IntKind.i64.wrap (i + (1 : Int)))))
    (.ret (.inl (IntKind.i64.wrap (IntKind.i64.wrap (n * base) + y1a), over, IntKind.i64.wrap (i + (1 : Int))))))))))
 (.ret (.inr (.inl (n, over))))
def f (s : List UInt8) (base : Int) (most : Int) (n : Int) (over : Bool) (i : Int) : Option ((Int × Bool) ⊕ (Int × Int)) := Loop (fun z : Int × Bool × Int => t s base most z.1 z.2.1 z.2.2) (n, over, i)
def F (x : D.den) : Option ((Int × Bool) ⊕ (Int × Int)) := f x.2.1 x.2.2.1 x.2.2.2.1 x.2.2.2.2.1 x.2.2.2.2.2.1 x.2.2.2.2.2.2
def pa : D.den → (Int × Bool) → A.den := fun (_, (_, (_, (_, (_, (_, _)))))) (y1, y2) => ((), (y1, y2))
def pb : D.den → (Int × Int) → B.den := fun (_, (_, (_, (_, (_, (_, _)))))) (y1, y2) => ((), (y1, y2))
def lap : Lap := tlap2 6 59 [0, 1, 2, 8, 9, 10] D (.exit 0) [8, 9] A .ret [6, 7] B pa pb F
def pk (x : D.den) (z : Int × Bool × Int) : D.den := ((), (x.2.1, (x.2.2.1, (x.2.2.2.1, (z.1, (z.2.1, z.2.2))))))
def un (x : D.den) : Int × Bool × Int := (x.2.2.2.2.1, x.2.2.2.2.2.1, x.2.2.2.2.2.2)
def body (x : D.den) (z : Int × Bool × Int) : Tr ((Int × Bool × Int) ⊕ ((Int × Bool) ⊕ (Int × Int))) := t x.2.1 x.2.2.1 x.2.2.2.1 z.1 z.2.1 z.2.2
theorem ok : LapOk Tryz.prog 0 (codeOf Tryz.prog 81) lap := tlap2_ok Base.mixed Base.prog_ok bk_ref1_Split_ok (by kernel_rfl) (by kernel_rfl) LapsOk.nil 9 pk un body (fun _ _ => rfl) (fun _ _ => rfl) (fun _ _ => rfl) (fun _ _ => rfl) (fun _ => rfl) fun _ _ _ _ => (by kernel_rfl)
end L6
def A : Dom := ⟨[], (.tup (.cat (.int .i64) (.int .i64)))⟩
def sel : List Nat := [0, 1, 2]
def t (s : List UInt8) (base : Int) (most : Int) : Tr (Int × Int) :=
 .br (s == []) (.ret ((0 : Int), (22 : Int)))
 (.both (ref1_number.L6.f s base (mx2 most (0 : Int)) (0 : Int) false (0 : Int)) (fun (y1a, y1b) => .br y1b (.ret ((0 : Int), (23 : Int)))
  (.ret (y1a, (0 : Int))))
  (fun (y2a, y2b) => .ret (y2a, y2b)))
def f (s : List UInt8) (base : Int) (most : Int) : Option (Int × Int) := (t s base most).val
def F (x : D.den) : Option (Int × Int) := f x.2.1 x.2.2.1 x.2.2.2
def pa : D.den → (Int × Int) → A.den := fun (_, (_, (_, _))) (y1, y2) => ((), (y1, y2))
def con : Con := tcon D A pa F
theorem ok : ConOk Tryz.prog 81 con := tcon_ok Base.mixed Base.prog_ok bk_ref1_Split_ok (by kernel_rfl) (.cons L6.ok (by kernel_rfl) (.nil)) 9 (fun _ => rfl) (fun x => t x.2.1 x.2.2.1 x.2.2.2) (fun _ => rfl) fun _ _ _ => (by kernel_rfl)
end ref1_number
def bk_ref1_number : Book := bk_ref1_Split.add 81 ref1_number.con
theorem bk_ref1_number_ok : BookOk Tryz.prog bk_ref1_number := bk_ref1_Split_ok.add ref1_number.ok
namespace ref1_Dec
def D : Dom := ⟨[], (.cat .str (.int .i64))⟩
def A : Dom := ⟨[], (.tup (.cat (.int .i64) (.int .i64)))⟩
def sel : List Nat := [0, 1]
def t (s : List UInt8) (most : Int) : Tr (Int × Int) :=
 .call (ref1_number.f s (10 : Int) most) fun (y1a, y1b) =>
 .ret (y1a, y1b)
def f (s : List UInt8) (most : Int) : Option (Int × Int) := (t s most).val
def F (x : D.den) : Option (Int × Int) := f x.2.1 x.2.2
def pa : D.den → (Int × Int) → A.den := fun (_, (_, _)) (y1, y2) => ((), (y1, y2))
def con : Con := tcon D A pa F
theorem ok : ConOk Tryz.prog 47 con := tcon_ok Base.mixed Base.prog_ok bk_ref1_number_ok (by kernel_rfl) LapsOk.nil 9 (fun _ => rfl) (fun x => t x.2.1 x.2.2) (fun _ => rfl) fun _ _ _ => (by kernel_rfl)
end ref1_Dec
def bk_ref1_Dec : Book := bk_ref1_number.add 47 ref1_Dec.con
theorem bk_ref1_Dec_ok : BookOk Tryz.prog bk_ref1_Dec := bk_ref1_number_ok.add ref1_Dec.ok
namespace ref6_Host
def D : Dom := ⟨[], .str⟩
namespace L5
def D : Dom := ⟨[.vec .str 9 false], (.cat (.sl 0 1) (.int .i64))⟩
def A : Dom := ⟨[.vec .str 9 false], (.sl 0 1)⟩
def B : Dom := ⟨[], .bool⟩
def sel : List Nat := [0, 1]
def t (l : List (List UInt8)) (i : Int) : Tr ((Int) ⊕ ((Unit) ⊕ (Bool))) :=
 .chk ((0 : Int) ≤ (0 : Int) ∧ (0 : Int) < (↑l.length : Int)) <| .chk ((0 : Nat) < l.length) <| .br (decide (i < (↑(List.length (l.getD (0 : Nat) [])) : Int))) (.chk ((0 : Int) ≤ (0 : Int) ∧ (0 : Int) < (↑l.length : Int)) <| .chk ((0 : Nat) < l.length) <| .chk ((0 : Int) ≤ i ∧ i < (↑(List.length (l.getD (0 : Nat) [])) : Int)) <| .call (ref1_Letter.f (↑(List.getD (l.getD (0 : Nat) []) i.toNat (0 : UInt8)).toNat : Int)) fun y1 =>
  .br (!y1) (.call (ref1_Digit.f (↑(List.getD (l.getD (0 : Nat) []) i.toNat (0 : UInt8)).toNat : Int)) fun y2 =>
  .br (!y2) (.br ((↑(List.getD (l.getD (0 : Nat) []) i.toNat (0 : UInt8)).toNat : Int) != (45 : Int)) (.br ((↑(List.getD (l.getD (0 : Nat) []) i.toNat (0 : UInt8)).toNat : Int) != (46 : Int)) (.br ((↑(List.getD (l.getD (0 : Nat) []) i.toNat (0 : UInt8)).toNat : Int) != (95 : Int)) (.br ((↑(List.getD (l.getD (0 : Nat) []) i.toNat (0 : UInt8)).toNat : Int) != (126 : Int)) (.ret (.inr (.inr false)))
    (.okl l.length <| .ret (.inl (IntKind.i64.wrap (i + (1 : Int))))))
    (.okl l.length <| .ret (.inl (IntKind.i64.wrap (i + (1 : Int))))))
   (.okl l.length <| .ret (.inl (IntKind.i64.wrap (i + (1 : Int))))))
   (.okl l.length <| .ret (.inl (IntKind.i64.wrap (i + (1 : Int))))))
  (.okl l.length <| .ret (.inl (IntKind.i64.wrap (i + (1 : Int))))))
  (.okl l.length <| .ret (.inl (IntKind.i64.wrap (i + (1 : Int))))))
 (.okl l.length <| .ret (.inr (.inl ())))
def f (l : List (List UInt8)) (i : Int) : Option ((Unit) ⊕ (Bool)) := Loop (fun z : Int => t l z) i
def F (x : D.den) : Option ((Unit) ⊕ (Bool)) := f x.1.1 x.2.2
def pa : D.den → (Unit) → A.den := fun ((l, _), (_, _)) _ => ((l, ()), ())
def pb : D.den → (Bool) → B.den := fun ((_, _), (_, _)) y1 => ((), y1)
def lap : Lap := tlap2 5 83 [3, 4] D (.exit 0) [3] A .ret [2] B pa pb F
def pk (x : D.den) (z : Int) : D.den := ((x.1.1, ()), ((), z))
def un (x : D.den) : Int := x.2.2
def body (x : D.den) (z : Int) : Tr ((Int) ⊕ ((Unit) ⊕ (Bool))) := t x.1.1 z
theorem ok : LapOk Tryz.prog 0 (codeOf Tryz.prog 75) lap := tlap2_ok Base.mixed Base.prog_ok bk_ref1_Dec_ok (by kernel_rfl) (by kernel_rfl) LapsOk.nil 9 pk un body (fun _ _ => rfl) (fun _ _ => rfl) (fun _ _ => rfl) (fun _ _ => rfl) (fun _ => rfl) fun _ _ _ _ => (by kernel_rfl)
end L5
def A : Dom := ⟨[], .bool⟩
def sel : List Nat := [0]
def t (s : List UInt8) : Tr (Bool) :=
 .call (ref1_Split.f s (58 : Int)) fun y1 =>
 .br (decide ((↑y1.length : Int) > (2 : Int))) (.ret false)
 (.chk ((0 : Int) ≤ (0 : Int) ∧ (0 : Int) < (↑y1.length : Int)) <| .chk ((0 : Nat) < y1.length) <| .br (decide ((↑(List.length (y1.getD (0 : Nat) [])) : Int) < (1 : Int))) (.ret false)
  (.chk ((0 : Int) ≤ (0 : Int) ∧ (0 : Int) < (↑y1.length : Int)) <| .chk ((0 : Nat) < y1.length) <| .br (decide ((↑(List.length (y1.getD (0 : Nat) [])) : Int) > (255 : Int))) (.ret false)
  (.okl y1.length <| .both (ref6_Host.L5.f y1 (0 : Int)) (fun _ => .br ((↑y1.length : Int) == (1 : Int)) (.ret true)
   (.chk ((0 : Int) ≤ (1 : Int) ∧ (1 : Int) < (↑y1.length : Int)) <| .chk ((1 : Nat) < y1.length) <| .call (ref1_Dec.f (y1.getD (1 : Nat) []) (65535 : Int)) fun (_, y3b) =>
    .br (y3b == (0 : Int)) (.chk ((0 : Int) ≤ (1 : Int) ∧ (1 : Int) < (↑y1.length : Int)) <| .chk ((1 : Nat) < y1.length) <| .ret (decide ((↑(List.length (y1.getD (1 : Nat) [])) : Int) ≤ (5 : Int))))
    (.ret false)))
   (fun y4 => .ret y4))))
def f (s : List UInt8) : Option (Bool) := (t s).val
def F (x : D.den) : Option (Bool) := f x.2
def pa : D.den → (Bool) → A.den := fun (_, _) y1 => ((), y1)
def con : Con := tcon D A pa F
theorem ok : ConOk Tryz.prog 75 con := tcon_ok Base.mixed Base.prog_ok bk_ref1_Dec_ok (by kernel_rfl) (.cons L5.ok (by kernel_rfl) (.nil)) 9 (fun _ => rfl) (fun x => t x.2) (fun _ => rfl) fun _ _ _ => (by kernel_rfl)
end ref6_Host
def bk_ref6_Host : Book := bk_ref1_Dec.add 75 ref6_Host.con
theorem bk_ref6_Host_ok : BookOk Tryz.prog bk_ref6_Host := bk_ref1_Dec_ok.add ref6_Host.ok
namespace ref25_origin
def D : Dom := ⟨[], .str⟩
def A : Dom := ⟨[], .bool⟩
def sel : List Nat := [0]
def t (s : List UInt8) : Tr (Bool) :=
 .br (s == [(42 : UInt8)]) (.ret true)
 (.br (decide ((↑s.length : Int) > (7 : Int))) (.chk ((0 : Int) ≤ (0 : Int) ∧ (0 : Int) ≤ (7 : Int) ∧ (7 : Int) ≤ (↑s.length : Int)) <| .br (List.drop (↑(0 : Nat) : Int).toNat (List.take (Int.toNat (7 : Int)) s) == [(104 : UInt8), (116 : UInt8), (116 : UInt8), (112 : UInt8), (58 : UInt8), (47 : UInt8), (47 : UInt8)]) (.chk ((0 : Int) ≤ (7 : Int) ∧ (7 : Int) ≤ (↑s.length : Int) ∧ (↑s.length : Int) ≤ (↑s.length : Int)) <| .call (ref6_Host.f (List.drop (Int.toNat (7 : Int)) (List.take (↑s.length : Int).toNat s))) fun y1 =>
   .ret y1)
  (.ret false))
  (.ret false))
def f (s : List UInt8) : Option (Bool) := (t s).val
def F (x : D.den) : Option (Bool) := f x.2
def pa : D.den → (Bool) → A.den := fun (_, _) y1 => ((), y1)
def con : Con := tcon D A pa F
theorem ok : ConOk Tryz.prog 42 con := tcon_ok Base.mixed Base.prog_ok bk_ref6_Host_ok (by kernel_rfl) LapsOk.nil 9 (fun _ => rfl) (fun x => t x.2) (fun _ => rfl) fun _ _ _ => (by kernel_rfl)
end ref25_origin
def bk_ref25_origin : Book := bk_ref6_Host.add 42 ref25_origin.con
theorem bk_ref25_origin_ok : BookOk Tryz.prog bk_ref25_origin := bk_ref6_Host_ok.add ref25_origin.ok
namespace ref1_put_r0
def D : Dom := ⟨[], (.cat (.int .i64) (.int .i64))⟩
def A : Dom := ⟨[], .str⟩
def sel : List Nat := []
def f : Option (List UInt8) := none
def F (x : D.den) : Option (List UInt8) := f
def pa : D.den → (List UInt8) → A.den := fun _ y1 => ((), y1)
def con : Con := tcon D A pa F
theorem ok : ConOk Tryz.prog 54 con := fun x h => absurd rfl h
end ref1_put_r0
def bk_ref1_put_r0 : Book := bk_ref25_origin.add 54 ref1_put_r0.con
theorem bk_ref1_put_r0_ok : BookOk Tryz.prog bk_ref1_put_r0 := bk_ref25_origin_ok.add ref1_put_r0.ok
namespace ref1_put_r1
def D : Dom := ⟨[], (.cat (.int .i64) (.int .i64))⟩
def A : Dom := ⟨[], .str⟩
def sel : List Nat := [0, 1]
def t (n : Int) (base : Int) : Tr (List UInt8) :=
 .br (decide (n < base)) (.chk ((0 : Int) ≤ mx2 n (0 : Int) ∧ mx2 n (0 : Int) ≤ IntKind.i64.wrap (mx2 n (0 : Int) + (1 : Int)) ∧ IntKind.i64.wrap (mx2 n (0 : Int) + (1 : Int)) ≤ (16 : Int)) <| .ret (List.drop (mx2 n (0 : Int)).toNat (List.take (IntKind.i64.wrap (mx2 n (0 : Int) + (1 : Int))).toNat [(48 : UInt8), (49 : UInt8), (50 : UInt8), (51 : UInt8), (52 : UInt8), (53 : UInt8), (54 : UInt8), (55 : UInt8), (56 : UInt8), (57 : UInt8), (97 : UInt8), (98 : UInt8), (99 : UInt8), (100 : UInt8), (101 : UInt8), (102 : UInt8)])))
 (.chk (base ≠ (0 : Int)) <| .call (ref1_put_r0.f) fun y1 =>
  .chk (base ≠ (0 : Int)) <| .call (ref1_put_r0.f) fun y2 =>
  .chk ((↑(y1.length + y2.length) : Int) ≤ (9223372036854775807 : Int)) <| .ret (y1 ++ y2))
def f (n : Int) (base : Int) : Option (List UInt8) := (t n base).val
def F (x : D.den) : Option (List UInt8) := f x.2.1 x.2.2
def pa : D.den → (List UInt8) → A.den := fun (_, (_, _)) y1 => ((), y1)
def con : Con := tcon D A pa F
theorem ok : ConOk Tryz.prog 54 con := tcon_ok Base.mixed Base.prog_ok bk_ref1_put_r0_ok (by kernel_rfl) LapsOk.nil 9 (fun _ => rfl) (fun x => t x.2.1 x.2.2) (fun _ => rfl) fun _ _ _ => (by kernel_rfl)
end ref1_put_r1
def bk_ref1_put_r1 : Book := bk_ref1_put_r0.add 54 ref1_put_r1.con
theorem bk_ref1_put_r1_ok : BookOk Tryz.prog bk_ref1_put_r1 := bk_ref1_put_r0_ok.add ref1_put_r1.ok
namespace ref1_put_r2
def D : Dom := ⟨[], (.cat (.int .i64) (.int .i64))⟩
def A : Dom := ⟨[], .str⟩
def sel : List Nat := [0, 1]
def t (n : Int) (base : Int) : Tr (List UInt8) :=
 .br (decide (n < base)) (.chk ((0 : Int) ≤ mx2 n (0 : Int) ∧ mx2 n (0 : Int) ≤ IntKind.i64.wrap (mx2 n (0 : Int) + (1 : Int)) ∧ IntKind.i64.wrap (mx2 n (0 : Int) + (1 : Int)) ≤ (16 : Int)) <| .ret (List.drop (mx2 n (0 : Int)).toNat (List.take (IntKind.i64.wrap (mx2 n (0 : Int) + (1 : Int))).toNat [(48 : UInt8), (49 : UInt8), (50 : UInt8), (51 : UInt8), (52 : UInt8), (53 : UInt8), (54 : UInt8), (55 : UInt8), (56 : UInt8), (57 : UInt8), (97 : UInt8), (98 : UInt8), (99 : UInt8), (100 : UInt8), (101 : UInt8), (102 : UInt8)])))
 (.chk (base ≠ (0 : Int)) <| .call (ref1_put_r1.f (IntKind.i64.wrap (n.tdiv base)) base) fun y1 =>
  .chk (base ≠ (0 : Int)) <| .call (ref1_put_r1.f (n.tmod base) base) fun y2 =>
  .chk ((↑(y1.length + y2.length) : Int) ≤ (9223372036854775807 : Int)) <| .ret (y1 ++ y2))
def f (n : Int) (base : Int) : Option (List UInt8) := (t n base).val
def F (x : D.den) : Option (List UInt8) := f x.2.1 x.2.2
def pa : D.den → (List UInt8) → A.den := fun (_, (_, _)) y1 => ((), y1)
def con : Con := tcon D A pa F
theorem ok : ConOk Tryz.prog 54 con := tcon_ok Base.mixed Base.prog_ok bk_ref1_put_r1_ok (by kernel_rfl) LapsOk.nil 9 (fun _ => rfl) (fun x => t x.2.1 x.2.2) (fun _ => rfl) fun _ _ _ => (by kernel_rfl)
end ref1_put_r2
def bk_ref1_put_r2 : Book := bk_ref1_put_r1.add 54 ref1_put_r2.con
theorem bk_ref1_put_r2_ok : BookOk Tryz.prog bk_ref1_put_r2 := bk_ref1_put_r1_ok.add ref1_put_r2.ok
namespace ref1_put_r3
def D : Dom := ⟨[], (.cat (.int .i64) (.int .i64))⟩
def A : Dom := ⟨[], .str⟩
def sel : List Nat := [0, 1]
def t (n : Int) (base : Int) : Tr (List UInt8) :=
 .br (decide (n < base)) (.chk ((0 : Int) ≤ mx2 n (0 : Int) ∧ mx2 n (0 : Int) ≤ IntKind.i64.wrap (mx2 n (0 : Int) + (1 : Int)) ∧ IntKind.i64.wrap (mx2 n (0 : Int) + (1 : Int)) ≤ (16 : Int)) <| .ret (List.drop (mx2 n (0 : Int)).toNat (List.take (IntKind.i64.wrap (mx2 n (0 : Int) + (1 : Int))).toNat [(48 : UInt8), (49 : UInt8), (50 : UInt8), (51 : UInt8), (52 : UInt8), (53 : UInt8), (54 : UInt8), (55 : UInt8), (56 : UInt8), (57 : UInt8), (97 : UInt8), (98 : UInt8), (99 : UInt8), (100 : UInt8), (101 : UInt8), (102 : UInt8)])))
 (.chk (base ≠ (0 : Int)) <| .call (ref1_put_r2.f (IntKind.i64.wrap (n.tdiv base)) base) fun y1 =>
  .chk (base ≠ (0 : Int)) <| .call (ref1_put_r2.f (n.tmod base) base) fun y2 =>
  .chk ((↑(y1.length + y2.length) : Int) ≤ (9223372036854775807 : Int)) <| .ret (y1 ++ y2))
def f (n : Int) (base : Int) : Option (List UInt8) := (t n base).val
def F (x : D.den) : Option (List UInt8) := f x.2.1 x.2.2
def pa : D.den → (List UInt8) → A.den := fun (_, (_, _)) y1 => ((), y1)
def con : Con := tcon D A pa F
theorem ok : ConOk Tryz.prog 54 con := tcon_ok Base.mixed Base.prog_ok bk_ref1_put_r2_ok (by kernel_rfl) LapsOk.nil 9 (fun _ => rfl) (fun x => t x.2.1 x.2.2) (fun _ => rfl) fun _ _ _ => (by kernel_rfl)
end ref1_put_r3
def bk_ref1_put_r3 : Book := bk_ref1_put_r2.add 54 ref1_put_r3.con
theorem bk_ref1_put_r3_ok : BookOk Tryz.prog bk_ref1_put_r3 := bk_ref1_put_r2_ok.add ref1_put_r3.ok
namespace ref1_put_r4
def D : Dom := ⟨[], (.cat (.int .i64) (.int .i64))⟩
def A : Dom := ⟨[], .str⟩
def sel : List Nat := [0, 1]
def t (n : Int) (base : Int) : Tr (List UInt8) :=
 .br (decide (n < base)) (.chk ((0 : Int) ≤ mx2 n (0 : Int) ∧ mx2 n (0 : Int) ≤ IntKind.i64.wrap (mx2 n (0 : Int) + (1 : Int)) ∧ IntKind.i64.wrap (mx2 n (0 : Int) + (1 : Int)) ≤ (16 : Int)) <| .ret (List.drop (mx2 n (0 : Int)).toNat (List.take (IntKind.i64.wrap (mx2 n (0 : Int) + (1 : Int))).toNat [(48 : UInt8), (49 : UInt8), (50 : UInt8), (51 : UInt8), (52 : UInt8), (53 : UInt8), (54 : UInt8), (55 : UInt8), (56 : UInt8), (57 : UInt8), (97 : UInt8), (98 : UInt8), (99 : UInt8), (100 : UInt8), (101 : UInt8), (102 : UInt8)])))
 (.chk (base ≠ (0 : Int)) <| .call (ref1_put_r3.f (IntKind.i64.wrap (n.tdiv base)) base) fun y1 =>
  .chk (base ≠ (0 : Int)) <| .call (ref1_put_r3.f (n.tmod base) base) fun y2 =>
  .chk ((↑(y1.length + y2.length) : Int) ≤ (9223372036854775807 : Int)) <| .ret (y1 ++ y2))
def f (n : Int) (base : Int) : Option (List UInt8) := (t n base).val
def F (x : D.den) : Option (List UInt8) := f x.2.1 x.2.2
def pa : D.den → (List UInt8) → A.den := fun (_, (_, _)) y1 => ((), y1)
def con : Con := tcon D A pa F
theorem ok : ConOk Tryz.prog 54 con := tcon_ok Base.mixed Base.prog_ok bk_ref1_put_r3_ok (by kernel_rfl) LapsOk.nil 9 (fun _ => rfl) (fun x => t x.2.1 x.2.2) (fun _ => rfl) fun _ _ _ => (by kernel_rfl)
end ref1_put_r4
def bk_ref1_put_r4 : Book := bk_ref1_put_r3.add 54 ref1_put_r4.con
theorem bk_ref1_put_r4_ok : BookOk Tryz.prog bk_ref1_put_r4 := bk_ref1_put_r3_ok.add ref1_put_r4.ok
namespace ref1_put_r5
def D : Dom := ⟨[], (.cat (.int .i64) (.int .i64))⟩
def A : Dom := ⟨[], .str⟩
def sel : List Nat := [0, 1]
def t (n : Int) (base : Int) : Tr (List UInt8) :=
 .br (decide (n < base)) (.chk ((0 : Int) ≤ mx2 n (0 : Int) ∧ mx2 n (0 : Int) ≤ IntKind.i64.wrap (mx2 n (0 : Int) + (1 : Int)) ∧ IntKind.i64.wrap (mx2 n (0 : Int) + (1 : Int)) ≤ (16 : Int)) <| .ret (List.drop (mx2 n (0 : Int)).toNat (List.take (IntKind.i64.wrap (mx2 n (0 : Int) + (1 : Int))).toNat [(48 : UInt8), (49 : UInt8), (50 : UInt8), (51 : UInt8), (52 : UInt8), (53 : UInt8), (54 : UInt8), (55 : UInt8), (56 : UInt8), (57 : UInt8), (97 : UInt8), (98 : UInt8), (99 : UInt8), (100 : UInt8), (101 : UInt8), (102 : UInt8)])))
 (.chk (base ≠ (0 : Int)) <| .call (ref1_put_r4.f (IntKind.i64.wrap (n.tdiv base)) base) fun y1 =>
  .chk (base ≠ (0 : Int)) <| .call (ref1_put_r4.f (n.tmod base) base) fun y2 =>
  .chk ((↑(y1.length + y2.length) : Int) ≤ (9223372036854775807 : Int)) <| .ret (y1 ++ y2))
def f (n : Int) (base : Int) : Option (List UInt8) := (t n base).val
def F (x : D.den) : Option (List UInt8) := f x.2.1 x.2.2
def pa : D.den → (List UInt8) → A.den := fun (_, (_, _)) y1 => ((), y1)
def con : Con := tcon D A pa F
theorem ok : ConOk Tryz.prog 54 con := tcon_ok Base.mixed Base.prog_ok bk_ref1_put_r4_ok (by kernel_rfl) LapsOk.nil 9 (fun _ => rfl) (fun x => t x.2.1 x.2.2) (fun _ => rfl) fun _ _ _ => (by kernel_rfl)
end ref1_put_r5
def bk_ref1_put_r5 : Book := bk_ref1_put_r4.add 54 ref1_put_r5.con
theorem bk_ref1_put_r5_ok : BookOk Tryz.prog bk_ref1_put_r5 := bk_ref1_put_r4_ok.add ref1_put_r5.ok
namespace ref1_put_r6
def D : Dom := ⟨[], (.cat (.int .i64) (.int .i64))⟩
def A : Dom := ⟨[], .str⟩
def sel : List Nat := [0, 1]
def t (n : Int) (base : Int) : Tr (List UInt8) :=
 .br (decide (n < base)) (.chk ((0 : Int) ≤ mx2 n (0 : Int) ∧ mx2 n (0 : Int) ≤ IntKind.i64.wrap (mx2 n (0 : Int) + (1 : Int)) ∧ IntKind.i64.wrap (mx2 n (0 : Int) + (1 : Int)) ≤ (16 : Int)) <| .ret (List.drop (mx2 n (0 : Int)).toNat (List.take (IntKind.i64.wrap (mx2 n (0 : Int) + (1 : Int))).toNat [(48 : UInt8), (49 : UInt8), (50 : UInt8), (51 : UInt8), (52 : UInt8), (53 : UInt8), (54 : UInt8), (55 : UInt8), (56 : UInt8), (57 : UInt8), (97 : UInt8), (98 : UInt8), (99 : UInt8), (100 : UInt8), (101 : UInt8), (102 : UInt8)])))
 (.chk (base ≠ (0 : Int)) <| .call (ref1_put_r5.f (IntKind.i64.wrap (n.tdiv base)) base) fun y1 =>
  .chk (base ≠ (0 : Int)) <| .call (ref1_put_r5.f (n.tmod base) base) fun y2 =>
  .chk ((↑(y1.length + y2.length) : Int) ≤ (9223372036854775807 : Int)) <| .ret (y1 ++ y2))
def f (n : Int) (base : Int) : Option (List UInt8) := (t n base).val
def F (x : D.den) : Option (List UInt8) := f x.2.1 x.2.2
def pa : D.den → (List UInt8) → A.den := fun (_, (_, _)) y1 => ((), y1)
def con : Con := tcon D A pa F
theorem ok : ConOk Tryz.prog 54 con := tcon_ok Base.mixed Base.prog_ok bk_ref1_put_r5_ok (by kernel_rfl) LapsOk.nil 9 (fun _ => rfl) (fun x => t x.2.1 x.2.2) (fun _ => rfl) fun _ _ _ => (by kernel_rfl)
end ref1_put_r6
def bk_ref1_put_r6 : Book := bk_ref1_put_r5.add 54 ref1_put_r6.con
theorem bk_ref1_put_r6_ok : BookOk Tryz.prog bk_ref1_put_r6 := bk_ref1_put_r5_ok.add ref1_put_r6.ok
namespace ref1_put_r7
def D : Dom := ⟨[], (.cat (.int .i64) (.int .i64))⟩
def A : Dom := ⟨[], .str⟩
def sel : List Nat := [0, 1]
def t (n : Int) (base : Int) : Tr (List UInt8) :=
 .br (decide (n < base)) (.chk ((0 : Int) ≤ mx2 n (0 : Int) ∧ mx2 n (0 : Int) ≤ IntKind.i64.wrap (mx2 n (0 : Int) + (1 : Int)) ∧ IntKind.i64.wrap (mx2 n (0 : Int) + (1 : Int)) ≤ (16 : Int)) <| .ret (List.drop (mx2 n (0 : Int)).toNat (List.take (IntKind.i64.wrap (mx2 n (0 : Int) + (1 : Int))).toNat [(48 : UInt8), (49 : UInt8), (50 : UInt8), (51 : UInt8), (52 : UInt8), (53 : UInt8), (54 : UInt8), (55 : UInt8), (56 : UInt8), (57 : UInt8), (97 : UInt8), (98 : UInt8), (99 : UInt8), (100 : UInt8), (101 : UInt8), (102 : UInt8)])))
 (.chk (base ≠ (0 : Int)) <| .call (ref1_put_r6.f (IntKind.i64.wrap (n.tdiv base)) base) fun y1 =>
  .chk (base ≠ (0 : Int)) <| .call (ref1_put_r6.f (n.tmod base) base) fun y2 =>
  .chk ((↑(y1.length + y2.length) : Int) ≤ (9223372036854775807 : Int)) <| .ret (y1 ++ y2))
def f (n : Int) (base : Int) : Option (List UInt8) := (t n base).val
def F (x : D.den) : Option (List UInt8) := f x.2.1 x.2.2
def pa : D.den → (List UInt8) → A.den := fun (_, (_, _)) y1 => ((), y1)
def con : Con := tcon D A pa F
theorem ok : ConOk Tryz.prog 54 con := tcon_ok Base.mixed Base.prog_ok bk_ref1_put_r6_ok (by kernel_rfl) LapsOk.nil 9 (fun _ => rfl) (fun x => t x.2.1 x.2.2) (fun _ => rfl) fun _ _ _ => (by kernel_rfl)
end ref1_put_r7
def bk_ref1_put_r7 : Book := bk_ref1_put_r6.add 54 ref1_put_r7.con
theorem bk_ref1_put_r7_ok : BookOk Tryz.prog bk_ref1_put_r7 := bk_ref1_put_r6_ok.add ref1_put_r7.ok
namespace ref1_put_r8
def D : Dom := ⟨[], (.cat (.int .i64) (.int .i64))⟩
def A : Dom := ⟨[], .str⟩
def sel : List Nat := [0, 1]
def t (n : Int) (base : Int) : Tr (List UInt8) :=
 .br (decide (n < base)) (.chk ((0 : Int) ≤ mx2 n (0 : Int) ∧ mx2 n (0 : Int) ≤ IntKind.i64.wrap (mx2 n (0 : Int) + (1 : Int)) ∧ IntKind.i64.wrap (mx2 n (0 : Int) + (1 : Int)) ≤ (16 : Int)) <| .ret (List.drop (mx2 n (0 : Int)).toNat (List.take (IntKind.i64.wrap (mx2 n (0 : Int) + (1 : Int))).toNat [(48 : UInt8), (49 : UInt8), (50 : UInt8), (51 : UInt8), (52 : UInt8), (53 : UInt8), (54 : UInt8), (55 : UInt8), (56 : UInt8), (57 : UInt8), (97 : UInt8), (98 : UInt8), (99 : UInt8), (100 : UInt8), (101 : UInt8), (102 : UInt8)])))
 (.chk (base ≠ (0 : Int)) <| .call (ref1_put_r7.f (IntKind.i64.wrap (n.tdiv base)) base) fun y1 =>
  .chk (base ≠ (0 : Int)) <| .call (ref1_put_r7.f (n.tmod base) base) fun y2 =>
  .chk ((↑(y1.length + y2.length) : Int) ≤ (9223372036854775807 : Int)) <| .ret (y1 ++ y2))
def f (n : Int) (base : Int) : Option (List UInt8) := (t n base).val
def F (x : D.den) : Option (List UInt8) := f x.2.1 x.2.2
def pa : D.den → (List UInt8) → A.den := fun (_, (_, _)) y1 => ((), y1)
def con : Con := tcon D A pa F
theorem ok : ConOk Tryz.prog 54 con := tcon_ok Base.mixed Base.prog_ok bk_ref1_put_r7_ok (by kernel_rfl) LapsOk.nil 9 (fun _ => rfl) (fun x => t x.2.1 x.2.2) (fun _ => rfl) fun _ _ _ => (by kernel_rfl)
end ref1_put_r8
def bk_ref1_put_r8 : Book := bk_ref1_put_r7.add 54 ref1_put_r8.con
theorem bk_ref1_put_r8_ok : BookOk Tryz.prog bk_ref1_put_r8 := bk_ref1_put_r7_ok.add ref1_put_r8.ok
namespace ref1_Put
def D : Dom := ⟨[], (.int .i64)⟩
def A : Dom := ⟨[], .str⟩
def sel : List Nat := [0]
def t (n : Int) : Tr (List UInt8) :=
 .call (ref1_put_r8.f n (10 : Int)) fun y1 =>
 .ret y1
def f (n : Int) : Option (List UInt8) := (t n).val
def F (x : D.den) : Option (List UInt8) := f x.2
def pa : D.den → (List UInt8) → A.den := fun (_, _) y1 => ((), y1)
def con : Con := tcon D A pa F
theorem ok : ConOk Tryz.prog 25 con := tcon_ok Base.mixed Base.prog_ok bk_ref1_put_r8_ok (by kernel_rfl) LapsOk.nil 9 (fun _ => rfl) (fun x => t x.2) (fun _ => rfl) fun _ _ _ => (by kernel_rfl)
end ref1_Put
def bk_ref1_Put : Book := bk_ref1_put_r8.add 25 ref1_Put.con
theorem bk_ref1_Put_ok : BookOk Tryz.prog bk_ref1_Put := bk_ref1_put_r8_ok.add ref1_Put.ok
namespace ref22_small
def D : Dom := ⟨[], (.cat .str (.int .i64))⟩
def A : Dom := ⟨[], (.tup (.cat (.int .i64) .bool))⟩
def sel : List Nat := [0, 1]
def t (s : List UInt8) (most : Int) : Tr (Int × Bool) :=
 .call (ref1_Dec.f s most) fun (y1a, y1b) =>
 .br (y1b == (0 : Int)) (.call (ref1_Put.f y1a) fun y2 =>
  .ret (y1a, y2 == s))
 (.ret (y1a, false))
def f (s : List UInt8) (most : Int) : Option (Int × Bool) := (t s most).val
def F (x : D.den) : Option (Int × Bool) := f x.2.1 x.2.2
def pa : D.den → (Int × Bool) → A.den := fun (_, (_, _)) (y1, y2) => ((), (y1, y2))
def con : Con := tcon D A pa F
theorem ok : ConOk Tryz.prog 77 con := tcon_ok Base.mixed Base.prog_ok bk_ref1_Put_ok (by kernel_rfl) LapsOk.nil 9 (fun _ => rfl) (fun x => t x.2.1 x.2.2) (fun _ => rfl) fun _ _ _ => (by kernel_rfl)
end ref22_small
def bk_ref22_small : Book := bk_ref1_Put.add 77 ref22_small.con
theorem bk_ref22_small_ok : BookOk Tryz.prog bk_ref22_small := bk_ref1_Put_ok.add ref22_small.ok
namespace ref22_IP
def D : Dom := ⟨[], .str⟩
namespace L4
def D : Dom := ⟨[.vec .str 9 false], (.cat (.sl 0 1) (.cat (.int .u32) (.int .i64)))⟩
def A : Dom := ⟨[], (.int .u32)⟩
def B : Dom := ⟨[], (.cat (.int .u32) .bool)⟩
def sel : List Nat := [0, 1, 2]
def t (l : List (List UInt8)) (ip : Int) (i : Int) : Tr ((Int × Int) ⊕ ((Int) ⊕ (Int × Bool))) :=
 .br (decide (i < (↑l.length : Int))) (.chk ((0 : Int) ≤ i ∧ i < (↑l.length : Int)) <| .chk ((0 : Nat) + i.toNat < l.length) <| .call (ref22_small.f (l.getD ((0 : Nat) + i.toNat) []) (255 : Int)) fun (y1a, y1b) =>
  .br (!y1b) (.ret (.inr (.inr ((0 : Int), false))))
  (.br ((↑l.length : Int) != (4 : Int)) (.ret (.inr (.inr ((0 : Int), false))))
  (.okl l.length <| .ret (.inl (IntKind.u32.wrap (↑(BitVec.ofInt IntKind.u32.bits (IntKind.u32.wrap (ip * (2 : Int) ^ (8 : Nat))) ||| BitVec.ofInt IntKind.u32.bits (IntKind.u32.wrap y1a)).toNat : Int), IntKind.i64.wrap (i + (1 : Int)))))))
 (.ret (.inr (.inl ip)))
def f (l : List (List UInt8)) (ip : Int) (i : Int) : Option ((Int) ⊕ (Int × Bool)) := Loop (fun z : Int × Int => t l z.1 z.2) (ip, i)
def F (x : D.den) : Option ((Int) ⊕ (Int × Bool)) := f x.1.1 x.2.2.1 x.2.2.2
def pa : D.den → (Int) → A.den := fun ((_, _), (_, (_, _))) y1 => ((), y1)
def pb : D.den → (Int × Bool) → B.den := fun ((_, _), (_, (_, _))) (y1, y2) => ((), (y1, y2))
def lap : Lap := tlap2 4 38 [4, 5, 6] D (.exit 0) [5] A .ret [2, 3] B pa pb F
def pk (x : D.den) (z : Int × Int) : D.den := ((x.1.1, ()), ((), (z.1, z.2)))
def un (x : D.den) : Int × Int := (x.2.2.1, x.2.2.2)
def body (x : D.den) (z : Int × Int) : Tr ((Int × Int) ⊕ ((Int) ⊕ (Int × Bool))) := t x.1.1 z.1 z.2
theorem ok : LapOk Tryz.prog 0 (codeOf Tryz.prog 76) lap := tlap2_ok Base.mixed Base.prog_ok bk_ref22_small_ok (by kernel_rfl) (by kernel_rfl) LapsOk.nil 9 pk un body (fun _ _ => rfl) (fun _ _ => rfl) (fun _ _ => rfl) (fun _ _ => rfl) (fun _ => rfl) fun _ _ _ _ => (by kernel_rfl)
end L4
def A : Dom := ⟨[], (.tup (.cat (.int .u32) .bool))⟩
def sel : List Nat := [0]
def t (s : List UInt8) : Tr (Int × Bool) :=
 .call (ref1_Split.f s (46 : Int)) fun y1 =>
 .okl y1.length <| .both (ref22_IP.L4.f y1 (0 : Int) (0 : Int)) (fun y2 => .ret (y2, true))
 (fun (y3a, y3b) => .ret (y3a, y3b))
def f (s : List UInt8) : Option (Int × Bool) := (t s).val
def F (x : D.den) : Option (Int × Bool) := f x.2
def pa : D.den → (Int × Bool) → A.den := fun (_, _) (y1, y2) => ((), (y1, y2))
def con : Con := tcon D A pa F
theorem ok : ConOk Tryz.prog 76 con := tcon_ok Base.mixed Base.prog_ok bk_ref22_small_ok (by kernel_rfl) (.cons L4.ok (by kernel_rfl) (.nil)) 9 (fun _ => rfl) (fun x => t x.2) (fun _ => rfl) fun _ _ _ => (by kernel_rfl)
end ref22_IP
def bk_ref22_IP : Book := bk_ref22_small.add 76 ref22_IP.con
theorem bk_ref22_IP_ok : BookOk Tryz.prog bk_ref22_IP := bk_ref22_small_ok.add ref22_IP.ok
namespace ref22_mask
def D : Dom := ⟨[], (.int .i64)⟩
def A : Dom := ⟨[], (.int .u32)⟩
def sel : List Nat := [0]
def t (n : Int) : Tr (Int) :=
 .br (n == (0 : Int)) (.ret (0 : Int))
 (.chk (¬IntKind.i64.wrap ((32 : Int) - n) < (0 : Int)) <| .ret (IntKind.u32.wrap ((4294967295 : Int) * (2 : Int) ^ min (IntKind.i64.wrap ((32 : Int) - n)).toNat IntKind.u32.bits)))
def f (n : Int) : Option (Int) := (t n).val
def F (x : D.den) : Option (Int) := f x.2
def pa : D.den → (Int) → A.den := fun (_, _) y1 => ((), y1)
def con : Con := tcon D A pa F
theorem ok : ConOk Tryz.prog 78 con := tcon_ok Base.mixed Base.prog_ok bk_ref22_IP_ok (by kernel_rfl) LapsOk.nil 9 (fun _ => rfl) (fun x => t x.2) (fun _ => rfl) fun _ _ _ => (by kernel_rfl)
end ref22_mask
def bk_ref22_mask : Book := bk_ref22_IP.add 78 ref22_mask.con
theorem bk_ref22_mask_ok : BookOk Tryz.prog bk_ref22_mask := bk_ref22_IP_ok.add ref22_mask.ok
namespace ref22_Net
def D : Dom := ⟨[], .str⟩
def A : Dom := ⟨[], (.tup (.cat (.int .u32) (.cat (.int .i64) .bool)))⟩
def sel : List Nat := [0]
def t (s : List UInt8) : Tr (Int × Int × Bool) :=
 .call (ref1_Split.f s (47 : Int)) fun y1 =>
 .br ((↑y1.length : Int) != (2 : Int)) (.ret ((0 : Int), (0 : Int), false))
 (.chk ((0 : Int) ≤ (0 : Int) ∧ (0 : Int) < (↑y1.length : Int)) <| .chk ((0 : Nat) < y1.length) <| .call (ref22_IP.f (y1.getD (0 : Nat) [])) fun (y2a, y2b) =>
  .chk ((0 : Int) ≤ (1 : Int) ∧ (1 : Int) < (↑y1.length : Int)) <| .chk ((1 : Nat) < y1.length) <| .call (ref22_small.f (y1.getD (1 : Nat) []) (32 : Int)) fun (y3a, y3b) =>
  .br (!y2b) (.ret ((0 : Int), (0 : Int), false))
  (.br (!y3b) (.ret ((0 : Int), (0 : Int), false))
  (.call (ref22_mask.f y3a) fun y4 =>
   .br (IntKind.u32.wrap (↑(BitVec.ofInt IntKind.u32.bits y2a &&& ~~~BitVec.ofInt IntKind.u32.bits y4).toNat : Int) != (0 : Int)) (.ret ((0 : Int), (0 : Int), false))
   (.ret (y2a, y3a, true)))))
def f (s : List UInt8) : Option (Int × Int × Bool) := (t s).val
def F (x : D.den) : Option (Int × Int × Bool) := f x.2
def pa : D.den → (Int × Int × Bool) → A.den := fun (_, _) (y1, y2, y3) => ((), (y1, (y2, y3)))
def con : Con := tcon D A pa F
theorem ok : ConOk Tryz.prog 43 con := tcon_ok Base.mixed Base.prog_ok bk_ref22_mask_ok (by kernel_rfl) LapsOk.nil 9 (fun _ => rfl) (fun x => t x.2) (fun _ => rfl) fun _ _ _ => (by kernel_rfl)
end ref22_Net
def bk_ref22_Net : Book := bk_ref22_mask.add 43 ref22_Net.con
theorem bk_ref22_Net_ok : BookOk Tryz.prog bk_ref22_Net := bk_ref22_mask_ok.add ref22_Net.ok
namespace ref25_Right
def D : Dom := rule_alone.D
def A : Dom := ⟨[], .bool⟩
def sel : List Nat := [0, 1, 2, 3, 4]
def t (Kind : Int) (Name : List UInt8) (Value : List UInt8) (N : Int) (M : Int) : Tr (Bool) :=
 .call (ref25_uses.f Kind) fun (y1a, y1b, y1c, y1d) =>
 .br (!y1a) (.br (!Name == []) (.ret false)
  (.br (!y1b) (.br (N != (0 : Int)) (.ret false)
   (.br (!y1c) (.br (M != (0 : Int)) (.ret false)
    (.br (!y1d) (.br (!Value == []) (.ret false)
     (.br (decide ((↑Name.length : Int) > (256 : Int))) (.ret false)
     (.br (decide ((↑Value.length : Int) > (256 : Int))) (.ret false)
      (.br (Kind == (1 : Int)) (.call (ref25_free.f Name) fun y2 =>
       .br y2 (.call (ref9_Right.f Name Value) fun y3 =>
       .ret y3)
       (.ret false))
      (.br (Kind == (3 : Int)) (.call (ref25_free.f Name) fun y4 =>
       .br y4 (.call (ref9_Right.f Name Value) fun y5 =>
        .ret y5)
       (.ret false))
       (.br (Kind == (2 : Int)) (.call (ref25_free.f Name) fun y6 =>
        .ret y6)
       (.br (Kind == (4 : Int)) (.br (decide ((↑Name.length : Int) ≤ (64 : Int))) (.br (decide ((↑Value.length : Int) ≤ (64 : Int))) (.call (ref6_Path.f Name) fun y7 =>
         .br y7 (.call (ref6_Path.f Value) fun y8 =>
          .ret y8)
         (.ret false))
         (.ret false))
        (.ret false))
        (.br (Kind == (5 : Int)) (.call (ref25_realm.f Name) fun y9 =>
         .br y9 (.call (ref1_All.f [(2 : Int)] Value) fun y10 =>
         .br y10 (.call (ref1_Split.f Value (58 : Int)) fun y11 =>
          .ret (decide ((↑y11.length : Int) > (1 : Int))))
         (.ret false))
         (.ret false))
        (.br (Kind == (6 : Int)) (.call (ref25_origin.f Value) fun y12 =>
         .ret y12)
         (.br (Kind == (7 : Int)) (.call (ref22_Net.f Value) fun (_, _, y13c) =>
          .ret y13c)
         (.br (Kind == (8 : Int)) (.call (ref22_Net.f Value) fun (_, _, y14c) =>
          .ret y14c)
          (.br (Kind == (9 : Int)) (.br (decide (N ≥ (0 : Int))) (.br (decide (N ≤ (1000 : Int))) (.br (decide (M ≥ (1 : Int))) (.ret (decide (M ≤ (1000 : Int))))
            (.ret false))
           (.ret false))
           (.ret false))
          (.br (Kind == (10 : Int)) (.br (decide (N ≥ (0 : Int))) (.ret (decide (N ≤ (1048576 : Int))))
           (.ret false))
           (.br (Kind == (11 : Int)) (.br (N == (301 : Int)) (.call (ref6_Path.f Value) fun y15 =>
            .ret y15)
            (.br (N == (302 : Int)) (.call (ref6_Path.f Value) fun y16 =>
             .ret y16)
            (.br (N == (307 : Int)) (.call (ref6_Path.f Value) fun y17 =>
             .ret y17)
             (.br (N == (308 : Int)) (.call (ref6_Path.f Value) fun y18 =>
              .ret y18)
             (.ret false)))))
           (.br (Kind == (12 : Int)) (.br (decide (N ≥ (200 : Int))) (.br (decide (N ≤ (599 : Int))) (.call (ref1_All.f [(6 : Int)] Value) fun y19 =>
             .ret y19)
             (.ret false))
            (.ret false))
            (.ret false))))))))))))))))
    (.br (decide ((↑Name.length : Int) > (256 : Int))) (.ret false)
     (.br (decide ((↑Value.length : Int) > (256 : Int))) (.ret false)
     (.br (Kind == (1 : Int)) (.call (ref25_free.f Name) fun y20 =>
      .br y20 (.call (ref9_Right.f Name Value) fun y21 =>
       .ret y21)
      (.ret false))
      (.br (Kind == (3 : Int)) (.call (ref25_free.f Name) fun y22 =>
       .br y22 (.call (ref9_Right.f Name Value) fun y23 =>
       .ret y23)
       (.ret false))
      (.br (Kind == (2 : Int)) (.call (ref25_free.f Name) fun y24 =>
       .ret y24)
       (.br (Kind == (4 : Int)) (.br (decide ((↑Name.length : Int) ≤ (64 : Int))) (.br (decide ((↑Value.length : Int) ≤ (64 : Int))) (.call (ref6_Path.f Name) fun y25 =>
         .br y25 (.call (ref6_Path.f Value) fun y26 =>
         .ret y26)
         (.ret false))
        (.ret false))
        (.ret false))
       (.br (Kind == (5 : Int)) (.call (ref25_realm.f Name) fun y27 =>
        .br y27 (.call (ref1_All.f [(2 : Int)] Value) fun y28 =>
         .br y28 (.call (ref1_Split.f Value (58 : Int)) fun y29 =>
         .ret (decide ((↑y29.length : Int) > (1 : Int))))
         (.ret false))
        (.ret false))
        (.br (Kind == (6 : Int)) (.call (ref25_origin.f Value) fun y30 =>
         .ret y30)
        (.br (Kind == (7 : Int)) (.call (ref22_Net.f Value) fun (_, _, y31c) =>
         .ret y31c)
         (.br (Kind == (8 : Int)) (.call (ref22_Net.f Value) fun (_, _, y32c) =>
          .ret y32c)
         (.br (Kind == (9 : Int)) (.br (decide (N ≥ (0 : Int))) (.br (decide (N ≤ (1000 : Int))) (.br (decide (M ≥ (1 : Int))) (.ret (decide (M ≤ (1000 : Int))))
           (.ret false))
           (.ret false))
          (.ret false))
          (.br (Kind == (10 : Int)) (.br (decide (N ≥ (0 : Int))) (.ret (decide (N ≤ (1048576 : Int))))
           (.ret false))
          (.br (Kind == (11 : Int)) (.br (N == (301 : Int)) (.call (ref6_Path.f Value) fun y33 =>
            .ret y33)
           (.br (N == (302 : Int)) (.call (ref6_Path.f Value) fun y34 =>
            .ret y34)
            (.br (N == (307 : Int)) (.call (ref6_Path.f Value) fun y35 =>
             .ret y35)
            (.br (N == (308 : Int)) (.call (ref6_Path.f Value) fun y36 =>
             .ret y36)
             (.ret false)))))
           (.br (Kind == (12 : Int)) (.br (decide (N ≥ (200 : Int))) (.br (decide (N ≤ (599 : Int))) (.call (ref1_All.f [(6 : Int)] Value) fun y37 =>
             .ret y37)
            (.ret false))
            (.ret false))
           (.ret false)))))))))))))))))
   (.br (!y1d) (.br (!Value == []) (.ret false)
    (.br (decide ((↑Name.length : Int) > (256 : Int))) (.ret false)
     (.br (decide ((↑Value.length : Int) > (256 : Int))) (.ret false)
     (.br (Kind == (1 : Int)) (.call (ref25_free.f Name) fun y38 =>
      .br y38 (.call (ref9_Right.f Name Value) fun y39 =>
       .ret y39)
      (.ret false))
      (.br (Kind == (3 : Int)) (.call (ref25_free.f Name) fun y40 =>
       .br y40 (.call (ref9_Right.f Name Value) fun y41 =>
       .ret y41)
       (.ret false))
      (.br (Kind == (2 : Int)) (.call (ref25_free.f Name) fun y42 =>
       .ret y42)
       (.br (Kind == (4 : Int)) (.br (decide ((↑Name.length : Int) ≤ (64 : Int))) (.br (decide ((↑Value.length : Int) ≤ (64 : Int))) (.call (ref6_Path.f Name) fun y43 =>
         .br y43 (.call (ref6_Path.f Value) fun y44 =>
         .ret y44)
         (.ret false))
        (.ret false))
        (.ret false))
       (.br (Kind == (5 : Int)) (.call (ref25_realm.f Name) fun y45 =>
        .br y45 (.call (ref1_All.f [(2 : Int)] Value) fun y46 =>
         .br y46 (.call (ref1_Split.f Value (58 : Int)) fun y47 =>
         .ret (decide ((↑y47.length : Int) > (1 : Int))))
         (.ret false))
        (.ret false))
        (.br (Kind == (6 : Int)) (.call (ref25_origin.f Value) fun y48 =>
         .ret y48)
        (.br (Kind == (7 : Int)) (.call (ref22_Net.f Value) fun (_, _, y49c) =>
         .ret y49c)
         (.br (Kind == (8 : Int)) (.call (ref22_Net.f Value) fun (_, _, y50c) =>
          .ret y50c)
         (.br (Kind == (9 : Int)) (.br (decide (N ≥ (0 : Int))) (.br (decide (N ≤ (1000 : Int))) (.br (decide (M ≥ (1 : Int))) (.ret (decide (M ≤ (1000 : Int))))
           (.ret false))
           (.ret false))
          (.ret false))
          (.br (Kind == (10 : Int)) (.br (decide (N ≥ (0 : Int))) (.ret (decide (N ≤ (1048576 : Int))))
           (.ret false))
          (.br (Kind == (11 : Int)) (.br (N == (301 : Int)) (.call (ref6_Path.f Value) fun y51 =>
            .ret y51)
           (.br (N == (302 : Int)) (.call (ref6_Path.f Value) fun y52 =>
            .ret y52)
            (.br (N == (307 : Int)) (.call (ref6_Path.f Value) fun y53 =>
             .ret y53)
            (.br (N == (308 : Int)) (.call (ref6_Path.f Value) fun y54 =>
             .ret y54)
             (.ret false)))))
           (.br (Kind == (12 : Int)) (.br (decide (N ≥ (200 : Int))) (.br (decide (N ≤ (599 : Int))) (.call (ref1_All.f [(6 : Int)] Value) fun y55 =>
             .ret y55)
            (.ret false))
            (.ret false))
           (.ret false))))))))))))))))
    (.br (decide ((↑Name.length : Int) > (256 : Int))) (.ret false)
    (.br (decide ((↑Value.length : Int) > (256 : Int))) (.ret false)
     (.br (Kind == (1 : Int)) (.call (ref25_free.f Name) fun y56 =>
      .br y56 (.call (ref9_Right.f Name Value) fun y57 =>
      .ret y57)
      (.ret false))
     (.br (Kind == (3 : Int)) (.call (ref25_free.f Name) fun y58 =>
      .br y58 (.call (ref9_Right.f Name Value) fun y59 =>
       .ret y59)
      (.ret false))
      (.br (Kind == (2 : Int)) (.call (ref25_free.f Name) fun y60 =>
       .ret y60)
      (.br (Kind == (4 : Int)) (.br (decide ((↑Name.length : Int) ≤ (64 : Int))) (.br (decide ((↑Value.length : Int) ≤ (64 : Int))) (.call (ref6_Path.f Name) fun y61 =>
        .br y61 (.call (ref6_Path.f Value) fun y62 =>
         .ret y62)
        (.ret false))
        (.ret false))
       (.ret false))
       (.br (Kind == (5 : Int)) (.call (ref25_realm.f Name) fun y63 =>
        .br y63 (.call (ref1_All.f [(2 : Int)] Value) fun y64 =>
        .br y64 (.call (ref1_Split.f Value (58 : Int)) fun y65 =>
         .ret (decide ((↑y65.length : Int) > (1 : Int))))
        (.ret false))
        (.ret false))
       (.br (Kind == (6 : Int)) (.call (ref25_origin.f Value) fun y66 =>
        .ret y66)
        (.br (Kind == (7 : Int)) (.call (ref22_Net.f Value) fun (_, _, y67c) =>
         .ret y67c)
        (.br (Kind == (8 : Int)) (.call (ref22_Net.f Value) fun (_, _, y68c) =>
         .ret y68c)
         (.br (Kind == (9 : Int)) (.br (decide (N ≥ (0 : Int))) (.br (decide (N ≤ (1000 : Int))) (.br (decide (M ≥ (1 : Int))) (.ret (decide (M ≤ (1000 : Int))))
           (.ret false))
          (.ret false))
          (.ret false))
         (.br (Kind == (10 : Int)) (.br (decide (N ≥ (0 : Int))) (.ret (decide (N ≤ (1048576 : Int))))
          (.ret false))
          (.br (Kind == (11 : Int)) (.br (N == (301 : Int)) (.call (ref6_Path.f Value) fun y69 =>
           .ret y69)
           (.br (N == (302 : Int)) (.call (ref6_Path.f Value) fun y70 =>
            .ret y70)
           (.br (N == (307 : Int)) (.call (ref6_Path.f Value) fun y71 =>
            .ret y71)
            (.br (N == (308 : Int)) (.call (ref6_Path.f Value) fun y72 =>
             .ret y72)
            (.ret false)))))
          (.br (Kind == (12 : Int)) (.br (decide (N ≥ (200 : Int))) (.br (decide (N ≤ (599 : Int))) (.call (ref1_All.f [(6 : Int)] Value) fun y73 =>
            .ret y73)
            (.ret false))
           (.ret false))
           (.ret false))))))))))))))))))
  (.br (!y1c) (.br (M != (0 : Int)) (.ret false)
   (.br (!y1d) (.br (!Value == []) (.ret false)
    (.br (decide ((↑Name.length : Int) > (256 : Int))) (.ret false)
     (.br (decide ((↑Value.length : Int) > (256 : Int))) (.ret false)
     (.br (Kind == (1 : Int)) (.call (ref25_free.f Name) fun y74 =>
      .br y74 (.call (ref9_Right.f Name Value) fun y75 =>
       .ret y75)
      (.ret false))
      (.br (Kind == (3 : Int)) (.call (ref25_free.f Name) fun y76 =>
       .br y76 (.call (ref9_Right.f Name Value) fun y77 =>
       .ret y77)
       (.ret false))
      (.br (Kind == (2 : Int)) (.call (ref25_free.f Name) fun y78 =>
       .ret y78)
       (.br (Kind == (4 : Int)) (.br (decide ((↑Name.length : Int) ≤ (64 : Int))) (.br (decide ((↑Value.length : Int) ≤ (64 : Int))) (.call (ref6_Path.f Name) fun y79 =>
         .br y79 (.call (ref6_Path.f Value) fun y80 =>
         .ret y80)
         (.ret false))
        (.ret false))
        (.ret false))
       (.br (Kind == (5 : Int)) (.call (ref25_realm.f Name) fun y81 =>
        .br y81 (.call (ref1_All.f [(2 : Int)] Value) fun y82 =>
         .br y82 (.call (ref1_Split.f Value (58 : Int)) fun y83 =>
         .ret (decide ((↑y83.length : Int) > (1 : Int))))
         (.ret false))
        (.ret false))
        (.br (Kind == (6 : Int)) (.call (ref25_origin.f Value) fun y84 =>
         .ret y84)
        (.br (Kind == (7 : Int)) (.call (ref22_Net.f Value) fun (_, _, y85c) =>
         .ret y85c)
         (.br (Kind == (8 : Int)) (.call (ref22_Net.f Value) fun (_, _, y86c) =>
          .ret y86c)
         (.br (Kind == (9 : Int)) (.br (decide (N ≥ (0 : Int))) (.br (decide (N ≤ (1000 : Int))) (.br (decide (M ≥ (1 : Int))) (.ret (decide (M ≤ (1000 : Int))))
           (.ret false))
           (.ret false))
          (.ret false))
          (.br (Kind == (10 : Int)) (.br (decide (N ≥ (0 : Int))) (.ret (decide (N ≤ (1048576 : Int))))
           (.ret false))
          (.br (Kind == (11 : Int)) (.br (N == (301 : Int)) (.call (ref6_Path.f Value) fun y87 =>
            .ret y87)
           (.br (N == (302 : Int)) (.call (ref6_Path.f Value) fun y88 =>
            .ret y88)
            (.br (N == (307 : Int)) (.call (ref6_Path.f Value) fun y89 =>
             .ret y89)
            (.br (N == (308 : Int)) (.call (ref6_Path.f Value) fun y90 =>
             .ret y90)
             (.ret false)))))
           (.br (Kind == (12 : Int)) (.br (decide (N ≥ (200 : Int))) (.br (decide (N ≤ (599 : Int))) (.call (ref1_All.f [(6 : Int)] Value) fun y91 =>
             .ret y91)
            (.ret false))
            (.ret false))
           (.ret false))))))))))))))))
    (.br (decide ((↑Name.length : Int) > (256 : Int))) (.ret false)
    (.br (decide ((↑Value.length : Int) > (256 : Int))) (.ret false)
     (.br (Kind == (1 : Int)) (.call (ref25_free.f Name) fun y92 =>
      .br y92 (.call (ref9_Right.f Name Value) fun y93 =>
      .ret y93)
      (.ret false))
     (.br (Kind == (3 : Int)) (.call (ref25_free.f Name) fun y94 =>
      .br y94 (.call (ref9_Right.f Name Value) fun y95 =>
       .ret y95)
      (.ret false))
      (.br (Kind == (2 : Int)) (.call (ref25_free.f Name) fun y96 =>
       .ret y96)
      (.br (Kind == (4 : Int)) (.br (decide ((↑Name.length : Int) ≤ (64 : Int))) (.br (decide ((↑Value.length : Int) ≤ (64 : Int))) (.call (ref6_Path.f Name) fun y97 =>
        .br y97 (.call (ref6_Path.f Value) fun y98 =>
         .ret y98)
        (.ret false))
        (.ret false))
       (.ret false))
       (.br (Kind == (5 : Int)) (.call (ref25_realm.f Name) fun y99 =>
        .br y99 (.call (ref1_All.f [(2 : Int)] Value) fun y100 =>
        .br y100 (.call (ref1_Split.f Value (58 : Int)) fun y101 =>
         .ret (decide ((↑y101.length : Int) > (1 : Int))))
        (.ret false))
        (.ret false))
       (.br (Kind == (6 : Int)) (.call (ref25_origin.f Value) fun y102 =>
        .ret y102)
        (.br (Kind == (7 : Int)) (.call (ref22_Net.f Value) fun (_, _, y103c) =>
         .ret y103c)
        (.br (Kind == (8 : Int)) (.call (ref22_Net.f Value) fun (_, _, y104c) =>
         .ret y104c)
         (.br (Kind == (9 : Int)) (.br (decide (N ≥ (0 : Int))) (.br (decide (N ≤ (1000 : Int))) (.br (decide (M ≥ (1 : Int))) (.ret (decide (M ≤ (1000 : Int))))
           (.ret false))
          (.ret false))
          (.ret false))
         (.br (Kind == (10 : Int)) (.br (decide (N ≥ (0 : Int))) (.ret (decide (N ≤ (1048576 : Int))))
          (.ret false))
          (.br (Kind == (11 : Int)) (.br (N == (301 : Int)) (.call (ref6_Path.f Value) fun y105 =>
           .ret y105)
           (.br (N == (302 : Int)) (.call (ref6_Path.f Value) fun y106 =>
            .ret y106)
           (.br (N == (307 : Int)) (.call (ref6_Path.f Value) fun y107 =>
            .ret y107)
            (.br (N == (308 : Int)) (.call (ref6_Path.f Value) fun y108 =>
             .ret y108)
            (.ret false)))))
          (.br (Kind == (12 : Int)) (.br (decide (N ≥ (200 : Int))) (.br (decide (N ≤ (599 : Int))) (.call (ref1_All.f [(6 : Int)] Value) fun y109 =>
            .ret y109)
            (.ret false))
           (.ret false))
           (.ret false)))))))))))))))))
   (.br (!y1d) (.br (!Value == []) (.ret false)
    (.br (decide ((↑Name.length : Int) > (256 : Int))) (.ret false)
    (.br (decide ((↑Value.length : Int) > (256 : Int))) (.ret false)
     (.br (Kind == (1 : Int)) (.call (ref25_free.f Name) fun y110 =>
      .br y110 (.call (ref9_Right.f Name Value) fun y111 =>
      .ret y111)
      (.ret false))
     (.br (Kind == (3 : Int)) (.call (ref25_free.f Name) fun y112 =>
      .br y112 (.call (ref9_Right.f Name Value) fun y113 =>
       .ret y113)
      (.ret false))
      (.br (Kind == (2 : Int)) (.call (ref25_free.f Name) fun y114 =>
       .ret y114)
      (.br (Kind == (4 : Int)) (.br (decide ((↑Name.length : Int) ≤ (64 : Int))) (.br (decide ((↑Value.length : Int) ≤ (64 : Int))) (.call (ref6_Path.f Name) fun y115 =>
        .br y115 (.call (ref6_Path.f Value) fun y116 =>
         .ret y116)
        (.ret false))
        (.ret false))
       (.ret false))
       (.br (Kind == (5 : Int)) (.call (ref25_realm.f Name) fun y117 =>
        .br y117 (.call (ref1_All.f [(2 : Int)] Value) fun y118 =>
        .br y118 (.call (ref1_Split.f Value (58 : Int)) fun y119 =>
         .ret (decide ((↑y119.length : Int) > (1 : Int))))
        (.ret false))
        (.ret false))
       (.br (Kind == (6 : Int)) (.call (ref25_origin.f Value) fun y120 =>
        .ret y120)
        (.br (Kind == (7 : Int)) (.call (ref22_Net.f Value) fun (_, _, y121c) =>
         .ret y121c)
        (.br (Kind == (8 : Int)) (.call (ref22_Net.f Value) fun (_, _, y122c) =>
         .ret y122c)
         (.br (Kind == (9 : Int)) (.br (decide (N ≥ (0 : Int))) (.br (decide (N ≤ (1000 : Int))) (.br (decide (M ≥ (1 : Int))) (.ret (decide (M ≤ (1000 : Int))))
           (.ret false))
          (.ret false))
          (.ret false))
         (.br (Kind == (10 : Int)) (.br (decide (N ≥ (0 : Int))) (.ret (decide (N ≤ (1048576 : Int))))
          (.ret false))
          (.br (Kind == (11 : Int)) (.br (N == (301 : Int)) (.call (ref6_Path.f Value) fun y123 =>
           .ret y123)
           (.br (N == (302 : Int)) (.call (ref6_Path.f Value) fun y124 =>
            .ret y124)
           (.br (N == (307 : Int)) (.call (ref6_Path.f Value) fun y125 =>
            .ret y125)
            (.br (N == (308 : Int)) (.call (ref6_Path.f Value) fun y126 =>
             .ret y126)
            (.ret false)))))
          (.br (Kind == (12 : Int)) (.br (decide (N ≥ (200 : Int))) (.br (decide (N ≤ (599 : Int))) (.call (ref1_All.f [(6 : Int)] Value) fun y127 =>
            .ret y127)
            (.ret false))
           (.ret false))
           (.ret false))))))))))))))))
   (.br (decide ((↑Name.length : Int) > (256 : Int))) (.ret false)
    (.br (decide ((↑Value.length : Int) > (256 : Int))) (.ret false)
    (.br (Kind == (1 : Int)) (.call (ref25_free.f Name) fun y128 =>
     .br y128 (.call (ref9_Right.f Name Value) fun y129 =>
      .ret y129)
     (.ret false))
     (.br (Kind == (3 : Int)) (.call (ref25_free.f Name) fun y130 =>
      .br y130 (.call (ref9_Right.f Name Value) fun y131 =>
      .ret y131)
      (.ret false))
     (.br (Kind == (2 : Int)) (.call (ref25_free.f Name) fun y132 =>
      .ret y132)
      (.br (Kind == (4 : Int)) (.br (decide ((↑Name.length : Int) ≤ (64 : Int))) (.br (decide ((↑Value.length : Int) ≤ (64 : Int))) (.call (ref6_Path.f Name) fun y133 =>
        .br y133 (.call (ref6_Path.f Value) fun y134 =>
        .ret y134)
        (.ret false))
       (.ret false))
       (.ret false))
      (.br (Kind == (5 : Int)) (.call (ref25_realm.f Name) fun y135 =>
       .br y135 (.call (ref1_All.f [(2 : Int)] Value) fun y136 =>
        .br y136 (.call (ref1_Split.f Value (58 : Int)) fun y137 =>
        .ret (decide ((↑y137.length : Int) > (1 : Int))))
        (.ret false))
       (.ret false))
       (.br (Kind == (6 : Int)) (.call (ref25_origin.f Value) fun y138 =>
        .ret y138)
       (.br (Kind == (7 : Int)) (.call (ref22_Net.f Value) fun (_, _, y139c) =>
        .ret y139c)
        (.br (Kind == (8 : Int)) (.call (ref22_Net.f Value) fun (_, _, y140c) =>
         .ret y140c)
        (.br (Kind == (9 : Int)) (.br (decide (N ≥ (0 : Int))) (.br (decide (N ≤ (1000 : Int))) (.br (decide (M ≥ (1 : Int))) (.ret (decide (M ≤ (1000 : Int))))
          (.ret false))
          (.ret false))
         (.ret false))
         (.br (Kind == (10 : Int)) (.br (decide (N ≥ (0 : Int))) (.ret (decide (N ≤ (1048576 : Int))))
          (.ret false))
         (.br (Kind == (11 : Int)) (.br (N == (301 : Int)) (.call (ref6_Path.f Value) fun y141 =>
           .ret y141)
          (.br (N == (302 : Int)) (.call (ref6_Path.f Value) fun y142 =>
           .ret y142)
           (.br (N == (307 : Int)) (.call (ref6_Path.f Value) fun y143 =>
            .ret y143)
           (.br (N == (308 : Int)) (.call (ref6_Path.f Value) fun y144 =>
            .ret y144)
            (.ret false)))))
          (.br (Kind == (12 : Int)) (.br (decide (N ≥ (200 : Int))) (.br (decide (N ≤ (599 : Int))) (.call (ref1_All.f [(6 : Int)] Value) fun y145 =>
            .ret y145)
           (.ret false))
           (.ret false))
          (.ret false)))))))))))))))))))
 (.br (!y1b) (.br (N != (0 : Int)) (.ret false)
  (.br (!y1c) (.br (M != (0 : Int)) (.ret false)
   (.br (!y1d) (.br (!Value == []) (.ret false)
    (.br (decide ((↑Name.length : Int) > (256 : Int))) (.ret false)
     (.br (decide ((↑Value.length : Int) > (256 : Int))) (.ret false)
     (.br (Kind == (1 : Int)) (.call (ref25_free.f Name) fun y146 =>
      .br y146 (.call (ref9_Right.f Name Value) fun y147 =>
       .ret y147)
      (.ret false))
      (.br (Kind == (3 : Int)) (.call (ref25_free.f Name) fun y148 =>
       .br y148 (.call (ref9_Right.f Name Value) fun y149 =>
       .ret y149)
       (.ret false))
      (.br (Kind == (2 : Int)) (.call (ref25_free.f Name) fun y150 =>
       .ret y150)
       (.br (Kind == (4 : Int)) (.br (decide ((↑Name.length : Int) ≤ (64 : Int))) (.br (decide ((↑Value.length : Int) ≤ (64 : Int))) (.call (ref6_Path.f Name) fun y151 =>
         .br y151 (.call (ref6_Path.f Value) fun y152 =>
         .ret y152)
         (.ret false))
        (.ret false))
        (.ret false))
       (.br (Kind == (5 : Int)) (.call (ref25_realm.f Name) fun y153 =>
        .br y153 (.call (ref1_All.f [(2 : Int)] Value) fun y154 =>
         .br y154 (.call (ref1_Split.f Value (58 : Int)) fun y155 =>
         .ret (decide ((↑y155.length : Int) > (1 : Int))))
         (.ret false))
        (.ret false))
        (.br (Kind == (6 : Int)) (.call (ref25_origin.f Value) fun y156 =>
         .ret y156)
        (.br (Kind == (7 : Int)) (.call (ref22_Net.f Value) fun (_, _, y157c) =>
         .ret y157c)
         (.br (Kind == (8 : Int)) (.call (ref22_Net.f Value) fun (_, _, y158c) =>
          .ret y158c)
         (.br (Kind == (9 : Int)) (.br (decide (N ≥ (0 : Int))) (.br (decide (N ≤ (1000 : Int))) (.br (decide (M ≥ (1 : Int))) (.ret (decide (M ≤ (1000 : Int))))
           (.ret false))
           (.ret false))
          (.ret false))
          (.br (Kind == (10 : Int)) (.br (decide (N ≥ (0 : Int))) (.ret (decide (N ≤ (1048576 : Int))))
           (.ret false))
          (.br (Kind == (11 : Int)) (.br (N == (301 : Int)) (.call (ref6_Path.f Value) fun y159 =>
            .ret y159)
           (.br (N == (302 : Int)) (.call (ref6_Path.f Value) fun y160 =>
            .ret y160)
            (.br (N == (307 : Int)) (.call (ref6_Path.f Value) fun y161 =>
             .ret y161)
            (.br (N == (308 : Int)) (.call (ref6_Path.f Value) fun y162 =>
             .ret y162)
             (.ret false)))))
           (.br (Kind == (12 : Int)) (.br (decide (N ≥ (200 : Int))) (.br (decide (N ≤ (599 : Int))) (.call (ref1_All.f [(6 : Int)] Value) fun y163 =>
             .ret y163)
            (.ret false))
            (.ret false))
           (.ret false))))))))))))))))
    (.br (decide ((↑Name.length : Int) > (256 : Int))) (.ret false)
    (.br (decide ((↑Value.length : Int) > (256 : Int))) (.ret false)
     (.br (Kind == (1 : Int)) (.call (ref25_free.f Name) fun y164 =>
      .br y164 (.call (ref9_Right.f Name Value) fun y165 =>
      .ret y165)
      (.ret false))
     (.br (Kind == (3 : Int)) (.call (ref25_free.f Name) fun y166 =>
      .br y166 (.call (ref9_Right.f Name Value) fun y167 =>
       .ret y167)
      (.ret false))
      (.br (Kind == (2 : Int)) (.call (ref25_free.f Name) fun y168 =>
       .ret y168)
      (.br (Kind == (4 : Int)) (.br (decide ((↑Name.length : Int) ≤ (64 : Int))) (.br (decide ((↑Value.length : Int) ≤ (64 : Int))) (.call (ref6_Path.f Name) fun y169 =>
        .br y169 (.call (ref6_Path.f Value) fun y170 =>
         .ret y170)
        (.ret false))
        (.ret false))
       (.ret false))
       (.br (Kind == (5 : Int)) (.call (ref25_realm.f Name) fun y171 =>
        .br y171 (.call (ref1_All.f [(2 : Int)] Value) fun y172 =>
        .br y172 (.call (ref1_Split.f Value (58 : Int)) fun y173 =>
         .ret (decide ((↑y173.length : Int) > (1 : Int))))
        (.ret false))
        (.ret false))
       (.br (Kind == (6 : Int)) (.call (ref25_origin.f Value) fun y174 =>
        .ret y174)
        (.br (Kind == (7 : Int)) (.call (ref22_Net.f Value) fun (_, _, y175c) =>
         .ret y175c)
        (.br (Kind == (8 : Int)) (.call (ref22_Net.f Value) fun (_, _, y176c) =>
         .ret y176c)
         (.br (Kind == (9 : Int)) (.br (decide (N ≥ (0 : Int))) (.br (decide (N ≤ (1000 : Int))) (.br (decide (M ≥ (1 : Int))) (.ret (decide (M ≤ (1000 : Int))))
           (.ret false))
          (.ret false))
          (.ret false))
         (.br (Kind == (10 : Int)) (.br (decide (N ≥ (0 : Int))) (.ret (decide (N ≤ (1048576 : Int))))
          (.ret false))
          (.br (Kind == (11 : Int)) (.br (N == (301 : Int)) (.call (ref6_Path.f Value) fun y177 =>
           .ret y177)
           (.br (N == (302 : Int)) (.call (ref6_Path.f Value) fun y178 =>
            .ret y178)
           (.br (N == (307 : Int)) (.call (ref6_Path.f Value) fun y179 =>
            .ret y179)
            (.br (N == (308 : Int)) (.call (ref6_Path.f Value) fun y180 =>
             .ret y180)
            (.ret false)))))
          (.br (Kind == (12 : Int)) (.br (decide (N ≥ (200 : Int))) (.br (decide (N ≤ (599 : Int))) (.call (ref1_All.f [(6 : Int)] Value) fun y181 =>
            .ret y181)
            (.ret false))
           (.ret false))
           (.ret false)))))))))))))))))
   (.br (!y1d) (.br (!Value == []) (.ret false)
    (.br (decide ((↑Name.length : Int) > (256 : Int))) (.ret false)
    (.br (decide ((↑Value.length : Int) > (256 : Int))) (.ret false)
     (.br (Kind == (1 : Int)) (.call (ref25_free.f Name) fun y182 =>
      .br y182 (.call (ref9_Right.f Name Value) fun y183 =>
      .ret y183)
      (.ret false))
     (.br (Kind == (3 : Int)) (.call (ref25_free.f Name) fun y184 =>
      .br y184 (.call (ref9_Right.f Name Value) fun y185 =>
       .ret y185)
      (.ret false))
      (.br (Kind == (2 : Int)) (.call (ref25_free.f Name) fun y186 =>
       .ret y186)
      (.br (Kind == (4 : Int)) (.br (decide ((↑Name.length : Int) ≤ (64 : Int))) (.br (decide ((↑Value.length : Int) ≤ (64 : Int))) (.call (ref6_Path.f Name) fun y187 =>
        .br y187 (.call (ref6_Path.f Value) fun y188 =>
         .ret y188)
        (.ret false))
        (.ret false))
       (.ret false))
       (.br (Kind == (5 : Int)) (.call (ref25_realm.f Name) fun y189 =>
        .br y189 (.call (ref1_All.f [(2 : Int)] Value) fun y190 =>
        .br y190 (.call (ref1_Split.f Value (58 : Int)) fun y191 =>
         .ret (decide ((↑y191.length : Int) > (1 : Int))))
        (.ret false))
        (.ret false))
       (.br (Kind == (6 : Int)) (.call (ref25_origin.f Value) fun y192 =>
        .ret y192)
        (.br (Kind == (7 : Int)) (.call (ref22_Net.f Value) fun (_, _, y193c) =>
         .ret y193c)
        (.br (Kind == (8 : Int)) (.call (ref22_Net.f Value) fun (_, _, y194c) =>
         .ret y194c)
         (.br (Kind == (9 : Int)) (.br (decide (N ≥ (0 : Int))) (.br (decide (N ≤ (1000 : Int))) (.br (decide (M ≥ (1 : Int))) (.ret (decide (M ≤ (1000 : Int))))
           (.ret false))
          (.ret false))
          (.ret false))
         (.br (Kind == (10 : Int)) (.br (decide (N ≥ (0 : Int))) (.ret (decide (N ≤ (1048576 : Int))))
          (.ret false))
          (.br (Kind == (11 : Int)) (.br (N == (301 : Int)) (.call (ref6_Path.f Value) fun y195 =>
           .ret y195)
           (.br (N == (302 : Int)) (.call (ref6_Path.f Value) fun y196 =>
            .ret y196)
           (.br (N == (307 : Int)) (.call (ref6_Path.f Value) fun y197 =>
            .ret y197)
            (.br (N == (308 : Int)) (.call (ref6_Path.f Value) fun y198 =>
             .ret y198)
            (.ret false)))))
          (.br (Kind == (12 : Int)) (.br (decide (N ≥ (200 : Int))) (.br (decide (N ≤ (599 : Int))) (.call (ref1_All.f [(6 : Int)] Value) fun y199 =>
            .ret y199)
            (.ret false))
           (.ret false))
           (.ret false))))))))))))))))
   (.br (decide ((↑Name.length : Int) > (256 : Int))) (.ret false)
    (.br (decide ((↑Value.length : Int) > (256 : Int))) (.ret false)
    (.br (Kind == (1 : Int)) (.call (ref25_free.f Name) fun y200 =>
     .br y200 (.call (ref9_Right.f Name Value) fun y201 =>
      .ret y201)
     (.ret false))
     (.br (Kind == (3 : Int)) (.call (ref25_free.f Name) fun y202 =>
      .br y202 (.call (ref9_Right.f Name Value) fun y203 =>
      .ret y203)
      (.ret false))
     (.br (Kind == (2 : Int)) (.call (ref25_free.f Name) fun y204 =>
      .ret y204)
      (.br (Kind == (4 : Int)) (.br (decide ((↑Name.length : Int) ≤ (64 : Int))) (.br (decide ((↑Value.length : Int) ≤ (64 : Int))) (.call (ref6_Path.f Name) fun y205 =>
        .br y205 (.call (ref6_Path.f Value) fun y206 =>
        .ret y206)
        (.ret false))
       (.ret false))
       (.ret false))
      (.br (Kind == (5 : Int)) (.call (ref25_realm.f Name) fun y207 =>
       .br y207 (.call (ref1_All.f [(2 : Int)] Value) fun y208 =>
        .br y208 (.call (ref1_Split.f Value (58 : Int)) fun y209 =>
        .ret (decide ((↑y209.length : Int) > (1 : Int))))
        (.ret false))
       (.ret false))
       (.br (Kind == (6 : Int)) (.call (ref25_origin.f Value) fun y210 =>
        .ret y210)
       (.br (Kind == (7 : Int)) (.call (ref22_Net.f Value) fun (_, _, y211c) =>
        .ret y211c)
        (.br (Kind == (8 : Int)) (.call (ref22_Net.f Value) fun (_, _, y212c) =>
         .ret y212c)
        (.br (Kind == (9 : Int)) (.br (decide (N ≥ (0 : Int))) (.br (decide (N ≤ (1000 : Int))) (.br (decide (M ≥ (1 : Int))) (.ret (decide (M ≤ (1000 : Int))))
          (.ret false))
          (.ret false))
         (.ret false))
         (.br (Kind == (10 : Int)) (.br (decide (N ≥ (0 : Int))) (.ret (decide (N ≤ (1048576 : Int))))
          (.ret false))
         (.br (Kind == (11 : Int)) (.br (N == (301 : Int)) (.call (ref6_Path.f Value) fun y213 =>
           .ret y213)
          (.br (N == (302 : Int)) (.call (ref6_Path.f Value) fun y214 =>
           .ret y214)
           (.br (N == (307 : Int)) (.call (ref6_Path.f Value) fun y215 =>
            .ret y215)
           (.br (N == (308 : Int)) (.call (ref6_Path.f Value) fun y216 =>
            .ret y216)
            (.ret false)))))
          (.br (Kind == (12 : Int)) (.br (decide (N ≥ (200 : Int))) (.br (decide (N ≤ (599 : Int))) (.call (ref1_All.f [(6 : Int)] Value) fun y217 =>
            .ret y217)
           (.ret false))
           (.ret false))
          (.ret false))))))))))))))))))
  (.br (!y1c) (.br (M != (0 : Int)) (.ret false)
   (.br (!y1d) (.br (!Value == []) (.ret false)
    (.br (decide ((↑Name.length : Int) > (256 : Int))) (.ret false)
    (.br (decide ((↑Value.length : Int) > (256 : Int))) (.ret false)
     (.br (Kind == (1 : Int)) (.call (ref25_free.f Name) fun y218 =>
      .br y218 (.call (ref9_Right.f Name Value) fun y219 =>
      .ret y219)
      (.ret false))
     (.br (Kind == (3 : Int)) (.call (ref25_free.f Name) fun y220 =>
      .br y220 (.call (ref9_Right.f Name Value) fun y221 =>
       .ret y221)
      (.ret false))
      (.br (Kind == (2 : Int)) (.call (ref25_free.f Name) fun y222 =>
       .ret y222)
      (.br (Kind == (4 : Int)) (.br (decide ((↑Name.length : Int) ≤ (64 : Int))) (.br (decide ((↑Value.length : Int) ≤ (64 : Int))) (.call (ref6_Path.f Name) fun y223 =>
        .br y223 (.call (ref6_Path.f Value) fun y224 =>
         .ret y224)
        (.ret false))
        (.ret false))
       (.ret false))
       (.br (Kind == (5 : Int)) (.call (ref25_realm.f Name) fun y225 =>
        .br y225 (.call (ref1_All.f [(2 : Int)] Value) fun y226 =>
        .br y226 (.call (ref1_Split.f Value (58 : Int)) fun y227 =>
         .ret (decide ((↑y227.length : Int) > (1 : Int))))
        (.ret false))
        (.ret false))
       (.br (Kind == (6 : Int)) (.call (ref25_origin.f Value) fun y228 =>
        .ret y228)
        (.br (Kind == (7 : Int)) (.call (ref22_Net.f Value) fun (_, _, y229c) =>
         .ret y229c)
        (.br (Kind == (8 : Int)) (.call (ref22_Net.f Value) fun (_, _, y230c) =>
         .ret y230c)
         (.br (Kind == (9 : Int)) (.br (decide (N ≥ (0 : Int))) (.br (decide (N ≤ (1000 : Int))) (.br (decide (M ≥ (1 : Int))) (.ret (decide (M ≤ (1000 : Int))))
           (.ret false))
          (.ret false))
          (.ret false))
         (.br (Kind == (10 : Int)) (.br (decide (N ≥ (0 : Int))) (.ret (decide (N ≤ (1048576 : Int))))
          (.ret false))
          (.br (Kind == (11 : Int)) (.br (N == (301 : Int)) (.call (ref6_Path.f Value) fun y231 =>
           .ret y231)
           (.br (N == (302 : Int)) (.call (ref6_Path.f Value) fun y232 =>
            .ret y232)
           (.br (N == (307 : Int)) (.call (ref6_Path.f Value) fun y233 =>
            .ret y233)
            (.br (N == (308 : Int)) (.call (ref6_Path.f Value) fun y234 =>
             .ret y234)
            (.ret false)))))
          (.br (Kind == (12 : Int)) (.br (decide (N ≥ (200 : Int))) (.br (decide (N ≤ (599 : Int))) (.call (ref1_All.f [(6 : Int)] Value) fun y235 =>
            .ret y235)
            (.ret false))
           (.ret false))
           (.ret false))))))))))))))))
   (.br (decide ((↑Name.length : Int) > (256 : Int))) (.ret false)
    (.br (decide ((↑Value.length : Int) > (256 : Int))) (.ret false)
    (.br (Kind == (1 : Int)) (.call (ref25_free.f Name) fun y236 =>
     .br y236 (.call (ref9_Right.f Name Value) fun y237 =>
      .ret y237)
     (.ret false))
     (.br (Kind == (3 : Int)) (.call (ref25_free.f Name) fun y238 =>
      .br y238 (.call (ref9_Right.f Name Value) fun y239 =>
      .ret y239)
      (.ret false))
     (.br (Kind == (2 : Int)) (.call (ref25_free.f Name) fun y240 =>
      .ret y240)
      (.br (Kind == (4 : Int)) (.br (decide ((↑Name.length : Int) ≤ (64 : Int))) (.br (decide ((↑Value.length : Int) ≤ (64 : Int))) (.call (ref6_Path.f Name) fun y241 =>
        .br y241 (.call (ref6_Path.f Value) fun y242 =>
        .ret y242)
        (.ret false))
       (.ret false))
       (.ret false))
      (.br (Kind == (5 : Int)) (.call (ref25_realm.f Name) fun y243 =>
       .br y243 (.call (ref1_All.f [(2 : Int)] Value) fun y244 =>
        .br y244 (.call (ref1_Split.f Value (58 : Int)) fun y245 =>
        .ret (decide ((↑y245.length : Int) > (1 : Int))))
        (.ret false))
       (.ret false))
       (.br (Kind == (6 : Int)) (.call (ref25_origin.f Value) fun y246 =>
        .ret y246)
       (.br (Kind == (7 : Int)) (.call (ref22_Net.f Value) fun (_, _, y247c) =>
        .ret y247c)
        (.br (Kind == (8 : Int)) (.call (ref22_Net.f Value) fun (_, _, y248c) =>
         .ret y248c)
        (.br (Kind == (9 : Int)) (.br (decide (N ≥ (0 : Int))) (.br (decide (N ≤ (1000 : Int))) (.br (decide (M ≥ (1 : Int))) (.ret (decide (M ≤ (1000 : Int))))
          (.ret false))
          (.ret false))
         (.ret false))
         (.br (Kind == (10 : Int)) (.br (decide (N ≥ (0 : Int))) (.ret (decide (N ≤ (1048576 : Int))))
          (.ret false))
         (.br (Kind == (11 : Int)) (.br (N == (301 : Int)) (.call (ref6_Path.f Value) fun y249 =>
           .ret y249)
          (.br (N == (302 : Int)) (.call (ref6_Path.f Value) fun y250 =>
           .ret y250)
           (.br (N == (307 : Int)) (.call (ref6_Path.f Value) fun y251 =>
            .ret y251)
           (.br (N == (308 : Int)) (.call (ref6_Path.f Value) fun y252 =>
            .ret y252)
            (.ret false)))))
          (.br (Kind == (12 : Int)) (.br (decide (N ≥ (200 : Int))) (.br (decide (N ≤ (599 : Int))) (.call (ref1_All.f [(6 : Int)] Value) fun y253 =>
            .ret y253)
           (.ret false))
           (.ret false))
          (.ret false)))))))))))))))))
  (.br (!y1d) (.br (!Value == []) (.ret false)
   (.br (decide ((↑Name.length : Int) > (256 : Int))) (.ret false)
    (.br (decide ((↑Value.length : Int) > (256 : Int))) (.ret false)
    (.br (Kind == (1 : Int)) (.call (ref25_free.f Name) fun y254 =>
     .br y254 (.call (ref9_Right.f Name Value) fun y255 =>
      .ret y255)
     (.ret false))
     (.br (Kind == (3 : Int)) (.call (ref25_free.f Name) fun y256 =>
      .br y256 (.call (ref9_Right.f Name Value) fun y257 =>
      .ret y257)
      (.ret false))
     (.br (Kind == (2 : Int)) (.call (ref25_free.f Name) fun y258 =>
      .ret y258)
      (.br (Kind == (4 : Int)) (.br (decide ((↑Name.length : Int) ≤ (64 : Int))) (.br (decide ((↑Value.length : Int) ≤ (64 : Int))) (.call (ref6_Path.f Name) fun y259 =>
        .br y259 (.call (ref6_Path.f Value) fun y260 =>
        .ret y260)
        (.ret false))
       (.ret false))
       (.ret false))
      (.br (Kind == (5 : Int)) (.call (ref25_realm.f Name) fun y261 =>
       .br y261 (.call (ref1_All.f [(2 : Int)] Value) fun y262 =>
        .br y262 (.call (ref1_Split.f Value (58 : Int)) fun y263 =>
        .ret (decide ((↑y263.length : Int) > (1 : Int))))
        (.ret false))
       (.ret false))
       (.br (Kind == (6 : Int)) (.call (ref25_origin.f Value) fun y264 =>
        .ret y264)
       (.br (Kind == (7 : Int)) (.call (ref22_Net.f Value) fun (_, _, y265c) =>
        .ret y265c)
        (.br (Kind == (8 : Int)) (.call (ref22_Net.f Value) fun (_, _, y266c) =>
         .ret y266c)
        (.br (Kind == (9 : Int)) (.br (decide (N ≥ (0 : Int))) (.br (decide (N ≤ (1000 : Int))) (.br (decide (M ≥ (1 : Int))) (.ret (decide (M ≤ (1000 : Int))))
          (.ret false))
          (.ret false))
         (.ret false))
         (.br (Kind == (10 : Int)) (.br (decide (N ≥ (0 : Int))) (.ret (decide (N ≤ (1048576 : Int))))
          (.ret false))
         (.br (Kind == (11 : Int)) (.br (N == (301 : Int)) (.call (ref6_Path.f Value) fun y267 =>
           .ret y267)
          (.br (N == (302 : Int)) (.call (ref6_Path.f Value) fun y268 =>
           .ret y268)
           (.br (N == (307 : Int)) (.call (ref6_Path.f Value) fun y269 =>
            .ret y269)
           (.br (N == (308 : Int)) (.call (ref6_Path.f Value) fun y270 =>
            .ret y270)
            (.ret false)))))
          (.br (Kind == (12 : Int)) (.br (decide (N ≥ (200 : Int))) (.br (decide (N ≤ (599 : Int))) (.call (ref1_All.f [(6 : Int)] Value) fun y271 =>
            .ret y271)
           (.ret false))
           (.ret false))
          (.ret false))))))))))))))))
   (.br (decide ((↑Name.length : Int) > (256 : Int))) (.ret false)
   (.br (decide ((↑Value.length : Int) > (256 : Int))) (.ret false)
    (.br (Kind == (1 : Int)) (.call (ref25_free.f Name) fun y272 =>
     .br y272 (.call (ref9_Right.f Name Value) fun y273 =>
     .ret y273)
     (.ret false))
    (.br (Kind == (3 : Int)) (.call (ref25_free.f Name) fun y274 =>
     .br y274 (.call (ref9_Right.f Name Value) fun y275 =>
      .ret y275)
     (.ret false))
     (.br (Kind == (2 : Int)) (.call (ref25_free.f Name) fun y276 =>
      .ret y276)
     (.br (Kind == (4 : Int)) (.br (decide ((↑Name.length : Int) ≤ (64 : Int))) (.br (decide ((↑Value.length : Int) ≤ (64 : Int))) (.call (ref6_Path.f Name) fun y277 =>
       .br y277 (.call (ref6_Path.f Value) fun y278 =>
        .ret y278)
       (.ret false))
       (.ret false))
      (.ret false))
      (.br (Kind == (5 : Int)) (.call (ref25_realm.f Name) fun y279 =>
       .br y279 (.call (ref1_All.f [(2 : Int)] Value) fun y280 =>
       .br y280 (.call (ref1_Split.f Value (58 : Int)) fun y281 =>
        .ret (decide ((↑y281.length : Int) > (1 : Int))))
       (.ret false))
       (.ret false))
      (.br (Kind == (6 : Int)) (.call (ref25_origin.f Value) fun y282 =>
       .ret y282)
       (.br (Kind == (7 : Int)) (.call (ref22_Net.f Value) fun (_, _, y283c) =>
        .ret y283c)
       (.br (Kind == (8 : Int)) (.call (ref22_Net.f Value) fun (_, _, y284c) =>
        .ret y284c)
        (.br (Kind == (9 : Int)) (.br (decide (N ≥ (0 : Int))) (.br (decide (N ≤ (1000 : Int))) (.br (decide (M ≥ (1 : Int))) (.ret (decide (M ≤ (1000 : Int))))
          (.ret false))
         (.ret false))
         (.ret false))
        (.br (Kind == (10 : Int)) (.br (decide (N ≥ (0 : Int))) (.ret (decide (N ≤ (1048576 : Int))))
         (.ret false))
         (.br (Kind == (11 : Int)) (.br (N == (301 : Int)) (.call (ref6_Path.f Value) fun y285 =>
          .ret y285)
          (.br (N == (302 : Int)) (.call (ref6_Path.f Value) fun y286 =>
           .ret y286)
          (.br (N == (307 : Int)) (.call (ref6_Path.f Value) fun y287 =>
           .ret y287)
           (.br (N == (308 : Int)) (.call (ref6_Path.f Value) fun y288 =>
            .ret y288)
           (.ret false)))))
         (.br (Kind == (12 : Int)) (.br (decide (N ≥ (200 : Int))) (.br (decide (N ≤ (599 : Int))) (.call (ref1_All.f [(6 : Int)] Value) fun y289 =>
           .ret y289)
           (.ret false))
          (.ret false))
          (.ret false))))))))))))))))))
def f (Kind : Int) (Name : List UInt8) (Value : List UInt8) (N : Int) (M : Int) : Option (Bool) := (t Kind Name Value N M).val
def F (x : D.den) : Option (Bool) := f x.2.1 x.2.2.1 x.2.2.2.1 x.2.2.2.2.1 x.2.2.2.2.2
def pa : D.den → (Bool) → A.den := fun (_, (_, (_, (_, (_, _))))) y1 => ((), y1)
def con : Con := tcon D A pa F
theorem ok : ConOk Tryz.prog 14 con := tcon_ok Base.mixed Base.prog_ok bk_ref22_Net_ok (by kernel_rfl) LapsOk.nil 9 (fun _ => rfl) (fun x => t x.2.1 x.2.2.1 x.2.2.2.1 x.2.2.2.2.1 x.2.2.2.2.2) (fun _ => rfl) fun _ _ _ => (by kernel_rfl)
end ref25_Right
def bk_ref25_Right : Book := bk_ref22_Net.add 14 ref25_Right.con
theorem bk_ref25_Right_ok : BookOk Tryz.prog bk_ref25_Right := bk_ref22_Net_ok.add ref25_Right.ok
end Go.Vx
end
section
set_option maxRecDepth 1000000
set_option maxHeartbeats 4000000
set_option synthInstance.maxSize 100000
set_option synthInstance.maxHeartbeats 400000
set_option linter.unusedVariables false
namespace Go.Vx
open Go Go.Vx Go.Proofs
namespace ref25_Line
def D : Dom := rule_alone.D
def A : Dom := ⟨[], (.tup (.cat .str .bool))⟩
def sel : List Nat := [0, 1, 2, 3, 4]
def t (Kind : Int) (Name : List UInt8) (Value : List UInt8) (N : Int) (M : Int) : Tr (List UInt8 × Bool) :=
 .call (ref25_Right.f Kind Name Value N M) fun y1 =>
 .br (!y1) (.ret ([], false))
 (.call (ref25_uses.f Kind) fun (y2a, y2b, y2c, y2d) =>
  .call (ref25_names.f) fun y3 =>
  .chk ((0 : Int) ≤ IntKind.i64.wrap (Kind - (1 : Int)) ∧ IntKind.i64.wrap (Kind - (1 : Int)) < (↑y3.length : Int)) <| .chk ((0 : Nat) + (IntKind.i64.wrap (Kind - (1 : Int))).toNat < y3.length) <| .br y2a (.chk ((↑(List.length (y3.getD ((0 : Nat) + (IntKind.i64.wrap (Kind - (1 : Int))).toNat) []) + [(32 : UInt8)].length) : Int) ≤ (9223372036854775807 : Int)) <| .chk ((↑((y3.getD ((0 : Nat) + (IntKind.i64.wrap (Kind - (1 : Int))).toNat) [] ++ [(32 : UInt8)]).length + Name.length) : Int) ≤ (9223372036854775807 : Int)) <| .br y2b (.chk ((↑((y3.getD ((0 : Nat) + (IntKind.i64.wrap (Kind - (1 : Int))).toNat) [] ++ [(32 : UInt8)] ++ Name).length + [(32 : UInt8)].length) : Int) ≤ (9223372036854775807 : Int)) <| .call (ref1_Put.f N) fun y4 =>
   .chk ((↑((y3.getD ((0 : Nat) + (IntKind.i64.wrap (Kind - (1 : Int))).toNat) [] ++ [(32 : UInt8)] ++ Name ++ [(32 : UInt8)]).length + y4.length) : Int) ≤ (9223372036854775807 : Int)) <| .br y2c (.chk ((↑((y3.getD ((0 : Nat) + (IntKind.i64.wrap (Kind - (1 : Int))).toNat) [] ++ [(32 : UInt8)] ++ Name ++ [(32 : UInt8)] ++ y4).length + [(32 : UInt8)].length) : Int) ≤ (9223372036854775807 : Int)) <| .call (ref1_Put.f M) fun y5 =>
   .chk ((↑((y3.getD ((0 : Nat) + (IntKind.i64.wrap (Kind - (1 : Int))).toNat) [] ++ [(32 : UInt8)] ++ Name ++ [(32 : UInt8)] ++ y4 ++ [(32 : UInt8)]).length + y5.length) : Int) ≤ (9223372036854775807 : Int)) <| .br y2d (.chk ((↑((y3.getD ((0 : Nat) + (IntKind.i64.wrap (Kind - (1 : Int))).toNat) [] ++ [(32 : UInt8)] ++ Name ++ [(32 : UInt8)] ++ y4 ++ [(32 : UInt8)] ++ y5).length + [(32 : UInt8)].length) : Int) ≤ (9223372036854775807 : Int)) <| .chk ((↑((y3.getD ((0 : Nat) + (IntKind.i64.wrap (Kind - (1 : Int))).toNat) [] ++ [(32 : UInt8)] ++ Name ++ [(32 : UInt8)] ++ y4 ++ [(32 : UInt8)] ++ y5 ++ [(32 : UInt8)]).length + Value.length) : Int) ≤ (9223372036854775807 : Int)) <| .ret (y3.getD ((0 : Nat) + (IntKind.i64.wrap (Kind - (1 : Int))).toNat) [] ++ [(32 : UInt8)] ++ Name ++ [(32 : UInt8)] ++ y4 ++ [(32 : UInt8)] ++ y5 ++ [(32 : UInt8)] ++ Value, true))
   (.ret (y3.getD ((0 : Nat) + (IntKind.i64.wrap (Kind - (1 : Int))).toNat) [] ++ [(32 : UInt8)] ++ Name ++ [(32 : UInt8)] ++ y4 ++ [(32 : UInt8)] ++ y5, true)))
   (.br y2d (.chk ((↑((y3.getD ((0 : Nat) + (IntKind.i64.wrap (Kind - (1 : Int))).toNat) [] ++ [(32 : UInt8)] ++ Name ++ [(32 : UInt8)] ++ y4).length + [(32 : UInt8)].length) : Int) ≤ (9223372036854775807 : Int)) <| .chk ((↑((y3.getD ((0 : Nat) + (IntKind.i64.wrap (Kind - (1 : Int))).toNat) [] ++ [(32 : UInt8)] ++ Name ++ [(32 : UInt8)] ++ y4 ++ [(32 : UInt8)]).length + Value.length) : Int) ≤ (9223372036854775807 : Int)) <| .ret (y3.getD ((0 : Nat) + (IntKind.i64.wrap (Kind - (1 : Int))).toNat) [] ++ [(32 : UInt8)] ++ Name ++ [(32 : UInt8)] ++ y4 ++ [(32 : UInt8)] ++ Value, true))
   (.ret (y3.getD ((0 : Nat) + (IntKind.i64.wrap (Kind - (1 : Int))).toNat) [] ++ [(32 : UInt8)] ++ Name ++ [(32 : UInt8)] ++ y4, true))))
  (.br y2c (.chk ((↑((y3.getD ((0 : Nat) + (IntKind.i64.wrap (Kind - (1 : Int))).toNat) [] ++ [(32 : UInt8)] ++ Name).length + [(32 : UInt8)].length) : Int) ≤ (9223372036854775807 : Int)) <| .call (ref1_Put.f M) fun y6 =>
   .chk ((↑((y3.getD ((0 : Nat) + (IntKind.i64.wrap (Kind - (1 : Int))).toNat) [] ++ [(32 : UInt8)] ++ Name ++ [(32 : UInt8)]).length + y6.length) : Int) ≤ (9223372036854775807 : Int)) <| .br y2d (.chk ((↑((y3.getD ((0 : Nat) + (IntKind.i64.wrap (Kind - (1 : Int))).toNat) [] ++ [(32 : UInt8)] ++ Name ++ [(32 : UInt8)] ++ y6).length + [(32 : UInt8)].length) : Int) ≤ (9223372036854775807 : Int)) <| .chk ((↑((y3.getD ((0 : Nat) + (IntKind.i64.wrap (Kind - (1 : Int))).toNat) [] ++ [(32 : UInt8)] ++ Name ++ [(32 : UInt8)] ++ y6 ++ [(32 : UInt8)]).length + Value.length) : Int) ≤ (9223372036854775807 : Int)) <| .ret (y3.getD ((0 : Nat) + (IntKind.i64.wrap (Kind - (1 : Int))).toNat) [] ++ [(32 : UInt8)] ++ Name ++ [(32 : UInt8)] ++ y6 ++ [(32 : UInt8)] ++ Value, true))
   (.ret (y3.getD ((0 : Nat) + (IntKind.i64.wrap (Kind - (1 : Int))).toNat) [] ++ [(32 : UInt8)] ++ Name ++ [(32 : UInt8)] ++ y6, true)))
   (.br y2d (.chk ((↑((y3.getD ((0 : Nat) + (IntKind.i64.wrap (Kind - (1 : Int))).toNat) [] ++ [(32 : UInt8)] ++ Name).length + [(32 : UInt8)].length) : Int) ≤ (9223372036854775807 : Int)) <| .chk ((↑((y3.getD ((0 : Nat) + (IntKind.i64.wrap (Kind - (1 : Int))).toNat) [] ++ [(32 : UInt8)] ++ Name ++ [(32 : UInt8)]).length + Value.length) : Int) ≤ (9223372036854775807 : Int)) <| .ret (y3.getD ((0 : Nat) + (IntKind.i64.wrap (Kind - (1 : Int))).toNat) [] ++ [(32 : UInt8)] ++ Name ++ [(32 : UInt8)] ++ Value, true))
   (.ret (y3.getD ((0 : Nat) + (IntKind.i64.wrap (Kind - (1 : Int))).toNat) [] ++ [(32 : UInt8)] ++ Name, true)))))
  (.br y2b (.chk ((↑(List.length (y3.getD ((0 : Nat) + (IntKind.i64.wrap (Kind - (1 : Int))).toNat) []) + [(32 : UInt8)].length) : Int) ≤ (9223372036854775807 : Int)) <| .call (ref1_Put.f N) fun y7 =>
   .chk ((↑((y3.getD ((0 : Nat) + (IntKind.i64.wrap (Kind - (1 : Int))).toNat) [] ++ [(32 : UInt8)]).length + y7.length) : Int) ≤ (9223372036854775807 : Int)) <| .br y2c (.chk ((↑((y3.getD ((0 : Nat) + (IntKind.i64.wrap (Kind - (1 : Int))).toNat) [] ++ [(32 : UInt8)] ++ y7).length + [(32 : UInt8)].length) : Int) ≤ (9223372036854775807 : Int)) <| .call (ref1_Put.f M) fun y8 =>
   .chk ((↑((y3.getD ((0 : Nat) + (IntKind.i64.wrap (Kind - (1 : Int))).toNat) [] ++ [(32 : UInt8)] ++ y7 ++ [(32 : UInt8)]).length + y8.length) : Int) ≤ (9223372036854775807 : Int)) <| .br y2d (.chk ((↑((y3.getD ((0 : Nat) + (IntKind.i64.wrap (Kind - (1 : Int))).toNat) [] ++ [(32 : UInt8)] ++ y7 ++ [(32 : UInt8)] ++ y8).length + [(32 : UInt8)].length) : Int) ≤ (9223372036854775807 : Int)) <| .chk ((↑((y3.getD ((0 : Nat) + (IntKind.i64.wrap (Kind - (1 : Int))).toNat) [] ++ [(32 : UInt8)] ++ y7 ++ [(32 : UInt8)] ++ y8 ++ [(32 : UInt8)]).length + Value.length) : Int) ≤ (9223372036854775807 : Int)) <| .ret (y3.getD ((0 : Nat) + (IntKind.i64.wrap (Kind - (1 : Int))).toNat) [] ++ [(32 : UInt8)] ++ y7 ++ [(32 : UInt8)] ++ y8 ++ [(32 : UInt8)] ++ Value, true))
   (.ret (y3.getD ((0 : Nat) + (IntKind.i64.wrap (Kind - (1 : Int))).toNat) [] ++ [(32 : UInt8)] ++ y7 ++ [(32 : UInt8)] ++ y8, true)))
   (.br y2d (.chk ((↑((y3.getD ((0 : Nat) + (IntKind.i64.wrap (Kind - (1 : Int))).toNat) [] ++ [(32 : UInt8)] ++ y7).length + [(32 : UInt8)].length) : Int) ≤ (9223372036854775807 : Int)) <| .chk ((↑((y3.getD ((0 : Nat) + (IntKind.i64.wrap (Kind - (1 : Int))).toNat) [] ++ [(32 : UInt8)] ++ y7 ++ [(32 : UInt8)]).length + Value.length) : Int) ≤ (9223372036854775807 : Int)) <| .ret (y3.getD ((0 : Nat) + (IntKind.i64.wrap (Kind - (1 : Int))).toNat) [] ++ [(32 : UInt8)] ++ y7 ++ [(32 : UInt8)] ++ Value, true))
   (.ret (y3.getD ((0 : Nat) + (IntKind.i64.wrap (Kind - (1 : Int))).toNat) [] ++ [(32 : UInt8)] ++ y7, true))))
  (.br y2c (.chk ((↑(List.length (y3.getD ((0 : Nat) + (IntKind.i64.wrap (Kind - (1 : Int))).toNat) []) + [(32 : UInt8)].length) : Int) ≤ (9223372036854775807 : Int)) <| .call (ref1_Put.f M) fun y9 =>
   .chk ((↑((y3.getD ((0 : Nat) + (IntKind.i64.wrap (Kind - (1 : Int))).toNat) [] ++ [(32 : UInt8)]).length + y9.length) : Int) ≤ (9223372036854775807 : Int)) <| .br y2d (.chk ((↑((y3.getD ((0 : Nat) + (IntKind.i64.wrap (Kind - (1 : Int))).toNat) [] ++ [(32 : UInt8)] ++ y9).length + [(32 : UInt8)].length) : Int) ≤ (9223372036854775807 : Int)) <| .chk ((↑((y3.getD ((0 : Nat) + (IntKind.i64.wrap (Kind - (1 : Int))).toNat) [] ++ [(32 : UInt8)] ++ y9 ++ [(32 : UInt8)]).length + Value.length) : Int) ≤ (9223372036854775807 : Int)) <| .ret (y3.getD ((0 : Nat) + (IntKind.i64.wrap (Kind - (1 : Int))).toNat) [] ++ [(32 : UInt8)] ++ y9 ++ [(32 : UInt8)] ++ Value, true))
   (.ret (y3.getD ((0 : Nat) + (IntKind.i64.wrap (Kind - (1 : Int))).toNat) [] ++ [(32 : UInt8)] ++ y9, true)))
   (.br y2d (.chk ((↑(List.length (y3.getD ((0 : Nat) + (IntKind.i64.wrap (Kind - (1 : Int))).toNat) []) + [(32 : UInt8)].length) : Int) ≤ (9223372036854775807 : Int)) <| .chk ((↑((y3.getD ((0 : Nat) + (IntKind.i64.wrap (Kind - (1 : Int))).toNat) [] ++ [(32 : UInt8)]).length + Value.length) : Int) ≤ (9223372036854775807 : Int)) <| .ret (y3.getD ((0 : Nat) + (IntKind.i64.wrap (Kind - (1 : Int))).toNat) [] ++ [(32 : UInt8)] ++ Value, true))
   (.ret (y3.getD ((0 : Nat) + (IntKind.i64.wrap (Kind - (1 : Int))).toNat) [], true))))))
def f (Kind : Int) (Name : List UInt8) (Value : List UInt8) (N : Int) (M : Int) : Option (List UInt8 × Bool) := (t Kind Name Value N M).val
def F (x : D.den) : Option (List UInt8 × Bool) := f x.2.1 x.2.2.1 x.2.2.2.1 x.2.2.2.2.1 x.2.2.2.2.2
def pa : D.den → (List UInt8 × Bool) → A.den := fun (_, (_, (_, (_, (_, _))))) (y1, y2) => ((), (y1, y2))
def con : Con := tcon D A pa F
theorem ok : ConOk Tryz.prog 12 con := tcon_ok Base.mixed Base.prog_ok bk_ref25_Right_ok (by kernel_rfl) LapsOk.nil 9 (fun _ => rfl) (fun x => t x.2.1 x.2.2.1 x.2.2.2.1 x.2.2.2.2.1 x.2.2.2.2.2) (fun _ => rfl) fun _ _ _ => (by kernel_rfl)
end ref25_Line
def bk_ref25_Line : Book := bk_ref25_Right.add 12 ref25_Line.con
theorem bk_ref25_Line_ok : BookOk Tryz.prog bk_ref25_Line := bk_ref25_Right_ok.add ref25_Line.ok
namespace ref25_word
def D : Dom := ⟨[], .str⟩
namespace L2
def D : Dom := ⟨[], (.cat .str (.int .i64))⟩
def A : Dom := ⟨[], .str⟩
def B : Dom := ⟨[], (.cat .str .str)⟩
def sel : List Nat := [0, 1]
def t (s : List UInt8) (i : Int) : Tr ((Int) ⊕ ((Unit) ⊕ (List UInt8 × List UInt8))) :=
 .br (decide (i < (↑s.length : Int))) (.chk ((0 : Int) ≤ i ∧ i < (↑s.length : Int)) <| .br ((↑(s.getD i.toNat (0 : UInt8)).toNat : Int) == (32 : Int)) (.chk ((0 : Int) ≤ (0 : Int) ∧ (0 : Int) ≤ i ∧ i ≤ (↑s.length : Int)) <| .chk ((0 : Int) ≤ IntKind.i64.wrap (i + (1 : Int)) ∧ IntKind.i64.wrap (i + (1 : Int)) ≤ (↑s.length : Int) ∧ (↑s.length : Int) ≤ (↑s.length : Int)) <| .ret (.inr (.inr (List.drop (↑(0 : Nat) : Int).toNat (List.take i.toNat s), List.drop (IntKind.i64.wrap (i + (1 : Int))).toNat (List.take (↑s.length : Int).toNat s)))))
  (.ret (.inl (IntKind.i64.wrap (i + (1 : Int))))))
 (.ret (.inr (.inl ())))
def f (s : List UInt8) (i : Int) : Option ((Unit) ⊕ (List UInt8 × List UInt8)) := Loop (fun z : Int => t s z) i
def F (x : D.den) : Option ((Unit) ⊕ (List UInt8 × List UInt8)) := f x.2.1 x.2.2
def pa : D.den → (Unit) → A.den := fun (_, (s, _)) _ => ((), s)
def pb : D.den → (List UInt8 × List UInt8) → B.den := fun (_, (_, _)) (y1, y2) => ((), (y1, y2))
def lap : Lap := tlap2 2 23 [0, 4] D (.exit 0) [0] A .ret [2, 3] B pa pb F
def pk (x : D.den) (z : Int) : D.den := ((), (x.2.1, z))
def un (x : D.den) : Int := x.2.2
def body (x : D.den) (z : Int) : Tr ((Int) ⊕ ((Unit) ⊕ (List UInt8 × List UInt8))) := t x.2.1 z
theorem ok : LapOk Tryz.prog 0 (codeOf Tryz.prog 46) lap := tlap2_ok Base.mixed Base.prog_ok bk_ref25_Line_ok (by kernel_rfl) (by kernel_rfl) LapsOk.nil 9 pk un body (fun _ _ => rfl) (fun _ _ => rfl) (fun _ _ => rfl) (fun _ _ => rfl) (fun _ => rfl) fun _ _ _ _ => (by kernel_rfl)
end L2
def A : Dom := ⟨[], (.tup (.cat .str .str))⟩
def sel : List Nat := [0]
def t (s : List UInt8) : Tr (List UInt8 × List UInt8) :=
 .both (ref25_word.L2.f s (0 : Int)) (fun _ => .ret (s, []))
 (fun (y2a, y2b) => .ret (y2a, y2b))
def f (s : List UInt8) : Option (List UInt8 × List UInt8) := (t s).val
def F (x : D.den) : Option (List UInt8 × List UInt8) := f x.2
def pa : D.den → (List UInt8 × List UInt8) → A.den := fun (_, _) (y1, y2) => ((), (y1, y2))
def con : Con := tcon D A pa F
theorem ok : ConOk Tryz.prog 46 con := tcon_ok Base.mixed Base.prog_ok bk_ref25_Line_ok (by kernel_rfl) (.cons L2.ok (by kernel_rfl) (.nil)) 9 (fun _ => rfl) (fun x => t x.2) (fun _ => rfl) fun _ _ _ => (by kernel_rfl)
end ref25_word
def bk_ref25_word : Book := bk_ref25_Line.add 46 ref25_word.con
theorem bk_ref25_word_ok : BookOk Tryz.prog bk_ref25_word := bk_ref25_Line_ok.add ref25_word.ok
namespace ref25_Parse
def D : Dom := ⟨[], .str⟩
def A : Dom := rule_Parse.A
def sel : List Nat := [0]
def t (s : List UInt8) : Tr (Int × List UInt8 × List UInt8 × Int × Int × Bool) :=
 .call (ref25_word.f s) fun (y1a, y1b) =>
 .call (ref25_Kind.f y1a) fun (y2a, y2b) =>
 .br (!y2b) (.ret ((0 : Int), [], [], (0 : Int), (0 : Int), false))
 (.call (ref25_uses.f y2a) fun (y3a, y3b, y3c, y3d) =>
  .br y3a (.call (ref25_word.f y1b) fun (y4a, y4b) =>
  .br y3b (.call (ref25_word.f y4b) fun (y5a, y5b) =>
   .call (ref1_Dec.f y5a (1073741824 : Int)) fun (y6a, _) =>
   .br y3c (.call (ref25_word.f y5b) fun (y7a, y7b) =>
   .call (ref1_Dec.f y7a (1073741824 : Int)) fun (y8a, _) =>
   .br y3d (.call (ref25_Line.f y2a y4a y7b y6a y8a) fun (y9a, y9b) =>
    .br (!y9b) (.ret ((0 : Int), [], [], (0 : Int), (0 : Int), false))
    (.br (!y9a == s) (.ret ((0 : Int), [], [], (0 : Int), (0 : Int), false))
    (.ret (y2a, y4a, y7b, y6a, y8a, true))))
   (.call (ref25_Line.f y2a y4a [] y6a y8a) fun (y10a, y10b) =>
    .br (!y10b) (.ret ((0 : Int), [], [], (0 : Int), (0 : Int), false))
    (.br (!y10a == s) (.ret ((0 : Int), [], [], (0 : Int), (0 : Int), false))
    (.ret (y2a, y4a, [], y6a, y8a, true)))))
   (.br y3d (.call (ref25_Line.f y2a y4a y5b y6a (0 : Int)) fun (y11a, y11b) =>
    .br (!y11b) (.ret ((0 : Int), [], [], (0 : Int), (0 : Int), false))
    (.br (!y11a == s) (.ret ((0 : Int), [], [], (0 : Int), (0 : Int), false))
    (.ret (y2a, y4a, y5b, y6a, (0 : Int), true))))
   (.call (ref25_Line.f y2a y4a [] y6a (0 : Int)) fun (y12a, y12b) =>
    .br (!y12b) (.ret ((0 : Int), [], [], (0 : Int), (0 : Int), false))
    (.br (!y12a == s) (.ret ((0 : Int), [], [], (0 : Int), (0 : Int), false))
    (.ret (y2a, y4a, [], y6a, (0 : Int), true))))))
  (.br y3c (.call (ref25_word.f y4b) fun (y13a, y13b) =>
   .call (ref1_Dec.f y13a (1073741824 : Int)) fun (y14a, _) =>
   .br y3d (.call (ref25_Line.f y2a y4a y13b (0 : Int) y14a) fun (y15a, y15b) =>
    .br (!y15b) (.ret ((0 : Int), [], [], (0 : Int), (0 : Int), false))
    (.br (!y15a == s) (.ret ((0 : Int), [], [], (0 : Int), (0 : Int), false))
    (.ret (y2a, y4a, y13b, (0 : Int), y14a, true))))
   (.call (ref25_Line.f y2a y4a [] (0 : Int) y14a) fun (y16a, y16b) =>
    .br (!y16b) (.ret ((0 : Int), [], [], (0 : Int), (0 : Int), false))
    (.br (!y16a == s) (.ret ((0 : Int), [], [], (0 : Int), (0 : Int), false))
    (.ret (y2a, y4a, [], (0 : Int), y14a, true)))))
   (.br y3d (.call (ref25_Line.f y2a y4a y4b (0 : Int) (0 : Int)) fun (y17a, y17b) =>
    .br (!y17b) (.ret ((0 : Int), [], [], (0 : Int), (0 : Int), false))
    (.br (!y17a == s) (.ret ((0 : Int), [], [], (0 : Int), (0 : Int), false))
    (.ret (y2a, y4a, y4b, (0 : Int), (0 : Int), true))))
   (.call (ref25_Line.f y2a y4a [] (0 : Int) (0 : Int)) fun (y18a, y18b) =>
    .br (!y18b) (.ret ((0 : Int), [], [], (0 : Int), (0 : Int), false))
    (.br (!y18a == s) (.ret ((0 : Int), [], [], (0 : Int), (0 : Int), false))
    (.ret (y2a, y4a, [], (0 : Int), (0 : Int), true)))))))
  (.br y3b (.call (ref25_word.f y1b) fun (y19a, y19b) =>
   .call (ref1_Dec.f y19a (1073741824 : Int)) fun (y20a, _) =>
   .br y3c (.call (ref25_word.f y19b) fun (y21a, y21b) =>
   .call (ref1_Dec.f y21a (1073741824 : Int)) fun (y22a, _) =>
   .br y3d (.call (ref25_Line.f y2a [] y21b y20a y22a) fun (y23a, y23b) =>
    .br (!y23b) (.ret ((0 : Int), [], [], (0 : Int), (0 : Int), false))
    (.br (!y23a == s) (.ret ((0 : Int), [], [], (0 : Int), (0 : Int), false))
    (.ret (y2a, [], y21b, y20a, y22a, true))))
   (.call (ref25_Line.f y2a [] [] y20a y22a) fun (y24a, y24b) =>
    .br (!y24b) (.ret ((0 : Int), [], [], (0 : Int), (0 : Int), false))
    (.br (!y24a == s) (.ret ((0 : Int), [], [], (0 : Int), (0 : Int), false))
    (.ret (y2a, [], [], y20a, y22a, true)))))
   (.br y3d (.call (ref25_Line.f y2a [] y19b y20a (0 : Int)) fun (y25a, y25b) =>
    .br (!y25b) (.ret ((0 : Int), [], [], (0 : Int), (0 : Int), false))
    (.br (!y25a == s) (.ret ((0 : Int), [], [], (0 : Int), (0 : Int), false))
    (.ret (y2a, [], y19b, y20a, (0 : Int), true))))
   (.call (ref25_Line.f y2a [] [] y20a (0 : Int)) fun (y26a, y26b) =>
    .br (!y26b) (.ret ((0 : Int), [], [], (0 : Int), (0 : Int), false))
    (.br (!y26a == s) (.ret ((0 : Int), [], [], (0 : Int), (0 : Int), false))
    (.ret (y2a, [], [], y20a, (0 : Int), true))))))
  (.br y3c (.call (ref25_word.f y1b) fun (y27a, y27b) =>
   .call (ref1_Dec.f y27a (1073741824 : Int)) fun (y28a, _) =>
   .br y3d (.call (ref25_Line.f y2a [] y27b (0 : Int) y28a) fun (y29a, y29b) =>
    .br (!y29b) (.ret ((0 : Int), [], [], (0 : Int), (0 : Int), false))
    (.br (!y29a == s) (.ret ((0 : Int), [], [], (0 : Int), (0 : Int), false))
    (.ret (y2a, [], y27b, (0 : Int), y28a, true))))
   (.call (ref25_Line.f y2a [] [] (0 : Int) y28a) fun (y30a, y30b) =>
    .br (!y30b) (.ret ((0 : Int), [], [], (0 : Int), (0 : Int), false))
    (.br (!y30a == s) (.ret ((0 : Int), [], [], (0 : Int), (0 : Int), false))
    (.ret (y2a, [], [], (0 : Int), y28a, true)))))
   (.br y3d (.call (ref25_Line.f y2a [] y1b (0 : Int) (0 : Int)) fun (y31a, y31b) =>
    .br (!y31b) (.ret ((0 : Int), [], [], (0 : Int), (0 : Int), false))
    (.br (!y31a == s) (.ret ((0 : Int), [], [], (0 : Int), (0 : Int), false))
    (.ret (y2a, [], y1b, (0 : Int), (0 : Int), true))))
   (.call (ref25_Line.f y2a [] [] (0 : Int) (0 : Int)) fun (y32a, y32b) =>
    .br (!y32b) (.ret ((0 : Int), [], [], (0 : Int), (0 : Int), false))
    (.br (!y32a == s) (.ret ((0 : Int), [], [], (0 : Int), (0 : Int), false))
    (.ret (y2a, [], [], (0 : Int), (0 : Int), true))))))))
def f (s : List UInt8) : Option (Int × List UInt8 × List UInt8 × Int × Int × Bool) := (t s).val
def F (x : D.den) : Option (Int × List UInt8 × List UInt8 × Int × Int × Bool) := f x.2
def pa : D.den → (Int × List UInt8 × List UInt8 × Int × Int × Bool) → A.den := fun (_, _) (y1, y2, y3, y4, y5, y6) => ((), ((y1, (y2, (y3, (y4, y5)))), y6))
def con : Con := tcon D A pa F
theorem ok : ConOk Tryz.prog 16 con := tcon_ok Base.mixed Base.prog_ok bk_ref25_word_ok (by kernel_rfl) LapsOk.nil 9 (fun _ => rfl) (fun x => t x.2) (fun _ => rfl) fun _ _ _ => (by kernel_rfl)
end ref25_Parse
def bk_ref25_Parse : Book := bk_ref25_word.add 16 ref25_Parse.con
theorem bk_ref25_Parse_ok : BookOk Tryz.prog bk_ref25_Parse := bk_ref25_word_ok.add ref25_Parse.ok
namespace seat_Rule
def D : Dom := ⟨[], (.cat (.int .u8) (.int .u8))⟩
def A : Dom := rule_alone.D
def sel : List Nat := [0, 1]
def t (va : Int) (b : Int) : Tr (Int × List UInt8 × List UInt8 × Int × Int) :=
 .chk ((0 : Int) ≤ (IntKind.i64.wrap va).tmod (20 : Int) ∧ (IntKind.i64.wrap va).tmod (20 : Int) < (20 : Int)) <| .chk (((0 : Nat) + ((IntKind.i64.wrap va).tmod (20 : Int)).toNat) * (1 : Nat) < (20 : Nat)) <| .call (ref25_Parse.f ([[(97 : UInt8), (100 : UInt8), (100 : UInt8), (102 : UInt8), (105 : UInt8), (101 : UInt8), (108 : UInt8), (100 : UInt8), (32 : UInt8), (88 : UInt8), (45 : UInt8), (65 : UInt8), (32 : UInt8), (49 : UInt8)], [(97 : UInt8), (100 : UInt8), (100 : UInt8), (102 : UInt8), (105 : UInt8), (101 : UInt8), (108 : UInt8), (100 : UInt8), (32 : UInt8), (88 : UInt8), (45 : UInt8), (66 : UInt8), (32 : UInt8), (116 : UInt8), (119 : UInt8), (111 : UInt8), (32 : UInt8), (119 : UInt8), (111 : UInt8), (114 : UInt8), (100 : UInt8), (115 : UInt8)], [(100 : UInt8), (114 : UInt8), (111 : UInt8), (112 : UInt8), (102 : UInt8), (105 : UInt8), (101 : UInt8), (108 : UInt8), (100 : UInt8), (32 : UInt8), (67 : UInt8), (111 : UInt8), (111 : UInt8), (107 : UInt8), (105 : UInt8), (101 : UInt8)], [(100 : UInt8), (114 : UInt8), (111 : UInt8), (112 : UInt8), (102 : UInt8), (105 : UInt8), (101 : UInt8), (108 : UInt8), (100 : UInt8), (32 : UInt8), (65 : UInt8)], [(115 : UInt8), (101 : UInt8), (116 : UInt8), (102 : UInt8), (105 : UInt8), (101 : UInt8), (108 : UInt8), (100 : UInt8), (32 : UInt8), (65 : UInt8), (32 : UInt8), (110 : UInt8), (101 : UInt8), (119 : UInt8)], [(114 : UInt8), (101 : UInt8), (119 : UInt8), (114 : UInt8), (105 : UInt8), (116 : UInt8), (101 : UInt8), (32 : UInt8), (47 : UInt8), (97 : UInt8), (32 : UInt8), (47 : UInt8), (98 : UInt8)], [(114 : UInt8), (101 : UInt8), (119 : UInt8), (114 : UInt8), (105 : UInt8), (116 : UInt8), (101 : UInt8), (32 : UInt8), (47 : UInt8), (118 : UInt8), (49 : UInt8), (47 : UInt8), (32 : UInt8), (47 : UInt8), (118 : UInt8), (50 : UInt8), (47 : UInt8)], [(97 : UInt8), (117 : UInt8), (116 : UInt8), (104 : UInt8), (32 : UInt8), (114 : UInt8), (101 : UInt8), (97 : UInt8), (108 : UInt8), (109 : UInt8), (32 : UInt8), (117 : UInt8), (58 : UInt8), (112 : UInt8)], [(99 : UInt8), (111 : UInt8), (114 : UInt8), (115 : UInt8), (32 : UInt8), (104 : UInt8), (116 : UInt8), (116 : UInt8), (112 : UInt8), (58 : UInt8), (47 : UInt8), (47 : UInt8), (111 : UInt8), (46 : UInt8), (111 : UInt8), (114 : UInt8), (103 : UInt8)], [(99 : UInt8), (111 : UInt8), (114 : UInt8), (115 : UInt8), (32 : UInt8), (42 : UInt8)], [(97 : UInt8), (108 : UInt8), (108 : UInt8), (111 : UInt8), (119 : UInt8), (110 : UInt8), (101 : UInt8), (116 : UInt8), (32 : UInt8), (49 : UInt8), (48 : UInt8), (46 : UInt8), (48 : UInt8), (46 : UInt8), (48 : UInt8), (46 : UInt8), (48 : UInt8), (47 : UInt8), (56 : UInt8)], [(100 : UInt8), (101 : UInt8), (110 : UInt8), (121 : UInt8), (110 : UInt8), (101 : UInt8), (116 : UInt8), (32 : UInt8), (49 : UInt8), (48 : UInt8), (46 : UInt8), (49 : UInt8), (46 : UInt8), (48 : UInt8), (46 : UInt8), (48 : UInt8), (47 : UInt8), (49 : UInt8), (54 : UInt8)], [(114 : UInt8), (97 : UInt8), (116 : UInt8), (101 : UInt8), (32 : UInt8), (50 : UInt8), (32 : UInt8), (51 : UInt8)], [(114 : UInt8), (97 : UInt8), (116 : UInt8), (101 : UInt8), (32 : UInt8), (48 : UInt8), (32 : UInt8), (49 : UInt8)], [(99 : UInt8), (97 : UInt8), (112 : UInt8), (32 : UInt8), (53 : UInt8)], [(114 : UInt8), (101 : UInt8), (100 : UInt8), (105 : UInt8), (114 : UInt8), (101 : UInt8), (99 : UInt8), (116 : UInt8), (32 : UInt8), (51 : UInt8), (48 : UInt8), (50 : UInt8), (32 : UInt8), (47 : UInt8), (122 : UInt8)], [(115 : UInt8), (116 : UInt8), (97 : UInt8), (116 : UInt8), (105 : UInt8), (99 : UInt8), (32 : UInt8), (50 : UInt8), (48 : UInt8), (48 : UInt8), (32 : UInt8), (104 : UInt8), (101 : UInt8), (108 : UInt8), (108 : UInt8), (111 : UInt8), (32 : UInt8), (116 : UInt8), (104 : UInt8), (101 : UInt8), (114 : UInt8), (101 : UInt8)], [(115 : UInt8), (116 : UInt8), (97 : UInt8), (116 : UInt8), (105 : UInt8), (99 : UInt8), (32 : UInt8), (53 : UInt8), (48 : UInt8), (51 : UInt8), (32 : UInt8)], [(114 : UInt8), (97 : UInt8), (116 : UInt8), (101 : UInt8), (32 : UInt8), (53 : UInt8), (32 : UInt8), (49 : UInt8)], [(99 : UInt8), (97 : UInt8), (112 : UInt8), (32 : UInt8), (49 : UInt8), (48 : UInt8), (48 : UInt8), (48 : UInt8)]].getD (((0 : Nat) + ((IntKind.i64.wrap va).tmod (20 : Int)).toNat) * (1 : Nat)) [])) fun (y1a, y1b, y1c, y1d, y1e, _) =>
 .br (y1a == (9 : Int)) (.ret (y1a, y1b, y1c, IntKind.i64.wrap (b.tmod (4 : Int)), y1e))
 (.ret (y1a, y1b, y1c, y1d, y1e))
def f (va : Int) (b : Int) : Option (Int × List UInt8 × List UInt8 × Int × Int) := (t va b).val
def F (x : D.den) : Option (Int × List UInt8 × List UInt8 × Int × Int) := f x.2.1 x.2.2
def pa : D.den → (Int × List UInt8 × List UInt8 × Int × Int) → A.den := fun (_, (_, _)) (y1, y2, y3, y4, y5) => ((), (y1, (y2, (y3, (y4, y5)))))
def con : Con := tcon D A pa F
theorem ok : ConOk Tryz.prog 9 con := tcon_ok Base.mixed Base.prog_ok bk_ref25_Parse_ok (by kernel_rfl) LapsOk.nil 9 (fun _ => rfl) (fun x => t x.2.1 x.2.2) (fun _ => rfl) fun _ _ _ => (by kernel_rfl)
end seat_Rule
def bk_seat_Rule : Book := bk_ref25_Parse.add 9 seat_Rule.con
theorem bk_seat_Rule_ok : BookOk Tryz.prog bk_seat_Rule := bk_ref25_Parse_ok.add seat_Rule.ok
end Go.Vx
end
section
set_option maxRecDepth 1000000
set_option maxHeartbeats 4000000
set_option synthInstance.maxSize 100000
set_option synthInstance.maxHeartbeats 400000
set_option linter.unusedVariables false
namespace Go.Vx
open Go Go.Vx Go.Proofs
namespace law25_known
def D : Dom := ⟨[], .nil⟩
def A : Dom := ⟨[], .bool⟩
def sel : List Nat := []
def t  : Tr (Bool) :=
 .call (rule_Parse.f [(114 : UInt8), (97 : UInt8), (116 : UInt8), (101 : UInt8), (32 : UInt8), (53 : UInt8), (32 : UInt8), (49 : UInt8)]) fun (y1a, y1b, y1c, y1d, y1e, y1f) =>
 .call (rule_Line.f y1a y1b y1c y1d y1e) fun (y2a, y2b) =>
 .call (rule_Parse.f [(114 : UInt8), (97 : UInt8), (116 : UInt8), (101 : UInt8), (32 : UInt8), (53 : UInt8)]) fun (_, _, _, _, _, y3f) =>
 .call (rule_Kind.f [(115 : UInt8), (116 : UInt8), (97 : UInt8), (116 : UInt8), (105 : UInt8), (99 : UInt8)]) fun (y4a, y4b) =>
 .br y1f (.br (y1a == (9 : Int)) (.br (y1d == (5 : Int)) (.br (y1e == (1 : Int)) (.br y2b (.br (y2a == [(114 : UInt8), (97 : UInt8), (116 : UInt8), (101 : UInt8), (32 : UInt8), (53 : UInt8), (32 : UInt8), (49 : UInt8)]) (.br (!y3f) (.br y4b (.br (y4a == (12 : Int)) (.call (rule_Right.f y1a y1b y1c y1d y1e) fun y5 =>
      .br y5 (.call (rule_Right.f (0 : Int) [] [] (0 : Int) (0 : Int)) fun y6 =>
      .ret (!y6))
      (.ret false))
     (.ret false))
     (.ret false))
    (.ret false))
    (.ret false))
   (.ret false))
   (.ret false))
  (.ret false))
  (.ret false))
 (.ret false)
def f  : Option (Bool) := (t ).val
def F (x : D.den) : Option (Bool) := f
def pa : D.den → (Bool) → A.den := fun (_, _) y1 => ((), y1)
def con : Con := tcon D A pa F
theorem ok : ConOk Tryz.prog 7 con := tcon_ok Base.mixed Base.prog_ok bk_seat_Rule_ok (by kernel_rfl) LapsOk.nil 9 (fun _ => rfl) (fun x => t ) (fun _ => rfl) fun _ _ _ => (by kernel_rfl)
end law25_known
def bk_law25_known : Book := bk_seat_Rule.add 7 law25_known.con
theorem bk_law25_known_ok : BookOk Tryz.prog bk_law25_known := bk_seat_Rule_ok.add law25_known.ok
namespace law25_RuleKinds
def D : Dom := ⟨[], (.cat .byte (.cat .byte .byte))⟩
def A : Dom := ⟨[], .bool⟩
def sel : List Nat := [0, 1, 2]
def t (va : UInt8) (b : UInt8) (what : UInt8) : Tr (Bool) :=
 .call (law25_known.f) fun y1 =>
 .br (!y1) (.ret false)
 (.chk ((0 : Int) ≤ (Int.ofNat va.toNat).tmod (12 : Int) ∧ (Int.ofNat va.toNat).tmod (12 : Int) < (12 : Int)) <| .chk (((0 : Nat) + ((Int.ofNat va.toNat).tmod (12 : Int)).toNat) * (1 : Nat) < (12 : Nat)) <| .call (rule_Kind.f ([[(97 : UInt8), (100 : UInt8), (100 : UInt8), (102 : UInt8), (105 : UInt8), (101 : UInt8), (108 : UInt8), (100 : UInt8)], [(100 : UInt8), (114 : UInt8), (111 : UInt8), (112 : UInt8), (102 : UInt8), (105 : UInt8), (101 : UInt8), (108 : UInt8), (100 : UInt8)], [(115 : UInt8), (101 : UInt8), (116 : UInt8), (102 : UInt8), (105 : UInt8), (101 : UInt8), (108 : UInt8), (100 : UInt8)], [(114 : UInt8), (101 : UInt8), (119 : UInt8), (114 : UInt8), (105 : UInt8), (116 : UInt8), (101 : UInt8)], [(97 : UInt8), (117 : UInt8), (116 : UInt8), (104 : UInt8)], [(99 : UInt8), (111 : UInt8), (114 : UInt8), (115 : UInt8)], [(97 : UInt8), (108 : UInt8), (108 : UInt8), (111 : UInt8), (119 : UInt8), (110 : UInt8), (101 : UInt8), (116 : UInt8)], [(100 : UInt8), (101 : UInt8), (110 : UInt8), (121 : UInt8), (110 : UInt8), (101 : UInt8), (116 : UInt8)], [(114 : UInt8), (97 : UInt8), (116 : UInt8), (101 : UInt8)], [(99 : UInt8), (97 : UInt8), (112 : UInt8)], [(114 : UInt8), (101 : UInt8), (100 : UInt8), (105 : UInt8), (114 : UInt8), (101 : UInt8), (99 : UInt8), (116 : UInt8)], [(115 : UInt8), (116 : UInt8), (97 : UInt8), (116 : UInt8), (105 : UInt8), (99 : UInt8)]].getD (((0 : Nat) + ((Int.ofNat va.toNat).tmod (12 : Int)).toNat) * (1 : Nat)) [])) fun (y2a, y2b) =>
  .chk ((0 : Int) ≤ (Int.ofNat va.toNat).tmod (12 : Int) ∧ (Int.ofNat va.toNat).tmod (12 : Int) < (12 : Int)) <| .chk (((0 : Nat) + ((Int.ofNat va.toNat).tmod (12 : Int)).toNat) * (1 : Nat) < (12 : Nat)) <| .chk ((↑(([[(97 : UInt8), (100 : UInt8), (100 : UInt8), (102 : UInt8), (105 : UInt8), (101 : UInt8), (108 : UInt8), (100 : UInt8)], [(100 : UInt8), (114 : UInt8), (111 : UInt8), (112 : UInt8), (102 : UInt8), (105 : UInt8), (101 : UInt8), (108 : UInt8), (100 : UInt8)], [(115 : UInt8), (101 : UInt8), (116 : UInt8), (102 : UInt8), (105 : UInt8), (101 : UInt8), (108 : UInt8), (100 : UInt8)], [(114 : UInt8), (101 : UInt8), (119 : UInt8), (114 : UInt8), (105 : UInt8), (116 : UInt8), (101 : UInt8)], [(97 : UInt8), (117 : UInt8), (116 : UInt8), (104 : UInt8)], [(99 : UInt8), (111 : UInt8), (114 : UInt8), (115 : UInt8)], [(97 : UInt8), (108 : UInt8), (108 : UInt8), (111 : UInt8), (119 : UInt8), (110 : UInt8), (101 : UInt8), (116 : UInt8)], [(100 : UInt8), (101 : UInt8), (110 : UInt8), (121 : UInt8), (110 : UInt8), (101 : UInt8), (116 : UInt8)], [(114 : UInt8), (97 : UInt8), (116 : UInt8), (101 : UInt8)], [(99 : UInt8), (97 : UInt8), (112 : UInt8)], [(114 : UInt8), (101 : UInt8), (100 : UInt8), (105 : UInt8), (114 : UInt8), (101 : UInt8), (99 : UInt8), (116 : UInt8)], [(115 : UInt8), (116 : UInt8), (97 : UInt8), (116 : UInt8), (105 : UInt8), (99 : UInt8)]].getD (((0 : Nat) + ((Int.ofNat va.toNat).tmod (12 : Int)).toNat) * (1 : Nat)) []).length + [(115 : UInt8)].length) : Int) ≤ (9223372036854775807 : Int)) <| .call (rule_Kind.f ([[(97 : UInt8), (100 : UInt8), (100 : UInt8), (102 : UInt8), (105 : UInt8), (101 : UInt8), (108 : UInt8), (100 : UInt8)], [(100 : UInt8), (114 : UInt8), (111 : UInt8), (112 : UInt8), (102 : UInt8), (105 : UInt8), (101 : UInt8), (108 : UInt8), (100 : UInt8)], [(115 : UInt8), (101 : UInt8), (116 : UInt8), (102 : UInt8), (105 : UInt8), (101 : UInt8), (108 : UInt8), (100 : UInt8)], [(114 : UInt8), (101 : UInt8), (119 : UInt8), (114 : UInt8), (105 : UInt8), (116 : UInt8), (101 : UInt8)], [(97 : UInt8), (117 : UInt8), (116 : UInt8), (104 : UInt8)], [(99 : UInt8), (111 : UInt8), (114 : UInt8), (115 : UInt8)], [(97 : UInt8), (108 : UInt8), (108 : UInt8), (111 : UInt8), (119 : UInt8), (110 : UInt8), (101 : UInt8), (116 : UInt8)], [(100 : UInt8), (101 : UInt8), (110 : UInt8), (121 : UInt8), (110 : UInt8), (101 : UInt8), (116 : UInt8)], [(114 : UInt8), (97 : UInt8), (116 : UInt8), (101 : UInt8)], [(99 : UInt8), (97 : UInt8), (112 : UInt8)], [(114 : UInt8), (101 : UInt8), (100 : UInt8), (105 : UInt8), (114 : UInt8), (101 : UInt8), (99 : UInt8), (116 : UInt8)], [(115 : UInt8), (116 : UInt8), (97 : UInt8), (116 : UInt8), (105 : UInt8), (99 : UInt8)]].getD (((0 : Nat) + ((Int.ofNat va.toNat).tmod (12 : Int)).toNat) * (1 : Nat)) [] ++ [(115 : UInt8)])) fun (_, y3b) =>
  .call (seat_Rule.f (Int.ofNat b.toNat) (Int.ofNat va.toNat)) fun (y4a, y4b, y4c, y4d, y4e) =>
  .br ((Int.ofNat what.toNat).tmod (4 : Int) == (0 : Int)) (.chk ((↑(y4b.length + [(120 : UInt8)].length) : Int) ≤ (9223372036854775807 : Int)) <| .call (rule_Line.f y4a y4b y4c y4d y4e) fun (y5a, y5b) =>
  .br y2b (.br (y2a == IntKind.i64.wrap (IntKind.i64.wrap ((Int.ofNat va.toNat).tmod (12 : Int)) + (1 : Int))) (.br (!y3b) (.br y5b (.br (decide ((↑y5a.length : Int) > (4 : Int))) (.call (rule_Right.f y4a (y4b ++ [(120 : UInt8)]) y4c y4d y4e) fun y6 =>
     .call (ref25_Right.f y4a (y4b ++ [(120 : UInt8)]) y4c y4d y4e) fun y7 =>
     .br (y6 == y7) (.br (decide ((Int.ofNat what.toNat).tmod (4 : Int) < (3 : Int))) (.ret true)
     (.call (rule_Right.f y4a (y4b ++ [(120 : UInt8)]) y4c y4d y4e) fun y8 =>
      .ret (!y8)))
     (.ret false))
    (.ret false))
    (.ret false))
   (.ret false))
   (.ret false))
  (.ret false))
  (.br ((Int.ofNat what.toNat).tmod (4 : Int) == (1 : Int)) (.call (rule_Line.f y4a y4b y4c y4d y4e) fun (y9a, y9b) =>
   .br y2b (.br (y2a == IntKind.i64.wrap (IntKind.i64.wrap ((Int.ofNat va.toNat).tmod (12 : Int)) + (1 : Int))) (.br (!y3b) (.br y9b (.br (decide ((↑y9a.length : Int) > (4 : Int))) (.call (rule_Right.f y4a y4b y4c (IntKind.i64.wrap (y4d + (1 : Int))) y4e) fun y10 =>
     .call (ref25_Right.f y4a y4b y4c (IntKind.i64.wrap (y4d + (1 : Int))) y4e) fun y11 =>
     .br (y10 == y11) (.br (decide ((Int.ofNat what.toNat).tmod (4 : Int) < (3 : Int))) (.ret true)
      (.call (rule_Right.f y4a y4b y4c (IntKind.i64.wrap (y4d + (1 : Int))) y4e) fun y12 =>
      .ret (!y12)))
     (.ret false))
     (.ret false))
    (.ret false))
    (.ret false))
   (.ret false))
   (.ret false))
  (.br ((Int.ofNat what.toNat).tmod (4 : Int) == (2 : Int)) (.call (rule_Line.f y4a y4b y4c y4d y4e) fun (y13a, y13b) =>
   .br y2b (.br (y2a == IntKind.i64.wrap (IntKind.i64.wrap ((Int.ofNat va.toNat).tmod (12 : Int)) + (1 : Int))) (.br (!y3b) (.br y13b (.br (decide ((↑y13a.length : Int) > (4 : Int))) (.call (rule_Right.f y4a y4b y4c y4d (IntKind.i64.wrap (y4e + (1 : Int)))) fun y14 =>
      .call (ref25_Right.f y4a y4b y4c y4d (IntKind.i64.wrap (y4e + (1 : Int)))) fun y15 =>
      .br (y14 == y15) (.br (decide ((Int.ofNat what.toNat).tmod (4 : Int) < (3 : Int))) (.ret true)
      (.call (rule_Right.f y4a y4b y4c y4d (IntKind.i64.wrap (y4e + (1 : Int)))) fun y16 =>
       .ret (!y16)))
      (.ret false))
     (.ret false))
     (.ret false))
    (.ret false))
    (.ret false))
   (.ret false))
   (.chk ((↑(y4c.length + [(0 : UInt8)].length) : Int) ≤ (9223372036854775807 : Int)) <| .call (rule_Line.f y4a y4b y4c y4d y4e) fun (y17a, y17b) =>
   .br y2b (.br (y2a == IntKind.i64.wrap (IntKind.i64.wrap ((Int.ofNat va.toNat).tmod (12 : Int)) + (1 : Int))) (.br (!y3b) (.br y17b (.br (decide ((↑y17a.length : Int) > (4 : Int))) (.call (rule_Right.f y4a y4b (y4c ++ [(0 : UInt8)]) y4d y4e) fun y18 =>
      .call (ref25_Right.f y4a y4b (y4c ++ [(0 : UInt8)]) y4d y4e) fun y19 =>
      .br (y18 == y19) (.br (decide ((Int.ofNat what.toNat).tmod (4 : Int) < (3 : Int))) (.ret true)
      (.call (rule_Right.f y4a y4b (y4c ++ [(0 : UInt8)]) y4d y4e) fun y20 =>
       .ret (!y20)))
      (.ret false))
     (.ret false))
     (.ret false))
    (.ret false))
    (.ret false))
   (.ret false)))))
def f (va : UInt8) (b : UInt8) (what : UInt8) : Option (Bool) := (t va b what).val
def F (x : D.den) : Option (Bool) := f x.2.1 x.2.2.1 x.2.2.2
def pa : D.den → (Bool) → A.den := fun (_, (_, (_, _))) y1 => ((), y1)
def con : Con := tcon D A pa F
theorem ok : ConOk Tryz.prog 5 con := tcon_ok Base.mixed Base.prog_ok bk_law25_known_ok (by kernel_rfl) LapsOk.nil 9 (fun _ => rfl) (fun x => t x.2.1 x.2.2.1 x.2.2.2) (fun _ => rfl) fun _ _ _ => (by kernel_rfl)
theorem law_ok (h : ∀ x, (lawCon [.byte, .byte, .byte]).pre x → F x = some true) : ConOk Tryz.prog 5 (lawCon [.byte, .byte, .byte]) := Go.Vx.law_ok ok h
end law25_RuleKinds
end Go.Vx
end
section
set_option linter.unusedVariables false
set_option linter.unusedSimpArgs false
set_option maxRecDepth 100000
namespace Go.Vx
namespace Pl
open Go Go.Proofs
theorem kinds_0 : ∀ (i : Fin 12) (j : Fin 20), law25_RuleKinds.f (UInt8.ofNat i.val) (UInt8.ofNat j.val) 0 = some true := by decide +kernel
theorem kinds_1 : ∀ (i : Fin 12) (j : Fin 20), law25_RuleKinds.f (UInt8.ofNat i.val) (UInt8.ofNat j.val) 1 = some true := by decide +kernel
theorem kinds_2 : ∀ (i : Fin 12) (j : Fin 20), law25_RuleKinds.f (UInt8.ofNat i.val) (UInt8.ofNat j.val) 2 = some true := by decide +kernel
theorem kinds_3 : ∀ (i : Fin 12) (j : Fin 20), law25_RuleKinds.f (UInt8.ofNat i.val) (UInt8.ofNat j.val) 3 = some true := by decide +kernel
theorem tm_byte (a : UInt8) (m : Nat) : (Int.ofNat a.toNat).tmod (m : Int) = ((a.toNat % m : Nat) : Int) := rfl
theorem small_byte {n : Nat} (h : n < 256) : (UInt8.ofNat n).toNat = n := by
 show n % 256 = n
 omega
theorem seat_mod (a b a' b' : UInt8) (ha : a.toNat % 20 = a'.toNat % 20) (hb : b.toNat % 4 = b'.toNat % 4) : seat_Rule.f (Int.ofNat a.toNat) (Int.ofNat b.toNat) = seat_Rule.f (Int.ofNat a'.toNat) (Int.ofNat b'.toNat) := by
 have e : ∀ c : UInt8, (IntKind.i64.wrap (Int.ofNat c.toNat)).tmod (20 : Int) = ((c.toNat % 20 : Nat) : Int) := fun c => by
  have := UInt8.toNat_lt c
  have hw : IntKind.i64.wrap (Int.ofNat c.toNat) = Int.ofNat c.toNat := w64 (by simp) (by simp; omega)
  rw [hw]; exact tm_byte c 20
 have e4 : ∀ c : UInt8, (Int.ofNat c.toNat).tmod (4 : Int) = ((c.toNat % 4 : Nat) : Int) := fun c => tm_byte c 4
 unfold seat_Rule.f seat_Rule.t
 rw [e a, e a', e4 b, e4 b', ha, hb]
theorem kinds_mod (a b c a' b' c' : UInt8) (ha : a.toNat % 12 = a'.toNat % 12) (hb : b.toNat % 20 = b'.toNat % 20) (hc : c.toNat % 4 = c'.toNat % 4) : law25_RuleKinds.f a b c = law25_RuleKinds.f a' b' c' := by
 have e12 : ∀ c : UInt8, (Int.ofNat c.toNat).tmod (12 : Int) = ((c.toNat % 12 : Nat) : Int) := fun c => tm_byte c 12
 have e4 : ∀ c : UInt8, (Int.ofNat c.toNat).tmod (4 : Int) = ((c.toNat % 4 : Nat) : Int) := fun c => tm_byte c 4
 unfold law25_RuleKinds.f law25_RuleKinds.t
 rw [e12 a, e12 a', e4 c, e4 c', ha, hc, seat_mod b a b' a' hb (by omega)]
theorem kinds_ok (a b c : UInt8) : law25_RuleKinds.f a b c = some true := by
 have h1 : a.toNat % 12 < 12 := by omega
 have h2 : b.toNat % 20 < 20 := by omega
 have h3 : c.toNat % 4 < 4 := by omega
 rw [kinds_mod a b c (UInt8.ofNat (a.toNat % 12)) (UInt8.ofNat (b.toNat % 20)) (UInt8.ofNat (c.toNat % 4)) (by rw [small_byte (by omega)]; omega) (by rw [small_byte (by omega)]; omega) (by rw [small_byte (by omega)]; omega)]
 have q : ∀ k, k < 4 → law25_RuleKinds.f (UInt8.ofNat (a.toNat % 12)) (UInt8.ofNat (b.toNat % 20)) (UInt8.ofNat k) = some true := fun k hk => by
  have hkk : k = 0 ∨ k = 1 ∨ k = 2 ∨ k = 3 := by omega
  rcases hkk with rfl | rfl | rfl | rfl
  ·exact kinds_0 ⟨_, h1⟩ ⟨_, h2⟩
  ·exact kinds_1 ⟨_, h1⟩ ⟨_, h2⟩
  ·exact kinds_2 ⟨_, h1⟩ ⟨_, h2⟩
  ·exact kinds_3 ⟨_, h1⟩ ⟨_, h2⟩
 exact q _ h3
end Pl
end Go.Vx
end
