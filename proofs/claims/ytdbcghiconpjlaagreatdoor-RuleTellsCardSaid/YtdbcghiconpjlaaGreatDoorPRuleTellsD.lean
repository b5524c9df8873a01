/- Printed by a program of ours out of our texts: the evaluator, the printed functions, the plain laws. (A help: no statement of the seat is proved here.) -/
import Derived.Test.YtdbcghiconpjlaaGreatDoorPRuleTellsC
import Derived.Lib.Bytealg
import Derived.Lib.ItoaNum
import Derived.Lib.Join
import Derived.Lib.FieldsP
section
set_option maxRecDepth 1000000
set_option maxHeartbeats 4000000
set_option synthInstance.maxSize 100000
set_option synthInstance.maxHeartbeats 400000
set_option linter.unusedVariables false
namespace Go.Vx
open Go Go.Vx Go.Proofs
namespace ref25_uses
def D : Dom := ⟨[], (.int .i64)⟩
def A : Dom := ⟨[], (.tup (.cat .bool (.cat .bool (.cat .bool .bool))))⟩
def sel : List Nat := [0]
def t (kind : Int) : Tr (Bool × Bool × Bool × Bool) :=
 .br (kind == (1 : Int)) (.ret (true, false, false, true))
 (.br (kind == (3 : Int)) (.ret (true, false, false, true))
  (.br (kind == (4 : Int)) (.ret (true, false, false, true))
  (.br (kind == (5 : Int)) (.ret (true, false, false, true))
   (.br (kind == (2 : Int)) (.ret (true, false, false, false))
   (.br (kind == (6 : Int)) (.ret (false, false, false, true))
    (.br (kind == (7 : Int)) (.ret (false, false, false, true))
    (.br (kind == (8 : Int)) (.ret (false, false, false, true))
     (.br (kind == (9 : Int)) (.ret (false, true, true, false))
     (.br (kind == (10 : Int)) (.ret (false, true, false, false))
      (.br (kind == (11 : Int)) (.ret (false, true, false, true))
      (.br (kind == (12 : Int)) (.ret (false, true, false, true))
       (.ret (false, false, false, false)))))))))))))
def f (kind : Int) : Option (Bool × Bool × Bool × Bool) := (t kind).val
def F (x : D.den) : Option (Bool × Bool × Bool × Bool) := f x.2
def pa : D.den → (Bool × Bool × Bool × Bool) → A.den := fun (_, _) (y1, y2, y3, y4) => ((), (y1, (y2, (y3, y4))))
def con : Con := tcon D A pa F
theorem ok : ConOk Tryz.prog 23 con := tcon_ok Base.mixed Base.prog_ok bk_ref25_Kind_ok (by kernel_rfl) LapsOk.nil 9 (fun _ => rfl) (fun x => t x.2) (fun _ => rfl) fun _ _ _ => (by kernel_rfl)
end ref25_uses
def bk_ref25_uses : Book := bk_ref25_Kind.add 23 ref25_uses.con
theorem bk_ref25_uses_ok : BookOk Tryz.prog bk_ref25_uses := bk_ref25_Kind_ok.add ref25_uses.ok
namespace ref1_Digit
def D : Dom := ⟨[], (.int .u8)⟩
def A : Dom := ⟨[], .bool⟩
def sel : List Nat := [0]
def t (c : Int) : Tr (Bool) :=
 .br (decide (c ≥ (48 : Int))) (.ret (decide (c ≤ (57 : Int))))
 (.ret false)
def f (c : Int) : Option (Bool) := (t c).val
def F (x : D.den) : Option (Bool) := f x.2
def pa : D.den → (Bool) → A.den := fun (_, _) y1 => ((), y1)
def con : Con := tcon D A pa F
theorem ok : ConOk Tryz.prog 73 con := tcon_ok Base.mixed Base.prog_ok bk_ref25_uses_ok (by kernel_rfl) LapsOk.nil 9 (fun _ => rfl) (fun x => t x.2) (fun _ => rfl) fun _ _ _ => (by kernel_rfl)
end ref1_Digit
def bk_ref1_Digit : Book := bk_ref25_uses.add 73 ref1_Digit.con
theorem bk_ref1_Digit_ok : BookOk Tryz.prog bk_ref1_Digit := bk_ref25_uses_ok.add ref1_Digit.ok
namespace ref1_Hex
def D : Dom := ⟨[], (.int .u8)⟩
def A : Dom := ⟨[], (.tup (.cat (.int .i64) .bool))⟩
def sel : List Nat := [0]
def t (c : Int) : Tr (Int × Bool) :=
 .call (ref1_Digit.f c) fun y1 =>
 .br y1 (.ret (IntKind.i64.wrap (IntKind.u8.wrap (c - (48 : Int))), true))
 (.br (decide (c ≥ (97 : Int))) (.br (decide (c ≤ (102 : Int))) (.ret (IntKind.i64.wrap (IntKind.i64.wrap (IntKind.u8.wrap (c - (97 : Int))) + (10 : Int)), true))
  (.br (decide (c ≥ (65 : Int))) (.br (decide (c ≤ (70 : Int))) (.ret (IntKind.i64.wrap (IntKind.i64.wrap (IntKind.u8.wrap (c - (65 : Int))) + (10 : Int)), true))
   (.ret ((0 : Int), false)))
   (.ret ((0 : Int), false))))
  (.br (decide (c ≥ (65 : Int))) (.br (decide (c ≤ (70 : Int))) (.ret (IntKind.i64.wrap (IntKind.i64.wrap (IntKind.u8.wrap (c - (65 : Int))) + (10 : Int)), true))
   (.ret ((0 : Int), false)))
  (.ret ((0 : Int), false))))
def f (c : Int) : Option (Int × Bool) := (t c).val
def F (x : D.den) : Option (Int × Bool) := f x.2
def pa : D.den → (Int × Bool) → A.den := fun (_, _) (y1, y2) => ((), (y1, y2))
def con : Con := tcon D A pa F
theorem ok : ConOk Tryz.prog 103 con := tcon_ok Base.mixed Base.prog_ok bk_ref1_Digit_ok (by kernel_rfl) LapsOk.nil 9 (fun _ => rfl) (fun x => t x.2) (fun _ => rfl) fun _ _ _ => (by kernel_rfl)
end ref1_Hex
def bk_ref1_Hex : Book := bk_ref1_Digit.add 103 ref1_Hex.con
theorem bk_ref1_Hex_ok : BookOk Tryz.prog bk_ref1_Hex := bk_ref1_Digit_ok.add ref1_Hex.ok
namespace ref1_Letter
def D : Dom := ⟨[], (.int .u8)⟩
def A : Dom := ⟨[], .bool⟩
def sel : List Nat := [0]
def t (c : Int) : Tr (Bool) :=
 .br (decide (c ≥ (97 : Int))) (.br (decide (c ≤ (122 : Int))) (.ret true)
  (.br (decide (c ≥ (65 : Int))) (.ret (decide (c ≤ (90 : Int))))
  (.ret false)))
 (.br (decide (c ≥ (65 : Int))) (.ret (decide (c ≤ (90 : Int))))
  (.ret false))
def f (c : Int) : Option (Bool) := (t c).val
def F (x : D.den) : Option (Bool) := f x.2
def pa : D.den → (Bool) → A.den := fun (_, _) y1 => ((), y1)
def con : Con := tcon D A pa F
theorem ok : ConOk Tryz.prog 72 con := tcon_ok Base.mixed Base.prog_ok bk_ref1_Hex_ok (by kernel_rfl) LapsOk.nil 9 (fun _ => rfl) (fun x => t x.2) (fun _ => rfl) fun _ _ _ => (by kernel_rfl)
end ref1_Letter
def bk_ref1_Letter : Book := bk_ref1_Hex.add 72 ref1_Letter.con
theorem bk_ref1_Letter_ok : BookOk Tryz.prog bk_ref1_Letter := bk_ref1_Hex_ok.add ref1_Letter.ok
namespace ref1_in
def D : Dom := ⟨[], (.cat (.int .u8) .str)⟩
namespace L2
def D : Dom := ⟨[], (.cat (.int .u8) (.cat .str (.int .i64)))⟩
def A : Dom := ⟨[], .nil⟩
def B : Dom := ⟨[], .bool⟩
def sel : List Nat := [0, 1, 2]
def t (c : Int) (s : List UInt8) (i : Int) : Tr ((Int) ⊕ ((Unit) ⊕ (Bool))) :=
 .br (decide (i < (↑s.length : Int))) (.chk ((0 : Int) ≤ i ∧ i < (↑s.length : Int)) <| .br ((↑(s.getD i.toNat (0 : UInt8)).toNat : Int) == c) (.ret (.inr (.inr true)))
  (.ret (.inl (IntKind.i64.wrap (i + (1 : Int))))))
 (.ret (.inr (.inl ())))
def f (c : Int) (s : List UInt8) (i : Int) : Option ((Unit) ⊕ (Bool)) := Loop (fun z : Int => t c s z) i
def F (x : D.den) : Option ((Unit) ⊕ (Bool)) := f x.2.1 x.2.2.1 x.2.2.2
def pa : D.den → (Unit) → A.den := fun (_, (_, (_, _))) _ => ((), ())
def pb : D.den → (Bool) → B.den := fun (_, (_, (_, _))) y1 => ((), y1)
def lap : Lap := tlap2 2 17 [0, 1, 5] D (.exit 0) [] A .ret [4] B pa pb F
def pk (x : D.den) (z : Int) : D.den := ((), (x.2.1, (x.2.2.1, z)))
def un (x : D.den) : Int := x.2.2.2
def body (x : D.den) (z : Int) : Tr ((Int) ⊕ ((Unit) ⊕ (Bool))) := t x.2.1 x.2.2.1 z
theorem ok : LapOk Tryz.prog 0 (codeOf Tryz.prog 124) lap := tlap2_ok Base.mixed Base.prog_ok bk_ref1_Letter_ok (by kernel_rfl) (by kernel_rfl) LapsOk.nil 9 pk un body (fun _ _ => rfl) (fun _ _ => rfl) (fun _ _ => rfl) (fun _ _ => rfl) (fun _ => rfl) fun _ _ _ _ => (by kernel_rfl)
end L2
def A : Dom := ⟨[], .bool⟩
def sel : List Nat := [0, 1]
def t (c : Int) (s : List UInt8) : Tr (Bool) :=
 .both (ref1_in.L2.f c s (0 : Int)) (fun _ => .ret false)
 (fun y2 => .ret y2)
def f (c : Int) (s : List UInt8) : Option (Bool) := (t c s).val
def F (x : D.den) : Option (Bool) := f x.2.1 x.2.2
def pa : D.den → (Bool) → A.den := fun (_, (_, _)) y1 => ((), y1)
def con : Con := tcon D A pa F
theorem ok : ConOk Tryz.prog 124 con := tcon_ok Base.mixed Base.prog_ok bk_ref1_Letter_ok (by kernel_rfl) (.cons L2.ok (by kernel_rfl) (.nil)) 9 (fun _ => rfl) (fun x => t x.2.1 x.2.2) (fun _ => rfl) fun _ _ _ => (by kernel_rfl)
end ref1_in
def bk_ref1_in : Book := bk_ref1_Letter.add 124 ref1_in.con
theorem bk_ref1_in_ok : BookOk Tryz.prog bk_ref1_in := bk_ref1_Letter_ok.add ref1_in.ok
namespace ref1_Token
def D : Dom := ⟨[], (.int .u8)⟩
def A : Dom := ⟨[], .bool⟩
def sel : List Nat := [0]
def t (c : Int) : Tr (Bool) :=
 .call (ref1_Letter.f c) fun y1 =>
 .br y1 (.ret true)
 (.call (ref1_Digit.f c) fun y2 =>
  .br y2 (.ret true)
  (.call (ref1_in.f c [(33 : UInt8), (35 : UInt8), (36 : UInt8), (37 : UInt8), (38 : UInt8), (39 : UInt8), (42 : UInt8), (43 : UInt8), (45 : UInt8), (46 : UInt8), (94 : UInt8), (95 : UInt8), (96 : UInt8), (124 : UInt8), (126 : UInt8)]) fun y3 =>
  .ret y3))
def f (c : Int) : Option (Bool) := (t c).val
def F (x : D.den) : Option (Bool) := f x.2
def pa : D.den → (Bool) → A.den := fun (_, _) y1 => ((), y1)
def con : Con := tcon D A pa F
theorem ok : ConOk Tryz.prog 104 con := tcon_ok Base.mixed Base.prog_ok bk_ref1_in_ok (by kernel_rfl) LapsOk.nil 9 (fun _ => rfl) (fun x => t x.2) (fun _ => rfl) fun _ _ _ => (by kernel_rfl)
end ref1_Token
def bk_ref1_Token : Book := bk_ref1_in.add 104 ref1_Token.con
theorem bk_ref1_Token_ok : BookOk Tryz.prog bk_ref1_Token := bk_ref1_in_ok.add ref1_Token.ok
namespace ref1_Visible
def D : Dom := ⟨[], (.int .u8)⟩
def A : Dom := ⟨[], .bool⟩
def sel : List Nat := [0]
def t (c : Int) : Tr (Bool) :=
 .br (decide (c ≥ (33 : Int))) (.ret (decide (c ≤ (126 : Int))))
 (.ret false)
def f (c : Int) : Option (Bool) := (t c).val
def F (x : D.den) : Option (Bool) := f x.2
def pa : D.den → (Bool) → A.den := fun (_, _) y1 => ((), y1)
def con : Con := tcon D A pa F
theorem ok : ConOk Tryz.prog 105 con := tcon_ok Base.mixed Base.prog_ok bk_ref1_Token_ok (by kernel_rfl) LapsOk.nil 9 (fun _ => rfl) (fun x => t x.2) (fun _ => rfl) fun _ _ _ => (by kernel_rfl)
end ref1_Visible
def bk_ref1_Visible : Book := bk_ref1_Token.add 105 ref1_Visible.con
theorem bk_ref1_Visible_ok : BookOk Tryz.prog bk_ref1_Visible := bk_ref1_Token_ok.add ref1_Visible.ok
namespace ref1_Blank
def D : Dom := ⟨[], (.int .u8)⟩
def A : Dom := ⟨[], .bool⟩
def sel : List Nat := [0]
def t (c : Int) : Tr (Bool) :=
 .br (c == (32 : Int)) (.ret true)
 (.ret (c == (9 : Int)))
def f (c : Int) : Option (Bool) := (t c).val
def F (x : D.den) : Option (Bool) := f x.2
def pa : D.den → (Bool) → A.den := fun (_, _) y1 => ((), y1)
def con : Con := tcon D A pa F
theorem ok : ConOk Tryz.prog 106 con := tcon_ok Base.mixed Base.prog_ok bk_ref1_Visible_ok (by kernel_rfl) LapsOk.nil 9 (fun _ => rfl) (fun x => t x.2) (fun _ => rfl) fun _ _ _ => (by kernel_rfl)
end ref1_Blank
def bk_ref1_Blank : Book := bk_ref1_Visible.add 106 ref1_Blank.con
theorem bk_ref1_Blank_ok : BookOk Tryz.prog bk_ref1_Blank := bk_ref1_Visible_ok.add ref1_Blank.ok
namespace ref1_Text
def D : Dom := ⟨[], (.int .u8)⟩
def A : Dom := ⟨[], .bool⟩
def sel : List Nat := [0]
def t (c : Int) : Tr (Bool) :=
 .call (ref1_Visible.f c) fun y1 =>
 .br y1 (.ret true)
 (.call (ref1_Blank.f c) fun y2 =>
  .br y2 (.ret true)
  (.ret (decide (c ≥ (128 : Int)))))
def f (c : Int) : Option (Bool) := (t c).val
def F (x : D.den) : Option (Bool) := f x.2
def pa : D.den → (Bool) → A.den := fun (_, _) y1 => ((), y1)
def con : Con := tcon D A pa F
theorem ok : ConOk Tryz.prog 107 con := tcon_ok Base.mixed Base.prog_ok bk_ref1_Blank_ok (by kernel_rfl) LapsOk.nil 9 (fun _ => rfl) (fun x => t x.2) (fun _ => rfl) fun _ _ _ => (by kernel_rfl)
end ref1_Text
def bk_ref1_Text : Book := bk_ref1_Blank.add 107 ref1_Text.con
theorem bk_ref1_Text_ok : BookOk Tryz.prog bk_ref1_Text := bk_ref1_Blank_ok.add ref1_Text.ok
namespace ref1_is
def D : Dom := ⟨[], (.cat (.int .u8) (.int .i64))⟩
def A : Dom := ⟨[], .bool⟩
def sel : List Nat := [0, 1]
def t (c : Int) (kind : Int) : Tr (Bool) :=
 .call (ref1_Hex.f c) fun (_, y1b) =>
 .br (kind == (1 : Int)) (.call (ref1_Token.f c) fun y2 =>
  .ret y2)
 (.br (kind == (2 : Int)) (.call (ref1_Visible.f c) fun y3 =>
  .ret y3)
  (.br (kind == (3 : Int)) (.call (ref1_Blank.f c) fun y4 =>
   .ret y4)
  (.br (kind == (4 : Int)) (.call (ref1_Digit.f c) fun y5 =>
   .ret y5)
   (.br (kind == (5 : Int)) (.ret y1b)
   (.br (kind == (6 : Int)) (.call (ref1_Text.f c) fun y6 =>
    .ret y6)
    (.ret false))))))
def f (c : Int) (kind : Int) : Option (Bool) := (t c kind).val
def F (x : D.den) : Option (Bool) := f x.2.1 x.2.2
def pa : D.den → (Bool) → A.den := fun (_, (_, _)) y1 => ((), y1)
def con : Con := tcon D A pa F
theorem ok : ConOk Tryz.prog 74 con := tcon_ok Base.mixed Base.prog_ok bk_ref1_Text_ok (by kernel_rfl) LapsOk.nil 9 (fun _ => rfl) (fun x => t x.2.1 x.2.2) (fun _ => rfl) fun _ _ _ => (by kernel_rfl)
end ref1_is
def bk_ref1_is : Book := bk_ref1_Text.add 74 ref1_is.con
theorem bk_ref1_is_ok : BookOk Tryz.prog bk_ref1_is := bk_ref1_Text_ok.add ref1_is.ok
namespace ref1_All
def D : Dom := ⟨[.vec (.int .i64) 3 true], (.cat .str (.sl 0 1))⟩
namespace L6
def D : Dom := ⟨[.vec (.int .i64) 3 true], (.cat .str (.cat (.sl 0 1) (.cat (.int .i64) (.cat .bool (.int .i64)))))⟩
def A : Dom := ⟨[.vec (.int .i64) 3 true], (.cat .str (.cat (.sl 0 1) (.cat (.int .i64) .bool)))⟩
def sel : List Nat := [0, 1, 2, 3, 4]
def t (kinds : List Int) (s : List UInt8) (i : Int) (ok : Bool) (k : Int) : Tr ((Bool × Int) ⊕ (Bool)) :=
 .br (decide (k < (↑kinds.length : Int))) (.br ok (.okl kinds.length <| .ret (.inl (true, IntKind.i64.wrap (k + (1 : Int)))))
  (.chk ((0 : Int) ≤ i ∧ i < (↑s.length : Int)) <| .chk ((0 : Int) ≤ k ∧ k < (↑kinds.length : Int)) <| .chk ((0 : Nat) + k.toNat < kinds.length) <| .call (ref1_is.f (↑(s.getD i.toNat (0 : UInt8)).toNat : Int) (kinds.getD ((0 : Nat) + k.toNat) (0 : Int))) fun y1 =>
  .okl kinds.length <| .ret (.inl (y1, IntKind.i64.wrap (k + (1 : Int))))))
 (.okl kinds.length <| .ret (.inr ok))
def f (kinds : List Int) (s : List UInt8) (i : Int) (ok : Bool) (k : Int) : Option (Bool) := Loop (fun z : Bool × Int => t kinds s i z.1 z.2) (ok, k)
def F (x : D.den) : Option (Bool) := f x.1.1 x.2.1 x.2.2.2.1 x.2.2.2.2.1 x.2.2.2.2.2
def pa : D.den → (Bool) → A.den := fun ((kinds, _), (s, (_, (i, (_, _))))) y1 => ((kinds, ()), (s, ((), (i, y1))))
def lap : Lap := tlap 6 33 [0, 1, 5, 6, 7] D (.exit 2) [0, 1, 5, 6] A pa F
def pk (x : D.den) (z : Bool × Int) : D.den := ((x.1.1, ()), (x.2.1, ((), (x.2.2.2.1, (z.1, z.2)))))
def un (x : D.den) : Bool × Int := (x.2.2.2.2.1, x.2.2.2.2.2)
def body (x : D.den) (z : Bool × Int) : Tr ((Bool × Int) ⊕ (Bool)) := t x.1.1 x.2.1 x.2.2.2.1 z.1 z.2
theorem ok : LapOk Tryz.prog 1 (codeOf Tryz.prog 40) lap := tlap_ok Base.mixed Base.prog_ok bk_ref1_is_ok (by kernel_rfl) (by kernel_rfl) LapsOk.nil 9 pk un body (fun _ _ => rfl) (fun _ _ => rfl) (fun _ _ => rfl) (fun _ => rfl) fun _ _ _ _ => (by kernel_rfl)
end L6
namespace L2
def D : Dom := ⟨[.vec (.int .i64) 3 true], (.cat .str (.cat (.sl 0 1) (.int .i64)))⟩
def A : Dom := ⟨[.vec (.int .i64) 3 true], .nil⟩
def B : Dom := ⟨[.vec (.int .i64) 3 true], .bool⟩
def sel : List Nat := [0, 1, 2]
def t (kinds : List Int) (s : List UInt8) (i : Int) : Tr ((Int) ⊕ ((Unit) ⊕ (Bool))) :=
 .br (decide (i < (↑s.length : Int))) (.okl kinds.length <| .call (ref1_All.L6.f kinds s i false (0 : Int)) fun y1 =>
  .br (!y1) (.ret (.inr (.inr false)))
  (.okl kinds.length <| .ret (.inl (IntKind.i64.wrap (i + (1 : Int))))))
 (.ret (.inr (.inl ())))
def f (kinds : List Int) (s : List UInt8) (i : Int) : Option ((Unit) ⊕ (Bool)) := Loop (fun z : Int => t kinds s z) i
def F (x : D.den) : Option ((Unit) ⊕ (Bool)) := f x.1.1 x.2.1 x.2.2.2
def pa : D.den → (Unit) → A.den := fun ((kinds, _), (_, (_, _))) _ => ((kinds, ()), ())
def pb : D.den → (Bool) → B.den := fun ((kinds, _), (_, (_, _))) y1 => ((kinds, ()), y1)
def lap : Lap := tlap2 2 33 [0, 1, 5] D (.exit 0) [] A .ret [4] B pa pb F
def pk (x : D.den) (z : Int) : D.den := ((x.1.1, ()), (x.2.1, ((), z)))
def un (x : D.den) : Int := x.2.2.2
def body (x : D.den) (z : Int) : Tr ((Int) ⊕ ((Unit) ⊕ (Bool))) := t x.1.1 x.2.1 z
theorem ok : LapOk Tryz.prog 1 (codeOf Tryz.prog 40) lap := tlap2_ok Base.mixed Base.prog_ok bk_ref1_is_ok (by kernel_rfl) (by kernel_rfl) (.cons L6.ok (by kernel_rfl) (.nil)) 9 pk un body (fun _ _ => rfl) (fun _ _ => rfl) (fun _ _ => rfl) (fun _ _ => rfl) (fun _ => rfl) fun _ _ _ _ => (by kernel_rfl)
end L2
def A : Dom := ⟨[.vec (.int .i64) 3 true], .bool⟩
def sel : List Nat := [0, 1]
def t (kinds : List Int) (s : List UInt8) : Tr (Bool) :=
 .okl kinds.length <| .both (ref1_All.L2.f kinds s (0 : Int)) (fun _ => .ret true)
 (fun y2 => .ret y2)
def f (kinds : List Int) (s : List UInt8) : Option (Bool) := (t kinds s).val
def F (x : D.den) : Option (Bool) := f x.1.1 x.2.1
def pa : D.den → (Bool) → A.den := fun ((kinds, _), (_, _)) y1 => ((kinds, ()), y1)
def con : Con := tcon D A pa F
theorem ok : ConOk Tryz.prog 40 con := tcon_ok Base.mixed Base.prog_ok bk_ref1_is_ok (by kernel_rfl) (.cons L6.ok (by kernel_rfl) (.cons L2.ok (by kernel_rfl) (.nil))) 9 (fun _ => rfl) (fun x => t x.1.1 x.2.1) (fun _ => rfl) fun _ _ _ => (by kernel_rfl)
end ref1_All
def bk_ref1_All : Book := bk_ref1_is.add 40 ref1_All.con
theorem bk_ref1_All_ok : BookOk Tryz.prog bk_ref1_All := bk_ref1_is_ok.add ref1_All.ok
namespace ref1_Lower
def D : Dom := ⟨[], .str⟩
namespace L3
def D : Dom := ⟨[.vec .byte 5 false], (.cat (.sl 0 1) (.int .i64))⟩
def A : Dom := ⟨[.vec .byte 5 false], (.sl 0 1)⟩
def sel : List Nat := [0, 1]
def t (b : List UInt8) (i : Int) : Tr ((List UInt8 × Int) ⊕ (List UInt8)) :=
 .br (decide (i < (↑b.length : Int))) (.chk ((0 : Int) ≤ i ∧ i < (↑b.length : Int)) <| .chk ((0 : Nat) + i.toNat < b.length) <| .br (decide ((↑(UInt8.toNat (b.getD ((0 : Nat) + i.toNat) (0 : UInt8))) : Int) ≥ (65 : Int))) (.chk ((0 : Int) ≤ i ∧ i < (↑b.length : Int)) <| .chk ((0 : Nat) + i.toNat < b.length) <| .br (decide ((↑(UInt8.toNat (b.getD ((0 : Nat) + i.toNat) (0 : UInt8))) : Int) ≤ (90 : Int))) (.chk ((0 : Int) ≤ i ∧ i < (↑b.length : Int)) <| .chk ((0 : Nat) + i.toNat < b.length) <| .chk ((0 : Int) ≤ i ∧ i < (↑b.length : Int)) <| .chk ((0 : Nat) + i.toNat < b.length) <| .chk ((0 : Int) ≤ IntKind.u8.wrap ((↑(UInt8.toNat (b.getD ((0 : Nat) + i.toNat) (0 : UInt8))) : Int) + (32 : Int)) ∧ IntKind.u8.wrap ((↑(UInt8.toNat (b.getD ((0 : Nat) + i.toNat) (0 : UInt8))) : Int) + (32 : Int)) < (256 : Int)) <| .chk ((0 : Nat) = (0 : Nat) ∧ b.length = (b.set ((0 : Nat) + i.toNat) (UInt8.ofNat (IntKind.u8.wrap ((↑(UInt8.toNat (b.getD ((0 : Nat) + i.toNat) (0 : UInt8))) : Int) + (32 : Int))).toNat)).length) <| .ret (.inl (b.set ((0 : Nat) + i.toNat) (UInt8.ofNat (IntKind.u8.wrap ((↑(UInt8.toNat (b.getD ((0 : Nat) + i.toNat) (0 : UInt8))) : Int) + (32 : Int))).toNat), IntKind.i64.wrap (i + (1 : Int)))))
  (.okl b.length <| .ret (.inl (b, IntKind.i64.wrap (i + (1 : Int))))))
  (.okl b.length <| .ret (.inl (b, IntKind.i64.wrap (i + (1 : Int))))))
 (.okl b.length <| .ret (.inr b))
def f (b : List UInt8) (i : Int) : Option (List UInt8) := Loop (fun z : List UInt8 × Int => t z.1 z.2) (b, i)
def F (x : D.den) : Option (List UInt8) := f x.1.1 x.2.2
def pa : D.den → (List UInt8) → A.den := fun ((_, _), (_, _)) y1 => ((y1, ()), ())
def lap : Lap := tlap 3 33 [3, 4] D (.exit 0) [3] A pa F
def pk (x : D.den) (z : List UInt8 × Int) : D.den := ((z.1, ()), ((), z.2))
def un (x : D.den) : List UInt8 × Int := (x.1.1, x.2.2)
def body (x : D.den) (z : List UInt8 × Int) : Tr ((List UInt8 × Int) ⊕ (List UInt8)) := t z.1 z.2
theorem ok : LapOk Tryz.prog 0 (codeOf Tryz.prog 123) lap := tlap_ok Base.mixed Base.prog_ok bk_ref1_All_ok (by kernel_rfl) (by kernel_rfl) LapsOk.nil 9 pk un body (fun _ _ => rfl) (fun _ _ => rfl) (fun _ _ => rfl) (fun _ => rfl) fun _ _ _ _ => (by kernel_rfl)
end L3
def A : Dom := ⟨[], .str⟩
def sel : List Nat := [0]
def t (s : List UInt8) : Tr (List UInt8) :=
 .chk (s.length ≤ (140737488355328 : Nat)) <| .chk ((0 : Nat) = (0 : Nat) ∧ s.length = ([] ++ s).length) <| .call (ref1_Lower.L3.f ([] ++ s) (0 : Int)) fun y1 =>
 .chk ((0 : Nat) + y1.length ≤ y1.length) <| .ret (List.take y1.length (List.drop (0 : Nat) y1))
def f (s : List UInt8) : Option (List UInt8) := (t s).val
def F (x : D.den) : Option (List UInt8) := f x.2
def pa : D.den → (List UInt8) → A.den := fun (_, _) y1 => ((), y1)
def con : Con := tcon D A pa F
theorem ok : ConOk Tryz.prog 123 con := tcon_ok Base.mixed Base.prog_ok bk_ref1_All_ok (by kernel_rfl) (.cons L3.ok (by kernel_rfl) (.nil)) 9 (fun _ => rfl) (fun x => t x.2) (fun _ => rfl) fun _ _ _ => (by kernel_rfl)
end ref1_Lower
def bk_ref1_Lower : Book := bk_ref1_All.add 123 ref1_Lower.con
theorem bk_ref1_Lower_ok : BookOk Tryz.prog bk_ref1_Lower := bk_ref1_All_ok.add ref1_Lower.ok
namespace ref1_Same
def D : Dom := ⟨[], (.cat .str .str)⟩
def A : Dom := ⟨[], .bool⟩
def sel : List Nat := [0, 1]
def t (va : List UInt8) (b : List UInt8) : Tr (Bool) :=
 .call (ref1_Lower.f va) fun y1 =>
 .call (ref1_Lower.f b) fun y2 =>
 .ret (y1 == y2)
def f (va : List UInt8) (b : List UInt8) : Option (Bool) := (t va b).val
def F (x : D.den) : Option (Bool) := f x.2.1 x.2.2
def pa : D.den → (Bool) → A.den := fun (_, (_, _)) y1 => ((), y1)
def con : Con := tcon D A pa F
theorem ok : ConOk Tryz.prog 101 con := tcon_ok Base.mixed Base.prog_ok bk_ref1_Lower_ok (by kernel_rfl) LapsOk.nil 9 (fun _ => rfl) (fun x => t x.2.1 x.2.2) (fun _ => rfl) fun _ _ _ => (by kernel_rfl)
end ref1_Same
def bk_ref1_Same : Book := bk_ref1_Lower.add 101 ref1_Same.con
theorem bk_ref1_Same_ok : BookOk Tryz.prog bk_ref1_Same := bk_ref1_Lower_ok.add ref1_Same.ok
namespace ref1_One
def D : Dom := ⟨[.vec .str 9 true], (.cat (.sl 0 1) .str)⟩
namespace L2
def D : Dom := ⟨[.vec .str 9 true], (.cat (.sl 0 1) (.cat .str (.int .i64)))⟩
def A : Dom := ⟨[.vec .str 9 true], .nil⟩
def B : Dom := ⟨[.vec .str 9 true], .bool⟩
def sel : List Nat := [0, 1, 2]
def t (l : List (List UInt8)) (s : List UInt8) (i : Int) : Tr ((Int) ⊕ ((Unit) ⊕ (Bool))) :=
 .br (decide (i < (↑l.length : Int))) (.chk ((0 : Int) ≤ i ∧ i < (↑l.length : Int)) <| .chk ((0 : Nat) + i.toNat < l.length) <| .call (ref1_Same.f (l.getD ((0 : Nat) + i.toNat) []) s) fun y1 =>
  .br y1 (.ret (.inr (.inr true)))
  (.okl l.length <| .ret (.inl (IntKind.i64.wrap (i + (1 : Int))))))
 (.ret (.inr (.inl ())))
def f (l : List (List UInt8)) (s : List UInt8) (i : Int) : Option ((Unit) ⊕ (Bool)) := Loop (fun z : Int => t l s z) i
def F (x : D.den) : Option ((Unit) ⊕ (Bool)) := f x.1.1 x.2.2.1 x.2.2.2
def pa : D.den → (Unit) → A.den := fun ((l, _), (_, (_, _))) _ => ((l, ()), ())
def pb : D.den → (Bool) → B.den := fun ((l, _), (_, (_, _))) y1 => ((l, ()), y1)
def lap : Lap := tlap2 2 18 [0, 1, 5] D (.exit 0) [] A .ret [4] B pa pb F
def pk (x : D.den) (z : Int) : D.den := ((x.1.1, ()), ((), (x.2.2.1, z)))
def un (x : D.den) : Int := x.2.2.2
def body (x : D.den) (z : Int) : Tr ((Int) ⊕ ((Unit) ⊕ (Bool))) := t x.1.1 x.2.2.1 z
theorem ok : LapOk Tryz.prog 1 (codeOf Tryz.prog 69) lap := tlap2_ok Base.mixed Base.prog_ok bk_ref1_Same_ok (by kernel_rfl) (by kernel_rfl) LapsOk.nil 9 pk un body (fun _ _ => rfl) (fun _ _ => rfl) (fun _ _ => rfl) (fun _ _ => rfl) (fun _ => rfl) fun _ _ _ _ => (by kernel_rfl)
end L2
def A : Dom := ⟨[.vec .str 9 true], .bool⟩
def sel : List Nat := [0, 1]
def t (l : List (List UInt8)) (s : List UInt8) : Tr (Bool) :=
 .okl l.length <| .both (ref1_One.L2.f l s (0 : Int)) (fun _ => .ret false)
 (fun y2 => .ret y2)
def f (l : List (List UInt8)) (s : List UInt8) : Option (Bool) := (t l s).val
def F (x : D.den) : Option (Bool) := f x.1.1 x.2.2
def pa : D.den → (Bool) → A.den := fun ((l, _), (_, _)) y1 => ((l, ()), y1)
def con : Con := tcon D A pa F
theorem ok : ConOk Tryz.prog 69 con := tcon_ok Base.mixed Base.prog_ok bk_ref1_Same_ok (by kernel_rfl) (.cons L2.ok (by kernel_rfl) (.nil)) 9 (fun _ => rfl) (fun x => t x.1.1 x.2.2) (fun _ => rfl) fun _ _ _ => (by kernel_rfl)
end ref1_One
def bk_ref1_One : Book := bk_ref1_Same.add 69 ref1_One.con
theorem bk_ref1_One_ok : BookOk Tryz.prog bk_ref1_One := bk_ref1_Same_ok.add ref1_One.ok
namespace ref25_free
def D : Dom := ⟨[], .str⟩
def A : Dom := ⟨[], .bool⟩
def sel : List Nat := [0]
def t (name : List UInt8) : Tr (Bool) :=
 .br (!name == []) (.call (ref1_All.f [(1 : Int)] name) fun y1 =>
  .br y1 (.call (ref1_One.f [[(72 : UInt8), (111 : UInt8), (115 : UInt8), (116 : UInt8)], [(67 : UInt8), (111 : UInt8), (110 : UInt8), (116 : UInt8), (101 : UInt8), (110 : UInt8), (116 : UInt8), (45 : UInt8), (76 : UInt8), (101 : UInt8), (110 : UInt8), (103 : UInt8), (116 : UInt8), (104 : UInt8)], [(84 : UInt8), (114 : UInt8), (97 : UInt8), (110 : UInt8), (115 : UInt8), (102 : UInt8), (101 : UInt8), (114 : UInt8), (45 : UInt8), (69 : UInt8), (110 : UInt8), (99 : UInt8), (111 : UInt8), (100 : UInt8), (105 : UInt8), (110 : UInt8), (103 : UInt8)], [(67 : UInt8), (111 : UInt8), (110 : UInt8), (110 : UInt8), (101 : UInt8), (99 : UInt8), (116 : UInt8), (105 : UInt8), (111 : UInt8), (110 : UInt8)]] name) fun y2 =>
  .ret (!y2))
  (.ret false))
 (.ret false)
def f (name : List UInt8) : Option (Bool) := (t name).val
def F (x : D.den) : Option (Bool) := f x.2
def pa : D.den → (Bool) → A.den := fun (_, _) y1 => ((), y1)
def con : Con := tcon D A pa F
theorem ok : ConOk Tryz.prog 36 con := tcon_ok Base.mixed Base.prog_ok bk_ref1_One_ok (by kernel_rfl) LapsOk.nil 9 (fun _ => rfl) (fun x => t x.2) (fun _ => rfl) fun _ _ _ => (by kernel_rfl)
end ref25_free
def bk_ref25_free : Book := bk_ref1_One.add 36 ref25_free.con
theorem bk_ref25_free_ok : BookOk Tryz.prog bk_ref25_free := bk_ref1_One_ok.add ref25_free.ok
namespace ref1_TrimOf
def D : Dom := ⟨[], (.cat .str .str)⟩
namespace L1
def D : Dom := ⟨[], (.cat .str .str)⟩
def A : Dom := ⟨[], (.cat .str .str)⟩
def sel : List Nat := [0, 1]
def t (s : List UInt8) (set : List UInt8) : Tr ((List UInt8) ⊕ (List UInt8)) :=
 .br (!s == []) (.chk ((0 : Int) ≤ (0 : Int) ∧ (0 : Int) < (↑s.length : Int)) <| .call (ref1_in.f (↑(s.getD (Int.toNat (0 : Int)) (0 : UInt8)).toNat : Int) set) fun y1 =>
  .br y1 (.chk ((0 : Int) ≤ (1 : Int) ∧ (1 : Int) ≤ (↑s.length : Int) ∧ (↑s.length : Int) ≤ (↑s.length : Int)) <| .ret (.inl (List.drop (Int.toNat (1 : Int)) (List.take (↑s.length : Int).toNat s))))
  (.ret (.inr s)))
 (.ret (.inr s))
def f (s : List UInt8) (set : List UInt8) : Option (List UInt8) := Loop (fun z : List UInt8 => t z set) s
def F (x : D.den) : Option (List UInt8) := f x.2.1 x.2.2
def pa : D.den → (List UInt8) → A.den := fun (_, (_, set)) y1 => ((), (y1, set))
def lap : Lap := tlap 1 32 [0, 1] D (.exit 0) [0, 1] A pa F
def pk (x : D.den) (z : List UInt8) : D.den := ((), (z, x.2.2))
def un (x : D.den) : List UInt8 := x.2.1
def body (x : D.den) (z : List UInt8) : Tr ((List UInt8) ⊕ (List UInt8)) := t z x.2.2
theorem ok : LapOk Tryz.prog 0 (codeOf Tryz.prog 102) lap := tlap_ok Base.mixed Base.prog_ok bk_ref25_free_ok (by kernel_rfl) (by kernel_rfl) LapsOk.nil 9 pk un body (fun _ _ => rfl) (fun _ _ => rfl) (fun _ _ => rfl) (fun _ => rfl) fun _ _ _ _ => (by kernel_rfl)
end L1
namespace L3
def D : Dom := ⟨[], (.cat .str .str)⟩
def A : Dom := ⟨[], .str⟩
def sel : List Nat := [0, 1]
def t (s : List UInt8) (set : List UInt8) : Tr ((List UInt8) ⊕ (List UInt8)) :=
 .br (!s == []) (.chk ((0 : Int) ≤ IntKind.i64.wrap ((↑s.length : Int) - (1 : Int)) ∧ IntKind.i64.wrap ((↑s.length : Int) - (1 : Int)) < (↑s.length : Int)) <| .call (ref1_in.f (↑(s.getD (IntKind.i64.wrap ((↑s.length : Int) - (1 : Int))).toNat (0 : UInt8)).toNat : Int) set) fun y1 =>
  .br y1 (.chk ((0 : Int) ≤ (0 : Int) ∧ (0 : Int) ≤ IntKind.i64.wrap ((↑s.length : Int) - (1 : Int)) ∧ IntKind.i64.wrap ((↑s.length : Int) - (1 : Int)) ≤ (↑s.length : Int)) <| .ret (.inl (List.drop (↑(0 : Nat) : Int).toNat (List.take (IntKind.i64.wrap ((↑s.length : Int) - (1 : Int))).toNat s))))
  (.ret (.inr s)))
 (.ret (.inr s))
def f (s : List UInt8) (set : List UInt8) : Option (List UInt8) := Loop (fun z : List UInt8 => t z set) s
def F (x : D.den) : Option (List UInt8) := f x.2.1 x.2.2
def pa : D.den → (List UInt8) → A.den := fun (_, (_, _)) y1 => ((), y1)
def lap : Lap := tlap 3 32 [0, 1] D (.exit 2) [0] A pa F
def pk (x : D.den) (z : List UInt8) : D.den := ((), (z, x.2.2))
def un (x : D.den) : List UInt8 := x.2.1
def body (x : D.den) (z : List UInt8) : Tr ((List UInt8) ⊕ (List UInt8)) := t z x.2.2
theorem ok : LapOk Tryz.prog 0 (codeOf Tryz.prog 102) lap := tlap_ok Base.mixed Base.prog_ok bk_ref25_free_ok (by kernel_rfl) (by kernel_rfl) LapsOk.nil 9 pk un body (fun _ _ => rfl) (fun _ _ => rfl) (fun _ _ => rfl) (fun _ => rfl) fun _ _ _ _ => (by kernel_rfl)
end L3
def A : Dom := ⟨[], .str⟩
def sel : List Nat := [0, 1]
def t (s : List UInt8) (set : List UInt8) : Tr (List UInt8) :=
 .call (ref1_TrimOf.L1.f s set) fun y1 =>
 .call (ref1_TrimOf.L3.f y1 set) fun y2 =>
 .ret y2
def f (s : List UInt8) (set : List UInt8) : Option (List UInt8) := (t s set).val
def F (x : D.den) : Option (List UInt8) := f x.2.1 x.2.2
def pa : D.den → (List UInt8) → A.den := fun (_, (_, _)) y1 => ((), y1)
def con : Con := tcon D A pa F
theorem ok : ConOk Tryz.prog 102 con := tcon_ok Base.mixed Base.prog_ok bk_ref25_free_ok (by kernel_rfl) (.cons L1.ok (by kernel_rfl) (.cons L3.ok (by kernel_rfl) (.nil))) 9 (fun _ => rfl) (fun x => t x.2.1 x.2.2) (fun _ => rfl) fun _ _ _ => (by kernel_rfl)
end ref1_TrimOf
def bk_ref1_TrimOf : Book := bk_ref25_free.add 102 ref1_TrimOf.con
theorem bk_ref1_TrimOf_ok : BookOk Tryz.prog bk_ref1_TrimOf := bk_ref25_free_ok.add ref1_TrimOf.ok
namespace ref1_Trim
def D : Dom := ⟨[], .str⟩
def A : Dom := ⟨[], .str⟩
def sel : List Nat := [0]
def t (s : List UInt8) : Tr (List UInt8) :=
 .call (ref1_TrimOf.f s [(32 : UInt8), (9 : UInt8)]) fun y1 =>
 .ret y1
def f (s : List UInt8) : Option (List UInt8) := (t s).val
def F (x : D.den) : Option (List UInt8) := f x.2
def pa : D.den → (List UInt8) → A.den := fun (_, _) y1 => ((), y1)
def con : Con := tcon D A pa F
theorem ok : ConOk Tryz.prog 70 con := tcon_ok Base.mixed Base.prog_ok bk_ref1_TrimOf_ok (by kernel_rfl) LapsOk.nil 9 (fun _ => rfl) (fun x => t x.2) (fun _ => rfl) fun _ _ _ => (by kernel_rfl)
end ref1_Trim
def bk_ref1_Trim : Book := bk_ref1_TrimOf.add 70 ref1_Trim.con
theorem bk_ref1_Trim_ok : BookOk Tryz.prog bk_ref1_Trim := bk_ref1_TrimOf_ok.add ref1_Trim.ok
namespace ref9_Right
def D : Dom := ⟨[], (.agg (.cat .str .str))⟩
def A : Dom := ⟨[], .bool⟩
def sel : List Nat := [0, 1]
def t (Name : List UInt8) (Value : List UInt8) : Tr (Bool) :=
 .br (!Name == []) (.call (ref1_All.f [(1 : Int)] Name) fun y1 =>
  .br y1 (.call (ref1_All.f [(6 : Int)] Value) fun y2 =>
  .br y2 (.call (ref1_Trim.f Value) fun y3 =>
   .ret (y3 == Value))
  (.ret false))
  (.ret false))
 (.ret false)
def f (Name : List UInt8) (Value : List UInt8) : Option (Bool) := (t Name Value).val
def F (x : D.den) : Option (Bool) := f x.2.1 x.2.2
def pa : D.den → (Bool) → A.den := fun (_, (_, _)) y1 => ((), y1)
def con : Con := tcon D A pa F
theorem ok : ConOk Tryz.prog 37 con := tcon_ok Base.mixed Base.prog_ok bk_ref1_Trim_ok (by kernel_rfl) LapsOk.nil 9 (fun _ => rfl) (fun x => t x.2.1 x.2.2) (fun _ => rfl) fun _ _ _ => (by kernel_rfl)
end ref9_Right
def bk_ref9_Right : Book := bk_ref1_Trim.add 37 ref9_Right.con
theorem bk_ref9_Right_ok : BookOk Tryz.prog bk_ref9_Right := bk_ref1_Trim_ok.add ref9_Right.ok
namespace ref6_of
def D : Dom := ⟨[], (.cat .str .str)⟩
namespace L7
def D : Dom := ⟨[], (.cat .str (.cat .str (.cat (.int .i64) (.cat (.int .u8) (.cat .bool (.int .i64))))))⟩
def A : Dom := ⟨[], (.cat .str (.cat .str (.cat (.int .i64) (.cat (.int .u8) .bool))))⟩
def sel : List Nat := [1, 3, 4, 5]
def t (more : List UInt8) (c : Int) (ok : Bool) (k : Int) : Tr ((Bool × Int) ⊕ (Bool)) :=
 .br (decide (k < (↑more.length : Int))) (.br ok (.ret (.inl (true, IntKind.i64.wrap (k + (1 : Int)))))
  (.chk ((0 : Int) ≤ k ∧ k < (↑more.length : Int)) <| .ret (.inl (c == (↑(more.getD k.toNat (0 : UInt8)).toNat : Int), IntKind.i64.wrap (k + (1 : Int))))))
 (.ret (.inr ok))
def f (more : List UInt8) (c : Int) (ok : Bool) (k : Int) : Option (Bool) := Loop (fun z : Bool × Int => t more c z.1 z.2) (ok, k)
def F (x : D.den) : Option (Bool) := f x.2.2.1 x.2.2.2.2.1 x.2.2.2.2.2.1 x.2.2.2.2.2.2
def pa : D.den → (Bool) → A.den := fun (_, (s, (more, (i, (c, (_, _)))))) y1 => ((), (s, (more, (i, (c, y1)))))
def lap : Lap := tlap 7 73 [0, 1, 5, 6, 7, 8] D (.exit 2) [0, 1, 5, 6, 7] A pa F
def pk (x : D.den) (z : Bool × Int) : D.den := ((), (x.2.1, (x.2.2.1, (x.2.2.2.1, (x.2.2.2.2.1, (z.1, z.2))))))
def un (x : D.den) : Bool × Int := (x.2.2.2.2.2.1, x.2.2.2.2.2.2)
def body (x : D.den) (z : Bool × Int) : Tr ((Bool × Int) ⊕ (Bool)) := t x.2.2.1 x.2.2.2.2.1 z.1 z.2
theorem ok : LapOk Tryz.prog 0 (codeOf Tryz.prog 71) lap := tlap_ok Base.mixed Base.prog_ok bk_ref9_Right_ok (by kernel_rfl) (by kernel_rfl) LapsOk.nil 9 pk un body (fun _ _ => rfl) (fun _ _ => rfl) (fun _ _ => rfl) (fun _ => rfl) fun _ _ _ _ => (by kernel_rfl)
end L7
namespace L2
def D : Dom := ⟨[], (.cat .str (.cat .str (.int .i64)))⟩
def A : Dom := ⟨[], .nil⟩
def B : Dom := ⟨[], .bool⟩
def sel : List Nat := [0, 1, 2]
def t (s : List UInt8) (more : List UInt8) (i : Int) : Tr ((Int) ⊕ ((Unit) ⊕ (Bool))) :=
 .br (decide (i < (↑s.length : Int))) (.chk ((0 : Int) ≤ i ∧ i < (↑s.length : Int)) <| .call (ref1_Letter.f (↑(s.getD i.toNat (0 : UInt8)).toNat : Int)) fun y1 =>
  .br y1 (.call (ref6_of.L7.f more (↑(s.getD i.toNat (0 : UInt8)).toNat : Int) true (0 : Int)) fun y2 =>
  .br ((↑(s.getD i.toNat (0 : UInt8)).toNat : Int) == (37 : Int)) (.br (decide (IntKind.i64.wrap ((↑s.length : Int) - i) > (2 : Int))) (.chk ((0 : Int) ≤ IntKind.i64.wrap (i + (1 : Int)) ∧ IntKind.i64.wrap (i + (1 : Int)) < (↑s.length : Int)) <| .call (ref1_Hex.f (↑(s.getD (IntKind.i64.wrap (i + (1 : Int))).toNat (0 : UInt8)).toNat : Int)) fun (_, y3b) =>
   .chk ((0 : Int) ≤ IntKind.i64.wrap (i + (2 : Int)) ∧ IntKind.i64.wrap (i + (2 : Int)) < (↑s.length : Int)) <| .call (ref1_Hex.f (↑(s.getD (IntKind.i64.wrap (i + (2 : Int))).toNat (0 : UInt8)).toNat : Int)) fun (_, y4b) =>
   .br y3b (.br (!y4b) (.ret (.inr (.inr false)))
    (.ret (.inl (IntKind.i64.wrap (i + (1 : Int))))))
   (.ret (.inr (.inr false))))
   (.br (!y2) (.ret (.inr (.inr false)))
   (.ret (.inl (IntKind.i64.wrap (i + (1 : Int)))))))
  (.br (!y2) (.ret (.inr (.inr false)))
   (.ret (.inl (IntKind.i64.wrap (i + (1 : Int)))))))
  (.call (ref1_Digit.f (↑(s.getD i.toNat (0 : UInt8)).toNat : Int)) fun y5 =>
  .call (ref6_of.L7.f more (↑(s.getD i.toNat (0 : UInt8)).toNat : Int) y5 (0 : Int)) fun y6 =>
  .br ((↑(s.getD i.toNat (0 : UInt8)).toNat : Int) == (37 : Int)) (.br (decide (IntKind.i64.wrap ((↑s.length : Int) - i) > (2 : Int))) (.chk ((0 : Int) ≤ IntKind.i64.wrap (i + (1 : Int)) ∧ IntKind.i64.wrap (i + (1 : Int)) < (↑s.length : Int)) <| .call (ref1_Hex.f (↑(s.getD (IntKind.i64.wrap (i + (1 : Int))).toNat (0 : UInt8)).toNat : Int)) fun (_, y7b) =>
   .chk ((0 : Int) ≤ IntKind.i64.wrap (i + (2 : Int)) ∧ IntKind.i64.wrap (i + (2 : Int)) < (↑s.length : Int)) <| .call (ref1_Hex.f (↑(s.getD (IntKind.i64.wrap (i + (2 : Int))).toNat (0 : UInt8)).toNat : Int)) fun (_, y8b) =>
   .br y7b (.br (!y8b) (.ret (.inr (.inr false)))
    (.ret (.inl (IntKind.i64.wrap (i + (1 : Int))))))
   (.ret (.inr (.inr false))))
   (.br (!y6) (.ret (.inr (.inr false)))
   (.ret (.inl (IntKind.i64.wrap (i + (1 : Int)))))))
  (.br (!y6) (.ret (.inr (.inr false)))
   (.ret (.inl (IntKind.i64.wrap (i + (1 : Int))))))))
 (.ret (.inr (.inl ())))
def f (s : List UInt8) (more : List UInt8) (i : Int) : Option ((Unit) ⊕ (Bool)) := Loop (fun z : Int => t s more z) i
def F (x : D.den) : Option ((Unit) ⊕ (Bool)) := f x.2.1 x.2.2.1 x.2.2.2
def pa : D.den → (Unit) → A.den := fun (_, (_, (_, _))) _ => ((), ())
def pb : D.den → (Bool) → B.den := fun (_, (_, (_, _))) y1 => ((), y1)
def lap : Lap := tlap2 2 73 [0, 1, 5] D (.exit 0) [] A .ret [4] B pa pb F
def pk (x : D.den) (z : Int) : D.den := ((), (x.2.1, (x.2.2.1, z)))
def un (x : D.den) : Int := x.2.2.2
def body (x : D.den) (z : Int) : Tr ((Int) ⊕ ((Unit) ⊕ (Bool))) := t x.2.1 x.2.2.1 z
theorem ok : LapOk Tryz.prog 0 (codeOf Tryz.prog 71) lap := tlap2_ok Base.mixed Base.prog_ok bk_ref9_Right_ok (by kernel_rfl) (by kernel_rfl) (.cons L7.ok (by kernel_rfl) (.nil)) 9 pk un body (fun _ _ => rfl) (fun _ _ => rfl) (fun _ _ => rfl) (fun _ _ => rfl) (fun _ => rfl) fun _ _ _ _ => (by kernel_rfl)
end L2
def A : Dom := ⟨[], .bool⟩
def sel : List Nat := [0, 1]
def t (s : List UInt8) (more : List UInt8) : Tr (Bool) :=
 .both (ref6_of.L2.f s more (0 : Int)) (fun _ => .ret true)
 (fun y2 => .ret y2)
def f (s : List UInt8) (more : List UInt8) : Option (Bool) := (t s more).val
def F (x : D.den) : Option (Bool) := f x.2.1 x.2.2
def pa : D.den → (Bool) → A.den := fun (_, (_, _)) y1 => ((), y1)
def con : Con := tcon D A pa F
theorem ok : ConOk Tryz.prog 71 con := tcon_ok Base.mixed Base.prog_ok bk_ref9_Right_ok (by kernel_rfl) (.cons L7.ok (by kernel_rfl) (.cons L2.ok (by kernel_rfl) (.nil))) 9 (fun _ => rfl) (fun x => t x.2.1 x.2.2) (fun _ => rfl) fun _ _ _ => (by kernel_rfl)
end ref6_of
def bk_ref6_of : Book := bk_ref9_Right.add 71 ref6_of.con
theorem bk_ref6_of_ok : BookOk Tryz.prog bk_ref6_of := bk_ref9_Right_ok.add ref6_of.ok
namespace ref6_Path
def D : Dom := ⟨[], .str⟩
def A : Dom := ⟨[], .bool⟩
def sel : List Nat := [0]
def t (s : List UInt8) : Tr (Bool) :=
 .br (!s == []) (.chk ((0 : Int) ≤ (0 : Int) ∧ (0 : Int) < (↑s.length : Int)) <| .br ((↑(s.getD (Int.toNat (0 : Int)) (0 : UInt8)).toNat : Int) == (47 : Int)) (.call (ref6_of.f s [(45 : UInt8), (46 : UInt8), (95 : UInt8), (126 : UInt8), (33 : UInt8), (36 : UInt8), (38 : UInt8), (39 : UInt8), (40 : UInt8), (41 : UInt8), (42 : UInt8), (43 : UInt8), (44 : UInt8), (59 : UInt8), (61 : UInt8), (58 : UInt8), (64 : UInt8), (47 : UInt8)]) fun y1 =>
  .ret y1)
  (.ret false))
 (.ret false)
def f (s : List UInt8) : Option (Bool) := (t s).val
def F (x : D.den) : Option (Bool) := f x.2
def pa : D.den → (Bool) → A.den := fun (_, _) y1 => ((), y1)
def con : Con := tcon D A pa F
theorem ok : ConOk Tryz.prog 38 con := tcon_ok Base.mixed Base.prog_ok bk_ref6_of_ok (by kernel_rfl) LapsOk.nil 9 (fun _ => rfl) (fun x => t x.2) (fun _ => rfl) fun _ _ _ => (by kernel_rfl)
end ref6_Path
def bk_ref6_Path : Book := bk_ref6_of.add 38 ref6_Path.con
theorem bk_ref6_Path_ok : BookOk Tryz.prog bk_ref6_Path := bk_ref6_of_ok.add ref6_Path.ok
end Go.Vx
end
section
set_option maxRecDepth 1000000
set_option maxHeartbeats 4000000
set_option synthInstance.maxSize 100000
set_option synthInstance.maxHeartbeats 400000
set_option linter.unusedVariables false
namespace Go.Vx
open Go Go.Vx Go.Proofs
namespace ref25_realm
def D : Dom := ⟨[], .str⟩
namespace L2
def D : Dom := ⟨[], (.cat .str (.int .i64))⟩
def A : Dom := ⟨[], .str⟩
def B : Dom := ⟨[], .bool⟩
def sel : List Nat := [0, 1]
def t (s : List UInt8) (i : Int) : Tr ((Int) ⊕ ((Unit) ⊕ (Bool))) :=
 .br (decide (i < (↑s.length : Int))) (.chk ((0 : Int) ≤ i ∧ i < (↑s.length : Int)) <| .call (ref1_Letter.f (↑(s.getD i.toNat (0 : UInt8)).toNat : Int)) fun y1 =>
  .br (!y1) (.chk ((0 : Int) ≤ i ∧ i < (↑s.length : Int)) <| .call (ref1_Digit.f (↑(s.getD i.toNat (0 : UInt8)).toNat : Int)) fun y2 =>
  .br (!y2) (.ret (.inr (.inr false)))
  (.ret (.inl (IntKind.i64.wrap (i + (1 : Int))))))
  (.ret (.inl (IntKind.i64.wrap (i + (1 : Int))))))
 (.ret (.inr (.inl ())))
def f (s : List UInt8) (i : Int) : Option ((Unit) ⊕ (Bool)) := Loop (fun z : Int => t s z) i
def F (x : D.den) : Option ((Unit) ⊕ (Bool)) := f x.2.1 x.2.2
def pa : D.den → (Unit) → A.den := fun (_, (s, _)) _ => ((), s)
def pb : D.den → (Bool) → B.den := fun (_, (_, _)) y1 => ((), y1)
def lap : Lap := tlap2 2 30 [0, 3] D (.exit 0) [0] A .ret [2] B pa pb F
def pk (x : D.den) (z : Int) : D.den := ((), (x.2.1, z))
def un (x : D.den) : Int := x.2.2
def body (x : D.den) (z : Int) : Tr ((Int) ⊕ ((Unit) ⊕ (Bool))) := t x.2.1 z
theorem ok : LapOk Tryz.prog 0 (codeOf Tryz.prog 39) lap := tlap2_ok Base.mixed Base.prog_ok bk_ref6_Path_ok (by kernel_rfl) (by kernel_rfl) LapsOk.nil 9 pk un body (fun _ _ => rfl) (fun _ _ => rfl) (fun _ _ => rfl) (fun _ _ => rfl) (fun _ => rfl) fun _ _ _ _ => (by kernel_rfl)
end L2
def A : Dom := ⟨[], .bool⟩
def sel : List Nat := [0]
def t (s : List UInt8) : Tr (Bool) :=
 .both (ref25_realm.L2.f s (0 : Int)) (fun _ => .br (decide ((↑s.length : Int) ≥ (1 : Int))) (.ret (decide ((↑s.length : Int) ≤ (64 : Int))))
  (.ret false))
 (fun y2 => .ret y2)
def f (s : List UInt8) : Option (Bool) := (t s).val
def F (x : D.den) : Option (Bool) := f x.2
def pa : D.den → (Bool) → A.den := fun (_, _) y1 => ((), y1)
def con : Con := tcon D A pa F
theorem ok : ConOk Tryz.prog 39 con := tcon_ok Base.mixed Base.prog_ok bk_ref6_Path_ok (by kernel_rfl) (.cons L2.ok (by kernel_rfl) (.nil)) 9 (fun _ => rfl) (fun x => t x.2) (fun _ => rfl) fun _ _ _ => (by kernel_rfl)
end ref25_realm
def bk_ref25_realm : Book := bk_ref6_Path.add 39 ref25_realm.con
theorem bk_ref25_realm_ok : BookOk Tryz.prog bk_ref25_realm := bk_ref6_Path_ok.add ref25_realm.ok
namespace ref1_Split
def D : Dom := ⟨[], (.cat .str (.int .u8))⟩
namespace L4
def D : Dom := ⟨[.vec .str 9 false], (.cat .str (.cat (.int .u8) (.cat (.sl 0 1) (.cat (.int .i64) (.int .i64)))))⟩
def A : Dom := ⟨[.vec .str 9 false], (.sl 0 1)⟩
def sel : List Nat := [0, 1, 2, 3, 4]
def t (out : List (List UInt8)) (s : List UInt8) (c : Int) (vfrom : Int) (i : Int) : Tr ((List (List UInt8) × Int × Int) ⊕ (List (List UInt8))) :=
 .br (decide (i ≤ (↑s.length : Int))) (.br (i == (↑s.length : Int)) (.chk ((0 : Int) ≤ vfrom ∧ vfrom ≤ i ∧ i ≤ (↑s.length : Int)) <| .chk ((0 : Nat) + out.length ≤ out.length) <| .chk ((out.length + (1 : Nat)) * (16 : Nat) ≤ (140737488355328 : Nat)) <| .chk ((0 : Nat) = (0 : Nat) ∧ out.length + (1 : Nat) = (List.take out.length (List.drop (0 : Nat) out) ++ [List.drop vfrom.toNat (List.take i.toNat s)]).length) <| .ret (.inl (List.take out.length (List.drop (0 : Nat) out) ++ [List.drop vfrom.toNat (List.take i.toNat s)], IntKind.i64.wrap (i + (1 : Int)), IntKind.i64.wrap (i + (1 : Int)))))
  (.chk ((0 : Int) ≤ i ∧ i < (↑s.length : Int)) <| .br ((↑(s.getD i.toNat (0 : UInt8)).toNat : Int) == c) (.chk ((0 : Int) ≤ vfrom ∧ vfrom ≤ i ∧ i ≤ (↑s.length : Int)) <| .chk ((0 : Nat) + out.length ≤ out.length) <| .chk ((out.length + (1 : Nat)) * (16 : Nat) ≤ (140737488355328 : Nat)) <| .chk ((0 : Nat) = (0 : Nat) ∧ out.length + (1 : Nat) = (List.take out.length (List.drop (0 : Nat) out) ++ [List.drop vfrom.toNat (List.take i.toNat s)]).length) <| .ret (.inl (List.take out.length (List.drop (0 : Nat) out) ++ [List.drop vfrom.toNat (List.take i.toNat s)], IntKind.i64.wrap (i + (1 : Int)), IntKind.i64.wrap (i + (1 : Int)))))
  (.okl out.length <| .ret (.inl (out, vfrom, IntKind.i64.wrap (i + (1 : Int)))))))
 (.okl out.length <| .ret (.inr out))
def f (out : List (List UInt8)) (s : List UInt8) (c : Int) (vfrom : Int) (i : Int) : Option (List (List UInt8)) := Loop (fun z : List (List UInt8) × Int × Int => t z.1 s c z.2.1 z.2.2) (out, vfrom, i)
def F (x : D.den) : Option (List (List UInt8)) := f x.1.1 x.2.1 x.2.2.1 x.2.2.2.2.1 x.2.2.2.2.2
def pa : D.den → (List (List UInt8)) → A.den := fun ((_, _), (_, (_, (_, (_, _))))) y1 => ((y1, ()), ())
def lap : Lap := tlap 4 35 [0, 1, 5, 6, 7] D (.exit 0) [5] A pa F
def pk (x : D.den) (z : List (List UInt8) × Int × Int) : D.den := ((z.1, ()), (x.2.1, (x.2.2.1, ((), (z.2.1, z.2.2)))))
def un (x : D.den) : List (List UInt8) × Int × Int := (x.1.1, x.2.2.2.2.1, x.2.2.2.2.2)
def body (x : D.den) (z : List (List UInt8) × Int × Int) : Tr ((List (List UInt8) × Int × Int) ⊕ (List (List UInt8))) := t z.1 x.2.1 x.2.2.1 z.2.1 z.2.2
theorem ok : LapOk Tryz.prog 0 (codeOf Tryz.prog 41) lap := tlap_ok Base.mixed Base.prog_ok bk_ref25_realm_ok (by kernel_rfl) (by kernel_rfl) LapsOk.nil 9 pk un body (fun _ _ => rfl) (fun _ _ => rfl) (fun _ _ => rfl) (fun _ => rfl) fun _ _ _ _ => (by kernel_rfl)
end L4
def A : Dom := ⟨[.vec .str 9 false], (.sl 0 1)⟩
def sel : List Nat := [0, 1]
def t (s : List UInt8) (c : Int) : Tr (List (List UInt8)) :=
 .call (ref1_Split.L4.f [] s c (0 : Int) (0 : Int)) fun y1 =>
 .okl y1.length <| .ret y1
def f (s : List UInt8) (c : Int) : Option (List (List UInt8)) := (t s c).val
def F (x : D.den) : Option (List (List UInt8)) := f x.2.1 x.2.2
def pa : D.den → (List (List UInt8)) → A.den := fun (_, (_, _)) y1 => ((y1, ()), ())
def con : Con := tcon D A pa F
theorem ok : ConOk Tryz.prog 41 con := tcon_ok Base.mixed Base.prog_ok bk_ref25_realm_ok (by kernel_rfl) (.cons L4.ok (by kernel_rfl) (.nil)) 9 (fun _ => rfl) (fun x => t x.2.1 x.2.2) (fun _ => rfl) fun _ _ _ => (by kernel_rfl)
end ref1_Split
def bk_ref1_Split : Book := bk_ref25_realm.add 41 ref1_Split.con
theorem bk_ref1_Split_ok : BookOk Tryz.prog bk_ref1_Split := bk_ref25_realm_ok.add ref1_Split.ok
namespace ref1_number
def D : Dom := ⟨[], (.cat .str (.cat (.int .i64) (.int .i64)))⟩
namespace L6
def D : Dom := ⟨[], (.cat .str (.cat (.int .i64) (.cat (.int .i64) (.cat (.int .i64) (.cat .bool (.int .i64))))))⟩
def A : Dom := ⟨[], (.cat (.int .i64) .bool)⟩
def B : Dom := ⟨[], (.cat (.int .i64) (.int .i64))⟩
def sel : List Nat := [0, 1, 2, 3, 4, 5]
def t (s : List UInt8) (base : Int) (most : Int) (n : Int) (over : Bool) (i : Int) : Tr ((Int × Bool × Int) ⊕ ((Int × Bool) ⊕ (Int × Int))) :=
 .br (decide (i < (↑s.length : Int))) (.chk ((0 : Int) ≤ i ∧ i < (↑s.length : Int)) <| .call (ref1_Hex.f (↑(s.getD i.toNat (0 : UInt8)).toNat : Int)) fun (y1a, y1b) =>
  .br (!y1b) (.ret (.inr (.inr ((0 : Int), (22 : Int)))))
  (.br (decide (y1a ≥ base)) (.ret (.inr (.inr ((0 : Int), (22 : Int)))))
  (.br over (.ret (.inl (n, true, IntKind.i64.wrap (i + (1 : Int)))))
   (.chk (base ≠ (0 : Int)) <| .br (decide (n > IntKind.i64.wrap ((IntKind.i64.wrap (most - y1a)).tdiv base))) (.ret (.inl (n, true, IntKind.i64.wrap (i + (1 : Int)))))
   (.br (decide (y1a > most)) (.ret (.inl (n, true, IntKind.i64.wrap (i + (1 : Int)))))
    (.ret (.inl (IntKind.i64.wrap (IntKind.i64.wrap (n * base) + y1a), over, IntKind.i64.wrap (i + (1 : Int))))))))))
 (.ret (.inr (.inl (n, over))))
def f (s : List UInt8) (base : Int) (most : Int) (n : Int) (over : Bool) (i : Int) : Option ((Int × Bool) ⊕ (Int × Int)) := Loop (fun z : Int × Bool × Int => t s base most z.1 z.2.1 z.2.2) (n, over, i)
def F (x : D.den) : Option ((Int × Bool) ⊕ (Int × Int)) := f x.2.1 x.2.2.1 x.2.2.2.1 x.2.2.2.2.1 x.2.2.2.2.2.1 x.2.2.2.2.2.2
def pa : D.den → (Int × Bool) → A.den := fun (_, (_, (_, (_, (_, (_, _)))))) (y1, y2) => ((), (y1, y2))
def pb : D.den → (Int × Int) → B.den := fun (_, (_, (_, (_, (_, (_, _)))))) (y1, y2) => ((), (y1, y2))
def lap : Lap := tlap2 6 59 [0, 1, 2, 8, 9, 10] D (.exit 0) [8, 9] A .ret [6, 7] B pa pb F
def pk (x : D.den) (z : Int × Bool × Int) : D.den := ((), (x.2.1, (x.2.2.1, (x.2.2.2.1, (z.1, (z.2.1, z.2.2))))))
def un (x : D.den) : Int × Bool × Int := (x.2.2.2.2.1, x.2.2.2.2.2.1, x.2.2.2.2.2.2)
def body (x : D.den) (z : Int × Bool × Int) : Tr ((Int × Bool × Int) ⊕ ((Int × Bool) ⊕ (Int × Int))) := t x.2.1 x.2.2.1 x.2.2.2.1 z.1 z.2.1 z.2.2
theorem ok : LapOk Tryz.prog 0 (codeOf Tryz.prog 81) lap := tlap2_ok Base.mixed Base.prog_ok bk_ref1_Split_ok (by kernel_rfl) (by kernel_rfl) LapsOk.nil 9 pk un body (fun _ _ => rfl) (fun _ _ => rfl) (fun _ _ => rfl) (fun _ _ => rfl) (fun _ => rfl) fun _ _ _ _ => (by kernel_rfl)
end L6
def A : Dom := ⟨[], (.tup (.cat (.int .i64) (.int .i64)))⟩
def sel : List Nat := [0, 1, 2]
def t (s : List UInt8) (base : Int) (most : Int) : Tr (Int × Int) :=
 .br (s == []) (.ret ((0 : Int), (22 : Int)))
 (.both (ref1_number.L6.f s base (mx2 most (0 : Int)) (0 : Int) false (0 : Int)) (fun (y1a, y1b) => .br y1b (.ret ((0 : Int), (23 : Int)))
  (.ret (y1a, (0 : Int))))
  (fun (y2a, y2b) => .ret (y2a, y2b)))
def f (s : List UInt8) (base : Int) (most : Int) : Option (Int × Int) := (t s base most).val
def F (x : D.den) : Option (Int × Int) := f x.2.1 x.2.2.1 x.2.2.2
def pa : D.den → (Int × Int) → A.den := fun (_, (_, (_, _))) (y1, y2) => ((), (y1, y2))
def con : Con := tcon D A pa F
theorem ok : ConOk Tryz.prog 81 con := tcon_ok Base.mixed Base.prog_ok bk_ref1_Split_ok (by kernel_rfl) (.cons L6.ok (by kernel_rfl) (.nil)) 9 (fun _ => rfl) (fun x => t x.2.1 x.2.2.1 x.2.2.2) (fun _ => rfl) fun _ _ _ => (by kernel_rfl)
end ref1_number
def bk_ref1_number : Book := bk_ref1_Split.add 81 ref1_number.con
theorem bk_ref1_number_ok : BookOk Tryz.prog bk_ref1_number := bk_ref1_Split_ok.add ref1_number.ok
namespace ref1_Dec
def D : Dom := ⟨[], (.cat .str (.int .i64))⟩
def A : Dom := ⟨[], (.tup (.cat (.int .i64) (.int .i64)))⟩
def sel : List Nat := [0, 1]
def t (s : List UInt8) (most : Int) : Tr (Int × Int) :=
 .call (ref1_number.f s (10 : Int) most) fun (y1a, y1b) =>
 .ret (y1a, y1b)
def f (s : List UInt8) (most : Int) : Option (Int × Int) := (t s most).val
def F (x : D.den) : Option (Int × Int) := f x.2.1 x.2.2
def pa : D.den → (Int × Int) → A.den := fun (_, (_, _)) (y1, y2) => ((), (y1, y2))
def con : Con := tcon D A pa F
theorem ok : ConOk Tryz.prog 47 con := tcon_ok Base.mixed Base.prog_ok bk_ref1_number_ok (by kernel_rfl) LapsOk.nil 9 (fun _ => rfl) (fun x => t x.2.1 x.2.2) (fun _ => rfl) fun _ _ _ => (by kernel_rfl)
end ref1_Dec
def bk_ref1_Dec : Book := bk_ref1_number.add 47 ref1_Dec.con
theorem bk_ref1_Dec_ok : BookOk Tryz.prog bk_ref1_Dec := bk_ref1_number_ok.add ref1_Dec.ok
namespace ref6_Host
def D : Dom := ⟨[], .str⟩
namespace L5
def D : Dom := ⟨[.vec .str 9 false], (.cat (.sl 0 1) (.int .i64))⟩
def A : Dom := ⟨[.vec .str 9 false], (.sl 0 1)⟩
def B : Dom := ⟨[], .bool⟩
def sel : List Nat := [0, 1]
def t (l : List (List UInt8)) (i : Int) : Tr ((Int) ⊕ ((Unit) ⊕ (Bool))) :=
 .chk ((0 : Int) ≤ (0 : Int) ∧ (0 : Int) < (↑l.length : Int)) <| .chk ((0 : Nat) < l.length) <| .br (decide (i < (↑(List.length (l.getD (0 : Nat) [])) : Int))) (.chk ((0 : Int) ≤ (0 : Int) ∧ (0 : Int) < (↑l.length : Int)) <| .chk ((0 : Nat) < l.length) <| .chk ((0 : Int) ≤ i ∧ i < (↑(List.length (l.getD (0 : Nat) [])) : Int)) <| .call (ref1_Letter.f (↑(List.getD (l.getD (0 : Nat) []) i.toNat (0 : UInt8)).toNat : Int)) fun y1 =>
  .br (!y1) (.call (ref1_Digit.f (↑(List.getD (l.getD (0 : Nat) []) i.toNat (0 : UInt8)).toNat : Int)) fun y2 =>
  .br (!y2) (.br ((↑(List.getD (l.getD (0 : Nat) []) i.toNat (0 : UInt8)).toNat : Int) != (45 : Int)) (.br ((↑(List.getD (l.getD (0 : Nat) []) i.toNat (0 : UInt8)).toNat : Int) != (46 : Int)) (.br ((↑(List.getD (l.getD (0 : Nat) []) i.toNat (0 : UInt8)).toNat : Int) != (95 : Int)) (.br ((↑(List.getD (l.getD (0 : Nat) []) i.toNat (0 : UInt8)).toNat : Int) != (126 : Int)) (.ret (.inr (.inr false)))
    (.okl l.length <| .ret (.inl (IntKind.i64.wrap (i + (1 : Int))))))
    (.okl l.length <| .ret (.inl (IntKind.i64.wrap (i + (1 : Int))))))
   (.okl l.length <| .ret (.inl (IntKind.i64.wrap (i + (1 : Int))))))
   (.okl l.length <| .ret (.inl (IntKind.i64.wrap (i + (1 : Int))))))
  (.okl l.length <| .ret (.inl (IntKind.i64.wrap (i + (1 : Int))))))
  (.okl l.length <| .ret (.inl (IntKind.i64.wrap (i + (1 : Int))))))
 (.okl l.length <| .ret (.inr (.inl ())))
def f (l : List (List UInt8)) (i : Int) : Option ((Unit) ⊕ (Bool)) := Loop (fun z : Int => t l z) i
def F (x : D.den) : Option ((Unit) ⊕ (Bool)) := f x.1.1 x.2.2
def pa : D.den → (Unit) → A.den := fun ((l, _), (_, _)) _ => ((l, ()), ())
def pb : D.den → (Bool) → B.den := fun ((_, _), (_, _)) y1 => ((), y1)
def lap : Lap := tlap2 5 83 [3, 4] D (.exit 0) [3] A .ret [2] B pa pb F
def pk (x : D.den) (z : Int) : D.den := ((x.1.1, ()), ((), z))
def un (x : D.den) : Int := x.2.2
def body (x : D.den) (z : Int) : Tr ((Int) ⊕ ((Unit) ⊕ (Bool))) := t x.1.1 z
theorem ok : LapOk Tryz.prog 0 (codeOf Tryz.prog 75) lap := tlap2_ok Base.mixed Base.prog_ok bk_ref1_Dec_ok (by kernel_rfl) (by kernel_rfl) LapsOk.nil 9 pk un body (fun _ _ => rfl) (fun _ _ => rfl) (fun _ _ => rfl) (fun _ _ => rfl) (fun _ => rfl) fun _ _ _ _ => (by kernel_rfl)
end L5
def A : Dom := ⟨[], .bool⟩
def sel : List Nat := [0]
def t (s : List UInt8) : Tr (Bool) :=
 .call (ref1_Split.f s (58 : Int)) fun y1 =>
 .br (decide ((↑y1.length : Int) > (2 : Int))) (.ret false)
 (.chk ((0 : Int) ≤ (0 : Int) ∧ (0 : Int) < (↑y1.length : Int)) <| .chk ((0 : Nat) < y1.length) <| .br (decide ((↑(List.length (y1.getD (0 : Nat) [])) : Int) < (1 : Int))) (.ret false)
  (.chk ((0 : Int) ≤ (0 : Int) ∧ (0 : Int) < (↑y1.length : Int)) <| .chk ((0 : Nat) < y1.length) <| .br (decide ((↑(List.length (y1.getD (0 : Nat) [])) : Int) > (255 : Int))) (.ret false)
  (.okl y1.length <| .both (ref6_Host.L5.f y1 (0 : Int)) (fun _ => .br ((↑y1.length : Int) == (1 : Int)) (.ret true)
   (.chk ((0 : Int) ≤ (1 : Int) ∧ (1 : Int) < (↑y1.length : Int)) <| .chk ((1 : Nat) < y1.length) <| .call (ref1_Dec.f (y1.getD (1 : Nat) []) (65535 : Int)) fun (_, y3b) =>
    .br (y3b == (0 : Int)) (.chk ((0 : Int) ≤ (1 : Int) ∧ (1 : Int) < (↑y1.length : Int)) <| .chk ((1 : Nat) < y1.length) <| .ret (decide ((↑(List.length (y1.getD (1 : Nat) [])) : Int) ≤ (5 : Int))))
    (.ret false)))
   (fun y4 => .ret y4))))
def f (s : List UInt8) : Option (Bool) := (t s).val
def F (x : D.den) : Option (Bool) := f x.2
def pa : D.den → (Bool) → A.den := fun (_, _) y1 => ((), y1)
def con : Con := tcon D A pa F
theorem ok : ConOk Tryz.prog 75 con := tcon_ok Base.mixed Base.prog_ok bk_ref1_Dec_ok (by kernel_rfl) (.cons L5.ok (by kernel_rfl) (.nil)) 9 (fun _ => rfl) (fun x => t x.2) (fun _ => rfl) fun _ _ _ => (by kernel_rfl)
end ref6_Host
def bk_ref6_Host : Book := bk_ref1_Dec.add 75 ref6_Host.con
theorem bk_ref6_Host_ok : BookOk Tryz.prog bk_ref6_Host := bk_ref1_Dec_ok.add ref6_Host.ok
namespace ref25_origin
def D : Dom := ⟨[], .str⟩
def A : Dom := ⟨[], .bool⟩
def sel : List Nat := [0]
def t (s : List UInt8) : Tr (Bool) :=
 .br (s == [(42 : UInt8)]) (.ret true)
 (.br (decide ((↑s.length : Int) > (7 : Int))) (.chk ((0 : Int) ≤ (0 : Int) ∧ (0 : Int) ≤ (7 : Int) ∧ (7 : Int) ≤ (↑s.length : Int)) <| .br (List.drop (↑(0 : Nat) : Int).toNat (List.take (Int.toNat (7 : Int)) s) == [(104 : UInt8), (116 : UInt8), (116 : UInt8), (112 : UInt8), (58 : UInt8), (47 : UInt8), (47 : UInt8)]) (.chk ((0 : Int) ≤ (7 : Int) ∧ (7 : Int) ≤ (↑s.length : Int) ∧ (↑s.length : Int) ≤ (↑s.length : Int)) <| .call (ref6_Host.f (List.drop (Int.toNat (7 : Int)) (List.take (↑s.length : Int).toNat s))) fun y1 =>
   .ret y1)
  (.ret false))
  (.ret false))
def f (s : List UInt8) : Option (Bool) := (t s).val
def F (x : D.den) : Option (Bool) := f x.2
def pa : D.den → (Bool) → A.den := fun (_, _) y1 => ((), y1)
def con : Con := tcon D A pa F
theorem ok : ConOk Tryz.prog 42 con := tcon_ok Base.mixed Base.prog_ok bk_ref6_Host_ok (by kernel_rfl) LapsOk.nil 9 (fun _ => rfl) (fun x => t x.2) (fun _ => rfl) fun _ _ _ => (by kernel_rfl)
end ref25_origin
def bk_ref25_origin : Book := bk_ref6_Host.add 42 ref25_origin.con
theorem bk_ref25_origin_ok : BookOk Tryz.prog bk_ref25_origin := bk_ref6_Host_ok.add ref25_origin.ok
namespace ref1_put_r0
def D : Dom := ⟨[], (.cat (.int .i64) (.int .i64))⟩
def A : Dom := ⟨[], .str⟩
def sel : List Nat := []
def f : Option (List UInt8) := none
def F (x : D.den) : Option (List UInt8) := f
def pa : D.den → (List UInt8) → A.den := fun _ y1 => ((), y1)
def con : Con := tcon D A pa F
theorem ok : ConOk Tryz.prog 54 con := fun x h => absurd rfl h
end ref1_put_r0
def bk_ref1_put_r0 : Book := bk_ref25_origin.add 54 ref1_put_r0.con
theorem bk_ref1_put_r0_ok : BookOk Tryz.prog bk_ref1_put_r0 := bk_ref25_origin_ok.add ref1_put_r0.ok
namespace ref1_put_r1
def D : Dom := ⟨[], (.cat (.int .i64) (.int .i64))⟩
def A : Dom := ⟨[], .str⟩
def sel : List Nat := [0, 1]
def t (n : Int) (base : Int) : Tr (List UInt8) :=
 .br (decide (n < base)) (.chk ((0 : Int) ≤ mx2 n (0 : Int) ∧ mx2 n (0 : Int) ≤ IntKind.i64.wrap (mx2 n (0 : Int) + (1 : Int)) ∧ IntKind.i64.wrap (mx2 n (0 : Int) + (1 : Int)) ≤ (16 : Int)) <| .ret (List.drop (mx2 n (0 : Int)).toNat (List.take (IntKind.i64.wrap (mx2 n (0 : Int) + (1 : Int))).toNat [(48 : UInt8), (49 : UInt8), (50 : UInt8), (51 : UInt8), (52 : UInt8), (53 : UInt8), (54 : UInt8), (55 : UInt8), (56 : UInt8), (57 : UInt8), (97 : UInt8), (98 : UInt8), (99 : UInt8), (100 : UInt8), (101 : UInt8), (102 : UInt8)])))
 (.chk (base ≠ (0 : Int)) <| .call (ref1_put_r0.f) fun y1 =>
  .chk (base ≠ (0 : Int)) <| .call (ref1_put_r0.f) fun y2 =>
  .chk ((↑(y1.length + y2.length) : Int) ≤ (9223372036854775807 : Int)) <| .ret (y1 ++ y2))
def f (n : Int) (base : Int) : Option (List UInt8) := (t n base).val
def F (x : D.den) : Option (List UInt8) := f x.2.1 x.2.2
def pa : D.den → (List UInt8) → A.den := fun (_, (_, _)) y1 => ((), y1)
def con : Con := tcon D A pa F
theorem ok : ConOk Tryz.prog 54 con := tcon_ok Base.mixed Base.prog_ok bk_ref1_put_r0_ok (by kernel_rfl) LapsOk.nil 9 (fun _ => rfl) (fun x => t x.2.1 x.2.2) (fun _ => rfl) fun _ _ _ => (by kernel_rfl)
end ref1_put_r1
def bk_ref1_put_r1 : Book := bk_ref1_put_r0.add 54 ref1_put_r1.con
theorem bk_ref1_put_r1_ok : BookOk Tryz.prog bk_ref1_put_r1 := bk_ref1_put_r0_ok.add ref1_put_r1.ok
namespace ref1_put_r2
def D : Dom := ⟨[], (.cat (.int .i64) (.int .i64))⟩
def A : Dom := ⟨[], .str⟩
def sel : List Nat := [0, 1]
def t (n : Int) (base : Int) : Tr (List UInt8) :=
 .br (decide (n < base)) (.chk ((0 : Int) ≤ mx2 n (0 : Int) ∧ mx2 n (0 : Int) ≤ IntKind.i64.wrap (mx2 n (0 : Int) + (1 : Int)) ∧ IntKind.i64.wrap (mx2 n (0 : Int) + (1 : Int)) ≤ (16 : Int)) <| .ret (List.drop (mx2 n (0 : Int)).toNat (List.take (IntKind.i64.wrap (mx2 n (0 : Int) + (1 : Int))).toNat [(48 : UInt8), (49 : UInt8), (50 : UInt8), (51 : UInt8), (52 : UInt8), (53 : UInt8), (54 : UInt8), (55 : UInt8), (56 : UInt8), (57 : UInt8), (97 : UInt8), (98 : UInt8), (99 : UInt8), (100 : UInt8), (101 : UInt8), (102 : UInt8)])))
 (.chk (base ≠ (0 : Int)) <| .call (ref1_put_r1.f (IntKind.i64.wrap (n.tdiv base)) base) fun y1 =>
  .chk (base ≠ (0 : Int)) <| .call (ref1_put_r1.f (n.tmod base) base) fun y2 =>
  .chk ((↑(y1.length + y2.length) : Int) ≤ (9223372036854775807 : Int)) <| .ret (y1 ++ y2))
def f (n : Int) (base : Int) : Option (List UInt8) := (t n base).val
def F (x : D.den) : Option (List UInt8) := f x.2.1 x.2.2
def pa : D.den → (List UInt8) → A.den := fun (_, (_, _)) y1 => ((), y1)
def con : Con := tcon D A pa F
theorem ok : ConOk Tryz.prog 54 con := tcon_ok Base.mixed Base.prog_ok bk_ref1_put_r1_ok (by kernel_rfl) LapsOk.nil 9 (fun _ => rfl) (fun x => t x.2.1 x.2.2) (fun _ => rfl) fun _ _ _ => (by kernel_rfl)
end ref1_put_r2
def bk_ref1_put_r2 : Book := bk_ref1_put_r1.add 54 ref1_put_r2.con
theorem bk_ref1_put_r2_ok : BookOk Tryz.prog bk_ref1_put_r2 := bk_ref1_put_r1_ok.add ref1_put_r2.ok
namespace ref1_put_r3
def D : Dom := ⟨[], (.cat (.int .i64) (.int .i64))⟩
def A : Dom := ⟨[], .str⟩
def sel : List Nat := [0, 1]
def t (n : Int) (base : Int) : Tr (List UInt8) :=
 .br (decide (n < base)) (.chk ((0 : Int) ≤ mx2 n (0 : Int) ∧ mx2 n (0 : Int) ≤ IntKind.i64.wrap (mx2 n (0 : Int) + (1 : Int)) ∧ IntKind.i64.wrap (mx2 n (0 : Int) + (1 : Int)) ≤ (16 : Int)) <| .ret (List.drop (mx2 n (0 : Int)).toNat (List.take (IntKind.i64.wrap (mx2 n (0 : Int) + (1 : Int))).toNat [(48 : UInt8), (49 : UInt8), (50 : UInt8), (51 : UInt8), (52 : UInt8), (53 : UInt8), (54 : UInt8), (55 : UInt8), (56 : UInt8), (57 : UInt8), (97 : UInt8), (98 : UInt8), (99 : UInt8), (100 : UInt8), (101 : UInt8), (102 : UInt8)])))
 (.chk (base ≠ (0 : Int)) <| .call (ref1_put_r2.f (IntKind.i64.wrap (n.tdiv base)) base) fun y1 =>
  .chk (base ≠ (0 : Int)) <| .call (ref1_put_r2.f (n.tmod base) base) fun y2 =>
  .chk ((↑(y1.length + y2.length) : Int) ≤ (9223372036854775807 : Int)) <| .ret (y1 ++ y2))
def f (n : Int) (base : Int) : Option (List UInt8) := (t n base).val
def F (x : D.den) : Option (List UInt8) := f x.2.1 x.2.2
def pa : D.den → (List UInt8) → A.den := fun (_, (_, _)) y1 => ((), y1)
def con : Con := tcon D A pa F
theorem ok : ConOk Tryz.prog 54 con := tcon_ok Base.mixed Base.prog_ok bk_ref1_put_r2_ok (by kernel_rfl) LapsOk.nil 9 (fun _ => rfl) (fun x => t x.2.1 x.2.2) (fun _ => rfl) fun _ _ _ => (by kernel_rfl)
end ref1_put_r3
def bk_ref1_put_r3 : Book := bk_ref1_put_r2.add 54 ref1_put_r3.con
theorem bk_ref1_put_r3_ok : BookOk Tryz.prog bk_ref1_put_r3 := bk_ref1_put_r2_ok.add ref1_put_r3.ok
namespace ref1_put_r4
def D : Dom := ⟨[], (.cat (.int .i64) (.int .i64))⟩
def A : Dom := ⟨[], .str⟩
def sel : List Nat := [0, 1]
def t (n : Int) (base : Int) : Tr (List UInt8) :=
 .br (decide (n < base)) (.chk ((0 : Int) ≤ mx2 n (0 : Int) ∧ mx2 n (0 : Int) ≤ IntKind.i64.wrap (mx2 n (0 : Int) + (1 : Int)) ∧ IntKind.i64.wrap (mx2 n (0 : Int) + (1 : Int)) ≤ (16 : Int)) <| .ret (List.drop (mx2 n (0 : Int)).toNat (List.take (IntKind.i64.wrap (mx2 n (0 : Int) + (1 : Int))).toNat [(48 : UInt8), (49 : UInt8), (50 : UInt8), (51 : UInt8), (52 : UInt8), (53 : UInt8), (54 : UInt8), (55 : UInt8), (56 : UInt8), (57 : UInt8), (97 : UInt8), (98 : UInt8), (99 : UInt8), (100 : UInt8), (101 : UInt8), (102 : UInt8)])))
 (.chk (base ≠ (0 : Int)) <| .call (ref1_put_r3.f (IntKind.i64.wrap (n.tdiv base)) base) fun y1 =>
  .chk (base ≠ (0 : Int)) <| .call (ref1_put_r3.f (n.tmod base) base) fun y2 =>
  .chk ((↑(y1.length + y2.length) : Int) ≤ (9223372036854775807 : Int)) <| .ret (y1 ++ y2))
def f (n : Int) (base : Int) : Option (List UInt8) := (t n base).val
def F (x : D.den) : Option (List UInt8) := f x.2.1 x.2.2
def pa : D.den → (List UInt8) → A.den := fun (_, (_, _)) y1 => ((), y1)
def con : Con := tcon D A pa F
theorem ok : ConOk Tryz.prog 54 con := tcon_ok Base.mixed Base.prog_ok bk_ref1_put_r3_ok (by kernel_rfl) LapsOk.nil 9 (fun _ => rfl) (fun x => t x.2.1 x.2.2) (fun _ => rfl) fun _ _ _ => (by kernel_rfl)
end ref1_put_r4
def bk_ref1_put_r4 : Book := bk_ref1_put_r3.add 54 ref1_put_r4.con
theorem bk_ref1_put_r4_ok : BookOk Tryz.prog bk_ref1_put_r4 := bk_ref1_put_r3_ok.add ref1_put_r4.ok
namespace ref1_put_r5
def D : Dom := ⟨[], (.cat (.int .i64) (.int .i64))⟩
def A : Dom := ⟨[], .str⟩
def sel : List Nat := [0, 1]
def t (n : Int) (base : Int) : Tr (List UInt8) :=
 .br (decide (n < base)) (.chk ((0 : Int) ≤ mx2 n (0 : Int) ∧ mx2 n (0 : Int) ≤ IntKind.i64.wrap (mx2 n (0 : Int) + (1 : Int)) ∧ IntKind.i64.wrap (mx2 n (0 : Int) + (1 : Int)) ≤ (16 : Int)) <| .ret (List.drop (mx2 n (0 : Int)).toNat (List.take (IntKind.i64.wrap (mx2 n (0 : Int) + (1 : Int))).toNat [(48 : UInt8), (49 : UInt8), (50 : UInt8), (51 : UInt8), (52 : UInt8), (53 : UInt8), (54 : UInt8), (55 : UInt8), (56 : UInt8), (57 : UInt8), (97 : UInt8), (98 : UInt8), (99 : UInt8), (100 : UInt8), (101 : UInt8), (102 : UInt8)])))
 (.chk (base ≠ (0 : Int)) <| .call (ref1_put_r4.f (IntKind.i64.wrap (n.tdiv base)) base) fun y1 =>
  .chk (base ≠ (0 : Int)) <| .call (ref1_put_r4.f (n.tmod base) base) fun y2 =>
  .chk ((↑(y1.length + y2.length) : Int) ≤ (9223372036854775807 : Int)) <| .ret (y1 ++ y2))
def f (n : Int) (base : Int) : Option (List UInt8) := (t n base).val
def F (x : D.den) : Option (List UInt8) := f x.2.1 x.2.2
def pa : D.den → (List UInt8) → A.den := fun (_, (_, _)) y1 => ((), y1)
def con : Con := tcon D A pa F
theorem ok : ConOk Tryz.prog 54 con := tcon_ok Base.mixed Base.prog_ok bk_ref1_put_r4_ok (by kernel_rfl) LapsOk.nil 9 (fun _ => rfl) (fun x => t x.2.1 x.2.2) (fun _ => rfl) fun _ _ _ => (by kernel_rfl)
end ref1_put_r5
def bk_ref1_put_r5 : Book := bk_ref1_put_r4.add 54 ref1_put_r5.con
theorem bk_ref1_put_r5_ok : BookOk Tryz.prog bk_ref1_put_r5 := bk_ref1_put_r4_ok.add ref1_put_r5.ok
namespace ref1_put_r6
def D : Dom := ⟨[], (.cat (.int .i64) (.int .i64))⟩
def A : Dom := ⟨[], .str⟩
def sel : List Nat := [0, 1]
def t (n : Int) (base : Int) : Tr (List UInt8) :=
 .br (decide (n < base)) (.chk ((0 : Int) ≤ mx2 n (0 : Int) ∧ mx2 n (0 : Int) ≤ IntKind.i64.wrap (mx2 n (0 : Int) + (1 : Int)) ∧ IntKind.i64.wrap (mx2 n (0 : Int) + (1 : Int)) ≤ (16 : Int)) <| .ret (List.drop (mx2 n (0 : Int)).toNat (List.take (IntKind.i64.wrap (mx2 n (0 : Int) + (1 : Int))).toNat [(48 : UInt8), (49 : UInt8), (50 : UInt8), (51 : UInt8), (52 : UInt8), (53 : UInt8), (54 : UInt8), (55 : UInt8), (56 : UInt8), (57 : UInt8), (97 : UInt8), (98 : UInt8), (99 : UInt8), (100 : UInt8), (101 : UInt8), (102 : UInt8)])))
 (.chk (base ≠ (0 : Int)) <| .call (ref1_put_r5.f (IntKind.i64.wrap (n.tdiv base)) base) fun y1 =>
  .chk (base ≠ (0 : Int)) <| .call (ref1_put_r5.f (n.tmod base) base) fun y2 =>
  .chk ((↑(y1.length + y2.length) : Int) ≤ (9223372036854775807 : Int)) <| .ret (y1 ++ y2))
def f (n : Int) (base : Int) : Option (List UInt8) := (t n base).val
def F (x : D.den) : Option (List UInt8) := f x.2.1 x.2.2
def pa : D.den → (List UInt8) → A.den := fun (_, (_, _)) y1 => ((), y1)
def con : Con := tcon D A pa F
theorem ok : ConOk Tryz.prog 54 con := tcon_ok Base.mixed Base.prog_ok bk_ref1_put_r5_ok (by kernel_rfl) LapsOk.nil 9 (fun _ => rfl) (fun x => t x.2.1 x.2.2) (fun _ => rfl) fun _ _ _ => (by kernel_rfl)
end ref1_put_r6
def bk_ref1_put_r6 : Book := bk_ref1_put_r5.add 54 ref1_put_r6.con
theorem bk_ref1_put_r6_ok : BookOk Tryz.prog bk_ref1_put_r6 := bk_ref1_put_r5_ok.add ref1_put_r6.ok
namespace ref1_put_r7
def D : Dom := ⟨[], (.cat (.int .i64) (.int .i64))⟩
def A : Dom := ⟨[], .str⟩
def sel : List Nat := [0, 1]
def t (n : Int) (base : Int) : Tr (List UInt8) :=
 .br (decide (n < base)) (.chk ((0 : Int) ≤ mx2 n (0 : Int) ∧ mx2 n (0 : Int) ≤ IntKind.i64.wrap (mx2 n (0 : Int) + (1 : Int)) ∧ IntKind.i64.wrap (mx2 n (0 : Int) + (1 : Int)) ≤ (16 : Int)) <| .ret (List.drop (mx2 n (0 : Int)).toNat (List.take (IntKind.i64.wrap (mx2 n (0 : Int) + (1 : Int))).toNat [(48 : UInt8), (49 : UInt8), (50 : UInt8), (51 : UInt8), (52 : UInt8), (53 : UInt8), (54 : UInt8), (55 : UInt8), (56 : UInt8), (57 : UInt8), (97 : UInt8), (98 : UInt8), (99 : UInt8), (100 : UInt8), (101 : UInt8), (102 : UInt8)])))
 (.chk (base ≠ (0 : Int)) <| .call (ref1_put_r6.f (IntKind.i64.wrap (n.tdiv base)) base) fun y1 =>
  .chk (base ≠ (0 : Int)) <| .call (ref1_put_r6.f (n.tmod base) base) fun y2 =>
  .chk ((↑(y1.length + y2.length) : Int) ≤ (9223372036854775807 : Int)) <| .ret (y1 ++ y2))
def f (n : Int) (base : Int) : Option (List UInt8) := (t n base).val
def F (x : D.den) : Option (List UInt8) := f x.2.1 x.2.2
def pa : D.den → (List UInt8) → A.den := fun (_, (_, _)) y1 => ((), y1)
def con : Con := tcon D A pa F
theorem ok : ConOk Tryz.prog 54 con := tcon_ok Base.mixed Base.prog_ok bk_ref1_put_r6_ok (by kernel_rfl) LapsOk.nil 9 (fun _ => rfl) (fun x => t x.2.1 x.2.2) (fun _ => rfl) fun _ _ _ => (by kernel_rfl)
end ref1_put_r7
def bk_ref1_put_r7 : Book := bk_ref1_put_r6.add 54 ref1_put_r7.con
theorem bk_ref1_put_r7_ok : BookOk Tryz.prog bk_ref1_put_r7 := bk_ref1_put_r6_ok.add ref1_put_r7.ok
namespace ref1_put_r8
def D : Dom := ⟨[], (.cat (.int .i64) (.int .i64))⟩
def A : Dom := ⟨[], .str⟩
def sel : List Nat := [0, 1]
def t (n : Int) (base : Int) : Tr (List UInt8) :=
 .br (decide (n < base)) (.chk ((0 : Int) ≤ mx2 n (0 : Int) ∧ mx2 n (0 : Int) ≤ IntKind.i64.wrap (mx2 n (0 : Int) + (1 : Int)) ∧ IntKind.i64.wrap (mx2 n (0 : Int) + (1 : Int)) ≤ (16 : Int)) <| .ret (List.drop (mx2 n (0 : Int)).toNat (List.take (IntKind.i64.wrap (mx2 n (0 : Int) + (1 : Int))).toNat [(48 : UInt8), (49 : UInt8), (50 : UInt8), (51 : UInt8), (52 : UInt8), (53 : UInt8), (54 : UInt8), (55 : UInt8), (56 : UInt8), (57 : UInt8), (97 : UInt8), (98 : UInt8), (99 : UInt8), (100 : UInt8), (101 : UInt8), (102 : UInt8)])))
 (.chk (base ≠ (0 : Int)) <| .call (ref1_put_r7.f (IntKind.i64.wrap (n.tdiv base)) base) fun y1 =>
  .chk (base ≠ (0 : Int)) <| .call (ref1_put_r7.f (n.tmod base) base) fun y2 =>
  .chk ((↑(y1.length + y2.length) : Int) ≤ (9223372036854775807 : Int)) <| .ret (y1 ++ y2))
def f (n : Int) (base : Int) : Option (List UInt8) := (t n base).val
def F (x : D.den) : Option (List UInt8) := f x.2.1 x.2.2
def pa : D.den → (List UInt8) → A.den := fun (_, (_, _)) y1 => ((), y1)
def con : Con := tcon D A pa F
theorem ok : ConOk Tryz.prog 54 con := tcon_ok Base.mixed Base.prog_ok bk_ref1_put_r7_ok (by kernel_rfl) LapsOk.nil 9 (fun _ => rfl) (fun x => t x.2.1 x.2.2) (fun _ => rfl) fun _ _ _ => (by kernel_rfl)
end ref1_put_r8
def bk_ref1_put_r8 : Book := bk_ref1_put_r7.add 54 ref1_put_r8.con
theorem bk_ref1_put_r8_ok : BookOk Tryz.prog bk_ref1_put_r8 := bk_ref1_put_r7_ok.add ref1_put_r8.ok
namespace ref1_Put
def D : Dom := ⟨[], (.int .i64)⟩
def A : Dom := ⟨[], .str⟩
def sel : List Nat := [0]
def t (n : Int) : Tr (List UInt8) :=
 .call (ref1_put_r8.f n (10 : Int)) fun y1 =>
 .ret y1
def f (n : Int) : Option (List UInt8) := (t n).val
def F (x : D.den) : Option (List UInt8) := f x.2
def pa : D.den → (List UInt8) → A.den := fun (_, _) y1 => ((), y1)
def con : Con := tcon D A pa F
theorem ok : ConOk Tryz.prog 25 con := tcon_ok Base.mixed Base.prog_ok bk_ref1_put_r8_ok (by kernel_rfl) LapsOk.nil 9 (fun _ => rfl) (fun x => t x.2) (fun _ => rfl) fun _ _ _ => (by kernel_rfl)
end ref1_Put
def bk_ref1_Put : Book := bk_ref1_put_r8.add 25 ref1_Put.con
theorem bk_ref1_Put_ok : BookOk Tryz.prog bk_ref1_Put := bk_ref1_put_r8_ok.add ref1_Put.ok
namespace ref22_small
def D : Dom := ⟨[], (.cat .str (.int .i64))⟩
def A : Dom := ⟨[], (.tup (.cat (.int .i64) .bool))⟩
def sel : List Nat := [0, 1]
def t (s : List UInt8) (most : Int) : Tr (Int × Bool) :=
 .call (ref1_Dec.f s most) fun (y1a, y1b) =>
 .br (y1b == (0 : Int)) (.call (ref1_Put.f y1a) fun y2 =>
  .ret (y1a, y2 == s))
 (.ret (y1a, false))
def f (s : List UInt8) (most : Int) : Option (Int × Bool) := (t s most).val
def F (x : D.den) : Option (Int × Bool) := f x.2.1 x.2.2
def pa : D.den → (Int × Bool) → A.den := fun (_, (_, _)) (y1, y2) => ((), (y1, y2))
def con : Con := tcon D A pa F
theorem ok : ConOk Tryz.prog 77 con := tcon_ok Base.mixed Base.prog_ok bk_ref1_Put_ok (by kernel_rfl) LapsOk.nil 9 (fun _ => rfl) (fun x => t x.2.1 x.2.2) (fun _ => rfl) fun _ _ _ => (by kernel_rfl)
end ref22_small
def bk_ref22_small : Book := bk_ref1_Put.add 77 ref22_small.con
theorem bk_ref22_small_ok : BookOk Tryz.prog bk_ref22_small := bk_ref1_Put_ok.add ref22_small.ok
namespace ref22_IP
def D : Dom := ⟨[], .str⟩
namespace L4
def D : Dom := ⟨[.vec .str 9 false], (.cat (.sl 0 1) (.cat (.int .u32) (.int .i64)))⟩
def A : Dom := ⟨[], (.int .u32)⟩
def B : Dom := ⟨[], (.cat (.int .u32) .bool)⟩
def sel : List Nat := [0, 1, 2]
def t (l : List (List UInt8)) (ip : Int) (i : Int) : Tr ((Int × Int) ⊕ ((Int) ⊕ (Int × Bool))) :=
 .br (decide (i < (↑l.length : Int))) (.chk ((0 : Int) ≤ i ∧ i < (↑l.length : Int)) <| .chk ((0 : Nat) + i.toNat < l.length) <| .call (ref22_small.f (l.getD ((0 : Nat) + i.toNat) []) (255 : Int)) fun (y1a, y1b) =>
  .br (!y1b) (.ret (.inr (.inr ((0 : Int), false))))
  (.br ((↑l.length : Int) != (4 : Int)) (.ret (.inr (.inr ((0 : Int), false))))
  (.okl l.length <| .ret (.inl (IntKind.u32.wrap (↑(BitVec.ofInt IntKind.u32.bits (IntKind.u32.wrap (ip * (2 : Int) ^ (8 : Nat))) ||| BitVec.ofInt IntKind.u32.bits (IntKind.u32.wrap y1a)).toNat : Int), IntKind.i64.wrap (i + (1 : Int)))))))
 (.ret (.inr (.inl ip)))
def f (l : List (List UInt8)) (ip : Int) (i : Int) : Option ((Int) ⊕ (Int × Bool)) := Loop (fun z : Int × Int => t l z.1 z.2) (ip, i)
def F (x : D.den) : Option ((Int) ⊕ (Int × Bool)) := f x.1.1 x.2.2.1 x.2.2.2
def pa : D.den → (Int) → A.den := fun ((_, _), (_, (_, _))) y1 => ((), y1)
def pb : D.den → (Int × Bool) → B.den := fun ((_, _), (_, (_, _))) (y1, y2) => ((), (y1, y2))
def lap : Lap := tlap2 4 38 [4, 5, 6] D (.exit 0) [5] A .ret [2, 3] B pa pb F
def pk (x : D.den) (z : Int × Int) : D.den := ((x.1.1, ()), ((), (z.1, z.2)))
def un (x : D.den) : Int × Int := (x.2.2.1, x.2.2.2)
def body (x : D.den) (z : Int × Int) : Tr ((Int × Int) ⊕ ((Int) ⊕ (Int × Bool))) := t x.1.1 z.1 z.2
theorem ok : LapOk Tryz.prog 0 (codeOf Tryz.prog 76) lap := tlap2_ok Base.mixed Base.prog_ok bk_ref22_small_ok (by kernel_rfl) (by kernel_rfl) LapsOk.nil 9 pk un body (fun _ _ => rfl) (fun _ _ => rfl) (fun _ _ => rfl) (fun _ _ => rfl) (fun _ => rfl) fun _ _ _ _ => (by kernel_rfl)
end L4
def A : Dom := ⟨[], (.tup (.cat (.int .u32) .bool))⟩
def sel : List Nat := [0]
def t (s : List UInt8) : Tr (Int × Bool) :=
 .call (ref1_Split.f s (46 : Int)) fun y1 =>
 .okl y1.length <| .both (ref22_IP.L4.f y1 (0 : Int) (0 : Int)) (fun y2 => .ret (y2, true))
 (fun (y3a, y3b) => .ret (y3a, y3b))
def f (s : List UInt8) : Option (Int × Bool) := (t s).val
def F (x : D.den) : Option (Int × Bool) := f x.2
def pa : D.den → (Int × Bool) → A.den := fun (_, _) (y1, y2) => ((), (y1, y2))
def con : Con := tcon D A pa F
theorem ok : ConOk Tryz.prog 76 con := tcon_ok Base.mixed Base.prog_ok bk_ref22_small_ok (by kernel_rfl) (.cons L4.ok (by kernel_rfl) (.nil)) 9 (fun _ => rfl) (fun x => t x.2) (fun _ => rfl) fun _ _ _ => (by kernel_rfl)
end ref22_IP
def bk_ref22_IP : Book := bk_ref22_small.add 76 ref22_IP.con
theorem bk_ref22_IP_ok : BookOk Tryz.prog bk_ref22_IP := bk_ref22_small_ok.add ref22_IP.ok
namespace ref22_mask
def D : Dom := ⟨[], (.int .i64)⟩
def A : Dom := ⟨[], (.int .u32)⟩
def sel : List Nat := [0]
def t (n : Int) : Tr (Int) :=
 .br (n == (0 : Int)) (.ret (0 : Int))
 (.chk (¬IntKind.i64.wrap ((32 : Int) - n) < (0 : Int)) <| .ret (IntKind.u32.wrap ((4294967295 : Int) * (2 : Int) ^ min (IntKind.i64.wrap ((32 : Int) - n)).toNat IntKind.u32.bits)))
def f (n : Int) : Option (Int) := (t n).val
def F (x : D.den) : Option (Int) := f x.2
def pa : D.den → (Int) → A.den := fun (_, _) y1 => ((), y1)
def con : Con := tcon D A pa F
theorem ok : ConOk Tryz.prog 78 con := tcon_ok Base.mixed Base.prog_ok bk_ref22_IP_ok (by kernel_rfl) LapsOk.nil 9 (fun _ => rfl) (fun x => t x.2) (fun _ => rfl) fun _ _ _ => (by kernel_rfl)
end ref22_mask
def bk_ref22_mask : Book := bk_ref22_IP.add 78 ref22_mask.con
theorem bk_ref22_mask_ok : BookOk Tryz.prog bk_ref22_mask := bk_ref22_IP_ok.add ref22_mask.ok
namespace ref22_Net
def D : Dom := ⟨[], .str⟩
def A : Dom := ⟨[], (.tup (.cat (.int .u32) (.cat (.int .i64) .bool)))⟩
def sel : List Nat := [0]
def t (s : List UInt8) : Tr (Int × Int × Bool) :=
 .call (ref1_Split.f s (47 : Int)) fun y1 =>
 .br ((↑y1.length : Int) != (2 : Int)) (.ret ((0 : Int), (0 : Int), false))
 (.chk ((0 : Int) ≤ (0 : Int) ∧ (0 : Int) < (↑y1.length : Int)) <| .chk ((0 : Nat) < y1.length) <| .call (ref22_IP.f (y1.getD (0 : Nat) [])) fun (y2a, y2b) =>
  .chk ((0 : Int) ≤ (1 : Int) ∧ (1 : Int) < (↑y1.length : Int)) <| .chk ((1 : Nat) < y1.length) <| .call (ref22_small.f (y1.getD (1 : Nat) []) (32 : Int)) fun (y3a, y3b) =>
  .br (!y2b) (.ret ((0 : Int), (0 : Int), false))
  (.br (!y3b) (.ret ((0 : Int), (0 : Int), false))
  (.call (ref22_mask.f y3a) fun y4 =>
   .br (IntKind.u32.wrap (↑(BitVec.ofInt IntKind.u32.bits y2a &&& ~~~BitVec.ofInt IntKind.u32.bits y4).toNat : Int) != (0 : Int)) (.ret ((0 : Int), (0 : Int), false))
   (.ret (y2a, y3a, true)))))
def f (s : List UInt8) : Option (Int × Int × Bool) := (t s).val
def F (x : D.den) : Option (Int × Int × Bool) := f x.2
def pa : D.den → (Int × Int × Bool) → A.den := fun (_, _) (y1, y2, y3) => ((), (y1, (y2, y3)))
def con : Con := tcon D A pa F
theorem ok : ConOk Tryz.prog 43 con := tcon_ok Base.mixed Base.prog_ok bk_ref22_mask_ok (by kernel_rfl) LapsOk.nil 9 (fun _ => rfl) (fun x => t x.2) (fun _ => rfl) fun _ _ _ => (by kernel_rfl)
end ref22_Net
def bk_ref22_Net : Book := bk_ref22_mask.add 43 ref22_Net.con
theorem bk_ref22_Net_ok : BookOk Tryz.prog bk_ref22_Net := bk_ref22_mask_ok.add ref22_Net.ok
namespace ref25_Right
def D : Dom := rule_alone.D
def A : Dom := ⟨[], .bool⟩
def sel : List Nat := [0, 1, 2, 3, 4]
def t (Kind : Int) (Name : List UInt8) (Value : List UInt8) (N : Int) (M : Int) : Tr (Bool) :=
 .call (ref25_uses.f Kind) fun (y1a, y1b, y1c, y1d) =>
 .br (!y1a) (.br (!Name == []) (.ret false)
  (.br (!y1b) (.br (N != (0 : Int)) (.ret false)
   (.br (!y1c) (.br (M != (0 : Int)) (.ret false)
    (.br (!y1d) (.br (!Value == []) (.ret false)
     (.br (decide ((↑Name.length : Int) > (256 : Int))) (.ret false)
     (.br (decide ((↑Value.length : Int) > (256 : Int))) (.ret false)
      (.br (Kind == (1 : Int)) (.call (ref25_free.f Name) fun y2 =>
       .br y2 (.call (ref9_Right.f Name Value) fun y3 =>
       .ret y3)
       (.ret false))
      (.br (Kind == (3 : Int)) (.call (ref25_free.f Name) fun y4 =>
       .br y4 (.call (ref9_Right.f Name Value) fun y5 =>
        .ret y5)
       (.ret false))
       (.br (Kind == (2 : Int)) (.call (ref25_free.f Name) fun y6 =>
        .ret y6)
       (.br (Kind == (4 : Int)) (.br (decide ((↑Name.length : Int) ≤ (64 : Int))) (.br (decide ((↑Value.length : Int) ≤ (64 : Int))) (.call (ref6_Path.f Name) fun y7 =>
         .br y7 (.call (ref6_Path.f Value) fun y8 =>
          .ret y8)
         (.ret false))
         (.ret false))
        (.ret false))
        (.br (Kind == (5 : Int)) (.call (ref25_realm.f Name) fun y9 =>
         .br y9 (.call (ref1_All.f [(2 : Int)] Value) fun y10 =>
         .br y10 (.call (ref1_Split.f Value (58 : Int)) fun y11 =>
          .ret (decide ((↑y11.length : Int) > (1 : Int))))
         (.ret false))
         (.ret false))
        (.br (Kind == (6 : Int)) (.call (ref25_origin.f Value) fun y12 =>
         .ret y12)
         (.br (Kind == (7 : Int)) (.call (ref22_Net.f Value) fun (_, _, y13c) =>
          .ret y13c)
         (.br (Kind == (8 : Int)) (.call (ref22_Net.f Value) fun (_, _, y14c) =>
          .ret y14c)
          (.br (Kind == (9 : Int)) (.br (decide (N ≥ (0 : Int))) (.br (decide (N ≤ (1000 : Int))) (.br (decide (M ≥ (1 : Int))) (.ret (decide (M ≤ (1000 : Int))))
            (.ret false))
           (.ret false))
           (.ret false))
          (.br (Kind == (10 : Int)) (.br (decide (N ≥ (0 : Int))) (.ret (decide (N ≤ (1048576 : Int))))
           (.ret false))
           (.br (Kind == (11 : Int)) (.br (N == (301 : Int)) (.call (ref6_Path.f Value) fun y15 =>
            .ret y15)
            (.br (N == (302 : Int)) (.call (ref6_Path.f Value) fun y16 =>
             .ret y16)
            (.br (N == (307 : Int)) (.call (ref6_Path.f Value) fun y17 =>
             .ret y17)
             (.br (N == (308 : Int)) (.call (ref6_Path.f Value) fun y18 =>
              .ret y18)
             (.ret false)))))
           (.br (Kind == (12 : Int)) (.br (decide (N ≥ (200 : Int))) (.br (decide (N ≤ (599 : Int))) (.call (ref1_All.f [(6 : Int)] Value) fun y19 =>
             .ret y19)
             (.ret false))
            (.ret false))
            (.ret false))))))))))))))))
    (.br (decide ((↑Name.length : Int) > (256 : Int))) (.ret false)
     (.br (decide ((↑Value.length : Int) > (256 : Int))) (.ret false)
     (.br (Kind == (1 : Int)) (.call (ref25_free.f Name) fun y20 =>
      .br y20 (.call (ref9_Right.f Name Value) fun y21 =>
       .ret y21)
      (.ret false))
      (.br (Kind == (3 : Int)) (.call (ref25_free.f Name) fun y22 =>
       .br y22 (.call (ref9_Right.f Name Value) fun y23 =>
       .ret y23)
       (.ret false))
      (.br (Kind == (2 : Int)) (.call (ref25_free.f Name) fun y24 =>
       .ret y24)
       (.br (Kind == (4 : Int)) (.br (decide ((↑Name.length : Int) ≤ (64 : Int))) (.br (decide ((↑Value.length : Int) ≤ (64 : Int))) (.call (ref6_Path.f Name) fun y25 =>
         .br y25 (.call (ref6_Path.f Value) fun y26 =>
         .ret y26)
         (.ret false))
        (.ret false))
        (.ret false))
       (.br (Kind == (5 : Int)) (.call (ref25_realm.f Name) fun y27 =>
        .br y27 (.call (ref1_All.f [(2 : Int)] Value) fun y28 =>
         .br y28 (.call (ref1_Split.f Value (58 : Int)) fun y29 =>
         .ret (decide ((↑y29.length : Int) > (1 : Int))))
         (.ret false))
        (.ret false))
        (.br (Kind == (6 : Int)) (.call (ref25_origin.f Value) fun y30 =>
         .ret y30)
        (.br (Kind == (7 : Int)) (.call (ref22_Net.f Value) fun (_, _, y31c) =>
         .ret y31c)
         (.br (Kind == (8 : Int)) (.call (ref22_Net.f Value) fun (_, _, y32c) =>
          .ret y32c)
         (.br (Kind == (9 : Int)) (.br (decide (N ≥ (0 : Int))) (.br (decide (N ≤ (1000 : Int))) (.br (decide (M ≥ (1 : Int))) (.ret (decide (M ≤ (1000 : Int))))
           (.ret false))
           (.ret false))
          (.ret false))
          (.br (Kind == (10 : Int)) (.br (decide (N ≥ (0 : Int))) (.ret (decide (N ≤ (1048576 : Int))))
           (.ret false))
          (.br (Kind == (11 : Int)) (.br (N == (301 : Int)) (.call (ref6_Path.f Value) fun y33 =>
            .ret y33)
           (.br (N == (302 : Int)) (.call (ref6_Path.f Value) fun y34 =>
            .ret y34)
            (.br (N == (307 : Int)) (.call (ref6_Path.f Value) fun y35 =>
             .ret y35)
            (.br (N == (308 : Int)) (.call (ref6_Path.f Value) fun y36 =>
             .ret y36)
             (.ret false)))))
           (.br (Kind == (12 : Int)) (.br (decide (N ≥ (200 : Int))) (.br (decide (N ≤ (599 : Int))) (.call (ref1_All.f [(6 : Int)] Value) fun y37 =>
             .ret y37)
            (.ret false))
            (.ret false))
           (.ret false)))))))))))))))))
   (.br (!y1d) (.br (!Value == []) (.ret false)
    (.br (decide ((↑Name.length : Int) > (256 : Int))) (.ret false)
     (.br (decide ((↑Value.length : Int) > (256 : Int))) (.ret false)
     (.br (Kind == (1 : Int)) (.call (ref25_free.f Name) fun y38 =>
      .br y38 (.call (ref9_Right.f Name Value) fun y39 =>
       .ret y39)
      (.ret false))
      (.br (Kind == (3 : Int)) (.call (ref25_free.f Name) fun y40 =>
       .br y40 (.call (ref9_Right.f Name Value) fun y41 =>
       .ret y41)
       (.ret false))
      (.br (Kind == (2 : Int)) (.call (ref25_free.f Name) fun y42 =>
       .ret y42)
       (.br (Kind == (4 : Int)) (.br (decide ((↑Name.length : Int) ≤ (64 : Int))) (.br (decide ((↑Value.length : Int) ≤ (64 : Int))) (.call (ref6_Path.f Name) fun y43 =>
         .br y43 (.call (ref6_Path.f Value) fun y44 =>
         .ret y44)
         (.ret false))
        (.ret false))
        (.ret false))
       (.br (Kind == (5 : Int)) (.call (ref25_realm.f Name) fun y45 =>
        .br y45 (.call (ref1_All.f [(2 : Int)] Value) fun y46 =>
         .br y46 (.call (ref1_Split.f Value (58 : Int)) fun y47 =>
         .ret (decide ((↑y47.length : Int) > (1 : Int))))
         (.ret false))
        (.ret false))
        (.br (Kind == (6 : Int)) (.call (ref25_origin.f Value) fun y48 =>
         .ret y48)
        (.br (Kind == (7 : Int)) (.call (ref22_Net.f Value) fun (_, _, y49c) =>
         .ret y49c)
         (.br (Kind == (8 : Int)) (.call (ref22_Net.f Value) fun (_, _, y50c) =>
          .ret y50c)
         (.br (Kind == (9 : Int)) (.br (decide (N ≥ (0 : Int))) (.br (decide (N ≤ (1000 : Int))) (.br (decide (M ≥ (1 : Int))) (.ret (decide (M ≤ (1000 : Int))))
           (.ret false))
           (.ret false))
          (.ret false))
          (.br (Kind == (10 : Int)) (.br (decide (N ≥ (0 : Int))) (.ret (decide (N ≤ (1048576 : Int))))
           (.ret false))
          (.br (Kind == (11 : Int)) (.br (N == (301 : Int)) (.call (ref6_Path.f Value) fun y51 =>
            .ret y51)
           (.br (N == (302 : Int)) (.call (ref6_Path.f Value) fun y52 =>
            .ret y52)
            (.br (N == (307 : Int)) (.call (ref6_Path.f Value) fun y53 =>
             .ret y53)
            (.br (N == (308 : Int)) (.call (ref6_Path.f Value) fun y54 =>
             .ret y54)
             (.ret false)))))
           (.br (Kind == (12 : Int)) (.br (decide (N ≥ (200 : Int))) (.br (decide (N ≤ (599 : Int))) (.call (ref1_All.f [(6 : Int)] Value) fun y55 =>
             .ret y55)
            (.ret false))
            (.ret false))
           (.ret false))))))))))))))))
    (.br (decide ((↑Name.length : Int) > (256 : Int))) (.ret false)
    (.br (decide ((↑Value.length : Int) > (256 : Int))) (.ret false)
     (.br (Kind == (1 : Int)) (.call (ref25_free.f Name) fun y56 =>
      .br y56 (.call (ref9_Right.f Name Value) fun y57 =>
      .ret y57)
      (.ret false))
     (.br (Kind == (3 : Int)) (.call (ref25_free.f Name) fun y58 =>
      .br y58 (.call (ref9_Right.f Name Value) fun y59 =>
       .ret y59)
      (.ret false))
      (.br (Kind == (2 : Int)) (.call (ref25_free.f Name) fun y60 =>
       .ret y60)
      (.br (Kind == (4 : Int)) (.br (decide ((↑Name.length : Int) ≤ (64 : Int))) (.br (decide ((↑Value.length : Int) ≤ (64 : Int))) (.call (ref6_Path.f Name) fun y61 =>
        .br y61 (.call (ref6_Path.f Value) fun y62 =>
         .ret y62)
        (.ret false))
        (.ret false))
       (.ret false))
       (.br (Kind == (5 : Int)) (.call (ref25_realm.f Name) fun y63 =>
        .br y63 (.call (ref1_All.f [(2 : Int)] Value) fun y64 =>
        .br y64 (.call (ref1_Split.f Value (58 : Int)) fun y65 =>
         .ret (decide ((↑y65.length : Int) > (1 : Int))))
        (.ret false))
        (.ret false))
       (.br (Kind == (6 : Int)) (.call (ref25_origin.f Value) fun y66 =>
        .ret y66)
        (.br (Kind == (7 : Int)) (.call (ref22_Net.f Value) fun (_, _, y67c) =>
         .ret y67c)
        (.br (Kind == (8 : Int)) (.call (ref22_Net.f Value) fun (_, _, y68c) =>
         .ret y68c)
         (.br (Kind == (9 : Int)) (.br (decide (N ≥ (0 : Int))) (.br (decide (N ≤ (1000 : Int))) (.br (decide (M ≥ (1 : Int))) (.ret (decide (M ≤ (1000 : Int))))
           (.ret false))
          (.ret false))
          (.ret false))
         (.br (Kind == (10 : Int)) (.br (decide (N ≥ (0 : Int))) (.ret (decide (N ≤ (1048576 : Int))))
          (.ret false))
          (.br (Kind == (11 : Int)) (.br (N == (301 : Int)) (.call (ref6_Path.f Value) fun y69 =>
           .ret y69)
           (.br (N == (302 : Int)) (.call (ref6_Path.f Value) fun y70 =>
            .ret y70)
           (.br (N == (307 : Int)) (.call (ref6_Path.f Value) fun y71 =>
            .ret y71)
            (.br (N == (308 : Int)) (.call (ref6_Path.f Value) fun y72 =>
             .ret y72)
            (.ret false)))))
          (.br (Kind == (12 : Int)) (.br (decide (N ≥ (200 : Int))) (.br (decide (N ≤ (599 : Int))) (.call (ref1_All.f [(6 : Int)] Value) fun y73 =>
            .ret y73)
            (.ret false))
           (.ret false))
           (.ret false))))))))))))))))))
  (.br (!y1c) (.br (M != (0 : Int)) (.ret false)
   (.br (!y1d) (.br (!Value == []) (.ret false)
    (.br (decide ((↑Name.length : Int) > (256 : Int))) (.ret false)
     (.br (decide ((↑Value.length : Int) > (256 : Int))) (.ret false)
     (.br (Kind == (1 : Int)) (.call (ref25_free.f Name) fun y74 =>
      .br y74 (.call (ref9_Right.f Name Value) fun y75 =>
       .ret y75)
      (.ret false))
      (.br (Kind == (3 : Int)) (.call (ref25_free.f Name) fun y76 =>
       .br y76 (.call (ref9_Right.f Name Value) fun y77 =>
       .ret y77)
       (.ret false))
      (.br (Kind == (2 : Int)) (.call (ref25_free.f Name) fun y78 =>
       .ret y78)
       (.br (Kind == (4 : Int)) (.br (decide ((↑Name.length : Int) ≤ (64 : Int))) (.br (decide ((↑Value.length : Int) ≤ (64 : Int))) (.call (ref6_Path.f Name) fun y79 =>
         .br y79 (.call (ref6_Path.f Value) fun y80 =>
         .ret y80)
         (.ret false))
        (.ret false))
        (.ret false))
       (.br (Kind == (5 : Int)) (.call (ref25_realm.f Name) fun y81 =>
        .br y81 (.call (ref1_All.f [(2 : Int)] Value) fun y82 =>
         .br y82 (.call (ref1_Split.f Value (58 : Int)) fun y83 =>
         .ret (decide ((↑y83.length : Int) > (1 : Int))))
         (.ret false))
        (.ret false))
        (.br (Kind == (6 : Int)) (.call (ref25_origin.f Value) fun y84 =>
         .ret y84)
        (.br (Kind == (7 : Int)) (.call (ref22_Net.f Value) fun (_, _, y85c) =>
         .ret y85c)
         (.br (Kind == (8 : Int)) (.call (ref22_Net.f Value) fun (_, _, y86c) =>
          .ret y86c)
         (.br (Kind == (9 : Int)) (.br (decide (N ≥ (0 : Int))) (.br (decide (N ≤ (1000 : Int))) (.br (decide (M ≥ (1 : Int))) (.ret (decide (M ≤ (1000 : Int))))
           (.ret false))
           (.ret false))
          (.ret false))
          (.br (Kind == (10 : Int)) (.br (decide (N ≥ (0 : Int))) (.ret (decide (N ≤ (1048576 : Int))))
           (.ret false))
          (.br (Kind == (11 : Int)) (.br (N == (301 : Int)) (.call (ref6_Path.f Value) fun y87 =>
            .ret y87)
           (.br (N == (302 : Int)) (.call (ref6_Path.f Value) fun y88 =>
            .ret y88)
            (.br (N == (307 : Int)) (.call (ref6_Path.f Value) fun y89 =>
             .ret y89)
            (.br (N == (308 : Int)) (.call (ref6_Path.f Value) fun y90 =>
             .ret y90)
             (.ret false)))))
           (.br (Kind == (12 : Int)) (.br (decide (N ≥ (200 : Int))) (.br (decide (N ≤ (599 : Int))) (.call (ref1_All.f [(6 : Int)] Value) fun y91 =>
             .ret y91)
            (.ret false))
            (.ret false))
           (.ret false))))))))))))))))
    (.br (decide ((↑Name.length : Int) > (256 : Int))) (.ret false)
    (.br (decide ((↑Value.length : Int) > (256 : Int))) (.ret false)
     (.br (Kind == (1 : Int)) (.call (ref25_free.f Name) fun y92 =>
      .br y92 (.call (ref9_Right.f Name Value) fun y93 =>
      .ret y93)
      (.ret false))
     (.br (Kind == (3 : Int)) (.call (ref25_free.f Name) fun y94 =>
      .br y94 (.call (ref9_Right.f Name Value) fun y95 =>
       .ret y95)
      (.ret false))
      (.br (Kind == (2 : Int)) (.call (ref25_free.f Name) fun y96 =>
       .ret y96)
      (.br (Kind == (4 : Int)) (.br (decide ((↑Name.length : Int) ≤ (64 : Int))) (.br (decide ((↑Value.length : Int) ≤ (64 : Int))) (.call (ref6_Path.f Name) fun y97 =>
        .br y97 (.call (ref6_Path.f Value) fun y98 =>
         .ret y98)
        (.ret false))
        (.ret false))
       (.ret false))
       (.br (Kind == (5 : Int)) (.call (ref25_realm.f Name) fun y99 =>
        .br y99 (.call (ref1_All.f [(2 : Int)] Value) fun y100 =>
        .br y100 (.call (ref1_Split.f Value (58 : Int)) fun y101 =>
         .ret (decide ((↑y101.length : Int) > (1 : Int))))
        (.ret false))
        (.ret false))
       (.br (Kind == (6 : Int)) (.call (ref25_origin.f Value) fun y102 =>
        .ret y102)
        (.br (Kind == (7 : Int)) (.call (ref22_Net.f Value) fun (_, _, y103c) =>
         .ret y103c)
        (.br (Kind == (8 : Int)) (.call (ref22_Net.f Value) fun (_, _, y104c) =>
         .ret y104c)
         (.br (Kind == (9 : Int)) (.br (decide (N ≥ (0 : Int))) (.br (decide (N ≤ (1000 : Int))) (.br (decide (M ≥ (1 : Int))) (.ret (decide (M ≤ (1000 : Int))))
           (.ret false))
          (.ret false))
          (.ret false))
         (.br (Kind == (10 : Int)) (.br (decide (N ≥ (0 : Int))) (.ret (decide (N ≤ (1048576 : Int))))
          (.ret false))
          (.br (Kind == (11 : Int)) (.br (N == (301 : Int)) (.call (ref6_Path.f Value) fun y105 =>
           .ret y105)
           (.br (N == (302 : Int)) (.call (ref6_Path.f Value) fun y106 =>
            .ret y106)
           (.br (N == (307 : Int)) (.call (ref6_Path.f Value) fun y107 =>
            .ret y107)
            (.br (N == (308 : Int)) (.call (ref6_Path.f Value) fun y108 =>
             .ret y108)
            (.ret false)))))
          (.br (Kind == (12 : Int)) (.br (decide (N ≥ (200 : Int))) (.br (decide (N ≤ (599 : Int))) (.call (ref1_All.f [(6 : Int)] Value) fun y109 =>
            .ret y109)
            (.ret false))
           (.ret false))
           (.ret false)))))))))))))))))
   (.br (!y1d) (.br (!Value == []) (.ret false)
    (.br (decide ((↑Name.length : Int) > (256 : Int))) (.ret false)
    (.br (decide ((↑Value.length : Int) > (256 : Int))) (.ret false)
     (.br (Kind == (1 : Int)) (.call (ref25_free.f Name) fun y110 =>
      .br y110 (.call (ref9_Right.f Name Value) fun y111 =>
      .ret y111)
      (.ret false))
     (.br (Kind == (3 : Int)) (.call (ref25_free.f Name) fun y112 =>
      .br y112 (.call (ref9_Right.f Name Value) fun y113 =>
       .ret y113)
      (.ret false))
      (.br (Kind == (2 : Int)) (.call (ref25_free.f Name) fun y114 =>
       .ret y114)
      (.br (Kind == (4 : Int)) (.br (decide ((↑Name.length : Int) ≤ (64 : Int))) (.br (decide ((↑Value.length : Int) ≤ (64 : Int))) (.call (ref6_Path.f Name) fun y115 =>
        .br y115 (.call (ref6_Path.f Value) fun y116 =>
         .ret y116)
        (.ret false))
        (.ret false))
       (.ret false))
       (.br (Kind == (5 : Int)) (.call (ref25_realm.f Name) fun y117 =>
        .br y117 (.call (ref1_All.f [(2 : Int)] Value) fun y118 =>
        .br y118 (.call (ref1_Split.f Value (58 : Int)) fun y119 =>
         .ret (decide ((↑y119.length : Int) > (1 : Int))))
        (.ret false))
        (.ret false))
       (.br (Kind == (6 : Int)) (.call (ref25_origin.f Value) fun y120 =>
        .ret y120)
        (.br (Kind == (7 : Int)) (.call (ref22_Net.f Value) fun (_, _, y121c) =>
         .ret y121c)
        (.br (Kind == (8 : Int)) (.call (ref22_Net.f Value) fun (_, _, y122c) =>
         .ret y122c)
         (.br (Kind == (9 : Int)) (.br (decide (N ≥ (0 : Int))) (.br (decide (N ≤ (1000 : Int))) (.br (decide (M ≥ (1 : Int))) (.ret (decide (M ≤ (1000 : Int))))
           (.ret false))
          (.ret false))
          (.ret false))
         (.br (Kind == (10 : Int)) (.br (decide (N ≥ (0 : Int))) (.ret (decide (N ≤ (1048576 : Int))))
          (.ret false))
          (.br (Kind == (11 : Int)) (.br (N == (301 : Int)) (.call (ref6_Path.f Value) fun y123 =>
           .ret y123)
           (.br (N == (302 : Int)) (.call (ref6_Path.f Value) fun y124 =>
            .ret y124)
           (.br (N == (307 : Int)) (.call (ref6_Path.f Value) fun y125 =>
            .ret y125)
            (.br (N == (308 : Int)) (.call (ref6_Path.f Value) fun y126 =>
             .ret y126)
            (.ret false)))))
          (.br (Kind == (12 : Int)) (.br (decide (N ≥ (200 : Int))) (.br (decide (N ≤ (599 : Int))) (.call (ref1_All.f [(6 : Int)] Value) fun y127 =>
            .ret y127)
            (.ret false))
           (.ret false))
           (.ret false))))))))))))))))
   (.br (decide ((↑Name.length : Int) > (256 : Int))) (.ret false)
    (.br (decide ((↑Value.length : Int) > (256 : Int))) (.ret false)
    (.br (Kind == (1 : Int)) (.call (ref25_free.f Name) fun y128 =>
     .br y128 (.call (ref9_Right.f Name Value) fun y129 =>
      .ret y129)
     (.ret false))
     (.br (Kind == (3 : Int)) (.call (ref25_free.f Name) fun y130 =>
      .br y130 (.call (ref9_Right.f Name Value) fun y131 =>
      .ret y131)
      (.ret false))
     (.br (Kind == (2 : Int)) (.call (ref25_free.f Name) fun y132 =>
      .ret y132)
      (.br (Kind == (4 : Int)) (.br (decide ((↑Name.length : Int) ≤ (64 : Int))) (.br (decide ((↑Value.length : Int) ≤ (64 : Int))) (.call (ref6_Path.f Name) fun y133 =>
        .br y133 (.call (ref6_Path.f Value) fun y134 =>
        .ret y134)
        (.ret false))
       (.ret false))
       (.ret false))
      (.br (Kind == (5 : Int)) (.call (ref25_realm.f Name) fun y135 =>
       .br y135 (.call (ref1_All.f [(2 : Int)] Value) fun y136 =>
        .br y136 (.call (ref1_Split.f Value (58 : Int)) fun y137 =>
        .ret (decide ((↑y137.length : Int) > (1 : Int))))
        (.ret false))
       (.ret false))
       (.br (Kind == (6 : Int)) (.call (ref25_origin.f Value) fun y138 =>
        .ret y138)
       (.br (Kind == (7 : Int)) (.call (ref22_Net.f Value) fun (_, _, y139c) =>
        .ret y139c)
        (.br (Kind == (8 : Int)) (.call (ref22_Net.f Value) fun (_, _, y140c) =>
         .ret y140c)
        (.br (Kind == (9 : Int)) (.br (decide (N ≥ (0 : Int))) (.br (decide (N ≤ (1000 : Int))) (.br (decide (M ≥ (1 : Int))) (.ret (decide (M ≤ (1000 : Int))))
          (.ret false))
          (.ret false))
         (.ret false))
         (.br (Kind == (10 : Int)) (.br (decide (N ≥ (0 : Int))) (.ret (decide (N ≤ (1048576 : Int))))
          (.ret false))
         (.br (Kind == (11 : Int)) (.br (N == (301 : Int)) (.call (ref6_Path.f Value) fun y141 =>
           .ret y141)
          (.br (N == (302 : Int)) (.call (ref6_Path.f Value) fun y142 =>
           .ret y142)
           (.br (N == (307 : Int)) (.call (ref6_Path.f Value) fun y143 =>
            .ret y143)
           (.br (N == (308 : Int)) (.call (ref6_Path.f Value) fun y144 =>
            .ret y144)
            (.ret false)))))
          (.br (Kind == (12 : Int)) (.br (decide (N ≥ (200 : Int))) (.br (decide (N ≤ (599 : Int))) (.call (ref1_All.f [(6 : Int)] Value) fun y145 =>
            .ret y145)
           (.ret false))
           (.ret false))
          (.ret false)))))))))))))))))))
 (.br (!y1b) (.br (N != (0 : Int)) (.ret false)
  (.br (!y1c) (.br (M != (0 : Int)) (.ret false)
   (.br (!y1d) (.br (!Value == []) (.ret false)
    (.br (decide ((↑Name.length : Int) > (256 : Int))) (.ret false)
     (.br (decide ((↑Value.length : Int) > (256 : Int))) (.ret false)
     (.br (Kind == (1 : Int)) (.call (ref25_free.f Name) fun y146 =>
      .br y146 (.call (ref9_Right.f Name Value) fun y147 =>
       .ret y147)
      (.ret false))
      (.br (Kind == (3 : Int)) (.call (ref25_free.f Name) fun y148 =>
       .br y148 (.call (ref9_Right.f Name Value) fun y149 =>
       .ret y149)
       (.ret false))
      (.br (Kind == (2 : Int)) (.call (ref25_free.f Name) fun y150 =>
       .ret y150)
       (.br (Kind == (4 : Int)) (.br (decide ((↑Name.length : Int) ≤ (64 : Int))) (.br (decide ((↑Value.length : Int) ≤ (64 : Int))) (.call (ref6_Path.f Name) fun y151 =>
         .br y151 (.call (ref6_Path.f Value) fun y152 =>
         .ret y152)
         (.ret false))
        (.ret false))
        (.ret false))
       (.br (Kind == (5 : Int)) (.call (ref25_realm.f Name) fun y153 =>
        .br y153 (.call (ref1_All.f [(2 : Int)] Value) fun y154 =>
         .br y154 (.call (ref1_Split.f Value (58 : Int)) fun y155 =>
         .ret (decide ((↑y155.length : Int) > (1 : Int))))
         (.ret false))
        (.ret false))
        (.br (Kind == (6 : Int)) (.call (ref25_origin.f Value) fun y156 =>
         .ret y156)
        (.br (Kind == (7 : Int)) (.call (ref22_Net.f Value) fun (_, _, y157c) =>
         .ret y157c)
         (.br (Kind == (8 : Int)) (.call (ref22_Net.f Value) fun (_, _, y158c) =>
          .ret y158c)
         (.br (Kind == (9 : Int)) (.br (decide (N ≥ (0 : Int))) (.br (decide (N ≤ (1000 : Int))) (.br (decide (M ≥ (1 : Int))) (.ret (decide (M ≤ (1000 : Int))))
           (.ret false))
           (.ret false))
          (.ret false))
          (.br (Kind == (10 : Int)) (.br (decide (N ≥ (0 : Int))) (.ret (decide (N ≤ (1048576 : Int))))
           (.ret false))
          (.br (Kind == (11 : Int)) (.br (N == (301 : Int)) (.call (ref6_Path.f Value) fun y159 =>
            .ret y159)
           (.br (N == (302 : Int)) (.call (ref6_Path.f Value) fun y160 =>
            .ret y160)
            (.br (N == (307 : Int)) (.call (ref6_Path.f Value) fun y161 =>
             .ret y161)
            (.br (N == (308 : Int)) (.call (ref6_Path.f Value) fun y162 =>
             .ret y162)
             (.ret false)))))
           (.br (Kind == (12 : Int)) (.br (decide (N ≥ (200 : Int))) (.br (decide (N ≤ (599 : Int))) (.call (ref1_All.f [(6 : Int)] Value) fun y163 =>
             .ret y163)
            (.ret false))
            (.ret false))
           (.ret false))))))))))))))))
    (.br (decide ((↑Name.length : Int) > (256 : Int))) (.ret false)
    (.br (decide ((↑Value.length : Int) > (256 : Int))) (.ret false)
     (.br (Kind == (1 : Int)) (.call (ref25_free.f Name) fun y164 =>
      .br y164 (.call (ref9_Right.f Name Value) fun y165 =>
      .ret y165)
      (.ret false))
     (.br (Kind == (3 : Int)) (.call (ref25_free.f Name) fun y166 =>
      .br y166 (.call (ref9_Right.f Name Value) fun y167 =>
       .ret y167)
      (.ret false))
      (.br (Kind == (2 : Int)) (.call (ref25_free.f Name) fun y168 =>
       .ret y168)
      (.br (Kind == (4 : Int)) (.br (decide ((↑Name.length : Int) ≤ (64 : Int))) (.br (decide ((↑Value.length : Int) ≤ (64 : Int))) (.call (ref6_Path.f Name) fun y169 =>
        .br y169 (.call (ref6_Path.f Value) fun y170 =>
         .ret y170)
        (.ret false))
        (.ret false))
       (.ret false))
       (.br (Kind == (5 : Int)) (.call (ref25_realm.f Name) fun y171 =>
        .br y171 (.call (ref1_All.f [(2 : Int)] Value) fun y172 =>
        .br y172 (.call (ref1_Split.f Value (58 : Int)) fun y173 =>
         .ret (decide ((↑y173.length : Int) > (1 : Int))))
        (.ret false))
        (.ret false))
       (.br (Kind == (6 : Int)) (.call (ref25_origin.f Value) fun y174 =>
        .ret y174)
        (.br (Kind == (7 : Int)) (.call (ref22_Net.f Value) fun (_, _, y175c) =>
         .ret y175c)
        (.br (Kind == (8 : Int)) (.call (ref22_Net.f Value) fun (_, _, y176c) =>
         .ret y176c)
         (.br (Kind == (9 : Int)) (.br (decide (N ≥ (0 : Int))) (.br (decide (N ≤ (1000 : Int))) (.br (decide (M ≥ (1 : Int))) (.ret (decide (M ≤ (1000 : Int))))
           (.ret false))
          (.ret false))
          (.ret false))
         (.br (Kind == (10 : Int)) (.br (decide (N ≥ (0 : Int))) (.ret (decide (N ≤ (1048576 : Int))))
          (.ret false))
          (.br (Kind == (11 : Int)) (.br (N == (301 : Int)) (.call (ref6_Path.f Value) fun y177 =>
           .ret y177)
           (.br (N == (302 : Int)) (.call (ref6_Path.f Value) fun y178 =>
            .ret y178)
           (.br (N == (307 : Int)) (.call (ref6_Path.f Value) fun y179 =>
            .ret y179)
            (.br (N == (308 : Int)) (.call (ref6_Path.f Value) fun y180 =>
             .ret y180)
            (.ret false)))))
          (.br (Kind == (12 : Int)) (.br (decide (N ≥ (200 : Int))) (.br (decide (N ≤ (599 : Int))) (.call (ref1_All.f [(6 : Int)] Value) fun y181 =>
            .ret y181)
            (.ret false))
           (.ret false))
           (.ret false)))))))))))))))))
   (.br (!y1d) (.br (!Value == []) (.ret false)
    (.br (decide ((↑Name.length : Int) > (256 : Int))) (.ret false)
    (.br (decide ((↑Value.length : Int) > (256 : Int))) (.ret false)
     (.br (Kind == (1 : Int)) (.call (ref25_free.f Name) fun y182 =>
      .br y182 (.call (ref9_Right.f Name Value) fun y183 =>
      .ret y183)
      (.ret false))
     (.br (Kind == (3 : Int)) (.call (ref25_free.f Name) fun y184 =>
      .br y184 (.call (ref9_Right.f Name Value) fun y185 =>
       .ret y185)
      (.ret false))
      (.br (Kind == (2 : Int)) (.call (ref25_free.f Name) fun y186 =>
       .ret y186)
      (.br (Kind == (4 : Int)) (.br (decide ((↑Name.length : Int) ≤ (64 : Int))) (.br (decide ((↑Value.length : Int) ≤ (64 : Int))) (.call (ref6_Path.f Name) fun y187 =>
        .br y187 (.call (ref6_Path.f Value) fun y188 =>
         .ret y188)
        (.ret false))
        (.ret false))
       (.ret false))
       (.br (Kind == (5 : Int)) (.call (ref25_realm.f Name) fun y189 =>
        .br y189 (.call (ref1_All.f [(2 : Int)] Value) fun y190 =>
        .br y190 (.call (ref1_Split.f Value (58 : Int)) fun y191 =>
         .ret (decide ((↑y191.length : Int) > (1 : Int))))
        (.ret false))
        (.ret false))
       (.br (Kind == (6 : Int)) (.call (ref25_origin.f Value) fun y192 =>
        .ret y192)
        (.br (Kind == (7 : Int)) (.call (ref22_Net.f Value) fun (_, _, y193c) =>
         .ret y193c)
        (.br (Kind == (8 : Int)) (.call (ref22_Net.f Value) fun (_, _, y194c) =>
         .ret y194c)
         (.br (Kind == (9 : Int)) (.br (decide (N ≥ (0 : Int))) (.br (decide (N ≤ (1000 : Int))) (.br (decide (M ≥ (1 : Int))) (.ret (decide (M ≤ (1000 : Int))))
           (.ret false))
          (.ret false))
          (.ret false))
         (.br (Kind == (10 : Int)) (.br (decide (N ≥ (0 : Int))) (.ret (decide (N ≤ (1048576 : Int))))
          (.ret false))
          (.br (Kind == (11 : Int)) (.br (N == (301 : Int)) (.call (ref6_Path.f Value) fun y195 =>
           .ret y195)
           (.br (N == (302 : Int)) (.call (ref6_Path.f Value) fun y196 =>
            .ret y196)
           (.br (N == (307 : Int)) (.call (ref6_Path.f Value) fun y197 =>
            .ret y197)
            (.br (N == (308 : Int)) (.call (ref6_Path.f Value) fun y198 =>
             .ret y198)
            (.ret false)))))
          (.br (Kind == (12 : Int)) (.br (decide (N ≥ (200 : Int))) (.br (decide (N ≤ (599 : Int))) (.call (ref1_All.f [(6 : Int)] Value) fun y199 =>
            .ret y199)
            (.ret false))
           (.ret false))
           (.ret false))))))))))))))))
   (.br (decide ((↑Name.length : Int) > (256 : Int))) (.ret false)
    (.br (decide ((↑Value.length : Int) > (256 : Int))) (.ret false)
    (.br (Kind == (1 : Int)) (.call (ref25_free.f Name) fun y200 =>
     .br y200 (.call (ref9_Right.f Name Value) fun y201 =>
      .ret y201)
     (.ret false))
     (.br (Kind == (3 : Int)) (.call (ref25_free.f Name) fun y202 =>
      .br y202 (.call (ref9_Right.f Name Value) fun y203 =>
      .ret y203)
      (.ret false))
     (.br (Kind == (2 : Int)) (.call (ref25_free.f Name) fun y204 =>
      .ret y204)
      (.br (Kind == (4 : Int)) (.br (decide ((↑Name.length : Int) ≤ (64 : Int))) (.br (decide ((↑Value.length : Int) ≤ (64 : Int))) (.call (ref6_Path.f Name) fun y205 =>
        .br y205 (.call (ref6_Path.f Value) fun y206 =>
        .ret y206)
        (.ret false))
       (.ret false))
       (.ret false))
      (.br (Kind == (5 : Int)) (.call (ref25_realm.f Name) fun y207 =>
       .br y207 (.call (ref1_All.f [(2 : Int)] Value) fun y208 =>
        .br y208 (.call (ref1_Split.f Value (58 : Int)) fun y209 =>
        .ret (decide ((↑y209.length : Int) > (1 : Int))))
        (.ret false))
       (.ret false))
       (.br (Kind == (6 : Int)) (.call (ref25_origin.f Value) fun y210 =>
        .ret y210)
       (.br (Kind == (7 : Int)) (.call (ref22_Net.f Value) fun (_, _, y211c) =>
        .ret y211c)
        (.br (Kind == (8 : Int)) (.call (ref22_Net.f Value) fun (_, _, y212c) =>
         .ret y212c)
        (.br (Kind == (9 : Int)) (.br (decide (N ≥ (0 : Int))) (.br (decide (N ≤ (1000 : Int))) (.br (decide (M ≥ (1 : Int))) (.ret (decide (M ≤ (1000 : Int))))
          (.ret false))
          (.ret false))
         (.ret false))
         (.br (Kind == (10 : Int)) (.br (decide (N ≥ (0 : Int))) (.ret (decide (N ≤ (1048576 : Int))))
          (.ret false))
         (.br (Kind == (11 : Int)) (.br (N == (301 : Int)) (.call (ref6_Path.f Value) fun y213 =>
           .ret y213)
          (.br (N == (302 : Int)) (.call (ref6_Path.f Value) fun y214 =>
           .ret y214)
           (.br (N == (307 : Int)) (.call (ref6_Path.f Value) fun y215 =>
            .ret y215)
           (.br (N == (308 : Int)) (.call (ref6_Path.f Value) fun y216 =>
            .ret y216)
            (.ret false)))))
          (.br (Kind == (12 : Int)) (.br (decide (N ≥ (200 : Int))) (.br (decide (N ≤ (599 : Int))) (.call (ref1_All.f [(6 : Int)] Value) fun y217 =>
            .ret y217)
           (.ret false))
           (.ret false))
          (.ret false))))))))))))))))))
  (.br (!y1c) (.br (M != (0 : Int)) (.ret false)
   (.br (!y1d) (.br (!Value == []) (.ret false)
    (.br (decide ((↑Name.length : Int) > (256 : Int))) (.ret false)
    (.br (decide ((↑Value.length : Int) > (256 : Int))) (.ret false)
     (.br (Kind == (1 : Int)) (.call (ref25_free.f Name) fun y218 =>
      .br y218 (.call (ref9_Right.f Name Value) fun y219 =>
      .ret y219)
      (.ret false))
     (.br (Kind == (3 : Int)) (.call (ref25_free.f Name) fun y220 =>
      .br y220 (.call (ref9_Right.f Name Value) fun y221 =>
       .ret y221)
      (.ret false))
      (.br (Kind == (2 : Int)) (.call (ref25_free.f Name) fun y222 =>
       .ret y222)
      (.br (Kind == (4 : Int)) (.br (decide ((↑Name.length : Int) ≤ (64 : Int))) (.br (decide ((↑Value.length : Int) ≤ (64 : Int))) (.call (ref6_Path.f Name) fun y223 =>
        .br y223 (.call (ref6_Path.f Value) fun y224 =>
         .ret y224)
        (.ret false))
        (.ret false))
       (.ret false))
       (.br (Kind == (5 : Int)) (.call (ref25_realm.f Name) fun y225 =>
        .br y225 (.call (ref1_All.f [(2 : Int)] Value) fun y226 =>
        .br y226 (.call (ref1_Split.f Value (58 : Int)) fun y227 =>
         .ret (decide ((↑y227.length : Int) > (1 : Int))))
        (.ret false))
        (.ret false))
       (.br (Kind == (6 : Int)) (.call (ref25_origin.f Value) fun y228 =>
        .ret y228)
        (.br (Kind == (7 : Int)) (.call (ref22_Net.f Value) fun (_, _, y229c) =>
         .ret y229c)
        (.br (Kind == (8 : Int)) (.call (ref22_Net.f Value) fun (_, _, y230c) =>
         .ret y230c)
         (.br (Kind == (9 : Int)) (.br (decide (N ≥ (0 : Int))) (.br (decide (N ≤ (1000 : Int))) (.br (decide (M ≥ (1 : Int))) (.ret (decide (M ≤ (1000 : Int))))
           (.ret false))
          (.ret false))
          (.ret false))
         (.br (Kind == (10 : Int)) (.br (decide (N ≥ (0 : Int))) (.ret (decide (N ≤ (1048576 : Int))))
          (.ret false))
          (.br (Kind == (11 : Int)) (.br (N == (301 : Int)) (.call (ref6_Path.f Value) fun y231 =>
           .ret y231)
           (.br (N == (302 : Int)) (.call (ref6_Path.f Value) fun y232 =>
            .ret y232)
           (.br (N == (307 : Int)) (.call (ref6_Path.f Value) fun y233 =>
            .ret y233)
            (.br (N == (308 : Int)) (.call (ref6_Path.f Value) fun y234 =>
             .ret y234)
            (.ret false)))))
          (.br (Kind == (12 : Int)) (.br (decide (N ≥ (200 : Int))) (.br (decide (N ≤ (599 : Int))) (.call (ref1_All.f [(6 : Int)] Value) fun y235 =>
            .ret y235)
            (.ret false))
           (.ret false))
           (.ret false))))))))))))))))
   (.br (decide ((↑Name.length : Int) > (256 : Int))) (.ret false)
    (.br (decide ((↑Value.length : Int) > (256 : Int))) (.ret false)
    (.br (Kind == (1 : Int)) (.call (ref25_free.f Name) fun y236 =>
     .br y236 (.call (ref9_Right.f Name Value) fun y237 =>
      .ret y237)
     (.ret false))
     (.br (Kind == (3 : Int)) (.call (ref25_free.f Name) fun y238 =>
      .br y238 (.call (ref9_Right.f Name Value) fun y239 =>
      .ret y239)
      (.ret false))
     (.br (Kind == (2 : Int)) (.call (ref25_free.f Name) fun y240 =>
      .ret y240)
      (.br (Kind == (4 : Int)) (.br (decide ((↑Name.length : Int) ≤ (64 : Int))) (.br (decide ((↑Value.length : Int) ≤ (64 : Int))) (.call (ref6_Path.f Name) fun y241 =>
        .br y241 (.call (ref6_Path.f Value) fun y242 =>
        .ret y242)
        (.ret false))
       (.ret false))
       (.ret false))
      (.br (Kind == (5 : Int)) (.call (ref25_realm.f Name) fun y243 =>
       .br y243 (.call (ref1_All.f [(2 : Int)] Value) fun y244 =>
        .br y244 (.call (ref1_Split.f Value (58 : Int)) fun y245 =>
        .ret (decide ((↑y245.length : Int) > (1 : Int))))
        (.ret false))
       (.ret false))
       (.br (Kind == (6 : Int)) (.call (ref25_origin.f Value) fun y246 =>
        .ret y246)
       (.br (Kind == (7 : Int)) (.call (ref22_Net.f Value) fun (_, _, y247c) =>
        .ret y247c)
        (.br (Kind == (8 : Int)) (.call (ref22_Net.f Value) fun (_, _, y248c) =>
         .ret y248c)
        (.br (Kind == (9 : Int)) (.br (decide (N ≥ (0 : Int))) (.br (decide (N ≤ (1000 : Int))) (.br (decide (M ≥ (1 : Int))) (.ret (decide (M ≤ (1000 : Int))))
          (.ret false))
          (.ret false))
         (.ret false))
         (.br (Kind == (10 : Int)) (.br (decide (N ≥ (0 : Int))) (.ret (decide (N ≤ (1048576 : Int))))
          (.ret false))
         (.br (Kind == (11 : Int)) (.br (N == (301 : Int)) (.call (ref6_Path.f Value) fun y249 =>
           .ret y249)
          (.br (N == (302 : Int)) (.call (ref6_Path.f Value) fun y250 =>
           .ret y250)
           (.br (N == (307 : Int)) (.call (ref6_Path.f Value) fun y251 =>
            .ret y251)
           (.br (N == (308 : Int)) (.call (ref6_Path.f Value) fun y252 =>
            .ret y252)
            (.ret false)))))
          (.br (Kind == (12 : Int)) (.br (decide (N ≥ (200 : Int))) (.br (decide (N ≤ (599 : Int))) (.call (ref1_All.f [(6 : Int)] Value) fun y253 =>
            .ret y253)
           (.ret false))
           (.ret false))
          (.ret false)))))))))))))))))
  (.br (!y1d) (.br (!Value == []) (.ret false)
   (.br (decide ((↑Name.length : Int) > (256 : Int))) (.ret false)
    (.br (decide ((↑Value.length : Int) > (256 : Int))) (.ret false)
    (.br (Kind == (1 : Int)) (.call (ref25_free.f Name) fun y254 =>
     .br y254 (.call (ref9_Right.f Name Value) fun y255 =>
      .ret y255)
     (.ret false))
     (.br (Kind == (3 : Int)) (.call (ref25_free.f Name) fun y256 =>
      .br y256 (.call (ref9_Right.f Name Value) fun y257 =>
      .ret y257)
      (.ret false))
     (.br (Kind == (2 : Int)) (.call (ref25_free.f Name) fun y258 =>
      .ret y258)
      (.br (Kind == (4 : Int)) (.br (decide ((↑Name.length : Int) ≤ (64 : Int))) (.br (decide ((↑Value.length : Int) ≤ (64 : Int))) (.call (ref6_Path.f Name) fun y259 =>
        .br y259 (.call (ref6_Path.f Value) fun y260 =>
        .ret y260)
        (.ret false))
       (.ret false))
       (.ret false))
      (.br (Kind == (5 : Int)) (.call (ref25_realm.f Name) fun y261 =>
       .br y261 (.call (ref1_All.f [(2 : Int)] Value) fun y262 =>
        .br y262 (.call (ref1_Split.f Value (58 : Int)) fun y263 =>
        .ret (decide ((↑y263.length : Int) > (1 : Int))))
        (.ret false))
       (.ret false))
       (.br (Kind == (6 : Int)) (.call (ref25_origin.f Value) fun y264 =>
        .ret y264)
       (.br (Kind == (7 : Int)) (.call (ref22_Net.f Value) fun (_, _, y265c) =>
        .ret y265c)
        (.br (Kind == (8 : Int)) (.call (ref22_Net.f Value) fun (_, _, y266c) =>
         .ret y266c)
        (.br (Kind == (9 : Int)) (.br (decide (N ≥ (0 : Int))) (.br (decide (N ≤ (1000 : Int))) (.br (decide (M ≥ (1 : Int))) (.ret (decide (M ≤ (1000 : Int))))
          (.ret false))
          (.ret false))
         (.ret false))
         (.br (Kind == (10 : Int)) (.br (decide (N ≥ (0 : Int))) (.ret (decide (N ≤ (1048576 : Int))))
          (.ret false))
         (.br (Kind == (11 : Int)) (.br (N == (301 : Int)) (.call (ref6_Path.f Value) fun y267 =>
           .ret y267)
          (.br (N == (302 : Int)) (.call (ref6_Path.f Value) fun y268 =>
           .ret y268)
           (.br (N == (307 : Int)) (.call (ref6_Path.f Value) fun y269 =>
            .ret y269)
           (.br (N == (308 : Int)) (.call (ref6_Path.f Value) fun y270 =>
            .ret y270)
            (.ret false)))))
          (.br (Kind == (12 : Int)) (.br (decide (N ≥ (200 : Int))) (.br (decide (N ≤ (599 : Int))) (.call (ref1_All.f [(6 : Int)] Value) fun y271 =>
            .ret y271)
           (.ret false))
           (.ret false))
          (.ret false))))))))))))))))
   (.br (decide ((↑Name.length : Int) > (256 : Int))) (.ret false)
   (.br (decide ((↑Value.length : Int) > (256 : Int))) (.ret false)
    (.br (Kind == (1 : Int)) (.call (ref25_free.f Name) fun y272 =>
     .br y272 (.call (ref9_Right.f Name Value) fun y273 =>
     .ret y273)
     (.ret false))
    (.br (Kind == (3 : Int)) (.call (ref25_free.f Name) fun y274 =>
     .br y274 (.call (ref9_Right.f Name Value) fun y275 =>
      .ret y275)
     (.ret false))
     (.br (Kind == (2 : Int)) (.call (ref25_free.f Name) fun y276 =>
      .ret y276)
     (.br (Kind == (4 : Int)) (.br (decide ((↑Name.length : Int) ≤ (64 : Int))) (.br (decide ((↑Value.length : Int) ≤ (64 : Int))) (.call (ref6_Path.f Name) fun y277 =>
       .br y277 (.call (ref6_Path.f Value) fun y278 =>
        .ret y278)
       (.ret false))
       (.ret false))
      (.ret false))
      (.br (Kind == (5 : Int)) (.call (ref25_realm.f Name) fun y279 =>
       .br y279 (.call (ref1_All.f [(2 : Int)] Value) fun y280 =>
       .br y280 (.call (ref1_Split.f Value (58 : Int)) fun y281 =>
        .ret (decide ((↑y281.length : Int) > (1 : Int))))
       (.ret false))
       (.ret false))
      (.br (Kind == (6 : Int)) (.call (ref25_origin.f Value) fun y282 =>
       .ret y282)
       (.br (Kind == (7 : Int)) (.call (ref22_Net.f Value) fun (_, _, y283c) =>
        .ret y283c)
       (.br (Kind == (8 : Int)) (.call (ref22_Net.f Value) fun (_, _, y284c) =>
        .ret y284c)
        (.br (Kind == (9 : Int)) (.br (decide (N ≥ (0 : Int))) (.br (decide (N ≤ (1000 : Int))) (.br (decide (M ≥ (1 : Int))) (.ret (decide (M ≤ (1000 : Int))))
          (.ret false))
         (.ret false))
         (.ret false))
        (.br (Kind == (10 : Int)) (.br (decide (N ≥ (0 : Int))) (.ret (decide (N ≤ (1048576 : Int))))
         (.ret false))
         (.br (Kind == (11 : Int)) (.br (N == (301 : Int)) (.call (ref6_Path.f Value) fun y285 =>
          .ret y285)
          (.br (N == (302 : Int)) (.call (ref6_Path.f Value) fun y286 =>
           .ret y286)
          (.br (N == (307 : Int)) (.call (ref6_Path.f Value) fun y287 =>
           .ret y287)
           (.br (N == (308 : Int)) (.call (ref6_Path.f Value) fun y288 =>
            .ret y288)
           (.ret false)))))
         (.br (Kind == (12 : Int)) (.br (decide (N ≥ (200 : Int))) (.br (decide (N ≤ (599 : Int))) (.call (ref1_All.f [(6 : Int)] Value) fun y289 =>
           .ret y289)
           (.ret false))
          (.ret false))
          (.ret false))))))))))))))))))
def f (Kind : Int) (Name : List UInt8) (Value : List UInt8) (N : Int) (M : Int) : Option (Bool) := (t Kind Name Value N M).val
def F (x : D.den) : Option (Bool) := f x.2.1 x.2.2.1 x.2.2.2.1 x.2.2.2.2.1 x.2.2.2.2.2
def pa : D.den → (Bool) → A.den := fun (_, (_, (_, (_, (_, _))))) y1 => ((), y1)
def con : Con := tcon D A pa F
theorem ok : ConOk Tryz.prog 14 con := tcon_ok Base.mixed Base.prog_ok bk_ref22_Net_ok (by kernel_rfl) LapsOk.nil 9 (fun _ => rfl) (fun x => t x.2.1 x.2.2.1 x.2.2.2.1 x.2.2.2.2.1 x.2.2.2.2.2) (fun _ => rfl) fun _ _ _ => (by kernel_rfl)
end ref25_Right
def bk_ref25_Right : Book := bk_ref22_Net.add 14 ref25_Right.con
theorem bk_ref25_Right_ok : BookOk Tryz.prog bk_ref25_Right := bk_ref22_Net_ok.add ref25_Right.ok
end Go.Vx
end
section
set_option maxRecDepth 1000000
set_option maxHeartbeats 4000000
set_option synthInstance.maxSize 100000
set_option synthInstance.maxHeartbeats 400000
set_option linter.unusedVariables false
namespace Go.Vx
open Go Go.Vx Go.Proofs
namespace ref25_Line
def D : Dom := rule_alone.D
def A : Dom := ⟨[], (.tup (.cat .str .bool))⟩
def sel : List Nat := [0, 1, 2, 3, 4]
def t (Kind : Int) (Name : List UInt8) (Value : List UInt8) (N : Int) (M : Int) : Tr (List UInt8 × Bool) :=
 .call (ref25_Right.f Kind Name Value N M) fun y1 =>
 .br (!y1) (.ret ([], false))
 (.call (ref25_uses.f Kind) fun (y2a, y2b, y2c, y2d) =>
  .call (ref25_names.f) fun y3 =>
  .chk ((0 : Int) ≤ IntKind.i64.wrap (Kind - (1 : Int)) ∧ IntKind.i64.wrap (Kind - (1 : Int)) < (↑y3.length : Int)) <| .chk ((0 : Nat) + (IntKind.i64.wrap (Kind - (1 : Int))).toNat < y3.length) <| .br y2a (.chk ((↑(List.length (y3.getD ((0 : Nat) + (IntKind.i64.wrap (Kind - (1 : Int))).toNat) []) + [(32 : UInt8)].length) : Int) ≤ (9223372036854775807 : Int)) <| .chk ((↑((y3.getD ((0 : Nat) + (IntKind.i64.wrap (Kind - (1 : Int))).toNat) [] ++ [(32 : UInt8)]).length + Name.length) : Int) ≤ (9223372036854775807 : Int)) <| .br y2b (.chk ((↑((y3.getD ((0 : Nat) + (IntKind.i64.wrap (Kind - (1 : Int))).toNat) [] ++ [(32 : UInt8)] ++ Name).length + [(32 : UInt8)].length) : Int) ≤ (9223372036854775807 : Int)) <| .call (ref1_Put.f N) fun y4 =>
   .chk ((↑((y3.getD ((0 : Nat) + (IntKind.i64.wrap (Kind - (1 : Int))).toNat) [] ++ [(32 : UInt8)] ++ Name ++ [(32 : UInt8)]).length + y4.length) : Int) ≤ (9223372036854775807 : Int)) <| .br y2c (.chk ((↑((y3.getD ((0 : Nat) + (IntKind.i64.wrap (Kind - (1 : Int))).toNat) [] ++ [(32 : UInt8)] ++ Name ++ [(32 : UInt8)] ++ y4).length + [(32 : UInt8)].length) : Int) ≤ (9223372036854775807 : Int)) <| .call (ref1_Put.f M) fun y5 =>
   .chk ((↑((y3.getD ((0 : Nat) + (IntKind.i64.wrap (Kind - (1 : Int))).toNat) [] ++ [(32 : UInt8)] ++ Name ++ [(32 : UInt8)] ++ y4 ++ [(32 : UInt8)]).length + y5.length) : Int) ≤ (9223372036854775807 : Int)) <| .br y2d (.chk ((↑((y3.getD ((0 : Nat) + (IntKind.i64.wrap (Kind - (1 : Int))).toNat) [] ++ [(32 : UInt8)] ++ Name ++ [(32 : UInt8)] ++ y4 ++ [(32 : UInt8)] ++ y5).length + [(32 : UInt8)].length) : Int) ≤ (9223372036854775807 : Int)) <| .chk ((↑((y3.getD ((0 : Nat) + (IntKind.i64.wrap (Kind - (1 : Int))).toNat) [] ++ [(32 : UInt8)] ++ Name ++ [(32 : UInt8)] ++ y4 ++ [(32 : UInt8)] ++ y5 ++ [(32 : UInt8)]).length + Value.length) : Int) ≤ (9223372036854775807 : Int)) <| .ret (y3.getD ((0 : Nat) + (IntKind.i64.wrap (Kind - (1 : Int))).toNat) [] ++ [(32 : UInt8)] ++ Name ++ [(32 : UInt8)] ++ y4 ++ [(32 : UInt8)] ++ y5 ++ [(32 : UInt8)] ++ Value, true))
   (.ret (y3.getD ((0 : Nat) + (IntKind.i64.wrap (Kind - (1 : Int))).toNat) [] ++ [(32 : UInt8)] ++ Name ++ [(32 : UInt8)] ++ y4 ++ [(32 : UInt8)] ++ y5, true)))
   (.br y2d (.chk ((↑((y3.getD ((0 : Nat) + (IntKind.i64.wrap (Kind - (1 : Int))).toNat) [] ++ [(32 : UInt8)] ++ Name ++ [(32 : UInt8)] ++ y4).length + [(32 : UInt8)].length) : Int) ≤ (9223372036854775807 : Int)) <| .chk ((↑((y3.getD ((0 : Nat) + (IntKind.i64.wrap (Kind - (1 : Int))).toNat) [] ++ [(32 : UInt8)] ++ Name ++ [(32 : UInt8)] ++ y4 ++ [(32 : UInt8)]).length + Value.length) : Int) ≤ (9223372036854775807 : Int)) <| .ret (y3.getD ((0 : Nat) + (IntKind.i64.wrap (Kind - (1 : Int))).toNat) [] ++ [(32 : UInt8)] ++ Name ++ [(32 : UInt8)] ++ y4 ++ [(32 : UInt8)] ++ Value, true))
   (.ret (y3.getD ((0 : Nat) + (IntKind.i64.wrap (Kind - (1 : Int))).toNat) [] ++ [(32 : UInt8)] ++ Name ++ [(32 : UInt8)] ++ y4, true))))
  (.br y2c (.chk ((↑((y3.getD ((0 : Nat) + (IntKind.i64.wrap (Kind - (1 : Int))).toNat) [] ++ [(32 : UInt8)] ++ Name).length + [(32 : UInt8)].length) : Int) ≤ (9223372036854775807 : Int)) <| .call (ref1_Put.f M) fun y6 =>
   .chk ((↑((y3.getD ((0 : Nat) + (IntKind.i64.wrap (Kind - (1 : Int))).toNat) [] ++ [(32 : UInt8)] ++ Name ++ [(32 : UInt8)]).length + y6.length) : Int) ≤ (9223372036854775807 : Int)) <| .br y2d (.chk ((↑((y3.getD ((0 : Nat) + (IntKind.i64.wrap (Kind - (1 : Int))).toNat) [] ++ [(32 : UInt8)] ++ Name ++ [(32 : UInt8)] ++ y6).length + [(32 : UInt8)].length) : Int) ≤ (9223372036854775807 : Int)) <| .chk ((↑((y3.getD ((0 : Nat) + (IntKind.i64.wrap (Kind - (1 : Int))).toNat) [] ++ [(32 : UInt8)] ++ Name ++ [(32 : UInt8)] ++ y6 ++ [(32 : UInt8)]).length + Value.length) : Int) ≤ (9223372036854775807 : Int)) <| .ret (y3.getD ((0 : Nat) + (IntKind.i64.wrap (Kind - (1 : Int))).toNat) [] ++ [(32 : UInt8)] ++ Name ++ [(32 : UInt8)] ++ y6 ++ [(32 : UInt8)] ++ Value, true))
   (.ret (y3.getD ((0 : Nat) + (IntKind.i64.wrap (Kind - (1 : Int))).toNat) [] ++ [(32 : UInt8)] ++ Name ++ [(32 : UInt8)] ++ y6, true)))
   (.br y2d (.chk ((↑((y3.getD ((0 : Nat) + (IntKind.i64.wrap (Kind - (1 : Int))).toNat) [] ++ [(32 : UInt8)] ++ Name).length + [(32 : UInt8)].length) : Int) ≤ (9223372036854775807 : Int)) <| .chk ((↑((y3.getD ((0 : Nat) + (IntKind.i64.wrap (Kind - (1 : Int))).toNat) [] ++ [(32 : UInt8)] ++ Name ++ [(32 : UInt8)]).length + Value.length) : Int) ≤ (9223372036854775807 : Int)) <| .ret (y3.getD ((0 : Nat) + (IntKind.i64.wrap (Kind - (1 : Int))).toNat) [] ++ [(32 : UInt8)] ++ Name ++ [(32 : UInt8)] ++ Value, true))
   (.ret (y3.getD ((0 : Nat) + (IntKind.i64.wrap (Kind - (1 : Int))).toNat) [] ++ [(32 : UInt8)] ++ Name, true)))))
  (.br y2b (.chk ((↑(List.length (y3.getD ((0 : Nat) + (IntKind.i64.wrap (Kind - (1 : Int))).toNat) []) + [(32 : UInt8)].length) : Int) ≤ (9223372036854775807 : Int)) <| .call (ref1_Put.f N) fun y7 =>
   .chk ((↑((y3.getD ((0 : Nat) + (IntKind.i64.wrap (Kind - (1 : Int))).toNat) [] ++ [(32 : UInt8)]).length + y7.length) : Int) ≤ (9223372036854775807 : Int)) <| .br y2c (.chk ((↑((y3.getD ((0 : Nat) + (IntKind.i64.wrap (Kind - (1 : Int))).toNat) [] ++ [(32 : UInt8)] ++ y7).length + [(32 : UInt8)].length) : Int) ≤ (9223372036854775807 : Int)) <| .call (ref1_Put.f M) fun y8 =>
   .chk ((↑((y3.getD ((0 : Nat) + (IntKind.i64.wrap (Kind - (1 : Int))).toNat) [] ++ [(32 : UInt8)] ++ y7 ++ [(32 : UInt8)]).length + y8.length) : Int) ≤ (9223372036854775807 : Int)) <| .br y2d (.chk ((↑((y3.getD ((0 : Nat) + (IntKind.i64.wrap (Kind - (1 : Int))).toNat) [] ++ [(32 : UInt8)] ++ y7 ++ [(32 : UInt8)] ++ y8).length + [(32 : UInt8)].length) : Int) ≤ (9223372036854775807 : Int)) <| .chk ((↑((y3.getD ((0 : Nat) + (IntKind.i64.wrap (Kind - (1 : Int))).toNat) [] ++ [(32 : UInt8)] ++ y7 ++ [(32 : UInt8)] ++ y8 ++ [(32 : UInt8)]).length + Value.length) : Int) ≤ (9223372036854775807 : Int)) <| .ret (y3.getD ((0 : Nat) + (IntKind.i64.wrap (Kind - (1 : Int))).toNat) [] ++ [(32 : UInt8)] ++ y7 ++ [(32 : UInt8)] ++ y8 ++ [(32 : UInt8)] ++ Value, true))
   (.ret (y3.getD ((0 : Nat) + (IntKind.i64.wrap (Kind - (1 : Int))).toNat) [] ++ [(32 : UInt8)] ++ y7 ++ [(32 : UInt8)] ++ y8, true)))
   (.br y2d (.chk ((↑((y3.getD ((0 : Nat) + (IntKind.i64.wrap (Kind - (1 : Int))).toNat) [] ++ [(32 : UInt8)] ++ y7).length + [(32 : UInt8)].length) : Int) ≤ (9223372036854775807 : Int)) <| .chk ((↑((y3.getD ((0 : Nat) + (IntKind.i64.wrap (Kind - (1 : Int))).toNat) [] ++ [(32 : UInt8)] ++ y7 ++ [(32 : UInt8)]).length + Value.length) : Int) ≤ (9223372036854775807 : Int)) <| .ret (y3.getD ((0 : Nat) + (IntKind.i64.wrap (Kind - (1 : Int))).toNat) [] ++ [(32 : UInt8)] ++ y7 ++ [(32 : UInt8)] ++ Value, true))
   (.ret (y3.getD ((0 : Nat) + (IntKind.i64.wrap (Kind - (1 : Int))).toNat) [] ++ [(32 : UInt8)] ++ y7, true))))
  (.br y2c (.chk ((↑(List.length (y3.getD ((0 : Nat) + (IntKind.i64.wrap (Kind - (1 : Int))).toNat) []) + [(32 : UInt8)].length) : Int) ≤ (9223372036854775807 : Int)) <| .call (ref1_Put.f M) fun y9 =>
   .chk ((↑((y3.getD ((0 : Nat) + (IntKind.i64.wrap (Kind - (1 : Int))).toNat) [] ++ [(32 : UInt8)]).length + y9.length) : Int) ≤ (9223372036854775807 : Int)) <| .br y2d (.chk ((↑((y3.getD ((0 : Nat) + (IntKind.i64.wrap (Kind - (1 : Int))).toNat) [] ++ [(32 : UInt8)] ++ y9).length + [(32 : UInt8)].length) : Int) ≤ (9223372036854775807 : Int)) <| .chk ((↑((y3.getD ((0 : Nat) + (IntKind.i64.wrap (Kind - (1 : Int))).toNat) [] ++ [(32 : UInt8)] ++ y9 ++ [(32 : UInt8)]).length + Value.length) : Int) ≤ (9223372036854775807 : Int)) <| .ret (y3.getD ((0 : Nat) + (IntKind.i64.wrap (Kind - (1 : Int))).toNat) [] ++ [(32 : UInt8)] ++ y9 ++ [(32 : UInt8)] ++ Value, true))
   (.ret (y3.getD ((0 : Nat) + (IntKind.i64.wrap (Kind - (1 : Int))).toNat) [] ++ [(32 : UInt8)] ++ y9, true)))
   (.br y2d (.chk ((↑(List.length (y3.getD ((0 : Nat) + (IntKind.i64.wrap (Kind - (1 : Int))).toNat) []) + [(32 : UInt8)].length) : Int) ≤ (9223372036854775807 : Int)) <| .chk ((↑((y3.getD ((0 : Nat) + (IntKind.i64.wrap (Kind - (1 : Int))).toNat) [] ++ [(32 : UInt8)]).length + Value.length) : Int) ≤ (9223372036854775807 : Int)) <| .ret (y3.getD ((0 : Nat) + (IntKind.i64.wrap (Kind - (1 : Int))).toNat) [] ++ [(32 : UInt8)] ++ Value, true))
   (.ret (y3.getD ((0 : Nat) + (IntKind.i64.wrap (Kind - (1 : Int))).toNat) [], true))))))
def f (Kind : Int) (Name : List UInt8) (Value : List UInt8) (N : Int) (M : Int) : Option (List UInt8 × Bool) := (t Kind Name Value N M).val
def F (x : D.den) : Option (List UInt8 × Bool) := f x.2.1 x.2.2.1 x.2.2.2.1 x.2.2.2.2.1 x.2.2.2.2.2
def pa : D.den → (List UInt8 × Bool) → A.den := fun (_, (_, (_, (_, (_, _))))) (y1, y2) => ((), (y1, y2))
def con : Con := tcon D A pa F
theorem ok : ConOk Tryz.prog 12 con := tcon_ok Base.mixed Base.prog_ok bk_ref25_Right_ok (by kernel_rfl) LapsOk.nil 9 (fun _ => rfl) (fun x => t x.2.1 x.2.2.1 x.2.2.2.1 x.2.2.2.2.1 x.2.2.2.2.2) (fun _ => rfl) fun _ _ _ => (by kernel_rfl)
end ref25_Line
def bk_ref25_Line : Book := bk_ref25_Right.add 12 ref25_Line.con
theorem bk_ref25_Line_ok : BookOk Tryz.prog bk_ref25_Line := bk_ref25_Right_ok.add ref25_Line.ok
namespace ref25_word
def D : Dom := ⟨[], .str⟩
namespace L2
def D : Dom := ⟨[], (.cat .str (.int .i64))⟩
def A : Dom := ⟨[], .str⟩
def B : Dom := ⟨[], (.cat .str .str)⟩
def sel : List Nat := [0, 1]
def t (s : List UInt8) (i : Int) : Tr ((Int) ⊕ ((Unit) ⊕ (List UInt8 × List UInt8))) :=
 .br (decide (i < (↑s.length : Int))) (.chk ((0 : Int) ≤ i ∧ i < (↑s.length : Int)) <| .br ((↑(s.getD i.toNat (0 : UInt8)).toNat : Int) == (32 : Int)) (.chk ((0 : Int) ≤ (0 : Int) ∧ (0 : Int) ≤ i ∧ i ≤ (↑s.length : Int)) <| .chk ((0 : Int) ≤ IntKind.i64.wrap (i + (1 : Int)) ∧ IntKind.i64.wrap (i + (1 : Int)) ≤ (↑s.length : Int) ∧ (↑s.length : Int) ≤ (↑s.length : Int)) <| .ret (.inr (.inr (List.drop (↑(0 : Nat) : Int).toNat (List.take i.toNat s), List.drop (IntKind.i64.wrap (i + (1 : Int))).toNat (List.take (↑s.length : Int).toNat s)))))
  (.ret (.inl (IntKind.i64.wrap (i + (1 : Int))))))
 (.ret (.inr (.inl ())))
def f (s : List UInt8) (i : Int) : Option ((Unit) ⊕ (List UInt8 × List UInt8)) := Loop (fun z : Int => t s z) i
def F (x : D.den) : Option ((Unit) ⊕ (List UInt8 × List UInt8)) := f x.2.1 x.2.2
def pa : D.den → (Unit) → A.den := fun (_, (s, _)) _ => ((), s)
def pb : D.den → (List UInt8 × List UInt8) → B.den := fun (_, (_, _)) (y1, y2) => ((), (y1, y2))
def lap : Lap := tlap2 2 23 [0, 4] D (.exit 0) [0] A .ret [2, 3] B pa pb F
def pk (x : D.den) (z : Int) : D.den := ((), (x.2.1, z))
def un (x : D.den) : Int := x.2.2
def body (x : D.den) (z : Int) : Tr ((Int) ⊕ ((Unit) ⊕ (List UInt8 × List UInt8))) := t x.2.1 z
theorem ok : LapOk Tryz.prog 0 (codeOf Tryz.prog 46) lap := tlap2_ok Base.mixed Base.prog_ok bk_ref25_Line_ok (by kernel_rfl) (by kernel_rfl) LapsOk.nil 9 pk un body (fun _ _ => rfl) (fun _ _ => rfl) (fun _ _ => rfl) (fun _ _ => rfl) (fun _ => rfl) fun _ _ _ _ => (by kernel_rfl)
end L2
def A : Dom := ⟨[], (.tup (.cat .str .str))⟩
def sel : List Nat := [0]
def t (s : List UInt8) : Tr (List UInt8 × List UInt8) :=
 .both (ref25_word.L2.f s (0 : Int)) (fun _ => .ret (s, []))
 (fun (y2a, y2b) => .ret (y2a, y2b))
def f (s : List UInt8) : Option (List UInt8 × List UInt8) := (t s).val
def F (x : D.den) : Option (List UInt8 × List UInt8) := f x.2
def pa : D.den → (List UInt8 × List UInt8) → A.den := fun (_, _) (y1, y2) => ((), (y1, y2))
def con : Con := tcon D A pa F
theorem ok : ConOk Tryz.prog 46 con := tcon_ok Base.mixed Base.prog_ok bk_ref25_Line_ok (by kernel_rfl) (.cons L2.ok (by kernel_rfl) (.nil)) 9 (fun _ => rfl) (fun x => t x.2) (fun _ => rfl) fun _ _ _ => (by kernel_rfl)
end ref25_word
def bk_ref25_word : Book := bk_ref25_Line.add 46 ref25_word.con
theorem bk_ref25_word_ok : BookOk Tryz.prog bk_ref25_word := bk_ref25_Line_ok.add ref25_word.ok
namespace ref25_Parse
def D : Dom := ⟨[], .str⟩
def A : Dom := rule_Parse.A
def sel : List Nat := [0]
def t (s : List UInt8) : Tr (Int × List UInt8 × List UInt8 × Int × Int × Bool) :=
 .call (ref25_word.f s) fun (y1a, y1b) =>
 .call (ref25_Kind.f y1a) fun (y2a, y2b) =>
 .br (!y2b) (.ret ((0 : Int), [], [], (0 : Int), (0 : Int), false))
 (.call (ref25_uses.f y2a) fun (y3a, y3b, y3c, y3d) =>
  .br y3a (.call (ref25_word.f y1b) fun (y4a, y4b) =>
  .br y3b (.call (ref25_word.f y4b) fun (y5a, y5b) =>
   .call (ref1_Dec.f y5a (1073741824 : Int)) fun (y6a, _) =>
   .br y3c (.call (ref25_word.f y5b) fun (y7a, y7b) =>
   .call (ref1_Dec.f y7a (1073741824 : Int)) fun (y8a, _) =>
   .br y3d (.call (ref25_Line.f y2a y4a y7b y6a y8a) fun (y9a, y9b) =>
    .br (!y9b) (.ret ((0 : Int), [], [], (0 : Int), (0 : Int), false))
    (.br (!y9a == s) (.ret ((0 : Int), [], [], (0 : Int), (0 : Int), false))
    (.ret (y2a, y4a, y7b, y6a, y8a, true))))
   (.call (ref25_Line.f y2a y4a [] y6a y8a) fun (y10a, y10b) =>
    .br (!y10b) (.ret ((0 : Int), [], [], (0 : Int), (0 : Int), false))
    (.br (!y10a == s) (.ret ((0 : Int), [], [], (0 : Int), (0 : Int), false))
    (.ret (y2a, y4a, [], y6a, y8a, true)))))
   (.br y3d (.call (ref25_Line.f y2a y4a y5b y6a (0 : Int)) fun (y11a, y11b) =>
    .br (!y11b) (.ret ((0 : Int), [], [], (0 : Int), (0 : Int), false))
    (.br (!y11a == s) (.ret ((0 : Int), [], [], (0 : Int), (0 : Int), false))
    (.ret (y2a, y4a, y5b, y6a, (0 : Int), true))))
   (.call (ref25_Line.f y2a y4a [] y6a (0 : Int)) fun (y12a, y12b) =>
    .br (!y12b) (.ret ((0 : Int), [], [], (0 : Int), (0 : Int), false))
    (.br (!y12a == s) (.ret ((0 : Int), [], [], (0 : Int), (0 : Int), false))
    (.ret (y2a, y4a, [], y6a, (0 : Int), true))))))
  (.br y3c (.call (ref25_word.f y4b) fun (y13a, y13b) =>
   .call (ref1_Dec.f y13a (1073741824 : Int)) fun (y14a, _) =>
   .br y3d (.call (ref25_Line.f y2a y4a y13b (0 : Int) y14a) fun (y15a, y15b) =>
    .br (!y15b) (.ret ((0 : Int), [], [], (0 : Int), (0 : Int), false))
    (.br (!y15a == s) (.ret ((0 : Int), [], [], (0 : Int), (0 : Int), false))
    (.ret (y2a, y4a, y13b, (0 : Int), y14a, true))))
   (.call (ref25_Line.f y2a y4a [] (0 : Int) y14a) fun (y16a, y16b) =>
    .br (!y16b) (.ret ((0 : Int), [], [], (0 : Int), (0 : Int), false))
    (.br (!y16a == s) (.ret ((0 : Int), [], [], (0 : Int), (0 : Int), false))
    (.ret (y2a, y4a, [], (0 : Int), y14a, true)))))
   (.br y3d (.call (ref25_Line.f y2a y4a y4b (0 : Int) (0 : Int)) fun (y17a, y17b) =>
    .br (!y17b) (.ret ((0 : Int), [], [], (0 : Int), (0 : Int), false))
    (.br (!y17a == s) (.ret ((0 : Int), [], [], (0 : Int), (0 : Int), false))
    (.ret (y2a, y4a, y4b, (0 : Int), (0 : Int), true))))
   (.call (ref25_Line.f y2a y4a [] (0 : Int) (0 : Int)) fun (y18a, y18b) =>
    .br (!y18b) (.ret ((0 : Int), [], [], (0 : Int), (0 : Int), false))
    (.br (!y18a == s) (.ret ((0 : Int), [], [], (0 : Int), (0 : Int), false))
    (.ret (y2a, y4a, [], (0 : Int), (0 : Int), true)))))))
  (.br y3b (.call (ref25_word.f y1b) fun (y19a, y19b) =>
   .call (ref1_Dec.f y19a (1073741824 : Int)) fun (y20a, _) =>
   .br y3c (.call (ref25_word.f y19b) fun (y21a, y21b) =>
   .call (ref1_Dec.f y21a (1073741824 : Int)) fun (y22a, _) =>
   .br y3d (.call (ref25_Line.f y2a [] y21b y20a y22a) fun (y23a, y23b) =>
    .br (!y23b) (.ret ((0 : Int), [], [], (0 : Int), (0 : Int), false))
    (.br (!y23a == s) (.ret ((0 : Int), [], [], (0 : Int), (0 : Int), false))
    (.ret (y2a, [], y21b, y20a, y22a, true))))
   (.call (ref25_Line.f y2a [] [] y20a y22a) fun (y24a, y24b) =>
    .br (!y24b) (.ret ((0 : Int), [], [], (0 : Int), (0 : Int), false))
    (.br (!y24a == s) (.ret ((0 : Int), [], [], (0 : Int), (0 : Int), false))
    (.ret (y2a, [], [], y20a, y22a, true)))))
   (.br y3d (.call (ref25_Line.f y2a [] y19b y20a (0 : Int)) fun (y25a, y25b) =>
    .br (!y25b) (.ret ((0 : Int), [], [], (0 : Int), (0 : Int), false))
    (.br (!y25a == s) (.ret ((0 : Int), [], [], (0 : Int), (0 : Int), false))
    (.ret (y2a, [], y19b, y20a, (0 : Int), true))))
   (.call (ref25_Line.f y2a [] [] y20a (0 : Int)) fun (y26a, y26b) =>
    .br (!y26b) (.ret ((0 : Int), [], [], (0 : Int), (0 : Int), false))
    (.br (!y26a == s) (.ret ((0 : Int), [], [], (0 : Int), (0 : Int), false))
    (.ret (y2a, [], [], y20a, (0 : Int), true))))))
  (.br y3c (.call (ref25_word.f y1b) fun (y27a, y27b) =>
   .call (ref1_Dec.f y27a (1073741824 : Int)) fun (y28a, _) =>
   .br y3d (.call (ref25_Line.f y2a [] y27b (0 : Int) y28a) fun (y29a, y29b) =>
    .br (!y29b) (.ret ((0 : Int), [], [], (0 : Int), (0 : Int), false))
    (.br (!y29a == s) (.ret ((0 : Int), [], [], (0 : Int), (0 : Int), false))
    (.ret (y2a, [], y27b, (0 : Int), y28a, true))))
   (.call (ref25_Line.f y2a [] [] (0 : Int) y28a) fun (y30a, y30b) =>
    .br (!y30b) (.ret ((0 : Int), [], [], (0 : Int), (0 : Int), false))
    (.br (!y30a == s) (.ret ((0 : Int), [], [], (0 : Int), (0 : Int), false))
    (.ret (y2a, [], [], (0 : Int), y28a, true)))))
   (.br y3d (.call (ref25_Line.f y2a [] y1b (0 : Int) (0 : Int)) fun (y31a, y31b) =>
    .br (!y31b) (.ret ((0 : Int), [], [], (0 : Int), (0 : Int), false))
    (.br (!y31a == s) (.ret ((0 : Int), [], [], (0 : Int), (0 : Int), false))
    (.ret (y2a, [], y1b, (0 : Int), (0 : Int), true))))
   (.call (ref25_Line.f y2a [] [] (0 : Int) (0 : Int)) fun (y32a, y32b) =>
    .br (!y32b) (.ret ((0 : Int), [], [], (0 : Int), (0 : Int), false))
    (.br (!y32a == s) (.ret ((0 : Int), [], [], (0 : Int), (0 : Int), false))
    (.ret (y2a, [], [], (0 : Int), (0 : Int), true))))))))
def f (s : List UInt8) : Option (Int × List UInt8 × List UInt8 × Int × Int × Bool) := (t s).val
def F (x : D.den) : Option (Int × List UInt8 × List UInt8 × Int × Int × Bool) := f x.2
def pa : D.den → (Int × List UInt8 × List UInt8 × Int × Int × Bool) → A.den := fun (_, _) (y1, y2, y3, y4, y5, y6) => ((), ((y1, (y2, (y3, (y4, y5)))), y6))
def con : Con := tcon D A pa F
theorem ok : ConOk Tryz.prog 16 con := tcon_ok Base.mixed Base.prog_ok bk_ref25_word_ok (by kernel_rfl) LapsOk.nil 9 (fun _ => rfl) (fun x => t x.2) (fun _ => rfl) fun _ _ _ => (by kernel_rfl)
end ref25_Parse
def bk_ref25_Parse : Book := bk_ref25_word.add 16 ref25_Parse.con
theorem bk_ref25_Parse_ok : BookOk Tryz.prog bk_ref25_Parse := bk_ref25_word_ok.add ref25_Parse.ok
namespace seat_Rule
def D : Dom := ⟨[], (.cat (.int .u8) (.int .u8))⟩
def A : Dom := rule_alone.D
def sel : List Nat := [0, 1]
def t (va : Int) (b : Int) : Tr (Int × List UInt8 × List UInt8 × Int × Int) :=
 .chk ((0 : Int) ≤ (IntKind.i64.wrap va).tmod (20 : Int) ∧ (IntKind.i64.wrap va).tmod (20 : Int) < (20 : Int)) <| .chk (((0 : Nat) + ((IntKind.i64.wrap va).tmod (20 : Int)).toNat) * (1 : Nat) < (20 : Nat)) <| .call (ref25_Parse.f ([[(97 : UInt8), (100 : UInt8), (100 : UInt8), (102 : UInt8), (105 : UInt8), (101 : UInt8), (108 : UInt8), (100 : UInt8), (32 : UInt8), (88 : UInt8), (45 : UInt8), (65 : UInt8), (32 : UInt8), (49 : UInt8)], [(97 : UInt8), (100 : UInt8), (100 : UInt8), (102 : UInt8), (105 : UInt8), (101 : UInt8), (108 : UInt8), (100 : UInt8), (32 : UInt8), (88 : UInt8), (45 : UInt8), (66 : UInt8), (32 : UInt8), (116 : UInt8), (119 : UInt8), (111 : UInt8), (32 : UInt8), (119 : UInt8), (111 : UInt8), (114 : UInt8), (100 : UInt8), (115 : UInt8)], [(100 : UInt8), (114 : UInt8), (111 : UInt8), (112 : UInt8), (102 : UInt8), (105 : UInt8), (101 : UInt8), (108 : UInt8), (100 : UInt8), (32 : UInt8), (67 : UInt8), (111 : UInt8), (111 : UInt8), (107 : UInt8), (105 : UInt8), (101 : UInt8)], [(100 : UInt8), (114 : UInt8), (111 : UInt8), (112 : UInt8), (102 : UInt8), (105 : UInt8), (101 : UInt8), (108 : UInt8), (100 : UInt8), (32 : UInt8), (65 : UInt8)], [(115 : UInt8), (101 : UInt8), (116 : UInt8), (102 : UInt8), (105 : UInt8), (101 : UInt8), (108 : UInt8), (100 : UInt8), (32 : UInt8), (65 : UInt8), (32 : UInt8), (110 : UInt8), (101 : UInt8), (119 : UInt8)], [(114 : UInt8), (101 : UInt8), (119 : UInt8), (114 : UInt8), (105 : UInt8), (116 : UInt8), (101 : UInt8), (32 : UInt8), (47 : UInt8), (97 : UInt8), (32 : UInt8), (47 : UInt8), (98 : UInt8)], [(114 : UInt8), (101 : UInt8), (119 : UInt8), (114 : UInt8), (105 : UInt8), (116 : UInt8), (101 : UInt8), (32 : UInt8), (47 : UInt8), (118 : UInt8), (49 : UInt8), (47 : UInt8), (32 : UInt8), (47 : UInt8), (118 : UInt8), (50 : UInt8), (47 : UInt8)], [(97 : UInt8), (117 : UInt8), (116 : UInt8), (104 : UInt8), (32 : UInt8), (114 : UInt8), (101 : UInt8), (97 : UInt8), (108 : UInt8), (109 : UInt8), (32 : UInt8), (117 : UInt8), (58 : UInt8), (112 : UInt8)], [(99 : UInt8), (111 : UInt8), (114 : UInt8), (115 : UInt8), (32 : UInt8), (104 : UInt8), (116 : UInt8), (116 : UInt8), (112 : UInt8), (58 : UInt8), (47 : UInt8), (47 : UInt8), (111 : UInt8), (46 : UInt8), (111 : UInt8), (114 : UInt8), (103 : UInt8)], [(99 : UInt8), (111 : UInt8), (114 : UInt8), (115 : UInt8), (32 : UInt8), (42 : UInt8)], [(97 : UInt8), (108 : UInt8), (108 : UInt8), (111 : UInt8), (119 : UInt8), (110 : UInt8), (101 : UInt8), (116 : UInt8), (32 : UInt8), (49 : UInt8), (48 : UInt8), (46 : UInt8), (48 : UInt8), (46 : UInt8), (48 : UInt8), (46 : UInt8), (48 : UInt8), (47 : UInt8), (56 : UInt8)], [(100 : UInt8), (101 : UInt8), (110 : UInt8), (121 : UInt8), (110 : UInt8), (101 : UInt8), (116 : UInt8), (32 : UInt8), (49 : UInt8), (48 : UInt8), (46 : UInt8), (49 : UInt8), (46 : UInt8), (48 : UInt8), (46 : UInt8), (48 : UInt8), (47 : UInt8), (49 : UInt8), (54 : UInt8)], [(114 : UInt8), (97 : UInt8), (116 : UInt8), (101 : UInt8), (32 : UInt8), (50 : UInt8), (32 : UInt8), (51 : UInt8)], [(114 : UInt8), (97 : UInt8), (116 : UInt8), (101 : UInt8), (32 : UInt8), (48 : UInt8), (32 : UInt8), (49 : UInt8)], [(99 : UInt8), (97 : UInt8), (112 : UInt8), (32 : UInt8), (53 : UInt8)], [(114 : UInt8), (101 : UInt8), (100 : UInt8), (105 : UInt8), (114 : UInt8), (101 : UInt8), (99 : UInt8), (116 : UInt8), (32 : UInt8), (51 : UInt8), (48 : UInt8), (50 : UInt8), (32 : UInt8), (47 : UInt8), (122 : UInt8)], [(115 : UInt8), (116 : UInt8), (97 : UInt8), (116 : UInt8), (105 : UInt8), (99 : UInt8), (32 : UInt8), (50 : UInt8), (48 : UInt8), (48 : UInt8), (32 : UInt8), (104 : UInt8), (101 : UInt8), (108 : UInt8), (108 : UInt8), (111 : UInt8), (32 : UInt8), (116 : UInt8), (104 : UInt8), (101 : UInt8), (114 : UInt8), (101 : UInt8)], [(115 : UInt8), (116 : UInt8), (97 : UInt8), (116 : UInt8), (105 : UInt8), (99 : UInt8), (32 : UInt8), (53 : UInt8), (48 : UInt8), (51 : UInt8), (32 : UInt8)], [(114 : UInt8), (97 : UInt8), (116 : UInt8), (101 : UInt8), (32 : UInt8), (53 : UInt8), (32 : UInt8), (49 : UInt8)], [(99 : UInt8), (97 : UInt8), (112 : UInt8), (32 : UInt8), (49 : UInt8), (48 : UInt8), (48 : UInt8), (48 : UInt8)]].getD (((0 : Nat) + ((IntKind.i64.wrap va).tmod (20 : Int)).toNat) * (1 : Nat)) [])) fun (y1a, y1b, y1c, y1d, y1e, _) =>
 .br (y1a == (9 : Int)) (.ret (y1a, y1b, y1c, IntKind.i64.wrap (b.tmod (4 : Int)), y1e))
 (.ret (y1a, y1b, y1c, y1d, y1e))
def f (va : Int) (b : Int) : Option (Int × List UInt8 × List UInt8 × Int × Int) := (t va b).val
def F (x : D.den) : Option (Int × List UInt8 × List UInt8 × Int × Int) := f x.2.1 x.2.2
def pa : D.den → (Int × List UInt8 × List UInt8 × Int × Int) → A.den := fun (_, (_, _)) (y1, y2, y3, y4, y5) => ((), (y1, (y2, (y3, (y4, y5)))))
def con : Con := tcon D A pa F
theorem ok : ConOk Tryz.prog 9 con := tcon_ok Base.mixed Base.prog_ok bk_ref25_Parse_ok (by kernel_rfl) LapsOk.nil 9 (fun _ => rfl) (fun x => t x.2.1 x.2.2) (fun _ => rfl) fun _ _ _ => (by kernel_rfl)
end seat_Rule
def bk_seat_Rule : Book := bk_ref25_Parse.add 9 seat_Rule.con
theorem bk_seat_Rule_ok : BookOk Tryz.prog bk_seat_Rule := bk_ref25_Parse_ok.add seat_Rule.ok
end Go.Vx
end
section
set_option linter.unusedVariables false
set_option linter.unusedSimpArgs false
namespace Go.Vx
theorem w64 {n : Int} (h0 : -9223372036854775808 ≤ n) (h1 : n < 9223372036854775808) : IntKind.i64.wrap n = n := by
 simp only [IntKind.wrap, IntKind.signed, IntKind.bits, if_true]
 simp
 omega
theorem w32 {n : Int} (h0 : 0 ≤ n) (h1 : n < 4294967296) : IntKind.u32.wrap n = n := by
 simp only [IntKind.wrap, IntKind.signed, IntKind.bits]
 simp
 omega
theorem wS {k : Nat} (h : k < 4611686018427387904) : IntKind.i64.wrap ((k : Int) + 1) = ((k + 1 : Nat) : Int) := by rw [w64 (by omega) (by omega)]; omega
theorem byte_is (c d : UInt8) : ((c.toNat : Int) == (d.toNat : Int)) = (c == d) := by
 by_cases h : c = d
 ·subst h; simp
 ·have : ¬ c.toNat = d.toNat := fun e => h (UInt8.toNat_inj.1 e)
  have h1 : (c == d) = false := by simpa using h
  rw [h1]
  exact beq_false_of_ne (by omega)
theorem byte_eqI (c : UInt8) (m : Int) (h0 : 0 ≤ m) (h1 : m < 256) : ((c.toNat : Int) == m) = (c == UInt8.ofNat m.toNat) := by
 have : m = ((UInt8.ofNat m.toNat).toNat : Int) := by simp; omega
 rw [← byte_is]
 rw [← this]
theorem in_rng {k n : Nat} (h : k < n) : (0 : Int) ≤ (k : Int) ∧ (k : Int) < (n : Int) := by omega
theorem Tr.val_chk {α : Type} {p : Prop} [Decidable p] {a : Tr α} (h : p) : (Tr.chk p a).val = a.val := if_pos h
theorem Tr.val_call {α β : Type} {o : Option β} {k : β → Tr α} {y : β} (h : o = some y) : (Tr.call o k).val = (k y).val := by subst h; rfl
def foldE {α A ρ : Type} (step : A → α → A ⊕ ρ) (fin : A → ρ) : A → List α → ρ
 | a, [] => fin a
 | a, c :: l => match step a c with
  | .inl a' => foldE step fin a' l
  | .inr r => r
theorem iter_list {α A σ ρ : Type} {body : σ → Tr (σ ⊕ ρ)} (s : List α) (st : Nat → A → σ) (inv : Nat → A → Prop) (step : A → α → A ⊕ ρ) (fin : A → ρ)
  (hs : ∀ (k : Nat) (a : A) (c : α), inv k a → (hk : k < s.length) → s[k]'hk = c → (body (st k a)).val = some (match step a c with
   | .inl a' => .inl (st (k + 1) a')
   | .inr r => .inr r) ∧ ∀ a', step a c = .inl a' → inv (k + 1) a')
  (he : ∀ a, inv s.length a → (body (st s.length a)).val = some (.inr (fin a))) :
  ∀ (n k : Nat) (a : A), inv k a → k ≤ s.length → s.length - k < n → iter body n (st k a) = some (foldE step fin a (s.drop k)) := by
 intro n
 induction n with
 | zero => intro k a _ _ h; omega
 | succ n ih =>
  intro k a hi hk hn
  rw [iter]
  by_cases hl : k < s.length
  ·obtain ⟨h1, h2⟩ := hs k a _ hi hl rfl
   rw [h1, List.drop_eq_getElem_cons hl, foldE]
   cases e : step a s[k] with
   | inr r => rfl
   | inl a' => exact ih (k + 1) a' (h2 a' e) (by omega) (by omega)
  ·have hkl : k = s.length := by omega
   subst hkl
   rw [he a hi, List.drop_length, foldE]
theorem Loop_list {α A σ ρ : Type} {body : σ → Tr (σ ⊕ ρ)} (s : List α) (st : Nat → A → σ) (inv : Nat → A → Prop) (step : A → α → A ⊕ ρ) (fin : A → ρ)
  (hs : ∀ (k : Nat) (a : A) (c : α), inv k a → (hk : k < s.length) → s[k]'hk = c → (body (st k a)).val = some (match step a c with
   | .inl a' => .inl (st (k + 1) a')
   | .inr r => .inr r) ∧ ∀ a', step a c = .inl a' → inv (k + 1) a')
  (he : ∀ a, inv s.length a → (body (st s.length a)).val = some (.inr (fin a))) (hn : s.length < 1125899906842624) {a : A} (hi : inv 0 a) {s0 : σ} (h0 : s0 = st 0 a) : Loop body s0 = some (foldE step fin a s) := by
 subst h0
 have := iter_list s st inv step fin hs he rounds 0 a hi (Nat.zero_le _) (by unfold rounds; omega)
 rw [List.drop_zero] at this
 exact this
theorem getD_nat {α : Type} {s : List α} {k : Nat} {c : α} {d : α} (hk : k < s.length) (hc : s[k]'hk = c) : s.getD k d = c := by
 rw [List.getD_eq_getElem?_getD, List.getElem?_eq_getElem hk, hc]; rfl
theorem getD_at {α : Type} {s : List α} {k : Nat} {c : α} {d : α} (hk : k < s.length) (hc : s[k]'hk = c) : s.getD (k : Int).toNat d = c := by
 rw [Int.toNat_natCast, List.getD_eq_getElem?_getD, List.getElem?_eq_getElem hk, hc]; rfl
end Go.Vx
end
section
set_option linter.unusedVariables false
set_option linter.unusedSimpArgs false
set_option maxRecDepth 100000
namespace Go.Vx
namespace Pl
theorem all256 {p : UInt8 → Bool} (h : ((List.range 256).all fun n => p (UInt8.ofNat n)) = true) (c : UInt8) : p c = true := by
 have := List.all_eq_true.1 h c.toNat (List.mem_range.2 (UInt8.toNat_lt c))
 simpa using this
theorem byte_fn {α : Type} [DecidableEq α] {f : Int → Option α} {g : UInt8 → α} (h : ((List.range 256).all fun n => decide (f (((UInt8.ofNat n).toNat : Nat) : Int) = some (g (UInt8.ofNat n)))) = true) (c : UInt8) : f (c.toNat : Int) = some (g c) :=
 of_decide_eq_true (all256 (p := fun c => decide (f (c.toNat : Int) = some (g c))) h c)
def isLetter (c : UInt8) : Bool := (decide (97 ≤ c) && decide (c ≤ 122)) || (decide (65 ≤ c) && decide (c ≤ 90))
def isDigit (c : UInt8) : Bool := decide (48 ≤ c) && decide (c ≤ 57)
def isTok (c : UInt8) : Bool := isLetter c || isDigit c || [33, 35, 36, 37, 38, 39, 42, 43, 45, 46, 94, 95, 96, 124, 126].contains c
def isVis (c : UInt8) : Bool := decide (33 ≤ c) && decide (c ≤ 126)
def isBlank (c : UInt8) : Bool := c == 32 || c == 9
def isText (c : UInt8) : Bool := isVis c || isBlank c || decide (128 ≤ c)
def isHex (c : UInt8) : Bool := isDigit c || (decide (97 ≤ c) && decide (c ≤ 102)) || (decide (65 ≤ c) && decide (c ≤ 70))
def hexv (c : UInt8) : Nat := if isDigit c then c.toNat - 48 else if decide (97 ≤ c) && decide (c ≤ 102) then c.toNat - 87 else if decide (65 ≤ c) && decide (c ≤ 70) then c.toNat - 55 else 0
def lowerC (c : UInt8) : UInt8 := if decide (65 ≤ c) && decide (c ≤ 90) then c + 32 else c
def isKind (k : Int) (c : UInt8) : Bool := if k = 1 then isTok c else if k = 2 then isVis c else if k = 3 then isBlank c else if k = 4 then isDigit c else if k = 5 then isHex c else if k = 6 then isText c else false
def scan {α ρ : Type} (step : Nat → α → Option ρ) (fin : ρ) : Nat → List α → ρ
 | _, [] => fin
 | k, c :: l => match step k c with
  | none => scan step fin (k + 1) l
  | some r => r
theorem scan_foldE {α ρ : Type} (step : Nat → α → Option ρ) (fin : ρ) : ∀ (l : List α) (k : Nat), foldE (fun (a : Nat) c => match step a c with
  | none => .inl (a + 1)
  | some r => .inr r) (fun _ => fin) k l = scan step fin k l
 | [], _ => rfl
 | c :: l, k => by
  rw [foldE, scan]
  cases step k c with
  | none => exact scan_foldE step fin l (k + 1)
  | some r => rfl
theorem Loop_scan {α ρ : Type} {body : Int → Tr (Int ⊕ ρ)} (s : List α) (step : Nat → α → Option ρ) (fin : ρ)
  (hs : ∀ (k : Nat) (c : α), (hk : k < s.length) → s[k]'hk = c → (body (k : Int)).val = some (match step k c with
   | none => .inl ((k + 1 : Nat) : Int)
   | some r => .inr r)) (he : (body (s.length : Int)).val = some (.inr fin)) (hn : s.length < 1125899906842624) : Loop body 0 = some (scan step fin 0 s) := by
 rw [← scan_foldE]
 refine Loop_list s (fun k _ => (k : Int)) (fun k a => a = k) (fun a c => match step a c with
  | none => .inl (a + 1)
  | some r => .inr r) (fun _ => fin) (fun k a c hi hk hc => ?_) (fun a _ => he) hn rfl rfl
 subst hi
 rw [hs a c hk hc]
 cases step a c with
 | none => exact ⟨rfl, fun a' h => by cases h; rfl⟩
 | some r => exact ⟨rfl, fun a' h => by cases h⟩
theorem scan_all {α : Type} (p : α → Bool) : ∀ (l : List α) (k : Nat), scan (fun _ c => if p c = true then none else some (Sum.inr false : Unit ⊕ Bool)) (.inl ()) k l = if l.all p = true then .inl () else .inr false
 | [], _ => rfl
 | c :: l, k => by
  rw [scan]
  by_cases h : p c = true
  ·simp only [h, if_true, scan_all p l (k + 1), List.all_cons, Bool.true_and]
  ·simp only [h, List.all_cons]; rfl
theorem scan_any {α : Type} (p : α → Bool) : ∀ (l : List α) (k : Nat), scan (fun _ c => if p c = true then some (Sum.inr true : Unit ⊕ Bool) else none) (.inl ()) k l = if l.any p = true then .inr true else .inl ()
 | [], _ => rfl
 | c :: l, k => by
  rw [scan]
  by_cases h : p c = true
  ·simp only [h, List.any_cons, Bool.true_or, if_true]
  ·simp only [h, List.any_cons, Bool.false_or]; simpa using scan_any p l (k + 1)
theorem bif_ite {α : Type} (c : Bool) (a b : α) : (bif c then a else b) = if c = true then a else b := by cases c <;> rfl
theorem lt_nat {k n : Nat} : decide ((k : Int) < (n : Int)) = decide (k < n) := by simp
end Pl
end Go.Vx
end
section
set_option linter.unusedVariables false
set_option linter.unusedSimpArgs false
set_option maxRecDepth 100000
namespace Go.Vx
namespace Pl
open Go
theorem Loop_front {α : Type} {t : List α → Tr (List α ⊕ List α)} {p : α → Bool} {s : List α} (h0 : (t []).val = some (.inr [])) (hs : ∀ c l, l.length < s.length → (t (c :: l)).val = some (if p c = true then .inl l else .inr (c :: l))) (hn : s.length < 1125899906842624) : Loop t s = some (s.dropWhile p) := by
 have : ∀ (n : Nat) (z : List α), z.length < n → z.length ≤ s.length → iter t n z = some (z.dropWhile p) := by
  intro n
  induction n with
  | zero => intro z h; omega
  | succ n ih =>
   intro z h hz
   cases z with
   | nil => rw [iter, h0]; rfl
   | cons c l =>
    rw [iter, hs c l (by simp at hz; omega)]
    by_cases hc : p c = true
    ·simp only [hc, if_true, List.dropWhile_cons_of_pos]
     exact ih l (by simp at h; omega) (by simp at hz; omega)
    ·simp [hc, List.dropWhile_cons_of_neg]
 exact this rounds s (by unfold rounds; omega) (Nat.le_refl _)
def dropEnd {α : Type} (p : α → Bool) (l : List α) : List α := (l.reverse.dropWhile p).reverse
theorem dropEnd_snoc {α : Type} {p : α → Bool} (l : List α) (c : α) : dropEnd p (l ++ [c]) = if p c = true then dropEnd p l else l ++ [c] := by
 unfold dropEnd
 by_cases h : p c = true
 ·simp [h]
 ·simp [h]
theorem dropEnd_length {α : Type} {p : α → Bool} (l : List α) : (dropEnd p l).length ≤ l.length := by
 unfold dropEnd
 have := (List.dropWhile_sublist p (l := l.reverse)).length_le
 simpa using this
theorem Loop_end {α : Type} {t : List α → Tr (List α ⊕ List α)} {p : α → Bool} {s : List α} (h0 : (t []).val = some (.inr [])) (hs : ∀ l c, l.length < s.length → (t (l ++ [c])).val = some (if p c = true then .inl l else .inr (l ++ [c]))) (hn : s.length < 1125899906842624) : Loop t s = some (dropEnd p s) := by
 have : ∀ (n : Nat) (z : List α), z.length < n → z.length ≤ s.length → iter t n z = some (dropEnd p z) := by
  intro n
  induction n with
  | zero => intro z h; omega
  | succ n ih =>
   intro z h hz
   rcases List.eq_nil_or_concat z with rfl | ⟨l, c, rfl⟩
   ·rw [iter, h0]; rfl
   ·simp only [List.concat_eq_append, List.length_append, List.length_cons, List.length_nil] at h hz ⊢
    rw [iter, hs l c (by omega), dropEnd_snoc]
    by_cases hc : p c = true
    ·simp only [hc, if_true]
     exact ih l (by omega) (by omega)
    ·simp [hc]
 exact this rounds s (by unfold rounds; omega) (Nat.le_refl _)
def addTo {ρ : Type} (i : Nat) : Nat ⊕ ρ → Int ⊕ ρ
 | .inl j => .inl ((i + j : Nat) : Int)
 | .inr r => .inr r
def goOn {α ρ : Type} (g : List α → ρ) (l : List α) : Nat ⊕ ρ → ρ
 | .inl j => g (l.drop j)
 | .inr r => r
theorem Loop_drop {α ρ : Type} {body : Int → Tr (Int ⊕ ρ)} (s : List α) (step : List α → Nat ⊕ ρ) (g : List α → ρ) (hg : ∀ l, g l = goOn g l (step l)) (hj : ∀ l j, step l = .inl j → 0 < j ∧ j ≤ l.length)
  (hs : ∀ i, i ≤ s.length → (body (i : Int)).val = some (addTo i (step (s.drop i)))) (hn : s.length < 1125899906842624) : Loop body 0 = some (g s) := by
 have : ∀ (n i : Nat), i ≤ s.length → s.length - i < n → iter body n (i : Int) = some (g (s.drop i)) := by
  intro n
  induction n with
  | zero => intro i _ h; omega
  | succ n ih =>
   intro i hi h
   rw [iter, hs i hi, hg (s.drop i)]
   cases e : step (s.drop i) with
   | inr r => rfl
   | inl j =>
    obtain ⟨h1, h2⟩ := hj _ _ e
    rw [List.length_drop] at h2
    simp only [addTo, goOn]
    rw [ih (i + j) (by omega) (by omega), List.drop_drop]
 exact this rounds 0 (Nat.zero_le _) (by unfold rounds; omega)
def isDig (base : Nat) (c : UInt8) : Bool := isHex c && decide (hexv c < base)
def valN (base : Nat) (n : Nat) (s : List UInt8) : Nat := s.foldl (fun n c => n * base + hexv c) n
theorem valN_cons (base n : Nat) (c : UInt8) (s : List UInt8) : valN base n (c :: s) = valN base (n * base + hexv c) s := rfl
theorem valN_ge {base : Nat} (hb : 0 < base) : ∀ (s : List UInt8) (n : Nat), n ≤ valN base n s
 | [], n => Nat.le_refl _
 | c :: s, n => by
  rw [valN_cons]
  have := valN_ge hb s (n * base + hexv c)
  have h2 : n * 1 ≤ n * base := Nat.mul_le_mul_left n hb
  omega
def numS (base : Nat) (most : Int) (s : List UInt8) : Int × Int :=
 if s = [] ∨ (s.all (isDig base)) = false then (0, 22) else if (valN base 0 s : Int) ≤ max most 0 then ((valN base 0 s : Nat), 0) else (0, 23)
theorem isDig10 (c : UInt8) : isDig 10 c = isDigit c := by
 have := all256 (p := fun c => isDig 10 c == isDigit c) (by decide +kernel) c
 simpa using this
theorem hexv_lt (c : UInt8) : hexv c < 16 := by
 have := all256 (p := fun c => decide (hexv c < 16)) (by decide +kernel) c
 simpa using this
def lower (s : List UInt8) : List UInt8 := s.map lowerC
def same (a b : List UInt8) : Bool := lower a == lower b
def trimP (p : UInt8 → Bool) (s : List UInt8) : List UInt8 := dropEnd p (s.dropWhile p)
def trim (s : List UInt8) : List UInt8 := trimP isBlank s
theorem trimP_length (p : UInt8 → Bool) (s : List UInt8) : (trimP p s).length ≤ s.length := by
 unfold trimP
 have h1 := dropEnd_length (p := p) (s.dropWhile p)
 have h2 := (List.dropWhile_sublist p (l := s)).length_le
 omega
def before (c : UInt8) (s : List UInt8) : List UInt8 := s.takeWhile (· != c)
def after (c : UInt8) (s : List UInt8) : List UInt8 := (s.dropWhile (· != c)).drop 1
def cutC (c : UInt8) (s : List UInt8) : List UInt8 × List UInt8 × Bool := if s.contains c = true then (before c s, after c s, true) else (s, [], false)
def splitC (c : UInt8) : List UInt8 → List (List UInt8)
 | [] => [[]]
 | x :: l => if x == c then [] :: splitC c l else match splitC c l with
  | a :: r => (x :: a) :: r
  | [] => [[x]]
def signsGo (others : List UInt8) (pct : Bool) : List UInt8 → Bool
 | [] => true
 | c :: l => if (isDigit c || isLetter c || others.contains c) = true then signsGo others pct l else if (pct && c == 37) = true then match l with
  | a :: b :: l' => isHex a && isHex b && signsGo others pct l'
  | _ => false
 else false
theorem indexByte_not {c : UInt8} : ∀ {s : List UInt8}, s.contains c = false → Lib.indexByte s c = -1
 | [], _ => rfl
 | x :: l, h => by
  simp only [List.contains_cons, Bool.or_eq_false_iff] at h
  have hx : (x == c) = false := by
   have := h.1
   simp only [beq_eq_false_iff_ne] at this ⊢
   exact fun e => this e.symm
  unfold Lib.indexByte
  rw [indexByte_not h.2, hx]
  simp
theorem indexByte_is {c : UInt8} : ∀ {s : List UInt8}, s.contains c = true → Lib.indexByte s c = ((before c s).length : Int)
 | [], h => by simp at h
 | x :: l, h => by
  unfold Lib.indexByte before
  by_cases hx : x = c
  ·subst hx; simp
  ·have h1 : (x == c) = false := by simpa using hx
   have h2 : l.contains c = true := by
    simp only [List.contains_cons, Bool.or_eq_true, beq_iff_eq] at h
    rcases h with h | h
    ·exact absurd h.symm hx
    ·exact h
   have ih := indexByte_is h2
   have h3 : (x != c) = true := by simp [bne, h1]
   rw [h1]
   simp only [List.takeWhile_cons, h3, if_true, List.length_cons]
   rw [ih]
   have h4 : (((before c l).length : Int) == -1) = false := by
    rw [beq_eq_false_iff_ne]; omega
   simp only [h4]
   simp [before]
theorem before_after {c : UInt8} : ∀ {s : List UInt8}, s.contains c = true → s = before c s ++ c :: after c s
 | [], h => by simp at h
 | x :: l, h => by
  unfold before after
  by_cases hx : x = c
  ·subst hx; simp
  ·have h1 : (x != c) = true := by simpa using hx
   have h2 : l.contains c = true := by
    simp only [List.contains_cons, Bool.or_eq_true, beq_iff_eq] at h
    rcases h with h | h
    ·exact absurd h.symm hx
    ·exact h
   have ih := before_after h2
   simp only [List.takeWhile_cons, List.dropWhile_cons, h1, if_true, List.cons_append]
   congr 1
theorem take_before {c : UInt8} {s : List UInt8} (h : s.contains c = true) : s.take (before c s).length = before c s := by
 refine (congrArg (List.take (before c s).length) (before_after h)).trans ?_
 simp
theorem drop_after {c : UInt8} {s : List UInt8} (h : s.contains c = true) : s.drop ((before c s).length + 1) = after c s := by
 refine (congrArg (List.drop ((before c s).length + 1)) (before_after h)).trans ?_
 simp
theorem before_len {c : UInt8} {s : List UInt8} (h : s.contains c = true) : (before c s).length + 1 + (after c s).length = s.length := by
 have := congrArg List.length (before_after h)
 simp at this
 omega
theorem splitC_not {c : UInt8} : ∀ {s : List UInt8}, s.contains c = false → splitC c s = [s]
 | [], _ => rfl
 | x :: l, h => by
  simp only [List.contains_cons, Bool.or_eq_false_iff] at h
  have hx : (x == c) = false := by
   have := h.1
   simp only [beq_eq_false_iff_ne] at this ⊢
   exact fun e => this e.symm
  simp only [splitC, hx, splitC_not h.2]
  rfl
theorem splitC_is {c : UInt8} : ∀ {s : List UInt8}, s.contains c = true → splitC c s = before c s :: splitC c (after c s)
 | [], h => by simp at h
 | x :: l, h => by
  unfold before after
  by_cases hx : x = c
  ·subst hx; simp [splitC]
  ·have h0 : (x == c) = false := by simpa using hx
   have h1 : (x != c) = true := by simpa using hx
   have h2 : l.contains c = true := by
    simp only [List.contains_cons, Bool.or_eq_true, beq_iff_eq] at h
    rcases h with h | h
    ·exact absurd h.symm hx
    ·exact h
   simp only [splitC, h0, splitC_is h2, List.takeWhile_cons, List.dropWhile_cons, h1, if_true]
   rfl
theorem splitC_ne (c : UInt8) (s : List UInt8) : splitC c s ≠ [] := by
 by_cases h : s.contains c = true
 ·rw [splitC_is h]; simp
 ·rw [splitC_not (by simpa using h)]; simp
theorem splitC_len (c : UInt8) : ∀ (n : Nat) (s : List UInt8), s.length ≤ n → (splitC c s).length = s.count c + 1
 | 0, s, h => by
  have : s = [] := List.length_eq_zero_iff.1 (by omega)
  subst this; rfl
 | n + 1, s, h => by
  by_cases hc : s.contains c = true
  ·have hl := before_len hc
   rw [splitC_is hc, List.length_cons, splitC_len c n (after c s) (by omega)]
   have h1 := congrArg (List.count c) (before_after hc)
   rw [List.count_append, List.count_cons_self] at h1
   have : (before c s).count c = 0 := by
    rw [List.count_eq_zero]
    unfold before
    intro hm
    have h2 : ∀ (l : List UInt8), c ∈ l.takeWhile (· != c) → False := by
     intro l
     induction l with
     | nil => intro h; simp at h
     | cons x l ih =>
      intro h
      rw [List.takeWhile_cons] at h
      split at h
      ·rename_i hx
       rcases List.mem_cons.1 h with rfl | h
       ·simp at hx
       ·exact ih h
      ·simp at h
    exact h2 _ hm
   omega
  ·rw [splitC_not (by simpa using hc)]
   have : s.count c = 0 := by
    rw [List.count_eq_zero]
    simpa using hc
   simp [this]
end Pl
end Go.Vx
end
section
set_option linter.unusedVariables false
set_option linter.unusedSimpArgs false
set_option maxRecDepth 100000
namespace Go.Vx
namespace Pl
open Go Go.Proofs
theorem octet_Digit_f (c : UInt8) : octet_Digit.f (c.toNat : Int) = some (isDigit c) := byte_fn (f := octet_Digit.f) (g := fun c => (isDigit c)) (by decide +kernel) c
theorem octet_Token_f (c : UInt8) : octet_Token.f (c.toNat : Int) = some (isTok c) := byte_fn (f := octet_Token.f) (g := fun c => (isTok c)) (by decide +kernel) c
theorem octet_Visible_f (c : UInt8) : octet_Visible.f (c.toNat : Int) = some (isVis c) := byte_fn (f := octet_Visible.f) (g := fun c => (isVis c)) (by decide +kernel) c
theorem octet_Blank_f (c : UInt8) : octet_Blank.f (c.toNat : Int) = some (isBlank c) := byte_fn (f := octet_Blank.f) (g := fun c => (isBlank c)) (by decide +kernel) c
theorem octet_Text_f (c : UInt8) : octet_Text.f (c.toNat : Int) = some (isText c) := byte_fn (f := octet_Text.f) (g := fun c => (isText c)) (by decide +kernel) c
theorem octet_Hex_f (c : UInt8) : octet_Hex.f (c.toNat : Int) = some ((hexv c : Int), isHex c) := byte_fn (f := octet_Hex.f) (g := fun c => ((hexv c : Int), isHex c)) (by decide +kernel) c
theorem octet_of_f (c : UInt8) (k : Int) : octet_of.f (c.toNat : Int) k = some (isKind k c) := by
 unfold octet_of.f octet_of.t isKind
 rw [octet_Token_f, octet_Visible_f, octet_Blank_f, octet_Digit_f, octet_Hex_f, octet_Text_f]
 simp only [Tr.val, bif_ite, beq_iff_eq]
 split <;> (try rfl) <;> split <;> (try rfl) <;> split <;> (try rfl) <;> split <;> (try rfl) <;> split <;> (try rfl) <;> split <;> rfl
theorem octet_All_L6 {kinds : List Int} {s : List UInt8} {i : Nat} {c : UInt8} (hi : i < s.length) (hc : s[i]'hi = c) (hn : kinds.length < 1125899906842624) : octet_All.L6.f kinds s (i : Int) false (kinds.length : Int) 0 = some (kinds.any fun k => isKind k c) := by
 unfold octet_All.L6.f
 refine (Loop_list (A := Bool) (ρ := Bool) (a := false) kinds (fun k a => (a, (k : Int))) (fun _ _ => True) (fun a k => .inl (a || isKind k c)) id ?_ ?_ hn trivial rfl).trans ?_
 ·intro k a kd _ hk hkc
  refine ⟨?_, fun _ _ => trivial⟩
  have hw := wS (k := k) (by omega)
  subst hkc hc
  cases a <;> simp [octet_All.L6.t, Tr.val, octet_of_f, in_rng hk, hw, hk, in_rng hi, hi]
 ·intro a _
  simp [octet_All.L6.t, Tr.val]
 ·congr 1
  have : ∀ (l : List Int) (a : Bool), foldE (fun a k => (Sum.inl (a || isKind k c) : Bool ⊕ Bool)) id a l = (a || l.any fun k => isKind k c) := by
   intro l
   induction l with
   | nil => intro a; simp [foldE]
   | cons k l ih => intro a; simp [foldE, ih, Bool.or_assoc]
  simpa using this kinds false
theorem octet_All_f {kinds : List Int} {s : List UInt8} (hk : kinds.length < 1125899906842624) (hn : s.length < 1125899906842624) : octet_All.f kinds s = some (s.all fun c => kinds.any fun k => isKind k c) := by
 have hL : octet_All.L2.f kinds s (s.length : Int) 0 = some (if (s.all fun c => kinds.any fun k => isKind k c) = true then .inl () else .inr false) := by
  unfold octet_All.L2.f
  refine (Loop_scan s (fun _ c => if (kinds.any fun k => isKind k c) = true then none else some (Sum.inr false : Unit ⊕ Bool)) (.inl ()) (fun k c hl hc => ?_) ?_ hn).trans (by rw [scan_all])
  ·have hw := wS (k := k) (by omega)
   by_cases h : (kinds.any fun k => isKind k c) = true
   ·simp [octet_All.L2.t, Tr.val, octet_All_L6 hl hc hk, h, hw, hl]
   ·have h' : (kinds.any fun k => isKind k c) = false := by simpa using h
    simp [octet_All.L2.t, Tr.val, octet_All_L6 hl hc hk, h', hw, hl]
  ·simp [octet_All.L2.t, Tr.val]
 unfold octet_All.f octet_All.t
 rw [hL]
 cases (s.all fun c => kinds.any fun k => isKind k c) <;> simp [Tr.val]
theorem kind1 (s : List UInt8) (k : Int) : (s.all fun c => [k].any fun k => isKind k c) = s.all (isKind k) := by
 congr 1; funext c; simp
theorem octet_All1 {k : Int} {s : List UInt8} (hn : s.length < 1125899906842624) : octet_All.f [k] s = some (s.all (isKind k)) := by
 rw [octet_All_f (by simp) hn, kind1]
theorem tdiv_gt {m d n base : Nat} (hb : 0 < base) (hd : d ≤ m) : (decide ((n : Int) > ((m : Int) - (d : Int)).tdiv (base : Int))) = decide (m < n * base + d) := by
 have h1 : ((m : Int) - (d : Int)) = ((m - d : Nat) : Int) := by omega
 rw [h1]
 have h2 : ((m - d : Nat) : Int).tdiv (base : Int) = (((m - d) / base : Nat) : Int) := rfl
 rw [h2]
 have : ((n : Int) > (((m - d) / base : Nat) : Int)) ↔ m < n * base + d := by
  have h3 : (m - d) / base < n ↔ m - d < n * base := Nat.div_lt_iff_lt_mul hb
  constructor
  ·intro h
   have := h3.1 (by omega)
   omega
  ·intro h
   have := h3.2 (by omega)
   omega
 exact decide_eq_decide.2 this
theorem number_loop {base m : Nat} {s : List UInt8} (hb : 2 ≤ base) (hb2 : base ≤ 16) (hm : m ≤ 1099511627776) (hn : s.length < 1125899906842624) :
  number_read.L6.f s (base : Int) (m : Int) 0 (s.length : Int) 0 = some (if valN base 0 s ≤ m then .inl ((valN base 0 s : Nat) : Int) else .inr (0, 23)) := by
 unfold number_read.L6.f
 refine (Loop_list (A := Nat) (a := 0) s (fun k n => ((n : Int), (k : Int))) (fun _ n => n ≤ m) (fun n c => if n * base + hexv c ≤ m then .inl (n * base + hexv c) else .inr (.inr (0, 23))) (fun n => Sum.inl ((n : Nat) : Int)) ?_ ?_ hn (Nat.zero_le _) rfl).trans ?_
 ·intro k n c hi hk hc
  subst hc
  have hw := wS (k := k) (by omega)
  have hd := hexv_lt s[k]
  have hbne : ¬ base = 0 := by omega
  have hnb : n * base ≤ 1099511627776 * 16 := Nat.mul_le_mul (by omega) hb2
  refine ⟨?_, fun a' h => ?_⟩
  ·by_cases h1 : (hexv s[k] : Int) > (m : Int)
   ·have h2 : ¬ n * base + hexv s[k] ≤ m := by omega
    simp [number_read.L6.t, Tr.val, octet_Hex_f, hk, h1, h2]
   ·have h3 : IntKind.i64.wrap ((m : Int) - (hexv s[k] : Int)) = (m : Int) - (hexv s[k] : Int) := w64 (by omega) (by omega)
    have h4 := tdiv_gt (n := n) (base := base) (d := hexv s[k]) (m := m) (by omega) (by omega)
    have h5 : IntKind.i64.wrap (((m : Int) - (hexv s[k] : Int)).tdiv (base : Int)) = ((m : Int) - (hexv s[k] : Int)).tdiv (base : Int) := by
     have h6 : ((m : Int) - (hexv s[k] : Int)) = ((m - hexv s[k] : Nat) : Int) := by omega
     rw [h6]
     have h7 : ((m - hexv s[k] : Nat) : Int).tdiv (base : Int) = (((m - hexv s[k]) / base : Nat) : Int) := rfl
     rw [h7]
     have h8 := Nat.div_le_self (m - hexv s[k]) base
     clear h4 h6 h7
     generalize (m - hexv s[k]) / base = q at h8 ⊢
     exact w64 (by omega) (by omega)
    have h6 : IntKind.i64.wrap ((n : Int) * (base : Int)) = ((n * base : Nat) : Int) := by
     rw [show ((n : Int) * (base : Int)) = ((n * base : Nat) : Int) from by simp]
     have h8 : n * base ≤ 17592186044416 := by omega
     clear h4 h5 h3
     generalize n * base = q at h8 ⊢
     exact w64 (by omega) (by omega)
    have h7 : IntKind.i64.wrap (((n * base : Nat) : Int) + (hexv s[k] : Int)) = ((n * base + hexv s[k] : Nat) : Int) := by
     clear h4 h5 h3
     have h8 : n * base ≤ 17592186044416 := by omega
     generalize n * base = q at h8 ⊢
     rw [w64 (by omega) (by omega)]; simp
    by_cases h8 : n * base + hexv s[k] ≤ m
    ·have h9 : ¬ m < n * base + hexv s[k] := by omega
     rw [decide_eq_false h9] at h4
     simp only [number_read.L6.t, Tr.val, getD_at hk rfl, octet_Hex_f, h3, h5, h4, h6, h7, hw, decide_eq_false h1, in_rng hk, if_pos h8, lt_nat, decide_eq_true hk, cond_true, cond_false, if_true, and_self]
     simp [hbne]
    ·have h9 : m < n * base + hexv s[k] := by omega
     rw [decide_eq_true h9] at h4
     simp only [number_read.L6.t, Tr.val, getD_at hk rfl, octet_Hex_f, h3, h5, h4, h6, h7, hw, decide_eq_false h1, in_rng hk, if_neg h8, lt_nat, decide_eq_true hk, cond_true, cond_false, if_true, and_self]
     simp [hbne]
  ·split at h
   ·cases h; assumption
   ·cases h
 ·intro n _
  simp [number_read.L6.t, Tr.val]
 ·congr 1
  have : ∀ (l : List UInt8) (n : Nat), n ≤ m → foldE (fun n c => if n * base + hexv c ≤ m then (.inl (n * base + hexv c) : Nat ⊕ (Int ⊕ (Int × Int))) else .inr (.inr (0, 23))) (fun n => Sum.inl ((n : Nat) : Int)) n l = if valN base n l ≤ m then .inl ((valN base n l : Nat) : Int) else .inr (0, 23) := by
   intro l
   induction l with
   | nil => intro n h; simp [foldE, valN, h]
   | cons c l ih =>
    intro n h
    rw [foldE, valN_cons]
    by_cases h8 : n * base + hexv c ≤ m
    ·rw [if_pos h8]; exact ih _ h8
    ·rw [if_neg h8]
     have := valN_ge (base := base) (by omega) l (n * base + hexv c)
     rw [if_neg (by omega)]
  exact this s 0 (Nat.zero_le _)
theorem mx2_nat (most : Int) : mx2 most 0 = ((max most 0).toNat : Int) := by
 unfold mx2
 simp
 omega
theorem number_read_f {base : Nat} {kind most : Int} {s : List UInt8} (hk : ∀ c, isKind kind c = isDig base c) (hb : 2 ≤ base) (hb2 : base ≤ 16) (hm : most ≤ 1099511627776) (hn : s.length < 1125899906842624) :
  number_read.f s (base : Int) most kind = some (numS base most s) := by
 unfold number_read.f number_read.t numS
 rw [octet_All1 hn, mx2_nat, number_loop hb hb2 (by omega) hn]
 have e : s.all (isKind kind) = s.all (isDig base) := by congr 1; funext c; exact hk c
 rw [e]
 by_cases h0 : s = []
 ·subst h0; simp [Tr.val]
 ·have h1 : (s == []) = false := by simpa using h0
  cases h2 : s.all (isDig base) with
  | false => simp [Tr.val, h0]
  | true =>
   by_cases h3 : valN base 0 s ≤ (max most 0).toNat
   ·have h4 : (valN base 0 s : Int) ≤ max most 0 := by omega
    simp only [Tr.val, h1, if_pos h3, if_pos h4, cond_false, Bool.not_true]; simp [h0]
   ·have h4 : ¬ (valN base 0 s : Int) ≤ max most 0 := by omega
    simp only [Tr.val, h1, if_neg h3, if_neg h4, cond_false, Bool.not_true]; simp [h0]
theorem number_Dec_f {most : Int} {s : List UInt8} (hm : most ≤ 1099511627776) (hn : s.length < 1125899906842624) : number_Dec.f s most = some (numS 10 most s) := by
 unfold number_Dec.f number_Dec.t
 rw [show (10 : Int) = ((10 : Nat) : Int) from rfl, number_read_f (fun c => by simp [isKind, isDig10]) (by decide) (by decide) hm hn]
 simp [Tr.val]
theorem trim_front {s : List UInt8} (hn : s.length < 1125899906842624) : text_trimmed_f_octet_Blank.L1.f s = some (s.dropWhile isBlank) := by
 unfold text_trimmed_f_octet_Blank.L1.f
 refine Loop_front (p := isBlank) ?_ ?_ hn
 ·simp [text_trimmed_f_octet_Blank.L1.t, Tr.val]
 ·intro c l _
  cases h : isBlank c <;> simp [text_trimmed_f_octet_Blank.L1.t, Tr.val, octet_Blank_f, h] <;> omega
theorem snoc_wrap {l : List UInt8} {c : UInt8} (hn : l.length < 1125899906842624) : IntKind.i64.wrap (((l ++ [c]).length : Int) - 1) = (l.length : Int) := by
 rw [List.length_append]
 simp only [List.length_cons, List.length_nil]
 rw [w64 (by omega) (by omega)]
 omega
theorem trim_end {s : List UInt8} (hn : s.length < 1125899906842624) : text_trimmed_f_octet_Blank.L3.f s = some (dropEnd isBlank s) := by
 unfold text_trimmed_f_octet_Blank.L3.f
 refine Loop_end (p := isBlank) ?_ ?_ hn
 ·simp [text_trimmed_f_octet_Blank.L3.t, Tr.val]
 ·intro l c hl
  have h1 := snoc_wrap (l := l) (c := c) (by omega)
  have h2 : ((l ++ [c]) == []) = false := by simp
  have h3 : (l ++ [c]).getD l.length 0 = c := by simp
  unfold text_trimmed_f_octet_Blank.L3.t
  rw [h1]
  simp only [Tr.val, h2, Int.toNat_natCast, h3, octet_Blank_f]
  cases h : isBlank c <;> simp <;> omega
theorem text_Trim_f {s : List UInt8} (hn : s.length < 1125899906842624) : text_Trim.f s = some (trim s) := by
 unfold text_Trim.f text_Trim.t text_trimmed_f_octet_Blank.f text_trimmed_f_octet_Blank.t trim trimP
 rw [trim_front hn]
 have := (List.dropWhile_sublist isBlank (l := s)).length_le
 simp only [Tr.val, trim_end (s := List.dropWhile isBlank s) (by omega)]
theorem lower_set {s : List UInt8} {k : Nat} (hk : k < s.length) (b : UInt8) : ((s.take k).map lowerC ++ s.drop k).set k b = (s.take k).map lowerC ++ b :: s.drop (k + 1) := by
 rw [List.set_append_right _ _ (by simp; omega)]
 have e : k - ((s.take k).map lowerC).length = 0 := by simp; omega
 rw [e, List.drop_eq_getElem_cons hk]
 rfl
theorem lower_next {s : List UInt8} {k : Nat} (hk : k < s.length) : (s.take (k + 1)).map lowerC ++ s.drop (k + 1) = (s.take k).map lowerC ++ lowerC s[k] :: s.drop (k + 1) := by
 rw [List.take_add_one, List.getElem?_eq_getElem hk, List.map_append, List.append_assoc]
 rfl
theorem lower_at {s : List UInt8} {k : Nat} (hk : k < s.length) : ((s.take k).map lowerC ++ s.drop k).getD k 0 = s[k] := by
 rw [List.getD_eq_getElem?_getD, List.getElem?_append_right (by simp; omega)]
 simp [Nat.min_eq_left (Nat.le_of_lt hk), hk]
theorem lower_len {s : List UInt8} {k : Nat} (hk : k ≤ s.length) : ((s.take k).map lowerC ++ s.drop k).length = s.length := by
 simp; omega
theorem lower_byte (c : UInt8) (h1 : (c.toNat : Int) ≥ 65) (h2 : (c.toNat : Int) ≤ 90) : IntKind.u8.wrap (IntKind.u8.wrap ((c.toNat : Int) + 97) - 65) = ((c.toNat + 32 : Nat) : Int) ∧ UInt8.ofNat (c.toNat + 32) = lowerC c := by
 have := all256 (p := fun c => !(decide ((c.toNat : Int) ≥ 65) && decide ((c.toNat : Int) ≤ 90)) || (decide (IntKind.u8.wrap (IntKind.u8.wrap ((c.toNat : Int) + 97) - 65) = ((c.toNat + 32 : Nat) : Int)) && (UInt8.ofNat (c.toNat + 32) == lowerC c))) (by decide +kernel) c
 simpa [h1, h2] using this
theorem lower_not (c : UInt8) (h : ¬ ((c.toNat : Int) ≥ 65 ∧ (c.toNat : Int) ≤ 90)) : lowerC c = c := by
 have := all256 (p := fun c => (decide ((c.toNat : Int) ≥ 65) && decide ((c.toNat : Int) ≤ 90)) || (lowerC c == c)) (by decide +kernel) c
 simpa [h] using this
theorem text_Lower_f {s : List UInt8} (hn : s.length < 140737488355328) : text_Lower.f s = some (lower s) := by
 have hL : text_Lower.L3.f s (s.length : Int) 0 = some (lower s) := by
  unfold text_Lower.L3.f
  refine (Loop_list (A := Unit) (a := ()) s (fun k _ => ((s.take k).map lowerC ++ s.drop k, (k : Int))) (fun _ _ => True) (fun _ _ => .inl ()) (fun _ => lower s) ?_ ?_ (by omega) trivial (by simp)).trans ?_
  ·intro k a c _ hk hc
   refine ⟨?_, fun _ _ => trivial⟩
   subst hc
   have hw := wS (k := k) (by omega)
   have ha := lower_at hk
   have hl := lower_len (Nat.le_of_lt hk)
   unfold text_Lower.L3.t
   simp only [Int.toNat_natCast, Nat.zero_add, ha, hl, lt_nat, decide_eq_true hk, hw, lower_next hk]
   by_cases h1 : (s[k].toNat : Int) ≥ 65
   ·by_cases h2 : (s[k].toNat : Int) ≤ 90
    ·obtain ⟨q1, q2⟩ := lower_byte s[k] h1 h2
     rw [q1]
     simp only [Tr.val, h1, h2, decide_true, cond_true, Int.toNat_natCast, q2, lower_set hk, List.length_set, hl]
     simp [hk]
     omega
    ·have := lower_not s[k] (fun h => h2 h.2)
     simp only [Tr.val, h1, h2, decide_true, decide_false, cond_true, cond_false, this]
     simp [hk]
   ·have := lower_not s[k] (fun h => h1 h.1)
    simp only [Tr.val, h1, decide_true, decide_false, cond_true, cond_false, this]
    simp [hk]
  ·intro a _
   simp [text_Lower.L3.t, Tr.val, lower]
  ·have : ∀ (l : List UInt8), foldE (fun (_ : Unit) (_ : UInt8) => (Sum.inl () : Unit ⊕ List UInt8)) (fun _ => lower s) () l = lower s := by
    intro l
    induction l with
    | nil => rfl
    | cons c l ih => exact ih
   rw [this]
 unfold text_Lower.f text_Lower.t
 rw [List.nil_append, hL]
 simp [Tr.val]
 omega
theorem text_Same_f {a b : List UInt8} (ha : a.length < 140737488355328) (hb : b.length < 140737488355328) : text_Same.f a b = some (same a b) := by
 unfold text_Same.f text_Same.t
 rw [text_Lower_f ha, text_Lower_f hb]
 rfl
theorem indexByte_cases (c : UInt8) (s : List UInt8) : Lib.indexByte s c = if s.contains c = true then ((before c s).length : Int) else -1 := by
 by_cases h : s.contains c = true
 ·rw [if_pos h, indexByte_is h]
 ·rw [if_neg h, indexByte_not (by simpa using h)]
theorem take_all {α : Type} (l : List α) : List.take l.length (List.drop 0 l) = l := by simp
theorem slite_f (s : List UInt8) (c : UInt8) : slite_IndexByte.f s (c.toNat : Int) = some (if s.contains c = true then ((before c s).length : Int) else -1) := by
 unfold slite_IndexByte.f
 have : ((c.toNat : Int)).toNat.toUInt8 = c := by simp
 rw [this, indexByte_cases]
theorem before_one {c : UInt8} {s : List UInt8} (h : [c] = s) : s.contains c = true ∧ (before c s).length = 0 := by
 subst h; simp [before]
theorem index3a_f (s : List UInt8) : internal_stringslite_Index_sx3a.f s = some (if s.contains 58 = true then ((before 58 s).length : Int) else -1) := by
 unfold internal_stringslite_Index_sx3a.f internal_stringslite_Index_sx3a.t
 rw [show (58 : Int) = ((58 : UInt8).toNat : Int) from rfl, slite_f]
 by_cases h : [(58 : UInt8)] = s
 ·have := before_one h
  simp only [Tr.val, beq_iff_eq.2 h, cond_true, this.1, this.2, if_true]
  rfl
 ·simp [Tr.val, beq_eq_false_iff_ne.2 h]
def cutT (idx : Option Int) (s : List UInt8) : Tr (List UInt8 × List UInt8 × Bool) :=
 .call idx fun y1 =>
 .br (decide (y1 ≥ (0 : Int))) (.chk ((0 : Int) ≤ (0 : Int) ∧ (0 : Int) ≤ y1 ∧ y1 ≤ (↑s.length : Int)) <| .chk ((0 : Int) ≤ IntKind.i64.wrap (y1 + (1 : Int)) ∧ IntKind.i64.wrap (y1 + (1 : Int)) ≤ (↑s.length : Int) ∧ (↑s.length : Int) ≤ (↑s.length : Int)) <| .ret (List.drop (↑(0 : Nat) : Int).toNat (List.take y1.toNat s), List.drop (IntKind.i64.wrap (y1 + (1 : Int))).toNat (List.take (↑s.length : Int).toNat s), true))
 (.ret (s, [], false))
theorem cutT_f {c : UInt8} {s : List UInt8} (hn : s.length < 1125899906842624) : (cutT (some (if s.contains c = true then ((before c s).length : Int) else -1)) s).val = some (cutC c s) := by
 unfold cutC cutT
 by_cases h : s.contains c = true
 ·have hl := before_len h
  have hw := wS (k := (before c s).length) (by omega)
  simp only [if_pos h, Tr.val, hw, Int.toNat_natCast, take_before h]
  rw [if_pos (by omega), if_pos (by omega)]
  simp [drop_after h]
 ·simp only [if_neg h]
  simp [Tr.val]
theorem cut3a_f {s : List UInt8} (hn : s.length < 1125899906842624) : strings_Cut_sx3a.f s = some (cutC 58 s) := by
 have h1 : internal_stringslite_Cut_sx3a.f s = some (cutC 58 s) := by
  unfold internal_stringslite_Cut_sx3a.f
  show (cutT (internal_stringslite_Index_sx3a.f s) s).val = _
  rw [index3a_f, cutT_f hn]
 unfold strings_Cut_sx3a.f strings_Cut_sx3a.t
 rw [h1]; rfl
theorem contains3a_f (s : List UInt8) : strings_Contains_sx3a.f s = some (s.contains 58) := by
 unfold strings_Contains_sx3a.f strings_Contains_sx3a.t strings_Index_sx3a.f strings_Index_sx3a.t
 rw [index3a_f]
 cases h : s.contains 58 <;> simp [Tr.val]
def gsT (idx : List UInt8 → Option Int) (va : List (List UInt8)) (s : List UInt8) (sepSave : Int) (n : Int) (i : Int) : Tr ((List (List UInt8) × List UInt8 × Int) ⊕ (List (List UInt8) × List UInt8 × Int)) :=
 .br (decide (i < n)) (.call (idx s) fun y1 =>
  .br (decide (y1 < (0 : Int))) (.ok ((0 : Nat) = (0 : Nat) ∧ va.length = va.length) ⟨rfl, rfl⟩ <| .ret (.inr (va, s, i)))
  (.chk ((0 : Int) ≤ (0 : Int) ∧ (0 : Int) ≤ IntKind.i64.wrap (y1 + sepSave) ∧ IntKind.i64.wrap (y1 + sepSave) ≤ (↑s.length : Int)) <| .chk ((0 : Int) ≤ i ∧ i < (↑va.length : Int)) <| .chk ((0 : Nat) + i.toNat < va.length) <| .chk ((0 : Int) ≤ IntKind.i64.wrap (y1 + (1 : Int)) ∧ IntKind.i64.wrap (y1 + (1 : Int)) ≤ (↑s.length : Int) ∧ (↑s.length : Int) ≤ (↑s.length : Int)) <| .chk ((0 : Nat) = (0 : Nat) ∧ va.length = (va.set ((0 : Nat) + i.toNat) (List.drop (↑(0 : Nat) : Int).toNat (List.take (IntKind.i64.wrap (y1 + sepSave)).toNat s))).length) <| .ret (.inl (va.set ((0 : Nat) + i.toNat) (List.drop (↑(0 : Nat) : Int).toNat (List.take (IntKind.i64.wrap (y1 + sepSave)).toNat s)), List.drop (IntKind.i64.wrap (y1 + (1 : Int))).toNat (List.take (↑s.length : Int).toNat s), IntKind.i64.wrap (i + (1 : Int))))))
 (.ok ((0 : Nat) = (0 : Nat) ∧ va.length = va.length) ⟨rfl, rfl⟩ <| .ret (.inr (va, s, i)))
theorem gs_step {idx : List UInt8 → Option Int} {c : UInt8} (hidx : ∀ s, idx s = some (if s.contains c = true then ((before c s).length : Int) else -1)) {va : List (List UInt8)} {s : List UInt8} {i n : Nat} (hi : i < n) (hv : i < va.length) (hvl : va.length < 1125899906842624) (hn : s.length < 1125899906842624) (h : s.contains c = true) :
  (gsT idx va s 0 (n : Int) (i : Int)).val = some (.inl (va.set i (before c s), after c s, ((i + 1 : Nat) : Int))) := by
 have hl := before_len h
 have hw := wS (k := (before c s).length) (by omega)
 have hw0 : IntKind.i64.wrap (((before c s).length : Int) + 0) = ((before c s).length : Int) := w64 (by omega) (by omega)
 have hwi := wS (k := i) (by omega)
 unfold gsT
 rw [hidx]
 have hneg : ¬ ((before c s).length : Int) < 0 := by omega
 simp only [if_pos h, Tr.val, hw, hw0, hwi, Int.toNat_natCast, Nat.zero_add, take_before h, decide_eq_false hneg, lt_nat, decide_eq_true hi, cond_true, cond_false, List.length_set]
 rw [if_pos (by omega), if_pos (by omega), if_pos hv, if_pos (by omega), if_pos (by simp)]
 simp [drop_after h]
theorem gs_loop {idx : List UInt8 → Option Int} {c : UInt8} (hidx : ∀ s, idx s = some (if s.contains c = true then ((before c s).length : Int) else -1)) {n : Nat} : ∀ (k : Nat) (va : List (List UInt8)) (s : List UInt8) (i m : Nat), s.count c = k → va.length = n + 1 → i + k = n → va.length < 1125899906842624 → s.length < 1125899906842624 → k < m →
  ∃ va' s', iter (fun z : List (List UInt8) × List UInt8 × Int => gsT idx z.1 z.2.1 0 (n : Int) z.2.2) m (va, s, (i : Int)) = some (va', s', (n : Int)) ∧ va'.length = n + 1 ∧ va'.set n s' = va.take i ++ splitC c s := by
 intro k
 induction k with
 | zero =>
  intro va s i m hc hv hi hvl hn hm
  have hns : s.contains c = false := by
   have := List.count_eq_zero.1 hc
   simpa using this
  have hin : i = n := by omega
  subst hin
  obtain ⟨m, rfl⟩ : ∃ m', m = m' + 1 := ⟨m - 1, by omega⟩
  refine ⟨va, s, ?_, hv, ?_⟩
  ·rw [iter]
   simp [gsT, Tr.val]
  ·rw [splitC_not hns]
   apply List.ext_getElem?
   intro j
   rw [List.getElem?_set]
   rcases Nat.lt_trichotomy j i with h | h | h
   ·rw [if_neg (by omega), List.getElem?_append_left (by simp; omega), List.getElem?_take_of_lt h]
   ·subst h
    have ht : (va.take j).length = j := by simp; omega
    rw [if_pos rfl, if_pos (by omega), List.getElem?_append_right (by omega), ht, Nat.sub_self]
    rfl
   ·rw [if_neg (by omega), List.getElem?_eq_none (by omega), List.getElem?_eq_none (by simp; omega)]
 | succ k ih =>
  intro va s i m hc hv hi hvl hn hm
  have hs : s.contains c = true := by
   have : 0 < s.count c := by omega
   have := List.count_pos_iff.1 this
   simpa using this
  obtain ⟨m, rfl⟩ : ∃ m', m = m' + 1 := ⟨m - 1, by omega⟩
  have hl := before_len hs
  have hcnt : (after c s).count c = k := by
   have h1 := splitC_len c s.length s (Nat.le_refl _)
   have h2 := splitC_len c (after c s).length (after c s) (Nat.le_refl _)
   rw [splitC_is hs, List.length_cons] at h1
   omega
  obtain ⟨va', s', h1, h2, h3⟩ := ih (va.set i (before c s)) (after c s) (i + 1) m hcnt (by simpa using hv) (by omega) (by simpa using hvl) (by omega) (by omega)
  refine ⟨va', s', ?_, h2, ?_⟩
  ·rw [iter]
   simp only [gs_step hidx (show i < n by omega) (show i < va.length by omega) hvl hn hs]
   exact h1
  ·rw [h3, splitC_is hs]
   have : (va.set i (before c s)).take (i + 1) = va.take i ++ [before c s] := by
    have ht : (va.take i).length = i := by simp; omega
    rw [List.take_set, List.take_add_one, List.getElem?_eq_getElem (show i < va.length by omega), List.set_append_right _ _ (by omega), ht, Nat.sub_self]
    rfl
   rw [this, List.append_assoc]
   rfl
def splitT (idx : List UInt8 → Option Int) (cnt : Option Int) (s : List UInt8) : Tr (List (List UInt8)) :=
 .call cnt fun y1 =>
  .chk ((0 : Int) ≤ mn2 (IntKind.i64.wrap (y1 + (1 : Int))) (IntKind.i64.wrap ((↑s.length : Int) + (1 : Int))) ∧ mn2 (IntKind.i64.wrap (y1 + (1 : Int))) (IntKind.i64.wrap ((↑s.length : Int) + (1 : Int))) ≤ mn2 (IntKind.i64.wrap (y1 + (1 : Int))) (IntKind.i64.wrap ((↑s.length : Int) + (1 : Int))) ∧ mn2 (IntKind.i64.wrap (y1 + (1 : Int))) (IntKind.i64.wrap ((↑s.length : Int) + (1 : Int))) * (↑(16 : Nat) : Int) ≤ (140737488355328 : Int) ∧ mn2 (IntKind.i64.wrap (y1 + (1 : Int))) (IntKind.i64.wrap ((↑s.length : Int) + (1 : Int))) ≤ (140737488355328 : Int)) <| .chk ((0 : Nat) = (0 : Nat) ∧ (mn2 (IntKind.i64.wrap (y1 + (1 : Int))) (IntKind.i64.wrap ((↑s.length : Int) + (1 : Int)))).toNat = (List.replicate (mn2 (IntKind.i64.wrap (y1 + (1 : Int))) (IntKind.i64.wrap ((↑s.length : Int) + (1 : Int)))).toNat ([] : List UInt8)).length) <| .call (Loop (fun z : List (List UInt8) × List UInt8 × Int => gsT idx z.1 z.2.1 0 (IntKind.i64.wrap (mn2 (IntKind.i64.wrap (y1 + (1 : Int))) (IntKind.i64.wrap ((↑s.length : Int) + (1 : Int))) - (1 : Int))) z.2.2) ((List.replicate (mn2 (IntKind.i64.wrap (y1 + (1 : Int))) (IntKind.i64.wrap ((↑s.length : Int) + (1 : Int)))).toNat ([] : List UInt8)), s, (0 : Int))) fun y2 =>
  .chk ((0 : Int) ≤ y2.snd.snd ∧ y2.snd.snd < (↑y2.fst.length : Int)) <| .chk ((0 : Nat) + y2.snd.snd.toNat < y2.fst.length) <| .chk ((0 : Int) ≤ (0 : Int) ∧ (0 : Int) ≤ IntKind.i64.wrap (y2.snd.snd + (1 : Int)) ∧ IntKind.i64.wrap (y2.snd.snd + (1 : Int)) ≤ (↑y2.fst.length : Int)) <| .chk ((0 : Nat) = (0 : Nat) ∧ (IntKind.i64.wrap (y2.snd.snd + (1 : Int)) - (↑(0 : Nat) : Int)).toNat = (y2.fst.set ((0 : Nat) + y2.snd.snd.toNat) y2.snd.fst).length) <| .ret (y2.fst.set ((0 : Nat) + y2.snd.snd.toNat) y2.snd.fst)
theorem splitT_f {idx : List UInt8 → Option Int} {c : UInt8} (hidx : ∀ s, idx s = some (if s.contains c = true then ((before c s).length : Int) else -1)) {s : List UInt8} (hn : s.length ≤ 1099511627776) :
  (splitT idx (some ((s.count c : Nat) : Int)) s).val = some (splitC c s) := by
 have hcl : s.count c ≤ s.length := List.count_le_length
 have e1 := wS (k := s.count c) (by omega)
 have e2 := wS (k := s.length) (by omega)
 have e3 : mn2 (((s.count c + 1 : Nat) : Int)) (((s.length + 1 : Nat) : Int)) = ((s.count c + 1 : Nat) : Int) := by rw [mn2_eq]; omega
 have e4 : IntKind.i64.wrap (((s.count c + 1 : Nat) : Int) - 1) = ((s.count c : Nat) : Int) := by rw [w64 (by omega) (by omega)]; omega
 obtain ⟨va, s', h1, h2, h3⟩ := gs_loop hidx (n := s.count c) (s.count c) (List.replicate (s.count c + 1) []) s 0 rounds rfl (by simp) (by omega) (by simp; omega) (by omega) (by unfold rounds; omega)
 have hL : Loop (fun z : List (List UInt8) × List UInt8 × Int => gsT idx z.1 z.2.1 0 ((s.count c : Nat) : Int) z.2.2) (List.replicate (s.count c + 1) [], s, 0) = some (va, s', ((s.count c : Nat) : Int)) := h1
 unfold splitT
 simp only [Tr.val, e1, e2, e3, e4, Int.toNat_natCast, hL, Nat.zero_add, h2, List.length_set, List.length_replicate]
 rw [if_pos (by omega), if_pos (by simp), if_pos (by omega), if_pos (by omega), if_pos (by omega), if_pos (by simp), h3]
 simp
theorem splitC_small {c : UInt8} : ∀ (n : Nat) {s : List UInt8}, s.length ≤ n → ∀ x ∈ splitC c s, x.length ≤ s.length
 | 0, s, h, x, hx => by
  have : s = [] := List.length_eq_zero_iff.1 (by omega)
  subst this
  simp [splitC] at hx
  subst hx
  simp
 | n + 1, s, h, x, hx => by
  by_cases hc : s.contains c = true
  ·have hl := before_len hc
   rw [splitC_is hc] at hx
   rcases List.mem_cons.1 hx with rfl | hx
   ·omega
   ·have := splitC_small n (show (after c s).length ≤ n by omega) x hx
    omega
  ·rw [splitC_not (by simpa using hc)] at hx
   simp at hx
   subst hx
   exact Nat.le_refl _
def pctStep : List UInt8 → Nat ⊕ (Unit ⊕ Bool)
 | a :: b :: _ => if (isHex a && isHex b) = true then .inl 3 else .inr (.inr false)
 | _ => .inr (.inr false)
def signStep (others : List UInt8) (pct : Bool) : List UInt8 → Nat ⊕ (Unit ⊕ Bool)
 | [] => .inr (.inl ())
 | c :: l => if (isDigit c || isLetter c || others.contains c) = true then .inl 1 else if (pct && c == 37) = true then pctStep l else .inr (.inr false)
theorem signsGo_cons (others : List UInt8) (pct : Bool) (c : UInt8) (l : List UInt8) : signsGo others pct (c :: l) = if (isDigit c || isLetter c || others.contains c) = true then signsGo others pct l else if (pct && c == 37) = true then (match l with
  | a :: b :: l' => isHex a && isHex b && signsGo others pct l'
  | _ => false)
 else false := by
 cases l with
 | nil => simp [signsGo]
 | cons a l =>
  cases l with
  | nil => simp [signsGo]
  | cons b l => rw [signsGo]
theorem signStep_pos {others : List UInt8} {pct : Bool} {l : List UInt8} {j : Nat} (h : signStep others pct l = .inl j) : 0 < j ∧ j ≤ l.length := by
 cases l with
 | nil => simp [signStep] at h
 | cons c l =>
  unfold signStep at h
  simp only at h
  by_cases h1 : (isDigit c || isLetter c || others.contains c) = true
  ·rw [if_pos h1] at h
   cases h
   simp
  ·rw [if_neg h1] at h
   by_cases h2 : (pct && c == 37) = true
   ·rw [if_pos h2] at h
    cases l with
    | nil => cases h
    | cons a l =>
     cases l with
     | nil => cases h
     | cons b l =>
      simp only [pctStep] at h
      by_cases h3 : (isHex a && isHex b) = true
      ·rw [if_pos h3] at h
       cases h
       simp
      ·rw [if_neg h3] at h
       cases h
   ·rw [if_neg h2] at h
    cases h
theorem signs_spec (others : List UInt8) (pct : Bool) (l : List UInt8) : (if signsGo others pct l = true then (Sum.inl () : Unit ⊕ Bool) else .inr false) = goOn (fun l => if signsGo others pct l = true then (Sum.inl () : Unit ⊕ Bool) else .inr false) l (signStep others pct l) := by
 cases l with
 | nil => rfl
 | cons c l =>
  rw [signsGo_cons]
  unfold signStep
  by_cases h1 : (isDigit c || isLetter c || others.contains c) = true
  ·simp only [if_pos h1, goOn, List.drop_succ_cons, List.drop_zero]
  ·simp only [if_neg h1]
   by_cases h2 : (pct && c == 37) = true
   ·simp only [if_pos h2]
    cases l with
    | nil => rfl
    | cons a l =>
     cases l with
     | nil => rfl
     | cons b l =>
      by_cases h3 : (isHex a && isHex b) = true
      ·simp only [pctStep, if_pos h3, goOn, h3, Bool.true_and]
       rfl
      ·simp only [pctStep, if_neg h3, goOn, (by simpa using h3 : (isHex a && isHex b) = false), Bool.false_and]
       rfl
   ·simp only [if_neg h2]
    rfl
theorem letter_or (c : UInt8) : ((decide (IntKind.u8.wrap (↑(BitVec.ofInt IntKind.u8.bits (c.toNat : Int) ||| BitVec.ofInt IntKind.u8.bits (32 : Int)).toNat : Int) ≥ (97 : Int))) && (decide (IntKind.u8.wrap (↑(BitVec.ofInt IntKind.u8.bits (c.toNat : Int) ||| BitVec.ofInt IntKind.u8.bits (32 : Int)).toNat : Int) ≤ (122 : Int)))) = isLetter c := by
 have := all256 (p := fun c => ((decide (IntKind.u8.wrap (↑(BitVec.ofInt IntKind.u8.bits (c.toNat : Int) ||| BitVec.ofInt IntKind.u8.bits (32 : Int)).toNat : Int) ≥ (97 : Int))) && (decide (IntKind.u8.wrap (↑(BitVec.ofInt IntKind.u8.bits (c.toNat : Int) ||| BitVec.ofInt IntKind.u8.bits (32 : Int)).toNat : Int) ≤ (122 : Int)))) == isLetter c) (by decide +kernel) c
 simpa using this
theorem indexByte_f (s : List UInt8) (c : UInt8) : strings_IndexByte.f s (c.toNat : Int) = some (if s.contains c = true then ((before c s).length : Int) else -1) := by
 unfold strings_IndexByte.f strings_IndexByte.t
 rw [slite_f]; rfl
theorem drop_two {s : List UInt8} {i : Nat} {c a b : UInt8} {l : List UInt8} (h : s.drop i = c :: a :: b :: l) : List.drop (i + 1) (List.take (i + 3) s) = [a, b] := by
 have : List.drop (i + 1) (List.take (i + 3) s) = ((s.drop i).take 3).drop 1 := by
  rw [List.take_drop, List.drop_drop]
 rw [this, h]
 rfl
theorem signs_f {s others : List UInt8} {pct : Bool} (hn : s.length < 1125899906842000) : target_signs.f s others pct = some (signsGo others pct s) := by
 have hL : target_signs.L2.f s others pct 0 = some (if signsGo others pct s = true then .inl () else .inr false) := by
  unfold target_signs.L2.f
  refine Loop_drop s (signStep others pct) (fun l => if signsGo others pct l = true then .inl () else .inr false) (signs_spec others pct) ?_ ?_ (by omega)
  ·exact fun l j h => signStep_pos h
  ·intro i hi
   by_cases hk : i < s.length
   ·have e := List.drop_eq_getElem_cons hk
    have hlen := congrArg List.length e
    simp only [List.length_drop, List.length_cons] at hlen
    have hw1 := wS (k := i) (by omega)
    have hw2 : IntKind.i64.wrap ((i : Int) + 2) = ((i + 2 : Nat) : Int) := by rw [w64 (by omega) (by omega)]; omega
    have hw3 : IntKind.i64.wrap ((i : Int) + 3) = ((i + 3 : Nat) : Int) := by rw [w64 (by omega) (by omega)]; omega
    have hw4 : IntKind.i64.wrap (((i + 2 : Nat) : Int) + 1) = ((i + 3 : Nat) : Int) := by rw [w64 (by omega) (by omega)]; omega
    have hlet := letter_or s[i]
    rw [e]
    unfold target_signs.L2.t signStep
    simp only [getD_at hk rfl, octet_Digit_f, indexByte_f, Tr.val, lt_nat, decide_eq_true hk, cond_true, in_rng hk, if_true, hw1, hw2, hw3, hw4, and_self]
    generalize hA : decide (IntKind.u8.wrap (↑(BitVec.ofInt IntKind.u8.bits (s[i].toNat : Int) ||| BitVec.ofInt IntKind.u8.bits (32 : Int)).toNat : Int) ≥ (97 : Int)) = A at hlet ⊢
    generalize hB : decide (IntKind.u8.wrap (↑(BitVec.ofInt IntKind.u8.bits (s[i].toNat : Int) ||| BitVec.ofInt IntKind.u8.bits (32 : Int)).toNat : Int) ≤ (122 : Int)) = B at hlet ⊢
    rw [← hlet]
    have h37 : ((s[i].toNat : Int) == 37) = (s[i] == 37) := byte_eqI s[i] 37 (by decide) (by decide)
    rw [h37]
    have hidx : decide ((if others.contains s[i] = true then ((before s[i] others).length : Int) else -1) ≥ 0) = others.contains s[i] := by
     cases others.contains s[i] <;> simp
    rw [hidx]
    have hP : (bif decide (i + 2 < s.length) then (if (0 : Int) ≤ ((i + 1 : Nat) : Int) ∧ ((i + 1 : Nat) : Int) ≤ ((i + 3 : Nat) : Int) ∧ ((i + 3 : Nat) : Int) ≤ (s.length : Int) then (Tr.call (octet_All.f [5] (List.drop (Int.toNat ((i + 1 : Nat) : Int)) (List.take (Int.toNat ((i + 3 : Nat) : Int)) s))) fun y => Tr.br y (Tr.ret (Sum.inl ((i + 3 : Nat) : Int))) (Tr.ret (Sum.inr (Sum.inr false)))).val else none) else some (Sum.inr (Sum.inr false) : Int ⊕ (Unit ⊕ Bool))) = some (addTo i (pctStep (s.drop (i + 1)))) := by
     by_cases h2 : i + 2 < s.length
     ·obtain ⟨a, b, l, hd⟩ : ∃ a b l, s.drop (i + 1) = a :: b :: l := by
       have e1 := List.drop_eq_getElem_cons (show i + 1 < s.length by omega)
       have e2 := List.drop_eq_getElem_cons (show i + 1 + 1 < s.length by omega)
       exact ⟨_, _, _, by rw [e1, e2]⟩
      have hd2 := drop_two (show s.drop i = s[i] :: a :: b :: l by rw [e, hd])
      rw [decide_eq_true h2, cond_true, if_pos (by omega), Int.toNat_natCast, Int.toNat_natCast, hd2, hd, octet_All1 (by simp)]
      have k5 : ∀ c, isKind 5 c = isHex c := fun c => by simp [isKind]
      simp only [List.all_cons, List.all_nil, Bool.and_true, k5, Tr.val]
      rw [pctStep]
      cases h3 : (isHex a && isHex b) <;> rfl
     ·rw [decide_eq_false h2, cond_false]
      have : (s.drop (i + 1)).length ≤ 1 := by simp; omega
      cases hd : s.drop (i + 1) with
      | nil => rfl
      | cons a l =>
       cases l with
       | nil => rfl
       | cons b l => rw [hd] at this; simp at this
    cases isDigit s[i] <;> cases A <;> cases B <;> cases others.contains s[i] <;> cases pct <;> cases (s[i] == 37) <;> (try simp only [decide_true, cond_true, cond_false, Bool.false_or, Bool.or_false, Bool.true_or, Bool.or_true, Bool.and_true, Bool.true_and, Bool.and_false, Bool.false_and, if_true, Bool.false_eq_true, if_false]) <;> (first | rfl | exact hP)
   ·have hkl : i = s.length := by omega
    subst hkl
    simp [target_signs.L2.t, Tr.val, signStep, addTo]
 unfold target_signs.f target_signs.t
 rw [hL]
 cases signsGo others pct s <;> rfl
def hostSigns : List UInt8 := [45, 46, 95, 126]
def innerSigns : List UInt8 := [45, 46, 95, 126, 33, 36, 38, 39, 40, 41, 42, 43, 44, 59, 61, 58, 64, 47]
def hostS (s : List UInt8) : Bool :=
 (if (cutC 58 s).2.2 = true then decide ((numS 10 65535 (cutC 58 s).2.1).2 = 0) && decide ((cutC 58 s).2.1.length ≤ 5) else true) && !((cutC 58 s).1 == []) && decide ((cutC 58 s).1.length ≤ 255) && signsGo hostSigns false (cutC 58 s).1
def starts (c : UInt8) (s : List UInt8) : Bool := match s with
 | x :: _ => x == c
 | [] => false
def pathS (s : List UInt8) : Bool := starts 47 s && signsGo innerSigns true s
theorem cut_len {c : UInt8} {s : List UInt8} : (cutC c s).1.length ≤ s.length ∧ (cutC c s).2.1.length ≤ s.length := by
 unfold cutC
 by_cases h : s.contains c = true
 ·have := before_len h
  simp only [if_pos h]
  omega
 ·simp only [if_neg h]
  simp
theorem host_f {s : List UInt8} (hn : s.length < 1099511627776) : target_Host.f s = some (hostS s) := by
 have hl := cut_len (c := 58) (s := s)
 unfold target_Host.f target_Host.t hostS
 rw [cut3a_f (by omega), Tr.val_call rfl]
 generalize cutC 58 s = q at hl ⊢
 obtain ⟨n, p, has⟩ := q
 simp only at hl ⊢
 rw [number_Dec_f (by omega) (by omega), signs_f (s := n) (by omega)]
 have e : ([(45 : UInt8), (46 : UInt8), (95 : UInt8), (126 : UInt8)]) = hostSigns := rfl
 rw [e]
 generalize numS 10 65535 p = r
 obtain ⟨r1, r2⟩ := r
 have h255 : decide ((n.length : Int) ≤ 255) = decide (n.length ≤ 255) := by simp [decide_eq_decide]; omega
 have h5 : decide ((p.length : Int) > 5) = !decide (p.length ≤ 5) := by
  by_cases h : p.length ≤ 5
  ·simp [h]; omega
  ·simp [h]; omega
 have h0 : (r2 != 0) = !decide (r2 = 0) := by
  by_cases h : r2 = 0 <;> simp [h]
 simp only [Tr.val, h255, h5, h0]
 cases has <;> cases (n == []) <;> cases decide (n.length ≤ 255) <;> cases decide (r2 = 0) <;> cases decide (p.length ≤ 5) <;> simp
theorem prefix2f_f (s : List UInt8) : strings_HasPrefix_sx2f.f s = some (starts 47 s) := by
 have h1 : internal_stringslite_HasPrefix_sx2f.f s = some (starts 47 s) := by
  unfold internal_stringslite_HasPrefix_sx2f.f internal_stringslite_HasPrefix_sx2f.t starts
  cases s with
  | nil => simp [Tr.val]
  | cons x l =>
   have h : decide ((((x :: l).length : Nat) : Int) ≥ 1) = true := by simp; omega
   simp only [Tr.val, h, cond_true]
   rw [if_pos (by simp; omega)]
   simp
 unfold strings_HasPrefix_sx2f.f strings_HasPrefix_sx2f.t
 rw [h1]; rfl
theorem path_f {s : List UInt8} (hn : s.length < 1099511627776) : target_Path.f s = some (pathS s) := by
 unfold target_Path.f target_Path.t pathS
 rw [prefix2f_f, signs_f (by omega)]
 cases starts 47 s <;> simp [Tr.val, innerSigns]
theorem vtrue {α : Type} (a b : Tr α) : (Tr.br true a b).val = a.val := rfl
theorem vfalse {α : Type} (a b : Tr α) : (Tr.br false a b).val = b.val := rfl
def idxV : Unit ⊕ Int → Int
 | .inl _ => -1
 | .inr j => j
def idxStep {α : Type} (p : α → Bool) (k : Nat) (c : α) : Option (Unit ⊕ Int) := if p c = true then some (.inr (k : Int)) else none
theorem idx_scan {α : Type} (p : α → Bool) : ∀ (l : List α) (k : Nat), idxV (scan (idxStep p) (.inl ()) k l) = if l.any p = true then ((k + l.findIdx p : Nat) : Int) else -1
 | [], _ => rfl
 | c :: l, k => by
  rw [scan, idxStep, List.any_cons, List.findIdx_cons]
  by_cases h : p c = true
  ·simp [h, idxV]
  ·have h' : p c = false := by simpa using h
   simp only [h', Bool.false_eq_true, if_false, Bool.false_or, cond_false]
   rw [idx_scan p l (k + 1)]
   split
   ·congr 1; omega
   ·rfl
theorem idx_ge {α : Type} (p : α → Bool) (l : List α) : decide (idxV (scan (idxStep p) (.inl ()) 0 l) ≥ 0) = l.any p := by
 rw [idx_scan]
 cases l.any p <;> simp
theorem idx_t (q : Unit ⊕ Int) {k : Unit → Tr Int} (hk : k () = .ret (-1)) : (Tr.both (some q) k (fun y => Tr.ret y)).val = some (idxV q) := by
 cases q with
 | inl u => cases u; show (k ()).val = _; rw [hk]; rfl
 | inr j => rfl
end Pl
end Go.Vx
end
section
set_option linter.unusedVariables false
set_option linter.unusedSimpArgs false
set_option maxRecDepth 100000
namespace Go.Vx
namespace Pl
open Go
def dc (n : Nat) : UInt8 := UInt8.ofNat (48 + n)
def dg (n : Nat) : List UInt8 := if n < 10 then [dc n] else if n < 100 then [dc (n / 10), dc (n % 10)] else [dc (n / 100), dc (n / 10 % 10), dc (n % 10)]
theorem dg_eq {n : Nat} (h : n < 1000) : Lib.decDigits n = dg n := by
 unfold dg
 split
 ·rename_i h1
  rw [Lib.decDigits, dif_pos h1]; rfl
 ·rename_i h1
  split
  ·rename_i h2
   rw [Lib.decDigits, dif_neg h1, Lib.decDigits, dif_pos (by omega)]; rfl
  ·rename_i h2
   rw [Lib.decDigits, dif_neg h1, Lib.decDigits, dif_neg (by omega), Lib.decDigits, dif_pos (by omega)]
   have : n / 10 / 10 = n / 100 := by omega
   rw [this]; rfl
theorem itoa_eq {n : Nat} (h : n < 1000) : Lib.itoa (n : Int) = dg n := by
 unfold Lib.itoa
 rw [if_neg (by omega), Int.toNat_natCast, dg_eq h]
theorem dc_hex : ∀ n : Fin 10, hexv (dc n.val) = n.val ∧ isDig 10 (dc n.val) = true ∧ dc n.val ≠ 46 ∧ dc n.val ≠ 47 := by decide +kernel
theorem dc_hexv {n : Nat} (h : n < 10) : hexv (dc n) = n := (dc_hex ⟨n, h⟩).1
theorem dc_dig {n : Nat} (h : n < 10) : isDig 10 (dc n) = true := (dc_hex ⟨n, h⟩).2.1
theorem dg_dig {n : Nat} (h : n < 1000) : ∀ c ∈ dg n, ∃ d, d < 10 ∧ c = dc d := by
 intro c hc
 unfold dg at hc
 split at hc
 ·simp at hc; exact ⟨n, by omega, hc⟩
 ·split at hc
  ·simp at hc
   rcases hc with e | e
   ·exact ⟨_, by omega, e⟩
   ·exact ⟨_, by omega, e⟩
  ·simp at hc
   rcases hc with e | e | e
   ·exact ⟨_, by omega, e⟩
   ·exact ⟨_, by omega, e⟩
   ·exact ⟨_, by omega, e⟩
theorem dg_all {n : Nat} (h : n < 1000) : (dg n).all (isDig 10) = true := by
 rw [List.all_eq_true]
 intro c hc
 obtain ⟨d, hd, rfl⟩ := dg_dig h c hc
 exact dc_dig hd
theorem dg_ne (n : Nat) : dg n ≠ [] := by
 unfold dg; split
 ·simp
 ·split <;> simp
theorem dg_val {n : Nat} (h : n < 1000) : valN 10 0 (dg n) = n := by
 unfold dg
 split
 ·rename_i h1; simp [valN, dc_hexv h1]
 ·rename_i h1
  split
  ·rename_i h2
   simp only [valN, List.foldl_cons, List.foldl_nil, dc_hexv (show n / 10 < 10 by omega), dc_hexv (show n % 10 < 10 by omega)]
   omega
  ·simp only [valN, List.foldl_cons, List.foldl_nil, dc_hexv (show n / 100 < 10 by omega), dc_hexv (show n / 10 % 10 < 10 by omega), dc_hexv (show n % 10 < 10 by omega)]
   omega
theorem numS_dg {n most : Nat} (h : n < 1000) (hm : n ≤ most) : numS 10 (most : Int) (dg n) = ((n : Int), 0) := by
 unfold numS
 rw [dg_all h, dg_val h, if_neg (by simp [dg_ne]), if_pos (by omega)]
def shortS (most : Nat) (s : List UInt8) : Int × Bool := ((numS 10 (most : Int) s).1, (numS 10 (most : Int) s).2 == 0 && dg (numS 10 (most : Int) s).1.toNat == s)
theorem numS_le {most : Nat} {s : List UInt8} : 0 ≤ (numS 10 (most : Int) s).1 ∧ (numS 10 (most : Int) s).1 ≤ most := by
 unfold numS
 split
 ·simp
 ·split <;> simp <;> omega
theorem shortS_dg {n most : Nat} (h : n < 1000) (hm : n ≤ most) : shortS most (dg n) = ((n : Int), true) := by
 unfold shortS
 rw [numS_dg h hm]
 simp
theorem shortS_is {most : Nat} {s : List UInt8} (h : (shortS most s).2 = true) : ∃ n : Nat, n ≤ most ∧ (shortS most s).1 = (n : Int) ∧ s = dg n := by
 have hl := numS_le (most := most) (s := s)
 simp only [shortS, Bool.and_eq_true, beq_iff_eq] at h
 refine ⟨(numS 10 (most : Int) s).1.toNat, by omega, ?_, h.2.symm⟩
 simp only [shortS]
 omega
theorem shortS_not {most : Nat} {s : List UInt8} {c : UInt8} (hc : s.contains c = true) (hd : isDig 10 c = false) : (shortS most s).2 = false := by
 have : s.all (isDig 10) = false := by
  rw [List.all_eq_false]
  exact ⟨c, by simpa using hc, by simp [hd]⟩
 simp [shortS, numS, this]
theorem splitC_app {c : UInt8} {a b : List UInt8} (h : a.contains c = false) : splitC c (a ++ c :: b) = a :: splitC c b := by
 have hc : (a ++ c :: b).contains c = true := by simp
 have hb : before c (a ++ c :: b) = a ∧ after c (a ++ c :: b) = b := by
  unfold before after
  induction a with
  | nil => simp
  | cons x a ih =>
   have hx : x ≠ c := by
    intro e; subst e; simp at h
   have ha : a.contains c = false := by
    simp at h ⊢; exact h.2
   have := ih ha (by simp)
   simp [hx, this]
 rw [splitC_is hc, hb.1, hb.2]
def joinC (c : UInt8) : List (List UInt8) → List UInt8
 | [] => []
 | [x] => x
 | x :: y :: l => x ++ c :: joinC c (y :: l)
theorem joinC_split {c : UInt8} : ∀ (n : Nat) (s : List UInt8), s.length ≤ n → joinC c (splitC c s) = s
 | 0, s, h => by
  have : s = [] := List.length_eq_zero_iff.1 (by omega)
  subst this; rfl
 | n + 1, s, h => by
  by_cases hc : s.contains c = true
  ·have hl := before_len hc
   rw [splitC_is hc]
   have ih := joinC_split (c := c) n (after c s) (by omega)
   cases hs : splitC c (after c s) with
   | nil => exact absurd hs (splitC_ne _ _)
   | cons y l =>
    rw [hs] at ih
    rw [joinC, ih]
    exact (before_after hc).symm
  ·rw [splitC_not (by simpa using hc)]; rfl
theorem bv32 {a : Nat} (h : a < 4294967296) : (BitVec.ofInt IntKind.u32.bits (a : Int)).toNat = a := by
 show (BitVec.ofInt 32 (a : Int)).toNat = a
 rw [BitVec.toNat_ofInt]
 omega
theorem bv64 {a : Nat} (h : a < 18446744073709551616) : (BitVec.ofInt IntKind.u64.bits (a : Int)).toNat = a := by
 show (BitVec.ofInt 64 (a : Int)).toNat = a
 rw [BitVec.toNat_ofInt]
 omega
theorem u_or {a b : Nat} (ha : a < 4294967296) (hb : b < 4294967296) : IntKind.u32.wrap (((BitVec.ofInt IntKind.u32.bits (a : Int) ||| BitVec.ofInt IntKind.u32.bits (b : Int)).toNat : Nat) : Int) = ((a ||| b : Nat) : Int) := by
 rw [BitVec.toNat_or, bv32 ha, bv32 hb, w32 (by omega) (by have := Nat.or_lt_two_pow (n := 32) ha hb; omega)]
theorem or_byte {a n : Nat} (h : n < 256) : a * 256 ||| n = a * 256 + n := by
 have := Nat.shiftLeft_add_eq_or_of_lt (a := a) (i := 8) (b := n) (by omega)
 rw [Nat.shiftLeft_eq] at this
 exact this.symm
end Pl
end Go.Vx
end
section
set_option linter.unusedVariables false
set_option linter.unusedSimpArgs false
set_option maxRecDepth 100000
namespace Go.Vx
namespace Pl
open Go Go.Proofs
def kindNames : List (List UInt8) := [[(97 : UInt8), (100 : UInt8), (100 : UInt8), (102 : UInt8), (105 : UInt8), (101 : UInt8), (108 : UInt8), (100 : UInt8)], [(100 : UInt8), (114 : UInt8), (111 : UInt8), (112 : UInt8), (102 : UInt8), (105 : UInt8), (101 : UInt8), (108 : UInt8), (100 : UInt8)], [(115 : UInt8), (101 : UInt8), (116 : UInt8), (102 : UInt8), (105 : UInt8), (101 : UInt8), (108 : UInt8), (100 : UInt8)], [(114 : UInt8), (101 : UInt8), (119 : UInt8), (114 : UInt8), (105 : UInt8), (116 : UInt8), (101 : UInt8)], [(97 : UInt8), (117 : UInt8), (116 : UInt8), (104 : UInt8)], [(99 : UInt8), (111 : UInt8), (114 : UInt8), (115 : UInt8)], [(97 : UInt8), (108 : UInt8), (108 : UInt8), (111 : UInt8), (119 : UInt8), (110 : UInt8), (101 : UInt8), (116 : UInt8)], [(100 : UInt8), (101 : UInt8), (110 : UInt8), (121 : UInt8), (110 : UInt8), (101 : UInt8), (116 : UInt8)], [(114 : UInt8), (97 : UInt8), (116 : UInt8), (101 : UInt8)], [(99 : UInt8), (97 : UInt8), (112 : UInt8)], [(114 : UInt8), (101 : UInt8), (100 : UInt8), (105 : UInt8), (114 : UInt8), (101 : UInt8), (99 : UInt8), (116 : UInt8)], [(115 : UInt8), (116 : UInt8), (97 : UInt8), (116 : UInt8), (105 : UInt8), (99 : UInt8)]]
theorem fields_lit : strings_Fields.f [(97 : UInt8), (100 : UInt8), (100 : UInt8), (102 : UInt8), (105 : UInt8), (101 : UInt8), (108 : UInt8), (100 : UInt8), (32 : UInt8), (100 : UInt8), (114 : UInt8), (111 : UInt8), (112 : UInt8), (102 : UInt8), (105 : UInt8), (101 : UInt8), (108 : UInt8), (100 : UInt8), (32 : UInt8), (115 : UInt8), (101 : UInt8), (116 : UInt8), (102 : UInt8), (105 : UInt8), (101 : UInt8), (108 : UInt8), (100 : UInt8), (32 : UInt8), (114 : UInt8), (101 : UInt8), (119 : UInt8), (114 : UInt8), (105 : UInt8), (116 : UInt8), (101 : UInt8), (32 : UInt8), (97 : UInt8), (117 : UInt8), (116 : UInt8), (104 : UInt8), (32 : UInt8), (99 : UInt8), (111 : UInt8), (114 : UInt8), (115 : UInt8), (32 : UInt8), (97 : UInt8), (108 : UInt8), (108 : UInt8), (111 : UInt8), (119 : UInt8), (110 : UInt8), (101 : UInt8), (116 : UInt8), (32 : UInt8), (100 : UInt8), (101 : UInt8), (110 : UInt8), (121 : UInt8), (110 : UInt8), (101 : UInt8), (116 : UInt8), (32 : UInt8), (114 : UInt8), (97 : UInt8), (116 : UInt8), (101 : UInt8), (32 : UInt8), (99 : UInt8), (97 : UInt8), (112 : UInt8), (32 : UInt8), (114 : UInt8), (101 : UInt8), (100 : UInt8), (105 : UInt8), (114 : UInt8), (101 : UInt8), (99 : UInt8), (116 : UInt8), (32 : UInt8), (115 : UInt8), (116 : UInt8), (97 : UInt8), (116 : UInt8), (105 : UInt8), (99 : UInt8)] = some kindNames := by decide +kernel
def hasV (k : Int) : Int := if 1 ≤ k ∧ k ≤ 12 then [(9 : Int), 1, 9, 9, 9, 8, 8, 8, 6, 2, 10, 10].getD (k - 1).toNat 0 else 0
theorem kind_nat {k : Int} (h : 1 ≤ k ∧ k ≤ 12) : ∃ n : Fin 12, k = ((n.val + 1 : Nat) : Int) := ⟨⟨(k - 1).toNat, by omega⟩, by simp; omega⟩
theorem has_f (k : Int) : rule_has.f k = some (hasV k) := by
 by_cases h : 1 ≤ k ∧ k ≤ 12
 ·obtain ⟨n, rfl⟩ := kind_nat h
  exact (show ∀ n : Fin 12, rule_has.f ((n.val + 1 : Nat) : Int) = some (hasV ((n.val + 1 : Nat) : Int)) by decide +kernel) n
 ·unfold rule_has.f rule_has.t hasV
  rw [fields_lit, Tr.val_call rfl, if_neg h]
  by_cases h1 : k ≥ 1
  ·have h2 : ¬ k ≤ 12 := by omega
   rw [decide_eq_true h1, vtrue, decide_eq_false h2, vfalse]; rfl
  ·rw [decide_eq_false h1, vfalse]; rfl
theorem hasV_mem (k : Int) : hasV k ∈ [(0 : Int), 9, 1, 8, 6, 2, 10] := by
 by_cases h : 1 ≤ k ∧ k ≤ 12
 ·obtain ⟨n, rfl⟩ := kind_nat h
  exact (show ∀ n : Fin 12, hasV ((n.val + 1 : Nat) : Int) ∈ [(0 : Int), 9, 1, 8, 6, 2, 10] by decide +kernel) n
 ·unfold hasV; rw [if_neg h]; simp
def bitS (h : Int) (b : Nat) : Bool := h.toNat.testBit b
def aloneS (h : Int) (Name Value : List UInt8) (N M : Int) : Bool := (bitS h 0 || Name == []) && (bitS h 1 || N == 0) && (bitS h 2 || M == 0) && (bitS h 3 || Value == [])
theorem alone_f (Kind : Int) (Name Value : List UInt8) (N M : Int) : rule_alone.f Kind Name Value N M = some (aloneS (hasV Kind) Name Value N M) := by
 have hm := hasV_mem Kind
 unfold rule_alone.f rule_alone.t aloneS
 rw [has_f, Tr.val_call rfl]
 generalize hasV Kind = h at hm ⊢
 have e0 : ∀ h ∈ [(0 : Int), 9, 1, 8, 6, 2, 10], (IntKind.i64.wrap (↑(BitVec.ofInt IntKind.i64.bits h &&& BitVec.ofInt IntKind.i64.bits (1 : Int)).toNat : Int) != (0 : Int)) = bitS h 0 := by decide +kernel
 have e1 : ∀ h ∈ [(0 : Int), 9, 1, 8, 6, 2, 10], (IntKind.i64.wrap (↑(BitVec.ofInt IntKind.i64.bits h &&& BitVec.ofInt IntKind.i64.bits (2 : Int)).toNat : Int) != (0 : Int)) = bitS h 1 := by decide +kernel
 have e2 : ∀ h ∈ [(0 : Int), 9, 1, 8, 6, 2, 10], (IntKind.i64.wrap (↑(BitVec.ofInt IntKind.i64.bits h &&& BitVec.ofInt IntKind.i64.bits (4 : Int)).toNat : Int) != (0 : Int)) = bitS h 2 := by decide +kernel
 have e3 : ∀ h ∈ [(0 : Int), 9, 1, 8, 6, 2, 10], (IntKind.i64.wrap (↑(BitVec.ofInt IntKind.i64.bits h &&& BitVec.ofInt IntKind.i64.bits (8 : Int)).toNat : Int) != (0 : Int)) = bitS h 3 := by decide +kernel
 rw [e0 h hm, e1 h hm, e2 h hm, e3 h hm]
 generalize bitS h 0 = b0
 generalize bitS h 1 = b1
 generalize bitS h 2 = b2
 generalize bitS h 3 = b3
 generalize (Name == []) = n0
 generalize (Value == []) = v0
 generalize (N == (0 : Int)) = q0
 generalize (M == (0 : Int)) = m0
 cases b0 <;> cases b1 <;> cases b2 <;> cases b3 <;> cases n0 <;> cases q0 <;> cases m0 <;> rfl
theorem rune_big (n b0 b1 b2 b3 : Nat) (h0 : 128 ≤ b0) : 128 ≤ (Lib.decodeN n b0 b1 b2 b3).1 := by
 unfold Lib.decodeN
 repeat' split
 all_goals (simp only; omega)
theorem pWord_big {r : Nat} (h : 128 ≤ r) : pWord r = true := by
 have : r ≤ r ||| 32 := Nat.left_le_or
 unfold pWord
 simp only [Bool.and_eq_true, Bool.or_eq_true, decide_eq_true_eq]
 omega
theorem size_data (s : ByteArray) : s.data.toList.length = s.size := by simp
theorem idx_any (s : ByteArray) : ∀ (f pos : Nat), s.size ≤ pos + f → decide (0 ≤ Lib.idxFuncFrom pWord true s f pos) = (s.data.toList.drop pos).any fun c => pWord c.toNat
 | 0, pos, h => by
  rw [List.drop_eq_nil_of_le (by rw [size_data]; omega)]
  rfl
 | f + 1, pos, h => by
  rw [Lib.idxFuncFrom]
  by_cases hp : pos < s.size
  ·have hd := List.drop_eq_getElem_cons (l := s.data.toList) (i := pos) (by rw [size_data]; exact hp)
   have hg : s.data.toList.getD pos 0 = s.data.toList[pos]'(by rw [size_data]; exact hp) := by
    rw [List.getD_eq_getElem?_getD, List.getElem?_eq_getElem]; rfl
   rw [if_pos hp, hd, List.any_cons, ← hg, Lib.decode_at]
   simp only [← Lib.getD_get!']
   generalize s.data.toList.getD pos 0 = c0
   by_cases hlo : c0.toNat < 128
   ·have e : Lib.decodeN (s.size - pos) c0.toNat (s.data.toList.getD (pos + 1) 0).toNat (s.data.toList.getD (pos + 2) 0).toNat (s.data.toList.getD (pos + 3) 0).toNat = (c0.toNat, 1) := by unfold Lib.decodeN; rw [if_pos hlo]
    rw [e]
    simp only
    cases hw : pWord c0.toNat
    ·rw [if_neg (by simp), idx_any s f (pos + 1) (by omega)]; rfl
    ·rw [if_pos rfl]; simp
   ·rw [pWord_big (rune_big _ _ _ _ _ (by omega)), if_pos rfl, pWord_big (by omega)]
    simp
  ·rw [if_neg hp, List.drop_eq_nil_of_le (by rw [size_data]; omega)]
   rfl
theorem containsFunc_f (s : List UInt8) : strings_ContainsFunc.f s = some (s.any fun c => pWord c.toNat) := by
 unfold strings_ContainsFunc.f Lib.idxFunc
 rw [idx_any _ _ _ (by simp)]
 simp
def wordS (s : List UInt8) : Bool := !(s == []) && decide (s.length ≤ 64) && s.all fun c => !pWord c.toNat
theorem word_f (s : List UInt8) : rule_word.f s = some (wordS s) := by
 unfold rule_word.f rule_word.t wordS
 rw [containsFunc_f]
 have e : (!(s.any fun c => pWord c.toNat)) = s.all fun c => !pWord c.toNat := by rw [List.not_any_eq_all_not]
 have h : decide ((s.length : Int) ≤ 64) = decide (s.length ≤ 64) := decide_eq_decide.2 (by omega)
 rw [h]
 cases (s == []) <;> cases decide (s.length ≤ 64) <;> simp [Tr.val, ← e]
theorem before_app {c : UInt8} : ∀ {a b : List UInt8}, a.contains c = false → before c (a ++ c :: b) = a ∧ after c (a ++ c :: b) = b
 | [], b, _ => by simp [before, after]
 | x :: a, b, h => by
  have hx : x ≠ c := by intro e; subst e; simp at h
  have ha : a.contains c = false := by simp at h ⊢; exact h.2
  have := before_app (b := b) ha
  unfold before after at this ⊢
  simp [hx, this]
def fieldR (name value : List UInt8) : Bool := !(name == []) && name.all isTok && value.all isText && trim value == value
theorem kind_tok : ∀ s : List UInt8, s.all (isKind 1) = s.all isTok := fun s => by congr 1
theorem kind_vis : ∀ s : List UInt8, s.all (isKind 2) = s.all isVis := fun s => by congr 1
theorem kind_text : ∀ s : List UInt8, s.all (isKind 6) = s.all isText := fun s => by congr 1
theorem fieldR_f {name value : List UInt8} (h1 : name.length ≤ 1000000) (h2 : value.length ≤ 1000000) : field_Right.f name value = some (fieldR name value) := by
 have hx : name ++ [(58 : UInt8)] ++ value = name ++ 58 :: value := by simp
 have hc : (name ++ 58 :: value).contains 58 = true := by simp
 have hout : field_out.f 0 12 = some ([], [], false, 400) := by decide +kernel
 unfold field_Right.f field_Right.t fieldR
 rw [Tr.val_chk (by simp; omega), Tr.val_chk (by simp; omega), hx, cut3a_f (by simp; omega), Tr.val_call rfl]
 unfold cutC
 rw [if_pos hc]
 have hl := before_len hc
 simp only [List.length_append, List.length_cons] at hl
 by_cases h58 : name.contains 58 = true
 ·have hb : (before 58 (name ++ 58 :: value) == name) = false := by
   rw [beq_eq_false_iff_ne]
   intro e
   have hn : (before 58 (name ++ 58 :: value)).contains 58 = false := by
    unfold before
    rw [List.contains_eq_any_beq, List.any_eq_false]
    intro x hx e
    have h3 := List.all_eq_true.1 (List.all_takeWhile (p := (· != (58 : UInt8))) (l := name ++ 58 :: value)) x hx
    rw [← beq_iff_eq.1 e] at h3
    simp at h3
   rw [e, h58] at hn
   cases hn
  have ht : name.all isTok = false := by
   rw [List.all_eq_false]
   exact ⟨58, by simpa using h58, by decide⟩
  rw [ht]
  simp only [Bool.not_true, vfalse]
  cases h0 : (before 58 (name ++ 58 :: value) == [])
  ·rw [vfalse, text_Trim_f (by omega), Tr.val_call rfl, octet_All1 (by omega), Tr.val_call rfl, octet_All1 (by have := trimP_length isBlank (after 58 (name ++ 58 :: value)); unfold trim; omega), hb]
   cases (before 58 (name ++ 58 :: value)).all (isKind 1) <;> cases (trim (after 58 (name ++ 58 :: value))).all (isKind 6) <;> simp [Tr.val]
  ·rw [vtrue, hout]
   simp [Tr.val]
 ·obtain ⟨q1, q2⟩ := before_app (b := value) (show name.contains 58 = false by simpa using h58)
  rw [q1, q2]
  simp only [Bool.not_true, vfalse]
  cases h0 : (name == [])
  ·rw [vfalse, text_Trim_f (by omega), Tr.val_call rfl, octet_All1 (by omega), Tr.val_call rfl, octet_All1 (by have := trimP_length isBlank value; unfold trim; omega), kind_tok, kind_text]
   cases ht : (trim value == value)
   ·cases name.all isTok <;> cases (trim value).all isText <;> simp [Tr.val, ht]
   ·have e : trim value = value := by simpa using ht
    rw [e]
    cases name.all isTok <;> cases value.all isText <;> simp [Tr.val]
  ·rw [vtrue, hout]
   simp [Tr.val]
theorem plain_any_f {l : List (List UInt8)} {what : List UInt8} (hn : l.length < 1125899906842624) (hs : ∀ x ∈ l, x.length ≤ 1000000) (hw : what.length ≤ 1000000) : slices_ContainsFunc_f_rule_plain_1.f l what = some (l.any fun x => same x what) := by
 have hL : slices_IndexFunc_f_rule_plain_1.L2.f l what (l.length : Int) 0 = some (scan (idxStep fun x => same x what) (.inl ()) 0 l) := by
  unfold slices_IndexFunc_f_rule_plain_1.L2.f
  refine Loop_scan l (idxStep fun x => same x what) (.inl ()) (fun k c hk hc => ?_) ?_ hn
  ·have hw' := wS (k := k) (by omega)
   have hcl := hs c (by rw [← hc]; exact List.getElem_mem hk)
   have f1 : rule_plain_1.f what c = some (same c what) := by
    unfold rule_plain_1.f rule_plain_1.t
    rw [text_Same_f (by omega) (by omega)]; rfl
   unfold slices_IndexFunc_f_rule_plain_1.L2.t idxStep
   simp only [Nat.zero_add, getD_at hk hc, f1, Tr.val, lt_nat, decide_eq_true hk, cond_true, hw']
   rw [if_pos (by omega), if_pos (by simpa using hk)]
   by_cases h : same c what = true
   ·simp only [h]; rfl
   ·have h' : same c what = false := by simpa using h
    simp only [h']; rfl
  ·simp [slices_IndexFunc_f_rule_plain_1.L2.t, Tr.val]
 have hI : slices_IndexFunc_f_rule_plain_1.f l what = some (idxV (scan (idxStep fun x => same x what) (.inl ()) 0 l)) := by
  unfold slices_IndexFunc_f_rule_plain_1.f slices_IndexFunc_f_rule_plain_1.t
  rw [hL]
  exact idx_t _ rfl
 unfold slices_ContainsFunc_f_rule_plain_1.f slices_ContainsFunc_f_rule_plain_1.t
 rw [take_all, hI, Tr.val_chk (by omega), Tr.val_call rfl, idx_ge]
 rfl
def fixedNames : List (List UInt8) := [[(72 : UInt8), (111 : UInt8), (115 : UInt8), (116 : UInt8)], [(67 : UInt8), (111 : UInt8), (110 : UInt8), (116 : UInt8), (101 : UInt8), (110 : UInt8), (116 : UInt8), (45 : UInt8), (76 : UInt8), (101 : UInt8), (110 : UInt8), (103 : UInt8), (116 : UInt8), (104 : UInt8)], [(84 : UInt8), (114 : UInt8), (97 : UInt8), (110 : UInt8), (115 : UInt8), (102 : UInt8), (101 : UInt8), (114 : UInt8), (45 : UInt8), (69 : UInt8), (110 : UInt8), (99 : UInt8), (111 : UInt8), (100 : UInt8), (105 : UInt8), (110 : UInt8), (103 : UInt8)], [(67 : UInt8), (111 : UInt8), (110 : UInt8), (110 : UInt8), (101 : UInt8), (99 : UInt8), (116 : UInt8), (105 : UInt8), (111 : UInt8), (110 : UInt8)]]
def plainS (name value : List UInt8) : Bool := fieldR name value && !(fixedNames.any fun x => same x name)
theorem plain_f {name value : List UInt8} (h1 : name.length ≤ 1000000) (h2 : value.length ≤ 1000000) : rule_plain.f name value = some (plainS name value) := by
 unfold rule_plain.f rule_plain.t plainS
 show (Tr.call (slices_ContainsFunc_f_rule_plain_1.f fixedNames name) _).val = _
 rw [plain_any_f (by decide) (by decide) h1, Tr.val_call rfl, fieldR_f h1 h2, Tr.val_call rfl]
 cases fieldR name value <;> simp [Tr.val]
theorem right_big {K : Int} {name value : List UInt8} {N M : Int} (h : 256 < name.length ∨ 256 < value.length) : rule_Right.f K name value N M = some false := by
 unfold rule_Right.f rule_Right.t
 by_cases h1 : (name.length : Int) > 256
 ·rw [decide_eq_true h1]; rfl
 ·have h2 : (value.length : Int) > 256 := by omega
  rw [decide_eq_false h1, vfalse, decide_eq_true h2]; rfl
theorem right_go {K : Int} {name value : List UInt8} {N M : Int} (h1 : name.length ≤ 256) (h2 : value.length ≤ 256) {X : Tr Bool} {r : Bool}
  (hX : rule_Right.t K name value N M = .br (decide ((name.length : Int) > 256)) (.ret false) (.br (decide ((value.length : Int) > 256)) (.ret false) (.call (rule_alone.f K name value N M) fun y1 => .br (!y1) (.ret false) X)))
  (hr : X.val = some r) : rule_Right.f K name value N M = some (aloneS (hasV K) name value N M && r) := by
 unfold rule_Right.f
 have q1 : ¬ (name.length : Int) > 256 := by omega
 have q2 : ¬ (value.length : Int) > 256 := by omega
 rw [hX, decide_eq_false q1, vfalse, decide_eq_false q2, vfalse, alone_f, Tr.val_call rfl]
 cases aloneS (hasV K) name value N M
 ·rfl
 ·rw [Bool.not_true, vfalse, hr]; rfl
end Pl
end Go.Vx
end
section
set_option linter.unusedVariables false
set_option linter.unusedSimpArgs false
set_option maxRecDepth 100000
namespace Go.Vx
namespace Pl
open Go Go.Proofs
theorem number_Put_f {n : Nat} (h : n < 1000) : number_Put.f (n : Int) = some (dg n) := by
 unfold number_Put.f number_Put.t strconv_Itoa.f
 have e : mx2 (n : Int) 0 = (n : Int) := by rw [mx2_eq]; omega
 rw [e, if_pos (by simp; omega), itoa_eq h]
 rfl
theorem net_short_f {most : Nat} {s : List UInt8} (hm : most < 1000) (hn : s.length < 1125899906842624) : net_short.f s (most : Int) = some (shortS most s) := by
 unfold net_short.f net_short.t
 rw [number_Dec_f (by omega) hn]
 have hl := numS_le (most := most) (s := s)
 unfold shortS
 generalize numS 10 (most : Int) s = y at hl ⊢
 obtain ⟨n, e⟩ := y
 simp only at hl
 obtain ⟨k, rfl⟩ := Int.eq_ofNat_of_zero_le hl.1
 cases h : (e == 0)
 ·simp [Tr.val, h]
 ·simp [Tr.val, h, number_Put_f (show k < 1000 by omega)]
theorem ref1_Hex_f (c : UInt8) : ref1_Hex.f (c.toNat : Int) = some ((hexv c : Int), isHex c) := byte_fn (f := ref1_Hex.f) (g := fun c => ((hexv c : Int), isHex c)) (by decide +kernel) c
def rnStep (m : Nat) (a : Nat × Bool) (c : UInt8) : (Nat × Bool) ⊕ ((Int × Bool) ⊕ (Int × Int)) :=
 if isDig 10 c = false then .inr (.inr (0, 22)) else if a.2 = true then .inl (a.1, true) else if a.1 * 10 + hexv c ≤ m then .inl (a.1 * 10 + hexv c, false) else .inl (a.1, true)
def rnFin (a : Nat × Bool) : (Int × Bool) ⊕ (Int × Int) := .inl ((a.1 : Int), a.2)
def rnOut : (Int × Bool) ⊕ (Int × Int) → Int × Int
 | .inl (n, over) => if over = true then (0, 23) else (n, 0)
 | .inr y => y
theorem rn_over {m : Nat} : ∀ (l : List UInt8) (n : Nat), rnOut (foldE (rnStep m) rnFin (n, true) l) = if l.all (isDig 10) = true then (0, 23) else (0, 22)
 | [], n => rfl
 | c :: l, n => by
  rw [foldE]
  cases h : isDig 10 c
  ·simp [rnStep, h, rnOut]
  ·simpa [rnStep, h] using rn_over l n
theorem rn_all {m : Nat} : ∀ (l : List UInt8) (n : Nat), n ≤ m → rnOut (foldE (rnStep m) rnFin (n, false) l) = if l.all (isDig 10) = true then (if valN 10 n l ≤ m then (((valN 10 n l : Nat) : Int), (0 : Int)) else (0, 23)) else (0, 22)
 | [], n, h => by simp [foldE, rnFin, rnOut, valN, h]
 | c :: l, n, h => by
  rw [foldE, valN_cons]
  cases hd : isDig 10 c
  ·simp [rnStep, hd, rnOut]
  ·by_cases h2 : n * 10 + hexv c ≤ m
   ·have := rn_all (m := m) l (n * 10 + hexv c) h2
    simpa [rnStep, hd, h2] using this
   ·have h3 := valN_ge (base := 10) (by omega) l (n * 10 + hexv c)
    have := rn_over (m := m) l n
    simp only [rnStep, hd, h2, if_false, List.all_cons, Bool.true_and]
    simp only [Bool.true_eq_false, if_false, Bool.false_eq_true]
    rw [this, if_neg (show ¬ valN 10 (n * 10 + hexv c) l ≤ m by omega)]
theorem ref1_number_loop {m : Nat} {s : List UInt8} (hm : m ≤ 1099511627776) (hn : s.length < 1125899906842624) :
  ref1_number.L6.f s 10 (m : Int) 0 false 0 = some (foldE (rnStep m) rnFin (0, false) s) := by
 unfold ref1_number.L6.f
 refine Loop_list (A := Nat × Bool) (a := (0, false)) s (fun k a => ((a.1 : Int), a.2, (k : Int))) (fun _ a => a.1 ≤ m) (rnStep m) rnFin ?_ ?_ hn (Nat.zero_le _) rfl
 ·rintro k ⟨n, over⟩ c hi hk hc
  subst hc
  have hw := wS (k := k) (by omega)
  have hd := hexv_lt s[k]
  simp only at hi
  have hb : decide (((hexv s[k] : Nat) : Int) ≥ 10) = decide (10 ≤ hexv s[k]) := by simp; omega
  constructor
  ·unfold ref1_number.L6.t rnStep
   simp only [Tr.val, getD_at hk rfl, ref1_Hex_f, hw, in_rng hk, lt_nat, decide_eq_true hk, cond_true, and_self, if_true, hb]
   cases hx : isHex s[k]
   ·have : isDig 10 s[k] = false := by simp [isDig, hx]
    simp [this]
   ·by_cases h10 : 10 ≤ hexv s[k]
    ·have : isDig 10 s[k] = false := by simp [isDig, hx]; omega
     simp [this, h10]
    ·have hdd : isDig 10 s[k] = true := by simp [isDig, hx]; omega
     cases over
     ·have h4 := tdiv_gt (n := n) (base := 10) (d := hexv s[k]) (m := m) (by omega)
      by_cases h1 : hexv s[k] ≤ m
      ·have h3 : IntKind.i64.wrap ((m : Int) - (hexv s[k] : Int)) = (m : Int) - (hexv s[k] : Int) := w64 (by omega) (by omega)
       have h5 : IntKind.i64.wrap (((m : Int) - (hexv s[k] : Int)).tdiv (10 : Int)) = ((m : Int) - (hexv s[k] : Int)).tdiv (10 : Int) := by
        have h6 : ((m : Int) - (hexv s[k] : Int)) = ((m - hexv s[k] : Nat) : Int) := by omega
        rw [h6]
        have h7 : ((m - hexv s[k] : Nat) : Int).tdiv (10 : Int) = (((m - hexv s[k]) / 10 : Nat) : Int) := rfl
        rw [h7]
        exact w64 (by omega) (by omega)
       have h6 : IntKind.i64.wrap ((n : Int) * 10) = ((n * 10 : Nat) : Int) := by rw [w64 (by omega) (by omega)]; omega
       have h7 : IntKind.i64.wrap (((n * 10 : Nat) : Int) + (hexv s[k] : Int)) = ((n * 10 + hexv s[k] : Nat) : Int) := by rw [w64 (by omega) (by omega)]; omega
       have h8 : decide ((hexv s[k] : Int) > (m : Int)) = false := by simp; omega
       have h4 := h4 h1
       rw [show ((10 : Nat) : Int) = 10 from rfl] at h4
       simp only [h3, h5, h4, h6, h7, h8, hdd, decide_eq_false h10, Bool.not_true, cond_false]
       by_cases h9 : n * 10 + hexv s[k] ≤ m
       ·have h9' : ¬ m < n * 10 + hexv s[k] := by omega
        have h8' : ¬ m < hexv s[k] := by omega
        simp [h9, h9', h8']
       ·have h9' : m < n * 10 + hexv s[k] := by omega
        simp [h9, h9']
      ·have h9 : ¬ n * 10 + hexv s[k] ≤ m := by omega
       have h8 : m < hexv s[k] := by omega
       simp only [hdd, decide_eq_false h10, Bool.not_true, cond_false, if_neg h9]
       cases decide ((n : Int) > IntKind.i64.wrap ((IntKind.i64.wrap ((m : Int) - (hexv s[k] : Int))).tdiv 10)) <;> simp [h8]
     ·simp [hdd, h10]
  ·intro a' h
   unfold rnStep at h
   split at h
   ·cases h
   ·split at h
    ·cases h; exact hi
    ·split at h
     ·cases h; assumption
     ·cases h; exact hi
 ·rintro ⟨n, over⟩ _
  simp [ref1_number.L6.t, Tr.val, rnFin]
theorem ref1_Dec_f {most : Nat} {s : List UInt8} (hm : most ≤ 1099511627776) (hn : s.length < 1125899906842624) : ref1_Dec.f s (most : Int) = some (numS 10 (most : Int) s) := by
 have h : ref1_number.f s 10 (most : Int) = some (numS 10 (most : Int) s) := by
  unfold ref1_number.f ref1_number.t
  have e : mx2 (most : Int) 0 = (most : Int) := by rw [mx2_eq]; omega
  rw [e, ref1_number_loop hm hn]
  unfold numS
  by_cases h0 : s = []
  ·subst h0; simp [Tr.val]
  ·have h1 : (s == []) = false := by simpa using h0
   have h2 := rn_all (m := most) s 0 (Nat.zero_le _)
   have h3 : (Tr.both (some (foldE (rnStep most) rnFin (0, false) s)) (fun (y1a, y1b) => Tr.br y1b (.ret ((0 : Int), (23 : Int))) (.ret (y1a, (0 : Int)))) (fun (y2a, y2b) => .ret (y2a, y2b))).val = some (rnOut (foldE (rnStep most) rnFin (0, false) s)) := by
    rcases foldE (rnStep most) rnFin (0, false) s with ⟨n, over⟩ | ⟨a, b⟩
    ·cases over <;> rfl
    ·rfl
   simp only [Tr.val, h1, cond_false] at h3 ⊢
   rw [h3, h2]
   have hx : max (most : Int) 0 = (most : Int) := by omega
   cases h4 : s.all (isDig 10)
   ·simp [h0]
   ·rw [hx]
    simp [h0, h4, Int.ofNat_le]
 unfold ref1_Dec.f ref1_Dec.t
 rw [h]; rfl
theorem val_no {α : Type} (x y : Tr α) : (Tr.br false x y).val = y.val := rfl
theorem mod10 (n : Nat) : ((n : Int).tmod 10) = ((n % 10 : Nat) : Int) := rfl
theorem put_digit : ∀ n : Fin 10, List.drop (mx2 (n.val : Int) (0 : Int)).toNat (List.take (IntKind.i64.wrap (mx2 (n.val : Int) (0 : Int) + (1 : Int))).toNat [(48 : UInt8), (49 : UInt8), (50 : UInt8), (51 : UInt8), (52 : UInt8), (53 : UInt8), (54 : UInt8), (55 : UInt8), (56 : UInt8), (57 : UInt8), (97 : UInt8), (98 : UInt8), (99 : UInt8), (100 : UInt8), (101 : UInt8), (102 : UInt8)]) = [dc n.val] ∧ ((0 : Int) ≤ mx2 (n.val : Int) (0 : Int) ∧ mx2 (n.val : Int) (0 : Int) ≤ IntKind.i64.wrap (mx2 (n.val : Int) (0 : Int) + (1 : Int)) ∧ IntKind.i64.wrap (mx2 (n.val : Int) (0 : Int) + (1 : Int)) ≤ (16 : Int)) := by decide +kernel
theorem put1_f {n : Nat} (h : n < 10) : ref1_put_r1.f (n : Int) 10 = some [dc n] := by
 obtain ⟨h1, h2⟩ := put_digit ⟨n, h⟩
 unfold ref1_put_r1.f ref1_put_r1.t
 have : decide ((n : Int) < 10) = true := by simp; omega
 simp only [Tr.val, this, cond_true, if_pos h2, h1]
theorem drop_at {s : List UInt8} {a i : Nat} (ha : a ≤ i) (hi : i < s.length) : s.drop a = (s.take i).drop a ++ s[i] :: s.drop (i + 1) := by
 have h1 : s.drop i = s[i] :: s.drop (i + 1) := List.drop_eq_getElem_cons hi
 rw [← h1]
 have h2 : s.take i ++ s.drop i = s := List.take_append_drop i s
 conv => lhs; rw [← h2]
 rw [List.drop_append_of_le_length (by simp; omega)]
theorem take_next {s : List UInt8} {a i : Nat} (ha : a ≤ i) (hi : i < s.length) : (s.take (i + 1)).drop a = (s.take i).drop a ++ [s[i]] := by
 rw [List.take_add_one, List.getElem?_eq_getElem hi, Option.toList_some, List.drop_append_of_le_length (by simp; omega)]
theorem iter_inl {σ ρ : Type} {body : σ → Tr (σ ⊕ ρ)} {n : Nat} {s s' : σ} (h : (body s).val = some (.inl s')) : iter body (n + 1) s = iter body n s' := by rw [iter, h]
theorem iter_inr {σ ρ : Type} {body : σ → Tr (σ ⊕ ρ)} {n : Nat} {s : σ} {r : ρ} (h : (body s).val = some (.inr r)) : iter body (n + 1) s = some r := by rw [iter, h]
theorem rs_loop {c : UInt8} {s : List UInt8} (hn : s.length < 1073741824) : ∀ (d i a : Nat) (out : List (List UInt8)) (m : Nat), i + d = s.length → a ≤ i → ((s.take i).drop a).contains c = false → out.length ≤ i → d + 2 ≤ m →
  iter (fun z : List (List UInt8) × Int × Int => ref1_Split.L4.t z.1 s (c.toNat : Int) z.2.1 z.2.2) m (out, (a : Int), (i : Int)) = some (out ++ splitC c (s.drop a)) := by
 intro d
 induction d with
 | zero =>
  intro i a out m hi ha hc ho hm
  have : i = s.length := by omega
  subst this
  obtain ⟨m, rfl⟩ : ∃ m', m = m' + 1 + 1 := ⟨m - 2, by omega⟩
  rw [List.take_length] at hc
  have hw := wS (k := s.length) (by omega)
  have h1 : decide (((s.length : Nat) : Int) ≤ (s.length : Int)) = true := by simp
  have h2 : (((s.length : Nat) : Int) == (s.length : Int)) = true := by simp
  have h3 : decide (((s.length + 1 : Nat) : Int) ≤ (s.length : Int)) = false := by simp; omega
  have s1 : (ref1_Split.L4.t out s (c.toNat : Int) (a : Int) (s.length : Int)).val = some (.inl (out ++ [s.drop a], ((s.length + 1 : Nat) : Int), ((s.length + 1 : Nat) : Int))) := by
   simp only [ref1_Split.L4.t, Tr.val, h1, h2, cond_true, cond_false, hw, Int.toNat_natCast, List.take_length, List.drop_zero]
   rw [if_pos (by omega), if_pos (by omega), if_pos (by omega), if_pos (by simp)]
  have s2 : (ref1_Split.L4.t (out ++ [s.drop a]) s (c.toNat : Int) ((s.length + 1 : Nat) : Int) ((s.length + 1 : Nat) : Int)).val = some (.inr (out ++ [s.drop a])) := by
   simp only [ref1_Split.L4.t, Tr.val, h3, cond_false]
  rw [iter_inl (body := fun z : List (List UInt8) × Int × Int => ref1_Split.L4.t z.1 s (c.toNat : Int) z.2.1 z.2.2) s1, iter_inr (body := fun z : List (List UInt8) × Int × Int => ref1_Split.L4.t z.1 s (c.toNat : Int) z.2.1 z.2.2) s2, splitC_not hc]
 | succ d ih =>
  intro i a out m hi ha hc ho hm
  have hk : i < s.length := by omega
  obtain ⟨m, rfl⟩ : ∃ m', m = m' + 1 := ⟨m - 1, by omega⟩
  have hw := wS (k := i) (by omega)
  have h1 : decide ((i : Int) ≤ (s.length : Int)) = true := by simp; omega
  have h2 : ((i : Int) == (s.length : Int)) = false := by simp; omega
  by_cases hx : s[i] = c
  ·have e : ((s[i].toNat : Int) == (c.toNat : Int)) = true := by rw [hx]; simp
   have := ih (i + 1) (i + 1) (out ++ [(s.take i).drop a]) m (by omega) (Nat.le_refl _) (by simp) (by simp; omega) (by omega)
   have s1 : (ref1_Split.L4.t out s (c.toNat : Int) (a : Int) (i : Int)).val = some (.inl (out ++ [(s.take i).drop a], ((i + 1 : Nat) : Int), ((i + 1 : Nat) : Int))) := by
    simp only [ref1_Split.L4.t, Tr.val, h1, h2, getD_at hk rfl, getD_nat hk rfl, e, cond_true, cond_false, hw, Int.toNat_natCast, List.drop_zero, List.take_length, in_rng hk, and_self, if_true]
    rw [if_pos (by omega), if_pos (by omega), if_pos (by omega), if_pos (by simp)]
   rw [iter_inl (body := fun z : List (List UInt8) × Int × Int => ref1_Split.L4.t z.1 s (c.toNat : Int) z.2.1 z.2.2) s1, this, drop_at ha hk, hx, splitC_app hc]
   simp
  ·have e : ((s[i].toNat : Int) == (c.toNat : Int)) = false := by rw [byte_is]; simpa using hx
   have hc' : ((s.take (i + 1)).drop a).contains c = false := by
    rw [take_next ha hk, List.contains_eq_any_beq, List.any_append, ← List.contains_eq_any_beq, hc]
    simp
    exact fun e => hx e.symm
   have := ih (i + 1) a out m (by omega) (by omega) hc' (by omega) (by omega)
   have s1 : (ref1_Split.L4.t out s (c.toNat : Int) (a : Int) (i : Int)).val = some (.inl (out, (a : Int), ((i + 1 : Nat) : Int))) := by
    simp only [ref1_Split.L4.t, Tr.val, h1, h2, getD_at hk rfl, e, cond_true, cond_false, hw, in_rng hk, and_self, if_true]
   rw [iter_inl (body := fun z : List (List UInt8) × Int × Int => ref1_Split.L4.t z.1 s (c.toNat : Int) z.2.1 z.2.2) s1]
   exact this
theorem ref1_Split_f {c : UInt8} {s : List UInt8} (hn : s.length < 1073741824) : ref1_Split.f s (c.toNat : Int) = some (splitC c s) := by
 unfold ref1_Split.f ref1_Split.t ref1_Split.L4.f
 have := rs_loop (c := c) hn s.length 0 0 [] rounds (by omega) (Nat.le_refl _) (by simp) (by simp) (by unfold rounds; omega)
 rw [List.nil_append, List.drop_zero] at this
 have h : Loop (fun z : List (List UInt8) × Int × Int => ref1_Split.L4.t z.1 s (c.toNat : Int) z.2.1 z.2.2) ([], 0, 0) = some (splitC c s) := this
 rw [h]; rfl
theorem index2e_f (s : List UInt8) : strings_Index_sx2e.f s = some (if s.contains 46 = true then ((before 46 s).length : Int) else -1) := by
 unfold strings_Index_sx2e.f strings_Index_sx2e.t internal_stringslite_Index_sx2e.f internal_stringslite_Index_sx2e.t
 rw [show (46 : Int) = ((46 : UInt8).toNat : Int) from rfl, slite_f]
 by_cases h : [(46 : UInt8)] = s
 ·have := before_one h
  simp only [Tr.val, beq_iff_eq.2 h, cond_true, this.1, this.2, if_true]
  rfl
 ·simp [Tr.val, beq_eq_false_iff_ne.2 h]
theorem index2f_f (s : List UInt8) : internal_stringslite_Index_sx2f.f s = some (if s.contains 47 = true then ((before 47 s).length : Int) else -1) := by
 unfold internal_stringslite_Index_sx2f.f internal_stringslite_Index_sx2f.t
 rw [show (47 : Int) = ((47 : UInt8).toNat : Int) from rfl, slite_f]
 by_cases h : [(47 : UInt8)] = s
 ·have := before_one h
  simp only [Tr.val, beq_iff_eq.2 h, cond_true, this.1, this.2, if_true]
  rfl
 ·simp [Tr.val, beq_eq_false_iff_ne.2 h]
theorem split2e_f {s : List UInt8} (hn : s.length ≤ 1099511627776) : strings_Split_sx2e.f s = some (splitC 46 s) := by
 have h : strings_genSplit_sx2e.f s 0 (-1) = some (splitC 46 s) := by
  rw [← splitT_f index2e_f hn]; rfl
 unfold strings_Split_sx2e.f strings_Split_sx2e.t
 rw [h]; rfl
theorem cut2f_f {s : List UInt8} (hn : s.length < 1125899906842624) : strings_Cut_sx2f.f s = some (cutC 47 s) := by
 have h1 : internal_stringslite_Cut_sx2f.f s = some (cutC 47 s) := by
  unfold internal_stringslite_Cut_sx2f.f
  show (cutT (internal_stringslite_Index_sx2f.f s) s).val = _
  rw [index2f_f, cutT_f hn]
 unfold strings_Cut_sx2f.f strings_Cut_sx2f.t
 rw [h1]; rfl
def sh (a n : Int) : Int := IntKind.u32.wrap (↑(BitVec.ofInt IntKind.u32.bits (IntKind.u32.wrap (a * (2 : Int) ^ (8 : Nat))) ||| BitVec.ofInt IntKind.u32.bits (IntKind.u32.wrap n)).toNat : Int)
theorem sh_nat {a n : Nat} (ha : a < 16777216) (hn : n < 256) : sh (a : Int) (n : Int) = ((a * 256 + n : Nat) : Int) := by
 unfold sh
 rw [show (a : Int) * (2 : Int) ^ (8 : Nat) = ((a * 256 : Nat) : Int) from by simp, w32 (n := ((a * 256 : Nat) : Int)) (by omega) (by omega), w32 (n := (n : Int)) (by omega) (by omega), u_or (by omega) (by omega), or_byte hn]
def ipStep (a : Int) (x : List UInt8) : Int ⊕ (Int ⊕ (Int × Bool)) := if (shortS 255 x).2 = true then .inl (sh a (shortS 255 x).1) else .inr (.inr (0, false))
def ipFin (a : Int) : Int ⊕ (Int × Bool) := .inl a
def ipOut : Int ⊕ (Int × Bool) → Int × Bool
 | .inl v => (v, true)
 | .inr y => y
def ipL (l : List (List UInt8)) : Int × Bool := if l.length = 4 then ipOut (foldE ipStep ipFin 0 l) else (0, false)
def ipS (s : List UInt8) : Int × Bool := ipL (splitC 46 s)
theorem net_IP_loop {l : List (List UInt8)} (hl : ∀ x ∈ l, x.length < 1125899906842624) (hn : l.length < 1125899906842624) : net_IP.L6.f l 0 (l.length : Int) 0 = some (foldE ipStep ipFin 0 l) := by
 unfold net_IP.L6.f
 refine Loop_list (A := Int) (a := 0) l (fun k a => (a, (k : Int))) (fun _ _ => True) ipStep ipFin ?_ ?_ hn trivial rfl
 ·intro k a c _ hk hc
  refine ⟨?_, fun _ _ => trivial⟩
  subst hc
  have hw := wS (k := k) (by omega)
  have e : net_short.f l[k] 255 = some (shortS 255 l[k]) := net_short_f (most := 255) (by omega) (hl _ (List.getElem_mem hk))
  simp only [net_IP.L6.t, Tr.val, Nat.zero_add, Int.toNat_natCast, getD_nat hk rfl, e, in_rng hk, lt_nat, decide_eq_true hk, cond_true, and_self, if_true, hw, if_pos hk]
  unfold ipStep
  rcases h : shortS 255 l[k] with ⟨n, b⟩
  cases b <;> simp [sh]
 ·intro a _
  simp [net_IP.L6.t, Tr.val, ipFin]
theorem net_IP_f {s : List UInt8} (hn : s.length < 1073741824) : net_IP.f s = some (ipS s) := by
 unfold net_IP.f net_IP.t
 rw [split2e_f (by omega)]
 have hs : ∀ x ∈ splitC 46 s, x.length ≤ s.length := splitC_small _ (Nat.le_refl _)
 have hc := splitC_len 46 _ s (Nat.le_refl _)
 have hcl : s.count 46 ≤ s.length := List.count_le_length
 unfold ipS ipL
 by_cases h4 : (splitC 46 s).length = 4
 ·have h : (((splitC 46 s).length : Int) != 4) = false := by rw [h4]; rfl
  have hL := net_IP_loop (l := splitC 46 s) (fun x hx => by have := hs x hx; omega) (by omega)
  simp only [Tr.val, h, cond_false, hL, if_pos h4]
  rcases foldE ipStep ipFin 0 (splitC 46 s) with v | ⟨a, b⟩ <;> rfl
 ·have h : (((splitC 46 s).length : Int) != 4) = true := by simp; omega
  simp only [Tr.val, h, cond_true, if_neg h4]
def pieces (ip : Nat) : List (List UInt8) := [dg (ip / 16777216 % 256), dg (ip / 65536 % 256), dg (ip / 256 % 256), dg (ip % 256)]
def textS (ip : Nat) : List UInt8 := joinC 46 (pieces ip)
theorem ipL_four {a b c d : Nat} (ha : a < 256) (hb : b < 256) (hc : c < 256) (hd : d < 256) : ipL [dg a, dg b, dg c, dg d] = (((((a * 256 + b) * 256 + c) * 256 + d : Nat) : Int), true) := by
 have s0 : sh 0 (a : Int) = (a : Int) := by have := sh_nat (a := 0) (n := a) (by omega) ha; simpa using this
 unfold ipL
 rw [if_pos (show [dg a, dg b, dg c, dg d].length = 4 from rfl)]
 simp only [foldE, ipStep, shortS_dg (n := a) (most := 255) (by omega) (by omega), shortS_dg (n := b) (most := 255) (by omega) (by omega), shortS_dg (n := c) (most := 255) (by omega) (by omega), shortS_dg (n := d) (most := 255) (by omega) (by omega), if_true, s0,
  sh_nat (a := a) (n := b) (by omega) hb, sh_nat (a := a * 256 + b) (n := c) (by omega) hc, sh_nat (a := (a * 256 + b) * 256 + c) (n := d) (by omega) hd, ipFin, ipOut]
theorem ipS_is {s : List UInt8} (h : (ipS s).2 = true) : ∃ ip : Nat, ip < 4294967296 ∧ (ipS s).1 = (ip : Int) ∧ s = textS ip := by
 unfold ipS at h ⊢
 have hj := joinC_split (c := 46) s.length s (Nat.le_refl _)
 by_cases h4 : (splitC 46 s).length = 4
 ·match hl : splitC 46 s, h4 with
  | [x, y, z, w], _ =>
   rw [hl] at h hj
   have q : ∀ {a : Int} {v : List UInt8} {l : List (List UInt8)}, (ipOut (foldE ipStep ipFin a (v :: l))).2 = true → ∃ n, n < 256 ∧ v = dg n ∧ (ipOut (foldE ipStep ipFin (sh a (n : Int)) l)).2 = true := by
    intro a v l hh
    rw [foldE] at hh
    unfold ipStep at hh
    cases hv : (shortS 255 v).2
    ·rw [hv] at hh; simp [ipOut] at hh
    ·obtain ⟨n, h1, h2, h3⟩ := shortS_is hv
     rw [hv, h2] at hh
     exact ⟨n, by omega, h3, hh⟩
   unfold ipL at h
   rw [if_pos (show [x, y, z, w].length = 4 from rfl)] at h
   obtain ⟨a, ha, e1, h1⟩ := q h
   obtain ⟨b, hb, e2, h2⟩ := q h1
   obtain ⟨c, hc, e3, h3⟩ := q h2
   obtain ⟨d, hd, e4, h4⟩ := q h3
   subst e1; subst e2; subst e3; subst e4
   refine ⟨((a * 256 + b) * 256 + c) * 256 + d, by omega, ?_, ?_⟩
   ·rw [ipL_four ha hb hc hd]
   ·rw [← hj]
    unfold textS pieces
    have e1 : (((a * 256 + b) * 256 + c) * 256 + d) / 16777216 % 256 = a := by omega
    have e2 : (((a * 256 + b) * 256 + c) * 256 + d) / 65536 % 256 = b := by omega
    have e3 : (((a * 256 + b) * 256 + c) * 256 + d) / 256 % 256 = c := by omega
    have e4 : (((a * 256 + b) * 256 + c) * 256 + d) % 256 = d := by omega
    rw [e1, e2, e3, e4]
 ·unfold ipL at h
  rw [if_neg h4] at h
  cases h
theorem wu64 {n : Int} (h0 : 0 ≤ n) (h1 : n < 18446744073709551616) : IntKind.u64.wrap n = n := by
 have : IntKind.u64.wrap n = n % 18446744073709551616 := rfl
 rw [this]
 omega
def maskN (n : Nat) : Nat := 4294967296 - 2 ^ (32 - n)
theorem pow_le (n : Nat) : 2 ^ (32 - n) ≤ 4294967296 := Nat.pow_le_pow_right (n := 2) (by omega) (show 32 - n ≤ 32 by omega)
theorem pow_pos' (n : Nat) : 0 < 2 ^ (32 - n) := Nat.two_pow_pos _
theorem maskN_lt (n : Nat) : maskN n < 4294967296 := by have := pow_pos' n; unfold maskN; omega
theorem not_mask {a n : Nat} (ha : a < 4294967296) : (BitVec.ofInt IntKind.u32.bits (a : Int) &&& ~~~BitVec.ofInt IntKind.u32.bits ((maskN n : Nat) : Int)).toNat = a % 2 ^ (32 - n) := by
 have hm := maskN_lt n
 have hp := pow_le n
 have hq := pow_pos' n
 rw [BitVec.toNat_and, bv32 ha, BitVec.toNat_not, bv32 hm]
 have : 2 ^ IntKind.u32.bits - 1 - maskN n = 2 ^ (32 - n) - 1 := by
  show 4294967296 - 1 - maskN n = _
  unfold maskN; omega
 rw [this, Nat.and_two_pow_sub_one_eq_mod]
theorem mod_lt' {a n : Nat} (ha : a < 4294967296) : a % 2 ^ (32 - n) < 4294967296 := Nat.lt_of_le_of_lt (Nat.mod_le _ _) ha
theorem bad_ref {a n : Nat} (ha : a < 4294967296) : (IntKind.u32.wrap (↑(BitVec.ofInt IntKind.u32.bits (a : Int) &&& ~~~BitVec.ofInt IntKind.u32.bits ((maskN n : Nat) : Int)).toNat : Int) != (0 : Int)) = decide (a % 2 ^ (32 - n) ≠ 0) := by
 rw [not_mask ha, w32 (by omega) (by have := mod_lt' (n := n) ha; omega)]
 by_cases h : a % 2 ^ (32 - n) = 0
 ·simp [h]
 ·have : ((a % 2 ^ (32 - n) : Nat) : Int) ≠ 0 := by omega
  simp only [h, bne_iff_ne, ne_eq, this, not_false_eq_true, decide_true]
theorem bad_net {a n : Nat} (ha : a < 4294967296) (h : n ≤ 32) : (IntKind.u64.wrap (↑(BitVec.ofInt IntKind.u64.bits (IntKind.u64.wrap (IntKind.u64.wrap (a : Int) * (2 : Int) ^ min (n : Int).toNat IntKind.u64.bits)) &&& BitVec.ofInt IntKind.u64.bits (4294967295 : Int)).toNat : Int) != (0 : Int)) = decide (a % 2 ^ (32 - n) ≠ 0) := by
 have e2 : min n IntKind.u64.bits = n := by show min n 64 = n; omega
 have hp : 2 ^ n ≤ 4294967296 := Nat.pow_le_pow_right (n := 2) (by omega) h
 have hm : a * 2 ^ n < 4294967296 * 4294967296 := Nat.lt_of_lt_of_le (Nat.mul_lt_mul_of_pos_right ha (Nat.two_pow_pos n)) (Nat.mul_le_mul_left _ hp)
 rw [Int.toNat_natCast, e2, wu64 (n := (a : Int)) (by omega) (by omega), show (a : Int) * (2 : Int) ^ n = ((a * 2 ^ n : Nat) : Int) from by simp, wu64 (n := ((a * 2 ^ n : Nat) : Int)) (by omega) (by omega)]
 have e3 : (BitVec.ofInt IntKind.u64.bits ((a * 2 ^ n : Nat) : Int) &&& BitVec.ofInt IntKind.u64.bits (4294967295 : Int)).toNat = a % 2 ^ (32 - n) * 2 ^ n := by
  have := bv64 (a := 4294967295) (by omega)
  rw [show ((4294967295 : Nat) : Int) = 4294967295 from rfl] at this
  rw [BitVec.toNat_and, bv64 (by omega), this, Nat.and_two_pow_sub_one_eq_mod _ 32]
  have : 2 ^ 32 = 2 ^ (32 - n) * 2 ^ n := by rw [← Nat.pow_add]; congr 1; omega
  rw [this, Nat.mul_mod_mul_right]
 have h4 : a % 2 ^ (32 - n) * 2 ^ n ≤ a * 2 ^ n := Nat.mul_le_mul_right _ (Nat.mod_le _ _)
 rw [e3, wu64 (by omega) (by omega)]
 have hq := Nat.two_pow_pos n
 by_cases h0 : a % 2 ^ (32 - n) = 0
 ·simp [h0]
 ·have h5 : 0 < a % 2 ^ (32 - n) * 2 ^ n := Nat.mul_pos (by omega) hq
  have : ((a % 2 ^ (32 - n) * 2 ^ n : Nat) : Int) ≠ 0 := by omega
  simp only [h0, bne_iff_ne, ne_eq, this, not_false_eq_true, decide_true]
def netS (s : List UInt8) : Int × Int × Bool :=
 let x := cutC 47 s
 let a := ipS x.1
 let b := shortS 32 x.2.1
 if a.2 = true ∧ b.2 = true ∧ a.1.toNat % 2 ^ (32 - b.1.toNat) = 0 then (a.1, b.1, true) else (0, 0, false)
theorem cut_small (s : List UInt8) : (cutC 47 s).1.length ≤ s.length ∧ (cutC 47 s).2.1.length ≤ s.length := by
 unfold cutC
 by_cases h : s.contains 47 = true
 ·have := before_len h
  rw [if_pos h]; simp; omega
 ·rw [if_neg h]; simp
theorem net_Net_f {s : List UInt8} (hn : s.length < 1073741824) : net_Net.f s = some (netS s) := by
 unfold net_Net.f net_Net.t
 rw [cut2f_f (by omega)]
 have hs := cut_small s
 unfold netS
 generalize cutC 47 s = x at hs ⊢
 obtain ⟨p, q, r⟩ := x
 simp only at hs
 have e1 := net_IP_f (s := p) (by omega)
 have e2 : net_short.f q 32 = some (shortS 32 q) := net_short_f (most := 32) (by omega) (by omega)
 simp only [Tr.val, e1, e2]
 cases h1 : (ipS p).2
 ·simp
 ·obtain ⟨a, ha, hae, _⟩ := ipS_is h1
  cases h2 : (shortS 32 q).2
  ·simp
  ·obtain ⟨n, hn', hne, _⟩ := shortS_is h2
   rw [hae, hne, bad_net ha hn']
   simp only [Int.toNat_natCast]
   by_cases h3 : a % 2 ^ (32 - n) = 0
   ·have : ¬ ((n : Int) < 0) := by omega
    simp [h3]
   ·have : ¬ ((n : Int) < 0) := by omega
    simp [h3]
theorem decDigits_small {n : Nat} (h : n < 10) : Lib.decDigits n = [dc n] := by rw [Lib.decDigits, dif_pos h]; rfl
theorem decDigits_step {n : Nat} (h : ¬ n < 10) : Lib.decDigits n = Lib.decDigits (n / 10) ++ [dc (n % 10)] := by
 rw [Lib.decDigits, dif_neg h]; rfl
theorem decDigits_len : ∀ (k n : Nat), n < 10 ^ (k + 1) → (Lib.decDigits n).length ≤ k + 1
 | 0, n, h => by rw [decDigits_small (by simpa using h)]; simp
 | k + 1, n, h => by
  by_cases h1 : n < 10
  ·rw [decDigits_small h1]; simp
  ·rw [decDigits_step h1, List.length_append]
   have := decDigits_len k (n / 10) (by rw [Nat.div_lt_iff_lt_mul (by omega)]; rw [Nat.pow_succ] at h; exact h)
   simp; omega
theorem div10b (n : Nat) (h : n < 1000000000) : IntKind.i64.wrap ((n : Int).tdiv 10) = ((n / 10 : Nat) : Int) := by
 rw [show ((n : Int).tdiv 10) = ((n / 10 : Nat) : Int) from rfl, w64 (by omega) (by omega)]
theorem putD1 {n : Nat} (h : n < 10) : ref1_put_r1.f (n : Int) 10 = some (Lib.decDigits n) := by rw [put1_f h, decDigits_small h]
theorem putD2 {n : Nat} (h : n < 100) : ref1_put_r2.f (n : Int) 10 = some (Lib.decDigits n) := by
 unfold ref1_put_r2.f ref1_put_r2.t
 by_cases h0 : n < 10
 ·obtain ⟨h1, h2⟩ := put_digit ⟨n, h0⟩
  have : decide ((n : Int) < 10) = true := by simp; omega
  rw [this]
  show (Tr.chk _ _).val = _
  rw [Tr.val_chk h2, h1, decDigits_small h0]; rfl
 ·have : decide ((n : Int) < 10) = false := by simp; omega
  have hl := decDigits_len 8 (n / 10) (by omega)
  rw [div10b n (by omega), mod10 n, putD1 (show n / 10 < 10 by omega), putD1 (show n % 10 < 10 by omega), decDigits_small (show n % 10 < 10 by omega), this, val_no, Tr.val_chk (by decide), Tr.val_call rfl, Tr.val_chk (by decide), Tr.val_call rfl, Tr.val_chk (by simp; omega), decDigits_step h0]
  rfl
theorem putD3 {n : Nat} (h : n < 1000) : ref1_put_r3.f (n : Int) 10 = some (Lib.decDigits n) := by
 unfold ref1_put_r3.f ref1_put_r3.t
 by_cases h0 : n < 10
 ·obtain ⟨h1, h2⟩ := put_digit ⟨n, h0⟩
  have : decide ((n : Int) < 10) = true := by simp; omega
  rw [this]
  show (Tr.chk _ _).val = _
  rw [Tr.val_chk h2, h1, decDigits_small h0]; rfl
 ·have : decide ((n : Int) < 10) = false := by simp; omega
  have hl := decDigits_len 8 (n / 10) (by omega)
  rw [div10b n (by omega), mod10 n, putD2 (show n / 10 < 100 by omega), putD2 (show n % 10 < 100 by omega), decDigits_small (show n % 10 < 10 by omega), this, val_no, Tr.val_chk (by decide), Tr.val_call rfl, Tr.val_chk (by decide), Tr.val_call rfl, Tr.val_chk (by simp; omega), decDigits_step h0]
  rfl
theorem putD4 {n : Nat} (h : n < 10000) : ref1_put_r4.f (n : Int) 10 = some (Lib.decDigits n) := by
 unfold ref1_put_r4.f ref1_put_r4.t
 by_cases h0 : n < 10
 ·obtain ⟨h1, h2⟩ := put_digit ⟨n, h0⟩
  have : decide ((n : Int) < 10) = true := by simp; omega
  rw [this]
  show (Tr.chk _ _).val = _
  rw [Tr.val_chk h2, h1, decDigits_small h0]; rfl
 ·have : decide ((n : Int) < 10) = false := by simp; omega
  have hl := decDigits_len 8 (n / 10) (by omega)
  rw [div10b n (by omega), mod10 n, putD3 (show n / 10 < 1000 by omega), putD3 (show n % 10 < 1000 by omega), decDigits_small (show n % 10 < 10 by omega), this, val_no, Tr.val_chk (by decide), Tr.val_call rfl, Tr.val_chk (by decide), Tr.val_call rfl, Tr.val_chk (by simp; omega), decDigits_step h0]
  rfl
theorem putD5 {n : Nat} (h : n < 100000) : ref1_put_r5.f (n : Int) 10 = some (Lib.decDigits n) := by
 unfold ref1_put_r5.f ref1_put_r5.t
 by_cases h0 : n < 10
 ·obtain ⟨h1, h2⟩ := put_digit ⟨n, h0⟩
  have : decide ((n : Int) < 10) = true := by simp; omega
  rw [this]
  show (Tr.chk _ _).val = _
  rw [Tr.val_chk h2, h1, decDigits_small h0]; rfl
 ·have : decide ((n : Int) < 10) = false := by simp; omega
  have hl := decDigits_len 8 (n / 10) (by omega)
  rw [div10b n (by omega), mod10 n, putD4 (show n / 10 < 10000 by omega), putD4 (show n % 10 < 10000 by omega), decDigits_small (show n % 10 < 10 by omega), this, val_no, Tr.val_chk (by decide), Tr.val_call rfl, Tr.val_chk (by decide), Tr.val_call rfl, Tr.val_chk (by simp; omega), decDigits_step h0]
  rfl
theorem putD6 {n : Nat} (h : n < 1000000) : ref1_put_r6.f (n : Int) 10 = some (Lib.decDigits n) := by
 unfold ref1_put_r6.f ref1_put_r6.t
 by_cases h0 : n < 10
 ·obtain ⟨h1, h2⟩ := put_digit ⟨n, h0⟩
  have : decide ((n : Int) < 10) = true := by simp; omega
  rw [this]
  show (Tr.chk _ _).val = _
  rw [Tr.val_chk h2, h1, decDigits_small h0]; rfl
 ·have : decide ((n : Int) < 10) = false := by simp; omega
  have hl := decDigits_len 8 (n / 10) (by omega)
  rw [div10b n (by omega), mod10 n, putD5 (show n / 10 < 100000 by omega), putD5 (show n % 10 < 100000 by omega), decDigits_small (show n % 10 < 10 by omega), this, val_no, Tr.val_chk (by decide), Tr.val_call rfl, Tr.val_chk (by decide), Tr.val_call rfl, Tr.val_chk (by simp; omega), decDigits_step h0]
  rfl
theorem putD7 {n : Nat} (h : n < 10000000) : ref1_put_r7.f (n : Int) 10 = some (Lib.decDigits n) := by
 unfold ref1_put_r7.f ref1_put_r7.t
 by_cases h0 : n < 10
 ·obtain ⟨h1, h2⟩ := put_digit ⟨n, h0⟩
  have : decide ((n : Int) < 10) = true := by simp; omega
  rw [this]
  show (Tr.chk _ _).val = _
  rw [Tr.val_chk h2, h1, decDigits_small h0]; rfl
 ·have : decide ((n : Int) < 10) = false := by simp; omega
  have hl := decDigits_len 8 (n / 10) (by omega)
  rw [div10b n (by omega), mod10 n, putD6 (show n / 10 < 1000000 by omega), putD6 (show n % 10 < 1000000 by omega), decDigits_small (show n % 10 < 10 by omega), this, val_no, Tr.val_chk (by decide), Tr.val_call rfl, Tr.val_chk (by decide), Tr.val_call rfl, Tr.val_chk (by simp; omega), decDigits_step h0]
  rfl
theorem putD8 {n : Nat} (h : n < 100000000) : ref1_put_r8.f (n : Int) 10 = some (Lib.decDigits n) := by
 unfold ref1_put_r8.f ref1_put_r8.t
 by_cases h0 : n < 10
 ·obtain ⟨h1, h2⟩ := put_digit ⟨n, h0⟩
  have : decide ((n : Int) < 10) = true := by simp; omega
  rw [this]
  show (Tr.chk _ _).val = _
  rw [Tr.val_chk h2, h1, decDigits_small h0]; rfl
 ·have : decide ((n : Int) < 10) = false := by simp; omega
  have hl := decDigits_len 8 (n / 10) (by omega)
  rw [div10b n (by omega), mod10 n, putD7 (show n / 10 < 10000000 by omega), putD7 (show n % 10 < 10000000 by omega), decDigits_small (show n % 10 < 10 by omega), this, val_no, Tr.val_chk (by decide), Tr.val_call rfl, Tr.val_chk (by decide), Tr.val_call rfl, Tr.val_chk (by simp; omega), decDigits_step h0]
  rfl
theorem ref1_PutD {n : Nat} (h : n < 100000000) : ref1_Put.f (n : Int) = some (Lib.decDigits n) := by
 unfold ref1_Put.f ref1_Put.t
 rw [putD8 h]; rfl
theorem ref1_Put_f {n : Nat} (h : n < 1000) : ref1_Put.f (n : Int) = some (dg n) := by rw [ref1_PutD (by omega), dg_eq h]
theorem ref22_small_f {most : Nat} {s : List UInt8} (hm : most < 1000) (hn : s.length < 1125899906842624) : ref22_small.f s (most : Int) = some (shortS most s) := by
 unfold ref22_small.f ref22_small.t
 rw [ref1_Dec_f (by omega) hn]
 have hl := numS_le (most := most) (s := s)
 unfold shortS
 generalize numS 10 (most : Int) s = y at hl ⊢
 obtain ⟨n, e⟩ := y
 simp only at hl
 obtain ⟨k, rfl⟩ := Int.eq_ofNat_of_zero_le hl.1
 cases h : (e == 0)
 ·simp [Tr.val, h]
 ·simp [Tr.val, h, ref1_Put_f (show k < 1000 by omega)]
def ipStep' (N : Nat) (a : Int) (x : List UInt8) : Int ⊕ (Int ⊕ (Int × Bool)) := if N = 4 then ipStep a x else .inr (.inr (0, false))
theorem ref22_IP_loop {l : List (List UInt8)} (hl : ∀ x ∈ l, x.length < 1125899906842624) (hn : l.length < 1125899906842624) : ref22_IP.L4.f l 0 0 = some (foldE (ipStep' l.length) ipFin 0 l) := by
 unfold ref22_IP.L4.f
 refine Loop_list (A := Int) (a := 0) l (fun k a => (a, (k : Int))) (fun _ _ => True) (ipStep' l.length) ipFin ?_ ?_ hn trivial rfl
 ·intro k a c _ hk hc
  refine ⟨?_, fun _ _ => trivial⟩
  subst hc
  have hw := wS (k := k) (by omega)
  have e : ref22_small.f l[k] 255 = some (shortS 255 l[k]) := ref22_small_f (most := 255) (by omega) (hl _ (List.getElem_mem hk))
  simp only [ref22_IP.L4.t, Tr.val, Nat.zero_add, Int.toNat_natCast, getD_nat hk rfl, e, in_rng hk, lt_nat, decide_eq_true hk, cond_true, and_self, if_true, hw, if_pos hk]
  unfold ipStep' ipStep
  rcases h : shortS 255 l[k] with ⟨n, b⟩
  by_cases h4 : l.length = 4
  ·have : ((l.length : Int) != 4) = false := by rw [h4]; rfl
   cases b <;> simp [sh, this, h4]
  ·have : ((l.length : Int) != 4) = true := by simp; omega
   cases b <;> simp [sh, this, h4]
 ·intro a _
  simp [ref22_IP.L4.t, Tr.val, ipFin]
theorem ref22_IP_f {s : List UInt8} (hn : s.length < 1073741824) : ref22_IP.f s = some (ipS s) := by
 unfold ref22_IP.f ref22_IP.t
 have e : ref1_Split.f s 46 = some (splitC 46 s) := ref1_Split_f (c := 46) hn
 rw [e]
 have hs : ∀ x ∈ splitC 46 s, x.length ≤ s.length := splitC_small _ (Nat.le_refl _)
 have hc := splitC_len 46 _ s (Nat.le_refl _)
 have hcl : s.count 46 ≤ s.length := List.count_le_length
 have hL := ref22_IP_loop (l := splitC 46 s) (fun x hx => by have := hs x hx; omega) (by omega)
 unfold ipS ipL
 simp only [Tr.val, hL]
 by_cases h4 : (splitC 46 s).length = 4
 ·have : ipStep' (splitC 46 s).length = ipStep := by funext a x; simp [ipStep', h4]
  rw [this, if_pos h4]
  rcases foldE ipStep ipFin 0 (splitC 46 s) with v | ⟨a, b⟩ <;> rfl
 ·have : foldE (ipStep' (splitC 46 s).length) ipFin 0 (splitC 46 s) = .inr (0, false) := by
   cases h : splitC 46 s with
   | nil => exact absurd h (splitC_ne _ _)
   | cons x l =>
    rw [h] at h4
    rw [foldE]
    simp only [ipStep', if_neg h4]
  rw [this, if_neg h4]
  simp [Tr.okl, Tr.val]
theorem mask_f : ∀ n : Fin 33, ref22_mask.f (n.val : Int) = some ((maskN n.val : Nat) : Int) := by decide +kernel
theorem ref22_mask_f {n : Nat} (h : n ≤ 32) : ref22_mask.f (n : Int) = some ((maskN n : Nat) : Int) := mask_f ⟨n, by omega⟩
theorem ref22_Net_f {s : List UInt8} (hn : s.length < 1073741824) : ref22_Net.f s = some (netS s) := by
 unfold ref22_Net.f ref22_Net.t
 have e0 : ref1_Split.f s 47 = some (splitC 47 s) := ref1_Split_f (c := 47) hn
 rw [e0]
 unfold netS cutC
 by_cases hc : s.contains 47 = true
 ·have hl := before_len hc
  rw [splitC_is hc, if_pos hc]
  simp only
  by_cases hc2 : (after 47 s).contains 47 = true
  ·have hb : (shortS 32 (after 47 s)).2 = false := shortS_not hc2 (by decide)
   have hlen : (before 47 s :: splitC 47 (after 47 s)).length ≠ 2 := by
    rw [splitC_is hc2]
    have := List.length_pos_iff.2 (splitC_ne 47 (after 47 (after 47 s)))
    simp; intro h; simp [h] at this
   have : (((before 47 s :: splitC 47 (after 47 s)).length : Int) != 2) = true := by
    simp only [bne_iff_ne, ne_eq]; omega
   simp only [Tr.val, this, cond_true, hb]
   simp
  ·have hs1 : splitC 47 (after 47 s) = [after 47 s] := splitC_not (by simpa using hc2)
   rw [hs1]
   have e1 := ref22_IP_f (s := before 47 s) (by omega)
   have e2 : ref22_small.f (after 47 s) 32 = some (shortS 32 (after 47 s)) := ref22_small_f (most := 32) (by omega) (by omega)
   have e3 : (([before 47 s, after 47 s].length : Int) != 2) = false := by simp
   have e4 : [before 47 s, after 47 s].getD 0 [] = before 47 s := rfl
   have e5 : [before 47 s, after 47 s].getD 1 [] = after 47 s := rfl
   simp only [Tr.val, e3, cond_false, e4, e5, e1, e2]
   rw [if_pos (by simp), if_pos (by simp), if_pos (by simp), if_pos (by simp)]
   cases h1 : (ipS (before 47 s)).2
   ·simp
   ·obtain ⟨a, ha, hae, _⟩ := ipS_is h1
    cases h2 : (shortS 32 (after 47 s)).2
    ·simp
    ·obtain ⟨n, hn', hne, _⟩ := shortS_is h2
     rw [hae, hne, ref22_mask_f hn']
     simp only [Int.toNat_natCast, Tr.val, Bool.not_true, cond_false, bad_ref ha]
     by_cases h3 : a % 2 ^ (32 - n) = 0 <;> simp [h3]
 ·rw [splitC_not (by simpa using hc), if_neg hc]
  have hb : (shortS 32 []).2 = false := by decide
  have : (([s].length : Int) != 2) = true := by simp
  simp only [Tr.val, this, cond_true, hb]
  simp
end Pl
end Go.Vx
end
section
set_option linter.unusedVariables false
set_option linter.unusedSimpArgs false
set_option maxRecDepth 100000
namespace Go.Vx
namespace Pl
open Go Go.Proofs
theorem rLetter_f (c : UInt8) : ref1_Letter.f (c.toNat : Int) = some (isLetter c) := byte_fn (f := ref1_Letter.f) (g := isLetter) (by decide +kernel) c
theorem rDigit_f (c : UInt8) : ref1_Digit.f (c.toNat : Int) = some (isDigit c) := byte_fn (f := ref1_Digit.f) (g := isDigit) (by decide +kernel) c
theorem rToken_f (c : UInt8) : ref1_Token.f (c.toNat : Int) = some (isTok c) := byte_fn (f := ref1_Token.f) (g := isTok) (by decide +kernel) c
theorem rVisible_f (c : UInt8) : ref1_Visible.f (c.toNat : Int) = some (isVis c) := byte_fn (f := ref1_Visible.f) (g := isVis) (by decide +kernel) c
theorem rBlank_f (c : UInt8) : ref1_Blank.f (c.toNat : Int) = some (isBlank c) := byte_fn (f := ref1_Blank.f) (g := isBlank) (by decide +kernel) c
theorem rText_f (c : UInt8) : ref1_Text.f (c.toNat : Int) = some (isText c) := byte_fn (f := ref1_Text.f) (g := isText) (by decide +kernel) c
theorem rSet_f (c : UInt8) : ref1_in.f (c.toNat : Int) [(32 : UInt8), (9 : UInt8)] = some (isBlank c) := byte_fn (f := fun c => ref1_in.f c [(32 : UInt8), (9 : UInt8)]) (g := isBlank) (by decide +kernel) c
theorem rIs_f (c : UInt8) (k : Int) : ref1_is.f (c.toNat : Int) k = some (isKind k c) := by
 unfold ref1_is.f ref1_is.t isKind
 rw [ref1_Hex_f, rToken_f, rVisible_f, rBlank_f, rDigit_f, rText_f]
 simp only [Tr.val, bif_ite, beq_iff_eq]
 split <;> (try rfl) <;> split <;> (try rfl) <;> split <;> (try rfl) <;> split <;> (try rfl) <;> split <;> (try rfl) <;> split <;> rfl
theorem rAll_L6 {kd : Int} {s : List UInt8} {i : Nat} {c : UInt8} (hi : i < s.length) (hc : s[i]'hi = c) : ref1_All.L6.f [kd] s (i : Int) false 0 = some (isKind kd c) := by
 unfold ref1_All.L6.f
 refine (Loop_list (A := Bool) (ρ := Bool) (a := false) [kd] (fun k a => (a, (k : Int))) (fun _ _ => True) (fun a k => .inl (a || isKind k c)) id ?_ ?_ (by simp) trivial rfl).trans (by simp [foldE])
 ·intro k a kd' _ hk hkc
  refine ⟨?_, fun _ _ => trivial⟩
  have hw := wS (k := k) (by simp at hk; omega)
  subst hkc hc
  cases a <;> simp [ref1_All.L6.t, Tr.val, rIs_f, in_rng hk, hw, hk, in_rng hi, hi] <;> simp at hk <;> simp [hk]
 ·intro a _
  simp [ref1_All.L6.t, Tr.val]
theorem rAll1 {k : Int} {s : List UInt8} (hn : s.length < 1125899906842624) : ref1_All.f [k] s = some (s.all (isKind k)) := by
 have hL : ref1_All.L2.f [k] s 0 = some (if (s.all fun c => isKind k c) = true then .inl () else .inr false) := by
  unfold ref1_All.L2.f
  refine (Loop_scan s (fun _ c => if isKind k c = true then none else some (Sum.inr false : Unit ⊕ Bool)) (.inl ()) (fun i c hl hc => ?_) ?_ hn).trans (by rw [scan_all])
  ·have hw := wS (k := i) (by omega)
   have h6 := rAll_L6 (kd := k) hl hc
   have d : decide ((i : Int) < (s.length : Int)) = true := by simp; omega
   unfold ref1_All.L2.t
   rw [d, h6]
   by_cases h : isKind k c = true
   ·simp [Tr.val, h, hw]
   ·have h' : isKind k c = false := by simpa using h
    simp [Tr.val, h', hw]
  ·simp [ref1_All.L2.t, Tr.val]
 unfold ref1_All.f ref1_All.t
 rw [hL]
 cases (s.all fun c => isKind k c) <;> simp [Tr.val]
theorem rLower_byte (c : UInt8) (h1 : (c.toNat : Int) ≥ 65) (h2 : (c.toNat : Int) ≤ 90) : IntKind.u8.wrap ((c.toNat : Int) + 32) = ((c.toNat + 32 : Nat) : Int) ∧ UInt8.ofNat (c.toNat + 32) = lowerC c := by
 have := all256 (p := fun c => !(decide ((c.toNat : Int) ≥ 65) && decide ((c.toNat : Int) ≤ 90)) || (decide (IntKind.u8.wrap ((c.toNat : Int) + 32) = ((c.toNat + 32 : Nat) : Int)) && (UInt8.ofNat (c.toNat + 32) == lowerC c))) (by decide +kernel) c
 simpa [h1, h2] using this
theorem rLower_f {s : List UInt8} (hn : s.length < 140737488355328) : ref1_Lower.f s = some (lower s) := by
 have hL : ref1_Lower.L3.f s 0 = some (lower s) := by
  unfold ref1_Lower.L3.f
  refine (Loop_list (A := Unit) (a := ()) s (fun k _ => ((s.take k).map lowerC ++ s.drop k, (k : Int))) (fun _ _ => True) (fun _ _ => .inl ()) (fun _ => lower s) ?_ ?_ (by omega) trivial (by simp)).trans ?_
  ·intro k a c _ hk hc
   refine ⟨?_, fun _ _ => trivial⟩
   subst hc
   have hw := wS (k := k) (by omega)
   have ha := lower_at hk
   have hl := lower_len (Nat.le_of_lt hk)
   unfold ref1_Lower.L3.t
   simp only [Int.toNat_natCast, Nat.zero_add, ha, hl, lt_nat, decide_eq_true hk, hw, lower_next hk]
   by_cases h1 : (s[k].toNat : Int) ≥ 65
   ·by_cases h2 : (s[k].toNat : Int) ≤ 90
    ·obtain ⟨q1, q2⟩ := rLower_byte s[k] h1 h2
     rw [q1]
     simp only [Tr.val, h1, h2, decide_true, cond_true, Int.toNat_natCast, q2, lower_set hk, List.length_set, hl]
     simp [hk]
     omega
    ·have := lower_not s[k] (fun h => h2 h.2)
     simp only [Tr.val, h1, h2, decide_true, decide_false, cond_true, cond_false, this]
     simp [hk]
   ·have := lower_not s[k] (fun h => h1 h.1)
    simp only [Tr.val, h1, decide_true, decide_false, cond_true, cond_false, this]
    simp [hk]
  ·intro a _
   simp [ref1_Lower.L3.t, Tr.val, lower]
  ·have : ∀ (l : List UInt8), foldE (fun (_ : Unit) (_ : UInt8) => (Sum.inl () : Unit ⊕ List UInt8)) (fun _ => lower s) () l = lower s := by
    intro l
    induction l with
    | nil => rfl
    | cons c l ih => exact ih
   rw [this]
 unfold ref1_Lower.f ref1_Lower.t
 rw [List.nil_append, hL]
 simp [Tr.val]
 omega
theorem rSame_f {a b : List UInt8} (ha : a.length < 140737488355328) (hb : b.length < 140737488355328) : ref1_Same.f a b = some (same a b) := by
 unfold ref1_Same.f ref1_Same.t
 rw [rLower_f ha, rLower_f hb]
 rfl
theorem rOne_f {l : List (List UInt8)} {s : List UInt8} (hn : l.length < 1125899906842624) (hl : ∀ x ∈ l, x.length ≤ 1000000) (hs : s.length ≤ 1000000) : ref1_One.f l s = some (l.any fun x => same x s) := by
 have hL : ref1_One.L2.f l s 0 = some (if (l.any fun x => same x s) = true then .inr true else .inl ()) := by
  unfold ref1_One.L2.f
  refine (Loop_scan l (fun _ c => if same c s = true then some (Sum.inr true : Unit ⊕ Bool) else none) (.inl ()) (fun i c hk hc => ?_) ?_ hn).trans (by rw [scan_any])
  ·have hw := wS (k := i) (by omega)
   have hcl := hl c (by rw [← hc]; exact List.getElem_mem hk)
   have d : decide ((i : Int) < (l.length : Int)) = true := by simp; omega
   unfold ref1_One.L2.t
   rw [d, vtrue, Tr.val_chk (by omega), Nat.zero_add, Int.toNat_natCast, getD_nat hk hc, Tr.val_chk hk, rSame_f (by omega) (by omega), Tr.val_call rfl, hw]
   by_cases h : same c s = true
   ·rw [h]; rfl
   ·have h' : same c s = false := by simpa using h
    rw [h']; rfl
  ·simp [ref1_One.L2.t, Tr.val]
 unfold ref1_One.f ref1_One.t
 rw [hL]
 cases (l.any fun x => same x s) <;> simp [Tr.val]
theorem rTrim_front {s : List UInt8} (hn : s.length < 1125899906842624) : ref1_TrimOf.L1.f s [32, 9] = some (s.dropWhile isBlank) := by
 unfold ref1_TrimOf.L1.f
 refine Loop_front (p := isBlank) ?_ ?_ hn
 ·simp [ref1_TrimOf.L1.t, Tr.val]
 ·intro c l _
  cases h : isBlank c <;> simp [ref1_TrimOf.L1.t, Tr.val, rSet_f, h] <;> omega
theorem rTrim_end {s : List UInt8} (hn : s.length < 1125899906842624) : ref1_TrimOf.L3.f s [32, 9] = some (dropEnd isBlank s) := by
 unfold ref1_TrimOf.L3.f
 refine Loop_end (p := isBlank) ?_ ?_ hn
 ·simp [ref1_TrimOf.L3.t, Tr.val]
 ·intro l c hl
  have h1 := snoc_wrap (l := l) (c := c) (by omega)
  have h2 : ((l ++ [c]) == []) = false := by simp
  have h3 : (l ++ [c]).getD l.length 0 = c := by simp
  unfold ref1_TrimOf.L3.t
  rw [h1]
  simp only [Tr.val, h2, Int.toNat_natCast, h3, rSet_f]
  cases h : isBlank c <;> simp <;> omega
theorem rTrim_f {s : List UInt8} (hn : s.length < 1125899906842624) : ref1_Trim.f s = some (trim s) := by
 unfold ref1_Trim.f ref1_Trim.t ref1_TrimOf.f ref1_TrimOf.t trim trimP
 rw [rTrim_front hn]
 have := (List.dropWhile_sublist isBlank (l := s)).length_le
 simp only [Tr.val, rTrim_end (s := List.dropWhile isBlank s) (by omega)]
def freeS (name : List UInt8) : Bool := !(name == []) && name.all isTok && !(fixedNames.any fun x => same x name)
theorem free_f {name : List UInt8} (h : name.length ≤ 1000000) : ref25_free.f name = some (freeS name) := by
 unfold ref25_free.f ref25_free.t freeS
 rw [rAll1 (by omega), kind_tok]
 have e := rOne_f (l := fixedNames) (s := name) (by decide) (by decide) h
 unfold fixedNames at e ⊢
 rw [e]
 cases (name == []) <;> cases name.all isTok <;> simp [Tr.val]
theorem rRight_f {name value : List UInt8} (h1 : name.length ≤ 1000000) (h2 : value.length ≤ 1000000) : ref9_Right.f name value = some (fieldR name value) := by
 unfold ref9_Right.f ref9_Right.t fieldR
 rw [rAll1 (by omega), rAll1 (by omega), rTrim_f (by omega), kind_tok, kind_text]
 cases (name == []) <;> cases name.all isTok <;> cases value.all isText <;> simp [Tr.val]
theorem pWord_byte (c : UInt8) : (!pWord c.toNat) = (isLetter c || isDigit c) := by
 have := all256 (p := fun c => (!pWord c.toNat) == (isLetter c || isDigit c)) (by decide +kernel) c
 simpa using this
theorem realm_f {s : List UInt8} (hn : s.length < 1125899906842624) : ref25_realm.f s = some (wordS s) := by
 have hL : ref25_realm.L2.f s 0 = some (if (s.all fun c => !pWord c.toNat) = true then .inl () else .inr false) := by
  unfold ref25_realm.L2.f
  refine (Loop_scan s (fun _ c => if (!pWord c.toNat) = true then none else some (Sum.inr false : Unit ⊕ Bool)) (.inl ()) (fun i c hl hc => ?_) ?_ hn).trans (by rw [scan_all])
  ·have hw := wS (k := i) (by omega)
   have d : decide ((i : Int) < (s.length : Int)) = true := by simp; omega
   unfold ref25_realm.L2.t
   rw [d, vtrue, Tr.val_chk (by omega), getD_at hl hc, rLetter_f, Tr.val_call rfl, rDigit_f, hw, pWord_byte]
   cases isLetter c <;> cases isDigit c <;> simp [Tr.val] <;> omega
  ·simp [ref25_realm.L2.t, Tr.val]
 unfold ref25_realm.f ref25_realm.t wordS
 rw [hL]
 have d1 : decide ((s.length : Int) ≥ 1) = !(s == []) := by cases s <;> simp <;> omega
 have d2 : decide ((s.length : Int) ≤ 64) = decide (s.length ≤ 64) := decide_eq_decide.2 (by omega)
 rw [d1, d2]
 cases (s.all fun c => !pWord c.toNat) <;> cases (s == []) <;> cases decide (s.length ≤ 64) <;> simp [Tr.val]
end Pl
end Go.Vx
end
section
set_option linter.unusedVariables false
set_option linter.unusedSimpArgs false
set_option maxRecDepth 100000
namespace Go.Vx
namespace Pl
open Go Go.Proofs
theorem more_loop {more : List UInt8} {c : UInt8} (hn : more.length < 1125899906842624) (b : Bool) : ref6_of.L7.f more (c.toNat : Int) b 0 = some (b || more.contains c) := by
 unfold ref6_of.L7.f
 refine (Loop_list (A := Bool) (ρ := Bool) (a := b) more (fun k a => (a, (k : Int))) (fun _ _ => True) (fun a x => .inl (a || c == x)) id ?_ ?_ hn trivial rfl).trans ?_
 ·intro k a x _ hk hx
  refine ⟨?_, fun _ _ => trivial⟩
  have hw := wS (k := k) (by omega)
  have d : decide ((k : Int) < (more.length : Int)) = true := by simp; omega
  unfold ref6_of.L7.t
  simp only [d, hw, getD_at hk hx, byte_is]
  cases a
  ·simp [Tr.val, hk]
  ·simp [Tr.val]
 ·intro a _
  simp [ref6_of.L7.t, Tr.val]
 ·congr 1
  have : ∀ (l : List UInt8) (a : Bool), foldE (fun a x => (Sum.inl (a || c == x) : Bool ⊕ Bool)) id a l = (a || l.contains c) := by
   intro l
   induction l with
   | nil => intro a; simp [foldE]
   | cons x l ih =>
    intro a
    rw [foldE]
    simp only
    rw [ih, List.contains_cons, Bool.or_assoc]
  exact this more b
def okB (b : Bool) (more : List UInt8) (c : UInt8) (l : List UInt8) : Bool := if c = 37 ∧ 2 ≤ l.length then isHex (l.getD 0 0) && isHex (l.getD 1 0) else b || more.contains c
theorem okB_pct {b : Bool} {more : List UInt8} {c : UInt8} {l : List UInt8} (h : c = 37) (h2 : 2 ≤ l.length) : okB b more c l = (isHex (l.getD 0 0) && isHex (l.getD 1 0)) := if_pos ⟨h, h2⟩
theorem okB_not {b : Bool} {more : List UInt8} {c : UInt8} {l : List UInt8} (h : ¬ (c = 37 ∧ 2 ≤ l.length)) : okB b more c l = (b || more.contains c) := if_neg h
def ofStep (more : List UInt8) : List UInt8 → Nat ⊕ (Unit ⊕ Bool)
 | [] => .inr (.inl ())
 | c :: l => if okB (isLetter c || isDigit c) more c l = true then .inl 1 else .inr (.inr false)
def ofGo (more : List UInt8) : List UInt8 → Bool
 | [] => true
 | c :: l => okB (isLetter c || isDigit c) more c l && ofGo more l
theorem hex_plain (c : UInt8) (h : isHex c = true) : (isLetter c || isDigit c) = true ∧ c ≠ 37 := by
 have := all256 (p := fun c => !isHex c || ((isLetter c || isDigit c) && c != 37)) (by decide +kernel) c
 simpa [h] using this
theorem of_signs {more : List UInt8} (hm : more.contains 37 = false) : ∀ (n : Nat) (l : List UInt8), l.length ≤ n → ofGo more l = signsGo more true l
 | _, [], _ => rfl
 | 0, c :: l, h => by simp at h
 | n + 1, c :: l, h => by
  have ih := of_signs hm n l (by simpa using h)
  rw [ofGo, signsGo_cons]
  by_cases hc : c = 37
  ·subst hc
   have h37 : (isDigit 37 || isLetter 37 || more.contains 37) = false := by rw [hm]; decide
   have h37' : (isLetter 37 || isDigit 37 || more.contains 37) = false := by rw [hm]; decide
   match l, ih, h with
   | [], _, _ =>
    rw [okB_not (fun x => absurd x.2 (by decide)), h37', h37]; rfl
   | [a], _, _ =>
    rw [okB_not (fun x => absurd x.2 (by simp)), h37', h37]; rfl
   | a :: b :: l', ih, h =>
    rw [okB_pct rfl (by simp), h37, ih]
    show (isHex a && isHex b && signsGo more true (a :: b :: l')) = (isHex a && isHex b && signsGo more true l')
    cases ha : isHex a
    ·rfl
    ·cases hb : isHex b
     ·rfl
     ·obtain ⟨p1, p2⟩ := hex_plain a ha
      obtain ⟨p3, p4⟩ := hex_plain b hb
      have e1 : (isDigit a || isLetter a || more.contains a) = true := by rw [Bool.or_comm (isDigit a), p1]; rfl
      have e2 : (isDigit b || isLetter b || more.contains b) = true := by rw [Bool.or_comm (isDigit b), p3]; rfl
      rw [signsGo_cons, if_pos e1, signsGo_cons, if_pos e2]
  ·rw [okB_not (fun x => hc x.1), ih, Bool.or_comm (isLetter c)]
   have hx : (true && c == 37) = false := by simp [hc]
   rw [hx]
   cases (isDigit c || isLetter c || more.contains c) <;> simp
theorem of_spec (more : List UInt8) (l : List UInt8) : (if ofGo more l = true then (Sum.inl () : Unit ⊕ Bool) else .inr false) = goOn (fun l => if ofGo more l = true then (Sum.inl () : Unit ⊕ Bool) else .inr false) l (ofStep more l) := by
 cases l with
 | nil => rfl
 | cons c l =>
  rw [ofGo, ofStep]
  cases okB (isLetter c || isDigit c) more c l <;> simp [goOn]
theorem of_f {s more : List UInt8} (hn : s.length < 1125899906842000) (hm : more.length < 1125899906842624) : ref6_of.f s more = some (ofGo more s) := by
 have hL : ref6_of.L2.f s more 0 = some (if ofGo more s = true then .inl () else .inr false) := by
  unfold ref6_of.L2.f
  refine Loop_drop s (ofStep more) (fun l => if ofGo more l = true then .inl () else .inr false) (of_spec more) ?_ ?_ (by omega)
  ·intro l j h
   cases l with
   | nil => cases h
   | cons c l =>
    rw [ofStep] at h
    split at h
    ·cases h; simp
    ·cases h
  ·intro i hi
   by_cases hk : i < s.length
   ·have e := List.drop_eq_getElem_cons hk
    have hw1 := wS (k := i) (by omega)
    have hw2 : IntKind.i64.wrap ((i : Int) + 2) = ((i + 2 : Nat) : Int) := by rw [w64 (by omega) (by omega)]; omega
    have hw3 : IntKind.i64.wrap ((s.length : Int) - (i : Int)) = ((s.length - i : Nat) : Int) := by rw [w64 (by omega) (by omega)]; omega
    have h37 : ((s[i].toNat : Int) == 37) = (s[i] == 37) := byte_eqI s[i] 37 (by decide) (by decide)
    have d : decide ((i : Int) < (s.length : Int)) = true := by simp; omega
    have d2 : decide (((s.length - i : Nat) : Int) > 2) = decide (2 ≤ (s.drop (i + 1)).length) := decide_eq_decide.2 (by simp; omega)
    rw [e, ofStep]
    unfold ref6_of.L2.t
    rw [d, vtrue, Tr.val_chk (by omega), getD_at hk rfl, rLetter_f, Tr.val_call rfl, rDigit_f, hw1, hw2, hw3, h37, d2]
    have hg : ∀ j, (s.drop (i + 1)).getD j 0 = s.getD (i + 1 + j) 0 := fun j => by
     rw [List.getD_eq_getElem?_getD, List.getD_eq_getElem?_getD, List.getElem?_drop]
    have hX : ∀ (b : Bool), (Tr.call (ref6_of.L7.f more (s[i].toNat : Int) b 0) fun y2 =>
      Tr.br (s[i] == 37) (.br (decide (2 ≤ (s.drop (i + 1)).length)) (.chk ((0 : Int) ≤ ((i + 1 : Nat) : Int) ∧ ((i + 1 : Nat) : Int) < (s.length : Int)) <| .call (ref1_Hex.f (↑(s.getD ((i + 1 : Nat) : Int).toNat (0 : UInt8)).toNat : Int)) fun (_, y3b) =>
       .chk ((0 : Int) ≤ ((i + 2 : Nat) : Int) ∧ ((i + 2 : Nat) : Int) < (s.length : Int)) <| .call (ref1_Hex.f (↑(s.getD ((i + 2 : Nat) : Int).toNat (0 : UInt8)).toNat : Int)) fun (_, y4b) =>
       .br y3b (.br (!y4b) (.ret (.inr (.inr false))) (.ret (.inl ((i + 1 : Nat) : Int)))) (.ret (.inr (.inr false))))
       (.br (!y2) (.ret (.inr (.inr false))) (.ret (.inl ((i + 1 : Nat) : Int)))))
      (.br (!y2) (.ret (.inr (.inr false))) (.ret (.inl ((i + 1 : Nat) : Int)))) : Tr (Int ⊕ (Unit ⊕ Bool))).val = some (addTo i (if okB b more s[i] (s.drop (i + 1)) = true then (.inl 1 : Nat ⊕ (Unit ⊕ Bool)) else .inr (.inr false))) := by
     intro b
     rw [more_loop hm, Tr.val_call rfl]
     by_cases hc : s[i] = 37
     ·rw [show (s[i] == 37) = true from by simp [hc], vtrue]
      by_cases h2 : 2 ≤ (s.drop (i + 1)).length
      ·have h2' : i + 2 < s.length := by simp at h2; omega
       rw [decide_eq_true h2, vtrue, Tr.val_chk (by omega), ref1_Hex_f, Tr.val_call rfl]
       simp only
       rw [Tr.val_chk (by omega), ref1_Hex_f, Tr.val_call rfl, okB_pct hc h2, hg, hg, Int.toNat_natCast, Int.toNat_natCast, Nat.add_zero]
       show (Tr.br (isHex (s.getD (i + 1) 0)) (.br (!isHex (s.getD (i + 2) 0)) _ _) _).val = _
       rw [show i + 1 + 1 = i + 2 from rfl]
       cases isHex (s.getD (i + 1) 0) <;> cases isHex (s.getD (i + 2) 0) <;> rfl
      ·rw [decide_eq_false h2, vfalse, okB_not (fun x => h2 x.2)]
       cases (b || more.contains s[i]) <;> rfl
     ·rw [show (s[i] == 37) = false from by simp [hc], vfalse, okB_not (fun x => hc x.1)]
      cases (b || more.contains s[i]) <;> rfl
    cases hl : isLetter s[i]
    ·rw [vfalse, Tr.val_call rfl, Bool.false_or]
     exact hX (isDigit s[i])
    ·rw [vtrue, Bool.true_or]
     exact hX true
   ·have hkl : i = s.length := by omega
    subst hkl
    simp [ref6_of.L2.t, Tr.val, ofStep, addTo]
 unfold ref6_of.f ref6_of.t
 rw [hL]
 cases ofGo more s <;> rfl
theorem rPath_f {s : List UInt8} (hn : s.length < 1099511627776) : ref6_Path.f s = some (pathS s) := by
 unfold ref6_Path.f ref6_Path.t pathS
 have e := of_f (s := s) (more := innerSigns) (by omega) (by decide)
 rw [of_signs (by decide) _ _ (Nat.le_refl _)] at e
 unfold innerSigns at e ⊢
 rw [e]
 cases s with
 | nil => rfl
 | cons c l =>
  have h47 : ((c.toNat : Int) == 47) = (c == 47) := byte_eqI c 47 (by decide) (by decide)
  rw [show (!((c :: l) == [])) = true from rfl, vtrue, Tr.val_chk (by simp)]
  show (Tr.br ((c.toNat : Int) == 47) _ _).val = _
  rw [h47]
  show _ = some ((c == 47) && _)
  cases (c == 47) <;> rfl
theorem rHost_loop {x : List UInt8} {l : List (List UInt8)} (hn : x.length < 1125899906842624) : ref6_Host.L5.f (x :: l) 0 = some (if signsGo hostSigns false x = true then .inl () else .inr false) := by
 have hs : ∀ y : List UInt8, signsGo hostSigns false y = y.all fun c => isLetter c || isDigit c || hostSigns.contains c := by
  intro y
  induction y with
  | nil => rfl
  | cons c y ih =>
   rw [signsGo_cons, ih, List.all_cons, Bool.or_comm (isDigit c)]
   cases (isLetter c || isDigit c || hostSigns.contains c) <;> simp
 rw [hs]
 unfold ref6_Host.L5.f
 refine (Loop_scan x (fun _ c => if (isLetter c || isDigit c || hostSigns.contains c) = true then none else some (Sum.inr false : Unit ⊕ Bool)) (.inl ()) (fun i c hl hc => ?_) ?_ hn).trans (by rw [scan_all])
 ·have hw := wS (k := i) (by omega)
  have d : decide ((i : Int) < (x.length : Int)) = true := by simp; omega
  have g0 : (x :: l).getD 0 [] = x := rfl
  have q : ∀ m : Int, 0 ≤ m → m < 256 → ((c.toNat : Int) != m) = (c != UInt8.ofNat m.toNat) := fun m h0 h1 => by
   unfold bne; rw [byte_eqI c m h0 h1]
  have e : hostSigns.contains c = !(c != 45 && (c != 46 && (c != 95 && c != 126))) := by
   have := all256 (p := fun c => hostSigns.contains c == !(c != 45 && (c != 46 && (c != 95 && c != 126)))) (by decide +kernel) c
   simpa using this
  unfold ref6_Host.L5.t
  simp only [g0]
  rw [Tr.val_chk (by simp), Tr.val_chk (by simp), d, vtrue, Tr.val_chk (by simp), Tr.val_chk (by simp), Tr.val_chk (by omega), getD_at hl hc, rLetter_f, Tr.val_call rfl, rDigit_f, hw, q 45 (by decide) (by decide), q 46 (by decide) (by decide), q 95 (by decide) (by decide), q 126 (by decide) (by decide), e]
  show (Tr.br (!isLetter c) (.call (some (isDigit c)) fun y2 => .br (!y2) (.br (c != 45) (.br (c != 46) (.br (c != 95) (.br (c != 126) _ _) _) _) _) _) _).val = _
  cases isLetter c <;> cases isDigit c <;> cases (c != 45) <;> cases (c != 46) <;> cases (c != 95) <;> cases (c != 126) <;> rfl
 ·have d : decide ((x.length : Int) < (x.length : Int)) = false := by simp
  have g0 : (x :: l).getD 0 [] = x := rfl
  unfold ref6_Host.L5.t
  simp only [g0]
  rw [Tr.val_chk (by simp), Tr.val_chk (by simp), d]
  rfl
theorem numS_colon {p : List UInt8} (h : p.contains 58 = true) : (numS 10 65535 p).2 ≠ 0 := by
 have : p.all (isDig 10) = false := by
  rw [List.all_eq_false]
  exact ⟨58, by simpa using h, by decide⟩
 simp [numS, this]
theorem rHost_f {s : List UInt8} (hn : s.length < 1073741824) : ref6_Host.f s = some (hostS s) := by
 unfold ref6_Host.f ref6_Host.t hostS
 have e0 : ref1_Split.f s 58 = some (splitC 58 s) := ref1_Split_f (c := 58) hn
 rw [e0, Tr.val_call rfl]
 have fin : ∀ (x : List UInt8) (l : List (List UInt8)), x.length ≤ s.length → ∀ {k : Tr Bool} {v : Bool}, k.val = some v → (Tr.br (decide ((x.length : Int) < 1)) (.ret false) (.chk ((0 : Int) ≤ 0 ∧ (0 : Int) < (((x :: l).length : Nat) : Int)) <| .chk (0 < (x :: l).length) <| .br (decide ((x.length : Int) > 255)) (.ret false) (.okl (x :: l).length <| .both (ref6_Host.L5.f (x :: l) 0) (fun _ => k) (fun y4 => .ret y4)))).val = some (v && !(x == []) && decide (x.length ≤ 255) && signsGo hostSigns false x) := by
  intro x l hx k v hk
  have d1 : decide ((x.length : Int) < 1) = (x == []) := by cases x <;> simp <;> omega
  have d2 : decide ((x.length : Int) > 255) = !decide (x.length ≤ 255) := by
   by_cases h : x.length ≤ 255
   ·rw [decide_eq_true h, decide_eq_false (by omega)]; rfl
   ·rw [decide_eq_false h, decide_eq_true (by omega)]; rfl
  rw [d1, d2, rHost_loop (by omega)]
  cases (x == [])
  ·cases decide (x.length ≤ 255)
   ·rw [vfalse, Tr.val_chk (by simp), Tr.val_chk (by simp)]; simp [Tr.val]
   ·rw [vfalse, Tr.val_chk (by simp), Tr.val_chk (by simp), Bool.not_true, vfalse]
    cases signsGo hostSigns false x
    ·simp [Tr.val]
    ·show k.val = _
     rw [hk]; simp
  ·simp [Tr.val]
 unfold cutC
 by_cases hc : s.contains 58 = true
 ·have hl := before_len hc
  rw [splitC_is hc, if_pos hc]
  simp only
  by_cases hc2 : (after 58 s).contains 58 = true
  ·rw [splitC_is hc2]
   have hlen : decide ((((before 58 s :: before 58 (after 58 s) :: splitC 58 (after 58 (after 58 s))).length : Nat) : Int) > 2) = true := by
    have := List.length_pos_iff.2 (splitC_ne 58 (after 58 (after 58 s)))
    simp; omega
   rw [hlen, vtrue, decide_eq_false (numS_colon hc2)]
   simp [Tr.val]
  ·rw [splitC_not (by simpa using hc2)]
   have hlen : decide ((([before 58 s, after 58 s].length : Nat) : Int) > 2) = false := by simp
   rw [hlen, vfalse, Tr.val_chk (by simp), Tr.val_chk (by simp)]
   refine (fin (before 58 s) [after 58 s] (by omega) (v := decide ((numS 10 65535 (after 58 s)).2 = 0) && decide ((after 58 s).length ≤ 5)) ?_).trans (by simp)
   have hd : ref1_Dec.f (after 58 s) 65535 = some (numS 10 65535 (after 58 s)) := ref1_Dec_f (most := 65535) (by omega) (by omega)
   show (Tr.br ((([before 58 s, after 58 s].length : Nat) : Int) == 1) _ (Tr.chk _ <| Tr.chk _ <| Tr.call (ref1_Dec.f (after 58 s) 65535) _)).val = _
   rw [show ((([before 58 s, after 58 s].length : Nat) : Int) == 1) = false from rfl, vfalse, Tr.val_chk (by simp), Tr.val_chk (by simp), hd, Tr.val_call rfl]
   have d5 : decide ((((after 58 s).length : Nat) : Int) ≤ 5) = decide ((after 58 s).length ≤ 5) := decide_eq_decide.2 (by omega)
   show (Tr.br ((numS 10 65535 (after 58 s)).2 == 0) (Tr.chk _ <| Tr.chk _ <| Tr.ret (decide ((((after 58 s).length : Nat) : Int) ≤ 5))) (Tr.ret false)).val = _
   rw [d5, show ((numS 10 65535 (after 58 s)).2 == 0) = decide ((numS 10 65535 (after 58 s)).2 = 0) from by by_cases h : (numS 10 65535 (after 58 s)).2 = 0 <;> simp [h]]
   cases decide ((numS 10 65535 (after 58 s)).2 = 0)
   ·rfl
   ·rw [vtrue, Tr.val_chk (by simp), Tr.val_chk (by simp)]; simp [Tr.val]
 ·rw [splitC_not (by simpa using hc), if_neg hc]
  have hlen : decide ((([s].length : Nat) : Int) > 2) = false := by simp
  rw [hlen, vfalse, Tr.val_chk (by simp), Tr.val_chk (by simp)]
  refine (fin s [] (Nat.le_refl _) (v := true) ?_).trans (by simp)
  rfl
end Pl
end Go.Vx
end
