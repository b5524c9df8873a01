/- Functions of the program, told as plain functions. (A help: no statement of the seat is proved here.) -/
import Derived.Test.YtgmlklaehklmoaaLine
set_option maxRecDepth 1000000
set_option linter.unusedVariables false
namespace Go.Vx
open Go Go.Vx Go.Proofs
namespace law6_known
def D : Dom := ⟨[], .nil⟩
def A : Dom := ⟨[], .bool⟩
def sel : List Nat := []
def t  : Tr (Bool) :=
  .call (line_New.f (5 : Int)) fun y1 =>
  .ok ((0 : Nat) = (0 : Nat) ∧ y1.snd.snd.snd.snd.length = y1.snd.snd.snd.snd.length) ⟨rfl, rfl⟩ <| .call (line_Reader_Byte.f (0 : Int) y1.fst y1.snd.fst y1.snd.snd.fst y1.snd.snd.snd.fst y1.snd.snd.snd.snd (120 : Int)) fun y2 =>
  .ok ((0 : Nat) = (0 : Nat) ∧ y2.snd.snd.snd.fst.length = y2.snd.snd.snd.fst.length) ⟨rfl, rfl⟩ <| .call (line_Reader_Byte.f (0 : Int) y1.fst y2.fst y2.snd.fst y2.snd.snd.fst y2.snd.snd.snd.fst (13 : Int)) fun y3 =>
  .ok ((0 : Nat) = (0 : Nat) ∧ y3.snd.snd.snd.fst.length = y3.snd.snd.snd.fst.length) ⟨rfl, rfl⟩ <| .call (line_Reader_Len.f y3.snd.fst y3.snd.snd.snd.fst) fun y4 =>
  .ok ((0 : Nat) = (0 : Nat) ∧ y3.snd.snd.snd.fst.length = y3.snd.snd.snd.fst.length) ⟨rfl, rfl⟩ <| .call (line_Reader_Pending.f y3.snd.snd.snd.fst) fun y5 =>
  .ok ((0 : Nat) = (0 : Nat) ∧ y3.snd.snd.snd.fst.length = y3.snd.snd.snd.fst.length) ⟨rfl, rfl⟩ <| .call (line_Reader_Byte.f (0 : Int) y1.fst y3.fst y3.snd.fst y3.snd.snd.fst y3.snd.snd.snd.fst (10 : Int)) fun y6 =>
  .ok ((0 : Nat) = (0 : Nat) ∧ y6.snd.snd.snd.fst.length = y6.snd.snd.snd.fst.length) ⟨rfl, rfl⟩ <| .call (line_Reader_Line.f y6.snd.fst y6.snd.snd.fst y6.snd.snd.snd.fst) fun y7 =>
  .call (line_New.f (5 : Int)) fun y8 =>
  .ok ((0 : Nat) = (0 : Nat) ∧ y8.snd.snd.snd.snd.length = y8.snd.snd.snd.snd.length) ⟨rfl, rfl⟩ <| .call (line_Reader_Byte.f (6 : Int) y8.fst y8.snd.fst y8.snd.snd.fst y8.snd.snd.snd.fst y8.snd.snd.snd.snd (10 : Int)) fun y9 =>
  .ok ((0 : Nat) = (0 : Nat) ∧ y9.snd.snd.snd.fst.length = y9.snd.snd.snd.fst.length) ⟨rfl, rfl⟩ <| .call (line_Reader_Byte.f (6 : Int) y8.fst y9.fst y9.snd.fst y9.snd.snd.fst y9.snd.snd.snd.fst (13 : Int)) fun y10 =>
  .ok ((0 : Nat) = (0 : Nat) ∧ y10.snd.snd.snd.fst.length = y10.snd.snd.snd.fst.length) ⟨rfl, rfl⟩ <| .call (line_Reader_Byte.f (6 : Int) y8.fst y10.fst y10.snd.fst y10.snd.snd.fst y10.snd.snd.snd.fst (121 : Int)) fun y11 =>
  .br (y2.snd.snd.snd.snd == (0 : Int)) (.br (y3.snd.snd.snd.snd == (0 : Int)) (.br (y4 == (1 : Int)) (.br y3.fst (.br (y6.snd.snd.snd.snd == (1 : Int)) (.br (y7 == [(120 : UInt8)]) (.br (y9.snd.snd.snd.snd == (1 : Int)) (.br (y11.snd.snd.snd.snd == (2 : Int)) (.ok ((0 : Nat) = (0 : Nat) ∧ y6.snd.snd.snd.fst.length = y6.snd.snd.snd.fst.length) ⟨rfl, rfl⟩ <| .call (line_Reader_Byte.f (0 : Int) y1.fst y6.fst y6.snd.fst y6.snd.snd.fst y6.snd.snd.snd.fst (10 : Int)) fun y12 =>
          .br (y12.snd.snd.snd.snd == (3 : Int)) (.ret true)
          (.ret false))
         (.ret false))
        (.ret false))
       (.ret false))
      (.ret false))
     (.ret false))
    (.ret false))
   (.ret false))
  (.ret false)
def f  : Option (Bool) := (t ).val
def F (x : D.den) : Option (Bool) := f 
def pa : D.den → (Bool) → A.den := fun (_, _) y1 => ((), y1)
def con : Con := tcon D A pa F
theorem vc  (qa : A.den → Prop) (qb : con.B.den → Prop) : con.run Try.prog bk_ref6_New 9 [] 24 (fun _ => true) ((), ()) qa qb = (t ).wp (fun y => qa (pa ((), ()) y)) := by kernel_rfl
theorem ok : ConOk Try.prog 24 con := tcon_ok Base.mixed Base.prog_ok bk_ref6_New_ok (by kernel_rfl) LapsOk.nil 9 (fun _ => rfl) (fun x => t ) (fun _ => rfl) fun x qa qb => vc  qa qb
end law6_known
def bk_law6_known : Book := bk_ref6_New.add 24 law6_known.con
theorem bk_law6_known_ok : BookOk Try.prog bk_law6_known := bk_ref6_New_ok.add law6_known.ok
namespace law6_LineBares
def D : Dom := ⟨[], (.cat (.vec .byte) (.cat .bool (.cat .bool .byte)))⟩
namespace L6
def D : Dom := ⟨[], (.cat (.vec .byte) (.cat .bool (.cat .bool (.cat (.int .u8) (.int .i64)))))⟩
def A : Dom := ⟨[], (.cat (.vec .byte) (.cat .bool (.cat .bool (.int .u8))))⟩
def B : Dom := ⟨[], .bool⟩
def sel : List Nat := [0, 4]
def t (s : List UInt8) (i : Int) : Tr ((Int) ⊕ ((Unit) ⊕ (Bool))) :=
  .br (decide (i < (↑s.length : Int))) (.chk ((0 : Int) ≤ i ∧ i < (↑s.length : Int)) <| .chk (i.toNat < s.length) <| .br ((↑(UInt8.toNat (s.getD i.toNat (0 : UInt8))) : Int) == (10 : Int)) (.ret (.inr (.inr true)))
   (.chk ((0 : Int) ≤ i ∧ i < (↑s.length : Int)) <| .chk (i.toNat < s.length) <| .br ((↑(UInt8.toNat (s.getD i.toNat (0 : UInt8))) : Int) == (13 : Int)) (.ret (.inr (.inr true)))
    (.ret (.inl (IntKind.i64.wrap (i + (1 : Int)))))))
  (.ret (.inr (.inl ())))
def f (s : List UInt8) (i : Int) : Option ((Unit) ⊕ (Bool)) := Loop (fun z : Int => t s z) i
def F (x : D.den) : Option ((Unit) ⊕ (Bool)) := f x.2.1 x.2.2.2.2.2
def pa : D.den → (Unit) → A.den := fun (_, (s, (lf, (cr, (c, _))))) _ => ((), (s, (lf, (cr, c))))
def pb : D.den → (Bool) → B.den := fun (_, (_, (_, (_, (_, _))))) y1 => ((), y1)
def lap : Lap := tlap2 6 126 [0, 1, 2, 3, 9] D (.exit 0) [0, 1, 2, 3] A .ret [8] B pa pb F
def pk (x : D.den) (z : Int) : D.den := ((), (x.2.1, (x.2.2.1, (x.2.2.2.1, (x.2.2.2.2.1, z)))))
def un (x : D.den) : Int := x.2.2.2.2.2
def body (x : D.den) (z : Int) : Tr ((Int) ⊕ ((Unit) ⊕ (Bool))) := t x.2.1 z
theorem vc (s : List UInt8) (lf : Bool) (cr : Bool) (c : Int) (i : Int) (again : D.den → Prop) (qa : A.den → Prop) (qb : lap.B.den → Prop) : lap.run Try.prog bk_law6_known 9 0 [] 10 ((), (s, (lf, (cr, (c, i))))) again qa qb = (t s i).wp (fun r => match r with
    | .inl z => again (pk ((), (s, (lf, (cr, (c, i))))) z)
    | .inr (.inl a) => qa (pa ((), (s, (lf, (cr, (c, i))))) a)
    | .inr (.inr a) => qb (pb ((), (s, (lf, (cr, (c, i))))) a)) := by kernel_rfl
theorem ok : LapOk Try.prog 0 (codeOf Try.prog 10) lap := tlap2_ok Base.mixed Base.prog_ok bk_law6_known_ok (by kernel_rfl) (by kernel_rfl) LapsOk.nil 9 pk un body (fun _ _ => rfl) (fun _ _ => rfl) (fun _ _ => rfl) (fun _ _ => rfl) (fun _ => rfl) fun x again qa qb => vc x.2.1 x.2.2.1 x.2.2.2.1 x.2.2.2.2.1 x.2.2.2.2.2 again qa qb
end L6
namespace L17
def D : Dom := ⟨[.cells (.cat (.int .u32) (.cat (.int .i64) (.cat (.sl 1 1) (.cat .bool (.cat .bool .bool))))) 72 false, .vec .byte 5 false, .cells (.cat (.int .u32) (.cat (.int .i64) (.cat (.sl 3 1) (.cat .bool (.cat .bool .bool))))) 72 false, .vec .byte 5 false], (.cat (.vec .byte) (.cat .bool (.cat .bool (.cat (.int .u8) (.cat (.ptr 0 0 0 0) (.cat (.ptr 2 0 0 0) (.int .i64)))))))⟩
def A : Dom := ⟨[.cells (.cat (.int .u32) (.cat (.int .i64) (.cat (.sl 1 1) (.cat .bool (.cat .bool .bool))))) 72 false, .vec .byte 5 false, .cells (.cat (.int .u32) (.cat (.int .i64) (.cat (.sl 3 1) (.cat .bool (.cat .bool .bool))))) 72 false, .vec .byte 5 false], (.cat (.vec .byte) (.cat .bool (.cat .bool (.cat (.int .u8) (.cat (.ptr 0 0 0 0) (.ptr 2 0 0 0))))))⟩
def sel : List Nat := [0, 1, 2, 3, 4, 5, 6, 7, 8, 9, 10, 11, 12, 16]
def t (p : Int) (most : Int) (pending : Bool) (over : Bool) (bad : Bool) (b : List UInt8) (p_2 : Int) (most_2 : Int) (pending_2 : Bool) (over_2 : Bool) (bad_2 : Bool) (b_2 : List UInt8) (s : List UInt8) (i : Int) : Tr ((Bool × Bool × Bool × List UInt8 × Bool × Bool × Bool × List UInt8 × Int) ⊕ (Bool × Bool × Bool × List UInt8 × Bool × Bool × Bool × List UInt8)) :=
  .br (decide (i < (↑s.length : Int))) (.chk ((0 : Int) ≤ i ∧ i < (↑s.length : Int)) <| .chk (i.toNat < s.length) <| .ok ((0 : Nat) = (0 : Nat) ∧ b.length = b.length) ⟨rfl, rfl⟩ <| .call (line_Reader_Byte.f p most pending over bad b (↑(UInt8.toNat (s.getD i.toNat (0 : UInt8))) : Int)) fun y1 =>
   .chk ((0 : Int) ≤ i ∧ i < (↑s.length : Int)) <| .chk (i.toNat < s.length) <| .ok ((0 : Nat) = (0 : Nat) ∧ b_2.length = b_2.length) ⟨rfl, rfl⟩ <| .call (line_Reader_Byte.f p_2 most_2 pending_2 over_2 bad_2 b_2 (↑(UInt8.toNat (s.getD i.toNat (0 : UInt8))) : Int)) fun y2 =>
   .ok ((0 : Nat) = (0 : Nat) ∧ y1.snd.snd.snd.fst.length = y1.snd.snd.snd.fst.length) ⟨rfl, rfl⟩ <| .ok ((0 : Nat) = (0 : Nat) ∧ y2.snd.snd.snd.fst.length = y2.snd.snd.snd.fst.length) ⟨rfl, rfl⟩ <| .ret (.inl (y1.fst, y1.snd.fst, y1.snd.snd.fst, y1.snd.snd.snd.fst, y2.fst, y2.snd.fst, y2.snd.snd.fst, y2.snd.snd.snd.fst, IntKind.i64.wrap (i + (1 : Int)))))
  (.ok ((0 : Nat) = (0 : Nat) ∧ b.length = b.length) ⟨rfl, rfl⟩ <| .ok ((0 : Nat) = (0 : Nat) ∧ b_2.length = b_2.length) ⟨rfl, rfl⟩ <| .ret (.inr (pending, over, bad, b, pending_2, over_2, bad_2, b_2)))
def f (p : Int) (most : Int) (pending : Bool) (over : Bool) (bad : Bool) (b : List UInt8) (p_2 : Int) (most_2 : Int) (pending_2 : Bool) (over_2 : Bool) (bad_2 : Bool) (b_2 : List UInt8) (s : List UInt8) (i : Int) : Option (Bool × Bool × Bool × List UInt8 × Bool × Bool × Bool × List UInt8) := Loop (fun z : Bool × Bool × Bool × List UInt8 × Bool × Bool × Bool × List UInt8 × Int => t p most z.1 z.2.1 z.2.2.1 z.2.2.2.1 p_2 most_2 z.2.2.2.2.1 z.2.2.2.2.2.1 z.2.2.2.2.2.2.1 z.2.2.2.2.2.2.2.1 s z.2.2.2.2.2.2.2.2) (pending, over, bad, b, pending_2, over_2, bad_2, b_2, i)
def F (x : D.den) : Option (Bool × Bool × Bool × List UInt8 × Bool × Bool × Bool × List UInt8) := f x.1.1.1 x.1.1.2.1 x.1.1.2.2.2.1 x.1.1.2.2.2.2.1 x.1.1.2.2.2.2.2 x.1.2.1 x.1.2.2.1.1 x.1.2.2.1.2.1 x.1.2.2.1.2.2.2.1 x.1.2.2.1.2.2.2.2.1 x.1.2.2.1.2.2.2.2.2 x.1.2.2.2.1 x.2.1 x.2.2.2.2.2.2.2
def pa : D.den → (Bool × Bool × Bool × List UInt8 × Bool × Bool × Bool × List UInt8) → A.den := fun (((p, (most, (_, (_, (_, _))))), (_, ((p_2, (most_2, (_, (_, (_, _))))), (_, _)))), (s, (lf, (cr, (c, (_, (_, _))))))) (y1, y2, y3, y4, y5, y6, y7, y8) => (((p, (most, ((), (y1, (y2, y3))))), (y4, ((p_2, (most_2, ((), (y5, (y6, y7))))), (y8, ())))), (s, (lf, (cr, (c, ((), ()))))))
def lap : Lap := tlap 17 126 [0, 1, 2, 3, 11, 12, 13] D (.exit 2) [0, 1, 2, 3, 11, 12] A pa F
def pk (x : D.den) (z : Bool × Bool × Bool × List UInt8 × Bool × Bool × Bool × List UInt8 × Int) : D.den := (((x.1.1.1, (x.1.1.2.1, ((), (z.1, (z.2.1, z.2.2.1))))), (z.2.2.2.1, ((x.1.2.2.1.1, (x.1.2.2.1.2.1, ((), (z.2.2.2.2.1, (z.2.2.2.2.2.1, z.2.2.2.2.2.2.1))))), (z.2.2.2.2.2.2.2.1, ())))), (x.2.1, (x.2.2.1, (x.2.2.2.1, (x.2.2.2.2.1, ((), ((), z.2.2.2.2.2.2.2.2)))))))
def un (x : D.den) : Bool × Bool × Bool × List UInt8 × Bool × Bool × Bool × List UInt8 × Int := (x.1.1.2.2.2.1, x.1.1.2.2.2.2.1, x.1.1.2.2.2.2.2, x.1.2.1, x.1.2.2.1.2.2.2.1, x.1.2.2.1.2.2.2.2.1, x.1.2.2.1.2.2.2.2.2, x.1.2.2.2.1, x.2.2.2.2.2.2.2)
def body (x : D.den) (z : Bool × Bool × Bool × List UInt8 × Bool × Bool × Bool × List UInt8 × Int) : Tr ((Bool × Bool × Bool × List UInt8 × Bool × Bool × Bool × List UInt8 × Int) ⊕ (Bool × Bool × Bool × List UInt8 × Bool × Bool × Bool × List UInt8)) := t x.1.1.1 x.1.1.2.1 z.1 z.2.1 z.2.2.1 z.2.2.2.1 x.1.2.2.1.1 x.1.2.2.1.2.1 z.2.2.2.2.1 z.2.2.2.2.2.1 z.2.2.2.2.2.2.1 z.2.2.2.2.2.2.2.1 x.2.1 z.2.2.2.2.2.2.2.2
theorem vc (p : Int) (most : Int) (pending : Bool) (over : Bool) (bad : Bool) (b : List UInt8) (p_2 : Int) (most_2 : Int) (pending_2 : Bool) (over_2 : Bool) (bad_2 : Bool) (b_2 : List UInt8) (s : List UInt8) (lf : Bool) (cr : Bool) (c : Int) (i : Int) (again : D.den → Prop) (qa : A.den → Prop) (qb : lap.B.den → Prop) : lap.run Try.prog bk_law6_known 9 0 [] 10 (((p, (most, ((), (pending, (over, bad))))), (b, ((p_2, (most_2, ((), (pending_2, (over_2, bad_2))))), (b_2, ())))), (s, (lf, (cr, (c, ((), ((), i))))))) again qa qb = (t p most pending over bad b p_2 most_2 pending_2 over_2 bad_2 b_2 s i).wp (fun r => match r with
    | .inl z => again (pk (((p, (most, ((), (pending, (over, bad))))), (b, ((p_2, (most_2, ((), (pending_2, (over_2, bad_2))))), (b_2, ())))), (s, (lf, (cr, (c, ((), ((), i))))))) z)
    | .inr a => qa (pa (((p, (most, ((), (pending, (over, bad))))), (b, ((p_2, (most_2, ((), (pending_2, (over_2, bad_2))))), (b_2, ())))), (s, (lf, (cr, (c, ((), ((), i))))))) a)) := by kernel_rfl
theorem ok : LapOk Try.prog 0 (codeOf Try.prog 10) lap := tlap_ok Base.mixed Base.prog_ok bk_law6_known_ok (by kernel_rfl) (by kernel_rfl) LapsOk.nil 9 pk un body (fun _ _ => rfl) (fun _ _ => rfl) (fun _ _ => rfl) (fun _ => rfl) fun x again qa qb => vc x.1.1.1 x.1.1.2.1 x.1.1.2.2.2.1 x.1.1.2.2.2.2.1 x.1.1.2.2.2.2.2 x.1.2.1 x.1.2.2.1.1 x.1.2.2.1.2.1 x.1.2.2.1.2.2.2.1 x.1.2.2.1.2.2.2.2.1 x.1.2.2.1.2.2.2.2.2 x.1.2.2.2.1 x.2.1 x.2.2.1 x.2.2.2.1 x.2.2.2.2.1 x.2.2.2.2.2.2.2 again qa qb
end L17
def A : Dom := ⟨[], .bool⟩
def sel : List Nat := [0, 1, 2, 3]
def t (s : List UInt8) (lf : Bool) (cr : Bool) (c : UInt8) : Tr (Bool) :=
  .call (law6_known.f) fun y1 =>
  .br (!y1) (.ret false)
  (.br (decide ((↑s.length : Int) > (30 : Int))) (.ret true)
   (.br (Int.ofNat c.toNat == (10 : Int)) (.ret true)
    (.br (Int.ofNat c.toNat == (13 : Int)) (.ret true)
     (.both (law6_LineBares.L6.f s (0 : Int)) (fun y2 => .br lf (.br cr (.call (line_New.f (30 : Int)) fun y3 =>
         .call (line_New.f (30 : Int)) fun y4 =>
         .ok ((0 : Nat) = (0 : Nat) ∧ y3.snd.snd.snd.snd.length = y3.snd.snd.snd.snd.length) ⟨rfl, rfl⟩ <| .ok ((0 : Nat) = (0 : Nat) ∧ y4.snd.snd.snd.snd.length = y4.snd.snd.snd.snd.length) ⟨rfl, rfl⟩ <| .call (law6_LineBares.L17.f (6 : Int) y3.fst y3.snd.fst y3.snd.snd.fst y3.snd.snd.snd.fst y3.snd.snd.snd.snd (6 : Int) y4.fst y4.snd.fst y4.snd.snd.fst y4.snd.snd.snd.fst y4.snd.snd.snd.snd s (0 : Int)) fun y5 =>
         .ok ((0 : Nat) = (0 : Nat) ∧ y5.snd.snd.snd.fst.length = y5.snd.snd.snd.fst.length) ⟨rfl, rfl⟩ <| .call (line_Reader_Byte.f (6 : Int) y3.fst y5.fst y5.snd.fst y5.snd.snd.fst y5.snd.snd.snd.fst (10 : Int)) fun y6 =>
         .ok ((0 : Nat) = (0 : Nat) ∧ y5.snd.snd.snd.snd.snd.snd.snd.length = y5.snd.snd.snd.snd.snd.snd.snd.length) ⟨rfl, rfl⟩ <| .call (line_Reader_Byte.f (6 : Int) y4.fst y5.snd.snd.snd.snd.fst y5.snd.snd.snd.snd.snd.fst y5.snd.snd.snd.snd.snd.snd.fst y5.snd.snd.snd.snd.snd.snd.snd (13 : Int)) fun y7 =>
         .ok ((0 : Nat) = (0 : Nat) ∧ y7.snd.snd.snd.fst.length = y7.snd.snd.snd.fst.length) ⟨rfl, rfl⟩ <| .call (line_Reader_Byte.f (6 : Int) y4.fst y7.fst y7.snd.fst y7.snd.snd.fst y7.snd.snd.snd.fst (Int.ofNat c.toNat)) fun y8 =>
         .br (y6.snd.snd.snd.snd == (1 : Int)) (.ok ((0 : Nat) = (0 : Nat) ∧ y6.snd.snd.snd.fst.length = y6.snd.snd.snd.fst.length) ⟨rfl, rfl⟩ <| .call (line_Reader_Line.f y6.snd.fst y6.snd.snd.fst y6.snd.snd.snd.fst) fun y9 =>
          .br (!lf == (y9 == s)) (.ret false)
          (.br (!lf) (.br (y6.snd.snd.snd.snd != (3 : Int)) (.ret false)
            (.br (y7.snd.snd.snd.snd == (0 : Int)) (.br cr (.br (y8.snd.snd.snd.snd == (2 : Int)) (.ok ((0 : Nat) = (0 : Nat) ∧ y8.snd.snd.snd.fst.length = y8.snd.snd.snd.fst.length) ⟨rfl, rfl⟩ <| .call (line_Reader_Line.f y8.snd.fst y8.snd.snd.fst y8.snd.snd.snd.fst) fun y10 =>
                .br (y10 == s) (.ret true)
                (.br (!cr) (.ret (y8.snd.snd.snd.snd == (3 : Int)))
                 (.ret false)))
               (.br (!cr) (.ret (y8.snd.snd.snd.snd == (3 : Int)))
                (.ret false)))
              (.br (!cr) (.ret (y8.snd.snd.snd.snd == (3 : Int)))
               (.ret false)))
             (.ret false)))
           (.br (y7.snd.snd.snd.snd == (0 : Int)) (.br cr (.br (y8.snd.snd.snd.snd == (2 : Int)) (.ok ((0 : Nat) = (0 : Nat) ∧ y8.snd.snd.snd.fst.length = y8.snd.snd.snd.fst.length) ⟨rfl, rfl⟩ <| .call (line_Reader_Line.f y8.snd.fst y8.snd.snd.fst y8.snd.snd.snd.fst) fun y11 =>
               .br (y11 == s) (.ret true)
               (.br (!cr) (.ret (y8.snd.snd.snd.snd == (3 : Int)))
                (.ret false)))
              (.br (!cr) (.ret (y8.snd.snd.snd.snd == (3 : Int)))
               (.ret false)))
             (.br (!cr) (.ret (y8.snd.snd.snd.snd == (3 : Int)))
              (.ret false)))
            (.ret false))))
         (.br (!lf == false) (.ret false)
          (.br (!lf) (.br (y6.snd.snd.snd.snd != (3 : Int)) (.ret false)
            (.br (y7.snd.snd.snd.snd == (0 : Int)) (.br cr (.br (y8.snd.snd.snd.snd == (2 : Int)) (.ok ((0 : Nat) = (0 : Nat) ∧ y8.snd.snd.snd.fst.length = y8.snd.snd.snd.fst.length) ⟨rfl, rfl⟩ <| .call (line_Reader_Line.f y8.snd.fst y8.snd.snd.fst y8.snd.snd.snd.fst) fun y12 =>
                .br (y12 == s) (.ret true)
                (.br (!cr) (.ret (y8.snd.snd.snd.snd == (3 : Int)))
                 (.ret false)))
               (.br (!cr) (.ret (y8.snd.snd.snd.snd == (3 : Int)))
                (.ret false)))
              (.br (!cr) (.ret (y8.snd.snd.snd.snd == (3 : Int)))
               (.ret false)))
             (.ret false)))
           (.br (y7.snd.snd.snd.snd == (0 : Int)) (.br cr (.br (y8.snd.snd.snd.snd == (2 : Int)) (.ok ((0 : Nat) = (0 : Nat) ∧ y8.snd.snd.snd.fst.length = y8.snd.snd.snd.fst.length) ⟨rfl, rfl⟩ <| .call (line_Reader_Line.f y8.snd.fst y8.snd.snd.fst y8.snd.snd.snd.fst) fun y13 =>
               .br (y13 == s) (.ret true)
               (.br (!cr) (.ret (y8.snd.snd.snd.snd == (3 : Int)))
                (.ret false)))
              (.br (!cr) (.ret (y8.snd.snd.snd.snd == (3 : Int)))
               (.ret false)))
             (.br (!cr) (.ret (y8.snd.snd.snd.snd == (3 : Int)))
              (.ret false)))
            (.ret false)))))
        (.call (line_New.f (30 : Int)) fun y14 =>
         .call (line_New.f (30 : Int)) fun y15 =>
         .ok ((0 : Nat) = (0 : Nat) ∧ y14.snd.snd.snd.snd.length = y14.snd.snd.snd.snd.length) ⟨rfl, rfl⟩ <| .ok ((0 : Nat) = (0 : Nat) ∧ y15.snd.snd.snd.snd.length = y15.snd.snd.snd.snd.length) ⟨rfl, rfl⟩ <| .call (law6_LineBares.L17.f (2 : Int) y14.fst y14.snd.fst y14.snd.snd.fst y14.snd.snd.snd.fst y14.snd.snd.snd.snd (2 : Int) y15.fst y15.snd.fst y15.snd.snd.fst y15.snd.snd.snd.fst y15.snd.snd.snd.snd s (0 : Int)) fun y16 =>
         .ok ((0 : Nat) = (0 : Nat) ∧ y16.snd.snd.snd.fst.length = y16.snd.snd.snd.fst.length) ⟨rfl, rfl⟩ <| .call (line_Reader_Byte.f (2 : Int) y14.fst y16.fst y16.snd.fst y16.snd.snd.fst y16.snd.snd.snd.fst (10 : Int)) fun y17 =>
         .ok ((0 : Nat) = (0 : Nat) ∧ y16.snd.snd.snd.snd.snd.snd.snd.length = y16.snd.snd.snd.snd.snd.snd.snd.length) ⟨rfl, rfl⟩ <| .call (line_Reader_Byte.f (2 : Int) y15.fst y16.snd.snd.snd.snd.fst y16.snd.snd.snd.snd.snd.fst y16.snd.snd.snd.snd.snd.snd.fst y16.snd.snd.snd.snd.snd.snd.snd (13 : Int)) fun y18 =>
         .ok ((0 : Nat) = (0 : Nat) ∧ y18.snd.snd.snd.fst.length = y18.snd.snd.snd.fst.length) ⟨rfl, rfl⟩ <| .call (line_Reader_Byte.f (2 : Int) y15.fst y18.fst y18.snd.fst y18.snd.snd.fst y18.snd.snd.snd.fst (Int.ofNat c.toNat)) fun y19 =>
         .br (y17.snd.snd.snd.snd == (1 : Int)) (.ok ((0 : Nat) = (0 : Nat) ∧ y17.snd.snd.snd.fst.length = y17.snd.snd.snd.fst.length) ⟨rfl, rfl⟩ <| .call (line_Reader_Line.f y17.snd.fst y17.snd.snd.fst y17.snd.snd.snd.fst) fun y20 =>
          .br (!lf == (y20 == s)) (.ret false)
          (.br (!lf) (.br (y17.snd.snd.snd.snd != (3 : Int)) (.ret false)
            (.br (y18.snd.snd.snd.snd == (0 : Int)) (.br cr (.br (y19.snd.snd.snd.snd == (2 : Int)) (.ok ((0 : Nat) = (0 : Nat) ∧ y19.snd.snd.snd.fst.length = y19.snd.snd.snd.fst.length) ⟨rfl, rfl⟩ <| .call (line_Reader_Line.f y19.snd.fst y19.snd.snd.fst y19.snd.snd.snd.fst) fun y21 =>
                .br (y21 == s) (.ret true)
                (.br (!cr) (.ret (y19.snd.snd.snd.snd == (3 : Int)))
                 (.ret false)))
               (.br (!cr) (.ret (y19.snd.snd.snd.snd == (3 : Int)))
                (.ret false)))
              (.br (!cr) (.ret (y19.snd.snd.snd.snd == (3 : Int)))
               (.ret false)))
             (.ret false)))
           (.br (y18.snd.snd.snd.snd == (0 : Int)) (.br cr (.br (y19.snd.snd.snd.snd == (2 : Int)) (.ok ((0 : Nat) = (0 : Nat) ∧ y19.snd.snd.snd.fst.length = y19.snd.snd.snd.fst.length) ⟨rfl, rfl⟩ <| .call (line_Reader_Line.f y19.snd.fst y19.snd.snd.fst y19.snd.snd.snd.fst) fun y22 =>
               .br (y22 == s) (.ret true)
               (.br (!cr) (.ret (y19.snd.snd.snd.snd == (3 : Int)))
                (.ret false)))
              (.br (!cr) (.ret (y19.snd.snd.snd.snd == (3 : Int)))
               (.ret false)))
             (.br (!cr) (.ret (y19.snd.snd.snd.snd == (3 : Int)))
              (.ret false)))
            (.ret false))))
         (.br (!lf == false) (.ret false)
          (.br (!lf) (.br (y17.snd.snd.snd.snd != (3 : Int)) (.ret false)
            (.br (y18.snd.snd.snd.snd == (0 : Int)) (.br cr (.br (y19.snd.snd.snd.snd == (2 : Int)) (.ok ((0 : Nat) = (0 : Nat) ∧ y19.snd.snd.snd.fst.length = y19.snd.snd.snd.fst.length) ⟨rfl, rfl⟩ <| .call (line_Reader_Line.f y19.snd.fst y19.snd.snd.fst y19.snd.snd.snd.fst) fun y23 =>
                .br (y23 == s) (.ret true)
                (.br (!cr) (.ret (y19.snd.snd.snd.snd == (3 : Int)))
                 (.ret false)))
               (.br (!cr) (.ret (y19.snd.snd.snd.snd == (3 : Int)))
                (.ret false)))
              (.br (!cr) (.ret (y19.snd.snd.snd.snd == (3 : Int)))
               (.ret false)))
             (.ret false)))
           (.br (y18.snd.snd.snd.snd == (0 : Int)) (.br cr (.br (y19.snd.snd.snd.snd == (2 : Int)) (.ok ((0 : Nat) = (0 : Nat) ∧ y19.snd.snd.snd.fst.length = y19.snd.snd.snd.fst.length) ⟨rfl, rfl⟩ <| .call (line_Reader_Line.f y19.snd.fst y19.snd.snd.fst y19.snd.snd.snd.fst) fun y24 =>
               .br (y24 == s) (.ret true)
               (.br (!cr) (.ret (y19.snd.snd.snd.snd == (3 : Int)))
                (.ret false)))
              (.br (!cr) (.ret (y19.snd.snd.snd.snd == (3 : Int)))
               (.ret false)))
             (.br (!cr) (.ret (y19.snd.snd.snd.snd == (3 : Int)))
              (.ret false)))
            (.ret false))))))
       (.br cr (.call (line_New.f (30 : Int)) fun y25 =>
         .call (line_New.f (30 : Int)) fun y26 =>
         .ok ((0 : Nat) = (0 : Nat) ∧ y25.snd.snd.snd.snd.length = y25.snd.snd.snd.snd.length) ⟨rfl, rfl⟩ <| .ok ((0 : Nat) = (0 : Nat) ∧ y26.snd.snd.snd.snd.length = y26.snd.snd.snd.snd.length) ⟨rfl, rfl⟩ <| .call (law6_LineBares.L17.f (4 : Int) y25.fst y25.snd.fst y25.snd.snd.fst y25.snd.snd.snd.fst y25.snd.snd.snd.snd (4 : Int) y26.fst y26.snd.fst y26.snd.snd.fst y26.snd.snd.snd.fst y26.snd.snd.snd.snd s (0 : Int)) fun y27 =>
         .ok ((0 : Nat) = (0 : Nat) ∧ y27.snd.snd.snd.fst.length = y27.snd.snd.snd.fst.length) ⟨rfl, rfl⟩ <| .call (line_Reader_Byte.f (4 : Int) y25.fst y27.fst y27.snd.fst y27.snd.snd.fst y27.snd.snd.snd.fst (10 : Int)) fun y28 =>
         .ok ((0 : Nat) = (0 : Nat) ∧ y27.snd.snd.snd.snd.snd.snd.snd.length = y27.snd.snd.snd.snd.snd.snd.snd.length) ⟨rfl, rfl⟩ <| .call (line_Reader_Byte.f (4 : Int) y26.fst y27.snd.snd.snd.snd.fst y27.snd.snd.snd.snd.snd.fst y27.snd.snd.snd.snd.snd.snd.fst y27.snd.snd.snd.snd.snd.snd.snd (13 : Int)) fun y29 =>
         .ok ((0 : Nat) = (0 : Nat) ∧ y29.snd.snd.snd.fst.length = y29.snd.snd.snd.fst.length) ⟨rfl, rfl⟩ <| .call (line_Reader_Byte.f (4 : Int) y26.fst y29.fst y29.snd.fst y29.snd.snd.fst y29.snd.snd.snd.fst (Int.ofNat c.toNat)) fun y30 =>
         .br (y28.snd.snd.snd.snd == (1 : Int)) (.ok ((0 : Nat) = (0 : Nat) ∧ y28.snd.snd.snd.fst.length = y28.snd.snd.snd.fst.length) ⟨rfl, rfl⟩ <| .call (line_Reader_Line.f y28.snd.fst y28.snd.snd.fst y28.snd.snd.snd.fst) fun y31 =>
          .br (!lf == (y31 == s)) (.ret false)
          (.br (!lf) (.br (y28.snd.snd.snd.snd != (3 : Int)) (.ret false)
            (.br (y29.snd.snd.snd.snd == (0 : Int)) (.br cr (.br (y30.snd.snd.snd.snd == (2 : Int)) (.ok ((0 : Nat) = (0 : Nat) ∧ y30.snd.snd.snd.fst.length = y30.snd.snd.snd.fst.length) ⟨rfl, rfl⟩ <| .call (line_Reader_Line.f y30.snd.fst y30.snd.snd.fst y30.snd.snd.snd.fst) fun y32 =>
                .br (y32 == s) (.ret true)
                (.br (!cr) (.ret (y30.snd.snd.snd.snd == (3 : Int)))
                 (.ret false)))
               (.br (!cr) (.ret (y30.snd.snd.snd.snd == (3 : Int)))
                (.ret false)))
              (.br (!cr) (.ret (y30.snd.snd.snd.snd == (3 : Int)))
               (.ret false)))
             (.ret false)))
           (.br (y29.snd.snd.snd.snd == (0 : Int)) (.br cr (.br (y30.snd.snd.snd.snd == (2 : Int)) (.ok ((0 : Nat) = (0 : Nat) ∧ y30.snd.snd.snd.fst.length = y30.snd.snd.snd.fst.length) ⟨rfl, rfl⟩ <| .call (line_Reader_Line.f y30.snd.fst y30.snd.snd.fst y30.snd.snd.snd.fst) fun y33 =>
               .br (y33 == s) (.ret true)
               (.br (!cr) (.ret (y30.snd.snd.snd.snd == (3 : Int)))
                (.ret false)))
              (.br (!cr) (.ret (y30.snd.snd.snd.snd == (3 : Int)))
               (.ret false)))
             (.br (!cr) (.ret (y30.snd.snd.snd.snd == (3 : Int)))
              (.ret false)))
            (.ret false))))
         (.br (!lf == false) (.ret false)
          (.br (!lf) (.br (y28.snd.snd.snd.snd != (3 : Int)) (.ret false)
            (.br (y29.snd.snd.snd.snd == (0 : Int)) (.br cr (.br (y30.snd.snd.snd.snd == (2 : Int)) (.ok ((0 : Nat) = (0 : Nat) ∧ y30.snd.snd.snd.fst.length = y30.snd.snd.snd.fst.length) ⟨rfl, rfl⟩ <| .call (line_Reader_Line.f y30.snd.fst y30.snd.snd.fst y30.snd.snd.snd.fst) fun y34 =>
                .br (y34 == s) (.ret true)
                (.br (!cr) (.ret (y30.snd.snd.snd.snd == (3 : Int)))
                 (.ret false)))
               (.br (!cr) (.ret (y30.snd.snd.snd.snd == (3 : Int)))
                (.ret false)))
              (.br (!cr) (.ret (y30.snd.snd.snd.snd == (3 : Int)))
               (.ret false)))
             (.ret false)))
           (.br (y29.snd.snd.snd.snd == (0 : Int)) (.br cr (.br (y30.snd.snd.snd.snd == (2 : Int)) (.ok ((0 : Nat) = (0 : Nat) ∧ y30.snd.snd.snd.fst.length = y30.snd.snd.snd.fst.length) ⟨rfl, rfl⟩ <| .call (line_Reader_Line.f y30.snd.fst y30.snd.snd.fst y30.snd.snd.snd.fst) fun y35 =>
               .br (y35 == s) (.ret true)
               (.br (!cr) (.ret (y30.snd.snd.snd.snd == (3 : Int)))
                (.ret false)))
              (.br (!cr) (.ret (y30.snd.snd.snd.snd == (3 : Int)))
               (.ret false)))
             (.br (!cr) (.ret (y30.snd.snd.snd.snd == (3 : Int)))
              (.ret false)))
            (.ret false)))))
        (.call (line_New.f (30 : Int)) fun y36 =>
         .call (line_New.f (30 : Int)) fun y37 =>
         .ok ((0 : Nat) = (0 : Nat) ∧ y36.snd.snd.snd.snd.length = y36.snd.snd.snd.snd.length) ⟨rfl, rfl⟩ <| .ok ((0 : Nat) = (0 : Nat) ∧ y37.snd.snd.snd.snd.length = y37.snd.snd.snd.snd.length) ⟨rfl, rfl⟩ <| .call (law6_LineBares.L17.f (0 : Int) y36.fst y36.snd.fst y36.snd.snd.fst y36.snd.snd.snd.fst y36.snd.snd.snd.snd (0 : Int) y37.fst y37.snd.fst y37.snd.snd.fst y37.snd.snd.snd.fst y37.snd.snd.snd.snd s (0 : Int)) fun y38 =>
         .ok ((0 : Nat) = (0 : Nat) ∧ y38.snd.snd.snd.fst.length = y38.snd.snd.snd.fst.length) ⟨rfl, rfl⟩ <| .call (line_Reader_Byte.f (0 : Int) y36.fst y38.fst y38.snd.fst y38.snd.snd.fst y38.snd.snd.snd.fst (10 : Int)) fun y39 =>
         .ok ((0 : Nat) = (0 : Nat) ∧ y38.snd.snd.snd.snd.snd.snd.snd.length = y38.snd.snd.snd.snd.snd.snd.snd.length) ⟨rfl, rfl⟩ <| .call (line_Reader_Byte.f (0 : Int) y37.fst y38.snd.snd.snd.snd.fst y38.snd.snd.snd.snd.snd.fst y38.snd.snd.snd.snd.snd.snd.fst y38.snd.snd.snd.snd.snd.snd.snd (13 : Int)) fun y40 =>
         .ok ((0 : Nat) = (0 : Nat) ∧ y40.snd.snd.snd.fst.length = y40.snd.snd.snd.fst.length) ⟨rfl, rfl⟩ <| .call (line_Reader_Byte.f (0 : Int) y37.fst y40.fst y40.snd.fst y40.snd.snd.fst y40.snd.snd.snd.fst (Int.ofNat c.toNat)) fun y41 =>
         .br (y39.snd.snd.snd.snd == (1 : Int)) (.ok ((0 : Nat) = (0 : Nat) ∧ y39.snd.snd.snd.fst.length = y39.snd.snd.snd.fst.length) ⟨rfl, rfl⟩ <| .call (line_Reader_Line.f y39.snd.fst y39.snd.snd.fst y39.snd.snd.snd.fst) fun y42 =>
          .br (!lf == (y42 == s)) (.ret false)
          (.br (!lf) (.br (y39.snd.snd.snd.snd != (3 : Int)) (.ret false)
            (.br (y40.snd.snd.snd.snd == (0 : Int)) (.br cr (.br (y41.snd.snd.snd.snd == (2 : Int)) (.ok ((0 : Nat) = (0 : Nat) ∧ y41.snd.snd.snd.fst.length = y41.snd.snd.snd.fst.length) ⟨rfl, rfl⟩ <| .call (line_Reader_Line.f y41.snd.fst y41.snd.snd.fst y41.snd.snd.snd.fst) fun y43 =>
                .br (y43 == s) (.ret true)
                (.br (!cr) (.ret (y41.snd.snd.snd.snd == (3 : Int)))
                 (.ret false)))
               (.br (!cr) (.ret (y41.snd.snd.snd.snd == (3 : Int)))
                (.ret false)))
              (.br (!cr) (.ret (y41.snd.snd.snd.snd == (3 : Int)))
               (.ret false)))
             (.ret false)))
           (.br (y40.snd.snd.snd.snd == (0 : Int)) (.br cr (.br (y41.snd.snd.snd.snd == (2 : Int)) (.ok ((0 : Nat) = (0 : Nat) ∧ y41.snd.snd.snd.fst.length = y41.snd.snd.snd.fst.length) ⟨rfl, rfl⟩ <| .call (line_Reader_Line.f y41.snd.fst y41.snd.snd.fst y41.snd.snd.snd.fst) fun y44 =>
               .br (y44 == s) (.ret true)
               (.br (!cr) (.ret (y41.snd.snd.snd.snd == (3 : Int)))
                (.ret false)))
              (.br (!cr) (.ret (y41.snd.snd.snd.snd == (3 : Int)))
               (.ret false)))
             (.br (!cr) (.ret (y41.snd.snd.snd.snd == (3 : Int)))
              (.ret false)))
            (.ret false))))
         (.br (!lf == false) (.ret false)
          (.br (!lf) (.br (y39.snd.snd.snd.snd != (3 : Int)) (.ret false)
            (.br (y40.snd.snd.snd.snd == (0 : Int)) (.br cr (.br (y41.snd.snd.snd.snd == (2 : Int)) (.ok ((0 : Nat) = (0 : Nat) ∧ y41.snd.snd.snd.fst.length = y41.snd.snd.snd.fst.length) ⟨rfl, rfl⟩ <| .call (line_Reader_Line.f y41.snd.fst y41.snd.snd.fst y41.snd.snd.snd.fst) fun y45 =>
                .br (y45 == s) (.ret true)
                (.br (!cr) (.ret (y41.snd.snd.snd.snd == (3 : Int)))
                 (.ret false)))
               (.br (!cr) (.ret (y41.snd.snd.snd.snd == (3 : Int)))
                (.ret false)))
              (.br (!cr) (.ret (y41.snd.snd.snd.snd == (3 : Int)))
               (.ret false)))
             (.ret false)))
           (.br (y40.snd.snd.snd.snd == (0 : Int)) (.br cr (.br (y41.snd.snd.snd.snd == (2 : Int)) (.ok ((0 : Nat) = (0 : Nat) ∧ y41.snd.snd.snd.fst.length = y41.snd.snd.snd.fst.length) ⟨rfl, rfl⟩ <| .call (line_Reader_Line.f y41.snd.fst y41.snd.snd.fst y41.snd.snd.snd.fst) fun y46 =>
               .br (y46 == s) (.ret true)
               (.br (!cr) (.ret (y41.snd.snd.snd.snd == (3 : Int)))
                (.ret false)))
              (.br (!cr) (.ret (y41.snd.snd.snd.snd == (3 : Int)))
               (.ret false)))
             (.br (!cr) (.ret (y41.snd.snd.snd.snd == (3 : Int)))
              (.ret false)))
            (.ret false)))))))
      (fun y47 => .ret y47)))))
def f (s : List UInt8) (lf : Bool) (cr : Bool) (c : UInt8) : Option (Bool) := (t s lf cr c).val
def F (x : D.den) : Option (Bool) := f x.2.1 x.2.2.1 x.2.2.2.1 x.2.2.2.2
def pa : D.den → (Bool) → A.den := fun (_, (_, (_, (_, _)))) y1 => ((), y1)
def con : Con := tcon D A pa F
theorem vc (s : List UInt8) (lf : Bool) (cr : Bool) (c : UInt8) (qa : A.den → Prop) (qb : con.B.den → Prop) : con.run Try.prog bk_law6_known 9 [L6.lap, L17.lap] 10 (fun _ => true) ((), (s, (lf, (cr, c)))) qa qb = (t s lf cr c).wp (fun y => qa (pa ((), (s, (lf, (cr, c)))) y)) := by kernel_rfl
theorem ok : ConOk Try.prog 10 con := tcon_ok Base.mixed Base.prog_ok bk_law6_known_ok (by kernel_rfl) (.cons L6.ok (by kernel_rfl) (.cons L17.ok (by kernel_rfl) (.nil))) 9 (fun _ => rfl) (fun x => t x.2.1 x.2.2.1 x.2.2.2.1 x.2.2.2.2) (fun _ => rfl) fun x qa qb => vc x.2.1 x.2.2.1 x.2.2.2.1 x.2.2.2.2 qa qb
theorem law_ok (h : ∀ x, (lawCon [(.sl .byte), .bool, .bool, .byte]).pre x → F x = some true) : ConOk Try.prog 10 (lawCon [(.sl .byte), .bool, .bool, .byte]) := Go.Vx.law_ok ok h
end law6_LineBares
def bk_law6_LineBares : Book := bk_law6_known.add 10 law6_LineBares.con
theorem bk_law6_LineBares_ok : BookOk Try.prog bk_law6_LineBares := bk_law6_known_ok.add law6_LineBares.ok
end Go.Vx
