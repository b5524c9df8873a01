/- Functions of the program, told as plain functions. (A help: no statement of the seat is proved here.) -/
import Derived.Test.YtgmlklaehklmoaaLine
set_option maxRecDepth 1000000
set_option linter.unusedVariables false
namespace Go.Vx
open Go Go.Vx Go.Proofs
namespace law6_known
def D : Dom := ⟨[], .nil⟩
def A : Dom := ⟨[], .bool⟩
def sel : List Nat := []
def t  : Tr (Bool) :=
  .call (line_New.f (5 : Int)) fun y1 =>
  .ok ((0 : Nat) = (0 : Nat) ∧ y1.snd.snd.snd.snd.length = y1.snd.snd.snd.snd.length) ⟨rfl, rfl⟩ <| .call (line_Reader_Byte.f (0 : Int) y1.fst y1.snd.fst y1.snd.snd.fst y1.snd.snd.snd.fst y1.snd.snd.snd.snd (120 : Int)) fun y2 =>
  .ok ((0 : Nat) = (0 : Nat) ∧ y2.snd.snd.snd.fst.length = y2.snd.snd.snd.fst.length) ⟨rfl, rfl⟩ <| .call (line_Reader_Byte.f (0 : Int) y1.fst y2.fst y2.snd.fst y2.snd.snd.fst y2.snd.snd.snd.fst (13 : Int)) fun y3 =>
  .ok ((0 : Nat) = (0 : Nat) ∧ y3.snd.snd.snd.fst.length = y3.snd.snd.snd.fst.length) ⟨rfl, rfl⟩ <| .call (line_Reader_Len.f y3.snd.fst y3.snd.snd.snd.fst) fun y4 =>
  .ok ((0 : Nat) = (0 : Nat) ∧ y3.snd.snd.snd.fst.length = y3.snd.snd.snd.fst.length) ⟨rfl, rfl⟩ <| .call (line_Reader_Pending.f y3.snd.snd.snd.fst) fun y5 =>
  .ok ((0 : Nat) = (0 : Nat) ∧ y3.snd.snd.snd.fst.length = y3.snd.snd.snd.fst.length) ⟨rfl, rfl⟩ <| .call (line_Reader_Byte.f (0 : Int) y1.fst y3.fst y3.snd.fst y3.snd.snd.fst y3.snd.snd.snd.fst (10 : Int)) fun y6 =>
  .ok ((0 : Nat) = (0 : Nat) ∧ y6.snd.snd.snd.fst.length = y6.snd.snd.snd.fst.length) ⟨rfl, rfl⟩ <| .call (line_Reader_Line.f y6.snd.fst y6.snd.snd.fst y6.snd.snd.snd.fst) fun y7 =>
  .call (line_New.f (5 : Int)) fun y8 =>
  .ok ((0 : Nat) = (0 : Nat) ∧ y8.snd.snd.snd.snd.length = y8.snd.snd.snd.snd.length) ⟨rfl, rfl⟩ <| .call (line_Reader_Byte.f (6 : Int) y8.fst y8.snd.fst y8.snd.snd.fst y8.snd.snd.snd.fst y8.snd.snd.snd.snd (10 : Int)) fun y9 =>
  .ok ((0 : Nat) = (0 : Nat) ∧ y9.snd.snd.snd.fst.length = y9.snd.snd.snd.fst.length) ⟨rfl, rfl⟩ <| .call (line_Reader_Byte.f (6 : Int) y8.fst y9.fst y9.snd.fst y9.snd.snd.fst y9.snd.snd.snd.fst (13 : Int)) fun y10 =>
  .ok ((0 : Nat) = (0 : Nat) ∧ y10.snd.snd.snd.fst.length = y10.snd.snd.snd.fst.length) ⟨rfl, rfl⟩ <| .call (line_Reader_Byte.f (6 : Int) y8.fst y10.fst y10.snd.fst y10.snd.snd.fst y10.snd.snd.snd.fst (121 : Int)) fun y11 =>
  .br (y2.snd.snd.snd.snd == (0 : Int)) (.br (y3.snd.snd.snd.snd == (0 : Int)) (.br (y4 == (1 : Int)) (.br y3.fst (.br (y6.snd.snd.snd.snd == (1 : Int)) (.br (y7 == [(120 : UInt8)]) (.br (y9.snd.snd.snd.snd == (1 : Int)) (.br (y11.snd.snd.snd.snd == (2 : Int)) (.ok ((0 : Nat) = (0 : Nat) ∧ y6.snd.snd.snd.fst.length = y6.snd.snd.snd.fst.length) ⟨rfl, rfl⟩ <| .call (line_Reader_Byte.f (0 : Int) y1.fst y6.fst y6.snd.fst y6.snd.snd.fst y6.snd.snd.snd.fst (10 : Int)) fun y12 =>
          .br (y12.snd.snd.snd.snd == (3 : Int)) (.ret true)
          (.ret false))
         (.ret false))
        (.ret false))
       (.ret false))
      (.ret false))
     (.ret false))
    (.ret false))
   (.ret false))
  (.ret false)
def f  : Option (Bool) := (t ).val
def F (x : D.den) : Option (Bool) := f 
def pa : D.den → (Bool) → A.den := fun (_, _) y1 => ((), y1)
def con : Con := tcon D A pa F
theorem vc  (qa : A.den → Prop) (qb : con.B.den → Prop) : con.run Try.prog bk_ref6_New 9 [] 24 (fun _ => true) ((), ()) qa qb = (t ).wp (fun y => qa (pa ((), ()) y)) := by kernel_rfl
theorem ok : ConOk Try.prog 24 con := tcon_ok Base.mixed Base.prog_ok bk_ref6_New_ok (by kernel_rfl) LapsOk.nil 9 (fun _ => rfl) (fun x => t ) (fun _ => rfl) fun x qa qb => vc  qa qb
end law6_known
def bk_law6_known : Book := bk_ref6_New.add 24 law6_known.con
theorem bk_law6_known_ok : BookOk Try.prog bk_law6_known := bk_ref6_New_ok.add law6_known.ok
namespace ref4_Of
def D : Dom := ⟨[.vec (.int .i64) 3 true], (.sl 0 1)⟩
namespace L3
def D : Dom := ⟨[.vec (.int .i64) 3 true], (.cat (.sl 0 1) (.cat (.int .u32) (.int .i64)))⟩
def A : Dom := ⟨[.vec (.int .i64) 3 true], (.int .u32)⟩
def sel : List Nat := [0, 1, 2]
def t (l : List Int) (p : Int) (i : Int) : Tr ((Int × Int) ⊕ (Int)) :=
  .br (decide (i < (↑l.length : Int))) (.chk ((0 : Int) ≤ i ∧ i < (↑l.length : Int)) <| .chk ((0 : Nat) + i.toNat < l.length) <| .br (decide (l.getD ((0 : Nat) + i.toNat) (0 : Int) ≥ (0 : Int))) (.chk ((0 : Int) ≤ i ∧ i < (↑l.length : Int)) <| .chk ((0 : Nat) + i.toNat < l.length) <| .br (decide (l.getD ((0 : Nat) + i.toNat) (0 : Int) < (30 : Int))) (.chk ((0 : Int) ≤ i ∧ i < (↑l.length : Int)) <| .chk ((0 : Nat) + i.toNat < l.length) <| .chk (¬l.getD ((0 : Nat) + i.toNat) (0 : Int) < (0 : Int)) <| .ok ((0 : Nat) = (0 : Nat) ∧ l.length = l.length) ⟨rfl, rfl⟩ <| .ret (.inl (IntKind.u32.wrap (↑(BitVec.ofInt IntKind.u32.bits p ||| BitVec.ofInt IntKind.u32.bits (IntKind.u32.wrap ((1 : Int) * (2 : Int) ^ min (Int.toNat (l.getD ((0 : Nat) + i.toNat) (0 : Int))) IntKind.u32.bits))).toNat : Int), IntKind.i64.wrap (i + (1 : Int)))))
    (.ok ((0 : Nat) = (0 : Nat) ∧ l.length = l.length) ⟨rfl, rfl⟩ <| .ret (.inl (p, IntKind.i64.wrap (i + (1 : Int))))))
   (.ok ((0 : Nat) = (0 : Nat) ∧ l.length = l.length) ⟨rfl, rfl⟩ <| .ret (.inl (p, IntKind.i64.wrap (i + (1 : Int))))))
  (.ret (.inr p))
def f (l : List Int) (p : Int) (i : Int) : Option (Int) := Loop (fun z : Int × Int => t l z.1 z.2) (p, i)
def F (x : D.den) : Option (Int) := f x.1.1 x.2.2.1 x.2.2.2
def pa : D.den → (Int) → A.den := fun ((l, _), (_, (_, _))) y1 => ((l, ()), y1)
def lap : Lap := tlap 3 31 [0, 3, 4] D (.exit 0) [3] A pa F
def pk (x : D.den) (z : Int × Int) : D.den := ((x.1.1, ()), ((), (z.1, z.2)))
def un (x : D.den) : Int × Int := (x.2.2.1, x.2.2.2)
def body (x : D.den) (z : Int × Int) : Tr ((Int × Int) ⊕ (Int)) := t x.1.1 z.1 z.2
theorem vc (l : List Int) (p : Int) (i : Int) (again : D.den → Prop) (qa : A.den → Prop) (qb : lap.B.den → Prop) : lap.run Try.prog bk_law6_known 9 1 [] 36 ((l, ()), ((), (p, i))) again qa qb = (t l p i).wp (fun r => match r with
    | .inl z => again (pk ((l, ()), ((), (p, i))) z)
    | .inr a => qa (pa ((l, ()), ((), (p, i))) a)) := by kernel_rfl
theorem ok : LapOk Try.prog 1 (codeOf Try.prog 36) lap := tlap_ok Base.mixed Base.prog_ok bk_law6_known_ok (by kernel_rfl) (by kernel_rfl) LapsOk.nil 9 pk un body (fun _ _ => rfl) (fun _ _ => rfl) (fun _ _ => rfl) (fun _ => rfl) fun x again qa qb => vc x.1.1 x.2.2.1 x.2.2.2 again qa qb
end L3
def A : Dom := ⟨[.vec (.int .i64) 3 true], (.int .u32)⟩
def sel : List Nat := [0]
def t (l : List Int) : Tr (Int) :=
  .ok ((0 : Nat) = (0 : Nat) ∧ l.length = l.length) ⟨rfl, rfl⟩ <| .call (ref4_Of.L3.f l (0 : Int) (0 : Int)) fun y1 =>
  .ret y1
def f (l : List Int) : Option (Int) := (t l).val
def F (x : D.den) : Option (Int) := f x.1.1
def pa : D.den → (Int) → A.den := fun ((l, _), _) y1 => ((l, ()), y1)
def con : Con := tcon D A pa F
theorem vc (l : List Int) (qa : A.den → Prop) (qb : con.B.den → Prop) : con.run Try.prog bk_law6_known 9 [L3.lap] 36 (fun _ => true) ((l, ()), ()) qa qb = (t l).wp (fun y => qa (pa ((l, ()), ()) y)) := by kernel_rfl
theorem ok : ConOk Try.prog 36 con := tcon_ok Base.mixed Base.prog_ok bk_law6_known_ok (by kernel_rfl) (.cons L3.ok (by kernel_rfl) (.nil)) 9 (fun _ => rfl) (fun x => t x.1.1) (fun _ => rfl) fun x qa qb => vc x.1.1 qa qb
end ref4_Of
def bk_ref4_Of : Book := bk_law6_known.add 36 ref4_Of.con
theorem bk_ref4_Of_ok : BookOk Try.prog bk_ref4_Of := bk_law6_known_ok.add ref4_Of.ok
namespace seat_Profile
def D : Dom := ⟨[], (.cat (.int .u32) (.int .u8))⟩
def A : Dom := ⟨[], (.int .u32)⟩
def sel : List Nat := [0, 1]
def t (a : Int) (k : Int) : Tr (Int) :=
  .br (k.tmod (4 : Int) == (0 : Int)) (.call (ref4_Of.f [(IntKind.i64.wrap ((IntKind.i64.wrap k).tdiv (4 : Int))).tmod (30 : Int)]) fun y1 =>
   .ret y1)
  (.br (k.tmod (4 : Int) == (1 : Int)) (.call (ref4_Of.f [(IntKind.i64.wrap ((IntKind.i64.wrap k).tdiv (4 : Int))).tmod (30 : Int), IntKind.i64.wrap (a.tmod (30 : Int))]) fun y2 =>
    .ret y2)
   (.br (k.tmod (4 : Int) == (2 : Int)) (.ret (IntKind.u32.wrap (↑(BitVec.ofInt IntKind.u32.bits (IntKind.u32.wrap (↑(BitVec.ofInt IntKind.u32.bits (IntKind.u32.wrap (↑(BitVec.ofInt IntKind.u32.bits a &&& BitVec.ofInt IntKind.u32.bits (1073741823 : Int)).toNat : Int)) &&& BitVec.ofInt IntKind.u32.bits ((IntKind.u32.wrap (↑(BitVec.ofInt IntKind.u32.bits a &&& BitVec.ofInt IntKind.u32.bits (1073741823 : Int)).toNat : Int)).fdiv ((2 : Int) ^ (7 : Nat)))).toNat : Int)) &&& BitVec.ofInt IntKind.u32.bits ((IntKind.u32.wrap (↑(BitVec.ofInt IntKind.u32.bits a &&& BitVec.ofInt IntKind.u32.bits (1073741823 : Int)).toNat : Int)).fdiv ((2 : Int) ^ (13 : Nat)))).toNat : Int)))
    (.ret (IntKind.u32.wrap (↑(BitVec.ofInt IntKind.u32.bits a &&& BitVec.ofInt IntKind.u32.bits (1073741823 : Int)).toNat : Int)))))
def f (a : Int) (k : Int) : Option (Int) := (t a k).val
def F (x : D.den) : Option (Int) := f x.2.1 x.2.2
def pa : D.den → (Int) → A.den := fun (_, (_, _)) y1 => ((), y1)
def con : Con := tcon D A pa F
theorem vc (a : Int) (k : Int) (qa : A.den → Prop) (qb : con.B.den → Prop) : con.run Try.prog bk_ref4_Of 9 [] 25 (fun _ => true) ((), (a, k)) qa qb = (t a k).wp (fun y => qa (pa ((), (a, k)) y)) := by kernel_rfl
theorem ok : ConOk Try.prog 25 con := tcon_ok Base.mixed Base.prog_ok bk_ref4_Of_ok (by kernel_rfl) LapsOk.nil 9 (fun _ => rfl) (fun x => t x.2.1 x.2.2) (fun _ => rfl) fun x qa qb => vc x.2.1 x.2.2 qa qb
end seat_Profile
def bk_seat_Profile : Book := bk_ref4_Of.add 25 seat_Profile.con
theorem bk_seat_Profile_ok : BookOk Try.prog bk_seat_Profile := bk_ref4_Of_ok.add seat_Profile.ok
namespace law6_LinePlays
def D : Dom := ⟨[], (.cat (.vec .byte) (.cat (.int .u32) (.cat .byte (.cat (.int .i64) (.vec .byte)))))⟩
namespace L8
def D : Dom := ⟨[.vec .byte 5 false], (.cat (.vec .byte) (.cat (.int .u8) (.cat (.int .i64) (.cat (.vec .byte) (.cat (.int .u32) (.cat (.sl 0 1) (.int .i64)))))))⟩
def A : Dom := ⟨[.vec .byte 5 false], (.cat (.vec .byte) (.cat (.int .u8) (.cat (.int .i64) (.cat (.int .u32) (.sl 0 1)))))⟩
def sel : List Nat := [0, 4, 6]
def t (odd : List UInt8) (l : List UInt8) (i : Int) : Tr ((List UInt8 × Int) ⊕ (List UInt8)) :=
  .br (decide (i < (↑l.length : Int))) (.chk ((0 : Int) ≤ i ∧ i < (↑l.length : Int)) <| .chk (i.toNat < l.length) <| .chk ((0 : Int) ≤ (↑(UInt8.toNat (l.getD i.toNat (0 : UInt8))) : Int).tmod (8 : Int) ∧ (↑(UInt8.toNat (l.getD i.toNat (0 : UInt8))) : Int).tmod (8 : Int) < (8 : Int)) <| .chk (((0 : Nat) + ((↑(UInt8.toNat (l.getD i.toNat (0 : UInt8))) : Int).tmod (8 : Int)).toNat) * (1 : Nat) < (8 : Nat)) <| .chk ((0 : Nat) + odd.length ≤ odd.length) <| .chk ((odd.length + (1 : Nat)) * (1 : Nat) ≤ (140737488355328 : Nat)) <| .chk ((0 : Int) ≤ [(13 : Int), (10 : Int), (97 : Int), (13 : Int), (98 : Int), (10 : Int), (0 : Int), (32 : Int)].getD (((0 : Nat) + ((↑(UInt8.toNat (l.getD i.toNat (0 : UInt8))) : Int).tmod (8 : Int)).toNat) * (1 : Nat)) (0 : Int) ∧ [(13 : Int), (10 : Int), (97 : Int), (13 : Int), (98 : Int), (10 : Int), (0 : Int), (32 : Int)].getD (((0 : Nat) + ((↑(UInt8.toNat (l.getD i.toNat (0 : UInt8))) : Int).tmod (8 : Int)).toNat) * (1 : Nat)) (0 : Int) < (256 : Int)) <| .chk ((0 : Nat) = (0 : Nat) ∧ odd.length + (1 : Nat) = (List.take odd.length (List.drop (0 : Nat) odd) ++ [UInt8.ofNat ([(13 : Int), (10 : Int), (97 : Int), (13 : Int), (98 : Int), (10 : Int), (0 : Int), (32 : Int)].getD (((0 : Nat) + ((↑(UInt8.toNat (l.getD i.toNat (0 : UInt8))) : Int).tmod (8 : Int)).toNat) * (1 : Nat)) (0 : Int)).toNat]).length) <| .ret (.inl (List.take odd.length (List.drop (0 : Nat) odd) ++ [UInt8.ofNat ([(13 : Int), (10 : Int), (97 : Int), (13 : Int), (98 : Int), (10 : Int), (0 : Int), (32 : Int)].getD (((0 : Nat) + ((↑(UInt8.toNat (l.getD i.toNat (0 : UInt8))) : Int).tmod (8 : Int)).toNat) * (1 : Nat)) (0 : Int)).toNat], IntKind.i64.wrap (i + (1 : Int)))))
  (.ok ((0 : Nat) = (0 : Nat) ∧ odd.length = odd.length) ⟨rfl, rfl⟩ <| .ret (.inr odd))
def f (odd : List UInt8) (l : List UInt8) (i : Int) : Option (List UInt8) := Loop (fun z : List UInt8 × Int => t z.1 l z.2) (odd, i)
def F (x : D.den) : Option (List UInt8) := f x.1.1 x.2.2.2.2.1 x.2.2.2.2.2.2.2
def pa : D.den → (List UInt8) → A.den := fun ((_, _), (raw, (k, (most, (_, (p, (_, _))))))) y1 => ((y1, ()), (raw, (k, (most, (p, ())))))
def lap : Lap := tlap 8 142 [0, 2, 3, 4, 11, 12, 13] D (.exit 0) [0, 2, 3, 11, 12] A pa F
def pk (x : D.den) (z : List UInt8 × Int) : D.den := ((z.1, ()), (x.2.1, (x.2.2.1, (x.2.2.2.1, (x.2.2.2.2.1, (x.2.2.2.2.2.1, ((), z.2)))))))
def un (x : D.den) : List UInt8 × Int := (x.1.1, x.2.2.2.2.2.2.2)
def body (x : D.den) (z : List UInt8 × Int) : Tr ((List UInt8 × Int) ⊕ (List UInt8)) := t z.1 x.2.2.2.2.1 z.2
theorem vc (odd : List UInt8) (raw : List UInt8) (k : Int) (most : Int) (l : List UInt8) (p : Int) (i : Int) (again : D.den → Prop) (qa : A.den → Prop) (qb : lap.B.den → Prop) : lap.run Try.prog bk_seat_Profile 9 0 [] 8 ((odd, ()), (raw, (k, (most, (l, (p, ((), i))))))) again qa qb = (t odd l i).wp (fun r => match r with
    | .inl z => again (pk ((odd, ()), (raw, (k, (most, (l, (p, ((), i))))))) z)
    | .inr a => qa (pa ((odd, ()), (raw, (k, (most, (l, (p, ((), i))))))) a)) := by kernel_rfl
theorem ok : LapOk Try.prog 0 (codeOf Try.prog 8) lap := tlap_ok Base.mixed Base.prog_ok bk_seat_Profile_ok (by kernel_rfl) (by kernel_rfl) LapsOk.nil 9 pk un body (fun _ _ => rfl) (fun _ _ => rfl) (fun _ _ => rfl) (fun _ => rfl) fun x again qa qb => vc x.1.1 x.2.1 x.2.2.1 x.2.2.2.1 x.2.2.2.2.1 x.2.2.2.2.2.1 x.2.2.2.2.2.2.2 again qa qb
end L8
namespace L22
def D : Dom := ⟨[.cells (.cat (.int .u32) (.cat (.int .i64) (.cat (.sl 1 1) (.cat .bool (.cat .bool .bool))))) 72 false, .vec .byte 5 false, .cells (.cat (.int .u32) (.cat (.int .i64) (.cat (.sl 3 1) (.cat .bool (.cat .str (.cat .bool .bool)))))) 58 false, .vec .byte 5 false, .vec (.sl .byte) 43 false, .vec (.int .u32) 47 false, .vec (.int .i64) 3 false], (.cat (.int .u8) (.cat (.int .i64) (.cat (.int .u32) (.cat (.vec .byte) (.cat (.int .u32) (.cat (.ptr 0 0 0 0) (.cat (.ptr 2 0 0 0) (.cat (.int .i64) (.cat (.sl 4 1) (.cat (.int .i64) (.cat (.int .i64) (.cat (.sl 5 1) (.cat (.int .i64) (.cat (.int .i64) (.cat (.sl 6 1) (.cat (.int .i64) (.int .i64)))))))))))))))))⟩
def A : Dom := ⟨[.vec (.sl .byte) 43 false, .vec (.int .u32) 47 false, .vec (.int .i64) 3 false], (.cat (.int .u8) (.cat (.int .i64) (.cat (.int .u32) (.cat (.vec .byte) (.cat (.int .u32) (.cat (.sl 0 1) (.cat (.int .i64) (.cat (.int .i64) (.cat (.sl 1 1) (.cat (.int .i64) (.cat (.int .i64) (.cat (.sl 2 1) (.cat (.int .i64) (.int .i64))))))))))))))⟩
def B : Dom := ⟨[], .bool⟩
def sel : List Nat := [0, 1, 2, 3, 4, 5, 6, 7, 8, 9, 10, 11, 12, 13, 14, 15, 19, 21]
def t (p : Int) (most : Int) (pending : Bool) (over : Bool) (bad : Bool) (b : List UInt8) (P : Int) (Most : Int) (CR : Bool) (L : List UInt8) (over_2 : Bool) (dead : Bool) (vB : List UInt8) (t57 : List (List UInt8)) (t64 : List Int) (t74 : List Int) (s : List UInt8) (i : Int) : Tr ((Bool × Bool × Bool × List UInt8 × Bool × List UInt8 × Bool × Bool × List UInt8 × Int) ⊕ ((Unit) ⊕ (Bool))) :=
  .br (decide (i < (↑s.length : Int))) (.chk ((0 : Int) ≤ i ∧ i < (↑s.length : Int)) <| .chk (i.toNat < s.length) <| .ok ((0 : Nat) = (0 : Nat) ∧ b.length = b.length) ⟨rfl, rfl⟩ <| .call (line_Reader_Byte.f p most pending over bad b (↑(UInt8.toNat (s.getD i.toNat (0 : UInt8))) : Int)) fun y1 =>
   .chk ((0 : Int) ≤ i ∧ i < (↑s.length : Int)) <| .chk (i.toNat < s.length) <| .ok ((0 : Nat) = (0 : Nat) ∧ vB.length = vB.length) ⟨rfl, rfl⟩ <| .call (ref6_Reader_Byte.f P Most CR L over_2 dead vB (↑(UInt8.toNat (s.getD i.toNat (0 : UInt8))) : Int)) fun y2 =>
   .br (y1.snd.snd.snd.snd != y2.snd.snd.snd.snd.snd) (.ret (.inr (.inr false)))
   (.ok ((0 : Nat) = (0 : Nat) ∧ y1.snd.snd.snd.fst.length = y1.snd.snd.snd.fst.length) ⟨rfl, rfl⟩ <| .call (line_Reader_Line.f y1.snd.fst y1.snd.snd.fst y1.snd.snd.snd.fst) fun y3 =>
    .br (!y3 == y2.snd.fst) (.ret (.inr (.inr false)))
    (.br (decide (y2.snd.snd.snd.snd.snd < (3 : Int))) (.ok ((0 : Nat) = (0 : Nat) ∧ y1.snd.snd.snd.fst.length = y1.snd.snd.snd.fst.length) ⟨rfl, rfl⟩ <| .call (line_Reader_Len.f y1.snd.fst y1.snd.snd.snd.fst) fun y4 =>
      .br (y4 != (↑y2.snd.snd.snd.snd.fst.length : Int)) (.ret (.inr (.inr false)))
      (.ok ((0 : Nat) = (0 : Nat) ∧ y1.snd.snd.snd.fst.length = y1.snd.snd.snd.fst.length) ⟨rfl, rfl⟩ <| .call (line_Reader_Pending.f y1.snd.snd.snd.fst) fun y5 =>
       .br (!y1.fst == y2.fst) (.ret (.inr (.inr false)))
       (.ok ((0 : Nat) = (0 : Nat) ∧ y1.snd.snd.snd.fst.length = y1.snd.snd.snd.fst.length) ⟨rfl, rfl⟩ <| .ok ((0 : Nat) = (0 : Nat) ∧ y2.snd.snd.snd.snd.fst.length = y2.snd.snd.snd.snd.fst.length) ⟨rfl, rfl⟩ <| .ok ((0 : Nat) = (0 : Nat) ∧ t57.length = t57.length) ⟨rfl, rfl⟩ <| .ok ((0 : Nat) = (0 : Nat) ∧ t64.length = t64.length) ⟨rfl, rfl⟩ <| .ok ((0 : Nat) = (0 : Nat) ∧ t74.length = t74.length) ⟨rfl, rfl⟩ <| .ret (.inl (y1.fst, y1.snd.fst, y1.snd.snd.fst, y1.snd.snd.snd.fst, y2.fst, y2.snd.fst, y2.snd.snd.fst, y2.snd.snd.snd.fst, y2.snd.snd.snd.snd.fst, IntKind.i64.wrap (i + (1 : Int)))))))
     (.ok ((0 : Nat) = (0 : Nat) ∧ y1.snd.snd.snd.fst.length = y1.snd.snd.snd.fst.length) ⟨rfl, rfl⟩ <| .ok ((0 : Nat) = (0 : Nat) ∧ y2.snd.snd.snd.snd.fst.length = y2.snd.snd.snd.snd.fst.length) ⟨rfl, rfl⟩ <| .ok ((0 : Nat) = (0 : Nat) ∧ t57.length = t57.length) ⟨rfl, rfl⟩ <| .ok ((0 : Nat) = (0 : Nat) ∧ t64.length = t64.length) ⟨rfl, rfl⟩ <| .ok ((0 : Nat) = (0 : Nat) ∧ t74.length = t74.length) ⟨rfl, rfl⟩ <| .ret (.inl (y1.fst, y1.snd.fst, y1.snd.snd.fst, y1.snd.snd.snd.fst, y2.fst, y2.snd.fst, y2.snd.snd.fst, y2.snd.snd.snd.fst, y2.snd.snd.snd.snd.fst, IntKind.i64.wrap (i + (1 : Int))))))))
  (.ok ((0 : Nat) = (0 : Nat) ∧ t57.length = t57.length) ⟨rfl, rfl⟩ <| .ok ((0 : Nat) = (0 : Nat) ∧ t64.length = t64.length) ⟨rfl, rfl⟩ <| .ok ((0 : Nat) = (0 : Nat) ∧ t74.length = t74.length) ⟨rfl, rfl⟩ <| .ret (.inr (.inl ())))
def f (p : Int) (most : Int) (pending : Bool) (over : Bool) (bad : Bool) (b : List UInt8) (P : Int) (Most : Int) (CR : Bool) (L : List UInt8) (over_2 : Bool) (dead : Bool) (vB : List UInt8) (t57 : List (List UInt8)) (t64 : List Int) (t74 : List Int) (s : List UInt8) (i : Int) : Option ((Unit) ⊕ (Bool)) := Loop (fun z : Bool × Bool × Bool × List UInt8 × Bool × List UInt8 × Bool × Bool × List UInt8 × Int => t p most z.1 z.2.1 z.2.2.1 z.2.2.2.1 P Most z.2.2.2.2.1 z.2.2.2.2.2.1 z.2.2.2.2.2.2.1 z.2.2.2.2.2.2.2.1 z.2.2.2.2.2.2.2.2.1 t57 t64 t74 s z.2.2.2.2.2.2.2.2.2) (pending, over, bad, b, CR, L, over_2, dead, vB, i)
def F (x : D.den) : Option ((Unit) ⊕ (Bool)) := f x.1.1.1 x.1.1.2.1 x.1.1.2.2.2.1 x.1.1.2.2.2.2.1 x.1.1.2.2.2.2.2 x.1.2.1 x.1.2.2.1.1 x.1.2.2.1.2.1 x.1.2.2.1.2.2.2.1 x.1.2.2.1.2.2.2.2.1 x.1.2.2.1.2.2.2.2.2.1 x.1.2.2.1.2.2.2.2.2.2 x.1.2.2.2.1 x.1.2.2.2.2.1 x.1.2.2.2.2.2.1 x.1.2.2.2.2.2.2.1 x.2.2.2.2.1 x.2.2.2.2.2.2.2.2.1
def pa : D.den → (Unit) → A.den := fun (((_, (_, (_, (_, (_, _))))), (_, ((_, (_, (_, (_, (_, (_, _)))))), (_, (t57, (t64, (t74, _))))))), (k, (most_2, (p_2, (s, (q, (_, (_, (_, (_, (t58, (t59, (_, (t65, (t66, (_, (t75, t76))))))))))))))))) _ => ((t57, (t64, (t74, ()))), (k, (most_2, (p_2, (s, (q, ((), (t58, (t59, ((), (t65, (t66, ((), (t75, t76))))))))))))))
def pb : D.den → (Bool) → B.den := fun (((_, (_, (_, (_, (_, _))))), (_, ((_, (_, (_, (_, (_, (_, _)))))), (_, (_, (_, (_, _))))))), (_, (_, (_, (_, (_, (_, (_, (_, (_, (_, (_, (_, (_, (_, (_, (_, _))))))))))))))))) y1 => ((), y1)
def lap : Lap := tlap2 22 142 [2, 3, 11, 15, 17, 20, 21, 22, 57, 58, 59, 64, 65, 66, 74, 75, 76] D (.exit 8) [2, 3, 11, 15, 17, 57, 58, 59, 64, 65, 66, 74, 75, 76] A .ret [10] B pa pb F
def pk (x : D.den) (z : Bool × Bool × Bool × List UInt8 × Bool × List UInt8 × Bool × Bool × List UInt8 × Int) : D.den := (((x.1.1.1, (x.1.1.2.1, ((), (z.1, (z.2.1, z.2.2.1))))), (z.2.2.2.1, ((x.1.2.2.1.1, (x.1.2.2.1.2.1, ((), (z.2.2.2.2.1, (z.2.2.2.2.2.1, (z.2.2.2.2.2.2.1, z.2.2.2.2.2.2.2.1)))))), (z.2.2.2.2.2.2.2.2.1, (x.1.2.2.2.2.1, (x.1.2.2.2.2.2.1, (x.1.2.2.2.2.2.2.1, ()))))))), (x.2.1, (x.2.2.1, (x.2.2.2.1, (x.2.2.2.2.1, (x.2.2.2.2.2.1, ((), ((), (z.2.2.2.2.2.2.2.2.2, ((), (x.2.2.2.2.2.2.2.2.2.2.1, (x.2.2.2.2.2.2.2.2.2.2.2.1, ((), (x.2.2.2.2.2.2.2.2.2.2.2.2.2.1, (x.2.2.2.2.2.2.2.2.2.2.2.2.2.2.1, ((), (x.2.2.2.2.2.2.2.2.2.2.2.2.2.2.2.2.1, x.2.2.2.2.2.2.2.2.2.2.2.2.2.2.2.2.2)))))))))))))))))
def un (x : D.den) : Bool × Bool × Bool × List UInt8 × Bool × List UInt8 × Bool × Bool × List UInt8 × Int := (x.1.1.2.2.2.1, x.1.1.2.2.2.2.1, x.1.1.2.2.2.2.2, x.1.2.1, x.1.2.2.1.2.2.2.1, x.1.2.2.1.2.2.2.2.1, x.1.2.2.1.2.2.2.2.2.1, x.1.2.2.1.2.2.2.2.2.2, x.1.2.2.2.1, x.2.2.2.2.2.2.2.2.1)
def body (x : D.den) (z : Bool × Bool × Bool × List UInt8 × Bool × List UInt8 × Bool × Bool × List UInt8 × Int) : Tr ((Bool × Bool × Bool × List UInt8 × Bool × List UInt8 × Bool × Bool × List UInt8 × Int) ⊕ ((Unit) ⊕ (Bool))) := t x.1.1.1 x.1.1.2.1 z.1 z.2.1 z.2.2.1 z.2.2.2.1 x.1.2.2.1.1 x.1.2.2.1.2.1 z.2.2.2.2.1 z.2.2.2.2.2.1 z.2.2.2.2.2.2.1 z.2.2.2.2.2.2.2.1 z.2.2.2.2.2.2.2.2.1 x.1.2.2.2.2.1 x.1.2.2.2.2.2.1 x.1.2.2.2.2.2.2.1 x.2.2.2.2.1 z.2.2.2.2.2.2.2.2.2
theorem vc (p : Int) (most : Int) (pending : Bool) (over : Bool) (bad : Bool) (b : List UInt8) (P : Int) (Most : Int) (CR : Bool) (L : List UInt8) (over_2 : Bool) (dead : Bool) (vB : List UInt8) (t57 : List (List UInt8)) (t64 : List Int) (t74 : List Int) (k : Int) (most_2 : Int) (p_2 : Int) (s : List UInt8) (q : Int) (i : Int) (t58 : Int) (t59 : Int) (t65 : Int) (t66 : Int) (t75 : Int) (t76 : Int) (again : D.den → Prop) (qa : A.den → Prop) (qb : lap.B.den → Prop) : lap.run Try.prog bk_seat_Profile 9 0 [] 8 (((p, (most, ((), (pending, (over, bad))))), (b, ((P, (Most, ((), (CR, (L, (over_2, dead)))))), (vB, (t57, (t64, (t74, ()))))))), (k, (most_2, (p_2, (s, (q, ((), ((), (i, ((), (t58, (t59, ((), (t65, (t66, ((), (t75, t76))))))))))))))))) again qa qb = (t p most pending over bad b P Most CR L over_2 dead vB t57 t64 t74 s i).wp (fun r => match r with
    | .inl z => again (pk (((p, (most, ((), (pending, (over, bad))))), (b, ((P, (Most, ((), (CR, (L, (over_2, dead)))))), (vB, (t57, (t64, (t74, ()))))))), (k, (most_2, (p_2, (s, (q, ((), ((), (i, ((), (t58, (t59, ((), (t65, (t66, ((), (t75, t76))))))))))))))))) z)
    | .inr (.inl a) => qa (pa (((p, (most, ((), (pending, (over, bad))))), (b, ((P, (Most, ((), (CR, (L, (over_2, dead)))))), (vB, (t57, (t64, (t74, ()))))))), (k, (most_2, (p_2, (s, (q, ((), ((), (i, ((), (t58, (t59, ((), (t65, (t66, ((), (t75, t76))))))))))))))))) a)
    | .inr (.inr a) => qb (pb (((p, (most, ((), (pending, (over, bad))))), (b, ((P, (Most, ((), (CR, (L, (over_2, dead)))))), (vB, (t57, (t64, (t74, ()))))))), (k, (most_2, (p_2, (s, (q, ((), ((), (i, ((), (t58, (t59, ((), (t65, (t66, ((), (t75, t76))))))))))))))))) a)) := by kernel_rfl
theorem ok : LapOk Try.prog 0 (codeOf Try.prog 8) lap := tlap2_ok Base.mixed Base.prog_ok bk_seat_Profile_ok (by kernel_rfl) (by kernel_rfl) LapsOk.nil 9 pk un body (fun _ _ => rfl) (fun _ _ => rfl) (fun _ _ => rfl) (fun _ _ => rfl) (fun _ => rfl) fun x again qa qb => vc x.1.1.1 x.1.1.2.1 x.1.1.2.2.2.1 x.1.1.2.2.2.2.1 x.1.1.2.2.2.2.2 x.1.2.1 x.1.2.2.1.1 x.1.2.2.1.2.1 x.1.2.2.1.2.2.2.1 x.1.2.2.1.2.2.2.2.1 x.1.2.2.1.2.2.2.2.2.1 x.1.2.2.1.2.2.2.2.2.2 x.1.2.2.2.1 x.1.2.2.2.2.1 x.1.2.2.2.2.2.1 x.1.2.2.2.2.2.2.1 x.2.1 x.2.2.1 x.2.2.2.1 x.2.2.2.2.1 x.2.2.2.2.2.1 x.2.2.2.2.2.2.2.2.1 x.2.2.2.2.2.2.2.2.2.2.1 x.2.2.2.2.2.2.2.2.2.2.2.1 x.2.2.2.2.2.2.2.2.2.2.2.2.2.1 x.2.2.2.2.2.2.2.2.2.2.2.2.2.2.1 x.2.2.2.2.2.2.2.2.2.2.2.2.2.2.2.2.1 x.2.2.2.2.2.2.2.2.2.2.2.2.2.2.2.2.2 again qa qb
end L22
namespace L18
def D : Dom := ⟨[.vec (.sl .byte) 43 false, .vec (.int .u32) 47 false, .vec (.int .i64) 3 false], (.cat (.int .u8) (.cat (.int .i64) (.cat (.int .u32) (.cat (.vec .byte) (.cat (.int .u32) (.cat (.sl 0 1) (.cat (.int .i64) (.cat (.int .i64) (.cat (.sl 1 1) (.cat (.int .i64) (.cat (.int .i64) (.cat (.sl 2 1) (.cat (.int .i64) (.int .i64))))))))))))))⟩
def A : Dom := ⟨[.vec (.sl .byte) 43 false, .vec (.int .u32) 47 false], (.cat (.int .u8) (.cat (.int .i64) (.cat (.int .u32) (.cat (.vec .byte) (.cat (.sl 0 1) (.cat (.int .i64) (.cat (.int .i64) (.cat (.sl 1 1) (.cat (.int .i64) (.int .i64))))))))))⟩
def B : Dom := ⟨[], .bool⟩
def sel : List Nat := [0, 1, 2, 6, 7, 12, 13]
def t (t57 : List (List UInt8)) (t64 : List Int) (t74 : List Int) (s : List UInt8) (q : Int) (t75 : Int) (t76 : Int) : Tr ((Int) ⊕ ((Unit) ⊕ (Bool))) :=
  .br (decide (t76 < t75)) (.chk ((0 : Int) ≤ t76 ∧ t76 < (↑t74.length : Int)) <| .chk ((0 : Nat) + t76.toNat < t74.length) <| .call (line_New.f (t74.getD ((0 : Nat) + t76.toNat) (0 : Int))) fun y1 =>
   .call (ref6_New.f (t74.getD ((0 : Nat) + t76.toNat) (0 : Int))) fun y2 =>
   .ok ((0 : Nat) = (0 : Nat) ∧ y1.snd.snd.snd.snd.length = y1.snd.snd.snd.snd.length) ⟨rfl, rfl⟩ <| .ok ((0 : Nat) = (0 : Nat) ∧ y2.snd.snd.snd.snd.snd.length = y2.snd.snd.snd.snd.snd.length) ⟨rfl, rfl⟩ <| .ok ((0 : Nat) = (0 : Nat) ∧ t57.length = t57.length) ⟨rfl, rfl⟩ <| .ok ((0 : Nat) = (0 : Nat) ∧ t64.length = t64.length) ⟨rfl, rfl⟩ <| .ok ((0 : Nat) = (0 : Nat) ∧ t74.length = t74.length) ⟨rfl, rfl⟩ <| .both (law6_LinePlays.L22.f q y1.fst y1.snd.fst y1.snd.snd.fst y1.snd.snd.snd.fst y1.snd.snd.snd.snd q y2.fst y2.snd.fst y2.snd.snd.fst y2.snd.snd.snd.fst y2.snd.snd.snd.snd.fst y2.snd.snd.snd.snd.snd t57 t64 t74 s (0 : Int)) (fun y3 => .ok ((0 : Nat) = (0 : Nat) ∧ t57.length = t57.length) ⟨rfl, rfl⟩ <| .ok ((0 : Nat) = (0 : Nat) ∧ t64.length = t64.length) ⟨rfl, rfl⟩ <| .ok ((0 : Nat) = (0 : Nat) ∧ t74.length = t74.length) ⟨rfl, rfl⟩ <| .ret (.inl (IntKind.i64.wrap (t76 + (1 : Int)))))
   (fun y4 => .ret (.inr (.inr y4))))
  (.ok ((0 : Nat) = (0 : Nat) ∧ t57.length = t57.length) ⟨rfl, rfl⟩ <| .ok ((0 : Nat) = (0 : Nat) ∧ t64.length = t64.length) ⟨rfl, rfl⟩ <| .ret (.inr (.inl ())))
def f (t57 : List (List UInt8)) (t64 : List Int) (t74 : List Int) (s : List UInt8) (q : Int) (t75 : Int) (t76 : Int) : Option ((Unit) ⊕ (Bool)) := Loop (fun z : Int => t t57 t64 t74 s q t75 z) t76
def F (x : D.den) : Option ((Unit) ⊕ (Bool)) := f x.1.1 x.1.2.1 x.1.2.2.1 x.2.2.2.2.1 x.2.2.2.2.2.1 x.2.2.2.2.2.2.2.2.2.2.2.2.2.1 x.2.2.2.2.2.2.2.2.2.2.2.2.2.2
def pa : D.den → (Unit) → A.den := fun ((t57, (t64, (_, _))), (k, (most, (p, (s, (_, (_, (t58, (t59, (_, (t65, (t66, (_, (_, _)))))))))))))) _ => ((t57, (t64, ())), (k, (most, (p, (s, ((), (t58, (t59, ((), (t65, t66))))))))))
def pb : D.den → (Bool) → B.den := fun ((_, (_, (_, _))), (_, (_, (_, (_, (_, (_, (_, (_, (_, (_, (_, (_, (_, _)))))))))))))) y1 => ((), y1)
def lap : Lap := tlap2 18 142 [2, 3, 11, 15, 17, 57, 58, 59, 64, 65, 66, 74, 75, 76] D (.exit 6) [2, 3, 11, 15, 57, 58, 59, 64, 65, 66] A .ret [10] B pa pb F
def pk (x : D.den) (z : Int) : D.den := ((x.1.1, (x.1.2.1, (x.1.2.2.1, ()))), (x.2.1, (x.2.2.1, (x.2.2.2.1, (x.2.2.2.2.1, (x.2.2.2.2.2.1, ((), (x.2.2.2.2.2.2.2.1, (x.2.2.2.2.2.2.2.2.1, ((), (x.2.2.2.2.2.2.2.2.2.2.1, (x.2.2.2.2.2.2.2.2.2.2.2.1, ((), (x.2.2.2.2.2.2.2.2.2.2.2.2.2.1, z))))))))))))))
def un (x : D.den) : Int := x.2.2.2.2.2.2.2.2.2.2.2.2.2.2
def body (x : D.den) (z : Int) : Tr ((Int) ⊕ ((Unit) ⊕ (Bool))) := t x.1.1 x.1.2.1 x.1.2.2.1 x.2.2.2.2.1 x.2.2.2.2.2.1 x.2.2.2.2.2.2.2.2.2.2.2.2.2.1 z
theorem vc (t57 : List (List UInt8)) (t64 : List Int) (t74 : List Int) (k : Int) (most : Int) (p : Int) (s : List UInt8) (q : Int) (t58 : Int) (t59 : Int) (t65 : Int) (t66 : Int) (t75 : Int) (t76 : Int) (again : D.den → Prop) (qa : A.den → Prop) (qb : lap.B.den → Prop) : lap.run Try.prog bk_seat_Profile 9 0 [L22.lap] 8 ((t57, (t64, (t74, ()))), (k, (most, (p, (s, (q, ((), (t58, (t59, ((), (t65, (t66, ((), (t75, t76)))))))))))))) again qa qb = (t t57 t64 t74 s q t75 t76).wp (fun r => match r with
    | .inl z => again (pk ((t57, (t64, (t74, ()))), (k, (most, (p, (s, (q, ((), (t58, (t59, ((), (t65, (t66, ((), (t75, t76)))))))))))))) z)
    | .inr (.inl a) => qa (pa ((t57, (t64, (t74, ()))), (k, (most, (p, (s, (q, ((), (t58, (t59, ((), (t65, (t66, ((), (t75, t76)))))))))))))) a)
    | .inr (.inr a) => qb (pb ((t57, (t64, (t74, ()))), (k, (most, (p, (s, (q, ((), (t58, (t59, ((), (t65, (t66, ((), (t75, t76)))))))))))))) a)) := by kernel_rfl
theorem ok : LapOk Try.prog 0 (codeOf Try.prog 8) lap := tlap2_ok Base.mixed Base.prog_ok bk_seat_Profile_ok (by kernel_rfl) (by kernel_rfl) (.cons L22.ok (by kernel_rfl) (.nil)) 9 pk un body (fun _ _ => rfl) (fun _ _ => rfl) (fun _ _ => rfl) (fun _ _ => rfl) (fun _ => rfl) fun x again qa qb => vc x.1.1 x.1.2.1 x.1.2.2.1 x.2.1 x.2.2.1 x.2.2.2.1 x.2.2.2.2.1 x.2.2.2.2.2.1 x.2.2.2.2.2.2.2.1 x.2.2.2.2.2.2.2.2.1 x.2.2.2.2.2.2.2.2.2.2.1 x.2.2.2.2.2.2.2.2.2.2.2.1 x.2.2.2.2.2.2.2.2.2.2.2.2.2.1 x.2.2.2.2.2.2.2.2.2.2.2.2.2.2 again qa qb
end L18
namespace L15
def D : Dom := ⟨[.vec (.sl .byte) 43 false, .vec (.int .u32) 47 false], (.cat (.int .u8) (.cat (.int .i64) (.cat (.int .u32) (.cat (.vec .byte) (.cat (.sl 0 1) (.cat (.int .i64) (.cat (.int .i64) (.cat (.sl 1 1) (.cat (.int .i64) (.int .i64))))))))))⟩
def A : Dom := ⟨[.vec (.sl .byte) 43 false], (.cat (.int .u8) (.cat (.int .i64) (.cat (.int .u32) (.cat (.sl 0 1) (.cat (.int .i64) (.int .i64))))))⟩
def B : Dom := ⟨[], .bool⟩
def sel : List Nat := [0, 1, 2, 3, 5, 8, 9]
def t (t57 : List (List UInt8)) (t64 : List Int) (k : Int) (most : Int) (s : List UInt8) (t65 : Int) (t66 : Int) : Tr ((Int) ⊕ ((Unit) ⊕ (Bool))) :=
  .br (decide (t66 < t65)) (.chk ((0 : Int) ≤ t66 ∧ t66 < (↑t64.length : Int)) <| .chk ((0 : Nat) + t66.toNat < t64.length) <| .ok ((0 : Nat) = (0 : Nat) ∧ t57.length = t57.length) ⟨rfl, rfl⟩ <| .ok ((0 : Nat) = (0 : Nat) ∧ t64.length = t64.length) ⟨rfl, rfl⟩ <| .both (law6_LinePlays.L18.f t57 t64 [most, IntKind.i64.wrap (k.tmod (8 : Int))] s (t64.getD ((0 : Nat) + t66.toNat) (0 : Int)) (2 : Int) (0 : Int)) (fun y1 => .ok ((0 : Nat) = (0 : Nat) ∧ t57.length = t57.length) ⟨rfl, rfl⟩ <| .ok ((0 : Nat) = (0 : Nat) ∧ t64.length = t64.length) ⟨rfl, rfl⟩ <| .ret (.inl (IntKind.i64.wrap (t66 + (1 : Int)))))
   (fun y2 => .ret (.inr (.inr y2))))
  (.ok ((0 : Nat) = (0 : Nat) ∧ t57.length = t57.length) ⟨rfl, rfl⟩ <| .ret (.inr (.inl ())))
def f (t57 : List (List UInt8)) (t64 : List Int) (k : Int) (most : Int) (s : List UInt8) (t65 : Int) (t66 : Int) : Option ((Unit) ⊕ (Bool)) := Loop (fun z : Int => t t57 t64 k most s t65 z) t66
def F (x : D.den) : Option ((Unit) ⊕ (Bool)) := f x.1.1 x.1.2.1 x.2.1 x.2.2.1 x.2.2.2.2.1 x.2.2.2.2.2.2.2.2.2.1 x.2.2.2.2.2.2.2.2.2.2
def pa : D.den → (Unit) → A.den := fun ((t57, (_, _)), (k, (most, (p, (_, (_, (t58, (t59, (_, (_, _)))))))))) _ => ((t57, ()), (k, (most, (p, ((), (t58, t59))))))
def pb : D.den → (Bool) → B.den := fun ((_, (_, _)), (_, (_, (_, (_, (_, (_, (_, (_, (_, _)))))))))) y1 => ((), y1)
def lap : Lap := tlap2 15 142 [2, 3, 11, 15, 57, 58, 59, 64, 65, 66] D (.exit 4) [2, 3, 11, 57, 58, 59] A .ret [10] B pa pb F
def pk (x : D.den) (z : Int) : D.den := ((x.1.1, (x.1.2.1, ())), (x.2.1, (x.2.2.1, (x.2.2.2.1, (x.2.2.2.2.1, ((), (x.2.2.2.2.2.2.1, (x.2.2.2.2.2.2.2.1, ((), (x.2.2.2.2.2.2.2.2.2.1, z))))))))))
def un (x : D.den) : Int := x.2.2.2.2.2.2.2.2.2.2
def body (x : D.den) (z : Int) : Tr ((Int) ⊕ ((Unit) ⊕ (Bool))) := t x.1.1 x.1.2.1 x.2.1 x.2.2.1 x.2.2.2.2.1 x.2.2.2.2.2.2.2.2.2.1 z
theorem vc (t57 : List (List UInt8)) (t64 : List Int) (k : Int) (most : Int) (p : Int) (s : List UInt8) (t58 : Int) (t59 : Int) (t65 : Int) (t66 : Int) (again : D.den → Prop) (qa : A.den → Prop) (qb : lap.B.den → Prop) : lap.run Try.prog bk_seat_Profile 9 0 [L22.lap, L18.lap] 8 ((t57, (t64, ())), (k, (most, (p, (s, ((), (t58, (t59, ((), (t65, t66)))))))))) again qa qb = (t t57 t64 k most s t65 t66).wp (fun r => match r with
    | .inl z => again (pk ((t57, (t64, ())), (k, (most, (p, (s, ((), (t58, (t59, ((), (t65, t66)))))))))) z)
    | .inr (.inl a) => qa (pa ((t57, (t64, ())), (k, (most, (p, (s, ((), (t58, (t59, ((), (t65, t66)))))))))) a)
    | .inr (.inr a) => qb (pb ((t57, (t64, ())), (k, (most, (p, (s, ((), (t58, (t59, ((), (t65, t66)))))))))) a)) := by kernel_rfl
theorem ok : LapOk Try.prog 0 (codeOf Try.prog 8) lap := tlap2_ok Base.mixed Base.prog_ok bk_seat_Profile_ok (by kernel_rfl) (by kernel_rfl) (.cons L22.ok (by kernel_rfl) (.cons L18.ok (by kernel_rfl) (.nil))) 9 pk un body (fun _ _ => rfl) (fun _ _ => rfl) (fun _ _ => rfl) (fun _ _ => rfl) (fun _ => rfl) fun x again qa qb => vc x.1.1 x.1.2.1 x.2.1 x.2.2.1 x.2.2.2.1 x.2.2.2.2.1 x.2.2.2.2.2.2.1 x.2.2.2.2.2.2.2.1 x.2.2.2.2.2.2.2.2.2.1 x.2.2.2.2.2.2.2.2.2.2 again qa qb
end L15
namespace L12
def D : Dom := ⟨[.vec (.sl .byte) 43 false], (.cat (.int .u8) (.cat (.int .i64) (.cat (.int .u32) (.cat (.sl 0 1) (.cat (.int .i64) (.int .i64))))))⟩
def A : Dom := ⟨[], .nil⟩
def B : Dom := ⟨[], .bool⟩
def sel : List Nat := [0, 1, 2, 3, 4, 5]
def t (t57 : List (List UInt8)) (k : Int) (most : Int) (p : Int) (t58 : Int) (t59 : Int) : Tr ((Int) ⊕ ((Unit) ⊕ (Bool))) :=
  .br (decide (t59 < t58)) (.chk ((0 : Int) ≤ t59 ∧ t59 < (↑t57.length : Int)) <| .chk ((0 : Nat) + t59.toNat < t57.length) <| .ok ((0 : Nat) = (0 : Nat) ∧ t57.length = t57.length) ⟨rfl, rfl⟩ <| .both (law6_LinePlays.L15.f t57 [(0 : Int), p, (2 : Int), (4 : Int), (6 : Int)] k most (t57.getD ((0 : Nat) + t59.toNat) []) (5 : Int) (0 : Int)) (fun y1 => .ok ((0 : Nat) = (0 : Nat) ∧ t57.length = t57.length) ⟨rfl, rfl⟩ <| .ret (.inl (IntKind.i64.wrap (t59 + (1 : Int)))))
   (fun y2 => .ret (.inr (.inr y2))))
  (.ret (.inr (.inl ())))
def f (t57 : List (List UInt8)) (k : Int) (most : Int) (p : Int) (t58 : Int) (t59 : Int) : Option ((Unit) ⊕ (Bool)) := Loop (fun z : Int => t t57 k most p t58 z) t59
def F (x : D.den) : Option ((Unit) ⊕ (Bool)) := f x.1.1 x.2.1 x.2.2.1 x.2.2.2.1 x.2.2.2.2.2.1 x.2.2.2.2.2.2
def pa : D.den → (Unit) → A.den := fun ((_, _), (_, (_, (_, (_, (_, _)))))) _ => ((), ())
def pb : D.den → (Bool) → B.den := fun ((_, _), (_, (_, (_, (_, (_, _)))))) y1 => ((), y1)
def lap : Lap := tlap2 12 142 [2, 3, 11, 57, 58, 59] D (.exit 2) [] A .ret [10] B pa pb F
def pk (x : D.den) (z : Int) : D.den := ((x.1.1, ()), (x.2.1, (x.2.2.1, (x.2.2.2.1, ((), (x.2.2.2.2.2.1, z))))))
def un (x : D.den) : Int := x.2.2.2.2.2.2
def body (x : D.den) (z : Int) : Tr ((Int) ⊕ ((Unit) ⊕ (Bool))) := t x.1.1 x.2.1 x.2.2.1 x.2.2.2.1 x.2.2.2.2.2.1 z
theorem vc (t57 : List (List UInt8)) (k : Int) (most : Int) (p : Int) (t58 : Int) (t59 : Int) (again : D.den → Prop) (qa : A.den → Prop) (qb : lap.B.den → Prop) : lap.run Try.prog bk_seat_Profile 9 0 [L22.lap, L18.lap, L15.lap] 8 ((t57, ()), (k, (most, (p, ((), (t58, t59)))))) again qa qb = (t t57 k most p t58 t59).wp (fun r => match r with
    | .inl z => again (pk ((t57, ()), (k, (most, (p, ((), (t58, t59)))))) z)
    | .inr (.inl a) => qa (pa ((t57, ()), (k, (most, (p, ((), (t58, t59)))))) a)
    | .inr (.inr a) => qb (pb ((t57, ()), (k, (most, (p, ((), (t58, t59)))))) a)) := by kernel_rfl
theorem ok : LapOk Try.prog 0 (codeOf Try.prog 8) lap := tlap2_ok Base.mixed Base.prog_ok bk_seat_Profile_ok (by kernel_rfl) (by kernel_rfl) (.cons L22.ok (by kernel_rfl) (.cons L18.ok (by kernel_rfl) (.cons L15.ok (by kernel_rfl) (.nil)))) 9 pk un body (fun _ _ => rfl) (fun _ _ => rfl) (fun _ _ => rfl) (fun _ _ => rfl) (fun _ => rfl) fun x again qa qb => vc x.1.1 x.2.1 x.2.2.1 x.2.2.2.1 x.2.2.2.2.2.1 x.2.2.2.2.2.2 again qa qb
end L12
def A : Dom := ⟨[], .bool⟩
def sel : List Nat := [0, 1, 2, 3, 4]
def t (raw : List UInt8) (a : Int) (k : UInt8) (most : Int) (l : List UInt8) : Tr (Bool) :=
  .call (law6_known.f) fun y1 =>
  .br (!y1) (.ret false)
  (.br (decide ((↑raw.length : Int) > (100 : Int))) (.ret true)
   (.br (decide ((↑l.length : Int) > (60 : Int))) (.ret true)
    (.call (seat_Profile.f a (Int.ofNat k.toNat)) fun y2 =>
     .call (law6_LinePlays.L8.f [] l (0 : Int)) fun y3 =>
     .chk ((0 : Nat) + y3.length ≤ y3.length) <| .chk ((0 : Nat) = (0 : Nat) ∧ (2 : Nat) = [raw, List.take y3.length (List.drop (0 : Nat) y3)].length) <| .both (law6_LinePlays.L12.f [raw, List.take y3.length (List.drop (0 : Nat) y3)] (Int.ofNat k.toNat) most y2 (2 : Int) (0 : Int)) (fun y4 => .ret true)
     (fun y5 => .ret y5))))
def f (raw : List UInt8) (a : Int) (k : UInt8) (most : Int) (l : List UInt8) : Option (Bool) := (t raw a k most l).val
def F (x : D.den) : Option (Bool) := f x.2.1 x.2.2.1 x.2.2.2.1 x.2.2.2.2.1 x.2.2.2.2.2
def pa : D.den → (Bool) → A.den := fun (_, (_, (_, (_, (_, _))))) y1 => ((), y1)
def con : Con := tcon D A pa F
theorem vc (raw : List UInt8) (a : Int) (k : UInt8) (most : Int) (l : List UInt8) (qa : A.den → Prop) (qb : con.B.den → Prop) : con.run Try.prog bk_seat_Profile 9 [L8.lap, L22.lap, L18.lap, L15.lap, L12.lap] 8 (fun _ => true) ((), (raw, (a, (k, (most, l))))) qa qb = (t raw a k most l).wp (fun y => qa (pa ((), (raw, (a, (k, (most, l))))) y)) := by kernel_rfl
theorem ok : ConOk Try.prog 8 con := tcon_ok Base.mixed Base.prog_ok bk_seat_Profile_ok (by kernel_rfl) (.cons L8.ok (by kernel_rfl) (.cons L22.ok (by kernel_rfl) (.cons L18.ok (by kernel_rfl) (.cons L15.ok (by kernel_rfl) (.cons L12.ok (by kernel_rfl) (.nil)))))) 9 (fun _ => rfl) (fun x => t x.2.1 x.2.2.1 x.2.2.2.1 x.2.2.2.2.1 x.2.2.2.2.2) (fun _ => rfl) fun x qa qb => vc x.2.1 x.2.2.1 x.2.2.2.1 x.2.2.2.2.1 x.2.2.2.2.2 qa qb
theorem law_ok (h : ∀ x, (lawCon [(.sl .byte), (.int .u32), .byte, (.int .i64), (.sl .byte)]).pre x → F x = some true) : ConOk Try.prog 8 (lawCon [(.sl .byte), (.int .u32), .byte, (.int .i64), (.sl .byte)]) := Go.Vx.law_ok ok h
end law6_LinePlays
def bk_law6_LinePlays : Book := bk_seat_Profile.add 8 law6_LinePlays.con
theorem bk_law6_LinePlays_ok : BookOk Try.prog bk_law6_LinePlays := bk_seat_Profile_ok.add law6_LinePlays.ok
end Go.Vx
