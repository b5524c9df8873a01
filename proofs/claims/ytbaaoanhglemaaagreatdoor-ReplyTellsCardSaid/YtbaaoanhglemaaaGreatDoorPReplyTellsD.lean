/- Printed by a program of ours out of our texts: the evaluator, the printed functions, the plain laws. (A help: no statement of the seat is proved here.) -/
import Derived.Test.YtbaaoanhglemaaaGreatDoorPReplyTellsC
section
set_option maxRecDepth 1000000
set_option maxHeartbeats 4000000
set_option synthInstance.maxSize 100000
set_option synthInstance.maxHeartbeats 400000
set_option linter.unusedVariables false
namespace Go.Vx
open Go Go.Vx Go.Proofs
namespace slices_IndexFunc_f_text_Without_1
def D : Dom := ⟨[.vec .str 9 true, .cells (.cat .str .str) 30 false], (.cat (.sl 0 1) (.func (.func 43) .nil (.ptr 1 0 0 0)))⟩
namespace L2
def D : Dom := ⟨[.vec .str 9 true, .cells (.cat .str .str) 30 false], (.cat (.sl 0 1) (.cat (.func (.func 43) .nil (.ptr 1 0 0 0)) (.cat (.int .i64) (.int .i64))))⟩
def A : Dom := ⟨[.vec .str 9 true, .cells (.cat .str .str) 30 false], .nil⟩
def B : Dom := ⟨[.vec .str 9 true, .cells (.cat .str .str) 30 false], (.int .i64)⟩
def sel : List Nat := [0, 1, 3, 4]
def t (s : List (List UInt8)) (Name : List UInt8) (t7 : Int) (t8 : Int) : Tr ((Int) ⊕ ((Unit) ⊕ (Int))) :=
 .br (decide (t8 < t7)) (.chk ((0 : Int) ≤ t8 ∧ t8 < (↑s.length : Int)) <| .chk ((0 : Nat) + t8.toNat < s.length) <| .call (text_Without_1.f Name (s.getD ((0 : Nat) + t8.toNat) [])) fun y1 =>
  .br y1 (.ret (.inr (.inr t8)))
  (.okl s.length <| .ret (.inl (IntKind.i64.wrap (t8 + (1 : Int))))))
 (.ret (.inr (.inl ())))
def f (s : List (List UInt8)) (Name : List UInt8) (t7 : Int) (t8 : Int) : Option ((Unit) ⊕ (Int)) := Loop (fun z : Int => t s Name t7 z) t8
def F (x : D.den) : Option ((Unit) ⊕ (Int)) := f x.1.1 x.1.2.1.1 x.2.2.2.1 x.2.2.2.2
def pa : D.den → (Unit) → A.den := fun ((s, ((Name, Value), _)), (_, ((_, _), (_, _)))) _ => ((s, ((Name, Value), ())), ())
def pb : D.den → (Int) → B.den := fun ((s, ((Name, Value), _)), (_, ((_, _), (_, _)))) y1 => ((s, ((Name, Value), ())), y1)
def lap : Lap := tlap2 2 19 [0, 1, 7, 8] D (.exit 0) [] A .ret [4] B pa pb F
def pk (x : D.den) (z : Int) : D.den := ((x.1.1, ((x.1.2.1.1, x.1.2.1.2), ())), ((), (((), ()), (x.2.2.2.1, z))))
def un (x : D.den) : Int := x.2.2.2.2
def body (x : D.den) (z : Int) : Tr ((Int) ⊕ ((Unit) ⊕ (Int))) := t x.1.1 x.1.2.1.1 x.2.2.2.1 z
theorem ok : LapOk Tryz.prog 2 (codeOf Tryz.prog 63) lap := tlap2_ok Base.mixed Base.prog_ok bk_text_Without_1_ok (by kernel_rfl) (by kernel_rfl) LapsOk.nil 9 pk un body (fun _ _ => rfl) (fun _ _ => rfl) (fun _ _ => rfl) (fun _ _ => rfl) (fun _ => rfl) fun _ _ _ _ => (by kernel_rfl)
end L2
def A : Dom := slices_IndexFunc_f_text_Without_1.L2.B
def sel : List Nat := [0, 1]
def t (s : List (List UInt8)) (Name : List UInt8) : Tr (Int) :=
 .okl s.length <| .both (slices_IndexFunc_f_text_Without_1.L2.f s Name (↑s.length : Int) (0 : Int)) (fun _ => .ret (-1 : Int))
 (fun y2 => .ret y2)
def f (s : List (List UInt8)) (Name : List UInt8) : Option (Int) := (t s Name).val
def F (x : D.den) : Option (Int) := f x.1.1 x.1.2.1.1
def pa : D.den → (Int) → A.den := fun ((s, ((Name, Value), _)), (_, (_, _))) y1 => ((s, ((Name, Value), ())), y1)
def con : Con := tcon D A pa F
theorem ok : ConOk Tryz.prog 63 con := tcon_ok Base.mixed Base.prog_ok bk_text_Without_1_ok (by kernel_rfl) (.cons L2.ok (by kernel_rfl) (.nil)) 9 (fun _ => rfl) (fun x => t x.1.1 x.1.2.1.1) (fun _ => rfl) fun _ _ _ => (by kernel_rfl)
end slices_IndexFunc_f_text_Without_1
def bk_slices_IndexFunc_f_text_Without_1 : Book := bk_text_Without_1.addS 63 (fun a => isFunc 1 43 a) slices_IndexFunc_f_text_Without_1.con
theorem bk_slices_IndexFunc_f_text_Without_1_ok : BookOk Tryz.prog bk_slices_IndexFunc_f_text_Without_1 := bk_text_Without_1_ok.addS slices_IndexFunc_f_text_Without_1.ok
namespace slices_ContainsFunc_f_text_Without_1
def D : Dom := slices_IndexFunc_f_text_Without_1.D
def A : Dom := ⟨[.vec .str 9 true, .cells (.cat .str .str) 30 false], .bool⟩
def sel : List Nat := [0, 1]
def t (s : List (List UInt8)) (Name : List UInt8) : Tr (Bool) :=
 .chk ((0 : Nat) + s.length ≤ s.length) <| .call (slices_IndexFunc_f_text_Without_1.f (List.take s.length (List.drop (0 : Nat) s)) Name) fun y1 =>
 .ret (decide (y1 ≥ (0 : Int)))
def f (s : List (List UInt8)) (Name : List UInt8) : Option (Bool) := (t s Name).val
def F (x : D.den) : Option (Bool) := f x.1.1 x.1.2.1.1
def pa : D.den → (Bool) → A.den := fun ((s, ((Name, Value), _)), (_, (_, _))) y1 => ((s, ((Name, Value), ())), y1)
def con : Con := tcon D A pa F
theorem ok : ConOk Tryz.prog 42 con := tcon_ok Base.mixed Base.prog_ok bk_slices_IndexFunc_f_text_Without_1_ok (by kernel_rfl) LapsOk.nil 9 (fun _ => rfl) (fun x => t x.1.1 x.1.2.1.1) (fun _ => rfl) fun _ _ _ => (by kernel_rfl)
end slices_ContainsFunc_f_text_Without_1
def bk_slices_ContainsFunc_f_text_Without_1 : Book := bk_slices_IndexFunc_f_text_Without_1.addS 42 (fun a => isFunc 1 43 a) slices_ContainsFunc_f_text_Without_1.con
theorem bk_slices_ContainsFunc_f_text_Without_1_ok : BookOk Tryz.prog bk_slices_ContainsFunc_f_text_Without_1 := bk_slices_IndexFunc_f_text_Without_1_ok.addS slices_ContainsFunc_f_text_Without_1.ok
namespace text_Without
def D : Dom := ⟨[.vec (.pair .str .str) 30 true, .vec .str 9 true], (.cat (.sl 0 2) (.sl 1 1))⟩
namespace L3
def D : Dom := ⟨[.vec (.pair .str .str) 30 true, .vec .str 9 true, .vec (.pair .str .str) 30 false], (.cat (.sl 1 1) (.cat (.sl 2 2) (.cat (.sl 0 2) (.cat (.int .i64) (.int .i64)))))⟩
def A : Dom := ⟨[.vec (.pair .str .str) 30 true, .vec .str 9 true, .vec (.pair .str .str) 30 false], (.sl 2 2)⟩
def sel : List Nat := [0, 1, 2, 3, 4]
def t (l : List (List UInt8 × List UInt8)) (names : List (List UInt8)) (out : List (List UInt8 × List UInt8)) (t9 : Int) (t10 : Int) : Tr (((List (List UInt8 × List UInt8)) × Int) ⊕ (List (List UInt8 × List UInt8))) :=
 .br (decide (t10 < t9)) (.chk ((0 : Int) ≤ t10 ∧ t10 < (↑l.length : Int)) <| .chk ((0 : Nat) + t10.toNat < l.length) <| .chk ((0 : Nat) + names.length ≤ names.length) <| .call (slices_ContainsFunc_f_text_Without_1.f (List.take names.length (List.drop (0 : Nat) names)) ((l.getD ((0 : Nat) + t10.toNat) ([], [])).fst)) fun y1 =>
  .br (!y1) (.chk ((1 : Nat) ≤ [((l.getD ((0 : Nat) + t10.toNat) ([], [])).fst, (l.getD ((0 : Nat) + t10.toNat) ([], [])).snd)].length) <| .chk ((0 : Nat) + out.length ≤ out.length) <| .chk ((out.length + (1 : Nat)) * (32 : Nat) ≤ (140737488355328 : Nat)) <| .okl names.length <| .okl l.length <| .chk ((0 : Nat) = (0 : Nat) ∧ out.length + (1 : Nat) = (List.take out.length (List.drop (0 : Nat) out) ++ List.take (1 : Nat) (List.drop (0 : Nat) [((l.getD ((0 : Nat) + t10.toNat) ([], [])).fst, (l.getD ((0 : Nat) + t10.toNat) ([], [])).snd)])).length) <| .ret (.inl (List.take out.length (List.drop (0 : Nat) out) ++ List.take (1 : Nat) (List.drop (0 : Nat) [((l.getD ((0 : Nat) + t10.toNat) ([], [])).fst, (l.getD ((0 : Nat) + t10.toNat) ([], [])).snd)]), IntKind.i64.wrap (t10 + (1 : Int)))))
  (.okl names.length <| .okl l.length <| .okl out.length <| .ret (.inl (out, IntKind.i64.wrap (t10 + (1 : Int))))))
 (.okl out.length <| .ret (.inr out))
def f (l : List (List UInt8 × List UInt8)) (names : List (List UInt8)) (out : List (List UInt8 × List UInt8)) (t9 : Int) (t10 : Int) : Option (List (List UInt8 × List UInt8)) := Loop (fun z : (List (List UInt8 × List UInt8)) × Int => t l names z.1 t9 z.2) (out, t10)
def F (x : D.den) : Option (List (List UInt8 × List UInt8)) := f x.1.1 x.1.2.1 x.1.2.2.1 x.2.2.2.2.1 x.2.2.2.2.2
def pa : D.den → (List (List UInt8 × List UInt8)) → A.den := fun ((l, (names, (_, _))), (_, (_, (_, (_, _))))) y1 => ((l, (names, (y1, ()))), ())
def lap : Lap := tlap 3 24 [1, 5, 8, 9, 10] D (.exit 0) [5] A pa F
def pk (x : D.den) (z : (List (List UInt8 × List UInt8)) × Int) : D.den := ((x.1.1, (x.1.2.1, (z.1, ()))), ((), ((), ((), (x.2.2.2.2.1, z.2)))))
def un (x : D.den) : (List (List UInt8 × List UInt8)) × Int := (x.1.2.2.1, x.2.2.2.2.2)
def body (x : D.den) (z : (List (List UInt8 × List UInt8)) × Int) : Tr (((List (List UInt8 × List UInt8)) × Int) ⊕ (List (List UInt8 × List UInt8))) := t x.1.1 x.1.2.1 z.1 x.2.2.2.2.1 z.2
theorem ok : LapOk Tryz.prog 2 (codeOf Tryz.prog 24) lap := tlap_ok Base.mixed Base.prog_ok bk_slices_ContainsFunc_f_text_Without_1_ok (by kernel_rfl) (by kernel_rfl) LapsOk.nil 9 pk un body (fun _ _ => rfl) (fun _ _ => rfl) (fun _ _ => rfl) (fun _ => rfl) fun _ _ _ _ => (by kernel_rfl)
end L3
def A : Dom := text_Without.L3.A
def sel : List Nat := [0, 1]
def t (l : List (List UInt8 × List UInt8)) (names : List (List UInt8)) : Tr (List (List UInt8 × List UInt8)) :=
 .okl names.length <| .okl l.length <| .call (text_Without.L3.f l names [] (↑l.length : Int) (0 : Int)) fun y1 =>
 .okl y1.length <| .ret y1
def f (l : List (List UInt8 × List UInt8)) (names : List (List UInt8)) : Option (List (List UInt8 × List UInt8)) := (t l names).val
def F (x : D.den) : Option (List (List UInt8 × List UInt8)) := f x.1.1 x.1.2.1
def pa : D.den → (List (List UInt8 × List UInt8)) → A.den := fun ((l, (names, _)), (_, _)) y1 => ((l, (names, (y1, ()))), ())
def con : Con := tcon D A pa F
theorem ok : ConOk Tryz.prog 24 con := tcon_ok Base.mixed Base.prog_ok bk_slices_ContainsFunc_f_text_Without_1_ok (by kernel_rfl) (.cons L3.ok (by kernel_rfl) (.nil)) 9 (fun _ => rfl) (fun x => t x.1.1 x.1.2.1) (fun _ => rfl) fun _ _ _ => (by kernel_rfl)
end text_Without
def bk_text_Without : Book := bk_slices_ContainsFunc_f_text_Without_1.add 24 text_Without.con
theorem bk_text_Without_ok : BookOk Tryz.prog bk_text_Without := bk_slices_ContainsFunc_f_text_Without_1_ok.add text_Without.ok
namespace number_Put
def D : Dom := ⟨[], (.int .i64)⟩
def A : Dom := ⟨[], .str⟩
def sel : List Nat := [0]
def t (n : Int) : Tr (List UInt8) :=
 .call (strconv_Itoa.f (mx2 n (0 : Int))) fun y1 =>
 .ret y1
def f (n : Int) : Option (List UInt8) := (t n).val
def F (x : D.den) : Option (List UInt8) := f x.2
def pa : D.den → (List UInt8) → A.den := fun (_, _) y1 => ((), y1)
def con : Con := tcon D A pa F
theorem ok : ConOk Tryz.prog 25 con := tcon_ok Base.mixed Base.prog_ok bk_text_Without_ok (by kernel_rfl) LapsOk.nil 9 (fun _ => rfl) (fun x => t x.2) (fun _ => rfl) fun _ _ _ => (by kernel_rfl)
end number_Put
def bk_number_Put : Book := bk_text_Without.add 25 number_Put.con
theorem bk_number_Put_ok : BookOk Tryz.prog bk_number_Put := bk_text_Without_ok.add number_Put.ok
namespace field_Put
def D : Dom := ⟨[.vec (.pair .str .str) 30 true], (.sl 0 2)⟩
namespace L3
def D : Dom := ⟨[.vec (.pair .str .str) 30 true, .cells (.cat (.ptr 1 0 0 0) (.sl 2 1)) 1073741872 false, .vec .byte 5 false], (.cat (.ptr 1 0 0 0) (.cat (.sl 0 2) (.cat (.int .i64) (.int .i64))))⟩
def A : Dom := ⟨[.vec (.pair .str .str) 30 true, .cells (.cat (.ptr 1 0 0 0) (.sl 2 1)) 1073741872 false, .vec .byte 5 false], (.ptr 1 0 0 0)⟩
def sel : List Nat := [0, 1, 2, 3]
def t (l : List (List UInt8 × List UInt8)) (buf : List UInt8) (t7 : Int) (t8 : Int) : Tr ((List UInt8 × Int) ⊕ (List UInt8)) :=
 .br (decide (t8 < t7)) (.chk ((0 : Int) ≤ t8 ∧ t8 < (↑l.length : Int)) <| .chk ((0 : Nat) + t8.toNat < l.length) <| .chk ((↑(List.length (l.getD ((0 : Nat) + t8.toNat) ([], [])).fst + [(58 : UInt8), (32 : UInt8)].length) : Int) ≤ (9223372036854775807 : Int)) <| .chk ((↑(((l.getD ((0 : Nat) + t8.toNat) ([], [])).fst ++ [(58 : UInt8), (32 : UInt8)]).length + List.length (l.getD ((0 : Nat) + t8.toNat) ([], [])).snd) : Int) ≤ (9223372036854775807 : Int)) <| .chk ((↑(((l.getD ((0 : Nat) + t8.toNat) ([], [])).fst ++ [(58 : UInt8), (32 : UInt8)] ++ (l.getD ((0 : Nat) + t8.toNat) ([], [])).snd).length + [(13 : UInt8), (10 : UInt8)].length) : Int) ≤ (9223372036854775807 : Int)) <| .chk ((0 : Nat) + buf.length ≤ buf.length) <| .chk ((buf.length + ((l.getD ((0 : Nat) + t8.toNat) ([], [])).fst ++ [(58 : UInt8), (32 : UInt8)] ++ (l.getD ((0 : Nat) + t8.toNat) ([], [])).snd ++ [(13 : UInt8), (10 : UInt8)]).length) * (1 : Nat) ≤ (140737488355328 : Nat)) <| .okl l.length <| .chk ((0 : Nat) = (0 : Nat) ∧ buf.length + ((l.getD ((0 : Nat) + t8.toNat) ([], [])).fst ++ [(58 : UInt8), (32 : UInt8)] ++ (l.getD ((0 : Nat) + t8.toNat) ([], [])).snd ++ [(13 : UInt8), (10 : UInt8)]).length = (List.take buf.length (List.drop (0 : Nat) buf) ++ ((l.getD ((0 : Nat) + t8.toNat) ([], [])).fst ++ [(58 : UInt8), (32 : UInt8)] ++ (l.getD ((0 : Nat) + t8.toNat) ([], [])).snd ++ [(13 : UInt8), (10 : UInt8)])).length) <| .ret (.inl (List.take buf.length (List.drop (0 : Nat) buf) ++ ((l.getD ((0 : Nat) + t8.toNat) ([], [])).fst ++ [(58 : UInt8), (32 : UInt8)] ++ (l.getD ((0 : Nat) + t8.toNat) ([], [])).snd ++ [(13 : UInt8), (10 : UInt8)]), IntKind.i64.wrap (t8 + (1 : Int)))))
 (.okl buf.length <| .ret (.inr buf))
def f (l : List (List UInt8 × List UInt8)) (buf : List UInt8) (t7 : Int) (t8 : Int) : Option (List UInt8) := Loop (fun z : List UInt8 × Int => t l z.1 t7 z.2) (buf, t8)
def F (x : D.den) : Option (List UInt8) := f x.1.1 x.1.2.2.1 x.2.2.2.1 x.2.2.2.2
def pa : D.den → (List UInt8) → A.den := fun ((l, ((_, _), (_, _))), (_, (_, (_, _)))) y1 => ((l, (((), ()), (y1, ()))), ())
def lap : Lap := tlap 3 22 [3, 6, 7, 8] D (.exit 0) [3] A pa F
def pk (x : D.den) (z : List UInt8 × Int) : D.den := ((x.1.1, (((), ()), (z.1, ()))), ((), ((), (x.2.2.2.1, z.2))))
def un (x : D.den) : List UInt8 × Int := (x.1.2.2.1, x.2.2.2.2)
def body (x : D.den) (z : List UInt8 × Int) : Tr ((List UInt8 × Int) ⊕ (List UInt8)) := t x.1.1 z.1 x.2.2.2.1 z.2
theorem ok : LapOk Tryz.prog 1 (codeOf Tryz.prog 27) lap := tlap_ok Base.mixed Base.prog_ok bk_number_Put_ok (by kernel_rfl) (by kernel_rfl) LapsOk.nil 9 pk un body (fun _ _ => rfl) (fun _ _ => rfl) (fun _ _ => rfl) (fun _ => rfl) fun _ _ _ _ => (by kernel_rfl)
end L3
def A : Dom := ⟨[.vec (.pair .str .str) 30 true], .str⟩
def sel : List Nat := [0]
def t (l : List (List UInt8 × List UInt8)) : Tr (List UInt8) :=
 .br (decide ((0 : Int) < (↑l.length : Int))) (.chk ((0 : Int) ≤ (0 : Int) ∧ (0 : Int) < (↑l.length : Int)) <| .chk ((0 : Nat) < l.length) <| .chk ((↑(List.length (l.getD (0 : Nat) ([], [])).fst + [(58 : UInt8), (32 : UInt8)].length) : Int) ≤ (9223372036854775807 : Int)) <| .chk ((↑(((l.getD (0 : Nat) ([], [])).fst ++ [(58 : UInt8), (32 : UInt8)]).length + List.length (l.getD (0 : Nat) ([], [])).snd) : Int) ≤ (9223372036854775807 : Int)) <| .chk ((↑(((l.getD (0 : Nat) ([], [])).fst ++ [(58 : UInt8), (32 : UInt8)] ++ (l.getD (0 : Nat) ([], [])).snd).length + [(13 : UInt8), (10 : UInt8)].length) : Int) ≤ (9223372036854775807 : Int)) <| .chk (((l.getD (0 : Nat) ([], [])).fst ++ [(58 : UInt8), (32 : UInt8)] ++ (l.getD (0 : Nat) ([], [])).snd ++ [(13 : UInt8), (10 : UInt8)]).length * (1 : Nat) ≤ (140737488355328 : Nat)) <| .okl l.length <| .chk ((0 : Nat) = (0 : Nat) ∧ ((l.getD (0 : Nat) ([], [])).fst ++ [(58 : UInt8), (32 : UInt8)] ++ (l.getD (0 : Nat) ([], [])).snd ++ [(13 : UInt8), (10 : UInt8)]).length = ([] ++ ((l.getD (0 : Nat) ([], [])).fst ++ [(58 : UInt8), (32 : UInt8)] ++ (l.getD (0 : Nat) ([], [])).snd ++ [(13 : UInt8), (10 : UInt8)])).length) <| .call (field_Put.L3.f l ([] ++ ((l.getD (0 : Nat) ([], [])).fst ++ [(58 : UInt8), (32 : UInt8)] ++ (l.getD (0 : Nat) ([], [])).snd ++ [(13 : UInt8), (10 : UInt8)])) (↑l.length : Int) (1 : Int)) fun y1 =>
  .chk ((0 : Nat) < y1.length) <| .chk ((0 : Int) < (↑y1.length : Int) ∧ (0 : Nat) + (↑y1.length : Int).toNat ≤ y1.length ∧ (↑y1.length : Int) ≤ (140737488355328 : Int)) <| .ret (List.take (↑y1.length : Int).toNat (List.drop (0 : Nat) y1)))
 (.ret [])
def f (l : List (List UInt8 × List UInt8)) : Option (List UInt8) := (t l).val
def F (x : D.den) : Option (List UInt8) := f x.1.1
def pa : D.den → (List UInt8) → A.den := fun ((l, _), _) y1 => ((l, ()), y1)
def con : Con := tcon D A pa F
theorem ok : ConOk Tryz.prog 27 con := tcon_ok Base.mixed Base.prog_ok bk_number_Put_ok (by kernel_rfl) (.cons L3.ok.used (by kernel_rfl) (.nil)) 9 (fun _ => rfl) (fun x => t x.1.1) (fun _ => rfl) fun _ _ _ => (by kernel_rfl)
end field_Put
def bk_field_Put : Book := bk_number_Put.add 27 field_Put.con
theorem bk_field_Put_ok : BookOk Tryz.prog bk_field_Put := bk_number_Put_ok.add field_Put.ok
namespace reply_Put
def D : Dom := ⟨[.vec (.pair .str .str) 30 true, .vec .byte 5 true], (.cat (.agg (.cat (.int .i64) (.cat (.sl 0 2) (.sl 1 1)))) (.cat .bool .bool))⟩
def A : Dom := ⟨[.vec (.pair .str .str) 30 true, .vec .byte 5 true, .vec .byte 5 false], (.sl 2 1)⟩
def sel : List Nat := [0, 1, 2, 3, 4]
def t (Fields : List (List UInt8 × List UInt8)) (Body : List UInt8) (Code : Int) (head : Bool) (closes : Bool) : Tr (List UInt8) :=
 .chk ((0 : Nat) + Fields.length ≤ Fields.length) <| .chk ((0 : Nat) + Body.length ≤ Body.length) <| .call (reply_Right.f (List.take Fields.length (List.drop (0 : Nat) Fields)) Code) fun y1 =>
 .br (!y1) (.ret [])
 (.br (Code == (204 : Int)) (.chk ((0 : Nat) + Fields.length ≤ Fields.length) <| .call (text_Without.f (List.take Fields.length (List.drop (0 : Nat) Fields)) [[(67 : UInt8), (111 : UInt8), (110 : UInt8), (116 : UInt8), (101 : UInt8), (110 : UInt8), (116 : UInt8), (45 : UInt8), (76 : UInt8), (101 : UInt8), (110 : UInt8), (103 : UInt8), (116 : UInt8), (104 : UInt8)], [(84 : UInt8), (114 : UInt8), (97 : UInt8), (110 : UInt8), (115 : UInt8), (102 : UInt8), (101 : UInt8), (114 : UInt8), (45 : UInt8), (69 : UInt8), (110 : UInt8), (99 : UInt8), (111 : UInt8), (100 : UInt8), (105 : UInt8), (110 : UInt8), (103 : UInt8)], [(67 : UInt8), (111 : UInt8), (110 : UInt8), (110 : UInt8), (101 : UInt8), (99 : UInt8), (116 : UInt8), (105 : UInt8), (111 : UInt8), (110 : UInt8)]]) fun y2 =>
  .br closes (.chk ((1 : Nat) ≤ (1 : Nat)) <| .chk ((0 : Nat) + y2.length ≤ y2.length) <| .chk ((y2.length + (1 : Nat)) * (32 : Nat) ≤ (140737488355328 : Nat)) <| .call (number_Put.f Code) fun y3 =>
   .chk ((↑([(72 : UInt8), (84 : UInt8), (84 : UInt8), (80 : UInt8), (47 : UInt8), (49 : UInt8), (46 : UInt8), (49 : UInt8), (32 : UInt8)].length + y3.length) : Int) ≤ (9223372036854775807 : Int)) <| .chk ((↑(([(72 : UInt8), (84 : UInt8), (84 : UInt8), (80 : UInt8), (47 : UInt8), (49 : UInt8), (46 : UInt8), (49 : UInt8), (32 : UInt8)] ++ y3).length + [(32 : UInt8)].length) : Int) ≤ (9223372036854775807 : Int)) <| .call (reply_Reason.f Code) fun y4 =>
   .chk ((↑(([(72 : UInt8), (84 : UInt8), (84 : UInt8), (80 : UInt8), (47 : UInt8), (49 : UInt8), (46 : UInt8), (49 : UInt8), (32 : UInt8)] ++ y3 ++ [(32 : UInt8)]).length + y4.length) : Int) ≤ (9223372036854775807 : Int)) <| .chk ((↑(([(72 : UInt8), (84 : UInt8), (84 : UInt8), (80 : UInt8), (47 : UInt8), (49 : UInt8), (46 : UInt8), (49 : UInt8), (32 : UInt8)] ++ y3 ++ [(32 : UInt8)] ++ y4).length + [(13 : UInt8), (10 : UInt8)].length) : Int) ≤ (9223372036854775807 : Int)) <| .chk ((0 : Nat) + (y2.length + (1 : Nat)) ≤ (List.take y2.length (List.drop (0 : Nat) y2) ++ List.take (1 : Nat) (List.drop (0 : Nat) [([(67 : UInt8), (111 : UInt8), (110 : UInt8), (110 : UInt8), (101 : UInt8), (99 : UInt8), (116 : UInt8), (105 : UInt8), (111 : UInt8), (110 : UInt8)], [(99 : UInt8), (108 : UInt8), (111 : UInt8), (115 : UInt8), (101 : UInt8)])])).length) <| .call (field_Put.f (List.take (y2.length + (1 : Nat)) (List.drop (0 : Nat) (List.take y2.length (List.drop (0 : Nat) y2) ++ List.take (1 : Nat) (List.drop (0 : Nat) [([(67 : UInt8), (111 : UInt8), (110 : UInt8), (110 : UInt8), (101 : UInt8), (99 : UInt8), (116 : UInt8), (105 : UInt8), (111 : UInt8), (110 : UInt8)], [(99 : UInt8), (108 : UInt8), (111 : UInt8), (115 : UInt8), (101 : UInt8)])]))))) fun y5 =>
   .chk ((↑(([(72 : UInt8), (84 : UInt8), (84 : UInt8), (80 : UInt8), (47 : UInt8), (49 : UInt8), (46 : UInt8), (49 : UInt8), (32 : UInt8)] ++ y3 ++ [(32 : UInt8)] ++ y4 ++ [(13 : UInt8), (10 : UInt8)]).length + y5.length) : Int) ≤ (9223372036854775807 : Int)) <| .chk ((↑(([(72 : UInt8), (84 : UInt8), (84 : UInt8), (80 : UInt8), (47 : UInt8), (49 : UInt8), (46 : UInt8), (49 : UInt8), (32 : UInt8)] ++ y3 ++ [(32 : UInt8)] ++ y4 ++ [(13 : UInt8), (10 : UInt8)] ++ y5).length + [(13 : UInt8), (10 : UInt8)].length) : Int) ≤ (9223372036854775807 : Int)) <| .chk (([(72 : UInt8), (84 : UInt8), (84 : UInt8), (80 : UInt8), (47 : UInt8), (49 : UInt8), (46 : UInt8), (49 : UInt8), (32 : UInt8)] ++ y3 ++ [(32 : UInt8)] ++ y4 ++ [(13 : UInt8), (10 : UInt8)] ++ y5 ++ [(13 : UInt8), (10 : UInt8)]).length * (1 : Nat) ≤ (140737488355328 : Nat)) <| .chk ((0 : Nat) < ([(72 : UInt8), (84 : UInt8), (84 : UInt8), (80 : UInt8), (47 : UInt8), (49 : UInt8), (46 : UInt8), (49 : UInt8), (32 : UInt8)] ++ y3 ++ [(32 : UInt8)] ++ y4 ++ [(13 : UInt8), (10 : UInt8)] ++ y5 ++ [(13 : UInt8), (10 : UInt8)]).length) <| .chk ((0 : Int) < (↑([(72 : UInt8), (84 : UInt8), (84 : UInt8), (80 : UInt8), (47 : UInt8), (49 : UInt8), (46 : UInt8), (49 : UInt8), (32 : UInt8)] ++ y3 ++ [(32 : UInt8)] ++ y4 ++ [(13 : UInt8), (10 : UInt8)] ++ y5 ++ [(13 : UInt8), (10 : UInt8)]).length : Int) ∧ (0 : Nat) + (↑([(72 : UInt8), (84 : UInt8), (84 : UInt8), (80 : UInt8), (47 : UInt8), (49 : UInt8), (46 : UInt8), (49 : UInt8), (32 : UInt8)] ++ y3 ++ [(32 : UInt8)] ++ y4 ++ [(13 : UInt8), (10 : UInt8)] ++ y5 ++ [(13 : UInt8), (10 : UInt8)]).length : Int).toNat ≤ ([] ++ ([(72 : UInt8), (84 : UInt8), (84 : UInt8), (80 : UInt8), (47 : UInt8), (49 : UInt8), (46 : UInt8), (49 : UInt8), (32 : UInt8)] ++ y3 ++ [(32 : UInt8)] ++ y4 ++ [(13 : UInt8), (10 : UInt8)] ++ y5 ++ [(13 : UInt8), (10 : UInt8)])).length ∧ (↑([(72 : UInt8), (84 : UInt8), (84 : UInt8), (80 : UInt8), (47 : UInt8), (49 : UInt8), (46 : UInt8), (49 : UInt8), (32 : UInt8)] ++ y3 ++ [(32 : UInt8)] ++ y4 ++ [(13 : UInt8), (10 : UInt8)] ++ y5 ++ [(13 : UInt8), (10 : UInt8)]).length : Int) ≤ (140737488355328 : Int)) <| .chk ((List.take (↑([(72 : UInt8), (84 : UInt8), (84 : UInt8), (80 : UInt8), (47 : UInt8), (49 : UInt8), (46 : UInt8), (49 : UInt8), (32 : UInt8)] ++ y3 ++ [(32 : UInt8)] ++ y4 ++ [(13 : UInt8), (10 : UInt8)] ++ y5 ++ [(13 : UInt8), (10 : UInt8)]).length : Int).toNat (List.drop (0 : Nat) ([] ++ ([(72 : UInt8), (84 : UInt8), (84 : UInt8), (80 : UInt8), (47 : UInt8), (49 : UInt8), (46 : UInt8), (49 : UInt8), (32 : UInt8)] ++ y3 ++ [(32 : UInt8)] ++ y4 ++ [(13 : UInt8), (10 : UInt8)] ++ y5 ++ [(13 : UInt8), (10 : UInt8)])))).length ≤ (140737488355328 : Nat)) <| .chk ((0 : Nat) = (0 : Nat) ∧ (List.take (↑([(72 : UInt8), (84 : UInt8), (84 : UInt8), (80 : UInt8), (47 : UInt8), (49 : UInt8), (46 : UInt8), (49 : UInt8), (32 : UInt8)] ++ y3 ++ [(32 : UInt8)] ++ y4 ++ [(13 : UInt8), (10 : UInt8)] ++ y5 ++ [(13 : UInt8), (10 : UInt8)]).length : Int).toNat (List.drop (0 : Nat) ([] ++ ([(72 : UInt8), (84 : UInt8), (84 : UInt8), (80 : UInt8), (47 : UInt8), (49 : UInt8), (46 : UInt8), (49 : UInt8), (32 : UInt8)] ++ y3 ++ [(32 : UInt8)] ++ y4 ++ [(13 : UInt8), (10 : UInt8)] ++ y5 ++ [(13 : UInt8), (10 : UInt8)])))).length = ([] ++ List.take (↑([(72 : UInt8), (84 : UInt8), (84 : UInt8), (80 : UInt8), (47 : UInt8), (49 : UInt8), (46 : UInt8), (49 : UInt8), (32 : UInt8)] ++ y3 ++ [(32 : UInt8)] ++ y4 ++ [(13 : UInt8), (10 : UInt8)] ++ y5 ++ [(13 : UInt8), (10 : UInt8)]).length : Int).toNat (List.drop (0 : Nat) ([] ++ ([(72 : UInt8), (84 : UInt8), (84 : UInt8), (80 : UInt8), (47 : UInt8), (49 : UInt8), (46 : UInt8), (49 : UInt8), (32 : UInt8)] ++ y3 ++ [(32 : UInt8)] ++ y4 ++ [(13 : UInt8), (10 : UInt8)] ++ y5 ++ [(13 : UInt8), (10 : UInt8)])))).length) <| .ret ([] ++ List.take (↑([(72 : UInt8), (84 : UInt8), (84 : UInt8), (80 : UInt8), (47 : UInt8), (49 : UInt8), (46 : UInt8), (49 : UInt8), (32 : UInt8)] ++ y3 ++ [(32 : UInt8)] ++ y4 ++ [(13 : UInt8), (10 : UInt8)] ++ y5 ++ [(13 : UInt8), (10 : UInt8)]).length : Int).toNat (List.drop (0 : Nat) ([] ++ ([(72 : UInt8), (84 : UInt8), (84 : UInt8), (80 : UInt8), (47 : UInt8), (49 : UInt8), (46 : UInt8), (49 : UInt8), (32 : UInt8)] ++ y3 ++ [(32 : UInt8)] ++ y4 ++ [(13 : UInt8), (10 : UInt8)] ++ y5 ++ [(13 : UInt8), (10 : UInt8)])))))
  (.call (number_Put.f Code) fun y6 =>
   .chk ((↑([(72 : UInt8), (84 : UInt8), (84 : UInt8), (80 : UInt8), (47 : UInt8), (49 : UInt8), (46 : UInt8), (49 : UInt8), (32 : UInt8)].length + y6.length) : Int) ≤ (9223372036854775807 : Int)) <| .chk ((↑(([(72 : UInt8), (84 : UInt8), (84 : UInt8), (80 : UInt8), (47 : UInt8), (49 : UInt8), (46 : UInt8), (49 : UInt8), (32 : UInt8)] ++ y6).length + [(32 : UInt8)].length) : Int) ≤ (9223372036854775807 : Int)) <| .call (reply_Reason.f Code) fun y7 =>
   .chk ((↑(([(72 : UInt8), (84 : UInt8), (84 : UInt8), (80 : UInt8), (47 : UInt8), (49 : UInt8), (46 : UInt8), (49 : UInt8), (32 : UInt8)] ++ y6 ++ [(32 : UInt8)]).length + y7.length) : Int) ≤ (9223372036854775807 : Int)) <| .chk ((↑(([(72 : UInt8), (84 : UInt8), (84 : UInt8), (80 : UInt8), (47 : UInt8), (49 : UInt8), (46 : UInt8), (49 : UInt8), (32 : UInt8)] ++ y6 ++ [(32 : UInt8)] ++ y7).length + [(13 : UInt8), (10 : UInt8)].length) : Int) ≤ (9223372036854775807 : Int)) <| .chk ((0 : Nat) + y2.length ≤ y2.length) <| .call (field_Put.f (List.take y2.length (List.drop (0 : Nat) y2))) fun y8 =>
   .chk ((↑(([(72 : UInt8), (84 : UInt8), (84 : UInt8), (80 : UInt8), (47 : UInt8), (49 : UInt8), (46 : UInt8), (49 : UInt8), (32 : UInt8)] ++ y6 ++ [(32 : UInt8)] ++ y7 ++ [(13 : UInt8), (10 : UInt8)]).length + y8.length) : Int) ≤ (9223372036854775807 : Int)) <| .chk ((↑(([(72 : UInt8), (84 : UInt8), (84 : UInt8), (80 : UInt8), (47 : UInt8), (49 : UInt8), (46 : UInt8), (49 : UInt8), (32 : UInt8)] ++ y6 ++ [(32 : UInt8)] ++ y7 ++ [(13 : UInt8), (10 : UInt8)] ++ y8).length + [(13 : UInt8), (10 : UInt8)].length) : Int) ≤ (9223372036854775807 : Int)) <| .chk (([(72 : UInt8), (84 : UInt8), (84 : UInt8), (80 : UInt8), (47 : UInt8), (49 : UInt8), (46 : UInt8), (49 : UInt8), (32 : UInt8)] ++ y6 ++ [(32 : UInt8)] ++ y7 ++ [(13 : UInt8), (10 : UInt8)] ++ y8 ++ [(13 : UInt8), (10 : UInt8)]).length * (1 : Nat) ≤ (140737488355328 : Nat)) <| .chk ((0 : Nat) < ([(72 : UInt8), (84 : UInt8), (84 : UInt8), (80 : UInt8), (47 : UInt8), (49 : UInt8), (46 : UInt8), (49 : UInt8), (32 : UInt8)] ++ y6 ++ [(32 : UInt8)] ++ y7 ++ [(13 : UInt8), (10 : UInt8)] ++ y8 ++ [(13 : UInt8), (10 : UInt8)]).length) <| .chk ((0 : Int) < (↑([(72 : UInt8), (84 : UInt8), (84 : UInt8), (80 : UInt8), (47 : UInt8), (49 : UInt8), (46 : UInt8), (49 : UInt8), (32 : UInt8)] ++ y6 ++ [(32 : UInt8)] ++ y7 ++ [(13 : UInt8), (10 : UInt8)] ++ y8 ++ [(13 : UInt8), (10 : UInt8)]).length : Int) ∧ (0 : Nat) + (↑([(72 : UInt8), (84 : UInt8), (84 : UInt8), (80 : UInt8), (47 : UInt8), (49 : UInt8), (46 : UInt8), (49 : UInt8), (32 : UInt8)] ++ y6 ++ [(32 : UInt8)] ++ y7 ++ [(13 : UInt8), (10 : UInt8)] ++ y8 ++ [(13 : UInt8), (10 : UInt8)]).length : Int).toNat ≤ ([] ++ ([(72 : UInt8), (84 : UInt8), (84 : UInt8), (80 : UInt8), (47 : UInt8), (49 : UInt8), (46 : UInt8), (49 : UInt8), (32 : UInt8)] ++ y6 ++ [(32 : UInt8)] ++ y7 ++ [(13 : UInt8), (10 : UInt8)] ++ y8 ++ [(13 : UInt8), (10 : UInt8)])).length ∧ (↑([(72 : UInt8), (84 : UInt8), (84 : UInt8), (80 : UInt8), (47 : UInt8), (49 : UInt8), (46 : UInt8), (49 : UInt8), (32 : UInt8)] ++ y6 ++ [(32 : UInt8)] ++ y7 ++ [(13 : UInt8), (10 : UInt8)] ++ y8 ++ [(13 : UInt8), (10 : UInt8)]).length : Int) ≤ (140737488355328 : Int)) <| .chk ((List.take (↑([(72 : UInt8), (84 : UInt8), (84 : UInt8), (80 : UInt8), (47 : UInt8), (49 : UInt8), (46 : UInt8), (49 : UInt8), (32 : UInt8)] ++ y6 ++ [(32 : UInt8)] ++ y7 ++ [(13 : UInt8), (10 : UInt8)] ++ y8 ++ [(13 : UInt8), (10 : UInt8)]).length : Int).toNat (List.drop (0 : Nat) ([] ++ ([(72 : UInt8), (84 : UInt8), (84 : UInt8), (80 : UInt8), (47 : UInt8), (49 : UInt8), (46 : UInt8), (49 : UInt8), (32 : UInt8)] ++ y6 ++ [(32 : UInt8)] ++ y7 ++ [(13 : UInt8), (10 : UInt8)] ++ y8 ++ [(13 : UInt8), (10 : UInt8)])))).length ≤ (140737488355328 : Nat)) <| .chk ((0 : Nat) = (0 : Nat) ∧ (List.take (↑([(72 : UInt8), (84 : UInt8), (84 : UInt8), (80 : UInt8), (47 : UInt8), (49 : UInt8), (46 : UInt8), (49 : UInt8), (32 : UInt8)] ++ y6 ++ [(32 : UInt8)] ++ y7 ++ [(13 : UInt8), (10 : UInt8)] ++ y8 ++ [(13 : UInt8), (10 : UInt8)]).length : Int).toNat (List.drop (0 : Nat) ([] ++ ([(72 : UInt8), (84 : UInt8), (84 : UInt8), (80 : UInt8), (47 : UInt8), (49 : UInt8), (46 : UInt8), (49 : UInt8), (32 : UInt8)] ++ y6 ++ [(32 : UInt8)] ++ y7 ++ [(13 : UInt8), (10 : UInt8)] ++ y8 ++ [(13 : UInt8), (10 : UInt8)])))).length = ([] ++ List.take (↑([(72 : UInt8), (84 : UInt8), (84 : UInt8), (80 : UInt8), (47 : UInt8), (49 : UInt8), (46 : UInt8), (49 : UInt8), (32 : UInt8)] ++ y6 ++ [(32 : UInt8)] ++ y7 ++ [(13 : UInt8), (10 : UInt8)] ++ y8 ++ [(13 : UInt8), (10 : UInt8)]).length : Int).toNat (List.drop (0 : Nat) ([] ++ ([(72 : UInt8), (84 : UInt8), (84 : UInt8), (80 : UInt8), (47 : UInt8), (49 : UInt8), (46 : UInt8), (49 : UInt8), (32 : UInt8)] ++ y6 ++ [(32 : UInt8)] ++ y7 ++ [(13 : UInt8), (10 : UInt8)] ++ y8 ++ [(13 : UInt8), (10 : UInt8)])))).length) <| .ret ([] ++ List.take (↑([(72 : UInt8), (84 : UInt8), (84 : UInt8), (80 : UInt8), (47 : UInt8), (49 : UInt8), (46 : UInt8), (49 : UInt8), (32 : UInt8)] ++ y6 ++ [(32 : UInt8)] ++ y7 ++ [(13 : UInt8), (10 : UInt8)] ++ y8 ++ [(13 : UInt8), (10 : UInt8)]).length : Int).toNat (List.drop (0 : Nat) ([] ++ ([(72 : UInt8), (84 : UInt8), (84 : UInt8), (80 : UInt8), (47 : UInt8), (49 : UInt8), (46 : UInt8), (49 : UInt8), (32 : UInt8)] ++ y6 ++ [(32 : UInt8)] ++ y7 ++ [(13 : UInt8), (10 : UInt8)] ++ y8 ++ [(13 : UInt8), (10 : UInt8)]))))))
  (.chk ((0 : Nat) + Fields.length ≤ Fields.length) <| .call (text_Without.f (List.take Fields.length (List.drop (0 : Nat) Fields)) [[(67 : UInt8), (111 : UInt8), (110 : UInt8), (116 : UInt8), (101 : UInt8), (110 : UInt8), (116 : UInt8), (45 : UInt8), (76 : UInt8), (101 : UInt8), (110 : UInt8), (103 : UInt8), (116 : UInt8), (104 : UInt8)], [(84 : UInt8), (114 : UInt8), (97 : UInt8), (110 : UInt8), (115 : UInt8), (102 : UInt8), (101 : UInt8), (114 : UInt8), (45 : UInt8), (69 : UInt8), (110 : UInt8), (99 : UInt8), (111 : UInt8), (100 : UInt8), (105 : UInt8), (110 : UInt8), (103 : UInt8)], [(67 : UInt8), (111 : UInt8), (110 : UInt8), (110 : UInt8), (101 : UInt8), (99 : UInt8), (116 : UInt8), (105 : UInt8), (111 : UInt8), (110 : UInt8)]]) fun y9 =>
  .br (!Code == (304 : Int)) (.call (number_Put.f (↑Body.length : Int)) fun y10 =>
   .chk ((1 : Nat) ≤ [([(67 : UInt8), (111 : UInt8), (110 : UInt8), (116 : UInt8), (101 : UInt8), (110 : UInt8), (116 : UInt8), (45 : UInt8), (76 : UInt8), (101 : UInt8), (110 : UInt8), (103 : UInt8), (116 : UInt8), (104 : UInt8)], y10)].length) <| .chk ((0 : Nat) + y9.length ≤ y9.length) <| .chk ((y9.length + (1 : Nat)) * (32 : Nat) ≤ (140737488355328 : Nat)) <| .br closes (.chk ((1 : Nat) ≤ (1 : Nat)) <| .chk ((0 : Nat) + (y9.length + (1 : Nat)) ≤ (List.take y9.length (List.drop (0 : Nat) y9) ++ List.take (1 : Nat) (List.drop (0 : Nat) [([(67 : UInt8), (111 : UInt8), (110 : UInt8), (116 : UInt8), (101 : UInt8), (110 : UInt8), (116 : UInt8), (45 : UInt8), (76 : UInt8), (101 : UInt8), (110 : UInt8), (103 : UInt8), (116 : UInt8), (104 : UInt8)], y10)])).length) <| .chk ((y9.length + (1 : Nat) + (1 : Nat)) * (32 : Nat) ≤ (140737488355328 : Nat)) <| .call (number_Put.f Code) fun y11 =>
   .chk ((↑([(72 : UInt8), (84 : UInt8), (84 : UInt8), (80 : UInt8), (47 : UInt8), (49 : UInt8), (46 : UInt8), (49 : UInt8), (32 : UInt8)].length + y11.length) : Int) ≤ (9223372036854775807 : Int)) <| .chk ((↑(([(72 : UInt8), (84 : UInt8), (84 : UInt8), (80 : UInt8), (47 : UInt8), (49 : UInt8), (46 : UInt8), (49 : UInt8), (32 : UInt8)] ++ y11).length + [(32 : UInt8)].length) : Int) ≤ (9223372036854775807 : Int)) <| .call (reply_Reason.f Code) fun y12 =>
   .chk ((↑(([(72 : UInt8), (84 : UInt8), (84 : UInt8), (80 : UInt8), (47 : UInt8), (49 : UInt8), (46 : UInt8), (49 : UInt8), (32 : UInt8)] ++ y11 ++ [(32 : UInt8)]).length + y12.length) : Int) ≤ (9223372036854775807 : Int)) <| .chk ((↑(([(72 : UInt8), (84 : UInt8), (84 : UInt8), (80 : UInt8), (47 : UInt8), (49 : UInt8), (46 : UInt8), (49 : UInt8), (32 : UInt8)] ++ y11 ++ [(32 : UInt8)] ++ y12).length + [(13 : UInt8), (10 : UInt8)].length) : Int) ≤ (9223372036854775807 : Int)) <| .chk ((0 : Nat) + (y9.length + (1 : Nat) + (1 : Nat)) ≤ (List.take (y9.length + (1 : Nat)) (List.drop (0 : Nat) (List.take y9.length (List.drop (0 : Nat) y9) ++ List.take (1 : Nat) (List.drop (0 : Nat) [([(67 : UInt8), (111 : UInt8), (110 : UInt8), (116 : UInt8), (101 : UInt8), (110 : UInt8), (116 : UInt8), (45 : UInt8), (76 : UInt8), (101 : UInt8), (110 : UInt8), (103 : UInt8), (116 : UInt8), (104 : UInt8)], y10)]))) ++ List.take (1 : Nat) (List.drop (0 : Nat) [([(67 : UInt8), (111 : UInt8), (110 : UInt8), (110 : UInt8), (101 : UInt8), (99 : UInt8), (116 : UInt8), (105 : UInt8), (111 : UInt8), (110 : UInt8)], [(99 : UInt8), (108 : UInt8), (111 : UInt8), (115 : UInt8), (101 : UInt8)])])).length) <| .call (field_Put.f (List.take (y9.length + (1 : Nat) + (1 : Nat)) (List.drop (0 : Nat) (List.take (y9.length + (1 : Nat)) (List.drop (0 : Nat) (List.take y9.length (List.drop (0 : Nat) y9) ++ List.take (1 : Nat) (List.drop (0 : Nat) [([(67 : UInt8), (111 : UInt8), (110 : UInt8), (116 : UInt8), (101 : UInt8), (110 : UInt8), (116 : UInt8), (45 : UInt8), (76 : UInt8), (101 : UInt8), (110 : UInt8), (103 : UInt8), (116 : UInt8), (104 : UInt8)], y10)]))) ++ List.take (1 : Nat) (List.drop (0 : Nat) [([(67 : UInt8), (111 : UInt8), (110 : UInt8), (110 : UInt8), (101 : UInt8), (99 : UInt8), (116 : UInt8), (105 : UInt8), (111 : UInt8), (110 : UInt8)], [(99 : UInt8), (108 : UInt8), (111 : UInt8), (115 : UInt8), (101 : UInt8)])]))))) fun y13 =>
   .chk ((↑(([(72 : UInt8), (84 : UInt8), (84 : UInt8), (80 : UInt8), (47 : UInt8), (49 : UInt8), (46 : UInt8), (49 : UInt8), (32 : UInt8)] ++ y11 ++ [(32 : UInt8)] ++ y12 ++ [(13 : UInt8), (10 : UInt8)]).length + y13.length) : Int) ≤ (9223372036854775807 : Int)) <| .chk ((↑(([(72 : UInt8), (84 : UInt8), (84 : UInt8), (80 : UInt8), (47 : UInt8), (49 : UInt8), (46 : UInt8), (49 : UInt8), (32 : UInt8)] ++ y11 ++ [(32 : UInt8)] ++ y12 ++ [(13 : UInt8), (10 : UInt8)] ++ y13).length + [(13 : UInt8), (10 : UInt8)].length) : Int) ≤ (9223372036854775807 : Int)) <| .chk (([(72 : UInt8), (84 : UInt8), (84 : UInt8), (80 : UInt8), (47 : UInt8), (49 : UInt8), (46 : UInt8), (49 : UInt8), (32 : UInt8)] ++ y11 ++ [(32 : UInt8)] ++ y12 ++ [(13 : UInt8), (10 : UInt8)] ++ y13 ++ [(13 : UInt8), (10 : UInt8)]).length * (1 : Nat) ≤ (140737488355328 : Nat)) <| .br (!Code == (304 : Int)) (.br (!head) (.chk ((0 : Nat) + Body.length ≤ Body.length) <| .chk ((0 : Nat) + ([(72 : UInt8), (84 : UInt8), (84 : UInt8), (80 : UInt8), (47 : UInt8), (49 : UInt8), (46 : UInt8), (49 : UInt8), (32 : UInt8)] ++ y11 ++ [(32 : UInt8)] ++ y12 ++ [(13 : UInt8), (10 : UInt8)] ++ y13 ++ [(13 : UInt8), (10 : UInt8)]).length ≤ ([] ++ ([(72 : UInt8), (84 : UInt8), (84 : UInt8), (80 : UInt8), (47 : UInt8), (49 : UInt8), (46 : UInt8), (49 : UInt8), (32 : UInt8)] ++ y11 ++ [(32 : UInt8)] ++ y12 ++ [(13 : UInt8), (10 : UInt8)] ++ y13 ++ [(13 : UInt8), (10 : UInt8)])).length) <| .chk ((([(72 : UInt8), (84 : UInt8), (84 : UInt8), (80 : UInt8), (47 : UInt8), (49 : UInt8), (46 : UInt8), (49 : UInt8), (32 : UInt8)] ++ y11 ++ [(32 : UInt8)] ++ y12 ++ [(13 : UInt8), (10 : UInt8)] ++ y13 ++ [(13 : UInt8), (10 : UInt8)]).length + Body.length) * (1 : Nat) ≤ (140737488355328 : Nat)) <| .chk ((0 : Nat) < ([(72 : UInt8), (84 : UInt8), (84 : UInt8), (80 : UInt8), (47 : UInt8), (49 : UInt8), (46 : UInt8), (49 : UInt8), (32 : UInt8)] ++ y11 ++ [(32 : UInt8)] ++ y12 ++ [(13 : UInt8), (10 : UInt8)] ++ y13 ++ [(13 : UInt8), (10 : UInt8)]).length + Body.length) <| .chk ((0 : Int) < (↑(([(72 : UInt8), (84 : UInt8), (84 : UInt8), (80 : UInt8), (47 : UInt8), (49 : UInt8), (46 : UInt8), (49 : UInt8), (32 : UInt8)] ++ y11 ++ [(32 : UInt8)] ++ y12 ++ [(13 : UInt8), (10 : UInt8)] ++ y13 ++ [(13 : UInt8), (10 : UInt8)]).length + Body.length) : Int) ∧ (0 : Nat) + (↑(([(72 : UInt8), (84 : UInt8), (84 : UInt8), (80 : UInt8), (47 : UInt8), (49 : UInt8), (46 : UInt8), (49 : UInt8), (32 : UInt8)] ++ y11 ++ [(32 : UInt8)] ++ y12 ++ [(13 : UInt8), (10 : UInt8)] ++ y13 ++ [(13 : UInt8), (10 : UInt8)]).length + Body.length) : Int).toNat ≤ (List.take ([(72 : UInt8), (84 : UInt8), (84 : UInt8), (80 : UInt8), (47 : UInt8), (49 : UInt8), (46 : UInt8), (49 : UInt8), (32 : UInt8)] ++ y11 ++ [(32 : UInt8)] ++ y12 ++ [(13 : UInt8), (10 : UInt8)] ++ y13 ++ [(13 : UInt8), (10 : UInt8)]).length (List.drop (0 : Nat) ([] ++ ([(72 : UInt8), (84 : UInt8), (84 : UInt8), (80 : UInt8), (47 : UInt8), (49 : UInt8), (46 : UInt8), (49 : UInt8), (32 : UInt8)] ++ y11 ++ [(32 : UInt8)] ++ y12 ++ [(13 : UInt8), (10 : UInt8)] ++ y13 ++ [(13 : UInt8), (10 : UInt8)]))) ++ List.take Body.length (List.drop (0 : Nat) Body)).length ∧ (↑(([(72 : UInt8), (84 : UInt8), (84 : UInt8), (80 : UInt8), (47 : UInt8), (49 : UInt8), (46 : UInt8), (49 : UInt8), (32 : UInt8)] ++ y11 ++ [(32 : UInt8)] ++ y12 ++ [(13 : UInt8), (10 : UInt8)] ++ y13 ++ [(13 : UInt8), (10 : UInt8)]).length + Body.length) : Int) ≤ (140737488355328 : Int)) <| .chk ((List.take (↑(([(72 : UInt8), (84 : UInt8), (84 : UInt8), (80 : UInt8), (47 : UInt8), (49 : UInt8), (46 : UInt8), (49 : UInt8), (32 : UInt8)] ++ y11 ++ [(32 : UInt8)] ++ y12 ++ [(13 : UInt8), (10 : UInt8)] ++ y13 ++ [(13 : UInt8), (10 : UInt8)]).length + Body.length) : Int).toNat (List.drop (0 : Nat) (List.take ([(72 : UInt8), (84 : UInt8), (84 : UInt8), (80 : UInt8), (47 : UInt8), (49 : UInt8), (46 : UInt8), (49 : UInt8), (32 : UInt8)] ++ y11 ++ [(32 : UInt8)] ++ y12 ++ [(13 : UInt8), (10 : UInt8)] ++ y13 ++ [(13 : UInt8), (10 : UInt8)]).length (List.drop (0 : Nat) ([] ++ ([(72 : UInt8), (84 : UInt8), (84 : UInt8), (80 : UInt8), (47 : UInt8), (49 : UInt8), (46 : UInt8), (49 : UInt8), (32 : UInt8)] ++ y11 ++ [(32 : UInt8)] ++ y12 ++ [(13 : UInt8), (10 : UInt8)] ++ y13 ++ [(13 : UInt8), (10 : UInt8)]))) ++ List.take Body.length (List.drop (0 : Nat) Body)))).length ≤ (140737488355328 : Nat)) <| .chk ((0 : Nat) = (0 : Nat) ∧ (List.take (↑(([(72 : UInt8), (84 : UInt8), (84 : UInt8), (80 : UInt8), (47 : UInt8), (49 : UInt8), (46 : UInt8), (49 : UInt8), (32 : UInt8)] ++ y11 ++ [(32 : UInt8)] ++ y12 ++ [(13 : UInt8), (10 : UInt8)] ++ y13 ++ [(13 : UInt8), (10 : UInt8)]).length + Body.length) : Int).toNat (List.drop (0 : Nat) (List.take ([(72 : UInt8), (84 : UInt8), (84 : UInt8), (80 : UInt8), (47 : UInt8), (49 : UInt8), (46 : UInt8), (49 : UInt8), (32 : UInt8)] ++ y11 ++ [(32 : UInt8)] ++ y12 ++ [(13 : UInt8), (10 : UInt8)] ++ y13 ++ [(13 : UInt8), (10 : UInt8)]).length (List.drop (0 : Nat) ([] ++ ([(72 : UInt8), (84 : UInt8), (84 : UInt8), (80 : UInt8), (47 : UInt8), (49 : UInt8), (46 : UInt8), (49 : UInt8), (32 : UInt8)] ++ y11 ++ [(32 : UInt8)] ++ y12 ++ [(13 : UInt8), (10 : UInt8)] ++ y13 ++ [(13 : UInt8), (10 : UInt8)]))) ++ List.take Body.length (List.drop (0 : Nat) Body)))).length = ([] ++ List.take (↑(([(72 : UInt8), (84 : UInt8), (84 : UInt8), (80 : UInt8), (47 : UInt8), (49 : UInt8), (46 : UInt8), (49 : UInt8), (32 : UInt8)] ++ y11 ++ [(32 : UInt8)] ++ y12 ++ [(13 : UInt8), (10 : UInt8)] ++ y13 ++ [(13 : UInt8), (10 : UInt8)]).length + Body.length) : Int).toNat (List.drop (0 : Nat) (List.take ([(72 : UInt8), (84 : UInt8), (84 : UInt8), (80 : UInt8), (47 : UInt8), (49 : UInt8), (46 : UInt8), (49 : UInt8), (32 : UInt8)] ++ y11 ++ [(32 : UInt8)] ++ y12 ++ [(13 : UInt8), (10 : UInt8)] ++ y13 ++ [(13 : UInt8), (10 : UInt8)]).length (List.drop (0 : Nat) ([] ++ ([(72 : UInt8), (84 : UInt8), (84 : UInt8), (80 : UInt8), (47 : UInt8), (49 : UInt8), (46 : UInt8), (49 : UInt8), (32 : UInt8)] ++ y11 ++ [(32 : UInt8)] ++ y12 ++ [(13 : UInt8), (10 : UInt8)] ++ y13 ++ [(13 : UInt8), (10 : UInt8)]))) ++ List.take Body.length (List.drop (0 : Nat) Body)))).length) <| .ret ([] ++ List.take (↑(([(72 : UInt8), (84 : UInt8), (84 : UInt8), (80 : UInt8), (47 : UInt8), (49 : UInt8), (46 : UInt8), (49 : UInt8), (32 : UInt8)] ++ y11 ++ [(32 : UInt8)] ++ y12 ++ [(13 : UInt8), (10 : UInt8)] ++ y13 ++ [(13 : UInt8), (10 : UInt8)]).length + Body.length) : Int).toNat (List.drop (0 : Nat) (List.take ([(72 : UInt8), (84 : UInt8), (84 : UInt8), (80 : UInt8), (47 : UInt8), (49 : UInt8), (46 : UInt8), (49 : UInt8), (32 : UInt8)] ++ y11 ++ [(32 : UInt8)] ++ y12 ++ [(13 : UInt8), (10 : UInt8)] ++ y13 ++ [(13 : UInt8), (10 : UInt8)]).length (List.drop (0 : Nat) ([] ++ ([(72 : UInt8), (84 : UInt8), (84 : UInt8), (80 : UInt8), (47 : UInt8), (49 : UInt8), (46 : UInt8), (49 : UInt8), (32 : UInt8)] ++ y11 ++ [(32 : UInt8)] ++ y12 ++ [(13 : UInt8), (10 : UInt8)] ++ y13 ++ [(13 : UInt8), (10 : UInt8)]))) ++ List.take Body.length (List.drop (0 : Nat) Body)))))
    (.chk ((0 : Nat) < ([(72 : UInt8), (84 : UInt8), (84 : UInt8), (80 : UInt8), (47 : UInt8), (49 : UInt8), (46 : UInt8), (49 : UInt8), (32 : UInt8)] ++ y11 ++ [(32 : UInt8)] ++ y12 ++ [(13 : UInt8), (10 : UInt8)] ++ y13 ++ [(13 : UInt8), (10 : UInt8)]).length) <| .chk ((0 : Int) < (↑([(72 : UInt8), (84 : UInt8), (84 : UInt8), (80 : UInt8), (47 : UInt8), (49 : UInt8), (46 : UInt8), (49 : UInt8), (32 : UInt8)] ++ y11 ++ [(32 : UInt8)] ++ y12 ++ [(13 : UInt8), (10 : UInt8)] ++ y13 ++ [(13 : UInt8), (10 : UInt8)]).length : Int) ∧ (0 : Nat) + (↑([(72 : UInt8), (84 : UInt8), (84 : UInt8), (80 : UInt8), (47 : UInt8), (49 : UInt8), (46 : UInt8), (49 : UInt8), (32 : UInt8)] ++ y11 ++ [(32 : UInt8)] ++ y12 ++ [(13 : UInt8), (10 : UInt8)] ++ y13 ++ [(13 : UInt8), (10 : UInt8)]).length : Int).toNat ≤ ([] ++ ([(72 : UInt8), (84 : UInt8), (84 : UInt8), (80 : UInt8), (47 : UInt8), (49 : UInt8), (46 : UInt8), (49 : UInt8), (32 : UInt8)] ++ y11 ++ [(32 : UInt8)] ++ y12 ++ [(13 : UInt8), (10 : UInt8)] ++ y13 ++ [(13 : UInt8), (10 : UInt8)])).length ∧ (↑([(72 : UInt8), (84 : UInt8), (84 : UInt8), (80 : UInt8), (47 : UInt8), (49 : UInt8), (46 : UInt8), (49 : UInt8), (32 : UInt8)] ++ y11 ++ [(32 : UInt8)] ++ y12 ++ [(13 : UInt8), (10 : UInt8)] ++ y13 ++ [(13 : UInt8), (10 : UInt8)]).length : Int) ≤ (140737488355328 : Int)) <| .chk ((List.take (↑([(72 : UInt8), (84 : UInt8), (84 : UInt8), (80 : UInt8), (47 : UInt8), (49 : UInt8), (46 : UInt8), (49 : UInt8), (32 : UInt8)] ++ y11 ++ [(32 : UInt8)] ++ y12 ++ [(13 : UInt8), (10 : UInt8)] ++ y13 ++ [(13 : UInt8), (10 : UInt8)]).length : Int).toNat (List.drop (0 : Nat) ([] ++ ([(72 : UInt8), (84 : UInt8), (84 : UInt8), (80 : UInt8), (47 : UInt8), (49 : UInt8), (46 : UInt8), (49 : UInt8), (32 : UInt8)] ++ y11 ++ [(32 : UInt8)] ++ y12 ++ [(13 : UInt8), (10 : UInt8)] ++ y13 ++ [(13 : UInt8), (10 : UInt8)])))).length ≤ (140737488355328 : Nat)) <| .chk ((0 : Nat) = (0 : Nat) ∧ (List.take (↑([(72 : UInt8), (84 : UInt8), (84 : UInt8), (80 : UInt8), (47 : UInt8), (49 : UInt8), (46 : UInt8), (49 : UInt8), (32 : UInt8)] ++ y11 ++ [(32 : UInt8)] ++ y12 ++ [(13 : UInt8), (10 : UInt8)] ++ y13 ++ [(13 : UInt8), (10 : UInt8)]).length : Int).toNat (List.drop (0 : Nat) ([] ++ ([(72 : UInt8), (84 : UInt8), (84 : UInt8), (80 : UInt8), (47 : UInt8), (49 : UInt8), (46 : UInt8), (49 : UInt8), (32 : UInt8)] ++ y11 ++ [(32 : UInt8)] ++ y12 ++ [(13 : UInt8), (10 : UInt8)] ++ y13 ++ [(13 : UInt8), (10 : UInt8)])))).length = ([] ++ List.take (↑([(72 : UInt8), (84 : UInt8), (84 : UInt8), (80 : UInt8), (47 : UInt8), (49 : UInt8), (46 : UInt8), (49 : UInt8), (32 : UInt8)] ++ y11 ++ [(32 : UInt8)] ++ y12 ++ [(13 : UInt8), (10 : UInt8)] ++ y13 ++ [(13 : UInt8), (10 : UInt8)]).length : Int).toNat (List.drop (0 : Nat) ([] ++ ([(72 : UInt8), (84 : UInt8), (84 : UInt8), (80 : UInt8), (47 : UInt8), (49 : UInt8), (46 : UInt8), (49 : UInt8), (32 : UInt8)] ++ y11 ++ [(32 : UInt8)] ++ y12 ++ [(13 : UInt8), (10 : UInt8)] ++ y13 ++ [(13 : UInt8), (10 : UInt8)])))).length) <| .ret ([] ++ List.take (↑([(72 : UInt8), (84 : UInt8), (84 : UInt8), (80 : UInt8), (47 : UInt8), (49 : UInt8), (46 : UInt8), (49 : UInt8), (32 : UInt8)] ++ y11 ++ [(32 : UInt8)] ++ y12 ++ [(13 : UInt8), (10 : UInt8)] ++ y13 ++ [(13 : UInt8), (10 : UInt8)]).length : Int).toNat (List.drop (0 : Nat) ([] ++ ([(72 : UInt8), (84 : UInt8), (84 : UInt8), (80 : UInt8), (47 : UInt8), (49 : UInt8), (46 : UInt8), (49 : UInt8), (32 : UInt8)] ++ y11 ++ [(32 : UInt8)] ++ y12 ++ [(13 : UInt8), (10 : UInt8)] ++ y13 ++ [(13 : UInt8), (10 : UInt8)]))))))
   (.chk ((0 : Nat) < ([(72 : UInt8), (84 : UInt8), (84 : UInt8), (80 : UInt8), (47 : UInt8), (49 : UInt8), (46 : UInt8), (49 : UInt8), (32 : UInt8)] ++ y11 ++ [(32 : UInt8)] ++ y12 ++ [(13 : UInt8), (10 : UInt8)] ++ y13 ++ [(13 : UInt8), (10 : UInt8)]).length) <| .chk ((0 : Int) < (↑([(72 : UInt8), (84 : UInt8), (84 : UInt8), (80 : UInt8), (47 : UInt8), (49 : UInt8), (46 : UInt8), (49 : UInt8), (32 : UInt8)] ++ y11 ++ [(32 : UInt8)] ++ y12 ++ [(13 : UInt8), (10 : UInt8)] ++ y13 ++ [(13 : UInt8), (10 : UInt8)]).length : Int) ∧ (0 : Nat) + (↑([(72 : UInt8), (84 : UInt8), (84 : UInt8), (80 : UInt8), (47 : UInt8), (49 : UInt8), (46 : UInt8), (49 : UInt8), (32 : UInt8)] ++ y11 ++ [(32 : UInt8)] ++ y12 ++ [(13 : UInt8), (10 : UInt8)] ++ y13 ++ [(13 : UInt8), (10 : UInt8)]).length : Int).toNat ≤ ([] ++ ([(72 : UInt8), (84 : UInt8), (84 : UInt8), (80 : UInt8), (47 : UInt8), (49 : UInt8), (46 : UInt8), (49 : UInt8), (32 : UInt8)] ++ y11 ++ [(32 : UInt8)] ++ y12 ++ [(13 : UInt8), (10 : UInt8)] ++ y13 ++ [(13 : UInt8), (10 : UInt8)])).length ∧ (↑([(72 : UInt8), (84 : UInt8), (84 : UInt8), (80 : UInt8), (47 : UInt8), (49 : UInt8), (46 : UInt8), (49 : UInt8), (32 : UInt8)] ++ y11 ++ [(32 : UInt8)] ++ y12 ++ [(13 : UInt8), (10 : UInt8)] ++ y13 ++ [(13 : UInt8), (10 : UInt8)]).length : Int) ≤ (140737488355328 : Int)) <| .chk ((List.take (↑([(72 : UInt8), (84 : UInt8), (84 : UInt8), (80 : UInt8), (47 : UInt8), (49 : UInt8), (46 : UInt8), (49 : UInt8), (32 : UInt8)] ++ y11 ++ [(32 : UInt8)] ++ y12 ++ [(13 : UInt8), (10 : UInt8)] ++ y13 ++ [(13 : UInt8), (10 : UInt8)]).length : Int).toNat (List.drop (0 : Nat) ([] ++ ([(72 : UInt8), (84 : UInt8), (84 : UInt8), (80 : UInt8), (47 : UInt8), (49 : UInt8), (46 : UInt8), (49 : UInt8), (32 : UInt8)] ++ y11 ++ [(32 : UInt8)] ++ y12 ++ [(13 : UInt8), (10 : UInt8)] ++ y13 ++ [(13 : UInt8), (10 : UInt8)])))).length ≤ (140737488355328 : Nat)) <| .chk ((0 : Nat) = (0 : Nat) ∧ (List.take (↑([(72 : UInt8), (84 : UInt8), (84 : UInt8), (80 : UInt8), (47 : UInt8), (49 : UInt8), (46 : UInt8), (49 : UInt8), (32 : UInt8)] ++ y11 ++ [(32 : UInt8)] ++ y12 ++ [(13 : UInt8), (10 : UInt8)] ++ y13 ++ [(13 : UInt8), (10 : UInt8)]).length : Int).toNat (List.drop (0 : Nat) ([] ++ ([(72 : UInt8), (84 : UInt8), (84 : UInt8), (80 : UInt8), (47 : UInt8), (49 : UInt8), (46 : UInt8), (49 : UInt8), (32 : UInt8)] ++ y11 ++ [(32 : UInt8)] ++ y12 ++ [(13 : UInt8), (10 : UInt8)] ++ y13 ++ [(13 : UInt8), (10 : UInt8)])))).length = ([] ++ List.take (↑([(72 : UInt8), (84 : UInt8), (84 : UInt8), (80 : UInt8), (47 : UInt8), (49 : UInt8), (46 : UInt8), (49 : UInt8), (32 : UInt8)] ++ y11 ++ [(32 : UInt8)] ++ y12 ++ [(13 : UInt8), (10 : UInt8)] ++ y13 ++ [(13 : UInt8), (10 : UInt8)]).length : Int).toNat (List.drop (0 : Nat) ([] ++ ([(72 : UInt8), (84 : UInt8), (84 : UInt8), (80 : UInt8), (47 : UInt8), (49 : UInt8), (46 : UInt8), (49 : UInt8), (32 : UInt8)] ++ y11 ++ [(32 : UInt8)] ++ y12 ++ [(13 : UInt8), (10 : UInt8)] ++ y13 ++ [(13 : UInt8), (10 : UInt8)])))).length) <| .ret ([] ++ List.take (↑([(72 : UInt8), (84 : UInt8), (84 : UInt8), (80 : UInt8), (47 : UInt8), (49 : UInt8), (46 : UInt8), (49 : UInt8), (32 : UInt8)] ++ y11 ++ [(32 : UInt8)] ++ y12 ++ [(13 : UInt8), (10 : UInt8)] ++ y13 ++ [(13 : UInt8), (10 : UInt8)]).length : Int).toNat (List.drop (0 : Nat) ([] ++ ([(72 : UInt8), (84 : UInt8), (84 : UInt8), (80 : UInt8), (47 : UInt8), (49 : UInt8), (46 : UInt8), (49 : UInt8), (32 : UInt8)] ++ y11 ++ [(32 : UInt8)] ++ y12 ++ [(13 : UInt8), (10 : UInt8)] ++ y13 ++ [(13 : UInt8), (10 : UInt8)]))))))
   (.call (number_Put.f Code) fun y14 =>
   .chk ((↑([(72 : UInt8), (84 : UInt8), (84 : UInt8), (80 : UInt8), (47 : UInt8), (49 : UInt8), (46 : UInt8), (49 : UInt8), (32 : UInt8)].length + y14.length) : Int) ≤ (9223372036854775807 : Int)) <| .chk ((↑(([(72 : UInt8), (84 : UInt8), (84 : UInt8), (80 : UInt8), (47 : UInt8), (49 : UInt8), (46 : UInt8), (49 : UInt8), (32 : UInt8)] ++ y14).length + [(32 : UInt8)].length) : Int) ≤ (9223372036854775807 : Int)) <| .call (reply_Reason.f Code) fun y15 =>
   .chk ((↑(([(72 : UInt8), (84 : UInt8), (84 : UInt8), (80 : UInt8), (47 : UInt8), (49 : UInt8), (46 : UInt8), (49 : UInt8), (32 : UInt8)] ++ y14 ++ [(32 : UInt8)]).length + y15.length) : Int) ≤ (9223372036854775807 : Int)) <| .chk ((↑(([(72 : UInt8), (84 : UInt8), (84 : UInt8), (80 : UInt8), (47 : UInt8), (49 : UInt8), (46 : UInt8), (49 : UInt8), (32 : UInt8)] ++ y14 ++ [(32 : UInt8)] ++ y15).length + [(13 : UInt8), (10 : UInt8)].length) : Int) ≤ (9223372036854775807 : Int)) <| .chk ((0 : Nat) + (y9.length + (1 : Nat)) ≤ (List.take y9.length (List.drop (0 : Nat) y9) ++ List.take (1 : Nat) (List.drop (0 : Nat) [([(67 : UInt8), (111 : UInt8), (110 : UInt8), (116 : UInt8), (101 : UInt8), (110 : UInt8), (116 : UInt8), (45 : UInt8), (76 : UInt8), (101 : UInt8), (110 : UInt8), (103 : UInt8), (116 : UInt8), (104 : UInt8)], y10)])).length) <| .call (field_Put.f (List.take (y9.length + (1 : Nat)) (List.drop (0 : Nat) (List.take y9.length (List.drop (0 : Nat) y9) ++ List.take (1 : Nat) (List.drop (0 : Nat) [([(67 : UInt8), (111 : UInt8), (110 : UInt8), (116 : UInt8), (101 : UInt8), (110 : UInt8), (116 : UInt8), (45 : UInt8), (76 : UInt8), (101 : UInt8), (110 : UInt8), (103 : UInt8), (116 : UInt8), (104 : UInt8)], y10)]))))) fun y16 =>
   .chk ((↑(([(72 : UInt8), (84 : UInt8), (84 : UInt8), (80 : UInt8), (47 : UInt8), (49 : UInt8), (46 : UInt8), (49 : UInt8), (32 : UInt8)] ++ y14 ++ [(32 : UInt8)] ++ y15 ++ [(13 : UInt8), (10 : UInt8)]).length + y16.length) : Int) ≤ (9223372036854775807 : Int)) <| .chk ((↑(([(72 : UInt8), (84 : UInt8), (84 : UInt8), (80 : UInt8), (47 : UInt8), (49 : UInt8), (46 : UInt8), (49 : UInt8), (32 : UInt8)] ++ y14 ++ [(32 : UInt8)] ++ y15 ++ [(13 : UInt8), (10 : UInt8)] ++ y16).length + [(13 : UInt8), (10 : UInt8)].length) : Int) ≤ (9223372036854775807 : Int)) <| .chk (([(72 : UInt8), (84 : UInt8), (84 : UInt8), (80 : UInt8), (47 : UInt8), (49 : UInt8), (46 : UInt8), (49 : UInt8), (32 : UInt8)] ++ y14 ++ [(32 : UInt8)] ++ y15 ++ [(13 : UInt8), (10 : UInt8)] ++ y16 ++ [(13 : UInt8), (10 : UInt8)]).length * (1 : Nat) ≤ (140737488355328 : Nat)) <| .br (!Code == (304 : Int)) (.br (!head) (.chk ((0 : Nat) + Body.length ≤ Body.length) <| .chk ((0 : Nat) + ([(72 : UInt8), (84 : UInt8), (84 : UInt8), (80 : UInt8), (47 : UInt8), (49 : UInt8), (46 : UInt8), (49 : UInt8), (32 : UInt8)] ++ y14 ++ [(32 : UInt8)] ++ y15 ++ [(13 : UInt8), (10 : UInt8)] ++ y16 ++ [(13 : UInt8), (10 : UInt8)]).length ≤ ([] ++ ([(72 : UInt8), (84 : UInt8), (84 : UInt8), (80 : UInt8), (47 : UInt8), (49 : UInt8), (46 : UInt8), (49 : UInt8), (32 : UInt8)] ++ y14 ++ [(32 : UInt8)] ++ y15 ++ [(13 : UInt8), (10 : UInt8)] ++ y16 ++ [(13 : UInt8), (10 : UInt8)])).length) <| .chk ((([(72 : UInt8), (84 : UInt8), (84 : UInt8), (80 : UInt8), (47 : UInt8), (49 : UInt8), (46 : UInt8), (49 : UInt8), (32 : UInt8)] ++ y14 ++ [(32 : UInt8)] ++ y15 ++ [(13 : UInt8), (10 : UInt8)] ++ y16 ++ [(13 : UInt8), (10 : UInt8)]).length + Body.length) * (1 : Nat) ≤ (140737488355328 : Nat)) <| .chk ((0 : Nat) < ([(72 : UInt8), (84 : UInt8), (84 : UInt8), (80 : UInt8), (47 : UInt8), (49 : UInt8), (46 : UInt8), (49 : UInt8), (32 : UInt8)] ++ y14 ++ [(32 : UInt8)] ++ y15 ++ [(13 : UInt8), (10 : UInt8)] ++ y16 ++ [(13 : UInt8), (10 : UInt8)]).length + Body.length) <| .chk ((0 : Int) < (↑(([(72 : UInt8), (84 : UInt8), (84 : UInt8), (80 : UInt8), (47 : UInt8), (49 : UInt8), (46 : UInt8), (49 : UInt8), (32 : UInt8)] ++ y14 ++ [(32 : UInt8)] ++ y15 ++ [(13 : UInt8), (10 : UInt8)] ++ y16 ++ [(13 : UInt8), (10 : UInt8)]).length + Body.length) : Int) ∧ (0 : Nat) + (↑(([(72 : UInt8), (84 : UInt8), (84 : UInt8), (80 : UInt8), (47 : UInt8), (49 : UInt8), (46 : UInt8), (49 : UInt8), (32 : UInt8)] ++ y14 ++ [(32 : UInt8)] ++ y15 ++ [(13 : UInt8), (10 : UInt8)] ++ y16 ++ [(13 : UInt8), (10 : UInt8)]).length + Body.length) : Int).toNat ≤ (List.take ([(72 : UInt8), (84 : UInt8), (84 : UInt8), (80 : UInt8), (47 : UInt8), (49 : UInt8), (46 : UInt8), (49 : UInt8), (32 : UInt8)] ++ y14 ++ [(32 : UInt8)] ++ y15 ++ [(13 : UInt8), (10 : UInt8)] ++ y16 ++ [(13 : UInt8), (10 : UInt8)]).length (List.drop (0 : Nat) ([] ++ ([(72 : UInt8), (84 : UInt8), (84 : UInt8), (80 : UInt8), (47 : UInt8), (49 : UInt8), (46 : UInt8), (49 : UInt8), (32 : UInt8)] ++ y14 ++ [(32 : UInt8)] ++ y15 ++ [(13 : UInt8), (10 : UInt8)] ++ y16 ++ [(13 : UInt8), (10 : UInt8)]))) ++ List.take Body.length (List.drop (0 : Nat) Body)).length ∧ (↑(([(72 : UInt8), (84 : UInt8), (84 : UInt8), (80 : UInt8), (47 : UInt8), (49 : UInt8), (46 : UInt8), (49 : UInt8), (32 : UInt8)] ++ y14 ++ [(32 : UInt8)] ++ y15 ++ [(13 : UInt8), (10 : UInt8)] ++ y16 ++ [(13 : UInt8), (10 : UInt8)]).length + Body.length) : Int) ≤ (140737488355328 : Int)) <| .chk ((List.take (↑(([(72 : UInt8), (84 : UInt8), (84 : UInt8), (80 : UInt8), (47 : UInt8), (49 : UInt8), (46 : UInt8), (49 : UInt8), (32 : UInt8)] ++ y14 ++ [(32 : UInt8)] ++ y15 ++ [(13 : UInt8), (10 : UInt8)] ++ y16 ++ [(13 : UInt8), (10 : UInt8)]).length + Body.length) : Int).toNat (List.drop (0 : Nat) (List.take ([(72 : UInt8), (84 : UInt8), (84 : UInt8), (80 : UInt8), (47 : UInt8), (49 : UInt8), (46 : UInt8), (49 : UInt8), (32 : UInt8)] ++ y14 ++ [(32 : UInt8)] ++ y15 ++ [(13 : UInt8), (10 : UInt8)] ++ y16 ++ [(13 : UInt8), (10 : UInt8)]).length (List.drop (0 : Nat) ([] ++ ([(72 : UInt8), (84 : UInt8), (84 : UInt8), (80 : UInt8), (47 : UInt8), (49 : UInt8), (46 : UInt8), (49 : UInt8), (32 : UInt8)] ++ y14 ++ [(32 : UInt8)] ++ y15 ++ [(13 : UInt8), (10 : UInt8)] ++ y16 ++ [(13 : UInt8), (10 : UInt8)]))) ++ List.take Body.length (List.drop (0 : Nat) Body)))).length ≤ (140737488355328 : Nat)) <| .chk ((0 : Nat) = (0 : Nat) ∧ (List.take (↑(([(72 : UInt8), (84 : UInt8), (84 : UInt8), (80 : UInt8), (47 : UInt8), (49 : UInt8), (46 : UInt8), (49 : UInt8), (32 : UInt8)] ++ y14 ++ [(32 : UInt8)] ++ y15 ++ [(13 : UInt8), (10 : UInt8)] ++ y16 ++ [(13 : UInt8), (10 : UInt8)]).length + Body.length) : Int).toNat (List.drop (0 : Nat) (List.take ([(72 : UInt8), (84 : UInt8), (84 : UInt8), (80 : UInt8), (47 : UInt8), (49 : UInt8), (46 : UInt8), (49 : UInt8), (32 : UInt8)] ++ y14 ++ [(32 : UInt8)] ++ y15 ++ [(13 : UInt8), (10 : UInt8)] ++ y16 ++ [(13 : UInt8), (10 : UInt8)]).length (List.drop (0 : Nat) ([] ++ ([(72 : UInt8), (84 : UInt8), (84 : UInt8), (80 : UInt8), (47 : UInt8), (49 : UInt8), (46 : UInt8), (49 : UInt8), (32 : UInt8)] ++ y14 ++ [(32 : UInt8)] ++ y15 ++ [(13 : UInt8), (10 : UInt8)] ++ y16 ++ [(13 : UInt8), (10 : UInt8)]))) ++ List.take Body.length (List.drop (0 : Nat) Body)))).length = ([] ++ List.take (↑(([(72 : UInt8), (84 : UInt8), (84 : UInt8), (80 : UInt8), (47 : UInt8), (49 : UInt8), (46 : UInt8), (49 : UInt8), (32 : UInt8)] ++ y14 ++ [(32 : UInt8)] ++ y15 ++ [(13 : UInt8), (10 : UInt8)] ++ y16 ++ [(13 : UInt8), (10 : UInt8)]).length + Body.length) : Int).toNat (List.drop (0 : Nat) (List.take ([(72 : UInt8), (84 : UInt8), (84 : UInt8), (80 : UInt8), (47 : UInt8), (49 : UInt8), (46 : UInt8), (49 : UInt8), (32 : UInt8)] ++ y14 ++ [(32 : UInt8)] ++ y15 ++ [(13 : UInt8), (10 : UInt8)] ++ y16 ++ [(13 : UInt8), (10 : UInt8)]).length (List.drop (0 : Nat) ([] ++ ([(72 : UInt8), (84 : UInt8), (84 : UInt8), (80 : UInt8), (47 : UInt8), (49 : UInt8), (46 : UInt8), (49 : UInt8), (32 : UInt8)] ++ y14 ++ [(32 : UInt8)] ++ y15 ++ [(13 : UInt8), (10 : UInt8)] ++ y16 ++ [(13 : UInt8), (10 : UInt8)]))) ++ List.take Body.length (List.drop (0 : Nat) Body)))).length) <| .ret ([] ++ List.take (↑(([(72 : UInt8), (84 : UInt8), (84 : UInt8), (80 : UInt8), (47 : UInt8), (49 : UInt8), (46 : UInt8), (49 : UInt8), (32 : UInt8)] ++ y14 ++ [(32 : UInt8)] ++ y15 ++ [(13 : UInt8), (10 : UInt8)] ++ y16 ++ [(13 : UInt8), (10 : UInt8)]).length + Body.length) : Int).toNat (List.drop (0 : Nat) (List.take ([(72 : UInt8), (84 : UInt8), (84 : UInt8), (80 : UInt8), (47 : UInt8), (49 : UInt8), (46 : UInt8), (49 : UInt8), (32 : UInt8)] ++ y14 ++ [(32 : UInt8)] ++ y15 ++ [(13 : UInt8), (10 : UInt8)] ++ y16 ++ [(13 : UInt8), (10 : UInt8)]).length (List.drop (0 : Nat) ([] ++ ([(72 : UInt8), (84 : UInt8), (84 : UInt8), (80 : UInt8), (47 : UInt8), (49 : UInt8), (46 : UInt8), (49 : UInt8), (32 : UInt8)] ++ y14 ++ [(32 : UInt8)] ++ y15 ++ [(13 : UInt8), (10 : UInt8)] ++ y16 ++ [(13 : UInt8), (10 : UInt8)]))) ++ List.take Body.length (List.drop (0 : Nat) Body)))))
    (.chk ((0 : Nat) < ([(72 : UInt8), (84 : UInt8), (84 : UInt8), (80 : UInt8), (47 : UInt8), (49 : UInt8), (46 : UInt8), (49 : UInt8), (32 : UInt8)] ++ y14 ++ [(32 : UInt8)] ++ y15 ++ [(13 : UInt8), (10 : UInt8)] ++ y16 ++ [(13 : UInt8), (10 : UInt8)]).length) <| .chk ((0 : Int) < (↑([(72 : UInt8), (84 : UInt8), (84 : UInt8), (80 : UInt8), (47 : UInt8), (49 : UInt8), (46 : UInt8), (49 : UInt8), (32 : UInt8)] ++ y14 ++ [(32 : UInt8)] ++ y15 ++ [(13 : UInt8), (10 : UInt8)] ++ y16 ++ [(13 : UInt8), (10 : UInt8)]).length : Int) ∧ (0 : Nat) + (↑([(72 : UInt8), (84 : UInt8), (84 : UInt8), (80 : UInt8), (47 : UInt8), (49 : UInt8), (46 : UInt8), (49 : UInt8), (32 : UInt8)] ++ y14 ++ [(32 : UInt8)] ++ y15 ++ [(13 : UInt8), (10 : UInt8)] ++ y16 ++ [(13 : UInt8), (10 : UInt8)]).length : Int).toNat ≤ ([] ++ ([(72 : UInt8), (84 : UInt8), (84 : UInt8), (80 : UInt8), (47 : UInt8), (49 : UInt8), (46 : UInt8), (49 : UInt8), (32 : UInt8)] ++ y14 ++ [(32 : UInt8)] ++ y15 ++ [(13 : UInt8), (10 : UInt8)] ++ y16 ++ [(13 : UInt8), (10 : UInt8)])).length ∧ (↑([(72 : UInt8), (84 : UInt8), (84 : UInt8), (80 : UInt8), (47 : UInt8), (49 : UInt8), (46 : UInt8), (49 : UInt8), (32 : UInt8)] ++ y14 ++ [(32 : UInt8)] ++ y15 ++ [(13 : UInt8), (10 : UInt8)] ++ y16 ++ [(13 : UInt8), (10 : UInt8)]).length : Int) ≤ (140737488355328 : Int)) <| .chk ((List.take (↑([(72 : UInt8), (84 : UInt8), (84 : UInt8), (80 : UInt8), (47 : UInt8), (49 : UInt8), (46 : UInt8), (49 : UInt8), (32 : UInt8)] ++ y14 ++ [(32 : UInt8)] ++ y15 ++ [(13 : UInt8), (10 : UInt8)] ++ y16 ++ [(13 : UInt8), (10 : UInt8)]).length : Int).toNat (List.drop (0 : Nat) ([] ++ ([(72 : UInt8), (84 : UInt8), (84 : UInt8), (80 : UInt8), (47 : UInt8), (49 : UInt8), (46 : UInt8), (49 : UInt8), (32 : UInt8)] ++ y14 ++ [(32 : UInt8)] ++ y15 ++ [(13 : UInt8), (10 : UInt8)] ++ y16 ++ [(13 : UInt8), (10 : UInt8)])))).length ≤ (140737488355328 : Nat)) <| .chk ((0 : Nat) = (0 : Nat) ∧ (List.take (↑([(72 : UInt8), (84 : UInt8), (84 : UInt8), (80 : UInt8), (47 : UInt8), (49 : UInt8), (46 : UInt8), (49 : UInt8), (32 : UInt8)] ++ y14 ++ [(32 : UInt8)] ++ y15 ++ [(13 : UInt8), (10 : UInt8)] ++ y16 ++ [(13 : UInt8), (10 : UInt8)]).length : Int).toNat (List.drop (0 : Nat) ([] ++ ([(72 : UInt8), (84 : UInt8), (84 : UInt8), (80 : UInt8), (47 : UInt8), (49 : UInt8), (46 : UInt8), (49 : UInt8), (32 : UInt8)] ++ y14 ++ [(32 : UInt8)] ++ y15 ++ [(13 : UInt8), (10 : UInt8)] ++ y16 ++ [(13 : UInt8), (10 : UInt8)])))).length = ([] ++ List.take (↑([(72 : UInt8), (84 : UInt8), (84 : UInt8), (80 : UInt8), (47 : UInt8), (49 : UInt8), (46 : UInt8), (49 : UInt8), (32 : UInt8)] ++ y14 ++ [(32 : UInt8)] ++ y15 ++ [(13 : UInt8), (10 : UInt8)] ++ y16 ++ [(13 : UInt8), (10 : UInt8)]).length : Int).toNat (List.drop (0 : Nat) ([] ++ ([(72 : UInt8), (84 : UInt8), (84 : UInt8), (80 : UInt8), (47 : UInt8), (49 : UInt8), (46 : UInt8), (49 : UInt8), (32 : UInt8)] ++ y14 ++ [(32 : UInt8)] ++ y15 ++ [(13 : UInt8), (10 : UInt8)] ++ y16 ++ [(13 : UInt8), (10 : UInt8)])))).length) <| .ret ([] ++ List.take (↑([(72 : UInt8), (84 : UInt8), (84 : UInt8), (80 : UInt8), (47 : UInt8), (49 : UInt8), (46 : UInt8), (49 : UInt8), (32 : UInt8)] ++ y14 ++ [(32 : UInt8)] ++ y15 ++ [(13 : UInt8), (10 : UInt8)] ++ y16 ++ [(13 : UInt8), (10 : UInt8)]).length : Int).toNat (List.drop (0 : Nat) ([] ++ ([(72 : UInt8), (84 : UInt8), (84 : UInt8), (80 : UInt8), (47 : UInt8), (49 : UInt8), (46 : UInt8), (49 : UInt8), (32 : UInt8)] ++ y14 ++ [(32 : UInt8)] ++ y15 ++ [(13 : UInt8), (10 : UInt8)] ++ y16 ++ [(13 : UInt8), (10 : UInt8)]))))))
   (.chk ((0 : Nat) < ([(72 : UInt8), (84 : UInt8), (84 : UInt8), (80 : UInt8), (47 : UInt8), (49 : UInt8), (46 : UInt8), (49 : UInt8), (32 : UInt8)] ++ y14 ++ [(32 : UInt8)] ++ y15 ++ [(13 : UInt8), (10 : UInt8)] ++ y16 ++ [(13 : UInt8), (10 : UInt8)]).length) <| .chk ((0 : Int) < (↑([(72 : UInt8), (84 : UInt8), (84 : UInt8), (80 : UInt8), (47 : UInt8), (49 : UInt8), (46 : UInt8), (49 : UInt8), (32 : UInt8)] ++ y14 ++ [(32 : UInt8)] ++ y15 ++ [(13 : UInt8), (10 : UInt8)] ++ y16 ++ [(13 : UInt8), (10 : UInt8)]).length : Int) ∧ (0 : Nat) + (↑([(72 : UInt8), (84 : UInt8), (84 : UInt8), (80 : UInt8), (47 : UInt8), (49 : UInt8), (46 : UInt8), (49 : UInt8), (32 : UInt8)] ++ y14 ++ [(32 : UInt8)] ++ y15 ++ [(13 : UInt8), (10 : UInt8)] ++ y16 ++ [(13 : UInt8), (10 : UInt8)]).length : Int).toNat ≤ ([] ++ ([(72 : UInt8), (84 : UInt8), (84 : UInt8), (80 : UInt8), (47 : UInt8), (49 : UInt8), (46 : UInt8), (49 : UInt8), (32 : UInt8)] ++ y14 ++ [(32 : UInt8)] ++ y15 ++ [(13 : UInt8), (10 : UInt8)] ++ y16 ++ [(13 : UInt8), (10 : UInt8)])).length ∧ (↑([(72 : UInt8), (84 : UInt8), (84 : UInt8), (80 : UInt8), (47 : UInt8), (49 : UInt8), (46 : UInt8), (49 : UInt8), (32 : UInt8)] ++ y14 ++ [(32 : UInt8)] ++ y15 ++ [(13 : UInt8), (10 : UInt8)] ++ y16 ++ [(13 : UInt8), (10 : UInt8)]).length : Int) ≤ (140737488355328 : Int)) <| .chk ((List.take (↑([(72 : UInt8), (84 : UInt8), (84 : UInt8), (80 : UInt8), (47 : UInt8), (49 : UInt8), (46 : UInt8), (49 : UInt8), (32 : UInt8)] ++ y14 ++ [(32 : UInt8)] ++ y15 ++ [(13 : UInt8), (10 : UInt8)] ++ y16 ++ [(13 : UInt8), (10 : UInt8)]).length : Int).toNat (List.drop (0 : Nat) ([] ++ ([(72 : UInt8), (84 : UInt8), (84 : UInt8), (80 : UInt8), (47 : UInt8), (49 : UInt8), (46 : UInt8), (49 : UInt8), (32 : UInt8)] ++ y14 ++ [(32 : UInt8)] ++ y15 ++ [(13 : UInt8), (10 : UInt8)] ++ y16 ++ [(13 : UInt8), (10 : UInt8)])))).length ≤ (140737488355328 : Nat)) <| .chk ((0 : Nat) = (0 : Nat) ∧ (List.take (↑([(72 : UInt8), (84 : UInt8), (84 : UInt8), (80 : UInt8), (47 : UInt8), (49 : UInt8), (46 : UInt8), (49 : UInt8), (32 : UInt8)] ++ y14 ++ [(32 : UInt8)] ++ y15 ++ [(13 : UInt8), (10 : UInt8)] ++ y16 ++ [(13 : UInt8), (10 : UInt8)]).length : Int).toNat (List.drop (0 : Nat) ([] ++ ([(72 : UInt8), (84 : UInt8), (84 : UInt8), (80 : UInt8), (47 : UInt8), (49 : UInt8), (46 : UInt8), (49 : UInt8), (32 : UInt8)] ++ y14 ++ [(32 : UInt8)] ++ y15 ++ [(13 : UInt8), (10 : UInt8)] ++ y16 ++ [(13 : UInt8), (10 : UInt8)])))).length = ([] ++ List.take (↑([(72 : UInt8), (84 : UInt8), (84 : UInt8), (80 : UInt8), (47 : UInt8), (49 : UInt8), (46 : UInt8), (49 : UInt8), (32 : UInt8)] ++ y14 ++ [(32 : UInt8)] ++ y15 ++ [(13 : UInt8), (10 : UInt8)] ++ y16 ++ [(13 : UInt8), (10 : UInt8)]).length : Int).toNat (List.drop (0 : Nat) ([] ++ ([(72 : UInt8), (84 : UInt8), (84 : UInt8), (80 : UInt8), (47 : UInt8), (49 : UInt8), (46 : UInt8), (49 : UInt8), (32 : UInt8)] ++ y14 ++ [(32 : UInt8)] ++ y15 ++ [(13 : UInt8), (10 : UInt8)] ++ y16 ++ [(13 : UInt8), (10 : UInt8)])))).length) <| .ret ([] ++ List.take (↑([(72 : UInt8), (84 : UInt8), (84 : UInt8), (80 : UInt8), (47 : UInt8), (49 : UInt8), (46 : UInt8), (49 : UInt8), (32 : UInt8)] ++ y14 ++ [(32 : UInt8)] ++ y15 ++ [(13 : UInt8), (10 : UInt8)] ++ y16 ++ [(13 : UInt8), (10 : UInt8)]).length : Int).toNat (List.drop (0 : Nat) ([] ++ ([(72 : UInt8), (84 : UInt8), (84 : UInt8), (80 : UInt8), (47 : UInt8), (49 : UInt8), (46 : UInt8), (49 : UInt8), (32 : UInt8)] ++ y14 ++ [(32 : UInt8)] ++ y15 ++ [(13 : UInt8), (10 : UInt8)] ++ y16 ++ [(13 : UInt8), (10 : UInt8)])))))))
  (.br closes (.chk ((1 : Nat) ≤ (1 : Nat)) <| .chk ((0 : Nat) + y9.length ≤ y9.length) <| .chk ((y9.length + (1 : Nat)) * (32 : Nat) ≤ (140737488355328 : Nat)) <| .call (number_Put.f Code) fun y17 =>
   .chk ((↑([(72 : UInt8), (84 : UInt8), (84 : UInt8), (80 : UInt8), (47 : UInt8), (49 : UInt8), (46 : UInt8), (49 : UInt8), (32 : UInt8)].length + y17.length) : Int) ≤ (9223372036854775807 : Int)) <| .chk ((↑(([(72 : UInt8), (84 : UInt8), (84 : UInt8), (80 : UInt8), (47 : UInt8), (49 : UInt8), (46 : UInt8), (49 : UInt8), (32 : UInt8)] ++ y17).length + [(32 : UInt8)].length) : Int) ≤ (9223372036854775807 : Int)) <| .call (reply_Reason.f Code) fun y18 =>
   .chk ((↑(([(72 : UInt8), (84 : UInt8), (84 : UInt8), (80 : UInt8), (47 : UInt8), (49 : UInt8), (46 : UInt8), (49 : UInt8), (32 : UInt8)] ++ y17 ++ [(32 : UInt8)]).length + y18.length) : Int) ≤ (9223372036854775807 : Int)) <| .chk ((↑(([(72 : UInt8), (84 : UInt8), (84 : UInt8), (80 : UInt8), (47 : UInt8), (49 : UInt8), (46 : UInt8), (49 : UInt8), (32 : UInt8)] ++ y17 ++ [(32 : UInt8)] ++ y18).length + [(13 : UInt8), (10 : UInt8)].length) : Int) ≤ (9223372036854775807 : Int)) <| .chk ((0 : Nat) + (y9.length + (1 : Nat)) ≤ (List.take y9.length (List.drop (0 : Nat) y9) ++ List.take (1 : Nat) (List.drop (0 : Nat) [([(67 : UInt8), (111 : UInt8), (110 : UInt8), (110 : UInt8), (101 : UInt8), (99 : UInt8), (116 : UInt8), (105 : UInt8), (111 : UInt8), (110 : UInt8)], [(99 : UInt8), (108 : UInt8), (111 : UInt8), (115 : UInt8), (101 : UInt8)])])).length) <| .call (field_Put.f (List.take (y9.length + (1 : Nat)) (List.drop (0 : Nat) (List.take y9.length (List.drop (0 : Nat) y9) ++ List.take (1 : Nat) (List.drop (0 : Nat) [([(67 : UInt8), (111 : UInt8), (110 : UInt8), (110 : UInt8), (101 : UInt8), (99 : UInt8), (116 : UInt8), (105 : UInt8), (111 : UInt8), (110 : UInt8)], [(99 : UInt8), (108 : UInt8), (111 : UInt8), (115 : UInt8), (101 : UInt8)])]))))) fun y19 =>
   .chk ((↑(([(72 : UInt8), (84 : UInt8), (84 : UInt8), (80 : UInt8), (47 : UInt8), (49 : UInt8), (46 : UInt8), (49 : UInt8), (32 : UInt8)] ++ y17 ++ [(32 : UInt8)] ++ y18 ++ [(13 : UInt8), (10 : UInt8)]).length + y19.length) : Int) ≤ (9223372036854775807 : Int)) <| .chk ((↑(([(72 : UInt8), (84 : UInt8), (84 : UInt8), (80 : UInt8), (47 : UInt8), (49 : UInt8), (46 : UInt8), (49 : UInt8), (32 : UInt8)] ++ y17 ++ [(32 : UInt8)] ++ y18 ++ [(13 : UInt8), (10 : UInt8)] ++ y19).length + [(13 : UInt8), (10 : UInt8)].length) : Int) ≤ (9223372036854775807 : Int)) <| .chk (([(72 : UInt8), (84 : UInt8), (84 : UInt8), (80 : UInt8), (47 : UInt8), (49 : UInt8), (46 : UInt8), (49 : UInt8), (32 : UInt8)] ++ y17 ++ [(32 : UInt8)] ++ y18 ++ [(13 : UInt8), (10 : UInt8)] ++ y19 ++ [(13 : UInt8), (10 : UInt8)]).length * (1 : Nat) ≤ (140737488355328 : Nat)) <| .br (!Code == (304 : Int)) (.br (!head) (.chk ((0 : Nat) + Body.length ≤ Body.length) <| .chk ((0 : Nat) + ([(72 : UInt8), (84 : UInt8), (84 : UInt8), (80 : UInt8), (47 : UInt8), (49 : UInt8), (46 : UInt8), (49 : UInt8), (32 : UInt8)] ++ y17 ++ [(32 : UInt8)] ++ y18 ++ [(13 : UInt8), (10 : UInt8)] ++ y19 ++ [(13 : UInt8), (10 : UInt8)]).length ≤ ([] ++ ([(72 : UInt8), (84 : UInt8), (84 : UInt8), (80 : UInt8), (47 : UInt8), (49 : UInt8), (46 : UInt8), (49 : UInt8), (32 : UInt8)] ++ y17 ++ [(32 : UInt8)] ++ y18 ++ [(13 : UInt8), (10 : UInt8)] ++ y19 ++ [(13 : UInt8), (10 : UInt8)])).length) <| .chk ((([(72 : UInt8), (84 : UInt8), (84 : UInt8), (80 : UInt8), (47 : UInt8), (49 : UInt8), (46 : UInt8), (49 : UInt8), (32 : UInt8)] ++ y17 ++ [(32 : UInt8)] ++ y18 ++ [(13 : UInt8), (10 : UInt8)] ++ y19 ++ [(13 : UInt8), (10 : UInt8)]).length + Body.length) * (1 : Nat) ≤ (140737488355328 : Nat)) <| .chk ((0 : Nat) < ([(72 : UInt8), (84 : UInt8), (84 : UInt8), (80 : UInt8), (47 : UInt8), (49 : UInt8), (46 : UInt8), (49 : UInt8), (32 : UInt8)] ++ y17 ++ [(32 : UInt8)] ++ y18 ++ [(13 : UInt8), (10 : UInt8)] ++ y19 ++ [(13 : UInt8), (10 : UInt8)]).length + Body.length) <| .chk ((0 : Int) < (↑(([(72 : UInt8), (84 : UInt8), (84 : UInt8), (80 : UInt8), (47 : UInt8), (49 : UInt8), (46 : UInt8), (49 : UInt8), (32 : UInt8)] ++ y17 ++ [(32 : UInt8)] ++ y18 ++ [(13 : UInt8), (10 : UInt8)] ++ y19 ++ [(13 : UInt8), (10 : UInt8)]).length + Body.length) : Int) ∧ (0 : Nat) + (↑(([(72 : UInt8), (84 : UInt8), (84 : UInt8), (80 : UInt8), (47 : UInt8), (49 : UInt8), (46 : UInt8), (49 : UInt8), (32 : UInt8)] ++ y17 ++ [(32 : UInt8)] ++ y18 ++ [(13 : UInt8), (10 : UInt8)] ++ y19 ++ [(13 : UInt8), (10 : UInt8)]).length + Body.length) : Int).toNat ≤ (List.take ([(72 : UInt8), (84 : UInt8), (84 : UInt8), (80 : UInt8), (47 : UInt8), (49 : UInt8), (46 : UInt8), (49 : UInt8), (32 : UInt8)] ++ y17 ++ [(32 : UInt8)] ++ y18 ++ [(13 : UInt8), (10 : UInt8)] ++ y19 ++ [(13 : UInt8), (10 : UInt8)]).length (List.drop (0 : Nat) ([] ++ ([(72 : UInt8), (84 : UInt8), (84 : UInt8), (80 : UInt8), (47 : UInt8), (49 : UInt8), (46 : UInt8), (49 : UInt8), (32 : UInt8)] ++ y17 ++ [(32 : UInt8)] ++ y18 ++ [(13 : UInt8), (10 : UInt8)] ++ y19 ++ [(13 : UInt8), (10 : UInt8)]))) ++ List.take Body.length (List.drop (0 : Nat) Body)).length ∧ (↑(([(72 : UInt8), (84 : UInt8), (84 : UInt8), (80 : UInt8), (47 : UInt8), (49 : UInt8), (46 : UInt8), (49 : UInt8), (32 : UInt8)] ++ y17 ++ [(32 : UInt8)] ++ y18 ++ [(13 : UInt8), (10 : UInt8)] ++ y19 ++ [(13 : UInt8), (10 : UInt8)]).length + Body.length) : Int) ≤ (140737488355328 : Int)) <| .chk ((List.take (↑(([(72 : UInt8), (84 : UInt8), (84 : UInt8), (80 : UInt8), (47 : UInt8), (49 : UInt8), (46 : UInt8), (49 : UInt8), (32 : UInt8)] ++ y17 ++ [(32 : UInt8)] ++ y18 ++ [(13 : UInt8), (10 : UInt8)] ++ y19 ++ [(13 : UInt8), (10 : UInt8)]).length + Body.length) : Int).toNat (List.drop (0 : Nat) (List.take ([(72 : UInt8), (84 : UInt8), (84 : UInt8), (80 : UInt8), (47 : UInt8), (49 : UInt8), (46 : UInt8), (49 : UInt8), (32 : UInt8)] ++ y17 ++ [(32 : UInt8)] ++ y18 ++ [(13 : UInt8), (10 : UInt8)] ++ y19 ++ [(13 : UInt8), (10 : UInt8)]).length (List.drop (0 : Nat) ([] ++ ([(72 : UInt8), (84 : UInt8), (84 : UInt8), (80 : UInt8), (47 : UInt8), (49 : UInt8), (46 : UInt8), (49 : UInt8), (32 : UInt8)] ++ y17 ++ [(32 : UInt8)] ++ y18 ++ [(13 : UInt8), (10 : UInt8)] ++ y19 ++ [(13 : UInt8), (10 : UInt8)]))) ++ List.take Body.length (List.drop (0 : Nat) Body)))).length ≤ (140737488355328 : Nat)) <| .chk ((0 : Nat) = (0 : Nat) ∧ (List.take (↑(([(72 : UInt8), (84 : UInt8), (84 : UInt8), (80 : UInt8), (47 : UInt8), (49 : UInt8), (46 : UInt8), (49 : UInt8), (32 : UInt8)] ++ y17 ++ [(32 : UInt8)] ++ y18 ++ [(13 : UInt8), (10 : UInt8)] ++ y19 ++ [(13 : UInt8), (10 : UInt8)]).length + Body.length) : Int).toNat (List.drop (0 : Nat) (List.take ([(72 : UInt8), (84 : UInt8), (84 : UInt8), (80 : UInt8), (47 : UInt8), (49 : UInt8), (46 : UInt8), (49 : UInt8), (32 : UInt8)] ++ y17 ++ [(32 : UInt8)] ++ y18 ++ [(13 : UInt8), (10 : UInt8)] ++ y19 ++ [(13 : UInt8), (10 : UInt8)]).length (List.drop (0 : Nat) ([] ++ ([(72 : UInt8), (84 : UInt8), (84 : UInt8), (80 : UInt8), (47 : UInt8), (49 : UInt8), (46 : UInt8), (49 : UInt8), (32 : UInt8)] ++ y17 ++ [(32 : UInt8)] ++ y18 ++ [(13 : UInt8), (10 : UInt8)] ++ y19 ++ [(13 : UInt8), (10 : UInt8)]))) ++ List.take Body.length (List.drop (0 : Nat) Body)))).length = ([] ++ List.take (↑(([(72 : UInt8), (84 : UInt8), (84 : UInt8), (80 : UInt8), (47 : UInt8), (49 : UInt8), (46 : UInt8), (49 : UInt8), (32 : UInt8)] ++ y17 ++ [(32 : UInt8)] ++ y18 ++ [(13 : UInt8), (10 : UInt8)] ++ y19 ++ [(13 : UInt8), (10 : UInt8)]).length + Body.length) : Int).toNat (List.drop (0 : Nat) (List.take ([(72 : UInt8), (84 : UInt8), (84 : UInt8), (80 : UInt8), (47 : UInt8), (49 : UInt8), (46 : UInt8), (49 : UInt8), (32 : UInt8)] ++ y17 ++ [(32 : UInt8)] ++ y18 ++ [(13 : UInt8), (10 : UInt8)] ++ y19 ++ [(13 : UInt8), (10 : UInt8)]).length (List.drop (0 : Nat) ([] ++ ([(72 : UInt8), (84 : UInt8), (84 : UInt8), (80 : UInt8), (47 : UInt8), (49 : UInt8), (46 : UInt8), (49 : UInt8), (32 : UInt8)] ++ y17 ++ [(32 : UInt8)] ++ y18 ++ [(13 : UInt8), (10 : UInt8)] ++ y19 ++ [(13 : UInt8), (10 : UInt8)]))) ++ List.take Body.length (List.drop (0 : Nat) Body)))).length) <| .ret ([] ++ List.take (↑(([(72 : UInt8), (84 : UInt8), (84 : UInt8), (80 : UInt8), (47 : UInt8), (49 : UInt8), (46 : UInt8), (49 : UInt8), (32 : UInt8)] ++ y17 ++ [(32 : UInt8)] ++ y18 ++ [(13 : UInt8), (10 : UInt8)] ++ y19 ++ [(13 : UInt8), (10 : UInt8)]).length + Body.length) : Int).toNat (List.drop (0 : Nat) (List.take ([(72 : UInt8), (84 : UInt8), (84 : UInt8), (80 : UInt8), (47 : UInt8), (49 : UInt8), (46 : UInt8), (49 : UInt8), (32 : UInt8)] ++ y17 ++ [(32 : UInt8)] ++ y18 ++ [(13 : UInt8), (10 : UInt8)] ++ y19 ++ [(13 : UInt8), (10 : UInt8)]).length (List.drop (0 : Nat) ([] ++ ([(72 : UInt8), (84 : UInt8), (84 : UInt8), (80 : UInt8), (47 : UInt8), (49 : UInt8), (46 : UInt8), (49 : UInt8), (32 : UInt8)] ++ y17 ++ [(32 : UInt8)] ++ y18 ++ [(13 : UInt8), (10 : UInt8)] ++ y19 ++ [(13 : UInt8), (10 : UInt8)]))) ++ List.take Body.length (List.drop (0 : Nat) Body)))))
    (.chk ((0 : Nat) < ([(72 : UInt8), (84 : UInt8), (84 : UInt8), (80 : UInt8), (47 : UInt8), (49 : UInt8), (46 : UInt8), (49 : UInt8), (32 : UInt8)] ++ y17 ++ [(32 : UInt8)] ++ y18 ++ [(13 : UInt8), (10 : UInt8)] ++ y19 ++ [(13 : UInt8), (10 : UInt8)]).length) <| .chk ((0 : Int) < (↑([(72 : UInt8), (84 : UInt8), (84 : UInt8), (80 : UInt8), (47 : UInt8), (49 : UInt8), (46 : UInt8), (49 : UInt8), (32 : UInt8)] ++ y17 ++ [(32 : UInt8)] ++ y18 ++ [(13 : UInt8), (10 : UInt8)] ++ y19 ++ [(13 : UInt8), (10 : UInt8)]).length : Int) ∧ (0 : Nat) + (↑([(72 : UInt8), (84 : UInt8), (84 : UInt8), (80 : UInt8), (47 : UInt8), (49 : UInt8), (46 : UInt8), (49 : UInt8), (32 : UInt8)] ++ y17 ++ [(32 : UInt8)] ++ y18 ++ [(13 : UInt8), (10 : UInt8)] ++ y19 ++ [(13 : UInt8), (10 : UInt8)]).length : Int).toNat ≤ ([] ++ ([(72 : UInt8), (84 : UInt8), (84 : UInt8), (80 : UInt8), (47 : UInt8), (49 : UInt8), (46 : UInt8), (49 : UInt8), (32 : UInt8)] ++ y17 ++ [(32 : UInt8)] ++ y18 ++ [(13 : UInt8), (10 : UInt8)] ++ y19 ++ [(13 : UInt8), (10 : UInt8)])).length ∧ (↑([(72 : UInt8), (84 : UInt8), (84 : UInt8), (80 : UInt8), (47 : UInt8), (49 : UInt8), (46 : UInt8), (49 : UInt8), (32 : UInt8)] ++ y17 ++ [(32 : UInt8)] ++ y18 ++ [(13 : UInt8), (10 : UInt8)] ++ y19 ++ [(13 : UInt8), (10 : UInt8)]).length : Int) ≤ (140737488355328 : Int)) <| .chk ((List.take (↑([(72 : UInt8), (84 : UInt8), (84 : UInt8), (80 : UInt8), (47 : UInt8), (49 : UInt8), (46 : UInt8), (49 : UInt8), (32 : UInt8)] ++ y17 ++ [(32 : UInt8)] ++ y18 ++ [(13 : UInt8), (10 : UInt8)] ++ y19 ++ [(13 : UInt8), (10 : UInt8)]).length : Int).toNat (List.drop (0 : Nat) ([] ++ ([(72 : UInt8), (84 : UInt8), (84 : UInt8), (80 : UInt8), (47 : UInt8), (49 : UInt8), (46 : UInt8), (49 : UInt8), (32 : UInt8)] ++ y17 ++ [(32 : UInt8)] ++ y18 ++ [(13 : UInt8), (10 : UInt8)] ++ y19 ++ [(13 : UInt8), (10 : UInt8)])))).length ≤ (140737488355328 : Nat)) <| .chk ((0 : Nat) = (0 : Nat) ∧ (List.take (↑([(72 : UInt8), (84 : UInt8), (84 : UInt8), (80 : UInt8), (47 : UInt8), (49 : UInt8), (46 : UInt8), (49 : UInt8), (32 : UInt8)] ++ y17 ++ [(32 : UInt8)] ++ y18 ++ [(13 : UInt8), (10 : UInt8)] ++ y19 ++ [(13 : UInt8), (10 : UInt8)]).length : Int).toNat (List.drop (0 : Nat) ([] ++ ([(72 : UInt8), (84 : UInt8), (84 : UInt8), (80 : UInt8), (47 : UInt8), (49 : UInt8), (46 : UInt8), (49 : UInt8), (32 : UInt8)] ++ y17 ++ [(32 : UInt8)] ++ y18 ++ [(13 : UInt8), (10 : UInt8)] ++ y19 ++ [(13 : UInt8), (10 : UInt8)])))).length = ([] ++ List.take (↑([(72 : UInt8), (84 : UInt8), (84 : UInt8), (80 : UInt8), (47 : UInt8), (49 : UInt8), (46 : UInt8), (49 : UInt8), (32 : UInt8)] ++ y17 ++ [(32 : UInt8)] ++ y18 ++ [(13 : UInt8), (10 : UInt8)] ++ y19 ++ [(13 : UInt8), (10 : UInt8)]).length : Int).toNat (List.drop (0 : Nat) ([] ++ ([(72 : UInt8), (84 : UInt8), (84 : UInt8), (80 : UInt8), (47 : UInt8), (49 : UInt8), (46 : UInt8), (49 : UInt8), (32 : UInt8)] ++ y17 ++ [(32 : UInt8)] ++ y18 ++ [(13 : UInt8), (10 : UInt8)] ++ y19 ++ [(13 : UInt8), (10 : UInt8)])))).length) <| .ret ([] ++ List.take (↑([(72 : UInt8), (84 : UInt8), (84 : UInt8), (80 : UInt8), (47 : UInt8), (49 : UInt8), (46 : UInt8), (49 : UInt8), (32 : UInt8)] ++ y17 ++ [(32 : UInt8)] ++ y18 ++ [(13 : UInt8), (10 : UInt8)] ++ y19 ++ [(13 : UInt8), (10 : UInt8)]).length : Int).toNat (List.drop (0 : Nat) ([] ++ ([(72 : UInt8), (84 : UInt8), (84 : UInt8), (80 : UInt8), (47 : UInt8), (49 : UInt8), (46 : UInt8), (49 : UInt8), (32 : UInt8)] ++ y17 ++ [(32 : UInt8)] ++ y18 ++ [(13 : UInt8), (10 : UInt8)] ++ y19 ++ [(13 : UInt8), (10 : UInt8)]))))))
   (.chk ((0 : Nat) < ([(72 : UInt8), (84 : UInt8), (84 : UInt8), (80 : UInt8), (47 : UInt8), (49 : UInt8), (46 : UInt8), (49 : UInt8), (32 : UInt8)] ++ y17 ++ [(32 : UInt8)] ++ y18 ++ [(13 : UInt8), (10 : UInt8)] ++ y19 ++ [(13 : UInt8), (10 : UInt8)]).length) <| .chk ((0 : Int) < (↑([(72 : UInt8), (84 : UInt8), (84 : UInt8), (80 : UInt8), (47 : UInt8), (49 : UInt8), (46 : UInt8), (49 : UInt8), (32 : UInt8)] ++ y17 ++ [(32 : UInt8)] ++ y18 ++ [(13 : UInt8), (10 : UInt8)] ++ y19 ++ [(13 : UInt8), (10 : UInt8)]).length : Int) ∧ (0 : Nat) + (↑([(72 : UInt8), (84 : UInt8), (84 : UInt8), (80 : UInt8), (47 : UInt8), (49 : UInt8), (46 : UInt8), (49 : UInt8), (32 : UInt8)] ++ y17 ++ [(32 : UInt8)] ++ y18 ++ [(13 : UInt8), (10 : UInt8)] ++ y19 ++ [(13 : UInt8), (10 : UInt8)]).length : Int).toNat ≤ ([] ++ ([(72 : UInt8), (84 : UInt8), (84 : UInt8), (80 : UInt8), (47 : UInt8), (49 : UInt8), (46 : UInt8), (49 : UInt8), (32 : UInt8)] ++ y17 ++ [(32 : UInt8)] ++ y18 ++ [(13 : UInt8), (10 : UInt8)] ++ y19 ++ [(13 : UInt8), (10 : UInt8)])).length ∧ (↑([(72 : UInt8), (84 : UInt8), (84 : UInt8), (80 : UInt8), (47 : UInt8), (49 : UInt8), (46 : UInt8), (49 : UInt8), (32 : UInt8)] ++ y17 ++ [(32 : UInt8)] ++ y18 ++ [(13 : UInt8), (10 : UInt8)] ++ y19 ++ [(13 : UInt8), (10 : UInt8)]).length : Int) ≤ (140737488355328 : Int)) <| .chk ((List.take (↑([(72 : UInt8), (84 : UInt8), (84 : UInt8), (80 : UInt8), (47 : UInt8), (49 : UInt8), (46 : UInt8), (49 : UInt8), (32 : UInt8)] ++ y17 ++ [(32 : UInt8)] ++ y18 ++ [(13 : UInt8), (10 : UInt8)] ++ y19 ++ [(13 : UInt8), (10 : UInt8)]).length : Int).toNat (List.drop (0 : Nat) ([] ++ ([(72 : UInt8), (84 : UInt8), (84 : UInt8), (80 : UInt8), (47 : UInt8), (49 : UInt8), (46 : UInt8), (49 : UInt8), (32 : UInt8)] ++ y17 ++ [(32 : UInt8)] ++ y18 ++ [(13 : UInt8), (10 : UInt8)] ++ y19 ++ [(13 : UInt8), (10 : UInt8)])))).length ≤ (140737488355328 : Nat)) <| .chk ((0 : Nat) = (0 : Nat) ∧ (List.take (↑([(72 : UInt8), (84 : UInt8), (84 : UInt8), (80 : UInt8), (47 : UInt8), (49 : UInt8), (46 : UInt8), (49 : UInt8), (32 : UInt8)] ++ y17 ++ [(32 : UInt8)] ++ y18 ++ [(13 : UInt8), (10 : UInt8)] ++ y19 ++ [(13 : UInt8), (10 : UInt8)]).length : Int).toNat (List.drop (0 : Nat) ([] ++ ([(72 : UInt8), (84 : UInt8), (84 : UInt8), (80 : UInt8), (47 : UInt8), (49 : UInt8), (46 : UInt8), (49 : UInt8), (32 : UInt8)] ++ y17 ++ [(32 : UInt8)] ++ y18 ++ [(13 : UInt8), (10 : UInt8)] ++ y19 ++ [(13 : UInt8), (10 : UInt8)])))).length = ([] ++ List.take (↑([(72 : UInt8), (84 : UInt8), (84 : UInt8), (80 : UInt8), (47 : UInt8), (49 : UInt8), (46 : UInt8), (49 : UInt8), (32 : UInt8)] ++ y17 ++ [(32 : UInt8)] ++ y18 ++ [(13 : UInt8), (10 : UInt8)] ++ y19 ++ [(13 : UInt8), (10 : UInt8)]).length : Int).toNat (List.drop (0 : Nat) ([] ++ ([(72 : UInt8), (84 : UInt8), (84 : UInt8), (80 : UInt8), (47 : UInt8), (49 : UInt8), (46 : UInt8), (49 : UInt8), (32 : UInt8)] ++ y17 ++ [(32 : UInt8)] ++ y18 ++ [(13 : UInt8), (10 : UInt8)] ++ y19 ++ [(13 : UInt8), (10 : UInt8)])))).length) <| .ret ([] ++ List.take (↑([(72 : UInt8), (84 : UInt8), (84 : UInt8), (80 : UInt8), (47 : UInt8), (49 : UInt8), (46 : UInt8), (49 : UInt8), (32 : UInt8)] ++ y17 ++ [(32 : UInt8)] ++ y18 ++ [(13 : UInt8), (10 : UInt8)] ++ y19 ++ [(13 : UInt8), (10 : UInt8)]).length : Int).toNat (List.drop (0 : Nat) ([] ++ ([(72 : UInt8), (84 : UInt8), (84 : UInt8), (80 : UInt8), (47 : UInt8), (49 : UInt8), (46 : UInt8), (49 : UInt8), (32 : UInt8)] ++ y17 ++ [(32 : UInt8)] ++ y18 ++ [(13 : UInt8), (10 : UInt8)] ++ y19 ++ [(13 : UInt8), (10 : UInt8)]))))))
   (.call (number_Put.f Code) fun y20 =>
   .chk ((↑([(72 : UInt8), (84 : UInt8), (84 : UInt8), (80 : UInt8), (47 : UInt8), (49 : UInt8), (46 : UInt8), (49 : UInt8), (32 : UInt8)].length + y20.length) : Int) ≤ (9223372036854775807 : Int)) <| .chk ((↑(([(72 : UInt8), (84 : UInt8), (84 : UInt8), (80 : UInt8), (47 : UInt8), (49 : UInt8), (46 : UInt8), (49 : UInt8), (32 : UInt8)] ++ y20).length + [(32 : UInt8)].length) : Int) ≤ (9223372036854775807 : Int)) <| .call (reply_Reason.f Code) fun y21 =>
   .chk ((↑(([(72 : UInt8), (84 : UInt8), (84 : UInt8), (80 : UInt8), (47 : UInt8), (49 : UInt8), (46 : UInt8), (49 : UInt8), (32 : UInt8)] ++ y20 ++ [(32 : UInt8)]).length + y21.length) : Int) ≤ (9223372036854775807 : Int)) <| .chk ((↑(([(72 : UInt8), (84 : UInt8), (84 : UInt8), (80 : UInt8), (47 : UInt8), (49 : UInt8), (46 : UInt8), (49 : UInt8), (32 : UInt8)] ++ y20 ++ [(32 : UInt8)] ++ y21).length + [(13 : UInt8), (10 : UInt8)].length) : Int) ≤ (9223372036854775807 : Int)) <| .chk ((0 : Nat) + y9.length ≤ y9.length) <| .call (field_Put.f (List.take y9.length (List.drop (0 : Nat) y9))) fun y22 =>
   .chk ((↑(([(72 : UInt8), (84 : UInt8), (84 : UInt8), (80 : UInt8), (47 : UInt8), (49 : UInt8), (46 : UInt8), (49 : UInt8), (32 : UInt8)] ++ y20 ++ [(32 : UInt8)] ++ y21 ++ [(13 : UInt8), (10 : UInt8)]).length + y22.length) : Int) ≤ (9223372036854775807 : Int)) <| .chk ((↑(([(72 : UInt8), (84 : UInt8), (84 : UInt8), (80 : UInt8), (47 : UInt8), (49 : UInt8), (46 : UInt8), (49 : UInt8), (32 : UInt8)] ++ y20 ++ [(32 : UInt8)] ++ y21 ++ [(13 : UInt8), (10 : UInt8)] ++ y22).length + [(13 : UInt8), (10 : UInt8)].length) : Int) ≤ (9223372036854775807 : Int)) <| .chk (([(72 : UInt8), (84 : UInt8), (84 : UInt8), (80 : UInt8), (47 : UInt8), (49 : UInt8), (46 : UInt8), (49 : UInt8), (32 : UInt8)] ++ y20 ++ [(32 : UInt8)] ++ y21 ++ [(13 : UInt8), (10 : UInt8)] ++ y22 ++ [(13 : UInt8), (10 : UInt8)]).length * (1 : Nat) ≤ (140737488355328 : Nat)) <| .br (!Code == (304 : Int)) (.br (!head) (.chk ((0 : Nat) + Body.length ≤ Body.length) <| .chk ((0 : Nat) + ([(72 : UInt8), (84 : UInt8), (84 : UInt8), (80 : UInt8), (47 : UInt8), (49 : UInt8), (46 : UInt8), (49 : UInt8), (32 : UInt8)] ++ y20 ++ [(32 : UInt8)] ++ y21 ++ [(13 : UInt8), (10 : UInt8)] ++ y22 ++ [(13 : UInt8), (10 : UInt8)]).length ≤ ([] ++ ([(72 : UInt8), (84 : UInt8), (84 : UInt8), (80 : UInt8), (47 : UInt8), (49 : UInt8), (46 : UInt8), (49 : UInt8), (32 : UInt8)] ++ y20 ++ [(32 : UInt8)] ++ y21 ++ [(13 : UInt8), (10 : UInt8)] ++ y22 ++ [(13 : UInt8), (10 : UInt8)])).length) <| .chk ((([(72 : UInt8), (84 : UInt8), (84 : UInt8), (80 : UInt8), (47 : UInt8), (49 : UInt8), (46 : UInt8), (49 : UInt8), (32 : UInt8)] ++ y20 ++ [(32 : UInt8)] ++ y21 ++ [(13 : UInt8), (10 : UInt8)] ++ y22 ++ [(13 : UInt8), (10 : UInt8)]).length + Body.length) * (1 : Nat) ≤ (140737488355328 : Nat)) <| .chk ((0 : Nat) < ([(72 : UInt8), (84 : UInt8), (84 : UInt8), (80 : UInt8), (47 : UInt8), (49 : UInt8), (46 : UInt8), (49 : UInt8), (32 : UInt8)] ++ y20 ++ [(32 : UInt8)] ++ y21 ++ [(13 : UInt8), (10 : UInt8)] ++ y22 ++ [(13 : UInt8), (10 : UInt8)]).length + Body.length) <| .chk ((0 : Int) < (↑(([(72 : UInt8), (84 : UInt8), (84 : UInt8), (80 : UInt8), (47 : UInt8), (49 : UInt8), (46 : UInt8), (49 : UInt8), (32 : UInt8)] ++ y20 ++ [(32 : UInt8)] ++ y21 ++ [(13 : UInt8), (10 : UInt8)] ++ y22 ++ [(13 : UInt8), (10 : UInt8)]).length + Body.length) : Int) ∧ (0 : Nat) + (↑(([(72 : UInt8), (84 : UInt8), (84 : UInt8), (80 : UInt8), (47 : UInt8), (49 : UInt8), (46 : UInt8), (49 : UInt8), (32 : UInt8)] ++ y20 ++ [(32 : UInt8)] ++ y21 ++ [(13 : UInt8), (10 : UInt8)] ++ y22 ++ [(13 : UInt8), (10 : UInt8)]).length + Body.length) : Int).toNat ≤ (List.take ([(72 : UInt8), (84 : UInt8), (84 : UInt8), (80 : UInt8), (47 : UInt8), (49 : UInt8), (46 : UInt8), (49 : UInt8), (32 : UInt8)] ++ y20 ++ [(32 : UInt8)] ++ y21 ++ [(13 : UInt8), (10 : UInt8)] ++ y22 ++ [(13 : UInt8), (10 : UInt8)]).length (List.drop (0 : Nat) ([] ++ ([(72 : UInt8), (84 : UInt8), (84 : UInt8), (80 : UInt8), (47 : UInt8), (49 : UInt8), (46 : UInt8), (49 : UInt8), (32 : UInt8)] ++ y20 ++ [(32 : UInt8)] ++ y21 ++ [(13 : UInt8), (10 : UInt8)] ++ y22 ++ [(13 : UInt8), (10 : UInt8)]))) ++ List.take Body.length (List.drop (0 : Nat) Body)).length ∧ (↑(([(72 : UInt8), (84 : UInt8), (84 : UInt8), (80 : UInt8), (47 : UInt8), (49 : UInt8), (46 : UInt8), (49 : UInt8), (32 : UInt8)] ++ y20 ++ [(32 : UInt8)] ++ y21 ++ [(13 : UInt8), (10 : UInt8)] ++ y22 ++ [(13 : UInt8), (10 : UInt8)]).length + Body.length) : Int) ≤ (140737488355328 : Int)) <| .chk ((List.take (↑(([(72 : UInt8), (84 : UInt8), (84 : UInt8), (80 : UInt8), (47 : UInt8), (49 : UInt8), (46 : UInt8), (49 : UInt8), (32 : UInt8)] ++ y20 ++ [(32 : UInt8)] ++ y21 ++ [(13 : UInt8), (10 : UInt8)] ++ y22 ++ [(13 : UInt8), (10 : UInt8)]).length + Body.length) : Int).toNat (List.drop (0 : Nat) (List.take ([(72 : UInt8), (84 : UInt8), (84 : UInt8), (80 : UInt8), (47 : UInt8), (49 : UInt8), (46 : UInt8), (49 : UInt8), (32 : UInt8)] ++ y20 ++ [(32 : UInt8)] ++ y21 ++ [(13 : UInt8), (10 : UInt8)] ++ y22 ++ [(13 : UInt8), (10 : UInt8)]).length (List.drop (0 : Nat) ([] ++ ([(72 : UInt8), (84 : UInt8), (84 : UInt8), (80 : UInt8), (47 : UInt8), (49 : UInt8), (46 : UInt8), (49 : UInt8), (32 : UInt8)] ++ y20 ++ [(32 : UInt8)] ++ y21 ++ [(13 : UInt8), (10 : UInt8)] ++ y22 ++ [(13 : UInt8), (10 : UInt8)]))) ++ List.take Body.length (List.drop (0 : Nat) Body)))).length ≤ (140737488355328 : Nat)) <| .chk ((0 : Nat) = (0 : Nat) ∧ (List.take (↑(([(72 : UInt8), (84 : UInt8), (84 : UInt8), (80 : UInt8), (47 : UInt8), (49 : UInt8), (46 : UInt8), (49 : UInt8), (32 : UInt8)] ++ y20 ++ [(32 : UInt8)] ++ y21 ++ [(13 : UInt8), (10 : UInt8)] ++ y22 ++ [(13 : UInt8), (10 : UInt8)]).length + Body.length) : Int).toNat (List.drop (0 : Nat) (List.take ([(72 : UInt8), (84 : UInt8), (84 : UInt8), (80 : UInt8), (47 : UInt8), (49 : UInt8), (46 : UInt8), (49 : UInt8), (32 : UInt8)] ++ y20 ++ [(32 : UInt8)] ++ y21 ++ [(13 : UInt8), (10 : UInt8)] ++ y22 ++ [(13 : UInt8), (10 : UInt8)]).length (List.drop (0 : Nat) ([] ++ ([(72 : UInt8), (84 : UInt8), (84 : UInt8), (80 : UInt8), (47 : UInt8), (49 : UInt8), (46 : UInt8), (49 : UInt8), (32 : UInt8)] ++ y20 ++ [(32 : UInt8)] ++ y21 ++ [(13 : UInt8), (10 : UInt8)] ++ y22 ++ [(13 : UInt8), (10 : UInt8)]))) ++ List.take Body.length (List.drop (0 : Nat) Body)))).length = ([] ++ List.take (↑(([(72 : UInt8), (84 : UInt8), (84 : UInt8), (80 : UInt8), (47 : UInt8), (49 : UInt8), (46 : UInt8), (49 : UInt8), (32 : UInt8)] ++ y20 ++ [(32 : UInt8)] ++ y21 ++ [(13 : UInt8), (10 : UInt8)] ++ y22 ++ [(13 : UInt8), (10 : UInt8)]).length + Body.length) : Int).toNat (List.drop (0 : Nat) (List.take ([(72 : UInt8), (84 : UInt8), (84 : UInt8), (80 : UInt8), (47 : UInt8), (49 : UInt8), (46 : UInt8), (49 : UInt8), (32 : UInt8)] ++ y20 ++ [(32 : UInt8)] ++ y21 ++ [(13 : UInt8), (10 : UInt8)] ++ y22 ++ [(13 : UInt8), (10 : UInt8)]).length (List.drop (0 : Nat) ([] ++ ([(72 : UInt8), (84 : UInt8), (84 : UInt8), (80 : UInt8), (47 : UInt8), (49 : UInt8), (46 : UInt8), (49 : UInt8), (32 : UInt8)] ++ y20 ++ [(32 : UInt8)] ++ y21 ++ [(13 : UInt8), (10 : UInt8)] ++ y22 ++ [(13 : UInt8), (10 : UInt8)]))) ++ List.take Body.length (List.drop (0 : Nat) Body)))).length) <| .ret ([] ++ List.take (↑(([(72 : UInt8), (84 : UInt8), (84 : UInt8), (80 : UInt8), (47 : UInt8), (49 : UInt8), (46 : UInt8), (49 : UInt8), (32 : UInt8)] ++ y20 ++ [(32 : UInt8)] ++ y21 ++ [(13 : UInt8), (10 : UInt8)] ++ y22 ++ [(13 : UInt8), (10 : UInt8)]).length + Body.length) : Int).toNat (List.drop (0 : Nat) (List.take ([(72 : UInt8), (84 : UInt8), (84 : UInt8), (80 : UInt8), (47 : UInt8), (49 : UInt8), (46 : UInt8), (49 : UInt8), (32 : UInt8)] ++ y20 ++ [(32 : UInt8)] ++ y21 ++ [(13 : UInt8), (10 : UInt8)] ++ y22 ++ [(13 : UInt8), (10 : UInt8)]).length (List.drop (0 : Nat) ([] ++ ([(72 : UInt8), (84 : UInt8), (84 : UInt8), (80 : UInt8), (47 : UInt8), (49 : UInt8), (46 : UInt8), (49 : UInt8), (32 : UInt8)] ++ y20 ++ [(32 : UInt8)] ++ y21 ++ [(13 : UInt8), (10 : UInt8)] ++ y22 ++ [(13 : UInt8), (10 : UInt8)]))) ++ List.take Body.length (List.drop (0 : Nat) Body)))))
    (.chk ((0 : Nat) < ([(72 : UInt8), (84 : UInt8), (84 : UInt8), (80 : UInt8), (47 : UInt8), (49 : UInt8), (46 : UInt8), (49 : UInt8), (32 : UInt8)] ++ y20 ++ [(32 : UInt8)] ++ y21 ++ [(13 : UInt8), (10 : UInt8)] ++ y22 ++ [(13 : UInt8), (10 : UInt8)]).length) <| .chk ((0 : Int) < (↑([(72 : UInt8), (84 : UInt8), (84 : UInt8), (80 : UInt8), (47 : UInt8), (49 : UInt8), (46 : UInt8), (49 : UInt8), (32 : UInt8)] ++ y20 ++ [(32 : UInt8)] ++ y21 ++ [(13 : UInt8), (10 : UInt8)] ++ y22 ++ [(13 : UInt8), (10 : UInt8)]).length : Int) ∧ (0 : Nat) + (↑([(72 : UInt8), (84 : UInt8), (84 : UInt8), (80 : UInt8), (47 : UInt8), (49 : UInt8), (46 : UInt8), (49 : UInt8), (32 : UInt8)] ++ y20 ++ [(32 : UInt8)] ++ y21 ++ [(13 : UInt8), (10 : UInt8)] ++ y22 ++ [(13 : UInt8), (10 : UInt8)]).length : Int).toNat ≤ ([] ++ ([(72 : UInt8), (84 : UInt8), (84 : UInt8), (80 : UInt8), (47 : UInt8), (49 : UInt8), (46 : UInt8), (49 : UInt8), (32 : UInt8)] ++ y20 ++ [(32 : UInt8)] ++ y21 ++ [(13 : UInt8), (10 : UInt8)] ++ y22 ++ [(13 : UInt8), (10 : UInt8)])).length ∧ (↑([(72 : UInt8), (84 : UInt8), (84 : UInt8), (80 : UInt8), (47 : UInt8), (49 : UInt8), (46 : UInt8), (49 : UInt8), (32 : UInt8)] ++ y20 ++ [(32 : UInt8)] ++ y21 ++ [(13 : UInt8), (10 : UInt8)] ++ y22 ++ [(13 : UInt8), (10 : UInt8)]).length : Int) ≤ (140737488355328 : Int)) <| .chk ((List.take (↑([(72 : UInt8), (84 : UInt8), (84 : UInt8), (80 : UInt8), (47 : UInt8), (49 : UInt8), (46 : UInt8), (49 : UInt8), (32 : UInt8)] ++ y20 ++ [(32 : UInt8)] ++ y21 ++ [(13 : UInt8), (10 : UInt8)] ++ y22 ++ [(13 : UInt8), (10 : UInt8)]).length : Int).toNat (List.drop (0 : Nat) ([] ++ ([(72 : UInt8), (84 : UInt8), (84 : UInt8), (80 : UInt8), (47 : UInt8), (49 : UInt8), (46 : UInt8), (49 : UInt8), (32 : UInt8)] ++ y20 ++ [(32 : UInt8)] ++ y21 ++ [(13 : UInt8), (10 : UInt8)] ++ y22 ++ [(13 : UInt8), (10 : UInt8)])))).length ≤ (140737488355328 : Nat)) <| .chk ((0 : Nat) = (0 : Nat) ∧ (List.take (↑([(72 : UInt8), (84 : UInt8), (84 : UInt8), (80 : UInt8), (47 : UInt8), (49 : UInt8), (46 : UInt8), (49 : UInt8), (32 : UInt8)] ++ y20 ++ [(32 : UInt8)] ++ y21 ++ [(13 : UInt8), (10 : UInt8)] ++ y22 ++ [(13 : UInt8), (10 : UInt8)]).length : Int).toNat (List.drop (0 : Nat) ([] ++ ([(72 : UInt8), (84 : UInt8), (84 : UInt8), (80 : UInt8), (47 : UInt8), (49 : UInt8), (46 : UInt8), (49 : UInt8), (32 : UInt8)] ++ y20 ++ [(32 : UInt8)] ++ y21 ++ [(13 : UInt8), (10 : UInt8)] ++ y22 ++ [(13 : UInt8), (10 : UInt8)])))).length = ([] ++ List.take (↑([(72 : UInt8), (84 : UInt8), (84 : UInt8), (80 : UInt8), (47 : UInt8), (49 : UInt8), (46 : UInt8), (49 : UInt8), (32 : UInt8)] ++ y20 ++ [(32 : UInt8)] ++ y21 ++ [(13 : UInt8), (10 : UInt8)] ++ y22 ++ [(13 : UInt8), (10 : UInt8)]).length : Int).toNat (List.drop (0 : Nat) ([] ++ ([(72 : UInt8), (84 : UInt8), (84 : UInt8), (80 : UInt8), (47 : UInt8), (49 : UInt8), (46 : UInt8), (49 : UInt8), (32 : UInt8)] ++ y20 ++ [(32 : UInt8)] ++ y21 ++ [(13 : UInt8), (10 : UInt8)] ++ y22 ++ [(13 : UInt8), (10 : UInt8)])))).length) <| .ret ([] ++ List.take (↑([(72 : UInt8), (84 : UInt8), (84 : UInt8), (80 : UInt8), (47 : UInt8), (49 : UInt8), (46 : UInt8), (49 : UInt8), (32 : UInt8)] ++ y20 ++ [(32 : UInt8)] ++ y21 ++ [(13 : UInt8), (10 : UInt8)] ++ y22 ++ [(13 : UInt8), (10 : UInt8)]).length : Int).toNat (List.drop (0 : Nat) ([] ++ ([(72 : UInt8), (84 : UInt8), (84 : UInt8), (80 : UInt8), (47 : UInt8), (49 : UInt8), (46 : UInt8), (49 : UInt8), (32 : UInt8)] ++ y20 ++ [(32 : UInt8)] ++ y21 ++ [(13 : UInt8), (10 : UInt8)] ++ y22 ++ [(13 : UInt8), (10 : UInt8)]))))))
   (.chk ((0 : Nat) < ([(72 : UInt8), (84 : UInt8), (84 : UInt8), (80 : UInt8), (47 : UInt8), (49 : UInt8), (46 : UInt8), (49 : UInt8), (32 : UInt8)] ++ y20 ++ [(32 : UInt8)] ++ y21 ++ [(13 : UInt8), (10 : UInt8)] ++ y22 ++ [(13 : UInt8), (10 : UInt8)]).length) <| .chk ((0 : Int) < (↑([(72 : UInt8), (84 : UInt8), (84 : UInt8), (80 : UInt8), (47 : UInt8), (49 : UInt8), (46 : UInt8), (49 : UInt8), (32 : UInt8)] ++ y20 ++ [(32 : UInt8)] ++ y21 ++ [(13 : UInt8), (10 : UInt8)] ++ y22 ++ [(13 : UInt8), (10 : UInt8)]).length : Int) ∧ (0 : Nat) + (↑([(72 : UInt8), (84 : UInt8), (84 : UInt8), (80 : UInt8), (47 : UInt8), (49 : UInt8), (46 : UInt8), (49 : UInt8), (32 : UInt8)] ++ y20 ++ [(32 : UInt8)] ++ y21 ++ [(13 : UInt8), (10 : UInt8)] ++ y22 ++ [(13 : UInt8), (10 : UInt8)]).length : Int).toNat ≤ ([] ++ ([(72 : UInt8), (84 : UInt8), (84 : UInt8), (80 : UInt8), (47 : UInt8), (49 : UInt8), (46 : UInt8), (49 : UInt8), (32 : UInt8)] ++ y20 ++ [(32 : UInt8)] ++ y21 ++ [(13 : UInt8), (10 : UInt8)] ++ y22 ++ [(13 : UInt8), (10 : UInt8)])).length ∧ (↑([(72 : UInt8), (84 : UInt8), (84 : UInt8), (80 : UInt8), (47 : UInt8), (49 : UInt8), (46 : UInt8), (49 : UInt8), (32 : UInt8)] ++ y20 ++ [(32 : UInt8)] ++ y21 ++ [(13 : UInt8), (10 : UInt8)] ++ y22 ++ [(13 : UInt8), (10 : UInt8)]).length : Int) ≤ (140737488355328 : Int)) <| .chk ((List.take (↑([(72 : UInt8), (84 : UInt8), (84 : UInt8), (80 : UInt8), (47 : UInt8), (49 : UInt8), (46 : UInt8), (49 : UInt8), (32 : UInt8)] ++ y20 ++ [(32 : UInt8)] ++ y21 ++ [(13 : UInt8), (10 : UInt8)] ++ y22 ++ [(13 : UInt8), (10 : UInt8)]).length : Int).toNat (List.drop (0 : Nat) ([] ++ ([(72 : UInt8), (84 : UInt8), (84 : UInt8), (80 : UInt8), (47 : UInt8), (49 : UInt8), (46 : UInt8), (49 : UInt8), (32 : UInt8)] ++ y20 ++ [(32 : UInt8)] ++ y21 ++ [(13 : UInt8), (10 : UInt8)] ++ y22 ++ [(13 : UInt8), (10 : UInt8)])))).length ≤ (140737488355328 : Nat)) <| .chk ((0 : Nat) = (0 : Nat) ∧ (List.take (↑([(72 : UInt8), (84 : UInt8), (84 : UInt8), (80 : UInt8), (47 : UInt8), (49 : UInt8), (46 : UInt8), (49 : UInt8), (32 : UInt8)] ++ y20 ++ [(32 : UInt8)] ++ y21 ++ [(13 : UInt8), (10 : UInt8)] ++ y22 ++ [(13 : UInt8), (10 : UInt8)]).length : Int).toNat (List.drop (0 : Nat) ([] ++ ([(72 : UInt8), (84 : UInt8), (84 : UInt8), (80 : UInt8), (47 : UInt8), (49 : UInt8), (46 : UInt8), (49 : UInt8), (32 : UInt8)] ++ y20 ++ [(32 : UInt8)] ++ y21 ++ [(13 : UInt8), (10 : UInt8)] ++ y22 ++ [(13 : UInt8), (10 : UInt8)])))).length = ([] ++ List.take (↑([(72 : UInt8), (84 : UInt8), (84 : UInt8), (80 : UInt8), (47 : UInt8), (49 : UInt8), (46 : UInt8), (49 : UInt8), (32 : UInt8)] ++ y20 ++ [(32 : UInt8)] ++ y21 ++ [(13 : UInt8), (10 : UInt8)] ++ y22 ++ [(13 : UInt8), (10 : UInt8)]).length : Int).toNat (List.drop (0 : Nat) ([] ++ ([(72 : UInt8), (84 : UInt8), (84 : UInt8), (80 : UInt8), (47 : UInt8), (49 : UInt8), (46 : UInt8), (49 : UInt8), (32 : UInt8)] ++ y20 ++ [(32 : UInt8)] ++ y21 ++ [(13 : UInt8), (10 : UInt8)] ++ y22 ++ [(13 : UInt8), (10 : UInt8)])))).length) <| .ret ([] ++ List.take (↑([(72 : UInt8), (84 : UInt8), (84 : UInt8), (80 : UInt8), (47 : UInt8), (49 : UInt8), (46 : UInt8), (49 : UInt8), (32 : UInt8)] ++ y20 ++ [(32 : UInt8)] ++ y21 ++ [(13 : UInt8), (10 : UInt8)] ++ y22 ++ [(13 : UInt8), (10 : UInt8)]).length : Int).toNat (List.drop (0 : Nat) ([] ++ ([(72 : UInt8), (84 : UInt8), (84 : UInt8), (80 : UInt8), (47 : UInt8), (49 : UInt8), (46 : UInt8), (49 : UInt8), (32 : UInt8)] ++ y20 ++ [(32 : UInt8)] ++ y21 ++ [(13 : UInt8), (10 : UInt8)] ++ y22 ++ [(13 : UInt8), (10 : UInt8)])))))))))
def f (Fields : List (List UInt8 × List UInt8)) (Body : List UInt8) (Code : Int) (head : Bool) (closes : Bool) : Option (List UInt8) := (t Fields Body Code head closes).val
def F (x : D.den) : Option (List UInt8) := f x.1.1 x.1.2.1 x.2.1.1 x.2.2.1 x.2.2.2
def pa : D.den → (List UInt8) → A.den := fun ((Fields, (Body, _)), ((_, (_, _)), (_, _))) y1 => ((Fields, (Body, (y1, ()))), ())
def con : Con := tcon D A pa F
theorem ok : ConOk Tryz.prog 9 con := tcon_ok Base.mixed Base.prog_ok bk_field_Put_ok (by kernel_rfl) LapsOk.nil 9 (fun _ => rfl) (fun x => t x.1.1 x.1.2.1 x.2.1.1 x.2.2.1 x.2.2.2) (fun _ => rfl) fun _ _ _ => (by kernel_rfl)
end reply_Put
def bk_reply_Put : Book := bk_field_Put.add 9 reply_Put.con
theorem bk_reply_Put_ok : BookOk Tryz.prog bk_reply_Put := bk_field_Put_ok.add reply_Put.ok
end Go.Vx
end
section
set_option maxRecDepth 1000000
set_option maxHeartbeats 4000000
set_option synthInstance.maxSize 100000
set_option synthInstance.maxHeartbeats 400000
set_option linter.unusedVariables false
namespace Go.Vx
open Go Go.Vx Go.Proofs
namespace text_Find
def D : Dom := ⟨[.vec (.pair .str .str) 30 true], (.cat (.sl 0 2) .str)⟩
namespace L3
def D : Dom := ⟨[.vec (.pair .str .str) 30 true, .vec .str 9 false], (.cat .str (.cat (.sl 1 1) (.cat (.sl 0 2) (.cat (.int .i64) (.int .i64)))))⟩
def A : Dom := ⟨[.vec (.pair .str .str) 30 true, .vec .str 9 false], (.sl 1 1)⟩
def sel : List Nat := [0, 1, 2, 3, 4]
def t (l : List (List UInt8 × List UInt8)) (out : List (List UInt8)) (name : List UInt8) (t9 : Int) (t10 : Int) : Tr ((List (List UInt8) × Int) ⊕ (List (List UInt8))) :=
 .br (decide (t10 < t9)) (.chk ((0 : Int) ≤ t10 ∧ t10 < (↑l.length : Int)) <| .chk ((0 : Nat) + t10.toNat < l.length) <| .call (text_Same.f ((l.getD ((0 : Nat) + t10.toNat) ([], [])).fst) name) fun y1 =>
  .br y1 (.chk ((0 : Nat) + out.length ≤ out.length) <| .chk ((out.length + (1 : Nat)) * (16 : Nat) ≤ (140737488355328 : Nat)) <| .okl l.length <| .chk ((0 : Nat) = (0 : Nat) ∧ out.length + (1 : Nat) = (List.take out.length (List.drop (0 : Nat) out) ++ [(l.getD ((0 : Nat) + t10.toNat) ([], [])).snd]).length) <| .ret (.inl (List.take out.length (List.drop (0 : Nat) out) ++ [(l.getD ((0 : Nat) + t10.toNat) ([], [])).snd], IntKind.i64.wrap (t10 + (1 : Int)))))
  (.okl l.length <| .okl out.length <| .ret (.inl (out, IntKind.i64.wrap (t10 + (1 : Int))))))
 (.okl out.length <| .ret (.inr out))
def f (l : List (List UInt8 × List UInt8)) (out : List (List UInt8)) (name : List UInt8) (t9 : Int) (t10 : Int) : Option (List (List UInt8)) := Loop (fun z : List (List UInt8) × Int => t l z.1 name t9 z.2) (out, t10)
def F (x : D.den) : Option (List (List UInt8)) := f x.1.1 x.1.2.1 x.2.1 x.2.2.2.2.1 x.2.2.2.2.2
def pa : D.den → (List (List UInt8)) → A.den := fun ((l, (_, _)), (_, (_, (_, (_, _))))) y1 => ((l, (y1, ())), ())
def lap : Lap := tlap 3 25 [1, 5, 8, 9, 10] D (.exit 0) [5] A pa F
def pk (x : D.den) (z : List (List UInt8) × Int) : D.den := ((x.1.1, (z.1, ())), (x.2.1, ((), ((), (x.2.2.2.2.1, z.2)))))
def un (x : D.den) : List (List UInt8) × Int := (x.1.2.1, x.2.2.2.2.2)
def body (x : D.den) (z : List (List UInt8) × Int) : Tr ((List (List UInt8) × Int) ⊕ (List (List UInt8))) := t x.1.1 z.1 x.2.1 x.2.2.2.2.1 z.2
theorem ok : LapOk Tryz.prog 1 (codeOf Tryz.prog 55) lap := tlap_ok Base.mixed Base.prog_ok bk_reply_Put_ok (by kernel_rfl) (by kernel_rfl) LapsOk.nil 9 pk un body (fun _ _ => rfl) (fun _ _ => rfl) (fun _ _ => rfl) (fun _ => rfl) fun _ _ _ _ => (by kernel_rfl)
end L3
def A : Dom := text_Find.L3.A
def sel : List Nat := [0, 1]
def t (l : List (List UInt8 × List UInt8)) (name : List UInt8) : Tr (List (List UInt8)) :=
 .okl l.length <| .call (text_Find.L3.f l [] name (↑l.length : Int) (0 : Int)) fun y1 =>
 .okl y1.length <| .ret y1
def f (l : List (List UInt8 × List UInt8)) (name : List UInt8) : Option (List (List UInt8)) := (t l name).val
def F (x : D.den) : Option (List (List UInt8)) := f x.1.1 x.2.2
def pa : D.den → (List (List UInt8)) → A.den := fun ((l, _), (_, _)) y1 => ((l, (y1, ())), ())
def con : Con := tcon D A pa F
theorem ok : ConOk Tryz.prog 55 con := tcon_ok Base.mixed Base.prog_ok bk_reply_Put_ok (by kernel_rfl) (.cons L3.ok (by kernel_rfl) (.nil)) 9 (fun _ => rfl) (fun x => t x.1.1 x.2.2) (fun _ => rfl) fun _ _ _ => (by kernel_rfl)
end text_Find
def bk_text_Find : Book := bk_reply_Put.add 55 text_Find.con
theorem bk_text_Find_ok : BookOk Tryz.prog bk_text_Find := bk_reply_Put_ok.add text_Find.ok
namespace internal_stringslite_Index_sx2c
def D : Dom := ⟨[], (.cat .str (.lit (.str false [44])))⟩
def A : Dom := ⟨[], (.int .i64)⟩
def sel : List Nat := [0]
def t (s : List UInt8) : Tr (Int) :=
 .br ([(44 : UInt8)] == s) (.ret (0 : Int))
 (.call (slite_IndexByte.f s (44 : Int)) fun y1 =>
  .ret y1)
def f (s : List UInt8) : Option (Int) := (t s).val
def F (x : D.den) : Option (Int) := f x.2.1
def pa : D.den → (Int) → A.den := fun (_, (_, _)) y1 => ((), y1)
def con : Con := tcon D A pa F
theorem ok : ConOk Tryz.prog 104 con := tcon_ok Base.mixed Base.prog_ok bk_text_Find_ok (by kernel_rfl) LapsOk.nil 9 (fun _ => rfl) (fun x => t x.2.1) (fun _ => rfl) fun _ _ _ => (by kernel_rfl)
end internal_stringslite_Index_sx2c
def bk_internal_stringslite_Index_sx2c : Book := bk_text_Find.addS 104 (fun a => isStr 1 [44] a) internal_stringslite_Index_sx2c.con
theorem bk_internal_stringslite_Index_sx2c_ok : BookOk Tryz.prog bk_internal_stringslite_Index_sx2c := bk_text_Find_ok.addS internal_stringslite_Index_sx2c.ok
namespace strings_Index_sx2c
def D : Dom := ⟨[], (.cat .str (.lit (.str false [44])))⟩
def A : Dom := ⟨[], (.int .i64)⟩
def sel : List Nat := [0]
def t (s : List UInt8) : Tr (Int) :=
 .call (internal_stringslite_Index_sx2c.f s) fun y1 =>
 .ret y1
def f (s : List UInt8) : Option (Int) := (t s).val
def F (x : D.den) : Option (Int) := f x.2.1
def pa : D.den → (Int) → A.den := fun (_, (_, _)) y1 => ((), y1)
def con : Con := tcon D A pa F
theorem ok : ConOk Tryz.prog 116 con := tcon_ok Base.mixed Base.prog_ok bk_internal_stringslite_Index_sx2c_ok (by kernel_rfl) LapsOk.nil 9 (fun _ => rfl) (fun x => t x.2.1) (fun _ => rfl) fun _ _ _ => (by kernel_rfl)
end strings_Index_sx2c
def bk_strings_Index_sx2c : Book := bk_internal_stringslite_Index_sx2c.addS 116 (fun a => isStr 1 [44] a) strings_Index_sx2c.con
theorem bk_strings_Index_sx2c_ok : BookOk Tryz.prog bk_strings_Index_sx2c := bk_internal_stringslite_Index_sx2c_ok.addS strings_Index_sx2c.ok
namespace strings_genSplit_sx2c
def D : Dom := ⟨[], (.cat .str (.cat (.lit (.str false [44])) (.cat (.int .i64) (.int .i64))))⟩
namespace L11
def D : Dom := ⟨[.vec .str 9 false], (.cat .str (.cat (.lit (.str false [44])) (.cat (.int .i64) (.cat (.int .i64) (.cat (.sl 0 1) (.int .i64))))))⟩
def A : Dom := ⟨[.vec .str 9 false], (.cat .str (.cat (.sl 0 1) (.int .i64)))⟩
def sel : List Nat := [0, 1, 2, 3, 4]
def t (va : List (List UInt8)) (s : List UInt8) (sepSave : Int) (n : Int) (i : Int) : Tr ((List (List UInt8) × List UInt8 × Int) ⊕ (List (List UInt8) × List UInt8 × Int)) :=
 .br (decide (i < n)) (.call (strings_Index_sx2c.f s) fun y1 =>
  .br (decide (y1 < (0 : Int))) (.okl va.length <| .ret (.inr (va, s, i)))
  (.chk ((0 : Int) ≤ (0 : Int) ∧ (0 : Int) ≤ IntKind.i64.wrap (y1 + sepSave) ∧ IntKind.i64.wrap (y1 + sepSave) ≤ (↑s.length : Int)) <| .chk ((0 : Int) ≤ i ∧ i < (↑va.length : Int)) <| .chk ((0 : Nat) + i.toNat < va.length) <| .chk ((0 : Int) ≤ IntKind.i64.wrap (y1 + (1 : Int)) ∧ IntKind.i64.wrap (y1 + (1 : Int)) ≤ (↑s.length : Int) ∧ (↑s.length : Int) ≤ (↑s.length : Int)) <| .chk ((0 : Nat) = (0 : Nat) ∧ va.length = (va.set ((0 : Nat) + i.toNat) (List.drop (↑(0 : Nat) : Int).toNat (List.take (IntKind.i64.wrap (y1 + sepSave)).toNat s))).length) <| .ret (.inl (va.set ((0 : Nat) + i.toNat) (List.drop (↑(0 : Nat) : Int).toNat (List.take (IntKind.i64.wrap (y1 + sepSave)).toNat s)), List.drop (IntKind.i64.wrap (y1 + (1 : Int))).toNat (List.take (↑s.length : Int).toNat s), IntKind.i64.wrap (i + (1 : Int))))))
 (.okl va.length <| .ret (.inr (va, s, i)))
def f (va : List (List UInt8)) (s : List UInt8) (sepSave : Int) (n : Int) (i : Int) : Option (List (List UInt8) × List UInt8 × Int) := Loop (fun z : List (List UInt8) × List UInt8 × Int => t z.1 z.2.1 sepSave n z.2.2) (va, s, i)
def F (x : D.den) : Option (List (List UInt8) × List UInt8 × Int) := f x.1.1 x.2.1 x.2.2.2.1 x.2.2.2.2.1 x.2.2.2.2.2.2
def pa : D.den → (List (List UInt8) × List UInt8 × Int) → A.den := fun ((_, _), (_, (_, (_, (_, (_, _)))))) (y1, y2, y3) => ((y1, ()), (y2, ((), y3)))
def lap : Lap := tlap 11 66 [0, 1, 2, 3, 9, 10] D (.exit 0) [0, 9, 10] A pa F
def pk (x : D.den) (z : List (List UInt8) × List UInt8 × Int) : D.den := ((z.1, ()), (z.2.1, ((), (x.2.2.2.1, (x.2.2.2.2.1, ((), z.2.2))))))
def un (x : D.den) : List (List UInt8) × List UInt8 × Int := (x.1.1, x.2.1, x.2.2.2.2.2.2)
def body (x : D.den) (z : List (List UInt8) × List UInt8 × Int) : Tr ((List (List UInt8) × List UInt8 × Int) ⊕ (List (List UInt8) × List UInt8 × Int)) := t z.1 z.2.1 x.2.2.2.1 x.2.2.2.2.1 z.2.2
theorem ok : LapOk Tryz.prog 0 (codeOf Tryz.prog 97) lap := tlap_ok Base.mixed Base.prog_ok bk_strings_Index_sx2c_ok (by kernel_rfl) (by kernel_rfl) LapsOk.nil 9 pk un body (fun _ _ => rfl) (fun _ _ => rfl) (fun _ _ => rfl) (fun _ => rfl) fun _ _ _ _ => (by kernel_rfl)
end L11
def A : Dom := ⟨[.vec .str 9 false], (.sl 0 1)⟩
def sel : List Nat := [0, 1, 2]
def t (s : List UInt8) (sepSave : Int) (n : Int) : Tr (List (List UInt8)) :=
 .br (n == (0 : Int)) (.ret [])
 (.br (decide (n < (0 : Int))) (.call (strings_Count.f s [(44 : UInt8)]) fun y1 =>
  .chk ((0 : Int) ≤ mn2 (IntKind.i64.wrap (y1 + (1 : Int))) (IntKind.i64.wrap ((↑s.length : Int) + (1 : Int))) ∧ mn2 (IntKind.i64.wrap (y1 + (1 : Int))) (IntKind.i64.wrap ((↑s.length : Int) + (1 : Int))) ≤ mn2 (IntKind.i64.wrap (y1 + (1 : Int))) (IntKind.i64.wrap ((↑s.length : Int) + (1 : Int))) ∧ mn2 (IntKind.i64.wrap (y1 + (1 : Int))) (IntKind.i64.wrap ((↑s.length : Int) + (1 : Int))) * (↑(16 : Nat) : Int) ≤ (140737488355328 : Int) ∧ mn2 (IntKind.i64.wrap (y1 + (1 : Int))) (IntKind.i64.wrap ((↑s.length : Int) + (1 : Int))) ≤ (140737488355328 : Int)) <| .chk ((0 : Nat) = (0 : Nat) ∧ (mn2 (IntKind.i64.wrap (y1 + (1 : Int))) (IntKind.i64.wrap ((↑s.length : Int) + (1 : Int)))).toNat = (List.replicate (mn2 (IntKind.i64.wrap (y1 + (1 : Int))) (IntKind.i64.wrap ((↑s.length : Int) + (1 : Int)))).toNat ([] : List UInt8)).length) <| .call (strings_genSplit_sx2c.L11.f (List.replicate (mn2 (IntKind.i64.wrap (y1 + (1 : Int))) (IntKind.i64.wrap ((↑s.length : Int) + (1 : Int)))).toNat ([] : List UInt8)) s sepSave (IntKind.i64.wrap (mn2 (IntKind.i64.wrap (y1 + (1 : Int))) (IntKind.i64.wrap ((↑s.length : Int) + (1 : Int))) - (1 : Int))) (0 : Int)) fun (y2a, y2b, y2c) =>
  .chk ((0 : Int) ≤ y2c ∧ y2c < (↑y2a.length : Int)) <| .chk ((0 : Nat) + y2c.toNat < y2a.length) <| .chk ((0 : Int) ≤ (0 : Int) ∧ (0 : Int) ≤ IntKind.i64.wrap (y2c + (1 : Int)) ∧ IntKind.i64.wrap (y2c + (1 : Int)) ≤ (↑y2a.length : Int)) <| .chk ((0 : Nat) = (0 : Nat) ∧ (IntKind.i64.wrap (y2c + (1 : Int)) - (↑(0 : Nat) : Int)).toNat = (y2a.set ((0 : Nat) + y2c.toNat) y2b).length) <| .ret (y2a.set ((0 : Nat) + y2c.toNat) y2b))
  (.chk ((0 : Int) ≤ mn2 n (IntKind.i64.wrap ((↑s.length : Int) + (1 : Int))) ∧ mn2 n (IntKind.i64.wrap ((↑s.length : Int) + (1 : Int))) ≤ mn2 n (IntKind.i64.wrap ((↑s.length : Int) + (1 : Int))) ∧ mn2 n (IntKind.i64.wrap ((↑s.length : Int) + (1 : Int))) * (↑(16 : Nat) : Int) ≤ (140737488355328 : Int) ∧ mn2 n (IntKind.i64.wrap ((↑s.length : Int) + (1 : Int))) ≤ (140737488355328 : Int)) <| .chk ((0 : Nat) = (0 : Nat) ∧ (mn2 n (IntKind.i64.wrap ((↑s.length : Int) + (1 : Int)))).toNat = (List.replicate (mn2 n (IntKind.i64.wrap ((↑s.length : Int) + (1 : Int)))).toNat ([] : List UInt8)).length) <| .call (strings_genSplit_sx2c.L11.f (List.replicate (mn2 n (IntKind.i64.wrap ((↑s.length : Int) + (1 : Int)))).toNat ([] : List UInt8)) s sepSave (IntKind.i64.wrap (mn2 n (IntKind.i64.wrap ((↑s.length : Int) + (1 : Int))) - (1 : Int))) (0 : Int)) fun (y3a, y3b, y3c) =>
  .chk ((0 : Int) ≤ y3c ∧ y3c < (↑y3a.length : Int)) <| .chk ((0 : Nat) + y3c.toNat < y3a.length) <| .chk ((0 : Int) ≤ (0 : Int) ∧ (0 : Int) ≤ IntKind.i64.wrap (y3c + (1 : Int)) ∧ IntKind.i64.wrap (y3c + (1 : Int)) ≤ (↑y3a.length : Int)) <| .chk ((0 : Nat) = (0 : Nat) ∧ (IntKind.i64.wrap (y3c + (1 : Int)) - (↑(0 : Nat) : Int)).toNat = (y3a.set ((0 : Nat) + y3c.toNat) y3b).length) <| .ret (y3a.set ((0 : Nat) + y3c.toNat) y3b)))
def f (s : List UInt8) (sepSave : Int) (n : Int) : Option (List (List UInt8)) := (t s sepSave n).val
def F (x : D.den) : Option (List (List UInt8)) := f x.2.1 x.2.2.2.1 x.2.2.2.2
def pa : D.den → (List (List UInt8)) → A.den := fun (_, (_, (_, (_, _)))) y1 => ((y1, ()), ())
def con : Con := tcon D A pa F
theorem ok : ConOk Tryz.prog 97 con := tcon_ok Base.mixed Base.prog_ok bk_strings_Index_sx2c_ok (by kernel_rfl) (.cons L11.ok (by kernel_rfl) (.nil)) 9 (fun _ => rfl) (fun x => t x.2.1 x.2.2.2.1 x.2.2.2.2) (fun _ => rfl) fun _ _ _ => (by kernel_rfl)
end strings_genSplit_sx2c
def bk_strings_genSplit_sx2c : Book := bk_strings_Index_sx2c.addS 97 (fun a => isStr 1 [44] a) strings_genSplit_sx2c.con
theorem bk_strings_genSplit_sx2c_ok : BookOk Tryz.prog bk_strings_genSplit_sx2c := bk_strings_Index_sx2c_ok.addS strings_genSplit_sx2c.ok
namespace strings_Split_sx2c
def D : Dom := ⟨[], (.cat .str (.lit (.str false [44])))⟩
def A : Dom := ⟨[.vec .str 9 false], (.sl 0 1)⟩
def sel : List Nat := [0]
def t (s : List UInt8) : Tr (List (List UInt8)) :=
 .call (strings_genSplit_sx2c.f s (0 : Int) (-1 : Int)) fun y1 =>
 .okl y1.length <| .ret y1
def f (s : List UInt8) : Option (List (List UInt8)) := (t s).val
def F (x : D.den) : Option (List (List UInt8)) := f x.2.1
def pa : D.den → (List (List UInt8)) → A.den := fun (_, (_, _)) y1 => ((y1, ()), ())
def con : Con := tcon D A pa F
theorem ok : ConOk Tryz.prog 76 con := tcon_ok Base.mixed Base.prog_ok bk_strings_genSplit_sx2c_ok (by kernel_rfl) LapsOk.nil 9 (fun _ => rfl) (fun x => t x.2.1) (fun _ => rfl) fun _ _ _ => (by kernel_rfl)
end strings_Split_sx2c
def bk_strings_Split_sx2c : Book := bk_strings_genSplit_sx2c.addS 76 (fun a => isStr 1 [44] a) strings_Split_sx2c.con
theorem bk_strings_Split_sx2c_ok : BookOk Tryz.prog bk_strings_Split_sx2c := bk_strings_genSplit_sx2c_ok.addS strings_Split_sx2c.ok
namespace text_List
def D : Dom := ⟨[.vec .str 9 true], (.sl 0 1)⟩
namespace L6
def D : Dom := ⟨[.vec .str 9 true, .vec .str 9 false, .vec .str 9 false], (.cat (.sl 1 1) (.cat (.sl 0 1) (.cat (.int .i64) (.cat (.int .i64) (.cat (.sl 2 1) (.cat (.int .i64) (.int .i64)))))))⟩
def A : Dom := ⟨[.vec .str 9 true, .vec .str 9 false], (.cat (.sl 1 1) (.cat (.sl 0 1) (.cat (.int .i64) (.int .i64))))⟩
def sel : List Nat := [0, 1, 2, 5, 6]
def t (values : List (List UInt8)) (out : List (List UInt8)) (t15 : List (List UInt8)) (t16 : Int) (t17 : Int) : Tr ((List (List UInt8) × Int) ⊕ (List (List UInt8))) :=
 .br (decide (t17 < t16)) (.chk ((0 : Int) ≤ t17 ∧ t17 < (↑t15.length : Int)) <| .chk ((0 : Nat) + t17.toNat < t15.length) <| .call (text_Trim.f (t15.getD ((0 : Nat) + t17.toNat) [])) fun y1 =>
  .chk ((0 : Nat) + out.length ≤ out.length) <| .chk ((out.length + (1 : Nat)) * (16 : Nat) ≤ (140737488355328 : Nat)) <| .okl values.length <| .chk ((0 : Nat) = (0 : Nat) ∧ out.length + (1 : Nat) = (List.take out.length (List.drop (0 : Nat) out) ++ [y1]).length) <| .okl t15.length <| .ret (.inl (List.take out.length (List.drop (0 : Nat) out) ++ [y1], IntKind.i64.wrap (t17 + (1 : Int)))))
 (.okl values.length <| .okl out.length <| .ret (.inr out))
def f (values : List (List UInt8)) (out : List (List UInt8)) (t15 : List (List UInt8)) (t16 : Int) (t17 : Int) : Option (List (List UInt8)) := Loop (fun z : List (List UInt8) × Int => t values z.1 t15 t16 z.2) (out, t17)
def F (x : D.den) : Option (List (List UInt8)) := f x.1.1 x.1.2.1 x.1.2.2.1 x.2.2.2.2.2.2.1 x.2.2.2.2.2.2.2
def pa : D.den → (List (List UInt8)) → A.den := fun ((values, (_, (_, _))), (_, (_, (t9, (t10, (_, (_, _))))))) y1 => ((values, (y1, ())), ((), ((), (t9, t10))))
def lap : Lap := tlap 6 29 [3, 8, 9, 10, 15, 16, 17] D (.exit 2) [3, 8, 9, 10] A pa F
def pk (x : D.den) (z : List (List UInt8) × Int) : D.den := ((x.1.1, (z.1, (x.1.2.2.1, ()))), ((), ((), (x.2.2.2.1, (x.2.2.2.2.1, ((), (x.2.2.2.2.2.2.1, z.2)))))))
def un (x : D.den) : List (List UInt8) × Int := (x.1.2.1, x.2.2.2.2.2.2.2)
def body (x : D.den) (z : List (List UInt8) × Int) : Tr ((List (List UInt8) × Int) ⊕ (List (List UInt8))) := t x.1.1 z.1 x.1.2.2.1 x.2.2.2.2.2.2.1 z.2
theorem ok : LapOk Tryz.prog 1 (codeOf Tryz.prog 54) lap := tlap_ok Base.mixed Base.prog_ok bk_strings_Split_sx2c_ok (by kernel_rfl) (by kernel_rfl) LapsOk.nil 9 pk un body (fun _ _ => rfl) (fun _ _ => rfl) (fun _ _ => rfl) (fun _ => rfl) fun _ _ _ _ => (by kernel_rfl)
end L6
namespace L3
def D : Dom := text_List.L6.A
def A : Dom := ⟨[.vec .str 9 true, .vec .str 9 false], (.sl 1 1)⟩
def sel : List Nat := [0, 1, 2, 3]
def t (values : List (List UInt8)) (out : List (List UInt8)) (t9 : Int) (t10 : Int) : Tr ((List (List UInt8) × Int) ⊕ (List (List UInt8))) :=
 .br (decide (t10 < t9)) (.chk ((0 : Int) ≤ t10 ∧ t10 < (↑values.length : Int)) <| .chk ((0 : Nat) + t10.toNat < values.length) <| .call (strings_Split_sx2c.f (values.getD ((0 : Nat) + t10.toNat) [])) fun y1 =>
  .okl values.length <| .okl out.length <| .okl y1.length <| .call (text_List.L6.f values out y1 (↑y1.length : Int) (0 : Int)) fun y2 =>
  .okl values.length <| .okl y2.length <| .ret (.inl (y2, IntKind.i64.wrap (t10 + (1 : Int)))))
 (.okl out.length <| .ret (.inr out))
def f (values : List (List UInt8)) (out : List (List UInt8)) (t9 : Int) (t10 : Int) : Option (List (List UInt8)) := Loop (fun z : List (List UInt8) × Int => t values z.1 t9 z.2) (out, t10)
def F (x : D.den) : Option (List (List UInt8)) := f x.1.1 x.1.2.1 x.2.2.2.1 x.2.2.2.2
def pa : D.den → (List (List UInt8)) → A.den := fun ((values, (_, _)), (_, (_, (_, _)))) y1 => ((values, (y1, ())), ())
def lap : Lap := tlap 3 29 [3, 8, 9, 10] D (.exit 0) [3] A pa F
def pk (x : D.den) (z : List (List UInt8) × Int) : D.den := ((x.1.1, (z.1, ())), ((), ((), (x.2.2.2.1, z.2))))
def un (x : D.den) : List (List UInt8) × Int := (x.1.2.1, x.2.2.2.2)
def body (x : D.den) (z : List (List UInt8) × Int) : Tr ((List (List UInt8) × Int) ⊕ (List (List UInt8))) := t x.1.1 z.1 x.2.2.2.1 z.2
theorem ok : LapOk Tryz.prog 1 (codeOf Tryz.prog 54) lap := tlap_ok Base.mixed Base.prog_ok bk_strings_Split_sx2c_ok (by kernel_rfl) (by kernel_rfl) (.cons L6.ok (by kernel_rfl) (.nil)) 9 pk un body (fun _ _ => rfl) (fun _ _ => rfl) (fun _ _ => rfl) (fun _ => rfl) fun _ _ _ _ => (by kernel_rfl)
end L3
def A : Dom := ⟨[.vec .str 9 true, .vec .str 9 false], (.sl 1 1)⟩
def sel : List Nat := [0]
def t (values : List (List UInt8)) : Tr (List (List UInt8)) :=
 .okl values.length <| .call (text_List.L3.f values [] (↑values.length : Int) (0 : Int)) fun y1 =>
 .okl y1.length <| .ret y1
def f (values : List (List UInt8)) : Option (List (List UInt8)) := (t values).val
def F (x : D.den) : Option (List (List UInt8)) := f x.1.1
def pa : D.den → (List (List UInt8)) → A.den := fun ((values, _), _) y1 => ((values, (y1, ())), ())
def con : Con := tcon D A pa F
theorem ok : ConOk Tryz.prog 54 con := tcon_ok Base.mixed Base.prog_ok bk_strings_Split_sx2c_ok (by kernel_rfl) (.cons L6.ok (by kernel_rfl) (.cons L3.ok (by kernel_rfl) (.nil))) 9 (fun _ => rfl) (fun x => t x.1.1) (fun _ => rfl) fun _ _ _ => (by kernel_rfl)
end text_List
def bk_text_List : Book := bk_strings_Split_sx2c.add 54 text_List.con
theorem bk_text_List_ok : BookOk Tryz.prog bk_text_List := bk_strings_Split_sx2c_ok.add text_List.ok
namespace hop_Strip_1
def D : Dom := ⟨[], .str⟩
def A : Dom := ⟨[], .bool⟩
def sel : List Nat := [0]
def t (s : List UInt8) : Tr (Bool) :=
 .call (text_Same.f s [(72 : UInt8), (111 : UInt8), (115 : UInt8), (116 : UInt8)]) fun y1 =>
 .br y1 (.ret true)
 (.call (text_Same.f s [(67 : UInt8), (111 : UInt8), (110 : UInt8), (116 : UInt8), (101 : UInt8), (110 : UInt8), (116 : UInt8), (45 : UInt8), (76 : UInt8), (101 : UInt8), (110 : UInt8), (103 : UInt8), (116 : UInt8), (104 : UInt8)]) fun y2 =>
  .ret y2)
def f (s : List UInt8) : Option (Bool) := (t s).val
def F (x : D.den) : Option (Bool) := f x.2
def pa : D.den → (Bool) → A.den := fun (_, _) y1 => ((), y1)
def con : Con := tcon D A pa F
theorem ok : ConOk Tryz.prog 56 con := tcon_ok Base.mixed Base.prog_ok bk_text_List_ok (by kernel_rfl) LapsOk.nil 9 (fun _ => rfl) (fun x => t x.2) (fun _ => rfl) fun _ _ _ => (by kernel_rfl)
end hop_Strip_1
def bk_hop_Strip_1 : Book := bk_text_List.add 56 hop_Strip_1.con
theorem bk_hop_Strip_1_ok : BookOk Tryz.prog bk_hop_Strip_1 := bk_text_List_ok.add hop_Strip_1.ok
namespace hop_Names
def D : Dom := ⟨[], .nil⟩
def A : Dom := ⟨[.vec .str 9 false], (.sl 0 1)⟩
def sel : List Nat := []
def t  : Tr (List (List UInt8)) :=
 .call (strings_Fields.f [(67 : UInt8), (111 : UInt8), (110 : UInt8), (110 : UInt8), (101 : UInt8), (99 : UInt8), (116 : UInt8), (105 : UInt8), (111 : UInt8), (110 : UInt8), (32 : UInt8), (75 : UInt8), (101 : UInt8), (101 : UInt8), (112 : UInt8), (45 : UInt8), (65 : UInt8), (108 : UInt8), (105 : UInt8), (118 : UInt8), (101 : UInt8), (32 : UInt8), (80 : UInt8), (114 : UInt8), (111 : UInt8), (120 : UInt8), (121 : UInt8), (45 : UInt8), (65 : UInt8), (117 : UInt8), (116 : UInt8), (104 : UInt8), (101 : UInt8), (110 : UInt8), (116 : UInt8), (105 : UInt8), (99 : UInt8), (97 : UInt8), (116 : UInt8), (101 : UInt8), (32 : UInt8), (80 : UInt8), (114 : UInt8), (111 : UInt8), (120 : UInt8), (121 : UInt8), (45 : UInt8), (65 : UInt8), (117 : UInt8), (116 : UInt8), (104 : UInt8), (111 : UInt8), (114 : UInt8), (105 : UInt8), (122 : UInt8), (97 : UInt8), (116 : UInt8), (105 : UInt8), (111 : UInt8), (110 : UInt8), (32 : UInt8), (80 : UInt8), (114 : UInt8), (111 : UInt8), (120 : UInt8), (121 : UInt8), (45 : UInt8), (67 : UInt8), (111 : UInt8), (110 : UInt8), (110 : UInt8), (101 : UInt8), (99 : UInt8), (116 : UInt8), (105 : UInt8), (111 : UInt8), (110 : UInt8), (32 : UInt8), (84 : UInt8), (69 : UInt8), (32 : UInt8), (84 : UInt8), (114 : UInt8), (97 : UInt8), (105 : UInt8), (108 : UInt8), (101 : UInt8), (114 : UInt8), (32 : UInt8), (84 : UInt8), (114 : UInt8), (97 : UInt8), (110 : UInt8), (115 : UInt8), (102 : UInt8), (101 : UInt8), (114 : UInt8), (45 : UInt8), (69 : UInt8), (110 : UInt8), (99 : UInt8), (111 : UInt8), (100 : UInt8), (105 : UInt8), (110 : UInt8), (103 : UInt8), (32 : UInt8), (85 : UInt8), (112 : UInt8), (103 : UInt8), (114 : UInt8), (97 : UInt8), (100 : UInt8), (101 : UInt8)]) fun y1 =>
 .okl y1.length <| .ret y1
def f  : Option (List (List UInt8)) := (t ).val
def F (x : D.den) : Option (List (List UInt8)) := f
def pa : D.den → (List (List UInt8)) → A.den := fun (_, _) y1 => ((y1, ()), ())
def con : Con := tcon D A pa F
theorem ok : ConOk Tryz.prog 57 con := tcon_ok Base.mixed Base.prog_ok bk_hop_Strip_1_ok (by kernel_rfl) LapsOk.nil 9 (fun _ => rfl) (fun x => t ) (fun _ => rfl) fun _ _ _ => (by kernel_rfl)
end hop_Names
def bk_hop_Names : Book := bk_hop_Strip_1.add 57 hop_Names.con
theorem bk_hop_Names_ok : BookOk Tryz.prog bk_hop_Names := bk_hop_Strip_1_ok.add hop_Names.ok
namespace slices_IndexFunc_f_hop_Strip_1
def D : Dom := ⟨[.vec .str 9 true], (.cat (.sl 0 1) (.lit (.func (.func 56) [] [])))⟩
namespace L2
def D : Dom := ⟨[.vec .str 9 true], (.cat (.sl 0 1) (.cat (.lit (.func (.func 56) [] [])) (.cat (.int .i64) (.int .i64))))⟩
def A : Dom := ⟨[.vec .str 9 true], .nil⟩
def B : Dom := ⟨[.vec .str 9 true], (.int .i64)⟩
def sel : List Nat := [0, 1, 2]
def t (s : List (List UInt8)) (t7 : Int) (t8 : Int) : Tr ((Int) ⊕ ((Unit) ⊕ (Int))) :=
 .br (decide (t8 < t7)) (.chk ((0 : Int) ≤ t8 ∧ t8 < (↑s.length : Int)) <| .chk ((0 : Nat) + t8.toNat < s.length) <| .call (hop_Strip_1.f (s.getD ((0 : Nat) + t8.toNat) [])) fun y1 =>
  .br y1 (.ret (.inr (.inr t8)))
  (.okl s.length <| .ret (.inl (IntKind.i64.wrap (t8 + (1 : Int))))))
 (.ret (.inr (.inl ())))
def f (s : List (List UInt8)) (t7 : Int) (t8 : Int) : Option ((Unit) ⊕ (Int)) := Loop (fun z : Int => t s t7 z) t8
def F (x : D.den) : Option ((Unit) ⊕ (Int)) := f x.1.1 x.2.2.2.1 x.2.2.2.2
def pa : D.den → (Unit) → A.den := fun ((s, _), (_, (_, (_, _)))) _ => ((s, ()), ())
def pb : D.den → (Int) → B.den := fun ((s, _), (_, (_, (_, _)))) y1 => ((s, ()), y1)
def lap : Lap := tlap2 2 19 [0, 1, 7, 8] D (.exit 0) [] A .ret [4] B pa pb F
def pk (x : D.den) (z : Int) : D.den := ((x.1.1, ()), ((), ((), (x.2.2.2.1, z))))
def un (x : D.den) : Int := x.2.2.2.2
def body (x : D.den) (z : Int) : Tr ((Int) ⊕ ((Unit) ⊕ (Int))) := t x.1.1 x.2.2.2.1 z
theorem ok : LapOk Tryz.prog 1 (codeOf Tryz.prog 63) lap := tlap2_ok Base.mixed Base.prog_ok bk_hop_Names_ok (by kernel_rfl) (by kernel_rfl) LapsOk.nil 9 pk un body (fun _ _ => rfl) (fun _ _ => rfl) (fun _ _ => rfl) (fun _ _ => rfl) (fun _ => rfl) fun _ _ _ _ => (by kernel_rfl)
end L2
def A : Dom := ⟨[.vec .str 9 true], (.int .i64)⟩
def sel : List Nat := [0]
def t (s : List (List UInt8)) : Tr (Int) :=
 .okl s.length <| .both (slices_IndexFunc_f_hop_Strip_1.L2.f s (↑s.length : Int) (0 : Int)) (fun _ => .ret (-1 : Int))
 (fun y2 => .ret y2)
def f (s : List (List UInt8)) : Option (Int) := (t s).val
def F (x : D.den) : Option (Int) := f x.1.1
def pa : D.den → (Int) → A.den := fun ((s, _), (_, _)) y1 => ((s, ()), y1)
def con : Con := tcon D A pa F
theorem ok : ConOk Tryz.prog 63 con := tcon_ok Base.mixed Base.prog_ok bk_hop_Names_ok (by kernel_rfl) (.cons L2.ok (by kernel_rfl) (.nil)) 9 (fun _ => rfl) (fun x => t x.1.1) (fun _ => rfl) fun _ _ _ => (by kernel_rfl)
end slices_IndexFunc_f_hop_Strip_1
def bk_slices_IndexFunc_f_hop_Strip_1 : Book := bk_hop_Names.addS 63 (fun a => isFunc 1 56 a) slices_IndexFunc_f_hop_Strip_1.con
theorem bk_slices_IndexFunc_f_hop_Strip_1_ok : BookOk Tryz.prog bk_slices_IndexFunc_f_hop_Strip_1 := bk_hop_Names_ok.addS slices_IndexFunc_f_hop_Strip_1.ok
namespace slices_DeleteFunc_f_hop_Strip_1
def D : Dom := ⟨[.vec .str 9 false], (.cat (.sl 0 1) (.lit (.func (.func 56) [] [])))⟩
namespace L5
def D : Dom := ⟨[.vec .str 9 false], (.cat (.sl 0 1) (.cat (.lit (.func (.func 56) [] [])) (.cat (.int .i64) (.int .i64))))⟩
def A : Dom := ⟨[.vec .str 9 false], (.cat (.sl 0 1) (.int .i64))⟩
def sel : List Nat := [0, 1, 2]
def t (s : List (List UInt8)) (i : Int) (j : Int) : Tr ((List (List UInt8) × Int × Int) ⊕ (List (List UInt8) × Int)) :=
 .br (decide (j < (↑s.length : Int))) (.chk ((0 : Int) ≤ j ∧ j < (↑s.length : Int)) <| .chk ((0 : Nat) + j.toNat < s.length) <| .call (hop_Strip_1.f (s.getD ((0 : Nat) + j.toNat) [])) fun y1 =>
  .br (!y1) (.chk ((0 : Int) ≤ i ∧ i < (↑s.length : Int)) <| .chk ((0 : Nat) + i.toNat < s.length) <| .chk ((0 : Nat) = (0 : Nat) ∧ s.length = (s.set ((0 : Nat) + i.toNat) (s.getD ((0 : Nat) + j.toNat) [])).length) <| .ret (.inl (s.set ((0 : Nat) + i.toNat) (s.getD ((0 : Nat) + j.toNat) []), IntKind.i64.wrap (i + (1 : Int)), IntKind.i64.wrap (j + (1 : Int)))))
  (.okl s.length <| .ret (.inl (s, i, IntKind.i64.wrap (j + (1 : Int))))))
 (.okl s.length <| .ret (.inr (s, i)))
def f (s : List (List UInt8)) (i : Int) (j : Int) : Option (List (List UInt8) × Int) := Loop (fun z : List (List UInt8) × Int × Int => t z.1 z.2.1 z.2.2) (s, i, j)
def F (x : D.den) : Option (List (List UInt8) × Int) := f x.1.1 x.2.2.2.1 x.2.2.2.2
def pa : D.den → (List (List UInt8) × Int) → A.den := fun ((_, _), (_, (_, (_, _)))) (y1, y2) => ((y1, ()), ((), y2))
def lap : Lap := tlap 5 42 [0, 1, 5, 6] D (.exit 0) [0, 5] A pa F
def pk (x : D.den) (z : List (List UInt8) × Int × Int) : D.den := ((z.1, ()), ((), ((), (z.2.1, z.2.2))))
def un (x : D.den) : List (List UInt8) × Int × Int := (x.1.1, x.2.2.2.1, x.2.2.2.2)
def body (x : D.den) (z : List (List UInt8) × Int × Int) : Tr ((List (List UInt8) × Int × Int) ⊕ (List (List UInt8) × Int)) := t z.1 z.2.1 z.2.2
theorem ok : LapOk Tryz.prog 1 (codeOf Tryz.prog 53) lap := tlap_ok Base.mixed Base.prog_ok bk_slices_IndexFunc_f_hop_Strip_1_ok (by kernel_rfl) (by kernel_rfl) LapsOk.nil 9 pk un body (fun _ _ => rfl) (fun _ _ => rfl) (fun _ _ => rfl) (fun _ => rfl) fun _ _ _ _ => (by kernel_rfl)
end L5
def A : Dom := ⟨[.vec .str 9 false], (.part 0 1)⟩
def sel : List Nat := [0]
def t (s : List (List UInt8)) : Tr (List (List UInt8) × Nat × Nat) :=
 .chk ((0 : Nat) + s.length ≤ s.length) <| .call (slices_IndexFunc_f_hop_Strip_1.f (List.take s.length (List.drop (0 : Nat) s))) fun y1 =>
 .br (y1 == (-1 : Int)) (.ret (s, (0 : Nat), s.length))
 (.okl s.length <| .call (slices_DeleteFunc_f_hop_Strip_1.L5.f s y1 (IntKind.i64.wrap (y1 + (1 : Int)))) fun (y2a, y2b) =>
  .chk ((0 : Int) ≤ y2b ∧ y2b ≤ (↑y2a.length : Int) ∧ (↑y2a.length : Int) ≤ (↑y2a.length : Int)) <| .chk ((0 : Nat) < ((↑y2a.length : Int) - y2b).toNat ∧ (0 : Nat) + y2b.toNat + ((↑y2a.length : Int) - y2b).toNat ≤ y2a.length) <| .chk ((0 : Int) ≤ (0 : Int) ∧ (0 : Int) ≤ y2b ∧ y2b ≤ (↑y2a.length : Int)) <| .ret (List.take ((0 : Nat) + y2b.toNat) y2a ++ List.replicate ((↑y2a.length : Int) - y2b).toNat ([] : List UInt8) ++ List.drop ((0 : Nat) + y2b.toNat + ((↑y2a.length : Int) - y2b).toNat) y2a, (0 : Nat), (y2b - (↑(0 : Nat) : Int)).toNat))
def f (s : List (List UInt8)) : Option (List (List UInt8) × Nat × Nat) := (t s).val
def F (x : D.den) : Option (List (List UInt8) × Nat × Nat) := f x.1.1
def pa : D.den → (List (List UInt8) × Nat × Nat) → A.den := fun ((_, _), (_, _)) (y1, y2, y3) => ((y1, ()), (y2, y3))
def con : Con := tcon D A pa F
theorem ok : ConOk Tryz.prog 53 con := tcon_ok Base.mixed Base.prog_ok bk_slices_IndexFunc_f_hop_Strip_1_ok (by kernel_rfl) (.cons L5.ok (by kernel_rfl) (.nil)) 9 (fun _ => rfl) (fun x => t x.1.1) (fun _ => rfl) fun _ _ _ => (by kernel_rfl)
end slices_DeleteFunc_f_hop_Strip_1
def bk_slices_DeleteFunc_f_hop_Strip_1 : Book := bk_slices_IndexFunc_f_hop_Strip_1.addS 53 (fun a => isFunc 1 56 a) slices_DeleteFunc_f_hop_Strip_1.con
theorem bk_slices_DeleteFunc_f_hop_Strip_1_ok : BookOk Tryz.prog bk_slices_DeleteFunc_f_hop_Strip_1 := bk_slices_IndexFunc_f_hop_Strip_1_ok.addS slices_DeleteFunc_f_hop_Strip_1.ok
namespace hop_Strip
def D : Dom := ⟨[.vec (.pair .str .str) 30 true], (.sl 0 2)⟩
def A : Dom := ⟨[.vec (.pair .str .str) 30 true, .vec (.pair .str .str) 30 false], (.sl 1 2)⟩
def sel : List Nat := [0]
def t (l : List (List UInt8 × List UInt8)) : Tr (List (List UInt8 × List UInt8)) :=
 .chk ((0 : Nat) + l.length ≤ l.length) <| .call (text_Find.f (List.take l.length (List.drop (0 : Nat) l)) [(67 : UInt8), (111 : UInt8), (110 : UInt8), (110 : UInt8), (101 : UInt8), (99 : UInt8), (116 : UInt8), (105 : UInt8), (111 : UInt8), (110 : UInt8)]) fun y1 =>
 .chk ((0 : Nat) + y1.length ≤ y1.length) <| .call (text_List.f (List.take y1.length (List.drop (0 : Nat) y1))) fun y2 =>
 .okl y2.length <| .call (slices_DeleteFunc_f_hop_Strip_1.f y2) fun (y3a, y3b, y3c) =>
 .call (hop_Names.f) fun y4 =>
 .chk ((0 : Nat) + y3b + y3c ≤ y3a.length) <| .chk ((0 : Nat) + y4.length ≤ y4.length) <| .chk ((y4.length + y3c) * (16 : Nat) ≤ (140737488355328 : Nat)) <| .chk ((0 : Nat) + l.length ≤ l.length) <| .chk ((0 : Nat) + (y4.length + y3c) ≤ (List.take y4.length (List.drop (0 : Nat) y4) ++ List.take y3c (List.drop ((0 : Nat) + y3b) y3a)).length) <| .call (text_Without.f (List.take l.length (List.drop (0 : Nat) l)) (List.take (y4.length + y3c) (List.drop (0 : Nat) (List.take y4.length (List.drop (0 : Nat) y4) ++ List.take y3c (List.drop ((0 : Nat) + y3b) y3a))))) fun y5 =>
 .okl y5.length <| .ret y5
def f (l : List (List UInt8 × List UInt8)) : Option (List (List UInt8 × List UInt8)) := (t l).val
def F (x : D.den) : Option (List (List UInt8 × List UInt8)) := f x.1.1
def pa : D.den → (List (List UInt8 × List UInt8)) → A.den := fun ((l, _), _) y1 => ((l, (y1, ())), ())
def con : Con := tcon D A pa F
theorem ok : ConOk Tryz.prog 37 con := tcon_ok Base.mixed Base.prog_ok bk_slices_DeleteFunc_f_hop_Strip_1_ok (by kernel_rfl) LapsOk.nil 9 (fun _ => rfl) (fun x => t x.1.1) (fun _ => rfl) fun _ _ _ => (by kernel_rfl)
end hop_Strip
def bk_hop_Strip : Book := bk_slices_DeleteFunc_f_hop_Strip_1.add 37 hop_Strip.con
theorem bk_hop_Strip_ok : BookOk Tryz.prog bk_hop_Strip := bk_slices_DeleteFunc_f_hop_Strip_1_ok.add hop_Strip.ok
namespace hop_with
def D : Dom := ⟨[.vec (.pair .str .str) 30 true], (.cat (.sl 0 2) (.cat .str .str))⟩
def A : Dom := hop_Strip.A
def sel : List Nat := [0, 1, 2]
def t (l : List (List UInt8 × List UInt8)) (name : List UInt8) (value : List UInt8) : Tr (List (List UInt8 × List UInt8)) :=
 .chk ((0 : Nat) + l.length ≤ l.length) <| .call (slices_Clone.f (List.take l.length (List.drop (0 : Nat) l))) fun y1 =>
 .chk ((1 : Nat) ≤ [(name, value)].length) <| .chk ((0 : Nat) + y1.length ≤ y1.length) <| .chk ((y1.length + (1 : Nat)) * (32 : Nat) ≤ (140737488355328 : Nat)) <| .chk ((0 : Nat) = (0 : Nat) ∧ y1.length + (1 : Nat) = (List.take y1.length (List.drop (0 : Nat) y1) ++ List.take (1 : Nat) (List.drop (0 : Nat) [(name, value)])).length) <| .ret (List.take y1.length (List.drop (0 : Nat) y1) ++ List.take (1 : Nat) (List.drop (0 : Nat) [(name, value)]))
def f (l : List (List UInt8 × List UInt8)) (name : List UInt8) (value : List UInt8) : Option (List (List UInt8 × List UInt8)) := (t l name value).val
def F (x : D.den) : Option (List (List UInt8 × List UInt8)) := f x.1.1 x.2.2.1 x.2.2.2
def pa : D.den → (List (List UInt8 × List UInt8)) → A.den := fun ((l, _), (_, (_, _))) y1 => ((l, (y1, ())), ())
def con : Con := tcon D A pa F
theorem ok : ConOk Tryz.prog 52 con := tcon_ok Base.mixed Base.prog_ok bk_hop_Strip_ok (by kernel_rfl) LapsOk.nil 9 (fun _ => rfl) (fun x => t x.1.1 x.2.2.1 x.2.2.2) (fun _ => rfl) fun _ _ _ => (by kernel_rfl)
end hop_with
def bk_hop_with : Book := bk_hop_Strip.add 52 hop_with.con
theorem bk_hop_with_ok : BookOk Tryz.prog bk_hop_with := bk_hop_Strip_ok.add hop_with.ok
namespace hop_Via
def D : Dom := ⟨[.vec (.pair .str .str) 30 true], (.cat (.sl 0 2) .str)⟩
def A : Dom := hop_Strip.A
def sel : List Nat := [0, 1]
def t (l : List (List UInt8 × List UInt8)) (name : List UInt8) : Tr (List (List UInt8 × List UInt8)) :=
 .chk ((↑([(49 : UInt8), (46 : UInt8), (49 : UInt8), (32 : UInt8)].length + name.length) : Int) ≤ (9223372036854775807 : Int)) <| .chk ((0 : Nat) + l.length ≤ l.length) <| .call (hop_with.f (List.take l.length (List.drop (0 : Nat) l)) [(86 : UInt8), (105 : UInt8), (97 : UInt8)] ([(49 : UInt8), (46 : UInt8), (49 : UInt8), (32 : UInt8)] ++ name)) fun y1 =>
 .okl y1.length <| .ret y1
def f (l : List (List UInt8 × List UInt8)) (name : List UInt8) : Option (List (List UInt8 × List UInt8)) := (t l name).val
def F (x : D.den) : Option (List (List UInt8 × List UInt8)) := f x.1.1 x.2.2
def pa : D.den → (List (List UInt8 × List UInt8)) → A.den := fun ((l, _), (_, _)) y1 => ((l, (y1, ())), ())
def con : Con := tcon D A pa F
theorem ok : ConOk Tryz.prog 36 con := tcon_ok Base.mixed Base.prog_ok bk_hop_with_ok (by kernel_rfl) LapsOk.nil 9 (fun _ => rfl) (fun x => t x.1.1 x.2.2) (fun _ => rfl) fun _ _ _ => (by kernel_rfl)
end hop_Via
def bk_hop_Via : Book := bk_hop_with.add 36 hop_Via.con
theorem bk_hop_Via_ok : BookOk Tryz.prog bk_hop_Via := bk_hop_with_ok.add hop_Via.ok
namespace reply_Relay
def D : Dom := ⟨[.vec (.pair .str .str) 30 true, .vec .byte 5 true], (.cat (.agg (.cat (.int .i64) (.cat (.sl 0 2) (.sl 1 1)))) .str)⟩
def A : Dom := ⟨[.vec (.pair .str .str) 30 true, .vec .byte 5 true, .vec (.pair .str .str) 30 false], (.agg (.cat (.int .i64) (.cat (.sl 2 2) (.sl 1 1))))⟩
def sel : List Nat := [0, 1, 3]
def t (Fields : List (List UInt8 × List UInt8)) (Body : List UInt8) (via : List UInt8) : Tr (List (List UInt8 × List UInt8)) :=
 .chk ((0 : Nat) + Fields.length ≤ Fields.length) <| .call (hop_Strip.f (List.take Fields.length (List.drop (0 : Nat) Fields))) fun y1 =>
 .chk ((0 : Nat) + y1.length ≤ y1.length) <| .call (hop_Via.f (List.take y1.length (List.drop (0 : Nat) y1)) via) fun y2 =>
 .okl Body.length <| .okl y2.length <| .ret y2
def f (Fields : List (List UInt8 × List UInt8)) (Body : List UInt8) (via : List UInt8) : Option (List (List UInt8 × List UInt8)) := (t Fields Body via).val
def F (x : D.den) : Option (List (List UInt8 × List UInt8)) := f x.1.1 x.1.2.1 x.2.2
def pa : D.den → (List (List UInt8 × List UInt8)) → A.den := fun ((Fields, (Body, _)), ((Code, (_, _)), _)) y1 => ((Fields, (Body, (y1, ()))), (Code, ((), ())))
def con : Con := tcon D A pa F
theorem ok : ConOk Tryz.prog 14 con := tcon_ok Base.mixed Base.prog_ok bk_hop_Via_ok (by kernel_rfl) LapsOk.nil 9 (fun _ => rfl) (fun x => t x.1.1 x.1.2.1 x.2.2) (fun _ => rfl) fun _ _ _ => (by kernel_rfl)
end reply_Relay
def bk_reply_Relay : Book := bk_hop_Via.add 14 reply_Relay.con
theorem bk_reply_Relay_ok : BookOk Tryz.prog bk_reply_Relay := bk_hop_Via_ok.add reply_Relay.ok
namespace reply_Error
def D : Dom := ⟨[], (.int .i64)⟩
def A : Dom := ⟨[.vec (.pair .str .str) 30 false, .vec .byte 5 false], (.agg (.cat (.int .i64) (.cat (.sl 0 2) (.sl 1 1))))⟩
def sel : List Nat := [0]
def t (code : Int) : Tr ((List (List UInt8 × List UInt8)) × List UInt8) :=
 .call (reply_Reason.f code) fun y1 =>
 .chk (y1.length ≤ (140737488355328 : Nat)) <| .chk ((0 : Nat) = (0 : Nat) ∧ y1.length = ([] ++ y1).length) <| .ret ([], [] ++ y1)
def f (code : Int) : Option ((List (List UInt8 × List UInt8)) × List UInt8) := (t code).val
def F (x : D.den) : Option ((List (List UInt8 × List UInt8)) × List UInt8) := f x.2
def pa : D.den → ((List (List UInt8 × List UInt8)) × List UInt8) → A.den := fun (_, code) (y1, y2) => ((y1, (y2, ())), (code, ((), ())))
def con : Con := tcon D A pa F
theorem ok : ConOk Tryz.prog 18 con := tcon_ok Base.mixed Base.prog_ok bk_reply_Relay_ok (by kernel_rfl) LapsOk.nil 9 (fun _ => rfl) (fun x => t x.2) (fun _ => rfl) fun _ _ _ => (by kernel_rfl)
end reply_Error
def bk_reply_Error : Book := bk_reply_Relay.add 18 reply_Error.con
theorem bk_reply_Error_ok : BookOk Tryz.prog bk_reply_Error := bk_reply_Relay_ok.add reply_Error.ok
namespace reply_Continue
def D : Dom := ⟨[], .nil⟩
def A : Dom := ⟨[.vec .byte 5 false], (.sl 0 1)⟩
def sel : List Nat := []
def t  : Tr (List UInt8) :=
 .ret [(72 : UInt8), (84 : UInt8), (84 : UInt8), (80 : UInt8), (47 : UInt8), (49 : UInt8), (46 : UInt8), (49 : UInt8), (32 : UInt8), (49 : UInt8), (48 : UInt8), (48 : UInt8), (32 : UInt8), (67 : UInt8), (111 : UInt8), (110 : UInt8), (116 : UInt8), (105 : UInt8), (110 : UInt8), (117 : UInt8), (101 : UInt8), (13 : UInt8), (10 : UInt8), (13 : UInt8), (10 : UInt8)]
def f  : Option (List UInt8) := (t ).val
def F (x : D.den) : Option (List UInt8) := f
def pa : D.den → (List UInt8) → A.den := fun (_, _) y1 => ((y1, ()), ())
def con : Con := tcon D A pa F
theorem ok : ConOk Tryz.prog 20 con := tcon_ok Base.mixed Base.prog_ok bk_reply_Error_ok (by kernel_rfl) LapsOk.nil 9 (fun _ => rfl) (fun x => t ) (fun _ => rfl) fun _ _ _ => (by kernel_rfl)
end reply_Continue
def bk_reply_Continue : Book := bk_reply_Error.add 20 reply_Continue.con
theorem bk_reply_Continue_ok : BookOk Tryz.prog bk_reply_Continue := bk_reply_Error_ok.add reply_Continue.ok
end Go.Vx
end
section
set_option maxRecDepth 1000000
set_option maxHeartbeats 4000000
set_option synthInstance.maxSize 100000
set_option synthInstance.maxHeartbeats 400000
set_option linter.unusedVariables false
namespace Go.Vx
open Go Go.Vx Go.Proofs
namespace ref1_Digit
def D : Dom := ⟨[], (.int .u8)⟩
def A : Dom := ⟨[], .bool⟩
def sel : List Nat := [0]
def t (c : Int) : Tr (Bool) :=
 .br (decide (c ≥ (48 : Int))) (.ret (decide (c ≤ (57 : Int))))
 (.ret false)
def f (c : Int) : Option (Bool) := (t c).val
def F (x : D.den) : Option (Bool) := f x.2
def pa : D.den → (Bool) → A.den := fun (_, _) y1 => ((), y1)
def con : Con := tcon D A pa F
theorem ok : ConOk Tryz.prog 94 con := tcon_ok Base.mixed Base.prog_ok bk_reply_Continue_ok (by kernel_rfl) LapsOk.nil 9 (fun _ => rfl) (fun x => t x.2) (fun _ => rfl) fun _ _ _ => (by kernel_rfl)
end ref1_Digit
def bk_ref1_Digit : Book := bk_reply_Continue.add 94 ref1_Digit.con
theorem bk_ref1_Digit_ok : BookOk Tryz.prog bk_ref1_Digit := bk_reply_Continue_ok.add ref1_Digit.ok
namespace ref1_Hex
def D : Dom := ⟨[], (.int .u8)⟩
def A : Dom := ⟨[], (.tup (.cat (.int .i64) .bool))⟩
def sel : List Nat := [0]
def t (c : Int) : Tr (Int × Bool) :=
 .call (ref1_Digit.f c) fun y1 =>
 .br y1 (.ret (IntKind.i64.wrap (IntKind.u8.wrap (c - (48 : Int))), true))
 (.br (decide (c ≥ (97 : Int))) (.br (decide (c ≤ (102 : Int))) (.ret (IntKind.i64.wrap (IntKind.i64.wrap (IntKind.u8.wrap (c - (97 : Int))) + (10 : Int)), true))
  (.br (decide (c ≥ (65 : Int))) (.br (decide (c ≤ (70 : Int))) (.ret (IntKind.i64.wrap (IntKind.i64.wrap (IntKind.u8.wrap (c - (65 : Int))) + (10 : Int)), true))
   (.ret ((0 : Int), false)))
   (.ret ((0 : Int), false))))
  (.br (decide (c ≥ (65 : Int))) (.br (decide (c ≤ (70 : Int))) (.ret (IntKind.i64.wrap (IntKind.i64.wrap (IntKind.u8.wrap (c - (65 : Int))) + (10 : Int)), true))
   (.ret ((0 : Int), false)))
  (.ret ((0 : Int), false))))
def f (c : Int) : Option (Int × Bool) := (t c).val
def F (x : D.den) : Option (Int × Bool) := f x.2
def pa : D.den → (Int × Bool) → A.den := fun (_, _) (y1, y2) => ((), (y1, y2))
def con : Con := tcon D A pa F
theorem ok : ConOk Tryz.prog 90 con := tcon_ok Base.mixed Base.prog_ok bk_ref1_Digit_ok (by kernel_rfl) LapsOk.nil 9 (fun _ => rfl) (fun x => t x.2) (fun _ => rfl) fun _ _ _ => (by kernel_rfl)
end ref1_Hex
def bk_ref1_Hex : Book := bk_ref1_Digit.add 90 ref1_Hex.con
theorem bk_ref1_Hex_ok : BookOk Tryz.prog bk_ref1_Hex := bk_ref1_Digit_ok.add ref1_Hex.ok
namespace ref1_Letter
def D : Dom := ⟨[], (.int .u8)⟩
def A : Dom := ⟨[], .bool⟩
def sel : List Nat := [0]
def t (c : Int) : Tr (Bool) :=
 .br (decide (c ≥ (97 : Int))) (.br (decide (c ≤ (122 : Int))) (.ret true)
  (.br (decide (c ≥ (65 : Int))) (.ret (decide (c ≤ (90 : Int))))
  (.ret false)))
 (.br (decide (c ≥ (65 : Int))) (.ret (decide (c ≤ (90 : Int))))
  (.ret false))
def f (c : Int) : Option (Bool) := (t c).val
def F (x : D.den) : Option (Bool) := f x.2
def pa : D.den → (Bool) → A.den := fun (_, _) y1 => ((), y1)
def con : Con := tcon D A pa F
theorem ok : ConOk Tryz.prog 113 con := tcon_ok Base.mixed Base.prog_ok bk_ref1_Hex_ok (by kernel_rfl) LapsOk.nil 9 (fun _ => rfl) (fun x => t x.2) (fun _ => rfl) fun _ _ _ => (by kernel_rfl)
end ref1_Letter
def bk_ref1_Letter : Book := bk_ref1_Hex.add 113 ref1_Letter.con
theorem bk_ref1_Letter_ok : BookOk Tryz.prog bk_ref1_Letter := bk_ref1_Hex_ok.add ref1_Letter.ok
namespace ref1_in
def D : Dom := ⟨[], (.cat (.int .u8) .str)⟩
namespace L2
def D : Dom := ⟨[], (.cat (.int .u8) (.cat .str (.int .i64)))⟩
def A : Dom := ⟨[], .nil⟩
def B : Dom := ⟨[], .bool⟩
def sel : List Nat := [0, 1, 2]
def t (c : Int) (s : List UInt8) (i : Int) : Tr ((Int) ⊕ ((Unit) ⊕ (Bool))) :=
 .br (decide (i < (↑s.length : Int))) (.chk ((0 : Int) ≤ i ∧ i < (↑s.length : Int)) <| .br ((↑(s.getD i.toNat (0 : UInt8)).toNat : Int) == c) (.ret (.inr (.inr true)))
  (.ret (.inl (IntKind.i64.wrap (i + (1 : Int))))))
 (.ret (.inr (.inl ())))
def f (c : Int) (s : List UInt8) (i : Int) : Option ((Unit) ⊕ (Bool)) := Loop (fun z : Int => t c s z) i
def F (x : D.den) : Option ((Unit) ⊕ (Bool)) := f x.2.1 x.2.2.1 x.2.2.2
def pa : D.den → (Unit) → A.den := fun (_, (_, (_, _))) _ => ((), ())
def pb : D.den → (Bool) → B.den := fun (_, (_, (_, _))) y1 => ((), y1)
def lap : Lap := tlap2 2 17 [0, 1, 5] D (.exit 0) [] A .ret [4] B pa pb F
def pk (x : D.den) (z : Int) : D.den := ((), (x.2.1, (x.2.2.1, z)))
def un (x : D.den) : Int := x.2.2.2
def body (x : D.den) (z : Int) : Tr ((Int) ⊕ ((Unit) ⊕ (Bool))) := t x.2.1 x.2.2.1 z
theorem ok : LapOk Tryz.prog 0 (codeOf Tryz.prog 96) lap := tlap2_ok Base.mixed Base.prog_ok bk_ref1_Letter_ok (by kernel_rfl) (by kernel_rfl) LapsOk.nil 9 pk un body (fun _ _ => rfl) (fun _ _ => rfl) (fun _ _ => rfl) (fun _ _ => rfl) (fun _ => rfl) fun _ _ _ _ => (by kernel_rfl)
end L2
def A : Dom := ⟨[], .bool⟩
def sel : List Nat := [0, 1]
def t (c : Int) (s : List UInt8) : Tr (Bool) :=
 .both (ref1_in.L2.f c s (0 : Int)) (fun _ => .ret false)
 (fun y2 => .ret y2)
def f (c : Int) (s : List UInt8) : Option (Bool) := (t c s).val
def F (x : D.den) : Option (Bool) := f x.2.1 x.2.2
def pa : D.den → (Bool) → A.den := fun (_, (_, _)) y1 => ((), y1)
def con : Con := tcon D A pa F
theorem ok : ConOk Tryz.prog 96 con := tcon_ok Base.mixed Base.prog_ok bk_ref1_Letter_ok (by kernel_rfl) (.cons L2.ok (by kernel_rfl) (.nil)) 9 (fun _ => rfl) (fun x => t x.2.1 x.2.2) (fun _ => rfl) fun _ _ _ => (by kernel_rfl)
end ref1_in
def bk_ref1_in : Book := bk_ref1_Letter.add 96 ref1_in.con
theorem bk_ref1_in_ok : BookOk Tryz.prog bk_ref1_in := bk_ref1_Letter_ok.add ref1_in.ok
namespace ref1_Token
def D : Dom := ⟨[], (.int .u8)⟩
def A : Dom := ⟨[], .bool⟩
def sel : List Nat := [0]
def t (c : Int) : Tr (Bool) :=
 .call (ref1_Letter.f c) fun y1 =>
 .br y1 (.ret true)
 (.call (ref1_Digit.f c) fun y2 =>
  .br y2 (.ret true)
  (.call (ref1_in.f c [(33 : UInt8), (35 : UInt8), (36 : UInt8), (37 : UInt8), (38 : UInt8), (39 : UInt8), (42 : UInt8), (43 : UInt8), (45 : UInt8), (46 : UInt8), (94 : UInt8), (95 : UInt8), (96 : UInt8), (124 : UInt8), (126 : UInt8)]) fun y3 =>
  .ret y3))
def f (c : Int) : Option (Bool) := (t c).val
def F (x : D.den) : Option (Bool) := f x.2
def pa : D.den → (Bool) → A.den := fun (_, _) y1 => ((), y1)
def con : Con := tcon D A pa F
theorem ok : ConOk Tryz.prog 91 con := tcon_ok Base.mixed Base.prog_ok bk_ref1_in_ok (by kernel_rfl) LapsOk.nil 9 (fun _ => rfl) (fun x => t x.2) (fun _ => rfl) fun _ _ _ => (by kernel_rfl)
end ref1_Token
def bk_ref1_Token : Book := bk_ref1_in.add 91 ref1_Token.con
theorem bk_ref1_Token_ok : BookOk Tryz.prog bk_ref1_Token := bk_ref1_in_ok.add ref1_Token.ok
namespace ref1_Visible
def D : Dom := ⟨[], (.int .u8)⟩
def A : Dom := ⟨[], .bool⟩
def sel : List Nat := [0]
def t (c : Int) : Tr (Bool) :=
 .br (decide (c ≥ (33 : Int))) (.ret (decide (c ≤ (126 : Int))))
 (.ret false)
def f (c : Int) : Option (Bool) := (t c).val
def F (x : D.den) : Option (Bool) := f x.2
def pa : D.den → (Bool) → A.den := fun (_, _) y1 => ((), y1)
def con : Con := tcon D A pa F
theorem ok : ConOk Tryz.prog 92 con := tcon_ok Base.mixed Base.prog_ok bk_ref1_Token_ok (by kernel_rfl) LapsOk.nil 9 (fun _ => rfl) (fun x => t x.2) (fun _ => rfl) fun _ _ _ => (by kernel_rfl)
end ref1_Visible
def bk_ref1_Visible : Book := bk_ref1_Token.add 92 ref1_Visible.con
theorem bk_ref1_Visible_ok : BookOk Tryz.prog bk_ref1_Visible := bk_ref1_Token_ok.add ref1_Visible.ok
namespace ref1_Blank
def D : Dom := ⟨[], (.int .u8)⟩
def A : Dom := ⟨[], .bool⟩
def sel : List Nat := [0]
def t (c : Int) : Tr (Bool) :=
 .br (c == (32 : Int)) (.ret true)
 (.ret (c == (9 : Int)))
def f (c : Int) : Option (Bool) := (t c).val
def F (x : D.den) : Option (Bool) := f x.2
def pa : D.den → (Bool) → A.den := fun (_, _) y1 => ((), y1)
def con : Con := tcon D A pa F
theorem ok : ConOk Tryz.prog 93 con := tcon_ok Base.mixed Base.prog_ok bk_ref1_Visible_ok (by kernel_rfl) LapsOk.nil 9 (fun _ => rfl) (fun x => t x.2) (fun _ => rfl) fun _ _ _ => (by kernel_rfl)
end ref1_Blank
def bk_ref1_Blank : Book := bk_ref1_Visible.add 93 ref1_Blank.con
theorem bk_ref1_Blank_ok : BookOk Tryz.prog bk_ref1_Blank := bk_ref1_Visible_ok.add ref1_Blank.ok
namespace ref1_Text
def D : Dom := ⟨[], (.int .u8)⟩
def A : Dom := ⟨[], .bool⟩
def sel : List Nat := [0]
def t (c : Int) : Tr (Bool) :=
 .call (ref1_Visible.f c) fun y1 =>
 .br y1 (.ret true)
 (.call (ref1_Blank.f c) fun y2 =>
  .br y2 (.ret true)
  (.ret (decide (c ≥ (128 : Int)))))
def f (c : Int) : Option (Bool) := (t c).val
def F (x : D.den) : Option (Bool) := f x.2
def pa : D.den → (Bool) → A.den := fun (_, _) y1 => ((), y1)
def con : Con := tcon D A pa F
theorem ok : ConOk Tryz.prog 95 con := tcon_ok Base.mixed Base.prog_ok bk_ref1_Blank_ok (by kernel_rfl) LapsOk.nil 9 (fun _ => rfl) (fun x => t x.2) (fun _ => rfl) fun _ _ _ => (by kernel_rfl)
end ref1_Text
def bk_ref1_Text : Book := bk_ref1_Blank.add 95 ref1_Text.con
theorem bk_ref1_Text_ok : BookOk Tryz.prog bk_ref1_Text := bk_ref1_Blank_ok.add ref1_Text.ok
namespace ref1_is
def D : Dom := ⟨[], (.cat (.int .u8) (.int .i64))⟩
def A : Dom := ⟨[], .bool⟩
def sel : List Nat := [0, 1]
def t (c : Int) (kind : Int) : Tr (Bool) :=
 .call (ref1_Hex.f c) fun (_, y1b) =>
 .br (kind == (1 : Int)) (.call (ref1_Token.f c) fun y2 =>
  .ret y2)
 (.br (kind == (2 : Int)) (.call (ref1_Visible.f c) fun y3 =>
  .ret y3)
  (.br (kind == (3 : Int)) (.call (ref1_Blank.f c) fun y4 =>
   .ret y4)
  (.br (kind == (4 : Int)) (.call (ref1_Digit.f c) fun y5 =>
   .ret y5)
   (.br (kind == (5 : Int)) (.ret y1b)
   (.br (kind == (6 : Int)) (.call (ref1_Text.f c) fun y6 =>
    .ret y6)
    (.ret false))))))
def f (c : Int) (kind : Int) : Option (Bool) := (t c kind).val
def F (x : D.den) : Option (Bool) := f x.2.1 x.2.2
def pa : D.den → (Bool) → A.den := fun (_, (_, _)) y1 => ((), y1)
def con : Con := tcon D A pa F
theorem ok : ConOk Tryz.prog 73 con := tcon_ok Base.mixed Base.prog_ok bk_ref1_Text_ok (by kernel_rfl) LapsOk.nil 9 (fun _ => rfl) (fun x => t x.2.1 x.2.2) (fun _ => rfl) fun _ _ _ => (by kernel_rfl)
end ref1_is
def bk_ref1_is : Book := bk_ref1_Text.add 73 ref1_is.con
theorem bk_ref1_is_ok : BookOk Tryz.prog bk_ref1_is := bk_ref1_Text_ok.add ref1_is.ok
namespace ref1_All
def D : Dom := ⟨[.vec (.int .i64) 3 true], (.cat .str (.sl 0 1))⟩
namespace L6
def D : Dom := ⟨[.vec (.int .i64) 3 true], (.cat .str (.cat (.sl 0 1) (.cat (.int .i64) (.cat .bool (.int .i64)))))⟩
def A : Dom := ⟨[.vec (.int .i64) 3 true], (.cat .str (.cat (.sl 0 1) (.cat (.int .i64) .bool)))⟩
def sel : List Nat := [0, 1, 2, 3, 4]
def t (kinds : List Int) (s : List UInt8) (i : Int) (ok : Bool) (k : Int) : Tr ((Bool × Int) ⊕ (Bool)) :=
 .br (decide (k < (↑kinds.length : Int))) (.br ok (.okl kinds.length <| .ret (.inl (true, IntKind.i64.wrap (k + (1 : Int)))))
  (.chk ((0 : Int) ≤ i ∧ i < (↑s.length : Int)) <| .chk ((0 : Int) ≤ k ∧ k < (↑kinds.length : Int)) <| .chk ((0 : Nat) + k.toNat < kinds.length) <| .call (ref1_is.f (↑(s.getD i.toNat (0 : UInt8)).toNat : Int) (kinds.getD ((0 : Nat) + k.toNat) (0 : Int))) fun y1 =>
  .okl kinds.length <| .ret (.inl (y1, IntKind.i64.wrap (k + (1 : Int))))))
 (.okl kinds.length <| .ret (.inr ok))
def f (kinds : List Int) (s : List UInt8) (i : Int) (ok : Bool) (k : Int) : Option (Bool) := Loop (fun z : Bool × Int => t kinds s i z.1 z.2) (ok, k)
def F (x : D.den) : Option (Bool) := f x.1.1 x.2.1 x.2.2.2.1 x.2.2.2.2.1 x.2.2.2.2.2
def pa : D.den → (Bool) → A.den := fun ((kinds, _), (s, (_, (i, (_, _))))) y1 => ((kinds, ()), (s, ((), (i, y1))))
def lap : Lap := tlap 6 33 [0, 1, 5, 6, 7] D (.exit 2) [0, 1, 5, 6] A pa F
def pk (x : D.den) (z : Bool × Int) : D.den := ((x.1.1, ()), (x.2.1, ((), (x.2.2.2.1, (z.1, z.2)))))
def un (x : D.den) : Bool × Int := (x.2.2.2.2.1, x.2.2.2.2.2)
def body (x : D.den) (z : Bool × Int) : Tr ((Bool × Int) ⊕ (Bool)) := t x.1.1 x.2.1 x.2.2.2.1 z.1 z.2
theorem ok : LapOk Tryz.prog 1 (codeOf Tryz.prog 50) lap := tlap_ok Base.mixed Base.prog_ok bk_ref1_is_ok (by kernel_rfl) (by kernel_rfl) LapsOk.nil 9 pk un body (fun _ _ => rfl) (fun _ _ => rfl) (fun _ _ => rfl) (fun _ => rfl) fun _ _ _ _ => (by kernel_rfl)
end L6
namespace L2
def D : Dom := ⟨[.vec (.int .i64) 3 true], (.cat .str (.cat (.sl 0 1) (.int .i64)))⟩
def A : Dom := ⟨[.vec (.int .i64) 3 true], .nil⟩
def B : Dom := ⟨[.vec (.int .i64) 3 true], .bool⟩
def sel : List Nat := [0, 1, 2]
def t (kinds : List Int) (s : List UInt8) (i : Int) : Tr ((Int) ⊕ ((Unit) ⊕ (Bool))) :=
 .br (decide (i < (↑s.length : Int))) (.okl kinds.length <| .call (ref1_All.L6.f kinds s i false (0 : Int)) fun y1 =>
  .br (!y1) (.ret (.inr (.inr false)))
  (.okl kinds.length <| .ret (.inl (IntKind.i64.wrap (i + (1 : Int))))))
 (.ret (.inr (.inl ())))
def f (kinds : List Int) (s : List UInt8) (i : Int) : Option ((Unit) ⊕ (Bool)) := Loop (fun z : Int => t kinds s z) i
def F (x : D.den) : Option ((Unit) ⊕ (Bool)) := f x.1.1 x.2.1 x.2.2.2
def pa : D.den → (Unit) → A.den := fun ((kinds, _), (_, (_, _))) _ => ((kinds, ()), ())
def pb : D.den → (Bool) → B.den := fun ((kinds, _), (_, (_, _))) y1 => ((kinds, ()), y1)
def lap : Lap := tlap2 2 33 [0, 1, 5] D (.exit 0) [] A .ret [4] B pa pb F
def pk (x : D.den) (z : Int) : D.den := ((x.1.1, ()), (x.2.1, ((), z)))
def un (x : D.den) : Int := x.2.2.2
def body (x : D.den) (z : Int) : Tr ((Int) ⊕ ((Unit) ⊕ (Bool))) := t x.1.1 x.2.1 z
theorem ok : LapOk Tryz.prog 1 (codeOf Tryz.prog 50) lap := tlap2_ok Base.mixed Base.prog_ok bk_ref1_is_ok (by kernel_rfl) (by kernel_rfl) (.cons L6.ok (by kernel_rfl) (.nil)) 9 pk un body (fun _ _ => rfl) (fun _ _ => rfl) (fun _ _ => rfl) (fun _ _ => rfl) (fun _ => rfl) fun _ _ _ _ => (by kernel_rfl)
end L2
def A : Dom := ⟨[.vec (.int .i64) 3 true], .bool⟩
def sel : List Nat := [0, 1]
def t (kinds : List Int) (s : List UInt8) : Tr (Bool) :=
 .okl kinds.length <| .both (ref1_All.L2.f kinds s (0 : Int)) (fun _ => .ret true)
 (fun y2 => .ret y2)
def f (kinds : List Int) (s : List UInt8) : Option (Bool) := (t kinds s).val
def F (x : D.den) : Option (Bool) := f x.1.1 x.2.1
def pa : D.den → (Bool) → A.den := fun ((kinds, _), (_, _)) y1 => ((kinds, ()), y1)
def con : Con := tcon D A pa F
theorem ok : ConOk Tryz.prog 50 con := tcon_ok Base.mixed Base.prog_ok bk_ref1_is_ok (by kernel_rfl) (.cons L6.ok (by kernel_rfl) (.cons L2.ok (by kernel_rfl) (.nil))) 9 (fun _ => rfl) (fun x => t x.1.1 x.2.1) (fun _ => rfl) fun _ _ _ => (by kernel_rfl)
end ref1_All
def bk_ref1_All : Book := bk_ref1_is.add 50 ref1_All.con
theorem bk_ref1_All_ok : BookOk Tryz.prog bk_ref1_All := bk_ref1_is_ok.add ref1_All.ok
namespace ref1_TrimOf
def D : Dom := ⟨[], (.cat .str .str)⟩
namespace L1
def D : Dom := ⟨[], (.cat .str .str)⟩
def A : Dom := ⟨[], (.cat .str .str)⟩
def sel : List Nat := [0, 1]
def t (s : List UInt8) (set : List UInt8) : Tr ((List UInt8) ⊕ (List UInt8)) :=
 .br (!s == []) (.chk ((0 : Int) ≤ (0 : Int) ∧ (0 : Int) < (↑s.length : Int)) <| .call (ref1_in.f (↑(s.getD (Int.toNat (0 : Int)) (0 : UInt8)).toNat : Int) set) fun y1 =>
  .br y1 (.chk ((0 : Int) ≤ (1 : Int) ∧ (1 : Int) ≤ (↑s.length : Int) ∧ (↑s.length : Int) ≤ (↑s.length : Int)) <| .ret (.inl (List.drop (Int.toNat (1 : Int)) (List.take (↑s.length : Int).toNat s))))
  (.ret (.inr s)))
 (.ret (.inr s))
def f (s : List UInt8) (set : List UInt8) : Option (List UInt8) := Loop (fun z : List UInt8 => t z set) s
def F (x : D.den) : Option (List UInt8) := f x.2.1 x.2.2
def pa : D.den → (List UInt8) → A.den := fun (_, (_, set)) y1 => ((), (y1, set))
def lap : Lap := tlap 1 32 [0, 1] D (.exit 0) [0, 1] A pa F
def pk (x : D.den) (z : List UInt8) : D.den := ((), (z, x.2.2))
def un (x : D.den) : List UInt8 := x.2.1
def body (x : D.den) (z : List UInt8) : Tr ((List UInt8) ⊕ (List UInt8)) := t z x.2.2
theorem ok : LapOk Tryz.prog 0 (codeOf Tryz.prog 74) lap := tlap_ok Base.mixed Base.prog_ok bk_ref1_All_ok (by kernel_rfl) (by kernel_rfl) LapsOk.nil 9 pk un body (fun _ _ => rfl) (fun _ _ => rfl) (fun _ _ => rfl) (fun _ => rfl) fun _ _ _ _ => (by kernel_rfl)
end L1
namespace L3
def D : Dom := ⟨[], (.cat .str .str)⟩
def A : Dom := ⟨[], .str⟩
def sel : List Nat := [0, 1]
def t (s : List UInt8) (set : List UInt8) : Tr ((List UInt8) ⊕ (List UInt8)) :=
 .br (!s == []) (.chk ((0 : Int) ≤ IntKind.i64.wrap ((↑s.length : Int) - (1 : Int)) ∧ IntKind.i64.wrap ((↑s.length : Int) - (1 : Int)) < (↑s.length : Int)) <| .call (ref1_in.f (↑(s.getD (IntKind.i64.wrap ((↑s.length : Int) - (1 : Int))).toNat (0 : UInt8)).toNat : Int) set) fun y1 =>
  .br y1 (.chk ((0 : Int) ≤ (0 : Int) ∧ (0 : Int) ≤ IntKind.i64.wrap ((↑s.length : Int) - (1 : Int)) ∧ IntKind.i64.wrap ((↑s.length : Int) - (1 : Int)) ≤ (↑s.length : Int)) <| .ret (.inl (List.drop (↑(0 : Nat) : Int).toNat (List.take (IntKind.i64.wrap ((↑s.length : Int) - (1 : Int))).toNat s))))
  (.ret (.inr s)))
 (.ret (.inr s))
def f (s : List UInt8) (set : List UInt8) : Option (List UInt8) := Loop (fun z : List UInt8 => t z set) s
def F (x : D.den) : Option (List UInt8) := f x.2.1 x.2.2
def pa : D.den → (List UInt8) → A.den := fun (_, (_, _)) y1 => ((), y1)
def lap : Lap := tlap 3 32 [0, 1] D (.exit 2) [0] A pa F
def pk (x : D.den) (z : List UInt8) : D.den := ((), (z, x.2.2))
def un (x : D.den) : List UInt8 := x.2.1
def body (x : D.den) (z : List UInt8) : Tr ((List UInt8) ⊕ (List UInt8)) := t z x.2.2
theorem ok : LapOk Tryz.prog 0 (codeOf Tryz.prog 74) lap := tlap_ok Base.mixed Base.prog_ok bk_ref1_All_ok (by kernel_rfl) (by kernel_rfl) LapsOk.nil 9 pk un body (fun _ _ => rfl) (fun _ _ => rfl) (fun _ _ => rfl) (fun _ => rfl) fun _ _ _ _ => (by kernel_rfl)
end L3
def A : Dom := ⟨[], .str⟩
def sel : List Nat := [0, 1]
def t (s : List UInt8) (set : List UInt8) : Tr (List UInt8) :=
 .call (ref1_TrimOf.L1.f s set) fun y1 =>
 .call (ref1_TrimOf.L3.f y1 set) fun y2 =>
 .ret y2
def f (s : List UInt8) (set : List UInt8) : Option (List UInt8) := (t s set).val
def F (x : D.den) : Option (List UInt8) := f x.2.1 x.2.2
def pa : D.den → (List UInt8) → A.den := fun (_, (_, _)) y1 => ((), y1)
def con : Con := tcon D A pa F
theorem ok : ConOk Tryz.prog 74 con := tcon_ok Base.mixed Base.prog_ok bk_ref1_All_ok (by kernel_rfl) (.cons L1.ok (by kernel_rfl) (.cons L3.ok (by kernel_rfl) (.nil))) 9 (fun _ => rfl) (fun x => t x.2.1 x.2.2) (fun _ => rfl) fun _ _ _ => (by kernel_rfl)
end ref1_TrimOf
def bk_ref1_TrimOf : Book := bk_ref1_All.add 74 ref1_TrimOf.con
theorem bk_ref1_TrimOf_ok : BookOk Tryz.prog bk_ref1_TrimOf := bk_ref1_All_ok.add ref1_TrimOf.ok
namespace ref1_Trim
def D : Dom := ⟨[], .str⟩
def A : Dom := ⟨[], .str⟩
def sel : List Nat := [0]
def t (s : List UInt8) : Tr (List UInt8) :=
 .call (ref1_TrimOf.f s [(32 : UInt8), (9 : UInt8)]) fun y1 =>
 .ret y1
def f (s : List UInt8) : Option (List UInt8) := (t s).val
def F (x : D.den) : Option (List UInt8) := f x.2
def pa : D.den → (List UInt8) → A.den := fun (_, _) y1 => ((), y1)
def con : Con := tcon D A pa F
theorem ok : ConOk Tryz.prog 51 con := tcon_ok Base.mixed Base.prog_ok bk_ref1_TrimOf_ok (by kernel_rfl) LapsOk.nil 9 (fun _ => rfl) (fun x => t x.2) (fun _ => rfl) fun _ _ _ => (by kernel_rfl)
end ref1_Trim
def bk_ref1_Trim : Book := bk_ref1_TrimOf.add 51 ref1_Trim.con
theorem bk_ref1_Trim_ok : BookOk Tryz.prog bk_ref1_Trim := bk_ref1_TrimOf_ok.add ref1_Trim.ok
namespace ref9_Right
def D : Dom := ⟨[], (.agg (.cat .str .str))⟩
def A : Dom := ⟨[], .bool⟩
def sel : List Nat := [0, 1]
def t (Name : List UInt8) (Value : List UInt8) : Tr (Bool) :=
 .br (!Name == []) (.call (ref1_All.f [(1 : Int)] Name) fun y1 =>
  .br y1 (.call (ref1_All.f [(6 : Int)] Value) fun y2 =>
  .br y2 (.call (ref1_Trim.f Value) fun y3 =>
   .ret (y3 == Value))
  (.ret false))
  (.ret false))
 (.ret false)
def f (Name : List UInt8) (Value : List UInt8) : Option (Bool) := (t Name Value).val
def F (x : D.den) : Option (Bool) := f x.2.1 x.2.2
def pa : D.den → (Bool) → A.den := fun (_, (_, _)) y1 => ((), y1)
def con : Con := tcon D A pa F
theorem ok : ConOk Tryz.prog 35 con := tcon_ok Base.mixed Base.prog_ok bk_ref1_Trim_ok (by kernel_rfl) LapsOk.nil 9 (fun _ => rfl) (fun x => t x.2.1 x.2.2) (fun _ => rfl) fun _ _ _ => (by kernel_rfl)
end ref9_Right
def bk_ref9_Right : Book := bk_ref1_Trim.add 35 ref9_Right.con
theorem bk_ref9_Right_ok : BookOk Tryz.prog bk_ref9_Right := bk_ref1_Trim_ok.add ref9_Right.ok
namespace ref27_Right
def D : Dom := reply_Right.D
namespace L2
def D : Dom := ⟨[.vec (.pair .str .str) 30 true, .vec .byte 5 true, .cells (.cat (.int .i64) (.cat (.sl 0 2) (.sl 1 1))) 25 false], (.cat (.ptr 2 0 0 0) (.int .i64))⟩
def A : Dom := ⟨[.vec (.pair .str .str) 30 true, .vec .byte 5 true, .cells (.cat (.int .i64) (.cat (.sl 0 2) (.sl 1 1))) 25 false], (.ptr 2 0 0 0)⟩
def B : Dom := ⟨[.vec (.pair .str .str) 30 true, .vec .byte 5 true], .bool⟩
def sel : List Nat := [0, 1, 3]
def t (Fields : List (List UInt8 × List UInt8)) (Body : List UInt8) (i : Int) : Tr ((Int) ⊕ ((Unit) ⊕ (Bool))) :=
 .br (decide (i < (↑Fields.length : Int))) (.chk ((0 : Int) ≤ i ∧ i < (↑Fields.length : Int)) <| .chk ((0 : Nat) + i.toNat < Fields.length) <| .call (ref9_Right.f ((Fields.getD ((0 : Nat) + i.toNat) ([], [])).fst) ((Fields.getD ((0 : Nat) + i.toNat) ([], [])).snd)) fun y1 =>
  .br (!y1) (.ret (.inr (.inr false)))
  (.okl Fields.length <| .okl Body.length <| .ret (.inl (IntKind.i64.wrap (i + (1 : Int))))))
 (.okl Fields.length <| .okl Body.length <| .ret (.inr (.inl ())))
def f (Fields : List (List UInt8 × List UInt8)) (Body : List UInt8) (i : Int) : Option ((Unit) ⊕ (Bool)) := Loop (fun z : Int => t Fields Body z) i
def F (x : D.den) : Option ((Unit) ⊕ (Bool)) := f x.1.1 x.1.2.1 x.2.2
def pa : D.den → (Unit) → A.den := fun ((Fields, (Body, ((Code, (_, _)), _))), (_, _)) _ => ((Fields, (Body, ((Code, ((), ())), ()))), ())
def pb : D.den → (Bool) → B.den := fun ((Fields, (Body, ((_, (_, _)), _))), (_, _)) y1 => ((Fields, (Body, ())), y1)
def lap : Lap := tlap2 2 26 [1, 3] D (.exit 0) [1] A .ret [2] B pa pb F
def pk (x : D.den) (z : Int) : D.den := ((x.1.1, (x.1.2.1, ((x.1.2.2.1.1, ((), ())), ()))), ((), z))
def un (x : D.den) : Int := x.2.2
def body (x : D.den) (z : Int) : Tr ((Int) ⊕ ((Unit) ⊕ (Bool))) := t x.1.1 x.1.2.1 z
theorem ok : LapOk Tryz.prog 2 (codeOf Tryz.prog 12) lap := tlap2_ok Base.mixed Base.prog_ok bk_ref9_Right_ok (by kernel_rfl) (by kernel_rfl) LapsOk.nil 9 pk un body (fun _ _ => rfl) (fun _ _ => rfl) (fun _ _ => rfl) (fun _ _ => rfl) (fun _ => rfl) fun _ _ _ _ => (by kernel_rfl)
end L2
def A : Dom := ⟨[.vec (.pair .str .str) 30 true, .vec .byte 5 true], .bool⟩
def sel : List Nat := [0, 1, 2]
def t (Fields : List (List UInt8 × List UInt8)) (Body : List UInt8) (Code : Int) : Tr (Bool) :=
 .okl Fields.length <| .okl Body.length <| .both (ref27_Right.L2.f Fields Body (0 : Int)) (fun _ => .br (decide (Code ≥ (200 : Int))) (.ret (decide (Code ≤ (599 : Int))))
  (.ret false))
 (fun y2 => .ret y2)
def f (Fields : List (List UInt8 × List UInt8)) (Body : List UInt8) (Code : Int) : Option (Bool) := (t Fields Body Code).val
def F (x : D.den) : Option (Bool) := f x.1.1 x.1.2.1 x.2.1
def pa : D.den → (Bool) → A.den := fun ((Fields, (Body, _)), (_, (_, _))) y1 => ((Fields, (Body, ())), y1)
def con : Con := tcon D A pa F
theorem ok : ConOk Tryz.prog 12 con := tcon_ok Base.mixed Base.prog_ok bk_ref9_Right_ok (by kernel_rfl) (.cons L2.ok (by kernel_rfl) (.nil)) 9 (fun _ => rfl) (fun x => t x.1.1 x.1.2.1 x.2.1) (fun _ => rfl) fun _ _ _ => (by kernel_rfl)
end ref27_Right
def bk_ref27_Right : Book := bk_ref9_Right.add 12 ref27_Right.con
theorem bk_ref27_Right_ok : BookOk Tryz.prog bk_ref27_Right := bk_ref9_Right_ok.add ref27_Right.ok
namespace ref1_Lower
def D : Dom := ⟨[], .str⟩
namespace L3
def D : Dom := ⟨[.vec .byte 5 false], (.cat (.sl 0 1) (.int .i64))⟩
def A : Dom := ⟨[.vec .byte 5 false], (.sl 0 1)⟩
def sel : List Nat := [0, 1]
def t (b : List UInt8) (i : Int) : Tr ((List UInt8 × Int) ⊕ (List UInt8)) :=
 .br (decide (i < (↑b.length : Int))) (.chk ((0 : Int) ≤ i ∧ i < (↑b.length : Int)) <| .chk ((0 : Nat) + i.toNat < b.length) <| .br (decide ((↑(UInt8.toNat (b.getD ((0 : Nat) + i.toNat) (0 : UInt8))) : Int) ≥ (65 : Int))) (.chk ((0 : Int) ≤ i ∧ i < (↑b.length : Int)) <| .chk ((0 : Nat) + i.toNat < b.length) <| .br (decide ((↑(UInt8.toNat (b.getD ((0 : Nat) + i.toNat) (0 : UInt8))) : Int) ≤ (90 : Int))) (.chk ((0 : Int) ≤ i ∧ i < (↑b.length : Int)) <| .chk ((0 : Nat) + i.toNat < b.length) <| .chk ((0 : Int) ≤ i ∧ i < (↑b.length : Int)) <| .chk ((0 : Nat) + i.toNat < b.length) <| .chk ((0 : Int) ≤ IntKind.u8.wrap ((↑(UInt8.toNat (b.getD ((0 : Nat) + i.toNat) (0 : UInt8))) : Int) + (32 : Int)) ∧ IntKind.u8.wrap ((↑(UInt8.toNat (b.getD ((0 : Nat) + i.toNat) (0 : UInt8))) : Int) + (32 : Int)) < (256 : Int)) <| .chk ((0 : Nat) = (0 : Nat) ∧ b.length = (b.set ((0 : Nat) + i.toNat) (UInt8.ofNat (IntKind.u8.wrap ((↑(UInt8.toNat (b.getD ((0 : Nat) + i.toNat) (0 : UInt8))) : Int) + (32 : Int))).toNat)).length) <| .ret (.inl (b.set ((0 : Nat) + i.toNat) (UInt8.ofNat (IntKind.u8.wrap ((↑(UInt8.toNat (b.getD ((0 : Nat) + i.toNat) (0 : UInt8))) : Int) + (32 : Int))).toNat), IntKind.i64.wrap (i + (1 : Int)))))
  (.okl b.length <| .ret (.inl (b, IntKind.i64.wrap (i + (1 : Int))))))
  (.okl b.length <| .ret (.inl (b, IntKind.i64.wrap (i + (1 : Int))))))
 (.okl b.length <| .ret (.inr b))
def f (b : List UInt8) (i : Int) : Option (List UInt8) := Loop (fun z : List UInt8 × Int => t z.1 z.2) (b, i)
def F (x : D.den) : Option (List UInt8) := f x.1.1 x.2.2
def pa : D.den → (List UInt8) → A.den := fun ((_, _), (_, _)) y1 => ((y1, ()), ())
def lap : Lap := tlap 3 33 [3, 4] D (.exit 0) [3] A pa F
def pk (x : D.den) (z : List UInt8 × Int) : D.den := ((z.1, ()), ((), z.2))
def un (x : D.den) : List UInt8 × Int := (x.1.1, x.2.2)
def body (x : D.den) (z : List UInt8 × Int) : Tr ((List UInt8 × Int) ⊕ (List UInt8)) := t z.1 z.2
theorem ok : LapOk Tryz.prog 0 (codeOf Tryz.prog 79) lap := tlap_ok Base.mixed Base.prog_ok bk_ref27_Right_ok (by kernel_rfl) (by kernel_rfl) LapsOk.nil 9 pk un body (fun _ _ => rfl) (fun _ _ => rfl) (fun _ _ => rfl) (fun _ => rfl) fun _ _ _ _ => (by kernel_rfl)
end L3
def A : Dom := ⟨[], .str⟩
def sel : List Nat := [0]
def t (s : List UInt8) : Tr (List UInt8) :=
 .chk (s.length ≤ (140737488355328 : Nat)) <| .chk ((0 : Nat) = (0 : Nat) ∧ s.length = ([] ++ s).length) <| .call (ref1_Lower.L3.f ([] ++ s) (0 : Int)) fun y1 =>
 .chk ((0 : Nat) + y1.length ≤ y1.length) <| .ret (List.take y1.length (List.drop (0 : Nat) y1))
def f (s : List UInt8) : Option (List UInt8) := (t s).val
def F (x : D.den) : Option (List UInt8) := f x.2
def pa : D.den → (List UInt8) → A.den := fun (_, _) y1 => ((), y1)
def con : Con := tcon D A pa F
theorem ok : ConOk Tryz.prog 79 con := tcon_ok Base.mixed Base.prog_ok bk_ref27_Right_ok (by kernel_rfl) (.cons L3.ok (by kernel_rfl) (.nil)) 9 (fun _ => rfl) (fun x => t x.2) (fun _ => rfl) fun _ _ _ => (by kernel_rfl)
end ref1_Lower
def bk_ref1_Lower : Book := bk_ref27_Right.add 79 ref1_Lower.con
theorem bk_ref1_Lower_ok : BookOk Tryz.prog bk_ref1_Lower := bk_ref27_Right_ok.add ref1_Lower.ok
namespace ref1_Same
def D : Dom := ⟨[], (.cat .str .str)⟩
def A : Dom := ⟨[], .bool⟩
def sel : List Nat := [0, 1]
def t (va : List UInt8) (b : List UInt8) : Tr (Bool) :=
 .call (ref1_Lower.f va) fun y1 =>
 .call (ref1_Lower.f b) fun y2 =>
 .ret (y1 == y2)
def f (va : List UInt8) (b : List UInt8) : Option (Bool) := (t va b).val
def F (x : D.den) : Option (Bool) := f x.2.1 x.2.2
def pa : D.den → (Bool) → A.den := fun (_, (_, _)) y1 => ((), y1)
def con : Con := tcon D A pa F
theorem ok : ConOk Tryz.prog 62 con := tcon_ok Base.mixed Base.prog_ok bk_ref1_Lower_ok (by kernel_rfl) LapsOk.nil 9 (fun _ => rfl) (fun x => t x.2.1 x.2.2) (fun _ => rfl) fun _ _ _ => (by kernel_rfl)
end ref1_Same
def bk_ref1_Same : Book := bk_ref1_Lower.add 62 ref1_Same.con
theorem bk_ref1_Same_ok : BookOk Tryz.prog bk_ref1_Same := bk_ref1_Lower_ok.add ref1_Same.ok
namespace ref1_One
def D : Dom := ⟨[.vec .str 9 true], (.cat (.sl 0 1) .str)⟩
namespace L2
def D : Dom := ⟨[.vec .str 9 true], (.cat (.sl 0 1) (.cat .str (.int .i64)))⟩
def A : Dom := ⟨[.vec .str 9 true], .nil⟩
def B : Dom := ⟨[.vec .str 9 true], .bool⟩
def sel : List Nat := [0, 1, 2]
def t (l : List (List UInt8)) (s : List UInt8) (i : Int) : Tr ((Int) ⊕ ((Unit) ⊕ (Bool))) :=
 .br (decide (i < (↑l.length : Int))) (.chk ((0 : Int) ≤ i ∧ i < (↑l.length : Int)) <| .chk ((0 : Nat) + i.toNat < l.length) <| .call (ref1_Same.f (l.getD ((0 : Nat) + i.toNat) []) s) fun y1 =>
  .br y1 (.ret (.inr (.inr true)))
  (.okl l.length <| .ret (.inl (IntKind.i64.wrap (i + (1 : Int))))))
 (.ret (.inr (.inl ())))
def f (l : List (List UInt8)) (s : List UInt8) (i : Int) : Option ((Unit) ⊕ (Bool)) := Loop (fun z : Int => t l s z) i
def F (x : D.den) : Option ((Unit) ⊕ (Bool)) := f x.1.1 x.2.2.1 x.2.2.2
def pa : D.den → (Unit) → A.den := fun ((l, _), (_, (_, _))) _ => ((l, ()), ())
def pb : D.den → (Bool) → B.den := fun ((l, _), (_, (_, _))) y1 => ((l, ()), y1)
def lap : Lap := tlap2 2 18 [0, 1, 5] D (.exit 0) [] A .ret [4] B pa pb F
def pk (x : D.den) (z : Int) : D.den := ((x.1.1, ()), ((), (x.2.2.1, z)))
def un (x : D.den) : Int := x.2.2.2
def body (x : D.den) (z : Int) : Tr ((Int) ⊕ ((Unit) ⊕ (Bool))) := t x.1.1 x.2.2.1 z
theorem ok : LapOk Tryz.prog 1 (codeOf Tryz.prog 47) lap := tlap2_ok Base.mixed Base.prog_ok bk_ref1_Same_ok (by kernel_rfl) (by kernel_rfl) LapsOk.nil 9 pk un body (fun _ _ => rfl) (fun _ _ => rfl) (fun _ _ => rfl) (fun _ _ => rfl) (fun _ => rfl) fun _ _ _ _ => (by kernel_rfl)
end L2
def A : Dom := ⟨[.vec .str 9 true], .bool⟩
def sel : List Nat := [0, 1]
def t (l : List (List UInt8)) (s : List UInt8) : Tr (Bool) :=
 .okl l.length <| .both (ref1_One.L2.f l s (0 : Int)) (fun _ => .ret false)
 (fun y2 => .ret y2)
def f (l : List (List UInt8)) (s : List UInt8) : Option (Bool) := (t l s).val
def F (x : D.den) : Option (Bool) := f x.1.1 x.2.2
def pa : D.den → (Bool) → A.den := fun ((l, _), (_, _)) y1 => ((l, ()), y1)
def con : Con := tcon D A pa F
theorem ok : ConOk Tryz.prog 47 con := tcon_ok Base.mixed Base.prog_ok bk_ref1_Same_ok (by kernel_rfl) (.cons L2.ok (by kernel_rfl) (.nil)) 9 (fun _ => rfl) (fun x => t x.1.1 x.2.2) (fun _ => rfl) fun _ _ _ => (by kernel_rfl)
end ref1_One
def bk_ref1_One : Book := bk_ref1_Same.add 47 ref1_One.con
theorem bk_ref1_One_ok : BookOk Tryz.prog bk_ref1_One := bk_ref1_Same_ok.add ref1_One.ok
namespace ref1_Without
def D : Dom := text_Without.D
namespace L3
def D : Dom := ⟨[.vec (.pair .str .str) 30 true, .vec .str 9 true, .vec (.pair .str .str) 30 false], (.cat (.sl 0 2) (.cat (.sl 1 1) (.cat (.sl 2 2) (.int .i64))))⟩
def A : Dom := text_Without.L3.A
def sel : List Nat := [0, 1, 2, 3]
def t (l : List (List UInt8 × List UInt8)) (names : List (List UInt8)) (out : List (List UInt8 × List UInt8)) (i : Int) : Tr (((List (List UInt8 × List UInt8)) × Int) ⊕ (List (List UInt8 × List UInt8))) :=
 .br (decide (i < (↑l.length : Int))) (.chk ((0 : Int) ≤ i ∧ i < (↑l.length : Int)) <| .chk ((0 : Nat) + i.toNat < l.length) <| .chk ((0 : Nat) + names.length ≤ names.length) <| .call (ref1_One.f (List.take names.length (List.drop (0 : Nat) names)) ((l.getD ((0 : Nat) + i.toNat) ([], [])).fst)) fun y1 =>
  .br (!y1) (.chk ((0 : Int) ≤ i ∧ i < (↑l.length : Int)) <| .chk ((0 : Nat) + i.toNat < l.length) <| .chk ((1 : Nat) ≤ [((l.getD ((0 : Nat) + i.toNat) ([], [])).fst, (l.getD ((0 : Nat) + i.toNat) ([], [])).snd)].length) <| .chk ((0 : Nat) + out.length ≤ out.length) <| .chk ((out.length + (1 : Nat)) * (32 : Nat) ≤ (140737488355328 : Nat)) <| .okl l.length <| .okl names.length <| .chk ((0 : Nat) = (0 : Nat) ∧ out.length + (1 : Nat) = (List.take out.length (List.drop (0 : Nat) out) ++ List.take (1 : Nat) (List.drop (0 : Nat) [((l.getD ((0 : Nat) + i.toNat) ([], [])).fst, (l.getD ((0 : Nat) + i.toNat) ([], [])).snd)])).length) <| .ret (.inl (List.take out.length (List.drop (0 : Nat) out) ++ List.take (1 : Nat) (List.drop (0 : Nat) [((l.getD ((0 : Nat) + i.toNat) ([], [])).fst, (l.getD ((0 : Nat) + i.toNat) ([], [])).snd)]), IntKind.i64.wrap (i + (1 : Int)))))
  (.okl l.length <| .okl names.length <| .okl out.length <| .ret (.inl (out, IntKind.i64.wrap (i + (1 : Int))))))
 (.okl out.length <| .ret (.inr out))
def f (l : List (List UInt8 × List UInt8)) (names : List (List UInt8)) (out : List (List UInt8 × List UInt8)) (i : Int) : Option (List (List UInt8 × List UInt8)) := Loop (fun z : (List (List UInt8 × List UInt8)) × Int => t l names z.1 z.2) (out, i)
def F (x : D.den) : Option (List (List UInt8 × List UInt8)) := f x.1.1 x.1.2.1 x.1.2.2.1 x.2.2.2.2
def pa : D.den → (List (List UInt8 × List UInt8)) → A.den := fun ((l, (names, (_, _))), (_, (_, (_, _)))) y1 => ((l, (names, (y1, ()))), ())
def lap : Lap := tlap 3 29 [0, 1, 5, 6] D (.exit 0) [5] A pa F
def pk (x : D.den) (z : (List (List UInt8 × List UInt8)) × Int) : D.den := ((x.1.1, (x.1.2.1, (z.1, ()))), ((), ((), ((), z.2))))
def un (x : D.den) : (List (List UInt8 × List UInt8)) × Int := (x.1.2.2.1, x.2.2.2.2)
def body (x : D.den) (z : (List (List UInt8 × List UInt8)) × Int) : Tr (((List (List UInt8 × List UInt8)) × Int) ⊕ (List (List UInt8 × List UInt8))) := t x.1.1 x.1.2.1 z.1 z.2
theorem ok : LapOk Tryz.prog 2 (codeOf Tryz.prog 30) lap := tlap_ok Base.mixed Base.prog_ok bk_ref1_One_ok (by kernel_rfl) (by kernel_rfl) LapsOk.nil 9 pk un body (fun _ _ => rfl) (fun _ _ => rfl) (fun _ _ => rfl) (fun _ => rfl) fun _ _ _ _ => (by kernel_rfl)
end L3
def A : Dom := text_Without.L3.A
def sel : List Nat := [0, 1]
def t (l : List (List UInt8 × List UInt8)) (names : List (List UInt8)) : Tr (List (List UInt8 × List UInt8)) :=
 .okl l.length <| .okl names.length <| .call (ref1_Without.L3.f l names [] (0 : Int)) fun y1 =>
 .okl y1.length <| .ret y1
def f (l : List (List UInt8 × List UInt8)) (names : List (List UInt8)) : Option (List (List UInt8 × List UInt8)) := (t l names).val
def F (x : D.den) : Option (List (List UInt8 × List UInt8)) := f x.1.1 x.1.2.1
def pa : D.den → (List (List UInt8 × List UInt8)) → A.den := fun ((l, (names, _)), (_, _)) y1 => ((l, (names, (y1, ()))), ())
def con : Con := tcon D A pa F
theorem ok : ConOk Tryz.prog 30 con := tcon_ok Base.mixed Base.prog_ok bk_ref1_One_ok (by kernel_rfl) (.cons L3.ok (by kernel_rfl) (.nil)) 9 (fun _ => rfl) (fun x => t x.1.1 x.1.2.1) (fun _ => rfl) fun _ _ _ => (by kernel_rfl)
end ref1_Without
def bk_ref1_Without : Book := bk_ref1_One.add 30 ref1_Without.con
theorem bk_ref1_Without_ok : BookOk Tryz.prog bk_ref1_Without := bk_ref1_One_ok.add ref1_Without.ok
namespace ref1_put_r0
def D : Dom := ⟨[], (.cat (.int .i64) (.int .i64))⟩
def A : Dom := ⟨[], .str⟩
def sel : List Nat := []
def f : Option (List UInt8) := none
def F (x : D.den) : Option (List UInt8) := f
def pa : D.den → (List UInt8) → A.den := fun _ y1 => ((), y1)
def con : Con := tcon D A pa F
theorem ok : ConOk Tryz.prog 41 con := fun x h => absurd rfl h
end ref1_put_r0
def bk_ref1_put_r0 : Book := bk_ref1_Without.add 41 ref1_put_r0.con
theorem bk_ref1_put_r0_ok : BookOk Tryz.prog bk_ref1_put_r0 := bk_ref1_Without_ok.add ref1_put_r0.ok
namespace ref1_put_r1
def D : Dom := ⟨[], (.cat (.int .i64) (.int .i64))⟩
def A : Dom := ⟨[], .str⟩
def sel : List Nat := [0, 1]
def t (n : Int) (base : Int) : Tr (List UInt8) :=
 .br (decide (n < base)) (.chk ((0 : Int) ≤ mx2 n (0 : Int) ∧ mx2 n (0 : Int) ≤ IntKind.i64.wrap (mx2 n (0 : Int) + (1 : Int)) ∧ IntKind.i64.wrap (mx2 n (0 : Int) + (1 : Int)) ≤ (16 : Int)) <| .ret (List.drop (mx2 n (0 : Int)).toNat (List.take (IntKind.i64.wrap (mx2 n (0 : Int) + (1 : Int))).toNat [(48 : UInt8), (49 : UInt8), (50 : UInt8), (51 : UInt8), (52 : UInt8), (53 : UInt8), (54 : UInt8), (55 : UInt8), (56 : UInt8), (57 : UInt8), (97 : UInt8), (98 : UInt8), (99 : UInt8), (100 : UInt8), (101 : UInt8), (102 : UInt8)])))
 (.chk (base ≠ (0 : Int)) <| .call (ref1_put_r0.f) fun y1 =>
  .chk (base ≠ (0 : Int)) <| .call (ref1_put_r0.f) fun y2 =>
  .chk ((↑(y1.length + y2.length) : Int) ≤ (9223372036854775807 : Int)) <| .ret (y1 ++ y2))
def f (n : Int) (base : Int) : Option (List UInt8) := (t n base).val
def F (x : D.den) : Option (List UInt8) := f x.2.1 x.2.2
def pa : D.den → (List UInt8) → A.den := fun (_, (_, _)) y1 => ((), y1)
def con : Con := tcon D A pa F
theorem ok : ConOk Tryz.prog 41 con := tcon_ok Base.mixed Base.prog_ok bk_ref1_put_r0_ok (by kernel_rfl) LapsOk.nil 9 (fun _ => rfl) (fun x => t x.2.1 x.2.2) (fun _ => rfl) fun _ _ _ => (by kernel_rfl)
end ref1_put_r1
def bk_ref1_put_r1 : Book := bk_ref1_put_r0.add 41 ref1_put_r1.con
theorem bk_ref1_put_r1_ok : BookOk Tryz.prog bk_ref1_put_r1 := bk_ref1_put_r0_ok.add ref1_put_r1.ok
namespace ref1_put_r2
def D : Dom := ⟨[], (.cat (.int .i64) (.int .i64))⟩
def A : Dom := ⟨[], .str⟩
def sel : List Nat := [0, 1]
def t (n : Int) (base : Int) : Tr (List UInt8) :=
 .br (decide (n < base)) (.chk ((0 : Int) ≤ mx2 n (0 : Int) ∧ mx2 n (0 : Int) ≤ IntKind.i64.wrap (mx2 n (0 : Int) + (1 : Int)) ∧ IntKind.i64.wrap (mx2 n (0 : Int) + (1 : Int)) ≤ (16 : Int)) <| .ret (List.drop (mx2 n (0 : Int)).toNat (List.take (IntKind.i64.wrap (mx2 n (0 : Int) + (1 : Int))).toNat [(48 : UInt8), (49 : UInt8), (50 : UInt8), (51 : UInt8), (52 : UInt8), (53 : UInt8), (54 : UInt8), (55 : UInt8), (56 : UInt8), (57 : UInt8), (97 : UInt8), (98 : UInt8), (99 : UInt8), (100 : UInt8), (101 : UInt8), (102 : UInt8)])))
 (.chk (base ≠ (0 : Int)) <| .call (ref1_put_r1.f (IntKind.i64.wrap (n.tdiv base)) base) fun y1 =>
  .chk (base ≠ (0 : Int)) <| .call (ref1_put_r1.f (n.tmod base) base) fun y2 =>
  .chk ((↑(y1.length + y2.length) : Int) ≤ (9223372036854775807 : Int)) <| .ret (y1 ++ y2))
def f (n : Int) (base : Int) : Option (List UInt8) := (t n base).val
def F (x : D.den) : Option (List UInt8) := f x.2.1 x.2.2
def pa : D.den → (List UInt8) → A.den := fun (_, (_, _)) y1 => ((), y1)
def con : Con := tcon D A pa F
theorem ok : ConOk Tryz.prog 41 con := tcon_ok Base.mixed Base.prog_ok bk_ref1_put_r1_ok (by kernel_rfl) LapsOk.nil 9 (fun _ => rfl) (fun x => t x.2.1 x.2.2) (fun _ => rfl) fun _ _ _ => (by kernel_rfl)
end ref1_put_r2
def bk_ref1_put_r2 : Book := bk_ref1_put_r1.add 41 ref1_put_r2.con
theorem bk_ref1_put_r2_ok : BookOk Tryz.prog bk_ref1_put_r2 := bk_ref1_put_r1_ok.add ref1_put_r2.ok
namespace ref1_put_r3
def D : Dom := ⟨[], (.cat (.int .i64) (.int .i64))⟩
def A : Dom := ⟨[], .str⟩
def sel : List Nat := [0, 1]
def t (n : Int) (base : Int) : Tr (List UInt8) :=
 .br (decide (n < base)) (.chk ((0 : Int) ≤ mx2 n (0 : Int) ∧ mx2 n (0 : Int) ≤ IntKind.i64.wrap (mx2 n (0 : Int) + (1 : Int)) ∧ IntKind.i64.wrap (mx2 n (0 : Int) + (1 : Int)) ≤ (16 : Int)) <| .ret (List.drop (mx2 n (0 : Int)).toNat (List.take (IntKind.i64.wrap (mx2 n (0 : Int) + (1 : Int))).toNat [(48 : UInt8), (49 : UInt8), (50 : UInt8), (51 : UInt8), (52 : UInt8), (53 : UInt8), (54 : UInt8), (55 : UInt8), (56 : UInt8), (57 : UInt8), (97 : UInt8), (98 : UInt8), (99 : UInt8), (100 : UInt8), (101 : UInt8), (102 : UInt8)])))
 (.chk (base ≠ (0 : Int)) <| .call (ref1_put_r2.f (IntKind.i64.wrap (n.tdiv base)) base) fun y1 =>
  .chk (base ≠ (0 : Int)) <| .call (ref1_put_r2.f (n.tmod base) base) fun y2 =>
  .chk ((↑(y1.length + y2.length) : Int) ≤ (9223372036854775807 : Int)) <| .ret (y1 ++ y2))
def f (n : Int) (base : Int) : Option (List UInt8) := (t n base).val
def F (x : D.den) : Option (List UInt8) := f x.2.1 x.2.2
def pa : D.den → (List UInt8) → A.den := fun (_, (_, _)) y1 => ((), y1)
def con : Con := tcon D A pa F
theorem ok : ConOk Tryz.prog 41 con := tcon_ok Base.mixed Base.prog_ok bk_ref1_put_r2_ok (by kernel_rfl) LapsOk.nil 9 (fun _ => rfl) (fun x => t x.2.1 x.2.2) (fun _ => rfl) fun _ _ _ => (by kernel_rfl)
end ref1_put_r3
def bk_ref1_put_r3 : Book := bk_ref1_put_r2.add 41 ref1_put_r3.con
theorem bk_ref1_put_r3_ok : BookOk Tryz.prog bk_ref1_put_r3 := bk_ref1_put_r2_ok.add ref1_put_r3.ok
namespace ref1_put_r4
def D : Dom := ⟨[], (.cat (.int .i64) (.int .i64))⟩
def A : Dom := ⟨[], .str⟩
def sel : List Nat := [0, 1]
def t (n : Int) (base : Int) : Tr (List UInt8) :=
 .br (decide (n < base)) (.chk ((0 : Int) ≤ mx2 n (0 : Int) ∧ mx2 n (0 : Int) ≤ IntKind.i64.wrap (mx2 n (0 : Int) + (1 : Int)) ∧ IntKind.i64.wrap (mx2 n (0 : Int) + (1 : Int)) ≤ (16 : Int)) <| .ret (List.drop (mx2 n (0 : Int)).toNat (List.take (IntKind.i64.wrap (mx2 n (0 : Int) + (1 : Int))).toNat [(48 : UInt8), (49 : UInt8), (50 : UInt8), (51 : UInt8), (52 : UInt8), (53 : UInt8), (54 : UInt8), (55 : UInt8), (56 : UInt8), (57 : UInt8), (97 : UInt8), (98 : UInt8), (99 : UInt8), (100 : UInt8), (101 : UInt8), (102 : UInt8)])))
 (.chk (base ≠ (0 : Int)) <| .call (ref1_put_r3.f (IntKind.i64.wrap (n.tdiv base)) base) fun y1 =>
  .chk (base ≠ (0 : Int)) <| .call (ref1_put_r3.f (n.tmod base) base) fun y2 =>
  .chk ((↑(y1.length + y2.length) : Int) ≤ (9223372036854775807 : Int)) <| .ret (y1 ++ y2))
def f (n : Int) (base : Int) : Option (List UInt8) := (t n base).val
def F (x : D.den) : Option (List UInt8) := f x.2.1 x.2.2
def pa : D.den → (List UInt8) → A.den := fun (_, (_, _)) y1 => ((), y1)
def con : Con := tcon D A pa F
theorem ok : ConOk Tryz.prog 41 con := tcon_ok Base.mixed Base.prog_ok bk_ref1_put_r3_ok (by kernel_rfl) LapsOk.nil 9 (fun _ => rfl) (fun x => t x.2.1 x.2.2) (fun _ => rfl) fun _ _ _ => (by kernel_rfl)
end ref1_put_r4
def bk_ref1_put_r4 : Book := bk_ref1_put_r3.add 41 ref1_put_r4.con
theorem bk_ref1_put_r4_ok : BookOk Tryz.prog bk_ref1_put_r4 := bk_ref1_put_r3_ok.add ref1_put_r4.ok
end Go.Vx
end
section
set_option maxRecDepth 1000000
set_option maxHeartbeats 4000000
set_option synthInstance.maxSize 100000
set_option synthInstance.maxHeartbeats 400000
set_option linter.unusedVariables false
namespace Go.Vx
open Go Go.Vx Go.Proofs
namespace ref1_Put
def D : Dom := ⟨[], (.int .i64)⟩
def A : Dom := ⟨[], .str⟩
def sel : List Nat := [0]
def t (n : Int) : Tr (List UInt8) :=
 .call (ref1_put_r4.f n (10 : Int)) fun y1 =>
 .ret y1
def f (n : Int) : Option (List UInt8) := (t n).val
def F (x : D.den) : Option (List UInt8) := f x.2
def pa : D.den → (List UInt8) → A.den := fun (_, _) y1 => ((), y1)
def con : Con := tcon D A pa F
theorem ok : ConOk Tryz.prog 22 con := tcon_ok Base.mixed Base.prog_ok bk_ref1_put_r4_ok (by kernel_rfl) LapsOk.nil 9 (fun _ => rfl) (fun x => t x.2) (fun _ => rfl) fun _ _ _ => (by kernel_rfl)
end ref1_Put
def bk_ref1_Put : Book := bk_ref1_put_r4.add 22 ref1_Put.con
theorem bk_ref1_Put_ok : BookOk Tryz.prog bk_ref1_Put := bk_ref1_put_r4_ok.add ref1_Put.ok
namespace ref27_Reason
def D : Dom := ⟨[], (.int .i64)⟩
namespace L4
def D : Dom := ⟨[.vec (.int .i64) 3 false, .vec .str 9 false], (.cat (.int .i64) (.cat (.sl 0 1) (.cat (.sl 1 1) (.int .i64))))⟩
def A : Dom := ⟨[], .nil⟩
def B : Dom := ⟨[], .str⟩
def sel : List Nat := [0, 1, 2, 3]
def t (codes : List Int) (words : List (List UInt8)) (code : Int) (i : Int) : Tr ((Int) ⊕ ((Unit) ⊕ (List UInt8))) :=
 .br (decide (i < (↑codes.length : Int))) (.chk ((0 : Int) ≤ i ∧ i < (↑codes.length : Int)) <| .chk ((0 : Nat) + i.toNat < codes.length) <| .br (codes.getD ((0 : Nat) + i.toNat) (0 : Int) == code) (.chk ((0 : Int) ≤ i ∧ i < (↑words.length : Int)) <| .chk ((0 : Nat) + i.toNat < words.length) <| .ret (.inr (.inr (words.getD ((0 : Nat) + i.toNat) []))))
  (.okl codes.length <| .okl words.length <| .ret (.inl (IntKind.i64.wrap (i + (1 : Int))))))
 (.ret (.inr (.inl ())))
def f (codes : List Int) (words : List (List UInt8)) (code : Int) (i : Int) : Option ((Unit) ⊕ (List UInt8)) := Loop (fun z : Int => t codes words code z) i
def F (x : D.den) : Option ((Unit) ⊕ (List UInt8)) := f x.1.1 x.1.2.1 x.2.1 x.2.2.2.2
def pa : D.den → (Unit) → A.den := fun ((_, (_, _)), (_, (_, (_, _)))) _ => ((), ())
def pb : D.den → (List UInt8) → B.den := fun ((_, (_, _)), (_, (_, (_, _)))) y1 => ((), y1)
def lap : Lap := tlap2 4 24 [0, 3, 4, 5] D (.exit 0) [] A .ret [2] B pa pb F
def pk (x : D.den) (z : Int) : D.den := ((x.1.1, (x.1.2.1, ())), (x.2.1, ((), ((), z))))
def un (x : D.den) : Int := x.2.2.2.2
def body (x : D.den) (z : Int) : Tr ((Int) ⊕ ((Unit) ⊕ (List UInt8))) := t x.1.1 x.1.2.1 x.2.1 z
theorem ok : LapOk Tryz.prog 0 (codeOf Tryz.prog 17) lap := tlap2_ok Base.mixed Base.prog_ok bk_ref1_Put_ok (by kernel_rfl) (by kernel_rfl) LapsOk.nil 9 pk un body (fun _ _ => rfl) (fun _ _ => rfl) (fun _ _ => rfl) (fun _ _ => rfl) (fun _ => rfl) fun _ _ _ _ => (by kernel_rfl)
end L4
def A : Dom := ⟨[], .str⟩
def sel : List Nat := [0]
def t (code : Int) : Tr (List UInt8) :=
 .both (ref27_Reason.L4.f [(200 : Int), (204 : Int), (301 : Int), (302 : Int), (307 : Int), (308 : Int), (400 : Int), (401 : Int), (403 : Int), (404 : Int), (405 : Int), (413 : Int), (414 : Int), (429 : Int), (431 : Int), (501 : Int), (503 : Int), (505 : Int)] [[(79 : UInt8), (75 : UInt8)], [(78 : UInt8), (111 : UInt8), (32 : UInt8), (67 : UInt8), (111 : UInt8), (110 : UInt8), (116 : UInt8), (101 : UInt8), (110 : UInt8), (116 : UInt8)], [(77 : UInt8), (111 : UInt8), (118 : UInt8), (101 : UInt8), (100 : UInt8), (32 : UInt8), (80 : UInt8), (101 : UInt8), (114 : UInt8), (109 : UInt8), (97 : UInt8), (110 : UInt8), (101 : UInt8), (110 : UInt8), (116 : UInt8), (108 : UInt8), (121 : UInt8)], [(70 : UInt8), (111 : UInt8), (117 : UInt8), (110 : UInt8), (100 : UInt8)], [(84 : UInt8), (101 : UInt8), (109 : UInt8), (112 : UInt8), (111 : UInt8), (114 : UInt8), (97 : UInt8), (114 : UInt8), (121 : UInt8), (32 : UInt8), (82 : UInt8), (101 : UInt8), (100 : UInt8), (105 : UInt8), (114 : UInt8), (101 : UInt8), (99 : UInt8), (116 : UInt8)], [(80 : UInt8), (101 : UInt8), (114 : UInt8), (109 : UInt8), (97 : UInt8), (110 : UInt8), (101 : UInt8), (110 : UInt8), (116 : UInt8), (32 : UInt8), (82 : UInt8), (101 : UInt8), (100 : UInt8), (105 : UInt8), (114 : UInt8), (101 : UInt8), (99 : UInt8), (116 : UInt8)], [(66 : UInt8), (97 : UInt8), (100 : UInt8), (32 : UInt8), (82 : UInt8), (101 : UInt8), (113 : UInt8), (117 : UInt8), (101 : UInt8), (115 : UInt8), (116 : UInt8)], [(85 : UInt8), (110 : UInt8), (97 : UInt8), (117 : UInt8), (116 : UInt8), (104 : UInt8), (111 : UInt8), (114 : UInt8), (105 : UInt8), (122 : UInt8), (101 : UInt8), (100 : UInt8)], [(70 : UInt8), (111 : UInt8), (114 : UInt8), (98 : UInt8), (105 : UInt8), (100 : UInt8), (100 : UInt8), (101 : UInt8), (110 : UInt8)], [(78 : UInt8), (111 : UInt8), (116 : UInt8), (32 : UInt8), (70 : UInt8), (111 : UInt8), (117 : UInt8), (110 : UInt8), (100 : UInt8)], [(77 : UInt8), (101 : UInt8), (116 : UInt8), (104 : UInt8), (111 : UInt8), (100 : UInt8), (32 : UInt8), (78 : UInt8), (111 : UInt8), (116 : UInt8), (32 : UInt8), (65 : UInt8), (108 : UInt8), (108 : UInt8), (111 : UInt8), (119 : UInt8), (101 : UInt8), (100 : UInt8)], [(67 : UInt8), (111 : UInt8), (110 : UInt8), (116 : UInt8), (101 : UInt8), (110 : UInt8), (116 : UInt8), (32 : UInt8), (84 : UInt8), (111 : UInt8), (111 : UInt8), (32 : UInt8), (76 : UInt8), (97 : UInt8), (114 : UInt8), (103 : UInt8), (101 : UInt8)], [(85 : UInt8), (82 : UInt8), (73 : UInt8), (32 : UInt8), (84 : UInt8), (111 : UInt8), (111 : UInt8), (32 : UInt8), (76 : UInt8), (111 : UInt8), (110 : UInt8), (103 : UInt8)], [(84 : UInt8), (111 : UInt8), (111 : UInt8), (32 : UInt8), (77 : UInt8), (97 : UInt8), (110 : UInt8), (121 : UInt8), (32 : UInt8), (82 : UInt8), (101 : UInt8), (113 : UInt8), (117 : UInt8), (101 : UInt8), (115 : UInt8), (116 : UInt8), (115 : UInt8)], [(82 : UInt8), (101 : UInt8), (113 : UInt8), (117 : UInt8), (101 : UInt8), (115 : UInt8), (116 : UInt8), (32 : UInt8), (72 : UInt8), (101 : UInt8), (97 : UInt8), (100 : UInt8), (101 : UInt8), (114 : UInt8), (32 : UInt8), (70 : UInt8), (105 : UInt8), (101 : UInt8), (108 : UInt8), (100 : UInt8), (115 : UInt8), (32 : UInt8), (84 : UInt8), (111 : UInt8), (111 : UInt8), (32 : UInt8), (76 : UInt8), (97 : UInt8), (114 : UInt8), (103 : UInt8), (101 : UInt8)], [(78 : UInt8), (111 : UInt8), (116 : UInt8), (32 : UInt8), (73 : UInt8), (109 : UInt8), (112 : UInt8), (108 : UInt8), (101 : UInt8), (109 : UInt8), (101 : UInt8), (110 : UInt8), (116 : UInt8), (101 : UInt8), (100 : UInt8)], [(83 : UInt8), (101 : UInt8), (114 : UInt8), (118 : UInt8), (105 : UInt8), (99 : UInt8), (101 : UInt8), (32 : UInt8), (85 : UInt8), (110 : UInt8), (97 : UInt8), (118 : UInt8), (97 : UInt8), (105 : UInt8), (108 : UInt8), (97 : UInt8), (98 : UInt8), (108 : UInt8), (101 : UInt8)], [(72 : UInt8), (84 : UInt8), (84 : UInt8), (80 : UInt8), (32 : UInt8), (86 : UInt8), (101 : UInt8), (114 : UInt8), (115 : UInt8), (105 : UInt8), (111 : UInt8), (110 : UInt8), (32 : UInt8), (78 : UInt8), (111 : UInt8), (116 : UInt8), (32 : UInt8), (83 : UInt8), (117 : UInt8), (112 : UInt8), (112 : UInt8), (111 : UInt8), (114 : UInt8), (116 : UInt8), (101 : UInt8), (100 : UInt8)]] code (0 : Int)) (fun _ => .ret [(79 : UInt8), (116 : UInt8), (104 : UInt8), (101 : UInt8), (114 : UInt8)])
 (fun y2 => .ret y2)
def f (code : Int) : Option (List UInt8) := (t code).val
def F (x : D.den) : Option (List UInt8) := f x.2
def pa : D.den → (List UInt8) → A.den := fun (_, _) y1 => ((), y1)
def con : Con := tcon D A pa F
theorem ok : ConOk Tryz.prog 17 con := tcon_ok Base.mixed Base.prog_ok bk_ref1_Put_ok (by kernel_rfl) (.cons L4.ok (by kernel_rfl) (.nil)) 9 (fun _ => rfl) (fun x => t x.2) (fun _ => rfl) fun _ _ _ => (by kernel_rfl)
end ref27_Reason
def bk_ref27_Reason : Book := bk_ref1_Put.add 17 ref27_Reason.con
theorem bk_ref27_Reason_ok : BookOk Tryz.prog bk_ref27_Reason := bk_ref1_Put_ok.add ref27_Reason.ok
namespace ref9_Put
def D : Dom := ⟨[.vec (.pair .str .str) 30 true], (.sl 0 2)⟩
namespace L3
def D : Dom := ⟨[.vec (.pair .str .str) 30 true], (.cat (.sl 0 2) (.cat .str (.int .i64)))⟩
def A : Dom := ⟨[.vec (.pair .str .str) 30 true], .str⟩
def sel : List Nat := [0, 1, 2]
def t (l : List (List UInt8 × List UInt8)) (s : List UInt8) (i : Int) : Tr ((List UInt8 × Int) ⊕ (List UInt8)) :=
 .br (decide (i < (↑l.length : Int))) (.chk ((0 : Int) ≤ i ∧ i < (↑l.length : Int)) <| .chk ((0 : Nat) + i.toNat < l.length) <| .chk ((↑(s.length + List.length (l.getD ((0 : Nat) + i.toNat) ([], [])).fst) : Int) ≤ (9223372036854775807 : Int)) <| .chk ((↑((s ++ (l.getD ((0 : Nat) + i.toNat) ([], [])).fst).length + [(58 : UInt8), (32 : UInt8)].length) : Int) ≤ (9223372036854775807 : Int)) <| .chk ((0 : Int) ≤ i ∧ i < (↑l.length : Int)) <| .chk ((0 : Nat) + i.toNat < l.length) <| .chk ((↑((s ++ (l.getD ((0 : Nat) + i.toNat) ([], [])).fst ++ [(58 : UInt8), (32 : UInt8)]).length + List.length (l.getD ((0 : Nat) + i.toNat) ([], [])).snd) : Int) ≤ (9223372036854775807 : Int)) <| .chk ((↑((s ++ (l.getD ((0 : Nat) + i.toNat) ([], [])).fst ++ [(58 : UInt8), (32 : UInt8)] ++ (l.getD ((0 : Nat) + i.toNat) ([], [])).snd).length + [(13 : UInt8), (10 : UInt8)].length) : Int) ≤ (9223372036854775807 : Int)) <| .okl l.length <| .ret (.inl (s ++ (l.getD ((0 : Nat) + i.toNat) ([], [])).fst ++ [(58 : UInt8), (32 : UInt8)] ++ (l.getD ((0 : Nat) + i.toNat) ([], [])).snd ++ [(13 : UInt8), (10 : UInt8)], IntKind.i64.wrap (i + (1 : Int)))))
 (.ret (.inr s))
def f (l : List (List UInt8 × List UInt8)) (s : List UInt8) (i : Int) : Option (List UInt8) := Loop (fun z : List UInt8 × Int => t l z.1 z.2) (s, i)
def F (x : D.den) : Option (List UInt8) := f x.1.1 x.2.2.1 x.2.2.2
def pa : D.den → (List UInt8) → A.den := fun ((l, _), (_, (_, _))) y1 => ((l, ()), y1)
def lap : Lap := tlap 3 27 [0, 3, 4] D (.exit 0) [3] A pa F
def pk (x : D.den) (z : List UInt8 × Int) : D.den := ((x.1.1, ()), ((), (z.1, z.2)))
def un (x : D.den) : List UInt8 × Int := (x.2.2.1, x.2.2.2)
def body (x : D.den) (z : List UInt8 × Int) : Tr ((List UInt8 × Int) ⊕ (List UInt8)) := t x.1.1 z.1 z.2
theorem ok : LapOk Tryz.prog 1 (codeOf Tryz.prog 31) lap := tlap_ok Base.mixed Base.prog_ok bk_ref27_Reason_ok (by kernel_rfl) (by kernel_rfl) LapsOk.nil 9 pk un body (fun _ _ => rfl) (fun _ _ => rfl) (fun _ _ => rfl) (fun _ => rfl) fun _ _ _ _ => (by kernel_rfl)
end L3
def A : Dom := ⟨[.vec (.pair .str .str) 30 true], .str⟩
def sel : List Nat := [0]
def t (l : List (List UInt8 × List UInt8)) : Tr (List UInt8) :=
 .okl l.length <| .call (ref9_Put.L3.f l [] (0 : Int)) fun y1 =>
 .ret y1
def f (l : List (List UInt8 × List UInt8)) : Option (List UInt8) := (t l).val
def F (x : D.den) : Option (List UInt8) := f x.1.1
def pa : D.den → (List UInt8) → A.den := fun ((l, _), _) y1 => ((l, ()), y1)
def con : Con := tcon D A pa F
theorem ok : ConOk Tryz.prog 31 con := tcon_ok Base.mixed Base.prog_ok bk_ref27_Reason_ok (by kernel_rfl) (.cons L3.ok (by kernel_rfl) (.nil)) 9 (fun _ => rfl) (fun x => t x.1.1) (fun _ => rfl) fun _ _ _ => (by kernel_rfl)
end ref9_Put
def bk_ref9_Put : Book := bk_ref27_Reason.add 31 ref9_Put.con
theorem bk_ref9_Put_ok : BookOk Tryz.prog bk_ref9_Put := bk_ref27_Reason_ok.add ref9_Put.ok
namespace ref27_Put
def D : Dom := reply_Put.D
def A : Dom := reply_Put.A
def sel : List Nat := [0, 1, 2, 3, 4]
def t (Fields : List (List UInt8 × List UInt8)) (Body : List UInt8) (Code : Int) (head : Bool) (closes : Bool) : Tr (List UInt8) :=
 .chk ((0 : Nat) + Fields.length ≤ Fields.length) <| .chk ((0 : Nat) + Body.length ≤ Body.length) <| .call (ref27_Right.f (List.take Fields.length (List.drop (0 : Nat) Fields)) (List.take Body.length (List.drop (0 : Nat) Body)) Code) fun y1 =>
 .br (!y1) (.ret [])
 (.br (Code == (204 : Int)) (.chk ((0 : Nat) + Fields.length ≤ Fields.length) <| .call (ref1_Without.f (List.take Fields.length (List.drop (0 : Nat) Fields)) [[(67 : UInt8), (111 : UInt8), (110 : UInt8), (116 : UInt8), (101 : UInt8), (110 : UInt8), (116 : UInt8), (45 : UInt8), (76 : UInt8), (101 : UInt8), (110 : UInt8), (103 : UInt8), (116 : UInt8), (104 : UInt8)], [(84 : UInt8), (114 : UInt8), (97 : UInt8), (110 : UInt8), (115 : UInt8), (102 : UInt8), (101 : UInt8), (114 : UInt8), (45 : UInt8), (69 : UInt8), (110 : UInt8), (99 : UInt8), (111 : UInt8), (100 : UInt8), (105 : UInt8), (110 : UInt8), (103 : UInt8)], [(67 : UInt8), (111 : UInt8), (110 : UInt8), (110 : UInt8), (101 : UInt8), (99 : UInt8), (116 : UInt8), (105 : UInt8), (111 : UInt8), (110 : UInt8)]]) fun y2 =>
  .br closes (.chk ((1 : Nat) ≤ (1 : Nat)) <| .chk ((0 : Nat) + y2.length ≤ y2.length) <| .chk ((y2.length + (1 : Nat)) * (32 : Nat) ≤ (140737488355328 : Nat)) <| .call (ref1_Put.f Code) fun y3 =>
   .chk ((↑([(72 : UInt8), (84 : UInt8), (84 : UInt8), (80 : UInt8), (47 : UInt8), (49 : UInt8), (46 : UInt8), (49 : UInt8), (32 : UInt8)].length + y3.length) : Int) ≤ (9223372036854775807 : Int)) <| .chk ((↑(([(72 : UInt8), (84 : UInt8), (84 : UInt8), (80 : UInt8), (47 : UInt8), (49 : UInt8), (46 : UInt8), (49 : UInt8), (32 : UInt8)] ++ y3).length + [(32 : UInt8)].length) : Int) ≤ (9223372036854775807 : Int)) <| .call (ref27_Reason.f Code) fun y4 =>
   .chk ((↑(([(72 : UInt8), (84 : UInt8), (84 : UInt8), (80 : UInt8), (47 : UInt8), (49 : UInt8), (46 : UInt8), (49 : UInt8), (32 : UInt8)] ++ y3 ++ [(32 : UInt8)]).length + y4.length) : Int) ≤ (9223372036854775807 : Int)) <| .chk ((↑(([(72 : UInt8), (84 : UInt8), (84 : UInt8), (80 : UInt8), (47 : UInt8), (49 : UInt8), (46 : UInt8), (49 : UInt8), (32 : UInt8)] ++ y3 ++ [(32 : UInt8)] ++ y4).length + [(13 : UInt8), (10 : UInt8)].length) : Int) ≤ (9223372036854775807 : Int)) <| .chk ((0 : Nat) + (y2.length + (1 : Nat)) ≤ (List.take y2.length (List.drop (0 : Nat) y2) ++ List.take (1 : Nat) (List.drop (0 : Nat) [([(67 : UInt8), (111 : UInt8), (110 : UInt8), (110 : UInt8), (101 : UInt8), (99 : UInt8), (116 : UInt8), (105 : UInt8), (111 : UInt8), (110 : UInt8)], [(99 : UInt8), (108 : UInt8), (111 : UInt8), (115 : UInt8), (101 : UInt8)])])).length) <| .call (ref9_Put.f (List.take (y2.length + (1 : Nat)) (List.drop (0 : Nat) (List.take y2.length (List.drop (0 : Nat) y2) ++ List.take (1 : Nat) (List.drop (0 : Nat) [([(67 : UInt8), (111 : UInt8), (110 : UInt8), (110 : UInt8), (101 : UInt8), (99 : UInt8), (116 : UInt8), (105 : UInt8), (111 : UInt8), (110 : UInt8)], [(99 : UInt8), (108 : UInt8), (111 : UInt8), (115 : UInt8), (101 : UInt8)])]))))) fun y5 =>
   .chk ((↑(([(72 : UInt8), (84 : UInt8), (84 : UInt8), (80 : UInt8), (47 : UInt8), (49 : UInt8), (46 : UInt8), (49 : UInt8), (32 : UInt8)] ++ y3 ++ [(32 : UInt8)] ++ y4 ++ [(13 : UInt8), (10 : UInt8)]).length + y5.length) : Int) ≤ (9223372036854775807 : Int)) <| .chk ((↑(([(72 : UInt8), (84 : UInt8), (84 : UInt8), (80 : UInt8), (47 : UInt8), (49 : UInt8), (46 : UInt8), (49 : UInt8), (32 : UInt8)] ++ y3 ++ [(32 : UInt8)] ++ y4 ++ [(13 : UInt8), (10 : UInt8)] ++ y5).length + [(13 : UInt8), (10 : UInt8)].length) : Int) ≤ (9223372036854775807 : Int)) <| .chk (([(72 : UInt8), (84 : UInt8), (84 : UInt8), (80 : UInt8), (47 : UInt8), (49 : UInt8), (46 : UInt8), (49 : UInt8), (32 : UInt8)] ++ y3 ++ [(32 : UInt8)] ++ y4 ++ [(13 : UInt8), (10 : UInt8)] ++ y5 ++ [(13 : UInt8), (10 : UInt8)]).length ≤ (140737488355328 : Nat)) <| .br head (.chk ((0 : Nat) = (0 : Nat) ∧ ([(72 : UInt8), (84 : UInt8), (84 : UInt8), (80 : UInt8), (47 : UInt8), (49 : UInt8), (46 : UInt8), (49 : UInt8), (32 : UInt8)] ++ y3 ++ [(32 : UInt8)] ++ y4 ++ [(13 : UInt8), (10 : UInt8)] ++ y5 ++ [(13 : UInt8), (10 : UInt8)]).length = ([] ++ ([(72 : UInt8), (84 : UInt8), (84 : UInt8), (80 : UInt8), (47 : UInt8), (49 : UInt8), (46 : UInt8), (49 : UInt8), (32 : UInt8)] ++ y3 ++ [(32 : UInt8)] ++ y4 ++ [(13 : UInt8), (10 : UInt8)] ++ y5 ++ [(13 : UInt8), (10 : UInt8)])).length) <| .ret ([] ++ ([(72 : UInt8), (84 : UInt8), (84 : UInt8), (80 : UInt8), (47 : UInt8), (49 : UInt8), (46 : UInt8), (49 : UInt8), (32 : UInt8)] ++ y3 ++ [(32 : UInt8)] ++ y4 ++ [(13 : UInt8), (10 : UInt8)] ++ y5 ++ [(13 : UInt8), (10 : UInt8)])))
   (.chk ((0 : Nat) = (0 : Nat) ∧ ([(72 : UInt8), (84 : UInt8), (84 : UInt8), (80 : UInt8), (47 : UInt8), (49 : UInt8), (46 : UInt8), (49 : UInt8), (32 : UInt8)] ++ y3 ++ [(32 : UInt8)] ++ y4 ++ [(13 : UInt8), (10 : UInt8)] ++ y5 ++ [(13 : UInt8), (10 : UInt8)]).length = ([] ++ ([(72 : UInt8), (84 : UInt8), (84 : UInt8), (80 : UInt8), (47 : UInt8), (49 : UInt8), (46 : UInt8), (49 : UInt8), (32 : UInt8)] ++ y3 ++ [(32 : UInt8)] ++ y4 ++ [(13 : UInt8), (10 : UInt8)] ++ y5 ++ [(13 : UInt8), (10 : UInt8)])).length) <| .ret ([] ++ ([(72 : UInt8), (84 : UInt8), (84 : UInt8), (80 : UInt8), (47 : UInt8), (49 : UInt8), (46 : UInt8), (49 : UInt8), (32 : UInt8)] ++ y3 ++ [(32 : UInt8)] ++ y4 ++ [(13 : UInt8), (10 : UInt8)] ++ y5 ++ [(13 : UInt8), (10 : UInt8)]))))
  (.call (ref1_Put.f Code) fun y6 =>
   .chk ((↑([(72 : UInt8), (84 : UInt8), (84 : UInt8), (80 : UInt8), (47 : UInt8), (49 : UInt8), (46 : UInt8), (49 : UInt8), (32 : UInt8)].length + y6.length) : Int) ≤ (9223372036854775807 : Int)) <| .chk ((↑(([(72 : UInt8), (84 : UInt8), (84 : UInt8), (80 : UInt8), (47 : UInt8), (49 : UInt8), (46 : UInt8), (49 : UInt8), (32 : UInt8)] ++ y6).length + [(32 : UInt8)].length) : Int) ≤ (9223372036854775807 : Int)) <| .call (ref27_Reason.f Code) fun y7 =>
   .chk ((↑(([(72 : UInt8), (84 : UInt8), (84 : UInt8), (80 : UInt8), (47 : UInt8), (49 : UInt8), (46 : UInt8), (49 : UInt8), (32 : UInt8)] ++ y6 ++ [(32 : UInt8)]).length + y7.length) : Int) ≤ (9223372036854775807 : Int)) <| .chk ((↑(([(72 : UInt8), (84 : UInt8), (84 : UInt8), (80 : UInt8), (47 : UInt8), (49 : UInt8), (46 : UInt8), (49 : UInt8), (32 : UInt8)] ++ y6 ++ [(32 : UInt8)] ++ y7).length + [(13 : UInt8), (10 : UInt8)].length) : Int) ≤ (9223372036854775807 : Int)) <| .chk ((0 : Nat) + y2.length ≤ y2.length) <| .call (ref9_Put.f (List.take y2.length (List.drop (0 : Nat) y2))) fun y8 =>
   .chk ((↑(([(72 : UInt8), (84 : UInt8), (84 : UInt8), (80 : UInt8), (47 : UInt8), (49 : UInt8), (46 : UInt8), (49 : UInt8), (32 : UInt8)] ++ y6 ++ [(32 : UInt8)] ++ y7 ++ [(13 : UInt8), (10 : UInt8)]).length + y8.length) : Int) ≤ (9223372036854775807 : Int)) <| .chk ((↑(([(72 : UInt8), (84 : UInt8), (84 : UInt8), (80 : UInt8), (47 : UInt8), (49 : UInt8), (46 : UInt8), (49 : UInt8), (32 : UInt8)] ++ y6 ++ [(32 : UInt8)] ++ y7 ++ [(13 : UInt8), (10 : UInt8)] ++ y8).length + [(13 : UInt8), (10 : UInt8)].length) : Int) ≤ (9223372036854775807 : Int)) <| .chk (([(72 : UInt8), (84 : UInt8), (84 : UInt8), (80 : UInt8), (47 : UInt8), (49 : UInt8), (46 : UInt8), (49 : UInt8), (32 : UInt8)] ++ y6 ++ [(32 : UInt8)] ++ y7 ++ [(13 : UInt8), (10 : UInt8)] ++ y8 ++ [(13 : UInt8), (10 : UInt8)]).length ≤ (140737488355328 : Nat)) <| .br head (.chk ((0 : Nat) = (0 : Nat) ∧ ([(72 : UInt8), (84 : UInt8), (84 : UInt8), (80 : UInt8), (47 : UInt8), (49 : UInt8), (46 : UInt8), (49 : UInt8), (32 : UInt8)] ++ y6 ++ [(32 : UInt8)] ++ y7 ++ [(13 : UInt8), (10 : UInt8)] ++ y8 ++ [(13 : UInt8), (10 : UInt8)]).length = ([] ++ ([(72 : UInt8), (84 : UInt8), (84 : UInt8), (80 : UInt8), (47 : UInt8), (49 : UInt8), (46 : UInt8), (49 : UInt8), (32 : UInt8)] ++ y6 ++ [(32 : UInt8)] ++ y7 ++ [(13 : UInt8), (10 : UInt8)] ++ y8 ++ [(13 : UInt8), (10 : UInt8)])).length) <| .ret ([] ++ ([(72 : UInt8), (84 : UInt8), (84 : UInt8), (80 : UInt8), (47 : UInt8), (49 : UInt8), (46 : UInt8), (49 : UInt8), (32 : UInt8)] ++ y6 ++ [(32 : UInt8)] ++ y7 ++ [(13 : UInt8), (10 : UInt8)] ++ y8 ++ [(13 : UInt8), (10 : UInt8)])))
   (.chk ((0 : Nat) = (0 : Nat) ∧ ([(72 : UInt8), (84 : UInt8), (84 : UInt8), (80 : UInt8), (47 : UInt8), (49 : UInt8), (46 : UInt8), (49 : UInt8), (32 : UInt8)] ++ y6 ++ [(32 : UInt8)] ++ y7 ++ [(13 : UInt8), (10 : UInt8)] ++ y8 ++ [(13 : UInt8), (10 : UInt8)]).length = ([] ++ ([(72 : UInt8), (84 : UInt8), (84 : UInt8), (80 : UInt8), (47 : UInt8), (49 : UInt8), (46 : UInt8), (49 : UInt8), (32 : UInt8)] ++ y6 ++ [(32 : UInt8)] ++ y7 ++ [(13 : UInt8), (10 : UInt8)] ++ y8 ++ [(13 : UInt8), (10 : UInt8)])).length) <| .ret ([] ++ ([(72 : UInt8), (84 : UInt8), (84 : UInt8), (80 : UInt8), (47 : UInt8), (49 : UInt8), (46 : UInt8), (49 : UInt8), (32 : UInt8)] ++ y6 ++ [(32 : UInt8)] ++ y7 ++ [(13 : UInt8), (10 : UInt8)] ++ y8 ++ [(13 : UInt8), (10 : UInt8)])))))
  (.chk ((0 : Nat) + Fields.length ≤ Fields.length) <| .call (ref1_Without.f (List.take Fields.length (List.drop (0 : Nat) Fields)) [[(67 : UInt8), (111 : UInt8), (110 : UInt8), (116 : UInt8), (101 : UInt8), (110 : UInt8), (116 : UInt8), (45 : UInt8), (76 : UInt8), (101 : UInt8), (110 : UInt8), (103 : UInt8), (116 : UInt8), (104 : UInt8)], [(84 : UInt8), (114 : UInt8), (97 : UInt8), (110 : UInt8), (115 : UInt8), (102 : UInt8), (101 : UInt8), (114 : UInt8), (45 : UInt8), (69 : UInt8), (110 : UInt8), (99 : UInt8), (111 : UInt8), (100 : UInt8), (105 : UInt8), (110 : UInt8), (103 : UInt8)], [(67 : UInt8), (111 : UInt8), (110 : UInt8), (110 : UInt8), (101 : UInt8), (99 : UInt8), (116 : UInt8), (105 : UInt8), (111 : UInt8), (110 : UInt8)]]) fun y9 =>
  .br (!Code == (304 : Int)) (.call (ref1_Put.f (↑Body.length : Int)) fun y10 =>
   .chk ((1 : Nat) ≤ [([(67 : UInt8), (111 : UInt8), (110 : UInt8), (116 : UInt8), (101 : UInt8), (110 : UInt8), (116 : UInt8), (45 : UInt8), (76 : UInt8), (101 : UInt8), (110 : UInt8), (103 : UInt8), (116 : UInt8), (104 : UInt8)], y10)].length) <| .chk ((0 : Nat) + y9.length ≤ y9.length) <| .chk ((y9.length + (1 : Nat)) * (32 : Nat) ≤ (140737488355328 : Nat)) <| .br closes (.chk ((1 : Nat) ≤ (1 : Nat)) <| .chk ((0 : Nat) + (y9.length + (1 : Nat)) ≤ (List.take y9.length (List.drop (0 : Nat) y9) ++ List.take (1 : Nat) (List.drop (0 : Nat) [([(67 : UInt8), (111 : UInt8), (110 : UInt8), (116 : UInt8), (101 : UInt8), (110 : UInt8), (116 : UInt8), (45 : UInt8), (76 : UInt8), (101 : UInt8), (110 : UInt8), (103 : UInt8), (116 : UInt8), (104 : UInt8)], y10)])).length) <| .chk ((y9.length + (1 : Nat) + (1 : Nat)) * (32 : Nat) ≤ (140737488355328 : Nat)) <| .call (ref1_Put.f Code) fun y11 =>
   .chk ((↑([(72 : UInt8), (84 : UInt8), (84 : UInt8), (80 : UInt8), (47 : UInt8), (49 : UInt8), (46 : UInt8), (49 : UInt8), (32 : UInt8)].length + y11.length) : Int) ≤ (9223372036854775807 : Int)) <| .chk ((↑(([(72 : UInt8), (84 : UInt8), (84 : UInt8), (80 : UInt8), (47 : UInt8), (49 : UInt8), (46 : UInt8), (49 : UInt8), (32 : UInt8)] ++ y11).length + [(32 : UInt8)].length) : Int) ≤ (9223372036854775807 : Int)) <| .call (ref27_Reason.f Code) fun y12 =>
   .chk ((↑(([(72 : UInt8), (84 : UInt8), (84 : UInt8), (80 : UInt8), (47 : UInt8), (49 : UInt8), (46 : UInt8), (49 : UInt8), (32 : UInt8)] ++ y11 ++ [(32 : UInt8)]).length + y12.length) : Int) ≤ (9223372036854775807 : Int)) <| .chk ((↑(([(72 : UInt8), (84 : UInt8), (84 : UInt8), (80 : UInt8), (47 : UInt8), (49 : UInt8), (46 : UInt8), (49 : UInt8), (32 : UInt8)] ++ y11 ++ [(32 : UInt8)] ++ y12).length + [(13 : UInt8), (10 : UInt8)].length) : Int) ≤ (9223372036854775807 : Int)) <| .chk ((0 : Nat) + (y9.length + (1 : Nat) + (1 : Nat)) ≤ (List.take (y9.length + (1 : Nat)) (List.drop (0 : Nat) (List.take y9.length (List.drop (0 : Nat) y9) ++ List.take (1 : Nat) (List.drop (0 : Nat) [([(67 : UInt8), (111 : UInt8), (110 : UInt8), (116 : UInt8), (101 : UInt8), (110 : UInt8), (116 : UInt8), (45 : UInt8), (76 : UInt8), (101 : UInt8), (110 : UInt8), (103 : UInt8), (116 : UInt8), (104 : UInt8)], y10)]))) ++ List.take (1 : Nat) (List.drop (0 : Nat) [([(67 : UInt8), (111 : UInt8), (110 : UInt8), (110 : UInt8), (101 : UInt8), (99 : UInt8), (116 : UInt8), (105 : UInt8), (111 : UInt8), (110 : UInt8)], [(99 : UInt8), (108 : UInt8), (111 : UInt8), (115 : UInt8), (101 : UInt8)])])).length) <| .call (ref9_Put.f (List.take (y9.length + (1 : Nat) + (1 : Nat)) (List.drop (0 : Nat) (List.take (y9.length + (1 : Nat)) (List.drop (0 : Nat) (List.take y9.length (List.drop (0 : Nat) y9) ++ List.take (1 : Nat) (List.drop (0 : Nat) [([(67 : UInt8), (111 : UInt8), (110 : UInt8), (116 : UInt8), (101 : UInt8), (110 : UInt8), (116 : UInt8), (45 : UInt8), (76 : UInt8), (101 : UInt8), (110 : UInt8), (103 : UInt8), (116 : UInt8), (104 : UInt8)], y10)]))) ++ List.take (1 : Nat) (List.drop (0 : Nat) [([(67 : UInt8), (111 : UInt8), (110 : UInt8), (110 : UInt8), (101 : UInt8), (99 : UInt8), (116 : UInt8), (105 : UInt8), (111 : UInt8), (110 : UInt8)], [(99 : UInt8), (108 : UInt8), (111 : UInt8), (115 : UInt8), (101 : UInt8)])]))))) fun y13 =>
   .chk ((↑(([(72 : UInt8), (84 : UInt8), (84 : UInt8), (80 : UInt8), (47 : UInt8), (49 : UInt8), (46 : UInt8), (49 : UInt8), (32 : UInt8)] ++ y11 ++ [(32 : UInt8)] ++ y12 ++ [(13 : UInt8), (10 : UInt8)]).length + y13.length) : Int) ≤ (9223372036854775807 : Int)) <| .chk ((↑(([(72 : UInt8), (84 : UInt8), (84 : UInt8), (80 : UInt8), (47 : UInt8), (49 : UInt8), (46 : UInt8), (49 : UInt8), (32 : UInt8)] ++ y11 ++ [(32 : UInt8)] ++ y12 ++ [(13 : UInt8), (10 : UInt8)] ++ y13).length + [(13 : UInt8), (10 : UInt8)].length) : Int) ≤ (9223372036854775807 : Int)) <| .chk (([(72 : UInt8), (84 : UInt8), (84 : UInt8), (80 : UInt8), (47 : UInt8), (49 : UInt8), (46 : UInt8), (49 : UInt8), (32 : UInt8)] ++ y11 ++ [(32 : UInt8)] ++ y12 ++ [(13 : UInt8), (10 : UInt8)] ++ y13 ++ [(13 : UInt8), (10 : UInt8)]).length ≤ (140737488355328 : Nat)) <| .br head (.chk ((0 : Nat) = (0 : Nat) ∧ ([(72 : UInt8), (84 : UInt8), (84 : UInt8), (80 : UInt8), (47 : UInt8), (49 : UInt8), (46 : UInt8), (49 : UInt8), (32 : UInt8)] ++ y11 ++ [(32 : UInt8)] ++ y12 ++ [(13 : UInt8), (10 : UInt8)] ++ y13 ++ [(13 : UInt8), (10 : UInt8)]).length = ([] ++ ([(72 : UInt8), (84 : UInt8), (84 : UInt8), (80 : UInt8), (47 : UInt8), (49 : UInt8), (46 : UInt8), (49 : UInt8), (32 : UInt8)] ++ y11 ++ [(32 : UInt8)] ++ y12 ++ [(13 : UInt8), (10 : UInt8)] ++ y13 ++ [(13 : UInt8), (10 : UInt8)])).length) <| .ret ([] ++ ([(72 : UInt8), (84 : UInt8), (84 : UInt8), (80 : UInt8), (47 : UInt8), (49 : UInt8), (46 : UInt8), (49 : UInt8), (32 : UInt8)] ++ y11 ++ [(32 : UInt8)] ++ y12 ++ [(13 : UInt8), (10 : UInt8)] ++ y13 ++ [(13 : UInt8), (10 : UInt8)])))
   (.br (Code == (304 : Int)) (.chk ((0 : Nat) = (0 : Nat) ∧ ([(72 : UInt8), (84 : UInt8), (84 : UInt8), (80 : UInt8), (47 : UInt8), (49 : UInt8), (46 : UInt8), (49 : UInt8), (32 : UInt8)] ++ y11 ++ [(32 : UInt8)] ++ y12 ++ [(13 : UInt8), (10 : UInt8)] ++ y13 ++ [(13 : UInt8), (10 : UInt8)]).length = ([] ++ ([(72 : UInt8), (84 : UInt8), (84 : UInt8), (80 : UInt8), (47 : UInt8), (49 : UInt8), (46 : UInt8), (49 : UInt8), (32 : UInt8)] ++ y11 ++ [(32 : UInt8)] ++ y12 ++ [(13 : UInt8), (10 : UInt8)] ++ y13 ++ [(13 : UInt8), (10 : UInt8)])).length) <| .ret ([] ++ ([(72 : UInt8), (84 : UInt8), (84 : UInt8), (80 : UInt8), (47 : UInt8), (49 : UInt8), (46 : UInt8), (49 : UInt8), (32 : UInt8)] ++ y11 ++ [(32 : UInt8)] ++ y12 ++ [(13 : UInt8), (10 : UInt8)] ++ y13 ++ [(13 : UInt8), (10 : UInt8)])))
    (.chk ((0 : Nat) + Body.length ≤ Body.length) <| .chk ((0 : Nat) + ([(72 : UInt8), (84 : UInt8), (84 : UInt8), (80 : UInt8), (47 : UInt8), (49 : UInt8), (46 : UInt8), (49 : UInt8), (32 : UInt8)] ++ y11 ++ [(32 : UInt8)] ++ y12 ++ [(13 : UInt8), (10 : UInt8)] ++ y13 ++ [(13 : UInt8), (10 : UInt8)]).length ≤ ([] ++ ([(72 : UInt8), (84 : UInt8), (84 : UInt8), (80 : UInt8), (47 : UInt8), (49 : UInt8), (46 : UInt8), (49 : UInt8), (32 : UInt8)] ++ y11 ++ [(32 : UInt8)] ++ y12 ++ [(13 : UInt8), (10 : UInt8)] ++ y13 ++ [(13 : UInt8), (10 : UInt8)])).length) <| .chk ((([(72 : UInt8), (84 : UInt8), (84 : UInt8), (80 : UInt8), (47 : UInt8), (49 : UInt8), (46 : UInt8), (49 : UInt8), (32 : UInt8)] ++ y11 ++ [(32 : UInt8)] ++ y12 ++ [(13 : UInt8), (10 : UInt8)] ++ y13 ++ [(13 : UInt8), (10 : UInt8)]).length + Body.length) * (1 : Nat) ≤ (140737488355328 : Nat)) <| .chk ((0 : Nat) = (0 : Nat) ∧ ([(72 : UInt8), (84 : UInt8), (84 : UInt8), (80 : UInt8), (47 : UInt8), (49 : UInt8), (46 : UInt8), (49 : UInt8), (32 : UInt8)] ++ y11 ++ [(32 : UInt8)] ++ y12 ++ [(13 : UInt8), (10 : UInt8)] ++ y13 ++ [(13 : UInt8), (10 : UInt8)]).length + Body.length = (List.take ([(72 : UInt8), (84 : UInt8), (84 : UInt8), (80 : UInt8), (47 : UInt8), (49 : UInt8), (46 : UInt8), (49 : UInt8), (32 : UInt8)] ++ y11 ++ [(32 : UInt8)] ++ y12 ++ [(13 : UInt8), (10 : UInt8)] ++ y13 ++ [(13 : UInt8), (10 : UInt8)]).length (List.drop (0 : Nat) ([] ++ ([(72 : UInt8), (84 : UInt8), (84 : UInt8), (80 : UInt8), (47 : UInt8), (49 : UInt8), (46 : UInt8), (49 : UInt8), (32 : UInt8)] ++ y11 ++ [(32 : UInt8)] ++ y12 ++ [(13 : UInt8), (10 : UInt8)] ++ y13 ++ [(13 : UInt8), (10 : UInt8)]))) ++ List.take Body.length (List.drop (0 : Nat) Body)).length) <| .ret (List.take ([(72 : UInt8), (84 : UInt8), (84 : UInt8), (80 : UInt8), (47 : UInt8), (49 : UInt8), (46 : UInt8), (49 : UInt8), (32 : UInt8)] ++ y11 ++ [(32 : UInt8)] ++ y12 ++ [(13 : UInt8), (10 : UInt8)] ++ y13 ++ [(13 : UInt8), (10 : UInt8)]).length (List.drop (0 : Nat) ([] ++ ([(72 : UInt8), (84 : UInt8), (84 : UInt8), (80 : UInt8), (47 : UInt8), (49 : UInt8), (46 : UInt8), (49 : UInt8), (32 : UInt8)] ++ y11 ++ [(32 : UInt8)] ++ y12 ++ [(13 : UInt8), (10 : UInt8)] ++ y13 ++ [(13 : UInt8), (10 : UInt8)]))) ++ List.take Body.length (List.drop (0 : Nat) Body)))))
   (.call (ref1_Put.f Code) fun y14 =>
   .chk ((↑([(72 : UInt8), (84 : UInt8), (84 : UInt8), (80 : UInt8), (47 : UInt8), (49 : UInt8), (46 : UInt8), (49 : UInt8), (32 : UInt8)].length + y14.length) : Int) ≤ (9223372036854775807 : Int)) <| .chk ((↑(([(72 : UInt8), (84 : UInt8), (84 : UInt8), (80 : UInt8), (47 : UInt8), (49 : UInt8), (46 : UInt8), (49 : UInt8), (32 : UInt8)] ++ y14).length + [(32 : UInt8)].length) : Int) ≤ (9223372036854775807 : Int)) <| .call (ref27_Reason.f Code) fun y15 =>
   .chk ((↑(([(72 : UInt8), (84 : UInt8), (84 : UInt8), (80 : UInt8), (47 : UInt8), (49 : UInt8), (46 : UInt8), (49 : UInt8), (32 : UInt8)] ++ y14 ++ [(32 : UInt8)]).length + y15.length) : Int) ≤ (9223372036854775807 : Int)) <| .chk ((↑(([(72 : UInt8), (84 : UInt8), (84 : UInt8), (80 : UInt8), (47 : UInt8), (49 : UInt8), (46 : UInt8), (49 : UInt8), (32 : UInt8)] ++ y14 ++ [(32 : UInt8)] ++ y15).length + [(13 : UInt8), (10 : UInt8)].length) : Int) ≤ (9223372036854775807 : Int)) <| .chk ((0 : Nat) + (y9.length + (1 : Nat)) ≤ (List.take y9.length (List.drop (0 : Nat) y9) ++ List.take (1 : Nat) (List.drop (0 : Nat) [([(67 : UInt8), (111 : UInt8), (110 : UInt8), (116 : UInt8), (101 : UInt8), (110 : UInt8), (116 : UInt8), (45 : UInt8), (76 : UInt8), (101 : UInt8), (110 : UInt8), (103 : UInt8), (116 : UInt8), (104 : UInt8)], y10)])).length) <| .call (ref9_Put.f (List.take (y9.length + (1 : Nat)) (List.drop (0 : Nat) (List.take y9.length (List.drop (0 : Nat) y9) ++ List.take (1 : Nat) (List.drop (0 : Nat) [([(67 : UInt8), (111 : UInt8), (110 : UInt8), (116 : UInt8), (101 : UInt8), (110 : UInt8), (116 : UInt8), (45 : UInt8), (76 : UInt8), (101 : UInt8), (110 : UInt8), (103 : UInt8), (116 : UInt8), (104 : UInt8)], y10)]))))) fun y16 =>
   .chk ((↑(([(72 : UInt8), (84 : UInt8), (84 : UInt8), (80 : UInt8), (47 : UInt8), (49 : UInt8), (46 : UInt8), (49 : UInt8), (32 : UInt8)] ++ y14 ++ [(32 : UInt8)] ++ y15 ++ [(13 : UInt8), (10 : UInt8)]).length + y16.length) : Int) ≤ (9223372036854775807 : Int)) <| .chk ((↑(([(72 : UInt8), (84 : UInt8), (84 : UInt8), (80 : UInt8), (47 : UInt8), (49 : UInt8), (46 : UInt8), (49 : UInt8), (32 : UInt8)] ++ y14 ++ [(32 : UInt8)] ++ y15 ++ [(13 : UInt8), (10 : UInt8)] ++ y16).length + [(13 : UInt8), (10 : UInt8)].length) : Int) ≤ (9223372036854775807 : Int)) <| .chk (([(72 : UInt8), (84 : UInt8), (84 : UInt8), (80 : UInt8), (47 : UInt8), (49 : UInt8), (46 : UInt8), (49 : UInt8), (32 : UInt8)] ++ y14 ++ [(32 : UInt8)] ++ y15 ++ [(13 : UInt8), (10 : UInt8)] ++ y16 ++ [(13 : UInt8), (10 : UInt8)]).length ≤ (140737488355328 : Nat)) <| .br head (.chk ((0 : Nat) = (0 : Nat) ∧ ([(72 : UInt8), (84 : UInt8), (84 : UInt8), (80 : UInt8), (47 : UInt8), (49 : UInt8), (46 : UInt8), (49 : UInt8), (32 : UInt8)] ++ y14 ++ [(32 : UInt8)] ++ y15 ++ [(13 : UInt8), (10 : UInt8)] ++ y16 ++ [(13 : UInt8), (10 : UInt8)]).length = ([] ++ ([(72 : UInt8), (84 : UInt8), (84 : UInt8), (80 : UInt8), (47 : UInt8), (49 : UInt8), (46 : UInt8), (49 : UInt8), (32 : UInt8)] ++ y14 ++ [(32 : UInt8)] ++ y15 ++ [(13 : UInt8), (10 : UInt8)] ++ y16 ++ [(13 : UInt8), (10 : UInt8)])).length) <| .ret ([] ++ ([(72 : UInt8), (84 : UInt8), (84 : UInt8), (80 : UInt8), (47 : UInt8), (49 : UInt8), (46 : UInt8), (49 : UInt8), (32 : UInt8)] ++ y14 ++ [(32 : UInt8)] ++ y15 ++ [(13 : UInt8), (10 : UInt8)] ++ y16 ++ [(13 : UInt8), (10 : UInt8)])))
   (.br (Code == (304 : Int)) (.chk ((0 : Nat) = (0 : Nat) ∧ ([(72 : UInt8), (84 : UInt8), (84 : UInt8), (80 : UInt8), (47 : UInt8), (49 : UInt8), (46 : UInt8), (49 : UInt8), (32 : UInt8)] ++ y14 ++ [(32 : UInt8)] ++ y15 ++ [(13 : UInt8), (10 : UInt8)] ++ y16 ++ [(13 : UInt8), (10 : UInt8)]).length = ([] ++ ([(72 : UInt8), (84 : UInt8), (84 : UInt8), (80 : UInt8), (47 : UInt8), (49 : UInt8), (46 : UInt8), (49 : UInt8), (32 : UInt8)] ++ y14 ++ [(32 : UInt8)] ++ y15 ++ [(13 : UInt8), (10 : UInt8)] ++ y16 ++ [(13 : UInt8), (10 : UInt8)])).length) <| .ret ([] ++ ([(72 : UInt8), (84 : UInt8), (84 : UInt8), (80 : UInt8), (47 : UInt8), (49 : UInt8), (46 : UInt8), (49 : UInt8), (32 : UInt8)] ++ y14 ++ [(32 : UInt8)] ++ y15 ++ [(13 : UInt8), (10 : UInt8)] ++ y16 ++ [(13 : UInt8), (10 : UInt8)])))
    (.chk ((0 : Nat) + Body.length ≤ Body.length) <| .chk ((0 : Nat) + ([(72 : UInt8), (84 : UInt8), (84 : UInt8), (80 : UInt8), (47 : UInt8), (49 : UInt8), (46 : UInt8), (49 : UInt8), (32 : UInt8)] ++ y14 ++ [(32 : UInt8)] ++ y15 ++ [(13 : UInt8), (10 : UInt8)] ++ y16 ++ [(13 : UInt8), (10 : UInt8)]).length ≤ ([] ++ ([(72 : UInt8), (84 : UInt8), (84 : UInt8), (80 : UInt8), (47 : UInt8), (49 : UInt8), (46 : UInt8), (49 : UInt8), (32 : UInt8)] ++ y14 ++ [(32 : UInt8)] ++ y15 ++ [(13 : UInt8), (10 : UInt8)] ++ y16 ++ [(13 : UInt8), (10 : UInt8)])).length) <| .chk ((([(72 : UInt8), (84 : UInt8), (84 : UInt8), (80 : UInt8), (47 : UInt8), (49 : UInt8), (46 : UInt8), (49 : UInt8), (32 : UInt8)] ++ y14 ++ [(32 : UInt8)] ++ y15 ++ [(13 : UInt8), (10 : UInt8)] ++ y16 ++ [(13 : UInt8), (10 : UInt8)]).length + Body.length) * (1 : Nat) ≤ (140737488355328 : Nat)) <| .chk ((0 : Nat) = (0 : Nat) ∧ ([(72 : UInt8), (84 : UInt8), (84 : UInt8), (80 : UInt8), (47 : UInt8), (49 : UInt8), (46 : UInt8), (49 : UInt8), (32 : UInt8)] ++ y14 ++ [(32 : UInt8)] ++ y15 ++ [(13 : UInt8), (10 : UInt8)] ++ y16 ++ [(13 : UInt8), (10 : UInt8)]).length + Body.length = (List.take ([(72 : UInt8), (84 : UInt8), (84 : UInt8), (80 : UInt8), (47 : UInt8), (49 : UInt8), (46 : UInt8), (49 : UInt8), (32 : UInt8)] ++ y14 ++ [(32 : UInt8)] ++ y15 ++ [(13 : UInt8), (10 : UInt8)] ++ y16 ++ [(13 : UInt8), (10 : UInt8)]).length (List.drop (0 : Nat) ([] ++ ([(72 : UInt8), (84 : UInt8), (84 : UInt8), (80 : UInt8), (47 : UInt8), (49 : UInt8), (46 : UInt8), (49 : UInt8), (32 : UInt8)] ++ y14 ++ [(32 : UInt8)] ++ y15 ++ [(13 : UInt8), (10 : UInt8)] ++ y16 ++ [(13 : UInt8), (10 : UInt8)]))) ++ List.take Body.length (List.drop (0 : Nat) Body)).length) <| .ret (List.take ([(72 : UInt8), (84 : UInt8), (84 : UInt8), (80 : UInt8), (47 : UInt8), (49 : UInt8), (46 : UInt8), (49 : UInt8), (32 : UInt8)] ++ y14 ++ [(32 : UInt8)] ++ y15 ++ [(13 : UInt8), (10 : UInt8)] ++ y16 ++ [(13 : UInt8), (10 : UInt8)]).length (List.drop (0 : Nat) ([] ++ ([(72 : UInt8), (84 : UInt8), (84 : UInt8), (80 : UInt8), (47 : UInt8), (49 : UInt8), (46 : UInt8), (49 : UInt8), (32 : UInt8)] ++ y14 ++ [(32 : UInt8)] ++ y15 ++ [(13 : UInt8), (10 : UInt8)] ++ y16 ++ [(13 : UInt8), (10 : UInt8)]))) ++ List.take Body.length (List.drop (0 : Nat) Body))))))
  (.br closes (.chk ((1 : Nat) ≤ (1 : Nat)) <| .chk ((0 : Nat) + y9.length ≤ y9.length) <| .chk ((y9.length + (1 : Nat)) * (32 : Nat) ≤ (140737488355328 : Nat)) <| .call (ref1_Put.f Code) fun y17 =>
   .chk ((↑([(72 : UInt8), (84 : UInt8), (84 : UInt8), (80 : UInt8), (47 : UInt8), (49 : UInt8), (46 : UInt8), (49 : UInt8), (32 : UInt8)].length + y17.length) : Int) ≤ (9223372036854775807 : Int)) <| .chk ((↑(([(72 : UInt8), (84 : UInt8), (84 : UInt8), (80 : UInt8), (47 : UInt8), (49 : UInt8), (46 : UInt8), (49 : UInt8), (32 : UInt8)] ++ y17).length + [(32 : UInt8)].length) : Int) ≤ (9223372036854775807 : Int)) <| .call (ref27_Reason.f Code) fun y18 =>
   .chk ((↑(([(72 : UInt8), (84 : UInt8), (84 : UInt8), (80 : UInt8), (47 : UInt8), (49 : UInt8), (46 : UInt8), (49 : UInt8), (32 : UInt8)] ++ y17 ++ [(32 : UInt8)]).length + y18.length) : Int) ≤ (9223372036854775807 : Int)) <| .chk ((↑(([(72 : UInt8), (84 : UInt8), (84 : UInt8), (80 : UInt8), (47 : UInt8), (49 : UInt8), (46 : UInt8), (49 : UInt8), (32 : UInt8)] ++ y17 ++ [(32 : UInt8)] ++ y18).length + [(13 : UInt8), (10 : UInt8)].length) : Int) ≤ (9223372036854775807 : Int)) <| .chk ((0 : Nat) + (y9.length + (1 : Nat)) ≤ (List.take y9.length (List.drop (0 : Nat) y9) ++ List.take (1 : Nat) (List.drop (0 : Nat) [([(67 : UInt8), (111 : UInt8), (110 : UInt8), (110 : UInt8), (101 : UInt8), (99 : UInt8), (116 : UInt8), (105 : UInt8), (111 : UInt8), (110 : UInt8)], [(99 : UInt8), (108 : UInt8), (111 : UInt8), (115 : UInt8), (101 : UInt8)])])).length) <| .call (ref9_Put.f (List.take (y9.length + (1 : Nat)) (List.drop (0 : Nat) (List.take y9.length (List.drop (0 : Nat) y9) ++ List.take (1 : Nat) (List.drop (0 : Nat) [([(67 : UInt8), (111 : UInt8), (110 : UInt8), (110 : UInt8), (101 : UInt8), (99 : UInt8), (116 : UInt8), (105 : UInt8), (111 : UInt8), (110 : UInt8)], [(99 : UInt8), (108 : UInt8), (111 : UInt8), (115 : UInt8), (101 : UInt8)])]))))) fun y19 =>
   .chk ((↑(([(72 : UInt8), (84 : UInt8), (84 : UInt8), (80 : UInt8), (47 : UInt8), (49 : UInt8), (46 : UInt8), (49 : UInt8), (32 : UInt8)] ++ y17 ++ [(32 : UInt8)] ++ y18 ++ [(13 : UInt8), (10 : UInt8)]).length + y19.length) : Int) ≤ (9223372036854775807 : Int)) <| .chk ((↑(([(72 : UInt8), (84 : UInt8), (84 : UInt8), (80 : UInt8), (47 : UInt8), (49 : UInt8), (46 : UInt8), (49 : UInt8), (32 : UInt8)] ++ y17 ++ [(32 : UInt8)] ++ y18 ++ [(13 : UInt8), (10 : UInt8)] ++ y19).length + [(13 : UInt8), (10 : UInt8)].length) : Int) ≤ (9223372036854775807 : Int)) <| .chk (([(72 : UInt8), (84 : UInt8), (84 : UInt8), (80 : UInt8), (47 : UInt8), (49 : UInt8), (46 : UInt8), (49 : UInt8), (32 : UInt8)] ++ y17 ++ [(32 : UInt8)] ++ y18 ++ [(13 : UInt8), (10 : UInt8)] ++ y19 ++ [(13 : UInt8), (10 : UInt8)]).length ≤ (140737488355328 : Nat)) <| .br head (.chk ((0 : Nat) = (0 : Nat) ∧ ([(72 : UInt8), (84 : UInt8), (84 : UInt8), (80 : UInt8), (47 : UInt8), (49 : UInt8), (46 : UInt8), (49 : UInt8), (32 : UInt8)] ++ y17 ++ [(32 : UInt8)] ++ y18 ++ [(13 : UInt8), (10 : UInt8)] ++ y19 ++ [(13 : UInt8), (10 : UInt8)]).length = ([] ++ ([(72 : UInt8), (84 : UInt8), (84 : UInt8), (80 : UInt8), (47 : UInt8), (49 : UInt8), (46 : UInt8), (49 : UInt8), (32 : UInt8)] ++ y17 ++ [(32 : UInt8)] ++ y18 ++ [(13 : UInt8), (10 : UInt8)] ++ y19 ++ [(13 : UInt8), (10 : UInt8)])).length) <| .ret ([] ++ ([(72 : UInt8), (84 : UInt8), (84 : UInt8), (80 : UInt8), (47 : UInt8), (49 : UInt8), (46 : UInt8), (49 : UInt8), (32 : UInt8)] ++ y17 ++ [(32 : UInt8)] ++ y18 ++ [(13 : UInt8), (10 : UInt8)] ++ y19 ++ [(13 : UInt8), (10 : UInt8)])))
   (.br (Code == (304 : Int)) (.chk ((0 : Nat) = (0 : Nat) ∧ ([(72 : UInt8), (84 : UInt8), (84 : UInt8), (80 : UInt8), (47 : UInt8), (49 : UInt8), (46 : UInt8), (49 : UInt8), (32 : UInt8)] ++ y17 ++ [(32 : UInt8)] ++ y18 ++ [(13 : UInt8), (10 : UInt8)] ++ y19 ++ [(13 : UInt8), (10 : UInt8)]).length = ([] ++ ([(72 : UInt8), (84 : UInt8), (84 : UInt8), (80 : UInt8), (47 : UInt8), (49 : UInt8), (46 : UInt8), (49 : UInt8), (32 : UInt8)] ++ y17 ++ [(32 : UInt8)] ++ y18 ++ [(13 : UInt8), (10 : UInt8)] ++ y19 ++ [(13 : UInt8), (10 : UInt8)])).length) <| .ret ([] ++ ([(72 : UInt8), (84 : UInt8), (84 : UInt8), (80 : UInt8), (47 : UInt8), (49 : UInt8), (46 : UInt8), (49 : UInt8), (32 : UInt8)] ++ y17 ++ [(32 : UInt8)] ++ y18 ++ [(13 : UInt8), (10 : UInt8)] ++ y19 ++ [(13 : UInt8), (10 : UInt8)])))
    (.chk ((0 : Nat) + Body.length ≤ Body.length) <| .chk ((0 : Nat) + ([(72 : UInt8), (84 : UInt8), (84 : UInt8), (80 : UInt8), (47 : UInt8), (49 : UInt8), (46 : UInt8), (49 : UInt8), (32 : UInt8)] ++ y17 ++ [(32 : UInt8)] ++ y18 ++ [(13 : UInt8), (10 : UInt8)] ++ y19 ++ [(13 : UInt8), (10 : UInt8)]).length ≤ ([] ++ ([(72 : UInt8), (84 : UInt8), (84 : UInt8), (80 : UInt8), (47 : UInt8), (49 : UInt8), (46 : UInt8), (49 : UInt8), (32 : UInt8)] ++ y17 ++ [(32 : UInt8)] ++ y18 ++ [(13 : UInt8), (10 : UInt8)] ++ y19 ++ [(13 : UInt8), (10 : UInt8)])).length) <| .chk ((([(72 : UInt8), (84 : UInt8), (84 : UInt8), (80 : UInt8), (47 : UInt8), (49 : UInt8), (46 : UInt8), (49 : UInt8), (32 : UInt8)] ++ y17 ++ [(32 : UInt8)] ++ y18 ++ [(13 : UInt8), (10 : UInt8)] ++ y19 ++ [(13 : UInt8), (10 : UInt8)]).length + Body.length) * (1 : Nat) ≤ (140737488355328 : Nat)) <| .chk ((0 : Nat) = (0 : Nat) ∧ ([(72 : UInt8), (84 : UInt8), (84 : UInt8), (80 : UInt8), (47 : UInt8), (49 : UInt8), (46 : UInt8), (49 : UInt8), (32 : UInt8)] ++ y17 ++ [(32 : UInt8)] ++ y18 ++ [(13 : UInt8), (10 : UInt8)] ++ y19 ++ [(13 : UInt8), (10 : UInt8)]).length + Body.length = (List.take ([(72 : UInt8), (84 : UInt8), (84 : UInt8), (80 : UInt8), (47 : UInt8), (49 : UInt8), (46 : UInt8), (49 : UInt8), (32 : UInt8)] ++ y17 ++ [(32 : UInt8)] ++ y18 ++ [(13 : UInt8), (10 : UInt8)] ++ y19 ++ [(13 : UInt8), (10 : UInt8)]).length (List.drop (0 : Nat) ([] ++ ([(72 : UInt8), (84 : UInt8), (84 : UInt8), (80 : UInt8), (47 : UInt8), (49 : UInt8), (46 : UInt8), (49 : UInt8), (32 : UInt8)] ++ y17 ++ [(32 : UInt8)] ++ y18 ++ [(13 : UInt8), (10 : UInt8)] ++ y19 ++ [(13 : UInt8), (10 : UInt8)]))) ++ List.take Body.length (List.drop (0 : Nat) Body)).length) <| .ret (List.take ([(72 : UInt8), (84 : UInt8), (84 : UInt8), (80 : UInt8), (47 : UInt8), (49 : UInt8), (46 : UInt8), (49 : UInt8), (32 : UInt8)] ++ y17 ++ [(32 : UInt8)] ++ y18 ++ [(13 : UInt8), (10 : UInt8)] ++ y19 ++ [(13 : UInt8), (10 : UInt8)]).length (List.drop (0 : Nat) ([] ++ ([(72 : UInt8), (84 : UInt8), (84 : UInt8), (80 : UInt8), (47 : UInt8), (49 : UInt8), (46 : UInt8), (49 : UInt8), (32 : UInt8)] ++ y17 ++ [(32 : UInt8)] ++ y18 ++ [(13 : UInt8), (10 : UInt8)] ++ y19 ++ [(13 : UInt8), (10 : UInt8)]))) ++ List.take Body.length (List.drop (0 : Nat) Body)))))
   (.call (ref1_Put.f Code) fun y20 =>
   .chk ((↑([(72 : UInt8), (84 : UInt8), (84 : UInt8), (80 : UInt8), (47 : UInt8), (49 : UInt8), (46 : UInt8), (49 : UInt8), (32 : UInt8)].length + y20.length) : Int) ≤ (9223372036854775807 : Int)) <| .chk ((↑(([(72 : UInt8), (84 : UInt8), (84 : UInt8), (80 : UInt8), (47 : UInt8), (49 : UInt8), (46 : UInt8), (49 : UInt8), (32 : UInt8)] ++ y20).length + [(32 : UInt8)].length) : Int) ≤ (9223372036854775807 : Int)) <| .call (ref27_Reason.f Code) fun y21 =>
   .chk ((↑(([(72 : UInt8), (84 : UInt8), (84 : UInt8), (80 : UInt8), (47 : UInt8), (49 : UInt8), (46 : UInt8), (49 : UInt8), (32 : UInt8)] ++ y20 ++ [(32 : UInt8)]).length + y21.length) : Int) ≤ (9223372036854775807 : Int)) <| .chk ((↑(([(72 : UInt8), (84 : UInt8), (84 : UInt8), (80 : UInt8), (47 : UInt8), (49 : UInt8), (46 : UInt8), (49 : UInt8), (32 : UInt8)] ++ y20 ++ [(32 : UInt8)] ++ y21).length + [(13 : UInt8), (10 : UInt8)].length) : Int) ≤ (9223372036854775807 : Int)) <| .chk ((0 : Nat) + y9.length ≤ y9.length) <| .call (ref9_Put.f (List.take y9.length (List.drop (0 : Nat) y9))) fun y22 =>
   .chk ((↑(([(72 : UInt8), (84 : UInt8), (84 : UInt8), (80 : UInt8), (47 : UInt8), (49 : UInt8), (46 : UInt8), (49 : UInt8), (32 : UInt8)] ++ y20 ++ [(32 : UInt8)] ++ y21 ++ [(13 : UInt8), (10 : UInt8)]).length + y22.length) : Int) ≤ (9223372036854775807 : Int)) <| .chk ((↑(([(72 : UInt8), (84 : UInt8), (84 : UInt8), (80 : UInt8), (47 : UInt8), (49 : UInt8), (46 : UInt8), (49 : UInt8), (32 : UInt8)] ++ y20 ++ [(32 : UInt8)] ++ y21 ++ [(13 : UInt8), (10 : UInt8)] ++ y22).length + [(13 : UInt8), (10 : UInt8)].length) : Int) ≤ (9223372036854775807 : Int)) <| .chk (([(72 : UInt8), (84 : UInt8), (84 : UInt8), (80 : UInt8), (47 : UInt8), (49 : UInt8), (46 : UInt8), (49 : UInt8), (32 : UInt8)] ++ y20 ++ [(32 : UInt8)] ++ y21 ++ [(13 : UInt8), (10 : UInt8)] ++ y22 ++ [(13 : UInt8), (10 : UInt8)]).length ≤ (140737488355328 : Nat)) <| .br head (.chk ((0 : Nat) = (0 : Nat) ∧ ([(72 : UInt8), (84 : UInt8), (84 : UInt8), (80 : UInt8), (47 : UInt8), (49 : UInt8), (46 : UInt8), (49 : UInt8), (32 : UInt8)] ++ y20 ++ [(32 : UInt8)] ++ y21 ++ [(13 : UInt8), (10 : UInt8)] ++ y22 ++ [(13 : UInt8), (10 : UInt8)]).length = ([] ++ ([(72 : UInt8), (84 : UInt8), (84 : UInt8), (80 : UInt8), (47 : UInt8), (49 : UInt8), (46 : UInt8), (49 : UInt8), (32 : UInt8)] ++ y20 ++ [(32 : UInt8)] ++ y21 ++ [(13 : UInt8), (10 : UInt8)] ++ y22 ++ [(13 : UInt8), (10 : UInt8)])).length) <| .ret ([] ++ ([(72 : UInt8), (84 : UInt8), (84 : UInt8), (80 : UInt8), (47 : UInt8), (49 : UInt8), (46 : UInt8), (49 : UInt8), (32 : UInt8)] ++ y20 ++ [(32 : UInt8)] ++ y21 ++ [(13 : UInt8), (10 : UInt8)] ++ y22 ++ [(13 : UInt8), (10 : UInt8)])))
   (.br (Code == (304 : Int)) (.chk ((0 : Nat) = (0 : Nat) ∧ ([(72 : UInt8), (84 : UInt8), (84 : UInt8), (80 : UInt8), (47 : UInt8), (49 : UInt8), (46 : UInt8), (49 : UInt8), (32 : UInt8)] ++ y20 ++ [(32 : UInt8)] ++ y21 ++ [(13 : UInt8), (10 : UInt8)] ++ y22 ++ [(13 : UInt8), (10 : UInt8)]).length = ([] ++ ([(72 : UInt8), (84 : UInt8), (84 : UInt8), (80 : UInt8), (47 : UInt8), (49 : UInt8), (46 : UInt8), (49 : UInt8), (32 : UInt8)] ++ y20 ++ [(32 : UInt8)] ++ y21 ++ [(13 : UInt8), (10 : UInt8)] ++ y22 ++ [(13 : UInt8), (10 : UInt8)])).length) <| .ret ([] ++ ([(72 : UInt8), (84 : UInt8), (84 : UInt8), (80 : UInt8), (47 : UInt8), (49 : UInt8), (46 : UInt8), (49 : UInt8), (32 : UInt8)] ++ y20 ++ [(32 : UInt8)] ++ y21 ++ [(13 : UInt8), (10 : UInt8)] ++ y22 ++ [(13 : UInt8), (10 : UInt8)])))
    (.chk ((0 : Nat) + Body.length ≤ Body.length) <| .chk ((0 : Nat) + ([(72 : UInt8), (84 : UInt8), (84 : UInt8), (80 : UInt8), (47 : UInt8), (49 : UInt8), (46 : UInt8), (49 : UInt8), (32 : UInt8)] ++ y20 ++ [(32 : UInt8)] ++ y21 ++ [(13 : UInt8), (10 : UInt8)] ++ y22 ++ [(13 : UInt8), (10 : UInt8)]).length ≤ ([] ++ ([(72 : UInt8), (84 : UInt8), (84 : UInt8), (80 : UInt8), (47 : UInt8), (49 : UInt8), (46 : UInt8), (49 : UInt8), (32 : UInt8)] ++ y20 ++ [(32 : UInt8)] ++ y21 ++ [(13 : UInt8), (10 : UInt8)] ++ y22 ++ [(13 : UInt8), (10 : UInt8)])).length) <| .chk ((([(72 : UInt8), (84 : UInt8), (84 : UInt8), (80 : UInt8), (47 : UInt8), (49 : UInt8), (46 : UInt8), (49 : UInt8), (32 : UInt8)] ++ y20 ++ [(32 : UInt8)] ++ y21 ++ [(13 : UInt8), (10 : UInt8)] ++ y22 ++ [(13 : UInt8), (10 : UInt8)]).length + Body.length) * (1 : Nat) ≤ (140737488355328 : Nat)) <| .chk ((0 : Nat) = (0 : Nat) ∧ ([(72 : UInt8), (84 : UInt8), (84 : UInt8), (80 : UInt8), (47 : UInt8), (49 : UInt8), (46 : UInt8), (49 : UInt8), (32 : UInt8)] ++ y20 ++ [(32 : UInt8)] ++ y21 ++ [(13 : UInt8), (10 : UInt8)] ++ y22 ++ [(13 : UInt8), (10 : UInt8)]).length + Body.length = (List.take ([(72 : UInt8), (84 : UInt8), (84 : UInt8), (80 : UInt8), (47 : UInt8), (49 : UInt8), (46 : UInt8), (49 : UInt8), (32 : UInt8)] ++ y20 ++ [(32 : UInt8)] ++ y21 ++ [(13 : UInt8), (10 : UInt8)] ++ y22 ++ [(13 : UInt8), (10 : UInt8)]).length (List.drop (0 : Nat) ([] ++ ([(72 : UInt8), (84 : UInt8), (84 : UInt8), (80 : UInt8), (47 : UInt8), (49 : UInt8), (46 : UInt8), (49 : UInt8), (32 : UInt8)] ++ y20 ++ [(32 : UInt8)] ++ y21 ++ [(13 : UInt8), (10 : UInt8)] ++ y22 ++ [(13 : UInt8), (10 : UInt8)]))) ++ List.take Body.length (List.drop (0 : Nat) Body)).length) <| .ret (List.take ([(72 : UInt8), (84 : UInt8), (84 : UInt8), (80 : UInt8), (47 : UInt8), (49 : UInt8), (46 : UInt8), (49 : UInt8), (32 : UInt8)] ++ y20 ++ [(32 : UInt8)] ++ y21 ++ [(13 : UInt8), (10 : UInt8)] ++ y22 ++ [(13 : UInt8), (10 : UInt8)]).length (List.drop (0 : Nat) ([] ++ ([(72 : UInt8), (84 : UInt8), (84 : UInt8), (80 : UInt8), (47 : UInt8), (49 : UInt8), (46 : UInt8), (49 : UInt8), (32 : UInt8)] ++ y20 ++ [(32 : UInt8)] ++ y21 ++ [(13 : UInt8), (10 : UInt8)] ++ y22 ++ [(13 : UInt8), (10 : UInt8)]))) ++ List.take Body.length (List.drop (0 : Nat) Body))))))))
def f (Fields : List (List UInt8 × List UInt8)) (Body : List UInt8) (Code : Int) (head : Bool) (closes : Bool) : Option (List UInt8) := (t Fields Body Code head closes).val
def F (x : D.den) : Option (List UInt8) := f x.1.1 x.1.2.1 x.2.1.1 x.2.2.1 x.2.2.2
def pa : D.den → (List UInt8) → A.den := fun ((Fields, (Body, _)), ((_, (_, _)), (_, _))) y1 => ((Fields, (Body, (y1, ()))), ())
def con : Con := tcon D A pa F
theorem ok : ConOk Tryz.prog 10 con := tcon_ok Base.mixed Base.prog_ok bk_ref9_Put_ok (by kernel_rfl) LapsOk.nil 9 (fun _ => rfl) (fun x => t x.1.1 x.1.2.1 x.2.1.1 x.2.2.1 x.2.2.2) (fun _ => rfl) fun _ _ _ => (by kernel_rfl)
end ref27_Put
def bk_ref27_Put : Book := bk_ref9_Put.add 10 ref27_Put.con
theorem bk_ref27_Put_ok : BookOk Tryz.prog bk_ref27_Put := bk_ref9_Put_ok.add ref27_Put.ok
end Go.Vx
end
section
set_option maxRecDepth 1000000
set_option maxHeartbeats 4000000
set_option synthInstance.maxSize 100000
set_option synthInstance.maxHeartbeats 400000
set_option linter.unusedVariables false
namespace Go.Vx
open Go Go.Vx Go.Proofs
namespace ref17_Names
def D : Dom := ⟨[], .nil⟩
def A : Dom := ⟨[.vec .str 9 false], (.sl 0 1)⟩
def sel : List Nat := []
def t  : Tr (List (List UInt8)) :=
 .ret [[(67 : UInt8), (111 : UInt8), (110 : UInt8), (110 : UInt8), (101 : UInt8), (99 : UInt8), (116 : UInt8), (105 : UInt8), (111 : UInt8), (110 : UInt8)], [(75 : UInt8), (101 : UInt8), (101 : UInt8), (112 : UInt8), (45 : UInt8), (65 : UInt8), (108 : UInt8), (105 : UInt8), (118 : UInt8), (101 : UInt8)], [(80 : UInt8), (114 : UInt8), (111 : UInt8), (120 : UInt8), (121 : UInt8), (45 : UInt8), (65 : UInt8), (117 : UInt8), (116 : UInt8), (104 : UInt8), (101 : UInt8), (110 : UInt8), (116 : UInt8), (105 : UInt8), (99 : UInt8), (97 : UInt8), (116 : UInt8), (101 : UInt8)], [(80 : UInt8), (114 : UInt8), (111 : UInt8), (120 : UInt8), (121 : UInt8), (45 : UInt8), (65 : UInt8), (117 : UInt8), (116 : UInt8), (104 : UInt8), (111 : UInt8), (114 : UInt8), (105 : UInt8), (122 : UInt8), (97 : UInt8), (116 : UInt8), (105 : UInt8), (111 : UInt8), (110 : UInt8)], [(80 : UInt8), (114 : UInt8), (111 : UInt8), (120 : UInt8), (121 : UInt8), (45 : UInt8), (67 : UInt8), (111 : UInt8), (110 : UInt8), (110 : UInt8), (101 : UInt8), (99 : UInt8), (116 : UInt8), (105 : UInt8), (111 : UInt8), (110 : UInt8)], [(84 : UInt8), (69 : UInt8)], [(84 : UInt8), (114 : UInt8), (97 : UInt8), (105 : UInt8), (108 : UInt8), (101 : UInt8), (114 : UInt8)], [(84 : UInt8), (114 : UInt8), (97 : UInt8), (110 : UInt8), (115 : UInt8), (102 : UInt8), (101 : UInt8), (114 : UInt8), (45 : UInt8), (69 : UInt8), (110 : UInt8), (99 : UInt8), (111 : UInt8), (100 : UInt8), (105 : UInt8), (110 : UInt8), (103 : UInt8)], [(85 : UInt8), (112 : UInt8), (103 : UInt8), (114 : UInt8), (97 : UInt8), (100 : UInt8), (101 : UInt8)]]
def f  : Option (List (List UInt8)) := (t ).val
def F (x : D.den) : Option (List (List UInt8)) := f
def pa : D.den → (List (List UInt8)) → A.den := fun (_, _) y1 => ((y1, ()), ())
def con : Con := tcon D A pa F
theorem ok : ConOk Tryz.prog 59 con := tcon_ok Base.mixed Base.prog_ok bk_ref27_Put_ok (by kernel_rfl) LapsOk.nil 9 (fun _ => rfl) (fun x => t ) (fun _ => rfl) fun _ _ _ => (by kernel_rfl)
end ref17_Names
def bk_ref17_Names : Book := bk_ref27_Put.add 59 ref17_Names.con
theorem bk_ref17_Names_ok : BookOk Tryz.prog bk_ref17_Names := bk_ref27_Put_ok.add ref17_Names.ok
namespace ref1_Find
def D : Dom := ⟨[.vec (.pair .str .str) 30 true], (.cat (.sl 0 2) .str)⟩
namespace L3
def D : Dom := ⟨[.vec (.pair .str .str) 30 true, .vec .str 9 false], (.cat (.sl 0 2) (.cat .str (.cat (.sl 1 1) (.int .i64))))⟩
def A : Dom := text_Find.L3.A
def sel : List Nat := [0, 1, 2, 3]
def t (l : List (List UInt8 × List UInt8)) (out : List (List UInt8)) (name : List UInt8) (i : Int) : Tr ((List (List UInt8) × Int) ⊕ (List (List UInt8))) :=
 .br (decide (i < (↑l.length : Int))) (.chk ((0 : Int) ≤ i ∧ i < (↑l.length : Int)) <| .chk ((0 : Nat) + i.toNat < l.length) <| .call (ref1_Same.f ((l.getD ((0 : Nat) + i.toNat) ([], [])).fst) name) fun y1 =>
  .br y1 (.chk ((0 : Int) ≤ i ∧ i < (↑l.length : Int)) <| .chk ((0 : Nat) + i.toNat < l.length) <| .chk ((0 : Nat) + out.length ≤ out.length) <| .chk ((out.length + (1 : Nat)) * (16 : Nat) ≤ (140737488355328 : Nat)) <| .okl l.length <| .chk ((0 : Nat) = (0 : Nat) ∧ out.length + (1 : Nat) = (List.take out.length (List.drop (0 : Nat) out) ++ [(l.getD ((0 : Nat) + i.toNat) ([], [])).snd]).length) <| .ret (.inl (List.take out.length (List.drop (0 : Nat) out) ++ [(l.getD ((0 : Nat) + i.toNat) ([], [])).snd], IntKind.i64.wrap (i + (1 : Int)))))
  (.okl l.length <| .okl out.length <| .ret (.inl (out, IntKind.i64.wrap (i + (1 : Int))))))
 (.okl out.length <| .ret (.inr out))
def f (l : List (List UInt8 × List UInt8)) (out : List (List UInt8)) (name : List UInt8) (i : Int) : Option (List (List UInt8)) := Loop (fun z : List (List UInt8) × Int => t l z.1 name z.2) (out, i)
def F (x : D.den) : Option (List (List UInt8)) := f x.1.1 x.1.2.1 x.2.2.1 x.2.2.2.2
def pa : D.den → (List (List UInt8)) → A.den := fun ((l, (_, _)), (_, (_, (_, _)))) y1 => ((l, (y1, ())), ())
def lap : Lap := tlap 3 29 [0, 1, 5, 6] D (.exit 0) [5] A pa F
def pk (x : D.den) (z : List (List UInt8) × Int) : D.den := ((x.1.1, (z.1, ())), ((), (x.2.2.1, ((), z.2))))
def un (x : D.den) : List (List UInt8) × Int := (x.1.2.1, x.2.2.2.2)
def body (x : D.den) (z : List (List UInt8) × Int) : Tr ((List (List UInt8) × Int) ⊕ (List (List UInt8))) := t x.1.1 z.1 x.2.2.1 z.2
theorem ok : LapOk Tryz.prog 1 (codeOf Tryz.prog 61) lap := tlap_ok Base.mixed Base.prog_ok bk_ref17_Names_ok (by kernel_rfl) (by kernel_rfl) LapsOk.nil 9 pk un body (fun _ _ => rfl) (fun _ _ => rfl) (fun _ _ => rfl) (fun _ => rfl) fun _ _ _ _ => (by kernel_rfl)
end L3
def A : Dom := text_Find.L3.A
def sel : List Nat := [0, 1]
def t (l : List (List UInt8 × List UInt8)) (name : List UInt8) : Tr (List (List UInt8)) :=
 .okl l.length <| .call (ref1_Find.L3.f l [] name (0 : Int)) fun y1 =>
 .okl y1.length <| .ret y1
def f (l : List (List UInt8 × List UInt8)) (name : List UInt8) : Option (List (List UInt8)) := (t l name).val
def F (x : D.den) : Option (List (List UInt8)) := f x.1.1 x.2.2
def pa : D.den → (List (List UInt8)) → A.den := fun ((l, _), (_, _)) y1 => ((l, (y1, ())), ())
def con : Con := tcon D A pa F
theorem ok : ConOk Tryz.prog 61 con := tcon_ok Base.mixed Base.prog_ok bk_ref17_Names_ok (by kernel_rfl) (.cons L3.ok (by kernel_rfl) (.nil)) 9 (fun _ => rfl) (fun x => t x.1.1 x.2.2) (fun _ => rfl) fun _ _ _ => (by kernel_rfl)
end ref1_Find
def bk_ref1_Find : Book := bk_ref17_Names.add 61 ref1_Find.con
theorem bk_ref1_Find_ok : BookOk Tryz.prog bk_ref1_Find := bk_ref17_Names_ok.add ref1_Find.ok
namespace ref1_Split
def D : Dom := ⟨[], (.cat .str (.int .u8))⟩
namespace L4
def D : Dom := ⟨[.vec .str 9 false], (.cat .str (.cat (.int .u8) (.cat (.sl 0 1) (.cat (.int .i64) (.int .i64)))))⟩
def A : Dom := ⟨[.vec .str 9 false], (.sl 0 1)⟩
def sel : List Nat := [0, 1, 2, 3, 4]
def t (out : List (List UInt8)) (s : List UInt8) (c : Int) (vfrom : Int) (i : Int) : Tr ((List (List UInt8) × Int × Int) ⊕ (List (List UInt8))) :=
 .br (decide (i ≤ (↑s.length : Int))) (.br (i == (↑s.length : Int)) (.chk ((0 : Int) ≤ vfrom ∧ vfrom ≤ i ∧ i ≤ (↑s.length : Int)) <| .chk ((0 : Nat) + out.length ≤ out.length) <| .chk ((out.length + (1 : Nat)) * (16 : Nat) ≤ (140737488355328 : Nat)) <| .chk ((0 : Nat) = (0 : Nat) ∧ out.length + (1 : Nat) = (List.take out.length (List.drop (0 : Nat) out) ++ [List.drop vfrom.toNat (List.take i.toNat s)]).length) <| .ret (.inl (List.take out.length (List.drop (0 : Nat) out) ++ [List.drop vfrom.toNat (List.take i.toNat s)], IntKind.i64.wrap (i + (1 : Int)), IntKind.i64.wrap (i + (1 : Int)))))
  (.chk ((0 : Int) ≤ i ∧ i < (↑s.length : Int)) <| .br ((↑(s.getD i.toNat (0 : UInt8)).toNat : Int) == c) (.chk ((0 : Int) ≤ vfrom ∧ vfrom ≤ i ∧ i ≤ (↑s.length : Int)) <| .chk ((0 : Nat) + out.length ≤ out.length) <| .chk ((out.length + (1 : Nat)) * (16 : Nat) ≤ (140737488355328 : Nat)) <| .chk ((0 : Nat) = (0 : Nat) ∧ out.length + (1 : Nat) = (List.take out.length (List.drop (0 : Nat) out) ++ [List.drop vfrom.toNat (List.take i.toNat s)]).length) <| .ret (.inl (List.take out.length (List.drop (0 : Nat) out) ++ [List.drop vfrom.toNat (List.take i.toNat s)], IntKind.i64.wrap (i + (1 : Int)), IntKind.i64.wrap (i + (1 : Int)))))
  (.okl out.length <| .ret (.inl (out, vfrom, IntKind.i64.wrap (i + (1 : Int)))))))
 (.okl out.length <| .ret (.inr out))
def f (out : List (List UInt8)) (s : List UInt8) (c : Int) (vfrom : Int) (i : Int) : Option (List (List UInt8)) := Loop (fun z : List (List UInt8) × Int × Int => t z.1 s c z.2.1 z.2.2) (out, vfrom, i)
def F (x : D.den) : Option (List (List UInt8)) := f x.1.1 x.2.1 x.2.2.1 x.2.2.2.2.1 x.2.2.2.2.2
def pa : D.den → (List (List UInt8)) → A.den := fun ((_, _), (_, (_, (_, (_, _))))) y1 => ((y1, ()), ())
def lap : Lap := tlap 4 35 [0, 1, 5, 6, 7] D (.exit 0) [5] A pa F
def pk (x : D.den) (z : List (List UInt8) × Int × Int) : D.den := ((z.1, ()), (x.2.1, (x.2.2.1, ((), (z.2.1, z.2.2)))))
def un (x : D.den) : List (List UInt8) × Int × Int := (x.1.1, x.2.2.2.2.1, x.2.2.2.2.2)
def body (x : D.den) (z : List (List UInt8) × Int × Int) : Tr ((List (List UInt8) × Int × Int) ⊕ (List (List UInt8))) := t z.1 x.2.1 x.2.2.1 z.2.1 z.2.2
theorem ok : LapOk Tryz.prog 0 (codeOf Tryz.prog 78) lap := tlap_ok Base.mixed Base.prog_ok bk_ref1_Find_ok (by kernel_rfl) (by kernel_rfl) LapsOk.nil 9 pk un body (fun _ _ => rfl) (fun _ _ => rfl) (fun _ _ => rfl) (fun _ => rfl) fun _ _ _ _ => (by kernel_rfl)
end L4
def A : Dom := ⟨[.vec .str 9 false], (.sl 0 1)⟩
def sel : List Nat := [0, 1]
def t (s : List UInt8) (c : Int) : Tr (List (List UInt8)) :=
 .call (ref1_Split.L4.f [] s c (0 : Int) (0 : Int)) fun y1 =>
 .okl y1.length <| .ret y1
def f (s : List UInt8) (c : Int) : Option (List (List UInt8)) := (t s c).val
def F (x : D.den) : Option (List (List UInt8)) := f x.2.1 x.2.2
def pa : D.den → (List (List UInt8)) → A.den := fun (_, (_, _)) y1 => ((y1, ()), ())
def con : Con := tcon D A pa F
theorem ok : ConOk Tryz.prog 78 con := tcon_ok Base.mixed Base.prog_ok bk_ref1_Find_ok (by kernel_rfl) (.cons L4.ok (by kernel_rfl) (.nil)) 9 (fun _ => rfl) (fun x => t x.2.1 x.2.2) (fun _ => rfl) fun _ _ _ => (by kernel_rfl)
end ref1_Split
def bk_ref1_Split : Book := bk_ref1_Find.add 78 ref1_Split.con
theorem bk_ref1_Split_ok : BookOk Tryz.prog bk_ref1_Split := bk_ref1_Find_ok.add ref1_Split.ok
namespace ref1_List
def D : Dom := ⟨[.vec .str 9 true], (.sl 0 1)⟩
namespace L7
def D : Dom := ⟨[.vec .str 9 true, .vec .str 9 false, .vec .str 9 false], (.cat (.sl 0 1) (.cat (.sl 1 1) (.cat (.int .i64) (.cat (.sl 2 1) (.int .i64)))))⟩
def A : Dom := ⟨[.vec .str 9 true, .vec .str 9 false], (.cat (.sl 0 1) (.cat (.sl 1 1) (.int .i64)))⟩
def sel : List Nat := [0, 1, 2, 4]
def t (values : List (List UInt8)) (out : List (List UInt8)) (l : List (List UInt8)) (k : Int) : Tr ((List (List UInt8) × Int) ⊕ (List (List UInt8))) :=
 .br (decide (k < (↑l.length : Int))) (.chk ((0 : Int) ≤ k ∧ k < (↑l.length : Int)) <| .chk ((0 : Nat) + k.toNat < l.length) <| .call (ref1_Trim.f (l.getD ((0 : Nat) + k.toNat) [])) fun y1 =>
  .chk ((0 : Nat) + out.length ≤ out.length) <| .chk ((out.length + (1 : Nat)) * (16 : Nat) ≤ (140737488355328 : Nat)) <| .okl values.length <| .chk ((0 : Nat) = (0 : Nat) ∧ out.length + (1 : Nat) = (List.take out.length (List.drop (0 : Nat) out) ++ [y1]).length) <| .okl l.length <| .ret (.inl (List.take out.length (List.drop (0 : Nat) out) ++ [y1], IntKind.i64.wrap (k + (1 : Int)))))
 (.okl values.length <| .okl out.length <| .ret (.inr out))
def f (values : List (List UInt8)) (out : List (List UInt8)) (l : List (List UInt8)) (k : Int) : Option (List (List UInt8)) := Loop (fun z : List (List UInt8) × Int => t values z.1 l z.2) (out, k)
def F (x : D.den) : Option (List (List UInt8)) := f x.1.1 x.1.2.1 x.1.2.2.1 x.2.2.2.2.2
def pa : D.den → (List (List UInt8)) → A.den := fun ((values, (_, (_, _))), (_, (_, (i, (_, _))))) y1 => ((values, (y1, ())), ((), ((), i)))
def lap : Lap := tlap 7 33 [0, 3, 4, 5, 6] D (.exit 2) [0, 3, 4] A pa F
def pk (x : D.den) (z : List (List UInt8) × Int) : D.den := ((x.1.1, (z.1, (x.1.2.2.1, ()))), ((), ((), (x.2.2.2.1, ((), z.2)))))
def un (x : D.den) : List (List UInt8) × Int := (x.1.2.1, x.2.2.2.2.2)
def body (x : D.den) (z : List (List UInt8) × Int) : Tr ((List (List UInt8) × Int) ⊕ (List (List UInt8))) := t x.1.1 z.1 x.1.2.2.1 z.2
theorem ok : LapOk Tryz.prog 1 (codeOf Tryz.prog 60) lap := tlap_ok Base.mixed Base.prog_ok bk_ref1_Split_ok (by kernel_rfl) (by kernel_rfl) LapsOk.nil 9 pk un body (fun _ _ => rfl) (fun _ _ => rfl) (fun _ _ => rfl) (fun _ => rfl) fun _ _ _ _ => (by kernel_rfl)
end L7
namespace L3
def D : Dom := ref1_List.L7.A
def A : Dom := ⟨[.vec .str 9 true, .vec .str 9 false], (.sl 1 1)⟩
def sel : List Nat := [0, 1, 2]
def t (values : List (List UInt8)) (out : List (List UInt8)) (i : Int) : Tr ((List (List UInt8) × Int) ⊕ (List (List UInt8))) :=
 .br (decide (i < (↑values.length : Int))) (.chk ((0 : Int) ≤ i ∧ i < (↑values.length : Int)) <| .chk ((0 : Nat) + i.toNat < values.length) <| .call (ref1_Split.f (values.getD ((0 : Nat) + i.toNat) []) (44 : Int)) fun y1 =>
  .okl values.length <| .okl out.length <| .okl y1.length <| .call (ref1_List.L7.f values out y1 (0 : Int)) fun y2 =>
  .okl values.length <| .okl y2.length <| .ret (.inl (y2, IntKind.i64.wrap (i + (1 : Int)))))
 (.okl out.length <| .ret (.inr out))
def f (values : List (List UInt8)) (out : List (List UInt8)) (i : Int) : Option (List (List UInt8)) := Loop (fun z : List (List UInt8) × Int => t values z.1 z.2) (out, i)
def F (x : D.den) : Option (List (List UInt8)) := f x.1.1 x.1.2.1 x.2.2.2
def pa : D.den → (List (List UInt8)) → A.den := fun ((values, (_, _)), (_, (_, _))) y1 => ((values, (y1, ())), ())
def lap : Lap := tlap 3 33 [0, 3, 4] D (.exit 0) [3] A pa F
def pk (x : D.den) (z : List (List UInt8) × Int) : D.den := ((x.1.1, (z.1, ())), ((), ((), z.2)))
def un (x : D.den) : List (List UInt8) × Int := (x.1.2.1, x.2.2.2)
def body (x : D.den) (z : List (List UInt8) × Int) : Tr ((List (List UInt8) × Int) ⊕ (List (List UInt8))) := t x.1.1 z.1 z.2
theorem ok : LapOk Tryz.prog 1 (codeOf Tryz.prog 60) lap := tlap_ok Base.mixed Base.prog_ok bk_ref1_Split_ok (by kernel_rfl) (by kernel_rfl) (.cons L7.ok (by kernel_rfl) (.nil)) 9 pk un body (fun _ _ => rfl) (fun _ _ => rfl) (fun _ _ => rfl) (fun _ => rfl) fun _ _ _ _ => (by kernel_rfl)
end L3
def A : Dom := ⟨[.vec .str 9 true, .vec .str 9 false], (.sl 1 1)⟩
def sel : List Nat := [0]
def t (values : List (List UInt8)) : Tr (List (List UInt8)) :=
 .okl values.length <| .call (ref1_List.L3.f values [] (0 : Int)) fun y1 =>
 .okl y1.length <| .ret y1
def f (values : List (List UInt8)) : Option (List (List UInt8)) := (t values).val
def F (x : D.den) : Option (List (List UInt8)) := f x.1.1
def pa : D.den → (List (List UInt8)) → A.den := fun ((values, _), _) y1 => ((values, (y1, ())), ())
def con : Con := tcon D A pa F
theorem ok : ConOk Tryz.prog 60 con := tcon_ok Base.mixed Base.prog_ok bk_ref1_Split_ok (by kernel_rfl) (.cons L7.ok (by kernel_rfl) (.cons L3.ok (by kernel_rfl) (.nil))) 9 (fun _ => rfl) (fun x => t x.1.1) (fun _ => rfl) fun _ _ _ => (by kernel_rfl)
end ref1_List
def bk_ref1_List : Book := bk_ref1_Split.add 60 ref1_List.con
theorem bk_ref1_List_ok : BookOk Tryz.prog bk_ref1_List := bk_ref1_Split_ok.add ref1_List.ok
namespace ref17_Strip
def D : Dom := ⟨[.vec (.pair .str .str) 30 true], (.sl 0 2)⟩
namespace L4
def D : Dom := ⟨[.vec (.pair .str .str) 30 true, .vec .str 9 false, .vec .str 9 false], (.cat (.sl 0 2) (.cat (.sl 1 1) (.cat (.sl 2 1) (.int .i64))))⟩
def A : Dom := ⟨[.vec (.pair .str .str) 30 true, .vec .str 9 false], (.cat (.sl 0 2) (.sl 1 1))⟩
def sel : List Nat := [0, 1, 2, 3]
def t (l : List (List UInt8 × List UInt8)) (names : List (List UInt8)) (named : List (List UInt8)) (i : Int) : Tr ((List (List UInt8) × Int) ⊕ (List (List UInt8))) :=
 .br (decide (i < (↑named.length : Int))) (.chk ((0 : Int) ≤ i ∧ i < (↑named.length : Int)) <| .chk ((0 : Nat) + i.toNat < named.length) <| .call (ref1_Same.f (named.getD ((0 : Nat) + i.toNat) []) [(72 : UInt8), (111 : UInt8), (115 : UInt8), (116 : UInt8)]) fun y1 =>
  .br (!y1) (.chk ((0 : Int) ≤ i ∧ i < (↑named.length : Int)) <| .chk ((0 : Nat) + i.toNat < named.length) <| .call (ref1_Same.f (named.getD ((0 : Nat) + i.toNat) []) [(67 : UInt8), (111 : UInt8), (110 : UInt8), (116 : UInt8), (101 : UInt8), (110 : UInt8), (116 : UInt8), (45 : UInt8), (76 : UInt8), (101 : UInt8), (110 : UInt8), (103 : UInt8), (116 : UInt8), (104 : UInt8)]) fun y2 =>
  .br (!y2) (.chk ((0 : Int) ≤ i ∧ i < (↑named.length : Int)) <| .chk ((0 : Nat) + i.toNat < named.length) <| .chk ((0 : Nat) + names.length ≤ names.length) <| .chk ((names.length + (1 : Nat)) * (16 : Nat) ≤ (140737488355328 : Nat)) <| .okl l.length <| .chk ((0 : Nat) = (0 : Nat) ∧ names.length + (1 : Nat) = (List.take names.length (List.drop (0 : Nat) names) ++ [named.getD ((0 : Nat) + i.toNat) []]).length) <| .okl named.length <| .ret (.inl (List.take names.length (List.drop (0 : Nat) names) ++ [named.getD ((0 : Nat) + i.toNat) []], IntKind.i64.wrap (i + (1 : Int)))))
  (.okl l.length <| .okl names.length <| .okl named.length <| .ret (.inl (names, IntKind.i64.wrap (i + (1 : Int))))))
  (.okl l.length <| .okl names.length <| .okl named.length <| .ret (.inl (names, IntKind.i64.wrap (i + (1 : Int))))))
 (.okl l.length <| .okl names.length <| .ret (.inr names))
def f (l : List (List UInt8 × List UInt8)) (names : List (List UInt8)) (named : List (List UInt8)) (i : Int) : Option (List (List UInt8)) := Loop (fun z : List (List UInt8) × Int => t l z.1 named z.2) (names, i)
def F (x : D.den) : Option (List (List UInt8)) := f x.1.1 x.1.2.1 x.1.2.2.1 x.2.2.2.2
def pa : D.den → (List (List UInt8)) → A.den := fun ((l, (_, (_, _))), (_, (_, (_, _)))) y1 => ((l, (y1, ())), ((), ()))
def lap : Lap := tlap 4 40 [0, 3, 4, 5] D (.exit 0) [0, 3] A pa F
def pk (x : D.den) (z : List (List UInt8) × Int) : D.den := ((x.1.1, (z.1, (x.1.2.2.1, ()))), ((), ((), ((), z.2))))
def un (x : D.den) : List (List UInt8) × Int := (x.1.2.1, x.2.2.2.2)
def body (x : D.den) (z : List (List UInt8) × Int) : Tr ((List (List UInt8) × Int) ⊕ (List (List UInt8))) := t x.1.1 z.1 x.1.2.2.1 z.2
theorem ok : LapOk Tryz.prog 1 (codeOf Tryz.prog 39) lap := tlap_ok Base.mixed Base.prog_ok bk_ref1_List_ok (by kernel_rfl) (by kernel_rfl) LapsOk.nil 9 pk un body (fun _ _ => rfl) (fun _ _ => rfl) (fun _ _ => rfl) (fun _ => rfl) fun _ _ _ _ => (by kernel_rfl)
end L4
def A : Dom := hop_Strip.A
def sel : List Nat := [0]
def t (l : List (List UInt8 × List UInt8)) : Tr (List (List UInt8 × List UInt8)) :=
 .call (ref17_Names.f) fun y1 =>
 .chk ((0 : Nat) + l.length ≤ l.length) <| .call (ref1_Find.f (List.take l.length (List.drop (0 : Nat) l)) [(67 : UInt8), (111 : UInt8), (110 : UInt8), (110 : UInt8), (101 : UInt8), (99 : UInt8), (116 : UInt8), (105 : UInt8), (111 : UInt8), (110 : UInt8)]) fun y2 =>
 .chk ((0 : Nat) + y2.length ≤ y2.length) <| .call (ref1_List.f (List.take y2.length (List.drop (0 : Nat) y2))) fun y3 =>
 .okl l.length <| .okl y1.length <| .okl y3.length <| .call (ref17_Strip.L4.f l y1 y3 (0 : Int)) fun y4 =>
 .chk ((0 : Nat) + l.length ≤ l.length) <| .chk ((0 : Nat) + y4.length ≤ y4.length) <| .call (ref1_Without.f (List.take l.length (List.drop (0 : Nat) l)) (List.take y4.length (List.drop (0 : Nat) y4))) fun y5 =>
 .okl y5.length <| .ret y5
def f (l : List (List UInt8 × List UInt8)) : Option (List (List UInt8 × List UInt8)) := (t l).val
def F (x : D.den) : Option (List (List UInt8 × List UInt8)) := f x.1.1
def pa : D.den → (List (List UInt8 × List UInt8)) → A.den := fun ((l, _), _) y1 => ((l, (y1, ())), ())
def con : Con := tcon D A pa F
theorem ok : ConOk Tryz.prog 39 con := tcon_ok Base.mixed Base.prog_ok bk_ref1_List_ok (by kernel_rfl) (.cons L4.ok (by kernel_rfl) (.nil)) 9 (fun _ => rfl) (fun x => t x.1.1) (fun _ => rfl) fun _ _ _ => (by kernel_rfl)
end ref17_Strip
def bk_ref17_Strip : Book := bk_ref1_List.add 39 ref17_Strip.con
theorem bk_ref17_Strip_ok : BookOk Tryz.prog bk_ref17_Strip := bk_ref1_List_ok.add ref17_Strip.ok
namespace ref17_with
def D : Dom := hop_with.D
def A : Dom := hop_Strip.A
def sel : List Nat := [0, 1, 2]
def t (l : List (List UInt8 × List UInt8)) (name : List UInt8) (value : List UInt8) : Tr (List (List UInt8 × List UInt8)) :=
 .chk ((0 : Nat) + l.length ≤ l.length) <| .chk (l.length * (32 : Nat) ≤ (140737488355328 : Nat)) <| .chk ((1 : Nat) ≤ [(name, value)].length) <| .chk ((0 : Nat) + l.length ≤ ([] ++ List.take l.length (List.drop (0 : Nat) l)).length) <| .chk ((l.length + (1 : Nat)) * (32 : Nat) ≤ (140737488355328 : Nat)) <| .chk ((0 : Nat) = (0 : Nat) ∧ l.length + (1 : Nat) = (List.take l.length (List.drop (0 : Nat) ([] ++ List.take l.length (List.drop (0 : Nat) l))) ++ List.take (1 : Nat) (List.drop (0 : Nat) [(name, value)])).length) <| .ret (List.take l.length (List.drop (0 : Nat) ([] ++ List.take l.length (List.drop (0 : Nat) l))) ++ List.take (1 : Nat) (List.drop (0 : Nat) [(name, value)]))
def f (l : List (List UInt8 × List UInt8)) (name : List UInt8) (value : List UInt8) : Option (List (List UInt8 × List UInt8)) := (t l name value).val
def F (x : D.den) : Option (List (List UInt8 × List UInt8)) := f x.1.1 x.2.2.1 x.2.2.2
def pa : D.den → (List (List UInt8 × List UInt8)) → A.den := fun ((l, _), (_, (_, _))) y1 => ((l, (y1, ())), ())
def con : Con := tcon D A pa F
theorem ok : ConOk Tryz.prog 58 con := tcon_ok Base.mixed Base.prog_ok bk_ref17_Strip_ok (by kernel_rfl) LapsOk.nil 9 (fun _ => rfl) (fun x => t x.1.1 x.2.2.1 x.2.2.2) (fun _ => rfl) fun _ _ _ => (by kernel_rfl)
end ref17_with
def bk_ref17_with : Book := bk_ref17_Strip.add 58 ref17_with.con
theorem bk_ref17_with_ok : BookOk Tryz.prog bk_ref17_with := bk_ref17_Strip_ok.add ref17_with.ok
namespace ref17_Via
def D : Dom := ⟨[.vec (.pair .str .str) 30 true], (.cat (.sl 0 2) .str)⟩
def A : Dom := hop_Strip.A
def sel : List Nat := [0, 1]
def t (l : List (List UInt8 × List UInt8)) (name : List UInt8) : Tr (List (List UInt8 × List UInt8)) :=
 .chk ((↑([(49 : UInt8), (46 : UInt8), (49 : UInt8), (32 : UInt8)].length + name.length) : Int) ≤ (9223372036854775807 : Int)) <| .chk ((0 : Nat) + l.length ≤ l.length) <| .call (ref17_with.f (List.take l.length (List.drop (0 : Nat) l)) [(86 : UInt8), (105 : UInt8), (97 : UInt8)] ([(49 : UInt8), (46 : UInt8), (49 : UInt8), (32 : UInt8)] ++ name)) fun y1 =>
 .okl y1.length <| .ret y1
def f (l : List (List UInt8 × List UInt8)) (name : List UInt8) : Option (List (List UInt8 × List UInt8)) := (t l name).val
def F (x : D.den) : Option (List (List UInt8 × List UInt8)) := f x.1.1 x.2.2
def pa : D.den → (List (List UInt8 × List UInt8)) → A.den := fun ((l, _), (_, _)) y1 => ((l, (y1, ())), ())
def con : Con := tcon D A pa F
theorem ok : ConOk Tryz.prog 38 con := tcon_ok Base.mixed Base.prog_ok bk_ref17_with_ok (by kernel_rfl) LapsOk.nil 9 (fun _ => rfl) (fun x => t x.1.1 x.2.2) (fun _ => rfl) fun _ _ _ => (by kernel_rfl)
end ref17_Via
def bk_ref17_Via : Book := bk_ref17_with.add 38 ref17_Via.con
theorem bk_ref17_Via_ok : BookOk Tryz.prog bk_ref17_Via := bk_ref17_with_ok.add ref17_Via.ok
namespace ref27_Relay
def D : Dom := reply_Relay.D
def A : Dom := reply_Relay.A
def sel : List Nat := [0, 1, 3]
def t (Fields : List (List UInt8 × List UInt8)) (Body : List UInt8) (via : List UInt8) : Tr (List (List UInt8 × List UInt8)) :=
 .chk ((0 : Nat) + Fields.length ≤ Fields.length) <| .call (ref17_Strip.f (List.take Fields.length (List.drop (0 : Nat) Fields))) fun y1 =>
 .chk ((0 : Nat) + y1.length ≤ y1.length) <| .call (ref17_Via.f (List.take y1.length (List.drop (0 : Nat) y1)) via) fun y2 =>
 .okl Body.length <| .okl y2.length <| .ret y2
def f (Fields : List (List UInt8 × List UInt8)) (Body : List UInt8) (via : List UInt8) : Option (List (List UInt8 × List UInt8)) := (t Fields Body via).val
def F (x : D.den) : Option (List (List UInt8 × List UInt8)) := f x.1.1 x.1.2.1 x.2.2
def pa : D.den → (List (List UInt8 × List UInt8)) → A.den := fun ((Fields, (Body, _)), ((Code, (_, _)), _)) y1 => ((Fields, (Body, (y1, ()))), (Code, ((), ())))
def con : Con := tcon D A pa F
theorem ok : ConOk Tryz.prog 15 con := tcon_ok Base.mixed Base.prog_ok bk_ref17_Via_ok (by kernel_rfl) LapsOk.nil 9 (fun _ => rfl) (fun x => t x.1.1 x.1.2.1 x.2.2) (fun _ => rfl) fun _ _ _ => (by kernel_rfl)
end ref27_Relay
def bk_ref27_Relay : Book := bk_ref17_Via.add 15 ref27_Relay.con
theorem bk_ref27_Relay_ok : BookOk Tryz.prog bk_ref27_Relay := bk_ref17_Via_ok.add ref27_Relay.ok
namespace ref27_Error
def D : Dom := ⟨[], (.int .i64)⟩
def A : Dom := reply_Error.A
def sel : List Nat := [0]
def t (code : Int) : Tr ((List (List UInt8 × List UInt8)) × List UInt8) :=
 .call (ref27_Reason.f code) fun y1 =>
 .chk (y1.length ≤ (140737488355328 : Nat)) <| .chk ((0 : Nat) = (0 : Nat) ∧ y1.length = ([] ++ y1).length) <| .ret ([], [] ++ y1)
def f (code : Int) : Option ((List (List UInt8 × List UInt8)) × List UInt8) := (t code).val
def F (x : D.den) : Option ((List (List UInt8 × List UInt8)) × List UInt8) := f x.2
def pa : D.den → ((List (List UInt8 × List UInt8)) × List UInt8) → A.den := fun (_, code) (y1, y2) => ((y1, (y2, ())), (code, ((), ())))
def con : Con := tcon D A pa F
theorem ok : ConOk Tryz.prog 19 con := tcon_ok Base.mixed Base.prog_ok bk_ref27_Relay_ok (by kernel_rfl) LapsOk.nil 9 (fun _ => rfl) (fun x => t x.2) (fun _ => rfl) fun _ _ _ => (by kernel_rfl)
end ref27_Error
def bk_ref27_Error : Book := bk_ref27_Relay.add 19 ref27_Error.con
theorem bk_ref27_Error_ok : BookOk Tryz.prog bk_ref27_Error := bk_ref27_Relay_ok.add ref27_Error.ok
namespace ref27_Continue
def D : Dom := ⟨[], .nil⟩
def A : Dom := ⟨[.vec .byte 5 false], (.sl 0 1)⟩
def sel : List Nat := []
def t  : Tr (List UInt8) :=
 .ret [(72 : UInt8), (84 : UInt8), (84 : UInt8), (80 : UInt8), (47 : UInt8), (49 : UInt8), (46 : UInt8), (49 : UInt8), (32 : UInt8), (49 : UInt8), (48 : UInt8), (48 : UInt8), (32 : UInt8), (67 : UInt8), (111 : UInt8), (110 : UInt8), (116 : UInt8), (105 : UInt8), (110 : UInt8), (117 : UInt8), (101 : UInt8), (13 : UInt8), (10 : UInt8), (13 : UInt8), (10 : UInt8)]
def f  : Option (List UInt8) := (t ).val
def F (x : D.den) : Option (List UInt8) := f
def pa : D.den → (List UInt8) → A.den := fun (_, _) y1 => ((y1, ()), ())
def con : Con := tcon D A pa F
theorem ok : ConOk Tryz.prog 21 con := tcon_ok Base.mixed Base.prog_ok bk_ref27_Error_ok (by kernel_rfl) LapsOk.nil 9 (fun _ => rfl) (fun x => t ) (fun _ => rfl) fun _ _ _ => (by kernel_rfl)
end ref27_Continue
def bk_ref27_Continue : Book := bk_ref27_Error.add 21 ref27_Continue.con
theorem bk_ref27_Continue_ok : BookOk Tryz.prog bk_ref27_Continue := bk_ref27_Error_ok.add ref27_Continue.ok
namespace ref1_Fields
def D : Dom := ⟨[.vec (.pair .str .str) 30 true, .vec (.pair .str .str) 30 true], (.cat (.sl 0 2) (.sl 1 2))⟩
namespace L4
def D : Dom := ⟨[.vec (.pair .str .str) 30 true, .vec (.pair .str .str) 30 true], (.cat (.sl 0 2) (.cat (.sl 1 2) (.int .i64)))⟩
def A : Dom := ⟨[.vec (.pair .str .str) 30 true, .vec (.pair .str .str) 30 true], .nil⟩
def B : Dom := ⟨[.vec (.pair .str .str) 30 true, .vec (.pair .str .str) 30 true], .bool⟩
def sel : List Nat := [0, 1, 2]
def t (va : List (List UInt8 × List UInt8)) (b : List (List UInt8 × List UInt8)) (i : Int) : Tr ((Int) ⊕ ((Unit) ⊕ (Bool))) :=
 .br (decide (i < (↑va.length : Int))) (.chk ((0 : Int) ≤ i ∧ i < (↑va.length : Int)) <| .chk ((0 : Nat) + i.toNat < va.length) <| .chk ((0 : Int) ≤ i ∧ i < (↑b.length : Int)) <| .chk ((0 : Nat) + i.toNat < b.length) <| .br (!((va.getD ((0 : Nat) + i.toNat) ([], [])).fst == (b.getD ((0 : Nat) + i.toNat) ([], [])).fst && ((va.getD ((0 : Nat) + i.toNat) ([], [])).snd == (b.getD ((0 : Nat) + i.toNat) ([], [])).snd && true))) (.ret (.inr (.inr false)))
  (.okl va.length <| .okl b.length <| .ret (.inl (IntKind.i64.wrap (i + (1 : Int))))))
 (.ret (.inr (.inl ())))
def f (va : List (List UInt8 × List UInt8)) (b : List (List UInt8 × List UInt8)) (i : Int) : Option ((Unit) ⊕ (Bool)) := Loop (fun z : Int => t va b z) i
def F (x : D.den) : Option ((Unit) ⊕ (Bool)) := f x.1.1 x.1.2.1 x.2.2.2
def pa : D.den → (Unit) → A.den := fun ((va, (b, _)), (_, (_, _))) _ => ((va, (b, ())), ())
def pb : D.den → (Bool) → B.den := fun ((va, (b, _)), (_, (_, _))) y1 => ((va, (b, ())), y1)
def lap : Lap := tlap2 4 26 [0, 1, 5] D (.exit 0) [] A .ret [4] B pa pb F
def pk (x : D.den) (z : Int) : D.den := ((x.1.1, (x.1.2.1, ())), ((), ((), z)))
def un (x : D.den) : Int := x.2.2.2
def body (x : D.den) (z : Int) : Tr ((Int) ⊕ ((Unit) ⊕ (Bool))) := t x.1.1 x.1.2.1 z
theorem ok : LapOk Tryz.prog 2 (codeOf Tryz.prog 23) lap := tlap2_ok Base.mixed Base.prog_ok bk_ref27_Continue_ok (by kernel_rfl) (by kernel_rfl) LapsOk.nil 9 pk un body (fun _ _ => rfl) (fun _ _ => rfl) (fun _ _ => rfl) (fun _ _ => rfl) (fun _ => rfl) fun _ _ _ _ => (by kernel_rfl)
end L4
def A : Dom := ref1_Fields.L4.B
def sel : List Nat := [0, 1]
def t (va : List (List UInt8 × List UInt8)) (b : List (List UInt8 × List UInt8)) : Tr (Bool) :=
 .br ((↑va.length : Int) != (↑b.length : Int)) (.ret false)
 (.okl va.length <| .okl b.length <| .both (ref1_Fields.L4.f va b (0 : Int)) (fun _ => .ret true)
  (fun y2 => .ret y2))
def f (va : List (List UInt8 × List UInt8)) (b : List (List UInt8 × List UInt8)) : Option (Bool) := (t va b).val
def F (x : D.den) : Option (Bool) := f x.1.1 x.1.2.1
def pa : D.den → (Bool) → A.den := fun ((va, (b, _)), (_, _)) y1 => ((va, (b, ())), y1)
def con : Con := tcon D A pa F
theorem ok : ConOk Tryz.prog 23 con := tcon_ok Base.mixed Base.prog_ok bk_ref27_Continue_ok (by kernel_rfl) (.cons L4.ok (by kernel_rfl) (.nil)) 9 (fun _ => rfl) (fun x => t x.1.1 x.1.2.1) (fun _ => rfl) fun _ _ _ => (by kernel_rfl)
end ref1_Fields
def bk_ref1_Fields : Book := bk_ref27_Continue.add 23 ref1_Fields.con
theorem bk_ref1_Fields_ok : BookOk Tryz.prog bk_ref1_Fields := bk_ref27_Continue_ok.add ref1_Fields.ok
namespace ref25_SameReply
def D : Dom := ⟨[.vec (.pair .str .str) 30 true, .vec .byte 5 true, .vec (.pair .str .str) 30 true, .vec .byte 5 true], (.cat (.agg (.cat (.int .i64) (.cat (.sl 0 2) (.sl 1 1)))) (.agg (.cat (.int .i64) (.cat (.sl 2 2) (.sl 3 1)))))⟩
def A : Dom := ⟨[.vec (.pair .str .str) 30 true, .vec .byte 5 true, .vec (.pair .str .str) 30 true, .vec .byte 5 true], .bool⟩
def sel : List Nat := [0, 1, 2, 3, 4, 5]
def t (Fields : List (List UInt8 × List UInt8)) (Body : List UInt8) (Fields_2 : List (List UInt8 × List UInt8)) (Body_2 : List UInt8) (Code : Int) (Code_2 : Int) : Tr (Bool) :=
 .br (Code == Code_2) (.chk ((0 : Nat) + Fields.length ≤ Fields.length) <| .chk ((0 : Nat) + Fields_2.length ≤ Fields_2.length) <| .call (ref1_Fields.f (List.take Fields.length (List.drop (0 : Nat) Fields)) (List.take Fields_2.length (List.drop (0 : Nat) Fields_2))) fun y1 =>
  .br y1 (.chk ((0 : Nat) + Body.length ≤ Body.length) <| .chk ((0 : Nat) + Body_2.length ≤ Body_2.length) <| .ret (List.take Body.length (List.drop (0 : Nat) Body) == List.take Body_2.length (List.drop (0 : Nat) Body_2)))
  (.ret false))
 (.ret false)
def f (Fields : List (List UInt8 × List UInt8)) (Body : List UInt8) (Fields_2 : List (List UInt8 × List UInt8)) (Body_2 : List UInt8) (Code : Int) (Code_2 : Int) : Option (Bool) := (t Fields Body Fields_2 Body_2 Code Code_2).val
def F (x : D.den) : Option (Bool) := f x.1.1 x.1.2.1 x.1.2.2.1 x.1.2.2.2.1 x.2.1.1 x.2.2.1
def pa : D.den → (Bool) → A.den := fun ((Fields, (Body, (Fields_2, (Body_2, _)))), ((_, (_, _)), (_, (_, _)))) y1 => ((Fields, (Body, (Fields_2, (Body_2, ())))), y1)
def con : Con := tcon D A pa F
theorem ok : ConOk Tryz.prog 13 con := tcon_ok Base.mixed Base.prog_ok bk_ref1_Fields_ok (by kernel_rfl) LapsOk.nil 9 (fun _ => rfl) (fun x => t x.1.1 x.1.2.1 x.1.2.2.1 x.1.2.2.2.1 x.2.1.1 x.2.2.1) (fun _ => rfl) fun _ _ _ => (by kernel_rfl)
end ref25_SameReply
def bk_ref25_SameReply : Book := bk_ref1_Fields.add 13 ref25_SameReply.con
theorem bk_ref25_SameReply_ok : BookOk Tryz.prog bk_ref25_SameReply := bk_ref1_Fields_ok.add ref25_SameReply.ok
namespace help_Fields
def D : Dom := ⟨[.vec (.pair .str .str) 30 true], (.sl 0 2)⟩
namespace L4
def D : Dom := ⟨[.vec (.pair .str .str) 30 true], (.cat (.sl 0 2) (.int .i64))⟩
def A : Dom := ⟨[.vec (.pair .str .str) 30 true], .nil⟩
def B : Dom := ⟨[.vec (.pair .str .str) 30 true], .bool⟩
def sel : List Nat := [0, 1]
def t (l : List (List UInt8 × List UInt8)) (i : Int) : Tr ((Int) ⊕ ((Unit) ⊕ (Bool))) :=
 .br (decide (i < (↑l.length : Int))) (.chk ((0 : Int) ≤ i ∧ i < (↑l.length : Int)) <| .chk ((0 : Nat) + i.toNat < l.length) <| .chk ((0 : Int) ≤ i ∧ i < (↑l.length : Int)) <| .chk ((0 : Nat) + i.toNat < l.length) <| .br (decide (IntKind.i64.wrap ((↑(List.length (l.getD ((0 : Nat) + i.toNat) ([], [])).fst) : Int) + (↑(List.length (l.getD ((0 : Nat) + i.toNat) ([], [])).snd) : Int)) > (120 : Int))) (.ret (.inr (.inr false)))
  (.okl l.length <| .ret (.inl (IntKind.i64.wrap (i + (1 : Int))))))
 (.ret (.inr (.inl ())))
def f (l : List (List UInt8 × List UInt8)) (i : Int) : Option ((Unit) ⊕ (Bool)) := Loop (fun z : Int => t l z) i
def F (x : D.den) : Option ((Unit) ⊕ (Bool)) := f x.1.1 x.2.2
def pa : D.den → (Unit) → A.den := fun ((l, _), (_, _)) _ => ((l, ()), ())
def pb : D.den → (Bool) → B.den := fun ((l, _), (_, _)) y1 => ((l, ()), y1)
def lap : Lap := tlap2 4 27 [0, 3] D (.exit 0) [] A .ret [2] B pa pb F
def pk (x : D.den) (z : Int) : D.den := ((x.1.1, ()), ((), z))
def un (x : D.den) : Int := x.2.2
def body (x : D.den) (z : Int) : Tr ((Int) ⊕ ((Unit) ⊕ (Bool))) := t x.1.1 z
theorem ok : LapOk Tryz.prog 1 (codeOf Tryz.prog 7) lap := tlap2_ok Base.mixed Base.prog_ok bk_ref25_SameReply_ok (by kernel_rfl) (by kernel_rfl) LapsOk.nil 9 pk un body (fun _ _ => rfl) (fun _ _ => rfl) (fun _ _ => rfl) (fun _ _ => rfl) (fun _ => rfl) fun _ _ _ _ => (by kernel_rfl)
end L4
def A : Dom := ⟨[.vec (.pair .str .str) 30 true], .bool⟩
def sel : List Nat := [0]
def t (l : List (List UInt8 × List UInt8)) : Tr (Bool) :=
 .br (decide ((↑l.length : Int) > (20 : Int))) (.ret false)
 (.okl l.length <| .both (help_Fields.L4.f l (0 : Int)) (fun _ => .ret true)
  (fun y2 => .ret y2))
def f (l : List (List UInt8 × List UInt8)) : Option (Bool) := (t l).val
def F (x : D.den) : Option (Bool) := f x.1.1
def pa : D.den → (Bool) → A.den := fun ((l, _), _) y1 => ((l, ()), y1)
def con : Con := tcon D A pa F
theorem ok : ConOk Tryz.prog 7 con := tcon_ok Base.mixed Base.prog_ok bk_ref25_SameReply_ok (by kernel_rfl) (.cons L4.ok (by kernel_rfl) (.nil)) 9 (fun _ => rfl) (fun x => t x.1.1) (fun _ => rfl) fun _ _ _ => (by kernel_rfl)
end help_Fields
def bk_help_Fields : Book := bk_ref25_SameReply.add 7 help_Fields.con
theorem bk_help_Fields_ok : BookOk Tryz.prog bk_help_Fields := bk_ref25_SameReply_ok.add help_Fields.ok
namespace help_Place
def D : Dom := ⟨[], (.cat (.int .i64) (.int .i64))⟩
def A : Dom := ⟨[], (.int .i64)⟩
def sel : List Nat := [0, 1]
def t (k : Int) (n : Int) : Tr (Int) :=
 .chk (n ≠ (0 : Int)) <| .br (decide (k.tmod n < (0 : Int))) (.ret (IntKind.i64.wrap (k.tmod n + n)))
 (.ret (k.tmod n))
def f (k : Int) (n : Int) : Option (Int) := (t k n).val
def F (x : D.den) : Option (Int) := f x.2.1 x.2.2
def pa : D.den → (Int) → A.den := fun (_, (_, _)) y1 => ((), y1)
def con : Con := tcon D A pa F
theorem ok : ConOk Tryz.prog 8 con := tcon_ok Base.mixed Base.prog_ok bk_help_Fields_ok (by kernel_rfl) LapsOk.nil 9 (fun _ => rfl) (fun x => t x.2.1 x.2.2) (fun _ => rfl) fun _ _ _ => (by kernel_rfl)
end help_Place
def bk_help_Place : Book := bk_help_Fields.add 8 help_Place.con
theorem bk_help_Place_ok : BookOk Tryz.prog bk_help_Place := bk_help_Fields_ok.add help_Place.ok
end Go.Vx
end
section
set_option maxRecDepth 1000000
set_option maxHeartbeats 4000000
set_option synthInstance.maxSize 100000
set_option synthInstance.maxHeartbeats 400000
set_option linter.unusedVariables false
namespace Go.Vx
open Go Go.Vx Go.Proofs
namespace law27_known
def D : Dom := ⟨[], .nil⟩
def A : Dom := ⟨[], .bool⟩
def sel : List Nat := []
def t  : Tr (Bool) :=
 .call (reply_Error.f (404 : Int)) fun (y1a, y1b) =>
 .chk ((0 : Nat) + y1a.length ≤ y1a.length) <| .chk ((0 : Nat) + y1b.length ≤ y1b.length) <| .call (reply_Put.f (List.take y1a.length (List.drop (0 : Nat) y1a)) (List.take y1b.length (List.drop (0 : Nat) y1b)) (404 : Int) false true) fun y2 =>
 .chk ((0 : Nat) + y2.length ≤ y2.length) <| .br (List.take y2.length (List.drop (0 : Nat) y2) == [(72 : UInt8), (84 : UInt8), (84 : UInt8), (80 : UInt8), (47 : UInt8), (49 : UInt8), (46 : UInt8), (49 : UInt8), (32 : UInt8), (52 : UInt8), (48 : UInt8), (52 : UInt8), (32 : UInt8), (78 : UInt8), (111 : UInt8), (116 : UInt8), (32 : UInt8), (70 : UInt8), (111 : UInt8), (117 : UInt8), (110 : UInt8), (100 : UInt8), (13 : UInt8), (10 : UInt8), (67 : UInt8), (111 : UInt8), (110 : UInt8), (116 : UInt8), (101 : UInt8), (110 : UInt8), (116 : UInt8), (45 : UInt8), (76 : UInt8), (101 : UInt8), (110 : UInt8), (103 : UInt8)].append [(116 : UInt8), (104 : UInt8), (58 : UInt8), (32 : UInt8), (57 : UInt8), (13 : UInt8), (10 : UInt8), (67 : UInt8), (111 : UInt8), (110 : UInt8), (110 : UInt8), (101 : UInt8), (99 : UInt8), (116 : UInt8), (105 : UInt8), (111 : UInt8), (110 : UInt8), (58 : UInt8), (32 : UInt8), (99 : UInt8), (108 : UInt8), (111 : UInt8), (115 : UInt8), (101 : UInt8), (13 : UInt8), (10 : UInt8), (13 : UInt8), (10 : UInt8), (78 : UInt8), (111 : UInt8), (116 : UInt8), (32 : UInt8), (70 : UInt8), (111 : UInt8), (117 : UInt8), (110 : UInt8), (100 : UInt8)]) (.call (reply_Reason.f (999 : Int)) fun y3 =>
  .br (y3 == [(79 : UInt8), (116 : UInt8), (104 : UInt8), (101 : UInt8), (114 : UInt8)]) (.call (reply_Continue.f) fun y4 =>
  .br ((↑y4.length : Int) == (25 : Int)) (.chk ((0 : Nat) + y1a.length ≤ y1a.length) <| .chk ((0 : Nat) + y1b.length ≤ y1b.length) <| .call (reply_Right.f (List.take y1a.length (List.drop (0 : Nat) y1a)) (404 : Int)) fun y5 =>
   .br y5 (.call (reply_Right.f [] (0 : Int)) fun y6 =>
   .br (!y6) (.call (reply_Put.f [] [] (0 : Int) false false) fun y7 =>
    .br ((↑y7.length : Int) == (0 : Int)) (.chk ((0 : Nat) + y1a.length ≤ y1a.length) <| .chk ((0 : Nat) + y1b.length ≤ y1b.length) <| .call (reply_Relay.f (List.take y1a.length (List.drop (0 : Nat) y1a)) (List.take y1b.length (List.drop (0 : Nat) y1b)) [(103 : UInt8), (119 : UInt8)]) fun y8 =>
    .ret ((↑y8.length : Int) == (1 : Int)))
    (.ret false))
   (.ret false))
   (.ret false))
  (.ret false))
  (.ret false))
 (.ret false)
def f  : Option (Bool) := (t ).val
def F (x : D.den) : Option (Bool) := f
def pa : D.den → (Bool) → A.den := fun (_, _) y1 => ((), y1)
def con : Con := tcon D A pa F
theorem ok : ConOk Tryz.prog 6 con := tcon_ok Base.mixed Base.prog_ok bk_help_Place_ok (by kernel_rfl) LapsOk.nil 9 (fun _ => rfl) (fun x => t ) (fun _ => rfl) fun _ _ _ => (by kernel_rfl)
end law27_known
def bk_law27_known : Book := bk_help_Place.add 6 law27_known.con
theorem bk_law27_known_ok : BookOk Tryz.prog bk_law27_known := bk_help_Place_ok.add law27_known.ok
namespace law27_ReplyTells
def D : Dom := ⟨[], (.cat (.agg (.cat (.int .i64) (.cat (.vec (.pair .str .str)) (.vec .byte)))) (.cat (.vec .byte) (.cat (.int .i64) (.cat (.vec .byte) (.cat .bool (.cat .bool .str))))))⟩
namespace L7
def D : Dom := ⟨[.cells (.cat (.int .i64) (.cat (.vec (.pair .str .str)) (.vec .byte))) 25 false, .cells (.cat (.int .i64) (.cat (.sl 2 2) (.vec .byte))) 25 false, .vec (.pair .str .str) 30 false], (.cat (.vec .byte) (.cat (.int .i64) (.cat .bool (.cat .bool (.cat .str (.cat (.ptr 0 0 0 0) (.cat (.ptr 1 0 0 0) (.int .i64))))))))⟩
def A : Dom := ⟨[.cells (.cat (.int .i64) (.cat (.vec (.pair .str .str)) (.vec .byte))) 25 false, .cells (.cat (.int .i64) (.cat (.sl 2 2) (.vec .byte))) 25 false, .vec (.pair .str .str) 30 false], (.cat (.int .i64) (.cat .bool (.cat .bool (.cat .str (.cat (.ptr 0 0 0 0) (.ptr 1 0 0 0))))))⟩
def sel : List Nat := [5, 6, 11]
def t (Fields_2 : List (List UInt8 × List UInt8)) (l : List UInt8) (i : Int) : Tr (((List (List UInt8 × List UInt8)) × Int) ⊕ (List (List UInt8 × List UInt8))) :=
 .br (decide (i < (↑l.length : Int))) (.chk ((0 : Int) ≤ i ∧ i < (↑l.length : Int)) <| .chk (i.toNat < l.length) <| .chk ((0 : Int) ≤ (↑(UInt8.toNat (l.getD i.toNat (0 : UInt8))) : Int).tmod (6 : Int) ∧ (↑(UInt8.toNat (l.getD i.toNat (0 : UInt8))) : Int).tmod (6 : Int) < (6 : Int)) <| .chk ((0 : Nat) + ((↑(UInt8.toNat (l.getD i.toNat (0 : UInt8))) : Int).tmod (6 : Int)).toNat < (6 : Nat)) <| .chk ((1 : Nat) ≤ [(([([(65 : UInt8)], [(98 : UInt8)]), ([(99 : UInt8), (111 : UInt8), (110 : UInt8), (116 : UInt8), (101 : UInt8), (110 : UInt8), (116 : UInt8), (45 : UInt8), (108 : UInt8), (101 : UInt8), (110 : UInt8), (103 : UInt8), (116 : UInt8), (104 : UInt8)], [(57 : UInt8)]), ([(67 : UInt8), (111 : UInt8), (110 : UInt8), (110 : UInt8), (101 : UInt8), (99 : UInt8), (116 : UInt8), (105 : UInt8), (111 : UInt8), (110 : UInt8)], [(65 : UInt8)]), ([(84 : UInt8), (114 : UInt8), (97 : UInt8), (110 : UInt8), (115 : UInt8), (102 : UInt8), (101 : UInt8), (114 : UInt8), (45 : UInt8), (69 : UInt8), (110 : UInt8), (99 : UInt8), (111 : UInt8), (100 : UInt8), (105 : UInt8), (110 : UInt8), (103 : UInt8)], [(99 : UInt8), (104 : UInt8), (117 : UInt8), (110 : UInt8), (107 : UInt8), (101 : UInt8), (100 : UInt8)]), ([(85 : UInt8), (112 : UInt8), (103 : UInt8), (114 : UInt8), (97 : UInt8), (100 : UInt8), (101 : UInt8)], [(120 : UInt8)]), ([(66 : UInt8)], [(32 : UInt8), (99 : UInt8)])].getD ((0 : Nat) + ((↑(UInt8.toNat (l.getD i.toNat (0 : UInt8))) : Int).tmod (6 : Int)).toNat) ([], [])).fst, ([([(65 : UInt8)], [(98 : UInt8)]), ([(99 : UInt8), (111 : UInt8), (110 : UInt8), (116 : UInt8), (101 : UInt8), (110 : UInt8), (116 : UInt8), (45 : UInt8), (108 : UInt8), (101 : UInt8), (110 : UInt8), (103 : UInt8), (116 : UInt8), (104 : UInt8)], [(57 : UInt8)]), ([(67 : UInt8), (111 : UInt8), (110 : UInt8), (110 : UInt8), (101 : UInt8), (99 : UInt8), (116 : UInt8), (105 : UInt8), (111 : UInt8), (110 : UInt8)], [(65 : UInt8)]), ([(84 : UInt8), (114 : UInt8), (97 : UInt8), (110 : UInt8), (115 : UInt8), (102 : UInt8), (101 : UInt8), (114 : UInt8), (45 : UInt8), (69 : UInt8), (110 : UInt8), (99 : UInt8), (111 : UInt8), (100 : UInt8), (105 : UInt8), (110 : UInt8), (103 : UInt8)], [(99 : UInt8), (104 : UInt8), (117 : UInt8), (110 : UInt8), (107 : UInt8), (101 : UInt8), (100 : UInt8)]), ([(85 : UInt8), (112 : UInt8), (103 : UInt8), (114 : UInt8), (97 : UInt8), (100 : UInt8), (101 : UInt8)], [(120 : UInt8)]), ([(66 : UInt8)], [(32 : UInt8), (99 : UInt8)])].getD ((0 : Nat) + ((↑(UInt8.toNat (l.getD i.toNat (0 : UInt8))) : Int).tmod (6 : Int)).toNat) ([], [])).snd)].length) <| .chk ((0 : Nat) + Fields_2.length ≤ Fields_2.length) <| .chk ((Fields_2.length + (1 : Nat)) * (32 : Nat) ≤ (140737488355328 : Nat)) <| .chk ((0 : Nat) = (0 : Nat) ∧ Fields_2.length + (1 : Nat) = (List.take Fields_2.length (List.drop (0 : Nat) Fields_2) ++ List.take (1 : Nat) (List.drop (0 : Nat) [(([([(65 : UInt8)], [(98 : UInt8)]), ([(99 : UInt8), (111 : UInt8), (110 : UInt8), (116 : UInt8), (101 : UInt8), (110 : UInt8), (116 : UInt8), (45 : UInt8), (108 : UInt8), (101 : UInt8), (110 : UInt8), (103 : UInt8), (116 : UInt8), (104 : UInt8)], [(57 : UInt8)]), ([(67 : UInt8), (111 : UInt8), (110 : UInt8), (110 : UInt8), (101 : UInt8), (99 : UInt8), (116 : UInt8), (105 : UInt8), (111 : UInt8), (110 : UInt8)], [(65 : UInt8)]), ([(84 : UInt8), (114 : UInt8), (97 : UInt8), (110 : UInt8), (115 : UInt8), (102 : UInt8), (101 : UInt8), (114 : UInt8), (45 : UInt8), (69 : UInt8), (110 : UInt8), (99 : UInt8), (111 : UInt8), (100 : UInt8), (105 : UInt8), (110 : UInt8), (103 : UInt8)], [(99 : UInt8), (104 : UInt8), (117 : UInt8), (110 : UInt8), (107 : UInt8), (101 : UInt8), (100 : UInt8)]), ([(85 : UInt8), (112 : UInt8), (103 : UInt8), (114 : UInt8), (97 : UInt8), (100 : UInt8), (101 : UInt8)], [(120 : UInt8)]), ([(66 : UInt8)], [(32 : UInt8), (99 : UInt8)])].getD ((0 : Nat) + ((↑(UInt8.toNat (l.getD i.toNat (0 : UInt8))) : Int).tmod (6 : Int)).toNat) ([], [])).fst, ([([(65 : UInt8)], [(98 : UInt8)]), ([(99 : UInt8), (111 : UInt8), (110 : UInt8), (116 : UInt8), (101 : UInt8), (110 : UInt8), (116 : UInt8), (45 : UInt8), (108 : UInt8), (101 : UInt8), (110 : UInt8), (103 : UInt8), (116 : UInt8), (104 : UInt8)], [(57 : UInt8)]), ([(67 : UInt8), (111 : UInt8), (110 : UInt8), (110 : UInt8), (101 : UInt8), (99 : UInt8), (116 : UInt8), (105 : UInt8), (111 : UInt8), (110 : UInt8)], [(65 : UInt8)]), ([(84 : UInt8), (114 : UInt8), (97 : UInt8), (110 : UInt8), (115 : UInt8), (102 : UInt8), (101 : UInt8), (114 : UInt8), (45 : UInt8), (69 : UInt8), (110 : UInt8), (99 : UInt8), (111 : UInt8), (100 : UInt8), (105 : UInt8), (110 : UInt8), (103 : UInt8)], [(99 : UInt8), (104 : UInt8), (117 : UInt8), (110 : UInt8), (107 : UInt8), (101 : UInt8), (100 : UInt8)]), ([(85 : UInt8), (112 : UInt8), (103 : UInt8), (114 : UInt8), (97 : UInt8), (100 : UInt8), (101 : UInt8)], [(120 : UInt8)]), ([(66 : UInt8)], [(32 : UInt8), (99 : UInt8)])].getD ((0 : Nat) + ((↑(UInt8.toNat (l.getD i.toNat (0 : UInt8))) : Int).tmod (6 : Int)).toNat) ([], [])).snd)])).length) <| .ret (.inl (List.take Fields_2.length (List.drop (0 : Nat) Fields_2) ++ List.take (1 : Nat) (List.drop (0 : Nat) [(([([(65 : UInt8)], [(98 : UInt8)]), ([(99 : UInt8), (111 : UInt8), (110 : UInt8), (116 : UInt8), (101 : UInt8), (110 : UInt8), (116 : UInt8), (45 : UInt8), (108 : UInt8), (101 : UInt8), (110 : UInt8), (103 : UInt8), (116 : UInt8), (104 : UInt8)], [(57 : UInt8)]), ([(67 : UInt8), (111 : UInt8), (110 : UInt8), (110 : UInt8), (101 : UInt8), (99 : UInt8), (116 : UInt8), (105 : UInt8), (111 : UInt8), (110 : UInt8)], [(65 : UInt8)]), ([(84 : UInt8), (114 : UInt8), (97 : UInt8), (110 : UInt8), (115 : UInt8), (102 : UInt8), (101 : UInt8), (114 : UInt8), (45 : UInt8), (69 : UInt8), (110 : UInt8), (99 : UInt8), (111 : UInt8), (100 : UInt8), (105 : UInt8), (110 : UInt8), (103 : UInt8)], [(99 : UInt8), (104 : UInt8), (117 : UInt8), (110 : UInt8), (107 : UInt8), (101 : UInt8), (100 : UInt8)]), ([(85 : UInt8), (112 : UInt8), (103 : UInt8), (114 : UInt8), (97 : UInt8), (100 : UInt8), (101 : UInt8)], [(120 : UInt8)]), ([(66 : UInt8)], [(32 : UInt8), (99 : UInt8)])].getD ((0 : Nat) + ((↑(UInt8.toNat (l.getD i.toNat (0 : UInt8))) : Int).tmod (6 : Int)).toNat) ([], [])).fst, ([([(65 : UInt8)], [(98 : UInt8)]), ([(99 : UInt8), (111 : UInt8), (110 : UInt8), (116 : UInt8), (101 : UInt8), (110 : UInt8), (116 : UInt8), (45 : UInt8), (108 : UInt8), (101 : UInt8), (110 : UInt8), (103 : UInt8), (116 : UInt8), (104 : UInt8)], [(57 : UInt8)]), ([(67 : UInt8), (111 : UInt8), (110 : UInt8), (110 : UInt8), (101 : UInt8), (99 : UInt8), (116 : UInt8), (105 : UInt8), (111 : UInt8), (110 : UInt8)], [(65 : UInt8)]), ([(84 : UInt8), (114 : UInt8), (97 : UInt8), (110 : UInt8), (115 : UInt8), (102 : UInt8), (101 : UInt8), (114 : UInt8), (45 : UInt8), (69 : UInt8), (110 : UInt8), (99 : UInt8), (111 : UInt8), (100 : UInt8), (105 : UInt8), (110 : UInt8), (103 : UInt8)], [(99 : UInt8), (104 : UInt8), (117 : UInt8), (110 : UInt8), (107 : UInt8), (101 : UInt8), (100 : UInt8)]), ([(85 : UInt8), (112 : UInt8), (103 : UInt8), (114 : UInt8), (97 : UInt8), (100 : UInt8), (101 : UInt8)], [(120 : UInt8)]), ([(66 : UInt8)], [(32 : UInt8), (99 : UInt8)])].getD ((0 : Nat) + ((↑(UInt8.toNat (l.getD i.toNat (0 : UInt8))) : Int).tmod (6 : Int)).toNat) ([], [])).snd)]), IntKind.i64.wrap (i + (1 : Int)))))
 (.okl Fields_2.length <| .ret (.inr Fields_2))
def f (Fields_2 : List (List UInt8 × List UInt8)) (l : List UInt8) (i : Int) : Option (List (List UInt8 × List UInt8)) := Loop (fun z : (List (List UInt8 × List UInt8)) × Int => t z.1 l z.2) (Fields_2, i)
def F (x : D.den) : Option (List (List UInt8 × List UInt8)) := f x.1.2.2.1 x.2.1 x.2.2.2.2.2.2.2.2
def pa : D.den → (List (List UInt8 × List UInt8)) → A.den := fun (((Code, (Fields, Body)), ((Code_2, (_, Body_2)), (_, _))), (_, (code, (head, (closes, (via, (_, (_, _)))))))) y1 => (((Code, (Fields, Body)), ((Code_2, ((), Body_2)), (y1, ()))), (code, (head, (closes, (via, ((), ()))))))
def lap : Lap := tlap 7 150 [1, 2, 4, 5, 6, 7, 15, 16] D (.exit 0) [2, 4, 5, 6, 7, 15] A pa F
def pk (x : D.den) (z : (List (List UInt8 × List UInt8)) × Int) : D.den := (((x.1.1.1, (x.1.1.2.1, x.1.1.2.2)), ((x.1.2.1.1, ((), x.1.2.1.2.2)), (z.1, ()))), (x.2.1, (x.2.2.1, (x.2.2.2.1, (x.2.2.2.2.1, (x.2.2.2.2.2.1, ((), ((), z.2))))))))
def un (x : D.den) : (List (List UInt8 × List UInt8)) × Int := (x.1.2.2.1, x.2.2.2.2.2.2.2.2)
def body (x : D.den) (z : (List (List UInt8 × List UInt8)) × Int) : Tr (((List (List UInt8 × List UInt8)) × Int) ⊕ (List (List UInt8 × List UInt8))) := t z.1 x.2.1 z.2
theorem ok : LapOk Tryz.prog 0 (codeOf Tryz.prog 3) lap := tlap_ok Base.mixed Base.prog_ok bk_law27_known_ok (by kernel_rfl) (by kernel_rfl) LapsOk.nil 9 pk un body (fun _ _ => rfl) (fun _ _ => rfl) (fun _ _ => rfl) (fun _ => rfl) fun _ _ _ _ => (by kernel_rfl)
end L7
namespace L13
def D : Dom := ⟨[.cells (.cat (.int .i64) (.cat (.vec (.pair .str .str)) (.vec .byte))) 25 false, .vec (.pair (.int .i64) (.pair (.sl (.pair .str .str)) (.sl .byte))) 25 false], (.cat (.int .i64) (.cat .bool (.cat .bool (.cat .str (.cat (.ptr 0 0 0 0) (.cat (.sl 1 3) (.cat (.int .i64) (.int .i64))))))))⟩
def A : Dom := ⟨[.cells (.cat (.int .i64) (.cat (.vec (.pair .str .str)) (.vec .byte))) 25 false], (.cat (.int .i64) (.ptr 0 0 0 0))⟩
def B : Dom := ⟨[], .bool⟩
def sel : List Nat := [3, 5, 6, 7, 8, 9]
def t (t87 : List (Int × List (List UInt8 × List UInt8) × List UInt8)) (head : Bool) (closes : Bool) (via : List UInt8) (t88 : Int) (t89 : Int) : Tr ((Int) ⊕ ((Unit) ⊕ (Bool))) :=
 .br (decide (t89 < t88)) (.chk ((0 : Int) ≤ t89 ∧ t89 < (↑t87.length : Int)) <| .chk ((0 : Nat) + t89.toNat < t87.length) <| .call (reply_Put.f ((t87.getD ((0 : Nat) + t89.toNat) ((0 : Int), [], [])).snd.fst) ((t87.getD ((0 : Nat) + t89.toNat) ((0 : Int), [], [])).snd.snd) ((t87.getD ((0 : Nat) + t89.toNat) ((0 : Int), [], [])).fst) head closes) fun y1 =>
  .chk ((0 : Nat) + y1.length ≤ y1.length) <| .call (ref27_Put.f ((t87.getD ((0 : Nat) + t89.toNat) ((0 : Int), [], [])).snd.fst) ((t87.getD ((0 : Nat) + t89.toNat) ((0 : Int), [], [])).snd.snd) ((t87.getD ((0 : Nat) + t89.toNat) ((0 : Int), [], [])).fst) head closes) fun y2 =>
  .chk ((0 : Nat) + y2.length ≤ y2.length) <| .br (!List.take y1.length (List.drop (0 : Nat) y1) == List.take y2.length (List.drop (0 : Nat) y2)) (.ret (.inr (.inr false)))
  (.call (reply_Right.f ((t87.getD ((0 : Nat) + t89.toNat) ((0 : Int), [], [])).snd.fst) ((t87.getD ((0 : Nat) + t89.toNat) ((0 : Int), [], [])).fst)) fun y3 =>
  .call (ref27_Right.f ((t87.getD ((0 : Nat) + t89.toNat) ((0 : Int), [], [])).snd.fst) ((t87.getD ((0 : Nat) + t89.toNat) ((0 : Int), [], [])).snd.snd) ((t87.getD ((0 : Nat) + t89.toNat) ((0 : Int), [], [])).fst)) fun y4 =>
  .br (!y3 == y4) (.ret (.inr (.inr false)))
  (.call (reply_Relay.f ((t87.getD ((0 : Nat) + t89.toNat) ((0 : Int), [], [])).snd.fst) ((t87.getD ((0 : Nat) + t89.toNat) ((0 : Int), [], [])).snd.snd) via) fun y5 =>
   .chk ((0 : Nat) + List.length (t87.getD ((0 : Nat) + t89.toNat) ((0 : Int), [], [])).snd.snd ≤ List.length (t87.getD ((0 : Nat) + t89.toNat) ((0 : Int), [], [])).snd.snd) <| .call (ref27_Relay.f ((t87.getD ((0 : Nat) + t89.toNat) ((0 : Int), [], [])).snd.fst) ((t87.getD ((0 : Nat) + t89.toNat) ((0 : Int), [], [])).snd.snd) via) fun y6 =>
   .chk ((0 : Nat) + List.length (t87.getD ((0 : Nat) + t89.toNat) ((0 : Int), [], [])).snd.snd ≤ List.length (t87.getD ((0 : Nat) + t89.toNat) ((0 : Int), [], [])).snd.snd) <| .chk ((0 : Nat) + y5.length ≤ y5.length) <| .chk ((0 : Nat) + y6.length ≤ y6.length) <| .call (ref25_SameReply.f (List.take y5.length (List.drop (0 : Nat) y5)) (List.take (List.length (t87.getD ((0 : Nat) + t89.toNat) ((0 : Int), [], [])).snd.snd) (List.drop (0 : Nat) (t87.getD ((0 : Nat) + t89.toNat) ((0 : Int), [], [])).snd.snd)) (List.take y6.length (List.drop (0 : Nat) y6)) (List.take (List.length (t87.getD ((0 : Nat) + t89.toNat) ((0 : Int), [], [])).snd.snd) (List.drop (0 : Nat) (t87.getD ((0 : Nat) + t89.toNat) ((0 : Int), [], [])).snd.snd)) ((t87.getD ((0 : Nat) + t89.toNat) ((0 : Int), [], [])).fst) ((t87.getD ((0 : Nat) + t89.toNat) ((0 : Int), [], [])).fst)) fun y7 =>
   .br (!y7) (.ret (.inr (.inr false)))
   (.okl t87.length <| .ret (.inl (IntKind.i64.wrap (t89 + (1 : Int))))))))
 (.ret (.inr (.inl ())))
def f (t87 : List (Int × List (List UInt8 × List UInt8) × List UInt8)) (head : Bool) (closes : Bool) (via : List UInt8) (t88 : Int) (t89 : Int) : Option ((Unit) ⊕ (Bool)) := Loop (fun z : Int => t t87 head closes via t88 z) t89
def F (x : D.den) : Option ((Unit) ⊕ (Bool)) := f x.1.2.1 x.2.2.1 x.2.2.2.1 x.2.2.2.2.1 x.2.2.2.2.2.2.2.1 x.2.2.2.2.2.2.2.2
def pa : D.den → (Unit) → A.den := fun (((Code, (Fields, Body)), (_, _)), (code, (_, (_, (_, (_, (_, (_, _)))))))) _ => (((Code, (Fields, Body)), ()), (code, ()))
def pb : D.den → (Bool) → B.den := fun (((_, (_, _)), (_, _)), (_, (_, (_, (_, (_, (_, (_, _)))))))) y1 => ((), y1)
def lap : Lap := tlap2 13 150 [2, 4, 5, 6, 15, 87, 88, 89] D (.exit 2) [2, 15] A .ret [14] B pa pb F
def pk (x : D.den) (z : Int) : D.den := (((x.1.1.1, (x.1.1.2.1, x.1.1.2.2)), (x.1.2.1, ())), (x.2.1, (x.2.2.1, (x.2.2.2.1, (x.2.2.2.2.1, ((), ((), (x.2.2.2.2.2.2.2.1, z))))))))
def un (x : D.den) : Int := x.2.2.2.2.2.2.2.2
def body (x : D.den) (z : Int) : Tr ((Int) ⊕ ((Unit) ⊕ (Bool))) := t x.1.2.1 x.2.2.1 x.2.2.2.1 x.2.2.2.2.1 x.2.2.2.2.2.2.2.1 z
theorem ok : LapOk Tryz.prog 0 (codeOf Tryz.prog 3) lap := tlap2_ok Base.mixed Base.prog_ok bk_law27_known_ok (by kernel_rfl) (by kernel_rfl) LapsOk.nil 9 pk un body (fun _ _ => rfl) (fun _ _ => rfl) (fun _ _ => rfl) (fun _ _ => rfl) (fun _ => rfl) fun _ _ _ _ => (by kernel_rfl)
end L13
def A : Dom := ⟨[], .bool⟩
def sel : List Nat := [0, 1, 2, 3, 4, 5, 6, 7, 8]
def t (Code : Int) (Fields : List (List UInt8 × List UInt8)) (Body : List UInt8) (l : List UInt8) (code : Int) (body : List UInt8) (head : Bool) (closes : Bool) (via : List UInt8) : Tr (Bool) :=
 .call (law27_known.f) fun y1 =>
 .br (!y1) (.ret false)
 (.call (help_Fields.f Fields) fun y2 =>
  .br (!y2) (.ret true)
  (.br (decide ((↑Body.length : Int) > (100 : Int))) (.ret true)
  (.br (decide ((↑l.length : Int) > (10 : Int))) (.ret true)
   (.br (decide ((↑body.length : Int) > (60 : Int))) (.ret true)
   (.br (decide ((↑via.length : Int) > (30 : Int))) (.ret true)
    (.call (help_Place.f code (400 : Int)) fun y3 =>
    .call (law27_ReplyTells.L7.f [] l (0 : Int)) fun y4 =>
    .call (help_Place.f code (7 : Int)) fun y5 =>
    .chk ((0 : Int) ≤ y5 ∧ y5 < (7 : Int)) <| .chk (((0 : Nat) + y5.toNat) * (1 : Nat) < (7 : Nat)) <| .chk ((0 : Nat) + y4.length ≤ y4.length) <| .chk ((0 : Nat) + y4.length ≤ y4.length) <| .chk ((0 : Nat) + y4.length ≤ y4.length) <| .chk ((0 : Nat) = (0 : Nat) ∧ (3 : Nat) = [(Code, Fields, Body), (IntKind.i64.wrap ((200 : Int) + y3), List.take y4.length (List.drop (0 : Nat) y4), body), ([(200 : Int), (204 : Int), (304 : Int), (404 : Int), (503 : Int), (199 : Int), (600 : Int)].getD (((0 : Nat) + y5.toNat) * (1 : Nat)) (0 : Int), List.take y4.length (List.drop (0 : Nat) y4), body)].length) <| .both (law27_ReplyTells.L13.f [(Code, Fields, Body), (IntKind.i64.wrap ((200 : Int) + y3), List.take y4.length (List.drop (0 : Nat) y4), body), ([(200 : Int), (204 : Int), (304 : Int), (404 : Int), (503 : Int), (199 : Int), (600 : Int)].getD (((0 : Nat) + y5.toNat) * (1 : Nat)) (0 : Int), List.take y4.length (List.drop (0 : Nat) y4), body)] head closes via (3 : Int) (0 : Int)) (fun _ => .call (reply_Reason.f code) fun y7 =>
     .call (ref27_Reason.f code) fun y8 =>
     .br (y7 == y8) (.call (reply_Reason.f (IntKind.i64.wrap ((200 : Int) + y3))) fun y9 =>
     .call (ref27_Reason.f (IntKind.i64.wrap ((200 : Int) + y3))) fun y10 =>
     .br (y9 == y10) (.call (reply_Error.f code) fun (y11a, y11b) =>
      .call (ref27_Error.f code) fun (y12a, y12b) =>
      .chk ((0 : Nat) + y11a.length ≤ y11a.length) <| .chk ((0 : Nat) + y11b.length ≤ y11b.length) <| .chk ((0 : Nat) + y12a.length ≤ y12a.length) <| .chk ((0 : Nat) + y12b.length ≤ y12b.length) <| .call (ref25_SameReply.f (List.take y11a.length (List.drop (0 : Nat) y11a)) (List.take y11b.length (List.drop (0 : Nat) y11b)) (List.take y12a.length (List.drop (0 : Nat) y12a)) (List.take y12b.length (List.drop (0 : Nat) y12b)) code code) fun y13 =>
      .br y13 (.call (reply_Continue.f) fun y14 =>
      .chk ((0 : Nat) + y14.length ≤ y14.length) <| .call (ref27_Continue.f) fun y15 =>
      .chk ((0 : Nat) + y15.length ≤ y15.length) <| .ret (List.take y14.length (List.drop (0 : Nat) y14) == List.take y15.length (List.drop (0 : Nat) y15)))
      (.ret false))
     (.ret false))
     (.ret false))
    (fun y16 => .ret y16)))))))
def f (Code : Int) (Fields : List (List UInt8 × List UInt8)) (Body : List UInt8) (l : List UInt8) (code : Int) (body : List UInt8) (head : Bool) (closes : Bool) (via : List UInt8) : Option (Bool) := (t Code Fields Body l code body head closes via).val
def F (x : D.den) : Option (Bool) := f x.2.1.1 x.2.1.2.1 x.2.1.2.2 x.2.2.1 x.2.2.2.1 x.2.2.2.2.1 x.2.2.2.2.2.1 x.2.2.2.2.2.2.1 x.2.2.2.2.2.2.2
def pa : D.den → (Bool) → A.den := fun (_, ((_, (_, _)), (_, (_, (_, (_, (_, _))))))) y1 => ((), y1)
def con : Con := tcon D A pa F
theorem ok : ConOk Tryz.prog 3 con := tcon_ok Base.mixed Base.prog_ok bk_law27_known_ok (by kernel_rfl) (.cons L7.ok (by kernel_rfl) (.cons L13.ok (by kernel_rfl) (.nil))) 9 (fun _ => rfl) (fun x => t x.2.1.1 x.2.1.2.1 x.2.1.2.2 x.2.2.1 x.2.2.2.1 x.2.2.2.2.1 x.2.2.2.2.2.1 x.2.2.2.2.2.2.1 x.2.2.2.2.2.2.2) (fun _ => rfl) fun _ _ _ => (by kernel_rfl)
theorem law_ok (h : ∀ x, (lawCon [(.pair (.int .i64) (.pair (.sl (.pair .str .str)) (.sl .byte))), (.sl .byte), (.int .i64), (.sl .byte), .bool, .bool, .str]).pre x → F x = some true) : ConOk Tryz.prog 3 (lawCon [(.pair (.int .i64) (.pair (.sl (.pair .str .str)) (.sl .byte))), (.sl .byte), (.int .i64), (.sl .byte), .bool, .bool, .str]) := Go.Vx.law_ok ok h
end law27_ReplyTells
end Go.Vx
end
