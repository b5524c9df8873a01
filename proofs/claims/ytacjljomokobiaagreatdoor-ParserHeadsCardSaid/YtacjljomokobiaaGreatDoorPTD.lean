/- Printed by a program of ours out of our texts: the evaluator, the printed functions, the plain laws. (A help: no statement of the seat is proved here.) -/
import Derived.Test.YtacjljomokobiaaGreatDoorPTC
section
set_option maxRecDepth 1000000
set_option linter.unusedVariables false
namespace Go.Vx
open Go Go.Vx Go.Proofs
namespace text_Find
def D : Dom := ⟨[.vec (.pair .str .str) 72 true], (.cat (.sl 0 2) .str)⟩
namespace L3
def D : Dom := ⟨[.vec (.pair .str .str) 72 true, .vec .str 9 false], (.cat .str (.cat (.sl 1 1) (.cat (.sl 0 2) (.cat (.int .i64) (.int .i64)))))⟩
def A : Dom := ⟨[.vec (.pair .str .str) 72 true, .vec .str 9 false], (.sl 1 1)⟩
def sel : List Nat := [0, 1, 2, 3, 4]
def t (l : List (List UInt8 × List UInt8)) (out : List (List UInt8)) (name : List UInt8) (t9 : Int) (t10 : Int) : Tr ((List (List UInt8) × Int) ⊕ (List (List UInt8))) :=
 .br (decide (t10 < t9)) (.chk ((0 : Int) ≤ t10 ∧ t10 < (↑l.length : Int)) <| .chk ((0 : Nat) + t10.toNat < l.length) <| .call (text_Same.f ((l.getD ((0 : Nat) + t10.toNat) ([], [])).fst) name) fun y1 =>
  .br y1 (.chk ((0 : Nat) + out.length ≤ out.length) <| .chk ((out.length + (1 : Nat)) * (16 : Nat) ≤ (140737488355328 : Nat)) <| .okl l.length <| .chk ((0 : Nat) = (0 : Nat) ∧ out.length + (1 : Nat) = (List.take out.length (List.drop (0 : Nat) out) ++ [(l.getD ((0 : Nat) + t10.toNat) ([], [])).snd]).length) <| .ret (.inl (List.take out.length (List.drop (0 : Nat) out) ++ [(l.getD ((0 : Nat) + t10.toNat) ([], [])).snd], IntKind.i64.wrap (t10 + (1 : Int)))))
  (.okl l.length <| .okl out.length <| .ret (.inl (out, IntKind.i64.wrap (t10 + (1 : Int))))))
 (.okl out.length <| .ret (.inr out))
def f (l : List (List UInt8 × List UInt8)) (out : List (List UInt8)) (name : List UInt8) (t9 : Int) (t10 : Int) : Option (List (List UInt8)) := Loop (fun z : List (List UInt8) × Int => t l z.1 name t9 z.2) (out, t10)
def F (x : D.den) : Option (List (List UInt8)) := f x.1.1 x.1.2.1 x.2.1 x.2.2.2.2.1 x.2.2.2.2.2
def pa : D.den → (List (List UInt8)) → A.den := fun ((l, (_, _)), (_, (_, (_, (_, _))))) y1 => ((l, (y1, ())), ())
def lap : Lap := tlap 3 25 [1, 5, 8, 9, 10] D (.exit 0) [5] A pa F
def pk (x : D.den) (z : List (List UInt8) × Int) : D.den := ((x.1.1, (z.1, ())), (x.2.1, ((), ((), (x.2.2.2.2.1, z.2)))))
def un (x : D.den) : List (List UInt8) × Int := (x.1.2.1, x.2.2.2.2.2)
def body (x : D.den) (z : List (List UInt8) × Int) : Tr ((List (List UInt8) × Int) ⊕ (List (List UInt8))) := t x.1.1 z.1 x.2.1 x.2.2.2.2.1 z.2
theorem ok : LapOk Tryz.prog 1 (codeOf Tryz.prog 119) lap := tlap_ok Base.mixed Base.prog_ok bk_parser_Parser_request_ok (by kernel_rfl) (by kernel_rfl) LapsOk.nil 9 pk un body (fun _ _ => rfl) (fun _ _ => rfl) (fun _ _ => rfl) (fun _ => rfl) fun _ _ _ _ => (by kernel_rfl)
end L3
def A : Dom := ⟨[.vec (.pair .str .str) 72 true, .vec .str 9 false], (.sl 1 1)⟩
def sel : List Nat := [0, 1]
def t (l : List (List UInt8 × List UInt8)) (name : List UInt8) : Tr (List (List UInt8)) :=
 .okl l.length <| .call (text_Find.L3.f l [] name (↑l.length : Int) (0 : Int)) fun y1 =>
 .okl y1.length <| .ret y1
def f (l : List (List UInt8 × List UInt8)) (name : List UInt8) : Option (List (List UInt8)) := (t l name).val
def F (x : D.den) : Option (List (List UInt8)) := f x.1.1 x.2.2
def pa : D.den → (List (List UInt8)) → A.den := fun ((l, _), (_, _)) y1 => ((l, (y1, ())), ())
def con : Con := tcon D A pa F
theorem ok : ConOk Tryz.prog 119 con := tcon_ok Base.mixed Base.prog_ok bk_parser_Parser_request_ok (by kernel_rfl) (.cons L3.ok (by kernel_rfl) (.nil)) 9 (fun _ => rfl) (fun x => t x.1.1 x.2.2) (fun _ => rfl) fun _ _ _ => (by kernel_rfl)
end text_Find
def bk_text_Find : Book := bk_parser_Parser_request.add 119 text_Find.con
theorem bk_text_Find_ok : BookOk Tryz.prog bk_text_Find := bk_parser_Parser_request_ok.add text_Find.ok
namespace framing_Hosts_1
def D : Dom := ⟨[], .str⟩
def A : Dom := ⟨[], .bool⟩
def sel : List Nat := [0]
def t (s : List UInt8) : Tr (Bool) :=
 .call (target_Host.f s) fun y1 =>
 .ret (!y1)
def f (s : List UInt8) : Option (Bool) := (t s).val
def F (x : D.den) : Option (Bool) := f x.2
def pa : D.den → (Bool) → A.den := fun (_, _) y1 => ((), y1)
def con : Con := tcon D A pa F
theorem ok : ConOk Tryz.prog 152 con := tcon_ok Base.mixed Base.prog_ok bk_text_Find_ok (by kernel_rfl) LapsOk.nil 9 (fun _ => rfl) (fun x => t x.2) (fun _ => rfl) fun _ _ _ => (by kernel_rfl)
end framing_Hosts_1
def bk_framing_Hosts_1 : Book := bk_text_Find.add 152 framing_Hosts_1.con
theorem bk_framing_Hosts_1_ok : BookOk Tryz.prog bk_framing_Hosts_1 := bk_text_Find_ok.add framing_Hosts_1.ok
namespace slices_IndexFunc_f_framing_Hosts_1
def D : Dom := ⟨[.vec .str 9 true], (.cat (.sl 0 1) (.lit (.func (.func 152) [] [])))⟩
namespace L2
def D : Dom := ⟨[.vec .str 9 true], (.cat (.sl 0 1) (.cat (.lit (.func (.func 152) [] [])) (.cat (.int .i64) (.int .i64))))⟩
def A : Dom := ⟨[.vec .str 9 true], .nil⟩
def B : Dom := ⟨[.vec .str 9 true], (.int .i64)⟩
def sel : List Nat := [0, 1, 2]
def t (s : List (List UInt8)) (t7 : Int) (t8 : Int) : Tr ((Int) ⊕ ((Unit) ⊕ (Int))) :=
 .br (decide (t8 < t7)) (.chk ((0 : Int) ≤ t8 ∧ t8 < (↑s.length : Int)) <| .chk ((0 : Nat) + t8.toNat < s.length) <| .call (framing_Hosts_1.f (s.getD ((0 : Nat) + t8.toNat) [])) fun y1 =>
  .br y1 (.ret (.inr (.inr t8)))
  (.okl s.length <| .ret (.inl (IntKind.i64.wrap (t8 + (1 : Int))))))
 (.ret (.inr (.inl ())))
def f (s : List (List UInt8)) (t7 : Int) (t8 : Int) : Option ((Unit) ⊕ (Int)) := Loop (fun z : Int => t s t7 z) t8
def F (x : D.den) : Option ((Unit) ⊕ (Int)) := f x.1.1 x.2.2.2.1 x.2.2.2.2
def pa : D.den → (Unit) → A.den := fun ((s, _), (_, (_, (_, _)))) _ => ((s, ()), ())
def pb : D.den → (Int) → B.den := fun ((s, _), (_, (_, (_, _)))) y1 => ((s, ()), y1)
def lap : Lap := tlap2 2 19 [0, 1, 7, 8] D (.exit 0) [] A .ret [4] B pa pb F
def pk (x : D.den) (z : Int) : D.den := ((x.1.1, ()), ((), ((), (x.2.2.2.1, z))))
def un (x : D.den) : Int := x.2.2.2.2
def body (x : D.den) (z : Int) : Tr ((Int) ⊕ ((Unit) ⊕ (Int))) := t x.1.1 x.2.2.2.1 z
theorem ok : LapOk Tryz.prog 1 (codeOf Tryz.prog 190) lap := tlap2_ok Base.mixed Base.prog_ok bk_framing_Hosts_1_ok (by kernel_rfl) (by kernel_rfl) LapsOk.nil 9 pk un body (fun _ _ => rfl) (fun _ _ => rfl) (fun _ _ => rfl) (fun _ _ => rfl) (fun _ => rfl) fun _ _ _ _ => (by kernel_rfl)
end L2
def A : Dom := ⟨[.vec .str 9 true], (.int .i64)⟩
def sel : List Nat := [0]
def t (s : List (List UInt8)) : Tr (Int) :=
 .okl s.length <| .both (slices_IndexFunc_f_framing_Hosts_1.L2.f s (↑s.length : Int) (0 : Int)) (fun _ => .ret (-1 : Int))
 (fun y2 => .ret y2)
def f (s : List (List UInt8)) : Option (Int) := (t s).val
def F (x : D.den) : Option (Int) := f x.1.1
def pa : D.den → (Int) → A.den := fun ((s, _), (_, _)) y1 => ((s, ()), y1)
def con : Con := tcon D A pa F
theorem ok : ConOk Tryz.prog 190 con := tcon_ok Base.mixed Base.prog_ok bk_framing_Hosts_1_ok (by kernel_rfl) (.cons L2.ok (by kernel_rfl) (.nil)) 9 (fun _ => rfl) (fun x => t x.1.1) (fun _ => rfl) fun _ _ _ => (by kernel_rfl)
end slices_IndexFunc_f_framing_Hosts_1
def bk_slices_IndexFunc_f_framing_Hosts_1 : Book := bk_framing_Hosts_1.addS 190 (fun a => isFunc 1 152 a) slices_IndexFunc_f_framing_Hosts_1.con
theorem bk_slices_IndexFunc_f_framing_Hosts_1_ok : BookOk Tryz.prog bk_slices_IndexFunc_f_framing_Hosts_1 := bk_framing_Hosts_1_ok.addS slices_IndexFunc_f_framing_Hosts_1.ok
namespace slices_ContainsFunc_f_framing_Hosts_1
def D : Dom := ⟨[.vec .str 9 true], (.cat (.sl 0 1) (.lit (.func (.func 152) [] [])))⟩
def A : Dom := ⟨[.vec .str 9 true], .bool⟩
def sel : List Nat := [0]
def t (s : List (List UInt8)) : Tr (Bool) :=
 .chk ((0 : Nat) + s.length ≤ s.length) <| .call (slices_IndexFunc_f_framing_Hosts_1.f (List.take s.length (List.drop (0 : Nat) s))) fun y1 =>
 .ret (decide (y1 ≥ (0 : Int)))
def f (s : List (List UInt8)) : Option (Bool) := (t s).val
def F (x : D.den) : Option (Bool) := f x.1.1
def pa : D.den → (Bool) → A.den := fun ((s, _), (_, _)) y1 => ((s, ()), y1)
def con : Con := tcon D A pa F
theorem ok : ConOk Tryz.prog 151 con := tcon_ok Base.mixed Base.prog_ok bk_slices_IndexFunc_f_framing_Hosts_1_ok (by kernel_rfl) LapsOk.nil 9 (fun _ => rfl) (fun x => t x.1.1) (fun _ => rfl) fun _ _ _ => (by kernel_rfl)
end slices_ContainsFunc_f_framing_Hosts_1
def bk_slices_ContainsFunc_f_framing_Hosts_1 : Book := bk_slices_IndexFunc_f_framing_Hosts_1.addS 151 (fun a => isFunc 1 152 a) slices_ContainsFunc_f_framing_Hosts_1.con
theorem bk_slices_ContainsFunc_f_framing_Hosts_1_ok : BookOk Tryz.prog bk_slices_ContainsFunc_f_framing_Hosts_1 := bk_slices_IndexFunc_f_framing_Hosts_1_ok.addS slices_ContainsFunc_f_framing_Hosts_1.ok
namespace framing_Hosts
def D : Dom := ⟨[.vec (.pair .str .str) 72 true], (.cat (.int .u32) (.cat (.int .i64) (.sl 0 2)))⟩
def A : Dom := ⟨[.vec (.pair .str .str) 72 true], (.int .i64)⟩
def sel : List Nat := [0, 1, 2]
def t (l : List (List UInt8 × List UInt8)) (p : Int) (minor : Int) : Tr (Int) :=
 .chk ((0 : Nat) + l.length ≤ l.length) <| .call (text_Find.f (List.take l.length (List.drop (0 : Nat) l)) [(72 : UInt8), (111 : UInt8), (115 : UInt8), (116 : UInt8)]) fun y1 =>
 .br ((↑y1.length : Int) == (0 : Int)) (.br (minor != (1 : Int)) (.chk ((0 : Nat) + y1.length ≤ y1.length) <| .call (slices_ContainsFunc_f_framing_Hosts_1.f (List.take y1.length (List.drop (0 : Nat) y1))) fun y2 =>
  .br y2 (.ret (400 : Int))
  (.ret (0 : Int)))
  (.call (quirks_Has.f p (15 : Int)) fun y3 =>
  .br (!y3) (.ret (400 : Int))
  (.chk ((0 : Nat) + y1.length ≤ y1.length) <| .call (slices_ContainsFunc_f_framing_Hosts_1.f (List.take y1.length (List.drop (0 : Nat) y1))) fun y4 =>
   .br y4 (.ret (400 : Int))
   (.ret (0 : Int)))))
 (.br (decide ((↑y1.length : Int) > (1 : Int))) (.call (quirks_Has.f p (16 : Int)) fun y5 =>
  .br (!y5) (.ret (400 : Int))
  (.chk ((0 : Nat) + y1.length ≤ y1.length) <| .call (slices_ContainsFunc_f_framing_Hosts_1.f (List.take y1.length (List.drop (0 : Nat) y1))) fun y6 =>
   .br y6 (.ret (400 : Int))
   (.ret (0 : Int))))
  (.br (!(↑y1.length : Int) == (1 : Int)) (.ret (400 : Int))
  (.chk ((0 : Nat) + y1.length ≤ y1.length) <| .call (slices_ContainsFunc_f_framing_Hosts_1.f (List.take y1.length (List.drop (0 : Nat) y1))) fun y7 =>
   .br y7 (.ret (400 : Int))
   (.ret (0 : Int)))))
def f (l : List (List UInt8 × List UInt8)) (p : Int) (minor : Int) : Option (Int) := (t l p minor).val
def F (x : D.den) : Option (Int) := f x.1.1 x.2.1 x.2.2.1
def pa : D.den → (Int) → A.den := fun ((l, _), (_, (_, _))) y1 => ((l, ()), y1)
def con : Con := tcon D A pa F
theorem ok : ConOk Tryz.prog 118 con := tcon_ok Base.mixed Base.prog_ok bk_slices_ContainsFunc_f_framing_Hosts_1_ok (by kernel_rfl) LapsOk.nil 9 (fun _ => rfl) (fun x => t x.1.1 x.2.1 x.2.2.1) (fun _ => rfl) fun _ _ _ => (by kernel_rfl)
end framing_Hosts
def bk_framing_Hosts : Book := bk_slices_ContainsFunc_f_framing_Hosts_1.add 118 framing_Hosts.con
theorem bk_framing_Hosts_ok : BookOk Tryz.prog bk_framing_Hosts := bk_slices_ContainsFunc_f_framing_Hosts_1_ok.add framing_Hosts.ok
namespace internal_stringslite_Index_sx2c
def D : Dom := ⟨[], (.cat .str (.lit (.str false [44])))⟩
def A : Dom := ⟨[], (.int .i64)⟩
def sel : List Nat := [0]
def t (s : List UInt8) : Tr (Int) :=
 .br ([(44 : UInt8)] == s) (.ret (0 : Int))
 (.call (slite_IndexByte.f s (44 : Int)) fun y1 =>
  .ret y1)
def f (s : List UInt8) : Option (Int) := (t s).val
def F (x : D.den) : Option (Int) := f x.2.1
def pa : D.den → (Int) → A.den := fun (_, (_, _)) y1 => ((), y1)
def con : Con := tcon D A pa F
theorem ok : ConOk Tryz.prog 195 con := tcon_ok Base.mixed Base.prog_ok bk_framing_Hosts_ok (by kernel_rfl) LapsOk.nil 9 (fun _ => rfl) (fun x => t x.2.1) (fun _ => rfl) fun _ _ _ => (by kernel_rfl)
end internal_stringslite_Index_sx2c
def bk_internal_stringslite_Index_sx2c : Book := bk_framing_Hosts.addS 195 (fun a => isStr 1 [44] a) internal_stringslite_Index_sx2c.con
theorem bk_internal_stringslite_Index_sx2c_ok : BookOk Tryz.prog bk_internal_stringslite_Index_sx2c := bk_framing_Hosts_ok.addS internal_stringslite_Index_sx2c.ok
namespace strings_Index_sx2c
def D : Dom := ⟨[], (.cat .str (.lit (.str false [44])))⟩
def A : Dom := ⟨[], (.int .i64)⟩
def sel : List Nat := [0]
def t (s : List UInt8) : Tr (Int) :=
 .call (internal_stringslite_Index_sx2c.f s) fun y1 =>
 .ret y1
def f (s : List UInt8) : Option (Int) := (t s).val
def F (x : D.den) : Option (Int) := f x.2.1
def pa : D.den → (Int) → A.den := fun (_, (_, _)) y1 => ((), y1)
def con : Con := tcon D A pa F
theorem ok : ConOk Tryz.prog 209 con := tcon_ok Base.mixed Base.prog_ok bk_internal_stringslite_Index_sx2c_ok (by kernel_rfl) LapsOk.nil 9 (fun _ => rfl) (fun x => t x.2.1) (fun _ => rfl) fun _ _ _ => (by kernel_rfl)
end strings_Index_sx2c
def bk_strings_Index_sx2c : Book := bk_internal_stringslite_Index_sx2c.addS 209 (fun a => isStr 1 [44] a) strings_Index_sx2c.con
theorem bk_strings_Index_sx2c_ok : BookOk Tryz.prog bk_strings_Index_sx2c := bk_internal_stringslite_Index_sx2c_ok.addS strings_Index_sx2c.ok
namespace strings_genSplit_sx2c
def D : Dom := ⟨[], (.cat .str (.cat (.lit (.str false [44])) (.cat (.int .i64) (.int .i64))))⟩
namespace L11
def D : Dom := ⟨[.vec .str 9 false], (.cat .str (.cat (.lit (.str false [44])) (.cat (.int .i64) (.cat (.int .i64) (.cat (.sl 0 1) (.int .i64))))))⟩
def A : Dom := ⟨[.vec .str 9 false], (.cat .str (.cat (.sl 0 1) (.int .i64)))⟩
def sel : List Nat := [0, 1, 2, 3, 4]
def t (va : List (List UInt8)) (s : List UInt8) (sepSave : Int) (n : Int) (i : Int) : Tr ((List (List UInt8) × List UInt8 × Int) ⊕ (List (List UInt8) × List UInt8 × Int)) :=
 .br (decide (i < n)) (.call (strings_Index_sx2c.f s) fun y1 =>
  .br (decide (y1 < (0 : Int))) (.okl va.length <| .ret (.inr (va, s, i)))
  (.chk ((0 : Int) ≤ (0 : Int) ∧ (0 : Int) ≤ IntKind.i64.wrap (y1 + sepSave) ∧ IntKind.i64.wrap (y1 + sepSave) ≤ (↑s.length : Int)) <| .chk ((0 : Int) ≤ i ∧ i < (↑va.length : Int)) <| .chk ((0 : Nat) + i.toNat < va.length) <| .chk ((0 : Int) ≤ IntKind.i64.wrap (y1 + (1 : Int)) ∧ IntKind.i64.wrap (y1 + (1 : Int)) ≤ (↑s.length : Int) ∧ (↑s.length : Int) ≤ (↑s.length : Int)) <| .chk ((0 : Nat) = (0 : Nat) ∧ va.length = (va.set ((0 : Nat) + i.toNat) (List.drop (↑(0 : Nat) : Int).toNat (List.take (IntKind.i64.wrap (y1 + sepSave)).toNat s))).length) <| .ret (.inl (va.set ((0 : Nat) + i.toNat) (List.drop (↑(0 : Nat) : Int).toNat (List.take (IntKind.i64.wrap (y1 + sepSave)).toNat s)), List.drop (IntKind.i64.wrap (y1 + (1 : Int))).toNat (List.take (↑s.length : Int).toNat s), IntKind.i64.wrap (i + (1 : Int))))))
 (.okl va.length <| .ret (.inr (va, s, i)))
def f (va : List (List UInt8)) (s : List UInt8) (sepSave : Int) (n : Int) (i : Int) : Option (List (List UInt8) × List UInt8 × Int) := Loop (fun z : List (List UInt8) × List UInt8 × Int => t z.1 z.2.1 sepSave n z.2.2) (va, s, i)
def F (x : D.den) : Option (List (List UInt8) × List UInt8 × Int) := f x.1.1 x.2.1 x.2.2.2.1 x.2.2.2.2.1 x.2.2.2.2.2.2
def pa : D.den → (List (List UInt8) × List UInt8 × Int) → A.den := fun ((_, _), (_, (_, (_, (_, (_, _)))))) (y1, y2, y3) => ((y1, ()), (y2, ((), y3)))
def lap : Lap := tlap 11 66 [0, 1, 2, 3, 9, 10] D (.exit 0) [0, 9, 10] A pa F
def pk (x : D.den) (z : List (List UInt8) × List UInt8 × Int) : D.den := ((z.1, ()), (z.2.1, ((), (x.2.2.2.1, (x.2.2.2.2.1, ((), z.2.2))))))
def un (x : D.den) : List (List UInt8) × List UInt8 × Int := (x.1.1, x.2.1, x.2.2.2.2.2.2)
def body (x : D.den) (z : List (List UInt8) × List UInt8 × Int) : Tr ((List (List UInt8) × List UInt8 × Int) ⊕ (List (List UInt8) × List UInt8 × Int)) := t z.1 z.2.1 x.2.2.2.1 x.2.2.2.2.1 z.2.2
theorem ok : LapOk Tryz.prog 0 (codeOf Tryz.prog 183) lap := tlap_ok Base.mixed Base.prog_ok bk_strings_Index_sx2c_ok (by kernel_rfl) (by kernel_rfl) LapsOk.nil 9 pk un body (fun _ _ => rfl) (fun _ _ => rfl) (fun _ _ => rfl) (fun _ => rfl) fun _ _ _ _ => (by kernel_rfl)
end L11
def A : Dom := ⟨[.vec .str 9 false], (.sl 0 1)⟩
def sel : List Nat := [0, 1, 2]
def t (s : List UInt8) (sepSave : Int) (n : Int) : Tr (List (List UInt8)) :=
 .br (n == (0 : Int)) (.ret [])
 (.br (decide (n < (0 : Int))) (.call (strings_Count.f s [(44 : UInt8)]) fun y1 =>
  .chk ((0 : Int) ≤ mn2 (IntKind.i64.wrap (y1 + (1 : Int))) (IntKind.i64.wrap ((↑s.length : Int) + (1 : Int))) ∧ mn2 (IntKind.i64.wrap (y1 + (1 : Int))) (IntKind.i64.wrap ((↑s.length : Int) + (1 : Int))) ≤ mn2 (IntKind.i64.wrap (y1 + (1 : Int))) (IntKind.i64.wrap ((↑s.length : Int) + (1 : Int))) ∧ mn2 (IntKind.i64.wrap (y1 + (1 : Int))) (IntKind.i64.wrap ((↑s.length : Int) + (1 : Int))) * (↑(16 : Nat) : Int) ≤ (140737488355328 : Int) ∧ mn2 (IntKind.i64.wrap (y1 + (1 : Int))) (IntKind.i64.wrap ((↑s.length : Int) + (1 : Int))) ≤ (140737488355328 : Int)) <| .chk ((0 : Nat) = (0 : Nat) ∧ (mn2 (IntKind.i64.wrap (y1 + (1 : Int))) (IntKind.i64.wrap ((↑s.length : Int) + (1 : Int)))).toNat = (List.replicate (mn2 (IntKind.i64.wrap (y1 + (1 : Int))) (IntKind.i64.wrap ((↑s.length : Int) + (1 : Int)))).toNat ([] : List UInt8)).length) <| .call (strings_genSplit_sx2c.L11.f (List.replicate (mn2 (IntKind.i64.wrap (y1 + (1 : Int))) (IntKind.i64.wrap ((↑s.length : Int) + (1 : Int)))).toNat ([] : List UInt8)) s sepSave (IntKind.i64.wrap (mn2 (IntKind.i64.wrap (y1 + (1 : Int))) (IntKind.i64.wrap ((↑s.length : Int) + (1 : Int))) - (1 : Int))) (0 : Int)) fun (y2a, y2b, y2c) =>
  .chk ((0 : Int) ≤ y2c ∧ y2c < (↑y2a.length : Int)) <| .chk ((0 : Nat) + y2c.toNat < y2a.length) <| .chk ((0 : Int) ≤ (0 : Int) ∧ (0 : Int) ≤ IntKind.i64.wrap (y2c + (1 : Int)) ∧ IntKind.i64.wrap (y2c + (1 : Int)) ≤ (↑y2a.length : Int)) <| .chk ((0 : Nat) = (0 : Nat) ∧ (IntKind.i64.wrap (y2c + (1 : Int)) - (↑(0 : Nat) : Int)).toNat = (y2a.set ((0 : Nat) + y2c.toNat) y2b).length) <| .ret (y2a.set ((0 : Nat) + y2c.toNat) y2b))
  (.chk ((0 : Int) ≤ mn2 n (IntKind.i64.wrap ((↑s.length : Int) + (1 : Int))) ∧ mn2 n (IntKind.i64.wrap ((↑s.length : Int) + (1 : Int))) ≤ mn2 n (IntKind.i64.wrap ((↑s.length : Int) + (1 : Int))) ∧ mn2 n (IntKind.i64.wrap ((↑s.length : Int) + (1 : Int))) * (↑(16 : Nat) : Int) ≤ (140737488355328 : Int) ∧ mn2 n (IntKind.i64.wrap ((↑s.length : Int) + (1 : Int))) ≤ (140737488355328 : Int)) <| .chk ((0 : Nat) = (0 : Nat) ∧ (mn2 n (IntKind.i64.wrap ((↑s.length : Int) + (1 : Int)))).toNat = (List.replicate (mn2 n (IntKind.i64.wrap ((↑s.length : Int) + (1 : Int)))).toNat ([] : List UInt8)).length) <| .call (strings_genSplit_sx2c.L11.f (List.replicate (mn2 n (IntKind.i64.wrap ((↑s.length : Int) + (1 : Int)))).toNat ([] : List UInt8)) s sepSave (IntKind.i64.wrap (mn2 n (IntKind.i64.wrap ((↑s.length : Int) + (1 : Int))) - (1 : Int))) (0 : Int)) fun (y3a, y3b, y3c) =>
  .chk ((0 : Int) ≤ y3c ∧ y3c < (↑y3a.length : Int)) <| .chk ((0 : Nat) + y3c.toNat < y3a.length) <| .chk ((0 : Int) ≤ (0 : Int) ∧ (0 : Int) ≤ IntKind.i64.wrap (y3c + (1 : Int)) ∧ IntKind.i64.wrap (y3c + (1 : Int)) ≤ (↑y3a.length : Int)) <| .chk ((0 : Nat) = (0 : Nat) ∧ (IntKind.i64.wrap (y3c + (1 : Int)) - (↑(0 : Nat) : Int)).toNat = (y3a.set ((0 : Nat) + y3c.toNat) y3b).length) <| .ret (y3a.set ((0 : Nat) + y3c.toNat) y3b)))
def f (s : List UInt8) (sepSave : Int) (n : Int) : Option (List (List UInt8)) := (t s sepSave n).val
def F (x : D.den) : Option (List (List UInt8)) := f x.2.1 x.2.2.2.1 x.2.2.2.2
def pa : D.den → (List (List UInt8)) → A.den := fun (_, (_, (_, (_, _)))) y1 => ((y1, ()), ())
def con : Con := tcon D A pa F
theorem ok : ConOk Tryz.prog 183 con := tcon_ok Base.mixed Base.prog_ok bk_strings_Index_sx2c_ok (by kernel_rfl) (.cons L11.ok (by kernel_rfl) (.nil)) 9 (fun _ => rfl) (fun x => t x.2.1 x.2.2.2.1 x.2.2.2.2) (fun _ => rfl) fun _ _ _ => (by kernel_rfl)
end strings_genSplit_sx2c
def bk_strings_genSplit_sx2c : Book := bk_strings_Index_sx2c.addS 183 (fun a => isStr 1 [44] a) strings_genSplit_sx2c.con
theorem bk_strings_genSplit_sx2c_ok : BookOk Tryz.prog bk_strings_genSplit_sx2c := bk_strings_Index_sx2c_ok.addS strings_genSplit_sx2c.ok
namespace strings_Split_sx2c
def D : Dom := ⟨[], (.cat .str (.lit (.str false [44])))⟩
def A : Dom := ⟨[.vec .str 9 false], (.sl 0 1)⟩
def sel : List Nat := [0]
def t (s : List UInt8) : Tr (List (List UInt8)) :=
 .call (strings_genSplit_sx2c.f s (0 : Int) (-1 : Int)) fun y1 =>
 .okl y1.length <| .ret y1
def f (s : List UInt8) : Option (List (List UInt8)) := (t s).val
def F (x : D.den) : Option (List (List UInt8)) := f x.2.1
def pa : D.den → (List (List UInt8)) → A.den := fun (_, (_, _)) y1 => ((y1, ()), ())
def con : Con := tcon D A pa F
theorem ok : ConOk Tryz.prog 141 con := tcon_ok Base.mixed Base.prog_ok bk_strings_genSplit_sx2c_ok (by kernel_rfl) LapsOk.nil 9 (fun _ => rfl) (fun x => t x.2.1) (fun _ => rfl) fun _ _ _ => (by kernel_rfl)
end strings_Split_sx2c
def bk_strings_Split_sx2c : Book := bk_strings_genSplit_sx2c.addS 141 (fun a => isStr 1 [44] a) strings_Split_sx2c.con
theorem bk_strings_Split_sx2c_ok : BookOk Tryz.prog bk_strings_Split_sx2c := bk_strings_genSplit_sx2c_ok.addS strings_Split_sx2c.ok
namespace text_List
def D : Dom := ⟨[.vec .str 9 true], (.sl 0 1)⟩
namespace L6
def D : Dom := ⟨[.vec .str 9 true, .vec .str 9 false, .vec .str 9 false], (.cat (.sl 1 1) (.cat (.sl 0 1) (.cat (.int .i64) (.cat (.int .i64) (.cat (.sl 2 1) (.cat (.int .i64) (.int .i64)))))))⟩
def A : Dom := ⟨[.vec .str 9 true, .vec .str 9 false], (.cat (.sl 1 1) (.cat (.sl 0 1) (.cat (.int .i64) (.int .i64))))⟩
def sel : List Nat := [0, 1, 2, 5, 6]
def t (values : List (List UInt8)) (out : List (List UInt8)) (t15 : List (List UInt8)) (t16 : Int) (t17 : Int) : Tr ((List (List UInt8) × Int) ⊕ (List (List UInt8))) :=
 .br (decide (t17 < t16)) (.chk ((0 : Int) ≤ t17 ∧ t17 < (↑t15.length : Int)) <| .chk ((0 : Nat) + t17.toNat < t15.length) <| .call (text_Trim.f (t15.getD ((0 : Nat) + t17.toNat) [])) fun y1 =>
  .chk ((0 : Nat) + out.length ≤ out.length) <| .chk ((out.length + (1 : Nat)) * (16 : Nat) ≤ (140737488355328 : Nat)) <| .okl values.length <| .chk ((0 : Nat) = (0 : Nat) ∧ out.length + (1 : Nat) = (List.take out.length (List.drop (0 : Nat) out) ++ [y1]).length) <| .okl t15.length <| .ret (.inl (List.take out.length (List.drop (0 : Nat) out) ++ [y1], IntKind.i64.wrap (t17 + (1 : Int)))))
 (.okl values.length <| .okl out.length <| .ret (.inr out))
def f (values : List (List UInt8)) (out : List (List UInt8)) (t15 : List (List UInt8)) (t16 : Int) (t17 : Int) : Option (List (List UInt8)) := Loop (fun z : List (List UInt8) × Int => t values z.1 t15 t16 z.2) (out, t17)
def F (x : D.den) : Option (List (List UInt8)) := f x.1.1 x.1.2.1 x.1.2.2.1 x.2.2.2.2.2.2.1 x.2.2.2.2.2.2.2
def pa : D.den → (List (List UInt8)) → A.den := fun ((values, (_, (_, _))), (_, (_, (t9, (t10, (_, (_, _))))))) y1 => ((values, (y1, ())), ((), ((), (t9, t10))))
def lap : Lap := tlap 6 29 [3, 8, 9, 10, 15, 16, 17] D (.exit 2) [3, 8, 9, 10] A pa F
def pk (x : D.den) (z : List (List UInt8) × Int) : D.den := ((x.1.1, (z.1, (x.1.2.2.1, ()))), ((), ((), (x.2.2.2.1, (x.2.2.2.2.1, ((), (x.2.2.2.2.2.2.1, z.2)))))))
def un (x : D.den) : List (List UInt8) × Int := (x.1.2.1, x.2.2.2.2.2.2.2)
def body (x : D.den) (z : List (List UInt8) × Int) : Tr ((List (List UInt8) × Int) ⊕ (List (List UInt8))) := t x.1.1 z.1 x.1.2.2.1 x.2.2.2.2.2.2.1 z.2
theorem ok : LapOk Tryz.prog 1 (codeOf Tryz.prog 154) lap := tlap_ok Base.mixed Base.prog_ok bk_strings_Split_sx2c_ok (by kernel_rfl) (by kernel_rfl) LapsOk.nil 9 pk un body (fun _ _ => rfl) (fun _ _ => rfl) (fun _ _ => rfl) (fun _ => rfl) fun _ _ _ _ => (by kernel_rfl)
end L6
namespace L3
def D : Dom := ⟨[.vec .str 9 true, .vec .str 9 false], (.cat (.sl 1 1) (.cat (.sl 0 1) (.cat (.int .i64) (.int .i64))))⟩
def A : Dom := ⟨[.vec .str 9 true, .vec .str 9 false], (.sl 1 1)⟩
def sel : List Nat := [0, 1, 2, 3]
def t (values : List (List UInt8)) (out : List (List UInt8)) (t9 : Int) (t10 : Int) : Tr ((List (List UInt8) × Int) ⊕ (List (List UInt8))) :=
 .br (decide (t10 < t9)) (.chk ((0 : Int) ≤ t10 ∧ t10 < (↑values.length : Int)) <| .chk ((0 : Nat) + t10.toNat < values.length) <| .call (strings_Split_sx2c.f (values.getD ((0 : Nat) + t10.toNat) [])) fun y1 =>
  .okl values.length <| .okl out.length <| .okl y1.length <| .call (text_List.L6.f values out y1 (↑y1.length : Int) (0 : Int)) fun y2 =>
  .okl values.length <| .okl y2.length <| .ret (.inl (y2, IntKind.i64.wrap (t10 + (1 : Int)))))
 (.okl out.length <| .ret (.inr out))
def f (values : List (List UInt8)) (out : List (List UInt8)) (t9 : Int) (t10 : Int) : Option (List (List UInt8)) := Loop (fun z : List (List UInt8) × Int => t values z.1 t9 z.2) (out, t10)
def F (x : D.den) : Option (List (List UInt8)) := f x.1.1 x.1.2.1 x.2.2.2.1 x.2.2.2.2
def pa : D.den → (List (List UInt8)) → A.den := fun ((values, (_, _)), (_, (_, (_, _)))) y1 => ((values, (y1, ())), ())
def lap : Lap := tlap 3 29 [3, 8, 9, 10] D (.exit 0) [3] A pa F
def pk (x : D.den) (z : List (List UInt8) × Int) : D.den := ((x.1.1, (z.1, ())), ((), ((), (x.2.2.2.1, z.2))))
def un (x : D.den) : List (List UInt8) × Int := (x.1.2.1, x.2.2.2.2)
def body (x : D.den) (z : List (List UInt8) × Int) : Tr ((List (List UInt8) × Int) ⊕ (List (List UInt8))) := t x.1.1 z.1 x.2.2.2.1 z.2
theorem ok : LapOk Tryz.prog 1 (codeOf Tryz.prog 154) lap := tlap_ok Base.mixed Base.prog_ok bk_strings_Split_sx2c_ok (by kernel_rfl) (by kernel_rfl) (.cons L6.ok (by kernel_rfl) (.nil)) 9 pk un body (fun _ _ => rfl) (fun _ _ => rfl) (fun _ _ => rfl) (fun _ => rfl) fun _ _ _ _ => (by kernel_rfl)
end L3
def A : Dom := ⟨[.vec .str 9 true, .vec .str 9 false], (.sl 1 1)⟩
def sel : List Nat := [0]
def t (values : List (List UInt8)) : Tr (List (List UInt8)) :=
 .okl values.length <| .call (text_List.L3.f values [] (↑values.length : Int) (0 : Int)) fun y1 =>
 .okl y1.length <| .ret y1
def f (values : List (List UInt8)) : Option (List (List UInt8)) := (t values).val
def F (x : D.den) : Option (List (List UInt8)) := f x.1.1
def pa : D.den → (List (List UInt8)) → A.den := fun ((values, _), _) y1 => ((values, (y1, ())), ())
def con : Con := tcon D A pa F
theorem ok : ConOk Tryz.prog 154 con := tcon_ok Base.mixed Base.prog_ok bk_strings_Split_sx2c_ok (by kernel_rfl) (.cons L6.ok (by kernel_rfl) (.cons L3.ok (by kernel_rfl) (.nil))) 9 (fun _ => rfl) (fun x => t x.1.1) (fun _ => rfl) fun _ _ _ => (by kernel_rfl)
end text_List
def bk_text_List : Book := bk_strings_Split_sx2c.add 154 text_List.con
theorem bk_text_List_ok : BookOk Tryz.prog bk_text_List := bk_strings_Split_sx2c_ok.add text_List.ok
namespace text_TrimOf_1
def D : Dom := ⟨[.cells .str 9 false], (.cat (.int .u8) (.ptr 0 0 0 0))⟩
def A : Dom := ⟨[.cells .str 9 false], .bool⟩
def sel : List Nat := [0, 1]
def t (a1 : List UInt8) (c : Int) : Tr (Bool) :=
 .call (strings_IndexByte.f a1 c) fun y1 =>
 .ret (decide (y1 ≥ (0 : Int)))
def f (a1 : List UInt8) (c : Int) : Option (Bool) := (t a1 c).val
def F (x : D.den) : Option (Bool) := f x.1.1 x.2.1
def pa : D.den → (Bool) → A.den := fun ((a1, _), (_, _)) y1 => ((a1, ()), y1)
def con : Con := tcon D A pa F
theorem ok : ConOk Tryz.prog 192 con := tcon_ok Base.mixed Base.prog_ok bk_text_List_ok (by kernel_rfl) LapsOk.nil 9 (fun _ => rfl) (fun x => t x.1.1 x.2.1) (fun _ => rfl) fun _ _ _ => (by kernel_rfl)
end text_TrimOf_1
def bk_text_TrimOf_1 : Book := bk_text_List.add 192 text_TrimOf_1.con
theorem bk_text_TrimOf_1_ok : BookOk Tryz.prog bk_text_TrimOf_1 := bk_text_List_ok.add text_TrimOf_1.ok
namespace slices_IndexFunc_f_framing_Length_1
def D : Dom := ⟨[.vec .str 9 true, .cells .str 9 false], (.cat (.sl 0 1) (.func (.func 158) .nil (.ptr 1 0 0 0)))⟩
namespace L2
def D : Dom := ⟨[.vec .str 9 true, .cells .str 9 false], (.cat (.sl 0 1) (.cat (.func (.func 158) .nil (.ptr 1 0 0 0)) (.cat (.int .i64) (.int .i64))))⟩
def A : Dom := ⟨[.vec .str 9 true, .cells .str 9 false], .nil⟩
def B : Dom := ⟨[.vec .str 9 true, .cells .str 9 false], (.int .i64)⟩
def sel : List Nat := [0, 1, 2, 3]
def t (s : List (List UInt8)) (r1 : List UInt8) (t7 : Int) (t8 : Int) : Tr ((Int) ⊕ ((Unit) ⊕ (Int))) :=
 .br (decide (t8 < t7)) (.chk ((0 : Int) ≤ t8 ∧ t8 < (↑s.length : Int)) <| .chk ((0 : Nat) + t8.toNat < s.length) <| .br (!s.getD ((0 : Nat) + t8.toNat) [] == r1) (.ret (.inr (.inr t8)))
  (.okl s.length <| .ret (.inl (IntKind.i64.wrap (t8 + (1 : Int))))))
 (.ret (.inr (.inl ())))
def f (s : List (List UInt8)) (r1 : List UInt8) (t7 : Int) (t8 : Int) : Option ((Unit) ⊕ (Int)) := Loop (fun z : Int => t s r1 t7 z) t8
def F (x : D.den) : Option ((Unit) ⊕ (Int)) := f x.1.1 x.1.2.1 x.2.2.2.1 x.2.2.2.2
def pa : D.den → (Unit) → A.den := fun ((s, (r1, _)), (_, ((_, _), (_, _)))) _ => ((s, (r1, ())), ())
def pb : D.den → (Int) → B.den := fun ((s, (r1, _)), (_, ((_, _), (_, _)))) y1 => ((s, (r1, ())), y1)
def lap : Lap := tlap2 2 19 [0, 1, 7, 8] D (.exit 0) [] A .ret [4] B pa pb F
def pk (x : D.den) (z : Int) : D.den := ((x.1.1, (x.1.2.1, ())), ((), (((), ()), (x.2.2.2.1, z))))
def un (x : D.den) : Int := x.2.2.2.2
def body (x : D.den) (z : Int) : Tr ((Int) ⊕ ((Unit) ⊕ (Int))) := t x.1.1 x.1.2.1 x.2.2.2.1 z
theorem ok : LapOk Tryz.prog 2 (codeOf Tryz.prog 190) lap := tlap2_ok Base.mixed Base.prog_ok bk_text_TrimOf_1_ok (by kernel_rfl) (by kernel_rfl) LapsOk.nil 9 pk un body (fun _ _ => rfl) (fun _ _ => rfl) (fun _ _ => rfl) (fun _ _ => rfl) (fun _ => rfl) fun _ _ _ _ => (by kernel_rfl)
end L2
def A : Dom := ⟨[.vec .str 9 true, .cells .str 9 false], (.int .i64)⟩
def sel : List Nat := [0, 1]
def t (s : List (List UInt8)) (vf : List UInt8) : Tr (Int) :=
 .okl s.length <| .both (slices_IndexFunc_f_framing_Length_1.L2.f s vf (↑s.length : Int) (0 : Int)) (fun _ => .ret (-1 : Int))
 (fun y2 => .ret y2)
def f (s : List (List UInt8)) (vf : List UInt8) : Option (Int) := (t s vf).val
def F (x : D.den) : Option (Int) := f x.1.1 x.1.2.1
def pa : D.den → (Int) → A.den := fun ((s, (vf, _)), (_, (_, _))) y1 => ((s, (vf, ())), y1)
def con : Con := tcon D A pa F
theorem ok : ConOk Tryz.prog 190 con := tcon_ok Base.mixed Base.prog_ok bk_text_TrimOf_1_ok (by kernel_rfl) (.cons L2.ok (by kernel_rfl) (.nil)) 9 (fun _ => rfl) (fun x => t x.1.1 x.1.2.1) (fun _ => rfl) fun _ _ _ => (by kernel_rfl)
end slices_IndexFunc_f_framing_Length_1
def bk_slices_IndexFunc_f_framing_Length_1 : Book := bk_text_TrimOf_1.addS 190 (fun a => isFunc 1 158 a) slices_IndexFunc_f_framing_Length_1.con
theorem bk_slices_IndexFunc_f_framing_Length_1_ok : BookOk Tryz.prog bk_slices_IndexFunc_f_framing_Length_1 := bk_text_TrimOf_1_ok.addS slices_IndexFunc_f_framing_Length_1.ok
namespace slices_ContainsFunc_f_framing_Length_1
def D : Dom := ⟨[.vec .str 9 true, .cells .str 9 false], (.cat (.sl 0 1) (.func (.func 158) .nil (.ptr 1 0 0 0)))⟩
def A : Dom := ⟨[.vec .str 9 true, .cells .str 9 false], .bool⟩
def sel : List Nat := [0, 1]
def t (s : List (List UInt8)) (vf : List UInt8) : Tr (Bool) :=
 .chk ((0 : Nat) + s.length ≤ s.length) <| .call (slices_IndexFunc_f_framing_Length_1.f (List.take s.length (List.drop (0 : Nat) s)) vf) fun y1 =>
 .ret (decide (y1 ≥ (0 : Int)))
def f (s : List (List UInt8)) (vf : List UInt8) : Option (Bool) := (t s vf).val
def F (x : D.den) : Option (Bool) := f x.1.1 x.1.2.1
def pa : D.den → (Bool) → A.den := fun ((s, (vf, _)), (_, (_, _))) y1 => ((s, (vf, ())), y1)
def con : Con := tcon D A pa F
theorem ok : ConOk Tryz.prog 151 con := tcon_ok Base.mixed Base.prog_ok bk_slices_IndexFunc_f_framing_Length_1_ok (by kernel_rfl) LapsOk.nil 9 (fun _ => rfl) (fun x => t x.1.1 x.1.2.1) (fun _ => rfl) fun _ _ _ => (by kernel_rfl)
end slices_ContainsFunc_f_framing_Length_1
def bk_slices_ContainsFunc_f_framing_Length_1 : Book := bk_slices_IndexFunc_f_framing_Length_1.addS 151 (fun a => isFunc 1 158 a) slices_ContainsFunc_f_framing_Length_1.con
theorem bk_slices_ContainsFunc_f_framing_Length_1_ok : BookOk Tryz.prog bk_slices_ContainsFunc_f_framing_Length_1 := bk_slices_IndexFunc_f_framing_Length_1_ok.addS slices_ContainsFunc_f_framing_Length_1.ok
namespace internal_stringslite_HasPrefix_sx2b
def D : Dom := ⟨[], (.cat .str (.lit (.str false [43])))⟩
def A : Dom := ⟨[], .bool⟩
def sel : List Nat := [0]
def t (s : List UInt8) : Tr (Bool) :=
 .br (decide ((↑s.length : Int) ≥ (1 : Int))) (.chk ((0 : Int) ≤ (0 : Int) ∧ (0 : Int) ≤ (1 : Int) ∧ (1 : Int) ≤ (↑s.length : Int)) <| .ret (List.drop (↑(0 : Nat) : Int).toNat (List.take (Int.toNat (1 : Int)) s) == [(43 : UInt8)]))
 (.ret false)
def f (s : List UInt8) : Option (Bool) := (t s).val
def F (x : D.den) : Option (Bool) := f x.2.1
def pa : D.den → (Bool) → A.den := fun (_, (_, _)) y1 => ((), y1)
def con : Con := tcon D A pa F
theorem ok : ConOk Tryz.prog 168 con := tcon_ok Base.mixed Base.prog_ok bk_slices_ContainsFunc_f_framing_Length_1_ok (by kernel_rfl) LapsOk.nil 9 (fun _ => rfl) (fun x => t x.2.1) (fun _ => rfl) fun _ _ _ => (by kernel_rfl)
end internal_stringslite_HasPrefix_sx2b
def bk_internal_stringslite_HasPrefix_sx2b : Book := bk_slices_ContainsFunc_f_framing_Length_1.addS 168 (fun a => isStr 1 [43] a) internal_stringslite_HasPrefix_sx2b.con
theorem bk_internal_stringslite_HasPrefix_sx2b_ok : BookOk Tryz.prog bk_internal_stringslite_HasPrefix_sx2b := bk_slices_ContainsFunc_f_framing_Length_1_ok.addS internal_stringslite_HasPrefix_sx2b.ok
namespace internal_stringslite_TrimPrefix_sx2b
def D : Dom := ⟨[], (.cat .str (.lit (.str false [43])))⟩
def A : Dom := ⟨[], .str⟩
def sel : List Nat := [0]
def t (s : List UInt8) : Tr (List UInt8) :=
 .call (internal_stringslite_HasPrefix_sx2b.f s) fun y1 =>
 .br y1 (.chk ((0 : Int) ≤ (1 : Int) ∧ (1 : Int) ≤ (↑s.length : Int) ∧ (↑s.length : Int) ≤ (↑s.length : Int)) <| .ret (List.drop (Int.toNat (1 : Int)) (List.take (↑s.length : Int).toNat s)))
 (.ret s)
def f (s : List UInt8) : Option (List UInt8) := (t s).val
def F (x : D.den) : Option (List UInt8) := f x.2.1
def pa : D.den → (List UInt8) → A.den := fun (_, (_, _)) y1 => ((), y1)
def con : Con := tcon D A pa F
theorem ok : ConOk Tryz.prog 194 con := tcon_ok Base.mixed Base.prog_ok bk_internal_stringslite_HasPrefix_sx2b_ok (by kernel_rfl) LapsOk.nil 9 (fun _ => rfl) (fun x => t x.2.1) (fun _ => rfl) fun _ _ _ => (by kernel_rfl)
end internal_stringslite_TrimPrefix_sx2b
def bk_internal_stringslite_TrimPrefix_sx2b : Book := bk_internal_stringslite_HasPrefix_sx2b.addS 194 (fun a => isStr 1 [43] a) internal_stringslite_TrimPrefix_sx2b.con
theorem bk_internal_stringslite_TrimPrefix_sx2b_ok : BookOk Tryz.prog bk_internal_stringslite_TrimPrefix_sx2b := bk_internal_stringslite_HasPrefix_sx2b_ok.addS internal_stringslite_TrimPrefix_sx2b.ok
namespace strings_TrimPrefix_sx2b
def D : Dom := ⟨[], (.cat .str (.lit (.str false [43])))⟩
def A : Dom := ⟨[], .str⟩
def sel : List Nat := [0]
def t (s : List UInt8) : Tr (List UInt8) :=
 .call (internal_stringslite_TrimPrefix_sx2b.f s) fun y1 =>
 .ret y1
def f (s : List UInt8) : Option (List UInt8) := (t s).val
def F (x : D.den) : Option (List UInt8) := f x.2.1
def pa : D.den → (List UInt8) → A.den := fun (_, (_, _)) y1 => ((), y1)
def con : Con := tcon D A pa F
theorem ok : ConOk Tryz.prog 159 con := tcon_ok Base.mixed Base.prog_ok bk_internal_stringslite_TrimPrefix_sx2b_ok (by kernel_rfl) LapsOk.nil 9 (fun _ => rfl) (fun x => t x.2.1) (fun _ => rfl) fun _ _ _ => (by kernel_rfl)
end strings_TrimPrefix_sx2b
def bk_strings_TrimPrefix_sx2b : Book := bk_internal_stringslite_TrimPrefix_sx2b.addS 159 (fun a => isStr 1 [43] a) strings_TrimPrefix_sx2b.con
theorem bk_strings_TrimPrefix_sx2b_ok : BookOk Tryz.prog bk_strings_TrimPrefix_sx2b := bk_internal_stringslite_TrimPrefix_sx2b_ok.addS strings_TrimPrefix_sx2b.ok
namespace framing_Length
def D : Dom := ⟨[.vec .str 9 true], (.cat (.int .u32) (.cat (.int .i64) (.sl 0 1)))⟩
def A : Dom := ⟨[.vec .str 9 true], (.tup (.cat (.int .i64) (.int .i64)))⟩
def sel : List Nat := [0, 1, 2]
def t (values : List (List UInt8)) (p : Int) (most : Int) : Tr (Int × Int) :=
 .call (quirks_Has.f p (24 : Int)) fun y1 =>
 .br y1 (.chk ((0 : Nat) + values.length ≤ values.length) <| .call (text_List.f (List.take values.length (List.drop (0 : Nat) values))) fun y2 =>
  .br ((↑y2.length : Int) == (0 : Int)) (.ret ((0 : Int), (0 : Int)))
  (.chk ((0 : Int) ≤ (0 : Int) ∧ (0 : Int) < (↑y2.length : Int)) <| .chk ((0 : Nat) < y2.length) <| .chk ((0 : Int) ≤ IntKind.i64.wrap ((↑y2.length : Int) - (1 : Int)) ∧ IntKind.i64.wrap ((↑y2.length : Int) - (1 : Int)) < (↑y2.length : Int)) <| .chk ((0 : Nat) + (IntKind.i64.wrap ((↑y2.length : Int) - (1 : Int))).toNat < y2.length) <| .chk ((0 : Nat) + y2.length ≤ y2.length) <| .call (slices_ContainsFunc_f_framing_Length_1.f (List.take y2.length (List.drop (0 : Nat) y2)) (y2.getD (0 : Nat) [])) fun y3 =>
  .br ((↑y2.length : Int) == (1 : Int)) (.call (quirks_Has.f p (23 : Int)) fun y4 =>
   .br y4 (.call (strings_TrimPrefix_sx2b.f (y2.getD (0 : Nat) [])) fun y5 =>
   .call (number_Dec.f y5 most) fun (y6a, y6b) =>
   .br (y6b == (23 : Int)) (.ret ((0 : Int), (413 : Int)))
   (.br (y6b == (22 : Int)) (.ret ((0 : Int), (400 : Int)))
    (.ret (y6a, (0 : Int)))))
   (.call (number_Dec.f (y2.getD (0 : Nat) []) most) fun (y7a, y7b) =>
   .br (y7b == (23 : Int)) (.ret ((0 : Int), (413 : Int)))
   (.br (y7b == (22 : Int)) (.ret ((0 : Int), (400 : Int)))
    (.ret (y7a, (0 : Int))))))
  (.br (!y3) (.call (quirks_Has.f p (24 : Int)) fun y8 =>
   .br y8 (.call (quirks_Has.f p (23 : Int)) fun y9 =>
    .br y9 (.call (strings_TrimPrefix_sx2b.f (y2.getD (0 : Nat) [])) fun y10 =>
    .call (number_Dec.f y10 most) fun (y11a, y11b) =>
    .br (y11b == (23 : Int)) (.ret ((0 : Int), (413 : Int)))
    (.br (y11b == (22 : Int)) (.ret ((0 : Int), (400 : Int)))
     (.ret (y11a, (0 : Int)))))
    (.call (number_Dec.f (y2.getD (0 : Nat) []) most) fun (y12a, y12b) =>
    .br (y12b == (23 : Int)) (.ret ((0 : Int), (413 : Int)))
    (.br (y12b == (22 : Int)) (.ret ((0 : Int), (400 : Int)))
     (.ret (y12a, (0 : Int))))))
   (.call (quirks_Has.f p (25 : Int)) fun y13 =>
    .br y13 (.call (quirks_Has.f p (23 : Int)) fun y14 =>
    .br y14 (.call (strings_TrimPrefix_sx2b.f (y2.getD (0 : Nat) [])) fun y15 =>
     .call (number_Dec.f y15 most) fun (y16a, y16b) =>
     .br (y16b == (23 : Int)) (.ret ((0 : Int), (413 : Int)))
     (.br (y16b == (22 : Int)) (.ret ((0 : Int), (400 : Int)))
     (.ret (y16a, (0 : Int)))))
    (.call (number_Dec.f (y2.getD (0 : Nat) []) most) fun (y17a, y17b) =>
     .br (y17b == (23 : Int)) (.ret ((0 : Int), (413 : Int)))
     (.br (y17b == (22 : Int)) (.ret ((0 : Int), (400 : Int)))
     (.ret (y17a, (0 : Int))))))
    (.call (quirks_Has.f p (26 : Int)) fun y18 =>
    .br y18 (.call (quirks_Has.f p (23 : Int)) fun y19 =>
     .br y19 (.call (strings_TrimPrefix_sx2b.f (y2.getD ((0 : Nat) + (IntKind.i64.wrap ((↑y2.length : Int) - (1 : Int))).toNat) [])) fun y20 =>
     .call (number_Dec.f y20 most) fun (y21a, y21b) =>
     .br (y21b == (23 : Int)) (.ret ((0 : Int), (413 : Int)))
     (.br (y21b == (22 : Int)) (.ret ((0 : Int), (400 : Int)))
      (.ret (y21a, (0 : Int)))))
     (.call (number_Dec.f (y2.getD ((0 : Nat) + (IntKind.i64.wrap ((↑y2.length : Int) - (1 : Int))).toNat) []) most) fun (y22a, y22b) =>
     .br (y22b == (23 : Int)) (.ret ((0 : Int), (413 : Int)))
     (.br (y22b == (22 : Int)) (.ret ((0 : Int), (400 : Int)))
      (.ret (y22a, (0 : Int))))))
    (.ret ((0 : Int), (400 : Int))))))
   (.call (quirks_Has.f p (25 : Int)) fun y23 =>
   .br y23 (.call (quirks_Has.f p (23 : Int)) fun y24 =>
    .br y24 (.call (strings_TrimPrefix_sx2b.f (y2.getD (0 : Nat) [])) fun y25 =>
    .call (number_Dec.f y25 most) fun (y26a, y26b) =>
    .br (y26b == (23 : Int)) (.ret ((0 : Int), (413 : Int)))
    (.br (y26b == (22 : Int)) (.ret ((0 : Int), (400 : Int)))
     (.ret (y26a, (0 : Int)))))
    (.call (number_Dec.f (y2.getD (0 : Nat) []) most) fun (y27a, y27b) =>
    .br (y27b == (23 : Int)) (.ret ((0 : Int), (413 : Int)))
    (.br (y27b == (22 : Int)) (.ret ((0 : Int), (400 : Int)))
     (.ret (y27a, (0 : Int))))))
   (.call (quirks_Has.f p (26 : Int)) fun y28 =>
    .br y28 (.call (quirks_Has.f p (23 : Int)) fun y29 =>
    .br y29 (.call (strings_TrimPrefix_sx2b.f (y2.getD ((0 : Nat) + (IntKind.i64.wrap ((↑y2.length : Int) - (1 : Int))).toNat) [])) fun y30 =>
     .call (number_Dec.f y30 most) fun (y31a, y31b) =>
     .br (y31b == (23 : Int)) (.ret ((0 : Int), (413 : Int)))
     (.br (y31b == (22 : Int)) (.ret ((0 : Int), (400 : Int)))
     (.ret (y31a, (0 : Int)))))
    (.call (number_Dec.f (y2.getD ((0 : Nat) + (IntKind.i64.wrap ((↑y2.length : Int) - (1 : Int))).toNat) []) most) fun (y32a, y32b) =>
     .br (y32b == (23 : Int)) (.ret ((0 : Int), (413 : Int)))
     (.br (y32b == (22 : Int)) (.ret ((0 : Int), (400 : Int)))
     (.ret (y32a, (0 : Int))))))
    (.ret ((0 : Int), (400 : Int))))))))
 (.br ((↑values.length : Int) == (0 : Int)) (.ret ((0 : Int), (0 : Int)))
  (.chk ((0 : Int) ≤ (0 : Int) ∧ (0 : Int) < (↑values.length : Int)) <| .chk ((0 : Nat) < values.length) <| .chk ((0 : Int) ≤ IntKind.i64.wrap ((↑values.length : Int) - (1 : Int)) ∧ IntKind.i64.wrap ((↑values.length : Int) - (1 : Int)) < (↑values.length : Int)) <| .chk ((0 : Nat) + (IntKind.i64.wrap ((↑values.length : Int) - (1 : Int))).toNat < values.length) <| .chk ((0 : Nat) + values.length ≤ values.length) <| .call (slices_ContainsFunc_f_framing_Length_1.f (List.take values.length (List.drop (0 : Nat) values)) (values.getD (0 : Nat) [])) fun y33 =>
  .br ((↑values.length : Int) == (1 : Int)) (.call (quirks_Has.f p (23 : Int)) fun y34 =>
   .br y34 (.call (strings_TrimPrefix_sx2b.f (values.getD (0 : Nat) [])) fun y35 =>
   .call (number_Dec.f y35 most) fun (y36a, y36b) =>
   .br (y36b == (23 : Int)) (.ret ((0 : Int), (413 : Int)))
   (.br (y36b == (22 : Int)) (.ret ((0 : Int), (400 : Int)))
    (.ret (y36a, (0 : Int)))))
   (.call (number_Dec.f (values.getD (0 : Nat) []) most) fun (y37a, y37b) =>
   .br (y37b == (23 : Int)) (.ret ((0 : Int), (413 : Int)))
   (.br (y37b == (22 : Int)) (.ret ((0 : Int), (400 : Int)))
    (.ret (y37a, (0 : Int))))))
  (.br (!y33) (.call (quirks_Has.f p (24 : Int)) fun y38 =>
   .br y38 (.call (quirks_Has.f p (23 : Int)) fun y39 =>
    .br y39 (.call (strings_TrimPrefix_sx2b.f (values.getD (0 : Nat) [])) fun y40 =>
    .call (number_Dec.f y40 most) fun (y41a, y41b) =>
    .br (y41b == (23 : Int)) (.ret ((0 : Int), (413 : Int)))
    (.br (y41b == (22 : Int)) (.ret ((0 : Int), (400 : Int)))
     (.ret (y41a, (0 : Int)))))
    (.call (number_Dec.f (values.getD (0 : Nat) []) most) fun (y42a, y42b) =>
    .br (y42b == (23 : Int)) (.ret ((0 : Int), (413 : Int)))
    (.br (y42b == (22 : Int)) (.ret ((0 : Int), (400 : Int)))
     (.ret (y42a, (0 : Int))))))
   (.call (quirks_Has.f p (25 : Int)) fun y43 =>
    .br y43 (.call (quirks_Has.f p (23 : Int)) fun y44 =>
    .br y44 (.call (strings_TrimPrefix_sx2b.f (values.getD (0 : Nat) [])) fun y45 =>
     .call (number_Dec.f y45 most) fun (y46a, y46b) =>
     .br (y46b == (23 : Int)) (.ret ((0 : Int), (413 : Int)))
     (.br (y46b == (22 : Int)) (.ret ((0 : Int), (400 : Int)))
     (.ret (y46a, (0 : Int)))))
    (.call (number_Dec.f (values.getD (0 : Nat) []) most) fun (y47a, y47b) =>
     .br (y47b == (23 : Int)) (.ret ((0 : Int), (413 : Int)))
     (.br (y47b == (22 : Int)) (.ret ((0 : Int), (400 : Int)))
     (.ret (y47a, (0 : Int))))))
    (.call (quirks_Has.f p (26 : Int)) fun y48 =>
    .br y48 (.call (quirks_Has.f p (23 : Int)) fun y49 =>
     .br y49 (.call (strings_TrimPrefix_sx2b.f (values.getD ((0 : Nat) + (IntKind.i64.wrap ((↑values.length : Int) - (1 : Int))).toNat) [])) fun y50 =>
     .call (number_Dec.f y50 most) fun (y51a, y51b) =>
     .br (y51b == (23 : Int)) (.ret ((0 : Int), (413 : Int)))
     (.br (y51b == (22 : Int)) (.ret ((0 : Int), (400 : Int)))
      (.ret (y51a, (0 : Int)))))
     (.call (number_Dec.f (values.getD ((0 : Nat) + (IntKind.i64.wrap ((↑values.length : Int) - (1 : Int))).toNat) []) most) fun (y52a, y52b) =>
     .br (y52b == (23 : Int)) (.ret ((0 : Int), (413 : Int)))
     (.br (y52b == (22 : Int)) (.ret ((0 : Int), (400 : Int)))
      (.ret (y52a, (0 : Int))))))
    (.ret ((0 : Int), (400 : Int))))))
   (.call (quirks_Has.f p (25 : Int)) fun y53 =>
   .br y53 (.call (quirks_Has.f p (23 : Int)) fun y54 =>
    .br y54 (.call (strings_TrimPrefix_sx2b.f (values.getD (0 : Nat) [])) fun y55 =>
    .call (number_Dec.f y55 most) fun (y56a, y56b) =>
    .br (y56b == (23 : Int)) (.ret ((0 : Int), (413 : Int)))
    (.br (y56b == (22 : Int)) (.ret ((0 : Int), (400 : Int)))
     (.ret (y56a, (0 : Int)))))
    (.call (number_Dec.f (values.getD (0 : Nat) []) most) fun (y57a, y57b) =>
    .br (y57b == (23 : Int)) (.ret ((0 : Int), (413 : Int)))
    (.br (y57b == (22 : Int)) (.ret ((0 : Int), (400 : Int)))
     (.ret (y57a, (0 : Int))))))
   (.call (quirks_Has.f p (26 : Int)) fun y58 =>
    .br y58 (.call (quirks_Has.f p (23 : Int)) fun y59 =>
    .br y59 (.call (strings_TrimPrefix_sx2b.f (values.getD ((0 : Nat) + (IntKind.i64.wrap ((↑values.length : Int) - (1 : Int))).toNat) [])) fun y60 =>
     .call (number_Dec.f y60 most) fun (y61a, y61b) =>
     .br (y61b == (23 : Int)) (.ret ((0 : Int), (413 : Int)))
     (.br (y61b == (22 : Int)) (.ret ((0 : Int), (400 : Int)))
     (.ret (y61a, (0 : Int)))))
    (.call (number_Dec.f (values.getD ((0 : Nat) + (IntKind.i64.wrap ((↑values.length : Int) - (1 : Int))).toNat) []) most) fun (y62a, y62b) =>
     .br (y62b == (23 : Int)) (.ret ((0 : Int), (413 : Int)))
     (.br (y62b == (22 : Int)) (.ret ((0 : Int), (400 : Int)))
     (.ret (y62a, (0 : Int))))))
    (.ret ((0 : Int), (400 : Int))))))))
def f (values : List (List UInt8)) (p : Int) (most : Int) : Option (Int × Int) := (t values p most).val
def F (x : D.den) : Option (Int × Int) := f x.1.1 x.2.1 x.2.2.1
def pa : D.den → (Int × Int) → A.den := fun ((values, _), (_, (_, _))) (y1, y2) => ((values, ()), (y1, y2))
def con : Con := tcon D A pa F
theorem ok : ConOk Tryz.prog 121 con := tcon_ok Base.mixed Base.prog_ok bk_strings_TrimPrefix_sx2b_ok (by kernel_rfl) LapsOk.nil 9 (fun _ => rfl) (fun x => t x.1.1 x.2.1 x.2.2.1) (fun _ => rfl) fun _ _ _ => (by kernel_rfl)
end framing_Length
def bk_framing_Length : Book := bk_strings_TrimPrefix_sx2b.add 121 framing_Length.con
theorem bk_framing_Length_ok : BookOk Tryz.prog bk_framing_Length := bk_strings_TrimPrefix_sx2b_ok.add framing_Length.ok
end Go.Vx
end
section
set_option maxRecDepth 1000000
set_option linter.unusedVariables false
namespace Go.Vx
open Go Go.Vx Go.Proofs
namespace record_says_1
def D : Dom := ⟨[.cells .str 9 false], (.cat .str (.ptr 0 0 0 0))⟩
def A : Dom := ⟨[.cells .str 9 false], .bool⟩
def sel : List Nat := [0, 1]
def t (a1 : List UInt8) (s : List UInt8) : Tr (Bool) :=
 .call (text_Same.f s a1) fun y1 =>
 .ret y1
def f (a1 : List UInt8) (s : List UInt8) : Option (Bool) := (t a1 s).val
def F (x : D.den) : Option (Bool) := f x.1.1 x.2.1
def pa : D.den → (Bool) → A.den := fun ((a1, _), (_, _)) y1 => ((a1, ()), y1)
def con : Con := tcon D A pa F
theorem ok : ConOk Tryz.prog 161 con := tcon_ok Base.mixed Base.prog_ok bk_framing_Length_ok (by kernel_rfl) LapsOk.nil 9 (fun _ => rfl) (fun x => t x.1.1 x.2.1) (fun _ => rfl) fun _ _ _ => (by kernel_rfl)
end record_says_1
def bk_record_says_1 : Book := bk_framing_Length.add 161 record_says_1.con
theorem bk_record_says_1_ok : BookOk Tryz.prog bk_record_says_1 := bk_framing_Length_ok.add record_says_1.ok
namespace slices_IndexFunc_f_record_says_1
def D : Dom := ⟨[.vec .str 9 true, .cells .str 9 false], (.cat (.sl 0 1) (.func (.func 161) .nil (.ptr 1 0 0 0)))⟩
namespace L2
def D : Dom := ⟨[.vec .str 9 true, .cells .str 9 false], (.cat (.sl 0 1) (.cat (.func (.func 161) .nil (.ptr 1 0 0 0)) (.cat (.int .i64) (.int .i64))))⟩
def A : Dom := ⟨[.vec .str 9 true, .cells .str 9 false], .nil⟩
def B : Dom := ⟨[.vec .str 9 true, .cells .str 9 false], (.int .i64)⟩
def sel : List Nat := [0, 1, 2, 3]
def t (s : List (List UInt8)) (r1 : List UInt8) (t7 : Int) (t8 : Int) : Tr ((Int) ⊕ ((Unit) ⊕ (Int))) :=
 .br (decide (t8 < t7)) (.chk ((0 : Int) ≤ t8 ∧ t8 < (↑s.length : Int)) <| .chk ((0 : Nat) + t8.toNat < s.length) <| .call (record_says_1.f r1 (s.getD ((0 : Nat) + t8.toNat) [])) fun y1 =>
  .br y1 (.ret (.inr (.inr t8)))
  (.okl s.length <| .ret (.inl (IntKind.i64.wrap (t8 + (1 : Int))))))
 (.ret (.inr (.inl ())))
def f (s : List (List UInt8)) (r1 : List UInt8) (t7 : Int) (t8 : Int) : Option ((Unit) ⊕ (Int)) := Loop (fun z : Int => t s r1 t7 z) t8
def F (x : D.den) : Option ((Unit) ⊕ (Int)) := f x.1.1 x.1.2.1 x.2.2.2.1 x.2.2.2.2
def pa : D.den → (Unit) → A.den := fun ((s, (r1, _)), (_, ((_, _), (_, _)))) _ => ((s, (r1, ())), ())
def pb : D.den → (Int) → B.den := fun ((s, (r1, _)), (_, ((_, _), (_, _)))) y1 => ((s, (r1, ())), y1)
def lap : Lap := tlap2 2 19 [0, 1, 7, 8] D (.exit 0) [] A .ret [4] B pa pb F
def pk (x : D.den) (z : Int) : D.den := ((x.1.1, (x.1.2.1, ())), ((), (((), ()), (x.2.2.2.1, z))))
def un (x : D.den) : Int := x.2.2.2.2
def body (x : D.den) (z : Int) : Tr ((Int) ⊕ ((Unit) ⊕ (Int))) := t x.1.1 x.1.2.1 x.2.2.2.1 z
theorem ok : LapOk Tryz.prog 2 (codeOf Tryz.prog 190) lap := tlap2_ok Base.mixed Base.prog_ok bk_record_says_1_ok (by kernel_rfl) (by kernel_rfl) LapsOk.nil 9 pk un body (fun _ _ => rfl) (fun _ _ => rfl) (fun _ _ => rfl) (fun _ _ => rfl) (fun _ => rfl) fun _ _ _ _ => (by kernel_rfl)
end L2
def A : Dom := ⟨[.vec .str 9 true, .cells .str 9 false], (.int .i64)⟩
def sel : List Nat := [0, 1]
def t (s : List (List UInt8)) (vf : List UInt8) : Tr (Int) :=
 .okl s.length <| .both (slices_IndexFunc_f_record_says_1.L2.f s vf (↑s.length : Int) (0 : Int)) (fun _ => .ret (-1 : Int))
 (fun y2 => .ret y2)
def f (s : List (List UInt8)) (vf : List UInt8) : Option (Int) := (t s vf).val
def F (x : D.den) : Option (Int) := f x.1.1 x.1.2.1
def pa : D.den → (Int) → A.den := fun ((s, (vf, _)), (_, (_, _))) y1 => ((s, (vf, ())), y1)
def con : Con := tcon D A pa F
theorem ok : ConOk Tryz.prog 190 con := tcon_ok Base.mixed Base.prog_ok bk_record_says_1_ok (by kernel_rfl) (.cons L2.ok (by kernel_rfl) (.nil)) 9 (fun _ => rfl) (fun x => t x.1.1 x.1.2.1) (fun _ => rfl) fun _ _ _ => (by kernel_rfl)
end slices_IndexFunc_f_record_says_1
def bk_slices_IndexFunc_f_record_says_1 : Book := bk_record_says_1.addS 190 (fun a => isFunc 1 161 a) slices_IndexFunc_f_record_says_1.con
theorem bk_slices_IndexFunc_f_record_says_1_ok : BookOk Tryz.prog bk_slices_IndexFunc_f_record_says_1 := bk_record_says_1_ok.addS slices_IndexFunc_f_record_says_1.ok
namespace slices_ContainsFunc_f_record_says_1
def D : Dom := ⟨[.vec .str 9 true, .cells .str 9 false], (.cat (.sl 0 1) (.func (.func 161) .nil (.ptr 1 0 0 0)))⟩
def A : Dom := ⟨[.vec .str 9 true, .cells .str 9 false], .bool⟩
def sel : List Nat := [0, 1]
def t (s : List (List UInt8)) (vf : List UInt8) : Tr (Bool) :=
 .chk ((0 : Nat) + s.length ≤ s.length) <| .call (slices_IndexFunc_f_record_says_1.f (List.take s.length (List.drop (0 : Nat) s)) vf) fun y1 =>
 .ret (decide (y1 ≥ (0 : Int)))
def f (s : List (List UInt8)) (vf : List UInt8) : Option (Bool) := (t s vf).val
def F (x : D.den) : Option (Bool) := f x.1.1 x.1.2.1
def pa : D.den → (Bool) → A.den := fun ((s, (vf, _)), (_, (_, _))) y1 => ((s, (vf, ())), y1)
def con : Con := tcon D A pa F
theorem ok : ConOk Tryz.prog 151 con := tcon_ok Base.mixed Base.prog_ok bk_slices_IndexFunc_f_record_says_1_ok (by kernel_rfl) LapsOk.nil 9 (fun _ => rfl) (fun x => t x.1.1 x.1.2.1) (fun _ => rfl) fun _ _ _ => (by kernel_rfl)
end slices_ContainsFunc_f_record_says_1
def bk_slices_ContainsFunc_f_record_says_1 : Book := bk_slices_IndexFunc_f_record_says_1.addS 151 (fun a => isFunc 1 161 a) slices_ContainsFunc_f_record_says_1.con
theorem bk_slices_ContainsFunc_f_record_says_1_ok : BookOk Tryz.prog bk_slices_ContainsFunc_f_record_says_1 := bk_slices_IndexFunc_f_record_says_1_ok.addS slices_ContainsFunc_f_record_says_1.ok
namespace record_says
def D : Dom := ⟨[.vec (.pair .str .str) 72 true, .vec .byte 5 true, .vec (.pair .str .str) 72 true], (.cat (.agg (.cat .str (.cat .str (.cat (.int .i64) (.cat (.sl 0 2) (.cat .bool (.cat (.sl 1 1) (.sl 2 2)))))))) (.cat .str .str))⟩
def A : Dom := ⟨[.vec (.pair .str .str) 72 true, .vec .byte 5 true, .vec (.pair .str .str) 72 true], .bool⟩
def sel : List Nat := [0, 7, 8]
def t (Fields : List (List UInt8 × List UInt8)) (field : List UInt8) (what : List UInt8) : Tr (Bool) :=
 .chk ((0 : Nat) + Fields.length ≤ Fields.length) <| .call (text_Find.f (List.take Fields.length (List.drop (0 : Nat) Fields)) field) fun y1 =>
 .chk ((0 : Nat) + y1.length ≤ y1.length) <| .call (text_List.f (List.take y1.length (List.drop (0 : Nat) y1))) fun y2 =>
 .chk ((0 : Nat) + y2.length ≤ y2.length) <| .call (slices_ContainsFunc_f_record_says_1.f (List.take y2.length (List.drop (0 : Nat) y2)) what) fun y3 =>
 .ret y3
def f (Fields : List (List UInt8 × List UInt8)) (field : List UInt8) (what : List UInt8) : Option (Bool) := (t Fields field what).val
def F (x : D.den) : Option (Bool) := f x.1.1 x.2.2.1 x.2.2.2
def pa : D.den → (Bool) → A.den := fun ((Fields, (Body, (Trailers, _))), ((_, (_, (_, (_, (_, (_, _)))))), (_, _))) y1 => ((Fields, (Body, (Trailers, ()))), y1)
def con : Con := tcon D A pa F
theorem ok : ConOk Tryz.prog 122 con := tcon_ok Base.mixed Base.prog_ok bk_slices_ContainsFunc_f_record_says_1_ok (by kernel_rfl) LapsOk.nil 9 (fun _ => rfl) (fun x => t x.1.1 x.2.2.1 x.2.2.2) (fun _ => rfl) fun _ _ _ => (by kernel_rfl)
end record_says
def bk_record_says : Book := bk_slices_ContainsFunc_f_record_says_1.add 122 record_says.con
theorem bk_record_says_ok : BookOk Tryz.prog bk_record_says := bk_slices_ContainsFunc_f_record_says_1_ok.add record_says.ok
namespace record_Expects
def D : Dom := ⟨[.vec (.pair .str .str) 72 true, .vec .byte 5 true, .vec (.pair .str .str) 72 true], (.agg (.cat .str (.cat .str (.cat (.int .i64) (.cat (.sl 0 2) (.cat .bool (.cat (.sl 1 1) (.sl 2 2))))))))⟩
def A : Dom := ⟨[.vec (.pair .str .str) 72 true, .vec .byte 5 true, .vec (.pair .str .str) 72 true], .bool⟩
def sel : List Nat := [0, 1, 2, 5]
def t (Fields : List (List UInt8 × List UInt8)) (Body : List UInt8) (Trailers : List (List UInt8 × List UInt8)) (Minor : Int) : Tr (Bool) :=
 .br (Minor == (1 : Int)) (.chk ((0 : Nat) + Fields.length ≤ Fields.length) <| .chk ((0 : Nat) + Body.length ≤ Body.length) <| .chk ((0 : Nat) + Trailers.length ≤ Trailers.length) <| .call (record_says.f (List.take Fields.length (List.drop (0 : Nat) Fields)) [(69 : UInt8), (120 : UInt8), (112 : UInt8), (101 : UInt8), (99 : UInt8), (116 : UInt8)] [(49 : UInt8), (48 : UInt8), (48 : UInt8), (45 : UInt8), (99 : UInt8), (111 : UInt8), (110 : UInt8), (116 : UInt8), (105 : UInt8), (110 : UInt8), (117 : UInt8), (101 : UInt8)]) fun y1 =>
  .ret y1)
 (.ret false)
def f (Fields : List (List UInt8 × List UInt8)) (Body : List UInt8) (Trailers : List (List UInt8 × List UInt8)) (Minor : Int) : Option (Bool) := (t Fields Body Trailers Minor).val
def F (x : D.den) : Option (Bool) := f x.1.1 x.1.2.1 x.1.2.2.1 x.2.2.2.1
def pa : D.den → (Bool) → A.den := fun ((Fields, (Body, (Trailers, _))), (_, (_, (_, (_, (_, (_, _))))))) y1 => ((Fields, (Body, (Trailers, ()))), y1)
def con : Con := tcon D A pa F
theorem ok : ConOk Tryz.prog 100 con := tcon_ok Base.mixed Base.prog_ok bk_record_says_ok (by kernel_rfl) LapsOk.nil 9 (fun _ => rfl) (fun x => t x.1.1 x.1.2.1 x.1.2.2.1 x.2.2.2.1) (fun _ => rfl) fun _ _ _ => (by kernel_rfl)
end record_Expects
def bk_record_Expects : Book := bk_record_says.add 100 record_Expects.con
theorem bk_record_Expects_ok : BookOk Tryz.prog bk_record_Expects := bk_record_says_ok.add record_Expects.ok
namespace number_Hex
def D : Dom := ⟨[], (.cat .str (.int .i64))⟩
def A : Dom := ⟨[], (.tup (.cat (.int .i64) (.int .i64)))⟩
def sel : List Nat := [0, 1]
def t (s : List UInt8) (most : Int) : Tr (Int × Int) :=
 .call (number_read.f s (16 : Int) most (5 : Int)) fun (y1a, y1b) =>
 .ret (y1a, y1b)
def f (s : List UInt8) (most : Int) : Option (Int × Int) := (t s most).val
def F (x : D.den) : Option (Int × Int) := f x.2.1 x.2.2
def pa : D.den → (Int × Int) → A.den := fun (_, (_, _)) (y1, y2) => ((), (y1, y2))
def con : Con := tcon D A pa F
theorem ok : ConOk Tryz.prog 129 con := tcon_ok Base.mixed Base.prog_ok bk_record_Expects_ok (by kernel_rfl) LapsOk.nil 9 (fun _ => rfl) (fun x => t x.2.1 x.2.2) (fun _ => rfl) fun _ _ _ => (by kernel_rfl)
end number_Hex
def bk_number_Hex : Book := bk_record_Expects.add 129 number_Hex.con
theorem bk_number_Hex_ok : BookOk Tryz.prog bk_number_Hex := bk_record_Expects_ok.add number_Hex.ok
namespace internal_stringslite_Index_sx3b
def D : Dom := ⟨[], (.cat .str (.lit (.str false [59])))⟩
def A : Dom := ⟨[], (.int .i64)⟩
def sel : List Nat := [0]
def t (s : List UInt8) : Tr (Int) :=
 .br ([(59 : UInt8)] == s) (.ret (0 : Int))
 (.call (slite_IndexByte.f s (59 : Int)) fun y1 =>
  .ret y1)
def f (s : List UInt8) : Option (Int) := (t s).val
def F (x : D.den) : Option (Int) := f x.2.1
def pa : D.den → (Int) → A.den := fun (_, (_, _)) y1 => ((), y1)
def con : Con := tcon D A pa F
theorem ok : ConOk Tryz.prog 195 con := tcon_ok Base.mixed Base.prog_ok bk_number_Hex_ok (by kernel_rfl) LapsOk.nil 9 (fun _ => rfl) (fun x => t x.2.1) (fun _ => rfl) fun _ _ _ => (by kernel_rfl)
end internal_stringslite_Index_sx3b
def bk_internal_stringslite_Index_sx3b : Book := bk_number_Hex.addS 195 (fun a => isStr 1 [59] a) internal_stringslite_Index_sx3b.con
theorem bk_internal_stringslite_Index_sx3b_ok : BookOk Tryz.prog bk_internal_stringslite_Index_sx3b := bk_number_Hex_ok.addS internal_stringslite_Index_sx3b.ok
namespace internal_stringslite_Cut_sx3b
def D : Dom := ⟨[], (.cat .str (.lit (.str false [59])))⟩
def A : Dom := ⟨[], (.tup (.cat .str (.cat .str .bool)))⟩
def sel : List Nat := [0]
def t (s : List UInt8) : Tr (List UInt8 × List UInt8 × Bool) :=
 .call (internal_stringslite_Index_sx3b.f s) fun y1 =>
 .br (decide (y1 ≥ (0 : Int))) (.chk ((0 : Int) ≤ (0 : Int) ∧ (0 : Int) ≤ y1 ∧ y1 ≤ (↑s.length : Int)) <| .chk ((0 : Int) ≤ IntKind.i64.wrap (y1 + (1 : Int)) ∧ IntKind.i64.wrap (y1 + (1 : Int)) ≤ (↑s.length : Int) ∧ (↑s.length : Int) ≤ (↑s.length : Int)) <| .ret (List.drop (↑(0 : Nat) : Int).toNat (List.take y1.toNat s), List.drop (IntKind.i64.wrap (y1 + (1 : Int))).toNat (List.take (↑s.length : Int).toNat s), true))
 (.ret (s, [], false))
def f (s : List UInt8) : Option (List UInt8 × List UInt8 × Bool) := (t s).val
def F (x : D.den) : Option (List UInt8 × List UInt8 × Bool) := f x.2.1
def pa : D.den → (List UInt8 × List UInt8 × Bool) → A.den := fun (_, (_, _)) (y1, y2, y3) => ((), (y1, (y2, y3)))
def con : Con := tcon D A pa F
theorem ok : ConOk Tryz.prog 163 con := tcon_ok Base.mixed Base.prog_ok bk_internal_stringslite_Index_sx3b_ok (by kernel_rfl) LapsOk.nil 9 (fun _ => rfl) (fun x => t x.2.1) (fun _ => rfl) fun _ _ _ => (by kernel_rfl)
end internal_stringslite_Cut_sx3b
def bk_internal_stringslite_Cut_sx3b : Book := bk_internal_stringslite_Index_sx3b.addS 163 (fun a => isStr 1 [59] a) internal_stringslite_Cut_sx3b.con
theorem bk_internal_stringslite_Cut_sx3b_ok : BookOk Tryz.prog bk_internal_stringslite_Cut_sx3b := bk_internal_stringslite_Index_sx3b_ok.addS internal_stringslite_Cut_sx3b.ok
namespace strings_Cut_sx3b
def D : Dom := ⟨[], (.cat .str (.lit (.str false [59])))⟩
def A : Dom := ⟨[], (.tup (.cat .str (.cat .str .bool)))⟩
def sel : List Nat := [0]
def t (s : List UInt8) : Tr (List UInt8 × List UInt8 × Bool) :=
 .call (internal_stringslite_Cut_sx3b.f s) fun (y1a, y1b, y1c) =>
 .ret (y1a, y1b, y1c)
def f (s : List UInt8) : Option (List UInt8 × List UInt8 × Bool) := (t s).val
def F (x : D.den) : Option (List UInt8 × List UInt8 × Bool) := f x.2.1
def pa : D.den → (List UInt8 × List UInt8 × Bool) → A.den := fun (_, (_, _)) (y1, y2, y3) => ((), (y1, (y2, y3)))
def con : Con := tcon D A pa F
theorem ok : ConOk Tryz.prog 125 con := tcon_ok Base.mixed Base.prog_ok bk_internal_stringslite_Cut_sx3b_ok (by kernel_rfl) LapsOk.nil 9 (fun _ => rfl) (fun x => t x.2.1) (fun _ => rfl) fun _ _ _ => (by kernel_rfl)
end strings_Cut_sx3b
def bk_strings_Cut_sx3b : Book := bk_internal_stringslite_Cut_sx3b.addS 125 (fun a => isStr 1 [59] a) strings_Cut_sx3b.con
theorem bk_strings_Cut_sx3b_ok : BookOk Tryz.prog bk_strings_Cut_sx3b := bk_internal_stringslite_Cut_sx3b_ok.addS strings_Cut_sx3b.ok
namespace internal_stringslite_HasPrefix_s0x
def D : Dom := ⟨[], (.cat .str (.lit (.str false [48, 120])))⟩
def A : Dom := ⟨[], .bool⟩
def sel : List Nat := [0]
def t (s : List UInt8) : Tr (Bool) :=
 .br (decide ((↑s.length : Int) ≥ (2 : Int))) (.chk ((0 : Int) ≤ (0 : Int) ∧ (0 : Int) ≤ (2 : Int) ∧ (2 : Int) ≤ (↑s.length : Int)) <| .ret (List.drop (↑(0 : Nat) : Int).toNat (List.take (Int.toNat (2 : Int)) s) == [(48 : UInt8), (120 : UInt8)]))
 (.ret false)
def f (s : List UInt8) : Option (Bool) := (t s).val
def F (x : D.den) : Option (Bool) := f x.2.1
def pa : D.den → (Bool) → A.den := fun (_, (_, _)) y1 => ((), y1)
def con : Con := tcon D A pa F
theorem ok : ConOk Tryz.prog 168 con := tcon_ok Base.mixed Base.prog_ok bk_strings_Cut_sx3b_ok (by kernel_rfl) LapsOk.nil 9 (fun _ => rfl) (fun x => t x.2.1) (fun _ => rfl) fun _ _ _ => (by kernel_rfl)
end internal_stringslite_HasPrefix_s0x
def bk_internal_stringslite_HasPrefix_s0x : Book := bk_strings_Cut_sx3b.addS 168 (fun a => isStr 1 [48, 120] a) internal_stringslite_HasPrefix_s0x.con
theorem bk_internal_stringslite_HasPrefix_s0x_ok : BookOk Tryz.prog bk_internal_stringslite_HasPrefix_s0x := bk_strings_Cut_sx3b_ok.addS internal_stringslite_HasPrefix_s0x.ok
namespace strings_HasPrefix_s0x
def D : Dom := ⟨[], (.cat .str (.lit (.str false [48, 120])))⟩
def A : Dom := ⟨[], .bool⟩
def sel : List Nat := [0]
def t (s : List UInt8) : Tr (Bool) :=
 .call (internal_stringslite_HasPrefix_s0x.f s) fun y1 =>
 .ret y1
def f (s : List UInt8) : Option (Bool) := (t s).val
def F (x : D.den) : Option (Bool) := f x.2.1
def pa : D.den → (Bool) → A.den := fun (_, (_, _)) y1 => ((), y1)
def con : Con := tcon D A pa F
theorem ok : ConOk Tryz.prog 128 con := tcon_ok Base.mixed Base.prog_ok bk_internal_stringslite_HasPrefix_s0x_ok (by kernel_rfl) LapsOk.nil 9 (fun _ => rfl) (fun x => t x.2.1) (fun _ => rfl) fun _ _ _ => (by kernel_rfl)
end strings_HasPrefix_s0x
def bk_strings_HasPrefix_s0x : Book := bk_internal_stringslite_HasPrefix_s0x.addS 128 (fun a => isStr 1 [48, 120] a) strings_HasPrefix_s0x.con
theorem bk_strings_HasPrefix_s0x_ok : BookOk Tryz.prog bk_strings_HasPrefix_s0x := bk_internal_stringslite_HasPrefix_s0x_ok.addS strings_HasPrefix_s0x.ok
namespace internal_stringslite_HasPrefix_s0X
def D : Dom := ⟨[], (.cat .str (.lit (.str false [48, 88])))⟩
def A : Dom := ⟨[], .bool⟩
def sel : List Nat := [0]
def t (s : List UInt8) : Tr (Bool) :=
 .br (decide ((↑s.length : Int) ≥ (2 : Int))) (.chk ((0 : Int) ≤ (0 : Int) ∧ (0 : Int) ≤ (2 : Int) ∧ (2 : Int) ≤ (↑s.length : Int)) <| .ret (List.drop (↑(0 : Nat) : Int).toNat (List.take (Int.toNat (2 : Int)) s) == [(48 : UInt8), (88 : UInt8)]))
 (.ret false)
def f (s : List UInt8) : Option (Bool) := (t s).val
def F (x : D.den) : Option (Bool) := f x.2.1
def pa : D.den → (Bool) → A.den := fun (_, (_, _)) y1 => ((), y1)
def con : Con := tcon D A pa F
theorem ok : ConOk Tryz.prog 168 con := tcon_ok Base.mixed Base.prog_ok bk_strings_HasPrefix_s0x_ok (by kernel_rfl) LapsOk.nil 9 (fun _ => rfl) (fun x => t x.2.1) (fun _ => rfl) fun _ _ _ => (by kernel_rfl)
end internal_stringslite_HasPrefix_s0X
def bk_internal_stringslite_HasPrefix_s0X : Book := bk_strings_HasPrefix_s0x.addS 168 (fun a => isStr 1 [48, 88] a) internal_stringslite_HasPrefix_s0X.con
theorem bk_internal_stringslite_HasPrefix_s0X_ok : BookOk Tryz.prog bk_internal_stringslite_HasPrefix_s0X := bk_strings_HasPrefix_s0x_ok.addS internal_stringslite_HasPrefix_s0X.ok
namespace strings_HasPrefix_s0X
def D : Dom := ⟨[], (.cat .str (.lit (.str false [48, 88])))⟩
def A : Dom := ⟨[], .bool⟩
def sel : List Nat := [0]
def t (s : List UInt8) : Tr (Bool) :=
 .call (internal_stringslite_HasPrefix_s0X.f s) fun y1 =>
 .ret y1
def f (s : List UInt8) : Option (Bool) := (t s).val
def F (x : D.den) : Option (Bool) := f x.2.1
def pa : D.den → (Bool) → A.den := fun (_, (_, _)) y1 => ((), y1)
def con : Con := tcon D A pa F
theorem ok : ConOk Tryz.prog 128 con := tcon_ok Base.mixed Base.prog_ok bk_internal_stringslite_HasPrefix_s0X_ok (by kernel_rfl) LapsOk.nil 9 (fun _ => rfl) (fun x => t x.2.1) (fun _ => rfl) fun _ _ _ => (by kernel_rfl)
end strings_HasPrefix_s0X
def bk_strings_HasPrefix_s0X : Book := bk_internal_stringslite_HasPrefix_s0X.addS 128 (fun a => isStr 1 [48, 88] a) strings_HasPrefix_s0X.con
theorem bk_strings_HasPrefix_s0X_ok : BookOk Tryz.prog bk_strings_HasPrefix_s0X := bk_internal_stringslite_HasPrefix_s0X_ok.addS strings_HasPrefix_s0X.ok
namespace chunk_Size
def D : Dom := ⟨[], (.cat .str (.cat (.int .u32) (.agg (.cat (.int .i64) (.cat (.int .i64) (.cat (.int .i64) (.cat (.int .i64) (.cat (.int .i64) (.cat (.int .i64) (.cat (.int .i64) (.cat (.int .i64) (.cat .bool .bool))))))))))))⟩
def A : Dom := ⟨[], (.tup (.cat (.int .i64) (.int .i64)))⟩
def sel : List Nat := [0, 1, 5, 6]
def t (s : List UInt8) (p : Int) (Body : Int) (Ext : Int) : Tr (Int × Int) :=
 .call (strings_Cut_sx3b.f s) fun (y1a, _, _) =>
 .chk ((0 : Int) ≤ (↑y1a.length : Int) ∧ (↑y1a.length : Int) ≤ (↑s.length : Int) ∧ (↑s.length : Int) ≤ (↑s.length : Int)) <| .br (decide ((↑(List.drop (↑y1a.length : Int).toNat (List.take (↑s.length : Int).toNat s)).length : Int) > Ext)) (.ret ((0 : Int), (400 : Int)))
 (.call (octet_All.f [(6 : Int)] (List.drop (↑y1a.length : Int).toNat (List.take (↑s.length : Int).toNat s))) fun y2 =>
  .br (!y2) (.ret ((0 : Int), (400 : Int)))
  (.call (quirks_Has.f p (28 : Int)) fun y3 =>
  .br y3 (.call (text_Trim.f y1a) fun y4 =>
   .call (quirks_Has.f p (27 : Int)) fun y5 =>
   .br y5 (.call (strings_HasPrefix_s0x.f y4) fun y6 =>
   .br y6 (.chk ((0 : Int) ≤ (2 : Int) ∧ (2 : Int) ≤ (↑y4.length : Int) ∧ (↑y4.length : Int) ≤ (↑y4.length : Int)) <| .call (number_Hex.f (List.drop (Int.toNat (2 : Int)) (List.take (↑y4.length : Int).toNat y4)) Body) fun (y7a, y7b) =>
    .br (y7b == (23 : Int)) (.ret ((0 : Int), (413 : Int)))
    (.br (y7b == (22 : Int)) (.ret ((0 : Int), (400 : Int)))
    (.ret (y7a, (0 : Int)))))
   (.call (strings_HasPrefix_s0X.f y4) fun y8 =>
    .br y8 (.chk ((0 : Int) ≤ (2 : Int) ∧ (2 : Int) ≤ (↑y4.length : Int) ∧ (↑y4.length : Int) ≤ (↑y4.length : Int)) <| .call (number_Hex.f (List.drop (Int.toNat (2 : Int)) (List.take (↑y4.length : Int).toNat y4)) Body) fun (y9a, y9b) =>
    .br (y9b == (23 : Int)) (.ret ((0 : Int), (413 : Int)))
    (.br (y9b == (22 : Int)) (.ret ((0 : Int), (400 : Int)))
     (.ret (y9a, (0 : Int)))))
    (.call (number_Hex.f y4 Body) fun (y10a, y10b) =>
    .br (y10b == (23 : Int)) (.ret ((0 : Int), (413 : Int)))
    (.br (y10b == (22 : Int)) (.ret ((0 : Int), (400 : Int)))
     (.ret (y10a, (0 : Int)))))))
   (.call (number_Hex.f y4 Body) fun (y11a, y11b) =>
   .br (y11b == (23 : Int)) (.ret ((0 : Int), (413 : Int)))
   (.br (y11b == (22 : Int)) (.ret ((0 : Int), (400 : Int)))
    (.ret (y11a, (0 : Int))))))
  (.call (quirks_Has.f p (27 : Int)) fun y12 =>
   .br y12 (.call (strings_HasPrefix_s0x.f y1a) fun y13 =>
   .br y13 (.chk ((0 : Int) ≤ (2 : Int) ∧ (2 : Int) ≤ (↑y1a.length : Int) ∧ (↑y1a.length : Int) ≤ (↑y1a.length : Int)) <| .call (number_Hex.f (List.drop (Int.toNat (2 : Int)) (List.take (↑y1a.length : Int).toNat y1a)) Body) fun (y14a, y14b) =>
    .br (y14b == (23 : Int)) (.ret ((0 : Int), (413 : Int)))
    (.br (y14b == (22 : Int)) (.ret ((0 : Int), (400 : Int)))
    (.ret (y14a, (0 : Int)))))
   (.call (strings_HasPrefix_s0X.f y1a) fun y15 =>
    .br y15 (.chk ((0 : Int) ≤ (2 : Int) ∧ (2 : Int) ≤ (↑y1a.length : Int) ∧ (↑y1a.length : Int) ≤ (↑y1a.length : Int)) <| .call (number_Hex.f (List.drop (Int.toNat (2 : Int)) (List.take (↑y1a.length : Int).toNat y1a)) Body) fun (y16a, y16b) =>
    .br (y16b == (23 : Int)) (.ret ((0 : Int), (413 : Int)))
    (.br (y16b == (22 : Int)) (.ret ((0 : Int), (400 : Int)))
     (.ret (y16a, (0 : Int)))))
    (.call (number_Hex.f y1a Body) fun (y17a, y17b) =>
    .br (y17b == (23 : Int)) (.ret ((0 : Int), (413 : Int)))
    (.br (y17b == (22 : Int)) (.ret ((0 : Int), (400 : Int)))
     (.ret (y17a, (0 : Int)))))))
   (.call (number_Hex.f y1a Body) fun (y18a, y18b) =>
   .br (y18b == (23 : Int)) (.ret ((0 : Int), (413 : Int)))
   (.br (y18b == (22 : Int)) (.ret ((0 : Int), (400 : Int)))
    (.ret (y18a, (0 : Int))))))))
def f (s : List UInt8) (p : Int) (Body : Int) (Ext : Int) : Option (Int × Int) := (t s p Body Ext).val
def F (x : D.den) : Option (Int × Int) := f x.2.1 x.2.2.1 x.2.2.2.2.2.2.1 x.2.2.2.2.2.2.2.1
def pa : D.den → (Int × Int) → A.den := fun (_, (_, (_, (_, (_, (_, (_, (_, (_, (_, (_, (_, _)))))))))))) (y1, y2) => ((), (y1, y2))
def con : Con := tcon D A pa F
theorem ok : ConOk Tryz.prog 104 con := tcon_ok Base.mixed Base.prog_ok bk_strings_HasPrefix_s0X_ok (by kernel_rfl) LapsOk.nil 9 (fun _ => rfl) (fun x => t x.2.1 x.2.2.1 x.2.2.2.2.2.2.1 x.2.2.2.2.2.2.2.1) (fun _ => rfl) fun _ _ _ => (by kernel_rfl)
end chunk_Size
def bk_chunk_Size : Book := bk_strings_HasPrefix_s0X.add 104 chunk_Size.con
theorem bk_chunk_Size_ok : BookOk Tryz.prog bk_chunk_Size := bk_strings_HasPrefix_s0X_ok.add chunk_Size.ok
namespace parser_Parser_chunk
def D : Dom := ⟨[.cells (.cat (.ptr 1 0 0 0) (.cat .str (.cat .str (.cat (.int .i64) (.cat (.sl 3 2) (.cat .bool (.cat (.sl 4 1) (.cat (.sl 5 2) (.cat (.int .i64) (.cat (.int .i64) (.cat (.int .i64) (.cat (.int .i64) (.cat .bool (.cat .bool (.cat (.int .u32) (.cat (.int .i64) (.cat (.int .i64) (.cat (.int .i64) (.cat (.int .i64) (.cat (.int .i64) (.cat (.int .i64) (.cat (.int .i64) (.cat (.int .i64) (.cat .bool (.cat .bool (.cat (.int .i64) (.sl 6 7))))))))))))))))))))))))))) 84 false, .cells (.cat (.int .u32) (.cat (.int .i64) (.cat (.sl 2 1) (.cat .bool (.cat .bool .bool))))) 110 false, .vec .byte 5 false, .vec (.pair .str .str) 72 false, .vec .byte 5 false, .vec (.pair .str .str) 72 false, .vec (.pair .str (.pair .str (.pair (.int .i64) (.pair (.sl (.pair .str .str)) (.pair .bool (.pair (.sl .byte) (.sl (.pair .str .str)))))))) 47 false], (.cat (.ptr 0 0 0 0) .str)⟩
def A : Dom := ⟨[.cells (.cat (.ptr 7 0 0 0) (.cat .str (.cat .str (.cat (.int .i64) (.cat (.sl 3 2) (.cat .bool (.cat (.sl 4 1) (.cat (.sl 5 2) (.cat (.int .i64) (.cat (.int .i64) (.cat (.int .i64) (.cat (.int .i64) (.cat .bool (.cat .bool (.cat (.int .u32) (.cat (.int .i64) (.cat (.int .i64) (.cat (.int .i64) (.cat (.int .i64) (.cat (.int .i64) (.cat (.int .i64) (.cat (.int .i64) (.cat (.int .i64) (.cat .bool (.cat .bool (.cat (.int .i64) (.sl 6 7))))))))))))))))))))))))))) 84 false, .dead, .dead, .vec (.pair .str .str) 72 false, .vec .byte 5 false, .vec (.pair .str .str) 72 false, .vec (.pair .str (.pair .str (.pair (.int .i64) (.pair (.sl (.pair .str .str)) (.pair .bool (.pair (.sl .byte) (.sl (.pair .str .str)))))))) 47 false, .cells (.cat (.int .u32) (.cat (.int .i64) (.cat (.sl 8 1) (.cat .bool (.cat .bool .bool))))) 110 false, .vec .byte 5 false], (.tup .nil)⟩
def sel : List Nat := [4, 5, 7, 10, 11, 14, 15, 21, 22, 23, 24, 25, 26, 27, 28, 29, 30, 31, 32]
def t (stage : Int) (lines : Int) (need : Int) (p : Int) (Line : Int) (Body : Int) (Ext : Int) (err : Int) (p_2 : Int) (most : Int) (pending : Bool) (over : Bool) (bad : Bool) (b : List UInt8) (Fields_2 : List (List UInt8 × List UInt8)) (Body_2 : List UInt8) (Trailers_2 : List (List UInt8 × List UInt8)) (out : List (List UInt8 × List UInt8 × Int × List (List UInt8 × List UInt8) × Bool × List UInt8 × List (List UInt8 × List UInt8))) (s : List UInt8) : Tr (Int × Int × Int × Int × Int × Int × Bool × Bool × Bool × List UInt8) :=
 .call (chunk_Size.f s p Body Ext) fun (y1a, y1b) =>
 .br (y1b != (0 : Int)) (.okl b.length <| .okl Fields_2.length <| .okl Body_2.length <| .okl Trailers_2.length <| .okl out.length <| .call (parser_Parser_fail.f b Fields_2 Body_2 Trailers_2 out) fun _ =>
  .okl Fields_2.length <| .okl Body_2.length <| .okl Trailers_2.length <| .okl out.length <| .okl b.length <| .ret (stage, lines, need, y1b, p_2, most, pending, over, bad, b))
 (.br (decide (y1a > IntKind.i64.wrap (Body - (↑Body_2.length : Int)))) (.okl b.length <| .okl Fields_2.length <| .okl Body_2.length <| .okl Trailers_2.length <| .okl out.length <| .call (parser_Parser_fail.f b Fields_2 Body_2 Trailers_2 out) fun _ =>
  .okl Fields_2.length <| .okl Body_2.length <| .okl Trailers_2.length <| .okl out.length <| .okl b.length <| .ret (stage, lines, need, (413 : Int), p_2, most, pending, over, bad, b))
  (.br (y1a == (0 : Int)) (.okl b.length <| .okl Fields_2.length <| .okl Body_2.length <| .okl Trailers_2.length <| .okl out.length <| .call (parser_Parser_to.f Line b Fields_2 Body_2 Trailers_2 out (6 : Int)) fun (y4a, y4b, y4c, y4d, y4e) =>
   .okl Fields_2.length <| .okl Body_2.length <| .okl Trailers_2.length <| .okl out.length <| .okl y4e.length <| .ret ((6 : Int), (0 : Int), need, err, p, y4a, y4b, y4c, y4d, y4e))
  (.okl Fields_2.length <| .okl Body_2.length <| .okl Trailers_2.length <| .okl out.length <| .okl b.length <| .ret ((4 : Int), lines, y1a, err, p_2, most, pending, over, bad, b))))
def f (stage : Int) (lines : Int) (need : Int) (p : Int) (Line : Int) (Body : Int) (Ext : Int) (err : Int) (p_2 : Int) (most : Int) (pending : Bool) (over : Bool) (bad : Bool) (b : List UInt8) (Fields_2 : List (List UInt8 × List UInt8)) (Body_2 : List UInt8) (Trailers_2 : List (List UInt8 × List UInt8)) (out : List (List UInt8 × List UInt8 × Int × List (List UInt8 × List UInt8) × Bool × List UInt8 × List (List UInt8 × List UInt8))) (s : List UInt8) : Option (Int × Int × Int × Int × Int × Int × Bool × Bool × Bool × List UInt8) := (t stage lines need p Line Body Ext err p_2 most pending over bad b Fields_2 Body_2 Trailers_2 out s).val
def F (x : D.den) : Option (Int × Int × Int × Int × Int × Int × Bool × Bool × Bool × List UInt8) := f x.1.1.2.2.2.2.2.2.2.2.1 x.1.1.2.2.2.2.2.2.2.2.2.1 x.1.1.2.2.2.2.2.2.2.2.2.2.2.1 x.1.1.2.2.2.2.2.2.2.2.2.2.2.2.2.2.1 x.1.1.2.2.2.2.2.2.2.2.2.2.2.2.2.2.2.1 x.1.1.2.2.2.2.2.2.2.2.2.2.2.2.2.2.2.2.2.2.1 x.1.1.2.2.2.2.2.2.2.2.2.2.2.2.2.2.2.2.2.2.2.1 x.1.1.2.2.2.2.2.2.2.2.2.2.2.2.2.2.2.2.2.2.2.2.2.2.2.2.2.1 x.1.2.1.1 x.1.2.1.2.1 x.1.2.1.2.2.2.1 x.1.2.1.2.2.2.2.1 x.1.2.1.2.2.2.2.2 x.1.2.2.1 x.1.2.2.2.1 x.1.2.2.2.2.1 x.1.2.2.2.2.2.1 x.1.2.2.2.2.2.2.1 x.2.2
def pa : D.den → (Int × Int × Int × Int × Int × Int × Bool × Bool × Bool × List UInt8) → A.den := fun (((_, (Method, (Target, (Minor, (_, (Chunked, (_, (_, (_, (_, (head, (_, (begun, (waits, (p, (Line, (Fields, (Head, (Body, (Ext, (Trailers, (Wait, (Idle, (Chunked_2, (Old, (_, _)))))))))))))))))))))))))), ((_, (_, (_, (_, (_, _))))), (_, (Fields_2, (Body_2, (Trailers_2, (out, _))))))), (_, _)) (y1, y2, y3, y4, y5, y6, y7, y8, y9, y10) => ((((), (Method, (Target, (Minor, ((), (Chunked, ((), ((), (y1, (y2, (head, (y3, (begun, (waits, (p, (Line, (Fields, (Head, (Body, (Ext, (Trailers, (Wait, (Idle, (Chunked_2, (Old, (y4, ())))))))))))))))))))))))))), ((), ((), (Fields_2, (Body_2, (Trailers_2, (out, ((y5, (y6, ((), (y7, (y8, y9))))), (y10, ()))))))))), ())
def con : Con := tcon D A pa F
theorem ok : ConOk Tryz.prog 88 con := tcon_ok Base.mixed Base.prog_ok bk_chunk_Size_ok (by kernel_rfl) LapsOk.nil 9 (fun _ => rfl) (fun x => t x.1.1.2.2.2.2.2.2.2.2.1 x.1.1.2.2.2.2.2.2.2.2.2.1 x.1.1.2.2.2.2.2.2.2.2.2.2.2.1 x.1.1.2.2.2.2.2.2.2.2.2.2.2.2.2.2.1 x.1.1.2.2.2.2.2.2.2.2.2.2.2.2.2.2.2.1 x.1.1.2.2.2.2.2.2.2.2.2.2.2.2.2.2.2.2.2.2.1 x.1.1.2.2.2.2.2.2.2.2.2.2.2.2.2.2.2.2.2.2.2.1 x.1.1.2.2.2.2.2.2.2.2.2.2.2.2.2.2.2.2.2.2.2.2.2.2.2.2.2.1 x.1.2.1.1 x.1.2.1.2.1 x.1.2.1.2.2.2.1 x.1.2.1.2.2.2.2.1 x.1.2.1.2.2.2.2.2 x.1.2.2.1 x.1.2.2.2.1 x.1.2.2.2.2.1 x.1.2.2.2.2.2.1 x.1.2.2.2.2.2.2.1 x.2.2) (fun _ => rfl) fun _ _ _ => (by kernel_rfl)
end parser_Parser_chunk
def bk_parser_Parser_chunk : Book := bk_chunk_Size.add 88 parser_Parser_chunk.con
theorem bk_parser_Parser_chunk_ok : BookOk Tryz.prog bk_parser_Parser_chunk := bk_chunk_Size_ok.add parser_Parser_chunk.ok
namespace bounds_Right
def D : Dom := ⟨[], (.agg (.cat (.int .i64) (.cat (.int .i64) (.cat (.int .i64) (.cat (.int .i64) (.cat (.int .i64) (.cat (.int .i64) (.cat (.int .i64) (.cat (.int .i64) (.cat .bool .bool))))))))))⟩
def A : Dom := ⟨[], .bool⟩
def sel : List Nat := [0, 1, 2, 3, 4, 5, 6, 7]
def t (Line : Int) (Fields : Int) (Head : Int) (Body : Int) (Ext : Int) (Trailers : Int) (Wait : Int) (Idle : Int) : Tr (Bool) :=
 .br (decide (Line ≥ (64 : Int))) (.br (decide (Line ≤ (4096 : Int))) (.br (decide (Fields ≥ (4 : Int))) (.br (decide (Fields ≤ (100 : Int))) (.br (decide (Head ≥ (256 : Int))) (.br (decide (Head ≤ (65536 : Int))) (.br (decide (Body ≥ (16 : Int))) (.br (decide (Body ≤ (1048576 : Int))) (.br (decide (Ext ≥ (0 : Int))) (.br (decide (Ext ≤ (256 : Int))) (.br (decide (Trailers ≥ (0 : Int))) (.br (decide (Trailers ≤ (100 : Int))) (.br (decide (Wait ≥ (1 : Int))) (.br (decide (Wait ≤ (16 : Int))) (.br (decide (Idle ≥ (1 : Int))) (.ret (decide (Idle ≤ (1000 : Int))))
        (.ret false))
        (.ret false))
       (.ret false))
       (.ret false))
      (.ret false))
      (.ret false))
     (.ret false))
     (.ret false))
    (.ret false))
    (.ret false))
   (.ret false))
   (.ret false))
  (.ret false))
  (.ret false))
 (.ret false)
def f (Line : Int) (Fields : Int) (Head : Int) (Body : Int) (Ext : Int) (Trailers : Int) (Wait : Int) (Idle : Int) : Option (Bool) := (t Line Fields Head Body Ext Trailers Wait Idle).val
def F (x : D.den) : Option (Bool) := f x.2.1 x.2.2.1 x.2.2.2.1 x.2.2.2.2.1 x.2.2.2.2.2.1 x.2.2.2.2.2.2.1 x.2.2.2.2.2.2.2.1 x.2.2.2.2.2.2.2.2.1
def pa : D.den → (Bool) → A.den := fun (_, (_, (_, (_, (_, (_, (_, (_, (_, (_, _)))))))))) y1 => ((), y1)
def con : Con := tcon D A pa F
theorem ok : ConOk Tryz.prog 42 con := tcon_ok Base.mixed Base.prog_ok bk_parser_Parser_chunk_ok (by kernel_rfl) LapsOk.nil 9 (fun _ => rfl) (fun x => t x.2.1 x.2.2.1 x.2.2.2.1 x.2.2.2.2.1 x.2.2.2.2.2.1 x.2.2.2.2.2.2.1 x.2.2.2.2.2.2.2.1 x.2.2.2.2.2.2.2.2.1) (fun _ => rfl) fun _ _ _ => (by kernel_rfl)
end bounds_Right
def bk_bounds_Right : Book := bk_parser_Parser_chunk.add 42 bounds_Right.con
theorem bk_bounds_Right_ok : BookOk Tryz.prog bk_bounds_Right := bk_parser_Parser_chunk_ok.add bounds_Right.ok
namespace quirks_Right
def D : Dom := ⟨[], (.int .u32)⟩
def A : Dom := ⟨[], .bool⟩
def sel : List Nat := [0]
def t (p : Int) : Tr (Bool) :=
 .ret (p.fdiv ((2 : Int) ^ (30 : Nat)) == (0 : Int))
def f (p : Int) : Option (Bool) := (t p).val
def F (x : D.den) : Option (Bool) := f x.2
def pa : D.den → (Bool) → A.den := fun (_, _) y1 => ((), y1)
def con : Con := tcon D A pa F
theorem ok : ConOk Tryz.prog 43 con := tcon_ok Base.mixed Base.prog_ok bk_bounds_Right_ok (by kernel_rfl) LapsOk.nil 9 (fun _ => rfl) (fun x => t x.2) (fun _ => rfl) fun _ _ _ => (by kernel_rfl)
end quirks_Right
def bk_quirks_Right : Book := bk_bounds_Right.add 43 quirks_Right.con
theorem bk_quirks_Right_ok : BookOk Tryz.prog bk_quirks_Right := bk_bounds_Right_ok.add quirks_Right.ok
namespace parser_New
def D : Dom := ⟨[], (.cat (.int .u32) (.agg (.cat (.int .i64) (.cat (.int .i64) (.cat (.int .i64) (.cat (.int .i64) (.cat (.int .i64) (.cat (.int .i64) (.cat (.int .i64) (.cat (.int .i64) (.cat .bool .bool)))))))))))⟩
def A : Dom := ⟨[.cells (.cat (.ptr 1 0 0 0) (.cat .str (.cat .str (.cat (.int .i64) (.cat (.sl 3 2) (.cat .bool (.cat (.sl 4 1) (.cat (.sl 5 2) (.cat (.int .i64) (.cat (.int .i64) (.cat (.int .i64) (.cat (.int .i64) (.cat .bool (.cat .bool (.cat (.int .u32) (.cat (.int .i64) (.cat (.int .i64) (.cat (.int .i64) (.cat (.int .i64) (.cat (.int .i64) (.cat (.int .i64) (.cat (.int .i64) (.cat (.int .i64) (.cat .bool (.cat .bool (.cat (.int .i64) (.sl 6 7))))))))))))))))))))))))))) 84 false, .cells (.cat (.int .u32) (.cat (.int .i64) (.cat (.sl 2 1) (.cat .bool (.cat .bool .bool))))) 110 false, .vec .byte 5 false, .vec (.pair .str .str) 72 false, .vec .byte 5 false, .vec (.pair .str .str) 72 false, .vec (.pair .str (.pair .str (.pair (.int .i64) (.pair (.sl (.pair .str .str)) (.pair .bool (.pair (.sl .byte) (.sl (.pair .str .str)))))))) 47 false], (.ptr 0 0 0 0)⟩
def sel : List Nat := [0, 1, 2, 3, 4, 5, 6, 7, 8]
def t (p : Int) (Line : Int) (Fields : Int) (Head : Int) (Body : Int) (Ext : Int) (Trailers : Int) (Wait : Int) (Idle : Int) : Tr (List UInt8 × List UInt8 × Int × Bool × Int × Int × Int × Int × Bool × Bool × Int × Int × Bool × Bool × Bool × List UInt8 × (List (List UInt8 × List UInt8)) × List UInt8 × (List (List UInt8 × List UInt8)) × (List (List UInt8 × List UInt8 × Int × List (List UInt8 × List UInt8) × Bool × List UInt8 × List (List UInt8 × List UInt8)))) :=
 .call (bounds_Right.f Line Fields Head Body Ext Trailers Wait Idle) fun y1 =>
 .br (!y1) (.call (line_New.f Line) fun (y2a, y2b, y2c, y2d, y2e) =>
  .okl y2e.length <| .ret ([], [], (0 : Int), false, (0 : Int), (0 : Int), (0 : Int), (0 : Int), false, false, (20 : Int), y2a, y2b, y2c, y2d, y2e, [], [], [], []))
 (.call (quirks_Right.f p) fun y3 =>
  .br (!y3) (.call (line_New.f Line) fun (y4a, y4b, y4c, y4d, y4e) =>
  .okl y4e.length <| .ret ([], [], (0 : Int), false, (0 : Int), (0 : Int), (0 : Int), (0 : Int), false, false, (20 : Int), y4a, y4b, y4c, y4d, y4e, [], [], [], []))
  (.call (line_New.f Line) fun (y5a, y5b, y5c, y5d, y5e) =>
  .okl y5e.length <| .ret ([], [], (0 : Int), false, (0 : Int), (0 : Int), (0 : Int), (0 : Int), false, false, (0 : Int), y5a, y5b, y5c, y5d, y5e, [], [], [], [])))
def f (p : Int) (Line : Int) (Fields : Int) (Head : Int) (Body : Int) (Ext : Int) (Trailers : Int) (Wait : Int) (Idle : Int) : Option (List UInt8 × List UInt8 × Int × Bool × Int × Int × Int × Int × Bool × Bool × Int × Int × Bool × Bool × Bool × List UInt8 × (List (List UInt8 × List UInt8)) × List UInt8 × (List (List UInt8 × List UInt8)) × (List (List UInt8 × List UInt8 × Int × List (List UInt8 × List UInt8) × Bool × List UInt8 × List (List UInt8 × List UInt8)))) := (t p Line Fields Head Body Ext Trailers Wait Idle).val
def F (x : D.den) : Option (List UInt8 × List UInt8 × Int × Bool × Int × Int × Int × Int × Bool × Bool × Int × Int × Bool × Bool × Bool × List UInt8 × (List (List UInt8 × List UInt8)) × List UInt8 × (List (List UInt8 × List UInt8)) × (List (List UInt8 × List UInt8 × Int × List (List UInt8 × List UInt8) × Bool × List UInt8 × List (List UInt8 × List UInt8)))) := f x.2.1 x.2.2.1 x.2.2.2.1 x.2.2.2.2.1 x.2.2.2.2.2.1 x.2.2.2.2.2.2.1 x.2.2.2.2.2.2.2.1 x.2.2.2.2.2.2.2.2.1 x.2.2.2.2.2.2.2.2.2.1
def pa : D.den → (List UInt8 × List UInt8 × Int × Bool × Int × Int × Int × Int × Bool × Bool × Int × Int × Bool × Bool × Bool × List UInt8 × (List (List UInt8 × List UInt8)) × List UInt8 × (List (List UInt8 × List UInt8)) × (List (List UInt8 × List UInt8 × Int × List (List UInt8 × List UInt8) × Bool × List UInt8 × List (List UInt8 × List UInt8)))) → A.den := fun (_, (p, (Line, (Fields, (Head, (Body, (Ext, (Trailers, (Wait, (Idle, (Chunked, Old))))))))))) (y1, y2, y3, y4, y5, y6, y7, y8, y9, y10, y11, y12, y13, y14, y15, y16, y17, y18, y19, y20) => ((((), (y1, (y2, (y3, ((), (y4, ((), ((), (y5, (y6, (y7, (y8, (y9, (y10, (p, (Line, (Fields, (Head, (Body, (Ext, (Trailers, (Wait, (Idle, (Chunked, (Old, (y11, ())))))))))))))))))))))))))), ((p, (y12, ((), (y13, (y14, y15))))), (y16, (y17, (y18, (y19, (y20, ()))))))), ())
def con : Con := tcon D A pa F
theorem ok : ConOk Tryz.prog 20 con := tcon_ok Base.mixed Base.prog_ok bk_quirks_Right_ok (by kernel_rfl) LapsOk.nil 9 (fun _ => rfl) (fun x => t x.2.1 x.2.2.1 x.2.2.2.1 x.2.2.2.2.1 x.2.2.2.2.2.1 x.2.2.2.2.2.2.1 x.2.2.2.2.2.2.2.1 x.2.2.2.2.2.2.2.2.1 x.2.2.2.2.2.2.2.2.2.1) (fun _ => rfl) fun _ _ _ => (by kernel_rfl)
end parser_New
def bk_parser_New : Book := bk_quirks_Right.add 20 parser_New.con
theorem bk_parser_New_ok : BookOk Tryz.prog bk_parser_New := bk_quirks_Right_ok.add parser_New.ok
end Go.Vx
end
section
set_option maxRecDepth 1000000
set_option linter.unusedVariables false
namespace Go.Vx
open Go Go.Vx Go.Proofs
namespace text_trimmed_f_text_TrimOf_1
def D : Dom := ⟨[.cells .str 9 false], (.cat .str (.func (.func 192) .nil (.ptr 0 0 0 0)))⟩
namespace L1
def D : Dom := text_trimmed_f_text_TrimOf_1.D
def A : Dom := text_trimmed_f_text_TrimOf_1.D
def sel : List Nat := [0, 1]
def t (r0 : List UInt8) (s : List UInt8) : Tr ((List UInt8) ⊕ (List UInt8)) :=
 .br (!s == []) (.chk ((0 : Int) ≤ (0 : Int) ∧ (0 : Int) < (↑s.length : Int)) <| .call (text_TrimOf_1.f r0 (↑(s.getD (Int.toNat (0 : Int)) (0 : UInt8)).toNat : Int)) fun y1 =>
  .br y1 (.chk ((0 : Int) ≤ (1 : Int) ∧ (1 : Int) ≤ (↑s.length : Int) ∧ (↑s.length : Int) ≤ (↑s.length : Int)) <| .ret (.inl (List.drop (Int.toNat (1 : Int)) (List.take (↑s.length : Int).toNat s))))
  (.ret (.inr s)))
 (.ret (.inr s))
def f (r0 : List UInt8) (s : List UInt8) : Option (List UInt8) := Loop (fun z : List UInt8 => t r0 z) s
def F (x : D.den) : Option (List UInt8) := f x.1.1 x.2.1
def pa : D.den → (List UInt8) → A.den := fun ((r0, _), (_, (_, _))) y1 => ((r0, ()), (y1, ((), ())))
def lap : Lap := tlap 1 32 [0, 1] D (.exit 0) [0, 1] A pa F
def pk (x : D.den) (z : List UInt8) : D.den := ((x.1.1, ()), (z, ((), ())))
def un (x : D.den) : List UInt8 := x.2.1
def body (x : D.den) (z : List UInt8) : Tr ((List UInt8) ⊕ (List UInt8)) := t x.1.1 z
theorem ok : LapOk Tryz.prog 1 (codeOf Tryz.prog 162) lap := tlap_ok Base.mixed Base.prog_ok bk_parser_New_ok (by kernel_rfl) (by kernel_rfl) LapsOk.nil 9 pk un body (fun _ _ => rfl) (fun _ _ => rfl) (fun _ _ => rfl) (fun _ => rfl) fun _ _ _ _ => (by kernel_rfl)
end L1
namespace L3
def D : Dom := text_trimmed_f_text_TrimOf_1.D
def A : Dom := ⟨[.cells .str 9 false], .str⟩
def sel : List Nat := [0, 1]
def t (r0 : List UInt8) (s : List UInt8) : Tr ((List UInt8) ⊕ (List UInt8)) :=
 .br (!s == []) (.chk ((0 : Int) ≤ IntKind.i64.wrap ((↑s.length : Int) - (1 : Int)) ∧ IntKind.i64.wrap ((↑s.length : Int) - (1 : Int)) < (↑s.length : Int)) <| .call (text_TrimOf_1.f r0 (↑(s.getD (IntKind.i64.wrap ((↑s.length : Int) - (1 : Int))).toNat (0 : UInt8)).toNat : Int)) fun y1 =>
  .br y1 (.chk ((0 : Int) ≤ (0 : Int) ∧ (0 : Int) ≤ IntKind.i64.wrap ((↑s.length : Int) - (1 : Int)) ∧ IntKind.i64.wrap ((↑s.length : Int) - (1 : Int)) ≤ (↑s.length : Int)) <| .ret (.inl (List.drop (↑(0 : Nat) : Int).toNat (List.take (IntKind.i64.wrap ((↑s.length : Int) - (1 : Int))).toNat s))))
  (.ret (.inr s)))
 (.ret (.inr s))
def f (r0 : List UInt8) (s : List UInt8) : Option (List UInt8) := Loop (fun z : List UInt8 => t r0 z) s
def F (x : D.den) : Option (List UInt8) := f x.1.1 x.2.1
def pa : D.den → (List UInt8) → A.den := fun ((r0, _), (_, (_, _))) y1 => ((r0, ()), y1)
def lap : Lap := tlap 3 32 [0, 1] D (.exit 2) [0] A pa F
def pk (x : D.den) (z : List UInt8) : D.den := ((x.1.1, ()), (z, ((), ())))
def un (x : D.den) : List UInt8 := x.2.1
def body (x : D.den) (z : List UInt8) : Tr ((List UInt8) ⊕ (List UInt8)) := t x.1.1 z
theorem ok : LapOk Tryz.prog 1 (codeOf Tryz.prog 162) lap := tlap_ok Base.mixed Base.prog_ok bk_parser_New_ok (by kernel_rfl) (by kernel_rfl) LapsOk.nil 9 pk un body (fun _ _ => rfl) (fun _ _ => rfl) (fun _ _ => rfl) (fun _ => rfl) fun _ _ _ _ => (by kernel_rfl)
end L3
def A : Dom := ⟨[.cells .str 9 false], .str⟩
def sel : List Nat := [0, 1]
def t (vis : List UInt8) (s : List UInt8) : Tr (List UInt8) :=
 .call (text_trimmed_f_text_TrimOf_1.L1.f vis s) fun y1 =>
 .call (text_trimmed_f_text_TrimOf_1.L3.f vis y1) fun y2 =>
 .ret y2
def f (vis : List UInt8) (s : List UInt8) : Option (List UInt8) := (t vis s).val
def F (x : D.den) : Option (List UInt8) := f x.1.1 x.2.1
def pa : D.den → (List UInt8) → A.den := fun ((vis, _), (_, (_, _))) y1 => ((vis, ()), y1)
def con : Con := tcon D A pa F
theorem ok : ConOk Tryz.prog 162 con := tcon_ok Base.mixed Base.prog_ok bk_parser_New_ok (by kernel_rfl) (.cons L1.ok (by kernel_rfl) (.cons L3.ok (by kernel_rfl) (.nil))) 9 (fun _ => rfl) (fun x => t x.1.1 x.2.1) (fun _ => rfl) fun _ _ _ => (by kernel_rfl)
end text_trimmed_f_text_TrimOf_1
def bk_text_trimmed_f_text_TrimOf_1 : Book := bk_parser_New.addS 162 (fun a => isFunc 1 192 a) text_trimmed_f_text_TrimOf_1.con
theorem bk_text_trimmed_f_text_TrimOf_1_ok : BookOk Tryz.prog bk_text_trimmed_f_text_TrimOf_1 := bk_parser_New_ok.addS text_trimmed_f_text_TrimOf_1.ok
namespace text_TrimOf
def D : Dom := ⟨[], (.cat .str .str)⟩
def A : Dom := ⟨[], .str⟩
def sel : List Nat := [0, 1]
def t (s : List UInt8) (set : List UInt8) : Tr (List UInt8) :=
 .call (text_trimmed_f_text_TrimOf_1.f set s) fun y1 =>
 .ret y1
def f (s : List UInt8) (set : List UInt8) : Option (List UInt8) := (t s set).val
def F (x : D.den) : Option (List UInt8) := f x.2.1 x.2.2
def pa : D.den → (List UInt8) → A.den := fun (_, (_, _)) y1 => ((), y1)
def con : Con := tcon D A pa F
theorem ok : ConOk Tryz.prog 155 con := tcon_ok Base.mixed Base.prog_ok bk_text_trimmed_f_text_TrimOf_1_ok (by kernel_rfl) LapsOk.nil 9 (fun _ => rfl) (fun x => t x.2.1 x.2.2) (fun _ => rfl) fun _ _ _ => (by kernel_rfl)
end text_TrimOf
def bk_text_TrimOf : Book := bk_text_trimmed_f_text_TrimOf_1.add 155 text_TrimOf.con
theorem bk_text_TrimOf_ok : BookOk Tryz.prog bk_text_TrimOf := bk_text_trimmed_f_text_TrimOf_1_ok.add text_TrimOf.ok
namespace slices_Index_schunked
def D : Dom := ⟨[.vec .str 9 true], (.cat (.sl 0 1) (.lit (.str false [99, 104, 117, 110, 107, 101, 100])))⟩
namespace L2
def D : Dom := ⟨[.vec .str 9 true], (.cat (.sl 0 1) (.cat (.lit (.str false [99, 104, 117, 110, 107, 101, 100])) (.cat (.int .i64) (.int .i64))))⟩
def A : Dom := ⟨[.vec .str 9 true], .nil⟩
def B : Dom := ⟨[.vec .str 9 true], (.int .i64)⟩
def sel : List Nat := [0, 1, 2]
def t (s : List (List UInt8)) (t7 : Int) (t8 : Int) : Tr ((Int) ⊕ ((Unit) ⊕ (Int))) :=
 .br (decide (t8 < t7)) (.chk ((0 : Int) ≤ t8 ∧ t8 < (↑s.length : Int)) <| .chk ((0 : Nat) + t8.toNat < s.length) <| .br ([(99 : UInt8), (104 : UInt8), (117 : UInt8), (110 : UInt8), (107 : UInt8), (101 : UInt8), (100 : UInt8)] == s.getD ((0 : Nat) + t8.toNat) []) (.ret (.inr (.inr t8)))
  (.okl s.length <| .ret (.inl (IntKind.i64.wrap (t8 + (1 : Int))))))
 (.ret (.inr (.inl ())))
def f (s : List (List UInt8)) (t7 : Int) (t8 : Int) : Option ((Unit) ⊕ (Int)) := Loop (fun z : Int => t s t7 z) t8
def F (x : D.den) : Option ((Unit) ⊕ (Int)) := f x.1.1 x.2.2.2.1 x.2.2.2.2
def pa : D.den → (Unit) → A.den := fun ((s, _), (_, (_, (_, _)))) _ => ((s, ()), ())
def pb : D.den → (Int) → B.den := fun ((s, _), (_, (_, (_, _)))) y1 => ((s, ()), y1)
def lap : Lap := tlap2 2 19 [0, 1, 7, 8] D (.exit 0) [] A .ret [4] B pa pb F
def pk (x : D.den) (z : Int) : D.den := ((x.1.1, ()), ((), ((), (x.2.2.2.1, z))))
def un (x : D.den) : Int := x.2.2.2.2
def body (x : D.den) (z : Int) : Tr ((Int) ⊕ ((Unit) ⊕ (Int))) := t x.1.1 x.2.2.2.1 z
theorem ok : LapOk Tryz.prog 1 (codeOf Tryz.prog 157) lap := tlap2_ok Base.mixed Base.prog_ok bk_text_TrimOf_ok (by kernel_rfl) (by kernel_rfl) LapsOk.nil 9 pk un body (fun _ _ => rfl) (fun _ _ => rfl) (fun _ _ => rfl) (fun _ _ => rfl) (fun _ => rfl) fun _ _ _ _ => (by kernel_rfl)
end L2
def A : Dom := ⟨[.vec .str 9 true], (.int .i64)⟩
def sel : List Nat := [0]
def t (s : List (List UInt8)) : Tr (Int) :=
 .okl s.length <| .both (slices_Index_schunked.L2.f s (↑s.length : Int) (0 : Int)) (fun _ => .ret (-1 : Int))
 (fun y2 => .ret y2)
def f (s : List (List UInt8)) : Option (Int) := (t s).val
def F (x : D.den) : Option (Int) := f x.1.1
def pa : D.den → (Int) → A.den := fun ((s, _), (_, _)) y1 => ((s, ()), y1)
def con : Con := tcon D A pa F
theorem ok : ConOk Tryz.prog 157 con := tcon_ok Base.mixed Base.prog_ok bk_text_TrimOf_ok (by kernel_rfl) (.cons L2.ok (by kernel_rfl) (.nil)) 9 (fun _ => rfl) (fun x => t x.1.1) (fun _ => rfl) fun _ _ _ => (by kernel_rfl)
end slices_Index_schunked
def bk_slices_Index_schunked : Book := bk_text_TrimOf.addS 157 (fun a => isStr 1 [99, 104, 117, 110, 107, 101, 100] a) slices_Index_schunked.con
theorem bk_slices_Index_schunked_ok : BookOk Tryz.prog bk_slices_Index_schunked := bk_text_TrimOf_ok.addS slices_Index_schunked.ok
namespace framing_Coding
def D : Dom := ⟨[.vec .str 9 true], (.cat (.int .u32) (.sl 0 1))⟩
namespace L3
def D : Dom := ⟨[.vec .str 9 true, .vec .str 9 false], (.cat (.int .u32) (.cat (.sl 1 1) (.cat (.sl 1 1) (.cat (.int .i64) (.int .i64)))))⟩
def A : Dom := ⟨[.vec .str 9 true, .vec .str 9 false], (.cat (.int .u32) (.sl 1 1))⟩
def sel : List Nat := [1, 2, 3, 4]
def t (l : List (List UInt8)) (p : Int) (t12 : Int) (t13 : Int) : Tr ((List (List UInt8) × Int) ⊕ (List (List UInt8))) :=
 .br (decide (t13 < t12)) (.chk ((0 : Int) ≤ t13 ∧ t13 < (↑l.length : Int)) <| .chk ((0 : Nat) + t13.toNat < l.length) <| .call (quirks_Has.f p (17 : Int)) fun y1 =>
  .br y1 (.call (text_TrimOf.f (l.getD ((0 : Nat) + t13.toNat) []) [(11 : UInt8), (12 : UInt8), (32 : UInt8), (9 : UInt8)]) fun y2 =>
  .call (text_Lower.f y2) fun y3 =>
  .chk ((0 : Int) ≤ t13 ∧ t13 < (↑l.length : Int)) <| .chk ((0 : Nat) + t13.toNat < l.length) <| .okl l.length <| .chk ((0 : Nat) = (0 : Nat) ∧ l.length = (l.set ((0 : Nat) + t13.toNat) y3).length) <| .ret (.inl (l.set ((0 : Nat) + t13.toNat) y3, IntKind.i64.wrap (t13 + (1 : Int)))))
  (.call (text_Lower.f (l.getD ((0 : Nat) + t13.toNat) [])) fun y4 =>
  .chk ((0 : Int) ≤ t13 ∧ t13 < (↑l.length : Int)) <| .chk ((0 : Nat) + t13.toNat < l.length) <| .okl l.length <| .chk ((0 : Nat) = (0 : Nat) ∧ l.length = (l.set ((0 : Nat) + t13.toNat) y4).length) <| .ret (.inl (l.set ((0 : Nat) + t13.toNat) y4, IntKind.i64.wrap (t13 + (1 : Int))))))
 (.okl l.length <| .ret (.inr l))
def f (l : List (List UInt8)) (p : Int) (t12 : Int) (t13 : Int) : Option (List (List UInt8)) := Loop (fun z : List (List UInt8) × Int => t z.1 p t12 z.2) (l, t13)
def F (x : D.den) : Option (List (List UInt8)) := f x.1.2.1 x.2.1 x.2.2.2.2.1 x.2.2.2.2.2
def pa : D.den → (List (List UInt8)) → A.den := fun ((values, (_, _)), (p, (_, (_, (_, _))))) y1 => ((values, (y1, ())), (p, ()))
def lap : Lap := tlap 3 46 [0, 5, 11, 12, 13] D (.exit 0) [0, 5] A pa F
def pk (x : D.den) (z : List (List UInt8) × Int) : D.den := ((x.1.1, (z.1, ())), (x.2.1, ((), ((), (x.2.2.2.2.1, z.2)))))
def un (x : D.den) : List (List UInt8) × Int := (x.1.2.1, x.2.2.2.2.2)
def body (x : D.den) (z : List (List UInt8) × Int) : Tr ((List (List UInt8) × Int) ⊕ (List (List UInt8))) := t z.1 x.2.1 x.2.2.2.2.1 z.2
theorem ok : LapOk Tryz.prog 1 (codeOf Tryz.prog 120) lap := tlap_ok Base.mixed Base.prog_ok bk_slices_Index_schunked_ok (by kernel_rfl) (by kernel_rfl) LapsOk.nil 9 pk un body (fun _ _ => rfl) (fun _ _ => rfl) (fun _ _ => rfl) (fun _ => rfl) fun _ _ _ _ => (by kernel_rfl)
end L3
def A : Dom := ⟨[.vec .str 9 true], .bool⟩
def sel : List Nat := [0, 1]
def t (values : List (List UInt8)) (p : Int) : Tr (Bool) :=
 .chk ((0 : Nat) + values.length ≤ values.length) <| .call (text_List.f (List.take values.length (List.drop (0 : Nat) values))) fun y1 =>
 .okl y1.length <| .okl y1.length <| .call (framing_Coding.L3.f y1 p (↑y1.length : Int) (0 : Int)) fun y2 =>
 .br (decide (IntKind.i64.wrap ((↑y2.length : Int) - (1 : Int)) < (0 : Int))) (.ret false)
 (.br (decide (IntKind.i64.wrap ((↑y2.length : Int) - (1 : Int)) > (0 : Int))) (.call (quirks_Has.f p (18 : Int)) fun y3 =>
  .br (!y3) (.ret false)
  (.chk ((0 : Nat) + y2.length ≤ y2.length) <| .call (slices_Index_schunked.f (List.take y2.length (List.drop (0 : Nat) y2))) fun y4 =>
   .ret (y4 == IntKind.i64.wrap ((↑y2.length : Int) - (1 : Int)))))
  (.chk ((0 : Nat) + y2.length ≤ y2.length) <| .call (slices_Index_schunked.f (List.take y2.length (List.drop (0 : Nat) y2))) fun y5 =>
  .ret (y5 == IntKind.i64.wrap ((↑y2.length : Int) - (1 : Int)))))
def f (values : List (List UInt8)) (p : Int) : Option (Bool) := (t values p).val
def F (x : D.den) : Option (Bool) := f x.1.1 x.2.1
def pa : D.den → (Bool) → A.den := fun ((values, _), (_, _)) y1 => ((values, ()), y1)
def con : Con := tcon D A pa F
theorem ok : ConOk Tryz.prog 120 con := tcon_ok Base.mixed Base.prog_ok bk_slices_Index_schunked_ok (by kernel_rfl) (.cons L3.ok (by kernel_rfl) (.nil)) 9 (fun _ => rfl) (fun x => t x.1.1 x.2.1) (fun _ => rfl) fun _ _ _ => (by kernel_rfl)
end framing_Coding
def bk_framing_Coding : Book := bk_slices_Index_schunked.add 120 framing_Coding.con
theorem bk_framing_Coding_ok : BookOk Tryz.prog bk_framing_Coding := bk_slices_Index_schunked_ok.add framing_Coding.ok
namespace framing_Decide
def D : Dom := ⟨[.vec (.pair .str .str) 72 true], (.cat (.int .u32) (.cat (.agg (.cat (.int .i64) (.cat (.int .i64) (.cat (.int .i64) (.cat (.int .i64) (.cat (.int .i64) (.cat (.int .i64) (.cat (.int .i64) (.cat (.int .i64) (.cat .bool .bool)))))))))) (.cat (.int .i64) (.sl 0 2))))⟩
def A : Dom := ⟨[.vec (.pair .str .str) 72 true], (.tup (.cat (.agg (.cat (.int .i64) (.int .i64))) (.int .i64)))⟩
def sel : List Nat := [0, 1, 5, 10, 12]
def t (l : List (List UInt8 × List UInt8)) (p : Int) (Body : Int) (Chunked : Bool) (minor : Int) : Tr (Int × Int × Int) :=
 .chk ((0 : Nat) + l.length ≤ l.length) <| .call (framing_Hosts.f (List.take l.length (List.drop (0 : Nat) l)) p minor) fun y1 =>
 .br (y1 != (0 : Int)) (.ret ((0 : Int), (0 : Int), y1))
 (.chk ((0 : Nat) + l.length ≤ l.length) <| .call (text_Find.f (List.take l.length (List.drop (0 : Nat) l)) [(84 : UInt8), (114 : UInt8), (97 : UInt8), (110 : UInt8), (115 : UInt8), (102 : UInt8), (101 : UInt8), (114 : UInt8), (45 : UInt8), (69 : UInt8), (110 : UInt8), (99 : UInt8), (111 : UInt8), (100 : UInt8), (105 : UInt8), (110 : UInt8), (103 : UInt8)]) fun y2 =>
  .chk ((0 : Nat) + l.length ≤ l.length) <| .call (text_Find.f (List.take l.length (List.drop (0 : Nat) l)) [(67 : UInt8), (111 : UInt8), (110 : UInt8), (116 : UInt8), (101 : UInt8), (110 : UInt8), (116 : UInt8), (45 : UInt8), (76 : UInt8), (101 : UInt8), (110 : UInt8), (103 : UInt8), (116 : UInt8), (104 : UInt8)]) fun y3 =>
  .br (decide ((↑y2.length : Int) > (0 : Int))) (.chk ((0 : Nat) + y2.length ≤ y2.length) <| .call (framing_Coding.f (List.take y2.length (List.drop (0 : Nat) y2)) p) fun y4 =>
  .br (minor == (0 : Int)) (.call (quirks_Has.f p (20 : Int)) fun y5 =>
   .br (!y5) (.ret ((0 : Int), (0 : Int), (400 : Int)))
   (.br y4 (.br ((↑y3.length : Int) == (0 : Int)) (.br Chunked (.ret ((2 : Int), (0 : Int), (0 : Int)))
    (.br y4 (.br ((↑y3.length : Int) == (0 : Int)) (.ret ((0 : Int), (0 : Int), (501 : Int)))
     (.call (quirks_Has.f p (21 : Int)) fun y6 =>
      .br y6 (.ret ((0 : Int), (0 : Int), (501 : Int)))
      (.br (!y4) (.call (quirks_Has.f p (19 : Int)) fun y7 =>
       .br (!y7) (.ret ((0 : Int), (0 : Int), (501 : Int)))
       (.br y4 (.call (quirks_Has.f p (22 : Int)) fun y8 =>
        .br (!y8) (.ret ((0 : Int), (0 : Int), (400 : Int)))
        (.chk ((0 : Nat) + y3.length ≤ y3.length) <| .call (framing_Length.f (List.take y3.length (List.drop (0 : Nat) y3)) p Body) fun (y9a, y9b) =>
        .br (y9b != (0 : Int)) (.ret ((0 : Int), (0 : Int), y9b))
        (.ret ((1 : Int), y9a, (0 : Int)))))
       (.chk ((0 : Nat) + y3.length ≤ y3.length) <| .call (framing_Length.f (List.take y3.length (List.drop (0 : Nat) y3)) p Body) fun (y10a, y10b) =>
        .br (y10b != (0 : Int)) (.ret ((0 : Int), (0 : Int), y10b))
        (.ret ((1 : Int), y10a, (0 : Int))))))
      (.br y4 (.call (quirks_Has.f p (22 : Int)) fun y11 =>
       .br (!y11) (.ret ((0 : Int), (0 : Int), (400 : Int)))
       (.chk ((0 : Nat) + y3.length ≤ y3.length) <| .call (framing_Length.f (List.take y3.length (List.drop (0 : Nat) y3)) p Body) fun (y12a, y12b) =>
        .br (y12b != (0 : Int)) (.ret ((0 : Int), (0 : Int), y12b))
        (.ret ((1 : Int), y12a, (0 : Int)))))
       (.chk ((0 : Nat) + y3.length ≤ y3.length) <| .call (framing_Length.f (List.take y3.length (List.drop (0 : Nat) y3)) p Body) fun (y13a, y13b) =>
       .br (y13b != (0 : Int)) (.ret ((0 : Int), (0 : Int), y13b))
       (.ret ((1 : Int), y13a, (0 : Int))))))))
     (.br (!y4) (.call (quirks_Has.f p (19 : Int)) fun y14 =>
      .br (!y14) (.ret ((0 : Int), (0 : Int), (501 : Int)))
      (.br y4 (.call (quirks_Has.f p (22 : Int)) fun y15 =>
       .br (!y15) (.ret ((0 : Int), (0 : Int), (400 : Int)))
       (.chk ((0 : Nat) + y3.length ≤ y3.length) <| .call (framing_Length.f (List.take y3.length (List.drop (0 : Nat) y3)) p Body) fun (y16a, y16b) =>
       .br (y16b != (0 : Int)) (.ret ((0 : Int), (0 : Int), y16b))
       (.ret ((1 : Int), y16a, (0 : Int)))))
      (.chk ((0 : Nat) + y3.length ≤ y3.length) <| .call (framing_Length.f (List.take y3.length (List.drop (0 : Nat) y3)) p Body) fun (y17a, y17b) =>
       .br (y17b != (0 : Int)) (.ret ((0 : Int), (0 : Int), y17b))
       (.ret ((1 : Int), y17a, (0 : Int))))))
     (.br y4 (.call (quirks_Has.f p (22 : Int)) fun y18 =>
      .br (!y18) (.ret ((0 : Int), (0 : Int), (400 : Int)))
      (.chk ((0 : Nat) + y3.length ≤ y3.length) <| .call (framing_Length.f (List.take y3.length (List.drop (0 : Nat) y3)) p Body) fun (y19a, y19b) =>
       .br (y19b != (0 : Int)) (.ret ((0 : Int), (0 : Int), y19b))
       (.ret ((1 : Int), y19a, (0 : Int)))))
      (.chk ((0 : Nat) + y3.length ≤ y3.length) <| .call (framing_Length.f (List.take y3.length (List.drop (0 : Nat) y3)) p Body) fun (y20a, y20b) =>
      .br (y20b != (0 : Int)) (.ret ((0 : Int), (0 : Int), y20b))
      (.ret ((1 : Int), y20a, (0 : Int))))))))
    (.call (quirks_Has.f p (21 : Int)) fun y21 =>
    .br y21 (.br Chunked (.ret ((2 : Int), (0 : Int), (0 : Int)))
     (.br y4 (.br ((↑y3.length : Int) == (0 : Int)) (.ret ((0 : Int), (0 : Int), (501 : Int)))
      (.call (quirks_Has.f p (21 : Int)) fun y22 =>
      .br y22 (.ret ((0 : Int), (0 : Int), (501 : Int)))
      (.br (!y4) (.call (quirks_Has.f p (19 : Int)) fun y23 =>
       .br (!y23) (.ret ((0 : Int), (0 : Int), (501 : Int)))
       (.br y4 (.call (quirks_Has.f p (22 : Int)) fun y24 =>
        .br (!y24) (.ret ((0 : Int), (0 : Int), (400 : Int)))
        (.chk ((0 : Nat) + y3.length ≤ y3.length) <| .call (framing_Length.f (List.take y3.length (List.drop (0 : Nat) y3)) p Body) fun (y25a, y25b) =>
         .br (y25b != (0 : Int)) (.ret ((0 : Int), (0 : Int), y25b))
         (.ret ((1 : Int), y25a, (0 : Int)))))
        (.chk ((0 : Nat) + y3.length ≤ y3.length) <| .call (framing_Length.f (List.take y3.length (List.drop (0 : Nat) y3)) p Body) fun (y26a, y26b) =>
        .br (y26b != (0 : Int)) (.ret ((0 : Int), (0 : Int), y26b))
        (.ret ((1 : Int), y26a, (0 : Int))))))
       (.br y4 (.call (quirks_Has.f p (22 : Int)) fun y27 =>
        .br (!y27) (.ret ((0 : Int), (0 : Int), (400 : Int)))
        (.chk ((0 : Nat) + y3.length ≤ y3.length) <| .call (framing_Length.f (List.take y3.length (List.drop (0 : Nat) y3)) p Body) fun (y28a, y28b) =>
        .br (y28b != (0 : Int)) (.ret ((0 : Int), (0 : Int), y28b))
        (.ret ((1 : Int), y28a, (0 : Int)))))
       (.chk ((0 : Nat) + y3.length ≤ y3.length) <| .call (framing_Length.f (List.take y3.length (List.drop (0 : Nat) y3)) p Body) fun (y29a, y29b) =>
        .br (y29b != (0 : Int)) (.ret ((0 : Int), (0 : Int), y29b))
        (.ret ((1 : Int), y29a, (0 : Int))))))))
     (.br (!y4) (.call (quirks_Has.f p (19 : Int)) fun y30 =>
      .br (!y30) (.ret ((0 : Int), (0 : Int), (501 : Int)))
      (.br y4 (.call (quirks_Has.f p (22 : Int)) fun y31 =>
       .br (!y31) (.ret ((0 : Int), (0 : Int), (400 : Int)))
       (.chk ((0 : Nat) + y3.length ≤ y3.length) <| .call (framing_Length.f (List.take y3.length (List.drop (0 : Nat) y3)) p Body) fun (y32a, y32b) =>
        .br (y32b != (0 : Int)) (.ret ((0 : Int), (0 : Int), y32b))
        (.ret ((1 : Int), y32a, (0 : Int)))))
       (.chk ((0 : Nat) + y3.length ≤ y3.length) <| .call (framing_Length.f (List.take y3.length (List.drop (0 : Nat) y3)) p Body) fun (y33a, y33b) =>
       .br (y33b != (0 : Int)) (.ret ((0 : Int), (0 : Int), y33b))
       (.ret ((1 : Int), y33a, (0 : Int))))))
      (.br y4 (.call (quirks_Has.f p (22 : Int)) fun y34 =>
       .br (!y34) (.ret ((0 : Int), (0 : Int), (400 : Int)))
       (.chk ((0 : Nat) + y3.length ≤ y3.length) <| .call (framing_Length.f (List.take y3.length (List.drop (0 : Nat) y3)) p Body) fun (y35a, y35b) =>
       .br (y35b != (0 : Int)) (.ret ((0 : Int), (0 : Int), y35b))
       (.ret ((1 : Int), y35a, (0 : Int)))))
      (.chk ((0 : Nat) + y3.length ≤ y3.length) <| .call (framing_Length.f (List.take y3.length (List.drop (0 : Nat) y3)) p Body) fun (y36a, y36b) =>
       .br (y36b != (0 : Int)) (.ret ((0 : Int), (0 : Int), y36b))
       (.ret ((1 : Int), y36a, (0 : Int))))))))
    (.br y4 (.br ((↑y3.length : Int) == (0 : Int)) (.ret ((0 : Int), (0 : Int), (501 : Int)))
     (.call (quirks_Has.f p (21 : Int)) fun y37 =>
      .br y37 (.ret ((0 : Int), (0 : Int), (501 : Int)))
      (.br (!y4) (.call (quirks_Has.f p (19 : Int)) fun y38 =>
       .br (!y38) (.ret ((0 : Int), (0 : Int), (501 : Int)))
       (.br y4 (.call (quirks_Has.f p (22 : Int)) fun y39 =>
        .br (!y39) (.ret ((0 : Int), (0 : Int), (400 : Int)))
        (.chk ((0 : Nat) + y3.length ≤ y3.length) <| .call (framing_Length.f (List.take y3.length (List.drop (0 : Nat) y3)) p Body) fun (y40a, y40b) =>
        .br (y40b != (0 : Int)) (.ret ((0 : Int), (0 : Int), y40b))
        (.ret ((1 : Int), y40a, (0 : Int)))))
       (.chk ((0 : Nat) + y3.length ≤ y3.length) <| .call (framing_Length.f (List.take y3.length (List.drop (0 : Nat) y3)) p Body) fun (y41a, y41b) =>
        .br (y41b != (0 : Int)) (.ret ((0 : Int), (0 : Int), y41b))
        (.ret ((1 : Int), y41a, (0 : Int))))))
      (.br y4 (.call (quirks_Has.f p (22 : Int)) fun y42 =>
       .br (!y42) (.ret ((0 : Int), (0 : Int), (400 : Int)))
       (.chk ((0 : Nat) + y3.length ≤ y3.length) <| .call (framing_Length.f (List.take y3.length (List.drop (0 : Nat) y3)) p Body) fun (y43a, y43b) =>
        .br (y43b != (0 : Int)) (.ret ((0 : Int), (0 : Int), y43b))
        (.ret ((1 : Int), y43a, (0 : Int)))))
       (.chk ((0 : Nat) + y3.length ≤ y3.length) <| .call (framing_Length.f (List.take y3.length (List.drop (0 : Nat) y3)) p Body) fun (y44a, y44b) =>
       .br (y44b != (0 : Int)) (.ret ((0 : Int), (0 : Int), y44b))
       (.ret ((1 : Int), y44a, (0 : Int))))))))
     (.br (!y4) (.call (quirks_Has.f p (19 : Int)) fun y45 =>
      .br (!y45) (.ret ((0 : Int), (0 : Int), (501 : Int)))
      (.br y4 (.call (quirks_Has.f p (22 : Int)) fun y46 =>
       .br (!y46) (.ret ((0 : Int), (0 : Int), (400 : Int)))
       (.chk ((0 : Nat) + y3.length ≤ y3.length) <| .call (framing_Length.f (List.take y3.length (List.drop (0 : Nat) y3)) p Body) fun (y47a, y47b) =>
       .br (y47b != (0 : Int)) (.ret ((0 : Int), (0 : Int), y47b))
       (.ret ((1 : Int), y47a, (0 : Int)))))
      (.chk ((0 : Nat) + y3.length ≤ y3.length) <| .call (framing_Length.f (List.take y3.length (List.drop (0 : Nat) y3)) p Body) fun (y48a, y48b) =>
       .br (y48b != (0 : Int)) (.ret ((0 : Int), (0 : Int), y48b))
       (.ret ((1 : Int), y48a, (0 : Int))))))
     (.br y4 (.call (quirks_Has.f p (22 : Int)) fun y49 =>
      .br (!y49) (.ret ((0 : Int), (0 : Int), (400 : Int)))
      (.chk ((0 : Nat) + y3.length ≤ y3.length) <| .call (framing_Length.f (List.take y3.length (List.drop (0 : Nat) y3)) p Body) fun (y50a, y50b) =>
       .br (y50b != (0 : Int)) (.ret ((0 : Int), (0 : Int), y50b))
       (.ret ((1 : Int), y50a, (0 : Int)))))
      (.chk ((0 : Nat) + y3.length ≤ y3.length) <| .call (framing_Length.f (List.take y3.length (List.drop (0 : Nat) y3)) p Body) fun (y51a, y51b) =>
      .br (y51b != (0 : Int)) (.ret ((0 : Int), (0 : Int), y51b))
      (.ret ((1 : Int), y51a, (0 : Int)))))))))
   (.br y4 (.br ((↑y3.length : Int) == (0 : Int)) (.ret ((0 : Int), (0 : Int), (501 : Int)))
    (.call (quirks_Has.f p (21 : Int)) fun y52 =>
     .br y52 (.ret ((0 : Int), (0 : Int), (501 : Int)))
     (.br (!y4) (.call (quirks_Has.f p (19 : Int)) fun y53 =>
      .br (!y53) (.ret ((0 : Int), (0 : Int), (501 : Int)))
      (.br y4 (.call (quirks_Has.f p (22 : Int)) fun y54 =>
       .br (!y54) (.ret ((0 : Int), (0 : Int), (400 : Int)))
       (.chk ((0 : Nat) + y3.length ≤ y3.length) <| .call (framing_Length.f (List.take y3.length (List.drop (0 : Nat) y3)) p Body) fun (y55a, y55b) =>
       .br (y55b != (0 : Int)) (.ret ((0 : Int), (0 : Int), y55b))
       (.ret ((1 : Int), y55a, (0 : Int)))))
      (.chk ((0 : Nat) + y3.length ≤ y3.length) <| .call (framing_Length.f (List.take y3.length (List.drop (0 : Nat) y3)) p Body) fun (y56a, y56b) =>
       .br (y56b != (0 : Int)) (.ret ((0 : Int), (0 : Int), y56b))
       (.ret ((1 : Int), y56a, (0 : Int))))))
     (.br y4 (.call (quirks_Has.f p (22 : Int)) fun y57 =>
      .br (!y57) (.ret ((0 : Int), (0 : Int), (400 : Int)))
      (.chk ((0 : Nat) + y3.length ≤ y3.length) <| .call (framing_Length.f (List.take y3.length (List.drop (0 : Nat) y3)) p Body) fun (y58a, y58b) =>
       .br (y58b != (0 : Int)) (.ret ((0 : Int), (0 : Int), y58b))
       (.ret ((1 : Int), y58a, (0 : Int)))))
      (.chk ((0 : Nat) + y3.length ≤ y3.length) <| .call (framing_Length.f (List.take y3.length (List.drop (0 : Nat) y3)) p Body) fun (y59a, y59b) =>
      .br (y59b != (0 : Int)) (.ret ((0 : Int), (0 : Int), y59b))
      (.ret ((1 : Int), y59a, (0 : Int))))))))
    (.br (!y4) (.call (quirks_Has.f p (19 : Int)) fun y60 =>
     .br (!y60) (.ret ((0 : Int), (0 : Int), (501 : Int)))
     (.br y4 (.call (quirks_Has.f p (22 : Int)) fun y61 =>
      .br (!y61) (.ret ((0 : Int), (0 : Int), (400 : Int)))
      (.chk ((0 : Nat) + y3.length ≤ y3.length) <| .call (framing_Length.f (List.take y3.length (List.drop (0 : Nat) y3)) p Body) fun (y62a, y62b) =>
      .br (y62b != (0 : Int)) (.ret ((0 : Int), (0 : Int), y62b))
      (.ret ((1 : Int), y62a, (0 : Int)))))
     (.chk ((0 : Nat) + y3.length ≤ y3.length) <| .call (framing_Length.f (List.take y3.length (List.drop (0 : Nat) y3)) p Body) fun (y63a, y63b) =>
      .br (y63b != (0 : Int)) (.ret ((0 : Int), (0 : Int), y63b))
      (.ret ((1 : Int), y63a, (0 : Int))))))
    (.br y4 (.call (quirks_Has.f p (22 : Int)) fun y64 =>
     .br (!y64) (.ret ((0 : Int), (0 : Int), (400 : Int)))
     (.chk ((0 : Nat) + y3.length ≤ y3.length) <| .call (framing_Length.f (List.take y3.length (List.drop (0 : Nat) y3)) p Body) fun (y65a, y65b) =>
      .br (y65b != (0 : Int)) (.ret ((0 : Int), (0 : Int), y65b))
      (.ret ((1 : Int), y65a, (0 : Int)))))
     (.chk ((0 : Nat) + y3.length ≤ y3.length) <| .call (framing_Length.f (List.take y3.length (List.drop (0 : Nat) y3)) p Body) fun (y66a, y66b) =>
     .br (y66b != (0 : Int)) (.ret ((0 : Int), (0 : Int), y66b))
     (.ret ((1 : Int), y66a, (0 : Int)))))))))
  (.br y4 (.br ((↑y3.length : Int) == (0 : Int)) (.br Chunked (.ret ((2 : Int), (0 : Int), (0 : Int)))
    (.br y4 (.br ((↑y3.length : Int) == (0 : Int)) (.ret ((0 : Int), (0 : Int), (501 : Int)))
     (.call (quirks_Has.f p (21 : Int)) fun y67 =>
     .br y67 (.ret ((0 : Int), (0 : Int), (501 : Int)))
     (.br (!y4) (.call (quirks_Has.f p (19 : Int)) fun y68 =>
      .br (!y68) (.ret ((0 : Int), (0 : Int), (501 : Int)))
      (.br y4 (.call (quirks_Has.f p (22 : Int)) fun y69 =>
       .br (!y69) (.ret ((0 : Int), (0 : Int), (400 : Int)))
       (.chk ((0 : Nat) + y3.length ≤ y3.length) <| .call (framing_Length.f (List.take y3.length (List.drop (0 : Nat) y3)) p Body) fun (y70a, y70b) =>
        .br (y70b != (0 : Int)) (.ret ((0 : Int), (0 : Int), y70b))
        (.ret ((1 : Int), y70a, (0 : Int)))))
       (.chk ((0 : Nat) + y3.length ≤ y3.length) <| .call (framing_Length.f (List.take y3.length (List.drop (0 : Nat) y3)) p Body) fun (y71a, y71b) =>
       .br (y71b != (0 : Int)) (.ret ((0 : Int), (0 : Int), y71b))
       (.ret ((1 : Int), y71a, (0 : Int))))))
      (.br y4 (.call (quirks_Has.f p (22 : Int)) fun y72 =>
       .br (!y72) (.ret ((0 : Int), (0 : Int), (400 : Int)))
       (.chk ((0 : Nat) + y3.length ≤ y3.length) <| .call (framing_Length.f (List.take y3.length (List.drop (0 : Nat) y3)) p Body) fun (y73a, y73b) =>
       .br (y73b != (0 : Int)) (.ret ((0 : Int), (0 : Int), y73b))
       (.ret ((1 : Int), y73a, (0 : Int)))))
      (.chk ((0 : Nat) + y3.length ≤ y3.length) <| .call (framing_Length.f (List.take y3.length (List.drop (0 : Nat) y3)) p Body) fun (y74a, y74b) =>
       .br (y74b != (0 : Int)) (.ret ((0 : Int), (0 : Int), y74b))
       (.ret ((1 : Int), y74a, (0 : Int))))))))
    (.br (!y4) (.call (quirks_Has.f p (19 : Int)) fun y75 =>
     .br (!y75) (.ret ((0 : Int), (0 : Int), (501 : Int)))
     (.br y4 (.call (quirks_Has.f p (22 : Int)) fun y76 =>
      .br (!y76) (.ret ((0 : Int), (0 : Int), (400 : Int)))
      (.chk ((0 : Nat) + y3.length ≤ y3.length) <| .call (framing_Length.f (List.take y3.length (List.drop (0 : Nat) y3)) p Body) fun (y77a, y77b) =>
       .br (y77b != (0 : Int)) (.ret ((0 : Int), (0 : Int), y77b))
       (.ret ((1 : Int), y77a, (0 : Int)))))
      (.chk ((0 : Nat) + y3.length ≤ y3.length) <| .call (framing_Length.f (List.take y3.length (List.drop (0 : Nat) y3)) p Body) fun (y78a, y78b) =>
      .br (y78b != (0 : Int)) (.ret ((0 : Int), (0 : Int), y78b))
      (.ret ((1 : Int), y78a, (0 : Int))))))
     (.br y4 (.call (quirks_Has.f p (22 : Int)) fun y79 =>
      .br (!y79) (.ret ((0 : Int), (0 : Int), (400 : Int)))
      (.chk ((0 : Nat) + y3.length ≤ y3.length) <| .call (framing_Length.f (List.take y3.length (List.drop (0 : Nat) y3)) p Body) fun (y80a, y80b) =>
      .br (y80b != (0 : Int)) (.ret ((0 : Int), (0 : Int), y80b))
      (.ret ((1 : Int), y80a, (0 : Int)))))
     (.chk ((0 : Nat) + y3.length ≤ y3.length) <| .call (framing_Length.f (List.take y3.length (List.drop (0 : Nat) y3)) p Body) fun (y81a, y81b) =>
      .br (y81b != (0 : Int)) (.ret ((0 : Int), (0 : Int), y81b))
      (.ret ((1 : Int), y81a, (0 : Int))))))))
   (.call (quirks_Has.f p (21 : Int)) fun y82 =>
    .br y82 (.br Chunked (.ret ((2 : Int), (0 : Int), (0 : Int)))
    (.br y4 (.br ((↑y3.length : Int) == (0 : Int)) (.ret ((0 : Int), (0 : Int), (501 : Int)))
     (.call (quirks_Has.f p (21 : Int)) fun y83 =>
      .br y83 (.ret ((0 : Int), (0 : Int), (501 : Int)))
      (.br (!y4) (.call (quirks_Has.f p (19 : Int)) fun y84 =>
       .br (!y84) (.ret ((0 : Int), (0 : Int), (501 : Int)))
       (.br y4 (.call (quirks_Has.f p (22 : Int)) fun y85 =>
        .br (!y85) (.ret ((0 : Int), (0 : Int), (400 : Int)))
        (.chk ((0 : Nat) + y3.length ≤ y3.length) <| .call (framing_Length.f (List.take y3.length (List.drop (0 : Nat) y3)) p Body) fun (y86a, y86b) =>
        .br (y86b != (0 : Int)) (.ret ((0 : Int), (0 : Int), y86b))
        (.ret ((1 : Int), y86a, (0 : Int)))))
       (.chk ((0 : Nat) + y3.length ≤ y3.length) <| .call (framing_Length.f (List.take y3.length (List.drop (0 : Nat) y3)) p Body) fun (y87a, y87b) =>
        .br (y87b != (0 : Int)) (.ret ((0 : Int), (0 : Int), y87b))
        (.ret ((1 : Int), y87a, (0 : Int))))))
      (.br y4 (.call (quirks_Has.f p (22 : Int)) fun y88 =>
       .br (!y88) (.ret ((0 : Int), (0 : Int), (400 : Int)))
       (.chk ((0 : Nat) + y3.length ≤ y3.length) <| .call (framing_Length.f (List.take y3.length (List.drop (0 : Nat) y3)) p Body) fun (y89a, y89b) =>
        .br (y89b != (0 : Int)) (.ret ((0 : Int), (0 : Int), y89b))
        (.ret ((1 : Int), y89a, (0 : Int)))))
       (.chk ((0 : Nat) + y3.length ≤ y3.length) <| .call (framing_Length.f (List.take y3.length (List.drop (0 : Nat) y3)) p Body) fun (y90a, y90b) =>
       .br (y90b != (0 : Int)) (.ret ((0 : Int), (0 : Int), y90b))
       (.ret ((1 : Int), y90a, (0 : Int))))))))
     (.br (!y4) (.call (quirks_Has.f p (19 : Int)) fun y91 =>
      .br (!y91) (.ret ((0 : Int), (0 : Int), (501 : Int)))
      (.br y4 (.call (quirks_Has.f p (22 : Int)) fun y92 =>
       .br (!y92) (.ret ((0 : Int), (0 : Int), (400 : Int)))
       (.chk ((0 : Nat) + y3.length ≤ y3.length) <| .call (framing_Length.f (List.take y3.length (List.drop (0 : Nat) y3)) p Body) fun (y93a, y93b) =>
       .br (y93b != (0 : Int)) (.ret ((0 : Int), (0 : Int), y93b))
       (.ret ((1 : Int), y93a, (0 : Int)))))
      (.chk ((0 : Nat) + y3.length ≤ y3.length) <| .call (framing_Length.f (List.take y3.length (List.drop (0 : Nat) y3)) p Body) fun (y94a, y94b) =>
       .br (y94b != (0 : Int)) (.ret ((0 : Int), (0 : Int), y94b))
       (.ret ((1 : Int), y94a, (0 : Int))))))
     (.br y4 (.call (quirks_Has.f p (22 : Int)) fun y95 =>
      .br (!y95) (.ret ((0 : Int), (0 : Int), (400 : Int)))
      (.chk ((0 : Nat) + y3.length ≤ y3.length) <| .call (framing_Length.f (List.take y3.length (List.drop (0 : Nat) y3)) p Body) fun (y96a, y96b) =>
       .br (y96b != (0 : Int)) (.ret ((0 : Int), (0 : Int), y96b))
       (.ret ((1 : Int), y96a, (0 : Int)))))
      (.chk ((0 : Nat) + y3.length ≤ y3.length) <| .call (framing_Length.f (List.take y3.length (List.drop (0 : Nat) y3)) p Body) fun (y97a, y97b) =>
      .br (y97b != (0 : Int)) (.ret ((0 : Int), (0 : Int), y97b))
      (.ret ((1 : Int), y97a, (0 : Int))))))))
    (.br y4 (.br ((↑y3.length : Int) == (0 : Int)) (.ret ((0 : Int), (0 : Int), (501 : Int)))
     (.call (quirks_Has.f p (21 : Int)) fun y98 =>
     .br y98 (.ret ((0 : Int), (0 : Int), (501 : Int)))
     (.br (!y4) (.call (quirks_Has.f p (19 : Int)) fun y99 =>
      .br (!y99) (.ret ((0 : Int), (0 : Int), (501 : Int)))
      (.br y4 (.call (quirks_Has.f p (22 : Int)) fun y100 =>
       .br (!y100) (.ret ((0 : Int), (0 : Int), (400 : Int)))
       (.chk ((0 : Nat) + y3.length ≤ y3.length) <| .call (framing_Length.f (List.take y3.length (List.drop (0 : Nat) y3)) p Body) fun (y101a, y101b) =>
        .br (y101b != (0 : Int)) (.ret ((0 : Int), (0 : Int), y101b))
        (.ret ((1 : Int), y101a, (0 : Int)))))
       (.chk ((0 : Nat) + y3.length ≤ y3.length) <| .call (framing_Length.f (List.take y3.length (List.drop (0 : Nat) y3)) p Body) fun (y102a, y102b) =>
       .br (y102b != (0 : Int)) (.ret ((0 : Int), (0 : Int), y102b))
       (.ret ((1 : Int), y102a, (0 : Int))))))
      (.br y4 (.call (quirks_Has.f p (22 : Int)) fun y103 =>
       .br (!y103) (.ret ((0 : Int), (0 : Int), (400 : Int)))
       (.chk ((0 : Nat) + y3.length ≤ y3.length) <| .call (framing_Length.f (List.take y3.length (List.drop (0 : Nat) y3)) p Body) fun (y104a, y104b) =>
       .br (y104b != (0 : Int)) (.ret ((0 : Int), (0 : Int), y104b))
       (.ret ((1 : Int), y104a, (0 : Int)))))
      (.chk ((0 : Nat) + y3.length ≤ y3.length) <| .call (framing_Length.f (List.take y3.length (List.drop (0 : Nat) y3)) p Body) fun (y105a, y105b) =>
       .br (y105b != (0 : Int)) (.ret ((0 : Int), (0 : Int), y105b))
       (.ret ((1 : Int), y105a, (0 : Int))))))))
    (.br (!y4) (.call (quirks_Has.f p (19 : Int)) fun y106 =>
     .br (!y106) (.ret ((0 : Int), (0 : Int), (501 : Int)))
     (.br y4 (.call (quirks_Has.f p (22 : Int)) fun y107 =>
      .br (!y107) (.ret ((0 : Int), (0 : Int), (400 : Int)))
      (.chk ((0 : Nat) + y3.length ≤ y3.length) <| .call (framing_Length.f (List.take y3.length (List.drop (0 : Nat) y3)) p Body) fun (y108a, y108b) =>
       .br (y108b != (0 : Int)) (.ret ((0 : Int), (0 : Int), y108b))
       (.ret ((1 : Int), y108a, (0 : Int)))))
      (.chk ((0 : Nat) + y3.length ≤ y3.length) <| .call (framing_Length.f (List.take y3.length (List.drop (0 : Nat) y3)) p Body) fun (y109a, y109b) =>
      .br (y109b != (0 : Int)) (.ret ((0 : Int), (0 : Int), y109b))
      (.ret ((1 : Int), y109a, (0 : Int))))))
     (.br y4 (.call (quirks_Has.f p (22 : Int)) fun y110 =>
      .br (!y110) (.ret ((0 : Int), (0 : Int), (400 : Int)))
      (.chk ((0 : Nat) + y3.length ≤ y3.length) <| .call (framing_Length.f (List.take y3.length (List.drop (0 : Nat) y3)) p Body) fun (y111a, y111b) =>
      .br (y111b != (0 : Int)) (.ret ((0 : Int), (0 : Int), y111b))
      (.ret ((1 : Int), y111a, (0 : Int)))))
     (.chk ((0 : Nat) + y3.length ≤ y3.length) <| .call (framing_Length.f (List.take y3.length (List.drop (0 : Nat) y3)) p Body) fun (y112a, y112b) =>
      .br (y112b != (0 : Int)) (.ret ((0 : Int), (0 : Int), y112b))
      (.ret ((1 : Int), y112a, (0 : Int)))))))))
   (.br y4 (.br ((↑y3.length : Int) == (0 : Int)) (.ret ((0 : Int), (0 : Int), (501 : Int)))
    (.call (quirks_Has.f p (21 : Int)) fun y113 =>
    .br y113 (.ret ((0 : Int), (0 : Int), (501 : Int)))
    (.br (!y4) (.call (quirks_Has.f p (19 : Int)) fun y114 =>
     .br (!y114) (.ret ((0 : Int), (0 : Int), (501 : Int)))
     (.br y4 (.call (quirks_Has.f p (22 : Int)) fun y115 =>
      .br (!y115) (.ret ((0 : Int), (0 : Int), (400 : Int)))
      (.chk ((0 : Nat) + y3.length ≤ y3.length) <| .call (framing_Length.f (List.take y3.length (List.drop (0 : Nat) y3)) p Body) fun (y116a, y116b) =>
       .br (y116b != (0 : Int)) (.ret ((0 : Int), (0 : Int), y116b))
       (.ret ((1 : Int), y116a, (0 : Int)))))
      (.chk ((0 : Nat) + y3.length ≤ y3.length) <| .call (framing_Length.f (List.take y3.length (List.drop (0 : Nat) y3)) p Body) fun (y117a, y117b) =>
      .br (y117b != (0 : Int)) (.ret ((0 : Int), (0 : Int), y117b))
      (.ret ((1 : Int), y117a, (0 : Int))))))
     (.br y4 (.call (quirks_Has.f p (22 : Int)) fun y118 =>
      .br (!y118) (.ret ((0 : Int), (0 : Int), (400 : Int)))
      (.chk ((0 : Nat) + y3.length ≤ y3.length) <| .call (framing_Length.f (List.take y3.length (List.drop (0 : Nat) y3)) p Body) fun (y119a, y119b) =>
      .br (y119b != (0 : Int)) (.ret ((0 : Int), (0 : Int), y119b))
      (.ret ((1 : Int), y119a, (0 : Int)))))
     (.chk ((0 : Nat) + y3.length ≤ y3.length) <| .call (framing_Length.f (List.take y3.length (List.drop (0 : Nat) y3)) p Body) fun (y120a, y120b) =>
      .br (y120b != (0 : Int)) (.ret ((0 : Int), (0 : Int), y120b))
      (.ret ((1 : Int), y120a, (0 : Int))))))))
   (.br (!y4) (.call (quirks_Has.f p (19 : Int)) fun y121 =>
    .br (!y121) (.ret ((0 : Int), (0 : Int), (501 : Int)))
    (.br y4 (.call (quirks_Has.f p (22 : Int)) fun y122 =>
     .br (!y122) (.ret ((0 : Int), (0 : Int), (400 : Int)))
     (.chk ((0 : Nat) + y3.length ≤ y3.length) <| .call (framing_Length.f (List.take y3.length (List.drop (0 : Nat) y3)) p Body) fun (y123a, y123b) =>
      .br (y123b != (0 : Int)) (.ret ((0 : Int), (0 : Int), y123b))
      (.ret ((1 : Int), y123a, (0 : Int)))))
     (.chk ((0 : Nat) + y3.length ≤ y3.length) <| .call (framing_Length.f (List.take y3.length (List.drop (0 : Nat) y3)) p Body) fun (y124a, y124b) =>
     .br (y124b != (0 : Int)) (.ret ((0 : Int), (0 : Int), y124b))
     (.ret ((1 : Int), y124a, (0 : Int))))))
    (.br y4 (.call (quirks_Has.f p (22 : Int)) fun y125 =>
     .br (!y125) (.ret ((0 : Int), (0 : Int), (400 : Int)))
     (.chk ((0 : Nat) + y3.length ≤ y3.length) <| .call (framing_Length.f (List.take y3.length (List.drop (0 : Nat) y3)) p Body) fun (y126a, y126b) =>
     .br (y126b != (0 : Int)) (.ret ((0 : Int), (0 : Int), y126b))
     (.ret ((1 : Int), y126a, (0 : Int)))))
    (.chk ((0 : Nat) + y3.length ≤ y3.length) <| .call (framing_Length.f (List.take y3.length (List.drop (0 : Nat) y3)) p Body) fun (y127a, y127b) =>
     .br (y127b != (0 : Int)) (.ret ((0 : Int), (0 : Int), y127b))
     (.ret ((1 : Int), y127a, (0 : Int)))))))))
  (.chk ((0 : Nat) + y3.length ≤ y3.length) <| .call (framing_Length.f (List.take y3.length (List.drop (0 : Nat) y3)) p Body) fun (y128a, y128b) =>
  .br (y128b != (0 : Int)) (.ret ((0 : Int), (0 : Int), y128b))
  (.ret ((1 : Int), y128a, (0 : Int)))))
def f (l : List (List UInt8 × List UInt8)) (p : Int) (Body : Int) (Chunked : Bool) (minor : Int) : Option (Int × Int × Int) := (t l p Body Chunked minor).val
def F (x : D.den) : Option (Int × Int × Int) := f x.1.1 x.2.1 x.2.2.1.2.2.2.1 x.2.2.1.2.2.2.2.2.2.2.2.1 x.2.2.2.1
def pa : D.den → (Int × Int × Int) → A.den := fun ((l, _), (_, ((_, (_, (_, (_, (_, (_, (_, (_, (_, _))))))))), (_, _)))) (y1, y2, y3) => ((l, ()), ((y1, y2), y3))
def con : Con := tcon D A pa F
theorem ok : ConOk Tryz.prog 99 con := tcon_ok Base.mixed Base.prog_ok bk_framing_Coding_ok (by kernel_rfl) LapsOk.nil 9 (fun _ => rfl) (fun x => t x.1.1 x.2.1 x.2.2.1.2.2.2.1 x.2.2.1.2.2.2.2.2.2.2.2.1 x.2.2.2.1) (fun _ => rfl) fun _ _ _ => (by kernel_rfl)
end framing_Decide
def bk_framing_Decide : Book := bk_framing_Coding.add 99 framing_Decide.con
theorem bk_framing_Decide_ok : BookOk Tryz.prog bk_framing_Decide := bk_framing_Coding_ok.add framing_Decide.ok
end Go.Vx
end
section
set_option maxRecDepth 1000000
set_option linter.unusedVariables false
namespace Go.Vx
open Go Go.Vx Go.Proofs
namespace parser_Parser_framed
def D : Dom := ⟨[.cells (.cat (.ptr 1 0 0 0) (.cat .str (.cat .str (.cat (.int .i64) (.cat (.sl 3 2) (.cat .bool (.cat (.sl 4 1) (.cat (.sl 5 2) (.cat (.int .i64) (.cat (.int .i64) (.cat (.int .i64) (.cat (.int .i64) (.cat .bool (.cat .bool (.cat (.int .u32) (.cat (.int .i64) (.cat (.int .i64) (.cat (.int .i64) (.cat (.int .i64) (.cat (.int .i64) (.cat (.int .i64) (.cat (.int .i64) (.cat (.int .i64) (.cat .bool (.cat .bool (.cat (.int .i64) (.sl 6 7))))))))))))))))))))))))))) 84 false, .cells (.cat (.int .u32) (.cat (.int .i64) (.cat (.sl 2 1) (.cat .bool (.cat .bool .bool))))) 110 false, .vec .byte 5 false, .vec (.pair .str .str) 72 false, .vec .byte 5 false, .vec (.pair .str .str) 72 false, .vec (.pair .str (.pair .str (.pair (.int .i64) (.pair (.sl (.pair .str .str)) (.pair .bool (.pair (.sl .byte) (.sl (.pair .str .str)))))))) 47 false], (.ptr 0 0 0 0)⟩
def A : Dom := ⟨[.cells (.cat (.ptr 7 0 0 0) (.cat .str (.cat .str (.cat (.int .i64) (.cat (.sl 9 2) (.cat .bool (.cat (.sl 10 1) (.cat (.sl 11 2) (.cat (.int .i64) (.cat (.int .i64) (.cat (.int .i64) (.cat (.int .i64) (.cat .bool (.cat .bool (.cat (.int .u32) (.cat (.int .i64) (.cat (.int .i64) (.cat (.int .i64) (.cat (.int .i64) (.cat (.int .i64) (.cat (.int .i64) (.cat (.int .i64) (.cat (.int .i64) (.cat .bool (.cat .bool (.cat (.int .i64) (.sl 12 7))))))))))))))))))))))))))) 84 false, .dead, .dead, .dead, .dead, .dead, .dead, .cells (.cat (.int .u32) (.cat (.int .i64) (.cat (.sl 8 1) (.cat .bool (.cat .bool .bool))))) 110 false, .vec .byte 5 false, .vec (.pair .str .str) 72 false, .vec .byte 5 false, .vec (.pair .str .str) 72 false, .vec (.pair .str (.pair .str (.pair (.int .i64) (.pair (.sl (.pair .str .str)) (.pair .bool (.pair (.sl .byte) (.sl (.pair .str .str)))))))) 47 false], (.tup .nil)⟩
def sel : List Nat := [0, 1, 2, 3, 4, 5, 6, 7, 8, 9, 10, 11, 14, 19, 21, 22, 23, 24, 25, 26, 27, 28, 29, 30, 31]
def t (Method : List UInt8) (Target : List UInt8) (Minor : Int) (Chunked : Bool) (stage : Int) (lines : Int) (head : Int) (need : Int) (begun : Bool) (waits : Bool) (p : Int) (Line : Int) (Body : Int) (Chunked_2 : Bool) (err : Int) (p_2 : Int) (most : Int) (pending : Bool) (over : Bool) (bad : Bool) (b : List UInt8) (Fields_2 : List (List UInt8 × List UInt8)) (Body_2 : List UInt8) (Trailers_2 : List (List UInt8 × List UInt8)) (out : List (List UInt8 × List UInt8 × Int × List (List UInt8 × List UInt8) × Bool × List UInt8 × List (List UInt8 × List UInt8))) : Tr (List UInt8 × List UInt8 × Int × Bool × Int × Int × Int × Int × Bool × Bool × Int × Int × Int × Bool × Bool × Bool × List UInt8 × (List (List UInt8 × List UInt8)) × List UInt8 × (List (List UInt8 × List UInt8)) × (List (List UInt8 × List UInt8 × Int × List (List UInt8 × List UInt8) × Bool × List UInt8 × List (List UInt8 × List UInt8)))) :=
 .twice <| .chk ((0 : Nat) + Fields_2.length ≤ Fields_2.length) <| .call (framing_Decide.f (List.take Fields_2.length (List.drop (0 : Nat) Fields_2)) p Body Chunked_2 Minor) fun (y1a, y1b, y1c) =>
 .br (y1c != (0 : Int)) (.okl b.length <| .okl Fields_2.length <| .okl Body_2.length <| .okl Trailers_2.length <| .okl out.length <| .call (parser_Parser_fail.f b Fields_2 Body_2 Trailers_2 out) fun _ =>
  .okl b.length <| .okl Fields_2.length <| .okl Body_2.length <| .okl Trailers_2.length <| .okl out.length <| .ret (Method, Target, Minor, Chunked, stage, lines, head, need, begun, waits, y1c, p_2, most, pending, over, bad, b, Fields_2, Body_2, Trailers_2, out))
 (.br (y1a == (2 : Int)) (.okl b.length <| .okl Fields_2.length <| .okl Body_2.length <| .okl Trailers_2.length <| .okl out.length <| .call (parser_Parser_to.f Line b Fields_2 Body_2 Trailers_2 out (3 : Int)) fun (y3a, y3b, y3c, y3d, y3e) =>
  .chk ((0 : Nat) + Fields_2.length ≤ Fields_2.length) <| .chk ((0 : Nat) + Body_2.length ≤ Body_2.length) <| .chk ((0 : Nat) + Trailers_2.length ≤ Trailers_2.length) <| .call (record_Expects.f (List.take Fields_2.length (List.drop (0 : Nat) Fields_2)) (List.take Body_2.length (List.drop (0 : Nat) Body_2)) (List.take Trailers_2.length (List.drop (0 : Nat) Trailers_2)) Minor) fun y4 =>
  .okl y3e.length <| .okl Fields_2.length <| .okl Body_2.length <| .okl Trailers_2.length <| .okl out.length <| .ret (Method, Target, Minor, true, (3 : Int), lines, head, need, begun, y4, err, p, y3a, y3b, y3c, y3d, y3e, Fields_2, Body_2, Trailers_2, out))
  (.br (y1b == (0 : Int)) (.okl b.length <| .okl Fields_2.length <| .okl Body_2.length <| .okl Trailers_2.length <| .okl out.length <| .call (parser_Parser_whole.f Method Target Minor Chunked Line b Fields_2 Body_2 Trailers_2 out) fun (y5a, y5b, y5c, y5d, y5e, y5f, y5g, y5h, y5i, y5j, y5k, y5l, y5m, y5n, y5o, y5p, y5q, y5r, y5s) =>
   .okl y5o.length <| .okl y5p.length <| .okl y5q.length <| .okl y5r.length <| .okl y5s.length <| .ret (y5a, y5b, y5c, y5d, y5e, y5f, y5g, y5h, y5i, y5j, err, p, y5k, y5l, y5m, y5n, y5o, y5p, y5q, y5r, y5s))
  (.chk ((0 : Nat) + Fields_2.length ≤ Fields_2.length) <| .chk ((0 : Nat) + Body_2.length ≤ Body_2.length) <| .chk ((0 : Nat) + Trailers_2.length ≤ Trailers_2.length) <| .call (record_Expects.f (List.take Fields_2.length (List.drop (0 : Nat) Fields_2)) (List.take Body_2.length (List.drop (0 : Nat) Body_2)) (List.take Trailers_2.length (List.drop (0 : Nat) Trailers_2)) Minor) fun y6 =>
   .okl b.length <| .okl Fields_2.length <| .okl Body_2.length <| .okl Trailers_2.length <| .okl out.length <| .ret (Method, Target, Minor, Chunked, (2 : Int), lines, head, y1b, begun, y6, err, p_2, most, pending, over, bad, b, Fields_2, Body_2, Trailers_2, out))))
def f (Method : List UInt8) (Target : List UInt8) (Minor : Int) (Chunked : Bool) (stage : Int) (lines : Int) (head : Int) (need : Int) (begun : Bool) (waits : Bool) (p : Int) (Line : Int) (Body : Int) (Chunked_2 : Bool) (err : Int) (p_2 : Int) (most : Int) (pending : Bool) (over : Bool) (bad : Bool) (b : List UInt8) (Fields_2 : List (List UInt8 × List UInt8)) (Body_2 : List UInt8) (Trailers_2 : List (List UInt8 × List UInt8)) (out : List (List UInt8 × List UInt8 × Int × List (List UInt8 × List UInt8) × Bool × List UInt8 × List (List UInt8 × List UInt8))) : Option (List UInt8 × List UInt8 × Int × Bool × Int × Int × Int × Int × Bool × Bool × Int × Int × Int × Bool × Bool × Bool × List UInt8 × (List (List UInt8 × List UInt8)) × List UInt8 × (List (List UInt8 × List UInt8)) × (List (List UInt8 × List UInt8 × Int × List (List UInt8 × List UInt8) × Bool × List UInt8 × List (List UInt8 × List UInt8)))) := (t Method Target Minor Chunked stage lines head need begun waits p Line Body Chunked_2 err p_2 most pending over bad b Fields_2 Body_2 Trailers_2 out).val
def F (x : D.den) : Option (List UInt8 × List UInt8 × Int × Bool × Int × Int × Int × Int × Bool × Bool × Int × Int × Int × Bool × Bool × Bool × List UInt8 × (List (List UInt8 × List UInt8)) × List UInt8 × (List (List UInt8 × List UInt8)) × (List (List UInt8 × List UInt8 × Int × List (List UInt8 × List UInt8) × Bool × List UInt8 × List (List UInt8 × List UInt8)))) := f x.1.1.2.1 x.1.1.2.2.1 x.1.1.2.2.2.1 x.1.1.2.2.2.2.2.1 x.1.1.2.2.2.2.2.2.2.2.1 x.1.1.2.2.2.2.2.2.2.2.2.1 x.1.1.2.2.2.2.2.2.2.2.2.2.1 x.1.1.2.2.2.2.2.2.2.2.2.2.2.1 x.1.1.2.2.2.2.2.2.2.2.2.2.2.2.1 x.1.1.2.2.2.2.2.2.2.2.2.2.2.2.2.1 x.1.1.2.2.2.2.2.2.2.2.2.2.2.2.2.2.1 x.1.1.2.2.2.2.2.2.2.2.2.2.2.2.2.2.2.1 x.1.1.2.2.2.2.2.2.2.2.2.2.2.2.2.2.2.2.2.2.1 x.1.1.2.2.2.2.2.2.2.2.2.2.2.2.2.2.2.2.2.2.2.2.2.2.2.1 x.1.1.2.2.2.2.2.2.2.2.2.2.2.2.2.2.2.2.2.2.2.2.2.2.2.2.2.1 x.1.2.1.1 x.1.2.1.2.1 x.1.2.1.2.2.2.1 x.1.2.1.2.2.2.2.1 x.1.2.1.2.2.2.2.2 x.1.2.2.1 x.1.2.2.2.1 x.1.2.2.2.2.1 x.1.2.2.2.2.2.1 x.1.2.2.2.2.2.2.1
def pa : D.den → (List UInt8 × List UInt8 × Int × Bool × Int × Int × Int × Int × Bool × Bool × Int × Int × Int × Bool × Bool × Bool × List UInt8 × (List (List UInt8 × List UInt8)) × List UInt8 × (List (List UInt8 × List UInt8)) × (List (List UInt8 × List UInt8 × Int × List (List UInt8 × List UInt8) × Bool × List UInt8 × List (List UInt8 × List UInt8)))) → A.den := fun (((_, (_, (_, (_, (_, (_, (_, (_, (_, (_, (_, (_, (_, (_, (p, (Line, (Fields, (Head, (Body, (Ext, (Trailers, (Wait, (Idle, (Chunked_2, (Old, (_, _)))))))))))))))))))))))))), ((_, (_, (_, (_, (_, _))))), (_, (_, (_, (_, (_, _))))))), _) (y1, y2, y3, y4, y5, y6, y7, y8, y9, y10, y11, y12, y13, y14, y15, y16, y17, y18, y19, y20, y21) => ((((), (y1, (y2, (y3, ((), (y4, ((), ((), (y5, (y6, (y7, (y8, (y9, (y10, (p, (Line, (Fields, (Head, (Body, (Ext, (Trailers, (Wait, (Idle, (Chunked_2, (Old, (y11, ())))))))))))))))))))))))))), ((), ((), ((), ((), ((), ((), ((y12, (y13, ((), (y14, (y15, y16))))), (y17, (y18, (y19, (y20, (y21, ()))))))))))))), ())
def con : Con := tcon D A pa F
theorem ok : ConOk Tryz.prog 86 con := tcon_ok Base.mixed Base.prog_ok bk_framing_Decide_ok (by kernel_rfl) LapsOk.nil 9 (fun _ => rfl) (fun x => t x.1.1.2.1 x.1.1.2.2.1 x.1.1.2.2.2.1 x.1.1.2.2.2.2.2.1 x.1.1.2.2.2.2.2.2.2.2.1 x.1.1.2.2.2.2.2.2.2.2.2.1 x.1.1.2.2.2.2.2.2.2.2.2.2.1 x.1.1.2.2.2.2.2.2.2.2.2.2.2.1 x.1.1.2.2.2.2.2.2.2.2.2.2.2.2.1 x.1.1.2.2.2.2.2.2.2.2.2.2.2.2.2.1 x.1.1.2.2.2.2.2.2.2.2.2.2.2.2.2.2.1 x.1.1.2.2.2.2.2.2.2.2.2.2.2.2.2.2.2.1 x.1.1.2.2.2.2.2.2.2.2.2.2.2.2.2.2.2.2.2.2.1 x.1.1.2.2.2.2.2.2.2.2.2.2.2.2.2.2.2.2.2.2.2.2.2.2.2.1 x.1.1.2.2.2.2.2.2.2.2.2.2.2.2.2.2.2.2.2.2.2.2.2.2.2.2.2.1 x.1.2.1.1 x.1.2.1.2.1 x.1.2.1.2.2.2.1 x.1.2.1.2.2.2.2.1 x.1.2.1.2.2.2.2.2 x.1.2.2.1 x.1.2.2.2.1 x.1.2.2.2.2.1 x.1.2.2.2.2.2.1 x.1.2.2.2.2.2.2.1) (fun _ => rfl) fun _ _ _ => (by kernel_rfl)
end parser_Parser_framed
def bk_parser_Parser_framed : Book := bk_framing_Decide.add 86 parser_Parser_framed.con
theorem bk_parser_Parser_framed_ok : BookOk Tryz.prog bk_parser_Parser_framed := bk_framing_Decide_ok.add parser_Parser_framed.ok
namespace field_Goes
def D : Dom := ⟨[], (.cat .str (.int .u32))⟩
def A : Dom := ⟨[], .bool⟩
def sel : List Nat := [0, 1]
def t (s : List UInt8) (p : Int) : Tr (Bool) :=
 .call (quirks_Has.f p (13 : Int)) fun y1 =>
 .br y1 (.br (!s == []) (.chk ((0 : Int) ≤ (0 : Int) ∧ (0 : Int) < (↑s.length : Int)) <| .call (octet_Blank.f (↑(s.getD (Int.toNat (0 : Int)) (0 : UInt8)).toNat : Int)) fun y2 =>
  .ret y2)
  (.ret false))
 (.ret false)
def f (s : List UInt8) (p : Int) : Option (Bool) := (t s p).val
def F (x : D.den) : Option (Bool) := f x.2.1 x.2.2
def pa : D.den → (Bool) → A.den := fun (_, (_, _)) y1 => ((), y1)
def con : Con := tcon D A pa F
theorem ok : ConOk Tryz.prog 101 con := tcon_ok Base.mixed Base.prog_ok bk_parser_Parser_framed_ok (by kernel_rfl) LapsOk.nil 9 (fun _ => rfl) (fun x => t x.2.1 x.2.2) (fun _ => rfl) fun _ _ _ => (by kernel_rfl)
end field_Goes
def bk_field_Goes : Book := bk_parser_Parser_framed.add 101 field_Goes.con
theorem bk_field_Goes_ok : BookOk Tryz.prog bk_field_Goes := bk_parser_Parser_framed_ok.add field_Goes.ok
namespace field_Join
def D : Dom := ⟨[], (.cat (.agg (.cat .str .str)) .str)⟩
def A : Dom := ⟨[], (.agg (.cat .str .str))⟩
def sel : List Nat := [1, 2]
def t (Value : List UInt8) (s : List UInt8) : Tr (List UInt8) :=
 .call (text_Trim.f s) fun y1 =>
 .chk ((↑([(32 : UInt8)].length + y1.length) : Int) ≤ (9223372036854775807 : Int)) <| .chk ((↑(Value.length + ([(32 : UInt8)] ++ y1).length) : Int) ≤ (9223372036854775807 : Int)) <| .ret (Value ++ ([(32 : UInt8)] ++ y1))
def f (Value : List UInt8) (s : List UInt8) : Option (List UInt8) := (t Value s).val
def F (x : D.den) : Option (List UInt8) := f x.2.1.2 x.2.2
def pa : D.den → (List UInt8) → A.den := fun (_, ((Name, _), _)) y1 => ((), (Name, y1))
def con : Con := tcon D A pa F
theorem ok : ConOk Tryz.prog 102 con := tcon_ok Base.mixed Base.prog_ok bk_field_Goes_ok (by kernel_rfl) LapsOk.nil 9 (fun _ => rfl) (fun x => t x.2.1.2 x.2.2) (fun _ => rfl) fun _ _ _ => (by kernel_rfl)
end field_Join
def bk_field_Join : Book := bk_field_Goes.add 102 field_Join.con
theorem bk_field_Join_ok : BookOk Tryz.prog bk_field_Join := bk_field_Goes_ok.add field_Join.ok
namespace field_out
def D : Dom := ⟨[], (.cat (.int .u32) (.int .i64))⟩
def A : Dom := ⟨[], (.tup (.cat (.agg (.cat .str .str)) (.cat .bool (.int .i64))))⟩
def sel : List Nat := [0, 1]
def t (p : Int) (clause : Int) : Tr (List UInt8 × List UInt8 × Bool × Int) :=
 .call (quirks_Has.f p clause) fun y1 =>
 .br y1 (.ret ([], [], false, (0 : Int)))
 (.ret ([], [], false, (400 : Int)))
def f (p : Int) (clause : Int) : Option (List UInt8 × List UInt8 × Bool × Int) := (t p clause).val
def F (x : D.den) : Option (List UInt8 × List UInt8 × Bool × Int) := f x.2.1 x.2.2
def pa : D.den → (List UInt8 × List UInt8 × Bool × Int) → A.den := fun (_, (_, _)) (y1, y2, y3, y4) => ((), ((y1, y2), (y3, y4)))
def con : Con := tcon D A pa F
theorem ok : ConOk Tryz.prog 126 con := tcon_ok Base.mixed Base.prog_ok bk_field_Join_ok (by kernel_rfl) LapsOk.nil 9 (fun _ => rfl) (fun x => t x.2.1 x.2.2) (fun _ => rfl) fun _ _ _ => (by kernel_rfl)
end field_out
def bk_field_out : Book := bk_field_Join.add 126 field_out.con
theorem bk_field_out_ok : BookOk Tryz.prog bk_field_out := bk_field_Join_ok.add field_out.ok
namespace field_Parse
def D : Dom := ⟨[], (.cat .str (.int .u32))⟩
def A : Dom := field_out.A
def sel : List Nat := [0, 1]
def t (s : List UInt8) (p : Int) : Tr (List UInt8 × List UInt8 × Bool × Int) :=
 .call (strings_Cut_sx3a.f s) fun (y1a, y1b, y1c) =>
 .br (!y1c) (.call (field_out.f p (11 : Int)) fun (y2a, y2b, y2c, y2d) =>
  .ret (y2a, y2b, y2c, y2d))
 (.call (quirks_Has.f p (9 : Int)) fun y3 =>
  .br y3 (.call (strings_TrimRight.f y1a [(32 : UInt8), (9 : UInt8)]) fun y4 =>
  .br (y4 == []) (.call (field_out.f p (12 : Int)) fun (y5a, y5b, y5c, y5d) =>
   .ret (y5a, y5b, y5c, y5d))
  (.call (text_Trim.f y1b) fun y6 =>
   .call (quirks_Has.f p (10 : Int)) fun y7 =>
   .br (!y7) (.call (octet_All.f [(1 : Int)] y4) fun y8 =>
   .br (!y8) (.ret ([], [], false, (400 : Int)))
   (.call (quirks_Has.f p (14 : Int)) fun y9 =>
    .br (!y9) (.call (octet_All.f [(6 : Int)] y6) fun y10 =>
    .br (!y10) (.ret ([], [], false, (400 : Int)))
    (.ret (y4, y6, true, (0 : Int))))
    (.ret (y4, y6, true, (0 : Int)))))
   (.call (quirks_Has.f p (14 : Int)) fun y11 =>
   .br (!y11) (.call (octet_All.f [(6 : Int)] y6) fun y12 =>
    .br (!y12) (.ret ([], [], false, (400 : Int)))
    (.ret (y4, y6, true, (0 : Int))))
   (.ret (y4, y6, true, (0 : Int))))))
  (.br (y1a == []) (.call (field_out.f p (12 : Int)) fun (y13a, y13b, y13c, y13d) =>
   .ret (y13a, y13b, y13c, y13d))
  (.call (text_Trim.f y1b) fun y14 =>
   .call (quirks_Has.f p (10 : Int)) fun y15 =>
   .br (!y15) (.call (octet_All.f [(1 : Int)] y1a) fun y16 =>
   .br (!y16) (.ret ([], [], false, (400 : Int)))
   (.call (quirks_Has.f p (14 : Int)) fun y17 =>
    .br (!y17) (.call (octet_All.f [(6 : Int)] y14) fun y18 =>
    .br (!y18) (.ret ([], [], false, (400 : Int)))
    (.ret (y1a, y14, true, (0 : Int))))
    (.ret (y1a, y14, true, (0 : Int)))))
   (.call (quirks_Has.f p (14 : Int)) fun y19 =>
   .br (!y19) (.call (octet_All.f [(6 : Int)] y14) fun y20 =>
    .br (!y20) (.ret ([], [], false, (400 : Int)))
    (.ret (y1a, y14, true, (0 : Int))))
   (.ret (y1a, y14, true, (0 : Int)))))))
def f (s : List UInt8) (p : Int) : Option (List UInt8 × List UInt8 × Bool × Int) := (t s p).val
def F (x : D.den) : Option (List UInt8 × List UInt8 × Bool × Int) := f x.2.1 x.2.2
def pa : D.den → (List UInt8 × List UInt8 × Bool × Int) → A.den := fun (_, (_, _)) (y1, y2, y3, y4) => ((), ((y1, y2), (y3, y4)))
def con : Con := tcon D A pa F
theorem ok : ConOk Tryz.prog 103 con := tcon_ok Base.mixed Base.prog_ok bk_field_out_ok (by kernel_rfl) LapsOk.nil 9 (fun _ => rfl) (fun x => t x.2.1 x.2.2) (fun _ => rfl) fun _ _ _ => (by kernel_rfl)
end field_Parse
def bk_field_Parse : Book := bk_field_out.add 103 field_Parse.con
theorem bk_field_Parse_ok : BookOk Tryz.prog bk_field_Parse := bk_field_out_ok.add field_Parse.ok
namespace parser_Parser_ended
def D : Dom := parser_Parser_framed.D
def A : Dom := parser_Parser_framed.A
def sel : List Nat := [0, 1, 2, 3, 4, 5, 6, 7, 8, 9, 10, 11, 12, 14, 15, 16, 19, 20, 21, 22, 23, 24, 25, 26, 27, 28, 29, 30, 31]
def t (Method : List UInt8) (Target : List UInt8) (Minor : Int) (Chunked : Bool) (stage : Int) (lines : Int) (head : Int) (need : Int) (begun : Bool) (waits : Bool) (p : Int) (Line : Int) (Fields : Int) (Body : Int) (Ext : Int) (Trailers : Int) (Chunked_2 : Bool) (Old : Bool) (err : Int) (p_2 : Int) (most : Int) (pending : Bool) (over : Bool) (bad : Bool) (b : List UInt8) (Fields_2 : List (List UInt8 × List UInt8)) (Body_2 : List UInt8) (Trailers_2 : List (List UInt8 × List UInt8)) (out : List (List UInt8 × List UInt8 × Int × List (List UInt8 × List UInt8) × Bool × List UInt8 × List (List UInt8 × List UInt8))) : Tr (List UInt8 × List UInt8 × Int × Bool × Int × Int × Int × Int × Bool × Bool × Int × Int × Int × Bool × Bool × Bool × List UInt8 × (List (List UInt8 × List UInt8)) × List UInt8 × (List (List UInt8 × List UInt8)) × (List (List UInt8 × List UInt8 × Int × List (List UInt8 × List UInt8) × Bool × List UInt8 × List (List UInt8 × List UInt8)))) :=
 .okl b.length <| .call (line_Reader_Line.f over bad b) fun y1 =>
 .br (stage == (0 : Int)) (.okl b.length <| .okl Fields_2.length <| .okl Body_2.length <| .okl Trailers_2.length <| .okl out.length <| .call (parser_Parser_request.f Method Target Minor stage begun p Old err b Fields_2 Body_2 Trailers_2 out y1) fun (y2a, y2b, y2c, y2d, y2e, y2f) =>
  .okl b.length <| .okl Fields_2.length <| .okl Body_2.length <| .okl Trailers_2.length <| .okl out.length <| .ret (y2a, y2b, y2c, Chunked, y2d, lines, head, need, y2e, waits, y2f, p_2, most, pending, over, bad, b, Fields_2, Body_2, Trailers_2, out))
 (.br (stage == (1 : Int)) (.br (y1 == []) (.okl b.length <| .okl Fields_2.length <| .okl Body_2.length <| .okl Trailers_2.length <| .okl out.length <| .call (parser_Parser_framed.f Method Target Minor Chunked stage lines head need begun waits p Line Body Chunked_2 err p_2 most pending over bad b Fields_2 Body_2 Trailers_2 out) fun (y3a, y3b, y3c, y3d, y3e, y3f, y3g, y3h, y3i, y3j, y3k, y3l, y3m, y3n, y3o, y3p, y3q, y3r, y3s, y3t, y3u) =>
   .okl y3q.length <| .okl y3r.length <| .okl y3s.length <| .okl y3t.length <| .okl y3u.length <| .ret (y3a, y3b, y3c, y3d, y3e, y3f, y3g, y3h, y3i, y3j, y3k, y3l, y3m, y3n, y3o, y3p, y3q, y3r, y3s, y3t, y3u))
  (.br (decide (IntKind.i64.wrap (lines + (1 : Int)) > Fields)) (.okl b.length <| .okl Fields_2.length <| .okl Body_2.length <| .okl Trailers_2.length <| .okl out.length <| .call (parser_Parser_fail.f b Fields_2 Body_2 Trailers_2 out) fun _ =>
   .okl b.length <| .okl Fields_2.length <| .okl Body_2.length <| .okl Trailers_2.length <| .okl out.length <| .ret (Method, Target, Minor, Chunked, stage, IntKind.i64.wrap (lines + (1 : Int)), head, need, begun, waits, (431 : Int), p_2, most, pending, over, bad, b, Fields_2, Body_2, Trailers_2, out))
   (.br (decide (IntKind.i64.wrap ((↑Fields_2.length : Int) - (1 : Int)) ≥ (0 : Int))) (.call (field_Goes.f y1 p) fun y5 =>
    .br y5 (.chk ((0 : Int) ≤ IntKind.i64.wrap ((↑Fields_2.length : Int) - (1 : Int)) ∧ IntKind.i64.wrap ((↑Fields_2.length : Int) - (1 : Int)) < (↑Fields_2.length : Int)) <| .chk ((0 : Nat) + (IntKind.i64.wrap ((↑Fields_2.length : Int) - (1 : Int))).toNat < Fields_2.length) <| .call (field_Join.f ((Fields_2.getD ((0 : Nat) + (IntKind.i64.wrap ((↑Fields_2.length : Int) - (1 : Int))).toNat) ([], [])).snd) y1) fun y6 =>
    .chk ((0 : Int) ≤ IntKind.i64.wrap ((↑Fields_2.length : Int) - (1 : Int)) ∧ IntKind.i64.wrap ((↑Fields_2.length : Int) - (1 : Int)) < (↑Fields_2.length : Int)) <| .chk ((0 : Nat) + (IntKind.i64.wrap ((↑Fields_2.length : Int) - (1 : Int))).toNat < Fields_2.length) <| .okl b.length <| .chk ((0 : Nat) = (0 : Nat) ∧ Fields_2.length = (Fields_2.set ((0 : Nat) + (IntKind.i64.wrap ((↑Fields_2.length : Int) - (1 : Int))).toNat) ((Fields_2.getD ((0 : Nat) + (IntKind.i64.wrap ((↑Fields_2.length : Int) - (1 : Int))).toNat) ([], [])).fst, y6)).length) <| .okl Body_2.length <| .okl Trailers_2.length <| .okl out.length <| .ret (Method, Target, Minor, Chunked, stage, IntKind.i64.wrap (lines + (1 : Int)), head, need, begun, waits, err, p_2, most, pending, over, bad, b, Fields_2.set ((0 : Nat) + (IntKind.i64.wrap ((↑Fields_2.length : Int) - (1 : Int))).toNat) ((Fields_2.getD ((0 : Nat) + (IntKind.i64.wrap ((↑Fields_2.length : Int) - (1 : Int))).toNat) ([], [])).fst, y6), Body_2, Trailers_2, out))
    (.call (field_Parse.f y1 p) fun (y7a, y7b, y7c, y7d) =>
    .br y7c (.chk ((0 : Nat) + Fields_2.length ≤ Fields_2.length) <| .chk ((Fields_2.length + (1 : Nat)) * (32 : Nat) ≤ (140737488355328 : Nat)) <| .okl b.length <| .chk ((0 : Nat) = (0 : Nat) ∧ Fields_2.length + (1 : Nat) = (List.take Fields_2.length (List.drop (0 : Nat) Fields_2) ++ [(y7a, y7b)]).length) <| .okl Body_2.length <| .okl Trailers_2.length <| .okl out.length <| .ret (Method, Target, Minor, Chunked, stage, IntKind.i64.wrap (lines + (1 : Int)), head, need, begun, waits, y7d, p_2, most, pending, over, bad, b, List.take Fields_2.length (List.drop (0 : Nat) Fields_2) ++ [(y7a, y7b)], Body_2, Trailers_2, out))
    (.okl b.length <| .okl Fields_2.length <| .okl Body_2.length <| .okl Trailers_2.length <| .okl out.length <| .ret (Method, Target, Minor, Chunked, stage, IntKind.i64.wrap (lines + (1 : Int)), head, need, begun, waits, y7d, p_2, most, pending, over, bad, b, Fields_2, Body_2, Trailers_2, out))))
   (.call (field_Parse.f y1 p) fun (y8a, y8b, y8c, y8d) =>
    .br y8c (.chk ((0 : Nat) + Fields_2.length ≤ Fields_2.length) <| .chk ((Fields_2.length + (1 : Nat)) * (32 : Nat) ≤ (140737488355328 : Nat)) <| .okl b.length <| .chk ((0 : Nat) = (0 : Nat) ∧ Fields_2.length + (1 : Nat) = (List.take Fields_2.length (List.drop (0 : Nat) Fields_2) ++ [(y8a, y8b)]).length) <| .okl Body_2.length <| .okl Trailers_2.length <| .okl out.length <| .ret (Method, Target, Minor, Chunked, stage, IntKind.i64.wrap (lines + (1 : Int)), head, need, begun, waits, y8d, p_2, most, pending, over, bad, b, List.take Fields_2.length (List.drop (0 : Nat) Fields_2) ++ [(y8a, y8b)], Body_2, Trailers_2, out))
    (.okl b.length <| .okl Fields_2.length <| .okl Body_2.length <| .okl Trailers_2.length <| .okl out.length <| .ret (Method, Target, Minor, Chunked, stage, IntKind.i64.wrap (lines + (1 : Int)), head, need, begun, waits, y8d, p_2, most, pending, over, bad, b, Fields_2, Body_2, Trailers_2, out))))))
  (.br (stage == (3 : Int)) (.okl b.length <| .okl Fields_2.length <| .okl Body_2.length <| .okl Trailers_2.length <| .okl out.length <| .call (parser_Parser_chunk.f stage lines need p Line Body Ext err p_2 most pending over bad b Fields_2 Body_2 Trailers_2 out y1) fun (y9a, y9b, y9c, y9d, y9e, y9f, y9g, y9h, y9i, y9j) =>
   .okl y9j.length <| .okl Fields_2.length <| .okl Body_2.length <| .okl Trailers_2.length <| .okl out.length <| .ret (Method, Target, Minor, Chunked, y9a, y9b, head, y9c, begun, waits, y9d, y9e, y9f, y9g, y9h, y9i, y9j, Fields_2, Body_2, Trailers_2, out))
  (.br (stage == (5 : Int)) (.okl b.length <| .okl Fields_2.length <| .okl Body_2.length <| .okl Trailers_2.length <| .okl out.length <| .call (parser_Parser_to.f Line b Fields_2 Body_2 Trailers_2 out (3 : Int)) fun (y10a, y10b, y10c, y10d, y10e) =>
   .okl y10e.length <| .okl Fields_2.length <| .okl Body_2.length <| .okl Trailers_2.length <| .okl out.length <| .ret (Method, Target, Minor, Chunked, (3 : Int), lines, head, need, begun, waits, err, p, y10a, y10b, y10c, y10d, y10e, Fields_2, Body_2, Trailers_2, out))
   (.br (stage == (6 : Int)) (.br (y1 == []) (.okl b.length <| .okl Fields_2.length <| .okl Body_2.length <| .okl Trailers_2.length <| .okl out.length <| .call (parser_Parser_whole.f Method Target Minor Chunked Line b Fields_2 Body_2 Trailers_2 out) fun (y11a, y11b, y11c, y11d, y11e, y11f, y11g, y11h, y11i, y11j, y11k, y11l, y11m, y11n, y11o, y11p, y11q, y11r, y11s) =>
    .okl y11o.length <| .okl y11p.length <| .okl y11q.length <| .okl y11r.length <| .okl y11s.length <| .ret (y11a, y11b, y11c, y11d, y11e, y11f, y11g, y11h, y11i, y11j, err, p, y11k, y11l, y11m, y11n, y11o, y11p, y11q, y11r, y11s))
    (.br (decide (IntKind.i64.wrap (lines + (1 : Int)) > Trailers)) (.okl b.length <| .okl Fields_2.length <| .okl Body_2.length <| .okl Trailers_2.length <| .okl out.length <| .call (parser_Parser_fail.f b Fields_2 Body_2 Trailers_2 out) fun _ =>
     .okl b.length <| .okl Fields_2.length <| .okl Body_2.length <| .okl Trailers_2.length <| .okl out.length <| .ret (Method, Target, Minor, Chunked, stage, IntKind.i64.wrap (lines + (1 : Int)), head, need, begun, waits, (431 : Int), p_2, most, pending, over, bad, b, Fields_2, Body_2, Trailers_2, out))
    (.br (decide (IntKind.i64.wrap ((↑Trailers_2.length : Int) - (1 : Int)) ≥ (0 : Int))) (.call (field_Goes.f y1 p) fun y13 =>
     .br y13 (.chk ((0 : Int) ≤ IntKind.i64.wrap ((↑Trailers_2.length : Int) - (1 : Int)) ∧ IntKind.i64.wrap ((↑Trailers_2.length : Int) - (1 : Int)) < (↑Trailers_2.length : Int)) <| .chk ((0 : Nat) + (IntKind.i64.wrap ((↑Trailers_2.length : Int) - (1 : Int))).toNat < Trailers_2.length) <| .call (field_Join.f ((Trailers_2.getD ((0 : Nat) + (IntKind.i64.wrap ((↑Trailers_2.length : Int) - (1 : Int))).toNat) ([], [])).snd) y1) fun y14 =>
      .chk ((0 : Int) ≤ IntKind.i64.wrap ((↑Trailers_2.length : Int) - (1 : Int)) ∧ IntKind.i64.wrap ((↑Trailers_2.length : Int) - (1 : Int)) < (↑Trailers_2.length : Int)) <| .chk ((0 : Nat) + (IntKind.i64.wrap ((↑Trailers_2.length : Int) - (1 : Int))).toNat < Trailers_2.length) <| .okl b.length <| .okl Fields_2.length <| .okl Body_2.length <| .chk ((0 : Nat) = (0 : Nat) ∧ Trailers_2.length = (Trailers_2.set ((0 : Nat) + (IntKind.i64.wrap ((↑Trailers_2.length : Int) - (1 : Int))).toNat) ((Trailers_2.getD ((0 : Nat) + (IntKind.i64.wrap ((↑Trailers_2.length : Int) - (1 : Int))).toNat) ([], [])).fst, y14)).length) <| .okl out.length <| .ret (Method, Target, Minor, Chunked, stage, IntKind.i64.wrap (lines + (1 : Int)), head, need, begun, waits, err, p_2, most, pending, over, bad, b, Fields_2, Body_2, Trailers_2.set ((0 : Nat) + (IntKind.i64.wrap ((↑Trailers_2.length : Int) - (1 : Int))).toNat) ((Trailers_2.getD ((0 : Nat) + (IntKind.i64.wrap ((↑Trailers_2.length : Int) - (1 : Int))).toNat) ([], [])).fst, y14), out))
     (.call (field_Parse.f y1 p) fun (y15a, y15b, y15c, y15d) =>
      .br y15c (.chk ((0 : Nat) + Trailers_2.length ≤ Trailers_2.length) <| .chk ((Trailers_2.length + (1 : Nat)) * (32 : Nat) ≤ (140737488355328 : Nat)) <| .okl b.length <| .okl Fields_2.length <| .okl Body_2.length <| .chk ((0 : Nat) = (0 : Nat) ∧ Trailers_2.length + (1 : Nat) = (List.take Trailers_2.length (List.drop (0 : Nat) Trailers_2) ++ [(y15a, y15b)]).length) <| .okl out.length <| .ret (Method, Target, Minor, Chunked, stage, IntKind.i64.wrap (lines + (1 : Int)), head, need, begun, waits, y15d, p_2, most, pending, over, bad, b, Fields_2, Body_2, List.take Trailers_2.length (List.drop (0 : Nat) Trailers_2) ++ [(y15a, y15b)], out))
      (.okl b.length <| .okl Fields_2.length <| .okl Body_2.length <| .okl Trailers_2.length <| .okl out.length <| .ret (Method, Target, Minor, Chunked, stage, IntKind.i64.wrap (lines + (1 : Int)), head, need, begun, waits, y15d, p_2, most, pending, over, bad, b, Fields_2, Body_2, Trailers_2, out))))
     (.call (field_Parse.f y1 p) fun (y16a, y16b, y16c, y16d) =>
     .br y16c (.chk ((0 : Nat) + Trailers_2.length ≤ Trailers_2.length) <| .chk ((Trailers_2.length + (1 : Nat)) * (32 : Nat) ≤ (140737488355328 : Nat)) <| .okl b.length <| .okl Fields_2.length <| .okl Body_2.length <| .chk ((0 : Nat) = (0 : Nat) ∧ Trailers_2.length + (1 : Nat) = (List.take Trailers_2.length (List.drop (0 : Nat) Trailers_2) ++ [(y16a, y16b)]).length) <| .okl out.length <| .ret (Method, Target, Minor, Chunked, stage, IntKind.i64.wrap (lines + (1 : Int)), head, need, begun, waits, y16d, p_2, most, pending, over, bad, b, Fields_2, Body_2, List.take Trailers_2.length (List.drop (0 : Nat) Trailers_2) ++ [(y16a, y16b)], out))
     (.okl b.length <| .okl Fields_2.length <| .okl Body_2.length <| .okl Trailers_2.length <| .okl out.length <| .ret (Method, Target, Minor, Chunked, stage, IntKind.i64.wrap (lines + (1 : Int)), head, need, begun, waits, y16d, p_2, most, pending, over, bad, b, Fields_2, Body_2, Trailers_2, out))))))
   (.okl b.length <| .okl Fields_2.length <| .okl Body_2.length <| .okl Trailers_2.length <| .okl out.length <| .ret (Method, Target, Minor, Chunked, stage, lines, head, need, begun, waits, err, p_2, most, pending, over, bad, b, Fields_2, Body_2, Trailers_2, out))))))
def f (Method : List UInt8) (Target : List UInt8) (Minor : Int) (Chunked : Bool) (stage : Int) (lines : Int) (head : Int) (need : Int) (begun : Bool) (waits : Bool) (p : Int) (Line : Int) (Fields : Int) (Body : Int) (Ext : Int) (Trailers : Int) (Chunked_2 : Bool) (Old : Bool) (err : Int) (p_2 : Int) (most : Int) (pending : Bool) (over : Bool) (bad : Bool) (b : List UInt8) (Fields_2 : List (List UInt8 × List UInt8)) (Body_2 : List UInt8) (Trailers_2 : List (List UInt8 × List UInt8)) (out : List (List UInt8 × List UInt8 × Int × List (List UInt8 × List UInt8) × Bool × List UInt8 × List (List UInt8 × List UInt8))) : Option (List UInt8 × List UInt8 × Int × Bool × Int × Int × Int × Int × Bool × Bool × Int × Int × Int × Bool × Bool × Bool × List UInt8 × (List (List UInt8 × List UInt8)) × List UInt8 × (List (List UInt8 × List UInt8)) × (List (List UInt8 × List UInt8 × Int × List (List UInt8 × List UInt8) × Bool × List UInt8 × List (List UInt8 × List UInt8)))) := (t Method Target Minor Chunked stage lines head need begun waits p Line Fields Body Ext Trailers Chunked_2 Old err p_2 most pending over bad b Fields_2 Body_2 Trailers_2 out).val
def F (x : D.den) : Option (List UInt8 × List UInt8 × Int × Bool × Int × Int × Int × Int × Bool × Bool × Int × Int × Int × Bool × Bool × Bool × List UInt8 × (List (List UInt8 × List UInt8)) × List UInt8 × (List (List UInt8 × List UInt8)) × (List (List UInt8 × List UInt8 × Int × List (List UInt8 × List UInt8) × Bool × List UInt8 × List (List UInt8 × List UInt8)))) := f x.1.1.2.1 x.1.1.2.2.1 x.1.1.2.2.2.1 x.1.1.2.2.2.2.2.1 x.1.1.2.2.2.2.2.2.2.2.1 x.1.1.2.2.2.2.2.2.2.2.2.1 x.1.1.2.2.2.2.2.2.2.2.2.2.1 x.1.1.2.2.2.2.2.2.2.2.2.2.2.1 x.1.1.2.2.2.2.2.2.2.2.2.2.2.2.1 x.1.1.2.2.2.2.2.2.2.2.2.2.2.2.2.1 x.1.1.2.2.2.2.2.2.2.2.2.2.2.2.2.2.1 x.1.1.2.2.2.2.2.2.2.2.2.2.2.2.2.2.2.1 x.1.1.2.2.2.2.2.2.2.2.2.2.2.2.2.2.2.2.1 x.1.1.2.2.2.2.2.2.2.2.2.2.2.2.2.2.2.2.2.2.1 x.1.1.2.2.2.2.2.2.2.2.2.2.2.2.2.2.2.2.2.2.2.1 x.1.1.2.2.2.2.2.2.2.2.2.2.2.2.2.2.2.2.2.2.2.2.1 x.1.1.2.2.2.2.2.2.2.2.2.2.2.2.2.2.2.2.2.2.2.2.2.2.2.1 x.1.1.2.2.2.2.2.2.2.2.2.2.2.2.2.2.2.2.2.2.2.2.2.2.2.2.1 x.1.1.2.2.2.2.2.2.2.2.2.2.2.2.2.2.2.2.2.2.2.2.2.2.2.2.2.1 x.1.2.1.1 x.1.2.1.2.1 x.1.2.1.2.2.2.1 x.1.2.1.2.2.2.2.1 x.1.2.1.2.2.2.2.2 x.1.2.2.1 x.1.2.2.2.1 x.1.2.2.2.2.1 x.1.2.2.2.2.2.1 x.1.2.2.2.2.2.2.1
def pa : D.den → (List UInt8 × List UInt8 × Int × Bool × Int × Int × Int × Int × Bool × Bool × Int × Int × Int × Bool × Bool × Bool × List UInt8 × (List (List UInt8 × List UInt8)) × List UInt8 × (List (List UInt8 × List UInt8)) × (List (List UInt8 × List UInt8 × Int × List (List UInt8 × List UInt8) × Bool × List UInt8 × List (List UInt8 × List UInt8)))) → A.den := fun (((_, (_, (_, (_, (_, (_, (_, (_, (_, (_, (_, (_, (_, (_, (p, (Line, (Fields, (Head, (Body, (Ext, (Trailers, (Wait, (Idle, (Chunked_2, (Old, (_, _)))))))))))))))))))))))))), ((_, (_, (_, (_, (_, _))))), (_, (_, (_, (_, (_, _))))))), _) (y1, y2, y3, y4, y5, y6, y7, y8, y9, y10, y11, y12, y13, y14, y15, y16, y17, y18, y19, y20, y21) => ((((), (y1, (y2, (y3, ((), (y4, ((), ((), (y5, (y6, (y7, (y8, (y9, (y10, (p, (Line, (Fields, (Head, (Body, (Ext, (Trailers, (Wait, (Idle, (Chunked_2, (Old, (y11, ())))))))))))))))))))))))))), ((), ((), ((), ((), ((), ((), ((y12, (y13, ((), (y14, (y15, y16))))), (y17, (y18, (y19, (y20, (y21, ()))))))))))))), ())
def con : Con := tcon D A pa F
theorem ok : ConOk Tryz.prog 68 con := tcon_ok Base.mixed Base.prog_ok bk_field_Parse_ok (by kernel_rfl) LapsOk.nil 9 (fun _ => rfl) (fun x => t x.1.1.2.1 x.1.1.2.2.1 x.1.1.2.2.2.1 x.1.1.2.2.2.2.2.1 x.1.1.2.2.2.2.2.2.2.2.1 x.1.1.2.2.2.2.2.2.2.2.2.1 x.1.1.2.2.2.2.2.2.2.2.2.2.1 x.1.1.2.2.2.2.2.2.2.2.2.2.2.1 x.1.1.2.2.2.2.2.2.2.2.2.2.2.2.1 x.1.1.2.2.2.2.2.2.2.2.2.2.2.2.2.1 x.1.1.2.2.2.2.2.2.2.2.2.2.2.2.2.2.1 x.1.1.2.2.2.2.2.2.2.2.2.2.2.2.2.2.2.1 x.1.1.2.2.2.2.2.2.2.2.2.2.2.2.2.2.2.2.1 x.1.1.2.2.2.2.2.2.2.2.2.2.2.2.2.2.2.2.2.2.1 x.1.1.2.2.2.2.2.2.2.2.2.2.2.2.2.2.2.2.2.2.2.1 x.1.1.2.2.2.2.2.2.2.2.2.2.2.2.2.2.2.2.2.2.2.2.1 x.1.1.2.2.2.2.2.2.2.2.2.2.2.2.2.2.2.2.2.2.2.2.2.2.2.1 x.1.1.2.2.2.2.2.2.2.2.2.2.2.2.2.2.2.2.2.2.2.2.2.2.2.2.1 x.1.1.2.2.2.2.2.2.2.2.2.2.2.2.2.2.2.2.2.2.2.2.2.2.2.2.2.1 x.1.2.1.1 x.1.2.1.2.1 x.1.2.1.2.2.2.1 x.1.2.1.2.2.2.2.1 x.1.2.1.2.2.2.2.2 x.1.2.2.1 x.1.2.2.2.1 x.1.2.2.2.2.1 x.1.2.2.2.2.2.1 x.1.2.2.2.2.2.2.1) (fun _ => rfl) fun _ _ _ => (by kernel_rfl)
end parser_Parser_ended
def bk_parser_Parser_ended : Book := bk_field_Parse.add 68 parser_Parser_ended.con
theorem bk_parser_Parser_ended_ok : BookOk Tryz.prog bk_parser_Parser_ended := bk_field_Parse_ok.add parser_Parser_ended.ok
namespace parser_Parser_step_r0
def D : Dom := ⟨[.cells (.cat (.ptr 1 0 0 0) (.cat .str (.cat .str (.cat (.int .i64) (.cat (.sl 3 2) (.cat .bool (.cat (.sl 4 1) (.cat (.sl 5 2) (.cat (.int .i64) (.cat (.int .i64) (.cat (.int .i64) (.cat (.int .i64) (.cat .bool (.cat .bool (.cat (.int .u32) (.cat (.int .i64) (.cat (.int .i64) (.cat (.int .i64) (.cat (.int .i64) (.cat (.int .i64) (.cat (.int .i64) (.cat (.int .i64) (.cat (.int .i64) (.cat .bool (.cat .bool (.cat (.int .i64) (.sl 6 7))))))))))))))))))))))))))) 84 false, .cells (.cat (.int .u32) (.cat (.int .i64) (.cat (.sl 2 1) (.cat .bool (.cat .bool .bool))))) 110 false, .vec .byte 5 false, .vec (.pair .str .str) 72 false, .vec .byte 5 false, .vec (.pair .str .str) 72 false, .vec (.pair .str (.pair .str (.pair (.int .i64) (.pair (.sl (.pair .str .str)) (.pair .bool (.pair (.sl .byte) (.sl (.pair .str .str)))))))) 47 false], (.cat (.ptr 0 0 0 0) (.cat (.int .u8) .bool))⟩
def A : Dom := parser_Parser_framed.A
def sel : List Nat := []
def f : Option (List UInt8 × List UInt8 × Int × Bool × Int × Int × Int × Int × Bool × Bool × Int × Int × Int × Int × Int × Int × Int × Int × Int × Bool × Bool × Int × Int × Int × Bool × Bool × Bool × List UInt8 × (List (List UInt8 × List UInt8)) × List UInt8 × (List (List UInt8 × List UInt8)) × (List (List UInt8 × List UInt8 × Int × List (List UInt8 × List UInt8) × Bool × List UInt8 × List (List UInt8 × List UInt8)))) := none
def F (x : D.den) : Option (List UInt8 × List UInt8 × Int × Bool × Int × Int × Int × Int × Bool × Bool × Int × Int × Int × Int × Int × Int × Int × Int × Int × Bool × Bool × Int × Int × Int × Bool × Bool × Bool × List UInt8 × (List (List UInt8 × List UInt8)) × List UInt8 × (List (List UInt8 × List UInt8)) × (List (List UInt8 × List UInt8 × Int × List (List UInt8 × List UInt8) × Bool × List UInt8 × List (List UInt8 × List UInt8)))) := f
def pa : D.den → (List UInt8 × List UInt8 × Int × Bool × Int × Int × Int × Int × Bool × Bool × Int × Int × Int × Int × Int × Int × Int × Int × Int × Bool × Bool × Int × Int × Int × Bool × Bool × Bool × List UInt8 × (List (List UInt8 × List UInt8)) × List UInt8 × (List (List UInt8 × List UInt8)) × (List (List UInt8 × List UInt8 × Int × List (List UInt8 × List UInt8) × Bool × List UInt8 × List (List UInt8 × List UInt8)))) → A.den := fun _ (y1, y2, y3, y4, y5, y6, y7, y8, y9, y10, y11, y12, y13, y14, y15, y16, y17, y18, y19, y20, y21, y22, y23, y24, y25, y26, y27, y28, y29, y30, y31, y32) => ((((), (y1, (y2, (y3, ((), (y4, ((), ((), (y5, (y6, (y7, (y8, (y9, (y10, (y11, (y12, (y13, (y14, (y15, (y16, (y17, (y18, (y19, (y20, (y21, (y22, ())))))))))))))))))))))))))), ((), ((), ((), ((), ((), ((), ((y23, (y24, ((), (y25, (y26, y27))))), (y28, (y29, (y30, (y31, (y32, ()))))))))))))), ())
def con : Con := tcon D A pa F
theorem ok : ConOk Tryz.prog 47 con := fun x h => absurd rfl h
end parser_Parser_step_r0
def bk_parser_Parser_step_r0 : Book := bk_parser_Parser_ended.add 47 parser_Parser_step_r0.con
theorem bk_parser_Parser_step_r0_ok : BookOk Tryz.prog bk_parser_Parser_step_r0 := bk_parser_Parser_ended_ok.add parser_Parser_step_r0.ok
namespace parser_Parser_long_r1
def D : Dom := ⟨[.cells (.cat (.ptr 1 0 0 0) (.cat .str (.cat .str (.cat (.int .i64) (.cat (.sl 3 2) (.cat .bool (.cat (.sl 4 1) (.cat (.sl 5 2) (.cat (.int .i64) (.cat (.int .i64) (.cat (.int .i64) (.cat (.int .i64) (.cat .bool (.cat .bool (.cat (.int .u32) (.cat (.int .i64) (.cat (.int .i64) (.cat (.int .i64) (.cat (.int .i64) (.cat (.int .i64) (.cat (.int .i64) (.cat (.int .i64) (.cat (.int .i64) (.cat .bool (.cat .bool (.cat (.int .i64) (.sl 6 7))))))))))))))))))))))))))) 84 false, .cells (.cat (.int .u32) (.cat (.int .i64) (.cat (.sl 2 1) (.cat .bool (.cat .bool .bool))))) 110 false, .vec .byte 5 false, .vec (.pair .str .str) 72 false, .vec .byte 5 false, .vec (.pair .str .str) 72 false, .vec (.pair .str (.pair .str (.pair (.int .i64) (.pair (.sl (.pair .str .str)) (.pair .bool (.pair (.sl .byte) (.sl (.pair .str .str)))))))) 47 false], (.cat (.ptr 0 0 0 0) (.int .u8))⟩
def A : Dom := parser_Parser_framed.A
def sel : List Nat := [0, 1, 2, 3, 4, 5, 6, 7, 8, 9, 10, 11, 12, 13, 14, 15, 16, 17, 18, 19, 20, 22, 23, 24, 25, 26, 27, 28, 29, 30, 31]
def t (Method : List UInt8) (Target : List UInt8) (Minor : Int) (Chunked : Bool) (stage : Int) (lines : Int) (head : Int) (need : Int) (begun : Bool) (waits : Bool) (p : Int) (Line : Int) (Fields : Int) (Head : Int) (Body : Int) (Ext : Int) (Trailers : Int) (Wait : Int) (Idle : Int) (Chunked_2 : Bool) (Old : Bool) (p_2 : Int) (most : Int) (pending : Bool) (over : Bool) (bad : Bool) (b : List UInt8) (Fields_2 : List (List UInt8 × List UInt8)) (Body_2 : List UInt8) (Trailers_2 : List (List UInt8 × List UInt8)) (out : List (List UInt8 × List UInt8 × Int × List (List UInt8 × List UInt8) × Bool × List UInt8 × List (List UInt8 × List UInt8))) : Tr (List UInt8 × List UInt8 × Int × Bool × Int × Int × Int × Int × Bool × Bool × Int × Int × Int × Int × Int × Int × Int × Int × Int × Bool × Bool × Int × Int × Int × Bool × Bool × Bool × List UInt8 × (List (List UInt8 × List UInt8)) × List UInt8 × (List (List UInt8 × List UInt8)) × (List (List UInt8 × List UInt8 × Int × List (List UInt8 × List UInt8) × Bool × List UInt8 × List (List UInt8 × List UInt8)))) :=
 .br (stage == (0 : Int)) (.okl b.length <| .okl Fields_2.length <| .okl Body_2.length <| .okl Trailers_2.length <| .okl out.length <| .call (parser_Parser_fail.f b Fields_2 Body_2 Trailers_2 out) fun _ =>
  .okl b.length <| .okl Fields_2.length <| .okl Body_2.length <| .okl Trailers_2.length <| .okl out.length <| .ret (Method, Target, Minor, Chunked, stage, lines, head, need, begun, waits, p, Line, Fields, Head, Body, Ext, Trailers, Wait, Idle, Chunked_2, Old, (414 : Int), p_2, most, pending, over, bad, b, Fields_2, Body_2, Trailers_2, out))
 (.br (stage == (1 : Int)) (.okl b.length <| .okl Fields_2.length <| .okl Body_2.length <| .okl Trailers_2.length <| .okl out.length <| .call (parser_Parser_fail.f b Fields_2 Body_2 Trailers_2 out) fun _ =>
  .okl b.length <| .okl Fields_2.length <| .okl Body_2.length <| .okl Trailers_2.length <| .okl out.length <| .ret (Method, Target, Minor, Chunked, stage, lines, head, need, begun, waits, p, Line, Fields, Head, Body, Ext, Trailers, Wait, Idle, Chunked_2, Old, (431 : Int), p_2, most, pending, over, bad, b, Fields_2, Body_2, Trailers_2, out))
  (.br (stage == (6 : Int)) (.okl b.length <| .okl Fields_2.length <| .okl Body_2.length <| .okl Trailers_2.length <| .okl out.length <| .call (parser_Parser_fail.f b Fields_2 Body_2 Trailers_2 out) fun _ =>
   .okl b.length <| .okl Fields_2.length <| .okl Body_2.length <| .okl Trailers_2.length <| .okl out.length <| .ret (Method, Target, Minor, Chunked, stage, lines, head, need, begun, waits, p, Line, Fields, Head, Body, Ext, Trailers, Wait, Idle, Chunked_2, Old, (431 : Int), p_2, most, pending, over, bad, b, Fields_2, Body_2, Trailers_2, out))
  (.br (stage == (5 : Int)) (.call (quirks_Has.f p (29 : Int)) fun y4 =>
   .br y4 (.okl b.length <| .okl Fields_2.length <| .okl Body_2.length <| .okl Trailers_2.length <| .okl out.length <| .call (parser_Parser_to.f Line b Fields_2 Body_2 Trailers_2 out (3 : Int)) fun (_, _, _, _, y5e) =>
    .okl y5e.length <| .okl Fields_2.length <| .okl Body_2.length <| .okl Trailers_2.length <| .okl out.length <| .call (parser_Parser_step_r0.f) fun (y6a, y6b, y6c, y6d, y6e, y6f, y6g, y6h, y6i, y6j, y6k, y6l, y6m, y6n, y6o, y6p, y6q, y6r, y6s, y6t, y6u, y6v, y6w, y6x, y6y, y6z, y6aa, y6ab, y6ac, y6ad, y6ae, y6af) =>
    .okl y6ab.length <| .okl y6ac.length <| .okl y6ad.length <| .okl y6ae.length <| .okl y6af.length <| .ret (y6a, y6b, y6c, y6d, y6e, y6f, y6g, y6h, y6i, y6j, y6k, y6l, y6m, y6n, y6o, y6p, y6q, y6r, y6s, y6t, y6u, y6v, y6w, y6x, y6y, y6z, y6aa, y6ab, y6ac, y6ad, y6ae, y6af))
   (.okl b.length <| .okl Fields_2.length <| .okl Body_2.length <| .okl Trailers_2.length <| .okl out.length <| .call (parser_Parser_fail.f b Fields_2 Body_2 Trailers_2 out) fun _ =>
    .okl b.length <| .okl Fields_2.length <| .okl Body_2.length <| .okl Trailers_2.length <| .okl out.length <| .ret (Method, Target, Minor, Chunked, stage, lines, head, need, begun, waits, p, Line, Fields, Head, Body, Ext, Trailers, Wait, Idle, Chunked_2, Old, (400 : Int), p_2, most, pending, over, bad, b, Fields_2, Body_2, Trailers_2, out)))
   (.okl b.length <| .okl Fields_2.length <| .okl Body_2.length <| .okl Trailers_2.length <| .okl out.length <| .call (parser_Parser_fail.f b Fields_2 Body_2 Trailers_2 out) fun _ =>
   .okl b.length <| .okl Fields_2.length <| .okl Body_2.length <| .okl Trailers_2.length <| .okl out.length <| .ret (Method, Target, Minor, Chunked, stage, lines, head, need, begun, waits, p, Line, Fields, Head, Body, Ext, Trailers, Wait, Idle, Chunked_2, Old, (400 : Int), p_2, most, pending, over, bad, b, Fields_2, Body_2, Trailers_2, out)))))
def f (Method : List UInt8) (Target : List UInt8) (Minor : Int) (Chunked : Bool) (stage : Int) (lines : Int) (head : Int) (need : Int) (begun : Bool) (waits : Bool) (p : Int) (Line : Int) (Fields : Int) (Head : Int) (Body : Int) (Ext : Int) (Trailers : Int) (Wait : Int) (Idle : Int) (Chunked_2 : Bool) (Old : Bool) (p_2 : Int) (most : Int) (pending : Bool) (over : Bool) (bad : Bool) (b : List UInt8) (Fields_2 : List (List UInt8 × List UInt8)) (Body_2 : List UInt8) (Trailers_2 : List (List UInt8 × List UInt8)) (out : List (List UInt8 × List UInt8 × Int × List (List UInt8 × List UInt8) × Bool × List UInt8 × List (List UInt8 × List UInt8))) : Option (List UInt8 × List UInt8 × Int × Bool × Int × Int × Int × Int × Bool × Bool × Int × Int × Int × Int × Int × Int × Int × Int × Int × Bool × Bool × Int × Int × Int × Bool × Bool × Bool × List UInt8 × (List (List UInt8 × List UInt8)) × List UInt8 × (List (List UInt8 × List UInt8)) × (List (List UInt8 × List UInt8 × Int × List (List UInt8 × List UInt8) × Bool × List UInt8 × List (List UInt8 × List UInt8)))) := (t Method Target Minor Chunked stage lines head need begun waits p Line Fields Head Body Ext Trailers Wait Idle Chunked_2 Old p_2 most pending over bad b Fields_2 Body_2 Trailers_2 out).val
def F (x : D.den) : Option (List UInt8 × List UInt8 × Int × Bool × Int × Int × Int × Int × Bool × Bool × Int × Int × Int × Int × Int × Int × Int × Int × Int × Bool × Bool × Int × Int × Int × Bool × Bool × Bool × List UInt8 × (List (List UInt8 × List UInt8)) × List UInt8 × (List (List UInt8 × List UInt8)) × (List (List UInt8 × List UInt8 × Int × List (List UInt8 × List UInt8) × Bool × List UInt8 × List (List UInt8 × List UInt8)))) := f x.1.1.2.1 x.1.1.2.2.1 x.1.1.2.2.2.1 x.1.1.2.2.2.2.2.1 x.1.1.2.2.2.2.2.2.2.2.1 x.1.1.2.2.2.2.2.2.2.2.2.1 x.1.1.2.2.2.2.2.2.2.2.2.2.1 x.1.1.2.2.2.2.2.2.2.2.2.2.2.1 x.1.1.2.2.2.2.2.2.2.2.2.2.2.2.1 x.1.1.2.2.2.2.2.2.2.2.2.2.2.2.2.1 x.1.1.2.2.2.2.2.2.2.2.2.2.2.2.2.2.1 x.1.1.2.2.2.2.2.2.2.2.2.2.2.2.2.2.2.1 x.1.1.2.2.2.2.2.2.2.2.2.2.2.2.2.2.2.2.1 x.1.1.2.2.2.2.2.2.2.2.2.2.2.2.2.2.2.2.2.1 x.1.1.2.2.2.2.2.2.2.2.2.2.2.2.2.2.2.2.2.2.1 x.1.1.2.2.2.2.2.2.2.2.2.2.2.2.2.2.2.2.2.2.2.1 x.1.1.2.2.2.2.2.2.2.2.2.2.2.2.2.2.2.2.2.2.2.2.1 x.1.1.2.2.2.2.2.2.2.2.2.2.2.2.2.2.2.2.2.2.2.2.2.1 x.1.1.2.2.2.2.2.2.2.2.2.2.2.2.2.2.2.2.2.2.2.2.2.2.1 x.1.1.2.2.2.2.2.2.2.2.2.2.2.2.2.2.2.2.2.2.2.2.2.2.2.1 x.1.1.2.2.2.2.2.2.2.2.2.2.2.2.2.2.2.2.2.2.2.2.2.2.2.2.1 x.1.2.1.1 x.1.2.1.2.1 x.1.2.1.2.2.2.1 x.1.2.1.2.2.2.2.1 x.1.2.1.2.2.2.2.2 x.1.2.2.1 x.1.2.2.2.1 x.1.2.2.2.2.1 x.1.2.2.2.2.2.1 x.1.2.2.2.2.2.2.1
def pa : D.den → (List UInt8 × List UInt8 × Int × Bool × Int × Int × Int × Int × Bool × Bool × Int × Int × Int × Int × Int × Int × Int × Int × Int × Bool × Bool × Int × Int × Int × Bool × Bool × Bool × List UInt8 × (List (List UInt8 × List UInt8)) × List UInt8 × (List (List UInt8 × List UInt8)) × (List (List UInt8 × List UInt8 × Int × List (List UInt8 × List UInt8) × Bool × List UInt8 × List (List UInt8 × List UInt8)))) → A.den := fun (((_, (_, (_, (_, (_, (_, (_, (_, (_, (_, (_, (_, (_, (_, (_, (_, (_, (_, (_, (_, (_, (_, (_, (_, (_, (_, _)))))))))))))))))))))))))), ((_, (_, (_, (_, (_, _))))), (_, (_, (_, (_, (_, _))))))), (_, _)) (y1, y2, y3, y4, y5, y6, y7, y8, y9, y10, y11, y12, y13, y14, y15, y16, y17, y18, y19, y20, y21, y22, y23, y24, y25, y26, y27, y28, y29, y30, y31, y32) => ((((), (y1, (y2, (y3, ((), (y4, ((), ((), (y5, (y6, (y7, (y8, (y9, (y10, (y11, (y12, (y13, (y14, (y15, (y16, (y17, (y18, (y19, (y20, (y21, (y22, ())))))))))))))))))))))))))), ((), ((), ((), ((), ((), ((), ((y23, (y24, ((), (y25, (y26, y27))))), (y28, (y29, (y30, (y31, (y32, ()))))))))))))), ())
def con : Con := tcon D A pa F
theorem ok : ConOk Tryz.prog 70 con := tcon_ok Base.mixed Base.prog_ok bk_parser_Parser_step_r0_ok (by kernel_rfl) LapsOk.nil 9 (fun _ => rfl) (fun x => t x.1.1.2.1 x.1.1.2.2.1 x.1.1.2.2.2.1 x.1.1.2.2.2.2.2.1 x.1.1.2.2.2.2.2.2.2.2.1 x.1.1.2.2.2.2.2.2.2.2.2.1 x.1.1.2.2.2.2.2.2.2.2.2.2.1 x.1.1.2.2.2.2.2.2.2.2.2.2.2.1 x.1.1.2.2.2.2.2.2.2.2.2.2.2.2.1 x.1.1.2.2.2.2.2.2.2.2.2.2.2.2.2.1 x.1.1.2.2.2.2.2.2.2.2.2.2.2.2.2.2.1 x.1.1.2.2.2.2.2.2.2.2.2.2.2.2.2.2.2.1 x.1.1.2.2.2.2.2.2.2.2.2.2.2.2.2.2.2.2.1 x.1.1.2.2.2.2.2.2.2.2.2.2.2.2.2.2.2.2.2.1 x.1.1.2.2.2.2.2.2.2.2.2.2.2.2.2.2.2.2.2.2.1 x.1.1.2.2.2.2.2.2.2.2.2.2.2.2.2.2.2.2.2.2.2.1 x.1.1.2.2.2.2.2.2.2.2.2.2.2.2.2.2.2.2.2.2.2.2.1 x.1.1.2.2.2.2.2.2.2.2.2.2.2.2.2.2.2.2.2.2.2.2.2.1 x.1.1.2.2.2.2.2.2.2.2.2.2.2.2.2.2.2.2.2.2.2.2.2.2.1 x.1.1.2.2.2.2.2.2.2.2.2.2.2.2.2.2.2.2.2.2.2.2.2.2.2.1 x.1.1.2.2.2.2.2.2.2.2.2.2.2.2.2.2.2.2.2.2.2.2.2.2.2.2.1 x.1.2.1.1 x.1.2.1.2.1 x.1.2.1.2.2.2.1 x.1.2.1.2.2.2.2.1 x.1.2.1.2.2.2.2.2 x.1.2.2.1 x.1.2.2.2.1 x.1.2.2.2.2.1 x.1.2.2.2.2.2.1 x.1.2.2.2.2.2.2.1) (fun _ => rfl) fun _ _ _ => (by kernel_rfl)
end parser_Parser_long_r1
def bk_parser_Parser_long_r1 : Book := bk_parser_Parser_step_r0.add 70 parser_Parser_long_r1.con
theorem bk_parser_Parser_long_r1_ok : BookOk Tryz.prog bk_parser_Parser_long_r1 := bk_parser_Parser_step_r0_ok.add parser_Parser_long_r1.ok
namespace parser_Parser_step_r1
def D : Dom := parser_Parser_step_r0.D
def A : Dom := parser_Parser_framed.A
def sel : List Nat := [0, 1, 2, 3, 4, 5, 6, 7, 8, 9, 10, 11, 12, 13, 14, 15, 16, 17, 18, 19, 20, 21, 22, 23, 24, 25, 26, 27, 28, 29, 30, 31, 32, 33]
def t (Method : List UInt8) (Target : List UInt8) (Minor : Int) (Chunked : Bool) (stage : Int) (lines : Int) (head : Int) (need : Int) (begun : Bool) (waits : Bool) (p : Int) (Line : Int) (Fields : Int) (Head : Int) (Body : Int) (Ext : Int) (Trailers : Int) (Wait : Int) (Idle : Int) (Chunked_2 : Bool) (Old : Bool) (err : Int) (p_2 : Int) (most : Int) (pending : Bool) (over : Bool) (bad : Bool) (b : List UInt8) (Fields_2 : List (List UInt8 × List UInt8)) (Body_2 : List UInt8) (Trailers_2 : List (List UInt8 × List UInt8)) (out : List (List UInt8 × List UInt8 × Int × List (List UInt8 × List UInt8) × Bool × List UInt8 × List (List UInt8 × List UInt8))) (c : Int) (counts : Bool) : Tr (List UInt8 × List UInt8 × Int × Bool × Int × Int × Int × Int × Bool × Bool × Int × Int × Int × Int × Int × Int × Int × Int × Int × Bool × Bool × Int × Int × Int × Bool × Bool × Bool × List UInt8 × (List (List UInt8 × List UInt8)) × List UInt8 × (List (List UInt8 × List UInt8)) × (List (List UInt8 × List UInt8 × Int × List (List UInt8 × List UInt8) × Bool × List UInt8 × List (List UInt8 × List UInt8)))) :=
 .br (err != (0 : Int)) (.okl b.length <| .okl Fields_2.length <| .okl Body_2.length <| .okl Trailers_2.length <| .okl out.length <| .ret (Method, Target, Minor, Chunked, stage, lines, head, need, begun, waits, p, Line, Fields, Head, Body, Ext, Trailers, Wait, Idle, Chunked_2, Old, err, p_2, most, pending, over, bad, b, Fields_2, Body_2, Trailers_2, out))
 (.br (stage == (2 : Int)) (.okl b.length <| .okl Fields_2.length <| .okl Body_2.length <| .okl Trailers_2.length <| .okl out.length <| .call (parser_Parser_body.f Method Target Minor Chunked stage lines head need begun p Line p_2 most pending over bad b Fields_2 Body_2 Trailers_2 out c) fun (y1a, y1b, y1c, y1d, y1e, y1f, y1g, y1h, y1i, y1j, y1k, y1l, y1m, y1n, y1o, y1p, y1q, y1r, y1s, y1t) =>
  .okl y1p.length <| .okl y1q.length <| .okl y1r.length <| .okl y1s.length <| .okl y1t.length <| .ret (y1a, y1b, y1c, y1d, y1e, y1f, y1g, y1h, y1i, y1j, p, Line, Fields, Head, Body, Ext, Trailers, Wait, Idle, Chunked_2, Old, err, y1k, y1l, y1m, y1n, y1o, y1p, y1q, y1r, y1s, y1t))
  (.br (stage == (4 : Int)) (.okl b.length <| .okl Fields_2.length <| .okl Body_2.length <| .okl Trailers_2.length <| .okl out.length <| .call (parser_Parser_body.f Method Target Minor Chunked stage lines head need begun p Line p_2 most pending over bad b Fields_2 Body_2 Trailers_2 out c) fun (y2a, y2b, y2c, y2d, y2e, y2f, y2g, y2h, y2i, y2j, y2k, y2l, y2m, y2n, y2o, y2p, y2q, y2r, y2s, y2t) =>
   .okl y2p.length <| .okl y2q.length <| .okl y2r.length <| .okl y2s.length <| .okl y2t.length <| .ret (y2a, y2b, y2c, y2d, y2e, y2f, y2g, y2h, y2i, y2j, p, Line, Fields, Head, Body, Ext, Trailers, Wait, Idle, Chunked_2, Old, err, y2k, y2l, y2m, y2n, y2o, y2p, y2q, y2r, y2s, y2t))
  (.br counts (.okl b.length <| .okl Fields_2.length <| .okl Body_2.length <| .okl Trailers_2.length <| .okl out.length <| .call (parser_Parser_counted.f stage head Head err b Fields_2 Body_2 Trailers_2 out) fun (y3a, y3b, y3c) =>
   .br (!y3c) (.okl b.length <| .okl Fields_2.length <| .okl Body_2.length <| .okl Trailers_2.length <| .okl out.length <| .ret (Method, Target, Minor, Chunked, stage, lines, y3a, need, true, false, p, Line, Fields, Head, Body, Ext, Trailers, Wait, Idle, Chunked_2, Old, y3b, p_2, most, pending, over, bad, b, Fields_2, Body_2, Trailers_2, out))
   (.okl b.length <| .call (line_Reader_Byte.f p_2 most pending over bad b c) fun (y4a, y4b, y4c, y4d, y4e) =>
    .br (y4e == (1 : Int)) (.okl y4d.length <| .okl Fields_2.length <| .okl Body_2.length <| .okl Trailers_2.length <| .okl out.length <| .call (parser_Parser_ended.f Method Target Minor Chunked stage lines y3a need true false p Line Fields Body Ext Trailers Chunked_2 Old y3b p_2 most y4a y4b y4c y4d Fields_2 Body_2 Trailers_2 out) fun (y5a, y5b, y5c, y5d, y5e, y5f, y5g, y5h, y5i, y5j, y5k, y5l, y5m, y5n, y5o, y5p, y5q, y5r, y5s, y5t, y5u) =>
    .okl y5q.length <| .okl y5r.length <| .okl y5s.length <| .okl y5t.length <| .okl y5u.length <| .ret (y5a, y5b, y5c, y5d, y5e, y5f, y5g, y5h, y5i, y5j, p, Line, Fields, Head, Body, Ext, Trailers, Wait, Idle, Chunked_2, Old, y5k, y5l, y5m, y5n, y5o, y5p, y5q, y5r, y5s, y5t, y5u))
    (.br (y4e == (2 : Int)) (.br (stage != (3 : Int)) (.okl y4d.length <| .okl Fields_2.length <| .okl Body_2.length <| .okl Trailers_2.length <| .okl out.length <| .call (parser_Parser_ended.f Method Target Minor Chunked stage lines y3a need true false p Line Fields Body Ext Trailers Chunked_2 Old y3b p_2 most y4a y4b y4c y4d Fields_2 Body_2 Trailers_2 out) fun (_, _, _, _, _, _, _, _, _, _, _, _, _, _, _, _, y6q, y6r, y6s, y6t, y6u) =>
     .br (!stage != (5 : Int)) (.okl y6q.length <| .okl y6r.length <| .okl y6s.length <| .okl y6t.length <| .okl y6u.length <| .call (parser_Parser_step_r0.f) fun (y7a, y7b, y7c, y7d, y7e, y7f, y7g, y7h, y7i, y7j, y7k, y7l, y7m, y7n, y7o, y7p, y7q, y7r, y7s, y7t, y7u, y7v, y7w, y7x, y7y, y7z, y7aa, y7ab, y7ac, y7ad, y7ae, y7af) =>
      .okl y7ab.length <| .okl y7ac.length <| .okl y7ad.length <| .okl y7ae.length <| .okl y7af.length <| .ret (y7a, y7b, y7c, y7d, y7e, y7f, y7g, y7h, y7i, y7j, y7k, y7l, y7m, y7n, y7o, y7p, y7q, y7r, y7s, y7t, y7u, y7v, y7w, y7x, y7y, y7z, y7aa, y7ab, y7ac, y7ad, y7ae, y7af))
     (.okl y6q.length <| .okl y6r.length <| .okl y6s.length <| .okl y6t.length <| .okl y6u.length <| .call (parser_Parser_step_r0.f) fun (y8a, y8b, y8c, y8d, y8e, y8f, y8g, y8h, y8i, y8j, y8k, y8l, y8m, y8n, y8o, y8p, y8q, y8r, y8s, y8t, y8u, y8v, y8w, y8x, y8y, y8z, y8aa, y8ab, y8ac, y8ad, y8ae, y8af) =>
      .okl y8ab.length <| .okl y8ac.length <| .okl y8ad.length <| .okl y8ae.length <| .okl y8af.length <| .ret (y8a, y8b, y8c, y8d, y8e, y8f, y8g, y8h, y8i, y8j, y8k, y8l, y8m, y8n, y8o, y8p, y8q, y8r, y8s, y8t, y8u, y8v, y8w, y8x, y8y, y8z, y8aa, y8ab, y8ac, y8ad, y8ae, y8af)))
     (.okl y4d.length <| .okl Fields_2.length <| .okl Body_2.length <| .okl Trailers_2.length <| .okl out.length <| .call (parser_Parser_ended.f Method Target Minor Chunked stage lines y3a need true false p Line Fields Body Ext Trailers Chunked_2 Old y3b p_2 most y4a y4b y4c y4d Fields_2 Body_2 Trailers_2 out) fun (_, _, _, _, _, _, _, _, _, _, _, _, _, _, _, _, y9q, y9r, y9s, y9t, y9u) =>
     .okl y9q.length <| .okl y9r.length <| .okl y9s.length <| .okl y9t.length <| .okl y9u.length <| .call (parser_Parser_step_r0.f) fun (y10a, y10b, y10c, y10d, y10e, y10f, y10g, y10h, y10i, y10j, y10k, y10l, y10m, y10n, y10o, y10p, y10q, y10r, y10s, y10t, y10u, y10v, y10w, y10x, y10y, y10z, y10aa, y10ab, y10ac, y10ad, y10ae, y10af) =>
     .okl y10ab.length <| .okl y10ac.length <| .okl y10ad.length <| .okl y10ae.length <| .okl y10af.length <| .ret (y10a, y10b, y10c, y10d, y10e, y10f, y10g, y10h, y10i, y10j, y10k, y10l, y10m, y10n, y10o, y10p, y10q, y10r, y10s, y10t, y10u, y10v, y10w, y10x, y10y, y10z, y10aa, y10ab, y10ac, y10ad, y10ae, y10af)))
    (.br (y4e == (4 : Int)) (.okl y4d.length <| .okl Fields_2.length <| .okl Body_2.length <| .okl Trailers_2.length <| .okl out.length <| .call (parser_Parser_long_r1.f Method Target Minor Chunked stage lines y3a need true false p Line Fields Head Body Ext Trailers Wait Idle Chunked_2 Old p_2 most y4a y4b y4c y4d Fields_2 Body_2 Trailers_2 out) fun (y11a, y11b, y11c, y11d, y11e, y11f, y11g, y11h, y11i, y11j, y11k, y11l, y11m, y11n, y11o, y11p, y11q, y11r, y11s, y11t, y11u, y11v, y11w, y11x, y11y, y11z, y11aa, y11ab, y11ac, y11ad, y11ae, y11af) =>
     .okl y11ab.length <| .okl y11ac.length <| .okl y11ad.length <| .okl y11ae.length <| .okl y11af.length <| .ret (y11a, y11b, y11c, y11d, y11e, y11f, y11g, y11h, y11i, y11j, y11k, y11l, y11m, y11n, y11o, y11p, y11q, y11r, y11s, y11t, y11u, y11v, y11w, y11x, y11y, y11z, y11aa, y11ab, y11ac, y11ad, y11ae, y11af))
     (.br (y4e == (3 : Int)) (.okl y4d.length <| .okl Fields_2.length <| .okl Body_2.length <| .okl Trailers_2.length <| .okl out.length <| .call (parser_Parser_fail.f y4d Fields_2 Body_2 Trailers_2 out) fun _ =>
      .okl y4d.length <| .okl Fields_2.length <| .okl Body_2.length <| .okl Trailers_2.length <| .okl out.length <| .ret (Method, Target, Minor, Chunked, stage, lines, y3a, need, true, false, p, Line, Fields, Head, Body, Ext, Trailers, Wait, Idle, Chunked_2, Old, (400 : Int), p_2, most, y4a, y4b, y4c, y4d, Fields_2, Body_2, Trailers_2, out))
     (.okl y4d.length <| .okl Fields_2.length <| .okl Body_2.length <| .okl Trailers_2.length <| .okl out.length <| .ret (Method, Target, Minor, Chunked, stage, lines, y3a, need, true, false, p, Line, Fields, Head, Body, Ext, Trailers, Wait, Idle, Chunked_2, Old, y3b, p_2, most, y4a, y4b, y4c, y4d, Fields_2, Body_2, Trailers_2, out)))))))
   (.okl b.length <| .call (line_Reader_Byte.f p_2 most pending over bad b c) fun (y13a, y13b, y13c, y13d, y13e) =>
   .br (y13e == (1 : Int)) (.okl y13d.length <| .okl Fields_2.length <| .okl Body_2.length <| .okl Trailers_2.length <| .okl out.length <| .call (parser_Parser_ended.f Method Target Minor Chunked stage lines head need true false p Line Fields Body Ext Trailers Chunked_2 Old err p_2 most y13a y13b y13c y13d Fields_2 Body_2 Trailers_2 out) fun (y14a, y14b, y14c, y14d, y14e, y14f, y14g, y14h, y14i, y14j, y14k, y14l, y14m, y14n, y14o, y14p, y14q, y14r, y14s, y14t, y14u) =>
    .okl y14q.length <| .okl y14r.length <| .okl y14s.length <| .okl y14t.length <| .okl y14u.length <| .ret (y14a, y14b, y14c, y14d, y14e, y14f, y14g, y14h, y14i, y14j, p, Line, Fields, Head, Body, Ext, Trailers, Wait, Idle, Chunked_2, Old, y14k, y14l, y14m, y14n, y14o, y14p, y14q, y14r, y14s, y14t, y14u))
   (.br (y13e == (2 : Int)) (.br (stage != (3 : Int)) (.okl y13d.length <| .okl Fields_2.length <| .okl Body_2.length <| .okl Trailers_2.length <| .okl out.length <| .call (parser_Parser_ended.f Method Target Minor Chunked stage lines head need true false p Line Fields Body Ext Trailers Chunked_2 Old err p_2 most y13a y13b y13c y13d Fields_2 Body_2 Trailers_2 out) fun (_, _, _, _, _, _, _, _, _, _, _, _, _, _, _, _, y15q, y15r, y15s, y15t, y15u) =>
     .br (!stage != (5 : Int)) (.okl y15q.length <| .okl y15r.length <| .okl y15s.length <| .okl y15t.length <| .okl y15u.length <| .call (parser_Parser_step_r0.f) fun (y16a, y16b, y16c, y16d, y16e, y16f, y16g, y16h, y16i, y16j, y16k, y16l, y16m, y16n, y16o, y16p, y16q, y16r, y16s, y16t, y16u, y16v, y16w, y16x, y16y, y16z, y16aa, y16ab, y16ac, y16ad, y16ae, y16af) =>
     .okl y16ab.length <| .okl y16ac.length <| .okl y16ad.length <| .okl y16ae.length <| .okl y16af.length <| .ret (y16a, y16b, y16c, y16d, y16e, y16f, y16g, y16h, y16i, y16j, y16k, y16l, y16m, y16n, y16o, y16p, y16q, y16r, y16s, y16t, y16u, y16v, y16w, y16x, y16y, y16z, y16aa, y16ab, y16ac, y16ad, y16ae, y16af))
     (.okl y15q.length <| .okl y15r.length <| .okl y15s.length <| .okl y15t.length <| .okl y15u.length <| .call (parser_Parser_step_r0.f) fun (y17a, y17b, y17c, y17d, y17e, y17f, y17g, y17h, y17i, y17j, y17k, y17l, y17m, y17n, y17o, y17p, y17q, y17r, y17s, y17t, y17u, y17v, y17w, y17x, y17y, y17z, y17aa, y17ab, y17ac, y17ad, y17ae, y17af) =>
     .okl y17ab.length <| .okl y17ac.length <| .okl y17ad.length <| .okl y17ae.length <| .okl y17af.length <| .ret (y17a, y17b, y17c, y17d, y17e, y17f, y17g, y17h, y17i, y17j, y17k, y17l, y17m, y17n, y17o, y17p, y17q, y17r, y17s, y17t, y17u, y17v, y17w, y17x, y17y, y17z, y17aa, y17ab, y17ac, y17ad, y17ae, y17af)))
    (.okl y13d.length <| .okl Fields_2.length <| .okl Body_2.length <| .okl Trailers_2.length <| .okl out.length <| .call (parser_Parser_ended.f Method Target Minor Chunked stage lines head need true false p Line Fields Body Ext Trailers Chunked_2 Old err p_2 most y13a y13b y13c y13d Fields_2 Body_2 Trailers_2 out) fun (_, _, _, _, _, _, _, _, _, _, _, _, _, _, _, _, y18q, y18r, y18s, y18t, y18u) =>
     .okl y18q.length <| .okl y18r.length <| .okl y18s.length <| .okl y18t.length <| .okl y18u.length <| .call (parser_Parser_step_r0.f) fun (y19a, y19b, y19c, y19d, y19e, y19f, y19g, y19h, y19i, y19j, y19k, y19l, y19m, y19n, y19o, y19p, y19q, y19r, y19s, y19t, y19u, y19v, y19w, y19x, y19y, y19z, y19aa, y19ab, y19ac, y19ad, y19ae, y19af) =>
     .okl y19ab.length <| .okl y19ac.length <| .okl y19ad.length <| .okl y19ae.length <| .okl y19af.length <| .ret (y19a, y19b, y19c, y19d, y19e, y19f, y19g, y19h, y19i, y19j, y19k, y19l, y19m, y19n, y19o, y19p, y19q, y19r, y19s, y19t, y19u, y19v, y19w, y19x, y19y, y19z, y19aa, y19ab, y19ac, y19ad, y19ae, y19af)))
    (.br (y13e == (4 : Int)) (.okl y13d.length <| .okl Fields_2.length <| .okl Body_2.length <| .okl Trailers_2.length <| .okl out.length <| .call (parser_Parser_long_r1.f Method Target Minor Chunked stage lines head need true false p Line Fields Head Body Ext Trailers Wait Idle Chunked_2 Old p_2 most y13a y13b y13c y13d Fields_2 Body_2 Trailers_2 out) fun (y20a, y20b, y20c, y20d, y20e, y20f, y20g, y20h, y20i, y20j, y20k, y20l, y20m, y20n, y20o, y20p, y20q, y20r, y20s, y20t, y20u, y20v, y20w, y20x, y20y, y20z, y20aa, y20ab, y20ac, y20ad, y20ae, y20af) =>
     .okl y20ab.length <| .okl y20ac.length <| .okl y20ad.length <| .okl y20ae.length <| .okl y20af.length <| .ret (y20a, y20b, y20c, y20d, y20e, y20f, y20g, y20h, y20i, y20j, y20k, y20l, y20m, y20n, y20o, y20p, y20q, y20r, y20s, y20t, y20u, y20v, y20w, y20x, y20y, y20z, y20aa, y20ab, y20ac, y20ad, y20ae, y20af))
    (.br (y13e == (3 : Int)) (.okl y13d.length <| .okl Fields_2.length <| .okl Body_2.length <| .okl Trailers_2.length <| .okl out.length <| .call (parser_Parser_fail.f y13d Fields_2 Body_2 Trailers_2 out) fun _ =>
     .okl y13d.length <| .okl Fields_2.length <| .okl Body_2.length <| .okl Trailers_2.length <| .okl out.length <| .ret (Method, Target, Minor, Chunked, stage, lines, head, need, true, false, p, Line, Fields, Head, Body, Ext, Trailers, Wait, Idle, Chunked_2, Old, (400 : Int), p_2, most, y13a, y13b, y13c, y13d, Fields_2, Body_2, Trailers_2, out))
     (.okl y13d.length <| .okl Fields_2.length <| .okl Body_2.length <| .okl Trailers_2.length <| .okl out.length <| .ret (Method, Target, Minor, Chunked, stage, lines, head, need, true, false, p, Line, Fields, Head, Body, Ext, Trailers, Wait, Idle, Chunked_2, Old, err, p_2, most, y13a, y13b, y13c, y13d, Fields_2, Body_2, Trailers_2, out)))))))))
def f (Method : List UInt8) (Target : List UInt8) (Minor : Int) (Chunked : Bool) (stage : Int) (lines : Int) (head : Int) (need : Int) (begun : Bool) (waits : Bool) (p : Int) (Line : Int) (Fields : Int) (Head : Int) (Body : Int) (Ext : Int) (Trailers : Int) (Wait : Int) (Idle : Int) (Chunked_2 : Bool) (Old : Bool) (err : Int) (p_2 : Int) (most : Int) (pending : Bool) (over : Bool) (bad : Bool) (b : List UInt8) (Fields_2 : List (List UInt8 × List UInt8)) (Body_2 : List UInt8) (Trailers_2 : List (List UInt8 × List UInt8)) (out : List (List UInt8 × List UInt8 × Int × List (List UInt8 × List UInt8) × Bool × List UInt8 × List (List UInt8 × List UInt8))) (c : Int) (counts : Bool) : Option (List UInt8 × List UInt8 × Int × Bool × Int × Int × Int × Int × Bool × Bool × Int × Int × Int × Int × Int × Int × Int × Int × Int × Bool × Bool × Int × Int × Int × Bool × Bool × Bool × List UInt8 × (List (List UInt8 × List UInt8)) × List UInt8 × (List (List UInt8 × List UInt8)) × (List (List UInt8 × List UInt8 × Int × List (List UInt8 × List UInt8) × Bool × List UInt8 × List (List UInt8 × List UInt8)))) := (t Method Target Minor Chunked stage lines head need begun waits p Line Fields Head Body Ext Trailers Wait Idle Chunked_2 Old err p_2 most pending over bad b Fields_2 Body_2 Trailers_2 out c counts).val
def F (x : D.den) : Option (List UInt8 × List UInt8 × Int × Bool × Int × Int × Int × Int × Bool × Bool × Int × Int × Int × Int × Int × Int × Int × Int × Int × Bool × Bool × Int × Int × Int × Bool × Bool × Bool × List UInt8 × (List (List UInt8 × List UInt8)) × List UInt8 × (List (List UInt8 × List UInt8)) × (List (List UInt8 × List UInt8 × Int × List (List UInt8 × List UInt8) × Bool × List UInt8 × List (List UInt8 × List UInt8)))) := f x.1.1.2.1 x.1.1.2.2.1 x.1.1.2.2.2.1 x.1.1.2.2.2.2.2.1 x.1.1.2.2.2.2.2.2.2.2.1 x.1.1.2.2.2.2.2.2.2.2.2.1 x.1.1.2.2.2.2.2.2.2.2.2.2.1 x.1.1.2.2.2.2.2.2.2.2.2.2.2.1 x.1.1.2.2.2.2.2.2.2.2.2.2.2.2.1 x.1.1.2.2.2.2.2.2.2.2.2.2.2.2.2.1 x.1.1.2.2.2.2.2.2.2.2.2.2.2.2.2.2.1 x.1.1.2.2.2.2.2.2.2.2.2.2.2.2.2.2.2.1 x.1.1.2.2.2.2.2.2.2.2.2.2.2.2.2.2.2.2.1 x.1.1.2.2.2.2.2.2.2.2.2.2.2.2.2.2.2.2.2.1 x.1.1.2.2.2.2.2.2.2.2.2.2.2.2.2.2.2.2.2.2.1 x.1.1.2.2.2.2.2.2.2.2.2.2.2.2.2.2.2.2.2.2.2.1 x.1.1.2.2.2.2.2.2.2.2.2.2.2.2.2.2.2.2.2.2.2.2.1 x.1.1.2.2.2.2.2.2.2.2.2.2.2.2.2.2.2.2.2.2.2.2.2.1 x.1.1.2.2.2.2.2.2.2.2.2.2.2.2.2.2.2.2.2.2.2.2.2.2.1 x.1.1.2.2.2.2.2.2.2.2.2.2.2.2.2.2.2.2.2.2.2.2.2.2.2.1 x.1.1.2.2.2.2.2.2.2.2.2.2.2.2.2.2.2.2.2.2.2.2.2.2.2.2.1 x.1.1.2.2.2.2.2.2.2.2.2.2.2.2.2.2.2.2.2.2.2.2.2.2.2.2.2.1 x.1.2.1.1 x.1.2.1.2.1 x.1.2.1.2.2.2.1 x.1.2.1.2.2.2.2.1 x.1.2.1.2.2.2.2.2 x.1.2.2.1 x.1.2.2.2.1 x.1.2.2.2.2.1 x.1.2.2.2.2.2.1 x.1.2.2.2.2.2.2.1 x.2.2.1 x.2.2.2
def pa : D.den → (List UInt8 × List UInt8 × Int × Bool × Int × Int × Int × Int × Bool × Bool × Int × Int × Int × Int × Int × Int × Int × Int × Int × Bool × Bool × Int × Int × Int × Bool × Bool × Bool × List UInt8 × (List (List UInt8 × List UInt8)) × List UInt8 × (List (List UInt8 × List UInt8)) × (List (List UInt8 × List UInt8 × Int × List (List UInt8 × List UInt8) × Bool × List UInt8 × List (List UInt8 × List UInt8)))) → A.den := fun (((_, (_, (_, (_, (_, (_, (_, (_, (_, (_, (_, (_, (_, (_, (_, (_, (_, (_, (_, (_, (_, (_, (_, (_, (_, (_, _)))))))))))))))))))))))))), ((_, (_, (_, (_, (_, _))))), (_, (_, (_, (_, (_, _))))))), (_, (_, _))) (y1, y2, y3, y4, y5, y6, y7, y8, y9, y10, y11, y12, y13, y14, y15, y16, y17, y18, y19, y20, y21, y22, y23, y24, y25, y26, y27, y28, y29, y30, y31, y32) => ((((), (y1, (y2, (y3, ((), (y4, ((), ((), (y5, (y6, (y7, (y8, (y9, (y10, (y11, (y12, (y13, (y14, (y15, (y16, (y17, (y18, (y19, (y20, (y21, (y22, ())))))))))))))))))))))))))), ((), ((), ((), ((), ((), ((), ((y23, (y24, ((), (y25, (y26, y27))))), (y28, (y29, (y30, (y31, (y32, ()))))))))))))), ())
def con : Con := tcon D A pa F
theorem ok : ConOk Tryz.prog 47 con := tcon_ok Base.mixed Base.prog_ok bk_parser_Parser_long_r1_ok (by kernel_rfl) LapsOk.nil 9 (fun _ => rfl) (fun x => t x.1.1.2.1 x.1.1.2.2.1 x.1.1.2.2.2.1 x.1.1.2.2.2.2.2.1 x.1.1.2.2.2.2.2.2.2.2.1 x.1.1.2.2.2.2.2.2.2.2.2.1 x.1.1.2.2.2.2.2.2.2.2.2.2.1 x.1.1.2.2.2.2.2.2.2.2.2.2.2.1 x.1.1.2.2.2.2.2.2.2.2.2.2.2.2.1 x.1.1.2.2.2.2.2.2.2.2.2.2.2.2.2.1 x.1.1.2.2.2.2.2.2.2.2.2.2.2.2.2.2.1 x.1.1.2.2.2.2.2.2.2.2.2.2.2.2.2.2.2.1 x.1.1.2.2.2.2.2.2.2.2.2.2.2.2.2.2.2.2.1 x.1.1.2.2.2.2.2.2.2.2.2.2.2.2.2.2.2.2.2.1 x.1.1.2.2.2.2.2.2.2.2.2.2.2.2.2.2.2.2.2.2.1 x.1.1.2.2.2.2.2.2.2.2.2.2.2.2.2.2.2.2.2.2.2.1 x.1.1.2.2.2.2.2.2.2.2.2.2.2.2.2.2.2.2.2.2.2.2.1 x.1.1.2.2.2.2.2.2.2.2.2.2.2.2.2.2.2.2.2.2.2.2.2.1 x.1.1.2.2.2.2.2.2.2.2.2.2.2.2.2.2.2.2.2.2.2.2.2.2.1 x.1.1.2.2.2.2.2.2.2.2.2.2.2.2.2.2.2.2.2.2.2.2.2.2.2.1 x.1.1.2.2.2.2.2.2.2.2.2.2.2.2.2.2.2.2.2.2.2.2.2.2.2.2.1 x.1.1.2.2.2.2.2.2.2.2.2.2.2.2.2.2.2.2.2.2.2.2.2.2.2.2.2.1 x.1.2.1.1 x.1.2.1.2.1 x.1.2.1.2.2.2.1 x.1.2.1.2.2.2.2.1 x.1.2.1.2.2.2.2.2 x.1.2.2.1 x.1.2.2.2.1 x.1.2.2.2.2.1 x.1.2.2.2.2.2.1 x.1.2.2.2.2.2.2.1 x.2.2.1 x.2.2.2) (fun _ => rfl) fun _ _ _ => (by kernel_rfl)
end parser_Parser_step_r1
def bk_parser_Parser_step_r1 : Book := bk_parser_Parser_long_r1.add 47 parser_Parser_step_r1.con
theorem bk_parser_Parser_step_r1_ok : BookOk Tryz.prog bk_parser_Parser_step_r1 := bk_parser_Parser_long_r1_ok.add parser_Parser_step_r1.ok
namespace parser_Parser_long_r2
def D : Dom := parser_Parser_long_r1.D
def A : Dom := parser_Parser_framed.A
def sel : List Nat := [0, 1, 2, 3, 4, 5, 6, 7, 8, 9, 10, 11, 12, 13, 14, 15, 16, 17, 18, 19, 20, 21, 22, 23, 24, 25, 26, 27, 28, 29, 30, 31, 32]
def t (Method : List UInt8) (Target : List UInt8) (Minor : Int) (Chunked : Bool) (stage : Int) (lines : Int) (head : Int) (need : Int) (begun : Bool) (waits : Bool) (p : Int) (Line : Int) (Fields : Int) (Head : Int) (Body : Int) (Ext : Int) (Trailers : Int) (Wait : Int) (Idle : Int) (Chunked_2 : Bool) (Old : Bool) (err : Int) (p_2 : Int) (most : Int) (pending : Bool) (over : Bool) (bad : Bool) (b : List UInt8) (Fields_2 : List (List UInt8 × List UInt8)) (Body_2 : List UInt8) (Trailers_2 : List (List UInt8 × List UInt8)) (out : List (List UInt8 × List UInt8 × Int × List (List UInt8 × List UInt8) × Bool × List UInt8 × List (List UInt8 × List UInt8))) (c : Int) : Tr (List UInt8 × List UInt8 × Int × Bool × Int × Int × Int × Int × Bool × Bool × Int × Int × Int × Int × Int × Int × Int × Int × Int × Bool × Bool × Int × Int × Int × Bool × Bool × Bool × List UInt8 × (List (List UInt8 × List UInt8)) × List UInt8 × (List (List UInt8 × List UInt8)) × (List (List UInt8 × List UInt8 × Int × List (List UInt8 × List UInt8) × Bool × List UInt8 × List (List UInt8 × List UInt8)))) :=
 .br (stage == (0 : Int)) (.okl b.length <| .okl Fields_2.length <| .okl Body_2.length <| .okl Trailers_2.length <| .okl out.length <| .call (parser_Parser_fail.f b Fields_2 Body_2 Trailers_2 out) fun _ =>
  .okl b.length <| .okl Fields_2.length <| .okl Body_2.length <| .okl Trailers_2.length <| .okl out.length <| .ret (Method, Target, Minor, Chunked, stage, lines, head, need, begun, waits, p, Line, Fields, Head, Body, Ext, Trailers, Wait, Idle, Chunked_2, Old, (414 : Int), p_2, most, pending, over, bad, b, Fields_2, Body_2, Trailers_2, out))
 (.br (stage == (1 : Int)) (.okl b.length <| .okl Fields_2.length <| .okl Body_2.length <| .okl Trailers_2.length <| .okl out.length <| .call (parser_Parser_fail.f b Fields_2 Body_2 Trailers_2 out) fun _ =>
  .okl b.length <| .okl Fields_2.length <| .okl Body_2.length <| .okl Trailers_2.length <| .okl out.length <| .ret (Method, Target, Minor, Chunked, stage, lines, head, need, begun, waits, p, Line, Fields, Head, Body, Ext, Trailers, Wait, Idle, Chunked_2, Old, (431 : Int), p_2, most, pending, over, bad, b, Fields_2, Body_2, Trailers_2, out))
  (.br (stage == (6 : Int)) (.okl b.length <| .okl Fields_2.length <| .okl Body_2.length <| .okl Trailers_2.length <| .okl out.length <| .call (parser_Parser_fail.f b Fields_2 Body_2 Trailers_2 out) fun _ =>
   .okl b.length <| .okl Fields_2.length <| .okl Body_2.length <| .okl Trailers_2.length <| .okl out.length <| .ret (Method, Target, Minor, Chunked, stage, lines, head, need, begun, waits, p, Line, Fields, Head, Body, Ext, Trailers, Wait, Idle, Chunked_2, Old, (431 : Int), p_2, most, pending, over, bad, b, Fields_2, Body_2, Trailers_2, out))
  (.br (stage == (5 : Int)) (.call (quirks_Has.f p (29 : Int)) fun y4 =>
   .br y4 (.okl b.length <| .okl Fields_2.length <| .okl Body_2.length <| .okl Trailers_2.length <| .okl out.length <| .call (parser_Parser_to.f Line b Fields_2 Body_2 Trailers_2 out (3 : Int)) fun (y5a, y5b, y5c, y5d, y5e) =>
    .okl y5e.length <| .okl Fields_2.length <| .okl Body_2.length <| .okl Trailers_2.length <| .okl out.length <| .call (parser_Parser_step_r1.f Method Target Minor Chunked (3 : Int) lines head need begun waits p Line Fields Head Body Ext Trailers Wait Idle Chunked_2 Old err p y5a y5b y5c y5d y5e Fields_2 Body_2 Trailers_2 out c true) fun (y6a, y6b, y6c, y6d, y6e, y6f, y6g, y6h, y6i, y6j, y6k, y6l, y6m, y6n, y6o, y6p, y6q, y6r, y6s, y6t, y6u, y6v, y6w, y6x, y6y, y6z, y6aa, y6ab, y6ac, y6ad, y6ae, y6af) =>
    .okl y6ab.length <| .okl y6ac.length <| .okl y6ad.length <| .okl y6ae.length <| .okl y6af.length <| .ret (y6a, y6b, y6c, y6d, y6e, y6f, y6g, y6h, y6i, y6j, y6k, y6l, y6m, y6n, y6o, y6p, y6q, y6r, y6s, y6t, y6u, y6v, y6w, y6x, y6y, y6z, y6aa, y6ab, y6ac, y6ad, y6ae, y6af))
   (.okl b.length <| .okl Fields_2.length <| .okl Body_2.length <| .okl Trailers_2.length <| .okl out.length <| .call (parser_Parser_fail.f b Fields_2 Body_2 Trailers_2 out) fun _ =>
    .okl b.length <| .okl Fields_2.length <| .okl Body_2.length <| .okl Trailers_2.length <| .okl out.length <| .ret (Method, Target, Minor, Chunked, stage, lines, head, need, begun, waits, p, Line, Fields, Head, Body, Ext, Trailers, Wait, Idle, Chunked_2, Old, (400 : Int), p_2, most, pending, over, bad, b, Fields_2, Body_2, Trailers_2, out)))
   (.okl b.length <| .okl Fields_2.length <| .okl Body_2.length <| .okl Trailers_2.length <| .okl out.length <| .call (parser_Parser_fail.f b Fields_2 Body_2 Trailers_2 out) fun _ =>
   .okl b.length <| .okl Fields_2.length <| .okl Body_2.length <| .okl Trailers_2.length <| .okl out.length <| .ret (Method, Target, Minor, Chunked, stage, lines, head, need, begun, waits, p, Line, Fields, Head, Body, Ext, Trailers, Wait, Idle, Chunked_2, Old, (400 : Int), p_2, most, pending, over, bad, b, Fields_2, Body_2, Trailers_2, out)))))
def f (Method : List UInt8) (Target : List UInt8) (Minor : Int) (Chunked : Bool) (stage : Int) (lines : Int) (head : Int) (need : Int) (begun : Bool) (waits : Bool) (p : Int) (Line : Int) (Fields : Int) (Head : Int) (Body : Int) (Ext : Int) (Trailers : Int) (Wait : Int) (Idle : Int) (Chunked_2 : Bool) (Old : Bool) (err : Int) (p_2 : Int) (most : Int) (pending : Bool) (over : Bool) (bad : Bool) (b : List UInt8) (Fields_2 : List (List UInt8 × List UInt8)) (Body_2 : List UInt8) (Trailers_2 : List (List UInt8 × List UInt8)) (out : List (List UInt8 × List UInt8 × Int × List (List UInt8 × List UInt8) × Bool × List UInt8 × List (List UInt8 × List UInt8))) (c : Int) : Option (List UInt8 × List UInt8 × Int × Bool × Int × Int × Int × Int × Bool × Bool × Int × Int × Int × Int × Int × Int × Int × Int × Int × Bool × Bool × Int × Int × Int × Bool × Bool × Bool × List UInt8 × (List (List UInt8 × List UInt8)) × List UInt8 × (List (List UInt8 × List UInt8)) × (List (List UInt8 × List UInt8 × Int × List (List UInt8 × List UInt8) × Bool × List UInt8 × List (List UInt8 × List UInt8)))) := (t Method Target Minor Chunked stage lines head need begun waits p Line Fields Head Body Ext Trailers Wait Idle Chunked_2 Old err p_2 most pending over bad b Fields_2 Body_2 Trailers_2 out c).val
def F (x : D.den) : Option (List UInt8 × List UInt8 × Int × Bool × Int × Int × Int × Int × Bool × Bool × Int × Int × Int × Int × Int × Int × Int × Int × Int × Bool × Bool × Int × Int × Int × Bool × Bool × Bool × List UInt8 × (List (List UInt8 × List UInt8)) × List UInt8 × (List (List UInt8 × List UInt8)) × (List (List UInt8 × List UInt8 × Int × List (List UInt8 × List UInt8) × Bool × List UInt8 × List (List UInt8 × List UInt8)))) := f x.1.1.2.1 x.1.1.2.2.1 x.1.1.2.2.2.1 x.1.1.2.2.2.2.2.1 x.1.1.2.2.2.2.2.2.2.2.1 x.1.1.2.2.2.2.2.2.2.2.2.1 x.1.1.2.2.2.2.2.2.2.2.2.2.1 x.1.1.2.2.2.2.2.2.2.2.2.2.2.1 x.1.1.2.2.2.2.2.2.2.2.2.2.2.2.1 x.1.1.2.2.2.2.2.2.2.2.2.2.2.2.2.1 x.1.1.2.2.2.2.2.2.2.2.2.2.2.2.2.2.1 x.1.1.2.2.2.2.2.2.2.2.2.2.2.2.2.2.2.1 x.1.1.2.2.2.2.2.2.2.2.2.2.2.2.2.2.2.2.1 x.1.1.2.2.2.2.2.2.2.2.2.2.2.2.2.2.2.2.2.1 x.1.1.2.2.2.2.2.2.2.2.2.2.2.2.2.2.2.2.2.2.1 x.1.1.2.2.2.2.2.2.2.2.2.2.2.2.2.2.2.2.2.2.2.1 x.1.1.2.2.2.2.2.2.2.2.2.2.2.2.2.2.2.2.2.2.2.2.1 x.1.1.2.2.2.2.2.2.2.2.2.2.2.2.2.2.2.2.2.2.2.2.2.1 x.1.1.2.2.2.2.2.2.2.2.2.2.2.2.2.2.2.2.2.2.2.2.2.2.1 x.1.1.2.2.2.2.2.2.2.2.2.2.2.2.2.2.2.2.2.2.2.2.2.2.2.1 x.1.1.2.2.2.2.2.2.2.2.2.2.2.2.2.2.2.2.2.2.2.2.2.2.2.2.1 x.1.1.2.2.2.2.2.2.2.2.2.2.2.2.2.2.2.2.2.2.2.2.2.2.2.2.2.1 x.1.2.1.1 x.1.2.1.2.1 x.1.2.1.2.2.2.1 x.1.2.1.2.2.2.2.1 x.1.2.1.2.2.2.2.2 x.1.2.2.1 x.1.2.2.2.1 x.1.2.2.2.2.1 x.1.2.2.2.2.2.1 x.1.2.2.2.2.2.2.1 x.2.2
def pa : D.den → (List UInt8 × List UInt8 × Int × Bool × Int × Int × Int × Int × Bool × Bool × Int × Int × Int × Int × Int × Int × Int × Int × Int × Bool × Bool × Int × Int × Int × Bool × Bool × Bool × List UInt8 × (List (List UInt8 × List UInt8)) × List UInt8 × (List (List UInt8 × List UInt8)) × (List (List UInt8 × List UInt8 × Int × List (List UInt8 × List UInt8) × Bool × List UInt8 × List (List UInt8 × List UInt8)))) → A.den := fun (((_, (_, (_, (_, (_, (_, (_, (_, (_, (_, (_, (_, (_, (_, (_, (_, (_, (_, (_, (_, (_, (_, (_, (_, (_, (_, _)))))))))))))))))))))))))), ((_, (_, (_, (_, (_, _))))), (_, (_, (_, (_, (_, _))))))), (_, _)) (y1, y2, y3, y4, y5, y6, y7, y8, y9, y10, y11, y12, y13, y14, y15, y16, y17, y18, y19, y20, y21, y22, y23, y24, y25, y26, y27, y28, y29, y30, y31, y32) => ((((), (y1, (y2, (y3, ((), (y4, ((), ((), (y5, (y6, (y7, (y8, (y9, (y10, (y11, (y12, (y13, (y14, (y15, (y16, (y17, (y18, (y19, (y20, (y21, (y22, ())))))))))))))))))))))))))), ((), ((), ((), ((), ((), ((), ((y23, (y24, ((), (y25, (y26, y27))))), (y28, (y29, (y30, (y31, (y32, ()))))))))))))), ())
def con : Con := tcon D A pa F
theorem ok : ConOk Tryz.prog 70 con := tcon_ok Base.mixed Base.prog_ok bk_parser_Parser_step_r1_ok (by kernel_rfl) LapsOk.nil 9 (fun _ => rfl) (fun x => t x.1.1.2.1 x.1.1.2.2.1 x.1.1.2.2.2.1 x.1.1.2.2.2.2.2.1 x.1.1.2.2.2.2.2.2.2.2.1 x.1.1.2.2.2.2.2.2.2.2.2.1 x.1.1.2.2.2.2.2.2.2.2.2.2.1 x.1.1.2.2.2.2.2.2.2.2.2.2.2.1 x.1.1.2.2.2.2.2.2.2.2.2.2.2.2.1 x.1.1.2.2.2.2.2.2.2.2.2.2.2.2.2.1 x.1.1.2.2.2.2.2.2.2.2.2.2.2.2.2.2.1 x.1.1.2.2.2.2.2.2.2.2.2.2.2.2.2.2.2.1 x.1.1.2.2.2.2.2.2.2.2.2.2.2.2.2.2.2.2.1 x.1.1.2.2.2.2.2.2.2.2.2.2.2.2.2.2.2.2.2.1 x.1.1.2.2.2.2.2.2.2.2.2.2.2.2.2.2.2.2.2.2.1 x.1.1.2.2.2.2.2.2.2.2.2.2.2.2.2.2.2.2.2.2.2.1 x.1.1.2.2.2.2.2.2.2.2.2.2.2.2.2.2.2.2.2.2.2.2.1 x.1.1.2.2.2.2.2.2.2.2.2.2.2.2.2.2.2.2.2.2.2.2.2.1 x.1.1.2.2.2.2.2.2.2.2.2.2.2.2.2.2.2.2.2.2.2.2.2.2.1 x.1.1.2.2.2.2.2.2.2.2.2.2.2.2.2.2.2.2.2.2.2.2.2.2.2.1 x.1.1.2.2.2.2.2.2.2.2.2.2.2.2.2.2.2.2.2.2.2.2.2.2.2.2.1 x.1.1.2.2.2.2.2.2.2.2.2.2.2.2.2.2.2.2.2.2.2.2.2.2.2.2.2.1 x.1.2.1.1 x.1.2.1.2.1 x.1.2.1.2.2.2.1 x.1.2.1.2.2.2.2.1 x.1.2.1.2.2.2.2.2 x.1.2.2.1 x.1.2.2.2.1 x.1.2.2.2.2.1 x.1.2.2.2.2.2.1 x.1.2.2.2.2.2.2.1 x.2.2) (fun _ => rfl) fun _ _ _ => (by kernel_rfl)
end parser_Parser_long_r2
def bk_parser_Parser_long_r2 : Book := bk_parser_Parser_step_r1.add 70 parser_Parser_long_r2.con
theorem bk_parser_Parser_long_r2_ok : BookOk Tryz.prog bk_parser_Parser_long_r2 := bk_parser_Parser_step_r1_ok.add parser_Parser_long_r2.ok
namespace parser_Parser_step_r2
def D : Dom := parser_Parser_step_r0.D
def A : Dom := parser_Parser_framed.A
def sel : List Nat := [0, 1, 2, 3, 4, 5, 6, 7, 8, 9, 10, 11, 12, 13, 14, 15, 16, 17, 18, 19, 20, 21, 22, 23, 24, 25, 26, 27, 28, 29, 30, 31, 32, 33]
def t (Method : List UInt8) (Target : List UInt8) (Minor : Int) (Chunked : Bool) (stage : Int) (lines : Int) (head : Int) (need : Int) (begun : Bool) (waits : Bool) (p : Int) (Line : Int) (Fields : Int) (Head : Int) (Body : Int) (Ext : Int) (Trailers : Int) (Wait : Int) (Idle : Int) (Chunked_2 : Bool) (Old : Bool) (err : Int) (p_2 : Int) (most : Int) (pending : Bool) (over : Bool) (bad : Bool) (b : List UInt8) (Fields_2 : List (List UInt8 × List UInt8)) (Body_2 : List UInt8) (Trailers_2 : List (List UInt8 × List UInt8)) (out : List (List UInt8 × List UInt8 × Int × List (List UInt8 × List UInt8) × Bool × List UInt8 × List (List UInt8 × List UInt8))) (c : Int) (counts : Bool) : Tr (List UInt8 × List UInt8 × Int × Bool × Int × Int × Int × Int × Bool × Bool × Int × Int × Int × Int × Int × Int × Int × Int × Int × Bool × Bool × Int × Int × Int × Bool × Bool × Bool × List UInt8 × (List (List UInt8 × List UInt8)) × List UInt8 × (List (List UInt8 × List UInt8)) × (List (List UInt8 × List UInt8 × Int × List (List UInt8 × List UInt8) × Bool × List UInt8 × List (List UInt8 × List UInt8)))) :=
 .br (err != (0 : Int)) (.okl b.length <| .okl Fields_2.length <| .okl Body_2.length <| .okl Trailers_2.length <| .okl out.length <| .ret (Method, Target, Minor, Chunked, stage, lines, head, need, begun, waits, p, Line, Fields, Head, Body, Ext, Trailers, Wait, Idle, Chunked_2, Old, err, p_2, most, pending, over, bad, b, Fields_2, Body_2, Trailers_2, out))
 (.br (stage == (2 : Int)) (.okl b.length <| .okl Fields_2.length <| .okl Body_2.length <| .okl Trailers_2.length <| .okl out.length <| .call (parser_Parser_body.f Method Target Minor Chunked stage lines head need begun p Line p_2 most pending over bad b Fields_2 Body_2 Trailers_2 out c) fun (y1a, y1b, y1c, y1d, y1e, y1f, y1g, y1h, y1i, y1j, y1k, y1l, y1m, y1n, y1o, y1p, y1q, y1r, y1s, y1t) =>
  .okl y1p.length <| .okl y1q.length <| .okl y1r.length <| .okl y1s.length <| .okl y1t.length <| .ret (y1a, y1b, y1c, y1d, y1e, y1f, y1g, y1h, y1i, y1j, p, Line, Fields, Head, Body, Ext, Trailers, Wait, Idle, Chunked_2, Old, err, y1k, y1l, y1m, y1n, y1o, y1p, y1q, y1r, y1s, y1t))
  (.br (stage == (4 : Int)) (.okl b.length <| .okl Fields_2.length <| .okl Body_2.length <| .okl Trailers_2.length <| .okl out.length <| .call (parser_Parser_body.f Method Target Minor Chunked stage lines head need begun p Line p_2 most pending over bad b Fields_2 Body_2 Trailers_2 out c) fun (y2a, y2b, y2c, y2d, y2e, y2f, y2g, y2h, y2i, y2j, y2k, y2l, y2m, y2n, y2o, y2p, y2q, y2r, y2s, y2t) =>
   .okl y2p.length <| .okl y2q.length <| .okl y2r.length <| .okl y2s.length <| .okl y2t.length <| .ret (y2a, y2b, y2c, y2d, y2e, y2f, y2g, y2h, y2i, y2j, p, Line, Fields, Head, Body, Ext, Trailers, Wait, Idle, Chunked_2, Old, err, y2k, y2l, y2m, y2n, y2o, y2p, y2q, y2r, y2s, y2t))
  (.br counts (.okl b.length <| .okl Fields_2.length <| .okl Body_2.length <| .okl Trailers_2.length <| .okl out.length <| .call (parser_Parser_counted.f stage head Head err b Fields_2 Body_2 Trailers_2 out) fun (y3a, y3b, y3c) =>
   .br (!y3c) (.okl b.length <| .okl Fields_2.length <| .okl Body_2.length <| .okl Trailers_2.length <| .okl out.length <| .ret (Method, Target, Minor, Chunked, stage, lines, y3a, need, true, false, p, Line, Fields, Head, Body, Ext, Trailers, Wait, Idle, Chunked_2, Old, y3b, p_2, most, pending, over, bad, b, Fields_2, Body_2, Trailers_2, out))
   (.okl b.length <| .call (line_Reader_Byte.f p_2 most pending over bad b c) fun (y4a, y4b, y4c, y4d, y4e) =>
    .br (y4e == (1 : Int)) (.okl y4d.length <| .okl Fields_2.length <| .okl Body_2.length <| .okl Trailers_2.length <| .okl out.length <| .call (parser_Parser_ended.f Method Target Minor Chunked stage lines y3a need true false p Line Fields Body Ext Trailers Chunked_2 Old y3b p_2 most y4a y4b y4c y4d Fields_2 Body_2 Trailers_2 out) fun (y5a, y5b, y5c, y5d, y5e, y5f, y5g, y5h, y5i, y5j, y5k, y5l, y5m, y5n, y5o, y5p, y5q, y5r, y5s, y5t, y5u) =>
    .okl y5q.length <| .okl y5r.length <| .okl y5s.length <| .okl y5t.length <| .okl y5u.length <| .ret (y5a, y5b, y5c, y5d, y5e, y5f, y5g, y5h, y5i, y5j, p, Line, Fields, Head, Body, Ext, Trailers, Wait, Idle, Chunked_2, Old, y5k, y5l, y5m, y5n, y5o, y5p, y5q, y5r, y5s, y5t, y5u))
    (.br (y4e == (2 : Int)) (.br (stage != (3 : Int)) (.okl y4d.length <| .okl Fields_2.length <| .okl Body_2.length <| .okl Trailers_2.length <| .okl out.length <| .call (parser_Parser_ended.f Method Target Minor Chunked stage lines y3a need true false p Line Fields Body Ext Trailers Chunked_2 Old y3b p_2 most y4a y4b y4c y4d Fields_2 Body_2 Trailers_2 out) fun (y6a, y6b, y6c, y6d, y6e, y6f, y6g, y6h, y6i, y6j, y6k, y6l, y6m, y6n, y6o, y6p, y6q, y6r, y6s, y6t, y6u) =>
     .br (!stage != (5 : Int)) (.okl y6q.length <| .okl y6r.length <| .okl y6s.length <| .okl y6t.length <| .okl y6u.length <| .call (parser_Parser_step_r1.f y6a y6b y6c y6d y6e y6f y6g y6h y6i y6j p Line Fields Head Body Ext Trailers Wait Idle Chunked_2 Old y6k y6l y6m y6n y6o y6p y6q y6r y6s y6t y6u c true) fun (y7a, y7b, y7c, y7d, y7e, y7f, y7g, y7h, y7i, y7j, y7k, y7l, y7m, y7n, y7o, y7p, y7q, y7r, y7s, y7t, y7u, y7v, y7w, y7x, y7y, y7z, y7aa, y7ab, y7ac, y7ad, y7ae, y7af) =>
      .okl y7ab.length <| .okl y7ac.length <| .okl y7ad.length <| .okl y7ae.length <| .okl y7af.length <| .ret (y7a, y7b, y7c, y7d, y7e, y7f, y7g, y7h, y7i, y7j, y7k, y7l, y7m, y7n, y7o, y7p, y7q, y7r, y7s, y7t, y7u, y7v, y7w, y7x, y7y, y7z, y7aa, y7ab, y7ac, y7ad, y7ae, y7af))
     (.okl y6q.length <| .okl y6r.length <| .okl y6s.length <| .okl y6t.length <| .okl y6u.length <| .call (parser_Parser_step_r1.f y6a y6b y6c y6d y6e y6f y6g y6h y6i y6j p Line Fields Head Body Ext Trailers Wait Idle Chunked_2 Old y6k y6l y6m y6n y6o y6p y6q y6r y6s y6t y6u c (decide ((↑y6u.length : Int) > (↑out.length : Int)))) fun (y8a, y8b, y8c, y8d, y8e, y8f, y8g, y8h, y8i, y8j, y8k, y8l, y8m, y8n, y8o, y8p, y8q, y8r, y8s, y8t, y8u, y8v, y8w, y8x, y8y, y8z, y8aa, y8ab, y8ac, y8ad, y8ae, y8af) =>
      .okl y8ab.length <| .okl y8ac.length <| .okl y8ad.length <| .okl y8ae.length <| .okl y8af.length <| .ret (y8a, y8b, y8c, y8d, y8e, y8f, y8g, y8h, y8i, y8j, y8k, y8l, y8m, y8n, y8o, y8p, y8q, y8r, y8s, y8t, y8u, y8v, y8w, y8x, y8y, y8z, y8aa, y8ab, y8ac, y8ad, y8ae, y8af)))
     (.okl y4d.length <| .okl Fields_2.length <| .okl Body_2.length <| .okl Trailers_2.length <| .okl out.length <| .call (parser_Parser_ended.f Method Target Minor Chunked stage lines y3a need true false p Line Fields Body Ext Trailers Chunked_2 Old y3b p_2 most y4a y4b y4c y4d Fields_2 Body_2 Trailers_2 out) fun (y9a, y9b, y9c, y9d, y9e, y9f, y9g, y9h, y9i, y9j, y9k, y9l, y9m, y9n, y9o, y9p, y9q, y9r, y9s, y9t, y9u) =>
     .okl y9q.length <| .okl y9r.length <| .okl y9s.length <| .okl y9t.length <| .okl y9u.length <| .call (parser_Parser_step_r1.f y9a y9b y9c y9d y9e y9f y9g y9h y9i y9j p Line Fields Head Body Ext Trailers Wait Idle Chunked_2 Old y9k y9l y9m y9n y9o y9p y9q y9r y9s y9t y9u c true) fun (y10a, y10b, y10c, y10d, y10e, y10f, y10g, y10h, y10i, y10j, y10k, y10l, y10m, y10n, y10o, y10p, y10q, y10r, y10s, y10t, y10u, y10v, y10w, y10x, y10y, y10z, y10aa, y10ab, y10ac, y10ad, y10ae, y10af) =>
     .okl y10ab.length <| .okl y10ac.length <| .okl y10ad.length <| .okl y10ae.length <| .okl y10af.length <| .ret (y10a, y10b, y10c, y10d, y10e, y10f, y10g, y10h, y10i, y10j, y10k, y10l, y10m, y10n, y10o, y10p, y10q, y10r, y10s, y10t, y10u, y10v, y10w, y10x, y10y, y10z, y10aa, y10ab, y10ac, y10ad, y10ae, y10af)))
    (.br (y4e == (4 : Int)) (.okl y4d.length <| .okl Fields_2.length <| .okl Body_2.length <| .okl Trailers_2.length <| .okl out.length <| .call (parser_Parser_long_r2.f Method Target Minor Chunked stage lines y3a need true false p Line Fields Head Body Ext Trailers Wait Idle Chunked_2 Old y3b p_2 most y4a y4b y4c y4d Fields_2 Body_2 Trailers_2 out c) fun (y11a, y11b, y11c, y11d, y11e, y11f, y11g, y11h, y11i, y11j, y11k, y11l, y11m, y11n, y11o, y11p, y11q, y11r, y11s, y11t, y11u, y11v, y11w, y11x, y11y, y11z, y11aa, y11ab, y11ac, y11ad, y11ae, y11af) =>
     .okl y11ab.length <| .okl y11ac.length <| .okl y11ad.length <| .okl y11ae.length <| .okl y11af.length <| .ret (y11a, y11b, y11c, y11d, y11e, y11f, y11g, y11h, y11i, y11j, y11k, y11l, y11m, y11n, y11o, y11p, y11q, y11r, y11s, y11t, y11u, y11v, y11w, y11x, y11y, y11z, y11aa, y11ab, y11ac, y11ad, y11ae, y11af))
     (.br (y4e == (3 : Int)) (.okl y4d.length <| .okl Fields_2.length <| .okl Body_2.length <| .okl Trailers_2.length <| .okl out.length <| .call (parser_Parser_fail.f y4d Fields_2 Body_2 Trailers_2 out) fun _ =>
      .okl y4d.length <| .okl Fields_2.length <| .okl Body_2.length <| .okl Trailers_2.length <| .okl out.length <| .ret (Method, Target, Minor, Chunked, stage, lines, y3a, need, true, false, p, Line, Fields, Head, Body, Ext, Trailers, Wait, Idle, Chunked_2, Old, (400 : Int), p_2, most, y4a, y4b, y4c, y4d, Fields_2, Body_2, Trailers_2, out))
     (.okl y4d.length <| .okl Fields_2.length <| .okl Body_2.length <| .okl Trailers_2.length <| .okl out.length <| .ret (Method, Target, Minor, Chunked, stage, lines, y3a, need, true, false, p, Line, Fields, Head, Body, Ext, Trailers, Wait, Idle, Chunked_2, Old, y3b, p_2, most, y4a, y4b, y4c, y4d, Fields_2, Body_2, Trailers_2, out)))))))
   (.okl b.length <| .call (line_Reader_Byte.f p_2 most pending over bad b c) fun (y13a, y13b, y13c, y13d, y13e) =>
   .br (y13e == (1 : Int)) (.okl y13d.length <| .okl Fields_2.length <| .okl Body_2.length <| .okl Trailers_2.length <| .okl out.length <| .call (parser_Parser_ended.f Method Target Minor Chunked stage lines head need true false p Line Fields Body Ext Trailers Chunked_2 Old err p_2 most y13a y13b y13c y13d Fields_2 Body_2 Trailers_2 out) fun (y14a, y14b, y14c, y14d, y14e, y14f, y14g, y14h, y14i, y14j, y14k, y14l, y14m, y14n, y14o, y14p, y14q, y14r, y14s, y14t, y14u) =>
    .okl y14q.length <| .okl y14r.length <| .okl y14s.length <| .okl y14t.length <| .okl y14u.length <| .ret (y14a, y14b, y14c, y14d, y14e, y14f, y14g, y14h, y14i, y14j, p, Line, Fields, Head, Body, Ext, Trailers, Wait, Idle, Chunked_2, Old, y14k, y14l, y14m, y14n, y14o, y14p, y14q, y14r, y14s, y14t, y14u))
   (.br (y13e == (2 : Int)) (.br (stage != (3 : Int)) (.okl y13d.length <| .okl Fields_2.length <| .okl Body_2.length <| .okl Trailers_2.length <| .okl out.length <| .call (parser_Parser_ended.f Method Target Minor Chunked stage lines head need true false p Line Fields Body Ext Trailers Chunked_2 Old err p_2 most y13a y13b y13c y13d Fields_2 Body_2 Trailers_2 out) fun (y15a, y15b, y15c, y15d, y15e, y15f, y15g, y15h, y15i, y15j, y15k, y15l, y15m, y15n, y15o, y15p, y15q, y15r, y15s, y15t, y15u) =>
     .br (!stage != (5 : Int)) (.okl y15q.length <| .okl y15r.length <| .okl y15s.length <| .okl y15t.length <| .okl y15u.length <| .call (parser_Parser_step_r1.f y15a y15b y15c y15d y15e y15f y15g y15h y15i y15j p Line Fields Head Body Ext Trailers Wait Idle Chunked_2 Old y15k y15l y15m y15n y15o y15p y15q y15r y15s y15t y15u c true) fun (y16a, y16b, y16c, y16d, y16e, y16f, y16g, y16h, y16i, y16j, y16k, y16l, y16m, y16n, y16o, y16p, y16q, y16r, y16s, y16t, y16u, y16v, y16w, y16x, y16y, y16z, y16aa, y16ab, y16ac, y16ad, y16ae, y16af) =>
     .okl y16ab.length <| .okl y16ac.length <| .okl y16ad.length <| .okl y16ae.length <| .okl y16af.length <| .ret (y16a, y16b, y16c, y16d, y16e, y16f, y16g, y16h, y16i, y16j, y16k, y16l, y16m, y16n, y16o, y16p, y16q, y16r, y16s, y16t, y16u, y16v, y16w, y16x, y16y, y16z, y16aa, y16ab, y16ac, y16ad, y16ae, y16af))
     (.okl y15q.length <| .okl y15r.length <| .okl y15s.length <| .okl y15t.length <| .okl y15u.length <| .call (parser_Parser_step_r1.f y15a y15b y15c y15d y15e y15f y15g y15h y15i y15j p Line Fields Head Body Ext Trailers Wait Idle Chunked_2 Old y15k y15l y15m y15n y15o y15p y15q y15r y15s y15t y15u c (decide ((↑y15u.length : Int) > (↑out.length : Int)))) fun (y17a, y17b, y17c, y17d, y17e, y17f, y17g, y17h, y17i, y17j, y17k, y17l, y17m, y17n, y17o, y17p, y17q, y17r, y17s, y17t, y17u, y17v, y17w, y17x, y17y, y17z, y17aa, y17ab, y17ac, y17ad, y17ae, y17af) =>
     .okl y17ab.length <| .okl y17ac.length <| .okl y17ad.length <| .okl y17ae.length <| .okl y17af.length <| .ret (y17a, y17b, y17c, y17d, y17e, y17f, y17g, y17h, y17i, y17j, y17k, y17l, y17m, y17n, y17o, y17p, y17q, y17r, y17s, y17t, y17u, y17v, y17w, y17x, y17y, y17z, y17aa, y17ab, y17ac, y17ad, y17ae, y17af)))
    (.okl y13d.length <| .okl Fields_2.length <| .okl Body_2.length <| .okl Trailers_2.length <| .okl out.length <| .call (parser_Parser_ended.f Method Target Minor Chunked stage lines head need true false p Line Fields Body Ext Trailers Chunked_2 Old err p_2 most y13a y13b y13c y13d Fields_2 Body_2 Trailers_2 out) fun (y18a, y18b, y18c, y18d, y18e, y18f, y18g, y18h, y18i, y18j, y18k, y18l, y18m, y18n, y18o, y18p, y18q, y18r, y18s, y18t, y18u) =>
     .okl y18q.length <| .okl y18r.length <| .okl y18s.length <| .okl y18t.length <| .okl y18u.length <| .call (parser_Parser_step_r1.f y18a y18b y18c y18d y18e y18f y18g y18h y18i y18j p Line Fields Head Body Ext Trailers Wait Idle Chunked_2 Old y18k y18l y18m y18n y18o y18p y18q y18r y18s y18t y18u c true) fun (y19a, y19b, y19c, y19d, y19e, y19f, y19g, y19h, y19i, y19j, y19k, y19l, y19m, y19n, y19o, y19p, y19q, y19r, y19s, y19t, y19u, y19v, y19w, y19x, y19y, y19z, y19aa, y19ab, y19ac, y19ad, y19ae, y19af) =>
     .okl y19ab.length <| .okl y19ac.length <| .okl y19ad.length <| .okl y19ae.length <| .okl y19af.length <| .ret (y19a, y19b, y19c, y19d, y19e, y19f, y19g, y19h, y19i, y19j, y19k, y19l, y19m, y19n, y19o, y19p, y19q, y19r, y19s, y19t, y19u, y19v, y19w, y19x, y19y, y19z, y19aa, y19ab, y19ac, y19ad, y19ae, y19af)))
    (.br (y13e == (4 : Int)) (.okl y13d.length <| .okl Fields_2.length <| .okl Body_2.length <| .okl Trailers_2.length <| .okl out.length <| .call (parser_Parser_long_r2.f Method Target Minor Chunked stage lines head need true false p Line Fields Head Body Ext Trailers Wait Idle Chunked_2 Old err p_2 most y13a y13b y13c y13d Fields_2 Body_2 Trailers_2 out c) fun (y20a, y20b, y20c, y20d, y20e, y20f, y20g, y20h, y20i, y20j, y20k, y20l, y20m, y20n, y20o, y20p, y20q, y20r, y20s, y20t, y20u, y20v, y20w, y20x, y20y, y20z, y20aa, y20ab, y20ac, y20ad, y20ae, y20af) =>
     .okl y20ab.length <| .okl y20ac.length <| .okl y20ad.length <| .okl y20ae.length <| .okl y20af.length <| .ret (y20a, y20b, y20c, y20d, y20e, y20f, y20g, y20h, y20i, y20j, y20k, y20l, y20m, y20n, y20o, y20p, y20q, y20r, y20s, y20t, y20u, y20v, y20w, y20x, y20y, y20z, y20aa, y20ab, y20ac, y20ad, y20ae, y20af))
    (.br (y13e == (3 : Int)) (.okl y13d.length <| .okl Fields_2.length <| .okl Body_2.length <| .okl Trailers_2.length <| .okl out.length <| .call (parser_Parser_fail.f y13d Fields_2 Body_2 Trailers_2 out) fun _ =>
     .okl y13d.length <| .okl Fields_2.length <| .okl Body_2.length <| .okl Trailers_2.length <| .okl out.length <| .ret (Method, Target, Minor, Chunked, stage, lines, head, need, true, false, p, Line, Fields, Head, Body, Ext, Trailers, Wait, Idle, Chunked_2, Old, (400 : Int), p_2, most, y13a, y13b, y13c, y13d, Fields_2, Body_2, Trailers_2, out))
     (.okl y13d.length <| .okl Fields_2.length <| .okl Body_2.length <| .okl Trailers_2.length <| .okl out.length <| .ret (Method, Target, Minor, Chunked, stage, lines, head, need, true, false, p, Line, Fields, Head, Body, Ext, Trailers, Wait, Idle, Chunked_2, Old, err, p_2, most, y13a, y13b, y13c, y13d, Fields_2, Body_2, Trailers_2, out)))))))))
def f (Method : List UInt8) (Target : List UInt8) (Minor : Int) (Chunked : Bool) (stage : Int) (lines : Int) (head : Int) (need : Int) (begun : Bool) (waits : Bool) (p : Int) (Line : Int) (Fields : Int) (Head : Int) (Body : Int) (Ext : Int) (Trailers : Int) (Wait : Int) (Idle : Int) (Chunked_2 : Bool) (Old : Bool) (err : Int) (p_2 : Int) (most : Int) (pending : Bool) (over : Bool) (bad : Bool) (b : List UInt8) (Fields_2 : List (List UInt8 × List UInt8)) (Body_2 : List UInt8) (Trailers_2 : List (List UInt8 × List UInt8)) (out : List (List UInt8 × List UInt8 × Int × List (List UInt8 × List UInt8) × Bool × List UInt8 × List (List UInt8 × List UInt8))) (c : Int) (counts : Bool) : Option (List UInt8 × List UInt8 × Int × Bool × Int × Int × Int × Int × Bool × Bool × Int × Int × Int × Int × Int × Int × Int × Int × Int × Bool × Bool × Int × Int × Int × Bool × Bool × Bool × List UInt8 × (List (List UInt8 × List UInt8)) × List UInt8 × (List (List UInt8 × List UInt8)) × (List (List UInt8 × List UInt8 × Int × List (List UInt8 × List UInt8) × Bool × List UInt8 × List (List UInt8 × List UInt8)))) := (t Method Target Minor Chunked stage lines head need begun waits p Line Fields Head Body Ext Trailers Wait Idle Chunked_2 Old err p_2 most pending over bad b Fields_2 Body_2 Trailers_2 out c counts).val
def F (x : D.den) : Option (List UInt8 × List UInt8 × Int × Bool × Int × Int × Int × Int × Bool × Bool × Int × Int × Int × Int × Int × Int × Int × Int × Int × Bool × Bool × Int × Int × Int × Bool × Bool × Bool × List UInt8 × (List (List UInt8 × List UInt8)) × List UInt8 × (List (List UInt8 × List UInt8)) × (List (List UInt8 × List UInt8 × Int × List (List UInt8 × List UInt8) × Bool × List UInt8 × List (List UInt8 × List UInt8)))) := f x.1.1.2.1 x.1.1.2.2.1 x.1.1.2.2.2.1 x.1.1.2.2.2.2.2.1 x.1.1.2.2.2.2.2.2.2.2.1 x.1.1.2.2.2.2.2.2.2.2.2.1 x.1.1.2.2.2.2.2.2.2.2.2.2.1 x.1.1.2.2.2.2.2.2.2.2.2.2.2.1 x.1.1.2.2.2.2.2.2.2.2.2.2.2.2.1 x.1.1.2.2.2.2.2.2.2.2.2.2.2.2.2.1 x.1.1.2.2.2.2.2.2.2.2.2.2.2.2.2.2.1 x.1.1.2.2.2.2.2.2.2.2.2.2.2.2.2.2.2.1 x.1.1.2.2.2.2.2.2.2.2.2.2.2.2.2.2.2.2.1 x.1.1.2.2.2.2.2.2.2.2.2.2.2.2.2.2.2.2.2.1 x.1.1.2.2.2.2.2.2.2.2.2.2.2.2.2.2.2.2.2.2.1 x.1.1.2.2.2.2.2.2.2.2.2.2.2.2.2.2.2.2.2.2.2.1 x.1.1.2.2.2.2.2.2.2.2.2.2.2.2.2.2.2.2.2.2.2.2.1 x.1.1.2.2.2.2.2.2.2.2.2.2.2.2.2.2.2.2.2.2.2.2.2.1 x.1.1.2.2.2.2.2.2.2.2.2.2.2.2.2.2.2.2.2.2.2.2.2.2.1 x.1.1.2.2.2.2.2.2.2.2.2.2.2.2.2.2.2.2.2.2.2.2.2.2.2.1 x.1.1.2.2.2.2.2.2.2.2.2.2.2.2.2.2.2.2.2.2.2.2.2.2.2.2.1 x.1.1.2.2.2.2.2.2.2.2.2.2.2.2.2.2.2.2.2.2.2.2.2.2.2.2.2.1 x.1.2.1.1 x.1.2.1.2.1 x.1.2.1.2.2.2.1 x.1.2.1.2.2.2.2.1 x.1.2.1.2.2.2.2.2 x.1.2.2.1 x.1.2.2.2.1 x.1.2.2.2.2.1 x.1.2.2.2.2.2.1 x.1.2.2.2.2.2.2.1 x.2.2.1 x.2.2.2
def pa : D.den → (List UInt8 × List UInt8 × Int × Bool × Int × Int × Int × Int × Bool × Bool × Int × Int × Int × Int × Int × Int × Int × Int × Int × Bool × Bool × Int × Int × Int × Bool × Bool × Bool × List UInt8 × (List (List UInt8 × List UInt8)) × List UInt8 × (List (List UInt8 × List UInt8)) × (List (List UInt8 × List UInt8 × Int × List (List UInt8 × List UInt8) × Bool × List UInt8 × List (List UInt8 × List UInt8)))) → A.den := fun (((_, (_, (_, (_, (_, (_, (_, (_, (_, (_, (_, (_, (_, (_, (_, (_, (_, (_, (_, (_, (_, (_, (_, (_, (_, (_, _)))))))))))))))))))))))))), ((_, (_, (_, (_, (_, _))))), (_, (_, (_, (_, (_, _))))))), (_, (_, _))) (y1, y2, y3, y4, y5, y6, y7, y8, y9, y10, y11, y12, y13, y14, y15, y16, y17, y18, y19, y20, y21, y22, y23, y24, y25, y26, y27, y28, y29, y30, y31, y32) => ((((), (y1, (y2, (y3, ((), (y4, ((), ((), (y5, (y6, (y7, (y8, (y9, (y10, (y11, (y12, (y13, (y14, (y15, (y16, (y17, (y18, (y19, (y20, (y21, (y22, ())))))))))))))))))))))))))), ((), ((), ((), ((), ((), ((), ((y23, (y24, ((), (y25, (y26, y27))))), (y28, (y29, (y30, (y31, (y32, ()))))))))))))), ())
def con : Con := tcon D A pa F
theorem ok : ConOk Tryz.prog 47 con := tcon_ok Base.mixed Base.prog_ok bk_parser_Parser_long_r2_ok (by kernel_rfl) LapsOk.nil 9 (fun _ => rfl) (fun x => t x.1.1.2.1 x.1.1.2.2.1 x.1.1.2.2.2.1 x.1.1.2.2.2.2.2.1 x.1.1.2.2.2.2.2.2.2.2.1 x.1.1.2.2.2.2.2.2.2.2.2.1 x.1.1.2.2.2.2.2.2.2.2.2.2.1 x.1.1.2.2.2.2.2.2.2.2.2.2.2.1 x.1.1.2.2.2.2.2.2.2.2.2.2.2.2.1 x.1.1.2.2.2.2.2.2.2.2.2.2.2.2.2.1 x.1.1.2.2.2.2.2.2.2.2.2.2.2.2.2.2.1 x.1.1.2.2.2.2.2.2.2.2.2.2.2.2.2.2.2.1 x.1.1.2.2.2.2.2.2.2.2.2.2.2.2.2.2.2.2.1 x.1.1.2.2.2.2.2.2.2.2.2.2.2.2.2.2.2.2.2.1 x.1.1.2.2.2.2.2.2.2.2.2.2.2.2.2.2.2.2.2.2.1 x.1.1.2.2.2.2.2.2.2.2.2.2.2.2.2.2.2.2.2.2.2.1 x.1.1.2.2.2.2.2.2.2.2.2.2.2.2.2.2.2.2.2.2.2.2.1 x.1.1.2.2.2.2.2.2.2.2.2.2.2.2.2.2.2.2.2.2.2.2.2.1 x.1.1.2.2.2.2.2.2.2.2.2.2.2.2.2.2.2.2.2.2.2.2.2.2.1 x.1.1.2.2.2.2.2.2.2.2.2.2.2.2.2.2.2.2.2.2.2.2.2.2.2.1 x.1.1.2.2.2.2.2.2.2.2.2.2.2.2.2.2.2.2.2.2.2.2.2.2.2.2.1 x.1.1.2.2.2.2.2.2.2.2.2.2.2.2.2.2.2.2.2.2.2.2.2.2.2.2.2.1 x.1.2.1.1 x.1.2.1.2.1 x.1.2.1.2.2.2.1 x.1.2.1.2.2.2.2.1 x.1.2.1.2.2.2.2.2 x.1.2.2.1 x.1.2.2.2.1 x.1.2.2.2.2.1 x.1.2.2.2.2.2.1 x.1.2.2.2.2.2.2.1 x.2.2.1 x.2.2.2) (fun _ => rfl) fun _ _ _ => (by kernel_rfl)
end parser_Parser_step_r2
def bk_parser_Parser_step_r2 : Book := bk_parser_Parser_long_r2.add 47 parser_Parser_step_r2.con
theorem bk_parser_Parser_step_r2_ok : BookOk Tryz.prog bk_parser_Parser_step_r2 := bk_parser_Parser_long_r2_ok.add parser_Parser_step_r2.ok
namespace parser_Parser_long
def D : Dom := parser_Parser_long_r1.D
def A : Dom := parser_Parser_framed.A
def sel : List Nat := [0, 1, 2, 3, 4, 5, 6, 7, 8, 9, 10, 11, 12, 13, 14, 15, 16, 17, 18, 19, 20, 21, 22, 23, 24, 25, 26, 27, 28, 29, 30, 31, 32]
def t (Method : List UInt8) (Target : List UInt8) (Minor : Int) (Chunked : Bool) (stage : Int) (lines : Int) (head : Int) (need : Int) (begun : Bool) (waits : Bool) (p : Int) (Line : Int) (Fields : Int) (Head : Int) (Body : Int) (Ext : Int) (Trailers : Int) (Wait : Int) (Idle : Int) (Chunked_2 : Bool) (Old : Bool) (err : Int) (p_2 : Int) (most : Int) (pending : Bool) (over : Bool) (bad : Bool) (b : List UInt8) (Fields_2 : List (List UInt8 × List UInt8)) (Body_2 : List UInt8) (Trailers_2 : List (List UInt8 × List UInt8)) (out : List (List UInt8 × List UInt8 × Int × List (List UInt8 × List UInt8) × Bool × List UInt8 × List (List UInt8 × List UInt8))) (c : Int) : Tr (List UInt8 × List UInt8 × Int × Bool × Int × Int × Int × Int × Bool × Bool × Int × Int × Int × Int × Int × Int × Int × Int × Int × Bool × Bool × Int × Int × Int × Bool × Bool × Bool × List UInt8 × (List (List UInt8 × List UInt8)) × List UInt8 × (List (List UInt8 × List UInt8)) × (List (List UInt8 × List UInt8 × Int × List (List UInt8 × List UInt8) × Bool × List UInt8 × List (List UInt8 × List UInt8)))) :=
 .br (stage == (0 : Int)) (.okl b.length <| .okl Fields_2.length <| .okl Body_2.length <| .okl Trailers_2.length <| .okl out.length <| .call (parser_Parser_fail.f b Fields_2 Body_2 Trailers_2 out) fun _ =>
  .okl b.length <| .okl Fields_2.length <| .okl Body_2.length <| .okl Trailers_2.length <| .okl out.length <| .ret (Method, Target, Minor, Chunked, stage, lines, head, need, begun, waits, p, Line, Fields, Head, Body, Ext, Trailers, Wait, Idle, Chunked_2, Old, (414 : Int), p_2, most, pending, over, bad, b, Fields_2, Body_2, Trailers_2, out))
 (.br (stage == (1 : Int)) (.okl b.length <| .okl Fields_2.length <| .okl Body_2.length <| .okl Trailers_2.length <| .okl out.length <| .call (parser_Parser_fail.f b Fields_2 Body_2 Trailers_2 out) fun _ =>
  .okl b.length <| .okl Fields_2.length <| .okl Body_2.length <| .okl Trailers_2.length <| .okl out.length <| .ret (Method, Target, Minor, Chunked, stage, lines, head, need, begun, waits, p, Line, Fields, Head, Body, Ext, Trailers, Wait, Idle, Chunked_2, Old, (431 : Int), p_2, most, pending, over, bad, b, Fields_2, Body_2, Trailers_2, out))
  (.br (stage == (6 : Int)) (.okl b.length <| .okl Fields_2.length <| .okl Body_2.length <| .okl Trailers_2.length <| .okl out.length <| .call (parser_Parser_fail.f b Fields_2 Body_2 Trailers_2 out) fun _ =>
   .okl b.length <| .okl Fields_2.length <| .okl Body_2.length <| .okl Trailers_2.length <| .okl out.length <| .ret (Method, Target, Minor, Chunked, stage, lines, head, need, begun, waits, p, Line, Fields, Head, Body, Ext, Trailers, Wait, Idle, Chunked_2, Old, (431 : Int), p_2, most, pending, over, bad, b, Fields_2, Body_2, Trailers_2, out))
  (.br (stage == (5 : Int)) (.call (quirks_Has.f p (29 : Int)) fun y4 =>
   .br y4 (.okl b.length <| .okl Fields_2.length <| .okl Body_2.length <| .okl Trailers_2.length <| .okl out.length <| .call (parser_Parser_to.f Line b Fields_2 Body_2 Trailers_2 out (3 : Int)) fun (y5a, y5b, y5c, y5d, y5e) =>
    .okl y5e.length <| .okl Fields_2.length <| .okl Body_2.length <| .okl Trailers_2.length <| .okl out.length <| .call (parser_Parser_step_r2.f Method Target Minor Chunked (3 : Int) lines head need begun waits p Line Fields Head Body Ext Trailers Wait Idle Chunked_2 Old err p y5a y5b y5c y5d y5e Fields_2 Body_2 Trailers_2 out c true) fun (y6a, y6b, y6c, y6d, y6e, y6f, y6g, y6h, y6i, y6j, y6k, y6l, y6m, y6n, y6o, y6p, y6q, y6r, y6s, y6t, y6u, y6v, y6w, y6x, y6y, y6z, y6aa, y6ab, y6ac, y6ad, y6ae, y6af) =>
    .okl y6ab.length <| .okl y6ac.length <| .okl y6ad.length <| .okl y6ae.length <| .okl y6af.length <| .ret (y6a, y6b, y6c, y6d, y6e, y6f, y6g, y6h, y6i, y6j, y6k, y6l, y6m, y6n, y6o, y6p, y6q, y6r, y6s, y6t, y6u, y6v, y6w, y6x, y6y, y6z, y6aa, y6ab, y6ac, y6ad, y6ae, y6af))
   (.okl b.length <| .okl Fields_2.length <| .okl Body_2.length <| .okl Trailers_2.length <| .okl out.length <| .call (parser_Parser_fail.f b Fields_2 Body_2 Trailers_2 out) fun _ =>
    .okl b.length <| .okl Fields_2.length <| .okl Body_2.length <| .okl Trailers_2.length <| .okl out.length <| .ret (Method, Target, Minor, Chunked, stage, lines, head, need, begun, waits, p, Line, Fields, Head, Body, Ext, Trailers, Wait, Idle, Chunked_2, Old, (400 : Int), p_2, most, pending, over, bad, b, Fields_2, Body_2, Trailers_2, out)))
   (.okl b.length <| .okl Fields_2.length <| .okl Body_2.length <| .okl Trailers_2.length <| .okl out.length <| .call (parser_Parser_fail.f b Fields_2 Body_2 Trailers_2 out) fun _ =>
   .okl b.length <| .okl Fields_2.length <| .okl Body_2.length <| .okl Trailers_2.length <| .okl out.length <| .ret (Method, Target, Minor, Chunked, stage, lines, head, need, begun, waits, p, Line, Fields, Head, Body, Ext, Trailers, Wait, Idle, Chunked_2, Old, (400 : Int), p_2, most, pending, over, bad, b, Fields_2, Body_2, Trailers_2, out)))))
def f (Method : List UInt8) (Target : List UInt8) (Minor : Int) (Chunked : Bool) (stage : Int) (lines : Int) (head : Int) (need : Int) (begun : Bool) (waits : Bool) (p : Int) (Line : Int) (Fields : Int) (Head : Int) (Body : Int) (Ext : Int) (Trailers : Int) (Wait : Int) (Idle : Int) (Chunked_2 : Bool) (Old : Bool) (err : Int) (p_2 : Int) (most : Int) (pending : Bool) (over : Bool) (bad : Bool) (b : List UInt8) (Fields_2 : List (List UInt8 × List UInt8)) (Body_2 : List UInt8) (Trailers_2 : List (List UInt8 × List UInt8)) (out : List (List UInt8 × List UInt8 × Int × List (List UInt8 × List UInt8) × Bool × List UInt8 × List (List UInt8 × List UInt8))) (c : Int) : Option (List UInt8 × List UInt8 × Int × Bool × Int × Int × Int × Int × Bool × Bool × Int × Int × Int × Int × Int × Int × Int × Int × Int × Bool × Bool × Int × Int × Int × Bool × Bool × Bool × List UInt8 × (List (List UInt8 × List UInt8)) × List UInt8 × (List (List UInt8 × List UInt8)) × (List (List UInt8 × List UInt8 × Int × List (List UInt8 × List UInt8) × Bool × List UInt8 × List (List UInt8 × List UInt8)))) := (t Method Target Minor Chunked stage lines head need begun waits p Line Fields Head Body Ext Trailers Wait Idle Chunked_2 Old err p_2 most pending over bad b Fields_2 Body_2 Trailers_2 out c).val
def F (x : D.den) : Option (List UInt8 × List UInt8 × Int × Bool × Int × Int × Int × Int × Bool × Bool × Int × Int × Int × Int × Int × Int × Int × Int × Int × Bool × Bool × Int × Int × Int × Bool × Bool × Bool × List UInt8 × (List (List UInt8 × List UInt8)) × List UInt8 × (List (List UInt8 × List UInt8)) × (List (List UInt8 × List UInt8 × Int × List (List UInt8 × List UInt8) × Bool × List UInt8 × List (List UInt8 × List UInt8)))) := f x.1.1.2.1 x.1.1.2.2.1 x.1.1.2.2.2.1 x.1.1.2.2.2.2.2.1 x.1.1.2.2.2.2.2.2.2.2.1 x.1.1.2.2.2.2.2.2.2.2.2.1 x.1.1.2.2.2.2.2.2.2.2.2.2.1 x.1.1.2.2.2.2.2.2.2.2.2.2.2.1 x.1.1.2.2.2.2.2.2.2.2.2.2.2.2.1 x.1.1.2.2.2.2.2.2.2.2.2.2.2.2.2.1 x.1.1.2.2.2.2.2.2.2.2.2.2.2.2.2.2.1 x.1.1.2.2.2.2.2.2.2.2.2.2.2.2.2.2.2.1 x.1.1.2.2.2.2.2.2.2.2.2.2.2.2.2.2.2.2.1 x.1.1.2.2.2.2.2.2.2.2.2.2.2.2.2.2.2.2.2.1 x.1.1.2.2.2.2.2.2.2.2.2.2.2.2.2.2.2.2.2.2.1 x.1.1.2.2.2.2.2.2.2.2.2.2.2.2.2.2.2.2.2.2.2.1 x.1.1.2.2.2.2.2.2.2.2.2.2.2.2.2.2.2.2.2.2.2.2.1 x.1.1.2.2.2.2.2.2.2.2.2.2.2.2.2.2.2.2.2.2.2.2.2.1 x.1.1.2.2.2.2.2.2.2.2.2.2.2.2.2.2.2.2.2.2.2.2.2.2.1 x.1.1.2.2.2.2.2.2.2.2.2.2.2.2.2.2.2.2.2.2.2.2.2.2.2.1 x.1.1.2.2.2.2.2.2.2.2.2.2.2.2.2.2.2.2.2.2.2.2.2.2.2.2.1 x.1.1.2.2.2.2.2.2.2.2.2.2.2.2.2.2.2.2.2.2.2.2.2.2.2.2.2.1 x.1.2.1.1 x.1.2.1.2.1 x.1.2.1.2.2.2.1 x.1.2.1.2.2.2.2.1 x.1.2.1.2.2.2.2.2 x.1.2.2.1 x.1.2.2.2.1 x.1.2.2.2.2.1 x.1.2.2.2.2.2.1 x.1.2.2.2.2.2.2.1 x.2.2
def pa : D.den → (List UInt8 × List UInt8 × Int × Bool × Int × Int × Int × Int × Bool × Bool × Int × Int × Int × Int × Int × Int × Int × Int × Int × Bool × Bool × Int × Int × Int × Bool × Bool × Bool × List UInt8 × (List (List UInt8 × List UInt8)) × List UInt8 × (List (List UInt8 × List UInt8)) × (List (List UInt8 × List UInt8 × Int × List (List UInt8 × List UInt8) × Bool × List UInt8 × List (List UInt8 × List UInt8)))) → A.den := fun (((_, (_, (_, (_, (_, (_, (_, (_, (_, (_, (_, (_, (_, (_, (_, (_, (_, (_, (_, (_, (_, (_, (_, (_, (_, (_, _)))))))))))))))))))))))))), ((_, (_, (_, (_, (_, _))))), (_, (_, (_, (_, (_, _))))))), (_, _)) (y1, y2, y3, y4, y5, y6, y7, y8, y9, y10, y11, y12, y13, y14, y15, y16, y17, y18, y19, y20, y21, y22, y23, y24, y25, y26, y27, y28, y29, y30, y31, y32) => ((((), (y1, (y2, (y3, ((), (y4, ((), ((), (y5, (y6, (y7, (y8, (y9, (y10, (y11, (y12, (y13, (y14, (y15, (y16, (y17, (y18, (y19, (y20, (y21, (y22, ())))))))))))))))))))))))))), ((), ((), ((), ((), ((), ((), ((y23, (y24, ((), (y25, (y26, y27))))), (y28, (y29, (y30, (y31, (y32, ()))))))))))))), ())
def con : Con := tcon D A pa F
theorem ok : ConOk Tryz.prog 70 con := tcon_ok Base.mixed Base.prog_ok bk_parser_Parser_step_r2_ok (by kernel_rfl) LapsOk.nil 9 (fun _ => rfl) (fun x => t x.1.1.2.1 x.1.1.2.2.1 x.1.1.2.2.2.1 x.1.1.2.2.2.2.2.1 x.1.1.2.2.2.2.2.2.2.2.1 x.1.1.2.2.2.2.2.2.2.2.2.1 x.1.1.2.2.2.2.2.2.2.2.2.2.1 x.1.1.2.2.2.2.2.2.2.2.2.2.2.1 x.1.1.2.2.2.2.2.2.2.2.2.2.2.2.1 x.1.1.2.2.2.2.2.2.2.2.2.2.2.2.2.1 x.1.1.2.2.2.2.2.2.2.2.2.2.2.2.2.2.1 x.1.1.2.2.2.2.2.2.2.2.2.2.2.2.2.2.2.1 x.1.1.2.2.2.2.2.2.2.2.2.2.2.2.2.2.2.2.1 x.1.1.2.2.2.2.2.2.2.2.2.2.2.2.2.2.2.2.2.1 x.1.1.2.2.2.2.2.2.2.2.2.2.2.2.2.2.2.2.2.2.1 x.1.1.2.2.2.2.2.2.2.2.2.2.2.2.2.2.2.2.2.2.2.1 x.1.1.2.2.2.2.2.2.2.2.2.2.2.2.2.2.2.2.2.2.2.2.1 x.1.1.2.2.2.2.2.2.2.2.2.2.2.2.2.2.2.2.2.2.2.2.2.1 x.1.1.2.2.2.2.2.2.2.2.2.2.2.2.2.2.2.2.2.2.2.2.2.2.1 x.1.1.2.2.2.2.2.2.2.2.2.2.2.2.2.2.2.2.2.2.2.2.2.2.2.1 x.1.1.2.2.2.2.2.2.2.2.2.2.2.2.2.2.2.2.2.2.2.2.2.2.2.2.1 x.1.1.2.2.2.2.2.2.2.2.2.2.2.2.2.2.2.2.2.2.2.2.2.2.2.2.2.1 x.1.2.1.1 x.1.2.1.2.1 x.1.2.1.2.2.2.1 x.1.2.1.2.2.2.2.1 x.1.2.1.2.2.2.2.2 x.1.2.2.1 x.1.2.2.2.1 x.1.2.2.2.2.1 x.1.2.2.2.2.2.1 x.1.2.2.2.2.2.2.1 x.2.2) (fun _ => rfl) fun _ _ _ => (by kernel_rfl)
end parser_Parser_long
def bk_parser_Parser_long : Book := bk_parser_Parser_step_r2.add 70 parser_Parser_long.con
theorem bk_parser_Parser_long_ok : BookOk Tryz.prog bk_parser_Parser_long := bk_parser_Parser_step_r2_ok.add parser_Parser_long.ok
end Go.Vx
end
section
set_option maxRecDepth 1000000
set_option linter.unusedVariables false
namespace Go.Vx
open Go Go.Vx Go.Proofs
namespace parser_Parser_Feed
def D : Dom := ⟨[.cells (.cat (.ptr 1 0 0 0) (.cat .str (.cat .str (.cat (.int .i64) (.cat (.sl 3 2) (.cat .bool (.cat (.sl 4 1) (.cat (.sl 5 2) (.cat (.int .i64) (.cat (.int .i64) (.cat (.int .i64) (.cat (.int .i64) (.cat .bool (.cat .bool (.cat (.int .u32) (.cat (.int .i64) (.cat (.int .i64) (.cat (.int .i64) (.cat (.int .i64) (.cat (.int .i64) (.cat (.int .i64) (.cat (.int .i64) (.cat (.int .i64) (.cat .bool (.cat .bool (.cat (.int .i64) (.sl 6 7))))))))))))))))))))))))))) 84 false, .cells (.cat (.int .u32) (.cat (.int .i64) (.cat (.sl 2 1) (.cat .bool (.cat .bool .bool))))) 110 false, .vec .byte 5 false, .vec (.pair .str .str) 72 false, .vec .byte 5 false, .vec (.pair .str .str) 72 false, .vec (.pair .str (.pair .str (.pair (.int .i64) (.pair (.sl (.pair .str .str)) (.pair .bool (.pair (.sl .byte) (.sl (.pair .str .str)))))))) 47 false, .vec (.sl .byte) 22 true], (.cat (.ptr 0 0 0 0) (.sl 7 1))⟩
namespace L6
def D : Dom := ⟨[.cells (.cat (.ptr 8 0 0 0) (.cat .str (.cat .str (.cat (.int .i64) (.cat (.sl 10 2) (.cat .bool (.cat (.sl 11 1) (.cat (.sl 12 2) (.cat (.int .i64) (.cat (.int .i64) (.cat (.int .i64) (.cat (.int .i64) (.cat .bool (.cat .bool (.cat (.int .u32) (.cat (.int .i64) (.cat (.int .i64) (.cat (.int .i64) (.cat (.int .i64) (.cat (.int .i64) (.cat (.int .i64) (.cat (.int .i64) (.cat (.int .i64) (.cat .bool (.cat .bool (.cat (.int .i64) (.sl 13 7))))))))))))))))))))))))))) 84 false, .dead, .dead, .dead, .dead, .dead, .vec (.pair .str (.pair .str (.pair (.int .i64) (.pair (.sl (.pair .str .str)) (.pair .bool (.pair (.sl .byte) (.sl (.pair .str .str)))))))) 47 false, .vec (.sl .byte) 22 true, .cells (.cat (.int .u32) (.cat (.int .i64) (.cat (.sl 9 1) (.cat .bool (.cat .bool .bool))))) 110 false, .vec .byte 5 false, .vec (.pair .str .str) 72 false, .vec .byte 5 false, .vec (.pair .str .str) 72 false, .vec (.pair .str (.pair .str (.pair (.int .i64) (.pair (.sl (.pair .str .str)) (.pair .bool (.pair (.sl .byte) (.sl (.pair .str .str)))))))) 47 false], (.cat (.ptr 0 0 0 0) (.cat (.sl 7 1) (.cat (.int .i64) (.cat (.int .i64) (.cat (.vec .byte) (.cat (.int .i64) (.int .i64)))))))⟩
def A : Dom := ⟨[.cells (.cat (.ptr 8 0 0 0) (.cat .str (.cat .str (.cat (.int .i64) (.cat (.sl 10 2) (.cat .bool (.cat (.sl 11 1) (.cat (.sl 12 2) (.cat (.int .i64) (.cat (.int .i64) (.cat (.int .i64) (.cat (.int .i64) (.cat .bool (.cat .bool (.cat (.int .u32) (.cat (.int .i64) (.cat (.int .i64) (.cat (.int .i64) (.cat (.int .i64) (.cat (.int .i64) (.cat (.int .i64) (.cat (.int .i64) (.cat (.int .i64) (.cat .bool (.cat .bool (.cat (.int .i64) (.sl 13 7))))))))))))))))))))))))))) 84 false, .dead, .dead, .dead, .dead, .dead, .vec (.pair .str (.pair .str (.pair (.int .i64) (.pair (.sl (.pair .str .str)) (.pair .bool (.pair (.sl .byte) (.sl (.pair .str .str)))))))) 47 false, .vec (.sl .byte) 22 true, .cells (.cat (.int .u32) (.cat (.int .i64) (.cat (.sl 9 1) (.cat .bool (.cat .bool .bool))))) 110 false, .vec .byte 5 false, .vec (.pair .str .str) 72 false, .vec .byte 5 false, .vec (.pair .str .str) 72 false, .vec (.pair .str (.pair .str (.pair (.int .i64) (.pair (.sl (.pair .str .str)) (.pair .bool (.pair (.sl .byte) (.sl (.pair .str .str)))))))) 47 false], (.cat (.ptr 0 0 0 0) (.cat (.sl 7 1) (.cat (.int .i64) (.int .i64))))⟩
def sel : List Nat := [0, 1, 2, 3, 4, 5, 6, 7, 8, 9, 10, 11, 12, 13, 14, 15, 16, 17, 18, 19, 20, 21, 23, 24, 25, 26, 27, 28, 29, 30, 31, 32, 33, 36, 37, 38]
def t (Method : List UInt8) (Target : List UInt8) (Minor : Int) (Chunked : Bool) (stage : Int) (lines : Int) (head : Int) (need : Int) (begun : Bool) (waits : Bool) (p : Int) (Line : Int) (Fields : Int) (Head : Int) (Body : Int) (Ext : Int) (Trailers : Int) (Wait : Int) (Idle : Int) (Chunked_2 : Bool) (Old : Bool) (err : Int) (parts : List (List UInt8)) (p_2 : Int) (most : Int) (pending : Bool) (over : Bool) (bad : Bool) (b : List UInt8) (Fields_2 : List (List UInt8 × List UInt8)) (Body_2 : List UInt8) (Trailers_2 : List (List UInt8 × List UInt8)) (out_2 : List (List UInt8 × List UInt8 × Int × List (List UInt8 × List UInt8) × Bool × List UInt8 × List (List UInt8 × List UInt8))) (t18 : List UInt8) (t19 : Int) (t20 : Int) : Tr ((List UInt8 × List UInt8 × Int × Bool × Int × Int × Int × Int × Bool × Bool × Int × Int × Int × Int × Int × Int × Int × Int × Int × Bool × Bool × Int × Int × Int × Bool × Bool × Bool × List UInt8 × (List (List UInt8 × List UInt8)) × List UInt8 × (List (List UInt8 × List UInt8)) × (List (List UInt8 × List UInt8 × Int × List (List UInt8 × List UInt8) × Bool × List UInt8 × List (List UInt8 × List UInt8))) × Int) ⊕ (List UInt8 × List UInt8 × Int × Bool × Int × Int × Int × Int × Bool × Bool × Int × Int × Int × Int × Int × Int × Int × Int × Int × Bool × Bool × Int × Int × Int × Bool × Bool × Bool × List UInt8 × (List (List UInt8 × List UInt8)) × List UInt8 × (List (List UInt8 × List UInt8)) × (List (List UInt8 × List UInt8 × Int × List (List UInt8 × List UInt8) × Bool × List UInt8 × List (List UInt8 × List UInt8))))) :=
 .br (decide (t20 < t19)) (.chk ((0 : Int) ≤ t20 ∧ t20 < (↑t18.length : Int)) <| .chk (t20.toNat < t18.length) <| .okl b.length <| .okl Fields_2.length <| .okl Body_2.length <| .okl Trailers_2.length <| .okl out_2.length <| .call (parser_Parser_step_r2.f Method Target Minor Chunked stage lines head need begun waits p Line Fields Head Body Ext Trailers Wait Idle Chunked_2 Old err p_2 most pending over bad b Fields_2 Body_2 Trailers_2 out_2 (↑(UInt8.toNat (t18.getD t20.toNat (0 : UInt8))) : Int) true) fun (y1a, y1b, y1c, y1d, y1e, y1f, y1g, y1h, y1i, y1j, y1k, y1l, y1m, y1n, y1o, y1p, y1q, y1r, y1s, y1t, y1u, y1v, y1w, y1x, y1y, y1z, y1aa, y1ab, y1ac, y1ad, y1ae, y1af) =>
  .okl parts.length <| .okl y1ab.length <| .okl y1ac.length <| .okl y1ad.length <| .okl y1ae.length <| .okl y1af.length <| .ret (.inl (y1a, y1b, y1c, y1d, y1e, y1f, y1g, y1h, y1i, y1j, y1k, y1l, y1m, y1n, y1o, y1p, y1q, y1r, y1s, y1t, y1u, y1v, y1w, y1x, y1y, y1z, y1aa, y1ab, y1ac, y1ad, y1ae, y1af, IntKind.i64.wrap (t20 + (1 : Int)))))
 (.okl parts.length <| .okl b.length <| .okl Fields_2.length <| .okl Body_2.length <| .okl Trailers_2.length <| .okl out_2.length <| .ret (.inr (Method, Target, Minor, Chunked, stage, lines, head, need, begun, waits, p, Line, Fields, Head, Body, Ext, Trailers, Wait, Idle, Chunked_2, Old, err, p_2, most, pending, over, bad, b, Fields_2, Body_2, Trailers_2, out_2)))
def f (Method : List UInt8) (Target : List UInt8) (Minor : Int) (Chunked : Bool) (stage : Int) (lines : Int) (head : Int) (need : Int) (begun : Bool) (waits : Bool) (p : Int) (Line : Int) (Fields : Int) (Head : Int) (Body : Int) (Ext : Int) (Trailers : Int) (Wait : Int) (Idle : Int) (Chunked_2 : Bool) (Old : Bool) (err : Int) (parts : List (List UInt8)) (p_2 : Int) (most : Int) (pending : Bool) (over : Bool) (bad : Bool) (b : List UInt8) (Fields_2 : List (List UInt8 × List UInt8)) (Body_2 : List UInt8) (Trailers_2 : List (List UInt8 × List UInt8)) (out_2 : List (List UInt8 × List UInt8 × Int × List (List UInt8 × List UInt8) × Bool × List UInt8 × List (List UInt8 × List UInt8))) (t18 : List UInt8) (t19 : Int) (t20 : Int) : Option (List UInt8 × List UInt8 × Int × Bool × Int × Int × Int × Int × Bool × Bool × Int × Int × Int × Int × Int × Int × Int × Int × Int × Bool × Bool × Int × Int × Int × Bool × Bool × Bool × List UInt8 × (List (List UInt8 × List UInt8)) × List UInt8 × (List (List UInt8 × List UInt8)) × (List (List UInt8 × List UInt8 × Int × List (List UInt8 × List UInt8) × Bool × List UInt8 × List (List UInt8 × List UInt8)))) := Loop (fun z : List UInt8 × List UInt8 × Int × Bool × Int × Int × Int × Int × Bool × Bool × Int × Int × Int × Int × Int × Int × Int × Int × Int × Bool × Bool × Int × Int × Int × Bool × Bool × Bool × List UInt8 × (List (List UInt8 × List UInt8)) × List UInt8 × (List (List UInt8 × List UInt8)) × (List (List UInt8 × List UInt8 × Int × List (List UInt8 × List UInt8) × Bool × List UInt8 × List (List UInt8 × List UInt8))) × Int => t z.1 z.2.1 z.2.2.1 z.2.2.2.1 z.2.2.2.2.1 z.2.2.2.2.2.1 z.2.2.2.2.2.2.1 z.2.2.2.2.2.2.2.1 z.2.2.2.2.2.2.2.2.1 z.2.2.2.2.2.2.2.2.2.1 z.2.2.2.2.2.2.2.2.2.2.1 z.2.2.2.2.2.2.2.2.2.2.2.1 z.2.2.2.2.2.2.2.2.2.2.2.2.1 z.2.2.2.2.2.2.2.2.2.2.2.2.2.1 z.2.2.2.2.2.2.2.2.2.2.2.2.2.2.1 z.2.2.2.2.2.2.2.2.2.2.2.2.2.2.2.1 z.2.2.2.2.2.2.2.2.2.2.2.2.2.2.2.2.1 z.2.2.2.2.2.2.2.2.2.2.2.2.2.2.2.2.2.1 z.2.2.2.2.2.2.2.2.2.2.2.2.2.2.2.2.2.2.1 z.2.2.2.2.2.2.2.2.2.2.2.2.2.2.2.2.2.2.2.1 z.2.2.2.2.2.2.2.2.2.2.2.2.2.2.2.2.2.2.2.2.1 z.2.2.2.2.2.2.2.2.2.2.2.2.2.2.2.2.2.2.2.2.2.1 parts z.2.2.2.2.2.2.2.2.2.2.2.2.2.2.2.2.2.2.2.2.2.2.1 z.2.2.2.2.2.2.2.2.2.2.2.2.2.2.2.2.2.2.2.2.2.2.2.1 z.2.2.2.2.2.2.2.2.2.2.2.2.2.2.2.2.2.2.2.2.2.2.2.2.1 z.2.2.2.2.2.2.2.2.2.2.2.2.2.2.2.2.2.2.2.2.2.2.2.2.2.1 z.2.2.2.2.2.2.2.2.2.2.2.2.2.2.2.2.2.2.2.2.2.2.2.2.2.2.1 z.2.2.2.2.2.2.2.2.2.2.2.2.2.2.2.2.2.2.2.2.2.2.2.2.2.2.2.1 z.2.2.2.2.2.2.2.2.2.2.2.2.2.2.2.2.2.2.2.2.2.2.2.2.2.2.2.2.1 z.2.2.2.2.2.2.2.2.2.2.2.2.2.2.2.2.2.2.2.2.2.2.2.2.2.2.2.2.2.1 z.2.2.2.2.2.2.2.2.2.2.2.2.2.2.2.2.2.2.2.2.2.2.2.2.2.2.2.2.2.2.1 z.2.2.2.2.2.2.2.2.2.2.2.2.2.2.2.2.2.2.2.2.2.2.2.2.2.2.2.2.2.2.2.1 t18 t19 z.2.2.2.2.2.2.2.2.2.2.2.2.2.2.2.2.2.2.2.2.2.2.2.2.2.2.2.2.2.2.2.2) (Method, Target, Minor, Chunked, stage, lines, head, need, begun, waits, p, Line, Fields, Head, Body, Ext, Trailers, Wait, Idle, Chunked_2, Old, err, p_2, most, pending, over, bad, b, Fields_2, Body_2, Trailers_2, out_2, t20)
def F (x : D.den) : Option (List UInt8 × List UInt8 × Int × Bool × Int × Int × Int × Int × Bool × Bool × Int × Int × Int × Int × Int × Int × Int × Int × Int × Bool × Bool × Int × Int × Int × Bool × Bool × Bool × List UInt8 × (List (List UInt8 × List UInt8)) × List UInt8 × (List (List UInt8 × List UInt8)) × (List (List UInt8 × List UInt8 × Int × List (List UInt8 × List UInt8) × Bool × List UInt8 × List (List UInt8 × List UInt8)))) := f x.1.1.2.1 x.1.1.2.2.1 x.1.1.2.2.2.1 x.1.1.2.2.2.2.2.1 x.1.1.2.2.2.2.2.2.2.2.1 x.1.1.2.2.2.2.2.2.2.2.2.1 x.1.1.2.2.2.2.2.2.2.2.2.2.1 x.1.1.2.2.2.2.2.2.2.2.2.2.2.1 x.1.1.2.2.2.2.2.2.2.2.2.2.2.2.1 x.1.1.2.2.2.2.2.2.2.2.2.2.2.2.2.1 x.1.1.2.2.2.2.2.2.2.2.2.2.2.2.2.2.1 x.1.1.2.2.2.2.2.2.2.2.2.2.2.2.2.2.2.1 x.1.1.2.2.2.2.2.2.2.2.2.2.2.2.2.2.2.2.1 x.1.1.2.2.2.2.2.2.2.2.2.2.2.2.2.2.2.2.2.1 x.1.1.2.2.2.2.2.2.2.2.2.2.2.2.2.2.2.2.2.2.1 x.1.1.2.2.2.2.2.2.2.2.2.2.2.2.2.2.2.2.2.2.2.1 x.1.1.2.2.2.2.2.2.2.2.2.2.2.2.2.2.2.2.2.2.2.2.1 x.1.1.2.2.2.2.2.2.2.2.2.2.2.2.2.2.2.2.2.2.2.2.2.1 x.1.1.2.2.2.2.2.2.2.2.2.2.2.2.2.2.2.2.2.2.2.2.2.2.1 x.1.1.2.2.2.2.2.2.2.2.2.2.2.2.2.2.2.2.2.2.2.2.2.2.2.1 x.1.1.2.2.2.2.2.2.2.2.2.2.2.2.2.2.2.2.2.2.2.2.2.2.2.2.1 x.1.1.2.2.2.2.2.2.2.2.2.2.2.2.2.2.2.2.2.2.2.2.2.2.2.2.2.1 x.1.2.2.2.2.2.2.2.1 x.1.2.2.2.2.2.2.2.2.1.1 x.1.2.2.2.2.2.2.2.2.1.2.1 x.1.2.2.2.2.2.2.2.2.1.2.2.2.1 x.1.2.2.2.2.2.2.2.2.1.2.2.2.2.1 x.1.2.2.2.2.2.2.2.2.1.2.2.2.2.2 x.1.2.2.2.2.2.2.2.2.2.1 x.1.2.2.2.2.2.2.2.2.2.2.1 x.1.2.2.2.2.2.2.2.2.2.2.2.1 x.1.2.2.2.2.2.2.2.2.2.2.2.2.1 x.1.2.2.2.2.2.2.2.2.2.2.2.2.2.1 x.2.2.2.2.2.1 x.2.2.2.2.2.2.1 x.2.2.2.2.2.2.2
def pa : D.den → (List UInt8 × List UInt8 × Int × Bool × Int × Int × Int × Int × Bool × Bool × Int × Int × Int × Int × Int × Int × Int × Int × Int × Bool × Bool × Int × Int × Int × Bool × Bool × Bool × List UInt8 × (List (List UInt8 × List UInt8)) × List UInt8 × (List (List UInt8 × List UInt8)) × (List (List UInt8 × List UInt8 × Int × List (List UInt8 × List UInt8) × Bool × List UInt8 × List (List UInt8 × List UInt8)))) → A.den := fun (((_, (_, (_, (_, (_, (_, (_, (_, (_, (_, (_, (_, (_, (_, (_, (_, (_, (_, (_, (_, (_, (_, (_, (_, (_, (_, _)))))))))))))))))))))))))), (_, (_, (_, (_, (_, (out, (parts, ((_, (_, (_, (_, (_, _))))), (_, (_, (_, (_, (_, _)))))))))))))), (_, (_, (t13, (t14, (_, (_, _))))))) (y1, y2, y3, y4, y5, y6, y7, y8, y9, y10, y11, y12, y13, y14, y15, y16, y17, y18, y19, y20, y21, y22, y23, y24, y25, y26, y27, y28, y29, y30, y31, y32) => ((((), (y1, (y2, (y3, ((), (y4, ((), ((), (y5, (y6, (y7, (y8, (y9, (y10, (y11, (y12, (y13, (y14, (y15, (y16, (y17, (y18, (y19, (y20, (y21, (y22, ())))))))))))))))))))))))))), ((), ((), ((), ((), ((), (out, (parts, ((y23, (y24, ((), (y25, (y26, y27))))), (y28, (y29, (y30, (y31, (y32, ())))))))))))))), ((), ((), (t13, t14))))
def lap : Lap := tlap 6 33 [0, 12, 13, 14, 18, 19, 20] D (.exit 2) [0, 12, 13, 14] A pa F
def pk (x : D.den) (z : List UInt8 × List UInt8 × Int × Bool × Int × Int × Int × Int × Bool × Bool × Int × Int × Int × Int × Int × Int × Int × Int × Int × Bool × Bool × Int × Int × Int × Bool × Bool × Bool × List UInt8 × (List (List UInt8 × List UInt8)) × List UInt8 × (List (List UInt8 × List UInt8)) × (List (List UInt8 × List UInt8 × Int × List (List UInt8 × List UInt8) × Bool × List UInt8 × List (List UInt8 × List UInt8))) × Int) : D.den := ((((), (z.1, (z.2.1, (z.2.2.1, ((), (z.2.2.2.1, ((), ((), (z.2.2.2.2.1, (z.2.2.2.2.2.1, (z.2.2.2.2.2.2.1, (z.2.2.2.2.2.2.2.1, (z.2.2.2.2.2.2.2.2.1, (z.2.2.2.2.2.2.2.2.2.1, (z.2.2.2.2.2.2.2.2.2.2.1, (z.2.2.2.2.2.2.2.2.2.2.2.1, (z.2.2.2.2.2.2.2.2.2.2.2.2.1, (z.2.2.2.2.2.2.2.2.2.2.2.2.2.1, (z.2.2.2.2.2.2.2.2.2.2.2.2.2.2.1, (z.2.2.2.2.2.2.2.2.2.2.2.2.2.2.2.1, (z.2.2.2.2.2.2.2.2.2.2.2.2.2.2.2.2.1, (z.2.2.2.2.2.2.2.2.2.2.2.2.2.2.2.2.2.1, (z.2.2.2.2.2.2.2.2.2.2.2.2.2.2.2.2.2.2.1, (z.2.2.2.2.2.2.2.2.2.2.2.2.2.2.2.2.2.2.2.1, (z.2.2.2.2.2.2.2.2.2.2.2.2.2.2.2.2.2.2.2.2.1, (z.2.2.2.2.2.2.2.2.2.2.2.2.2.2.2.2.2.2.2.2.2.1, ())))))))))))))))))))))))))), ((), ((), ((), ((), ((), (x.1.2.2.2.2.2.2.1, (x.1.2.2.2.2.2.2.2.1, ((z.2.2.2.2.2.2.2.2.2.2.2.2.2.2.2.2.2.2.2.2.2.2.1, (z.2.2.2.2.2.2.2.2.2.2.2.2.2.2.2.2.2.2.2.2.2.2.2.1, ((), (z.2.2.2.2.2.2.2.2.2.2.2.2.2.2.2.2.2.2.2.2.2.2.2.2.1, (z.2.2.2.2.2.2.2.2.2.2.2.2.2.2.2.2.2.2.2.2.2.2.2.2.2.1, z.2.2.2.2.2.2.2.2.2.2.2.2.2.2.2.2.2.2.2.2.2.2.2.2.2.2.1))))), (z.2.2.2.2.2.2.2.2.2.2.2.2.2.2.2.2.2.2.2.2.2.2.2.2.2.2.2.1, (z.2.2.2.2.2.2.2.2.2.2.2.2.2.2.2.2.2.2.2.2.2.2.2.2.2.2.2.2.1, (z.2.2.2.2.2.2.2.2.2.2.2.2.2.2.2.2.2.2.2.2.2.2.2.2.2.2.2.2.2.1, (z.2.2.2.2.2.2.2.2.2.2.2.2.2.2.2.2.2.2.2.2.2.2.2.2.2.2.2.2.2.2.1, (z.2.2.2.2.2.2.2.2.2.2.2.2.2.2.2.2.2.2.2.2.2.2.2.2.2.2.2.2.2.2.2.1, ())))))))))))))), ((), ((), (x.2.2.2.1, (x.2.2.2.2.1, (x.2.2.2.2.2.1, (x.2.2.2.2.2.2.1, z.2.2.2.2.2.2.2.2.2.2.2.2.2.2.2.2.2.2.2.2.2.2.2.2.2.2.2.2.2.2.2.2)))))))
def un (x : D.den) : List UInt8 × List UInt8 × Int × Bool × Int × Int × Int × Int × Bool × Bool × Int × Int × Int × Int × Int × Int × Int × Int × Int × Bool × Bool × Int × Int × Int × Bool × Bool × Bool × List UInt8 × (List (List UInt8 × List UInt8)) × List UInt8 × (List (List UInt8 × List UInt8)) × (List (List UInt8 × List UInt8 × Int × List (List UInt8 × List UInt8) × Bool × List UInt8 × List (List UInt8 × List UInt8))) × Int := (x.1.1.2.1, x.1.1.2.2.1, x.1.1.2.2.2.1, x.1.1.2.2.2.2.2.1, x.1.1.2.2.2.2.2.2.2.2.1, x.1.1.2.2.2.2.2.2.2.2.2.1, x.1.1.2.2.2.2.2.2.2.2.2.2.1, x.1.1.2.2.2.2.2.2.2.2.2.2.2.1, x.1.1.2.2.2.2.2.2.2.2.2.2.2.2.1, x.1.1.2.2.2.2.2.2.2.2.2.2.2.2.2.1, x.1.1.2.2.2.2.2.2.2.2.2.2.2.2.2.2.1, x.1.1.2.2.2.2.2.2.2.2.2.2.2.2.2.2.2.1, x.1.1.2.2.2.2.2.2.2.2.2.2.2.2.2.2.2.2.1, x.1.1.2.2.2.2.2.2.2.2.2.2.2.2.2.2.2.2.2.1, x.1.1.2.2.2.2.2.2.2.2.2.2.2.2.2.2.2.2.2.2.1, x.1.1.2.2.2.2.2.2.2.2.2.2.2.2.2.2.2.2.2.2.2.1, x.1.1.2.2.2.2.2.2.2.2.2.2.2.2.2.2.2.2.2.2.2.2.1, x.1.1.2.2.2.2.2.2.2.2.2.2.2.2.2.2.2.2.2.2.2.2.2.1, x.1.1.2.2.2.2.2.2.2.2.2.2.2.2.2.2.2.2.2.2.2.2.2.2.1, x.1.1.2.2.2.2.2.2.2.2.2.2.2.2.2.2.2.2.2.2.2.2.2.2.2.1, x.1.1.2.2.2.2.2.2.2.2.2.2.2.2.2.2.2.2.2.2.2.2.2.2.2.2.1, x.1.1.2.2.2.2.2.2.2.2.2.2.2.2.2.2.2.2.2.2.2.2.2.2.2.2.2.1, x.1.2.2.2.2.2.2.2.2.1.1, x.1.2.2.2.2.2.2.2.2.1.2.1, x.1.2.2.2.2.2.2.2.2.1.2.2.2.1, x.1.2.2.2.2.2.2.2.2.1.2.2.2.2.1, x.1.2.2.2.2.2.2.2.2.1.2.2.2.2.2, x.1.2.2.2.2.2.2.2.2.2.1, x.1.2.2.2.2.2.2.2.2.2.2.1, x.1.2.2.2.2.2.2.2.2.2.2.2.1, x.1.2.2.2.2.2.2.2.2.2.2.2.2.1, x.1.2.2.2.2.2.2.2.2.2.2.2.2.2.1, x.2.2.2.2.2.2.2)
def body (x : D.den) (z : List UInt8 × List UInt8 × Int × Bool × Int × Int × Int × Int × Bool × Bool × Int × Int × Int × Int × Int × Int × Int × Int × Int × Bool × Bool × Int × Int × Int × Bool × Bool × Bool × List UInt8 × (List (List UInt8 × List UInt8)) × List UInt8 × (List (List UInt8 × List UInt8)) × (List (List UInt8 × List UInt8 × Int × List (List UInt8 × List UInt8) × Bool × List UInt8 × List (List UInt8 × List UInt8))) × Int) : Tr ((List UInt8 × List UInt8 × Int × Bool × Int × Int × Int × Int × Bool × Bool × Int × Int × Int × Int × Int × Int × Int × Int × Int × Bool × Bool × Int × Int × Int × Bool × Bool × Bool × List UInt8 × (List (List UInt8 × List UInt8)) × List UInt8 × (List (List UInt8 × List UInt8)) × (List (List UInt8 × List UInt8 × Int × List (List UInt8 × List UInt8) × Bool × List UInt8 × List (List UInt8 × List UInt8))) × Int) ⊕ (List UInt8 × List UInt8 × Int × Bool × Int × Int × Int × Int × Bool × Bool × Int × Int × Int × Int × Int × Int × Int × Int × Int × Bool × Bool × Int × Int × Int × Bool × Bool × Bool × List UInt8 × (List (List UInt8 × List UInt8)) × List UInt8 × (List (List UInt8 × List UInt8)) × (List (List UInt8 × List UInt8 × Int × List (List UInt8 × List UInt8) × Bool × List UInt8 × List (List UInt8 × List UInt8))))) := t z.1 z.2.1 z.2.2.1 z.2.2.2.1 z.2.2.2.2.1 z.2.2.2.2.2.1 z.2.2.2.2.2.2.1 z.2.2.2.2.2.2.2.1 z.2.2.2.2.2.2.2.2.1 z.2.2.2.2.2.2.2.2.2.1 z.2.2.2.2.2.2.2.2.2.2.1 z.2.2.2.2.2.2.2.2.2.2.2.1 z.2.2.2.2.2.2.2.2.2.2.2.2.1 z.2.2.2.2.2.2.2.2.2.2.2.2.2.1 z.2.2.2.2.2.2.2.2.2.2.2.2.2.2.1 z.2.2.2.2.2.2.2.2.2.2.2.2.2.2.2.1 z.2.2.2.2.2.2.2.2.2.2.2.2.2.2.2.2.1 z.2.2.2.2.2.2.2.2.2.2.2.2.2.2.2.2.2.1 z.2.2.2.2.2.2.2.2.2.2.2.2.2.2.2.2.2.2.1 z.2.2.2.2.2.2.2.2.2.2.2.2.2.2.2.2.2.2.2.1 z.2.2.2.2.2.2.2.2.2.2.2.2.2.2.2.2.2.2.2.2.1 z.2.2.2.2.2.2.2.2.2.2.2.2.2.2.2.2.2.2.2.2.2.1 x.1.2.2.2.2.2.2.2.1 z.2.2.2.2.2.2.2.2.2.2.2.2.2.2.2.2.2.2.2.2.2.2.1 z.2.2.2.2.2.2.2.2.2.2.2.2.2.2.2.2.2.2.2.2.2.2.2.1 z.2.2.2.2.2.2.2.2.2.2.2.2.2.2.2.2.2.2.2.2.2.2.2.2.1 z.2.2.2.2.2.2.2.2.2.2.2.2.2.2.2.2.2.2.2.2.2.2.2.2.2.1 z.2.2.2.2.2.2.2.2.2.2.2.2.2.2.2.2.2.2.2.2.2.2.2.2.2.2.1 z.2.2.2.2.2.2.2.2.2.2.2.2.2.2.2.2.2.2.2.2.2.2.2.2.2.2.2.1 z.2.2.2.2.2.2.2.2.2.2.2.2.2.2.2.2.2.2.2.2.2.2.2.2.2.2.2.2.1 z.2.2.2.2.2.2.2.2.2.2.2.2.2.2.2.2.2.2.2.2.2.2.2.2.2.2.2.2.2.1 z.2.2.2.2.2.2.2.2.2.2.2.2.2.2.2.2.2.2.2.2.2.2.2.2.2.2.2.2.2.2.1 z.2.2.2.2.2.2.2.2.2.2.2.2.2.2.2.2.2.2.2.2.2.2.2.2.2.2.2.2.2.2.2.1 x.2.2.2.2.2.1 x.2.2.2.2.2.2.1 z.2.2.2.2.2.2.2.2.2.2.2.2.2.2.2.2.2.2.2.2.2.2.2.2.2.2.2.2.2.2.2.2
theorem ok : LapOk Tryz.prog 8 (codeOf Tryz.prog 22) lap := tlap_ok Base.mixed Base.prog_ok bk_parser_Parser_long_ok (by kernel_rfl) (by kernel_rfl) LapsOk.nil 9 pk un body (fun _ _ => rfl) (fun _ _ => rfl) (fun _ _ => rfl) (fun _ => rfl) fun _ _ _ _ => (by kernel_rfl)
end L6
namespace L3
def D : Dom := parser_Parser_Feed.L6.A
def A : Dom := ⟨[.cells (.cat (.ptr 8 0 0 0) (.cat .str (.cat .str (.cat (.int .i64) (.cat (.sl 10 2) (.cat .bool (.cat (.sl 11 1) (.cat (.sl 12 2) (.cat (.int .i64) (.cat (.int .i64) (.cat (.int .i64) (.cat (.int .i64) (.cat .bool (.cat .bool (.cat (.int .u32) (.cat (.int .i64) (.cat (.int .i64) (.cat (.int .i64) (.cat (.int .i64) (.cat (.int .i64) (.cat (.int .i64) (.cat (.int .i64) (.cat (.int .i64) (.cat .bool (.cat .bool (.cat (.int .i64) (.sl 13 7))))))))))))))))))))))))))) 84 false, .dead, .dead, .dead, .dead, .dead, .vec (.pair .str (.pair .str (.pair (.int .i64) (.pair (.sl (.pair .str .str)) (.pair .bool (.pair (.sl .byte) (.sl (.pair .str .str)))))))) 47 false, .vec (.sl .byte) 22 true, .cells (.cat (.int .u32) (.cat (.int .i64) (.cat (.sl 9 1) (.cat .bool (.cat .bool .bool))))) 110 false, .vec .byte 5 false, .vec (.pair .str .str) 72 false, .vec .byte 5 false, .vec (.pair .str .str) 72 false, .vec (.pair .str (.pair .str (.pair (.int .i64) (.pair (.sl (.pair .str .str)) (.pair .bool (.pair (.sl .byte) (.sl (.pair .str .str)))))))) 47 false], (.ptr 0 0 0 0)⟩
def sel : List Nat := [0, 1, 2, 3, 4, 5, 6, 7, 8, 9, 10, 11, 12, 13, 14, 15, 16, 17, 18, 19, 20, 21, 23, 24, 25, 26, 27, 28, 29, 30, 31, 32, 33, 34, 35]
def t (Method : List UInt8) (Target : List UInt8) (Minor : Int) (Chunked : Bool) (stage : Int) (lines : Int) (head : Int) (need : Int) (begun : Bool) (waits : Bool) (p : Int) (Line : Int) (Fields : Int) (Head : Int) (Body : Int) (Ext : Int) (Trailers : Int) (Wait : Int) (Idle : Int) (Chunked_2 : Bool) (Old : Bool) (err : Int) (parts : List (List UInt8)) (p_2 : Int) (most : Int) (pending : Bool) (over : Bool) (bad : Bool) (b : List UInt8) (Fields_2 : List (List UInt8 × List UInt8)) (Body_2 : List UInt8) (Trailers_2 : List (List UInt8 × List UInt8)) (out_2 : List (List UInt8 × List UInt8 × Int × List (List UInt8 × List UInt8) × Bool × List UInt8 × List (List UInt8 × List UInt8))) (t13 : Int) (t14 : Int) : Tr ((List UInt8 × List UInt8 × Int × Bool × Int × Int × Int × Int × Bool × Bool × Int × Int × Int × Int × Int × Int × Int × Int × Int × Bool × Bool × Int × Int × Int × Bool × Bool × Bool × List UInt8 × (List (List UInt8 × List UInt8)) × List UInt8 × (List (List UInt8 × List UInt8)) × (List (List UInt8 × List UInt8 × Int × List (List UInt8 × List UInt8) × Bool × List UInt8 × List (List UInt8 × List UInt8))) × Int) ⊕ (List UInt8 × List UInt8 × Int × Bool × Int × Int × Int × Int × Bool × Bool × Int × Int × Int × Int × Int × Int × Int × Int × Int × Bool × Bool × Int × Int × Int × Bool × Bool × Bool × List UInt8 × (List (List UInt8 × List UInt8)) × List UInt8 × (List (List UInt8 × List UInt8)) × (List (List UInt8 × List UInt8 × Int × List (List UInt8 × List UInt8) × Bool × List UInt8 × List (List UInt8 × List UInt8))))) :=
 .br (decide (t14 < t13)) (.chk ((0 : Int) ≤ t14 ∧ t14 < (↑parts.length : Int)) <| .chk ((0 : Nat) + t14.toNat < parts.length) <| .okl parts.length <| .okl b.length <| .okl Fields_2.length <| .okl Body_2.length <| .okl Trailers_2.length <| .okl out_2.length <| .call (parser_Parser_Feed.L6.f Method Target Minor Chunked stage lines head need begun waits p Line Fields Head Body Ext Trailers Wait Idle Chunked_2 Old err parts p_2 most pending over bad b Fields_2 Body_2 Trailers_2 out_2 (parts.getD ((0 : Nat) + t14.toNat) []) (↑(List.length (parts.getD ((0 : Nat) + t14.toNat) [])) : Int) (0 : Int)) fun (y1a, y1b, y1c, y1d, y1e, y1f, y1g, y1h, y1i, y1j, y1k, y1l, y1m, y1n, y1o, y1p, y1q, y1r, y1s, y1t, y1u, y1v, y1w, y1x, y1y, y1z, y1aa, y1ab, y1ac, y1ad, y1ae, y1af) =>
  .okl parts.length <| .okl y1ab.length <| .okl y1ac.length <| .okl y1ad.length <| .okl y1ae.length <| .okl y1af.length <| .ret (.inl (y1a, y1b, y1c, y1d, y1e, y1f, y1g, y1h, y1i, y1j, y1k, y1l, y1m, y1n, y1o, y1p, y1q, y1r, y1s, y1t, y1u, y1v, y1w, y1x, y1y, y1z, y1aa, y1ab, y1ac, y1ad, y1ae, y1af, IntKind.i64.wrap (t14 + (1 : Int)))))
 (.okl b.length <| .okl Fields_2.length <| .okl Body_2.length <| .okl Trailers_2.length <| .okl out_2.length <| .ret (.inr (Method, Target, Minor, Chunked, stage, lines, head, need, begun, waits, p, Line, Fields, Head, Body, Ext, Trailers, Wait, Idle, Chunked_2, Old, err, p_2, most, pending, over, bad, b, Fields_2, Body_2, Trailers_2, out_2)))
def f (Method : List UInt8) (Target : List UInt8) (Minor : Int) (Chunked : Bool) (stage : Int) (lines : Int) (head : Int) (need : Int) (begun : Bool) (waits : Bool) (p : Int) (Line : Int) (Fields : Int) (Head : Int) (Body : Int) (Ext : Int) (Trailers : Int) (Wait : Int) (Idle : Int) (Chunked_2 : Bool) (Old : Bool) (err : Int) (parts : List (List UInt8)) (p_2 : Int) (most : Int) (pending : Bool) (over : Bool) (bad : Bool) (b : List UInt8) (Fields_2 : List (List UInt8 × List UInt8)) (Body_2 : List UInt8) (Trailers_2 : List (List UInt8 × List UInt8)) (out_2 : List (List UInt8 × List UInt8 × Int × List (List UInt8 × List UInt8) × Bool × List UInt8 × List (List UInt8 × List UInt8))) (t13 : Int) (t14 : Int) : Option (List UInt8 × List UInt8 × Int × Bool × Int × Int × Int × Int × Bool × Bool × Int × Int × Int × Int × Int × Int × Int × Int × Int × Bool × Bool × Int × Int × Int × Bool × Bool × Bool × List UInt8 × (List (List UInt8 × List UInt8)) × List UInt8 × (List (List UInt8 × List UInt8)) × (List (List UInt8 × List UInt8 × Int × List (List UInt8 × List UInt8) × Bool × List UInt8 × List (List UInt8 × List UInt8)))) := Loop (fun z : List UInt8 × List UInt8 × Int × Bool × Int × Int × Int × Int × Bool × Bool × Int × Int × Int × Int × Int × Int × Int × Int × Int × Bool × Bool × Int × Int × Int × Bool × Bool × Bool × List UInt8 × (List (List UInt8 × List UInt8)) × List UInt8 × (List (List UInt8 × List UInt8)) × (List (List UInt8 × List UInt8 × Int × List (List UInt8 × List UInt8) × Bool × List UInt8 × List (List UInt8 × List UInt8))) × Int => t z.1 z.2.1 z.2.2.1 z.2.2.2.1 z.2.2.2.2.1 z.2.2.2.2.2.1 z.2.2.2.2.2.2.1 z.2.2.2.2.2.2.2.1 z.2.2.2.2.2.2.2.2.1 z.2.2.2.2.2.2.2.2.2.1 z.2.2.2.2.2.2.2.2.2.2.1 z.2.2.2.2.2.2.2.2.2.2.2.1 z.2.2.2.2.2.2.2.2.2.2.2.2.1 z.2.2.2.2.2.2.2.2.2.2.2.2.2.1 z.2.2.2.2.2.2.2.2.2.2.2.2.2.2.1 z.2.2.2.2.2.2.2.2.2.2.2.2.2.2.2.1 z.2.2.2.2.2.2.2.2.2.2.2.2.2.2.2.2.1 z.2.2.2.2.2.2.2.2.2.2.2.2.2.2.2.2.2.1 z.2.2.2.2.2.2.2.2.2.2.2.2.2.2.2.2.2.2.1 z.2.2.2.2.2.2.2.2.2.2.2.2.2.2.2.2.2.2.2.1 z.2.2.2.2.2.2.2.2.2.2.2.2.2.2.2.2.2.2.2.2.1 z.2.2.2.2.2.2.2.2.2.2.2.2.2.2.2.2.2.2.2.2.2.1 parts z.2.2.2.2.2.2.2.2.2.2.2.2.2.2.2.2.2.2.2.2.2.2.1 z.2.2.2.2.2.2.2.2.2.2.2.2.2.2.2.2.2.2.2.2.2.2.2.1 z.2.2.2.2.2.2.2.2.2.2.2.2.2.2.2.2.2.2.2.2.2.2.2.2.1 z.2.2.2.2.2.2.2.2.2.2.2.2.2.2.2.2.2.2.2.2.2.2.2.2.2.1 z.2.2.2.2.2.2.2.2.2.2.2.2.2.2.2.2.2.2.2.2.2.2.2.2.2.2.1 z.2.2.2.2.2.2.2.2.2.2.2.2.2.2.2.2.2.2.2.2.2.2.2.2.2.2.2.1 z.2.2.2.2.2.2.2.2.2.2.2.2.2.2.2.2.2.2.2.2.2.2.2.2.2.2.2.2.1 z.2.2.2.2.2.2.2.2.2.2.2.2.2.2.2.2.2.2.2.2.2.2.2.2.2.2.2.2.2.1 z.2.2.2.2.2.2.2.2.2.2.2.2.2.2.2.2.2.2.2.2.2.2.2.2.2.2.2.2.2.2.1 z.2.2.2.2.2.2.2.2.2.2.2.2.2.2.2.2.2.2.2.2.2.2.2.2.2.2.2.2.2.2.2.1 t13 z.2.2.2.2.2.2.2.2.2.2.2.2.2.2.2.2.2.2.2.2.2.2.2.2.2.2.2.2.2.2.2.2) (Method, Target, Minor, Chunked, stage, lines, head, need, begun, waits, p, Line, Fields, Head, Body, Ext, Trailers, Wait, Idle, Chunked_2, Old, err, p_2, most, pending, over, bad, b, Fields_2, Body_2, Trailers_2, out_2, t14)
def F (x : D.den) : Option (List UInt8 × List UInt8 × Int × Bool × Int × Int × Int × Int × Bool × Bool × Int × Int × Int × Int × Int × Int × Int × Int × Int × Bool × Bool × Int × Int × Int × Bool × Bool × Bool × List UInt8 × (List (List UInt8 × List UInt8)) × List UInt8 × (List (List UInt8 × List UInt8)) × (List (List UInt8 × List UInt8 × Int × List (List UInt8 × List UInt8) × Bool × List UInt8 × List (List UInt8 × List UInt8)))) := f x.1.1.2.1 x.1.1.2.2.1 x.1.1.2.2.2.1 x.1.1.2.2.2.2.2.1 x.1.1.2.2.2.2.2.2.2.2.1 x.1.1.2.2.2.2.2.2.2.2.2.1 x.1.1.2.2.2.2.2.2.2.2.2.2.1 x.1.1.2.2.2.2.2.2.2.2.2.2.2.1 x.1.1.2.2.2.2.2.2.2.2.2.2.2.2.1 x.1.1.2.2.2.2.2.2.2.2.2.2.2.2.2.1 x.1.1.2.2.2.2.2.2.2.2.2.2.2.2.2.2.1 x.1.1.2.2.2.2.2.2.2.2.2.2.2.2.2.2.2.1 x.1.1.2.2.2.2.2.2.2.2.2.2.2.2.2.2.2.2.1 x.1.1.2.2.2.2.2.2.2.2.2.2.2.2.2.2.2.2.2.1 x.1.1.2.2.2.2.2.2.2.2.2.2.2.2.2.2.2.2.2.2.1 x.1.1.2.2.2.2.2.2.2.2.2.2.2.2.2.2.2.2.2.2.2.1 x.1.1.2.2.2.2.2.2.2.2.2.2.2.2.2.2.2.2.2.2.2.2.1 x.1.1.2.2.2.2.2.2.2.2.2.2.2.2.2.2.2.2.2.2.2.2.2.1 x.1.1.2.2.2.2.2.2.2.2.2.2.2.2.2.2.2.2.2.2.2.2.2.2.1 x.1.1.2.2.2.2.2.2.2.2.2.2.2.2.2.2.2.2.2.2.2.2.2.2.2.1 x.1.1.2.2.2.2.2.2.2.2.2.2.2.2.2.2.2.2.2.2.2.2.2.2.2.2.1 x.1.1.2.2.2.2.2.2.2.2.2.2.2.2.2.2.2.2.2.2.2.2.2.2.2.2.2.1 x.1.2.2.2.2.2.2.2.1 x.1.2.2.2.2.2.2.2.2.1.1 x.1.2.2.2.2.2.2.2.2.1.2.1 x.1.2.2.2.2.2.2.2.2.1.2.2.2.1 x.1.2.2.2.2.2.2.2.2.1.2.2.2.2.1 x.1.2.2.2.2.2.2.2.2.1.2.2.2.2.2 x.1.2.2.2.2.2.2.2.2.2.1 x.1.2.2.2.2.2.2.2.2.2.2.1 x.1.2.2.2.2.2.2.2.2.2.2.2.1 x.1.2.2.2.2.2.2.2.2.2.2.2.2.1 x.1.2.2.2.2.2.2.2.2.2.2.2.2.2.1 x.2.2.2.1 x.2.2.2.2
def pa : D.den → (List UInt8 × List UInt8 × Int × Bool × Int × Int × Int × Int × Bool × Bool × Int × Int × Int × Int × Int × Int × Int × Int × Int × Bool × Bool × Int × Int × Int × Bool × Bool × Bool × List UInt8 × (List (List UInt8 × List UInt8)) × List UInt8 × (List (List UInt8 × List UInt8)) × (List (List UInt8 × List UInt8 × Int × List (List UInt8 × List UInt8) × Bool × List UInt8 × List (List UInt8 × List UInt8)))) → A.den := fun (((_, (_, (_, (_, (_, (_, (_, (_, (_, (_, (_, (_, (_, (_, (_, (_, (_, (_, (_, (_, (_, (_, (_, (_, (_, (_, _)))))))))))))))))))))))))), (_, (_, (_, (_, (_, (out, (parts, ((_, (_, (_, (_, (_, _))))), (_, (_, (_, (_, (_, _)))))))))))))), (_, (_, (_, _)))) (y1, y2, y3, y4, y5, y6, y7, y8, y9, y10, y11, y12, y13, y14, y15, y16, y17, y18, y19, y20, y21, y22, y23, y24, y25, y26, y27, y28, y29, y30, y31, y32) => ((((), (y1, (y2, (y3, ((), (y4, ((), ((), (y5, (y6, (y7, (y8, (y9, (y10, (y11, (y12, (y13, (y14, (y15, (y16, (y17, (y18, (y19, (y20, (y21, (y22, ())))))))))))))))))))))))))), ((), ((), ((), ((), ((), (out, (parts, ((y23, (y24, ((), (y25, (y26, y27))))), (y28, (y29, (y30, (y31, (y32, ())))))))))))))), ())
def lap : Lap := tlap 3 33 [0, 12, 13, 14] D (.exit 0) [0] A pa F
def pk (x : D.den) (z : List UInt8 × List UInt8 × Int × Bool × Int × Int × Int × Int × Bool × Bool × Int × Int × Int × Int × Int × Int × Int × Int × Int × Bool × Bool × Int × Int × Int × Bool × Bool × Bool × List UInt8 × (List (List UInt8 × List UInt8)) × List UInt8 × (List (List UInt8 × List UInt8)) × (List (List UInt8 × List UInt8 × Int × List (List UInt8 × List UInt8) × Bool × List UInt8 × List (List UInt8 × List UInt8))) × Int) : D.den := ((((), (z.1, (z.2.1, (z.2.2.1, ((), (z.2.2.2.1, ((), ((), (z.2.2.2.2.1, (z.2.2.2.2.2.1, (z.2.2.2.2.2.2.1, (z.2.2.2.2.2.2.2.1, (z.2.2.2.2.2.2.2.2.1, (z.2.2.2.2.2.2.2.2.2.1, (z.2.2.2.2.2.2.2.2.2.2.1, (z.2.2.2.2.2.2.2.2.2.2.2.1, (z.2.2.2.2.2.2.2.2.2.2.2.2.1, (z.2.2.2.2.2.2.2.2.2.2.2.2.2.1, (z.2.2.2.2.2.2.2.2.2.2.2.2.2.2.1, (z.2.2.2.2.2.2.2.2.2.2.2.2.2.2.2.1, (z.2.2.2.2.2.2.2.2.2.2.2.2.2.2.2.2.1, (z.2.2.2.2.2.2.2.2.2.2.2.2.2.2.2.2.2.1, (z.2.2.2.2.2.2.2.2.2.2.2.2.2.2.2.2.2.2.1, (z.2.2.2.2.2.2.2.2.2.2.2.2.2.2.2.2.2.2.2.1, (z.2.2.2.2.2.2.2.2.2.2.2.2.2.2.2.2.2.2.2.2.1, (z.2.2.2.2.2.2.2.2.2.2.2.2.2.2.2.2.2.2.2.2.2.1, ())))))))))))))))))))))))))), ((), ((), ((), ((), ((), (x.1.2.2.2.2.2.2.1, (x.1.2.2.2.2.2.2.2.1, ((z.2.2.2.2.2.2.2.2.2.2.2.2.2.2.2.2.2.2.2.2.2.2.1, (z.2.2.2.2.2.2.2.2.2.2.2.2.2.2.2.2.2.2.2.2.2.2.2.1, ((), (z.2.2.2.2.2.2.2.2.2.2.2.2.2.2.2.2.2.2.2.2.2.2.2.2.1, (z.2.2.2.2.2.2.2.2.2.2.2.2.2.2.2.2.2.2.2.2.2.2.2.2.2.1, z.2.2.2.2.2.2.2.2.2.2.2.2.2.2.2.2.2.2.2.2.2.2.2.2.2.2.1))))), (z.2.2.2.2.2.2.2.2.2.2.2.2.2.2.2.2.2.2.2.2.2.2.2.2.2.2.2.1, (z.2.2.2.2.2.2.2.2.2.2.2.2.2.2.2.2.2.2.2.2.2.2.2.2.2.2.2.2.1, (z.2.2.2.2.2.2.2.2.2.2.2.2.2.2.2.2.2.2.2.2.2.2.2.2.2.2.2.2.2.1, (z.2.2.2.2.2.2.2.2.2.2.2.2.2.2.2.2.2.2.2.2.2.2.2.2.2.2.2.2.2.2.1, (z.2.2.2.2.2.2.2.2.2.2.2.2.2.2.2.2.2.2.2.2.2.2.2.2.2.2.2.2.2.2.2.1, ())))))))))))))), ((), ((), (x.2.2.2.1, z.2.2.2.2.2.2.2.2.2.2.2.2.2.2.2.2.2.2.2.2.2.2.2.2.2.2.2.2.2.2.2.2))))
def un (x : D.den) : List UInt8 × List UInt8 × Int × Bool × Int × Int × Int × Int × Bool × Bool × Int × Int × Int × Int × Int × Int × Int × Int × Int × Bool × Bool × Int × Int × Int × Bool × Bool × Bool × List UInt8 × (List (List UInt8 × List UInt8)) × List UInt8 × (List (List UInt8 × List UInt8)) × (List (List UInt8 × List UInt8 × Int × List (List UInt8 × List UInt8) × Bool × List UInt8 × List (List UInt8 × List UInt8))) × Int := (x.1.1.2.1, x.1.1.2.2.1, x.1.1.2.2.2.1, x.1.1.2.2.2.2.2.1, x.1.1.2.2.2.2.2.2.2.2.1, x.1.1.2.2.2.2.2.2.2.2.2.1, x.1.1.2.2.2.2.2.2.2.2.2.2.1, x.1.1.2.2.2.2.2.2.2.2.2.2.2.1, x.1.1.2.2.2.2.2.2.2.2.2.2.2.2.1, x.1.1.2.2.2.2.2.2.2.2.2.2.2.2.2.1, x.1.1.2.2.2.2.2.2.2.2.2.2.2.2.2.2.1, x.1.1.2.2.2.2.2.2.2.2.2.2.2.2.2.2.2.1, x.1.1.2.2.2.2.2.2.2.2.2.2.2.2.2.2.2.2.1, x.1.1.2.2.2.2.2.2.2.2.2.2.2.2.2.2.2.2.2.1, x.1.1.2.2.2.2.2.2.2.2.2.2.2.2.2.2.2.2.2.2.1, x.1.1.2.2.2.2.2.2.2.2.2.2.2.2.2.2.2.2.2.2.2.1, x.1.1.2.2.2.2.2.2.2.2.2.2.2.2.2.2.2.2.2.2.2.2.1, x.1.1.2.2.2.2.2.2.2.2.2.2.2.2.2.2.2.2.2.2.2.2.2.1, x.1.1.2.2.2.2.2.2.2.2.2.2.2.2.2.2.2.2.2.2.2.2.2.2.1, x.1.1.2.2.2.2.2.2.2.2.2.2.2.2.2.2.2.2.2.2.2.2.2.2.2.1, x.1.1.2.2.2.2.2.2.2.2.2.2.2.2.2.2.2.2.2.2.2.2.2.2.2.2.1, x.1.1.2.2.2.2.2.2.2.2.2.2.2.2.2.2.2.2.2.2.2.2.2.2.2.2.2.1, x.1.2.2.2.2.2.2.2.2.1.1, x.1.2.2.2.2.2.2.2.2.1.2.1, x.1.2.2.2.2.2.2.2.2.1.2.2.2.1, x.1.2.2.2.2.2.2.2.2.1.2.2.2.2.1, x.1.2.2.2.2.2.2.2.2.1.2.2.2.2.2, x.1.2.2.2.2.2.2.2.2.2.1, x.1.2.2.2.2.2.2.2.2.2.2.1, x.1.2.2.2.2.2.2.2.2.2.2.2.1, x.1.2.2.2.2.2.2.2.2.2.2.2.2.1, x.1.2.2.2.2.2.2.2.2.2.2.2.2.2.1, x.2.2.2.2)
def body (x : D.den) (z : List UInt8 × List UInt8 × Int × Bool × Int × Int × Int × Int × Bool × Bool × Int × Int × Int × Int × Int × Int × Int × Int × Int × Bool × Bool × Int × Int × Int × Bool × Bool × Bool × List UInt8 × (List (List UInt8 × List UInt8)) × List UInt8 × (List (List UInt8 × List UInt8)) × (List (List UInt8 × List UInt8 × Int × List (List UInt8 × List UInt8) × Bool × List UInt8 × List (List UInt8 × List UInt8))) × Int) : Tr ((List UInt8 × List UInt8 × Int × Bool × Int × Int × Int × Int × Bool × Bool × Int × Int × Int × Int × Int × Int × Int × Int × Int × Bool × Bool × Int × Int × Int × Bool × Bool × Bool × List UInt8 × (List (List UInt8 × List UInt8)) × List UInt8 × (List (List UInt8 × List UInt8)) × (List (List UInt8 × List UInt8 × Int × List (List UInt8 × List UInt8) × Bool × List UInt8 × List (List UInt8 × List UInt8))) × Int) ⊕ (List UInt8 × List UInt8 × Int × Bool × Int × Int × Int × Int × Bool × Bool × Int × Int × Int × Int × Int × Int × Int × Int × Int × Bool × Bool × Int × Int × Int × Bool × Bool × Bool × List UInt8 × (List (List UInt8 × List UInt8)) × List UInt8 × (List (List UInt8 × List UInt8)) × (List (List UInt8 × List UInt8 × Int × List (List UInt8 × List UInt8) × Bool × List UInt8 × List (List UInt8 × List UInt8))))) := t z.1 z.2.1 z.2.2.1 z.2.2.2.1 z.2.2.2.2.1 z.2.2.2.2.2.1 z.2.2.2.2.2.2.1 z.2.2.2.2.2.2.2.1 z.2.2.2.2.2.2.2.2.1 z.2.2.2.2.2.2.2.2.2.1 z.2.2.2.2.2.2.2.2.2.2.1 z.2.2.2.2.2.2.2.2.2.2.2.1 z.2.2.2.2.2.2.2.2.2.2.2.2.1 z.2.2.2.2.2.2.2.2.2.2.2.2.2.1 z.2.2.2.2.2.2.2.2.2.2.2.2.2.2.1 z.2.2.2.2.2.2.2.2.2.2.2.2.2.2.2.1 z.2.2.2.2.2.2.2.2.2.2.2.2.2.2.2.2.1 z.2.2.2.2.2.2.2.2.2.2.2.2.2.2.2.2.2.1 z.2.2.2.2.2.2.2.2.2.2.2.2.2.2.2.2.2.2.1 z.2.2.2.2.2.2.2.2.2.2.2.2.2.2.2.2.2.2.2.1 z.2.2.2.2.2.2.2.2.2.2.2.2.2.2.2.2.2.2.2.2.1 z.2.2.2.2.2.2.2.2.2.2.2.2.2.2.2.2.2.2.2.2.2.1 x.1.2.2.2.2.2.2.2.1 z.2.2.2.2.2.2.2.2.2.2.2.2.2.2.2.2.2.2.2.2.2.2.1 z.2.2.2.2.2.2.2.2.2.2.2.2.2.2.2.2.2.2.2.2.2.2.2.1 z.2.2.2.2.2.2.2.2.2.2.2.2.2.2.2.2.2.2.2.2.2.2.2.2.1 z.2.2.2.2.2.2.2.2.2.2.2.2.2.2.2.2.2.2.2.2.2.2.2.2.2.1 z.2.2.2.2.2.2.2.2.2.2.2.2.2.2.2.2.2.2.2.2.2.2.2.2.2.2.1 z.2.2.2.2.2.2.2.2.2.2.2.2.2.2.2.2.2.2.2.2.2.2.2.2.2.2.2.1 z.2.2.2.2.2.2.2.2.2.2.2.2.2.2.2.2.2.2.2.2.2.2.2.2.2.2.2.2.1 z.2.2.2.2.2.2.2.2.2.2.2.2.2.2.2.2.2.2.2.2.2.2.2.2.2.2.2.2.2.1 z.2.2.2.2.2.2.2.2.2.2.2.2.2.2.2.2.2.2.2.2.2.2.2.2.2.2.2.2.2.2.1 z.2.2.2.2.2.2.2.2.2.2.2.2.2.2.2.2.2.2.2.2.2.2.2.2.2.2.2.2.2.2.2.1 x.2.2.2.1 z.2.2.2.2.2.2.2.2.2.2.2.2.2.2.2.2.2.2.2.2.2.2.2.2.2.2.2.2.2.2.2.2
theorem ok : LapOk Tryz.prog 8 (codeOf Tryz.prog 22) lap := tlap_ok Base.mixed Base.prog_ok bk_parser_Parser_long_ok (by kernel_rfl) (by kernel_rfl) (.cons L6.ok (by kernel_rfl) (.nil)) 9 pk un body (fun _ _ => rfl) (fun _ _ => rfl) (fun _ _ => rfl) (fun _ => rfl) fun _ _ _ _ => (by kernel_rfl)
end L3
def A : Dom := ⟨[.cells (.cat (.ptr 9 0 0 0) (.cat .str (.cat .str (.cat (.int .i64) (.cat (.sl 11 2) (.cat .bool (.cat (.sl 12 1) (.cat (.sl 13 2) (.cat (.int .i64) (.cat (.int .i64) (.cat (.int .i64) (.cat (.int .i64) (.cat .bool (.cat .bool (.cat (.int .u32) (.cat (.int .i64) (.cat (.int .i64) (.cat (.int .i64) (.cat (.int .i64) (.cat (.int .i64) (.cat (.int .i64) (.cat (.int .i64) (.cat (.int .i64) (.cat .bool (.cat .bool (.cat (.int .i64) (.sl 8 7))))))))))))))))))))))))))) 84 false, .dead, .dead, .dead, .dead, .dead, .vec (.pair .str (.pair .str (.pair (.int .i64) (.pair (.sl (.pair .str .str)) (.pair .bool (.pair (.sl .byte) (.sl (.pair .str .str)))))))) 47 false, .vec (.sl .byte) 22 true, .vec (.pair .str (.pair .str (.pair (.int .i64) (.pair (.sl (.pair .str .str)) (.pair .bool (.pair (.sl .byte) (.sl (.pair .str .str)))))))) 47 false, .cells (.cat (.int .u32) (.cat (.int .i64) (.cat (.sl 10 1) (.cat .bool (.cat .bool .bool))))) 110 false, .vec .byte 5 false, .vec (.pair .str .str) 72 false, .vec .byte 5 false, .vec (.pair .str .str) 72 false], (.sl 8 7)⟩
def sel : List Nat := [0, 1, 2, 3, 4, 5, 6, 7, 8, 9, 10, 11, 12, 13, 14, 15, 16, 17, 18, 19, 20, 21, 22, 23, 24, 25, 26, 27, 28, 29, 30, 32]
def t (Method : List UInt8) (Target : List UInt8) (Minor : Int) (Chunked : Bool) (stage : Int) (lines : Int) (head : Int) (need : Int) (begun : Bool) (waits : Bool) (p : Int) (Line : Int) (Fields : Int) (Head : Int) (Body : Int) (Ext : Int) (Trailers : Int) (Wait : Int) (Idle : Int) (Chunked_2 : Bool) (Old : Bool) (err : Int) (p_2 : Int) (most : Int) (pending : Bool) (over : Bool) (bad : Bool) (b : List UInt8) (Fields_2 : List (List UInt8 × List UInt8)) (Body_2 : List UInt8) (Trailers_2 : List (List UInt8 × List UInt8)) (parts : List (List UInt8)) : Tr (List UInt8 × List UInt8 × Int × Bool × Int × Int × Int × Int × Bool × Bool × Int × Int × Int × Int × Int × Int × Int × Int × Int × Bool × Bool × Int × (List (List UInt8 × List UInt8 × Int × List (List UInt8 × List UInt8) × Bool × List UInt8 × List (List UInt8 × List UInt8))) × Int × Int × Bool × Bool × Bool × List UInt8 × (List (List UInt8 × List UInt8)) × List UInt8 × (List (List UInt8 × List UInt8))) :=
 .okl parts.length <| .okl b.length <| .okl Fields_2.length <| .okl Body_2.length <| .okl Trailers_2.length <| .call (parser_Parser_Feed.L3.f Method Target Minor Chunked stage lines head need begun waits p Line Fields Head Body Ext Trailers Wait Idle Chunked_2 Old err parts p_2 most pending over bad b Fields_2 Body_2 Trailers_2 [] (↑parts.length : Int) (0 : Int)) fun (y1a, y1b, y1c, y1d, y1e, y1f, y1g, y1h, y1i, y1j, y1k, y1l, y1m, y1n, y1o, y1p, y1q, y1r, y1s, y1t, y1u, y1v, y1w, y1x, y1y, y1z, y1aa, y1ab, y1ac, y1ad, y1ae, y1af) =>
 .okl y1af.length <| .okl y1af.length <| .okl y1ab.length <| .okl y1ac.length <| .okl y1ad.length <| .okl y1ae.length <| .ret (y1a, y1b, y1c, y1d, y1e, y1f, y1g, y1h, y1i, y1j, y1k, y1l, y1m, y1n, y1o, y1p, y1q, y1r, y1s, y1t, y1u, y1v, y1af, y1w, y1x, y1y, y1z, y1aa, y1ab, y1ac, y1ad, y1ae)
def f (Method : List UInt8) (Target : List UInt8) (Minor : Int) (Chunked : Bool) (stage : Int) (lines : Int) (head : Int) (need : Int) (begun : Bool) (waits : Bool) (p : Int) (Line : Int) (Fields : Int) (Head : Int) (Body : Int) (Ext : Int) (Trailers : Int) (Wait : Int) (Idle : Int) (Chunked_2 : Bool) (Old : Bool) (err : Int) (p_2 : Int) (most : Int) (pending : Bool) (over : Bool) (bad : Bool) (b : List UInt8) (Fields_2 : List (List UInt8 × List UInt8)) (Body_2 : List UInt8) (Trailers_2 : List (List UInt8 × List UInt8)) (parts : List (List UInt8)) : Option (List UInt8 × List UInt8 × Int × Bool × Int × Int × Int × Int × Bool × Bool × Int × Int × Int × Int × Int × Int × Int × Int × Int × Bool × Bool × Int × (List (List UInt8 × List UInt8 × Int × List (List UInt8 × List UInt8) × Bool × List UInt8 × List (List UInt8 × List UInt8))) × Int × Int × Bool × Bool × Bool × List UInt8 × (List (List UInt8 × List UInt8)) × List UInt8 × (List (List UInt8 × List UInt8))) := (t Method Target Minor Chunked stage lines head need begun waits p Line Fields Head Body Ext Trailers Wait Idle Chunked_2 Old err p_2 most pending over bad b Fields_2 Body_2 Trailers_2 parts).val
def F (x : D.den) : Option (List UInt8 × List UInt8 × Int × Bool × Int × Int × Int × Int × Bool × Bool × Int × Int × Int × Int × Int × Int × Int × Int × Int × Bool × Bool × Int × (List (List UInt8 × List UInt8 × Int × List (List UInt8 × List UInt8) × Bool × List UInt8 × List (List UInt8 × List UInt8))) × Int × Int × Bool × Bool × Bool × List UInt8 × (List (List UInt8 × List UInt8)) × List UInt8 × (List (List UInt8 × List UInt8))) := f x.1.1.2.1 x.1.1.2.2.1 x.1.1.2.2.2.1 x.1.1.2.2.2.2.2.1 x.1.1.2.2.2.2.2.2.2.2.1 x.1.1.2.2.2.2.2.2.2.2.2.1 x.1.1.2.2.2.2.2.2.2.2.2.2.1 x.1.1.2.2.2.2.2.2.2.2.2.2.2.1 x.1.1.2.2.2.2.2.2.2.2.2.2.2.2.1 x.1.1.2.2.2.2.2.2.2.2.2.2.2.2.2.1 x.1.1.2.2.2.2.2.2.2.2.2.2.2.2.2.2.1 x.1.1.2.2.2.2.2.2.2.2.2.2.2.2.2.2.2.1 x.1.1.2.2.2.2.2.2.2.2.2.2.2.2.2.2.2.2.1 x.1.1.2.2.2.2.2.2.2.2.2.2.2.2.2.2.2.2.2.1 x.1.1.2.2.2.2.2.2.2.2.2.2.2.2.2.2.2.2.2.2.1 x.1.1.2.2.2.2.2.2.2.2.2.2.2.2.2.2.2.2.2.2.2.1 x.1.1.2.2.2.2.2.2.2.2.2.2.2.2.2.2.2.2.2.2.2.2.1 x.1.1.2.2.2.2.2.2.2.2.2.2.2.2.2.2.2.2.2.2.2.2.2.1 x.1.1.2.2.2.2.2.2.2.2.2.2.2.2.2.2.2.2.2.2.2.2.2.2.1 x.1.1.2.2.2.2.2.2.2.2.2.2.2.2.2.2.2.2.2.2.2.2.2.2.2.1 x.1.1.2.2.2.2.2.2.2.2.2.2.2.2.2.2.2.2.2.2.2.2.2.2.2.2.1 x.1.1.2.2.2.2.2.2.2.2.2.2.2.2.2.2.2.2.2.2.2.2.2.2.2.2.2.1 x.1.2.1.1 x.1.2.1.2.1 x.1.2.1.2.2.2.1 x.1.2.1.2.2.2.2.1 x.1.2.1.2.2.2.2.2 x.1.2.2.1 x.1.2.2.2.1 x.1.2.2.2.2.1 x.1.2.2.2.2.2.1 x.1.2.2.2.2.2.2.2.1
def pa : D.den → (List UInt8 × List UInt8 × Int × Bool × Int × Int × Int × Int × Bool × Bool × Int × Int × Int × Int × Int × Int × Int × Int × Int × Bool × Bool × Int × (List (List UInt8 × List UInt8 × Int × List (List UInt8 × List UInt8) × Bool × List UInt8 × List (List UInt8 × List UInt8))) × Int × Int × Bool × Bool × Bool × List UInt8 × (List (List UInt8 × List UInt8)) × List UInt8 × (List (List UInt8 × List UInt8))) → A.den := fun (((_, (_, (_, (_, (_, (_, (_, (_, (_, (_, (_, (_, (_, (_, (_, (_, (_, (_, (_, (_, (_, (_, (_, (_, (_, (_, _)))))))))))))))))))))))))), ((_, (_, (_, (_, (_, _))))), (_, (_, (_, (_, (out, (parts, _)))))))), (_, _)) (y1, y2, y3, y4, y5, y6, y7, y8, y9, y10, y11, y12, y13, y14, y15, y16, y17, y18, y19, y20, y21, y22, y23, y24, y25, y26, y27, y28, y29, y30, y31, y32) => ((((), (y1, (y2, (y3, ((), (y4, ((), ((), (y5, (y6, (y7, (y8, (y9, (y10, (y11, (y12, (y13, (y14, (y15, (y16, (y17, (y18, (y19, (y20, (y21, (y22, ())))))))))))))))))))))))))), ((), ((), ((), ((), ((), (out, (parts, (y23, ((y24, (y25, ((), (y26, (y27, y28))))), (y29, (y30, (y31, (y32, ())))))))))))))), ())
def con : Con := tcon D A pa F
theorem ok : ConOk Tryz.prog 22 con := tcon_ok Base.mixed Base.prog_ok bk_parser_Parser_long_ok (by kernel_rfl) (.cons L6.ok (by kernel_rfl) (.cons L3.ok (by kernel_rfl) (.nil))) 9 (fun _ => rfl) (fun x => t x.1.1.2.1 x.1.1.2.2.1 x.1.1.2.2.2.1 x.1.1.2.2.2.2.2.1 x.1.1.2.2.2.2.2.2.2.2.1 x.1.1.2.2.2.2.2.2.2.2.2.1 x.1.1.2.2.2.2.2.2.2.2.2.2.1 x.1.1.2.2.2.2.2.2.2.2.2.2.2.1 x.1.1.2.2.2.2.2.2.2.2.2.2.2.2.1 x.1.1.2.2.2.2.2.2.2.2.2.2.2.2.2.1 x.1.1.2.2.2.2.2.2.2.2.2.2.2.2.2.2.1 x.1.1.2.2.2.2.2.2.2.2.2.2.2.2.2.2.2.1 x.1.1.2.2.2.2.2.2.2.2.2.2.2.2.2.2.2.2.1 x.1.1.2.2.2.2.2.2.2.2.2.2.2.2.2.2.2.2.2.1 x.1.1.2.2.2.2.2.2.2.2.2.2.2.2.2.2.2.2.2.2.1 x.1.1.2.2.2.2.2.2.2.2.2.2.2.2.2.2.2.2.2.2.2.1 x.1.1.2.2.2.2.2.2.2.2.2.2.2.2.2.2.2.2.2.2.2.2.1 x.1.1.2.2.2.2.2.2.2.2.2.2.2.2.2.2.2.2.2.2.2.2.2.1 x.1.1.2.2.2.2.2.2.2.2.2.2.2.2.2.2.2.2.2.2.2.2.2.2.1 x.1.1.2.2.2.2.2.2.2.2.2.2.2.2.2.2.2.2.2.2.2.2.2.2.2.1 x.1.1.2.2.2.2.2.2.2.2.2.2.2.2.2.2.2.2.2.2.2.2.2.2.2.2.1 x.1.1.2.2.2.2.2.2.2.2.2.2.2.2.2.2.2.2.2.2.2.2.2.2.2.2.2.1 x.1.2.1.1 x.1.2.1.2.1 x.1.2.1.2.2.2.1 x.1.2.1.2.2.2.2.1 x.1.2.1.2.2.2.2.2 x.1.2.2.1 x.1.2.2.2.1 x.1.2.2.2.2.1 x.1.2.2.2.2.2.1 x.1.2.2.2.2.2.2.2.1) (fun _ => rfl) fun _ _ _ => (by kernel_rfl)
end parser_Parser_Feed
def bk_parser_Parser_Feed : Book := bk_parser_Parser_long.add 22 parser_Parser_Feed.con
theorem bk_parser_Parser_Feed_ok : BookOk Tryz.prog bk_parser_Parser_Feed := bk_parser_Parser_long_ok.add parser_Parser_Feed.ok
end Go.Vx
end
