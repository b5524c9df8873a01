/- Printed by a program of ours out of our texts: the evaluator, the printed functions, the plain laws. (A help: no statement of the seat is proved here.) -/
import Derived.Test.YtjkhbeinkhkfjaaGreatDoorPFilterStaysD
import Derived.Lib.Bytealg
set_option linter.unusedVariables false
set_option linter.unusedSimpArgs false
section
set_option maxRecDepth 1000000
set_option maxHeartbeats 4000000
set_option synthInstance.maxSize 100000
set_option synthInstance.maxHeartbeats 400000
namespace Go.Vx
open Go Go.Vx Go.Proofs
namespace q74
def D : Dom := ⟨[], .nil⟩
def A : Dom := ⟨[], (.agg (.cat (.int .i64) (.cat (.int .i64) (.cat (.int .i64) (.cat (.int .i64) (.cat (.int .i64) (.cat (.int .i64) (.cat (.int .i64) (.cat (.int .i64) (.cat .bool .bool))))))))))⟩
abbrev Rt := Int × Int × Int × Int × Int × Int × Int × Int × Bool × Bool
def t  : Tr Rt :=
 .ret ((1024:Int), 32, 8192, 65536, 32, 8, 4, 20, true, true)
def f  := (t ).val
def F (x : D.den) := f
def pa : D.den -> Rt -> A.den := fun (_, _) (y1, y2, y3, y4, y5, y6, y7, y8, y9, y10) => ((), (y1, (y2, (y3, (y4, (y5, (y6, (y7, (y8, (y9, y10))))))))))
def con : Con := tcon D A pa F
theorem ok : zgu Tryz.prog 15 con := zij Base.mixed Base.prog_ok q43 (by kernel_rfl) zht.nil 9 (fun _ => rfl) (fun x => t ) (fun _ => rfl) fun _ _ _ => (by kernel_rfl)
end q74
def q75 : Book := q42.add 15 q74.con
theorem q76 : zgv Tryz.prog q75 := q43.add q74.ok
namespace q0o
def D : Dom := ⟨[], (.cat (.int .u32) (.agg (.cat (.int .i64) (.cat (.int .i64) (.cat (.int .i64) (.cat (.int .i64) (.cat (.int .i64) (.cat (.int .i64) (.cat (.int .i64) (.cat (.int .i64) (.cat .bool .bool)))))))))))⟩
def A : Dom := ⟨[.cells (.cat (.ptr 1 0 0 0) (.cat (.ptr 8 0 0 0) (.cat (.int .i64) (.cat (.int .i64) .bool)))) 39 false, .cells (.cat (.ptr 2 0 0 0) (.cat .str (.cat .str (.cat (.int .i64) (.cat (.sl 4 2) (.cat .bool (.cat (.sl 5 1) (.cat (.sl 6 2) (.cat (.int .i64) (.cat (.int .i64) (.cat (.int .i64) (.cat (.int .i64) (.cat .bool (.cat .bool (.cat (.int .u32) (.cat (.int .i64) (.cat (.int .i64) (.cat (.int .i64) (.cat (.int .i64) (.cat (.int .i64) (.cat (.int .i64) (.cat (.int .i64) (.cat (.int .i64) (.cat .bool (.cat .bool (.cat (.int .i64) (.sl 7 7))))))))))))))))))))))))))) 54 false, .cells (.cat (.int .u32) (.cat (.int .i64) (.cat (.sl 3 1) (.cat .bool (.cat .bool .bool))))) 77 false, .vec .byte 5 false, .vec (.pair .str .str) 87 false, .vec .byte 5 false, .vec (.pair .str .str) 87 false, .vec (.pair .str (.pair .str (.pair (.int .i64) (.pair (.sl (.pair .str .str)) (.pair .bool (.pair (.sl .byte) (.sl (.pair .str .str)))))))) 50 false, .cells (.cat (.ptr 9 0 0 0) (.cat .str (.cat .str (.cat (.int .i64) (.cat (.sl 11 2) (.cat .bool (.cat (.sl 12 1) (.cat (.sl 13 2) (.cat (.int .i64) (.cat (.int .i64) (.cat (.int .i64) (.cat (.int .i64) (.cat .bool (.cat .bool (.cat (.int .u32) (.cat (.int .i64) (.cat (.int .i64) (.cat (.int .i64) (.cat (.int .i64) (.cat (.int .i64) (.cat (.int .i64) (.cat (.int .i64) (.cat (.int .i64) (.cat .bool (.cat .bool (.cat (.int .i64) (.sl 14 7))))))))))))))))))))))))))) 54 false, .cells (.cat (.int .u32) (.cat (.int .i64) (.cat (.sl 10 1) (.cat .bool (.cat .bool .bool))))) 77 false, .vec .byte 5 false, .vec (.pair .str .str) 87 false, .vec .byte 5 false, .vec (.pair .str .str) 87 false, .vec (.pair .str (.pair .str (.pair (.int .i64) (.pair (.sl (.pair .str .str)) (.pair .bool (.pair (.sl .byte) (.sl (.pair .str .str)))))))) 50 false], (.ptr 0 0 0 0)⟩
abbrev Rt := Int × Int × Bool × Ls × Ls × Int × Bool × Int × Int × Int × Int × Bool × Bool × Int × Int × Int × Int × Bool × Bool × Bool × Ls × (Lf) × Ls × (Lf) × (List (Ls × Ls × Int × Lf × Bool × Ls × Lf)) × Ls × Ls × Int × Bool × Int × Int × Int × Int × Bool × Bool × Int × Int × Bool × Bool × Bool × Ls × (Lf) × Ls × (Lf) × (List (Ls × Ls × Int × Lf × Bool × Ls × Lf))
def t (p:Int) (Line:Int) (Fields:Int) (Head:Int) (Body:Int) (Ext:Int) (Trailers:Int) (Wait:Int) (Idle:Int) : Tr Rt :=
 .call (q3y.f (0:Int) Line Fields Head Body Ext Trailers Wait Idle) fun (y1a, y1b, y1c, y1d, y1e, y1f, y1g, y1h, y1i, y1j, y1k, y1l, y1m, y1n, y1o, y1p, y1q, y1r, y1s, y1t) =>
 .call (q3y.f p Line Fields Head Body Ext Trailers Wait Idle) fun (y2a, y2b, y2c, y2d, y2e, y2f, y2g, y2h, y2i, y2j, y2k, y2l, y2m, y2n, y2o, y2p, y2q, y2r, y2s, y2t) =>
 .okl y1p.length<|.okl y1q.length<|.okl y1r.length<|.okl y1s.length<|.okl y1t.length<|.call (q44.f y1p y1q y1r y1s y1t) fun _ =>
 .br (y1k != (0:Int)) (.okl y1p.length<|.okl y1q.length<|.okl y1r.length<|.okl y1s.length<|.okl y1t.length<|.okl y2p.length<|.okl y2q.length<|.okl y2r.length<|.okl y2s.length<|.okl y2t.length<|.ret ((2:Int), 20, false, y1a, y1b, y1c, y1d, y1e, y1f, y1g, y1h, y1i, y1j, 0, y1k, 0, y1l, y1m, y1n, y1o, y1p, y1q, y1r, y1s, y1t, y2a, y2b, y2c, y2d, y2e, y2f, y2g, y2h, y2i, y2j, y2k, y2l, y2m, y2n, y2o, y2p, y2q, y2r, y2s, y2t))
 (.okl y2p.length<|.okl y2q.length<|.okl y2r.length<|.okl y2s.length<|.okl y2t.length<|.call (q44.f y2p y2q y2r y2s y2t) fun _ =>
  .br (y2k != (0:Int)) (.okl y1p.length<|.okl y1q.length<|.okl y1r.length<|.okl y1s.length<|.okl y1t.length<|.okl y2p.length<|.okl y2q.length<|.okl y2r.length<|.okl y2s.length<|.okl y2t.length<|.ret ((2:Int), 20, false, y1a, y1b, y1c, y1d, y1e, y1f, y1g, y1h, y1i, y1j, 0, y1k, 0, y1l, y1m, y1n, y1o, y1p, y1q, y1r, y1s, y1t, y2a, y2b, y2c, y2d, y2e, y2f, y2g, y2h, y2i, y2j, y2k, y2l, y2m, y2n, y2o, y2p, y2q, y2r, y2s, y2t))
  (.okl y1p.length<|.okl y1q.length<|.okl y1r.length<|.okl y1s.length<|.okl y1t.length<|.okl y2p.length<|.okl y2q.length<|.okl y2r.length<|.okl y2s.length<|.okl y2t.length<|.ret ((1:Int), 0, false, y1a, y1b, y1c, y1d, y1e, y1f, y1g, y1h, y1i, y1j, 0, y1k, 0, y1l, y1m, y1n, y1o, y1p, y1q, y1r, y1s, y1t, y2a, y2b, y2c, y2d, y2e, y2f, y2g, y2h, y2i, y2j, y2k, y2l, y2m, y2n, y2o, y2p, y2q, y2r, y2s, y2t)))
def f (p:Int) (Line:Int) (Fields:Int) (Head:Int) (Body:Int) (Ext:Int) (Trailers:Int) (Wait:Int) (Idle:Int) := (t p Line Fields Head Body Ext Trailers Wait Idle).val
def G (x : D.den) := t x.2.1 x.2.2.1 x.2.2.2.1 x.2.2.2.2.1 x.2.2.2.2.2.1 x.2.2.2.2.2.2.1 x.2.2.2.2.2.2.2.1 x.2.2.2.2.2.2.2.2.1 x.2.2.2.2.2.2.2.2.2.1
def F (x : D.den) := (G x).val
def pa : D.den -> Rt -> A.den := fun (_, (p, (Line, (Fields, (Head, (Body, (Ext, (Trailers, (Wait, (Idle, (Chunked, Old))))))))))) (y1, y2, y3, y4, y5, y6, y7, y8, y9, y10, y11, y12, y13, y14, y15, y16, y17, y18, y19, y20, y21, y22, y23, y24, y25, y26, y27, y28, y29, y30, y31, y32, y33, y34, y35, y36, y37, y38, y39, y40, y41, y42, y43, y44, y45) => ((((), ((), (y1, (y2, y3)))), (((), (y4, (y5, (y6, ((), (y7, ((), ((), (y8, (y9, (y10, (y11, (y12, (y13, (y14, (Line, (Fields, (Head, (Body, (Ext, (Trailers, (Wait, (Idle, (Chunked, (Old, (y15, ())))))))))))))))))))))))))), ((y16, (y17, ((), (y18, (y19, y20))))), (y21, (y22, (y23, (y24, (y25, (((), (y26, (y27, (y28, ((), (y29, ((), ((), (y30, (y31, (y32, (y33, (y34, (y35, (p, (Line, (Fields, (Head, (Body, (Ext, (Trailers, (Wait, (Idle, (Chunked, (Old, (y36, ())))))))))))))))))))))))))), ((p, (y37, ((), (y38, (y39, y40))))), (y41, (y42, (y43, (y44, (y45, ()))))))))))))))), ())
def con : Con := tcon D A pa F
theorem ok : zgu Tryz.prog 5 con := zij Base.mixed Base.prog_ok q76 (by kernel_rfl) zht.nil 9 (fun _ => rfl) G (fun _ => rfl) fun _ _ _ => (by kernel_rfl)
end q0o
def q0p : Book := q75.add 5 q0o.con
theorem q0q : zgv Tryz.prog q0p := q76.add q0o.ok
namespace q8m
def D : Dom := ⟨[.vec (.pair .str .str) 87 true, .vec (.pair .str .str) 87 true], (.cat (.sl 0 2) (.sl 1 2))⟩
namespace L4
def D : Dom := ⟨[.vec (.pair .str .str) 87 true, .vec (.pair .str .str) 87 true], (.cat (.sl 0 2) (.cat (.sl 1 2) (.cat (.int .i64) (.int .i64))))⟩
def A : Dom := ⟨[.vec (.pair .str .str) 87 true, .vec (.pair .str .str) 87 true], .nil⟩
def B : Dom := ⟨[.vec (.pair .str .str) 87 true, .vec (.pair .str .str) 87 true], .bool⟩
def t (s1 : Lf) (s2 : Lf) (t12:Int) (t13:Int) : Tr ((Int) ⊕ ((Unit) ⊕ (Bool))) :=
 .br (decide (t13 < t12)) (.chk ((0:Int) <= t13 ∧ t13 < (↑s1.length:Int))<|.chk ((0:Nat) + t13.toNat < s1.length)<|.chk ((0:Int) <= t13 ∧ t13 < (↑s2.length:Int))<|.chk ((0:Nat) + t13.toNat < s2.length)<|.br (!((s1.getD ((0:Nat) + t13.toNat) ([], [])).fst == (s2.getD ((0:Nat) + t13.toNat) ([], [])).fst && ((s1.getD ((0:Nat) + t13.toNat) ([], [])).snd == (s2.getD ((0:Nat) + t13.toNat) ([], [])).snd && true))) (.ret (.inr (.inr false)))
  (.okl s1.length<|.okl s2.length<|.ret (.inl (IntKind.i64.wrap (t13 + (1:Int))))))
 (.ret (.inr (.inl ())))
def f (s1 : Lf) (s2 : Lf) (t12:Int) (t13:Int) := Loop (fun z : Int => t s1 s2 t12 z) t13
def F (x : D.den) := f x.1.1 x.1.2.1 x.2.2.2.1 x.2.2.2.2
def pa : D.den -> (Unit) -> A.den := fun ((s1, (s2, _)), (_, (_, (_, _)))) _ => ((s1, (s2, ())), ())
def pb : D.den -> (Bool) -> B.den := fun ((s1, (s2, _)), (_, (_, (_, _)))) y1 => ((s1, (s2, ())), y1)
def lap : Lap := zim 4 26 [0, 1, 12, 13] D (.exit 0) [] A .ret [4] B pa pb F
def pk (x : D.den) (z:Int) : D.den := ((x.1.1, (x.1.2.1, ())), ((), ((), (x.2.2.2.1, z))))
def un (x : D.den) := x.2.2.2.2
def body (x : D.den) (z:Int) := t x.1.1 x.1.2.1 x.2.2.2.1 z
theorem ok : zhe Tryz.prog 2 (codeOf Tryz.prog 60) lap := zin Base.mixed Base.prog_ok q0q (by kernel_rfl) (by kernel_rfl) zht.nil 9 pk un body (fun _ _ => rfl) (fun _ _ => rfl) (fun _ _ => rfl) (fun _ _ => rfl) (fun _ => rfl) fun _ _ _ _ => (by kernel_rfl)
end L4
def A : Dom := q8m.L4.B
def t (s1 : Lf) (s2 : Lf) : Tr (Bool) :=
 .br ((↑s1.length:Int) != (↑s2.length:Int)) (.ret false)
 (.okl s1.length<|.okl s2.length<|.both (q8m.L4.f s1 s2 (↑s1.length:Int) (0:Int)) (fun _ => .ret true)
  (fun y2 => .ret y2))
def f (s1 : Lf) (s2 : Lf) := (t s1 s2).val
def G (x : D.den) := t x.1.1 x.1.2.1
def F (x : D.den) := (G x).val
def pa : D.den -> (Bool) -> A.den := fun ((s1, (s2, _)), (_, _)) y1 => ((s1, (s2, ())), y1)
def con : Con := tcon D A pa F
theorem ok : zgu Tryz.prog 60 con := zij Base.mixed Base.prog_ok q0q (by kernel_rfl) (.cons L4.ok (by kernel_rfl) (.nil)) 9 (fun _ => rfl) G (fun _ => rfl) fun _ _ _ => (by kernel_rfl)
end q8m
def q8n : Book := q0p.add 60 q8m.con
theorem q8o : zgv Tryz.prog q8n := q0q.add q8m.ok
namespace qbj
def D : Dom := q8m.D
def A : Dom := q8m.L4.B
def t (va : Lf) (b : Lf) : Tr (Bool) :=
 .chk ((0:Nat) + va.length <= va.length)<|.chk ((0:Nat) + b.length <= b.length)<|.call (q8m.f (List.take va.length (List.drop (0:Nat) va)) (List.take b.length (List.drop (0:Nat) b))) fun y1 =>
 .ret y1
def f (va : Lf) (b : Lf) := (t va b).val
def G (x : D.den) := t x.1.1 x.1.2.1
def F (x : D.den) := (G x).val
def pa : D.den -> (Bool) -> A.den := fun ((va, (b, _)), (_, _)) y1 => ((va, (b, ())), y1)
def con : Con := tcon D A pa F
theorem ok : zgu Tryz.prog 45 con := zij Base.mixed Base.prog_ok q8o (by kernel_rfl) zht.nil 9 (fun _ => rfl) G (fun _ => rfl) fun _ _ _ => (by kernel_rfl)
end qbj
def qbk : Book := q8n.add 45 qbj.con
theorem qbl : zgv Tryz.prog qbk := q8o.add qbj.ok
namespace q03
def D : Dom := ⟨[.vec .byte 5 true, .vec .byte 5 true], (.cat (.sl 0 1) (.sl 1 1))⟩
def A : Dom := ⟨[.vec .byte 5 true, .vec .byte 5 true], .bool⟩
def t (va : Ls) (b : Ls) : Tr (Bool) :=
 .chk ((0:Nat) + va.length <= va.length)<|.chk ((0:Nat) + b.length <= b.length)<|.ret (List.take va.length (List.drop (0:Nat) va) == List.take b.length (List.drop (0:Nat) b))
def f (va : Ls) (b : Ls) := (t va b).val
def G (x : D.den) := t x.1.1 x.1.2.1
def F (x : D.den) := (G x).val
def pa : D.den -> (Bool) -> A.den := fun ((va, (b, _)), (_, _)) y1 => ((va, (b, ())), y1)
def con : Con := tcon D A pa F
theorem ok : zgu Tryz.prog 46 con := zij Base.mixed Base.prog_ok qbl (by kernel_rfl) zht.nil 9 (fun _ => rfl) G (fun _ => rfl) fun _ _ _ => (by kernel_rfl)
end q03
def q04 : Book := qbk.add 46 q03.con
theorem q05 : zgv Tryz.prog q04 := qbl.add q03.ok
namespace q64
def D : Dom := ⟨[.vec (.pair .str .str) 87 true, .vec .byte 5 true, .vec (.pair .str .str) 87 true, .vec (.pair .str .str) 87 true, .vec .byte 5 true, .vec (.pair .str .str) 87 true], (.cat (.agg (.cat .str (.cat .str (.cat (.int .i64) (.cat (.sl 0 2) (.cat .bool (.cat (.sl 1 1) (.sl 2 2)))))))) (.agg (.cat .str (.cat .str (.cat (.int .i64) (.cat (.sl 3 2) (.cat .bool (.cat (.sl 4 1) (.sl 5 2)))))))))⟩
def A : Dom := ⟨[.vec (.pair .str .str) 87 true, .vec .byte 5 true, .vec (.pair .str .str) 87 true, .vec (.pair .str .str) 87 true, .vec .byte 5 true, .vec (.pair .str .str) 87 true], .bool⟩
def t (Fields : Lf) (Body : Ls) (Trailers : Lf) (Fields_2 : Lf) (Body_2 : Ls) (Trailers_2 : Lf) (Method : Ls) (Target : Ls) (Minor:Int) (Chunked:Bool) (Method_2 : Ls) (Target_2 : Ls) (Minor_2:Int) (Chunked_2:Bool) : Tr (Bool) :=
 .chk ((0:Nat) + Fields.length <= Fields.length)<|.chk ((0:Nat) + Fields_2.length <= Fields_2.length)<|.call (qbj.f (List.take Fields.length (List.drop (0:Nat) Fields)) (List.take Fields_2.length (List.drop (0:Nat) Fields_2))) fun y1 =>
 .br y1 (.chk ((0:Nat) + Trailers.length <= Trailers.length)<|.chk ((0:Nat) + Trailers_2.length <= Trailers_2.length)<|.call (qbj.f (List.take Trailers.length (List.drop (0:Nat) Trailers)) (List.take Trailers_2.length (List.drop (0:Nat) Trailers_2))) fun y2 =>
  .br y2 (.chk ((0:Nat) + Body.length <= Body.length)<|.chk ((0:Nat) + Body_2.length <= Body_2.length)<|.call (q03.f (List.take Body.length (List.drop (0:Nat) Body)) (List.take Body_2.length (List.drop (0:Nat) Body_2))) fun y3 =>
  .br y3 (.br (Method == Method_2) (.br (Target == Target_2) (.br (Minor == Minor_2) (.ret (Chunked == Chunked_2))
    (.ret false))
   (.ret false))
   (.ret false))
  (.ret false))
  (.ret false))
 (.ret false)
def f (Fields : Lf) (Body : Ls) (Trailers : Lf) (Fields_2 : Lf) (Body_2 : Ls) (Trailers_2 : Lf) (Method : Ls) (Target : Ls) (Minor:Int) (Chunked:Bool) (Method_2 : Ls) (Target_2 : Ls) (Minor_2:Int) (Chunked_2:Bool) := (t Fields Body Trailers Fields_2 Body_2 Trailers_2 Method Target Minor Chunked Method_2 Target_2 Minor_2 Chunked_2).val
def G (x : D.den) := t x.1.1 x.1.2.1 x.1.2.2.1 x.1.2.2.2.1 x.1.2.2.2.2.1 x.1.2.2.2.2.2.1 x.2.1.1 x.2.1.2.1 x.2.1.2.2.1 x.2.1.2.2.2.2.1 x.2.2.1 x.2.2.2.1 x.2.2.2.2.1 x.2.2.2.2.2.2.1
def F (x : D.den) := (G x).val
def pa : D.den -> (Bool) -> A.den := fun ((Fields, (Body, (Trailers, (Fields_2, (Body_2, (Trailers_2, _)))))), ((_, (_, (_, (_, (_, (_, _)))))), (_, (_, (_, (_, (_, (_, _)))))))) y1 => ((Fields, (Body, (Trailers, (Fields_2, (Body_2, (Trailers_2, ())))))), y1)
def con : Con := tcon D A pa F
theorem ok : zgu Tryz.prog 28 con := zij Base.mixed Base.prog_ok q05 (by kernel_rfl) zht.nil 9 (fun _ => rfl) G (fun _ => rfl) fun _ _ _ => (by kernel_rfl)
end q64
def q65 : Book := q04.add 28 q64.con
theorem q66 : zgv Tryz.prog q65 := q05.add q64.ok
namespace q8p
def D : Dom := ⟨[.vec (.pair .str (.pair .str (.pair (.int .i64) (.pair (.sl (.pair .str .str)) (.pair .bool (.pair (.sl .byte) (.sl (.pair .str .str)))))))) 50 true, .vec (.pair .str (.pair .str (.pair (.int .i64) (.pair (.sl (.pair .str .str)) (.pair .bool (.pair (.sl .byte) (.sl (.pair .str .str)))))))) 50 true], (.cat (.sl 0 7) (.cat (.sl 1 7) (.lit (.func (.func 28) [] []))))⟩
namespace L4
def D : Dom := ⟨[.vec (.pair .str (.pair .str (.pair (.int .i64) (.pair (.sl (.pair .str .str)) (.pair .bool (.pair (.sl .byte) (.sl (.pair .str .str)))))))) 50 true, .vec (.pair .str (.pair .str (.pair (.int .i64) (.pair (.sl (.pair .str .str)) (.pair .bool (.pair (.sl .byte) (.sl (.pair .str .str)))))))) 50 true], (.cat (.sl 1 7) (.cat (.lit (.func (.func 28) [] [])) (.cat (.sl 0 7) (.cat (.int .i64) (.int .i64)))))⟩
def A : Dom := ⟨[.vec (.pair .str (.pair .str (.pair (.int .i64) (.pair (.sl (.pair .str .str)) (.pair .bool (.pair (.sl .byte) (.sl (.pair .str .str)))))))) 50 true, .vec (.pair .str (.pair .str (.pair (.int .i64) (.pair (.sl (.pair .str .str)) (.pair .bool (.pair (.sl .byte) (.sl (.pair .str .str)))))))) 50 true], .nil⟩
def B : Dom := ⟨[.vec (.pair .str (.pair .str (.pair (.int .i64) (.pair (.sl (.pair .str .str)) (.pair .bool (.pair (.sl .byte) (.sl (.pair .str .str)))))))) 50 true, .vec (.pair .str (.pair .str (.pair (.int .i64) (.pair (.sl (.pair .str .str)) (.pair .bool (.pair (.sl .byte) (.sl (.pair .str .str)))))))) 50 true], .bool⟩
def t (s1 : List (Ls × Ls × Int × Lf × Bool × Ls × Lf)) (s2 : List (Ls × Ls × Int × Lf × Bool × Ls × Lf)) (t16:Int) (t17:Int) : Tr ((Int) ⊕ ((Unit) ⊕ (Bool))) :=
 .br (decide (t17 < t16)) (.chk ((0:Int) <= t17 ∧ t17 < (↑s1.length:Int))<|.chk ((0:Nat) + t17.toNat < s1.length)<|.chk ((0:Int) <= t17 ∧ t17 < (↑s2.length:Int))<|.chk ((0:Nat) + t17.toNat < s2.length)<|.call (q64.f ((s1.getD ((0:Nat) + t17.toNat) ([], [], 0, [], false, [], [])).snd.snd.snd.fst) ((s1.getD ((0:Nat) + t17.toNat) ([], [], 0, [], false, [], [])).snd.snd.snd.snd.snd.fst) ((s1.getD ((0:Nat) + t17.toNat) ([], [], 0, [], false, [], [])).snd.snd.snd.snd.snd.snd) ((s2.getD ((0:Nat) + t17.toNat) ([], [], 0, [], false, [], [])).snd.snd.snd.fst) ((s2.getD ((0:Nat) + t17.toNat) ([], [], 0, [], false, [], [])).snd.snd.snd.snd.snd.fst) ((s2.getD ((0:Nat) + t17.toNat) ([], [], 0, [], false, [], [])).snd.snd.snd.snd.snd.snd) ((s1.getD ((0:Nat) + t17.toNat) ([], [], 0, [], false, [], [])).fst) ((s1.getD ((0:Nat) + t17.toNat) ([], [], 0, [], false, [], [])).snd.fst) ((s1.getD ((0:Nat) + t17.toNat) ([], [], 0, [], false, [], [])).snd.snd.fst) ((s1.getD ((0:Nat) + t17.toNat) ([], [], 0, [], false, [], [])).snd.snd.snd.snd.fst) ((s2.getD ((0:Nat) + t17.toNat) ([], [], 0, [], false, [], [])).fst) ((s2.getD ((0:Nat) + t17.toNat) ([], [], 0, [], false, [], [])).snd.fst) ((s2.getD ((0:Nat) + t17.toNat) ([], [], 0, [], false, [], [])).snd.snd.fst) ((s2.getD ((0:Nat) + t17.toNat) ([], [], 0, [], false, [], [])).snd.snd.snd.snd.fst)) fun y1 =>
  .br (!y1) (.ret (.inr (.inr false)))
  (.okl s2.length<|.okl s1.length<|.ret (.inl (IntKind.i64.wrap (t17 + (1:Int))))))
 (.ret (.inr (.inl ())))
def f (s1 : List (Ls × Ls × Int × Lf × Bool × Ls × Lf)) (s2 : List (Ls × Ls × Int × Lf × Bool × Ls × Lf)) (t16:Int) (t17:Int) := Loop (fun z : Int => t s1 s2 t16 z) t17
def F (x : D.den) := f x.1.1 x.1.2.1 x.2.2.2.2.1 x.2.2.2.2.2
def pa : D.den -> (Unit) -> A.den := fun ((s1, (s2, _)), (_, (_, (_, (_, _))))) _ => ((s1, (s2, ())), ())
def pb : D.den -> (Bool) -> B.den := fun ((s1, (s2, _)), (_, (_, (_, (_, _))))) y1 => ((s1, (s2, ())), y1)
def lap : Lap := zim 4 32 [1, 2, 15, 16, 17] D (.exit 0) [] A .ret [6] B pa pb F
def pk (x : D.den) (z:Int) : D.den := ((x.1.1, (x.1.2.1, ())), ((), ((), ((), (x.2.2.2.2.1, z)))))
def un (x : D.den) := x.2.2.2.2.2
def body (x : D.den) (z:Int) := t x.1.1 x.1.2.1 x.2.2.2.2.1 z
theorem ok : zhe Tryz.prog 2 (codeOf Tryz.prog 27) lap := zin Base.mixed Base.prog_ok q66 (by kernel_rfl) (by kernel_rfl) zht.nil 9 pk un body (fun _ _ => rfl) (fun _ _ => rfl) (fun _ _ => rfl) (fun _ _ => rfl) (fun _ => rfl) fun _ _ _ _ => (by kernel_rfl)
end L4
def A : Dom := q8p.L4.B
def t (s1 : List (Ls × Ls × Int × Lf × Bool × Ls × Lf)) (s2 : List (Ls × Ls × Int × Lf × Bool × Ls × Lf)) : Tr (Bool) :=
 .br ((↑s1.length:Int) != (↑s2.length:Int)) (.ret false)
 (.okl s2.length<|.okl s1.length<|.both (q8p.L4.f s1 s2 (↑s1.length:Int) (0:Int)) (fun _ => .ret true)
  (fun y2 => .ret y2))
def f (s1 : List (Ls × Ls × Int × Lf × Bool × Ls × Lf)) (s2 : List (Ls × Ls × Int × Lf × Bool × Ls × Lf)) := (t s1 s2).val
def G (x : D.den) := t x.1.1 x.1.2.1
def F (x : D.den) := (G x).val
def pa : D.den -> (Bool) -> A.den := fun ((s1, (s2, _)), (_, (_, _))) y1 => ((s1, (s2, ())), y1)
def con : Con := tcon D A pa F
theorem ok : zgu Tryz.prog 27 con := zij Base.mixed Base.prog_ok q66 (by kernel_rfl) (.cons L4.ok (by kernel_rfl) (.nil)) 9 (fun _ => rfl) G (fun _ => rfl) fun _ _ _ => (by kernel_rfl)
end q8p
def q8q : Book := q65.addS 27 (fun a => zik 2 28 a) q8p.con
theorem q8r : zgv Tryz.prog q8q := q66.addS q8p.ok
namespace q5y
def D : Dom := ⟨[.vec (.pair .str (.pair .str (.pair (.int .i64) (.pair (.sl (.pair .str .str)) (.pair .bool (.pair (.sl .byte) (.sl (.pair .str .str)))))))) 50 true, .vec (.pair .str (.pair .str (.pair (.int .i64) (.pair (.sl (.pair .str .str)) (.pair .bool (.pair (.sl .byte) (.sl (.pair .str .str)))))))) 50 true], (.cat (.sl 0 7) (.sl 1 7))⟩
def A : Dom := q8p.L4.B
def t (va : List (Ls × Ls × Int × Lf × Bool × Ls × Lf)) (b : List (Ls × Ls × Int × Lf × Bool × Ls × Lf)) : Tr (Bool) :=
 .chk ((0:Nat) + va.length <= va.length)<|.chk ((0:Nat) + b.length <= b.length)<|.call (q8p.f (List.take va.length (List.drop (0:Nat) va)) (List.take b.length (List.drop (0:Nat) b))) fun y1 =>
 .ret y1
def f (va : List (Ls × Ls × Int × Lf × Bool × Ls × Lf)) (b : List (Ls × Ls × Int × Lf × Bool × Ls × Lf)) := (t va b).val
def G (x : D.den) := t x.1.1 x.1.2.1
def F (x : D.den) := (G x).val
def pa : D.den -> (Bool) -> A.den := fun ((va, (b, _)), (_, _)) y1 => ((va, (b, ())), y1)
def con : Con := tcon D A pa F
theorem ok : zgu Tryz.prog 20 con := zij Base.mixed Base.prog_ok q8r (by kernel_rfl) zht.nil 9 (fun _ => rfl) G (fun _ => rfl) fun _ _ _ => (by kernel_rfl)
end q5y
def q5z : Book := q8q.add 20 q5y.con
theorem q60 : zgv Tryz.prog q5z := q8r.add q5y.ok
namespace q0l
def D : Dom := ⟨[.cells (.cat (.ptr 1 0 0 0) (.cat (.ptr 8 0 0 0) (.cat (.int .i64) (.cat (.int .i64) .bool)))) 39 false, .cells (.cat (.ptr 2 0 0 0) (.cat .str (.cat .str (.cat (.int .i64) (.cat (.sl 4 2) (.cat .bool (.cat (.sl 5 1) (.cat (.sl 6 2) (.cat (.int .i64) (.cat (.int .i64) (.cat (.int .i64) (.cat (.int .i64) (.cat .bool (.cat .bool (.cat (.int .u32) (.cat (.int .i64) (.cat (.int .i64) (.cat (.int .i64) (.cat (.int .i64) (.cat (.int .i64) (.cat (.int .i64) (.cat (.int .i64) (.cat (.int .i64) (.cat .bool (.cat .bool (.cat (.int .i64) (.sl 7 7))))))))))))))))))))))))))) 54 false, .cells (.cat (.int .u32) (.cat (.int .i64) (.cat (.sl 3 1) (.cat .bool (.cat .bool .bool))))) 77 false, .vec .byte 5 false, .vec (.pair .str .str) 87 false, .vec .byte 5 false, .vec (.pair .str .str) 87 false, .vec (.pair .str (.pair .str (.pair (.int .i64) (.pair (.sl (.pair .str .str)) (.pair .bool (.pair (.sl .byte) (.sl (.pair .str .str)))))))) 50 false, .cells (.cat (.ptr 9 0 0 0) (.cat .str (.cat .str (.cat (.int .i64) (.cat (.sl 11 2) (.cat .bool (.cat (.sl 12 1) (.cat (.sl 13 2) (.cat (.int .i64) (.cat (.int .i64) (.cat (.int .i64) (.cat (.int .i64) (.cat .bool (.cat .bool (.cat (.int .u32) (.cat (.int .i64) (.cat (.int .i64) (.cat (.int .i64) (.cat (.int .i64) (.cat (.int .i64) (.cat (.int .i64) (.cat (.int .i64) (.cat (.int .i64) (.cat .bool (.cat .bool (.cat (.int .i64) (.sl 14 7))))))))))))))))))))))))))) 54 false, .cells (.cat (.int .u32) (.cat (.int .i64) (.cat (.sl 10 1) (.cat .bool (.cat .bool .bool))))) 77 false, .vec .byte 5 false, .vec (.pair .str .str) 87 false, .vec .byte 5 false, .vec (.pair .str .str) 87 false, .vec (.pair .str (.pair .str (.pair (.int .i64) (.pair (.sl (.pair .str .str)) (.pair .bool (.pair (.sl .byte) (.sl (.pair .str .str)))))))) 50 false, .vec (.sl .byte) 22 true], (.cat (.ptr 0 0 0 0) (.sl 15 1))⟩
namespace L6
def D : Dom := ⟨[.cells (.cat (.ptr 1 0 0 0) (.cat (.ptr 8 0 0 0) (.cat (.int .i64) (.cat (.int .i64) .bool)))) 39 false, .cells (.cat (.ptr 17 0 0 0) (.cat .str (.cat .str (.cat (.int .i64) (.cat (.sl 19 2) (.cat .bool (.cat (.sl 20 1) (.cat (.sl 21 2) (.cat (.int .i64) (.cat (.int .i64) (.cat (.int .i64) (.cat (.int .i64) (.cat .bool (.cat .bool (.cat (.int .u32) (.cat (.int .i64) (.cat (.int .i64) (.cat (.int .i64) (.cat (.int .i64) (.cat (.int .i64) (.cat (.int .i64) (.cat (.int .i64) (.cat (.int .i64) (.cat .bool (.cat .bool (.cat (.int .i64) (.sl 22 7))))))))))))))))))))))))))) 54 false, .dead, .dead, .dead, .dead, .dead, .dead, .cells (.cat (.ptr 23 0 0 0) (.cat .str (.cat .str (.cat (.int .i64) (.cat (.sl 25 2) (.cat .bool (.cat (.sl 26 1) (.cat (.sl 27 2) (.cat (.int .i64) (.cat (.int .i64) (.cat (.int .i64) (.cat (.int .i64) (.cat .bool (.cat .bool (.cat (.int .u32) (.cat (.int .i64) (.cat (.int .i64) (.cat (.int .i64) (.cat (.int .i64) (.cat (.int .i64) (.cat (.int .i64) (.cat (.int .i64) (.cat (.int .i64) (.cat .bool (.cat .bool (.cat (.int .i64) (.sl 28 7))))))))))))))))))))))))))) 54 false, .dead, .dead, .dead, .dead, .dead, .dead, .vec (.sl .byte) 22 true, .vec (.pair .str (.pair .str (.pair (.int .i64) (.pair (.sl (.pair .str .str)) (.pair .bool (.pair (.sl .byte) (.sl (.pair .str .str)))))))) 50 false, .cells (.cat (.int .u32) (.cat (.int .i64) (.cat (.sl 18 1) (.cat .bool (.cat .bool .bool))))) 77 false, .vec .byte 5 false, .vec (.pair .str .str) 87 false, .vec .byte 5 false, .vec (.pair .str .str) 87 false, .vec (.pair .str (.pair .str (.pair (.int .i64) (.pair (.sl (.pair .str .str)) (.pair .bool (.pair (.sl .byte) (.sl (.pair .str .str)))))))) 50 false, .cells (.cat (.int .u32) (.cat (.int .i64) (.cat (.sl 24 1) (.cat .bool (.cat .bool .bool))))) 77 false, .vec .byte 5 false, .vec (.pair .str .str) 87 false, .vec .byte 5 false, .vec (.pair .str .str) 87 false, .vec (.pair .str (.pair .str (.pair (.int .i64) (.pair (.sl (.pair .str .str)) (.pair .bool (.pair (.sl .byte) (.sl (.pair .str .str)))))))) 50 false], (.cat (.ptr 0 0 0 0) (.cat (.sl 16 7) (.cat (.vec .byte) (.cat (.sl 15 1) (.cat (.int .i64) (.cat (.int .i64) (.cat (.int .i64) (.int .i64))))))))⟩
def A : Dom := ⟨[.cells (.cat (.ptr 1 0 0 0) (.cat (.ptr 8 0 0 0) (.cat (.int .i64) (.cat (.int .i64) .bool)))) 39 false, .cells (.cat (.ptr 17 0 0 0) (.cat .str (.cat .str (.cat (.int .i64) (.cat (.sl 19 2) (.cat .bool (.cat (.sl 20 1) (.cat (.sl 21 2) (.cat (.int .i64) (.cat (.int .i64) (.cat (.int .i64) (.cat (.int .i64) (.cat .bool (.cat .bool (.cat (.int .u32) (.cat (.int .i64) (.cat (.int .i64) (.cat (.int .i64) (.cat (.int .i64) (.cat (.int .i64) (.cat (.int .i64) (.cat (.int .i64) (.cat (.int .i64) (.cat .bool (.cat .bool (.cat (.int .i64) (.sl 22 7))))))))))))))))))))))))))) 54 false, .dead, .dead, .dead, .dead, .dead, .dead, .cells (.cat (.ptr 23 0 0 0) (.cat .str (.cat .str (.cat (.int .i64) (.cat (.sl 25 2) (.cat .bool (.cat (.sl 26 1) (.cat (.sl 27 2) (.cat (.int .i64) (.cat (.int .i64) (.cat (.int .i64) (.cat (.int .i64) (.cat .bool (.cat .bool (.cat (.int .u32) (.cat (.int .i64) (.cat (.int .i64) (.cat (.int .i64) (.cat (.int .i64) (.cat (.int .i64) (.cat (.int .i64) (.cat (.int .i64) (.cat (.int .i64) (.cat .bool (.cat .bool (.cat (.int .i64) (.sl 28 7))))))))))))))))))))))))))) 54 false, .dead, .dead, .dead, .dead, .dead, .dead, .vec (.sl .byte) 22 true, .vec (.pair .str (.pair .str (.pair (.int .i64) (.pair (.sl (.pair .str .str)) (.pair .bool (.pair (.sl .byte) (.sl (.pair .str .str)))))))) 50 false, .cells (.cat (.int .u32) (.cat (.int .i64) (.cat (.sl 18 1) (.cat .bool (.cat .bool .bool))))) 77 false, .vec .byte 5 false, .vec (.pair .str .str) 87 false, .vec .byte 5 false, .vec (.pair .str .str) 87 false, .vec (.pair .str (.pair .str (.pair (.int .i64) (.pair (.sl (.pair .str .str)) (.pair .bool (.pair (.sl .byte) (.sl (.pair .str .str)))))))) 50 false, .cells (.cat (.int .u32) (.cat (.int .i64) (.cat (.sl 24 1) (.cat .bool (.cat .bool .bool))))) 77 false, .vec .byte 5 false, .vec (.pair .str .str) 87 false, .vec .byte 5 false, .vec (.pair .str .str) 87 false, .vec (.pair .str (.pair .str (.pair (.int .i64) (.pair (.sl (.pair .str .str)) (.pair .bool (.pair (.sl .byte) (.sl (.pair .str .str)))))))) 50 false], (.cat (.ptr 0 0 0 0) (.cat (.sl 16 7) (.cat (.sl 15 1) (.cat (.int .i64) (.int .i64)))))⟩
def B : Dom := ⟨[.cells (.cat (.ptr 1 0 0 0) (.cat (.ptr 8 0 0 0) (.cat (.int .i64) (.cat (.int .i64) .bool)))) 39 false, .cells (.cat (.ptr 17 0 0 0) (.cat .str (.cat .str (.cat (.int .i64) (.cat (.sl 19 2) (.cat .bool (.cat (.sl 20 1) (.cat (.sl 21 2) (.cat (.int .i64) (.cat (.int .i64) (.cat (.int .i64) (.cat (.int .i64) (.cat .bool (.cat .bool (.cat (.int .u32) (.cat (.int .i64) (.cat (.int .i64) (.cat (.int .i64) (.cat (.int .i64) (.cat (.int .i64) (.cat (.int .i64) (.cat (.int .i64) (.cat (.int .i64) (.cat .bool (.cat .bool (.cat (.int .i64) (.sl 22 7))))))))))))))))))))))))))) 54 false, .dead, .dead, .dead, .dead, .dead, .dead, .cells (.cat (.ptr 23 0 0 0) (.cat .str (.cat .str (.cat (.int .i64) (.cat (.sl 25 2) (.cat .bool (.cat (.sl 26 1) (.cat (.sl 27 2) (.cat (.int .i64) (.cat (.int .i64) (.cat (.int .i64) (.cat (.int .i64) (.cat .bool (.cat .bool (.cat (.int .u32) (.cat (.int .i64) (.cat (.int .i64) (.cat (.int .i64) (.cat (.int .i64) (.cat (.int .i64) (.cat (.int .i64) (.cat (.int .i64) (.cat (.int .i64) (.cat .bool (.cat .bool (.cat (.int .i64) (.sl 28 7))))))))))))))))))))))))))) 54 false, .dead, .dead, .dead, .dead, .dead, .dead, .vec (.sl .byte) 22 true, .vec (.pair .str (.pair .str (.pair (.int .i64) (.pair (.sl (.pair .str .str)) (.pair .bool (.pair (.sl .byte) (.sl (.pair .str .str)))))))) 50 false, .cells (.cat (.int .u32) (.cat (.int .i64) (.cat (.sl 18 1) (.cat .bool (.cat .bool .bool))))) 77 false, .vec .byte 5 false, .vec (.pair .str .str) 87 false, .vec .byte 5 false, .vec (.pair .str .str) 87 false, .vec (.pair .str (.pair .str (.pair (.int .i64) (.pair (.sl (.pair .str .str)) (.pair .bool (.pair (.sl .byte) (.sl (.pair .str .str)))))))) 50 false, .cells (.cat (.int .u32) (.cat (.int .i64) (.cat (.sl 24 1) (.cat .bool (.cat .bool .bool))))) 77 false, .vec .byte 5 false, .vec (.pair .str .str) 87 false, .vec .byte 5 false, .vec (.pair .str .str) 87 false, .vec (.pair .str (.pair .str (.pair (.int .i64) (.pair (.sl (.pair .str .str)) (.pair .bool (.pair (.sl .byte) (.sl (.pair .str .str)))))))) 50 false], (.sl 16 7)⟩
abbrev Zt := Int × Int × Bool × Ls × Ls × Int × Bool × Int × Int × Int × Int × Bool × Bool × Int × Int × Int × Int × Int × Int × Int × Int × Int × Bool × Bool × Int × Ls × Ls × Int × Bool × Int × Int × Int × Int × Bool × Bool × Int × Int × Int × Int × Int × Int × Int × Int × Int × Bool × Bool × Int × (List (Ls × Ls × Int × Lf × Bool × Ls × Lf)) × Int × Int × Bool × Bool × Bool × Ls × (Lf) × Ls × (Lf) × (List (Ls × Ls × Int × Lf × Bool × Ls × Lf)) × Int × Int × Bool × Bool × Bool × Ls × (Lf) × Ls × (Lf) × (List (Ls × Ls × Int × Lf × Bool × Ls × Lf)) × Int
abbrev Rt := Int × Int × Bool × Ls × Ls × Int × Bool × Int × Int × Int × Int × Bool × Bool × Int × Int × Int × Int × Int × Int × Int × Int × Int × Bool × Bool × Int × Ls × Ls × Int × Bool × Int × Int × Int × Int × Bool × Bool × Int × Int × Int × Int × Int × Int × Int × Int × Int × Bool × Bool × Int × (List (Ls × Ls × Int × Lf × Bool × Ls × Lf)) × Int × Int × Bool × Bool × Bool × Ls × (Lf) × Ls × (Lf) × (List (Ls × Ls × Int × Lf × Bool × Ls × Lf)) × Int × Int × Bool × Bool × Bool × Ls × (Lf) × Ls × (Lf) × (List (Ls × Ls × Int × Lf × Bool × Ls × Lf))
set_option maxHeartbeats 4000000 in
def t (verdict:Int) (code:Int) (parted:Bool) (Method : Ls) (Target : Ls) (Minor:Int) (Chunked:Bool) (stage:Int) (lines:Int) (head:Int) (need:Int) (begun:Bool) (waits:Bool) (p:Int) (Line:Int) (Fields:Int) (Head:Int) (Body:Int) (Ext:Int) (Trailers:Int) (Wait:Int) (Idle:Int) (Chunked_2:Bool) (Old:Bool) (err:Int) (Method_2 : Ls) (Target_2 : Ls) (Minor_2:Int) (Chunked_3:Bool) (stage_2:Int) (lines_2:Int) (head_2:Int) (need_2:Int) (begun_2:Bool) (waits_2:Bool) (p_2:Int) (Line_2:Int) (Fields_2:Int) (Head_2:Int) (Body_2:Int) (Ext_2:Int) (Trailers_2:Int) (Wait_2:Int) (Idle_2:Int) (Chunked_4:Bool) (Old_2:Bool) (err_2:Int) (parts : List (Ls)) (out : List (Ls × Ls × Int × Lf × Bool × Ls × Lf)) (p_3:Int) (most:Int) (pending:Bool) (over:Bool) (bad:Bool) (b : Ls) (Fields_3 : Lf) (Body_3 : Ls) (Trailers_3 : Lf) (out_2 : List (Ls × Ls × Int × Lf × Bool × Ls × Lf)) (p_4:Int) (most_2:Int) (pending_2:Bool) (over_2:Bool) (bad_2:Bool) (b_2 : Ls) (Fields_4 : Lf) (Body_4 : Ls) (Trailers_4 : Lf) (out_3 : List (Ls × Ls × Int × Lf × Bool × Ls × Lf)) (l : Ls) (t19:Int) (t20:Int) : Tr (Zt ⊕ (Rt ⊕ Rt)) :=
 .br (decide (t20 < t19)) (.br (verdict == (2:Int)) (.okl out.length<|.okl b.length<|.okl Fields_3.length<|.okl Body_3.length<|.okl Trailers_3.length<|.okl out_2.length<|.okl b_2.length<|.okl Fields_4.length<|.okl Body_4.length<|.okl Trailers_4.length<|.okl out_3.length<|.ret (.inr (.inr (verdict, code, parted, Method, Target, Minor, Chunked, stage, lines, head, need, begun, waits, p, Line, Fields, Head, Body, Ext, Trailers, Wait, Idle, Chunked_2, Old, err, Method_2, Target_2, Minor_2, Chunked_3, stage_2, lines_2, head_2, need_2, begun_2, waits_2, p_2, Line_2, Fields_2, Head_2, Body_2, Ext_2, Trailers_2, Wait_2, Idle_2, Chunked_4, Old_2, err_2, out, p_3, most, pending, over, bad, b, Fields_3, Body_3, Trailers_3, out_2, p_4, most_2, pending_2, over_2, bad_2, b_2, Fields_4, Body_4, Trailers_4, out_3))))
  (.two (.chk ((0:Int) <= t20 ∧ t20 <= IntKind.i64.wrap (t20 + (1:Int)) ∧ IntKind.i64.wrap (t20 + (1:Int)) <= (↑l.length:Int))<|.okl b.length<|.okl Fields_3.length<|.okl Body_3.length<|.okl Trailers_3.length<|.okl out_2.length<|.chk ((1:Nat) <= [List.drop t20.toNat (List.take (IntKind.i64.wrap (t20 + (1:Int))).toNat l)].length)<|.call (q47.f Method Target Minor Chunked stage lines head need begun waits p Line Fields Head Body Ext Trailers Wait Idle Chunked_2 Old err p_3 most pending over bad b Fields_3 Body_3 Trailers_3 (List.take (1:Nat) (List.drop (0:Nat) [List.drop t20.toNat (List.take (IntKind.i64.wrap (t20 + (1:Int))).toNat l)]))) fun (y1a, y1b, y1c, y1d, y1e, y1f, y1g, y1h, y1i, y1j, y1k, y1l, y1m, y1n, y1o, y1p, y1q, y1r, y1s, y1t, y1u, y1v, y1w, y1x, y1y, y1z, y1aa, y1ab, y1ac, y1ad, y1ae, y1af) =>
   .chk ((0:Int) <= t20 ∧ t20 <= IntKind.i64.wrap (t20 + (1:Int)) ∧ IntKind.i64.wrap (t20 + (1:Int)) <= (↑l.length:Int))<|.okl b_2.length<|.okl Fields_4.length<|.okl Body_4.length<|.okl Trailers_4.length<|.okl out_3.length<|.chk ((1:Nat) <= [List.drop t20.toNat (List.take (IntKind.i64.wrap (t20 + (1:Int))).toNat l)].length)<|.call (q47.f Method_2 Target_2 Minor_2 Chunked_3 stage_2 lines_2 head_2 need_2 begun_2 waits_2 p_2 Line_2 Fields_2 Head_2 Body_2 Ext_2 Trailers_2 Wait_2 Idle_2 Chunked_4 Old_2 err_2 p_4 most_2 pending_2 over_2 bad_2 b_2 Fields_4 Body_4 Trailers_4 (List.take (1:Nat) (List.drop (0:Nat) [List.drop t20.toNat (List.take (IntKind.i64.wrap (t20 + (1:Int))).toNat l)]))) fun (y2a, y2b, y2c, y2d, y2e, y2f, y2g, y2h, y2i, y2j, y2k, y2l, y2m, y2n, y2o, y2p, y2q, y2r, y2s, y2t, y2u, y2v, y2w, y2x, y2y, y2z, y2aa, y2ab, y2ac, y2ad, y2ae, y2af) =>
   .okl y2ac.length<|.okl y2ad.length<|.okl y2ae.length<|.okl y2af.length<|.okl y2w.length<|.call (q44.f y2ac y2ad y2ae y2af y2w) fun _ =>
   .okl y1ac.length<|.okl y1ad.length<|.okl y1ae.length<|.okl y1af.length<|.okl y1w.length<|.call (q44.f y1ac y1ad y1ae y1af y1w) fun _ =>
   .br (y1v != (0:Int)) (.okl y1ac.length<|.okl y1ad.length<|.okl y1ae.length<|.okl y1af.length<|.okl y1w.length<|.call (q44.f y1ac y1ad y1ae y1af y1w) fun _ =>
   .okl parts.length<|.okl out.length<|.okl y1ac.length<|.okl y1ad.length<|.okl y1ae.length<|.okl y1af.length<|.okl y1w.length<|.okl y2ac.length<|.okl y2ad.length<|.okl y2ae.length<|.okl y2af.length<|.okl y2w.length<|.ret (.inl ((2:Int), y1v, y2v == (0:Int), y1a, y1b, y1c, y1d, y1e, y1f, y1g, y1h, y1i, y1j, y1k, y1l, y1m, y1n, y1o, y1p, y1q, y1r, y1s, y1t, y1u, y1v, y2a, y2b, y2c, y2d, y2e, y2f, y2g, y2h, y2i, y2j, y2k, y2l, y2m, y2n, y2o, y2p, y2q, y2r, y2s, y2t, y2u, y2v, out, y1x, y1y, y1z, y1aa, y1ab, y1ac, y1ad, y1ae, y1af, y1w, y2x, y2y, y2z, y2aa, y2ab, y2ac, y2ad, y2ae, y2af, y2w, IntKind.i64.wrap (t20 + (1:Int)))))
   (.br (y2v != (0:Int)) (.okl parts.length<|.okl out.length<|.okl y1ac.length<|.okl y1ad.length<|.okl y1ae.length<|.okl y1af.length<|.okl y1w.length<|.okl y2ac.length<|.okl y2ad.length<|.okl y2ae.length<|.okl y2af.length<|.okl y2w.length<|.ret (.inl ((2:Int), 400, true, y1a, y1b, y1c, y1d, y1e, y1f, y1g, y1h, y1i, y1j, y1k, y1l, y1m, y1n, y1o, y1p, y1q, y1r, y1s, y1t, y1u, y1v, y2a, y2b, y2c, y2d, y2e, y2f, y2g, y2h, y2i, y2j, y2k, y2l, y2m, y2n, y2o, y2p, y2q, y2r, y2s, y2t, y2u, y2v, out, y1x, y1y, y1z, y1aa, y1ab, y1ac, y1ad, y1ae, y1af, y1w, y2x, y2y, y2z, y2aa, y2ab, y2ac, y2ad, y2ae, y2af, y2w, IntKind.i64.wrap (t20 + (1:Int)))))
   (.chk ((0:Nat) + y1w.length <= y1w.length)<|.chk ((0:Nat) + y2w.length <= y2w.length)<|.call (q5y.f (List.take y1w.length (List.drop (0:Nat) y1w)) (List.take y2w.length (List.drop (0:Nat) y2w))) fun y6 =>
    .br (!y6) (.okl parts.length<|.okl out.length<|.okl y1ac.length<|.okl y1ad.length<|.okl y1ae.length<|.okl y1af.length<|.okl y1w.length<|.okl y2ac.length<|.okl y2ad.length<|.okl y2ae.length<|.okl y2af.length<|.okl y2w.length<|.ret (.inl ((2:Int), 400, true, y1a, y1b, y1c, y1d, y1e, y1f, y1g, y1h, y1i, y1j, y1k, y1l, y1m, y1n, y1o, y1p, y1q, y1r, y1s, y1t, y1u, y1v, y2a, y2b, y2c, y2d, y2e, y2f, y2g, y2h, y2i, y2j, y2k, y2l, y2m, y2n, y2o, y2p, y2q, y2r, y2s, y2t, y2u, y2v, out, y1x, y1y, y1z, y1aa, y1ab, y1ac, y1ad, y1ae, y1af, y1w, y2x, y2y, y2z, y2aa, y2ab, y2ac, y2ad, y2ae, y2af, y2w, IntKind.i64.wrap (t20 + (1:Int)))))
    (.chk ((0:Nat) + y1w.length <= y1w.length)<|.chk ((0:Nat) + out.length <= out.length)<|.chk ((out.length + y1w.length) * (120:Nat) <= (140737488355328:Nat))<|.okl parts.length<|.chk ((0:Nat) = (0:Nat) ∧ out.length + y1w.length = (List.take out.length (List.drop (0:Nat) out) ++ List.take y1w.length (List.drop (0:Nat) y1w)).length)<|.okl y1ac.length<|.okl y1ad.length<|.okl y1ae.length<|.okl y1af.length<|.okl y1w.length<|.okl y2ac.length<|.okl y2ad.length<|.okl y2ae.length<|.okl y2af.length<|.okl y2w.length<|.ret (.inl (verdict, code, parted, y1a, y1b, y1c, y1d, y1e, y1f, y1g, y1h, y1i, y1j, y1k, y1l, y1m, y1n, y1o, y1p, y1q, y1r, y1s, y1t, y1u, y1v, y2a, y2b, y2c, y2d, y2e, y2f, y2g, y2h, y2i, y2j, y2k, y2l, y2m, y2n, y2o, y2p, y2q, y2r, y2s, y2t, y2u, y2v, List.take out.length (List.drop (0:Nat) out) ++ List.take y1w.length (List.drop (0:Nat) y1w), y1x, y1y, y1z, y1aa, y1ab, y1ac, y1ad, y1ae, y1af, y1w, y2x, y2y, y2z, y2aa, y2ab, y2ac, y2ad, y2ae, y2af, y2w, IntKind.i64.wrap (t20 + (1:Int))))))))
  (.twice<|.chk ((0:Int) <= t20 ∧ t20 <= IntKind.i64.wrap (t20 + (1:Int)) ∧ IntKind.i64.wrap (t20 + (1:Int)) <= (↑l.length:Int))<|.chk ((0:Int) <= t20 ∧ t20 <= IntKind.i64.wrap (t20 + (1:Int)) ∧ IntKind.i64.wrap (t20 + (1:Int)) <= (↑l.length:Int))<|.okl b.length<|.okl Fields_3.length<|.okl Body_3.length<|.okl Trailers_3.length<|.okl out_2.length<|.chk ((1:Nat) <= [List.drop t20.toNat (List.take (IntKind.i64.wrap (t20 + (1:Int))).toNat l)].length)<|.call (q47.f Method Target Minor Chunked stage lines head need begun waits p Line Fields Head Body Ext Trailers Wait Idle Chunked_2 Old err p_3 most pending over bad b Fields_3 Body_3 Trailers_3 (List.take (1:Nat) (List.drop (0:Nat) [List.drop t20.toNat (List.take (IntKind.i64.wrap (t20 + (1:Int))).toNat l)]))) fun (y1a, y1b, y1c, y1d, y1e, y1f, y1g, y1h, y1i, y1j, y1k, y1l, y1m, y1n, y1o, y1p, y1q, y1r, y1s, y1t, y1u, y1v, y1w, y1x, y1y, y1z, y1aa, y1ab, y1ac, y1ad, y1ae, y1af) =>
   .okl b_2.length<|.okl Fields_4.length<|.okl Body_4.length<|.okl Trailers_4.length<|.okl out_3.length<|.chk ((1:Nat) <= [List.drop t20.toNat (List.take (IntKind.i64.wrap (t20 + (1:Int))).toNat l)].length)<|.call (q47.f Method_2 Target_2 Minor_2 Chunked_3 stage_2 lines_2 head_2 need_2 begun_2 waits_2 p_2 Line_2 Fields_2 Head_2 Body_2 Ext_2 Trailers_2 Wait_2 Idle_2 Chunked_4 Old_2 err_2 p_4 most_2 pending_2 over_2 bad_2 b_2 Fields_4 Body_4 Trailers_4 (List.take (1:Nat) (List.drop (0:Nat) [List.drop t20.toNat (List.take (IntKind.i64.wrap (t20 + (1:Int))).toNat l)]))) fun (y2a, y2b, y2c, y2d, y2e, y2f, y2g, y2h, y2i, y2j, y2k, y2l, y2m, y2n, y2o, y2p, y2q, y2r, y2s, y2t, y2u, y2v, y2w, y2x, y2y, y2z, y2aa, y2ab, y2ac, y2ad, y2ae, y2af) =>
   .okl y2ac.length<|.okl y2ad.length<|.okl y2ae.length<|.okl y2af.length<|.okl y2w.length<|.call (q44.f y2ac y2ad y2ae y2af y2w) fun _ =>
   .okl y1ac.length<|.okl y1ad.length<|.okl y1ae.length<|.okl y1af.length<|.okl y1w.length<|.call (q44.f y1ac y1ad y1ae y1af y1w) fun _ =>
   .br (y1v != (0:Int)) (.okl y1ac.length<|.okl y1ad.length<|.okl y1ae.length<|.okl y1af.length<|.okl y1w.length<|.call (q44.f y1ac y1ad y1ae y1af y1w) fun _ =>
   .okl parts.length<|.okl out.length<|.okl y1ac.length<|.okl y1ad.length<|.okl y1ae.length<|.okl y1af.length<|.okl y1w.length<|.okl y2ac.length<|.okl y2ad.length<|.okl y2ae.length<|.okl y2af.length<|.okl y2w.length<|.ret (.inl ((2:Int), y1v, y2v == (0:Int), y1a, y1b, y1c, y1d, y1e, y1f, y1g, y1h, y1i, y1j, y1k, y1l, y1m, y1n, y1o, y1p, y1q, y1r, y1s, y1t, y1u, y1v, y2a, y2b, y2c, y2d, y2e, y2f, y2g, y2h, y2i, y2j, y2k, y2l, y2m, y2n, y2o, y2p, y2q, y2r, y2s, y2t, y2u, y2v, out, y1x, y1y, y1z, y1aa, y1ab, y1ac, y1ad, y1ae, y1af, y1w, y2x, y2y, y2z, y2aa, y2ab, y2ac, y2ad, y2ae, y2af, y2w, IntKind.i64.wrap (t20 + (1:Int)))))
   (.br (y2v != (0:Int)) (.okl parts.length<|.okl out.length<|.okl y1ac.length<|.okl y1ad.length<|.okl y1ae.length<|.okl y1af.length<|.okl y1w.length<|.okl y2ac.length<|.okl y2ad.length<|.okl y2ae.length<|.okl y2af.length<|.okl y2w.length<|.ret (.inl ((2:Int), 400, true, y1a, y1b, y1c, y1d, y1e, y1f, y1g, y1h, y1i, y1j, y1k, y1l, y1m, y1n, y1o, y1p, y1q, y1r, y1s, y1t, y1u, y1v, y2a, y2b, y2c, y2d, y2e, y2f, y2g, y2h, y2i, y2j, y2k, y2l, y2m, y2n, y2o, y2p, y2q, y2r, y2s, y2t, y2u, y2v, out, y1x, y1y, y1z, y1aa, y1ab, y1ac, y1ad, y1ae, y1af, y1w, y2x, y2y, y2z, y2aa, y2ab, y2ac, y2ad, y2ae, y2af, y2w, IntKind.i64.wrap (t20 + (1:Int)))))
   (.chk ((0:Nat) + y1w.length <= y1w.length)<|.chk ((0:Nat) + y2w.length <= y2w.length)<|.call (q5y.f (List.take y1w.length (List.drop (0:Nat) y1w)) (List.take y2w.length (List.drop (0:Nat) y2w))) fun y6 =>
    .br (!y6) (.okl parts.length<|.okl out.length<|.okl y1ac.length<|.okl y1ad.length<|.okl y1ae.length<|.okl y1af.length<|.okl y1w.length<|.okl y2ac.length<|.okl y2ad.length<|.okl y2ae.length<|.okl y2af.length<|.okl y2w.length<|.ret (.inl ((2:Int), 400, true, y1a, y1b, y1c, y1d, y1e, y1f, y1g, y1h, y1i, y1j, y1k, y1l, y1m, y1n, y1o, y1p, y1q, y1r, y1s, y1t, y1u, y1v, y2a, y2b, y2c, y2d, y2e, y2f, y2g, y2h, y2i, y2j, y2k, y2l, y2m, y2n, y2o, y2p, y2q, y2r, y2s, y2t, y2u, y2v, out, y1x, y1y, y1z, y1aa, y1ab, y1ac, y1ad, y1ae, y1af, y1w, y2x, y2y, y2z, y2aa, y2ab, y2ac, y2ad, y2ae, y2af, y2w, IntKind.i64.wrap (t20 + (1:Int)))))
    (.chk ((0:Nat) + y1w.length <= y1w.length)<|.chk ((0:Nat) + out.length <= out.length)<|.chk ((out.length + y1w.length) * (120:Nat) <= (140737488355328:Nat))<|.okl parts.length<|.chk ((0:Nat) = (0:Nat) ∧ out.length + y1w.length = (List.take out.length (List.drop (0:Nat) out) ++ List.take y1w.length (List.drop (0:Nat) y1w)).length)<|.okl y1ac.length<|.okl y1ad.length<|.okl y1ae.length<|.okl y1af.length<|.okl y1w.length<|.okl y2ac.length<|.okl y2ad.length<|.okl y2ae.length<|.okl y2af.length<|.okl y2w.length<|.ret (.inl (verdict, code, parted, y1a, y1b, y1c, y1d, y1e, y1f, y1g, y1h, y1i, y1j, y1k, y1l, y1m, y1n, y1o, y1p, y1q, y1r, y1s, y1t, y1u, y1v, y2a, y2b, y2c, y2d, y2e, y2f, y2g, y2h, y2i, y2j, y2k, y2l, y2m, y2n, y2o, y2p, y2q, y2r, y2s, y2t, y2u, y2v, List.take out.length (List.drop (0:Nat) out) ++ List.take y1w.length (List.drop (0:Nat) y1w), y1x, y1y, y1z, y1aa, y1ab, y1ac, y1ad, y1ae, y1af, y1w, y2x, y2y, y2z, y2aa, y2ab, y2ac, y2ad, y2ae, y2af, y2w, IntKind.i64.wrap (t20 + (1:Int))))))))))
 (.okl parts.length<|.okl out.length<|.okl b.length<|.okl Fields_3.length<|.okl Body_3.length<|.okl Trailers_3.length<|.okl out_2.length<|.okl b_2.length<|.okl Fields_4.length<|.okl Body_4.length<|.okl Trailers_4.length<|.okl out_3.length<|.ret (.inr (.inl (verdict, code, parted, Method, Target, Minor, Chunked, stage, lines, head, need, begun, waits, p, Line, Fields, Head, Body, Ext, Trailers, Wait, Idle, Chunked_2, Old, err, Method_2, Target_2, Minor_2, Chunked_3, stage_2, lines_2, head_2, need_2, begun_2, waits_2, p_2, Line_2, Fields_2, Head_2, Body_2, Ext_2, Trailers_2, Wait_2, Idle_2, Chunked_4, Old_2, err_2, out, p_3, most, pending, over, bad, b, Fields_3, Body_3, Trailers_3, out_2, p_4, most_2, pending_2, over_2, bad_2, b_2, Fields_4, Body_4, Trailers_4, out_3))))
def f (verdict:Int) (code:Int) (parted:Bool) (Method : Ls) (Target : Ls) (Minor:Int) (Chunked:Bool) (stage:Int) (lines:Int) (head:Int) (need:Int) (begun:Bool) (waits:Bool) (p:Int) (Line:Int) (Fields:Int) (Head:Int) (Body:Int) (Ext:Int) (Trailers:Int) (Wait:Int) (Idle:Int) (Chunked_2:Bool) (Old:Bool) (err:Int) (Method_2 : Ls) (Target_2 : Ls) (Minor_2:Int) (Chunked_3:Bool) (stage_2:Int) (lines_2:Int) (head_2:Int) (need_2:Int) (begun_2:Bool) (waits_2:Bool) (p_2:Int) (Line_2:Int) (Fields_2:Int) (Head_2:Int) (Body_2:Int) (Ext_2:Int) (Trailers_2:Int) (Wait_2:Int) (Idle_2:Int) (Chunked_4:Bool) (Old_2:Bool) (err_2:Int) (parts : List (Ls)) (out : List (Ls × Ls × Int × Lf × Bool × Ls × Lf)) (p_3:Int) (most:Int) (pending:Bool) (over:Bool) (bad:Bool) (b : Ls) (Fields_3 : Lf) (Body_3 : Ls) (Trailers_3 : Lf) (out_2 : List (Ls × Ls × Int × Lf × Bool × Ls × Lf)) (p_4:Int) (most_2:Int) (pending_2:Bool) (over_2:Bool) (bad_2:Bool) (b_2 : Ls) (Fields_4 : Lf) (Body_4 : Ls) (Trailers_4 : Lf) (out_3 : List (Ls × Ls × Int × Lf × Bool × Ls × Lf)) (l : Ls) (t19:Int) (t20:Int) := Loop (fun z : Zt => t z.1 z.2.1 z.2.2.1 z.2.2.2.1 z.2.2.2.2.1 z.2.2.2.2.2.1 z.2.2.2.2.2.2.1 z.2.2.2.2.2.2.2.1 z.2.2.2.2.2.2.2.2.1 z.2.2.2.2.2.2.2.2.2.1 z.2.2.2.2.2.2.2.2.2.2.1 z.2.2.2.2.2.2.2.2.2.2.2.1 z.2.2.2.2.2.2.2.2.2.2.2.2.1 z.2.2.2.2.2.2.2.2.2.2.2.2.2.1 z.2.2.2.2.2.2.2.2.2.2.2.2.2.2.1 z.2.2.2.2.2.2.2.2.2.2.2.2.2.2.2.1 z.2.2.2.2.2.2.2.2.2.2.2.2.2.2.2.2.1 z.2.2.2.2.2.2.2.2.2.2.2.2.2.2.2.2.2.1 z.2.2.2.2.2.2.2.2.2.2.2.2.2.2.2.2.2.2.1 z.2.2.2.2.2.2.2.2.2.2.2.2.2.2.2.2.2.2.2.1 z.2.2.2.2.2.2.2.2.2.2.2.2.2.2.2.2.2.2.2.2.1 z.2.2.2.2.2.2.2.2.2.2.2.2.2.2.2.2.2.2.2.2.2.1 z.2.2.2.2.2.2.2.2.2.2.2.2.2.2.2.2.2.2.2.2.2.2.1 z.2.2.2.2.2.2.2.2.2.2.2.2.2.2.2.2.2.2.2.2.2.2.2.1 z.2.2.2.2.2.2.2.2.2.2.2.2.2.2.2.2.2.2.2.2.2.2.2.2.1 z.2.2.2.2.2.2.2.2.2.2.2.2.2.2.2.2.2.2.2.2.2.2.2.2.2.1 z.2.2.2.2.2.2.2.2.2.2.2.2.2.2.2.2.2.2.2.2.2.2.2.2.2.2.1 z.2.2.2.2.2.2.2.2.2.2.2.2.2.2.2.2.2.2.2.2.2.2.2.2.2.2.2.1 z.2.2.2.2.2.2.2.2.2.2.2.2.2.2.2.2.2.2.2.2.2.2.2.2.2.2.2.2.1 z.2.2.2.2.2.2.2.2.2.2.2.2.2.2.2.2.2.2.2.2.2.2.2.2.2.2.2.2.2.1 z.2.2.2.2.2.2.2.2.2.2.2.2.2.2.2.2.2.2.2.2.2.2.2.2.2.2.2.2.2.2.1 z.2.2.2.2.2.2.2.2.2.2.2.2.2.2.2.2.2.2.2.2.2.2.2.2.2.2.2.2.2.2.2.1 z.2.2.2.2.2.2.2.2.2.2.2.2.2.2.2.2.2.2.2.2.2.2.2.2.2.2.2.2.2.2.2.2.1 z.2.2.2.2.2.2.2.2.2.2.2.2.2.2.2.2.2.2.2.2.2.2.2.2.2.2.2.2.2.2.2.2.2.1 z.2.2.2.2.2.2.2.2.2.2.2.2.2.2.2.2.2.2.2.2.2.2.2.2.2.2.2.2.2.2.2.2.2.2.1 z.2.2.2.2.2.2.2.2.2.2.2.2.2.2.2.2.2.2.2.2.2.2.2.2.2.2.2.2.2.2.2.2.2.2.2.1 z.2.2.2.2.2.2.2.2.2.2.2.2.2.2.2.2.2.2.2.2.2.2.2.2.2.2.2.2.2.2.2.2.2.2.2.2.1 z.2.2.2.2.2.2.2.2.2.2.2.2.2.2.2.2.2.2.2.2.2.2.2.2.2.2.2.2.2.2.2.2.2.2.2.2.2.1 z.2.2.2.2.2.2.2.2.2.2.2.2.2.2.2.2.2.2.2.2.2.2.2.2.2.2.2.2.2.2.2.2.2.2.2.2.2.2.1 z.2.2.2.2.2.2.2.2.2.2.2.2.2.2.2.2.2.2.2.2.2.2.2.2.2.2.2.2.2.2.2.2.2.2.2.2.2.2.2.1 z.2.2.2.2.2.2.2.2.2.2.2.2.2.2.2.2.2.2.2.2.2.2.2.2.2.2.2.2.2.2.2.2.2.2.2.2.2.2.2.2.1 z.2.2.2.2.2.2.2.2.2.2.2.2.2.2.2.2.2.2.2.2.2.2.2.2.2.2.2.2.2.2.2.2.2.2.2.2.2.2.2.2.2.1 z.2.2.2.2.2.2.2.2.2.2.2.2.2.2.2.2.2.2.2.2.2.2.2.2.2.2.2.2.2.2.2.2.2.2.2.2.2.2.2.2.2.2.1 z.2.2.2.2.2.2.2.2.2.2.2.2.2.2.2.2.2.2.2.2.2.2.2.2.2.2.2.2.2.2.2.2.2.2.2.2.2.2.2.2.2.2.2.1 z.2.2.2.2.2.2.2.2.2.2.2.2.2.2.2.2.2.2.2.2.2.2.2.2.2.2.2.2.2.2.2.2.2.2.2.2.2.2.2.2.2.2.2.2.1 z.2.2.2.2.2.2.2.2.2.2.2.2.2.2.2.2.2.2.2.2.2.2.2.2.2.2.2.2.2.2.2.2.2.2.2.2.2.2.2.2.2.2.2.2.2.1 z.2.2.2.2.2.2.2.2.2.2.2.2.2.2.2.2.2.2.2.2.2.2.2.2.2.2.2.2.2.2.2.2.2.2.2.2.2.2.2.2.2.2.2.2.2.2.1 parts z.2.2.2.2.2.2.2.2.2.2.2.2.2.2.2.2.2.2.2.2.2.2.2.2.2.2.2.2.2.2.2.2.2.2.2.2.2.2.2.2.2.2.2.2.2.2.2.1 z.2.2.2.2.2.2.2.2.2.2.2.2.2.2.2.2.2.2.2.2.2.2.2.2.2.2.2.2.2.2.2.2.2.2.2.2.2.2.2.2.2.2.2.2.2.2.2.2.1 z.2.2.2.2.2.2.2.2.2.2.2.2.2.2.2.2.2.2.2.2.2.2.2.2.2.2.2.2.2.2.2.2.2.2.2.2.2.2.2.2.2.2.2.2.2.2.2.2.2.1 z.2.2.2.2.2.2.2.2.2.2.2.2.2.2.2.2.2.2.2.2.2.2.2.2.2.2.2.2.2.2.2.2.2.2.2.2.2.2.2.2.2.2.2.2.2.2.2.2.2.2.1 z.2.2.2.2.2.2.2.2.2.2.2.2.2.2.2.2.2.2.2.2.2.2.2.2.2.2.2.2.2.2.2.2.2.2.2.2.2.2.2.2.2.2.2.2.2.2.2.2.2.2.2.1 z.2.2.2.2.2.2.2.2.2.2.2.2.2.2.2.2.2.2.2.2.2.2.2.2.2.2.2.2.2.2.2.2.2.2.2.2.2.2.2.2.2.2.2.2.2.2.2.2.2.2.2.2.1 z.2.2.2.2.2.2.2.2.2.2.2.2.2.2.2.2.2.2.2.2.2.2.2.2.2.2.2.2.2.2.2.2.2.2.2.2.2.2.2.2.2.2.2.2.2.2.2.2.2.2.2.2.2.1 z.2.2.2.2.2.2.2.2.2.2.2.2.2.2.2.2.2.2.2.2.2.2.2.2.2.2.2.2.2.2.2.2.2.2.2.2.2.2.2.2.2.2.2.2.2.2.2.2.2.2.2.2.2.2.1 z.2.2.2.2.2.2.2.2.2.2.2.2.2.2.2.2.2.2.2.2.2.2.2.2.2.2.2.2.2.2.2.2.2.2.2.2.2.2.2.2.2.2.2.2.2.2.2.2.2.2.2.2.2.2.2.1 z.2.2.2.2.2.2.2.2.2.2.2.2.2.2.2.2.2.2.2.2.2.2.2.2.2.2.2.2.2.2.2.2.2.2.2.2.2.2.2.2.2.2.2.2.2.2.2.2.2.2.2.2.2.2.2.2.1 z.2.2.2.2.2.2.2.2.2.2.2.2.2.2.2.2.2.2.2.2.2.2.2.2.2.2.2.2.2.2.2.2.2.2.2.2.2.2.2.2.2.2.2.2.2.2.2.2.2.2.2.2.2.2.2.2.2.1 z.2.2.2.2.2.2.2.2.2.2.2.2.2.2.2.2.2.2.2.2.2.2.2.2.2.2.2.2.2.2.2.2.2.2.2.2.2.2.2.2.2.2.2.2.2.2.2.2.2.2.2.2.2.2.2.2.2.2.1 z.2.2.2.2.2.2.2.2.2.2.2.2.2.2.2.2.2.2.2.2.2.2.2.2.2.2.2.2.2.2.2.2.2.2.2.2.2.2.2.2.2.2.2.2.2.2.2.2.2.2.2.2.2.2.2.2.2.2.2.1 z.2.2.2.2.2.2.2.2.2.2.2.2.2.2.2.2.2.2.2.2.2.2.2.2.2.2.2.2.2.2.2.2.2.2.2.2.2.2.2.2.2.2.2.2.2.2.2.2.2.2.2.2.2.2.2.2.2.2.2.2.1 z.2.2.2.2.2.2.2.2.2.2.2.2.2.2.2.2.2.2.2.2.2.2.2.2.2.2.2.2.2.2.2.2.2.2.2.2.2.2.2.2.2.2.2.2.2.2.2.2.2.2.2.2.2.2.2.2.2.2.2.2.2.1 z.2.2.2.2.2.2.2.2.2.2.2.2.2.2.2.2.2.2.2.2.2.2.2.2.2.2.2.2.2.2.2.2.2.2.2.2.2.2.2.2.2.2.2.2.2.2.2.2.2.2.2.2.2.2.2.2.2.2.2.2.2.2.1 z.2.2.2.2.2.2.2.2.2.2.2.2.2.2.2.2.2.2.2.2.2.2.2.2.2.2.2.2.2.2.2.2.2.2.2.2.2.2.2.2.2.2.2.2.2.2.2.2.2.2.2.2.2.2.2.2.2.2.2.2.2.2.2.1 z.2.2.2.2.2.2.2.2.2.2.2.2.2.2.2.2.2.2.2.2.2.2.2.2.2.2.2.2.2.2.2.2.2.2.2.2.2.2.2.2.2.2.2.2.2.2.2.2.2.2.2.2.2.2.2.2.2.2.2.2.2.2.2.2.1 z.2.2.2.2.2.2.2.2.2.2.2.2.2.2.2.2.2.2.2.2.2.2.2.2.2.2.2.2.2.2.2.2.2.2.2.2.2.2.2.2.2.2.2.2.2.2.2.2.2.2.2.2.2.2.2.2.2.2.2.2.2.2.2.2.2.1 z.2.2.2.2.2.2.2.2.2.2.2.2.2.2.2.2.2.2.2.2.2.2.2.2.2.2.2.2.2.2.2.2.2.2.2.2.2.2.2.2.2.2.2.2.2.2.2.2.2.2.2.2.2.2.2.2.2.2.2.2.2.2.2.2.2.2.1 z.2.2.2.2.2.2.2.2.2.2.2.2.2.2.2.2.2.2.2.2.2.2.2.2.2.2.2.2.2.2.2.2.2.2.2.2.2.2.2.2.2.2.2.2.2.2.2.2.2.2.2.2.2.2.2.2.2.2.2.2.2.2.2.2.2.2.2.1 l t19 z.2.2.2.2.2.2.2.2.2.2.2.2.2.2.2.2.2.2.2.2.2.2.2.2.2.2.2.2.2.2.2.2.2.2.2.2.2.2.2.2.2.2.2.2.2.2.2.2.2.2.2.2.2.2.2.2.2.2.2.2.2.2.2.2.2.2.2.2) (verdict, code, parted, Method, Target, Minor, Chunked, stage, lines, head, need, begun, waits, p, Line, Fields, Head, Body, Ext, Trailers, Wait, Idle, Chunked_2, Old, err, Method_2, Target_2, Minor_2, Chunked_3, stage_2, lines_2, head_2, need_2, begun_2, waits_2, p_2, Line_2, Fields_2, Head_2, Body_2, Ext_2, Trailers_2, Wait_2, Idle_2, Chunked_4, Old_2, err_2, out, p_3, most, pending, over, bad, b, Fields_3, Body_3, Trailers_3, out_2, p_4, most_2, pending_2, over_2, bad_2, b_2, Fields_4, Body_4, Trailers_4, out_3, t20)
def F (x : D.den) := f x.1.1.2.2.1 x.1.1.2.2.2.1 x.1.1.2.2.2.2 x.1.2.1.2.1 x.1.2.1.2.2.1 x.1.2.1.2.2.2.1 x.1.2.1.2.2.2.2.2.1 x.1.2.1.2.2.2.2.2.2.2.2.1 x.1.2.1.2.2.2.2.2.2.2.2.2.1 x.1.2.1.2.2.2.2.2.2.2.2.2.2.1 x.1.2.1.2.2.2.2.2.2.2.2.2.2.2.1 x.1.2.1.2.2.2.2.2.2.2.2.2.2.2.2.1 x.1.2.1.2.2.2.2.2.2.2.2.2.2.2.2.2.1 x.1.2.1.2.2.2.2.2.2.2.2.2.2.2.2.2.2.1 x.1.2.1.2.2.2.2.2.2.2.2.2.2.2.2.2.2.2.1 x.1.2.1.2.2.2.2.2.2.2.2.2.2.2.2.2.2.2.2.1 x.1.2.1.2.2.2.2.2.2.2.2.2.2.2.2.2.2.2.2.2.1 x.1.2.1.2.2.2.2.2.2.2.2.2.2.2.2.2.2.2.2.2.2.1 x.1.2.1.2.2.2.2.2.2.2.2.2.2.2.2.2.2.2.2.2.2.2.1 x.1.2.1.2.2.2.2.2.2.2.2.2.2.2.2.2.2.2.2.2.2.2.2.1 x.1.2.1.2.2.2.2.2.2.2.2.2.2.2.2.2.2.2.2.2.2.2.2.2.1 x.1.2.1.2.2.2.2.2.2.2.2.2.2.2.2.2.2.2.2.2.2.2.2.2.2.1 x.1.2.1.2.2.2.2.2.2.2.2.2.2.2.2.2.2.2.2.2.2.2.2.2.2.2.1 x.1.2.1.2.2.2.2.2.2.2.2.2.2.2.2.2.2.2.2.2.2.2.2.2.2.2.2.1 x.1.2.1.2.2.2.2.2.2.2.2.2.2.2.2.2.2.2.2.2.2.2.2.2.2.2.2.2.1 x.1.2.2.2.2.2.2.2.2.1.2.1 x.1.2.2.2.2.2.2.2.2.1.2.2.1 x.1.2.2.2.2.2.2.2.2.1.2.2.2.1 x.1.2.2.2.2.2.2.2.2.1.2.2.2.2.2.1 x.1.2.2.2.2.2.2.2.2.1.2.2.2.2.2.2.2.2.1 x.1.2.2.2.2.2.2.2.2.1.2.2.2.2.2.2.2.2.2.1 x.1.2.2.2.2.2.2.2.2.1.2.2.2.2.2.2.2.2.2.2.1 x.1.2.2.2.2.2.2.2.2.1.2.2.2.2.2.2.2.2.2.2.2.1 x.1.2.2.2.2.2.2.2.2.1.2.2.2.2.2.2.2.2.2.2.2.2.1 x.1.2.2.2.2.2.2.2.2.1.2.2.2.2.2.2.2.2.2.2.2.2.2.1 x.1.2.2.2.2.2.2.2.2.1.2.2.2.2.2.2.2.2.2.2.2.2.2.2.1 x.1.2.2.2.2.2.2.2.2.1.2.2.2.2.2.2.2.2.2.2.2.2.2.2.2.1 x.1.2.2.2.2.2.2.2.2.1.2.2.2.2.2.2.2.2.2.2.2.2.2.2.2.2.1 x.1.2.2.2.2.2.2.2.2.1.2.2.2.2.2.2.2.2.2.2.2.2.2.2.2.2.2.1 x.1.2.2.2.2.2.2.2.2.1.2.2.2.2.2.2.2.2.2.2.2.2.2.2.2.2.2.2.1 x.1.2.2.2.2.2.2.2.2.1.2.2.2.2.2.2.2.2.2.2.2.2.2.2.2.2.2.2.2.1 x.1.2.2.2.2.2.2.2.2.1.2.2.2.2.2.2.2.2.2.2.2.2.2.2.2.2.2.2.2.2.1 x.1.2.2.2.2.2.2.2.2.1.2.2.2.2.2.2.2.2.2.2.2.2.2.2.2.2.2.2.2.2.2.1 x.1.2.2.2.2.2.2.2.2.1.2.2.2.2.2.2.2.2.2.2.2.2.2.2.2.2.2.2.2.2.2.2.1 x.1.2.2.2.2.2.2.2.2.1.2.2.2.2.2.2.2.2.2.2.2.2.2.2.2.2.2.2.2.2.2.2.2.1 x.1.2.2.2.2.2.2.2.2.1.2.2.2.2.2.2.2.2.2.2.2.2.2.2.2.2.2.2.2.2.2.2.2.2.1 x.1.2.2.2.2.2.2.2.2.1.2.2.2.2.2.2.2.2.2.2.2.2.2.2.2.2.2.2.2.2.2.2.2.2.2.1 x.1.2.2.2.2.2.2.2.2.2.2.2.2.2.2.2.1 x.1.2.2.2.2.2.2.2.2.2.2.2.2.2.2.2.2.1 x.1.2.2.2.2.2.2.2.2.2.2.2.2.2.2.2.2.2.1.1 x.1.2.2.2.2.2.2.2.2.2.2.2.2.2.2.2.2.2.1.2.1 x.1.2.2.2.2.2.2.2.2.2.2.2.2.2.2.2.2.2.1.2.2.2.1 x.1.2.2.2.2.2.2.2.2.2.2.2.2.2.2.2.2.2.1.2.2.2.2.1 x.1.2.2.2.2.2.2.2.2.2.2.2.2.2.2.2.2.2.1.2.2.2.2.2 x.1.2.2.2.2.2.2.2.2.2.2.2.2.2.2.2.2.2.2.1 x.1.2.2.2.2.2.2.2.2.2.2.2.2.2.2.2.2.2.2.2.1 x.1.2.2.2.2.2.2.2.2.2.2.2.2.2.2.2.2.2.2.2.2.1 x.1.2.2.2.2.2.2.2.2.2.2.2.2.2.2.2.2.2.2.2.2.2.1 x.1.2.2.2.2.2.2.2.2.2.2.2.2.2.2.2.2.2.2.2.2.2.2.1 x.1.2.2.2.2.2.2.2.2.2.2.2.2.2.2.2.2.2.2.2.2.2.2.2.1.1 x.1.2.2.2.2.2.2.2.2.2.2.2.2.2.2.2.2.2.2.2.2.2.2.2.1.2.1 x.1.2.2.2.2.2.2.2.2.2.2.2.2.2.2.2.2.2.2.2.2.2.2.2.1.2.2.2.1 x.1.2.2.2.2.2.2.2.2.2.2.2.2.2.2.2.2.2.2.2.2.2.2.2.1.2.2.2.2.1 x.1.2.2.2.2.2.2.2.2.2.2.2.2.2.2.2.2.2.2.2.2.2.2.2.1.2.2.2.2.2 x.1.2.2.2.2.2.2.2.2.2.2.2.2.2.2.2.2.2.2.2.2.2.2.2.2.1 x.1.2.2.2.2.2.2.2.2.2.2.2.2.2.2.2.2.2.2.2.2.2.2.2.2.2.1 x.1.2.2.2.2.2.2.2.2.2.2.2.2.2.2.2.2.2.2.2.2.2.2.2.2.2.2.1 x.1.2.2.2.2.2.2.2.2.2.2.2.2.2.2.2.2.2.2.2.2.2.2.2.2.2.2.2.1 x.1.2.2.2.2.2.2.2.2.2.2.2.2.2.2.2.2.2.2.2.2.2.2.2.2.2.2.2.2.1 x.2.2.2.1 x.2.2.2.2.2.2.2.1 x.2.2.2.2.2.2.2.2
def pa : D.den -> Rt -> A.den := fun (((_, (_, (_, (_, _)))), ((_, (_, (_, (_, (_, (_, (_, (_, (_, (_, (_, (_, (_, (_, (_, (_, (_, (_, (_, (_, (_, (_, (_, (_, (_, (_, _)))))))))))))))))))))))))), (_, (_, (_, (_, (_, (_, ((_, (_, (_, (_, (_, (_, (_, (_, (_, (_, (_, (_, (_, (_, (_, (_, (_, (_, (_, (_, (_, (_, (_, (_, (_, (_, _)))))))))))))))))))))))))), (_, (_, (_, (_, (_, (_, (parts, (_, ((_, (_, (_, (_, (_, _))))), (_, (_, (_, (_, (_, ((_, (_, (_, (_, (_, _))))), (_, (_, (_, (_, (_, _))))))))))))))))))))))))))))), (_, (_, (_, (_, (t13, (t14, (_, _)))))))) (y1, y2, y3, y4, y5, y6, y7, y8, y9, y10, y11, y12, y13, y14, y15, y16, y17, y18, y19, y20, y21, y22, y23, y24, y25, y26, y27, y28, y29, y30, y31, y32, y33, y34, y35, y36, y37, y38, y39, y40, y41, y42, y43, y44, y45, y46, y47, y48, y49, y50, y51, y52, y53, y54, y55, y56, y57, y58, y59, y60, y61, y62, y63, y64, y65, y66, y67, y68) => ((((), ((), (y1, (y2, y3)))), (((), (y4, (y5, (y6, ((), (y7, ((), ((), (y8, (y9, (y10, (y11, (y12, (y13, (y14, (y15, (y16, (y17, (y18, (y19, (y20, (y21, (y22, (y23, (y24, (y25, ())))))))))))))))))))))))))), ((), ((), ((), ((), ((), ((), (((), (y26, (y27, (y28, ((), (y29, ((), ((), (y30, (y31, (y32, (y33, (y34, (y35, (y36, (y37, (y38, (y39, (y40, (y41, (y42, (y43, (y44, (y45, (y46, (y47, ())))))))))))))))))))))))))), ((), ((), ((), ((), ((), ((), (parts, (y48, ((y49, (y50, ((), (y51, (y52, y53))))), (y54, (y55, (y56, (y57, (y58, ((y59, (y60, ((), (y61, (y62, y63))))), (y64, (y65, (y66, (y67, (y68, ()))))))))))))))))))))))))))))), ((), ((), ((), (t13, t14)))))
def pb : D.den -> Rt -> B.den := fun (((_, (_, (_, (_, _)))), ((_, (_, (_, (_, (_, (_, (_, (_, (_, (_, (_, (_, (_, (_, (_, (_, (_, (_, (_, (_, (_, (_, (_, (_, (_, (_, _)))))))))))))))))))))))))), (_, (_, (_, (_, (_, (_, ((_, (_, (_, (_, (_, (_, (_, (_, (_, (_, (_, (_, (_, (_, (_, (_, (_, (_, (_, (_, (_, (_, (_, (_, (_, (_, _)))))))))))))))))))))))))), (_, (_, (_, (_, (_, (_, (parts, (_, ((_, (_, (_, (_, (_, _))))), (_, (_, (_, (_, (_, ((_, (_, (_, (_, (_, _))))), (_, (_, (_, (_, (_, _))))))))))))))))))))))))))))), (_, (_, (_, (_, (_, (_, (_, _)))))))) (y1, y2, y3, y4, y5, y6, y7, y8, y9, y10, y11, y12, y13, y14, y15, y16, y17, y18, y19, y20, y21, y22, y23, y24, y25, y26, y27, y28, y29, y30, y31, y32, y33, y34, y35, y36, y37, y38, y39, y40, y41, y42, y43, y44, y45, y46, y47, y48, y49, y50, y51, y52, y53, y54, y55, y56, y57, y58, y59, y60, y61, y62, y63, y64, y65, y66, y67, y68) => ((((), ((), (y1, (y2, y3)))), (((), (y4, (y5, (y6, ((), (y7, ((), ((), (y8, (y9, (y10, (y11, (y12, (y13, (y14, (y15, (y16, (y17, (y18, (y19, (y20, (y21, (y22, (y23, (y24, (y25, ())))))))))))))))))))))))))), ((), ((), ((), ((), ((), ((), (((), (y26, (y27, (y28, ((), (y29, ((), ((), (y30, (y31, (y32, (y33, (y34, (y35, (y36, (y37, (y38, (y39, (y40, (y41, (y42, (y43, (y44, (y45, (y46, (y47, ())))))))))))))))))))))))))), ((), ((), ((), ((), ((), ((), (parts, (y48, ((y49, (y50, ((), (y51, (y52, y53))))), (y54, (y55, (y56, (y57, (y58, ((y59, (y60, ((), (y61, (y62, y63))))), (y64, (y65, (y66, (y67, (y68, ()))))))))))))))))))))))))))))), ())
def lap : Lap := zim 6 89 [0, 5, 7, 12, 13, 14, 19, 20] D (.exit 2) [0, 5, 12, 13, 14] A .ret [4] B pa pb F
def pk (x : D.den) (z : Zt) : D.den := ((((), ((), (z.1, (z.2.1, z.2.2.1)))), (((), (z.2.2.2.1, (z.2.2.2.2.1, (z.2.2.2.2.2.1, ((), (z.2.2.2.2.2.2.1, ((), ((), (z.2.2.2.2.2.2.2.1, (z.2.2.2.2.2.2.2.2.1, (z.2.2.2.2.2.2.2.2.2.1, (z.2.2.2.2.2.2.2.2.2.2.1, (z.2.2.2.2.2.2.2.2.2.2.2.1, (z.2.2.2.2.2.2.2.2.2.2.2.2.1, (z.2.2.2.2.2.2.2.2.2.2.2.2.2.1, (z.2.2.2.2.2.2.2.2.2.2.2.2.2.2.1, (z.2.2.2.2.2.2.2.2.2.2.2.2.2.2.2.1, (z.2.2.2.2.2.2.2.2.2.2.2.2.2.2.2.2.1, (z.2.2.2.2.2.2.2.2.2.2.2.2.2.2.2.2.2.1, (z.2.2.2.2.2.2.2.2.2.2.2.2.2.2.2.2.2.2.1, (z.2.2.2.2.2.2.2.2.2.2.2.2.2.2.2.2.2.2.2.1, (z.2.2.2.2.2.2.2.2.2.2.2.2.2.2.2.2.2.2.2.2.1, (z.2.2.2.2.2.2.2.2.2.2.2.2.2.2.2.2.2.2.2.2.2.1, (z.2.2.2.2.2.2.2.2.2.2.2.2.2.2.2.2.2.2.2.2.2.2.1, (z.2.2.2.2.2.2.2.2.2.2.2.2.2.2.2.2.2.2.2.2.2.2.2.1, (z.2.2.2.2.2.2.2.2.2.2.2.2.2.2.2.2.2.2.2.2.2.2.2.2.1, ())))))))))))))))))))))))))), ((), ((), ((), ((), ((), ((), (((), (z.2.2.2.2.2.2.2.2.2.2.2.2.2.2.2.2.2.2.2.2.2.2.2.2.2.1, (z.2.2.2.2.2.2.2.2.2.2.2.2.2.2.2.2.2.2.2.2.2.2.2.2.2.2.1, (z.2.2.2.2.2.2.2.2.2.2.2.2.2.2.2.2.2.2.2.2.2.2.2.2.2.2.2.1, ((), (z.2.2.2.2.2.2.2.2.2.2.2.2.2.2.2.2.2.2.2.2.2.2.2.2.2.2.2.2.1, ((), ((), (z.2.2.2.2.2.2.2.2.2.2.2.2.2.2.2.2.2.2.2.2.2.2.2.2.2.2.2.2.2.1, (z.2.2.2.2.2.2.2.2.2.2.2.2.2.2.2.2.2.2.2.2.2.2.2.2.2.2.2.2.2.2.1, (z.2.2.2.2.2.2.2.2.2.2.2.2.2.2.2.2.2.2.2.2.2.2.2.2.2.2.2.2.2.2.2.1, (z.2.2.2.2.2.2.2.2.2.2.2.2.2.2.2.2.2.2.2.2.2.2.2.2.2.2.2.2.2.2.2.2.1, (z.2.2.2.2.2.2.2.2.2.2.2.2.2.2.2.2.2.2.2.2.2.2.2.2.2.2.2.2.2.2.2.2.2.1, (z.2.2.2.2.2.2.2.2.2.2.2.2.2.2.2.2.2.2.2.2.2.2.2.2.2.2.2.2.2.2.2.2.2.2.1, (z.2.2.2.2.2.2.2.2.2.2.2.2.2.2.2.2.2.2.2.2.2.2.2.2.2.2.2.2.2.2.2.2.2.2.2.1, (z.2.2.2.2.2.2.2.2.2.2.2.2.2.2.2.2.2.2.2.2.2.2.2.2.2.2.2.2.2.2.2.2.2.2.2.2.1, (z.2.2.2.2.2.2.2.2.2.2.2.2.2.2.2.2.2.2.2.2.2.2.2.2.2.2.2.2.2.2.2.2.2.2.2.2.2.1, (z.2.2.2.2.2.2.2.2.2.2.2.2.2.2.2.2.2.2.2.2.2.2.2.2.2.2.2.2.2.2.2.2.2.2.2.2.2.2.1, (z.2.2.2.2.2.2.2.2.2.2.2.2.2.2.2.2.2.2.2.2.2.2.2.2.2.2.2.2.2.2.2.2.2.2.2.2.2.2.2.1, (z.2.2.2.2.2.2.2.2.2.2.2.2.2.2.2.2.2.2.2.2.2.2.2.2.2.2.2.2.2.2.2.2.2.2.2.2.2.2.2.2.1, (z.2.2.2.2.2.2.2.2.2.2.2.2.2.2.2.2.2.2.2.2.2.2.2.2.2.2.2.2.2.2.2.2.2.2.2.2.2.2.2.2.2.1, (z.2.2.2.2.2.2.2.2.2.2.2.2.2.2.2.2.2.2.2.2.2.2.2.2.2.2.2.2.2.2.2.2.2.2.2.2.2.2.2.2.2.2.1, (z.2.2.2.2.2.2.2.2.2.2.2.2.2.2.2.2.2.2.2.2.2.2.2.2.2.2.2.2.2.2.2.2.2.2.2.2.2.2.2.2.2.2.2.1, (z.2.2.2.2.2.2.2.2.2.2.2.2.2.2.2.2.2.2.2.2.2.2.2.2.2.2.2.2.2.2.2.2.2.2.2.2.2.2.2.2.2.2.2.2.1, (z.2.2.2.2.2.2.2.2.2.2.2.2.2.2.2.2.2.2.2.2.2.2.2.2.2.2.2.2.2.2.2.2.2.2.2.2.2.2.2.2.2.2.2.2.2.1, (z.2.2.2.2.2.2.2.2.2.2.2.2.2.2.2.2.2.2.2.2.2.2.2.2.2.2.2.2.2.2.2.2.2.2.2.2.2.2.2.2.2.2.2.2.2.2.1, ())))))))))))))))))))))))))), ((), ((), ((), ((), ((), ((), (x.1.2.2.2.2.2.2.2.2.2.2.2.2.2.2.2.1, (z.2.2.2.2.2.2.2.2.2.2.2.2.2.2.2.2.2.2.2.2.2.2.2.2.2.2.2.2.2.2.2.2.2.2.2.2.2.2.2.2.2.2.2.2.2.2.2.1, ((z.2.2.2.2.2.2.2.2.2.2.2.2.2.2.2.2.2.2.2.2.2.2.2.2.2.2.2.2.2.2.2.2.2.2.2.2.2.2.2.2.2.2.2.2.2.2.2.2.1, (z.2.2.2.2.2.2.2.2.2.2.2.2.2.2.2.2.2.2.2.2.2.2.2.2.2.2.2.2.2.2.2.2.2.2.2.2.2.2.2.2.2.2.2.2.2.2.2.2.2.1, ((), (z.2.2.2.2.2.2.2.2.2.2.2.2.2.2.2.2.2.2.2.2.2.2.2.2.2.2.2.2.2.2.2.2.2.2.2.2.2.2.2.2.2.2.2.2.2.2.2.2.2.2.1, (z.2.2.2.2.2.2.2.2.2.2.2.2.2.2.2.2.2.2.2.2.2.2.2.2.2.2.2.2.2.2.2.2.2.2.2.2.2.2.2.2.2.2.2.2.2.2.2.2.2.2.2.1, z.2.2.2.2.2.2.2.2.2.2.2.2.2.2.2.2.2.2.2.2.2.2.2.2.2.2.2.2.2.2.2.2.2.2.2.2.2.2.2.2.2.2.2.2.2.2.2.2.2.2.2.2.1))))), (z.2.2.2.2.2.2.2.2.2.2.2.2.2.2.2.2.2.2.2.2.2.2.2.2.2.2.2.2.2.2.2.2.2.2.2.2.2.2.2.2.2.2.2.2.2.2.2.2.2.2.2.2.2.1, (z.2.2.2.2.2.2.2.2.2.2.2.2.2.2.2.2.2.2.2.2.2.2.2.2.2.2.2.2.2.2.2.2.2.2.2.2.2.2.2.2.2.2.2.2.2.2.2.2.2.2.2.2.2.2.1, (z.2.2.2.2.2.2.2.2.2.2.2.2.2.2.2.2.2.2.2.2.2.2.2.2.2.2.2.2.2.2.2.2.2.2.2.2.2.2.2.2.2.2.2.2.2.2.2.2.2.2.2.2.2.2.2.1, (z.2.2.2.2.2.2.2.2.2.2.2.2.2.2.2.2.2.2.2.2.2.2.2.2.2.2.2.2.2.2.2.2.2.2.2.2.2.2.2.2.2.2.2.2.2.2.2.2.2.2.2.2.2.2.2.2.1, (z.2.2.2.2.2.2.2.2.2.2.2.2.2.2.2.2.2.2.2.2.2.2.2.2.2.2.2.2.2.2.2.2.2.2.2.2.2.2.2.2.2.2.2.2.2.2.2.2.2.2.2.2.2.2.2.2.2.1, ((z.2.2.2.2.2.2.2.2.2.2.2.2.2.2.2.2.2.2.2.2.2.2.2.2.2.2.2.2.2.2.2.2.2.2.2.2.2.2.2.2.2.2.2.2.2.2.2.2.2.2.2.2.2.2.2.2.2.2.1, (z.2.2.2.2.2.2.2.2.2.2.2.2.2.2.2.2.2.2.2.2.2.2.2.2.2.2.2.2.2.2.2.2.2.2.2.2.2.2.2.2.2.2.2.2.2.2.2.2.2.2.2.2.2.2.2.2.2.2.2.1, ((), (z.2.2.2.2.2.2.2.2.2.2.2.2.2.2.2.2.2.2.2.2.2.2.2.2.2.2.2.2.2.2.2.2.2.2.2.2.2.2.2.2.2.2.2.2.2.2.2.2.2.2.2.2.2.2.2.2.2.2.2.2.1, (z.2.2.2.2.2.2.2.2.2.2.2.2.2.2.2.2.2.2.2.2.2.2.2.2.2.2.2.2.2.2.2.2.2.2.2.2.2.2.2.2.2.2.2.2.2.2.2.2.2.2.2.2.2.2.2.2.2.2.2.2.2.1, z.2.2.2.2.2.2.2.2.2.2.2.2.2.2.2.2.2.2.2.2.2.2.2.2.2.2.2.2.2.2.2.2.2.2.2.2.2.2.2.2.2.2.2.2.2.2.2.2.2.2.2.2.2.2.2.2.2.2.2.2.2.2.1))))), (z.2.2.2.2.2.2.2.2.2.2.2.2.2.2.2.2.2.2.2.2.2.2.2.2.2.2.2.2.2.2.2.2.2.2.2.2.2.2.2.2.2.2.2.2.2.2.2.2.2.2.2.2.2.2.2.2.2.2.2.2.2.2.2.1, (z.2.2.2.2.2.2.2.2.2.2.2.2.2.2.2.2.2.2.2.2.2.2.2.2.2.2.2.2.2.2.2.2.2.2.2.2.2.2.2.2.2.2.2.2.2.2.2.2.2.2.2.2.2.2.2.2.2.2.2.2.2.2.2.2.1, (z.2.2.2.2.2.2.2.2.2.2.2.2.2.2.2.2.2.2.2.2.2.2.2.2.2.2.2.2.2.2.2.2.2.2.2.2.2.2.2.2.2.2.2.2.2.2.2.2.2.2.2.2.2.2.2.2.2.2.2.2.2.2.2.2.2.1, (z.2.2.2.2.2.2.2.2.2.2.2.2.2.2.2.2.2.2.2.2.2.2.2.2.2.2.2.2.2.2.2.2.2.2.2.2.2.2.2.2.2.2.2.2.2.2.2.2.2.2.2.2.2.2.2.2.2.2.2.2.2.2.2.2.2.2.1, (z.2.2.2.2.2.2.2.2.2.2.2.2.2.2.2.2.2.2.2.2.2.2.2.2.2.2.2.2.2.2.2.2.2.2.2.2.2.2.2.2.2.2.2.2.2.2.2.2.2.2.2.2.2.2.2.2.2.2.2.2.2.2.2.2.2.2.2.1, ()))))))))))))))))))))))))))))), ((), ((), (x.2.2.2.1, ((), (x.2.2.2.2.2.1, (x.2.2.2.2.2.2.1, (x.2.2.2.2.2.2.2.1, z.2.2.2.2.2.2.2.2.2.2.2.2.2.2.2.2.2.2.2.2.2.2.2.2.2.2.2.2.2.2.2.2.2.2.2.2.2.2.2.2.2.2.2.2.2.2.2.2.2.2.2.2.2.2.2.2.2.2.2.2.2.2.2.2.2.2.2.2))))))))
def un (x : D.den) := (x.1.1.2.2.1, x.1.1.2.2.2.1, x.1.1.2.2.2.2, x.1.2.1.2.1, x.1.2.1.2.2.1, x.1.2.1.2.2.2.1, x.1.2.1.2.2.2.2.2.1, x.1.2.1.2.2.2.2.2.2.2.2.1, x.1.2.1.2.2.2.2.2.2.2.2.2.1, x.1.2.1.2.2.2.2.2.2.2.2.2.2.1, x.1.2.1.2.2.2.2.2.2.2.2.2.2.2.1, x.1.2.1.2.2.2.2.2.2.2.2.2.2.2.2.1, x.1.2.1.2.2.2.2.2.2.2.2.2.2.2.2.2.1, x.1.2.1.2.2.2.2.2.2.2.2.2.2.2.2.2.2.1, x.1.2.1.2.2.2.2.2.2.2.2.2.2.2.2.2.2.2.1, x.1.2.1.2.2.2.2.2.2.2.2.2.2.2.2.2.2.2.2.1, x.1.2.1.2.2.2.2.2.2.2.2.2.2.2.2.2.2.2.2.2.1, x.1.2.1.2.2.2.2.2.2.2.2.2.2.2.2.2.2.2.2.2.2.1, x.1.2.1.2.2.2.2.2.2.2.2.2.2.2.2.2.2.2.2.2.2.2.1, x.1.2.1.2.2.2.2.2.2.2.2.2.2.2.2.2.2.2.2.2.2.2.2.1, x.1.2.1.2.2.2.2.2.2.2.2.2.2.2.2.2.2.2.2.2.2.2.2.2.1, x.1.2.1.2.2.2.2.2.2.2.2.2.2.2.2.2.2.2.2.2.2.2.2.2.2.1, x.1.2.1.2.2.2.2.2.2.2.2.2.2.2.2.2.2.2.2.2.2.2.2.2.2.2.1, x.1.2.1.2.2.2.2.2.2.2.2.2.2.2.2.2.2.2.2.2.2.2.2.2.2.2.2.1, x.1.2.1.2.2.2.2.2.2.2.2.2.2.2.2.2.2.2.2.2.2.2.2.2.2.2.2.2.1, x.1.2.2.2.2.2.2.2.2.1.2.1, x.1.2.2.2.2.2.2.2.2.1.2.2.1, x.1.2.2.2.2.2.2.2.2.1.2.2.2.1, x.1.2.2.2.2.2.2.2.2.1.2.2.2.2.2.1, x.1.2.2.2.2.2.2.2.2.1.2.2.2.2.2.2.2.2.1, x.1.2.2.2.2.2.2.2.2.1.2.2.2.2.2.2.2.2.2.1, x.1.2.2.2.2.2.2.2.2.1.2.2.2.2.2.2.2.2.2.2.1, x.1.2.2.2.2.2.2.2.2.1.2.2.2.2.2.2.2.2.2.2.2.1, x.1.2.2.2.2.2.2.2.2.1.2.2.2.2.2.2.2.2.2.2.2.2.1, x.1.2.2.2.2.2.2.2.2.1.2.2.2.2.2.2.2.2.2.2.2.2.2.1, x.1.2.2.2.2.2.2.2.2.1.2.2.2.2.2.2.2.2.2.2.2.2.2.2.1, x.1.2.2.2.2.2.2.2.2.1.2.2.2.2.2.2.2.2.2.2.2.2.2.2.2.1, x.1.2.2.2.2.2.2.2.2.1.2.2.2.2.2.2.2.2.2.2.2.2.2.2.2.2.1, x.1.2.2.2.2.2.2.2.2.1.2.2.2.2.2.2.2.2.2.2.2.2.2.2.2.2.2.1, x.1.2.2.2.2.2.2.2.2.1.2.2.2.2.2.2.2.2.2.2.2.2.2.2.2.2.2.2.1, x.1.2.2.2.2.2.2.2.2.1.2.2.2.2.2.2.2.2.2.2.2.2.2.2.2.2.2.2.2.1, x.1.2.2.2.2.2.2.2.2.1.2.2.2.2.2.2.2.2.2.2.2.2.2.2.2.2.2.2.2.2.1, x.1.2.2.2.2.2.2.2.2.1.2.2.2.2.2.2.2.2.2.2.2.2.2.2.2.2.2.2.2.2.2.1, x.1.2.2.2.2.2.2.2.2.1.2.2.2.2.2.2.2.2.2.2.2.2.2.2.2.2.2.2.2.2.2.2.1, x.1.2.2.2.2.2.2.2.2.1.2.2.2.2.2.2.2.2.2.2.2.2.2.2.2.2.2.2.2.2.2.2.2.1, x.1.2.2.2.2.2.2.2.2.1.2.2.2.2.2.2.2.2.2.2.2.2.2.2.2.2.2.2.2.2.2.2.2.2.1, x.1.2.2.2.2.2.2.2.2.1.2.2.2.2.2.2.2.2.2.2.2.2.2.2.2.2.2.2.2.2.2.2.2.2.2.1, x.1.2.2.2.2.2.2.2.2.2.2.2.2.2.2.2.2.1, x.1.2.2.2.2.2.2.2.2.2.2.2.2.2.2.2.2.2.1.1, x.1.2.2.2.2.2.2.2.2.2.2.2.2.2.2.2.2.2.1.2.1, x.1.2.2.2.2.2.2.2.2.2.2.2.2.2.2.2.2.2.1.2.2.2.1, x.1.2.2.2.2.2.2.2.2.2.2.2.2.2.2.2.2.2.1.2.2.2.2.1, x.1.2.2.2.2.2.2.2.2.2.2.2.2.2.2.2.2.2.1.2.2.2.2.2, x.1.2.2.2.2.2.2.2.2.2.2.2.2.2.2.2.2.2.2.1, x.1.2.2.2.2.2.2.2.2.2.2.2.2.2.2.2.2.2.2.2.1, x.1.2.2.2.2.2.2.2.2.2.2.2.2.2.2.2.2.2.2.2.2.1, x.1.2.2.2.2.2.2.2.2.2.2.2.2.2.2.2.2.2.2.2.2.2.1, x.1.2.2.2.2.2.2.2.2.2.2.2.2.2.2.2.2.2.2.2.2.2.2.1, x.1.2.2.2.2.2.2.2.2.2.2.2.2.2.2.2.2.2.2.2.2.2.2.2.1.1, x.1.2.2.2.2.2.2.2.2.2.2.2.2.2.2.2.2.2.2.2.2.2.2.2.1.2.1, x.1.2.2.2.2.2.2.2.2.2.2.2.2.2.2.2.2.2.2.2.2.2.2.2.1.2.2.2.1, x.1.2.2.2.2.2.2.2.2.2.2.2.2.2.2.2.2.2.2.2.2.2.2.2.1.2.2.2.2.1, x.1.2.2.2.2.2.2.2.2.2.2.2.2.2.2.2.2.2.2.2.2.2.2.2.1.2.2.2.2.2, x.1.2.2.2.2.2.2.2.2.2.2.2.2.2.2.2.2.2.2.2.2.2.2.2.2.1, x.1.2.2.2.2.2.2.2.2.2.2.2.2.2.2.2.2.2.2.2.2.2.2.2.2.2.1, x.1.2.2.2.2.2.2.2.2.2.2.2.2.2.2.2.2.2.2.2.2.2.2.2.2.2.2.1, x.1.2.2.2.2.2.2.2.2.2.2.2.2.2.2.2.2.2.2.2.2.2.2.2.2.2.2.2.1, x.1.2.2.2.2.2.2.2.2.2.2.2.2.2.2.2.2.2.2.2.2.2.2.2.2.2.2.2.2.1, x.2.2.2.2.2.2.2.2)
def body (x : D.den) (z : Zt) := t z.1 z.2.1 z.2.2.1 z.2.2.2.1 z.2.2.2.2.1 z.2.2.2.2.2.1 z.2.2.2.2.2.2.1 z.2.2.2.2.2.2.2.1 z.2.2.2.2.2.2.2.2.1 z.2.2.2.2.2.2.2.2.2.1 z.2.2.2.2.2.2.2.2.2.2.1 z.2.2.2.2.2.2.2.2.2.2.2.1 z.2.2.2.2.2.2.2.2.2.2.2.2.1 z.2.2.2.2.2.2.2.2.2.2.2.2.2.1 z.2.2.2.2.2.2.2.2.2.2.2.2.2.2.1 z.2.2.2.2.2.2.2.2.2.2.2.2.2.2.2.1 z.2.2.2.2.2.2.2.2.2.2.2.2.2.2.2.2.1 z.2.2.2.2.2.2.2.2.2.2.2.2.2.2.2.2.2.1 z.2.2.2.2.2.2.2.2.2.2.2.2.2.2.2.2.2.2.1 z.2.2.2.2.2.2.2.2.2.2.2.2.2.2.2.2.2.2.2.1 z.2.2.2.2.2.2.2.2.2.2.2.2.2.2.2.2.2.2.2.2.1 z.2.2.2.2.2.2.2.2.2.2.2.2.2.2.2.2.2.2.2.2.2.1 z.2.2.2.2.2.2.2.2.2.2.2.2.2.2.2.2.2.2.2.2.2.2.1 z.2.2.2.2.2.2.2.2.2.2.2.2.2.2.2.2.2.2.2.2.2.2.2.1 z.2.2.2.2.2.2.2.2.2.2.2.2.2.2.2.2.2.2.2.2.2.2.2.2.1 z.2.2.2.2.2.2.2.2.2.2.2.2.2.2.2.2.2.2.2.2.2.2.2.2.2.1 z.2.2.2.2.2.2.2.2.2.2.2.2.2.2.2.2.2.2.2.2.2.2.2.2.2.2.1 z.2.2.2.2.2.2.2.2.2.2.2.2.2.2.2.2.2.2.2.2.2.2.2.2.2.2.2.1 z.2.2.2.2.2.2.2.2.2.2.2.2.2.2.2.2.2.2.2.2.2.2.2.2.2.2.2.2.1 z.2.2.2.2.2.2.2.2.2.2.2.2.2.2.2.2.2.2.2.2.2.2.2.2.2.2.2.2.2.1 z.2.2.2.2.2.2.2.2.2.2.2.2.2.2.2.2.2.2.2.2.2.2.2.2.2.2.2.2.2.2.1 z.2.2.2.2.2.2.2.2.2.2.2.2.2.2.2.2.2.2.2.2.2.2.2.2.2.2.2.2.2.2.2.1 z.2.2.2.2.2.2.2.2.2.2.2.2.2.2.2.2.2.2.2.2.2.2.2.2.2.2.2.2.2.2.2.2.1 z.2.2.2.2.2.2.2.2.2.2.2.2.2.2.2.2.2.2.2.2.2.2.2.2.2.2.2.2.2.2.2.2.2.1 z.2.2.2.2.2.2.2.2.2.2.2.2.2.2.2.2.2.2.2.2.2.2.2.2.2.2.2.2.2.2.2.2.2.2.1 z.2.2.2.2.2.2.2.2.2.2.2.2.2.2.2.2.2.2.2.2.2.2.2.2.2.2.2.2.2.2.2.2.2.2.2.1 z.2.2.2.2.2.2.2.2.2.2.2.2.2.2.2.2.2.2.2.2.2.2.2.2.2.2.2.2.2.2.2.2.2.2.2.2.1 z.2.2.2.2.2.2.2.2.2.2.2.2.2.2.2.2.2.2.2.2.2.2.2.2.2.2.2.2.2.2.2.2.2.2.2.2.2.1 z.2.2.2.2.2.2.2.2.2.2.2.2.2.2.2.2.2.2.2.2.2.2.2.2.2.2.2.2.2.2.2.2.2.2.2.2.2.2.1 z.2.2.2.2.2.2.2.2.2.2.2.2.2.2.2.2.2.2.2.2.2.2.2.2.2.2.2.2.2.2.2.2.2.2.2.2.2.2.2.1 z.2.2.2.2.2.2.2.2.2.2.2.2.2.2.2.2.2.2.2.2.2.2.2.2.2.2.2.2.2.2.2.2.2.2.2.2.2.2.2.2.1 z.2.2.2.2.2.2.2.2.2.2.2.2.2.2.2.2.2.2.2.2.2.2.2.2.2.2.2.2.2.2.2.2.2.2.2.2.2.2.2.2.2.1 z.2.2.2.2.2.2.2.2.2.2.2.2.2.2.2.2.2.2.2.2.2.2.2.2.2.2.2.2.2.2.2.2.2.2.2.2.2.2.2.2.2.2.1 z.2.2.2.2.2.2.2.2.2.2.2.2.2.2.2.2.2.2.2.2.2.2.2.2.2.2.2.2.2.2.2.2.2.2.2.2.2.2.2.2.2.2.2.1 z.2.2.2.2.2.2.2.2.2.2.2.2.2.2.2.2.2.2.2.2.2.2.2.2.2.2.2.2.2.2.2.2.2.2.2.2.2.2.2.2.2.2.2.2.1 z.2.2.2.2.2.2.2.2.2.2.2.2.2.2.2.2.2.2.2.2.2.2.2.2.2.2.2.2.2.2.2.2.2.2.2.2.2.2.2.2.2.2.2.2.2.1 z.2.2.2.2.2.2.2.2.2.2.2.2.2.2.2.2.2.2.2.2.2.2.2.2.2.2.2.2.2.2.2.2.2.2.2.2.2.2.2.2.2.2.2.2.2.2.1 x.1.2.2.2.2.2.2.2.2.2.2.2.2.2.2.2.1 z.2.2.2.2.2.2.2.2.2.2.2.2.2.2.2.2.2.2.2.2.2.2.2.2.2.2.2.2.2.2.2.2.2.2.2.2.2.2.2.2.2.2.2.2.2.2.2.1 z.2.2.2.2.2.2.2.2.2.2.2.2.2.2.2.2.2.2.2.2.2.2.2.2.2.2.2.2.2.2.2.2.2.2.2.2.2.2.2.2.2.2.2.2.2.2.2.2.1 z.2.2.2.2.2.2.2.2.2.2.2.2.2.2.2.2.2.2.2.2.2.2.2.2.2.2.2.2.2.2.2.2.2.2.2.2.2.2.2.2.2.2.2.2.2.2.2.2.2.1 z.2.2.2.2.2.2.2.2.2.2.2.2.2.2.2.2.2.2.2.2.2.2.2.2.2.2.2.2.2.2.2.2.2.2.2.2.2.2.2.2.2.2.2.2.2.2.2.2.2.2.1 z.2.2.2.2.2.2.2.2.2.2.2.2.2.2.2.2.2.2.2.2.2.2.2.2.2.2.2.2.2.2.2.2.2.2.2.2.2.2.2.2.2.2.2.2.2.2.2.2.2.2.2.1 z.2.2.2.2.2.2.2.2.2.2.2.2.2.2.2.2.2.2.2.2.2.2.2.2.2.2.2.2.2.2.2.2.2.2.2.2.2.2.2.2.2.2.2.2.2.2.2.2.2.2.2.2.1 z.2.2.2.2.2.2.2.2.2.2.2.2.2.2.2.2.2.2.2.2.2.2.2.2.2.2.2.2.2.2.2.2.2.2.2.2.2.2.2.2.2.2.2.2.2.2.2.2.2.2.2.2.2.1 z.2.2.2.2.2.2.2.2.2.2.2.2.2.2.2.2.2.2.2.2.2.2.2.2.2.2.2.2.2.2.2.2.2.2.2.2.2.2.2.2.2.2.2.2.2.2.2.2.2.2.2.2.2.2.1 z.2.2.2.2.2.2.2.2.2.2.2.2.2.2.2.2.2.2.2.2.2.2.2.2.2.2.2.2.2.2.2.2.2.2.2.2.2.2.2.2.2.2.2.2.2.2.2.2.2.2.2.2.2.2.2.1 z.2.2.2.2.2.2.2.2.2.2.2.2.2.2.2.2.2.2.2.2.2.2.2.2.2.2.2.2.2.2.2.2.2.2.2.2.2.2.2.2.2.2.2.2.2.2.2.2.2.2.2.2.2.2.2.2.1 z.2.2.2.2.2.2.2.2.2.2.2.2.2.2.2.2.2.2.2.2.2.2.2.2.2.2.2.2.2.2.2.2.2.2.2.2.2.2.2.2.2.2.2.2.2.2.2.2.2.2.2.2.2.2.2.2.2.1 z.2.2.2.2.2.2.2.2.2.2.2.2.2.2.2.2.2.2.2.2.2.2.2.2.2.2.2.2.2.2.2.2.2.2.2.2.2.2.2.2.2.2.2.2.2.2.2.2.2.2.2.2.2.2.2.2.2.2.1 z.2.2.2.2.2.2.2.2.2.2.2.2.2.2.2.2.2.2.2.2.2.2.2.2.2.2.2.2.2.2.2.2.2.2.2.2.2.2.2.2.2.2.2.2.2.2.2.2.2.2.2.2.2.2.2.2.2.2.2.1 z.2.2.2.2.2.2.2.2.2.2.2.2.2.2.2.2.2.2.2.2.2.2.2.2.2.2.2.2.2.2.2.2.2.2.2.2.2.2.2.2.2.2.2.2.2.2.2.2.2.2.2.2.2.2.2.2.2.2.2.2.1 z.2.2.2.2.2.2.2.2.2.2.2.2.2.2.2.2.2.2.2.2.2.2.2.2.2.2.2.2.2.2.2.2.2.2.2.2.2.2.2.2.2.2.2.2.2.2.2.2.2.2.2.2.2.2.2.2.2.2.2.2.2.1 z.2.2.2.2.2.2.2.2.2.2.2.2.2.2.2.2.2.2.2.2.2.2.2.2.2.2.2.2.2.2.2.2.2.2.2.2.2.2.2.2.2.2.2.2.2.2.2.2.2.2.2.2.2.2.2.2.2.2.2.2.2.2.1 z.2.2.2.2.2.2.2.2.2.2.2.2.2.2.2.2.2.2.2.2.2.2.2.2.2.2.2.2.2.2.2.2.2.2.2.2.2.2.2.2.2.2.2.2.2.2.2.2.2.2.2.2.2.2.2.2.2.2.2.2.2.2.2.1 z.2.2.2.2.2.2.2.2.2.2.2.2.2.2.2.2.2.2.2.2.2.2.2.2.2.2.2.2.2.2.2.2.2.2.2.2.2.2.2.2.2.2.2.2.2.2.2.2.2.2.2.2.2.2.2.2.2.2.2.2.2.2.2.2.1 z.2.2.2.2.2.2.2.2.2.2.2.2.2.2.2.2.2.2.2.2.2.2.2.2.2.2.2.2.2.2.2.2.2.2.2.2.2.2.2.2.2.2.2.2.2.2.2.2.2.2.2.2.2.2.2.2.2.2.2.2.2.2.2.2.2.1 z.2.2.2.2.2.2.2.2.2.2.2.2.2.2.2.2.2.2.2.2.2.2.2.2.2.2.2.2.2.2.2.2.2.2.2.2.2.2.2.2.2.2.2.2.2.2.2.2.2.2.2.2.2.2.2.2.2.2.2.2.2.2.2.2.2.2.1 z.2.2.2.2.2.2.2.2.2.2.2.2.2.2.2.2.2.2.2.2.2.2.2.2.2.2.2.2.2.2.2.2.2.2.2.2.2.2.2.2.2.2.2.2.2.2.2.2.2.2.2.2.2.2.2.2.2.2.2.2.2.2.2.2.2.2.2.1 x.2.2.2.1 x.2.2.2.2.2.2.2.1 z.2.2.2.2.2.2.2.2.2.2.2.2.2.2.2.2.2.2.2.2.2.2.2.2.2.2.2.2.2.2.2.2.2.2.2.2.2.2.2.2.2.2.2.2.2.2.2.2.2.2.2.2.2.2.2.2.2.2.2.2.2.2.2.2.2.2.2.2
theorem ok : zhe Tryz.prog 16 (codeOf Tryz.prog 7) lap := zin Base.mixed Base.prog_ok q60 (by kernel_rfl) (by kernel_rfl) zht.nil 9 pk un body (fun _ _ => rfl) (fun _ _ => rfl) (fun _ _ => rfl) (fun _ _ => rfl) (fun _ => rfl) fun _ _ _ _ => (by kernel_rfl)
end L6
namespace L3
def D : Dom := q0l.L6.A
def A : Dom := q0l.L6.B
def B : Dom := q0l.L6.B
abbrev Zt := Int × Int × Bool × Ls × Ls × Int × Bool × Int × Int × Int × Int × Bool × Bool × Int × Int × Int × Int × Int × Int × Int × Int × Int × Bool × Bool × Int × Ls × Ls × Int × Bool × Int × Int × Int × Int × Bool × Bool × Int × Int × Int × Int × Int × Int × Int × Int × Int × Bool × Bool × Int × (List (Ls × Ls × Int × Lf × Bool × Ls × Lf)) × Int × Int × Bool × Bool × Bool × Ls × (Lf) × Ls × (Lf) × (List (Ls × Ls × Int × Lf × Bool × Ls × Lf)) × Int × Int × Bool × Bool × Bool × Ls × (Lf) × Ls × (Lf) × (List (Ls × Ls × Int × Lf × Bool × Ls × Lf)) × Int
abbrev Rt := Int × Int × Bool × Ls × Ls × Int × Bool × Int × Int × Int × Int × Bool × Bool × Int × Int × Int × Int × Int × Int × Int × Int × Int × Bool × Bool × Int × Ls × Ls × Int × Bool × Int × Int × Int × Int × Bool × Bool × Int × Int × Int × Int × Int × Int × Int × Int × Int × Bool × Bool × Int × (List (Ls × Ls × Int × Lf × Bool × Ls × Lf)) × Int × Int × Bool × Bool × Bool × Ls × (Lf) × Ls × (Lf) × (List (Ls × Ls × Int × Lf × Bool × Ls × Lf)) × Int × Int × Bool × Bool × Bool × Ls × (Lf) × Ls × (Lf) × (List (Ls × Ls × Int × Lf × Bool × Ls × Lf))
def t (verdict:Int) (code:Int) (parted:Bool) (Method : Ls) (Target : Ls) (Minor:Int) (Chunked:Bool) (stage:Int) (lines:Int) (head:Int) (need:Int) (begun:Bool) (waits:Bool) (p:Int) (Line:Int) (Fields:Int) (Head:Int) (Body:Int) (Ext:Int) (Trailers:Int) (Wait:Int) (Idle:Int) (Chunked_2:Bool) (Old:Bool) (err:Int) (Method_2 : Ls) (Target_2 : Ls) (Minor_2:Int) (Chunked_3:Bool) (stage_2:Int) (lines_2:Int) (head_2:Int) (need_2:Int) (begun_2:Bool) (waits_2:Bool) (p_2:Int) (Line_2:Int) (Fields_2:Int) (Head_2:Int) (Body_2:Int) (Ext_2:Int) (Trailers_2:Int) (Wait_2:Int) (Idle_2:Int) (Chunked_4:Bool) (Old_2:Bool) (err_2:Int) (parts : List (Ls)) (out : List (Ls × Ls × Int × Lf × Bool × Ls × Lf)) (p_3:Int) (most:Int) (pending:Bool) (over:Bool) (bad:Bool) (b : Ls) (Fields_3 : Lf) (Body_3 : Ls) (Trailers_3 : Lf) (out_2 : List (Ls × Ls × Int × Lf × Bool × Ls × Lf)) (p_4:Int) (most_2:Int) (pending_2:Bool) (over_2:Bool) (bad_2:Bool) (b_2 : Ls) (Fields_4 : Lf) (Body_4 : Ls) (Trailers_4 : Lf) (out_3 : List (Ls × Ls × Int × Lf × Bool × Ls × Lf)) (t13:Int) (t14:Int) : Tr (Zt ⊕ (Rt ⊕ Rt)) :=
 .br (decide (t14 < t13)) (.chk ((0:Int) <= t14 ∧ t14 < (↑parts.length:Int))<|.chk ((0:Nat) + t14.toNat < parts.length)<|.okl parts.length<|.okl out.length<|.okl b.length<|.okl Fields_3.length<|.okl Body_3.length<|.okl Trailers_3.length<|.okl out_2.length<|.okl b_2.length<|.okl Fields_4.length<|.okl Body_4.length<|.okl Trailers_4.length<|.okl out_3.length<|.both (q0l.L6.f verdict code parted Method Target Minor Chunked stage lines head need begun waits p Line Fields Head Body Ext Trailers Wait Idle Chunked_2 Old err Method_2 Target_2 Minor_2 Chunked_3 stage_2 lines_2 head_2 need_2 begun_2 waits_2 p_2 Line_2 Fields_2 Head_2 Body_2 Ext_2 Trailers_2 Wait_2 Idle_2 Chunked_4 Old_2 err_2 parts out p_3 most pending over bad b Fields_3 Body_3 Trailers_3 out_2 p_4 most_2 pending_2 over_2 bad_2 b_2 Fields_4 Body_4 Trailers_4 out_3 (parts.getD ((0:Nat) + t14.toNat) []) (↑(List.length (parts.getD ((0:Nat) + t14.toNat) [])):Int) (0:Int)) (fun (y1a, y1b, y1c, y1d, y1e, y1f, y1g, y1h, y1i, y1j, y1k, y1l, y1m, y1n, y1o, y1p, y1q, y1r, y1s, y1t, y1u, y1v, y1w, y1x, y1y, y1z, y1aa, y1ab, y1ac, y1ad, y1ae, y1af, y1ag, y1ah, y1ai, y1aj, y1ak, y1al, y1am, y1an, y1ao, y1ap, y1aq, y1ar, y1as, y1at, y1au, y1av, y1aw, y1ax, y1ay, y1az, y1ba, y1bb, y1bc, y1bd, y1be, y1bf, y1bg, y1bh, y1bi, y1bj, y1bk, y1bl, y1bm, y1bn, y1bo, y1bp) => .okl parts.length<|.okl y1av.length<|.okl y1bb.length<|.okl y1bc.length<|.okl y1bd.length<|.okl y1be.length<|.okl y1bf.length<|.okl y1bl.length<|.okl y1bm.length<|.okl y1bn.length<|.okl y1bo.length<|.okl y1bp.length<|.ret (.inl (y1a, y1b, y1c, y1d, y1e, y1f, y1g, y1h, y1i, y1j, y1k, y1l, y1m, y1n, y1o, y1p, y1q, y1r, y1s, y1t, y1u, y1v, y1w, y1x, y1y, y1z, y1aa, y1ab, y1ac, y1ad, y1ae, y1af, y1ag, y1ah, y1ai, y1aj, y1ak, y1al, y1am, y1an, y1ao, y1ap, y1aq, y1ar, y1as, y1at, y1au, y1av, y1aw, y1ax, y1ay, y1az, y1ba, y1bb, y1bc, y1bd, y1be, y1bf, y1bg, y1bh, y1bi, y1bj, y1bk, y1bl, y1bm, y1bn, y1bo, y1bp, IntKind.i64.wrap (t14 + (1:Int)))))
  (fun (y2a, y2b, y2c, y2d, y2e, y2f, y2g, y2h, y2i, y2j, y2k, y2l, y2m, y2n, y2o, y2p, y2q, y2r, y2s, y2t, y2u, y2v, y2w, y2x, y2y, y2z, y2aa, y2ab, y2ac, y2ad, y2ae, y2af, y2ag, y2ah, y2ai, y2aj, y2ak, y2al, y2am, y2an, y2ao, y2ap, y2aq, y2ar, y2as, y2at, y2au, y2av, y2aw, y2ax, y2ay, y2az, y2ba, y2bb, y2bc, y2bd, y2be, y2bf, y2bg, y2bh, y2bi, y2bj, y2bk, y2bl, y2bm, y2bn, y2bo, y2bp) => .okl y2av.length<|.okl y2bb.length<|.okl y2bc.length<|.okl y2bd.length<|.okl y2be.length<|.okl y2bf.length<|.okl y2bl.length<|.okl y2bm.length<|.okl y2bn.length<|.okl y2bo.length<|.okl y2bp.length<|.ret (.inr (.inr (y2a, y2b, y2c, y2d, y2e, y2f, y2g, y2h, y2i, y2j, y2k, y2l, y2m, y2n, y2o, y2p, y2q, y2r, y2s, y2t, y2u, y2v, y2w, y2x, y2y, y2z, y2aa, y2ab, y2ac, y2ad, y2ae, y2af, y2ag, y2ah, y2ai, y2aj, y2ak, y2al, y2am, y2an, y2ao, y2ap, y2aq, y2ar, y2as, y2at, y2au, y2av, y2aw, y2ax, y2ay, y2az, y2ba, y2bb, y2bc, y2bd, y2be, y2bf, y2bg, y2bh, y2bi, y2bj, y2bk, y2bl, y2bm, y2bn, y2bo, y2bp)))))
 (.okl out.length<|.okl b.length<|.okl Fields_3.length<|.okl Body_3.length<|.okl Trailers_3.length<|.okl out_2.length<|.okl b_2.length<|.okl Fields_4.length<|.okl Body_4.length<|.okl Trailers_4.length<|.okl out_3.length<|.ret (.inr (.inl (verdict, code, parted, Method, Target, Minor, Chunked, stage, lines, head, need, begun, waits, p, Line, Fields, Head, Body, Ext, Trailers, Wait, Idle, Chunked_2, Old, err, Method_2, Target_2, Minor_2, Chunked_3, stage_2, lines_2, head_2, need_2, begun_2, waits_2, p_2, Line_2, Fields_2, Head_2, Body_2, Ext_2, Trailers_2, Wait_2, Idle_2, Chunked_4, Old_2, err_2, out, p_3, most, pending, over, bad, b, Fields_3, Body_3, Trailers_3, out_2, p_4, most_2, pending_2, over_2, bad_2, b_2, Fields_4, Body_4, Trailers_4, out_3))))
def f (verdict:Int) (code:Int) (parted:Bool) (Method : Ls) (Target : Ls) (Minor:Int) (Chunked:Bool) (stage:Int) (lines:Int) (head:Int) (need:Int) (begun:Bool) (waits:Bool) (p:Int) (Line:Int) (Fields:Int) (Head:Int) (Body:Int) (Ext:Int) (Trailers:Int) (Wait:Int) (Idle:Int) (Chunked_2:Bool) (Old:Bool) (err:Int) (Method_2 : Ls) (Target_2 : Ls) (Minor_2:Int) (Chunked_3:Bool) (stage_2:Int) (lines_2:Int) (head_2:Int) (need_2:Int) (begun_2:Bool) (waits_2:Bool) (p_2:Int) (Line_2:Int) (Fields_2:Int) (Head_2:Int) (Body_2:Int) (Ext_2:Int) (Trailers_2:Int) (Wait_2:Int) (Idle_2:Int) (Chunked_4:Bool) (Old_2:Bool) (err_2:Int) (parts : List (Ls)) (out : List (Ls × Ls × Int × Lf × Bool × Ls × Lf)) (p_3:Int) (most:Int) (pending:Bool) (over:Bool) (bad:Bool) (b : Ls) (Fields_3 : Lf) (Body_3 : Ls) (Trailers_3 : Lf) (out_2 : List (Ls × Ls × Int × Lf × Bool × Ls × Lf)) (p_4:Int) (most_2:Int) (pending_2:Bool) (over_2:Bool) (bad_2:Bool) (b_2 : Ls) (Fields_4 : Lf) (Body_4 : Ls) (Trailers_4 : Lf) (out_3 : List (Ls × Ls × Int × Lf × Bool × Ls × Lf)) (t13:Int) (t14:Int) := Loop (fun z : Zt => t z.1 z.2.1 z.2.2.1 z.2.2.2.1 z.2.2.2.2.1 z.2.2.2.2.2.1 z.2.2.2.2.2.2.1 z.2.2.2.2.2.2.2.1 z.2.2.2.2.2.2.2.2.1 z.2.2.2.2.2.2.2.2.2.1 z.2.2.2.2.2.2.2.2.2.2.1 z.2.2.2.2.2.2.2.2.2.2.2.1 z.2.2.2.2.2.2.2.2.2.2.2.2.1 z.2.2.2.2.2.2.2.2.2.2.2.2.2.1 z.2.2.2.2.2.2.2.2.2.2.2.2.2.2.1 z.2.2.2.2.2.2.2.2.2.2.2.2.2.2.2.1 z.2.2.2.2.2.2.2.2.2.2.2.2.2.2.2.2.1 z.2.2.2.2.2.2.2.2.2.2.2.2.2.2.2.2.2.1 z.2.2.2.2.2.2.2.2.2.2.2.2.2.2.2.2.2.2.1 z.2.2.2.2.2.2.2.2.2.2.2.2.2.2.2.2.2.2.2.1 z.2.2.2.2.2.2.2.2.2.2.2.2.2.2.2.2.2.2.2.2.1 z.2.2.2.2.2.2.2.2.2.2.2.2.2.2.2.2.2.2.2.2.2.1 z.2.2.2.2.2.2.2.2.2.2.2.2.2.2.2.2.2.2.2.2.2.2.1 z.2.2.2.2.2.2.2.2.2.2.2.2.2.2.2.2.2.2.2.2.2.2.2.1 z.2.2.2.2.2.2.2.2.2.2.2.2.2.2.2.2.2.2.2.2.2.2.2.2.1 z.2.2.2.2.2.2.2.2.2.2.2.2.2.2.2.2.2.2.2.2.2.2.2.2.2.1 z.2.2.2.2.2.2.2.2.2.2.2.2.2.2.2.2.2.2.2.2.2.2.2.2.2.2.1 z.2.2.2.2.2.2.2.2.2.2.2.2.2.2.2.2.2.2.2.2.2.2.2.2.2.2.2.1 z.2.2.2.2.2.2.2.2.2.2.2.2.2.2.2.2.2.2.2.2.2.2.2.2.2.2.2.2.1 z.2.2.2.2.2.2.2.2.2.2.2.2.2.2.2.2.2.2.2.2.2.2.2.2.2.2.2.2.2.1 z.2.2.2.2.2.2.2.2.2.2.2.2.2.2.2.2.2.2.2.2.2.2.2.2.2.2.2.2.2.2.1 z.2.2.2.2.2.2.2.2.2.2.2.2.2.2.2.2.2.2.2.2.2.2.2.2.2.2.2.2.2.2.2.1 z.2.2.2.2.2.2.2.2.2.2.2.2.2.2.2.2.2.2.2.2.2.2.2.2.2.2.2.2.2.2.2.2.1 z.2.2.2.2.2.2.2.2.2.2.2.2.2.2.2.2.2.2.2.2.2.2.2.2.2.2.2.2.2.2.2.2.2.1 z.2.2.2.2.2.2.2.2.2.2.2.2.2.2.2.2.2.2.2.2.2.2.2.2.2.2.2.2.2.2.2.2.2.2.1 z.2.2.2.2.2.2.2.2.2.2.2.2.2.2.2.2.2.2.2.2.2.2.2.2.2.2.2.2.2.2.2.2.2.2.2.1 z.2.2.2.2.2.2.2.2.2.2.2.2.2.2.2.2.2.2.2.2.2.2.2.2.2.2.2.2.2.2.2.2.2.2.2.2.1 z.2.2.2.2.2.2.2.2.2.2.2.2.2.2.2.2.2.2.2.2.2.2.2.2.2.2.2.2.2.2.2.2.2.2.2.2.2.1 z.2.2.2.2.2.2.2.2.2.2.2.2.2.2.2.2.2.2.2.2.2.2.2.2.2.2.2.2.2.2.2.2.2.2.2.2.2.2.1 z.2.2.2.2.2.2.2.2.2.2.2.2.2.2.2.2.2.2.2.2.2.2.2.2.2.2.2.2.2.2.2.2.2.2.2.2.2.2.2.1 z.2.2.2.2.2.2.2.2.2.2.2.2.2.2.2.2.2.2.2.2.2.2.2.2.2.2.2.2.2.2.2.2.2.2.2.2.2.2.2.2.1 z.2.2.2.2.2.2.2.2.2.2.2.2.2.2.2.2.2.2.2.2.2.2.2.2.2.2.2.2.2.2.2.2.2.2.2.2.2.2.2.2.2.1 z.2.2.2.2.2.2.2.2.2.2.2.2.2.2.2.2.2.2.2.2.2.2.2.2.2.2.2.2.2.2.2.2.2.2.2.2.2.2.2.2.2.2.1 z.2.2.2.2.2.2.2.2.2.2.2.2.2.2.2.2.2.2.2.2.2.2.2.2.2.2.2.2.2.2.2.2.2.2.2.2.2.2.2.2.2.2.2.1 z.2.2.2.2.2.2.2.2.2.2.2.2.2.2.2.2.2.2.2.2.2.2.2.2.2.2.2.2.2.2.2.2.2.2.2.2.2.2.2.2.2.2.2.2.1 z.2.2.2.2.2.2.2.2.2.2.2.2.2.2.2.2.2.2.2.2.2.2.2.2.2.2.2.2.2.2.2.2.2.2.2.2.2.2.2.2.2.2.2.2.2.1 z.2.2.2.2.2.2.2.2.2.2.2.2.2.2.2.2.2.2.2.2.2.2.2.2.2.2.2.2.2.2.2.2.2.2.2.2.2.2.2.2.2.2.2.2.2.2.1 parts z.2.2.2.2.2.2.2.2.2.2.2.2.2.2.2.2.2.2.2.2.2.2.2.2.2.2.2.2.2.2.2.2.2.2.2.2.2.2.2.2.2.2.2.2.2.2.2.1 z.2.2.2.2.2.2.2.2.2.2.2.2.2.2.2.2.2.2.2.2.2.2.2.2.2.2.2.2.2.2.2.2.2.2.2.2.2.2.2.2.2.2.2.2.2.2.2.2.1 z.2.2.2.2.2.2.2.2.2.2.2.2.2.2.2.2.2.2.2.2.2.2.2.2.2.2.2.2.2.2.2.2.2.2.2.2.2.2.2.2.2.2.2.2.2.2.2.2.2.1 z.2.2.2.2.2.2.2.2.2.2.2.2.2.2.2.2.2.2.2.2.2.2.2.2.2.2.2.2.2.2.2.2.2.2.2.2.2.2.2.2.2.2.2.2.2.2.2.2.2.2.1 z.2.2.2.2.2.2.2.2.2.2.2.2.2.2.2.2.2.2.2.2.2.2.2.2.2.2.2.2.2.2.2.2.2.2.2.2.2.2.2.2.2.2.2.2.2.2.2.2.2.2.2.1 z.2.2.2.2.2.2.2.2.2.2.2.2.2.2.2.2.2.2.2.2.2.2.2.2.2.2.2.2.2.2.2.2.2.2.2.2.2.2.2.2.2.2.2.2.2.2.2.2.2.2.2.2.1 z.2.2.2.2.2.2.2.2.2.2.2.2.2.2.2.2.2.2.2.2.2.2.2.2.2.2.2.2.2.2.2.2.2.2.2.2.2.2.2.2.2.2.2.2.2.2.2.2.2.2.2.2.2.1 z.2.2.2.2.2.2.2.2.2.2.2.2.2.2.2.2.2.2.2.2.2.2.2.2.2.2.2.2.2.2.2.2.2.2.2.2.2.2.2.2.2.2.2.2.2.2.2.2.2.2.2.2.2.2.1 z.2.2.2.2.2.2.2.2.2.2.2.2.2.2.2.2.2.2.2.2.2.2.2.2.2.2.2.2.2.2.2.2.2.2.2.2.2.2.2.2.2.2.2.2.2.2.2.2.2.2.2.2.2.2.2.1 z.2.2.2.2.2.2.2.2.2.2.2.2.2.2.2.2.2.2.2.2.2.2.2.2.2.2.2.2.2.2.2.2.2.2.2.2.2.2.2.2.2.2.2.2.2.2.2.2.2.2.2.2.2.2.2.2.1 z.2.2.2.2.2.2.2.2.2.2.2.2.2.2.2.2.2.2.2.2.2.2.2.2.2.2.2.2.2.2.2.2.2.2.2.2.2.2.2.2.2.2.2.2.2.2.2.2.2.2.2.2.2.2.2.2.2.1 z.2.2.2.2.2.2.2.2.2.2.2.2.2.2.2.2.2.2.2.2.2.2.2.2.2.2.2.2.2.2.2.2.2.2.2.2.2.2.2.2.2.2.2.2.2.2.2.2.2.2.2.2.2.2.2.2.2.2.1 z.2.2.2.2.2.2.2.2.2.2.2.2.2.2.2.2.2.2.2.2.2.2.2.2.2.2.2.2.2.2.2.2.2.2.2.2.2.2.2.2.2.2.2.2.2.2.2.2.2.2.2.2.2.2.2.2.2.2.2.1 z.2.2.2.2.2.2.2.2.2.2.2.2.2.2.2.2.2.2.2.2.2.2.2.2.2.2.2.2.2.2.2.2.2.2.2.2.2.2.2.2.2.2.2.2.2.2.2.2.2.2.2.2.2.2.2.2.2.2.2.2.1 z.2.2.2.2.2.2.2.2.2.2.2.2.2.2.2.2.2.2.2.2.2.2.2.2.2.2.2.2.2.2.2.2.2.2.2.2.2.2.2.2.2.2.2.2.2.2.2.2.2.2.2.2.2.2.2.2.2.2.2.2.2.1 z.2.2.2.2.2.2.2.2.2.2.2.2.2.2.2.2.2.2.2.2.2.2.2.2.2.2.2.2.2.2.2.2.2.2.2.2.2.2.2.2.2.2.2.2.2.2.2.2.2.2.2.2.2.2.2.2.2.2.2.2.2.2.1 z.2.2.2.2.2.2.2.2.2.2.2.2.2.2.2.2.2.2.2.2.2.2.2.2.2.2.2.2.2.2.2.2.2.2.2.2.2.2.2.2.2.2.2.2.2.2.2.2.2.2.2.2.2.2.2.2.2.2.2.2.2.2.2.1 z.2.2.2.2.2.2.2.2.2.2.2.2.2.2.2.2.2.2.2.2.2.2.2.2.2.2.2.2.2.2.2.2.2.2.2.2.2.2.2.2.2.2.2.2.2.2.2.2.2.2.2.2.2.2.2.2.2.2.2.2.2.2.2.2.1 z.2.2.2.2.2.2.2.2.2.2.2.2.2.2.2.2.2.2.2.2.2.2.2.2.2.2.2.2.2.2.2.2.2.2.2.2.2.2.2.2.2.2.2.2.2.2.2.2.2.2.2.2.2.2.2.2.2.2.2.2.2.2.2.2.2.1 z.2.2.2.2.2.2.2.2.2.2.2.2.2.2.2.2.2.2.2.2.2.2.2.2.2.2.2.2.2.2.2.2.2.2.2.2.2.2.2.2.2.2.2.2.2.2.2.2.2.2.2.2.2.2.2.2.2.2.2.2.2.2.2.2.2.2.1 z.2.2.2.2.2.2.2.2.2.2.2.2.2.2.2.2.2.2.2.2.2.2.2.2.2.2.2.2.2.2.2.2.2.2.2.2.2.2.2.2.2.2.2.2.2.2.2.2.2.2.2.2.2.2.2.2.2.2.2.2.2.2.2.2.2.2.2.1 t13 z.2.2.2.2.2.2.2.2.2.2.2.2.2.2.2.2.2.2.2.2.2.2.2.2.2.2.2.2.2.2.2.2.2.2.2.2.2.2.2.2.2.2.2.2.2.2.2.2.2.2.2.2.2.2.2.2.2.2.2.2.2.2.2.2.2.2.2.2) (verdict, code, parted, Method, Target, Minor, Chunked, stage, lines, head, need, begun, waits, p, Line, Fields, Head, Body, Ext, Trailers, Wait, Idle, Chunked_2, Old, err, Method_2, Target_2, Minor_2, Chunked_3, stage_2, lines_2, head_2, need_2, begun_2, waits_2, p_2, Line_2, Fields_2, Head_2, Body_2, Ext_2, Trailers_2, Wait_2, Idle_2, Chunked_4, Old_2, err_2, out, p_3, most, pending, over, bad, b, Fields_3, Body_3, Trailers_3, out_2, p_4, most_2, pending_2, over_2, bad_2, b_2, Fields_4, Body_4, Trailers_4, out_3, t14)
def F (x : D.den) := f x.1.1.2.2.1 x.1.1.2.2.2.1 x.1.1.2.2.2.2 x.1.2.1.2.1 x.1.2.1.2.2.1 x.1.2.1.2.2.2.1 x.1.2.1.2.2.2.2.2.1 x.1.2.1.2.2.2.2.2.2.2.2.1 x.1.2.1.2.2.2.2.2.2.2.2.2.1 x.1.2.1.2.2.2.2.2.2.2.2.2.2.1 x.1.2.1.2.2.2.2.2.2.2.2.2.2.2.1 x.1.2.1.2.2.2.2.2.2.2.2.2.2.2.2.1 x.1.2.1.2.2.2.2.2.2.2.2.2.2.2.2.2.1 x.1.2.1.2.2.2.2.2.2.2.2.2.2.2.2.2.2.1 x.1.2.1.2.2.2.2.2.2.2.2.2.2.2.2.2.2.2.1 x.1.2.1.2.2.2.2.2.2.2.2.2.2.2.2.2.2.2.2.1 x.1.2.1.2.2.2.2.2.2.2.2.2.2.2.2.2.2.2.2.2.1 x.1.2.1.2.2.2.2.2.2.2.2.2.2.2.2.2.2.2.2.2.2.1 x.1.2.1.2.2.2.2.2.2.2.2.2.2.2.2.2.2.2.2.2.2.2.1 x.1.2.1.2.2.2.2.2.2.2.2.2.2.2.2.2.2.2.2.2.2.2.2.1 x.1.2.1.2.2.2.2.2.2.2.2.2.2.2.2.2.2.2.2.2.2.2.2.2.1 x.1.2.1.2.2.2.2.2.2.2.2.2.2.2.2.2.2.2.2.2.2.2.2.2.2.1 x.1.2.1.2.2.2.2.2.2.2.2.2.2.2.2.2.2.2.2.2.2.2.2.2.2.2.1 x.1.2.1.2.2.2.2.2.2.2.2.2.2.2.2.2.2.2.2.2.2.2.2.2.2.2.2.1 x.1.2.1.2.2.2.2.2.2.2.2.2.2.2.2.2.2.2.2.2.2.2.2.2.2.2.2.2.1 x.1.2.2.2.2.2.2.2.2.1.2.1 x.1.2.2.2.2.2.2.2.2.1.2.2.1 x.1.2.2.2.2.2.2.2.2.1.2.2.2.1 x.1.2.2.2.2.2.2.2.2.1.2.2.2.2.2.1 x.1.2.2.2.2.2.2.2.2.1.2.2.2.2.2.2.2.2.1 x.1.2.2.2.2.2.2.2.2.1.2.2.2.2.2.2.2.2.2.1 x.1.2.2.2.2.2.2.2.2.1.2.2.2.2.2.2.2.2.2.2.1 x.1.2.2.2.2.2.2.2.2.1.2.2.2.2.2.2.2.2.2.2.2.1 x.1.2.2.2.2.2.2.2.2.1.2.2.2.2.2.2.2.2.2.2.2.2.1 x.1.2.2.2.2.2.2.2.2.1.2.2.2.2.2.2.2.2.2.2.2.2.2.1 x.1.2.2.2.2.2.2.2.2.1.2.2.2.2.2.2.2.2.2.2.2.2.2.2.1 x.1.2.2.2.2.2.2.2.2.1.2.2.2.2.2.2.2.2.2.2.2.2.2.2.2.1 x.1.2.2.2.2.2.2.2.2.1.2.2.2.2.2.2.2.2.2.2.2.2.2.2.2.2.1 x.1.2.2.2.2.2.2.2.2.1.2.2.2.2.2.2.2.2.2.2.2.2.2.2.2.2.2.1 x.1.2.2.2.2.2.2.2.2.1.2.2.2.2.2.2.2.2.2.2.2.2.2.2.2.2.2.2.1 x.1.2.2.2.2.2.2.2.2.1.2.2.2.2.2.2.2.2.2.2.2.2.2.2.2.2.2.2.2.1 x.1.2.2.2.2.2.2.2.2.1.2.2.2.2.2.2.2.2.2.2.2.2.2.2.2.2.2.2.2.2.1 x.1.2.2.2.2.2.2.2.2.1.2.2.2.2.2.2.2.2.2.2.2.2.2.2.2.2.2.2.2.2.2.1 x.1.2.2.2.2.2.2.2.2.1.2.2.2.2.2.2.2.2.2.2.2.2.2.2.2.2.2.2.2.2.2.2.1 x.1.2.2.2.2.2.2.2.2.1.2.2.2.2.2.2.2.2.2.2.2.2.2.2.2.2.2.2.2.2.2.2.2.1 x.1.2.2.2.2.2.2.2.2.1.2.2.2.2.2.2.2.2.2.2.2.2.2.2.2.2.2.2.2.2.2.2.2.2.1 x.1.2.2.2.2.2.2.2.2.1.2.2.2.2.2.2.2.2.2.2.2.2.2.2.2.2.2.2.2.2.2.2.2.2.2.1 x.1.2.2.2.2.2.2.2.2.2.2.2.2.2.2.2.1 x.1.2.2.2.2.2.2.2.2.2.2.2.2.2.2.2.2.1 x.1.2.2.2.2.2.2.2.2.2.2.2.2.2.2.2.2.2.1.1 x.1.2.2.2.2.2.2.2.2.2.2.2.2.2.2.2.2.2.1.2.1 x.1.2.2.2.2.2.2.2.2.2.2.2.2.2.2.2.2.2.1.2.2.2.1 x.1.2.2.2.2.2.2.2.2.2.2.2.2.2.2.2.2.2.1.2.2.2.2.1 x.1.2.2.2.2.2.2.2.2.2.2.2.2.2.2.2.2.2.1.2.2.2.2.2 x.1.2.2.2.2.2.2.2.2.2.2.2.2.2.2.2.2.2.2.1 x.1.2.2.2.2.2.2.2.2.2.2.2.2.2.2.2.2.2.2.2.1 x.1.2.2.2.2.2.2.2.2.2.2.2.2.2.2.2.2.2.2.2.2.1 x.1.2.2.2.2.2.2.2.2.2.2.2.2.2.2.2.2.2.2.2.2.2.1 x.1.2.2.2.2.2.2.2.2.2.2.2.2.2.2.2.2.2.2.2.2.2.2.1 x.1.2.2.2.2.2.2.2.2.2.2.2.2.2.2.2.2.2.2.2.2.2.2.2.1.1 x.1.2.2.2.2.2.2.2.2.2.2.2.2.2.2.2.2.2.2.2.2.2.2.2.1.2.1 x.1.2.2.2.2.2.2.2.2.2.2.2.2.2.2.2.2.2.2.2.2.2.2.2.1.2.2.2.1 x.1.2.2.2.2.2.2.2.2.2.2.2.2.2.2.2.2.2.2.2.2.2.2.2.1.2.2.2.2.1 x.1.2.2.2.2.2.2.2.2.2.2.2.2.2.2.2.2.2.2.2.2.2.2.2.1.2.2.2.2.2 x.1.2.2.2.2.2.2.2.2.2.2.2.2.2.2.2.2.2.2.2.2.2.2.2.2.1 x.1.2.2.2.2.2.2.2.2.2.2.2.2.2.2.2.2.2.2.2.2.2.2.2.2.2.1 x.1.2.2.2.2.2.2.2.2.2.2.2.2.2.2.2.2.2.2.2.2.2.2.2.2.2.2.1 x.1.2.2.2.2.2.2.2.2.2.2.2.2.2.2.2.2.2.2.2.2.2.2.2.2.2.2.2.1 x.1.2.2.2.2.2.2.2.2.2.2.2.2.2.2.2.2.2.2.2.2.2.2.2.2.2.2.2.2.1 x.2.2.2.2.1 x.2.2.2.2.2
def pa : D.den -> Rt -> A.den := fun (((_, (_, (_, (_, _)))), ((_, (_, (_, (_, (_, (_, (_, (_, (_, (_, (_, (_, (_, (_, (_, (_, (_, (_, (_, (_, (_, (_, (_, (_, (_, (_, _)))))))))))))))))))))))))), (_, (_, (_, (_, (_, (_, ((_, (_, (_, (_, (_, (_, (_, (_, (_, (_, (_, (_, (_, (_, (_, (_, (_, (_, (_, (_, (_, (_, (_, (_, (_, (_, _)))))))))))))))))))))))))), (_, (_, (_, (_, (_, (_, (parts, (_, ((_, (_, (_, (_, (_, _))))), (_, (_, (_, (_, (_, ((_, (_, (_, (_, (_, _))))), (_, (_, (_, (_, (_, _))))))))))))))))))))))))))))), (_, (_, (_, (_, _))))) (y1, y2, y3, y4, y5, y6, y7, y8, y9, y10, y11, y12, y13, y14, y15, y16, y17, y18, y19, y20, y21, y22, y23, y24, y25, y26, y27, y28, y29, y30, y31, y32, y33, y34, y35, y36, y37, y38, y39, y40, y41, y42, y43, y44, y45, y46, y47, y48, y49, y50, y51, y52, y53, y54, y55, y56, y57, y58, y59, y60, y61, y62, y63, y64, y65, y66, y67, y68) => ((((), ((), (y1, (y2, y3)))), (((), (y4, (y5, (y6, ((), (y7, ((), ((), (y8, (y9, (y10, (y11, (y12, (y13, (y14, (y15, (y16, (y17, (y18, (y19, (y20, (y21, (y22, (y23, (y24, (y25, ())))))))))))))))))))))))))), ((), ((), ((), ((), ((), ((), (((), (y26, (y27, (y28, ((), (y29, ((), ((), (y30, (y31, (y32, (y33, (y34, (y35, (y36, (y37, (y38, (y39, (y40, (y41, (y42, (y43, (y44, (y45, (y46, (y47, ())))))))))))))))))))))))))), ((), ((), ((), ((), ((), ((), (parts, (y48, ((y49, (y50, ((), (y51, (y52, y53))))), (y54, (y55, (y56, (y57, (y58, ((y59, (y60, ((), (y61, (y62, y63))))), (y64, (y65, (y66, (y67, (y68, ()))))))))))))))))))))))))))))), ())
def pb : D.den -> Rt -> B.den := fun (((_, (_, (_, (_, _)))), ((_, (_, (_, (_, (_, (_, (_, (_, (_, (_, (_, (_, (_, (_, (_, (_, (_, (_, (_, (_, (_, (_, (_, (_, (_, (_, _)))))))))))))))))))))))))), (_, (_, (_, (_, (_, (_, ((_, (_, (_, (_, (_, (_, (_, (_, (_, (_, (_, (_, (_, (_, (_, (_, (_, (_, (_, (_, (_, (_, (_, (_, (_, (_, _)))))))))))))))))))))))))), (_, (_, (_, (_, (_, (_, (parts, (_, ((_, (_, (_, (_, (_, _))))), (_, (_, (_, (_, (_, ((_, (_, (_, (_, (_, _))))), (_, (_, (_, (_, (_, _))))))))))))))))))))))))))))), (_, (_, (_, (_, _))))) (y1, y2, y3, y4, y5, y6, y7, y8, y9, y10, y11, y12, y13, y14, y15, y16, y17, y18, y19, y20, y21, y22, y23, y24, y25, y26, y27, y28, y29, y30, y31, y32, y33, y34, y35, y36, y37, y38, y39, y40, y41, y42, y43, y44, y45, y46, y47, y48, y49, y50, y51, y52, y53, y54, y55, y56, y57, y58, y59, y60, y61, y62, y63, y64, y65, y66, y67, y68) => ((((), ((), (y1, (y2, y3)))), (((), (y4, (y5, (y6, ((), (y7, ((), ((), (y8, (y9, (y10, (y11, (y12, (y13, (y14, (y15, (y16, (y17, (y18, (y19, (y20, (y21, (y22, (y23, (y24, (y25, ())))))))))))))))))))))))))), ((), ((), ((), ((), ((), ((), (((), (y26, (y27, (y28, ((), (y29, ((), ((), (y30, (y31, (y32, (y33, (y34, (y35, (y36, (y37, (y38, (y39, (y40, (y41, (y42, (y43, (y44, (y45, (y46, (y47, ())))))))))))))))))))))))))), ((), ((), ((), ((), ((), ((), (parts, (y48, ((y49, (y50, ((), (y51, (y52, y53))))), (y54, (y55, (y56, (y57, (y58, ((y59, (y60, ((), (y61, (y62, y63))))), (y64, (y65, (y66, (y67, (y68, ()))))))))))))))))))))))))))))), ())
def lap : Lap := zim 3 89 [0, 5, 12, 13, 14] D (.exit 0) [5] A .ret [4] B pa pb F
def pk (x : D.den) (z : Zt) : D.den := ((((), ((), (z.1, (z.2.1, z.2.2.1)))), (((), (z.2.2.2.1, (z.2.2.2.2.1, (z.2.2.2.2.2.1, ((), (z.2.2.2.2.2.2.1, ((), ((), (z.2.2.2.2.2.2.2.1, (z.2.2.2.2.2.2.2.2.1, (z.2.2.2.2.2.2.2.2.2.1, (z.2.2.2.2.2.2.2.2.2.2.1, (z.2.2.2.2.2.2.2.2.2.2.2.1, (z.2.2.2.2.2.2.2.2.2.2.2.2.1, (z.2.2.2.2.2.2.2.2.2.2.2.2.2.1, (z.2.2.2.2.2.2.2.2.2.2.2.2.2.2.1, (z.2.2.2.2.2.2.2.2.2.2.2.2.2.2.2.1, (z.2.2.2.2.2.2.2.2.2.2.2.2.2.2.2.2.1, (z.2.2.2.2.2.2.2.2.2.2.2.2.2.2.2.2.2.1, (z.2.2.2.2.2.2.2.2.2.2.2.2.2.2.2.2.2.2.1, (z.2.2.2.2.2.2.2.2.2.2.2.2.2.2.2.2.2.2.2.1, (z.2.2.2.2.2.2.2.2.2.2.2.2.2.2.2.2.2.2.2.2.1, (z.2.2.2.2.2.2.2.2.2.2.2.2.2.2.2.2.2.2.2.2.2.1, (z.2.2.2.2.2.2.2.2.2.2.2.2.2.2.2.2.2.2.2.2.2.2.1, (z.2.2.2.2.2.2.2.2.2.2.2.2.2.2.2.2.2.2.2.2.2.2.2.1, (z.2.2.2.2.2.2.2.2.2.2.2.2.2.2.2.2.2.2.2.2.2.2.2.2.1, ())))))))))))))))))))))))))), ((), ((), ((), ((), ((), ((), (((), (z.2.2.2.2.2.2.2.2.2.2.2.2.2.2.2.2.2.2.2.2.2.2.2.2.2.1, (z.2.2.2.2.2.2.2.2.2.2.2.2.2.2.2.2.2.2.2.2.2.2.2.2.2.2.1, (z.2.2.2.2.2.2.2.2.2.2.2.2.2.2.2.2.2.2.2.2.2.2.2.2.2.2.2.1, ((), (z.2.2.2.2.2.2.2.2.2.2.2.2.2.2.2.2.2.2.2.2.2.2.2.2.2.2.2.2.1, ((), ((), (z.2.2.2.2.2.2.2.2.2.2.2.2.2.2.2.2.2.2.2.2.2.2.2.2.2.2.2.2.2.1, (z.2.2.2.2.2.2.2.2.2.2.2.2.2.2.2.2.2.2.2.2.2.2.2.2.2.2.2.2.2.2.1, (z.2.2.2.2.2.2.2.2.2.2.2.2.2.2.2.2.2.2.2.2.2.2.2.2.2.2.2.2.2.2.2.1, (z.2.2.2.2.2.2.2.2.2.2.2.2.2.2.2.2.2.2.2.2.2.2.2.2.2.2.2.2.2.2.2.2.1, (z.2.2.2.2.2.2.2.2.2.2.2.2.2.2.2.2.2.2.2.2.2.2.2.2.2.2.2.2.2.2.2.2.2.1, (z.2.2.2.2.2.2.2.2.2.2.2.2.2.2.2.2.2.2.2.2.2.2.2.2.2.2.2.2.2.2.2.2.2.2.1, (z.2.2.2.2.2.2.2.2.2.2.2.2.2.2.2.2.2.2.2.2.2.2.2.2.2.2.2.2.2.2.2.2.2.2.2.1, (z.2.2.2.2.2.2.2.2.2.2.2.2.2.2.2.2.2.2.2.2.2.2.2.2.2.2.2.2.2.2.2.2.2.2.2.2.1, (z.2.2.2.2.2.2.2.2.2.2.2.2.2.2.2.2.2.2.2.2.2.2.2.2.2.2.2.2.2.2.2.2.2.2.2.2.2.1, (z.2.2.2.2.2.2.2.2.2.2.2.2.2.2.2.2.2.2.2.2.2.2.2.2.2.2.2.2.2.2.2.2.2.2.2.2.2.2.1, (z.2.2.2.2.2.2.2.2.2.2.2.2.2.2.2.2.2.2.2.2.2.2.2.2.2.2.2.2.2.2.2.2.2.2.2.2.2.2.2.1, (z.2.2.2.2.2.2.2.2.2.2.2.2.2.2.2.2.2.2.2.2.2.2.2.2.2.2.2.2.2.2.2.2.2.2.2.2.2.2.2.2.1, (z.2.2.2.2.2.2.2.2.2.2.2.2.2.2.2.2.2.2.2.2.2.2.2.2.2.2.2.2.2.2.2.2.2.2.2.2.2.2.2.2.2.1, (z.2.2.2.2.2.2.2.2.2.2.2.2.2.2.2.2.2.2.2.2.2.2.2.2.2.2.2.2.2.2.2.2.2.2.2.2.2.2.2.2.2.2.1, (z.2.2.2.2.2.2.2.2.2.2.2.2.2.2.2.2.2.2.2.2.2.2.2.2.2.2.2.2.2.2.2.2.2.2.2.2.2.2.2.2.2.2.2.1, (z.2.2.2.2.2.2.2.2.2.2.2.2.2.2.2.2.2.2.2.2.2.2.2.2.2.2.2.2.2.2.2.2.2.2.2.2.2.2.2.2.2.2.2.2.1, (z.2.2.2.2.2.2.2.2.2.2.2.2.2.2.2.2.2.2.2.2.2.2.2.2.2.2.2.2.2.2.2.2.2.2.2.2.2.2.2.2.2.2.2.2.2.1, (z.2.2.2.2.2.2.2.2.2.2.2.2.2.2.2.2.2.2.2.2.2.2.2.2.2.2.2.2.2.2.2.2.2.2.2.2.2.2.2.2.2.2.2.2.2.2.1, ())))))))))))))))))))))))))), ((), ((), ((), ((), ((), ((), (x.1.2.2.2.2.2.2.2.2.2.2.2.2.2.2.2.1, (z.2.2.2.2.2.2.2.2.2.2.2.2.2.2.2.2.2.2.2.2.2.2.2.2.2.2.2.2.2.2.2.2.2.2.2.2.2.2.2.2.2.2.2.2.2.2.2.1, ((z.2.2.2.2.2.2.2.2.2.2.2.2.2.2.2.2.2.2.2.2.2.2.2.2.2.2.2.2.2.2.2.2.2.2.2.2.2.2.2.2.2.2.2.2.2.2.2.2.1, (z.2.2.2.2.2.2.2.2.2.2.2.2.2.2.2.2.2.2.2.2.2.2.2.2.2.2.2.2.2.2.2.2.2.2.2.2.2.2.2.2.2.2.2.2.2.2.2.2.2.1, ((), (z.2.2.2.2.2.2.2.2.2.2.2.2.2.2.2.2.2.2.2.2.2.2.2.2.2.2.2.2.2.2.2.2.2.2.2.2.2.2.2.2.2.2.2.2.2.2.2.2.2.2.1, (z.2.2.2.2.2.2.2.2.2.2.2.2.2.2.2.2.2.2.2.2.2.2.2.2.2.2.2.2.2.2.2.2.2.2.2.2.2.2.2.2.2.2.2.2.2.2.2.2.2.2.2.1, z.2.2.2.2.2.2.2.2.2.2.2.2.2.2.2.2.2.2.2.2.2.2.2.2.2.2.2.2.2.2.2.2.2.2.2.2.2.2.2.2.2.2.2.2.2.2.2.2.2.2.2.2.1))))), (z.2.2.2.2.2.2.2.2.2.2.2.2.2.2.2.2.2.2.2.2.2.2.2.2.2.2.2.2.2.2.2.2.2.2.2.2.2.2.2.2.2.2.2.2.2.2.2.2.2.2.2.2.2.1, (z.2.2.2.2.2.2.2.2.2.2.2.2.2.2.2.2.2.2.2.2.2.2.2.2.2.2.2.2.2.2.2.2.2.2.2.2.2.2.2.2.2.2.2.2.2.2.2.2.2.2.2.2.2.2.1, (z.2.2.2.2.2.2.2.2.2.2.2.2.2.2.2.2.2.2.2.2.2.2.2.2.2.2.2.2.2.2.2.2.2.2.2.2.2.2.2.2.2.2.2.2.2.2.2.2.2.2.2.2.2.2.2.1, (z.2.2.2.2.2.2.2.2.2.2.2.2.2.2.2.2.2.2.2.2.2.2.2.2.2.2.2.2.2.2.2.2.2.2.2.2.2.2.2.2.2.2.2.2.2.2.2.2.2.2.2.2.2.2.2.2.1, (z.2.2.2.2.2.2.2.2.2.2.2.2.2.2.2.2.2.2.2.2.2.2.2.2.2.2.2.2.2.2.2.2.2.2.2.2.2.2.2.2.2.2.2.2.2.2.2.2.2.2.2.2.2.2.2.2.2.1, ((z.2.2.2.2.2.2.2.2.2.2.2.2.2.2.2.2.2.2.2.2.2.2.2.2.2.2.2.2.2.2.2.2.2.2.2.2.2.2.2.2.2.2.2.2.2.2.2.2.2.2.2.2.2.2.2.2.2.2.1, (z.2.2.2.2.2.2.2.2.2.2.2.2.2.2.2.2.2.2.2.2.2.2.2.2.2.2.2.2.2.2.2.2.2.2.2.2.2.2.2.2.2.2.2.2.2.2.2.2.2.2.2.2.2.2.2.2.2.2.2.1, ((), (z.2.2.2.2.2.2.2.2.2.2.2.2.2.2.2.2.2.2.2.2.2.2.2.2.2.2.2.2.2.2.2.2.2.2.2.2.2.2.2.2.2.2.2.2.2.2.2.2.2.2.2.2.2.2.2.2.2.2.2.2.1, (z.2.2.2.2.2.2.2.2.2.2.2.2.2.2.2.2.2.2.2.2.2.2.2.2.2.2.2.2.2.2.2.2.2.2.2.2.2.2.2.2.2.2.2.2.2.2.2.2.2.2.2.2.2.2.2.2.2.2.2.2.2.1, z.2.2.2.2.2.2.2.2.2.2.2.2.2.2.2.2.2.2.2.2.2.2.2.2.2.2.2.2.2.2.2.2.2.2.2.2.2.2.2.2.2.2.2.2.2.2.2.2.2.2.2.2.2.2.2.2.2.2.2.2.2.2.1))))), (z.2.2.2.2.2.2.2.2.2.2.2.2.2.2.2.2.2.2.2.2.2.2.2.2.2.2.2.2.2.2.2.2.2.2.2.2.2.2.2.2.2.2.2.2.2.2.2.2.2.2.2.2.2.2.2.2.2.2.2.2.2.2.2.1, (z.2.2.2.2.2.2.2.2.2.2.2.2.2.2.2.2.2.2.2.2.2.2.2.2.2.2.2.2.2.2.2.2.2.2.2.2.2.2.2.2.2.2.2.2.2.2.2.2.2.2.2.2.2.2.2.2.2.2.2.2.2.2.2.2.1, (z.2.2.2.2.2.2.2.2.2.2.2.2.2.2.2.2.2.2.2.2.2.2.2.2.2.2.2.2.2.2.2.2.2.2.2.2.2.2.2.2.2.2.2.2.2.2.2.2.2.2.2.2.2.2.2.2.2.2.2.2.2.2.2.2.2.1, (z.2.2.2.2.2.2.2.2.2.2.2.2.2.2.2.2.2.2.2.2.2.2.2.2.2.2.2.2.2.2.2.2.2.2.2.2.2.2.2.2.2.2.2.2.2.2.2.2.2.2.2.2.2.2.2.2.2.2.2.2.2.2.2.2.2.2.1, (z.2.2.2.2.2.2.2.2.2.2.2.2.2.2.2.2.2.2.2.2.2.2.2.2.2.2.2.2.2.2.2.2.2.2.2.2.2.2.2.2.2.2.2.2.2.2.2.2.2.2.2.2.2.2.2.2.2.2.2.2.2.2.2.2.2.2.2.1, ()))))))))))))))))))))))))))))), ((), ((), ((), (x.2.2.2.2.1, z.2.2.2.2.2.2.2.2.2.2.2.2.2.2.2.2.2.2.2.2.2.2.2.2.2.2.2.2.2.2.2.2.2.2.2.2.2.2.2.2.2.2.2.2.2.2.2.2.2.2.2.2.2.2.2.2.2.2.2.2.2.2.2.2.2.2.2.2)))))
def un (x : D.den) := (x.1.1.2.2.1, x.1.1.2.2.2.1, x.1.1.2.2.2.2, x.1.2.1.2.1, x.1.2.1.2.2.1, x.1.2.1.2.2.2.1, x.1.2.1.2.2.2.2.2.1, x.1.2.1.2.2.2.2.2.2.2.2.1, x.1.2.1.2.2.2.2.2.2.2.2.2.1, x.1.2.1.2.2.2.2.2.2.2.2.2.2.1, x.1.2.1.2.2.2.2.2.2.2.2.2.2.2.1, x.1.2.1.2.2.2.2.2.2.2.2.2.2.2.2.1, x.1.2.1.2.2.2.2.2.2.2.2.2.2.2.2.2.1, x.1.2.1.2.2.2.2.2.2.2.2.2.2.2.2.2.2.1, x.1.2.1.2.2.2.2.2.2.2.2.2.2.2.2.2.2.2.1, x.1.2.1.2.2.2.2.2.2.2.2.2.2.2.2.2.2.2.2.1, x.1.2.1.2.2.2.2.2.2.2.2.2.2.2.2.2.2.2.2.2.1, x.1.2.1.2.2.2.2.2.2.2.2.2.2.2.2.2.2.2.2.2.2.1, x.1.2.1.2.2.2.2.2.2.2.2.2.2.2.2.2.2.2.2.2.2.2.1, x.1.2.1.2.2.2.2.2.2.2.2.2.2.2.2.2.2.2.2.2.2.2.2.1, x.1.2.1.2.2.2.2.2.2.2.2.2.2.2.2.2.2.2.2.2.2.2.2.2.1, x.1.2.1.2.2.2.2.2.2.2.2.2.2.2.2.2.2.2.2.2.2.2.2.2.2.1, x.1.2.1.2.2.2.2.2.2.2.2.2.2.2.2.2.2.2.2.2.2.2.2.2.2.2.1, x.1.2.1.2.2.2.2.2.2.2.2.2.2.2.2.2.2.2.2.2.2.2.2.2.2.2.2.1, x.1.2.1.2.2.2.2.2.2.2.2.2.2.2.2.2.2.2.2.2.2.2.2.2.2.2.2.2.1, x.1.2.2.2.2.2.2.2.2.1.2.1, x.1.2.2.2.2.2.2.2.2.1.2.2.1, x.1.2.2.2.2.2.2.2.2.1.2.2.2.1, x.1.2.2.2.2.2.2.2.2.1.2.2.2.2.2.1, x.1.2.2.2.2.2.2.2.2.1.2.2.2.2.2.2.2.2.1, x.1.2.2.2.2.2.2.2.2.1.2.2.2.2.2.2.2.2.2.1, x.1.2.2.2.2.2.2.2.2.1.2.2.2.2.2.2.2.2.2.2.1, x.1.2.2.2.2.2.2.2.2.1.2.2.2.2.2.2.2.2.2.2.2.1, x.1.2.2.2.2.2.2.2.2.1.2.2.2.2.2.2.2.2.2.2.2.2.1, x.1.2.2.2.2.2.2.2.2.1.2.2.2.2.2.2.2.2.2.2.2.2.2.1, x.1.2.2.2.2.2.2.2.2.1.2.2.2.2.2.2.2.2.2.2.2.2.2.2.1, x.1.2.2.2.2.2.2.2.2.1.2.2.2.2.2.2.2.2.2.2.2.2.2.2.2.1, x.1.2.2.2.2.2.2.2.2.1.2.2.2.2.2.2.2.2.2.2.2.2.2.2.2.2.1, x.1.2.2.2.2.2.2.2.2.1.2.2.2.2.2.2.2.2.2.2.2.2.2.2.2.2.2.1, x.1.2.2.2.2.2.2.2.2.1.2.2.2.2.2.2.2.2.2.2.2.2.2.2.2.2.2.2.1, x.1.2.2.2.2.2.2.2.2.1.2.2.2.2.2.2.2.2.2.2.2.2.2.2.2.2.2.2.2.1, x.1.2.2.2.2.2.2.2.2.1.2.2.2.2.2.2.2.2.2.2.2.2.2.2.2.2.2.2.2.2.1, x.1.2.2.2.2.2.2.2.2.1.2.2.2.2.2.2.2.2.2.2.2.2.2.2.2.2.2.2.2.2.2.1, x.1.2.2.2.2.2.2.2.2.1.2.2.2.2.2.2.2.2.2.2.2.2.2.2.2.2.2.2.2.2.2.2.1, x.1.2.2.2.2.2.2.2.2.1.2.2.2.2.2.2.2.2.2.2.2.2.2.2.2.2.2.2.2.2.2.2.2.1, x.1.2.2.2.2.2.2.2.2.1.2.2.2.2.2.2.2.2.2.2.2.2.2.2.2.2.2.2.2.2.2.2.2.2.1, x.1.2.2.2.2.2.2.2.2.1.2.2.2.2.2.2.2.2.2.2.2.2.2.2.2.2.2.2.2.2.2.2.2.2.2.1, x.1.2.2.2.2.2.2.2.2.2.2.2.2.2.2.2.2.1, x.1.2.2.2.2.2.2.2.2.2.2.2.2.2.2.2.2.2.1.1, x.1.2.2.2.2.2.2.2.2.2.2.2.2.2.2.2.2.2.1.2.1, x.1.2.2.2.2.2.2.2.2.2.2.2.2.2.2.2.2.2.1.2.2.2.1, x.1.2.2.2.2.2.2.2.2.2.2.2.2.2.2.2.2.2.1.2.2.2.2.1, x.1.2.2.2.2.2.2.2.2.2.2.2.2.2.2.2.2.2.1.2.2.2.2.2, x.1.2.2.2.2.2.2.2.2.2.2.2.2.2.2.2.2.2.2.1, x.1.2.2.2.2.2.2.2.2.2.2.2.2.2.2.2.2.2.2.2.1, x.1.2.2.2.2.2.2.2.2.2.2.2.2.2.2.2.2.2.2.2.2.1, x.1.2.2.2.2.2.2.2.2.2.2.2.2.2.2.2.2.2.2.2.2.2.1, x.1.2.2.2.2.2.2.2.2.2.2.2.2.2.2.2.2.2.2.2.2.2.2.1, x.1.2.2.2.2.2.2.2.2.2.2.2.2.2.2.2.2.2.2.2.2.2.2.2.1.1, x.1.2.2.2.2.2.2.2.2.2.2.2.2.2.2.2.2.2.2.2.2.2.2.2.1.2.1, x.1.2.2.2.2.2.2.2.2.2.2.2.2.2.2.2.2.2.2.2.2.2.2.2.1.2.2.2.1, x.1.2.2.2.2.2.2.2.2.2.2.2.2.2.2.2.2.2.2.2.2.2.2.2.1.2.2.2.2.1, x.1.2.2.2.2.2.2.2.2.2.2.2.2.2.2.2.2.2.2.2.2.2.2.2.1.2.2.2.2.2, x.1.2.2.2.2.2.2.2.2.2.2.2.2.2.2.2.2.2.2.2.2.2.2.2.2.1, x.1.2.2.2.2.2.2.2.2.2.2.2.2.2.2.2.2.2.2.2.2.2.2.2.2.2.1, x.1.2.2.2.2.2.2.2.2.2.2.2.2.2.2.2.2.2.2.2.2.2.2.2.2.2.2.1, x.1.2.2.2.2.2.2.2.2.2.2.2.2.2.2.2.2.2.2.2.2.2.2.2.2.2.2.2.1, x.1.2.2.2.2.2.2.2.2.2.2.2.2.2.2.2.2.2.2.2.2.2.2.2.2.2.2.2.2.1, x.2.2.2.2.2)
def body (x : D.den) (z : Zt) := t z.1 z.2.1 z.2.2.1 z.2.2.2.1 z.2.2.2.2.1 z.2.2.2.2.2.1 z.2.2.2.2.2.2.1 z.2.2.2.2.2.2.2.1 z.2.2.2.2.2.2.2.2.1 z.2.2.2.2.2.2.2.2.2.1 z.2.2.2.2.2.2.2.2.2.2.1 z.2.2.2.2.2.2.2.2.2.2.2.1 z.2.2.2.2.2.2.2.2.2.2.2.2.1 z.2.2.2.2.2.2.2.2.2.2.2.2.2.1 z.2.2.2.2.2.2.2.2.2.2.2.2.2.2.1 z.2.2.2.2.2.2.2.2.2.2.2.2.2.2.2.1 z.2.2.2.2.2.2.2.2.2.2.2.2.2.2.2.2.1 z.2.2.2.2.2.2.2.2.2.2.2.2.2.2.2.2.2.1 z.2.2.2.2.2.2.2.2.2.2.2.2.2.2.2.2.2.2.1 z.2.2.2.2.2.2.2.2.2.2.2.2.2.2.2.2.2.2.2.1 z.2.2.2.2.2.2.2.2.2.2.2.2.2.2.2.2.2.2.2.2.1 z.2.2.2.2.2.2.2.2.2.2.2.2.2.2.2.2.2.2.2.2.2.1 z.2.2.2.2.2.2.2.2.2.2.2.2.2.2.2.2.2.2.2.2.2.2.1 z.2.2.2.2.2.2.2.2.2.2.2.2.2.2.2.2.2.2.2.2.2.2.2.1 z.2.2.2.2.2.2.2.2.2.2.2.2.2.2.2.2.2.2.2.2.2.2.2.2.1 z.2.2.2.2.2.2.2.2.2.2.2.2.2.2.2.2.2.2.2.2.2.2.2.2.2.1 z.2.2.2.2.2.2.2.2.2.2.2.2.2.2.2.2.2.2.2.2.2.2.2.2.2.2.1 z.2.2.2.2.2.2.2.2.2.2.2.2.2.2.2.2.2.2.2.2.2.2.2.2.2.2.2.1 z.2.2.2.2.2.2.2.2.2.2.2.2.2.2.2.2.2.2.2.2.2.2.2.2.2.2.2.2.1 z.2.2.2.2.2.2.2.2.2.2.2.2.2.2.2.2.2.2.2.2.2.2.2.2.2.2.2.2.2.1 z.2.2.2.2.2.2.2.2.2.2.2.2.2.2.2.2.2.2.2.2.2.2.2.2.2.2.2.2.2.2.1 z.2.2.2.2.2.2.2.2.2.2.2.2.2.2.2.2.2.2.2.2.2.2.2.2.2.2.2.2.2.2.2.1 z.2.2.2.2.2.2.2.2.2.2.2.2.2.2.2.2.2.2.2.2.2.2.2.2.2.2.2.2.2.2.2.2.1 z.2.2.2.2.2.2.2.2.2.2.2.2.2.2.2.2.2.2.2.2.2.2.2.2.2.2.2.2.2.2.2.2.2.1 z.2.2.2.2.2.2.2.2.2.2.2.2.2.2.2.2.2.2.2.2.2.2.2.2.2.2.2.2.2.2.2.2.2.2.1 z.2.2.2.2.2.2.2.2.2.2.2.2.2.2.2.2.2.2.2.2.2.2.2.2.2.2.2.2.2.2.2.2.2.2.2.1 z.2.2.2.2.2.2.2.2.2.2.2.2.2.2.2.2.2.2.2.2.2.2.2.2.2.2.2.2.2.2.2.2.2.2.2.2.1 z.2.2.2.2.2.2.2.2.2.2.2.2.2.2.2.2.2.2.2.2.2.2.2.2.2.2.2.2.2.2.2.2.2.2.2.2.2.1 z.2.2.2.2.2.2.2.2.2.2.2.2.2.2.2.2.2.2.2.2.2.2.2.2.2.2.2.2.2.2.2.2.2.2.2.2.2.2.1 z.2.2.2.2.2.2.2.2.2.2.2.2.2.2.2.2.2.2.2.2.2.2.2.2.2.2.2.2.2.2.2.2.2.2.2.2.2.2.2.1 z.2.2.2.2.2.2.2.2.2.2.2.2.2.2.2.2.2.2.2.2.2.2.2.2.2.2.2.2.2.2.2.2.2.2.2.2.2.2.2.2.1 z.2.2.2.2.2.2.2.2.2.2.2.2.2.2.2.2.2.2.2.2.2.2.2.2.2.2.2.2.2.2.2.2.2.2.2.2.2.2.2.2.2.1 z.2.2.2.2.2.2.2.2.2.2.2.2.2.2.2.2.2.2.2.2.2.2.2.2.2.2.2.2.2.2.2.2.2.2.2.2.2.2.2.2.2.2.1 z.2.2.2.2.2.2.2.2.2.2.2.2.2.2.2.2.2.2.2.2.2.2.2.2.2.2.2.2.2.2.2.2.2.2.2.2.2.2.2.2.2.2.2.1 z.2.2.2.2.2.2.2.2.2.2.2.2.2.2.2.2.2.2.2.2.2.2.2.2.2.2.2.2.2.2.2.2.2.2.2.2.2.2.2.2.2.2.2.2.1 z.2.2.2.2.2.2.2.2.2.2.2.2.2.2.2.2.2.2.2.2.2.2.2.2.2.2.2.2.2.2.2.2.2.2.2.2.2.2.2.2.2.2.2.2.2.1 z.2.2.2.2.2.2.2.2.2.2.2.2.2.2.2.2.2.2.2.2.2.2.2.2.2.2.2.2.2.2.2.2.2.2.2.2.2.2.2.2.2.2.2.2.2.2.1 x.1.2.2.2.2.2.2.2.2.2.2.2.2.2.2.2.1 z.2.2.2.2.2.2.2.2.2.2.2.2.2.2.2.2.2.2.2.2.2.2.2.2.2.2.2.2.2.2.2.2.2.2.2.2.2.2.2.2.2.2.2.2.2.2.2.1 z.2.2.2.2.2.2.2.2.2.2.2.2.2.2.2.2.2.2.2.2.2.2.2.2.2.2.2.2.2.2.2.2.2.2.2.2.2.2.2.2.2.2.2.2.2.2.2.2.1 z.2.2.2.2.2.2.2.2.2.2.2.2.2.2.2.2.2.2.2.2.2.2.2.2.2.2.2.2.2.2.2.2.2.2.2.2.2.2.2.2.2.2.2.2.2.2.2.2.2.1 z.2.2.2.2.2.2.2.2.2.2.2.2.2.2.2.2.2.2.2.2.2.2.2.2.2.2.2.2.2.2.2.2.2.2.2.2.2.2.2.2.2.2.2.2.2.2.2.2.2.2.1 z.2.2.2.2.2.2.2.2.2.2.2.2.2.2.2.2.2.2.2.2.2.2.2.2.2.2.2.2.2.2.2.2.2.2.2.2.2.2.2.2.2.2.2.2.2.2.2.2.2.2.2.1 z.2.2.2.2.2.2.2.2.2.2.2.2.2.2.2.2.2.2.2.2.2.2.2.2.2.2.2.2.2.2.2.2.2.2.2.2.2.2.2.2.2.2.2.2.2.2.2.2.2.2.2.2.1 z.2.2.2.2.2.2.2.2.2.2.2.2.2.2.2.2.2.2.2.2.2.2.2.2.2.2.2.2.2.2.2.2.2.2.2.2.2.2.2.2.2.2.2.2.2.2.2.2.2.2.2.2.2.1 z.2.2.2.2.2.2.2.2.2.2.2.2.2.2.2.2.2.2.2.2.2.2.2.2.2.2.2.2.2.2.2.2.2.2.2.2.2.2.2.2.2.2.2.2.2.2.2.2.2.2.2.2.2.2.1 z.2.2.2.2.2.2.2.2.2.2.2.2.2.2.2.2.2.2.2.2.2.2.2.2.2.2.2.2.2.2.2.2.2.2.2.2.2.2.2.2.2.2.2.2.2.2.2.2.2.2.2.2.2.2.2.1 z.2.2.2.2.2.2.2.2.2.2.2.2.2.2.2.2.2.2.2.2.2.2.2.2.2.2.2.2.2.2.2.2.2.2.2.2.2.2.2.2.2.2.2.2.2.2.2.2.2.2.2.2.2.2.2.2.1 z.2.2.2.2.2.2.2.2.2.2.2.2.2.2.2.2.2.2.2.2.2.2.2.2.2.2.2.2.2.2.2.2.2.2.2.2.2.2.2.2.2.2.2.2.2.2.2.2.2.2.2.2.2.2.2.2.2.1 z.2.2.2.2.2.2.2.2.2.2.2.2.2.2.2.2.2.2.2.2.2.2.2.2.2.2.2.2.2.2.2.2.2.2.2.2.2.2.2.2.2.2.2.2.2.2.2.2.2.2.2.2.2.2.2.2.2.2.1 z.2.2.2.2.2.2.2.2.2.2.2.2.2.2.2.2.2.2.2.2.2.2.2.2.2.2.2.2.2.2.2.2.2.2.2.2.2.2.2.2.2.2.2.2.2.2.2.2.2.2.2.2.2.2.2.2.2.2.2.1 z.2.2.2.2.2.2.2.2.2.2.2.2.2.2.2.2.2.2.2.2.2.2.2.2.2.2.2.2.2.2.2.2.2.2.2.2.2.2.2.2.2.2.2.2.2.2.2.2.2.2.2.2.2.2.2.2.2.2.2.2.1 z.2.2.2.2.2.2.2.2.2.2.2.2.2.2.2.2.2.2.2.2.2.2.2.2.2.2.2.2.2.2.2.2.2.2.2.2.2.2.2.2.2.2.2.2.2.2.2.2.2.2.2.2.2.2.2.2.2.2.2.2.2.1 z.2.2.2.2.2.2.2.2.2.2.2.2.2.2.2.2.2.2.2.2.2.2.2.2.2.2.2.2.2.2.2.2.2.2.2.2.2.2.2.2.2.2.2.2.2.2.2.2.2.2.2.2.2.2.2.2.2.2.2.2.2.2.1 z.2.2.2.2.2.2.2.2.2.2.2.2.2.2.2.2.2.2.2.2.2.2.2.2.2.2.2.2.2.2.2.2.2.2.2.2.2.2.2.2.2.2.2.2.2.2.2.2.2.2.2.2.2.2.2.2.2.2.2.2.2.2.2.1 z.2.2.2.2.2.2.2.2.2.2.2.2.2.2.2.2.2.2.2.2.2.2.2.2.2.2.2.2.2.2.2.2.2.2.2.2.2.2.2.2.2.2.2.2.2.2.2.2.2.2.2.2.2.2.2.2.2.2.2.2.2.2.2.2.1 z.2.2.2.2.2.2.2.2.2.2.2.2.2.2.2.2.2.2.2.2.2.2.2.2.2.2.2.2.2.2.2.2.2.2.2.2.2.2.2.2.2.2.2.2.2.2.2.2.2.2.2.2.2.2.2.2.2.2.2.2.2.2.2.2.2.1 z.2.2.2.2.2.2.2.2.2.2.2.2.2.2.2.2.2.2.2.2.2.2.2.2.2.2.2.2.2.2.2.2.2.2.2.2.2.2.2.2.2.2.2.2.2.2.2.2.2.2.2.2.2.2.2.2.2.2.2.2.2.2.2.2.2.2.1 z.2.2.2.2.2.2.2.2.2.2.2.2.2.2.2.2.2.2.2.2.2.2.2.2.2.2.2.2.2.2.2.2.2.2.2.2.2.2.2.2.2.2.2.2.2.2.2.2.2.2.2.2.2.2.2.2.2.2.2.2.2.2.2.2.2.2.2.1 x.2.2.2.2.1 z.2.2.2.2.2.2.2.2.2.2.2.2.2.2.2.2.2.2.2.2.2.2.2.2.2.2.2.2.2.2.2.2.2.2.2.2.2.2.2.2.2.2.2.2.2.2.2.2.2.2.2.2.2.2.2.2.2.2.2.2.2.2.2.2.2.2.2.2
theorem ok : zhe Tryz.prog 16 (codeOf Tryz.prog 7) lap := zin Base.mixed Base.prog_ok q60 (by kernel_rfl) (by kernel_rfl) (.cons L6.ok (by kernel_rfl) (.nil)) 9 pk un body (fun _ _ => rfl) (fun _ _ => rfl) (fun _ _ => rfl) (fun _ _ => rfl) (fun _ => rfl) fun _ _ _ _ => (by kernel_rfl)
end L3
def A : Dom := q0l.L6.B
abbrev Rt := Int × Int × Bool × Ls × Ls × Int × Bool × Int × Int × Int × Int × Bool × Bool × Int × Int × Int × Int × Int × Int × Int × Int × Int × Bool × Bool × Int × Ls × Ls × Int × Bool × Int × Int × Int × Int × Bool × Bool × Int × Int × Int × Int × Int × Int × Int × Int × Int × Bool × Bool × Int × (List (Ls × Ls × Int × Lf × Bool × Ls × Lf)) × Int × Int × Bool × Bool × Bool × Ls × (Lf) × Ls × (Lf) × (List (Ls × Ls × Int × Lf × Bool × Ls × Lf)) × Int × Int × Bool × Bool × Bool × Ls × (Lf) × Ls × (Lf) × (List (Ls × Ls × Int × Lf × Bool × Ls × Lf))
def t (verdict:Int) (code:Int) (parted:Bool) (Method : Ls) (Target : Ls) (Minor:Int) (Chunked:Bool) (stage:Int) (lines:Int) (head:Int) (need:Int) (begun:Bool) (waits:Bool) (p:Int) (Line:Int) (Fields:Int) (Head:Int) (Body:Int) (Ext:Int) (Trailers:Int) (Wait:Int) (Idle:Int) (Chunked_2:Bool) (Old:Bool) (err:Int) (p_2:Int) (most:Int) (pending:Bool) (over:Bool) (bad:Bool) (b : Ls) (Fields_2 : Lf) (Body_2 : Ls) (Trailers_2 : Lf) (out : List (Ls × Ls × Int × Lf × Bool × Ls × Lf)) (Method_2 : Ls) (Target_2 : Ls) (Minor_2:Int) (Chunked_3:Bool) (stage_2:Int) (lines_2:Int) (head_2:Int) (need_2:Int) (begun_2:Bool) (waits_2:Bool) (p_3:Int) (Line_2:Int) (Fields_3:Int) (Head_2:Int) (Body_3:Int) (Ext_2:Int) (Trailers_3:Int) (Wait_2:Int) (Idle_2:Int) (Chunked_4:Bool) (Old_2:Bool) (err_2:Int) (p_4:Int) (most_2:Int) (pending_2:Bool) (over_2:Bool) (bad_2:Bool) (b_2 : Ls) (Fields_4 : Lf) (Body_4 : Ls) (Trailers_4 : Lf) (out_2 : List (Ls × Ls × Int × Lf × Bool × Ls × Lf)) (parts : List (Ls)) : Tr Rt :=
 .okl parts.length<|.okl b.length<|.okl Fields_2.length<|.okl Body_2.length<|.okl Trailers_2.length<|.okl out.length<|.okl b_2.length<|.okl Fields_4.length<|.okl Body_4.length<|.okl Trailers_4.length<|.okl out_2.length<|.both (q0l.L3.f verdict code parted Method Target Minor Chunked stage lines head need begun waits p Line Fields Head Body Ext Trailers Wait Idle Chunked_2 Old err Method_2 Target_2 Minor_2 Chunked_3 stage_2 lines_2 head_2 need_2 begun_2 waits_2 p_3 Line_2 Fields_3 Head_2 Body_3 Ext_2 Trailers_3 Wait_2 Idle_2 Chunked_4 Old_2 err_2 parts [] p_2 most pending over bad b Fields_2 Body_2 Trailers_2 out p_4 most_2 pending_2 over_2 bad_2 b_2 Fields_4 Body_4 Trailers_4 out_2 (↑parts.length:Int) (0:Int)) (fun (y1a, y1b, y1c, y1d, y1e, y1f, y1g, y1h, y1i, y1j, y1k, y1l, y1m, y1n, y1o, y1p, y1q, y1r, y1s, y1t, y1u, y1v, y1w, y1x, y1y, y1z, y1aa, y1ab, y1ac, y1ad, y1ae, y1af, y1ag, y1ah, y1ai, y1aj, y1ak, y1al, y1am, y1an, y1ao, y1ap, y1aq, y1ar, y1as, y1at, y1au, y1av, y1aw, y1ax, y1ay, y1az, y1ba, y1bb, y1bc, y1bd, y1be, y1bf, y1bg, y1bh, y1bi, y1bj, y1bk, y1bl, y1bm, y1bn, y1bo, y1bp) => .okl y1av.length<|.okl y1bb.length<|.okl y1bc.length<|.okl y1bd.length<|.okl y1be.length<|.okl y1bf.length<|.okl y1bl.length<|.okl y1bm.length<|.okl y1bn.length<|.okl y1bo.length<|.okl y1bp.length<|.ret (y1a, y1b, y1c, y1d, y1e, y1f, y1g, y1h, y1i, y1j, y1k, y1l, y1m, y1n, y1o, y1p, y1q, y1r, y1s, y1t, y1u, y1v, y1w, y1x, y1y, y1z, y1aa, y1ab, y1ac, y1ad, y1ae, y1af, y1ag, y1ah, y1ai, y1aj, y1ak, y1al, y1am, y1an, y1ao, y1ap, y1aq, y1ar, y1as, y1at, y1au, y1av, y1aw, y1ax, y1ay, y1az, y1ba, y1bb, y1bc, y1bd, y1be, y1bf, y1bg, y1bh, y1bi, y1bj, y1bk, y1bl, y1bm, y1bn, y1bo, y1bp))
 (fun (y2a, y2b, y2c, y2d, y2e, y2f, y2g, y2h, y2i, y2j, y2k, y2l, y2m, y2n, y2o, y2p, y2q, y2r, y2s, y2t, y2u, y2v, y2w, y2x, y2y, y2z, y2aa, y2ab, y2ac, y2ad, y2ae, y2af, y2ag, y2ah, y2ai, y2aj, y2ak, y2al, y2am, y2an, y2ao, y2ap, y2aq, y2ar, y2as, y2at, y2au, y2av, y2aw, y2ax, y2ay, y2az, y2ba, y2bb, y2bc, y2bd, y2be, y2bf, y2bg, y2bh, y2bi, y2bj, y2bk, y2bl, y2bm, y2bn, y2bo, y2bp) => .okl y2av.length<|.okl y2bb.length<|.okl y2bc.length<|.okl y2bd.length<|.okl y2be.length<|.okl y2bf.length<|.okl y2bl.length<|.okl y2bm.length<|.okl y2bn.length<|.okl y2bo.length<|.okl y2bp.length<|.ret (y2a, y2b, y2c, y2d, y2e, y2f, y2g, y2h, y2i, y2j, y2k, y2l, y2m, y2n, y2o, y2p, y2q, y2r, y2s, y2t, y2u, y2v, y2w, y2x, y2y, y2z, y2aa, y2ab, y2ac, y2ad, y2ae, y2af, y2ag, y2ah, y2ai, y2aj, y2ak, y2al, y2am, y2an, y2ao, y2ap, y2aq, y2ar, y2as, y2at, y2au, y2av, y2aw, y2ax, y2ay, y2az, y2ba, y2bb, y2bc, y2bd, y2be, y2bf, y2bg, y2bh, y2bi, y2bj, y2bk, y2bl, y2bm, y2bn, y2bo, y2bp))
def f (verdict:Int) (code:Int) (parted:Bool) (Method : Ls) (Target : Ls) (Minor:Int) (Chunked:Bool) (stage:Int) (lines:Int) (head:Int) (need:Int) (begun:Bool) (waits:Bool) (p:Int) (Line:Int) (Fields:Int) (Head:Int) (Body:Int) (Ext:Int) (Trailers:Int) (Wait:Int) (Idle:Int) (Chunked_2:Bool) (Old:Bool) (err:Int) (p_2:Int) (most:Int) (pending:Bool) (over:Bool) (bad:Bool) (b : Ls) (Fields_2 : Lf) (Body_2 : Ls) (Trailers_2 : Lf) (out : List (Ls × Ls × Int × Lf × Bool × Ls × Lf)) (Method_2 : Ls) (Target_2 : Ls) (Minor_2:Int) (Chunked_3:Bool) (stage_2:Int) (lines_2:Int) (head_2:Int) (need_2:Int) (begun_2:Bool) (waits_2:Bool) (p_3:Int) (Line_2:Int) (Fields_3:Int) (Head_2:Int) (Body_3:Int) (Ext_2:Int) (Trailers_3:Int) (Wait_2:Int) (Idle_2:Int) (Chunked_4:Bool) (Old_2:Bool) (err_2:Int) (p_4:Int) (most_2:Int) (pending_2:Bool) (over_2:Bool) (bad_2:Bool) (b_2 : Ls) (Fields_4 : Lf) (Body_4 : Ls) (Trailers_4 : Lf) (out_2 : List (Ls × Ls × Int × Lf × Bool × Ls × Lf)) (parts : List (Ls)) := (t verdict code parted Method Target Minor Chunked stage lines head need begun waits p Line Fields Head Body Ext Trailers Wait Idle Chunked_2 Old err p_2 most pending over bad b Fields_2 Body_2 Trailers_2 out Method_2 Target_2 Minor_2 Chunked_3 stage_2 lines_2 head_2 need_2 begun_2 waits_2 p_3 Line_2 Fields_3 Head_2 Body_3 Ext_2 Trailers_3 Wait_2 Idle_2 Chunked_4 Old_2 err_2 p_4 most_2 pending_2 over_2 bad_2 b_2 Fields_4 Body_4 Trailers_4 out_2 parts).val
def G (x : D.den) := t x.1.1.2.2.1 x.1.1.2.2.2.1 x.1.1.2.2.2.2 x.1.2.1.2.1 x.1.2.1.2.2.1 x.1.2.1.2.2.2.1 x.1.2.1.2.2.2.2.2.1 x.1.2.1.2.2.2.2.2.2.2.2.1 x.1.2.1.2.2.2.2.2.2.2.2.2.1 x.1.2.1.2.2.2.2.2.2.2.2.2.2.1 x.1.2.1.2.2.2.2.2.2.2.2.2.2.2.1 x.1.2.1.2.2.2.2.2.2.2.2.2.2.2.2.1 x.1.2.1.2.2.2.2.2.2.2.2.2.2.2.2.2.1 x.1.2.1.2.2.2.2.2.2.2.2.2.2.2.2.2.2.1 x.1.2.1.2.2.2.2.2.2.2.2.2.2.2.2.2.2.2.1 x.1.2.1.2.2.2.2.2.2.2.2.2.2.2.2.2.2.2.2.1 x.1.2.1.2.2.2.2.2.2.2.2.2.2.2.2.2.2.2.2.2.1 x.1.2.1.2.2.2.2.2.2.2.2.2.2.2.2.2.2.2.2.2.2.1 x.1.2.1.2.2.2.2.2.2.2.2.2.2.2.2.2.2.2.2.2.2.2.1 x.1.2.1.2.2.2.2.2.2.2.2.2.2.2.2.2.2.2.2.2.2.2.2.1 x.1.2.1.2.2.2.2.2.2.2.2.2.2.2.2.2.2.2.2.2.2.2.2.2.1 x.1.2.1.2.2.2.2.2.2.2.2.2.2.2.2.2.2.2.2.2.2.2.2.2.2.1 x.1.2.1.2.2.2.2.2.2.2.2.2.2.2.2.2.2.2.2.2.2.2.2.2.2.2.1 x.1.2.1.2.2.2.2.2.2.2.2.2.2.2.2.2.2.2.2.2.2.2.2.2.2.2.2.1 x.1.2.1.2.2.2.2.2.2.2.2.2.2.2.2.2.2.2.2.2.2.2.2.2.2.2.2.2.1 x.1.2.2.1.1 x.1.2.2.1.2.1 x.1.2.2.1.2.2.2.1 x.1.2.2.1.2.2.2.2.1 x.1.2.2.1.2.2.2.2.2 x.1.2.2.2.1 x.1.2.2.2.2.1 x.1.2.2.2.2.2.1 x.1.2.2.2.2.2.2.1 x.1.2.2.2.2.2.2.2.1 x.1.2.2.2.2.2.2.2.2.1.2.1 x.1.2.2.2.2.2.2.2.2.1.2.2.1 x.1.2.2.2.2.2.2.2.2.1.2.2.2.1 x.1.2.2.2.2.2.2.2.2.1.2.2.2.2.2.1 x.1.2.2.2.2.2.2.2.2.1.2.2.2.2.2.2.2.2.1 x.1.2.2.2.2.2.2.2.2.1.2.2.2.2.2.2.2.2.2.1 x.1.2.2.2.2.2.2.2.2.1.2.2.2.2.2.2.2.2.2.2.1 x.1.2.2.2.2.2.2.2.2.1.2.2.2.2.2.2.2.2.2.2.2.1 x.1.2.2.2.2.2.2.2.2.1.2.2.2.2.2.2.2.2.2.2.2.2.1 x.1.2.2.2.2.2.2.2.2.1.2.2.2.2.2.2.2.2.2.2.2.2.2.1 x.1.2.2.2.2.2.2.2.2.1.2.2.2.2.2.2.2.2.2.2.2.2.2.2.1 x.1.2.2.2.2.2.2.2.2.1.2.2.2.2.2.2.2.2.2.2.2.2.2.2.2.1 x.1.2.2.2.2.2.2.2.2.1.2.2.2.2.2.2.2.2.2.2.2.2.2.2.2.2.1 x.1.2.2.2.2.2.2.2.2.1.2.2.2.2.2.2.2.2.2.2.2.2.2.2.2.2.2.1 x.1.2.2.2.2.2.2.2.2.1.2.2.2.2.2.2.2.2.2.2.2.2.2.2.2.2.2.2.1 x.1.2.2.2.2.2.2.2.2.1.2.2.2.2.2.2.2.2.2.2.2.2.2.2.2.2.2.2.2.1 x.1.2.2.2.2.2.2.2.2.1.2.2.2.2.2.2.2.2.2.2.2.2.2.2.2.2.2.2.2.2.1 x.1.2.2.2.2.2.2.2.2.1.2.2.2.2.2.2.2.2.2.2.2.2.2.2.2.2.2.2.2.2.2.1 x.1.2.2.2.2.2.2.2.2.1.2.2.2.2.2.2.2.2.2.2.2.2.2.2.2.2.2.2.2.2.2.2.1 x.1.2.2.2.2.2.2.2.2.1.2.2.2.2.2.2.2.2.2.2.2.2.2.2.2.2.2.2.2.2.2.2.2.1 x.1.2.2.2.2.2.2.2.2.1.2.2.2.2.2.2.2.2.2.2.2.2.2.2.2.2.2.2.2.2.2.2.2.2.1 x.1.2.2.2.2.2.2.2.2.1.2.2.2.2.2.2.2.2.2.2.2.2.2.2.2.2.2.2.2.2.2.2.2.2.2.1 x.1.2.2.2.2.2.2.2.2.2.1.1 x.1.2.2.2.2.2.2.2.2.2.1.2.1 x.1.2.2.2.2.2.2.2.2.2.1.2.2.2.1 x.1.2.2.2.2.2.2.2.2.2.1.2.2.2.2.1 x.1.2.2.2.2.2.2.2.2.2.1.2.2.2.2.2 x.1.2.2.2.2.2.2.2.2.2.2.1 x.1.2.2.2.2.2.2.2.2.2.2.2.1 x.1.2.2.2.2.2.2.2.2.2.2.2.2.1 x.1.2.2.2.2.2.2.2.2.2.2.2.2.2.1 x.1.2.2.2.2.2.2.2.2.2.2.2.2.2.2.1 x.1.2.2.2.2.2.2.2.2.2.2.2.2.2.2.2.1
def F (x : D.den) := (G x).val
def pa : D.den -> Rt -> A.den := fun (((_, (_, (_, (_, _)))), ((_, (_, (_, (_, (_, (_, (_, (_, (_, (_, (_, (_, (_, (_, (_, (_, (_, (_, (_, (_, (_, (_, (_, (_, (_, (_, _)))))))))))))))))))))))))), ((_, (_, (_, (_, (_, _))))), (_, (_, (_, (_, (_, ((_, (_, (_, (_, (_, (_, (_, (_, (_, (_, (_, (_, (_, (_, (_, (_, (_, (_, (_, (_, (_, (_, (_, (_, (_, (_, _)))))))))))))))))))))))))), ((_, (_, (_, (_, (_, _))))), (_, (_, (_, (_, (_, (parts, _)))))))))))))))), (_, _)) (y1, y2, y3, y4, y5, y6, y7, y8, y9, y10, y11, y12, y13, y14, y15, y16, y17, y18, y19, y20, y21, y22, y23, y24, y25, y26, y27, y28, y29, y30, y31, y32, y33, y34, y35, y36, y37, y38, y39, y40, y41, y42, y43, y44, y45, y46, y47, y48, y49, y50, y51, y52, y53, y54, y55, y56, y57, y58, y59, y60, y61, y62, y63, y64, y65, y66, y67, y68) => ((((), ((), (y1, (y2, y3)))), (((), (y4, (y5, (y6, ((), (y7, ((), ((), (y8, (y9, (y10, (y11, (y12, (y13, (y14, (y15, (y16, (y17, (y18, (y19, (y20, (y21, (y22, (y23, (y24, (y25, ())))))))))))))))))))))))))), ((), ((), ((), ((), ((), ((), (((), (y26, (y27, (y28, ((), (y29, ((), ((), (y30, (y31, (y32, (y33, (y34, (y35, (y36, (y37, (y38, (y39, (y40, (y41, (y42, (y43, (y44, (y45, (y46, (y47, ())))))))))))))))))))))))))), ((), ((), ((), ((), ((), ((), (parts, (y48, ((y49, (y50, ((), (y51, (y52, y53))))), (y54, (y55, (y56, (y57, (y58, ((y59, (y60, ((), (y61, (y62, y63))))), (y64, (y65, (y66, (y67, (y68, ()))))))))))))))))))))))))))))), ())
def con : Con := tcon D A pa F
theorem ok : zgu Tryz.prog 7 con := zij Base.mixed Base.prog_ok q60 (by kernel_rfl) (.cons L6.ok (by kernel_rfl) (.cons L3.ok (by kernel_rfl) (.nil))) 9 (fun _ => rfl) G (fun _ => rfl) fun _ _ _ => (by kernel_rfl)
end q0l
def q0m : Book := q5z.add 7 q0l.con
theorem q0n : zgv Tryz.prog q0m := q60.add q0l.ok
namespace q2a
def D : Dom := ⟨[], .nil⟩
def A : Dom := ⟨[], .bool⟩
def t  : Tr (Bool) :=
 .call (q74.f) fun (y1a, y1b, y1c, y1d, y1e, y1f, y1g, y1h, y1i, y1j) =>
 .call (q0o.f (2:Int) y1a y1b y1c y1d y1e y1f y1g y1h) fun (y2a, y2b, y2c, y2d, y2e, y2f, y2g, y2h, y2i, y2j, y2k, y2l, y2m, y2n, y2o, y2p, y2q, y2r, y2s, y2t, y2u, y2v, y2w, y2x, y2y, y2z, y2aa, y2ab, y2ac, y2ad, y2ae, y2af, y2ag, y2ah, y2ai, y2aj, y2ak, y2al, y2am, y2an, y2ao, y2ap, y2aq, y2ar, y2as) =>
 .call (q0o.f (0:Int) y1a y1b y1c y1d y1e y1f y1g y1h) fun (y3a, y3b, y3c, y3d, y3e, y3f, y3g, y3h, y3i, y3j, y3k, y3l, y3m, y3n, y3o, y3p, y3q, y3r, y3s, y3t, y3u, y3v, y3w, y3x, y3y, y3z, y3aa, y3ab, y3ac, y3ad, y3ae, y3af, y3ag, y3ah, y3ai, y3aj, y3ak, y3al, y3am, y3an, y3ao, y3ap, y3aq, y3ar, y3as) =>
 .chk ((15:Nat) <= (15:Nat))<|.okl y2u.length<|.okl y2v.length<|.okl y2w.length<|.okl y2x.length<|.okl y2y.length<|.okl y2ao.length<|.okl y2ap.length<|.okl y2aq.length<|.okl y2ar.length<|.okl y2as.length<|.chk ((1:Nat) <= (1:Nat))<|.call (q0l.f y2a y2b y2c y2d y2e y2f y2g y2h y2i y2j y2k y2l y2m y2n y1a y1b y1c y1d y1e y1f y1g y1h y1i y1j y2o y2p y2q y2r y2s y2t y2u y2v y2w y2x y2y y2z y2aa y2ab y2ac y2ad y2ae y2af y2ag y2ah y2ai (2:Int) y1a y1b y1c y1d y1e y1f y1g y1h y1i y1j y2aj (2:Int) y2ak y2al y2am y2an y2ao y2ap y2aq y2ar y2as (List.take (1:Nat) (List.drop (0:Nat) [List.take (15:Nat) (List.drop (0:Nat) [(71:UInt8), 69, 84, 32, 47, 32, 72, 84, 84, 80, 47, 49, 46, 49, 10])]))) fun (y4a, y4b, y4c, _, _, _, _, _, _, _, _, _, _, _, _, _, _, _, _, _, _, _, _, _, _, _, _, _, _, _, _, _, _, _, _, _, _, _, _, _, _, _, _, _, _, _, _, _, _, _, _, _, _, _, _, _, _, _, _, _, _, _, _, _, _, _, _, _) =>
 .chk ((29:Nat) <= (29:Nat))<|.okl y3u.length<|.okl y3v.length<|.okl y3w.length<|.okl y3x.length<|.okl y3y.length<|.okl y3ao.length<|.okl y3ap.length<|.okl y3aq.length<|.okl y3ar.length<|.okl y3as.length<|.chk ((1:Nat) <= (1:Nat))<|.call (q0l.f y3a y3b y3c y3d y3e y3f y3g y3h y3i y3j y3k y3l y3m y3n y1a y1b y1c y1d y1e y1f y1g y1h y1i y1j y3o y3p y3q y3r y3s y3t y3u y3v y3w y3x y3y y3z y3aa y3ab y3ac y3ad y3ae y3af y3ag y3ah y3ai (0:Int) y1a y1b y1c y1d y1e y1f y1g y1h y1i y1j y3aj (0:Int) y3ak y3al y3am y3an y3ao y3ap y3aq y3ar y3as (List.take (1:Nat) (List.drop (0:Nat) [List.take (29:Nat) (List.drop (0:Nat) [(71:UInt8), 69, 84, 32, 47, 32, 72, 84, 84, 80, 47, 49, 46, 49, 13, 10, 72, 111, 115, 116, 58, 32, 97, 13, 10, 13, 10, 120, 10])]))) fun (y5a, _, y5c, _, _, _, _, _, _, _, _, _, _, _, _, _, _, _, _, _, _, _, _, _, _, _, _, _, _, _, _, _, _, _, _, _, _, _, _, _, _, _, _, _, _, _, _, y5av, _, _, _, _, _, _, _, _, _, _, _, _, _, _, _, _, _, _, _, _) =>
 .br (y4a == (2:Int)) (.br (y4b == (400:Int)) (.br y4c (.br ((↑y5av.length:Int) == (1:Int)) (.br (y5a == (2:Int)) (.ret (!y5c))
   (.ret false))
   (.ret false))
  (.ret false))
  (.ret false))
 (.ret false)
def f  := (t ).val
def F (x : D.den) := f
def pa : D.den -> (Bool) -> A.den := fun (_, _) y1 => ((), y1)
def con : Con := tcon D A pa F
theorem ok : zgu Tryz.prog 4 con := zij Base.mixed Base.prog_ok q0n (by kernel_rfl) zht.nil 9 (fun _ => rfl) (fun x => t ) (fun _ => rfl) fun _ _ _ => (by kernel_rfl)
end q2a
def q2b : Book := q0m.add 4 q2a.con
theorem q2c : zgv Tryz.prog q2b := q0n.add q2a.ok
namespace q7p
def D : Dom := ⟨[], (.int .u8)⟩
def A : Dom := q74.A
abbrev Rt := Int × Int × Int × Int × Int × Int × Int × Int × Bool × Bool
def t (k:Int) : Tr Rt :=
 .call (q74.f) fun (y1a, y1b, y1c, y1d, y1e, y1f, _, y1h, y1i, y1j) =>
 .br (k.tmod (6:Int) == (1:Int)) (.br (k.tmod (8:Int) == (7:Int)) (.br (decide (k.tmod (16:Int) > (12:Int))) (.ret ((64:Int), 4, 256, y1d, y1e, y1f, IntKind.i64.wrap ((IntKind.i64.wrap (IntKind.u8.wrap (k.tdiv (32:Int)))).tmod (4:Int) + (1:Int)), y1h, false, false))
  (.ret ((64:Int), 4, 256, y1d, y1e, y1f, IntKind.i64.wrap ((IntKind.i64.wrap (IntKind.u8.wrap (k.tdiv (32:Int)))).tmod (4:Int) + (1:Int)), y1h, false, y1j)))
  (.br (decide (k.tmod (16:Int) > (12:Int))) (.ret ((64:Int), 4, 256, y1d, y1e, y1f, IntKind.i64.wrap ((IntKind.i64.wrap (IntKind.u8.wrap (k.tdiv (32:Int)))).tmod (4:Int) + (1:Int)), y1h, y1i, false))
  (.ret ((64:Int), 4, 256, y1d, y1e, y1f, IntKind.i64.wrap ((IntKind.i64.wrap (IntKind.u8.wrap (k.tdiv (32:Int)))).tmod (4:Int) + (1:Int)), y1h, y1i, y1j))))
 (.br (k.tmod (6:Int) == (2:Int)) (.br (k.tmod (8:Int) == (7:Int)) (.br (decide (k.tmod (16:Int) > (12:Int))) (.ret (y1a, y1b, y1c, 16, 0, 0, IntKind.i64.wrap ((IntKind.i64.wrap (IntKind.u8.wrap (k.tdiv (32:Int)))).tmod (4:Int) + (1:Int)), y1h, false, false))
   (.ret (y1a, y1b, y1c, 16, 0, 0, IntKind.i64.wrap ((IntKind.i64.wrap (IntKind.u8.wrap (k.tdiv (32:Int)))).tmod (4:Int) + (1:Int)), y1h, false, y1j)))
  (.br (decide (k.tmod (16:Int) > (12:Int))) (.ret (y1a, y1b, y1c, 16, 0, 0, IntKind.i64.wrap ((IntKind.i64.wrap (IntKind.u8.wrap (k.tdiv (32:Int)))).tmod (4:Int) + (1:Int)), y1h, y1i, false))
   (.ret (y1a, y1b, y1c, 16, 0, 0, IntKind.i64.wrap ((IntKind.i64.wrap (IntKind.u8.wrap (k.tdiv (32:Int)))).tmod (4:Int) + (1:Int)), y1h, y1i, y1j))))
  (.br (k.tmod (6:Int) == (3:Int)) (.br (k.tmod (8:Int) == (7:Int)) (.br (decide (k.tmod (16:Int) > (12:Int))) (.ret ((80:Int), y1b, y1c, 40, y1e, y1f, IntKind.i64.wrap ((IntKind.i64.wrap (IntKind.u8.wrap (k.tdiv (32:Int)))).tmod (4:Int) + (1:Int)), y1h, false, false))
   (.ret ((80:Int), y1b, y1c, 40, y1e, y1f, IntKind.i64.wrap ((IntKind.i64.wrap (IntKind.u8.wrap (k.tdiv (32:Int)))).tmod (4:Int) + (1:Int)), y1h, false, y1j)))
   (.br (decide (k.tmod (16:Int) > (12:Int))) (.ret ((80:Int), y1b, y1c, 40, y1e, y1f, IntKind.i64.wrap ((IntKind.i64.wrap (IntKind.u8.wrap (k.tdiv (32:Int)))).tmod (4:Int) + (1:Int)), y1h, y1i, false))
   (.ret ((80:Int), y1b, y1c, 40, y1e, y1f, IntKind.i64.wrap ((IntKind.i64.wrap (IntKind.u8.wrap (k.tdiv (32:Int)))).tmod (4:Int) + (1:Int)), y1h, y1i, y1j))))
  (.br (k.tmod (8:Int) == (7:Int)) (.br (decide (k.tmod (16:Int) > (12:Int))) (.ret (y1a, y1b, y1c, y1d, y1e, y1f, IntKind.i64.wrap ((IntKind.i64.wrap (IntKind.u8.wrap (k.tdiv (32:Int)))).tmod (4:Int) + (1:Int)), y1h, false, false))
   (.ret (y1a, y1b, y1c, y1d, y1e, y1f, IntKind.i64.wrap ((IntKind.i64.wrap (IntKind.u8.wrap (k.tdiv (32:Int)))).tmod (4:Int) + (1:Int)), y1h, false, y1j)))
   (.br (decide (k.tmod (16:Int) > (12:Int))) (.ret (y1a, y1b, y1c, y1d, y1e, y1f, IntKind.i64.wrap ((IntKind.i64.wrap (IntKind.u8.wrap (k.tdiv (32:Int)))).tmod (4:Int) + (1:Int)), y1h, y1i, false))
   (.ret (y1a, y1b, y1c, y1d, y1e, y1f, IntKind.i64.wrap ((IntKind.i64.wrap (IntKind.u8.wrap (k.tdiv (32:Int)))).tmod (4:Int) + (1:Int)), y1h, y1i, y1j))))))
def f (k:Int) := (t k).val
def G (x : D.den) := t x.2
def F (x : D.den) := (G x).val
def pa : D.den -> Rt -> A.den := fun (_, _) (y1, y2, y3, y4, y5, y6, y7, y8, y9, y10) => ((), (y1, (y2, (y3, (y4, (y5, (y6, (y7, (y8, (y9, y10))))))))))
def con : Con := tcon D A pa F
theorem ok : zgu Tryz.prog 6 con := zij Base.mixed Base.prog_ok q2c (by kernel_rfl) zht.nil 9 (fun _ => rfl) G (fun _ => rfl) fun _ _ _ => (by kernel_rfl)
end q7p
def q7q : Book := q2b.add 6 q7p.con
theorem q7r : zgv Tryz.prog q7q := q2c.add q7p.ok
namespace q7y
def D : Dom := ⟨[], (.cat (.int .u8) (.int .u8))⟩
def A : Dom := ⟨[], .str⟩
def tb0_1 (b:Int) : Ls := [[(32:UInt8)], [(32:UInt8), 32], [(9:UInt8)], [(32:UInt8), 9, 32]].getD (((0:Nat) + (b.tmod (4:Int)).toNat) * (1:Nat)) []
def tb0_2 (va:Int) : Ls := [[(72:UInt8), 84, 84, 80, 47, 49, 46, 49], [(72:UInt8), 84, 84, 80, 47, 49, 46, 48], [(72:UInt8), 84, 84, 80, 47, 49, 46, 55], [(104:UInt8), 116, 116, 112, 47, 49, 46, 49], [(72:UInt8), 84, 84, 80, 47, 50, 46, 48], [(72:UInt8), 84, 84, 80, 47, 49, 46, 49]].getD (((0:Nat) + (va.tmod (6:Int)).toNat) * (1:Nat)) []
def tb0_3 (va:Int) : Ls := [[(71:UInt8), 69, 84], [(80:UInt8), 79, 83, 84], [(79:UInt8), 80, 84, 73, 79, 78, 83], [(72:UInt8), 69, 65, 68], [(80:UInt8), 85, 84], [(68:UInt8), 69, 76, 69, 84, 69], [(71:UInt8), 40, 84], [(67:UInt8), 79, 78, 78, 69, 67, 84]].getD (((0:Nat) + (va.tmod (8:Int)).toNat) * (1:Nat)) []
def tb0_4 (b:Int) : Ls := [[(47:UInt8)], [(47:UInt8), 97], [(47:UInt8), 97, 47, 98, 63, 120, 61, 49], [(47:UInt8), 97, 47, 46, 46, 47, 98], [(47:UInt8), 37, 52, 49, 47, 99], [(42:UInt8)], [(104:UInt8), 116, 116, 112, 58, 47, 47, 104, 46, 111, 114, 103, 47, 113, 63], [(47:UInt8), 118, 49, 47, 105, 116, 101, 109, 47, 55], [(47:UInt8), 120, 32, 121], [(47:UInt8), 113, 1], [(47:UInt8), 115, 116, 97, 116, 105, 99, 47, 99, 115, 115, 47, 109, 46, 99, 115, 115], [(104:UInt8), 116, 116, 112, 58, 47, 47, 97]].getD (((0:Nat) + (b.tmod (12:Int)).toNat) * (1:Nat)) []
def k1 (va:Int) (b:Int) : Tr (Ls) :=
 .br (decide (va < (200:Int)))
 (.br (decide (va.tmod (8:Int) > (5:Int)))
 (.br (decide (b > (200:Int)))
 (.chk ((0:Int) <= b.tmod (4:Int) ∧ b.tmod (4:Int) < (4:Int))<|.chk (((0:Nat) + (b.tmod (4:Int)).toNat) * (1:Nat) < (4:Nat))<|.chk ((0:Int) <= va.tmod (6:Int) ∧ va.tmod (6:Int) < (6:Int))<|.chk (((0:Nat) + (va.tmod (6:Int)).toNat) * (1:Nat) < (6:Nat))<|.br (b == (199:Int))
 (.ret [(71:UInt8), 69, 84, 32, 47, 97])
 (.chk ((↑([(71:UInt8), 69, 84].length + (tb0_1 b).length):Int) <= (9223372036854775807:Int))<|.chk ((↑(([(71:UInt8), 69, 84] ++ tb0_1 b).length + [(47:UInt8), 97].length):Int) <= (9223372036854775807:Int))<|.chk ((↑(([(71:UInt8), 69, 84] ++ tb0_1 b ++ [(47:UInt8), 97]).length + (tb0_1 b).length):Int) <= (9223372036854775807:Int))<|.chk ((↑(([(71:UInt8), 69, 84] ++ tb0_1 b ++ [(47:UInt8), 97] ++ tb0_1 b).length + (tb0_2 va).length):Int) <= (9223372036854775807:Int))<|.ret ([(71:UInt8), 69, 84] ++ tb0_1 b ++ [(47:UInt8), 97] ++ tb0_1 b ++ tb0_2 va)))
 (.br (b == (199:Int))
 (.ret [(71:UInt8), 69, 84, 32, 47, 97])
 (.ret [(71:UInt8), 69, 84, 32, 47, 97, 32, 72, 84, 84, 80, 47, 49, 46, 49])))
 (.br (b.tmod (12:Int) == (5:Int))
 (.br (decide (b > (200:Int)))
 (.chk ((0:Int) <= b.tmod (4:Int) ∧ b.tmod (4:Int) < (4:Int))<|.chk (((0:Nat) + (b.tmod (4:Int)).toNat) * (1:Nat) < (4:Nat))<|.chk ((0:Int) <= va.tmod (6:Int) ∧ va.tmod (6:Int) < (6:Int))<|.chk (((0:Nat) + (va.tmod (6:Int)).toNat) * (1:Nat) < (6:Nat))<|.br (b == (199:Int))
 (.ret [(71:UInt8), 69, 84, 32, 47, 97])
 (.chk ((↑([(71:UInt8), 69, 84].length + (tb0_1 b).length):Int) <= (9223372036854775807:Int))<|.chk ((↑(([(71:UInt8), 69, 84] ++ tb0_1 b).length + [(47:UInt8), 97].length):Int) <= (9223372036854775807:Int))<|.chk ((↑(([(71:UInt8), 69, 84] ++ tb0_1 b ++ [(47:UInt8), 97]).length + (tb0_1 b).length):Int) <= (9223372036854775807:Int))<|.chk ((↑(([(71:UInt8), 69, 84] ++ tb0_1 b ++ [(47:UInt8), 97] ++ tb0_1 b).length + (tb0_2 va).length):Int) <= (9223372036854775807:Int))<|.ret ([(71:UInt8), 69, 84] ++ tb0_1 b ++ [(47:UInt8), 97] ++ tb0_1 b ++ tb0_2 va)))
 (.br (b == (199:Int))
 (.ret [(71:UInt8), 69, 84, 32, 47, 97])
 (.ret [(71:UInt8), 69, 84, 32, 47, 97, 32, 72, 84, 84, 80, 47, 49, 46, 49])))
 (.br (decide (b > (200:Int)))
 (.chk ((0:Int) <= b.tmod (4:Int) ∧ b.tmod (4:Int) < (4:Int))<|.chk (((0:Nat) + (b.tmod (4:Int)).toNat) * (1:Nat) < (4:Nat))<|.chk ((0:Int) <= va.tmod (6:Int) ∧ va.tmod (6:Int) < (6:Int))<|.chk (((0:Nat) + (va.tmod (6:Int)).toNat) * (1:Nat) < (6:Nat))<|.br (b == (199:Int))
 (.chk ((↑((tb0_3 va).length + [(32:UInt8)].length):Int) <= (9223372036854775807:Int))<|.chk ((↑((tb0_3 va ++ [(32:UInt8)]).length + (tb0_4 b).length):Int) <= (9223372036854775807:Int))<|.ret (tb0_3 va ++ [(32:UInt8)] ++ tb0_4 b))
 (.chk ((↑((tb0_3 va).length + (tb0_1 b).length):Int) <= (9223372036854775807:Int))<|.chk ((↑((tb0_3 va ++ tb0_1 b).length + (tb0_4 b).length):Int) <= (9223372036854775807:Int))<|.chk ((↑((tb0_3 va ++ tb0_1 b ++ tb0_4 b).length + (tb0_1 b).length):Int) <= (9223372036854775807:Int))<|.chk ((↑((tb0_3 va ++ tb0_1 b ++ tb0_4 b ++ tb0_1 b).length + (tb0_2 va).length):Int) <= (9223372036854775807:Int))<|.ret (tb0_3 va ++ tb0_1 b ++ tb0_4 b ++ tb0_1 b ++ tb0_2 va)))
 (.br (b == (199:Int))
 (.chk ((↑((tb0_3 va).length + [(32:UInt8)].length):Int) <= (9223372036854775807:Int))<|.chk ((↑((tb0_3 va ++ [(32:UInt8)]).length + (tb0_4 b).length):Int) <= (9223372036854775807:Int))<|.ret (tb0_3 va ++ [(32:UInt8)] ++ tb0_4 b))
 (.chk ((↑((tb0_3 va).length + [(32:UInt8)].length):Int) <= (9223372036854775807:Int))<|.chk ((↑((tb0_3 va ++ [(32:UInt8)]).length + (tb0_4 b).length):Int) <= (9223372036854775807:Int))<|.chk ((↑((tb0_3 va ++ [(32:UInt8)] ++ tb0_4 b).length + [(32:UInt8)].length):Int) <= (9223372036854775807:Int))<|.chk ((↑((tb0_3 va ++ [(32:UInt8)] ++ tb0_4 b ++ [(32:UInt8)]).length + [(72:UInt8), 84, 84, 80, 47, 49, 46, 49].length):Int) <= (9223372036854775807:Int))<|.ret (tb0_3 va ++ [(32:UInt8)] ++ tb0_4 b ++ [(32:UInt8)] ++ [(72:UInt8), 84, 84, 80, 47, 49, 46, 49]))))))
 (.br (decide (b > (200:Int)))
 (.chk ((0:Int) <= b.tmod (4:Int) ∧ b.tmod (4:Int) < (4:Int))<|.chk (((0:Nat) + (b.tmod (4:Int)).toNat) * (1:Nat) < (4:Nat))<|.chk ((0:Int) <= va.tmod (6:Int) ∧ va.tmod (6:Int) < (6:Int))<|.chk (((0:Nat) + (va.tmod (6:Int)).toNat) * (1:Nat) < (6:Nat))<|.br (b == (199:Int))
 (.chk ((↑((tb0_3 va).length + [(32:UInt8)].length):Int) <= (9223372036854775807:Int))<|.chk ((↑((tb0_3 va ++ [(32:UInt8)]).length + (tb0_4 b).length):Int) <= (9223372036854775807:Int))<|.ret (tb0_3 va ++ [(32:UInt8)] ++ tb0_4 b))
 (.chk ((↑((tb0_3 va).length + (tb0_1 b).length):Int) <= (9223372036854775807:Int))<|.chk ((↑((tb0_3 va ++ tb0_1 b).length + (tb0_4 b).length):Int) <= (9223372036854775807:Int))<|.chk ((↑((tb0_3 va ++ tb0_1 b ++ tb0_4 b).length + (tb0_1 b).length):Int) <= (9223372036854775807:Int))<|.chk ((↑((tb0_3 va ++ tb0_1 b ++ tb0_4 b ++ tb0_1 b).length + (tb0_2 va).length):Int) <= (9223372036854775807:Int))<|.ret (tb0_3 va ++ tb0_1 b ++ tb0_4 b ++ tb0_1 b ++ tb0_2 va)))
 (.br (b == (199:Int))
 (.chk ((↑((tb0_3 va).length + [(32:UInt8)].length):Int) <= (9223372036854775807:Int))<|.chk ((↑((tb0_3 va ++ [(32:UInt8)]).length + (tb0_4 b).length):Int) <= (9223372036854775807:Int))<|.ret (tb0_3 va ++ [(32:UInt8)] ++ tb0_4 b))
 (.chk ((↑((tb0_3 va).length + [(32:UInt8)].length):Int) <= (9223372036854775807:Int))<|.chk ((↑((tb0_3 va ++ [(32:UInt8)]).length + (tb0_4 b).length):Int) <= (9223372036854775807:Int))<|.chk ((↑((tb0_3 va ++ [(32:UInt8)] ++ tb0_4 b).length + [(32:UInt8)].length):Int) <= (9223372036854775807:Int))<|.chk ((↑((tb0_3 va ++ [(32:UInt8)] ++ tb0_4 b ++ [(32:UInt8)]).length + [(72:UInt8), 84, 84, 80, 47, 49, 46, 49].length):Int) <= (9223372036854775807:Int))<|.ret (tb0_3 va ++ [(32:UInt8)] ++ tb0_4 b ++ [(32:UInt8)] ++ [(72:UInt8), 84, 84, 80, 47, 49, 46, 49]))))
def k2 (va:Int) (b:Int) : Tr (Ls) :=
 .br (decide (b > (200:Int)))
 (.chk ((0:Int) <= b.tmod (4:Int) ∧ b.tmod (4:Int) < (4:Int))<|.chk (((0:Nat) + (b.tmod (4:Int)).toNat) * (1:Nat) < (4:Nat))<|.chk ((0:Int) <= va.tmod (6:Int) ∧ va.tmod (6:Int) < (6:Int))<|.chk (((0:Nat) + (va.tmod (6:Int)).toNat) * (1:Nat) < (6:Nat))<|.br (b == (199:Int))
 (.chk ((↑((tb0_3 va).length + [(32:UInt8)].length):Int) <= (9223372036854775807:Int))<|.chk ((↑((tb0_3 va ++ [(32:UInt8)]).length + [(47:UInt8), 97].length):Int) <= (9223372036854775807:Int))<|.ret (tb0_3 va ++ [(32:UInt8)] ++ [(47:UInt8), 97]))
 (.chk ((↑((tb0_3 va).length + (tb0_1 b).length):Int) <= (9223372036854775807:Int))<|.chk ((↑((tb0_3 va ++ tb0_1 b).length + [(47:UInt8), 97].length):Int) <= (9223372036854775807:Int))<|.chk ((↑((tb0_3 va ++ tb0_1 b ++ [(47:UInt8), 97]).length + (tb0_1 b).length):Int) <= (9223372036854775807:Int))<|.chk ((↑((tb0_3 va ++ tb0_1 b ++ [(47:UInt8), 97] ++ tb0_1 b).length + (tb0_2 va).length):Int) <= (9223372036854775807:Int))<|.ret (tb0_3 va ++ tb0_1 b ++ [(47:UInt8), 97] ++ tb0_1 b ++ tb0_2 va)))
 (.br (b == (199:Int))
 (.chk ((↑((tb0_3 va).length + [(32:UInt8)].length):Int) <= (9223372036854775807:Int))<|.chk ((↑((tb0_3 va ++ [(32:UInt8)]).length + [(47:UInt8), 97].length):Int) <= (9223372036854775807:Int))<|.ret (tb0_3 va ++ [(32:UInt8)] ++ [(47:UInt8), 97]))
 (.chk ((↑((tb0_3 va).length + [(32:UInt8)].length):Int) <= (9223372036854775807:Int))<|.chk ((↑((tb0_3 va ++ [(32:UInt8)]).length + [(47:UInt8), 97].length):Int) <= (9223372036854775807:Int))<|.chk ((↑((tb0_3 va ++ [(32:UInt8)] ++ [(47:UInt8), 97]).length + [(32:UInt8)].length):Int) <= (9223372036854775807:Int))<|.chk ((↑((tb0_3 va ++ [(32:UInt8)] ++ [(47:UInt8), 97] ++ [(32:UInt8)]).length + [(72:UInt8), 84, 84, 80, 47, 49, 46, 49].length):Int) <= (9223372036854775807:Int))<|.ret (tb0_3 va ++ [(32:UInt8)] ++ [(47:UInt8), 97] ++ [(32:UInt8)] ++ [(72:UInt8), 84, 84, 80, 47, 49, 46, 49])))
def k3 (va:Int) (b:Int) : Tr (Ls) :=
 .br (decide (b > (200:Int)))
 (.chk ((0:Int) <= b.tmod (4:Int) ∧ b.tmod (4:Int) < (4:Int))<|.chk (((0:Nat) + (b.tmod (4:Int)).toNat) * (1:Nat) < (4:Nat))<|.chk ((0:Int) <= va.tmod (6:Int) ∧ va.tmod (6:Int) < (6:Int))<|.chk (((0:Nat) + (va.tmod (6:Int)).toNat) * (1:Nat) < (6:Nat))<|.br (b == (199:Int))
 (.ret [(71:UInt8), 69, 84, 32, 47, 97])
 (.chk ((↑([(71:UInt8), 69, 84].length + (tb0_1 b).length):Int) <= (9223372036854775807:Int))<|.chk ((↑(([(71:UInt8), 69, 84] ++ tb0_1 b).length + [(47:UInt8), 97].length):Int) <= (9223372036854775807:Int))<|.chk ((↑(([(71:UInt8), 69, 84] ++ tb0_1 b ++ [(47:UInt8), 97]).length + (tb0_1 b).length):Int) <= (9223372036854775807:Int))<|.chk ((↑(([(71:UInt8), 69, 84] ++ tb0_1 b ++ [(47:UInt8), 97] ++ tb0_1 b).length + (tb0_2 va).length):Int) <= (9223372036854775807:Int))<|.ret ([(71:UInt8), 69, 84] ++ tb0_1 b ++ [(47:UInt8), 97] ++ tb0_1 b ++ tb0_2 va)))
 (.br (b == (199:Int))
 (.ret [(71:UInt8), 69, 84, 32, 47, 97])
 (.ret [(71:UInt8), 69, 84, 32, 47, 97, 32, 72, 84, 84, 80, 47, 49, 46, 49]))
def t (va:Int) (b:Int) : Tr (Ls) :=
 .chk ((0:Int) <= b.tmod (12:Int) ∧ b.tmod (12:Int) < (12:Int))<|.chk (((0:Nat) + (b.tmod (12:Int)).toNat) * (1:Nat) < (12:Nat))<|.chk ((0:Int) <= va.tmod (8:Int) ∧ va.tmod (8:Int) < (8:Int))<|.chk (((0:Nat) + (va.tmod (8:Int)).toNat) * (1:Nat) < (8:Nat))<|.br (decide (va < (200:Int))) (.br (decide (b.tmod (12:Int) > (7:Int))) (.br (b.tmod (12:Int) != (10:Int)) (.br (decide (va < (200:Int))) (.br (decide (va.tmod (8:Int) > (5:Int))) (k3 va b)
   (.br (b.tmod (12:Int) == (5:Int)) (k3 va b)
    (k2 va b)))
   (k2 va b))
  (k1 va b))
  (k1 va b))
 (k1 va b)
def f (va:Int) (b:Int) := (t va b).val
def G (x : D.den) := t x.2.1 x.2.2
def F (x : D.den) := (G x).val
def pa : D.den -> (Ls) -> A.den := fun (_, (_, _)) y1 => ((), y1)
def con : Con := tcon D A pa F
theorem ok : zgu Tryz.prog 30 con := zij Base.mixed Base.prog_ok q7r (by kernel_rfl) zht.nil 9 (fun _ => rfl) G (fun _ => rfl) fun _ _ _ => (by kernel_rfl)
end q7y
def q7z : Book := q7q.add 30 q7y.con
theorem q80 : zgv Tryz.prog q7z := q7r.add q7y.ok
namespace q7s
def D : Dom := ⟨[], (.int .u8)⟩
def A : Dom := ⟨[], .str⟩
def t (k:Int) : Tr (Ls) :=
 .br (decide (k < (235:Int))) (.ret [(13:UInt8), 10])
 (.chk ((0:Int) <= k.tmod (4:Int) ∧ k.tmod (4:Int) < (4:Int))<|.chk (((0:Nat) + (k.tmod (4:Int)).toNat) * (1:Nat) < (4:Nat))<|.ret ([[(10:UInt8)], [(13:UInt8)], [(13:UInt8), 13, 10], [(10:UInt8), 10]].getD (((0:Nat) + (k.tmod (4:Int)).toNat) * (1:Nat)) []))
def f (k:Int) := (t k).val
def G (x : D.den) := t x.2
def F (x : D.den) := (G x).val
def pa : D.den -> (Ls) -> A.den := fun (_, _) y1 => ((), y1)
def con : Con := tcon D A pa F
theorem ok : zgu Tryz.prog 31 con := zij Base.mixed Base.prog_ok q80 (by kernel_rfl) zht.nil 9 (fun _ => rfl) G (fun _ => rfl) fun _ _ _ => (by kernel_rfl)
end q7s
def q7t : Book := q7z.add 31 q7s.con
theorem q7u : zgv Tryz.prog q7t := q80.add q7s.ok
namespace q7v
def D : Dom := ⟨[], (.cat (.int .u8) (.int .u8))⟩
def A : Dom := ⟨[], .str⟩
def t (va:Int) (b:Int) : Tr (Ls) :=
 .br (decide (va < (150:Int))) (.chk ((0:Int) <= (IntKind.i64.wrap b).tmod (16:Int) ∧ (IntKind.i64.wrap b).tmod (16:Int) < (16:Int))<|.chk (((0:Nat) + ((IntKind.i64.wrap b).tmod (16:Int)).toNat) * (1:Nat) < (16:Nat))<|.ret ([[(72:UInt8), 111, 115, 116, 58, 32, 104, 46, 111, 114, 103], [(72:UInt8), 111, 115, 116, 58, 32, 97], [(65:UInt8), 58, 32, 98], [(88:UInt8), 45, 89, 58, 32, 32, 122, 32], [(65:UInt8), 99, 99, 101, 112, 116, 58, 32, 42, 47, 42], [(79:UInt8), 114, 105, 103, 105, 110, 58, 32, 104, 116, 116, 112, 58, 47, 47, 111, 46, 111, 114, 103], [(65:UInt8), 117, 116, 104, 111, 114, 105, 122, 97, 116, 105, 111, 110, 58, 32, 66, 97, 115, 105, 99, 32, 100, 84, 112, 119], [(67:UInt8), 111, 110, 110, 101, 99, 116, 105, 111, 110, 58, 32, 107, 101, 101, 112, 45, 97, 108, 105, 118, 101], [(67:UInt8), 111, 111, 107, 105, 101, 58, 32, 97, 61, 49, 44, 32, 98, 61, 50], [(69:UInt8), 120, 112, 101, 99, 116, 58, 32, 49, 48, 48, 45, 99, 111, 110, 116, 105, 110, 117, 101], [(85:UInt8), 112, 103, 114, 97, 100, 101, 58, 32, 120], [(88:UInt8), 45, 70, 111, 114, 119, 97, 114, 100, 101, 100, 45, 70, 111, 114, 58, 32, 49, 46, 50, 46, 51, 46, 52], [(67:UInt8), 111, 110, 110, 101, 99, 116, 105, 111, 110, 58, 32, 88, 45, 89], [(84:UInt8), 69, 58, 32, 116, 114, 97, 105, 108, 101, 114, 115], [(86:UInt8), 105, 97, 58, 32, 49, 46, 48, 32, 113], [(65:UInt8), 99, 99, 101, 115, 115, 45, 67, 111, 110, 116, 114, 111, 108, 45, 82, 101, 113, 117, 101, 115, 116, 45, 77, 101, 116, 104, 111, 100, 58, 32, 80, 85, 84]].getD (((0:Nat) + ((IntKind.i64.wrap b).tmod (16:Int)).toNat) * (1:Nat)) []))
 (.chk ((0:Int) <= (IntKind.i64.wrap b).tmod (22:Int) ∧ (IntKind.i64.wrap b).tmod (22:Int) < (22:Int))<|.chk (((0:Nat) + ((IntKind.i64.wrap b).tmod (22:Int)).toNat) * (1:Nat) < (22:Nat))<|.ret ([[(72:UInt8), 111, 115, 116, 32, 58, 32, 97], [(40:UInt8), 120, 58, 32, 49], [(110:UInt8), 111, 118, 97, 108, 117, 101], [(58:UInt8), 32, 110, 97, 109, 101, 108, 101, 115, 115], [(32:UInt8), 102, 111, 108, 100, 101, 100], [(9:UInt8), 102, 111, 108, 100, 101, 100, 58, 32, 116, 111, 111], [(86:UInt8), 58, 32, 97, 1, 98], [(84:UInt8), 114, 97, 110, 115, 102, 101, 114, 45, 69, 110, 99, 111, 100, 105, 110, 103, 58, 32, 103, 122, 105, 112], [(84:UInt8), 114, 97, 110, 115, 102, 101, 114, 45, 69, 110, 99, 111, 100, 105, 110, 103, 58, 32, 103, 122, 105, 112, 44, 32, 99, 104, 117, 110, 107, 101, 100], [(84:UInt8), 114, 97, 110, 115, 102, 101, 114, 45, 69, 110, 99, 111, 100, 105, 110, 103, 58, 32, 11, 99, 104, 117, 110, 107, 101, 100], [(84:UInt8), 114, 97, 110, 115, 102, 101, 114, 45, 69, 110, 99, 111, 100, 105, 110, 103, 58, 32, 67, 104, 117, 110, 107, 101, 100], [(67:UInt8), 111, 110, 116, 101, 110, 116, 45, 76, 101, 110, 103, 116, 104, 58, 32, 43, 51], [(67:UInt8), 111, 110, 116, 101, 110, 116, 45, 76, 101, 110, 103, 116, 104, 58, 32, 51, 44, 32, 51], [(67:UInt8), 111, 110, 116, 101, 110, 116, 45, 76, 101, 110, 103, 116, 104, 58, 32, 51], [(67:UInt8), 111, 110, 116, 101, 110, 116, 45, 76, 101, 110, 103, 116, 104, 58, 32, 48], [(67:UInt8), 111, 110, 116, 101, 110, 116, 45, 76, 101, 110, 103, 116, 104, 58, 32, 48, 51], [(72:UInt8), 111, 115, 116, 58, 32, 98], [(72:UInt8), 111, 115, 116, 58, 32, 97, 58, 57, 57, 57, 57, 57], [(67:UInt8), 111, 110, 110, 101, 99, 116, 105, 111, 110, 58, 32, 99, 108, 111, 115, 101], [(67:UInt8), 111, 110, 116, 101, 110, 116, 45, 76, 101, 110, 103, 116, 104, 58, 32, 57, 57, 57, 57, 57, 57, 57, 57, 57, 57, 57, 57, 57, 57, 57, 57, 57, 57, 57, 57], [(86:UInt8), 58, 32, 255, 128], [(84:UInt8), 114, 97, 110, 115, 102, 101, 114, 45, 69, 110, 99, 111, 100, 105, 110, 103, 58, 32, 99, 104, 117, 110, 107, 101, 100, 44, 32, 99, 104, 117, 110, 107, 101, 100]].getD (((0:Nat) + ((IntKind.i64.wrap b).tmod (22:Int)).toNat) * (1:Nat)) []))
def f (va:Int) (b:Int) := (t va b).val
def G (x : D.den) := t x.2.1 x.2.2
def F (x : D.den) := (G x).val
def pa : D.den -> (Ls) -> A.den := fun (_, (_, _)) y1 => ((), y1)
def con : Con := tcon D A pa F
theorem ok : zgu Tryz.prog 32 con := zij Base.mixed Base.prog_ok q7u (by kernel_rfl) zht.nil 9 (fun _ => rfl) G (fun _ => rfl) fun _ _ _ => (by kernel_rfl)
end q7v
def q7w : Book := q7t.add 32 q7v.con
theorem q7x : zgv Tryz.prog q7w := q7u.add q7v.ok
namespace q6p
def D : Dom := ⟨[], (.cat (.int .i64) (.int .i64))⟩
def A : Dom := ⟨[], .str⟩
def f : Option (Ls) := none
def F (x : D.den) : Option (Ls) := f
def pa : D.den -> (Ls) -> A.den := fun _ y1 => ((), y1)
def con : Con := tcon D A pa F
theorem ok : zgu Tryz.prog 61 con := fun x h => absurd rfl h
end q6p
def q6q : Book := q7w.add 61 q6p.con
theorem q6r : zgv Tryz.prog q6q := q7x.add q6p.ok
namespace q6s
def D : Dom := ⟨[], (.cat (.int .i64) (.int .i64))⟩
def A : Dom := ⟨[], .str⟩
def t (n:Int) (base:Int) : Tr (Ls) :=
 .br (decide (n < base)) (.chk ((0:Int) <= mx2 n (0:Int) ∧ mx2 n (0:Int) <= IntKind.i64.wrap (mx2 n (0:Int) + (1:Int)) ∧ IntKind.i64.wrap (mx2 n (0:Int) + (1:Int)) <= (16:Int))<|.ret (List.drop (mx2 n (0:Int)).toNat (List.take (IntKind.i64.wrap (mx2 n (0:Int) + (1:Int))).toNat [(48:UInt8), 49, 50, 51, 52, 53, 54, 55, 56, 57, 97, 98, 99, 100, 101, 102])))
 (.chk (base ≠ (0:Int))<|.call (q6p.f) fun y1 =>
  .chk (base ≠ (0:Int))<|.call (q6p.f) fun y2 =>
  .chk ((↑(y1.length + y2.length):Int) <= (9223372036854775807:Int))<|.ret (y1 ++ y2))
def f (n:Int) (base:Int) := (t n base).val
def G (x : D.den) := t x.2.1 x.2.2
def F (x : D.den) := (G x).val
def pa : D.den -> (Ls) -> A.den := fun (_, (_, _)) y1 => ((), y1)
def con : Con := tcon D A pa F
theorem ok : zgu Tryz.prog 61 con := zij Base.mixed Base.prog_ok q6r (by kernel_rfl) zht.nil 9 (fun _ => rfl) G (fun _ => rfl) fun _ _ _ => (by kernel_rfl)
end q6s
def q6t : Book := q6q.add 61 q6s.con
theorem q6u : zgv Tryz.prog q6t := q6r.add q6s.ok
namespace q6v
def D : Dom := ⟨[], (.cat (.int .i64) (.int .i64))⟩
def A : Dom := ⟨[], .str⟩
def t (n:Int) (base:Int) : Tr (Ls) :=
 .br (decide (n < base)) (.chk ((0:Int) <= mx2 n (0:Int) ∧ mx2 n (0:Int) <= IntKind.i64.wrap (mx2 n (0:Int) + (1:Int)) ∧ IntKind.i64.wrap (mx2 n (0:Int) + (1:Int)) <= (16:Int))<|.ret (List.drop (mx2 n (0:Int)).toNat (List.take (IntKind.i64.wrap (mx2 n (0:Int) + (1:Int))).toNat [(48:UInt8), 49, 50, 51, 52, 53, 54, 55, 56, 57, 97, 98, 99, 100, 101, 102])))
 (.chk (base ≠ (0:Int))<|.call (q6s.f (IntKind.i64.wrap (n.tdiv base)) base) fun y1 =>
  .chk (base ≠ (0:Int))<|.call (q6s.f (n.tmod base) base) fun y2 =>
  .chk ((↑(y1.length + y2.length):Int) <= (9223372036854775807:Int))<|.ret (y1 ++ y2))
def f (n:Int) (base:Int) := (t n base).val
def G (x : D.den) := t x.2.1 x.2.2
def F (x : D.den) := (G x).val
def pa : D.den -> (Ls) -> A.den := fun (_, (_, _)) y1 => ((), y1)
def con : Con := tcon D A pa F
theorem ok : zgu Tryz.prog 61 con := zij Base.mixed Base.prog_ok q6u (by kernel_rfl) zht.nil 9 (fun _ => rfl) G (fun _ => rfl) fun _ _ _ => (by kernel_rfl)
end q6v
def q6w : Book := q6t.add 61 q6v.con
theorem q6x : zgv Tryz.prog q6w := q6u.add q6v.ok
namespace q6y
def D : Dom := ⟨[], (.cat (.int .i64) (.int .i64))⟩
def A : Dom := ⟨[], .str⟩
def t (n:Int) (base:Int) : Tr (Ls) :=
 .br (decide (n < base)) (.chk ((0:Int) <= mx2 n (0:Int) ∧ mx2 n (0:Int) <= IntKind.i64.wrap (mx2 n (0:Int) + (1:Int)) ∧ IntKind.i64.wrap (mx2 n (0:Int) + (1:Int)) <= (16:Int))<|.ret (List.drop (mx2 n (0:Int)).toNat (List.take (IntKind.i64.wrap (mx2 n (0:Int) + (1:Int))).toNat [(48:UInt8), 49, 50, 51, 52, 53, 54, 55, 56, 57, 97, 98, 99, 100, 101, 102])))
 (.chk (base ≠ (0:Int))<|.call (q6v.f (IntKind.i64.wrap (n.tdiv base)) base) fun y1 =>
  .chk (base ≠ (0:Int))<|.call (q6v.f (n.tmod base) base) fun y2 =>
  .chk ((↑(y1.length + y2.length):Int) <= (9223372036854775807:Int))<|.ret (y1 ++ y2))
def f (n:Int) (base:Int) := (t n base).val
def G (x : D.den) := t x.2.1 x.2.2
def F (x : D.den) := (G x).val
def pa : D.den -> (Ls) -> A.den := fun (_, (_, _)) y1 => ((), y1)
def con : Con := tcon D A pa F
theorem ok : zgu Tryz.prog 61 con := zij Base.mixed Base.prog_ok q6x (by kernel_rfl) zht.nil 9 (fun _ => rfl) G (fun _ => rfl) fun _ _ _ => (by kernel_rfl)
end q6y
def q6z : Book := q6w.add 61 q6y.con
theorem q70 : zgv Tryz.prog q6z := q6x.add q6y.ok
namespace q71
def D : Dom := ⟨[], (.cat (.int .i64) (.int .i64))⟩
def A : Dom := ⟨[], .str⟩
def t (n:Int) (base:Int) : Tr (Ls) :=
 .br (decide (n < base)) (.chk ((0:Int) <= mx2 n (0:Int) ∧ mx2 n (0:Int) <= IntKind.i64.wrap (mx2 n (0:Int) + (1:Int)) ∧ IntKind.i64.wrap (mx2 n (0:Int) + (1:Int)) <= (16:Int))<|.ret (List.drop (mx2 n (0:Int)).toNat (List.take (IntKind.i64.wrap (mx2 n (0:Int) + (1:Int))).toNat [(48:UInt8), 49, 50, 51, 52, 53, 54, 55, 56, 57, 97, 98, 99, 100, 101, 102])))
 (.chk (base ≠ (0:Int))<|.call (q6y.f (IntKind.i64.wrap (n.tdiv base)) base) fun y1 =>
  .chk (base ≠ (0:Int))<|.call (q6y.f (n.tmod base) base) fun y2 =>
  .chk ((↑(y1.length + y2.length):Int) <= (9223372036854775807:Int))<|.ret (y1 ++ y2))
def f (n:Int) (base:Int) := (t n base).val
def G (x : D.den) := t x.2.1 x.2.2
def F (x : D.den) := (G x).val
def pa : D.den -> (Ls) -> A.den := fun (_, (_, _)) y1 => ((), y1)
def con : Con := tcon D A pa F
theorem ok : zgu Tryz.prog 61 con := zij Base.mixed Base.prog_ok q70 (by kernel_rfl) zht.nil 9 (fun _ => rfl) G (fun _ => rfl) fun _ _ _ => (by kernel_rfl)
end q71
def q72 : Book := q6z.add 61 q71.con
theorem q73 : zgv Tryz.prog q72 := q70.add q71.ok
namespace q6j
def D : Dom := ⟨[], (.int .i64)⟩
def A : Dom := ⟨[], .str⟩
def t (n:Int) : Tr (Ls) :=
 .call (q71.f n (10:Int)) fun y1 =>
 .ret y1
def f (n:Int) := (t n).val
def G (x : D.den) := t x.2
def F (x : D.den) := (G x).val
def pa : D.den -> (Ls) -> A.den := fun (_, _) y1 => ((), y1)
def con : Con := tcon D A pa F
theorem ok : zgu Tryz.prog 47 con := zij Base.mixed Base.prog_ok q73 (by kernel_rfl) zht.nil 9 (fun _ => rfl) G (fun _ => rfl) fun _ _ _ => (by kernel_rfl)
end q6j
def q6k : Book := q72.add 47 q6j.con
theorem q6l : zgv Tryz.prog q6k := q73.add q6j.ok
namespace q6m
def D : Dom := ⟨[], (.int .i64)⟩
def A : Dom := ⟨[], .str⟩
def t (n:Int) : Tr (Ls) :=
 .call (q71.f n (16:Int)) fun y1 =>
 .ret y1
def f (n:Int) := (t n).val
def G (x : D.den) := t x.2
def F (x : D.den) := (G x).val
def pa : D.den -> (Ls) -> A.den := fun (_, _) y1 => ((), y1)
def con : Con := tcon D A pa F
theorem ok : zgu Tryz.prog 48 con := zij Base.mixed Base.prog_ok q6l (by kernel_rfl) zht.nil 9 (fun _ => rfl) G (fun _ => rfl) fun _ _ _ => (by kernel_rfl)
end q6m
def q6n : Book := q6k.add 48 q6m.con
theorem q6o : zgv Tryz.prog q6n := q6l.add q6m.ok
namespace q7m
def D : Dom := ⟨[], (.cat (.int .u8) (.cat (.int .u8) (.int .u8)))⟩
def A : Dom := ⟨[], (.tup (.cat .str .str))⟩
def tb1_1 (n:Int) : Ls := [[(13:UInt8), 10], [(13:UInt8), 10], [], [(10:UInt8)], [(13:UInt8)]].getD (((0:Nat) + (n.tmod (5:Int)).toNat) * (1:Nat)) []
abbrev Rt := Ls × Ls
set_option maxHeartbeats 4000000 in
def t (kind:Int) (n:Int) (k:Int) : Tr Rt :=
 .chk ((0:Int) <= (0:Int) ∧ (0:Int) <= n.tmod (20:Int) ∧ n.tmod (20:Int) <= (26:Int))<|.br (kind.tmod (6:Int) == (0:Int)) (.call (q6j.f (↑(List.drop (↑(0:Nat):Int).toNat (List.take (n.tmod (20:Int)).toNat [(48:UInt8), 49, 50, 51, 52, 53, 54, 55, 56, 57, 97, 98, 99, 100, 101, 102, 103, 104, 105, 106, 107, 108, 109, 110, 111, 112])).length:Int)) fun y1 =>
  .chk ((↑([(67:UInt8), 111, 110, 116, 101, 110, 116, 45, 76, 101, 110, 103, 116, 104, 58, 32].length + y1.length):Int) <= (9223372036854775807:Int))<|.call (q7s.f k) fun y2 =>
  .chk ((↑(([(67:UInt8), 111, 110, 116, 101, 110, 116, 45, 76, 101, 110, 103, 116, 104, 58, 32] ++ y1).length + y2.length):Int) <= (9223372036854775807:Int))<|.ret ([(67:UInt8), 111, 110, 116, 101, 110, 116, 45, 76, 101, 110, 103, 116, 104, 58, 32] ++ y1 ++ y2, List.drop (↑(0:Nat):Int).toNat (List.take (n.tmod (20:Int)).toNat [(48:UInt8), 49, 50, 51, 52, 53, 54, 55, 56, 57, 97, 98, 99, 100, 101, 102, 103, 104, 105, 106, 107, 108, 109, 110, 111, 112])))
 (.br (kind.tmod (6:Int) == (1:Int)) (.call (q6j.f (↑(List.drop (↑(0:Nat):Int).toNat (List.take (n.tmod (20:Int)).toNat [(48:UInt8), 49, 50, 51, 52, 53, 54, 55, 56, 57, 97, 98, 99, 100, 101, 102, 103, 104, 105, 106, 107, 108, 109, 110, 111, 112])).length:Int)) fun y3 =>
  .chk ((↑([(67:UInt8), 111, 110, 116, 101, 110, 116, 45, 76, 101, 110, 103, 116, 104, 58, 32].length + y3.length):Int) <= (9223372036854775807:Int))<|.call (q7s.f k) fun y4 =>
  .chk ((↑(([(67:UInt8), 111, 110, 116, 101, 110, 116, 45, 76, 101, 110, 103, 116, 104, 58, 32] ++ y3).length + y4.length):Int) <= (9223372036854775807:Int))<|.ret ([(67:UInt8), 111, 110, 116, 101, 110, 116, 45, 76, 101, 110, 103, 116, 104, 58, 32] ++ y3 ++ y4, List.drop (↑(0:Nat):Int).toNat (List.take (n.tmod (20:Int)).toNat [(48:UInt8), 49, 50, 51, 52, 53, 54, 55, 56, 57, 97, 98, 99, 100, 101, 102, 103, 104, 105, 106, 107, 108, 109, 110, 111, 112])))
  (.br (kind.tmod (6:Int) == (2:Int)) (.br (n.tmod (20:Int) == (0:Int)) (.call (q7s.f k) fun y5 =>
   .chk ((↑([(84:UInt8), 114, 97, 110, 115, 102, 101, 114, 45, 69, 110, 99, 111, 100, 105, 110, 103, 58, 32, 99, 104, 117, 110, 107, 101, 100].length + y5.length):Int) <= (9223372036854775807:Int))<|.ret ([(84:UInt8), 114, 97, 110, 115, 102, 101, 114, 45, 69, 110, 99, 111, 100, 105, 110, 103, 58, 32, 99, 104, 117, 110, 107, 101, 100] ++ y5, [(48:UInt8), 13, 10, 13, 10]))
   (.call (q7s.f k) fun y6 =>
   .chk ((↑([(84:UInt8), 114, 97, 110, 115, 102, 101, 114, 45, 69, 110, 99, 111, 100, 105, 110, 103, 58, 32, 99, 104, 117, 110, 107, 101, 100].length + y6.length):Int) <= (9223372036854775807:Int))<|.call (q6m.f (↑(List.drop (↑(0:Nat):Int).toNat (List.take (n.tmod (20:Int)).toNat [(48:UInt8), 49, 50, 51, 52, 53, 54, 55, 56, 57, 97, 98, 99, 100, 101, 102, 103, 104, 105, 106, 107, 108, 109, 110, 111, 112])).length:Int)) fun y7 =>
   .chk ((↑(y7.length + [(13:UInt8), 10].length):Int) <= (9223372036854775807:Int))<|.chk ((↑((y7 ++ [(13:UInt8), 10]).length + (List.drop (↑(0:Nat):Int).toNat (List.take (n.tmod (20:Int)).toNat [(48:UInt8), 49, 50, 51, 52, 53, 54, 55, 56, 57, 97, 98, 99, 100, 101, 102, 103, 104, 105, 106, 107, 108, 109, 110, 111, 112])).length):Int) <= (9223372036854775807:Int))<|.chk ((↑((y7 ++ [(13:UInt8), 10] ++ List.drop (↑(0:Nat):Int).toNat (List.take (n.tmod (20:Int)).toNat [(48:UInt8), 49, 50, 51, 52, 53, 54, 55, 56, 57, 97, 98, 99, 100, 101, 102, 103, 104, 105, 106, 107, 108, 109, 110, 111, 112])).length + [(13:UInt8), 10, 48, 13, 10, 13, 10].length):Int) <= (9223372036854775807:Int))<|.ret ([(84:UInt8), 114, 97, 110, 115, 102, 101, 114, 45, 69, 110, 99, 111, 100, 105, 110, 103, 58, 32, 99, 104, 117, 110, 107, 101, 100] ++ y6, y7 ++ [(13:UInt8), 10] ++ List.drop (↑(0:Nat):Int).toNat (List.take (n.tmod (20:Int)).toNat [(48:UInt8), 49, 50, 51, 52, 53, 54, 55, 56, 57, 97, 98, 99, 100, 101, 102, 103, 104, 105, 106, 107, 108, 109, 110, 111, 112]) ++ [(13:UInt8), 10, 48, 13, 10, 13, 10])))
  (.br (kind.tmod (6:Int) == (3:Int)) (.chk ((↑([(51:UInt8), 59].length + (List.drop (↑(0:Nat):Int).toNat (List.take (n.tmod (20:Int)).toNat [(48:UInt8), 49, 50, 51, 52, 53, 54, 55, 56, 57, 97, 98, 99, 100, 101, 102, 103, 104, 105, 106, 107, 108, 109, 110, 111, 112])).length):Int) <= (9223372036854775807:Int))<|.chk ((↑(([(51:UInt8), 59] ++ List.drop (↑(0:Nat):Int).toNat (List.take (n.tmod (20:Int)).toNat [(48:UInt8), 49, 50, 51, 52, 53, 54, 55, 56, 57, 97, 98, 99, 100, 101, 102, 103, 104, 105, 106, 107, 108, 109, 110, 111, 112])).length + (List.drop (↑(0:Nat):Int).toNat (List.take (n.tmod (20:Int)).toNat [(48:UInt8), 49, 50, 51, 52, 53, 54, 55, 56, 57, 97, 98, 99, 100, 101, 102, 103, 104, 105, 106, 107, 108, 109, 110, 111, 112])).length):Int) <= (9223372036854775807:Int))<|.chk ((0:Int) <= k.tmod (9:Int) ∧ k.tmod (9:Int) < (9:Int))<|.chk (((0:Nat) + (k.tmod (9:Int)).toNat) * (1:Nat) < [[(51:UInt8)], [(48:UInt8), 120, 51], [(32:UInt8), 51], [(51:UInt8), 59, 97, 61, 98], [(51:UInt8), 32, 59, 120], [(48:UInt8), 51], [(51:UInt8), 9], [(103:UInt8)], [(51:UInt8), 59] ++ List.drop (↑(0:Nat):Int).toNat (List.take (n.tmod (20:Int)).toNat [(48:UInt8), 49, 50, 51, 52, 53, 54, 55, 56, 57, 97, 98, 99, 100, 101, 102, 103, 104, 105, 106, 107, 108, 109, 110, 111, 112]) ++ List.drop (↑(0:Nat):Int).toNat (List.take (n.tmod (20:Int)).toNat [(48:UInt8), 49, 50, 51, 52, 53, 54, 55, 56, 57, 97, 98, 99, 100, 101, 102, 103, 104, 105, 106, 107, 108, 109, 110, 111, 112])].length)<|.chk ((0:Int) <= n.tmod (5:Int) ∧ n.tmod (5:Int) < (5:Int))<|.chk (((0:Nat) + (n.tmod (5:Int)).toNat) * (1:Nat) < (5:Nat))<|.chk ((↑(([[(51:UInt8)], [(48:UInt8), 120, 51], [(32:UInt8), 51], [(51:UInt8), 59, 97, 61, 98], [(51:UInt8), 32, 59, 120], [(48:UInt8), 51], [(51:UInt8), 9], [(103:UInt8)], [(51:UInt8), 59] ++ List.drop (↑(0:Nat):Int).toNat (List.take (n.tmod (20:Int)).toNat [(48:UInt8), 49, 50, 51, 52, 53, 54, 55, 56, 57, 97, 98, 99, 100, 101, 102, 103, 104, 105, 106, 107, 108, 109, 110, 111, 112]) ++ List.drop (↑(0:Nat):Int).toNat (List.take (n.tmod (20:Int)).toNat [(48:UInt8), 49, 50, 51, 52, 53, 54, 55, 56, 57, 97, 98, 99, 100, 101, 102, 103, 104, 105, 106, 107, 108, 109, 110, 111, 112])].getD (((0:Nat) + (k.tmod (9:Int)).toNat) * (1:Nat)) []).length + [(13:UInt8), 10, 97, 98, 99].length):Int) <= (9223372036854775807:Int))<|.chk ((↑(([[(51:UInt8)], [(48:UInt8), 120, 51], [(32:UInt8), 51], [(51:UInt8), 59, 97, 61, 98], [(51:UInt8), 32, 59, 120], [(48:UInt8), 51], [(51:UInt8), 9], [(103:UInt8)], [(51:UInt8), 59] ++ List.drop (↑(0:Nat):Int).toNat (List.take (n.tmod (20:Int)).toNat [(48:UInt8), 49, 50, 51, 52, 53, 54, 55, 56, 57, 97, 98, 99, 100, 101, 102, 103, 104, 105, 106, 107, 108, 109, 110, 111, 112]) ++ List.drop (↑(0:Nat):Int).toNat (List.take (n.tmod (20:Int)).toNat [(48:UInt8), 49, 50, 51, 52, 53, 54, 55, 56, 57, 97, 98, 99, 100, 101, 102, 103, 104, 105, 106, 107, 108, 109, 110, 111, 112])].getD (((0:Nat) + (k.tmod (9:Int)).toNat) * (1:Nat)) [] ++ [(13:UInt8), 10, 97, 98, 99]).length + (tb1_1 n).length):Int) <= (9223372036854775807:Int))<|.chk ((↑(([[(51:UInt8)], [(48:UInt8), 120, 51], [(32:UInt8), 51], [(51:UInt8), 59, 97, 61, 98], [(51:UInt8), 32, 59, 120], [(48:UInt8), 51], [(51:UInt8), 9], [(103:UInt8)], [(51:UInt8), 59] ++ List.drop (↑(0:Nat):Int).toNat (List.take (n.tmod (20:Int)).toNat [(48:UInt8), 49, 50, 51, 52, 53, 54, 55, 56, 57, 97, 98, 99, 100, 101, 102, 103, 104, 105, 106, 107, 108, 109, 110, 111, 112]) ++ List.drop (↑(0:Nat):Int).toNat (List.take (n.tmod (20:Int)).toNat [(48:UInt8), 49, 50, 51, 52, 53, 54, 55, 56, 57, 97, 98, 99, 100, 101, 102, 103, 104, 105, 106, 107, 108, 109, 110, 111, 112])].getD (((0:Nat) + (k.tmod (9:Int)).toNat) * (1:Nat)) [] ++ [(13:UInt8), 10, 97, 98, 99] ++ tb1_1 n).length + [(48:UInt8), 13, 10].length):Int) <= (9223372036854775807:Int))<|.chk ((0:Int) <= (IntKind.u8.wrap (n.tdiv (5:Int))).tmod (4:Int) ∧ (IntKind.u8.wrap (n.tdiv (5:Int))).tmod (4:Int) < (4:Int))<|.chk (((0:Nat) + ((IntKind.u8.wrap (n.tdiv (5:Int))).tmod (4:Int)).toNat) * (1:Nat) < (4:Nat))<|.chk ((↑(([[(51:UInt8)], [(48:UInt8), 120, 51], [(32:UInt8), 51], [(51:UInt8), 59, 97, 61, 98], [(51:UInt8), 32, 59, 120], [(48:UInt8), 51], [(51:UInt8), 9], [(103:UInt8)], [(51:UInt8), 59] ++ List.drop (↑(0:Nat):Int).toNat (List.take (n.tmod (20:Int)).toNat [(48:UInt8), 49, 50, 51, 52, 53, 54, 55, 56, 57, 97, 98, 99, 100, 101, 102, 103, 104, 105, 106, 107, 108, 109, 110, 111, 112]) ++ List.drop (↑(0:Nat):Int).toNat (List.take (n.tmod (20:Int)).toNat [(48:UInt8), 49, 50, 51, 52, 53, 54, 55, 56, 57, 97, 98, 99, 100, 101, 102, 103, 104, 105, 106, 107, 108, 109, 110, 111, 112])].getD (((0:Nat) + (k.tmod (9:Int)).toNat) * (1:Nat)) [] ++ [(13:UInt8), 10, 97, 98, 99] ++ tb1_1 n ++ [(48:UInt8), 13, 10]).length + ([[], [(84:UInt8), 58, 32, 117, 13, 10], [(98:UInt8), 97, 100, 13, 10], [(84:UInt8), 58, 32, 117, 13, 10, 32, 119, 13, 10]].getD (((0:Nat) + ((IntKind.u8.wrap (n.tdiv (5:Int))).tmod (4:Int)).toNat) * (1:Nat)) []).length):Int) <= (9223372036854775807:Int))<|.chk ((↑(([[(51:UInt8)], [(48:UInt8), 120, 51], [(32:UInt8), 51], [(51:UInt8), 59, 97, 61, 98], [(51:UInt8), 32, 59, 120], [(48:UInt8), 51], [(51:UInt8), 9], [(103:UInt8)], [(51:UInt8), 59] ++ List.drop (↑(0:Nat):Int).toNat (List.take (n.tmod (20:Int)).toNat [(48:UInt8), 49, 50, 51, 52, 53, 54, 55, 56, 57, 97, 98, 99, 100, 101, 102, 103, 104, 105, 106, 107, 108, 109, 110, 111, 112]) ++ List.drop (↑(0:Nat):Int).toNat (List.take (n.tmod (20:Int)).toNat [(48:UInt8), 49, 50, 51, 52, 53, 54, 55, 56, 57, 97, 98, 99, 100, 101, 102, 103, 104, 105, 106, 107, 108, 109, 110, 111, 112])].getD (((0:Nat) + (k.tmod (9:Int)).toNat) * (1:Nat)) [] ++ [(13:UInt8), 10, 97, 98, 99] ++ tb1_1 n ++ [(48:UInt8), 13, 10] ++ [[], [(84:UInt8), 58, 32, 117, 13, 10], [(98:UInt8), 97, 100, 13, 10], [(84:UInt8), 58, 32, 117, 13, 10, 32, 119, 13, 10]].getD (((0:Nat) + ((IntKind.u8.wrap (n.tdiv (5:Int))).tmod (4:Int)).toNat) * (1:Nat)) []).length + [(13:UInt8), 10].length):Int) <= (9223372036854775807:Int))<|.ret ([(116:UInt8), 114, 97, 110, 115, 102, 101, 114, 45, 101, 110, 99, 111, 100, 105, 110, 103, 58, 32, 99, 104, 117, 110, 107, 101, 100, 13, 10], [[(51:UInt8)], [(48:UInt8), 120, 51], [(32:UInt8), 51], [(51:UInt8), 59, 97, 61, 98], [(51:UInt8), 32, 59, 120], [(48:UInt8), 51], [(51:UInt8), 9], [(103:UInt8)], [(51:UInt8), 59] ++ List.drop (↑(0:Nat):Int).toNat (List.take (n.tmod (20:Int)).toNat [(48:UInt8), 49, 50, 51, 52, 53, 54, 55, 56, 57, 97, 98, 99, 100, 101, 102, 103, 104, 105, 106, 107, 108, 109, 110, 111, 112]) ++ List.drop (↑(0:Nat):Int).toNat (List.take (n.tmod (20:Int)).toNat [(48:UInt8), 49, 50, 51, 52, 53, 54, 55, 56, 57, 97, 98, 99, 100, 101, 102, 103, 104, 105, 106, 107, 108, 109, 110, 111, 112])].getD (((0:Nat) + (k.tmod (9:Int)).toNat) * (1:Nat)) [] ++ [(13:UInt8), 10, 97, 98, 99] ++ tb1_1 n ++ [(48:UInt8), 13, 10] ++ [[], [(84:UInt8), 58, 32, 117, 13, 10], [(98:UInt8), 97, 100, 13, 10], [(84:UInt8), 58, 32, 117, 13, 10, 32, 119, 13, 10]].getD (((0:Nat) + ((IntKind.u8.wrap (n.tdiv (5:Int))).tmod (4:Int)).toNat) * (1:Nat)) [] ++ [(13:UInt8), 10]))
   (.ret ([], [])))))
def f (kind:Int) (n:Int) (k:Int) := (t kind n k).val
def G (x : D.den) := t x.2.1 x.2.2.1 x.2.2.2
def F (x : D.den) := (G x).val
def pa : D.den -> Rt -> A.den := fun (_, (_, (_, _))) (y1, y2) => ((), (y1, y2))
def con : Con := tcon D A pa F
theorem ok : zgu Tryz.prog 33 con := zij Base.mixed Base.prog_ok q6o (by kernel_rfl) zht.nil 9 (fun _ => rfl) G (fun _ => rfl) fun _ _ _ => (by kernel_rfl)
end q7m
def q7n : Book := q6n.add 33 q7m.con
theorem q7o : zgv Tryz.prog q7n := q6o.add q7m.ok
namespace q84
def D : Dom := ⟨[.cells (.sl 1 1) 22 false, .vec .byte 5 true], (.cat (.int .i64) (.ptr 0 0 0 0))⟩
def A : Dom := ⟨[.cells (.sl 1 1) 22 false, .vec .byte 5 true], (.int .u8)⟩
def t (a1 : Ls) (i:Int) : Tr (Int) :=
 .br ((↑a1.length:Int) == (0:Int)) (.okl a1.length<|.ret (IntKind.u8.wrap i))
 (.chk ((↑a1.length:Int) ≠ (0:Int))<|.chk ((0:Int) <= i.tmod (↑a1.length:Int) ∧ i.tmod (↑a1.length:Int) < (↑a1.length:Int))<|.chk ((0:Nat) + (i.tmod (↑a1.length:Int)).toNat < a1.length)<|.chk ((↑a1.length:Int) ≠ (0:Int))<|.okl a1.length<|.ret (IntKind.u8.wrap ((↑(UInt8.toNat (a1.getD ((0:Nat) + (i.tmod (↑a1.length:Int)).toNat) (0:UInt8))):Int) + IntKind.u8.wrap (IntKind.i64.wrap (IntKind.i64.wrap (i.tdiv (↑a1.length:Int)) * (37:Int))))))
def f (a1 : Ls) (i:Int) := (t a1 i).val
def G (x : D.den) := t x.1.2.1 x.2.1
def F (x : D.den) := (G x).val
def pa : D.den -> (Int) -> A.den := fun ((_, (a1, _)), (_, _)) y1 => (((), (a1, ())), y1)
def con : Con := tcon D A pa F
theorem ok : zgu Tryz.prog 29 con := zij Base.mixed Base.prog_ok q7o (by kernel_rfl) zht.nil 9 (fun _ => rfl) G (fun _ => rfl) fun _ _ _ => (by kernel_rfl)
end q84
def q85 : Book := q7n.add 29 q84.con
theorem q86 : zgv Tryz.prog q85 := q7o.add q84.ok
namespace q81
def D : Dom := ⟨[.vec .byte 5 true], (.sl 0 1)⟩
namespace L9
def D : Dom := ⟨[.vec .byte 5 true, .cells (.sl 0 1) 22 false], (.cat (.func (.func 29) .nil (.ptr 1 0 0 0)) (.cat .str (.int .i64)))⟩
def A : Dom := ⟨[.vec .byte 5 true, .cells (.sl 0 1) 22 false], (.cat (.func (.func 29) .nil (.ptr 1 0 0 0)) .str)⟩
abbrev Zt := Ls × Int
def t (l : Ls) (s : Ls) (i:Int) : Tr (Zt ⊕ (Ls)) :=
 .chk ((0:Nat) + l.length <= l.length)<|.call (q84.f (List.take l.length (List.drop (0:Nat) l)) (5:Int)) fun y1 =>
 .br (decide (i < IntKind.i64.wrap (y1.tmod (4:Int)))) (.chk ((0:Nat) + (List.take l.length (List.drop (0:Nat) l)).length <= l.length)<|.call (q84.f (List.take (List.take l.length (List.drop (0:Nat) l)).length (List.drop (0:Nat) l)) (IntKind.i64.wrap ((6:Int) + IntKind.i64.wrap ((2:Int) * i)))) fun y2 =>
  .chk ((0:Nat) + (List.take (List.take l.length (List.drop (0:Nat) l)).length (List.drop (0:Nat) l)).length <= l.length)<|.call (q84.f (List.take (List.take (List.take l.length (List.drop (0:Nat) l)).length (List.drop (0:Nat) l)).length (List.drop (0:Nat) l)) (IntKind.i64.wrap ((7:Int) + IntKind.i64.wrap ((2:Int) * i)))) fun y3 =>
  .call (q7v.f y2 y3) fun y4 =>
  .chk ((↑(s.length + y4.length):Int) <= (9223372036854775807:Int))<|.chk ((0:Nat) + (List.take (List.take (List.take l.length (List.drop (0:Nat) l)).length (List.drop (0:Nat) l)).length (List.drop (0:Nat) l)).length <= l.length)<|.call (q84.f (List.take (List.take (List.take (List.take l.length (List.drop (0:Nat) l)).length (List.drop (0:Nat) l)).length (List.drop (0:Nat) l)).length (List.drop (0:Nat) l)) (IntKind.i64.wrap ((8:Int) + i))) fun y5 =>
  .call (q7s.f y5) fun y6 =>
  .chk ((↑((s ++ y4).length + y6.length):Int) <= (9223372036854775807:Int))<|.chk ((0:Nat) = (0:Nat) ∧ (List.take (List.take (List.take (List.take l.length (List.drop (0:Nat) l)).length (List.drop (0:Nat) l)).length (List.drop (0:Nat) l)).length (List.drop (0:Nat) l)).length = l.length)<|.ret (.inl (s ++ y4 ++ y6, IntKind.i64.wrap (i + (1:Int)))))
 (.chk ((0:Nat) = (0:Nat) ∧ (List.take l.length (List.drop (0:Nat) l)).length = l.length)<|.ret (.inr s))
def f (l : Ls) (s : Ls) (i:Int) := Loop (fun z : Zt => t l z.1 z.2) (s, i)
def F (x : D.den) := f x.1.1 x.2.2.1 x.2.2.2
def pa : D.den -> (Ls) -> A.den := fun ((l, (_, _)), ((_, _), (_, _))) y1 => ((l, ((), ())), (((), ()), y1))
def lap : Lap := tlap 9 82 [3, 4, 5] D (.exit 0) [3, 4] A pa F
def pk (x : D.den) (z : Zt) : D.den := ((x.1.1, ((), ())), (((), ()), (z.1, z.2)))
def un (x : D.den) := (x.2.2.1, x.2.2.2)
def body (x : D.den) (z : Zt) := t x.1.1 z.1 z.2
theorem ok : zhe Tryz.prog 1 (codeOf Tryz.prog 21) lap := zil Base.mixed Base.prog_ok q86 (by kernel_rfl) (by kernel_rfl) zht.nil 9 pk un body (fun _ _ => rfl) (fun _ _ => rfl) (fun _ _ => rfl) (fun _ => rfl) fun _ _ _ _ => (by kernel_rfl)
end L9
def A : Dom := ⟨[.vec .byte 5 true], .str⟩
def tb2_1 (y8:Int) : Ls := [[(104:UInt8), 46, 111, 114, 103], [(97:UInt8)], [(104:UInt8), 46, 111, 114, 103, 58, 56, 48], [(120:UInt8), 46, 121]].getD (((0:Nat) + (y8.tmod (4:Int)).toNat) * (1:Nat)) []
def tb2_2 (y29:Int) : Ls := [[(104:UInt8), 46, 111, 114, 103], [(97:UInt8)], [(104:UInt8), 46, 111, 114, 103, 58, 56, 48], [(120:UInt8), 46, 121]].getD (((0:Nat) + (y29.tmod (4:Int)).toNat) * (1:Nat)) []
set_option maxHeartbeats 4000000 in
def t (l : Ls) : Tr (Ls) :=
 .chk ((0:Nat) + l.length <= l.length)<|.call (q84.f (List.take l.length (List.drop (0:Nat) l)) (0:Int)) fun y1 =>
 .br (decide (y1 > (250:Int))) (.chk ((0:Nat) + (List.take l.length (List.drop (0:Nat) l)).length <= l.length)<|.call (q84.f (List.take (List.take l.length (List.drop (0:Nat) l)).length (List.drop (0:Nat) l)) (1:Int)) fun y2 =>
  .chk ((0:Nat) + (List.take (List.take l.length (List.drop (0:Nat) l)).length (List.drop (0:Nat) l)).length <= l.length)<|.call (q84.f (List.take (List.take (List.take l.length (List.drop (0:Nat) l)).length (List.drop (0:Nat) l)).length (List.drop (0:Nat) l)) (2:Int)) fun y3 =>
  .call (q7y.f y2 y3) fun y4 =>
  .chk ((↑([(13:UInt8), 10].length + y4.length):Int) <= (9223372036854775807:Int))<|.chk ((0:Nat) + (List.take (List.take (List.take l.length (List.drop (0:Nat) l)).length (List.drop (0:Nat) l)).length (List.drop (0:Nat) l)).length <= l.length)<|.call (q84.f (List.take (List.take (List.take (List.take l.length (List.drop (0:Nat) l)).length (List.drop (0:Nat) l)).length (List.drop (0:Nat) l)).length (List.drop (0:Nat) l)) (3:Int)) fun y5 =>
  .call (q7s.f y5) fun y6 =>
  .chk ((↑(([(13:UInt8), 10] ++ y4).length + y6.length):Int) <= (9223372036854775807:Int))<|.chk ((0:Nat) + (List.take (List.take (List.take (List.take l.length (List.drop (0:Nat) l)).length (List.drop (0:Nat) l)).length (List.drop (0:Nat) l)).length (List.drop (0:Nat) l)).length <= l.length)<|.call (q84.f (List.take (List.take (List.take (List.take (List.take l.length (List.drop (0:Nat) l)).length (List.drop (0:Nat) l)).length (List.drop (0:Nat) l)).length (List.drop (0:Nat) l)).length (List.drop (0:Nat) l)) (4:Int)) fun y7 =>
  .br (decide (y7 < (235:Int))) (.chk ((↑(([(13:UInt8), 10] ++ y4 ++ y6).length + [(72:UInt8), 111, 115, 116, 58, 32].length):Int) <= (9223372036854775807:Int))<|.chk ((0:Nat) + (List.take (List.take (List.take (List.take (List.take l.length (List.drop (0:Nat) l)).length (List.drop (0:Nat) l)).length (List.drop (0:Nat) l)).length (List.drop (0:Nat) l)).length (List.drop (0:Nat) l)).length <= l.length)<|.call (q84.f (List.take (List.take (List.take (List.take (List.take (List.take l.length (List.drop (0:Nat) l)).length (List.drop (0:Nat) l)).length (List.drop (0:Nat) l)).length (List.drop (0:Nat) l)).length (List.drop (0:Nat) l)).length (List.drop (0:Nat) l)) (4:Int)) fun y8 =>
  .chk ((0:Int) <= y8.tmod (4:Int) ∧ y8.tmod (4:Int) < (4:Int))<|.chk (((0:Nat) + (y8.tmod (4:Int)).toNat) * (1:Nat) < (4:Nat))<|.chk ((↑(([(13:UInt8), 10] ++ y4 ++ y6 ++ [(72:UInt8), 111, 115, 116, 58, 32]).length + (tb2_1 y8).length):Int) <= (9223372036854775807:Int))<|.chk ((↑(([(13:UInt8), 10] ++ y4 ++ y6 ++ [(72:UInt8), 111, 115, 116, 58, 32] ++ tb2_1 y8).length + [(13:UInt8), 10].length):Int) <= (9223372036854775807:Int))<|.chk ((0:Nat) = (0:Nat) ∧ (List.take (List.take (List.take (List.take (List.take (List.take l.length (List.drop (0:Nat) l)).length (List.drop (0:Nat) l)).length (List.drop (0:Nat) l)).length (List.drop (0:Nat) l)).length (List.drop (0:Nat) l)).length (List.drop (0:Nat) l)).length = l.length)<|.call (q81.L9.f l ([(13:UInt8), 10] ++ y4 ++ y6 ++ [(72:UInt8), 111, 115, 116, 58, 32] ++ tb2_1 y8 ++ [(13:UInt8), 10]) (0:Int)) fun y9 =>
  .chk ((0:Nat) + l.length <= l.length)<|.call (q84.f (List.take l.length (List.drop (0:Nat) l)) (14:Int)) fun y10 =>
  .chk ((0:Nat) + (List.take l.length (List.drop (0:Nat) l)).length <= l.length)<|.call (q84.f (List.take (List.take l.length (List.drop (0:Nat) l)).length (List.drop (0:Nat) l)) (15:Int)) fun y11 =>
  .chk ((0:Nat) + (List.take (List.take l.length (List.drop (0:Nat) l)).length (List.drop (0:Nat) l)).length <= l.length)<|.call (q84.f (List.take (List.take (List.take l.length (List.drop (0:Nat) l)).length (List.drop (0:Nat) l)).length (List.drop (0:Nat) l)) (16:Int)) fun y12 =>
  .call (q7m.f y10 y11 y12) fun (y13a, y13b) =>
  .chk ((↑(y9.length + y13a.length):Int) <= (9223372036854775807:Int))<|.chk ((0:Nat) + (List.take (List.take (List.take l.length (List.drop (0:Nat) l)).length (List.drop (0:Nat) l)).length (List.drop (0:Nat) l)).length <= l.length)<|.call (q84.f (List.take (List.take (List.take (List.take l.length (List.drop (0:Nat) l)).length (List.drop (0:Nat) l)).length (List.drop (0:Nat) l)).length (List.drop (0:Nat) l)) (17:Int)) fun y14 =>
  .call (q7s.f y14) fun y15 =>
  .chk ((↑((y9 ++ y13a).length + y15.length):Int) <= (9223372036854775807:Int))<|.chk ((↑((y9 ++ y13a ++ y15).length + y13b.length):Int) <= (9223372036854775807:Int))<|.ret (y9 ++ y13a ++ y15 ++ y13b))
  (.chk ((0:Nat) = (0:Nat) ∧ (List.take (List.take (List.take (List.take (List.take l.length (List.drop (0:Nat) l)).length (List.drop (0:Nat) l)).length (List.drop (0:Nat) l)).length (List.drop (0:Nat) l)).length (List.drop (0:Nat) l)).length = l.length)<|.call (q81.L9.f l ([(13:UInt8), 10] ++ y4 ++ y6) (0:Int)) fun y16 =>
  .chk ((0:Nat) + l.length <= l.length)<|.call (q84.f (List.take l.length (List.drop (0:Nat) l)) (14:Int)) fun y17 =>
  .chk ((0:Nat) + (List.take l.length (List.drop (0:Nat) l)).length <= l.length)<|.call (q84.f (List.take (List.take l.length (List.drop (0:Nat) l)).length (List.drop (0:Nat) l)) (15:Int)) fun y18 =>
  .chk ((0:Nat) + (List.take (List.take l.length (List.drop (0:Nat) l)).length (List.drop (0:Nat) l)).length <= l.length)<|.call (q84.f (List.take (List.take (List.take l.length (List.drop (0:Nat) l)).length (List.drop (0:Nat) l)).length (List.drop (0:Nat) l)) (16:Int)) fun y19 =>
  .call (q7m.f y17 y18 y19) fun (y20a, y20b) =>
  .chk ((↑(y16.length + y20a.length):Int) <= (9223372036854775807:Int))<|.chk ((0:Nat) + (List.take (List.take (List.take l.length (List.drop (0:Nat) l)).length (List.drop (0:Nat) l)).length (List.drop (0:Nat) l)).length <= l.length)<|.call (q84.f (List.take (List.take (List.take (List.take l.length (List.drop (0:Nat) l)).length (List.drop (0:Nat) l)).length (List.drop (0:Nat) l)).length (List.drop (0:Nat) l)) (17:Int)) fun y21 =>
  .call (q7s.f y21) fun y22 =>
  .chk ((↑((y16 ++ y20a).length + y22.length):Int) <= (9223372036854775807:Int))<|.chk ((↑((y16 ++ y20a ++ y22).length + y20b.length):Int) <= (9223372036854775807:Int))<|.ret (y16 ++ y20a ++ y22 ++ y20b)))
 (.chk ((0:Nat) + (List.take l.length (List.drop (0:Nat) l)).length <= l.length)<|.call (q84.f (List.take (List.take l.length (List.drop (0:Nat) l)).length (List.drop (0:Nat) l)) (1:Int)) fun y23 =>
  .chk ((0:Nat) + (List.take (List.take l.length (List.drop (0:Nat) l)).length (List.drop (0:Nat) l)).length <= l.length)<|.call (q84.f (List.take (List.take (List.take l.length (List.drop (0:Nat) l)).length (List.drop (0:Nat) l)).length (List.drop (0:Nat) l)) (2:Int)) fun y24 =>
  .call (q7y.f y23 y24) fun y25 =>
  .chk ((↑(([] : Ls).length + y25.length):Int) <= (9223372036854775807:Int))<|.chk ((0:Nat) + (List.take (List.take (List.take l.length (List.drop (0:Nat) l)).length (List.drop (0:Nat) l)).length (List.drop (0:Nat) l)).length <= l.length)<|.call (q84.f (List.take (List.take (List.take (List.take l.length (List.drop (0:Nat) l)).length (List.drop (0:Nat) l)).length (List.drop (0:Nat) l)).length (List.drop (0:Nat) l)) (3:Int)) fun y26 =>
  .call (q7s.f y26) fun y27 =>
  .chk ((↑(([] ++ y25).length + y27.length):Int) <= (9223372036854775807:Int))<|.chk ((0:Nat) + (List.take (List.take (List.take (List.take l.length (List.drop (0:Nat) l)).length (List.drop (0:Nat) l)).length (List.drop (0:Nat) l)).length (List.drop (0:Nat) l)).length <= l.length)<|.call (q84.f (List.take (List.take (List.take (List.take (List.take l.length (List.drop (0:Nat) l)).length (List.drop (0:Nat) l)).length (List.drop (0:Nat) l)).length (List.drop (0:Nat) l)).length (List.drop (0:Nat) l)) (4:Int)) fun y28 =>
  .br (decide (y28 < (235:Int))) (.chk ((↑(([] ++ y25 ++ y27).length + [(72:UInt8), 111, 115, 116, 58, 32].length):Int) <= (9223372036854775807:Int))<|.chk ((0:Nat) + (List.take (List.take (List.take (List.take (List.take l.length (List.drop (0:Nat) l)).length (List.drop (0:Nat) l)).length (List.drop (0:Nat) l)).length (List.drop (0:Nat) l)).length (List.drop (0:Nat) l)).length <= l.length)<|.call (q84.f (List.take (List.take (List.take (List.take (List.take (List.take l.length (List.drop (0:Nat) l)).length (List.drop (0:Nat) l)).length (List.drop (0:Nat) l)).length (List.drop (0:Nat) l)).length (List.drop (0:Nat) l)).length (List.drop (0:Nat) l)) (4:Int)) fun y29 =>
  .chk ((0:Int) <= y29.tmod (4:Int) ∧ y29.tmod (4:Int) < (4:Int))<|.chk (((0:Nat) + (y29.tmod (4:Int)).toNat) * (1:Nat) < (4:Nat))<|.chk ((↑(([] ++ y25 ++ y27 ++ [(72:UInt8), 111, 115, 116, 58, 32]).length + (tb2_2 y29).length):Int) <= (9223372036854775807:Int))<|.chk ((↑(([] ++ y25 ++ y27 ++ [(72:UInt8), 111, 115, 116, 58, 32] ++ tb2_2 y29).length + [(13:UInt8), 10].length):Int) <= (9223372036854775807:Int))<|.chk ((0:Nat) = (0:Nat) ∧ (List.take (List.take (List.take (List.take (List.take (List.take l.length (List.drop (0:Nat) l)).length (List.drop (0:Nat) l)).length (List.drop (0:Nat) l)).length (List.drop (0:Nat) l)).length (List.drop (0:Nat) l)).length (List.drop (0:Nat) l)).length = l.length)<|.call (q81.L9.f l ([] ++ y25 ++ y27 ++ [(72:UInt8), 111, 115, 116, 58, 32] ++ tb2_2 y29 ++ [(13:UInt8), 10]) (0:Int)) fun y30 =>
  .chk ((0:Nat) + l.length <= l.length)<|.call (q84.f (List.take l.length (List.drop (0:Nat) l)) (14:Int)) fun y31 =>
  .chk ((0:Nat) + (List.take l.length (List.drop (0:Nat) l)).length <= l.length)<|.call (q84.f (List.take (List.take l.length (List.drop (0:Nat) l)).length (List.drop (0:Nat) l)) (15:Int)) fun y32 =>
  .chk ((0:Nat) + (List.take (List.take l.length (List.drop (0:Nat) l)).length (List.drop (0:Nat) l)).length <= l.length)<|.call (q84.f (List.take (List.take (List.take l.length (List.drop (0:Nat) l)).length (List.drop (0:Nat) l)).length (List.drop (0:Nat) l)) (16:Int)) fun y33 =>
  .call (q7m.f y31 y32 y33) fun (y34a, y34b) =>
  .chk ((↑(y30.length + y34a.length):Int) <= (9223372036854775807:Int))<|.chk ((0:Nat) + (List.take (List.take (List.take l.length (List.drop (0:Nat) l)).length (List.drop (0:Nat) l)).length (List.drop (0:Nat) l)).length <= l.length)<|.call (q84.f (List.take (List.take (List.take (List.take l.length (List.drop (0:Nat) l)).length (List.drop (0:Nat) l)).length (List.drop (0:Nat) l)).length (List.drop (0:Nat) l)) (17:Int)) fun y35 =>
  .call (q7s.f y35) fun y36 =>
  .chk ((↑((y30 ++ y34a).length + y36.length):Int) <= (9223372036854775807:Int))<|.chk ((↑((y30 ++ y34a ++ y36).length + y34b.length):Int) <= (9223372036854775807:Int))<|.ret (y30 ++ y34a ++ y36 ++ y34b))
  (.chk ((0:Nat) = (0:Nat) ∧ (List.take (List.take (List.take (List.take (List.take l.length (List.drop (0:Nat) l)).length (List.drop (0:Nat) l)).length (List.drop (0:Nat) l)).length (List.drop (0:Nat) l)).length (List.drop (0:Nat) l)).length = l.length)<|.call (q81.L9.f l ([] ++ y25 ++ y27) (0:Int)) fun y37 =>
  .chk ((0:Nat) + l.length <= l.length)<|.call (q84.f (List.take l.length (List.drop (0:Nat) l)) (14:Int)) fun y38 =>
  .chk ((0:Nat) + (List.take l.length (List.drop (0:Nat) l)).length <= l.length)<|.call (q84.f (List.take (List.take l.length (List.drop (0:Nat) l)).length (List.drop (0:Nat) l)) (15:Int)) fun y39 =>
  .chk ((0:Nat) + (List.take (List.take l.length (List.drop (0:Nat) l)).length (List.drop (0:Nat) l)).length <= l.length)<|.call (q84.f (List.take (List.take (List.take l.length (List.drop (0:Nat) l)).length (List.drop (0:Nat) l)).length (List.drop (0:Nat) l)) (16:Int)) fun y40 =>
  .call (q7m.f y38 y39 y40) fun (y41a, y41b) =>
  .chk ((↑(y37.length + y41a.length):Int) <= (9223372036854775807:Int))<|.chk ((0:Nat) + (List.take (List.take (List.take l.length (List.drop (0:Nat) l)).length (List.drop (0:Nat) l)).length (List.drop (0:Nat) l)).length <= l.length)<|.call (q84.f (List.take (List.take (List.take (List.take l.length (List.drop (0:Nat) l)).length (List.drop (0:Nat) l)).length (List.drop (0:Nat) l)).length (List.drop (0:Nat) l)) (17:Int)) fun y42 =>
  .call (q7s.f y42) fun y43 =>
  .chk ((↑((y37 ++ y41a).length + y43.length):Int) <= (9223372036854775807:Int))<|.chk ((↑((y37 ++ y41a ++ y43).length + y41b.length):Int) <= (9223372036854775807:Int))<|.ret (y37 ++ y41a ++ y43 ++ y41b)))
def f (l : Ls) := (t l).val
def G (x : D.den) := t x.1.1
def F (x : D.den) := (G x).val
def pa : D.den -> (Ls) -> A.den := fun ((l, _), _) y1 => ((l, ()), y1)
def con : Con := tcon D A pa F
theorem ok : zgu Tryz.prog 21 con := zij Base.mixed Base.prog_ok q86 (by kernel_rfl) (.cons L9.ok (by kernel_rfl) (.nil)) 9 (fun _ => rfl) G (fun _ => rfl) fun _ _ _ => (by kernel_rfl)
end q81
def q82 : Book := q85.add 21 q81.con
theorem q83 : zgv Tryz.prog q82 := q86.add q81.ok
namespace q87
def D : Dom := ⟨[.vec .byte 5 true], (.sl 0 1)⟩
namespace L3
def D : Dom := ⟨[.vec .byte 5 true], (.cat (.sl 0 1) (.cat .str (.int .i64)))⟩
def A : Dom := ⟨[.vec .byte 5 true], .str⟩
abbrev Zt := Ls × Int
def t (l : Ls) (s : Ls) (i:Int) : Tr (Zt ⊕ (Ls)) :=
 .br (decide (i < (↑l.length:Int))) (.br (decide (i < (40:Int))) (.chk ((0:Int) <= i ∧ i <= mn2 (IntKind.i64.wrap (i + (10:Int))) (↑l.length:Int) ∧ mn2 (IntKind.i64.wrap (i + (10:Int))) (↑l.length:Int) <= (↑l.length:Int))<|.chk ((0:Nat) + i.toNat + (mn2 (IntKind.i64.wrap (i + (10:Int))) (↑l.length:Int) - i).toNat <= l.length)<|.call (q81.f (List.take (mn2 (IntKind.i64.wrap (i + (10:Int))) (↑l.length:Int) - i).toNat (List.drop ((0:Nat) + i.toNat) l))) fun y1 =>
  .chk ((↑(s.length + y1.length):Int) <= (9223372036854775807:Int))<|.okl l.length<|.ret (.inl (s ++ y1, IntKind.i64.wrap (i + (10:Int)))))
  (.ret (.inr s)))
 (.ret (.inr s))
def f (l : Ls) (s : Ls) (i:Int) := Loop (fun z : Zt => t l z.1 z.2) (s, i)
def F (x : D.den) := f x.1.1 x.2.2.1 x.2.2.2
def pa : D.den -> (Ls) -> A.den := fun ((l, _), (_, (_, _))) y1 => ((l, ()), y1)
def lap : Lap := tlap 3 28 [0, 3, 4] D (.exit 0) [3] A pa F
def pk (x : D.den) (z : Zt) : D.den := ((x.1.1, ()), ((), (z.1, z.2)))
def un (x : D.den) := (x.2.2.1, x.2.2.2)
def body (x : D.den) (z : Zt) := t x.1.1 z.1 z.2
theorem ok : zhe Tryz.prog 1 (codeOf Tryz.prog 8) lap := zil Base.mixed Base.prog_ok q83 (by kernel_rfl) (by kernel_rfl) zht.nil 9 pk un body (fun _ _ => rfl) (fun _ _ => rfl) (fun _ _ => rfl) (fun _ => rfl) fun _ _ _ _ => (by kernel_rfl)
end L3
def A : Dom := ⟨[.vec .byte 5 true], (.vec .byte)⟩
def t (l : Ls) : Tr (Ls) :=
 .okl l.length<|.call (q87.L3.f l [] (0:Int)) fun y1 =>
 .chk (y1.length <= (140737488355328:Nat))<|.chk ((0:Nat) + y1.length <= ([] ++ y1).length)<|.ret (List.take y1.length (List.drop (0:Nat) ([] ++ y1)))
def f (l : Ls) := (t l).val
def G (x : D.den) := t x.1.1
def F (x : D.den) := (G x).val
def pa : D.den -> (Ls) -> A.den := fun ((l, _), _) y1 => ((l, ()), y1)
def con : Con := tcon D A pa F
theorem ok : zgu Tryz.prog 8 con := zij Base.mixed Base.prog_ok q83 (by kernel_rfl) (.cons L3.ok (by kernel_rfl) (.nil)) 9 (fun _ => rfl) G (fun _ => rfl) fun _ _ _ => (by kernel_rfl)
end q87
def q88 : Book := q82.add 8 q87.con
theorem q89 : zgv Tryz.prog q88 := q83.add q87.ok
namespace q29
def D : Dom := ⟨[], (.cat (.vec .byte) (.cat (.int .u32) (.cat .byte (.vec .byte))))⟩
def A : Dom := ⟨[], .bool⟩
def t (l : Ls) (va:Int) (k:UInt8) (more : Ls) : Tr (Bool) :=
 .call (q2a.f) fun y1 =>
 .br (!y1) (.ret false)
 (.br (decide ((↑l.length:Int) > (30:Int))) (.ret true)
  (.br (decide ((↑more.length:Int) > (60:Int))) (.ret true)
  (.call (q7p.f (Int.ofNat k.toNat)) fun (y2a, y2b, y2c, y2d, y2e, y2f, y2g, y2h, y2i, y2j) =>
   .call (q0o.f (IntKind.u32.wrap (↑(BitVec.ofInt IntKind.u32.bits va &&& BitVec.ofInt IntKind.u32.bits (1073741823:Int)).toNat:Int)) y2a y2b y2c y2d y2e y2f y2g y2h) fun (y3a, y3b, y3c, y3d, y3e, y3f, y3g, y3h, y3i, y3j, y3k, y3l, y3m, y3n, y3o, y3p, y3q, y3r, y3s, y3t, y3u, y3v, y3w, y3x, y3y, y3z, y3aa, y3ab, y3ac, y3ad, y3ae, y3af, y3ag, y3ah, y3ai, y3aj, y3ak, y3al, y3am, y3an, y3ao, y3ap, y3aq, y3ar, y3as) =>
   .call (q87.f l) fun y4 =>
   .chk ((4:Nat) <= (4:Nat))<|.okl y3u.length<|.okl y3v.length<|.okl y3w.length<|.okl y3x.length<|.okl y3y.length<|.okl y3ao.length<|.okl y3ap.length<|.okl y3aq.length<|.okl y3ar.length<|.okl y3as.length<|.chk ((2:Nat) <= [y4, List.take (4:Nat) (List.drop (0:Nat) [(10:UInt8), 10, 32, 120])].length)<|.call (q0l.f y3a y3b y3c y3d y3e y3f y3g y3h y3i y3j y3k y3l y3m y3n y2a y2b y2c y2d y2e y2f y2g y2h y2i y2j y3o y3p y3q y3r y3s y3t y3u y3v y3w y3x y3y y3z y3aa y3ab y3ac y3ad y3ae y3af y3ag y3ah y3ai (IntKind.u32.wrap (↑(BitVec.ofInt IntKind.u32.bits va &&& BitVec.ofInt IntKind.u32.bits (1073741823:Int)).toNat:Int)) y2a y2b y2c y2d y2e y2f y2g y2h y2i y2j y3aj (IntKind.u32.wrap (↑(BitVec.ofInt IntKind.u32.bits va &&& BitVec.ofInt IntKind.u32.bits (1073741823:Int)).toNat:Int)) y3ak y3al y3am y3an y3ao y3ap y3aq y3ar y3as (List.take (2:Nat) (List.drop (0:Nat) [y4, List.take (4:Nat) (List.drop (0:Nat) [(10:UInt8), 10, 32, 120])]))) fun (y5a, y5b, y5c, y5d, y5e, y5f, y5g, y5h, y5i, y5j, y5k, y5l, y5m, y5n, y5o, y5p, y5q, y5r, y5s, y5t, y5u, y5v, y5w, y5x, y5y, y5z, y5aa, y5ab, y5ac, y5ad, y5ae, y5af, y5ag, y5ah, y5ai, y5aj, y5ak, y5al, y5am, y5an, y5ao, y5ap, y5aq, y5ar, y5as, y5at, y5au, _, y5aw, y5ax, y5ay, y5az, y5ba, y5bb, y5bc, y5bd, y5be, y5bf, y5bg, y5bh, y5bi, y5bj, y5bk, y5bl, y5bm, y5bn, y5bo, y5bp) =>
   .okl y5bb.length<|.okl y5bc.length<|.okl y5bd.length<|.okl y5be.length<|.okl y5bf.length<|.call (q4a.f y5d y5e y5y y5az y5bb y5bc y5bd y5be y5bf) fun y6 =>
   .okl y5bl.length<|.okl y5bm.length<|.okl y5bn.length<|.okl y5bo.length<|.okl y5bp.length<|.call (q4a.f y5z y5aa y5au y5bj y5bl y5bm y5bn y5bo y5bp) fun y7 =>
   .br (y5a != (2:Int)) (.br (y5a == (1:Int)) (.br (y5b == (0:Int)) (.ret (!y5c))
    (.ret false))
   (.ret false))
   (.chk ((27:Nat) <= (27:Nat))<|.okl y5bb.length<|.okl y5bc.length<|.okl y5bd.length<|.okl y5be.length<|.okl y5bf.length<|.okl y5bl.length<|.okl y5bm.length<|.okl y5bn.length<|.okl y5bo.length<|.okl y5bp.length<|.chk ((2:Nat) <= [more, List.take (27:Nat) (List.drop (0:Nat) [(71:UInt8), 69, 84, 32, 47, 32, 72, 84, 84, 80, 47, 49, 46, 49, 13, 10, 72, 111, 115, 116, 58, 32, 97, 13, 10, 13, 10])].length)<|.call (q0l.f y5a y5b y5c y5d y5e y5f y5g y5h y5i y5j y5k y5l y5m y5n y5o y5p y5q y5r y5s y5t y5u y5v y5w y5x y5y y5aw y5ax y5ay y5az y5ba y5bb y5bc y5bd y5be y5bf y5z y5aa y5ab y5ac y5ad y5ae y5af y5ag y5ah y5ai y5aj y5ak y5al y5am y5an y5ao y5ap y5aq y5ar y5as y5at y5au y5bg y5bh y5bi y5bj y5bk y5bl y5bm y5bn y5bo y5bp (List.take (2:Nat) (List.drop (0:Nat) [more, List.take (27:Nat) (List.drop (0:Nat) [(71:UInt8), 69, 84, 32, 47, 32, 72, 84, 84, 80, 47, 49, 46, 49, 13, 10, 72, 111, 115, 116, 58, 32, 97, 13, 10, 13, 10])]))) fun (y8a, y8b, y8c, y8d, y8e, _, _, _, _, _, _, y8l, y8m, _, _, _, _, _, _, _, _, _, _, _, y8y, y8z, y8aa, _, _, _, _, _, _, _, _, _, _, _, _, _, _, _, _, _, _, _, y8au, y8av, _, _, _, y8az, _, y8bb, y8bc, y8bd, y8be, y8bf, _, _, _, y8bj, _, y8bl, y8bm, y8bn, y8bo, y8bp) =>
   .br ((↑y8av.length:Int) == (0:Int)) (.br (y8a == y5a) (.br (y8b == y5b) (.br (y8c == y5c) (.okl y8bb.length<|.okl y8bc.length<|.okl y8bd.length<|.okl y8be.length<|.okl y8bf.length<|.call (q4a.f y8d y8e y8y y8az y8bb y8bc y8bd y8be y8bf) fun y9 =>
     .okl y8bl.length<|.okl y8bm.length<|.okl y8bn.length<|.okl y8bo.length<|.okl y8bp.length<|.call (q4a.f y8z y8aa y8au y8bj y8bl y8bm y8bn y8bo y8bp) fun y10 =>
     .br (mx2 y9 y10 == mx2 y6 y7) (.okl y8bb.length<|.okl y8bc.length<|.okl y8bd.length<|.okl y8be.length<|.okl y8bf.length<|.call (q41.f y8l y8y y8bb y8bc y8bd y8be y8bf) fun y11 =>
      .br (!y11) (.okl y8bb.length<|.okl y8bc.length<|.okl y8bd.length<|.okl y8be.length<|.okl y8bf.length<|.call (q4d.f y8m y8y y8bb y8bc y8bd y8be y8bf) fun y12 =>
      .br (!y12) (.ret (y5b != (0:Int)))
      (.ret false))
      (.ret false))
     (.ret false))
     (.ret false))
    (.ret false))
    (.ret false))
   (.ret false)))))
def f (l : Ls) (va:Int) (k:UInt8) (more : Ls) := (t l va k more).val
def G (x : D.den) := t x.2.1 x.2.2.1 x.2.2.2.1 x.2.2.2.2
def F (x : D.den) := (G x).val
def pa : D.den -> (Bool) -> A.den := fun (_, (_, (_, (_, _)))) y1 => ((), y1)
def con : Con := tcon D A pa F
theorem ok : zgu Tryz.prog 3 con := zij Base.mixed Base.prog_ok q89 (by kernel_rfl) zht.nil 9 (fun _ => rfl) G (fun _ => rfl) fun _ _ _ => (by kernel_rfl)
theorem law_ok (h : ∀ x, (zia [(.sl .byte), (.int .u32), .byte, (.sl .byte)]).pre x -> F x = some true) : zgu Tryz.prog 3 (zia [(.sl .byte), (.int .u32), .byte, (.sl .byte)]) := Go.Vx.law_ok ok h
end q29
end Go.Vx
end
section

end
section
namespace Go.Vx
theorem w64 {n : Int} (h0 : -9223372036854775808 <= n) (h1 : n < 9223372036854775808) : IntKind.i64.wrap n = n := by
 simp only [IntKind.wrap, IntKind.signed, IntKind.bits, if_true]
 simp
 omega
theorem w32 {n : Int} (h0 : 0 <= n) (h1 : n < 4294967296) : IntKind.u32.wrap n = n := by
 simp only [IntKind.wrap, IntKind.signed, IntKind.bits]
 simp
 omega
theorem wS {k : Nat} (h : k < 4611686018427387904) : IntKind.i64.wrap ((k:Int) + 1) = ((k + 1:Nat):Int) := by rw [w64 (by omega) (by omega)]; omega
theorem ziw (c:UInt8) : (c.toNat:Int) < 256 := by have := UInt8.toNat_lt c; omega
theorem zix (c:UInt8) : 0 <= (c.toNat:Int) := by omega
theorem ziy (c:UInt8) : UInt8.ofNat (c.toNat:Int).toNat = c := by simp
theorem ziz (c d:UInt8) : ((c.toNat:Int) == (d.toNat:Int)) = (c == d) := by
 by_cases h : c = d
 ·subst h; simp
 ·have : ¬ c.toNat = d.toNat := fun e => h (UInt8.toNat_inj.1 e)
  have h1 : (c == d) = false := by simpa using h
  rw [h1]
  exact beq_false_of_ne (by omega)
theorem zj0 (c:UInt8) (m:Int) (h0 : 0 <= m) (h1 : m < 256) : ((c.toNat:Int) == m) = (c == UInt8.ofNat m.toNat) := by
 have : m = ((UInt8.ofNat m.toNat).toNat:Int) := by simp; omega
 rw [← ziz]
 rw [← this]
theorem zj1 {k n : Nat} (h : k < n) : (0:Int) <= (k:Int) ∧ (k:Int) < (n:Int) := by omega
theorem Tr.val_chk {α : Type} {p : Prop} [Decidable p] {a : Tr α} (h : p) : (Tr.chk p a).val = a.val := if_pos h
theorem Tr.val_call {α β : Type} {o : Option β} {k : β -> Tr α} {y : β} (h : o = some y) : (Tr.call o k).val = (k y).val := by subst h; rfl
theorem Tr.val_inl {α β γ : Type} {o : Option (β ⊕ γ)} {k : β -> Tr α} {l : γ -> Tr α} {y : β} (h : o = some (.inl y)) : (Tr.both o k l).val = (k y).val := by subst h; rfl
theorem Tr.val_inr {α β γ : Type} {o : Option (β ⊕ γ)} {k : β -> Tr α} {l : γ -> Tr α} {y : γ} (h : o = some (.inr y)) : (Tr.both o k l).val = (l y).val := by subst h; rfl
def zj2 {α A ρ : Type} (step : A -> α -> A ⊕ ρ) (fin : A -> ρ) : A -> List α -> ρ
 | a, [] => fin a
 | a, c :: l => match step a c with
  | .inl a' => zj2 step fin a' l
  | .inr r => r
theorem zj3 {α A σ ρ : Type} {body : σ -> Tr (σ ⊕ ρ)} (s : List α) (st : Nat -> A -> σ) (inv : Nat -> A -> Prop) (step : A -> α -> A ⊕ ρ) (fin : A -> ρ)
  (hs : ∀ (k:Nat) (a : A) (c : α), inv k a -> (hk : k < s.length) -> s[k]'hk = c -> (body (st k a)).val = some (match step a c with
   | .inl a' => .inl (st (k + 1) a')
   | .inr r => .inr r) ∧ ∀ a', step a c = .inl a' -> inv (k + 1) a')
  (he : ∀ a, inv s.length a -> (body (st s.length a)).val = some (.inr (fin a))) :
  ∀ (n k:Nat) (a : A), inv k a -> k <= s.length -> s.length - k < n -> iter body n (st k a) = some (zj2 step fin a (s.drop k)) := by
 intro n
 induction n with
 | zero => intro k a _ _ h; omega
 | succ n ih =>
  intro k a hi hk hn
  rw [iter]
  by_cases hl : k < s.length
  ·obtain ⟨h1, h2⟩ := hs k a _ hi hl rfl
   rw [h1, List.drop_eq_getElem_cons hl, zj2]
   cases e : step a s[k] with
   | inr r => rfl
   | inl a' => exact ih (k + 1) a' (h2 a' e) (by omega) (by omega)
  ·have hkl : k = s.length := by omega
   subst hkl
   rw [he a hi, List.drop_length, zj2]
theorem zj4 {α A σ ρ : Type} {body : σ -> Tr (σ ⊕ ρ)} (s : List α) (st : Nat -> A -> σ) (inv : Nat -> A -> Prop) (step : A -> α -> A ⊕ ρ) (fin : A -> ρ)
  (hs : ∀ (k:Nat) (a : A) (c : α), inv k a -> (hk : k < s.length) -> s[k]'hk = c -> (body (st k a)).val = some (match step a c with
   | .inl a' => .inl (st (k + 1) a')
   | .inr r => .inr r) ∧ ∀ a', step a c = .inl a' -> inv (k + 1) a')
  (he : ∀ a, inv s.length a -> (body (st s.length a)).val = some (.inr (fin a))) (hn : s.length < 1125899906842624) {a : A} (hi : inv 0 a) {s0 : σ} (h0 : s0 = st 0 a) : Loop body s0 = some (zj2 step fin a s) := by
 subst h0
 have := zj3 s st inv step fin hs he rounds 0 a hi (Nat.zero_le _) (by unfold rounds; omega)
 rw [List.drop_zero] at this
 exact this
theorem zj5 {α : Type} {s : List α} {k : Nat} {c : α} {d : α} (hk : k < s.length) (hc : s[k]'hk = c) : s.getD k d = c := by
 rw [List.getD_eq_getElem?_getD, List.getElem?_eq_getElem hk, hc]; rfl
theorem zj6 {α : Type} {s : List α} {k : Nat} {c : α} {d : α} (hk : k < s.length) (hc : s[k]'hk = c) : s.getD (k:Int).toNat d = c := by
 rw [Int.toNat_natCast, List.getD_eq_getElem?_getD, List.getElem?_eq_getElem hk, hc]; rfl
end Go.Vx
end
section
set_option maxRecDepth 100000
namespace Go.Vx
namespace Pl
theorem zj7 {p : UInt8 -> Bool} (h : ((List.range 256).all fun n => p (UInt8.ofNat n)) = true) (c:UInt8) : p c = true := by
 have := List.all_eq_true.1 h c.toNat (List.mem_range.2 (UInt8.toNat_lt c))
 simpa using this
theorem zj8 {α : Type} [DecidableEq α] {f : Int -> Option α} {g : UInt8 -> α} (h : ((List.range 256).all fun n => decide (f (((UInt8.ofNat n).toNat:Nat):Int) = some (g (UInt8.ofNat n)))) = true) (c:UInt8) : f (c.toNat:Int) = some (g c) :=
 of_decide_eq_true (zj7 (p := fun c => decide (f (c.toNat:Int) = some (g c))) h c)
def zj9 (c:UInt8) : Bool := (decide (97 <= c) && decide (c <= 122)) || (decide (65 <= c) && decide (c <= 90))
def zja (c:UInt8) : Bool := decide (48 <= c) && decide (c <= 57)
def zjb (c:UInt8) : Bool := zj9 c || zja c || [33, 35, 36, 37, 38, 39, 42, 43, 45, 46, 94, 95, 96, 124, 126].contains c
def zjc (c:UInt8) : Bool := decide (33 <= c) && decide (c <= 126)
def zjd (c:UInt8) : Bool := c == 32 || c == 9
def zje (c:UInt8) : Bool := decide (c < 32) || c == 127
def zjf (c:UInt8) : Bool := zjc c || zjd c || decide (128 <= c)
def zjg (c:UInt8) : Bool := zja c || (decide (97 <= c) && decide (c <= 102)) || (decide (65 <= c) && decide (c <= 70))
def hexv (c:UInt8) : Nat := if zja c then c.toNat - 48 else if decide (97 <= c) && decide (c <= 102) then c.toNat - 87 else if decide (65 <= c) && decide (c <= 70) then c.toNat - 55 else 0
def zjh (c:UInt8) : UInt8 := if decide (65 <= c) && decide (c <= 90) then c + 32 else c
def zji (k:Int) (c:UInt8) : Bool := if k = 1 then zjb c else if k = 2 then zjc c else if k = 3 then zjd c else if k = 4 then zja c else if k = 5 then zjg c else if k = 6 then zjf c else false
def scan {α ρ : Type} (step : Nat -> α -> Option ρ) (fin : ρ) : Nat -> List α -> ρ
 | _, [] => fin
 | k, c :: l => match step k c with
  | none => scan step fin (k + 1) l
  | some r => r
theorem zjj {α ρ : Type} (step : Nat -> α -> Option ρ) (fin : ρ) : ∀ (l : List α) (k:Nat), zj2 (fun (a:Nat) c => match step a c with
  | none => .inl (a + 1)
  | some r => .inr r) (fun _ => fin) k l = scan step fin k l
 | [], _ => rfl
 | c :: l, k => by
  rw [zj2, scan]
  cases step k c with
  | none => exact zjj step fin l (k + 1)
  | some r => rfl
theorem zjk {α ρ : Type} {body : Int -> Tr (Int ⊕ ρ)} (s : List α) (step : Nat -> α -> Option ρ) (fin : ρ)
  (hs : ∀ (k:Nat) (c : α), (hk : k < s.length) -> s[k]'hk = c -> (body (k:Int)).val = some (match step k c with
   | none => .inl ((k + 1:Nat):Int)
   | some r => .inr r)) (he : (body (s.length:Int)).val = some (.inr fin)) (hn : s.length < 1125899906842624) : Loop body 0 = some (scan step fin 0 s) := by
 rw [← zjj]
 refine zj4 s (fun k _ => (k:Int)) (fun k a => a = k) (fun a c => match step a c with
  | none => .inl (a + 1)
  | some r => .inr r) (fun _ => fin) (fun k a c hi hk hc => ?_) (fun a _ => he) hn rfl rfl
 subst hi
 rw [hs a c hk hc]
 cases step a c with
 | none => exact ⟨rfl, fun a' h => by cases h; rfl⟩
 | some r => exact ⟨rfl, fun a' h => by cases h⟩
theorem zjl {α : Type} (p : α -> Bool) : ∀ (l : List α) (k:Nat), scan (fun _ c => if p c = true then none else some (Sum.inr false : Unit ⊕ Bool)) (.inl ()) k l = if l.all p = true then .inl () else .inr false
 | [], _ => rfl
 | c :: l, k => by
  rw [scan]
  by_cases h : p c = true
  ·simp only [h, if_true, zjl p l (k + 1), List.all_cons, Bool.true_and]
  ·simp only [h, List.all_cons]; rfl
theorem zjm {α : Type} (c:Bool) (a b : α) : (bif c then a else b) = if c = true then a else b := by cases c <;> rfl
theorem zjn {k n : Nat} : decide ((k:Int) < (n:Int)) = decide (k < n) := by simp
end Pl
end Go.Vx
end
section
set_option maxRecDepth 100000
namespace Go.Vx
namespace Pl
open Go Go.Proofs
theorem zjo (c:UInt8) : q3d.f (c.toNat:Int) = some (zja c) := zj8 (f := q3d.f) (g := fun c => (zja c)) (by decide +kernel) c
theorem zjp (c:UInt8) : q3m.f (c.toNat:Int) = some (zjb c) := zj8 (f := q3m.f) (g := fun c => (zjb c)) (by decide +kernel) c
theorem zjq (c:UInt8) : q3p.f (c.toNat:Int) = some (zjc c) := zj8 (f := q3p.f) (g := fun c => (zjc c)) (by decide +kernel) c
theorem zjr (c:UInt8) : q37.f (c.toNat:Int) = some (zjd c) := zj8 (f := q37.f) (g := fun c => (zjd c)) (by decide +kernel) c
theorem zjs (c:UInt8) : q3a.f (c.toNat:Int) = some (zje c) := zj8 (f := q3a.f) (g := fun c => (zje c)) (by decide +kernel) c
theorem zjt (c:UInt8) : q3j.f (c.toNat:Int) = some (zjf c) := zj8 (f := q3j.f) (g := fun c => (zjf c)) (by decide +kernel) c
theorem zju (c:UInt8) : q3g.f (c.toNat:Int) = some ((hexv c:Int), zjg c) := zj8 (f := q3g.f) (g := fun c => ((hexv c:Int), zjg c)) (by decide +kernel) c
theorem zjv (c:UInt8) (k:Int) : q3v.f (c.toNat:Int) k = some (zji k c) := by
 unfold q3v.f q3v.t zji
 rw [zjp, zjq, zjr, zjo, zju, zjt]
 simp only [Tr.val, zjm, beq_iff_eq]
 split <;> (try rfl) <;> split <;> (try rfl) <;> split <;> (try rfl) <;> split <;> (try rfl) <;> split <;> (try rfl) <;> split <;> rfl
theorem zjw {kinds : List Int} {s : List UInt8} {i : Nat} {c : UInt8} (hi : i < s.length) (hc : s[i]'hi = c) (hn : kinds.length < 1125899906842624) : q34.L6.f kinds s (i:Int) false (kinds.length:Int) 0 = some (kinds.any fun k => zji k c) := by
 unfold q34.L6.f
 refine (zj4 (A := Bool) (ρ := Bool) (a := false) kinds (fun k a => (a, (k:Int))) (fun _ _ => True) (fun a k => .inl (a || zji k c)) id ?_ ?_ hn trivial rfl).trans ?_
 ·intro k a kd _ hk hkc
  refine ⟨?_, fun _ _ => trivial⟩
  have hw := wS (k := k) (by omega)
  subst hkc hc
  cases a <;> simp [q34.L6.t, Tr.val, zjv, zj1 hk, hw, hk, zj1 hi, hi]
 ·intro a _
  simp [q34.L6.t, Tr.val]
 ·congr 1
  have : ∀ (l : List Int) (a:Bool), zj2 (fun a k => (Sum.inl (a || zji k c) : Bool ⊕ Bool)) id a l = (a || l.any fun k => zji k c) := by
   intro l
   induction l with
   | nil => intro a; simp [zj2]
   | cons k l ih => intro a; simp [zj2, ih, Bool.or_assoc]
  simpa using this kinds false
theorem zjx {kinds : List Int} {s : List UInt8} (hk : kinds.length < 1125899906842624) (hn : s.length < 1125899906842624) : q34.f kinds s = some (s.all fun c => kinds.any fun k => zji k c) := by
 have hL : q34.L2.f kinds s (s.length:Int) 0 = some (if (s.all fun c => kinds.any fun k => zji k c) = true then .inl () else .inr false) := by
  unfold q34.L2.f
  refine (zjk s (fun _ c => if (kinds.any fun k => zji k c) = true then none else some (Sum.inr false : Unit ⊕ Bool)) (.inl ()) (fun k c hl hc => ?_) ?_ hn).trans (by rw [zjl])
  ·have hw := wS (k := k) (by omega)
   by_cases h : (kinds.any fun k => zji k c) = true
   ·simp [q34.L2.t, Tr.val, zjw hl hc hk, h, hw, hl]
   ·have h' : (kinds.any fun k => zji k c) = false := by simpa using h
    simp [q34.L2.t, Tr.val, zjw hl hc hk, h', hw, hl]
  ·simp [q34.L2.t, Tr.val]
 unfold q34.f q34.t
 rw [hL]
 cases (s.all fun c => kinds.any fun k => zji k c) <;> simp [Tr.val]
end Pl
end Go.Vx
end
section
set_option maxRecDepth 100000
namespace Go.Vx
namespace Pl
open Go
theorem zjy {α : Type} {t : List α -> Tr (List α ⊕ List α)} {p : α -> Bool} {s : List α} (h0 : (t []).val = some (.inr [])) (hs : ∀ c l, l.length < s.length -> (t (c :: l)).val = some (if p c = true then .inl l else .inr (c :: l))) (hn : s.length < 1125899906842624) : Loop t s = some (s.dropWhile p) := by
 have : ∀ (n:Nat) (z : List α), z.length < n -> z.length <= s.length -> iter t n z = some (z.dropWhile p) := by
  intro n
  induction n with
  | zero => intro z h; omega
  | succ n ih =>
   intro z h hz
   cases z with
   | nil => rw [iter, h0]; rfl
   | cons c l =>
    rw [iter, hs c l (by simp at hz; omega)]
    by_cases hc : p c = true
    ·simp only [hc, if_true, List.dropWhile_cons_of_pos]
     exact ih l (by simp at h; omega) (by simp at hz; omega)
    ·simp [hc, List.dropWhile_cons_of_neg]
 exact this rounds s (by unfold rounds; omega) (Nat.le_refl _)
def zjz {α : Type} (p : α -> Bool) (l : List α) : List α := (l.reverse.dropWhile p).reverse
theorem zk0 {α : Type} {p : α -> Bool} (l : List α) (c : α) : zjz p (l ++ [c]) = if p c = true then zjz p l else l ++ [c] := by
 unfold zjz
 by_cases h : p c = true
 ·simp [h]
 ·simp [h]
theorem zk1 {α : Type} {p : α -> Bool} (l : List α) : (zjz p l).length <= l.length := by
 unfold zjz
 have := (List.dropWhile_sublist p (l := l.reverse)).length_le
 simpa using this
theorem zk2 {α : Type} {t : List α -> Tr (List α ⊕ List α)} {p : α -> Bool} {s : List α} (h0 : (t []).val = some (.inr [])) (hs : ∀ l c, l.length < s.length -> (t (l ++ [c])).val = some (if p c = true then .inl l else .inr (l ++ [c]))) (hn : s.length < 1125899906842624) : Loop t s = some (zjz p s) := by
 have : ∀ (n:Nat) (z : List α), z.length < n -> z.length <= s.length -> iter t n z = some (zjz p z) := by
  intro n
  induction n with
  | zero => intro z h; omega
  | succ n ih =>
   intro z h hz
   rcases List.eq_nil_or_concat z with rfl | ⟨l, c, rfl⟩
   ·rw [iter, h0]; rfl
   ·simp only [List.concat_eq_append, List.length_append, List.length_cons, List.length_nil] at h hz ⊢
    rw [iter, hs l c (by omega), zk0]
    by_cases hc : p c = true
    ·simp only [hc, if_true]
     exact ih l (by omega) (by omega)
    ·simp [hc]
 exact this rounds s (by unfold rounds; omega) (Nat.le_refl _)
def zk3 {ρ : Type} (i:Nat) : Nat ⊕ ρ -> Int ⊕ ρ
 | .inl j => .inl ((i + j:Nat):Int)
 | .inr r => .inr r
def goOn {α ρ : Type} (g : List α -> ρ) (l : List α) : Nat ⊕ ρ -> ρ
 | .inl j => g (l.drop j)
 | .inr r => r
theorem zk4 {α ρ : Type} {body : Int -> Tr (Int ⊕ ρ)} (s : List α) (step : List α -> Nat ⊕ ρ) (g : List α -> ρ) (hg : ∀ l, g l = goOn g l (step l)) (hj : ∀ l j, step l = .inl j -> 0 < j ∧ j <= l.length)
  (hs : ∀ i, i <= s.length -> (body (i:Int)).val = some (zk3 i (step (s.drop i)))) (hn : s.length < 1125899906842624) : Loop body 0 = some (g s) := by
 have : ∀ (n i:Nat), i <= s.length -> s.length - i < n -> iter body n (i:Int) = some (g (s.drop i)) := by
  intro n
  induction n with
  | zero => intro i _ h; omega
  | succ n ih =>
   intro i hi h
   rw [iter, hs i hi, hg (s.drop i)]
   cases e : step (s.drop i) with
   | inr r => rfl
   | inl j =>
    obtain ⟨h1, h2⟩ := hj _ _ e
    rw [List.length_drop] at h2
    simp only [zk3, goOn]
    rw [ih (i + j) (by omega) (by omega), List.drop_drop]
 exact this rounds 0 (Nat.zero_le _) (by unfold rounds; omega)
def zk5 (base:Nat) (c:UInt8) : Bool := zjg c && decide (hexv c < base)
def valN (base:Nat) (n:Nat) (s : List UInt8) : Nat := s.foldl (fun n c => n * base + hexv c) n
theorem zk6 (base n:Nat) (c:UInt8) (s : List UInt8) : valN base n (c :: s) = valN base (n * base + hexv c) s := rfl
theorem zk7 {base : Nat} (hb : 0 < base) : ∀ (s : List UInt8) (n:Nat), n <= valN base n s
 | [], n => Nat.le_refl _
 | c :: s, n => by
  rw [zk6]
  have := zk7 hb s (n * base + hexv c)
  have h2 : n * 1 <= n * base := Nat.mul_le_mul_left n hb
  omega
def numS (base:Nat) (most:Int) (s : List UInt8) : Int × Int :=
 if s = [] ∨ (s.all (zk5 base)) = false then (0, 22) else if (valN base 0 s:Int) <= max most 0 then ((valN base 0 s:Nat), 0) else (0, 23)
theorem zk8 (c:UInt8) : zk5 10 c = zja c := by
 have := zj7 (p := fun c => zk5 10 c == zja c) (by decide +kernel) c
 simpa using this
theorem zk9 (c:UInt8) : zk5 16 c = zjg c := by
 have := zj7 (p := fun c => zk5 16 c == zjg c) (by decide +kernel) c
 simpa using this
theorem zka (c:UInt8) : hexv c < 16 := by
 have := zj7 (p := fun c => decide (hexv c < 16)) (by decide +kernel) c
 simpa using this
def zkb (s : List UInt8) : List UInt8 := s.map zjh
def same (a b : List UInt8) : Bool := zkb a == zkb b
def zkc (p : UInt8 -> Bool) (s : List UInt8) : List UInt8 := zjz p (s.dropWhile p)
def trim (s : List UInt8) : List UInt8 := zkc zjd s
theorem zkd (p : UInt8 -> Bool) (s : List UInt8) : (zkc p s).length <= s.length := by
 unfold zkc
 have h1 := zk1 (p := p) (s.dropWhile p)
 have h2 := (List.dropWhile_sublist p (l := s)).length_le
 omega
def before (c:UInt8) (s : List UInt8) : List UInt8 := s.takeWhile (· != c)
def after (c:UInt8) (s : List UInt8) : List UInt8 := (s.dropWhile (· != c)).drop 1
def cutC (c:UInt8) (s : List UInt8) : List UInt8 × List UInt8 × Bool := if s.contains c = true then (before c s, after c s, true) else (s, [], false)
def zke (c:UInt8) : List UInt8 -> List (List UInt8)
 | [] => [[]]
 | x :: l => if x == c then [] :: zke c l else match zke c l with
  | a :: r => (x :: a) :: r
  | [] => [[x]]
def zkf (values : List (List UInt8)) : List (List UInt8) := values.flatMap fun v => (zke 44 v).map trim
def zkg (l : List (List UInt8 × List UInt8)) (name : List UInt8) : List (List UInt8) := (l.filter fun f => same f.1 name).map (·.2)
def zkh (others : List UInt8) (pct:Bool) : List UInt8 -> Bool
 | [] => true
 | c :: l => if (zja c || zj9 c || others.contains c) = true then zkh others pct l else if (pct && c == 37) = true then match l with
  | a :: b :: l' => zjg a && zjg b && zkh others pct l'
  | _ => false
 else false
theorem zki {c : UInt8} : ∀ {s : List UInt8}, s.contains c = false -> Lib.indexByte s c = -1
 | [], _ => rfl
 | x :: l, h => by
  simp only [List.contains_cons, Bool.or_eq_false_iff] at h
  have hx : (x == c) = false := by
   have := h.1
   simp only [beq_eq_false_iff_ne] at this ⊢
   exact fun e => this e.symm
  unfold Lib.indexByte
  rw [zki h.2, hx]
  simp
theorem zkj {c : UInt8} : ∀ {s : List UInt8}, s.contains c = true -> Lib.indexByte s c = ((before c s).length:Int)
 | [], h => by simp at h
 | x :: l, h => by
  unfold Lib.indexByte before
  by_cases hx : x = c
  ·subst hx; simp
  ·have h1 : (x == c) = false := by simpa using hx
   have h2 : l.contains c = true := by
    simp only [List.contains_cons, Bool.or_eq_true, beq_iff_eq] at h
    rcases h with h | h
    ·exact absurd h.symm hx
    ·exact h
   have ih := zkj h2
   have h3 : (x != c) = true := by simp [bne, h1]
   rw [h1]
   simp only [List.takeWhile_cons, h3, if_true, List.length_cons]
   rw [ih]
   have h4 : (((before c l).length:Int) == -1) = false := by
    rw [beq_eq_false_iff_ne]; omega
   simp only [h4]
   simp [before]
theorem zkk {c : UInt8} : ∀ {s : List UInt8}, s.contains c = true -> s = before c s ++ c :: after c s
 | [], h => by simp at h
 | x :: l, h => by
  unfold before after
  by_cases hx : x = c
  ·subst hx; simp
  ·have h1 : (x != c) = true := by simpa using hx
   have h2 : l.contains c = true := by
    simp only [List.contains_cons, Bool.or_eq_true, beq_iff_eq] at h
    rcases h with h | h
    ·exact absurd h.symm hx
    ·exact h
   have ih := zkk h2
   simp only [List.takeWhile_cons, List.dropWhile_cons, h1, if_true, List.cons_append]
   congr 1
theorem zkl {c : UInt8} {s : List UInt8} (h : s.contains c = true) : s.take (before c s).length = before c s := by
 refine (congrArg (List.take (before c s).length) (zkk h)).trans ?_
 simp
theorem zkm {c : UInt8} {s : List UInt8} (h : s.contains c = true) : s.drop ((before c s).length + 1) = after c s := by
 refine (congrArg (List.drop ((before c s).length + 1)) (zkk h)).trans ?_
 simp
theorem zkn {c : UInt8} {s : List UInt8} (h : s.contains c = true) : (before c s).length + 1 + (after c s).length = s.length := by
 have := congrArg List.length (zkk h)
 simp at this
 omega
theorem zko {c : UInt8} : ∀ {s : List UInt8}, s.contains c = false -> zke c s = [s]
 | [], _ => rfl
 | x :: l, h => by
  simp only [List.contains_cons, Bool.or_eq_false_iff] at h
  have hx : (x == c) = false := by
   have := h.1
   simp only [beq_eq_false_iff_ne] at this ⊢
   exact fun e => this e.symm
  simp only [zke, hx, zko h.2]
  rfl
theorem zkp {c : UInt8} : ∀ {s : List UInt8}, s.contains c = true -> zke c s = before c s :: zke c (after c s)
 | [], h => by simp at h
 | x :: l, h => by
  unfold before after
  by_cases hx : x = c
  ·subst hx; simp [zke]
  ·have h0 : (x == c) = false := by simpa using hx
   have h1 : (x != c) = true := by simpa using hx
   have h2 : l.contains c = true := by
    simp only [List.contains_cons, Bool.or_eq_true, beq_iff_eq] at h
    rcases h with h | h
    ·exact absurd h.symm hx
    ·exact h
   simp only [zke, h0, zkp h2, List.takeWhile_cons, List.dropWhile_cons, h1, if_true]
   rfl
theorem zkq (c:UInt8) (s : List UInt8) : zke c s ≠ [] := by
 by_cases h : s.contains c = true
 ·rw [zkp h]; simp
 ·rw [zko (by simpa using h)]; simp
theorem zkr (c:UInt8) : ∀ (n:Nat) (s : List UInt8), s.length <= n -> (zke c s).length = s.count c + 1
 | 0, s, h => by
  have : s = [] := List.length_eq_zero_iff.1 (by omega)
  subst this; rfl
 | n + 1, s, h => by
  by_cases hc : s.contains c = true
  ·have hl := zkn hc
   rw [zkp hc, List.length_cons, zkr c n (after c s) (by omega)]
   have h1 := congrArg (List.count c) (zkk hc)
   rw [List.count_append, List.count_cons_self] at h1
   have : (before c s).count c = 0 := by
    rw [List.count_eq_zero]
    unfold before
    intro hm
    have h2 : ∀ (l : List UInt8), c ∈ l.takeWhile (· != c) -> False := by
     intro l
     induction l with
     | nil => intro h; simp at h
     | cons x l ih =>
      intro h
      rw [List.takeWhile_cons] at h
      split at h
      ·rename_i hx
       rcases List.mem_cons.1 h with rfl | h
       ·simp at hx
       ·exact ih h
      ·simp at h
    exact h2 _ hm
   omega
  ·rw [zko (by simpa using hc)]
   have : s.count c = 0 := by
    rw [List.count_eq_zero]
    simpa using hc
   simp [this]
end Pl
end Go.Vx
end
section
set_option maxRecDepth 100000
namespace Go.Vx
namespace Pl
open Go Go.Proofs
theorem zks (s : List UInt8) (k:Int) : (s.all fun c => [k].any fun k => zji k c) = s.all (zji k) := by
 congr 1; funext c; simp
theorem zkt {k : Int} {s : List UInt8} (hn : s.length < 1125899906842624) : q34.f [k] s = some (s.all (zji k)) := by
 rw [zjx (by simp) hn, zks]
theorem zku {m d n base : Nat} (hb : 0 < base) (hd : d <= m) : (decide ((n:Int) > ((m:Int) - (d:Int)).tdiv (base:Int))) = decide (m < n * base + d) := by
 have h1 : ((m:Int) - (d:Int)) = ((m - d:Nat):Int) := by omega
 rw [h1]
 have h2 : ((m - d:Nat):Int).tdiv (base:Int) = (((m - d) / base:Nat):Int) := rfl
 rw [h2]
 have : ((n:Int) > (((m - d) / base:Nat):Int)) ↔ m < n * base + d := by
  have h3 : (m - d) / base < n ↔ m - d < n * base := Nat.div_lt_iff_lt_mul hb
  constructor
  ·intro h
   have := h3.1 (by omega)
   omega
  ·intro h
   have := h3.2 (by omega)
   omega
 exact decide_eq_decide.2 this
theorem zkv {base m : Nat} {s : List UInt8} (hb : 2 <= base) (hb2 : base <= 16) (hm : m <= 1099511627776) (hn : s.length < 1125899906842624) :
  q31.L6.f s (base:Int) (m:Int) 0 (s.length:Int) 0 = some (if valN base 0 s <= m then .inl ((valN base 0 s:Nat):Int) else .inr (0, 23)) := by
 unfold q31.L6.f
 refine (zj4 (A := Nat) (a := 0) s (fun k n => ((n:Int), (k:Int))) (fun _ n => n <= m) (fun n c => if n * base + hexv c <= m then .inl (n * base + hexv c) else .inr (.inr (0, 23))) (fun n => Sum.inl ((n:Nat):Int)) ?_ ?_ hn (Nat.zero_le _) rfl).trans ?_
 ·intro k n c hi hk hc
  subst hc
  have hw := wS (k := k) (by omega)
  have hd := zka s[k]
  have hbne : ¬ base = 0 := by omega
  have hnb : n * base <= 1099511627776 * 16 := Nat.mul_le_mul (by omega) hb2
  refine ⟨?_, fun a' h => ?_⟩
  ·by_cases h1 : (hexv s[k]:Int) > (m:Int)
   ·have h2 : ¬ n * base + hexv s[k] <= m := by omega
    simp [q31.L6.t, Tr.val, zju, hk, h1, h2]
   ·have h3 : IntKind.i64.wrap ((m:Int) - (hexv s[k]:Int)) = (m:Int) - (hexv s[k]:Int) := w64 (by omega) (by omega)
    have h4 := zku (n := n) (base := base) (d := hexv s[k]) (m := m) (by omega) (by omega)
    have h5 : IntKind.i64.wrap (((m:Int) - (hexv s[k]:Int)).tdiv (base:Int)) = ((m:Int) - (hexv s[k]:Int)).tdiv (base:Int) := by
     have h6 : ((m:Int) - (hexv s[k]:Int)) = ((m - hexv s[k]:Nat):Int) := by omega
     rw [h6]
     have h7 : ((m - hexv s[k]:Nat):Int).tdiv (base:Int) = (((m - hexv s[k]) / base:Nat):Int) := rfl
     rw [h7]
     have h8 := Nat.div_le_self (m - hexv s[k]) base
     clear h4 h6 h7
     generalize (m - hexv s[k]) / base = q at h8 ⊢
     exact w64 (by omega) (by omega)
    have h6 : IntKind.i64.wrap ((n:Int) * (base:Int)) = ((n * base:Nat):Int) := by
     rw [show ((n:Int) * (base:Int)) = ((n * base:Nat):Int) from by simp]
     have h8 : n * base <= 17592186044416 := by omega
     clear h4 h5 h3
     generalize n * base = q at h8 ⊢
     exact w64 (by omega) (by omega)
    have h7 : IntKind.i64.wrap (((n * base:Nat):Int) + (hexv s[k]:Int)) = ((n * base + hexv s[k]:Nat):Int) := by
     clear h4 h5 h3
     have h8 : n * base <= 17592186044416 := by omega
     generalize n * base = q at h8 ⊢
     rw [w64 (by omega) (by omega)]; simp
    by_cases h8 : n * base + hexv s[k] <= m
    ·have h9 : ¬ m < n * base + hexv s[k] := by omega
     rw [decide_eq_false h9] at h4
     simp only [q31.L6.t, Tr.val, zj6 hk rfl, zju, h3, h5, h4, h6, h7, hw, decide_eq_false h1, zj1 hk, if_pos h8, zjn, decide_eq_true hk, cond_true, cond_false, if_true, and_self]
     simp [hbne]
    ·have h9 : m < n * base + hexv s[k] := by omega
     rw [decide_eq_true h9] at h4
     simp only [q31.L6.t, Tr.val, zj6 hk rfl, zju, h3, h5, h4, h6, h7, hw, decide_eq_false h1, zj1 hk, if_neg h8, zjn, decide_eq_true hk, cond_true, cond_false, if_true, and_self]
     simp [hbne]
  ·split at h
   ·cases h; assumption
   ·cases h
 ·intro n _
  simp [q31.L6.t, Tr.val]
 ·congr 1
  have : ∀ (l : List UInt8) (n:Nat), n <= m -> zj2 (fun n c => if n * base + hexv c <= m then (.inl (n * base + hexv c) : Nat ⊕ (Int ⊕ (Int × Int))) else .inr (.inr (0, 23))) (fun n => Sum.inl ((n:Nat):Int)) n l = if valN base n l <= m then .inl ((valN base n l:Nat):Int) else .inr (0, 23) := by
   intro l
   induction l with
   | nil => intro n h; simp [zj2, valN, h]
   | cons c l ih =>
    intro n h
    rw [zj2, zk6]
    by_cases h8 : n * base + hexv c <= m
    ·rw [if_pos h8]; exact ih _ h8
    ·rw [if_neg h8]
     have := zk7 (base := base) (by omega) l (n * base + hexv c)
     rw [if_neg (by omega)]
  exact this s 0 (Nat.zero_le _)
theorem zkw (most:Int) : mx2 most 0 = ((max most 0).toNat:Int) := by
 unfold mx2
 simp
 omega
theorem zkx {base : Nat} {kind most : Int} {s : List UInt8} (hk : ∀ c, zji kind c = zk5 base c) (hb : 2 <= base) (hb2 : base <= 16) (hm : most <= 1099511627776) (hn : s.length < 1125899906842624) :
  q31.f s (base:Int) most kind = some (numS base most s) := by
 unfold q31.f q31.t numS
 rw [zkt hn, zkw, zkv hb hb2 (by omega) hn]
 have e : s.all (zji kind) = s.all (zk5 base) := by congr 1; funext c; exact hk c
 rw [e]
 by_cases h0 : s = []
 ·subst h0; simp [Tr.val]
 ·have h1 : (s == []) = false := by simpa using h0
  cases h2 : s.all (zk5 base) with
  | false => simp [Tr.val, h0]
  | true =>
   by_cases h3 : valN base 0 s <= (max most 0).toNat
   ·have h4 : (valN base 0 s:Int) <= max most 0 := by omega
    simp only [Tr.val, h1, if_pos h3, if_pos h4, cond_false, Bool.not_true]; simp [h0]
   ·have h4 : ¬ (valN base 0 s:Int) <= max most 0 := by omega
    simp only [Tr.val, h1, if_neg h3, if_neg h4, cond_false, Bool.not_true]; simp [h0]
theorem zky {most : Int} {s : List UInt8} (hm : most <= 1099511627776) (hn : s.length < 1125899906842624) : q2v.f s most = some (numS 10 most s) := by
 unfold q2v.f q2v.t
 rw [show (10:Int) = ((10:Nat):Int) from rfl, zkx (fun c => by simp [zji, zk8]) (by decide) (by decide) hm hn]
 simp [Tr.val]
theorem zkz {s : List UInt8} (hn : s.length < 1125899906842624) : qc7.L1.f s = some (s.dropWhile zjd) := by
 unfold qc7.L1.f
 refine zjy (p := zjd) ?_ ?_ hn
 ·simp [qc7.L1.t, Tr.val]
 ·intro c l _
  cases h : zjd c <;> simp [qc7.L1.t, Tr.val, zjr, h] <;> omega
theorem zl0 {l : List UInt8} {c : UInt8} (hn : l.length < 1125899906842624) : IntKind.i64.wrap (((l ++ [c]).length:Int) - 1) = (l.length:Int) := by
 rw [List.length_append]
 simp only [List.length_cons, List.length_nil]
 rw [w64 (by omega) (by omega)]
 omega
theorem zl1 {s : List UInt8} (hn : s.length < 1125899906842624) : qc7.L3.f s = some (zjz zjd s) := by
 unfold qc7.L3.f
 refine zk2 (p := zjd) ?_ ?_ hn
 ·simp [qc7.L3.t, Tr.val]
 ·intro l c hl
  have h1 := zl0 (l := l) (c := c) (by omega)
  have h2 : ((l ++ [c]) == []) = false := by simp
  have h3 : (l ++ [c]).getD l.length 0 = c := by simp
  unfold qc7.L3.t
  rw [h1]
  simp only [Tr.val, h2, Int.toNat_natCast, h3, zjr]
  cases h : zjd c <;> simp <;> omega
theorem zl2 {s : List UInt8} (hn : s.length < 1125899906842624) : qby.f s = some (trim s) := by
 unfold qby.f qby.t qc7.f qc7.t trim zkc
 rw [zkz hn]
 have := (List.dropWhile_sublist zjd (l := s)).length_le
 simp only [Tr.val, zl1 (s := List.dropWhile zjd s) (by omega)]
theorem zl3 {s : List UInt8} {k : Nat} (hk : k < s.length) (b:UInt8) : ((s.take k).map zjh ++ s.drop k).set k b = (s.take k).map zjh ++ b :: s.drop (k + 1) := by
 rw [List.set_append_right _ _ (by simp; omega)]
 have e : k - ((s.take k).map zjh).length = 0 := by simp; omega
 rw [e, List.drop_eq_getElem_cons hk]
 rfl
theorem zl4 {s : List UInt8} {k : Nat} (hk : k < s.length) : (s.take (k + 1)).map zjh ++ s.drop (k + 1) = (s.take k).map zjh ++ zjh s[k] :: s.drop (k + 1) := by
 rw [List.take_add_one, List.getElem?_eq_getElem hk, List.map_append, List.append_assoc]
 rfl
theorem zl5 {s : List UInt8} {k : Nat} (hk : k < s.length) : ((s.take k).map zjh ++ s.drop k).getD k 0 = s[k] := by
 rw [List.getD_eq_getElem?_getD, List.getElem?_append_right (by simp; omega)]
 simp [Nat.min_eq_left (Nat.le_of_lt hk), hk]
theorem zl6 {s : List UInt8} {k : Nat} (hk : k <= s.length) : ((s.take k).map zjh ++ s.drop k).length = s.length := by
 simp; omega
theorem zl7 (c:UInt8) (h1 : (c.toNat:Int) ≥ 65) (h2 : (c.toNat:Int) <= 90) : IntKind.u8.wrap (IntKind.u8.wrap ((c.toNat:Int) + 97) - 65) = ((c.toNat + 32:Nat):Int) ∧ UInt8.ofNat (c.toNat + 32) = zjh c := by
 have := zj7 (p := fun c => !(decide ((c.toNat:Int) ≥ 65) && decide ((c.toNat:Int) <= 90)) || (decide (IntKind.u8.wrap (IntKind.u8.wrap ((c.toNat:Int) + 97) - 65) = ((c.toNat + 32:Nat):Int)) && (UInt8.ofNat (c.toNat + 32) == zjh c))) (by decide +kernel) c
 simpa [h1, h2] using this
theorem zl8 (c:UInt8) (h : ¬ ((c.toNat:Int) ≥ 65 ∧ (c.toNat:Int) <= 90)) : zjh c = c := by
 have := zj7 (p := fun c => (decide ((c.toNat:Int) ≥ 65) && decide ((c.toNat:Int) <= 90)) || (zjh c == c)) (by decide +kernel) c
 simpa [h] using this
theorem zl9 {s : List UInt8} (hn : s.length < 140737488355328) : qbs.f s = some (zkb s) := by
 have hL : qbs.L3.f s (s.length:Int) 0 = some (zkb s) := by
  unfold qbs.L3.f
  refine (zj4 (A := Unit) (a := ()) s (fun k _ => ((s.take k).map zjh ++ s.drop k, (k:Int))) (fun _ _ => True) (fun _ _ => .inl ()) (fun _ => zkb s) ?_ ?_ (by omega) trivial (by simp)).trans ?_
  ·intro k a c _ hk hc
   refine ⟨?_, fun _ _ => trivial⟩
   subst hc
   have hw := wS (k := k) (by omega)
   have ha := zl5 hk
   have hl := zl6 (Nat.le_of_lt hk)
   unfold qbs.L3.t
   simp only [Int.toNat_natCast, Nat.zero_add, ha, hl, zjn, decide_eq_true hk, hw, zl4 hk]
   by_cases h1 : (s[k].toNat:Int) ≥ 65
   ·by_cases h2 : (s[k].toNat:Int) <= 90
    ·obtain ⟨q1, q2⟩ := zl7 s[k] h1 h2
     rw [q1]
     simp only [Tr.val, h1, h2, decide_true, cond_true, Int.toNat_natCast, q2, zl3 hk, List.length_set, hl]
     simp [hk]
     omega
    ·have := zl8 s[k] (fun h => h2 h.2)
     simp only [Tr.val, h1, h2, decide_true, decide_false, cond_true, cond_false, this]
     simp [hk]
   ·have := zl8 s[k] (fun h => h1 h.1)
    simp only [Tr.val, h1, decide_true, decide_false, cond_true, cond_false, this]
    simp [hk]
  ·intro a _
   simp [qbs.L3.t, Tr.val, zkb]
  ·have : ∀ (l : List UInt8), zj2 (fun (_ : Unit) (_:UInt8) => (Sum.inl () : Unit ⊕ List UInt8)) (fun _ => zkb s) () l = zkb s := by
    intro l
    induction l with
    | nil => rfl
    | cons c l ih => exact ih
   rw [this]
 unfold qbs.f qbs.t
 rw [List.nil_append, hL]
 simp [Tr.val]
 omega
theorem zla {a b : List UInt8} (ha : a.length < 140737488355328) (hb : b.length < 140737488355328) : qbv.f a b = some (same a b) := by
 unfold qbv.f qbv.t
 rw [zl9 ha, zl9 hb]
 rfl
theorem zlb (c:UInt8) (s : List UInt8) : Lib.indexByte s c = if s.contains c = true then ((before c s).length:Int) else -1 := by
 by_cases h : s.contains c = true
 ·rw [if_pos h, zkj h]
 ·rw [if_neg h, zki (by simpa using h)]
end Pl
end Go.Vx
end
section
set_option maxRecDepth 100000
namespace Go.Vx
namespace Pl
open Go Go.Proofs
theorem zlc {most : Int} {s : List UInt8} (hm : most <= 1099511627776) (hn : s.length < 1125899906842624) : q2y.f s most = some (numS 16 most s) := by
 unfold q2y.f q2y.t
 rw [show (16:Int) = ((16:Nat):Int) from rfl, zkx (fun c => by simp [zji, zk9]) (by decide) (by decide) hm hn]
 simp [Tr.val]
theorem zld {α : Type} (l : List α) : List.take l.length (List.drop 0 l) = l := by simp
theorem zle (s : List UInt8) (c:UInt8) : q97.f s (c.toNat:Int) = some (if s.contains c = true then ((before c s).length:Int) else -1) := by
 unfold q97.f
 have : ((c.toNat:Int)).toNat.toUInt8 = c := by simp
 rw [this, zlb]
theorem zlf {c : UInt8} {s : List UInt8} (h : [c] = s) : s.contains c = true ∧ (before c s).length = 0 := by
 subst h; simp [before]
theorem zlg (s : List UInt8) : qaa.f s = some (if s.contains 32 = true then ((before 32 s).length:Int) else -1) := by
 unfold qaa.f qaa.t q1r.f q1r.t
 rw [show (32:Int) = ((32:UInt8).toNat:Int) from rfl, zle]
 by_cases h : [(32:UInt8)] = s
 ·have := zlf h
  simp only [Tr.val, beq_iff_eq.2 h, cond_true, this.1, this.2, if_true]
  rfl
 ·simp [Tr.val, beq_eq_false_iff_ne.2 h]
theorem zlh (s : List UInt8) : qad.f s = some (if s.contains 44 = true then ((before 44 s).length:Int) else -1) := by
 unfold qad.f qad.t q1u.f q1u.t
 rw [show (44:Int) = ((44:UInt8).toNat:Int) from rfl, zle]
 by_cases h : [(44:UInt8)] = s
 ·have := zlf h
  simp only [Tr.val, beq_iff_eq.2 h, cond_true, this.1, this.2, if_true]
  rfl
 ·simp [Tr.val, beq_eq_false_iff_ne.2 h]
theorem zli (s : List UInt8) : q1x.f s = some (if s.contains 58 = true then ((before 58 s).length:Int) else -1) := by
 unfold q1x.f q1x.t
 rw [show (58:Int) = ((58:UInt8).toNat:Int) from rfl, zle]
 by_cases h : [(58:UInt8)] = s
 ·have := zlf h
  simp only [Tr.val, beq_iff_eq.2 h, cond_true, this.1, this.2, if_true]
  rfl
 ·simp [Tr.val, beq_eq_false_iff_ne.2 h]
theorem zlj (s : List UInt8) : q23.f s = some (if s.contains 63 = true then ((before 63 s).length:Int) else -1) := by
 unfold q23.f q23.t
 rw [show (63:Int) = ((63:UInt8).toNat:Int) from rfl, zle]
 by_cases h : [(63:UInt8)] = s
 ·have := zlf h
  simp only [Tr.val, beq_iff_eq.2 h, cond_true, this.1, this.2, if_true]
  rfl
 ·simp [Tr.val, beq_eq_false_iff_ne.2 h]
def cutT (idx : Option Int) (s : List UInt8) : Tr (List UInt8 × List UInt8 × Bool) :=
 .call idx fun y1 =>
 .br (decide (y1 ≥ (0:Int))) (.chk ((0:Int) <= (0:Int) ∧ (0:Int) <= y1 ∧ y1 <= (↑s.length:Int))<|.chk ((0:Int) <= IntKind.i64.wrap (y1 + (1:Int)) ∧ IntKind.i64.wrap (y1 + (1:Int)) <= (↑s.length:Int) ∧ (↑s.length:Int) <= (↑s.length:Int))<|.ret (List.drop (↑(0:Nat):Int).toNat (List.take y1.toNat s), List.drop (IntKind.i64.wrap (y1 + (1:Int))).toNat (List.take (↑s.length:Int).toNat s), true))
 (.ret (s, [], false))
theorem zlk {c : UInt8} {s : List UInt8} (hn : s.length < 1125899906842624) : (cutT (some (if s.contains c = true then ((before c s).length:Int) else -1)) s).val = some (cutC c s) := by
 unfold cutC cutT
 by_cases h : s.contains c = true
 ·have hl := zkn h
  have hw := wS (k := (before c s).length) (by omega)
  simp only [if_pos h, Tr.val, hw, Int.toNat_natCast, zkl h]
  rw [if_pos (by omega), if_pos (by omega)]
  simp [zkm h]
 ·simp only [if_neg h]
  simp [Tr.val]
theorem zll {s : List UInt8} (hn : s.length < 1125899906842624) : q9g.f s = some (cutC 58 s) := by
 have h1 : q16.f s = some (cutC 58 s) := by
  unfold q16.f
  show (cutT (q1x.f s) s).val = _
  rw [zli, zlk hn]
 unfold q9g.f q9g.t
 rw [h1]; rfl
theorem zlm {s : List UInt8} (hn : s.length < 1125899906842624) : q9m.f s = some (cutC 63 s) := by
 have h1 : q1c.f s = some (cutC 63 s) := by
  unfold q1c.f
  show (cutT (q23.f s) s).val = _
  rw [zlj, zlk hn]
 unfold q9m.f q9m.t
 rw [h1]; rfl
theorem zln (s : List UInt8) : q9a.f s = some (s.contains 58) := by
 unfold q9a.f q9a.t qag.f qag.t
 rw [zli]
 cases h : s.contains 58 <;> simp [Tr.val]
def gsT (idx : List UInt8 -> Option Int) (va : List (List UInt8)) (s : List UInt8) (sepSave:Int) (n:Int) (i:Int) : Tr ((List (List UInt8) × List UInt8 × Int) ⊕ (List (List UInt8) × List UInt8 × Int)) :=
 .br (decide (i < n)) (.call (idx s) fun y1 =>
  .br (decide (y1 < (0:Int))) (.ok ((0:Nat) = (0:Nat) ∧ va.length = va.length) ⟨rfl, rfl⟩<|.ret (.inr (va, s, i)))
  (.chk ((0:Int) <= (0:Int) ∧ (0:Int) <= IntKind.i64.wrap (y1 + sepSave) ∧ IntKind.i64.wrap (y1 + sepSave) <= (↑s.length:Int))<|.chk ((0:Int) <= i ∧ i < (↑va.length:Int))<|.chk ((0:Nat) + i.toNat < va.length)<|.chk ((0:Int) <= IntKind.i64.wrap (y1 + (1:Int)) ∧ IntKind.i64.wrap (y1 + (1:Int)) <= (↑s.length:Int) ∧ (↑s.length:Int) <= (↑s.length:Int))<|.chk ((0:Nat) = (0:Nat) ∧ va.length = (va.set ((0:Nat) + i.toNat) (List.drop (↑(0:Nat):Int).toNat (List.take (IntKind.i64.wrap (y1 + sepSave)).toNat s))).length)<|.ret (.inl (va.set ((0:Nat) + i.toNat) (List.drop (↑(0:Nat):Int).toNat (List.take (IntKind.i64.wrap (y1 + sepSave)).toNat s)), List.drop (IntKind.i64.wrap (y1 + (1:Int))).toNat (List.take (↑s.length:Int).toNat s), IntKind.i64.wrap (i + (1:Int))))))
 (.ok ((0:Nat) = (0:Nat) ∧ va.length = va.length) ⟨rfl, rfl⟩<|.ret (.inr (va, s, i)))
theorem zlo {idx : List UInt8 -> Option Int} {c : UInt8} (hidx : ∀ s, idx s = some (if s.contains c = true then ((before c s).length:Int) else -1)) {va : List (List UInt8)} {s : List UInt8} {i n : Nat} (hi : i < n) (hv : i < va.length) (hvl : va.length < 1125899906842624) (hn : s.length < 1125899906842624) (h : s.contains c = true) :
  (gsT idx va s 0 (n:Int) (i:Int)).val = some (.inl (va.set i (before c s), after c s, ((i + 1:Nat):Int))) := by
 have hl := zkn h
 have hw := wS (k := (before c s).length) (by omega)
 have hw0 : IntKind.i64.wrap (((before c s).length:Int) + 0) = ((before c s).length:Int) := w64 (by omega) (by omega)
 have hwi := wS (k := i) (by omega)
 unfold gsT
 rw [hidx]
 have hneg : ¬ ((before c s).length:Int) < 0 := by omega
 simp only [if_pos h, Tr.val, hw, hw0, hwi, Int.toNat_natCast, Nat.zero_add, zkl h, decide_eq_false hneg, zjn, decide_eq_true hi, cond_true, cond_false, List.length_set]
 rw [if_pos (by omega), if_pos (by omega), if_pos hv, if_pos (by omega), if_pos (by simp)]
 simp [zkm h]
theorem zlp {idx : List UInt8 -> Option Int} {c : UInt8} (hidx : ∀ s, idx s = some (if s.contains c = true then ((before c s).length:Int) else -1)) {n : Nat} : ∀ (k:Nat) (va : List (List UInt8)) (s : List UInt8) (i m:Nat), s.count c = k -> va.length = n + 1 -> i + k = n -> va.length < 1125899906842624 -> s.length < 1125899906842624 -> k < m ->
  ∃ va' s', iter (fun z : List (List UInt8) × List UInt8 × Int => gsT idx z.1 z.2.1 0 (n:Int) z.2.2) m (va, s, (i:Int)) = some (va', s', (n:Int)) ∧ va'.length = n + 1 ∧ va'.set n s' = va.take i ++ zke c s := by
 intro k
 induction k with
 | zero =>
  intro va s i m hc hv hi hvl hn hm
  have hns : s.contains c = false := by
   have := List.count_eq_zero.1 hc
   simpa using this
  have hin : i = n := by omega
  subst hin
  obtain ⟨m, rfl⟩ : ∃ m', m = m' + 1 := ⟨m - 1, by omega⟩
  refine ⟨va, s, ?_, hv, ?_⟩
  ·rw [iter]
   simp [gsT, Tr.val]
  ·rw [zko hns]
   apply List.ext_getElem?
   intro j
   rw [List.getElem?_set]
   rcases Nat.lt_trichotomy j i with h | h | h
   ·rw [if_neg (by omega), List.getElem?_append_left (by simp; omega), List.getElem?_take_of_lt h]
   ·subst h
    have ht : (va.take j).length = j := by simp; omega
    rw [if_pos rfl, if_pos (by omega), List.getElem?_append_right (by omega), ht, Nat.sub_self]
    rfl
   ·rw [if_neg (by omega), List.getElem?_eq_none (by omega), List.getElem?_eq_none (by simp; omega)]
 | succ k ih =>
  intro va s i m hc hv hi hvl hn hm
  have hs : s.contains c = true := by
   have : 0 < s.count c := by omega
   have := List.count_pos_iff.1 this
   simpa using this
  obtain ⟨m, rfl⟩ : ∃ m', m = m' + 1 := ⟨m - 1, by omega⟩
  have hl := zkn hs
  have hcnt : (after c s).count c = k := by
   have h1 := zkr c s.length s (Nat.le_refl _)
   have h2 := zkr c (after c s).length (after c s) (Nat.le_refl _)
   rw [zkp hs, List.length_cons] at h1
   omega
  obtain ⟨va', s', h1, h2, h3⟩ := ih (va.set i (before c s)) (after c s) (i + 1) m hcnt (by simpa using hv) (by omega) (by simpa using hvl) (by omega) (by omega)
  refine ⟨va', s', ?_, h2, ?_⟩
  ·rw [iter]
   simp only [zlo hidx (show i < n by omega) (show i < va.length by omega) hvl hn hs]
   exact h1
  ·rw [h3, zkp hs]
   have : (va.set i (before c s)).take (i + 1) = va.take i ++ [before c s] := by
    have ht : (va.take i).length = i := by simp; omega
    rw [List.take_set, List.take_add_one, List.getElem?_eq_getElem (show i < va.length by omega), List.set_append_right _ _ (by omega), ht, Nat.sub_self]
    rfl
   rw [this, List.append_assoc]
   rfl
end Pl
end Go.Vx
end
section
set_option maxRecDepth 100000
namespace Go.Vx
namespace Pl
open Go Go.Proofs
def zlq (idx : List UInt8 -> Option Int) (cnt : Option Int) (s : List UInt8) : Tr (List (List UInt8)) :=
 .call cnt fun y1 =>
  .chk ((0:Int) <= mn2 (IntKind.i64.wrap (y1 + (1:Int))) (IntKind.i64.wrap ((↑s.length:Int) + (1:Int))) ∧ mn2 (IntKind.i64.wrap (y1 + (1:Int))) (IntKind.i64.wrap ((↑s.length:Int) + (1:Int))) <= mn2 (IntKind.i64.wrap (y1 + (1:Int))) (IntKind.i64.wrap ((↑s.length:Int) + (1:Int))) ∧ mn2 (IntKind.i64.wrap (y1 + (1:Int))) (IntKind.i64.wrap ((↑s.length:Int) + (1:Int))) * (↑(16:Nat):Int) <= (140737488355328:Int) ∧ mn2 (IntKind.i64.wrap (y1 + (1:Int))) (IntKind.i64.wrap ((↑s.length:Int) + (1:Int))) <= (140737488355328:Int))<|.chk ((0:Nat) = (0:Nat) ∧ (mn2 (IntKind.i64.wrap (y1 + (1:Int))) (IntKind.i64.wrap ((↑s.length:Int) + (1:Int)))).toNat = (List.replicate (mn2 (IntKind.i64.wrap (y1 + (1:Int))) (IntKind.i64.wrap ((↑s.length:Int) + (1:Int)))).toNat ([] : List UInt8)).length)<|.call (Loop (fun z : List (List UInt8) × List UInt8 × Int => gsT idx z.1 z.2.1 0 (IntKind.i64.wrap (mn2 (IntKind.i64.wrap (y1 + (1:Int))) (IntKind.i64.wrap ((↑s.length:Int) + (1:Int))) - (1:Int))) z.2.2) ((List.replicate (mn2 (IntKind.i64.wrap (y1 + (1:Int))) (IntKind.i64.wrap ((↑s.length:Int) + (1:Int)))).toNat ([] : List UInt8)), s, (0:Int))) fun y2 =>
  .chk ((0:Int) <= y2.snd.snd ∧ y2.snd.snd < (↑y2.fst.length:Int))<|.chk ((0:Nat) + y2.snd.snd.toNat < y2.fst.length)<|.chk ((0:Int) <= (0:Int) ∧ (0:Int) <= IntKind.i64.wrap (y2.snd.snd + (1:Int)) ∧ IntKind.i64.wrap (y2.snd.snd + (1:Int)) <= (↑y2.fst.length:Int))<|.chk ((0:Nat) = (0:Nat) ∧ (IntKind.i64.wrap (y2.snd.snd + (1:Int)) - (↑(0:Nat):Int)).toNat = (y2.fst.set ((0:Nat) + y2.snd.snd.toNat) y2.snd.fst).length)<|.ret (y2.fst.set ((0:Nat) + y2.snd.snd.toNat) y2.snd.fst)
theorem zlr {idx : List UInt8 -> Option Int} {c : UInt8} (hidx : ∀ s, idx s = some (if s.contains c = true then ((before c s).length:Int) else -1)) {s : List UInt8} (hn : s.length <= 1099511627776) :
  (zlq idx (some ((s.count c:Nat):Int)) s).val = some (zke c s) := by
 have hcl : s.count c <= s.length := List.count_le_length
 have e1 := wS (k := s.count c) (by omega)
 have e2 := wS (k := s.length) (by omega)
 have e3 : mn2 (((s.count c + 1:Nat):Int)) (((s.length + 1:Nat):Int)) = ((s.count c + 1:Nat):Int) := by rw [z1i]; omega
 have e4 : IntKind.i64.wrap (((s.count c + 1:Nat):Int) - 1) = ((s.count c:Nat):Int) := by rw [w64 (by omega) (by omega)]; omega
 obtain ⟨va, s', h1, h2, h3⟩ := zlp hidx (n := s.count c) (s.count c) (List.replicate (s.count c + 1) []) s 0 rounds rfl (by simp) (by omega) (by simp; omega) (by omega) (by unfold rounds; omega)
 have hL : Loop (fun z : List (List UInt8) × List UInt8 × Int => gsT idx z.1 z.2.1 0 ((s.count c:Nat):Int) z.2.2) (List.replicate (s.count c + 1) [], s, 0) = some (va, s', ((s.count c:Nat):Int)) := h1
 unfold zlq
 simp only [Tr.val, e1, e2, e3, e4, Int.toNat_natCast, hL, Nat.zero_add, h2, List.length_set, List.length_replicate]
 rw [if_pos (by omega), if_pos (by simp), if_pos (by omega), if_pos (by omega), if_pos (by omega), if_pos (by simp), h3]
 simp
theorem zls {s : List UInt8} (hn : s.length <= 1099511627776) : qaj.f s = some (zke 32 s) := by
 have h : qav.f s 0 (-1) = some (zke 32 s) := by
  rw [← zlr zlg hn]; rfl
 unfold qaj.f qaj.t
 rw [h]; rfl
theorem zlt {s : List UInt8} (hn : s.length <= 1099511627776) : qam.f s = some (zke 44 s) := by
 have h : qay.f s 0 (-1) = some (zke 44 s) := by
  rw [← zlr zlh hn]; rfl
 unfold qam.f qam.t
 rw [h]; rfl
theorem zlu {c : UInt8} : ∀ (n:Nat) {s : List UInt8}, s.length <= n -> ∀ x ∈ zke c s, x.length <= s.length
 | 0, s, h, x, hx => by
  have : s = [] := List.length_eq_zero_iff.1 (by omega)
  subst this
  simp [zke] at hx
  subst hx
  simp
 | n + 1, s, h, x, hx => by
  by_cases hc : s.contains c = true
  ·have hl := zkn hc
   rw [zkp hc] at hx
   rcases List.mem_cons.1 hx with rfl | hx
   ·omega
   ·have := zlu n (show (after c s).length <= n by omega) x hx
    omega
  ·rw [zko (by simpa using hc)] at hx
   simp at hx
   subst hx
   exact Nat.le_refl _
def Fit (N:Nat) (l : List (List UInt8)) : Prop := ∀ x ∈ l, x.length <= N
theorem zlv {α β : Type} (g : α -> List β) : ∀ (l : List α) (out : List β), zj2 (fun out x => (Sum.inl (out ++ g x) : List β ⊕ List β)) id out l = out ++ l.flatMap g
 | [], out => by simp [zj2]
 | x :: l, out => by
  show zj2 (fun out x => (Sum.inl (out ++ g x) : List β ⊕ List β)) id (out ++ g x) l = _
  rw [zlv g l]; simp
theorem zlw {α β : Type} (g : α -> β) (l : List α) : (l.flatMap fun x => [g x]) = l.map g := by
 induction l with
 | nil => rfl
 | cons x l ih => simp [ih]
theorem zlx {values out t15 : List (List UInt8)} (h1 : Fit 1099511627776 t15) (h2 : out.length + t15.length <= 4398046511104) : qbp.L6.f values out t15 (t15.length:Int) 0 = some (out ++ t15.map trim) := by
 unfold qbp.L6.f
 refine (zj4 (A := List (List UInt8)) (a := out) t15 (fun k o => (o, (k:Int))) (fun k o => o.length = out.length + k) (fun o x => .inl (o ++ [trim x])) id ?_ ?_ (by omega) (by simp) rfl).trans ?_
 ·intro k o x ho hk hx
  have hw := wS (k := k) (by omega)
  have hx' : x.length < 1125899906842624 := by
   have := h1 x (by rw [← hx]; exact List.getElem_mem hk)
   omega
  refine ⟨?_, fun a' h => by cases h; simp [ho]; omega⟩
  unfold qbp.L6.t
  simp only [Nat.zero_add, zj6 hk hx, zl2 hx', Tr.val, zjn, decide_eq_true hk, cond_true, zld, hw]
  rw [if_pos (by omega), if_pos (by simpa using hk), if_pos (by omega), if_pos (by omega), if_pos (by simp)]
 ·intro o _
  simp [qbp.L6.t, Tr.val]
 ·congr 1
  have := zlv (fun x => [trim x]) t15 out
  rw [this, zlw]
theorem zly {values : List (List UInt8)} (h1 : Fit 1099511627776 values) (h2 : (zkf values).length <= 4398046511104) (h3 : values.length <= 4398046511104) : qbp.f values = some (zkf values) := by
 have hL : qbp.L3.f values [] (values.length:Int) 0 = some (zkf values) := by
  unfold qbp.L3.f
  refine (zj4 (A := List (List UInt8)) (a := []) values (fun k o => (o, (k:Int))) (fun k o => o = zkf (values.take k)) (fun o x => .inl (o ++ (zke 44 x).map trim)) id ?_ ?_ (by omega) (by simp [zkf]) rfl).trans ?_
  ·intro k o x ho hk hx
   have hw := wS (k := k) (by omega)
   have hx' : x.length <= 1099511627776 := h1 x (by rw [← hx]; exact List.getElem_mem hk)
   have hnext : zkf (values.take (k + 1)) = o ++ (zke 44 x).map trim := by
    rw [ho, List.take_add_one, List.getElem?_eq_getElem hk, hx]
    unfold zkf
    rw [List.flatMap_append]
    simp
   have hle : o.length + (zke 44 x).length <= 4398046511104 := by
    have e1 : (zkf (values.take (k + 1))).length <= (zkf values).length := by
     conv => rhs; rw [← List.take_append_drop (k + 1) values]
     unfold zkf
     rw [List.flatMap_append, List.length_append]
     omega
    rw [hnext] at e1
    simp at e1
    omega
   refine ⟨?_, fun a' h => by cases h; exact hnext.symm⟩
   have hfit : Fit 1099511627776 (zke 44 x) := fun y hy => by
    have := zlu x.length (Nat.le_refl _) y hy
    omega
   unfold qbp.L3.t
   simp only [Nat.zero_add, zj6 hk hx, zlt hx', zlx hfit hle, Tr.val, zjn, decide_eq_true hk, cond_true, hw]
   rw [if_pos (by omega), if_pos (by simpa using hk)]
  ·intro o _
   simp [qbp.L3.t, Tr.val]
  ·congr 1
   have := zlv (fun x => (zke 44 x).map trim) values []
   rw [this]
   rfl
 unfold qbp.f qbp.t
 rw [hL]; rfl
theorem zlz {l : List (List UInt8 × List UInt8)} {name : List UInt8} (h1 : ∀ f ∈ l, f.1.length < 140737488355328) (hname : name.length < 140737488355328) (h2 : l.length <= 4398046511104) : qbm.f l name = some (zkg l name) := by
 have hL : qbm.L3.f l [] name (l.length:Int) 0 = some (zkg l name) := by
  unfold qbm.L3.f
  refine (zj4 (A := List (List UInt8)) (a := []) l (fun k o => (o, (k:Int))) (fun k o => o.length <= k) (fun o x => .inl (o ++ if same x.1 name = true then [x.2] else [])) id ?_ ?_ (by omega) (by simp) rfl).trans ?_
  ·intro k o x ho hk hx
   have hw := wS (k := k) (by omega)
   have hx' := h1 x (by rw [← hx]; exact List.getElem_mem hk)
   refine ⟨?_, fun a' h => by cases h; split <;> simp <;> omega⟩
   unfold qbm.L3.t
   simp only [Nat.zero_add, zj6 hk hx, zla hx' hname, Tr.val, zjn, decide_eq_true hk, cond_true, zld, hw]
   rw [if_pos (by omega), if_pos (by simpa using hk)]
   cases hs : same x.1 name with
   | true =>
    simp only [cond_true, if_true]
    rw [if_pos (by omega), if_pos (by omega), if_pos (by simp)]
   | false => simp
  ·intro o _
   simp [qbm.L3.t, Tr.val]
  ·congr 1
   rw [zlv]
   unfold zkg
   clear h1 h2
   induction l with
   | nil => rfl
   | cons x l ih =>
    simp only [List.nil_append, List.flatMap_cons] at ih ⊢
    rw [ih, List.filter_cons]
    split <;> simp
 unfold qbm.f qbm.t
 rw [hL]; rfl
def zm0 : List UInt8 -> Nat ⊕ (Unit ⊕ Bool)
 | a :: b :: _ => if (zjg a && zjg b) = true then .inl 3 else .inr (.inr false)
 | _ => .inr (.inr false)
def zm1 (others : List UInt8) (pct:Bool) : List UInt8 -> Nat ⊕ (Unit ⊕ Bool)
 | [] => .inr (.inl ())
 | c :: l => if (zja c || zj9 c || others.contains c) = true then .inl 1 else if (pct && c == 37) = true then zm0 l else .inr (.inr false)
theorem zm2 (others : List UInt8) (pct:Bool) (c:UInt8) (l : List UInt8) : zkh others pct (c :: l) = if (zja c || zj9 c || others.contains c) = true then zkh others pct l else if (pct && c == 37) = true then (match l with
  | a :: b :: l' => zjg a && zjg b && zkh others pct l'
  | _ => false)
 else false := by
 cases l with
 | nil => simp [zkh]
 | cons a l =>
  cases l with
  | nil => simp [zkh]
  | cons b l => rw [zkh]
theorem zm3 {others : List UInt8} {pct : Bool} {l : List UInt8} {j : Nat} (h : zm1 others pct l = .inl j) : 0 < j ∧ j <= l.length := by
 cases l with
 | nil => simp [zm1] at h
 | cons c l =>
  unfold zm1 at h
  simp only at h
  by_cases h1 : (zja c || zj9 c || others.contains c) = true
  ·rw [if_pos h1] at h
   cases h
   simp
  ·rw [if_neg h1] at h
   by_cases h2 : (pct && c == 37) = true
   ·rw [if_pos h2] at h
    cases l with
    | nil => cases h
    | cons a l =>
     cases l with
     | nil => cases h
     | cons b l =>
      simp only [zm0] at h
      by_cases h3 : (zjg a && zjg b) = true
      ·rw [if_pos h3] at h
       cases h
       simp
      ·rw [if_neg h3] at h
       cases h
   ·rw [if_neg h2] at h
    cases h
theorem zm4 (others : List UInt8) (pct:Bool) (l : List UInt8) : (if zkh others pct l = true then (Sum.inl () : Unit ⊕ Bool) else .inr false) = goOn (fun l => if zkh others pct l = true then (Sum.inl () : Unit ⊕ Bool) else .inr false) l (zm1 others pct l) := by
 cases l with
 | nil => rfl
 | cons c l =>
  rw [zm2]
  unfold zm1
  by_cases h1 : (zja c || zj9 c || others.contains c) = true
  ·simp only [if_pos h1, goOn, List.drop_succ_cons, List.drop_zero]
  ·simp only [if_neg h1]
   by_cases h2 : (pct && c == 37) = true
   ·simp only [if_pos h2]
    cases l with
    | nil => rfl
    | cons a l =>
     cases l with
     | nil => rfl
     | cons b l =>
      by_cases h3 : (zjg a && zjg b) = true
      ·simp only [zm0, if_pos h3, goOn, h3, Bool.true_and]
       rfl
      ·simp only [zm0, if_neg h3, goOn, (by simpa using h3 : (zjg a && zjg b) = false), Bool.false_and]
       rfl
   ·simp only [if_neg h2]
    rfl
theorem zm5 (c:UInt8) : ((decide (IntKind.u8.wrap (↑(BitVec.ofInt IntKind.u8.bits (c.toNat:Int) ||| BitVec.ofInt IntKind.u8.bits (32:Int)).toNat:Int) ≥ (97:Int))) && (decide (IntKind.u8.wrap (↑(BitVec.ofInt IntKind.u8.bits (c.toNat:Int) ||| BitVec.ofInt IntKind.u8.bits (32:Int)).toNat:Int) <= (122:Int)))) = zj9 c := by
 have := zj7 (p := fun c => ((decide (IntKind.u8.wrap (↑(BitVec.ofInt IntKind.u8.bits (c.toNat:Int) ||| BitVec.ofInt IntKind.u8.bits (32:Int)).toNat:Int) ≥ (97:Int))) && (decide (IntKind.u8.wrap (↑(BitVec.ofInt IntKind.u8.bits (c.toNat:Int) ||| BitVec.ofInt IntKind.u8.bits (32:Int)).toNat:Int) <= (122:Int)))) == zj9 c) (by decide +kernel) c
 simpa using this
theorem zm6 (s : List UInt8) (c:UInt8) : qa4.f s (c.toNat:Int) = some (if s.contains c = true then ((before c s).length:Int) else -1) := by
 unfold qa4.f qa4.t
 rw [zle]; rfl
theorem zm7 {s : List UInt8} {i : Nat} {c a b : UInt8} {l : List UInt8} (h : s.drop i = c :: a :: b :: l) : List.drop (i + 1) (List.take (i + 3) s) = [a, b] := by
 have : List.drop (i + 1) (List.take (i + 3) s) = ((s.drop i).take 3).drop 1 := by
  rw [List.take_drop, List.drop_drop]
 rw [this, h]
 rfl
theorem zm8 {s others : List UInt8} {pct : Bool} (hn : s.length < 1125899906842000) : qbg.f s others pct = some (zkh others pct s) := by
 have hL : qbg.L2.f s others pct 0 = some (if zkh others pct s = true then .inl () else .inr false) := by
  unfold qbg.L2.f
  refine zk4 s (zm1 others pct) (fun l => if zkh others pct l = true then .inl () else .inr false) (zm4 others pct) ?_ ?_ (by omega)
  ·exact fun l j h => zm3 h
  ·intro i hi
   by_cases hk : i < s.length
   ·have e := List.drop_eq_getElem_cons hk
    have hlen := congrArg List.length e
    simp only [List.length_drop, List.length_cons] at hlen
    have hw1 := wS (k := i) (by omega)
    have hw2 : IntKind.i64.wrap ((i:Int) + 2) = ((i + 2:Nat):Int) := by rw [w64 (by omega) (by omega)]; omega
    have hw3 : IntKind.i64.wrap ((i:Int) + 3) = ((i + 3:Nat):Int) := by rw [w64 (by omega) (by omega)]; omega
    have hw4 : IntKind.i64.wrap (((i + 2:Nat):Int) + 1) = ((i + 3:Nat):Int) := by rw [w64 (by omega) (by omega)]; omega
    have hlet := zm5 s[i]
    rw [e]
    unfold qbg.L2.t zm1
    simp only [zj6 hk rfl, zjo, zm6, Tr.val, zjn, decide_eq_true hk, cond_true, zj1 hk, if_true, hw1, hw2, hw3, hw4, and_self]
    generalize hA : decide (IntKind.u8.wrap (↑(BitVec.ofInt IntKind.u8.bits (s[i].toNat:Int) ||| BitVec.ofInt IntKind.u8.bits (32:Int)).toNat:Int) ≥ (97:Int)) = A at hlet ⊢
    generalize hB : decide (IntKind.u8.wrap (↑(BitVec.ofInt IntKind.u8.bits (s[i].toNat:Int) ||| BitVec.ofInt IntKind.u8.bits (32:Int)).toNat:Int) <= (122:Int)) = B at hlet ⊢
    rw [← hlet]
    have h37 : ((s[i].toNat:Int) == 37) = (s[i] == 37) := zj0 s[i] 37 (by decide) (by decide)
    rw [h37]
    have hidx : decide ((if others.contains s[i] = true then ((before s[i] others).length:Int) else -1) ≥ 0) = others.contains s[i] := by
     cases others.contains s[i] <;> simp
    rw [hidx]
    have hP : (bif decide (i + 2 < s.length) then (if (0:Int) <= ((i + 1:Nat):Int) ∧ ((i + 1:Nat):Int) <= ((i + 3:Nat):Int) ∧ ((i + 3:Nat):Int) <= (s.length:Int) then (Tr.call (q34.f [5] (List.drop (Int.toNat ((i + 1:Nat):Int)) (List.take (Int.toNat ((i + 3:Nat):Int)) s))) fun y => Tr.br y (Tr.ret (Sum.inl ((i + 3:Nat):Int))) (Tr.ret (Sum.inr (Sum.inr false)))).val else none) else some (Sum.inr (Sum.inr false) : Int ⊕ (Unit ⊕ Bool))) = some (zk3 i (zm0 (s.drop (i + 1)))) := by
     by_cases h2 : i + 2 < s.length
     ·obtain ⟨a, b, l, hd⟩ : ∃ a b l, s.drop (i + 1) = a :: b :: l := by
       have e1 := List.drop_eq_getElem_cons (show i + 1 < s.length by omega)
       have e2 := List.drop_eq_getElem_cons (show i + 1 + 1 < s.length by omega)
       exact ⟨_, _, _, by rw [e1, e2]⟩
      have hd2 := zm7 (show s.drop i = s[i] :: a :: b :: l by rw [e, hd])
      rw [decide_eq_true h2, cond_true, if_pos (by omega), Int.toNat_natCast, Int.toNat_natCast, hd2, hd, zkt (by simp)]
      have k5 : ∀ c, zji 5 c = zjg c := fun c => by simp [zji]
      simp only [List.all_cons, List.all_nil, Bool.and_true, k5, Tr.val]
      rw [zm0]
      cases h3 : (zjg a && zjg b) <;> rfl
     ·rw [decide_eq_false h2, cond_false]
      have : (s.drop (i + 1)).length <= 1 := by simp; omega
      cases hd : s.drop (i + 1) with
      | nil => rfl
      | cons a l =>
       cases l with
       | nil => rfl
       | cons b l => rw [hd] at this; simp at this
    cases zja s[i] <;> cases A <;> cases B <;> cases others.contains s[i] <;> cases pct <;> cases (s[i] == 37) <;> (try simp only [decide_true, cond_true, cond_false, Bool.false_or, Bool.or_false, Bool.true_or, Bool.or_true, Bool.and_true, Bool.true_and, Bool.and_false, Bool.false_and, if_true, Bool.false_eq_true, if_false]) <;> (first | rfl | exact hP)
   ·have hkl : i = s.length := by omega
    subst hkl
    simp [qbg.L2.t, Tr.val, zm1, zk3]
 unfold qbg.f qbg.t
 rw [hL]
 cases zkh others pct s <;> rfl
end Pl
end Go.Vx
end
section
set_option maxRecDepth 100000
namespace Go.Vx
namespace Pl
open Go Go.Proofs
def zm9 : List UInt8 := [45, 46, 95, 126]
def zma : List UInt8 := [45, 46, 95, 126, 33, 36, 38, 39, 40, 41, 42, 43, 44, 59, 61, 58, 64, 47]
def zmb : List UInt8 := [45, 46, 95, 126, 33, 36, 38, 39, 40, 41, 42, 43, 44, 59, 61, 58, 64, 47, 63]
def zmc (s : List UInt8) : Bool :=
 (if (cutC 58 s).2.2 = true then decide ((numS 10 65535 (cutC 58 s).2.1).2 = 0) && decide ((cutC 58 s).2.1.length <= 5) else true) && !((cutC 58 s).1 == []) && decide ((cutC 58 s).1.length <= 255) && zkh zm9 false (cutC 58 s).1
def zmd (c:UInt8) (s : List UInt8) : Bool := match s with
 | x :: _ => x == c
 | [] => false
def zme (s : List UInt8) : Bool := zmd 47 s && zkh zma true s
def zmf (s : List UInt8) : Bool := zkh zmb true s
abbrev zmg := Int × List UInt8 × List UInt8 × List UInt8 × Bool × Int
def badT : zmg := (0, [], [], [], false, 400)
def zmh (form:Int) (host s : List UInt8) : zmg :=
 let path := if form = 2 ∧ (cutC 63 s).1 = [] then [47] else (cutC 63 s).1
 if zme path && zmf (cutC 63 s).2.1 then (form, host, path, (cutC 63 s).2.1, (cutC 63 s).2.2, 0) else badT
def zmi : List UInt8 := [104, 116, 116, 112, 58, 47, 47]
def zmj : List UInt8 := [67, 79, 78, 78, 69, 67, 84]
def zmk : List UInt8 := [79, 80, 84, 73, 79, 78, 83]
def zml (s : List UInt8) : List UInt8 := s.takeWhile fun c => !(c == 47 || c == 63)
def zmm (method s : List UInt8) : zmg :=
 if method = zmj then (if (zmc s && s.contains 58) = true then (3, s, [], [], false, 0) else badT)
 else if method = zmk ∧ s = [42] then (4, [], [], [], false, 0)
 else if zmd 47 s = true then zmh 1 [] s
 else if 7 <= s.length ∧ same (s.take 7) zmi = true then
  (if zmc (zml (s.drop 7)) = true then zmh 2 (zml (s.drop 7)) ((s.drop 7).drop (zml (s.drop 7)).length) else badT)
 else badT
theorem zmn {c : UInt8} {s : List UInt8} : (cutC c s).1.length <= s.length ∧ (cutC c s).2.1.length <= s.length := by
 unfold cutC
 by_cases h : s.contains c = true
 ·have := zkn h
  simp only [if_pos h]
  omega
 ·simp only [if_neg h]
  simp
theorem zmo {s : List UInt8} (hn : s.length < 1099511627776) : qb1.f s = some (zmc s) := by
 have hl := zmn (c := 58) (s := s)
 unfold qb1.f qb1.t zmc
 rw [zll (by omega), Tr.val_call rfl]
 generalize cutC 58 s = q at hl ⊢
 obtain ⟨n, p, has⟩ := q
 simp only at hl ⊢
 rw [zky (by omega) (by omega), zm8 (s := n) (by omega)]
 have e : ([(45:UInt8), (46:UInt8), (95:UInt8), (126:UInt8)]) = zm9 := rfl
 rw [e]
 generalize numS 10 65535 p = r
 obtain ⟨r1, r2⟩ := r
 have h255 : decide ((n.length:Int) <= 255) = decide (n.length <= 255) := by simp [decide_eq_decide]; omega
 have h5 : decide ((p.length:Int) > 5) = !decide (p.length <= 5) := by
  by_cases h : p.length <= 5
  ·simp [h]; omega
  ·simp [h]; omega
 have h0 : (r2 != 0) = !decide (r2 = 0) := by
  by_cases h : r2 = 0 <;> simp [h]
 simp only [Tr.val, h255, h5, h0]
 cases has <;> cases (n == []) <;> cases decide (n.length <= 255) <;> cases decide (r2 = 0) <;> cases decide (p.length <= 5) <;> simp
theorem zmp (s : List UInt8) : q9y.f s = some (zmd 47 s) := by
 have h1 : q1o.f s = some (zmd 47 s) := by
  unfold q1o.f q1o.t zmd
  cases s with
  | nil => simp [Tr.val]
  | cons x l =>
   have h : decide ((((x :: l).length:Nat):Int) ≥ 1) = true := by simp; omega
   simp only [Tr.val, h, cond_true]
   rw [if_pos (by simp; omega)]
   simp
 unfold q9y.f q9y.t
 rw [h1]; rfl
theorem zmq {s : List UInt8} (hn : s.length < 1099511627776) : qb7.f s = some (zme s) := by
 unfold qb7.f qb7.t zme
 rw [zmp, zm8 (by omega)]
 cases zmd 47 s <;> simp [Tr.val, zma]
theorem zmr {s : List UInt8} (hn : s.length < 1099511627776) : qba.f s = some (zmf s) := by
 unfold qba.f qba.t zmf
 rw [zm8 (by omega)]
 rfl
theorem zms {form : Int} {host s : List UInt8} (hn : s.length < 1099511627776) : qbd.f form host s = some (zmh form host s) := by
 have hl := zmn (c := 63) (s := s)
 unfold qbd.f qbd.t zmh
 rw [zlm (by omega), Tr.val_call rfl]
 generalize cutC 63 s = q at hl ⊢
 obtain ⟨n, p, has⟩ := q
 simp only at hl ⊢
 rw [zmq (s := n) (by omega), zmq (s := [47]) (by simp), zmr (s := p) (by omega)]
 by_cases h2 : form = 2
 ·have e2 : (form == 2) = true := by simpa using h2
  by_cases h0 : n = []
  ·subst h0
   simp only [Tr.val, e2, h2, cond_true, and_self, if_true, show (([] : List UInt8) == []) = true from rfl]
   cases zme [47] <;> cases zmf p <;> rfl
  ·have e0 : (n == []) = false := by simpa using h0
   simp only [Tr.val, e2, e0, h2, h0, cond_true, cond_false, and_false, if_false]
   cases zme n <;> cases zmf p <;> rfl
 ·have e2 : (form == 2) = false := by simpa using h2
  simp only [Tr.val, e2, h2, cond_false, false_and, if_false]
  cases zme n <;> cases zmf p <;> rfl
theorem zmt : ∀ (s : List UInt8), Lib.indexAny (s ++ [47]) [47, 63] = ((zml s).length:Int)
 | [] => by rfl
 | b :: l => by
  have ih := zmt l
  show (if [47, 63].contains b then (0:Int) else if Lib.indexAny (l ++ [47]) [47, 63] == -1 then -1 else Lib.indexAny (l ++ [47]) [47, 63] + 1) = _
  rw [ih]
  unfold zml
  have hc : ([47, 63] : List UInt8).contains b = (b == 47 || b == 63) := by simp only [List.contains_cons, List.contains_nil, Bool.or_false]
  rw [hc, List.takeWhile_cons]
  cases h : (b == 47 || b == 63) with
  | true => simp
  | false =>
   have : (((l.takeWhile fun c => !(c == 47 || c == 63)).length:Int) == -1) = false := by
    rw [beq_eq_false_iff_ne]; omega
   simp [this]
theorem zmu (s : List UInt8) : (zml s).length <= s.length := (List.takeWhile_sublist _).length_le
theorem zmv : ∀ (s : List UInt8), s.take (zml s).length = zml s
 | [] => rfl
 | b :: l => by
  unfold zml
  rw [List.takeWhile_cons]
  have ih := zmv l
  unfold zml at ih
  cases (b == 47 || b == 63) with
  | true => rfl
  | false => simpa using ih
def ascii (s : List UInt8) : Prop := ∀ c ∈ s, c.toNat < 128
theorem zmw {s : List UInt8} (ha : ascii s) (hn : s.length < 4294967000) : qa1.f (s ++ [47]) [47, 63] = some ((zml s).length:Int) := by
 unfold qa1.f
 have h1 : qa1.ascii (s ++ [47]) = true := by
  unfold qa1.ascii
  simp only [Bool.and_eq_true, decide_eq_true_eq, List.all_eq_true, List.length_append, List.length_cons, List.length_nil, List.mem_append, List.mem_singleton]
  refine ⟨by omega, fun c hc => ?_⟩
  rcases hc with hc | hc
  ·exact ha c hc
  ·subst hc; decide
 rw [h1, show qa1.ascii [47, 63] = true from by decide, zmt]
 rfl
theorem zmx {α : Type} (a b : Tr α) : (Tr.br true a b).val = a.val := rfl
theorem zmy {α : Type} (a b : Tr α) : (Tr.br false a b).val = b.val := rfl
theorem zmz {method s : List UInt8} (ha : ascii s) (hn : s.length < 4294967000) : qb4.f method s = some (zmm method s) := by
 have had : ascii (s.drop 7) := fun c hc => ha c (List.mem_of_mem_drop hc)
 have hld : (s.drop 7).length <= s.length := by simp
 have hle := zmu (s.drop 7)
 have hT7 : s.length ≥ 7 -> (s.take 7).length < 140737488355328 := fun h => by simp; omega
 unfold qb4.f qb4.t zmm
 have e1 : ([(67:UInt8), (79:UInt8), (78:UInt8), (78:UInt8), (69:UInt8), (67:UInt8), (84:UInt8)]) = zmj := rfl
 have e2 : ([(79:UInt8), (80:UInt8), (84:UInt8), (73:UInt8), (79:UInt8), (78:UInt8), (83:UInt8)]) = zmk := rfl
 have e3 : ([(104:UInt8), (116:UInt8), (116:UInt8), (112:UInt8), (58:UInt8), (47:UInt8), (47:UInt8)]) = zmi := rfl
 have e4 : List.take s.length s = s := List.take_length
 have e5 : Int.toNat 7 = 7 := rfl
 rw [e1, e2, e3]
 simp only [zmo (s := s) (by omega), zln, zmp, zms (s := s) (by omega), Int.toNat_natCast, e4, e5, List.drop_zero, zmw had (by omega), zmv]
 generalize zmh 1 [] s = q1
 have hO2 : qbd.f 2 (zml (s.drop 7)) ((s.drop 7).drop (zml (s.drop 7)).length) = some (zmh 2 (zml (s.drop 7)) ((s.drop 7).drop (zml (s.drop 7)).length)) := zms (by simp; omega)
 generalize zmh 2 (zml (s.drop 7)) ((s.drop 7).drop (zml (s.drop 7)).length) = q2 at hO2 ⊢
 obtain ⟨a1, a2, a3, a4, a5, a6⟩ := q1
 obtain ⟨b1, b2, b3, b4, b5, b6⟩ := q2
 by_cases hm1 : method = zmj
 ·have e6 : (method == zmj) = true := by simpa using hm1
  simp only [Tr.val, e6, cond_true, if_pos hm1]
  cases zmc s <;> cases s.contains 58 <;> rfl
 ·have e6 : (method == zmj) = false := by simpa using hm1
  have e10 : Int.toNat 0 = 0 := rfl
  have e11 : ((0:Nat):Int).toNat = 0 := rfl
  have key : ∀ r, r = (if zmd 47 s = true then (a1, a2, a3, a4, a5, a6) else if 7 <= s.length ∧ same (s.take 7) zmi = true then (if zmc (zml (s.drop 7)) = true then (b1, b2, b3, b4, b5, b6) else badT) else badT) ->
    (zmd 47 s = true -> r = (a1, a2, a3, a4, a5, a6)) ∧ (zmd 47 s = false -> ¬ 7 <= s.length -> r = badT) ∧ (zmd 47 s = false -> 7 <= s.length -> same (s.take 7) zmi = false -> r = badT) ∧ (zmd 47 s = false -> 7 <= s.length -> same (s.take 7) zmi = true -> zmc (zml (s.drop 7)) = false -> r = badT) ∧ (zmd 47 s = false -> 7 <= s.length -> same (s.take 7) zmi = true -> zmc (zml (s.drop 7)) = true -> r = (b1, b2, b3, b4, b5, b6)) := by
   rintro r rfl
   refine ⟨fun h => by simp [h], fun h h7 => by simp [h, h7], fun h h7 hs => by simp [h, h7, hs], fun h h7 hs hh => by simp [h, h7, hs, hh], fun h h7 hs hh => by simp [h, h7, hs, hh]⟩
  obtain ⟨k1, k2, k3, k4, k5⟩ := key _ rfl
  by_cases hm2 : method = zmk ∧ s = [42]
  ·have e7 : (method == zmk) = true := by simpa using hm2.1
   have e8 : (s == [42]) = true := by simpa using hm2.2
   simp only [Tr.val, e6, e7, e8, cond_true, cond_false, if_neg hm1, if_pos hm2]
  ·simp only [if_neg hm1, if_neg hm2]
   have hrest : ∀ (m:Bool), (bif m then (bif s == [42] then False else True) else True) -> True := fun _ _ => trivial
   rcases Bool.eq_false_or_eq_true (zmd 47 s) with hst | hst
   ·rw [k1 hst]
    cases e7 : (method == zmk) with
    | true =>
     have e8 : (s == [42]) = false := by
      have h1 : method = zmk := by simpa using e7
      have : ¬ s = [42] := fun h => hm2 ⟨h1, h⟩
      simpa using this
     simp only [Tr.val, e6, e8, hst, cond_true, cond_false]
    | false => simp only [Tr.val, e6, hst, cond_true, cond_false]
   ·by_cases h7 : 7 <= s.length
    ·have d7 : decide ((s.length:Int) ≥ 7) = true := decide_eq_true (by omega)
     have hlen : (s.drop 7).length + 7 = s.length := by simp; omega
     have c1 : (0:Int) <= 0 ∧ (0:Int) <= 7 ∧ (7:Int) <= (s.length:Int) := by omega
     have c2 : (0:Int) <= 7 ∧ (7:Int) <= (s.length:Int) ∧ (s.length:Int) <= (s.length:Int) := by omega
     have c3 : (((s.drop 7).length + [(47:UInt8)].length:Nat):Int) <= 9223372036854775807 := by simp; omega
     have c4 : (0:Int) <= 0 ∧ (0:Int) <= ((zml (s.drop 7)).length:Int) ∧ ((zml (s.drop 7)).length:Int) <= ((s.drop 7).length:Int) := by omega
     have c5 : (0:Int) <= ((zml (s.drop 7)).length:Int) ∧ ((zml (s.drop 7)).length:Int) <= ((s.drop 7).length:Int) ∧ ((s.drop 7).length:Int) <= ((s.drop 7).length:Int) := by omega
     have e12 : List.take ((s.drop 7).length) (s.drop 7) = s.drop 7 := List.take_length
     have hsame := zla (a := s.take 7) (b := zmi) (by simp; omega) (by decide)
     have hhost := zmo (s := zml (s.drop 7)) (by omega)
     rcases Bool.eq_false_or_eq_true (same (s.take 7) zmi) with hsm | hsm
     rotate_left
     ·rw [k3 hst h7 hsm]
      cases e7 : (method == zmk) with
      | true =>
       have e8 : (s == [42]) = false := by
        have h1 : method = zmk := by simpa using e7
        have : ¬ s = [42] := fun h => hm2 ⟨h1, h⟩
        simpa using this
       simp only [Tr.val, e6, e8, hst, cond_true, cond_false, d7]; rw [if_pos c1, hsame, Tr.val_call rfl, hsm]; rfl
      | false => simp only [Tr.val, e6, hst, cond_true, cond_false, d7]; rw [if_pos c1, hsame, Tr.val_call rfl, hsm]; rfl
     ·rcases Bool.eq_false_or_eq_true (zmc (zml (s.drop 7))) with hh | hh
      rotate_left
      ·rw [k4 hst h7 hsm hh]
       cases e7 : (method == zmk) with
       | true =>
        have e8 : (s == [42]) = false := by
         have h1 : method = zmk := by simpa using e7
         have : ¬ s = [42] := fun h => hm2 ⟨h1, h⟩
         simpa using this
        simp only [Tr.val, e6, e8, hst, cond_true, cond_false, d7]; rw [if_pos c1, hsame, Tr.val_call rfl, hsm, zmx, Tr.val_chk c2, Tr.val_chk c3, Tr.val_call rfl, Int.toNat_natCast, zmv, hhost, Tr.val_chk c4, Tr.val_call rfl, hh]; rfl
       | false => simp only [Tr.val, e6, hst, cond_true, cond_false, d7]; rw [if_pos c1, hsame, Tr.val_call rfl, hsm, zmx, Tr.val_chk c2, Tr.val_chk c3, Tr.val_call rfl, Int.toNat_natCast, zmv, hhost, Tr.val_chk c4, Tr.val_call rfl, hh]; rfl
      ·rw [k5 hst h7 hsm hh]
       cases e7 : (method == zmk) with
       | true =>
        have e8 : (s == [42]) = false := by
         have h1 : method = zmk := by simpa using e7
         have : ¬ s = [42] := fun h => hm2 ⟨h1, h⟩
         simpa using this
        simp only [Tr.val, e6, e8, hst, cond_true, cond_false, d7]; rw [if_pos c1, hsame, Tr.val_call rfl, hsm, zmx, Tr.val_chk c2, Tr.val_chk c3, Tr.val_call rfl, Int.toNat_natCast, zmv, hhost, Tr.val_chk c4, Tr.val_call rfl, hh, zmx, Tr.val_chk c4, Tr.val_chk c5]; simp only [e12, hO2]; rfl
       | false => simp only [Tr.val, e6, hst, cond_true, cond_false, d7]; rw [if_pos c1, hsame, Tr.val_call rfl, hsm, zmx, Tr.val_chk c2, Tr.val_chk c3, Tr.val_call rfl, Int.toNat_natCast, zmv, hhost, Tr.val_chk c4, Tr.val_call rfl, hh, zmx, Tr.val_chk c4, Tr.val_chk c5]; simp only [e12, hO2]; rfl
    ·have d7 : decide ((s.length:Int) ≥ 7) = false := decide_eq_false (by omega)
     rw [k2 hst h7]
     cases e7 : (method == zmk) with
     | true =>
      have e8 : (s == [42]) = false := by
       have h1 : method = zmk := by simpa using e7
       have : ¬ s = [42] := fun h => hm2 ⟨h1, h⟩
       simpa using this
      simp only [Tr.val, e6, e8, hst, cond_true, cond_false, d7, badT]
     | false => simp only [Tr.val, e6, hst, cond_true, cond_false, d7, badT]
end Pl
end Go.Vx
end
section
set_option maxRecDepth 100000
namespace Go.Vx
namespace Pl
open Go Go.Proofs
def hasD (p c:Int) : Bool := decide (0 <= c) && (decide (c < 30) && (IntKind.u32.wrap ((BitVec.ofInt IntKind.u32.bits (p.fdiv (2 ^ min c.toNat IntKind.u32.bits)) &&& BitVec.ofInt IntKind.u32.bits 1).toNat:Int) == 1))
theorem zn0 (c:Int) : q5v.f c = some (decide (0 <= c) && decide (c < 30)) := by
 unfold q5v.f q5v.t
 by_cases h : 0 <= c <;> simp [Tr.val, h]
theorem zn1 (p c:Int) : q5p.f p c = some (hasD p c) := by
 unfold q5p.f q5p.t hasD
 rw [zn0, Tr.val_call rfl]
 by_cases h1 : 0 <= c
 ·by_cases h2 : c < 30
  ·simp [Tr.val, h1, h2, Int.not_lt.2 h1]
  ·simp [Tr.val, h1, h2]
 ·simp [Tr.val, h1]
abbrev zn2 := List UInt8 × List UInt8 × Bool × Int
def outS (p clause:Int) : zn2 := if hasD p clause = true then ([], [], false, 0) else ([], [], false, 400)
def zn3 (p:Int) (s : List UInt8) : List UInt8 := if hasD p 9 = true then zjz zjd s else s
def zn4 (s : List UInt8) (p:Int) : zn2 :=
 if (cutC 58 s).2.2 = false then outS p 11
 else if zn3 p (cutC 58 s).1 = [] then outS p 12
 else if ((hasD p 10 || (zn3 p (cutC 58 s).1).all zjb) && (hasD p 14 || (trim (cutC 58 s).2.1).all zjf)) = true then (zn3 p (cutC 58 s).1, trim (cutC 58 s).2.1, true, 0)
 else ([], [], false, 400)
theorem zn5 (p clause:Int) : q0i.f p clause = some (outS p clause) := by
 unfold q0i.f q0i.t outS
 rw [zn1]
 cases hasD p clause <;> rfl
theorem zn6 {s : List UInt8} (hn : s.length < 1125899906842624) : qas.f s [32, 9] = some (zjz zjd s) := by
 unfold qas.f
 rw [show qa1.ascii [32, 9] = true from by decide, decide_eq_true (by omega)]
 unfold Lib.trimRightS zjz
 have : (fun x => ([32, 9] : List UInt8).contains x) = zjd := by
  funext c
  unfold zjd
  simp only [List.contains_cons, List.contains_nil, Bool.or_false]
 rw [this]
 rfl
theorem zn7 (s : List UInt8) : s.all (zji 1) = s.all zjb := by congr 1
theorem zn8 (s : List UInt8) : s.all (zji 6) = s.all zjf := by congr 1
theorem zn9 {s : List UInt8} {p : Int} (hn : s.length < 1099511627776) : q0f.f s p = some (zn4 s p) := by
 have hl := zmn (c := 58) (s := s)
 unfold q0f.f q0f.t zn4
 rw [zll (by omega), Tr.val_call rfl]
 generalize cutC 58 s = q at hl ⊢
 obtain ⟨n, v, has⟩ := q
 simp only at hl ⊢
 have hd := zk1 (p := zjd) n
 have ht := zkd zjd v
 have ht' : (trim v).length < 1125899906842624 := by unfold trim; omega
 have f1 := zn6 (s := n) (by omega)
 have f2 := zl2 (s := v) (by omega)
 have f3 := zkt (k := 1) (s := n) (by omega)
 have f4 := zkt (k := 1) (s := zjz zjd n) (by omega)
 have f5 := zkt (k := 6) (s := trim v) ht'
 rw [zn7] at f3 f4
 rw [zn8] at f5
 simp only [zn1, zn5]
 unfold zn3
 generalize hq11 : outS p 11 = o11
 generalize hq12 : outS p 12 = o12
 obtain ⟨a1, a2, a3, a4⟩ := o11
 obtain ⟨b1, b2, b3, b4⟩ := o12
 cases has with
 | false => rfl
 | true =>
  cases h9 : hasD p 9 with
  | true =>
   by_cases h0 : zjz zjd n = []
   ·simp only [Tr.val, f1, h0, Bool.not_true, cond_true, cond_false, if_true, beq_self_eq_true, Bool.true_eq_false, if_false]
   ·have e0 : (zjz zjd n == []) = false := by simpa using h0
    simp only [Tr.val, f1, e0, h0, f2, f4, Bool.not_true, cond_true, cond_false, if_true, Bool.true_eq_false, if_false]
    cases hasD p 10 <;> cases hasD p 14 <;> (try simp only [Tr.val, Bool.not_false, Bool.not_true, cond_true, cond_false, f4, f5]) <;> cases (zjz zjd n).all zjb <;> cases (trim v).all zjf <;> rfl
  | false =>
   by_cases h0 : n = []
   ·subst h0
    simp only [Tr.val, Bool.not_true, cond_true, cond_false, if_true, beq_self_eq_true, Bool.true_eq_false, Bool.false_eq_true, if_false]
   ·have e0 : (n == []) = false := by simpa using h0
    simp only [Tr.val, e0, h0, f2, f3, Bool.not_true, cond_true, cond_false, if_true, Bool.true_eq_false, Bool.false_eq_true, if_false]
    cases hasD p 10 <;> cases hasD p 14 <;> (try simp only [Tr.val, Bool.not_false, Bool.not_true, cond_true, cond_false, f3, f5]) <;> cases n.all zjb <;> cases (trim v).all zjf <;> rfl
def zna (s : List UInt8) (p:Int) : Bool := hasD p 13 && (match s with
 | c :: _ => zjd c
 | [] => false)
theorem znb (s : List UInt8) (p:Int) : q09.f s p = some (zna s p) := by
 unfold q09.f q09.t zna
 rw [zn1]
 cases hasD p 13 with
 | false => rfl
 | true =>
  cases s with
  | nil => rfl
  | cons c l =>
   have h : ((c :: l) == ([] : List UInt8)) = false := rfl
   have hc : (c :: l).getD (Int.toNat 0) 0 = c := rfl
   simp only [Tr.val, h, Bool.not_false, cond_true, hc, zjr]
   rw [if_pos (by simp)]
   simp
theorem znc {v s : List UInt8} (hv : v.length < 1125899906842624) (hn : s.length < 1125899906842624) : q0c.f v s = some (v ++ 32 :: trim s) := by
 have ht := zkd zjd s
 have ht' : (trim s).length < 1125899906842624 := by unfold trim; omega
 unfold q0c.f q0c.t
 rw [zl2 hn, Tr.val_call rfl, Tr.val_chk (by simp; omega), Tr.val_chk (by simp; omega)]
 rfl
def pre2 (a b:UInt8) (s : List UInt8) : Bool := match s with
 | x :: y :: _ => x == a && y == b
 | _ => false
def znd (p:Int) (s : List UInt8) : List UInt8 := if hasD p 27 = true then (if pre2 48 120 s = true then s.drop 2 else if pre2 48 88 s = true then s.drop 2 else s) else s
def zne (q : Int × Int) : Int × Int := if q.2 = 23 then (0, 413) else if q.2 = 22 then (0, 400) else (q.1, 0)
def znf (s : List UInt8) (p body ext:Int) : Int × Int :=
 if ((s.drop (before 59 s).length).length:Int) > ext then (0, 400)
 else if (s.drop (before 59 s).length).all zjf = false then (0, 400)
 else zne (numS 16 body (znd p (if hasD p 28 = true then trim (before 59 s) else before 59 s)))
theorem zng (s : List UInt8) : q20.f s = some (if s.contains 59 = true then ((before 59 s).length:Int) else -1) := by
 unfold q20.f q20.t
 rw [show (59:Int) = ((59:UInt8).toNat:Int) from rfl, zle]
 by_cases h : [(59:UInt8)] = s
 ·have := zlf h
  simp only [Tr.val, beq_iff_eq.2 h, cond_true, this.1, this.2, if_true]
  rfl
 ·simp [Tr.val, beq_eq_false_iff_ne.2 h]
theorem znh {s : List UInt8} (hn : s.length < 1125899906842624) : q9j.f s = some (cutC 59 s) := by
 have h1 : q19.f s = some (cutC 59 s) := by
  unfold q19.f
  show (cutT (q20.f s) s).val = _
  rw [zng, zlk hn]
 unfold q9j.f q9j.t
 rw [h1]; rfl
theorem zni {c : UInt8} {s : List UInt8} : (cutC c s).1 = before c s := by
 unfold cutC
 by_cases h : s.contains c = true
 ·rw [if_pos h]
 ·rw [if_neg h]
  show s = before c s
  have hn : ∀ (l : List UInt8), l.contains c = false -> l = before c l := by
   intro l
   induction l with
   | nil => intro _; rfl
   | cons x l ih =>
    intro h
    simp only [List.contains_cons, Bool.or_eq_false_iff] at h
    have hx : (x != c) = true := by
     have := h.1
     simp only [beq_eq_false_iff_ne] at this
     simp only [bne_iff_ne]
     exact fun e => this e.symm
    unfold before
    rw [List.takeWhile_cons, hx, if_pos rfl]
    congr 1
    exact ih h.2
  exact hn s (by simpa using h)
theorem znj (s : List UInt8) : q9v.f s = some (pre2 48 120 s) := by
 have h1 : q1i.f s = some (pre2 48 120 s) := by
  unfold q1i.f q1i.t pre2
  match s with
  | [] => rfl
  | [x] => rfl
  | x :: y :: l =>
   have h : decide (((x :: y :: l).length:Int) ≥ 2) = true := by simp; omega
   simp only [Tr.val, h, cond_true]
   rw [if_pos (by simp; omega)]
   simp
 unfold q9v.f q9v.t
 rw [h1]; rfl
theorem znk (s : List UInt8) : q9s.f s = some (pre2 48 88 s) := by
 have h1 : q1f.f s = some (pre2 48 88 s) := by
  unfold q1f.f q1f.t pre2
  match s with
  | [] => rfl
  | [x] => rfl
  | x :: y :: l =>
   have h : decide (((x :: y :: l).length:Int) ≥ 2) = true := by simp; omega
   simp only [Tr.val, h, cond_true]
   rw [if_pos (by simp; omega)]
   simp
 unfold q9s.f q9s.t
 rw [h1]; rfl
theorem znl {p : Int} {s : List UInt8} (h : hasD p 27 = true) : znd p s = if pre2 48 120 s = true then s.drop 2 else if pre2 48 88 s = true then s.drop 2 else s := by unfold znd; rw [if_pos h]
theorem znm {p : Int} {s : List UInt8} (h : hasD p 27 = false) : znd p s = s := by unfold znd; rw [h]; rfl
theorem znn (a b:Int) : (Tr.br (b == 23) (Tr.ret ((0:Int), (413:Int))) (Tr.br (b == 22) (Tr.ret ((0:Int), (400:Int))) (Tr.ret (a, (0:Int))))).val = some (zne (a, b)) := by
 unfold zne
 simp only
 by_cases h1 : b = 23
 ·subst h1; rfl
 ·have e1 : (b == 23) = false := by simpa using h1
  rw [if_neg h1]
  by_cases h2 : b = 22
  ·subst h2; rfl
  ·have e2 : (b == 22) = false := by simpa using h2
   rw [if_neg h2]
   simp only [Tr.val, e1, e2, cond_false]
theorem zno (q : Int × Int) : (Tr.br (q.2 == 23) (Tr.ret ((0:Int), (413:Int))) (Tr.br (q.2 == 22) (Tr.ret ((0:Int), (400:Int))) (Tr.ret (q.1, (0:Int))))).val = some (zne q) := znn q.1 q.2
theorem znp (c:UInt8) (s : List UInt8) : (before c s).length <= s.length := (List.takeWhile_sublist _).length_le
theorem znq {s : List UInt8} {p body ext : Int} (hb : body <= 1099511627776) (hn : s.length < 1099511627776) : q06.f s p body ext = some (znf s p body ext) := by
 have hle := znp 59 s
 unfold q06.f q06.t znf
 rw [znh (by omega), Tr.val_call rfl]
 simp only [zni, Int.toNat_natCast, List.take_length]
 rw [Tr.val_chk (by omega)]
 have ht := zkd zjd (before 59 s)
 have hdl : (s.drop (before 59 s).length).length <= s.length := by simp
 have f1 := zkt (k := 6) (s := s.drop (before 59 s).length) (by omega)
 rw [zn8] at f1
 rw [f1]
 generalize hB : before 59 s = B at hle ht ⊢
 generalize hX : s.drop B.length = X
 have f2 := zl2 (s := B) (by omega)
 by_cases h1 : (X.length:Int) > ext
 ·rw [if_pos h1]; simp only [Tr.val, decide_eq_true h1, cond_true]
 ·rw [if_neg h1]
  cases h2 : X.all zjf with
  | false => simp only [Tr.val, decide_eq_false h1, cond_false, Bool.not_false, cond_true, if_true]
  | true =>
   simp only [Tr.val, decide_eq_false h1, cond_false, Bool.not_true, zn1, Bool.true_eq_false, if_false]
   have key : ∀ (Y : List UInt8), Y.length <= s.length -> ((Tr.call (some (hasD p 27)) fun y5 =>
     .br y5 (.call (q9v.f Y) fun y6 =>
      .br y6 (.chk ((0:Int) <= 2 ∧ (2:Int) <= (Y.length:Int) ∧ (Y.length:Int) <= (Y.length:Int))<|.call (q2y.f (List.drop 2 Y) body) fun q =>
       .br (q.2 == 23) (.ret ((0:Int), (413:Int))) (.br (q.2 == 22) (.ret (0, 400)) (.ret (q.1, 0))))
      (.call (q9s.f Y) fun y8 =>
       .br y8 (.chk ((0:Int) <= 2 ∧ (2:Int) <= (Y.length:Int) ∧ (Y.length:Int) <= (Y.length:Int))<|.call (q2y.f (List.drop 2 Y) body) fun q =>
        .br (q.2 == 23) (.ret (0, 413)) (.br (q.2 == 22) (.ret (0, 400)) (.ret (q.1, 0))))
       (.call (q2y.f Y body) fun q => .br (q.2 == 23) (.ret (0, 413)) (.br (q.2 == 22) (.ret (0, 400)) (.ret (q.1, 0))))))
     (.call (q2y.f Y body) fun q => .br (q.2 == 23) (.ret (0, 413)) (.br (q.2 == 22) (.ret (0, 400)) (.ret (q.1, 0)))) : Tr (Int × Int))).val = some (zne (numS 16 body (znd p Y))) := by
    intro Y hY
    rw [Tr.val_call rfl]
    have g1 := zlc (most := body) (s := Y) hb (by omega)
    have g2 := zlc (most := body) (s := Y.drop 2) hb (by simp; omega)
    have hp2 : ∀ a b, pre2 a b Y = true -> 2 <= Y.length := by
     intro a b h
     unfold pre2 at h
     split at h
     ·simp
     ·cases h
    rw [g1, g2, znj, znk]
    cases h27 : hasD p 27 with
    | false =>
     rw [znm h27, zmy, Tr.val_call rfl]
     exact zno _
    | true =>
     rw [znl h27, zmx, Tr.val_call rfl]
     cases hx : pre2 48 120 Y with
     | true =>
      have := hp2 _ _ hx
      rw [zmx, Tr.val_chk (by omega), Tr.val_call rfl]
      exact zno _
     | false =>
      rw [zmy, Tr.val_call rfl]
      cases hX2 : pre2 48 88 Y with
      | true =>
       have := hp2 _ _ hX2
       rw [zmx, Tr.val_chk (by omega), Tr.val_call rfl]
       exact zno _
      | false =>
       rw [zmy, Tr.val_call rfl]
       exact zno _
   cases h28 : hasD p 28 with
   | true =>
    rw [cond_true, f2]
    rw [if_pos rfl]
    exact key (trim B) (by unfold trim; omega)
   | false =>
    rw [cond_false]
    exact key B hle
end Pl
end Go.Vx
end
section
set_option maxRecDepth 100000
namespace Go.Vx
namespace Pl
open Go Go.Proofs
def idxV : Unit ⊕ Int -> Int
 | .inl _ => -1
 | .inr j => j
def znr {α : Type} (p : α -> Bool) (k:Nat) (c : α) : Option (Unit ⊕ Int) := if p c = true then some (.inr (k:Int)) else none
theorem zns {α : Type} (p : α -> Bool) : ∀ (l : List α) (k:Nat), idxV (scan (znr p) (.inl ()) k l) = if l.any p = true then ((k + l.findIdx p:Nat):Int) else -1
 | [], _ => rfl
 | c :: l, k => by
  rw [scan, znr, List.any_cons, List.findIdx_cons]
  by_cases h : p c = true
  ·simp [h, idxV]
  ·have h' : p c = false := by simpa using h
   simp only [h', Bool.false_eq_true, if_false, Bool.false_or, cond_false]
   rw [zns p l (k + 1)]
   split
   ·congr 1; omega
   ·rfl
theorem znt {α : Type} (p : α -> Bool) (l : List α) : decide (idxV (scan (znr p) (.inl ()) 0 l) ≥ 0) = l.any p := by
 rw [zns]
 cases l.any p <;> simp
theorem znu (q : Unit ⊕ Int) {k : Unit -> Tr Int} (hk : k () = .ret (-1)) : (Tr.both (some q) k (fun y => Tr.ret y)).val = some (idxV q) := by
 cases q with
 | inl u => cases u; show (k ()).val = _; rw [hk]; rfl
 | inr j => rfl
theorem znv {l : List (List UInt8)} (hn : l.length < 1125899906842624) : q8j.f l = some (l.any (· == [])) := by
 have hL : q91.L2.f l (l.length:Int) 0 = some (scan (znr (· == [])) (.inl ()) 0 l) := by
  unfold q91.L2.f
  refine zjk l (znr (· == [])) (.inl ()) (fun k c hk hc => ?_) ?_ hn
  ·have hw := wS (k := k) (by omega)
   have hsym : (([] : List UInt8) == c) = (c == []) := by cases c <;> rfl
   unfold q91.L2.t znr
   simp only [Nat.zero_add, zj6 hk hc, Tr.val, zjn, decide_eq_true hk, cond_true, hw, hsym]
   rw [if_pos (by omega), if_pos (by simpa using hk)]
   by_cases h : (c == []) = true
   ·simp only [h]; rfl
   ·have h' : (c == []) = false := by simpa using h
    simp only [h']; rfl
  ·simp [q91.L2.t, Tr.val]
 have hI : q91.f l = some (idxV (scan (znr (· == [])) (.inl ()) 0 l)) := by
  unfold q91.f q91.t
  rw [hL]
  exact znu _ rfl
 unfold q8j.f q8j.t
 rw [zld, hI, Tr.val_chk (by omega), Tr.val_call rfl, znt]
 rfl
def znw (p:Int) (s : List UInt8) : List (List UInt8) := if hasD p 3 = true then q9p.fieldsOf (trim s) else zke 32 s
def znx (p:Int) (s : List UInt8) : List UInt8 := if hasD p 3 = true then trim s else s
abbrev zny := List UInt8 × List UInt8 × List UInt8 × Int
def znz (p:Int) (s : List UInt8) (a z : List UInt8) : List UInt8 := if hasD p 3 = true then trim ((s.take (s.length - z.length - 1)).drop (a.length + 1)) else (s.take (s.length - z.length - 1)).drop (a.length + 1)
def zo0 (p:Int) (s : List UInt8) (l : List (List UInt8)) : zny :=
 if l.any (· == []) = true then ([], [], [], 400)
 else if l.length = 3 then (l.getD 0 [], l.getD 1 [], l.getD 2 [], 0)
 else if 3 < l.length ∧ hasD p 7 = true then (l.getD 0 [], znz p s (l.getD 0 []) (l.getD (l.length - 1) []), l.getD (l.length - 1) [], 0)
 else if l.length = 2 ∧ hasD p 6 = true then (l.getD 0 [], l.getD 1 [], [], 0)
 else ([], [], [], 400)
def zo1 (s : List UInt8) (p:Int) : zny := zo0 p (znx p s) (znw p s)
def zo2 (s : List UInt8) (l : List (List UInt8)) : Prop := 3 < l.length -> (l.getD 0 []).length + (l.getD (l.length - 1) []).length + 2 <= s.length
def zo3 (p:Int) (s : List UInt8) (l : List (List UInt8)) : Tr zny :=
 .chk ((0:Nat) + l.length <= l.length)<|.call (q8j.f (List.take l.length (List.drop (0:Nat) l))) fun y5 =>
  .br y5 (.ret ([], [], [], (400:Int)))
  (.br ((↑l.length:Int) == (3:Int)) (.chk ((0:Int) <= (0:Int) ∧ (0:Int) < (↑l.length:Int))<|.chk ((0:Nat) < l.length)<|.chk ((0:Int) <= (1:Int) ∧ (1:Int) < (↑l.length:Int))<|.chk ((1:Nat) < l.length)<|.chk ((0:Int) <= (2:Int) ∧ (2:Int) < (↑l.length:Int))<|.chk ((2:Nat) < l.length)<|.ret (l.getD (0:Nat) [], l.getD (1:Nat) [], l.getD (2:Nat) [], (0:Int)))
  (.br (decide ((↑l.length:Int) > (3:Int))) (.call (q5p.f p (7:Int)) fun y6 =>
   .br y6 (.chk ((0:Int) <= (0:Int) ∧ (0:Int) < (↑l.length:Int))<|.chk ((0:Nat) < l.length)<|.chk ((0:Int) <= IntKind.i64.wrap ((↑l.length:Int) - (1:Int)) ∧ IntKind.i64.wrap ((↑l.length:Int) - (1:Int)) < (↑l.length:Int))<|.chk ((0:Nat) + (IntKind.i64.wrap ((↑l.length:Int) - (1:Int))).toNat < l.length)<|.chk ((0:Int) <= IntKind.i64.wrap ((↑(List.length (l.getD (0:Nat) [])):Int) + (1:Int)) ∧ IntKind.i64.wrap ((↑(List.length (l.getD (0:Nat) [])):Int) + (1:Int)) <= IntKind.i64.wrap (IntKind.i64.wrap ((↑s.length:Int) - (↑(List.length (l.getD ((0:Nat) + (IntKind.i64.wrap ((↑l.length:Int) - (1:Int))).toNat) [])):Int)) - (1:Int)) ∧ IntKind.i64.wrap (IntKind.i64.wrap ((↑s.length:Int) - (↑(List.length (l.getD ((0:Nat) + (IntKind.i64.wrap ((↑l.length:Int) - (1:Int))).toNat) [])):Int)) - (1:Int)) <= (↑s.length:Int))<|.call (q5p.f p (3:Int)) fun y7 =>
    .br y7 (.call (qby.f (List.drop (IntKind.i64.wrap ((↑(List.length (l.getD (0:Nat) [])):Int) + (1:Int))).toNat (List.take (IntKind.i64.wrap (IntKind.i64.wrap ((↑s.length:Int) - (↑(List.length (l.getD ((0:Nat) + (IntKind.i64.wrap ((↑l.length:Int) - (1:Int))).toNat) [])):Int)) - (1:Int))).toNat s))) fun y8 =>
    .chk ((0:Int) <= (0:Int) ∧ (0:Int) < (↑l.length:Int))<|.chk ((0:Nat) < l.length)<|.chk ((0:Int) <= IntKind.i64.wrap ((↑l.length:Int) - (1:Int)) ∧ IntKind.i64.wrap ((↑l.length:Int) - (1:Int)) < (↑l.length:Int))<|.chk ((0:Nat) + (IntKind.i64.wrap ((↑l.length:Int) - (1:Int))).toNat < l.length)<|.ret (l.getD (0:Nat) [], y8, l.getD ((0:Nat) + (IntKind.i64.wrap ((↑l.length:Int) - (1:Int))).toNat) [], (0:Int)))
    (.chk ((0:Int) <= (0:Int) ∧ (0:Int) < (↑l.length:Int))<|.chk ((0:Nat) < l.length)<|.chk ((0:Int) <= IntKind.i64.wrap ((↑l.length:Int) - (1:Int)) ∧ IntKind.i64.wrap ((↑l.length:Int) - (1:Int)) < (↑l.length:Int))<|.chk ((0:Nat) + (IntKind.i64.wrap ((↑l.length:Int) - (1:Int))).toNat < l.length)<|.ret (l.getD (0:Nat) [], List.drop (IntKind.i64.wrap ((↑(List.length (l.getD (0:Nat) [])):Int) + (1:Int))).toNat (List.take (IntKind.i64.wrap (IntKind.i64.wrap ((↑s.length:Int) - (↑(List.length (l.getD ((0:Nat) + (IntKind.i64.wrap ((↑l.length:Int) - (1:Int))).toNat) [])):Int)) - (1:Int))).toNat s), l.getD ((0:Nat) + (IntKind.i64.wrap ((↑l.length:Int) - (1:Int))).toNat) [], (0:Int))))
   (.br ((↑l.length:Int) == (2:Int)) (.call (q5p.f p (6:Int)) fun y9 =>
    .br y9 (.chk ((0:Int) <= (0:Int) ∧ (0:Int) < (↑l.length:Int))<|.chk ((0:Nat) < l.length)<|.chk ((0:Int) <= (1:Int) ∧ (1:Int) < (↑l.length:Int))<|.chk ((1:Nat) < l.length)<|.ret (l.getD (0:Nat) [], l.getD (1:Nat) [], [], (0:Int)))
    (.ret ([], [], [], (400:Int))))
    (.ret ([], [], [], (400:Int)))))
   (.br ((↑l.length:Int) == (2:Int)) (.call (q5p.f p (6:Int)) fun y10 =>
    .br y10 (.chk ((0:Int) <= (0:Int) ∧ (0:Int) < (↑l.length:Int))<|.chk ((0:Nat) < l.length)<|.chk ((0:Int) <= (1:Int) ∧ (1:Int) < (↑l.length:Int))<|.chk ((1:Nat) < l.length)<|.ret (l.getD (0:Nat) [], l.getD (1:Nat) [], [], (0:Int)))
    (.ret ([], [], [], (400:Int))))
   (.ret ([], [], [], (400:Int))))))
theorem zo4 {p : Int} {s : List UInt8} {l : List (List UInt8)} (hn : s.length < 1125899906842624) (hl : l.length < 1125899906842624) (ha : hasD p 7 = true -> zo2 s l) (hz : ∀ x ∈ l, x.length <= s.length) : (zo3 p s l).val = some (zo0 p s l) := by
 unfold zo3 zo0
 rw [zld, znv hl, Tr.val_chk (by omega), Tr.val_call rfl]
 cases hE : l.any (· == []) with
 | true => rfl
 | false =>
  rw [zmy]
  simp only [Bool.false_eq_true, if_false, zn1]
  by_cases h3 : l.length = 3
  ·have e3 : ((l.length:Int) == 3) = true := by simp [h3]
   rw [e3, zmx, if_pos h3, Tr.val_chk (by omega), Tr.val_chk (by omega), Tr.val_chk (by omega), Tr.val_chk (by omega), Tr.val_chk (by omega), Tr.val_chk (by omega)]
   rfl
  ·have e3 : ((l.length:Int) == 3) = false := by rw [beq_eq_false_iff_ne]; omega
   rw [e3, zmy, if_neg h3]
   by_cases h4 : 3 < l.length
   ·have e2 : ((l.length:Int) == 2) = false := by rw [beq_eq_false_iff_ne]; omega
    rw [decide_eq_true (show (l.length:Int) > 3 by omega), zmx, Tr.val_call rfl, e2]
    have hne2 : ¬ l.length = 2 := by omega
    cases h7 : hasD p 7 with
    | false =>
     rw [zmy, if_neg (fun h => by cases h.2), if_neg (fun h => hne2 h.1)]
     rfl
    | true =>
     have hap := ha h7 h4
     have hlast : l.getD (l.length - 1) [] ∈ l := by
      rw [List.getD_eq_getElem?_getD, List.getElem?_eq_getElem (by omega)]
      exact List.getElem_mem _
     have hfirst : l.getD 0 [] ∈ l := by
      rw [List.getD_eq_getElem?_getD, List.getElem?_eq_getElem (by omega)]
      exact List.getElem_mem _
     have hz1 := hz _ hlast
     have hz2 := hz _ hfirst
     have w1 : IntKind.i64.wrap ((l.length:Int) - 1) = ((l.length - 1:Nat):Int) := by rw [w64 (by omega) (by omega)]; omega
     generalize hA : l.getD 0 [] = A at hap hz2 ⊢
     have e0 : (0:Nat) + (((l.length - 1:Nat):Int)).toNat = l.length - 1 := by simp
     rw [zmx, if_pos ⟨h4, rfl⟩]
     simp only [w1, e0]
     generalize hZ : l.getD (l.length - 1) [] = Z at hap hz1 ⊢
     have w2 := wS (k := A.length) (by omega)
     have w3 : IntKind.i64.wrap (IntKind.i64.wrap ((s.length:Int) - (Z.length:Int)) - 1) = ((s.length - Z.length - 1:Nat):Int) := by
      rw [w64 (n := (s.length:Int) - (Z.length:Int)) (by omega) (by omega), w64 (by omega) (by omega)]
      omega
     simp only [w2, w3, Int.toNat_natCast]
     rw [Tr.val_chk (by omega), Tr.val_chk (by omega), Tr.val_chk (by omega), Tr.val_chk (by omega), Tr.val_chk (by omega), Tr.val_call rfl]
     unfold znz
     cases h3' : hasD p 3 with
     | true =>
      rw [zmx, zl2 (by simp; omega), Tr.val_call rfl, Tr.val_chk (by omega), Tr.val_chk (by omega), Tr.val_chk (by omega), Tr.val_chk (by omega)]
      rfl
     | false =>
      rw [zmy, Tr.val_chk (by omega), Tr.val_chk (by omega), Tr.val_chk (by omega), Tr.val_chk (by omega)]
      rfl
   ·rw [decide_eq_false (show ¬ (l.length:Int) > 3 by omega), zmy, if_neg (fun h => h4 h.1)]
    by_cases h2 : l.length = 2
    ·have e2 : ((l.length:Int) == 2) = true := by simp [h2]
     rw [e2, zmx, Tr.val_call rfl]
     cases h6 : hasD p 6 with
     | true =>
      rw [zmx, if_pos ⟨h2, rfl⟩, Tr.val_chk (by omega), Tr.val_chk (by omega), Tr.val_chk (by omega), Tr.val_chk (by omega)]
      rfl
     | false =>
      rw [zmy, if_neg (fun h => by cases h.2)]
      rfl
    ·have e2 : ((l.length:Int) == 2) = false := by rw [beq_eq_false_iff_ne]; omega
     rw [e2, zmy, if_neg (fun h => h2 h.1)]
     rfl
theorem zo5 {c : UInt8} : ∀ (n:Nat) (s : List UInt8), s.length <= n -> ((zke c s).map List.length).sum + (zke c s).length = s.length + 1
 | 0, s, h => by
  have : s = [] := List.length_eq_zero_iff.1 (by omega)
  subst this; rfl
 | n + 1, s, h => by
  by_cases hc : s.contains c = true
  ·have hl := zkn hc
   have ih := zo5 (c := c) n (after c s) (by omega)
   rw [zkp hc]
   simp only [List.map_cons, List.sum_cons, List.length_cons]
   omega
  ·rw [zko (by simpa using hc)]
   simp
theorem zo6 {c : UInt8} {s : List UInt8} : zo2 s (zke c s) := by
 intro h
 have ht := zo5 (c := c) s.length s (Nat.le_refl _)
 generalize zke c s = l at h ht ⊢
 match l, h with
 | a :: m, h =>
  rcases List.eq_nil_or_concat m with rfl | ⟨k, z, rfl⟩
  ·simp at h
  ·simp only [List.concat_eq_append] at h ht ⊢
   have e1 : (a :: (k ++ [z])).getD ((a :: (k ++ [z])).length - 1) [] = z := by
    simp [List.getD_eq_getElem?_getD]
   rw [e1]
   simp only [List.getD_cons_zero]
   simp only [List.map_cons, List.map_append, List.map_nil, List.sum_cons, List.sum_append, List.sum_nil, List.length_cons, List.length_append, List.length_nil] at ht h
   omega
def zo7 (p:Int) (s : List UInt8) : Prop := hasD p 3 = true -> (s.length <= 4294967296 ∧ (hasD p 7 = true -> zo2 (trim s) (q9p.fieldsOf (trim s))) ∧ (∀ x ∈ q9p.fieldsOf (trim s), x.length <= (trim s).length) ∧ (q9p.fieldsOf (trim s)).length < 1125899906842624)
theorem zo8 {s : List UInt8} {p : Int} (hn : s.length <= 1099511627776) (hf : zo7 p s) : q7j.f s p = some (zo1 s p) := by
 have ht := zkd zjd s
 have ht' : (trim s).length <= s.length := ht
 have hsc : (zke 32 s).length < 1125899906842624 := by
  rw [zkr 32 s.length s (Nat.le_refl _)]
  have : s.count 32 <= s.length := List.count_le_length
  omega
 show (Tr.call (qaj.f s) fun y1 => Tr.call (q5p.f p 3) fun y2 => Tr.br y2 (Tr.call (qby.f s) fun y3 => Tr.call (q9p.f y3) fun y4 => zo3 p y3 y4) (zo3 p s y1)).val = _
 rw [zls hn, Tr.val_call rfl, zn1, Tr.val_call rfl]
 unfold zo1 znx znw
 cases h3 : hasD p 3 with
 | true =>
  obtain ⟨q1, q2, q3, q4⟩ := hf h3
  rw [zmx, zl2 (by omega), Tr.val_call rfl]
  have hff : q9p.f (trim s) = some (q9p.fieldsOf (trim s)) := by
   unfold q9p.f
   rw [if_pos (by omega)]
  rw [hff, Tr.val_call rfl]
  exact zo4 (by omega) q4 q2 q3
 | false =>
  rw [zmy]
  exact zo4 (by omega) hsc (fun _ => zo6) (fun x hx => zlu s.length (Nat.le_refl _) x hx)
def zo9 (spaces controls:Bool) (c:UInt8) : Bool := zjc c || (spaces && zjd c) || (controls && zje c)
def zoa (method s : List UInt8) (p:Int) : Bool :=
 s.all (zo9 (hasD p 7) (hasD p 8)) && !(s == []) && (hasD p 7 || hasD p 8 || decide ((zmm method s).2.2.2.2.2 = 0))
theorem zob {c : UInt8} (h : zjc c = true) : c.toNat < 128 := by
 have := zj7 (p := fun c => !zjc c || decide (c.toNat < 128)) (by decide +kernel) c
 simpa [h] using this
theorem zoc {method s : List UInt8} {p : Int} (hn : s.length < 4294967000) : q7d.f method s p = some (zoa method s p) := by
 have hL : q7d.L3.f s (hasD p 7) (hasD p 8) (s.length:Int) 0 = some (if s.all (zo9 (hasD p 7) (hasD p 8)) = true then .inl () else .inr false) := by
  unfold q7d.L3.f
  refine (zjk s (fun _ c => if zo9 (hasD p 7) (hasD p 8) c = true then none else some (Sum.inr false : Unit ⊕ Bool)) (.inl ()) (fun k c hk hc => ?_) ?_ (by omega)).trans (by rw [zjl])
  ·have hw := wS (k := k) (by omega)
   unfold q7d.L3.t zo9
   simp only [zj6 hk hc, zjq, zjr, zjs, Tr.val, zjn, decide_eq_true hk, cond_true, hw]
   rw [if_pos (by omega)]
   cases zjc c <;> cases zjd c <;> cases zje c <;> cases hasD p 7 <;> cases hasD p 8 <;> rfl
  ·simp [q7d.L3.t, Tr.val]
 unfold q7d.f q7d.t zoa
 rw [zn1, Tr.val_call rfl, zn1, Tr.val_call rfl, hL]
 cases hA : s.all (zo9 (hasD p 7) (hasD p 8)) with
 | false => rfl
 | true =>
  rw [if_pos rfl, Tr.val_inl rfl]
  cases h0 : (s == []) with
  | true => rfl
  | false =>
   rw [zmy]
   cases h7 : hasD p 7 with
   | true => rfl
   | false =>
    rw [zmy]
    cases h8 : hasD p 8 with
    | true => rfl
    | false =>
     rw [zmy]
     have ha : ascii s := fun c hc => by
      have := List.all_eq_true.1 hA c hc
      unfold zo9 at this
      rw [h7, h8] at this
      exact zob (by simpa using this)
     rw [zmz ha hn]
     generalize zmm method s = q
     obtain ⟨a, b, c, d, e, f⟩ := q
     show some (f == 0) = _
     by_cases h : f = 0 <;> simp [h]
def zod : List UInt8 := [72, 84, 84, 80, 47, 49, 46]
def zoe (s : List UInt8) (p:Int) (old:Bool) : Int × Bool :=
 if s = [] then (0, old)
 else if s.length ≠ 8 ∨ zja (s.getD 7 0) = false then (0, false)
 else if s.take 7 ≠ zod ∧ ¬ (hasD p 5 = true ∧ same (s.take 7) zod = true) then (0, false)
 else if s.getD 7 0 = 48 then (0, old) else if s.getD 7 0 = 49 then (1, true) else (1, hasD p 4)
theorem zof {s : List UInt8} {p : Int} {old : Bool} : q7g.f s p old = some (zoe s p old) := by
 unfold q7g.f q7g.t zoe
 by_cases h0 : s = []
 ·subst h0; rfl
 ·have e0 : (s == []) = false := by simpa using h0
  rw [e0, zmy, if_neg h0]
  by_cases h8 : s.length = 8
  ·have e8 : ((s.length:Int) != 8) = false := by simp [h8]
   rw [e8, zmy, Tr.val_chk (by omega)]
   have e5 : Int.toNat 7 = 7 := rfl
   simp only [e5, zjo]
   rw [Tr.val_call rfl]
   cases hd : zja (s.getD 7 0) with
   | false => rw [if_pos (.inr rfl)]; rfl
   | true =>
    rw [if_neg (by simp [h8])]
    have e1 : ([(72:UInt8), (84:UInt8), (84:UInt8), (80:UInt8), (47:UInt8), (49:UInt8), (46:UInt8)]) = zod := rfl
    rw [e1]
    rw [show (!true) = false from rfl, zmy, Tr.val_chk (by omega)]
    simp only [Int.toNat_natCast, List.drop_zero]
    have hsame := zla (a := s.take 7) (b := zod) (by simp; omega) (by decide)
    have h48 : (((s.getD 7 0).toNat:Int) == 48) = (s.getD 7 0 == 48) := zj0 _ 48 (by decide) (by decide)
    have h49 : (((s.getD 7 0).toNat:Int) == 49) = (s.getD 7 0 == 49) := zj0 _ 49 (by decide) (by decide)
    simp only [h48, h49, zn1]
    have hend : ((Tr.chk ((0:Int) <= 7 ∧ (7:Int) < (s.length:Int)) (Tr.br (s.getD 7 0 == 48) (Tr.ret ((0:Int), old)) (Tr.br (s.getD 7 0 == 49) (Tr.ret ((1:Int), true)) (Tr.call (some (hasD p 4)) fun y => Tr.ret ((1:Int), y))))).val) = some (if s.getD 7 0 = 48 then (0, old) else if s.getD 7 0 = 49 then (1, true) else (1, hasD p 4)) := by
     rw [Tr.val_chk (by omega)]
     generalize s.getD 7 0 = d
     by_cases q1 : d = 48
     ·subst q1; rfl
     ·have q1' : (d == 48) = false := by simpa using q1
      rw [q1', zmy, if_neg q1]
      by_cases q2 : d = 49
      ·subst q2; rfl
      ·have q2' : (d == 49) = false := by simpa using q2
       rw [q2', zmy, if_neg q2]
       rfl
    by_cases hv : s.take 7 = zod
    ·have ev : (s.take 7 == zod) = true := by simpa using hv
     rw [ev, show (!true) = false from rfl, zmy, if_neg (fun h => h.1 hv)]
     exact hend
    ·have ev : (s.take 7 == zod) = false := by simpa using hv
     rw [ev, show (!false) = true from rfl, zmx, Tr.val_call rfl]
     cases h5 : hasD p 5 with
     | false => rw [if_pos ⟨hv, by simp⟩]; rfl
     | true =>
      rw [zmx, Tr.val_chk (by omega), hsame, Tr.val_call rfl]
      cases hs : same (s.take 7) zod with
      | false => rw [if_pos ⟨hv, by simp⟩]; rfl
      | true =>
       rw [if_neg (by simp)]
       exact hend
  ·have e8 : ((s.length:Int) != 8) = true := by simp; omega
   rw [e8, zmx, if_pos (.inl h8)]
   rfl
abbrev ReqS := List UInt8 × List UInt8 × Int × Int
def zog (s : List UInt8) (p:Int) (old:Bool) : ReqS :=
 if (zo1 s p).2.2.2 ≠ 0 then ([], [], 0, 400)
 else if (zo1 s p).1 = [] ∨ 32 < (zo1 s p).1.length ∨ (zo1 s p).1.all zjb = false ∨ zoa (zo1 s p).1 (zo1 s p).2.1 p = false then ([], [], 0, 400)
 else if (zoe (zo1 s p).2.2.1 p old).2 = false then ([], [], 0, 505)
 else ((zo1 s p).1, (zo1 s p).2.1, (zoe (zo1 s p).2.2.1 p old).1, 0)
theorem zoh {s : List UInt8} {p : Int} {old : Bool} (hn : s.length <= 1099511627776) (hf : zo7 p s) (hg : (zo1 s p).2.1.length < 4294967000) : q77.f s p old = some (zog s p old) := by
 unfold q77.f q77.t zog
 rw [zo8 hn hf, Tr.val_call rfl]
 generalize zo1 s p = q at hg ⊢
 obtain ⟨a, b, v, e⟩ := q
 simp only at hg ⊢
 by_cases he : e = 0
 ·subst he
  rw [show ((0:Int) != 0) = false from rfl, zmy, if_neg (by simp)]
  by_cases ha : a = []
  ·subst ha; rfl
  ·have e0 : (a == []) = false := by simpa using ha
   rw [e0, zmy]
   by_cases h32 : 32 < a.length
   ·rw [decide_eq_true (show (a.length:Int) > 32 by omega), zmx, if_pos (.inr (.inl h32))]; rfl
   ·rw [decide_eq_false (show ¬ (a.length:Int) > 32 by omega), zmy]
    have f1 := zkt (k := 1) (s := a) (by omega)
    rw [zn7] at f1
    rw [f1, Tr.val_call rfl]
    cases ht : a.all zjb with
    | false => rw [if_pos (.inr (.inr (.inl rfl)))]; rfl
    | true =>
     rw [show (!true) = false from rfl, zmy, zoc hg, Tr.val_call rfl]
     cases hgo : zoa a b p with
     | false => rw [if_pos (.inr (.inr (.inr rfl)))]; rfl
     | true =>
      rw [if_neg (by simp [ha]; omega), show (!true) = false from rfl, zmy, zof, Tr.val_call rfl]
      generalize zoe v p old = m
      obtain ⟨m1, m2⟩ := m
      cases m2 <;> rfl
 ·have : (e != 0) = true := by simpa using he
  rw [this, zmx, if_pos he]
  rfl
end Pl
end Go.Vx
end
