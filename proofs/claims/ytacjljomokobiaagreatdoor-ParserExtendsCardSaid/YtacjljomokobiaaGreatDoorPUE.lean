/- Printed by a program of ours out of our texts: the evaluator, the printed functions, the plain laws. (A help: no statement of the seat is proved here.) -/
import Derived.Test.YtacjljomokobiaaGreatDoorPUD
import Derived.Lib.Bytealg
set_option linter.unusedVariables false
set_option linter.unusedSimpArgs false
section
set_option maxRecDepth 1000000
set_option maxHeartbeats 4000000
set_option synthInstance.maxSize 100000
set_option synthInstance.maxHeartbeats 400000
namespace Go.Vx
open Go Go.Vx Go.Proofs
namespace q6y
def D : Dom := ⟨[], .nil⟩
def A : Dom := ⟨[], (.agg (.cat (.int .i64) (.cat (.int .i64) (.cat (.int .i64) (.cat (.int .i64) (.cat (.int .i64) (.cat (.int .i64) (.cat (.int .i64) (.cat (.int .i64) (.cat .bool .bool))))))))))⟩
def t  : Tr (Int × Int × Int × Int × Int × Int × Int × Int × Bool × Bool) :=
 .ret ((1024:Int), 32, 8192, 65536, 32, 8, 4, 20, true, true)
def f  : Option (Int × Int × Int × Int × Int × Int × Int × Int × Bool × Bool) := (t ).val
def F (x : D.den) : Option (Int × Int × Int × Int × Int × Int × Int × Int × Bool × Bool) := f
def pa : D.den -> (Int × Int × Int × Int × Int × Int × Int × Int × Bool × Bool) -> A.den := fun (_, _) (y1, y2, y3, y4, y5, y6, y7, y8, y9, y10) => ((), (y1, (y2, (y3, (y4, (y5, (y6, (y7, (y8, (y9, y10))))))))))
def con : Con := tcon D A pa F
theorem ok : zgs Tryz.prog 34 con := zia Base.mixed Base.prog_ok q3u (by kernel_rfl) zhr.nil 9 (fun _ => rfl) (fun x => t ) (fun _ => rfl) fun _ _ _ => (by kernel_rfl)
end q6y
def q6z : Book := q3t.add 34 q6y.con
theorem q70 : zgt Tryz.prog q6z := q3u.add q6y.ok
namespace q21
def D : Dom := ⟨[], .nil⟩
def A : Dom := ⟨[], .bool⟩
def t  : Tr (Bool) :=
 .call (q6y.f) fun (y1a, y1b, y1c, y1d, y1e, y1f, y1g, y1h, y1i, y1j) =>
 .call (q3p.f (0:Int) y1a y1b y1c y1d y1e y1f y1g y1h) fun (y2a, y2b, y2c, y2d, y2e, y2f, y2g, y2h, y2i, y2j, y2k, y2l, y2m, y2n, y2o, y2p, y2q, y2r, y2s, y2t) =>
 .chk ((77:Nat) <= (77:Nat))<|.okl y2p.length<|.okl y2q.length<|.okl y2r.length<|.okl y2s.length<|.okl y2t.length<|.chk ((1:Nat) <= (1:Nat))<|.call (q3y.f y2a y2b y2c y2d y2e y2f y2g y2h y2i y2j (0:Int) y1a y1b y1c y1d y1e y1f y1g y1h y1i y1j y2k (0:Int) y2l y2m y2n y2o y2p y2q y2r y2s (List.take (1:Nat) (List.drop (0:Nat) [List.take (77:Nat) (List.drop (0:Nat) [(80:UInt8), 79, 83, 84, 32, 47, 97, 32, 72, 84, 84, 80, 47, 49, 46, 49, 13, 10, 72, 111, 115, 116, 58, 32, 104, 13, 10, 84, 114, 97, 110, 115, 102, 101, 114, 45, 69, 110, 99, 111, 100, 105, 110, 103, 58, 32, 99, 104, 117, 110, 107, 101, 100, 13, 10, 13, 10, 51, 13, 10, 97, 98, 99, 13, 10, 48, 13, 10, 84, 58, 32, 117, 13, 10, 13, 10, 71])]))) fun (_, _, _, _, _, _, _, _, y3i, _, _, _, _, _, _, _, _, _, _, _, _, y3v, y3w, _, _, _, _, _, y3ac, y3ad, y3ae, y3af) =>
 .okl y3ac.length<|.okl y3ad.length<|.okl y3ae.length<|.okl y3af.length<|.okl y3w.length<|.call (q3v.f y3ac y3ad y3ae y3af y3w) fun _ =>
 .okl y3ac.length<|.okl y3ad.length<|.okl y3ae.length<|.okl y3af.length<|.okl y3w.length<|.call (q3s.f y3i y3v y3ac y3ad y3ae y3af y3w) fun y5 =>
 .call (q3p.f (0:Int) y1a y1b y1c y1d y1e y1f y1g y1h) fun (y6a, y6b, y6c, y6d, y6e, y6f, y6g, y6h, y6i, y6j, y6k, y6l, y6m, y6n, y6o, y6p, y6q, y6r, y6s, y6t) =>
 .chk ((15:Nat) <= (15:Nat))<|.okl y6p.length<|.okl y6q.length<|.okl y6r.length<|.okl y6s.length<|.okl y6t.length<|.chk ((1:Nat) <= (1:Nat))<|.call (q3y.f y6a y6b y6c y6d y6e y6f y6g y6h y6i y6j (0:Int) y1a y1b y1c y1d y1e y1f y1g y1h y1i y1j y6k (0:Int) y6l y6m y6n y6o y6p y6q y6r y6s (List.take (1:Nat) (List.drop (0:Nat) [List.take (15:Nat) (List.drop (0:Nat) [(71:UInt8), 69, 84, 32, 47, 32, 72, 84, 84, 80, 47, 49, 46, 49, 10])]))) fun (_, _, _, _, _, _, _, _, y7i, _, _, _, _, _, _, _, _, _, _, _, _, y7v, y7w, _, _, _, _, _, y7ac, y7ad, y7ae, y7af) =>
 .okl y7ac.length<|.okl y7ad.length<|.okl y7ae.length<|.okl y7af.length<|.okl y7w.length<|.call (q3v.f y7ac y7ad y7ae y7af y7w) fun _ =>
 .okl y7ac.length<|.okl y7ad.length<|.okl y7ae.length<|.okl y7af.length<|.okl y7w.length<|.call (q3s.f y7i y7v y7ac y7ad y7ae y7af y7w) fun y9 =>
 .call (q3p.f (0:Int) y1a y1b y1c y1d y1e y1f y1g y1h) fun (y10a, y10b, y10c, y10d, y10e, y10f, y10g, y10h, y10i, y10j, y10k, y10l, y10m, y10n, y10o, y10p, y10q, y10r, y10s, y10t) =>
 .chk ((48:Nat) <= (48:Nat))<|.chk ((21:Nat) <= (21:Nat))<|.okl y10p.length<|.okl y10q.length<|.okl y10r.length<|.okl y10s.length<|.okl y10t.length<|.chk ((2:Nat) <= (2:Nat))<|.call (q3y.f y10a y10b y10c y10d y10e y10f y10g y10h y10i y10j (0:Int) y1a y1b y1c y1d y1e y1f y1g y1h y1i y1j y10k (0:Int) y10l y10m y10n y10o y10p y10q y10r y10s (List.take (2:Nat) (List.drop (0:Nat) [List.take (48:Nat) (List.drop (0:Nat) [(80:UInt8), 79, 83, 84, 32, 47, 32, 72, 84, 84, 80, 47, 49, 46, 49, 13, 10, 72, 111, 115, 116, 58, 32, 104, 13, 10, 69, 120, 112, 101, 99, 116, 58, 32, 49, 48, 48, 45, 99, 111, 110, 116, 105, 110, 117, 101, 13, 10]), List.take (21:Nat) (List.drop (0:Nat) [(67:UInt8), 111, 110, 116, 101, 110, 116, 45, 76, 101, 110, 103, 116, 104, 58, 32, 50, 13, 10, 13, 10])]))) fun (y11a, y11b, y11c, y11d, y11e, y11f, y11g, y11h, y11i, y11j, y11k, y11l, y11m, y11n, y11o, y11p, y11q, y11r, y11s, y11t, y11u, y11v, y11w, y11x, y11y, y11z, y11aa, y11ab, y11ac, y11ad, y11ae, y11af) =>
 .okl y11ac.length<|.okl y11ad.length<|.okl y11ae.length<|.okl y11af.length<|.okl y11w.length<|.call (q44.f y11j y11v y11ac y11ad y11ae y11af y11w) fun y12 =>
 .okl y11ac.length<|.okl y11ad.length<|.okl y11ae.length<|.okl y11af.length<|.okl y11w.length<|.call (q41.f y11a y11b y11v y11aa y11ac y11ad y11ae y11af y11w) fun y13 =>
 .chk ((2:Nat) <= (2:Nat))<|.okl y11ac.length<|.okl y11ad.length<|.okl y11ae.length<|.okl y11af.length<|.okl y11w.length<|.chk ((1:Nat) <= (1:Nat))<|.call (q3y.f y11a y11b y11c y11d y11e y11f y11g y11h y11i y11j y11k y11l y11m y11n y11o y11p y11q y11r y11s y11t y11u y11v y11x y11y y11z y11aa y11ab y11ac y11ad y11ae y11af (List.take (1:Nat) (List.drop (0:Nat) [List.take (2:Nat) (List.drop (0:Nat) [(97:UInt8), 98])]))) fun (y14a, y14b, _, _, _, _, _, _, y14i, _, _, _, _, _, _, _, _, _, _, _, _, y14v, y14w, _, _, _, y14aa, _, y14ac, y14ad, y14ae, y14af) =>
 .br (y3v == (0:Int)) (.br (!y5) (.br ((↑y3w.length:Int) == (1:Int)) (.chk ((0:Int) <= (0:Int) ∧ (0:Int) < (↑y3w.length:Int))<|.chk ((0:Nat) < y3w.length)<|.br ((y3w.getD (0:Nat) ([], [], 0, [], false, [], [])).snd.snd.snd.snd.snd.fst == [(97:UInt8), 98, 99]) (.chk ((0:Int) <= (0:Int) ∧ (0:Int) < (↑y3w.length:Int))<|.chk ((0:Nat) < y3w.length)<|.br ((↑(List.length (y3w.getD (0:Nat) ([], [], 0, [], false, [], [])).snd.snd.snd.snd.snd.snd):Int) == (1:Int)) (.chk ((0:Int) <= (0:Int) ∧ (0:Int) < (↑y3w.length:Int))<|.chk ((0:Nat) < y3w.length)<|.br ((y3w.getD (0:Nat) ([], [], 0, [], false, [], [])).snd.snd.snd.snd.fst) (.br (y7v == (400:Int)) (.br (!y9) (.br y12 (.br (y13 == (43:Int)) (.br ((↑y14w.length:Int) == (1:Int)) (.okl y14ac.length<|.okl y14ad.length<|.okl y14ae.length<|.okl y14af.length<|.okl y14w.length<|.call (q3s.f y14i y14v y14ac y14ad y14ae y14af y14w) fun y15 =>
       .br y15 (.okl y14ac.length<|.okl y14ad.length<|.okl y14ae.length<|.okl y14af.length<|.okl y14w.length<|.call (q3v.f y14ac y14ad y14ae y14af y14w) fun _ =>
       .br (y14v == (0:Int)) (.okl y14ac.length<|.okl y14ad.length<|.okl y14ae.length<|.okl y14af.length<|.okl y14w.length<|.call (q41.f y14a y14b y14v y14aa y14ac y14ad y14ae y14af y14w) fun y17 =>
        .ret (y17 == (0:Int)))
       (.ret false))
       (.ret false))
      (.ret false))
      (.ret false))
     (.ret false))
     (.ret false))
    (.ret false))
    (.ret false))
   (.ret false))
   (.ret false))
  (.ret false))
  (.ret false))
 (.ret false)
def f  : Option (Bool) := (t ).val
def F (x : D.den) : Option (Bool) := f
def pa : D.den -> (Bool) -> A.den := fun (_, _) y1 => ((), y1)
def con : Con := tcon D A pa F
theorem ok : zgs Tryz.prog 15 con := zia Base.mixed Base.prog_ok q70 (by kernel_rfl) zhr.nil 9 (fun _ => rfl) (fun x => t ) (fun _ => rfl) fun _ _ _ => (by kernel_rfl)
end q21
def q22 : Book := q6z.add 15 q21.con
theorem q23 : zgt Tryz.prog q22 := q70.add q21.ok
namespace q7j
def D : Dom := ⟨[], (.int .u8)⟩
def A : Dom := q6y.A
def t (k:Int) : Tr (Int × Int × Int × Int × Int × Int × Int × Int × Bool × Bool) :=
 .call (q6y.f) fun (y1a, y1b, y1c, y1d, y1e, y1f, _, y1h, y1i, y1j) =>
 .br (k.tmod (6:Int) == (1:Int)) (.br (k.tmod (8:Int) == (7:Int)) (.br (decide (k.tmod (16:Int) > (12:Int))) (.ret ((64:Int), 4, 256, y1d, y1e, y1f, IntKind.i64.wrap ((IntKind.i64.wrap (IntKind.u8.wrap (k.tdiv (32:Int)))).tmod (4:Int) + (1:Int)), y1h, false, false))
  (.ret ((64:Int), 4, 256, y1d, y1e, y1f, IntKind.i64.wrap ((IntKind.i64.wrap (IntKind.u8.wrap (k.tdiv (32:Int)))).tmod (4:Int) + (1:Int)), y1h, false, y1j)))
  (.br (decide (k.tmod (16:Int) > (12:Int))) (.ret ((64:Int), 4, 256, y1d, y1e, y1f, IntKind.i64.wrap ((IntKind.i64.wrap (IntKind.u8.wrap (k.tdiv (32:Int)))).tmod (4:Int) + (1:Int)), y1h, y1i, false))
  (.ret ((64:Int), 4, 256, y1d, y1e, y1f, IntKind.i64.wrap ((IntKind.i64.wrap (IntKind.u8.wrap (k.tdiv (32:Int)))).tmod (4:Int) + (1:Int)), y1h, y1i, y1j))))
 (.br (k.tmod (6:Int) == (2:Int)) (.br (k.tmod (8:Int) == (7:Int)) (.br (decide (k.tmod (16:Int) > (12:Int))) (.ret (y1a, y1b, y1c, 16, 0, 0, IntKind.i64.wrap ((IntKind.i64.wrap (IntKind.u8.wrap (k.tdiv (32:Int)))).tmod (4:Int) + (1:Int)), y1h, false, false))
   (.ret (y1a, y1b, y1c, 16, 0, 0, IntKind.i64.wrap ((IntKind.i64.wrap (IntKind.u8.wrap (k.tdiv (32:Int)))).tmod (4:Int) + (1:Int)), y1h, false, y1j)))
  (.br (decide (k.tmod (16:Int) > (12:Int))) (.ret (y1a, y1b, y1c, 16, 0, 0, IntKind.i64.wrap ((IntKind.i64.wrap (IntKind.u8.wrap (k.tdiv (32:Int)))).tmod (4:Int) + (1:Int)), y1h, y1i, false))
   (.ret (y1a, y1b, y1c, 16, 0, 0, IntKind.i64.wrap ((IntKind.i64.wrap (IntKind.u8.wrap (k.tdiv (32:Int)))).tmod (4:Int) + (1:Int)), y1h, y1i, y1j))))
  (.br (k.tmod (6:Int) == (3:Int)) (.br (k.tmod (8:Int) == (7:Int)) (.br (decide (k.tmod (16:Int) > (12:Int))) (.ret ((80:Int), y1b, y1c, 40, y1e, y1f, IntKind.i64.wrap ((IntKind.i64.wrap (IntKind.u8.wrap (k.tdiv (32:Int)))).tmod (4:Int) + (1:Int)), y1h, false, false))
   (.ret ((80:Int), y1b, y1c, 40, y1e, y1f, IntKind.i64.wrap ((IntKind.i64.wrap (IntKind.u8.wrap (k.tdiv (32:Int)))).tmod (4:Int) + (1:Int)), y1h, false, y1j)))
   (.br (decide (k.tmod (16:Int) > (12:Int))) (.ret ((80:Int), y1b, y1c, 40, y1e, y1f, IntKind.i64.wrap ((IntKind.i64.wrap (IntKind.u8.wrap (k.tdiv (32:Int)))).tmod (4:Int) + (1:Int)), y1h, y1i, false))
   (.ret ((80:Int), y1b, y1c, 40, y1e, y1f, IntKind.i64.wrap ((IntKind.i64.wrap (IntKind.u8.wrap (k.tdiv (32:Int)))).tmod (4:Int) + (1:Int)), y1h, y1i, y1j))))
  (.br (k.tmod (8:Int) == (7:Int)) (.br (decide (k.tmod (16:Int) > (12:Int))) (.ret (y1a, y1b, y1c, y1d, y1e, y1f, IntKind.i64.wrap ((IntKind.i64.wrap (IntKind.u8.wrap (k.tdiv (32:Int)))).tmod (4:Int) + (1:Int)), y1h, false, false))
   (.ret (y1a, y1b, y1c, y1d, y1e, y1f, IntKind.i64.wrap ((IntKind.i64.wrap (IntKind.u8.wrap (k.tdiv (32:Int)))).tmod (4:Int) + (1:Int)), y1h, false, y1j)))
   (.br (decide (k.tmod (16:Int) > (12:Int))) (.ret (y1a, y1b, y1c, y1d, y1e, y1f, IntKind.i64.wrap ((IntKind.i64.wrap (IntKind.u8.wrap (k.tdiv (32:Int)))).tmod (4:Int) + (1:Int)), y1h, y1i, false))
   (.ret (y1a, y1b, y1c, y1d, y1e, y1f, IntKind.i64.wrap ((IntKind.i64.wrap (IntKind.u8.wrap (k.tdiv (32:Int)))).tmod (4:Int) + (1:Int)), y1h, y1i, y1j))))))
def f (k:Int) : Option (Int × Int × Int × Int × Int × Int × Int × Int × Bool × Bool) := (t k).val
def F (x : D.den) : Option (Int × Int × Int × Int × Int × Int × Int × Int × Bool × Bool) := f x.2
def pa : D.den -> (Int × Int × Int × Int × Int × Int × Int × Int × Bool × Bool) -> A.den := fun (_, _) (y1, y2, y3, y4, y5, y6, y7, y8, y9, y10) => ((), (y1, (y2, (y3, (y4, (y5, (y6, (y7, (y8, (y9, y10))))))))))
def con : Con := tcon D A pa F
theorem ok : zgs Tryz.prog 17 con := zia Base.mixed Base.prog_ok q23 (by kernel_rfl) zhr.nil 9 (fun _ => rfl) (fun x => t x.2) (fun _ => rfl) fun _ _ _ => (by kernel_rfl)
end q7j
def q7k : Book := q22.add 17 q7j.con
theorem q7l : zgt Tryz.prog q7k := q23.add q7j.ok
namespace q7s
def D : Dom := ⟨[], (.cat (.int .u8) (.int .u8))⟩
def A : Dom := ⟨[], .str⟩
def tb0_1 (b:Int) : Ls := [[(32:UInt8)], [(32:UInt8), 32], [(9:UInt8)], [(32:UInt8), 9, 32]].getD (((0:Nat) + (b.tmod (4:Int)).toNat) * (1:Nat)) []
def tb0_2 (va:Int) : Ls := [[(72:UInt8), 84, 84, 80, 47, 49, 46, 49], [(72:UInt8), 84, 84, 80, 47, 49, 46, 48], [(72:UInt8), 84, 84, 80, 47, 49, 46, 55], [(104:UInt8), 116, 116, 112, 47, 49, 46, 49], [(72:UInt8), 84, 84, 80, 47, 50, 46, 48], [(72:UInt8), 84, 84, 80, 47, 49, 46, 49]].getD (((0:Nat) + (va.tmod (6:Int)).toNat) * (1:Nat)) []
def tb0_3 (va:Int) : Ls := [[(71:UInt8), 69, 84], [(80:UInt8), 79, 83, 84], [(79:UInt8), 80, 84, 73, 79, 78, 83], [(72:UInt8), 69, 65, 68], [(80:UInt8), 85, 84], [(68:UInt8), 69, 76, 69, 84, 69], [(71:UInt8), 40, 84], [(67:UInt8), 79, 78, 78, 69, 67, 84]].getD (((0:Nat) + (va.tmod (8:Int)).toNat) * (1:Nat)) []
def tb0_4 (b:Int) : Ls := [[(47:UInt8)], [(47:UInt8), 97], [(47:UInt8), 97, 47, 98, 63, 120, 61, 49], [(47:UInt8), 97, 47, 46, 46, 47, 98], [(47:UInt8), 37, 52, 49, 47, 99], [(42:UInt8)], [(104:UInt8), 116, 116, 112, 58, 47, 47, 104, 46, 111, 114, 103, 47, 113, 63], [(47:UInt8), 118, 49, 47, 105, 116, 101, 109, 47, 55], [(47:UInt8), 120, 32, 121], [(47:UInt8), 113, 1], [(47:UInt8), 115, 116, 97, 116, 105, 99, 47, 99, 115, 115, 47, 109, 46, 99, 115, 115], [(104:UInt8), 116, 116, 112, 58, 47, 47, 97]].getD (((0:Nat) + (b.tmod (12:Int)).toNat) * (1:Nat)) []
def k1 (va:Int) (b:Int) : Tr (Ls) :=
 .br (decide (va < (200:Int)))
 (.br (decide (va.tmod (8:Int) > (5:Int)))
 (.br (decide (b > (200:Int)))
 (.chk ((0:Int) <= b.tmod (4:Int) ∧ b.tmod (4:Int) < (4:Int))<|.chk (((0:Nat) + (b.tmod (4:Int)).toNat) * (1:Nat) < (4:Nat))<|.chk ((0:Int) <= va.tmod (6:Int) ∧ va.tmod (6:Int) < (6:Int))<|.chk (((0:Nat) + (va.tmod (6:Int)).toNat) * (1:Nat) < (6:Nat))<|.br (b == (199:Int))
 (.ret [(71:UInt8), 69, 84, 32, 47, 97])
 (.chk ((↑([(71:UInt8), 69, 84].length + (tb0_1 b).length):Int) <= (9223372036854775807:Int))<|.chk ((↑(([(71:UInt8), 69, 84] ++ tb0_1 b).length + [(47:UInt8), 97].length):Int) <= (9223372036854775807:Int))<|.chk ((↑(([(71:UInt8), 69, 84] ++ tb0_1 b ++ [(47:UInt8), 97]).length + (tb0_1 b).length):Int) <= (9223372036854775807:Int))<|.chk ((↑(([(71:UInt8), 69, 84] ++ tb0_1 b ++ [(47:UInt8), 97] ++ tb0_1 b).length + (tb0_2 va).length):Int) <= (9223372036854775807:Int))<|.ret ([(71:UInt8), 69, 84] ++ tb0_1 b ++ [(47:UInt8), 97] ++ tb0_1 b ++ tb0_2 va)))
 (.br (b == (199:Int))
 (.ret [(71:UInt8), 69, 84, 32, 47, 97])
 (.ret [(71:UInt8), 69, 84, 32, 47, 97, 32, 72, 84, 84, 80, 47, 49, 46, 49])))
 (.br (b.tmod (12:Int) == (5:Int))
 (.br (decide (b > (200:Int)))
 (.chk ((0:Int) <= b.tmod (4:Int) ∧ b.tmod (4:Int) < (4:Int))<|.chk (((0:Nat) + (b.tmod (4:Int)).toNat) * (1:Nat) < (4:Nat))<|.chk ((0:Int) <= va.tmod (6:Int) ∧ va.tmod (6:Int) < (6:Int))<|.chk (((0:Nat) + (va.tmod (6:Int)).toNat) * (1:Nat) < (6:Nat))<|.br (b == (199:Int))
 (.ret [(71:UInt8), 69, 84, 32, 47, 97])
 (.chk ((↑([(71:UInt8), 69, 84].length + (tb0_1 b).length):Int) <= (9223372036854775807:Int))<|.chk ((↑(([(71:UInt8), 69, 84] ++ tb0_1 b).length + [(47:UInt8), 97].length):Int) <= (9223372036854775807:Int))<|.chk ((↑(([(71:UInt8), 69, 84] ++ tb0_1 b ++ [(47:UInt8), 97]).length + (tb0_1 b).length):Int) <= (9223372036854775807:Int))<|.chk ((↑(([(71:UInt8), 69, 84] ++ tb0_1 b ++ [(47:UInt8), 97] ++ tb0_1 b).length + (tb0_2 va).length):Int) <= (9223372036854775807:Int))<|.ret ([(71:UInt8), 69, 84] ++ tb0_1 b ++ [(47:UInt8), 97] ++ tb0_1 b ++ tb0_2 va)))
 (.br (b == (199:Int))
 (.ret [(71:UInt8), 69, 84, 32, 47, 97])
 (.ret [(71:UInt8), 69, 84, 32, 47, 97, 32, 72, 84, 84, 80, 47, 49, 46, 49])))
 (.br (decide (b > (200:Int)))
 (.chk ((0:Int) <= b.tmod (4:Int) ∧ b.tmod (4:Int) < (4:Int))<|.chk (((0:Nat) + (b.tmod (4:Int)).toNat) * (1:Nat) < (4:Nat))<|.chk ((0:Int) <= va.tmod (6:Int) ∧ va.tmod (6:Int) < (6:Int))<|.chk (((0:Nat) + (va.tmod (6:Int)).toNat) * (1:Nat) < (6:Nat))<|.br (b == (199:Int))
 (.chk ((↑((tb0_3 va).length + [(32:UInt8)].length):Int) <= (9223372036854775807:Int))<|.chk ((↑((tb0_3 va ++ [(32:UInt8)]).length + (tb0_4 b).length):Int) <= (9223372036854775807:Int))<|.ret (tb0_3 va ++ [(32:UInt8)] ++ tb0_4 b))
 (.chk ((↑((tb0_3 va).length + (tb0_1 b).length):Int) <= (9223372036854775807:Int))<|.chk ((↑((tb0_3 va ++ tb0_1 b).length + (tb0_4 b).length):Int) <= (9223372036854775807:Int))<|.chk ((↑((tb0_3 va ++ tb0_1 b ++ tb0_4 b).length + (tb0_1 b).length):Int) <= (9223372036854775807:Int))<|.chk ((↑((tb0_3 va ++ tb0_1 b ++ tb0_4 b ++ tb0_1 b).length + (tb0_2 va).length):Int) <= (9223372036854775807:Int))<|.ret (tb0_3 va ++ tb0_1 b ++ tb0_4 b ++ tb0_1 b ++ tb0_2 va)))
 (.br (b == (199:Int))
 (.chk ((↑((tb0_3 va).length + [(32:UInt8)].length):Int) <= (9223372036854775807:Int))<|.chk ((↑((tb0_3 va ++ [(32:UInt8)]).length + (tb0_4 b).length):Int) <= (9223372036854775807:Int))<|.ret (tb0_3 va ++ [(32:UInt8)] ++ tb0_4 b))
 (.chk ((↑((tb0_3 va).length + [(32:UInt8)].length):Int) <= (9223372036854775807:Int))<|.chk ((↑((tb0_3 va ++ [(32:UInt8)]).length + (tb0_4 b).length):Int) <= (9223372036854775807:Int))<|.chk ((↑((tb0_3 va ++ [(32:UInt8)] ++ tb0_4 b).length + [(32:UInt8)].length):Int) <= (9223372036854775807:Int))<|.chk ((↑((tb0_3 va ++ [(32:UInt8)] ++ tb0_4 b ++ [(32:UInt8)]).length + [(72:UInt8), 84, 84, 80, 47, 49, 46, 49].length):Int) <= (9223372036854775807:Int))<|.ret (tb0_3 va ++ [(32:UInt8)] ++ tb0_4 b ++ [(32:UInt8)] ++ [(72:UInt8), 84, 84, 80, 47, 49, 46, 49]))))))
 (.br (decide (b > (200:Int)))
 (.chk ((0:Int) <= b.tmod (4:Int) ∧ b.tmod (4:Int) < (4:Int))<|.chk (((0:Nat) + (b.tmod (4:Int)).toNat) * (1:Nat) < (4:Nat))<|.chk ((0:Int) <= va.tmod (6:Int) ∧ va.tmod (6:Int) < (6:Int))<|.chk (((0:Nat) + (va.tmod (6:Int)).toNat) * (1:Nat) < (6:Nat))<|.br (b == (199:Int))
 (.chk ((↑((tb0_3 va).length + [(32:UInt8)].length):Int) <= (9223372036854775807:Int))<|.chk ((↑((tb0_3 va ++ [(32:UInt8)]).length + (tb0_4 b).length):Int) <= (9223372036854775807:Int))<|.ret (tb0_3 va ++ [(32:UInt8)] ++ tb0_4 b))
 (.chk ((↑((tb0_3 va).length + (tb0_1 b).length):Int) <= (9223372036854775807:Int))<|.chk ((↑((tb0_3 va ++ tb0_1 b).length + (tb0_4 b).length):Int) <= (9223372036854775807:Int))<|.chk ((↑((tb0_3 va ++ tb0_1 b ++ tb0_4 b).length + (tb0_1 b).length):Int) <= (9223372036854775807:Int))<|.chk ((↑((tb0_3 va ++ tb0_1 b ++ tb0_4 b ++ tb0_1 b).length + (tb0_2 va).length):Int) <= (9223372036854775807:Int))<|.ret (tb0_3 va ++ tb0_1 b ++ tb0_4 b ++ tb0_1 b ++ tb0_2 va)))
 (.br (b == (199:Int))
 (.chk ((↑((tb0_3 va).length + [(32:UInt8)].length):Int) <= (9223372036854775807:Int))<|.chk ((↑((tb0_3 va ++ [(32:UInt8)]).length + (tb0_4 b).length):Int) <= (9223372036854775807:Int))<|.ret (tb0_3 va ++ [(32:UInt8)] ++ tb0_4 b))
 (.chk ((↑((tb0_3 va).length + [(32:UInt8)].length):Int) <= (9223372036854775807:Int))<|.chk ((↑((tb0_3 va ++ [(32:UInt8)]).length + (tb0_4 b).length):Int) <= (9223372036854775807:Int))<|.chk ((↑((tb0_3 va ++ [(32:UInt8)] ++ tb0_4 b).length + [(32:UInt8)].length):Int) <= (9223372036854775807:Int))<|.chk ((↑((tb0_3 va ++ [(32:UInt8)] ++ tb0_4 b ++ [(32:UInt8)]).length + [(72:UInt8), 84, 84, 80, 47, 49, 46, 49].length):Int) <= (9223372036854775807:Int))<|.ret (tb0_3 va ++ [(32:UInt8)] ++ tb0_4 b ++ [(32:UInt8)] ++ [(72:UInt8), 84, 84, 80, 47, 49, 46, 49]))))
def k2 (va:Int) (b:Int) : Tr (Ls) :=
 .br (decide (b > (200:Int)))
 (.chk ((0:Int) <= b.tmod (4:Int) ∧ b.tmod (4:Int) < (4:Int))<|.chk (((0:Nat) + (b.tmod (4:Int)).toNat) * (1:Nat) < (4:Nat))<|.chk ((0:Int) <= va.tmod (6:Int) ∧ va.tmod (6:Int) < (6:Int))<|.chk (((0:Nat) + (va.tmod (6:Int)).toNat) * (1:Nat) < (6:Nat))<|.br (b == (199:Int))
 (.chk ((↑((tb0_3 va).length + [(32:UInt8)].length):Int) <= (9223372036854775807:Int))<|.chk ((↑((tb0_3 va ++ [(32:UInt8)]).length + [(47:UInt8), 97].length):Int) <= (9223372036854775807:Int))<|.ret (tb0_3 va ++ [(32:UInt8)] ++ [(47:UInt8), 97]))
 (.chk ((↑((tb0_3 va).length + (tb0_1 b).length):Int) <= (9223372036854775807:Int))<|.chk ((↑((tb0_3 va ++ tb0_1 b).length + [(47:UInt8), 97].length):Int) <= (9223372036854775807:Int))<|.chk ((↑((tb0_3 va ++ tb0_1 b ++ [(47:UInt8), 97]).length + (tb0_1 b).length):Int) <= (9223372036854775807:Int))<|.chk ((↑((tb0_3 va ++ tb0_1 b ++ [(47:UInt8), 97] ++ tb0_1 b).length + (tb0_2 va).length):Int) <= (9223372036854775807:Int))<|.ret (tb0_3 va ++ tb0_1 b ++ [(47:UInt8), 97] ++ tb0_1 b ++ tb0_2 va)))
 (.br (b == (199:Int))
 (.chk ((↑((tb0_3 va).length + [(32:UInt8)].length):Int) <= (9223372036854775807:Int))<|.chk ((↑((tb0_3 va ++ [(32:UInt8)]).length + [(47:UInt8), 97].length):Int) <= (9223372036854775807:Int))<|.ret (tb0_3 va ++ [(32:UInt8)] ++ [(47:UInt8), 97]))
 (.chk ((↑((tb0_3 va).length + [(32:UInt8)].length):Int) <= (9223372036854775807:Int))<|.chk ((↑((tb0_3 va ++ [(32:UInt8)]).length + [(47:UInt8), 97].length):Int) <= (9223372036854775807:Int))<|.chk ((↑((tb0_3 va ++ [(32:UInt8)] ++ [(47:UInt8), 97]).length + [(32:UInt8)].length):Int) <= (9223372036854775807:Int))<|.chk ((↑((tb0_3 va ++ [(32:UInt8)] ++ [(47:UInt8), 97] ++ [(32:UInt8)]).length + [(72:UInt8), 84, 84, 80, 47, 49, 46, 49].length):Int) <= (9223372036854775807:Int))<|.ret (tb0_3 va ++ [(32:UInt8)] ++ [(47:UInt8), 97] ++ [(32:UInt8)] ++ [(72:UInt8), 84, 84, 80, 47, 49, 46, 49])))
def k3 (va:Int) (b:Int) : Tr (Ls) :=
 .br (decide (b > (200:Int)))
 (.chk ((0:Int) <= b.tmod (4:Int) ∧ b.tmod (4:Int) < (4:Int))<|.chk (((0:Nat) + (b.tmod (4:Int)).toNat) * (1:Nat) < (4:Nat))<|.chk ((0:Int) <= va.tmod (6:Int) ∧ va.tmod (6:Int) < (6:Int))<|.chk (((0:Nat) + (va.tmod (6:Int)).toNat) * (1:Nat) < (6:Nat))<|.br (b == (199:Int))
 (.ret [(71:UInt8), 69, 84, 32, 47, 97])
 (.chk ((↑([(71:UInt8), 69, 84].length + (tb0_1 b).length):Int) <= (9223372036854775807:Int))<|.chk ((↑(([(71:UInt8), 69, 84] ++ tb0_1 b).length + [(47:UInt8), 97].length):Int) <= (9223372036854775807:Int))<|.chk ((↑(([(71:UInt8), 69, 84] ++ tb0_1 b ++ [(47:UInt8), 97]).length + (tb0_1 b).length):Int) <= (9223372036854775807:Int))<|.chk ((↑(([(71:UInt8), 69, 84] ++ tb0_1 b ++ [(47:UInt8), 97] ++ tb0_1 b).length + (tb0_2 va).length):Int) <= (9223372036854775807:Int))<|.ret ([(71:UInt8), 69, 84] ++ tb0_1 b ++ [(47:UInt8), 97] ++ tb0_1 b ++ tb0_2 va)))
 (.br (b == (199:Int))
 (.ret [(71:UInt8), 69, 84, 32, 47, 97])
 (.ret [(71:UInt8), 69, 84, 32, 47, 97, 32, 72, 84, 84, 80, 47, 49, 46, 49]))
def t (va:Int) (b:Int) : Tr (Ls) :=
 .chk ((0:Int) <= b.tmod (12:Int) ∧ b.tmod (12:Int) < (12:Int))<|.chk (((0:Nat) + (b.tmod (12:Int)).toNat) * (1:Nat) < (12:Nat))<|.chk ((0:Int) <= va.tmod (8:Int) ∧ va.tmod (8:Int) < (8:Int))<|.chk (((0:Nat) + (va.tmod (8:Int)).toNat) * (1:Nat) < (8:Nat))<|.br (decide (va < (200:Int))) (.br (decide (b.tmod (12:Int) > (7:Int))) (.br (b.tmod (12:Int) != (10:Int)) (.br (decide (va < (200:Int))) (.br (decide (va.tmod (8:Int) > (5:Int))) (k3 va b)
   (.br (b.tmod (12:Int) == (5:Int)) (k3 va b)
    (k2 va b)))
   (k2 va b))
  (k1 va b))
  (k1 va b))
 (k1 va b)
def f (va:Int) (b:Int) : Option (Ls) := (t va b).val
def F (x : D.den) : Option (Ls) := f x.2.1 x.2.2
def pa : D.den -> (Ls) -> A.den := fun (_, (_, _)) y1 => ((), y1)
def con : Con := tcon D A pa F
theorem ok : zgs Tryz.prog 58 con := zia Base.mixed Base.prog_ok q7l (by kernel_rfl) zhr.nil 9 (fun _ => rfl) (fun x => t x.2.1 x.2.2) (fun _ => rfl) fun _ _ _ => (by kernel_rfl)
end q7s
def q7t : Book := q7k.add 58 q7s.con
theorem q7u : zgt Tryz.prog q7t := q7l.add q7s.ok
namespace q7m
def D : Dom := ⟨[], (.int .u8)⟩
def A : Dom := ⟨[], .str⟩
def t (k:Int) : Tr (Ls) :=
 .br (decide (k < (235:Int))) (.ret [(13:UInt8), 10])
 (.chk ((0:Int) <= k.tmod (4:Int) ∧ k.tmod (4:Int) < (4:Int))<|.chk (((0:Nat) + (k.tmod (4:Int)).toNat) * (1:Nat) < (4:Nat))<|.ret ([[(10:UInt8)], [(13:UInt8)], [(13:UInt8), 13, 10], [(10:UInt8), 10]].getD (((0:Nat) + (k.tmod (4:Int)).toNat) * (1:Nat)) []))
def f (k:Int) : Option (Ls) := (t k).val
def F (x : D.den) : Option (Ls) := f x.2
def pa : D.den -> (Ls) -> A.den := fun (_, _) y1 => ((), y1)
def con : Con := tcon D A pa F
theorem ok : zgs Tryz.prog 59 con := zia Base.mixed Base.prog_ok q7u (by kernel_rfl) zhr.nil 9 (fun _ => rfl) (fun x => t x.2) (fun _ => rfl) fun _ _ _ => (by kernel_rfl)
end q7m
def q7n : Book := q7t.add 59 q7m.con
theorem q7o : zgt Tryz.prog q7n := q7u.add q7m.ok
namespace q7p
def D : Dom := ⟨[], (.cat (.int .u8) (.int .u8))⟩
def A : Dom := ⟨[], .str⟩
def t (va:Int) (b:Int) : Tr (Ls) :=
 .br (decide (va < (150:Int))) (.chk ((0:Int) <= (IntKind.i64.wrap b).tmod (16:Int) ∧ (IntKind.i64.wrap b).tmod (16:Int) < (16:Int))<|.chk (((0:Nat) + ((IntKind.i64.wrap b).tmod (16:Int)).toNat) * (1:Nat) < (16:Nat))<|.ret ([[(72:UInt8), 111, 115, 116, 58, 32, 104, 46, 111, 114, 103], [(72:UInt8), 111, 115, 116, 58, 32, 97], [(65:UInt8), 58, 32, 98], [(88:UInt8), 45, 89, 58, 32, 32, 122, 32], [(65:UInt8), 99, 99, 101, 112, 116, 58, 32, 42, 47, 42], [(79:UInt8), 114, 105, 103, 105, 110, 58, 32, 104, 116, 116, 112, 58, 47, 47, 111, 46, 111, 114, 103], [(65:UInt8), 117, 116, 104, 111, 114, 105, 122, 97, 116, 105, 111, 110, 58, 32, 66, 97, 115, 105, 99, 32, 100, 84, 112, 119], [(67:UInt8), 111, 110, 110, 101, 99, 116, 105, 111, 110, 58, 32, 107, 101, 101, 112, 45, 97, 108, 105, 118, 101], [(67:UInt8), 111, 111, 107, 105, 101, 58, 32, 97, 61, 49, 44, 32, 98, 61, 50], [(69:UInt8), 120, 112, 101, 99, 116, 58, 32, 49, 48, 48, 45, 99, 111, 110, 116, 105, 110, 117, 101], [(85:UInt8), 112, 103, 114, 97, 100, 101, 58, 32, 120], [(88:UInt8), 45, 70, 111, 114, 119, 97, 114, 100, 101, 100, 45, 70, 111, 114, 58, 32, 49, 46, 50, 46, 51, 46, 52], [(67:UInt8), 111, 110, 110, 101, 99, 116, 105, 111, 110, 58, 32, 88, 45, 89], [(84:UInt8), 69, 58, 32, 116, 114, 97, 105, 108, 101, 114, 115], [(86:UInt8), 105, 97, 58, 32, 49, 46, 48, 32, 113], [(65:UInt8), 99, 99, 101, 115, 115, 45, 67, 111, 110, 116, 114, 111, 108, 45, 82, 101, 113, 117, 101, 115, 116, 45, 77, 101, 116, 104, 111, 100, 58, 32, 80, 85, 84]].getD (((0:Nat) + ((IntKind.i64.wrap b).tmod (16:Int)).toNat) * (1:Nat)) []))
 (.chk ((0:Int) <= (IntKind.i64.wrap b).tmod (22:Int) ∧ (IntKind.i64.wrap b).tmod (22:Int) < (22:Int))<|.chk (((0:Nat) + ((IntKind.i64.wrap b).tmod (22:Int)).toNat) * (1:Nat) < (22:Nat))<|.ret ([[(72:UInt8), 111, 115, 116, 32, 58, 32, 97], [(40:UInt8), 120, 58, 32, 49], [(110:UInt8), 111, 118, 97, 108, 117, 101], [(58:UInt8), 32, 110, 97, 109, 101, 108, 101, 115, 115], [(32:UInt8), 102, 111, 108, 100, 101, 100], [(9:UInt8), 102, 111, 108, 100, 101, 100, 58, 32, 116, 111, 111], [(86:UInt8), 58, 32, 97, 1, 98], [(84:UInt8), 114, 97, 110, 115, 102, 101, 114, 45, 69, 110, 99, 111, 100, 105, 110, 103, 58, 32, 103, 122, 105, 112], [(84:UInt8), 114, 97, 110, 115, 102, 101, 114, 45, 69, 110, 99, 111, 100, 105, 110, 103, 58, 32, 103, 122, 105, 112, 44, 32, 99, 104, 117, 110, 107, 101, 100], [(84:UInt8), 114, 97, 110, 115, 102, 101, 114, 45, 69, 110, 99, 111, 100, 105, 110, 103, 58, 32, 11, 99, 104, 117, 110, 107, 101, 100], [(84:UInt8), 114, 97, 110, 115, 102, 101, 114, 45, 69, 110, 99, 111, 100, 105, 110, 103, 58, 32, 67, 104, 117, 110, 107, 101, 100], [(67:UInt8), 111, 110, 116, 101, 110, 116, 45, 76, 101, 110, 103, 116, 104, 58, 32, 43, 51], [(67:UInt8), 111, 110, 116, 101, 110, 116, 45, 76, 101, 110, 103, 116, 104, 58, 32, 51, 44, 32, 51], [(67:UInt8), 111, 110, 116, 101, 110, 116, 45, 76, 101, 110, 103, 116, 104, 58, 32, 51], [(67:UInt8), 111, 110, 116, 101, 110, 116, 45, 76, 101, 110, 103, 116, 104, 58, 32, 48], [(67:UInt8), 111, 110, 116, 101, 110, 116, 45, 76, 101, 110, 103, 116, 104, 58, 32, 48, 51], [(72:UInt8), 111, 115, 116, 58, 32, 98], [(72:UInt8), 111, 115, 116, 58, 32, 97, 58, 57, 57, 57, 57, 57], [(67:UInt8), 111, 110, 110, 101, 99, 116, 105, 111, 110, 58, 32, 99, 108, 111, 115, 101], [(67:UInt8), 111, 110, 116, 101, 110, 116, 45, 76, 101, 110, 103, 116, 104, 58, 32, 57, 57, 57, 57, 57, 57, 57, 57, 57, 57, 57, 57, 57, 57, 57, 57, 57, 57, 57, 57], [(86:UInt8), 58, 32, 255, 128], [(84:UInt8), 114, 97, 110, 115, 102, 101, 114, 45, 69, 110, 99, 111, 100, 105, 110, 103, 58, 32, 99, 104, 117, 110, 107, 101, 100, 44, 32, 99, 104, 117, 110, 107, 101, 100]].getD (((0:Nat) + ((IntKind.i64.wrap b).tmod (22:Int)).toNat) * (1:Nat)) []))
def f (va:Int) (b:Int) : Option (Ls) := (t va b).val
def F (x : D.den) : Option (Ls) := f x.2.1 x.2.2
def pa : D.den -> (Ls) -> A.den := fun (_, (_, _)) y1 => ((), y1)
def con : Con := tcon D A pa F
theorem ok : zgs Tryz.prog 60 con := zia Base.mixed Base.prog_ok q7o (by kernel_rfl) zhr.nil 9 (fun _ => rfl) (fun x => t x.2.1 x.2.2) (fun _ => rfl) fun _ _ _ => (by kernel_rfl)
end q7p
def q7q : Book := q7n.add 60 q7p.con
theorem q7r : zgt Tryz.prog q7q := q7o.add q7p.ok
namespace q6j
def D : Dom := ⟨[], (.cat (.int .i64) (.int .i64))⟩
def A : Dom := ⟨[], .str⟩
def f : Option (Ls) := none
def F (x : D.den) : Option (Ls) := f
def pa : D.den -> (Ls) -> A.den := fun _ y1 => ((), y1)
def con : Con := tcon D A pa F
theorem ok : zgs Tryz.prog 54 con := fun x h => absurd rfl h
end q6j
def q6k : Book := q7q.add 54 q6j.con
theorem q6l : zgt Tryz.prog q6k := q7r.add q6j.ok
namespace q6m
def D : Dom := ⟨[], (.cat (.int .i64) (.int .i64))⟩
def A : Dom := ⟨[], .str⟩
def t (n:Int) (base:Int) : Tr (Ls) :=
 .br (decide (n < base)) (.chk ((0:Int) <= mx2 n (0:Int) ∧ mx2 n (0:Int) <= IntKind.i64.wrap (mx2 n (0:Int) + (1:Int)) ∧ IntKind.i64.wrap (mx2 n (0:Int) + (1:Int)) <= (16:Int))<|.ret (List.drop (mx2 n (0:Int)).toNat (List.take (IntKind.i64.wrap (mx2 n (0:Int) + (1:Int))).toNat [(48:UInt8), 49, 50, 51, 52, 53, 54, 55, 56, 57, 97, 98, 99, 100, 101, 102])))
 (.chk (base ≠ (0:Int))<|.call (q6j.f) fun y1 =>
  .chk (base ≠ (0:Int))<|.call (q6j.f) fun y2 =>
  .chk ((↑(y1.length + y2.length):Int) <= (9223372036854775807:Int))<|.ret (y1 ++ y2))
def f (n:Int) (base:Int) : Option (Ls) := (t n base).val
def F (x : D.den) : Option (Ls) := f x.2.1 x.2.2
def pa : D.den -> (Ls) -> A.den := fun (_, (_, _)) y1 => ((), y1)
def con : Con := tcon D A pa F
theorem ok : zgs Tryz.prog 54 con := zia Base.mixed Base.prog_ok q6l (by kernel_rfl) zhr.nil 9 (fun _ => rfl) (fun x => t x.2.1 x.2.2) (fun _ => rfl) fun _ _ _ => (by kernel_rfl)
end q6m
def q6n : Book := q6k.add 54 q6m.con
theorem q6o : zgt Tryz.prog q6n := q6l.add q6m.ok
namespace q6p
def D : Dom := ⟨[], (.cat (.int .i64) (.int .i64))⟩
def A : Dom := ⟨[], .str⟩
def t (n:Int) (base:Int) : Tr (Ls) :=
 .br (decide (n < base)) (.chk ((0:Int) <= mx2 n (0:Int) ∧ mx2 n (0:Int) <= IntKind.i64.wrap (mx2 n (0:Int) + (1:Int)) ∧ IntKind.i64.wrap (mx2 n (0:Int) + (1:Int)) <= (16:Int))<|.ret (List.drop (mx2 n (0:Int)).toNat (List.take (IntKind.i64.wrap (mx2 n (0:Int) + (1:Int))).toNat [(48:UInt8), 49, 50, 51, 52, 53, 54, 55, 56, 57, 97, 98, 99, 100, 101, 102])))
 (.chk (base ≠ (0:Int))<|.call (q6m.f (IntKind.i64.wrap (n.tdiv base)) base) fun y1 =>
  .chk (base ≠ (0:Int))<|.call (q6m.f (n.tmod base) base) fun y2 =>
  .chk ((↑(y1.length + y2.length):Int) <= (9223372036854775807:Int))<|.ret (y1 ++ y2))
def f (n:Int) (base:Int) : Option (Ls) := (t n base).val
def F (x : D.den) : Option (Ls) := f x.2.1 x.2.2
def pa : D.den -> (Ls) -> A.den := fun (_, (_, _)) y1 => ((), y1)
def con : Con := tcon D A pa F
theorem ok : zgs Tryz.prog 54 con := zia Base.mixed Base.prog_ok q6o (by kernel_rfl) zhr.nil 9 (fun _ => rfl) (fun x => t x.2.1 x.2.2) (fun _ => rfl) fun _ _ _ => (by kernel_rfl)
end q6p
def q6q : Book := q6n.add 54 q6p.con
theorem q6r : zgt Tryz.prog q6q := q6o.add q6p.ok
namespace q6s
def D : Dom := ⟨[], (.cat (.int .i64) (.int .i64))⟩
def A : Dom := ⟨[], .str⟩
def t (n:Int) (base:Int) : Tr (Ls) :=
 .br (decide (n < base)) (.chk ((0:Int) <= mx2 n (0:Int) ∧ mx2 n (0:Int) <= IntKind.i64.wrap (mx2 n (0:Int) + (1:Int)) ∧ IntKind.i64.wrap (mx2 n (0:Int) + (1:Int)) <= (16:Int))<|.ret (List.drop (mx2 n (0:Int)).toNat (List.take (IntKind.i64.wrap (mx2 n (0:Int) + (1:Int))).toNat [(48:UInt8), 49, 50, 51, 52, 53, 54, 55, 56, 57, 97, 98, 99, 100, 101, 102])))
 (.chk (base ≠ (0:Int))<|.call (q6p.f (IntKind.i64.wrap (n.tdiv base)) base) fun y1 =>
  .chk (base ≠ (0:Int))<|.call (q6p.f (n.tmod base) base) fun y2 =>
  .chk ((↑(y1.length + y2.length):Int) <= (9223372036854775807:Int))<|.ret (y1 ++ y2))
def f (n:Int) (base:Int) : Option (Ls) := (t n base).val
def F (x : D.den) : Option (Ls) := f x.2.1 x.2.2
def pa : D.den -> (Ls) -> A.den := fun (_, (_, _)) y1 => ((), y1)
def con : Con := tcon D A pa F
theorem ok : zgs Tryz.prog 54 con := zia Base.mixed Base.prog_ok q6r (by kernel_rfl) zhr.nil 9 (fun _ => rfl) (fun x => t x.2.1 x.2.2) (fun _ => rfl) fun _ _ _ => (by kernel_rfl)
end q6s
def q6t : Book := q6q.add 54 q6s.con
theorem q6u : zgt Tryz.prog q6t := q6r.add q6s.ok
namespace q6v
def D : Dom := ⟨[], (.cat (.int .i64) (.int .i64))⟩
def A : Dom := ⟨[], .str⟩
def t (n:Int) (base:Int) : Tr (Ls) :=
 .br (decide (n < base)) (.chk ((0:Int) <= mx2 n (0:Int) ∧ mx2 n (0:Int) <= IntKind.i64.wrap (mx2 n (0:Int) + (1:Int)) ∧ IntKind.i64.wrap (mx2 n (0:Int) + (1:Int)) <= (16:Int))<|.ret (List.drop (mx2 n (0:Int)).toNat (List.take (IntKind.i64.wrap (mx2 n (0:Int) + (1:Int))).toNat [(48:UInt8), 49, 50, 51, 52, 53, 54, 55, 56, 57, 97, 98, 99, 100, 101, 102])))
 (.chk (base ≠ (0:Int))<|.call (q6s.f (IntKind.i64.wrap (n.tdiv base)) base) fun y1 =>
  .chk (base ≠ (0:Int))<|.call (q6s.f (n.tmod base) base) fun y2 =>
  .chk ((↑(y1.length + y2.length):Int) <= (9223372036854775807:Int))<|.ret (y1 ++ y2))
def f (n:Int) (base:Int) : Option (Ls) := (t n base).val
def F (x : D.den) : Option (Ls) := f x.2.1 x.2.2
def pa : D.den -> (Ls) -> A.den := fun (_, (_, _)) y1 => ((), y1)
def con : Con := tcon D A pa F
theorem ok : zgs Tryz.prog 54 con := zia Base.mixed Base.prog_ok q6u (by kernel_rfl) zhr.nil 9 (fun _ => rfl) (fun x => t x.2.1 x.2.2) (fun _ => rfl) fun _ _ _ => (by kernel_rfl)
end q6v
def q6w : Book := q6t.add 54 q6v.con
theorem q6x : zgt Tryz.prog q6w := q6u.add q6v.ok
namespace q6d
def D : Dom := ⟨[], (.int .i64)⟩
def A : Dom := ⟨[], .str⟩
def t (n:Int) : Tr (Ls) :=
 .call (q6v.f n (10:Int)) fun y1 =>
 .ret y1
def f (n:Int) : Option (Ls) := (t n).val
def F (x : D.den) : Option (Ls) := f x.2
def pa : D.den -> (Ls) -> A.den := fun (_, _) y1 => ((), y1)
def con : Con := tcon D A pa F
theorem ok : zgs Tryz.prog 37 con := zia Base.mixed Base.prog_ok q6x (by kernel_rfl) zhr.nil 9 (fun _ => rfl) (fun x => t x.2) (fun _ => rfl) fun _ _ _ => (by kernel_rfl)
end q6d
def q6e : Book := q6w.add 37 q6d.con
theorem q6f : zgt Tryz.prog q6e := q6x.add q6d.ok
namespace q6g
def D : Dom := ⟨[], (.int .i64)⟩
def A : Dom := ⟨[], .str⟩
def t (n:Int) : Tr (Ls) :=
 .call (q6v.f n (16:Int)) fun y1 =>
 .ret y1
def f (n:Int) : Option (Ls) := (t n).val
def F (x : D.den) : Option (Ls) := f x.2
def pa : D.den -> (Ls) -> A.den := fun (_, _) y1 => ((), y1)
def con : Con := tcon D A pa F
theorem ok : zgs Tryz.prog 55 con := zia Base.mixed Base.prog_ok q6f (by kernel_rfl) zhr.nil 9 (fun _ => rfl) (fun x => t x.2) (fun _ => rfl) fun _ _ _ => (by kernel_rfl)
end q6g
def q6h : Book := q6e.add 55 q6g.con
theorem q6i : zgt Tryz.prog q6h := q6f.add q6g.ok
namespace q7g
def D : Dom := ⟨[], (.cat (.int .u8) (.cat (.int .u8) (.int .u8)))⟩
def A : Dom := ⟨[], (.tup (.cat .str .str))⟩
def tb1_1 (n:Int) : Ls := [[(13:UInt8), 10], [(13:UInt8), 10], [], [(10:UInt8)], [(13:UInt8)]].getD (((0:Nat) + (n.tmod (5:Int)).toNat) * (1:Nat)) []
set_option maxHeartbeats 4000000 in
def t (kind:Int) (n:Int) (k:Int) : Tr (Ls × Ls) :=
 .chk ((0:Int) <= (0:Int) ∧ (0:Int) <= n.tmod (20:Int) ∧ n.tmod (20:Int) <= (26:Int))<|.br (kind.tmod (6:Int) == (0:Int)) (.call (q6d.f (↑(List.drop (↑(0:Nat):Int).toNat (List.take (n.tmod (20:Int)).toNat [(48:UInt8), 49, 50, 51, 52, 53, 54, 55, 56, 57, 97, 98, 99, 100, 101, 102, 103, 104, 105, 106, 107, 108, 109, 110, 111, 112])).length:Int)) fun y1 =>
  .chk ((↑([(67:UInt8), 111, 110, 116, 101, 110, 116, 45, 76, 101, 110, 103, 116, 104, 58, 32].length + y1.length):Int) <= (9223372036854775807:Int))<|.call (q7m.f k) fun y2 =>
  .chk ((↑(([(67:UInt8), 111, 110, 116, 101, 110, 116, 45, 76, 101, 110, 103, 116, 104, 58, 32] ++ y1).length + y2.length):Int) <= (9223372036854775807:Int))<|.ret ([(67:UInt8), 111, 110, 116, 101, 110, 116, 45, 76, 101, 110, 103, 116, 104, 58, 32] ++ y1 ++ y2, List.drop (↑(0:Nat):Int).toNat (List.take (n.tmod (20:Int)).toNat [(48:UInt8), 49, 50, 51, 52, 53, 54, 55, 56, 57, 97, 98, 99, 100, 101, 102, 103, 104, 105, 106, 107, 108, 109, 110, 111, 112])))
 (.br (kind.tmod (6:Int) == (1:Int)) (.call (q6d.f (↑(List.drop (↑(0:Nat):Int).toNat (List.take (n.tmod (20:Int)).toNat [(48:UInt8), 49, 50, 51, 52, 53, 54, 55, 56, 57, 97, 98, 99, 100, 101, 102, 103, 104, 105, 106, 107, 108, 109, 110, 111, 112])).length:Int)) fun y3 =>
  .chk ((↑([(67:UInt8), 111, 110, 116, 101, 110, 116, 45, 76, 101, 110, 103, 116, 104, 58, 32].length + y3.length):Int) <= (9223372036854775807:Int))<|.call (q7m.f k) fun y4 =>
  .chk ((↑(([(67:UInt8), 111, 110, 116, 101, 110, 116, 45, 76, 101, 110, 103, 116, 104, 58, 32] ++ y3).length + y4.length):Int) <= (9223372036854775807:Int))<|.ret ([(67:UInt8), 111, 110, 116, 101, 110, 116, 45, 76, 101, 110, 103, 116, 104, 58, 32] ++ y3 ++ y4, List.drop (↑(0:Nat):Int).toNat (List.take (n.tmod (20:Int)).toNat [(48:UInt8), 49, 50, 51, 52, 53, 54, 55, 56, 57, 97, 98, 99, 100, 101, 102, 103, 104, 105, 106, 107, 108, 109, 110, 111, 112])))
  (.br (kind.tmod (6:Int) == (2:Int)) (.br (n.tmod (20:Int) == (0:Int)) (.call (q7m.f k) fun y5 =>
   .chk ((↑([(84:UInt8), 114, 97, 110, 115, 102, 101, 114, 45, 69, 110, 99, 111, 100, 105, 110, 103, 58, 32, 99, 104, 117, 110, 107, 101, 100].length + y5.length):Int) <= (9223372036854775807:Int))<|.ret ([(84:UInt8), 114, 97, 110, 115, 102, 101, 114, 45, 69, 110, 99, 111, 100, 105, 110, 103, 58, 32, 99, 104, 117, 110, 107, 101, 100] ++ y5, [(48:UInt8), 13, 10, 13, 10]))
   (.call (q7m.f k) fun y6 =>
   .chk ((↑([(84:UInt8), 114, 97, 110, 115, 102, 101, 114, 45, 69, 110, 99, 111, 100, 105, 110, 103, 58, 32, 99, 104, 117, 110, 107, 101, 100].length + y6.length):Int) <= (9223372036854775807:Int))<|.call (q6g.f (↑(List.drop (↑(0:Nat):Int).toNat (List.take (n.tmod (20:Int)).toNat [(48:UInt8), 49, 50, 51, 52, 53, 54, 55, 56, 57, 97, 98, 99, 100, 101, 102, 103, 104, 105, 106, 107, 108, 109, 110, 111, 112])).length:Int)) fun y7 =>
   .chk ((↑(y7.length + [(13:UInt8), 10].length):Int) <= (9223372036854775807:Int))<|.chk ((↑((y7 ++ [(13:UInt8), 10]).length + (List.drop (↑(0:Nat):Int).toNat (List.take (n.tmod (20:Int)).toNat [(48:UInt8), 49, 50, 51, 52, 53, 54, 55, 56, 57, 97, 98, 99, 100, 101, 102, 103, 104, 105, 106, 107, 108, 109, 110, 111, 112])).length):Int) <= (9223372036854775807:Int))<|.chk ((↑((y7 ++ [(13:UInt8), 10] ++ List.drop (↑(0:Nat):Int).toNat (List.take (n.tmod (20:Int)).toNat [(48:UInt8), 49, 50, 51, 52, 53, 54, 55, 56, 57, 97, 98, 99, 100, 101, 102, 103, 104, 105, 106, 107, 108, 109, 110, 111, 112])).length + [(13:UInt8), 10, 48, 13, 10, 13, 10].length):Int) <= (9223372036854775807:Int))<|.ret ([(84:UInt8), 114, 97, 110, 115, 102, 101, 114, 45, 69, 110, 99, 111, 100, 105, 110, 103, 58, 32, 99, 104, 117, 110, 107, 101, 100] ++ y6, y7 ++ [(13:UInt8), 10] ++ List.drop (↑(0:Nat):Int).toNat (List.take (n.tmod (20:Int)).toNat [(48:UInt8), 49, 50, 51, 52, 53, 54, 55, 56, 57, 97, 98, 99, 100, 101, 102, 103, 104, 105, 106, 107, 108, 109, 110, 111, 112]) ++ [(13:UInt8), 10, 48, 13, 10, 13, 10])))
  (.br (kind.tmod (6:Int) == (3:Int)) (.chk ((↑([(51:UInt8), 59].length + (List.drop (↑(0:Nat):Int).toNat (List.take (n.tmod (20:Int)).toNat [(48:UInt8), 49, 50, 51, 52, 53, 54, 55, 56, 57, 97, 98, 99, 100, 101, 102, 103, 104, 105, 106, 107, 108, 109, 110, 111, 112])).length):Int) <= (9223372036854775807:Int))<|.chk ((↑(([(51:UInt8), 59] ++ List.drop (↑(0:Nat):Int).toNat (List.take (n.tmod (20:Int)).toNat [(48:UInt8), 49, 50, 51, 52, 53, 54, 55, 56, 57, 97, 98, 99, 100, 101, 102, 103, 104, 105, 106, 107, 108, 109, 110, 111, 112])).length + (List.drop (↑(0:Nat):Int).toNat (List.take (n.tmod (20:Int)).toNat [(48:UInt8), 49, 50, 51, 52, 53, 54, 55, 56, 57, 97, 98, 99, 100, 101, 102, 103, 104, 105, 106, 107, 108, 109, 110, 111, 112])).length):Int) <= (9223372036854775807:Int))<|.chk ((0:Int) <= k.tmod (9:Int) ∧ k.tmod (9:Int) < (9:Int))<|.chk (((0:Nat) + (k.tmod (9:Int)).toNat) * (1:Nat) < [[(51:UInt8)], [(48:UInt8), 120, 51], [(32:UInt8), 51], [(51:UInt8), 59, 97, 61, 98], [(51:UInt8), 32, 59, 120], [(48:UInt8), 51], [(51:UInt8), 9], [(103:UInt8)], [(51:UInt8), 59] ++ List.drop (↑(0:Nat):Int).toNat (List.take (n.tmod (20:Int)).toNat [(48:UInt8), 49, 50, 51, 52, 53, 54, 55, 56, 57, 97, 98, 99, 100, 101, 102, 103, 104, 105, 106, 107, 108, 109, 110, 111, 112]) ++ List.drop (↑(0:Nat):Int).toNat (List.take (n.tmod (20:Int)).toNat [(48:UInt8), 49, 50, 51, 52, 53, 54, 55, 56, 57, 97, 98, 99, 100, 101, 102, 103, 104, 105, 106, 107, 108, 109, 110, 111, 112])].length)<|.chk ((0:Int) <= n.tmod (5:Int) ∧ n.tmod (5:Int) < (5:Int))<|.chk (((0:Nat) + (n.tmod (5:Int)).toNat) * (1:Nat) < (5:Nat))<|.chk ((↑(([[(51:UInt8)], [(48:UInt8), 120, 51], [(32:UInt8), 51], [(51:UInt8), 59, 97, 61, 98], [(51:UInt8), 32, 59, 120], [(48:UInt8), 51], [(51:UInt8), 9], [(103:UInt8)], [(51:UInt8), 59] ++ List.drop (↑(0:Nat):Int).toNat (List.take (n.tmod (20:Int)).toNat [(48:UInt8), 49, 50, 51, 52, 53, 54, 55, 56, 57, 97, 98, 99, 100, 101, 102, 103, 104, 105, 106, 107, 108, 109, 110, 111, 112]) ++ List.drop (↑(0:Nat):Int).toNat (List.take (n.tmod (20:Int)).toNat [(48:UInt8), 49, 50, 51, 52, 53, 54, 55, 56, 57, 97, 98, 99, 100, 101, 102, 103, 104, 105, 106, 107, 108, 109, 110, 111, 112])].getD (((0:Nat) + (k.tmod (9:Int)).toNat) * (1:Nat)) []).length + [(13:UInt8), 10, 97, 98, 99].length):Int) <= (9223372036854775807:Int))<|.chk ((↑(([[(51:UInt8)], [(48:UInt8), 120, 51], [(32:UInt8), 51], [(51:UInt8), 59, 97, 61, 98], [(51:UInt8), 32, 59, 120], [(48:UInt8), 51], [(51:UInt8), 9], [(103:UInt8)], [(51:UInt8), 59] ++ List.drop (↑(0:Nat):Int).toNat (List.take (n.tmod (20:Int)).toNat [(48:UInt8), 49, 50, 51, 52, 53, 54, 55, 56, 57, 97, 98, 99, 100, 101, 102, 103, 104, 105, 106, 107, 108, 109, 110, 111, 112]) ++ List.drop (↑(0:Nat):Int).toNat (List.take (n.tmod (20:Int)).toNat [(48:UInt8), 49, 50, 51, 52, 53, 54, 55, 56, 57, 97, 98, 99, 100, 101, 102, 103, 104, 105, 106, 107, 108, 109, 110, 111, 112])].getD (((0:Nat) + (k.tmod (9:Int)).toNat) * (1:Nat)) [] ++ [(13:UInt8), 10, 97, 98, 99]).length + (tb1_1 n).length):Int) <= (9223372036854775807:Int))<|.chk ((↑(([[(51:UInt8)], [(48:UInt8), 120, 51], [(32:UInt8), 51], [(51:UInt8), 59, 97, 61, 98], [(51:UInt8), 32, 59, 120], [(48:UInt8), 51], [(51:UInt8), 9], [(103:UInt8)], [(51:UInt8), 59] ++ List.drop (↑(0:Nat):Int).toNat (List.take (n.tmod (20:Int)).toNat [(48:UInt8), 49, 50, 51, 52, 53, 54, 55, 56, 57, 97, 98, 99, 100, 101, 102, 103, 104, 105, 106, 107, 108, 109, 110, 111, 112]) ++ List.drop (↑(0:Nat):Int).toNat (List.take (n.tmod (20:Int)).toNat [(48:UInt8), 49, 50, 51, 52, 53, 54, 55, 56, 57, 97, 98, 99, 100, 101, 102, 103, 104, 105, 106, 107, 108, 109, 110, 111, 112])].getD (((0:Nat) + (k.tmod (9:Int)).toNat) * (1:Nat)) [] ++ [(13:UInt8), 10, 97, 98, 99] ++ tb1_1 n).length + [(48:UInt8), 13, 10].length):Int) <= (9223372036854775807:Int))<|.chk ((0:Int) <= (IntKind.u8.wrap (n.tdiv (5:Int))).tmod (4:Int) ∧ (IntKind.u8.wrap (n.tdiv (5:Int))).tmod (4:Int) < (4:Int))<|.chk (((0:Nat) + ((IntKind.u8.wrap (n.tdiv (5:Int))).tmod (4:Int)).toNat) * (1:Nat) < (4:Nat))<|.chk ((↑(([[(51:UInt8)], [(48:UInt8), 120, 51], [(32:UInt8), 51], [(51:UInt8), 59, 97, 61, 98], [(51:UInt8), 32, 59, 120], [(48:UInt8), 51], [(51:UInt8), 9], [(103:UInt8)], [(51:UInt8), 59] ++ List.drop (↑(0:Nat):Int).toNat (List.take (n.tmod (20:Int)).toNat [(48:UInt8), 49, 50, 51, 52, 53, 54, 55, 56, 57, 97, 98, 99, 100, 101, 102, 103, 104, 105, 106, 107, 108, 109, 110, 111, 112]) ++ List.drop (↑(0:Nat):Int).toNat (List.take (n.tmod (20:Int)).toNat [(48:UInt8), 49, 50, 51, 52, 53, 54, 55, 56, 57, 97, 98, 99, 100, 101, 102, 103, 104, 105, 106, 107, 108, 109, 110, 111, 112])].getD (((0:Nat) + (k.tmod (9:Int)).toNat) * (1:Nat)) [] ++ [(13:UInt8), 10, 97, 98, 99] ++ tb1_1 n ++ [(48:UInt8), 13, 10]).length + ([[], [(84:UInt8), 58, 32, 117, 13, 10], [(98:UInt8), 97, 100, 13, 10], [(84:UInt8), 58, 32, 117, 13, 10, 32, 119, 13, 10]].getD (((0:Nat) + ((IntKind.u8.wrap (n.tdiv (5:Int))).tmod (4:Int)).toNat) * (1:Nat)) []).length):Int) <= (9223372036854775807:Int))<|.chk ((↑(([[(51:UInt8)], [(48:UInt8), 120, 51], [(32:UInt8), 51], [(51:UInt8), 59, 97, 61, 98], [(51:UInt8), 32, 59, 120], [(48:UInt8), 51], [(51:UInt8), 9], [(103:UInt8)], [(51:UInt8), 59] ++ List.drop (↑(0:Nat):Int).toNat (List.take (n.tmod (20:Int)).toNat [(48:UInt8), 49, 50, 51, 52, 53, 54, 55, 56, 57, 97, 98, 99, 100, 101, 102, 103, 104, 105, 106, 107, 108, 109, 110, 111, 112]) ++ List.drop (↑(0:Nat):Int).toNat (List.take (n.tmod (20:Int)).toNat [(48:UInt8), 49, 50, 51, 52, 53, 54, 55, 56, 57, 97, 98, 99, 100, 101, 102, 103, 104, 105, 106, 107, 108, 109, 110, 111, 112])].getD (((0:Nat) + (k.tmod (9:Int)).toNat) * (1:Nat)) [] ++ [(13:UInt8), 10, 97, 98, 99] ++ tb1_1 n ++ [(48:UInt8), 13, 10] ++ [[], [(84:UInt8), 58, 32, 117, 13, 10], [(98:UInt8), 97, 100, 13, 10], [(84:UInt8), 58, 32, 117, 13, 10, 32, 119, 13, 10]].getD (((0:Nat) + ((IntKind.u8.wrap (n.tdiv (5:Int))).tmod (4:Int)).toNat) * (1:Nat)) []).length + [(13:UInt8), 10].length):Int) <= (9223372036854775807:Int))<|.ret ([(116:UInt8), 114, 97, 110, 115, 102, 101, 114, 45, 101, 110, 99, 111, 100, 105, 110, 103, 58, 32, 99, 104, 117, 110, 107, 101, 100, 13, 10], [[(51:UInt8)], [(48:UInt8), 120, 51], [(32:UInt8), 51], [(51:UInt8), 59, 97, 61, 98], [(51:UInt8), 32, 59, 120], [(48:UInt8), 51], [(51:UInt8), 9], [(103:UInt8)], [(51:UInt8), 59] ++ List.drop (↑(0:Nat):Int).toNat (List.take (n.tmod (20:Int)).toNat [(48:UInt8), 49, 50, 51, 52, 53, 54, 55, 56, 57, 97, 98, 99, 100, 101, 102, 103, 104, 105, 106, 107, 108, 109, 110, 111, 112]) ++ List.drop (↑(0:Nat):Int).toNat (List.take (n.tmod (20:Int)).toNat [(48:UInt8), 49, 50, 51, 52, 53, 54, 55, 56, 57, 97, 98, 99, 100, 101, 102, 103, 104, 105, 106, 107, 108, 109, 110, 111, 112])].getD (((0:Nat) + (k.tmod (9:Int)).toNat) * (1:Nat)) [] ++ [(13:UInt8), 10, 97, 98, 99] ++ tb1_1 n ++ [(48:UInt8), 13, 10] ++ [[], [(84:UInt8), 58, 32, 117, 13, 10], [(98:UInt8), 97, 100, 13, 10], [(84:UInt8), 58, 32, 117, 13, 10, 32, 119, 13, 10]].getD (((0:Nat) + ((IntKind.u8.wrap (n.tdiv (5:Int))).tmod (4:Int)).toNat) * (1:Nat)) [] ++ [(13:UInt8), 10]))
   (.ret ([], [])))))
def f (kind:Int) (n:Int) (k:Int) : Option (Ls × Ls) := (t kind n k).val
def F (x : D.den) : Option (Ls × Ls) := f x.2.1 x.2.2.1 x.2.2.2
def pa : D.den -> (Ls × Ls) -> A.den := fun (_, (_, (_, _))) (y1, y2) => ((), (y1, y2))
def con : Con := tcon D A pa F
theorem ok : zgs Tryz.prog 61 con := zia Base.mixed Base.prog_ok q6i (by kernel_rfl) zhr.nil 9 (fun _ => rfl) (fun x => t x.2.1 x.2.2.1 x.2.2.2) (fun _ => rfl) fun _ _ _ => (by kernel_rfl)
end q7g
def q7h : Book := q6h.add 61 q7g.con
theorem q7i : zgt Tryz.prog q7h := q6i.add q7g.ok
namespace q7y
def D : Dom := ⟨[.cells (.sl 1 1) 22 false, .vec .byte 5 true], (.cat (.int .i64) (.ptr 0 0 0 0))⟩
def A : Dom := ⟨[.cells (.sl 1 1) 22 false, .vec .byte 5 true], (.int .u8)⟩
def t (a1 : Ls) (i:Int) : Tr (Int) :=
 .br ((↑a1.length:Int) == (0:Int)) (.okl a1.length<|.ret (IntKind.u8.wrap i))
 (.chk ((↑a1.length:Int) ≠ (0:Int))<|.chk ((0:Int) <= i.tmod (↑a1.length:Int) ∧ i.tmod (↑a1.length:Int) < (↑a1.length:Int))<|.chk ((0:Nat) + (i.tmod (↑a1.length:Int)).toNat < a1.length)<|.chk ((↑a1.length:Int) ≠ (0:Int))<|.okl a1.length<|.ret (IntKind.u8.wrap ((↑(UInt8.toNat (a1.getD ((0:Nat) + (i.tmod (↑a1.length:Int)).toNat) (0:UInt8))):Int) + IntKind.u8.wrap (IntKind.i64.wrap (IntKind.i64.wrap (i.tdiv (↑a1.length:Int)) * (37:Int))))))
def f (a1 : Ls) (i:Int) : Option (Int) := (t a1 i).val
def F (x : D.den) : Option (Int) := f x.1.2.1 x.2.1
def pa : D.den -> (Int) -> A.den := fun ((_, (a1, _)), (_, _)) y1 => (((), (a1, ())), y1)
def con : Con := tcon D A pa F
theorem ok : zgs Tryz.prog 57 con := zia Base.mixed Base.prog_ok q7i (by kernel_rfl) zhr.nil 9 (fun _ => rfl) (fun x => t x.1.2.1 x.2.1) (fun _ => rfl) fun _ _ _ => (by kernel_rfl)
end q7y
def q7z : Book := q7h.add 57 q7y.con
theorem q80 : zgt Tryz.prog q7z := q7i.add q7y.ok
namespace q7v
def D : Dom := ⟨[.vec .byte 5 true], (.sl 0 1)⟩
namespace L9
def D : Dom := ⟨[.vec .byte 5 true, .cells (.sl 0 1) 22 false], (.cat (.func (.func 57) .nil (.ptr 1 0 0 0)) (.cat .str (.int .i64)))⟩
def A : Dom := ⟨[.vec .byte 5 true, .cells (.sl 0 1) 22 false], (.cat (.func (.func 57) .nil (.ptr 1 0 0 0)) .str)⟩
def t (l : Ls) (s : Ls) (i:Int) : Tr ((Ls × Int) ⊕ (Ls)) :=
 .chk ((0:Nat) + l.length <= l.length)<|.call (q7y.f (List.take l.length (List.drop (0:Nat) l)) (5:Int)) fun y1 =>
 .br (decide (i < IntKind.i64.wrap (y1.tmod (4:Int)))) (.chk ((0:Nat) + (List.take l.length (List.drop (0:Nat) l)).length <= l.length)<|.call (q7y.f (List.take (List.take l.length (List.drop (0:Nat) l)).length (List.drop (0:Nat) l)) (IntKind.i64.wrap ((6:Int) + IntKind.i64.wrap ((2:Int) * i)))) fun y2 =>
  .chk ((0:Nat) + (List.take (List.take l.length (List.drop (0:Nat) l)).length (List.drop (0:Nat) l)).length <= l.length)<|.call (q7y.f (List.take (List.take (List.take l.length (List.drop (0:Nat) l)).length (List.drop (0:Nat) l)).length (List.drop (0:Nat) l)) (IntKind.i64.wrap ((7:Int) + IntKind.i64.wrap ((2:Int) * i)))) fun y3 =>
  .call (q7p.f y2 y3) fun y4 =>
  .chk ((↑(s.length + y4.length):Int) <= (9223372036854775807:Int))<|.chk ((0:Nat) + (List.take (List.take (List.take l.length (List.drop (0:Nat) l)).length (List.drop (0:Nat) l)).length (List.drop (0:Nat) l)).length <= l.length)<|.call (q7y.f (List.take (List.take (List.take (List.take l.length (List.drop (0:Nat) l)).length (List.drop (0:Nat) l)).length (List.drop (0:Nat) l)).length (List.drop (0:Nat) l)) (IntKind.i64.wrap ((8:Int) + i))) fun y5 =>
  .call (q7m.f y5) fun y6 =>
  .chk ((↑((s ++ y4).length + y6.length):Int) <= (9223372036854775807:Int))<|.chk ((0:Nat) = (0:Nat) ∧ (List.take (List.take (List.take (List.take l.length (List.drop (0:Nat) l)).length (List.drop (0:Nat) l)).length (List.drop (0:Nat) l)).length (List.drop (0:Nat) l)).length = l.length)<|.ret (.inl (s ++ y4 ++ y6, IntKind.i64.wrap (i + (1:Int)))))
 (.chk ((0:Nat) = (0:Nat) ∧ (List.take l.length (List.drop (0:Nat) l)).length = l.length)<|.ret (.inr s))
def f (l : Ls) (s : Ls) (i:Int) : Option (Ls) := Loop (fun z : Ls × Int => t l z.1 z.2) (s, i)
def F (x : D.den) : Option (Ls) := f x.1.1 x.2.2.1 x.2.2.2
def pa : D.den -> (Ls) -> A.den := fun ((l, (_, _)), ((_, _), (_, _))) y1 => ((l, ((), ())), (((), ()), y1))
def lap : Lap := tlap 9 82 [3, 4, 5] D (.exit 0) [3, 4] A pa F
def pk (x : D.den) (z : Ls × Int) : D.den := ((x.1.1, ((), ())), (((), ()), (z.1, z.2)))
def un (x : D.den) : Ls × Int := (x.2.2.1, x.2.2.2)
def body (x : D.den) (z : Ls × Int) : Tr ((Ls × Int) ⊕ (Ls)) := t x.1.1 z.1 z.2
theorem ok : zhc Tryz.prog 1 (codeOf Tryz.prog 41) lap := zic Base.mixed Base.prog_ok q80 (by kernel_rfl) (by kernel_rfl) zhr.nil 9 pk un body (fun _ _ => rfl) (fun _ _ => rfl) (fun _ _ => rfl) (fun _ => rfl) fun _ _ _ _ => (by kernel_rfl)
end L9
def A : Dom := ⟨[.vec .byte 5 true], .str⟩
def tb2_1 (y8:Int) : Ls := [[(104:UInt8), 46, 111, 114, 103], [(97:UInt8)], [(104:UInt8), 46, 111, 114, 103, 58, 56, 48], [(120:UInt8), 46, 121]].getD (((0:Nat) + (y8.tmod (4:Int)).toNat) * (1:Nat)) []
def tb2_2 (y29:Int) : Ls := [[(104:UInt8), 46, 111, 114, 103], [(97:UInt8)], [(104:UInt8), 46, 111, 114, 103, 58, 56, 48], [(120:UInt8), 46, 121]].getD (((0:Nat) + (y29.tmod (4:Int)).toNat) * (1:Nat)) []
set_option maxHeartbeats 4000000 in
def t (l : Ls) : Tr (Ls) :=
 .chk ((0:Nat) + l.length <= l.length)<|.call (q7y.f (List.take l.length (List.drop (0:Nat) l)) (0:Int)) fun y1 =>
 .br (decide (y1 > (250:Int))) (.chk ((0:Nat) + (List.take l.length (List.drop (0:Nat) l)).length <= l.length)<|.call (q7y.f (List.take (List.take l.length (List.drop (0:Nat) l)).length (List.drop (0:Nat) l)) (1:Int)) fun y2 =>
  .chk ((0:Nat) + (List.take (List.take l.length (List.drop (0:Nat) l)).length (List.drop (0:Nat) l)).length <= l.length)<|.call (q7y.f (List.take (List.take (List.take l.length (List.drop (0:Nat) l)).length (List.drop (0:Nat) l)).length (List.drop (0:Nat) l)) (2:Int)) fun y3 =>
  .call (q7s.f y2 y3) fun y4 =>
  .chk ((↑([(13:UInt8), 10].length + y4.length):Int) <= (9223372036854775807:Int))<|.chk ((0:Nat) + (List.take (List.take (List.take l.length (List.drop (0:Nat) l)).length (List.drop (0:Nat) l)).length (List.drop (0:Nat) l)).length <= l.length)<|.call (q7y.f (List.take (List.take (List.take (List.take l.length (List.drop (0:Nat) l)).length (List.drop (0:Nat) l)).length (List.drop (0:Nat) l)).length (List.drop (0:Nat) l)) (3:Int)) fun y5 =>
  .call (q7m.f y5) fun y6 =>
  .chk ((↑(([(13:UInt8), 10] ++ y4).length + y6.length):Int) <= (9223372036854775807:Int))<|.chk ((0:Nat) + (List.take (List.take (List.take (List.take l.length (List.drop (0:Nat) l)).length (List.drop (0:Nat) l)).length (List.drop (0:Nat) l)).length (List.drop (0:Nat) l)).length <= l.length)<|.call (q7y.f (List.take (List.take (List.take (List.take (List.take l.length (List.drop (0:Nat) l)).length (List.drop (0:Nat) l)).length (List.drop (0:Nat) l)).length (List.drop (0:Nat) l)).length (List.drop (0:Nat) l)) (4:Int)) fun y7 =>
  .br (decide (y7 < (235:Int))) (.chk ((↑(([(13:UInt8), 10] ++ y4 ++ y6).length + [(72:UInt8), 111, 115, 116, 58, 32].length):Int) <= (9223372036854775807:Int))<|.chk ((0:Nat) + (List.take (List.take (List.take (List.take (List.take l.length (List.drop (0:Nat) l)).length (List.drop (0:Nat) l)).length (List.drop (0:Nat) l)).length (List.drop (0:Nat) l)).length (List.drop (0:Nat) l)).length <= l.length)<|.call (q7y.f (List.take (List.take (List.take (List.take (List.take (List.take l.length (List.drop (0:Nat) l)).length (List.drop (0:Nat) l)).length (List.drop (0:Nat) l)).length (List.drop (0:Nat) l)).length (List.drop (0:Nat) l)).length (List.drop (0:Nat) l)) (4:Int)) fun y8 =>
  .chk ((0:Int) <= y8.tmod (4:Int) ∧ y8.tmod (4:Int) < (4:Int))<|.chk (((0:Nat) + (y8.tmod (4:Int)).toNat) * (1:Nat) < (4:Nat))<|.chk ((↑(([(13:UInt8), 10] ++ y4 ++ y6 ++ [(72:UInt8), 111, 115, 116, 58, 32]).length + (tb2_1 y8).length):Int) <= (9223372036854775807:Int))<|.chk ((↑(([(13:UInt8), 10] ++ y4 ++ y6 ++ [(72:UInt8), 111, 115, 116, 58, 32] ++ tb2_1 y8).length + [(13:UInt8), 10].length):Int) <= (9223372036854775807:Int))<|.chk ((0:Nat) = (0:Nat) ∧ (List.take (List.take (List.take (List.take (List.take (List.take l.length (List.drop (0:Nat) l)).length (List.drop (0:Nat) l)).length (List.drop (0:Nat) l)).length (List.drop (0:Nat) l)).length (List.drop (0:Nat) l)).length (List.drop (0:Nat) l)).length = l.length)<|.call (q7v.L9.f l ([(13:UInt8), 10] ++ y4 ++ y6 ++ [(72:UInt8), 111, 115, 116, 58, 32] ++ tb2_1 y8 ++ [(13:UInt8), 10]) (0:Int)) fun y9 =>
  .chk ((0:Nat) + l.length <= l.length)<|.call (q7y.f (List.take l.length (List.drop (0:Nat) l)) (14:Int)) fun y10 =>
  .chk ((0:Nat) + (List.take l.length (List.drop (0:Nat) l)).length <= l.length)<|.call (q7y.f (List.take (List.take l.length (List.drop (0:Nat) l)).length (List.drop (0:Nat) l)) (15:Int)) fun y11 =>
  .chk ((0:Nat) + (List.take (List.take l.length (List.drop (0:Nat) l)).length (List.drop (0:Nat) l)).length <= l.length)<|.call (q7y.f (List.take (List.take (List.take l.length (List.drop (0:Nat) l)).length (List.drop (0:Nat) l)).length (List.drop (0:Nat) l)) (16:Int)) fun y12 =>
  .call (q7g.f y10 y11 y12) fun (y13a, y13b) =>
  .chk ((↑(y9.length + y13a.length):Int) <= (9223372036854775807:Int))<|.chk ((0:Nat) + (List.take (List.take (List.take l.length (List.drop (0:Nat) l)).length (List.drop (0:Nat) l)).length (List.drop (0:Nat) l)).length <= l.length)<|.call (q7y.f (List.take (List.take (List.take (List.take l.length (List.drop (0:Nat) l)).length (List.drop (0:Nat) l)).length (List.drop (0:Nat) l)).length (List.drop (0:Nat) l)) (17:Int)) fun y14 =>
  .call (q7m.f y14) fun y15 =>
  .chk ((↑((y9 ++ y13a).length + y15.length):Int) <= (9223372036854775807:Int))<|.chk ((↑((y9 ++ y13a ++ y15).length + y13b.length):Int) <= (9223372036854775807:Int))<|.ret (y9 ++ y13a ++ y15 ++ y13b))
  (.chk ((0:Nat) = (0:Nat) ∧ (List.take (List.take (List.take (List.take (List.take l.length (List.drop (0:Nat) l)).length (List.drop (0:Nat) l)).length (List.drop (0:Nat) l)).length (List.drop (0:Nat) l)).length (List.drop (0:Nat) l)).length = l.length)<|.call (q7v.L9.f l ([(13:UInt8), 10] ++ y4 ++ y6) (0:Int)) fun y16 =>
  .chk ((0:Nat) + l.length <= l.length)<|.call (q7y.f (List.take l.length (List.drop (0:Nat) l)) (14:Int)) fun y17 =>
  .chk ((0:Nat) + (List.take l.length (List.drop (0:Nat) l)).length <= l.length)<|.call (q7y.f (List.take (List.take l.length (List.drop (0:Nat) l)).length (List.drop (0:Nat) l)) (15:Int)) fun y18 =>
  .chk ((0:Nat) + (List.take (List.take l.length (List.drop (0:Nat) l)).length (List.drop (0:Nat) l)).length <= l.length)<|.call (q7y.f (List.take (List.take (List.take l.length (List.drop (0:Nat) l)).length (List.drop (0:Nat) l)).length (List.drop (0:Nat) l)) (16:Int)) fun y19 =>
  .call (q7g.f y17 y18 y19) fun (y20a, y20b) =>
  .chk ((↑(y16.length + y20a.length):Int) <= (9223372036854775807:Int))<|.chk ((0:Nat) + (List.take (List.take (List.take l.length (List.drop (0:Nat) l)).length (List.drop (0:Nat) l)).length (List.drop (0:Nat) l)).length <= l.length)<|.call (q7y.f (List.take (List.take (List.take (List.take l.length (List.drop (0:Nat) l)).length (List.drop (0:Nat) l)).length (List.drop (0:Nat) l)).length (List.drop (0:Nat) l)) (17:Int)) fun y21 =>
  .call (q7m.f y21) fun y22 =>
  .chk ((↑((y16 ++ y20a).length + y22.length):Int) <= (9223372036854775807:Int))<|.chk ((↑((y16 ++ y20a ++ y22).length + y20b.length):Int) <= (9223372036854775807:Int))<|.ret (y16 ++ y20a ++ y22 ++ y20b)))
 (.chk ((0:Nat) + (List.take l.length (List.drop (0:Nat) l)).length <= l.length)<|.call (q7y.f (List.take (List.take l.length (List.drop (0:Nat) l)).length (List.drop (0:Nat) l)) (1:Int)) fun y23 =>
  .chk ((0:Nat) + (List.take (List.take l.length (List.drop (0:Nat) l)).length (List.drop (0:Nat) l)).length <= l.length)<|.call (q7y.f (List.take (List.take (List.take l.length (List.drop (0:Nat) l)).length (List.drop (0:Nat) l)).length (List.drop (0:Nat) l)) (2:Int)) fun y24 =>
  .call (q7s.f y23 y24) fun y25 =>
  .chk ((↑(([] : Ls).length + y25.length):Int) <= (9223372036854775807:Int))<|.chk ((0:Nat) + (List.take (List.take (List.take l.length (List.drop (0:Nat) l)).length (List.drop (0:Nat) l)).length (List.drop (0:Nat) l)).length <= l.length)<|.call (q7y.f (List.take (List.take (List.take (List.take l.length (List.drop (0:Nat) l)).length (List.drop (0:Nat) l)).length (List.drop (0:Nat) l)).length (List.drop (0:Nat) l)) (3:Int)) fun y26 =>
  .call (q7m.f y26) fun y27 =>
  .chk ((↑(([] ++ y25).length + y27.length):Int) <= (9223372036854775807:Int))<|.chk ((0:Nat) + (List.take (List.take (List.take (List.take l.length (List.drop (0:Nat) l)).length (List.drop (0:Nat) l)).length (List.drop (0:Nat) l)).length (List.drop (0:Nat) l)).length <= l.length)<|.call (q7y.f (List.take (List.take (List.take (List.take (List.take l.length (List.drop (0:Nat) l)).length (List.drop (0:Nat) l)).length (List.drop (0:Nat) l)).length (List.drop (0:Nat) l)).length (List.drop (0:Nat) l)) (4:Int)) fun y28 =>
  .br (decide (y28 < (235:Int))) (.chk ((↑(([] ++ y25 ++ y27).length + [(72:UInt8), 111, 115, 116, 58, 32].length):Int) <= (9223372036854775807:Int))<|.chk ((0:Nat) + (List.take (List.take (List.take (List.take (List.take l.length (List.drop (0:Nat) l)).length (List.drop (0:Nat) l)).length (List.drop (0:Nat) l)).length (List.drop (0:Nat) l)).length (List.drop (0:Nat) l)).length <= l.length)<|.call (q7y.f (List.take (List.take (List.take (List.take (List.take (List.take l.length (List.drop (0:Nat) l)).length (List.drop (0:Nat) l)).length (List.drop (0:Nat) l)).length (List.drop (0:Nat) l)).length (List.drop (0:Nat) l)).length (List.drop (0:Nat) l)) (4:Int)) fun y29 =>
  .chk ((0:Int) <= y29.tmod (4:Int) ∧ y29.tmod (4:Int) < (4:Int))<|.chk (((0:Nat) + (y29.tmod (4:Int)).toNat) * (1:Nat) < (4:Nat))<|.chk ((↑(([] ++ y25 ++ y27 ++ [(72:UInt8), 111, 115, 116, 58, 32]).length + (tb2_2 y29).length):Int) <= (9223372036854775807:Int))<|.chk ((↑(([] ++ y25 ++ y27 ++ [(72:UInt8), 111, 115, 116, 58, 32] ++ tb2_2 y29).length + [(13:UInt8), 10].length):Int) <= (9223372036854775807:Int))<|.chk ((0:Nat) = (0:Nat) ∧ (List.take (List.take (List.take (List.take (List.take (List.take l.length (List.drop (0:Nat) l)).length (List.drop (0:Nat) l)).length (List.drop (0:Nat) l)).length (List.drop (0:Nat) l)).length (List.drop (0:Nat) l)).length (List.drop (0:Nat) l)).length = l.length)<|.call (q7v.L9.f l ([] ++ y25 ++ y27 ++ [(72:UInt8), 111, 115, 116, 58, 32] ++ tb2_2 y29 ++ [(13:UInt8), 10]) (0:Int)) fun y30 =>
  .chk ((0:Nat) + l.length <= l.length)<|.call (q7y.f (List.take l.length (List.drop (0:Nat) l)) (14:Int)) fun y31 =>
  .chk ((0:Nat) + (List.take l.length (List.drop (0:Nat) l)).length <= l.length)<|.call (q7y.f (List.take (List.take l.length (List.drop (0:Nat) l)).length (List.drop (0:Nat) l)) (15:Int)) fun y32 =>
  .chk ((0:Nat) + (List.take (List.take l.length (List.drop (0:Nat) l)).length (List.drop (0:Nat) l)).length <= l.length)<|.call (q7y.f (List.take (List.take (List.take l.length (List.drop (0:Nat) l)).length (List.drop (0:Nat) l)).length (List.drop (0:Nat) l)) (16:Int)) fun y33 =>
  .call (q7g.f y31 y32 y33) fun (y34a, y34b) =>
  .chk ((↑(y30.length + y34a.length):Int) <= (9223372036854775807:Int))<|.chk ((0:Nat) + (List.take (List.take (List.take l.length (List.drop (0:Nat) l)).length (List.drop (0:Nat) l)).length (List.drop (0:Nat) l)).length <= l.length)<|.call (q7y.f (List.take (List.take (List.take (List.take l.length (List.drop (0:Nat) l)).length (List.drop (0:Nat) l)).length (List.drop (0:Nat) l)).length (List.drop (0:Nat) l)) (17:Int)) fun y35 =>
  .call (q7m.f y35) fun y36 =>
  .chk ((↑((y30 ++ y34a).length + y36.length):Int) <= (9223372036854775807:Int))<|.chk ((↑((y30 ++ y34a ++ y36).length + y34b.length):Int) <= (9223372036854775807:Int))<|.ret (y30 ++ y34a ++ y36 ++ y34b))
  (.chk ((0:Nat) = (0:Nat) ∧ (List.take (List.take (List.take (List.take (List.take l.length (List.drop (0:Nat) l)).length (List.drop (0:Nat) l)).length (List.drop (0:Nat) l)).length (List.drop (0:Nat) l)).length (List.drop (0:Nat) l)).length = l.length)<|.call (q7v.L9.f l ([] ++ y25 ++ y27) (0:Int)) fun y37 =>
  .chk ((0:Nat) + l.length <= l.length)<|.call (q7y.f (List.take l.length (List.drop (0:Nat) l)) (14:Int)) fun y38 =>
  .chk ((0:Nat) + (List.take l.length (List.drop (0:Nat) l)).length <= l.length)<|.call (q7y.f (List.take (List.take l.length (List.drop (0:Nat) l)).length (List.drop (0:Nat) l)) (15:Int)) fun y39 =>
  .chk ((0:Nat) + (List.take (List.take l.length (List.drop (0:Nat) l)).length (List.drop (0:Nat) l)).length <= l.length)<|.call (q7y.f (List.take (List.take (List.take l.length (List.drop (0:Nat) l)).length (List.drop (0:Nat) l)).length (List.drop (0:Nat) l)) (16:Int)) fun y40 =>
  .call (q7g.f y38 y39 y40) fun (y41a, y41b) =>
  .chk ((↑(y37.length + y41a.length):Int) <= (9223372036854775807:Int))<|.chk ((0:Nat) + (List.take (List.take (List.take l.length (List.drop (0:Nat) l)).length (List.drop (0:Nat) l)).length (List.drop (0:Nat) l)).length <= l.length)<|.call (q7y.f (List.take (List.take (List.take (List.take l.length (List.drop (0:Nat) l)).length (List.drop (0:Nat) l)).length (List.drop (0:Nat) l)).length (List.drop (0:Nat) l)) (17:Int)) fun y42 =>
  .call (q7m.f y42) fun y43 =>
  .chk ((↑((y37 ++ y41a).length + y43.length):Int) <= (9223372036854775807:Int))<|.chk ((↑((y37 ++ y41a ++ y43).length + y41b.length):Int) <= (9223372036854775807:Int))<|.ret (y37 ++ y41a ++ y43 ++ y41b)))
def f (l : Ls) : Option (Ls) := (t l).val
def F (x : D.den) : Option (Ls) := f x.1.1
def pa : D.den -> (Ls) -> A.den := fun ((l, _), _) y1 => ((l, ()), y1)
def con : Con := tcon D A pa F
theorem ok : zgs Tryz.prog 41 con := zia Base.mixed Base.prog_ok q80 (by kernel_rfl) (.cons L9.ok (by kernel_rfl) (.nil)) 9 (fun _ => rfl) (fun x => t x.1.1) (fun _ => rfl) fun _ _ _ => (by kernel_rfl)
end q7v
def q7w : Book := q7z.add 41 q7v.con
theorem q7x : zgt Tryz.prog q7w := q80.add q7v.ok
namespace q81
def D : Dom := ⟨[.vec .byte 5 true], (.sl 0 1)⟩
namespace L3
def D : Dom := ⟨[.vec .byte 5 true], (.cat (.sl 0 1) (.cat .str (.int .i64)))⟩
def A : Dom := ⟨[.vec .byte 5 true], .str⟩
def t (l : Ls) (s : Ls) (i:Int) : Tr ((Ls × Int) ⊕ (Ls)) :=
 .br (decide (i < (↑l.length:Int))) (.br (decide (i < (40:Int))) (.chk ((0:Int) <= i ∧ i <= mn2 (IntKind.i64.wrap (i + (10:Int))) (↑l.length:Int) ∧ mn2 (IntKind.i64.wrap (i + (10:Int))) (↑l.length:Int) <= (↑l.length:Int))<|.chk ((0:Nat) + i.toNat + (mn2 (IntKind.i64.wrap (i + (10:Int))) (↑l.length:Int) - i).toNat <= l.length)<|.call (q7v.f (List.take (mn2 (IntKind.i64.wrap (i + (10:Int))) (↑l.length:Int) - i).toNat (List.drop ((0:Nat) + i.toNat) l))) fun y1 =>
  .chk ((↑(s.length + y1.length):Int) <= (9223372036854775807:Int))<|.okl l.length<|.ret (.inl (s ++ y1, IntKind.i64.wrap (i + (10:Int)))))
  (.ret (.inr s)))
 (.ret (.inr s))
def f (l : Ls) (s : Ls) (i:Int) : Option (Ls) := Loop (fun z : Ls × Int => t l z.1 z.2) (s, i)
def F (x : D.den) : Option (Ls) := f x.1.1 x.2.2.1 x.2.2.2
def pa : D.den -> (Ls) -> A.den := fun ((l, _), (_, (_, _))) y1 => ((l, ()), y1)
def lap : Lap := tlap 3 28 [0, 3, 4] D (.exit 0) [3] A pa F
def pk (x : D.den) (z : Ls × Int) : D.den := ((x.1.1, ()), ((), (z.1, z.2)))
def un (x : D.den) : Ls × Int := (x.2.2.1, x.2.2.2)
def body (x : D.den) (z : Ls × Int) : Tr ((Ls × Int) ⊕ (Ls)) := t x.1.1 z.1 z.2
theorem ok : zhc Tryz.prog 1 (codeOf Tryz.prog 18) lap := zic Base.mixed Base.prog_ok q7x (by kernel_rfl) (by kernel_rfl) zhr.nil 9 pk un body (fun _ _ => rfl) (fun _ _ => rfl) (fun _ _ => rfl) (fun _ => rfl) fun _ _ _ _ => (by kernel_rfl)
end L3
def A : Dom := ⟨[.vec .byte 5 true], (.vec .byte)⟩
def t (l : Ls) : Tr (Ls) :=
 .okl l.length<|.call (q81.L3.f l [] (0:Int)) fun y1 =>
 .chk (y1.length <= (140737488355328:Nat))<|.chk ((0:Nat) + y1.length <= ([] ++ y1).length)<|.ret (List.take y1.length (List.drop (0:Nat) ([] ++ y1)))
def f (l : Ls) : Option (Ls) := (t l).val
def F (x : D.den) : Option (Ls) := f x.1.1
def pa : D.den -> (Ls) -> A.den := fun ((l, _), _) y1 => ((l, ()), y1)
def con : Con := tcon D A pa F
theorem ok : zgs Tryz.prog 18 con := zia Base.mixed Base.prog_ok q7x (by kernel_rfl) (.cons L3.ok (by kernel_rfl) (.nil)) 9 (fun _ => rfl) (fun x => t x.1.1) (fun _ => rfl) fun _ _ _ => (by kernel_rfl)
end q81
def q82 : Book := q7w.add 18 q81.con
theorem q83 : zgt Tryz.prog q82 := q7x.add q81.ok
namespace q6a
def D : Dom := ⟨[.vec (.pair .str .str) 72 true, .vec (.pair .str .str) 72 true], (.cat (.sl 0 2) (.sl 1 2))⟩
namespace L4
def D : Dom := ⟨[.vec (.pair .str .str) 72 true, .vec (.pair .str .str) 72 true], (.cat (.sl 0 2) (.cat (.sl 1 2) (.int .i64)))⟩
def A : Dom := ⟨[.vec (.pair .str .str) 72 true, .vec (.pair .str .str) 72 true], .nil⟩
def B : Dom := ⟨[.vec (.pair .str .str) 72 true, .vec (.pair .str .str) 72 true], .bool⟩
def t (va : Lf) (b : Lf) (i:Int) : Tr ((Int) ⊕ ((Unit) ⊕ (Bool))) :=
 .br (decide (i < (↑va.length:Int))) (.chk ((0:Int) <= i ∧ i < (↑va.length:Int))<|.chk ((0:Nat) + i.toNat < va.length)<|.chk ((0:Int) <= i ∧ i < (↑b.length:Int))<|.chk ((0:Nat) + i.toNat < b.length)<|.br (!((va.getD ((0:Nat) + i.toNat) ([], [])).fst == (b.getD ((0:Nat) + i.toNat) ([], [])).fst && ((va.getD ((0:Nat) + i.toNat) ([], [])).snd == (b.getD ((0:Nat) + i.toNat) ([], [])).snd && true))) (.ret (.inr (.inr false)))
  (.okl va.length<|.okl b.length<|.ret (.inl (IntKind.i64.wrap (i + (1:Int))))))
 (.ret (.inr (.inl ())))
def f (va : Lf) (b : Lf) (i:Int) : Option ((Unit) ⊕ (Bool)) := Loop (fun z : Int => t va b z) i
def F (x : D.den) : Option ((Unit) ⊕ (Bool)) := f x.1.1 x.1.2.1 x.2.2.2
def pa : D.den -> (Unit) -> A.den := fun ((va, (b, _)), (_, (_, _))) _ => ((va, (b, ())), ())
def pb : D.den -> (Bool) -> B.den := fun ((va, (b, _)), (_, (_, _))) y1 => ((va, (b, ())), y1)
def lap : Lap := zid 4 26 [0, 1, 5] D (.exit 0) [] A .ret [4] B pa pb F
def pk (x : D.den) (z:Int) : D.den := ((x.1.1, (x.1.2.1, ())), ((), ((), z)))
def un (x : D.den) : Int := x.2.2.2
def body (x : D.den) (z:Int) : Tr ((Int) ⊕ ((Unit) ⊕ (Bool))) := t x.1.1 x.1.2.1 z
theorem ok : zhc Tryz.prog 2 (codeOf Tryz.prog 56) lap := zie Base.mixed Base.prog_ok q83 (by kernel_rfl) (by kernel_rfl) zhr.nil 9 pk un body (fun _ _ => rfl) (fun _ _ => rfl) (fun _ _ => rfl) (fun _ _ => rfl) (fun _ => rfl) fun _ _ _ _ => (by kernel_rfl)
end L4
def A : Dom := q6a.L4.B
def t (va : Lf) (b : Lf) : Tr (Bool) :=
 .br ((↑va.length:Int) != (↑b.length:Int)) (.ret false)
 (.okl va.length<|.okl b.length<|.both (q6a.L4.f va b (0:Int)) (fun _ => .ret true)
  (fun y2 => .ret y2))
def f (va : Lf) (b : Lf) : Option (Bool) := (t va b).val
def F (x : D.den) : Option (Bool) := f x.1.1 x.1.2.1
def pa : D.den -> (Bool) -> A.den := fun ((va, (b, _)), (_, _)) y1 => ((va, (b, ())), y1)
def con : Con := tcon D A pa F
theorem ok : zgs Tryz.prog 56 con := zia Base.mixed Base.prog_ok q83 (by kernel_rfl) (.cons L4.ok (by kernel_rfl) (.nil)) 9 (fun _ => rfl) (fun x => t x.1.1 x.1.2.1) (fun _ => rfl) fun _ _ _ => (by kernel_rfl)
end q6a
def q6b : Book := q82.add 56 q6a.con
theorem q6c : zgt Tryz.prog q6b := q83.add q6a.ok
namespace q67
def D : Dom := ⟨[.vec (.pair .str .str) 72 true, .vec .byte 5 true, .vec (.pair .str .str) 72 true, .vec (.pair .str .str) 72 true, .vec .byte 5 true, .vec (.pair .str .str) 72 true], (.cat (.agg (.cat .str (.cat .str (.cat (.int .i64) (.cat (.sl 0 2) (.cat .bool (.cat (.sl 1 1) (.sl 2 2)))))))) (.agg (.cat .str (.cat .str (.cat (.int .i64) (.cat (.sl 3 2) (.cat .bool (.cat (.sl 4 1) (.sl 5 2)))))))))⟩
def A : Dom := ⟨[.vec (.pair .str .str) 72 true, .vec .byte 5 true, .vec (.pair .str .str) 72 true, .vec (.pair .str .str) 72 true, .vec .byte 5 true, .vec (.pair .str .str) 72 true], .bool⟩
def t (Fields : Lf) (Body : Ls) (Trailers : Lf) (Fields_2 : Lf) (Body_2 : Ls) (Trailers_2 : Lf) (Method : Ls) (Target : Ls) (Minor:Int) (Chunked:Bool) (Method_2 : Ls) (Target_2 : Ls) (Minor_2:Int) (Chunked_2:Bool) : Tr (Bool) :=
 .br (Method == Method_2) (.br (Target == Target_2) (.br (Minor == Minor_2) (.chk ((0:Nat) + Fields.length <= Fields.length)<|.chk ((0:Nat) + Fields_2.length <= Fields_2.length)<|.call (q6a.f (List.take Fields.length (List.drop (0:Nat) Fields)) (List.take Fields_2.length (List.drop (0:Nat) Fields_2))) fun y1 =>
   .br y1 (.br (Chunked == Chunked_2) (.chk ((0:Nat) + Body.length <= Body.length)<|.chk ((0:Nat) + Body_2.length <= Body_2.length)<|.br (List.take Body.length (List.drop (0:Nat) Body) == List.take Body_2.length (List.drop (0:Nat) Body_2)) (.chk ((0:Nat) + Trailers.length <= Trailers.length)<|.chk ((0:Nat) + Trailers_2.length <= Trailers_2.length)<|.call (q6a.f (List.take Trailers.length (List.drop (0:Nat) Trailers)) (List.take Trailers_2.length (List.drop (0:Nat) Trailers_2))) fun y2 =>
    .ret y2)
    (.ret false))
   (.ret false))
   (.ret false))
  (.ret false))
  (.ret false))
 (.ret false)
def f (Fields : Lf) (Body : Ls) (Trailers : Lf) (Fields_2 : Lf) (Body_2 : Ls) (Trailers_2 : Lf) (Method : Ls) (Target : Ls) (Minor:Int) (Chunked:Bool) (Method_2 : Ls) (Target_2 : Ls) (Minor_2:Int) (Chunked_2:Bool) : Option (Bool) := (t Fields Body Trailers Fields_2 Body_2 Trailers_2 Method Target Minor Chunked Method_2 Target_2 Minor_2 Chunked_2).val
def F (x : D.den) : Option (Bool) := f x.1.1 x.1.2.1 x.1.2.2.1 x.1.2.2.2.1 x.1.2.2.2.2.1 x.1.2.2.2.2.2.1 x.2.1.1 x.2.1.2.1 x.2.1.2.2.1 x.2.1.2.2.2.2.1 x.2.2.1 x.2.2.2.1 x.2.2.2.2.1 x.2.2.2.2.2.2.1
def pa : D.den -> (Bool) -> A.den := fun ((Fields, (Body, (Trailers, (Fields_2, (Body_2, (Trailers_2, _)))))), ((_, (_, (_, (_, (_, (_, _)))))), (_, (_, (_, (_, (_, (_, _)))))))) y1 => ((Fields, (Body, (Trailers, (Fields_2, (Body_2, (Trailers_2, ())))))), y1)
def con : Con := tcon D A pa F
theorem ok : zgs Tryz.prog 39 con := zia Base.mixed Base.prog_ok q6c (by kernel_rfl) zhr.nil 9 (fun _ => rfl) (fun x => t x.1.1 x.1.2.1 x.1.2.2.1 x.1.2.2.2.1 x.1.2.2.2.2.1 x.1.2.2.2.2.2.1 x.2.1.1 x.2.1.2.1 x.2.1.2.2.1 x.2.1.2.2.2.2.1 x.2.2.1 x.2.2.2.1 x.2.2.2.2.1 x.2.2.2.2.2.2.1) (fun _ => rfl) fun _ _ _ => (by kernel_rfl)
end q67
def q68 : Book := q6b.add 39 q67.con
theorem q69 : zgt Tryz.prog q68 := q6c.add q67.ok
namespace q64
def D : Dom := ⟨[.vec (.pair .str (.pair .str (.pair (.int .i64) (.pair (.sl (.pair .str .str)) (.pair .bool (.pair (.sl .byte) (.sl (.pair .str .str)))))))) 47 true, .vec (.pair .str (.pair .str (.pair (.int .i64) (.pair (.sl (.pair .str .str)) (.pair .bool (.pair (.sl .byte) (.sl (.pair .str .str)))))))) 47 true], (.cat (.sl 0 7) (.sl 1 7))⟩
namespace L4
def D : Dom := ⟨[.vec (.pair .str (.pair .str (.pair (.int .i64) (.pair (.sl (.pair .str .str)) (.pair .bool (.pair (.sl .byte) (.sl (.pair .str .str)))))))) 47 true, .vec (.pair .str (.pair .str (.pair (.int .i64) (.pair (.sl (.pair .str .str)) (.pair .bool (.pair (.sl .byte) (.sl (.pair .str .str)))))))) 47 true], (.cat (.sl 0 7) (.cat (.sl 1 7) (.int .i64)))⟩
def A : Dom := ⟨[.vec (.pair .str (.pair .str (.pair (.int .i64) (.pair (.sl (.pair .str .str)) (.pair .bool (.pair (.sl .byte) (.sl (.pair .str .str)))))))) 47 true, .vec (.pair .str (.pair .str (.pair (.int .i64) (.pair (.sl (.pair .str .str)) (.pair .bool (.pair (.sl .byte) (.sl (.pair .str .str)))))))) 47 true], .nil⟩
def B : Dom := ⟨[.vec (.pair .str (.pair .str (.pair (.int .i64) (.pair (.sl (.pair .str .str)) (.pair .bool (.pair (.sl .byte) (.sl (.pair .str .str)))))))) 47 true, .vec (.pair .str (.pair .str (.pair (.int .i64) (.pair (.sl (.pair .str .str)) (.pair .bool (.pair (.sl .byte) (.sl (.pair .str .str)))))))) 47 true], .bool⟩
def t (va : List (Ls × Ls × Int × Lf × Bool × Ls × Lf)) (b : List (Ls × Ls × Int × Lf × Bool × Ls × Lf)) (i:Int) : Tr ((Int) ⊕ ((Unit) ⊕ (Bool))) :=
 .br (decide (i < (↑va.length:Int))) (.chk ((0:Int) <= i ∧ i < (↑va.length:Int))<|.chk ((0:Nat) + i.toNat < va.length)<|.chk ((0:Int) <= i ∧ i < (↑b.length:Int))<|.chk ((0:Nat) + i.toNat < b.length)<|.call (q67.f ((va.getD ((0:Nat) + i.toNat) ([], [], 0, [], false, [], [])).snd.snd.snd.fst) ((va.getD ((0:Nat) + i.toNat) ([], [], 0, [], false, [], [])).snd.snd.snd.snd.snd.fst) ((va.getD ((0:Nat) + i.toNat) ([], [], 0, [], false, [], [])).snd.snd.snd.snd.snd.snd) ((b.getD ((0:Nat) + i.toNat) ([], [], 0, [], false, [], [])).snd.snd.snd.fst) ((b.getD ((0:Nat) + i.toNat) ([], [], 0, [], false, [], [])).snd.snd.snd.snd.snd.fst) ((b.getD ((0:Nat) + i.toNat) ([], [], 0, [], false, [], [])).snd.snd.snd.snd.snd.snd) ((va.getD ((0:Nat) + i.toNat) ([], [], 0, [], false, [], [])).fst) ((va.getD ((0:Nat) + i.toNat) ([], [], 0, [], false, [], [])).snd.fst) ((va.getD ((0:Nat) + i.toNat) ([], [], 0, [], false, [], [])).snd.snd.fst) ((va.getD ((0:Nat) + i.toNat) ([], [], 0, [], false, [], [])).snd.snd.snd.snd.fst) ((b.getD ((0:Nat) + i.toNat) ([], [], 0, [], false, [], [])).fst) ((b.getD ((0:Nat) + i.toNat) ([], [], 0, [], false, [], [])).snd.fst) ((b.getD ((0:Nat) + i.toNat) ([], [], 0, [], false, [], [])).snd.snd.fst) ((b.getD ((0:Nat) + i.toNat) ([], [], 0, [], false, [], [])).snd.snd.snd.snd.fst)) fun y1 =>
  .br (!y1) (.ret (.inr (.inr false)))
  (.okl va.length<|.okl b.length<|.ret (.inl (IntKind.i64.wrap (i + (1:Int))))))
 (.ret (.inr (.inl ())))
def f (va : List (Ls × Ls × Int × Lf × Bool × Ls × Lf)) (b : List (Ls × Ls × Int × Lf × Bool × Ls × Lf)) (i:Int) : Option ((Unit) ⊕ (Bool)) := Loop (fun z : Int => t va b z) i
def F (x : D.den) : Option ((Unit) ⊕ (Bool)) := f x.1.1 x.1.2.1 x.2.2.2
def pa : D.den -> (Unit) -> A.den := fun ((va, (b, _)), (_, (_, _))) _ => ((va, (b, ())), ())
def pb : D.den -> (Bool) -> B.den := fun ((va, (b, _)), (_, (_, _))) y1 => ((va, (b, ())), y1)
def lap : Lap := zid 4 27 [0, 1, 5] D (.exit 0) [] A .ret [4] B pa pb F
def pk (x : D.den) (z:Int) : D.den := ((x.1.1, (x.1.2.1, ())), ((), ((), z)))
def un (x : D.den) : Int := x.2.2.2
def body (x : D.den) (z:Int) : Tr ((Int) ⊕ ((Unit) ⊕ (Bool))) := t x.1.1 x.1.2.1 z
theorem ok : zhc Tryz.prog 2 (codeOf Tryz.prog 24) lap := zie Base.mixed Base.prog_ok q69 (by kernel_rfl) (by kernel_rfl) zhr.nil 9 pk un body (fun _ _ => rfl) (fun _ _ => rfl) (fun _ _ => rfl) (fun _ _ => rfl) (fun _ => rfl) fun _ _ _ _ => (by kernel_rfl)
end L4
def A : Dom := q64.L4.B
def t (va : List (Ls × Ls × Int × Lf × Bool × Ls × Lf)) (b : List (Ls × Ls × Int × Lf × Bool × Ls × Lf)) : Tr (Bool) :=
 .br ((↑va.length:Int) != (↑b.length:Int)) (.ret false)
 (.okl va.length<|.okl b.length<|.both (q64.L4.f va b (0:Int)) (fun _ => .ret true)
  (fun y2 => .ret y2))
def f (va : List (Ls × Ls × Int × Lf × Bool × Ls × Lf)) (b : List (Ls × Ls × Int × Lf × Bool × Ls × Lf)) : Option (Bool) := (t va b).val
def F (x : D.den) : Option (Bool) := f x.1.1 x.1.2.1
def pa : D.den -> (Bool) -> A.den := fun ((va, (b, _)), (_, _)) y1 => ((va, (b, ())), y1)
def con : Con := tcon D A pa F
theorem ok : zgs Tryz.prog 24 con := zia Base.mixed Base.prog_ok q69 (by kernel_rfl) (.cons L4.ok (by kernel_rfl) (.nil)) 9 (fun _ => rfl) (fun x => t x.1.1 x.1.2.1) (fun _ => rfl) fun _ _ _ => (by kernel_rfl)
end q64
def q65 : Book := q68.add 24 q64.con
theorem q66 : zgt Tryz.prog q65 := q69.add q64.ok
namespace q20
def D : Dom := ⟨[], (.cat (.vec .byte) (.cat (.int .u32) .byte))⟩
namespace L9
def D : Dom := ⟨[.cells (.cat (.ptr 1 0 0 0) (.cat .str (.cat .str (.cat (.int .i64) (.cat (.sl 3 2) (.cat .bool (.cat (.sl 4 1) (.cat (.sl 5 2) (.cat (.int .i64) (.cat (.int .i64) (.cat (.int .i64) (.cat (.int .i64) (.cat .bool (.cat .bool (.cat (.int .u32) (.cat (.int .i64) (.cat (.int .i64) (.cat (.int .i64) (.cat (.int .i64) (.cat (.int .i64) (.cat (.int .i64) (.cat (.int .i64) (.cat (.int .i64) (.cat .bool (.cat .bool (.cat (.int .i64) (.sl 6 7))))))))))))))))))))))))))) 84 false, .cells (.cat (.int .u32) (.cat (.int .i64) (.cat (.sl 2 1) (.cat .bool (.cat .bool .bool))))) 110 false, .vec .byte 5 false, .vec (.pair .str .str) 72 false, .vec .byte 5 false, .vec (.pair .str .str) 72 false, .vec (.pair .str (.pair .str (.pair (.int .i64) (.pair (.sl (.pair .str .str)) (.pair .bool (.pair (.sl .byte) (.sl (.pair .str .str)))))))) 47 false, .cells (.cat (.ptr 8 0 0 0) (.cat .str (.cat .str (.cat (.int .i64) (.cat (.sl 10 2) (.cat .bool (.cat (.sl 11 1) (.cat (.sl 12 2) (.cat (.int .i64) (.cat (.int .i64) (.cat (.int .i64) (.cat (.int .i64) (.cat .bool (.cat .bool (.cat (.int .u32) (.cat (.int .i64) (.cat (.int .i64) (.cat (.int .i64) (.cat (.int .i64) (.cat (.int .i64) (.cat (.int .i64) (.cat (.int .i64) (.cat (.int .i64) (.cat .bool (.cat .bool (.cat (.int .i64) (.sl 13 7))))))))))))))))))))))))))) 84 false, .cells (.cat (.int .u32) (.cat (.int .i64) (.cat (.sl 9 1) (.cat .bool (.cat .bool .bool))))) 110 false, .vec .byte 5 false, .vec (.pair .str .str) 72 false, .vec .byte 5 false, .vec (.pair .str .str) 72 false, .vec (.pair .str (.pair .str (.pair (.int .i64) (.pair (.sl (.pair .str .str)) (.pair .bool (.pair (.sl .byte) (.sl (.pair .str .str)))))))) 47 false], (.cat (.vec .byte) (.cat (.ptr 0 0 0 0) (.cat (.ptr 7 0 0 0) (.int .i64))))⟩
def A : Dom := ⟨[], .nil⟩
def B : Dom := ⟨[], .bool⟩
set_option maxHeartbeats 4000000 in
def t (Method : Ls) (Target : Ls) (Minor:Int) (Chunked:Bool) (stage:Int) (lines:Int) (head:Int) (need:Int) (begun:Bool) (waits:Bool) (p:Int) (Line:Int) (Fields:Int) (Head:Int) (Body:Int) (Ext:Int) (Trailers:Int) (Wait:Int) (Idle:Int) (Chunked_2:Bool) (Old:Bool) (err:Int) (p_2:Int) (most:Int) (pending:Bool) (over:Bool) (bad:Bool) (b : Ls) (Fields_2 : Lf) (Body_2 : Ls) (Trailers_2 : Lf) (out : List (Ls × Ls × Int × Lf × Bool × Ls × Lf)) (Method_2 : Ls) (Target_2 : Ls) (Minor_2:Int) (Chunked_3:Bool) (stage_2:Int) (lines_2:Int) (head_2:Int) (need_2:Int) (begun_2:Bool) (waits_2:Bool) (p_3:Int) (Line_2:Int) (Fields_3:Int) (Head_2:Int) (Body_3:Int) (Ext_2:Int) (Trailers_3:Int) (Wait_2:Int) (Idle_2:Int) (Chunked_4:Bool) (Old_2:Bool) (err_2:Int) (p_4:Int) (most_2:Int) (pending_2:Bool) (over_2:Bool) (bad_2:Bool) (b_2 : Ls) (Fields_4 : Lf) (Body_4 : Ls) (Trailers_4 : Lf) (out_2 : List (Ls × Ls × Int × Lf × Bool × Ls × Lf)) (s : Ls) (i:Int) : Tr ((Ls × Ls × Int × Bool × Int × Int × Int × Int × Bool × Bool × Int × Int × Int × Int × Int × Int × Int × Int × Int × Bool × Bool × Int × Int × Int × Bool × Bool × Bool × Ls × (Lf) × Ls × (Lf) × (List (Ls × Ls × Int × Lf × Bool × Ls × Lf)) × Ls × Ls × Int × Bool × Int × Int × Int × Int × Bool × Bool × Int × Int × Int × Int × Int × Int × Int × Int × Int × Bool × Bool × Int × Int × Int × Bool × Bool × Bool × Ls × (Lf) × Ls × (Lf) × (List (Ls × Ls × Int × Lf × Bool × Ls × Lf)) × Int) ⊕ ((Unit) ⊕ (Bool))) :=
 .br (decide (i < (↑s.length:Int))) (.two (.chk ((0:Int) <= i ∧ i <= IntKind.i64.wrap (i + (1:Int)) ∧ IntKind.i64.wrap (i + (1:Int)) <= (↑s.length:Int))<|.okl b.length<|.okl Fields_2.length<|.okl Body_2.length<|.okl Trailers_2.length<|.okl out.length<|.chk ((1:Nat) <= [List.drop i.toNat (List.take (IntKind.i64.wrap (i + (1:Int))).toNat s)].length)<|.call (q3y.f Method Target Minor Chunked stage lines head need begun waits p Line Fields Head Body Ext Trailers Wait Idle Chunked_2 Old err p_2 most pending over bad b Fields_2 Body_2 Trailers_2 (List.take (1:Nat) (List.drop (0:Nat) [List.drop i.toNat (List.take (IntKind.i64.wrap (i + (1:Int))).toNat s)]))) fun (y1a, y1b, y1c, y1d, y1e, y1f, y1g, y1h, y1i, y1j, y1k, y1l, y1m, y1n, y1o, y1p, y1q, y1r, y1s, y1t, y1u, y1v, y1w, y1x, y1y, y1z, y1aa, y1ab, y1ac, y1ad, y1ae, y1af) =>
  .chk ((0:Int) <= i ∧ i <= IntKind.i64.wrap (i + (1:Int)) ∧ IntKind.i64.wrap (i + (1:Int)) <= (↑s.length:Int))<|.okl b_2.length<|.okl Fields_4.length<|.okl Body_4.length<|.okl Trailers_4.length<|.okl out_2.length<|.chk ((1:Nat) <= [List.drop i.toNat (List.take (IntKind.i64.wrap (i + (1:Int))).toNat s)].length)<|.call (q3y.f Method_2 Target_2 Minor_2 Chunked_3 stage_2 lines_2 head_2 need_2 begun_2 waits_2 p_3 Line_2 Fields_3 Head_2 Body_3 Ext_2 Trailers_3 Wait_2 Idle_2 Chunked_4 Old_2 err_2 p_4 most_2 pending_2 over_2 bad_2 b_2 Fields_4 Body_4 Trailers_4 (List.take (1:Nat) (List.drop (0:Nat) [List.drop i.toNat (List.take (IntKind.i64.wrap (i + (1:Int))).toNat s)]))) fun (y2a, y2b, y2c, y2d, y2e, y2f, y2g, y2h, y2i, y2j, y2k, y2l, y2m, y2n, y2o, y2p, y2q, y2r, y2s, y2t, y2u, y2v, y2w, y2x, y2y, y2z, y2aa, y2ab, y2ac, y2ad, y2ae, y2af) =>
  .okl y1ac.length<|.okl y1ad.length<|.okl y1ae.length<|.okl y1af.length<|.okl y1w.length<|.call (q3v.f y1ac y1ad y1ae y1af y1w) fun _ =>
  .br (y1v != (0:Int)) (.ret (.inr (.inr true)))
  (.okl y2ac.length<|.okl y2ad.length<|.okl y2ae.length<|.okl y2af.length<|.okl y2w.length<|.call (q3v.f y2ac y2ad y2ae y2af y2w) fun _ =>
   .br (y2v != (0:Int)) (.ret (.inr (.inr false)))
   (.chk ((0:Nat) + y1w.length <= y1w.length)<|.chk ((0:Nat) + y2w.length <= y2w.length)<|.call (q64.f (List.take y1w.length (List.drop (0:Nat) y1w)) (List.take y2w.length (List.drop (0:Nat) y2w))) fun y5 =>
   .br (!y5) (.ret (.inr (.inr false)))
   (.okl y1ac.length<|.okl y1ad.length<|.okl y1ae.length<|.okl y1af.length<|.okl y1w.length<|.call (q3s.f y1i y1v y1ac y1ad y1ae y1af y1w) fun y6 =>
    .okl y2ac.length<|.okl y2ad.length<|.okl y2ae.length<|.okl y2af.length<|.okl y2w.length<|.call (q3s.f y2i y2v y2ac y2ad y2ae y2af y2w) fun y7 =>
    .br (!y6 == y7) (.ret (.inr (.inr false)))
    (.okl y1ac.length<|.okl y1ad.length<|.okl y1ae.length<|.okl y1af.length<|.okl y1w.length<|.call (q44.f y1j y1v y1ac y1ad y1ae y1af y1w) fun y8 =>
    .okl y2ac.length<|.okl y2ad.length<|.okl y2ae.length<|.okl y2af.length<|.okl y2w.length<|.call (q44.f y2j y2v y2ac y2ad y2ae y2af y2w) fun y9 =>
    .br (!y8 == y9) (.ret (.inr (.inr false)))
    (.okl y1ac.length<|.okl y1ad.length<|.okl y1ae.length<|.okl y1af.length<|.okl y1w.length<|.okl y2ac.length<|.okl y2ad.length<|.okl y2ae.length<|.okl y2af.length<|.okl y2w.length<|.ret (.inl (y1a, y1b, y1c, y1d, y1e, y1f, y1g, y1h, y1i, y1j, y1k, y1l, y1m, y1n, y1o, y1p, y1q, y1r, y1s, y1t, y1u, y1v, y1x, y1y, y1z, y1aa, y1ab, y1ac, y1ad, y1ae, y1af, y1w, y2a, y2b, y2c, y2d, y2e, y2f, y2g, y2h, y2i, y2j, y2k, y2l, y2m, y2n, y2o, y2p, y2q, y2r, y2s, y2t, y2u, y2v, y2x, y2y, y2z, y2aa, y2ab, y2ac, y2ad, y2ae, y2af, y2w, IntKind.i64.wrap (i + (1:Int))))))))))
  (.twice<|.chk ((0:Int) <= i ∧ i <= IntKind.i64.wrap (i + (1:Int)) ∧ IntKind.i64.wrap (i + (1:Int)) <= (↑s.length:Int))<|.chk ((0:Int) <= i ∧ i <= IntKind.i64.wrap (i + (1:Int)) ∧ IntKind.i64.wrap (i + (1:Int)) <= (↑s.length:Int))<|.okl b.length<|.okl Fields_2.length<|.okl Body_2.length<|.okl Trailers_2.length<|.okl out.length<|.chk ((1:Nat) <= [List.drop i.toNat (List.take (IntKind.i64.wrap (i + (1:Int))).toNat s)].length)<|.call (q3y.f Method Target Minor Chunked stage lines head need begun waits p Line Fields Head Body Ext Trailers Wait Idle Chunked_2 Old err p_2 most pending over bad b Fields_2 Body_2 Trailers_2 (List.take (1:Nat) (List.drop (0:Nat) [List.drop i.toNat (List.take (IntKind.i64.wrap (i + (1:Int))).toNat s)]))) fun (y1a, y1b, y1c, y1d, y1e, y1f, y1g, y1h, y1i, y1j, y1k, y1l, y1m, y1n, y1o, y1p, y1q, y1r, y1s, y1t, y1u, y1v, y1w, y1x, y1y, y1z, y1aa, y1ab, y1ac, y1ad, y1ae, y1af) =>
  .okl b_2.length<|.okl Fields_4.length<|.okl Body_4.length<|.okl Trailers_4.length<|.okl out_2.length<|.chk ((1:Nat) <= [List.drop i.toNat (List.take (IntKind.i64.wrap (i + (1:Int))).toNat s)].length)<|.call (q3y.f Method_2 Target_2 Minor_2 Chunked_3 stage_2 lines_2 head_2 need_2 begun_2 waits_2 p_3 Line_2 Fields_3 Head_2 Body_3 Ext_2 Trailers_3 Wait_2 Idle_2 Chunked_4 Old_2 err_2 p_4 most_2 pending_2 over_2 bad_2 b_2 Fields_4 Body_4 Trailers_4 (List.take (1:Nat) (List.drop (0:Nat) [List.drop i.toNat (List.take (IntKind.i64.wrap (i + (1:Int))).toNat s)]))) fun (y2a, y2b, y2c, y2d, y2e, y2f, y2g, y2h, y2i, y2j, y2k, y2l, y2m, y2n, y2o, y2p, y2q, y2r, y2s, y2t, y2u, y2v, y2w, y2x, y2y, y2z, y2aa, y2ab, y2ac, y2ad, y2ae, y2af) =>
  .okl y1ac.length<|.okl y1ad.length<|.okl y1ae.length<|.okl y1af.length<|.okl y1w.length<|.call (q3v.f y1ac y1ad y1ae y1af y1w) fun _ =>
  .br (y1v != (0:Int)) (.ret (.inr (.inr true)))
  (.okl y2ac.length<|.okl y2ad.length<|.okl y2ae.length<|.okl y2af.length<|.okl y2w.length<|.call (q3v.f y2ac y2ad y2ae y2af y2w) fun _ =>
   .br (y2v != (0:Int)) (.ret (.inr (.inr false)))
   (.chk ((0:Nat) + y1w.length <= y1w.length)<|.chk ((0:Nat) + y2w.length <= y2w.length)<|.call (q64.f (List.take y1w.length (List.drop (0:Nat) y1w)) (List.take y2w.length (List.drop (0:Nat) y2w))) fun y5 =>
   .br (!y5) (.ret (.inr (.inr false)))
   (.okl y1ac.length<|.okl y1ad.length<|.okl y1ae.length<|.okl y1af.length<|.okl y1w.length<|.call (q3s.f y1i y1v y1ac y1ad y1ae y1af y1w) fun y6 =>
    .okl y2ac.length<|.okl y2ad.length<|.okl y2ae.length<|.okl y2af.length<|.okl y2w.length<|.call (q3s.f y2i y2v y2ac y2ad y2ae y2af y2w) fun y7 =>
    .br (!y6 == y7) (.ret (.inr (.inr false)))
    (.okl y1ac.length<|.okl y1ad.length<|.okl y1ae.length<|.okl y1af.length<|.okl y1w.length<|.call (q44.f y1j y1v y1ac y1ad y1ae y1af y1w) fun y8 =>
    .okl y2ac.length<|.okl y2ad.length<|.okl y2ae.length<|.okl y2af.length<|.okl y2w.length<|.call (q44.f y2j y2v y2ac y2ad y2ae y2af y2w) fun y9 =>
    .br (!y8 == y9) (.ret (.inr (.inr false)))
    (.okl y1ac.length<|.okl y1ad.length<|.okl y1ae.length<|.okl y1af.length<|.okl y1w.length<|.okl y2ac.length<|.okl y2ad.length<|.okl y2ae.length<|.okl y2af.length<|.okl y2w.length<|.ret (.inl (y1a, y1b, y1c, y1d, y1e, y1f, y1g, y1h, y1i, y1j, y1k, y1l, y1m, y1n, y1o, y1p, y1q, y1r, y1s, y1t, y1u, y1v, y1x, y1y, y1z, y1aa, y1ab, y1ac, y1ad, y1ae, y1af, y1w, y2a, y2b, y2c, y2d, y2e, y2f, y2g, y2h, y2i, y2j, y2k, y2l, y2m, y2n, y2o, y2p, y2q, y2r, y2s, y2t, y2u, y2v, y2x, y2y, y2z, y2aa, y2ab, y2ac, y2ad, y2ae, y2af, y2w, IntKind.i64.wrap (i + (1:Int)))))))))))
 (.ret (.inr (.inl ())))
def f (Method : Ls) (Target : Ls) (Minor:Int) (Chunked:Bool) (stage:Int) (lines:Int) (head:Int) (need:Int) (begun:Bool) (waits:Bool) (p:Int) (Line:Int) (Fields:Int) (Head:Int) (Body:Int) (Ext:Int) (Trailers:Int) (Wait:Int) (Idle:Int) (Chunked_2:Bool) (Old:Bool) (err:Int) (p_2:Int) (most:Int) (pending:Bool) (over:Bool) (bad:Bool) (b : Ls) (Fields_2 : Lf) (Body_2 : Ls) (Trailers_2 : Lf) (out : List (Ls × Ls × Int × Lf × Bool × Ls × Lf)) (Method_2 : Ls) (Target_2 : Ls) (Minor_2:Int) (Chunked_3:Bool) (stage_2:Int) (lines_2:Int) (head_2:Int) (need_2:Int) (begun_2:Bool) (waits_2:Bool) (p_3:Int) (Line_2:Int) (Fields_3:Int) (Head_2:Int) (Body_3:Int) (Ext_2:Int) (Trailers_3:Int) (Wait_2:Int) (Idle_2:Int) (Chunked_4:Bool) (Old_2:Bool) (err_2:Int) (p_4:Int) (most_2:Int) (pending_2:Bool) (over_2:Bool) (bad_2:Bool) (b_2 : Ls) (Fields_4 : Lf) (Body_4 : Ls) (Trailers_4 : Lf) (out_2 : List (Ls × Ls × Int × Lf × Bool × Ls × Lf)) (s : Ls) (i:Int) : Option ((Unit) ⊕ (Bool)) := Loop (fun z : Ls × Ls × Int × Bool × Int × Int × Int × Int × Bool × Bool × Int × Int × Int × Int × Int × Int × Int × Int × Int × Bool × Bool × Int × Int × Int × Bool × Bool × Bool × Ls × (Lf) × Ls × (Lf) × (List (Ls × Ls × Int × Lf × Bool × Ls × Lf)) × Ls × Ls × Int × Bool × Int × Int × Int × Int × Bool × Bool × Int × Int × Int × Int × Int × Int × Int × Int × Int × Bool × Bool × Int × Int × Int × Bool × Bool × Bool × Ls × (Lf) × Ls × (Lf) × (List (Ls × Ls × Int × Lf × Bool × Ls × Lf)) × Int => t z.1 z.2.1 z.2.2.1 z.2.2.2.1 z.2.2.2.2.1 z.2.2.2.2.2.1 z.2.2.2.2.2.2.1 z.2.2.2.2.2.2.2.1 z.2.2.2.2.2.2.2.2.1 z.2.2.2.2.2.2.2.2.2.1 z.2.2.2.2.2.2.2.2.2.2.1 z.2.2.2.2.2.2.2.2.2.2.2.1 z.2.2.2.2.2.2.2.2.2.2.2.2.1 z.2.2.2.2.2.2.2.2.2.2.2.2.2.1 z.2.2.2.2.2.2.2.2.2.2.2.2.2.2.1 z.2.2.2.2.2.2.2.2.2.2.2.2.2.2.2.1 z.2.2.2.2.2.2.2.2.2.2.2.2.2.2.2.2.1 z.2.2.2.2.2.2.2.2.2.2.2.2.2.2.2.2.2.1 z.2.2.2.2.2.2.2.2.2.2.2.2.2.2.2.2.2.2.1 z.2.2.2.2.2.2.2.2.2.2.2.2.2.2.2.2.2.2.2.1 z.2.2.2.2.2.2.2.2.2.2.2.2.2.2.2.2.2.2.2.2.1 z.2.2.2.2.2.2.2.2.2.2.2.2.2.2.2.2.2.2.2.2.2.1 z.2.2.2.2.2.2.2.2.2.2.2.2.2.2.2.2.2.2.2.2.2.2.1 z.2.2.2.2.2.2.2.2.2.2.2.2.2.2.2.2.2.2.2.2.2.2.2.1 z.2.2.2.2.2.2.2.2.2.2.2.2.2.2.2.2.2.2.2.2.2.2.2.2.1 z.2.2.2.2.2.2.2.2.2.2.2.2.2.2.2.2.2.2.2.2.2.2.2.2.2.1 z.2.2.2.2.2.2.2.2.2.2.2.2.2.2.2.2.2.2.2.2.2.2.2.2.2.2.1 z.2.2.2.2.2.2.2.2.2.2.2.2.2.2.2.2.2.2.2.2.2.2.2.2.2.2.2.1 z.2.2.2.2.2.2.2.2.2.2.2.2.2.2.2.2.2.2.2.2.2.2.2.2.2.2.2.2.1 z.2.2.2.2.2.2.2.2.2.2.2.2.2.2.2.2.2.2.2.2.2.2.2.2.2.2.2.2.2.1 z.2.2.2.2.2.2.2.2.2.2.2.2.2.2.2.2.2.2.2.2.2.2.2.2.2.2.2.2.2.2.1 z.2.2.2.2.2.2.2.2.2.2.2.2.2.2.2.2.2.2.2.2.2.2.2.2.2.2.2.2.2.2.2.1 z.2.2.2.2.2.2.2.2.2.2.2.2.2.2.2.2.2.2.2.2.2.2.2.2.2.2.2.2.2.2.2.2.1 z.2.2.2.2.2.2.2.2.2.2.2.2.2.2.2.2.2.2.2.2.2.2.2.2.2.2.2.2.2.2.2.2.2.1 z.2.2.2.2.2.2.2.2.2.2.2.2.2.2.2.2.2.2.2.2.2.2.2.2.2.2.2.2.2.2.2.2.2.2.1 z.2.2.2.2.2.2.2.2.2.2.2.2.2.2.2.2.2.2.2.2.2.2.2.2.2.2.2.2.2.2.2.2.2.2.2.1 z.2.2.2.2.2.2.2.2.2.2.2.2.2.2.2.2.2.2.2.2.2.2.2.2.2.2.2.2.2.2.2.2.2.2.2.2.1 z.2.2.2.2.2.2.2.2.2.2.2.2.2.2.2.2.2.2.2.2.2.2.2.2.2.2.2.2.2.2.2.2.2.2.2.2.2.1 z.2.2.2.2.2.2.2.2.2.2.2.2.2.2.2.2.2.2.2.2.2.2.2.2.2.2.2.2.2.2.2.2.2.2.2.2.2.2.1 z.2.2.2.2.2.2.2.2.2.2.2.2.2.2.2.2.2.2.2.2.2.2.2.2.2.2.2.2.2.2.2.2.2.2.2.2.2.2.2.1 z.2.2.2.2.2.2.2.2.2.2.2.2.2.2.2.2.2.2.2.2.2.2.2.2.2.2.2.2.2.2.2.2.2.2.2.2.2.2.2.2.1 z.2.2.2.2.2.2.2.2.2.2.2.2.2.2.2.2.2.2.2.2.2.2.2.2.2.2.2.2.2.2.2.2.2.2.2.2.2.2.2.2.2.1 z.2.2.2.2.2.2.2.2.2.2.2.2.2.2.2.2.2.2.2.2.2.2.2.2.2.2.2.2.2.2.2.2.2.2.2.2.2.2.2.2.2.2.1 z.2.2.2.2.2.2.2.2.2.2.2.2.2.2.2.2.2.2.2.2.2.2.2.2.2.2.2.2.2.2.2.2.2.2.2.2.2.2.2.2.2.2.2.1 z.2.2.2.2.2.2.2.2.2.2.2.2.2.2.2.2.2.2.2.2.2.2.2.2.2.2.2.2.2.2.2.2.2.2.2.2.2.2.2.2.2.2.2.2.1 z.2.2.2.2.2.2.2.2.2.2.2.2.2.2.2.2.2.2.2.2.2.2.2.2.2.2.2.2.2.2.2.2.2.2.2.2.2.2.2.2.2.2.2.2.2.1 z.2.2.2.2.2.2.2.2.2.2.2.2.2.2.2.2.2.2.2.2.2.2.2.2.2.2.2.2.2.2.2.2.2.2.2.2.2.2.2.2.2.2.2.2.2.2.1 z.2.2.2.2.2.2.2.2.2.2.2.2.2.2.2.2.2.2.2.2.2.2.2.2.2.2.2.2.2.2.2.2.2.2.2.2.2.2.2.2.2.2.2.2.2.2.2.1 z.2.2.2.2.2.2.2.2.2.2.2.2.2.2.2.2.2.2.2.2.2.2.2.2.2.2.2.2.2.2.2.2.2.2.2.2.2.2.2.2.2.2.2.2.2.2.2.2.1 z.2.2.2.2.2.2.2.2.2.2.2.2.2.2.2.2.2.2.2.2.2.2.2.2.2.2.2.2.2.2.2.2.2.2.2.2.2.2.2.2.2.2.2.2.2.2.2.2.2.1 z.2.2.2.2.2.2.2.2.2.2.2.2.2.2.2.2.2.2.2.2.2.2.2.2.2.2.2.2.2.2.2.2.2.2.2.2.2.2.2.2.2.2.2.2.2.2.2.2.2.2.1 z.2.2.2.2.2.2.2.2.2.2.2.2.2.2.2.2.2.2.2.2.2.2.2.2.2.2.2.2.2.2.2.2.2.2.2.2.2.2.2.2.2.2.2.2.2.2.2.2.2.2.2.1 z.2.2.2.2.2.2.2.2.2.2.2.2.2.2.2.2.2.2.2.2.2.2.2.2.2.2.2.2.2.2.2.2.2.2.2.2.2.2.2.2.2.2.2.2.2.2.2.2.2.2.2.2.1 z.2.2.2.2.2.2.2.2.2.2.2.2.2.2.2.2.2.2.2.2.2.2.2.2.2.2.2.2.2.2.2.2.2.2.2.2.2.2.2.2.2.2.2.2.2.2.2.2.2.2.2.2.2.1 z.2.2.2.2.2.2.2.2.2.2.2.2.2.2.2.2.2.2.2.2.2.2.2.2.2.2.2.2.2.2.2.2.2.2.2.2.2.2.2.2.2.2.2.2.2.2.2.2.2.2.2.2.2.2.1 z.2.2.2.2.2.2.2.2.2.2.2.2.2.2.2.2.2.2.2.2.2.2.2.2.2.2.2.2.2.2.2.2.2.2.2.2.2.2.2.2.2.2.2.2.2.2.2.2.2.2.2.2.2.2.2.1 z.2.2.2.2.2.2.2.2.2.2.2.2.2.2.2.2.2.2.2.2.2.2.2.2.2.2.2.2.2.2.2.2.2.2.2.2.2.2.2.2.2.2.2.2.2.2.2.2.2.2.2.2.2.2.2.2.1 z.2.2.2.2.2.2.2.2.2.2.2.2.2.2.2.2.2.2.2.2.2.2.2.2.2.2.2.2.2.2.2.2.2.2.2.2.2.2.2.2.2.2.2.2.2.2.2.2.2.2.2.2.2.2.2.2.2.1 z.2.2.2.2.2.2.2.2.2.2.2.2.2.2.2.2.2.2.2.2.2.2.2.2.2.2.2.2.2.2.2.2.2.2.2.2.2.2.2.2.2.2.2.2.2.2.2.2.2.2.2.2.2.2.2.2.2.2.1 z.2.2.2.2.2.2.2.2.2.2.2.2.2.2.2.2.2.2.2.2.2.2.2.2.2.2.2.2.2.2.2.2.2.2.2.2.2.2.2.2.2.2.2.2.2.2.2.2.2.2.2.2.2.2.2.2.2.2.2.1 z.2.2.2.2.2.2.2.2.2.2.2.2.2.2.2.2.2.2.2.2.2.2.2.2.2.2.2.2.2.2.2.2.2.2.2.2.2.2.2.2.2.2.2.2.2.2.2.2.2.2.2.2.2.2.2.2.2.2.2.2.1 z.2.2.2.2.2.2.2.2.2.2.2.2.2.2.2.2.2.2.2.2.2.2.2.2.2.2.2.2.2.2.2.2.2.2.2.2.2.2.2.2.2.2.2.2.2.2.2.2.2.2.2.2.2.2.2.2.2.2.2.2.2.1 z.2.2.2.2.2.2.2.2.2.2.2.2.2.2.2.2.2.2.2.2.2.2.2.2.2.2.2.2.2.2.2.2.2.2.2.2.2.2.2.2.2.2.2.2.2.2.2.2.2.2.2.2.2.2.2.2.2.2.2.2.2.2.1 z.2.2.2.2.2.2.2.2.2.2.2.2.2.2.2.2.2.2.2.2.2.2.2.2.2.2.2.2.2.2.2.2.2.2.2.2.2.2.2.2.2.2.2.2.2.2.2.2.2.2.2.2.2.2.2.2.2.2.2.2.2.2.2.1 s z.2.2.2.2.2.2.2.2.2.2.2.2.2.2.2.2.2.2.2.2.2.2.2.2.2.2.2.2.2.2.2.2.2.2.2.2.2.2.2.2.2.2.2.2.2.2.2.2.2.2.2.2.2.2.2.2.2.2.2.2.2.2.2.2) (Method, Target, Minor, Chunked, stage, lines, head, need, begun, waits, p, Line, Fields, Head, Body, Ext, Trailers, Wait, Idle, Chunked_2, Old, err, p_2, most, pending, over, bad, b, Fields_2, Body_2, Trailers_2, out, Method_2, Target_2, Minor_2, Chunked_3, stage_2, lines_2, head_2, need_2, begun_2, waits_2, p_3, Line_2, Fields_3, Head_2, Body_3, Ext_2, Trailers_3, Wait_2, Idle_2, Chunked_4, Old_2, err_2, p_4, most_2, pending_2, over_2, bad_2, b_2, Fields_4, Body_4, Trailers_4, out_2, i)
def F (x : D.den) : Option ((Unit) ⊕ (Bool)) := f x.1.1.2.1 x.1.1.2.2.1 x.1.1.2.2.2.1 x.1.1.2.2.2.2.2.1 x.1.1.2.2.2.2.2.2.2.2.1 x.1.1.2.2.2.2.2.2.2.2.2.1 x.1.1.2.2.2.2.2.2.2.2.2.2.1 x.1.1.2.2.2.2.2.2.2.2.2.2.2.1 x.1.1.2.2.2.2.2.2.2.2.2.2.2.2.1 x.1.1.2.2.2.2.2.2.2.2.2.2.2.2.2.1 x.1.1.2.2.2.2.2.2.2.2.2.2.2.2.2.2.1 x.1.1.2.2.2.2.2.2.2.2.2.2.2.2.2.2.2.1 x.1.1.2.2.2.2.2.2.2.2.2.2.2.2.2.2.2.2.1 x.1.1.2.2.2.2.2.2.2.2.2.2.2.2.2.2.2.2.2.1 x.1.1.2.2.2.2.2.2.2.2.2.2.2.2.2.2.2.2.2.2.1 x.1.1.2.2.2.2.2.2.2.2.2.2.2.2.2.2.2.2.2.2.2.1 x.1.1.2.2.2.2.2.2.2.2.2.2.2.2.2.2.2.2.2.2.2.2.1 x.1.1.2.2.2.2.2.2.2.2.2.2.2.2.2.2.2.2.2.2.2.2.2.1 x.1.1.2.2.2.2.2.2.2.2.2.2.2.2.2.2.2.2.2.2.2.2.2.2.1 x.1.1.2.2.2.2.2.2.2.2.2.2.2.2.2.2.2.2.2.2.2.2.2.2.2.1 x.1.1.2.2.2.2.2.2.2.2.2.2.2.2.2.2.2.2.2.2.2.2.2.2.2.2.1 x.1.1.2.2.2.2.2.2.2.2.2.2.2.2.2.2.2.2.2.2.2.2.2.2.2.2.2.1 x.1.2.1.1 x.1.2.1.2.1 x.1.2.1.2.2.2.1 x.1.2.1.2.2.2.2.1 x.1.2.1.2.2.2.2.2 x.1.2.2.1 x.1.2.2.2.1 x.1.2.2.2.2.1 x.1.2.2.2.2.2.1 x.1.2.2.2.2.2.2.1 x.1.2.2.2.2.2.2.2.1.2.1 x.1.2.2.2.2.2.2.2.1.2.2.1 x.1.2.2.2.2.2.2.2.1.2.2.2.1 x.1.2.2.2.2.2.2.2.1.2.2.2.2.2.1 x.1.2.2.2.2.2.2.2.1.2.2.2.2.2.2.2.2.1 x.1.2.2.2.2.2.2.2.1.2.2.2.2.2.2.2.2.2.1 x.1.2.2.2.2.2.2.2.1.2.2.2.2.2.2.2.2.2.2.1 x.1.2.2.2.2.2.2.2.1.2.2.2.2.2.2.2.2.2.2.2.1 x.1.2.2.2.2.2.2.2.1.2.2.2.2.2.2.2.2.2.2.2.2.1 x.1.2.2.2.2.2.2.2.1.2.2.2.2.2.2.2.2.2.2.2.2.2.1 x.1.2.2.2.2.2.2.2.1.2.2.2.2.2.2.2.2.2.2.2.2.2.2.1 x.1.2.2.2.2.2.2.2.1.2.2.2.2.2.2.2.2.2.2.2.2.2.2.2.1 x.1.2.2.2.2.2.2.2.1.2.2.2.2.2.2.2.2.2.2.2.2.2.2.2.2.1 x.1.2.2.2.2.2.2.2.1.2.2.2.2.2.2.2.2.2.2.2.2.2.2.2.2.2.1 x.1.2.2.2.2.2.2.2.1.2.2.2.2.2.2.2.2.2.2.2.2.2.2.2.2.2.2.1 x.1.2.2.2.2.2.2.2.1.2.2.2.2.2.2.2.2.2.2.2.2.2.2.2.2.2.2.2.1 x.1.2.2.2.2.2.2.2.1.2.2.2.2.2.2.2.2.2.2.2.2.2.2.2.2.2.2.2.2.1 x.1.2.2.2.2.2.2.2.1.2.2.2.2.2.2.2.2.2.2.2.2.2.2.2.2.2.2.2.2.2.1 x.1.2.2.2.2.2.2.2.1.2.2.2.2.2.2.2.2.2.2.2.2.2.2.2.2.2.2.2.2.2.2.1 x.1.2.2.2.2.2.2.2.1.2.2.2.2.2.2.2.2.2.2.2.2.2.2.2.2.2.2.2.2.2.2.2.1 x.1.2.2.2.2.2.2.2.1.2.2.2.2.2.2.2.2.2.2.2.2.2.2.2.2.2.2.2.2.2.2.2.2.1 x.1.2.2.2.2.2.2.2.1.2.2.2.2.2.2.2.2.2.2.2.2.2.2.2.2.2.2.2.2.2.2.2.2.2.1 x.1.2.2.2.2.2.2.2.2.1.1 x.1.2.2.2.2.2.2.2.2.1.2.1 x.1.2.2.2.2.2.2.2.2.1.2.2.2.1 x.1.2.2.2.2.2.2.2.2.1.2.2.2.2.1 x.1.2.2.2.2.2.2.2.2.1.2.2.2.2.2 x.1.2.2.2.2.2.2.2.2.2.1 x.1.2.2.2.2.2.2.2.2.2.2.1 x.1.2.2.2.2.2.2.2.2.2.2.2.1 x.1.2.2.2.2.2.2.2.2.2.2.2.2.1 x.1.2.2.2.2.2.2.2.2.2.2.2.2.2.1 x.2.1 x.2.2.2.2
def pa : D.den -> (Unit) -> A.den := fun (((_, (_, (_, (_, (_, (_, (_, (_, (_, (_, (_, (_, (_, (_, (_, (_, (_, (_, (_, (_, (_, (_, (_, (_, (_, (_, _)))))))))))))))))))))))))), ((_, (_, (_, (_, (_, _))))), (_, (_, (_, (_, (_, ((_, (_, (_, (_, (_, (_, (_, (_, (_, (_, (_, (_, (_, (_, (_, (_, (_, (_, (_, (_, (_, (_, (_, (_, (_, (_, _)))))))))))))))))))))))))), ((_, (_, (_, (_, (_, _))))), (_, (_, (_, (_, (_, _)))))))))))))), (_, (_, (_, _)))) _ => ((), ())
def pb : D.den -> (Bool) -> B.den := fun (((_, (_, (_, (_, (_, (_, (_, (_, (_, (_, (_, (_, (_, (_, (_, (_, (_, (_, (_, (_, (_, (_, (_, (_, (_, (_, _)))))))))))))))))))))))))), ((_, (_, (_, (_, (_, _))))), (_, (_, (_, (_, (_, ((_, (_, (_, (_, (_, (_, (_, (_, (_, (_, (_, (_, (_, (_, (_, (_, (_, (_, (_, (_, (_, (_, (_, (_, (_, (_, _)))))))))))))))))))))))))), ((_, (_, (_, (_, (_, _))))), (_, (_, (_, (_, (_, _)))))))))))))), (_, (_, (_, _)))) y1 => ((), y1)
def lap : Lap := zid 9 77 [8, 9, 10, 11] D (.exit 0) [] A .ret [6] B pa pb F
def pk (x : D.den) (z : Ls × Ls × Int × Bool × Int × Int × Int × Int × Bool × Bool × Int × Int × Int × Int × Int × Int × Int × Int × Int × Bool × Bool × Int × Int × Int × Bool × Bool × Bool × Ls × (Lf) × Ls × (Lf) × (List (Ls × Ls × Int × Lf × Bool × Ls × Lf)) × Ls × Ls × Int × Bool × Int × Int × Int × Int × Bool × Bool × Int × Int × Int × Int × Int × Int × Int × Int × Int × Bool × Bool × Int × Int × Int × Bool × Bool × Bool × Ls × (Lf) × Ls × (Lf) × (List (Ls × Ls × Int × Lf × Bool × Ls × Lf)) × Int) : D.den := ((((), (z.1, (z.2.1, (z.2.2.1, ((), (z.2.2.2.1, ((), ((), (z.2.2.2.2.1, (z.2.2.2.2.2.1, (z.2.2.2.2.2.2.1, (z.2.2.2.2.2.2.2.1, (z.2.2.2.2.2.2.2.2.1, (z.2.2.2.2.2.2.2.2.2.1, (z.2.2.2.2.2.2.2.2.2.2.1, (z.2.2.2.2.2.2.2.2.2.2.2.1, (z.2.2.2.2.2.2.2.2.2.2.2.2.1, (z.2.2.2.2.2.2.2.2.2.2.2.2.2.1, (z.2.2.2.2.2.2.2.2.2.2.2.2.2.2.1, (z.2.2.2.2.2.2.2.2.2.2.2.2.2.2.2.1, (z.2.2.2.2.2.2.2.2.2.2.2.2.2.2.2.2.1, (z.2.2.2.2.2.2.2.2.2.2.2.2.2.2.2.2.2.1, (z.2.2.2.2.2.2.2.2.2.2.2.2.2.2.2.2.2.2.1, (z.2.2.2.2.2.2.2.2.2.2.2.2.2.2.2.2.2.2.2.1, (z.2.2.2.2.2.2.2.2.2.2.2.2.2.2.2.2.2.2.2.2.1, (z.2.2.2.2.2.2.2.2.2.2.2.2.2.2.2.2.2.2.2.2.2.1, ())))))))))))))))))))))))))), ((z.2.2.2.2.2.2.2.2.2.2.2.2.2.2.2.2.2.2.2.2.2.2.1, (z.2.2.2.2.2.2.2.2.2.2.2.2.2.2.2.2.2.2.2.2.2.2.2.1, ((), (z.2.2.2.2.2.2.2.2.2.2.2.2.2.2.2.2.2.2.2.2.2.2.2.2.1, (z.2.2.2.2.2.2.2.2.2.2.2.2.2.2.2.2.2.2.2.2.2.2.2.2.2.1, z.2.2.2.2.2.2.2.2.2.2.2.2.2.2.2.2.2.2.2.2.2.2.2.2.2.2.1))))), (z.2.2.2.2.2.2.2.2.2.2.2.2.2.2.2.2.2.2.2.2.2.2.2.2.2.2.2.1, (z.2.2.2.2.2.2.2.2.2.2.2.2.2.2.2.2.2.2.2.2.2.2.2.2.2.2.2.2.1, (z.2.2.2.2.2.2.2.2.2.2.2.2.2.2.2.2.2.2.2.2.2.2.2.2.2.2.2.2.2.1, (z.2.2.2.2.2.2.2.2.2.2.2.2.2.2.2.2.2.2.2.2.2.2.2.2.2.2.2.2.2.2.1, (z.2.2.2.2.2.2.2.2.2.2.2.2.2.2.2.2.2.2.2.2.2.2.2.2.2.2.2.2.2.2.2.1, (((), (z.2.2.2.2.2.2.2.2.2.2.2.2.2.2.2.2.2.2.2.2.2.2.2.2.2.2.2.2.2.2.2.2.1, (z.2.2.2.2.2.2.2.2.2.2.2.2.2.2.2.2.2.2.2.2.2.2.2.2.2.2.2.2.2.2.2.2.2.1, (z.2.2.2.2.2.2.2.2.2.2.2.2.2.2.2.2.2.2.2.2.2.2.2.2.2.2.2.2.2.2.2.2.2.2.1, ((), (z.2.2.2.2.2.2.2.2.2.2.2.2.2.2.2.2.2.2.2.2.2.2.2.2.2.2.2.2.2.2.2.2.2.2.2.1, ((), ((), (z.2.2.2.2.2.2.2.2.2.2.2.2.2.2.2.2.2.2.2.2.2.2.2.2.2.2.2.2.2.2.2.2.2.2.2.2.1, (z.2.2.2.2.2.2.2.2.2.2.2.2.2.2.2.2.2.2.2.2.2.2.2.2.2.2.2.2.2.2.2.2.2.2.2.2.2.1, (z.2.2.2.2.2.2.2.2.2.2.2.2.2.2.2.2.2.2.2.2.2.2.2.2.2.2.2.2.2.2.2.2.2.2.2.2.2.2.1, (z.2.2.2.2.2.2.2.2.2.2.2.2.2.2.2.2.2.2.2.2.2.2.2.2.2.2.2.2.2.2.2.2.2.2.2.2.2.2.2.1, (z.2.2.2.2.2.2.2.2.2.2.2.2.2.2.2.2.2.2.2.2.2.2.2.2.2.2.2.2.2.2.2.2.2.2.2.2.2.2.2.2.1, (z.2.2.2.2.2.2.2.2.2.2.2.2.2.2.2.2.2.2.2.2.2.2.2.2.2.2.2.2.2.2.2.2.2.2.2.2.2.2.2.2.2.1, (z.2.2.2.2.2.2.2.2.2.2.2.2.2.2.2.2.2.2.2.2.2.2.2.2.2.2.2.2.2.2.2.2.2.2.2.2.2.2.2.2.2.2.1, (z.2.2.2.2.2.2.2.2.2.2.2.2.2.2.2.2.2.2.2.2.2.2.2.2.2.2.2.2.2.2.2.2.2.2.2.2.2.2.2.2.2.2.2.1, (z.2.2.2.2.2.2.2.2.2.2.2.2.2.2.2.2.2.2.2.2.2.2.2.2.2.2.2.2.2.2.2.2.2.2.2.2.2.2.2.2.2.2.2.2.1, (z.2.2.2.2.2.2.2.2.2.2.2.2.2.2.2.2.2.2.2.2.2.2.2.2.2.2.2.2.2.2.2.2.2.2.2.2.2.2.2.2.2.2.2.2.2.1, (z.2.2.2.2.2.2.2.2.2.2.2.2.2.2.2.2.2.2.2.2.2.2.2.2.2.2.2.2.2.2.2.2.2.2.2.2.2.2.2.2.2.2.2.2.2.2.1, (z.2.2.2.2.2.2.2.2.2.2.2.2.2.2.2.2.2.2.2.2.2.2.2.2.2.2.2.2.2.2.2.2.2.2.2.2.2.2.2.2.2.2.2.2.2.2.2.1, (z.2.2.2.2.2.2.2.2.2.2.2.2.2.2.2.2.2.2.2.2.2.2.2.2.2.2.2.2.2.2.2.2.2.2.2.2.2.2.2.2.2.2.2.2.2.2.2.2.1, (z.2.2.2.2.2.2.2.2.2.2.2.2.2.2.2.2.2.2.2.2.2.2.2.2.2.2.2.2.2.2.2.2.2.2.2.2.2.2.2.2.2.2.2.2.2.2.2.2.2.1, (z.2.2.2.2.2.2.2.2.2.2.2.2.2.2.2.2.2.2.2.2.2.2.2.2.2.2.2.2.2.2.2.2.2.2.2.2.2.2.2.2.2.2.2.2.2.2.2.2.2.2.1, (z.2.2.2.2.2.2.2.2.2.2.2.2.2.2.2.2.2.2.2.2.2.2.2.2.2.2.2.2.2.2.2.2.2.2.2.2.2.2.2.2.2.2.2.2.2.2.2.2.2.2.2.1, (z.2.2.2.2.2.2.2.2.2.2.2.2.2.2.2.2.2.2.2.2.2.2.2.2.2.2.2.2.2.2.2.2.2.2.2.2.2.2.2.2.2.2.2.2.2.2.2.2.2.2.2.2.1, (z.2.2.2.2.2.2.2.2.2.2.2.2.2.2.2.2.2.2.2.2.2.2.2.2.2.2.2.2.2.2.2.2.2.2.2.2.2.2.2.2.2.2.2.2.2.2.2.2.2.2.2.2.2.1, ())))))))))))))))))))))))))), ((z.2.2.2.2.2.2.2.2.2.2.2.2.2.2.2.2.2.2.2.2.2.2.2.2.2.2.2.2.2.2.2.2.2.2.2.2.2.2.2.2.2.2.2.2.2.2.2.2.2.2.2.2.2.2.1, (z.2.2.2.2.2.2.2.2.2.2.2.2.2.2.2.2.2.2.2.2.2.2.2.2.2.2.2.2.2.2.2.2.2.2.2.2.2.2.2.2.2.2.2.2.2.2.2.2.2.2.2.2.2.2.2.1, ((), (z.2.2.2.2.2.2.2.2.2.2.2.2.2.2.2.2.2.2.2.2.2.2.2.2.2.2.2.2.2.2.2.2.2.2.2.2.2.2.2.2.2.2.2.2.2.2.2.2.2.2.2.2.2.2.2.2.1, (z.2.2.2.2.2.2.2.2.2.2.2.2.2.2.2.2.2.2.2.2.2.2.2.2.2.2.2.2.2.2.2.2.2.2.2.2.2.2.2.2.2.2.2.2.2.2.2.2.2.2.2.2.2.2.2.2.2.1, z.2.2.2.2.2.2.2.2.2.2.2.2.2.2.2.2.2.2.2.2.2.2.2.2.2.2.2.2.2.2.2.2.2.2.2.2.2.2.2.2.2.2.2.2.2.2.2.2.2.2.2.2.2.2.2.2.2.2.1))))), (z.2.2.2.2.2.2.2.2.2.2.2.2.2.2.2.2.2.2.2.2.2.2.2.2.2.2.2.2.2.2.2.2.2.2.2.2.2.2.2.2.2.2.2.2.2.2.2.2.2.2.2.2.2.2.2.2.2.2.2.1, (z.2.2.2.2.2.2.2.2.2.2.2.2.2.2.2.2.2.2.2.2.2.2.2.2.2.2.2.2.2.2.2.2.2.2.2.2.2.2.2.2.2.2.2.2.2.2.2.2.2.2.2.2.2.2.2.2.2.2.2.2.1, (z.2.2.2.2.2.2.2.2.2.2.2.2.2.2.2.2.2.2.2.2.2.2.2.2.2.2.2.2.2.2.2.2.2.2.2.2.2.2.2.2.2.2.2.2.2.2.2.2.2.2.2.2.2.2.2.2.2.2.2.2.2.1, (z.2.2.2.2.2.2.2.2.2.2.2.2.2.2.2.2.2.2.2.2.2.2.2.2.2.2.2.2.2.2.2.2.2.2.2.2.2.2.2.2.2.2.2.2.2.2.2.2.2.2.2.2.2.2.2.2.2.2.2.2.2.2.1, (z.2.2.2.2.2.2.2.2.2.2.2.2.2.2.2.2.2.2.2.2.2.2.2.2.2.2.2.2.2.2.2.2.2.2.2.2.2.2.2.2.2.2.2.2.2.2.2.2.2.2.2.2.2.2.2.2.2.2.2.2.2.2.2.1, ())))))))))))))), (x.2.1, ((), ((), z.2.2.2.2.2.2.2.2.2.2.2.2.2.2.2.2.2.2.2.2.2.2.2.2.2.2.2.2.2.2.2.2.2.2.2.2.2.2.2.2.2.2.2.2.2.2.2.2.2.2.2.2.2.2.2.2.2.2.2.2.2.2.2.2))))
def un (x : D.den) : Ls × Ls × Int × Bool × Int × Int × Int × Int × Bool × Bool × Int × Int × Int × Int × Int × Int × Int × Int × Int × Bool × Bool × Int × Int × Int × Bool × Bool × Bool × Ls × (Lf) × Ls × (Lf) × (List (Ls × Ls × Int × Lf × Bool × Ls × Lf)) × Ls × Ls × Int × Bool × Int × Int × Int × Int × Bool × Bool × Int × Int × Int × Int × Int × Int × Int × Int × Int × Bool × Bool × Int × Int × Int × Bool × Bool × Bool × Ls × (Lf) × Ls × (Lf) × (List (Ls × Ls × Int × Lf × Bool × Ls × Lf)) × Int := (x.1.1.2.1, x.1.1.2.2.1, x.1.1.2.2.2.1, x.1.1.2.2.2.2.2.1, x.1.1.2.2.2.2.2.2.2.2.1, x.1.1.2.2.2.2.2.2.2.2.2.1, x.1.1.2.2.2.2.2.2.2.2.2.2.1, x.1.1.2.2.2.2.2.2.2.2.2.2.2.1, x.1.1.2.2.2.2.2.2.2.2.2.2.2.2.1, x.1.1.2.2.2.2.2.2.2.2.2.2.2.2.2.1, x.1.1.2.2.2.2.2.2.2.2.2.2.2.2.2.2.1, x.1.1.2.2.2.2.2.2.2.2.2.2.2.2.2.2.2.1, x.1.1.2.2.2.2.2.2.2.2.2.2.2.2.2.2.2.2.1, x.1.1.2.2.2.2.2.2.2.2.2.2.2.2.2.2.2.2.2.1, x.1.1.2.2.2.2.2.2.2.2.2.2.2.2.2.2.2.2.2.2.1, x.1.1.2.2.2.2.2.2.2.2.2.2.2.2.2.2.2.2.2.2.2.1, x.1.1.2.2.2.2.2.2.2.2.2.2.2.2.2.2.2.2.2.2.2.2.1, x.1.1.2.2.2.2.2.2.2.2.2.2.2.2.2.2.2.2.2.2.2.2.2.1, x.1.1.2.2.2.2.2.2.2.2.2.2.2.2.2.2.2.2.2.2.2.2.2.2.1, x.1.1.2.2.2.2.2.2.2.2.2.2.2.2.2.2.2.2.2.2.2.2.2.2.2.1, x.1.1.2.2.2.2.2.2.2.2.2.2.2.2.2.2.2.2.2.2.2.2.2.2.2.2.1, x.1.1.2.2.2.2.2.2.2.2.2.2.2.2.2.2.2.2.2.2.2.2.2.2.2.2.2.1, x.1.2.1.1, x.1.2.1.2.1, x.1.2.1.2.2.2.1, x.1.2.1.2.2.2.2.1, x.1.2.1.2.2.2.2.2, x.1.2.2.1, x.1.2.2.2.1, x.1.2.2.2.2.1, x.1.2.2.2.2.2.1, x.1.2.2.2.2.2.2.1, x.1.2.2.2.2.2.2.2.1.2.1, x.1.2.2.2.2.2.2.2.1.2.2.1, x.1.2.2.2.2.2.2.2.1.2.2.2.1, x.1.2.2.2.2.2.2.2.1.2.2.2.2.2.1, x.1.2.2.2.2.2.2.2.1.2.2.2.2.2.2.2.2.1, x.1.2.2.2.2.2.2.2.1.2.2.2.2.2.2.2.2.2.1, x.1.2.2.2.2.2.2.2.1.2.2.2.2.2.2.2.2.2.2.1, x.1.2.2.2.2.2.2.2.1.2.2.2.2.2.2.2.2.2.2.2.1, x.1.2.2.2.2.2.2.2.1.2.2.2.2.2.2.2.2.2.2.2.2.1, x.1.2.2.2.2.2.2.2.1.2.2.2.2.2.2.2.2.2.2.2.2.2.1, x.1.2.2.2.2.2.2.2.1.2.2.2.2.2.2.2.2.2.2.2.2.2.2.1, x.1.2.2.2.2.2.2.2.1.2.2.2.2.2.2.2.2.2.2.2.2.2.2.2.1, x.1.2.2.2.2.2.2.2.1.2.2.2.2.2.2.2.2.2.2.2.2.2.2.2.2.1, x.1.2.2.2.2.2.2.2.1.2.2.2.2.2.2.2.2.2.2.2.2.2.2.2.2.2.1, x.1.2.2.2.2.2.2.2.1.2.2.2.2.2.2.2.2.2.2.2.2.2.2.2.2.2.2.1, x.1.2.2.2.2.2.2.2.1.2.2.2.2.2.2.2.2.2.2.2.2.2.2.2.2.2.2.2.1, x.1.2.2.2.2.2.2.2.1.2.2.2.2.2.2.2.2.2.2.2.2.2.2.2.2.2.2.2.2.1, x.1.2.2.2.2.2.2.2.1.2.2.2.2.2.2.2.2.2.2.2.2.2.2.2.2.2.2.2.2.2.1, x.1.2.2.2.2.2.2.2.1.2.2.2.2.2.2.2.2.2.2.2.2.2.2.2.2.2.2.2.2.2.2.1, x.1.2.2.2.2.2.2.2.1.2.2.2.2.2.2.2.2.2.2.2.2.2.2.2.2.2.2.2.2.2.2.2.1, x.1.2.2.2.2.2.2.2.1.2.2.2.2.2.2.2.2.2.2.2.2.2.2.2.2.2.2.2.2.2.2.2.2.1, x.1.2.2.2.2.2.2.2.1.2.2.2.2.2.2.2.2.2.2.2.2.2.2.2.2.2.2.2.2.2.2.2.2.2.1, x.1.2.2.2.2.2.2.2.2.1.1, x.1.2.2.2.2.2.2.2.2.1.2.1, x.1.2.2.2.2.2.2.2.2.1.2.2.2.1, x.1.2.2.2.2.2.2.2.2.1.2.2.2.2.1, x.1.2.2.2.2.2.2.2.2.1.2.2.2.2.2, x.1.2.2.2.2.2.2.2.2.2.1, x.1.2.2.2.2.2.2.2.2.2.2.1, x.1.2.2.2.2.2.2.2.2.2.2.2.1, x.1.2.2.2.2.2.2.2.2.2.2.2.2.1, x.1.2.2.2.2.2.2.2.2.2.2.2.2.2.1, x.2.2.2.2)
def body (x : D.den) (z : Ls × Ls × Int × Bool × Int × Int × Int × Int × Bool × Bool × Int × Int × Int × Int × Int × Int × Int × Int × Int × Bool × Bool × Int × Int × Int × Bool × Bool × Bool × Ls × (Lf) × Ls × (Lf) × (List (Ls × Ls × Int × Lf × Bool × Ls × Lf)) × Ls × Ls × Int × Bool × Int × Int × Int × Int × Bool × Bool × Int × Int × Int × Int × Int × Int × Int × Int × Int × Bool × Bool × Int × Int × Int × Bool × Bool × Bool × Ls × (Lf) × Ls × (Lf) × (List (Ls × Ls × Int × Lf × Bool × Ls × Lf)) × Int) : Tr ((Ls × Ls × Int × Bool × Int × Int × Int × Int × Bool × Bool × Int × Int × Int × Int × Int × Int × Int × Int × Int × Bool × Bool × Int × Int × Int × Bool × Bool × Bool × Ls × (Lf) × Ls × (Lf) × (List (Ls × Ls × Int × Lf × Bool × Ls × Lf)) × Ls × Ls × Int × Bool × Int × Int × Int × Int × Bool × Bool × Int × Int × Int × Int × Int × Int × Int × Int × Int × Bool × Bool × Int × Int × Int × Bool × Bool × Bool × Ls × (Lf) × Ls × (Lf) × (List (Ls × Ls × Int × Lf × Bool × Ls × Lf)) × Int) ⊕ ((Unit) ⊕ (Bool))) := t z.1 z.2.1 z.2.2.1 z.2.2.2.1 z.2.2.2.2.1 z.2.2.2.2.2.1 z.2.2.2.2.2.2.1 z.2.2.2.2.2.2.2.1 z.2.2.2.2.2.2.2.2.1 z.2.2.2.2.2.2.2.2.2.1 z.2.2.2.2.2.2.2.2.2.2.1 z.2.2.2.2.2.2.2.2.2.2.2.1 z.2.2.2.2.2.2.2.2.2.2.2.2.1 z.2.2.2.2.2.2.2.2.2.2.2.2.2.1 z.2.2.2.2.2.2.2.2.2.2.2.2.2.2.1 z.2.2.2.2.2.2.2.2.2.2.2.2.2.2.2.1 z.2.2.2.2.2.2.2.2.2.2.2.2.2.2.2.2.1 z.2.2.2.2.2.2.2.2.2.2.2.2.2.2.2.2.2.1 z.2.2.2.2.2.2.2.2.2.2.2.2.2.2.2.2.2.2.1 z.2.2.2.2.2.2.2.2.2.2.2.2.2.2.2.2.2.2.2.1 z.2.2.2.2.2.2.2.2.2.2.2.2.2.2.2.2.2.2.2.2.1 z.2.2.2.2.2.2.2.2.2.2.2.2.2.2.2.2.2.2.2.2.2.1 z.2.2.2.2.2.2.2.2.2.2.2.2.2.2.2.2.2.2.2.2.2.2.1 z.2.2.2.2.2.2.2.2.2.2.2.2.2.2.2.2.2.2.2.2.2.2.2.1 z.2.2.2.2.2.2.2.2.2.2.2.2.2.2.2.2.2.2.2.2.2.2.2.2.1 z.2.2.2.2.2.2.2.2.2.2.2.2.2.2.2.2.2.2.2.2.2.2.2.2.2.1 z.2.2.2.2.2.2.2.2.2.2.2.2.2.2.2.2.2.2.2.2.2.2.2.2.2.2.1 z.2.2.2.2.2.2.2.2.2.2.2.2.2.2.2.2.2.2.2.2.2.2.2.2.2.2.2.1 z.2.2.2.2.2.2.2.2.2.2.2.2.2.2.2.2.2.2.2.2.2.2.2.2.2.2.2.2.1 z.2.2.2.2.2.2.2.2.2.2.2.2.2.2.2.2.2.2.2.2.2.2.2.2.2.2.2.2.2.1 z.2.2.2.2.2.2.2.2.2.2.2.2.2.2.2.2.2.2.2.2.2.2.2.2.2.2.2.2.2.2.1 z.2.2.2.2.2.2.2.2.2.2.2.2.2.2.2.2.2.2.2.2.2.2.2.2.2.2.2.2.2.2.2.1 z.2.2.2.2.2.2.2.2.2.2.2.2.2.2.2.2.2.2.2.2.2.2.2.2.2.2.2.2.2.2.2.2.1 z.2.2.2.2.2.2.2.2.2.2.2.2.2.2.2.2.2.2.2.2.2.2.2.2.2.2.2.2.2.2.2.2.2.1 z.2.2.2.2.2.2.2.2.2.2.2.2.2.2.2.2.2.2.2.2.2.2.2.2.2.2.2.2.2.2.2.2.2.2.1 z.2.2.2.2.2.2.2.2.2.2.2.2.2.2.2.2.2.2.2.2.2.2.2.2.2.2.2.2.2.2.2.2.2.2.2.1 z.2.2.2.2.2.2.2.2.2.2.2.2.2.2.2.2.2.2.2.2.2.2.2.2.2.2.2.2.2.2.2.2.2.2.2.2.1 z.2.2.2.2.2.2.2.2.2.2.2.2.2.2.2.2.2.2.2.2.2.2.2.2.2.2.2.2.2.2.2.2.2.2.2.2.2.1 z.2.2.2.2.2.2.2.2.2.2.2.2.2.2.2.2.2.2.2.2.2.2.2.2.2.2.2.2.2.2.2.2.2.2.2.2.2.2.1 z.2.2.2.2.2.2.2.2.2.2.2.2.2.2.2.2.2.2.2.2.2.2.2.2.2.2.2.2.2.2.2.2.2.2.2.2.2.2.2.1 z.2.2.2.2.2.2.2.2.2.2.2.2.2.2.2.2.2.2.2.2.2.2.2.2.2.2.2.2.2.2.2.2.2.2.2.2.2.2.2.2.1 z.2.2.2.2.2.2.2.2.2.2.2.2.2.2.2.2.2.2.2.2.2.2.2.2.2.2.2.2.2.2.2.2.2.2.2.2.2.2.2.2.2.1 z.2.2.2.2.2.2.2.2.2.2.2.2.2.2.2.2.2.2.2.2.2.2.2.2.2.2.2.2.2.2.2.2.2.2.2.2.2.2.2.2.2.2.1 z.2.2.2.2.2.2.2.2.2.2.2.2.2.2.2.2.2.2.2.2.2.2.2.2.2.2.2.2.2.2.2.2.2.2.2.2.2.2.2.2.2.2.2.1 z.2.2.2.2.2.2.2.2.2.2.2.2.2.2.2.2.2.2.2.2.2.2.2.2.2.2.2.2.2.2.2.2.2.2.2.2.2.2.2.2.2.2.2.2.1 z.2.2.2.2.2.2.2.2.2.2.2.2.2.2.2.2.2.2.2.2.2.2.2.2.2.2.2.2.2.2.2.2.2.2.2.2.2.2.2.2.2.2.2.2.2.1 z.2.2.2.2.2.2.2.2.2.2.2.2.2.2.2.2.2.2.2.2.2.2.2.2.2.2.2.2.2.2.2.2.2.2.2.2.2.2.2.2.2.2.2.2.2.2.1 z.2.2.2.2.2.2.2.2.2.2.2.2.2.2.2.2.2.2.2.2.2.2.2.2.2.2.2.2.2.2.2.2.2.2.2.2.2.2.2.2.2.2.2.2.2.2.2.1 z.2.2.2.2.2.2.2.2.2.2.2.2.2.2.2.2.2.2.2.2.2.2.2.2.2.2.2.2.2.2.2.2.2.2.2.2.2.2.2.2.2.2.2.2.2.2.2.2.1 z.2.2.2.2.2.2.2.2.2.2.2.2.2.2.2.2.2.2.2.2.2.2.2.2.2.2.2.2.2.2.2.2.2.2.2.2.2.2.2.2.2.2.2.2.2.2.2.2.2.1 z.2.2.2.2.2.2.2.2.2.2.2.2.2.2.2.2.2.2.2.2.2.2.2.2.2.2.2.2.2.2.2.2.2.2.2.2.2.2.2.2.2.2.2.2.2.2.2.2.2.2.1 z.2.2.2.2.2.2.2.2.2.2.2.2.2.2.2.2.2.2.2.2.2.2.2.2.2.2.2.2.2.2.2.2.2.2.2.2.2.2.2.2.2.2.2.2.2.2.2.2.2.2.2.1 z.2.2.2.2.2.2.2.2.2.2.2.2.2.2.2.2.2.2.2.2.2.2.2.2.2.2.2.2.2.2.2.2.2.2.2.2.2.2.2.2.2.2.2.2.2.2.2.2.2.2.2.2.1 z.2.2.2.2.2.2.2.2.2.2.2.2.2.2.2.2.2.2.2.2.2.2.2.2.2.2.2.2.2.2.2.2.2.2.2.2.2.2.2.2.2.2.2.2.2.2.2.2.2.2.2.2.2.1 z.2.2.2.2.2.2.2.2.2.2.2.2.2.2.2.2.2.2.2.2.2.2.2.2.2.2.2.2.2.2.2.2.2.2.2.2.2.2.2.2.2.2.2.2.2.2.2.2.2.2.2.2.2.2.1 z.2.2.2.2.2.2.2.2.2.2.2.2.2.2.2.2.2.2.2.2.2.2.2.2.2.2.2.2.2.2.2.2.2.2.2.2.2.2.2.2.2.2.2.2.2.2.2.2.2.2.2.2.2.2.2.1 z.2.2.2.2.2.2.2.2.2.2.2.2.2.2.2.2.2.2.2.2.2.2.2.2.2.2.2.2.2.2.2.2.2.2.2.2.2.2.2.2.2.2.2.2.2.2.2.2.2.2.2.2.2.2.2.2.1 z.2.2.2.2.2.2.2.2.2.2.2.2.2.2.2.2.2.2.2.2.2.2.2.2.2.2.2.2.2.2.2.2.2.2.2.2.2.2.2.2.2.2.2.2.2.2.2.2.2.2.2.2.2.2.2.2.2.1 z.2.2.2.2.2.2.2.2.2.2.2.2.2.2.2.2.2.2.2.2.2.2.2.2.2.2.2.2.2.2.2.2.2.2.2.2.2.2.2.2.2.2.2.2.2.2.2.2.2.2.2.2.2.2.2.2.2.2.1 z.2.2.2.2.2.2.2.2.2.2.2.2.2.2.2.2.2.2.2.2.2.2.2.2.2.2.2.2.2.2.2.2.2.2.2.2.2.2.2.2.2.2.2.2.2.2.2.2.2.2.2.2.2.2.2.2.2.2.2.1 z.2.2.2.2.2.2.2.2.2.2.2.2.2.2.2.2.2.2.2.2.2.2.2.2.2.2.2.2.2.2.2.2.2.2.2.2.2.2.2.2.2.2.2.2.2.2.2.2.2.2.2.2.2.2.2.2.2.2.2.2.1 z.2.2.2.2.2.2.2.2.2.2.2.2.2.2.2.2.2.2.2.2.2.2.2.2.2.2.2.2.2.2.2.2.2.2.2.2.2.2.2.2.2.2.2.2.2.2.2.2.2.2.2.2.2.2.2.2.2.2.2.2.2.1 z.2.2.2.2.2.2.2.2.2.2.2.2.2.2.2.2.2.2.2.2.2.2.2.2.2.2.2.2.2.2.2.2.2.2.2.2.2.2.2.2.2.2.2.2.2.2.2.2.2.2.2.2.2.2.2.2.2.2.2.2.2.2.1 z.2.2.2.2.2.2.2.2.2.2.2.2.2.2.2.2.2.2.2.2.2.2.2.2.2.2.2.2.2.2.2.2.2.2.2.2.2.2.2.2.2.2.2.2.2.2.2.2.2.2.2.2.2.2.2.2.2.2.2.2.2.2.2.1 x.2.1 z.2.2.2.2.2.2.2.2.2.2.2.2.2.2.2.2.2.2.2.2.2.2.2.2.2.2.2.2.2.2.2.2.2.2.2.2.2.2.2.2.2.2.2.2.2.2.2.2.2.2.2.2.2.2.2.2.2.2.2.2.2.2.2.2
theorem ok : zhc Tryz.prog 0 (codeOf Tryz.prog 6) lap := zie Base.mixed Base.prog_ok q66 (by kernel_rfl) (by kernel_rfl) zhr.nil 9 pk un body (fun _ _ => rfl) (fun _ _ => rfl) (fun _ _ => rfl) (fun _ _ => rfl) (fun _ => rfl) fun _ _ _ _ => (by kernel_rfl)
end L9
def A : Dom := ⟨[], .bool⟩
def t (l : Ls) (va:Int) (k:UInt8) : Tr (Bool) :=
 .call (q21.f) fun y1 =>
 .br (!y1) (.ret false)
 (.br (decide ((↑l.length:Int) > (40:Int))) (.ret true)
  (.call (q7j.f (Int.ofNat k.toNat)) fun (y2a, y2b, y2c, y2d, y2e, y2f, y2g, y2h, y2i, y2j) =>
  .call (q81.f l) fun y3 =>
  .call (q3p.f (0:Int) y2a y2b y2c y2d y2e y2f y2g y2h) fun (y4a, y4b, y4c, y4d, y4e, y4f, y4g, y4h, y4i, y4j, y4k, y4l, y4m, y4n, y4o, y4p, y4q, y4r, y4s, y4t) =>
  .call (q3p.f (IntKind.u32.wrap (↑(BitVec.ofInt IntKind.u32.bits va &&& BitVec.ofInt IntKind.u32.bits (1073741823:Int)).toNat:Int)) y2a y2b y2c y2d y2e y2f y2g y2h) fun (y5a, y5b, y5c, y5d, y5e, y5f, y5g, y5h, y5i, y5j, y5k, y5l, y5m, y5n, y5o, y5p, y5q, y5r, y5s, y5t) =>
  .okl y4p.length<|.okl y4q.length<|.okl y4r.length<|.okl y4s.length<|.okl y4t.length<|.okl y5p.length<|.okl y5q.length<|.okl y5r.length<|.okl y5s.length<|.okl y5t.length<|.both (q20.L9.f y4a y4b y4c y4d y4e y4f y4g y4h y4i y4j (0:Int) y2a y2b y2c y2d y2e y2f y2g y2h y2i y2j y4k (0:Int) y4l y4m y4n y4o y4p y4q y4r y4s y4t y5a y5b y5c y5d y5e y5f y5g y5h y5i y5j (IntKind.u32.wrap (↑(BitVec.ofInt IntKind.u32.bits va &&& BitVec.ofInt IntKind.u32.bits (1073741823:Int)).toNat:Int)) y2a y2b y2c y2d y2e y2f y2g y2h y2i y2j y5k (IntKind.u32.wrap (↑(BitVec.ofInt IntKind.u32.bits va &&& BitVec.ofInt IntKind.u32.bits (1073741823:Int)).toNat:Int)) y5l y5m y5n y5o y5p y5q y5r y5s y5t y3 (0:Int)) (fun _ => .ret true)
  (fun y7 => .ret y7)))
def f (l : Ls) (va:Int) (k:UInt8) : Option (Bool) := (t l va k).val
def F (x : D.den) : Option (Bool) := f x.2.1 x.2.2.1 x.2.2.2
def pa : D.den -> (Bool) -> A.den := fun (_, (_, (_, _))) y1 => ((), y1)
def con : Con := tcon D A pa F
theorem ok : zgs Tryz.prog 6 con := zia Base.mixed Base.prog_ok q66 (by kernel_rfl) (.cons L9.ok (by kernel_rfl) (.nil)) 9 (fun _ => rfl) (fun x => t x.2.1 x.2.2.1 x.2.2.2) (fun _ => rfl) fun _ _ _ => (by kernel_rfl)
theorem law_ok (h : ∀ x, (zi1 [(.sl .byte), (.int .u32), .byte]).pre x -> F x = some true) : zgs Tryz.prog 6 (zi1 [(.sl .byte), (.int .u32), .byte]) := Go.Vx.law_ok ok h
end q20
end Go.Vx
end
section

end
section
namespace Go.Vx
theorem w64 {n : Int} (h0 : -9223372036854775808 <= n) (h1 : n < 9223372036854775808) : IntKind.i64.wrap n = n := by
 simp only [IntKind.wrap, IntKind.signed, IntKind.bits, if_true]
 simp
 omega
theorem w32 {n : Int} (h0 : 0 <= n) (h1 : n < 4294967296) : IntKind.u32.wrap n = n := by
 simp only [IntKind.wrap, IntKind.signed, IntKind.bits]
 simp
 omega
theorem wS {k : Nat} (h : k < 4611686018427387904) : IntKind.i64.wrap ((k:Int) + 1) = ((k + 1:Nat):Int) := by rw [w64 (by omega) (by omega)]; omega
theorem zin (c:UInt8) : (c.toNat:Int) < 256 := by have := UInt8.toNat_lt c; omega
theorem zio (c:UInt8) : 0 <= (c.toNat:Int) := by omega
theorem zip (c:UInt8) : UInt8.ofNat (c.toNat:Int).toNat = c := by simp
theorem ziq (c d:UInt8) : ((c.toNat:Int) == (d.toNat:Int)) = (c == d) := by
 by_cases h : c = d
 ·subst h; simp
 ·have : ¬ c.toNat = d.toNat := fun e => h (UInt8.toNat_inj.1 e)
  have h1 : (c == d) = false := by simpa using h
  rw [h1]
  exact beq_false_of_ne (by omega)
theorem zir (c:UInt8) (m:Int) (h0 : 0 <= m) (h1 : m < 256) : ((c.toNat:Int) == m) = (c == UInt8.ofNat m.toNat) := by
 have : m = ((UInt8.ofNat m.toNat).toNat:Int) := by simp; omega
 rw [← ziq]
 rw [← this]
theorem zis {k n : Nat} (h : k < n) : (0:Int) <= (k:Int) ∧ (k:Int) < (n:Int) := by omega
theorem Tr.val_chk {α : Type} {p : Prop} [Decidable p] {a : Tr α} (h : p) : (Tr.chk p a).val = a.val := if_pos h
theorem Tr.val_call {α β : Type} {o : Option β} {k : β -> Tr α} {y : β} (h : o = some y) : (Tr.call o k).val = (k y).val := by subst h; rfl
theorem Tr.val_inl {α β γ : Type} {o : Option (β ⊕ γ)} {k : β -> Tr α} {l : γ -> Tr α} {y : β} (h : o = some (.inl y)) : (Tr.both o k l).val = (k y).val := by subst h; rfl
theorem Tr.val_inr {α β γ : Type} {o : Option (β ⊕ γ)} {k : β -> Tr α} {l : γ -> Tr α} {y : γ} (h : o = some (.inr y)) : (Tr.both o k l).val = (l y).val := by subst h; rfl
def zit {α A ρ : Type} (step : A -> α -> A ⊕ ρ) (fin : A -> ρ) : A -> List α -> ρ
 | a, [] => fin a
 | a, c :: l => match step a c with
  | .inl a' => zit step fin a' l
  | .inr r => r
theorem ziu {α A σ ρ : Type} {body : σ -> Tr (σ ⊕ ρ)} (s : List α) (st : Nat -> A -> σ) (inv : Nat -> A -> Prop) (step : A -> α -> A ⊕ ρ) (fin : A -> ρ)
  (hs : ∀ (k:Nat) (a : A) (c : α), inv k a -> (hk : k < s.length) -> s[k]'hk = c -> (body (st k a)).val = some (match step a c with
   | .inl a' => .inl (st (k + 1) a')
   | .inr r => .inr r) ∧ ∀ a', step a c = .inl a' -> inv (k + 1) a')
  (he : ∀ a, inv s.length a -> (body (st s.length a)).val = some (.inr (fin a))) :
  ∀ (n k:Nat) (a : A), inv k a -> k <= s.length -> s.length - k < n -> iter body n (st k a) = some (zit step fin a (s.drop k)) := by
 intro n
 induction n with
 | zero => intro k a _ _ h; omega
 | succ n ih =>
  intro k a hi hk hn
  rw [iter]
  by_cases hl : k < s.length
  ·obtain ⟨h1, h2⟩ := hs k a _ hi hl rfl
   rw [h1, List.drop_eq_getElem_cons hl, zit]
   cases e : step a s[k] with
   | inr r => rfl
   | inl a' => exact ih (k + 1) a' (h2 a' e) (by omega) (by omega)
  ·have hkl : k = s.length := by omega
   subst hkl
   rw [he a hi, List.drop_length, zit]
theorem ziv {α A σ ρ : Type} {body : σ -> Tr (σ ⊕ ρ)} (s : List α) (st : Nat -> A -> σ) (inv : Nat -> A -> Prop) (step : A -> α -> A ⊕ ρ) (fin : A -> ρ)
  (hs : ∀ (k:Nat) (a : A) (c : α), inv k a -> (hk : k < s.length) -> s[k]'hk = c -> (body (st k a)).val = some (match step a c with
   | .inl a' => .inl (st (k + 1) a')
   | .inr r => .inr r) ∧ ∀ a', step a c = .inl a' -> inv (k + 1) a')
  (he : ∀ a, inv s.length a -> (body (st s.length a)).val = some (.inr (fin a))) (hn : s.length < 1125899906842624) {a : A} (hi : inv 0 a) {s0 : σ} (h0 : s0 = st 0 a) : Loop body s0 = some (zit step fin a s) := by
 subst h0
 have := ziu s st inv step fin hs he rounds 0 a hi (Nat.zero_le _) (by unfold rounds; omega)
 rw [List.drop_zero] at this
 exact this
theorem ziw {α : Type} {s : List α} {k : Nat} {c : α} {d : α} (hk : k < s.length) (hc : s[k]'hk = c) : s.getD k d = c := by
 rw [List.getD_eq_getElem?_getD, List.getElem?_eq_getElem hk, hc]; rfl
theorem zix {α : Type} {s : List α} {k : Nat} {c : α} {d : α} (hk : k < s.length) (hc : s[k]'hk = c) : s.getD (k:Int).toNat d = c := by
 rw [Int.toNat_natCast, List.getD_eq_getElem?_getD, List.getElem?_eq_getElem hk, hc]; rfl
end Go.Vx
end
section
set_option maxRecDepth 100000
namespace Go.Vx
namespace Pl
theorem ziy {p : UInt8 -> Bool} (h : ((List.range 256).all fun n => p (UInt8.ofNat n)) = true) (c:UInt8) : p c = true := by
 have := List.all_eq_true.1 h c.toNat (List.mem_range.2 (UInt8.toNat_lt c))
 simpa using this
theorem ziz {α : Type} [DecidableEq α] {f : Int -> Option α} {g : UInt8 -> α} (h : ((List.range 256).all fun n => decide (f (((UInt8.ofNat n).toNat:Nat):Int) = some (g (UInt8.ofNat n)))) = true) (c:UInt8) : f (c.toNat:Int) = some (g c) :=
 of_decide_eq_true (ziy (p := fun c => decide (f (c.toNat:Int) = some (g c))) h c)
def zj0 (c:UInt8) : Bool := (decide (97 <= c) && decide (c <= 122)) || (decide (65 <= c) && decide (c <= 90))
def zj1 (c:UInt8) : Bool := decide (48 <= c) && decide (c <= 57)
def zj2 (c:UInt8) : Bool := zj0 c || zj1 c || [33, 35, 36, 37, 38, 39, 42, 43, 45, 46, 94, 95, 96, 124, 126].contains c
def zj3 (c:UInt8) : Bool := decide (33 <= c) && decide (c <= 126)
def zj4 (c:UInt8) : Bool := c == 32 || c == 9
def zj5 (c:UInt8) : Bool := decide (c < 32) || c == 127
def zj6 (c:UInt8) : Bool := zj3 c || zj4 c || decide (128 <= c)
def zj7 (c:UInt8) : Bool := zj1 c || (decide (97 <= c) && decide (c <= 102)) || (decide (65 <= c) && decide (c <= 70))
def hexv (c:UInt8) : Nat := if zj1 c then c.toNat - 48 else if decide (97 <= c) && decide (c <= 102) then c.toNat - 87 else if decide (65 <= c) && decide (c <= 70) then c.toNat - 55 else 0
def zj8 (c:UInt8) : UInt8 := if decide (65 <= c) && decide (c <= 90) then c + 32 else c
def zj9 (k:Int) (c:UInt8) : Bool := if k = 1 then zj2 c else if k = 2 then zj3 c else if k = 3 then zj4 c else if k = 4 then zj1 c else if k = 5 then zj7 c else if k = 6 then zj6 c else false
def scan {α ρ : Type} (step : Nat -> α -> Option ρ) (fin : ρ) : Nat -> List α -> ρ
 | _, [] => fin
 | k, c :: l => match step k c with
  | none => scan step fin (k + 1) l
  | some r => r
theorem zja {α ρ : Type} (step : Nat -> α -> Option ρ) (fin : ρ) : ∀ (l : List α) (k:Nat), zit (fun (a:Nat) c => match step a c with
  | none => .inl (a + 1)
  | some r => .inr r) (fun _ => fin) k l = scan step fin k l
 | [], _ => rfl
 | c :: l, k => by
  rw [zit, scan]
  cases step k c with
  | none => exact zja step fin l (k + 1)
  | some r => rfl
theorem zjb {α ρ : Type} {body : Int -> Tr (Int ⊕ ρ)} (s : List α) (step : Nat -> α -> Option ρ) (fin : ρ)
  (hs : ∀ (k:Nat) (c : α), (hk : k < s.length) -> s[k]'hk = c -> (body (k:Int)).val = some (match step k c with
   | none => .inl ((k + 1:Nat):Int)
   | some r => .inr r)) (he : (body (s.length:Int)).val = some (.inr fin)) (hn : s.length < 1125899906842624) : Loop body 0 = some (scan step fin 0 s) := by
 rw [← zja]
 refine ziv s (fun k _ => (k:Int)) (fun k a => a = k) (fun a c => match step a c with
  | none => .inl (a + 1)
  | some r => .inr r) (fun _ => fin) (fun k a c hi hk hc => ?_) (fun a _ => he) hn rfl rfl
 subst hi
 rw [hs a c hk hc]
 cases step a c with
 | none => exact ⟨rfl, fun a' h => by cases h; rfl⟩
 | some r => exact ⟨rfl, fun a' h => by cases h⟩
theorem zjc {α : Type} (p : α -> Bool) : ∀ (l : List α) (k:Nat), scan (fun _ c => if p c = true then none else some (Sum.inr false : Unit ⊕ Bool)) (.inl ()) k l = if l.all p = true then .inl () else .inr false
 | [], _ => rfl
 | c :: l, k => by
  rw [scan]
  by_cases h : p c = true
  ·simp only [h, if_true, zjc p l (k + 1), List.all_cons, Bool.true_and]
  ·simp only [h, List.all_cons]; rfl
theorem zjd {α : Type} (c:Bool) (a b : α) : (bif c then a else b) = if c = true then a else b := by cases c <;> rfl
theorem zje {k n : Nat} : decide ((k:Int) < (n:Int)) = decide (k < n) := by simp
end Pl
end Go.Vx
end
section
set_option maxRecDepth 100000
namespace Go.Vx
namespace Pl
open Go Go.Proofs
theorem zjf (c:UInt8) : q34.f (c.toNat:Int) = some (zj1 c) := ziz (f := q34.f) (g := fun c => (zj1 c)) (by decide +kernel) c
theorem zjg (c:UInt8) : q3d.f (c.toNat:Int) = some (zj2 c) := ziz (f := q3d.f) (g := fun c => (zj2 c)) (by decide +kernel) c
theorem zjh (c:UInt8) : q3g.f (c.toNat:Int) = some (zj3 c) := ziz (f := q3g.f) (g := fun c => (zj3 c)) (by decide +kernel) c
theorem zji (c:UInt8) : q2y.f (c.toNat:Int) = some (zj4 c) := ziz (f := q2y.f) (g := fun c => (zj4 c)) (by decide +kernel) c
theorem zjj (c:UInt8) : q31.f (c.toNat:Int) = some (zj5 c) := ziz (f := q31.f) (g := fun c => (zj5 c)) (by decide +kernel) c
theorem zjk (c:UInt8) : q3a.f (c.toNat:Int) = some (zj6 c) := ziz (f := q3a.f) (g := fun c => (zj6 c)) (by decide +kernel) c
theorem zjl (c:UInt8) : q37.f (c.toNat:Int) = some ((hexv c:Int), zj7 c) := ziz (f := q37.f) (g := fun c => ((hexv c:Int), zj7 c)) (by decide +kernel) c
theorem zjm (c:UInt8) (k:Int) : q3m.f (c.toNat:Int) k = some (zj9 k c) := by
 unfold q3m.f q3m.t zj9
 rw [zjg, zjh, zji, zjf, zjl, zjk]
 simp only [Tr.val, zjd, beq_iff_eq]
 split <;> (try rfl) <;> split <;> (try rfl) <;> split <;> (try rfl) <;> split <;> (try rfl) <;> split <;> (try rfl) <;> split <;> rfl
theorem zjn {kinds : List Int} {s : List UInt8} {i : Nat} {c : UInt8} (hi : i < s.length) (hc : s[i]'hi = c) (hn : kinds.length < 1125899906842624) : q2v.L6.f kinds s (i:Int) false (kinds.length:Int) 0 = some (kinds.any fun k => zj9 k c) := by
 unfold q2v.L6.f
 refine (ziv (A := Bool) (ρ := Bool) (a := false) kinds (fun k a => (a, (k:Int))) (fun _ _ => True) (fun a k => .inl (a || zj9 k c)) id ?_ ?_ hn trivial rfl).trans ?_
 ·intro k a kd _ hk hkc
  refine ⟨?_, fun _ _ => trivial⟩
  have hw := wS (k := k) (by omega)
  subst hkc hc
  cases a <;> simp [q2v.L6.t, Tr.val, zjm, zis hk, hw, hk, zis hi, hi]
 ·intro a _
  simp [q2v.L6.t, Tr.val]
 ·congr 1
  have : ∀ (l : List Int) (a:Bool), zit (fun a k => (Sum.inl (a || zj9 k c) : Bool ⊕ Bool)) id a l = (a || l.any fun k => zj9 k c) := by
   intro l
   induction l with
   | nil => intro a; simp [zit]
   | cons k l ih => intro a; simp [zit, ih, Bool.or_assoc]
  simpa using this kinds false
theorem zjo {kinds : List Int} {s : List UInt8} (hk : kinds.length < 1125899906842624) (hn : s.length < 1125899906842624) : q2v.f kinds s = some (s.all fun c => kinds.any fun k => zj9 k c) := by
 have hL : q2v.L2.f kinds s (s.length:Int) 0 = some (if (s.all fun c => kinds.any fun k => zj9 k c) = true then .inl () else .inr false) := by
  unfold q2v.L2.f
  refine (zjb s (fun _ c => if (kinds.any fun k => zj9 k c) = true then none else some (Sum.inr false : Unit ⊕ Bool)) (.inl ()) (fun k c hl hc => ?_) ?_ hn).trans (by rw [zjc])
  ·have hw := wS (k := k) (by omega)
   by_cases h : (kinds.any fun k => zj9 k c) = true
   ·simp [q2v.L2.t, Tr.val, zjn hl hc hk, h, hw, hl]
   ·have h' : (kinds.any fun k => zj9 k c) = false := by simpa using h
    simp [q2v.L2.t, Tr.val, zjn hl hc hk, h', hw, hl]
  ·simp [q2v.L2.t, Tr.val]
 unfold q2v.f q2v.t
 rw [hL]
 cases (s.all fun c => kinds.any fun k => zj9 k c) <;> simp [Tr.val]
end Pl
end Go.Vx
end
section
set_option maxRecDepth 100000
namespace Go.Vx
namespace Pl
open Go
theorem zjp {α : Type} {t : List α -> Tr (List α ⊕ List α)} {p : α -> Bool} {s : List α} (h0 : (t []).val = some (.inr [])) (hs : ∀ c l, l.length < s.length -> (t (c :: l)).val = some (if p c = true then .inl l else .inr (c :: l))) (hn : s.length < 1125899906842624) : Loop t s = some (s.dropWhile p) := by
 have : ∀ (n:Nat) (z : List α), z.length < n -> z.length <= s.length -> iter t n z = some (z.dropWhile p) := by
  intro n
  induction n with
  | zero => intro z h; omega
  | succ n ih =>
   intro z h hz
   cases z with
   | nil => rw [iter, h0]; rfl
   | cons c l =>
    rw [iter, hs c l (by simp at hz; omega)]
    by_cases hc : p c = true
    ·simp only [hc, if_true, List.dropWhile_cons_of_pos]
     exact ih l (by simp at h; omega) (by simp at hz; omega)
    ·simp [hc, List.dropWhile_cons_of_neg]
 exact this rounds s (by unfold rounds; omega) (Nat.le_refl _)
def zjq {α : Type} (p : α -> Bool) (l : List α) : List α := (l.reverse.dropWhile p).reverse
theorem zjr {α : Type} {p : α -> Bool} (l : List α) (c : α) : zjq p (l ++ [c]) = if p c = true then zjq p l else l ++ [c] := by
 unfold zjq
 by_cases h : p c = true
 ·simp [h]
 ·simp [h]
theorem zjs {α : Type} {p : α -> Bool} (l : List α) : (zjq p l).length <= l.length := by
 unfold zjq
 have := (List.dropWhile_sublist p (l := l.reverse)).length_le
 simpa using this
theorem zjt {α : Type} {t : List α -> Tr (List α ⊕ List α)} {p : α -> Bool} {s : List α} (h0 : (t []).val = some (.inr [])) (hs : ∀ l c, l.length < s.length -> (t (l ++ [c])).val = some (if p c = true then .inl l else .inr (l ++ [c]))) (hn : s.length < 1125899906842624) : Loop t s = some (zjq p s) := by
 have : ∀ (n:Nat) (z : List α), z.length < n -> z.length <= s.length -> iter t n z = some (zjq p z) := by
  intro n
  induction n with
  | zero => intro z h; omega
  | succ n ih =>
   intro z h hz
   rcases List.eq_nil_or_concat z with rfl | ⟨l, c, rfl⟩
   ·rw [iter, h0]; rfl
   ·simp only [List.concat_eq_append, List.length_append, List.length_cons, List.length_nil] at h hz ⊢
    rw [iter, hs l c (by omega), zjr]
    by_cases hc : p c = true
    ·simp only [hc, if_true]
     exact ih l (by omega) (by omega)
    ·simp [hc]
 exact this rounds s (by unfold rounds; omega) (Nat.le_refl _)
def zju {ρ : Type} (i:Nat) : Nat ⊕ ρ -> Int ⊕ ρ
 | .inl j => .inl ((i + j:Nat):Int)
 | .inr r => .inr r
def goOn {α ρ : Type} (g : List α -> ρ) (l : List α) : Nat ⊕ ρ -> ρ
 | .inl j => g (l.drop j)
 | .inr r => r
theorem zjv {α ρ : Type} {body : Int -> Tr (Int ⊕ ρ)} (s : List α) (step : List α -> Nat ⊕ ρ) (g : List α -> ρ) (hg : ∀ l, g l = goOn g l (step l)) (hj : ∀ l j, step l = .inl j -> 0 < j ∧ j <= l.length)
  (hs : ∀ i, i <= s.length -> (body (i:Int)).val = some (zju i (step (s.drop i)))) (hn : s.length < 1125899906842624) : Loop body 0 = some (g s) := by
 have : ∀ (n i:Nat), i <= s.length -> s.length - i < n -> iter body n (i:Int) = some (g (s.drop i)) := by
  intro n
  induction n with
  | zero => intro i _ h; omega
  | succ n ih =>
   intro i hi h
   rw [iter, hs i hi, hg (s.drop i)]
   cases e : step (s.drop i) with
   | inr r => rfl
   | inl j =>
    obtain ⟨h1, h2⟩ := hj _ _ e
    rw [List.length_drop] at h2
    simp only [zju, goOn]
    rw [ih (i + j) (by omega) (by omega), List.drop_drop]
 exact this rounds 0 (Nat.zero_le _) (by unfold rounds; omega)
def zjw (base:Nat) (c:UInt8) : Bool := zj7 c && decide (hexv c < base)
def valN (base:Nat) (n:Nat) (s : List UInt8) : Nat := s.foldl (fun n c => n * base + hexv c) n
theorem zjx (base n:Nat) (c:UInt8) (s : List UInt8) : valN base n (c :: s) = valN base (n * base + hexv c) s := rfl
theorem zjy {base : Nat} (hb : 0 < base) : ∀ (s : List UInt8) (n:Nat), n <= valN base n s
 | [], n => Nat.le_refl _
 | c :: s, n => by
  rw [zjx]
  have := zjy hb s (n * base + hexv c)
  have h2 : n * 1 <= n * base := Nat.mul_le_mul_left n hb
  omega
def numS (base:Nat) (most:Int) (s : List UInt8) : Int × Int :=
 if s = [] ∨ (s.all (zjw base)) = false then (0, 22) else if (valN base 0 s:Int) <= max most 0 then ((valN base 0 s:Nat), 0) else (0, 23)
theorem zjz (c:UInt8) : zjw 10 c = zj1 c := by
 have := ziy (p := fun c => zjw 10 c == zj1 c) (by decide +kernel) c
 simpa using this
theorem zk0 (c:UInt8) : zjw 16 c = zj7 c := by
 have := ziy (p := fun c => zjw 16 c == zj7 c) (by decide +kernel) c
 simpa using this
theorem zk1 (c:UInt8) : hexv c < 16 := by
 have := ziy (p := fun c => decide (hexv c < 16)) (by decide +kernel) c
 simpa using this
def zk2 (s : List UInt8) : List UInt8 := s.map zj8
def same (a b : List UInt8) : Bool := zk2 a == zk2 b
def zk3 (p : UInt8 -> Bool) (s : List UInt8) : List UInt8 := zjq p (s.dropWhile p)
def trim (s : List UInt8) : List UInt8 := zk3 zj4 s
theorem zk4 (p : UInt8 -> Bool) (s : List UInt8) : (zk3 p s).length <= s.length := by
 unfold zk3
 have h1 := zjs (p := p) (s.dropWhile p)
 have h2 := (List.dropWhile_sublist p (l := s)).length_le
 omega
def before (c:UInt8) (s : List UInt8) : List UInt8 := s.takeWhile (· != c)
def after (c:UInt8) (s : List UInt8) : List UInt8 := (s.dropWhile (· != c)).drop 1
def cutC (c:UInt8) (s : List UInt8) : List UInt8 × List UInt8 × Bool := if s.contains c = true then (before c s, after c s, true) else (s, [], false)
def zk5 (c:UInt8) : List UInt8 -> List (List UInt8)
 | [] => [[]]
 | x :: l => if x == c then [] :: zk5 c l else match zk5 c l with
  | a :: r => (x :: a) :: r
  | [] => [[x]]
def zk6 (values : List (List UInt8)) : List (List UInt8) := values.flatMap fun v => (zk5 44 v).map trim
def zk7 (l : List (List UInt8 × List UInt8)) (name : List UInt8) : List (List UInt8) := (l.filter fun f => same f.1 name).map (·.2)
def zk8 (others : List UInt8) (pct:Bool) : List UInt8 -> Bool
 | [] => true
 | c :: l => if (zj1 c || zj0 c || others.contains c) = true then zk8 others pct l else if (pct && c == 37) = true then match l with
  | a :: b :: l' => zj7 a && zj7 b && zk8 others pct l'
  | _ => false
 else false
theorem zk9 {c : UInt8} : ∀ {s : List UInt8}, s.contains c = false -> Lib.indexByte s c = -1
 | [], _ => rfl
 | x :: l, h => by
  simp only [List.contains_cons, Bool.or_eq_false_iff] at h
  have hx : (x == c) = false := by
   have := h.1
   simp only [beq_eq_false_iff_ne] at this ⊢
   exact fun e => this e.symm
  unfold Lib.indexByte
  rw [zk9 h.2, hx]
  simp
theorem zka {c : UInt8} : ∀ {s : List UInt8}, s.contains c = true -> Lib.indexByte s c = ((before c s).length:Int)
 | [], h => by simp at h
 | x :: l, h => by
  unfold Lib.indexByte before
  by_cases hx : x = c
  ·subst hx; simp
  ·have h1 : (x == c) = false := by simpa using hx
   have h2 : l.contains c = true := by
    simp only [List.contains_cons, Bool.or_eq_true, beq_iff_eq] at h
    rcases h with h | h
    ·exact absurd h.symm hx
    ·exact h
   have ih := zka h2
   have h3 : (x != c) = true := by simp [bne, h1]
   rw [h1]
   simp only [List.takeWhile_cons, h3, if_true, List.length_cons]
   rw [ih]
   have h4 : (((before c l).length:Int) == -1) = false := by
    rw [beq_eq_false_iff_ne]; omega
   simp only [h4]
   simp [before]
theorem zkb {c : UInt8} : ∀ {s : List UInt8}, s.contains c = true -> s = before c s ++ c :: after c s
 | [], h => by simp at h
 | x :: l, h => by
  unfold before after
  by_cases hx : x = c
  ·subst hx; simp
  ·have h1 : (x != c) = true := by simpa using hx
   have h2 : l.contains c = true := by
    simp only [List.contains_cons, Bool.or_eq_true, beq_iff_eq] at h
    rcases h with h | h
    ·exact absurd h.symm hx
    ·exact h
   have ih := zkb h2
   simp only [List.takeWhile_cons, List.dropWhile_cons, h1, if_true, List.cons_append]
   congr 1
theorem zkc {c : UInt8} {s : List UInt8} (h : s.contains c = true) : s.take (before c s).length = before c s := by
 refine (congrArg (List.take (before c s).length) (zkb h)).trans ?_
 simp
theorem zkd {c : UInt8} {s : List UInt8} (h : s.contains c = true) : s.drop ((before c s).length + 1) = after c s := by
 refine (congrArg (List.drop ((before c s).length + 1)) (zkb h)).trans ?_
 simp
theorem zke {c : UInt8} {s : List UInt8} (h : s.contains c = true) : (before c s).length + 1 + (after c s).length = s.length := by
 have := congrArg List.length (zkb h)
 simp at this
 omega
theorem zkf {c : UInt8} : ∀ {s : List UInt8}, s.contains c = false -> zk5 c s = [s]
 | [], _ => rfl
 | x :: l, h => by
  simp only [List.contains_cons, Bool.or_eq_false_iff] at h
  have hx : (x == c) = false := by
   have := h.1
   simp only [beq_eq_false_iff_ne] at this ⊢
   exact fun e => this e.symm
  simp only [zk5, hx, zkf h.2]
  rfl
theorem zkg {c : UInt8} : ∀ {s : List UInt8}, s.contains c = true -> zk5 c s = before c s :: zk5 c (after c s)
 | [], h => by simp at h
 | x :: l, h => by
  unfold before after
  by_cases hx : x = c
  ·subst hx; simp [zk5]
  ·have h0 : (x == c) = false := by simpa using hx
   have h1 : (x != c) = true := by simpa using hx
   have h2 : l.contains c = true := by
    simp only [List.contains_cons, Bool.or_eq_true, beq_iff_eq] at h
    rcases h with h | h
    ·exact absurd h.symm hx
    ·exact h
   simp only [zk5, h0, zkg h2, List.takeWhile_cons, List.dropWhile_cons, h1, if_true]
   rfl
theorem zkh (c:UInt8) (s : List UInt8) : zk5 c s ≠ [] := by
 by_cases h : s.contains c = true
 ·rw [zkg h]; simp
 ·rw [zkf (by simpa using h)]; simp
theorem zki (c:UInt8) : ∀ (n:Nat) (s : List UInt8), s.length <= n -> (zk5 c s).length = s.count c + 1
 | 0, s, h => by
  have : s = [] := List.length_eq_zero_iff.1 (by omega)
  subst this; rfl
 | n + 1, s, h => by
  by_cases hc : s.contains c = true
  ·have hl := zke hc
   rw [zkg hc, List.length_cons, zki c n (after c s) (by omega)]
   have h1 := congrArg (List.count c) (zkb hc)
   rw [List.count_append, List.count_cons_self] at h1
   have : (before c s).count c = 0 := by
    rw [List.count_eq_zero]
    unfold before
    intro hm
    have h2 : ∀ (l : List UInt8), c ∈ l.takeWhile (· != c) -> False := by
     intro l
     induction l with
     | nil => intro h; simp at h
     | cons x l ih =>
      intro h
      rw [List.takeWhile_cons] at h
      split at h
      ·rename_i hx
       rcases List.mem_cons.1 h with rfl | h
       ·simp at hx
       ·exact ih h
      ·simp at h
    exact h2 _ hm
   omega
  ·rw [zkf (by simpa using hc)]
   have : s.count c = 0 := by
    rw [List.count_eq_zero]
    simpa using hc
   simp [this]
end Pl
end Go.Vx
end
section
set_option maxRecDepth 100000
namespace Go.Vx
namespace Pl
open Go Go.Proofs
theorem zkj (s : List UInt8) (k:Int) : (s.all fun c => [k].any fun k => zj9 k c) = s.all (zj9 k) := by
 congr 1; funext c; simp
theorem zkk {k : Int} {s : List UInt8} (hn : s.length < 1125899906842624) : q2v.f [k] s = some (s.all (zj9 k)) := by
 rw [zjo (by simp) hn, zkj]
theorem zkl {m d n base : Nat} (hb : 0 < base) (hd : d <= m) : (decide ((n:Int) > ((m:Int) - (d:Int)).tdiv (base:Int))) = decide (m < n * base + d) := by
 have h1 : ((m:Int) - (d:Int)) = ((m - d:Nat):Int) := by omega
 rw [h1]
 have h2 : ((m - d:Nat):Int).tdiv (base:Int) = (((m - d) / base:Nat):Int) := rfl
 rw [h2]
 have : ((n:Int) > (((m - d) / base:Nat):Int)) ↔ m < n * base + d := by
  have h3 : (m - d) / base < n ↔ m - d < n * base := Nat.div_lt_iff_lt_mul hb
  constructor
  ·intro h
   have := h3.1 (by omega)
   omega
  ·intro h
   have := h3.2 (by omega)
   omega
 exact decide_eq_decide.2 this
theorem zkm {base m : Nat} {s : List UInt8} (hb : 2 <= base) (hb2 : base <= 16) (hm : m <= 1099511627776) (hn : s.length < 1125899906842624) :
  q2s.L6.f s (base:Int) (m:Int) 0 (s.length:Int) 0 = some (if valN base 0 s <= m then .inl ((valN base 0 s:Nat):Int) else .inr (0, 23)) := by
 unfold q2s.L6.f
 refine (ziv (A := Nat) (a := 0) s (fun k n => ((n:Int), (k:Int))) (fun _ n => n <= m) (fun n c => if n * base + hexv c <= m then .inl (n * base + hexv c) else .inr (.inr (0, 23))) (fun n => Sum.inl ((n:Nat):Int)) ?_ ?_ hn (Nat.zero_le _) rfl).trans ?_
 ·intro k n c hi hk hc
  subst hc
  have hw := wS (k := k) (by omega)
  have hd := zk1 s[k]
  have hbne : ¬ base = 0 := by omega
  have hnb : n * base <= 1099511627776 * 16 := Nat.mul_le_mul (by omega) hb2
  refine ⟨?_, fun a' h => ?_⟩
  ·by_cases h1 : (hexv s[k]:Int) > (m:Int)
   ·have h2 : ¬ n * base + hexv s[k] <= m := by omega
    simp [q2s.L6.t, Tr.val, zjl, hk, h1, h2]
   ·have h3 : IntKind.i64.wrap ((m:Int) - (hexv s[k]:Int)) = (m:Int) - (hexv s[k]:Int) := w64 (by omega) (by omega)
    have h4 := zkl (n := n) (base := base) (d := hexv s[k]) (m := m) (by omega) (by omega)
    have h5 : IntKind.i64.wrap (((m:Int) - (hexv s[k]:Int)).tdiv (base:Int)) = ((m:Int) - (hexv s[k]:Int)).tdiv (base:Int) := by
     have h6 : ((m:Int) - (hexv s[k]:Int)) = ((m - hexv s[k]:Nat):Int) := by omega
     rw [h6]
     have h7 : ((m - hexv s[k]:Nat):Int).tdiv (base:Int) = (((m - hexv s[k]) / base:Nat):Int) := rfl
     rw [h7]
     have h8 := Nat.div_le_self (m - hexv s[k]) base
     clear h4 h6 h7
     generalize (m - hexv s[k]) / base = q at h8 ⊢
     exact w64 (by omega) (by omega)
    have h6 : IntKind.i64.wrap ((n:Int) * (base:Int)) = ((n * base:Nat):Int) := by
     rw [show ((n:Int) * (base:Int)) = ((n * base:Nat):Int) from by simp]
     have h8 : n * base <= 17592186044416 := by omega
     clear h4 h5 h3
     generalize n * base = q at h8 ⊢
     exact w64 (by omega) (by omega)
    have h7 : IntKind.i64.wrap (((n * base:Nat):Int) + (hexv s[k]:Int)) = ((n * base + hexv s[k]:Nat):Int) := by
     clear h4 h5 h3
     have h8 : n * base <= 17592186044416 := by omega
     generalize n * base = q at h8 ⊢
     rw [w64 (by omega) (by omega)]; simp
    by_cases h8 : n * base + hexv s[k] <= m
    ·have h9 : ¬ m < n * base + hexv s[k] := by omega
     rw [decide_eq_false h9] at h4
     simp only [q2s.L6.t, Tr.val, zix hk rfl, zjl, h3, h5, h4, h6, h7, hw, decide_eq_false h1, zis hk, if_pos h8, zje, decide_eq_true hk, cond_true, cond_false, if_true, and_self]
     simp [hbne]
    ·have h9 : m < n * base + hexv s[k] := by omega
     rw [decide_eq_true h9] at h4
     simp only [q2s.L6.t, Tr.val, zix hk rfl, zjl, h3, h5, h4, h6, h7, hw, decide_eq_false h1, zis hk, if_neg h8, zje, decide_eq_true hk, cond_true, cond_false, if_true, and_self]
     simp [hbne]
  ·split at h
   ·cases h; assumption
   ·cases h
 ·intro n _
  simp [q2s.L6.t, Tr.val]
 ·congr 1
  have : ∀ (l : List UInt8) (n:Nat), n <= m -> zit (fun n c => if n * base + hexv c <= m then (.inl (n * base + hexv c) : Nat ⊕ (Int ⊕ (Int × Int))) else .inr (.inr (0, 23))) (fun n => Sum.inl ((n:Nat):Int)) n l = if valN base n l <= m then .inl ((valN base n l:Nat):Int) else .inr (0, 23) := by
   intro l
   induction l with
   | nil => intro n h; simp [zit, valN, h]
   | cons c l ih =>
    intro n h
    rw [zit, zjx]
    by_cases h8 : n * base + hexv c <= m
    ·rw [if_pos h8]; exact ih _ h8
    ·rw [if_neg h8]
     have := zjy (base := base) (by omega) l (n * base + hexv c)
     rw [if_neg (by omega)]
  exact this s 0 (Nat.zero_le _)
theorem zkn (most:Int) : mx2 most 0 = ((max most 0).toNat:Int) := by
 unfold mx2
 simp
 omega
theorem zko {base : Nat} {kind most : Int} {s : List UInt8} (hk : ∀ c, zj9 kind c = zjw base c) (hb : 2 <= base) (hb2 : base <= 16) (hm : most <= 1099511627776) (hn : s.length < 1125899906842624) :
  q2s.f s (base:Int) most kind = some (numS base most s) := by
 unfold q2s.f q2s.t numS
 rw [zkk hn, zkn, zkm hb hb2 (by omega) hn]
 have e : s.all (zj9 kind) = s.all (zjw base) := by congr 1; funext c; exact hk c
 rw [e]
 by_cases h0 : s = []
 ·subst h0; simp [Tr.val]
 ·have h1 : (s == []) = false := by simpa using h0
  cases h2 : s.all (zjw base) with
  | false => simp [Tr.val, h0]
  | true =>
   by_cases h3 : valN base 0 s <= (max most 0).toNat
   ·have h4 : (valN base 0 s:Int) <= max most 0 := by omega
    simp only [Tr.val, h1, if_pos h3, if_pos h4, cond_false, Bool.not_true]; simp [h0]
   ·have h4 : ¬ (valN base 0 s:Int) <= max most 0 := by omega
    simp only [Tr.val, h1, if_neg h3, if_neg h4, cond_false, Bool.not_true]; simp [h0]
theorem zkp {most : Int} {s : List UInt8} (hm : most <= 1099511627776) (hn : s.length < 1125899906842624) : q2m.f s most = some (numS 10 most s) := by
 unfold q2m.f q2m.t
 rw [show (10:Int) = ((10:Nat):Int) from rfl, zko (fun c => by simp [zj9, zjz]) (by decide) (by decide) hm hn]
 simp [Tr.val]
theorem zkq {s : List UInt8} (hn : s.length < 1125899906842624) : qbs.L1.f s = some (s.dropWhile zj4) := by
 unfold qbs.L1.f
 refine zjp (p := zj4) ?_ ?_ hn
 ·simp [qbs.L1.t, Tr.val]
 ·intro c l _
  cases h : zj4 c <;> simp [qbs.L1.t, Tr.val, zji, h] <;> omega
theorem zkr {l : List UInt8} {c : UInt8} (hn : l.length < 1125899906842624) : IntKind.i64.wrap (((l ++ [c]).length:Int) - 1) = (l.length:Int) := by
 rw [List.length_append]
 simp only [List.length_cons, List.length_nil]
 rw [w64 (by omega) (by omega)]
 omega
theorem zks {s : List UInt8} (hn : s.length < 1125899906842624) : qbs.L3.f s = some (zjq zj4 s) := by
 unfold qbs.L3.f
 refine zjt (p := zj4) ?_ ?_ hn
 ·simp [qbs.L3.t, Tr.val]
 ·intro l c hl
  have h1 := zkr (l := l) (c := c) (by omega)
  have h2 : ((l ++ [c]) == []) = false := by simp
  have h3 : (l ++ [c]).getD l.length 0 = c := by simp
  unfold qbs.L3.t
  rw [h1]
  simp only [Tr.val, h2, Int.toNat_natCast, h3, zji]
  cases h : zj4 c <;> simp <;> omega
theorem zkt {s : List UInt8} (hn : s.length < 1125899906842624) : qbj.f s = some (trim s) := by
 unfold qbj.f qbj.t qbs.f qbs.t trim zk3
 rw [zkq hn]
 have := (List.dropWhile_sublist zj4 (l := s)).length_le
 simp only [Tr.val, zks (s := List.dropWhile zj4 s) (by omega)]
theorem zku {s : List UInt8} {k : Nat} (hk : k < s.length) (b:UInt8) : ((s.take k).map zj8 ++ s.drop k).set k b = (s.take k).map zj8 ++ b :: s.drop (k + 1) := by
 rw [List.set_append_right _ _ (by simp; omega)]
 have e : k - ((s.take k).map zj8).length = 0 := by simp; omega
 rw [e, List.drop_eq_getElem_cons hk]
 rfl
theorem zkv {s : List UInt8} {k : Nat} (hk : k < s.length) : (s.take (k + 1)).map zj8 ++ s.drop (k + 1) = (s.take k).map zj8 ++ zj8 s[k] :: s.drop (k + 1) := by
 rw [List.take_add_one, List.getElem?_eq_getElem hk, List.map_append, List.append_assoc]
 rfl
theorem zkw {s : List UInt8} {k : Nat} (hk : k < s.length) : ((s.take k).map zj8 ++ s.drop k).getD k 0 = s[k] := by
 rw [List.getD_eq_getElem?_getD, List.getElem?_append_right (by simp; omega)]
 simp [Nat.min_eq_left (Nat.le_of_lt hk), hk]
theorem zkx {s : List UInt8} {k : Nat} (hk : k <= s.length) : ((s.take k).map zj8 ++ s.drop k).length = s.length := by
 simp; omega
theorem zky (c:UInt8) (h1 : (c.toNat:Int) ≥ 65) (h2 : (c.toNat:Int) <= 90) : IntKind.u8.wrap (IntKind.u8.wrap ((c.toNat:Int) + 97) - 65) = ((c.toNat + 32:Nat):Int) ∧ UInt8.ofNat (c.toNat + 32) = zj8 c := by
 have := ziy (p := fun c => !(decide ((c.toNat:Int) ≥ 65) && decide ((c.toNat:Int) <= 90)) || (decide (IntKind.u8.wrap (IntKind.u8.wrap ((c.toNat:Int) + 97) - 65) = ((c.toNat + 32:Nat):Int)) && (UInt8.ofNat (c.toNat + 32) == zj8 c))) (by decide +kernel) c
 simpa [h1, h2] using this
theorem zkz (c:UInt8) (h : ¬ ((c.toNat:Int) ≥ 65 ∧ (c.toNat:Int) <= 90)) : zj8 c = c := by
 have := ziy (p := fun c => (decide ((c.toNat:Int) ≥ 65) && decide ((c.toNat:Int) <= 90)) || (zj8 c == c)) (by decide +kernel) c
 simpa [h] using this
theorem zl0 {s : List UInt8} (hn : s.length < 140737488355328) : qbd.f s = some (zk2 s) := by
 have hL : qbd.L3.f s (s.length:Int) 0 = some (zk2 s) := by
  unfold qbd.L3.f
  refine (ziv (A := Unit) (a := ()) s (fun k _ => ((s.take k).map zj8 ++ s.drop k, (k:Int))) (fun _ _ => True) (fun _ _ => .inl ()) (fun _ => zk2 s) ?_ ?_ (by omega) trivial (by simp)).trans ?_
  ·intro k a c _ hk hc
   refine ⟨?_, fun _ _ => trivial⟩
   subst hc
   have hw := wS (k := k) (by omega)
   have ha := zkw hk
   have hl := zkx (Nat.le_of_lt hk)
   unfold qbd.L3.t
   simp only [Int.toNat_natCast, Nat.zero_add, ha, hl, zje, decide_eq_true hk, hw, zkv hk]
   by_cases h1 : (s[k].toNat:Int) ≥ 65
   ·by_cases h2 : (s[k].toNat:Int) <= 90
    ·obtain ⟨q1, q2⟩ := zky s[k] h1 h2
     rw [q1]
     simp only [Tr.val, h1, h2, decide_true, cond_true, Int.toNat_natCast, q2, zku hk, List.length_set, hl]
     simp [hk]
     omega
    ·have := zkz s[k] (fun h => h2 h.2)
     simp only [Tr.val, h1, h2, decide_true, decide_false, cond_true, cond_false, this]
     simp [hk]
   ·have := zkz s[k] (fun h => h1 h.1)
    simp only [Tr.val, h1, decide_true, decide_false, cond_true, cond_false, this]
    simp [hk]
  ·intro a _
   simp [qbd.L3.t, Tr.val, zk2]
  ·have : ∀ (l : List UInt8), zit (fun (_ : Unit) (_:UInt8) => (Sum.inl () : Unit ⊕ List UInt8)) (fun _ => zk2 s) () l = zk2 s := by
    intro l
    induction l with
    | nil => rfl
    | cons c l ih => exact ih
   rw [this]
 unfold qbd.f qbd.t
 rw [List.nil_append, hL]
 simp [Tr.val]
 omega
theorem zl1 {a b : List UInt8} (ha : a.length < 140737488355328) (hb : b.length < 140737488355328) : qbg.f a b = some (same a b) := by
 unfold qbg.f qbg.t
 rw [zl0 ha, zl0 hb]
 rfl
theorem zl2 (c:UInt8) (s : List UInt8) : Lib.indexByte s c = if s.contains c = true then ((before c s).length:Int) else -1 := by
 by_cases h : s.contains c = true
 ·rw [if_pos h, zka h]
 ·rw [if_neg h, zk9 (by simpa using h)]
end Pl
end Go.Vx
end
section
set_option maxRecDepth 100000
namespace Go.Vx
namespace Pl
open Go Go.Proofs
theorem zl3 {most : Int} {s : List UInt8} (hm : most <= 1099511627776) (hn : s.length < 1125899906842624) : q2p.f s most = some (numS 16 most s) := by
 unfold q2p.f q2p.t
 rw [show (16:Int) = ((16:Nat):Int) from rfl, zko (fun c => by simp [zj9, zk0]) (by decide) (by decide) hm hn]
 simp [Tr.val]
theorem zl4 {α : Type} (l : List α) : List.take l.length (List.drop 0 l) = l := by simp
theorem zl5 (s : List UInt8) (c:UInt8) : q8v.f s (c.toNat:Int) = some (if s.contains c = true then ((before c s).length:Int) else -1) := by
 unfold q8v.f
 have : ((c.toNat:Int)).toNat.toUInt8 = c := by simp
 rw [this, zl2]
theorem zl6 {c : UInt8} {s : List UInt8} (h : [c] = s) : s.contains c = true ∧ (before c s).length = 0 := by
 subst h; simp [before]
theorem zl7 (s : List UInt8) : q9y.f s = some (if s.contains 32 = true then ((before 32 s).length:Int) else -1) := by
 unfold q9y.f q9y.t q1i.f q1i.t
 rw [show (32:Int) = ((32:UInt8).toNat:Int) from rfl, zl5]
 by_cases h : [(32:UInt8)] = s
 ·have := zl6 h
  simp only [Tr.val, beq_iff_eq.2 h, cond_true, this.1, this.2, if_true]
  rfl
 ·simp [Tr.val, beq_eq_false_iff_ne.2 h]
theorem zl8 (s : List UInt8) : qa1.f s = some (if s.contains 44 = true then ((before 44 s).length:Int) else -1) := by
 unfold qa1.f qa1.t q1l.f q1l.t
 rw [show (44:Int) = ((44:UInt8).toNat:Int) from rfl, zl5]
 by_cases h : [(44:UInt8)] = s
 ·have := zl6 h
  simp only [Tr.val, beq_iff_eq.2 h, cond_true, this.1, this.2, if_true]
  rfl
 ·simp [Tr.val, beq_eq_false_iff_ne.2 h]
theorem zl9 (s : List UInt8) : q1o.f s = some (if s.contains 58 = true then ((before 58 s).length:Int) else -1) := by
 unfold q1o.f q1o.t
 rw [show (58:Int) = ((58:UInt8).toNat:Int) from rfl, zl5]
 by_cases h : [(58:UInt8)] = s
 ·have := zl6 h
  simp only [Tr.val, beq_iff_eq.2 h, cond_true, this.1, this.2, if_true]
  rfl
 ·simp [Tr.val, beq_eq_false_iff_ne.2 h]
theorem zla (s : List UInt8) : q1u.f s = some (if s.contains 63 = true then ((before 63 s).length:Int) else -1) := by
 unfold q1u.f q1u.t
 rw [show (63:Int) = ((63:UInt8).toNat:Int) from rfl, zl5]
 by_cases h : [(63:UInt8)] = s
 ·have := zl6 h
  simp only [Tr.val, beq_iff_eq.2 h, cond_true, this.1, this.2, if_true]
  rfl
 ·simp [Tr.val, beq_eq_false_iff_ne.2 h]
def cutT (idx : Option Int) (s : List UInt8) : Tr (List UInt8 × List UInt8 × Bool) :=
 .call idx fun y1 =>
 .br (decide (y1 ≥ (0:Int))) (.chk ((0:Int) <= (0:Int) ∧ (0:Int) <= y1 ∧ y1 <= (↑s.length:Int))<|.chk ((0:Int) <= IntKind.i64.wrap (y1 + (1:Int)) ∧ IntKind.i64.wrap (y1 + (1:Int)) <= (↑s.length:Int) ∧ (↑s.length:Int) <= (↑s.length:Int))<|.ret (List.drop (↑(0:Nat):Int).toNat (List.take y1.toNat s), List.drop (IntKind.i64.wrap (y1 + (1:Int))).toNat (List.take (↑s.length:Int).toNat s), true))
 (.ret (s, [], false))
theorem zlb {c : UInt8} {s : List UInt8} (hn : s.length < 1125899906842624) : (cutT (some (if s.contains c = true then ((before c s).length:Int) else -1)) s).val = some (cutC c s) := by
 unfold cutC cutT
 by_cases h : s.contains c = true
 ·have hl := zke h
  have hw := wS (k := (before c s).length) (by omega)
  simp only [if_pos h, Tr.val, hw, Int.toNat_natCast, zkc h]
  rw [if_pos (by omega), if_pos (by omega)]
  simp [zkd h]
 ·simp only [if_neg h]
  simp [Tr.val]
theorem zlc {s : List UInt8} (hn : s.length < 1125899906842624) : q94.f s = some (cutC 58 s) := by
 have h1 : q0x.f s = some (cutC 58 s) := by
  unfold q0x.f
  show (cutT (q1o.f s) s).val = _
  rw [zl9, zlb hn]
 unfold q94.f q94.t
 rw [h1]; rfl
theorem zld {s : List UInt8} (hn : s.length < 1125899906842624) : q9a.f s = some (cutC 63 s) := by
 have h1 : q13.f s = some (cutC 63 s) := by
  unfold q13.f
  show (cutT (q1u.f s) s).val = _
  rw [zla, zlb hn]
 unfold q9a.f q9a.t
 rw [h1]; rfl
theorem zle (s : List UInt8) : q8y.f s = some (s.contains 58) := by
 unfold q8y.f q8y.t qa4.f qa4.t
 rw [zl9]
 cases h : s.contains 58 <;> simp [Tr.val]
def gsT (idx : List UInt8 -> Option Int) (va : List (List UInt8)) (s : List UInt8) (sepSave:Int) (n:Int) (i:Int) : Tr ((List (List UInt8) × List UInt8 × Int) ⊕ (List (List UInt8) × List UInt8 × Int)) :=
 .br (decide (i < n)) (.call (idx s) fun y1 =>
  .br (decide (y1 < (0:Int))) (.ok ((0:Nat) = (0:Nat) ∧ va.length = va.length) ⟨rfl, rfl⟩<|.ret (.inr (va, s, i)))
  (.chk ((0:Int) <= (0:Int) ∧ (0:Int) <= IntKind.i64.wrap (y1 + sepSave) ∧ IntKind.i64.wrap (y1 + sepSave) <= (↑s.length:Int))<|.chk ((0:Int) <= i ∧ i < (↑va.length:Int))<|.chk ((0:Nat) + i.toNat < va.length)<|.chk ((0:Int) <= IntKind.i64.wrap (y1 + (1:Int)) ∧ IntKind.i64.wrap (y1 + (1:Int)) <= (↑s.length:Int) ∧ (↑s.length:Int) <= (↑s.length:Int))<|.chk ((0:Nat) = (0:Nat) ∧ va.length = (va.set ((0:Nat) + i.toNat) (List.drop (↑(0:Nat):Int).toNat (List.take (IntKind.i64.wrap (y1 + sepSave)).toNat s))).length)<|.ret (.inl (va.set ((0:Nat) + i.toNat) (List.drop (↑(0:Nat):Int).toNat (List.take (IntKind.i64.wrap (y1 + sepSave)).toNat s)), List.drop (IntKind.i64.wrap (y1 + (1:Int))).toNat (List.take (↑s.length:Int).toNat s), IntKind.i64.wrap (i + (1:Int))))))
 (.ok ((0:Nat) = (0:Nat) ∧ va.length = va.length) ⟨rfl, rfl⟩<|.ret (.inr (va, s, i)))
theorem zlf {idx : List UInt8 -> Option Int} {c : UInt8} (hidx : ∀ s, idx s = some (if s.contains c = true then ((before c s).length:Int) else -1)) {va : List (List UInt8)} {s : List UInt8} {i n : Nat} (hi : i < n) (hv : i < va.length) (hvl : va.length < 1125899906842624) (hn : s.length < 1125899906842624) (h : s.contains c = true) :
  (gsT idx va s 0 (n:Int) (i:Int)).val = some (.inl (va.set i (before c s), after c s, ((i + 1:Nat):Int))) := by
 have hl := zke h
 have hw := wS (k := (before c s).length) (by omega)
 have hw0 : IntKind.i64.wrap (((before c s).length:Int) + 0) = ((before c s).length:Int) := w64 (by omega) (by omega)
 have hwi := wS (k := i) (by omega)
 unfold gsT
 rw [hidx]
 have hneg : ¬ ((before c s).length:Int) < 0 := by omega
 simp only [if_pos h, Tr.val, hw, hw0, hwi, Int.toNat_natCast, Nat.zero_add, zkc h, decide_eq_false hneg, zje, decide_eq_true hi, cond_true, cond_false, List.length_set]
 rw [if_pos (by omega), if_pos (by omega), if_pos hv, if_pos (by omega), if_pos (by simp)]
 simp [zkd h]
theorem zlg {idx : List UInt8 -> Option Int} {c : UInt8} (hidx : ∀ s, idx s = some (if s.contains c = true then ((before c s).length:Int) else -1)) {n : Nat} : ∀ (k:Nat) (va : List (List UInt8)) (s : List UInt8) (i m:Nat), s.count c = k -> va.length = n + 1 -> i + k = n -> va.length < 1125899906842624 -> s.length < 1125899906842624 -> k < m ->
  ∃ va' s', iter (fun z : List (List UInt8) × List UInt8 × Int => gsT idx z.1 z.2.1 0 (n:Int) z.2.2) m (va, s, (i:Int)) = some (va', s', (n:Int)) ∧ va'.length = n + 1 ∧ va'.set n s' = va.take i ++ zk5 c s := by
 intro k
 induction k with
 | zero =>
  intro va s i m hc hv hi hvl hn hm
  have hns : s.contains c = false := by
   have := List.count_eq_zero.1 hc
   simpa using this
  have hin : i = n := by omega
  subst hin
  obtain ⟨m, rfl⟩ : ∃ m', m = m' + 1 := ⟨m - 1, by omega⟩
  refine ⟨va, s, ?_, hv, ?_⟩
  ·rw [iter]
   simp [gsT, Tr.val]
  ·rw [zkf hns]
   apply List.ext_getElem?
   intro j
   rw [List.getElem?_set]
   rcases Nat.lt_trichotomy j i with h | h | h
   ·rw [if_neg (by omega), List.getElem?_append_left (by simp; omega), List.getElem?_take_of_lt h]
   ·subst h
    have ht : (va.take j).length = j := by simp; omega
    rw [if_pos rfl, if_pos (by omega), List.getElem?_append_right (by omega), ht, Nat.sub_self]
    rfl
   ·rw [if_neg (by omega), List.getElem?_eq_none (by omega), List.getElem?_eq_none (by simp; omega)]
 | succ k ih =>
  intro va s i m hc hv hi hvl hn hm
  have hs : s.contains c = true := by
   have : 0 < s.count c := by omega
   have := List.count_pos_iff.1 this
   simpa using this
  obtain ⟨m, rfl⟩ : ∃ m', m = m' + 1 := ⟨m - 1, by omega⟩
  have hl := zke hs
  have hcnt : (after c s).count c = k := by
   have h1 := zki c s.length s (Nat.le_refl _)
   have h2 := zki c (after c s).length (after c s) (Nat.le_refl _)
   rw [zkg hs, List.length_cons] at h1
   omega
  obtain ⟨va', s', h1, h2, h3⟩ := ih (va.set i (before c s)) (after c s) (i + 1) m hcnt (by simpa using hv) (by omega) (by simpa using hvl) (by omega) (by omega)
  refine ⟨va', s', ?_, h2, ?_⟩
  ·rw [iter]
   simp only [zlf hidx (show i < n by omega) (show i < va.length by omega) hvl hn hs]
   exact h1
  ·rw [h3, zkg hs]
   have : (va.set i (before c s)).take (i + 1) = va.take i ++ [before c s] := by
    have ht : (va.take i).length = i := by simp; omega
    rw [List.take_set, List.take_add_one, List.getElem?_eq_getElem (show i < va.length by omega), List.set_append_right _ _ (by omega), ht, Nat.sub_self]
    rfl
   rw [this, List.append_assoc]
   rfl
end Pl
end Go.Vx
end
section
set_option maxRecDepth 100000
namespace Go.Vx
namespace Pl
open Go Go.Proofs
def zlh (idx : List UInt8 -> Option Int) (cnt : Option Int) (s : List UInt8) : Tr (List (List UInt8)) :=
 .call cnt fun y1 =>
  .chk ((0:Int) <= mn2 (IntKind.i64.wrap (y1 + (1:Int))) (IntKind.i64.wrap ((↑s.length:Int) + (1:Int))) ∧ mn2 (IntKind.i64.wrap (y1 + (1:Int))) (IntKind.i64.wrap ((↑s.length:Int) + (1:Int))) <= mn2 (IntKind.i64.wrap (y1 + (1:Int))) (IntKind.i64.wrap ((↑s.length:Int) + (1:Int))) ∧ mn2 (IntKind.i64.wrap (y1 + (1:Int))) (IntKind.i64.wrap ((↑s.length:Int) + (1:Int))) * (↑(16:Nat):Int) <= (140737488355328:Int) ∧ mn2 (IntKind.i64.wrap (y1 + (1:Int))) (IntKind.i64.wrap ((↑s.length:Int) + (1:Int))) <= (140737488355328:Int))<|.chk ((0:Nat) = (0:Nat) ∧ (mn2 (IntKind.i64.wrap (y1 + (1:Int))) (IntKind.i64.wrap ((↑s.length:Int) + (1:Int)))).toNat = (List.replicate (mn2 (IntKind.i64.wrap (y1 + (1:Int))) (IntKind.i64.wrap ((↑s.length:Int) + (1:Int)))).toNat ([] : List UInt8)).length)<|.call (Loop (fun z : List (List UInt8) × List UInt8 × Int => gsT idx z.1 z.2.1 0 (IntKind.i64.wrap (mn2 (IntKind.i64.wrap (y1 + (1:Int))) (IntKind.i64.wrap ((↑s.length:Int) + (1:Int))) - (1:Int))) z.2.2) ((List.replicate (mn2 (IntKind.i64.wrap (y1 + (1:Int))) (IntKind.i64.wrap ((↑s.length:Int) + (1:Int)))).toNat ([] : List UInt8)), s, (0:Int))) fun y2 =>
  .chk ((0:Int) <= y2.snd.snd ∧ y2.snd.snd < (↑y2.fst.length:Int))<|.chk ((0:Nat) + y2.snd.snd.toNat < y2.fst.length)<|.chk ((0:Int) <= (0:Int) ∧ (0:Int) <= IntKind.i64.wrap (y2.snd.snd + (1:Int)) ∧ IntKind.i64.wrap (y2.snd.snd + (1:Int)) <= (↑y2.fst.length:Int))<|.chk ((0:Nat) = (0:Nat) ∧ (IntKind.i64.wrap (y2.snd.snd + (1:Int)) - (↑(0:Nat):Int)).toNat = (y2.fst.set ((0:Nat) + y2.snd.snd.toNat) y2.snd.fst).length)<|.ret (y2.fst.set ((0:Nat) + y2.snd.snd.toNat) y2.snd.fst)
theorem zli {idx : List UInt8 -> Option Int} {c : UInt8} (hidx : ∀ s, idx s = some (if s.contains c = true then ((before c s).length:Int) else -1)) {s : List UInt8} (hn : s.length <= 1099511627776) :
  (zlh idx (some ((s.count c:Nat):Int)) s).val = some (zk5 c s) := by
 have hcl : s.count c <= s.length := List.count_le_length
 have e1 := wS (k := s.count c) (by omega)
 have e2 := wS (k := s.length) (by omega)
 have e3 : mn2 (((s.count c + 1:Nat):Int)) (((s.length + 1:Nat):Int)) = ((s.count c + 1:Nat):Int) := by rw [z1i]; omega
 have e4 : IntKind.i64.wrap (((s.count c + 1:Nat):Int) - 1) = ((s.count c:Nat):Int) := by rw [w64 (by omega) (by omega)]; omega
 obtain ⟨va, s', h1, h2, h3⟩ := zlg hidx (n := s.count c) (s.count c) (List.replicate (s.count c + 1) []) s 0 rounds rfl (by simp) (by omega) (by simp; omega) (by omega) (by unfold rounds; omega)
 have hL : Loop (fun z : List (List UInt8) × List UInt8 × Int => gsT idx z.1 z.2.1 0 ((s.count c:Nat):Int) z.2.2) (List.replicate (s.count c + 1) [], s, 0) = some (va, s', ((s.count c:Nat):Int)) := h1
 unfold zlh
 simp only [Tr.val, e1, e2, e3, e4, Int.toNat_natCast, hL, Nat.zero_add, h2, List.length_set, List.length_replicate]
 rw [if_pos (by omega), if_pos (by simp), if_pos (by omega), if_pos (by omega), if_pos (by omega), if_pos (by simp), h3]
 simp
theorem zlj {s : List UInt8} (hn : s.length <= 1099511627776) : qa7.f s = some (zk5 32 s) := by
 have h : qaj.f s 0 (-1) = some (zk5 32 s) := by
  rw [← zli zl7 hn]; rfl
 unfold qa7.f qa7.t
 rw [h]; rfl
theorem zlk {s : List UInt8} (hn : s.length <= 1099511627776) : qaa.f s = some (zk5 44 s) := by
 have h : qam.f s 0 (-1) = some (zk5 44 s) := by
  rw [← zli zl8 hn]; rfl
 unfold qaa.f qaa.t
 rw [h]; rfl
theorem zll {c : UInt8} : ∀ (n:Nat) {s : List UInt8}, s.length <= n -> ∀ x ∈ zk5 c s, x.length <= s.length
 | 0, s, h, x, hx => by
  have : s = [] := List.length_eq_zero_iff.1 (by omega)
  subst this
  simp [zk5] at hx
  subst hx
  simp
 | n + 1, s, h, x, hx => by
  by_cases hc : s.contains c = true
  ·have hl := zke hc
   rw [zkg hc] at hx
   rcases List.mem_cons.1 hx with rfl | hx
   ·omega
   ·have := zll n (show (after c s).length <= n by omega) x hx
    omega
  ·rw [zkf (by simpa using hc)] at hx
   simp at hx
   subst hx
   exact Nat.le_refl _
def Fit (N:Nat) (l : List (List UInt8)) : Prop := ∀ x ∈ l, x.length <= N
theorem zlm {α β : Type} (g : α -> List β) : ∀ (l : List α) (out : List β), zit (fun out x => (Sum.inl (out ++ g x) : List β ⊕ List β)) id out l = out ++ l.flatMap g
 | [], out => by simp [zit]
 | x :: l, out => by
  show zit (fun out x => (Sum.inl (out ++ g x) : List β ⊕ List β)) id (out ++ g x) l = _
  rw [zlm g l]; simp
theorem zln {α β : Type} (g : α -> β) (l : List α) : (l.flatMap fun x => [g x]) = l.map g := by
 induction l with
 | nil => rfl
 | cons x l ih => simp [ih]
theorem zlo {values out t15 : List (List UInt8)} (h1 : Fit 1099511627776 t15) (h2 : out.length + t15.length <= 4398046511104) : qba.L6.f values out t15 (t15.length:Int) 0 = some (out ++ t15.map trim) := by
 unfold qba.L6.f
 refine (ziv (A := List (List UInt8)) (a := out) t15 (fun k o => (o, (k:Int))) (fun k o => o.length = out.length + k) (fun o x => .inl (o ++ [trim x])) id ?_ ?_ (by omega) (by simp) rfl).trans ?_
 ·intro k o x ho hk hx
  have hw := wS (k := k) (by omega)
  have hx' : x.length < 1125899906842624 := by
   have := h1 x (by rw [← hx]; exact List.getElem_mem hk)
   omega
  refine ⟨?_, fun a' h => by cases h; simp [ho]; omega⟩
  unfold qba.L6.t
  simp only [Nat.zero_add, zix hk hx, zkt hx', Tr.val, zje, decide_eq_true hk, cond_true, zl4, hw]
  rw [if_pos (by omega), if_pos (by simpa using hk), if_pos (by omega), if_pos (by omega), if_pos (by simp)]
 ·intro o _
  simp [qba.L6.t, Tr.val]
 ·congr 1
  have := zlm (fun x => [trim x]) t15 out
  rw [this, zln]
theorem zlp {values : List (List UInt8)} (h1 : Fit 1099511627776 values) (h2 : (zk6 values).length <= 4398046511104) (h3 : values.length <= 4398046511104) : qba.f values = some (zk6 values) := by
 have hL : qba.L3.f values [] (values.length:Int) 0 = some (zk6 values) := by
  unfold qba.L3.f
  refine (ziv (A := List (List UInt8)) (a := []) values (fun k o => (o, (k:Int))) (fun k o => o = zk6 (values.take k)) (fun o x => .inl (o ++ (zk5 44 x).map trim)) id ?_ ?_ (by omega) (by simp [zk6]) rfl).trans ?_
  ·intro k o x ho hk hx
   have hw := wS (k := k) (by omega)
   have hx' : x.length <= 1099511627776 := h1 x (by rw [← hx]; exact List.getElem_mem hk)
   have hnext : zk6 (values.take (k + 1)) = o ++ (zk5 44 x).map trim := by
    rw [ho, List.take_add_one, List.getElem?_eq_getElem hk, hx]
    unfold zk6
    rw [List.flatMap_append]
    simp
   have hle : o.length + (zk5 44 x).length <= 4398046511104 := by
    have e1 : (zk6 (values.take (k + 1))).length <= (zk6 values).length := by
     conv => rhs; rw [← List.take_append_drop (k + 1) values]
     unfold zk6
     rw [List.flatMap_append, List.length_append]
     omega
    rw [hnext] at e1
    simp at e1
    omega
   refine ⟨?_, fun a' h => by cases h; exact hnext.symm⟩
   have hfit : Fit 1099511627776 (zk5 44 x) := fun y hy => by
    have := zll x.length (Nat.le_refl _) y hy
    omega
   unfold qba.L3.t
   simp only [Nat.zero_add, zix hk hx, zlk hx', zlo hfit hle, Tr.val, zje, decide_eq_true hk, cond_true, hw]
   rw [if_pos (by omega), if_pos (by simpa using hk)]
  ·intro o _
   simp [qba.L3.t, Tr.val]
  ·congr 1
   have := zlm (fun x => (zk5 44 x).map trim) values []
   rw [this]
   rfl
 unfold qba.f qba.t
 rw [hL]; rfl
theorem zlq {l : List (List UInt8 × List UInt8)} {name : List UInt8} (h1 : ∀ f ∈ l, f.1.length < 140737488355328) (hname : name.length < 140737488355328) (h2 : l.length <= 4398046511104) : qb7.f l name = some (zk7 l name) := by
 have hL : qb7.L3.f l [] name (l.length:Int) 0 = some (zk7 l name) := by
  unfold qb7.L3.f
  refine (ziv (A := List (List UInt8)) (a := []) l (fun k o => (o, (k:Int))) (fun k o => o.length <= k) (fun o x => .inl (o ++ if same x.1 name = true then [x.2] else [])) id ?_ ?_ (by omega) (by simp) rfl).trans ?_
  ·intro k o x ho hk hx
   have hw := wS (k := k) (by omega)
   have hx' := h1 x (by rw [← hx]; exact List.getElem_mem hk)
   refine ⟨?_, fun a' h => by cases h; split <;> simp <;> omega⟩
   unfold qb7.L3.t
   simp only [Nat.zero_add, zix hk hx, zl1 hx' hname, Tr.val, zje, decide_eq_true hk, cond_true, zl4, hw]
   rw [if_pos (by omega), if_pos (by simpa using hk)]
   cases hs : same x.1 name with
   | true =>
    simp only [cond_true, if_true]
    rw [if_pos (by omega), if_pos (by omega), if_pos (by simp)]
   | false => simp
  ·intro o _
   simp [qb7.L3.t, Tr.val]
  ·congr 1
   rw [zlm]
   unfold zk7
   clear h1 h2
   induction l with
   | nil => rfl
   | cons x l ih =>
    simp only [List.nil_append, List.flatMap_cons] at ih ⊢
    rw [ih, List.filter_cons]
    split <;> simp
 unfold qb7.f qb7.t
 rw [hL]; rfl
def zlr : List UInt8 -> Nat ⊕ (Unit ⊕ Bool)
 | a :: b :: _ => if (zj7 a && zj7 b) = true then .inl 3 else .inr (.inr false)
 | _ => .inr (.inr false)
def zls (others : List UInt8) (pct:Bool) : List UInt8 -> Nat ⊕ (Unit ⊕ Bool)
 | [] => .inr (.inl ())
 | c :: l => if (zj1 c || zj0 c || others.contains c) = true then .inl 1 else if (pct && c == 37) = true then zlr l else .inr (.inr false)
theorem zlt (others : List UInt8) (pct:Bool) (c:UInt8) (l : List UInt8) : zk8 others pct (c :: l) = if (zj1 c || zj0 c || others.contains c) = true then zk8 others pct l else if (pct && c == 37) = true then (match l with
  | a :: b :: l' => zj7 a && zj7 b && zk8 others pct l'
  | _ => false)
 else false := by
 cases l with
 | nil => simp [zk8]
 | cons a l =>
  cases l with
  | nil => simp [zk8]
  | cons b l => rw [zk8]
theorem zlu {others : List UInt8} {pct : Bool} {l : List UInt8} {j : Nat} (h : zls others pct l = .inl j) : 0 < j ∧ j <= l.length := by
 cases l with
 | nil => simp [zls] at h
 | cons c l =>
  unfold zls at h
  simp only at h
  by_cases h1 : (zj1 c || zj0 c || others.contains c) = true
  ·rw [if_pos h1] at h
   cases h
   simp
  ·rw [if_neg h1] at h
   by_cases h2 : (pct && c == 37) = true
   ·rw [if_pos h2] at h
    cases l with
    | nil => cases h
    | cons a l =>
     cases l with
     | nil => cases h
     | cons b l =>
      simp only [zlr] at h
      by_cases h3 : (zj7 a && zj7 b) = true
      ·rw [if_pos h3] at h
       cases h
       simp
      ·rw [if_neg h3] at h
       cases h
   ·rw [if_neg h2] at h
    cases h
theorem zlv (others : List UInt8) (pct:Bool) (l : List UInt8) : (if zk8 others pct l = true then (Sum.inl () : Unit ⊕ Bool) else .inr false) = goOn (fun l => if zk8 others pct l = true then (Sum.inl () : Unit ⊕ Bool) else .inr false) l (zls others pct l) := by
 cases l with
 | nil => rfl
 | cons c l =>
  rw [zlt]
  unfold zls
  by_cases h1 : (zj1 c || zj0 c || others.contains c) = true
  ·simp only [if_pos h1, goOn, List.drop_succ_cons, List.drop_zero]
  ·simp only [if_neg h1]
   by_cases h2 : (pct && c == 37) = true
   ·simp only [if_pos h2]
    cases l with
    | nil => rfl
    | cons a l =>
     cases l with
     | nil => rfl
     | cons b l =>
      by_cases h3 : (zj7 a && zj7 b) = true
      ·simp only [zlr, if_pos h3, goOn, h3, Bool.true_and]
       rfl
      ·simp only [zlr, if_neg h3, goOn, (by simpa using h3 : (zj7 a && zj7 b) = false), Bool.false_and]
       rfl
   ·simp only [if_neg h2]
    rfl
theorem zlw (c:UInt8) : ((decide (IntKind.u8.wrap (↑(BitVec.ofInt IntKind.u8.bits (c.toNat:Int) ||| BitVec.ofInt IntKind.u8.bits (32:Int)).toNat:Int) ≥ (97:Int))) && (decide (IntKind.u8.wrap (↑(BitVec.ofInt IntKind.u8.bits (c.toNat:Int) ||| BitVec.ofInt IntKind.u8.bits (32:Int)).toNat:Int) <= (122:Int)))) = zj0 c := by
 have := ziy (p := fun c => ((decide (IntKind.u8.wrap (↑(BitVec.ofInt IntKind.u8.bits (c.toNat:Int) ||| BitVec.ofInt IntKind.u8.bits (32:Int)).toNat:Int) ≥ (97:Int))) && (decide (IntKind.u8.wrap (↑(BitVec.ofInt IntKind.u8.bits (c.toNat:Int) ||| BitVec.ofInt IntKind.u8.bits (32:Int)).toNat:Int) <= (122:Int)))) == zj0 c) (by decide +kernel) c
 simpa using this
theorem zlx (s : List UInt8) (c:UInt8) : q9s.f s (c.toNat:Int) = some (if s.contains c = true then ((before c s).length:Int) else -1) := by
 unfold q9s.f q9s.t
 rw [zl5]; rfl
theorem zly {s : List UInt8} {i : Nat} {c a b : UInt8} {l : List UInt8} (h : s.drop i = c :: a :: b :: l) : List.drop (i + 1) (List.take (i + 3) s) = [a, b] := by
 have : List.drop (i + 1) (List.take (i + 3) s) = ((s.drop i).take 3).drop 1 := by
  rw [List.take_drop, List.drop_drop]
 rw [this, h]
 rfl
theorem zlz {s others : List UInt8} {pct : Bool} (hn : s.length < 1125899906842000) : qb4.f s others pct = some (zk8 others pct s) := by
 have hL : qb4.L2.f s others pct 0 = some (if zk8 others pct s = true then .inl () else .inr false) := by
  unfold qb4.L2.f
  refine zjv s (zls others pct) (fun l => if zk8 others pct l = true then .inl () else .inr false) (zlv others pct) ?_ ?_ (by omega)
  ·exact fun l j h => zlu h
  ·intro i hi
   by_cases hk : i < s.length
   ·have e := List.drop_eq_getElem_cons hk
    have hlen := congrArg List.length e
    simp only [List.length_drop, List.length_cons] at hlen
    have hw1 := wS (k := i) (by omega)
    have hw2 : IntKind.i64.wrap ((i:Int) + 2) = ((i + 2:Nat):Int) := by rw [w64 (by omega) (by omega)]; omega
    have hw3 : IntKind.i64.wrap ((i:Int) + 3) = ((i + 3:Nat):Int) := by rw [w64 (by omega) (by omega)]; omega
    have hw4 : IntKind.i64.wrap (((i + 2:Nat):Int) + 1) = ((i + 3:Nat):Int) := by rw [w64 (by omega) (by omega)]; omega
    have hlet := zlw s[i]
    rw [e]
    unfold qb4.L2.t zls
    simp only [zix hk rfl, zjf, zlx, Tr.val, zje, decide_eq_true hk, cond_true, zis hk, if_true, hw1, hw2, hw3, hw4, and_self]
    generalize hA : decide (IntKind.u8.wrap (↑(BitVec.ofInt IntKind.u8.bits (s[i].toNat:Int) ||| BitVec.ofInt IntKind.u8.bits (32:Int)).toNat:Int) ≥ (97:Int)) = A at hlet ⊢
    generalize hB : decide (IntKind.u8.wrap (↑(BitVec.ofInt IntKind.u8.bits (s[i].toNat:Int) ||| BitVec.ofInt IntKind.u8.bits (32:Int)).toNat:Int) <= (122:Int)) = B at hlet ⊢
    rw [← hlet]
    have h37 : ((s[i].toNat:Int) == 37) = (s[i] == 37) := zir s[i] 37 (by decide) (by decide)
    rw [h37]
    have hidx : decide ((if others.contains s[i] = true then ((before s[i] others).length:Int) else -1) ≥ 0) = others.contains s[i] := by
     cases others.contains s[i] <;> simp
    rw [hidx]
    have hP : (bif decide (i + 2 < s.length) then (if (0:Int) <= ((i + 1:Nat):Int) ∧ ((i + 1:Nat):Int) <= ((i + 3:Nat):Int) ∧ ((i + 3:Nat):Int) <= (s.length:Int) then (Tr.call (q2v.f [5] (List.drop (Int.toNat ((i + 1:Nat):Int)) (List.take (Int.toNat ((i + 3:Nat):Int)) s))) fun y => Tr.br y (Tr.ret (Sum.inl ((i + 3:Nat):Int))) (Tr.ret (Sum.inr (Sum.inr false)))).val else none) else some (Sum.inr (Sum.inr false) : Int ⊕ (Unit ⊕ Bool))) = some (zju i (zlr (s.drop (i + 1)))) := by
     by_cases h2 : i + 2 < s.length
     ·obtain ⟨a, b, l, hd⟩ : ∃ a b l, s.drop (i + 1) = a :: b :: l := by
       have e1 := List.drop_eq_getElem_cons (show i + 1 < s.length by omega)
       have e2 := List.drop_eq_getElem_cons (show i + 1 + 1 < s.length by omega)
       exact ⟨_, _, _, by rw [e1, e2]⟩
      have hd2 := zly (show s.drop i = s[i] :: a :: b :: l by rw [e, hd])
      rw [decide_eq_true h2, cond_true, if_pos (by omega), Int.toNat_natCast, Int.toNat_natCast, hd2, hd, zkk (by simp)]
      have k5 : ∀ c, zj9 5 c = zj7 c := fun c => by simp [zj9]
      simp only [List.all_cons, List.all_nil, Bool.and_true, k5, Tr.val]
      rw [zlr]
      cases h3 : (zj7 a && zj7 b) <;> rfl
     ·rw [decide_eq_false h2, cond_false]
      have : (s.drop (i + 1)).length <= 1 := by simp; omega
      cases hd : s.drop (i + 1) with
      | nil => rfl
      | cons a l =>
       cases l with
       | nil => rfl
       | cons b l => rw [hd] at this; simp at this
    cases zj1 s[i] <;> cases A <;> cases B <;> cases others.contains s[i] <;> cases pct <;> cases (s[i] == 37) <;> (try simp only [decide_true, cond_true, cond_false, Bool.false_or, Bool.or_false, Bool.true_or, Bool.or_true, Bool.and_true, Bool.true_and, Bool.and_false, Bool.false_and, if_true, Bool.false_eq_true, if_false]) <;> (first | rfl | exact hP)
   ·have hkl : i = s.length := by omega
    subst hkl
    simp [qb4.L2.t, Tr.val, zls, zju]
 unfold qb4.f qb4.t
 rw [hL]
 cases zk8 others pct s <;> rfl
end Pl
end Go.Vx
end
section
set_option maxRecDepth 100000
namespace Go.Vx
namespace Pl
open Go Go.Proofs
def zm0 : List UInt8 := [45, 46, 95, 126]
def zm1 : List UInt8 := [45, 46, 95, 126, 33, 36, 38, 39, 40, 41, 42, 43, 44, 59, 61, 58, 64, 47]
def zm2 : List UInt8 := [45, 46, 95, 126, 33, 36, 38, 39, 40, 41, 42, 43, 44, 59, 61, 58, 64, 47, 63]
def zm3 (s : List UInt8) : Bool :=
 (if (cutC 58 s).2.2 = true then decide ((numS 10 65535 (cutC 58 s).2.1).2 = 0) && decide ((cutC 58 s).2.1.length <= 5) else true) && !((cutC 58 s).1 == []) && decide ((cutC 58 s).1.length <= 255) && zk8 zm0 false (cutC 58 s).1
def zm4 (c:UInt8) (s : List UInt8) : Bool := match s with
 | x :: _ => x == c
 | [] => false
def zm5 (s : List UInt8) : Bool := zm4 47 s && zk8 zm1 true s
def zm6 (s : List UInt8) : Bool := zk8 zm2 true s
abbrev zm7 := Int × List UInt8 × List UInt8 × List UInt8 × Bool × Int
def badT : zm7 := (0, [], [], [], false, 400)
def zm8 (form:Int) (host s : List UInt8) : zm7 :=
 let path := if form = 2 ∧ (cutC 63 s).1 = [] then [47] else (cutC 63 s).1
 if zm5 path && zm6 (cutC 63 s).2.1 then (form, host, path, (cutC 63 s).2.1, (cutC 63 s).2.2, 0) else badT
def zm9 : List UInt8 := [104, 116, 116, 112, 58, 47, 47]
def zma : List UInt8 := [67, 79, 78, 78, 69, 67, 84]
def zmb : List UInt8 := [79, 80, 84, 73, 79, 78, 83]
def zmc (s : List UInt8) : List UInt8 := s.takeWhile fun c => !(c == 47 || c == 63)
def zmd (method s : List UInt8) : zm7 :=
 if method = zma then (if (zm3 s && s.contains 58) = true then (3, s, [], [], false, 0) else badT)
 else if method = zmb ∧ s = [42] then (4, [], [], [], false, 0)
 else if zm4 47 s = true then zm8 1 [] s
 else if 7 <= s.length ∧ same (s.take 7) zm9 = true then
  (if zm3 (zmc (s.drop 7)) = true then zm8 2 (zmc (s.drop 7)) ((s.drop 7).drop (zmc (s.drop 7)).length) else badT)
 else badT
theorem zme {c : UInt8} {s : List UInt8} : (cutC c s).1.length <= s.length ∧ (cutC c s).2.1.length <= s.length := by
 unfold cutC
 by_cases h : s.contains c = true
 ·have := zke h
  simp only [if_pos h]
  omega
 ·simp only [if_neg h]
  simp
theorem zmf {s : List UInt8} (hn : s.length < 1099511627776) : qap.f s = some (zm3 s) := by
 have hl := zme (c := 58) (s := s)
 unfold qap.f qap.t zm3
 rw [zlc (by omega), Tr.val_call rfl]
 generalize cutC 58 s = q at hl ⊢
 obtain ⟨n, p, has⟩ := q
 simp only at hl ⊢
 rw [zkp (by omega) (by omega), zlz (s := n) (by omega)]
 have e : ([(45:UInt8), (46:UInt8), (95:UInt8), (126:UInt8)]) = zm0 := rfl
 rw [e]
 generalize numS 10 65535 p = r
 obtain ⟨r1, r2⟩ := r
 have h255 : decide ((n.length:Int) <= 255) = decide (n.length <= 255) := by simp [decide_eq_decide]; omega
 have h5 : decide ((p.length:Int) > 5) = !decide (p.length <= 5) := by
  by_cases h : p.length <= 5
  ·simp [h]; omega
  ·simp [h]; omega
 have h0 : (r2 != 0) = !decide (r2 = 0) := by
  by_cases h : r2 = 0 <;> simp [h]
 simp only [Tr.val, h255, h5, h0]
 cases has <;> cases (n == []) <;> cases decide (n.length <= 255) <;> cases decide (r2 = 0) <;> cases decide (p.length <= 5) <;> simp
theorem zmg (s : List UInt8) : q9m.f s = some (zm4 47 s) := by
 have h1 : q1f.f s = some (zm4 47 s) := by
  unfold q1f.f q1f.t zm4
  cases s with
  | nil => simp [Tr.val]
  | cons x l =>
   have h : decide ((((x :: l).length:Nat):Int) ≥ 1) = true := by simp; omega
   simp only [Tr.val, h, cond_true]
   rw [if_pos (by simp; omega)]
   simp
 unfold q9m.f q9m.t
 rw [h1]; rfl
theorem zmh {s : List UInt8} (hn : s.length < 1099511627776) : qav.f s = some (zm5 s) := by
 unfold qav.f qav.t zm5
 rw [zmg, zlz (by omega)]
 cases zm4 47 s <;> simp [Tr.val, zm1]
theorem zmi {s : List UInt8} (hn : s.length < 1099511627776) : qay.f s = some (zm6 s) := by
 unfold qay.f qay.t zm6
 rw [zlz (by omega)]
 rfl
theorem zmj {form : Int} {host s : List UInt8} (hn : s.length < 1099511627776) : qb1.f form host s = some (zm8 form host s) := by
 have hl := zme (c := 63) (s := s)
 unfold qb1.f qb1.t zm8
 rw [zld (by omega), Tr.val_call rfl]
 generalize cutC 63 s = q at hl ⊢
 obtain ⟨n, p, has⟩ := q
 simp only at hl ⊢
 rw [zmh (s := n) (by omega), zmh (s := [47]) (by simp), zmi (s := p) (by omega)]
 by_cases h2 : form = 2
 ·have e2 : (form == 2) = true := by simpa using h2
  by_cases h0 : n = []
  ·subst h0
   simp only [Tr.val, e2, h2, cond_true, and_self, if_true, show (([] : List UInt8) == []) = true from rfl]
   cases zm5 [47] <;> cases zm6 p <;> rfl
  ·have e0 : (n == []) = false := by simpa using h0
   simp only [Tr.val, e2, e0, h2, h0, cond_true, cond_false, and_false, if_false]
   cases zm5 n <;> cases zm6 p <;> rfl
 ·have e2 : (form == 2) = false := by simpa using h2
  simp only [Tr.val, e2, h2, cond_false, false_and, if_false]
  cases zm5 n <;> cases zm6 p <;> rfl
theorem zmk : ∀ (s : List UInt8), Lib.indexAny (s ++ [47]) [47, 63] = ((zmc s).length:Int)
 | [] => by rfl
 | b :: l => by
  have ih := zmk l
  show (if [47, 63].contains b then (0:Int) else if Lib.indexAny (l ++ [47]) [47, 63] == -1 then -1 else Lib.indexAny (l ++ [47]) [47, 63] + 1) = _
  rw [ih]
  unfold zmc
  have hc : ([47, 63] : List UInt8).contains b = (b == 47 || b == 63) := by simp only [List.contains_cons, List.contains_nil, Bool.or_false]
  rw [hc, List.takeWhile_cons]
  cases h : (b == 47 || b == 63) with
  | true => simp
  | false =>
   have : (((l.takeWhile fun c => !(c == 47 || c == 63)).length:Int) == -1) = false := by
    rw [beq_eq_false_iff_ne]; omega
   simp [this]
theorem zml (s : List UInt8) : (zmc s).length <= s.length := (List.takeWhile_sublist _).length_le
theorem zmm : ∀ (s : List UInt8), s.take (zmc s).length = zmc s
 | [] => rfl
 | b :: l => by
  unfold zmc
  rw [List.takeWhile_cons]
  have ih := zmm l
  unfold zmc at ih
  cases (b == 47 || b == 63) with
  | true => rfl
  | false => simpa using ih
def ascii (s : List UInt8) : Prop := ∀ c ∈ s, c.toNat < 128
theorem zmn {s : List UInt8} (ha : ascii s) (hn : s.length < 4294967000) : q9p.f (s ++ [47]) [47, 63] = some ((zmc s).length:Int) := by
 unfold q9p.f
 have h1 : q9p.ascii (s ++ [47]) = true := by
  unfold q9p.ascii
  simp only [Bool.and_eq_true, decide_eq_true_eq, List.all_eq_true, List.length_append, List.length_cons, List.length_nil, List.mem_append, List.mem_singleton]
  refine ⟨by omega, fun c hc => ?_⟩
  rcases hc with hc | hc
  ·exact ha c hc
  ·subst hc; decide
 rw [h1, show q9p.ascii [47, 63] = true from by decide, zmk]
 rfl
theorem zmo {α : Type} (a b : Tr α) : (Tr.br true a b).val = a.val := rfl
theorem zmp {α : Type} (a b : Tr α) : (Tr.br false a b).val = b.val := rfl
theorem zmq {method s : List UInt8} (ha : ascii s) (hn : s.length < 4294967000) : qas.f method s = some (zmd method s) := by
 have had : ascii (s.drop 7) := fun c hc => ha c (List.mem_of_mem_drop hc)
 have hld : (s.drop 7).length <= s.length := by simp
 have hle := zml (s.drop 7)
 have hT7 : s.length ≥ 7 -> (s.take 7).length < 140737488355328 := fun h => by simp; omega
 unfold qas.f qas.t zmd
 have e1 : ([(67:UInt8), (79:UInt8), (78:UInt8), (78:UInt8), (69:UInt8), (67:UInt8), (84:UInt8)]) = zma := rfl
 have e2 : ([(79:UInt8), (80:UInt8), (84:UInt8), (73:UInt8), (79:UInt8), (78:UInt8), (83:UInt8)]) = zmb := rfl
 have e3 : ([(104:UInt8), (116:UInt8), (116:UInt8), (112:UInt8), (58:UInt8), (47:UInt8), (47:UInt8)]) = zm9 := rfl
 have e4 : List.take s.length s = s := List.take_length
 have e5 : Int.toNat 7 = 7 := rfl
 rw [e1, e2, e3]
 simp only [zmf (s := s) (by omega), zle, zmg, zmj (s := s) (by omega), Int.toNat_natCast, e4, e5, List.drop_zero, zmn had (by omega), zmm]
 generalize zm8 1 [] s = q1
 have hO2 : qb1.f 2 (zmc (s.drop 7)) ((s.drop 7).drop (zmc (s.drop 7)).length) = some (zm8 2 (zmc (s.drop 7)) ((s.drop 7).drop (zmc (s.drop 7)).length)) := zmj (by simp; omega)
 generalize zm8 2 (zmc (s.drop 7)) ((s.drop 7).drop (zmc (s.drop 7)).length) = q2 at hO2 ⊢
 obtain ⟨a1, a2, a3, a4, a5, a6⟩ := q1
 obtain ⟨b1, b2, b3, b4, b5, b6⟩ := q2
 by_cases hm1 : method = zma
 ·have e6 : (method == zma) = true := by simpa using hm1
  simp only [Tr.val, e6, cond_true, if_pos hm1]
  cases zm3 s <;> cases s.contains 58 <;> rfl
 ·have e6 : (method == zma) = false := by simpa using hm1
  have e10 : Int.toNat 0 = 0 := rfl
  have e11 : ((0:Nat):Int).toNat = 0 := rfl
  have key : ∀ r, r = (if zm4 47 s = true then (a1, a2, a3, a4, a5, a6) else if 7 <= s.length ∧ same (s.take 7) zm9 = true then (if zm3 (zmc (s.drop 7)) = true then (b1, b2, b3, b4, b5, b6) else badT) else badT) ->
    (zm4 47 s = true -> r = (a1, a2, a3, a4, a5, a6)) ∧ (zm4 47 s = false -> ¬ 7 <= s.length -> r = badT) ∧ (zm4 47 s = false -> 7 <= s.length -> same (s.take 7) zm9 = false -> r = badT) ∧ (zm4 47 s = false -> 7 <= s.length -> same (s.take 7) zm9 = true -> zm3 (zmc (s.drop 7)) = false -> r = badT) ∧ (zm4 47 s = false -> 7 <= s.length -> same (s.take 7) zm9 = true -> zm3 (zmc (s.drop 7)) = true -> r = (b1, b2, b3, b4, b5, b6)) := by
   rintro r rfl
   refine ⟨fun h => by simp [h], fun h h7 => by simp [h, h7], fun h h7 hs => by simp [h, h7, hs], fun h h7 hs hh => by simp [h, h7, hs, hh], fun h h7 hs hh => by simp [h, h7, hs, hh]⟩
  obtain ⟨k1, k2, k3, k4, k5⟩ := key _ rfl
  by_cases hm2 : method = zmb ∧ s = [42]
  ·have e7 : (method == zmb) = true := by simpa using hm2.1
   have e8 : (s == [42]) = true := by simpa using hm2.2
   simp only [Tr.val, e6, e7, e8, cond_true, cond_false, if_neg hm1, if_pos hm2]
  ·simp only [if_neg hm1, if_neg hm2]
   have hrest : ∀ (m:Bool), (bif m then (bif s == [42] then False else True) else True) -> True := fun _ _ => trivial
   rcases Bool.eq_false_or_eq_true (zm4 47 s) with hst | hst
   ·rw [k1 hst]
    cases e7 : (method == zmb) with
    | true =>
     have e8 : (s == [42]) = false := by
      have h1 : method = zmb := by simpa using e7
      have : ¬ s = [42] := fun h => hm2 ⟨h1, h⟩
      simpa using this
     simp only [Tr.val, e6, e8, hst, cond_true, cond_false]
    | false => simp only [Tr.val, e6, hst, cond_true, cond_false]
   ·by_cases h7 : 7 <= s.length
    ·have d7 : decide ((s.length:Int) ≥ 7) = true := decide_eq_true (by omega)
     have hlen : (s.drop 7).length + 7 = s.length := by simp; omega
     have c1 : (0:Int) <= 0 ∧ (0:Int) <= 7 ∧ (7:Int) <= (s.length:Int) := by omega
     have c2 : (0:Int) <= 7 ∧ (7:Int) <= (s.length:Int) ∧ (s.length:Int) <= (s.length:Int) := by omega
     have c3 : (((s.drop 7).length + [(47:UInt8)].length:Nat):Int) <= 9223372036854775807 := by simp; omega
     have c4 : (0:Int) <= 0 ∧ (0:Int) <= ((zmc (s.drop 7)).length:Int) ∧ ((zmc (s.drop 7)).length:Int) <= ((s.drop 7).length:Int) := by omega
     have c5 : (0:Int) <= ((zmc (s.drop 7)).length:Int) ∧ ((zmc (s.drop 7)).length:Int) <= ((s.drop 7).length:Int) ∧ ((s.drop 7).length:Int) <= ((s.drop 7).length:Int) := by omega
     have e12 : List.take ((s.drop 7).length) (s.drop 7) = s.drop 7 := List.take_length
     have hsame := zl1 (a := s.take 7) (b := zm9) (by simp; omega) (by decide)
     have hhost := zmf (s := zmc (s.drop 7)) (by omega)
     rcases Bool.eq_false_or_eq_true (same (s.take 7) zm9) with hsm | hsm
     rotate_left
     ·rw [k3 hst h7 hsm]
      cases e7 : (method == zmb) with
      | true =>
       have e8 : (s == [42]) = false := by
        have h1 : method = zmb := by simpa using e7
        have : ¬ s = [42] := fun h => hm2 ⟨h1, h⟩
        simpa using this
       simp only [Tr.val, e6, e8, hst, cond_true, cond_false, d7]; rw [if_pos c1, hsame, Tr.val_call rfl, hsm]; rfl
      | false => simp only [Tr.val, e6, hst, cond_true, cond_false, d7]; rw [if_pos c1, hsame, Tr.val_call rfl, hsm]; rfl
     ·rcases Bool.eq_false_or_eq_true (zm3 (zmc (s.drop 7))) with hh | hh
      rotate_left
      ·rw [k4 hst h7 hsm hh]
       cases e7 : (method == zmb) with
       | true =>
        have e8 : (s == [42]) = false := by
         have h1 : method = zmb := by simpa using e7
         have : ¬ s = [42] := fun h => hm2 ⟨h1, h⟩
         simpa using this
        simp only [Tr.val, e6, e8, hst, cond_true, cond_false, d7]; rw [if_pos c1, hsame, Tr.val_call rfl, hsm, zmo, Tr.val_chk c2, Tr.val_chk c3, Tr.val_call rfl, Int.toNat_natCast, zmm, hhost, Tr.val_chk c4, Tr.val_call rfl, hh]; rfl
       | false => simp only [Tr.val, e6, hst, cond_true, cond_false, d7]; rw [if_pos c1, hsame, Tr.val_call rfl, hsm, zmo, Tr.val_chk c2, Tr.val_chk c3, Tr.val_call rfl, Int.toNat_natCast, zmm, hhost, Tr.val_chk c4, Tr.val_call rfl, hh]; rfl
      ·rw [k5 hst h7 hsm hh]
       cases e7 : (method == zmb) with
       | true =>
        have e8 : (s == [42]) = false := by
         have h1 : method = zmb := by simpa using e7
         have : ¬ s = [42] := fun h => hm2 ⟨h1, h⟩
         simpa using this
        simp only [Tr.val, e6, e8, hst, cond_true, cond_false, d7]; rw [if_pos c1, hsame, Tr.val_call rfl, hsm, zmo, Tr.val_chk c2, Tr.val_chk c3, Tr.val_call rfl, Int.toNat_natCast, zmm, hhost, Tr.val_chk c4, Tr.val_call rfl, hh, zmo, Tr.val_chk c4, Tr.val_chk c5]; simp only [e12, hO2]; rfl
       | false => simp only [Tr.val, e6, hst, cond_true, cond_false, d7]; rw [if_pos c1, hsame, Tr.val_call rfl, hsm, zmo, Tr.val_chk c2, Tr.val_chk c3, Tr.val_call rfl, Int.toNat_natCast, zmm, hhost, Tr.val_chk c4, Tr.val_call rfl, hh, zmo, Tr.val_chk c4, Tr.val_chk c5]; simp only [e12, hO2]; rfl
    ·have d7 : decide ((s.length:Int) ≥ 7) = false := decide_eq_false (by omega)
     rw [k2 hst h7]
     cases e7 : (method == zmb) with
     | true =>
      have e8 : (s == [42]) = false := by
       have h1 : method = zmb := by simpa using e7
       have : ¬ s = [42] := fun h => hm2 ⟨h1, h⟩
       simpa using this
      simp only [Tr.val, e6, e8, hst, cond_true, cond_false, d7, badT]
     | false => simp only [Tr.val, e6, hst, cond_true, cond_false, d7, badT]
end Pl
end Go.Vx
end
section
set_option maxRecDepth 100000
namespace Go.Vx
namespace Pl
open Go Go.Proofs
def hasD (p c:Int) : Bool := decide (0 <= c) && (decide (c < 30) && (IntKind.u32.wrap ((BitVec.ofInt IntKind.u32.bits (p.fdiv (2 ^ min c.toNat IntKind.u32.bits)) &&& BitVec.ofInt IntKind.u32.bits 1).toNat:Int) == 1))
theorem zmr (c:Int) : q5m.f c = some (decide (0 <= c) && decide (c < 30)) := by
 unfold q5m.f q5m.t
 by_cases h : 0 <= c <;> simp [Tr.val, h]
theorem zms (p c:Int) : q5g.f p c = some (hasD p c) := by
 unfold q5g.f q5g.t hasD
 rw [zmr, Tr.val_call rfl]
 by_cases h1 : 0 <= c
 ·by_cases h2 : c < 30
  ·simp [Tr.val, h1, h2, Int.not_lt.2 h1]
  ·simp [Tr.val, h1, h2]
 ·simp [Tr.val, h1]
abbrev zmt := List UInt8 × List UInt8 × Bool × Int
def outS (p clause:Int) : zmt := if hasD p clause = true then ([], [], false, 0) else ([], [], false, 400)
def zmu (p:Int) (s : List UInt8) : List UInt8 := if hasD p 9 = true then zjq zj4 s else s
def zmv (s : List UInt8) (p:Int) : zmt :=
 if (cutC 58 s).2.2 = false then outS p 11
 else if zmu p (cutC 58 s).1 = [] then outS p 12
 else if ((hasD p 10 || (zmu p (cutC 58 s).1).all zj2) && (hasD p 14 || (trim (cutC 58 s).2.1).all zj6)) = true then (zmu p (cutC 58 s).1, trim (cutC 58 s).2.1, true, 0)
 else ([], [], false, 400)
theorem zmw (p clause:Int) : q0f.f p clause = some (outS p clause) := by
 unfold q0f.f q0f.t outS
 rw [zms]
 cases hasD p clause <;> rfl
theorem zmx {s : List UInt8} (hn : s.length < 1125899906842624) : qag.f s [32, 9] = some (zjq zj4 s) := by
 unfold qag.f
 rw [show q9p.ascii [32, 9] = true from by decide, decide_eq_true (by omega)]
 unfold Lib.trimRightS zjq
 have : (fun x => ([32, 9] : List UInt8).contains x) = zj4 := by
  funext c
  unfold zj4
  simp only [List.contains_cons, List.contains_nil, Bool.or_false]
 rw [this]
 rfl
theorem zmy (s : List UInt8) : s.all (zj9 1) = s.all zj2 := by congr 1
theorem zmz (s : List UInt8) : s.all (zj9 6) = s.all zj6 := by congr 1
theorem zn0 {s : List UInt8} {p : Int} (hn : s.length < 1099511627776) : q0c.f s p = some (zmv s p) := by
 have hl := zme (c := 58) (s := s)
 unfold q0c.f q0c.t zmv
 rw [zlc (by omega), Tr.val_call rfl]
 generalize cutC 58 s = q at hl ⊢
 obtain ⟨n, v, has⟩ := q
 simp only at hl ⊢
 have hd := zjs (p := zj4) n
 have ht := zk4 zj4 v
 have ht' : (trim v).length < 1125899906842624 := by unfold trim; omega
 have f1 := zmx (s := n) (by omega)
 have f2 := zkt (s := v) (by omega)
 have f3 := zkk (k := 1) (s := n) (by omega)
 have f4 := zkk (k := 1) (s := zjq zj4 n) (by omega)
 have f5 := zkk (k := 6) (s := trim v) ht'
 rw [zmy] at f3 f4
 rw [zmz] at f5
 simp only [zms, zmw]
 unfold zmu
 generalize hq11 : outS p 11 = o11
 generalize hq12 : outS p 12 = o12
 obtain ⟨a1, a2, a3, a4⟩ := o11
 obtain ⟨b1, b2, b3, b4⟩ := o12
 cases has with
 | false => rfl
 | true =>
  cases h9 : hasD p 9 with
  | true =>
   by_cases h0 : zjq zj4 n = []
   ·simp only [Tr.val, f1, h0, Bool.not_true, cond_true, cond_false, if_true, beq_self_eq_true, Bool.true_eq_false, if_false]
   ·have e0 : (zjq zj4 n == []) = false := by simpa using h0
    simp only [Tr.val, f1, e0, h0, f2, f4, Bool.not_true, cond_true, cond_false, if_true, Bool.true_eq_false, if_false]
    cases hasD p 10 <;> cases hasD p 14 <;> (try simp only [Tr.val, Bool.not_false, Bool.not_true, cond_true, cond_false, f4, f5]) <;> cases (zjq zj4 n).all zj2 <;> cases (trim v).all zj6 <;> rfl
  | false =>
   by_cases h0 : n = []
   ·subst h0
    simp only [Tr.val, Bool.not_true, cond_true, cond_false, if_true, beq_self_eq_true, Bool.true_eq_false, Bool.false_eq_true, if_false]
   ·have e0 : (n == []) = false := by simpa using h0
    simp only [Tr.val, e0, h0, f2, f3, Bool.not_true, cond_true, cond_false, if_true, Bool.true_eq_false, Bool.false_eq_true, if_false]
    cases hasD p 10 <;> cases hasD p 14 <;> (try simp only [Tr.val, Bool.not_false, Bool.not_true, cond_true, cond_false, f3, f5]) <;> cases n.all zj2 <;> cases (trim v).all zj6 <;> rfl
def zn1 (s : List UInt8) (p:Int) : Bool := hasD p 13 && (match s with
 | c :: _ => zj4 c
 | [] => false)
theorem zn2 (s : List UInt8) (p:Int) : q06.f s p = some (zn1 s p) := by
 unfold q06.f q06.t zn1
 rw [zms]
 cases hasD p 13 with
 | false => rfl
 | true =>
  cases s with
  | nil => rfl
  | cons c l =>
   have h : ((c :: l) == ([] : List UInt8)) = false := rfl
   have hc : (c :: l).getD (Int.toNat 0) 0 = c := rfl
   simp only [Tr.val, h, Bool.not_false, cond_true, hc, zji]
   rw [if_pos (by simp)]
   simp
theorem zn3 {v s : List UInt8} (hv : v.length < 1125899906842624) (hn : s.length < 1125899906842624) : q09.f v s = some (v ++ 32 :: trim s) := by
 have ht := zk4 zj4 s
 have ht' : (trim s).length < 1125899906842624 := by unfold trim; omega
 unfold q09.f q09.t
 rw [zkt hn, Tr.val_call rfl, Tr.val_chk (by simp; omega), Tr.val_chk (by simp; omega)]
 rfl
def pre2 (a b:UInt8) (s : List UInt8) : Bool := match s with
 | x :: y :: _ => x == a && y == b
 | _ => false
def zn4 (p:Int) (s : List UInt8) : List UInt8 := if hasD p 27 = true then (if pre2 48 120 s = true then s.drop 2 else if pre2 48 88 s = true then s.drop 2 else s) else s
def zn5 (q : Int × Int) : Int × Int := if q.2 = 23 then (0, 413) else if q.2 = 22 then (0, 400) else (q.1, 0)
def zn6 (s : List UInt8) (p body ext:Int) : Int × Int :=
 if ((s.drop (before 59 s).length).length:Int) > ext then (0, 400)
 else if (s.drop (before 59 s).length).all zj6 = false then (0, 400)
 else zn5 (numS 16 body (zn4 p (if hasD p 28 = true then trim (before 59 s) else before 59 s)))
theorem zn7 (s : List UInt8) : q1r.f s = some (if s.contains 59 = true then ((before 59 s).length:Int) else -1) := by
 unfold q1r.f q1r.t
 rw [show (59:Int) = ((59:UInt8).toNat:Int) from rfl, zl5]
 by_cases h : [(59:UInt8)] = s
 ·have := zl6 h
  simp only [Tr.val, beq_iff_eq.2 h, cond_true, this.1, this.2, if_true]
  rfl
 ·simp [Tr.val, beq_eq_false_iff_ne.2 h]
theorem zn8 {s : List UInt8} (hn : s.length < 1125899906842624) : q97.f s = some (cutC 59 s) := by
 have h1 : q10.f s = some (cutC 59 s) := by
  unfold q10.f
  show (cutT (q1r.f s) s).val = _
  rw [zn7, zlb hn]
 unfold q97.f q97.t
 rw [h1]; rfl
theorem zn9 {c : UInt8} {s : List UInt8} : (cutC c s).1 = before c s := by
 unfold cutC
 by_cases h : s.contains c = true
 ·rw [if_pos h]
 ·rw [if_neg h]
  show s = before c s
  have hn : ∀ (l : List UInt8), l.contains c = false -> l = before c l := by
   intro l
   induction l with
   | nil => intro _; rfl
   | cons x l ih =>
    intro h
    simp only [List.contains_cons, Bool.or_eq_false_iff] at h
    have hx : (x != c) = true := by
     have := h.1
     simp only [beq_eq_false_iff_ne] at this
     simp only [bne_iff_ne]
     exact fun e => this e.symm
    unfold before
    rw [List.takeWhile_cons, hx, if_pos rfl]
    congr 1
    exact ih h.2
  exact hn s (by simpa using h)
theorem zna (s : List UInt8) : q9j.f s = some (pre2 48 120 s) := by
 have h1 : q19.f s = some (pre2 48 120 s) := by
  unfold q19.f q19.t pre2
  match s with
  | [] => rfl
  | [x] => rfl
  | x :: y :: l =>
   have h : decide (((x :: y :: l).length:Int) ≥ 2) = true := by simp; omega
   simp only [Tr.val, h, cond_true]
   rw [if_pos (by simp; omega)]
   simp
 unfold q9j.f q9j.t
 rw [h1]; rfl
theorem znb (s : List UInt8) : q9g.f s = some (pre2 48 88 s) := by
 have h1 : q16.f s = some (pre2 48 88 s) := by
  unfold q16.f q16.t pre2
  match s with
  | [] => rfl
  | [x] => rfl
  | x :: y :: l =>
   have h : decide (((x :: y :: l).length:Int) ≥ 2) = true := by simp; omega
   simp only [Tr.val, h, cond_true]
   rw [if_pos (by simp; omega)]
   simp
 unfold q9g.f q9g.t
 rw [h1]; rfl
theorem znc {p : Int} {s : List UInt8} (h : hasD p 27 = true) : zn4 p s = if pre2 48 120 s = true then s.drop 2 else if pre2 48 88 s = true then s.drop 2 else s := by unfold zn4; rw [if_pos h]
theorem znd {p : Int} {s : List UInt8} (h : hasD p 27 = false) : zn4 p s = s := by unfold zn4; rw [h]; rfl
theorem zne (a b:Int) : (Tr.br (b == 23) (Tr.ret ((0:Int), (413:Int))) (Tr.br (b == 22) (Tr.ret ((0:Int), (400:Int))) (Tr.ret (a, (0:Int))))).val = some (zn5 (a, b)) := by
 unfold zn5
 simp only
 by_cases h1 : b = 23
 ·subst h1; rfl
 ·have e1 : (b == 23) = false := by simpa using h1
  rw [if_neg h1]
  by_cases h2 : b = 22
  ·subst h2; rfl
  ·have e2 : (b == 22) = false := by simpa using h2
   rw [if_neg h2]
   simp only [Tr.val, e1, e2, cond_false]
theorem znf (q : Int × Int) : (Tr.br (q.2 == 23) (Tr.ret ((0:Int), (413:Int))) (Tr.br (q.2 == 22) (Tr.ret ((0:Int), (400:Int))) (Tr.ret (q.1, (0:Int))))).val = some (zn5 q) := zne q.1 q.2
theorem zng (c:UInt8) (s : List UInt8) : (before c s).length <= s.length := (List.takeWhile_sublist _).length_le
theorem znh {s : List UInt8} {p body ext : Int} (hb : body <= 1099511627776) (hn : s.length < 1099511627776) : q03.f s p body ext = some (zn6 s p body ext) := by
 have hle := zng 59 s
 unfold q03.f q03.t zn6
 rw [zn8 (by omega), Tr.val_call rfl]
 simp only [zn9, Int.toNat_natCast, List.take_length]
 rw [Tr.val_chk (by omega)]
 have ht := zk4 zj4 (before 59 s)
 have hdl : (s.drop (before 59 s).length).length <= s.length := by simp
 have f1 := zkk (k := 6) (s := s.drop (before 59 s).length) (by omega)
 rw [zmz] at f1
 rw [f1]
 generalize hB : before 59 s = B at hle ht ⊢
 generalize hX : s.drop B.length = X
 have f2 := zkt (s := B) (by omega)
 by_cases h1 : (X.length:Int) > ext
 ·rw [if_pos h1]; simp only [Tr.val, decide_eq_true h1, cond_true]
 ·rw [if_neg h1]
  cases h2 : X.all zj6 with
  | false => simp only [Tr.val, decide_eq_false h1, cond_false, Bool.not_false, cond_true, if_true]
  | true =>
   simp only [Tr.val, decide_eq_false h1, cond_false, Bool.not_true, zms, Bool.true_eq_false, if_false]
   have key : ∀ (Y : List UInt8), Y.length <= s.length -> ((Tr.call (some (hasD p 27)) fun y5 =>
     .br y5 (.call (q9j.f Y) fun y6 =>
      .br y6 (.chk ((0:Int) <= 2 ∧ (2:Int) <= (Y.length:Int) ∧ (Y.length:Int) <= (Y.length:Int))<|.call (q2p.f (List.drop 2 Y) body) fun q =>
       .br (q.2 == 23) (.ret ((0:Int), (413:Int))) (.br (q.2 == 22) (.ret (0, 400)) (.ret (q.1, 0))))
      (.call (q9g.f Y) fun y8 =>
       .br y8 (.chk ((0:Int) <= 2 ∧ (2:Int) <= (Y.length:Int) ∧ (Y.length:Int) <= (Y.length:Int))<|.call (q2p.f (List.drop 2 Y) body) fun q =>
        .br (q.2 == 23) (.ret (0, 413)) (.br (q.2 == 22) (.ret (0, 400)) (.ret (q.1, 0))))
       (.call (q2p.f Y body) fun q => .br (q.2 == 23) (.ret (0, 413)) (.br (q.2 == 22) (.ret (0, 400)) (.ret (q.1, 0))))))
     (.call (q2p.f Y body) fun q => .br (q.2 == 23) (.ret (0, 413)) (.br (q.2 == 22) (.ret (0, 400)) (.ret (q.1, 0)))) : Tr (Int × Int))).val = some (zn5 (numS 16 body (zn4 p Y))) := by
    intro Y hY
    rw [Tr.val_call rfl]
    have g1 := zl3 (most := body) (s := Y) hb (by omega)
    have g2 := zl3 (most := body) (s := Y.drop 2) hb (by simp; omega)
    have hp2 : ∀ a b, pre2 a b Y = true -> 2 <= Y.length := by
     intro a b h
     unfold pre2 at h
     split at h
     ·simp
     ·cases h
    rw [g1, g2, zna, znb]
    cases h27 : hasD p 27 with
    | false =>
     rw [znd h27, zmp, Tr.val_call rfl]
     exact znf _
    | true =>
     rw [znc h27, zmo, Tr.val_call rfl]
     cases hx : pre2 48 120 Y with
     | true =>
      have := hp2 _ _ hx
      rw [zmo, Tr.val_chk (by omega), Tr.val_call rfl]
      exact znf _
     | false =>
      rw [zmp, Tr.val_call rfl]
      cases hX2 : pre2 48 88 Y with
      | true =>
       have := hp2 _ _ hX2
       rw [zmo, Tr.val_chk (by omega), Tr.val_call rfl]
       exact znf _
      | false =>
       rw [zmp, Tr.val_call rfl]
       exact znf _
   cases h28 : hasD p 28 with
   | true =>
    rw [cond_true, f2]
    rw [if_pos rfl]
    exact key (trim B) (by unfold trim; omega)
   | false =>
    rw [cond_false]
    exact key B hle
end Pl
end Go.Vx
end
section
set_option maxRecDepth 100000
namespace Go.Vx
namespace Pl
open Go Go.Proofs
def idxV : Unit ⊕ Int -> Int
 | .inl _ => -1
 | .inr j => j
def zni {α : Type} (p : α -> Bool) (k:Nat) (c : α) : Option (Unit ⊕ Int) := if p c = true then some (.inr (k:Int)) else none
theorem znj {α : Type} (p : α -> Bool) : ∀ (l : List α) (k:Nat), idxV (scan (zni p) (.inl ()) k l) = if l.any p = true then ((k + l.findIdx p:Nat):Int) else -1
 | [], _ => rfl
 | c :: l, k => by
  rw [scan, zni, List.any_cons, List.findIdx_cons]
  by_cases h : p c = true
  ·simp [h, idxV]
  ·have h' : p c = false := by simpa using h
   simp only [h', Bool.false_eq_true, if_false, Bool.false_or, cond_false]
   rw [znj p l (k + 1)]
   split
   ·congr 1; omega
   ·rfl
theorem znk {α : Type} (p : α -> Bool) (l : List α) : decide (idxV (scan (zni p) (.inl ()) 0 l) ≥ 0) = l.any p := by
 rw [znj]
 cases l.any p <;> simp
theorem znl (q : Unit ⊕ Int) {k : Unit -> Tr Int} (hk : k () = .ret (-1)) : (Tr.both (some q) k (fun y => Tr.ret y)).val = some (idxV q) := by
 cases q with
 | inl u => cases u; show (k ()).val = _; rw [hk]; rfl
 | inr j => rfl
theorem znm {l : List (List UInt8)} (hn : l.length < 1125899906842624) : q8d.f l = some (l.any (· == [])) := by
 have hL : q8p.L2.f l (l.length:Int) 0 = some (scan (zni (· == [])) (.inl ()) 0 l) := by
  unfold q8p.L2.f
  refine zjb l (zni (· == [])) (.inl ()) (fun k c hk hc => ?_) ?_ hn
  ·have hw := wS (k := k) (by omega)
   have hsym : (([] : List UInt8) == c) = (c == []) := by cases c <;> rfl
   unfold q8p.L2.t zni
   simp only [Nat.zero_add, zix hk hc, Tr.val, zje, decide_eq_true hk, cond_true, hw, hsym]
   rw [if_pos (by omega), if_pos (by simpa using hk)]
   by_cases h : (c == []) = true
   ·simp only [h]; rfl
   ·have h' : (c == []) = false := by simpa using h
    simp only [h']; rfl
  ·simp [q8p.L2.t, Tr.val]
 have hI : q8p.f l = some (idxV (scan (zni (· == [])) (.inl ()) 0 l)) := by
  unfold q8p.f q8p.t
  rw [hL]
  exact znl _ rfl
 unfold q8d.f q8d.t
 rw [zl4, hI, Tr.val_chk (by omega), Tr.val_call rfl, znk]
 rfl
def znn (p:Int) (s : List UInt8) : List (List UInt8) := if hasD p 3 = true then q9d.fieldsOf (trim s) else zk5 32 s
def zno (p:Int) (s : List UInt8) : List UInt8 := if hasD p 3 = true then trim s else s
abbrev znp := List UInt8 × List UInt8 × List UInt8 × Int
def znq (p:Int) (s : List UInt8) (a z : List UInt8) : List UInt8 := if hasD p 3 = true then trim ((s.take (s.length - z.length - 1)).drop (a.length + 1)) else (s.take (s.length - z.length - 1)).drop (a.length + 1)
def znr (p:Int) (s : List UInt8) (l : List (List UInt8)) : znp :=
 if l.any (· == []) = true then ([], [], [], 400)
 else if l.length = 3 then (l.getD 0 [], l.getD 1 [], l.getD 2 [], 0)
 else if 3 < l.length ∧ hasD p 7 = true then (l.getD 0 [], znq p s (l.getD 0 []) (l.getD (l.length - 1) []), l.getD (l.length - 1) [], 0)
 else if l.length = 2 ∧ hasD p 6 = true then (l.getD 0 [], l.getD 1 [], [], 0)
 else ([], [], [], 400)
def zns (s : List UInt8) (p:Int) : znp := znr p (zno p s) (znn p s)
def znt (s : List UInt8) (l : List (List UInt8)) : Prop := 3 < l.length -> (l.getD 0 []).length + (l.getD (l.length - 1) []).length + 2 <= s.length
def znu (p:Int) (s : List UInt8) (l : List (List UInt8)) : Tr znp :=
 .chk ((0:Nat) + l.length <= l.length)<|.call (q8d.f (List.take l.length (List.drop (0:Nat) l))) fun y5 =>
  .br y5 (.ret ([], [], [], (400:Int)))
  (.br ((↑l.length:Int) == (3:Int)) (.chk ((0:Int) <= (0:Int) ∧ (0:Int) < (↑l.length:Int))<|.chk ((0:Nat) < l.length)<|.chk ((0:Int) <= (1:Int) ∧ (1:Int) < (↑l.length:Int))<|.chk ((1:Nat) < l.length)<|.chk ((0:Int) <= (2:Int) ∧ (2:Int) < (↑l.length:Int))<|.chk ((2:Nat) < l.length)<|.ret (l.getD (0:Nat) [], l.getD (1:Nat) [], l.getD (2:Nat) [], (0:Int)))
  (.br (decide ((↑l.length:Int) > (3:Int))) (.call (q5g.f p (7:Int)) fun y6 =>
   .br y6 (.chk ((0:Int) <= (0:Int) ∧ (0:Int) < (↑l.length:Int))<|.chk ((0:Nat) < l.length)<|.chk ((0:Int) <= IntKind.i64.wrap ((↑l.length:Int) - (1:Int)) ∧ IntKind.i64.wrap ((↑l.length:Int) - (1:Int)) < (↑l.length:Int))<|.chk ((0:Nat) + (IntKind.i64.wrap ((↑l.length:Int) - (1:Int))).toNat < l.length)<|.chk ((0:Int) <= IntKind.i64.wrap ((↑(List.length (l.getD (0:Nat) [])):Int) + (1:Int)) ∧ IntKind.i64.wrap ((↑(List.length (l.getD (0:Nat) [])):Int) + (1:Int)) <= IntKind.i64.wrap (IntKind.i64.wrap ((↑s.length:Int) - (↑(List.length (l.getD ((0:Nat) + (IntKind.i64.wrap ((↑l.length:Int) - (1:Int))).toNat) [])):Int)) - (1:Int)) ∧ IntKind.i64.wrap (IntKind.i64.wrap ((↑s.length:Int) - (↑(List.length (l.getD ((0:Nat) + (IntKind.i64.wrap ((↑l.length:Int) - (1:Int))).toNat) [])):Int)) - (1:Int)) <= (↑s.length:Int))<|.call (q5g.f p (3:Int)) fun y7 =>
    .br y7 (.call (qbj.f (List.drop (IntKind.i64.wrap ((↑(List.length (l.getD (0:Nat) [])):Int) + (1:Int))).toNat (List.take (IntKind.i64.wrap (IntKind.i64.wrap ((↑s.length:Int) - (↑(List.length (l.getD ((0:Nat) + (IntKind.i64.wrap ((↑l.length:Int) - (1:Int))).toNat) [])):Int)) - (1:Int))).toNat s))) fun y8 =>
    .chk ((0:Int) <= (0:Int) ∧ (0:Int) < (↑l.length:Int))<|.chk ((0:Nat) < l.length)<|.chk ((0:Int) <= IntKind.i64.wrap ((↑l.length:Int) - (1:Int)) ∧ IntKind.i64.wrap ((↑l.length:Int) - (1:Int)) < (↑l.length:Int))<|.chk ((0:Nat) + (IntKind.i64.wrap ((↑l.length:Int) - (1:Int))).toNat < l.length)<|.ret (l.getD (0:Nat) [], y8, l.getD ((0:Nat) + (IntKind.i64.wrap ((↑l.length:Int) - (1:Int))).toNat) [], (0:Int)))
    (.chk ((0:Int) <= (0:Int) ∧ (0:Int) < (↑l.length:Int))<|.chk ((0:Nat) < l.length)<|.chk ((0:Int) <= IntKind.i64.wrap ((↑l.length:Int) - (1:Int)) ∧ IntKind.i64.wrap ((↑l.length:Int) - (1:Int)) < (↑l.length:Int))<|.chk ((0:Nat) + (IntKind.i64.wrap ((↑l.length:Int) - (1:Int))).toNat < l.length)<|.ret (l.getD (0:Nat) [], List.drop (IntKind.i64.wrap ((↑(List.length (l.getD (0:Nat) [])):Int) + (1:Int))).toNat (List.take (IntKind.i64.wrap (IntKind.i64.wrap ((↑s.length:Int) - (↑(List.length (l.getD ((0:Nat) + (IntKind.i64.wrap ((↑l.length:Int) - (1:Int))).toNat) [])):Int)) - (1:Int))).toNat s), l.getD ((0:Nat) + (IntKind.i64.wrap ((↑l.length:Int) - (1:Int))).toNat) [], (0:Int))))
   (.br ((↑l.length:Int) == (2:Int)) (.call (q5g.f p (6:Int)) fun y9 =>
    .br y9 (.chk ((0:Int) <= (0:Int) ∧ (0:Int) < (↑l.length:Int))<|.chk ((0:Nat) < l.length)<|.chk ((0:Int) <= (1:Int) ∧ (1:Int) < (↑l.length:Int))<|.chk ((1:Nat) < l.length)<|.ret (l.getD (0:Nat) [], l.getD (1:Nat) [], [], (0:Int)))
    (.ret ([], [], [], (400:Int))))
    (.ret ([], [], [], (400:Int)))))
   (.br ((↑l.length:Int) == (2:Int)) (.call (q5g.f p (6:Int)) fun y10 =>
    .br y10 (.chk ((0:Int) <= (0:Int) ∧ (0:Int) < (↑l.length:Int))<|.chk ((0:Nat) < l.length)<|.chk ((0:Int) <= (1:Int) ∧ (1:Int) < (↑l.length:Int))<|.chk ((1:Nat) < l.length)<|.ret (l.getD (0:Nat) [], l.getD (1:Nat) [], [], (0:Int)))
    (.ret ([], [], [], (400:Int))))
   (.ret ([], [], [], (400:Int))))))
theorem znv {p : Int} {s : List UInt8} {l : List (List UInt8)} (hn : s.length < 1125899906842624) (hl : l.length < 1125899906842624) (ha : hasD p 7 = true -> znt s l) (hz : ∀ x ∈ l, x.length <= s.length) : (znu p s l).val = some (znr p s l) := by
 unfold znu znr
 rw [zl4, znm hl, Tr.val_chk (by omega), Tr.val_call rfl]
 cases hE : l.any (· == []) with
 | true => rfl
 | false =>
  rw [zmp]
  simp only [Bool.false_eq_true, if_false, zms]
  by_cases h3 : l.length = 3
  ·have e3 : ((l.length:Int) == 3) = true := by simp [h3]
   rw [e3, zmo, if_pos h3, Tr.val_chk (by omega), Tr.val_chk (by omega), Tr.val_chk (by omega), Tr.val_chk (by omega), Tr.val_chk (by omega), Tr.val_chk (by omega)]
   rfl
  ·have e3 : ((l.length:Int) == 3) = false := by rw [beq_eq_false_iff_ne]; omega
   rw [e3, zmp, if_neg h3]
   by_cases h4 : 3 < l.length
   ·have e2 : ((l.length:Int) == 2) = false := by rw [beq_eq_false_iff_ne]; omega
    rw [decide_eq_true (show (l.length:Int) > 3 by omega), zmo, Tr.val_call rfl, e2]
    have hne2 : ¬ l.length = 2 := by omega
    cases h7 : hasD p 7 with
    | false =>
     rw [zmp, if_neg (fun h => by cases h.2), if_neg (fun h => hne2 h.1)]
     rfl
    | true =>
     have hap := ha h7 h4
     have hlast : l.getD (l.length - 1) [] ∈ l := by
      rw [List.getD_eq_getElem?_getD, List.getElem?_eq_getElem (by omega)]
      exact List.getElem_mem _
     have hfirst : l.getD 0 [] ∈ l := by
      rw [List.getD_eq_getElem?_getD, List.getElem?_eq_getElem (by omega)]
      exact List.getElem_mem _
     have hz1 := hz _ hlast
     have hz2 := hz _ hfirst
     have w1 : IntKind.i64.wrap ((l.length:Int) - 1) = ((l.length - 1:Nat):Int) := by rw [w64 (by omega) (by omega)]; omega
     generalize hA : l.getD 0 [] = A at hap hz2 ⊢
     have e0 : (0:Nat) + (((l.length - 1:Nat):Int)).toNat = l.length - 1 := by simp
     rw [zmo, if_pos ⟨h4, rfl⟩]
     simp only [w1, e0]
     generalize hZ : l.getD (l.length - 1) [] = Z at hap hz1 ⊢
     have w2 := wS (k := A.length) (by omega)
     have w3 : IntKind.i64.wrap (IntKind.i64.wrap ((s.length:Int) - (Z.length:Int)) - 1) = ((s.length - Z.length - 1:Nat):Int) := by
      rw [w64 (n := (s.length:Int) - (Z.length:Int)) (by omega) (by omega), w64 (by omega) (by omega)]
      omega
     simp only [w2, w3, Int.toNat_natCast]
     rw [Tr.val_chk (by omega), Tr.val_chk (by omega), Tr.val_chk (by omega), Tr.val_chk (by omega), Tr.val_chk (by omega), Tr.val_call rfl]
     unfold znq
     cases h3' : hasD p 3 with
     | true =>
      rw [zmo, zkt (by simp; omega), Tr.val_call rfl, Tr.val_chk (by omega), Tr.val_chk (by omega), Tr.val_chk (by omega), Tr.val_chk (by omega)]
      rfl
     | false =>
      rw [zmp, Tr.val_chk (by omega), Tr.val_chk (by omega), Tr.val_chk (by omega), Tr.val_chk (by omega)]
      rfl
   ·rw [decide_eq_false (show ¬ (l.length:Int) > 3 by omega), zmp, if_neg (fun h => h4 h.1)]
    by_cases h2 : l.length = 2
    ·have e2 : ((l.length:Int) == 2) = true := by simp [h2]
     rw [e2, zmo, Tr.val_call rfl]
     cases h6 : hasD p 6 with
     | true =>
      rw [zmo, if_pos ⟨h2, rfl⟩, Tr.val_chk (by omega), Tr.val_chk (by omega), Tr.val_chk (by omega), Tr.val_chk (by omega)]
      rfl
     | false =>
      rw [zmp, if_neg (fun h => by cases h.2)]
      rfl
    ·have e2 : ((l.length:Int) == 2) = false := by rw [beq_eq_false_iff_ne]; omega
     rw [e2, zmp, if_neg (fun h => h2 h.1)]
     rfl
theorem znw {c : UInt8} : ∀ (n:Nat) (s : List UInt8), s.length <= n -> ((zk5 c s).map List.length).sum + (zk5 c s).length = s.length + 1
 | 0, s, h => by
  have : s = [] := List.length_eq_zero_iff.1 (by omega)
  subst this; rfl
 | n + 1, s, h => by
  by_cases hc : s.contains c = true
  ·have hl := zke hc
   have ih := znw (c := c) n (after c s) (by omega)
   rw [zkg hc]
   simp only [List.map_cons, List.sum_cons, List.length_cons]
   omega
  ·rw [zkf (by simpa using hc)]
   simp
theorem znx {c : UInt8} {s : List UInt8} : znt s (zk5 c s) := by
 intro h
 have ht := znw (c := c) s.length s (Nat.le_refl _)
 generalize zk5 c s = l at h ht ⊢
 match l, h with
 | a :: m, h =>
  rcases List.eq_nil_or_concat m with rfl | ⟨k, z, rfl⟩
  ·simp at h
  ·simp only [List.concat_eq_append] at h ht ⊢
   have e1 : (a :: (k ++ [z])).getD ((a :: (k ++ [z])).length - 1) [] = z := by
    simp [List.getD_eq_getElem?_getD]
   rw [e1]
   simp only [List.getD_cons_zero]
   simp only [List.map_cons, List.map_append, List.map_nil, List.sum_cons, List.sum_append, List.sum_nil, List.length_cons, List.length_append, List.length_nil] at ht h
   omega
def zny (p:Int) (s : List UInt8) : Prop := hasD p 3 = true -> (s.length <= 4294967296 ∧ (hasD p 7 = true -> znt (trim s) (q9d.fieldsOf (trim s))) ∧ (∀ x ∈ q9d.fieldsOf (trim s), x.length <= (trim s).length) ∧ (q9d.fieldsOf (trim s)).length < 1125899906842624)
theorem znz {s : List UInt8} {p : Int} (hn : s.length <= 1099511627776) (hf : zny p s) : q7d.f s p = some (zns s p) := by
 have ht := zk4 zj4 s
 have ht' : (trim s).length <= s.length := ht
 have hsc : (zk5 32 s).length < 1125899906842624 := by
  rw [zki 32 s.length s (Nat.le_refl _)]
  have : s.count 32 <= s.length := List.count_le_length
  omega
 show (Tr.call (qa7.f s) fun y1 => Tr.call (q5g.f p 3) fun y2 => Tr.br y2 (Tr.call (qbj.f s) fun y3 => Tr.call (q9d.f y3) fun y4 => znu p y3 y4) (znu p s y1)).val = _
 rw [zlj hn, Tr.val_call rfl, zms, Tr.val_call rfl]
 unfold zns zno znn
 cases h3 : hasD p 3 with
 | true =>
  obtain ⟨q1, q2, q3, q4⟩ := hf h3
  rw [zmo, zkt (by omega), Tr.val_call rfl]
  have hff : q9d.f (trim s) = some (q9d.fieldsOf (trim s)) := by
   unfold q9d.f
   rw [if_pos (by omega)]
  rw [hff, Tr.val_call rfl]
  exact znv (by omega) q4 q2 q3
 | false =>
  rw [zmp]
  exact znv (by omega) hsc (fun _ => znx) (fun x hx => zll s.length (Nat.le_refl _) x hx)
def zo0 (spaces controls:Bool) (c:UInt8) : Bool := zj3 c || (spaces && zj4 c) || (controls && zj5 c)
def zo1 (method s : List UInt8) (p:Int) : Bool :=
 s.all (zo0 (hasD p 7) (hasD p 8)) && !(s == []) && (hasD p 7 || hasD p 8 || decide ((zmd method s).2.2.2.2.2 = 0))
theorem zo2 {c : UInt8} (h : zj3 c = true) : c.toNat < 128 := by
 have := ziy (p := fun c => !zj3 c || decide (c.toNat < 128)) (by decide +kernel) c
 simpa [h] using this
theorem zo3 {method s : List UInt8} {p : Int} (hn : s.length < 4294967000) : q77.f method s p = some (zo1 method s p) := by
 have hL : q77.L3.f s (hasD p 7) (hasD p 8) (s.length:Int) 0 = some (if s.all (zo0 (hasD p 7) (hasD p 8)) = true then .inl () else .inr false) := by
  unfold q77.L3.f
  refine (zjb s (fun _ c => if zo0 (hasD p 7) (hasD p 8) c = true then none else some (Sum.inr false : Unit ⊕ Bool)) (.inl ()) (fun k c hk hc => ?_) ?_ (by omega)).trans (by rw [zjc])
  ·have hw := wS (k := k) (by omega)
   unfold q77.L3.t zo0
   simp only [zix hk hc, zjh, zji, zjj, Tr.val, zje, decide_eq_true hk, cond_true, hw]
   rw [if_pos (by omega)]
   cases zj3 c <;> cases zj4 c <;> cases zj5 c <;> cases hasD p 7 <;> cases hasD p 8 <;> rfl
  ·simp [q77.L3.t, Tr.val]
 unfold q77.f q77.t zo1
 rw [zms, Tr.val_call rfl, zms, Tr.val_call rfl, hL]
 cases hA : s.all (zo0 (hasD p 7) (hasD p 8)) with
 | false => rfl
 | true =>
  rw [if_pos rfl, Tr.val_inl rfl]
  cases h0 : (s == []) with
  | true => rfl
  | false =>
   rw [zmp]
   cases h7 : hasD p 7 with
   | true => rfl
   | false =>
    rw [zmp]
    cases h8 : hasD p 8 with
    | true => rfl
    | false =>
     rw [zmp]
     have ha : ascii s := fun c hc => by
      have := List.all_eq_true.1 hA c hc
      unfold zo0 at this
      rw [h7, h8] at this
      exact zo2 (by simpa using this)
     rw [zmq ha hn]
     generalize zmd method s = q
     obtain ⟨a, b, c, d, e, f⟩ := q
     show some (f == 0) = _
     by_cases h : f = 0 <;> simp [h]
def zo4 : List UInt8 := [72, 84, 84, 80, 47, 49, 46]
def zo5 (s : List UInt8) (p:Int) (old:Bool) : Int × Bool :=
 if s = [] then (0, old)
 else if s.length ≠ 8 ∨ zj1 (s.getD 7 0) = false then (0, false)
 else if s.take 7 ≠ zo4 ∧ ¬ (hasD p 5 = true ∧ same (s.take 7) zo4 = true) then (0, false)
 else if s.getD 7 0 = 48 then (0, old) else if s.getD 7 0 = 49 then (1, true) else (1, hasD p 4)
theorem zo6 {s : List UInt8} {p : Int} {old : Bool} : q7a.f s p old = some (zo5 s p old) := by
 unfold q7a.f q7a.t zo5
 by_cases h0 : s = []
 ·subst h0; rfl
 ·have e0 : (s == []) = false := by simpa using h0
  rw [e0, zmp, if_neg h0]
  by_cases h8 : s.length = 8
  ·have e8 : ((s.length:Int) != 8) = false := by simp [h8]
   rw [e8, zmp, Tr.val_chk (by omega)]
   have e5 : Int.toNat 7 = 7 := rfl
   simp only [e5, zjf]
   rw [Tr.val_call rfl]
   cases hd : zj1 (s.getD 7 0) with
   | false => rw [if_pos (.inr rfl)]; rfl
   | true =>
    rw [if_neg (by simp [h8])]
    have e1 : ([(72:UInt8), (84:UInt8), (84:UInt8), (80:UInt8), (47:UInt8), (49:UInt8), (46:UInt8)]) = zo4 := rfl
    rw [e1]
    rw [show (!true) = false from rfl, zmp, Tr.val_chk (by omega)]
    simp only [Int.toNat_natCast, List.drop_zero]
    have hsame := zl1 (a := s.take 7) (b := zo4) (by simp; omega) (by decide)
    have h48 : (((s.getD 7 0).toNat:Int) == 48) = (s.getD 7 0 == 48) := zir _ 48 (by decide) (by decide)
    have h49 : (((s.getD 7 0).toNat:Int) == 49) = (s.getD 7 0 == 49) := zir _ 49 (by decide) (by decide)
    simp only [h48, h49, zms]
    have hend : ((Tr.chk ((0:Int) <= 7 ∧ (7:Int) < (s.length:Int)) (Tr.br (s.getD 7 0 == 48) (Tr.ret ((0:Int), old)) (Tr.br (s.getD 7 0 == 49) (Tr.ret ((1:Int), true)) (Tr.call (some (hasD p 4)) fun y => Tr.ret ((1:Int), y))))).val) = some (if s.getD 7 0 = 48 then (0, old) else if s.getD 7 0 = 49 then (1, true) else (1, hasD p 4)) := by
     rw [Tr.val_chk (by omega)]
     generalize s.getD 7 0 = d
     by_cases q1 : d = 48
     ·subst q1; rfl
     ·have q1' : (d == 48) = false := by simpa using q1
      rw [q1', zmp, if_neg q1]
      by_cases q2 : d = 49
      ·subst q2; rfl
      ·have q2' : (d == 49) = false := by simpa using q2
       rw [q2', zmp, if_neg q2]
       rfl
    by_cases hv : s.take 7 = zo4
    ·have ev : (s.take 7 == zo4) = true := by simpa using hv
     rw [ev, show (!true) = false from rfl, zmp, if_neg (fun h => h.1 hv)]
     exact hend
    ·have ev : (s.take 7 == zo4) = false := by simpa using hv
     rw [ev, show (!false) = true from rfl, zmo, Tr.val_call rfl]
     cases h5 : hasD p 5 with
     | false => rw [if_pos ⟨hv, by simp⟩]; rfl
     | true =>
      rw [zmo, Tr.val_chk (by omega), hsame, Tr.val_call rfl]
      cases hs : same (s.take 7) zo4 with
      | false => rw [if_pos ⟨hv, by simp⟩]; rfl
      | true =>
       rw [if_neg (by simp)]
       exact hend
  ·have e8 : ((s.length:Int) != 8) = true := by simp; omega
   rw [e8, zmo, if_pos (.inl h8)]
   rfl
abbrev ReqS := List UInt8 × List UInt8 × Int × Int
def zo7 (s : List UInt8) (p:Int) (old:Bool) : ReqS :=
 if (zns s p).2.2.2 ≠ 0 then ([], [], 0, 400)
 else if (zns s p).1 = [] ∨ 32 < (zns s p).1.length ∨ (zns s p).1.all zj2 = false ∨ zo1 (zns s p).1 (zns s p).2.1 p = false then ([], [], 0, 400)
 else if (zo5 (zns s p).2.2.1 p old).2 = false then ([], [], 0, 505)
 else ((zns s p).1, (zns s p).2.1, (zo5 (zns s p).2.2.1 p old).1, 0)
theorem zo8 {s : List UInt8} {p : Int} {old : Bool} (hn : s.length <= 1099511627776) (hf : zny p s) (hg : (zns s p).2.1.length < 4294967000) : q71.f s p old = some (zo7 s p old) := by
 unfold q71.f q71.t zo7
 rw [znz hn hf, Tr.val_call rfl]
 generalize zns s p = q at hg ⊢
 obtain ⟨a, b, v, e⟩ := q
 simp only at hg ⊢
 by_cases he : e = 0
 ·subst he
  rw [show ((0:Int) != 0) = false from rfl, zmp, if_neg (by simp)]
  by_cases ha : a = []
  ·subst ha; rfl
  ·have e0 : (a == []) = false := by simpa using ha
   rw [e0, zmp]
   by_cases h32 : 32 < a.length
   ·rw [decide_eq_true (show (a.length:Int) > 32 by omega), zmo, if_pos (.inr (.inl h32))]; rfl
   ·rw [decide_eq_false (show ¬ (a.length:Int) > 32 by omega), zmp]
    have f1 := zkk (k := 1) (s := a) (by omega)
    rw [zmy] at f1
    rw [f1, Tr.val_call rfl]
    cases ht : a.all zj2 with
    | false => rw [if_pos (.inr (.inr (.inl rfl)))]; rfl
    | true =>
     rw [show (!true) = false from rfl, zmp, zo3 hg, Tr.val_call rfl]
     cases hgo : zo1 a b p with
     | false => rw [if_pos (.inr (.inr (.inr rfl)))]; rfl
     | true =>
      rw [if_neg (by simp [ha]; omega), show (!true) = false from rfl, zmp, zo6, Tr.val_call rfl]
      generalize zo5 v p old = m
      obtain ⟨m1, m2⟩ := m
      cases m2 <;> rfl
 ·have : (e != 0) = true := by simpa using he
  rw [this, zmo, if_pos he]
  rfl
end Pl
end Go.Vx
end
section
set_option maxRecDepth 100000
namespace Go.Vx
namespace Pl
open Go Go.Proofs
theorem vokl {α : Type} (n:Nat) (a : Tr α) : (Tr.okl n a).val = a.val := rfl
def FitF (l : List (List UInt8 × List UInt8)) : Prop := l.length <= 1000000 ∧ ∀ f ∈ l, f.1.length <= 1000000 ∧ f.2.length <= 1000000
theorem zo9 {l : List (List UInt8 × List UInt8)} {name : List UInt8} (h : FitF l) (hname : name.length <= 1000000) : qb7.f l name = some (zk7 l name) :=
 zlq (fun f hf => by have := (h.2 f hf).1; omega) (by omega) (by have := h.1; omega)
theorem zoa {l : List (List UInt8 × List UInt8)} {name : List UInt8} (h : FitF l) : (zk7 l name).length <= 1000000 ∧ ∀ x ∈ zk7 l name, x.length <= 1000000 := by
 unfold zk7
 constructor
 ·rw [List.length_map]
  have := List.length_filter_le (fun f => same f.1 name) l
  have := h.1
  omega
 ·intro x hx
  obtain ⟨f, hf, rfl⟩ := List.mem_map.1 hx
  exact (h.2 f (List.mem_filter.1 hf).1).2
theorem zob (values : List (List UInt8)) : ∀ (M:Nat), (∀ x ∈ values, x.length <= M) -> (zk6 values).length <= values.length * (M + 1) := by
 intro M h
 induction values with
 | nil => simp [zk6]
 | cons v l ih =>
  have e : zk6 (v :: l) = (zk5 44 v).map trim ++ zk6 l := by simp [zk6]
  rw [e, List.length_append, List.length_map, List.length_cons, zki 44 v.length v (Nat.le_refl _)]
  have h1 := h v (List.mem_cons_self ..)
  have h2 : v.count 44 <= v.length := List.count_le_length
  have h3 := ih fun x hx => h x (List.mem_cons_of_mem _ hx)
  have h4 : (l.length + 1) * (M + 1) = l.length * (M + 1) + (M + 1) := by rw [Nat.succ_mul]
  omega
theorem zoc (values : List (List UInt8)) (M:Nat) (h : ∀ x ∈ values, x.length <= M) : ∀ x ∈ zk6 values, x.length <= M := by
 intro x hx
 unfold zk6 at hx
 obtain ⟨v, hv, hx⟩ := List.mem_flatMap.1 hx
 obtain ⟨y, hy, rfl⟩ := List.mem_map.1 hx
 have h1 := zll v.length (Nat.le_refl _) y hy
 have h2 := zk4 zj4 y
 have := h v hv
 unfold trim
 omega
theorem zod {values : List (List UInt8)} (h1 : values.length <= 1000000) (h2 : ∀ x ∈ values, x.length <= 1000000) : qba.f values = some (zk6 values) := by
 refine zlp (fun x hx => by have := h2 x hx; omega) ?_ (by omega)
 have := zob values 1000000 h2
 have : values.length * (1000000 + 1) <= 1000000 * (1000000 + 1) := Nat.mul_le_mul_right _ h1
 omega
theorem zoe {values : List (List UInt8)} (h1 : values.length <= 1000000) (h2 : ∀ x ∈ values, x.length <= 1000000) : (zk6 values).length <= 1000001000000 := by
 have := zob values 1000000 h2
 have : values.length * (1000000 + 1) <= 1000000 * (1000000 + 1) := Nat.mul_le_mul_right _ h1
 omega
theorem zof {l : List (List UInt8)} (hn : l.length <= 1000000) (hs : ∀ x ∈ l, x.length <= 1000000) : q84.f l = some (l.any fun s => !zm3 s) := by
 have hL : q8g.L2.f l (l.length:Int) 0 = some (scan (zni fun s => !zm3 s) (.inl ()) 0 l) := by
  unfold q8g.L2.f
  refine zjb l (zni fun s => !zm3 s) (.inl ()) (fun k c hk hc => ?_) ?_ (by omega)
  ·have hw := wS (k := k) (by omega)
   have hcl := hs c (by rw [← hc]; exact List.getElem_mem hk)
   have f1 : q0r.f c = some (!zm3 c) := by
    unfold q0r.f q0r.t
    rw [zmf (by omega)]; rfl
   unfold q8g.L2.t zni
   simp only [Nat.zero_add, zix hk hc, f1, Tr.val, zje, decide_eq_true hk, cond_true, hw]
   rw [if_pos (by omega), if_pos (by simpa using hk)]
   by_cases h : (!zm3 c) = true
   ·simp only [h]; rfl
   ·have h' : (!zm3 c) = false := by simpa using h
    simp only [h']; rfl
  ·simp [q8g.L2.t, Tr.val]
 have hI : q8g.f l = some (idxV (scan (zni fun s => !zm3 s) (.inl ()) 0 l)) := by
  unfold q8g.f q8g.t
  rw [hL]
  exact znl _ rfl
 unfold q84.f q84.t
 rw [zl4, hI, Tr.val_chk (by omega), Tr.val_call rfl, znk]
 rfl
def zog : List UInt8 := [72, 111, 115, 116]
def zoh (p minor:Int) (h : List (List UInt8)) : Int :=
 if (if h.length = 0 then decide (minor ≠ 1) || hasD p 15 else if h.length = 1 then true else hasD p 16) = false then 400
 else if (h.any fun s => !zm3 s) = true then 400 else 0
def zoi (l : List (List UInt8 × List UInt8)) (p minor:Int) : Int := zoh p minor (zk7 l zog)
theorem zoj {l : List (List UInt8 × List UInt8)} {p minor : Int} (h : FitF l) : q0o.f l p minor = some (zoi l p minor) := by
 obtain ⟨q1, q2⟩ := zoa (name := zog) h
 unfold q0o.f q0o.t zoi
 rw [zl4, Tr.val_chk (by omega), show ([(72:UInt8), (111:UInt8), (115:UInt8), (116:UInt8)]) = zog from rfl, zo9 h (by decide), Tr.val_call rfl]
 generalize zk7 l zog = hs at q1 q2 ⊢
 unfold zoh
 have f1 := zof (by omega) q2
 simp only [zl4, f1, zms]
 have hend : ∀ (b:Bool), (Tr.chk ((0:Nat) + hs.length <= hs.length) (Tr.call (some b) fun y => Tr.br y (Tr.ret (400:Int)) (Tr.ret (0:Int)))).val = some (if b = true then 400 else 0) := by
  intro b
  rw [Tr.val_chk (by omega), Tr.val_call rfl]
  cases b <;> rfl
 by_cases h0 : hs.length = 0
 ·have e0 : ((hs.length:Int) == 0) = true := by simp [h0]
  rw [e0, zmo, if_pos h0]
  by_cases hm : minor = 1
  ·subst hm
   rw [show ((1:Int) != 1) = false from rfl, zmp, Tr.val_call rfl]
   cases hasD p 15 with
   | false => rfl
   | true =>
    rw [show (!true) = false from rfl, zmp, hend]
    simp
  ·have : (minor != 1) = true := by simpa using hm
   rw [this, zmo, hend]
   simp [hm]
 ·have e0 : ((hs.length:Int) == 0) = false := by rw [beq_eq_false_iff_ne]; omega
  rw [e0, zmp, if_neg h0]
  by_cases h1 : hs.length = 1
  ·have e1 : ((hs.length:Int) == 1) = true := by simp [h1]
   rw [decide_eq_false (by omega), zmp, e1, show (!true) = false from rfl, zmp, hend, if_pos h1]
   simp
  ·rw [decide_eq_true (show (hs.length:Int) > 1 by omega), zmo, if_neg h1, Tr.val_call rfl]
   cases hasD p 16 with
   | false => rfl
   | true =>
    rw [show (!true) = false from rfl, zmp, hend]
    simp
def zok : List UInt8 := [99, 104, 117, 110, 107, 101, 100]
def zol (c:UInt8) : Bool := ([11, 12, 32, 9] : List UInt8).contains c
def zom (p:Int) (s : List UInt8) : List UInt8 := zk2 (if hasD p 17 = true then zk3 zol s else s)
def zon (p:Int) (l : List (List UInt8)) : Bool :=
 !(l == []) && (decide (l.length = 1) || hasD p 18) && (l.any (· == zok) && decide (l.findIdx (· == zok) + 1 = l.length))
def zoo (values : List (List UInt8)) (p:Int) : Bool := zon p ((zk6 values).map (zom p))
theorem zop {set s : List UInt8} (hn : s.length < 1125899906842624) : qbv.L1.f set s = some (s.dropWhile set.contains) := by
 unfold qbv.L1.f
 have f1 : ∀ c : UInt8, qbp.f set (c.toNat:Int) = some (set.contains c) := by
  intro c
  unfold qbp.f qbp.t
  rw [zlx]
  cases h : set.contains c <;> simp [Tr.val]
 refine zjp (p := set.contains) ?_ ?_ hn
 ·simp [qbv.L1.t, Tr.val]
 ·intro c l _
  have h0 : ((c :: l) == ([] : List UInt8)) = false := rfl
  have hc : (c :: l).getD (Int.toNat 0) 0 = c := rfl
  unfold qbv.L1.t
  simp only [Tr.val, h0, Bool.not_false, cond_true, hc, f1]
  rw [if_pos (by simp)]
  by_cases h : set.contains c = true
  ·simp only [h, cond_true, if_true]
   rw [if_pos (by simp; omega)]
   simp
  ·have h' : set.contains c = false := by simpa using h
   simp only [h', cond_false]
   rfl
theorem zoq {set s : List UInt8} (hn : s.length < 1125899906842624) : qbv.L3.f set s = some (zjq set.contains s) := by
 unfold qbv.L3.f
 have f1 : ∀ c : UInt8, qbp.f set (c.toNat:Int) = some (set.contains c) := by
  intro c
  unfold qbp.f qbp.t
  rw [zlx]
  cases h : set.contains c <;> simp [Tr.val]
 refine zjt (p := set.contains) ?_ ?_ hn
 ·simp [qbv.L3.t, Tr.val]
 ·intro l c hl
  have h1 := zkr (l := l) (c := c) (by omega)
  have h2 : ((l ++ [c]) == []) = false := by simp
  have h3 : (l ++ [c]).getD l.length 0 = c := by simp
  unfold qbv.L3.t
  rw [h1]
  simp only [Tr.val, h2, Int.toNat_natCast, h3, f1, Bool.not_false, cond_true]
  rw [if_pos (by simp; omega)]
  by_cases h : set.contains c = true
  ·simp only [h, cond_true, if_true]
   rw [if_pos (by simp; omega)]
   simp
  ·have h' : set.contains c = false := by simpa using h
   simp only [h', cond_false]
   rfl
theorem zor {s set : List UInt8} (hn : s.length < 1125899906842624) : qbm.f s set = some (zk3 set.contains s) := by
 unfold qbm.f qbm.t qbv.f qbv.t zk3
 have := (List.dropWhile_sublist set.contains (l := s)).length_le
 simp only [zop hn, Tr.val, zoq (s := s.dropWhile set.contains) (by omega)]
theorem zos {l : List (List UInt8)} {p : Int} (hn : l.length < 1125899906842624) (hs : ∀ x ∈ l, x.length <= 1000000) : q0i.L3.f l p (l.length:Int) 0 = some (l.map (zom p)) := by
 unfold q0i.L3.f
 refine (ziv (A := Unit) (a := ()) l (fun k _ => ((l.take k).map (zom p) ++ l.drop k, (k:Int))) (fun _ _ => True) (fun _ _ => .inl ()) (fun _ => l.map (zom p)) ?_ ?_ hn trivial (by simp)).trans ?_
 ·intro k a c _ hk hc
  refine ⟨?_, fun _ _ => trivial⟩
  subst hc
  have hw := wS (k := k) (by omega)
  have hcl := hs l[k] (List.getElem_mem hk)
  have hle : ((l.take k).map (zom p) ++ l.drop k).length = l.length := by simp; omega
  have hat : ((l.take k).map (zom p) ++ l.drop k).getD k [] = l[k] := by
   rw [List.getD_eq_getElem?_getD, List.getElem?_append_right (by simp; omega)]
   simp [Nat.min_eq_left (Nat.le_of_lt hk), hk]
  have hset : ∀ b, ((l.take k).map (zom p) ++ l.drop k).set k b = (l.take k).map (zom p) ++ b :: l.drop (k + 1) := by
   intro b
   rw [List.set_append_right _ _ (by simp; omega)]
   have e : k - ((l.take k).map (zom p)).length = 0 := by simp; omega
   rw [e, List.drop_eq_getElem_cons hk]
   rfl
  have hnext : (l.take (k + 1)).map (zom p) ++ l.drop (k + 1) = (l.take k).map (zom p) ++ zom p l[k] :: l.drop (k + 1) := by
   rw [List.take_add_one, List.getElem?_eq_getElem hk, List.map_append, List.append_assoc]
   rfl
  have ht := zk4 zol l[k]
  have f1 : qbm.f l[k] [11, 12, 32, 9] = some (zk3 zol l[k]) := zor (by omega)
  have f2 := zl0 (s := zk3 zol l[k]) (by omega)
  have f3 := zl0 (s := l[k]) (by omega)
  unfold q0i.L3.t
  simp only [Int.toNat_natCast, Nat.zero_add, hat, hle, zje, decide_eq_true hk, hw, hnext, zms, f1, f3, Tr.val, cond_true, hset]
  rw [if_pos (by omega), if_pos hk]
  unfold zom
  cases hasD p 17 with
  | true =>
   simp only [cond_true, f2, Tr.val, if_true]
   rw [if_pos (by omega), if_pos hk, if_pos (by simp; omega)]
  | false =>
   simp only [cond_false, Tr.val, Bool.false_eq_true, if_false]
   rw [if_pos (by omega), if_pos hk, if_pos (by simp; omega)]
 ·intro a _
  simp [q0i.L3.t, Tr.val]
 ·have : ∀ (m : List (List UInt8)), zit (fun (_ : Unit) (_ : List UInt8) => (Sum.inl () : Unit ⊕ List (List UInt8))) (fun _ => l.map (zom p)) () m = l.map (zom p) := by
   intro m
   induction m with
   | nil => rfl
   | cons c m ih => exact ih
  rw [this]
theorem zot {l : List (List UInt8)} (hn : l.length < 1125899906842624) : q8s.f l = some (if l.any (· == zok) = true then (l.findIdx (· == zok):Int) else -1) := by
 have hL : q8s.L2.f l (l.length:Int) 0 = some (scan (zni (· == zok)) (.inl ()) 0 l) := by
  unfold q8s.L2.f
  refine zjb l (zni (· == zok)) (.inl ()) (fun k c hk hc => ?_) ?_ hn
  ·have hw := wS (k := k) (by omega)
   have hsym : (([(99:UInt8), (104:UInt8), (117:UInt8), (110:UInt8), (107:UInt8), (101:UInt8), (100:UInt8)]) == c) = (c == zok) := by
    rw [Bool.eq_iff_iff]
    simp only [beq_iff_eq]
    exact ⟨fun h => h.symm, fun h => h.symm⟩
   unfold q8s.L2.t zni
   simp only [Nat.zero_add, zix hk hc, Tr.val, zje, decide_eq_true hk, cond_true, hw, hsym]
   rw [if_pos (by omega), if_pos (by simpa using hk)]
   by_cases h : (c == zok) = true
   ·simp only [h]; rfl
   ·have h' : (c == zok) = false := by simpa using h
    simp only [h']; rfl
  ·simp [q8s.L2.t, Tr.val]
 unfold q8s.f q8s.t
 rw [hL]
 refine (znl _ rfl).trans ?_
 rw [znj, Nat.zero_add]
theorem zou {values : List (List UInt8)} {p : Int} (h1 : values.length <= 1000000) (h2 : ∀ x ∈ values, x.length <= 1000000) : q0i.f values p = some (zoo values p) := by
 have hl := zoe h1 h2
 have hs := zoc values 1000000 h2
 unfold q0i.f q0i.t zoo
 rw [zl4, zod h1 h2, Tr.val_chk (by omega), Tr.val_call rfl]
 simp only [zos (l := zk6 values) (p := p) (by omega) hs]
 have hlen : ((zk6 values).map (zom p)).length = (zk6 values).length := List.length_map ..
 rw [vokl, vokl, Tr.val_call rfl]
 generalize (zk6 values).map (zom p) = l at hlen ⊢
 have hln : l.length < 1125899906842624 := by omega
 unfold zon
 simp only [zl4, zot hln, zms]
 cases l with
 | nil => rfl
 | cons x m =>
  have e0 : ((x :: m) == ([] : List (List UInt8))) = false := rfl
  have hln' : m.length + 1 < 1125899906842624 := by simpa using hln
  have hw : IntKind.i64.wrap (((m.length + 1:Nat):Int) - 1) = ((m.length:Nat):Int) := by
   rw [w64 (by omega) (by omega)]; omega
  simp only [List.length_cons, e0, Bool.not_false, Bool.true_and]
  simp only [hw]
  rw [decide_eq_false (by omega)]
  have hfin : ((if ((x :: m).any fun x => x == zok) = true then (((x :: m).findIdx fun x => x == zok):Int) else -1) == ((m.length:Nat):Int)) = (((x :: m).any fun x => x == zok) && decide (((x :: m).findIdx fun x => x == zok) + 1 = m.length + 1)) := by
   cases h : (x :: m).any fun x => x == zok with
   | true =>
    simp only [if_true, Bool.true_and]
    by_cases h : ((x :: m).findIdx fun x => x == zok) = m.length
    ·simp [h]
    ·have h2 : ¬ ((x :: m).findIdx fun x => x == zok) + 1 = m.length + 1 := by omega
     rw [decide_eq_false h2, beq_eq_false_iff_ne]
     omega
   | false =>
    simp only [Bool.false_eq_true, if_false, Bool.false_and]
    rw [beq_eq_false_iff_ne]; omega
  cases m with
  | nil =>
   show some _ = _
   rw [hfin]
   rfl
  | cons y m =>
   rw [decide_eq_true (show (((y :: m).length:Nat):Int) > 0 by simp)]
   have h1 : ¬ (y :: m).length + 1 = 1 := by simp
   rw [zmp, zmo, Tr.val_call rfl]
   rw [decide_eq_false h1, Bool.false_or]
   cases hasD p 18 with
   | false => rfl
   | true =>
    rw [show (!true) = false from rfl, zmp, Tr.val_chk (by omega), Tr.val_call rfl, hfin]
    rfl
theorem zov {l : List (List UInt8)} {s : List UInt8} (hn : l.length < 1125899906842624) : q87.f l s = some (l.any fun x => !(x == s)) := by
 have hL : q8j.L2.f l s (l.length:Int) 0 = some (scan (zni fun x => !(x == s)) (.inl ()) 0 l) := by
  unfold q8j.L2.f
  refine zjb l (zni fun x => !(x == s)) (.inl ()) (fun k c hk hc => ?_) ?_ hn
  ·have hw := wS (k := k) (by omega)
   unfold q8j.L2.t zni
   simp only [Nat.zero_add, zix hk hc, Tr.val, zje, decide_eq_true hk, cond_true, hw]
   rw [if_pos (by omega), if_pos (by simpa using hk)]
   by_cases h : (!(c == s)) = true
   ·simp only [h]; rfl
   ·have h' : (!(c == s)) = false := by simpa using h
    simp only [h']; rfl
  ·simp [q8j.L2.t, Tr.val]
 have hI : q8j.f l s = some (idxV (scan (zni fun x => !(x == s)) (.inl ()) 0 l)) := by
  unfold q8j.f q8j.t
  rw [hL]
  exact znl _ rfl
 unfold q87.f q87.t
 rw [zl4, hI, Tr.val_chk (by omega), Tr.val_call rfl, znk]
 rfl
theorem zow {s : List UInt8} : qad.f s = some (if zm4 43 s = true then s.drop 1 else s) := by
 have h0 : q1c.f s = some (zm4 43 s) := by
  unfold q1c.f q1c.t zm4
  cases s with
  | nil => simp [Tr.val]
  | cons x l =>
   have h : decide ((((x :: l).length:Nat):Int) ≥ 1) = true := by simp; omega
   simp only [Tr.val, h, cond_true]
   rw [if_pos (by simp; omega)]
   simp
 have h1 : q1x.f s = some (if zm4 43 s = true then s.drop 1 else s) := by
  unfold q1x.f q1x.t
  rw [h0, Tr.val_call rfl]
  cases h : zm4 43 s with
  | true =>
   have hl : 1 <= s.length := by
    cases s with
    | nil => cases h
    | cons x l => simp
   rw [zmo, Tr.val_chk (by omega), if_pos rfl]
   simp [Tr.val]
  | false => rfl
 unfold qad.f qad.t
 rw [h1]; rfl
def zox (p:Int) (l : List (List UInt8)) : Option (List UInt8) :=
 if l.length = 1 ∨ ((l.any fun x => !(x == l.getD 0 [])) = false ∧ hasD p 24 = true) ∨ hasD p 25 = true then some (l.getD 0 [])
 else if hasD p 26 = true then some (l.getD (l.length - 1) []) else none
def zoy (p:Int) (s : List UInt8) : List UInt8 := if hasD p 23 = true ∧ zm4 43 s = true then s.drop 1 else s
def zoz (p most:Int) : Option (List UInt8) -> Int × Int
 | some s => zn5 (numS 10 most (zoy p s))
 | none => (0, 400)
def zp0 (p most:Int) (l : List (List UInt8)) : Int × Int := if l.length = 0 then (0, 0) else zoz p most (zox p l)
def zp1 (values : List (List UInt8)) (p most:Int) : Int × Int := zp0 p most (if hasD p 24 = true then zk6 values else values)
def lenT (p most:Int) (l : List (List UInt8)) : Tr (Int × Int) :=
 .br ((↑l.length:Int) == (0:Int)) (.ret ((0:Int), (0:Int)))
  (.chk ((0:Int) <= (0:Int) ∧ (0:Int) < (↑l.length:Int))<|.chk ((0:Nat) < l.length)<|.chk ((0:Int) <= IntKind.i64.wrap ((↑l.length:Int) - (1:Int)) ∧ IntKind.i64.wrap ((↑l.length:Int) - (1:Int)) < (↑l.length:Int))<|.chk ((0:Nat) + (IntKind.i64.wrap ((↑l.length:Int) - (1:Int))).toNat < l.length)<|.chk ((0:Nat) + l.length <= l.length)<|.call (q87.f (List.take l.length (List.drop (0:Nat) l)) (l.getD (0:Nat) [])) fun y3 =>
  .br ((↑l.length:Int) == (1:Int)) (endT (l.getD (0:Nat) []))
  (.br (!y3) (.call (q5g.f p (24:Int)) fun y8 =>
   .br y8 (endT (l.getD (0:Nat) []))
   (.call (q5g.f p (25:Int)) fun y13 =>
    .br y13 (endT (l.getD (0:Nat) []))
    (.call (q5g.f p (26:Int)) fun y18 =>
    .br y18 (endT (l.getD ((0:Nat) + (IntKind.i64.wrap ((↑l.length:Int) - (1:Int))).toNat) []))
    (.ret ((0:Int), (400:Int))))))
   (.call (q5g.f p (25:Int)) fun y23 =>
   .br y23 (endT (l.getD (0:Nat) []))
   (.call (q5g.f p (26:Int)) fun y28 =>
    .br y28 (endT (l.getD ((0:Nat) + (IntKind.i64.wrap ((↑l.length:Int) - (1:Int))).toNat) []))
    (.ret ((0:Int), (400:Int)))))))
where
 endT (s : List UInt8) : Tr (Int × Int) := .call (q5g.f p (23:Int)) fun y4 =>
   .br y4 (.call (qad.f s) fun y5 =>
   .call (q2m.f y5 most) fun (a, b) =>
   .br (b == (23:Int)) (.ret ((0:Int), (413:Int)))
   (.br (b == (22:Int)) (.ret ((0:Int), (400:Int)))
    (.ret (a, (0:Int)))))
   (.call (q2m.f s most) fun (a, b) =>
   .br (b == (23:Int)) (.ret ((0:Int), (413:Int)))
   (.br (b == (22:Int)) (.ret ((0:Int), (400:Int)))
    (.ret (a, (0:Int)))))
theorem zp2 {p most : Int} {s : List UInt8} (hm : most <= 1099511627776) (hn : s.length < 1125899906842624) : (lenT.endT p most s).val = some (zn5 (numS 10 most (zoy p s))) := by
 unfold lenT.endT zoy
 rw [zms, Tr.val_call rfl]
 cases hasD p 23 with
 | true =>
  rw [zmo, zow, Tr.val_call rfl]
  cases zm4 43 s with
  | true =>
   rw [if_pos rfl, if_pos ⟨rfl, rfl⟩, zkp hm (by simp; omega), Tr.val_call rfl]
   exact znf _
  | false =>
   rw [if_neg (by simp), if_neg (by simp), zkp hm hn, Tr.val_call rfl]
   exact znf _
 | false =>
  rw [zmp, if_neg (by simp), zkp hm hn, Tr.val_call rfl]
  exact znf _
theorem zp3 {p most : Int} {l : List (List UInt8)} (hm : most <= 1099511627776) (hn : l.length < 1125899906842624) (hs : ∀ x ∈ l, x.length <= 1000000) : (lenT p most l).val = some (zp0 p most l) := by
 unfold lenT zp0
 by_cases h0 : l.length = 0
 ·have e0 : ((l.length:Int) == 0) = true := by simp [h0]
  rw [e0, zmo, if_pos h0]; rfl
 ·have e0 : ((l.length:Int) == 0) = false := by rw [beq_eq_false_iff_ne]; omega
  have w1 : IntKind.i64.wrap ((l.length:Int) - 1) = ((l.length - 1:Nat):Int) := by rw [w64 (by omega) (by omega)]; omega
  have en : (0:Nat) + (((l.length - 1:Nat):Int)).toNat = l.length - 1 := by simp
  rw [e0, zmp, if_neg h0]
  simp only [w1, en]
  have hfirst : (l.getD 0 []).length < 1125899906842624 := by
   have : l.getD 0 [] ∈ l := by
    rw [List.getD_eq_getElem?_getD, List.getElem?_eq_getElem (by omega)]
    exact List.getElem_mem _
   have := hs _ this
   omega
  have hlast : (l.getD (l.length - 1) []).length < 1125899906842624 := by
   have : l.getD (l.length - 1) [] ∈ l := by
    rw [List.getD_eq_getElem?_getD, List.getElem?_eq_getElem (by omega)]
    exact List.getElem_mem _
   have := hs _ this
   omega
  rw [Tr.val_chk (by omega), Tr.val_chk (by omega), Tr.val_chk (by omega), Tr.val_chk (by omega), Tr.val_chk (by omega), zl4, zov hn, Tr.val_call rfl]
  have g1 := zp2 (p := p) hm hfirst
  have g2 := zp2 (p := p) hm hlast
  unfold zox
  simp only [zms]
  generalize (l.any fun x => !(x == l.getD 0 [])) = A
  by_cases h1 : l.length = 1
  ·have e1 : ((l.length:Int) == 1) = true := by simp [h1]
   rw [e1, zmo, g1, if_pos (.inl h1)]; rfl
  ·have e1 : ((l.length:Int) == 1) = false := by rw [beq_eq_false_iff_ne]; omega
   rw [e1, zmp]
   have hnone : ∀ (P : Prop) [Decidable P], ¬ P -> hasD p 25 = false -> (if l.length = 1 ∨ P ∨ hasD p 25 = true then some (l.getD 0 []) else if hasD p 26 = true then some (l.getD (l.length - 1) []) else none) = if hasD p 26 = true then some (l.getD (l.length - 1) []) else none := by
    intro P _ hP h25
    rw [if_neg]
    rintro (h | h | h)
    ·exact h1 h
    ·exact hP h
    ·rw [h25] at h; cases h
   cases A with
   | false =>
    rw [show (!false) = true from rfl, zmo, Tr.val_call rfl]
    cases h24 : hasD p 24 with
    | true => rw [zmo, g1, if_pos (.inr (.inl ⟨rfl, rfl⟩))]; rfl
    | false =>
     rw [zmp, Tr.val_call rfl]
     cases h25 : hasD p 25 with
     | true => rw [zmo, g1, if_pos (.inr (.inr rfl))]; rfl
     | false =>
      rw [zmp, Tr.val_call rfl]
      cases h26 : hasD p 26 with
      | true => rw [zmo, g2, if_neg (by simp [h1])]; rfl
      | false => rw [zmp, if_neg (by simp [h1])]; rfl
   | true =>
    rw [show (!true) = false from rfl, zmp, Tr.val_call rfl]
    cases h25 : hasD p 25 with
    | true => rw [zmo, g1, if_pos (.inr (.inr rfl))]; rfl
    | false =>
     rw [zmp, Tr.val_call rfl]
     cases h26 : hasD p 26 with
     | true => rw [zmo, g2, if_neg (by simp [h1])]; rfl
     | false => rw [zmp, if_neg (by simp [h1])]; rfl
theorem zp4 {values : List (List UInt8)} {p most : Int} (hm : most <= 1099511627776) (h1 : values.length <= 1000000) (h2 : ∀ x ∈ values, x.length <= 1000000) : q0u.f values p most = some (zp1 values p most) := by
 have hl := zoe h1 h2
 show (Tr.call (q5g.f p 24) fun y1 => Tr.br y1 (Tr.chk ((0:Nat) + values.length <= values.length) (Tr.call (qba.f (List.take values.length (List.drop (0:Nat) values))) fun y2 => lenT p most y2)) (lenT p most values)).val = _
 unfold zp1
 rw [zms, Tr.val_call rfl]
 cases hasD p 24 with
 | true =>
  rw [zmo, Tr.val_chk (by omega), zl4, zod h1 h2, Tr.val_call rfl, if_pos rfl]
  exact zp3 hm (by omega) (zoc values 1000000 h2)
 | false =>
  rw [zmp, if_neg (by simp)]
  exact zp3 hm (by omega) h2
end Pl
end Go.Vx
end
section
set_option maxRecDepth 100000
namespace Go.Vx
namespace Pl
open Go Go.Proofs
def zp5 : List UInt8 := [84, 114, 97, 110, 115, 102, 101, 114, 45, 69, 110, 99, 111, 100, 105, 110, 103]
def zp6 : List UInt8 := [67, 111, 110, 116, 101, 110, 116, 45, 76, 101, 110, 103, 116, 104]
abbrev zp7 := Int × Int × Int
def zp8 (q : Int × Int) : zp7 := if q.2 ≠ 0 then (0, 0, q.2) else (1, q.1, 0)
def zp9 (m0 is cl0 t20 t21 t19 t22 ch:Bool) (q : Int × Int) : zp7 :=
 bif m0 && !t20 then (0, 0, 400)
 else bif is && (cl0 || t21) && ch then (2, 0, 0)
 else bif (is && (cl0 || t21)) || (!is && !t19) then (0, 0, 501)
 else bif is && !t22 then (0, 0, 400) else zp8 q
def zpa (l : List (List UInt8 × List UInt8)) (p body:Int) (ch:Bool) (minor:Int) : zp7 :=
 if zoi l p minor ≠ 0 then (0, 0, zoi l p minor)
 else if 0 < (zk7 l zp5).length then zp9 (decide (minor = 0)) (zoo (zk7 l zp5) p) (decide ((zk7 l zp6).length = 0)) (hasD p 20) (hasD p 21) (hasD p 19) (hasD p 22) ch (zp1 (zk7 l zp6) p body)
 else zp8 (zp1 (zk7 l zp6) p body)
theorem zpb (q : Int × Int) : (Tr.br (q.2 != (0:Int)) (Tr.ret ((0:Int), (0:Int), q.2)) (Tr.ret ((1:Int), q.1, (0:Int)))).val = some (zp8 q) := by
 unfold zp8
 by_cases h : q.2 = 0
 ·rw [h]; rfl
 ·have : (q.2 != 0) = true := by simpa using h
  rw [this, if_pos h]; rfl
theorem zpc {l : List (List UInt8 × List UInt8)} {p body minor : Int} {ch : Bool} (h : FitF l) (hm : body <= 1099511627776) : q0l.f l p body ch minor = some (zpa l p body ch minor) := by
 obtain ⟨q1, q2⟩ := zoa (name := zp5) h
 obtain ⟨q3, q4⟩ := zoa (name := zp6) h
 have hlen := zp4 (p := p) hm q3 q4
 have hcod := zou (p := p) q1 q2
 have htl : ∀ {m : List (List UInt8)}, (0:Nat) + m.length <= m.length := by omega
 unfold q0l.f q0l.t zpa
 rw [zl4, Tr.val_chk (by omega), zoj h, Tr.val_call rfl]
 by_cases hh : zoi l p minor = 0
 ·have e : (zoi l p minor != 0) = false := by simp [hh]
  rw [e, zmp, if_neg (by simp [hh]), Tr.val_chk (by omega)]
  rw [show ([(84:UInt8), (114:UInt8), (97:UInt8), (110:UInt8), (115:UInt8), (102:UInt8), (101:UInt8), (114:UInt8), (45:UInt8), (69:UInt8), (110:UInt8), (99:UInt8), (111:UInt8), (100:UInt8), (105:UInt8), (110:UInt8), (103:UInt8)]) = zp5 from rfl, zo9 h (by decide), Tr.val_call rfl, Tr.val_chk (by omega)]
  rw [show ([(67:UInt8), (111:UInt8), (110:UInt8), (116:UInt8), (101:UInt8), (110:UInt8), (116:UInt8), (45:UInt8), (76:UInt8), (101:UInt8), (110:UInt8), (103:UInt8), (116:UInt8), (104:UInt8)]) = zp6 from rfl, zo9 h (by decide), Tr.val_call rfl]
  generalize zk7 l zp5 = te at q1 q2 hcod ⊢
  generalize zk7 l zp6 = cl at q3 q4 hlen ⊢
  have hE : (Tr.chk ((0:Nat) + cl.length <= cl.length) (Tr.call (q0u.f (List.take cl.length (List.drop (0:Nat) cl)) p body) fun q => Tr.br (q.2 != (0:Int)) (Tr.ret ((0:Int), (0:Int), q.2)) (Tr.ret ((1:Int), q.1, (0:Int))))).val = some (zp8 (zp1 cl p body)) := by
   rw [zl4, Tr.val_chk (by omega), hlen, Tr.val_call rfl]
   exact zpb _
  by_cases ht : 0 < te.length
  ·rw [decide_eq_true (show (te.length:Int) > 0 by omega), zmo, if_pos ht, zl4, Tr.val_chk (by omega), hcod, Tr.val_call rfl]
   have em : (minor == 0) = decide (minor = 0) := by by_cases h : minor = 0 <;> simp [h]
   have ec : ((cl.length:Int) == 0) = decide (cl.length = 0) := by
    by_cases h : cl.length = 0
    ·simp [h]
    ·rw [decide_eq_false h, beq_eq_false_iff_ne]; omega
   simp only [em, ec, zms]
   generalize decide (minor = 0) = m0
   generalize decide (cl.length = 0) = cl0
   generalize zoo te p = is
   generalize hasD p 20 = t20
   generalize hasD p 21 = t21
   generalize hasD p 19 = t19
   generalize hasD p 22 = t22
   cases is <;> cases m0 <;> cases t20 <;> cases cl0 <;> cases t21 <;> cases ch <;> cases t19 <;> cases t22 <;> first | rfl | exact hE
  ·rw [decide_eq_false (show ¬ (te.length:Int) > 0 by omega), zmp, if_neg ht]
   exact hE
 ·have e : (zoi l p minor != 0) = true := by simpa using hh
  rw [e, zmo, if_pos hh]; rfl
theorem zpd {l : List (List UInt8)} {what : List UInt8} (hn : l.length < 1125899906842624) (hs : ∀ x ∈ l, x.length <= 1000000) (hw : what.length <= 1000000) : q8a.f l what = some (l.any fun x => same x what) := by
 have hL : q8m.L2.f l what (l.length:Int) 0 = some (scan (zni fun x => same x what) (.inl ()) 0 l) := by
  unfold q8m.L2.f
  refine zjb l (zni fun x => same x what) (.inl ()) (fun k c hk hc => ?_) ?_ hn
  ·have hw' := wS (k := k) (by omega)
   have hcl := hs c (by rw [← hc]; exact List.getElem_mem hk)
   have f1 : q5y.f what c = some (same c what) := by
    unfold q5y.f q5y.t
    rw [zl1 (by omega) (by omega)]; rfl
   unfold q8m.L2.t zni
   simp only [Nat.zero_add, zix hk hc, f1, Tr.val, zje, decide_eq_true hk, cond_true, hw']
   rw [if_pos (by omega), if_pos (by simpa using hk)]
   by_cases h : same c what = true
   ·simp only [h]; rfl
   ·have h' : same c what = false := by simpa using h
    simp only [h']; rfl
  ·simp [q8m.L2.t, Tr.val]
 have hI : q8m.f l what = some (idxV (scan (zni fun x => same x what) (.inl ()) 0 l)) := by
  unfold q8m.f q8m.t
  rw [hL]
  exact znl _ rfl
 unfold q8a.f q8a.t
 rw [zl4, hI, Tr.val_chk (by omega), Tr.val_call rfl, znk]
 rfl
def zpe (l : List (List UInt8 × List UInt8)) (field what : List UInt8) : Bool := (zk6 (zk7 l field)).any fun x => same x what
theorem zpf {l : List (List UInt8 × List UInt8)} {field what : List UInt8} (h : FitF l) (h1 : field.length <= 1000000) (h2 : what.length <= 1000000) : q5v.f l field what = some (zpe l field what) := by
 obtain ⟨q1, q2⟩ := zoa (name := field) h
 have hl := zoe q1 q2
 unfold q5v.f q5v.t zpe
 rw [zl4, Tr.val_chk (by omega), zo9 h h1, Tr.val_call rfl, Tr.val_chk (by omega), zl4, zod q1 q2, Tr.val_call rfl, Tr.val_chk (by omega), zl4, zpd (by omega) (zoc _ 1000000 q2) h2, Tr.val_call rfl]
 rfl
def zpg : List UInt8 := [69, 120, 112, 101, 99, 116]
def zph : List UInt8 := [49, 48, 48, 45, 99, 111, 110, 116, 105, 110, 117, 101]
def zpi (l : List (List UInt8 × List UInt8)) (minor:Int) : Bool := decide (minor = 1) && zpe l zpg zph
theorem zpj {l tr : List (List UInt8 × List UInt8)} {b : List UInt8} {minor : Int} (h : FitF l) : q5p.f l b tr minor = some (zpi l minor) := by
 unfold q5p.f q5p.t zpi
 by_cases hm : minor = 1
 ·have e : (minor == 1) = true := by simpa using hm
  rw [e, zmo, Tr.val_chk (by omega), Tr.val_chk (by omega), Tr.val_chk (by omega), zl4]
  rw [show ([(69:UInt8), (120:UInt8), (112:UInt8), (101:UInt8), (99:UInt8), (116:UInt8)]) = zpg from rfl, show ([(49:UInt8), (48:UInt8), (48:UInt8), (45:UInt8), (99:UInt8), (111:UInt8), (110:UInt8), (116:UInt8), (105:UInt8), (110:UInt8), (117:UInt8), (101:UInt8)]) = zph from rfl, zpf h (by decide) (by decide), Tr.val_call rfl]
  simp [hm, Tr.val]
 ·have e : (minor == 1) = false := by simpa using hm
  rw [e]
  simp [hm, Tr.val]
end Pl
end Go.Vx
end
section
set_option maxRecDepth 100000
namespace Go.Vx
namespace Pl
open Go Go.Proofs
abbrev Bs := List UInt8
abbrev Fs := List (List UInt8 × List UInt8)
abbrev Rec := List UInt8 × List UInt8 × Int × List (List UInt8 × List UInt8) × Bool × List UInt8 × List (List UInt8 × List UInt8)
structure Cfg where
 p : Int
 line : Int
 fields : Int
 head : Int
 body : Int
 ext : Int
 trailers : Int
 wait : Int
 idle : Int
 chunked : Bool
 old : Bool
structure PS where
 method : Bs
 target : Bs
 minor : Int
 chunked : Bool
 stage : Int
 lines : Int
 head : Int
 need : Int
 begun : Bool
 waits : Bool
 err : Int
 most : Int
 pend : Bool
 over : Bool
 bad : Bool
 b : Bs
 fields : Fs
 body : Bs
 trailers : Fs
 out : List Rec
abbrev PT := Bs × Bs × Int × Bool × Int × Int × Int × Int × Bool × Bool × Int × Int × Int × Bool × Bool × Bool × Bs × Fs × Bs × Fs × List Rec
def PS.tup (C : Cfg) (S : PS) : PT := (S.method, S.target, S.minor, S.chunked, S.stage, S.lines, S.head, S.need, S.begun, S.waits, S.err, C.p, S.most, S.pend, S.over, S.bad, S.b, S.fields, S.body, S.trailers, S.out)
def zpk (m:Int) : Int := mn2 (mx2 m 0) 4096
def PS.rec_ (S : PS) : Rec := (S.method, S.target, S.minor, S.fields, S.chunked, S.body, S.trailers)
def PS.whole (C : Cfg) (S : PS) : PS :=
 {method := [], target := [], minor := 0, chunked := false, stage := 0, lines := 0, head := 0, need := 0, begun := false, waits := false, err := S.err, most := zpk C.line, pend := false, over := false, bad := false, b := [], fields := [], body := [], trailers := [], out := S.out ++ [S.rec_] }
def PS.to (C : Cfg) (S : PS) (st:Int) : PS := { S with stage := st, most := zpk (if st = 5 then 0 else C.line), pend := false, over := false, bad := false, b := [] }
def PS.fail (S : PS) (e:Int) : PS := { S with err := e }
def PS.bodyB (C : Cfg) (S : PS) (c:UInt8) : PS :=
 let T := { S with waits := false, body := S.body ++ [c], need := S.need - 1 }
 if T.need > 0 then T else if S.stage = 2 then T.whole C else T.to C 5
def PS.counted (C : Cfg) (S : PS) : PS × Bool :=
 if S.stage = 3 ∨ S.stage = 5 then (S, true)
 else if S.head + 1 > C.head then ({ S with head := S.head + 1, err := 431 }, false)
 else ({ S with head := S.head + 1 }, S.err == 0)
def PS.lineB (C : Cfg) (S : PS) (c:UInt8) : PS × Int :=
 if S.bad = true then (S, 3) else
 if S.pend = true then
  (if c = 10 then ({ S with over := true, pend := false, b := if S.over = true then [] else S.b }, 1)
   else if hasD C.p 2 = true then ({ S with over := true, pend := false, b := if S.over = true then [] else S.b }, 2)
   else ({ S with bad := true, pend := false, over := false, b := if S.over = true then [] else S.b }, 3))
 else if c = 13 then ({ S with pend := true, over := false, b := if S.over = true then [] else S.b }, 0)
 else if c = 10 then
  (if hasD C.p 1 = true then ({ S with over := true, pend := false, b := if S.over = true then [] else S.b }, 1)
   else ({ S with bad := true, pend := false, over := false, b := if S.over = true then [] else S.b }, 3))
 else if ((if S.over = true then ([] : Bs) else S.b).length:Int) ≥ S.most then ({ S with bad := true, pend := false, over := false, b := if S.over = true then [] else S.b }, 4)
 else ({ S with over := false, b := (if S.over = true then [] else S.b) ++ [c] }, 0)
def PS.lineS (S : PS) : Bs := if S.over = true ∧ S.bad = false then S.b else []
def PS.request (C : Cfg) (S : PS) (s : Bs) : PS :=
 if s = [] ∧ hasD C.p 0 = true then { S with begun := false }
 else { S with method := (zo7 s C.p C.old).1, target := (zo7 s C.p C.old).2.1, minor := (zo7 s C.p C.old).2.2.1, err := (zo7 s C.p C.old).2.2.2, stage := if (zo7 s C.p C.old).2.2.2 = 0 then 1 else S.stage }
def zpl (p:Int) (l : Fs) (s : Bs) (e:Int) : Fs × Int :=
 if l ≠ [] ∧ zn1 s p = true then (l.set (l.length - 1) ((l.getD (l.length - 1) ([], [])).1, (l.getD (l.length - 1) ([], [])).2 ++ 32 :: trim s), e)
 else if (zmv s p).2.2.1 = true then (l ++ [((zmv s p).1, (zmv s p).2.1)], (zmv s p).2.2.2)
 else (l, (zmv s p).2.2.2)
def PS.fieldF (C : Cfg) (S : PS) (s : Bs) : PS :=
 if S.lines + 1 > C.fields then { S with lines := S.lines + 1, err := 431 }
 else { S with lines := S.lines + 1, fields := (zpl C.p S.fields s S.err).1, err := (zpl C.p S.fields s S.err).2 }
def PS.fieldT (C : Cfg) (S : PS) (s : Bs) : PS :=
 if S.lines + 1 > C.trailers then { S with lines := S.lines + 1, err := 431 }
 else { S with lines := S.lines + 1, trailers := (zpl C.p S.trailers s S.err).1, err := (zpl C.p S.trailers s S.err).2 }
def PS.framed (C : Cfg) (S : PS) : PS :=
 let q := zpa S.fields C.p C.body C.chunked S.minor
 if q.2.2 ≠ 0 then S.fail q.2.2
 else if q.1 = 2 then { (S.to C 3) with chunked := true, waits := zpi S.fields S.minor }
 else if q.2.1 = 0 then S.whole C
 else { S with stage := 2, need := q.2.1, waits := zpi S.fields S.minor }
def PS.chunk (C : Cfg) (S : PS) (s : Bs) : PS :=
 let q := zn6 s C.p C.body C.ext
 if q.2 ≠ 0 then S.fail q.2
 else if q.1 > C.body - (S.body.length:Int) then S.fail 413
 else if q.1 = 0 then { (S.to C 6) with lines := 0 }
 else { S with stage := 4, need := q.1 }
def PS.ended (C : Cfg) (S : PS) : PS :=
 if S.stage = 0 then S.request C S.lineS
 else if S.stage = 1 then (if S.lineS = [] then S.framed C else S.fieldF C S.lineS)
 else if S.stage = 3 then S.chunk C S.lineS
 else if S.stage = 5 then S.to C 3
 else if S.stage = 6 then (if S.lineS = [] then S.whole C else S.fieldT C S.lineS)
 else S
theorem zpm (m:Int) : q24.f m = some (zpk m, false, false, false, []) := rfl
theorem zpn (b : Bs) : q2g.f b = some (false, true) := rfl
theorem zpo (b : Bs) : q2j.f b = some (false, true) := rfl
theorem zpp (over bad:Bool) (b : Bs) : q2d.f over bad b = some (if over = true ∧ bad = false then b else []) := by
 unfold q2d.f q2d.t
 cases over <;> cases bad <;> simp [Tr.val]
theorem zpq {C : Cfg} {S : PS} (c:UInt8) (hm : S.most <= 4096) : q27.f C.p S.most S.pend S.over S.bad S.b (c.toNat:Int) = some ((S.lineB C c).1.pend, (S.lineB C c).1.over, (S.lineB C c).1.bad, (S.lineB C c).1.b, (S.lineB C c).2) := by
 obtain ⟨method, target, minor, chunked, stage, lines, head, need, begun, waits, err, most, pend, over, bad, b, fields, body, trailers, out⟩ := S
 simp only at hm
 unfold q27.f q27.t PS.lineB
 have h0 := zio c
 have h1 := zin c
 have e10 : ((c.toNat:Int) == 10) = (c == 10) := zir c 10 (by decide) (by decide)
 have e13 : ((c.toNat:Int) == 13) = (c == 13) := zir c 13 (by decide) (by decide)
 have eb := zip c
 simp only [zms, zpn, zpo, e10, e13]
 by_cases q1 : c = 10
 ·subst q1
  cases bad <;> cases over <;> cases pend <;> cases hasD C.p 2 <;> cases hasD C.p 1 <;> simp [Tr.val]
 ·have f1 : (c == 10) = false := by simpa using q1
  by_cases q2 : c = 13
  ·subst q2
   cases bad <;> cases over <;> cases pend <;> cases hasD C.p 2 <;> cases hasD C.p 1 <;> simp [Tr.val]
  ·have f2 : (c == 13) = false := by simpa using q2
   by_cases e3 : most <= (b.length:Int)
   ·by_cases e4 : most <= 0
    ·cases bad <;> cases over <;> cases pend <;> cases hasD C.p 2 <;> cases hasD C.p 1 <;> simp [Tr.val, f1, f2, q1, q2, h0, h1, e3, e4]
    ·cases bad <;> cases over <;> cases pend <;> cases hasD C.p 2 <;> cases hasD C.p 1 <;> simp [Tr.val, f1, f2, q1, q2, h0, h1, e3, e4]
   ·have e4 : ¬ most <= 0 := by omega
    have e5 : b.length + 1 <= 140737488355328 := by omega
    cases bad <;> cases over <;> cases pend <;> cases hasD C.p 2 <;> cases hasD C.p 1 <;> simp [Tr.val, f1, f2, q1, q2, h0, h1, e3, e4, e5]
theorem zpr {C : Cfg} {S : PS} (ho : S.out.length <= 1000000000) : q5d.f S.method S.target S.minor S.chunked C.line S.b S.fields S.body S.trailers S.out = some ([], [], 0, false, 0, 0, 0, 0, false, false, zpk C.line, false, false, false, [], [], [], [], S.out ++ [S.rec_]) := by
 unfold q5d.f q5d.t
 rw [Tr.val_chk (by omega), Tr.val_chk (by omega), Tr.val_chk (by omega), Tr.val_chk (by simp), Tr.val_chk (by omega), Tr.val_chk (by omega), zpm, Tr.val_call rfl, vokl, vokl, Tr.val_chk (by simp)]
 simp only [zl4, Tr.val]
 rfl
theorem to_f {C : Cfg} {S : PS} (st:Int) : q5a.f C.line S.b S.fields S.body S.trailers S.out st = some (zpk (if st = 5 then 0 else C.line), false, false, false, []) := by
 unfold q5a.f q5a.t
 by_cases h : st = 5
 ·have e : (st == 5) = true := by simpa using h
  rw [e, zmo, if_pos h]; rfl
 ·have e : (st == 5) = false := by simpa using h
  rw [e, zmp, if_neg h]; rfl
end Pl
end Go.Vx
end
section
set_option maxRecDepth 100000
namespace Go.Vx
namespace Pl
open Go Go.Proofs
abbrev BT := Bs × Bs × Int × Bool × Int × Int × Int × Int × Bool × Bool × Int × Int × Bool × Bool × Bool × Bs × Fs × Bs × Fs × List Rec
def PS.tupB (C : Cfg) (S : PS) : BT := (S.method, S.target, S.minor, S.chunked, S.stage, S.lines, S.head, S.need, S.begun, S.waits, C.p, S.most, S.pend, S.over, S.bad, S.b, S.fields, S.body, S.trailers, S.out)
theorem zps {C : Cfg} {S : PS} (c:UInt8) (hb : S.body.length <= 1000000000) (ho : S.out.length <= 1000000000) (hn0 : 0 <= S.need) (hn : S.need <= 1099511627776) :
  q47.f S.method S.target S.minor S.chunked S.stage S.lines S.head S.need S.begun C.p C.line C.p S.most S.pend S.over S.bad S.b S.fields S.body S.trailers S.out (c.toNat:Int) = some ((S.bodyB C c).tupB C) := by
 have h0 := zio c
 have h1 := zin c
 have eb := zip c
 have hw : IntKind.i64.wrap (S.need - 1) = S.need - 1 := w64 (by omega) (by omega)
 unfold q47.f q47.t
 rw [Tr.val_chk (by omega), Tr.val_chk (by omega), Tr.val_chk (by omega), hw, eb, zl4]
 unfold PS.bodyB
 simp only
 by_cases h : S.need - 1 > 0
 ·rw [decide_eq_true h, zmo, if_pos h, vokl, vokl, Tr.val_chk (by simp), vokl, vokl]
  rfl
 ·rw [decide_eq_false h, zmp, if_neg h]
  by_cases h2 : S.stage = 2
  ·have e : (S.stage == 2) = true := by simpa using h2
   rw [e, zmo, if_pos h2, vokl, vokl, Tr.val_chk (by simp), vokl, vokl]
   have hw := zpr (C := C) (S := { S with waits := false, body := S.body ++ [c], need := S.need - 1 }) ho
   simp only at hw
   rw [hw, Tr.val_call rfl]
   rfl
  ·have e : (S.stage == 2) = false := by simpa using h2
   rw [e, zmp, if_neg h2, vokl, vokl, Tr.val_chk (by simp), vokl, vokl]
   have ht := to_f (C := C) (S := { S with waits := false, body := S.body ++ [c], need := S.need - 1 }) 5
   simp only at ht
   rw [ht, Tr.val_call rfl]
   rfl
theorem zpt {C : Cfg} {S : PS} (hh0 : 0 <= S.head) (hh : S.head <= 1099511627776) :
  q4d.f S.stage S.head C.head S.err S.b S.fields S.body S.trailers S.out = some ((S.counted C).1.head, (S.counted C).1.err, (S.counted C).2) := by
 have hw : IntKind.i64.wrap (S.head + 1) = S.head + 1 := w64 (by omega) (by omega)
 unfold q4d.f q4d.t PS.counted
 rw [hw]
 by_cases h3 : S.stage = 3
 ·have e : (S.stage != 3) = false := by simp [h3]
  rw [e, zmp, if_pos (.inl h3)]; rfl
 ·have e : (S.stage != 3) = true := by simpa using h3
  rw [e, zmo]
  by_cases h5 : S.stage = 5
  ·have e : (S.stage != 5) = false := by simp [h5]
   rw [e, show (!false) = true from rfl, zmo, if_pos (.inr h5)]; rfl
  ·have e : (S.stage != 5) = true := by simpa using h5
   rw [e, show (!true) = false from rfl, zmp, if_neg (not_or.2 ⟨h3, h5⟩)]
   by_cases h : S.head + 1 > C.head
   ·rw [decide_eq_true h, zmo, if_pos h]; rfl
   ·rw [decide_eq_false h, zmp, if_neg h]; rfl
def zpu (C : Cfg) (s : Bs) : Prop := zny C.p s ∧ (zns s C.p).2.1.length < 4294967000
theorem zpv {C : Cfg} {S : PS} {s : Bs} (hn : s.length <= 1000000) (hl : zpu C s) :
  q4y.f S.method S.target S.minor S.stage S.begun C.p C.old S.err S.b S.fields S.body S.trailers S.out s = some ((S.request C s).method, (S.request C s).target, (S.request C s).minor, (S.request C s).stage, (S.request C s).begun, (S.request C s).err) := by
 have hr := zo8 (old := C.old) (by omega) hl.1 hl.2
 have hE : (Tr.call (q71.f s C.p C.old) fun (a, b, m, e) => Tr.br (e == (0:Int)) (Tr.okl S.fields.length<|Tr.okl S.body.length<|Tr.okl S.trailers.length<|Tr.okl S.out.length<|Tr.okl S.b.length<|Tr.ret (a, b, m, (1:Int), S.begun, e)) (Tr.okl S.fields.length<|Tr.okl S.body.length<|Tr.okl S.trailers.length<|Tr.okl S.out.length<|Tr.okl S.b.length<|Tr.ret (a, b, m, S.stage, S.begun, e))).val
   = some ((zo7 s C.p C.old).1, (zo7 s C.p C.old).2.1, (zo7 s C.p C.old).2.2.1, (if (zo7 s C.p C.old).2.2.2 = 0 then 1 else S.stage), S.begun, (zo7 s C.p C.old).2.2.2) := by
  rw [hr, Tr.val_call rfl]
  generalize zo7 s C.p C.old = q
  obtain ⟨a, b, m, e⟩ := q
  simp only
  by_cases h : e = 0
  ·subst h; rfl
  ·have e1 : (e == 0) = false := by simpa using h
   rw [e1, zmp, if_neg h]; rfl
 unfold q4y.f q4y.t PS.request
 by_cases h0 : s = []
 ·have e0 : (s == []) = true := by simpa using h0
  rw [e0, zmo, zms, Tr.val_call rfl]
  cases h : hasD C.p 0 with
  | true => rw [zmo, if_pos ⟨h0, rfl⟩]; rfl
  | false => rw [zmp, if_neg (by simp)]; exact hE
 ·have e0 : (s == []) = false := by simpa using h0
  rw [e0, zmp, if_neg (fun h => h0 h.1)]
  exact hE
theorem zpw {C : Cfg} {S : PS} (hf : FitF S.fields) (hb : C.body <= 1099511627776) (ho : S.out.length <= 1000000000) :
  q4m.f S.method S.target S.minor S.chunked S.stage S.lines S.head S.need S.begun S.waits C.p C.line C.body C.chunked S.err C.p S.most S.pend S.over S.bad S.b S.fields S.body S.trailers S.out = some ((S.framed C).tup C) := by
 unfold q4m.f q4m.t PS.framed
 rw [show ∀ (a : Tr PT), (Tr.twice a).val = a.val from fun _ => rfl, Tr.val_chk (by omega), zl4, zpc hf hb, Tr.val_call rfl]
 generalize zpa S.fields C.p C.body C.chunked S.minor = q
 obtain ⟨k, n, e⟩ := q
 simp only
 by_cases he : e = 0
 ·have e1 : (e != 0) = false := by simp [he]
  rw [e1, zmp, if_neg (by simp [he])]
  by_cases hk : k = 2
  ·have e2 : (k == 2) = true := by simpa using hk
   rw [e2, zmo, if_pos hk, vokl, vokl, vokl, vokl, vokl, to_f (C := C) (S := S) 3, Tr.val_call rfl, Tr.val_chk (by omega), Tr.val_chk (by omega), Tr.val_chk (by omega)]
   simp only [zl4]
   rw [zpj hf, Tr.val_call rfl]
   rfl
  ·have e2 : (k == 2) = false := by simpa using hk
   rw [e2, zmp, if_neg hk]
   by_cases hn : n = 0
   ·have e3 : (n == 0) = true := by simpa using hn
    rw [e3, zmo, if_pos hn, vokl, vokl, vokl, vokl, vokl, zpr (C := C) (S := S) ho, Tr.val_call rfl]
    rfl
   ·have e3 : (n == 0) = false := by simpa using hn
    rw [e3, zmp, if_neg hn, Tr.val_chk (by omega), Tr.val_chk (by omega), Tr.val_chk (by omega)]
    simp only [zl4]
    rw [zpj hf, Tr.val_call rfl]
    rfl
 ·have e1 : (e != 0) = true := by simpa using he
  rw [e1, zmo, if_pos he]; rfl
theorem zpx {C : Cfg} {S : PS} {s : Bs} (hn : s.length <= 1000000) (hb : C.body <= 1099511627776) (hb0 : 0 <= C.body) (hl : S.body.length <= 1000000000) :
  q4a.f S.stage S.lines S.need C.p C.line C.body C.ext S.err C.p S.most S.pend S.over S.bad S.b S.fields S.body S.trailers S.out s = some ((S.chunk C s).stage, (S.chunk C s).lines, (S.chunk C s).need, (S.chunk C s).err, C.p, (S.chunk C s).most, (S.chunk C s).pend, (S.chunk C s).over, (S.chunk C s).bad, (S.chunk C s).b) := by
 have hw : IntKind.i64.wrap (C.body - (S.body.length:Int)) = C.body - (S.body.length:Int) := w64 (by omega) (by omega)
 unfold q4a.f q4a.t PS.chunk
 rw [znh hb (by omega), Tr.val_call rfl, hw]
 generalize zn6 s C.p C.body C.ext = q
 obtain ⟨n, e⟩ := q
 simp only
 by_cases he : e = 0
 ·have e1 : (e != 0) = false := by simp [he]
  rw [e1, zmp, if_neg (by simp [he])]
  by_cases h : n > C.body - (S.body.length:Int)
  ·rw [decide_eq_true h, zmo, if_pos h]; rfl
  ·rw [decide_eq_false h, zmp, if_neg h]
   by_cases hn : n = 0
   ·have e3 : (n == 0) = true := by simpa using hn
    rw [e3, zmo, if_pos hn, vokl, vokl, vokl, vokl, vokl, to_f (C := C) (S := S) 6, Tr.val_call rfl]
    rfl
   ·have e3 : (n == 0) = false := by simpa using hn
    rw [e3, zmp, if_neg hn]; rfl
 ·have e1 : (e != 0) = true := by simpa using he
  rw [e1, zmo, if_pos he]; rfl
end Pl
end Go.Vx
end
section
set_option maxRecDepth 100000
namespace Go.Vx
namespace Pl
open Go Go.Proofs
structure Small (C : Cfg) (S : PS) : Prop where
 cbody : 0 <= C.body ∧ C.body <= 1099511627776
 b : S.b.length <= 4096
 most : S.most <= 4096
 lines : 0 <= S.lines ∧ S.lines <= 1000000
 head : 0 <= S.head ∧ S.head <= 1000000000
 need : 0 <= S.need ∧ S.need <= 1099511627776
 fields : FitF S.fields
 trailers : FitF S.trailers
 body : S.body.length <= 1000000000
 out : S.out.length <= 1000000000
theorem zpy {S : PS} : S.lineS.length <= S.b.length := by
 unfold PS.lineS
 split
 ·exact Nat.le_refl _
 ·simp
theorem zpz (C : Cfg) (S : PS) (s : Bs) : (S.request C s).tup C = ((S.request C s).method, (S.request C s).target, (S.request C s).minor, S.chunked, (S.request C s).stage, S.lines, S.head, S.need, (S.request C s).begun, S.waits, (S.request C s).err, C.p, S.most, S.pend, S.over, S.bad, S.b, S.fields, S.body, S.trailers, S.out) := by
 unfold PS.request
 by_cases h : s = [] ∧ hasD C.p 0 = true
 ·rw [if_pos h]; rfl
 ·rw [if_neg h]; rfl
theorem zq0 (C : Cfg) (S : PS) (s : Bs) : (S.chunk C s).tup C = (S.method, S.target, S.minor, S.chunked, (S.chunk C s).stage, (S.chunk C s).lines, S.head, (S.chunk C s).need, S.begun, S.waits, (S.chunk C s).err, C.p, (S.chunk C s).most, (S.chunk C s).pend, (S.chunk C s).over, (S.chunk C s).bad, (S.chunk C s).b, S.fields, S.body, S.trailers, S.out) := by
 unfold PS.chunk
 simp only
 by_cases h1 : (zn6 s C.p C.body C.ext).2 ≠ 0
 ·rw [if_pos h1]; rfl
 ·rw [if_neg h1]
  by_cases h2 : (zn6 s C.p C.body C.ext).1 > C.body - (S.body.length:Int)
  ·rw [if_pos h2]; rfl
  ·rw [if_neg h2]
   by_cases h3 : (zn6 s C.p C.body C.ext).1 = 0
   ·rw [if_pos h3]; rfl
   ·rw [if_neg h3]; rfl
theorem zq1 {C : Cfg} {S : PS} (h : Small C S) (hl : S.stage = 0 -> zpu C S.lineS) :
  q4g.f S.method S.target S.minor S.chunked S.stage S.lines S.head S.need S.begun S.waits C.p C.line C.fields C.body C.ext C.trailers C.chunked C.old S.err C.p S.most S.pend S.over S.bad S.b S.fields S.body S.trailers S.out = some ((S.ended C).tup C) := by
 have hb := h.b
 have hls := zpy (S := S)
 have hwl : IntKind.i64.wrap (S.lines + 1) = S.lines + 1 := by have := h.lines; exact w64 (by omega) (by omega)
 have hp := zn0 (s := S.lineS) (p := C.p) (by omega)
 unfold q4g.f q4g.t PS.ended
 rw [zpp]
 repeat rw [vokl]
 rw [Tr.val_call rfl, hwl]
 rw [show (if S.over = true ∧ S.bad = false then S.b else []) = S.lineS from rfl]
 by_cases s0 : S.stage = 0
 ·have e : (S.stage == 0) = true := by simpa using s0
  rw [e, zmo, if_pos s0]
  repeat rw [vokl]
  rw [zpv (C := C) (by omega) (hl s0), Tr.val_call rfl]
  rw [zpz]
  rfl
 ·have e : (S.stage == 0) = false := by simpa using s0
  rw [e, zmp, if_neg s0]
  by_cases s1 : S.stage = 1
  ·have e : (S.stage == 1) = true := by simpa using s1
   have hf := h.fields
   have hf1 := hf.1
   rw [e, zmo, if_pos s1]
   by_cases hs : S.lineS = []
   ·have e : (S.lineS == []) = true := by simpa using hs
    rw [e, zmo, if_pos hs]
    repeat rw [vokl]
    rw [zpw h.fields h.cbody.2 h.out, Tr.val_call rfl]
    rfl
   ·have e : (S.lineS == []) = false := by simpa using hs
    rw [e, zmp, if_neg hs]
    unfold PS.fieldF
    by_cases hl : S.lines + 1 > C.fields
    ·rw [decide_eq_true hl, zmo, if_pos hl]
     rfl
    ·rw [decide_eq_false hl, zmp, if_neg hl]
     have hlist : ∀ e, zpl C.p S.fields S.lineS e = zpl C.p S.fields S.lineS e := fun _ => rfl
     by_cases h0 : S.fields = []
     ·have hw1 : IntKind.i64.wrap ((S.fields.length:Int) - 1) = -1 := by rw [h0]; rfl
      rw [hw1, show decide ((-1:Int) ≥ 0) = false from rfl, zmp]
      repeat rw [vokl]
      rw [hp, Tr.val_call rfl]
      unfold zpl
      rw [if_neg (by rintro ⟨h, _⟩; exact h h0)]
      generalize zmv S.lineS C.p = q
      obtain ⟨n, v, is, e⟩ := q
      cases is with
      | true =>
       simp only [zl4]
       rw [zmo, Tr.val_chk (by omega), Tr.val_chk (by omega)]
       repeat rw [vokl]
       rw [Tr.val_chk (by simp)]
       rfl
      | false => rfl
     ·have hpos : 0 < S.fields.length := List.length_pos_iff.2 h0
      have hw1 : IntKind.i64.wrap ((S.fields.length:Int) - 1) = ((S.fields.length - 1:Nat):Int) := by rw [w64 (by omega) (by omega)]; omega
      rw [hw1, decide_eq_true (show ((S.fields.length - 1:Nat):Int) ≥ 0 by omega), zmo]
      repeat rw [vokl]
      rw [zn2, Tr.val_call rfl]
      simp only [Int.toNat_natCast, Nat.zero_add]
      unfold zpl
      cases hg : zn1 S.lineS C.p with
      | true =>
       rw [if_pos ⟨h0, rfl⟩, zmo, Tr.val_chk (by omega), Tr.val_chk (by omega)]
       have hmem : S.fields.getD (S.fields.length - 1) ([], []) ∈ S.fields := by
        rw [List.getD_eq_getElem?_getD, List.getElem?_eq_getElem (by omega)]
        exact List.getElem_mem _
       rw [zn3 (by have := (hf.2 _ hmem).2; omega) (by omega), Tr.val_call rfl, Tr.val_chk (by omega), Tr.val_chk (by omega)]
       repeat rw [vokl]
       rw [Tr.val_chk (by simp)]
       rfl
      | false =>
       rw [if_neg (by simp), zmp]
       repeat rw [vokl]
       rw [hp, Tr.val_call rfl]
       generalize zmv S.lineS C.p = q
       obtain ⟨n, v, is, e⟩ := q
       cases is with
       | true =>
        simp only [zl4]
        rw [zmo, Tr.val_chk (by omega), Tr.val_chk (by omega)]
        repeat rw [vokl]
        rw [Tr.val_chk (by simp)]
        rfl
       | false => rfl
  ·have e : (S.stage == 1) = false := by simpa using s1
   rw [e, zmp, if_neg s1]
   by_cases s3 : S.stage = 3
   ·have e : (S.stage == 3) = true := by simpa using s3
    rw [e, zmo, if_pos s3]
    repeat rw [vokl]
    rw [zpx (by omega) h.cbody.2 h.cbody.1 h.body, Tr.val_call rfl]
    rw [zq0]
    rfl
   ·have e : (S.stage == 3) = false := by simpa using s3
    rw [e, zmp, if_neg s3]
    by_cases s5 : S.stage = 5
    ·have e : (S.stage == 5) = true := by simpa using s5
     rw [e, zmo, if_pos s5]
     repeat rw [vokl]
     rw [to_f (C := C) (S := S) 3, Tr.val_call rfl]
     rfl
    ·have e : (S.stage == 5) = false := by simpa using s5
     rw [e, zmp, if_neg s5]
     by_cases s6 : S.stage = 6
     ·have e : (S.stage == 6) = true := by simpa using s6
      have hf := h.trailers
      have hf1 := hf.1
      rw [e, zmo, if_pos s6]
      by_cases hs : S.lineS = []
      ·have e : (S.lineS == []) = true := by simpa using hs
       rw [e, zmo, if_pos hs]
       repeat rw [vokl]
       rw [zpr (C := C) (S := S) h.out, Tr.val_call rfl]
       rfl
      ·have e : (S.lineS == []) = false := by simpa using hs
       rw [e, zmp, if_neg hs]
       unfold PS.fieldT
       by_cases hl : S.lines + 1 > C.trailers
       ·rw [decide_eq_true hl, zmo, if_pos hl]
        rfl
       ·rw [decide_eq_false hl, zmp, if_neg hl]
        have hlist : ∀ e, zpl C.p S.trailers S.lineS e = zpl C.p S.trailers S.lineS e := fun _ => rfl
        by_cases h0 : S.trailers = []
        ·have hw1 : IntKind.i64.wrap ((S.trailers.length:Int) - 1) = -1 := by rw [h0]; rfl
         rw [hw1, show decide ((-1:Int) ≥ 0) = false from rfl, zmp]
         repeat rw [vokl]
         rw [hp, Tr.val_call rfl]
         unfold zpl
         rw [if_neg (by rintro ⟨h, _⟩; exact h h0)]
         generalize zmv S.lineS C.p = q
         obtain ⟨n, v, is, e⟩ := q
         cases is with
         | true =>
          simp only [zl4]
          rw [zmo, Tr.val_chk (by omega), Tr.val_chk (by omega)]
          repeat rw [vokl]
          rw [Tr.val_chk (by simp)]
          rfl
         | false => rfl
        ·have hpos : 0 < S.trailers.length := List.length_pos_iff.2 h0
         have hw1 : IntKind.i64.wrap ((S.trailers.length:Int) - 1) = ((S.trailers.length - 1:Nat):Int) := by rw [w64 (by omega) (by omega)]; omega
         rw [hw1, decide_eq_true (show ((S.trailers.length - 1:Nat):Int) ≥ 0 by omega), zmo]
         repeat rw [vokl]
         rw [zn2, Tr.val_call rfl]
         simp only [Int.toNat_natCast, Nat.zero_add]
         unfold zpl
         cases hg : zn1 S.lineS C.p with
         | true =>
          rw [if_pos ⟨h0, rfl⟩, zmo, Tr.val_chk (by omega), Tr.val_chk (by omega)]
          have hmem : S.trailers.getD (S.trailers.length - 1) ([], []) ∈ S.trailers := by
           rw [List.getD_eq_getElem?_getD, List.getElem?_eq_getElem (by omega)]
           exact List.getElem_mem _
          rw [zn3 (by have := (hf.2 _ hmem).2; omega) (by omega), Tr.val_call rfl, Tr.val_chk (by omega), Tr.val_chk (by omega)]
          repeat rw [vokl]
          rw [Tr.val_chk (by simp)]
          rfl
         | false =>
          rw [if_neg (by simp), zmp]
          repeat rw [vokl]
          rw [hp, Tr.val_call rfl]
          generalize zmv S.lineS C.p = q
          obtain ⟨n, v, is, e⟩ := q
          cases is with
          | true =>
           simp only [zl4]
           rw [zmo, Tr.val_chk (by omega), Tr.val_chk (by omega)]
           repeat rw [vokl]
           rw [Tr.val_chk (by simp)]
           rfl
          | false => rfl
     ·have e : (S.stage == 6) = false := by simpa using s6
      rw [e, zmp, if_neg s6]
      rfl
end Pl
end Go.Vx
end
section
set_option maxRecDepth 100000
namespace Go.Vx
namespace Pl
open Go Go.Proofs
abbrev ST := Bs × Bs × Int × Bool × Int × Int × Int × Int × Bool × Bool × Int × Int × Int × Int × Int × Int × Int × Int × Int × Bool × Bool × Int × Int × Int × Bool × Bool × Bool × Bs × Fs × Bs × Fs × List Rec
def PS.tupS (C : Cfg) (S : PS) : ST := (S.method, S.target, S.minor, S.chunked, S.stage, S.lines, S.head, S.need, S.begun, S.waits, C.p, C.line, C.fields, C.head, C.body, C.ext, C.trailers, C.wait, C.idle, C.chunked, C.old, S.err, C.p, S.most, S.pend, S.over, S.bad, S.b, S.fields, S.body, S.trailers, S.out)
def PS.longG (rec : PS -> UInt8 -> Bool -> PS) (C : Cfg) (S : PS) (c:UInt8) : PS :=
 if S.stage = 0 then S.fail 414 else if S.stage = 1 then S.fail 431 else if S.stage = 6 then S.fail 431
 else if S.stage = 5 then (if hasD C.p 29 = true then rec (S.to C 3) c true else S.fail 400) else S.fail 400
def PS.tailG (rec : PS -> UInt8 -> Bool -> PS) (C : Cfg) (S : PS) (c:UInt8) (r : PS × Int) : PS :=
 if r.2 = 1 then r.1.ended C
 else if r.2 = 2 then rec (r.1.ended C) c (if S.stage ≠ 3 ∧ S.stage ≠ 5 then decide (((r.1.ended C).out.length:Int) > (S.out.length:Int)) else true)
 else if r.2 = 4 then r.1.longG rec C c
 else if r.2 = 3 then r.1.fail 400 else r.1
def PS.mark (S : PS) : PS := { S with begun := true, waits := false }
def PS.stepG (rec : PS -> UInt8 -> Bool -> PS) (C : Cfg) (S : PS) (c:UInt8) (counts:Bool) : PS :=
 if S.err ≠ 0 then S
 else if S.stage = 2 ∨ S.stage = 4 then S.bodyB C c
 else if counts = true then
  (if (S.mark.counted C).2 = false then (S.mark.counted C).1 else (S.mark.counted C).1.tailG rec C c ((S.mark.counted C).1.lineB C c))
 else S.mark.tailG rec C c (S.mark.lineB C c)
def PS.step1 (C : Cfg) (S : PS) (c:UInt8) (counts:Bool) : PS := PS.stepG (fun S _ _ => S) C S c counts
def PS.step (C : Cfg) (S : PS) (c:UInt8) (counts:Bool) : PS := PS.stepG (PS.step1 C) C S c counts
theorem zq2 (C : Cfg) (S : PS) (c:UInt8) : (S.lineB C c).1.lines = S.lines := by
 unfold PS.lineB
 repeat' split
 all_goals rfl
theorem zq3 (C : Cfg) (S : PS) (c:UInt8) : (S.lineB C c).1.head = S.head := by
 unfold PS.lineB
 repeat' split
 all_goals rfl
theorem zq4 (C : Cfg) (S : PS) (c:UInt8) : (S.lineB C c).1.need = S.need := by
 unfold PS.lineB
 repeat' split
 all_goals rfl
theorem zq5 (C : Cfg) (S : PS) (c:UInt8) : (S.lineB C c).1.most = S.most := by
 unfold PS.lineB
 repeat' split
 all_goals rfl
theorem zq6 (C : Cfg) (S : PS) (c:UInt8) : (S.lineB C c).1.fields = S.fields := by
 unfold PS.lineB
 repeat' split
 all_goals rfl
theorem zq7 (C : Cfg) (S : PS) (c:UInt8) : (S.lineB C c).1.body = S.body := by
 unfold PS.lineB
 repeat' split
 all_goals rfl
theorem zq8 (C : Cfg) (S : PS) (c:UInt8) : (S.lineB C c).1.trailers = S.trailers := by
 unfold PS.lineB
 repeat' split
 all_goals rfl
theorem zq9 (C : Cfg) (S : PS) (c:UInt8) : (S.lineB C c).1.out = S.out := by
 unfold PS.lineB
 repeat' split
 all_goals rfl
theorem zqa (C : Cfg) (S : PS) : (S.counted C).1.stage = S.stage := by
 unfold PS.counted
 repeat' split
 all_goals rfl
theorem zqb (C : Cfg) (S : PS) : (S.counted C).1.lines = S.lines := by
 unfold PS.counted
 repeat' split
 all_goals rfl
theorem zqc (C : Cfg) (S : PS) : (S.counted C).1.need = S.need := by
 unfold PS.counted
 repeat' split
 all_goals rfl
theorem zqd (C : Cfg) (S : PS) : (S.counted C).1.most = S.most := by
 unfold PS.counted
 repeat' split
 all_goals rfl
theorem zqe (C : Cfg) (S : PS) : (S.counted C).1.fields = S.fields := by
 unfold PS.counted
 repeat' split
 all_goals rfl
theorem zqf (C : Cfg) (S : PS) : (S.counted C).1.body = S.body := by
 unfold PS.counted
 repeat' split
 all_goals rfl
theorem zqg (C : Cfg) (S : PS) : (S.counted C).1.trailers = S.trailers := by
 unfold PS.counted
 repeat' split
 all_goals rfl
theorem zqh (C : Cfg) (S : PS) : (S.counted C).1.out = S.out := by
 unfold PS.counted
 repeat' split
 all_goals rfl
theorem zqi (C : Cfg) (S : PS) : (S.counted C).1.b = S.b := by
 unfold PS.counted
 repeat' split
 all_goals rfl
theorem zqj {C : Cfg} {S : PS} (h : Small C S) (c:UInt8) : Small C (S.lineB C c).1 where
 cbody := h.cbody
 b := by
  have hb := h.b
  have hm := h.most
  unfold PS.lineB
  repeat' split
  all_goals (first | exact hb | (simp; omega) | skip)
  all_goals (simp only [List.length_append, List.length_cons, List.length_nil] at *; omega)
 most := by rw [zq5]; exact h.most
 lines := by rw [zq2]; exact h.lines
 head := by rw [zq3]; exact h.head
 need := by rw [zq4]; exact h.need
 fields := by rw [zq6]; exact h.fields
 trailers := by rw [zq8]; exact h.trailers
 body := by rw [zq7]; exact h.body
 out := by rw [zq9]; exact h.out
theorem zqk {C : Cfg} {S : PS} (h : Small C S) (hh : S.head <= 999999999) : Small C (S.counted C).1 where
 cbody := h.cbody
 b := by rw [zqi]; exact h.b
 most := by rw [zqd]; exact h.most
 lines := by rw [zqb]; exact h.lines
 head := by
  have h0 := h.head
  unfold PS.counted
  repeat' split
  all_goals (simp only; omega)
 need := by rw [zqc]; exact h.need
 fields := by rw [zqe]; exact h.fields
 trailers := by rw [zqg]; exact h.trailers
 body := by rw [zqf]; exact h.body
 out := by rw [zqh]; exact h.out
theorem zql {C : Cfg} {S : PS} (h : Small C S) : Small C S.mark := ⟨h.cbody, h.b, h.most, h.lines, h.head, h.need, h.fields, h.trailers, h.body, h.out⟩
def zqm (C : Cfg) : Prop := ∀ s : Bs, s.length <= 4096 -> zpu C s
end Pl
end Go.Vx
end
section
set_option maxRecDepth 100000
namespace Go.Vx
namespace Pl
open Go Go.Proofs
theorem zqn (C : Cfg) (S : PS) (c:UInt8) : ∃ pe ov ba bb k, S.lineB C c = ({ S with pend := pe, over := ov, bad := ba, b := bb }, k) := by
 refine ⟨(S.lineB C c).1.pend, (S.lineB C c).1.over, (S.lineB C c).1.bad, (S.lineB C c).1.b, (S.lineB C c).2, ?_⟩
 unfold PS.lineB
 repeat' split
 all_goals rfl
theorem zqo (C : Cfg) (S : PS) : ∃ h e k, S.counted C = ({ S with head := h, err := e }, k) := by
 refine ⟨(S.counted C).1.head, (S.counted C).1.err, (S.counted C).2, ?_⟩
 unfold PS.counted
 repeat' split
 all_goals rfl
def zqp (S : PS) : Prop := S.pend = false ∧ ((if S.over = true then ([] : Bs) else S.b).length:Int) < S.most
theorem zqq {C : Cfg} {S : PS} {c : UInt8} (h : zqp S) : (S.lineB C c).2 ≠ 2 ∧ (S.lineB C c).2 ≠ 4 := by
 obtain ⟨h1, h2⟩ := h
 unfold PS.lineB
 rw [h1]
 have h3 : ¬ (((if S.over = true then ([] : Bs) else S.b).length:Int) ≥ S.most) := by omega
 by_cases hb : S.bad = true
 ·rw [if_pos hb]; simp
 ·rw [if_neg hb, if_neg (by simp)]
  by_cases q1 : c = 13
  ·rw [if_pos q1]; simp
  ·rw [if_neg q1]
   by_cases q2 : c = 10
   ·rw [if_pos q2]
    split <;> simp
   ·rw [if_neg q2, if_neg h3]; simp
theorem ifB {α : Type} (a b : Tr α) {x : Bool} {P : Prop} [Decidable P] (h : x = decide P) : (Tr.br x a b).val = if P then a.val else b.val := by
 subst h
 by_cases h : P
 ·rw [decide_eq_true h, zmo, if_pos h]
 ·rw [decide_eq_false h, zmp, if_neg h]
theorem zqr (a b:Int) : (a == b) = decide (a = b) := by by_cases h : a = b <;> simp [h]
theorem zqs (a b:Int) : (a != b) = decide (a ≠ b) := by by_cases h : a = b <;> simp [h]
theorem zqt {C : Cfg} {S : PS} (c:UInt8) (counts:Bool) (h : Small C S) (hh : S.head <= 999999999) (hL : zqm C) (hN : S.err = 0 -> S.stage ≠ 2 -> S.stage ≠ 4 -> zqp S) :
  q54.f S.method S.target S.minor S.chunked S.stage S.lines S.head S.need S.begun S.waits C.p C.line C.fields C.head C.body C.ext C.trailers C.wait C.idle C.chunked C.old S.err C.p S.most S.pend S.over S.bad S.b S.fields S.body S.trailers S.out (c.toNat:Int) counts = some ((S.step1 C c counts).tupS C) := by
 unfold q54.f q54.t PS.step1 PS.stepG
 rw [ifB _ _ (zqs S.err 0)]
 by_cases he : S.err = 0
 ·rw [if_neg (by simp [he]), if_neg (by simp [he]), ifB _ _ (zqr S.stage 2)]
  have hbody := zps (C := C) c h.body h.out h.need.1 h.need.2
  have hbe : (S.bodyB C c).err = S.err := by
   unfold PS.bodyB
   simp only
   repeat' split
   all_goals rfl
  have hbt : some ((S.bodyB C c).tupS C) = some (((S.bodyB C c).method, (S.bodyB C c).target, (S.bodyB C c).minor, (S.bodyB C c).chunked, (S.bodyB C c).stage, (S.bodyB C c).lines, (S.bodyB C c).head, (S.bodyB C c).need, (S.bodyB C c).begun, (S.bodyB C c).waits, C.p, C.line, C.fields, C.head, C.body, C.ext, C.trailers, C.wait, C.idle, C.chunked, C.old, S.err, C.p, (S.bodyB C c).most, (S.bodyB C c).pend, (S.bodyB C c).over, (S.bodyB C c).bad, (S.bodyB C c).b, (S.bodyB C c).fields, (S.bodyB C c).body, (S.bodyB C c).trailers, (S.bodyB C c).out) : ST) := by
   unfold PS.tupS
   rw [hbe]
  by_cases s2 : S.stage = 2
  ·rw [if_pos s2, if_pos (.inl s2), hbt]
   repeat rw [vokl]
   rw [hbody, Tr.val_call rfl]
   rfl
  ·rw [if_neg s2, ifB _ _ (zqr S.stage 4)]
   by_cases s4 : S.stage = 4
   ·rw [if_pos s4, if_pos (.inr s4), hbt]
    repeat rw [vokl]
    rw [hbody, Tr.val_call rfl]
    rfl
   ·rw [if_neg s4, if_neg (not_or.2 ⟨s2, s4⟩)]
    obtain ⟨hn1, hn2⟩ := hN he s2 s4
    cases counts with
    | true =>
     rw [zmo, if_pos rfl]
     repeat rw [vokl]
     rw [zpt h.head.1 (by omega), Tr.val_call rfl]
     have hcm : (S.mark.counted C).1.head = (S.counted C).1.head ∧ (S.mark.counted C).1.err = (S.counted C).1.err ∧ (S.mark.counted C).2 = (S.counted C).2 := by
      unfold PS.counted PS.mark
      simp only
      repeat' split
      all_goals exact ⟨rfl, rfl, rfl⟩
     obtain ⟨hd, er, k, hc⟩ := zqo C S.mark
     have hsm : Small C (S.mark.counted C).1 := zqk (zql h) hh
     rw [← hcm.1, ← hcm.2.1, ← hcm.2.2]
     rw [hc] at hsm ⊢
     simp only at hsm ⊢
     cases k with
     | false => rfl
     | true =>
      rw [show (!true) = false from rfl, zmp, if_neg (by simp)]
      have hnr : zqp ({ S.mark with head := hd, err := er } : PS) := ⟨hn1, hn2⟩
      repeat rw [vokl]
      have hB := zpq (C := C) (S := ({ S.mark with head := hd, err := er } : PS)) c hsm.most
      have hE := zq1 (C := C) (S := (({ S.mark with head := hd, err := er } : PS).lineB C c).1) (zqj hsm c) (fun _ => hL _ (Nat.le_trans zpy (zqj hsm c).b))
      obtain ⟨k2, k4⟩ := zqq (C := C) (c := c) hnr
      obtain ⟨pe, ov, ba, bb, k, hr⟩ := zqn C ({ S.mark with head := hd, err := er } : PS) c
      rw [hr] at hB hE k2 k4 ⊢
      simp only at hB hE k2 k4
      rw [show q27.f C.p S.most S.pend S.over S.bad S.b (c.toNat:Int) = _ from hB, Tr.val_call rfl]
      unfold PS.tailG
      simp only
      rw [ifB _ _ (zqr k 1)]
      by_cases e1 : k = 1
      ·rw [if_pos e1, if_pos e1]
       repeat rw [vokl]
       rw [show q4g.f S.method S.target S.minor S.chunked S.stage S.lines hd S.need true false C.p C.line C.fields C.body C.ext C.trailers C.chunked C.old er C.p S.most pe ov ba bb S.fields S.body S.trailers S.out = _ from hE, Tr.val_call rfl]
       rfl
      ·rw [if_neg e1, if_neg e1, ifB _ _ (zqr k 2), if_neg k2, if_neg k2, ifB _ _ (zqr k 4), if_neg k4, if_neg k4, ifB _ _ (zqr k 3)]
       by_cases e3 : k = 3
       ·rw [if_pos e3, if_pos e3]; rfl
       ·rw [if_neg e3, if_neg e3]; rfl
    | false =>
     rw [zmp, if_neg (by simp)]
     have hsm := zql h
     have hnr : zqp S.mark := ⟨hn1, hn2⟩
     repeat rw [vokl]
     have hB := zpq (C := C) (S := S.mark) c hsm.most
     have hE := zq1 (C := C) (S := (S.mark.lineB C c).1) (zqj hsm c) (fun _ => hL _ (Nat.le_trans zpy (zqj hsm c).b))
     obtain ⟨k2, k4⟩ := zqq (C := C) (c := c) hnr
     obtain ⟨pe, ov, ba, bb, k, hr⟩ := zqn C S.mark c
     rw [hr] at hB hE k2 k4 ⊢
     simp only at hB hE k2 k4
     rw [show q27.f C.p S.most S.pend S.over S.bad S.b (c.toNat:Int) = _ from hB, Tr.val_call rfl]
     unfold PS.tailG
     simp only
     rw [ifB _ _ (zqr k 1)]
     by_cases e1 : k = 1
     ·rw [if_pos e1, if_pos e1]
      repeat rw [vokl]
      rw [show q4g.f S.method S.target S.minor S.chunked S.stage S.lines S.head S.need true false C.p C.line C.fields C.body C.ext C.trailers C.chunked C.old S.err C.p S.most pe ov ba bb S.fields S.body S.trailers S.out = _ from hE, Tr.val_call rfl]
      rfl
     ·rw [if_neg e1, if_neg e1, ifB _ _ (zqr k 2), if_neg k2, if_neg k2, ifB _ _ (zqr k 4), if_neg k4, if_neg k4, ifB _ _ (zqr k 3)]
      by_cases e3 : k = 3
      ·rw [if_pos e3, if_pos e3]; rfl
      ·rw [if_neg e3, if_neg e3]; rfl
 ·rw [if_pos he, if_pos he]; rfl
end Pl
end Go.Vx
end
