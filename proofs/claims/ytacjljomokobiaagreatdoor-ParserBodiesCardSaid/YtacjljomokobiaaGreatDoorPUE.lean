/- Printed by a program of ours out of our texts: the evaluator, the printed functions, the plain laws. (A help: no statement of the seat is proved here.) -/
import Derived.Test.YtacjljomokobiaaGreatDoorPUD
import Derived.Lib.Bytealg
section
set_option maxRecDepth 1000000
set_option linter.unusedVariables false
namespace Go.Vx
open Go Go.Vx Go.Proofs
namespace q84
def D : Dom := ⟨[], .nil⟩
def A : Dom := ⟨[], (.agg (.cat (.int .i64) (.cat (.int .i64) (.cat (.int .i64) (.cat (.int .i64) (.cat (.int .i64) (.cat (.int .i64) (.cat (.int .i64) (.cat (.int .i64) (.cat .bool .bool))))))))))⟩
def t  : Tr (Int × Int × Int × Int × Int × Int × Int × Int × Bool × Bool) :=
 .ret ((1024 : Int), 32, 8192, 65536, 32, 8, 4, 20, true, true)
def f  : Option (Int × Int × Int × Int × Int × Int × Int × Int × Bool × Bool) := (t ).val
def F (x : D.den) : Option (Int × Int × Int × Int × Int × Int × Int × Int × Bool × Bool) := f
def pa : D.den → (Int × Int × Int × Int × Int × Int × Int × Int × Bool × Bool) → A.den := fun (_, _) (y1, y2, y3, y4, y5, y6, y7, y8, y9, y10) => ((), (y1, (y2, (y3, (y4, (y5, (y6, (y7, (y8, (y9, y10))))))))))
def con : Con := tcon D A pa F
theorem ok : ConOk Tryz.prog 34 con := tcon_ok Base.mixed Base.prog_ok q3u (by kernel_rfl) LapsOk.nil 9 (fun _ => rfl) (fun x => t ) (fun _ => rfl) fun _ _ _ => (by kernel_rfl)
end q84
def q85 : Book := q3t.add 34 q84.con
theorem q86 : BookOk Tryz.prog q85 := q3u.add q84.ok
namespace q21
def D : Dom := ⟨[], .nil⟩
def A : Dom := ⟨[], .bool⟩
def t  : Tr (Bool) :=
 .call (q84.f) fun (y1a, y1b, y1c, y1d, y1e, y1f, y1g, y1h, y1i, y1j) =>
 .call (q3p.f (0 : Int) y1a y1b y1c y1d y1e y1f y1g y1h) fun (y2a, y2b, y2c, y2d, y2e, y2f, y2g, y2h, y2i, y2j, y2k, y2l, y2m, y2n, y2o, y2p, y2q, y2r, y2s, y2t) =>
 .chk ((77 : Nat) ≤ (77 : Nat)) <| .okl y2p.length <| .okl y2q.length <| .okl y2r.length <| .okl y2s.length <| .okl y2t.length <| .chk ((1 : Nat) ≤ (1 : Nat)) <| .call (q3y.f y2a y2b y2c y2d y2e y2f y2g y2h y2i y2j (0 : Int) y1a y1b y1c y1d y1e y1f y1g y1h y1i y1j y2k (0 : Int) y2l y2m y2n y2o y2p y2q y2r y2s (List.take (1 : Nat) (List.drop (0 : Nat) [List.take (77 : Nat) (List.drop (0 : Nat) [(80 : UInt8), 79, 83, 84, 32, 47, 97, 32, 72, 84, 84, 80, 47, 49, 46, 49, 13, 10, 72, 111, 115, 116, 58, 32, 104, 13, 10, 84, 114, 97, 110, 115, 102, 101, 114, 45, 69, 110, 99, 111, 100, 105, 110, 103, 58, 32, 99, 104, 117, 110, 107, 101, 100, 13, 10, 13, 10, 51, 13, 10, 97, 98, 99, 13, 10, 48, 13, 10, 84, 58, 32, 117, 13, 10, 13, 10, 71])]))) fun (_, _, _, _, _, _, _, _, y3i, _, _, _, _, _, _, _, _, _, _, _, _, y3v, y3w, _, _, _, _, _, y3ac, y3ad, y3ae, y3af) =>
 .okl y3ac.length <| .okl y3ad.length <| .okl y3ae.length <| .okl y3af.length <| .okl y3w.length <| .call (q3v.f y3ac y3ad y3ae y3af y3w) fun _ =>
 .okl y3ac.length <| .okl y3ad.length <| .okl y3ae.length <| .okl y3af.length <| .okl y3w.length <| .call (q3s.f y3i y3v y3ac y3ad y3ae y3af y3w) fun y5 =>
 .call (q3p.f (0 : Int) y1a y1b y1c y1d y1e y1f y1g y1h) fun (y6a, y6b, y6c, y6d, y6e, y6f, y6g, y6h, y6i, y6j, y6k, y6l, y6m, y6n, y6o, y6p, y6q, y6r, y6s, y6t) =>
 .chk ((15 : Nat) ≤ (15 : Nat)) <| .okl y6p.length <| .okl y6q.length <| .okl y6r.length <| .okl y6s.length <| .okl y6t.length <| .chk ((1 : Nat) ≤ (1 : Nat)) <| .call (q3y.f y6a y6b y6c y6d y6e y6f y6g y6h y6i y6j (0 : Int) y1a y1b y1c y1d y1e y1f y1g y1h y1i y1j y6k (0 : Int) y6l y6m y6n y6o y6p y6q y6r y6s (List.take (1 : Nat) (List.drop (0 : Nat) [List.take (15 : Nat) (List.drop (0 : Nat) [(71 : UInt8), 69, 84, 32, 47, 32, 72, 84, 84, 80, 47, 49, 46, 49, 10])]))) fun (_, _, _, _, _, _, _, _, y7i, _, _, _, _, _, _, _, _, _, _, _, _, y7v, y7w, _, _, _, _, _, y7ac, y7ad, y7ae, y7af) =>
 .okl y7ac.length <| .okl y7ad.length <| .okl y7ae.length <| .okl y7af.length <| .okl y7w.length <| .call (q3v.f y7ac y7ad y7ae y7af y7w) fun _ =>
 .okl y7ac.length <| .okl y7ad.length <| .okl y7ae.length <| .okl y7af.length <| .okl y7w.length <| .call (q3s.f y7i y7v y7ac y7ad y7ae y7af y7w) fun y9 =>
 .call (q3p.f (0 : Int) y1a y1b y1c y1d y1e y1f y1g y1h) fun (y10a, y10b, y10c, y10d, y10e, y10f, y10g, y10h, y10i, y10j, y10k, y10l, y10m, y10n, y10o, y10p, y10q, y10r, y10s, y10t) =>
 .chk ((48 : Nat) ≤ (48 : Nat)) <| .chk ((21 : Nat) ≤ (21 : Nat)) <| .okl y10p.length <| .okl y10q.length <| .okl y10r.length <| .okl y10s.length <| .okl y10t.length <| .chk ((2 : Nat) ≤ (2 : Nat)) <| .call (q3y.f y10a y10b y10c y10d y10e y10f y10g y10h y10i y10j (0 : Int) y1a y1b y1c y1d y1e y1f y1g y1h y1i y1j y10k (0 : Int) y10l y10m y10n y10o y10p y10q y10r y10s (List.take (2 : Nat) (List.drop (0 : Nat) [List.take (48 : Nat) (List.drop (0 : Nat) [(80 : UInt8), 79, 83, 84, 32, 47, 32, 72, 84, 84, 80, 47, 49, 46, 49, 13, 10, 72, 111, 115, 116, 58, 32, 104, 13, 10, 69, 120, 112, 101, 99, 116, 58, 32, 49, 48, 48, 45, 99, 111, 110, 116, 105, 110, 117, 101, 13, 10]), List.take (21 : Nat) (List.drop (0 : Nat) [(67 : UInt8), 111, 110, 116, 101, 110, 116, 45, 76, 101, 110, 103, 116, 104, 58, 32, 50, 13, 10, 13, 10])]))) fun (y11a, y11b, y11c, y11d, y11e, y11f, y11g, y11h, y11i, y11j, y11k, y11l, y11m, y11n, y11o, y11p, y11q, y11r, y11s, y11t, y11u, y11v, y11w, y11x, y11y, y11z, y11aa, y11ab, y11ac, y11ad, y11ae, y11af) =>
 .okl y11ac.length <| .okl y11ad.length <| .okl y11ae.length <| .okl y11af.length <| .okl y11w.length <| .call (q44.f y11j y11v y11ac y11ad y11ae y11af y11w) fun y12 =>
 .okl y11ac.length <| .okl y11ad.length <| .okl y11ae.length <| .okl y11af.length <| .okl y11w.length <| .call (q41.f y11a y11b y11v y11aa y11ac y11ad y11ae y11af y11w) fun y13 =>
 .chk ((2 : Nat) ≤ (2 : Nat)) <| .okl y11ac.length <| .okl y11ad.length <| .okl y11ae.length <| .okl y11af.length <| .okl y11w.length <| .chk ((1 : Nat) ≤ (1 : Nat)) <| .call (q3y.f y11a y11b y11c y11d y11e y11f y11g y11h y11i y11j y11k y11l y11m y11n y11o y11p y11q y11r y11s y11t y11u y11v y11x y11y y11z y11aa y11ab y11ac y11ad y11ae y11af (List.take (1 : Nat) (List.drop (0 : Nat) [List.take (2 : Nat) (List.drop (0 : Nat) [(97 : UInt8), 98])]))) fun (y14a, y14b, _, _, _, _, _, _, y14i, _, _, _, _, _, _, _, _, _, _, _, _, y14v, y14w, _, _, _, y14aa, _, y14ac, y14ad, y14ae, y14af) =>
 .br (y3v == (0 : Int)) (.br (!y5) (.br ((↑y3w.length : Int) == (1 : Int)) (.chk ((0 : Int) ≤ (0 : Int) ∧ (0 : Int) < (↑y3w.length : Int)) <| .chk ((0 : Nat) < y3w.length) <| .br ((y3w.getD (0 : Nat) ([], [], 0, [], false, [], [])).snd.snd.snd.snd.snd.fst == [(97 : UInt8), 98, 99]) (.chk ((0 : Int) ≤ (0 : Int) ∧ (0 : Int) < (↑y3w.length : Int)) <| .chk ((0 : Nat) < y3w.length) <| .br ((↑(List.length (y3w.getD (0 : Nat) ([], [], 0, [], false, [], [])).snd.snd.snd.snd.snd.snd) : Int) == (1 : Int)) (.chk ((0 : Int) ≤ (0 : Int) ∧ (0 : Int) < (↑y3w.length : Int)) <| .chk ((0 : Nat) < y3w.length) <| .br ((y3w.getD (0 : Nat) ([], [], 0, [], false, [], [])).snd.snd.snd.snd.fst) (.br (y7v == (400 : Int)) (.br (!y9) (.br y12 (.br (y13 == (43 : Int)) (.br ((↑y14w.length : Int) == (1 : Int)) (.okl y14ac.length <| .okl y14ad.length <| .okl y14ae.length <| .okl y14af.length <| .okl y14w.length <| .call (q3s.f y14i y14v y14ac y14ad y14ae y14af y14w) fun y15 =>
       .br y15 (.okl y14ac.length <| .okl y14ad.length <| .okl y14ae.length <| .okl y14af.length <| .okl y14w.length <| .call (q3v.f y14ac y14ad y14ae y14af y14w) fun _ =>
       .br (y14v == (0 : Int)) (.okl y14ac.length <| .okl y14ad.length <| .okl y14ae.length <| .okl y14af.length <| .okl y14w.length <| .call (q41.f y14a y14b y14v y14aa y14ac y14ad y14ae y14af y14w) fun y17 =>
        .ret (y17 == (0 : Int)))
       (.ret false))
       (.ret false))
      (.ret false))
      (.ret false))
     (.ret false))
     (.ret false))
    (.ret false))
    (.ret false))
   (.ret false))
   (.ret false))
  (.ret false))
  (.ret false))
 (.ret false)
def f  : Option (Bool) := (t ).val
def F (x : D.den) : Option (Bool) := f
def pa : D.den → (Bool) → A.den := fun (_, _) y1 => ((), y1)
def con : Con := tcon D A pa F
theorem ok : ConOk Tryz.prog 15 con := tcon_ok Base.mixed Base.prog_ok q86 (by kernel_rfl) LapsOk.nil 9 (fun _ => rfl) (fun x => t ) (fun _ => rfl) fun _ _ _ => (by kernel_rfl)
end q21
def q22 : Book := q85.add 15 q21.con
theorem q23 : BookOk Tryz.prog q22 := q86.add q21.ok
namespace q6a
def D : Dom := ⟨[], (.cat (.int .i64) (.int .i64))⟩
def A : Dom := ⟨[], .str⟩
def f : Option (Ls) := none
def F (x : D.den) : Option (Ls) := f
def pa : D.den → (Ls) → A.den := fun _ y1 => ((), y1)
def con : Con := tcon D A pa F
theorem ok : ConOk Tryz.prog 54 con := fun x h => absurd rfl h
end q6a
def q6b : Book := q22.add 54 q6a.con
theorem q6c : BookOk Tryz.prog q6b := q23.add q6a.ok
namespace q6d
def D : Dom := ⟨[], (.cat (.int .i64) (.int .i64))⟩
def A : Dom := ⟨[], .str⟩
def t (n : Int) (base : Int) : Tr (Ls) :=
 .br (decide (n < base)) (.chk ((0 : Int) ≤ mx2 n (0 : Int) ∧ mx2 n (0 : Int) ≤ IntKind.i64.wrap (mx2 n (0 : Int) + (1 : Int)) ∧ IntKind.i64.wrap (mx2 n (0 : Int) + (1 : Int)) ≤ (16 : Int)) <| .ret (List.drop (mx2 n (0 : Int)).toNat (List.take (IntKind.i64.wrap (mx2 n (0 : Int) + (1 : Int))).toNat [(48 : UInt8), 49, 50, 51, 52, 53, 54, 55, 56, 57, 97, 98, 99, 100, 101, 102])))
 (.chk (base ≠ (0 : Int)) <| .call (q6a.f) fun y1 =>
  .chk (base ≠ (0 : Int)) <| .call (q6a.f) fun y2 =>
  .chk ((↑(y1.length + y2.length) : Int) ≤ (9223372036854775807 : Int)) <| .ret (y1 ++ y2))
def f (n : Int) (base : Int) : Option (Ls) := (t n base).val
def F (x : D.den) : Option (Ls) := f x.2.1 x.2.2
def pa : D.den → (Ls) → A.den := fun (_, (_, _)) y1 => ((), y1)
def con : Con := tcon D A pa F
theorem ok : ConOk Tryz.prog 54 con := tcon_ok Base.mixed Base.prog_ok q6c (by kernel_rfl) LapsOk.nil 9 (fun _ => rfl) (fun x => t x.2.1 x.2.2) (fun _ => rfl) fun _ _ _ => (by kernel_rfl)
end q6d
def q6e : Book := q6b.add 54 q6d.con
theorem q6f : BookOk Tryz.prog q6e := q6c.add q6d.ok
namespace q7a
def D : Dom := ⟨[], (.cat (.int .i64) (.int .i64))⟩
def A : Dom := ⟨[], .str⟩
def t (n : Int) (base : Int) : Tr (Ls) :=
 .br (decide (n < base)) (.chk ((0 : Int) ≤ mx2 n (0 : Int) ∧ mx2 n (0 : Int) ≤ IntKind.i64.wrap (mx2 n (0 : Int) + (1 : Int)) ∧ IntKind.i64.wrap (mx2 n (0 : Int) + (1 : Int)) ≤ (16 : Int)) <| .ret (List.drop (mx2 n (0 : Int)).toNat (List.take (IntKind.i64.wrap (mx2 n (0 : Int) + (1 : Int))).toNat [(48 : UInt8), 49, 50, 51, 52, 53, 54, 55, 56, 57, 97, 98, 99, 100, 101, 102])))
 (.chk (base ≠ (0 : Int)) <| .call (q6d.f (IntKind.i64.wrap (n.tdiv base)) base) fun y1 =>
  .chk (base ≠ (0 : Int)) <| .call (q6d.f (n.tmod base) base) fun y2 =>
  .chk ((↑(y1.length + y2.length) : Int) ≤ (9223372036854775807 : Int)) <| .ret (y1 ++ y2))
def f (n : Int) (base : Int) : Option (Ls) := (t n base).val
def F (x : D.den) : Option (Ls) := f x.2.1 x.2.2
def pa : D.den → (Ls) → A.den := fun (_, (_, _)) y1 => ((), y1)
def con : Con := tcon D A pa F
theorem ok : ConOk Tryz.prog 54 con := tcon_ok Base.mixed Base.prog_ok q6f (by kernel_rfl) LapsOk.nil 9 (fun _ => rfl) (fun x => t x.2.1 x.2.2) (fun _ => rfl) fun _ _ _ => (by kernel_rfl)
end q7a
def q7b : Book := q6e.add 54 q7a.con
theorem q7c : BookOk Tryz.prog q7b := q6f.add q7a.ok
namespace q7j
def D : Dom := ⟨[], (.cat (.int .i64) (.int .i64))⟩
def A : Dom := ⟨[], .str⟩
def t (n : Int) (base : Int) : Tr (Ls) :=
 .br (decide (n < base)) (.chk ((0 : Int) ≤ mx2 n (0 : Int) ∧ mx2 n (0 : Int) ≤ IntKind.i64.wrap (mx2 n (0 : Int) + (1 : Int)) ∧ IntKind.i64.wrap (mx2 n (0 : Int) + (1 : Int)) ≤ (16 : Int)) <| .ret (List.drop (mx2 n (0 : Int)).toNat (List.take (IntKind.i64.wrap (mx2 n (0 : Int) + (1 : Int))).toNat [(48 : UInt8), 49, 50, 51, 52, 53, 54, 55, 56, 57, 97, 98, 99, 100, 101, 102])))
 (.chk (base ≠ (0 : Int)) <| .call (q7a.f (IntKind.i64.wrap (n.tdiv base)) base) fun y1 =>
  .chk (base ≠ (0 : Int)) <| .call (q7a.f (n.tmod base) base) fun y2 =>
  .chk ((↑(y1.length + y2.length) : Int) ≤ (9223372036854775807 : Int)) <| .ret (y1 ++ y2))
def f (n : Int) (base : Int) : Option (Ls) := (t n base).val
def F (x : D.den) : Option (Ls) := f x.2.1 x.2.2
def pa : D.den → (Ls) → A.den := fun (_, (_, _)) y1 => ((), y1)
def con : Con := tcon D A pa F
theorem ok : ConOk Tryz.prog 54 con := tcon_ok Base.mixed Base.prog_ok q7c (by kernel_rfl) LapsOk.nil 9 (fun _ => rfl) (fun x => t x.2.1 x.2.2) (fun _ => rfl) fun _ _ _ => (by kernel_rfl)
end q7j
def q7k : Book := q7b.add 54 q7j.con
theorem q7l : BookOk Tryz.prog q7k := q7c.add q7j.ok
namespace q7m
def D : Dom := ⟨[], (.cat (.int .i64) (.int .i64))⟩
def A : Dom := ⟨[], .str⟩
def t (n : Int) (base : Int) : Tr (Ls) :=
 .br (decide (n < base)) (.chk ((0 : Int) ≤ mx2 n (0 : Int) ∧ mx2 n (0 : Int) ≤ IntKind.i64.wrap (mx2 n (0 : Int) + (1 : Int)) ∧ IntKind.i64.wrap (mx2 n (0 : Int) + (1 : Int)) ≤ (16 : Int)) <| .ret (List.drop (mx2 n (0 : Int)).toNat (List.take (IntKind.i64.wrap (mx2 n (0 : Int) + (1 : Int))).toNat [(48 : UInt8), 49, 50, 51, 52, 53, 54, 55, 56, 57, 97, 98, 99, 100, 101, 102])))
 (.chk (base ≠ (0 : Int)) <| .call (q7j.f (IntKind.i64.wrap (n.tdiv base)) base) fun y1 =>
  .chk (base ≠ (0 : Int)) <| .call (q7j.f (n.tmod base) base) fun y2 =>
  .chk ((↑(y1.length + y2.length) : Int) ≤ (9223372036854775807 : Int)) <| .ret (y1 ++ y2))
def f (n : Int) (base : Int) : Option (Ls) := (t n base).val
def F (x : D.den) : Option (Ls) := f x.2.1 x.2.2
def pa : D.den → (Ls) → A.den := fun (_, (_, _)) y1 => ((), y1)
def con : Con := tcon D A pa F
theorem ok : ConOk Tryz.prog 54 con := tcon_ok Base.mixed Base.prog_ok q7l (by kernel_rfl) LapsOk.nil 9 (fun _ => rfl) (fun x => t x.2.1 x.2.2) (fun _ => rfl) fun _ _ _ => (by kernel_rfl)
end q7m
def q7n : Book := q7k.add 54 q7m.con
theorem q7o : BookOk Tryz.prog q7n := q7l.add q7m.ok
namespace q7p
def D : Dom := ⟨[], (.cat (.int .i64) (.int .i64))⟩
def A : Dom := ⟨[], .str⟩
def t (n : Int) (base : Int) : Tr (Ls) :=
 .br (decide (n < base)) (.chk ((0 : Int) ≤ mx2 n (0 : Int) ∧ mx2 n (0 : Int) ≤ IntKind.i64.wrap (mx2 n (0 : Int) + (1 : Int)) ∧ IntKind.i64.wrap (mx2 n (0 : Int) + (1 : Int)) ≤ (16 : Int)) <| .ret (List.drop (mx2 n (0 : Int)).toNat (List.take (IntKind.i64.wrap (mx2 n (0 : Int) + (1 : Int))).toNat [(48 : UInt8), 49, 50, 51, 52, 53, 54, 55, 56, 57, 97, 98, 99, 100, 101, 102])))
 (.chk (base ≠ (0 : Int)) <| .call (q7m.f (IntKind.i64.wrap (n.tdiv base)) base) fun y1 =>
  .chk (base ≠ (0 : Int)) <| .call (q7m.f (n.tmod base) base) fun y2 =>
  .chk ((↑(y1.length + y2.length) : Int) ≤ (9223372036854775807 : Int)) <| .ret (y1 ++ y2))
def f (n : Int) (base : Int) : Option (Ls) := (t n base).val
def F (x : D.den) : Option (Ls) := f x.2.1 x.2.2
def pa : D.den → (Ls) → A.den := fun (_, (_, _)) y1 => ((), y1)
def con : Con := tcon D A pa F
theorem ok : ConOk Tryz.prog 54 con := tcon_ok Base.mixed Base.prog_ok q7o (by kernel_rfl) LapsOk.nil 9 (fun _ => rfl) (fun x => t x.2.1 x.2.2) (fun _ => rfl) fun _ _ _ => (by kernel_rfl)
end q7p
def q7q : Book := q7n.add 54 q7p.con
theorem q7r : BookOk Tryz.prog q7q := q7o.add q7p.ok
namespace q7s
def D : Dom := ⟨[], (.cat (.int .i64) (.int .i64))⟩
def A : Dom := ⟨[], .str⟩
def t (n : Int) (base : Int) : Tr (Ls) :=
 .br (decide (n < base)) (.chk ((0 : Int) ≤ mx2 n (0 : Int) ∧ mx2 n (0 : Int) ≤ IntKind.i64.wrap (mx2 n (0 : Int) + (1 : Int)) ∧ IntKind.i64.wrap (mx2 n (0 : Int) + (1 : Int)) ≤ (16 : Int)) <| .ret (List.drop (mx2 n (0 : Int)).toNat (List.take (IntKind.i64.wrap (mx2 n (0 : Int) + (1 : Int))).toNat [(48 : UInt8), 49, 50, 51, 52, 53, 54, 55, 56, 57, 97, 98, 99, 100, 101, 102])))
 (.chk (base ≠ (0 : Int)) <| .call (q7p.f (IntKind.i64.wrap (n.tdiv base)) base) fun y1 =>
  .chk (base ≠ (0 : Int)) <| .call (q7p.f (n.tmod base) base) fun y2 =>
  .chk ((↑(y1.length + y2.length) : Int) ≤ (9223372036854775807 : Int)) <| .ret (y1 ++ y2))
def f (n : Int) (base : Int) : Option (Ls) := (t n base).val
def F (x : D.den) : Option (Ls) := f x.2.1 x.2.2
def pa : D.den → (Ls) → A.den := fun (_, (_, _)) y1 => ((), y1)
def con : Con := tcon D A pa F
theorem ok : ConOk Tryz.prog 54 con := tcon_ok Base.mixed Base.prog_ok q7r (by kernel_rfl) LapsOk.nil 9 (fun _ => rfl) (fun x => t x.2.1 x.2.2) (fun _ => rfl) fun _ _ _ => (by kernel_rfl)
end q7s
def q7t : Book := q7q.add 54 q7s.con
theorem q7u : BookOk Tryz.prog q7t := q7r.add q7s.ok
namespace q7v
def D : Dom := ⟨[], (.cat (.int .i64) (.int .i64))⟩
def A : Dom := ⟨[], .str⟩
def t (n : Int) (base : Int) : Tr (Ls) :=
 .br (decide (n < base)) (.chk ((0 : Int) ≤ mx2 n (0 : Int) ∧ mx2 n (0 : Int) ≤ IntKind.i64.wrap (mx2 n (0 : Int) + (1 : Int)) ∧ IntKind.i64.wrap (mx2 n (0 : Int) + (1 : Int)) ≤ (16 : Int)) <| .ret (List.drop (mx2 n (0 : Int)).toNat (List.take (IntKind.i64.wrap (mx2 n (0 : Int) + (1 : Int))).toNat [(48 : UInt8), 49, 50, 51, 52, 53, 54, 55, 56, 57, 97, 98, 99, 100, 101, 102])))
 (.chk (base ≠ (0 : Int)) <| .call (q7s.f (IntKind.i64.wrap (n.tdiv base)) base) fun y1 =>
  .chk (base ≠ (0 : Int)) <| .call (q7s.f (n.tmod base) base) fun y2 =>
  .chk ((↑(y1.length + y2.length) : Int) ≤ (9223372036854775807 : Int)) <| .ret (y1 ++ y2))
def f (n : Int) (base : Int) : Option (Ls) := (t n base).val
def F (x : D.den) : Option (Ls) := f x.2.1 x.2.2
def pa : D.den → (Ls) → A.den := fun (_, (_, _)) y1 => ((), y1)
def con : Con := tcon D A pa F
theorem ok : ConOk Tryz.prog 54 con := tcon_ok Base.mixed Base.prog_ok q7u (by kernel_rfl) LapsOk.nil 9 (fun _ => rfl) (fun x => t x.2.1 x.2.2) (fun _ => rfl) fun _ _ _ => (by kernel_rfl)
end q7v
def q7w : Book := q7t.add 54 q7v.con
theorem q7x : BookOk Tryz.prog q7w := q7u.add q7v.ok
namespace q7y
def D : Dom := ⟨[], (.cat (.int .i64) (.int .i64))⟩
def A : Dom := ⟨[], .str⟩
def t (n : Int) (base : Int) : Tr (Ls) :=
 .br (decide (n < base)) (.chk ((0 : Int) ≤ mx2 n (0 : Int) ∧ mx2 n (0 : Int) ≤ IntKind.i64.wrap (mx2 n (0 : Int) + (1 : Int)) ∧ IntKind.i64.wrap (mx2 n (0 : Int) + (1 : Int)) ≤ (16 : Int)) <| .ret (List.drop (mx2 n (0 : Int)).toNat (List.take (IntKind.i64.wrap (mx2 n (0 : Int) + (1 : Int))).toNat [(48 : UInt8), 49, 50, 51, 52, 53, 54, 55, 56, 57, 97, 98, 99, 100, 101, 102])))
 (.chk (base ≠ (0 : Int)) <| .call (q7v.f (IntKind.i64.wrap (n.tdiv base)) base) fun y1 =>
  .chk (base ≠ (0 : Int)) <| .call (q7v.f (n.tmod base) base) fun y2 =>
  .chk ((↑(y1.length + y2.length) : Int) ≤ (9223372036854775807 : Int)) <| .ret (y1 ++ y2))
def f (n : Int) (base : Int) : Option (Ls) := (t n base).val
def F (x : D.den) : Option (Ls) := f x.2.1 x.2.2
def pa : D.den → (Ls) → A.den := fun (_, (_, _)) y1 => ((), y1)
def con : Con := tcon D A pa F
theorem ok : ConOk Tryz.prog 54 con := tcon_ok Base.mixed Base.prog_ok q7x (by kernel_rfl) LapsOk.nil 9 (fun _ => rfl) (fun x => t x.2.1 x.2.2) (fun _ => rfl) fun _ _ _ => (by kernel_rfl)
end q7y
def q7z : Book := q7w.add 54 q7y.con
theorem q80 : BookOk Tryz.prog q7z := q7x.add q7y.ok
namespace q81
def D : Dom := ⟨[], (.cat (.int .i64) (.int .i64))⟩
def A : Dom := ⟨[], .str⟩
def t (n : Int) (base : Int) : Tr (Ls) :=
 .br (decide (n < base)) (.chk ((0 : Int) ≤ mx2 n (0 : Int) ∧ mx2 n (0 : Int) ≤ IntKind.i64.wrap (mx2 n (0 : Int) + (1 : Int)) ∧ IntKind.i64.wrap (mx2 n (0 : Int) + (1 : Int)) ≤ (16 : Int)) <| .ret (List.drop (mx2 n (0 : Int)).toNat (List.take (IntKind.i64.wrap (mx2 n (0 : Int) + (1 : Int))).toNat [(48 : UInt8), 49, 50, 51, 52, 53, 54, 55, 56, 57, 97, 98, 99, 100, 101, 102])))
 (.chk (base ≠ (0 : Int)) <| .call (q7y.f (IntKind.i64.wrap (n.tdiv base)) base) fun y1 =>
  .chk (base ≠ (0 : Int)) <| .call (q7y.f (n.tmod base) base) fun y2 =>
  .chk ((↑(y1.length + y2.length) : Int) ≤ (9223372036854775807 : Int)) <| .ret (y1 ++ y2))
def f (n : Int) (base : Int) : Option (Ls) := (t n base).val
def F (x : D.den) : Option (Ls) := f x.2.1 x.2.2
def pa : D.den → (Ls) → A.den := fun (_, (_, _)) y1 => ((), y1)
def con : Con := tcon D A pa F
theorem ok : ConOk Tryz.prog 54 con := tcon_ok Base.mixed Base.prog_ok q80 (by kernel_rfl) LapsOk.nil 9 (fun _ => rfl) (fun x => t x.2.1 x.2.2) (fun _ => rfl) fun _ _ _ => (by kernel_rfl)
end q81
def q82 : Book := q7z.add 54 q81.con
theorem q83 : BookOk Tryz.prog q82 := q80.add q81.ok
namespace q6g
def D : Dom := ⟨[], (.cat (.int .i64) (.int .i64))⟩
def A : Dom := ⟨[], .str⟩
def t (n : Int) (base : Int) : Tr (Ls) :=
 .br (decide (n < base)) (.chk ((0 : Int) ≤ mx2 n (0 : Int) ∧ mx2 n (0 : Int) ≤ IntKind.i64.wrap (mx2 n (0 : Int) + (1 : Int)) ∧ IntKind.i64.wrap (mx2 n (0 : Int) + (1 : Int)) ≤ (16 : Int)) <| .ret (List.drop (mx2 n (0 : Int)).toNat (List.take (IntKind.i64.wrap (mx2 n (0 : Int) + (1 : Int))).toNat [(48 : UInt8), 49, 50, 51, 52, 53, 54, 55, 56, 57, 97, 98, 99, 100, 101, 102])))
 (.chk (base ≠ (0 : Int)) <| .call (q81.f (IntKind.i64.wrap (n.tdiv base)) base) fun y1 =>
  .chk (base ≠ (0 : Int)) <| .call (q81.f (n.tmod base) base) fun y2 =>
  .chk ((↑(y1.length + y2.length) : Int) ≤ (9223372036854775807 : Int)) <| .ret (y1 ++ y2))
def f (n : Int) (base : Int) : Option (Ls) := (t n base).val
def F (x : D.den) : Option (Ls) := f x.2.1 x.2.2
def pa : D.den → (Ls) → A.den := fun (_, (_, _)) y1 => ((), y1)
def con : Con := tcon D A pa F
theorem ok : ConOk Tryz.prog 54 con := tcon_ok Base.mixed Base.prog_ok q83 (by kernel_rfl) LapsOk.nil 9 (fun _ => rfl) (fun x => t x.2.1 x.2.2) (fun _ => rfl) fun _ _ _ => (by kernel_rfl)
end q6g
def q6h : Book := q82.add 54 q6g.con
theorem q6i : BookOk Tryz.prog q6h := q83.add q6g.ok
namespace q6j
def D : Dom := ⟨[], (.cat (.int .i64) (.int .i64))⟩
def A : Dom := ⟨[], .str⟩
def t (n : Int) (base : Int) : Tr (Ls) :=
 .br (decide (n < base)) (.chk ((0 : Int) ≤ mx2 n (0 : Int) ∧ mx2 n (0 : Int) ≤ IntKind.i64.wrap (mx2 n (0 : Int) + (1 : Int)) ∧ IntKind.i64.wrap (mx2 n (0 : Int) + (1 : Int)) ≤ (16 : Int)) <| .ret (List.drop (mx2 n (0 : Int)).toNat (List.take (IntKind.i64.wrap (mx2 n (0 : Int) + (1 : Int))).toNat [(48 : UInt8), 49, 50, 51, 52, 53, 54, 55, 56, 57, 97, 98, 99, 100, 101, 102])))
 (.chk (base ≠ (0 : Int)) <| .call (q6g.f (IntKind.i64.wrap (n.tdiv base)) base) fun y1 =>
  .chk (base ≠ (0 : Int)) <| .call (q6g.f (n.tmod base) base) fun y2 =>
  .chk ((↑(y1.length + y2.length) : Int) ≤ (9223372036854775807 : Int)) <| .ret (y1 ++ y2))
def f (n : Int) (base : Int) : Option (Ls) := (t n base).val
def F (x : D.den) : Option (Ls) := f x.2.1 x.2.2
def pa : D.den → (Ls) → A.den := fun (_, (_, _)) y1 => ((), y1)
def con : Con := tcon D A pa F
theorem ok : ConOk Tryz.prog 54 con := tcon_ok Base.mixed Base.prog_ok q6i (by kernel_rfl) LapsOk.nil 9 (fun _ => rfl) (fun x => t x.2.1 x.2.2) (fun _ => rfl) fun _ _ _ => (by kernel_rfl)
end q6j
def q6k : Book := q6h.add 54 q6j.con
theorem q6l : BookOk Tryz.prog q6k := q6i.add q6j.ok
namespace q6m
def D : Dom := ⟨[], (.cat (.int .i64) (.int .i64))⟩
def A : Dom := ⟨[], .str⟩
def t (n : Int) (base : Int) : Tr (Ls) :=
 .br (decide (n < base)) (.chk ((0 : Int) ≤ mx2 n (0 : Int) ∧ mx2 n (0 : Int) ≤ IntKind.i64.wrap (mx2 n (0 : Int) + (1 : Int)) ∧ IntKind.i64.wrap (mx2 n (0 : Int) + (1 : Int)) ≤ (16 : Int)) <| .ret (List.drop (mx2 n (0 : Int)).toNat (List.take (IntKind.i64.wrap (mx2 n (0 : Int) + (1 : Int))).toNat [(48 : UInt8), 49, 50, 51, 52, 53, 54, 55, 56, 57, 97, 98, 99, 100, 101, 102])))
 (.chk (base ≠ (0 : Int)) <| .call (q6j.f (IntKind.i64.wrap (n.tdiv base)) base) fun y1 =>
  .chk (base ≠ (0 : Int)) <| .call (q6j.f (n.tmod base) base) fun y2 =>
  .chk ((↑(y1.length + y2.length) : Int) ≤ (9223372036854775807 : Int)) <| .ret (y1 ++ y2))
def f (n : Int) (base : Int) : Option (Ls) := (t n base).val
def F (x : D.den) : Option (Ls) := f x.2.1 x.2.2
def pa : D.den → (Ls) → A.den := fun (_, (_, _)) y1 => ((), y1)
def con : Con := tcon D A pa F
theorem ok : ConOk Tryz.prog 54 con := tcon_ok Base.mixed Base.prog_ok q6l (by kernel_rfl) LapsOk.nil 9 (fun _ => rfl) (fun x => t x.2.1 x.2.2) (fun _ => rfl) fun _ _ _ => (by kernel_rfl)
end q6m
def q6n : Book := q6k.add 54 q6m.con
theorem q6o : BookOk Tryz.prog q6n := q6l.add q6m.ok
namespace q6p
def D : Dom := ⟨[], (.cat (.int .i64) (.int .i64))⟩
def A : Dom := ⟨[], .str⟩
def t (n : Int) (base : Int) : Tr (Ls) :=
 .br (decide (n < base)) (.chk ((0 : Int) ≤ mx2 n (0 : Int) ∧ mx2 n (0 : Int) ≤ IntKind.i64.wrap (mx2 n (0 : Int) + (1 : Int)) ∧ IntKind.i64.wrap (mx2 n (0 : Int) + (1 : Int)) ≤ (16 : Int)) <| .ret (List.drop (mx2 n (0 : Int)).toNat (List.take (IntKind.i64.wrap (mx2 n (0 : Int) + (1 : Int))).toNat [(48 : UInt8), 49, 50, 51, 52, 53, 54, 55, 56, 57, 97, 98, 99, 100, 101, 102])))
 (.chk (base ≠ (0 : Int)) <| .call (q6m.f (IntKind.i64.wrap (n.tdiv base)) base) fun y1 =>
  .chk (base ≠ (0 : Int)) <| .call (q6m.f (n.tmod base) base) fun y2 =>
  .chk ((↑(y1.length + y2.length) : Int) ≤ (9223372036854775807 : Int)) <| .ret (y1 ++ y2))
def f (n : Int) (base : Int) : Option (Ls) := (t n base).val
def F (x : D.den) : Option (Ls) := f x.2.1 x.2.2
def pa : D.den → (Ls) → A.den := fun (_, (_, _)) y1 => ((), y1)
def con : Con := tcon D A pa F
theorem ok : ConOk Tryz.prog 54 con := tcon_ok Base.mixed Base.prog_ok q6o (by kernel_rfl) LapsOk.nil 9 (fun _ => rfl) (fun x => t x.2.1 x.2.2) (fun _ => rfl) fun _ _ _ => (by kernel_rfl)
end q6p
def q6q : Book := q6n.add 54 q6p.con
theorem q6r : BookOk Tryz.prog q6q := q6o.add q6p.ok
namespace q6s
def D : Dom := ⟨[], (.cat (.int .i64) (.int .i64))⟩
def A : Dom := ⟨[], .str⟩
def t (n : Int) (base : Int) : Tr (Ls) :=
 .br (decide (n < base)) (.chk ((0 : Int) ≤ mx2 n (0 : Int) ∧ mx2 n (0 : Int) ≤ IntKind.i64.wrap (mx2 n (0 : Int) + (1 : Int)) ∧ IntKind.i64.wrap (mx2 n (0 : Int) + (1 : Int)) ≤ (16 : Int)) <| .ret (List.drop (mx2 n (0 : Int)).toNat (List.take (IntKind.i64.wrap (mx2 n (0 : Int) + (1 : Int))).toNat [(48 : UInt8), 49, 50, 51, 52, 53, 54, 55, 56, 57, 97, 98, 99, 100, 101, 102])))
 (.chk (base ≠ (0 : Int)) <| .call (q6p.f (IntKind.i64.wrap (n.tdiv base)) base) fun y1 =>
  .chk (base ≠ (0 : Int)) <| .call (q6p.f (n.tmod base) base) fun y2 =>
  .chk ((↑(y1.length + y2.length) : Int) ≤ (9223372036854775807 : Int)) <| .ret (y1 ++ y2))
def f (n : Int) (base : Int) : Option (Ls) := (t n base).val
def F (x : D.den) : Option (Ls) := f x.2.1 x.2.2
def pa : D.den → (Ls) → A.den := fun (_, (_, _)) y1 => ((), y1)
def con : Con := tcon D A pa F
theorem ok : ConOk Tryz.prog 54 con := tcon_ok Base.mixed Base.prog_ok q6r (by kernel_rfl) LapsOk.nil 9 (fun _ => rfl) (fun x => t x.2.1 x.2.2) (fun _ => rfl) fun _ _ _ => (by kernel_rfl)
end q6s
def q6t : Book := q6q.add 54 q6s.con
theorem q6u : BookOk Tryz.prog q6t := q6r.add q6s.ok
namespace q6v
def D : Dom := ⟨[], (.cat (.int .i64) (.int .i64))⟩
def A : Dom := ⟨[], .str⟩
def t (n : Int) (base : Int) : Tr (Ls) :=
 .br (decide (n < base)) (.chk ((0 : Int) ≤ mx2 n (0 : Int) ∧ mx2 n (0 : Int) ≤ IntKind.i64.wrap (mx2 n (0 : Int) + (1 : Int)) ∧ IntKind.i64.wrap (mx2 n (0 : Int) + (1 : Int)) ≤ (16 : Int)) <| .ret (List.drop (mx2 n (0 : Int)).toNat (List.take (IntKind.i64.wrap (mx2 n (0 : Int) + (1 : Int))).toNat [(48 : UInt8), 49, 50, 51, 52, 53, 54, 55, 56, 57, 97, 98, 99, 100, 101, 102])))
 (.chk (base ≠ (0 : Int)) <| .call (q6s.f (IntKind.i64.wrap (n.tdiv base)) base) fun y1 =>
  .chk (base ≠ (0 : Int)) <| .call (q6s.f (n.tmod base) base) fun y2 =>
  .chk ((↑(y1.length + y2.length) : Int) ≤ (9223372036854775807 : Int)) <| .ret (y1 ++ y2))
def f (n : Int) (base : Int) : Option (Ls) := (t n base).val
def F (x : D.den) : Option (Ls) := f x.2.1 x.2.2
def pa : D.den → (Ls) → A.den := fun (_, (_, _)) y1 => ((), y1)
def con : Con := tcon D A pa F
theorem ok : ConOk Tryz.prog 54 con := tcon_ok Base.mixed Base.prog_ok q6u (by kernel_rfl) LapsOk.nil 9 (fun _ => rfl) (fun x => t x.2.1 x.2.2) (fun _ => rfl) fun _ _ _ => (by kernel_rfl)
end q6v
def q6w : Book := q6t.add 54 q6v.con
theorem q6x : BookOk Tryz.prog q6w := q6u.add q6v.ok
namespace q6y
def D : Dom := ⟨[], (.cat (.int .i64) (.int .i64))⟩
def A : Dom := ⟨[], .str⟩
def t (n : Int) (base : Int) : Tr (Ls) :=
 .br (decide (n < base)) (.chk ((0 : Int) ≤ mx2 n (0 : Int) ∧ mx2 n (0 : Int) ≤ IntKind.i64.wrap (mx2 n (0 : Int) + (1 : Int)) ∧ IntKind.i64.wrap (mx2 n (0 : Int) + (1 : Int)) ≤ (16 : Int)) <| .ret (List.drop (mx2 n (0 : Int)).toNat (List.take (IntKind.i64.wrap (mx2 n (0 : Int) + (1 : Int))).toNat [(48 : UInt8), 49, 50, 51, 52, 53, 54, 55, 56, 57, 97, 98, 99, 100, 101, 102])))
 (.chk (base ≠ (0 : Int)) <| .call (q6v.f (IntKind.i64.wrap (n.tdiv base)) base) fun y1 =>
  .chk (base ≠ (0 : Int)) <| .call (q6v.f (n.tmod base) base) fun y2 =>
  .chk ((↑(y1.length + y2.length) : Int) ≤ (9223372036854775807 : Int)) <| .ret (y1 ++ y2))
def f (n : Int) (base : Int) : Option (Ls) := (t n base).val
def F (x : D.den) : Option (Ls) := f x.2.1 x.2.2
def pa : D.den → (Ls) → A.den := fun (_, (_, _)) y1 => ((), y1)
def con : Con := tcon D A pa F
theorem ok : ConOk Tryz.prog 54 con := tcon_ok Base.mixed Base.prog_ok q6x (by kernel_rfl) LapsOk.nil 9 (fun _ => rfl) (fun x => t x.2.1 x.2.2) (fun _ => rfl) fun _ _ _ => (by kernel_rfl)
end q6y
def q6z : Book := q6w.add 54 q6y.con
theorem q70 : BookOk Tryz.prog q6z := q6x.add q6y.ok
namespace q71
def D : Dom := ⟨[], (.cat (.int .i64) (.int .i64))⟩
def A : Dom := ⟨[], .str⟩
def t (n : Int) (base : Int) : Tr (Ls) :=
 .br (decide (n < base)) (.chk ((0 : Int) ≤ mx2 n (0 : Int) ∧ mx2 n (0 : Int) ≤ IntKind.i64.wrap (mx2 n (0 : Int) + (1 : Int)) ∧ IntKind.i64.wrap (mx2 n (0 : Int) + (1 : Int)) ≤ (16 : Int)) <| .ret (List.drop (mx2 n (0 : Int)).toNat (List.take (IntKind.i64.wrap (mx2 n (0 : Int) + (1 : Int))).toNat [(48 : UInt8), 49, 50, 51, 52, 53, 54, 55, 56, 57, 97, 98, 99, 100, 101, 102])))
 (.chk (base ≠ (0 : Int)) <| .call (q6y.f (IntKind.i64.wrap (n.tdiv base)) base) fun y1 =>
  .chk (base ≠ (0 : Int)) <| .call (q6y.f (n.tmod base) base) fun y2 =>
  .chk ((↑(y1.length + y2.length) : Int) ≤ (9223372036854775807 : Int)) <| .ret (y1 ++ y2))
def f (n : Int) (base : Int) : Option (Ls) := (t n base).val
def F (x : D.den) : Option (Ls) := f x.2.1 x.2.2
def pa : D.den → (Ls) → A.den := fun (_, (_, _)) y1 => ((), y1)
def con : Con := tcon D A pa F
theorem ok : ConOk Tryz.prog 54 con := tcon_ok Base.mixed Base.prog_ok q70 (by kernel_rfl) LapsOk.nil 9 (fun _ => rfl) (fun x => t x.2.1 x.2.2) (fun _ => rfl) fun _ _ _ => (by kernel_rfl)
end q71
def q72 : Book := q6z.add 54 q71.con
theorem q73 : BookOk Tryz.prog q72 := q70.add q71.ok
namespace q74
def D : Dom := ⟨[], (.cat (.int .i64) (.int .i64))⟩
def A : Dom := ⟨[], .str⟩
def t (n : Int) (base : Int) : Tr (Ls) :=
 .br (decide (n < base)) (.chk ((0 : Int) ≤ mx2 n (0 : Int) ∧ mx2 n (0 : Int) ≤ IntKind.i64.wrap (mx2 n (0 : Int) + (1 : Int)) ∧ IntKind.i64.wrap (mx2 n (0 : Int) + (1 : Int)) ≤ (16 : Int)) <| .ret (List.drop (mx2 n (0 : Int)).toNat (List.take (IntKind.i64.wrap (mx2 n (0 : Int) + (1 : Int))).toNat [(48 : UInt8), 49, 50, 51, 52, 53, 54, 55, 56, 57, 97, 98, 99, 100, 101, 102])))
 (.chk (base ≠ (0 : Int)) <| .call (q71.f (IntKind.i64.wrap (n.tdiv base)) base) fun y1 =>
  .chk (base ≠ (0 : Int)) <| .call (q71.f (n.tmod base) base) fun y2 =>
  .chk ((↑(y1.length + y2.length) : Int) ≤ (9223372036854775807 : Int)) <| .ret (y1 ++ y2))
def f (n : Int) (base : Int) : Option (Ls) := (t n base).val
def F (x : D.den) : Option (Ls) := f x.2.1 x.2.2
def pa : D.den → (Ls) → A.den := fun (_, (_, _)) y1 => ((), y1)
def con : Con := tcon D A pa F
theorem ok : ConOk Tryz.prog 54 con := tcon_ok Base.mixed Base.prog_ok q73 (by kernel_rfl) LapsOk.nil 9 (fun _ => rfl) (fun x => t x.2.1 x.2.2) (fun _ => rfl) fun _ _ _ => (by kernel_rfl)
end q74
def q75 : Book := q72.add 54 q74.con
theorem q76 : BookOk Tryz.prog q75 := q73.add q74.ok
namespace q77
def D : Dom := ⟨[], (.cat (.int .i64) (.int .i64))⟩
def A : Dom := ⟨[], .str⟩
def t (n : Int) (base : Int) : Tr (Ls) :=
 .br (decide (n < base)) (.chk ((0 : Int) ≤ mx2 n (0 : Int) ∧ mx2 n (0 : Int) ≤ IntKind.i64.wrap (mx2 n (0 : Int) + (1 : Int)) ∧ IntKind.i64.wrap (mx2 n (0 : Int) + (1 : Int)) ≤ (16 : Int)) <| .ret (List.drop (mx2 n (0 : Int)).toNat (List.take (IntKind.i64.wrap (mx2 n (0 : Int) + (1 : Int))).toNat [(48 : UInt8), 49, 50, 51, 52, 53, 54, 55, 56, 57, 97, 98, 99, 100, 101, 102])))
 (.chk (base ≠ (0 : Int)) <| .call (q74.f (IntKind.i64.wrap (n.tdiv base)) base) fun y1 =>
  .chk (base ≠ (0 : Int)) <| .call (q74.f (n.tmod base) base) fun y2 =>
  .chk ((↑(y1.length + y2.length) : Int) ≤ (9223372036854775807 : Int)) <| .ret (y1 ++ y2))
def f (n : Int) (base : Int) : Option (Ls) := (t n base).val
def F (x : D.den) : Option (Ls) := f x.2.1 x.2.2
def pa : D.den → (Ls) → A.den := fun (_, (_, _)) y1 => ((), y1)
def con : Con := tcon D A pa F
theorem ok : ConOk Tryz.prog 54 con := tcon_ok Base.mixed Base.prog_ok q76 (by kernel_rfl) LapsOk.nil 9 (fun _ => rfl) (fun x => t x.2.1 x.2.2) (fun _ => rfl) fun _ _ _ => (by kernel_rfl)
end q77
def q78 : Book := q75.add 54 q77.con
theorem q79 : BookOk Tryz.prog q78 := q76.add q77.ok
namespace q7d
def D : Dom := ⟨[], (.cat (.int .i64) (.int .i64))⟩
def A : Dom := ⟨[], .str⟩
def t (n : Int) (base : Int) : Tr (Ls) :=
 .br (decide (n < base)) (.chk ((0 : Int) ≤ mx2 n (0 : Int) ∧ mx2 n (0 : Int) ≤ IntKind.i64.wrap (mx2 n (0 : Int) + (1 : Int)) ∧ IntKind.i64.wrap (mx2 n (0 : Int) + (1 : Int)) ≤ (16 : Int)) <| .ret (List.drop (mx2 n (0 : Int)).toNat (List.take (IntKind.i64.wrap (mx2 n (0 : Int) + (1 : Int))).toNat [(48 : UInt8), 49, 50, 51, 52, 53, 54, 55, 56, 57, 97, 98, 99, 100, 101, 102])))
 (.chk (base ≠ (0 : Int)) <| .call (q77.f (IntKind.i64.wrap (n.tdiv base)) base) fun y1 =>
  .chk (base ≠ (0 : Int)) <| .call (q77.f (n.tmod base) base) fun y2 =>
  .chk ((↑(y1.length + y2.length) : Int) ≤ (9223372036854775807 : Int)) <| .ret (y1 ++ y2))
def f (n : Int) (base : Int) : Option (Ls) := (t n base).val
def F (x : D.den) : Option (Ls) := f x.2.1 x.2.2
def pa : D.den → (Ls) → A.den := fun (_, (_, _)) y1 => ((), y1)
def con : Con := tcon D A pa F
theorem ok : ConOk Tryz.prog 54 con := tcon_ok Base.mixed Base.prog_ok q79 (by kernel_rfl) LapsOk.nil 9 (fun _ => rfl) (fun x => t x.2.1 x.2.2) (fun _ => rfl) fun _ _ _ => (by kernel_rfl)
end q7d
def q7e : Book := q78.add 54 q7d.con
theorem q7f : BookOk Tryz.prog q7e := q79.add q7d.ok
namespace q7g
def D : Dom := ⟨[], (.cat (.int .i64) (.int .i64))⟩
def A : Dom := ⟨[], .str⟩
def t (n : Int) (base : Int) : Tr (Ls) :=
 .br (decide (n < base)) (.chk ((0 : Int) ≤ mx2 n (0 : Int) ∧ mx2 n (0 : Int) ≤ IntKind.i64.wrap (mx2 n (0 : Int) + (1 : Int)) ∧ IntKind.i64.wrap (mx2 n (0 : Int) + (1 : Int)) ≤ (16 : Int)) <| .ret (List.drop (mx2 n (0 : Int)).toNat (List.take (IntKind.i64.wrap (mx2 n (0 : Int) + (1 : Int))).toNat [(48 : UInt8), 49, 50, 51, 52, 53, 54, 55, 56, 57, 97, 98, 99, 100, 101, 102])))
 (.chk (base ≠ (0 : Int)) <| .call (q7d.f (IntKind.i64.wrap (n.tdiv base)) base) fun y1 =>
  .chk (base ≠ (0 : Int)) <| .call (q7d.f (n.tmod base) base) fun y2 =>
  .chk ((↑(y1.length + y2.length) : Int) ≤ (9223372036854775807 : Int)) <| .ret (y1 ++ y2))
def f (n : Int) (base : Int) : Option (Ls) := (t n base).val
def F (x : D.den) : Option (Ls) := f x.2.1 x.2.2
def pa : D.den → (Ls) → A.den := fun (_, (_, _)) y1 => ((), y1)
def con : Con := tcon D A pa F
theorem ok : ConOk Tryz.prog 54 con := tcon_ok Base.mixed Base.prog_ok q7f (by kernel_rfl) LapsOk.nil 9 (fun _ => rfl) (fun x => t x.2.1 x.2.2) (fun _ => rfl) fun _ _ _ => (by kernel_rfl)
end q7g
def q7h : Book := q7e.add 54 q7g.con
theorem q7i : BookOk Tryz.prog q7h := q7f.add q7g.ok
namespace q64
def D : Dom := ⟨[], (.int .i64)⟩
def A : Dom := ⟨[], .str⟩
def t (n : Int) : Tr (Ls) :=
 .call (q7g.f n (10 : Int)) fun y1 =>
 .ret y1
def f (n : Int) : Option (Ls) := (t n).val
def F (x : D.den) : Option (Ls) := f x.2
def pa : D.den → (Ls) → A.den := fun (_, _) y1 => ((), y1)
def con : Con := tcon D A pa F
theorem ok : ConOk Tryz.prog 37 con := tcon_ok Base.mixed Base.prog_ok q7i (by kernel_rfl) LapsOk.nil 9 (fun _ => rfl) (fun x => t x.2) (fun _ => rfl) fun _ _ _ => (by kernel_rfl)
end q64
def q65 : Book := q7h.add 37 q64.con
theorem q66 : BookOk Tryz.prog q65 := q7i.add q64.ok
namespace q67
def D : Dom := ⟨[], (.int .i64)⟩
def A : Dom := ⟨[], .str⟩
def t (n : Int) : Tr (Ls) :=
 .call (q7g.f n (16 : Int)) fun y1 =>
 .ret y1
def f (n : Int) : Option (Ls) := (t n).val
def F (x : D.den) : Option (Ls) := f x.2
def pa : D.den → (Ls) → A.den := fun (_, _) y1 => ((), y1)
def con : Con := tcon D A pa F
theorem ok : ConOk Tryz.prog 55 con := tcon_ok Base.mixed Base.prog_ok q66 (by kernel_rfl) LapsOk.nil 9 (fun _ => rfl) (fun x => t x.2) (fun _ => rfl) fun _ _ _ => (by kernel_rfl)
end q67
def q68 : Book := q65.add 55 q67.con
theorem q69 : BookOk Tryz.prog q68 := q66.add q67.ok
namespace q87
def D : Dom := ⟨[.vec (.sl .byte) 22 true], (.sl 0 1)⟩
namespace L3
def D : Dom := ⟨[.vec (.sl .byte) 22 true, .vec .byte 5 false], (.cat (.sl 0 1) (.cat (.sl 1 1) (.int .i64)))⟩
def A : Dom := ⟨[.vec (.sl .byte) 22 true, .vec .byte 5 false], (.sl 1 1)⟩
def t (l : List (Ls)) (out : Ls) (i : Int) : Tr ((Ls × Int) ⊕ (Ls)) :=
 .br (decide (i < (↑l.length : Int))) (.chk ((0 : Int) ≤ i ∧ i < (↑l.length : Int)) <| .chk ((0 : Nat) + i.toNat < l.length) <| .br (decide ((↑(List.length (l.getD ((0 : Nat) + i.toNat) [])) : Int) > (0 : Int))) (.chk ((0 : Int) ≤ i ∧ i < (↑l.length : Int)) <| .chk ((0 : Nat) + i.toNat < l.length) <| .call (q67.f (↑(List.length (l.getD ((0 : Nat) + i.toNat) [])) : Int)) fun y1 =>
  .chk ((0 : Nat) + out.length ≤ out.length) <| .chk ((out.length + y1.length) * (1 : Nat) ≤ (140737488355328 : Nat)) <| .chk ((0 : Nat) + (out.length + y1.length) ≤ (List.take out.length (List.drop (0 : Nat) out) ++ y1).length) <| .chk ((out.length + y1.length + [(13 : UInt8), 10].length) * (1 : Nat) ≤ (140737488355328 : Nat)) <| .chk ((0 : Int) ≤ i ∧ i < (↑l.length : Int)) <| .chk ((0 : Nat) + i.toNat < l.length) <| .chk ((0 : Nat) + (out.length + y1.length + [(13 : UInt8), 10].length) ≤ (List.take (out.length + y1.length) (List.drop (0 : Nat) (List.take out.length (List.drop (0 : Nat) out) ++ y1)) ++ [(13 : UInt8), 10]).length) <| .chk ((out.length + y1.length + [(13 : UInt8), 10].length + List.length (l.getD ((0 : Nat) + i.toNat) [])) * (1 : Nat) ≤ (140737488355328 : Nat)) <| .chk ((0 : Nat) + (out.length + y1.length + [(13 : UInt8), 10].length + List.length (l.getD ((0 : Nat) + i.toNat) [])) ≤ (List.take (out.length + y1.length + [(13 : UInt8), 10].length) (List.drop (0 : Nat) (List.take (out.length + y1.length) (List.drop (0 : Nat) (List.take out.length (List.drop (0 : Nat) out) ++ y1)) ++ [(13 : UInt8), 10])) ++ l.getD ((0 : Nat) + i.toNat) []).length) <| .chk ((out.length + y1.length + [(13 : UInt8), 10].length + List.length (l.getD ((0 : Nat) + i.toNat) []) + [(13 : UInt8), 10].length) * (1 : Nat) ≤ (140737488355328 : Nat)) <| .okl l.length <| .chk ((0 : Nat) = (0 : Nat) ∧ out.length + y1.length + [(13 : UInt8), 10].length + List.length (l.getD ((0 : Nat) + i.toNat) []) + [(13 : UInt8), 10].length = (List.take (out.length + y1.length + [(13 : UInt8), 10].length + List.length (l.getD ((0 : Nat) + i.toNat) [])) (List.drop (0 : Nat) (List.take (out.length + y1.length + [(13 : UInt8), 10].length) (List.drop (0 : Nat) (List.take (out.length + y1.length) (List.drop (0 : Nat) (List.take out.length (List.drop (0 : Nat) out) ++ y1)) ++ [(13 : UInt8), 10])) ++ l.getD ((0 : Nat) + i.toNat) [])) ++ [(13 : UInt8), 10]).length) <| .ret (.inl (List.take (out.length + y1.length + [(13 : UInt8), 10].length + List.length (l.getD ((0 : Nat) + i.toNat) [])) (List.drop (0 : Nat) (List.take (out.length + y1.length + [(13 : UInt8), 10].length) (List.drop (0 : Nat) (List.take (out.length + y1.length) (List.drop (0 : Nat) (List.take out.length (List.drop (0 : Nat) out) ++ y1)) ++ [(13 : UInt8), 10])) ++ l.getD ((0 : Nat) + i.toNat) [])) ++ [(13 : UInt8), 10], IntKind.i64.wrap (i + (1 : Int)))))
  (.okl l.length <| .okl out.length <| .ret (.inl (out, IntKind.i64.wrap (i + (1 : Int))))))
 (.okl out.length <| .ret (.inr out))
def f (l : List (Ls)) (out : Ls) (i : Int) : Option (Ls) := Loop (fun z : Ls × Int => t l z.1 z.2) (out, i)
def F (x : D.den) : Option (Ls) := f x.1.1 x.1.2.1 x.2.2.2
def pa : D.den → (Ls) → A.den := fun ((l, (_, _)), (_, (_, _))) y1 => ((l, (y1, ())), ())
def lap : Lap := tlap 3 35 [0, 3, 4] D (.exit 0) [3] A pa F
def pk (x : D.den) (z : Ls × Int) : D.den := ((x.1.1, (z.1, ())), ((), ((), z.2)))
def un (x : D.den) : Ls × Int := (x.1.2.1, x.2.2.2)
def body (x : D.den) (z : Ls × Int) : Tr ((Ls × Int) ⊕ (Ls)) := t x.1.1 z.1 z.2
theorem ok : LapOk Tryz.prog 1 (codeOf Tryz.prog 38) lap := tlap_ok Base.mixed Base.prog_ok q69 (by kernel_rfl) (by kernel_rfl) LapsOk.nil 9 pk un body (fun _ _ => rfl) (fun _ _ => rfl) (fun _ _ => rfl) (fun _ => rfl) fun _ _ _ _ => (by kernel_rfl)
end L3
def A : Dom := ⟨[.vec (.sl .byte) 22 true, .vec .byte 5 false], (.sl 1 1)⟩
def t (l : List (Ls)) : Tr (Ls) :=
 .okl l.length <| .call (q87.L3.f l [] (0 : Int)) fun y1 =>
 .chk ((0 : Nat) + y1.length ≤ y1.length) <| .chk ((y1.length + [(48 : UInt8), 13, 10].length) * (1 : Nat) ≤ (140737488355328 : Nat)) <| .chk ((0 : Nat) = (0 : Nat) ∧ y1.length + [(48 : UInt8), 13, 10].length = (List.take y1.length (List.drop (0 : Nat) y1) ++ [(48 : UInt8), 13, 10]).length) <| .ret (List.take y1.length (List.drop (0 : Nat) y1) ++ [(48 : UInt8), 13, 10])
def f (l : List (Ls)) : Option (Ls) := (t l).val
def F (x : D.den) : Option (Ls) := f x.1.1
def pa : D.den → (Ls) → A.den := fun ((l, _), _) y1 => ((l, (y1, ())), ())
def con : Con := tcon D A pa F
theorem ok : ConOk Tryz.prog 38 con := tcon_ok Base.mixed Base.prog_ok q69 (by kernel_rfl) (.cons L3.ok (by kernel_rfl) (.nil)) 9 (fun _ => rfl) (fun x => t x.1.1) (fun _ => rfl) fun _ _ _ => (by kernel_rfl)
end q87
def q88 : Book := q68.add 38 q87.con
theorem q89 : BookOk Tryz.prog q88 := q69.add q87.ok
namespace q20
def D : Dom := ⟨[], (.cat (.vec .byte) (.cat (.vec .byte) .byte))⟩
namespace L9
def D : Dom := ⟨[.cells (.cat (.int .i64) (.cat (.int .i64) (.cat (.int .i64) (.cat (.int .i64) (.cat (.int .i64) (.cat (.int .i64) (.cat (.int .i64) (.cat (.int .i64) (.cat .bool .bool))))))))) 29 false, .vec (.sl .byte) 22 false], (.cat (.vec .byte) (.cat (.vec .byte) (.cat (.int .u8) (.cat (.ptr 0 0 0 0) (.cat (.sl 1 1) (.cat (.int .i64) (.int .i64)))))))⟩
def A : Dom := ⟨[.cells (.cat (.int .i64) (.cat (.int .i64) (.cat (.int .i64) (.cat (.int .i64) (.cat (.int .i64) (.cat (.int .i64) (.cat (.int .i64) (.cat (.int .i64) (.cat .bool .bool))))))))) 29 false, .vec (.sl .byte) 22 false], (.cat (.vec .byte) (.cat (.int .u8) (.cat (.ptr 0 0 0 0) (.cat (.sl 1 1) (.int .i64)))))⟩
def t (parts : List (Ls)) (body : Ls) (chunks : Ls) (vfrom : Int) (i : Int) : Tr ((List (Ls) × Int × Int) ⊕ (List (Ls) × Int)) :=
 .br (decide (i < (↑chunks.length : Int))) (.chk ((0 : Int) ≤ i ∧ i < (↑chunks.length : Int)) <| .chk (i.toNat < chunks.length) <| .chk (IntKind.i64.wrap (IntKind.i64.wrap ((↑body.length : Int) - vfrom) + (1 : Int)) ≠ (0 : Int)) <| .chk ((0 : Int) ≤ vfrom ∧ vfrom ≤ IntKind.i64.wrap (vfrom + (IntKind.i64.wrap (↑(UInt8.toNat (chunks.getD i.toNat (0 : UInt8))) : Int)).tmod (IntKind.i64.wrap (IntKind.i64.wrap ((↑body.length : Int) - vfrom) + (1 : Int)))) ∧ IntKind.i64.wrap (vfrom + (IntKind.i64.wrap (↑(UInt8.toNat (chunks.getD i.toNat (0 : UInt8))) : Int)).tmod (IntKind.i64.wrap (IntKind.i64.wrap ((↑body.length : Int) - vfrom) + (1 : Int)))) ≤ (↑body.length : Int)) <| .chk ((1 : Nat) ≤ [List.drop vfrom.toNat (List.take (IntKind.i64.wrap (vfrom + (IntKind.i64.wrap (↑(UInt8.toNat (chunks.getD i.toNat (0 : UInt8))) : Int)).tmod (IntKind.i64.wrap (IntKind.i64.wrap ((↑body.length : Int) - vfrom) + (1 : Int))))).toNat body)].length) <| .chk ((0 : Nat) + parts.length ≤ parts.length) <| .chk ((parts.length + (1 : Nat)) * (24 : Nat) ≤ (140737488355328 : Nat)) <| .chk ((0 : Nat) = (0 : Nat) ∧ parts.length + (1 : Nat) = (List.take parts.length (List.drop (0 : Nat) parts) ++ List.take (1 : Nat) (List.drop (0 : Nat) [List.drop vfrom.toNat (List.take (IntKind.i64.wrap (vfrom + (IntKind.i64.wrap (↑(UInt8.toNat (chunks.getD i.toNat (0 : UInt8))) : Int)).tmod (IntKind.i64.wrap (IntKind.i64.wrap ((↑body.length : Int) - vfrom) + (1 : Int))))).toNat body)])).length) <| .ret (.inl (List.take parts.length (List.drop (0 : Nat) parts) ++ List.take (1 : Nat) (List.drop (0 : Nat) [List.drop vfrom.toNat (List.take (IntKind.i64.wrap (vfrom + (IntKind.i64.wrap (↑(UInt8.toNat (chunks.getD i.toNat (0 : UInt8))) : Int)).tmod (IntKind.i64.wrap (IntKind.i64.wrap ((↑body.length : Int) - vfrom) + (1 : Int))))).toNat body)]), IntKind.i64.wrap (vfrom + (IntKind.i64.wrap (↑(UInt8.toNat (chunks.getD i.toNat (0 : UInt8))) : Int)).tmod (IntKind.i64.wrap (IntKind.i64.wrap ((↑body.length : Int) - vfrom) + (1 : Int)))), IntKind.i64.wrap (i + (1 : Int)))))
 (.okl parts.length <| .ret (.inr (parts, vfrom)))
def f (parts : List (Ls)) (body : Ls) (chunks : Ls) (vfrom : Int) (i : Int) : Option (List (Ls) × Int) := Loop (fun z : List (Ls) × Int × Int => t z.1 body chunks z.2.1 z.2.2) (parts, vfrom, i)
def F (x : D.den) : Option (List (Ls) × Int) := f x.1.2.1 x.2.1 x.2.2.1 x.2.2.2.2.2.2.1 x.2.2.2.2.2.2.2
def pa : D.den → (List (Ls) × Int) → A.den := fun (((Line, (Fields, (Head, (Body, (Ext, (Trailers, (Wait, (Idle, (Chunked, Old))))))))), (_, _)), (body, (_, (vagain, (_, (_, (_, _))))))) (y1, y2) => (((Line, (Fields, (Head, (Body, (Ext, (Trailers, (Wait, (Idle, (Chunked, Old))))))))), (y1, ())), (body, (vagain, ((), ((), y2)))))
def lap : Lap := tlap 9 151 [0, 1, 2, 7, 8, 9, 10] D (.exit 0) [0, 2, 7, 8, 9] A pa F
def pk (x : D.den) (z : List (Ls) × Int × Int) : D.den := (((x.1.1.1, (x.1.1.2.1, (x.1.1.2.2.1, (x.1.1.2.2.2.1, (x.1.1.2.2.2.2.1, (x.1.1.2.2.2.2.2.1, (x.1.1.2.2.2.2.2.2.1, (x.1.1.2.2.2.2.2.2.2.1, (x.1.1.2.2.2.2.2.2.2.2.1, x.1.1.2.2.2.2.2.2.2.2.2))))))))), (z.1, ())), (x.2.1, (x.2.2.1, (x.2.2.2.1, ((), ((), (z.2.1, z.2.2)))))))
def un (x : D.den) : List (Ls) × Int × Int := (x.1.2.1, x.2.2.2.2.2.2.1, x.2.2.2.2.2.2.2)
def body (x : D.den) (z : List (Ls) × Int × Int) : Tr ((List (Ls) × Int × Int) ⊕ (List (Ls) × Int)) := t z.1 x.2.1 x.2.2.1 z.2.1 z.2.2
theorem ok : LapOk Tryz.prog 0 (codeOf Tryz.prog 9) lap := tlap_ok Base.mixed Base.prog_ok q89 (by kernel_rfl) (by kernel_rfl) LapsOk.nil 9 pk un body (fun _ _ => rfl) (fun _ _ => rfl) (fun _ _ => rfl) (fun _ => rfl) fun _ _ _ _ => (by kernel_rfl)
end L9
namespace L22
def D : Dom := ⟨[.cells (.cat (.int .i64) (.cat (.int .i64) (.cat (.int .i64) (.cat (.int .i64) (.cat (.int .i64) (.cat (.int .i64) (.cat (.int .i64) (.cat (.int .i64) (.cat .bool .bool))))))))) 29 false, .vec .byte 5 false, .vec .byte 5 false], (.cat (.vec .byte) (.cat (.ptr 0 0 0 0) (.cat (.sl 1 1) (.cat (.sl 2 1) (.cat (.int .i64) (.int .i64))))))⟩
def A : Dom := ⟨[.cells (.cat (.int .i64) (.cat (.int .i64) (.cat (.int .i64) (.cat (.int .i64) (.cat (.int .i64) (.cat (.int .i64) (.cat (.int .i64) (.cat (.int .i64) (.cat .bool .bool))))))))) 29 false, .vec .byte 5 false], (.cat (.vec .byte) (.cat (.ptr 0 0 0 0) (.cat (.sl 1 1) (.int .i64))))⟩
def t (s : Ls) (all : Ls) (n : Int) (i : Int) : Tr ((Ls × Int) ⊕ (Ls)) :=
 .br (decide (i < n)) (.chk ((0 : Nat) + s.length ≤ s.length) <| .chk ((0 : Nat) + all.length ≤ all.length) <| .chk ((all.length + s.length) * (1 : Nat) ≤ (140737488355328 : Nat)) <| .okl s.length <| .chk ((0 : Nat) = (0 : Nat) ∧ all.length + s.length = (List.take all.length (List.drop (0 : Nat) all) ++ List.take s.length (List.drop (0 : Nat) s)).length) <| .ret (.inl (List.take all.length (List.drop (0 : Nat) all) ++ List.take s.length (List.drop (0 : Nat) s), IntKind.i64.wrap (i + (1 : Int)))))
 (.okl all.length <| .ret (.inr all))
def f (s : Ls) (all : Ls) (n : Int) (i : Int) : Option (Ls) := Loop (fun z : Ls × Int => t s z.1 n z.2) (all, i)
def F (x : D.den) : Option (Ls) := f x.1.2.1 x.1.2.2.1 x.2.2.2.2.2.1 x.2.2.2.2.2.2
def pa : D.den → (Ls) → A.den := fun (((Line, (Fields, (Head, (Body, (Ext, (Trailers, (Wait, (Idle, (Chunked, Old))))))))), (_, (_, _))), (body, (_, (_, (_, (n, _)))))) y1 => (((Line, (Fields, (Head, (Body, (Ext, (Trailers, (Wait, (Idle, (Chunked, Old))))))))), (y1, ())), (body, ((), ((), n))))
def lap : Lap := tlap 22 151 [0, 7, 12, 13, 14, 15] D (.exit 2) [0, 7, 13, 14] A pa F
def pk (x : D.den) (z : Ls × Int) : D.den := (((x.1.1.1, (x.1.1.2.1, (x.1.1.2.2.1, (x.1.1.2.2.2.1, (x.1.1.2.2.2.2.1, (x.1.1.2.2.2.2.2.1, (x.1.1.2.2.2.2.2.2.1, (x.1.1.2.2.2.2.2.2.2.1, (x.1.1.2.2.2.2.2.2.2.2.1, x.1.1.2.2.2.2.2.2.2.2.2))))))))), (x.1.2.1, (z.1, ()))), (x.2.1, ((), ((), ((), (x.2.2.2.2.2.1, z.2))))))
def un (x : D.den) : Ls × Int := (x.1.2.2.1, x.2.2.2.2.2.2)
def body (x : D.den) (z : Ls × Int) : Tr ((Ls × Int) ⊕ (Ls)) := t x.1.2.1 z.1 x.2.2.2.2.2.1 z.2
theorem ok : LapOk Tryz.prog 0 (codeOf Tryz.prog 9) lap := tlap_ok Base.mixed Base.prog_ok q89 (by kernel_rfl) (by kernel_rfl) LapsOk.nil 9 pk un body (fun _ _ => rfl) (fun _ _ => rfl) (fun _ _ => rfl) (fun _ => rfl) fun _ _ _ _ => (by kernel_rfl)
end L22
namespace L29
def D : Dom := ⟨[.vec (.pair .str (.pair .str (.pair (.int .i64) (.pair (.sl (.pair .str .str)) (.pair .bool (.pair (.sl .byte) (.sl (.pair .str .str)))))))) 47 false], (.cat (.vec .byte) (.cat (.sl 0 7) (.int .i64)))⟩
def A : Dom := ⟨[], .nil⟩
def B : Dom := ⟨[], .bool⟩
def t (l : List (Ls × Ls × Int × Lf × Bool × Ls × Lf)) (body : Ls) (i : Int) : Tr ((Int) ⊕ ((Unit) ⊕ (Bool))) :=
 .br (decide (i < (↑l.length : Int))) (.chk ((0 : Int) ≤ i ∧ i < (↑l.length : Int)) <| .chk ((0 : Nat) + i.toNat < l.length) <| .br (!(l.getD ((0 : Nat) + i.toNat) ([], [], 0, [], false, [], [])).snd.snd.snd.snd.snd.fst == body) (.ret (.inr (.inr false)))
  (.chk ((0 : Int) ≤ i ∧ i < (↑l.length : Int)) <| .chk ((0 : Nat) + i.toNat < l.length) <| .br (!(l.getD ((0 : Nat) + i.toNat) ([], [], 0, [], false, [], [])).snd.snd.snd.snd.fst == (i.tmod (2 : Int) == (1 : Int))) (.ret (.inr (.inr false)))
  (.chk ((0 : Int) ≤ i ∧ i < (↑l.length : Int)) <| .chk ((0 : Nat) + i.toNat < l.length) <| .chk ((0 : Int) ≤ i.tmod (2 : Int) ∧ i.tmod (2 : Int) < (2 : Int)) <| .chk (((0 : Nat) + (i.tmod (2 : Int)).toNat) * (1 : Nat) < (2 : Nat)) <| .br (!(l.getD ((0 : Nat) + i.toNat) ([], [], 0, [], false, [], [])).snd.fst == [[(47 : UInt8), 97], [(47 : UInt8), 98]].getD (((0 : Nat) + (i.tmod (2 : Int)).toNat) * (1 : Nat)) []) (.ret (.inr (.inr false)))
   (.okl l.length <| .ret (.inl (IntKind.i64.wrap (i + (1 : Int))))))))
 (.ret (.inr (.inl ())))
def f (l : List (Ls × Ls × Int × Lf × Bool × Ls × Lf)) (body : Ls) (i : Int) : Option ((Unit) ⊕ (Bool)) := Loop (fun z : Int => t l body z) i
def F (x : D.den) : Option ((Unit) ⊕ (Bool)) := f x.1.1 x.2.1 x.2.2.2
def pa : D.den → (Unit) → A.den := fun ((_, _), (_, (_, _))) _ => ((), ())
def pb : D.den → (Bool) → B.den := fun ((_, _), (_, (_, _))) y1 => ((), y1)
def lap : Lap := tlap2 29 151 [0, 16, 19] D (.exit 4) [] A .ret [6] B pa pb F
def pk (x : D.den) (z : Int) : D.den := ((x.1.1, ()), (x.2.1, ((), z)))
def un (x : D.den) : Int := x.2.2.2
def body (x : D.den) (z : Int) : Tr ((Int) ⊕ ((Unit) ⊕ (Bool))) := t x.1.1 x.2.1 z
theorem ok : LapOk Tryz.prog 0 (codeOf Tryz.prog 9) lap := tlap2_ok Base.mixed Base.prog_ok q89 (by kernel_rfl) (by kernel_rfl) LapsOk.nil 9 pk un body (fun _ _ => rfl) (fun _ _ => rfl) (fun _ _ => rfl) (fun _ _ => rfl) (fun _ => rfl) fun _ _ _ _ => (by kernel_rfl)
end L29
def A : Dom := ⟨[], .bool⟩
set_option maxHeartbeats 4000000 in
def t (body : Ls) (chunks : Ls) (vagain : UInt8) : Tr (Bool) :=
 .call (q21.f) fun y1 =>
 .br (!y1) (.ret false)
 (.br (decide ((↑body.length : Int) > (200 : Int))) (.ret true)
  (.br (decide ((↑chunks.length : Int) > (10 : Int))) (.ret true)
  (.call (q84.f) fun (y2a, y2b, y2c, y2d, y2e, y2f, y2g, y2h, y2i, y2j) =>
   .call (q20.L9.f [] body chunks (0 : Int) (0 : Int)) fun (y3a, y3b) =>
   .chk ((0 : Int) ≤ y3b ∧ y3b ≤ (↑body.length : Int) ∧ (↑body.length : Int) ≤ (↑body.length : Int)) <| .chk ((1 : Nat) ≤ [List.drop y3b.toNat (List.take (↑body.length : Int).toNat body)].length) <| .chk ((0 : Nat) + y3a.length ≤ y3a.length) <| .chk ((y3a.length + (1 : Nat)) * (24 : Nat) ≤ (140737488355328 : Nat)) <| .call (q64.f (↑body.length : Int)) fun y4 =>
   .chk ((↑([(80 : UInt8), 79, 83, 84, 32, 47, 97, 32, 72, 84, 84, 80, 47, 49, 46, 49, 13, 10, 72, 111, 115, 116, 58, 32, 104, 13, 10, 67, 111, 110, 116, 101, 110, 116, 45, 76, 101, 110, 103, 116, 104, 58, 32].length + y4.length) : Int) ≤ (9223372036854775807 : Int)) <| .chk ((↑(([(80 : UInt8), 79, 83, 84, 32, 47, 97, 32, 72, 84, 84, 80, 47, 49, 46, 49, 13, 10, 72, 111, 115, 116, 58, 32, 104, 13, 10, 67, 111, 110, 116, 101, 110, 116, 45, 76, 101, 110, 103, 116, 104, 58, 32] ++ y4).length + [(13 : UInt8), 10, 13, 10].length) : Int) ≤ (9223372036854775807 : Int)) <| .chk (([(80 : UInt8), 79, 83, 84, 32, 47, 97, 32, 72, 84, 84, 80, 47, 49, 46, 49, 13, 10, 72, 111, 115, 116, 58, 32, 104, 13, 10, 67, 111, 110, 116, 101, 110, 116, 45, 76, 101, 110, 103, 116, 104, 58, 32] ++ y4 ++ [(13 : UInt8), 10, 13, 10]).length ≤ (140737488355328 : Nat)) <| .chk ((0 : Nat) + ([(80 : UInt8), 79, 83, 84, 32, 47, 97, 32, 72, 84, 84, 80, 47, 49, 46, 49, 13, 10, 72, 111, 115, 116, 58, 32, 104, 13, 10, 67, 111, 110, 116, 101, 110, 116, 45, 76, 101, 110, 103, 116, 104, 58, 32] ++ y4 ++ [(13 : UInt8), 10, 13, 10]).length ≤ ([] ++ ([(80 : UInt8), 79, 83, 84, 32, 47, 97, 32, 72, 84, 84, 80, 47, 49, 46, 49, 13, 10, 72, 111, 115, 116, 58, 32, 104, 13, 10, 67, 111, 110, 116, 101, 110, 116, 45, 76, 101, 110, 103, 116, 104, 58, 32] ++ y4 ++ [(13 : UInt8), 10, 13, 10])).length) <| .chk ((([(80 : UInt8), 79, 83, 84, 32, 47, 97, 32, 72, 84, 84, 80, 47, 49, 46, 49, 13, 10, 72, 111, 115, 116, 58, 32, 104, 13, 10, 67, 111, 110, 116, 101, 110, 116, 45, 76, 101, 110, 103, 116, 104, 58, 32] ++ y4 ++ [(13 : UInt8), 10, 13, 10]).length + body.length) * (1 : Nat) ≤ (140737488355328 : Nat)) <| .chk ((0 : Nat) + (([(80 : UInt8), 79, 83, 84, 32, 47, 97, 32, 72, 84, 84, 80, 47, 49, 46, 49, 13, 10, 72, 111, 115, 116, 58, 32, 104, 13, 10, 67, 111, 110, 116, 101, 110, 116, 45, 76, 101, 110, 103, 116, 104, 58, 32] ++ y4 ++ [(13 : UInt8), 10, 13, 10]).length + body.length) ≤ (List.take ([(80 : UInt8), 79, 83, 84, 32, 47, 97, 32, 72, 84, 84, 80, 47, 49, 46, 49, 13, 10, 72, 111, 115, 116, 58, 32, 104, 13, 10, 67, 111, 110, 116, 101, 110, 116, 45, 76, 101, 110, 103, 116, 104, 58, 32] ++ y4 ++ [(13 : UInt8), 10, 13, 10]).length (List.drop (0 : Nat) ([] ++ ([(80 : UInt8), 79, 83, 84, 32, 47, 97, 32, 72, 84, 84, 80, 47, 49, 46, 49, 13, 10, 72, 111, 115, 116, 58, 32, 104, 13, 10, 67, 111, 110, 116, 101, 110, 116, 45, 76, 101, 110, 103, 116, 104, 58, 32] ++ y4 ++ [(13 : UInt8), 10, 13, 10]))) ++ body).length) <| .chk ((([(80 : UInt8), 79, 83, 84, 32, 47, 97, 32, 72, 84, 84, 80, 47, 49, 46, 49, 13, 10, 72, 111, 115, 116, 58, 32, 104, 13, 10, 67, 111, 110, 116, 101, 110, 116, 45, 76, 101, 110, 103, 116, 104, 58, 32] ++ y4 ++ [(13 : UInt8), 10, 13, 10]).length + body.length + [(80 : UInt8), 79, 83, 84, 32, 47, 98, 32, 72, 84, 84, 80, 47, 49, 46, 49, 13, 10, 72, 111, 115, 116, 58, 32, 104, 13, 10, 84, 114, 97, 110, 115, 102, 101, 114, 45, 69, 110, 99, 111, 100, 105, 110, 103, 58, 32, 99, 104, 117, 110, 107, 101, 100, 13, 10, 13, 10].length) * (1 : Nat) ≤ (140737488355328 : Nat)) <| .chk ((0 : Nat) + (y3a.length + (1 : Nat)) ≤ (List.take y3a.length (List.drop (0 : Nat) y3a) ++ List.take (1 : Nat) (List.drop (0 : Nat) [List.drop y3b.toNat (List.take (↑body.length : Int).toNat body)])).length) <| .call (q87.f (List.take (y3a.length + (1 : Nat)) (List.drop (0 : Nat) (List.take y3a.length (List.drop (0 : Nat) y3a) ++ List.take (1 : Nat) (List.drop (0 : Nat) [List.drop y3b.toNat (List.take (↑body.length : Int).toNat body)]))))) fun y5 =>
   .chk ((0 : Nat) + y5.length ≤ y5.length) <| .chk ((0 : Nat) + (([(80 : UInt8), 79, 83, 84, 32, 47, 97, 32, 72, 84, 84, 80, 47, 49, 46, 49, 13, 10, 72, 111, 115, 116, 58, 32, 104, 13, 10, 67, 111, 110, 116, 101, 110, 116, 45, 76, 101, 110, 103, 116, 104, 58, 32] ++ y4 ++ [(13 : UInt8), 10, 13, 10]).length + body.length + [(80 : UInt8), 79, 83, 84, 32, 47, 98, 32, 72, 84, 84, 80, 47, 49, 46, 49, 13, 10, 72, 111, 115, 116, 58, 32, 104, 13, 10, 84, 114, 97, 110, 115, 102, 101, 114, 45, 69, 110, 99, 111, 100, 105, 110, 103, 58, 32, 99, 104, 117, 110, 107, 101, 100, 13, 10, 13, 10].length) ≤ (List.take (([(80 : UInt8), 79, 83, 84, 32, 47, 97, 32, 72, 84, 84, 80, 47, 49, 46, 49, 13, 10, 72, 111, 115, 116, 58, 32, 104, 13, 10, 67, 111, 110, 116, 101, 110, 116, 45, 76, 101, 110, 103, 116, 104, 58, 32] ++ y4 ++ [(13 : UInt8), 10, 13, 10]).length + body.length) (List.drop (0 : Nat) (List.take ([(80 : UInt8), 79, 83, 84, 32, 47, 97, 32, 72, 84, 84, 80, 47, 49, 46, 49, 13, 10, 72, 111, 115, 116, 58, 32, 104, 13, 10, 67, 111, 110, 116, 101, 110, 116, 45, 76, 101, 110, 103, 116, 104, 58, 32] ++ y4 ++ [(13 : UInt8), 10, 13, 10]).length (List.drop (0 : Nat) ([] ++ ([(80 : UInt8), 79, 83, 84, 32, 47, 97, 32, 72, 84, 84, 80, 47, 49, 46, 49, 13, 10, 72, 111, 115, 116, 58, 32, 104, 13, 10, 67, 111, 110, 116, 101, 110, 116, 45, 76, 101, 110, 103, 116, 104, 58, 32] ++ y4 ++ [(13 : UInt8), 10, 13, 10]))) ++ body)) ++ [(80 : UInt8), 79, 83, 84, 32, 47, 98, 32, 72, 84, 84, 80, 47, 49, 46, 49, 13, 10, 72, 111, 115, 116, 58, 32, 104, 13, 10, 84, 114, 97, 110, 115, 102, 101, 114, 45, 69, 110, 99, 111, 100, 105, 110, 103, 58, 32, 99, 104, 117, 110, 107, 101, 100, 13, 10, 13, 10]).length) <| .chk ((([(80 : UInt8), 79, 83, 84, 32, 47, 97, 32, 72, 84, 84, 80, 47, 49, 46, 49, 13, 10, 72, 111, 115, 116, 58, 32, 104, 13, 10, 67, 111, 110, 116, 101, 110, 116, 45, 76, 101, 110, 103, 116, 104, 58, 32] ++ y4 ++ [(13 : UInt8), 10, 13, 10]).length + body.length + [(80 : UInt8), 79, 83, 84, 32, 47, 98, 32, 72, 84, 84, 80, 47, 49, 46, 49, 13, 10, 72, 111, 115, 116, 58, 32, 104, 13, 10, 84, 114, 97, 110, 115, 102, 101, 114, 45, 69, 110, 99, 111, 100, 105, 110, 103, 58, 32, 99, 104, 117, 110, 107, 101, 100, 13, 10, 13, 10].length + y5.length) * (1 : Nat) ≤ (140737488355328 : Nat)) <| .chk ((0 : Nat) + (([(80 : UInt8), 79, 83, 84, 32, 47, 97, 32, 72, 84, 84, 80, 47, 49, 46, 49, 13, 10, 72, 111, 115, 116, 58, 32, 104, 13, 10, 67, 111, 110, 116, 101, 110, 116, 45, 76, 101, 110, 103, 116, 104, 58, 32] ++ y4 ++ [(13 : UInt8), 10, 13, 10]).length + body.length + [(80 : UInt8), 79, 83, 84, 32, 47, 98, 32, 72, 84, 84, 80, 47, 49, 46, 49, 13, 10, 72, 111, 115, 116, 58, 32, 104, 13, 10, 84, 114, 97, 110, 115, 102, 101, 114, 45, 69, 110, 99, 111, 100, 105, 110, 103, 58, 32, 99, 104, 117, 110, 107, 101, 100, 13, 10, 13, 10].length + y5.length) ≤ (List.take (([(80 : UInt8), 79, 83, 84, 32, 47, 97, 32, 72, 84, 84, 80, 47, 49, 46, 49, 13, 10, 72, 111, 115, 116, 58, 32, 104, 13, 10, 67, 111, 110, 116, 101, 110, 116, 45, 76, 101, 110, 103, 116, 104, 58, 32] ++ y4 ++ [(13 : UInt8), 10, 13, 10]).length + body.length + [(80 : UInt8), 79, 83, 84, 32, 47, 98, 32, 72, 84, 84, 80, 47, 49, 46, 49, 13, 10, 72, 111, 115, 116, 58, 32, 104, 13, 10, 84, 114, 97, 110, 115, 102, 101, 114, 45, 69, 110, 99, 111, 100, 105, 110, 103, 58, 32, 99, 104, 117, 110, 107, 101, 100, 13, 10, 13, 10].length) (List.drop (0 : Nat) (List.take (([(80 : UInt8), 79, 83, 84, 32, 47, 97, 32, 72, 84, 84, 80, 47, 49, 46, 49, 13, 10, 72, 111, 115, 116, 58, 32, 104, 13, 10, 67, 111, 110, 116, 101, 110, 116, 45, 76, 101, 110, 103, 116, 104, 58, 32] ++ y4 ++ [(13 : UInt8), 10, 13, 10]).length + body.length) (List.drop (0 : Nat) (List.take ([(80 : UInt8), 79, 83, 84, 32, 47, 97, 32, 72, 84, 84, 80, 47, 49, 46, 49, 13, 10, 72, 111, 115, 116, 58, 32, 104, 13, 10, 67, 111, 110, 116, 101, 110, 116, 45, 76, 101, 110, 103, 116, 104, 58, 32] ++ y4 ++ [(13 : UInt8), 10, 13, 10]).length (List.drop (0 : Nat) ([] ++ ([(80 : UInt8), 79, 83, 84, 32, 47, 97, 32, 72, 84, 84, 80, 47, 49, 46, 49, 13, 10, 72, 111, 115, 116, 58, 32, 104, 13, 10, 67, 111, 110, 116, 101, 110, 116, 45, 76, 101, 110, 103, 116, 104, 58, 32] ++ y4 ++ [(13 : UInt8), 10, 13, 10]))) ++ body)) ++ [(80 : UInt8), 79, 83, 84, 32, 47, 98, 32, 72, 84, 84, 80, 47, 49, 46, 49, 13, 10, 72, 111, 115, 116, 58, 32, 104, 13, 10, 84, 114, 97, 110, 115, 102, 101, 114, 45, 69, 110, 99, 111, 100, 105, 110, 103, 58, 32, 99, 104, 117, 110, 107, 101, 100, 13, 10, 13, 10])) ++ List.take y5.length (List.drop (0 : Nat) y5)).length) <| .chk ((([(80 : UInt8), 79, 83, 84, 32, 47, 97, 32, 72, 84, 84, 80, 47, 49, 46, 49, 13, 10, 72, 111, 115, 116, 58, 32, 104, 13, 10, 67, 111, 110, 116, 101, 110, 116, 45, 76, 101, 110, 103, 116, 104, 58, 32] ++ y4 ++ [(13 : UInt8), 10, 13, 10]).length + body.length + [(80 : UInt8), 79, 83, 84, 32, 47, 98, 32, 72, 84, 84, 80, 47, 49, 46, 49, 13, 10, 72, 111, 115, 116, 58, 32, 104, 13, 10, 84, 114, 97, 110, 115, 102, 101, 114, 45, 69, 110, 99, 111, 100, 105, 110, 103, 58, 32, 99, 104, 117, 110, 107, 101, 100, 13, 10, 13, 10].length + y5.length + [(13 : UInt8), 10].length) * (1 : Nat) ≤ (140737488355328 : Nat)) <| .chk ((0 : Nat) = (0 : Nat) ∧ ([(80 : UInt8), 79, 83, 84, 32, 47, 97, 32, 72, 84, 84, 80, 47, 49, 46, 49, 13, 10, 72, 111, 115, 116, 58, 32, 104, 13, 10, 67, 111, 110, 116, 101, 110, 116, 45, 76, 101, 110, 103, 116, 104, 58, 32] ++ y4 ++ [(13 : UInt8), 10, 13, 10]).length + body.length + [(80 : UInt8), 79, 83, 84, 32, 47, 98, 32, 72, 84, 84, 80, 47, 49, 46, 49, 13, 10, 72, 111, 115, 116, 58, 32, 104, 13, 10, 84, 114, 97, 110, 115, 102, 101, 114, 45, 69, 110, 99, 111, 100, 105, 110, 103, 58, 32, 99, 104, 117, 110, 107, 101, 100, 13, 10, 13, 10].length + y5.length + [(13 : UInt8), 10].length = (List.take (([(80 : UInt8), 79, 83, 84, 32, 47, 97, 32, 72, 84, 84, 80, 47, 49, 46, 49, 13, 10, 72, 111, 115, 116, 58, 32, 104, 13, 10, 67, 111, 110, 116, 101, 110, 116, 45, 76, 101, 110, 103, 116, 104, 58, 32] ++ y4 ++ [(13 : UInt8), 10, 13, 10]).length + body.length + [(80 : UInt8), 79, 83, 84, 32, 47, 98, 32, 72, 84, 84, 80, 47, 49, 46, 49, 13, 10, 72, 111, 115, 116, 58, 32, 104, 13, 10, 84, 114, 97, 110, 115, 102, 101, 114, 45, 69, 110, 99, 111, 100, 105, 110, 103, 58, 32, 99, 104, 117, 110, 107, 101, 100, 13, 10, 13, 10].length + y5.length) (List.drop (0 : Nat) (List.take (([(80 : UInt8), 79, 83, 84, 32, 47, 97, 32, 72, 84, 84, 80, 47, 49, 46, 49, 13, 10, 72, 111, 115, 116, 58, 32, 104, 13, 10, 67, 111, 110, 116, 101, 110, 116, 45, 76, 101, 110, 103, 116, 104, 58, 32] ++ y4 ++ [(13 : UInt8), 10, 13, 10]).length + body.length + [(80 : UInt8), 79, 83, 84, 32, 47, 98, 32, 72, 84, 84, 80, 47, 49, 46, 49, 13, 10, 72, 111, 115, 116, 58, 32, 104, 13, 10, 84, 114, 97, 110, 115, 102, 101, 114, 45, 69, 110, 99, 111, 100, 105, 110, 103, 58, 32, 99, 104, 117, 110, 107, 101, 100, 13, 10, 13, 10].length) (List.drop (0 : Nat) (List.take (([(80 : UInt8), 79, 83, 84, 32, 47, 97, 32, 72, 84, 84, 80, 47, 49, 46, 49, 13, 10, 72, 111, 115, 116, 58, 32, 104, 13, 10, 67, 111, 110, 116, 101, 110, 116, 45, 76, 101, 110, 103, 116, 104, 58, 32] ++ y4 ++ [(13 : UInt8), 10, 13, 10]).length + body.length) (List.drop (0 : Nat) (List.take ([(80 : UInt8), 79, 83, 84, 32, 47, 97, 32, 72, 84, 84, 80, 47, 49, 46, 49, 13, 10, 72, 111, 115, 116, 58, 32, 104, 13, 10, 67, 111, 110, 116, 101, 110, 116, 45, 76, 101, 110, 103, 116, 104, 58, 32] ++ y4 ++ [(13 : UInt8), 10, 13, 10]).length (List.drop (0 : Nat) ([] ++ ([(80 : UInt8), 79, 83, 84, 32, 47, 97, 32, 72, 84, 84, 80, 47, 49, 46, 49, 13, 10, 72, 111, 115, 116, 58, 32, 104, 13, 10, 67, 111, 110, 116, 101, 110, 116, 45, 76, 101, 110, 103, 116, 104, 58, 32] ++ y4 ++ [(13 : UInt8), 10, 13, 10]))) ++ body)) ++ [(80 : UInt8), 79, 83, 84, 32, 47, 98, 32, 72, 84, 84, 80, 47, 49, 46, 49, 13, 10, 72, 111, 115, 116, 58, 32, 104, 13, 10, 84, 114, 97, 110, 115, 102, 101, 114, 45, 69, 110, 99, 111, 100, 105, 110, 103, 58, 32, 99, 104, 117, 110, 107, 101, 100, 13, 10, 13, 10])) ++ List.take y5.length (List.drop (0 : Nat) y5))) ++ [(13 : UInt8), 10]).length) <| .call (q20.L22.f (List.take (([(80 : UInt8), 79, 83, 84, 32, 47, 97, 32, 72, 84, 84, 80, 47, 49, 46, 49, 13, 10, 72, 111, 115, 116, 58, 32, 104, 13, 10, 67, 111, 110, 116, 101, 110, 116, 45, 76, 101, 110, 103, 116, 104, 58, 32] ++ y4 ++ [(13 : UInt8), 10, 13, 10]).length + body.length + [(80 : UInt8), 79, 83, 84, 32, 47, 98, 32, 72, 84, 84, 80, 47, 49, 46, 49, 13, 10, 72, 111, 115, 116, 58, 32, 104, 13, 10, 84, 114, 97, 110, 115, 102, 101, 114, 45, 69, 110, 99, 111, 100, 105, 110, 103, 58, 32, 99, 104, 117, 110, 107, 101, 100, 13, 10, 13, 10].length + y5.length) (List.drop (0 : Nat) (List.take (([(80 : UInt8), 79, 83, 84, 32, 47, 97, 32, 72, 84, 84, 80, 47, 49, 46, 49, 13, 10, 72, 111, 115, 116, 58, 32, 104, 13, 10, 67, 111, 110, 116, 101, 110, 116, 45, 76, 101, 110, 103, 116, 104, 58, 32] ++ y4 ++ [(13 : UInt8), 10, 13, 10]).length + body.length + [(80 : UInt8), 79, 83, 84, 32, 47, 98, 32, 72, 84, 84, 80, 47, 49, 46, 49, 13, 10, 72, 111, 115, 116, 58, 32, 104, 13, 10, 84, 114, 97, 110, 115, 102, 101, 114, 45, 69, 110, 99, 111, 100, 105, 110, 103, 58, 32, 99, 104, 117, 110, 107, 101, 100, 13, 10, 13, 10].length) (List.drop (0 : Nat) (List.take (([(80 : UInt8), 79, 83, 84, 32, 47, 97, 32, 72, 84, 84, 80, 47, 49, 46, 49, 13, 10, 72, 111, 115, 116, 58, 32, 104, 13, 10, 67, 111, 110, 116, 101, 110, 116, 45, 76, 101, 110, 103, 116, 104, 58, 32] ++ y4 ++ [(13 : UInt8), 10, 13, 10]).length + body.length) (List.drop (0 : Nat) (List.take ([(80 : UInt8), 79, 83, 84, 32, 47, 97, 32, 72, 84, 84, 80, 47, 49, 46, 49, 13, 10, 72, 111, 115, 116, 58, 32, 104, 13, 10, 67, 111, 110, 116, 101, 110, 116, 45, 76, 101, 110, 103, 116, 104, 58, 32] ++ y4 ++ [(13 : UInt8), 10, 13, 10]).length (List.drop (0 : Nat) ([] ++ ([(80 : UInt8), 79, 83, 84, 32, 47, 97, 32, 72, 84, 84, 80, 47, 49, 46, 49, 13, 10, 72, 111, 115, 116, 58, 32, 104, 13, 10, 67, 111, 110, 116, 101, 110, 116, 45, 76, 101, 110, 103, 116, 104, 58, 32] ++ y4 ++ [(13 : UInt8), 10, 13, 10]))) ++ body)) ++ [(80 : UInt8), 79, 83, 84, 32, 47, 98, 32, 72, 84, 84, 80, 47, 49, 46, 49, 13, 10, 72, 111, 115, 116, 58, 32, 104, 13, 10, 84, 114, 97, 110, 115, 102, 101, 114, 45, 69, 110, 99, 111, 100, 105, 110, 103, 58, 32, 99, 104, 117, 110, 107, 101, 100, 13, 10, 13, 10])) ++ List.take y5.length (List.drop (0 : Nat) y5))) ++ [(13 : UInt8), 10]) [] (IntKind.i64.wrap (IntKind.i64.wrap ((Int.ofNat vagain.toNat).tmod (3 : Int)) + (1 : Int))) (0 : Int)) fun y6 =>
   .call (q3p.f (0 : Int) y2a y2b y2c y2d y2e y2f y2g y2h) fun (y7a, y7b, y7c, y7d, y7e, y7f, y7g, y7h, y7i, y7j, y7k, y7l, y7m, y7n, y7o, y7p, y7q, y7r, y7s, y7t) =>
   .chk ((0 : Nat) + y6.length ≤ y6.length) <| .okl y7p.length <| .okl y7q.length <| .okl y7r.length <| .okl y7s.length <| .okl y7t.length <| .chk ((1 : Nat) ≤ [List.take y6.length (List.drop (0 : Nat) y6)].length) <| .call (q3y.f y7a y7b y7c y7d y7e y7f y7g y7h y7i y7j (0 : Int) y2a y2b y2c y2d y2e y2f y2g y2h y2i y2j y7k (0 : Int) y7l y7m y7n y7o y7p y7q y7r y7s (List.take (1 : Nat) (List.drop (0 : Nat) [List.take y6.length (List.drop (0 : Nat) y6)]))) fun (_, _, _, _, _, _, _, _, y8i, _, _, _, _, _, _, _, _, _, _, _, _, y8v, y8w, _, _, _, _, _, y8ac, y8ad, y8ae, y8af) =>
   .okl y8ac.length <| .okl y8ad.length <| .okl y8ae.length <| .okl y8af.length <| .okl y8w.length <| .call (q3v.f y8ac y8ad y8ae y8af y8w) fun _ =>
   .okl y8ac.length <| .okl y8ad.length <| .okl y8ae.length <| .okl y8af.length <| .okl y8w.length <| .call (q3s.f y8i y8v y8ac y8ad y8ae y8af y8w) fun y10 =>
   .br (y8v != (0 : Int)) (.ret false)
   (.br (!y10) (.ret false)
   (.br ((↑y8w.length : Int) != IntKind.i64.wrap ((2 : Int) * IntKind.i64.wrap (IntKind.i64.wrap ((Int.ofNat vagain.toNat).tmod (3 : Int)) + (1 : Int)))) (.ret false)
    (.okl y8w.length <| .both (q20.L29.f y8w body (0 : Int)) (fun _ => .ret true)
    (fun y12 => .ret y12)))))))
def f (body : Ls) (chunks : Ls) (vagain : UInt8) : Option (Bool) := (t body chunks vagain).val
def F (x : D.den) : Option (Bool) := f x.2.1 x.2.2.1 x.2.2.2
def pa : D.den → (Bool) → A.den := fun (_, (_, (_, _))) y1 => ((), y1)
def con : Con := tcon D A pa F
theorem ok : ConOk Tryz.prog 9 con := tcon_ok Base.mixed Base.prog_ok q89 (by kernel_rfl) (.cons L9.ok (by kernel_rfl) (.cons L22.ok (by kernel_rfl) (.cons L29.ok (by kernel_rfl) (.nil)))) 9 (fun _ => rfl) (fun x => t x.2.1 x.2.2.1 x.2.2.2) (fun _ => rfl) fun _ _ _ => (by kernel_rfl)
theorem law_ok (h : ∀ x, (lawCon [(.sl .byte), (.sl .byte), .byte]).pre x → F x = some true) : ConOk Tryz.prog 9 (lawCon [(.sl .byte), (.sl .byte), .byte]) := Go.Vx.law_ok ok h
end q20
end Go.Vx
end
section

end
section
set_option linter.unusedVariables false
set_option linter.unusedSimpArgs false
namespace Go.Vx
theorem w64 {n : Int} (h0 : -9223372036854775808 ≤ n) (h1 : n < 9223372036854775808) : IntKind.i64.wrap n = n := by
 simp only [IntKind.wrap, IntKind.signed, IntKind.bits, if_true]
 simp
 omega
theorem wS {k : Nat} (h : k < 4611686018427387904) : IntKind.i64.wrap ((k : Int) + 1) = ((k + 1 : Nat) : Int) := by rw [w64 (by omega) (by omega)]; omega
theorem byte_lt (c : UInt8) : (c.toNat : Int) < 256 := by have := UInt8.toNat_lt c; omega
theorem byte_ge (c : UInt8) : 0 ≤ (c.toNat : Int) := by omega
theorem byte_back (c : UInt8) : UInt8.ofNat (c.toNat : Int).toNat = c := by simp
theorem byte_is (c d : UInt8) : ((c.toNat : Int) == (d.toNat : Int)) = (c == d) := by
 by_cases h : c = d
 ·subst h; simp
 ·have : ¬ c.toNat = d.toNat := fun e => h (UInt8.toNat_inj.1 e)
  have h1 : (c == d) = false := by simpa using h
  rw [h1]
  exact beq_false_of_ne (by omega)
theorem byte_eqI (c : UInt8) (m : Int) (h0 : 0 ≤ m) (h1 : m < 256) : ((c.toNat : Int) == m) = (c == UInt8.ofNat m.toNat) := by
 have : m = ((UInt8.ofNat m.toNat).toNat : Int) := by simp; omega
 rw [← byte_is]
 rw [← this]
theorem in_rng {k n : Nat} (h : k < n) : (0 : Int) ≤ (k : Int) ∧ (k : Int) < (n : Int) := by omega
theorem Tr.val_chk {α : Type} {p : Prop} [Decidable p] {a : Tr α} (h : p) : (Tr.chk p a).val = a.val := if_pos h
theorem Tr.val_call {α β : Type} {o : Option β} {k : β → Tr α} {y : β} (h : o = some y) : (Tr.call o k).val = (k y).val := by subst h; rfl
theorem Tr.val_inl {α β γ : Type} {o : Option (β ⊕ γ)} {k : β → Tr α} {l : γ → Tr α} {y : β} (h : o = some (.inl y)) : (Tr.both o k l).val = (k y).val := by subst h; rfl
def foldE {α A ρ : Type} (step : A → α → A ⊕ ρ) (fin : A → ρ) : A → List α → ρ
 | a, [] => fin a
 | a, c :: l => match step a c with
  | .inl a' => foldE step fin a' l
  | .inr r => r
theorem iter_list {α A σ ρ : Type} {body : σ → Tr (σ ⊕ ρ)} (s : List α) (st : Nat → A → σ) (inv : Nat → A → Prop) (step : A → α → A ⊕ ρ) (fin : A → ρ)
  (hs : ∀ (k : Nat) (a : A) (c : α), inv k a → (hk : k < s.length) → s[k]'hk = c → (body (st k a)).val = some (match step a c with
   | .inl a' => .inl (st (k + 1) a')
   | .inr r => .inr r) ∧ ∀ a', step a c = .inl a' → inv (k + 1) a')
  (he : ∀ a, inv s.length a → (body (st s.length a)).val = some (.inr (fin a))) :
  ∀ (n k : Nat) (a : A), inv k a → k ≤ s.length → s.length - k < n → iter body n (st k a) = some (foldE step fin a (s.drop k)) := by
 intro n
 induction n with
 | zero => intro k a _ _ h; omega
 | succ n ih =>
  intro k a hi hk hn
  rw [iter]
  by_cases hl : k < s.length
  ·obtain ⟨h1, h2⟩ := hs k a _ hi hl rfl
   rw [h1, List.drop_eq_getElem_cons hl, foldE]
   cases e : step a s[k] with
   | inr r => rfl
   | inl a' => exact ih (k + 1) a' (h2 a' e) (by omega) (by omega)
  ·have hkl : k = s.length := by omega
   subst hkl
   rw [he a hi, List.drop_length, foldE]
theorem Loop_list {α A σ ρ : Type} {body : σ → Tr (σ ⊕ ρ)} (s : List α) (st : Nat → A → σ) (inv : Nat → A → Prop) (step : A → α → A ⊕ ρ) (fin : A → ρ)
  (hs : ∀ (k : Nat) (a : A) (c : α), inv k a → (hk : k < s.length) → s[k]'hk = c → (body (st k a)).val = some (match step a c with
   | .inl a' => .inl (st (k + 1) a')
   | .inr r => .inr r) ∧ ∀ a', step a c = .inl a' → inv (k + 1) a')
  (he : ∀ a, inv s.length a → (body (st s.length a)).val = some (.inr (fin a))) (hn : s.length < 1125899906842624) {a : A} (hi : inv 0 a) {s0 : σ} (h0 : s0 = st 0 a) : Loop body s0 = some (foldE step fin a s) := by
 subst h0
 have := iter_list s st inv step fin hs he rounds 0 a hi (Nat.zero_le _) (by unfold rounds; omega)
 rw [List.drop_zero] at this
 exact this
theorem getD_nat {α : Type} {s : List α} {k : Nat} {c : α} {d : α} (hk : k < s.length) (hc : s[k]'hk = c) : s.getD k d = c := by
 rw [List.getD_eq_getElem?_getD, List.getElem?_eq_getElem hk, hc]; rfl
theorem getD_at {α : Type} {s : List α} {k : Nat} {c : α} {d : α} (hk : k < s.length) (hc : s[k]'hk = c) : s.getD (k : Int).toNat d = c := by
 rw [Int.toNat_natCast, List.getD_eq_getElem?_getD, List.getElem?_eq_getElem hk, hc]; rfl
end Go.Vx
end
section
set_option linter.unusedVariables false
set_option linter.unusedSimpArgs false
set_option maxRecDepth 100000
namespace Go.Vx
namespace Pl
theorem all256 {p : UInt8 → Bool} (h : ((List.range 256).all fun n => p (UInt8.ofNat n)) = true) (c : UInt8) : p c = true := by
 have := List.all_eq_true.1 h c.toNat (List.mem_range.2 (UInt8.toNat_lt c))
 simpa using this
theorem byte_fn {α : Type} [DecidableEq α] {f : Int → Option α} {g : UInt8 → α} (h : ((List.range 256).all fun n => decide (f (((UInt8.ofNat n).toNat : Nat) : Int) = some (g (UInt8.ofNat n)))) = true) (c : UInt8) : f (c.toNat : Int) = some (g c) :=
 of_decide_eq_true (all256 (p := fun c => decide (f (c.toNat : Int) = some (g c))) h c)
def isLetter (c : UInt8) : Bool := (decide (97 ≤ c) && decide (c ≤ 122)) || (decide (65 ≤ c) && decide (c ≤ 90))
def isDigit (c : UInt8) : Bool := decide (48 ≤ c) && decide (c ≤ 57)
def isTok (c : UInt8) : Bool := isLetter c || isDigit c || [33, 35, 36, 37, 38, 39, 42, 43, 45, 46, 94, 95, 96, 124, 126].contains c
def isVis (c : UInt8) : Bool := decide (33 ≤ c) && decide (c ≤ 126)
def isBlank (c : UInt8) : Bool := c == 32 || c == 9
def isCtl (c : UInt8) : Bool := decide (c < 32) || c == 127
def isText (c : UInt8) : Bool := isVis c || isBlank c || decide (128 ≤ c)
def isHex (c : UInt8) : Bool := isDigit c || (decide (97 ≤ c) && decide (c ≤ 102)) || (decide (65 ≤ c) && decide (c ≤ 70))
def hexv (c : UInt8) : Nat := if isDigit c then c.toNat - 48 else if decide (97 ≤ c) && decide (c ≤ 102) then c.toNat - 87 else if decide (65 ≤ c) && decide (c ≤ 70) then c.toNat - 55 else 0
def lowerC (c : UInt8) : UInt8 := if decide (65 ≤ c) && decide (c ≤ 90) then c + 32 else c
def isKind (k : Int) (c : UInt8) : Bool := if k = 1 then isTok c else if k = 2 then isVis c else if k = 3 then isBlank c else if k = 4 then isDigit c else if k = 5 then isHex c else if k = 6 then isText c else false
def scan {α ρ : Type} (step : Nat → α → Option ρ) (fin : ρ) : Nat → List α → ρ
 | _, [] => fin
 | k, c :: l => match step k c with
  | none => scan step fin (k + 1) l
  | some r => r
theorem scan_foldE {α ρ : Type} (step : Nat → α → Option ρ) (fin : ρ) : ∀ (l : List α) (k : Nat), foldE (fun (a : Nat) c => match step a c with
  | none => .inl (a + 1)
  | some r => .inr r) (fun _ => fin) k l = scan step fin k l
 | [], _ => rfl
 | c :: l, k => by
  rw [foldE, scan]
  cases step k c with
  | none => exact scan_foldE step fin l (k + 1)
  | some r => rfl
theorem Loop_scan {α ρ : Type} {body : Int → Tr (Int ⊕ ρ)} (s : List α) (step : Nat → α → Option ρ) (fin : ρ)
  (hs : ∀ (k : Nat) (c : α), (hk : k < s.length) → s[k]'hk = c → (body (k : Int)).val = some (match step k c with
   | none => .inl ((k + 1 : Nat) : Int)
   | some r => .inr r)) (he : (body (s.length : Int)).val = some (.inr fin)) (hn : s.length < 1125899906842624) : Loop body 0 = some (scan step fin 0 s) := by
 rw [← scan_foldE]
 refine Loop_list s (fun k _ => (k : Int)) (fun k a => a = k) (fun a c => match step a c with
  | none => .inl (a + 1)
  | some r => .inr r) (fun _ => fin) (fun k a c hi hk hc => ?_) (fun a _ => he) hn rfl rfl
 subst hi
 rw [hs a c hk hc]
 cases step a c with
 | none => exact ⟨rfl, fun a' h => by cases h; rfl⟩
 | some r => exact ⟨rfl, fun a' h => by cases h⟩
theorem scan_all {α : Type} (p : α → Bool) : ∀ (l : List α) (k : Nat), scan (fun _ c => if p c = true then none else some (Sum.inr false : Unit ⊕ Bool)) (.inl ()) k l = if l.all p = true then .inl () else .inr false
 | [], _ => rfl
 | c :: l, k => by
  rw [scan]
  by_cases h : p c = true
  ·simp only [h, if_true, scan_all p l (k + 1), List.all_cons, Bool.true_and]
  ·simp only [h, List.all_cons]; rfl
theorem bif_ite {α : Type} (c : Bool) (a b : α) : (bif c then a else b) = if c = true then a else b := by cases c <;> rfl
theorem lt_nat {k n : Nat} : decide ((k : Int) < (n : Int)) = decide (k < n) := by simp
end Pl
end Go.Vx
end
section
set_option linter.unusedVariables false
set_option linter.unusedSimpArgs false
set_option maxRecDepth 100000
namespace Go.Vx
namespace Pl
open Go Go.Proofs
theorem octet_Digit_f (c : UInt8) : q34.f (c.toNat : Int) = some (isDigit c) := byte_fn (f := q34.f) (g := fun c => (isDigit c)) (by decide +kernel) c
theorem octet_Token_f (c : UInt8) : q3d.f (c.toNat : Int) = some (isTok c) := byte_fn (f := q3d.f) (g := fun c => (isTok c)) (by decide +kernel) c
theorem octet_Visible_f (c : UInt8) : q3g.f (c.toNat : Int) = some (isVis c) := byte_fn (f := q3g.f) (g := fun c => (isVis c)) (by decide +kernel) c
theorem octet_Blank_f (c : UInt8) : q2y.f (c.toNat : Int) = some (isBlank c) := byte_fn (f := q2y.f) (g := fun c => (isBlank c)) (by decide +kernel) c
theorem octet_Control_f (c : UInt8) : q31.f (c.toNat : Int) = some (isCtl c) := byte_fn (f := q31.f) (g := fun c => (isCtl c)) (by decide +kernel) c
theorem octet_Text_f (c : UInt8) : q3a.f (c.toNat : Int) = some (isText c) := byte_fn (f := q3a.f) (g := fun c => (isText c)) (by decide +kernel) c
theorem octet_Hex_f (c : UInt8) : q37.f (c.toNat : Int) = some ((hexv c : Int), isHex c) := byte_fn (f := q37.f) (g := fun c => ((hexv c : Int), isHex c)) (by decide +kernel) c
theorem octet_of_f (c : UInt8) (k : Int) : q3m.f (c.toNat : Int) k = some (isKind k c) := by
 unfold q3m.f q3m.t isKind
 rw [octet_Token_f, octet_Visible_f, octet_Blank_f, octet_Digit_f, octet_Hex_f, octet_Text_f]
 simp only [Tr.val, bif_ite, beq_iff_eq]
 split <;> (try rfl) <;> split <;> (try rfl) <;> split <;> (try rfl) <;> split <;> (try rfl) <;> split <;> (try rfl) <;> split <;> rfl
theorem octet_All_L6 {kinds : List Int} {s : List UInt8} {i : Nat} {c : UInt8} (hi : i < s.length) (hc : s[i]'hi = c) (hn : kinds.length < 1125899906842624) : q2v.L6.f kinds s (i : Int) false (kinds.length : Int) 0 = some (kinds.any fun k => isKind k c) := by
 unfold q2v.L6.f
 refine (Loop_list (A := Bool) (ρ := Bool) (a := false) kinds (fun k a => (a, (k : Int))) (fun _ _ => True) (fun a k => .inl (a || isKind k c)) id ?_ ?_ hn trivial rfl).trans ?_
 ·intro k a kd _ hk hkc
  refine ⟨?_, fun _ _ => trivial⟩
  have hw := wS (k := k) (by omega)
  subst hkc hc
  cases a <;> simp [q2v.L6.t, Tr.val, octet_of_f, in_rng hk, hw, hk, in_rng hi, hi]
 ·intro a _
  simp [q2v.L6.t, Tr.val]
 ·congr 1
  have : ∀ (l : List Int) (a : Bool), foldE (fun a k => (Sum.inl (a || isKind k c) : Bool ⊕ Bool)) id a l = (a || l.any fun k => isKind k c) := by
   intro l
   induction l with
   | nil => intro a; simp [foldE]
   | cons k l ih => intro a; simp [foldE, ih, Bool.or_assoc]
  simpa using this kinds false
theorem octet_All_f {kinds : List Int} {s : List UInt8} (hk : kinds.length < 1125899906842624) (hn : s.length < 1125899906842624) : q2v.f kinds s = some (s.all fun c => kinds.any fun k => isKind k c) := by
 have hL : q2v.L2.f kinds s (s.length : Int) 0 = some (if (s.all fun c => kinds.any fun k => isKind k c) = true then .inl () else .inr false) := by
  unfold q2v.L2.f
  refine (Loop_scan s (fun _ c => if (kinds.any fun k => isKind k c) = true then none else some (Sum.inr false : Unit ⊕ Bool)) (.inl ()) (fun k c hl hc => ?_) ?_ hn).trans (by rw [scan_all])
  ·have hw := wS (k := k) (by omega)
   by_cases h : (kinds.any fun k => isKind k c) = true
   ·simp [q2v.L2.t, Tr.val, octet_All_L6 hl hc hk, h, hw, hl]
   ·have h' : (kinds.any fun k => isKind k c) = false := by simpa using h
    simp [q2v.L2.t, Tr.val, octet_All_L6 hl hc hk, h', hw, hl]
  ·simp [q2v.L2.t, Tr.val]
 unfold q2v.f q2v.t
 rw [hL]
 cases (s.all fun c => kinds.any fun k => isKind k c) <;> simp [Tr.val]
end Pl
end Go.Vx
end
section
set_option linter.unusedVariables false
set_option linter.unusedSimpArgs false
set_option maxRecDepth 100000
namespace Go.Vx
namespace Pl
open Go
theorem Loop_front {α : Type} {t : List α → Tr (List α ⊕ List α)} {p : α → Bool} {s : List α} (h0 : (t []).val = some (.inr [])) (hs : ∀ c l, l.length < s.length → (t (c :: l)).val = some (if p c = true then .inl l else .inr (c :: l))) (hn : s.length < 1125899906842624) : Loop t s = some (s.dropWhile p) := by
 have : ∀ (n : Nat) (z : List α), z.length < n → z.length ≤ s.length → iter t n z = some (z.dropWhile p) := by
  intro n
  induction n with
  | zero => intro z h; omega
  | succ n ih =>
   intro z h hz
   cases z with
   | nil => rw [iter, h0]; rfl
   | cons c l =>
    rw [iter, hs c l (by simp at hz; omega)]
    by_cases hc : p c = true
    ·simp only [hc, if_true, List.dropWhile_cons_of_pos]
     exact ih l (by simp at h; omega) (by simp at hz; omega)
    ·simp [hc, List.dropWhile_cons_of_neg]
 exact this rounds s (by unfold rounds; omega) (Nat.le_refl _)
def dropEnd {α : Type} (p : α → Bool) (l : List α) : List α := (l.reverse.dropWhile p).reverse
theorem dropEnd_snoc {α : Type} {p : α → Bool} (l : List α) (c : α) : dropEnd p (l ++ [c]) = if p c = true then dropEnd p l else l ++ [c] := by
 unfold dropEnd
 by_cases h : p c = true
 ·simp [h]
 ·simp [h]
theorem dropEnd_length {α : Type} {p : α → Bool} (l : List α) : (dropEnd p l).length ≤ l.length := by
 unfold dropEnd
 have := (List.dropWhile_sublist p (l := l.reverse)).length_le
 simpa using this
theorem Loop_end {α : Type} {t : List α → Tr (List α ⊕ List α)} {p : α → Bool} {s : List α} (h0 : (t []).val = some (.inr [])) (hs : ∀ l c, l.length < s.length → (t (l ++ [c])).val = some (if p c = true then .inl l else .inr (l ++ [c]))) (hn : s.length < 1125899906842624) : Loop t s = some (dropEnd p s) := by
 have : ∀ (n : Nat) (z : List α), z.length < n → z.length ≤ s.length → iter t n z = some (dropEnd p z) := by
  intro n
  induction n with
  | zero => intro z h; omega
  | succ n ih =>
   intro z h hz
   rcases List.eq_nil_or_concat z with rfl | ⟨l, c, rfl⟩
   ·rw [iter, h0]; rfl
   ·simp only [List.concat_eq_append, List.length_append, List.length_cons, List.length_nil] at h hz ⊢
    rw [iter, hs l c (by omega), dropEnd_snoc]
    by_cases hc : p c = true
    ·simp only [hc, if_true]
     exact ih l (by omega) (by omega)
    ·simp [hc]
 exact this rounds s (by unfold rounds; omega) (Nat.le_refl _)
def addTo {ρ : Type} (i : Nat) : Nat ⊕ ρ → Int ⊕ ρ
 | .inl j => .inl ((i + j : Nat) : Int)
 | .inr r => .inr r
def goOn {α ρ : Type} (g : List α → ρ) (l : List α) : Nat ⊕ ρ → ρ
 | .inl j => g (l.drop j)
 | .inr r => r
theorem Loop_drop {α ρ : Type} {body : Int → Tr (Int ⊕ ρ)} (s : List α) (step : List α → Nat ⊕ ρ) (g : List α → ρ) (hg : ∀ l, g l = goOn g l (step l)) (hj : ∀ l j, step l = .inl j → 0 < j ∧ j ≤ l.length)
  (hs : ∀ i, i ≤ s.length → (body (i : Int)).val = some (addTo i (step (s.drop i)))) (hn : s.length < 1125899906842624) : Loop body 0 = some (g s) := by
 have : ∀ (n i : Nat), i ≤ s.length → s.length - i < n → iter body n (i : Int) = some (g (s.drop i)) := by
  intro n
  induction n with
  | zero => intro i _ h; omega
  | succ n ih =>
   intro i hi h
   rw [iter, hs i hi, hg (s.drop i)]
   cases e : step (s.drop i) with
   | inr r => rfl
   | inl j =>
    obtain ⟨h1, h2⟩ := hj _ _ e
    rw [List.length_drop] at h2
    simp only [addTo, goOn]
    rw [ih (i + j) (by omega) (by omega), List.drop_drop]
 exact this rounds 0 (Nat.zero_le _) (by unfold rounds; omega)
def isDig (base : Nat) (c : UInt8) : Bool := isHex c && decide (hexv c < base)
def valN (base : Nat) (n : Nat) (s : List UInt8) : Nat := s.foldl (fun n c => n * base + hexv c) n
theorem valN_cons (base n : Nat) (c : UInt8) (s : List UInt8) : valN base n (c :: s) = valN base (n * base + hexv c) s := rfl
theorem valN_ge {base : Nat} (hb : 0 < base) : ∀ (s : List UInt8) (n : Nat), n ≤ valN base n s
 | [], n => Nat.le_refl _
 | c :: s, n => by
  rw [valN_cons]
  have := valN_ge hb s (n * base + hexv c)
  have h2 : n * 1 ≤ n * base := Nat.mul_le_mul_left n hb
  omega
def numS (base : Nat) (most : Int) (s : List UInt8) : Int × Int :=
 if s = [] ∨ (s.all (isDig base)) = false then (0, 22) else if (valN base 0 s : Int) ≤ max most 0 then ((valN base 0 s : Nat), 0) else (0, 23)
theorem isDig10 (c : UInt8) : isDig 10 c = isDigit c := by
 have := all256 (p := fun c => isDig 10 c == isDigit c) (by decide +kernel) c
 simpa using this
theorem isDig16 (c : UInt8) : isDig 16 c = isHex c := by
 have := all256 (p := fun c => isDig 16 c == isHex c) (by decide +kernel) c
 simpa using this
theorem hexv_lt (c : UInt8) : hexv c < 16 := by
 have := all256 (p := fun c => decide (hexv c < 16)) (by decide +kernel) c
 simpa using this
def lower (s : List UInt8) : List UInt8 := s.map lowerC
def same (a b : List UInt8) : Bool := lower a == lower b
def trimP (p : UInt8 → Bool) (s : List UInt8) : List UInt8 := dropEnd p (s.dropWhile p)
def trim (s : List UInt8) : List UInt8 := trimP isBlank s
theorem trimP_length (p : UInt8 → Bool) (s : List UInt8) : (trimP p s).length ≤ s.length := by
 unfold trimP
 have h1 := dropEnd_length (p := p) (s.dropWhile p)
 have h2 := (List.dropWhile_sublist p (l := s)).length_le
 omega
def before (c : UInt8) (s : List UInt8) : List UInt8 := s.takeWhile (· != c)
def after (c : UInt8) (s : List UInt8) : List UInt8 := (s.dropWhile (· != c)).drop 1
def cutC (c : UInt8) (s : List UInt8) : List UInt8 × List UInt8 × Bool := if s.contains c = true then (before c s, after c s, true) else (s, [], false)
def splitC (c : UInt8) : List UInt8 → List (List UInt8)
 | [] => [[]]
 | x :: l => if x == c then [] :: splitC c l else match splitC c l with
  | a :: r => (x :: a) :: r
  | [] => [[x]]
def listS (values : List (List UInt8)) : List (List UInt8) := values.flatMap fun v => (splitC 44 v).map trim
def findS (l : List (List UInt8 × List UInt8)) (name : List UInt8) : List (List UInt8) := (l.filter fun f => same f.1 name).map (·.2)
def signsGo (others : List UInt8) (pct : Bool) : List UInt8 → Bool
 | [] => true
 | c :: l => if (isDigit c || isLetter c || others.contains c) = true then signsGo others pct l else if (pct && c == 37) = true then match l with
  | a :: b :: l' => isHex a && isHex b && signsGo others pct l'
  | _ => false
 else false
theorem indexByte_not {c : UInt8} : ∀ {s : List UInt8}, s.contains c = false → Lib.indexByte s c = -1
 | [], _ => rfl
 | x :: l, h => by
  simp only [List.contains_cons, Bool.or_eq_false_iff] at h
  have hx : (x == c) = false := by
   have := h.1
   simp only [beq_eq_false_iff_ne] at this ⊢
   exact fun e => this e.symm
  unfold Lib.indexByte
  rw [indexByte_not h.2, hx]
  simp
theorem indexByte_is {c : UInt8} : ∀ {s : List UInt8}, s.contains c = true → Lib.indexByte s c = ((before c s).length : Int)
 | [], h => by simp at h
 | x :: l, h => by
  unfold Lib.indexByte before
  by_cases hx : x = c
  ·subst hx; simp
  ·have h1 : (x == c) = false := by simpa using hx
   have h2 : l.contains c = true := by
    simp only [List.contains_cons, Bool.or_eq_true, beq_iff_eq] at h
    rcases h with h | h
    ·exact absurd h.symm hx
    ·exact h
   have ih := indexByte_is h2
   have h3 : (x != c) = true := by simp [bne, h1]
   rw [h1]
   simp only [List.takeWhile_cons, h3, if_true, List.length_cons]
   rw [ih]
   have h4 : (((before c l).length : Int) == -1) = false := by
    rw [beq_eq_false_iff_ne]; omega
   simp only [h4]
   simp [before]
theorem before_after {c : UInt8} : ∀ {s : List UInt8}, s.contains c = true → s = before c s ++ c :: after c s
 | [], h => by simp at h
 | x :: l, h => by
  unfold before after
  by_cases hx : x = c
  ·subst hx; simp
  ·have h1 : (x != c) = true := by simpa using hx
   have h2 : l.contains c = true := by
    simp only [List.contains_cons, Bool.or_eq_true, beq_iff_eq] at h
    rcases h with h | h
    ·exact absurd h.symm hx
    ·exact h
   have ih := before_after h2
   simp only [List.takeWhile_cons, List.dropWhile_cons, h1, if_true, List.cons_append]
   congr 1
theorem take_before {c : UInt8} {s : List UInt8} (h : s.contains c = true) : s.take (before c s).length = before c s := by
 refine (congrArg (List.take (before c s).length) (before_after h)).trans ?_
 simp
theorem drop_after {c : UInt8} {s : List UInt8} (h : s.contains c = true) : s.drop ((before c s).length + 1) = after c s := by
 refine (congrArg (List.drop ((before c s).length + 1)) (before_after h)).trans ?_
 simp
theorem before_len {c : UInt8} {s : List UInt8} (h : s.contains c = true) : (before c s).length + 1 + (after c s).length = s.length := by
 have := congrArg List.length (before_after h)
 simp at this
 omega
theorem splitC_not {c : UInt8} : ∀ {s : List UInt8}, s.contains c = false → splitC c s = [s]
 | [], _ => rfl
 | x :: l, h => by
  simp only [List.contains_cons, Bool.or_eq_false_iff] at h
  have hx : (x == c) = false := by
   have := h.1
   simp only [beq_eq_false_iff_ne] at this ⊢
   exact fun e => this e.symm
  simp only [splitC, hx, splitC_not h.2]
  rfl
theorem splitC_is {c : UInt8} : ∀ {s : List UInt8}, s.contains c = true → splitC c s = before c s :: splitC c (after c s)
 | [], h => by simp at h
 | x :: l, h => by
  unfold before after
  by_cases hx : x = c
  ·subst hx; simp [splitC]
  ·have h0 : (x == c) = false := by simpa using hx
   have h1 : (x != c) = true := by simpa using hx
   have h2 : l.contains c = true := by
    simp only [List.contains_cons, Bool.or_eq_true, beq_iff_eq] at h
    rcases h with h | h
    ·exact absurd h.symm hx
    ·exact h
   simp only [splitC, h0, splitC_is h2, List.takeWhile_cons, List.dropWhile_cons, h1, if_true]
   rfl
theorem splitC_len (c : UInt8) : ∀ (n : Nat) (s : List UInt8), s.length ≤ n → (splitC c s).length = s.count c + 1
 | 0, s, h => by
  have : s = [] := List.length_eq_zero_iff.1 (by omega)
  subst this; rfl
 | n + 1, s, h => by
  by_cases hc : s.contains c = true
  ·have hl := before_len hc
   rw [splitC_is hc, List.length_cons, splitC_len c n (after c s) (by omega)]
   have h1 := congrArg (List.count c) (before_after hc)
   rw [List.count_append, List.count_cons_self] at h1
   have : (before c s).count c = 0 := by
    rw [List.count_eq_zero]
    unfold before
    intro hm
    have h2 : ∀ (l : List UInt8), c ∈ l.takeWhile (· != c) → False := by
     intro l
     induction l with
     | nil => intro h; simp at h
     | cons x l ih =>
      intro h
      rw [List.takeWhile_cons] at h
      split at h
      ·rename_i hx
       rcases List.mem_cons.1 h with rfl | h
       ·simp at hx
       ·exact ih h
      ·simp at h
    exact h2 _ hm
   omega
  ·rw [splitC_not (by simpa using hc)]
   have : s.count c = 0 := by
    rw [List.count_eq_zero]
    simpa using hc
   simp [this]
end Pl
end Go.Vx
end
section
set_option linter.unusedVariables false
set_option linter.unusedSimpArgs false
set_option maxRecDepth 100000
namespace Go.Vx
namespace Pl
open Go Go.Proofs
theorem kind1 (s : List UInt8) (k : Int) : (s.all fun c => [k].any fun k => isKind k c) = s.all (isKind k) := by
 congr 1; funext c; simp
theorem octet_All1 {k : Int} {s : List UInt8} (hn : s.length < 1125899906842624) : q2v.f [k] s = some (s.all (isKind k)) := by
 rw [octet_All_f (by simp) hn, kind1]
theorem tdiv_gt {m d n base : Nat} (hb : 0 < base) (hd : d ≤ m) : (decide ((n : Int) > ((m : Int) - (d : Int)).tdiv (base : Int))) = decide (m < n * base + d) := by
 have h1 : ((m : Int) - (d : Int)) = ((m - d : Nat) : Int) := by omega
 rw [h1]
 have h2 : ((m - d : Nat) : Int).tdiv (base : Int) = (((m - d) / base : Nat) : Int) := rfl
 rw [h2]
 have : ((n : Int) > (((m - d) / base : Nat) : Int)) ↔ m < n * base + d := by
  have h3 : (m - d) / base < n ↔ m - d < n * base := Nat.div_lt_iff_lt_mul hb
  constructor
  ·intro h
   have := h3.1 (by omega)
   omega
  ·intro h
   have := h3.2 (by omega)
   omega
 exact decide_eq_decide.2 this
theorem number_loop {base m : Nat} {s : List UInt8} (hb : 2 ≤ base) (hb2 : base ≤ 16) (hm : m ≤ 1099511627776) (hn : s.length < 1125899906842624) :
  q2s.L6.f s (base : Int) (m : Int) 0 (s.length : Int) 0 = some (if valN base 0 s ≤ m then .inl ((valN base 0 s : Nat) : Int) else .inr (0, 23)) := by
 unfold q2s.L6.f
 refine (Loop_list (A := Nat) (a := 0) s (fun k n => ((n : Int), (k : Int))) (fun _ n => n ≤ m) (fun n c => if n * base + hexv c ≤ m then .inl (n * base + hexv c) else .inr (.inr (0, 23))) (fun n => Sum.inl ((n : Nat) : Int)) ?_ ?_ hn (Nat.zero_le _) rfl).trans ?_
 ·intro k n c hi hk hc
  subst hc
  have hw := wS (k := k) (by omega)
  have hd := hexv_lt s[k]
  have hbne : ¬ base = 0 := by omega
  have hnb : n * base ≤ 1099511627776 * 16 := Nat.mul_le_mul (by omega) hb2
  refine ⟨?_, fun a' h => ?_⟩
  ·by_cases h1 : (hexv s[k] : Int) > (m : Int)
   ·have h2 : ¬ n * base + hexv s[k] ≤ m := by omega
    simp [q2s.L6.t, Tr.val, octet_Hex_f, hk, h1, h2]
   ·have h3 : IntKind.i64.wrap ((m : Int) - (hexv s[k] : Int)) = (m : Int) - (hexv s[k] : Int) := w64 (by omega) (by omega)
    have h4 := tdiv_gt (n := n) (base := base) (d := hexv s[k]) (m := m) (by omega) (by omega)
    have h5 : IntKind.i64.wrap (((m : Int) - (hexv s[k] : Int)).tdiv (base : Int)) = ((m : Int) - (hexv s[k] : Int)).tdiv (base : Int) := by
     have h6 : ((m : Int) - (hexv s[k] : Int)) = ((m - hexv s[k] : Nat) : Int) := by omega
     rw [h6]
     have h7 : ((m - hexv s[k] : Nat) : Int).tdiv (base : Int) = (((m - hexv s[k]) / base : Nat) : Int) := rfl
     rw [h7]
     have h8 := Nat.div_le_self (m - hexv s[k]) base
     clear h4 h6 h7
     generalize (m - hexv s[k]) / base = q at h8 ⊢
     exact w64 (by omega) (by omega)
    have h6 : IntKind.i64.wrap ((n : Int) * (base : Int)) = ((n * base : Nat) : Int) := by
     rw [show ((n : Int) * (base : Int)) = ((n * base : Nat) : Int) from by simp]
     have h8 : n * base ≤ 17592186044416 := by omega
     clear h4 h5 h3
     generalize n * base = q at h8 ⊢
     exact w64 (by omega) (by omega)
    have h7 : IntKind.i64.wrap (((n * base : Nat) : Int) + (hexv s[k] : Int)) = ((n * base + hexv s[k] : Nat) : Int) := by
     clear h4 h5 h3
     have h8 : n * base ≤ 17592186044416 := by omega
     generalize n * base = q at h8 ⊢
     rw [w64 (by omega) (by omega)]; simp
    by_cases h8 : n * base + hexv s[k] ≤ m
    ·have h9 : ¬ m < n * base + hexv s[k] := by omega
     rw [decide_eq_false h9] at h4
     simp only [q2s.L6.t, Tr.val, getD_at hk rfl, octet_Hex_f, h3, h5, h4, h6, h7, hw, decide_eq_false h1, in_rng hk, if_pos h8, lt_nat, decide_eq_true hk, cond_true, cond_false, if_true, and_self]
     simp [hbne]
    ·have h9 : m < n * base + hexv s[k] := by omega
     rw [decide_eq_true h9] at h4
     simp only [q2s.L6.t, Tr.val, getD_at hk rfl, octet_Hex_f, h3, h5, h4, h6, h7, hw, decide_eq_false h1, in_rng hk, if_neg h8, lt_nat, decide_eq_true hk, cond_true, cond_false, if_true, and_self]
     simp [hbne]
  ·split at h
   ·cases h; assumption
   ·cases h
 ·intro n _
  simp [q2s.L6.t, Tr.val]
 ·congr 1
  have : ∀ (l : List UInt8) (n : Nat), n ≤ m → foldE (fun n c => if n * base + hexv c ≤ m then (.inl (n * base + hexv c) : Nat ⊕ (Int ⊕ (Int × Int))) else .inr (.inr (0, 23))) (fun n => Sum.inl ((n : Nat) : Int)) n l = if valN base n l ≤ m then .inl ((valN base n l : Nat) : Int) else .inr (0, 23) := by
   intro l
   induction l with
   | nil => intro n h; simp [foldE, valN, h]
   | cons c l ih =>
    intro n h
    rw [foldE, valN_cons]
    by_cases h8 : n * base + hexv c ≤ m
    ·rw [if_pos h8]; exact ih _ h8
    ·rw [if_neg h8]
     have := valN_ge (base := base) (by omega) l (n * base + hexv c)
     rw [if_neg (by omega)]
  exact this s 0 (Nat.zero_le _)
theorem mx2_nat (most : Int) : mx2 most 0 = ((max most 0).toNat : Int) := by
 unfold mx2
 simp
 omega
theorem number_read_f {base : Nat} {kind most : Int} {s : List UInt8} (hk : ∀ c, isKind kind c = isDig base c) (hb : 2 ≤ base) (hb2 : base ≤ 16) (hm : most ≤ 1099511627776) (hn : s.length < 1125899906842624) :
  q2s.f s (base : Int) most kind = some (numS base most s) := by
 unfold q2s.f q2s.t numS
 rw [octet_All1 hn, mx2_nat, number_loop hb hb2 (by omega) hn]
 have e : s.all (isKind kind) = s.all (isDig base) := by congr 1; funext c; exact hk c
 rw [e]
 by_cases h0 : s = []
 ·subst h0; simp [Tr.val]
 ·have h1 : (s == []) = false := by simpa using h0
  cases h2 : s.all (isDig base) with
  | false => simp [Tr.val, h0]
  | true =>
   by_cases h3 : valN base 0 s ≤ (max most 0).toNat
   ·have h4 : (valN base 0 s : Int) ≤ max most 0 := by omega
    simp only [Tr.val, h1, if_pos h3, if_pos h4, cond_false, Bool.not_true]; simp [h0]
   ·have h4 : ¬ (valN base 0 s : Int) ≤ max most 0 := by omega
    simp only [Tr.val, h1, if_neg h3, if_neg h4, cond_false, Bool.not_true]; simp [h0]
theorem number_Dec_f {most : Int} {s : List UInt8} (hm : most ≤ 1099511627776) (hn : s.length < 1125899906842624) : q2m.f s most = some (numS 10 most s) := by
 unfold q2m.f q2m.t
 rw [show (10 : Int) = ((10 : Nat) : Int) from rfl, number_read_f (fun c => by simp [isKind, isDig10]) (by decide) (by decide) hm hn]
 simp [Tr.val]
theorem trim_front {s : List UInt8} (hn : s.length < 1125899906842624) : qcd.L1.f s = some (s.dropWhile isBlank) := by
 unfold qcd.L1.f
 refine Loop_front (p := isBlank) ?_ ?_ hn
 ·simp [qcd.L1.t, Tr.val]
 ·intro c l _
  cases h : isBlank c <;> simp [qcd.L1.t, Tr.val, octet_Blank_f, h] <;> omega
theorem snoc_wrap {l : List UInt8} {c : UInt8} (hn : l.length < 1125899906842624) : IntKind.i64.wrap (((l ++ [c]).length : Int) - 1) = (l.length : Int) := by
 rw [List.length_append]
 simp only [List.length_cons, List.length_nil]
 rw [w64 (by omega) (by omega)]
 omega
theorem trim_end {s : List UInt8} (hn : s.length < 1125899906842624) : qcd.L3.f s = some (dropEnd isBlank s) := by
 unfold qcd.L3.f
 refine Loop_end (p := isBlank) ?_ ?_ hn
 ·simp [qcd.L3.t, Tr.val]
 ·intro l c hl
  have h1 := snoc_wrap (l := l) (c := c) (by omega)
  have h2 : ((l ++ [c]) == []) = false := by simp
  have h3 : (l ++ [c]).getD l.length 0 = c := by simp
  unfold qcd.L3.t
  rw [h1]
  simp only [Tr.val, h2, Int.toNat_natCast, h3, octet_Blank_f]
  cases h : isBlank c <;> simp <;> omega
theorem text_Trim_f {s : List UInt8} (hn : s.length < 1125899906842624) : qc4.f s = some (trim s) := by
 unfold qc4.f qc4.t qcd.f qcd.t trim trimP
 rw [trim_front hn]
 have := (List.dropWhile_sublist isBlank (l := s)).length_le
 simp only [Tr.val, trim_end (s := List.dropWhile isBlank s) (by omega)]
theorem lower_set {s : List UInt8} {k : Nat} (hk : k < s.length) (b : UInt8) : ((s.take k).map lowerC ++ s.drop k).set k b = (s.take k).map lowerC ++ b :: s.drop (k + 1) := by
 rw [List.set_append_right _ _ (by simp; omega)]
 have e : k - ((s.take k).map lowerC).length = 0 := by simp; omega
 rw [e, List.drop_eq_getElem_cons hk]
 rfl
theorem lower_next {s : List UInt8} {k : Nat} (hk : k < s.length) : (s.take (k + 1)).map lowerC ++ s.drop (k + 1) = (s.take k).map lowerC ++ lowerC s[k] :: s.drop (k + 1) := by
 rw [List.take_add_one, List.getElem?_eq_getElem hk, List.map_append, List.append_assoc]
 rfl
theorem lower_at {s : List UInt8} {k : Nat} (hk : k < s.length) : ((s.take k).map lowerC ++ s.drop k).getD k 0 = s[k] := by
 rw [List.getD_eq_getElem?_getD, List.getElem?_append_right (by simp; omega)]
 simp [Nat.min_eq_left (Nat.le_of_lt hk), hk]
theorem lower_len {s : List UInt8} {k : Nat} (hk : k ≤ s.length) : ((s.take k).map lowerC ++ s.drop k).length = s.length := by
 simp; omega
theorem lower_byte (c : UInt8) (h1 : (c.toNat : Int) ≥ 65) (h2 : (c.toNat : Int) ≤ 90) : IntKind.u8.wrap (IntKind.u8.wrap ((c.toNat : Int) + 97) - 65) = ((c.toNat + 32 : Nat) : Int) ∧ UInt8.ofNat (c.toNat + 32) = lowerC c := by
 have := all256 (p := fun c => !(decide ((c.toNat : Int) ≥ 65) && decide ((c.toNat : Int) ≤ 90)) || (decide (IntKind.u8.wrap (IntKind.u8.wrap ((c.toNat : Int) + 97) - 65) = ((c.toNat + 32 : Nat) : Int)) && (UInt8.ofNat (c.toNat + 32) == lowerC c))) (by decide +kernel) c
 simpa [h1, h2] using this
theorem lower_not (c : UInt8) (h : ¬ ((c.toNat : Int) ≥ 65 ∧ (c.toNat : Int) ≤ 90)) : lowerC c = c := by
 have := all256 (p := fun c => (decide ((c.toNat : Int) ≥ 65) && decide ((c.toNat : Int) ≤ 90)) || (lowerC c == c)) (by decide +kernel) c
 simpa [h] using this
theorem text_Lower_f {s : List UInt8} (hn : s.length < 140737488355328) : qby.f s = some (lower s) := by
 have hL : qby.L3.f s (s.length : Int) 0 = some (lower s) := by
  unfold qby.L3.f
  refine (Loop_list (A := Unit) (a := ()) s (fun k _ => ((s.take k).map lowerC ++ s.drop k, (k : Int))) (fun _ _ => True) (fun _ _ => .inl ()) (fun _ => lower s) ?_ ?_ (by omega) trivial (by simp)).trans ?_
  ·intro k a c _ hk hc
   refine ⟨?_, fun _ _ => trivial⟩
   subst hc
   have hw := wS (k := k) (by omega)
   have ha := lower_at hk
   have hl := lower_len (Nat.le_of_lt hk)
   unfold qby.L3.t
   simp only [Int.toNat_natCast, Nat.zero_add, ha, hl, lt_nat, decide_eq_true hk, hw, lower_next hk]
   by_cases h1 : (s[k].toNat : Int) ≥ 65
   ·by_cases h2 : (s[k].toNat : Int) ≤ 90
    ·obtain ⟨q1, q2⟩ := lower_byte s[k] h1 h2
     rw [q1]
     simp only [Tr.val, h1, h2, decide_true, cond_true, Int.toNat_natCast, q2, lower_set hk, List.length_set, hl]
     simp [hk]
     omega
    ·have := lower_not s[k] (fun h => h2 h.2)
     simp only [Tr.val, h1, h2, decide_true, decide_false, cond_true, cond_false, this]
     simp [hk]
   ·have := lower_not s[k] (fun h => h1 h.1)
    simp only [Tr.val, h1, decide_true, decide_false, cond_true, cond_false, this]
    simp [hk]
  ·intro a _
   simp [qby.L3.t, Tr.val, lower]
  ·have : ∀ (l : List UInt8), foldE (fun (_ : Unit) (_ : UInt8) => (Sum.inl () : Unit ⊕ List UInt8)) (fun _ => lower s) () l = lower s := by
    intro l
    induction l with
    | nil => rfl
    | cons c l ih => exact ih
   rw [this]
 unfold qby.f qby.t
 rw [List.nil_append, hL]
 simp [Tr.val]
 omega
theorem text_Same_f {a b : List UInt8} (ha : a.length < 140737488355328) (hb : b.length < 140737488355328) : qc1.f a b = some (same a b) := by
 unfold qc1.f qc1.t
 rw [text_Lower_f ha, text_Lower_f hb]
 rfl
theorem indexByte_cases (c : UInt8) (s : List UInt8) : Lib.indexByte s c = if s.contains c = true then ((before c s).length : Int) else -1 := by
 by_cases h : s.contains c = true
 ·rw [if_pos h, indexByte_is h]
 ·rw [if_neg h, indexByte_not (by simpa using h)]
end Pl
end Go.Vx
end
section
set_option linter.unusedVariables false
set_option linter.unusedSimpArgs false
set_option maxRecDepth 100000
namespace Go.Vx
namespace Pl
open Go Go.Proofs
theorem number_Hex_f {most : Int} {s : List UInt8} (hm : most ≤ 1099511627776) (hn : s.length < 1125899906842624) : q2p.f s most = some (numS 16 most s) := by
 unfold q2p.f q2p.t
 rw [show (16 : Int) = ((16 : Nat) : Int) from rfl, number_read_f (fun c => by simp [isKind, isDig16]) (by decide) (by decide) hm hn]
 simp [Tr.val]
theorem take_all {α : Type} (l : List α) : List.take l.length (List.drop 0 l) = l := by simp
theorem slite_f (s : List UInt8) (c : UInt8) : q9g.f s (c.toNat : Int) = some (if s.contains c = true then ((before c s).length : Int) else -1) := by
 unfold q9g.f
 have : ((c.toNat : Int)).toNat.toUInt8 = c := by simp
 rw [this, indexByte_cases]
theorem before_one {c : UInt8} {s : List UInt8} (h : [c] = s) : s.contains c = true ∧ (before c s).length = 0 := by
 subst h; simp [before]
theorem index20_f (s : List UInt8) : qaj.f s = some (if s.contains 32 = true then ((before 32 s).length : Int) else -1) := by
 unfold qaj.f qaj.t q1i.f q1i.t
 rw [show (32 : Int) = ((32 : UInt8).toNat : Int) from rfl, slite_f]
 by_cases h : [(32 : UInt8)] = s
 ·have := before_one h
  simp only [Tr.val, beq_iff_eq.2 h, cond_true, this.1, this.2, if_true]
  rfl
 ·simp [Tr.val, beq_eq_false_iff_ne.2 h]
theorem index2c_f (s : List UInt8) : qam.f s = some (if s.contains 44 = true then ((before 44 s).length : Int) else -1) := by
 unfold qam.f qam.t q1l.f q1l.t
 rw [show (44 : Int) = ((44 : UInt8).toNat : Int) from rfl, slite_f]
 by_cases h : [(44 : UInt8)] = s
 ·have := before_one h
  simp only [Tr.val, beq_iff_eq.2 h, cond_true, this.1, this.2, if_true]
  rfl
 ·simp [Tr.val, beq_eq_false_iff_ne.2 h]
theorem index3a_f (s : List UInt8) : q1o.f s = some (if s.contains 58 = true then ((before 58 s).length : Int) else -1) := by
 unfold q1o.f q1o.t
 rw [show (58 : Int) = ((58 : UInt8).toNat : Int) from rfl, slite_f]
 by_cases h : [(58 : UInt8)] = s
 ·have := before_one h
  simp only [Tr.val, beq_iff_eq.2 h, cond_true, this.1, this.2, if_true]
  rfl
 ·simp [Tr.val, beq_eq_false_iff_ne.2 h]
theorem index3f_f (s : List UInt8) : q1u.f s = some (if s.contains 63 = true then ((before 63 s).length : Int) else -1) := by
 unfold q1u.f q1u.t
 rw [show (63 : Int) = ((63 : UInt8).toNat : Int) from rfl, slite_f]
 by_cases h : [(63 : UInt8)] = s
 ·have := before_one h
  simp only [Tr.val, beq_iff_eq.2 h, cond_true, this.1, this.2, if_true]
  rfl
 ·simp [Tr.val, beq_eq_false_iff_ne.2 h]
def cutT (idx : Option Int) (s : List UInt8) : Tr (List UInt8 × List UInt8 × Bool) :=
 .call idx fun y1 =>
 .br (decide (y1 ≥ (0 : Int))) (.chk ((0 : Int) ≤ (0 : Int) ∧ (0 : Int) ≤ y1 ∧ y1 ≤ (↑s.length : Int)) <| .chk ((0 : Int) ≤ IntKind.i64.wrap (y1 + (1 : Int)) ∧ IntKind.i64.wrap (y1 + (1 : Int)) ≤ (↑s.length : Int) ∧ (↑s.length : Int) ≤ (↑s.length : Int)) <| .ret (List.drop (↑(0 : Nat) : Int).toNat (List.take y1.toNat s), List.drop (IntKind.i64.wrap (y1 + (1 : Int))).toNat (List.take (↑s.length : Int).toNat s), true))
 (.ret (s, [], false))
theorem cutT_f {c : UInt8} {s : List UInt8} (hn : s.length < 1125899906842624) : (cutT (some (if s.contains c = true then ((before c s).length : Int) else -1)) s).val = some (cutC c s) := by
 unfold cutC cutT
 by_cases h : s.contains c = true
 ·have hl := before_len h
  have hw := wS (k := (before c s).length) (by omega)
  simp only [if_pos h, Tr.val, hw, Int.toNat_natCast, take_before h]
  rw [if_pos (by omega), if_pos (by omega)]
  simp [drop_after h]
 ·simp only [if_neg h]
  simp [Tr.val]
theorem cut3a_f {s : List UInt8} (hn : s.length < 1125899906842624) : q9p.f s = some (cutC 58 s) := by
 have h1 : q0x.f s = some (cutC 58 s) := by
  unfold q0x.f
  show (cutT (q1o.f s) s).val = _
  rw [index3a_f, cutT_f hn]
 unfold q9p.f q9p.t
 rw [h1]; rfl
theorem cut3f_f {s : List UInt8} (hn : s.length < 1125899906842624) : q9v.f s = some (cutC 63 s) := by
 have h1 : q13.f s = some (cutC 63 s) := by
  unfold q13.f
  show (cutT (q1u.f s) s).val = _
  rw [index3f_f, cutT_f hn]
 unfold q9v.f q9v.t
 rw [h1]; rfl
theorem contains3a_f (s : List UInt8) : q9j.f s = some (s.contains 58) := by
 unfold q9j.f q9j.t qap.f qap.t
 rw [index3a_f]
 cases h : s.contains 58 <;> simp [Tr.val]
def gsT (idx : List UInt8 → Option Int) (va : List (List UInt8)) (s : List UInt8) (sepSave : Int) (n : Int) (i : Int) : Tr ((List (List UInt8) × List UInt8 × Int) ⊕ (List (List UInt8) × List UInt8 × Int)) :=
 .br (decide (i < n)) (.call (idx s) fun y1 =>
  .br (decide (y1 < (0 : Int))) (.ok ((0 : Nat) = (0 : Nat) ∧ va.length = va.length) ⟨rfl, rfl⟩ <| .ret (.inr (va, s, i)))
  (.chk ((0 : Int) ≤ (0 : Int) ∧ (0 : Int) ≤ IntKind.i64.wrap (y1 + sepSave) ∧ IntKind.i64.wrap (y1 + sepSave) ≤ (↑s.length : Int)) <| .chk ((0 : Int) ≤ i ∧ i < (↑va.length : Int)) <| .chk ((0 : Nat) + i.toNat < va.length) <| .chk ((0 : Int) ≤ IntKind.i64.wrap (y1 + (1 : Int)) ∧ IntKind.i64.wrap (y1 + (1 : Int)) ≤ (↑s.length : Int) ∧ (↑s.length : Int) ≤ (↑s.length : Int)) <| .chk ((0 : Nat) = (0 : Nat) ∧ va.length = (va.set ((0 : Nat) + i.toNat) (List.drop (↑(0 : Nat) : Int).toNat (List.take (IntKind.i64.wrap (y1 + sepSave)).toNat s))).length) <| .ret (.inl (va.set ((0 : Nat) + i.toNat) (List.drop (↑(0 : Nat) : Int).toNat (List.take (IntKind.i64.wrap (y1 + sepSave)).toNat s)), List.drop (IntKind.i64.wrap (y1 + (1 : Int))).toNat (List.take (↑s.length : Int).toNat s), IntKind.i64.wrap (i + (1 : Int))))))
 (.ok ((0 : Nat) = (0 : Nat) ∧ va.length = va.length) ⟨rfl, rfl⟩ <| .ret (.inr (va, s, i)))
theorem gs_step {idx : List UInt8 → Option Int} {c : UInt8} (hidx : ∀ s, idx s = some (if s.contains c = true then ((before c s).length : Int) else -1)) {va : List (List UInt8)} {s : List UInt8} {i n : Nat} (hi : i < n) (hv : i < va.length) (hvl : va.length < 1125899906842624) (hn : s.length < 1125899906842624) (h : s.contains c = true) :
  (gsT idx va s 0 (n : Int) (i : Int)).val = some (.inl (va.set i (before c s), after c s, ((i + 1 : Nat) : Int))) := by
 have hl := before_len h
 have hw := wS (k := (before c s).length) (by omega)
 have hw0 : IntKind.i64.wrap (((before c s).length : Int) + 0) = ((before c s).length : Int) := w64 (by omega) (by omega)
 have hwi := wS (k := i) (by omega)
 unfold gsT
 rw [hidx]
 have hneg : ¬ ((before c s).length : Int) < 0 := by omega
 simp only [if_pos h, Tr.val, hw, hw0, hwi, Int.toNat_natCast, Nat.zero_add, take_before h, decide_eq_false hneg, lt_nat, decide_eq_true hi, cond_true, cond_false, List.length_set]
 rw [if_pos (by omega), if_pos (by omega), if_pos hv, if_pos (by omega), if_pos (by simp)]
 simp [drop_after h]
theorem gs_loop {idx : List UInt8 → Option Int} {c : UInt8} (hidx : ∀ s, idx s = some (if s.contains c = true then ((before c s).length : Int) else -1)) {n : Nat} : ∀ (k : Nat) (va : List (List UInt8)) (s : List UInt8) (i m : Nat), s.count c = k → va.length = n + 1 → i + k = n → va.length < 1125899906842624 → s.length < 1125899906842624 → k < m →
  ∃ va' s', iter (fun z : List (List UInt8) × List UInt8 × Int => gsT idx z.1 z.2.1 0 (n : Int) z.2.2) m (va, s, (i : Int)) = some (va', s', (n : Int)) ∧ va'.length = n + 1 ∧ va'.set n s' = va.take i ++ splitC c s := by
 intro k
 induction k with
 | zero =>
  intro va s i m hc hv hi hvl hn hm
  have hns : s.contains c = false := by
   have := List.count_eq_zero.1 hc
   simpa using this
  have hin : i = n := by omega
  subst hin
  obtain ⟨m, rfl⟩ : ∃ m', m = m' + 1 := ⟨m - 1, by omega⟩
  refine ⟨va, s, ?_, hv, ?_⟩
  ·rw [iter]
   simp [gsT, Tr.val]
  ·rw [splitC_not hns]
   apply List.ext_getElem?
   intro j
   rw [List.getElem?_set]
   rcases Nat.lt_trichotomy j i with h | h | h
   ·rw [if_neg (by omega), List.getElem?_append_left (by simp; omega), List.getElem?_take_of_lt h]
   ·subst h
    have ht : (va.take j).length = j := by simp; omega
    rw [if_pos rfl, if_pos (by omega), List.getElem?_append_right (by omega), ht, Nat.sub_self]
    rfl
   ·rw [if_neg (by omega), List.getElem?_eq_none (by omega), List.getElem?_eq_none (by simp; omega)]
 | succ k ih =>
  intro va s i m hc hv hi hvl hn hm
  have hs : s.contains c = true := by
   have : 0 < s.count c := by omega
   have := List.count_pos_iff.1 this
   simpa using this
  obtain ⟨m, rfl⟩ : ∃ m', m = m' + 1 := ⟨m - 1, by omega⟩
  have hl := before_len hs
  have hcnt : (after c s).count c = k := by
   have h1 := splitC_len c s.length s (Nat.le_refl _)
   have h2 := splitC_len c (after c s).length (after c s) (Nat.le_refl _)
   rw [splitC_is hs, List.length_cons] at h1
   omega
  obtain ⟨va', s', h1, h2, h3⟩ := ih (va.set i (before c s)) (after c s) (i + 1) m hcnt (by simpa using hv) (by omega) (by simpa using hvl) (by omega) (by omega)
  refine ⟨va', s', ?_, h2, ?_⟩
  ·rw [iter]
   simp only [gs_step hidx (show i < n by omega) (show i < va.length by omega) hvl hn hs]
   exact h1
  ·rw [h3, splitC_is hs]
   have : (va.set i (before c s)).take (i + 1) = va.take i ++ [before c s] := by
    have ht : (va.take i).length = i := by simp; omega
    rw [List.take_set, List.take_add_one, List.getElem?_eq_getElem (show i < va.length by omega), List.set_append_right _ _ (by omega), ht, Nat.sub_self]
    rfl
   rw [this, List.append_assoc]
   rfl
end Pl
end Go.Vx
end
section
set_option linter.unusedVariables false
set_option linter.unusedSimpArgs false
set_option maxRecDepth 100000
namespace Go.Vx
namespace Pl
open Go Go.Proofs
def splitT (idx : List UInt8 → Option Int) (cnt : Option Int) (s : List UInt8) : Tr (List (List UInt8)) :=
 .call cnt fun y1 =>
  .chk ((0 : Int) ≤ mn2 (IntKind.i64.wrap (y1 + (1 : Int))) (IntKind.i64.wrap ((↑s.length : Int) + (1 : Int))) ∧ mn2 (IntKind.i64.wrap (y1 + (1 : Int))) (IntKind.i64.wrap ((↑s.length : Int) + (1 : Int))) ≤ mn2 (IntKind.i64.wrap (y1 + (1 : Int))) (IntKind.i64.wrap ((↑s.length : Int) + (1 : Int))) ∧ mn2 (IntKind.i64.wrap (y1 + (1 : Int))) (IntKind.i64.wrap ((↑s.length : Int) + (1 : Int))) * (↑(16 : Nat) : Int) ≤ (140737488355328 : Int) ∧ mn2 (IntKind.i64.wrap (y1 + (1 : Int))) (IntKind.i64.wrap ((↑s.length : Int) + (1 : Int))) ≤ (140737488355328 : Int)) <| .chk ((0 : Nat) = (0 : Nat) ∧ (mn2 (IntKind.i64.wrap (y1 + (1 : Int))) (IntKind.i64.wrap ((↑s.length : Int) + (1 : Int)))).toNat = (List.replicate (mn2 (IntKind.i64.wrap (y1 + (1 : Int))) (IntKind.i64.wrap ((↑s.length : Int) + (1 : Int)))).toNat ([] : List UInt8)).length) <| .call (Loop (fun z : List (List UInt8) × List UInt8 × Int => gsT idx z.1 z.2.1 0 (IntKind.i64.wrap (mn2 (IntKind.i64.wrap (y1 + (1 : Int))) (IntKind.i64.wrap ((↑s.length : Int) + (1 : Int))) - (1 : Int))) z.2.2) ((List.replicate (mn2 (IntKind.i64.wrap (y1 + (1 : Int))) (IntKind.i64.wrap ((↑s.length : Int) + (1 : Int)))).toNat ([] : List UInt8)), s, (0 : Int))) fun y2 =>
  .chk ((0 : Int) ≤ y2.snd.snd ∧ y2.snd.snd < (↑y2.fst.length : Int)) <| .chk ((0 : Nat) + y2.snd.snd.toNat < y2.fst.length) <| .chk ((0 : Int) ≤ (0 : Int) ∧ (0 : Int) ≤ IntKind.i64.wrap (y2.snd.snd + (1 : Int)) ∧ IntKind.i64.wrap (y2.snd.snd + (1 : Int)) ≤ (↑y2.fst.length : Int)) <| .chk ((0 : Nat) = (0 : Nat) ∧ (IntKind.i64.wrap (y2.snd.snd + (1 : Int)) - (↑(0 : Nat) : Int)).toNat = (y2.fst.set ((0 : Nat) + y2.snd.snd.toNat) y2.snd.fst).length) <| .ret (y2.fst.set ((0 : Nat) + y2.snd.snd.toNat) y2.snd.fst)
theorem splitT_f {idx : List UInt8 → Option Int} {c : UInt8} (hidx : ∀ s, idx s = some (if s.contains c = true then ((before c s).length : Int) else -1)) {s : List UInt8} (hn : s.length ≤ 1099511627776) :
  (splitT idx (some ((s.count c : Nat) : Int)) s).val = some (splitC c s) := by
 have hcl : s.count c ≤ s.length := List.count_le_length
 have e1 := wS (k := s.count c) (by omega)
 have e2 := wS (k := s.length) (by omega)
 have e3 : mn2 (((s.count c + 1 : Nat) : Int)) (((s.length + 1 : Nat) : Int)) = ((s.count c + 1 : Nat) : Int) := by rw [mn2_eq]; omega
 have e4 : IntKind.i64.wrap (((s.count c + 1 : Nat) : Int) - 1) = ((s.count c : Nat) : Int) := by rw [w64 (by omega) (by omega)]; omega
 obtain ⟨va, s', h1, h2, h3⟩ := gs_loop hidx (n := s.count c) (s.count c) (List.replicate (s.count c + 1) []) s 0 rounds rfl (by simp) (by omega) (by simp; omega) (by omega) (by unfold rounds; omega)
 have hL : Loop (fun z : List (List UInt8) × List UInt8 × Int => gsT idx z.1 z.2.1 0 ((s.count c : Nat) : Int) z.2.2) (List.replicate (s.count c + 1) [], s, 0) = some (va, s', ((s.count c : Nat) : Int)) := h1
 unfold splitT
 simp only [Tr.val, e1, e2, e3, e4, Int.toNat_natCast, hL, Nat.zero_add, h2, List.length_set, List.length_replicate]
 rw [if_pos (by omega), if_pos (by simp), if_pos (by omega), if_pos (by omega), if_pos (by omega), if_pos (by simp), h3]
 simp
theorem split20_f {s : List UInt8} (hn : s.length ≤ 1099511627776) : qas.f s = some (splitC 32 s) := by
 have h : qb4.f s 0 (-1) = some (splitC 32 s) := by
  rw [← splitT_f index20_f hn]; rfl
 unfold qas.f qas.t
 rw [h]; rfl
theorem split2c_f {s : List UInt8} (hn : s.length ≤ 1099511627776) : qav.f s = some (splitC 44 s) := by
 have h : qb7.f s 0 (-1) = some (splitC 44 s) := by
  rw [← splitT_f index2c_f hn]; rfl
 unfold qav.f qav.t
 rw [h]; rfl
theorem splitC_small {c : UInt8} : ∀ (n : Nat) {s : List UInt8}, s.length ≤ n → ∀ x ∈ splitC c s, x.length ≤ s.length
 | 0, s, h, x, hx => by
  have : s = [] := List.length_eq_zero_iff.1 (by omega)
  subst this
  simp [splitC] at hx
  subst hx
  simp
 | n + 1, s, h, x, hx => by
  by_cases hc : s.contains c = true
  ·have hl := before_len hc
   rw [splitC_is hc] at hx
   rcases List.mem_cons.1 hx with rfl | hx
   ·omega
   ·have := splitC_small n (show (after c s).length ≤ n by omega) x hx
    omega
  ·rw [splitC_not (by simpa using hc)] at hx
   simp at hx
   subst hx
   exact Nat.le_refl _
def Fit (N : Nat) (l : List (List UInt8)) : Prop := ∀ x ∈ l, x.length ≤ N
theorem gather {α β : Type} (g : α → List β) : ∀ (l : List α) (out : List β), foldE (fun out x => (Sum.inl (out ++ g x) : List β ⊕ List β)) id out l = out ++ l.flatMap g
 | [], out => by simp [foldE]
 | x :: l, out => by
  show foldE (fun out x => (Sum.inl (out ++ g x) : List β ⊕ List β)) id (out ++ g x) l = _
  rw [gather g l]; simp
theorem flatMap_one {α β : Type} (g : α → β) (l : List α) : (l.flatMap fun x => [g x]) = l.map g := by
 induction l with
 | nil => rfl
 | cons x l ih => simp [ih]
theorem list_inner {values out t15 : List (List UInt8)} (h1 : Fit 1099511627776 t15) (h2 : out.length + t15.length ≤ 4398046511104) : qbv.L6.f values out t15 (t15.length : Int) 0 = some (out ++ t15.map trim) := by
 unfold qbv.L6.f
 refine (Loop_list (A := List (List UInt8)) (a := out) t15 (fun k o => (o, (k : Int))) (fun k o => o.length = out.length + k) (fun o x => .inl (o ++ [trim x])) id ?_ ?_ (by omega) (by simp) rfl).trans ?_
 ·intro k o x ho hk hx
  have hw := wS (k := k) (by omega)
  have hx' : x.length < 1125899906842624 := by
   have := h1 x (by rw [← hx]; exact List.getElem_mem hk)
   omega
  refine ⟨?_, fun a' h => by cases h; simp [ho]; omega⟩
  unfold qbv.L6.t
  simp only [Nat.zero_add, getD_at hk hx, text_Trim_f hx', Tr.val, lt_nat, decide_eq_true hk, cond_true, take_all, hw]
  rw [if_pos (by omega), if_pos (by simpa using hk), if_pos (by omega), if_pos (by omega), if_pos (by simp)]
 ·intro o _
  simp [qbv.L6.t, Tr.val]
 ·congr 1
  have := gather (fun x => [trim x]) t15 out
  rw [this, flatMap_one]
theorem list_outer {values : List (List UInt8)} (h1 : Fit 1099511627776 values) (h2 : (listS values).length ≤ 4398046511104) (h3 : values.length ≤ 4398046511104) : qbv.f values = some (listS values) := by
 have hL : qbv.L3.f values [] (values.length : Int) 0 = some (listS values) := by
  unfold qbv.L3.f
  refine (Loop_list (A := List (List UInt8)) (a := []) values (fun k o => (o, (k : Int))) (fun k o => o = listS (values.take k)) (fun o x => .inl (o ++ (splitC 44 x).map trim)) id ?_ ?_ (by omega) (by simp [listS]) rfl).trans ?_
  ·intro k o x ho hk hx
   have hw := wS (k := k) (by omega)
   have hx' : x.length ≤ 1099511627776 := h1 x (by rw [← hx]; exact List.getElem_mem hk)
   have hnext : listS (values.take (k + 1)) = o ++ (splitC 44 x).map trim := by
    rw [ho, List.take_add_one, List.getElem?_eq_getElem hk, hx]
    unfold listS
    rw [List.flatMap_append]
    simp
   have hle : o.length + (splitC 44 x).length ≤ 4398046511104 := by
    have e1 : (listS (values.take (k + 1))).length ≤ (listS values).length := by
     conv => rhs; rw [← List.take_append_drop (k + 1) values]
     unfold listS
     rw [List.flatMap_append, List.length_append]
     omega
    rw [hnext] at e1
    simp at e1
    omega
   refine ⟨?_, fun a' h => by cases h; exact hnext.symm⟩
   have hfit : Fit 1099511627776 (splitC 44 x) := fun y hy => by
    have := splitC_small x.length (Nat.le_refl _) y hy
    omega
   unfold qbv.L3.t
   simp only [Nat.zero_add, getD_at hk hx, split2c_f hx', list_inner hfit hle, Tr.val, lt_nat, decide_eq_true hk, cond_true, hw]
   rw [if_pos (by omega), if_pos (by simpa using hk)]
  ·intro o _
   simp [qbv.L3.t, Tr.val]
  ·congr 1
   have := gather (fun x => (splitC 44 x).map trim) values []
   rw [this]
   rfl
 unfold qbv.f qbv.t
 rw [hL]; rfl
theorem find_loop {l : List (List UInt8 × List UInt8)} {name : List UInt8} (h1 : ∀ f ∈ l, f.1.length < 140737488355328) (hname : name.length < 140737488355328) (h2 : l.length ≤ 4398046511104) : qbs.f l name = some (findS l name) := by
 have hL : qbs.L3.f l [] name (l.length : Int) 0 = some (findS l name) := by
  unfold qbs.L3.f
  refine (Loop_list (A := List (List UInt8)) (a := []) l (fun k o => (o, (k : Int))) (fun k o => o.length ≤ k) (fun o x => .inl (o ++ if same x.1 name = true then [x.2] else [])) id ?_ ?_ (by omega) (by simp) rfl).trans ?_
  ·intro k o x ho hk hx
   have hw := wS (k := k) (by omega)
   have hx' := h1 x (by rw [← hx]; exact List.getElem_mem hk)
   refine ⟨?_, fun a' h => by cases h; split <;> simp <;> omega⟩
   unfold qbs.L3.t
   simp only [Nat.zero_add, getD_at hk hx, text_Same_f hx' hname, Tr.val, lt_nat, decide_eq_true hk, cond_true, take_all, hw]
   rw [if_pos (by omega), if_pos (by simpa using hk)]
   cases hs : same x.1 name with
   | true =>
    simp only [cond_true, if_true]
    rw [if_pos (by omega), if_pos (by omega), if_pos (by simp)]
   | false => simp
  ·intro o _
   simp [qbs.L3.t, Tr.val]
  ·congr 1
   rw [gather]
   unfold findS
   clear h1 h2
   induction l with
   | nil => rfl
   | cons x l ih =>
    simp only [List.nil_append, List.flatMap_cons] at ih ⊢
    rw [ih, List.filter_cons]
    split <;> simp
 unfold qbs.f qbs.t
 rw [hL]; rfl
def pctStep : List UInt8 → Nat ⊕ (Unit ⊕ Bool)
 | a :: b :: _ => if (isHex a && isHex b) = true then .inl 3 else .inr (.inr false)
 | _ => .inr (.inr false)
def signStep (others : List UInt8) (pct : Bool) : List UInt8 → Nat ⊕ (Unit ⊕ Bool)
 | [] => .inr (.inl ())
 | c :: l => if (isDigit c || isLetter c || others.contains c) = true then .inl 1 else if (pct && c == 37) = true then pctStep l else .inr (.inr false)
theorem signsGo_cons (others : List UInt8) (pct : Bool) (c : UInt8) (l : List UInt8) : signsGo others pct (c :: l) = if (isDigit c || isLetter c || others.contains c) = true then signsGo others pct l else if (pct && c == 37) = true then (match l with
  | a :: b :: l' => isHex a && isHex b && signsGo others pct l'
  | _ => false)
 else false := by
 cases l with
 | nil => simp [signsGo]
 | cons a l =>
  cases l with
  | nil => simp [signsGo]
  | cons b l => rw [signsGo]
theorem signStep_pos {others : List UInt8} {pct : Bool} {l : List UInt8} {j : Nat} (h : signStep others pct l = .inl j) : 0 < j ∧ j ≤ l.length := by
 cases l with
 | nil => simp [signStep] at h
 | cons c l =>
  unfold signStep at h
  simp only at h
  by_cases h1 : (isDigit c || isLetter c || others.contains c) = true
  ·rw [if_pos h1] at h
   cases h
   simp
  ·rw [if_neg h1] at h
   by_cases h2 : (pct && c == 37) = true
   ·rw [if_pos h2] at h
    cases l with
    | nil => cases h
    | cons a l =>
     cases l with
     | nil => cases h
     | cons b l =>
      simp only [pctStep] at h
      by_cases h3 : (isHex a && isHex b) = true
      ·rw [if_pos h3] at h
       cases h
       simp
      ·rw [if_neg h3] at h
       cases h
   ·rw [if_neg h2] at h
    cases h
theorem signs_spec (others : List UInt8) (pct : Bool) (l : List UInt8) : (if signsGo others pct l = true then (Sum.inl () : Unit ⊕ Bool) else .inr false) = goOn (fun l => if signsGo others pct l = true then (Sum.inl () : Unit ⊕ Bool) else .inr false) l (signStep others pct l) := by
 cases l with
 | nil => rfl
 | cons c l =>
  rw [signsGo_cons]
  unfold signStep
  by_cases h1 : (isDigit c || isLetter c || others.contains c) = true
  ·simp only [if_pos h1, goOn, List.drop_succ_cons, List.drop_zero]
  ·simp only [if_neg h1]
   by_cases h2 : (pct && c == 37) = true
   ·simp only [if_pos h2]
    cases l with
    | nil => rfl
    | cons a l =>
     cases l with
     | nil => rfl
     | cons b l =>
      by_cases h3 : (isHex a && isHex b) = true
      ·simp only [pctStep, if_pos h3, goOn, h3, Bool.true_and]
       rfl
      ·simp only [pctStep, if_neg h3, goOn, (by simpa using h3 : (isHex a && isHex b) = false), Bool.false_and]
       rfl
   ·simp only [if_neg h2]
    rfl
theorem letter_or (c : UInt8) : ((decide (IntKind.u8.wrap (↑(BitVec.ofInt IntKind.u8.bits (c.toNat : Int) ||| BitVec.ofInt IntKind.u8.bits (32 : Int)).toNat : Int) ≥ (97 : Int))) && (decide (IntKind.u8.wrap (↑(BitVec.ofInt IntKind.u8.bits (c.toNat : Int) ||| BitVec.ofInt IntKind.u8.bits (32 : Int)).toNat : Int) ≤ (122 : Int)))) = isLetter c := by
 have := all256 (p := fun c => ((decide (IntKind.u8.wrap (↑(BitVec.ofInt IntKind.u8.bits (c.toNat : Int) ||| BitVec.ofInt IntKind.u8.bits (32 : Int)).toNat : Int) ≥ (97 : Int))) && (decide (IntKind.u8.wrap (↑(BitVec.ofInt IntKind.u8.bits (c.toNat : Int) ||| BitVec.ofInt IntKind.u8.bits (32 : Int)).toNat : Int) ≤ (122 : Int)))) == isLetter c) (by decide +kernel) c
 simpa using this
theorem indexByte_f (s : List UInt8) (c : UInt8) : qad.f s (c.toNat : Int) = some (if s.contains c = true then ((before c s).length : Int) else -1) := by
 unfold qad.f qad.t
 rw [slite_f]; rfl
theorem drop_two {s : List UInt8} {i : Nat} {c a b : UInt8} {l : List UInt8} (h : s.drop i = c :: a :: b :: l) : List.drop (i + 1) (List.take (i + 3) s) = [a, b] := by
 have : List.drop (i + 1) (List.take (i + 3) s) = ((s.drop i).take 3).drop 1 := by
  rw [List.take_drop, List.drop_drop]
 rw [this, h]
 rfl
theorem signs_f {s others : List UInt8} {pct : Bool} (hn : s.length < 1125899906842000) : qbp.f s others pct = some (signsGo others pct s) := by
 have hL : qbp.L2.f s others pct 0 = some (if signsGo others pct s = true then .inl () else .inr false) := by
  unfold qbp.L2.f
  refine Loop_drop s (signStep others pct) (fun l => if signsGo others pct l = true then .inl () else .inr false) (signs_spec others pct) ?_ ?_ (by omega)
  ·exact fun l j h => signStep_pos h
  ·intro i hi
   by_cases hk : i < s.length
   ·have e := List.drop_eq_getElem_cons hk
    have hlen := congrArg List.length e
    simp only [List.length_drop, List.length_cons] at hlen
    have hw1 := wS (k := i) (by omega)
    have hw2 : IntKind.i64.wrap ((i : Int) + 2) = ((i + 2 : Nat) : Int) := by rw [w64 (by omega) (by omega)]; omega
    have hw3 : IntKind.i64.wrap ((i : Int) + 3) = ((i + 3 : Nat) : Int) := by rw [w64 (by omega) (by omega)]; omega
    have hw4 : IntKind.i64.wrap (((i + 2 : Nat) : Int) + 1) = ((i + 3 : Nat) : Int) := by rw [w64 (by omega) (by omega)]; omega
    have hlet := letter_or s[i]
    rw [e]
    unfold qbp.L2.t signStep
    simp only [getD_at hk rfl, octet_Digit_f, indexByte_f, Tr.val, lt_nat, decide_eq_true hk, cond_true, in_rng hk, if_true, hw1, hw2, hw3, hw4, and_self]
    generalize hA : decide (IntKind.u8.wrap (↑(BitVec.ofInt IntKind.u8.bits (s[i].toNat : Int) ||| BitVec.ofInt IntKind.u8.bits (32 : Int)).toNat : Int) ≥ (97 : Int)) = A at hlet ⊢
    generalize hB : decide (IntKind.u8.wrap (↑(BitVec.ofInt IntKind.u8.bits (s[i].toNat : Int) ||| BitVec.ofInt IntKind.u8.bits (32 : Int)).toNat : Int) ≤ (122 : Int)) = B at hlet ⊢
    rw [← hlet]
    have h37 : ((s[i].toNat : Int) == 37) = (s[i] == 37) := byte_eqI s[i] 37 (by decide) (by decide)
    rw [h37]
    have hidx : decide ((if others.contains s[i] = true then ((before s[i] others).length : Int) else -1) ≥ 0) = others.contains s[i] := by
     cases others.contains s[i] <;> simp
    rw [hidx]
    have hP : (bif decide (i + 2 < s.length) then (if (0 : Int) ≤ ((i + 1 : Nat) : Int) ∧ ((i + 1 : Nat) : Int) ≤ ((i + 3 : Nat) : Int) ∧ ((i + 3 : Nat) : Int) ≤ (s.length : Int) then (Tr.call (q2v.f [5] (List.drop (Int.toNat ((i + 1 : Nat) : Int)) (List.take (Int.toNat ((i + 3 : Nat) : Int)) s))) fun y => Tr.br y (Tr.ret (Sum.inl ((i + 3 : Nat) : Int))) (Tr.ret (Sum.inr (Sum.inr false)))).val else none) else some (Sum.inr (Sum.inr false) : Int ⊕ (Unit ⊕ Bool))) = some (addTo i (pctStep (s.drop (i + 1)))) := by
     by_cases h2 : i + 2 < s.length
     ·obtain ⟨a, b, l, hd⟩ : ∃ a b l, s.drop (i + 1) = a :: b :: l := by
       have e1 := List.drop_eq_getElem_cons (show i + 1 < s.length by omega)
       have e2 := List.drop_eq_getElem_cons (show i + 1 + 1 < s.length by omega)
       exact ⟨_, _, _, by rw [e1, e2]⟩
      have hd2 := drop_two (show s.drop i = s[i] :: a :: b :: l by rw [e, hd])
      rw [decide_eq_true h2, cond_true, if_pos (by omega), Int.toNat_natCast, Int.toNat_natCast, hd2, hd, octet_All1 (by simp)]
      have k5 : ∀ c, isKind 5 c = isHex c := fun c => by simp [isKind]
      simp only [List.all_cons, List.all_nil, Bool.and_true, k5, Tr.val]
      rw [pctStep]
      cases h3 : (isHex a && isHex b) <;> rfl
     ·rw [decide_eq_false h2, cond_false]
      have : (s.drop (i + 1)).length ≤ 1 := by simp; omega
      cases hd : s.drop (i + 1) with
      | nil => rfl
      | cons a l =>
       cases l with
       | nil => rfl
       | cons b l => rw [hd] at this; simp at this
    cases isDigit s[i] <;> cases A <;> cases B <;> cases others.contains s[i] <;> cases pct <;> cases (s[i] == 37) <;> (try simp only [decide_true, cond_true, cond_false, Bool.false_or, Bool.or_false, Bool.true_or, Bool.or_true, Bool.and_true, Bool.true_and, Bool.and_false, Bool.false_and, if_true, Bool.false_eq_true, if_false]) <;> (first | rfl | exact hP)
   ·have hkl : i = s.length := by omega
    subst hkl
    simp [qbp.L2.t, Tr.val, signStep, addTo]
 unfold qbp.f qbp.t
 rw [hL]
 cases signsGo others pct s <;> rfl
end Pl
end Go.Vx
end
section
set_option linter.unusedVariables false
set_option linter.unusedSimpArgs false
set_option maxRecDepth 100000
namespace Go.Vx
namespace Pl
open Go Go.Proofs
def hostSigns : List UInt8 := [45, 46, 95, 126]
def innerSigns : List UInt8 := [45, 46, 95, 126, 33, 36, 38, 39, 40, 41, 42, 43, 44, 59, 61, 58, 64, 47]
def askedSigns : List UInt8 := [45, 46, 95, 126, 33, 36, 38, 39, 40, 41, 42, 43, 44, 59, 61, 58, 64, 47, 63]
def hostS (s : List UInt8) : Bool :=
 (if (cutC 58 s).2.2 = true then decide ((numS 10 65535 (cutC 58 s).2.1).2 = 0) && decide ((cutC 58 s).2.1.length ≤ 5) else true) && !((cutC 58 s).1 == []) && decide ((cutC 58 s).1.length ≤ 255) && signsGo hostSigns false (cutC 58 s).1
def starts (c : UInt8) (s : List UInt8) : Bool := match s with
 | x :: _ => x == c
 | [] => false
def pathS (s : List UInt8) : Bool := starts 47 s && signsGo innerSigns true s
def queryS (s : List UInt8) : Bool := signsGo askedSigns true s
abbrev TargetS := Int × List UInt8 × List UInt8 × List UInt8 × Bool × Int
def badT : TargetS := (0, [], [], [], false, 400)
def originS (form : Int) (host s : List UInt8) : TargetS :=
 let path := if form = 2 ∧ (cutC 63 s).1 = [] then [47] else (cutC 63 s).1
 if pathS path && queryS (cutC 63 s).2.1 then (form, host, path, (cutC 63 s).2.1, (cutC 63 s).2.2, 0) else badT
def httpS : List UInt8 := [104, 116, 116, 112, 58, 47, 47]
def connectS : List UInt8 := [67, 79, 78, 78, 69, 67, 84]
def optionsS : List UInt8 := [79, 80, 84, 73, 79, 78, 83]
def hostEnd (s : List UInt8) : List UInt8 := s.takeWhile fun c => !(c == 47 || c == 63)
def targetS (method s : List UInt8) : TargetS :=
 if method = connectS then (if (hostS s && s.contains 58) = true then (3, s, [], [], false, 0) else badT)
 else if method = optionsS ∧ s = [42] then (4, [], [], [], false, 0)
 else if starts 47 s = true then originS 1 [] s
 else if 7 ≤ s.length ∧ same (s.take 7) httpS = true then
  (if hostS (hostEnd (s.drop 7)) = true then originS 2 (hostEnd (s.drop 7)) ((s.drop 7).drop (hostEnd (s.drop 7)).length) else badT)
 else badT
theorem cut_len {c : UInt8} {s : List UInt8} : (cutC c s).1.length ≤ s.length ∧ (cutC c s).2.1.length ≤ s.length := by
 unfold cutC
 by_cases h : s.contains c = true
 ·have := before_len h
  simp only [if_pos h]
  omega
 ·simp only [if_neg h]
  simp
theorem host_f {s : List UInt8} (hn : s.length < 1099511627776) : qba.f s = some (hostS s) := by
 have hl := cut_len (c := 58) (s := s)
 unfold qba.f qba.t hostS
 rw [cut3a_f (by omega), Tr.val_call rfl]
 generalize cutC 58 s = q at hl ⊢
 obtain ⟨n, p, has⟩ := q
 simp only at hl ⊢
 rw [number_Dec_f (by omega) (by omega), signs_f (s := n) (by omega)]
 have e : ([(45 : UInt8), (46 : UInt8), (95 : UInt8), (126 : UInt8)]) = hostSigns := rfl
 rw [e]
 generalize numS 10 65535 p = r
 obtain ⟨r1, r2⟩ := r
 have h255 : decide ((n.length : Int) ≤ 255) = decide (n.length ≤ 255) := by simp [decide_eq_decide]; omega
 have h5 : decide ((p.length : Int) > 5) = !decide (p.length ≤ 5) := by
  by_cases h : p.length ≤ 5
  ·simp [h]; omega
  ·simp [h]; omega
 have h0 : (r2 != 0) = !decide (r2 = 0) := by
  by_cases h : r2 = 0 <;> simp [h]
 simp only [Tr.val, h255, h5, h0]
 cases has <;> cases (n == []) <;> cases decide (n.length ≤ 255) <;> cases decide (r2 = 0) <;> cases decide (p.length ≤ 5) <;> simp
theorem prefix2f_f (s : List UInt8) : qa7.f s = some (starts 47 s) := by
 have h1 : q1f.f s = some (starts 47 s) := by
  unfold q1f.f q1f.t starts
  cases s with
  | nil => simp [Tr.val]
  | cons x l =>
   have h : decide ((((x :: l).length : Nat) : Int) ≥ 1) = true := by simp; omega
   simp only [Tr.val, h, cond_true]
   rw [if_pos (by simp; omega)]
   simp
 unfold qa7.f qa7.t
 rw [h1]; rfl
theorem path_f {s : List UInt8} (hn : s.length < 1099511627776) : qbg.f s = some (pathS s) := by
 unfold qbg.f qbg.t pathS
 rw [prefix2f_f, signs_f (by omega)]
 cases starts 47 s <;> simp [Tr.val, innerSigns]
theorem query_f {s : List UInt8} (hn : s.length < 1099511627776) : qbj.f s = some (queryS s) := by
 unfold qbj.f qbj.t queryS
 rw [signs_f (by omega)]
 rfl
theorem origin_f {form : Int} {host s : List UInt8} (hn : s.length < 1099511627776) : qbm.f form host s = some (originS form host s) := by
 have hl := cut_len (c := 63) (s := s)
 unfold qbm.f qbm.t originS
 rw [cut3f_f (by omega), Tr.val_call rfl]
 generalize cutC 63 s = q at hl ⊢
 obtain ⟨n, p, has⟩ := q
 simp only at hl ⊢
 rw [path_f (s := n) (by omega), path_f (s := [47]) (by simp), query_f (s := p) (by omega)]
 by_cases h2 : form = 2
 ·have e2 : (form == 2) = true := by simpa using h2
  by_cases h0 : n = []
  ·subst h0
   simp only [Tr.val, e2, h2, cond_true, and_self, if_true, show (([] : List UInt8) == []) = true from rfl]
   cases pathS [47] <;> cases queryS p <;> rfl
  ·have e0 : (n == []) = false := by simpa using h0
   simp only [Tr.val, e2, e0, h2, h0, cond_true, cond_false, and_false, if_false]
   cases pathS n <;> cases queryS p <;> rfl
 ·have e2 : (form == 2) = false := by simpa using h2
  simp only [Tr.val, e2, h2, cond_false, false_and, if_false]
  cases pathS n <;> cases queryS p <;> rfl
theorem indexAny_end : ∀ (s : List UInt8), Lib.indexAny (s ++ [47]) [47, 63] = ((hostEnd s).length : Int)
 | [] => by rfl
 | b :: l => by
  have ih := indexAny_end l
  show (if [47, 63].contains b then (0 : Int) else if Lib.indexAny (l ++ [47]) [47, 63] == -1 then -1 else Lib.indexAny (l ++ [47]) [47, 63] + 1) = _
  rw [ih]
  unfold hostEnd
  have hc : ([47, 63] : List UInt8).contains b = (b == 47 || b == 63) := by simp only [List.contains_cons, List.contains_nil, Bool.or_false]
  rw [hc, List.takeWhile_cons]
  cases h : (b == 47 || b == 63) with
  | true => simp
  | false =>
   have : (((l.takeWhile fun c => !(c == 47 || c == 63)).length : Int) == -1) = false := by
    rw [beq_eq_false_iff_ne]; omega
   simp [this]
theorem hostEnd_len (s : List UInt8) : (hostEnd s).length ≤ s.length := (List.takeWhile_sublist _).length_le
theorem hostEnd_take : ∀ (s : List UInt8), s.take (hostEnd s).length = hostEnd s
 | [] => rfl
 | b :: l => by
  unfold hostEnd
  rw [List.takeWhile_cons]
  have ih := hostEnd_take l
  unfold hostEnd at ih
  cases (b == 47 || b == 63) with
  | true => rfl
  | false => simpa using ih
def ascii (s : List UInt8) : Prop := ∀ c ∈ s, c.toNat < 128
theorem indexAny_f {s : List UInt8} (ha : ascii s) (hn : s.length < 4294967000) : qaa.f (s ++ [47]) [47, 63] = some ((hostEnd s).length : Int) := by
 unfold qaa.f
 have h1 : qaa.ascii (s ++ [47]) = true := by
  unfold qaa.ascii
  simp only [Bool.and_eq_true, decide_eq_true_eq, List.all_eq_true, List.length_append, List.length_cons, List.length_nil, List.mem_append, List.mem_singleton]
  refine ⟨by omega, fun c hc => ?_⟩
  rcases hc with hc | hc
  ·exact ha c hc
  ·subst hc; decide
 rw [h1, show qaa.ascii [47, 63] = true from by decide, indexAny_end]
 rfl
theorem vtrue {α : Type} (a b : Tr α) : (Tr.br true a b).val = a.val := rfl
theorem vfalse {α : Type} (a b : Tr α) : (Tr.br false a b).val = b.val := rfl
theorem target_f {method s : List UInt8} (ha : ascii s) (hn : s.length < 4294967000) : qbd.f method s = some (targetS method s) := by
 have had : ascii (s.drop 7) := fun c hc => ha c (List.mem_of_mem_drop hc)
 have hld : (s.drop 7).length ≤ s.length := by simp
 have hle := hostEnd_len (s.drop 7)
 have hT7 : s.length ≥ 7 → (s.take 7).length < 140737488355328 := fun h => by simp; omega
 unfold qbd.f qbd.t targetS
 have e1 : ([(67 : UInt8), (79 : UInt8), (78 : UInt8), (78 : UInt8), (69 : UInt8), (67 : UInt8), (84 : UInt8)]) = connectS := rfl
 have e2 : ([(79 : UInt8), (80 : UInt8), (84 : UInt8), (73 : UInt8), (79 : UInt8), (78 : UInt8), (83 : UInt8)]) = optionsS := rfl
 have e3 : ([(104 : UInt8), (116 : UInt8), (116 : UInt8), (112 : UInt8), (58 : UInt8), (47 : UInt8), (47 : UInt8)]) = httpS := rfl
 have e4 : List.take s.length s = s := List.take_length
 have e5 : Int.toNat 7 = 7 := rfl
 rw [e1, e2, e3]
 simp only [host_f (s := s) (by omega), contains3a_f, prefix2f_f, origin_f (s := s) (by omega), Int.toNat_natCast, e4, e5, List.drop_zero, indexAny_f had (by omega), hostEnd_take]
 generalize originS 1 [] s = q1
 have hO2 : qbm.f 2 (hostEnd (s.drop 7)) ((s.drop 7).drop (hostEnd (s.drop 7)).length) = some (originS 2 (hostEnd (s.drop 7)) ((s.drop 7).drop (hostEnd (s.drop 7)).length)) := origin_f (by simp; omega)
 generalize originS 2 (hostEnd (s.drop 7)) ((s.drop 7).drop (hostEnd (s.drop 7)).length) = q2 at hO2 ⊢
 obtain ⟨a1, a2, a3, a4, a5, a6⟩ := q1
 obtain ⟨b1, b2, b3, b4, b5, b6⟩ := q2
 by_cases hm1 : method = connectS
 ·have e6 : (method == connectS) = true := by simpa using hm1
  simp only [Tr.val, e6, cond_true, if_pos hm1]
  cases hostS s <;> cases s.contains 58 <;> rfl
 ·have e6 : (method == connectS) = false := by simpa using hm1
  have e10 : Int.toNat 0 = 0 := rfl
  have e11 : ((0 : Nat) : Int).toNat = 0 := rfl
  have key : ∀ r, r = (if starts 47 s = true then (a1, a2, a3, a4, a5, a6) else if 7 ≤ s.length ∧ same (s.take 7) httpS = true then (if hostS (hostEnd (s.drop 7)) = true then (b1, b2, b3, b4, b5, b6) else badT) else badT) →
    (starts 47 s = true → r = (a1, a2, a3, a4, a5, a6)) ∧ (starts 47 s = false → ¬ 7 ≤ s.length → r = badT) ∧ (starts 47 s = false → 7 ≤ s.length → same (s.take 7) httpS = false → r = badT) ∧ (starts 47 s = false → 7 ≤ s.length → same (s.take 7) httpS = true → hostS (hostEnd (s.drop 7)) = false → r = badT) ∧ (starts 47 s = false → 7 ≤ s.length → same (s.take 7) httpS = true → hostS (hostEnd (s.drop 7)) = true → r = (b1, b2, b3, b4, b5, b6)) := by
   rintro r rfl
   refine ⟨fun h => by simp [h], fun h h7 => by simp [h, h7], fun h h7 hs => by simp [h, h7, hs], fun h h7 hs hh => by simp [h, h7, hs, hh], fun h h7 hs hh => by simp [h, h7, hs, hh]⟩
  obtain ⟨k1, k2, k3, k4, k5⟩ := key _ rfl
  by_cases hm2 : method = optionsS ∧ s = [42]
  ·have e7 : (method == optionsS) = true := by simpa using hm2.1
   have e8 : (s == [42]) = true := by simpa using hm2.2
   simp only [Tr.val, e6, e7, e8, cond_true, cond_false, if_neg hm1, if_pos hm2]
  ·simp only [if_neg hm1, if_neg hm2]
   have hrest : ∀ (m : Bool), (bif m then (bif s == [42] then False else True) else True) → True := fun _ _ => trivial
   rcases Bool.eq_false_or_eq_true (starts 47 s) with hst | hst
   ·rw [k1 hst]
    cases e7 : (method == optionsS) with
    | true =>
     have e8 : (s == [42]) = false := by
      have h1 : method = optionsS := by simpa using e7
      have : ¬ s = [42] := fun h => hm2 ⟨h1, h⟩
      simpa using this
     simp only [Tr.val, e6, e8, hst, cond_true, cond_false]
    | false => simp only [Tr.val, e6, hst, cond_true, cond_false]
   ·by_cases h7 : 7 ≤ s.length
    ·have d7 : decide ((s.length : Int) ≥ 7) = true := decide_eq_true (by omega)
     have hlen : (s.drop 7).length + 7 = s.length := by simp; omega
     have c1 : (0 : Int) ≤ 0 ∧ (0 : Int) ≤ 7 ∧ (7 : Int) ≤ (s.length : Int) := by omega
     have c2 : (0 : Int) ≤ 7 ∧ (7 : Int) ≤ (s.length : Int) ∧ (s.length : Int) ≤ (s.length : Int) := by omega
     have c3 : (((s.drop 7).length + [(47 : UInt8)].length : Nat) : Int) ≤ 9223372036854775807 := by simp; omega
     have c4 : (0 : Int) ≤ 0 ∧ (0 : Int) ≤ ((hostEnd (s.drop 7)).length : Int) ∧ ((hostEnd (s.drop 7)).length : Int) ≤ ((s.drop 7).length : Int) := by omega
     have c5 : (0 : Int) ≤ ((hostEnd (s.drop 7)).length : Int) ∧ ((hostEnd (s.drop 7)).length : Int) ≤ ((s.drop 7).length : Int) ∧ ((s.drop 7).length : Int) ≤ ((s.drop 7).length : Int) := by omega
     have e12 : List.take ((s.drop 7).length) (s.drop 7) = s.drop 7 := List.take_length
     have hsame := text_Same_f (a := s.take 7) (b := httpS) (by simp; omega) (by decide)
     have hhost := host_f (s := hostEnd (s.drop 7)) (by omega)
     rcases Bool.eq_false_or_eq_true (same (s.take 7) httpS) with hsm | hsm
     rotate_left
     ·rw [k3 hst h7 hsm]
      cases e7 : (method == optionsS) with
      | true =>
       have e8 : (s == [42]) = false := by
        have h1 : method = optionsS := by simpa using e7
        have : ¬ s = [42] := fun h => hm2 ⟨h1, h⟩
        simpa using this
       simp only [Tr.val, e6, e8, hst, cond_true, cond_false, d7]; rw [if_pos c1, hsame, Tr.val_call rfl, hsm]; rfl
      | false => simp only [Tr.val, e6, hst, cond_true, cond_false, d7]; rw [if_pos c1, hsame, Tr.val_call rfl, hsm]; rfl
     ·rcases Bool.eq_false_or_eq_true (hostS (hostEnd (s.drop 7))) with hh | hh
      rotate_left
      ·rw [k4 hst h7 hsm hh]
       cases e7 : (method == optionsS) with
       | true =>
        have e8 : (s == [42]) = false := by
         have h1 : method = optionsS := by simpa using e7
         have : ¬ s = [42] := fun h => hm2 ⟨h1, h⟩
         simpa using this
        simp only [Tr.val, e6, e8, hst, cond_true, cond_false, d7]; rw [if_pos c1, hsame, Tr.val_call rfl, hsm, vtrue, Tr.val_chk c2, Tr.val_chk c3, Tr.val_call rfl, Int.toNat_natCast, hostEnd_take, hhost, Tr.val_chk c4, Tr.val_call rfl, hh]; rfl
       | false => simp only [Tr.val, e6, hst, cond_true, cond_false, d7]; rw [if_pos c1, hsame, Tr.val_call rfl, hsm, vtrue, Tr.val_chk c2, Tr.val_chk c3, Tr.val_call rfl, Int.toNat_natCast, hostEnd_take, hhost, Tr.val_chk c4, Tr.val_call rfl, hh]; rfl
      ·rw [k5 hst h7 hsm hh]
       cases e7 : (method == optionsS) with
       | true =>
        have e8 : (s == [42]) = false := by
         have h1 : method = optionsS := by simpa using e7
         have : ¬ s = [42] := fun h => hm2 ⟨h1, h⟩
         simpa using this
        simp only [Tr.val, e6, e8, hst, cond_true, cond_false, d7]; rw [if_pos c1, hsame, Tr.val_call rfl, hsm, vtrue, Tr.val_chk c2, Tr.val_chk c3, Tr.val_call rfl, Int.toNat_natCast, hostEnd_take, hhost, Tr.val_chk c4, Tr.val_call rfl, hh, vtrue, Tr.val_chk c4, Tr.val_chk c5]; simp only [e12, hO2]; rfl
       | false => simp only [Tr.val, e6, hst, cond_true, cond_false, d7]; rw [if_pos c1, hsame, Tr.val_call rfl, hsm, vtrue, Tr.val_chk c2, Tr.val_chk c3, Tr.val_call rfl, Int.toNat_natCast, hostEnd_take, hhost, Tr.val_chk c4, Tr.val_call rfl, hh, vtrue, Tr.val_chk c4, Tr.val_chk c5]; simp only [e12, hO2]; rfl
    ·have d7 : decide ((s.length : Int) ≥ 7) = false := decide_eq_false (by omega)
     rw [k2 hst h7]
     cases e7 : (method == optionsS) with
     | true =>
      have e8 : (s == [42]) = false := by
       have h1 : method = optionsS := by simpa using e7
       have : ¬ s = [42] := fun h => hm2 ⟨h1, h⟩
       simpa using this
      simp only [Tr.val, e6, e8, hst, cond_true, cond_false, d7, badT]
     | false => simp only [Tr.val, e6, hst, cond_true, cond_false, d7, badT]
end Pl
end Go.Vx
end
section
set_option linter.unusedVariables false
set_option linter.unusedSimpArgs false
set_option maxRecDepth 100000
namespace Go.Vx
namespace Pl
open Go Go.Proofs
def hasD (p c : Int) : Bool := decide (0 ≤ c) && (decide (c < 30) && (IntKind.u32.wrap ((BitVec.ofInt IntKind.u32.bits (p.fdiv (2 ^ min c.toNat IntKind.u32.bits)) &&& BitVec.ofInt IntKind.u32.bits 1).toNat : Int) == 1))
theorem qknown_f (c : Int) : q5m.f c = some (decide (0 ≤ c) && decide (c < 30)) := by
 unfold q5m.f q5m.t
 by_cases h : 0 ≤ c <;> simp [Tr.val, h]
theorem has_f (p c : Int) : q5g.f p c = some (hasD p c) := by
 unfold q5g.f q5g.t hasD
 rw [qknown_f, Tr.val_call rfl]
 by_cases h1 : 0 ≤ c
 ·by_cases h2 : c < 30
  ·simp [Tr.val, h1, h2, Int.not_lt.2 h1]
  ·simp [Tr.val, h1, h2]
 ·simp [Tr.val, h1]
abbrev FieldS := List UInt8 × List UInt8 × Bool × Int
def outS (p clause : Int) : FieldS := if hasD p clause = true then ([], [], false, 0) else ([], [], false, 400)
def nameS (p : Int) (s : List UInt8) : List UInt8 := if hasD p 9 = true then dropEnd isBlank s else s
def fieldS (s : List UInt8) (p : Int) : FieldS :=
 if (cutC 58 s).2.2 = false then outS p 11
 else if nameS p (cutC 58 s).1 = [] then outS p 12
 else if ((hasD p 10 || (nameS p (cutC 58 s).1).all isTok) && (hasD p 14 || (trim (cutC 58 s).2.1).all isText)) = true then (nameS p (cutC 58 s).1, trim (cutC 58 s).2.1, true, 0)
 else ([], [], false, 400)
theorem out_f (p clause : Int) : q0f.f p clause = some (outS p clause) := by
 unfold q0f.f q0f.t outS
 rw [has_f]
 cases hasD p clause <;> rfl
theorem trimRight_f {s : List UInt8} (hn : s.length < 1125899906842624) : qb1.f s [32, 9] = some (dropEnd isBlank s) := by
 unfold qb1.f
 rw [show qaa.ascii [32, 9] = true from by decide, decide_eq_true (by omega)]
 unfold Lib.trimRightS dropEnd
 have : (fun x => ([32, 9] : List UInt8).contains x) = isBlank := by
  funext c
  unfold isBlank
  simp only [List.contains_cons, List.contains_nil, Bool.or_false]
 rw [this]
 rfl
theorem kind_tok (s : List UInt8) : s.all (isKind 1) = s.all isTok := by congr 1
theorem kind_text (s : List UInt8) : s.all (isKind 6) = s.all isText := by congr 1
theorem field_f {s : List UInt8} {p : Int} (hn : s.length < 1099511627776) : q0c.f s p = some (fieldS s p) := by
 have hl := cut_len (c := 58) (s := s)
 unfold q0c.f q0c.t fieldS
 rw [cut3a_f (by omega), Tr.val_call rfl]
 generalize cutC 58 s = q at hl ⊢
 obtain ⟨n, v, has⟩ := q
 simp only at hl ⊢
 have hd := dropEnd_length (p := isBlank) n
 have ht := trimP_length isBlank v
 have ht' : (trim v).length < 1125899906842624 := by unfold trim; omega
 have f1 := trimRight_f (s := n) (by omega)
 have f2 := text_Trim_f (s := v) (by omega)
 have f3 := octet_All1 (k := 1) (s := n) (by omega)
 have f4 := octet_All1 (k := 1) (s := dropEnd isBlank n) (by omega)
 have f5 := octet_All1 (k := 6) (s := trim v) ht'
 rw [kind_tok] at f3 f4
 rw [kind_text] at f5
 simp only [has_f, out_f]
 unfold nameS
 generalize hq11 : outS p 11 = o11
 generalize hq12 : outS p 12 = o12
 obtain ⟨a1, a2, a3, a4⟩ := o11
 obtain ⟨b1, b2, b3, b4⟩ := o12
 cases has with
 | false => rfl
 | true =>
  cases h9 : hasD p 9 with
  | true =>
   by_cases h0 : dropEnd isBlank n = []
   ·simp only [Tr.val, f1, h0, Bool.not_true, cond_true, cond_false, if_true, beq_self_eq_true, Bool.true_eq_false, if_false]
   ·have e0 : (dropEnd isBlank n == []) = false := by simpa using h0
    simp only [Tr.val, f1, e0, h0, f2, f4, Bool.not_true, cond_true, cond_false, if_true, Bool.true_eq_false, if_false]
    cases hasD p 10 <;> cases hasD p 14 <;> (try simp only [Tr.val, Bool.not_false, Bool.not_true, cond_true, cond_false, f4, f5]) <;> cases (dropEnd isBlank n).all isTok <;> cases (trim v).all isText <;> rfl
  | false =>
   by_cases h0 : n = []
   ·subst h0
    simp only [Tr.val, Bool.not_true, cond_true, cond_false, if_true, beq_self_eq_true, Bool.true_eq_false, Bool.false_eq_true, if_false]
   ·have e0 : (n == []) = false := by simpa using h0
    simp only [Tr.val, e0, h0, f2, f3, Bool.not_true, cond_true, cond_false, if_true, Bool.true_eq_false, Bool.false_eq_true, if_false]
    cases hasD p 10 <;> cases hasD p 14 <;> (try simp only [Tr.val, Bool.not_false, Bool.not_true, cond_true, cond_false, f3, f5]) <;> cases n.all isTok <;> cases (trim v).all isText <;> rfl
def goesS (s : List UInt8) (p : Int) : Bool := hasD p 13 && (match s with
 | c :: _ => isBlank c
 | [] => false)
theorem goes_f (s : List UInt8) (p : Int) : q06.f s p = some (goesS s p) := by
 unfold q06.f q06.t goesS
 rw [has_f]
 cases hasD p 13 with
 | false => rfl
 | true =>
  cases s with
  | nil => rfl
  | cons c l =>
   have h : ((c :: l) == ([] : List UInt8)) = false := rfl
   have hc : (c :: l).getD (Int.toNat 0) 0 = c := rfl
   simp only [Tr.val, h, Bool.not_false, cond_true, hc, octet_Blank_f]
   rw [if_pos (by simp)]
   simp
theorem join_f {v s : List UInt8} (hv : v.length < 1125899906842624) (hn : s.length < 1125899906842624) : q09.f v s = some (v ++ 32 :: trim s) := by
 have ht := trimP_length isBlank s
 have ht' : (trim s).length < 1125899906842624 := by unfold trim; omega
 unfold q09.f q09.t
 rw [text_Trim_f hn, Tr.val_call rfl, Tr.val_chk (by simp; omega), Tr.val_chk (by simp; omega)]
 rfl
def pre2 (a b : UInt8) (s : List UInt8) : Bool := match s with
 | x :: y :: _ => x == a && y == b
 | _ => false
def hexPre (p : Int) (s : List UInt8) : List UInt8 := if hasD p 27 = true then (if pre2 48 120 s = true then s.drop 2 else if pre2 48 88 s = true then s.drop 2 else s) else s
def sizeErr (q : Int × Int) : Int × Int := if q.2 = 23 then (0, 413) else if q.2 = 22 then (0, 400) else (q.1, 0)
def sizeS (s : List UInt8) (p body ext : Int) : Int × Int :=
 if ((s.drop (before 59 s).length).length : Int) > ext then (0, 400)
 else if (s.drop (before 59 s).length).all isText = false then (0, 400)
 else sizeErr (numS 16 body (hexPre p (if hasD p 28 = true then trim (before 59 s) else before 59 s)))
theorem index3b_f (s : List UInt8) : q1r.f s = some (if s.contains 59 = true then ((before 59 s).length : Int) else -1) := by
 unfold q1r.f q1r.t
 rw [show (59 : Int) = ((59 : UInt8).toNat : Int) from rfl, slite_f]
 by_cases h : [(59 : UInt8)] = s
 ·have := before_one h
  simp only [Tr.val, beq_iff_eq.2 h, cond_true, this.1, this.2, if_true]
  rfl
 ·simp [Tr.val, beq_eq_false_iff_ne.2 h]
theorem cut3b_f {s : List UInt8} (hn : s.length < 1125899906842624) : q9s.f s = some (cutC 59 s) := by
 have h1 : q10.f s = some (cutC 59 s) := by
  unfold q10.f
  show (cutT (q1r.f s) s).val = _
  rw [index3b_f, cutT_f hn]
 unfold q9s.f q9s.t
 rw [h1]; rfl
theorem cut_before {c : UInt8} {s : List UInt8} : (cutC c s).1 = before c s := by
 unfold cutC
 by_cases h : s.contains c = true
 ·rw [if_pos h]
 ·rw [if_neg h]
  show s = before c s
  have hn : ∀ (l : List UInt8), l.contains c = false → l = before c l := by
   intro l
   induction l with
   | nil => intro _; rfl
   | cons x l ih =>
    intro h
    simp only [List.contains_cons, Bool.or_eq_false_iff] at h
    have hx : (x != c) = true := by
     have := h.1
     simp only [beq_eq_false_iff_ne] at this
     simp only [bne_iff_ne]
     exact fun e => this e.symm
    unfold before
    rw [List.takeWhile_cons, hx, if_pos rfl]
    congr 1
    exact ih h.2
  exact hn s (by simpa using h)
theorem pre0x_f (s : List UInt8) : qa4.f s = some (pre2 48 120 s) := by
 have h1 : q19.f s = some (pre2 48 120 s) := by
  unfold q19.f q19.t pre2
  match s with
  | [] => rfl
  | [x] => rfl
  | x :: y :: l =>
   have h : decide (((x :: y :: l).length : Int) ≥ 2) = true := by simp; omega
   simp only [Tr.val, h, cond_true]
   rw [if_pos (by simp; omega)]
   simp
 unfold qa4.f qa4.t
 rw [h1]; rfl
theorem pre0X_f (s : List UInt8) : qa1.f s = some (pre2 48 88 s) := by
 have h1 : q16.f s = some (pre2 48 88 s) := by
  unfold q16.f q16.t pre2
  match s with
  | [] => rfl
  | [x] => rfl
  | x :: y :: l =>
   have h : decide (((x :: y :: l).length : Int) ≥ 2) = true := by simp; omega
   simp only [Tr.val, h, cond_true]
   rw [if_pos (by simp; omega)]
   simp
 unfold qa1.f qa1.t
 rw [h1]; rfl
theorem hexPre_27 {p : Int} {s : List UInt8} (h : hasD p 27 = true) : hexPre p s = if pre2 48 120 s = true then s.drop 2 else if pre2 48 88 s = true then s.drop 2 else s := by unfold hexPre; rw [if_pos h]
theorem hexPre_no {p : Int} {s : List UInt8} (h : hasD p 27 = false) : hexPre p s = s := by unfold hexPre; rw [h]; rfl
theorem sizeErr_t (a b : Int) : (Tr.br (b == 23) (Tr.ret ((0 : Int), (413 : Int))) (Tr.br (b == 22) (Tr.ret ((0 : Int), (400 : Int))) (Tr.ret (a, (0 : Int))))).val = some (sizeErr (a, b)) := by
 unfold sizeErr
 simp only
 by_cases h1 : b = 23
 ·subst h1; rfl
 ·have e1 : (b == 23) = false := by simpa using h1
  rw [if_neg h1]
  by_cases h2 : b = 22
  ·subst h2; rfl
  ·have e2 : (b == 22) = false := by simpa using h2
   rw [if_neg h2]
   simp only [Tr.val, e1, e2, cond_false]
theorem sizeErr_v (q : Int × Int) : (Tr.br (q.2 == 23) (Tr.ret ((0 : Int), (413 : Int))) (Tr.br (q.2 == 22) (Tr.ret ((0 : Int), (400 : Int))) (Tr.ret (q.1, (0 : Int))))).val = some (sizeErr q) := sizeErr_t q.1 q.2
theorem before_le (c : UInt8) (s : List UInt8) : (before c s).length ≤ s.length := (List.takeWhile_sublist _).length_le
theorem size_f {s : List UInt8} {p body ext : Int} (hb : body ≤ 1099511627776) (hn : s.length < 1099511627776) : q03.f s p body ext = some (sizeS s p body ext) := by
 have hle := before_le 59 s
 unfold q03.f q03.t sizeS
 rw [cut3b_f (by omega), Tr.val_call rfl]
 simp only [cut_before, Int.toNat_natCast, List.take_length]
 rw [Tr.val_chk (by omega)]
 have ht := trimP_length isBlank (before 59 s)
 have hdl : (s.drop (before 59 s).length).length ≤ s.length := by simp
 have f1 := octet_All1 (k := 6) (s := s.drop (before 59 s).length) (by omega)
 rw [kind_text] at f1
 rw [f1]
 generalize hB : before 59 s = B at hle ht ⊢
 generalize hX : s.drop B.length = X
 have f2 := text_Trim_f (s := B) (by omega)
 by_cases h1 : (X.length : Int) > ext
 ·rw [if_pos h1]; simp only [Tr.val, decide_eq_true h1, cond_true]
 ·rw [if_neg h1]
  cases h2 : X.all isText with
  | false => simp only [Tr.val, decide_eq_false h1, cond_false, Bool.not_false, cond_true, if_true]
  | true =>
   simp only [Tr.val, decide_eq_false h1, cond_false, Bool.not_true, has_f, Bool.true_eq_false, if_false]
   have key : ∀ (Y : List UInt8), Y.length ≤ s.length → ((Tr.call (some (hasD p 27)) fun y5 =>
     .br y5 (.call (qa4.f Y) fun y6 =>
      .br y6 (.chk ((0 : Int) ≤ 2 ∧ (2 : Int) ≤ (Y.length : Int) ∧ (Y.length : Int) ≤ (Y.length : Int)) <| .call (q2p.f (List.drop 2 Y) body) fun q =>
       .br (q.2 == 23) (.ret ((0 : Int), (413 : Int))) (.br (q.2 == 22) (.ret (0, 400)) (.ret (q.1, 0))))
      (.call (qa1.f Y) fun y8 =>
       .br y8 (.chk ((0 : Int) ≤ 2 ∧ (2 : Int) ≤ (Y.length : Int) ∧ (Y.length : Int) ≤ (Y.length : Int)) <| .call (q2p.f (List.drop 2 Y) body) fun q =>
        .br (q.2 == 23) (.ret (0, 413)) (.br (q.2 == 22) (.ret (0, 400)) (.ret (q.1, 0))))
       (.call (q2p.f Y body) fun q => .br (q.2 == 23) (.ret (0, 413)) (.br (q.2 == 22) (.ret (0, 400)) (.ret (q.1, 0))))))
     (.call (q2p.f Y body) fun q => .br (q.2 == 23) (.ret (0, 413)) (.br (q.2 == 22) (.ret (0, 400)) (.ret (q.1, 0)))) : Tr (Int × Int))).val = some (sizeErr (numS 16 body (hexPre p Y))) := by
    intro Y hY
    rw [Tr.val_call rfl]
    have g1 := number_Hex_f (most := body) (s := Y) hb (by omega)
    have g2 := number_Hex_f (most := body) (s := Y.drop 2) hb (by simp; omega)
    have hp2 : ∀ a b, pre2 a b Y = true → 2 ≤ Y.length := by
     intro a b h
     unfold pre2 at h
     split at h
     ·simp
     ·cases h
    rw [g1, g2, pre0x_f, pre0X_f]
    cases h27 : hasD p 27 with
    | false =>
     rw [hexPre_no h27, vfalse, Tr.val_call rfl]
     exact sizeErr_v _
    | true =>
     rw [hexPre_27 h27, vtrue, Tr.val_call rfl]
     cases hx : pre2 48 120 Y with
     | true =>
      have := hp2 _ _ hx
      rw [vtrue, Tr.val_chk (by omega), Tr.val_call rfl]
      exact sizeErr_v _
     | false =>
      rw [vfalse, Tr.val_call rfl]
      cases hX2 : pre2 48 88 Y with
      | true =>
       have := hp2 _ _ hX2
       rw [vtrue, Tr.val_chk (by omega), Tr.val_call rfl]
       exact sizeErr_v _
      | false =>
       rw [vfalse, Tr.val_call rfl]
       exact sizeErr_v _
   cases h28 : hasD p 28 with
   | true =>
    rw [cond_true, f2]
    rw [if_pos rfl]
    exact key (trim B) (by unfold trim; omega)
   | false =>
    rw [cond_false]
    exact key B hle
end Pl
end Go.Vx
end
section
set_option linter.unusedVariables false
set_option linter.unusedSimpArgs false
set_option maxRecDepth 100000
namespace Go.Vx
namespace Pl
open Go Go.Proofs
def idxV : Unit ⊕ Int → Int
 | .inl _ => -1
 | .inr j => j
def idxStep {α : Type} (p : α → Bool) (k : Nat) (c : α) : Option (Unit ⊕ Int) := if p c = true then some (.inr (k : Int)) else none
theorem idx_scan {α : Type} (p : α → Bool) : ∀ (l : List α) (k : Nat), idxV (scan (idxStep p) (.inl ()) k l) = if l.any p = true then ((k + l.findIdx p : Nat) : Int) else -1
 | [], _ => rfl
 | c :: l, k => by
  rw [scan, idxStep, List.any_cons, List.findIdx_cons]
  by_cases h : p c = true
  ·simp [h, idxV]
  ·have h' : p c = false := by simpa using h
   simp only [h', Bool.false_eq_true, if_false, Bool.false_or, cond_false]
   rw [idx_scan p l (k + 1)]
   split
   ·congr 1; omega
   ·rfl
theorem idx_ge {α : Type} (p : α → Bool) (l : List α) : decide (idxV (scan (idxStep p) (.inl ()) 0 l) ≥ 0) = l.any p := by
 rw [idx_scan]
 cases l.any p <;> simp
theorem idx_t (q : Unit ⊕ Int) {k : Unit → Tr Int} (hk : k () = .ret (-1)) : (Tr.both (some q) k (fun y => Tr.ret y)).val = some (idxV q) := by
 cases q with
 | inl u => cases u; show (k ()).val = _; rw [hk]; rfl
 | inr j => rfl
theorem contains_empty_f {l : List (List UInt8)} (hn : l.length < 1125899906842624) : q8y.f l = some (l.any (· == [])) := by
 have hL : q9a.L2.f l (l.length : Int) 0 = some (scan (idxStep (· == [])) (.inl ()) 0 l) := by
  unfold q9a.L2.f
  refine Loop_scan l (idxStep (· == [])) (.inl ()) (fun k c hk hc => ?_) ?_ hn
  ·have hw := wS (k := k) (by omega)
   have hsym : (([] : List UInt8) == c) = (c == []) := by cases c <;> rfl
   unfold q9a.L2.t idxStep
   simp only [Nat.zero_add, getD_at hk hc, Tr.val, lt_nat, decide_eq_true hk, cond_true, hw, hsym]
   rw [if_pos (by omega), if_pos (by simpa using hk)]
   by_cases h : (c == []) = true
   ·simp only [h]; rfl
   ·have h' : (c == []) = false := by simpa using h
    simp only [h']; rfl
  ·simp [q9a.L2.t, Tr.val]
 have hI : q9a.f l = some (idxV (scan (idxStep (· == [])) (.inl ()) 0 l)) := by
  unfold q9a.f q9a.t
  rw [hL]
  exact idx_t _ rfl
 unfold q8y.f q8y.t
 rw [take_all, hI, Tr.val_chk (by omega), Tr.val_call rfl, idx_ge]
 rfl
def partsL (p : Int) (s : List UInt8) : List (List UInt8) := if hasD p 3 = true then q9y.fieldsOf (trim s) else splitC 32 s
def partsS (p : Int) (s : List UInt8) : List UInt8 := if hasD p 3 = true then trim s else s
abbrev PartS := List UInt8 × List UInt8 × List UInt8 × Int
def goalS (p : Int) (s : List UInt8) (a z : List UInt8) : List UInt8 := if hasD p 3 = true then trim ((s.take (s.length - z.length - 1)).drop (a.length + 1)) else (s.take (s.length - z.length - 1)).drop (a.length + 1)
def partedL (p : Int) (s : List UInt8) (l : List (List UInt8)) : PartS :=
 if l.any (· == []) = true then ([], [], [], 400)
 else if l.length = 3 then (l.getD 0 [], l.getD 1 [], l.getD 2 [], 0)
 else if 3 < l.length ∧ hasD p 7 = true then (l.getD 0 [], goalS p s (l.getD 0 []) (l.getD (l.length - 1) []), l.getD (l.length - 1) [], 0)
 else if l.length = 2 ∧ hasD p 6 = true then (l.getD 0 [], l.getD 1 [], [], 0)
 else ([], [], [], 400)
def partedS (s : List UInt8) (p : Int) : PartS := partedL p (partsS p s) (partsL p s)
def Apart (s : List UInt8) (l : List (List UInt8)) : Prop := 3 < l.length → (l.getD 0 []).length + (l.getD (l.length - 1) []).length + 2 ≤ s.length
def partT (p : Int) (s : List UInt8) (l : List (List UInt8)) : Tr PartS :=
 .chk ((0 : Nat) + l.length ≤ l.length) <| .call (q8y.f (List.take l.length (List.drop (0 : Nat) l))) fun y5 =>
  .br y5 (.ret ([], [], [], (400 : Int)))
  (.br ((↑l.length : Int) == (3 : Int)) (.chk ((0 : Int) ≤ (0 : Int) ∧ (0 : Int) < (↑l.length : Int)) <| .chk ((0 : Nat) < l.length) <| .chk ((0 : Int) ≤ (1 : Int) ∧ (1 : Int) < (↑l.length : Int)) <| .chk ((1 : Nat) < l.length) <| .chk ((0 : Int) ≤ (2 : Int) ∧ (2 : Int) < (↑l.length : Int)) <| .chk ((2 : Nat) < l.length) <| .ret (l.getD (0 : Nat) [], l.getD (1 : Nat) [], l.getD (2 : Nat) [], (0 : Int)))
  (.br (decide ((↑l.length : Int) > (3 : Int))) (.call (q5g.f p (7 : Int)) fun y6 =>
   .br y6 (.chk ((0 : Int) ≤ (0 : Int) ∧ (0 : Int) < (↑l.length : Int)) <| .chk ((0 : Nat) < l.length) <| .chk ((0 : Int) ≤ IntKind.i64.wrap ((↑l.length : Int) - (1 : Int)) ∧ IntKind.i64.wrap ((↑l.length : Int) - (1 : Int)) < (↑l.length : Int)) <| .chk ((0 : Nat) + (IntKind.i64.wrap ((↑l.length : Int) - (1 : Int))).toNat < l.length) <| .chk ((0 : Int) ≤ IntKind.i64.wrap ((↑(List.length (l.getD (0 : Nat) [])) : Int) + (1 : Int)) ∧ IntKind.i64.wrap ((↑(List.length (l.getD (0 : Nat) [])) : Int) + (1 : Int)) ≤ IntKind.i64.wrap (IntKind.i64.wrap ((↑s.length : Int) - (↑(List.length (l.getD ((0 : Nat) + (IntKind.i64.wrap ((↑l.length : Int) - (1 : Int))).toNat) [])) : Int)) - (1 : Int)) ∧ IntKind.i64.wrap (IntKind.i64.wrap ((↑s.length : Int) - (↑(List.length (l.getD ((0 : Nat) + (IntKind.i64.wrap ((↑l.length : Int) - (1 : Int))).toNat) [])) : Int)) - (1 : Int)) ≤ (↑s.length : Int)) <| .call (q5g.f p (3 : Int)) fun y7 =>
    .br y7 (.call (qc4.f (List.drop (IntKind.i64.wrap ((↑(List.length (l.getD (0 : Nat) [])) : Int) + (1 : Int))).toNat (List.take (IntKind.i64.wrap (IntKind.i64.wrap ((↑s.length : Int) - (↑(List.length (l.getD ((0 : Nat) + (IntKind.i64.wrap ((↑l.length : Int) - (1 : Int))).toNat) [])) : Int)) - (1 : Int))).toNat s))) fun y8 =>
    .chk ((0 : Int) ≤ (0 : Int) ∧ (0 : Int) < (↑l.length : Int)) <| .chk ((0 : Nat) < l.length) <| .chk ((0 : Int) ≤ IntKind.i64.wrap ((↑l.length : Int) - (1 : Int)) ∧ IntKind.i64.wrap ((↑l.length : Int) - (1 : Int)) < (↑l.length : Int)) <| .chk ((0 : Nat) + (IntKind.i64.wrap ((↑l.length : Int) - (1 : Int))).toNat < l.length) <| .ret (l.getD (0 : Nat) [], y8, l.getD ((0 : Nat) + (IntKind.i64.wrap ((↑l.length : Int) - (1 : Int))).toNat) [], (0 : Int)))
    (.chk ((0 : Int) ≤ (0 : Int) ∧ (0 : Int) < (↑l.length : Int)) <| .chk ((0 : Nat) < l.length) <| .chk ((0 : Int) ≤ IntKind.i64.wrap ((↑l.length : Int) - (1 : Int)) ∧ IntKind.i64.wrap ((↑l.length : Int) - (1 : Int)) < (↑l.length : Int)) <| .chk ((0 : Nat) + (IntKind.i64.wrap ((↑l.length : Int) - (1 : Int))).toNat < l.length) <| .ret (l.getD (0 : Nat) [], List.drop (IntKind.i64.wrap ((↑(List.length (l.getD (0 : Nat) [])) : Int) + (1 : Int))).toNat (List.take (IntKind.i64.wrap (IntKind.i64.wrap ((↑s.length : Int) - (↑(List.length (l.getD ((0 : Nat) + (IntKind.i64.wrap ((↑l.length : Int) - (1 : Int))).toNat) [])) : Int)) - (1 : Int))).toNat s), l.getD ((0 : Nat) + (IntKind.i64.wrap ((↑l.length : Int) - (1 : Int))).toNat) [], (0 : Int))))
   (.br ((↑l.length : Int) == (2 : Int)) (.call (q5g.f p (6 : Int)) fun y9 =>
    .br y9 (.chk ((0 : Int) ≤ (0 : Int) ∧ (0 : Int) < (↑l.length : Int)) <| .chk ((0 : Nat) < l.length) <| .chk ((0 : Int) ≤ (1 : Int) ∧ (1 : Int) < (↑l.length : Int)) <| .chk ((1 : Nat) < l.length) <| .ret (l.getD (0 : Nat) [], l.getD (1 : Nat) [], [], (0 : Int)))
    (.ret ([], [], [], (400 : Int))))
    (.ret ([], [], [], (400 : Int)))))
   (.br ((↑l.length : Int) == (2 : Int)) (.call (q5g.f p (6 : Int)) fun y10 =>
    .br y10 (.chk ((0 : Int) ≤ (0 : Int) ∧ (0 : Int) < (↑l.length : Int)) <| .chk ((0 : Nat) < l.length) <| .chk ((0 : Int) ≤ (1 : Int) ∧ (1 : Int) < (↑l.length : Int)) <| .chk ((1 : Nat) < l.length) <| .ret (l.getD (0 : Nat) [], l.getD (1 : Nat) [], [], (0 : Int)))
    (.ret ([], [], [], (400 : Int))))
   (.ret ([], [], [], (400 : Int))))))
theorem partT_f {p : Int} {s : List UInt8} {l : List (List UInt8)} (hn : s.length < 1125899906842624) (hl : l.length < 1125899906842624) (ha : hasD p 7 = true → Apart s l) (hz : ∀ x ∈ l, x.length ≤ s.length) : (partT p s l).val = some (partedL p s l) := by
 unfold partT partedL
 rw [take_all, contains_empty_f hl, Tr.val_chk (by omega), Tr.val_call rfl]
 cases hE : l.any (· == []) with
 | true => rfl
 | false =>
  rw [vfalse]
  simp only [Bool.false_eq_true, if_false, has_f]
  by_cases h3 : l.length = 3
  ·have e3 : ((l.length : Int) == 3) = true := by simp [h3]
   rw [e3, vtrue, if_pos h3, Tr.val_chk (by omega), Tr.val_chk (by omega), Tr.val_chk (by omega), Tr.val_chk (by omega), Tr.val_chk (by omega), Tr.val_chk (by omega)]
   rfl
  ·have e3 : ((l.length : Int) == 3) = false := by rw [beq_eq_false_iff_ne]; omega
   rw [e3, vfalse, if_neg h3]
   by_cases h4 : 3 < l.length
   ·have e2 : ((l.length : Int) == 2) = false := by rw [beq_eq_false_iff_ne]; omega
    rw [decide_eq_true (show (l.length : Int) > 3 by omega), vtrue, Tr.val_call rfl, e2]
    have hne2 : ¬ l.length = 2 := by omega
    cases h7 : hasD p 7 with
    | false =>
     rw [vfalse, if_neg (fun h => by cases h.2), if_neg (fun h => hne2 h.1)]
     rfl
    | true =>
     have hap := ha h7 h4
     have hlast : l.getD (l.length - 1) [] ∈ l := by
      rw [List.getD_eq_getElem?_getD, List.getElem?_eq_getElem (by omega)]
      exact List.getElem_mem _
     have hfirst : l.getD 0 [] ∈ l := by
      rw [List.getD_eq_getElem?_getD, List.getElem?_eq_getElem (by omega)]
      exact List.getElem_mem _
     have hz1 := hz _ hlast
     have hz2 := hz _ hfirst
     have w1 : IntKind.i64.wrap ((l.length : Int) - 1) = ((l.length - 1 : Nat) : Int) := by rw [w64 (by omega) (by omega)]; omega
     generalize hA : l.getD 0 [] = A at hap hz2 ⊢
     have e0 : (0 : Nat) + (((l.length - 1 : Nat) : Int)).toNat = l.length - 1 := by simp
     rw [vtrue, if_pos ⟨h4, rfl⟩]
     simp only [w1, e0]
     generalize hZ : l.getD (l.length - 1) [] = Z at hap hz1 ⊢
     have w2 := wS (k := A.length) (by omega)
     have w3 : IntKind.i64.wrap (IntKind.i64.wrap ((s.length : Int) - (Z.length : Int)) - 1) = ((s.length - Z.length - 1 : Nat) : Int) := by
      rw [w64 (n := (s.length : Int) - (Z.length : Int)) (by omega) (by omega), w64 (by omega) (by omega)]
      omega
     simp only [w2, w3, Int.toNat_natCast]
     rw [Tr.val_chk (by omega), Tr.val_chk (by omega), Tr.val_chk (by omega), Tr.val_chk (by omega), Tr.val_chk (by omega), Tr.val_call rfl]
     unfold goalS
     cases h3' : hasD p 3 with
     | true =>
      rw [vtrue, text_Trim_f (by simp; omega), Tr.val_call rfl, Tr.val_chk (by omega), Tr.val_chk (by omega), Tr.val_chk (by omega), Tr.val_chk (by omega)]
      rfl
     | false =>
      rw [vfalse, Tr.val_chk (by omega), Tr.val_chk (by omega), Tr.val_chk (by omega), Tr.val_chk (by omega)]
      rfl
   ·rw [decide_eq_false (show ¬ (l.length : Int) > 3 by omega), vfalse, if_neg (fun h => h4 h.1)]
    by_cases h2 : l.length = 2
    ·have e2 : ((l.length : Int) == 2) = true := by simp [h2]
     rw [e2, vtrue, Tr.val_call rfl]
     cases h6 : hasD p 6 with
     | true =>
      rw [vtrue, if_pos ⟨h2, rfl⟩, Tr.val_chk (by omega), Tr.val_chk (by omega), Tr.val_chk (by omega), Tr.val_chk (by omega)]
      rfl
     | false =>
      rw [vfalse, if_neg (fun h => by cases h.2)]
      rfl
    ·have e2 : ((l.length : Int) == 2) = false := by rw [beq_eq_false_iff_ne]; omega
     rw [e2, vfalse, if_neg (fun h => h2 h.1)]
     rfl
theorem splitC_total {c : UInt8} : ∀ (n : Nat) (s : List UInt8), s.length ≤ n → ((splitC c s).map List.length).sum + (splitC c s).length = s.length + 1
 | 0, s, h => by
  have : s = [] := List.length_eq_zero_iff.1 (by omega)
  subst this; rfl
 | n + 1, s, h => by
  by_cases hc : s.contains c = true
  ·have hl := before_len hc
   have ih := splitC_total (c := c) n (after c s) (by omega)
   rw [splitC_is hc]
   simp only [List.map_cons, List.sum_cons, List.length_cons]
   omega
  ·rw [splitC_not (by simpa using hc)]
   simp
theorem split_apart {c : UInt8} {s : List UInt8} : Apart s (splitC c s) := by
 intro h
 have ht := splitC_total (c := c) s.length s (Nat.le_refl _)
 generalize splitC c s = l at h ht ⊢
 match l, h with
 | a :: m, h =>
  rcases List.eq_nil_or_concat m with rfl | ⟨k, z, rfl⟩
  ·simp at h
  ·simp only [List.concat_eq_append] at h ht ⊢
   have e1 : (a :: (k ++ [z])).getD ((a :: (k ++ [z])).length - 1) [] = z := by
    simp [List.getD_eq_getElem?_getD]
   rw [e1]
   simp only [List.getD_cons_zero]
   simp only [List.map_cons, List.map_append, List.map_nil, List.sum_cons, List.sum_append, List.sum_nil, List.length_cons, List.length_append, List.length_nil] at ht h
   omega
def FieldsOk (p : Int) (s : List UInt8) : Prop := hasD p 3 = true → (s.length ≤ 4294967296 ∧ (hasD p 7 = true → Apart (trim s) (q9y.fieldsOf (trim s))) ∧ (∀ x ∈ q9y.fieldsOf (trim s), x.length ≤ (trim s).length) ∧ (q9y.fieldsOf (trim s)).length < 1125899906842624)
theorem parted_f {s : List UInt8} {p : Int} (hn : s.length ≤ 1099511627776) (hf : FieldsOk p s) : q8m.f s p = some (partedS s p) := by
 have ht := trimP_length isBlank s
 have ht' : (trim s).length ≤ s.length := ht
 have hsc : (splitC 32 s).length < 1125899906842624 := by
  rw [splitC_len 32 s.length s (Nat.le_refl _)]
  have : s.count 32 ≤ s.length := List.count_le_length
  omega
 show (Tr.call (qas.f s) fun y1 => Tr.call (q5g.f p 3) fun y2 => Tr.br y2 (Tr.call (qc4.f s) fun y3 => Tr.call (q9y.f y3) fun y4 => partT p y3 y4) (partT p s y1)).val = _
 rw [split20_f hn, Tr.val_call rfl, has_f, Tr.val_call rfl]
 unfold partedS partsS partsL
 cases h3 : hasD p 3 with
 | true =>
  obtain ⟨q1, q2, q3, q4⟩ := hf h3
  rw [vtrue, text_Trim_f (by omega), Tr.val_call rfl]
  have hff : q9y.f (trim s) = some (q9y.fieldsOf (trim s)) := by
   unfold q9y.f
   rw [if_pos (by omega)]
  rw [hff, Tr.val_call rfl]
  exact partT_f (by omega) q4 q2 q3
 | false =>
  rw [vfalse]
  exact partT_f (by omega) hsc (fun _ => split_apart) (fun x hx => splitC_small s.length (Nat.le_refl _) x hx)
def targetByte (spaces controls : Bool) (c : UInt8) : Bool := isVis c || (spaces && isBlank c) || (controls && isCtl c)
def goesT (method s : List UInt8) (p : Int) : Bool :=
 s.all (targetByte (hasD p 7) (hasD p 8)) && !(s == []) && (hasD p 7 || hasD p 8 || decide ((targetS method s).2.2.2.2.2 = 0))
theorem vis_ascii {c : UInt8} (h : isVis c = true) : c.toNat < 128 := by
 have := all256 (p := fun c => !isVis c || decide (c.toNat < 128)) (by decide +kernel) c
 simpa [h] using this
theorem goes_f' {method s : List UInt8} {p : Int} (hn : s.length < 4294967000) : q8g.f method s p = some (goesT method s p) := by
 have hL : q8g.L3.f s (hasD p 7) (hasD p 8) (s.length : Int) 0 = some (if s.all (targetByte (hasD p 7) (hasD p 8)) = true then .inl () else .inr false) := by
  unfold q8g.L3.f
  refine (Loop_scan s (fun _ c => if targetByte (hasD p 7) (hasD p 8) c = true then none else some (Sum.inr false : Unit ⊕ Bool)) (.inl ()) (fun k c hk hc => ?_) ?_ (by omega)).trans (by rw [scan_all])
  ·have hw := wS (k := k) (by omega)
   unfold q8g.L3.t targetByte
   simp only [getD_at hk hc, octet_Visible_f, octet_Blank_f, octet_Control_f, Tr.val, lt_nat, decide_eq_true hk, cond_true, hw]
   rw [if_pos (by omega)]
   cases isVis c <;> cases isBlank c <;> cases isCtl c <;> cases hasD p 7 <;> cases hasD p 8 <;> rfl
  ·simp [q8g.L3.t, Tr.val]
 unfold q8g.f q8g.t goesT
 rw [has_f, Tr.val_call rfl, has_f, Tr.val_call rfl, hL]
 cases hA : s.all (targetByte (hasD p 7) (hasD p 8)) with
 | false => rfl
 | true =>
  rw [if_pos rfl, Tr.val_inl rfl]
  cases h0 : (s == []) with
  | true => rfl
  | false =>
   rw [vfalse]
   cases h7 : hasD p 7 with
   | true => rfl
   | false =>
    rw [vfalse]
    cases h8 : hasD p 8 with
    | true => rfl
    | false =>
     rw [vfalse]
     have ha : ascii s := fun c hc => by
      have := List.all_eq_true.1 hA c hc
      unfold targetByte at this
      rw [h7, h8] at this
      exact vis_ascii (by simpa using this)
     rw [target_f ha hn]
     generalize targetS method s = q
     obtain ⟨a, b, c, d, e, f⟩ := q
     show some (f == 0) = _
     by_cases h : f = 0 <;> simp [h]
def versionBytes : List UInt8 := [72, 84, 84, 80, 47, 49, 46]
def minorS (s : List UInt8) (p : Int) (old : Bool) : Int × Bool :=
 if s = [] then (0, old)
 else if s.length ≠ 8 ∨ isDigit (s.getD 7 0) = false then (0, false)
 else if s.take 7 ≠ versionBytes ∧ ¬ (hasD p 5 = true ∧ same (s.take 7) versionBytes = true) then (0, false)
 else if s.getD 7 0 = 48 then (0, old) else if s.getD 7 0 = 49 then (1, true) else (1, hasD p 4)
theorem minor_f {s : List UInt8} {p : Int} {old : Bool} : q8j.f s p old = some (minorS s p old) := by
 unfold q8j.f q8j.t minorS
 by_cases h0 : s = []
 ·subst h0; rfl
 ·have e0 : (s == []) = false := by simpa using h0
  rw [e0, vfalse, if_neg h0]
  by_cases h8 : s.length = 8
  ·have e8 : ((s.length : Int) != 8) = false := by simp [h8]
   rw [e8, vfalse, Tr.val_chk (by omega)]
   have e5 : Int.toNat 7 = 7 := rfl
   simp only [e5, octet_Digit_f]
   rw [Tr.val_call rfl]
   cases hd : isDigit (s.getD 7 0) with
   | false => rw [if_pos (.inr rfl)]; rfl
   | true =>
    rw [if_neg (by simp [h8])]
    have e1 : ([(72 : UInt8), (84 : UInt8), (84 : UInt8), (80 : UInt8), (47 : UInt8), (49 : UInt8), (46 : UInt8)]) = versionBytes := rfl
    rw [e1]
    rw [show (!true) = false from rfl, vfalse, Tr.val_chk (by omega)]
    simp only [Int.toNat_natCast, List.drop_zero]
    have hsame := text_Same_f (a := s.take 7) (b := versionBytes) (by simp; omega) (by decide)
    have h48 : (((s.getD 7 0).toNat : Int) == 48) = (s.getD 7 0 == 48) := byte_eqI _ 48 (by decide) (by decide)
    have h49 : (((s.getD 7 0).toNat : Int) == 49) = (s.getD 7 0 == 49) := byte_eqI _ 49 (by decide) (by decide)
    simp only [h48, h49, has_f]
    have hend : ((Tr.chk ((0 : Int) ≤ 7 ∧ (7 : Int) < (s.length : Int)) (Tr.br (s.getD 7 0 == 48) (Tr.ret ((0 : Int), old)) (Tr.br (s.getD 7 0 == 49) (Tr.ret ((1 : Int), true)) (Tr.call (some (hasD p 4)) fun y => Tr.ret ((1 : Int), y))))).val) = some (if s.getD 7 0 = 48 then (0, old) else if s.getD 7 0 = 49 then (1, true) else (1, hasD p 4)) := by
     rw [Tr.val_chk (by omega)]
     generalize s.getD 7 0 = d
     by_cases q1 : d = 48
     ·subst q1; rfl
     ·have q1' : (d == 48) = false := by simpa using q1
      rw [q1', vfalse, if_neg q1]
      by_cases q2 : d = 49
      ·subst q2; rfl
      ·have q2' : (d == 49) = false := by simpa using q2
       rw [q2', vfalse, if_neg q2]
       rfl
    by_cases hv : s.take 7 = versionBytes
    ·have ev : (s.take 7 == versionBytes) = true := by simpa using hv
     rw [ev, show (!true) = false from rfl, vfalse, if_neg (fun h => h.1 hv)]
     exact hend
    ·have ev : (s.take 7 == versionBytes) = false := by simpa using hv
     rw [ev, show (!false) = true from rfl, vtrue, Tr.val_call rfl]
     cases h5 : hasD p 5 with
     | false => rw [if_pos ⟨hv, by simp⟩]; rfl
     | true =>
      rw [vtrue, Tr.val_chk (by omega), hsame, Tr.val_call rfl]
      cases hs : same (s.take 7) versionBytes with
      | false => rw [if_pos ⟨hv, by simp⟩]; rfl
      | true =>
       rw [if_neg (by simp)]
       exact hend
  ·have e8 : ((s.length : Int) != 8) = true := by simp; omega
   rw [e8, vtrue, if_pos (.inl h8)]
   rfl
abbrev ReqS := List UInt8 × List UInt8 × Int × Int
def requestS (s : List UInt8) (p : Int) (old : Bool) : ReqS :=
 if (partedS s p).2.2.2 ≠ 0 then ([], [], 0, 400)
 else if (partedS s p).1 = [] ∨ 32 < (partedS s p).1.length ∨ (partedS s p).1.all isTok = false ∨ goesT (partedS s p).1 (partedS s p).2.1 p = false then ([], [], 0, 400)
 else if (minorS (partedS s p).2.2.1 p old).2 = false then ([], [], 0, 505)
 else ((partedS s p).1, (partedS s p).2.1, (minorS (partedS s p).2.2.1 p old).1, 0)
theorem request_f {s : List UInt8} {p : Int} {old : Bool} (hn : s.length ≤ 1099511627776) (hf : FieldsOk p s) (hg : (partedS s p).2.1.length < 4294967000) : q8a.f s p old = some (requestS s p old) := by
 unfold q8a.f q8a.t requestS
 rw [parted_f hn hf, Tr.val_call rfl]
 generalize partedS s p = q at hg ⊢
 obtain ⟨a, b, v, e⟩ := q
 simp only at hg ⊢
 by_cases he : e = 0
 ·subst he
  rw [show ((0 : Int) != 0) = false from rfl, vfalse, if_neg (by simp)]
  by_cases ha : a = []
  ·subst ha; rfl
  ·have e0 : (a == []) = false := by simpa using ha
   rw [e0, vfalse]
   by_cases h32 : 32 < a.length
   ·rw [decide_eq_true (show (a.length : Int) > 32 by omega), vtrue, if_pos (.inr (.inl h32))]; rfl
   ·rw [decide_eq_false (show ¬ (a.length : Int) > 32 by omega), vfalse]
    have f1 := octet_All1 (k := 1) (s := a) (by omega)
    rw [kind_tok] at f1
    rw [f1, Tr.val_call rfl]
    cases ht : a.all isTok with
    | false => rw [if_pos (.inr (.inr (.inl rfl)))]; rfl
    | true =>
     rw [show (!true) = false from rfl, vfalse, goes_f' hg, Tr.val_call rfl]
     cases hgo : goesT a b p with
     | false => rw [if_pos (.inr (.inr (.inr rfl)))]; rfl
     | true =>
      rw [if_neg (by simp [ha]; omega), show (!true) = false from rfl, vfalse, minor_f, Tr.val_call rfl]
      generalize minorS v p old = m
      obtain ⟨m1, m2⟩ := m
      cases m2 <;> rfl
 ·have : (e != 0) = true := by simpa using he
  rw [this, vtrue, if_pos he]
  rfl
end Pl
end Go.Vx
end
section
set_option linter.unusedVariables false
set_option linter.unusedSimpArgs false
set_option maxRecDepth 100000
namespace Go.Vx
namespace Pl
open Go Go.Proofs
theorem vokl {α : Type} (n : Nat) (a : Tr α) : (Tr.okl n a).val = a.val := rfl
def FitF (l : List (List UInt8 × List UInt8)) : Prop := l.length ≤ 1000000 ∧ ∀ f ∈ l, f.1.length ≤ 1000000 ∧ f.2.length ≤ 1000000
theorem find_f {l : List (List UInt8 × List UInt8)} {name : List UInt8} (h : FitF l) (hname : name.length ≤ 1000000) : qbs.f l name = some (findS l name) :=
 find_loop (fun f hf => by have := (h.2 f hf).1; omega) (by omega) (by have := h.1; omega)
theorem findS_fit {l : List (List UInt8 × List UInt8)} {name : List UInt8} (h : FitF l) : (findS l name).length ≤ 1000000 ∧ ∀ x ∈ findS l name, x.length ≤ 1000000 := by
 unfold findS
 constructor
 ·rw [List.length_map]
  have := List.length_filter_le (fun f => same f.1 name) l
  have := h.1
  omega
 ·intro x hx
  obtain ⟨f, hf, rfl⟩ := List.mem_map.1 hx
  exact (h.2 f (List.mem_filter.1 hf).1).2
theorem listS_len (values : List (List UInt8)) : ∀ (M : Nat), (∀ x ∈ values, x.length ≤ M) → (listS values).length ≤ values.length * (M + 1) := by
 intro M h
 induction values with
 | nil => simp [listS]
 | cons v l ih =>
  have e : listS (v :: l) = (splitC 44 v).map trim ++ listS l := by simp [listS]
  rw [e, List.length_append, List.length_map, List.length_cons, splitC_len 44 v.length v (Nat.le_refl _)]
  have h1 := h v (List.mem_cons_self ..)
  have h2 : v.count 44 ≤ v.length := List.count_le_length
  have h3 := ih fun x hx => h x (List.mem_cons_of_mem _ hx)
  have h4 : (l.length + 1) * (M + 1) = l.length * (M + 1) + (M + 1) := by rw [Nat.succ_mul]
  omega
theorem listS_small (values : List (List UInt8)) (M : Nat) (h : ∀ x ∈ values, x.length ≤ M) : ∀ x ∈ listS values, x.length ≤ M := by
 intro x hx
 unfold listS at hx
 obtain ⟨v, hv, hx⟩ := List.mem_flatMap.1 hx
 obtain ⟨y, hy, rfl⟩ := List.mem_map.1 hx
 have h1 := splitC_small v.length (Nat.le_refl _) y hy
 have h2 := trimP_length isBlank y
 have := h v hv
 unfold trim
 omega
theorem list_f {values : List (List UInt8)} (h1 : values.length ≤ 1000000) (h2 : ∀ x ∈ values, x.length ≤ 1000000) : qbv.f values = some (listS values) := by
 refine list_outer (fun x hx => by have := h2 x hx; omega) ?_ (by omega)
 have := listS_len values 1000000 h2
 have : values.length * (1000000 + 1) ≤ 1000000 * (1000000 + 1) := Nat.mul_le_mul_right _ h1
 omega
theorem listS_len' {values : List (List UInt8)} (h1 : values.length ≤ 1000000) (h2 : ∀ x ∈ values, x.length ≤ 1000000) : (listS values).length ≤ 1000001000000 := by
 have := listS_len values 1000000 h2
 have : values.length * (1000000 + 1) ≤ 1000000 * (1000000 + 1) := Nat.mul_le_mul_right _ h1
 omega
theorem anyHost_f {l : List (List UInt8)} (hn : l.length ≤ 1000000) (hs : ∀ x ∈ l, x.length ≤ 1000000) : q8p.f l = some (l.any fun s => !hostS s) := by
 have hL : q91.L2.f l (l.length : Int) 0 = some (scan (idxStep fun s => !hostS s) (.inl ()) 0 l) := by
  unfold q91.L2.f
  refine Loop_scan l (idxStep fun s => !hostS s) (.inl ()) (fun k c hk hc => ?_) ?_ (by omega)
  ·have hw := wS (k := k) (by omega)
   have hcl := hs c (by rw [← hc]; exact List.getElem_mem hk)
   have f1 : q0r.f c = some (!hostS c) := by
    unfold q0r.f q0r.t
    rw [host_f (by omega)]; rfl
   unfold q91.L2.t idxStep
   simp only [Nat.zero_add, getD_at hk hc, f1, Tr.val, lt_nat, decide_eq_true hk, cond_true, hw]
   rw [if_pos (by omega), if_pos (by simpa using hk)]
   by_cases h : (!hostS c) = true
   ·simp only [h]; rfl
   ·have h' : (!hostS c) = false := by simpa using h
    simp only [h']; rfl
  ·simp [q91.L2.t, Tr.val]
 have hI : q91.f l = some (idxV (scan (idxStep fun s => !hostS s) (.inl ()) 0 l)) := by
  unfold q91.f q91.t
  rw [hL]
  exact idx_t _ rfl
 unfold q8p.f q8p.t
 rw [take_all, hI, Tr.val_chk (by omega), Tr.val_call rfl, idx_ge]
 rfl
def hostName : List UInt8 := [72, 111, 115, 116]
def hostsL (p minor : Int) (h : List (List UInt8)) : Int :=
 if (if h.length = 0 then decide (minor ≠ 1) || hasD p 15 else if h.length = 1 then true else hasD p 16) = false then 400
 else if (h.any fun s => !hostS s) = true then 400 else 0
def hostsS (l : List (List UInt8 × List UInt8)) (p minor : Int) : Int := hostsL p minor (findS l hostName)
theorem hosts_f {l : List (List UInt8 × List UInt8)} {p minor : Int} (h : FitF l) : q0o.f l p minor = some (hostsS l p minor) := by
 obtain ⟨q1, q2⟩ := findS_fit (name := hostName) h
 unfold q0o.f q0o.t hostsS
 rw [take_all, Tr.val_chk (by omega), show ([(72 : UInt8), (111 : UInt8), (115 : UInt8), (116 : UInt8)]) = hostName from rfl, find_f h (by decide), Tr.val_call rfl]
 generalize findS l hostName = hs at q1 q2 ⊢
 unfold hostsL
 have f1 := anyHost_f (by omega) q2
 simp only [take_all, f1, has_f]
 have hend : ∀ (b : Bool), (Tr.chk ((0 : Nat) + hs.length ≤ hs.length) (Tr.call (some b) fun y => Tr.br y (Tr.ret (400 : Int)) (Tr.ret (0 : Int)))).val = some (if b = true then 400 else 0) := by
  intro b
  rw [Tr.val_chk (by omega), Tr.val_call rfl]
  cases b <;> rfl
 by_cases h0 : hs.length = 0
 ·have e0 : ((hs.length : Int) == 0) = true := by simp [h0]
  rw [e0, vtrue, if_pos h0]
  by_cases hm : minor = 1
  ·subst hm
   rw [show ((1 : Int) != 1) = false from rfl, vfalse, Tr.val_call rfl]
   cases hasD p 15 with
   | false => rfl
   | true =>
    rw [show (!true) = false from rfl, vfalse, hend]
    simp
  ·have : (minor != 1) = true := by simpa using hm
   rw [this, vtrue, hend]
   simp [hm]
 ·have e0 : ((hs.length : Int) == 0) = false := by rw [beq_eq_false_iff_ne]; omega
  rw [e0, vfalse, if_neg h0]
  by_cases h1 : hs.length = 1
  ·have e1 : ((hs.length : Int) == 1) = true := by simp [h1]
   rw [decide_eq_false (by omega), vfalse, e1, show (!true) = false from rfl, vfalse, hend, if_pos h1]
   simp
  ·rw [decide_eq_true (show (hs.length : Int) > 1 by omega), vtrue, if_neg h1, Tr.val_call rfl]
   cases hasD p 16 with
   | false => rfl
   | true =>
    rw [show (!true) = false from rfl, vfalse, hend]
    simp
def chunkedB : List UInt8 := [99, 104, 117, 110, 107, 101, 100]
def teBlank (c : UInt8) : Bool := ([11, 12, 32, 9] : List UInt8).contains c
def codeS (p : Int) (s : List UInt8) : List UInt8 := lower (if hasD p 17 = true then trimP teBlank s else s)
def codingL (p : Int) (l : List (List UInt8)) : Bool :=
 !(l == []) && (decide (l.length = 1) || hasD p 18) && (l.any (· == chunkedB) && decide (l.findIdx (· == chunkedB) + 1 = l.length))
def codingS (values : List (List UInt8)) (p : Int) : Bool := codingL p ((listS values).map (codeS p))
theorem trimOf_front {set s : List UInt8} (hn : s.length < 1125899906842624) : qcg.L1.f set s = some (s.dropWhile set.contains) := by
 unfold qcg.L1.f
 have f1 : ∀ c : UInt8, qca.f set (c.toNat : Int) = some (set.contains c) := by
  intro c
  unfold qca.f qca.t
  rw [indexByte_f]
  cases h : set.contains c <;> simp [Tr.val]
 refine Loop_front (p := set.contains) ?_ ?_ hn
 ·simp [qcg.L1.t, Tr.val]
 ·intro c l _
  have h0 : ((c :: l) == ([] : List UInt8)) = false := rfl
  have hc : (c :: l).getD (Int.toNat 0) 0 = c := rfl
  unfold qcg.L1.t
  simp only [Tr.val, h0, Bool.not_false, cond_true, hc, f1]
  rw [if_pos (by simp)]
  by_cases h : set.contains c = true
  ·simp only [h, cond_true, if_true]
   rw [if_pos (by simp; omega)]
   simp
  ·have h' : set.contains c = false := by simpa using h
   simp only [h', cond_false]
   rfl
theorem trimOf_end {set s : List UInt8} (hn : s.length < 1125899906842624) : qcg.L3.f set s = some (dropEnd set.contains s) := by
 unfold qcg.L3.f
 have f1 : ∀ c : UInt8, qca.f set (c.toNat : Int) = some (set.contains c) := by
  intro c
  unfold qca.f qca.t
  rw [indexByte_f]
  cases h : set.contains c <;> simp [Tr.val]
 refine Loop_end (p := set.contains) ?_ ?_ hn
 ·simp [qcg.L3.t, Tr.val]
 ·intro l c hl
  have h1 := snoc_wrap (l := l) (c := c) (by omega)
  have h2 : ((l ++ [c]) == []) = false := by simp
  have h3 : (l ++ [c]).getD l.length 0 = c := by simp
  unfold qcg.L3.t
  rw [h1]
  simp only [Tr.val, h2, Int.toNat_natCast, h3, f1, Bool.not_false, cond_true]
  rw [if_pos (by simp; omega)]
  by_cases h : set.contains c = true
  ·simp only [h, cond_true, if_true]
   rw [if_pos (by simp; omega)]
   simp
  ·have h' : set.contains c = false := by simpa using h
   simp only [h', cond_false]
   rfl
theorem trimOf_f {s set : List UInt8} (hn : s.length < 1125899906842624) : qc7.f s set = some (trimP set.contains s) := by
 unfold qc7.f qc7.t qcg.f qcg.t trimP
 have := (List.dropWhile_sublist set.contains (l := s)).length_le
 simp only [trimOf_front hn, Tr.val, trimOf_end (s := s.dropWhile set.contains) (by omega)]
theorem coding_loop {l : List (List UInt8)} {p : Int} (hn : l.length < 1125899906842624) (hs : ∀ x ∈ l, x.length ≤ 1000000) : q0i.L3.f l p (l.length : Int) 0 = some (l.map (codeS p)) := by
 unfold q0i.L3.f
 refine (Loop_list (A := Unit) (a := ()) l (fun k _ => ((l.take k).map (codeS p) ++ l.drop k, (k : Int))) (fun _ _ => True) (fun _ _ => .inl ()) (fun _ => l.map (codeS p)) ?_ ?_ hn trivial (by simp)).trans ?_
 ·intro k a c _ hk hc
  refine ⟨?_, fun _ _ => trivial⟩
  subst hc
  have hw := wS (k := k) (by omega)
  have hcl := hs l[k] (List.getElem_mem hk)
  have hle : ((l.take k).map (codeS p) ++ l.drop k).length = l.length := by simp; omega
  have hat : ((l.take k).map (codeS p) ++ l.drop k).getD k [] = l[k] := by
   rw [List.getD_eq_getElem?_getD, List.getElem?_append_right (by simp; omega)]
   simp [Nat.min_eq_left (Nat.le_of_lt hk), hk]
  have hset : ∀ b, ((l.take k).map (codeS p) ++ l.drop k).set k b = (l.take k).map (codeS p) ++ b :: l.drop (k + 1) := by
   intro b
   rw [List.set_append_right _ _ (by simp; omega)]
   have e : k - ((l.take k).map (codeS p)).length = 0 := by simp; omega
   rw [e, List.drop_eq_getElem_cons hk]
   rfl
  have hnext : (l.take (k + 1)).map (codeS p) ++ l.drop (k + 1) = (l.take k).map (codeS p) ++ codeS p l[k] :: l.drop (k + 1) := by
   rw [List.take_add_one, List.getElem?_eq_getElem hk, List.map_append, List.append_assoc]
   rfl
  have ht := trimP_length teBlank l[k]
  have f1 : qc7.f l[k] [11, 12, 32, 9] = some (trimP teBlank l[k]) := trimOf_f (by omega)
  have f2 := text_Lower_f (s := trimP teBlank l[k]) (by omega)
  have f3 := text_Lower_f (s := l[k]) (by omega)
  unfold q0i.L3.t
  simp only [Int.toNat_natCast, Nat.zero_add, hat, hle, lt_nat, decide_eq_true hk, hw, hnext, has_f, f1, f3, Tr.val, cond_true, hset]
  rw [if_pos (by omega), if_pos hk]
  unfold codeS
  cases hasD p 17 with
  | true =>
   simp only [cond_true, f2, Tr.val, if_true]
   rw [if_pos (by omega), if_pos hk, if_pos (by simp; omega)]
  | false =>
   simp only [cond_false, Tr.val, Bool.false_eq_true, if_false]
   rw [if_pos (by omega), if_pos hk, if_pos (by simp; omega)]
 ·intro a _
  simp [q0i.L3.t, Tr.val]
 ·have : ∀ (m : List (List UInt8)), foldE (fun (_ : Unit) (_ : List UInt8) => (Sum.inl () : Unit ⊕ List (List UInt8))) (fun _ => l.map (codeS p)) () m = l.map (codeS p) := by
   intro m
   induction m with
   | nil => rfl
   | cons c m ih => exact ih
  rw [this]
theorem indexChunked_f {l : List (List UInt8)} (hn : l.length < 1125899906842624) : q9d.f l = some (if l.any (· == chunkedB) = true then (l.findIdx (· == chunkedB) : Int) else -1) := by
 have hL : q9d.L2.f l (l.length : Int) 0 = some (scan (idxStep (· == chunkedB)) (.inl ()) 0 l) := by
  unfold q9d.L2.f
  refine Loop_scan l (idxStep (· == chunkedB)) (.inl ()) (fun k c hk hc => ?_) ?_ hn
  ·have hw := wS (k := k) (by omega)
   have hsym : (([(99 : UInt8), (104 : UInt8), (117 : UInt8), (110 : UInt8), (107 : UInt8), (101 : UInt8), (100 : UInt8)]) == c) = (c == chunkedB) := by
    rw [Bool.eq_iff_iff]
    simp only [beq_iff_eq]
    exact ⟨fun h => h.symm, fun h => h.symm⟩
   unfold q9d.L2.t idxStep
   simp only [Nat.zero_add, getD_at hk hc, Tr.val, lt_nat, decide_eq_true hk, cond_true, hw, hsym]
   rw [if_pos (by omega), if_pos (by simpa using hk)]
   by_cases h : (c == chunkedB) = true
   ·simp only [h]; rfl
   ·have h' : (c == chunkedB) = false := by simpa using h
    simp only [h']; rfl
  ·simp [q9d.L2.t, Tr.val]
 unfold q9d.f q9d.t
 rw [hL]
 refine (idx_t _ rfl).trans ?_
 rw [idx_scan, Nat.zero_add]
theorem coding_f {values : List (List UInt8)} {p : Int} (h1 : values.length ≤ 1000000) (h2 : ∀ x ∈ values, x.length ≤ 1000000) : q0i.f values p = some (codingS values p) := by
 have hl := listS_len' h1 h2
 have hs := listS_small values 1000000 h2
 unfold q0i.f q0i.t codingS
 rw [take_all, list_f h1 h2, Tr.val_chk (by omega), Tr.val_call rfl]
 simp only [coding_loop (l := listS values) (p := p) (by omega) hs]
 have hlen : ((listS values).map (codeS p)).length = (listS values).length := List.length_map ..
 rw [vokl, vokl, Tr.val_call rfl]
 generalize (listS values).map (codeS p) = l at hlen ⊢
 have hln : l.length < 1125899906842624 := by omega
 unfold codingL
 simp only [take_all, indexChunked_f hln, has_f]
 cases l with
 | nil => rfl
 | cons x m =>
  have e0 : ((x :: m) == ([] : List (List UInt8))) = false := rfl
  have hln' : m.length + 1 < 1125899906842624 := by simpa using hln
  have hw : IntKind.i64.wrap (((m.length + 1 : Nat) : Int) - 1) = ((m.length : Nat) : Int) := by
   rw [w64 (by omega) (by omega)]; omega
  simp only [List.length_cons, e0, Bool.not_false, Bool.true_and]
  simp only [hw]
  rw [decide_eq_false (by omega)]
  have hfin : ((if ((x :: m).any fun x => x == chunkedB) = true then (((x :: m).findIdx fun x => x == chunkedB) : Int) else -1) == ((m.length : Nat) : Int)) = (((x :: m).any fun x => x == chunkedB) && decide (((x :: m).findIdx fun x => x == chunkedB) + 1 = m.length + 1)) := by
   cases h : (x :: m).any fun x => x == chunkedB with
   | true =>
    simp only [if_true, Bool.true_and]
    by_cases h : ((x :: m).findIdx fun x => x == chunkedB) = m.length
    ·simp [h]
    ·have h2 : ¬ ((x :: m).findIdx fun x => x == chunkedB) + 1 = m.length + 1 := by omega
     rw [decide_eq_false h2, beq_eq_false_iff_ne]
     omega
   | false =>
    simp only [Bool.false_eq_true, if_false, Bool.false_and]
    rw [beq_eq_false_iff_ne]; omega
  cases m with
  | nil =>
   show some _ = _
   rw [hfin]
   rfl
  | cons y m =>
   rw [decide_eq_true (show (((y :: m).length : Nat) : Int) > 0 by simp)]
   have h1 : ¬ (y :: m).length + 1 = 1 := by simp
   rw [vfalse, vtrue, Tr.val_call rfl]
   rw [decide_eq_false h1, Bool.false_or]
   cases hasD p 18 with
   | false => rfl
   | true =>
    rw [show (!true) = false from rfl, vfalse, Tr.val_chk (by omega), Tr.val_call rfl, hfin]
    rfl
theorem differ_f {l : List (List UInt8)} {s : List UInt8} (hn : l.length < 1125899906842624) : q8s.f l s = some (l.any fun x => !(x == s)) := by
 have hL : q94.L2.f l s (l.length : Int) 0 = some (scan (idxStep fun x => !(x == s)) (.inl ()) 0 l) := by
  unfold q94.L2.f
  refine Loop_scan l (idxStep fun x => !(x == s)) (.inl ()) (fun k c hk hc => ?_) ?_ hn
  ·have hw := wS (k := k) (by omega)
   unfold q94.L2.t idxStep
   simp only [Nat.zero_add, getD_at hk hc, Tr.val, lt_nat, decide_eq_true hk, cond_true, hw]
   rw [if_pos (by omega), if_pos (by simpa using hk)]
   by_cases h : (!(c == s)) = true
   ·simp only [h]; rfl
   ·have h' : (!(c == s)) = false := by simpa using h
    simp only [h']; rfl
  ·simp [q94.L2.t, Tr.val]
 have hI : q94.f l s = some (idxV (scan (idxStep fun x => !(x == s)) (.inl ()) 0 l)) := by
  unfold q94.f q94.t
  rw [hL]
  exact idx_t _ rfl
 unfold q8s.f q8s.t
 rw [take_all, hI, Tr.val_chk (by omega), Tr.val_call rfl, idx_ge]
 rfl
theorem trimPlus_f {s : List UInt8} : qay.f s = some (if starts 43 s = true then s.drop 1 else s) := by
 have h0 : q1c.f s = some (starts 43 s) := by
  unfold q1c.f q1c.t starts
  cases s with
  | nil => simp [Tr.val]
  | cons x l =>
   have h : decide ((((x :: l).length : Nat) : Int) ≥ 1) = true := by simp; omega
   simp only [Tr.val, h, cond_true]
   rw [if_pos (by simp; omega)]
   simp
 have h1 : q1x.f s = some (if starts 43 s = true then s.drop 1 else s) := by
  unfold q1x.f q1x.t
  rw [h0, Tr.val_call rfl]
  cases h : starts 43 s with
  | true =>
   have hl : 1 ≤ s.length := by
    cases s with
    | nil => cases h
    | cons x l => simp
   rw [vtrue, Tr.val_chk (by omega), if_pos rfl]
   simp [Tr.val]
  | false => rfl
 unfold qay.f qay.t
 rw [h1]; rfl
def pickS (p : Int) (l : List (List UInt8)) : Option (List UInt8) :=
 if l.length = 1 ∨ ((l.any fun x => !(x == l.getD 0 [])) = false ∧ hasD p 24 = true) ∨ hasD p 25 = true then some (l.getD 0 [])
 else if hasD p 26 = true then some (l.getD (l.length - 1) []) else none
def plusS (p : Int) (s : List UInt8) : List UInt8 := if hasD p 23 = true ∧ starts 43 s = true then s.drop 1 else s
def pickedS (p most : Int) : Option (List UInt8) → Int × Int
 | some s => sizeErr (numS 10 most (plusS p s))
 | none => (0, 400)
def lengthL (p most : Int) (l : List (List UInt8)) : Int × Int := if l.length = 0 then (0, 0) else pickedS p most (pickS p l)
def lengthS (values : List (List UInt8)) (p most : Int) : Int × Int := lengthL p most (if hasD p 24 = true then listS values else values)
def lenT (p most : Int) (l : List (List UInt8)) : Tr (Int × Int) :=
 .br ((↑l.length : Int) == (0 : Int)) (.ret ((0 : Int), (0 : Int)))
  (.chk ((0 : Int) ≤ (0 : Int) ∧ (0 : Int) < (↑l.length : Int)) <| .chk ((0 : Nat) < l.length) <| .chk ((0 : Int) ≤ IntKind.i64.wrap ((↑l.length : Int) - (1 : Int)) ∧ IntKind.i64.wrap ((↑l.length : Int) - (1 : Int)) < (↑l.length : Int)) <| .chk ((0 : Nat) + (IntKind.i64.wrap ((↑l.length : Int) - (1 : Int))).toNat < l.length) <| .chk ((0 : Nat) + l.length ≤ l.length) <| .call (q8s.f (List.take l.length (List.drop (0 : Nat) l)) (l.getD (0 : Nat) [])) fun y3 =>
  .br ((↑l.length : Int) == (1 : Int)) (endT (l.getD (0 : Nat) []))
  (.br (!y3) (.call (q5g.f p (24 : Int)) fun y8 =>
   .br y8 (endT (l.getD (0 : Nat) []))
   (.call (q5g.f p (25 : Int)) fun y13 =>
    .br y13 (endT (l.getD (0 : Nat) []))
    (.call (q5g.f p (26 : Int)) fun y18 =>
    .br y18 (endT (l.getD ((0 : Nat) + (IntKind.i64.wrap ((↑l.length : Int) - (1 : Int))).toNat) []))
    (.ret ((0 : Int), (400 : Int))))))
   (.call (q5g.f p (25 : Int)) fun y23 =>
   .br y23 (endT (l.getD (0 : Nat) []))
   (.call (q5g.f p (26 : Int)) fun y28 =>
    .br y28 (endT (l.getD ((0 : Nat) + (IntKind.i64.wrap ((↑l.length : Int) - (1 : Int))).toNat) []))
    (.ret ((0 : Int), (400 : Int)))))))
where
 endT (s : List UInt8) : Tr (Int × Int) := .call (q5g.f p (23 : Int)) fun y4 =>
   .br y4 (.call (qay.f s) fun y5 =>
   .call (q2m.f y5 most) fun (a, b) =>
   .br (b == (23 : Int)) (.ret ((0 : Int), (413 : Int)))
   (.br (b == (22 : Int)) (.ret ((0 : Int), (400 : Int)))
    (.ret (a, (0 : Int)))))
   (.call (q2m.f s most) fun (a, b) =>
   .br (b == (23 : Int)) (.ret ((0 : Int), (413 : Int)))
   (.br (b == (22 : Int)) (.ret ((0 : Int), (400 : Int)))
    (.ret (a, (0 : Int)))))
theorem endT_f {p most : Int} {s : List UInt8} (hm : most ≤ 1099511627776) (hn : s.length < 1125899906842624) : (lenT.endT p most s).val = some (sizeErr (numS 10 most (plusS p s))) := by
 unfold lenT.endT plusS
 rw [has_f, Tr.val_call rfl]
 cases hasD p 23 with
 | true =>
  rw [vtrue, trimPlus_f, Tr.val_call rfl]
  cases starts 43 s with
  | true =>
   rw [if_pos rfl, if_pos ⟨rfl, rfl⟩, number_Dec_f hm (by simp; omega), Tr.val_call rfl]
   exact sizeErr_v _
  | false =>
   rw [if_neg (by simp), if_neg (by simp), number_Dec_f hm hn, Tr.val_call rfl]
   exact sizeErr_v _
 | false =>
  rw [vfalse, if_neg (by simp), number_Dec_f hm hn, Tr.val_call rfl]
  exact sizeErr_v _
theorem lenT_f {p most : Int} {l : List (List UInt8)} (hm : most ≤ 1099511627776) (hn : l.length < 1125899906842624) (hs : ∀ x ∈ l, x.length ≤ 1000000) : (lenT p most l).val = some (lengthL p most l) := by
 unfold lenT lengthL
 by_cases h0 : l.length = 0
 ·have e0 : ((l.length : Int) == 0) = true := by simp [h0]
  rw [e0, vtrue, if_pos h0]; rfl
 ·have e0 : ((l.length : Int) == 0) = false := by rw [beq_eq_false_iff_ne]; omega
  have w1 : IntKind.i64.wrap ((l.length : Int) - 1) = ((l.length - 1 : Nat) : Int) := by rw [w64 (by omega) (by omega)]; omega
  have en : (0 : Nat) + (((l.length - 1 : Nat) : Int)).toNat = l.length - 1 := by simp
  rw [e0, vfalse, if_neg h0]
  simp only [w1, en]
  have hfirst : (l.getD 0 []).length < 1125899906842624 := by
   have : l.getD 0 [] ∈ l := by
    rw [List.getD_eq_getElem?_getD, List.getElem?_eq_getElem (by omega)]
    exact List.getElem_mem _
   have := hs _ this
   omega
  have hlast : (l.getD (l.length - 1) []).length < 1125899906842624 := by
   have : l.getD (l.length - 1) [] ∈ l := by
    rw [List.getD_eq_getElem?_getD, List.getElem?_eq_getElem (by omega)]
    exact List.getElem_mem _
   have := hs _ this
   omega
  rw [Tr.val_chk (by omega), Tr.val_chk (by omega), Tr.val_chk (by omega), Tr.val_chk (by omega), Tr.val_chk (by omega), take_all, differ_f hn, Tr.val_call rfl]
  have g1 := endT_f (p := p) hm hfirst
  have g2 := endT_f (p := p) hm hlast
  unfold pickS
  simp only [has_f]
  generalize (l.any fun x => !(x == l.getD 0 [])) = A
  by_cases h1 : l.length = 1
  ·have e1 : ((l.length : Int) == 1) = true := by simp [h1]
   rw [e1, vtrue, g1, if_pos (.inl h1)]; rfl
  ·have e1 : ((l.length : Int) == 1) = false := by rw [beq_eq_false_iff_ne]; omega
   rw [e1, vfalse]
   have hnone : ∀ (P : Prop) [Decidable P], ¬ P → hasD p 25 = false → (if l.length = 1 ∨ P ∨ hasD p 25 = true then some (l.getD 0 []) else if hasD p 26 = true then some (l.getD (l.length - 1) []) else none) = if hasD p 26 = true then some (l.getD (l.length - 1) []) else none := by
    intro P _ hP h25
    rw [if_neg]
    rintro (h | h | h)
    ·exact h1 h
    ·exact hP h
    ·rw [h25] at h; cases h
   cases A with
   | false =>
    rw [show (!false) = true from rfl, vtrue, Tr.val_call rfl]
    cases h24 : hasD p 24 with
    | true => rw [vtrue, g1, if_pos (.inr (.inl ⟨rfl, rfl⟩))]; rfl
    | false =>
     rw [vfalse, Tr.val_call rfl]
     cases h25 : hasD p 25 with
     | true => rw [vtrue, g1, if_pos (.inr (.inr rfl))]; rfl
     | false =>
      rw [vfalse, Tr.val_call rfl]
      cases h26 : hasD p 26 with
      | true => rw [vtrue, g2, if_neg (by simp [h1])]; rfl
      | false => rw [vfalse, if_neg (by simp [h1])]; rfl
   | true =>
    rw [show (!true) = false from rfl, vfalse, Tr.val_call rfl]
    cases h25 : hasD p 25 with
    | true => rw [vtrue, g1, if_pos (.inr (.inr rfl))]; rfl
    | false =>
     rw [vfalse, Tr.val_call rfl]
     cases h26 : hasD p 26 with
     | true => rw [vtrue, g2, if_neg (by simp [h1])]; rfl
     | false => rw [vfalse, if_neg (by simp [h1])]; rfl
theorem length_f {values : List (List UInt8)} {p most : Int} (hm : most ≤ 1099511627776) (h1 : values.length ≤ 1000000) (h2 : ∀ x ∈ values, x.length ≤ 1000000) : q0u.f values p most = some (lengthS values p most) := by
 have hl := listS_len' h1 h2
 show (Tr.call (q5g.f p 24) fun y1 => Tr.br y1 (Tr.chk ((0 : Nat) + values.length ≤ values.length) (Tr.call (qbv.f (List.take values.length (List.drop (0 : Nat) values))) fun y2 => lenT p most y2)) (lenT p most values)).val = _
 unfold lengthS
 rw [has_f, Tr.val_call rfl]
 cases hasD p 24 with
 | true =>
  rw [vtrue, Tr.val_chk (by omega), take_all, list_f h1 h2, Tr.val_call rfl, if_pos rfl]
  exact lenT_f hm (by omega) (listS_small values 1000000 h2)
 | false =>
  rw [vfalse, if_neg (by simp)]
  exact lenT_f hm (by omega) h2
end Pl
end Go.Vx
end
section
set_option linter.unusedVariables false
set_option linter.unusedSimpArgs false
set_option maxRecDepth 100000
namespace Go.Vx
namespace Pl
open Go Go.Proofs
def teName : List UInt8 := [84, 114, 97, 110, 115, 102, 101, 114, 45, 69, 110, 99, 111, 100, 105, 110, 103]
def clName : List UInt8 := [67, 111, 110, 116, 101, 110, 116, 45, 76, 101, 110, 103, 116, 104]
abbrev FrameS := Int × Int × Int
def fixedS (q : Int × Int) : FrameS := if q.2 ≠ 0 then (0, 0, q.2) else (1, q.1, 0)
def frameB (m0 is cl0 t20 t21 t19 t22 ch : Bool) (q : Int × Int) : FrameS :=
 bif m0 && !t20 then (0, 0, 400)
 else bif is && (cl0 || t21) && ch then (2, 0, 0)
 else bif (is && (cl0 || t21)) || (!is && !t19) then (0, 0, 501)
 else bif is && !t22 then (0, 0, 400) else fixedS q
def frameS (l : List (List UInt8 × List UInt8)) (p body : Int) (ch : Bool) (minor : Int) : FrameS :=
 if hostsS l p minor ≠ 0 then (0, 0, hostsS l p minor)
 else if 0 < (findS l teName).length then frameB (decide (minor = 0)) (codingS (findS l teName) p) (decide ((findS l clName).length = 0)) (hasD p 20) (hasD p 21) (hasD p 19) (hasD p 22) ch (lengthS (findS l clName) p body)
 else fixedS (lengthS (findS l clName) p body)
theorem fixed_t (q : Int × Int) : (Tr.br (q.2 != (0 : Int)) (Tr.ret ((0 : Int), (0 : Int), q.2)) (Tr.ret ((1 : Int), q.1, (0 : Int)))).val = some (fixedS q) := by
 unfold fixedS
 by_cases h : q.2 = 0
 ·rw [h]; rfl
 ·have : (q.2 != 0) = true := by simpa using h
  rw [this, if_pos h]; rfl
theorem framing_f {l : List (List UInt8 × List UInt8)} {p body minor : Int} {ch : Bool} (h : FitF l) (hm : body ≤ 1099511627776) : q0l.f l p body ch minor = some (frameS l p body ch minor) := by
 obtain ⟨q1, q2⟩ := findS_fit (name := teName) h
 obtain ⟨q3, q4⟩ := findS_fit (name := clName) h
 have hlen := length_f (p := p) hm q3 q4
 have hcod := coding_f (p := p) q1 q2
 have htl : ∀ {m : List (List UInt8)}, (0 : Nat) + m.length ≤ m.length := by omega
 unfold q0l.f q0l.t frameS
 rw [take_all, Tr.val_chk (by omega), hosts_f h, Tr.val_call rfl]
 by_cases hh : hostsS l p minor = 0
 ·have e : (hostsS l p minor != 0) = false := by simp [hh]
  rw [e, vfalse, if_neg (by simp [hh]), Tr.val_chk (by omega)]
  rw [show ([(84 : UInt8), (114 : UInt8), (97 : UInt8), (110 : UInt8), (115 : UInt8), (102 : UInt8), (101 : UInt8), (114 : UInt8), (45 : UInt8), (69 : UInt8), (110 : UInt8), (99 : UInt8), (111 : UInt8), (100 : UInt8), (105 : UInt8), (110 : UInt8), (103 : UInt8)]) = teName from rfl, find_f h (by decide), Tr.val_call rfl, Tr.val_chk (by omega)]
  rw [show ([(67 : UInt8), (111 : UInt8), (110 : UInt8), (116 : UInt8), (101 : UInt8), (110 : UInt8), (116 : UInt8), (45 : UInt8), (76 : UInt8), (101 : UInt8), (110 : UInt8), (103 : UInt8), (116 : UInt8), (104 : UInt8)]) = clName from rfl, find_f h (by decide), Tr.val_call rfl]
  generalize findS l teName = te at q1 q2 hcod ⊢
  generalize findS l clName = cl at q3 q4 hlen ⊢
  have hE : (Tr.chk ((0 : Nat) + cl.length ≤ cl.length) (Tr.call (q0u.f (List.take cl.length (List.drop (0 : Nat) cl)) p body) fun q => Tr.br (q.2 != (0 : Int)) (Tr.ret ((0 : Int), (0 : Int), q.2)) (Tr.ret ((1 : Int), q.1, (0 : Int))))).val = some (fixedS (lengthS cl p body)) := by
   rw [take_all, Tr.val_chk (by omega), hlen, Tr.val_call rfl]
   exact fixed_t _
  by_cases ht : 0 < te.length
  ·rw [decide_eq_true (show (te.length : Int) > 0 by omega), vtrue, if_pos ht, take_all, Tr.val_chk (by omega), hcod, Tr.val_call rfl]
   have em : (minor == 0) = decide (minor = 0) := by by_cases h : minor = 0 <;> simp [h]
   have ec : ((cl.length : Int) == 0) = decide (cl.length = 0) := by
    by_cases h : cl.length = 0
    ·simp [h]
    ·rw [decide_eq_false h, beq_eq_false_iff_ne]; omega
   simp only [em, ec, has_f]
   generalize decide (minor = 0) = m0
   generalize decide (cl.length = 0) = cl0
   generalize codingS te p = is
   generalize hasD p 20 = t20
   generalize hasD p 21 = t21
   generalize hasD p 19 = t19
   generalize hasD p 22 = t22
   cases is <;> cases m0 <;> cases t20 <;> cases cl0 <;> cases t21 <;> cases ch <;> cases t19 <;> cases t22 <;> first | rfl | exact hE
  ·rw [decide_eq_false (show ¬ (te.length : Int) > 0 by omega), vfalse, if_neg ht]
   exact hE
 ·have e : (hostsS l p minor != 0) = true := by simpa using hh
  rw [e, vtrue, if_pos hh]; rfl
theorem says_any_f {l : List (List UInt8)} {what : List UInt8} (hn : l.length < 1125899906842624) (hs : ∀ x ∈ l, x.length ≤ 1000000) (hw : what.length ≤ 1000000) : q8v.f l what = some (l.any fun x => same x what) := by
 have hL : q97.L2.f l what (l.length : Int) 0 = some (scan (idxStep fun x => same x what) (.inl ()) 0 l) := by
  unfold q97.L2.f
  refine Loop_scan l (idxStep fun x => same x what) (.inl ()) (fun k c hk hc => ?_) ?_ hn
  ·have hw' := wS (k := k) (by omega)
   have hcl := hs c (by rw [← hc]; exact List.getElem_mem hk)
   have f1 : q5y.f what c = some (same c what) := by
    unfold q5y.f q5y.t
    rw [text_Same_f (by omega) (by omega)]; rfl
   unfold q97.L2.t idxStep
   simp only [Nat.zero_add, getD_at hk hc, f1, Tr.val, lt_nat, decide_eq_true hk, cond_true, hw']
   rw [if_pos (by omega), if_pos (by simpa using hk)]
   by_cases h : same c what = true
   ·simp only [h]; rfl
   ·have h' : same c what = false := by simpa using h
    simp only [h']; rfl
  ·simp [q97.L2.t, Tr.val]
 have hI : q97.f l what = some (idxV (scan (idxStep fun x => same x what) (.inl ()) 0 l)) := by
  unfold q97.f q97.t
  rw [hL]
  exact idx_t _ rfl
 unfold q8v.f q8v.t
 rw [take_all, hI, Tr.val_chk (by omega), Tr.val_call rfl, idx_ge]
 rfl
def saysS (l : List (List UInt8 × List UInt8)) (field what : List UInt8) : Bool := (listS (findS l field)).any fun x => same x what
theorem says_f {l : List (List UInt8 × List UInt8)} {field what : List UInt8} (h : FitF l) (h1 : field.length ≤ 1000000) (h2 : what.length ≤ 1000000) : q5v.f l field what = some (saysS l field what) := by
 obtain ⟨q1, q2⟩ := findS_fit (name := field) h
 have hl := listS_len' q1 q2
 unfold q5v.f q5v.t saysS
 rw [take_all, Tr.val_chk (by omega), find_f h h1, Tr.val_call rfl, Tr.val_chk (by omega), take_all, list_f q1 q2, Tr.val_call rfl, Tr.val_chk (by omega), take_all, says_any_f (by omega) (listS_small _ 1000000 q2) h2, Tr.val_call rfl]
 rfl
def expectB : List UInt8 := [69, 120, 112, 101, 99, 116]
def contB : List UInt8 := [49, 48, 48, 45, 99, 111, 110, 116, 105, 110, 117, 101]
def expectsS (l : List (List UInt8 × List UInt8)) (minor : Int) : Bool := decide (minor = 1) && saysS l expectB contB
theorem expects_f {l tr : List (List UInt8 × List UInt8)} {b : List UInt8} {minor : Int} (h : FitF l) : q5p.f l b tr minor = some (expectsS l minor) := by
 unfold q5p.f q5p.t expectsS
 by_cases hm : minor = 1
 ·have e : (minor == 1) = true := by simpa using hm
  rw [e, vtrue, Tr.val_chk (by omega), Tr.val_chk (by omega), Tr.val_chk (by omega), take_all]
  rw [show ([(69 : UInt8), (120 : UInt8), (112 : UInt8), (101 : UInt8), (99 : UInt8), (116 : UInt8)]) = expectB from rfl, show ([(49 : UInt8), (48 : UInt8), (48 : UInt8), (45 : UInt8), (99 : UInt8), (111 : UInt8), (110 : UInt8), (116 : UInt8), (105 : UInt8), (110 : UInt8), (117 : UInt8), (101 : UInt8)]) = contB from rfl, says_f h (by decide) (by decide), Tr.val_call rfl]
  simp [hm, Tr.val]
 ·have e : (minor == 1) = false := by simpa using hm
  rw [e]
  simp [hm, Tr.val]
end Pl
end Go.Vx
end
section
set_option linter.unusedVariables false
set_option linter.unusedSimpArgs false
set_option maxRecDepth 100000
namespace Go.Vx
namespace Pl
open Go Go.Proofs
abbrev Bs := List UInt8
abbrev Fs := List (List UInt8 × List UInt8)
abbrev Rec := List UInt8 × List UInt8 × Int × List (List UInt8 × List UInt8) × Bool × List UInt8 × List (List UInt8 × List UInt8)
structure Cfg where
 p : Int
 line : Int
 fields : Int
 head : Int
 body : Int
 ext : Int
 trailers : Int
 wait : Int
 idle : Int
 chunked : Bool
 old : Bool
structure PS where
 method : Bs
 target : Bs
 minor : Int
 chunked : Bool
 stage : Int
 lines : Int
 head : Int
 need : Int
 begun : Bool
 waits : Bool
 err : Int
 most : Int
 pend : Bool
 over : Bool
 bad : Bool
 b : Bs
 fields : Fs
 body : Bs
 trailers : Fs
 out : List Rec
abbrev PT := Bs × Bs × Int × Bool × Int × Int × Int × Int × Bool × Bool × Int × Int × Int × Bool × Bool × Bool × Bs × Fs × Bs × Fs × List Rec
def PS.tup (C : Cfg) (S : PS) : PT := (S.method, S.target, S.minor, S.chunked, S.stage, S.lines, S.head, S.need, S.begun, S.waits, S.err, C.p, S.most, S.pend, S.over, S.bad, S.b, S.fields, S.body, S.trailers, S.out)
def lineMost (m : Int) : Int := mn2 (mx2 m 0) 4096
def PS.rec_ (S : PS) : Rec := (S.method, S.target, S.minor, S.fields, S.chunked, S.body, S.trailers)
def PS.whole (C : Cfg) (S : PS) : PS :=
 {method := [], target := [], minor := 0, chunked := false, stage := 0, lines := 0, head := 0, need := 0, begun := false, waits := false, err := S.err, most := lineMost C.line, pend := false, over := false, bad := false, b := [], fields := [], body := [], trailers := [], out := S.out ++ [S.rec_] }
def PS.to (C : Cfg) (S : PS) (st : Int) : PS := { S with stage := st, most := lineMost (if st = 5 then 0 else C.line), pend := false, over := false, bad := false, b := [] }
def PS.fail (S : PS) (e : Int) : PS := { S with err := e }
def PS.bodyB (C : Cfg) (S : PS) (c : UInt8) : PS :=
 let T := { S with waits := false, body := S.body ++ [c], need := S.need - 1 }
 if T.need > 0 then T else if S.stage = 2 then T.whole C else T.to C 5
def PS.counted (C : Cfg) (S : PS) : PS × Bool :=
 if S.stage = 3 ∨ S.stage = 5 then (S, true)
 else if S.head + 1 > C.head then ({ S with head := S.head + 1, err := 431 }, false)
 else ({ S with head := S.head + 1 }, S.err == 0)
def PS.lineB (C : Cfg) (S : PS) (c : UInt8) : PS × Int :=
 if S.bad = true then (S, 3) else
 if S.pend = true then
  (if c = 10 then ({ S with over := true, pend := false, b := if S.over = true then [] else S.b }, 1)
   else if hasD C.p 2 = true then ({ S with over := true, pend := false, b := if S.over = true then [] else S.b }, 2)
   else ({ S with bad := true, pend := false, over := false, b := if S.over = true then [] else S.b }, 3))
 else if c = 13 then ({ S with pend := true, over := false, b := if S.over = true then [] else S.b }, 0)
 else if c = 10 then
  (if hasD C.p 1 = true then ({ S with over := true, pend := false, b := if S.over = true then [] else S.b }, 1)
   else ({ S with bad := true, pend := false, over := false, b := if S.over = true then [] else S.b }, 3))
 else if ((if S.over = true then ([] : Bs) else S.b).length : Int) ≥ S.most then ({ S with bad := true, pend := false, over := false, b := if S.over = true then [] else S.b }, 4)
 else ({ S with over := false, b := (if S.over = true then [] else S.b) ++ [c] }, 0)
def PS.lineS (S : PS) : Bs := if S.over = true ∧ S.bad = false then S.b else []
def PS.request (C : Cfg) (S : PS) (s : Bs) : PS :=
 if s = [] ∧ hasD C.p 0 = true then { S with begun := false }
 else { S with method := (requestS s C.p C.old).1, target := (requestS s C.p C.old).2.1, minor := (requestS s C.p C.old).2.2.1, err := (requestS s C.p C.old).2.2.2, stage := if (requestS s C.p C.old).2.2.2 = 0 then 1 else S.stage }
def fieldL (p : Int) (l : Fs) (s : Bs) (e : Int) : Fs × Int :=
 if l ≠ [] ∧ goesS s p = true then (l.set (l.length - 1) ((l.getD (l.length - 1) ([], [])).1, (l.getD (l.length - 1) ([], [])).2 ++ 32 :: trim s), e)
 else if (fieldS s p).2.2.1 = true then (l ++ [((fieldS s p).1, (fieldS s p).2.1)], (fieldS s p).2.2.2)
 else (l, (fieldS s p).2.2.2)
def PS.fieldF (C : Cfg) (S : PS) (s : Bs) : PS :=
 if S.lines + 1 > C.fields then { S with lines := S.lines + 1, err := 431 }
 else { S with lines := S.lines + 1, fields := (fieldL C.p S.fields s S.err).1, err := (fieldL C.p S.fields s S.err).2 }
def PS.fieldT (C : Cfg) (S : PS) (s : Bs) : PS :=
 if S.lines + 1 > C.trailers then { S with lines := S.lines + 1, err := 431 }
 else { S with lines := S.lines + 1, trailers := (fieldL C.p S.trailers s S.err).1, err := (fieldL C.p S.trailers s S.err).2 }
def PS.framed (C : Cfg) (S : PS) : PS :=
 let q := frameS S.fields C.p C.body C.chunked S.minor
 if q.2.2 ≠ 0 then S.fail q.2.2
 else if q.1 = 2 then { (S.to C 3) with chunked := true, waits := expectsS S.fields S.minor }
 else if q.2.1 = 0 then S.whole C
 else { S with stage := 2, need := q.2.1, waits := expectsS S.fields S.minor }
def PS.chunk (C : Cfg) (S : PS) (s : Bs) : PS :=
 let q := sizeS s C.p C.body C.ext
 if q.2 ≠ 0 then S.fail q.2
 else if q.1 > C.body - (S.body.length : Int) then S.fail 413
 else if q.1 = 0 then { (S.to C 6) with lines := 0 }
 else { S with stage := 4, need := q.1 }
def PS.ended (C : Cfg) (S : PS) : PS :=
 if S.stage = 0 then S.request C S.lineS
 else if S.stage = 1 then (if S.lineS = [] then S.framed C else S.fieldF C S.lineS)
 else if S.stage = 3 then S.chunk C S.lineS
 else if S.stage = 5 then S.to C 3
 else if S.stage = 6 then (if S.lineS = [] then S.whole C else S.fieldT C S.lineS)
 else S
theorem lineNew_f (m : Int) : q24.f m = some (lineMost m, false, false, false, []) := rfl
theorem lineEnd_f (b : Bs) : q2g.f b = some (false, true) := rfl
theorem lineFail_f (b : Bs) : q2j.f b = some (false, true) := rfl
theorem lineLine_f (over bad : Bool) (b : Bs) : q2d.f over bad b = some (if over = true ∧ bad = false then b else []) := by
 unfold q2d.f q2d.t
 cases over <;> cases bad <;> simp [Tr.val]
theorem lineByte_f {C : Cfg} {S : PS} (c : UInt8) (hm : S.most ≤ 4096) : q27.f C.p S.most S.pend S.over S.bad S.b (c.toNat : Int) = some ((S.lineB C c).1.pend, (S.lineB C c).1.over, (S.lineB C c).1.bad, (S.lineB C c).1.b, (S.lineB C c).2) := by
 obtain ⟨method, target, minor, chunked, stage, lines, head, need, begun, waits, err, most, pend, over, bad, b, fields, body, trailers, out⟩ := S
 simp only at hm
 unfold q27.f q27.t PS.lineB
 have h0 := byte_ge c
 have h1 := byte_lt c
 have e10 : ((c.toNat : Int) == 10) = (c == 10) := byte_eqI c 10 (by decide) (by decide)
 have e13 : ((c.toNat : Int) == 13) = (c == 13) := byte_eqI c 13 (by decide) (by decide)
 have eb := byte_back c
 simp only [has_f, lineEnd_f, lineFail_f, e10, e13]
 by_cases q1 : c = 10
 ·subst q1
  cases bad <;> cases over <;> cases pend <;> cases hasD C.p 2 <;> cases hasD C.p 1 <;> simp [Tr.val]
 ·have f1 : (c == 10) = false := by simpa using q1
  by_cases q2 : c = 13
  ·subst q2
   cases bad <;> cases over <;> cases pend <;> cases hasD C.p 2 <;> cases hasD C.p 1 <;> simp [Tr.val]
  ·have f2 : (c == 13) = false := by simpa using q2
   by_cases e3 : most ≤ (b.length : Int)
   ·by_cases e4 : most ≤ 0
    ·cases bad <;> cases over <;> cases pend <;> cases hasD C.p 2 <;> cases hasD C.p 1 <;> simp [Tr.val, f1, f2, q1, q2, h0, h1, e3, e4]
    ·cases bad <;> cases over <;> cases pend <;> cases hasD C.p 2 <;> cases hasD C.p 1 <;> simp [Tr.val, f1, f2, q1, q2, h0, h1, e3, e4]
   ·have e4 : ¬ most ≤ 0 := by omega
    have e5 : b.length + 1 ≤ 140737488355328 := by omega
    cases bad <;> cases over <;> cases pend <;> cases hasD C.p 2 <;> cases hasD C.p 1 <;> simp [Tr.val, f1, f2, q1, q2, h0, h1, e3, e4, e5]
theorem whole_f {C : Cfg} {S : PS} (ho : S.out.length ≤ 1000000000) : q5d.f S.method S.target S.minor S.chunked C.line S.b S.fields S.body S.trailers S.out = some ([], [], 0, false, 0, 0, 0, 0, false, false, lineMost C.line, false, false, false, [], [], [], [], S.out ++ [S.rec_]) := by
 unfold q5d.f q5d.t
 rw [Tr.val_chk (by omega), Tr.val_chk (by omega), Tr.val_chk (by omega), Tr.val_chk (by simp), Tr.val_chk (by omega), Tr.val_chk (by omega), lineNew_f, Tr.val_call rfl, vokl, vokl, Tr.val_chk (by simp)]
 simp only [take_all, Tr.val]
 rfl
theorem to_f {C : Cfg} {S : PS} (st : Int) : q5a.f C.line S.b S.fields S.body S.trailers S.out st = some (lineMost (if st = 5 then 0 else C.line), false, false, false, []) := by
 unfold q5a.f q5a.t
 by_cases h : st = 5
 ·have e : (st == 5) = true := by simpa using h
  rw [e, vtrue, if_pos h]; rfl
 ·have e : (st == 5) = false := by simpa using h
  rw [e, vfalse, if_neg h]; rfl
end Pl
end Go.Vx
end
section
set_option linter.unusedVariables false
set_option linter.unusedSimpArgs false
set_option maxRecDepth 100000
namespace Go.Vx
namespace Pl
open Go Go.Proofs
abbrev BT := Bs × Bs × Int × Bool × Int × Int × Int × Int × Bool × Bool × Int × Int × Bool × Bool × Bool × Bs × Fs × Bs × Fs × List Rec
def PS.tupB (C : Cfg) (S : PS) : BT := (S.method, S.target, S.minor, S.chunked, S.stage, S.lines, S.head, S.need, S.begun, S.waits, C.p, S.most, S.pend, S.over, S.bad, S.b, S.fields, S.body, S.trailers, S.out)
theorem body_f {C : Cfg} {S : PS} (c : UInt8) (hb : S.body.length ≤ 1000000000) (ho : S.out.length ≤ 1000000000) (hn0 : 0 ≤ S.need) (hn : S.need ≤ 1099511627776) :
  q47.f S.method S.target S.minor S.chunked S.stage S.lines S.head S.need S.begun C.p C.line C.p S.most S.pend S.over S.bad S.b S.fields S.body S.trailers S.out (c.toNat : Int) = some ((S.bodyB C c).tupB C) := by
 have h0 := byte_ge c
 have h1 := byte_lt c
 have eb := byte_back c
 have hw : IntKind.i64.wrap (S.need - 1) = S.need - 1 := w64 (by omega) (by omega)
 unfold q47.f q47.t
 rw [Tr.val_chk (by omega), Tr.val_chk (by omega), Tr.val_chk (by omega), hw, eb, take_all]
 unfold PS.bodyB
 simp only
 by_cases h : S.need - 1 > 0
 ·rw [decide_eq_true h, vtrue, if_pos h, vokl, vokl, Tr.val_chk (by simp), vokl, vokl]
  rfl
 ·rw [decide_eq_false h, vfalse, if_neg h]
  by_cases h2 : S.stage = 2
  ·have e : (S.stage == 2) = true := by simpa using h2
   rw [e, vtrue, if_pos h2, vokl, vokl, Tr.val_chk (by simp), vokl, vokl]
   have hw := whole_f (C := C) (S := { S with waits := false, body := S.body ++ [c], need := S.need - 1 }) ho
   simp only at hw
   rw [hw, Tr.val_call rfl]
   rfl
  ·have e : (S.stage == 2) = false := by simpa using h2
   rw [e, vfalse, if_neg h2, vokl, vokl, Tr.val_chk (by simp), vokl, vokl]
   have ht := to_f (C := C) (S := { S with waits := false, body := S.body ++ [c], need := S.need - 1 }) 5
   simp only at ht
   rw [ht, Tr.val_call rfl]
   rfl
theorem counted_f {C : Cfg} {S : PS} (hh0 : 0 ≤ S.head) (hh : S.head ≤ 1099511627776) :
  q4d.f S.stage S.head C.head S.err S.b S.fields S.body S.trailers S.out = some ((S.counted C).1.head, (S.counted C).1.err, (S.counted C).2) := by
 have hw : IntKind.i64.wrap (S.head + 1) = S.head + 1 := w64 (by omega) (by omega)
 unfold q4d.f q4d.t PS.counted
 rw [hw]
 by_cases h3 : S.stage = 3
 ·have e : (S.stage != 3) = false := by simp [h3]
  rw [e, vfalse, if_pos (.inl h3)]; rfl
 ·have e : (S.stage != 3) = true := by simpa using h3
  rw [e, vtrue]
  by_cases h5 : S.stage = 5
  ·have e : (S.stage != 5) = false := by simp [h5]
   rw [e, show (!false) = true from rfl, vtrue, if_pos (.inr h5)]; rfl
  ·have e : (S.stage != 5) = true := by simpa using h5
   rw [e, show (!true) = false from rfl, vfalse, if_neg (not_or.2 ⟨h3, h5⟩)]
   by_cases h : S.head + 1 > C.head
   ·rw [decide_eq_true h, vtrue, if_pos h]; rfl
   ·rw [decide_eq_false h, vfalse, if_neg h]; rfl
def LineOk (C : Cfg) (s : Bs) : Prop := FieldsOk C.p s ∧ (partedS s C.p).2.1.length < 4294967000
theorem prequest_f {C : Cfg} {S : PS} {s : Bs} (hn : s.length ≤ 1000000) (hl : LineOk C s) :
  q4y.f S.method S.target S.minor S.stage S.begun C.p C.old S.err S.b S.fields S.body S.trailers S.out s = some ((S.request C s).method, (S.request C s).target, (S.request C s).minor, (S.request C s).stage, (S.request C s).begun, (S.request C s).err) := by
 have hr := request_f (old := C.old) (by omega) hl.1 hl.2
 have hE : (Tr.call (q8a.f s C.p C.old) fun (a, b, m, e) => Tr.br (e == (0 : Int)) (Tr.okl S.fields.length <| Tr.okl S.body.length <| Tr.okl S.trailers.length <| Tr.okl S.out.length <| Tr.okl S.b.length <| Tr.ret (a, b, m, (1 : Int), S.begun, e)) (Tr.okl S.fields.length <| Tr.okl S.body.length <| Tr.okl S.trailers.length <| Tr.okl S.out.length <| Tr.okl S.b.length <| Tr.ret (a, b, m, S.stage, S.begun, e))).val
   = some ((requestS s C.p C.old).1, (requestS s C.p C.old).2.1, (requestS s C.p C.old).2.2.1, (if (requestS s C.p C.old).2.2.2 = 0 then 1 else S.stage), S.begun, (requestS s C.p C.old).2.2.2) := by
  rw [hr, Tr.val_call rfl]
  generalize requestS s C.p C.old = q
  obtain ⟨a, b, m, e⟩ := q
  simp only
  by_cases h : e = 0
  ·subst h; rfl
  ·have e1 : (e == 0) = false := by simpa using h
   rw [e1, vfalse, if_neg h]; rfl
 unfold q4y.f q4y.t PS.request
 by_cases h0 : s = []
 ·have e0 : (s == []) = true := by simpa using h0
  rw [e0, vtrue, has_f, Tr.val_call rfl]
  cases h : hasD C.p 0 with
  | true => rw [vtrue, if_pos ⟨h0, rfl⟩]; rfl
  | false => rw [vfalse, if_neg (by simp)]; exact hE
 ·have e0 : (s == []) = false := by simpa using h0
  rw [e0, vfalse, if_neg (fun h => h0 h.1)]
  exact hE
theorem framed_f {C : Cfg} {S : PS} (hf : FitF S.fields) (hb : C.body ≤ 1099511627776) (ho : S.out.length ≤ 1000000000) :
  q4m.f S.method S.target S.minor S.chunked S.stage S.lines S.head S.need S.begun S.waits C.p C.line C.body C.chunked S.err C.p S.most S.pend S.over S.bad S.b S.fields S.body S.trailers S.out = some ((S.framed C).tup C) := by
 unfold q4m.f q4m.t PS.framed
 rw [show ∀ (a : Tr PT), (Tr.twice a).val = a.val from fun _ => rfl, Tr.val_chk (by omega), take_all, framing_f hf hb, Tr.val_call rfl]
 generalize frameS S.fields C.p C.body C.chunked S.minor = q
 obtain ⟨k, n, e⟩ := q
 simp only
 by_cases he : e = 0
 ·have e1 : (e != 0) = false := by simp [he]
  rw [e1, vfalse, if_neg (by simp [he])]
  by_cases hk : k = 2
  ·have e2 : (k == 2) = true := by simpa using hk
   rw [e2, vtrue, if_pos hk, vokl, vokl, vokl, vokl, vokl, to_f (C := C) (S := S) 3, Tr.val_call rfl, Tr.val_chk (by omega), Tr.val_chk (by omega), Tr.val_chk (by omega)]
   simp only [take_all]
   rw [expects_f hf, Tr.val_call rfl]
   rfl
  ·have e2 : (k == 2) = false := by simpa using hk
   rw [e2, vfalse, if_neg hk]
   by_cases hn : n = 0
   ·have e3 : (n == 0) = true := by simpa using hn
    rw [e3, vtrue, if_pos hn, vokl, vokl, vokl, vokl, vokl, whole_f (C := C) (S := S) ho, Tr.val_call rfl]
    rfl
   ·have e3 : (n == 0) = false := by simpa using hn
    rw [e3, vfalse, if_neg hn, Tr.val_chk (by omega), Tr.val_chk (by omega), Tr.val_chk (by omega)]
    simp only [take_all]
    rw [expects_f hf, Tr.val_call rfl]
    rfl
 ·have e1 : (e != 0) = true := by simpa using he
  rw [e1, vtrue, if_pos he]; rfl
theorem chunk_f {C : Cfg} {S : PS} {s : Bs} (hn : s.length ≤ 1000000) (hb : C.body ≤ 1099511627776) (hb0 : 0 ≤ C.body) (hl : S.body.length ≤ 1000000000) :
  q4a.f S.stage S.lines S.need C.p C.line C.body C.ext S.err C.p S.most S.pend S.over S.bad S.b S.fields S.body S.trailers S.out s = some ((S.chunk C s).stage, (S.chunk C s).lines, (S.chunk C s).need, (S.chunk C s).err, C.p, (S.chunk C s).most, (S.chunk C s).pend, (S.chunk C s).over, (S.chunk C s).bad, (S.chunk C s).b) := by
 have hw : IntKind.i64.wrap (C.body - (S.body.length : Int)) = C.body - (S.body.length : Int) := w64 (by omega) (by omega)
 unfold q4a.f q4a.t PS.chunk
 rw [size_f hb (by omega), Tr.val_call rfl, hw]
 generalize sizeS s C.p C.body C.ext = q
 obtain ⟨n, e⟩ := q
 simp only
 by_cases he : e = 0
 ·have e1 : (e != 0) = false := by simp [he]
  rw [e1, vfalse, if_neg (by simp [he])]
  by_cases h : n > C.body - (S.body.length : Int)
  ·rw [decide_eq_true h, vtrue, if_pos h]; rfl
  ·rw [decide_eq_false h, vfalse, if_neg h]
   by_cases hn : n = 0
   ·have e3 : (n == 0) = true := by simpa using hn
    rw [e3, vtrue, if_pos hn, vokl, vokl, vokl, vokl, vokl, to_f (C := C) (S := S) 6, Tr.val_call rfl]
    rfl
   ·have e3 : (n == 0) = false := by simpa using hn
    rw [e3, vfalse, if_neg hn]; rfl
 ·have e1 : (e != 0) = true := by simpa using he
  rw [e1, vtrue, if_pos he]; rfl
end Pl
end Go.Vx
end
section
set_option linter.unusedVariables false
set_option linter.unusedSimpArgs false
set_option maxRecDepth 100000
namespace Go.Vx
namespace Pl
open Go Go.Proofs
structure Small (C : Cfg) (S : PS) : Prop where
 cbody : 0 ≤ C.body ∧ C.body ≤ 1099511627776
 b : S.b.length ≤ 4096
 most : S.most ≤ 4096
 lines : 0 ≤ S.lines ∧ S.lines ≤ 1000000
 head : 0 ≤ S.head ∧ S.head ≤ 1000000000
 need : 0 ≤ S.need ∧ S.need ≤ 1099511627776
 fields : FitF S.fields
 trailers : FitF S.trailers
 body : S.body.length ≤ 1000000000
 out : S.out.length ≤ 1000000000
theorem lineS_len {S : PS} : S.lineS.length ≤ S.b.length := by
 unfold PS.lineS
 split
 ·exact Nat.le_refl _
 ·simp
theorem request_tup (C : Cfg) (S : PS) (s : Bs) : (S.request C s).tup C = ((S.request C s).method, (S.request C s).target, (S.request C s).minor, S.chunked, (S.request C s).stage, S.lines, S.head, S.need, (S.request C s).begun, S.waits, (S.request C s).err, C.p, S.most, S.pend, S.over, S.bad, S.b, S.fields, S.body, S.trailers, S.out) := by
 unfold PS.request
 by_cases h : s = [] ∧ hasD C.p 0 = true
 ·rw [if_pos h]; rfl
 ·rw [if_neg h]; rfl
theorem chunk_tup (C : Cfg) (S : PS) (s : Bs) : (S.chunk C s).tup C = (S.method, S.target, S.minor, S.chunked, (S.chunk C s).stage, (S.chunk C s).lines, S.head, (S.chunk C s).need, S.begun, S.waits, (S.chunk C s).err, C.p, (S.chunk C s).most, (S.chunk C s).pend, (S.chunk C s).over, (S.chunk C s).bad, (S.chunk C s).b, S.fields, S.body, S.trailers, S.out) := by
 unfold PS.chunk
 simp only
 by_cases h1 : (sizeS s C.p C.body C.ext).2 ≠ 0
 ·rw [if_pos h1]; rfl
 ·rw [if_neg h1]
  by_cases h2 : (sizeS s C.p C.body C.ext).1 > C.body - (S.body.length : Int)
  ·rw [if_pos h2]; rfl
  ·rw [if_neg h2]
   by_cases h3 : (sizeS s C.p C.body C.ext).1 = 0
   ·rw [if_pos h3]; rfl
   ·rw [if_neg h3]; rfl
theorem ended_f {C : Cfg} {S : PS} (h : Small C S) (hl : S.stage = 0 → LineOk C S.lineS) :
  q4g.f S.method S.target S.minor S.chunked S.stage S.lines S.head S.need S.begun S.waits C.p C.line C.fields C.body C.ext C.trailers C.chunked C.old S.err C.p S.most S.pend S.over S.bad S.b S.fields S.body S.trailers S.out = some ((S.ended C).tup C) := by
 have hb := h.b
 have hls := lineS_len (S := S)
 have hwl : IntKind.i64.wrap (S.lines + 1) = S.lines + 1 := by have := h.lines; exact w64 (by omega) (by omega)
 have hp := field_f (s := S.lineS) (p := C.p) (by omega)
 unfold q4g.f q4g.t PS.ended
 rw [lineLine_f]
 repeat rw [vokl]
 rw [Tr.val_call rfl, hwl]
 rw [show (if S.over = true ∧ S.bad = false then S.b else []) = S.lineS from rfl]
 by_cases s0 : S.stage = 0
 ·have e : (S.stage == 0) = true := by simpa using s0
  rw [e, vtrue, if_pos s0]
  repeat rw [vokl]
  rw [prequest_f (C := C) (by omega) (hl s0), Tr.val_call rfl]
  rw [request_tup]
  rfl
 ·have e : (S.stage == 0) = false := by simpa using s0
  rw [e, vfalse, if_neg s0]
  by_cases s1 : S.stage = 1
  ·have e : (S.stage == 1) = true := by simpa using s1
   have hf := h.fields
   have hf1 := hf.1
   rw [e, vtrue, if_pos s1]
   by_cases hs : S.lineS = []
   ·have e : (S.lineS == []) = true := by simpa using hs
    rw [e, vtrue, if_pos hs]
    repeat rw [vokl]
    rw [framed_f h.fields h.cbody.2 h.out, Tr.val_call rfl]
    rfl
   ·have e : (S.lineS == []) = false := by simpa using hs
    rw [e, vfalse, if_neg hs]
    unfold PS.fieldF
    by_cases hl : S.lines + 1 > C.fields
    ·rw [decide_eq_true hl, vtrue, if_pos hl]
     rfl
    ·rw [decide_eq_false hl, vfalse, if_neg hl]
     have hlist : ∀ e, fieldL C.p S.fields S.lineS e = fieldL C.p S.fields S.lineS e := fun _ => rfl
     by_cases h0 : S.fields = []
     ·have hw1 : IntKind.i64.wrap ((S.fields.length : Int) - 1) = -1 := by rw [h0]; rfl
      rw [hw1, show decide ((-1 : Int) ≥ 0) = false from rfl, vfalse]
      repeat rw [vokl]
      rw [hp, Tr.val_call rfl]
      unfold fieldL
      rw [if_neg (by rintro ⟨h, _⟩; exact h h0)]
      generalize fieldS S.lineS C.p = q
      obtain ⟨n, v, is, e⟩ := q
      cases is with
      | true =>
       simp only [take_all]
       rw [vtrue, Tr.val_chk (by omega), Tr.val_chk (by omega)]
       repeat rw [vokl]
       rw [Tr.val_chk (by simp)]
       rfl
      | false => rfl
     ·have hpos : 0 < S.fields.length := List.length_pos_iff.2 h0
      have hw1 : IntKind.i64.wrap ((S.fields.length : Int) - 1) = ((S.fields.length - 1 : Nat) : Int) := by rw [w64 (by omega) (by omega)]; omega
      rw [hw1, decide_eq_true (show ((S.fields.length - 1 : Nat) : Int) ≥ 0 by omega), vtrue]
      repeat rw [vokl]
      rw [goes_f, Tr.val_call rfl]
      simp only [Int.toNat_natCast, Nat.zero_add]
      unfold fieldL
      cases hg : goesS S.lineS C.p with
      | true =>
       rw [if_pos ⟨h0, rfl⟩, vtrue, Tr.val_chk (by omega), Tr.val_chk (by omega)]
       have hmem : S.fields.getD (S.fields.length - 1) ([], []) ∈ S.fields := by
        rw [List.getD_eq_getElem?_getD, List.getElem?_eq_getElem (by omega)]
        exact List.getElem_mem _
       rw [join_f (by have := (hf.2 _ hmem).2; omega) (by omega), Tr.val_call rfl, Tr.val_chk (by omega), Tr.val_chk (by omega)]
       repeat rw [vokl]
       rw [Tr.val_chk (by simp)]
       rfl
      | false =>
       rw [if_neg (by simp), vfalse]
       repeat rw [vokl]
       rw [hp, Tr.val_call rfl]
       generalize fieldS S.lineS C.p = q
       obtain ⟨n, v, is, e⟩ := q
       cases is with
       | true =>
        simp only [take_all]
        rw [vtrue, Tr.val_chk (by omega), Tr.val_chk (by omega)]
        repeat rw [vokl]
        rw [Tr.val_chk (by simp)]
        rfl
       | false => rfl
  ·have e : (S.stage == 1) = false := by simpa using s1
   rw [e, vfalse, if_neg s1]
   by_cases s3 : S.stage = 3
   ·have e : (S.stage == 3) = true := by simpa using s3
    rw [e, vtrue, if_pos s3]
    repeat rw [vokl]
    rw [chunk_f (by omega) h.cbody.2 h.cbody.1 h.body, Tr.val_call rfl]
    rw [chunk_tup]
    rfl
   ·have e : (S.stage == 3) = false := by simpa using s3
    rw [e, vfalse, if_neg s3]
    by_cases s5 : S.stage = 5
    ·have e : (S.stage == 5) = true := by simpa using s5
     rw [e, vtrue, if_pos s5]
     repeat rw [vokl]
     rw [to_f (C := C) (S := S) 3, Tr.val_call rfl]
     rfl
    ·have e : (S.stage == 5) = false := by simpa using s5
     rw [e, vfalse, if_neg s5]
     by_cases s6 : S.stage = 6
     ·have e : (S.stage == 6) = true := by simpa using s6
      have hf := h.trailers
      have hf1 := hf.1
      rw [e, vtrue, if_pos s6]
      by_cases hs : S.lineS = []
      ·have e : (S.lineS == []) = true := by simpa using hs
       rw [e, vtrue, if_pos hs]
       repeat rw [vokl]
       rw [whole_f (C := C) (S := S) h.out, Tr.val_call rfl]
       rfl
      ·have e : (S.lineS == []) = false := by simpa using hs
       rw [e, vfalse, if_neg hs]
       unfold PS.fieldT
       by_cases hl : S.lines + 1 > C.trailers
       ·rw [decide_eq_true hl, vtrue, if_pos hl]
        rfl
       ·rw [decide_eq_false hl, vfalse, if_neg hl]
        have hlist : ∀ e, fieldL C.p S.trailers S.lineS e = fieldL C.p S.trailers S.lineS e := fun _ => rfl
        by_cases h0 : S.trailers = []
        ·have hw1 : IntKind.i64.wrap ((S.trailers.length : Int) - 1) = -1 := by rw [h0]; rfl
         rw [hw1, show decide ((-1 : Int) ≥ 0) = false from rfl, vfalse]
         repeat rw [vokl]
         rw [hp, Tr.val_call rfl]
         unfold fieldL
         rw [if_neg (by rintro ⟨h, _⟩; exact h h0)]
         generalize fieldS S.lineS C.p = q
         obtain ⟨n, v, is, e⟩ := q
         cases is with
         | true =>
          simp only [take_all]
          rw [vtrue, Tr.val_chk (by omega), Tr.val_chk (by omega)]
          repeat rw [vokl]
          rw [Tr.val_chk (by simp)]
          rfl
         | false => rfl
        ·have hpos : 0 < S.trailers.length := List.length_pos_iff.2 h0
         have hw1 : IntKind.i64.wrap ((S.trailers.length : Int) - 1) = ((S.trailers.length - 1 : Nat) : Int) := by rw [w64 (by omega) (by omega)]; omega
         rw [hw1, decide_eq_true (show ((S.trailers.length - 1 : Nat) : Int) ≥ 0 by omega), vtrue]
         repeat rw [vokl]
         rw [goes_f, Tr.val_call rfl]
         simp only [Int.toNat_natCast, Nat.zero_add]
         unfold fieldL
         cases hg : goesS S.lineS C.p with
         | true =>
          rw [if_pos ⟨h0, rfl⟩, vtrue, Tr.val_chk (by omega), Tr.val_chk (by omega)]
          have hmem : S.trailers.getD (S.trailers.length - 1) ([], []) ∈ S.trailers := by
           rw [List.getD_eq_getElem?_getD, List.getElem?_eq_getElem (by omega)]
           exact List.getElem_mem _
          rw [join_f (by have := (hf.2 _ hmem).2; omega) (by omega), Tr.val_call rfl, Tr.val_chk (by omega), Tr.val_chk (by omega)]
          repeat rw [vokl]
          rw [Tr.val_chk (by simp)]
          rfl
         | false =>
          rw [if_neg (by simp), vfalse]
          repeat rw [vokl]
          rw [hp, Tr.val_call rfl]
          generalize fieldS S.lineS C.p = q
          obtain ⟨n, v, is, e⟩ := q
          cases is with
          | true =>
           simp only [take_all]
           rw [vtrue, Tr.val_chk (by omega), Tr.val_chk (by omega)]
           repeat rw [vokl]
           rw [Tr.val_chk (by simp)]
           rfl
          | false => rfl
     ·have e : (S.stage == 6) = false := by simpa using s6
      rw [e, vfalse, if_neg s6]
      rfl
end Pl
end Go.Vx
end
section
set_option linter.unusedVariables false
set_option linter.unusedSimpArgs false
set_option maxRecDepth 100000
namespace Go.Vx
namespace Pl
open Go Go.Proofs
abbrev ST := Bs × Bs × Int × Bool × Int × Int × Int × Int × Bool × Bool × Int × Int × Int × Int × Int × Int × Int × Int × Int × Bool × Bool × Int × Int × Int × Bool × Bool × Bool × Bs × Fs × Bs × Fs × List Rec
def PS.tupS (C : Cfg) (S : PS) : ST := (S.method, S.target, S.minor, S.chunked, S.stage, S.lines, S.head, S.need, S.begun, S.waits, C.p, C.line, C.fields, C.head, C.body, C.ext, C.trailers, C.wait, C.idle, C.chunked, C.old, S.err, C.p, S.most, S.pend, S.over, S.bad, S.b, S.fields, S.body, S.trailers, S.out)
def PS.longG (rec : PS → UInt8 → Bool → PS) (C : Cfg) (S : PS) (c : UInt8) : PS :=
 if S.stage = 0 then S.fail 414 else if S.stage = 1 then S.fail 431 else if S.stage = 6 then S.fail 431
 else if S.stage = 5 then (if hasD C.p 29 = true then rec (S.to C 3) c true else S.fail 400) else S.fail 400
def PS.tailG (rec : PS → UInt8 → Bool → PS) (C : Cfg) (S : PS) (c : UInt8) (r : PS × Int) : PS :=
 if r.2 = 1 then r.1.ended C
 else if r.2 = 2 then rec (r.1.ended C) c (if S.stage ≠ 3 ∧ S.stage ≠ 5 then decide (((r.1.ended C).out.length : Int) > (S.out.length : Int)) else true)
 else if r.2 = 4 then r.1.longG rec C c
 else if r.2 = 3 then r.1.fail 400 else r.1
def PS.mark (S : PS) : PS := { S with begun := true, waits := false }
def PS.stepG (rec : PS → UInt8 → Bool → PS) (C : Cfg) (S : PS) (c : UInt8) (counts : Bool) : PS :=
 if S.err ≠ 0 then S
 else if S.stage = 2 ∨ S.stage = 4 then S.bodyB C c
 else if counts = true then
  (if (S.mark.counted C).2 = false then (S.mark.counted C).1 else (S.mark.counted C).1.tailG rec C c ((S.mark.counted C).1.lineB C c))
 else S.mark.tailG rec C c (S.mark.lineB C c)
def PS.step1 (C : Cfg) (S : PS) (c : UInt8) (counts : Bool) : PS := PS.stepG (fun S _ _ => S) C S c counts
def PS.step (C : Cfg) (S : PS) (c : UInt8) (counts : Bool) : PS := PS.stepG (PS.step1 C) C S c counts
theorem lineB_lines (C : Cfg) (S : PS) (c : UInt8) : (S.lineB C c).1.lines = S.lines := by
 unfold PS.lineB
 repeat' split
 all_goals rfl
theorem lineB_head (C : Cfg) (S : PS) (c : UInt8) : (S.lineB C c).1.head = S.head := by
 unfold PS.lineB
 repeat' split
 all_goals rfl
theorem lineB_need (C : Cfg) (S : PS) (c : UInt8) : (S.lineB C c).1.need = S.need := by
 unfold PS.lineB
 repeat' split
 all_goals rfl
theorem lineB_most (C : Cfg) (S : PS) (c : UInt8) : (S.lineB C c).1.most = S.most := by
 unfold PS.lineB
 repeat' split
 all_goals rfl
theorem lineB_fields (C : Cfg) (S : PS) (c : UInt8) : (S.lineB C c).1.fields = S.fields := by
 unfold PS.lineB
 repeat' split
 all_goals rfl
theorem lineB_body (C : Cfg) (S : PS) (c : UInt8) : (S.lineB C c).1.body = S.body := by
 unfold PS.lineB
 repeat' split
 all_goals rfl
theorem lineB_trailers (C : Cfg) (S : PS) (c : UInt8) : (S.lineB C c).1.trailers = S.trailers := by
 unfold PS.lineB
 repeat' split
 all_goals rfl
theorem lineB_out (C : Cfg) (S : PS) (c : UInt8) : (S.lineB C c).1.out = S.out := by
 unfold PS.lineB
 repeat' split
 all_goals rfl
theorem counted_stage (C : Cfg) (S : PS) : (S.counted C).1.stage = S.stage := by
 unfold PS.counted
 repeat' split
 all_goals rfl
theorem counted_lines (C : Cfg) (S : PS) : (S.counted C).1.lines = S.lines := by
 unfold PS.counted
 repeat' split
 all_goals rfl
theorem counted_need (C : Cfg) (S : PS) : (S.counted C).1.need = S.need := by
 unfold PS.counted
 repeat' split
 all_goals rfl
theorem counted_most (C : Cfg) (S : PS) : (S.counted C).1.most = S.most := by
 unfold PS.counted
 repeat' split
 all_goals rfl
theorem counted_fields (C : Cfg) (S : PS) : (S.counted C).1.fields = S.fields := by
 unfold PS.counted
 repeat' split
 all_goals rfl
theorem counted_body (C : Cfg) (S : PS) : (S.counted C).1.body = S.body := by
 unfold PS.counted
 repeat' split
 all_goals rfl
theorem counted_trailers (C : Cfg) (S : PS) : (S.counted C).1.trailers = S.trailers := by
 unfold PS.counted
 repeat' split
 all_goals rfl
theorem counted_out (C : Cfg) (S : PS) : (S.counted C).1.out = S.out := by
 unfold PS.counted
 repeat' split
 all_goals rfl
theorem counted_b (C : Cfg) (S : PS) : (S.counted C).1.b = S.b := by
 unfold PS.counted
 repeat' split
 all_goals rfl
theorem small_line {C : Cfg} {S : PS} (h : Small C S) (c : UInt8) : Small C (S.lineB C c).1 where
 cbody := h.cbody
 b := by
  have hb := h.b
  have hm := h.most
  unfold PS.lineB
  repeat' split
  all_goals (first | exact hb | (simp; omega) | skip)
  all_goals (simp only [List.length_append, List.length_cons, List.length_nil] at *; omega)
 most := by rw [lineB_most]; exact h.most
 lines := by rw [lineB_lines]; exact h.lines
 head := by rw [lineB_head]; exact h.head
 need := by rw [lineB_need]; exact h.need
 fields := by rw [lineB_fields]; exact h.fields
 trailers := by rw [lineB_trailers]; exact h.trailers
 body := by rw [lineB_body]; exact h.body
 out := by rw [lineB_out]; exact h.out
theorem small_counted {C : Cfg} {S : PS} (h : Small C S) (hh : S.head ≤ 999999999) : Small C (S.counted C).1 where
 cbody := h.cbody
 b := by rw [counted_b]; exact h.b
 most := by rw [counted_most]; exact h.most
 lines := by rw [counted_lines]; exact h.lines
 head := by
  have h0 := h.head
  unfold PS.counted
  repeat' split
  all_goals (simp only; omega)
 need := by rw [counted_need]; exact h.need
 fields := by rw [counted_fields]; exact h.fields
 trailers := by rw [counted_trailers]; exact h.trailers
 body := by rw [counted_body]; exact h.body
 out := by rw [counted_out]; exact h.out
theorem small_mark {C : Cfg} {S : PS} (h : Small C S) : Small C S.mark := ⟨h.cbody, h.b, h.most, h.lines, h.head, h.need, h.fields, h.trailers, h.body, h.out⟩
def LinesOk (C : Cfg) : Prop := ∀ s : Bs, s.length ≤ 4096 → LineOk C s
end Pl
end Go.Vx
end
section
set_option linter.unusedVariables false
set_option linter.unusedSimpArgs false
set_option maxRecDepth 100000
namespace Go.Vx
namespace Pl
open Go Go.Proofs
theorem lineB_eta (C : Cfg) (S : PS) (c : UInt8) : ∃ pe ov ba bb k, S.lineB C c = ({ S with pend := pe, over := ov, bad := ba, b := bb }, k) := by
 refine ⟨(S.lineB C c).1.pend, (S.lineB C c).1.over, (S.lineB C c).1.bad, (S.lineB C c).1.b, (S.lineB C c).2, ?_⟩
 unfold PS.lineB
 repeat' split
 all_goals rfl
theorem counted_eta (C : Cfg) (S : PS) : ∃ h e k, S.counted C = ({ S with head := h, err := e }, k) := by
 refine ⟨(S.counted C).1.head, (S.counted C).1.err, (S.counted C).2, ?_⟩
 unfold PS.counted
 repeat' split
 all_goals rfl
def NoRec (S : PS) : Prop := S.pend = false ∧ ((if S.over = true then ([] : Bs) else S.b).length : Int) < S.most
theorem norec {C : Cfg} {S : PS} {c : UInt8} (h : NoRec S) : (S.lineB C c).2 ≠ 2 ∧ (S.lineB C c).2 ≠ 4 := by
 obtain ⟨h1, h2⟩ := h
 unfold PS.lineB
 rw [h1]
 have h3 : ¬ (((if S.over = true then ([] : Bs) else S.b).length : Int) ≥ S.most) := by omega
 by_cases hb : S.bad = true
 ·rw [if_pos hb]; simp
 ·rw [if_neg hb, if_neg (by simp)]
  by_cases q1 : c = 13
  ·rw [if_pos q1]; simp
  ·rw [if_neg q1]
   by_cases q2 : c = 10
   ·rw [if_pos q2]
    split <;> simp
   ·rw [if_neg q2, if_neg h3]; simp
theorem ifB {α : Type} (a b : Tr α) {x : Bool} {P : Prop} [Decidable P] (h : x = decide P) : (Tr.br x a b).val = if P then a.val else b.val := by
 subst h
 by_cases h : P
 ·rw [decide_eq_true h, vtrue, if_pos h]
 ·rw [decide_eq_false h, vfalse, if_neg h]
theorem beq_dec (a b : Int) : (a == b) = decide (a = b) := by by_cases h : a = b <;> simp [h]
theorem bne_dec (a b : Int) : (a != b) = decide (a ≠ b) := by by_cases h : a = b <;> simp [h]
theorem step_r1_f {C : Cfg} {S : PS} (c : UInt8) (counts : Bool) (h : Small C S) (hh : S.head ≤ 999999999) (hL : LinesOk C) (hN : S.err = 0 → S.stage ≠ 2 → S.stage ≠ 4 → NoRec S) :
  q54.f S.method S.target S.minor S.chunked S.stage S.lines S.head S.need S.begun S.waits C.p C.line C.fields C.head C.body C.ext C.trailers C.wait C.idle C.chunked C.old S.err C.p S.most S.pend S.over S.bad S.b S.fields S.body S.trailers S.out (c.toNat : Int) counts = some ((S.step1 C c counts).tupS C) := by
 unfold q54.f q54.t PS.step1 PS.stepG
 rw [ifB _ _ (bne_dec S.err 0)]
 by_cases he : S.err = 0
 ·rw [if_neg (by simp [he]), if_neg (by simp [he]), ifB _ _ (beq_dec S.stage 2)]
  have hbody := body_f (C := C) c h.body h.out h.need.1 h.need.2
  have hbe : (S.bodyB C c).err = S.err := by
   unfold PS.bodyB
   simp only
   repeat' split
   all_goals rfl
  have hbt : some ((S.bodyB C c).tupS C) = some (((S.bodyB C c).method, (S.bodyB C c).target, (S.bodyB C c).minor, (S.bodyB C c).chunked, (S.bodyB C c).stage, (S.bodyB C c).lines, (S.bodyB C c).head, (S.bodyB C c).need, (S.bodyB C c).begun, (S.bodyB C c).waits, C.p, C.line, C.fields, C.head, C.body, C.ext, C.trailers, C.wait, C.idle, C.chunked, C.old, S.err, C.p, (S.bodyB C c).most, (S.bodyB C c).pend, (S.bodyB C c).over, (S.bodyB C c).bad, (S.bodyB C c).b, (S.bodyB C c).fields, (S.bodyB C c).body, (S.bodyB C c).trailers, (S.bodyB C c).out) : ST) := by
   unfold PS.tupS
   rw [hbe]
  by_cases s2 : S.stage = 2
  ·rw [if_pos s2, if_pos (.inl s2), hbt]
   repeat rw [vokl]
   rw [hbody, Tr.val_call rfl]
   rfl
  ·rw [if_neg s2, ifB _ _ (beq_dec S.stage 4)]
   by_cases s4 : S.stage = 4
   ·rw [if_pos s4, if_pos (.inr s4), hbt]
    repeat rw [vokl]
    rw [hbody, Tr.val_call rfl]
    rfl
   ·rw [if_neg s4, if_neg (not_or.2 ⟨s2, s4⟩)]
    obtain ⟨hn1, hn2⟩ := hN he s2 s4
    cases counts with
    | true =>
     rw [vtrue, if_pos rfl]
     repeat rw [vokl]
     rw [counted_f h.head.1 (by omega), Tr.val_call rfl]
     have hcm : (S.mark.counted C).1.head = (S.counted C).1.head ∧ (S.mark.counted C).1.err = (S.counted C).1.err ∧ (S.mark.counted C).2 = (S.counted C).2 := by
      unfold PS.counted PS.mark
      simp only
      repeat' split
      all_goals exact ⟨rfl, rfl, rfl⟩
     obtain ⟨hd, er, k, hc⟩ := counted_eta C S.mark
     have hsm : Small C (S.mark.counted C).1 := small_counted (small_mark h) hh
     rw [← hcm.1, ← hcm.2.1, ← hcm.2.2]
     rw [hc] at hsm ⊢
     simp only at hsm ⊢
     cases k with
     | false => rfl
     | true =>
      rw [show (!true) = false from rfl, vfalse, if_neg (by simp)]
      have hnr : NoRec ({ S.mark with head := hd, err := er } : PS) := ⟨hn1, hn2⟩
      repeat rw [vokl]
      have hB := lineByte_f (C := C) (S := ({ S.mark with head := hd, err := er } : PS)) c hsm.most
      have hE := ended_f (C := C) (S := (({ S.mark with head := hd, err := er } : PS).lineB C c).1) (small_line hsm c) (fun _ => hL _ (Nat.le_trans lineS_len (small_line hsm c).b))
      obtain ⟨k2, k4⟩ := norec (C := C) (c := c) hnr
      obtain ⟨pe, ov, ba, bb, k, hr⟩ := lineB_eta C ({ S.mark with head := hd, err := er } : PS) c
      rw [hr] at hB hE k2 k4 ⊢
      simp only at hB hE k2 k4
      rw [show q27.f C.p S.most S.pend S.over S.bad S.b (c.toNat : Int) = _ from hB, Tr.val_call rfl]
      unfold PS.tailG
      simp only
      rw [ifB _ _ (beq_dec k 1)]
      by_cases e1 : k = 1
      ·rw [if_pos e1, if_pos e1]
       repeat rw [vokl]
       rw [show q4g.f S.method S.target S.minor S.chunked S.stage S.lines hd S.need true false C.p C.line C.fields C.body C.ext C.trailers C.chunked C.old er C.p S.most pe ov ba bb S.fields S.body S.trailers S.out = _ from hE, Tr.val_call rfl]
       rfl
      ·rw [if_neg e1, if_neg e1, ifB _ _ (beq_dec k 2), if_neg k2, if_neg k2, ifB _ _ (beq_dec k 4), if_neg k4, if_neg k4, ifB _ _ (beq_dec k 3)]
       by_cases e3 : k = 3
       ·rw [if_pos e3, if_pos e3]; rfl
       ·rw [if_neg e3, if_neg e3]; rfl
    | false =>
     rw [vfalse, if_neg (by simp)]
     have hsm := small_mark h
     have hnr : NoRec S.mark := ⟨hn1, hn2⟩
     repeat rw [vokl]
     have hB := lineByte_f (C := C) (S := S.mark) c hsm.most
     have hE := ended_f (C := C) (S := (S.mark.lineB C c).1) (small_line hsm c) (fun _ => hL _ (Nat.le_trans lineS_len (small_line hsm c).b))
     obtain ⟨k2, k4⟩ := norec (C := C) (c := c) hnr
     obtain ⟨pe, ov, ba, bb, k, hr⟩ := lineB_eta C S.mark c
     rw [hr] at hB hE k2 k4 ⊢
     simp only at hB hE k2 k4
     rw [show q27.f C.p S.most S.pend S.over S.bad S.b (c.toNat : Int) = _ from hB, Tr.val_call rfl]
     unfold PS.tailG
     simp only
     rw [ifB _ _ (beq_dec k 1)]
     by_cases e1 : k = 1
     ·rw [if_pos e1, if_pos e1]
      repeat rw [vokl]
      rw [show q4g.f S.method S.target S.minor S.chunked S.stage S.lines S.head S.need true false C.p C.line C.fields C.body C.ext C.trailers C.chunked C.old S.err C.p S.most pe ov ba bb S.fields S.body S.trailers S.out = _ from hE, Tr.val_call rfl]
      rfl
     ·rw [if_neg e1, if_neg e1, ifB _ _ (beq_dec k 2), if_neg k2, if_neg k2, ifB _ _ (beq_dec k 4), if_neg k4, if_neg k4, ifB _ _ (beq_dec k 3)]
      by_cases e3 : k = 3
      ·rw [if_pos e3, if_pos e3]; rfl
      ·rw [if_neg e3, if_neg e3]; rfl
 ·rw [if_pos he, if_pos he]; rfl
end Pl
end Go.Vx
end
section
set_option linter.unusedVariables false
set_option linter.unusedSimpArgs false
set_option maxRecDepth 100000
namespace Go.Vx
namespace Pl
open Go Go.Proofs
theorem numS_bd (base : Nat) (most : Int) (s : Bs) : 0 ≤ (numS base most s).1 ∧ (numS base most s).1 ≤ max most 0 := by
 unfold numS
 split
 ·simp; omega
 ·split
  ·simp only; omega
  ·simp; omega
theorem sizeErr_bd {q : Int × Int} {M : Int} (h : 0 ≤ q.1 ∧ q.1 ≤ M) : 0 ≤ (sizeErr q).1 ∧ (sizeErr q).1 ≤ M := by
 unfold sizeErr
 split
 ·exact ⟨Int.le_refl _, by have := h.1; have := h.2; omega⟩
 ·split
  ·exact ⟨Int.le_refl _, by have := h.1; have := h.2; omega⟩
  ·exact h
theorem sizeS_bd (s : Bs) (p body ext : Int) : 0 ≤ (sizeS s p body ext).1 ∧ (sizeS s p body ext).1 ≤ max body 0 := by
 unfold sizeS
 split
 ·simp; omega
 ·split
  ·simp; omega
  ·exact sizeErr_bd (numS_bd _ _ _)
theorem lengthS_bd (v : List Bs) (p most : Int) : 0 ≤ (lengthS v p most).1 ∧ (lengthS v p most).1 ≤ max most 0 := by
 unfold lengthS
 generalize (if hasD p 24 = true then listS v else v) = l
 unfold lengthL
 split
 ·simp; omega
 ·unfold pickedS
  split
  ·exact sizeErr_bd (numS_bd _ _ _)
  ·simp; omega
theorem fixedS_bd {q : Int × Int} {M : Int} (h : 0 ≤ q.1 ∧ q.1 ≤ M) : 0 ≤ (fixedS q).2.1 ∧ (fixedS q).2.1 ≤ M := by
 have hz : (0 : Int) ≤ 0 ∧ (0 : Int) ≤ M := by have := h.1; have := h.2; omega
 unfold fixedS
 split
 ·exact hz
 ·exact h
theorem frameS_bd (l : Fs) (p body : Int) (ch : Bool) (minor : Int) : 0 ≤ (frameS l p body ch minor).2.1 ∧ (frameS l p body ch minor).2.1 ≤ max body 0 := by
 have hf := fixedS_bd (lengthS_bd (findS l clName) p body)
 have hz : (0 : Int) ≤ 0 ∧ (0 : Int) ≤ max body 0 := by omega
 unfold frameS
 split
 ·exact hz
 ·split
  ·unfold frameB
   cases (decide (minor = 0) && !hasD p 20)
   ·cases (codingS (findS l teName) p && (decide ((findS l clName).length = 0) || hasD p 21) && ch)
    ·cases (codingS (findS l teName) p && (decide ((findS l clName).length = 0) || hasD p 21) || !codingS (findS l teName) p && !hasD p 19)
     ·cases (codingS (findS l teName) p && !hasD p 22)
      ·exact hf
      ·exact hz
     ·exact hz
    ·exact hz
   ·exact hz
  ·exact hf
def LB (k : Int) (l : Fs) : Prop := (l.length : Int) ≤ k ∧ ∀ f ∈ l, f.1.length ≤ 4096 ∧ (f.2.length : Int) ≤ 4097 * k
theorem LB.mono {k k' : Int} {l : Fs} (h : LB k l) (hk : k ≤ k') : LB k' l := ⟨Int.le_trans h.1 hk, fun f hf => ⟨(h.2 f hf).1, by have := (h.2 f hf).2; omega⟩⟩
theorem LB.nil {k : Int} (hk : 0 ≤ k) : LB k [] := ⟨by simpa using hk, fun f hf => by simp at hf⟩
theorem LB.fit {k : Int} {l : Fs} (h : LB k l) (hk : k ≤ 101) : FitF l := by
 refine ⟨by have := h.1; omega, fun f hf => ?_⟩
 have := h.2 f hf
 omega
theorem trim_len (s : Bs) : (trim s).length ≤ s.length := trimP_length isBlank s
theorem fieldS_len (s : Bs) (p : Int) : (fieldS s p).1.length ≤ s.length ∧ (fieldS s p).2.1.length ≤ s.length := by
 have hc := cut_len (c := 58) (s := s)
 have hn : (nameS p (cutC 58 s).1).length ≤ (cutC 58 s).1.length := by
  unfold nameS
  split
  ·exact dropEnd_length _
  ·exact Nat.le_refl _
 have ht := trim_len (cutC 58 s).2.1
 unfold fieldS
 split
 ·unfold outS; split <;> simp
 ·split
  ·unfold outS; split <;> simp
  ·split
   ·simp only; omega
   ·simp
theorem LB.field {k : Int} {l : Fs} {p : Int} {s : Bs} {e : Int} (h : LB k l) (hk : 0 ≤ k) (hs : s.length ≤ 4096) : LB (k + 1) (fieldL p l s e).1 := by
 have hf := fieldS_len s p
 have ht := trim_len s
 unfold fieldL
 by_cases h1 : l ≠ [] ∧ goesS s p = true
 ·rw [if_pos h1]
  have hpos : 0 < l.length := List.length_pos_iff.2 h1.1
  have hmem : l.getD (l.length - 1) ([], []) ∈ l := by
   rw [List.getD_eq_getElem?_getD, List.getElem?_eq_getElem (by omega)]
   exact List.getElem_mem _
  refine ⟨by have := h.1; simp; omega, fun f hf' => ?_⟩
  rcases List.mem_or_eq_of_mem_set hf' with hm | rfl
  ·have := h.2 f hm; omega
  ·have := h.2 _ hmem
   simp only [List.length_append, List.length_cons]
   omega
 ·rw [if_neg h1]
  split
  ·refine ⟨by have := h.1; simp; omega, fun f hf' => ?_⟩
   rcases List.mem_append.1 hf' with hm | hm
   ·have := h.2 f hm; omega
   ·simp only [List.mem_singleton] at hm
    subst hm
    simp only
    omega
  ·exact h.mono (by omega)
structure CfgOk (C : Cfg) : Prop where
 line : 64 ≤ C.line ∧ C.line ≤ 4096
 fields : 0 ≤ C.fields ∧ C.fields ≤ 100
 trailers : 0 ≤ C.trailers ∧ C.trailers ≤ 100
 head : 0 ≤ C.head ∧ C.head ≤ 65536
 body : 0 ≤ C.body ∧ C.body ≤ 1048576
theorem CfgOk.most {C : Cfg} (h : CfgOk C) : lineMost C.line = C.line := by
 have := h.line
 unfold lineMost
 rw [mx2_eq, mn2_eq]
 omega
structure Inv (C : Cfg) (n : Nat) (S : PS) : Prop where
 b : S.b.length ≤ 4096
 most : S.most = if S.stage = 5 then 0 else C.line
 lines : 0 ≤ S.lines ∧ S.lines ≤ 101
 head : 0 ≤ S.head ∧ S.head ≤ 65537
 need : 0 ≤ S.need ∧ S.need ≤ 1048576
 stage : 0 ≤ S.stage ∧ S.stage ≤ 6
 f1 : LB 101 S.fields
 f2 : S.stage ≤ 1 → LB S.lines S.fields
 t1 : LB 101 S.trailers
 t2 : S.stage = 6 → LB S.lines S.trailers
 t3 : S.stage ≠ 6 → S.trailers = []
 body : S.body.length ≤ n
 out : S.out.length ≤ n
theorem Inv.mono {C : Cfg} {n m : Nat} {S : PS} (h : Inv C n S) (hn : n ≤ m) : Inv C m S :=
 {h with body := Nat.le_trans h.body hn, out := Nat.le_trans h.out hn }
theorem Inv.small {C : Cfg} {n : Nat} {S : PS} (hC : CfgOk C) (h : Inv C n S) (hn : n ≤ 1000000000) : Small C S where
 cbody := by have := hC.body; omega
 b := h.b
 most := by
  have := hC.line
  rw [h.most]
  split <;> omega
 lines := by have := h.lines; omega
 head := by have := h.head; omega
 need := by have := h.need; omega
 fields := h.f1.fit (Int.le_refl _)
 trailers := h.t1.fit (Int.le_refl _)
 body := Nat.le_trans h.body hn
 out := Nat.le_trans h.out hn
theorem Inv.fail {C : Cfg} {n : Nat} {S : PS} (h : Inv C n S) (e : Int) : Inv C n (S.fail e) := ⟨h.b, h.most, h.lines, h.head, h.need, h.stage, h.f1, h.f2, h.t1, h.t2, h.t3, h.body, h.out⟩
theorem Inv.mark {C : Cfg} {n : Nat} {S : PS} (h : Inv C n S) : Inv C n S.mark := ⟨h.b, h.most, h.lines, h.head, h.need, h.stage, h.f1, h.f2, h.t1, h.t2, h.t3, h.body, h.out⟩
theorem Inv.whole {C : Cfg} {n : Nat} {S : PS} (hC : CfgOk C) (h : Inv C n S) : Inv C (n + 1) (S.whole C) := by
 have ho := h.out
 refine ⟨by simp [PS.whole], ?_, (by decide : (0 : Int) ≤ 0 ∧ (0 : Int) ≤ 101), (by decide : (0 : Int) ≤ 0 ∧ (0 : Int) ≤ 65537), (by decide : (0 : Int) ≤ 0 ∧ (0 : Int) ≤ 1048576), (by decide : (0 : Int) ≤ 0 ∧ (0 : Int) ≤ 6), LB.nil (by decide), fun _ => LB.nil (Int.le_refl _), LB.nil (by decide), fun _ => LB.nil (Int.le_refl _), fun _ => rfl, by simp [PS.whole], ?_⟩
 ·show lineMost C.line = _
  rw [hC.most]; rfl
 ·show (S.out ++ [S.rec_]).length ≤ n + 1
  rw [List.length_append]
  simp only [List.length_cons, List.length_nil]
  omega
theorem Inv.to3 {C : Cfg} {n : Nat} {S : PS} (hC : CfgOk C) (h : Inv C n S) (h6 : S.stage ≠ 6) : Inv C n (S.to C 3) := by
 refine ⟨by simp [PS.to], ?_, h.lines, h.head, h.need, by simp [PS.to], h.f1, fun hs => absurd hs (by simp [PS.to]), h.t1, fun hs => absurd hs (by simp [PS.to]), fun _ => h.t3 h6, h.body, h.out⟩
 show lineMost (if (3 : Int) = 5 then 0 else C.line) = _
 rw [if_neg (by decide), hC.most]; rfl
theorem Inv.to5 {C : Cfg} {n : Nat} {S : PS} (hC : CfgOk C) (h : Inv C n S) (h6 : S.stage ≠ 6) : Inv C n (S.to C 5) := by
 refine ⟨by simp [PS.to], ?_, h.lines, h.head, h.need, by simp [PS.to], h.f1, fun hs => absurd hs (by simp [PS.to]), h.t1, fun hs => absurd hs (by simp [PS.to]), fun _ => h.t3 h6, h.body, h.out⟩
 show lineMost (if (5 : Int) = 5 then 0 else C.line) = _
 rw [if_pos rfl]; rfl
theorem Inv.bodyB {C : Cfg} {n : Nat} {S : PS} (hC : CfgOk C) (h : Inv C n S) (hs : S.stage = 2 ∨ S.stage = 4) (hneed : 1 ≤ S.need) (c : UInt8) : Inv C (n + 2) (S.bodyB C c) := by
 have hT : Inv C (n + 1) { S with waits := false, body := S.body ++ [c], need := S.need - 1 } := by
  refine ⟨h.b, h.most, h.lines, h.head, by have := h.need; simp only; omega, h.stage, h.f1, h.f2, h.t1, h.t2, h.t3, ?_, by have := h.out; simp only; omega⟩
  have := h.body
  simp; omega
 have h6 : S.stage ≠ 6 := by omega
 unfold PS.bodyB
 simp only
 split
 ·exact hT.mono (by omega)
 ·split
  ·exact hT.whole hC
  ·exact (hT.to5 hC h6).mono (by omega)
theorem Inv.counted {C : Cfg} {n : Nat} {S : PS} (hC : CfgOk C) (h : Inv C n S) (hle : S.head ≤ C.head) : Inv C n (S.counted C).1 := by
 have h1 := h.head
 have h2 := hC.head
 unfold PS.counted
 split
 ·exact h
 ·split
  ·exact ⟨h.b, h.most, h.lines, by simp only; omega, h.need, h.stage, h.f1, h.f2, h.t1, h.t2, h.t3, h.body, h.out⟩
  ·exact ⟨h.b, h.most, h.lines, by simp only; omega, h.need, h.stage, h.f1, h.f2, h.t1, h.t2, h.t3, h.body, h.out⟩
theorem Inv.lineB {C : Cfg} {n : Nat} {S : PS} (hC : CfgOk C) (h : Inv C n S) (hn : n ≤ 1000000000) (c : UInt8) : Inv C n (S.lineB C c).1 := by
 have hb := (small_line (h.small hC hn) c).b
 obtain ⟨pe, ov, ba, bb, k, hr⟩ := lineB_eta C S c
 rw [hr] at hb ⊢
 exact ⟨hb, h.most, h.lines, h.head, h.need, h.stage, h.f1, h.f2, h.t1, h.t2, h.t3, h.body, h.out⟩
theorem Inv.ended {C : Cfg} {n : Nat} {S : PS} (hC : CfgOk C) (h : Inv C n S) (h100 : S.lines ≤ 100) : Inv C (n + 1) (S.ended C) := by
 have HL : 0 ≤ S.lines + 1 ∧ S.lines + 1 ≤ 101 := by have := h.lines; omega
 have hls : S.lineS.length ≤ 4096 := Nat.le_trans lineS_len h.b
 have hm := h.mono (Nat.le_succ n)
 have hl := h.lines
 have hcf := hC.fields
 have hct := hC.trailers
 have hcb := hC.body
 unfold PS.ended
 by_cases s0 : S.stage = 0
 ·rw [if_pos s0]
  unfold PS.request
  split
  ·exact ⟨hm.b, hm.most, hm.lines, hm.head, hm.need, hm.stage, hm.f1, hm.f2, hm.t1, hm.t2, hm.t3, hm.body, hm.out⟩
  ·refine ⟨hm.b, ?_, hm.lines, hm.head, hm.need, ?_, hm.f1, fun _ => hm.f2 (by omega), hm.t1, ?_, fun _ => hm.t3 (by omega), hm.body, hm.out⟩
   ·have hmo := hm.most
    have h5 : (if (requestS S.lineS C.p C.old).2.2.2 = 0 then (1 : Int) else S.stage) ≠ 5 := by
     rw [s0]
     split <;> decide
    rw [if_neg (by omega)] at hmo
    show S.most = if (if (requestS S.lineS C.p C.old).2.2.2 = 0 then (1 : Int) else S.stage) = 5 then 0 else C.line
    rw [if_neg h5, hmo]
   ·simp only
    rw [s0]
    split <;> decide
   ·simp only
    intro hs
    rw [s0] at hs
    split at hs <;> cases hs
 ·rw [if_neg s0]
  by_cases s1 : S.stage = 1
  ·rw [if_pos s1]
   have h6 : S.stage ≠ 6 := by omega
   split
   ·unfold PS.framed
    have hbd := frameS_bd S.fields C.p C.body C.chunked S.minor
    simp only
    split
    ·exact hm.fail _
    ·split
     ·have := hm.to3 hC h6
      exact ⟨this.b, this.most, this.lines, this.head, this.need, this.stage, this.f1, this.f2, this.t1, this.t2, this.t3, this.body, this.out⟩
     ·split
      ·exact h.whole hC
      ·refine ⟨hm.b, ?_, hm.lines, hm.head, by simp only; omega, by simp, hm.f1, fun hs => absurd hs (by simp), hm.t1, fun hs => absurd hs (by simp), fun _ => hm.t3 h6, hm.body, hm.out⟩
       have := hm.most
       simp only
       rw [this, s1]
       rfl
   ·unfold PS.fieldF
    have hF := h.f2 (by omega)
    split
    ·exact ⟨hm.b, hm.most, HL, hm.head, hm.need, hm.stage, hm.f1, fun _ => hF.mono (show S.lines ≤ S.lines + 1 by omega), hm.t1, fun hs => absurd hs h6, hm.t3, hm.body, hm.out⟩
    ·have hF2 := hF.field (p := C.p) (s := S.lineS) (e := S.err) hl.1 hls
     exact ⟨hm.b, hm.most, HL, hm.head, hm.need, hm.stage, hF2.mono (by omega), fun _ => hF2, hm.t1, fun hs => absurd hs h6, hm.t3, hm.body, hm.out⟩
  ·rw [if_neg s1]
   by_cases s3 : S.stage = 3
   ·rw [if_pos s3]
    have h6 : S.stage ≠ 6 := by omega
    have hbd := sizeS_bd S.lineS C.p C.body C.ext
    unfold PS.chunk
    simp only
    split
    ·exact hm.fail _
    ·split
     ·exact hm.fail _
     ·split
      ·refine ⟨by simp [PS.to], ?_, by simp [PS.to], hm.head, hm.need, by simp [PS.to], hm.f1, fun hs => absurd hs (by simp [PS.to]), hm.t1, fun _ => ?_, fun _ => hm.t3 h6, hm.body, hm.out⟩
       ·show lineMost (if (6 : Int) = 5 then 0 else C.line) = _
        rw [if_neg (by decide), hC.most]; rfl
       ·show LB 0 S.trailers
        rw [hm.t3 h6]
        exact LB.nil (Int.le_refl _)
      ·refine ⟨hm.b, ?_, hm.lines, hm.head, by simp only; omega, by simp, hm.f1, fun hs => absurd hs (by simp), hm.t1, fun hs => absurd hs (by simp), fun _ => hm.t3 h6, hm.body, hm.out⟩
       have := hm.most
       simp only
       rw [this, s3]
       rfl
   ·rw [if_neg s3]
    by_cases s5 : S.stage = 5
    ·rw [if_pos s5]
     exact hm.to3 hC (by omega)
    ·rw [if_neg s5]
     by_cases s6 : S.stage = 6
     ·rw [if_pos s6]
      split
      ·exact h.whole hC
      ·unfold PS.fieldT
       have hF := h.t2 s6
       split
       ·exact ⟨hm.b, hm.most, HL, hm.head, hm.need, hm.stage, hm.f1, fun hs => absurd hs (by simp only; omega), hm.t1, fun _ => hF.mono (show S.lines ≤ S.lines + 1 by omega), fun hs => absurd s6 hs, hm.body, hm.out⟩
       ·have hF2 := hF.field (p := C.p) (s := S.lineS) (e := S.err) hl.1 hls
        exact ⟨hm.b, hm.most, HL, hm.head, hm.need, hm.stage, hm.f1, fun hs => absurd hs (by simp only; omega), hF2.mono (by omega), fun _ => hF2, fun hs => absurd s6 hs, hm.body, hm.out⟩
     ·rw [if_neg s6]
      exact hm
def Live (C : Cfg) (S : PS) : Prop := S.err = 0 → S.lines ≤ 100 ∧ S.head ≤ C.head ∧ (S.stage = 2 ∨ S.stage = 4 → 1 ≤ S.need)
theorem live_ended {C : Cfg} {S : PS} (hC : CfgOk C) (h1 : S.lines ≤ 100) (h2 : S.head ≤ C.head) (h3 : ¬ (S.stage = 2 ∨ S.stage = 4)) : Live C (S.ended C) := by
 have hcf := hC.fields
 have hct := hC.trailers
 have hch := hC.head
 have e3 : (S.stage = 2 ∨ S.stage = 4 → 1 ≤ S.need) := fun h => absurd h h3
 have hw : ∀ T : PS, Live C (T.whole C) := fun T _ => ⟨by show (0 : Int) ≤ 100; omega, by show (0 : Int) ≤ C.head; omega, fun h => by rcases h with h | h <;> cases h⟩
 have hto : ∀ st : Int, st ≠ 2 → st ≠ 4 → Live C (S.to C st) := fun st q1 q2 _ => ⟨h1, h2, fun h => by
  rcases h with h | h
  ·exact absurd h q1
  ·exact absurd h q2⟩
 unfold PS.ended
 by_cases s0 : S.stage = 0
 ·rw [if_pos s0]
  unfold PS.request
  split
  ·exact fun _ => ⟨h1, h2, e3⟩
  ·intro he
   refine ⟨h1, h2, fun h => ?_⟩
   simp only at h
   rw [s0] at h
   split at h <;> rcases h with h | h <;> cases h
 ·rw [if_neg s0]
  by_cases s1 : S.stage = 1
  ·rw [if_pos s1]
   split
   ·unfold PS.framed
    have hbd := frameS_bd S.fields C.p C.body C.chunked S.minor
    simp only
    split
    ·exact fun _ => ⟨h1, h2, e3⟩
    ·split
     ·exact fun _ => ⟨h1, h2, fun h => by rcases h with h | h <;> cases h⟩
     ·split
      ·exact hw S
      ·exact fun _ => ⟨h1, h2, fun _ => by simp only; omega⟩
   ·unfold PS.fieldF
    split
    ·exact fun he => absurd he (by simp)
    ·exact fun _ => ⟨by simp only; omega, h2, e3⟩
  ·rw [if_neg s1]
   by_cases s3 : S.stage = 3
   ·rw [if_pos s3]
    have hbd := sizeS_bd S.lineS C.p C.body C.ext
    unfold PS.chunk
    simp only
    split
    ·exact fun _ => ⟨h1, h2, e3⟩
    ·split
     ·exact fun _ => ⟨h1, h2, e3⟩
     ·split
      ·exact fun _ => ⟨by show (0 : Int) ≤ 100; omega, h2, fun h => by rcases h with h | h <;> cases h⟩
      ·exact fun _ => ⟨h1, h2, fun _ => by simp only; omega⟩
   ·rw [if_neg s3]
    by_cases s5 : S.stage = 5
    ·rw [if_pos s5]
     exact hto 3 (by decide) (by decide)
    ·rw [if_neg s5]
     by_cases s6 : S.stage = 6
     ·rw [if_pos s6]
      split
      ·exact hw S
      ·unfold PS.fieldT
       split
       ·exact fun he => absurd he (by simp)
       ·exact fun _ => ⟨by simp only; omega, h2, e3⟩
     ·rw [if_neg s6]
      exact fun _ => ⟨h1, h2, e3⟩
theorem norec_ended {C : Cfg} {n : Nat} {S : PS} (hC : CfgOk C) (h : Inv C (n + 1) (S.ended C)) (ho : S.over = true) (hp : S.pend = false) : NoRec (S.ended C) := by
 have hline := hC.line
 have key : (S.ended C).pend = false ∧ ((S.ended C).over = true ∨ (S.ended C).b = []) ∧ (S.ended C).stage ≠ 5 := by
  unfold PS.ended
  by_cases s0 : S.stage = 0
  ·rw [if_pos s0]
   unfold PS.request
   split
   ·exact ⟨hp, .inl ho, by simp only; omega⟩
   ·refine ⟨hp, .inl ho, ?_⟩
    simp only
    rw [s0]
    split <;> decide
  ·rw [if_neg s0]
   by_cases s1 : S.stage = 1
   ·rw [if_pos s1]
    split
    ·unfold PS.framed
     simp only
     split
     ·exact ⟨hp, .inl ho, by simp only [PS.fail]; omega⟩
     ·split
      ·exact ⟨rfl, .inr rfl, by simp [PS.to]⟩
      ·split
       ·exact ⟨rfl, .inr rfl, by simp [PS.whole]⟩
       ·exact ⟨hp, .inl ho, by simp⟩
    ·unfold PS.fieldF
     split
     ·exact ⟨hp, .inl ho, by simp only; omega⟩
     ·exact ⟨hp, .inl ho, by simp only; omega⟩
   ·rw [if_neg s1]
    by_cases s3 : S.stage = 3
    ·rw [if_pos s3]
     unfold PS.chunk
     simp only
     split
     ·exact ⟨hp, .inl ho, by simp only [PS.fail]; omega⟩
     ·split
      ·exact ⟨hp, .inl ho, by simp only [PS.fail]; omega⟩
      ·split
       ·exact ⟨rfl, .inr rfl, by simp [PS.to]⟩
       ·exact ⟨hp, .inl ho, by simp⟩
    ·rw [if_neg s3]
     by_cases s5 : S.stage = 5
     ·rw [if_pos s5]
      exact ⟨rfl, .inr rfl, by simp [PS.to]⟩
     ·rw [if_neg s5]
      by_cases s6 : S.stage = 6
      ·rw [if_pos s6]
       split
       ·exact ⟨rfl, .inr rfl, by simp [PS.whole]⟩
       ·unfold PS.fieldT
        split
        ·exact ⟨hp, .inl ho, by simp only; omega⟩
        ·exact ⟨hp, .inl ho, by simp only; omega⟩
      ·rw [if_neg s6]
       exact ⟨hp, .inl ho, s5⟩
 obtain ⟨k1, k2, k3⟩ := key
 refine ⟨k1, ?_⟩
 rw [h.most, if_neg k3]
 have : (if (S.ended C).over = true then ([] : Bs) else (S.ended C).b).length = 0 := by
  rcases k2 with k2 | k2
  ·rw [if_pos k2]; rfl
  ·rw [k2]; split <;> rfl
 omega
end Pl
end Go.Vx
end
