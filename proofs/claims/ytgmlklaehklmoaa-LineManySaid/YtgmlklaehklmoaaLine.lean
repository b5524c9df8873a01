/- Functions of the program, told as plain functions. (A help: no statement of the seat is proved here.) -/
import Derived.Test.YtgmlklaehklmoaaVxR
import Derived.Test.YtgmlklaehklmoaaBaseTry
set_option maxRecDepth 1000000
set_option linter.unusedVariables false
namespace Go.Vx
open Go Go.Vx Go.Proofs
namespace line_Reader_end
def D : Dom := ⟨[.cells (.cat (.int .u32) (.cat (.int .i64) (.cat (.sl 1 1) (.cat .bool (.cat .bool .bool))))) 72 false, .vec .byte 5 false], (.cat (.ptr 0 0 0 0) (.int .i64))⟩
def A : Dom := ⟨[.cells (.cat (.int .u32) (.cat (.int .i64) (.cat (.sl 1 1) (.cat .bool (.cat .bool .bool))))) 72 false, .vec .byte 5 false], (.int .i64)⟩
def sel : List Nat := [5]
def t (b : List UInt8) : Tr (Bool × Bool) :=
  .ok ((0 : Nat) = (0 : Nat) ∧ b.length = b.length) ⟨rfl, rfl⟩ <| .ret (false, true)
def f (b : List UInt8) : Option (Bool × Bool) := (t b).val
def F (x : D.den) : Option (Bool × Bool) := f x.1.2.1
def pa : D.den → (Bool × Bool) → A.den := fun (((p, (most, (_, (_, (_, bad))))), (b, _)), (_, how)) (y1, y2) => (((p, (most, ((), (y1, (y2, bad))))), (b, ())), how)
def con : Con := tcon D A pa F
theorem vc (p : Int) (most : Int) (pending : Bool) (over : Bool) (bad : Bool) (b : List UInt8) (how : Int) (qa : A.den → Prop) (qb : con.B.den → Prop) : con.run Try.prog book0 9 [] 37 (fun _ => true) (((p, (most, ((), (pending, (over, bad))))), (b, ())), ((), how)) qa qb = (t b).wp (fun y => qa (pa (((p, (most, ((), (pending, (over, bad))))), (b, ())), ((), how)) y)) := by kernel_rfl
theorem ok : ConOk Try.prog 37 con := tcon_ok Base.mixed Base.prog_ok book0_ok (by kernel_rfl) LapsOk.nil 9 (fun _ => rfl) (fun x => t x.1.2.1) (fun _ => rfl) fun x qa qb => vc x.1.1.1 x.1.1.2.1 x.1.1.2.2.2.1 x.1.1.2.2.2.2.1 x.1.1.2.2.2.2.2 x.1.2.1 x.2.2 qa qb
end line_Reader_end
def bk_line_Reader_end : Book := book0.add 37 line_Reader_end.con
theorem bk_line_Reader_end_ok : BookOk Try.prog bk_line_Reader_end := book0_ok.add line_Reader_end.ok
namespace quirks_known
def D : Dom := ⟨[], (.int .i64)⟩
def A : Dom := ⟨[], .bool⟩
def sel : List Nat := [0]
def t (clause : Int) : Tr (Bool) :=
  .br (decide (clause ≥ (0 : Int))) (.ret (decide (clause < (30 : Int))))
  (.ret false)
def f (clause : Int) : Option (Bool) := (t clause).val
def F (x : D.den) : Option (Bool) := f x.2
def pa : D.den → (Bool) → A.den := fun (_, _) y1 => ((), y1)
def con : Con := tcon D A pa F
theorem vc (clause : Int) (qa : A.den → Prop) (qb : con.B.den → Prop) : con.run Try.prog bk_line_Reader_end 9 [] 43 (fun _ => true) ((), clause) qa qb = (t clause).wp (fun y => qa (pa ((), clause) y)) := by kernel_rfl
theorem ok : ConOk Try.prog 43 con := tcon_ok Base.mixed Base.prog_ok bk_line_Reader_end_ok (by kernel_rfl) LapsOk.nil 9 (fun _ => rfl) (fun x => t x.2) (fun _ => rfl) fun x qa qb => vc x.2 qa qb
end quirks_known
def bk_quirks_known : Book := bk_line_Reader_end.add 43 quirks_known.con
theorem bk_quirks_known_ok : BookOk Try.prog bk_quirks_known := bk_line_Reader_end_ok.add quirks_known.ok
namespace quirks_Has
def D : Dom := ⟨[], (.cat (.int .u32) (.int .i64))⟩
def A : Dom := ⟨[], .bool⟩
def sel : List Nat := [0, 1]
def t (p : Int) (clause : Int) : Tr (Bool) :=
  .call (quirks_known.f clause) fun y1 =>
  .br y1 (.chk (¬clause < (0 : Int)) <| .ret (IntKind.u32.wrap (↑(BitVec.ofInt IntKind.u32.bits (p.fdiv ((2 : Int) ^ min clause.toNat IntKind.u32.bits)) &&& BitVec.ofInt IntKind.u32.bits (1 : Int)).toNat : Int) == (1 : Int)))
  (.ret false)
def f (p : Int) (clause : Int) : Option (Bool) := (t p clause).val
def F (x : D.den) : Option (Bool) := f x.2.1 x.2.2
def pa : D.den → (Bool) → A.den := fun (_, (_, _)) y1 => ((), y1)
def con : Con := tcon D A pa F
theorem vc (p : Int) (clause : Int) (qa : A.den → Prop) (qb : con.B.den → Prop) : con.run Try.prog bk_quirks_known 9 [] 38 (fun _ => true) ((), (p, clause)) qa qb = (t p clause).wp (fun y => qa (pa ((), (p, clause)) y)) := by kernel_rfl
theorem ok : ConOk Try.prog 38 con := tcon_ok Base.mixed Base.prog_ok bk_quirks_known_ok (by kernel_rfl) LapsOk.nil 9 (fun _ => rfl) (fun x => t x.2.1 x.2.2) (fun _ => rfl) fun x qa qb => vc x.2.1 x.2.2 qa qb
end quirks_Has
def bk_quirks_Has : Book := bk_quirks_known.add 38 quirks_Has.con
theorem bk_quirks_Has_ok : BookOk Try.prog bk_quirks_Has := bk_quirks_known_ok.add quirks_Has.ok
namespace line_Reader_fail
def D : Dom := ⟨[.cells (.cat (.int .u32) (.cat (.int .i64) (.cat (.sl 1 1) (.cat .bool (.cat .bool .bool))))) 72 false, .vec .byte 5 false], (.cat (.ptr 0 0 0 0) (.int .i64))⟩
def A : Dom := ⟨[.cells (.cat (.int .u32) (.cat (.int .i64) (.cat (.sl 1 1) (.cat .bool (.cat .bool .bool))))) 72 false, .vec .byte 5 false], (.int .i64)⟩
def sel : List Nat := [5]
def t (b : List UInt8) : Tr (Bool × Bool) :=
  .ok ((0 : Nat) = (0 : Nat) ∧ b.length = b.length) ⟨rfl, rfl⟩ <| .ret (false, true)
def f (b : List UInt8) : Option (Bool × Bool) := (t b).val
def F (x : D.den) : Option (Bool × Bool) := f x.1.2.1
def pa : D.den → (Bool × Bool) → A.den := fun (((p, (most, (_, (_, (over, _))))), (b, _)), (_, how)) (y1, y2) => (((p, (most, ((), (y1, (over, y2))))), (b, ())), how)
def con : Con := tcon D A pa F
theorem vc (p : Int) (most : Int) (pending : Bool) (over : Bool) (bad : Bool) (b : List UInt8) (how : Int) (qa : A.den → Prop) (qb : con.B.den → Prop) : con.run Try.prog bk_quirks_Has 9 [] 39 (fun _ => true) (((p, (most, ((), (pending, (over, bad))))), (b, ())), ((), how)) qa qb = (t b).wp (fun y => qa (pa (((p, (most, ((), (pending, (over, bad))))), (b, ())), ((), how)) y)) := by kernel_rfl
theorem ok : ConOk Try.prog 39 con := tcon_ok Base.mixed Base.prog_ok bk_quirks_Has_ok (by kernel_rfl) LapsOk.nil 9 (fun _ => rfl) (fun x => t x.1.2.1) (fun _ => rfl) fun x qa qb => vc x.1.1.1 x.1.1.2.1 x.1.1.2.2.2.1 x.1.1.2.2.2.2.1 x.1.1.2.2.2.2.2 x.1.2.1 x.2.2 qa qb
end line_Reader_fail
def bk_line_Reader_fail : Book := bk_quirks_Has.add 39 line_Reader_fail.con
theorem bk_line_Reader_fail_ok : BookOk Try.prog bk_line_Reader_fail := bk_quirks_Has_ok.add line_Reader_fail.ok
namespace line_Reader_Byte
def D : Dom := ⟨[.cells (.cat (.int .u32) (.cat (.int .i64) (.cat (.sl 1 1) (.cat .bool (.cat .bool .bool))))) 72 false, .vec .byte 5 false], (.cat (.ptr 0 0 0 0) (.int .u8))⟩
def A : Dom := ⟨[.cells (.cat (.int .u32) (.cat (.int .i64) (.cat (.sl 2 1) (.cat .bool (.cat .bool .bool))))) 72 false, .dead, .vec .byte 5 false], (.int .i64)⟩
def sel : List Nat := [0, 1, 2, 3, 4, 5, 6]
def t (p : Int) (most : Int) (pending : Bool) (over : Bool) (bad : Bool) (b : List UInt8) (c : Int) : Tr (Bool × Bool × Bool × List UInt8 × Int) :=
  .br bad (.ok ((0 : Nat) = (0 : Nat) ∧ b.length = b.length) ⟨rfl, rfl⟩ <| .ret (pending, over, bad, b, (3 : Int)))
  (.br over (.br pending (.br (c == (10 : Int)) (.call (line_Reader_end.f []) fun y1 =>
      .ok ((0 : Nat) = (0 : Nat) ∧ (0 : Nat) = (0 : Nat)) ⟨rfl, rfl⟩ <| .ret (y1.fst, y1.snd, bad, [], (1 : Int)))
     (.br pending (.call (quirks_Has.f p (2 : Int)) fun y2 =>
       .br y2 (.call (line_Reader_end.f []) fun y3 =>
        .ok ((0 : Nat) = (0 : Nat) ∧ (0 : Nat) = (0 : Nat)) ⟨rfl, rfl⟩ <| .ret (y3.fst, y3.snd, bad, [], (2 : Int)))
       (.br pending (.call (line_Reader_fail.f []) fun y4 =>
         .ok ((0 : Nat) = (0 : Nat) ∧ (0 : Nat) = (0 : Nat)) ⟨rfl, rfl⟩ <| .ret (y4.fst, false, y4.snd, [], (3 : Int)))
        (.br (c == (13 : Int)) (.ret (true, false, bad, [], (0 : Int)))
         (.br (c == (10 : Int)) (.call (quirks_Has.f p (1 : Int)) fun y5 =>
           .br y5 (.call (line_Reader_end.f []) fun y6 =>
            .ok ((0 : Nat) = (0 : Nat) ∧ (0 : Nat) = (0 : Nat)) ⟨rfl, rfl⟩ <| .ret (y6.fst, y6.snd, bad, [], (1 : Int)))
           (.br (c == (10 : Int)) (.call (line_Reader_fail.f []) fun y7 =>
             .ok ((0 : Nat) = (0 : Nat) ∧ (0 : Nat) = (0 : Nat)) ⟨rfl, rfl⟩ <| .ret (y7.fst, false, y7.snd, [], (3 : Int)))
            (.br (decide ((0 : Int) ≥ most)) (.call (line_Reader_fail.f []) fun y8 =>
              .ok ((0 : Nat) = (0 : Nat) ∧ (0 : Nat) = (0 : Nat)) ⟨rfl, rfl⟩ <| .ret (y8.fst, false, y8.snd, [], (4 : Int)))
             (.chk ((0 : Int) ≤ c ∧ c < (256 : Int)) <| .ret (pending, false, bad, [UInt8.ofNat c.toNat], (0 : Int))))))
          (.br (c == (10 : Int)) (.call (line_Reader_fail.f []) fun y9 =>
            .ok ((0 : Nat) = (0 : Nat) ∧ (0 : Nat) = (0 : Nat)) ⟨rfl, rfl⟩ <| .ret (y9.fst, false, y9.snd, [], (3 : Int)))
           (.br (decide ((0 : Int) ≥ most)) (.call (line_Reader_fail.f []) fun y10 =>
             .ok ((0 : Nat) = (0 : Nat) ∧ (0 : Nat) = (0 : Nat)) ⟨rfl, rfl⟩ <| .ret (y10.fst, false, y10.snd, [], (4 : Int)))
            (.chk ((0 : Int) ≤ c ∧ c < (256 : Int)) <| .ret (pending, false, bad, [UInt8.ofNat c.toNat], (0 : Int)))))))))
      (.br pending (.call (line_Reader_fail.f []) fun y11 =>
        .ok ((0 : Nat) = (0 : Nat) ∧ (0 : Nat) = (0 : Nat)) ⟨rfl, rfl⟩ <| .ret (y11.fst, false, y11.snd, [], (3 : Int)))
       (.br (c == (13 : Int)) (.ret (true, false, bad, [], (0 : Int)))
        (.br (c == (10 : Int)) (.call (quirks_Has.f p (1 : Int)) fun y12 =>
          .br y12 (.call (line_Reader_end.f []) fun y13 =>
           .ok ((0 : Nat) = (0 : Nat) ∧ (0 : Nat) = (0 : Nat)) ⟨rfl, rfl⟩ <| .ret (y13.fst, y13.snd, bad, [], (1 : Int)))
          (.br (c == (10 : Int)) (.call (line_Reader_fail.f []) fun y14 =>
            .ok ((0 : Nat) = (0 : Nat) ∧ (0 : Nat) = (0 : Nat)) ⟨rfl, rfl⟩ <| .ret (y14.fst, false, y14.snd, [], (3 : Int)))
           (.br (decide ((0 : Int) ≥ most)) (.call (line_Reader_fail.f []) fun y15 =>
             .ok ((0 : Nat) = (0 : Nat) ∧ (0 : Nat) = (0 : Nat)) ⟨rfl, rfl⟩ <| .ret (y15.fst, false, y15.snd, [], (4 : Int)))
            (.chk ((0 : Int) ≤ c ∧ c < (256 : Int)) <| .ret (pending, false, bad, [UInt8.ofNat c.toNat], (0 : Int))))))
         (.br (c == (10 : Int)) (.call (line_Reader_fail.f []) fun y16 =>
           .ok ((0 : Nat) = (0 : Nat) ∧ (0 : Nat) = (0 : Nat)) ⟨rfl, rfl⟩ <| .ret (y16.fst, false, y16.snd, [], (3 : Int)))
          (.br (decide ((0 : Int) ≥ most)) (.call (line_Reader_fail.f []) fun y17 =>
            .ok ((0 : Nat) = (0 : Nat) ∧ (0 : Nat) = (0 : Nat)) ⟨rfl, rfl⟩ <| .ret (y17.fst, false, y17.snd, [], (4 : Int)))
           (.chk ((0 : Int) ≤ c ∧ c < (256 : Int)) <| .ret (pending, false, bad, [UInt8.ofNat c.toNat], (0 : Int))))))))))
    (.br pending (.call (quirks_Has.f p (2 : Int)) fun y18 =>
      .br y18 (.call (line_Reader_end.f []) fun y19 =>
       .ok ((0 : Nat) = (0 : Nat) ∧ (0 : Nat) = (0 : Nat)) ⟨rfl, rfl⟩ <| .ret (y19.fst, y19.snd, bad, [], (2 : Int)))
      (.br pending (.call (line_Reader_fail.f []) fun y20 =>
        .ok ((0 : Nat) = (0 : Nat) ∧ (0 : Nat) = (0 : Nat)) ⟨rfl, rfl⟩ <| .ret (y20.fst, false, y20.snd, [], (3 : Int)))
       (.br (c == (13 : Int)) (.ret (true, false, bad, [], (0 : Int)))
        (.br (c == (10 : Int)) (.call (quirks_Has.f p (1 : Int)) fun y21 =>
          .br y21 (.call (line_Reader_end.f []) fun y22 =>
           .ok ((0 : Nat) = (0 : Nat) ∧ (0 : Nat) = (0 : Nat)) ⟨rfl, rfl⟩ <| .ret (y22.fst, y22.snd, bad, [], (1 : Int)))
          (.br (c == (10 : Int)) (.call (line_Reader_fail.f []) fun y23 =>
            .ok ((0 : Nat) = (0 : Nat) ∧ (0 : Nat) = (0 : Nat)) ⟨rfl, rfl⟩ <| .ret (y23.fst, false, y23.snd, [], (3 : Int)))
           (.br (decide ((0 : Int) ≥ most)) (.call (line_Reader_fail.f []) fun y24 =>
             .ok ((0 : Nat) = (0 : Nat) ∧ (0 : Nat) = (0 : Nat)) ⟨rfl, rfl⟩ <| .ret (y24.fst, false, y24.snd, [], (4 : Int)))
            (.chk ((0 : Int) ≤ c ∧ c < (256 : Int)) <| .ret (pending, false, bad, [UInt8.ofNat c.toNat], (0 : Int))))))
         (.br (c == (10 : Int)) (.call (line_Reader_fail.f []) fun y25 =>
           .ok ((0 : Nat) = (0 : Nat) ∧ (0 : Nat) = (0 : Nat)) ⟨rfl, rfl⟩ <| .ret (y25.fst, false, y25.snd, [], (3 : Int)))
          (.br (decide ((0 : Int) ≥ most)) (.call (line_Reader_fail.f []) fun y26 =>
            .ok ((0 : Nat) = (0 : Nat) ∧ (0 : Nat) = (0 : Nat)) ⟨rfl, rfl⟩ <| .ret (y26.fst, false, y26.snd, [], (4 : Int)))
           (.chk ((0 : Int) ≤ c ∧ c < (256 : Int)) <| .ret (pending, false, bad, [UInt8.ofNat c.toNat], (0 : Int)))))))))
     (.br pending (.call (line_Reader_fail.f []) fun y27 =>
       .ok ((0 : Nat) = (0 : Nat) ∧ (0 : Nat) = (0 : Nat)) ⟨rfl, rfl⟩ <| .ret (y27.fst, false, y27.snd, [], (3 : Int)))
      (.br (c == (13 : Int)) (.ret (true, false, bad, [], (0 : Int)))
       (.br (c == (10 : Int)) (.call (quirks_Has.f p (1 : Int)) fun y28 =>
         .br y28 (.call (line_Reader_end.f []) fun y29 =>
          .ok ((0 : Nat) = (0 : Nat) ∧ (0 : Nat) = (0 : Nat)) ⟨rfl, rfl⟩ <| .ret (y29.fst, y29.snd, bad, [], (1 : Int)))
         (.br (c == (10 : Int)) (.call (line_Reader_fail.f []) fun y30 =>
           .ok ((0 : Nat) = (0 : Nat) ∧ (0 : Nat) = (0 : Nat)) ⟨rfl, rfl⟩ <| .ret (y30.fst, false, y30.snd, [], (3 : Int)))
          (.br (decide ((0 : Int) ≥ most)) (.call (line_Reader_fail.f []) fun y31 =>
            .ok ((0 : Nat) = (0 : Nat) ∧ (0 : Nat) = (0 : Nat)) ⟨rfl, rfl⟩ <| .ret (y31.fst, false, y31.snd, [], (4 : Int)))
           (.chk ((0 : Int) ≤ c ∧ c < (256 : Int)) <| .ret (pending, false, bad, [UInt8.ofNat c.toNat], (0 : Int))))))
        (.br (c == (10 : Int)) (.call (line_Reader_fail.f []) fun y32 =>
          .ok ((0 : Nat) = (0 : Nat) ∧ (0 : Nat) = (0 : Nat)) ⟨rfl, rfl⟩ <| .ret (y32.fst, false, y32.snd, [], (3 : Int)))
         (.br (decide ((0 : Int) ≥ most)) (.call (line_Reader_fail.f []) fun y33 =>
           .ok ((0 : Nat) = (0 : Nat) ∧ (0 : Nat) = (0 : Nat)) ⟨rfl, rfl⟩ <| .ret (y33.fst, false, y33.snd, [], (4 : Int)))
          (.chk ((0 : Int) ≤ c ∧ c < (256 : Int)) <| .ret (pending, false, bad, [UInt8.ofNat c.toNat], (0 : Int))))))))))
   (.br pending (.br (c == (10 : Int)) (.ok ((0 : Nat) = (0 : Nat) ∧ b.length = b.length) ⟨rfl, rfl⟩ <| .call (line_Reader_end.f b) fun y34 =>
      .ok ((0 : Nat) = (0 : Nat) ∧ b.length = b.length) ⟨rfl, rfl⟩ <| .ret (y34.fst, y34.snd, bad, b, (1 : Int)))
     (.br pending (.call (quirks_Has.f p (2 : Int)) fun y35 =>
       .br y35 (.ok ((0 : Nat) = (0 : Nat) ∧ b.length = b.length) ⟨rfl, rfl⟩ <| .call (line_Reader_end.f b) fun y36 =>
        .ok ((0 : Nat) = (0 : Nat) ∧ b.length = b.length) ⟨rfl, rfl⟩ <| .ret (y36.fst, y36.snd, bad, b, (2 : Int)))
       (.br pending (.ok ((0 : Nat) = (0 : Nat) ∧ b.length = b.length) ⟨rfl, rfl⟩ <| .call (line_Reader_fail.f b) fun y37 =>
         .ok ((0 : Nat) = (0 : Nat) ∧ b.length = b.length) ⟨rfl, rfl⟩ <| .ret (y37.fst, over, y37.snd, b, (3 : Int)))
        (.br (c == (13 : Int)) (.ok ((0 : Nat) = (0 : Nat) ∧ b.length = b.length) ⟨rfl, rfl⟩ <| .ret (true, over, bad, b, (0 : Int)))
         (.br (c == (10 : Int)) (.call (quirks_Has.f p (1 : Int)) fun y38 =>
           .br y38 (.ok ((0 : Nat) = (0 : Nat) ∧ b.length = b.length) ⟨rfl, rfl⟩ <| .call (line_Reader_end.f b) fun y39 =>
            .ok ((0 : Nat) = (0 : Nat) ∧ b.length = b.length) ⟨rfl, rfl⟩ <| .ret (y39.fst, y39.snd, bad, b, (1 : Int)))
           (.br (c == (10 : Int)) (.ok ((0 : Nat) = (0 : Nat) ∧ b.length = b.length) ⟨rfl, rfl⟩ <| .call (line_Reader_fail.f b) fun y40 =>
             .ok ((0 : Nat) = (0 : Nat) ∧ b.length = b.length) ⟨rfl, rfl⟩ <| .ret (y40.fst, over, y40.snd, b, (3 : Int)))
            (.br (decide ((↑b.length : Int) ≥ most)) (.ok ((0 : Nat) = (0 : Nat) ∧ b.length = b.length) ⟨rfl, rfl⟩ <| .call (line_Reader_fail.f b) fun y41 =>
              .ok ((0 : Nat) = (0 : Nat) ∧ b.length = b.length) ⟨rfl, rfl⟩ <| .ret (y41.fst, over, y41.snd, b, (4 : Int)))
             (.chk ((0 : Nat) + b.length ≤ b.length) <| .chk ((b.length + (1 : Nat)) * (1 : Nat) ≤ (140737488355328 : Nat)) <| .chk ((0 : Int) ≤ c ∧ c < (256 : Int)) <| .chk ((0 : Nat) = (0 : Nat) ∧ b.length + (1 : Nat) = (List.take b.length (List.drop (0 : Nat) b) ++ [UInt8.ofNat c.toNat]).length) <| .ret (pending, over, bad, List.take b.length (List.drop (0 : Nat) b) ++ [UInt8.ofNat c.toNat], (0 : Int))))))
          (.br (c == (10 : Int)) (.ok ((0 : Nat) = (0 : Nat) ∧ b.length = b.length) ⟨rfl, rfl⟩ <| .call (line_Reader_fail.f b) fun y42 =>
            .ok ((0 : Nat) = (0 : Nat) ∧ b.length = b.length) ⟨rfl, rfl⟩ <| .ret (y42.fst, over, y42.snd, b, (3 : Int)))
           (.br (decide ((↑b.length : Int) ≥ most)) (.ok ((0 : Nat) = (0 : Nat) ∧ b.length = b.length) ⟨rfl, rfl⟩ <| .call (line_Reader_fail.f b) fun y43 =>
             .ok ((0 : Nat) = (0 : Nat) ∧ b.length = b.length) ⟨rfl, rfl⟩ <| .ret (y43.fst, over, y43.snd, b, (4 : Int)))
            (.chk ((0 : Nat) + b.length ≤ b.length) <| .chk ((b.length + (1 : Nat)) * (1 : Nat) ≤ (140737488355328 : Nat)) <| .chk ((0 : Int) ≤ c ∧ c < (256 : Int)) <| .chk ((0 : Nat) = (0 : Nat) ∧ b.length + (1 : Nat) = (List.take b.length (List.drop (0 : Nat) b) ++ [UInt8.ofNat c.toNat]).length) <| .ret (pending, over, bad, List.take b.length (List.drop (0 : Nat) b) ++ [UInt8.ofNat c.toNat], (0 : Int)))))))))
      (.br pending (.ok ((0 : Nat) = (0 : Nat) ∧ b.length = b.length) ⟨rfl, rfl⟩ <| .call (line_Reader_fail.f b) fun y44 =>
        .ok ((0 : Nat) = (0 : Nat) ∧ b.length = b.length) ⟨rfl, rfl⟩ <| .ret (y44.fst, over, y44.snd, b, (3 : Int)))
       (.br (c == (13 : Int)) (.ok ((0 : Nat) = (0 : Nat) ∧ b.length = b.length) ⟨rfl, rfl⟩ <| .ret (true, over, bad, b, (0 : Int)))
        (.br (c == (10 : Int)) (.call (quirks_Has.f p (1 : Int)) fun y45 =>
          .br y45 (.ok ((0 : Nat) = (0 : Nat) ∧ b.length = b.length) ⟨rfl, rfl⟩ <| .call (line_Reader_end.f b) fun y46 =>
           .ok ((0 : Nat) = (0 : Nat) ∧ b.length = b.length) ⟨rfl, rfl⟩ <| .ret (y46.fst, y46.snd, bad, b, (1 : Int)))
          (.br (c == (10 : Int)) (.ok ((0 : Nat) = (0 : Nat) ∧ b.length = b.length) ⟨rfl, rfl⟩ <| .call (line_Reader_fail.f b) fun y47 =>
            .ok ((0 : Nat) = (0 : Nat) ∧ b.length = b.length) ⟨rfl, rfl⟩ <| .ret (y47.fst, over, y47.snd, b, (3 : Int)))
           (.br (decide ((↑b.length : Int) ≥ most)) (.ok ((0 : Nat) = (0 : Nat) ∧ b.length = b.length) ⟨rfl, rfl⟩ <| .call (line_Reader_fail.f b) fun y48 =>
             .ok ((0 : Nat) = (0 : Nat) ∧ b.length = b.length) ⟨rfl, rfl⟩ <| .ret (y48.fst, over, y48.snd, b, (4 : Int)))
            (.chk ((0 : Nat) + b.length ≤ b.length) <| .chk ((b.length + (1 : Nat)) * (1 : Nat) ≤ (140737488355328 : Nat)) <| .chk ((0 : Int) ≤ c ∧ c < (256 : Int)) <| .chk ((0 : Nat) = (0 : Nat) ∧ b.length + (1 : Nat) = (List.take b.length (List.drop (0 : Nat) b) ++ [UInt8.ofNat c.toNat]).length) <| .ret (pending, over, bad, List.take b.length (List.drop (0 : Nat) b) ++ [UInt8.ofNat c.toNat], (0 : Int))))))
         (.br (c == (10 : Int)) (.ok ((0 : Nat) = (0 : Nat) ∧ b.length = b.length) ⟨rfl, rfl⟩ <| .call (line_Reader_fail.f b) fun y49 =>
           .ok ((0 : Nat) = (0 : Nat) ∧ b.length = b.length) ⟨rfl, rfl⟩ <| .ret (y49.fst, over, y49.snd, b, (3 : Int)))
          (.br (decide ((↑b.length : Int) ≥ most)) (.ok ((0 : Nat) = (0 : Nat) ∧ b.length = b.length) ⟨rfl, rfl⟩ <| .call (line_Reader_fail.f b) fun y50 =>
            .ok ((0 : Nat) = (0 : Nat) ∧ b.length = b.length) ⟨rfl, rfl⟩ <| .ret (y50.fst, over, y50.snd, b, (4 : Int)))
           (.chk ((0 : Nat) + b.length ≤ b.length) <| .chk ((b.length + (1 : Nat)) * (1 : Nat) ≤ (140737488355328 : Nat)) <| .chk ((0 : Int) ≤ c ∧ c < (256 : Int)) <| .chk ((0 : Nat) = (0 : Nat) ∧ b.length + (1 : Nat) = (List.take b.length (List.drop (0 : Nat) b) ++ [UInt8.ofNat c.toNat]).length) <| .ret (pending, over, bad, List.take b.length (List.drop (0 : Nat) b) ++ [UInt8.ofNat c.toNat], (0 : Int))))))))))
    (.br pending (.call (quirks_Has.f p (2 : Int)) fun y51 =>
      .br y51 (.ok ((0 : Nat) = (0 : Nat) ∧ b.length = b.length) ⟨rfl, rfl⟩ <| .call (line_Reader_end.f b) fun y52 =>
       .ok ((0 : Nat) = (0 : Nat) ∧ b.length = b.length) ⟨rfl, rfl⟩ <| .ret (y52.fst, y52.snd, bad, b, (2 : Int)))
      (.br pending (.ok ((0 : Nat) = (0 : Nat) ∧ b.length = b.length) ⟨rfl, rfl⟩ <| .call (line_Reader_fail.f b) fun y53 =>
        .ok ((0 : Nat) = (0 : Nat) ∧ b.length = b.length) ⟨rfl, rfl⟩ <| .ret (y53.fst, over, y53.snd, b, (3 : Int)))
       (.br (c == (13 : Int)) (.ok ((0 : Nat) = (0 : Nat) ∧ b.length = b.length) ⟨rfl, rfl⟩ <| .ret (true, over, bad, b, (0 : Int)))
        (.br (c == (10 : Int)) (.call (quirks_Has.f p (1 : Int)) fun y54 =>
          .br y54 (.ok ((0 : Nat) = (0 : Nat) ∧ b.length = b.length) ⟨rfl, rfl⟩ <| .call (line_Reader_end.f b) fun y55 =>
           .ok ((0 : Nat) = (0 : Nat) ∧ b.length = b.length) ⟨rfl, rfl⟩ <| .ret (y55.fst, y55.snd, bad, b, (1 : Int)))
          (.br (c == (10 : Int)) (.ok ((0 : Nat) = (0 : Nat) ∧ b.length = b.length) ⟨rfl, rfl⟩ <| .call (line_Reader_fail.f b) fun y56 =>
            .ok ((0 : Nat) = (0 : Nat) ∧ b.length = b.length) ⟨rfl, rfl⟩ <| .ret (y56.fst, over, y56.snd, b, (3 : Int)))
           (.br (decide ((↑b.length : Int) ≥ most)) (.ok ((0 : Nat) = (0 : Nat) ∧ b.length = b.length) ⟨rfl, rfl⟩ <| .call (line_Reader_fail.f b) fun y57 =>
             .ok ((0 : Nat) = (0 : Nat) ∧ b.length = b.length) ⟨rfl, rfl⟩ <| .ret (y57.fst, over, y57.snd, b, (4 : Int)))
            (.chk ((0 : Nat) + b.length ≤ b.length) <| .chk ((b.length + (1 : Nat)) * (1 : Nat) ≤ (140737488355328 : Nat)) <| .chk ((0 : Int) ≤ c ∧ c < (256 : Int)) <| .chk ((0 : Nat) = (0 : Nat) ∧ b.length + (1 : Nat) = (List.take b.length (List.drop (0 : Nat) b) ++ [UInt8.ofNat c.toNat]).length) <| .ret (pending, over, bad, List.take b.length (List.drop (0 : Nat) b) ++ [UInt8.ofNat c.toNat], (0 : Int))))))
         (.br (c == (10 : Int)) (.ok ((0 : Nat) = (0 : Nat) ∧ b.length = b.length) ⟨rfl, rfl⟩ <| .call (line_Reader_fail.f b) fun y58 =>
           .ok ((0 : Nat) = (0 : Nat) ∧ b.length = b.length) ⟨rfl, rfl⟩ <| .ret (y58.fst, over, y58.snd, b, (3 : Int)))
          (.br (decide ((↑b.length : Int) ≥ most)) (.ok ((0 : Nat) = (0 : Nat) ∧ b.length = b.length) ⟨rfl, rfl⟩ <| .call (line_Reader_fail.f b) fun y59 =>
            .ok ((0 : Nat) = (0 : Nat) ∧ b.length = b.length) ⟨rfl, rfl⟩ <| .ret (y59.fst, over, y59.snd, b, (4 : Int)))
           (.chk ((0 : Nat) + b.length ≤ b.length) <| .chk ((b.length + (1 : Nat)) * (1 : Nat) ≤ (140737488355328 : Nat)) <| .chk ((0 : Int) ≤ c ∧ c < (256 : Int)) <| .chk ((0 : Nat) = (0 : Nat) ∧ b.length + (1 : Nat) = (List.take b.length (List.drop (0 : Nat) b) ++ [UInt8.ofNat c.toNat]).length) <| .ret (pending, over, bad, List.take b.length (List.drop (0 : Nat) b) ++ [UInt8.ofNat c.toNat], (0 : Int)))))))))
     (.br pending (.ok ((0 : Nat) = (0 : Nat) ∧ b.length = b.length) ⟨rfl, rfl⟩ <| .call (line_Reader_fail.f b) fun y60 =>
       .ok ((0 : Nat) = (0 : Nat) ∧ b.length = b.length) ⟨rfl, rfl⟩ <| .ret (y60.fst, over, y60.snd, b, (3 : Int)))
      (.br (c == (13 : Int)) (.ok ((0 : Nat) = (0 : Nat) ∧ b.length = b.length) ⟨rfl, rfl⟩ <| .ret (true, over, bad, b, (0 : Int)))
       (.br (c == (10 : Int)) (.call (quirks_Has.f p (1 : Int)) fun y61 =>
         .br y61 (.ok ((0 : Nat) = (0 : Nat) ∧ b.length = b.length) ⟨rfl, rfl⟩ <| .call (line_Reader_end.f b) fun y62 =>
          .ok ((0 : Nat) = (0 : Nat) ∧ b.length = b.length) ⟨rfl, rfl⟩ <| .ret (y62.fst, y62.snd, bad, b, (1 : Int)))
         (.br (c == (10 : Int)) (.ok ((0 : Nat) = (0 : Nat) ∧ b.length = b.length) ⟨rfl, rfl⟩ <| .call (line_Reader_fail.f b) fun y63 =>
           .ok ((0 : Nat) = (0 : Nat) ∧ b.length = b.length) ⟨rfl, rfl⟩ <| .ret (y63.fst, over, y63.snd, b, (3 : Int)))
          (.br (decide ((↑b.length : Int) ≥ most)) (.ok ((0 : Nat) = (0 : Nat) ∧ b.length = b.length) ⟨rfl, rfl⟩ <| .call (line_Reader_fail.f b) fun y64 =>
            .ok ((0 : Nat) = (0 : Nat) ∧ b.length = b.length) ⟨rfl, rfl⟩ <| .ret (y64.fst, over, y64.snd, b, (4 : Int)))
           (.chk ((0 : Nat) + b.length ≤ b.length) <| .chk ((b.length + (1 : Nat)) * (1 : Nat) ≤ (140737488355328 : Nat)) <| .chk ((0 : Int) ≤ c ∧ c < (256 : Int)) <| .chk ((0 : Nat) = (0 : Nat) ∧ b.length + (1 : Nat) = (List.take b.length (List.drop (0 : Nat) b) ++ [UInt8.ofNat c.toNat]).length) <| .ret (pending, over, bad, List.take b.length (List.drop (0 : Nat) b) ++ [UInt8.ofNat c.toNat], (0 : Int))))))
        (.br (c == (10 : Int)) (.ok ((0 : Nat) = (0 : Nat) ∧ b.length = b.length) ⟨rfl, rfl⟩ <| .call (line_Reader_fail.f b) fun y65 =>
          .ok ((0 : Nat) = (0 : Nat) ∧ b.length = b.length) ⟨rfl, rfl⟩ <| .ret (y65.fst, over, y65.snd, b, (3 : Int)))
         (.br (decide ((↑b.length : Int) ≥ most)) (.ok ((0 : Nat) = (0 : Nat) ∧ b.length = b.length) ⟨rfl, rfl⟩ <| .call (line_Reader_fail.f b) fun y66 =>
           .ok ((0 : Nat) = (0 : Nat) ∧ b.length = b.length) ⟨rfl, rfl⟩ <| .ret (y66.fst, over, y66.snd, b, (4 : Int)))
          (.chk ((0 : Nat) + b.length ≤ b.length) <| .chk ((b.length + (1 : Nat)) * (1 : Nat) ≤ (140737488355328 : Nat)) <| .chk ((0 : Int) ≤ c ∧ c < (256 : Int)) <| .chk ((0 : Nat) = (0 : Nat) ∧ b.length + (1 : Nat) = (List.take b.length (List.drop (0 : Nat) b) ++ [UInt8.ofNat c.toNat]).length) <| .ret (pending, over, bad, List.take b.length (List.drop (0 : Nat) b) ++ [UInt8.ofNat c.toNat], (0 : Int)))))))))))
def f (p : Int) (most : Int) (pending : Bool) (over : Bool) (bad : Bool) (b : List UInt8) (c : Int) : Option (Bool × Bool × Bool × List UInt8 × Int) := (t p most pending over bad b c).val
def F (x : D.den) : Option (Bool × Bool × Bool × List UInt8 × Int) := f x.1.1.1 x.1.1.2.1 x.1.1.2.2.2.1 x.1.1.2.2.2.2.1 x.1.1.2.2.2.2.2 x.1.2.1 x.2.2
def pa : D.den → (Bool × Bool × Bool × List UInt8 × Int) → A.den := fun (((p, (most, (_, (_, (_, _))))), (_, _)), (_, _)) (y1, y2, y3, y4, y5) => (((p, (most, ((), (y1, (y2, y3))))), ((), (y4, ()))), y5)
def con : Con := tcon D A pa F
theorem vc (p : Int) (most : Int) (pending : Bool) (over : Bool) (bad : Bool) (b : List UInt8) (c : Int) (qa : A.den → Prop) (qb : con.B.den → Prop) : con.run Try.prog bk_line_Reader_fail 9 [] 28 (fun _ => true) (((p, (most, ((), (pending, (over, bad))))), (b, ())), ((), c)) qa qb = (t p most pending over bad b c).wp (fun y => qa (pa (((p, (most, ((), (pending, (over, bad))))), (b, ())), ((), c)) y)) := by kernel_rfl
theorem ok : ConOk Try.prog 28 con := tcon_ok Base.mixed Base.prog_ok bk_line_Reader_fail_ok (by kernel_rfl) LapsOk.nil 9 (fun _ => rfl) (fun x => t x.1.1.1 x.1.1.2.1 x.1.1.2.2.2.1 x.1.1.2.2.2.2.1 x.1.1.2.2.2.2.2 x.1.2.1 x.2.2) (fun _ => rfl) fun x qa qb => vc x.1.1.1 x.1.1.2.1 x.1.1.2.2.2.1 x.1.1.2.2.2.2.1 x.1.1.2.2.2.2.2 x.1.2.1 x.2.2 qa qb
end line_Reader_Byte
def bk_line_Reader_Byte : Book := bk_line_Reader_fail.add 28 line_Reader_Byte.con
theorem bk_line_Reader_Byte_ok : BookOk Try.prog bk_line_Reader_Byte := bk_line_Reader_fail_ok.add line_Reader_Byte.ok
namespace ref6_Reader_end
def D : Dom := ⟨[.cells (.cat (.int .u32) (.cat (.int .i64) (.cat (.sl 1 1) (.cat .bool (.cat .str (.cat .bool .bool)))))) 58 false, .vec .byte 5 false], (.cat (.ptr 0 0 0 0) (.int .i64))⟩
def A : Dom := ⟨[.cells (.cat (.int .u32) (.cat (.int .i64) (.cat (.sl 2 1) (.cat .bool (.cat .str (.cat .bool .bool)))))) 58 false, .vec .byte 5 false, .vec .byte 5 false], (.int .i64)⟩
def sel : List Nat := [6]
def t (vB : List UInt8) : Tr (Bool × List UInt8 × Bool × List UInt8) :=
  .chk ((0 : Nat) + vB.length ≤ vB.length) <| .ret (false, List.take vB.length (List.drop (0 : Nat) vB), true, [])
def f (vB : List UInt8) : Option (Bool × List UInt8 × Bool × List UInt8) := (t vB).val
def F (x : D.den) : Option (Bool × List UInt8 × Bool × List UInt8) := f x.1.2.1
def pa : D.den → (Bool × List UInt8 × Bool × List UInt8) → A.den := fun (((P, (Most, (_, (_, (_, (_, dead)))))), (vB, _)), (_, how)) (y1, y2, y3, y4) => (((P, (Most, ((), (y1, (y2, (y3, dead)))))), (vB, (y4, ()))), how)
def con : Con := tcon D A pa F
theorem vc (P : Int) (Most : Int) (CR : Bool) (L : List UInt8) (over : Bool) (dead : Bool) (vB : List UInt8) (how : Int) (qa : A.den → Prop) (qb : con.B.den → Prop) : con.run Try.prog bk_line_Reader_Byte 9 [] 40 (fun _ => true) (((P, (Most, ((), (CR, (L, (over, dead)))))), (vB, ())), ((), how)) qa qb = (t vB).wp (fun y => qa (pa (((P, (Most, ((), (CR, (L, (over, dead)))))), (vB, ())), ((), how)) y)) := by kernel_rfl
theorem ok : ConOk Try.prog 40 con := tcon_ok Base.mixed Base.prog_ok bk_line_Reader_Byte_ok (by kernel_rfl) LapsOk.nil 9 (fun _ => rfl) (fun x => t x.1.2.1) (fun _ => rfl) fun x qa qb => vc x.1.1.1 x.1.1.2.1 x.1.1.2.2.2.1 x.1.1.2.2.2.2.1 x.1.1.2.2.2.2.2.1 x.1.1.2.2.2.2.2.2 x.1.2.1 x.2.2 qa qb
end ref6_Reader_end
def bk_ref6_Reader_end : Book := bk_line_Reader_Byte.add 40 ref6_Reader_end.con
theorem bk_ref6_Reader_end_ok : BookOk Try.prog bk_ref6_Reader_end := bk_line_Reader_Byte_ok.add ref6_Reader_end.ok
namespace ref4_Has
def D : Dom := ⟨[], (.cat (.int .u32) (.int .i64))⟩
def A : Dom := ⟨[], .bool⟩
def sel : List Nat := [0, 1]
def t (p : Int) (c : Int) : Tr (Bool) :=
  .br (decide (c ≥ (0 : Int))) (.br (decide (c < (30 : Int))) (.chk (¬c < (0 : Int)) <| .ret (IntKind.u32.wrap (↑(BitVec.ofInt IntKind.u32.bits (p.fdiv ((2 : Int) ^ min c.toNat IntKind.u32.bits)) &&& BitVec.ofInt IntKind.u32.bits (1 : Int)).toNat : Int) == (1 : Int)))
   (.ret false))
  (.ret false)
def f (p : Int) (c : Int) : Option (Bool) := (t p c).val
def F (x : D.den) : Option (Bool) := f x.2.1 x.2.2
def pa : D.den → (Bool) → A.den := fun (_, (_, _)) y1 => ((), y1)
def con : Con := tcon D A pa F
theorem vc (p : Int) (c : Int) (qa : A.den → Prop) (qb : con.B.den → Prop) : con.run Try.prog bk_ref6_Reader_end 9 [] 41 (fun _ => true) ((), (p, c)) qa qb = (t p c).wp (fun y => qa (pa ((), (p, c)) y)) := by kernel_rfl
theorem ok : ConOk Try.prog 41 con := tcon_ok Base.mixed Base.prog_ok bk_ref6_Reader_end_ok (by kernel_rfl) LapsOk.nil 9 (fun _ => rfl) (fun x => t x.2.1 x.2.2) (fun _ => rfl) fun x qa qb => vc x.2.1 x.2.2 qa qb
end ref4_Has
def bk_ref4_Has : Book := bk_ref6_Reader_end.add 41 ref4_Has.con
theorem bk_ref4_Has_ok : BookOk Try.prog bk_ref4_Has := bk_ref6_Reader_end_ok.add ref4_Has.ok
namespace ref6_Reader_die
def D : Dom := ⟨[.cells (.cat (.int .u32) (.cat (.int .i64) (.cat (.sl 1 1) (.cat .bool (.cat .str (.cat .bool .bool)))))) 58 false, .vec .byte 5 false], (.cat (.ptr 0 0 0 0) (.int .i64))⟩
def A : Dom := ⟨[.cells (.cat (.int .u32) (.cat (.int .i64) (.cat (.sl 1 1) (.cat .bool (.cat .str (.cat .bool .bool)))))) 58 false, .vec .byte 5 false], (.int .i64)⟩
def sel : List Nat := [6]
def t (vB : List UInt8) : Tr (Bool) :=
  .ok ((0 : Nat) = (0 : Nat) ∧ vB.length = vB.length) ⟨rfl, rfl⟩ <| .ret true
def f (vB : List UInt8) : Option (Bool) := (t vB).val
def F (x : D.den) : Option (Bool) := f x.1.2.1
def pa : D.den → (Bool) → A.den := fun (((P, (Most, (_, (CR, (L, (over, _)))))), (vB, _)), (_, how)) y1 => (((P, (Most, ((), (CR, (L, (over, y1)))))), (vB, ())), how)
def con : Con := tcon D A pa F
theorem vc (P : Int) (Most : Int) (CR : Bool) (L : List UInt8) (over : Bool) (dead : Bool) (vB : List UInt8) (how : Int) (qa : A.den → Prop) (qb : con.B.den → Prop) : con.run Try.prog bk_ref4_Has 9 [] 42 (fun _ => true) (((P, (Most, ((), (CR, (L, (over, dead)))))), (vB, ())), ((), how)) qa qb = (t vB).wp (fun y => qa (pa (((P, (Most, ((), (CR, (L, (over, dead)))))), (vB, ())), ((), how)) y)) := by kernel_rfl
theorem ok : ConOk Try.prog 42 con := tcon_ok Base.mixed Base.prog_ok bk_ref4_Has_ok (by kernel_rfl) LapsOk.nil 9 (fun _ => rfl) (fun x => t x.1.2.1) (fun _ => rfl) fun x qa qb => vc x.1.1.1 x.1.1.2.1 x.1.1.2.2.2.1 x.1.1.2.2.2.2.1 x.1.1.2.2.2.2.2.1 x.1.1.2.2.2.2.2.2 x.1.2.1 x.2.2 qa qb
end ref6_Reader_die
def bk_ref6_Reader_die : Book := bk_ref4_Has.add 42 ref6_Reader_die.con
theorem bk_ref6_Reader_die_ok : BookOk Try.prog bk_ref6_Reader_die := bk_ref4_Has_ok.add ref6_Reader_die.ok
namespace ref6_Reader_Byte
def D : Dom := ⟨[.cells (.cat (.int .u32) (.cat (.int .i64) (.cat (.sl 1 1) (.cat .bool (.cat .str (.cat .bool .bool)))))) 58 false, .vec .byte 5 false], (.cat (.ptr 0 0 0 0) (.int .u8))⟩
def A : Dom := ⟨[.cells (.cat (.int .u32) (.cat (.int .i64) (.cat (.sl 2 1) (.cat .bool (.cat .str (.cat .bool .bool)))))) 58 false, .dead, .vec .byte 5 false], (.int .i64)⟩
def sel : List Nat := [0, 1, 2, 3, 4, 5, 6, 7]
def t (P : Int) (Most : Int) (CR : Bool) (L : List UInt8) (over : Bool) (dead : Bool) (vB : List UInt8) (c : Int) : Tr (Bool × List UInt8 × Bool × Bool × List UInt8 × Int) :=
  .br dead (.ok ((0 : Nat) = (0 : Nat) ∧ vB.length = vB.length) ⟨rfl, rfl⟩ <| .ret (CR, L, over, dead, vB, (3 : Int)))
  (.br CR (.br (c == (10 : Int)) (.ok ((0 : Nat) = (0 : Nat) ∧ vB.length = vB.length) ⟨rfl, rfl⟩ <| .call (ref6_Reader_end.f vB) fun y1 =>
     .ok ((0 : Nat) = (0 : Nat) ∧ y1.snd.snd.snd.length = y1.snd.snd.snd.length) ⟨rfl, rfl⟩ <| .ret (y1.fst, y1.snd.fst, y1.snd.snd.fst, dead, y1.snd.snd.snd, (1 : Int)))
    (.br CR (.call (ref4_Has.f P (2 : Int)) fun y2 =>
      .br y2 (.ok ((0 : Nat) = (0 : Nat) ∧ vB.length = vB.length) ⟨rfl, rfl⟩ <| .call (ref6_Reader_end.f vB) fun y3 =>
       .ok ((0 : Nat) = (0 : Nat) ∧ y3.snd.snd.snd.length = y3.snd.snd.snd.length) ⟨rfl, rfl⟩ <| .ret (y3.fst, y3.snd.fst, y3.snd.snd.fst, dead, y3.snd.snd.snd, (2 : Int)))
      (.br CR (.ok ((0 : Nat) = (0 : Nat) ∧ vB.length = vB.length) ⟨rfl, rfl⟩ <| .call (ref6_Reader_die.f vB) fun y4 =>
        .ok ((0 : Nat) = (0 : Nat) ∧ vB.length = vB.length) ⟨rfl, rfl⟩ <| .ret (CR, [], false, y4, vB, (3 : Int)))
       (.br (c == (10 : Int)) (.call (ref4_Has.f P (1 : Int)) fun y5 =>
         .br y5 (.ok ((0 : Nat) = (0 : Nat) ∧ vB.length = vB.length) ⟨rfl, rfl⟩ <| .call (ref6_Reader_end.f vB) fun y6 =>
          .ok ((0 : Nat) = (0 : Nat) ∧ y6.snd.snd.snd.length = y6.snd.snd.snd.length) ⟨rfl, rfl⟩ <| .ret (y6.fst, y6.snd.fst, y6.snd.snd.fst, dead, y6.snd.snd.snd, (1 : Int)))
         (.br (c == (10 : Int)) (.ok ((0 : Nat) = (0 : Nat) ∧ vB.length = vB.length) ⟨rfl, rfl⟩ <| .call (ref6_Reader_die.f vB) fun y7 =>
           .ok ((0 : Nat) = (0 : Nat) ∧ vB.length = vB.length) ⟨rfl, rfl⟩ <| .ret (CR, [], false, y7, vB, (3 : Int)))
          (.br (c == (13 : Int)) (.ok ((0 : Nat) = (0 : Nat) ∧ vB.length = vB.length) ⟨rfl, rfl⟩ <| .ret (true, [], false, dead, vB, (0 : Int)))
           (.br (decide ((↑vB.length : Int) ≥ Most)) (.ok ((0 : Nat) = (0 : Nat) ∧ vB.length = vB.length) ⟨rfl, rfl⟩ <| .call (ref6_Reader_die.f vB) fun y8 =>
             .ok ((0 : Nat) = (0 : Nat) ∧ vB.length = vB.length) ⟨rfl, rfl⟩ <| .ret (CR, [], false, y8, vB, (4 : Int)))
            (.chk ((0 : Nat) + vB.length ≤ vB.length) <| .chk ((vB.length + (1 : Nat)) * (1 : Nat) ≤ (140737488355328 : Nat)) <| .chk ((0 : Int) ≤ c ∧ c < (256 : Int)) <| .chk ((0 : Nat) = (0 : Nat) ∧ vB.length + (1 : Nat) = (List.take vB.length (List.drop (0 : Nat) vB) ++ [UInt8.ofNat c.toNat]).length) <| .ret (CR, [], false, dead, List.take vB.length (List.drop (0 : Nat) vB) ++ [UInt8.ofNat c.toNat], (0 : Int)))))))
        (.br (c == (10 : Int)) (.ok ((0 : Nat) = (0 : Nat) ∧ vB.length = vB.length) ⟨rfl, rfl⟩ <| .call (ref6_Reader_die.f vB) fun y9 =>
          .ok ((0 : Nat) = (0 : Nat) ∧ vB.length = vB.length) ⟨rfl, rfl⟩ <| .ret (CR, [], false, y9, vB, (3 : Int)))
         (.br (c == (13 : Int)) (.ok ((0 : Nat) = (0 : Nat) ∧ vB.length = vB.length) ⟨rfl, rfl⟩ <| .ret (true, [], false, dead, vB, (0 : Int)))
          (.br (decide ((↑vB.length : Int) ≥ Most)) (.ok ((0 : Nat) = (0 : Nat) ∧ vB.length = vB.length) ⟨rfl, rfl⟩ <| .call (ref6_Reader_die.f vB) fun y10 =>
            .ok ((0 : Nat) = (0 : Nat) ∧ vB.length = vB.length) ⟨rfl, rfl⟩ <| .ret (CR, [], false, y10, vB, (4 : Int)))
           (.chk ((0 : Nat) + vB.length ≤ vB.length) <| .chk ((vB.length + (1 : Nat)) * (1 : Nat) ≤ (140737488355328 : Nat)) <| .chk ((0 : Int) ≤ c ∧ c < (256 : Int)) <| .chk ((0 : Nat) = (0 : Nat) ∧ vB.length + (1 : Nat) = (List.take vB.length (List.drop (0 : Nat) vB) ++ [UInt8.ofNat c.toNat]).length) <| .ret (CR, [], false, dead, List.take vB.length (List.drop (0 : Nat) vB) ++ [UInt8.ofNat c.toNat], (0 : Int)))))))))
     (.br CR (.ok ((0 : Nat) = (0 : Nat) ∧ vB.length = vB.length) ⟨rfl, rfl⟩ <| .call (ref6_Reader_die.f vB) fun y11 =>
       .ok ((0 : Nat) = (0 : Nat) ∧ vB.length = vB.length) ⟨rfl, rfl⟩ <| .ret (CR, [], false, y11, vB, (3 : Int)))
      (.br (c == (10 : Int)) (.call (ref4_Has.f P (1 : Int)) fun y12 =>
        .br y12 (.ok ((0 : Nat) = (0 : Nat) ∧ vB.length = vB.length) ⟨rfl, rfl⟩ <| .call (ref6_Reader_end.f vB) fun y13 =>
         .ok ((0 : Nat) = (0 : Nat) ∧ y13.snd.snd.snd.length = y13.snd.snd.snd.length) ⟨rfl, rfl⟩ <| .ret (y13.fst, y13.snd.fst, y13.snd.snd.fst, dead, y13.snd.snd.snd, (1 : Int)))
        (.br (c == (10 : Int)) (.ok ((0 : Nat) = (0 : Nat) ∧ vB.length = vB.length) ⟨rfl, rfl⟩ <| .call (ref6_Reader_die.f vB) fun y14 =>
          .ok ((0 : Nat) = (0 : Nat) ∧ vB.length = vB.length) ⟨rfl, rfl⟩ <| .ret (CR, [], false, y14, vB, (3 : Int)))
         (.br (c == (13 : Int)) (.ok ((0 : Nat) = (0 : Nat) ∧ vB.length = vB.length) ⟨rfl, rfl⟩ <| .ret (true, [], false, dead, vB, (0 : Int)))
          (.br (decide ((↑vB.length : Int) ≥ Most)) (.ok ((0 : Nat) = (0 : Nat) ∧ vB.length = vB.length) ⟨rfl, rfl⟩ <| .call (ref6_Reader_die.f vB) fun y15 =>
            .ok ((0 : Nat) = (0 : Nat) ∧ vB.length = vB.length) ⟨rfl, rfl⟩ <| .ret (CR, [], false, y15, vB, (4 : Int)))
           (.chk ((0 : Nat) + vB.length ≤ vB.length) <| .chk ((vB.length + (1 : Nat)) * (1 : Nat) ≤ (140737488355328 : Nat)) <| .chk ((0 : Int) ≤ c ∧ c < (256 : Int)) <| .chk ((0 : Nat) = (0 : Nat) ∧ vB.length + (1 : Nat) = (List.take vB.length (List.drop (0 : Nat) vB) ++ [UInt8.ofNat c.toNat]).length) <| .ret (CR, [], false, dead, List.take vB.length (List.drop (0 : Nat) vB) ++ [UInt8.ofNat c.toNat], (0 : Int)))))))
       (.br (c == (10 : Int)) (.ok ((0 : Nat) = (0 : Nat) ∧ vB.length = vB.length) ⟨rfl, rfl⟩ <| .call (ref6_Reader_die.f vB) fun y16 =>
         .ok ((0 : Nat) = (0 : Nat) ∧ vB.length = vB.length) ⟨rfl, rfl⟩ <| .ret (CR, [], false, y16, vB, (3 : Int)))
        (.br (c == (13 : Int)) (.ok ((0 : Nat) = (0 : Nat) ∧ vB.length = vB.length) ⟨rfl, rfl⟩ <| .ret (true, [], false, dead, vB, (0 : Int)))
         (.br (decide ((↑vB.length : Int) ≥ Most)) (.ok ((0 : Nat) = (0 : Nat) ∧ vB.length = vB.length) ⟨rfl, rfl⟩ <| .call (ref6_Reader_die.f vB) fun y17 =>
           .ok ((0 : Nat) = (0 : Nat) ∧ vB.length = vB.length) ⟨rfl, rfl⟩ <| .ret (CR, [], false, y17, vB, (4 : Int)))
          (.chk ((0 : Nat) + vB.length ≤ vB.length) <| .chk ((vB.length + (1 : Nat)) * (1 : Nat) ≤ (140737488355328 : Nat)) <| .chk ((0 : Int) ≤ c ∧ c < (256 : Int)) <| .chk ((0 : Nat) = (0 : Nat) ∧ vB.length + (1 : Nat) = (List.take vB.length (List.drop (0 : Nat) vB) ++ [UInt8.ofNat c.toNat]).length) <| .ret (CR, [], false, dead, List.take vB.length (List.drop (0 : Nat) vB) ++ [UInt8.ofNat c.toNat], (0 : Int))))))))))
   (.br CR (.call (ref4_Has.f P (2 : Int)) fun y18 =>
     .br y18 (.ok ((0 : Nat) = (0 : Nat) ∧ vB.length = vB.length) ⟨rfl, rfl⟩ <| .call (ref6_Reader_end.f vB) fun y19 =>
      .ok ((0 : Nat) = (0 : Nat) ∧ y19.snd.snd.snd.length = y19.snd.snd.snd.length) ⟨rfl, rfl⟩ <| .ret (y19.fst, y19.snd.fst, y19.snd.snd.fst, dead, y19.snd.snd.snd, (2 : Int)))
     (.br CR (.ok ((0 : Nat) = (0 : Nat) ∧ vB.length = vB.length) ⟨rfl, rfl⟩ <| .call (ref6_Reader_die.f vB) fun y20 =>
       .ok ((0 : Nat) = (0 : Nat) ∧ vB.length = vB.length) ⟨rfl, rfl⟩ <| .ret (CR, [], false, y20, vB, (3 : Int)))
      (.br (c == (10 : Int)) (.call (ref4_Has.f P (1 : Int)) fun y21 =>
        .br y21 (.ok ((0 : Nat) = (0 : Nat) ∧ vB.length = vB.length) ⟨rfl, rfl⟩ <| .call (ref6_Reader_end.f vB) fun y22 =>
         .ok ((0 : Nat) = (0 : Nat) ∧ y22.snd.snd.snd.length = y22.snd.snd.snd.length) ⟨rfl, rfl⟩ <| .ret (y22.fst, y22.snd.fst, y22.snd.snd.fst, dead, y22.snd.snd.snd, (1 : Int)))
        (.br (c == (10 : Int)) (.ok ((0 : Nat) = (0 : Nat) ∧ vB.length = vB.length) ⟨rfl, rfl⟩ <| .call (ref6_Reader_die.f vB) fun y23 =>
          .ok ((0 : Nat) = (0 : Nat) ∧ vB.length = vB.length) ⟨rfl, rfl⟩ <| .ret (CR, [], false, y23, vB, (3 : Int)))
         (.br (c == (13 : Int)) (.ok ((0 : Nat) = (0 : Nat) ∧ vB.length = vB.length) ⟨rfl, rfl⟩ <| .ret (true, [], false, dead, vB, (0 : Int)))
          (.br (decide ((↑vB.length : Int) ≥ Most)) (.ok ((0 : Nat) = (0 : Nat) ∧ vB.length = vB.length) ⟨rfl, rfl⟩ <| .call (ref6_Reader_die.f vB) fun y24 =>
            .ok ((0 : Nat) = (0 : Nat) ∧ vB.length = vB.length) ⟨rfl, rfl⟩ <| .ret (CR, [], false, y24, vB, (4 : Int)))
           (.chk ((0 : Nat) + vB.length ≤ vB.length) <| .chk ((vB.length + (1 : Nat)) * (1 : Nat) ≤ (140737488355328 : Nat)) <| .chk ((0 : Int) ≤ c ∧ c < (256 : Int)) <| .chk ((0 : Nat) = (0 : Nat) ∧ vB.length + (1 : Nat) = (List.take vB.length (List.drop (0 : Nat) vB) ++ [UInt8.ofNat c.toNat]).length) <| .ret (CR, [], false, dead, List.take vB.length (List.drop (0 : Nat) vB) ++ [UInt8.ofNat c.toNat], (0 : Int)))))))
       (.br (c == (10 : Int)) (.ok ((0 : Nat) = (0 : Nat) ∧ vB.length = vB.length) ⟨rfl, rfl⟩ <| .call (ref6_Reader_die.f vB) fun y25 =>
         .ok ((0 : Nat) = (0 : Nat) ∧ vB.length = vB.length) ⟨rfl, rfl⟩ <| .ret (CR, [], false, y25, vB, (3 : Int)))
        (.br (c == (13 : Int)) (.ok ((0 : Nat) = (0 : Nat) ∧ vB.length = vB.length) ⟨rfl, rfl⟩ <| .ret (true, [], false, dead, vB, (0 : Int)))
         (.br (decide ((↑vB.length : Int) ≥ Most)) (.ok ((0 : Nat) = (0 : Nat) ∧ vB.length = vB.length) ⟨rfl, rfl⟩ <| .call (ref6_Reader_die.f vB) fun y26 =>
           .ok ((0 : Nat) = (0 : Nat) ∧ vB.length = vB.length) ⟨rfl, rfl⟩ <| .ret (CR, [], false, y26, vB, (4 : Int)))
          (.chk ((0 : Nat) + vB.length ≤ vB.length) <| .chk ((vB.length + (1 : Nat)) * (1 : Nat) ≤ (140737488355328 : Nat)) <| .chk ((0 : Int) ≤ c ∧ c < (256 : Int)) <| .chk ((0 : Nat) = (0 : Nat) ∧ vB.length + (1 : Nat) = (List.take vB.length (List.drop (0 : Nat) vB) ++ [UInt8.ofNat c.toNat]).length) <| .ret (CR, [], false, dead, List.take vB.length (List.drop (0 : Nat) vB) ++ [UInt8.ofNat c.toNat], (0 : Int)))))))))
    (.br CR (.ok ((0 : Nat) = (0 : Nat) ∧ vB.length = vB.length) ⟨rfl, rfl⟩ <| .call (ref6_Reader_die.f vB) fun y27 =>
      .ok ((0 : Nat) = (0 : Nat) ∧ vB.length = vB.length) ⟨rfl, rfl⟩ <| .ret (CR, [], false, y27, vB, (3 : Int)))
     (.br (c == (10 : Int)) (.call (ref4_Has.f P (1 : Int)) fun y28 =>
       .br y28 (.ok ((0 : Nat) = (0 : Nat) ∧ vB.length = vB.length) ⟨rfl, rfl⟩ <| .call (ref6_Reader_end.f vB) fun y29 =>
        .ok ((0 : Nat) = (0 : Nat) ∧ y29.snd.snd.snd.length = y29.snd.snd.snd.length) ⟨rfl, rfl⟩ <| .ret (y29.fst, y29.snd.fst, y29.snd.snd.fst, dead, y29.snd.snd.snd, (1 : Int)))
       (.br (c == (10 : Int)) (.ok ((0 : Nat) = (0 : Nat) ∧ vB.length = vB.length) ⟨rfl, rfl⟩ <| .call (ref6_Reader_die.f vB) fun y30 =>
         .ok ((0 : Nat) = (0 : Nat) ∧ vB.length = vB.length) ⟨rfl, rfl⟩ <| .ret (CR, [], false, y30, vB, (3 : Int)))
        (.br (c == (13 : Int)) (.ok ((0 : Nat) = (0 : Nat) ∧ vB.length = vB.length) ⟨rfl, rfl⟩ <| .ret (true, [], false, dead, vB, (0 : Int)))
         (.br (decide ((↑vB.length : Int) ≥ Most)) (.ok ((0 : Nat) = (0 : Nat) ∧ vB.length = vB.length) ⟨rfl, rfl⟩ <| .call (ref6_Reader_die.f vB) fun y31 =>
           .ok ((0 : Nat) = (0 : Nat) ∧ vB.length = vB.length) ⟨rfl, rfl⟩ <| .ret (CR, [], false, y31, vB, (4 : Int)))
          (.chk ((0 : Nat) + vB.length ≤ vB.length) <| .chk ((vB.length + (1 : Nat)) * (1 : Nat) ≤ (140737488355328 : Nat)) <| .chk ((0 : Int) ≤ c ∧ c < (256 : Int)) <| .chk ((0 : Nat) = (0 : Nat) ∧ vB.length + (1 : Nat) = (List.take vB.length (List.drop (0 : Nat) vB) ++ [UInt8.ofNat c.toNat]).length) <| .ret (CR, [], false, dead, List.take vB.length (List.drop (0 : Nat) vB) ++ [UInt8.ofNat c.toNat], (0 : Int)))))))
      (.br (c == (10 : Int)) (.ok ((0 : Nat) = (0 : Nat) ∧ vB.length = vB.length) ⟨rfl, rfl⟩ <| .call (ref6_Reader_die.f vB) fun y32 =>
        .ok ((0 : Nat) = (0 : Nat) ∧ vB.length = vB.length) ⟨rfl, rfl⟩ <| .ret (CR, [], false, y32, vB, (3 : Int)))
       (.br (c == (13 : Int)) (.ok ((0 : Nat) = (0 : Nat) ∧ vB.length = vB.length) ⟨rfl, rfl⟩ <| .ret (true, [], false, dead, vB, (0 : Int)))
        (.br (decide ((↑vB.length : Int) ≥ Most)) (.ok ((0 : Nat) = (0 : Nat) ∧ vB.length = vB.length) ⟨rfl, rfl⟩ <| .call (ref6_Reader_die.f vB) fun y33 =>
          .ok ((0 : Nat) = (0 : Nat) ∧ vB.length = vB.length) ⟨rfl, rfl⟩ <| .ret (CR, [], false, y33, vB, (4 : Int)))
         (.chk ((0 : Nat) + vB.length ≤ vB.length) <| .chk ((vB.length + (1 : Nat)) * (1 : Nat) ≤ (140737488355328 : Nat)) <| .chk ((0 : Int) ≤ c ∧ c < (256 : Int)) <| .chk ((0 : Nat) = (0 : Nat) ∧ vB.length + (1 : Nat) = (List.take vB.length (List.drop (0 : Nat) vB) ++ [UInt8.ofNat c.toNat]).length) <| .ret (CR, [], false, dead, List.take vB.length (List.drop (0 : Nat) vB) ++ [UInt8.ofNat c.toNat], (0 : Int))))))))))
def f (P : Int) (Most : Int) (CR : Bool) (L : List UInt8) (over : Bool) (dead : Bool) (vB : List UInt8) (c : Int) : Option (Bool × List UInt8 × Bool × Bool × List UInt8 × Int) := (t P Most CR L over dead vB c).val
def F (x : D.den) : Option (Bool × List UInt8 × Bool × Bool × List UInt8 × Int) := f x.1.1.1 x.1.1.2.1 x.1.1.2.2.2.1 x.1.1.2.2.2.2.1 x.1.1.2.2.2.2.2.1 x.1.1.2.2.2.2.2.2 x.1.2.1 x.2.2
def pa : D.den → (Bool × List UInt8 × Bool × Bool × List UInt8 × Int) → A.den := fun (((P, (Most, (_, (_, (_, (_, _)))))), (_, _)), (_, _)) (y1, y2, y3, y4, y5, y6) => (((P, (Most, ((), (y1, (y2, (y3, y4)))))), ((), (y5, ()))), y6)
def con : Con := tcon D A pa F
theorem vc (P : Int) (Most : Int) (CR : Bool) (L : List UInt8) (over : Bool) (dead : Bool) (vB : List UInt8) (c : Int) (qa : A.den → Prop) (qb : con.B.den → Prop) : con.run Try.prog bk_ref6_Reader_die 9 [] 29 (fun _ => true) (((P, (Most, ((), (CR, (L, (over, dead)))))), (vB, ())), ((), c)) qa qb = (t P Most CR L over dead vB c).wp (fun y => qa (pa (((P, (Most, ((), (CR, (L, (over, dead)))))), (vB, ())), ((), c)) y)) := by kernel_rfl
theorem ok : ConOk Try.prog 29 con := tcon_ok Base.mixed Base.prog_ok bk_ref6_Reader_die_ok (by kernel_rfl) LapsOk.nil 9 (fun _ => rfl) (fun x => t x.1.1.1 x.1.1.2.1 x.1.1.2.2.2.1 x.1.1.2.2.2.2.1 x.1.1.2.2.2.2.2.1 x.1.1.2.2.2.2.2.2 x.1.2.1 x.2.2) (fun _ => rfl) fun x qa qb => vc x.1.1.1 x.1.1.2.1 x.1.1.2.2.2.1 x.1.1.2.2.2.2.1 x.1.1.2.2.2.2.2.1 x.1.1.2.2.2.2.2.2 x.1.2.1 x.2.2 qa qb
end ref6_Reader_Byte
def bk_ref6_Reader_Byte : Book := bk_ref6_Reader_die.add 29 ref6_Reader_Byte.con
theorem bk_ref6_Reader_Byte_ok : BookOk Try.prog bk_ref6_Reader_Byte := bk_ref6_Reader_die_ok.add ref6_Reader_Byte.ok
namespace line_Reader_Line
def D : Dom := ⟨[.cells (.cat (.int .u32) (.cat (.int .i64) (.cat (.sl 1 1) (.cat .bool (.cat .bool .bool))))) 72 false, .vec .byte 5 false], (.ptr 0 0 0 0)⟩
def A : Dom := ⟨[.cells (.cat (.int .u32) (.cat (.int .i64) (.cat (.sl 1 1) (.cat .bool (.cat .bool .bool))))) 72 false, .vec .byte 5 false], .str⟩
def sel : List Nat := [3, 4, 5]
def t (over : Bool) (bad : Bool) (b : List UInt8) : Tr (List UInt8) :=
  .br (!over) (.ok ((0 : Nat) = (0 : Nat) ∧ b.length = b.length) ⟨rfl, rfl⟩ <| .ret [])
  (.br bad (.ok ((0 : Nat) = (0 : Nat) ∧ b.length = b.length) ⟨rfl, rfl⟩ <| .ret [])
   (.chk ((0 : Nat) + b.length ≤ b.length) <| .ok ((0 : Nat) = (0 : Nat) ∧ b.length = b.length) ⟨rfl, rfl⟩ <| .ret (List.take b.length (List.drop (0 : Nat) b))))
def f (over : Bool) (bad : Bool) (b : List UInt8) : Option (List UInt8) := (t over bad b).val
def F (x : D.den) : Option (List UInt8) := f x.1.1.2.2.2.2.1 x.1.1.2.2.2.2.2 x.1.2.1
def pa : D.den → (List UInt8) → A.den := fun (((p, (most, (_, (pending, (over, bad))))), (b, _)), _) y1 => (((p, (most, ((), (pending, (over, bad))))), (b, ())), y1)
def con : Con := tcon D A pa F
theorem vc (p : Int) (most : Int) (pending : Bool) (over : Bool) (bad : Bool) (b : List UInt8) (qa : A.den → Prop) (qb : con.B.den → Prop) : con.run Try.prog bk_ref6_Reader_Byte 9 [] 30 (fun _ => true) (((p, (most, ((), (pending, (over, bad))))), (b, ())), ()) qa qb = (t over bad b).wp (fun y => qa (pa (((p, (most, ((), (pending, (over, bad))))), (b, ())), ()) y)) := by kernel_rfl
theorem ok : ConOk Try.prog 30 con := tcon_ok Base.mixed Base.prog_ok bk_ref6_Reader_Byte_ok (by kernel_rfl) LapsOk.nil 9 (fun _ => rfl) (fun x => t x.1.1.2.2.2.2.1 x.1.1.2.2.2.2.2 x.1.2.1) (fun _ => rfl) fun x qa qb => vc x.1.1.1 x.1.1.2.1 x.1.1.2.2.2.1 x.1.1.2.2.2.2.1 x.1.1.2.2.2.2.2 x.1.2.1 qa qb
end line_Reader_Line
def bk_line_Reader_Line : Book := bk_ref6_Reader_Byte.add 30 line_Reader_Line.con
theorem bk_line_Reader_Line_ok : BookOk Try.prog bk_line_Reader_Line := bk_ref6_Reader_Byte_ok.add line_Reader_Line.ok
namespace line_Reader_Len
def D : Dom := ⟨[.cells (.cat (.int .u32) (.cat (.int .i64) (.cat (.sl 1 1) (.cat .bool (.cat .bool .bool))))) 72 false, .vec .byte 5 false], (.ptr 0 0 0 0)⟩
def A : Dom := ⟨[.cells (.cat (.int .u32) (.cat (.int .i64) (.cat (.sl 1 1) (.cat .bool (.cat .bool .bool))))) 72 false, .vec .byte 5 false], (.int .i64)⟩
def sel : List Nat := [3, 5]
def t (over : Bool) (b : List UInt8) : Tr (Int) :=
  .br over (.ok ((0 : Nat) = (0 : Nat) ∧ b.length = b.length) ⟨rfl, rfl⟩ <| .ret (0 : Int))
  (.ok ((0 : Nat) = (0 : Nat) ∧ b.length = b.length) ⟨rfl, rfl⟩ <| .ret (↑b.length : Int))
def f (over : Bool) (b : List UInt8) : Option (Int) := (t over b).val
def F (x : D.den) : Option (Int) := f x.1.1.2.2.2.2.1 x.1.2.1
def pa : D.den → (Int) → A.den := fun (((p, (most, (_, (pending, (over, bad))))), (b, _)), _) y1 => (((p, (most, ((), (pending, (over, bad))))), (b, ())), y1)
def con : Con := tcon D A pa F
theorem vc (p : Int) (most : Int) (pending : Bool) (over : Bool) (bad : Bool) (b : List UInt8) (qa : A.den → Prop) (qb : con.B.den → Prop) : con.run Try.prog bk_line_Reader_Line 9 [] 31 (fun _ => true) (((p, (most, ((), (pending, (over, bad))))), (b, ())), ()) qa qb = (t over b).wp (fun y => qa (pa (((p, (most, ((), (pending, (over, bad))))), (b, ())), ()) y)) := by kernel_rfl
theorem ok : ConOk Try.prog 31 con := tcon_ok Base.mixed Base.prog_ok bk_line_Reader_Line_ok (by kernel_rfl) LapsOk.nil 9 (fun _ => rfl) (fun x => t x.1.1.2.2.2.2.1 x.1.2.1) (fun _ => rfl) fun x qa qb => vc x.1.1.1 x.1.1.2.1 x.1.1.2.2.2.1 x.1.1.2.2.2.2.1 x.1.1.2.2.2.2.2 x.1.2.1 qa qb
end line_Reader_Len
def bk_line_Reader_Len : Book := bk_line_Reader_Line.add 31 line_Reader_Len.con
theorem bk_line_Reader_Len_ok : BookOk Try.prog bk_line_Reader_Len := bk_line_Reader_Line_ok.add line_Reader_Len.ok
namespace line_Reader_Pending
def D : Dom := ⟨[.cells (.cat (.int .u32) (.cat (.int .i64) (.cat (.sl 1 1) (.cat .bool (.cat .bool .bool))))) 72 false, .vec .byte 5 false], (.ptr 0 0 0 0)⟩
def A : Dom := ⟨[.cells (.cat (.int .u32) (.cat (.int .i64) (.cat (.sl 1 1) (.cat .bool (.cat .bool .bool))))) 72 false, .vec .byte 5 false], .bool⟩
def sel : List Nat := [5]
def t (b : List UInt8) : Tr (Unit) :=
  .ok ((0 : Nat) = (0 : Nat) ∧ b.length = b.length) ⟨rfl, rfl⟩ <| .ret ()
def f (b : List UInt8) : Option (Unit) := (t b).val
def F (x : D.den) : Option (Unit) := f x.1.2.1
def pa : D.den → (Unit) → A.den := fun (((p, (most, (_, (pending, (over, bad))))), (b, _)), _) _ => (((p, (most, ((), (pending, (over, bad))))), (b, ())), pending)
def con : Con := tcon D A pa F
theorem vc (p : Int) (most : Int) (pending : Bool) (over : Bool) (bad : Bool) (b : List UInt8) (qa : A.den → Prop) (qb : con.B.den → Prop) : con.run Try.prog bk_line_Reader_Len 9 [] 32 (fun _ => true) (((p, (most, ((), (pending, (over, bad))))), (b, ())), ()) qa qb = (t b).wp (fun y => qa (pa (((p, (most, ((), (pending, (over, bad))))), (b, ())), ()) y)) := by kernel_rfl
theorem ok : ConOk Try.prog 32 con := tcon_ok Base.mixed Base.prog_ok bk_line_Reader_Len_ok (by kernel_rfl) LapsOk.nil 9 (fun _ => rfl) (fun x => t x.1.2.1) (fun _ => rfl) fun x qa qb => vc x.1.1.1 x.1.1.2.1 x.1.1.2.2.2.1 x.1.1.2.2.2.2.1 x.1.1.2.2.2.2.2 x.1.2.1 qa qb
end line_Reader_Pending
def bk_line_Reader_Pending : Book := bk_line_Reader_Len.add 32 line_Reader_Pending.con
theorem bk_line_Reader_Pending_ok : BookOk Try.prog bk_line_Reader_Pending := bk_line_Reader_Len_ok.add line_Reader_Pending.ok
namespace line_New
def D : Dom := ⟨[], (.cat (.int .u32) (.int .i64))⟩
def A : Dom := ⟨[.cells (.cat (.int .u32) (.cat (.int .i64) (.cat (.sl 1 1) (.cat .bool (.cat .bool .bool))))) 72 false, .vec .byte 5 false], (.ptr 0 0 0 0)⟩
def sel : List Nat := [1]
def t (most : Int) : Tr (Int × Bool × Bool × Bool × List UInt8) :=
  .ret (mn2 (mx2 most (0 : Int)) (4096 : Int), false, false, false, [])
def f (most : Int) : Option (Int × Bool × Bool × Bool × List UInt8) := (t most).val
def F (x : D.den) : Option (Int × Bool × Bool × Bool × List UInt8) := f x.2.2
def pa : D.den → (Int × Bool × Bool × Bool × List UInt8) → A.den := fun (_, (p, _)) (y1, y2, y3, y4, y5) => (((p, (y1, ((), (y2, (y3, y4))))), (y5, ())), ())
def con : Con := tcon D A pa F
theorem vc (p : Int) (most : Int) (qa : A.den → Prop) (qb : con.B.den → Prop) : con.run Try.prog bk_line_Reader_Pending 9 [] 26 (fun _ => true) ((), (p, most)) qa qb = (t most).wp (fun y => qa (pa ((), (p, most)) y)) := by kernel_rfl
theorem ok : ConOk Try.prog 26 con := tcon_ok Base.mixed Base.prog_ok bk_line_Reader_Pending_ok (by kernel_rfl) LapsOk.nil 9 (fun _ => rfl) (fun x => t x.2.2) (fun _ => rfl) fun x qa qb => vc x.2.1 x.2.2 qa qb
end line_New
def bk_line_New : Book := bk_line_Reader_Pending.add 26 line_New.con
theorem bk_line_New_ok : BookOk Try.prog bk_line_New := bk_line_Reader_Pending_ok.add line_New.ok
namespace ref6_New
def D : Dom := ⟨[], (.cat (.int .u32) (.int .i64))⟩
def A : Dom := ⟨[.cells (.cat (.int .u32) (.cat (.int .i64) (.cat (.sl 1 1) (.cat .bool (.cat .str (.cat .bool .bool)))))) 58 false, .vec .byte 5 false], (.ptr 0 0 0 0)⟩
def sel : List Nat := [1]
def t (most : Int) : Tr (Int × Bool × List UInt8 × Bool × Bool × List UInt8) :=
  .ret (mn2 (mx2 most (0 : Int)) (4096 : Int), false, [], false, false, [])
def f (most : Int) : Option (Int × Bool × List UInt8 × Bool × Bool × List UInt8) := (t most).val
def F (x : D.den) : Option (Int × Bool × List UInt8 × Bool × Bool × List UInt8) := f x.2.2
def pa : D.den → (Int × Bool × List UInt8 × Bool × Bool × List UInt8) → A.den := fun (_, (p, _)) (y1, y2, y3, y4, y5, y6) => (((p, (y1, ((), (y2, (y3, (y4, y5)))))), (y6, ())), ())
def con : Con := tcon D A pa F
theorem vc (p : Int) (most : Int) (qa : A.den → Prop) (qb : con.B.den → Prop) : con.run Try.prog bk_line_New 9 [] 27 (fun _ => true) ((), (p, most)) qa qb = (t most).wp (fun y => qa (pa ((), (p, most)) y)) := by kernel_rfl
theorem ok : ConOk Try.prog 27 con := tcon_ok Base.mixed Base.prog_ok bk_line_New_ok (by kernel_rfl) LapsOk.nil 9 (fun _ => rfl) (fun x => t x.2.2) (fun _ => rfl) fun x qa qb => vc x.2.1 x.2.2 qa qb
end ref6_New
def bk_ref6_New : Book := bk_line_New.add 27 ref6_New.con
theorem bk_ref6_New_ok : BookOk Try.prog bk_ref6_New := bk_line_New_ok.add ref6_New.ok
end Go.Vx
