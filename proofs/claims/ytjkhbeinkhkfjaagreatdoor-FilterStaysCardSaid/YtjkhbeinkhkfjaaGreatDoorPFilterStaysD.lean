/- Printed by a program of ours out of our texts: the evaluator, the printed functions, the plain laws. (A help: no statement of the seat is proved here.) -/
import Derived.Test.YtjkhbeinkhkfjaaGreatDoorPFilterStaysC
set_option linter.unusedVariables false
set_option linter.unusedSimpArgs false
section
set_option maxRecDepth 1000000
set_option maxHeartbeats 4000000
set_option synthInstance.maxSize 100000
set_option synthInstance.maxHeartbeats 400000
namespace Go.Vx
open Go Go.Vx Go.Proofs
namespace q0u
def D : Dom := ⟨[.vec (.pair .str .str) 87 true], (.cat (.int .u32) (.cat (.agg (.cat (.int .i64) (.cat (.int .i64) (.cat (.int .i64) (.cat (.int .i64) (.cat (.int .i64) (.cat (.int .i64) (.cat (.int .i64) (.cat (.int .i64) (.cat .bool .bool)))))))))) (.cat (.int .i64) (.sl 0 2))))⟩
def A : Dom := ⟨[.vec (.pair .str .str) 87 true], (.tup (.cat (.agg (.cat (.int .i64) (.int .i64))) (.int .i64)))⟩
abbrev Rt := Int × Int × Int
def t (l : Lf) (p:Int) (Body:Int) (Chunked:Bool) (minor:Int) : Tr Rt :=
 .chk ((0:Nat) + l.length <= l.length)<|.call (q0x.f (List.take l.length (List.drop (0:Nat) l)) p minor) fun y1 =>
 .br (y1 != (0:Int)) (.ret ((0:Int), 0, y1))
 (.chk ((0:Nat) + l.length <= l.length)<|.call (qbm.f (List.take l.length (List.drop (0:Nat) l)) [(84:UInt8), 114, 97, 110, 115, 102, 101, 114, 45, 69, 110, 99, 111, 100, 105, 110, 103]) fun y2 =>
  .chk ((0:Nat) + l.length <= l.length)<|.call (qbm.f (List.take l.length (List.drop (0:Nat) l)) [(67:UInt8), 111, 110, 116, 101, 110, 116, 45, 76, 101, 110, 103, 116, 104]) fun y3 =>
  .br (decide ((↑y2.length:Int) > (0:Int))) (.chk ((0:Nat) + y2.length <= y2.length)<|.call (q0r.f (List.take y2.length (List.drop (0:Nat) y2)) p) fun y4 =>
  .br (minor == (0:Int)) (.call (q5p.f p (20:Int)) fun y5 =>
   .br (!y5) (.ret ((0:Int), 0, (400:Int)))
   (.br y4 (.br ((↑y3.length:Int) == (0:Int)) (.br Chunked (.ret ((2:Int), 0, (0:Int)))
    (.br y4 (.br ((↑y3.length:Int) == (0:Int)) (.ret ((0:Int), 0, (501:Int)))
     (.call (q5p.f p (21:Int)) fun y6 =>
      .br y6 (.ret ((0:Int), 0, (501:Int)))
      (.br (!y4) (.call (q5p.f p (19:Int)) fun y7 =>
       .br (!y7) (.ret ((0:Int), 0, (501:Int)))
       (.br y4 (.call (q5p.f p (22:Int)) fun y8 =>
        .br (!y8) (.ret ((0:Int), 0, (400:Int)))
        (.chk ((0:Nat) + y3.length <= y3.length)<|.call (q13.f (List.take y3.length (List.drop (0:Nat) y3)) p Body) fun (y9a, y9b) =>
        .br (y9b != (0:Int)) (.ret ((0:Int), 0, y9b))
        (.ret ((1:Int), y9a, (0:Int)))))
       (.chk ((0:Nat) + y3.length <= y3.length)<|.call (q13.f (List.take y3.length (List.drop (0:Nat) y3)) p Body) fun (y10a, y10b) =>
        .br (y10b != (0:Int)) (.ret ((0:Int), 0, y10b))
        (.ret ((1:Int), y10a, (0:Int))))))
      (.br y4 (.call (q5p.f p (22:Int)) fun y11 =>
       .br (!y11) (.ret ((0:Int), 0, (400:Int)))
       (.chk ((0:Nat) + y3.length <= y3.length)<|.call (q13.f (List.take y3.length (List.drop (0:Nat) y3)) p Body) fun (y12a, y12b) =>
        .br (y12b != (0:Int)) (.ret ((0:Int), 0, y12b))
        (.ret ((1:Int), y12a, (0:Int)))))
       (.chk ((0:Nat) + y3.length <= y3.length)<|.call (q13.f (List.take y3.length (List.drop (0:Nat) y3)) p Body) fun (y13a, y13b) =>
       .br (y13b != (0:Int)) (.ret ((0:Int), 0, y13b))
       (.ret ((1:Int), y13a, (0:Int))))))))
     (.br (!y4) (.call (q5p.f p (19:Int)) fun y14 =>
      .br (!y14) (.ret ((0:Int), 0, (501:Int)))
      (.br y4 (.call (q5p.f p (22:Int)) fun y15 =>
       .br (!y15) (.ret ((0:Int), 0, (400:Int)))
       (.chk ((0:Nat) + y3.length <= y3.length)<|.call (q13.f (List.take y3.length (List.drop (0:Nat) y3)) p Body) fun (y16a, y16b) =>
       .br (y16b != (0:Int)) (.ret ((0:Int), 0, y16b))
       (.ret ((1:Int), y16a, (0:Int)))))
      (.chk ((0:Nat) + y3.length <= y3.length)<|.call (q13.f (List.take y3.length (List.drop (0:Nat) y3)) p Body) fun (y17a, y17b) =>
       .br (y17b != (0:Int)) (.ret ((0:Int), 0, y17b))
       (.ret ((1:Int), y17a, (0:Int))))))
     (.br y4 (.call (q5p.f p (22:Int)) fun y18 =>
      .br (!y18) (.ret ((0:Int), 0, (400:Int)))
      (.chk ((0:Nat) + y3.length <= y3.length)<|.call (q13.f (List.take y3.length (List.drop (0:Nat) y3)) p Body) fun (y19a, y19b) =>
       .br (y19b != (0:Int)) (.ret ((0:Int), 0, y19b))
       (.ret ((1:Int), y19a, (0:Int)))))
      (.chk ((0:Nat) + y3.length <= y3.length)<|.call (q13.f (List.take y3.length (List.drop (0:Nat) y3)) p Body) fun (y20a, y20b) =>
      .br (y20b != (0:Int)) (.ret ((0:Int), 0, y20b))
      (.ret ((1:Int), y20a, (0:Int))))))))
    (.call (q5p.f p (21:Int)) fun y21 =>
    .br y21 (.br Chunked (.ret ((2:Int), 0, (0:Int)))
     (.br y4 (.br ((↑y3.length:Int) == (0:Int)) (.ret ((0:Int), 0, (501:Int)))
      (.call (q5p.f p (21:Int)) fun y22 =>
      .br y22 (.ret ((0:Int), 0, (501:Int)))
      (.br (!y4) (.call (q5p.f p (19:Int)) fun y23 =>
       .br (!y23) (.ret ((0:Int), 0, (501:Int)))
       (.br y4 (.call (q5p.f p (22:Int)) fun y24 =>
        .br (!y24) (.ret ((0:Int), 0, (400:Int)))
        (.chk ((0:Nat) + y3.length <= y3.length)<|.call (q13.f (List.take y3.length (List.drop (0:Nat) y3)) p Body) fun (y25a, y25b) =>
         .br (y25b != (0:Int)) (.ret ((0:Int), 0, y25b))
         (.ret ((1:Int), y25a, (0:Int)))))
        (.chk ((0:Nat) + y3.length <= y3.length)<|.call (q13.f (List.take y3.length (List.drop (0:Nat) y3)) p Body) fun (y26a, y26b) =>
        .br (y26b != (0:Int)) (.ret ((0:Int), 0, y26b))
        (.ret ((1:Int), y26a, (0:Int))))))
       (.br y4 (.call (q5p.f p (22:Int)) fun y27 =>
        .br (!y27) (.ret ((0:Int), 0, (400:Int)))
        (.chk ((0:Nat) + y3.length <= y3.length)<|.call (q13.f (List.take y3.length (List.drop (0:Nat) y3)) p Body) fun (y28a, y28b) =>
        .br (y28b != (0:Int)) (.ret ((0:Int), 0, y28b))
        (.ret ((1:Int), y28a, (0:Int)))))
       (.chk ((0:Nat) + y3.length <= y3.length)<|.call (q13.f (List.take y3.length (List.drop (0:Nat) y3)) p Body) fun (y29a, y29b) =>
        .br (y29b != (0:Int)) (.ret ((0:Int), 0, y29b))
        (.ret ((1:Int), y29a, (0:Int))))))))
     (.br (!y4) (.call (q5p.f p (19:Int)) fun y30 =>
      .br (!y30) (.ret ((0:Int), 0, (501:Int)))
      (.br y4 (.call (q5p.f p (22:Int)) fun y31 =>
       .br (!y31) (.ret ((0:Int), 0, (400:Int)))
       (.chk ((0:Nat) + y3.length <= y3.length)<|.call (q13.f (List.take y3.length (List.drop (0:Nat) y3)) p Body) fun (y32a, y32b) =>
        .br (y32b != (0:Int)) (.ret ((0:Int), 0, y32b))
        (.ret ((1:Int), y32a, (0:Int)))))
       (.chk ((0:Nat) + y3.length <= y3.length)<|.call (q13.f (List.take y3.length (List.drop (0:Nat) y3)) p Body) fun (y33a, y33b) =>
       .br (y33b != (0:Int)) (.ret ((0:Int), 0, y33b))
       (.ret ((1:Int), y33a, (0:Int))))))
      (.br y4 (.call (q5p.f p (22:Int)) fun y34 =>
       .br (!y34) (.ret ((0:Int), 0, (400:Int)))
       (.chk ((0:Nat) + y3.length <= y3.length)<|.call (q13.f (List.take y3.length (List.drop (0:Nat) y3)) p Body) fun (y35a, y35b) =>
       .br (y35b != (0:Int)) (.ret ((0:Int), 0, y35b))
       (.ret ((1:Int), y35a, (0:Int)))))
      (.chk ((0:Nat) + y3.length <= y3.length)<|.call (q13.f (List.take y3.length (List.drop (0:Nat) y3)) p Body) fun (y36a, y36b) =>
       .br (y36b != (0:Int)) (.ret ((0:Int), 0, y36b))
       (.ret ((1:Int), y36a, (0:Int))))))))
    (.br y4 (.br ((↑y3.length:Int) == (0:Int)) (.ret ((0:Int), 0, (501:Int)))
     (.call (q5p.f p (21:Int)) fun y37 =>
      .br y37 (.ret ((0:Int), 0, (501:Int)))
      (.br (!y4) (.call (q5p.f p (19:Int)) fun y38 =>
       .br (!y38) (.ret ((0:Int), 0, (501:Int)))
       (.br y4 (.call (q5p.f p (22:Int)) fun y39 =>
        .br (!y39) (.ret ((0:Int), 0, (400:Int)))
        (.chk ((0:Nat) + y3.length <= y3.length)<|.call (q13.f (List.take y3.length (List.drop (0:Nat) y3)) p Body) fun (y40a, y40b) =>
        .br (y40b != (0:Int)) (.ret ((0:Int), 0, y40b))
        (.ret ((1:Int), y40a, (0:Int)))))
       (.chk ((0:Nat) + y3.length <= y3.length)<|.call (q13.f (List.take y3.length (List.drop (0:Nat) y3)) p Body) fun (y41a, y41b) =>
        .br (y41b != (0:Int)) (.ret ((0:Int), 0, y41b))
        (.ret ((1:Int), y41a, (0:Int))))))
      (.br y4 (.call (q5p.f p (22:Int)) fun y42 =>
       .br (!y42) (.ret ((0:Int), 0, (400:Int)))
       (.chk ((0:Nat) + y3.length <= y3.length)<|.call (q13.f (List.take y3.length (List.drop (0:Nat) y3)) p Body) fun (y43a, y43b) =>
        .br (y43b != (0:Int)) (.ret ((0:Int), 0, y43b))
        (.ret ((1:Int), y43a, (0:Int)))))
       (.chk ((0:Nat) + y3.length <= y3.length)<|.call (q13.f (List.take y3.length (List.drop (0:Nat) y3)) p Body) fun (y44a, y44b) =>
       .br (y44b != (0:Int)) (.ret ((0:Int), 0, y44b))
       (.ret ((1:Int), y44a, (0:Int))))))))
     (.br (!y4) (.call (q5p.f p (19:Int)) fun y45 =>
      .br (!y45) (.ret ((0:Int), 0, (501:Int)))
      (.br y4 (.call (q5p.f p (22:Int)) fun y46 =>
       .br (!y46) (.ret ((0:Int), 0, (400:Int)))
       (.chk ((0:Nat) + y3.length <= y3.length)<|.call (q13.f (List.take y3.length (List.drop (0:Nat) y3)) p Body) fun (y47a, y47b) =>
       .br (y47b != (0:Int)) (.ret ((0:Int), 0, y47b))
       (.ret ((1:Int), y47a, (0:Int)))))
      (.chk ((0:Nat) + y3.length <= y3.length)<|.call (q13.f (List.take y3.length (List.drop (0:Nat) y3)) p Body) fun (y48a, y48b) =>
       .br (y48b != (0:Int)) (.ret ((0:Int), 0, y48b))
       (.ret ((1:Int), y48a, (0:Int))))))
     (.br y4 (.call (q5p.f p (22:Int)) fun y49 =>
      .br (!y49) (.ret ((0:Int), 0, (400:Int)))
      (.chk ((0:Nat) + y3.length <= y3.length)<|.call (q13.f (List.take y3.length (List.drop (0:Nat) y3)) p Body) fun (y50a, y50b) =>
       .br (y50b != (0:Int)) (.ret ((0:Int), 0, y50b))
       (.ret ((1:Int), y50a, (0:Int)))))
      (.chk ((0:Nat) + y3.length <= y3.length)<|.call (q13.f (List.take y3.length (List.drop (0:Nat) y3)) p Body) fun (y51a, y51b) =>
      .br (y51b != (0:Int)) (.ret ((0:Int), 0, y51b))
      (.ret ((1:Int), y51a, (0:Int)))))))))
   (.br y4 (.br ((↑y3.length:Int) == (0:Int)) (.ret ((0:Int), 0, (501:Int)))
    (.call (q5p.f p (21:Int)) fun y52 =>
     .br y52 (.ret ((0:Int), 0, (501:Int)))
     (.br (!y4) (.call (q5p.f p (19:Int)) fun y53 =>
      .br (!y53) (.ret ((0:Int), 0, (501:Int)))
      (.br y4 (.call (q5p.f p (22:Int)) fun y54 =>
       .br (!y54) (.ret ((0:Int), 0, (400:Int)))
       (.chk ((0:Nat) + y3.length <= y3.length)<|.call (q13.f (List.take y3.length (List.drop (0:Nat) y3)) p Body) fun (y55a, y55b) =>
       .br (y55b != (0:Int)) (.ret ((0:Int), 0, y55b))
       (.ret ((1:Int), y55a, (0:Int)))))
      (.chk ((0:Nat) + y3.length <= y3.length)<|.call (q13.f (List.take y3.length (List.drop (0:Nat) y3)) p Body) fun (y56a, y56b) =>
       .br (y56b != (0:Int)) (.ret ((0:Int), 0, y56b))
       (.ret ((1:Int), y56a, (0:Int))))))
     (.br y4 (.call (q5p.f p (22:Int)) fun y57 =>
      .br (!y57) (.ret ((0:Int), 0, (400:Int)))
      (.chk ((0:Nat) + y3.length <= y3.length)<|.call (q13.f (List.take y3.length (List.drop (0:Nat) y3)) p Body) fun (y58a, y58b) =>
       .br (y58b != (0:Int)) (.ret ((0:Int), 0, y58b))
       (.ret ((1:Int), y58a, (0:Int)))))
      (.chk ((0:Nat) + y3.length <= y3.length)<|.call (q13.f (List.take y3.length (List.drop (0:Nat) y3)) p Body) fun (y59a, y59b) =>
      .br (y59b != (0:Int)) (.ret ((0:Int), 0, y59b))
      (.ret ((1:Int), y59a, (0:Int))))))))
    (.br (!y4) (.call (q5p.f p (19:Int)) fun y60 =>
     .br (!y60) (.ret ((0:Int), 0, (501:Int)))
     (.br y4 (.call (q5p.f p (22:Int)) fun y61 =>
      .br (!y61) (.ret ((0:Int), 0, (400:Int)))
      (.chk ((0:Nat) + y3.length <= y3.length)<|.call (q13.f (List.take y3.length (List.drop (0:Nat) y3)) p Body) fun (y62a, y62b) =>
      .br (y62b != (0:Int)) (.ret ((0:Int), 0, y62b))
      (.ret ((1:Int), y62a, (0:Int)))))
     (.chk ((0:Nat) + y3.length <= y3.length)<|.call (q13.f (List.take y3.length (List.drop (0:Nat) y3)) p Body) fun (y63a, y63b) =>
      .br (y63b != (0:Int)) (.ret ((0:Int), 0, y63b))
      (.ret ((1:Int), y63a, (0:Int))))))
    (.br y4 (.call (q5p.f p (22:Int)) fun y64 =>
     .br (!y64) (.ret ((0:Int), 0, (400:Int)))
     (.chk ((0:Nat) + y3.length <= y3.length)<|.call (q13.f (List.take y3.length (List.drop (0:Nat) y3)) p Body) fun (y65a, y65b) =>
      .br (y65b != (0:Int)) (.ret ((0:Int), 0, y65b))
      (.ret ((1:Int), y65a, (0:Int)))))
     (.chk ((0:Nat) + y3.length <= y3.length)<|.call (q13.f (List.take y3.length (List.drop (0:Nat) y3)) p Body) fun (y66a, y66b) =>
     .br (y66b != (0:Int)) (.ret ((0:Int), 0, y66b))
     (.ret ((1:Int), y66a, (0:Int)))))))))
  (.br y4 (.br ((↑y3.length:Int) == (0:Int)) (.br Chunked (.ret ((2:Int), 0, (0:Int)))
    (.br y4 (.br ((↑y3.length:Int) == (0:Int)) (.ret ((0:Int), 0, (501:Int)))
     (.call (q5p.f p (21:Int)) fun y67 =>
     .br y67 (.ret ((0:Int), 0, (501:Int)))
     (.br (!y4) (.call (q5p.f p (19:Int)) fun y68 =>
      .br (!y68) (.ret ((0:Int), 0, (501:Int)))
      (.br y4 (.call (q5p.f p (22:Int)) fun y69 =>
       .br (!y69) (.ret ((0:Int), 0, (400:Int)))
       (.chk ((0:Nat) + y3.length <= y3.length)<|.call (q13.f (List.take y3.length (List.drop (0:Nat) y3)) p Body) fun (y70a, y70b) =>
        .br (y70b != (0:Int)) (.ret ((0:Int), 0, y70b))
        (.ret ((1:Int), y70a, (0:Int)))))
       (.chk ((0:Nat) + y3.length <= y3.length)<|.call (q13.f (List.take y3.length (List.drop (0:Nat) y3)) p Body) fun (y71a, y71b) =>
       .br (y71b != (0:Int)) (.ret ((0:Int), 0, y71b))
       (.ret ((1:Int), y71a, (0:Int))))))
      (.br y4 (.call (q5p.f p (22:Int)) fun y72 =>
       .br (!y72) (.ret ((0:Int), 0, (400:Int)))
       (.chk ((0:Nat) + y3.length <= y3.length)<|.call (q13.f (List.take y3.length (List.drop (0:Nat) y3)) p Body) fun (y73a, y73b) =>
       .br (y73b != (0:Int)) (.ret ((0:Int), 0, y73b))
       (.ret ((1:Int), y73a, (0:Int)))))
      (.chk ((0:Nat) + y3.length <= y3.length)<|.call (q13.f (List.take y3.length (List.drop (0:Nat) y3)) p Body) fun (y74a, y74b) =>
       .br (y74b != (0:Int)) (.ret ((0:Int), 0, y74b))
       (.ret ((1:Int), y74a, (0:Int))))))))
    (.br (!y4) (.call (q5p.f p (19:Int)) fun y75 =>
     .br (!y75) (.ret ((0:Int), 0, (501:Int)))
     (.br y4 (.call (q5p.f p (22:Int)) fun y76 =>
      .br (!y76) (.ret ((0:Int), 0, (400:Int)))
      (.chk ((0:Nat) + y3.length <= y3.length)<|.call (q13.f (List.take y3.length (List.drop (0:Nat) y3)) p Body) fun (y77a, y77b) =>
       .br (y77b != (0:Int)) (.ret ((0:Int), 0, y77b))
       (.ret ((1:Int), y77a, (0:Int)))))
      (.chk ((0:Nat) + y3.length <= y3.length)<|.call (q13.f (List.take y3.length (List.drop (0:Nat) y3)) p Body) fun (y78a, y78b) =>
      .br (y78b != (0:Int)) (.ret ((0:Int), 0, y78b))
      (.ret ((1:Int), y78a, (0:Int))))))
     (.br y4 (.call (q5p.f p (22:Int)) fun y79 =>
      .br (!y79) (.ret ((0:Int), 0, (400:Int)))
      (.chk ((0:Nat) + y3.length <= y3.length)<|.call (q13.f (List.take y3.length (List.drop (0:Nat) y3)) p Body) fun (y80a, y80b) =>
      .br (y80b != (0:Int)) (.ret ((0:Int), 0, y80b))
      (.ret ((1:Int), y80a, (0:Int)))))
     (.chk ((0:Nat) + y3.length <= y3.length)<|.call (q13.f (List.take y3.length (List.drop (0:Nat) y3)) p Body) fun (y81a, y81b) =>
      .br (y81b != (0:Int)) (.ret ((0:Int), 0, y81b))
      (.ret ((1:Int), y81a, (0:Int))))))))
   (.call (q5p.f p (21:Int)) fun y82 =>
    .br y82 (.br Chunked (.ret ((2:Int), 0, (0:Int)))
    (.br y4 (.br ((↑y3.length:Int) == (0:Int)) (.ret ((0:Int), 0, (501:Int)))
     (.call (q5p.f p (21:Int)) fun y83 =>
      .br y83 (.ret ((0:Int), 0, (501:Int)))
      (.br (!y4) (.call (q5p.f p (19:Int)) fun y84 =>
       .br (!y84) (.ret ((0:Int), 0, (501:Int)))
       (.br y4 (.call (q5p.f p (22:Int)) fun y85 =>
        .br (!y85) (.ret ((0:Int), 0, (400:Int)))
        (.chk ((0:Nat) + y3.length <= y3.length)<|.call (q13.f (List.take y3.length (List.drop (0:Nat) y3)) p Body) fun (y86a, y86b) =>
        .br (y86b != (0:Int)) (.ret ((0:Int), 0, y86b))
        (.ret ((1:Int), y86a, (0:Int)))))
       (.chk ((0:Nat) + y3.length <= y3.length)<|.call (q13.f (List.take y3.length (List.drop (0:Nat) y3)) p Body) fun (y87a, y87b) =>
        .br (y87b != (0:Int)) (.ret ((0:Int), 0, y87b))
        (.ret ((1:Int), y87a, (0:Int))))))
      (.br y4 (.call (q5p.f p (22:Int)) fun y88 =>
       .br (!y88) (.ret ((0:Int), 0, (400:Int)))
       (.chk ((0:Nat) + y3.length <= y3.length)<|.call (q13.f (List.take y3.length (List.drop (0:Nat) y3)) p Body) fun (y89a, y89b) =>
        .br (y89b != (0:Int)) (.ret ((0:Int), 0, y89b))
        (.ret ((1:Int), y89a, (0:Int)))))
       (.chk ((0:Nat) + y3.length <= y3.length)<|.call (q13.f (List.take y3.length (List.drop (0:Nat) y3)) p Body) fun (y90a, y90b) =>
       .br (y90b != (0:Int)) (.ret ((0:Int), 0, y90b))
       (.ret ((1:Int), y90a, (0:Int))))))))
     (.br (!y4) (.call (q5p.f p (19:Int)) fun y91 =>
      .br (!y91) (.ret ((0:Int), 0, (501:Int)))
      (.br y4 (.call (q5p.f p (22:Int)) fun y92 =>
       .br (!y92) (.ret ((0:Int), 0, (400:Int)))
       (.chk ((0:Nat) + y3.length <= y3.length)<|.call (q13.f (List.take y3.length (List.drop (0:Nat) y3)) p Body) fun (y93a, y93b) =>
       .br (y93b != (0:Int)) (.ret ((0:Int), 0, y93b))
       (.ret ((1:Int), y93a, (0:Int)))))
      (.chk ((0:Nat) + y3.length <= y3.length)<|.call (q13.f (List.take y3.length (List.drop (0:Nat) y3)) p Body) fun (y94a, y94b) =>
       .br (y94b != (0:Int)) (.ret ((0:Int), 0, y94b))
       (.ret ((1:Int), y94a, (0:Int))))))
     (.br y4 (.call (q5p.f p (22:Int)) fun y95 =>
      .br (!y95) (.ret ((0:Int), 0, (400:Int)))
      (.chk ((0:Nat) + y3.length <= y3.length)<|.call (q13.f (List.take y3.length (List.drop (0:Nat) y3)) p Body) fun (y96a, y96b) =>
       .br (y96b != (0:Int)) (.ret ((0:Int), 0, y96b))
       (.ret ((1:Int), y96a, (0:Int)))))
      (.chk ((0:Nat) + y3.length <= y3.length)<|.call (q13.f (List.take y3.length (List.drop (0:Nat) y3)) p Body) fun (y97a, y97b) =>
      .br (y97b != (0:Int)) (.ret ((0:Int), 0, y97b))
      (.ret ((1:Int), y97a, (0:Int))))))))
    (.br y4 (.br ((↑y3.length:Int) == (0:Int)) (.ret ((0:Int), 0, (501:Int)))
     (.call (q5p.f p (21:Int)) fun y98 =>
     .br y98 (.ret ((0:Int), 0, (501:Int)))
     (.br (!y4) (.call (q5p.f p (19:Int)) fun y99 =>
      .br (!y99) (.ret ((0:Int), 0, (501:Int)))
      (.br y4 (.call (q5p.f p (22:Int)) fun y100 =>
       .br (!y100) (.ret ((0:Int), 0, (400:Int)))
       (.chk ((0:Nat) + y3.length <= y3.length)<|.call (q13.f (List.take y3.length (List.drop (0:Nat) y3)) p Body) fun (y101a, y101b) =>
        .br (y101b != (0:Int)) (.ret ((0:Int), 0, y101b))
        (.ret ((1:Int), y101a, (0:Int)))))
       (.chk ((0:Nat) + y3.length <= y3.length)<|.call (q13.f (List.take y3.length (List.drop (0:Nat) y3)) p Body) fun (y102a, y102b) =>
       .br (y102b != (0:Int)) (.ret ((0:Int), 0, y102b))
       (.ret ((1:Int), y102a, (0:Int))))))
      (.br y4 (.call (q5p.f p (22:Int)) fun y103 =>
       .br (!y103) (.ret ((0:Int), 0, (400:Int)))
       (.chk ((0:Nat) + y3.length <= y3.length)<|.call (q13.f (List.take y3.length (List.drop (0:Nat) y3)) p Body) fun (y104a, y104b) =>
       .br (y104b != (0:Int)) (.ret ((0:Int), 0, y104b))
       (.ret ((1:Int), y104a, (0:Int)))))
      (.chk ((0:Nat) + y3.length <= y3.length)<|.call (q13.f (List.take y3.length (List.drop (0:Nat) y3)) p Body) fun (y105a, y105b) =>
       .br (y105b != (0:Int)) (.ret ((0:Int), 0, y105b))
       (.ret ((1:Int), y105a, (0:Int))))))))
    (.br (!y4) (.call (q5p.f p (19:Int)) fun y106 =>
     .br (!y106) (.ret ((0:Int), 0, (501:Int)))
     (.br y4 (.call (q5p.f p (22:Int)) fun y107 =>
      .br (!y107) (.ret ((0:Int), 0, (400:Int)))
      (.chk ((0:Nat) + y3.length <= y3.length)<|.call (q13.f (List.take y3.length (List.drop (0:Nat) y3)) p Body) fun (y108a, y108b) =>
       .br (y108b != (0:Int)) (.ret ((0:Int), 0, y108b))
       (.ret ((1:Int), y108a, (0:Int)))))
      (.chk ((0:Nat) + y3.length <= y3.length)<|.call (q13.f (List.take y3.length (List.drop (0:Nat) y3)) p Body) fun (y109a, y109b) =>
      .br (y109b != (0:Int)) (.ret ((0:Int), 0, y109b))
      (.ret ((1:Int), y109a, (0:Int))))))
     (.br y4 (.call (q5p.f p (22:Int)) fun y110 =>
      .br (!y110) (.ret ((0:Int), 0, (400:Int)))
      (.chk ((0:Nat) + y3.length <= y3.length)<|.call (q13.f (List.take y3.length (List.drop (0:Nat) y3)) p Body) fun (y111a, y111b) =>
      .br (y111b != (0:Int)) (.ret ((0:Int), 0, y111b))
      (.ret ((1:Int), y111a, (0:Int)))))
     (.chk ((0:Nat) + y3.length <= y3.length)<|.call (q13.f (List.take y3.length (List.drop (0:Nat) y3)) p Body) fun (y112a, y112b) =>
      .br (y112b != (0:Int)) (.ret ((0:Int), 0, y112b))
      (.ret ((1:Int), y112a, (0:Int)))))))))
   (.br y4 (.br ((↑y3.length:Int) == (0:Int)) (.ret ((0:Int), 0, (501:Int)))
    (.call (q5p.f p (21:Int)) fun y113 =>
    .br y113 (.ret ((0:Int), 0, (501:Int)))
    (.br (!y4) (.call (q5p.f p (19:Int)) fun y114 =>
     .br (!y114) (.ret ((0:Int), 0, (501:Int)))
     (.br y4 (.call (q5p.f p (22:Int)) fun y115 =>
      .br (!y115) (.ret ((0:Int), 0, (400:Int)))
      (.chk ((0:Nat) + y3.length <= y3.length)<|.call (q13.f (List.take y3.length (List.drop (0:Nat) y3)) p Body) fun (y116a, y116b) =>
       .br (y116b != (0:Int)) (.ret ((0:Int), 0, y116b))
       (.ret ((1:Int), y116a, (0:Int)))))
      (.chk ((0:Nat) + y3.length <= y3.length)<|.call (q13.f (List.take y3.length (List.drop (0:Nat) y3)) p Body) fun (y117a, y117b) =>
      .br (y117b != (0:Int)) (.ret ((0:Int), 0, y117b))
      (.ret ((1:Int), y117a, (0:Int))))))
     (.br y4 (.call (q5p.f p (22:Int)) fun y118 =>
      .br (!y118) (.ret ((0:Int), 0, (400:Int)))
      (.chk ((0:Nat) + y3.length <= y3.length)<|.call (q13.f (List.take y3.length (List.drop (0:Nat) y3)) p Body) fun (y119a, y119b) =>
      .br (y119b != (0:Int)) (.ret ((0:Int), 0, y119b))
      (.ret ((1:Int), y119a, (0:Int)))))
     (.chk ((0:Nat) + y3.length <= y3.length)<|.call (q13.f (List.take y3.length (List.drop (0:Nat) y3)) p Body) fun (y120a, y120b) =>
      .br (y120b != (0:Int)) (.ret ((0:Int), 0, y120b))
      (.ret ((1:Int), y120a, (0:Int))))))))
   (.br (!y4) (.call (q5p.f p (19:Int)) fun y121 =>
    .br (!y121) (.ret ((0:Int), 0, (501:Int)))
    (.br y4 (.call (q5p.f p (22:Int)) fun y122 =>
     .br (!y122) (.ret ((0:Int), 0, (400:Int)))
     (.chk ((0:Nat) + y3.length <= y3.length)<|.call (q13.f (List.take y3.length (List.drop (0:Nat) y3)) p Body) fun (y123a, y123b) =>
      .br (y123b != (0:Int)) (.ret ((0:Int), 0, y123b))
      (.ret ((1:Int), y123a, (0:Int)))))
     (.chk ((0:Nat) + y3.length <= y3.length)<|.call (q13.f (List.take y3.length (List.drop (0:Nat) y3)) p Body) fun (y124a, y124b) =>
     .br (y124b != (0:Int)) (.ret ((0:Int), 0, y124b))
     (.ret ((1:Int), y124a, (0:Int))))))
    (.br y4 (.call (q5p.f p (22:Int)) fun y125 =>
     .br (!y125) (.ret ((0:Int), 0, (400:Int)))
     (.chk ((0:Nat) + y3.length <= y3.length)<|.call (q13.f (List.take y3.length (List.drop (0:Nat) y3)) p Body) fun (y126a, y126b) =>
     .br (y126b != (0:Int)) (.ret ((0:Int), 0, y126b))
     (.ret ((1:Int), y126a, (0:Int)))))
    (.chk ((0:Nat) + y3.length <= y3.length)<|.call (q13.f (List.take y3.length (List.drop (0:Nat) y3)) p Body) fun (y127a, y127b) =>
     .br (y127b != (0:Int)) (.ret ((0:Int), 0, y127b))
     (.ret ((1:Int), y127a, (0:Int)))))))))
  (.chk ((0:Nat) + y3.length <= y3.length)<|.call (q13.f (List.take y3.length (List.drop (0:Nat) y3)) p Body) fun (y128a, y128b) =>
  .br (y128b != (0:Int)) (.ret ((0:Int), 0, y128b))
  (.ret ((1:Int), y128a, (0:Int)))))
def f (l : Lf) (p:Int) (Body:Int) (Chunked:Bool) (minor:Int) := (t l p Body Chunked minor).val
def G (x : D.den) := t x.1.1 x.2.1 x.2.2.1.2.2.2.1 x.2.2.1.2.2.2.2.2.2.2.2.1 x.2.2.2.1
def F (x : D.den) := (G x).val
def pa : D.den -> Rt -> A.den := fun ((l, _), (_, ((_, (_, (_, (_, (_, (_, (_, (_, (_, _))))))))), (_, _)))) (y1, y2, y3) => ((l, ()), ((y1, y2), y3))
def con : Con := tcon D A pa F
theorem ok : zgu Tryz.prog 64 con := zij Base.mixed Base.prog_ok q15 (by kernel_rfl) zht.nil 9 (fun _ => rfl) G (fun _ => rfl) fun _ _ _ => (by kernel_rfl)
end q0u
def q0v : Book := q14.add 64 q0u.con
theorem q0w : zgv Tryz.prog q0v := q15.add q0u.ok
namespace q6d
def D : Dom := ⟨[.cells .str 9 false], (.cat .str (.ptr 0 0 0 0))⟩
def A : Dom := ⟨[.cells .str 9 false], .bool⟩
def t (a1 : Ls) (s : Ls) : Tr (Bool) :=
 .call (qbv.f s a1) fun y1 =>
 .ret y1
def f (a1 : Ls) (s : Ls) := (t a1 s).val
def G (x : D.den) := t x.1.1 x.2.1
def F (x : D.den) := (G x).val
def pa : D.den -> (Bool) -> A.den := fun ((a1, _), (_, _)) y1 => ((a1, ()), y1)
def con : Con := tcon D A pa F
theorem ok : zgu Tryz.prog 106 con := zij Base.mixed Base.prog_ok q0w (by kernel_rfl) zht.nil 9 (fun _ => rfl) G (fun _ => rfl) fun _ _ _ => (by kernel_rfl)
end q6d
def q6e : Book := q0v.add 106 q6d.con
theorem q6f : zgv Tryz.prog q6e := q0w.add q6d.ok
namespace q8y
def D : Dom := ⟨[.vec .str 9 true, .cells .str 9 false], (.cat (.sl 0 1) (.func (.func 106) .nil (.ptr 1 0 0 0)))⟩
namespace L2
def D : Dom := ⟨[.vec .str 9 true, .cells .str 9 false], (.cat (.sl 0 1) (.cat (.func (.func 106) .nil (.ptr 1 0 0 0)) (.cat (.int .i64) (.int .i64))))⟩
def A : Dom := ⟨[.vec .str 9 true, .cells .str 9 false], .nil⟩
def B : Dom := ⟨[.vec .str 9 true, .cells .str 9 false], (.int .i64)⟩
def t (s : List (Ls)) (r1 : Ls) (t7:Int) (t8:Int) : Tr ((Int) ⊕ ((Unit) ⊕ (Int))) :=
 .br (decide (t8 < t7)) (.chk ((0:Int) <= t8 ∧ t8 < (↑s.length:Int))<|.chk ((0:Nat) + t8.toNat < s.length)<|.call (q6d.f r1 (s.getD ((0:Nat) + t8.toNat) [])) fun y1 =>
  .br y1 (.ret (.inr (.inr t8)))
  (.okl s.length<|.ret (.inl (IntKind.i64.wrap (t8 + (1:Int))))))
 (.ret (.inr (.inl ())))
def f (s : List (Ls)) (r1 : Ls) (t7:Int) (t8:Int) := Loop (fun z : Int => t s r1 t7 z) t8
def F (x : D.den) := f x.1.1 x.1.2.1 x.2.2.2.1 x.2.2.2.2
def pa : D.den -> (Unit) -> A.den := fun ((s, (r1, _)), (_, ((_, _), (_, _)))) _ => ((s, (r1, ())), ())
def pb : D.den -> (Int) -> B.den := fun ((s, (r1, _)), (_, ((_, _), (_, _)))) y1 => ((s, (r1, ())), y1)
def lap : Lap := zim 2 19 [0, 1, 7, 8] D (.exit 0) [] A .ret [4] B pa pb F
def pk (x : D.den) (z:Int) : D.den := ((x.1.1, (x.1.2.1, ())), ((), (((), ()), (x.2.2.2.1, z))))
def un (x : D.den) := x.2.2.2.2
def body (x : D.den) (z:Int) := t x.1.1 x.1.2.1 x.2.2.2.1 z
theorem ok : zhe Tryz.prog 2 (codeOf Tryz.prog 122) lap := zin Base.mixed Base.prog_ok q6f (by kernel_rfl) (by kernel_rfl) zht.nil 9 pk un body (fun _ _ => rfl) (fun _ _ => rfl) (fun _ _ => rfl) (fun _ _ => rfl) (fun _ => rfl) fun _ _ _ _ => (by kernel_rfl)
end L2
def A : Dom := ⟨[.vec .str 9 true, .cells .str 9 false], (.int .i64)⟩
def t (s : List (Ls)) (vf : Ls) : Tr (Int) :=
 .okl s.length<|.both (q8y.L2.f s vf (↑s.length:Int) (0:Int)) (fun _ => .ret (-1:Int))
 (fun y2 => .ret y2)
def f (s : List (Ls)) (vf : Ls) := (t s vf).val
def G (x : D.den) := t x.1.1 x.1.2.1
def F (x : D.den) := (G x).val
def pa : D.den -> (Int) -> A.den := fun ((s, (vf, _)), (_, (_, _))) y1 => ((s, (vf, ())), y1)
def con : Con := tcon D A pa F
theorem ok : zgu Tryz.prog 122 con := zij Base.mixed Base.prog_ok q6f (by kernel_rfl) (.cons L2.ok (by kernel_rfl) (.nil)) 9 (fun _ => rfl) G (fun _ => rfl) fun _ _ _ => (by kernel_rfl)
end q8y
def q8z : Book := q6e.addS 122 (fun a => zik 1 106 a) q8y.con
theorem q90 : zgv Tryz.prog q8z := q6f.addS q8y.ok
namespace q8g
def D : Dom := q8y.D
def A : Dom := ⟨[.vec .str 9 true, .cells .str 9 false], .bool⟩
def t (s : List (Ls)) (vf : Ls) : Tr (Bool) :=
 .chk ((0:Nat) + s.length <= s.length)<|.call (q8y.f (List.take s.length (List.drop (0:Nat) s)) vf) fun y1 =>
 .ret (decide (y1 ≥ (0:Int)))
def f (s : List (Ls)) (vf : Ls) := (t s vf).val
def G (x : D.den) := t x.1.1 x.1.2.1
def F (x : D.den) := (G x).val
def pa : D.den -> (Bool) -> A.den := fun ((s, (vf, _)), (_, (_, _))) y1 => ((s, (vf, ())), y1)
def con : Con := tcon D A pa F
theorem ok : zgu Tryz.prog 96 con := zij Base.mixed Base.prog_ok q90 (by kernel_rfl) zht.nil 9 (fun _ => rfl) G (fun _ => rfl) fun _ _ _ => (by kernel_rfl)
end q8g
def q8h : Book := q8z.addS 96 (fun a => zik 1 106 a) q8g.con
theorem q8i : zgv Tryz.prog q8h := q90.addS q8g.ok
namespace q6a
def D : Dom := ⟨[.vec (.pair .str .str) 87 true, .vec .byte 5 true, .vec (.pair .str .str) 87 true], (.cat (.agg (.cat .str (.cat .str (.cat (.int .i64) (.cat (.sl 0 2) (.cat .bool (.cat (.sl 1 1) (.sl 2 2)))))))) (.cat .str .str))⟩
def A : Dom := ⟨[.vec (.pair .str .str) 87 true, .vec .byte 5 true, .vec (.pair .str .str) 87 true], .bool⟩
def t (Fields : Lf) (field : Ls) (what : Ls) : Tr (Bool) :=
 .chk ((0:Nat) + Fields.length <= Fields.length)<|.call (qbm.f (List.take Fields.length (List.drop (0:Nat) Fields)) field) fun y1 =>
 .chk ((0:Nat) + y1.length <= y1.length)<|.call (qbp.f (List.take y1.length (List.drop (0:Nat) y1))) fun y2 =>
 .chk ((0:Nat) + y2.length <= y2.length)<|.call (q8g.f (List.take y2.length (List.drop (0:Nat) y2)) what) fun y3 =>
 .ret y3
def f (Fields : Lf) (field : Ls) (what : Ls) := (t Fields field what).val
def G (x : D.den) := t x.1.1 x.2.2.1 x.2.2.2
def F (x : D.den) := (G x).val
def pa : D.den -> (Bool) -> A.den := fun ((Fields, (Body, (Trailers, _))), ((_, (_, (_, (_, (_, (_, _)))))), (_, _))) y1 => ((Fields, (Body, (Trailers, ()))), y1)
def con : Con := tcon D A pa F
theorem ok : zgu Tryz.prog 78 con := zij Base.mixed Base.prog_ok q8i (by kernel_rfl) zht.nil 9 (fun _ => rfl) G (fun _ => rfl) fun _ _ _ => (by kernel_rfl)
end q6a
def q6b : Book := q8h.add 78 q6a.con
theorem q6c : zgv Tryz.prog q6b := q8i.add q6a.ok
namespace q61
def D : Dom := ⟨[.vec (.pair .str .str) 87 true, .vec .byte 5 true, .vec (.pair .str .str) 87 true], (.agg (.cat .str (.cat .str (.cat (.int .i64) (.cat (.sl 0 2) (.cat .bool (.cat (.sl 1 1) (.sl 2 2))))))))⟩
def A : Dom := q6a.A
def t (Fields : Lf) (Body : Ls) (Trailers : Lf) (Minor:Int) : Tr (Bool) :=
 .br (Minor == (1:Int)) (.chk ((0:Nat) + Fields.length <= Fields.length)<|.chk ((0:Nat) + Body.length <= Body.length)<|.chk ((0:Nat) + Trailers.length <= Trailers.length)<|.call (q6a.f (List.take Fields.length (List.drop (0:Nat) Fields)) [(69:UInt8), 120, 112, 101, 99, 116] [(49:UInt8), 48, 48, 45, 99, 111, 110, 116, 105, 110, 117, 101]) fun y1 =>
  .ret y1)
 (.ret false)
def f (Fields : Lf) (Body : Ls) (Trailers : Lf) (Minor:Int) := (t Fields Body Trailers Minor).val
def G (x : D.den) := t x.1.1 x.1.2.1 x.1.2.2.1 x.2.2.2.1
def F (x : D.den) := (G x).val
def pa : D.den -> (Bool) -> A.den := fun ((Fields, (Body, (Trailers, _))), (_, (_, (_, (_, (_, (_, _))))))) y1 => ((Fields, (Body, (Trailers, ()))), y1)
def con : Con := tcon D A pa F
theorem ok : zgu Tryz.prog 65 con := zij Base.mixed Base.prog_ok q6c (by kernel_rfl) zht.nil 9 (fun _ => rfl) G (fun _ => rfl) fun _ _ _ => (by kernel_rfl)
end q61
def q62 : Book := q6b.add 65 q61.con
theorem q63 : zgv Tryz.prog q62 := q6c.add q61.ok
namespace q4v
def D : Dom := ⟨[.cells (.cat (.ptr 1 0 0 0) (.cat .str (.cat .str (.cat (.int .i64) (.cat (.sl 3 2) (.cat .bool (.cat (.sl 4 1) (.cat (.sl 5 2) (.cat (.int .i64) (.cat (.int .i64) (.cat (.int .i64) (.cat (.int .i64) (.cat .bool (.cat .bool (.cat (.int .u32) (.cat (.int .i64) (.cat (.int .i64) (.cat (.int .i64) (.cat (.int .i64) (.cat (.int .i64) (.cat (.int .i64) (.cat (.int .i64) (.cat (.int .i64) (.cat .bool (.cat .bool (.cat (.int .i64) (.sl 6 7))))))))))))))))))))))))))) 54 false, .cells (.cat (.int .u32) (.cat (.int .i64) (.cat (.sl 2 1) (.cat .bool (.cat .bool .bool))))) 77 false, .vec .byte 5 false, .vec (.pair .str .str) 87 false, .vec .byte 5 false, .vec (.pair .str .str) 87 false, .vec (.pair .str (.pair .str (.pair (.int .i64) (.pair (.sl (.pair .str .str)) (.pair .bool (.pair (.sl .byte) (.sl (.pair .str .str)))))))) 50 false], (.ptr 0 0 0 0)⟩
def A : Dom := ⟨[.cells (.cat (.ptr 7 0 0 0) (.cat .str (.cat .str (.cat (.int .i64) (.cat (.sl 9 2) (.cat .bool (.cat (.sl 10 1) (.cat (.sl 11 2) (.cat (.int .i64) (.cat (.int .i64) (.cat (.int .i64) (.cat (.int .i64) (.cat .bool (.cat .bool (.cat (.int .u32) (.cat (.int .i64) (.cat (.int .i64) (.cat (.int .i64) (.cat (.int .i64) (.cat (.int .i64) (.cat (.int .i64) (.cat (.int .i64) (.cat (.int .i64) (.cat .bool (.cat .bool (.cat (.int .i64) (.sl 12 7))))))))))))))))))))))))))) 54 false, .dead, .dead, .dead, .dead, .dead, .dead, .cells (.cat (.int .u32) (.cat (.int .i64) (.cat (.sl 8 1) (.cat .bool (.cat .bool .bool))))) 77 false, .vec .byte 5 false, .vec (.pair .str .str) 87 false, .vec .byte 5 false, .vec (.pair .str .str) 87 false, .vec (.pair .str (.pair .str (.pair (.int .i64) (.pair (.sl (.pair .str .str)) (.pair .bool (.pair (.sl .byte) (.sl (.pair .str .str)))))))) 50 false], (.tup .nil)⟩
abbrev Rt := Ls × Ls × Int × Bool × Int × Int × Int × Int × Bool × Bool × Int × Int × Int × Bool × Bool × Bool × Ls × (Lf) × Ls × (Lf) × (List (Ls × Ls × Int × Lf × Bool × Ls × Lf))
def t (Method : Ls) (Target : Ls) (Minor:Int) (Chunked:Bool) (stage:Int) (lines:Int) (head:Int) (need:Int) (begun:Bool) (waits:Bool) (p:Int) (Line:Int) (Body:Int) (Chunked_2:Bool) (err:Int) (p_2:Int) (most:Int) (pending:Bool) (over:Bool) (bad:Bool) (b : Ls) (Fields_2 : Lf) (Body_2 : Ls) (Trailers_2 : Lf) (out : List (Ls × Ls × Int × Lf × Bool × Ls × Lf)) : Tr Rt :=
 .twice<|.chk ((0:Nat) + Fields_2.length <= Fields_2.length)<|.call (q0u.f (List.take Fields_2.length (List.drop (0:Nat) Fields_2)) p Body Chunked_2 Minor) fun (y1a, y1b, y1c) =>
 .br (y1c != (0:Int)) (.okl b.length<|.okl Fields_2.length<|.okl Body_2.length<|.okl Trailers_2.length<|.okl out.length<|.call (q4s.f b Fields_2 Body_2 Trailers_2 out) fun _ =>
  .okl b.length<|.okl Fields_2.length<|.okl Body_2.length<|.okl Trailers_2.length<|.okl out.length<|.ret (Method, Target, Minor, Chunked, stage, lines, head, need, begun, waits, y1c, p_2, most, pending, over, bad, b, Fields_2, Body_2, Trailers_2, out))
 (.br (y1a == (2:Int)) (.okl b.length<|.okl Fields_2.length<|.okl Body_2.length<|.okl Trailers_2.length<|.okl out.length<|.call (q5j.f Line b Fields_2 Body_2 Trailers_2 out (3:Int)) fun (y3a, y3b, y3c, y3d, y3e) =>
  .chk ((0:Nat) + Fields_2.length <= Fields_2.length)<|.chk ((0:Nat) + Body_2.length <= Body_2.length)<|.chk ((0:Nat) + Trailers_2.length <= Trailers_2.length)<|.call (q61.f (List.take Fields_2.length (List.drop (0:Nat) Fields_2)) (List.take Body_2.length (List.drop (0:Nat) Body_2)) (List.take Trailers_2.length (List.drop (0:Nat) Trailers_2)) Minor) fun y4 =>
  .okl y3e.length<|.okl Fields_2.length<|.okl Body_2.length<|.okl Trailers_2.length<|.okl out.length<|.ret (Method, Target, Minor, true, 3, lines, head, need, begun, y4, err, p, y3a, y3b, y3c, y3d, y3e, Fields_2, Body_2, Trailers_2, out))
  (.br (y1b == (0:Int)) (.okl b.length<|.okl Fields_2.length<|.okl Body_2.length<|.okl Trailers_2.length<|.okl out.length<|.call (q5m.f Method Target Minor Chunked Line b Fields_2 Body_2 Trailers_2 out) fun (y5a, y5b, y5c, y5d, y5e, y5f, y5g, y5h, y5i, y5j, y5k, y5l, y5m, y5n, y5o, y5p, y5q, y5r, y5s) =>
   .okl y5o.length<|.okl y5p.length<|.okl y5q.length<|.okl y5r.length<|.okl y5s.length<|.ret (y5a, y5b, y5c, y5d, y5e, y5f, y5g, y5h, y5i, y5j, err, p, y5k, y5l, y5m, y5n, y5o, y5p, y5q, y5r, y5s))
  (.chk ((0:Nat) + Fields_2.length <= Fields_2.length)<|.chk ((0:Nat) + Body_2.length <= Body_2.length)<|.chk ((0:Nat) + Trailers_2.length <= Trailers_2.length)<|.call (q61.f (List.take Fields_2.length (List.drop (0:Nat) Fields_2)) (List.take Body_2.length (List.drop (0:Nat) Body_2)) (List.take Trailers_2.length (List.drop (0:Nat) Trailers_2)) Minor) fun y6 =>
   .okl b.length<|.okl Fields_2.length<|.okl Body_2.length<|.okl Trailers_2.length<|.okl out.length<|.ret (Method, Target, Minor, Chunked, 2, lines, head, y1b, begun, y6, err, p_2, most, pending, over, bad, b, Fields_2, Body_2, Trailers_2, out))))
def f (Method : Ls) (Target : Ls) (Minor:Int) (Chunked:Bool) (stage:Int) (lines:Int) (head:Int) (need:Int) (begun:Bool) (waits:Bool) (p:Int) (Line:Int) (Body:Int) (Chunked_2:Bool) (err:Int) (p_2:Int) (most:Int) (pending:Bool) (over:Bool) (bad:Bool) (b : Ls) (Fields_2 : Lf) (Body_2 : Ls) (Trailers_2 : Lf) (out : List (Ls × Ls × Int × Lf × Bool × Ls × Lf)) := (t Method Target Minor Chunked stage lines head need begun waits p Line Body Chunked_2 err p_2 most pending over bad b Fields_2 Body_2 Trailers_2 out).val
def G (x : D.den) := t x.1.1.2.1 x.1.1.2.2.1 x.1.1.2.2.2.1 x.1.1.2.2.2.2.2.1 x.1.1.2.2.2.2.2.2.2.2.1 x.1.1.2.2.2.2.2.2.2.2.2.1 x.1.1.2.2.2.2.2.2.2.2.2.2.1 x.1.1.2.2.2.2.2.2.2.2.2.2.2.1 x.1.1.2.2.2.2.2.2.2.2.2.2.2.2.1 x.1.1.2.2.2.2.2.2.2.2.2.2.2.2.2.1 x.1.1.2.2.2.2.2.2.2.2.2.2.2.2.2.2.1 x.1.1.2.2.2.2.2.2.2.2.2.2.2.2.2.2.2.1 x.1.1.2.2.2.2.2.2.2.2.2.2.2.2.2.2.2.2.2.2.1 x.1.1.2.2.2.2.2.2.2.2.2.2.2.2.2.2.2.2.2.2.2.2.2.2.2.1 x.1.1.2.2.2.2.2.2.2.2.2.2.2.2.2.2.2.2.2.2.2.2.2.2.2.2.2.1 x.1.2.1.1 x.1.2.1.2.1 x.1.2.1.2.2.2.1 x.1.2.1.2.2.2.2.1 x.1.2.1.2.2.2.2.2 x.1.2.2.1 x.1.2.2.2.1 x.1.2.2.2.2.1 x.1.2.2.2.2.2.1 x.1.2.2.2.2.2.2.1
def F (x : D.den) := (G x).val
def pa : D.den -> Rt -> A.den := fun (((_, (_, (_, (_, (_, (_, (_, (_, (_, (_, (_, (_, (_, (_, (p, (Line, (Fields, (Head, (Body, (Ext, (Trailers, (Wait, (Idle, (Chunked_2, (Old, (_, _)))))))))))))))))))))))))), ((_, (_, (_, (_, (_, _))))), (_, (_, (_, (_, (_, _))))))), _) (y1, y2, y3, y4, y5, y6, y7, y8, y9, y10, y11, y12, y13, y14, y15, y16, y17, y18, y19, y20, y21) => ((((), (y1, (y2, (y3, ((), (y4, ((), ((), (y5, (y6, (y7, (y8, (y9, (y10, (p, (Line, (Fields, (Head, (Body, (Ext, (Trailers, (Wait, (Idle, (Chunked_2, (Old, (y11, ())))))))))))))))))))))))))), ((), ((), ((), ((), ((), ((), ((y12, (y13, ((), (y14, (y15, y16))))), (y17, (y18, (y19, (y20, (y21, ()))))))))))))), ())
def con : Con := tcon D A pa F
theorem ok : zgu Tryz.prog 57 con := zij Base.mixed Base.prog_ok q63 (by kernel_rfl) zht.nil 9 (fun _ => rfl) G (fun _ => rfl) fun _ _ _ => (by kernel_rfl)
end q4v
def q4w : Book := q62.add 57 q4v.con
theorem q4x : zgv Tryz.prog q4w := q63.add q4v.ok
end Go.Vx
end
section
set_option maxRecDepth 1000000
set_option maxHeartbeats 4000000
set_option synthInstance.maxSize 100000
set_option synthInstance.maxHeartbeats 400000
namespace Go.Vx
open Go Go.Vx Go.Proofs
namespace q2y
def D : Dom := ⟨[], (.cat .str (.int .i64))⟩
def A : Dom := ⟨[], (.tup (.cat (.int .i64) (.int .i64)))⟩
def t (s : Ls) (most:Int) : Tr (Int × Int) :=
 .call (q31.f s (16:Int) most (5:Int)) fun (y1a, y1b) =>
 .ret (y1a, y1b)
def f (s : Ls) (most:Int) := (t s most).val
def G (x : D.den) := t x.2.1 x.2.2
def F (x : D.den) := (G x).val
def pa : D.den -> (Int × Int) -> A.den := fun (_, (_, _)) (y1, y2) => ((), (y1, y2))
def con : Con := tcon D A pa F
theorem ok : zgu Tryz.prog 85 con := zij Base.mixed Base.prog_ok q4x (by kernel_rfl) zht.nil 9 (fun _ => rfl) G (fun _ => rfl) fun _ _ _ => (by kernel_rfl)
end q2y
def q2z : Book := q4w.add 85 q2y.con
theorem q30 : zgv Tryz.prog q2z := q4x.add q2y.ok
namespace q20
def D : Dom := ⟨[], (.cat .str (.lit (.str false [59])))⟩
def A : Dom := ⟨[], (.int .i64)⟩
def t (s : Ls) : Tr (Int) :=
 .br ([(59:UInt8)] == s) (.ret (0:Int))
 (.call (q97.f s (59:Int)) fun y1 =>
  .ret y1)
def f (s : Ls) := (t s).val
def G (x : D.den) := t x.2.1
def F (x : D.den) := (G x).val
def pa : D.den -> (Int) -> A.den := fun (_, (_, _)) y1 => ((), y1)
def con : Con := tcon D A pa F
theorem ok : zgu Tryz.prog 127 con := zij Base.mixed Base.prog_ok q30 (by kernel_rfl) zht.nil 9 (fun _ => rfl) G (fun _ => rfl) fun _ _ _ => (by kernel_rfl)
end q20
def q21 : Book := q2z.addS 127 (fun a => ziq 1 [59] a) q20.con
theorem q22 : zgv Tryz.prog q21 := q30.addS q20.ok
namespace q19
def D : Dom := ⟨[], (.cat .str (.lit (.str false [59])))⟩
def A : Dom := ⟨[], (.tup (.cat .str (.cat .str .bool)))⟩
abbrev Rt := Ls × Ls × Bool
def t (s : Ls) : Tr Rt :=
 .call (q20.f s) fun y1 =>
 .br (decide (y1 ≥ (0:Int))) (.chk ((0:Int) <= (0:Int) ∧ (0:Int) <= y1 ∧ y1 <= (↑s.length:Int))<|.chk ((0:Int) <= IntKind.i64.wrap (y1 + (1:Int)) ∧ IntKind.i64.wrap (y1 + (1:Int)) <= (↑s.length:Int) ∧ (↑s.length:Int) <= (↑s.length:Int))<|.ret (List.drop (↑(0:Nat):Int).toNat (List.take y1.toNat s), List.drop (IntKind.i64.wrap (y1 + (1:Int))).toNat (List.take (↑s.length:Int).toNat s), true))
 (.ret (s, [], false))
def f (s : Ls) := (t s).val
def G (x : D.den) := t x.2.1
def F (x : D.den) := (G x).val
def pa : D.den -> Rt -> A.den := fun (_, (_, _)) (y1, y2, y3) => ((), (y1, (y2, y3)))
def con : Con := tcon D A pa F
theorem ok : zgu Tryz.prog 108 con := zij Base.mixed Base.prog_ok q22 (by kernel_rfl) zht.nil 9 (fun _ => rfl) G (fun _ => rfl) fun _ _ _ => (by kernel_rfl)
end q19
def q1a : Book := q21.addS 108 (fun a => ziq 1 [59] a) q19.con
theorem q1b : zgv Tryz.prog q1a := q22.addS q19.ok
namespace q9j
def D : Dom := ⟨[], (.cat .str (.lit (.str false [59])))⟩
def A : Dom := ⟨[], (.tup (.cat .str (.cat .str .bool)))⟩
abbrev Rt := Ls × Ls × Bool
def t (s : Ls) : Tr Rt :=
 .call (q19.f s) fun (y1a, y1b, y1c) =>
 .ret (y1a, y1b, y1c)
def f (s : Ls) := (t s).val
def G (x : D.den) := t x.2.1
def F (x : D.den) := (G x).val
def pa : D.den -> Rt -> A.den := fun (_, (_, _)) (y1, y2, y3) => ((), (y1, (y2, y3)))
def con : Con := tcon D A pa F
theorem ok : zgu Tryz.prog 81 con := zij Base.mixed Base.prog_ok q1b (by kernel_rfl) zht.nil 9 (fun _ => rfl) G (fun _ => rfl) fun _ _ _ => (by kernel_rfl)
end q9j
def q9k : Book := q1a.addS 81 (fun a => ziq 1 [59] a) q9j.con
theorem q9l : zgv Tryz.prog q9k := q1b.addS q9j.ok
namespace q1i
def D : Dom := ⟨[], (.cat .str (.lit (.str false [48, 120])))⟩
def A : Dom := ⟨[], .bool⟩
def t (s : Ls) : Tr (Bool) :=
 .br (decide ((↑s.length:Int) ≥ (2:Int))) (.chk ((0:Int) <= (0:Int) ∧ (0:Int) <= (2:Int) ∧ (2:Int) <= (↑s.length:Int))<|.ret (List.drop (↑(0:Nat):Int).toNat (List.take (Int.toNat (2:Int)) s) == [(48:UInt8), 120]))
 (.ret false)
def f (s : Ls) := (t s).val
def G (x : D.den) := t x.2.1
def F (x : D.den) := (G x).val
def pa : D.den -> (Bool) -> A.den := fun (_, (_, _)) y1 => ((), y1)
def con : Con := tcon D A pa F
theorem ok : zgu Tryz.prog 113 con := zij Base.mixed Base.prog_ok q9l (by kernel_rfl) zht.nil 9 (fun _ => rfl) G (fun _ => rfl) fun _ _ _ => (by kernel_rfl)
end q1i
def q1j : Book := q9k.addS 113 (fun a => ziq 1 [48, 120] a) q1i.con
theorem q1k : zgv Tryz.prog q1j := q9l.addS q1i.ok
namespace q9v
def D : Dom := ⟨[], (.cat .str (.lit (.str false [48, 120])))⟩
def A : Dom := ⟨[], .bool⟩
def t (s : Ls) : Tr (Bool) :=
 .call (q1i.f s) fun y1 =>
 .ret y1
def f (s : Ls) := (t s).val
def G (x : D.den) := t x.2.1
def F (x : D.den) := (G x).val
def pa : D.den -> (Bool) -> A.den := fun (_, (_, _)) y1 => ((), y1)
def con : Con := tcon D A pa F
theorem ok : zgu Tryz.prog 84 con := zij Base.mixed Base.prog_ok q1k (by kernel_rfl) zht.nil 9 (fun _ => rfl) G (fun _ => rfl) fun _ _ _ => (by kernel_rfl)
end q9v
def q9w : Book := q1j.addS 84 (fun a => ziq 1 [48, 120] a) q9v.con
theorem q9x : zgv Tryz.prog q9w := q1k.addS q9v.ok
namespace q1f
def D : Dom := ⟨[], (.cat .str (.lit (.str false [48, 88])))⟩
def A : Dom := ⟨[], .bool⟩
def t (s : Ls) : Tr (Bool) :=
 .br (decide ((↑s.length:Int) ≥ (2:Int))) (.chk ((0:Int) <= (0:Int) ∧ (0:Int) <= (2:Int) ∧ (2:Int) <= (↑s.length:Int))<|.ret (List.drop (↑(0:Nat):Int).toNat (List.take (Int.toNat (2:Int)) s) == [(48:UInt8), 88]))
 (.ret false)
def f (s : Ls) := (t s).val
def G (x : D.den) := t x.2.1
def F (x : D.den) := (G x).val
def pa : D.den -> (Bool) -> A.den := fun (_, (_, _)) y1 => ((), y1)
def con : Con := tcon D A pa F
theorem ok : zgu Tryz.prog 113 con := zij Base.mixed Base.prog_ok q9x (by kernel_rfl) zht.nil 9 (fun _ => rfl) G (fun _ => rfl) fun _ _ _ => (by kernel_rfl)
end q1f
def q1g : Book := q9w.addS 113 (fun a => ziq 1 [48, 88] a) q1f.con
theorem q1h : zgv Tryz.prog q1g := q9x.addS q1f.ok
namespace q9s
def D : Dom := ⟨[], (.cat .str (.lit (.str false [48, 88])))⟩
def A : Dom := ⟨[], .bool⟩
def t (s : Ls) : Tr (Bool) :=
 .call (q1f.f s) fun y1 =>
 .ret y1
def f (s : Ls) := (t s).val
def G (x : D.den) := t x.2.1
def F (x : D.den) := (G x).val
def pa : D.den -> (Bool) -> A.den := fun (_, (_, _)) y1 => ((), y1)
def con : Con := tcon D A pa F
theorem ok : zgu Tryz.prog 84 con := zij Base.mixed Base.prog_ok q1h (by kernel_rfl) zht.nil 9 (fun _ => rfl) G (fun _ => rfl) fun _ _ _ => (by kernel_rfl)
end q9s
def q9t : Book := q1g.addS 84 (fun a => ziq 1 [48, 88] a) q9s.con
theorem q9u : zgv Tryz.prog q9t := q1h.addS q9s.ok
namespace q06
def D : Dom := ⟨[], (.cat .str (.cat (.int .u32) (.agg (.cat (.int .i64) (.cat (.int .i64) (.cat (.int .i64) (.cat (.int .i64) (.cat (.int .i64) (.cat (.int .i64) (.cat (.int .i64) (.cat (.int .i64) (.cat .bool .bool))))))))))))⟩
def A : Dom := ⟨[], (.tup (.cat (.int .i64) (.int .i64)))⟩
def t (s : Ls) (p:Int) (Body:Int) (Ext:Int) : Tr (Int × Int) :=
 .call (q9j.f s) fun (y1a, _, _) =>
 .chk ((0:Int) <= (↑y1a.length:Int) ∧ (↑y1a.length:Int) <= (↑s.length:Int) ∧ (↑s.length:Int) <= (↑s.length:Int))<|.br (decide ((↑(List.drop (↑y1a.length:Int).toNat (List.take (↑s.length:Int).toNat s)).length:Int) > Ext)) (.ret ((0:Int), (400:Int)))
 (.call (q34.f [(6:Int)] (List.drop (↑y1a.length:Int).toNat (List.take (↑s.length:Int).toNat s))) fun y2 =>
  .br (!y2) (.ret ((0:Int), (400:Int)))
  (.call (q5p.f p (28:Int)) fun y3 =>
  .br y3 (.call (qby.f y1a) fun y4 =>
   .call (q5p.f p (27:Int)) fun y5 =>
   .br y5 (.call (q9v.f y4) fun y6 =>
   .br y6 (.chk ((0:Int) <= (2:Int) ∧ (2:Int) <= (↑y4.length:Int) ∧ (↑y4.length:Int) <= (↑y4.length:Int))<|.call (q2y.f (List.drop (Int.toNat (2:Int)) (List.take (↑y4.length:Int).toNat y4)) Body) fun (y7a, y7b) =>
    .br (y7b == (23:Int)) (.ret ((0:Int), (413:Int)))
    (.br (y7b == (22:Int)) (.ret ((0:Int), (400:Int)))
    (.ret (y7a, (0:Int)))))
   (.call (q9s.f y4) fun y8 =>
    .br y8 (.chk ((0:Int) <= (2:Int) ∧ (2:Int) <= (↑y4.length:Int) ∧ (↑y4.length:Int) <= (↑y4.length:Int))<|.call (q2y.f (List.drop (Int.toNat (2:Int)) (List.take (↑y4.length:Int).toNat y4)) Body) fun (y9a, y9b) =>
    .br (y9b == (23:Int)) (.ret ((0:Int), (413:Int)))
    (.br (y9b == (22:Int)) (.ret ((0:Int), (400:Int)))
     (.ret (y9a, (0:Int)))))
    (.call (q2y.f y4 Body) fun (y10a, y10b) =>
    .br (y10b == (23:Int)) (.ret ((0:Int), (413:Int)))
    (.br (y10b == (22:Int)) (.ret ((0:Int), (400:Int)))
     (.ret (y10a, (0:Int)))))))
   (.call (q2y.f y4 Body) fun (y11a, y11b) =>
   .br (y11b == (23:Int)) (.ret ((0:Int), (413:Int)))
   (.br (y11b == (22:Int)) (.ret ((0:Int), (400:Int)))
    (.ret (y11a, (0:Int))))))
  (.call (q5p.f p (27:Int)) fun y12 =>
   .br y12 (.call (q9v.f y1a) fun y13 =>
   .br y13 (.chk ((0:Int) <= (2:Int) ∧ (2:Int) <= (↑y1a.length:Int) ∧ (↑y1a.length:Int) <= (↑y1a.length:Int))<|.call (q2y.f (List.drop (Int.toNat (2:Int)) (List.take (↑y1a.length:Int).toNat y1a)) Body) fun (y14a, y14b) =>
    .br (y14b == (23:Int)) (.ret ((0:Int), (413:Int)))
    (.br (y14b == (22:Int)) (.ret ((0:Int), (400:Int)))
    (.ret (y14a, (0:Int)))))
   (.call (q9s.f y1a) fun y15 =>
    .br y15 (.chk ((0:Int) <= (2:Int) ∧ (2:Int) <= (↑y1a.length:Int) ∧ (↑y1a.length:Int) <= (↑y1a.length:Int))<|.call (q2y.f (List.drop (Int.toNat (2:Int)) (List.take (↑y1a.length:Int).toNat y1a)) Body) fun (y16a, y16b) =>
    .br (y16b == (23:Int)) (.ret ((0:Int), (413:Int)))
    (.br (y16b == (22:Int)) (.ret ((0:Int), (400:Int)))
     (.ret (y16a, (0:Int)))))
    (.call (q2y.f y1a Body) fun (y17a, y17b) =>
    .br (y17b == (23:Int)) (.ret ((0:Int), (413:Int)))
    (.br (y17b == (22:Int)) (.ret ((0:Int), (400:Int)))
     (.ret (y17a, (0:Int)))))))
   (.call (q2y.f y1a Body) fun (y18a, y18b) =>
   .br (y18b == (23:Int)) (.ret ((0:Int), (413:Int)))
   (.br (y18b == (22:Int)) (.ret ((0:Int), (400:Int)))
    (.ret (y18a, (0:Int))))))))
def f (s : Ls) (p:Int) (Body:Int) (Ext:Int) := (t s p Body Ext).val
def G (x : D.den) := t x.2.1 x.2.2.1 x.2.2.2.2.2.2.1 x.2.2.2.2.2.2.2.1
def F (x : D.den) := (G x).val
def pa : D.den -> (Int × Int) -> A.den := fun (_, (_, (_, (_, (_, (_, (_, (_, (_, (_, (_, (_, _)))))))))))) (y1, y2) => ((), (y1, y2))
def con : Con := tcon D A pa F
theorem ok : zgu Tryz.prog 69 con := zij Base.mixed Base.prog_ok q9u (by kernel_rfl) zht.nil 9 (fun _ => rfl) G (fun _ => rfl) fun _ _ _ => (by kernel_rfl)
end q06
def q07 : Book := q9t.add 69 q06.con
theorem q08 : zgv Tryz.prog q07 := q9u.add q06.ok
namespace q4j
def D : Dom := ⟨[.cells (.cat (.ptr 1 0 0 0) (.cat .str (.cat .str (.cat (.int .i64) (.cat (.sl 3 2) (.cat .bool (.cat (.sl 4 1) (.cat (.sl 5 2) (.cat (.int .i64) (.cat (.int .i64) (.cat (.int .i64) (.cat (.int .i64) (.cat .bool (.cat .bool (.cat (.int .u32) (.cat (.int .i64) (.cat (.int .i64) (.cat (.int .i64) (.cat (.int .i64) (.cat (.int .i64) (.cat (.int .i64) (.cat (.int .i64) (.cat (.int .i64) (.cat .bool (.cat .bool (.cat (.int .i64) (.sl 6 7))))))))))))))))))))))))))) 54 false, .cells (.cat (.int .u32) (.cat (.int .i64) (.cat (.sl 2 1) (.cat .bool (.cat .bool .bool))))) 77 false, .vec .byte 5 false, .vec (.pair .str .str) 87 false, .vec .byte 5 false, .vec (.pair .str .str) 87 false, .vec (.pair .str (.pair .str (.pair (.int .i64) (.pair (.sl (.pair .str .str)) (.pair .bool (.pair (.sl .byte) (.sl (.pair .str .str)))))))) 50 false], (.cat (.ptr 0 0 0 0) .str)⟩
def A : Dom := ⟨[.cells (.cat (.ptr 7 0 0 0) (.cat .str (.cat .str (.cat (.int .i64) (.cat (.sl 3 2) (.cat .bool (.cat (.sl 4 1) (.cat (.sl 5 2) (.cat (.int .i64) (.cat (.int .i64) (.cat (.int .i64) (.cat (.int .i64) (.cat .bool (.cat .bool (.cat (.int .u32) (.cat (.int .i64) (.cat (.int .i64) (.cat (.int .i64) (.cat (.int .i64) (.cat (.int .i64) (.cat (.int .i64) (.cat (.int .i64) (.cat (.int .i64) (.cat .bool (.cat .bool (.cat (.int .i64) (.sl 6 7))))))))))))))))))))))))))) 54 false, .dead, .dead, .vec (.pair .str .str) 87 false, .vec .byte 5 false, .vec (.pair .str .str) 87 false, .vec (.pair .str (.pair .str (.pair (.int .i64) (.pair (.sl (.pair .str .str)) (.pair .bool (.pair (.sl .byte) (.sl (.pair .str .str)))))))) 50 false, .cells (.cat (.int .u32) (.cat (.int .i64) (.cat (.sl 8 1) (.cat .bool (.cat .bool .bool))))) 77 false, .vec .byte 5 false], (.tup .nil)⟩
abbrev Rt := Int × Int × Int × Int × Int × Int × Bool × Bool × Bool × Ls
def t (stage:Int) (lines:Int) (need:Int) (p:Int) (Line:Int) (Body:Int) (Ext:Int) (err:Int) (p_2:Int) (most:Int) (pending:Bool) (over:Bool) (bad:Bool) (b : Ls) (Fields_2 : Lf) (Body_2 : Ls) (Trailers_2 : Lf) (out : List (Ls × Ls × Int × Lf × Bool × Ls × Lf)) (s : Ls) : Tr Rt :=
 .call (q06.f s p Body Ext) fun (y1a, y1b) =>
 .br (y1b != (0:Int)) (.okl b.length<|.okl Fields_2.length<|.okl Body_2.length<|.okl Trailers_2.length<|.okl out.length<|.call (q4s.f b Fields_2 Body_2 Trailers_2 out) fun _ =>
  .okl Fields_2.length<|.okl Body_2.length<|.okl Trailers_2.length<|.okl out.length<|.okl b.length<|.ret (stage, lines, need, y1b, p_2, most, pending, over, bad, b))
 (.br (decide (y1a > IntKind.i64.wrap (Body - (↑Body_2.length:Int)))) (.okl b.length<|.okl Fields_2.length<|.okl Body_2.length<|.okl Trailers_2.length<|.okl out.length<|.call (q4s.f b Fields_2 Body_2 Trailers_2 out) fun _ =>
  .okl Fields_2.length<|.okl Body_2.length<|.okl Trailers_2.length<|.okl out.length<|.okl b.length<|.ret (stage, lines, need, 413, p_2, most, pending, over, bad, b))
  (.br (y1a == (0:Int)) (.okl b.length<|.okl Fields_2.length<|.okl Body_2.length<|.okl Trailers_2.length<|.okl out.length<|.call (q5j.f Line b Fields_2 Body_2 Trailers_2 out (6:Int)) fun (y4a, y4b, y4c, y4d, y4e) =>
   .okl Fields_2.length<|.okl Body_2.length<|.okl Trailers_2.length<|.okl out.length<|.okl y4e.length<|.ret ((6:Int), 0, need, err, p, y4a, y4b, y4c, y4d, y4e))
  (.okl Fields_2.length<|.okl Body_2.length<|.okl Trailers_2.length<|.okl out.length<|.okl b.length<|.ret ((4:Int), lines, y1a, err, p_2, most, pending, over, bad, b))))
def f (stage:Int) (lines:Int) (need:Int) (p:Int) (Line:Int) (Body:Int) (Ext:Int) (err:Int) (p_2:Int) (most:Int) (pending:Bool) (over:Bool) (bad:Bool) (b : Ls) (Fields_2 : Lf) (Body_2 : Ls) (Trailers_2 : Lf) (out : List (Ls × Ls × Int × Lf × Bool × Ls × Lf)) (s : Ls) := (t stage lines need p Line Body Ext err p_2 most pending over bad b Fields_2 Body_2 Trailers_2 out s).val
def G (x : D.den) := t x.1.1.2.2.2.2.2.2.2.2.1 x.1.1.2.2.2.2.2.2.2.2.2.1 x.1.1.2.2.2.2.2.2.2.2.2.2.2.1 x.1.1.2.2.2.2.2.2.2.2.2.2.2.2.2.2.1 x.1.1.2.2.2.2.2.2.2.2.2.2.2.2.2.2.2.1 x.1.1.2.2.2.2.2.2.2.2.2.2.2.2.2.2.2.2.2.2.1 x.1.1.2.2.2.2.2.2.2.2.2.2.2.2.2.2.2.2.2.2.2.1 x.1.1.2.2.2.2.2.2.2.2.2.2.2.2.2.2.2.2.2.2.2.2.2.2.2.2.2.1 x.1.2.1.1 x.1.2.1.2.1 x.1.2.1.2.2.2.1 x.1.2.1.2.2.2.2.1 x.1.2.1.2.2.2.2.2 x.1.2.2.1 x.1.2.2.2.1 x.1.2.2.2.2.1 x.1.2.2.2.2.2.1 x.1.2.2.2.2.2.2.1 x.2.2
def F (x : D.den) := (G x).val
def pa : D.den -> Rt -> A.den := fun (((_, (Method, (Target, (Minor, (_, (Chunked, (_, (_, (_, (_, (head, (_, (begun, (waits, (p, (Line, (Fields, (Head, (Body, (Ext, (Trailers, (Wait, (Idle, (Chunked_2, (Old, (_, _)))))))))))))))))))))))))), ((_, (_, (_, (_, (_, _))))), (_, (Fields_2, (Body_2, (Trailers_2, (out, _))))))), (_, _)) (y1, y2, y3, y4, y5, y6, y7, y8, y9, y10) => ((((), (Method, (Target, (Minor, ((), (Chunked, ((), ((), (y1, (y2, (head, (y3, (begun, (waits, (p, (Line, (Fields, (Head, (Body, (Ext, (Trailers, (Wait, (Idle, (Chunked_2, (Old, (y4, ())))))))))))))))))))))))))), ((), ((), (Fields_2, (Body_2, (Trailers_2, (out, ((y5, (y6, ((), (y7, (y8, y9))))), (y10, ()))))))))), ())
def con : Con := tcon D A pa F
theorem ok : zgu Tryz.prog 59 con := zij Base.mixed Base.prog_ok q08 (by kernel_rfl) zht.nil 9 (fun _ => rfl) G (fun _ => rfl) fun _ _ _ => (by kernel_rfl)
end q4j
def q4k : Book := q07.add 59 q4j.con
theorem q4l : zgv Tryz.prog q4k := q08.add q4j.ok
namespace q09
def D : Dom := ⟨[], (.cat .str (.int .u32))⟩
def A : Dom := ⟨[], .bool⟩
def t (s : Ls) (p:Int) : Tr (Bool) :=
 .call (q5p.f p (13:Int)) fun y1 =>
 .br y1 (.br (!s == []) (.chk ((0:Int) <= (0:Int) ∧ (0:Int) < (↑s.length:Int))<|.call (q37.f (↑(s.getD (Int.toNat (0:Int)) (0:UInt8)).toNat:Int)) fun y2 =>
  .ret y2)
  (.ret false))
 (.ret false)
def f (s : Ls) (p:Int) := (t s p).val
def G (x : D.den) := t x.2.1 x.2.2
def F (x : D.den) := (G x).val
def pa : D.den -> (Bool) -> A.den := fun (_, (_, _)) y1 => ((), y1)
def con : Con := tcon D A pa F
theorem ok : zgu Tryz.prog 66 con := zij Base.mixed Base.prog_ok q4l (by kernel_rfl) zht.nil 9 (fun _ => rfl) G (fun _ => rfl) fun _ _ _ => (by kernel_rfl)
end q09
def q0a : Book := q4k.add 66 q09.con
theorem q0b : zgv Tryz.prog q0a := q4l.add q09.ok
namespace q0c
def D : Dom := ⟨[], (.cat (.agg (.cat .str .str)) .str)⟩
def A : Dom := ⟨[], (.agg (.cat .str .str))⟩
def t (Value : Ls) (s : Ls) : Tr (Ls) :=
 .call (qby.f s) fun y1 =>
 .chk ((↑([(32:UInt8)].length + y1.length):Int) <= (9223372036854775807:Int))<|.chk ((↑(Value.length + ([(32:UInt8)] ++ y1).length):Int) <= (9223372036854775807:Int))<|.ret (Value ++ ([(32:UInt8)] ++ y1))
def f (Value : Ls) (s : Ls) := (t Value s).val
def G (x : D.den) := t x.2.1.2 x.2.2
def F (x : D.den) := (G x).val
def pa : D.den -> (Ls) -> A.den := fun (_, ((Name, _), _)) y1 => ((), (Name, y1))
def con : Con := tcon D A pa F
theorem ok : zgu Tryz.prog 67 con := zij Base.mixed Base.prog_ok q0b (by kernel_rfl) zht.nil 9 (fun _ => rfl) G (fun _ => rfl) fun _ _ _ => (by kernel_rfl)
end q0c
def q0d : Book := q0a.add 67 q0c.con
theorem q0e : zgv Tryz.prog q0d := q0b.add q0c.ok
namespace q0i
def D : Dom := ⟨[], (.cat (.int .u32) (.int .i64))⟩
def A : Dom := ⟨[], (.tup (.cat (.agg (.cat .str .str)) (.cat .bool (.int .i64))))⟩
abbrev Rt := Ls × Ls × Bool × Int
def t (p:Int) (clause:Int) : Tr Rt :=
 .call (q5p.f p clause) fun y1 =>
 .br y1 (.ret ([], [], false, (0:Int)))
 (.ret ([], [], false, (400:Int)))
def f (p:Int) (clause:Int) := (t p clause).val
def G (x : D.den) := t x.2.1 x.2.2
def F (x : D.den) := (G x).val
def pa : D.den -> Rt -> A.den := fun (_, (_, _)) (y1, y2, y3, y4) => ((), ((y1, y2), (y3, y4)))
def con : Con := tcon D A pa F
theorem ok : zgu Tryz.prog 82 con := zij Base.mixed Base.prog_ok q0e (by kernel_rfl) zht.nil 9 (fun _ => rfl) G (fun _ => rfl) fun _ _ _ => (by kernel_rfl)
end q0i
def q0j : Book := q0d.add 82 q0i.con
theorem q0k : zgv Tryz.prog q0j := q0e.add q0i.ok
namespace q0f
def D : Dom := ⟨[], (.cat .str (.int .u32))⟩
def A : Dom := q0i.A
abbrev Rt := Ls × Ls × Bool × Int
def t (s : Ls) (p:Int) : Tr Rt :=
 .call (q9g.f s) fun (y1a, y1b, y1c) =>
 .br (!y1c) (.call (q0i.f p (11:Int)) fun (y2a, y2b, y2c, y2d) =>
  .ret (y2a, y2b, y2c, y2d))
 (.call (q5p.f p (9:Int)) fun y3 =>
  .br y3 (.call (qas.f y1a [(32:UInt8), 9]) fun y4 =>
  .br (y4 == []) (.call (q0i.f p (12:Int)) fun (y5a, y5b, y5c, y5d) =>
   .ret (y5a, y5b, y5c, y5d))
  (.call (qby.f y1b) fun y6 =>
   .call (q5p.f p (10:Int)) fun y7 =>
   .br (!y7) (.call (q34.f [(1:Int)] y4) fun y8 =>
   .br (!y8) (.ret ([], [], false, (400:Int)))
   (.call (q5p.f p (14:Int)) fun y9 =>
    .br (!y9) (.call (q34.f [(6:Int)] y6) fun y10 =>
    .br (!y10) (.ret ([], [], false, (400:Int)))
    (.ret (y4, y6, true, (0:Int))))
    (.ret (y4, y6, true, (0:Int)))))
   (.call (q5p.f p (14:Int)) fun y11 =>
   .br (!y11) (.call (q34.f [(6:Int)] y6) fun y12 =>
    .br (!y12) (.ret ([], [], false, (400:Int)))
    (.ret (y4, y6, true, (0:Int))))
   (.ret (y4, y6, true, (0:Int))))))
  (.br (y1a == []) (.call (q0i.f p (12:Int)) fun (y13a, y13b, y13c, y13d) =>
   .ret (y13a, y13b, y13c, y13d))
  (.call (qby.f y1b) fun y14 =>
   .call (q5p.f p (10:Int)) fun y15 =>
   .br (!y15) (.call (q34.f [(1:Int)] y1a) fun y16 =>
   .br (!y16) (.ret ([], [], false, (400:Int)))
   (.call (q5p.f p (14:Int)) fun y17 =>
    .br (!y17) (.call (q34.f [(6:Int)] y14) fun y18 =>
    .br (!y18) (.ret ([], [], false, (400:Int)))
    (.ret (y1a, y14, true, (0:Int))))
    (.ret (y1a, y14, true, (0:Int)))))
   (.call (q5p.f p (14:Int)) fun y19 =>
   .br (!y19) (.call (q34.f [(6:Int)] y14) fun y20 =>
    .br (!y20) (.ret ([], [], false, (400:Int)))
    (.ret (y1a, y14, true, (0:Int))))
   (.ret (y1a, y14, true, (0:Int)))))))
def f (s : Ls) (p:Int) := (t s p).val
def G (x : D.den) := t x.2.1 x.2.2
def F (x : D.den) := (G x).val
def pa : D.den -> Rt -> A.den := fun (_, (_, _)) (y1, y2, y3, y4) => ((), ((y1, y2), (y3, y4)))
def con : Con := tcon D A pa F
theorem ok : zgu Tryz.prog 68 con := zij Base.mixed Base.prog_ok q0k (by kernel_rfl) zht.nil 9 (fun _ => rfl) G (fun _ => rfl) fun _ _ _ => (by kernel_rfl)
end q0f
def q0g : Book := q0j.add 68 q0f.con
theorem q0h : zgv Tryz.prog q0g := q0k.add q0f.ok
namespace q4p
def D : Dom := q4v.D
def A : Dom := q4v.A
abbrev Rt := Ls × Ls × Int × Bool × Int × Int × Int × Int × Bool × Bool × Int × Int × Int × Bool × Bool × Bool × Ls × (Lf) × Ls × (Lf) × (List (Ls × Ls × Int × Lf × Bool × Ls × Lf))
def t (Method : Ls) (Target : Ls) (Minor:Int) (Chunked:Bool) (stage:Int) (lines:Int) (head:Int) (need:Int) (begun:Bool) (waits:Bool) (p:Int) (Line:Int) (Fields:Int) (Body:Int) (Ext:Int) (Trailers:Int) (Chunked_2:Bool) (Old:Bool) (err:Int) (p_2:Int) (most:Int) (pending:Bool) (over:Bool) (bad:Bool) (b : Ls) (Fields_2 : Lf) (Body_2 : Ls) (Trailers_2 : Lf) (out : List (Ls × Ls × Int × Lf × Bool × Ls × Lf)) : Tr Rt :=
 .okl b.length<|.call (q2m.f over bad b) fun y1 =>
 .br (stage == (0:Int)) (.okl b.length<|.okl Fields_2.length<|.okl Body_2.length<|.okl Trailers_2.length<|.okl out.length<|.call (q57.f Method Target Minor stage begun p Old err b Fields_2 Body_2 Trailers_2 out y1) fun (y2a, y2b, y2c, y2d, y2e, y2f) =>
  .okl b.length<|.okl Fields_2.length<|.okl Body_2.length<|.okl Trailers_2.length<|.okl out.length<|.ret (y2a, y2b, y2c, Chunked, y2d, lines, head, need, y2e, waits, y2f, p_2, most, pending, over, bad, b, Fields_2, Body_2, Trailers_2, out))
 (.br (stage == (1:Int)) (.br (y1 == []) (.okl b.length<|.okl Fields_2.length<|.okl Body_2.length<|.okl Trailers_2.length<|.okl out.length<|.call (q4v.f Method Target Minor Chunked stage lines head need begun waits p Line Body Chunked_2 err p_2 most pending over bad b Fields_2 Body_2 Trailers_2 out) fun (y3a, y3b, y3c, y3d, y3e, y3f, y3g, y3h, y3i, y3j, y3k, y3l, y3m, y3n, y3o, y3p, y3q, y3r, y3s, y3t, y3u) =>
   .okl y3q.length<|.okl y3r.length<|.okl y3s.length<|.okl y3t.length<|.okl y3u.length<|.ret (y3a, y3b, y3c, y3d, y3e, y3f, y3g, y3h, y3i, y3j, y3k, y3l, y3m, y3n, y3o, y3p, y3q, y3r, y3s, y3t, y3u))
  (.br (decide (IntKind.i64.wrap (lines + (1:Int)) > Fields)) (.okl b.length<|.okl Fields_2.length<|.okl Body_2.length<|.okl Trailers_2.length<|.okl out.length<|.call (q4s.f b Fields_2 Body_2 Trailers_2 out) fun _ =>
   .okl b.length<|.okl Fields_2.length<|.okl Body_2.length<|.okl Trailers_2.length<|.okl out.length<|.ret (Method, Target, Minor, Chunked, stage, IntKind.i64.wrap (lines + (1:Int)), head, need, begun, waits, 431, p_2, most, pending, over, bad, b, Fields_2, Body_2, Trailers_2, out))
   (.br (decide (IntKind.i64.wrap ((↑Fields_2.length:Int) - (1:Int)) ≥ (0:Int))) (.call (q09.f y1 p) fun y5 =>
    .br y5 (.chk ((0:Int) <= IntKind.i64.wrap ((↑Fields_2.length:Int) - (1:Int)) ∧ IntKind.i64.wrap ((↑Fields_2.length:Int) - (1:Int)) < (↑Fields_2.length:Int))<|.chk ((0:Nat) + (IntKind.i64.wrap ((↑Fields_2.length:Int) - (1:Int))).toNat < Fields_2.length)<|.call (q0c.f ((Fields_2.getD ((0:Nat) + (IntKind.i64.wrap ((↑Fields_2.length:Int) - (1:Int))).toNat) ([], [])).snd) y1) fun y6 =>
    .chk ((0:Int) <= IntKind.i64.wrap ((↑Fields_2.length:Int) - (1:Int)) ∧ IntKind.i64.wrap ((↑Fields_2.length:Int) - (1:Int)) < (↑Fields_2.length:Int))<|.chk ((0:Nat) + (IntKind.i64.wrap ((↑Fields_2.length:Int) - (1:Int))).toNat < Fields_2.length)<|.okl b.length<|.chk ((0:Nat) = (0:Nat) ∧ Fields_2.length = (Fields_2.set ((0:Nat) + (IntKind.i64.wrap ((↑Fields_2.length:Int) - (1:Int))).toNat) ((Fields_2.getD ((0:Nat) + (IntKind.i64.wrap ((↑Fields_2.length:Int) - (1:Int))).toNat) ([], [])).fst, y6)).length)<|.okl Body_2.length<|.okl Trailers_2.length<|.okl out.length<|.ret (Method, Target, Minor, Chunked, stage, IntKind.i64.wrap (lines + (1:Int)), head, need, begun, waits, err, p_2, most, pending, over, bad, b, Fields_2.set ((0:Nat) + (IntKind.i64.wrap ((↑Fields_2.length:Int) - (1:Int))).toNat) ((Fields_2.getD ((0:Nat) + (IntKind.i64.wrap ((↑Fields_2.length:Int) - (1:Int))).toNat) ([], [])).fst, y6), Body_2, Trailers_2, out))
    (.call (q0f.f y1 p) fun (y7a, y7b, y7c, y7d) =>
    .br y7c (.chk ((0:Nat) + Fields_2.length <= Fields_2.length)<|.chk ((Fields_2.length + (1:Nat)) * (32:Nat) <= (140737488355328:Nat))<|.okl b.length<|.chk ((0:Nat) = (0:Nat) ∧ Fields_2.length + (1:Nat) = (List.take Fields_2.length (List.drop (0:Nat) Fields_2) ++ [(y7a, y7b)]).length)<|.okl Body_2.length<|.okl Trailers_2.length<|.okl out.length<|.ret (Method, Target, Minor, Chunked, stage, IntKind.i64.wrap (lines + (1:Int)), head, need, begun, waits, y7d, p_2, most, pending, over, bad, b, List.take Fields_2.length (List.drop (0:Nat) Fields_2) ++ [(y7a, y7b)], Body_2, Trailers_2, out))
    (.okl b.length<|.okl Fields_2.length<|.okl Body_2.length<|.okl Trailers_2.length<|.okl out.length<|.ret (Method, Target, Minor, Chunked, stage, IntKind.i64.wrap (lines + (1:Int)), head, need, begun, waits, y7d, p_2, most, pending, over, bad, b, Fields_2, Body_2, Trailers_2, out))))
   (.call (q0f.f y1 p) fun (y8a, y8b, y8c, y8d) =>
    .br y8c (.chk ((0:Nat) + Fields_2.length <= Fields_2.length)<|.chk ((Fields_2.length + (1:Nat)) * (32:Nat) <= (140737488355328:Nat))<|.okl b.length<|.chk ((0:Nat) = (0:Nat) ∧ Fields_2.length + (1:Nat) = (List.take Fields_2.length (List.drop (0:Nat) Fields_2) ++ [(y8a, y8b)]).length)<|.okl Body_2.length<|.okl Trailers_2.length<|.okl out.length<|.ret (Method, Target, Minor, Chunked, stage, IntKind.i64.wrap (lines + (1:Int)), head, need, begun, waits, y8d, p_2, most, pending, over, bad, b, List.take Fields_2.length (List.drop (0:Nat) Fields_2) ++ [(y8a, y8b)], Body_2, Trailers_2, out))
    (.okl b.length<|.okl Fields_2.length<|.okl Body_2.length<|.okl Trailers_2.length<|.okl out.length<|.ret (Method, Target, Minor, Chunked, stage, IntKind.i64.wrap (lines + (1:Int)), head, need, begun, waits, y8d, p_2, most, pending, over, bad, b, Fields_2, Body_2, Trailers_2, out))))))
  (.br (stage == (3:Int)) (.okl b.length<|.okl Fields_2.length<|.okl Body_2.length<|.okl Trailers_2.length<|.okl out.length<|.call (q4j.f stage lines need p Line Body Ext err p_2 most pending over bad b Fields_2 Body_2 Trailers_2 out y1) fun (y9a, y9b, y9c, y9d, y9e, y9f, y9g, y9h, y9i, y9j) =>
   .okl y9j.length<|.okl Fields_2.length<|.okl Body_2.length<|.okl Trailers_2.length<|.okl out.length<|.ret (Method, Target, Minor, Chunked, y9a, y9b, head, y9c, begun, waits, y9d, y9e, y9f, y9g, y9h, y9i, y9j, Fields_2, Body_2, Trailers_2, out))
  (.br (stage == (5:Int)) (.okl b.length<|.okl Fields_2.length<|.okl Body_2.length<|.okl Trailers_2.length<|.okl out.length<|.call (q5j.f Line b Fields_2 Body_2 Trailers_2 out (3:Int)) fun (y10a, y10b, y10c, y10d, y10e) =>
   .okl y10e.length<|.okl Fields_2.length<|.okl Body_2.length<|.okl Trailers_2.length<|.okl out.length<|.ret (Method, Target, Minor, Chunked, 3, lines, head, need, begun, waits, err, p, y10a, y10b, y10c, y10d, y10e, Fields_2, Body_2, Trailers_2, out))
   (.br (stage == (6:Int)) (.br (y1 == []) (.okl b.length<|.okl Fields_2.length<|.okl Body_2.length<|.okl Trailers_2.length<|.okl out.length<|.call (q5m.f Method Target Minor Chunked Line b Fields_2 Body_2 Trailers_2 out) fun (y11a, y11b, y11c, y11d, y11e, y11f, y11g, y11h, y11i, y11j, y11k, y11l, y11m, y11n, y11o, y11p, y11q, y11r, y11s) =>
    .okl y11o.length<|.okl y11p.length<|.okl y11q.length<|.okl y11r.length<|.okl y11s.length<|.ret (y11a, y11b, y11c, y11d, y11e, y11f, y11g, y11h, y11i, y11j, err, p, y11k, y11l, y11m, y11n, y11o, y11p, y11q, y11r, y11s))
    (.br (decide (IntKind.i64.wrap (lines + (1:Int)) > Trailers)) (.okl b.length<|.okl Fields_2.length<|.okl Body_2.length<|.okl Trailers_2.length<|.okl out.length<|.call (q4s.f b Fields_2 Body_2 Trailers_2 out) fun _ =>
     .okl b.length<|.okl Fields_2.length<|.okl Body_2.length<|.okl Trailers_2.length<|.okl out.length<|.ret (Method, Target, Minor, Chunked, stage, IntKind.i64.wrap (lines + (1:Int)), head, need, begun, waits, 431, p_2, most, pending, over, bad, b, Fields_2, Body_2, Trailers_2, out))
    (.br (decide (IntKind.i64.wrap ((↑Trailers_2.length:Int) - (1:Int)) ≥ (0:Int))) (.call (q09.f y1 p) fun y13 =>
     .br y13 (.chk ((0:Int) <= IntKind.i64.wrap ((↑Trailers_2.length:Int) - (1:Int)) ∧ IntKind.i64.wrap ((↑Trailers_2.length:Int) - (1:Int)) < (↑Trailers_2.length:Int))<|.chk ((0:Nat) + (IntKind.i64.wrap ((↑Trailers_2.length:Int) - (1:Int))).toNat < Trailers_2.length)<|.call (q0c.f ((Trailers_2.getD ((0:Nat) + (IntKind.i64.wrap ((↑Trailers_2.length:Int) - (1:Int))).toNat) ([], [])).snd) y1) fun y14 =>
      .chk ((0:Int) <= IntKind.i64.wrap ((↑Trailers_2.length:Int) - (1:Int)) ∧ IntKind.i64.wrap ((↑Trailers_2.length:Int) - (1:Int)) < (↑Trailers_2.length:Int))<|.chk ((0:Nat) + (IntKind.i64.wrap ((↑Trailers_2.length:Int) - (1:Int))).toNat < Trailers_2.length)<|.okl b.length<|.okl Fields_2.length<|.okl Body_2.length<|.chk ((0:Nat) = (0:Nat) ∧ Trailers_2.length = (Trailers_2.set ((0:Nat) + (IntKind.i64.wrap ((↑Trailers_2.length:Int) - (1:Int))).toNat) ((Trailers_2.getD ((0:Nat) + (IntKind.i64.wrap ((↑Trailers_2.length:Int) - (1:Int))).toNat) ([], [])).fst, y14)).length)<|.okl out.length<|.ret (Method, Target, Minor, Chunked, stage, IntKind.i64.wrap (lines + (1:Int)), head, need, begun, waits, err, p_2, most, pending, over, bad, b, Fields_2, Body_2, Trailers_2.set ((0:Nat) + (IntKind.i64.wrap ((↑Trailers_2.length:Int) - (1:Int))).toNat) ((Trailers_2.getD ((0:Nat) + (IntKind.i64.wrap ((↑Trailers_2.length:Int) - (1:Int))).toNat) ([], [])).fst, y14), out))
     (.call (q0f.f y1 p) fun (y15a, y15b, y15c, y15d) =>
      .br y15c (.chk ((0:Nat) + Trailers_2.length <= Trailers_2.length)<|.chk ((Trailers_2.length + (1:Nat)) * (32:Nat) <= (140737488355328:Nat))<|.okl b.length<|.okl Fields_2.length<|.okl Body_2.length<|.chk ((0:Nat) = (0:Nat) ∧ Trailers_2.length + (1:Nat) = (List.take Trailers_2.length (List.drop (0:Nat) Trailers_2) ++ [(y15a, y15b)]).length)<|.okl out.length<|.ret (Method, Target, Minor, Chunked, stage, IntKind.i64.wrap (lines + (1:Int)), head, need, begun, waits, y15d, p_2, most, pending, over, bad, b, Fields_2, Body_2, List.take Trailers_2.length (List.drop (0:Nat) Trailers_2) ++ [(y15a, y15b)], out))
      (.okl b.length<|.okl Fields_2.length<|.okl Body_2.length<|.okl Trailers_2.length<|.okl out.length<|.ret (Method, Target, Minor, Chunked, stage, IntKind.i64.wrap (lines + (1:Int)), head, need, begun, waits, y15d, p_2, most, pending, over, bad, b, Fields_2, Body_2, Trailers_2, out))))
     (.call (q0f.f y1 p) fun (y16a, y16b, y16c, y16d) =>
     .br y16c (.chk ((0:Nat) + Trailers_2.length <= Trailers_2.length)<|.chk ((Trailers_2.length + (1:Nat)) * (32:Nat) <= (140737488355328:Nat))<|.okl b.length<|.okl Fields_2.length<|.okl Body_2.length<|.chk ((0:Nat) = (0:Nat) ∧ Trailers_2.length + (1:Nat) = (List.take Trailers_2.length (List.drop (0:Nat) Trailers_2) ++ [(y16a, y16b)]).length)<|.okl out.length<|.ret (Method, Target, Minor, Chunked, stage, IntKind.i64.wrap (lines + (1:Int)), head, need, begun, waits, y16d, p_2, most, pending, over, bad, b, Fields_2, Body_2, List.take Trailers_2.length (List.drop (0:Nat) Trailers_2) ++ [(y16a, y16b)], out))
     (.okl b.length<|.okl Fields_2.length<|.okl Body_2.length<|.okl Trailers_2.length<|.okl out.length<|.ret (Method, Target, Minor, Chunked, stage, IntKind.i64.wrap (lines + (1:Int)), head, need, begun, waits, y16d, p_2, most, pending, over, bad, b, Fields_2, Body_2, Trailers_2, out))))))
   (.okl b.length<|.okl Fields_2.length<|.okl Body_2.length<|.okl Trailers_2.length<|.okl out.length<|.ret (Method, Target, Minor, Chunked, stage, lines, head, need, begun, waits, err, p_2, most, pending, over, bad, b, Fields_2, Body_2, Trailers_2, out))))))
def f (Method : Ls) (Target : Ls) (Minor:Int) (Chunked:Bool) (stage:Int) (lines:Int) (head:Int) (need:Int) (begun:Bool) (waits:Bool) (p:Int) (Line:Int) (Fields:Int) (Body:Int) (Ext:Int) (Trailers:Int) (Chunked_2:Bool) (Old:Bool) (err:Int) (p_2:Int) (most:Int) (pending:Bool) (over:Bool) (bad:Bool) (b : Ls) (Fields_2 : Lf) (Body_2 : Ls) (Trailers_2 : Lf) (out : List (Ls × Ls × Int × Lf × Bool × Ls × Lf)) := (t Method Target Minor Chunked stage lines head need begun waits p Line Fields Body Ext Trailers Chunked_2 Old err p_2 most pending over bad b Fields_2 Body_2 Trailers_2 out).val
def G (x : D.den) := t x.1.1.2.1 x.1.1.2.2.1 x.1.1.2.2.2.1 x.1.1.2.2.2.2.2.1 x.1.1.2.2.2.2.2.2.2.2.1 x.1.1.2.2.2.2.2.2.2.2.2.1 x.1.1.2.2.2.2.2.2.2.2.2.2.1 x.1.1.2.2.2.2.2.2.2.2.2.2.2.1 x.1.1.2.2.2.2.2.2.2.2.2.2.2.2.1 x.1.1.2.2.2.2.2.2.2.2.2.2.2.2.2.1 x.1.1.2.2.2.2.2.2.2.2.2.2.2.2.2.2.1 x.1.1.2.2.2.2.2.2.2.2.2.2.2.2.2.2.2.1 x.1.1.2.2.2.2.2.2.2.2.2.2.2.2.2.2.2.2.1 x.1.1.2.2.2.2.2.2.2.2.2.2.2.2.2.2.2.2.2.2.1 x.1.1.2.2.2.2.2.2.2.2.2.2.2.2.2.2.2.2.2.2.2.1 x.1.1.2.2.2.2.2.2.2.2.2.2.2.2.2.2.2.2.2.2.2.2.1 x.1.1.2.2.2.2.2.2.2.2.2.2.2.2.2.2.2.2.2.2.2.2.2.2.2.1 x.1.1.2.2.2.2.2.2.2.2.2.2.2.2.2.2.2.2.2.2.2.2.2.2.2.2.1 x.1.1.2.2.2.2.2.2.2.2.2.2.2.2.2.2.2.2.2.2.2.2.2.2.2.2.2.1 x.1.2.1.1 x.1.2.1.2.1 x.1.2.1.2.2.2.1 x.1.2.1.2.2.2.2.1 x.1.2.1.2.2.2.2.2 x.1.2.2.1 x.1.2.2.2.1 x.1.2.2.2.2.1 x.1.2.2.2.2.2.1 x.1.2.2.2.2.2.2.1
def F (x : D.den) := (G x).val
def pa : D.den -> Rt -> A.den := fun (((_, (_, (_, (_, (_, (_, (_, (_, (_, (_, (_, (_, (_, (_, (p, (Line, (Fields, (Head, (Body, (Ext, (Trailers, (Wait, (Idle, (Chunked_2, (Old, (_, _)))))))))))))))))))))))))), ((_, (_, (_, (_, (_, _))))), (_, (_, (_, (_, (_, _))))))), _) (y1, y2, y3, y4, y5, y6, y7, y8, y9, y10, y11, y12, y13, y14, y15, y16, y17, y18, y19, y20, y21) => ((((), (y1, (y2, (y3, ((), (y4, ((), ((), (y5, (y6, (y7, (y8, (y9, (y10, (p, (Line, (Fields, (Head, (Body, (Ext, (Trailers, (Wait, (Idle, (Chunked_2, (Old, (y11, ())))))))))))))))))))))))))), ((), ((), ((), ((), ((), ((), ((y12, (y13, ((), (y14, (y15, y16))))), (y17, (y18, (y19, (y20, (y21, ()))))))))))))), ())
def con : Con := tcon D A pa F
theorem ok : zgu Tryz.prog 41 con := zij Base.mixed Base.prog_ok q0h (by kernel_rfl) zht.nil 9 (fun _ => rfl) G (fun _ => rfl) fun _ _ _ => (by kernel_rfl)
end q4p
def q4q : Book := q0g.add 41 q4p.con
theorem q4r : zgv Tryz.prog q4q := q0h.add q4p.ok
end Go.Vx
end
section
set_option maxRecDepth 1000000
set_option maxHeartbeats 4000000
set_option synthInstance.maxSize 100000
set_option synthInstance.maxHeartbeats 400000
namespace Go.Vx
open Go Go.Vx Go.Proofs
namespace q5a
def D : Dom := ⟨[.cells (.cat (.ptr 1 0 0 0) (.cat .str (.cat .str (.cat (.int .i64) (.cat (.sl 3 2) (.cat .bool (.cat (.sl 4 1) (.cat (.sl 5 2) (.cat (.int .i64) (.cat (.int .i64) (.cat (.int .i64) (.cat (.int .i64) (.cat .bool (.cat .bool (.cat (.int .u32) (.cat (.int .i64) (.cat (.int .i64) (.cat (.int .i64) (.cat (.int .i64) (.cat (.int .i64) (.cat (.int .i64) (.cat (.int .i64) (.cat (.int .i64) (.cat .bool (.cat .bool (.cat (.int .i64) (.sl 6 7))))))))))))))))))))))))))) 54 false, .cells (.cat (.int .u32) (.cat (.int .i64) (.cat (.sl 2 1) (.cat .bool (.cat .bool .bool))))) 77 false, .vec .byte 5 false, .vec (.pair .str .str) 87 false, .vec .byte 5 false, .vec (.pair .str .str) 87 false, .vec (.pair .str (.pair .str (.pair (.int .i64) (.pair (.sl (.pair .str .str)) (.pair .bool (.pair (.sl .byte) (.sl (.pair .str .str)))))))) 50 false], (.cat (.ptr 0 0 0 0) (.cat (.int .u8) .bool))⟩
def A : Dom := q4v.A
def f : Option (Ls × Ls × Int × Bool × Int × Int × Int × Int × Bool × Bool × Int × Int × Int × Int × Int × Int × Int × Int × Int × Bool × Bool × Int × Int × Int × Bool × Bool × Bool × Ls × (Lf) × Ls × (Lf) × (List (Ls × Ls × Int × Lf × Bool × Ls × Lf))) := none
def F (x : D.den) : Option (Ls × Ls × Int × Bool × Int × Int × Int × Int × Bool × Bool × Int × Int × Int × Int × Int × Int × Int × Int × Int × Bool × Bool × Int × Int × Int × Bool × Bool × Bool × Ls × (Lf) × Ls × (Lf) × (List (Ls × Ls × Int × Lf × Bool × Ls × Lf))) := f
def pa : D.den -> (Ls × Ls × Int × Bool × Int × Int × Int × Int × Bool × Bool × Int × Int × Int × Int × Int × Int × Int × Int × Int × Bool × Bool × Int × Int × Int × Bool × Bool × Bool × Ls × (Lf) × Ls × (Lf) × (List (Ls × Ls × Int × Lf × Bool × Ls × Lf))) -> A.den := fun _ (y1, y2, y3, y4, y5, y6, y7, y8, y9, y10, y11, y12, y13, y14, y15, y16, y17, y18, y19, y20, y21, y22, y23, y24, y25, y26, y27, y28, y29, y30, y31, y32) => ((((), (y1, (y2, (y3, ((), (y4, ((), ((), (y5, (y6, (y7, (y8, (y9, (y10, (y11, (y12, (y13, (y14, (y15, (y16, (y17, (y18, (y19, (y20, (y21, (y22, ())))))))))))))))))))))))))), ((), ((), ((), ((), ((), ((), ((y23, (y24, ((), (y25, (y26, y27))))), (y28, (y29, (y30, (y31, (y32, ()))))))))))))), ())
def con : Con := tcon D A pa F
theorem ok : zgu Tryz.prog 26 con := fun x h => absurd rfl h
end q5a
def q5b : Book := q4q.add 26 q5a.con
theorem q5c : zgv Tryz.prog q5b := q4r.add q5a.ok
namespace q51
def D : Dom := ⟨[.cells (.cat (.ptr 1 0 0 0) (.cat .str (.cat .str (.cat (.int .i64) (.cat (.sl 3 2) (.cat .bool (.cat (.sl 4 1) (.cat (.sl 5 2) (.cat (.int .i64) (.cat (.int .i64) (.cat (.int .i64) (.cat (.int .i64) (.cat .bool (.cat .bool (.cat (.int .u32) (.cat (.int .i64) (.cat (.int .i64) (.cat (.int .i64) (.cat (.int .i64) (.cat (.int .i64) (.cat (.int .i64) (.cat (.int .i64) (.cat (.int .i64) (.cat .bool (.cat .bool (.cat (.int .i64) (.sl 6 7))))))))))))))))))))))))))) 54 false, .cells (.cat (.int .u32) (.cat (.int .i64) (.cat (.sl 2 1) (.cat .bool (.cat .bool .bool))))) 77 false, .vec .byte 5 false, .vec (.pair .str .str) 87 false, .vec .byte 5 false, .vec (.pair .str .str) 87 false, .vec (.pair .str (.pair .str (.pair (.int .i64) (.pair (.sl (.pair .str .str)) (.pair .bool (.pair (.sl .byte) (.sl (.pair .str .str)))))))) 50 false], (.cat (.ptr 0 0 0 0) (.int .u8))⟩
def A : Dom := q4v.A
abbrev Rt := Ls × Ls × Int × Bool × Int × Int × Int × Int × Bool × Bool × Int × Int × Int × Int × Int × Int × Int × Int × Int × Bool × Bool × Int × Int × Int × Bool × Bool × Bool × Ls × (Lf) × Ls × (Lf) × (List (Ls × Ls × Int × Lf × Bool × Ls × Lf))
def t (Method : Ls) (Target : Ls) (Minor:Int) (Chunked:Bool) (stage:Int) (lines:Int) (head:Int) (need:Int) (begun:Bool) (waits:Bool) (p:Int) (Line:Int) (Fields:Int) (Head:Int) (Body:Int) (Ext:Int) (Trailers:Int) (Wait:Int) (Idle:Int) (Chunked_2:Bool) (Old:Bool) (p_2:Int) (most:Int) (pending:Bool) (over:Bool) (bad:Bool) (b : Ls) (Fields_2 : Lf) (Body_2 : Ls) (Trailers_2 : Lf) (out : List (Ls × Ls × Int × Lf × Bool × Ls × Lf)) : Tr Rt :=
 .br (stage == (0:Int)) (.okl b.length<|.okl Fields_2.length<|.okl Body_2.length<|.okl Trailers_2.length<|.okl out.length<|.call (q4s.f b Fields_2 Body_2 Trailers_2 out) fun _ =>
  .okl b.length<|.okl Fields_2.length<|.okl Body_2.length<|.okl Trailers_2.length<|.okl out.length<|.ret (Method, Target, Minor, Chunked, stage, lines, head, need, begun, waits, p, Line, Fields, Head, Body, Ext, Trailers, Wait, Idle, Chunked_2, Old, 414, p_2, most, pending, over, bad, b, Fields_2, Body_2, Trailers_2, out))
 (.br (stage == (1:Int)) (.okl b.length<|.okl Fields_2.length<|.okl Body_2.length<|.okl Trailers_2.length<|.okl out.length<|.call (q4s.f b Fields_2 Body_2 Trailers_2 out) fun _ =>
  .okl b.length<|.okl Fields_2.length<|.okl Body_2.length<|.okl Trailers_2.length<|.okl out.length<|.ret (Method, Target, Minor, Chunked, stage, lines, head, need, begun, waits, p, Line, Fields, Head, Body, Ext, Trailers, Wait, Idle, Chunked_2, Old, 431, p_2, most, pending, over, bad, b, Fields_2, Body_2, Trailers_2, out))
  (.br (stage == (6:Int)) (.okl b.length<|.okl Fields_2.length<|.okl Body_2.length<|.okl Trailers_2.length<|.okl out.length<|.call (q4s.f b Fields_2 Body_2 Trailers_2 out) fun _ =>
   .okl b.length<|.okl Fields_2.length<|.okl Body_2.length<|.okl Trailers_2.length<|.okl out.length<|.ret (Method, Target, Minor, Chunked, stage, lines, head, need, begun, waits, p, Line, Fields, Head, Body, Ext, Trailers, Wait, Idle, Chunked_2, Old, 431, p_2, most, pending, over, bad, b, Fields_2, Body_2, Trailers_2, out))
  (.br (stage == (5:Int)) (.call (q5p.f p (29:Int)) fun y4 =>
   .br y4 (.okl b.length<|.okl Fields_2.length<|.okl Body_2.length<|.okl Trailers_2.length<|.okl out.length<|.call (q5j.f Line b Fields_2 Body_2 Trailers_2 out (3:Int)) fun (_, _, _, _, y5e) =>
    .okl y5e.length<|.okl Fields_2.length<|.okl Body_2.length<|.okl Trailers_2.length<|.okl out.length<|.call (q5a.f) fun (y6a, y6b, y6c, y6d, y6e, y6f, y6g, y6h, y6i, y6j, y6k, y6l, y6m, y6n, y6o, y6p, y6q, y6r, y6s, y6t, y6u, y6v, y6w, y6x, y6y, y6z, y6aa, y6ab, y6ac, y6ad, y6ae, y6af) =>
    .okl y6ab.length<|.okl y6ac.length<|.okl y6ad.length<|.okl y6ae.length<|.okl y6af.length<|.ret (y6a, y6b, y6c, y6d, y6e, y6f, y6g, y6h, y6i, y6j, y6k, y6l, y6m, y6n, y6o, y6p, y6q, y6r, y6s, y6t, y6u, y6v, y6w, y6x, y6y, y6z, y6aa, y6ab, y6ac, y6ad, y6ae, y6af))
   (.okl b.length<|.okl Fields_2.length<|.okl Body_2.length<|.okl Trailers_2.length<|.okl out.length<|.call (q4s.f b Fields_2 Body_2 Trailers_2 out) fun _ =>
    .okl b.length<|.okl Fields_2.length<|.okl Body_2.length<|.okl Trailers_2.length<|.okl out.length<|.ret (Method, Target, Minor, Chunked, stage, lines, head, need, begun, waits, p, Line, Fields, Head, Body, Ext, Trailers, Wait, Idle, Chunked_2, Old, 400, p_2, most, pending, over, bad, b, Fields_2, Body_2, Trailers_2, out)))
   (.okl b.length<|.okl Fields_2.length<|.okl Body_2.length<|.okl Trailers_2.length<|.okl out.length<|.call (q4s.f b Fields_2 Body_2 Trailers_2 out) fun _ =>
   .okl b.length<|.okl Fields_2.length<|.okl Body_2.length<|.okl Trailers_2.length<|.okl out.length<|.ret (Method, Target, Minor, Chunked, stage, lines, head, need, begun, waits, p, Line, Fields, Head, Body, Ext, Trailers, Wait, Idle, Chunked_2, Old, 400, p_2, most, pending, over, bad, b, Fields_2, Body_2, Trailers_2, out)))))
def f (Method : Ls) (Target : Ls) (Minor:Int) (Chunked:Bool) (stage:Int) (lines:Int) (head:Int) (need:Int) (begun:Bool) (waits:Bool) (p:Int) (Line:Int) (Fields:Int) (Head:Int) (Body:Int) (Ext:Int) (Trailers:Int) (Wait:Int) (Idle:Int) (Chunked_2:Bool) (Old:Bool) (p_2:Int) (most:Int) (pending:Bool) (over:Bool) (bad:Bool) (b : Ls) (Fields_2 : Lf) (Body_2 : Ls) (Trailers_2 : Lf) (out : List (Ls × Ls × Int × Lf × Bool × Ls × Lf)) := (t Method Target Minor Chunked stage lines head need begun waits p Line Fields Head Body Ext Trailers Wait Idle Chunked_2 Old p_2 most pending over bad b Fields_2 Body_2 Trailers_2 out).val
def G (x : D.den) := t x.1.1.2.1 x.1.1.2.2.1 x.1.1.2.2.2.1 x.1.1.2.2.2.2.2.1 x.1.1.2.2.2.2.2.2.2.2.1 x.1.1.2.2.2.2.2.2.2.2.2.1 x.1.1.2.2.2.2.2.2.2.2.2.2.1 x.1.1.2.2.2.2.2.2.2.2.2.2.2.1 x.1.1.2.2.2.2.2.2.2.2.2.2.2.2.1 x.1.1.2.2.2.2.2.2.2.2.2.2.2.2.2.1 x.1.1.2.2.2.2.2.2.2.2.2.2.2.2.2.2.1 x.1.1.2.2.2.2.2.2.2.2.2.2.2.2.2.2.2.1 x.1.1.2.2.2.2.2.2.2.2.2.2.2.2.2.2.2.2.1 x.1.1.2.2.2.2.2.2.2.2.2.2.2.2.2.2.2.2.2.1 x.1.1.2.2.2.2.2.2.2.2.2.2.2.2.2.2.2.2.2.2.1 x.1.1.2.2.2.2.2.2.2.2.2.2.2.2.2.2.2.2.2.2.2.1 x.1.1.2.2.2.2.2.2.2.2.2.2.2.2.2.2.2.2.2.2.2.2.1 x.1.1.2.2.2.2.2.2.2.2.2.2.2.2.2.2.2.2.2.2.2.2.2.1 x.1.1.2.2.2.2.2.2.2.2.2.2.2.2.2.2.2.2.2.2.2.2.2.2.1 x.1.1.2.2.2.2.2.2.2.2.2.2.2.2.2.2.2.2.2.2.2.2.2.2.2.1 x.1.1.2.2.2.2.2.2.2.2.2.2.2.2.2.2.2.2.2.2.2.2.2.2.2.2.1 x.1.2.1.1 x.1.2.1.2.1 x.1.2.1.2.2.2.1 x.1.2.1.2.2.2.2.1 x.1.2.1.2.2.2.2.2 x.1.2.2.1 x.1.2.2.2.1 x.1.2.2.2.2.1 x.1.2.2.2.2.2.1 x.1.2.2.2.2.2.2.1
def F (x : D.den) := (G x).val
def pa : D.den -> Rt -> A.den := fun (((_, (_, (_, (_, (_, (_, (_, (_, (_, (_, (_, (_, (_, (_, (_, (_, (_, (_, (_, (_, (_, (_, (_, (_, (_, (_, _)))))))))))))))))))))))))), ((_, (_, (_, (_, (_, _))))), (_, (_, (_, (_, (_, _))))))), (_, _)) (y1, y2, y3, y4, y5, y6, y7, y8, y9, y10, y11, y12, y13, y14, y15, y16, y17, y18, y19, y20, y21, y22, y23, y24, y25, y26, y27, y28, y29, y30, y31, y32) => ((((), (y1, (y2, (y3, ((), (y4, ((), ((), (y5, (y6, (y7, (y8, (y9, (y10, (y11, (y12, (y13, (y14, (y15, (y16, (y17, (y18, (y19, (y20, (y21, (y22, ())))))))))))))))))))))))))), ((), ((), ((), ((), ((), ((), ((y23, (y24, ((), (y25, (y26, y27))))), (y28, (y29, (y30, (y31, (y32, ()))))))))))))), ())
def con : Con := tcon D A pa F
theorem ok : zgu Tryz.prog 43 con := zij Base.mixed Base.prog_ok q5c (by kernel_rfl) zht.nil 9 (fun _ => rfl) G (fun _ => rfl) fun _ _ _ => (by kernel_rfl)
end q51
def q52 : Book := q5b.add 43 q51.con
theorem q53 : zgv Tryz.prog q52 := q5c.add q51.ok
namespace q5d
def D : Dom := q5a.D
def A : Dom := q4v.A
abbrev Rt := Ls × Ls × Int × Bool × Int × Int × Int × Int × Bool × Bool × Int × Int × Int × Int × Int × Int × Int × Int × Int × Bool × Bool × Int × Int × Int × Bool × Bool × Bool × Ls × (Lf) × Ls × (Lf) × (List (Ls × Ls × Int × Lf × Bool × Ls × Lf))
def t (Method : Ls) (Target : Ls) (Minor:Int) (Chunked:Bool) (stage:Int) (lines:Int) (head:Int) (need:Int) (begun:Bool) (waits:Bool) (p:Int) (Line:Int) (Fields:Int) (Head:Int) (Body:Int) (Ext:Int) (Trailers:Int) (Wait:Int) (Idle:Int) (Chunked_2:Bool) (Old:Bool) (err:Int) (p_2:Int) (most:Int) (pending:Bool) (over:Bool) (bad:Bool) (b : Ls) (Fields_2 : Lf) (Body_2 : Ls) (Trailers_2 : Lf) (out : List (Ls × Ls × Int × Lf × Bool × Ls × Lf)) (c:Int) (counts:Bool) : Tr Rt :=
 .br (err != (0:Int)) (.okl b.length<|.okl Fields_2.length<|.okl Body_2.length<|.okl Trailers_2.length<|.okl out.length<|.ret (Method, Target, Minor, Chunked, stage, lines, head, need, begun, waits, p, Line, Fields, Head, Body, Ext, Trailers, Wait, Idle, Chunked_2, Old, err, p_2, most, pending, over, bad, b, Fields_2, Body_2, Trailers_2, out))
 (.br (stage == (2:Int)) (.okl b.length<|.okl Fields_2.length<|.okl Body_2.length<|.okl Trailers_2.length<|.okl out.length<|.call (q4g.f Method Target Minor Chunked stage lines head need begun p Line p_2 most pending over bad b Fields_2 Body_2 Trailers_2 out c) fun (y1a, y1b, y1c, y1d, y1e, y1f, y1g, y1h, y1i, y1j, y1k, y1l, y1m, y1n, y1o, y1p, y1q, y1r, y1s, y1t) =>
  .okl y1p.length<|.okl y1q.length<|.okl y1r.length<|.okl y1s.length<|.okl y1t.length<|.ret (y1a, y1b, y1c, y1d, y1e, y1f, y1g, y1h, y1i, y1j, p, Line, Fields, Head, Body, Ext, Trailers, Wait, Idle, Chunked_2, Old, err, y1k, y1l, y1m, y1n, y1o, y1p, y1q, y1r, y1s, y1t))
  (.br (stage == (4:Int)) (.okl b.length<|.okl Fields_2.length<|.okl Body_2.length<|.okl Trailers_2.length<|.okl out.length<|.call (q4g.f Method Target Minor Chunked stage lines head need begun p Line p_2 most pending over bad b Fields_2 Body_2 Trailers_2 out c) fun (y2a, y2b, y2c, y2d, y2e, y2f, y2g, y2h, y2i, y2j, y2k, y2l, y2m, y2n, y2o, y2p, y2q, y2r, y2s, y2t) =>
   .okl y2p.length<|.okl y2q.length<|.okl y2r.length<|.okl y2s.length<|.okl y2t.length<|.ret (y2a, y2b, y2c, y2d, y2e, y2f, y2g, y2h, y2i, y2j, p, Line, Fields, Head, Body, Ext, Trailers, Wait, Idle, Chunked_2, Old, err, y2k, y2l, y2m, y2n, y2o, y2p, y2q, y2r, y2s, y2t))
  (.br counts (.okl b.length<|.okl Fields_2.length<|.okl Body_2.length<|.okl Trailers_2.length<|.okl out.length<|.call (q4m.f stage head Head err b Fields_2 Body_2 Trailers_2 out) fun (y3a, y3b, y3c) =>
   .br (!y3c) (.okl b.length<|.okl Fields_2.length<|.okl Body_2.length<|.okl Trailers_2.length<|.okl out.length<|.ret (Method, Target, Minor, Chunked, stage, lines, y3a, need, true, false, p, Line, Fields, Head, Body, Ext, Trailers, Wait, Idle, Chunked_2, Old, y3b, p_2, most, pending, over, bad, b, Fields_2, Body_2, Trailers_2, out))
   (.okl b.length<|.call (q2g.f p_2 most pending over bad b c) fun (y4a, y4b, y4c, y4d, y4e) =>
    .br (y4e == (1:Int)) (.okl y4d.length<|.okl Fields_2.length<|.okl Body_2.length<|.okl Trailers_2.length<|.okl out.length<|.call (q4p.f Method Target Minor Chunked stage lines y3a need true false p Line Fields Body Ext Trailers Chunked_2 Old y3b p_2 most y4a y4b y4c y4d Fields_2 Body_2 Trailers_2 out) fun (y5a, y5b, y5c, y5d, y5e, y5f, y5g, y5h, y5i, y5j, y5k, y5l, y5m, y5n, y5o, y5p, y5q, y5r, y5s, y5t, y5u) =>
    .okl y5q.length<|.okl y5r.length<|.okl y5s.length<|.okl y5t.length<|.okl y5u.length<|.ret (y5a, y5b, y5c, y5d, y5e, y5f, y5g, y5h, y5i, y5j, p, Line, Fields, Head, Body, Ext, Trailers, Wait, Idle, Chunked_2, Old, y5k, y5l, y5m, y5n, y5o, y5p, y5q, y5r, y5s, y5t, y5u))
    (.br (y4e == (2:Int)) (.br (stage != (3:Int)) (.okl y4d.length<|.okl Fields_2.length<|.okl Body_2.length<|.okl Trailers_2.length<|.okl out.length<|.call (q4p.f Method Target Minor Chunked stage lines y3a need true false p Line Fields Body Ext Trailers Chunked_2 Old y3b p_2 most y4a y4b y4c y4d Fields_2 Body_2 Trailers_2 out) fun (_, _, _, _, _, _, _, _, _, _, _, _, _, _, _, _, y6q, y6r, y6s, y6t, y6u) =>
     .br (!stage != (5:Int)) (.okl y6q.length<|.okl y6r.length<|.okl y6s.length<|.okl y6t.length<|.okl y6u.length<|.call (q5a.f) fun (y7a, y7b, y7c, y7d, y7e, y7f, y7g, y7h, y7i, y7j, y7k, y7l, y7m, y7n, y7o, y7p, y7q, y7r, y7s, y7t, y7u, y7v, y7w, y7x, y7y, y7z, y7aa, y7ab, y7ac, y7ad, y7ae, y7af) =>
      .okl y7ab.length<|.okl y7ac.length<|.okl y7ad.length<|.okl y7ae.length<|.okl y7af.length<|.ret (y7a, y7b, y7c, y7d, y7e, y7f, y7g, y7h, y7i, y7j, y7k, y7l, y7m, y7n, y7o, y7p, y7q, y7r, y7s, y7t, y7u, y7v, y7w, y7x, y7y, y7z, y7aa, y7ab, y7ac, y7ad, y7ae, y7af))
     (.okl y6q.length<|.okl y6r.length<|.okl y6s.length<|.okl y6t.length<|.okl y6u.length<|.call (q5a.f) fun (y8a, y8b, y8c, y8d, y8e, y8f, y8g, y8h, y8i, y8j, y8k, y8l, y8m, y8n, y8o, y8p, y8q, y8r, y8s, y8t, y8u, y8v, y8w, y8x, y8y, y8z, y8aa, y8ab, y8ac, y8ad, y8ae, y8af) =>
      .okl y8ab.length<|.okl y8ac.length<|.okl y8ad.length<|.okl y8ae.length<|.okl y8af.length<|.ret (y8a, y8b, y8c, y8d, y8e, y8f, y8g, y8h, y8i, y8j, y8k, y8l, y8m, y8n, y8o, y8p, y8q, y8r, y8s, y8t, y8u, y8v, y8w, y8x, y8y, y8z, y8aa, y8ab, y8ac, y8ad, y8ae, y8af)))
     (.okl y4d.length<|.okl Fields_2.length<|.okl Body_2.length<|.okl Trailers_2.length<|.okl out.length<|.call (q4p.f Method Target Minor Chunked stage lines y3a need true false p Line Fields Body Ext Trailers Chunked_2 Old y3b p_2 most y4a y4b y4c y4d Fields_2 Body_2 Trailers_2 out) fun (_, _, _, _, _, _, _, _, _, _, _, _, _, _, _, _, y9q, y9r, y9s, y9t, y9u) =>
     .okl y9q.length<|.okl y9r.length<|.okl y9s.length<|.okl y9t.length<|.okl y9u.length<|.call (q5a.f) fun (y10a, y10b, y10c, y10d, y10e, y10f, y10g, y10h, y10i, y10j, y10k, y10l, y10m, y10n, y10o, y10p, y10q, y10r, y10s, y10t, y10u, y10v, y10w, y10x, y10y, y10z, y10aa, y10ab, y10ac, y10ad, y10ae, y10af) =>
     .okl y10ab.length<|.okl y10ac.length<|.okl y10ad.length<|.okl y10ae.length<|.okl y10af.length<|.ret (y10a, y10b, y10c, y10d, y10e, y10f, y10g, y10h, y10i, y10j, y10k, y10l, y10m, y10n, y10o, y10p, y10q, y10r, y10s, y10t, y10u, y10v, y10w, y10x, y10y, y10z, y10aa, y10ab, y10ac, y10ad, y10ae, y10af)))
    (.br (y4e == (4:Int)) (.okl y4d.length<|.okl Fields_2.length<|.okl Body_2.length<|.okl Trailers_2.length<|.okl out.length<|.call (q51.f Method Target Minor Chunked stage lines y3a need true false p Line Fields Head Body Ext Trailers Wait Idle Chunked_2 Old p_2 most y4a y4b y4c y4d Fields_2 Body_2 Trailers_2 out) fun (y11a, y11b, y11c, y11d, y11e, y11f, y11g, y11h, y11i, y11j, y11k, y11l, y11m, y11n, y11o, y11p, y11q, y11r, y11s, y11t, y11u, y11v, y11w, y11x, y11y, y11z, y11aa, y11ab, y11ac, y11ad, y11ae, y11af) =>
     .okl y11ab.length<|.okl y11ac.length<|.okl y11ad.length<|.okl y11ae.length<|.okl y11af.length<|.ret (y11a, y11b, y11c, y11d, y11e, y11f, y11g, y11h, y11i, y11j, y11k, y11l, y11m, y11n, y11o, y11p, y11q, y11r, y11s, y11t, y11u, y11v, y11w, y11x, y11y, y11z, y11aa, y11ab, y11ac, y11ad, y11ae, y11af))
     (.br (y4e == (3:Int)) (.okl y4d.length<|.okl Fields_2.length<|.okl Body_2.length<|.okl Trailers_2.length<|.okl out.length<|.call (q4s.f y4d Fields_2 Body_2 Trailers_2 out) fun _ =>
      .okl y4d.length<|.okl Fields_2.length<|.okl Body_2.length<|.okl Trailers_2.length<|.okl out.length<|.ret (Method, Target, Minor, Chunked, stage, lines, y3a, need, true, false, p, Line, Fields, Head, Body, Ext, Trailers, Wait, Idle, Chunked_2, Old, 400, p_2, most, y4a, y4b, y4c, y4d, Fields_2, Body_2, Trailers_2, out))
     (.okl y4d.length<|.okl Fields_2.length<|.okl Body_2.length<|.okl Trailers_2.length<|.okl out.length<|.ret (Method, Target, Minor, Chunked, stage, lines, y3a, need, true, false, p, Line, Fields, Head, Body, Ext, Trailers, Wait, Idle, Chunked_2, Old, y3b, p_2, most, y4a, y4b, y4c, y4d, Fields_2, Body_2, Trailers_2, out)))))))
   (.okl b.length<|.call (q2g.f p_2 most pending over bad b c) fun (y13a, y13b, y13c, y13d, y13e) =>
   .br (y13e == (1:Int)) (.okl y13d.length<|.okl Fields_2.length<|.okl Body_2.length<|.okl Trailers_2.length<|.okl out.length<|.call (q4p.f Method Target Minor Chunked stage lines head need true false p Line Fields Body Ext Trailers Chunked_2 Old err p_2 most y13a y13b y13c y13d Fields_2 Body_2 Trailers_2 out) fun (y14a, y14b, y14c, y14d, y14e, y14f, y14g, y14h, y14i, y14j, y14k, y14l, y14m, y14n, y14o, y14p, y14q, y14r, y14s, y14t, y14u) =>
    .okl y14q.length<|.okl y14r.length<|.okl y14s.length<|.okl y14t.length<|.okl y14u.length<|.ret (y14a, y14b, y14c, y14d, y14e, y14f, y14g, y14h, y14i, y14j, p, Line, Fields, Head, Body, Ext, Trailers, Wait, Idle, Chunked_2, Old, y14k, y14l, y14m, y14n, y14o, y14p, y14q, y14r, y14s, y14t, y14u))
   (.br (y13e == (2:Int)) (.br (stage != (3:Int)) (.okl y13d.length<|.okl Fields_2.length<|.okl Body_2.length<|.okl Trailers_2.length<|.okl out.length<|.call (q4p.f Method Target Minor Chunked stage lines head need true false p Line Fields Body Ext Trailers Chunked_2 Old err p_2 most y13a y13b y13c y13d Fields_2 Body_2 Trailers_2 out) fun (_, _, _, _, _, _, _, _, _, _, _, _, _, _, _, _, y15q, y15r, y15s, y15t, y15u) =>
     .br (!stage != (5:Int)) (.okl y15q.length<|.okl y15r.length<|.okl y15s.length<|.okl y15t.length<|.okl y15u.length<|.call (q5a.f) fun (y16a, y16b, y16c, y16d, y16e, y16f, y16g, y16h, y16i, y16j, y16k, y16l, y16m, y16n, y16o, y16p, y16q, y16r, y16s, y16t, y16u, y16v, y16w, y16x, y16y, y16z, y16aa, y16ab, y16ac, y16ad, y16ae, y16af) =>
     .okl y16ab.length<|.okl y16ac.length<|.okl y16ad.length<|.okl y16ae.length<|.okl y16af.length<|.ret (y16a, y16b, y16c, y16d, y16e, y16f, y16g, y16h, y16i, y16j, y16k, y16l, y16m, y16n, y16o, y16p, y16q, y16r, y16s, y16t, y16u, y16v, y16w, y16x, y16y, y16z, y16aa, y16ab, y16ac, y16ad, y16ae, y16af))
     (.okl y15q.length<|.okl y15r.length<|.okl y15s.length<|.okl y15t.length<|.okl y15u.length<|.call (q5a.f) fun (y17a, y17b, y17c, y17d, y17e, y17f, y17g, y17h, y17i, y17j, y17k, y17l, y17m, y17n, y17o, y17p, y17q, y17r, y17s, y17t, y17u, y17v, y17w, y17x, y17y, y17z, y17aa, y17ab, y17ac, y17ad, y17ae, y17af) =>
     .okl y17ab.length<|.okl y17ac.length<|.okl y17ad.length<|.okl y17ae.length<|.okl y17af.length<|.ret (y17a, y17b, y17c, y17d, y17e, y17f, y17g, y17h, y17i, y17j, y17k, y17l, y17m, y17n, y17o, y17p, y17q, y17r, y17s, y17t, y17u, y17v, y17w, y17x, y17y, y17z, y17aa, y17ab, y17ac, y17ad, y17ae, y17af)))
    (.okl y13d.length<|.okl Fields_2.length<|.okl Body_2.length<|.okl Trailers_2.length<|.okl out.length<|.call (q4p.f Method Target Minor Chunked stage lines head need true false p Line Fields Body Ext Trailers Chunked_2 Old err p_2 most y13a y13b y13c y13d Fields_2 Body_2 Trailers_2 out) fun (_, _, _, _, _, _, _, _, _, _, _, _, _, _, _, _, y18q, y18r, y18s, y18t, y18u) =>
     .okl y18q.length<|.okl y18r.length<|.okl y18s.length<|.okl y18t.length<|.okl y18u.length<|.call (q5a.f) fun (y19a, y19b, y19c, y19d, y19e, y19f, y19g, y19h, y19i, y19j, y19k, y19l, y19m, y19n, y19o, y19p, y19q, y19r, y19s, y19t, y19u, y19v, y19w, y19x, y19y, y19z, y19aa, y19ab, y19ac, y19ad, y19ae, y19af) =>
     .okl y19ab.length<|.okl y19ac.length<|.okl y19ad.length<|.okl y19ae.length<|.okl y19af.length<|.ret (y19a, y19b, y19c, y19d, y19e, y19f, y19g, y19h, y19i, y19j, y19k, y19l, y19m, y19n, y19o, y19p, y19q, y19r, y19s, y19t, y19u, y19v, y19w, y19x, y19y, y19z, y19aa, y19ab, y19ac, y19ad, y19ae, y19af)))
    (.br (y13e == (4:Int)) (.okl y13d.length<|.okl Fields_2.length<|.okl Body_2.length<|.okl Trailers_2.length<|.okl out.length<|.call (q51.f Method Target Minor Chunked stage lines head need true false p Line Fields Head Body Ext Trailers Wait Idle Chunked_2 Old p_2 most y13a y13b y13c y13d Fields_2 Body_2 Trailers_2 out) fun (y20a, y20b, y20c, y20d, y20e, y20f, y20g, y20h, y20i, y20j, y20k, y20l, y20m, y20n, y20o, y20p, y20q, y20r, y20s, y20t, y20u, y20v, y20w, y20x, y20y, y20z, y20aa, y20ab, y20ac, y20ad, y20ae, y20af) =>
     .okl y20ab.length<|.okl y20ac.length<|.okl y20ad.length<|.okl y20ae.length<|.okl y20af.length<|.ret (y20a, y20b, y20c, y20d, y20e, y20f, y20g, y20h, y20i, y20j, y20k, y20l, y20m, y20n, y20o, y20p, y20q, y20r, y20s, y20t, y20u, y20v, y20w, y20x, y20y, y20z, y20aa, y20ab, y20ac, y20ad, y20ae, y20af))
    (.br (y13e == (3:Int)) (.okl y13d.length<|.okl Fields_2.length<|.okl Body_2.length<|.okl Trailers_2.length<|.okl out.length<|.call (q4s.f y13d Fields_2 Body_2 Trailers_2 out) fun _ =>
     .okl y13d.length<|.okl Fields_2.length<|.okl Body_2.length<|.okl Trailers_2.length<|.okl out.length<|.ret (Method, Target, Minor, Chunked, stage, lines, head, need, true, false, p, Line, Fields, Head, Body, Ext, Trailers, Wait, Idle, Chunked_2, Old, 400, p_2, most, y13a, y13b, y13c, y13d, Fields_2, Body_2, Trailers_2, out))
     (.okl y13d.length<|.okl Fields_2.length<|.okl Body_2.length<|.okl Trailers_2.length<|.okl out.length<|.ret (Method, Target, Minor, Chunked, stage, lines, head, need, true, false, p, Line, Fields, Head, Body, Ext, Trailers, Wait, Idle, Chunked_2, Old, err, p_2, most, y13a, y13b, y13c, y13d, Fields_2, Body_2, Trailers_2, out)))))))))
def f (Method : Ls) (Target : Ls) (Minor:Int) (Chunked:Bool) (stage:Int) (lines:Int) (head:Int) (need:Int) (begun:Bool) (waits:Bool) (p:Int) (Line:Int) (Fields:Int) (Head:Int) (Body:Int) (Ext:Int) (Trailers:Int) (Wait:Int) (Idle:Int) (Chunked_2:Bool) (Old:Bool) (err:Int) (p_2:Int) (most:Int) (pending:Bool) (over:Bool) (bad:Bool) (b : Ls) (Fields_2 : Lf) (Body_2 : Ls) (Trailers_2 : Lf) (out : List (Ls × Ls × Int × Lf × Bool × Ls × Lf)) (c:Int) (counts:Bool) := (t Method Target Minor Chunked stage lines head need begun waits p Line Fields Head Body Ext Trailers Wait Idle Chunked_2 Old err p_2 most pending over bad b Fields_2 Body_2 Trailers_2 out c counts).val
def G (x : D.den) := t x.1.1.2.1 x.1.1.2.2.1 x.1.1.2.2.2.1 x.1.1.2.2.2.2.2.1 x.1.1.2.2.2.2.2.2.2.2.1 x.1.1.2.2.2.2.2.2.2.2.2.1 x.1.1.2.2.2.2.2.2.2.2.2.2.1 x.1.1.2.2.2.2.2.2.2.2.2.2.2.1 x.1.1.2.2.2.2.2.2.2.2.2.2.2.2.1 x.1.1.2.2.2.2.2.2.2.2.2.2.2.2.2.1 x.1.1.2.2.2.2.2.2.2.2.2.2.2.2.2.2.1 x.1.1.2.2.2.2.2.2.2.2.2.2.2.2.2.2.2.1 x.1.1.2.2.2.2.2.2.2.2.2.2.2.2.2.2.2.2.1 x.1.1.2.2.2.2.2.2.2.2.2.2.2.2.2.2.2.2.2.1 x.1.1.2.2.2.2.2.2.2.2.2.2.2.2.2.2.2.2.2.2.1 x.1.1.2.2.2.2.2.2.2.2.2.2.2.2.2.2.2.2.2.2.2.1 x.1.1.2.2.2.2.2.2.2.2.2.2.2.2.2.2.2.2.2.2.2.2.1 x.1.1.2.2.2.2.2.2.2.2.2.2.2.2.2.2.2.2.2.2.2.2.2.1 x.1.1.2.2.2.2.2.2.2.2.2.2.2.2.2.2.2.2.2.2.2.2.2.2.1 x.1.1.2.2.2.2.2.2.2.2.2.2.2.2.2.2.2.2.2.2.2.2.2.2.2.1 x.1.1.2.2.2.2.2.2.2.2.2.2.2.2.2.2.2.2.2.2.2.2.2.2.2.2.1 x.1.1.2.2.2.2.2.2.2.2.2.2.2.2.2.2.2.2.2.2.2.2.2.2.2.2.2.1 x.1.2.1.1 x.1.2.1.2.1 x.1.2.1.2.2.2.1 x.1.2.1.2.2.2.2.1 x.1.2.1.2.2.2.2.2 x.1.2.2.1 x.1.2.2.2.1 x.1.2.2.2.2.1 x.1.2.2.2.2.2.1 x.1.2.2.2.2.2.2.1 x.2.2.1 x.2.2.2
def F (x : D.den) := (G x).val
def pa : D.den -> Rt -> A.den := fun (((_, (_, (_, (_, (_, (_, (_, (_, (_, (_, (_, (_, (_, (_, (_, (_, (_, (_, (_, (_, (_, (_, (_, (_, (_, (_, _)))))))))))))))))))))))))), ((_, (_, (_, (_, (_, _))))), (_, (_, (_, (_, (_, _))))))), (_, (_, _))) (y1, y2, y3, y4, y5, y6, y7, y8, y9, y10, y11, y12, y13, y14, y15, y16, y17, y18, y19, y20, y21, y22, y23, y24, y25, y26, y27, y28, y29, y30, y31, y32) => ((((), (y1, (y2, (y3, ((), (y4, ((), ((), (y5, (y6, (y7, (y8, (y9, (y10, (y11, (y12, (y13, (y14, (y15, (y16, (y17, (y18, (y19, (y20, (y21, (y22, ())))))))))))))))))))))))))), ((), ((), ((), ((), ((), ((), ((y23, (y24, ((), (y25, (y26, y27))))), (y28, (y29, (y30, (y31, (y32, ()))))))))))))), ())
def con : Con := tcon D A pa F
theorem ok : zgu Tryz.prog 26 con := zij Base.mixed Base.prog_ok q53 (by kernel_rfl) zht.nil 9 (fun _ => rfl) G (fun _ => rfl) fun _ _ _ => (by kernel_rfl)
end q5d
def q5e : Book := q52.add 26 q5d.con
theorem q5f : zgv Tryz.prog q5e := q53.add q5d.ok
namespace q54
def D : Dom := q51.D
def A : Dom := q4v.A
abbrev Rt := Ls × Ls × Int × Bool × Int × Int × Int × Int × Bool × Bool × Int × Int × Int × Int × Int × Int × Int × Int × Int × Bool × Bool × Int × Int × Int × Bool × Bool × Bool × Ls × (Lf) × Ls × (Lf) × (List (Ls × Ls × Int × Lf × Bool × Ls × Lf))
def t (Method : Ls) (Target : Ls) (Minor:Int) (Chunked:Bool) (stage:Int) (lines:Int) (head:Int) (need:Int) (begun:Bool) (waits:Bool) (p:Int) (Line:Int) (Fields:Int) (Head:Int) (Body:Int) (Ext:Int) (Trailers:Int) (Wait:Int) (Idle:Int) (Chunked_2:Bool) (Old:Bool) (err:Int) (p_2:Int) (most:Int) (pending:Bool) (over:Bool) (bad:Bool) (b : Ls) (Fields_2 : Lf) (Body_2 : Ls) (Trailers_2 : Lf) (out : List (Ls × Ls × Int × Lf × Bool × Ls × Lf)) (c:Int) : Tr Rt :=
 .br (stage == (0:Int)) (.okl b.length<|.okl Fields_2.length<|.okl Body_2.length<|.okl Trailers_2.length<|.okl out.length<|.call (q4s.f b Fields_2 Body_2 Trailers_2 out) fun _ =>
  .okl b.length<|.okl Fields_2.length<|.okl Body_2.length<|.okl Trailers_2.length<|.okl out.length<|.ret (Method, Target, Minor, Chunked, stage, lines, head, need, begun, waits, p, Line, Fields, Head, Body, Ext, Trailers, Wait, Idle, Chunked_2, Old, 414, p_2, most, pending, over, bad, b, Fields_2, Body_2, Trailers_2, out))
 (.br (stage == (1:Int)) (.okl b.length<|.okl Fields_2.length<|.okl Body_2.length<|.okl Trailers_2.length<|.okl out.length<|.call (q4s.f b Fields_2 Body_2 Trailers_2 out) fun _ =>
  .okl b.length<|.okl Fields_2.length<|.okl Body_2.length<|.okl Trailers_2.length<|.okl out.length<|.ret (Method, Target, Minor, Chunked, stage, lines, head, need, begun, waits, p, Line, Fields, Head, Body, Ext, Trailers, Wait, Idle, Chunked_2, Old, 431, p_2, most, pending, over, bad, b, Fields_2, Body_2, Trailers_2, out))
  (.br (stage == (6:Int)) (.okl b.length<|.okl Fields_2.length<|.okl Body_2.length<|.okl Trailers_2.length<|.okl out.length<|.call (q4s.f b Fields_2 Body_2 Trailers_2 out) fun _ =>
   .okl b.length<|.okl Fields_2.length<|.okl Body_2.length<|.okl Trailers_2.length<|.okl out.length<|.ret (Method, Target, Minor, Chunked, stage, lines, head, need, begun, waits, p, Line, Fields, Head, Body, Ext, Trailers, Wait, Idle, Chunked_2, Old, 431, p_2, most, pending, over, bad, b, Fields_2, Body_2, Trailers_2, out))
  (.br (stage == (5:Int)) (.call (q5p.f p (29:Int)) fun y4 =>
   .br y4 (.okl b.length<|.okl Fields_2.length<|.okl Body_2.length<|.okl Trailers_2.length<|.okl out.length<|.call (q5j.f Line b Fields_2 Body_2 Trailers_2 out (3:Int)) fun (y5a, y5b, y5c, y5d, y5e) =>
    .okl y5e.length<|.okl Fields_2.length<|.okl Body_2.length<|.okl Trailers_2.length<|.okl out.length<|.call (q5d.f Method Target Minor Chunked (3:Int) lines head need begun waits p Line Fields Head Body Ext Trailers Wait Idle Chunked_2 Old err p y5a y5b y5c y5d y5e Fields_2 Body_2 Trailers_2 out c true) fun (y6a, y6b, y6c, y6d, y6e, y6f, y6g, y6h, y6i, y6j, y6k, y6l, y6m, y6n, y6o, y6p, y6q, y6r, y6s, y6t, y6u, y6v, y6w, y6x, y6y, y6z, y6aa, y6ab, y6ac, y6ad, y6ae, y6af) =>
    .okl y6ab.length<|.okl y6ac.length<|.okl y6ad.length<|.okl y6ae.length<|.okl y6af.length<|.ret (y6a, y6b, y6c, y6d, y6e, y6f, y6g, y6h, y6i, y6j, y6k, y6l, y6m, y6n, y6o, y6p, y6q, y6r, y6s, y6t, y6u, y6v, y6w, y6x, y6y, y6z, y6aa, y6ab, y6ac, y6ad, y6ae, y6af))
   (.okl b.length<|.okl Fields_2.length<|.okl Body_2.length<|.okl Trailers_2.length<|.okl out.length<|.call (q4s.f b Fields_2 Body_2 Trailers_2 out) fun _ =>
    .okl b.length<|.okl Fields_2.length<|.okl Body_2.length<|.okl Trailers_2.length<|.okl out.length<|.ret (Method, Target, Minor, Chunked, stage, lines, head, need, begun, waits, p, Line, Fields, Head, Body, Ext, Trailers, Wait, Idle, Chunked_2, Old, 400, p_2, most, pending, over, bad, b, Fields_2, Body_2, Trailers_2, out)))
   (.okl b.length<|.okl Fields_2.length<|.okl Body_2.length<|.okl Trailers_2.length<|.okl out.length<|.call (q4s.f b Fields_2 Body_2 Trailers_2 out) fun _ =>
   .okl b.length<|.okl Fields_2.length<|.okl Body_2.length<|.okl Trailers_2.length<|.okl out.length<|.ret (Method, Target, Minor, Chunked, stage, lines, head, need, begun, waits, p, Line, Fields, Head, Body, Ext, Trailers, Wait, Idle, Chunked_2, Old, 400, p_2, most, pending, over, bad, b, Fields_2, Body_2, Trailers_2, out)))))
def f (Method : Ls) (Target : Ls) (Minor:Int) (Chunked:Bool) (stage:Int) (lines:Int) (head:Int) (need:Int) (begun:Bool) (waits:Bool) (p:Int) (Line:Int) (Fields:Int) (Head:Int) (Body:Int) (Ext:Int) (Trailers:Int) (Wait:Int) (Idle:Int) (Chunked_2:Bool) (Old:Bool) (err:Int) (p_2:Int) (most:Int) (pending:Bool) (over:Bool) (bad:Bool) (b : Ls) (Fields_2 : Lf) (Body_2 : Ls) (Trailers_2 : Lf) (out : List (Ls × Ls × Int × Lf × Bool × Ls × Lf)) (c:Int) := (t Method Target Minor Chunked stage lines head need begun waits p Line Fields Head Body Ext Trailers Wait Idle Chunked_2 Old err p_2 most pending over bad b Fields_2 Body_2 Trailers_2 out c).val
def G (x : D.den) := t x.1.1.2.1 x.1.1.2.2.1 x.1.1.2.2.2.1 x.1.1.2.2.2.2.2.1 x.1.1.2.2.2.2.2.2.2.2.1 x.1.1.2.2.2.2.2.2.2.2.2.1 x.1.1.2.2.2.2.2.2.2.2.2.2.1 x.1.1.2.2.2.2.2.2.2.2.2.2.2.1 x.1.1.2.2.2.2.2.2.2.2.2.2.2.2.1 x.1.1.2.2.2.2.2.2.2.2.2.2.2.2.2.1 x.1.1.2.2.2.2.2.2.2.2.2.2.2.2.2.2.1 x.1.1.2.2.2.2.2.2.2.2.2.2.2.2.2.2.2.1 x.1.1.2.2.2.2.2.2.2.2.2.2.2.2.2.2.2.2.1 x.1.1.2.2.2.2.2.2.2.2.2.2.2.2.2.2.2.2.2.1 x.1.1.2.2.2.2.2.2.2.2.2.2.2.2.2.2.2.2.2.2.1 x.1.1.2.2.2.2.2.2.2.2.2.2.2.2.2.2.2.2.2.2.2.1 x.1.1.2.2.2.2.2.2.2.2.2.2.2.2.2.2.2.2.2.2.2.2.1 x.1.1.2.2.2.2.2.2.2.2.2.2.2.2.2.2.2.2.2.2.2.2.2.1 x.1.1.2.2.2.2.2.2.2.2.2.2.2.2.2.2.2.2.2.2.2.2.2.2.1 x.1.1.2.2.2.2.2.2.2.2.2.2.2.2.2.2.2.2.2.2.2.2.2.2.2.1 x.1.1.2.2.2.2.2.2.2.2.2.2.2.2.2.2.2.2.2.2.2.2.2.2.2.2.1 x.1.1.2.2.2.2.2.2.2.2.2.2.2.2.2.2.2.2.2.2.2.2.2.2.2.2.2.1 x.1.2.1.1 x.1.2.1.2.1 x.1.2.1.2.2.2.1 x.1.2.1.2.2.2.2.1 x.1.2.1.2.2.2.2.2 x.1.2.2.1 x.1.2.2.2.1 x.1.2.2.2.2.1 x.1.2.2.2.2.2.1 x.1.2.2.2.2.2.2.1 x.2.2
def F (x : D.den) := (G x).val
def pa : D.den -> Rt -> A.den := fun (((_, (_, (_, (_, (_, (_, (_, (_, (_, (_, (_, (_, (_, (_, (_, (_, (_, (_, (_, (_, (_, (_, (_, (_, (_, (_, _)))))))))))))))))))))))))), ((_, (_, (_, (_, (_, _))))), (_, (_, (_, (_, (_, _))))))), (_, _)) (y1, y2, y3, y4, y5, y6, y7, y8, y9, y10, y11, y12, y13, y14, y15, y16, y17, y18, y19, y20, y21, y22, y23, y24, y25, y26, y27, y28, y29, y30, y31, y32) => ((((), (y1, (y2, (y3, ((), (y4, ((), ((), (y5, (y6, (y7, (y8, (y9, (y10, (y11, (y12, (y13, (y14, (y15, (y16, (y17, (y18, (y19, (y20, (y21, (y22, ())))))))))))))))))))))))))), ((), ((), ((), ((), ((), ((), ((y23, (y24, ((), (y25, (y26, y27))))), (y28, (y29, (y30, (y31, (y32, ()))))))))))))), ())
def con : Con := tcon D A pa F
theorem ok : zgu Tryz.prog 43 con := zij Base.mixed Base.prog_ok q5f (by kernel_rfl) zht.nil 9 (fun _ => rfl) G (fun _ => rfl) fun _ _ _ => (by kernel_rfl)
end q54
def q55 : Book := q5e.add 43 q54.con
theorem q56 : zgv Tryz.prog q55 := q5f.add q54.ok
namespace q5g
def D : Dom := q5a.D
def A : Dom := q4v.A
abbrev Rt := Ls × Ls × Int × Bool × Int × Int × Int × Int × Bool × Bool × Int × Int × Int × Int × Int × Int × Int × Int × Int × Bool × Bool × Int × Int × Int × Bool × Bool × Bool × Ls × (Lf) × Ls × (Lf) × (List (Ls × Ls × Int × Lf × Bool × Ls × Lf))
def t (Method : Ls) (Target : Ls) (Minor:Int) (Chunked:Bool) (stage:Int) (lines:Int) (head:Int) (need:Int) (begun:Bool) (waits:Bool) (p:Int) (Line:Int) (Fields:Int) (Head:Int) (Body:Int) (Ext:Int) (Trailers:Int) (Wait:Int) (Idle:Int) (Chunked_2:Bool) (Old:Bool) (err:Int) (p_2:Int) (most:Int) (pending:Bool) (over:Bool) (bad:Bool) (b : Ls) (Fields_2 : Lf) (Body_2 : Ls) (Trailers_2 : Lf) (out : List (Ls × Ls × Int × Lf × Bool × Ls × Lf)) (c:Int) (counts:Bool) : Tr Rt :=
 .br (err != (0:Int)) (.okl b.length<|.okl Fields_2.length<|.okl Body_2.length<|.okl Trailers_2.length<|.okl out.length<|.ret (Method, Target, Minor, Chunked, stage, lines, head, need, begun, waits, p, Line, Fields, Head, Body, Ext, Trailers, Wait, Idle, Chunked_2, Old, err, p_2, most, pending, over, bad, b, Fields_2, Body_2, Trailers_2, out))
 (.br (stage == (2:Int)) (.okl b.length<|.okl Fields_2.length<|.okl Body_2.length<|.okl Trailers_2.length<|.okl out.length<|.call (q4g.f Method Target Minor Chunked stage lines head need begun p Line p_2 most pending over bad b Fields_2 Body_2 Trailers_2 out c) fun (y1a, y1b, y1c, y1d, y1e, y1f, y1g, y1h, y1i, y1j, y1k, y1l, y1m, y1n, y1o, y1p, y1q, y1r, y1s, y1t) =>
  .okl y1p.length<|.okl y1q.length<|.okl y1r.length<|.okl y1s.length<|.okl y1t.length<|.ret (y1a, y1b, y1c, y1d, y1e, y1f, y1g, y1h, y1i, y1j, p, Line, Fields, Head, Body, Ext, Trailers, Wait, Idle, Chunked_2, Old, err, y1k, y1l, y1m, y1n, y1o, y1p, y1q, y1r, y1s, y1t))
  (.br (stage == (4:Int)) (.okl b.length<|.okl Fields_2.length<|.okl Body_2.length<|.okl Trailers_2.length<|.okl out.length<|.call (q4g.f Method Target Minor Chunked stage lines head need begun p Line p_2 most pending over bad b Fields_2 Body_2 Trailers_2 out c) fun (y2a, y2b, y2c, y2d, y2e, y2f, y2g, y2h, y2i, y2j, y2k, y2l, y2m, y2n, y2o, y2p, y2q, y2r, y2s, y2t) =>
   .okl y2p.length<|.okl y2q.length<|.okl y2r.length<|.okl y2s.length<|.okl y2t.length<|.ret (y2a, y2b, y2c, y2d, y2e, y2f, y2g, y2h, y2i, y2j, p, Line, Fields, Head, Body, Ext, Trailers, Wait, Idle, Chunked_2, Old, err, y2k, y2l, y2m, y2n, y2o, y2p, y2q, y2r, y2s, y2t))
  (.br counts (.okl b.length<|.okl Fields_2.length<|.okl Body_2.length<|.okl Trailers_2.length<|.okl out.length<|.call (q4m.f stage head Head err b Fields_2 Body_2 Trailers_2 out) fun (y3a, y3b, y3c) =>
   .br (!y3c) (.okl b.length<|.okl Fields_2.length<|.okl Body_2.length<|.okl Trailers_2.length<|.okl out.length<|.ret (Method, Target, Minor, Chunked, stage, lines, y3a, need, true, false, p, Line, Fields, Head, Body, Ext, Trailers, Wait, Idle, Chunked_2, Old, y3b, p_2, most, pending, over, bad, b, Fields_2, Body_2, Trailers_2, out))
   (.okl b.length<|.call (q2g.f p_2 most pending over bad b c) fun (y4a, y4b, y4c, y4d, y4e) =>
    .br (y4e == (1:Int)) (.okl y4d.length<|.okl Fields_2.length<|.okl Body_2.length<|.okl Trailers_2.length<|.okl out.length<|.call (q4p.f Method Target Minor Chunked stage lines y3a need true false p Line Fields Body Ext Trailers Chunked_2 Old y3b p_2 most y4a y4b y4c y4d Fields_2 Body_2 Trailers_2 out) fun (y5a, y5b, y5c, y5d, y5e, y5f, y5g, y5h, y5i, y5j, y5k, y5l, y5m, y5n, y5o, y5p, y5q, y5r, y5s, y5t, y5u) =>
    .okl y5q.length<|.okl y5r.length<|.okl y5s.length<|.okl y5t.length<|.okl y5u.length<|.ret (y5a, y5b, y5c, y5d, y5e, y5f, y5g, y5h, y5i, y5j, p, Line, Fields, Head, Body, Ext, Trailers, Wait, Idle, Chunked_2, Old, y5k, y5l, y5m, y5n, y5o, y5p, y5q, y5r, y5s, y5t, y5u))
    (.br (y4e == (2:Int)) (.br (stage != (3:Int)) (.okl y4d.length<|.okl Fields_2.length<|.okl Body_2.length<|.okl Trailers_2.length<|.okl out.length<|.call (q4p.f Method Target Minor Chunked stage lines y3a need true false p Line Fields Body Ext Trailers Chunked_2 Old y3b p_2 most y4a y4b y4c y4d Fields_2 Body_2 Trailers_2 out) fun (y6a, y6b, y6c, y6d, y6e, y6f, y6g, y6h, y6i, y6j, y6k, y6l, y6m, y6n, y6o, y6p, y6q, y6r, y6s, y6t, y6u) =>
     .br (!stage != (5:Int)) (.okl y6q.length<|.okl y6r.length<|.okl y6s.length<|.okl y6t.length<|.okl y6u.length<|.call (q5d.f y6a y6b y6c y6d y6e y6f y6g y6h y6i y6j p Line Fields Head Body Ext Trailers Wait Idle Chunked_2 Old y6k y6l y6m y6n y6o y6p y6q y6r y6s y6t y6u c true) fun (y7a, y7b, y7c, y7d, y7e, y7f, y7g, y7h, y7i, y7j, y7k, y7l, y7m, y7n, y7o, y7p, y7q, y7r, y7s, y7t, y7u, y7v, y7w, y7x, y7y, y7z, y7aa, y7ab, y7ac, y7ad, y7ae, y7af) =>
      .okl y7ab.length<|.okl y7ac.length<|.okl y7ad.length<|.okl y7ae.length<|.okl y7af.length<|.ret (y7a, y7b, y7c, y7d, y7e, y7f, y7g, y7h, y7i, y7j, y7k, y7l, y7m, y7n, y7o, y7p, y7q, y7r, y7s, y7t, y7u, y7v, y7w, y7x, y7y, y7z, y7aa, y7ab, y7ac, y7ad, y7ae, y7af))
     (.okl y6q.length<|.okl y6r.length<|.okl y6s.length<|.okl y6t.length<|.okl y6u.length<|.call (q5d.f y6a y6b y6c y6d y6e y6f y6g y6h y6i y6j p Line Fields Head Body Ext Trailers Wait Idle Chunked_2 Old y6k y6l y6m y6n y6o y6p y6q y6r y6s y6t y6u c (decide ((↑y6u.length:Int) > (↑out.length:Int)))) fun (y8a, y8b, y8c, y8d, y8e, y8f, y8g, y8h, y8i, y8j, y8k, y8l, y8m, y8n, y8o, y8p, y8q, y8r, y8s, y8t, y8u, y8v, y8w, y8x, y8y, y8z, y8aa, y8ab, y8ac, y8ad, y8ae, y8af) =>
      .okl y8ab.length<|.okl y8ac.length<|.okl y8ad.length<|.okl y8ae.length<|.okl y8af.length<|.ret (y8a, y8b, y8c, y8d, y8e, y8f, y8g, y8h, y8i, y8j, y8k, y8l, y8m, y8n, y8o, y8p, y8q, y8r, y8s, y8t, y8u, y8v, y8w, y8x, y8y, y8z, y8aa, y8ab, y8ac, y8ad, y8ae, y8af)))
     (.okl y4d.length<|.okl Fields_2.length<|.okl Body_2.length<|.okl Trailers_2.length<|.okl out.length<|.call (q4p.f Method Target Minor Chunked stage lines y3a need true false p Line Fields Body Ext Trailers Chunked_2 Old y3b p_2 most y4a y4b y4c y4d Fields_2 Body_2 Trailers_2 out) fun (y9a, y9b, y9c, y9d, y9e, y9f, y9g, y9h, y9i, y9j, y9k, y9l, y9m, y9n, y9o, y9p, y9q, y9r, y9s, y9t, y9u) =>
     .okl y9q.length<|.okl y9r.length<|.okl y9s.length<|.okl y9t.length<|.okl y9u.length<|.call (q5d.f y9a y9b y9c y9d y9e y9f y9g y9h y9i y9j p Line Fields Head Body Ext Trailers Wait Idle Chunked_2 Old y9k y9l y9m y9n y9o y9p y9q y9r y9s y9t y9u c true) fun (y10a, y10b, y10c, y10d, y10e, y10f, y10g, y10h, y10i, y10j, y10k, y10l, y10m, y10n, y10o, y10p, y10q, y10r, y10s, y10t, y10u, y10v, y10w, y10x, y10y, y10z, y10aa, y10ab, y10ac, y10ad, y10ae, y10af) =>
     .okl y10ab.length<|.okl y10ac.length<|.okl y10ad.length<|.okl y10ae.length<|.okl y10af.length<|.ret (y10a, y10b, y10c, y10d, y10e, y10f, y10g, y10h, y10i, y10j, y10k, y10l, y10m, y10n, y10o, y10p, y10q, y10r, y10s, y10t, y10u, y10v, y10w, y10x, y10y, y10z, y10aa, y10ab, y10ac, y10ad, y10ae, y10af)))
    (.br (y4e == (4:Int)) (.okl y4d.length<|.okl Fields_2.length<|.okl Body_2.length<|.okl Trailers_2.length<|.okl out.length<|.call (q54.f Method Target Minor Chunked stage lines y3a need true false p Line Fields Head Body Ext Trailers Wait Idle Chunked_2 Old y3b p_2 most y4a y4b y4c y4d Fields_2 Body_2 Trailers_2 out c) fun (y11a, y11b, y11c, y11d, y11e, y11f, y11g, y11h, y11i, y11j, y11k, y11l, y11m, y11n, y11o, y11p, y11q, y11r, y11s, y11t, y11u, y11v, y11w, y11x, y11y, y11z, y11aa, y11ab, y11ac, y11ad, y11ae, y11af) =>
     .okl y11ab.length<|.okl y11ac.length<|.okl y11ad.length<|.okl y11ae.length<|.okl y11af.length<|.ret (y11a, y11b, y11c, y11d, y11e, y11f, y11g, y11h, y11i, y11j, y11k, y11l, y11m, y11n, y11o, y11p, y11q, y11r, y11s, y11t, y11u, y11v, y11w, y11x, y11y, y11z, y11aa, y11ab, y11ac, y11ad, y11ae, y11af))
     (.br (y4e == (3:Int)) (.okl y4d.length<|.okl Fields_2.length<|.okl Body_2.length<|.okl Trailers_2.length<|.okl out.length<|.call (q4s.f y4d Fields_2 Body_2 Trailers_2 out) fun _ =>
      .okl y4d.length<|.okl Fields_2.length<|.okl Body_2.length<|.okl Trailers_2.length<|.okl out.length<|.ret (Method, Target, Minor, Chunked, stage, lines, y3a, need, true, false, p, Line, Fields, Head, Body, Ext, Trailers, Wait, Idle, Chunked_2, Old, 400, p_2, most, y4a, y4b, y4c, y4d, Fields_2, Body_2, Trailers_2, out))
     (.okl y4d.length<|.okl Fields_2.length<|.okl Body_2.length<|.okl Trailers_2.length<|.okl out.length<|.ret (Method, Target, Minor, Chunked, stage, lines, y3a, need, true, false, p, Line, Fields, Head, Body, Ext, Trailers, Wait, Idle, Chunked_2, Old, y3b, p_2, most, y4a, y4b, y4c, y4d, Fields_2, Body_2, Trailers_2, out)))))))
   (.okl b.length<|.call (q2g.f p_2 most pending over bad b c) fun (y13a, y13b, y13c, y13d, y13e) =>
   .br (y13e == (1:Int)) (.okl y13d.length<|.okl Fields_2.length<|.okl Body_2.length<|.okl Trailers_2.length<|.okl out.length<|.call (q4p.f Method Target Minor Chunked stage lines head need true false p Line Fields Body Ext Trailers Chunked_2 Old err p_2 most y13a y13b y13c y13d Fields_2 Body_2 Trailers_2 out) fun (y14a, y14b, y14c, y14d, y14e, y14f, y14g, y14h, y14i, y14j, y14k, y14l, y14m, y14n, y14o, y14p, y14q, y14r, y14s, y14t, y14u) =>
    .okl y14q.length<|.okl y14r.length<|.okl y14s.length<|.okl y14t.length<|.okl y14u.length<|.ret (y14a, y14b, y14c, y14d, y14e, y14f, y14g, y14h, y14i, y14j, p, Line, Fields, Head, Body, Ext, Trailers, Wait, Idle, Chunked_2, Old, y14k, y14l, y14m, y14n, y14o, y14p, y14q, y14r, y14s, y14t, y14u))
   (.br (y13e == (2:Int)) (.br (stage != (3:Int)) (.okl y13d.length<|.okl Fields_2.length<|.okl Body_2.length<|.okl Trailers_2.length<|.okl out.length<|.call (q4p.f Method Target Minor Chunked stage lines head need true false p Line Fields Body Ext Trailers Chunked_2 Old err p_2 most y13a y13b y13c y13d Fields_2 Body_2 Trailers_2 out) fun (y15a, y15b, y15c, y15d, y15e, y15f, y15g, y15h, y15i, y15j, y15k, y15l, y15m, y15n, y15o, y15p, y15q, y15r, y15s, y15t, y15u) =>
     .br (!stage != (5:Int)) (.okl y15q.length<|.okl y15r.length<|.okl y15s.length<|.okl y15t.length<|.okl y15u.length<|.call (q5d.f y15a y15b y15c y15d y15e y15f y15g y15h y15i y15j p Line Fields Head Body Ext Trailers Wait Idle Chunked_2 Old y15k y15l y15m y15n y15o y15p y15q y15r y15s y15t y15u c true) fun (y16a, y16b, y16c, y16d, y16e, y16f, y16g, y16h, y16i, y16j, y16k, y16l, y16m, y16n, y16o, y16p, y16q, y16r, y16s, y16t, y16u, y16v, y16w, y16x, y16y, y16z, y16aa, y16ab, y16ac, y16ad, y16ae, y16af) =>
     .okl y16ab.length<|.okl y16ac.length<|.okl y16ad.length<|.okl y16ae.length<|.okl y16af.length<|.ret (y16a, y16b, y16c, y16d, y16e, y16f, y16g, y16h, y16i, y16j, y16k, y16l, y16m, y16n, y16o, y16p, y16q, y16r, y16s, y16t, y16u, y16v, y16w, y16x, y16y, y16z, y16aa, y16ab, y16ac, y16ad, y16ae, y16af))
     (.okl y15q.length<|.okl y15r.length<|.okl y15s.length<|.okl y15t.length<|.okl y15u.length<|.call (q5d.f y15a y15b y15c y15d y15e y15f y15g y15h y15i y15j p Line Fields Head Body Ext Trailers Wait Idle Chunked_2 Old y15k y15l y15m y15n y15o y15p y15q y15r y15s y15t y15u c (decide ((↑y15u.length:Int) > (↑out.length:Int)))) fun (y17a, y17b, y17c, y17d, y17e, y17f, y17g, y17h, y17i, y17j, y17k, y17l, y17m, y17n, y17o, y17p, y17q, y17r, y17s, y17t, y17u, y17v, y17w, y17x, y17y, y17z, y17aa, y17ab, y17ac, y17ad, y17ae, y17af) =>
     .okl y17ab.length<|.okl y17ac.length<|.okl y17ad.length<|.okl y17ae.length<|.okl y17af.length<|.ret (y17a, y17b, y17c, y17d, y17e, y17f, y17g, y17h, y17i, y17j, y17k, y17l, y17m, y17n, y17o, y17p, y17q, y17r, y17s, y17t, y17u, y17v, y17w, y17x, y17y, y17z, y17aa, y17ab, y17ac, y17ad, y17ae, y17af)))
    (.okl y13d.length<|.okl Fields_2.length<|.okl Body_2.length<|.okl Trailers_2.length<|.okl out.length<|.call (q4p.f Method Target Minor Chunked stage lines head need true false p Line Fields Body Ext Trailers Chunked_2 Old err p_2 most y13a y13b y13c y13d Fields_2 Body_2 Trailers_2 out) fun (y18a, y18b, y18c, y18d, y18e, y18f, y18g, y18h, y18i, y18j, y18k, y18l, y18m, y18n, y18o, y18p, y18q, y18r, y18s, y18t, y18u) =>
     .okl y18q.length<|.okl y18r.length<|.okl y18s.length<|.okl y18t.length<|.okl y18u.length<|.call (q5d.f y18a y18b y18c y18d y18e y18f y18g y18h y18i y18j p Line Fields Head Body Ext Trailers Wait Idle Chunked_2 Old y18k y18l y18m y18n y18o y18p y18q y18r y18s y18t y18u c true) fun (y19a, y19b, y19c, y19d, y19e, y19f, y19g, y19h, y19i, y19j, y19k, y19l, y19m, y19n, y19o, y19p, y19q, y19r, y19s, y19t, y19u, y19v, y19w, y19x, y19y, y19z, y19aa, y19ab, y19ac, y19ad, y19ae, y19af) =>
     .okl y19ab.length<|.okl y19ac.length<|.okl y19ad.length<|.okl y19ae.length<|.okl y19af.length<|.ret (y19a, y19b, y19c, y19d, y19e, y19f, y19g, y19h, y19i, y19j, y19k, y19l, y19m, y19n, y19o, y19p, y19q, y19r, y19s, y19t, y19u, y19v, y19w, y19x, y19y, y19z, y19aa, y19ab, y19ac, y19ad, y19ae, y19af)))
    (.br (y13e == (4:Int)) (.okl y13d.length<|.okl Fields_2.length<|.okl Body_2.length<|.okl Trailers_2.length<|.okl out.length<|.call (q54.f Method Target Minor Chunked stage lines head need true false p Line Fields Head Body Ext Trailers Wait Idle Chunked_2 Old err p_2 most y13a y13b y13c y13d Fields_2 Body_2 Trailers_2 out c) fun (y20a, y20b, y20c, y20d, y20e, y20f, y20g, y20h, y20i, y20j, y20k, y20l, y20m, y20n, y20o, y20p, y20q, y20r, y20s, y20t, y20u, y20v, y20w, y20x, y20y, y20z, y20aa, y20ab, y20ac, y20ad, y20ae, y20af) =>
     .okl y20ab.length<|.okl y20ac.length<|.okl y20ad.length<|.okl y20ae.length<|.okl y20af.length<|.ret (y20a, y20b, y20c, y20d, y20e, y20f, y20g, y20h, y20i, y20j, y20k, y20l, y20m, y20n, y20o, y20p, y20q, y20r, y20s, y20t, y20u, y20v, y20w, y20x, y20y, y20z, y20aa, y20ab, y20ac, y20ad, y20ae, y20af))
    (.br (y13e == (3:Int)) (.okl y13d.length<|.okl Fields_2.length<|.okl Body_2.length<|.okl Trailers_2.length<|.okl out.length<|.call (q4s.f y13d Fields_2 Body_2 Trailers_2 out) fun _ =>
     .okl y13d.length<|.okl Fields_2.length<|.okl Body_2.length<|.okl Trailers_2.length<|.okl out.length<|.ret (Method, Target, Minor, Chunked, stage, lines, head, need, true, false, p, Line, Fields, Head, Body, Ext, Trailers, Wait, Idle, Chunked_2, Old, 400, p_2, most, y13a, y13b, y13c, y13d, Fields_2, Body_2, Trailers_2, out))
     (.okl y13d.length<|.okl Fields_2.length<|.okl Body_2.length<|.okl Trailers_2.length<|.okl out.length<|.ret (Method, Target, Minor, Chunked, stage, lines, head, need, true, false, p, Line, Fields, Head, Body, Ext, Trailers, Wait, Idle, Chunked_2, Old, err, p_2, most, y13a, y13b, y13c, y13d, Fields_2, Body_2, Trailers_2, out)))))))))
def f (Method : Ls) (Target : Ls) (Minor:Int) (Chunked:Bool) (stage:Int) (lines:Int) (head:Int) (need:Int) (begun:Bool) (waits:Bool) (p:Int) (Line:Int) (Fields:Int) (Head:Int) (Body:Int) (Ext:Int) (Trailers:Int) (Wait:Int) (Idle:Int) (Chunked_2:Bool) (Old:Bool) (err:Int) (p_2:Int) (most:Int) (pending:Bool) (over:Bool) (bad:Bool) (b : Ls) (Fields_2 : Lf) (Body_2 : Ls) (Trailers_2 : Lf) (out : List (Ls × Ls × Int × Lf × Bool × Ls × Lf)) (c:Int) (counts:Bool) := (t Method Target Minor Chunked stage lines head need begun waits p Line Fields Head Body Ext Trailers Wait Idle Chunked_2 Old err p_2 most pending over bad b Fields_2 Body_2 Trailers_2 out c counts).val
def G (x : D.den) := t x.1.1.2.1 x.1.1.2.2.1 x.1.1.2.2.2.1 x.1.1.2.2.2.2.2.1 x.1.1.2.2.2.2.2.2.2.2.1 x.1.1.2.2.2.2.2.2.2.2.2.1 x.1.1.2.2.2.2.2.2.2.2.2.2.1 x.1.1.2.2.2.2.2.2.2.2.2.2.2.1 x.1.1.2.2.2.2.2.2.2.2.2.2.2.2.1 x.1.1.2.2.2.2.2.2.2.2.2.2.2.2.2.1 x.1.1.2.2.2.2.2.2.2.2.2.2.2.2.2.2.1 x.1.1.2.2.2.2.2.2.2.2.2.2.2.2.2.2.2.1 x.1.1.2.2.2.2.2.2.2.2.2.2.2.2.2.2.2.2.1 x.1.1.2.2.2.2.2.2.2.2.2.2.2.2.2.2.2.2.2.1 x.1.1.2.2.2.2.2.2.2.2.2.2.2.2.2.2.2.2.2.2.1 x.1.1.2.2.2.2.2.2.2.2.2.2.2.2.2.2.2.2.2.2.2.1 x.1.1.2.2.2.2.2.2.2.2.2.2.2.2.2.2.2.2.2.2.2.2.1 x.1.1.2.2.2.2.2.2.2.2.2.2.2.2.2.2.2.2.2.2.2.2.2.1 x.1.1.2.2.2.2.2.2.2.2.2.2.2.2.2.2.2.2.2.2.2.2.2.2.1 x.1.1.2.2.2.2.2.2.2.2.2.2.2.2.2.2.2.2.2.2.2.2.2.2.2.1 x.1.1.2.2.2.2.2.2.2.2.2.2.2.2.2.2.2.2.2.2.2.2.2.2.2.2.1 x.1.1.2.2.2.2.2.2.2.2.2.2.2.2.2.2.2.2.2.2.2.2.2.2.2.2.2.1 x.1.2.1.1 x.1.2.1.2.1 x.1.2.1.2.2.2.1 x.1.2.1.2.2.2.2.1 x.1.2.1.2.2.2.2.2 x.1.2.2.1 x.1.2.2.2.1 x.1.2.2.2.2.1 x.1.2.2.2.2.2.1 x.1.2.2.2.2.2.2.1 x.2.2.1 x.2.2.2
def F (x : D.den) := (G x).val
def pa : D.den -> Rt -> A.den := fun (((_, (_, (_, (_, (_, (_, (_, (_, (_, (_, (_, (_, (_, (_, (_, (_, (_, (_, (_, (_, (_, (_, (_, (_, (_, (_, _)))))))))))))))))))))))))), ((_, (_, (_, (_, (_, _))))), (_, (_, (_, (_, (_, _))))))), (_, (_, _))) (y1, y2, y3, y4, y5, y6, y7, y8, y9, y10, y11, y12, y13, y14, y15, y16, y17, y18, y19, y20, y21, y22, y23, y24, y25, y26, y27, y28, y29, y30, y31, y32) => ((((), (y1, (y2, (y3, ((), (y4, ((), ((), (y5, (y6, (y7, (y8, (y9, (y10, (y11, (y12, (y13, (y14, (y15, (y16, (y17, (y18, (y19, (y20, (y21, (y22, ())))))))))))))))))))))))))), ((), ((), ((), ((), ((), ((), ((y23, (y24, ((), (y25, (y26, y27))))), (y28, (y29, (y30, (y31, (y32, ()))))))))))))), ())
def con : Con := tcon D A pa F
theorem ok : zgu Tryz.prog 26 con := zij Base.mixed Base.prog_ok q56 (by kernel_rfl) zht.nil 9 (fun _ => rfl) G (fun _ => rfl) fun _ _ _ => (by kernel_rfl)
end q5g
def q5h : Book := q55.add 26 q5g.con
theorem q5i : zgv Tryz.prog q5h := q56.add q5g.ok
namespace q4y
def D : Dom := q51.D
def A : Dom := q4v.A
abbrev Rt := Ls × Ls × Int × Bool × Int × Int × Int × Int × Bool × Bool × Int × Int × Int × Int × Int × Int × Int × Int × Int × Bool × Bool × Int × Int × Int × Bool × Bool × Bool × Ls × (Lf) × Ls × (Lf) × (List (Ls × Ls × Int × Lf × Bool × Ls × Lf))
def t (Method : Ls) (Target : Ls) (Minor:Int) (Chunked:Bool) (stage:Int) (lines:Int) (head:Int) (need:Int) (begun:Bool) (waits:Bool) (p:Int) (Line:Int) (Fields:Int) (Head:Int) (Body:Int) (Ext:Int) (Trailers:Int) (Wait:Int) (Idle:Int) (Chunked_2:Bool) (Old:Bool) (err:Int) (p_2:Int) (most:Int) (pending:Bool) (over:Bool) (bad:Bool) (b : Ls) (Fields_2 : Lf) (Body_2 : Ls) (Trailers_2 : Lf) (out : List (Ls × Ls × Int × Lf × Bool × Ls × Lf)) (c:Int) : Tr Rt :=
 .br (stage == (0:Int)) (.okl b.length<|.okl Fields_2.length<|.okl Body_2.length<|.okl Trailers_2.length<|.okl out.length<|.call (q4s.f b Fields_2 Body_2 Trailers_2 out) fun _ =>
  .okl b.length<|.okl Fields_2.length<|.okl Body_2.length<|.okl Trailers_2.length<|.okl out.length<|.ret (Method, Target, Minor, Chunked, stage, lines, head, need, begun, waits, p, Line, Fields, Head, Body, Ext, Trailers, Wait, Idle, Chunked_2, Old, 414, p_2, most, pending, over, bad, b, Fields_2, Body_2, Trailers_2, out))
 (.br (stage == (1:Int)) (.okl b.length<|.okl Fields_2.length<|.okl Body_2.length<|.okl Trailers_2.length<|.okl out.length<|.call (q4s.f b Fields_2 Body_2 Trailers_2 out) fun _ =>
  .okl b.length<|.okl Fields_2.length<|.okl Body_2.length<|.okl Trailers_2.length<|.okl out.length<|.ret (Method, Target, Minor, Chunked, stage, lines, head, need, begun, waits, p, Line, Fields, Head, Body, Ext, Trailers, Wait, Idle, Chunked_2, Old, 431, p_2, most, pending, over, bad, b, Fields_2, Body_2, Trailers_2, out))
  (.br (stage == (6:Int)) (.okl b.length<|.okl Fields_2.length<|.okl Body_2.length<|.okl Trailers_2.length<|.okl out.length<|.call (q4s.f b Fields_2 Body_2 Trailers_2 out) fun _ =>
   .okl b.length<|.okl Fields_2.length<|.okl Body_2.length<|.okl Trailers_2.length<|.okl out.length<|.ret (Method, Target, Minor, Chunked, stage, lines, head, need, begun, waits, p, Line, Fields, Head, Body, Ext, Trailers, Wait, Idle, Chunked_2, Old, 431, p_2, most, pending, over, bad, b, Fields_2, Body_2, Trailers_2, out))
  (.br (stage == (5:Int)) (.call (q5p.f p (29:Int)) fun y4 =>
   .br y4 (.okl b.length<|.okl Fields_2.length<|.okl Body_2.length<|.okl Trailers_2.length<|.okl out.length<|.call (q5j.f Line b Fields_2 Body_2 Trailers_2 out (3:Int)) fun (y5a, y5b, y5c, y5d, y5e) =>
    .okl y5e.length<|.okl Fields_2.length<|.okl Body_2.length<|.okl Trailers_2.length<|.okl out.length<|.call (q5g.f Method Target Minor Chunked (3:Int) lines head need begun waits p Line Fields Head Body Ext Trailers Wait Idle Chunked_2 Old err p y5a y5b y5c y5d y5e Fields_2 Body_2 Trailers_2 out c true) fun (y6a, y6b, y6c, y6d, y6e, y6f, y6g, y6h, y6i, y6j, y6k, y6l, y6m, y6n, y6o, y6p, y6q, y6r, y6s, y6t, y6u, y6v, y6w, y6x, y6y, y6z, y6aa, y6ab, y6ac, y6ad, y6ae, y6af) =>
    .okl y6ab.length<|.okl y6ac.length<|.okl y6ad.length<|.okl y6ae.length<|.okl y6af.length<|.ret (y6a, y6b, y6c, y6d, y6e, y6f, y6g, y6h, y6i, y6j, y6k, y6l, y6m, y6n, y6o, y6p, y6q, y6r, y6s, y6t, y6u, y6v, y6w, y6x, y6y, y6z, y6aa, y6ab, y6ac, y6ad, y6ae, y6af))
   (.okl b.length<|.okl Fields_2.length<|.okl Body_2.length<|.okl Trailers_2.length<|.okl out.length<|.call (q4s.f b Fields_2 Body_2 Trailers_2 out) fun _ =>
    .okl b.length<|.okl Fields_2.length<|.okl Body_2.length<|.okl Trailers_2.length<|.okl out.length<|.ret (Method, Target, Minor, Chunked, stage, lines, head, need, begun, waits, p, Line, Fields, Head, Body, Ext, Trailers, Wait, Idle, Chunked_2, Old, 400, p_2, most, pending, over, bad, b, Fields_2, Body_2, Trailers_2, out)))
   (.okl b.length<|.okl Fields_2.length<|.okl Body_2.length<|.okl Trailers_2.length<|.okl out.length<|.call (q4s.f b Fields_2 Body_2 Trailers_2 out) fun _ =>
   .okl b.length<|.okl Fields_2.length<|.okl Body_2.length<|.okl Trailers_2.length<|.okl out.length<|.ret (Method, Target, Minor, Chunked, stage, lines, head, need, begun, waits, p, Line, Fields, Head, Body, Ext, Trailers, Wait, Idle, Chunked_2, Old, 400, p_2, most, pending, over, bad, b, Fields_2, Body_2, Trailers_2, out)))))
def f (Method : Ls) (Target : Ls) (Minor:Int) (Chunked:Bool) (stage:Int) (lines:Int) (head:Int) (need:Int) (begun:Bool) (waits:Bool) (p:Int) (Line:Int) (Fields:Int) (Head:Int) (Body:Int) (Ext:Int) (Trailers:Int) (Wait:Int) (Idle:Int) (Chunked_2:Bool) (Old:Bool) (err:Int) (p_2:Int) (most:Int) (pending:Bool) (over:Bool) (bad:Bool) (b : Ls) (Fields_2 : Lf) (Body_2 : Ls) (Trailers_2 : Lf) (out : List (Ls × Ls × Int × Lf × Bool × Ls × Lf)) (c:Int) := (t Method Target Minor Chunked stage lines head need begun waits p Line Fields Head Body Ext Trailers Wait Idle Chunked_2 Old err p_2 most pending over bad b Fields_2 Body_2 Trailers_2 out c).val
def G (x : D.den) := t x.1.1.2.1 x.1.1.2.2.1 x.1.1.2.2.2.1 x.1.1.2.2.2.2.2.1 x.1.1.2.2.2.2.2.2.2.2.1 x.1.1.2.2.2.2.2.2.2.2.2.1 x.1.1.2.2.2.2.2.2.2.2.2.2.1 x.1.1.2.2.2.2.2.2.2.2.2.2.2.1 x.1.1.2.2.2.2.2.2.2.2.2.2.2.2.1 x.1.1.2.2.2.2.2.2.2.2.2.2.2.2.2.1 x.1.1.2.2.2.2.2.2.2.2.2.2.2.2.2.2.1 x.1.1.2.2.2.2.2.2.2.2.2.2.2.2.2.2.2.1 x.1.1.2.2.2.2.2.2.2.2.2.2.2.2.2.2.2.2.1 x.1.1.2.2.2.2.2.2.2.2.2.2.2.2.2.2.2.2.2.1 x.1.1.2.2.2.2.2.2.2.2.2.2.2.2.2.2.2.2.2.2.1 x.1.1.2.2.2.2.2.2.2.2.2.2.2.2.2.2.2.2.2.2.2.1 x.1.1.2.2.2.2.2.2.2.2.2.2.2.2.2.2.2.2.2.2.2.2.1 x.1.1.2.2.2.2.2.2.2.2.2.2.2.2.2.2.2.2.2.2.2.2.2.1 x.1.1.2.2.2.2.2.2.2.2.2.2.2.2.2.2.2.2.2.2.2.2.2.2.1 x.1.1.2.2.2.2.2.2.2.2.2.2.2.2.2.2.2.2.2.2.2.2.2.2.2.1 x.1.1.2.2.2.2.2.2.2.2.2.2.2.2.2.2.2.2.2.2.2.2.2.2.2.2.1 x.1.1.2.2.2.2.2.2.2.2.2.2.2.2.2.2.2.2.2.2.2.2.2.2.2.2.2.1 x.1.2.1.1 x.1.2.1.2.1 x.1.2.1.2.2.2.1 x.1.2.1.2.2.2.2.1 x.1.2.1.2.2.2.2.2 x.1.2.2.1 x.1.2.2.2.1 x.1.2.2.2.2.1 x.1.2.2.2.2.2.1 x.1.2.2.2.2.2.2.1 x.2.2
def F (x : D.den) := (G x).val
def pa : D.den -> Rt -> A.den := fun (((_, (_, (_, (_, (_, (_, (_, (_, (_, (_, (_, (_, (_, (_, (_, (_, (_, (_, (_, (_, (_, (_, (_, (_, (_, (_, _)))))))))))))))))))))))))), ((_, (_, (_, (_, (_, _))))), (_, (_, (_, (_, (_, _))))))), (_, _)) (y1, y2, y3, y4, y5, y6, y7, y8, y9, y10, y11, y12, y13, y14, y15, y16, y17, y18, y19, y20, y21, y22, y23, y24, y25, y26, y27, y28, y29, y30, y31, y32) => ((((), (y1, (y2, (y3, ((), (y4, ((), ((), (y5, (y6, (y7, (y8, (y9, (y10, (y11, (y12, (y13, (y14, (y15, (y16, (y17, (y18, (y19, (y20, (y21, (y22, ())))))))))))))))))))))))))), ((), ((), ((), ((), ((), ((), ((y23, (y24, ((), (y25, (y26, y27))))), (y28, (y29, (y30, (y31, (y32, ()))))))))))))), ())
def con : Con := tcon D A pa F
theorem ok : zgu Tryz.prog 43 con := zij Base.mixed Base.prog_ok q5i (by kernel_rfl) zht.nil 9 (fun _ => rfl) G (fun _ => rfl) fun _ _ _ => (by kernel_rfl)
end q4y
def q4z : Book := q5h.add 43 q4y.con
theorem q50 : zgv Tryz.prog q4z := q5i.add q4y.ok
end Go.Vx
end
section
set_option maxRecDepth 1000000
set_option maxHeartbeats 4000000
set_option synthInstance.maxSize 100000
set_option synthInstance.maxHeartbeats 400000
namespace Go.Vx
open Go Go.Vx Go.Proofs
namespace q47
def D : Dom := ⟨[.cells (.cat (.ptr 1 0 0 0) (.cat .str (.cat .str (.cat (.int .i64) (.cat (.sl 3 2) (.cat .bool (.cat (.sl 4 1) (.cat (.sl 5 2) (.cat (.int .i64) (.cat (.int .i64) (.cat (.int .i64) (.cat (.int .i64) (.cat .bool (.cat .bool (.cat (.int .u32) (.cat (.int .i64) (.cat (.int .i64) (.cat (.int .i64) (.cat (.int .i64) (.cat (.int .i64) (.cat (.int .i64) (.cat (.int .i64) (.cat (.int .i64) (.cat .bool (.cat .bool (.cat (.int .i64) (.sl 6 7))))))))))))))))))))))))))) 54 false, .cells (.cat (.int .u32) (.cat (.int .i64) (.cat (.sl 2 1) (.cat .bool (.cat .bool .bool))))) 77 false, .vec .byte 5 false, .vec (.pair .str .str) 87 false, .vec .byte 5 false, .vec (.pair .str .str) 87 false, .vec (.pair .str (.pair .str (.pair (.int .i64) (.pair (.sl (.pair .str .str)) (.pair .bool (.pair (.sl .byte) (.sl (.pair .str .str)))))))) 50 false, .vec (.sl .byte) 22 true], (.cat (.ptr 0 0 0 0) (.sl 7 1))⟩
namespace L6
def D : Dom := ⟨[.cells (.cat (.ptr 8 0 0 0) (.cat .str (.cat .str (.cat (.int .i64) (.cat (.sl 10 2) (.cat .bool (.cat (.sl 11 1) (.cat (.sl 12 2) (.cat (.int .i64) (.cat (.int .i64) (.cat (.int .i64) (.cat (.int .i64) (.cat .bool (.cat .bool (.cat (.int .u32) (.cat (.int .i64) (.cat (.int .i64) (.cat (.int .i64) (.cat (.int .i64) (.cat (.int .i64) (.cat (.int .i64) (.cat (.int .i64) (.cat (.int .i64) (.cat .bool (.cat .bool (.cat (.int .i64) (.sl 13 7))))))))))))))))))))))))))) 54 false, .dead, .dead, .dead, .dead, .dead, .vec (.pair .str (.pair .str (.pair (.int .i64) (.pair (.sl (.pair .str .str)) (.pair .bool (.pair (.sl .byte) (.sl (.pair .str .str)))))))) 50 false, .vec (.sl .byte) 22 true, .cells (.cat (.int .u32) (.cat (.int .i64) (.cat (.sl 9 1) (.cat .bool (.cat .bool .bool))))) 77 false, .vec .byte 5 false, .vec (.pair .str .str) 87 false, .vec .byte 5 false, .vec (.pair .str .str) 87 false, .vec (.pair .str (.pair .str (.pair (.int .i64) (.pair (.sl (.pair .str .str)) (.pair .bool (.pair (.sl .byte) (.sl (.pair .str .str)))))))) 50 false], (.cat (.ptr 0 0 0 0) (.cat (.sl 7 1) (.cat (.int .i64) (.cat (.int .i64) (.cat (.vec .byte) (.cat (.int .i64) (.int .i64)))))))⟩
def A : Dom := ⟨[.cells (.cat (.ptr 8 0 0 0) (.cat .str (.cat .str (.cat (.int .i64) (.cat (.sl 10 2) (.cat .bool (.cat (.sl 11 1) (.cat (.sl 12 2) (.cat (.int .i64) (.cat (.int .i64) (.cat (.int .i64) (.cat (.int .i64) (.cat .bool (.cat .bool (.cat (.int .u32) (.cat (.int .i64) (.cat (.int .i64) (.cat (.int .i64) (.cat (.int .i64) (.cat (.int .i64) (.cat (.int .i64) (.cat (.int .i64) (.cat (.int .i64) (.cat .bool (.cat .bool (.cat (.int .i64) (.sl 13 7))))))))))))))))))))))))))) 54 false, .dead, .dead, .dead, .dead, .dead, .vec (.pair .str (.pair .str (.pair (.int .i64) (.pair (.sl (.pair .str .str)) (.pair .bool (.pair (.sl .byte) (.sl (.pair .str .str)))))))) 50 false, .vec (.sl .byte) 22 true, .cells (.cat (.int .u32) (.cat (.int .i64) (.cat (.sl 9 1) (.cat .bool (.cat .bool .bool))))) 77 false, .vec .byte 5 false, .vec (.pair .str .str) 87 false, .vec .byte 5 false, .vec (.pair .str .str) 87 false, .vec (.pair .str (.pair .str (.pair (.int .i64) (.pair (.sl (.pair .str .str)) (.pair .bool (.pair (.sl .byte) (.sl (.pair .str .str)))))))) 50 false], (.cat (.ptr 0 0 0 0) (.cat (.sl 7 1) (.cat (.int .i64) (.int .i64))))⟩
abbrev Zt := Ls × Ls × Int × Bool × Int × Int × Int × Int × Bool × Bool × Int × Int × Int × Int × Int × Int × Int × Int × Int × Bool × Bool × Int × Int × Int × Bool × Bool × Bool × Ls × (Lf) × Ls × (Lf) × (List (Ls × Ls × Int × Lf × Bool × Ls × Lf)) × Int
abbrev Rt := Ls × Ls × Int × Bool × Int × Int × Int × Int × Bool × Bool × Int × Int × Int × Int × Int × Int × Int × Int × Int × Bool × Bool × Int × Int × Int × Bool × Bool × Bool × Ls × (Lf) × Ls × (Lf) × (List (Ls × Ls × Int × Lf × Bool × Ls × Lf))
def t (Method : Ls) (Target : Ls) (Minor:Int) (Chunked:Bool) (stage:Int) (lines:Int) (head:Int) (need:Int) (begun:Bool) (waits:Bool) (p:Int) (Line:Int) (Fields:Int) (Head:Int) (Body:Int) (Ext:Int) (Trailers:Int) (Wait:Int) (Idle:Int) (Chunked_2:Bool) (Old:Bool) (err:Int) (parts : List (Ls)) (p_2:Int) (most:Int) (pending:Bool) (over:Bool) (bad:Bool) (b : Ls) (Fields_2 : Lf) (Body_2 : Ls) (Trailers_2 : Lf) (out_2 : List (Ls × Ls × Int × Lf × Bool × Ls × Lf)) (t18 : Ls) (t19:Int) (t20:Int) : Tr (Zt ⊕ Rt) :=
 .br (decide (t20 < t19)) (.chk ((0:Int) <= t20 ∧ t20 < (↑t18.length:Int))<|.chk (t20.toNat < t18.length)<|.okl b.length<|.okl Fields_2.length<|.okl Body_2.length<|.okl Trailers_2.length<|.okl out_2.length<|.call (q5g.f Method Target Minor Chunked stage lines head need begun waits p Line Fields Head Body Ext Trailers Wait Idle Chunked_2 Old err p_2 most pending over bad b Fields_2 Body_2 Trailers_2 out_2 (↑(UInt8.toNat (t18.getD t20.toNat (0:UInt8))):Int) true) fun (y1a, y1b, y1c, y1d, y1e, y1f, y1g, y1h, y1i, y1j, y1k, y1l, y1m, y1n, y1o, y1p, y1q, y1r, y1s, y1t, y1u, y1v, y1w, y1x, y1y, y1z, y1aa, y1ab, y1ac, y1ad, y1ae, y1af) =>
  .okl parts.length<|.okl y1ab.length<|.okl y1ac.length<|.okl y1ad.length<|.okl y1ae.length<|.okl y1af.length<|.ret (.inl (y1a, y1b, y1c, y1d, y1e, y1f, y1g, y1h, y1i, y1j, y1k, y1l, y1m, y1n, y1o, y1p, y1q, y1r, y1s, y1t, y1u, y1v, y1w, y1x, y1y, y1z, y1aa, y1ab, y1ac, y1ad, y1ae, y1af, IntKind.i64.wrap (t20 + (1:Int)))))
 (.okl parts.length<|.okl b.length<|.okl Fields_2.length<|.okl Body_2.length<|.okl Trailers_2.length<|.okl out_2.length<|.ret (.inr (Method, Target, Minor, Chunked, stage, lines, head, need, begun, waits, p, Line, Fields, Head, Body, Ext, Trailers, Wait, Idle, Chunked_2, Old, err, p_2, most, pending, over, bad, b, Fields_2, Body_2, Trailers_2, out_2)))
def f (Method : Ls) (Target : Ls) (Minor:Int) (Chunked:Bool) (stage:Int) (lines:Int) (head:Int) (need:Int) (begun:Bool) (waits:Bool) (p:Int) (Line:Int) (Fields:Int) (Head:Int) (Body:Int) (Ext:Int) (Trailers:Int) (Wait:Int) (Idle:Int) (Chunked_2:Bool) (Old:Bool) (err:Int) (parts : List (Ls)) (p_2:Int) (most:Int) (pending:Bool) (over:Bool) (bad:Bool) (b : Ls) (Fields_2 : Lf) (Body_2 : Ls) (Trailers_2 : Lf) (out_2 : List (Ls × Ls × Int × Lf × Bool × Ls × Lf)) (t18 : Ls) (t19:Int) (t20:Int) := Loop (fun z : Zt => t z.1 z.2.1 z.2.2.1 z.2.2.2.1 z.2.2.2.2.1 z.2.2.2.2.2.1 z.2.2.2.2.2.2.1 z.2.2.2.2.2.2.2.1 z.2.2.2.2.2.2.2.2.1 z.2.2.2.2.2.2.2.2.2.1 z.2.2.2.2.2.2.2.2.2.2.1 z.2.2.2.2.2.2.2.2.2.2.2.1 z.2.2.2.2.2.2.2.2.2.2.2.2.1 z.2.2.2.2.2.2.2.2.2.2.2.2.2.1 z.2.2.2.2.2.2.2.2.2.2.2.2.2.2.1 z.2.2.2.2.2.2.2.2.2.2.2.2.2.2.2.1 z.2.2.2.2.2.2.2.2.2.2.2.2.2.2.2.2.1 z.2.2.2.2.2.2.2.2.2.2.2.2.2.2.2.2.2.1 z.2.2.2.2.2.2.2.2.2.2.2.2.2.2.2.2.2.2.1 z.2.2.2.2.2.2.2.2.2.2.2.2.2.2.2.2.2.2.2.1 z.2.2.2.2.2.2.2.2.2.2.2.2.2.2.2.2.2.2.2.2.1 z.2.2.2.2.2.2.2.2.2.2.2.2.2.2.2.2.2.2.2.2.2.1 parts z.2.2.2.2.2.2.2.2.2.2.2.2.2.2.2.2.2.2.2.2.2.2.1 z.2.2.2.2.2.2.2.2.2.2.2.2.2.2.2.2.2.2.2.2.2.2.2.1 z.2.2.2.2.2.2.2.2.2.2.2.2.2.2.2.2.2.2.2.2.2.2.2.2.1 z.2.2.2.2.2.2.2.2.2.2.2.2.2.2.2.2.2.2.2.2.2.2.2.2.2.1 z.2.2.2.2.2.2.2.2.2.2.2.2.2.2.2.2.2.2.2.2.2.2.2.2.2.2.1 z.2.2.2.2.2.2.2.2.2.2.2.2.2.2.2.2.2.2.2.2.2.2.2.2.2.2.2.1 z.2.2.2.2.2.2.2.2.2.2.2.2.2.2.2.2.2.2.2.2.2.2.2.2.2.2.2.2.1 z.2.2.2.2.2.2.2.2.2.2.2.2.2.2.2.2.2.2.2.2.2.2.2.2.2.2.2.2.2.1 z.2.2.2.2.2.2.2.2.2.2.2.2.2.2.2.2.2.2.2.2.2.2.2.2.2.2.2.2.2.2.1 z.2.2.2.2.2.2.2.2.2.2.2.2.2.2.2.2.2.2.2.2.2.2.2.2.2.2.2.2.2.2.2.1 t18 t19 z.2.2.2.2.2.2.2.2.2.2.2.2.2.2.2.2.2.2.2.2.2.2.2.2.2.2.2.2.2.2.2.2) (Method, Target, Minor, Chunked, stage, lines, head, need, begun, waits, p, Line, Fields, Head, Body, Ext, Trailers, Wait, Idle, Chunked_2, Old, err, p_2, most, pending, over, bad, b, Fields_2, Body_2, Trailers_2, out_2, t20)
def F (x : D.den) := f x.1.1.2.1 x.1.1.2.2.1 x.1.1.2.2.2.1 x.1.1.2.2.2.2.2.1 x.1.1.2.2.2.2.2.2.2.2.1 x.1.1.2.2.2.2.2.2.2.2.2.1 x.1.1.2.2.2.2.2.2.2.2.2.2.1 x.1.1.2.2.2.2.2.2.2.2.2.2.2.1 x.1.1.2.2.2.2.2.2.2.2.2.2.2.2.1 x.1.1.2.2.2.2.2.2.2.2.2.2.2.2.2.1 x.1.1.2.2.2.2.2.2.2.2.2.2.2.2.2.2.1 x.1.1.2.2.2.2.2.2.2.2.2.2.2.2.2.2.2.1 x.1.1.2.2.2.2.2.2.2.2.2.2.2.2.2.2.2.2.1 x.1.1.2.2.2.2.2.2.2.2.2.2.2.2.2.2.2.2.2.1 x.1.1.2.2.2.2.2.2.2.2.2.2.2.2.2.2.2.2.2.2.1 x.1.1.2.2.2.2.2.2.2.2.2.2.2.2.2.2.2.2.2.2.2.1 x.1.1.2.2.2.2.2.2.2.2.2.2.2.2.2.2.2.2.2.2.2.2.1 x.1.1.2.2.2.2.2.2.2.2.2.2.2.2.2.2.2.2.2.2.2.2.2.1 x.1.1.2.2.2.2.2.2.2.2.2.2.2.2.2.2.2.2.2.2.2.2.2.2.1 x.1.1.2.2.2.2.2.2.2.2.2.2.2.2.2.2.2.2.2.2.2.2.2.2.2.1 x.1.1.2.2.2.2.2.2.2.2.2.2.2.2.2.2.2.2.2.2.2.2.2.2.2.2.1 x.1.1.2.2.2.2.2.2.2.2.2.2.2.2.2.2.2.2.2.2.2.2.2.2.2.2.2.1 x.1.2.2.2.2.2.2.2.1 x.1.2.2.2.2.2.2.2.2.1.1 x.1.2.2.2.2.2.2.2.2.1.2.1 x.1.2.2.2.2.2.2.2.2.1.2.2.2.1 x.1.2.2.2.2.2.2.2.2.1.2.2.2.2.1 x.1.2.2.2.2.2.2.2.2.1.2.2.2.2.2 x.1.2.2.2.2.2.2.2.2.2.1 x.1.2.2.2.2.2.2.2.2.2.2.1 x.1.2.2.2.2.2.2.2.2.2.2.2.1 x.1.2.2.2.2.2.2.2.2.2.2.2.2.1 x.1.2.2.2.2.2.2.2.2.2.2.2.2.2.1 x.2.2.2.2.2.1 x.2.2.2.2.2.2.1 x.2.2.2.2.2.2.2
def pa : D.den -> Rt -> A.den := fun (((_, (_, (_, (_, (_, (_, (_, (_, (_, (_, (_, (_, (_, (_, (_, (_, (_, (_, (_, (_, (_, (_, (_, (_, (_, (_, _)))))))))))))))))))))))))), (_, (_, (_, (_, (_, (out, (parts, ((_, (_, (_, (_, (_, _))))), (_, (_, (_, (_, (_, _)))))))))))))), (_, (_, (t13, (t14, (_, (_, _))))))) (y1, y2, y3, y4, y5, y6, y7, y8, y9, y10, y11, y12, y13, y14, y15, y16, y17, y18, y19, y20, y21, y22, y23, y24, y25, y26, y27, y28, y29, y30, y31, y32) => ((((), (y1, (y2, (y3, ((), (y4, ((), ((), (y5, (y6, (y7, (y8, (y9, (y10, (y11, (y12, (y13, (y14, (y15, (y16, (y17, (y18, (y19, (y20, (y21, (y22, ())))))))))))))))))))))))))), ((), ((), ((), ((), ((), (out, (parts, ((y23, (y24, ((), (y25, (y26, y27))))), (y28, (y29, (y30, (y31, (y32, ())))))))))))))), ((), ((), (t13, t14))))
def lap : Lap := tlap 6 33 [0, 12, 13, 14, 18, 19, 20] D (.exit 2) [0, 12, 13, 14] A pa F
def pk (x : D.den) (z : Zt) : D.den := ((((), (z.1, (z.2.1, (z.2.2.1, ((), (z.2.2.2.1, ((), ((), (z.2.2.2.2.1, (z.2.2.2.2.2.1, (z.2.2.2.2.2.2.1, (z.2.2.2.2.2.2.2.1, (z.2.2.2.2.2.2.2.2.1, (z.2.2.2.2.2.2.2.2.2.1, (z.2.2.2.2.2.2.2.2.2.2.1, (z.2.2.2.2.2.2.2.2.2.2.2.1, (z.2.2.2.2.2.2.2.2.2.2.2.2.1, (z.2.2.2.2.2.2.2.2.2.2.2.2.2.1, (z.2.2.2.2.2.2.2.2.2.2.2.2.2.2.1, (z.2.2.2.2.2.2.2.2.2.2.2.2.2.2.2.1, (z.2.2.2.2.2.2.2.2.2.2.2.2.2.2.2.2.1, (z.2.2.2.2.2.2.2.2.2.2.2.2.2.2.2.2.2.1, (z.2.2.2.2.2.2.2.2.2.2.2.2.2.2.2.2.2.2.1, (z.2.2.2.2.2.2.2.2.2.2.2.2.2.2.2.2.2.2.2.1, (z.2.2.2.2.2.2.2.2.2.2.2.2.2.2.2.2.2.2.2.2.1, (z.2.2.2.2.2.2.2.2.2.2.2.2.2.2.2.2.2.2.2.2.2.1, ())))))))))))))))))))))))))), ((), ((), ((), ((), ((), (x.1.2.2.2.2.2.2.1, (x.1.2.2.2.2.2.2.2.1, ((z.2.2.2.2.2.2.2.2.2.2.2.2.2.2.2.2.2.2.2.2.2.2.1, (z.2.2.2.2.2.2.2.2.2.2.2.2.2.2.2.2.2.2.2.2.2.2.2.1, ((), (z.2.2.2.2.2.2.2.2.2.2.2.2.2.2.2.2.2.2.2.2.2.2.2.2.1, (z.2.2.2.2.2.2.2.2.2.2.2.2.2.2.2.2.2.2.2.2.2.2.2.2.2.1, z.2.2.2.2.2.2.2.2.2.2.2.2.2.2.2.2.2.2.2.2.2.2.2.2.2.2.1))))), (z.2.2.2.2.2.2.2.2.2.2.2.2.2.2.2.2.2.2.2.2.2.2.2.2.2.2.2.1, (z.2.2.2.2.2.2.2.2.2.2.2.2.2.2.2.2.2.2.2.2.2.2.2.2.2.2.2.2.1, (z.2.2.2.2.2.2.2.2.2.2.2.2.2.2.2.2.2.2.2.2.2.2.2.2.2.2.2.2.2.1, (z.2.2.2.2.2.2.2.2.2.2.2.2.2.2.2.2.2.2.2.2.2.2.2.2.2.2.2.2.2.2.1, (z.2.2.2.2.2.2.2.2.2.2.2.2.2.2.2.2.2.2.2.2.2.2.2.2.2.2.2.2.2.2.2.1, ())))))))))))))), ((), ((), (x.2.2.2.1, (x.2.2.2.2.1, (x.2.2.2.2.2.1, (x.2.2.2.2.2.2.1, z.2.2.2.2.2.2.2.2.2.2.2.2.2.2.2.2.2.2.2.2.2.2.2.2.2.2.2.2.2.2.2.2)))))))
def un (x : D.den) := (x.1.1.2.1, x.1.1.2.2.1, x.1.1.2.2.2.1, x.1.1.2.2.2.2.2.1, x.1.1.2.2.2.2.2.2.2.2.1, x.1.1.2.2.2.2.2.2.2.2.2.1, x.1.1.2.2.2.2.2.2.2.2.2.2.1, x.1.1.2.2.2.2.2.2.2.2.2.2.2.1, x.1.1.2.2.2.2.2.2.2.2.2.2.2.2.1, x.1.1.2.2.2.2.2.2.2.2.2.2.2.2.2.1, x.1.1.2.2.2.2.2.2.2.2.2.2.2.2.2.2.1, x.1.1.2.2.2.2.2.2.2.2.2.2.2.2.2.2.2.1, x.1.1.2.2.2.2.2.2.2.2.2.2.2.2.2.2.2.2.1, x.1.1.2.2.2.2.2.2.2.2.2.2.2.2.2.2.2.2.2.1, x.1.1.2.2.2.2.2.2.2.2.2.2.2.2.2.2.2.2.2.2.1, x.1.1.2.2.2.2.2.2.2.2.2.2.2.2.2.2.2.2.2.2.2.1, x.1.1.2.2.2.2.2.2.2.2.2.2.2.2.2.2.2.2.2.2.2.2.1, x.1.1.2.2.2.2.2.2.2.2.2.2.2.2.2.2.2.2.2.2.2.2.2.1, x.1.1.2.2.2.2.2.2.2.2.2.2.2.2.2.2.2.2.2.2.2.2.2.2.1, x.1.1.2.2.2.2.2.2.2.2.2.2.2.2.2.2.2.2.2.2.2.2.2.2.2.1, x.1.1.2.2.2.2.2.2.2.2.2.2.2.2.2.2.2.2.2.2.2.2.2.2.2.2.1, x.1.1.2.2.2.2.2.2.2.2.2.2.2.2.2.2.2.2.2.2.2.2.2.2.2.2.2.1, x.1.2.2.2.2.2.2.2.2.1.1, x.1.2.2.2.2.2.2.2.2.1.2.1, x.1.2.2.2.2.2.2.2.2.1.2.2.2.1, x.1.2.2.2.2.2.2.2.2.1.2.2.2.2.1, x.1.2.2.2.2.2.2.2.2.1.2.2.2.2.2, x.1.2.2.2.2.2.2.2.2.2.1, x.1.2.2.2.2.2.2.2.2.2.2.1, x.1.2.2.2.2.2.2.2.2.2.2.2.1, x.1.2.2.2.2.2.2.2.2.2.2.2.2.1, x.1.2.2.2.2.2.2.2.2.2.2.2.2.2.1, x.2.2.2.2.2.2.2)
def body (x : D.den) (z : Zt) := t z.1 z.2.1 z.2.2.1 z.2.2.2.1 z.2.2.2.2.1 z.2.2.2.2.2.1 z.2.2.2.2.2.2.1 z.2.2.2.2.2.2.2.1 z.2.2.2.2.2.2.2.2.1 z.2.2.2.2.2.2.2.2.2.1 z.2.2.2.2.2.2.2.2.2.2.1 z.2.2.2.2.2.2.2.2.2.2.2.1 z.2.2.2.2.2.2.2.2.2.2.2.2.1 z.2.2.2.2.2.2.2.2.2.2.2.2.2.1 z.2.2.2.2.2.2.2.2.2.2.2.2.2.2.1 z.2.2.2.2.2.2.2.2.2.2.2.2.2.2.2.1 z.2.2.2.2.2.2.2.2.2.2.2.2.2.2.2.2.1 z.2.2.2.2.2.2.2.2.2.2.2.2.2.2.2.2.2.1 z.2.2.2.2.2.2.2.2.2.2.2.2.2.2.2.2.2.2.1 z.2.2.2.2.2.2.2.2.2.2.2.2.2.2.2.2.2.2.2.1 z.2.2.2.2.2.2.2.2.2.2.2.2.2.2.2.2.2.2.2.2.1 z.2.2.2.2.2.2.2.2.2.2.2.2.2.2.2.2.2.2.2.2.2.1 x.1.2.2.2.2.2.2.2.1 z.2.2.2.2.2.2.2.2.2.2.2.2.2.2.2.2.2.2.2.2.2.2.1 z.2.2.2.2.2.2.2.2.2.2.2.2.2.2.2.2.2.2.2.2.2.2.2.1 z.2.2.2.2.2.2.2.2.2.2.2.2.2.2.2.2.2.2.2.2.2.2.2.2.1 z.2.2.2.2.2.2.2.2.2.2.2.2.2.2.2.2.2.2.2.2.2.2.2.2.2.1 z.2.2.2.2.2.2.2.2.2.2.2.2.2.2.2.2.2.2.2.2.2.2.2.2.2.2.1 z.2.2.2.2.2.2.2.2.2.2.2.2.2.2.2.2.2.2.2.2.2.2.2.2.2.2.2.1 z.2.2.2.2.2.2.2.2.2.2.2.2.2.2.2.2.2.2.2.2.2.2.2.2.2.2.2.2.1 z.2.2.2.2.2.2.2.2.2.2.2.2.2.2.2.2.2.2.2.2.2.2.2.2.2.2.2.2.2.1 z.2.2.2.2.2.2.2.2.2.2.2.2.2.2.2.2.2.2.2.2.2.2.2.2.2.2.2.2.2.2.1 z.2.2.2.2.2.2.2.2.2.2.2.2.2.2.2.2.2.2.2.2.2.2.2.2.2.2.2.2.2.2.2.1 x.2.2.2.2.2.1 x.2.2.2.2.2.2.1 z.2.2.2.2.2.2.2.2.2.2.2.2.2.2.2.2.2.2.2.2.2.2.2.2.2.2.2.2.2.2.2.2
theorem ok : zhe Tryz.prog 8 (codeOf Tryz.prog 18) lap := zil Base.mixed Base.prog_ok q50 (by kernel_rfl) (by kernel_rfl) zht.nil 9 pk un body (fun _ _ => rfl) (fun _ _ => rfl) (fun _ _ => rfl) (fun _ => rfl) fun _ _ _ _ => (by kernel_rfl)
end L6
namespace L3
def D : Dom := q47.L6.A
def A : Dom := ⟨[.cells (.cat (.ptr 8 0 0 0) (.cat .str (.cat .str (.cat (.int .i64) (.cat (.sl 10 2) (.cat .bool (.cat (.sl 11 1) (.cat (.sl 12 2) (.cat (.int .i64) (.cat (.int .i64) (.cat (.int .i64) (.cat (.int .i64) (.cat .bool (.cat .bool (.cat (.int .u32) (.cat (.int .i64) (.cat (.int .i64) (.cat (.int .i64) (.cat (.int .i64) (.cat (.int .i64) (.cat (.int .i64) (.cat (.int .i64) (.cat (.int .i64) (.cat .bool (.cat .bool (.cat (.int .i64) (.sl 13 7))))))))))))))))))))))))))) 54 false, .dead, .dead, .dead, .dead, .dead, .vec (.pair .str (.pair .str (.pair (.int .i64) (.pair (.sl (.pair .str .str)) (.pair .bool (.pair (.sl .byte) (.sl (.pair .str .str)))))))) 50 false, .vec (.sl .byte) 22 true, .cells (.cat (.int .u32) (.cat (.int .i64) (.cat (.sl 9 1) (.cat .bool (.cat .bool .bool))))) 77 false, .vec .byte 5 false, .vec (.pair .str .str) 87 false, .vec .byte 5 false, .vec (.pair .str .str) 87 false, .vec (.pair .str (.pair .str (.pair (.int .i64) (.pair (.sl (.pair .str .str)) (.pair .bool (.pair (.sl .byte) (.sl (.pair .str .str)))))))) 50 false], (.ptr 0 0 0 0)⟩
abbrev Zt := Ls × Ls × Int × Bool × Int × Int × Int × Int × Bool × Bool × Int × Int × Int × Int × Int × Int × Int × Int × Int × Bool × Bool × Int × Int × Int × Bool × Bool × Bool × Ls × (Lf) × Ls × (Lf) × (List (Ls × Ls × Int × Lf × Bool × Ls × Lf)) × Int
abbrev Rt := Ls × Ls × Int × Bool × Int × Int × Int × Int × Bool × Bool × Int × Int × Int × Int × Int × Int × Int × Int × Int × Bool × Bool × Int × Int × Int × Bool × Bool × Bool × Ls × (Lf) × Ls × (Lf) × (List (Ls × Ls × Int × Lf × Bool × Ls × Lf))
def t (Method : Ls) (Target : Ls) (Minor:Int) (Chunked:Bool) (stage:Int) (lines:Int) (head:Int) (need:Int) (begun:Bool) (waits:Bool) (p:Int) (Line:Int) (Fields:Int) (Head:Int) (Body:Int) (Ext:Int) (Trailers:Int) (Wait:Int) (Idle:Int) (Chunked_2:Bool) (Old:Bool) (err:Int) (parts : List (Ls)) (p_2:Int) (most:Int) (pending:Bool) (over:Bool) (bad:Bool) (b : Ls) (Fields_2 : Lf) (Body_2 : Ls) (Trailers_2 : Lf) (out_2 : List (Ls × Ls × Int × Lf × Bool × Ls × Lf)) (t13:Int) (t14:Int) : Tr (Zt ⊕ Rt) :=
 .br (decide (t14 < t13)) (.chk ((0:Int) <= t14 ∧ t14 < (↑parts.length:Int))<|.chk ((0:Nat) + t14.toNat < parts.length)<|.okl parts.length<|.okl b.length<|.okl Fields_2.length<|.okl Body_2.length<|.okl Trailers_2.length<|.okl out_2.length<|.call (q47.L6.f Method Target Minor Chunked stage lines head need begun waits p Line Fields Head Body Ext Trailers Wait Idle Chunked_2 Old err parts p_2 most pending over bad b Fields_2 Body_2 Trailers_2 out_2 (parts.getD ((0:Nat) + t14.toNat) []) (↑(List.length (parts.getD ((0:Nat) + t14.toNat) [])):Int) (0:Int)) fun (y1a, y1b, y1c, y1d, y1e, y1f, y1g, y1h, y1i, y1j, y1k, y1l, y1m, y1n, y1o, y1p, y1q, y1r, y1s, y1t, y1u, y1v, y1w, y1x, y1y, y1z, y1aa, y1ab, y1ac, y1ad, y1ae, y1af) =>
  .okl parts.length<|.okl y1ab.length<|.okl y1ac.length<|.okl y1ad.length<|.okl y1ae.length<|.okl y1af.length<|.ret (.inl (y1a, y1b, y1c, y1d, y1e, y1f, y1g, y1h, y1i, y1j, y1k, y1l, y1m, y1n, y1o, y1p, y1q, y1r, y1s, y1t, y1u, y1v, y1w, y1x, y1y, y1z, y1aa, y1ab, y1ac, y1ad, y1ae, y1af, IntKind.i64.wrap (t14 + (1:Int)))))
 (.okl b.length<|.okl Fields_2.length<|.okl Body_2.length<|.okl Trailers_2.length<|.okl out_2.length<|.ret (.inr (Method, Target, Minor, Chunked, stage, lines, head, need, begun, waits, p, Line, Fields, Head, Body, Ext, Trailers, Wait, Idle, Chunked_2, Old, err, p_2, most, pending, over, bad, b, Fields_2, Body_2, Trailers_2, out_2)))
def f (Method : Ls) (Target : Ls) (Minor:Int) (Chunked:Bool) (stage:Int) (lines:Int) (head:Int) (need:Int) (begun:Bool) (waits:Bool) (p:Int) (Line:Int) (Fields:Int) (Head:Int) (Body:Int) (Ext:Int) (Trailers:Int) (Wait:Int) (Idle:Int) (Chunked_2:Bool) (Old:Bool) (err:Int) (parts : List (Ls)) (p_2:Int) (most:Int) (pending:Bool) (over:Bool) (bad:Bool) (b : Ls) (Fields_2 : Lf) (Body_2 : Ls) (Trailers_2 : Lf) (out_2 : List (Ls × Ls × Int × Lf × Bool × Ls × Lf)) (t13:Int) (t14:Int) := Loop (fun z : Zt => t z.1 z.2.1 z.2.2.1 z.2.2.2.1 z.2.2.2.2.1 z.2.2.2.2.2.1 z.2.2.2.2.2.2.1 z.2.2.2.2.2.2.2.1 z.2.2.2.2.2.2.2.2.1 z.2.2.2.2.2.2.2.2.2.1 z.2.2.2.2.2.2.2.2.2.2.1 z.2.2.2.2.2.2.2.2.2.2.2.1 z.2.2.2.2.2.2.2.2.2.2.2.2.1 z.2.2.2.2.2.2.2.2.2.2.2.2.2.1 z.2.2.2.2.2.2.2.2.2.2.2.2.2.2.1 z.2.2.2.2.2.2.2.2.2.2.2.2.2.2.2.1 z.2.2.2.2.2.2.2.2.2.2.2.2.2.2.2.2.1 z.2.2.2.2.2.2.2.2.2.2.2.2.2.2.2.2.2.1 z.2.2.2.2.2.2.2.2.2.2.2.2.2.2.2.2.2.2.1 z.2.2.2.2.2.2.2.2.2.2.2.2.2.2.2.2.2.2.2.1 z.2.2.2.2.2.2.2.2.2.2.2.2.2.2.2.2.2.2.2.2.1 z.2.2.2.2.2.2.2.2.2.2.2.2.2.2.2.2.2.2.2.2.2.1 parts z.2.2.2.2.2.2.2.2.2.2.2.2.2.2.2.2.2.2.2.2.2.2.1 z.2.2.2.2.2.2.2.2.2.2.2.2.2.2.2.2.2.2.2.2.2.2.2.1 z.2.2.2.2.2.2.2.2.2.2.2.2.2.2.2.2.2.2.2.2.2.2.2.2.1 z.2.2.2.2.2.2.2.2.2.2.2.2.2.2.2.2.2.2.2.2.2.2.2.2.2.1 z.2.2.2.2.2.2.2.2.2.2.2.2.2.2.2.2.2.2.2.2.2.2.2.2.2.2.1 z.2.2.2.2.2.2.2.2.2.2.2.2.2.2.2.2.2.2.2.2.2.2.2.2.2.2.2.1 z.2.2.2.2.2.2.2.2.2.2.2.2.2.2.2.2.2.2.2.2.2.2.2.2.2.2.2.2.1 z.2.2.2.2.2.2.2.2.2.2.2.2.2.2.2.2.2.2.2.2.2.2.2.2.2.2.2.2.2.1 z.2.2.2.2.2.2.2.2.2.2.2.2.2.2.2.2.2.2.2.2.2.2.2.2.2.2.2.2.2.2.1 z.2.2.2.2.2.2.2.2.2.2.2.2.2.2.2.2.2.2.2.2.2.2.2.2.2.2.2.2.2.2.2.1 t13 z.2.2.2.2.2.2.2.2.2.2.2.2.2.2.2.2.2.2.2.2.2.2.2.2.2.2.2.2.2.2.2.2) (Method, Target, Minor, Chunked, stage, lines, head, need, begun, waits, p, Line, Fields, Head, Body, Ext, Trailers, Wait, Idle, Chunked_2, Old, err, p_2, most, pending, over, bad, b, Fields_2, Body_2, Trailers_2, out_2, t14)
def F (x : D.den) := f x.1.1.2.1 x.1.1.2.2.1 x.1.1.2.2.2.1 x.1.1.2.2.2.2.2.1 x.1.1.2.2.2.2.2.2.2.2.1 x.1.1.2.2.2.2.2.2.2.2.2.1 x.1.1.2.2.2.2.2.2.2.2.2.2.1 x.1.1.2.2.2.2.2.2.2.2.2.2.2.1 x.1.1.2.2.2.2.2.2.2.2.2.2.2.2.1 x.1.1.2.2.2.2.2.2.2.2.2.2.2.2.2.1 x.1.1.2.2.2.2.2.2.2.2.2.2.2.2.2.2.1 x.1.1.2.2.2.2.2.2.2.2.2.2.2.2.2.2.2.1 x.1.1.2.2.2.2.2.2.2.2.2.2.2.2.2.2.2.2.1 x.1.1.2.2.2.2.2.2.2.2.2.2.2.2.2.2.2.2.2.1 x.1.1.2.2.2.2.2.2.2.2.2.2.2.2.2.2.2.2.2.2.1 x.1.1.2.2.2.2.2.2.2.2.2.2.2.2.2.2.2.2.2.2.2.1 x.1.1.2.2.2.2.2.2.2.2.2.2.2.2.2.2.2.2.2.2.2.2.1 x.1.1.2.2.2.2.2.2.2.2.2.2.2.2.2.2.2.2.2.2.2.2.2.1 x.1.1.2.2.2.2.2.2.2.2.2.2.2.2.2.2.2.2.2.2.2.2.2.2.1 x.1.1.2.2.2.2.2.2.2.2.2.2.2.2.2.2.2.2.2.2.2.2.2.2.2.1 x.1.1.2.2.2.2.2.2.2.2.2.2.2.2.2.2.2.2.2.2.2.2.2.2.2.2.1 x.1.1.2.2.2.2.2.2.2.2.2.2.2.2.2.2.2.2.2.2.2.2.2.2.2.2.2.1 x.1.2.2.2.2.2.2.2.1 x.1.2.2.2.2.2.2.2.2.1.1 x.1.2.2.2.2.2.2.2.2.1.2.1 x.1.2.2.2.2.2.2.2.2.1.2.2.2.1 x.1.2.2.2.2.2.2.2.2.1.2.2.2.2.1 x.1.2.2.2.2.2.2.2.2.1.2.2.2.2.2 x.1.2.2.2.2.2.2.2.2.2.1 x.1.2.2.2.2.2.2.2.2.2.2.1 x.1.2.2.2.2.2.2.2.2.2.2.2.1 x.1.2.2.2.2.2.2.2.2.2.2.2.2.1 x.1.2.2.2.2.2.2.2.2.2.2.2.2.2.1 x.2.2.2.1 x.2.2.2.2
def pa : D.den -> Rt -> A.den := fun (((_, (_, (_, (_, (_, (_, (_, (_, (_, (_, (_, (_, (_, (_, (_, (_, (_, (_, (_, (_, (_, (_, (_, (_, (_, (_, _)))))))))))))))))))))))))), (_, (_, (_, (_, (_, (out, (parts, ((_, (_, (_, (_, (_, _))))), (_, (_, (_, (_, (_, _)))))))))))))), (_, (_, (_, _)))) (y1, y2, y3, y4, y5, y6, y7, y8, y9, y10, y11, y12, y13, y14, y15, y16, y17, y18, y19, y20, y21, y22, y23, y24, y25, y26, y27, y28, y29, y30, y31, y32) => ((((), (y1, (y2, (y3, ((), (y4, ((), ((), (y5, (y6, (y7, (y8, (y9, (y10, (y11, (y12, (y13, (y14, (y15, (y16, (y17, (y18, (y19, (y20, (y21, (y22, ())))))))))))))))))))))))))), ((), ((), ((), ((), ((), (out, (parts, ((y23, (y24, ((), (y25, (y26, y27))))), (y28, (y29, (y30, (y31, (y32, ())))))))))))))), ())
def lap : Lap := tlap 3 33 [0, 12, 13, 14] D (.exit 0) [0] A pa F
def pk (x : D.den) (z : Zt) : D.den := ((((), (z.1, (z.2.1, (z.2.2.1, ((), (z.2.2.2.1, ((), ((), (z.2.2.2.2.1, (z.2.2.2.2.2.1, (z.2.2.2.2.2.2.1, (z.2.2.2.2.2.2.2.1, (z.2.2.2.2.2.2.2.2.1, (z.2.2.2.2.2.2.2.2.2.1, (z.2.2.2.2.2.2.2.2.2.2.1, (z.2.2.2.2.2.2.2.2.2.2.2.1, (z.2.2.2.2.2.2.2.2.2.2.2.2.1, (z.2.2.2.2.2.2.2.2.2.2.2.2.2.1, (z.2.2.2.2.2.2.2.2.2.2.2.2.2.2.1, (z.2.2.2.2.2.2.2.2.2.2.2.2.2.2.2.1, (z.2.2.2.2.2.2.2.2.2.2.2.2.2.2.2.2.1, (z.2.2.2.2.2.2.2.2.2.2.2.2.2.2.2.2.2.1, (z.2.2.2.2.2.2.2.2.2.2.2.2.2.2.2.2.2.2.1, (z.2.2.2.2.2.2.2.2.2.2.2.2.2.2.2.2.2.2.2.1, (z.2.2.2.2.2.2.2.2.2.2.2.2.2.2.2.2.2.2.2.2.1, (z.2.2.2.2.2.2.2.2.2.2.2.2.2.2.2.2.2.2.2.2.2.1, ())))))))))))))))))))))))))), ((), ((), ((), ((), ((), (x.1.2.2.2.2.2.2.1, (x.1.2.2.2.2.2.2.2.1, ((z.2.2.2.2.2.2.2.2.2.2.2.2.2.2.2.2.2.2.2.2.2.2.1, (z.2.2.2.2.2.2.2.2.2.2.2.2.2.2.2.2.2.2.2.2.2.2.2.1, ((), (z.2.2.2.2.2.2.2.2.2.2.2.2.2.2.2.2.2.2.2.2.2.2.2.2.1, (z.2.2.2.2.2.2.2.2.2.2.2.2.2.2.2.2.2.2.2.2.2.2.2.2.2.1, z.2.2.2.2.2.2.2.2.2.2.2.2.2.2.2.2.2.2.2.2.2.2.2.2.2.2.1))))), (z.2.2.2.2.2.2.2.2.2.2.2.2.2.2.2.2.2.2.2.2.2.2.2.2.2.2.2.1, (z.2.2.2.2.2.2.2.2.2.2.2.2.2.2.2.2.2.2.2.2.2.2.2.2.2.2.2.2.1, (z.2.2.2.2.2.2.2.2.2.2.2.2.2.2.2.2.2.2.2.2.2.2.2.2.2.2.2.2.2.1, (z.2.2.2.2.2.2.2.2.2.2.2.2.2.2.2.2.2.2.2.2.2.2.2.2.2.2.2.2.2.2.1, (z.2.2.2.2.2.2.2.2.2.2.2.2.2.2.2.2.2.2.2.2.2.2.2.2.2.2.2.2.2.2.2.1, ())))))))))))))), ((), ((), (x.2.2.2.1, z.2.2.2.2.2.2.2.2.2.2.2.2.2.2.2.2.2.2.2.2.2.2.2.2.2.2.2.2.2.2.2.2))))
def un (x : D.den) := (x.1.1.2.1, x.1.1.2.2.1, x.1.1.2.2.2.1, x.1.1.2.2.2.2.2.1, x.1.1.2.2.2.2.2.2.2.2.1, x.1.1.2.2.2.2.2.2.2.2.2.1, x.1.1.2.2.2.2.2.2.2.2.2.2.1, x.1.1.2.2.2.2.2.2.2.2.2.2.2.1, x.1.1.2.2.2.2.2.2.2.2.2.2.2.2.1, x.1.1.2.2.2.2.2.2.2.2.2.2.2.2.2.1, x.1.1.2.2.2.2.2.2.2.2.2.2.2.2.2.2.1, x.1.1.2.2.2.2.2.2.2.2.2.2.2.2.2.2.2.1, x.1.1.2.2.2.2.2.2.2.2.2.2.2.2.2.2.2.2.1, x.1.1.2.2.2.2.2.2.2.2.2.2.2.2.2.2.2.2.2.1, x.1.1.2.2.2.2.2.2.2.2.2.2.2.2.2.2.2.2.2.2.1, x.1.1.2.2.2.2.2.2.2.2.2.2.2.2.2.2.2.2.2.2.2.1, x.1.1.2.2.2.2.2.2.2.2.2.2.2.2.2.2.2.2.2.2.2.2.1, x.1.1.2.2.2.2.2.2.2.2.2.2.2.2.2.2.2.2.2.2.2.2.2.1, x.1.1.2.2.2.2.2.2.2.2.2.2.2.2.2.2.2.2.2.2.2.2.2.2.1, x.1.1.2.2.2.2.2.2.2.2.2.2.2.2.2.2.2.2.2.2.2.2.2.2.2.1, x.1.1.2.2.2.2.2.2.2.2.2.2.2.2.2.2.2.2.2.2.2.2.2.2.2.2.1, x.1.1.2.2.2.2.2.2.2.2.2.2.2.2.2.2.2.2.2.2.2.2.2.2.2.2.2.1, x.1.2.2.2.2.2.2.2.2.1.1, x.1.2.2.2.2.2.2.2.2.1.2.1, x.1.2.2.2.2.2.2.2.2.1.2.2.2.1, x.1.2.2.2.2.2.2.2.2.1.2.2.2.2.1, x.1.2.2.2.2.2.2.2.2.1.2.2.2.2.2, x.1.2.2.2.2.2.2.2.2.2.1, x.1.2.2.2.2.2.2.2.2.2.2.1, x.1.2.2.2.2.2.2.2.2.2.2.2.1, x.1.2.2.2.2.2.2.2.2.2.2.2.2.1, x.1.2.2.2.2.2.2.2.2.2.2.2.2.2.1, x.2.2.2.2)
def body (x : D.den) (z : Zt) := t z.1 z.2.1 z.2.2.1 z.2.2.2.1 z.2.2.2.2.1 z.2.2.2.2.2.1 z.2.2.2.2.2.2.1 z.2.2.2.2.2.2.2.1 z.2.2.2.2.2.2.2.2.1 z.2.2.2.2.2.2.2.2.2.1 z.2.2.2.2.2.2.2.2.2.2.1 z.2.2.2.2.2.2.2.2.2.2.2.1 z.2.2.2.2.2.2.2.2.2.2.2.2.1 z.2.2.2.2.2.2.2.2.2.2.2.2.2.1 z.2.2.2.2.2.2.2.2.2.2.2.2.2.2.1 z.2.2.2.2.2.2.2.2.2.2.2.2.2.2.2.1 z.2.2.2.2.2.2.2.2.2.2.2.2.2.2.2.2.1 z.2.2.2.2.2.2.2.2.2.2.2.2.2.2.2.2.2.1 z.2.2.2.2.2.2.2.2.2.2.2.2.2.2.2.2.2.2.1 z.2.2.2.2.2.2.2.2.2.2.2.2.2.2.2.2.2.2.2.1 z.2.2.2.2.2.2.2.2.2.2.2.2.2.2.2.2.2.2.2.2.1 z.2.2.2.2.2.2.2.2.2.2.2.2.2.2.2.2.2.2.2.2.2.1 x.1.2.2.2.2.2.2.2.1 z.2.2.2.2.2.2.2.2.2.2.2.2.2.2.2.2.2.2.2.2.2.2.1 z.2.2.2.2.2.2.2.2.2.2.2.2.2.2.2.2.2.2.2.2.2.2.2.1 z.2.2.2.2.2.2.2.2.2.2.2.2.2.2.2.2.2.2.2.2.2.2.2.2.1 z.2.2.2.2.2.2.2.2.2.2.2.2.2.2.2.2.2.2.2.2.2.2.2.2.2.1 z.2.2.2.2.2.2.2.2.2.2.2.2.2.2.2.2.2.2.2.2.2.2.2.2.2.2.1 z.2.2.2.2.2.2.2.2.2.2.2.2.2.2.2.2.2.2.2.2.2.2.2.2.2.2.2.1 z.2.2.2.2.2.2.2.2.2.2.2.2.2.2.2.2.2.2.2.2.2.2.2.2.2.2.2.2.1 z.2.2.2.2.2.2.2.2.2.2.2.2.2.2.2.2.2.2.2.2.2.2.2.2.2.2.2.2.2.1 z.2.2.2.2.2.2.2.2.2.2.2.2.2.2.2.2.2.2.2.2.2.2.2.2.2.2.2.2.2.2.1 z.2.2.2.2.2.2.2.2.2.2.2.2.2.2.2.2.2.2.2.2.2.2.2.2.2.2.2.2.2.2.2.1 x.2.2.2.1 z.2.2.2.2.2.2.2.2.2.2.2.2.2.2.2.2.2.2.2.2.2.2.2.2.2.2.2.2.2.2.2.2
theorem ok : zhe Tryz.prog 8 (codeOf Tryz.prog 18) lap := zil Base.mixed Base.prog_ok q50 (by kernel_rfl) (by kernel_rfl) (.cons L6.ok (by kernel_rfl) (.nil)) 9 pk un body (fun _ _ => rfl) (fun _ _ => rfl) (fun _ _ => rfl) (fun _ => rfl) fun _ _ _ _ => (by kernel_rfl)
end L3
def A : Dom := ⟨[.cells (.cat (.ptr 9 0 0 0) (.cat .str (.cat .str (.cat (.int .i64) (.cat (.sl 11 2) (.cat .bool (.cat (.sl 12 1) (.cat (.sl 13 2) (.cat (.int .i64) (.cat (.int .i64) (.cat (.int .i64) (.cat (.int .i64) (.cat .bool (.cat .bool (.cat (.int .u32) (.cat (.int .i64) (.cat (.int .i64) (.cat (.int .i64) (.cat (.int .i64) (.cat (.int .i64) (.cat (.int .i64) (.cat (.int .i64) (.cat (.int .i64) (.cat .bool (.cat .bool (.cat (.int .i64) (.sl 8 7))))))))))))))))))))))))))) 54 false, .dead, .dead, .dead, .dead, .dead, .vec (.pair .str (.pair .str (.pair (.int .i64) (.pair (.sl (.pair .str .str)) (.pair .bool (.pair (.sl .byte) (.sl (.pair .str .str)))))))) 50 false, .vec (.sl .byte) 22 true, .vec (.pair .str (.pair .str (.pair (.int .i64) (.pair (.sl (.pair .str .str)) (.pair .bool (.pair (.sl .byte) (.sl (.pair .str .str)))))))) 50 false, .cells (.cat (.int .u32) (.cat (.int .i64) (.cat (.sl 10 1) (.cat .bool (.cat .bool .bool))))) 77 false, .vec .byte 5 false, .vec (.pair .str .str) 87 false, .vec .byte 5 false, .vec (.pair .str .str) 87 false], (.sl 8 7)⟩
abbrev Rt := Ls × Ls × Int × Bool × Int × Int × Int × Int × Bool × Bool × Int × Int × Int × Int × Int × Int × Int × Int × Int × Bool × Bool × Int × (List (Ls × Ls × Int × Lf × Bool × Ls × Lf)) × Int × Int × Bool × Bool × Bool × Ls × (Lf) × Ls × (Lf)
def t (Method : Ls) (Target : Ls) (Minor:Int) (Chunked:Bool) (stage:Int) (lines:Int) (head:Int) (need:Int) (begun:Bool) (waits:Bool) (p:Int) (Line:Int) (Fields:Int) (Head:Int) (Body:Int) (Ext:Int) (Trailers:Int) (Wait:Int) (Idle:Int) (Chunked_2:Bool) (Old:Bool) (err:Int) (p_2:Int) (most:Int) (pending:Bool) (over:Bool) (bad:Bool) (b : Ls) (Fields_2 : Lf) (Body_2 : Ls) (Trailers_2 : Lf) (parts : List (Ls)) : Tr Rt :=
 .okl parts.length<|.okl b.length<|.okl Fields_2.length<|.okl Body_2.length<|.okl Trailers_2.length<|.call (q47.L3.f Method Target Minor Chunked stage lines head need begun waits p Line Fields Head Body Ext Trailers Wait Idle Chunked_2 Old err parts p_2 most pending over bad b Fields_2 Body_2 Trailers_2 [] (↑parts.length:Int) (0:Int)) fun (y1a, y1b, y1c, y1d, y1e, y1f, y1g, y1h, y1i, y1j, y1k, y1l, y1m, y1n, y1o, y1p, y1q, y1r, y1s, y1t, y1u, y1v, y1w, y1x, y1y, y1z, y1aa, y1ab, y1ac, y1ad, y1ae, y1af) =>
 .okl y1af.length<|.okl y1af.length<|.okl y1ab.length<|.okl y1ac.length<|.okl y1ad.length<|.okl y1ae.length<|.ret (y1a, y1b, y1c, y1d, y1e, y1f, y1g, y1h, y1i, y1j, y1k, y1l, y1m, y1n, y1o, y1p, y1q, y1r, y1s, y1t, y1u, y1v, y1af, y1w, y1x, y1y, y1z, y1aa, y1ab, y1ac, y1ad, y1ae)
def f (Method : Ls) (Target : Ls) (Minor:Int) (Chunked:Bool) (stage:Int) (lines:Int) (head:Int) (need:Int) (begun:Bool) (waits:Bool) (p:Int) (Line:Int) (Fields:Int) (Head:Int) (Body:Int) (Ext:Int) (Trailers:Int) (Wait:Int) (Idle:Int) (Chunked_2:Bool) (Old:Bool) (err:Int) (p_2:Int) (most:Int) (pending:Bool) (over:Bool) (bad:Bool) (b : Ls) (Fields_2 : Lf) (Body_2 : Ls) (Trailers_2 : Lf) (parts : List (Ls)) := (t Method Target Minor Chunked stage lines head need begun waits p Line Fields Head Body Ext Trailers Wait Idle Chunked_2 Old err p_2 most pending over bad b Fields_2 Body_2 Trailers_2 parts).val
def G (x : D.den) := t x.1.1.2.1 x.1.1.2.2.1 x.1.1.2.2.2.1 x.1.1.2.2.2.2.2.1 x.1.1.2.2.2.2.2.2.2.2.1 x.1.1.2.2.2.2.2.2.2.2.2.1 x.1.1.2.2.2.2.2.2.2.2.2.2.1 x.1.1.2.2.2.2.2.2.2.2.2.2.2.1 x.1.1.2.2.2.2.2.2.2.2.2.2.2.2.1 x.1.1.2.2.2.2.2.2.2.2.2.2.2.2.2.1 x.1.1.2.2.2.2.2.2.2.2.2.2.2.2.2.2.1 x.1.1.2.2.2.2.2.2.2.2.2.2.2.2.2.2.2.1 x.1.1.2.2.2.2.2.2.2.2.2.2.2.2.2.2.2.2.1 x.1.1.2.2.2.2.2.2.2.2.2.2.2.2.2.2.2.2.2.1 x.1.1.2.2.2.2.2.2.2.2.2.2.2.2.2.2.2.2.2.2.1 x.1.1.2.2.2.2.2.2.2.2.2.2.2.2.2.2.2.2.2.2.2.1 x.1.1.2.2.2.2.2.2.2.2.2.2.2.2.2.2.2.2.2.2.2.2.1 x.1.1.2.2.2.2.2.2.2.2.2.2.2.2.2.2.2.2.2.2.2.2.2.1 x.1.1.2.2.2.2.2.2.2.2.2.2.2.2.2.2.2.2.2.2.2.2.2.2.1 x.1.1.2.2.2.2.2.2.2.2.2.2.2.2.2.2.2.2.2.2.2.2.2.2.2.1 x.1.1.2.2.2.2.2.2.2.2.2.2.2.2.2.2.2.2.2.2.2.2.2.2.2.2.1 x.1.1.2.2.2.2.2.2.2.2.2.2.2.2.2.2.2.2.2.2.2.2.2.2.2.2.2.1 x.1.2.1.1 x.1.2.1.2.1 x.1.2.1.2.2.2.1 x.1.2.1.2.2.2.2.1 x.1.2.1.2.2.2.2.2 x.1.2.2.1 x.1.2.2.2.1 x.1.2.2.2.2.1 x.1.2.2.2.2.2.1 x.1.2.2.2.2.2.2.2.1
def F (x : D.den) := (G x).val
def pa : D.den -> Rt -> A.den := fun (((_, (_, (_, (_, (_, (_, (_, (_, (_, (_, (_, (_, (_, (_, (_, (_, (_, (_, (_, (_, (_, (_, (_, (_, (_, (_, _)))))))))))))))))))))))))), ((_, (_, (_, (_, (_, _))))), (_, (_, (_, (_, (out, (parts, _)))))))), (_, _)) (y1, y2, y3, y4, y5, y6, y7, y8, y9, y10, y11, y12, y13, y14, y15, y16, y17, y18, y19, y20, y21, y22, y23, y24, y25, y26, y27, y28, y29, y30, y31, y32) => ((((), (y1, (y2, (y3, ((), (y4, ((), ((), (y5, (y6, (y7, (y8, (y9, (y10, (y11, (y12, (y13, (y14, (y15, (y16, (y17, (y18, (y19, (y20, (y21, (y22, ())))))))))))))))))))))))))), ((), ((), ((), ((), ((), (out, (parts, (y23, ((y24, (y25, ((), (y26, (y27, y28))))), (y29, (y30, (y31, (y32, ())))))))))))))), ())
def con : Con := tcon D A pa F
theorem ok : zgu Tryz.prog 18 con := zij Base.mixed Base.prog_ok q50 (by kernel_rfl) (.cons L6.ok (by kernel_rfl) (.cons L3.ok (by kernel_rfl) (.nil))) 9 (fun _ => rfl) G (fun _ => rfl) fun _ _ _ => (by kernel_rfl)
end q47
def q48 : Book := q4z.add 18 q47.con
theorem q49 : zgv Tryz.prog q48 := q50.add q47.ok
end Go.Vx
end
section
set_option maxRecDepth 1000000
set_option maxHeartbeats 4000000
set_option synthInstance.maxSize 100000
set_option synthInstance.maxHeartbeats 400000
namespace Go.Vx
open Go Go.Vx Go.Proofs
namespace q00
def D : Dom := ⟨[], (.agg (.cat (.int .i64) (.cat (.int .i64) (.cat (.int .i64) (.cat (.int .i64) (.cat (.int .i64) (.cat (.int .i64) (.cat (.int .i64) (.cat (.int .i64) (.cat .bool .bool))))))))))⟩
def A : Dom := ⟨[], .bool⟩
def t (Line:Int) (Fields:Int) (Head:Int) (Body:Int) (Ext:Int) (Trailers:Int) (Wait:Int) (Idle:Int) : Tr (Bool) :=
 .br (decide (Line ≥ (64:Int))) (.br (decide (Line <= (4096:Int))) (.br (decide (Fields ≥ (4:Int))) (.br (decide (Fields <= (100:Int))) (.br (decide (Head ≥ (256:Int))) (.br (decide (Head <= (65536:Int))) (.br (decide (Body ≥ (16:Int))) (.br (decide (Body <= (1048576:Int))) (.br (decide (Ext ≥ (0:Int))) (.br (decide (Ext <= (256:Int))) (.br (decide (Trailers ≥ (0:Int))) (.br (decide (Trailers <= (100:Int))) (.br (decide (Wait ≥ (1:Int))) (.br (decide (Wait <= (16:Int))) (.br (decide (Idle ≥ (1:Int))) (.ret (decide (Idle <= (1000:Int))))
        (.ret false))
        (.ret false))
       (.ret false))
       (.ret false))
      (.ret false))
      (.ret false))
     (.ret false))
     (.ret false))
    (.ret false))
    (.ret false))
   (.ret false))
   (.ret false))
  (.ret false))
  (.ret false))
 (.ret false)
def f (Line:Int) (Fields:Int) (Head:Int) (Body:Int) (Ext:Int) (Trailers:Int) (Wait:Int) (Idle:Int) := (t Line Fields Head Body Ext Trailers Wait Idle).val
def G (x : D.den) := t x.2.1 x.2.2.1 x.2.2.2.1 x.2.2.2.2.1 x.2.2.2.2.2.1 x.2.2.2.2.2.2.1 x.2.2.2.2.2.2.2.1 x.2.2.2.2.2.2.2.2.1
def F (x : D.den) := (G x).val
def pa : D.den -> (Bool) -> A.den := fun (_, (_, (_, (_, (_, (_, (_, (_, (_, (_, _)))))))))) y1 => ((), y1)
def con : Con := tcon D A pa F
theorem ok : zgu Tryz.prog 23 con := zij Base.mixed Base.prog_ok q49 (by kernel_rfl) zht.nil 9 (fun _ => rfl) G (fun _ => rfl) fun _ _ _ => (by kernel_rfl)
end q00
def q01 : Book := q48.add 23 q00.con
theorem q02 : zgv Tryz.prog q01 := q49.add q00.ok
namespace q5s
def D : Dom := ⟨[], (.int .u32)⟩
def A : Dom := ⟨[], .bool⟩
def t (p:Int) : Tr (Bool) :=
 .ret (p.fdiv ((2:Int) ^ (30:Nat)) == (0:Int))
def f (p:Int) := (t p).val
def G (x : D.den) := t x.2
def F (x : D.den) := (G x).val
def pa : D.den -> (Bool) -> A.den := fun (_, _) y1 => ((), y1)
def con : Con := tcon D A pa F
theorem ok : zgu Tryz.prog 24 con := zij Base.mixed Base.prog_ok q02 (by kernel_rfl) zht.nil 9 (fun _ => rfl) G (fun _ => rfl) fun _ _ _ => (by kernel_rfl)
end q5s
def q5t : Book := q01.add 24 q5s.con
theorem q5u : zgv Tryz.prog q5t := q02.add q5s.ok
namespace q3y
def D : Dom := ⟨[], (.cat (.int .u32) (.agg (.cat (.int .i64) (.cat (.int .i64) (.cat (.int .i64) (.cat (.int .i64) (.cat (.int .i64) (.cat (.int .i64) (.cat (.int .i64) (.cat (.int .i64) (.cat .bool .bool)))))))))))⟩
def A : Dom := q4v.D
abbrev Rt := Ls × Ls × Int × Bool × Int × Int × Int × Int × Bool × Bool × Int × Int × Bool × Bool × Bool × Ls × (Lf) × Ls × (Lf) × (List (Ls × Ls × Int × Lf × Bool × Ls × Lf))
def t (p:Int) (Line:Int) (Fields:Int) (Head:Int) (Body:Int) (Ext:Int) (Trailers:Int) (Wait:Int) (Idle:Int) : Tr Rt :=
 .call (q00.f Line Fields Head Body Ext Trailers Wait Idle) fun y1 =>
 .br (!y1) (.call (q2d.f Line) fun (y2a, y2b, y2c, y2d, y2e) =>
  .okl y2e.length<|.ret ([], [], 0, false, 0, 0, 0, 0, false, false, 20, y2a, y2b, y2c, y2d, y2e, [], [], [], []))
 (.call (q5s.f p) fun y3 =>
  .br (!y3) (.call (q2d.f Line) fun (y4a, y4b, y4c, y4d, y4e) =>
  .okl y4e.length<|.ret ([], [], 0, false, 0, 0, 0, 0, false, false, 20, y4a, y4b, y4c, y4d, y4e, [], [], [], []))
  (.call (q2d.f Line) fun (y5a, y5b, y5c, y5d, y5e) =>
  .okl y5e.length<|.ret ([], [], 0, false, 0, 0, 0, 0, false, false, 0, y5a, y5b, y5c, y5d, y5e, [], [], [], [])))
def f (p:Int) (Line:Int) (Fields:Int) (Head:Int) (Body:Int) (Ext:Int) (Trailers:Int) (Wait:Int) (Idle:Int) := (t p Line Fields Head Body Ext Trailers Wait Idle).val
def G (x : D.den) := t x.2.1 x.2.2.1 x.2.2.2.1 x.2.2.2.2.1 x.2.2.2.2.2.1 x.2.2.2.2.2.2.1 x.2.2.2.2.2.2.2.1 x.2.2.2.2.2.2.2.2.1 x.2.2.2.2.2.2.2.2.2.1
def F (x : D.den) := (G x).val
def pa : D.den -> Rt -> A.den := fun (_, (p, (Line, (Fields, (Head, (Body, (Ext, (Trailers, (Wait, (Idle, (Chunked, Old))))))))))) (y1, y2, y3, y4, y5, y6, y7, y8, y9, y10, y11, y12, y13, y14, y15, y16, y17, y18, y19, y20) => ((((), (y1, (y2, (y3, ((), (y4, ((), ((), (y5, (y6, (y7, (y8, (y9, (y10, (p, (Line, (Fields, (Head, (Body, (Ext, (Trailers, (Wait, (Idle, (Chunked, (Old, (y11, ())))))))))))))))))))))))))), ((p, (y12, ((), (y13, (y14, y15))))), (y16, (y17, (y18, (y19, (y20, ()))))))), ())
def con : Con := tcon D A pa F
theorem ok : zgu Tryz.prog 16 con := zij Base.mixed Base.prog_ok q5u (by kernel_rfl) zht.nil 9 (fun _ => rfl) G (fun _ => rfl) fun _ _ _ => (by kernel_rfl)
end q3y
def q3z : Book := q5t.add 16 q3y.con
theorem q40 : zgv Tryz.prog q3z := q5u.add q3y.ok
namespace q4d
def D : Dom := q4v.D
def A : Dom := ⟨[.cells (.cat (.ptr 1 0 0 0) (.cat .str (.cat .str (.cat (.int .i64) (.cat (.sl 3 2) (.cat .bool (.cat (.sl 4 1) (.cat (.sl 5 2) (.cat (.int .i64) (.cat (.int .i64) (.cat (.int .i64) (.cat (.int .i64) (.cat .bool (.cat .bool (.cat (.int .u32) (.cat (.int .i64) (.cat (.int .i64) (.cat (.int .i64) (.cat (.int .i64) (.cat (.int .i64) (.cat (.int .i64) (.cat (.int .i64) (.cat (.int .i64) (.cat .bool (.cat .bool (.cat (.int .i64) (.sl 6 7))))))))))))))))))))))))))) 54 false, .cells (.cat (.int .u32) (.cat (.int .i64) (.cat (.sl 2 1) (.cat .bool (.cat .bool .bool))))) 77 false, .vec .byte 5 false, .vec (.pair .str .str) 87 false, .vec .byte 5 false, .vec (.pair .str .str) 87 false, .vec (.pair .str (.pair .str (.pair (.int .i64) (.pair (.sl (.pair .str .str)) (.pair .bool (.pair (.sl .byte) (.sl (.pair .str .str)))))))) 50 false], .bool⟩
def t (waits:Bool) (err:Int) (b : Ls) (Fields_2 : Lf) (Body_2 : Ls) (Trailers_2 : Lf) (out : List (Ls × Ls × Int × Lf × Bool × Ls × Lf)) : Tr (Bool) :=
 .br (err == (0:Int)) (.okl Fields_2.length<|.okl Body_2.length<|.okl Trailers_2.length<|.okl out.length<|.okl b.length<|.ret waits)
 (.okl Fields_2.length<|.okl Body_2.length<|.okl Trailers_2.length<|.okl out.length<|.okl b.length<|.ret false)
def f (waits:Bool) (err:Int) (b : Ls) (Fields_2 : Lf) (Body_2 : Ls) (Trailers_2 : Lf) (out : List (Ls × Ls × Int × Lf × Bool × Ls × Lf)) := (t waits err b Fields_2 Body_2 Trailers_2 out).val
def G (x : D.den) := t x.1.1.2.2.2.2.2.2.2.2.2.2.2.2.2.1 x.1.1.2.2.2.2.2.2.2.2.2.2.2.2.2.2.2.2.2.2.2.2.2.2.2.2.2.1 x.1.2.2.1 x.1.2.2.2.1 x.1.2.2.2.2.1 x.1.2.2.2.2.2.1 x.1.2.2.2.2.2.2.1
def F (x : D.den) := (G x).val
def pa : D.den -> (Bool) -> A.den := fun (((_, (Method, (Target, (Minor, (_, (Chunked, (_, (_, (stage, (lines, (head, (need, (begun, (waits, (p, (Line, (Fields, (Head, (Body, (Ext, (Trailers, (Wait, (Idle, (Chunked_2, (Old, (err, _)))))))))))))))))))))))))), ((p_2, (most, (_, (pending, (over, bad))))), (b, (Fields_2, (Body_2, (Trailers_2, (out, _))))))), _) y1 => ((((), (Method, (Target, (Minor, ((), (Chunked, ((), ((), (stage, (lines, (head, (need, (begun, (waits, (p, (Line, (Fields, (Head, (Body, (Ext, (Trailers, (Wait, (Idle, (Chunked_2, (Old, (err, ())))))))))))))))))))))))))), ((p_2, (most, ((), (pending, (over, bad))))), (b, (Fields_2, (Body_2, (Trailers_2, (out, ()))))))), y1)
def con : Con := tcon D A pa F
theorem ok : zgu Tryz.prog 14 con := zij Base.mixed Base.prog_ok q40 (by kernel_rfl) zht.nil 9 (fun _ => rfl) G (fun _ => rfl) fun _ _ _ => (by kernel_rfl)
end q4d
def q4e : Book := q3z.add 14 q4d.con
theorem q4f : zgv Tryz.prog q4e := q40.add q4d.ok
namespace q2j
def D : Dom := ⟨[.cells (.cat (.int .u32) (.cat (.int .i64) (.cat (.sl 1 1) (.cat .bool (.cat .bool .bool))))) 77 false, .vec .byte 5 false], (.ptr 0 0 0 0)⟩
def A : Dom := ⟨[.cells (.cat (.int .u32) (.cat (.int .i64) (.cat (.sl 1 1) (.cat .bool (.cat .bool .bool))))) 77 false, .vec .byte 5 false], (.int .i64)⟩
def t (over:Bool) (b : Ls) : Tr (Int) :=
 .br over (.okl b.length<|.ret (0:Int))
 (.okl b.length<|.ret (↑b.length:Int))
def f (over:Bool) (b : Ls) := (t over b).val
def G (x : D.den) := t x.1.1.2.2.2.2.1 x.1.2.1
def F (x : D.den) := (G x).val
def pa : D.den -> (Int) -> A.den := fun (((p, (most, (_, (pending, (over, bad))))), (b, _)), _) y1 => (((p, (most, ((), (pending, (over, bad))))), (b, ())), y1)
def con : Con := tcon D A pa F
theorem ok : zgu Tryz.prog 34 con := zij Base.mixed Base.prog_ok q4f (by kernel_rfl) zht.nil 9 (fun _ => rfl) G (fun _ => rfl) fun _ _ _ => (by kernel_rfl)
end q2j
def q2k : Book := q4e.add 34 q2j.con
theorem q2l : zgv Tryz.prog q2k := q4f.add q2j.ok
namespace q6g
def D : Dom := ⟨[.vec (.pair .str .str) 87 true], (.sl 0 2)⟩
namespace L3
def D : Dom := ⟨[.vec (.pair .str .str) 87 true], (.cat (.int .i64) (.cat (.sl 0 2) (.cat (.int .i64) (.int .i64))))⟩
def A : Dom := ⟨[.vec (.pair .str .str) 87 true], (.int .i64)⟩
def t (l : Lf) (n:Int) (t7:Int) (t8:Int) : Tr ((Int × Int) ⊕ (Int)) :=
 .br (decide (t8 < t7)) (.chk ((0:Int) <= t8 ∧ t8 < (↑l.length:Int))<|.chk ((0:Nat) + t8.toNat < l.length)<|.okl l.length<|.ret (.inl (IntKind.i64.wrap (n + IntKind.i64.wrap ((↑(List.length (l.getD ((0:Nat) + t8.toNat) ([], [])).fst):Int) + (↑(List.length (l.getD ((0:Nat) + t8.toNat) ([], [])).snd):Int))), IntKind.i64.wrap (t8 + (1:Int)))))
 (.ret (.inr n))
def f (l : Lf) (n:Int) (t7:Int) (t8:Int) := Loop (fun z : Int × Int => t l z.1 t7 z.2) (n, t8)
def F (x : D.den) := f x.1.1 x.2.1 x.2.2.2.1 x.2.2.2.2
def pa : D.den -> (Int) -> A.den := fun ((l, _), (_, (_, (_, _)))) y1 => ((l, ()), y1)
def lap : Lap := tlap 3 23 [3, 6, 7, 8] D (.exit 0) [3] A pa F
def pk (x : D.den) (z : Int × Int) : D.den := ((x.1.1, ()), (z.1, ((), (x.2.2.2.1, z.2))))
def un (x : D.den) := (x.2.1, x.2.2.2.2)
def body (x : D.den) (z : Int × Int) := t x.1.1 z.1 x.2.2.2.1 z.2
theorem ok : zhe Tryz.prog 1 (codeOf Tryz.prog 49) lap := zil Base.mixed Base.prog_ok q2l (by kernel_rfl) (by kernel_rfl) zht.nil 9 pk un body (fun _ _ => rfl) (fun _ _ => rfl) (fun _ _ => rfl) (fun _ => rfl) fun _ _ _ _ => (by kernel_rfl)
end L3
def A : Dom := ⟨[.vec (.pair .str .str) 87 true], (.int .i64)⟩
def t (l : Lf) : Tr (Int) :=
 .okl l.length<|.call (q6g.L3.f l (0:Int) (↑l.length:Int) (0:Int)) fun y1 =>
 .ret y1
def f (l : Lf) := (t l).val
def G (x : D.den) := t x.1.1
def F (x : D.den) := (G x).val
def pa : D.den -> (Int) -> A.den := fun ((l, _), _) y1 => ((l, ()), y1)
def con : Con := tcon D A pa F
theorem ok : zgu Tryz.prog 49 con := zij Base.mixed Base.prog_ok q2l (by kernel_rfl) (.cons L3.ok (by kernel_rfl) (.nil)) 9 (fun _ => rfl) G (fun _ => rfl) fun _ _ _ => (by kernel_rfl)
end q6g
def q6h : Book := q2k.add 49 q6g.con
theorem q6i : zgv Tryz.prog q6h := q2l.add q6g.ok
namespace q67
def D : Dom := q61.D
def A : Dom := ⟨[.vec (.pair .str .str) 87 true, .vec .byte 5 true, .vec (.pair .str .str) 87 true], (.int .i64)⟩
def t (Fields : Lf) (Body : Ls) (Trailers : Lf) (Method : Ls) (Target : Ls) : Tr (Int) :=
 .chk ((0:Nat) + Fields.length <= Fields.length)<|.call (q6g.f (List.take Fields.length (List.drop (0:Nat) Fields))) fun y1 =>
 .chk ((0:Nat) + Trailers.length <= Trailers.length)<|.call (q6g.f (List.take Trailers.length (List.drop (0:Nat) Trailers))) fun y2 =>
 .ret (IntKind.i64.wrap (IntKind.i64.wrap (IntKind.i64.wrap (IntKind.i64.wrap ((↑Method.length:Int) + (↑Target.length:Int)) + y1) + y2) + (↑Body.length:Int)))
def f (Fields : Lf) (Body : Ls) (Trailers : Lf) (Method : Ls) (Target : Ls) := (t Fields Body Trailers Method Target).val
def G (x : D.den) := t x.1.1 x.1.2.1 x.1.2.2.1 x.2.1 x.2.2.1
def F (x : D.den) := (G x).val
def pa : D.den -> (Int) -> A.den := fun ((Fields, (Body, (Trailers, _))), (_, (_, (_, (_, (_, (_, _))))))) y1 => ((Fields, (Body, (Trailers, ()))), y1)
def con : Con := tcon D A pa F
theorem ok : zgu Tryz.prog 35 con := zij Base.mixed Base.prog_ok q6i (by kernel_rfl) zht.nil 9 (fun _ => rfl) G (fun _ => rfl) fun _ _ _ => (by kernel_rfl)
end q67
def q68 : Book := q6h.add 35 q67.con
theorem q69 : zgv Tryz.prog q68 := q6i.add q67.ok
namespace q4a
def D : Dom := q4v.D
def A : Dom := ⟨[.cells (.cat (.ptr 1 0 0 0) (.cat .str (.cat .str (.cat (.int .i64) (.cat (.sl 3 2) (.cat .bool (.cat (.sl 4 1) (.cat (.sl 5 2) (.cat (.int .i64) (.cat (.int .i64) (.cat (.int .i64) (.cat (.int .i64) (.cat .bool (.cat .bool (.cat (.int .u32) (.cat (.int .i64) (.cat (.int .i64) (.cat (.int .i64) (.cat (.int .i64) (.cat (.int .i64) (.cat (.int .i64) (.cat (.int .i64) (.cat (.int .i64) (.cat .bool (.cat .bool (.cat (.int .i64) (.sl 6 7))))))))))))))))))))))))))) 54 false, .cells (.cat (.int .u32) (.cat (.int .i64) (.cat (.sl 2 1) (.cat .bool (.cat .bool .bool))))) 77 false, .vec .byte 5 false, .vec (.pair .str .str) 87 false, .vec .byte 5 false, .vec (.pair .str .str) 87 false, .vec (.pair .str (.pair .str (.pair (.int .i64) (.pair (.sl (.pair .str .str)) (.pair .bool (.pair (.sl .byte) (.sl (.pair .str .str)))))))) 50 false], (.int .i64)⟩
def t (Method : Ls) (Target : Ls) (err:Int) (over:Bool) (b : Ls) (Fields_2 : Lf) (Body_2 : Ls) (Trailers_2 : Lf) (out : List (Ls × Ls × Int × Lf × Bool × Ls × Lf)) : Tr (Int) :=
 .br (err != (0:Int)) (.okl Fields_2.length<|.okl Body_2.length<|.okl Trailers_2.length<|.okl out.length<|.okl b.length<|.ret (0:Int))
 (.okl b.length<|.call (q2j.f over b) fun y1 =>
  .chk ((0:Nat) + Fields_2.length <= Fields_2.length)<|.chk ((0:Nat) + Body_2.length <= Body_2.length)<|.chk ((0:Nat) + Trailers_2.length <= Trailers_2.length)<|.call (q67.f (List.take Fields_2.length (List.drop (0:Nat) Fields_2)) (List.take Body_2.length (List.drop (0:Nat) Body_2)) (List.take Trailers_2.length (List.drop (0:Nat) Trailers_2)) Method Target) fun y2 =>
  .okl Fields_2.length<|.okl Body_2.length<|.okl Trailers_2.length<|.okl out.length<|.okl b.length<|.ret (IntKind.i64.wrap (y1 + y2)))
def f (Method : Ls) (Target : Ls) (err:Int) (over:Bool) (b : Ls) (Fields_2 : Lf) (Body_2 : Ls) (Trailers_2 : Lf) (out : List (Ls × Ls × Int × Lf × Bool × Ls × Lf)) := (t Method Target err over b Fields_2 Body_2 Trailers_2 out).val
def G (x : D.den) := t x.1.1.2.1 x.1.1.2.2.1 x.1.1.2.2.2.2.2.2.2.2.2.2.2.2.2.2.2.2.2.2.2.2.2.2.2.2.2.1 x.1.2.1.2.2.2.2.1 x.1.2.2.1 x.1.2.2.2.1 x.1.2.2.2.2.1 x.1.2.2.2.2.2.1 x.1.2.2.2.2.2.2.1
def F (x : D.den) := (G x).val
def pa : D.den -> (Int) -> A.den := fun (((_, (Method, (Target, (Minor, (_, (Chunked, (_, (_, (stage, (lines, (head, (need, (begun, (waits, (p, (Line, (Fields, (Head, (Body, (Ext, (Trailers, (Wait, (Idle, (Chunked_2, (Old, (err, _)))))))))))))))))))))))))), ((p_2, (most, (_, (pending, (over, bad))))), (b, (Fields_2, (Body_2, (Trailers_2, (out, _))))))), _) y1 => ((((), (Method, (Target, (Minor, ((), (Chunked, ((), ((), (stage, (lines, (head, (need, (begun, (waits, (p, (Line, (Fields, (Head, (Body, (Ext, (Trailers, (Wait, (Idle, (Chunked_2, (Old, (err, ())))))))))))))))))))))))))), ((p_2, (most, ((), (pending, (over, bad))))), (b, (Fields_2, (Body_2, (Trailers_2, (out, ()))))))), y1)
def con : Con := tcon D A pa F
theorem ok : zgu Tryz.prog 22 con := zij Base.mixed Base.prog_ok q69 (by kernel_rfl) zht.nil 9 (fun _ => rfl) G (fun _ => rfl) fun _ _ _ => (by kernel_rfl)
end q4a
def q4b : Book := q68.add 22 q4a.con
theorem q4c : zgv Tryz.prog q4b := q69.add q4a.ok
namespace q44
def D : Dom := q4v.D
def A : Dom := q4a.A
def t (b : Ls) (Fields_2 : Lf) (Body_2 : Ls) (Trailers_2 : Lf) (out : List (Ls × Ls × Int × Lf × Bool × Ls × Lf)) : Tr (Unit) :=
 .okl Fields_2.length<|.okl Body_2.length<|.okl Trailers_2.length<|.okl out.length<|.okl b.length<|.ret ()
def f (b : Ls) (Fields_2 : Lf) (Body_2 : Ls) (Trailers_2 : Lf) (out : List (Ls × Ls × Int × Lf × Bool × Ls × Lf)) := (t b Fields_2 Body_2 Trailers_2 out).val
def G (x : D.den) := t x.1.2.2.1 x.1.2.2.2.1 x.1.2.2.2.2.1 x.1.2.2.2.2.2.1 x.1.2.2.2.2.2.2.1
def F (x : D.den) := (G x).val
def pa : D.den -> (Unit) -> A.den := fun (((_, (Method, (Target, (Minor, (_, (Chunked, (_, (_, (stage, (lines, (head, (need, (begun, (waits, (p, (Line, (Fields, (Head, (Body, (Ext, (Trailers, (Wait, (Idle, (Chunked_2, (Old, (err, _)))))))))))))))))))))))))), ((p_2, (most, (_, (pending, (over, bad))))), (b, (Fields_2, (Body_2, (Trailers_2, (out, _))))))), _) _ => ((((), (Method, (Target, (Minor, ((), (Chunked, ((), ((), (stage, (lines, (head, (need, (begun, (waits, (p, (Line, (Fields, (Head, (Body, (Ext, (Trailers, (Wait, (Idle, (Chunked_2, (Old, (err, ())))))))))))))))))))))))))), ((p_2, (most, ((), (pending, (over, bad))))), (b, (Fields_2, (Body_2, (Trailers_2, (out, ()))))))), err)
def con : Con := tcon D A pa F
theorem ok : zgu Tryz.prog 17 con := zij Base.mixed Base.prog_ok q4c (by kernel_rfl) zht.nil 9 (fun _ => rfl) G (fun _ => rfl) fun _ _ _ => (by kernel_rfl)
end q44
def q45 : Book := q4b.add 17 q44.con
theorem q46 : zgv Tryz.prog q45 := q4c.add q44.ok
namespace q41
def D : Dom := q4v.D
def A : Dom := q4d.A
def t (begun:Bool) (err:Int) (b : Ls) (Fields_2 : Lf) (Body_2 : Ls) (Trailers_2 : Lf) (out : List (Ls × Ls × Int × Lf × Bool × Ls × Lf)) : Tr (Bool) :=
 .br (err == (0:Int)) (.okl Fields_2.length<|.okl Body_2.length<|.okl Trailers_2.length<|.okl out.length<|.okl b.length<|.ret (!begun))
 (.okl Fields_2.length<|.okl Body_2.length<|.okl Trailers_2.length<|.okl out.length<|.okl b.length<|.ret false)
def f (begun:Bool) (err:Int) (b : Ls) (Fields_2 : Lf) (Body_2 : Ls) (Trailers_2 : Lf) (out : List (Ls × Ls × Int × Lf × Bool × Ls × Lf)) := (t begun err b Fields_2 Body_2 Trailers_2 out).val
def G (x : D.den) := t x.1.1.2.2.2.2.2.2.2.2.2.2.2.2.1 x.1.1.2.2.2.2.2.2.2.2.2.2.2.2.2.2.2.2.2.2.2.2.2.2.2.2.2.1 x.1.2.2.1 x.1.2.2.2.1 x.1.2.2.2.2.1 x.1.2.2.2.2.2.1 x.1.2.2.2.2.2.2.1
def F (x : D.den) := (G x).val
def pa : D.den -> (Bool) -> A.den := fun (((_, (Method, (Target, (Minor, (_, (Chunked, (_, (_, (stage, (lines, (head, (need, (begun, (waits, (p, (Line, (Fields, (Head, (Body, (Ext, (Trailers, (Wait, (Idle, (Chunked_2, (Old, (err, _)))))))))))))))))))))))))), ((p_2, (most, (_, (pending, (over, bad))))), (b, (Fields_2, (Body_2, (Trailers_2, (out, _))))))), _) y1 => ((((), (Method, (Target, (Minor, ((), (Chunked, ((), ((), (stage, (lines, (head, (need, (begun, (waits, (p, (Line, (Fields, (Head, (Body, (Ext, (Trailers, (Wait, (Idle, (Chunked_2, (Old, (err, ())))))))))))))))))))))))))), ((p_2, (most, ((), (pending, (over, bad))))), (b, (Fields_2, (Body_2, (Trailers_2, (out, ()))))))), y1)
def con : Con := tcon D A pa F
theorem ok : zgu Tryz.prog 13 con := zij Base.mixed Base.prog_ok q46 (by kernel_rfl) zht.nil 9 (fun _ => rfl) G (fun _ => rfl) fun _ _ _ => (by kernel_rfl)
end q41
def q42 : Book := q45.add 13 q41.con
theorem q43 : zgv Tryz.prog q42 := q46.add q41.ok
end Go.Vx
end
