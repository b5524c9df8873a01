/- Printed by a program of ours out of our texts: the evaluator, the printed functions, the plain laws. (A help: no statement of the seat is proved here.) -/
import Derived.Test.YtacjljomokobiaaGreatDoorPUE
import Derived.Lib.FieldsP
section
set_option linter.unusedVariables false
set_option linter.unusedSimpArgs false
set_option maxRecDepth 100000
namespace Go.Vx
namespace Pl
open Go Go.Proofs
def Good (C : Cfg) (n : Nat) (S : PS) : Prop := Inv C n S ∧ Live C S
theorem Good.mono {C : Cfg} {n m : Nat} {S : PS} (h : Good C n S) (hn : n ≤ m) : Good C m S := ⟨h.1.mono hn, h.2⟩
theorem live_bodyB {C : Cfg} {S : PS} (hC : CfgOk C) (h : Live C S) (he : S.err = 0) (c : UInt8) : Live C (S.bodyB C c) := by
 obtain ⟨h1, h2, h3⟩ := h he
 have hch := hC.head
 unfold PS.bodyB
 simp only
 split
 ·exact fun _ => ⟨h1, h2, fun _ => by simp only; omega⟩
 ·split
  ·exact fun _ => ⟨by show (0 : Int) ≤ 100; omega, by show (0 : Int) ≤ C.head; omega, fun h => by rcases h with h | h <;> cases h⟩
  ·exact fun _ => ⟨h1, h2, fun h => by rcases h with h | h <;> cases h⟩
theorem tail_good {rec : PS → UInt8 → Bool → PS} {C : Cfg} {n k : Nat} {U : PS} (hC : CfgOk C) (hn : n ≤ 100000000) (hk : 3 ≤ k) (c : UInt8) (hrec : ∀ T b, Good C (n + 1) T → Good C (n + k) (rec T c b)) (h : Good C n U) (he : U.err = 0) (h24 : ¬ (U.stage = 2 ∨ U.stage = 4)) : Good C (n + k) (U.tailG rec C c (U.lineB C c)) := by
 obtain ⟨h1, h2, h3⟩ := h.2 he
 have hI := h.1.lineB hC (by omega) c
 obtain ⟨pe, ov, ba, bb, q, hr⟩ := lineB_eta C U c
 rw [hr] at hI ⊢
 simp only at hI
 have hE : Good C (n + 1) (PS.ended C { U with pend := pe, over := ov, bad := ba, b := bb }) := ⟨hI.ended hC h1, live_ended hC h1 h2 h24⟩
 have hF : ∀ e, Good C n (PS.fail { U with pend := pe, over := ov, bad := ba, b := bb } e) := fun e => ⟨hI.fail e, fun _ => ⟨h1, h2, h3⟩⟩
 unfold PS.tailG
 simp only
 split
 ·exact hE.mono (by omega)
 ·split
  ·exact hrec _ _ hE
  ·split
   ·unfold PS.longG
    split
    ·exact (hF _).mono (by omega)
    ·split
     ·exact (hF _).mono (by omega)
     ·split
      ·exact (hF _).mono (by omega)
      ·split
       ·rename_i h5
        split
        ·have h6 : ¬ (U.stage = 6) := by
          have : U.stage = 5 := h5
          omega
         exact hrec _ _ ⟨(hI.to3 hC h6).mono (by omega), fun _ => ⟨h1, h2, fun h => by rcases h with h | h <;> cases h⟩⟩
        ·exact (hF _).mono (by omega)
       ·exact (hF _).mono (by omega)
   ·split
    ·exact (hF _).mono (by omega)
    ·exact ⟨hI.mono (by omega), fun _ => ⟨h1, h2, h3⟩⟩
theorem counted_ok {C : Cfg} {S : PS} (h : (S.counted C).2 = true) (he : S.err = 0) : (S.counted C).1.err = 0 := by
 unfold PS.counted at h ⊢
 split
 ·exact he
 ·split
  ·rename_i h1 h2
   rw [if_neg h1, if_pos h2] at h
   cases h
  ·exact he
theorem live_counted {C : Cfg} {S : PS} (h : Live C S) (he : S.err = 0) : Live C (S.counted C).1 := by
 obtain ⟨h1, h2, h3⟩ := h he
 unfold PS.counted
 split
 ·exact h
 ·split
  ·exact fun he => absurd he (by simp)
  ·exact fun _ => ⟨h1, by simp only; omega, h3⟩
theorem stepG_good {rec : PS → UInt8 → Bool → PS} {C : Cfg} {n k : Nat} {S : PS} (hC : CfgOk C) (hn : n ≤ 100000000) (hk : 3 ≤ k) (c : UInt8) (cnt : Bool) (hrec : ∀ T b, Good C (n + 1) T → Good C (n + k) (rec T c b)) (h : Good C n S) : Good C (n + k) (S.stepG rec C c cnt) := by
 unfold PS.stepG
 by_cases he : S.err = 0
 ·rw [if_neg (by simp [he])]
  obtain ⟨h1, h2, h3⟩ := h.2 he
  by_cases h24 : S.stage = 2 ∨ S.stage = 4
  ·rw [if_pos h24]
   exact ⟨(h.1.bodyB hC h24 (h3 h24) c).mono (by omega), live_bodyB hC h.2 he c⟩
  ·rw [if_neg h24]
   cases cnt with
   | true =>
    rw [if_pos rfl]
    have hc : Good C n (S.mark.counted C).1 := ⟨h.1.mark.counted hC h2, live_counted h.2 he⟩
    by_cases hk2 : (S.mark.counted C).2 = false
    ·rw [if_pos hk2]; exact hc.mono (by omega)
    ·rw [if_neg hk2]
     refine tail_good hC hn hk c hrec hc (counted_ok (by simpa using hk2) he) ?_
     rw [counted_stage]; exact h24
   | false =>
    rw [if_neg (by simp)]
    exact tail_good hC hn hk c hrec ⟨h.1.mark, h.2⟩ he h24
 ·rw [if_pos he]; exact h.mono (by omega)
theorem step1_good {C : Cfg} {n : Nat} {S : PS} (hC : CfgOk C) (hn : n ≤ 100000000) (c : UInt8) (cnt : Bool) (h : Good C n S) : Good C (n + 3) (S.step1 C c cnt) := stepG_good hC hn (Nat.le_refl _) c cnt (fun T b hT => hT.mono (by omega)) h
theorem step_good {C : Cfg} {n : Nat} {S : PS} (hC : CfgOk C) (hn : n ≤ 90000000) (c : UInt8) (cnt : Bool) (h : Good C n S) : Good C (n + 4) (S.step C c cnt) := stepG_good hC (by omega) (by omega) c cnt (fun T b hT => (step1_good hC (by omega) c b hT).mono (by omega)) h
theorem lineB_two {C : Cfg} {S : PS} {c : UInt8} (h : (S.lineB C c).2 = 2) : (S.lineB C c).1.over = true ∧ (S.lineB C c).1.pend = false := by
 unfold PS.lineB at h ⊢
 by_cases hb : S.bad = true
 ·rw [if_pos hb] at h; cases h
 ·rw [if_neg hb] at h ⊢
  by_cases hp : S.pend = true
  ·rw [if_pos hp] at h ⊢
   by_cases h10 : c = 10
   ·rw [if_pos h10] at h; cases h
   ·rw [if_neg h10] at h ⊢
    by_cases h2 : hasD C.p 2 = true
    ·rw [if_pos h2]; exact ⟨rfl, rfl⟩
    ·rw [if_neg h2] at h; cases h
  ·rw [if_neg hp] at h
   by_cases h13 : c = 13
   ·rw [if_pos h13] at h; cases h
   ·rw [if_neg h13] at h
    by_cases h10 : c = 10
    ·rw [if_pos h10] at h
     by_cases h1 : hasD C.p 1 = true
     ·rw [if_pos h1] at h; cases h
     ·rw [if_neg h1] at h; cases h
    ·rw [if_neg h10] at h
     by_cases hl : ((if S.over = true then ([] : Bs) else S.b).length : Int) ≥ S.most
     ·rw [if_pos hl] at h; cases h
     ·rw [if_neg hl] at h; cases h
theorem step_r1_g {C : Cfg} {n : Nat} {S : PS} (hC : CfgOk C) (hn : n ≤ 100000000) (c : UInt8) (counts : Bool) (h : Good C n S) (hL : LinesOk C) (hN : NoRec S) :
  q54.f S.method S.target S.minor S.chunked S.stage S.lines S.head S.need S.begun S.waits C.p C.line C.fields C.head C.body C.ext C.trailers C.wait C.idle C.chunked C.old S.err C.p S.most S.pend S.over S.bad S.b S.fields S.body S.trailers S.out (c.toNat : Int) counts = some ((S.step1 C c counts).tupS C) :=
 step_r1_f c counts (h.1.small hC (by omega)) (by have := h.1.head; omega) hL (fun _ _ _ => hN)
theorem long_r2_f {C : Cfg} {n : Nat} {S : PS} (hC : CfgOk C) (hn : n ≤ 90000000) (c : UInt8) (h : Inv C n S) (hv : S.lines ≤ 100 ∧ S.head ≤ C.head) (hL : LinesOk C) :
  q4v.f S.method S.target S.minor S.chunked S.stage S.lines S.head S.need S.begun S.waits C.p C.line C.fields C.head C.body C.ext C.trailers C.wait C.idle C.chunked C.old S.err C.p S.most S.pend S.over S.bad S.b S.fields S.body S.trailers S.out (c.toNat : Int) = some ((S.longG (PS.step1 C) C c).tupS C) := by
 have hline := hC.line
 unfold q4v.f q4v.t PS.longG
 rw [ifB _ _ (beq_dec S.stage 0)]
 by_cases s0 : S.stage = 0
 ·rw [if_pos s0, if_pos s0]; rfl
 ·rw [if_neg s0, if_neg s0, ifB _ _ (beq_dec S.stage 1)]
  by_cases s1 : S.stage = 1
  ·rw [if_pos s1, if_pos s1]; rfl
  ·rw [if_neg s1, if_neg s1, ifB _ _ (beq_dec S.stage 6)]
   by_cases s6 : S.stage = 6
   ·rw [if_pos s6, if_pos s6]; rfl
   ·rw [if_neg s6, if_neg s6, ifB _ _ (beq_dec S.stage 5)]
    by_cases s5 : S.stage = 5
    ·rw [if_pos s5, if_pos s5]
     repeat rw [vokl]
     rw [has_f, Tr.val_call rfl]
     cases h29 : hasD C.p 29 with
     | false => rfl
     | true =>
      rw [vtrue, if_pos rfl]
      repeat rw [vokl]
      rw [to_f (C := C) (S := S) 3, Tr.val_call rfl]
      have hg : Good C n (S.to C 3) := ⟨h.to3 hC s6, fun _ => ⟨hv.1, hv.2, fun h => by rcases h with h | h <;> cases h⟩⟩
      have hnr : NoRec (S.to C 3) := by
       refine ⟨rfl, ?_⟩
       rw [hg.1.most]
       show ((0 : Nat) : Int) < (if (3 : Int) = 5 then 0 else C.line)
       rw [if_neg (by decide)]
       omega
      have h1 := step_r1_g hC (by omega) c true hg hL hnr
      dsimp only
      repeat rw [vokl]
      rw [show q54.f S.method S.target S.minor S.chunked 3 S.lines S.head S.need S.begun S.waits C.p C.line C.fields C.head C.body C.ext C.trailers C.wait C.idle C.chunked C.old S.err C.p (lineMost (if (3 : Int) = 5 then 0 else C.line)) false false false [] S.fields S.body S.trailers S.out (c.toNat : Int) true = _ from h1, Tr.val_call rfl]
      rfl
    ·rw [if_neg s5, if_neg s5]; rfl
theorem step_r2_f {C : Cfg} {n : Nat} {S : PS} (hC : CfgOk C) (hn : n ≤ 80000000) (c : UInt8) (counts : Bool) (hG : Good C n S) (hL : LinesOk C) :
  q57.f S.method S.target S.minor S.chunked S.stage S.lines S.head S.need S.begun S.waits C.p C.line C.fields C.head C.body C.ext C.trailers C.wait C.idle C.chunked C.old S.err C.p S.most S.pend S.over S.bad S.b S.fields S.body S.trailers S.out (c.toNat : Int) counts = some ((S.step C c counts).tupS C) := by
 have h := hG.1.small hC (show n ≤ 1000000000 by omega)
 have hh : S.head ≤ 999999999 := by have := hG.1.head; omega
 unfold q57.f q57.t PS.step PS.stepG
 rw [ifB _ _ (bne_dec S.err 0)]
 by_cases he : S.err = 0
 ·rw [if_neg (by simp [he]), if_neg (by simp [he]), ifB _ _ (beq_dec S.stage 2)]
  obtain ⟨v1, v2, v3⟩ := hG.2 he
  have hbody := body_f (C := C) c h.body h.out h.need.1 h.need.2
  have hbe : (S.bodyB C c).err = S.err := by
   unfold PS.bodyB
   simp only
   repeat' split
   all_goals rfl
  have hbt : some ((S.bodyB C c).tupS C) = some (((S.bodyB C c).method, (S.bodyB C c).target, (S.bodyB C c).minor, (S.bodyB C c).chunked, (S.bodyB C c).stage, (S.bodyB C c).lines, (S.bodyB C c).head, (S.bodyB C c).need, (S.bodyB C c).begun, (S.bodyB C c).waits, C.p, C.line, C.fields, C.head, C.body, C.ext, C.trailers, C.wait, C.idle, C.chunked, C.old, S.err, C.p, (S.bodyB C c).most, (S.bodyB C c).pend, (S.bodyB C c).over, (S.bodyB C c).bad, (S.bodyB C c).b, (S.bodyB C c).fields, (S.bodyB C c).body, (S.bodyB C c).trailers, (S.bodyB C c).out) : ST) := by
   unfold PS.tupS
   rw [hbe]
  by_cases s2 : S.stage = 2
  ·rw [if_pos s2, if_pos (.inl s2), hbt]
   repeat rw [vokl]
   rw [hbody, Tr.val_call rfl]
   rfl
  ·rw [if_neg s2, ifB _ _ (beq_dec S.stage 4)]
   by_cases s4 : S.stage = 4
   ·rw [if_pos s4, if_pos (.inr s4), hbt]
    repeat rw [vokl]
    rw [hbody, Tr.val_call rfl]
    rfl
   ·rw [if_neg s4, if_neg (not_or.2 ⟨s2, s4⟩)]
    have h24 : ¬ (S.stage = 2 ∨ S.stage = 4) := not_or.2 ⟨s2, s4⟩
    cases counts with
    | true =>
     rw [vtrue, if_pos rfl]
     repeat rw [vokl]
     rw [counted_f h.head.1 (by omega), Tr.val_call rfl]
     have hcm : (S.mark.counted C).1.head = (S.counted C).1.head ∧ (S.mark.counted C).1.err = (S.counted C).1.err ∧ (S.mark.counted C).2 = (S.counted C).2 := by
      unfold PS.counted PS.mark
      simp only
      repeat' split
      all_goals exact ⟨rfl, rfl, rfl⟩
     have hgU : Good C n (S.mark.counted C).1 := ⟨hG.1.mark.counted hC v2, live_counted hG.2 he⟩
     have hok := counted_ok (C := C) (S := S.mark)
     obtain ⟨hd, er, k, hc⟩ := counted_eta C S.mark
     rw [← hcm.1, ← hcm.2.1, ← hcm.2.2]
     rw [hc] at hgU hok ⊢
     simp only at hgU hok ⊢
     cases k with
     | false => rfl
     | true =>
      rw [show (!true) = false from rfl, vfalse, if_neg (by simp)]
      have heU := hok rfl he
      obtain ⟨u1, u2, u3⟩ := hgU.2 heU
      have hsm : Small C ({ S.mark with head := hd, err := er } : PS) := hgU.1.small hC (by omega)
      repeat rw [vokl]
      have hB := lineByte_f (C := C) (S := ({ S.mark with head := hd, err := er } : PS)) c hsm.most
      have hIr := hgU.1.lineB hC (by omega) c
      have hE := ended_f (C := C) (S := (({ S.mark with head := hd, err := er } : PS).lineB C c).1) (small_line hsm c) (fun _ => hL _ (Nat.le_trans lineS_len (small_line hsm c).b))
      have h2 := lineB_two (C := C) (S := ({ S.mark with head := hd, err := er } : PS)) (c := c)
      obtain ⟨pe, ov, ba, bb, k, hr⟩ := lineB_eta C ({ S.mark with head := hd, err := er } : PS) c
      rw [hr] at hB hE hIr h2 ⊢
      simp only at hB hE hIr h2
      have hEi : Good C (n + 1) (PS.ended C { ({ S.mark with head := hd, err := er } : PS) with pend := pe, over := ov, bad := ba, b := bb }) := ⟨hIr.ended hC u1, live_ended hC u1 u2 h24⟩
      rw [show q27.f C.p S.most S.pend S.over S.bad S.b (c.toNat : Int) = _ from hB, Tr.val_call rfl]
      have hEnd : q4g.f S.method S.target S.minor S.chunked S.stage S.lines hd S.need true false C.p C.line C.fields C.body C.ext C.trailers C.chunked C.old er C.p S.most pe ov ba bb S.fields S.body S.trailers S.out = some ((PS.ended C { ({ S.mark with head := hd, err := er } : PS) with pend := pe, over := ov, bad := ba, b := bb }).tup C) := hE
      unfold PS.tailG
      simp only
      rw [ifB _ _ (beq_dec k 1)]
      by_cases e1 : k = 1
      ·rw [if_pos e1, if_pos e1]
       repeat rw [vokl]
       rw [hEnd, Tr.val_call rfl]
       rfl
      ·rw [if_neg e1, if_neg e1, ifB _ _ (beq_dec k 2)]
       by_cases e2 : k = 2
       ·rw [if_pos e2, if_pos e2]
        have hnr := norec_ended hC hEi.1 (h2 e2).1 (h2 e2).2
        have hS1 := fun b => step_r1_g hC (by omega) c b hEi hL hnr
        repeat rw [vokl]
        rw [ifB _ _ (bne_dec S.stage 3)]
        by_cases s3 : S.stage = 3
        ·rw [if_neg (by simp [s3])]
         repeat rw [vokl]
         rw [hEnd, Tr.val_call rfl]
         have h5 : ¬ (S.stage ≠ 3 ∧ S.stage ≠ 5) := fun h => h.1 s3
         rw [show (if (({ S.mark with head := hd, err := er } : PS).stage ≠ 3 ∧ ({ S.mark with head := hd, err := er } : PS).stage ≠ 5) then decide (((PS.ended C { ({ S.mark with head := hd, err := er } : PS) with pend := pe, over := ov, bad := ba, b := bb }).out.length : Int) > (({ S.mark with head := hd, err := er } : PS).out.length : Int)) else true) = true from if_neg h5]
         dsimp only [PS.tup]
         repeat rw [vokl]
         rw [hS1 true, Tr.val_call rfl]
         rfl
        ·rw [if_pos s3]
         repeat rw [vokl]
         rw [hEnd, Tr.val_call rfl]
         dsimp only [PS.tup]
         rw [ifB _ _ (show (!(S.stage != 5)) = decide (S.stage = 5) by by_cases h : S.stage = 5 <;> simp [h])]
         by_cases s5 : S.stage = 5
         ·rw [if_pos s5]
          have h5 : ¬ (S.stage ≠ 3 ∧ S.stage ≠ 5) := fun h => h.2 s5
          rw [show (if (({ S.mark with head := hd, err := er } : PS).stage ≠ 3 ∧ ({ S.mark with head := hd, err := er } : PS).stage ≠ 5) then decide (((PS.ended C { ({ S.mark with head := hd, err := er } : PS) with pend := pe, over := ov, bad := ba, b := bb }).out.length : Int) > (({ S.mark with head := hd, err := er } : PS).out.length : Int)) else true) = true from if_neg h5]
          repeat rw [vokl]
          rw [hS1 true, Tr.val_call rfl]
          rfl
         ·rw [if_neg s5]
          rw [show (if (({ S.mark with head := hd, err := er } : PS).stage ≠ 3 ∧ ({ S.mark with head := hd, err := er } : PS).stage ≠ 5) then decide (((PS.ended C { ({ S.mark with head := hd, err := er } : PS) with pend := pe, over := ov, bad := ba, b := bb }).out.length : Int) > (({ S.mark with head := hd, err := er } : PS).out.length : Int)) else true) = decide (((PS.ended C { ({ S.mark with head := hd, err := er } : PS) with pend := pe, over := ov, bad := ba, b := bb }).out.length : Int) > (S.out.length : Int)) from if_pos ⟨s3, s5⟩]
          repeat rw [vokl]
          rw [hS1 _, Tr.val_call rfl]
          rfl
       ·rw [if_neg e2, if_neg e2, ifB _ _ (beq_dec k 4)]
        by_cases e4 : k = 4
        ·rw [if_pos e4, if_pos e4]
         have hlg := long_r2_f hC (by omega) c hIr ⟨u1, u2⟩ hL
         repeat rw [vokl]
         rw [show q4v.f S.method S.target S.minor S.chunked S.stage S.lines hd S.need true false C.p C.line C.fields C.head C.body C.ext C.trailers C.wait C.idle C.chunked C.old er C.p S.most pe ov ba bb S.fields S.body S.trailers S.out (c.toNat : Int) = _ from hlg, Tr.val_call rfl]
         rfl
        ·rw [if_neg e4, if_neg e4, ifB _ _ (beq_dec k 3)]
         by_cases e3 : k = 3
         ·rw [if_pos e3, if_pos e3]; rfl
         ·rw [if_neg e3, if_neg e3]; rfl
    | false =>
     rw [vfalse, if_neg (by simp)]
     have hgU : Good C n S.mark := ⟨hG.1.mark, hG.2⟩
     have hsm := small_mark h
     have u1 : S.mark.lines ≤ 100 := v1
     have u2 : S.mark.head ≤ C.head := v2
     repeat rw [vokl]
     have hB := lineByte_f (C := C) (S := S.mark) c hsm.most
     have hIr := hgU.1.lineB hC (by omega) c
     have hE := ended_f (C := C) (S := (S.mark.lineB C c).1) (small_line hsm c) (fun _ => hL _ (Nat.le_trans lineS_len (small_line hsm c).b))
     have h2 := lineB_two (C := C) (S := S.mark) (c := c)
     obtain ⟨pe, ov, ba, bb, k, hr⟩ := lineB_eta C S.mark c
     rw [hr] at hB hE hIr h2 ⊢
     simp only at hB hE hIr h2
     have hEi : Good C (n + 1) (PS.ended C { S.mark with pend := pe, over := ov, bad := ba, b := bb }) := ⟨hIr.ended hC u1, live_ended hC u1 u2 h24⟩
     rw [show q27.f C.p S.most S.pend S.over S.bad S.b (c.toNat : Int) = _ from hB, Tr.val_call rfl]
     have hEnd : q4g.f S.method S.target S.minor S.chunked S.stage S.lines S.head S.need true false C.p C.line C.fields C.body C.ext C.trailers C.chunked C.old S.err C.p S.most pe ov ba bb S.fields S.body S.trailers S.out = some ((PS.ended C { S.mark with pend := pe, over := ov, bad := ba, b := bb }).tup C) := hE
     unfold PS.tailG
     simp only
     rw [ifB _ _ (beq_dec k 1)]
     by_cases e1 : k = 1
     ·rw [if_pos e1, if_pos e1]
      repeat rw [vokl]
      rw [hEnd, Tr.val_call rfl]
      rfl
     ·rw [if_neg e1, if_neg e1, ifB _ _ (beq_dec k 2)]
      by_cases e2 : k = 2
      ·rw [if_pos e2, if_pos e2]
       have hnr := norec_ended hC hEi.1 (h2 e2).1 (h2 e2).2
       have hS1 := fun b => step_r1_g hC (by omega) c b hEi hL hnr
       repeat rw [vokl]
       rw [ifB _ _ (bne_dec S.stage 3)]
       by_cases s3 : S.stage = 3
       ·rw [if_neg (by simp [s3])]
        repeat rw [vokl]
        rw [hEnd, Tr.val_call rfl]
        have h5 : ¬ (S.stage ≠ 3 ∧ S.stage ≠ 5) := fun h => h.1 s3
        rw [show (if (S.mark.stage ≠ 3 ∧ S.mark.stage ≠ 5) then decide (((PS.ended C { S.mark with pend := pe, over := ov, bad := ba, b := bb }).out.length : Int) > (S.mark.out.length : Int)) else true) = true from if_neg h5]
        dsimp only [PS.tup]
        repeat rw [vokl]
        rw [hS1 true, Tr.val_call rfl]
        rfl
       ·rw [if_pos s3]
        repeat rw [vokl]
        rw [hEnd, Tr.val_call rfl]
        dsimp only [PS.tup]
        rw [ifB _ _ (show (!(S.stage != 5)) = decide (S.stage = 5) by by_cases h : S.stage = 5 <;> simp [h])]
        by_cases s5 : S.stage = 5
        ·rw [if_pos s5]
         have h5 : ¬ (S.stage ≠ 3 ∧ S.stage ≠ 5) := fun h => h.2 s5
         rw [show (if (S.mark.stage ≠ 3 ∧ S.mark.stage ≠ 5) then decide (((PS.ended C { S.mark with pend := pe, over := ov, bad := ba, b := bb }).out.length : Int) > (S.mark.out.length : Int)) else true) = true from if_neg h5]
         repeat rw [vokl]
         rw [hS1 true, Tr.val_call rfl]
         rfl
        ·rw [if_neg s5]
         rw [show (if (S.mark.stage ≠ 3 ∧ S.mark.stage ≠ 5) then decide (((PS.ended C { S.mark with pend := pe, over := ov, bad := ba, b := bb }).out.length : Int) > (S.mark.out.length : Int)) else true) = decide (((PS.ended C { S.mark with pend := pe, over := ov, bad := ba, b := bb }).out.length : Int) > (S.out.length : Int)) from if_pos ⟨s3, s5⟩]
         repeat rw [vokl]
         rw [hS1 _, Tr.val_call rfl]
         rfl
      ·rw [if_neg e2, if_neg e2, ifB _ _ (beq_dec k 4)]
       by_cases e4 : k = 4
       ·rw [if_pos e4, if_pos e4]
        have hlg := long_r2_f hC (by omega) c hIr ⟨u1, u2⟩ hL
        repeat rw [vokl]
        rw [show q4v.f S.method S.target S.minor S.chunked S.stage S.lines S.head S.need true false C.p C.line C.fields C.head C.body C.ext C.trailers C.wait C.idle C.chunked C.old S.err C.p S.most pe ov ba bb S.fields S.body S.trailers S.out (c.toNat : Int) = _ from hlg, Tr.val_call rfl]
        rfl
       ·rw [if_neg e4, if_neg e4, ifB _ _ (beq_dec k 3)]
        by_cases e3 : k = 3
        ·rw [if_pos e3, if_pos e3]; rfl
        ·rw [if_neg e3, if_neg e3]; rfl
 ·rw [if_pos he, if_pos he]; rfl
end Pl
end Go.Vx
end
section
set_option linter.unusedVariables false
set_option linter.unusedSimpArgs false
set_option maxRecDepth 100000
namespace Go.Vx
namespace Pl
open Go Go.Proofs
def PS.feed (C : Cfg) (S : PS) (l : Bs) : PS := l.foldl (fun S c => S.step C c true) S
theorem feed_nil (C : Cfg) (S : PS) : S.feed C [] = S := rfl
theorem feed_cons (C : Cfg) (S : PS) (c : UInt8) (l : Bs) : S.feed C (c :: l) = (S.step C c true).feed C l := rfl
theorem feed_append (C : Cfg) (S : PS) (l m : Bs) : S.feed C (l ++ m) = (S.feed C l).feed C m := List.foldl_append ..
theorem feed_good {C : Cfg} (hC : CfgOk C) : ∀ (l : Bs) (n : Nat) (S : PS), n + 4 * l.length ≤ 80000000 → Good C n S → Good C (n + 4 * l.length) (S.feed C l)
 | [], n, S, hn, h => h
 | c :: l, n, S, hn, h => by
  rw [feed_cons]
  simp only [List.length_cons] at hn ⊢
  have h1 := step_good hC (by omega) c true h
  exact (feed_good hC l (n + 4) _ (by omega) h1).mono (by omega)
theorem inner_f {C : Cfg} {n : Nat} {S : PS} {parts : List Bs} {l : Bs} (hC : CfgOk C) (hL : LinesOk C) (hn : n + 4 * l.length ≤ 80000000) (h : Good C n S) :
  q3y.L6.f S.method S.target S.minor S.chunked S.stage S.lines S.head S.need S.begun S.waits C.p C.line C.fields C.head C.body C.ext C.trailers C.wait C.idle C.chunked C.old S.err parts C.p S.most S.pend S.over S.bad S.b S.fields S.body S.trailers S.out l (l.length : Int) 0 = some ((S.feed C l).tupS C) := by
 unfold q3y.L6.f
 refine (Loop_list (A := PS) (a := S) l (fun k T => (T.method, T.target, T.minor, T.chunked, T.stage, T.lines, T.head, T.need, T.begun, T.waits, C.p, C.line, C.fields, C.head, C.body, C.ext, C.trailers, C.wait, C.idle, C.chunked, C.old, T.err, C.p, T.most, T.pend, T.over, T.bad, T.b, T.fields, T.body, T.trailers, T.out, (k : Int))) (fun k T => Good C (n + 4 * k) T) (fun T c => .inl (T.step C c true)) (fun T => T.tupS C) ?_ ?_ (by omega) h rfl).trans ?_
 ·intro k T c hT hk hc
  have hw := wS (k := k) (by omega)
  have hT' : Good C (n + 4 * k) T := hT
  have hb : n + 4 * k ≤ 80000000 := by omega
  refine ⟨?_, fun a' ha => by cases ha; exact (step_good (n := n + 4 * k) hC (by omega) c true hT').mono (by omega)⟩
  have hs := step_r2_f (n := n + 4 * k) hC hb c true hT' hL
  unfold q3y.L6.t
  dsimp only
  rw [ifB _ _ (show decide ((k : Int) < (l.length : Int)) = decide (k < l.length) from lt_nat), if_pos hk, Tr.val_chk (by omega)]
  simp only [Int.toNat_natCast, getD_nat hk hc]
  rw [Tr.val_chk hk]
  repeat rw [vokl]
  rw [hs, Tr.val_call rfl]
  dsimp only [PS.tupS]
  repeat rw [vokl]
  rw [hw]
  rfl
 ·intro T _
  unfold q3y.L6.t
  dsimp only
  rw [ifB _ _ (show decide ((l.length : Int) < (l.length : Int)) = decide (l.length < l.length) from lt_nat), if_neg (Nat.lt_irrefl _)]
  repeat rw [vokl]
  rfl
 ·have : ∀ (m : Bs) (T : PS), foldE (fun T c => (Sum.inl (T.step C c true) : PS ⊕ ST)) (fun T => T.tupS C) T m = (T.feed C m).tupS C := by
   intro m
   induction m with
   | nil => intro T; rfl
   | cons c m ih => intro T; exact ih _
  rw [this]
theorem outer_f {C : Cfg} {n : Nat} {S : PS} {parts : List Bs} (hC : CfgOk C) (hL : LinesOk C) (hp : parts.length ≤ 1000000) (hn : n + 4 * parts.flatten.length ≤ 80000000) (h : Good C n S) :
  q3y.L3.f S.method S.target S.minor S.chunked S.stage S.lines S.head S.need S.begun S.waits C.p C.line C.fields C.head C.body C.ext C.trailers C.wait C.idle C.chunked C.old S.err parts C.p S.most S.pend S.over S.bad S.b S.fields S.body S.trailers S.out (parts.length : Int) 0 = some ((S.feed C parts.flatten).tupS C) := by
 unfold q3y.L3.f
 refine (Loop_list (A := PS) (a := S) parts (fun k T => (T.method, T.target, T.minor, T.chunked, T.stage, T.lines, T.head, T.need, T.begun, T.waits, C.p, C.line, C.fields, C.head, C.body, C.ext, C.trailers, C.wait, C.idle, C.chunked, C.old, T.err, C.p, T.most, T.pend, T.over, T.bad, T.b, T.fields, T.body, T.trailers, T.out, (k : Int))) (fun k T => Good C (n + 4 * (parts.take k).flatten.length) T) (fun T l => .inl (T.feed C l)) (fun T => T.tupS C) ?_ ?_ (by omega) (by simpa using h) rfl).trans ?_
 ·intro k T l hT hk hc
  have hw := wS (k := k) (by omega)
  have hlen : (parts.take (k + 1)).flatten.length = (parts.take k).flatten.length + l.length := by
   rw [List.take_add_one, List.getElem?_eq_getElem hk, hc]
   simp
  have hle : (parts.take (k + 1)).flatten.length ≤ parts.flatten.length := by
   conv => rhs; rw [← List.take_append_drop (k + 1) parts]
   rw [List.flatten_append, List.length_append]
   omega
  have hT' : Good C (n + 4 * (parts.take k).flatten.length) T := hT
  have hb : n + 4 * (parts.take k).flatten.length + 4 * l.length ≤ 80000000 := by omega
  refine ⟨?_, fun a' ha => by cases ha; rw [hlen]; exact (feed_good hC l _ T hb hT').mono (by omega)⟩
  have hs := inner_f (parts := parts) (l := l) hC hL hb hT'
  unfold q3y.L3.t
  dsimp only
  rw [ifB _ _ (show decide ((k : Int) < (parts.length : Int)) = decide (k < parts.length) from lt_nat), if_pos hk, Tr.val_chk (by omega)]
  simp only [Int.toNat_natCast, Nat.zero_add, getD_nat hk hc]
  rw [Tr.val_chk hk]
  repeat rw [vokl]
  rw [hs, Tr.val_call rfl]
  dsimp only [PS.tupS]
  repeat rw [vokl]
  rw [hw]
  rfl
 ·intro T _
  unfold q3y.L3.t
  dsimp only
  rw [ifB _ _ (show decide ((parts.length : Int) < (parts.length : Int)) = decide (parts.length < parts.length) from lt_nat), if_neg (Nat.lt_irrefl _)]
  repeat rw [vokl]
  rfl
 ·have : ∀ (m : List Bs) (T : PS), foldE (fun T l => (Sum.inl (T.feed C l) : PS ⊕ ST)) (fun T => T.tupS C) T m = (T.feed C m.flatten).tupS C := by
   intro m
   induction m with
   | nil => intro T; rfl
   | cons c m ih =>
    intro T
    show foldE (fun T l => (Sum.inl (T.feed C l) : PS ⊕ ST)) (fun T => T.tupS C) (T.feed C c) m = _
    rw [ih, List.flatten_cons, feed_append]
  rw [this]
def PS.taken (S : PS) : PS := { S with out := [] }
theorem Good.taken {C : Cfg} {n : Nat} {S : PS} (h : Good C n S) : Good C n S.taken := ⟨⟨h.1.b, h.1.most, h.1.lines, h.1.head, h.1.need, h.1.stage, h.1.f1, h.1.f2, h.1.t1, h.1.t2, h.1.t3, h.1.body, Nat.zero_le _⟩, h.2⟩
abbrev FT := Bs × Bs × Int × Bool × Int × Int × Int × Int × Bool × Bool × Int × Int × Int × Int × Int × Int × Int × Int × Int × Bool × Bool × Int × List Rec × Int × Int × Bool × Bool × Bool × Bs × Fs × Bs × Fs
def PS.tupF (C : Cfg) (S : PS) : FT := (S.method, S.target, S.minor, S.chunked, S.stage, S.lines, S.head, S.need, S.begun, S.waits, C.p, C.line, C.fields, C.head, C.body, C.ext, C.trailers, C.wait, C.idle, C.chunked, C.old, S.err, S.out, C.p, S.most, S.pend, S.over, S.bad, S.b, S.fields, S.body, S.trailers)
theorem feed_f {C : Cfg} {n : Nat} {S : PS} {parts : List Bs} (hC : CfgOk C) (hL : LinesOk C) (hp : parts.length ≤ 1000000) (hn : n + 4 * parts.flatten.length ≤ 80000000) (h : Good C n S) :
  q3y.f S.method S.target S.minor S.chunked S.stage S.lines S.head S.need S.begun S.waits C.p C.line C.fields C.head C.body C.ext C.trailers C.wait C.idle C.chunked C.old S.err C.p S.most S.pend S.over S.bad S.b S.fields S.body S.trailers parts = some ((S.taken.feed C parts.flatten).tupF C) := by
 have ho := outer_f (parts := parts) hC hL hp hn h.taken
 unfold q3y.f q3y.t
 repeat rw [vokl]
 rw [show q3y.L3.f S.method S.target S.minor S.chunked S.stage S.lines S.head S.need S.begun S.waits C.p C.line C.fields C.head C.body C.ext C.trailers C.wait C.idle C.chunked C.old S.err parts C.p S.most S.pend S.over S.bad S.b S.fields S.body S.trailers [] (parts.length : Int) 0 = _ from ho, Tr.val_call rfl]
 rfl
def PS.new (C : Cfg) : PS :=
 {method := [], target := [], minor := 0, chunked := false, stage := 0, lines := 0, head := 0, need := 0, begun := false, waits := false, err := 0, most := lineMost C.line, pend := false, over := false, bad := false, b := [], fields := [], body := [], trailers := [], out := [] }
theorem new_good {C : Cfg} (hC : CfgOk C) : Good C 0 (PS.new C) := by
 have h2 := hC.head
 refine ⟨⟨by simp [PS.new], ?_, (by decide : (0 : Int) ≤ 0 ∧ (0 : Int) ≤ 101), (by decide : (0 : Int) ≤ 0 ∧ (0 : Int) ≤ 65537), (by decide : (0 : Int) ≤ 0 ∧ (0 : Int) ≤ 1048576), (by decide : (0 : Int) ≤ 0 ∧ (0 : Int) ≤ 6), LB.nil (by decide), fun _ => LB.nil (Int.le_refl _), LB.nil (by decide), fun _ => LB.nil (Int.le_refl _), fun _ => rfl, Nat.zero_le _, Nat.zero_le _⟩, fun _ => ⟨by show (0 : Int) ≤ 100; omega, by show (0 : Int) ≤ C.head; omega, fun h => by rcases h with h | h <;> cases h⟩⟩
 show lineMost C.line = _
 rw [hC.most]; rfl
end Pl
end Go.Vx
end
section
set_option linter.unusedVariables false
set_option linter.unusedSimpArgs false
set_option maxRecDepth 100000
namespace Go.Vx
namespace Pl
open Go Go.Proofs
theorem getD_le {l : List Bs} {n k : Nat} (h : ∀ x ∈ l, x.length ≤ n) : (l.getD k []).length ≤ n := by
 rw [List.getD_eq_getElem?_getD]
 by_cases hk : k < l.length
 ·rw [List.getElem?_eq_getElem hk]; exact h _ (List.getElem_mem hk)
 ·rw [List.getElem?_eq_none (by omega)]; simp
theorem goal_len (p : Int) (s a z : Bs) : (goalS p s a z).length ≤ s.length := by
 have ht := trim_len ((s.take (s.length - z.length - 1)).drop (a.length + 1))
 unfold goalS
 split
 ·simp only [List.length_drop, List.length_take] at ht; omega
 ·simp only [List.length_drop, List.length_take]; omega
theorem partedL_len {p : Int} {s : Bs} {l : List Bs} (h : ∀ x ∈ l, x.length ≤ s.length) : (partedL p s l).2.1.length ≤ s.length := by
 unfold partedL
 split
 ·simp
 ·split
  ·exact getD_le h
  ·split
   ·exact goal_len _ _ _ _
   ·split
    ·exact getD_le h
    ·simp
theorem linesOk_plain {C : Cfg} (h3 : hasD C.p 3 = false) : LinesOk C := fun s hs => by
 refine ⟨(fun h => by rw [h3] at h; cases h), ?_⟩
 have : (partedS s C.p).2.1.length ≤ s.length := by
  unfold partedS partsS partsL
  rw [h3]
  exact partedL_len fun x hx => splitC_small s.length (Nat.le_refl _) x hx
 omega
def okB (line fields head body ext trailers wait idle : Int) : Bool := decide (64 ≤ line ∧ line ≤ 4096 ∧ 4 ≤ fields ∧ fields ≤ 100 ∧ 256 ≤ head ∧ head ≤ 65536 ∧ 16 ≤ body ∧ body ≤ 1048576 ∧ 0 ≤ ext ∧ ext ≤ 256 ∧ 0 ≤ trailers ∧ trailers ≤ 100 ∧ 1 ≤ wait ∧ wait ≤ 16 ∧ 1 ≤ idle ∧ idle ≤ 1000)
theorem br_false {b : Bool} {a : Tr Bool} {v : Bool} (h : b = true → a.val = some v) : (Tr.br b a (.ret false)).val = some (b && v) := by
 cases b with
 | true => exact h rfl
 | false => rfl
theorem right_f (line fields head body ext trailers wait idle : Int) : q00.f line fields head body ext trailers wait idle = some (okB line fields head body ext trailers wait idle) := by
 unfold q00.f q00.t
 refine (br_false fun _ => br_false fun _ => br_false fun _ => br_false fun _ => br_false fun _ => br_false fun _ => br_false fun _ => br_false fun _ => br_false fun _ => br_false fun _ => br_false fun _ => br_false fun _ => br_false fun _ => br_false fun _ => br_false fun _ => rfl).trans ?_
 congr 1
 unfold okB
 simp only [← Bool.decide_and, ge_iff_le]
def Cfg.right (C : Cfg) : Prop := okB C.line C.fields C.head C.body C.ext C.trailers C.wait C.idle = true ∧ C.p.fdiv (2 ^ 30) = 0
instance (C : Cfg) : Decidable C.right := inferInstanceAs (Decidable (_ ∧ _))
theorem Cfg.right.ok {C : Cfg} (h : C.right) : CfgOk C := by
 have h1 := h.1
 unfold okB at h1
 have := of_decide_eq_true h1
 constructor <;> omega
abbrev NT := Bs × Bs × Int × Bool × Int × Int × Int × Int × Bool × Bool × Int × Int × Bool × Bool × Bool × Bs × Fs × Bs × Fs × List Rec
def PS.tupN (S : PS) : NT := (S.method, S.target, S.minor, S.chunked, S.stage, S.lines, S.head, S.need, S.begun, S.waits, S.err, S.most, S.pend, S.over, S.bad, S.b, S.fields, S.body, S.trailers, S.out)
def PS.new' (C : Cfg) : PS := if C.right then PS.new C else { PS.new C with err := 20 }
theorem new_f (C : Cfg) : q3p.f C.p C.line C.fields C.head C.body C.ext C.trailers C.wait C.idle = some (PS.new' C).tupN := by
 unfold q3p.f q3p.t PS.new'
 rw [right_f, Tr.val_call rfl]
 by_cases hr : C.right
 ·have hp : (C.p.fdiv (2 ^ 30) == 0) = true := by simpa using hr.2
  rw [if_pos hr, hr.1, show (!true) = false from rfl, vfalse, show q5j.f C.p = some (C.p.fdiv (2 ^ 30) == 0) from rfl, Tr.val_call rfl, hp]
  rfl
 ·rw [if_neg hr]
  by_cases hb : okB C.line C.fields C.head C.body C.ext C.trailers C.wait C.idle = true
  ·have hp : (C.p.fdiv (2 ^ 30) == 0) = false := by
    have : ¬ C.p.fdiv (2 ^ 30) = 0 := fun hp => hr ⟨hb, hp⟩
    simpa using this
   rw [hb, show (!true) = false from rfl, vfalse, show q5j.f C.p = some (C.p.fdiv (2 ^ 30) == 0) from rfl, Tr.val_call rfl, hp]
   rfl
  ·have hb : okB C.line C.fields C.head C.body C.ext C.trailers C.wait C.idle = false := by simpa using hb
   rw [hb]
   rfl
theorem err_f (b : Bs) (f : Fs) (y : Bs) (t : Fs) (o : List Rec) : q3v.f b f y t o = some () := rfl
def PS.waiting (S : PS) : Bool := decide (S.err = 0) && S.waits
def PS.clean (S : PS) : Bool := decide (S.err = 0) && !S.begun
theorem waits_f (S : PS) (b : Bs) (f : Fs) (y : Bs) (t : Fs) (o : List Rec) : q44.f S.waits S.err b f y t o = some S.waiting := by
 unfold q44.f q44.t PS.waiting
 rw [beq_dec]
 cases decide (S.err = 0) <;> rfl
theorem clean_f (S : PS) (b : Bs) (f : Fs) (y : Bs) (t : Fs) (o : List Rec) : q3s.f S.begun S.err b f y t o = some S.clean := by
 unfold q3s.f q3s.t PS.clean
 rw [beq_dec]
 cases decide (S.err = 0) <;> rfl
def sizeF (l : Fs) : Nat := (l.map fun f => f.1.length + f.2.length).sum
theorem foldE_sum {ρ : Type} (r : Nat → ρ) (l : Fs) (n : Nat) : foldE (fun n f => (Sum.inl (n + (f.1.length + f.2.length)) : Nat ⊕ ρ)) r n l = r (n + sizeF l) := by
 induction l generalizing n with
 | nil => rfl
 | cons c l ih =>
  show foldE _ r (n + (c.1.length + c.2.length)) l = _
  rw [ih]
  unfold sizeF
  rw [List.map_cons, List.sum_cons]
  congr 1
  omega
theorem size_fs {l : Fs} (h : FitF l) : q61.f l = some (sizeF l : Int) := by
 have hL : q61.L3.f l 0 (l.length : Int) 0 = some (sizeF l : Int) := by
  unfold q61.L3.f
  refine (Loop_list (A := Nat) (a := 0) l (fun k n => ((n : Int), (k : Int))) (fun k n => n ≤ 2000000 * k) (fun n f => .inl (n + (f.1.length + f.2.length))) (fun n => (n : Int)) ?_ ?_ (by have := h.1; omega) (Nat.le_refl _) rfl).trans ?_
  ·intro k n c hi hk hc
   have hf := h.2 c (hc ▸ List.getElem_mem hk)
   have hl := h.1
   have hw := wS (k := k) (by omega)
   refine ⟨?_, fun a' ha => by cases ha; omega⟩
   unfold q61.L3.t
   dsimp only
   rw [ifB _ _ (show decide ((k : Int) < (l.length : Int)) = decide (k < l.length) from lt_nat), if_pos hk, Tr.val_chk (by omega)]
   simp only [Int.toNat_natCast, Nat.zero_add, getD_nat hk hc]
   rw [Tr.val_chk hk, vokl, hw, w64 (n := ((c.1.length : Int) + (c.2.length : Int))) (by omega) (by omega), w64 (by omega) (by omega)]
   show some _ = some _
   simp only [Int.natCast_add]
  ·intro n _
   unfold q61.L3.t
   dsimp only
   rw [ifB _ _ (show decide ((l.length : Int) < (l.length : Int)) = decide (l.length < l.length) from lt_nat), if_neg (Nat.lt_irrefl _)]
   rfl
  ·rw [foldE_sum]; simp
 unfold q61.f q61.t
 rw [vokl, hL]
 rfl
theorem sizeF_le {l : Fs} (h : FitF l) : sizeF l ≤ 2000000 * l.length := by
 have h2 := h.2
 clear h
 induction l with
 | nil => exact Nat.le_refl _
 | cons c l ih =>
  have := ih fun f hf => h2 f (List.mem_cons_of_mem _ hf)
  have h3 := h2 c (List.mem_cons_self ..)
  unfold sizeF at this ⊢
  rw [List.map_cons, List.sum_cons, List.length_cons]
  omega
def PS.held (S : PS) : Nat := if S.err ≠ 0 then 0 else (if S.over = true then 0 else S.b.length) + (S.method.length + S.target.length + sizeF S.fields + sizeF S.trailers + S.body.length)
theorem held_f {C : Cfg} {S : PS} (h : Small C S) (hm : S.method.length ≤ 1000000000 ∧ S.target.length ≤ 1000000000) (o : List Rec) : q41.f S.method S.target S.err S.over S.b S.fields S.body S.trailers o = some (S.held : Int) := by
 have h1 := sizeF_le h.fields
 have h2 := sizeF_le h.trailers
 have h3 := h.fields.1
 have h4 := h.trailers.1
 have hb := h.body
 have hbb := h.b
 unfold q41.f q41.t PS.held
 rw [bne_dec]
 by_cases he : S.err = 0
 ·rw [decide_eq_false (by simp [he]), vfalse, if_neg (by simp [he]), vokl]
  have hz : q5s.f S.fields S.body S.trailers S.method S.target = some ((S.method.length + S.target.length + sizeF S.fields + sizeF S.trailers + S.body.length : Nat) : Int) := by
   unfold q5s.f q5s.t
   rw [Tr.val_chk (by omega), take_all, size_fs h.fields, Tr.val_call rfl, Tr.val_chk (by omega), take_all, size_fs h.trailers, Tr.val_call rfl]
   show some _ = some _
   rw [w64 (n := ((S.method.length : Int) + (S.target.length : Int))) (by omega) (by omega), w64 (n := ((S.method.length : Int) + (S.target.length : Int)) + (sizeF S.fields : Int)) (by omega) (by omega),
    w64 (n := ((S.method.length : Int) + (S.target.length : Int)) + (sizeF S.fields : Int) + (sizeF S.trailers : Int)) (by omega) (by omega), w64 (by omega) (by omega)]
   simp only [Int.natCast_add]
  have hy : q2a.f S.over S.b = some (((if S.over = true then 0 else S.b.length : Nat)) : Int) := by
   unfold q2a.f q2a.t
   cases S.over <;> rfl
  rw [hy, Tr.val_call rfl, Tr.val_chk (by omega), Tr.val_chk (by omega), Tr.val_chk (by omega)]
  simp only [take_all]
  rw [hz, Tr.val_call rfl]
  repeat rw [vokl]
  show some _ = some _
  have : (if S.over = true then 0 else S.b.length) ≤ 4096 := by split <;> omega
  rw [w64 (by omega) (by omega)]
  simp only [Int.natCast_add]
 ·rw [decide_eq_true (by simpa using he), vtrue, if_pos he]; rfl
end Pl
end Go.Vx
end
section
set_option linter.unusedVariables false
set_option linter.unusedSimpArgs false
set_option maxRecDepth 100000
namespace Go.Vx
namespace Pl
open Go Go.Proofs
theorem go_call {α β : Type} {o : Option β} {k : β → Tr α} {y : β} {r : Option α} (h : o = some y) (hk : (k y).val = r) : (Tr.call o k).val = r := by subst h; exact hk
theorem go_chk {α : Type} {p : Prop} [Decidable p] {a : Tr α} {r : Option α} (h : p) (hk : a.val = r) : (Tr.chk p a).val = r := by rw [Tr.val_chk h]; exact hk
theorem go_t {α : Type} {b : Bool} {x y : Tr α} {r : Option α} (h : b = true) (hk : x.val = r) : (Tr.br b x y).val = r := by subst h; exact hk
theorem go_f {α : Type} {b : Bool} {x y : Tr α} {r : Option α} (h : b = false) (hk : y.val = r) : (Tr.br b x y).val = r := by subst h; exact hk
theorem Loop_count {σ ρ : Type} {body : σ → Tr (σ ⊕ ρ)} (N : Nat) (st : Nat → σ) (r : ρ) (hs : ∀ k, k < N → (body (st k)).val = some (.inl (st (k + 1)))) (he : (body (st N)).val = some (.inr r)) (hN : N < 1125899906842624) {s0 : σ} (h0 : s0 = st 0) : Loop body s0 = some r := by
 refine (Loop_list (A := Unit) (a := ()) (List.replicate N ()) (fun k _ => st k) (fun _ _ => True) (fun _ _ => .inl ()) (fun _ => r) ?_ ?_ (by simpa using hN) trivial h0).trans ?_
 ·intro k a c _ hk _
  exact ⟨hs k (by simpa using hk), fun _ _ => trivial⟩
 ·intro _ _
  simpa using he
 ·have : ∀ (m : List Unit), foldE (fun (_ : Unit) (_ : Unit) => (Sum.inl () : Unit ⊕ ρ)) (fun _ => r) () m = r := by
   intro m
   induction m with
   | nil => rfl
   | cons c m ih => exact ih
  rw [this]
theorem mod_i (n : UInt8) (m : Nat) (h : 0 < m) (h2 : m < 256) : IntKind.i64.wrap ((Int.ofNat n.toNat).tmod (m : Int)) = ((n.toNat % m : Nat) : Int) := by
 have : (Int.ofNat n.toNat).tmod (m : Int) = ((n.toNat % m : Nat) : Int) := by
  rw [Int.ofNat_eq_natCast]
  exact (Int.ofNat_tmod n.toNat m).symm
 have hl : n.toNat % m < m := Nat.mod_lt _ h
 rw [this, w64 (by omega) (by omega)]
def usual (p : Int) : Cfg := ⟨p, 1024, 32, 8192, 65536, 32, 8, 4, 20, true, true⟩
theorem usual_ok (p : Int) : CfgOk (usual p) := ⟨(by decide : (64 : Int) ≤ 1024 ∧ (1024 : Int) ≤ 4096), (by decide : (0 : Int) ≤ 32 ∧ (32 : Int) ≤ 100), (by decide : (0 : Int) ≤ 8 ∧ (8 : Int) ≤ 100), (by decide : (0 : Int) ≤ 8192 ∧ (8192 : Int) ≤ 65536), (by decide : (0 : Int) ≤ 65536 ∧ (65536 : Int) ≤ 1048576)⟩
theorem usual_lines : LinesOk (usual 0) := linesOk_plain (by decide +kernel)
def known3 : List Bs := [List.take (48 : Nat) (List.drop (0 : Nat) [(80 : UInt8), (79 : UInt8), (83 : UInt8), (84 : UInt8), (32 : UInt8), (47 : UInt8), (32 : UInt8), (72 : UInt8), (84 : UInt8), (84 : UInt8), (80 : UInt8), (47 : UInt8), (49 : UInt8), (46 : UInt8), (49 : UInt8), (13 : UInt8), (10 : UInt8), (72 : UInt8), (111 : UInt8), (115 : UInt8), (116 : UInt8), (58 : UInt8), (32 : UInt8), (104 : UInt8), (13 : UInt8), (10 : UInt8), (69 : UInt8), (120 : UInt8), (112 : UInt8), (101 : UInt8), (99 : UInt8), (116 : UInt8), (58 : UInt8), (32 : UInt8), (49 : UInt8), (48 : UInt8), (48 : UInt8), (45 : UInt8), (99 : UInt8), (111 : UInt8), (110 : UInt8), (116 : UInt8), (105 : UInt8), (110 : UInt8), (117 : UInt8), (101 : UInt8), (13 : UInt8), (10 : UInt8)]), List.take (21 : Nat) (List.drop (0 : Nat) [(67 : UInt8), (111 : UInt8), (110 : UInt8), (116 : UInt8), (101 : UInt8), (110 : UInt8), (116 : UInt8), (45 : UInt8), (76 : UInt8), (101 : UInt8), (110 : UInt8), (103 : UInt8), (116 : UInt8), (104 : UInt8), (58 : UInt8), (32 : UInt8), (50 : UInt8), (13 : UInt8), (10 : UInt8), (13 : UInt8), (10 : UInt8)])]
end Pl
end Go.Vx
end
section
set_option linter.unusedVariables false
set_option linter.unusedSimpArgs false
set_option maxRecDepth 100000
namespace Go.Vx
namespace Pl
open Go Go.Proofs
def PS.line (S : PS) : Bs := if S.over = true then [] else S.b
def PS.inc (S : PS) : Nat := if S.stage = 3 ∨ S.stage = 5 then 0 else 1
def PS.headed (S : PS) : PS := { S with begun := true, waits := false, head := S.head + (S.inc : Int) }
structure Ready (C : Cfg) (S : PS) : Prop where
 err : S.err = 0
 stage : ¬ (S.stage = 2 ∨ S.stage = 4)
 bad : S.bad = false
 pend : S.pend = false
def PS.hasRoom (C : Cfg) (S : PS) (n : Nat) : Prop := S.inc = 0 ∨ S.head + (n : Int) ≤ C.head
theorem step_ready {C : Cfg} {S : PS} (he : S.err = 0) (hs : ¬ (S.stage = 2 ∨ S.stage = 4)) (hh : S.hasRoom C 1) (c : UInt8) : S.step C c true = S.headed.tailG (PS.step1 C) C c (S.headed.lineB C c) := by
 unfold PS.step PS.stepG
 rw [if_neg (by simp [he]), if_neg hs, if_pos rfl]
 have : S.mark.counted C = (S.headed, true) := by
  unfold PS.counted PS.headed PS.inc
  by_cases h : S.stage = 3 ∨ S.stage = 5
  ·have h' : S.mark.stage = 3 ∨ S.mark.stage = 5 := h
   rw [if_pos h', if_pos h]
   simp [PS.mark]
  ·have h' : ¬ (S.mark.stage = 3 ∨ S.mark.stage = 5) := h
   rw [if_neg h', if_neg h]
   have h2 : ¬ (S.mark.head + 1 > C.head) := by
    rcases hh with h3 | h3
    ·unfold PS.inc at h3; rw [if_neg h] at h3; cases h3
    ·show ¬ (S.head + 1 > C.head); omega
   rw [if_neg h2]
   have h4 : (S.mark.err == 0) = true := by show (S.err == 0) = true; simp [he]
   rw [h4]
   simp [PS.mark]
 rw [this, if_neg (by simp)]
def PS.add (S : PS) (l : Bs) : PS := { S with begun := true, waits := false, head := S.head + ((S.inc * l.length : Nat) : Int), over := false, b := S.line ++ l }
theorem step_plain {C : Cfg} {S : PS} (h : Ready C S) (hh : S.hasRoom C 1) {c : UInt8} (h13 : c ≠ 13) (h10 : c ≠ 10) (hm : (S.line.length : Int) < S.most) : S.step C c true = S.add [c] := by
 rw [step_ready h.err h.stage hh]
 have hb : S.headed.bad = false := h.bad
 have hp : S.headed.pend = false := h.pend
 have : S.headed.lineB C c = (S.add [c], 0) := by
  unfold PS.lineB
  rw [if_neg (by simp [hb]), if_neg (by simp [hp]), if_neg h13, if_neg h10]
  have hm' : ¬ (((if S.headed.over = true then ([] : Bs) else S.headed.b).length : Int) ≥ S.headed.most) := by
   show ¬ ((S.line.length : Int) ≥ S.most)
   omega
  rw [if_neg hm']
  simp [PS.headed, PS.add, PS.line]
  rfl
 rw [this]
 unfold PS.tailG
 rw [if_neg (by simp), if_neg (by simp), if_neg (by simp), if_neg (by simp)]
def plain (l : Bs) : Prop := ∀ c ∈ l, c ≠ 13 ∧ c ≠ 10
instance (l : Bs) : Decidable (plain l) := inferInstanceAs (Decidable (∀ c ∈ l, c ≠ 13 ∧ c ≠ 10))
theorem add_line (S : PS) (l : Bs) : (S.add l).line = S.line ++ l := rfl
theorem add_ready {C : Cfg} {S : PS} (h : Ready C S) (l : Bs) : Ready C (S.add l) := ⟨h.err, h.stage, h.bad, h.pend⟩
theorem add_add (S : PS) (l m : Bs) : (S.add l).add m = S.add (l ++ m) := by
 unfold PS.add PS.inc PS.line
 simp only [List.append_assoc, List.length_append, Nat.mul_add, Int.natCast_add, Bool.false_eq_true, if_false, Int.add_assoc]
theorem inc_le (S : PS) : S.inc ≤ 1 := by unfold PS.inc; split <;> omega
theorem room_one {C : Cfg} {S : PS} {n : Nat} (h : S.hasRoom C (n + 1)) : S.hasRoom C 1 := by
 rcases h with h | h
 ·exact .inl h
 ·exact .inr (by omega)
theorem room_le {C : Cfg} {S : PS} {n m : Nat} (h : S.hasRoom C n) (hm : m ≤ n) : S.hasRoom C m := by
 rcases h with h | h
 ·exact .inl h
 ·exact .inr (by omega)
theorem room_add {C : Cfg} {S : PS} {l : Bs} {n : Nat} (h : S.hasRoom C (l.length + n)) : (S.add l).hasRoom C n := by
 rcases h with h | h
 ·exact .inl h
 ·refine .inr ?_
  have h1 := inc_le S
  have h2 : S.inc * l.length ≤ l.length := by
   have := Nat.mul_le_mul_right l.length h1
   omega
  show S.head + ((S.inc * l.length : Nat) : Int) + (n : Int) ≤ C.head
  omega
theorem feed_plain {C : Cfg} : ∀ (l : Bs) {S : PS} (c : UInt8), Ready C S → plain (c :: l) → S.hasRoom C (l.length + 1) → ((S.line.length + (l.length + 1) : Nat) : Int) ≤ S.most → S.feed C (c :: l) = S.add (c :: l)
 | [], S, c, h, hp, hh, hm => by
  have h0 := hp c (List.mem_cons_self ..)
  rw [feed_cons, step_plain h (room_one hh) h0.1 h0.2 (by simp only [List.length_nil] at hm; omega)]
  rfl
 | d :: l, S, c, h, hp, hh, hm => by
  have h0 := hp c (List.mem_cons_self ..)
  simp only [List.length_cons] at hh hm
  rw [feed_cons, step_plain h (room_one hh) h0.1 h0.2 (by omega), feed_plain l d (add_ready h _) (fun x hx => hp x (List.mem_cons_of_mem _ hx)) (room_add (by simpa [Nat.add_comm] using hh)) (by rw [add_line]; show _ ≤ S.most; simp only [List.length_append, List.length_singleton]; omega), add_add]
  rfl
def PS.end_ (S : PS) : PS := { S with begun := true, waits := false, head := S.head + ((S.inc * 2 : Nat) : Int), pend := false, over := true, b := S.line }
theorem feed_crlf {C : Cfg} {S : PS} (h : Ready C S) (hh : S.hasRoom C 2) : S.feed C [13, 10] = S.end_.ended C := by
 rw [feed_cons, step_ready h.err h.stage (room_one hh)]
 have hb : S.headed.bad = false := h.bad
 have hp : S.headed.pend = false := h.pend
 have h1 : S.headed.lineB C 13 = ({ S.headed with pend := true, over := false, b := S.line }, 0) := by
  unfold PS.lineB
  rw [if_neg (by simp [hb]), if_neg (by simp [hp]), if_pos rfl]
  rfl
 rw [h1]
 have h2 : S.headed.tailG (PS.step1 C) C 13 ({ S.headed with pend := true, over := false, b := S.line }, 0) = { S.headed with pend := true, over := false, b := S.line } := by
  unfold PS.tailG
  rw [if_neg (by simp), if_neg (by simp), if_neg (by simp), if_neg (by simp)]
 rw [h2, feed_cons, feed_nil, step_ready (S := { S.headed with pend := true, over := false, b := S.line }) h.err h.stage (by
  rcases hh with h3 | h3
  ·exact .inl h3
  ·refine .inr ?_
   have := inc_le S
   show S.head + (S.inc : Int) + 1 ≤ C.head
   omega)]
 have h3 : (PS.headed { S.headed with pend := true, over := false, b := S.line }).lineB C 10 = (S.end_, 1) := by
  unfold PS.lineB
  rw [if_neg (by simpa [PS.headed] using h.bad), if_pos rfl, if_pos rfl]
  have e : S.head + (S.inc : Int) + (S.inc : Int) = S.head + ((S.inc * 2 : Nat) : Int) := by omega
  show (({ S.headed with begun := true, waits := false, head := S.head + (S.inc : Int) + (S.inc : Int), over := true, pend := false, b := S.line } : PS), (1 : Int)) = _
  rw [e]
  rfl
 rw [h3]
 unfold PS.tailG
 rw [if_pos rfl]
theorem add_nil_end (S : PS) : (S.add []).end_ = S.end_ := by
 unfold PS.add PS.end_ PS.line PS.inc
 simp
theorem feed_line {C : Cfg} {S : PS} (l : Bs) (h : Ready C S) (hp : plain l) (hh : S.hasRoom C (l.length + 2)) (hm : ((S.line.length + l.length : Nat) : Int) ≤ S.most) : S.feed C (l ++ [13, 10]) = (S.add l).end_.ended C := by
 cases l with
 | nil => rw [List.nil_append, add_nil_end, feed_crlf h (by simpa using hh)]
 | cons c l =>
  rw [feed_append, feed_plain l c h hp (room_le hh (by simp)) (by simpa using hm), feed_crlf (add_ready h _) (room_add hh)]
end Pl
end Go.Vx
end
section
set_option linter.unusedVariables false
set_option linter.unusedSimpArgs false
set_option maxRecDepth 100000
namespace Go.Vx
namespace Pl
open Go Go.Proofs
def PS.hd (S : PS) (lines head : Int) (fs : Fs) (e : Int) (b : Bs) : PS := { S with stage := 1, begun := true, waits := false, lines := lines, head := head, fields := fs, err := e, pend := false, over := true, bad := false, b := b }
theorem hd_ready (C : Cfg) (S : PS) (lines head : Int) (fs : Fs) (b : Bs) : Ready C (S.hd lines head fs 0 b) := ⟨rfl, (by show ¬ ((1 : Int) = 2 ∨ (1 : Int) = 4); decide), rfl, rfl⟩
theorem hd_room {C : Cfg} {S : PS} {lines head : Int} {fs : Fs} {e : Int} {b : Bs} {n : Nat} (h : head + (n : Int) ≤ C.head) : (S.hd lines head fs e b).hasRoom C n := .inr h
theorem hd_add_end (S : PS) (lines head : Int) (fs : Fs) (b l : Bs) : ((S.hd lines head fs 0 b).add l).end_ = S.hd lines (head + ((l.length + 2 : Nat) : Int)) fs 0 l := by
 have e : head + ((1 * l.length : Nat) : Int) + ((1 * 2 : Nat) : Int) = head + ((l.length + 2 : Nat) : Int) := by omega
 have h : ((S.hd lines head fs 0 b).add l).end_ = S.hd lines (head + ((1 * l.length : Nat) : Int) + ((1 * 2 : Nat) : Int)) fs 0 l := rfl
 rw [h, e]
theorem hd_line {C : Cfg} {S : PS} {lines head : Int} {fs : Fs} {b l : Bs} (hp : plain l) (hne : l ≠ []) (hm : (l.length : Int) ≤ S.most) (hh : head + ((l.length + 2 : Nat) : Int) ≤ C.head) :
  (S.hd lines head fs 0 b).feed C (l ++ [13, 10]) = if lines + 1 > C.fields then S.hd (lines + 1) (head + ((l.length + 2 : Nat) : Int)) fs 431 l else S.hd (lines + 1) (head + ((l.length + 2 : Nat) : Int)) (fieldL C.p fs l 0).1 (fieldL C.p fs l 0).2 l := by
 rw [feed_line l (hd_ready C S lines head fs b) hp (hd_room hh) (by show (((0 + l.length : Nat)) : Int) ≤ S.most; omega), hd_add_end]
 unfold PS.ended
 rw [if_neg (by show ¬ ((1 : Int) = 0); decide), if_pos (show (S.hd lines (head + ((l.length + 2 : Nat) : Int)) fs 0 l).stage = 1 from rfl), if_neg (show ¬ (S.hd lines (head + ((l.length + 2 : Nat) : Int)) fs 0 l).lineS = [] from hne)]
 unfold PS.fieldF
 by_cases h : lines + 1 > C.fields
 ·rw [if_pos (show (S.hd lines (head + ((l.length + 2 : Nat) : Int)) fs 0 l).lines + 1 > C.fields from h), if_pos h]; rfl
 ·rw [if_neg (show ¬ (S.hd lines (head + ((l.length + 2 : Nat) : Int)) fs 0 l).lines + 1 > C.fields from h), if_neg h]; rfl
theorem hd_blank {C : Cfg} {S : PS} {lines head : Int} {fs : Fs} {b : Bs} (hm : 0 ≤ S.most) (hh : head + 2 ≤ C.head) :
  (S.hd lines head fs 0 b).feed C [13, 10] = (S.hd lines (head + 2) fs 0 []).framed C := by
 have := feed_line (C := C) [] (hd_ready C S lines head fs b) (fun c hc => by simp at hc) (hd_room (by simpa using hh)) (by show ((0 : Nat) : Int) ≤ S.most; omega)
 rw [List.nil_append] at this
 rw [this, hd_add_end]
 rfl
theorem new_taken (C : Cfg) : (PS.new C).taken = PS.new C := rfl
end Pl
end Go.Vx
end
section
set_option linter.unusedVariables false
set_option linter.unusedSimpArgs false
set_option maxRecDepth 100000
namespace Go.Vx
namespace Pl
open Go Go.Proofs
theorem rune_facts (n b0 b1 b2 b3 : Nat) (hn : 1 ≤ n) (h0 : 128 ≤ b0) (q0 : b0 < 256) :
  (Lib.decodeN n b0 b1 b2 b3).1 ≠ 32 ∧ (Lib.decodeN n b0 b1 b2 b3).1 ≠ 9 ∧ (Lib.decodeN n b0 b1 b2 b3).2 ≤ n ∧ (2 ≤ (Lib.decodeN n b0 b1 b2 b3).2 → 128 ≤ b1) ∧ (3 ≤ (Lib.decodeN n b0 b1 b2 b3).2 → 128 ≤ b2) ∧ (4 ≤ (Lib.decodeN n b0 b1 b2 b3).2 → 128 ≤ b3) ∧ (Lib.decodeN n b0 b1 b2 b3).2 ≤ 4 := by
 unfold Lib.decodeN
 repeat' split
 all_goals (simp only; omega)
def wordsGo : Bs → Bs → List Bs
 | cur, [] => if cur = [] then [] else [cur]
 | cur, c :: l => if isBlank c = true then (if cur = [] then wordsGo [] l else cur :: wordsGo [] l) else wordsGo (cur ++ [c]) l
def words (l : Bs) : List Bs := wordsGo [] l
theorem words_skip : ∀ (k : Nat) (cur l : Bs), k ≤ l.length → (∀ j, j < k → isBlank (l.getD j 0) = false) → wordsGo cur l = wordsGo (cur ++ l.take k) (l.drop k)
 | 0, cur, l, _, _ => by simp
 | k + 1, cur, [], h, _ => by simp at h
 | k + 1, cur, c :: l, h, hz => by
  have h0 : isBlank c = false := hz 0 (by omega)
  rw [wordsGo, h0, if_neg (by simp), words_skip k (cur ++ [c]) l (by simpa using h) (fun j hj => by have := hz (j + 1) (by omega); simpa using this)]
  simp
theorem blank_hi {c : UInt8} (h : 128 ≤ c.toNat) : isBlank c = false := by
 have := all256 (p := fun c => decide (c.toNat < 128) || !isBlank c) (by decide +kernel) c
 have h2 : decide (c.toNat < 128) = false := by rw [decide_eq_false_iff_not]; omega
 simpa [h2] using this
theorem blank_lo (c : UInt8) : pBlank c.toNat = isBlank c := by
 have := all256 (p := fun c => pBlank c.toNat == isBlank c) (by decide +kernel) c
 simpa using this
theorem blank_no {n : Nat} (h1 : n ≠ 32) (h2 : n ≠ 9) : pBlank n = false := by
 unfold pBlank
 simp [h1, h2]
theorem rune_at (s : ByteArray) (pos : Nat) (h : pos < s.size) :
  pos + (Utf8.decode s pos).2 ≤ s.size ∧ ((pBlank (Utf8.decode s pos).1 = true ∧ (Utf8.decode s pos).2 = 1 ∧ isBlank (s.data.toList.getD pos 0) = true) ∨ (pBlank (Utf8.decode s pos).1 = false ∧ ∀ j, j < (Utf8.decode s pos).2 → isBlank (s.data.toList.getD (pos + j) 0) = false)) := by
 rw [Lib.decode_at]
 simp only [← Lib.getD_get!']
 generalize hb0 : s.data.toList.getD pos 0 = c0
 generalize hb1 : s.data.toList.getD (pos + 1) 0 = c1
 generalize hb2 : s.data.toList.getD (pos + 2) 0 = c2
 generalize hb3 : s.data.toList.getD (pos + 3) 0 = c3
 have q0 := UInt8.toNat_lt c0
 by_cases hlo : c0.toNat < 128
 ·have e : Lib.decodeN (s.size - pos) c0.toNat c1.toNat c2.toNat c3.toNat = (c0.toNat, 1) := by unfold Lib.decodeN; rw [if_pos hlo]
  rw [e]
  refine ⟨by simp only; omega, ?_⟩
  simp only [blank_lo]
  cases hc : isBlank c0 with
  | true => exact .inl (by simp)
  | false =>
   refine .inr ⟨by simp, fun j hj => ?_⟩
   obtain rfl : j = 0 := by omega
   rw [Nat.add_zero, hb0, hc]
 ·obtain ⟨f1, f2, f3, f4, f5, f6, f7⟩ := rune_facts (s.size - pos) c0.toNat c1.toNat c2.toNat c3.toNat (by omega) (by omega) q0
  refine ⟨by omega, .inr ⟨blank_no f1 f2, fun j hj => ?_⟩⟩
  match j, hj with
  | 0, _ => rw [Nat.add_zero, hb0]; exact blank_hi (by omega)
  | 1, hj => rw [hb1]; exact blank_hi (f4 (by omega))
  | 2, hj => rw [hb2]; exact blank_hi (f5 (by omega))
  | 3, hj => rw [hb3]; exact blank_hi (f6 (by omega))
  | j + 4, hj => omega
theorem size_data (s : ByteArray) : s.data.toList.length = s.size := by simp
theorem spans_words (s : ByteArray) : ∀ (f pos : Nat) (st : Option Nat) (acc : List (Nat × Nat)), s.size ≤ pos + f → pos ≤ s.size → (∀ a, st = some a → a < pos) →
  (Lib.closeSpans s (Lib.spansFromP pBlank s f pos st acc)).map (fun p => Lib.pieceU s.data.toList p.1 p.2) = acc.map (fun p => Lib.pieceU s.data.toList p.1 p.2) ++ wordsGo (Lib.openPiece s.data.toList st pos) (s.data.toList.drop pos) := by
 have hend : ∀ (st : Option Nat) (acc : List (Nat × Nat)), (∀ a, st = some a → a < s.size) → (Lib.closeSpans s (acc, st)).map (fun p => Lib.pieceU s.data.toList p.1 p.2) = acc.map (fun p => Lib.pieceU s.data.toList p.1 p.2) ++ wordsGo (Lib.openPiece s.data.toList st s.size) (s.data.toList.drop s.size) := by
  intro st acc hst
  have hd : s.data.toList.drop s.size = [] := List.drop_eq_nil_of_le (by rw [size_data]; exact Nat.le_refl _)
  rw [hd]
  cases st with
  | none => simp [Lib.closeSpans, Lib.openPiece, wordsGo]
  | some a =>
   have := Lib.pieceU_ne s.data.toList a s.size (hst a rfl) (by rw [size_data]; exact Nat.le_refl _)
   simp [Lib.closeSpans, Lib.openPiece, wordsGo, this]
 intro f
 induction f with
 | zero =>
  intro pos st acc h hp hst
  obtain rfl : pos = s.size := by omega
  exact hend st acc hst
 | succ f ih =>
  intro pos st acc h hp hst
  by_cases hlt : pos < s.size
  ·have hw := Lib.width_pos s pos
   obtain ⟨hwn, hcase⟩ := rune_at s pos hlt
   rw [Lib.spansFromP.eq_def]
   simp only [if_pos hlt]
   rcases hcase with ⟨hb, h1, hbl⟩ | ⟨hb, hbl⟩
   ·rw [hb, if_pos rfl, h1]
    have hd : s.data.toList.drop pos = s.data.toList.getD pos 0 :: s.data.toList.drop (pos + 1) := by
     rw [List.getD_eq_getElem?_getD, List.getElem?_eq_getElem (by rw [size_data]; exact hlt)]
     exact List.drop_eq_getElem_cons (by rw [size_data]; exact hlt)
    rw [hd, wordsGo.eq_2, hbl, if_pos rfl]
    cases st with
    | none => 
     simp only
     rw [ih (pos + 1) none acc (by omega) (by omega) (fun a h => by cases h)]
     simp [Lib.openPiece]
    | some a =>
     have hpn := Lib.pieceU_ne s.data.toList a pos (hst a rfl) (by rw [size_data]; omega)
     simp only
     rw [ih (pos + 1) none (acc ++ [(a, pos)]) (by omega) (by omega) (fun a h => by cases h)]
     simp [Lib.openPiece, hpn]
   ·rw [hb, if_neg (by simp)]
    have hk : (Utf8.decode s pos).2 ≤ (s.data.toList.drop pos).length := by rw [List.length_drop, size_data]; omega
    have hsk := words_skip (Utf8.decode s pos).2 (Lib.openPiece s.data.toList st pos) (s.data.toList.drop pos) hk (fun j hj => by rw [Lib.getD_dropU]; exact hbl j hj)
    rw [hsk, List.drop_drop]
    cases st with
    | none =>
     simp only
     rw [ih (pos + (Utf8.decode s pos).2) (some pos) acc (by omega) hwn (fun a h => by cases h; omega)]
     have e : ([] : Bs) ++ (s.data.toList.drop pos).take (Utf8.decode s pos).2 = Lib.pieceU s.data.toList pos (pos + (Utf8.decode s pos).2) := by
      unfold Lib.pieceU
      rw [List.nil_append, Nat.add_sub_cancel_left]
     simp only [Lib.openPiece]
     rw [e]
    | some a =>
     simp only
     rw [ih (pos + (Utf8.decode s pos).2) (some a) acc (by omega) hwn (fun b h => by cases h; have := hst a rfl; omega)]
     simp only [Lib.openPiece]
     rw [Lib.pieceU_grow _ _ _ _ (Nat.le_of_lt (hst a rfl))]
  ·obtain rfl : pos = s.size := by omega
   rw [Lib.spansFromP_end _ _ _ _ _ _ hlt]
   exact hend st acc hst
theorem fields_words (l : Bs) : q9y.fieldsOf l = words l := by
 have h := spans_words ⟨l.toArray⟩ (ByteArray.size ⟨l.toArray⟩) 0 none [] (by omega) (Nat.zero_le _) (fun a h => by cases h)
 unfold q9y.fieldsOf Lib.goFieldsP Lib.spansOfP
 rw [List.map_map]
 refine Eq.trans ?_ (h.trans ?_)
 ·congr 1
  funext p
  simp [Lib.pieceU]
 ·simp [Lib.openPiece, words]
theorem words_total : ∀ (l cur : Bs), ((wordsGo cur l).map List.length).sum + (wordsGo cur l).length ≤ cur.length + l.length + 1
 | [], cur => by
  rw [wordsGo]
  split <;> simp
 | c :: l, cur => by
  rw [wordsGo]
  split
  ·have := words_total l []
   split
   ·simp only [List.length_nil, List.length_cons] at this ⊢; omega
   ·simp only [List.map_cons, List.sum_cons, List.length_nil, List.length_cons] at this ⊢; omega
  ·have := words_total l (cur ++ [c])
   simp only [List.length_append, List.length_cons, List.length_nil] at this ⊢
   omega
theorem mem_sum {l : List Bs} {x : Bs} (h : x ∈ l) : x.length ≤ (l.map List.length).sum := by
 induction l with
 | nil => simp at h
 | cons a l ih =>
  rw [List.map_cons, List.sum_cons]
  rcases List.mem_cons.1 h with rfl | h
  ·omega
  ·have := ih h; omega
theorem words_small (s : Bs) : ∀ x ∈ words s, x.length ≤ s.length := fun x hx => by
 have h1 := words_total s []
 have h2 := mem_sum hx
 have h3 : 0 < (words s).length := List.length_pos_iff.2 (List.ne_nil_of_mem hx)
 unfold words at h2 h3
 simp only [List.length_nil] at h1
 omega
theorem words_apart (s : Bs) : Apart s (words s) := by
 intro h
 have ht := words_total s []
 unfold words at h ⊢
 generalize wordsGo [] s = l at h ht ⊢
 match l, h with
 | a :: m, h =>
  rcases List.eq_nil_or_concat m with rfl | ⟨k, z, rfl⟩
  ·simp at h
  ·simp only [List.concat_eq_append] at h ht ⊢
   have e1 : (a :: (k ++ [z])).getD ((a :: (k ++ [z])).length - 1) [] = z := by
    simp [List.getD_eq_getElem?_getD]
   rw [e1]
   simp only [List.getD_cons_zero]
   simp only [List.map_cons, List.map_append, List.map_nil, List.sum_cons, List.sum_append, List.sum_nil, List.length_cons, List.length_append, List.length_nil] at ht h
   omega
theorem linesOk (C : Cfg) : LinesOk C := fun s hs => by
 have ht := trim_len s
 refine ⟨fun h3 => ⟨by omega, fun _ => ?_, ?_, ?_⟩, ?_⟩
 ·rw [fields_words]; exact words_apart _
 ·rw [fields_words]; exact words_small _
 ·rw [fields_words]
  have := words_total (trim s) []
  unfold words
  simp only [List.length_nil] at this
  omega
 ·have : (partedS s C.p).2.1.length ≤ s.length := by
   unfold partedS partsS partsL
   cases h3 : hasD C.p 3 with
   | true =>
    simp only [if_true]
    rw [fields_words]
    have := partedL_len (p := C.p) (s := trim s) (l := words (trim s)) (words_small _)
    omega
   | false =>
    simp only [Bool.false_eq_true, if_false]
    exact partedL_len fun x hx => splitC_small s.length (Nat.le_refl _) x hx
  omega
end Pl
end Go.Vx
end
section
set_option linter.unusedVariables false
set_option linter.unusedSimpArgs false
set_option maxRecDepth 100000
namespace Go.Vx
namespace Pl
open Go Go.Proofs
def PS.tl (S : PS) (lines head : Int) (ts : Fs) (e : Int) (ov : Bool) (b : Bs) : PS := { S with stage := 6, begun := true, waits := false, lines := lines, head := head, trailers := ts, err := e, pend := false, over := ov, bad := false, b := b }
theorem tl_ready (C : Cfg) (S : PS) (lines head : Int) (ts : Fs) (ov : Bool) (b : Bs) : Ready C (S.tl lines head ts 0 ov b) := ⟨rfl, (by show ¬ ((6 : Int) = 2 ∨ (6 : Int) = 4); decide), rfl, rfl⟩
theorem tl_none {S : PS} {lines head : Int} {ts : Fs} {e : Int} {ov : Bool} {b : Bs} (hb : ov = true ∨ b = []) : (S.tl lines head ts e ov b).line = [] := by
 unfold PS.line PS.tl
 rcases hb with rfl | rfl <;> simp
theorem tl_add_end {S : PS} {lines head : Int} {ts : Fs} {ov : Bool} {b : Bs} (hb : ov = true ∨ b = []) (l : Bs) : ((S.tl lines head ts 0 ov b).add l).end_ = S.tl lines (head + ((l.length + 2 : Nat) : Int)) ts 0 true l := by
 have e : head + ((1 * l.length : Nat) : Int) + ((1 * 2 : Nat) : Int) = head + ((l.length + 2 : Nat) : Int) := by omega
 have h : ((S.tl lines head ts 0 ov b).add l).end_ = S.tl lines (head + ((1 * l.length : Nat) : Int) + ((1 * 2 : Nat) : Int)) ts 0 true ((S.tl lines head ts 0 ov b).line ++ l) := rfl
 rw [h, e, tl_none hb]
 rfl
theorem tl_blank {C : Cfg} {S : PS} {lines head : Int} {ts : Fs} {ov : Bool} {b : Bs} (hb : ov = true ∨ b = []) (hm : 0 ≤ S.most) (hh : head + 2 ≤ C.head) :
  (S.tl lines head ts 0 ov b).feed C [13, 10] = (S.tl lines (head + 2) ts 0 true []).whole C := by
 have := feed_line (C := C) [] (tl_ready C S lines head ts ov b) (fun c hc => by simp at hc) (.inr (by simp only [List.length_nil, Nat.zero_add]; exact hh)) (by rw [tl_none hb]; show ((0 : Nat) : Int) ≤ S.most; omega)
 rw [List.nil_append] at this
 rw [this, tl_add_end hb]
 rfl
def PS.atSize (C : Cfg) (S : PS) (w : Bool) (bd : Bs) : PS := { S with stage := 3, begun := true, waits := w, err := 0, most := lineMost C.line, pend := false, over := false, bad := false, b := [], body := bd }
def PS.sized (C : Cfg) (S : PS) (bd l : Bs) : PS := { S with stage := 3, begun := true, waits := false, err := 0, most := lineMost C.line, pend := false, over := true, bad := false, b := l, body := bd }
theorem size_line {C : Cfg} {S : PS} {w : Bool} {bd l : Bs} (hp : plain l) (hm : (l.length : Int) ≤ lineMost C.line) : (S.atSize C w bd).feed C (l ++ [13, 10]) = (S.sized C bd l).chunk C l := by
 have hr : Ready C (S.atSize C w bd) := ⟨rfl, (by show ¬ ((3 : Int) = 2 ∨ (3 : Int) = 4); decide), rfl, rfl⟩
 rw [feed_line l hr hp (.inl rfl) (by show (((0 + l.length : Nat)) : Int) ≤ lineMost C.line; omega)]
 have e : S.head + ((0 * l.length : Nat) : Int) + ((0 * 2 : Nat) : Int) = S.head := by omega
 have h : ((S.atSize C w bd).add l).end_ = { S.sized C bd l with head := S.head + ((0 * l.length : Nat) : Int) + ((0 * 2 : Nat) : Int) } := rfl
 rw [h, e]
 rfl
theorem size_some {C : Cfg} {S : PS} {w : Bool} {bd l : Bs} {n : Int} (hp : plain l) (hm : (l.length : Int) ≤ lineMost C.line) (hs : sizeS l C.p C.body C.ext = (n, 0)) (hn : n ≠ 0) (hr : n ≤ C.body - (bd.length : Int)) : (S.atSize C w bd).feed C (l ++ [13, 10]) = { S.sized C bd l with stage := 4, need := n } := by
 rw [size_line hp hm]
 unfold PS.chunk
 simp only [hs]
 rw [if_neg (by decide), if_neg (by show ¬ (n > C.body - (bd.length : Int)); omega), if_neg hn]
theorem size_zero {C : Cfg} {S : PS} {w : Bool} {bd l : Bs} (hp : plain l) (hm : (l.length : Int) ≤ lineMost C.line) (hs : sizeS l C.p C.body C.ext = (0, 0)) (hr : (bd.length : Int) ≤ C.body) : (S.atSize C w bd).feed C (l ++ [13, 10]) = PS.tl { S with most := lineMost C.line, body := bd } 0 S.head S.trailers 0 false [] := by
 rw [size_line hp hm]
 unfold PS.chunk
 simp only [hs]
 rw [if_neg (by decide), if_neg (by show ¬ ((0 : Int) > C.body - (bd.length : Int)); omega), if_pos trivial]
 rfl
theorem hd_chunked {C : Cfg} {S : PS} {lines head n : Int} {fs : Fs} {b : Bs} (hm : 0 ≤ S.most) (hh : head + 2 ≤ C.head) (hf : frameS fs C.p C.body C.chunked S.minor = (2, n, 0)) :
  (S.hd lines head fs 0 b).feed C [13, 10] = PS.atSize C { S with lines := lines, head := head + 2, fields := fs, chunked := true } (expectsS fs S.minor) S.body := by
 rw [hd_blank hm hh]
 unfold PS.framed
 rw [show frameS (S.hd lines (head + 2) fs 0 []).fields C.p C.body C.chunked (S.hd lines (head + 2) fs 0 []).minor = _ from hf]
 rfl
theorem hd_whole {C : Cfg} {S : PS} {lines head k : Int} {fs : Fs} {b : Bs} (hm : 0 ≤ S.most) (hh : head + 2 ≤ C.head) (hk : k ≠ 2) (hf : frameS fs C.p C.body C.chunked S.minor = (k, 0, 0)) :
  (S.hd lines head fs 0 b).feed C [13, 10] = (S.hd lines (head + 2) fs 0 []).whole C := by
 rw [hd_blank hm hh]
 unfold PS.framed
 rw [show frameS (S.hd lines (head + 2) fs 0 []).fields C.p C.body C.chunked (S.hd lines (head + 2) fs 0 []).minor = _ from hf]
 simp only
 rw [if_neg (by decide), if_neg hk, if_pos trivial]
theorem hd_fixed {C : Cfg} {S : PS} {lines head k n : Int} {fs : Fs} {b : Bs} (hm : 0 ≤ S.most) (hh : head + 2 ≤ C.head) (hk : k ≠ 2) (hn : n ≠ 0) (hf : frameS fs C.p C.body C.chunked S.minor = (k, n, 0)) :
  (S.hd lines head fs 0 b).feed C [13, 10] = { S.hd lines (head + 2) fs 0 [] with stage := 2, need := n, waits := expectsS fs S.minor } := by
 rw [hd_blank hm hh]
 unfold PS.framed
 rw [show frameS (S.hd lines (head + 2) fs 0 []).fields C.p C.body C.chunked (S.hd lines (head + 2) fs 0 []).minor = _ from hf]
 simp only
 rw [if_neg (by decide), if_neg hk, if_neg hn]
 rfl
theorem step_body {C : Cfg} {S : PS} (he : S.err = 0) (hs : S.stage = 2 ∨ S.stage = 4) (c : UInt8) : S.step C c true = S.bodyB C c := by
 unfold PS.step PS.stepG
 rw [if_neg (by simp [he]), if_pos hs]
theorem body_feed {C : Cfg} : ∀ (l : Bs) (c : UInt8) (S : PS), S.err = 0 → (S.stage = 2 ∨ S.stage = 4) → S.need = ((l.length + 1 : Nat) : Int) →
  S.feed C (c :: l) = if S.stage = 2 then PS.whole C { S with waits := false, body := S.body ++ (c :: l), need := 0 } else PS.to C { S with waits := false, body := S.body ++ (c :: l), need := 0 } 5
 | [], c, S, he, hs, hn => by
  have hn1 : S.need - 1 = 0 := by simp at hn; omega
  rw [feed_cons, feed_nil, step_body he hs]
  unfold PS.bodyB
  simp only [hn1]
  rw [if_neg (by decide)]
 | d :: l, c, S, he, hs, hn => by
  have hn1 : S.need - 1 = ((l.length + 1 : Nat) : Int) := by simp at hn ⊢; omega
  rw [feed_cons, step_body he hs]
  have : S.bodyB C c = { S with waits := false, body := S.body ++ [c], need := S.need - 1 } := by
   unfold PS.bodyB
   simp only
   rw [if_pos (by rw [hn1]; omega)]
  rw [this, body_feed l d { S with waits := false, body := S.body ++ [c], need := S.need - 1 } he hs hn1]
  simp only [List.append_assoc, List.singleton_append]
theorem behind_line {C : Cfg} {S : PS} (he : S.err = 0) : (S.to C 5).feed C [13, 10] = PS.to C { S with begun := true, waits := false } 3 := by
 have hr : Ready C (S.to C 5) := ⟨he, (by show ¬ ((5 : Int) = 2 ∨ (5 : Int) = 4); decide), rfl, rfl⟩
 rw [feed_crlf hr (.inl rfl)]
 have e : S.head + ((0 * 2 : Nat) : Int) = S.head := by omega
 have h : (S.to C 5).end_.ended C = PS.to C { S with begun := true, waits := false, head := S.head + ((0 * 2 : Nat) : Int) } 3 := rfl
 rw [h, e]
theorem chunk_feed {C : Cfg} {S : PS} {w : Bool} {bd l : Bs} {c : UInt8} {d : Bs} (hp : plain l) (hm : (l.length : Int) ≤ lineMost C.line) (hs : sizeS l C.p C.body C.ext = (((d.length + 1 : Nat) : Int), 0)) (hr : ((d.length + 1 : Nat) : Int) ≤ C.body - (bd.length : Int)) :
  (S.atSize C w bd).feed C (l ++ [13, 10] ++ (c :: d) ++ [13, 10]) = PS.atSize C { S with need := 0 } false (bd ++ (c :: d)) := by
 rw [feed_append, feed_append, size_some hp hm hs (by omega) hr, body_feed d c _ rfl (.inr rfl) rfl, if_neg (by show ¬ ((4 : Int) = 2); decide), behind_line rfl]
 rfl
end Pl
end Go.Vx
end
section
set_option linter.unusedVariables false
set_option linter.unusedSimpArgs false
set_option maxRecDepth 100000
namespace Go.Vx
namespace Pl
open Go Go.Proofs
def hostH : Bs := [72, 111, 115, 116, 58, 32, 104]
def hostF : List UInt8 × List UInt8 := ([72, 111, 115, 116], [104])
theorem host_any (p : Int) : fieldL p [] hostH 0 = ([hostF], 0) := by
 unfold fieldL
 rw [if_neg (fun q => q.1 rfl)]
 unfold fieldS nameS outS
 generalize hasD p 9 = b9
 generalize hasD p 10 = b10
 generalize hasD p 11 = b11
 generalize hasD p 12 = b12
 generalize hasD p 14 = b14
 revert b9 b10 b11 b12 b14
 decide +kernel
def PS.st0 (C : Cfg) (o : List Rec) (head : Int) (e : Int) (ov bg : Bool) : PS := { PS.new C with head := head, over := ov, begun := bg, err := e, out := o }
theorem st0_ready (C : Cfg) (o : List Rec) (head : Int) (ov bg : Bool) : Ready C (PS.st0 C o head 0 ov bg) := ⟨rfl, (by show ¬ ((0 : Int) = 2 ∨ (0 : Int) = 4); decide), rfl, rfl⟩
theorem st0_line {C : Cfg} {o : List Rec} {head : Int} {ov bg : Bool} : (PS.st0 C o head 0 ov bg).line = [] := by
 unfold PS.line
 split <;> rfl
def PS.ln0 (C : Cfg) (o : List Rec) (head : Int) (l : Bs) : PS := { PS.new C with head := head, over := true, begun := true, b := l, out := o }
theorem st0_add_end {C : Cfg} {o : List Rec} {head : Int} {ov bg : Bool} (l : Bs) : ((PS.st0 C o head 0 ov bg).add l).end_ = PS.ln0 C o (head + ((l.length + 2 : Nat) : Int)) l := by
 have e : head + ((1 * l.length : Nat) : Int) + ((1 * 2 : Nat) : Int) = head + ((l.length + 2 : Nat) : Int) := by omega
 have h : ((PS.st0 C o head 0 ov bg).add l).end_ = { PS.new C with head := head + ((1 * l.length : Nat) : Int) + ((1 * 2 : Nat) : Int), over := true, begun := true, b := (PS.st0 C o head 0 ov bg).line ++ l, out := o } := rfl
 rw [h, e, st0_line]
 rfl
theorem st0_first {C : Cfg} {o : List Rec} {head : Int} {ov bg : Bool} {l m t : Bs} {mi : Int} (hC : CfgOk C) (hp : plain l) (hne : l ≠ []) (hm : (l.length : Int) ≤ C.line) (hh : head + ((l.length + 2 : Nat) : Int) ≤ C.head) (hr : requestS l C.p C.old = (m, t, mi, 0)) :
  (PS.st0 C o head 0 ov bg).feed C (l ++ [13, 10]) = PS.hd { PS.new C with method := m, target := t, minor := mi, out := o } 0 (head + ((l.length + 2 : Nat) : Int)) [] 0 l := by
 have hmost : (PS.new C).most = C.line := hC.most
 rw [feed_line l (st0_ready C o head ov bg) hp (.inr hh) (by rw [st0_line]; show (((0 + l.length : Nat)) : Int) ≤ (PS.new C).most; rw [hmost]; omega), st0_add_end]
 unfold PS.ended
 rw [if_pos (show (PS.ln0 C o (head + ((l.length + 2 : Nat) : Int)) l).stage = 0 from rfl), show (PS.ln0 C o (head + ((l.length + 2 : Nat) : Int)) l).lineS = l from rfl]
 unfold PS.request
 rw [if_neg (fun h => hne h.1), hr]
 rfl
theorem whole_st0 (C : Cfg) (S : PS) (h : S.err = 0) : S.whole C = PS.st0 C (S.out ++ [S.rec_]) 0 0 false false := by
 unfold PS.whole PS.st0
 rw [h]
 rfl
end Pl
end Go.Vx
end
section
set_option linter.unusedVariables false
set_option linter.unusedSimpArgs false
set_option maxRecDepth 100000
namespace Go.Vx
namespace Pl
open Go Go.Proofs
theorem known_f : q21.f = some true := by
 unfold q21.f q21.t
 have hG0 := new_good (usual_ok 0)
 refine go_call rfl ?_
 dsimp only
 refine go_call (new_f (usual 0)) ?_
 rw [show PS.new' (usual 0) = PS.new (usual 0) from if_pos (by decide)]
 dsimp only [PS.tupN]
 refine go_chk (by decide) ?_
 repeat rw [vokl]
 refine go_chk (by decide) ?_
 refine go_call (feed_f (C := usual 0) (S := PS.new (usual 0)) (usual_ok 0) usual_lines (by decide) (n := 0) (by decide) hG0) ?_
 dsimp only [PS.tupF]
 repeat rw [vokl]
 refine go_call (err_f _ _ _ _ _) ?_
 repeat rw [vokl]
 refine go_call (clean_f (((PS.new (usual 0)).taken.feed (usual 0) _)) _ _ _ _ _) ?_
 refine go_call (new_f (usual 0)) ?_
 rw [show PS.new' (usual 0) = PS.new (usual 0) from if_pos (by decide)]
 dsimp only [PS.tupN]
 refine go_chk (by decide) ?_
 repeat rw [vokl]
 refine go_chk (by decide) ?_
 refine go_call (feed_f (C := usual 0) (S := PS.new (usual 0)) (usual_ok 0) usual_lines (by decide) (n := 0) (by decide) hG0) ?_
 dsimp only [PS.tupF]
 repeat rw [vokl]
 refine go_call (err_f _ _ _ _ _) ?_
 repeat rw [vokl]
 refine go_call (clean_f (((PS.new (usual 0)).taken.feed (usual 0) _)) _ _ _ _ _) ?_
 refine go_call (new_f (usual 0)) ?_
 rw [show PS.new' (usual 0) = PS.new (usual 0) from if_pos (by decide)]
 dsimp only [PS.tupN]
 refine go_chk (by decide) ?_
 refine go_chk (by decide) ?_
 repeat rw [vokl]
 refine go_chk (by decide) ?_
 refine go_call (feed_f (C := usual 0) (S := PS.new (usual 0)) (usual_ok 0) usual_lines (by decide) (n := 0) (by decide) hG0) ?_
 dsimp only [PS.tupF]
 repeat rw [vokl]
 refine go_call (waits_f (((PS.new (usual 0)).taken.feed (usual 0) _)) _ _ _ _ _) ?_
 repeat rw [vokl]
 have hG1 : Good (usual 0) (0 + 4 * (List.flatten known3).length) ((PS.new (usual 0)).taken.feed (usual 0) (List.flatten known3)) := feed_good (usual_ok 0) _ 0 _ (by decide) hG0.taken
 refine go_call (held_f (C := usual 0) (S := ((PS.new (usual 0)).taken.feed (usual 0) (List.flatten known3))) (hG1.1.small (usual_ok 0) (by decide)) (by decide +kernel) _) ?_
 refine go_chk (by decide) ?_
 repeat rw [vokl]
 refine go_chk (by decide) ?_
 refine go_call (feed_f (C := usual 0) (S := ((PS.new (usual 0)).taken.feed (usual 0) (List.flatten known3))) (usual_ok 0) usual_lines (by decide) (n := 0 + 4 * (List.flatten known3).length) (by decide) hG1) ?_
 dsimp only [PS.tupF]
 repeat rw [vokl]
 decide +kernel
def decS (m : Nat) : Bs := (q64.f (m : Int)).getD []
def hexS (m : Nat) : Bs := (q67.f (m : Int)).getD []
def okNum (m : Nat) : Bool := decide (q64.f (m : Int) = some (decS m)) && decide (q67.f (m : Int) = some (hexS m)) && decide ((decS m).length ≤ 3) && decide ((hexS m).length ≤ 2) && decide (plain (decS m)) && decide (plain (hexS m)) &&
 (decide (m = 0) || decide (sizeS (hexS m) 0 65536 32 = ((m : Int), 0)))
theorem num_all : ((List.range 201).all okNum) = true := by decide +kernel
theorem num_ok {m : Nat} (h : m ≤ 200) : q64.f (m : Int) = some (decS m) ∧ q67.f (m : Int) = some (hexS m) ∧ (decS m).length ≤ 3 ∧ (hexS m).length ≤ 2 ∧ plain (decS m) ∧ plain (hexS m) ∧ (m = 0 ∨ sizeS (hexS m) 0 65536 32 = ((m : Int), 0)) := by
 have := List.all_eq_true.1 num_all m (List.mem_range.2 (by omega))
 unfold okNum at this
 simp only [Bool.and_eq_true, Bool.or_eq_true, decide_eq_true_eq] at this
 obtain ⟨⟨⟨⟨⟨⟨h1, h2⟩, h3⟩, h4⟩, h5⟩, h6⟩, h7⟩ := this
 exact ⟨h1, h2, h3, h4, h5, h6, h7⟩
def postA : Bs := [80, 79, 83, 84, 32, 47, 97, 32, 72, 84, 84, 80, 47, 49, 46, 49]
def postB : Bs := [80, 79, 83, 84, 32, 47, 98, 32, 72, 84, 84, 80, 47, 49, 46, 49]
def clP : Bs := [67, 111, 110, 116, 101, 110, 116, 45, 76, 101, 110, 103, 116, 104, 58, 32]
def teL : Bs := [84, 114, 97, 110, 115, 102, 101, 114, 45, 69, 110, 99, 111, 100, 105, 110, 103, 58, 32, 99, 104, 117, 110, 107, 101, 100]
def clF (m : Nat) : List UInt8 × List UInt8 := ([67, 111, 110, 116, 101, 110, 116, 45, 76, 101, 110, 103, 116, 104], decS m)
def teF : List UInt8 × List UInt8 := ([84, 114, 97, 110, 115, 102, 101, 114, 45, 69, 110, 99, 111, 100, 105, 110, 103], [99, 104, 117, 110, 107, 101, 100])
def h1 : Bs := (postA ++ [13, 10]) ++ ((hostH ++ [13, 10]) ++ clP)
def h2 : Bs := (postB ++ [13, 10]) ++ ((hostH ++ [13, 10]) ++ ((teL ++ [13, 10]) ++ [13, 10]))
def okCl (m : Nat) : Bool := decide (fieldL 0 [hostF] (clP ++ decS m) 0 = ([hostF, clF m], 0)) && decide (frameS [hostF, clF m] 0 65536 true 1 = (1, (m : Int), 0)) && decide (plain (clP ++ decS m)) && decide ((clP ++ decS m).length ≤ 20)
theorem cl_all : ((List.range 201).all okCl) = true := by decide +kernel
theorem cl_ok {m : Nat} (h : m ≤ 200) : fieldL 0 [hostF] (clP ++ decS m) 0 = ([hostF, clF m], 0) ∧ frameS [hostF, clF m] 0 65536 true 1 = (1, (m : Int), 0) ∧ plain (clP ++ decS m) ∧ (clP ++ decS m).length ≤ 20 := by
 have := List.all_eq_true.1 cl_all m (List.mem_range.2 (by omega))
 unfold okCl at this
 simp only [Bool.and_eq_true, decide_eq_true_eq] at this
 obtain ⟨⟨⟨h1, h2⟩, h3⟩, h4⟩ := this
 exact ⟨h1, h2, h3, h4⟩
def recA (body : Bs) : Rec := ([80, 79, 83, 84], [47, 97], 1, [hostF, clF body.length], false, body, [])
def begP (t : Bs) (o : List Rec) : PS := { PS.new (usual 0) with method := [80, 79, 83, 84], target := t, minor := 1, out := o }
theorem reqA_run {o : List Rec} {body : Bs} (hb : body.length ≤ 200) : (PS.st0 (usual 0) o 0 0 false false).feed (usual 0) (h1 ++ decS body.length ++ [13, 10, 13, 10] ++ body) = PS.st0 (usual 0) (o ++ [recA body]) 0 0 false false := by
 obtain ⟨c1, c2, c3, c4⟩ := cl_ok hb
 have e : h1 ++ decS body.length ++ [13, 10, 13, 10] ++ body = (postA ++ [13, 10]) ++ ((hostH ++ [13, 10]) ++ (((clP ++ decS body.length) ++ [13, 10]) ++ ([13, 10] ++ body))) := by
  unfold h1
  rw [show ([13, 10, 13, 10] : Bs) = [13, 10] ++ [13, 10] from rfl]
  simp only [List.append_assoc]
 rw [e, feed_append, st0_first (m := [80, 79, 83, 84]) (t := [47, 97]) (mi := 1) (usual_ok 0) (by decide) (by decide) (by show ((16 : Nat) : Int) ≤ 1024; decide) (by show (0 : Int) + ((18 : Nat) : Int) ≤ 8192; decide) (by show requestS postA 0 true = _; decide +kernel)]
 rw [feed_append, hd_line (by decide) (by decide) (by show ((7 : Nat) : Int) ≤ 1024; decide) (by show (0 : Int) + ((18 : Nat) : Int) + ((9 : Nat) : Int) ≤ 8192; decide), if_neg (by show ¬ ((0 : Int) + 1 > 32); decide), show fieldL (usual 0).p [] hostH 0 = _ from host_any 0]
 rw [feed_append, hd_line c3 (by intro q; have := congrArg List.length q; simp [clP] at this) (by show ((clP ++ decS body.length).length : Int) ≤ 1024; omega) (by show (0 : Int) + ((18 : Nat) : Int) + ((9 : Nat) : Int) + _ ≤ 8192; omega), if_neg (by show ¬ ((0 : Int) + 1 + 1 > 32); decide), show fieldL (usual 0).p ([hostF], (0 : Int)).1 (clP ++ decS body.length) 0 = _ from c1]
 rw [feed_append]
 cases body with
 | nil =>
  have := hd_whole (C := usual 0) (S := begP [47, 97] o) (lines := 0 + 1 + 1) (head := (0 : Int) + ((postA.length + 2 : Nat) : Int) + ((hostH.length + 2 : Nat) : Int) + (((clP ++ decS ([] : Bs).length).length + 2 : Nat) : Int)) (fs := [hostF, clF 0]) (b := clP ++ decS 0) (k := 1) (by show (0 : Int) ≤ 1024; decide) (by show (0 : Int) + ((18 : Nat) : Int) + ((9 : Nat) : Int) + _ + 2 ≤ 8192; omega) (by decide) c2
  refine (congrArg (fun S => PS.feed (usual 0) S []) this).trans ?_
  rw [feed_nil, whole_st0 _ _ rfl]
  rfl
 | cons c d =>
  have := hd_fixed (C := usual 0) (S := begP [47, 97] o) (lines := 0 + 1 + 1) (head := (0 : Int) + ((postA.length + 2 : Nat) : Int) + ((hostH.length + 2 : Nat) : Int) + (((clP ++ decS (c :: d).length).length + 2 : Nat) : Int)) (fs := [hostF, clF (c :: d).length]) (b := clP ++ decS (c :: d).length) (k := 1) (by show (0 : Int) ≤ 1024; decide) (by show (0 : Int) + ((18 : Nat) : Int) + ((9 : Nat) : Int) + _ + 2 ≤ 8192; omega) (by decide) (by simp only [List.length_cons]; omega) c2
  refine (congrArg (fun S => PS.feed (usual 0) S (c :: d)) this).trans ?_
  rw [body_feed d c _ rfl (.inl rfl) rfl, if_pos rfl, whole_st0 _ _ rfl]
  rfl
def chS (l : List Bs) : Bs := l.flatMap fun p => if p = [] then [] else hexS p.length ++ [13, 10] ++ p ++ [13, 10]
theorem chS_cons (p : Bs) (l : List Bs) : chS (p :: l) = (if p = [] then [] else hexS p.length ++ [13, 10] ++ p ++ [13, 10]) ++ chS l := rfl
theorem chunks_run {S : PS} : ∀ (l : List Bs) (bd : Bs) (w : Bool) (nd : Int), bd.length + l.flatten.length ≤ 65536 → (∀ p ∈ l, p.length ≤ 200) → ∃ nd' w', (PS.atSize (usual 0) { S with need := nd } w bd).feed (usual 0) (chS l) = PS.atSize (usual 0) { S with need := nd' } w' (bd ++ l.flatten)
 | [], bd, w, nd, _, _ => ⟨nd, w, by rw [List.flatten_nil, List.append_nil]; rfl⟩
 | p :: l, bd, w, nd, hl, hp => by
  have hp0 := hp p (List.mem_cons_self ..)
  have hl' : bd.length + (p.length + l.flatten.length) ≤ 65536 := by simpa using hl
  rw [chS_cons]
  cases p with
  | nil =>
   obtain ⟨nd', w', h⟩ := chunks_run (S := S) l bd w nd (by simpa using hl) (fun q hq => hp q (List.mem_cons_of_mem _ hq))
   exact ⟨nd', w', by rw [if_pos rfl, List.nil_append, h]; rfl⟩
  | cons c d =>
   obtain ⟨n1, n2, n3, n4, n5, n6, n7⟩ := num_ok hp0
   have hs : sizeS (hexS (c :: d).length) (usual 0).p (usual 0).body (usual 0).ext = (((d.length + 1 : Nat) : Int), 0) := by
    rcases n7 with n7 | n7
    ·simp at n7
    ·exact n7
   have hc := chunk_feed (C := usual 0) (S := { S with need := nd }) (w := w) (bd := bd) (l := hexS (c :: d).length) (c := c) (d := d) n6 (by show ((hexS (c :: d).length).length : Int) ≤ 1024; omega) hs (by show _ ≤ (65536 : Int) - _; simp only [List.length_cons] at hl'; omega)
   obtain ⟨nd', w', h⟩ := chunks_run (S := S) l (bd ++ (c :: d)) false 0 (by rw [List.length_append]; omega) (fun q hq => hp q (List.mem_cons_of_mem _ hq))
   refine ⟨nd', w', ?_⟩
   rw [if_neg (by simp), feed_append, hc]
   refine h.trans ?_
   rw [List.flatten_cons, List.append_assoc]
def recB (body : Bs) : Rec := ([80, 79, 83, 84], [47, 98], 1, [hostF, teF], true, body, [])
theorem te_B : fieldL 0 [hostF] teL 0 = ([hostF, teF], 0) := by decide +kernel
theorem fr_B : frameS [hostF, teF] 0 65536 true 1 = (2, 0, 0) := by decide +kernel
theorem reqB_run {o : List Rec} {l : List Bs} (hb : l.flatten.length ≤ 200) (hp : ∀ p ∈ l, p.length ≤ 200) : (PS.st0 (usual 0) o 0 0 false false).feed (usual 0) (h2 ++ (chS l ++ [48, 13, 10]) ++ [13, 10]) = PS.st0 (usual 0) (o ++ [recB l.flatten]) 0 0 false false := by
 have e : h2 ++ (chS l ++ [48, 13, 10]) ++ [13, 10] = (postB ++ [13, 10]) ++ ((hostH ++ [13, 10]) ++ ((teL ++ [13, 10]) ++ ([13, 10] ++ (chS l ++ (([48] ++ [13, 10]) ++ [13, 10]))))) := by
  unfold h2
  rw [show ([48, 13, 10] : Bs) = [48] ++ [13, 10] from rfl]
  simp only [List.append_assoc]
 rw [e, feed_append, st0_first (m := [80, 79, 83, 84]) (t := [47, 98]) (mi := 1) (usual_ok 0) (by decide) (by decide) (by show ((16 : Nat) : Int) ≤ 1024; decide) (by show (0 : Int) + ((18 : Nat) : Int) ≤ 8192; decide) (by show requestS postB 0 true = _; decide +kernel)]
 rw [feed_append, hd_line (by decide) (by decide) (by show ((7 : Nat) : Int) ≤ 1024; decide) (by show (0 : Int) + ((18 : Nat) : Int) + ((9 : Nat) : Int) ≤ 8192; decide), if_neg (by show ¬ ((0 : Int) + 1 > 32); decide), show fieldL (usual 0).p [] hostH 0 = _ from host_any 0]
 rw [feed_append, hd_line (by decide) (by decide) (by show ((26 : Nat) : Int) ≤ 1024; decide) (by show (0 : Int) + ((18 : Nat) : Int) + ((9 : Nat) : Int) + ((28 : Nat) : Int) ≤ 8192; decide), if_neg (by show ¬ ((0 : Int) + 1 + 1 > 32); decide), show fieldL (usual 0).p ([hostF], (0 : Int)).1 teL 0 = _ from te_B]
 show PS.feed (usual 0) ((begP [47, 98] o).hd 2 55 [hostF, teF] 0 teL) ([13, 10] ++ (chS l ++ (([48] ++ [13, 10]) ++ [13, 10]))) = _
 rw [feed_append, hd_chunked (C := usual 0) (S := begP [47, 98] o) (n := 0) (by show (0 : Int) ≤ 1024; decide) (by show (55 : Int) + 2 ≤ 8192; decide) fr_B]
 obtain ⟨nd', w', h⟩ := chunks_run (S := { begP [47, 98] o with lines := 2, head := (55 : Int) + 2, fields := [hostF, teF], chunked := true }) l [] (expectsS [hostF, teF] (begP [47, 98] o).minor) 0 (by simp only [List.length_nil]; omega) hp
 rw [feed_append]
 refine (congrArg (fun S => PS.feed (usual 0) S (([48] ++ [13, 10]) ++ [13, 10])) h).trans ?_
 show PS.feed (usual 0) _ (([48] ++ [13, 10]) ++ [13, 10]) = _
 rw [feed_append, size_zero (by decide) (by show ((1 : Nat) : Int) ≤ 1024; decide) (show sizeS [48] (usual 0).p (usual 0).body (usual 0).ext = (0, 0) by decide +kernel) (by show (([] ++ l.flatten : Bs).length : Int) ≤ 65536; rw [List.nil_append]; omega)]
 rw [tl_blank (.inr rfl) (by show (0 : Int) ≤ 1024; decide) (by show (55 : Int) + 2 + 2 ≤ 8192; decide), whole_st0 _ _ rfl]
 rfl
def bothS (body : Bs) (l : List Bs) : Bs := h1 ++ decS body.length ++ [13, 10, 13, 10] ++ body ++ h2 ++ (chS l ++ [48, 13, 10]) ++ [13, 10]
def recsN (body : Bs) : Nat → List Rec
 | 0 => []
 | n + 1 => recsN body n ++ [recA body, recB body]
def manyN (s : Bs) : Nat → Bs
 | 0 => []
 | n + 1 => manyN s n ++ s
theorem both_run {o : List Rec} {body : Bs} {l : List Bs} (hb : body.length ≤ 200) (hl : l.flatten = body) (hp : ∀ p ∈ l, p.length ≤ 200) : (PS.st0 (usual 0) o 0 0 false false).feed (usual 0) (bothS body l) = PS.st0 (usual 0) (o ++ [recA body, recB body]) 0 0 false false := by
 unfold bothS
 rw [show h1 ++ decS body.length ++ [13, 10, 13, 10] ++ body ++ h2 ++ (chS l ++ [48, 13, 10]) ++ [13, 10] = (h1 ++ decS body.length ++ [13, 10, 13, 10] ++ body) ++ (h2 ++ (chS l ++ [48, 13, 10]) ++ [13, 10]) by simp only [List.append_assoc],
  feed_append, reqA_run hb, reqB_run (by rw [hl]; exact hb) hp, hl, List.append_assoc]
 rfl
theorem many_run {body : Bs} {l : List Bs} (hb : body.length ≤ 200) (hl : l.flatten = body) (hp : ∀ p ∈ l, p.length ≤ 200) : ∀ n, (PS.new (usual 0)).feed (usual 0) (manyN (bothS body l) n) = PS.st0 (usual 0) (recsN body n) 0 0 false false
 | 0 => rfl
 | n + 1 => by
  rw [manyN, feed_append, many_run hb hl hp n, both_run hb hl hp]
  rfl
theorem take_len {α : Type} {l : List α} {n : Nat} (h : l.length = n) : List.take n (List.drop 0 l) = l := by subst h; simp
theorem chS_len {l : List Bs} (hp : ∀ p ∈ l, p.length ≤ 200) : (chS l).length ≤ 300 * l.length := by
 induction l with
 | nil => simp [chS]
 | cons p l ih =>
  have h1 := ih (fun q hq => hp q (List.mem_cons_of_mem _ hq))
  have h2 := hp p (List.mem_cons_self ..)
  obtain ⟨n1, n2, n3, n4, n5, n6, n7⟩ := num_ok h2
  rw [chS_cons, List.length_append, List.length_cons]
  split
  ·simp; omega
  ·simp; omega
theorem chunks_f {l : List Bs} (hl : l.length ≤ 20) (hp : ∀ p ∈ l, p.length ≤ 200) : q87.f l = some (chS l ++ [48, 13, 10]) := by
 have hL : q87.L3.f l [] 0 = some (chS l) := by
  unfold q87.L3.f
  refine (Loop_list (A := Bs) (a := []) l (fun k a => (a, (k : Int))) (fun k a => a.length ≤ 300 * k) (fun a c => .inl (a ++ (if c = [] then [] else hexS c.length ++ [13, 10] ++ c ++ [13, 10]))) (fun a => a) ?_ ?_ (by omega) (Nat.le_refl _) rfl).trans ?_
  ·intro k a c hi hk hc
   have hc200 := hp c (hc ▸ List.getElem_mem hk)
   obtain ⟨n1, n2, n3, n4, n5, n6, n7⟩ := num_ok hc200
   have hw := wS (k := k) (by omega)
   have hat : l.getD ((0 : Nat) + (k : Int).toNat) [] = c := by rw [Nat.zero_add, Int.toNat_natCast]; exact getD_nat hk hc
   refine ⟨?_, fun a' ha => ?_⟩
   ·unfold q87.L3.t
    dsimp only
    rw [hat]
    refine go_t (by rw [decide_eq_true_iff]; omega) ?_
    refine go_chk (by omega) ?_
    refine go_chk (by omega) ?_
    by_cases h0 : c = []
    ·subst h0
     refine go_f rfl ?_
     repeat rw [vokl]
     rw [if_pos rfl, List.append_nil, hw]
     rfl
    ·have hpos : 0 < c.length := List.length_pos_iff.2 h0
     refine go_t (by rw [decide_eq_true_iff]; omega) ?_
     refine go_chk (by omega) ?_
     refine go_chk (by omega) ?_
     refine go_call n2 ?_
     rw [take_all]
     have t1 : List.take (a.length + (hexS c.length).length) (List.drop (0 : Nat) (a ++ hexS c.length)) = a ++ hexS c.length := take_len (by simp only [List.length_append])
     rw [t1]
     have t2 : List.take (a.length + (hexS c.length).length + ([13, 10] : Bs).length) (List.drop (0 : Nat) (a ++ hexS c.length ++ [13, 10])) = a ++ hexS c.length ++ [13, 10] := take_len (by simp only [List.length_append])
     rw [t2]
     have t3 : List.take (a.length + (hexS c.length).length + ([13, 10] : Bs).length + c.length) (List.drop (0 : Nat) (a ++ hexS c.length ++ [13, 10] ++ c)) = a ++ hexS c.length ++ [13, 10] ++ c := take_len (by simp only [List.length_append])
     rw [t3]
     refine go_chk (by omega) ?_
     refine go_chk (by omega) ?_
     refine go_chk (by first | (simp only [List.length_append]; omega) | (simp; done) | (simp; omega)) ?_
     refine go_chk (by simp only [List.length_cons, List.length_nil]; omega) ?_
     refine go_chk (by omega) ?_
     refine go_chk (by omega) ?_
     refine go_chk (by first | (simp only [List.length_append]; omega) | (simp; done) | (simp; omega)) ?_
     refine go_chk (by simp only [List.length_cons, List.length_nil]; omega) ?_
     refine go_chk (by first | (simp only [List.length_append]; omega) | (simp; done) | (simp; omega)) ?_
     refine go_chk (by simp only [List.length_cons, List.length_nil]; omega) ?_
     rw [vokl]
     refine go_chk (by first | (simp only [List.length_append]; omega) | (simp; done) | (simp; omega)) ?_
     rw [if_neg h0, hw]
     show some _ = some (Sum.inl (a ++ (hexS c.length ++ [13, 10] ++ c ++ [13, 10]), _))
     simp only [List.append_assoc]
   ·cases ha
    split
    ·simp; omega
    ·simp; omega
  ·intro a _
   unfold q87.L3.t
   dsimp only
   refine go_f (by rw [decide_eq_false_iff_not]; omega) ?_
   rfl
  ·have : ∀ (m : List Bs) (a : Bs), foldE (fun a c => (Sum.inl (a ++ (if c = [] then [] else hexS c.length ++ [13, 10] ++ c ++ [13, 10])) : Bs ⊕ Bs)) (fun a => a) a m = a ++ chS m := by
    intro m
    induction m with
    | nil => intro a; simp [foldE, chS]
    | cons c m ih =>
     intro a
     show foldE _ _ (a ++ (if c = [] then [] else hexS c.length ++ [13, 10] ++ c ++ [13, 10])) m = _
     rw [ih, chS_cons, List.append_assoc]
   rw [this, List.nil_append]
 have hlen := chS_len hp
 unfold q87.f q87.t
 rw [vokl]
 refine go_call hL ?_
 rw [take_all]
 refine go_chk (by omega) ?_
 refine go_chk (by simp only [List.length_cons, List.length_nil]; omega) ?_
 refine go_chk (by simp) ?_
 rfl
theorem cut_f (body chunks : Bs) (hb : body.length ≤ 200) (hc : chunks.length ≤ 10) : ∃ (parts : List Bs) (f : Nat), q20.L9.f [] body chunks 0 0 = some (parts, (f : Int)) ∧ f ≤ body.length ∧ parts.flatten = body.take f ∧ parts.length = chunks.length ∧ ∀ p ∈ parts, p.length ≤ 200 := by
 have hL := Loop_ends (body := fun z : List (List UInt8) × Int × Int => q20.L9.t z.1 body chunks z.2.1 z.2.2)
  (fun z => ∃ f k : Nat, z.2.1 = (f : Int) ∧ z.2.2 = (k : Int) ∧ k ≤ chunks.length ∧ f ≤ body.length ∧ z.1.flatten = body.take f ∧ z.1.length = k ∧ ∀ p ∈ z.1, p.length ≤ 200)
  (fun z => chunks.length - z.2.2.toNat) (fun _ r => ∃ f : Nat, r.2 = (f : Int) ∧ f ≤ body.length ∧ r.1.flatten = body.take f ∧ r.1.length = chunks.length ∧ ∀ p ∈ r.1, p.length ≤ 200) ?_ (s := ([], 0, 0)) ⟨0, 0, rfl, rfl, Nat.zero_le _, Nat.zero_le _, by simp, rfl, fun p hp => by simp at hp⟩ (by unfold rounds; simp; omega)
 ·obtain ⟨⟨parts, v⟩, h1, f, h2, h3, h4, h5, h6⟩ := hL
  simp only at h2 h4 h5 h6
  subst h2
  exact ⟨parts, f, h1, h3, h4, h5, h6⟩
 ·rintro ⟨parts, v, i⟩ ⟨f, k, h1, h2, h3, h4, h5, h6, h7⟩
  simp only at h1 h2 h5 h6 h7
  subst h1 h2
  by_cases hk : k < chunks.length
  ·right
   have hw := wS (k := k) (by omega)
   generalize hd : (chunks.getD (k : Int).toNat 0).toNat % (body.length - f + 1) = d
   have hdl : d ≤ body.length - f := by have := Nat.mod_lt (chunks.getD (k : Int).toNat 0).toNat (show 0 < body.length - f + 1 by omega); omega
   have hcl := UInt8.toNat_lt (chunks.getD (k : Int).toNat 0)
   have hto : IntKind.i64.wrap ((f : Int) + (IntKind.i64.wrap (↑(UInt8.toNat (chunks.getD (k : Int).toNat (0 : UInt8))) : Int)).tmod (IntKind.i64.wrap (IntKind.i64.wrap ((↑body.length : Int) - (f : Int)) + (1 : Int)))) = ((f + d : Nat) : Int) := by
    rw [w64 (n := (↑body.length : Int) - (f : Int)) (by omega) (by omega), w64 (n := (↑body.length : Int) - (f : Int) + 1) (by omega) (by omega), w64 (n := (↑(UInt8.toNat (chunks.getD (k : Int).toNat (0 : UInt8))) : Int)) (by omega) (by omega),
     show (↑body.length : Int) - (f : Int) + 1 = ((body.length - f + 1 : Nat) : Int) by omega, ← Int.ofNat_tmod, hd, w64 (by omega) (by omega)]
    omega
   have hm : IntKind.i64.wrap (IntKind.i64.wrap ((↑body.length : Int) - (f : Int)) + (1 : Int)) ≠ (0 : Int) := by
    rw [w64 (n := (↑body.length : Int) - (f : Int)) (by omega) (by omega), w64 (n := (↑body.length : Int) - (f : Int) + 1) (by omega) (by omega)]
    omega
   refine ⟨(parts ++ [List.drop f (List.take (f + d) body)], ((f + d : Nat) : Int), ((k + 1 : Nat) : Int)), ?_, ⟨f + d, k + 1, rfl, rfl, hk, by omega, ?_, by simp [h6], ?_⟩, by simp only [Int.toNat_natCast]; omega, fun r hr => hr⟩
   ·unfold q20.L9.t
    dsimp only
    rw [hto]
    refine go_t (by rw [decide_eq_true_iff]; omega) ?_
    refine go_chk (by omega) ?_
    refine go_chk (by omega) ?_
    refine go_chk hm ?_
    refine go_chk (by omega) ?_
    refine go_chk (by simp) ?_
    rw [take_all]
    refine go_chk (by omega) ?_
    refine go_chk (by omega) ?_
    refine go_chk (by simp) ?_
    rw [hw]
    rfl
   ·show (parts ++ [List.drop f (List.take (f + d) body)]).flatten = _
    rw [List.flatten_append, h5]
    have e : List.take f body = List.take f (List.take (f + d) body) := by rw [List.take_take]; congr 1; omega
    rw [e]
    simp
   ·intro p hp
    rcases List.mem_append.1 hp with hp | hp
    ·exact h7 p hp
    ·simp only [List.mem_singleton] at hp
     subst hp
     rw [List.length_drop, List.length_take]
     omega
  ·left
   refine ⟨(parts, (f : Int)), ?_, f, rfl, h4, h5, (by show parts.length = chunks.length; omega), h7⟩
   unfold q20.L9.t
   dsimp only
   refine go_f (by rw [decide_eq_false_iff_not]; omega) ?_
   rfl
theorem many_len (s : Bs) (n : Nat) : (manyN s n).length = n * s.length := by
 induction n with
 | zero => simp [manyN]
 | succ n ih => rw [manyN, List.length_append, ih, Nat.succ_mul]
theorem many_f {s : Bs} {n : Nat} {v : Int} (hv : v = (n : Int)) (hn : n ≤ 3) (hs : s.length ≤ 100000) : q20.L22.f s [] v 0 = some (manyN s n) := by
 subst hv
 unfold q20.L22.f
 refine Loop_count n (fun k => (manyN s k, (k : Int))) _ (fun k hk => ?_) ?_ (by omega) rfl
 ·have hw := wS (k := k) (by omega)
  have hl := many_len s k
  have hl2 : k * s.length ≤ 3 * 100000 := Nat.mul_le_mul (by omega) hs
  unfold q20.L22.t
  dsimp only
  rw [take_all, take_all]
  refine go_t (by rw [decide_eq_true_iff]; omega) ?_
  refine go_chk (by omega) ?_
  refine go_chk (by omega) ?_
  refine go_chk (by omega) ?_
  rw [vokl]
  refine go_chk (by simp) ?_
  rw [hw]
  rfl
 ·unfold q20.L22.t
  dsimp only
  refine go_f (by rw [decide_eq_false_iff_not]; omega) ?_
  rfl
theorem recs_len (body : Bs) (n : Nat) : (recsN body n).length = 2 * n := by
 induction n with
 | zero => rfl
 | succ n ih => rw [recsN, List.length_append, ih]; simp; omega
theorem recs_at (body : Bs) : ∀ (n k : Nat), k < 2 * n → (recsN body n).getD k ([], [], 0, [], false, [], []) = if k % 2 = 0 then recA body else recB body
 | 0, k, h => by omega
 | n + 1, k, h => by
  rw [recsN, List.getD_eq_getElem?_getD]
  by_cases hk : k < 2 * n
  ·rw [List.getElem?_append_left (by rw [recs_len]; exact hk), ← List.getD_eq_getElem?_getD]
   exact recs_at body n k hk
  ·rw [List.getElem?_append_right (by rw [recs_len]; omega), recs_len]
   have : k = 2 * n ∨ k = 2 * n + 1 := by omega
   rcases this with rfl | rfl
   ·rw [if_pos (by omega), Nat.sub_self]; rfl
   ·rw [if_neg (by omega), show 2 * n + 1 - 2 * n = 1 by omega]; rfl
theorem checks_f (body : Bs) {n : Nat} (hn : n ≤ 3) : q20.L29.f (recsN body n) body 0 = some (.inl ()) := by
 have hl := recs_len body n
 unfold q20.L29.f
 refine Loop_count (2 * n) (fun k => (k : Int)) _ (fun k hk => ?_) ?_ (by omega) rfl
 ·have hw := wS (k := k) (by omega)
  have hat := recs_at body n k hk
  have hm : (k : Int).tmod (2 : Int) = ((k % 2 : Nat) : Int) := (Int.ofNat_tmod k 2).symm
  unfold q20.L29.t
  rw [Nat.zero_add, Int.toNat_natCast, hat, hm, hw]
  refine go_t (by rw [decide_eq_true_iff]; omega) ?_
  refine go_chk (by omega) ?_
  refine go_chk (by omega) ?_
  by_cases h2 : k % 2 = 0
  ·rw [if_pos h2, h2]
   refine go_f (by simp [recA]) ?_
   refine go_chk (by omega) ?_
   refine go_chk (by omega) ?_
   refine go_f rfl ?_
   refine go_chk (by omega) ?_
   refine go_chk (by omega) ?_
   refine go_chk (by decide) ?_
   refine go_chk (by decide) ?_
   refine go_f rfl ?_
   rfl
  ·have h21 : k % 2 = 1 := by omega
   rw [if_neg h2, h21]
   refine go_f (by simp [recB]) ?_
   refine go_chk (by omega) ?_
   refine go_chk (by omega) ?_
   refine go_f rfl ?_
   refine go_chk (by omega) ?_
   refine go_chk (by omega) ?_
   refine go_chk (by decide) ?_
   refine go_chk (by decide) ?_
   refine go_f rfl ?_
   rfl
 ·unfold q20.L29.t
  exact go_f (by rw [decide_eq_false_iff_not]; omega) rfl
theorem bodies_ok (body chunks : Bs) (vagain : UInt8) : q20.f body chunks vagain = some true := by
 have hN : vagain.toNat % 3 < 3 := Nat.mod_lt _ (by decide)
 have hn := mod_i vagain 3 (by decide) (by decide)
 unfold q20.f q20.t
 rw [show IntKind.i64.wrap ((Int.ofNat vagain.toNat).tmod (3 : Int)) = _ from hn]
 generalize vagain.toNat % 3 = N at hN ⊢
 have hN1 : IntKind.i64.wrap (((N : Nat) : Int) + (1 : Int)) = ((N + 1 : Nat) : Int) := wS (by omega)
 rw [hN1, w64 (n := (2 : Int) * ((N + 1 : Nat) : Int)) (by omega) (by omega)]
 refine go_call known_f ?_
 refine go_f rfl ?_
 by_cases hb : body.length > 200
 ·exact go_t (by rw [decide_eq_true_iff]; omega) rfl
 refine go_f (by rw [decide_eq_false_iff_not]; omega) ?_
 by_cases hc : chunks.length > 10
 ·exact go_t (by rw [decide_eq_true_iff]; omega) rfl
 refine go_f (by rw [decide_eq_false_iff_not]; omega) ?_
 refine go_call rfl ?_
 dsimp only
 obtain ⟨parts, f, g1, g2, g3, g4, g5⟩ := cut_f body chunks (by omega) (by omega)
 obtain ⟨n1, n2, n3, n4, n5, n6, n7⟩ := num_ok (m := body.length) (by omega)
 refine go_call g1 ?_
 dsimp only
 refine go_chk (by omega) ?_
 refine go_chk (by simp) ?_
 rw [take_all]
 refine go_chk (by omega) ?_
 refine go_chk (by omega) ?_
 refine go_call n1 ?_
 have e1 : ([80, 79, 83, 84, 32, 47, 97, 32, 72, 84, 84, 80, 47, 49, 46, 49, 13, 10, 72, 111, 115, 116, 58, 32, 104, 13, 10, 67, 111, 110, 116, 101, 110, 116, 45, 76, 101, 110, 103, 116, 104, 58, 32] : Bs) = h1 := rfl
 have e2 : ([80, 79, 83, 84, 32, 47, 98, 32, 72, 84, 84, 80, 47, 49, 46, 49, 13, 10, 72, 111, 115, 116, 58, 32, 104, 13, 10, 84, 114, 97, 110, 115, 102, 101, 114, 45, 69, 110, 99, 111, 100, 105, 110, 103, 58, 32, 99, 104, 117, 110, 107, 101, 100, 13, 10, 13, 10] : Bs) = h2 := rfl
 have hh1 : h1.length = 43 := rfl
 have hh2 : h2.length = 57 := rfl
 have he : ([13, 10, 13, 10] : Bs).length = 4 := rfl
 have hcr : ([13, 10] : Bs).length = 2 := rfl
 rw [e1, e2, List.nil_append, take_all]
 have hA : (h1 ++ decS body.length ++ [13, 10, 13, 10]).length = 47 + (decS body.length).length := by rw [List.length_append, List.length_append, hh1, he]; omega
 generalize hAd : h1 ++ decS body.length ++ [13, 10, 13, 10] = A at hA ⊢
 have t1 : List.take (A.length + body.length) (List.drop (0 : Nat) (A ++ body)) = A ++ body := take_len (by simp only [List.length_append])
 rw [t1]
 have t2 : List.take (A.length + body.length + h2.length) (List.drop (0 : Nat) (A ++ body ++ h2)) = A ++ body ++ h2 := take_len (by simp only [List.length_append])
 rw [t2]
 have hlast : List.drop (f : Int).toNat (List.take (↑body.length : Int).toNat body) = body.drop f := by rw [Int.toNat_natCast, Int.toNat_natCast, List.take_length]
 rw [hlast]
 have t3 : List.take (parts.length + 1) (List.drop (0 : Nat) (parts ++ List.take (1 : Nat) (List.drop (0 : Nat) [body.drop f]))) = parts ++ [body.drop f] := take_len (by simp)
 rw [t3]
 have hfl : (parts ++ [body.drop f]).flatten = body := by rw [List.flatten_append, g3]; simp
 have hp : ∀ p ∈ parts ++ [body.drop f], p.length ≤ 200 := by
  intro p hp
  rcases List.mem_append.1 hp with hp | hp
  ·exact g5 p hp
  ·simp only [List.mem_singleton] at hp
   subst hp
   rw [List.length_drop]; omega
 have hpl : (parts ++ [body.drop f]).length ≤ 11 := by simp; omega
 refine go_chk (by rw [hh1]; omega) ?_
 refine go_chk (by rw [List.length_append, hh1, he]; omega) ?_
 refine go_chk (by omega) ?_
 refine go_chk (by omega) ?_
 refine go_chk (by omega) ?_
 refine go_chk (by first | (simp only [List.length_append]; omega) | (simp; done) | (simp; omega)) ?_
 refine go_chk (by rw [hh2]; omega) ?_
 refine go_chk (by first | (simp only [List.length_append]; omega) | (simp; done) | (simp; omega)) ?_
 generalize parts ++ [body.drop f] = ps at hfl hp hpl ⊢
 have hY := chS_len hp
 refine go_call (chunks_f (by omega) hp) ?_
 have hYl : (chS ps ++ [48, 13, 10]).length ≤ 3400 := by rw [List.length_append]; simp only [List.length_cons, List.length_nil]; omega
 generalize hYd : chS ps ++ [48, 13, 10] = Y at hYl ⊢
 rw [take_all]
 have t4 : List.take (A.length + body.length + h2.length + Y.length) (List.drop (0 : Nat) (A ++ body ++ h2 ++ Y)) = A ++ body ++ h2 ++ Y := take_len (by simp only [List.length_append])
 rw [t4]
 refine go_chk (by omega) ?_
 refine go_chk (by first | (simp only [List.length_append]; omega) | (simp; done) | (simp; omega)) ?_
 refine go_chk (by rw [hh2]; omega) ?_
 refine go_chk (by first | (simp only [List.length_append]; omega) | (simp; done) | (simp; omega)) ?_
 refine go_chk (by rw [hh2, hcr]; omega) ?_
 refine go_chk (by first | (simp only [List.length_append]; omega) | (simp; done) | (simp; omega)) ?_
 have hs : A ++ body ++ h2 ++ Y ++ [13, 10] = bothS body ps := by rw [← hAd, ← hYd]; rfl
 have hsl : (A ++ body ++ h2 ++ Y ++ [13, 10]).length ≤ 5000 := by simp only [List.length_append, hh2, hcr]; omega
 rw [hs] at hsl ⊢
 refine go_call (many_f (n := N + 1) rfl (by omega) (by omega)) ?_
 have hml := many_len (bothS body ps) (N + 1)
 have hml2 : (N + 1) * (bothS body ps).length ≤ 3 * 5000 := Nat.mul_le_mul (by omega) hsl
 have hres := many_run (by omega) hfl hp (N + 1)
 generalize manyN (bothS body ps) (N + 1) = M at hml hres ⊢
 refine go_call (new_f (usual 0)) ?_
 rw [show PS.new' (usual 0) = PS.new (usual 0) from if_pos (by decide)]
 dsimp only [PS.tupN]
 refine go_chk (by omega) ?_
 repeat rw [vokl]
 refine go_chk (by simp) ?_
 rw [take_all]
 refine go_call (feed_f (C := usual 0) (S := PS.new (usual 0)) (parts := [M]) (usual_ok _) (linesOk _) (by simp) (n := 0) (by simp only [List.flatten_cons, List.flatten_nil, List.append_nil]; omega) (new_good (usual_ok _))) ?_
 rw [show [M].flatten = M by simp, new_taken, hres]
 dsimp only [PS.tupF, PS.st0, PS.new]
 repeat rw [vokl]
 refine go_call (err_f _ _ _ _ _) ?_
 repeat rw [vokl]
 refine go_call (clean_f (PS.st0 (usual 0) (recsN body (N + 1)) 0 0 false false) _ _ _ _ _) ?_
 refine go_f rfl ?_
 refine go_f rfl ?_
 refine go_f (by rw [recs_len]; simp) ?_
 rw [vokl, Tr.val_inl (checks_f body (by omega))]
 rfl
end Pl
end Go.Vx
end
