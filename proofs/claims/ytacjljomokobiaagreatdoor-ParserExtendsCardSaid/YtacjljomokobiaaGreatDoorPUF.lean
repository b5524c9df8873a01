/- Printed by a program of ours out of our texts: the evaluator, the printed functions, the plain laws. (A help: no statement of the seat is proved here.) -/
import Derived.Test.YtacjljomokobiaaGreatDoorPUE
import Derived.Lib.FieldsP
set_option linter.unusedVariables false
set_option linter.unusedSimpArgs false
section
set_option maxRecDepth 100000
namespace Go.Vx
namespace Pl
open Go Go.Proofs
theorem zqu (base:Nat) (most:Int) (s : Bs) : 0 <= (numS base most s).1 ∧ (numS base most s).1 <= max most 0 := by
 unfold numS
 split
 ·simp; omega
 ·split
  ·simp only; omega
  ·simp; omega
theorem zqv {q : Int × Int} {M : Int} (h : 0 <= q.1 ∧ q.1 <= M) : 0 <= (zn5 q).1 ∧ (zn5 q).1 <= M := by
 unfold zn5
 split
 ·exact ⟨Int.le_refl _, by have := h.1; have := h.2; omega⟩
 ·split
  ·exact ⟨Int.le_refl _, by have := h.1; have := h.2; omega⟩
  ·exact h
theorem zqw (s : Bs) (p body ext:Int) : 0 <= (zn6 s p body ext).1 ∧ (zn6 s p body ext).1 <= max body 0 := by
 unfold zn6
 split
 ·simp; omega
 ·split
  ·simp; omega
  ·exact zqv (zqu _ _ _)
theorem zqx (v : List Bs) (p most:Int) : 0 <= (zp1 v p most).1 ∧ (zp1 v p most).1 <= max most 0 := by
 unfold zp1
 generalize (if hasD p 24 = true then zk6 v else v) = l
 unfold zp0
 split
 ·simp; omega
 ·unfold zoz
  split
  ·exact zqv (zqu _ _ _)
  ·simp; omega
theorem zqy {q : Int × Int} {M : Int} (h : 0 <= q.1 ∧ q.1 <= M) : 0 <= (zp8 q).2.1 ∧ (zp8 q).2.1 <= M := by
 have hz : (0:Int) <= 0 ∧ (0:Int) <= M := by have := h.1; have := h.2; omega
 unfold zp8
 split
 ·exact hz
 ·exact h
theorem zqz (l : Fs) (p body:Int) (ch:Bool) (minor:Int) : 0 <= (zpa l p body ch minor).2.1 ∧ (zpa l p body ch minor).2.1 <= max body 0 := by
 have hf := zqy (zqx (zk7 l zp6) p body)
 have hz : (0:Int) <= 0 ∧ (0:Int) <= max body 0 := by omega
 unfold zpa
 split
 ·exact hz
 ·split
  ·unfold zp9
   cases (decide (minor = 0) && !hasD p 20)
   ·cases (zoo (zk7 l zp5) p && (decide ((zk7 l zp6).length = 0) || hasD p 21) && ch)
    ·cases (zoo (zk7 l zp5) p && (decide ((zk7 l zp6).length = 0) || hasD p 21) || !zoo (zk7 l zp5) p && !hasD p 19)
     ·cases (zoo (zk7 l zp5) p && !hasD p 22)
      ·exact hf
      ·exact hz
     ·exact hz
    ·exact hz
   ·exact hz
  ·exact hf
def LB (k:Int) (l : Fs) : Prop := (l.length:Int) <= k ∧ ∀ f ∈ l, f.1.length <= 4096 ∧ (f.2.length:Int) <= 4097 * k
theorem LB.mono {k k' : Int} {l : Fs} (h : LB k l) (hk : k <= k') : LB k' l := ⟨Int.le_trans h.1 hk, fun f hf => ⟨(h.2 f hf).1, by have := (h.2 f hf).2; omega⟩⟩
theorem LB.nil {k : Int} (hk : 0 <= k) : LB k [] := ⟨by simpa using hk, fun f hf => by simp at hf⟩
theorem LB.fit {k : Int} {l : Fs} (h : LB k l) (hk : k <= 101) : FitF l := by
 refine ⟨by have := h.1; omega, fun f hf => ?_⟩
 have := h.2 f hf
 omega
theorem zr0 (s : Bs) : (trim s).length <= s.length := zk4 zj4 s
theorem zr1 (s : Bs) (p:Int) : (zmv s p).1.length <= s.length ∧ (zmv s p).2.1.length <= s.length := by
 have hc := zme (c := 58) (s := s)
 have hn : (zmu p (cutC 58 s).1).length <= (cutC 58 s).1.length := by
  unfold zmu
  split
  ·exact zjs _
  ·exact Nat.le_refl _
 have ht := zr0 (cutC 58 s).2.1
 unfold zmv
 split
 ·unfold outS; split <;> simp
 ·split
  ·unfold outS; split <;> simp
  ·split
   ·simp only; omega
   ·simp
theorem LB.field {k : Int} {l : Fs} {p : Int} {s : Bs} {e : Int} (h : LB k l) (hk : 0 <= k) (hs : s.length <= 4096) : LB (k + 1) (zpl p l s e).1 := by
 have hf := zr1 s p
 have ht := zr0 s
 unfold zpl
 by_cases h1 : l ≠ [] ∧ zn1 s p = true
 ·rw [if_pos h1]
  have hpos : 0 < l.length := List.length_pos_iff.2 h1.1
  have hmem : l.getD (l.length - 1) ([], []) ∈ l := by
   rw [List.getD_eq_getElem?_getD, List.getElem?_eq_getElem (by omega)]
   exact List.getElem_mem _
  refine ⟨by have := h.1; simp; omega, fun f hf' => ?_⟩
  rcases List.mem_or_eq_of_mem_set hf' with hm | rfl
  ·have := h.2 f hm; omega
  ·have := h.2 _ hmem
   simp only [List.length_append, List.length_cons]
   omega
 ·rw [if_neg h1]
  split
  ·refine ⟨by have := h.1; simp; omega, fun f hf' => ?_⟩
   rcases List.mem_append.1 hf' with hm | hm
   ·have := h.2 f hm; omega
   ·simp only [List.mem_singleton] at hm
    subst hm
    simp only
    omega
  ·exact h.mono (by omega)
structure zr2 (C : Cfg) : Prop where
 line : 64 <= C.line ∧ C.line <= 4096
 fields : 0 <= C.fields ∧ C.fields <= 100
 trailers : 0 <= C.trailers ∧ C.trailers <= 100
 head : 0 <= C.head ∧ C.head <= 65536
 body : 0 <= C.body ∧ C.body <= 1048576
theorem zr2.most {C : Cfg} (h : zr2 C) : zpk C.line = C.line := by
 have := h.line
 unfold zpk
 rw [z1h, z1i]
 omega
structure Inv (C : Cfg) (n:Nat) (S : PS) : Prop where
 b : S.b.length <= 4096
 most : S.most = if S.stage = 5 then 0 else C.line
 lines : 0 <= S.lines ∧ S.lines <= 101
 head : 0 <= S.head ∧ S.head <= 65537
 need : 0 <= S.need ∧ S.need <= 1048576
 stage : 0 <= S.stage ∧ S.stage <= 6
 f1 : LB 101 S.fields
 f2 : S.stage <= 1 -> LB S.lines S.fields
 t1 : LB 101 S.trailers
 t2 : S.stage = 6 -> LB S.lines S.trailers
 t3 : S.stage ≠ 6 -> S.trailers = []
 body : S.body.length <= n
 out : S.out.length <= n
theorem Inv.mono {C : Cfg} {n m : Nat} {S : PS} (h : Inv C n S) (hn : n <= m) : Inv C m S :=
 {h with body := Nat.le_trans h.body hn, out := Nat.le_trans h.out hn }
theorem Inv.small {C : Cfg} {n : Nat} {S : PS} (hC : zr2 C) (h : Inv C n S) (hn : n <= 1000000000) : Small C S where
 cbody := by have := hC.body; omega
 b := h.b
 most := by
  have := hC.line
  rw [h.most]
  split <;> omega
 lines := by have := h.lines; omega
 head := by have := h.head; omega
 need := by have := h.need; omega
 fields := h.f1.fit (Int.le_refl _)
 trailers := h.t1.fit (Int.le_refl _)
 body := Nat.le_trans h.body hn
 out := Nat.le_trans h.out hn
theorem Inv.fail {C : Cfg} {n : Nat} {S : PS} (h : Inv C n S) (e:Int) : Inv C n (S.fail e) := ⟨h.b, h.most, h.lines, h.head, h.need, h.stage, h.f1, h.f2, h.t1, h.t2, h.t3, h.body, h.out⟩
theorem Inv.mark {C : Cfg} {n : Nat} {S : PS} (h : Inv C n S) : Inv C n S.mark := ⟨h.b, h.most, h.lines, h.head, h.need, h.stage, h.f1, h.f2, h.t1, h.t2, h.t3, h.body, h.out⟩
theorem Inv.whole {C : Cfg} {n : Nat} {S : PS} (hC : zr2 C) (h : Inv C n S) : Inv C (n + 1) (S.whole C) := by
 have ho := h.out
 refine ⟨by simp [PS.whole], ?_, (by decide : (0:Int) <= 0 ∧ (0:Int) <= 101), (by decide : (0:Int) <= 0 ∧ (0:Int) <= 65537), (by decide : (0:Int) <= 0 ∧ (0:Int) <= 1048576), (by decide : (0:Int) <= 0 ∧ (0:Int) <= 6), LB.nil (by decide), fun _ => LB.nil (Int.le_refl _), LB.nil (by decide), fun _ => LB.nil (Int.le_refl _), fun _ => rfl, by simp [PS.whole], ?_⟩
 ·show zpk C.line = _
  rw [hC.most]; rfl
 ·show (S.out ++ [S.rec_]).length <= n + 1
  rw [List.length_append]
  simp only [List.length_cons, List.length_nil]
  omega
theorem Inv.to3 {C : Cfg} {n : Nat} {S : PS} (hC : zr2 C) (h : Inv C n S) (h6 : S.stage ≠ 6) : Inv C n (S.to C 3) := by
 refine ⟨by simp [PS.to], ?_, h.lines, h.head, h.need, by simp [PS.to], h.f1, fun hs => absurd hs (by simp [PS.to]), h.t1, fun hs => absurd hs (by simp [PS.to]), fun _ => h.t3 h6, h.body, h.out⟩
 show zpk (if (3:Int) = 5 then 0 else C.line) = _
 rw [if_neg (by decide), hC.most]; rfl
theorem Inv.to5 {C : Cfg} {n : Nat} {S : PS} (hC : zr2 C) (h : Inv C n S) (h6 : S.stage ≠ 6) : Inv C n (S.to C 5) := by
 refine ⟨by simp [PS.to], ?_, h.lines, h.head, h.need, by simp [PS.to], h.f1, fun hs => absurd hs (by simp [PS.to]), h.t1, fun hs => absurd hs (by simp [PS.to]), fun _ => h.t3 h6, h.body, h.out⟩
 show zpk (if (5:Int) = 5 then 0 else C.line) = _
 rw [if_pos rfl]; rfl
theorem Inv.bodyB {C : Cfg} {n : Nat} {S : PS} (hC : zr2 C) (h : Inv C n S) (hs : S.stage = 2 ∨ S.stage = 4) (hneed : 1 <= S.need) (c:UInt8) : Inv C (n + 2) (S.bodyB C c) := by
 have hT : Inv C (n + 1) { S with waits := false, body := S.body ++ [c], need := S.need - 1 } := by
  refine ⟨h.b, h.most, h.lines, h.head, by have := h.need; simp only; omega, h.stage, h.f1, h.f2, h.t1, h.t2, h.t3, ?_, by have := h.out; simp only; omega⟩
  have := h.body
  simp; omega
 have h6 : S.stage ≠ 6 := by omega
 unfold PS.bodyB
 simp only
 split
 ·exact hT.mono (by omega)
 ·split
  ·exact hT.whole hC
  ·exact (hT.to5 hC h6).mono (by omega)
theorem Inv.counted {C : Cfg} {n : Nat} {S : PS} (hC : zr2 C) (h : Inv C n S) (hle : S.head <= C.head) : Inv C n (S.counted C).1 := by
 have h1 := h.head
 have h2 := hC.head
 unfold PS.counted
 split
 ·exact h
 ·split
  ·exact ⟨h.b, h.most, h.lines, by simp only; omega, h.need, h.stage, h.f1, h.f2, h.t1, h.t2, h.t3, h.body, h.out⟩
  ·exact ⟨h.b, h.most, h.lines, by simp only; omega, h.need, h.stage, h.f1, h.f2, h.t1, h.t2, h.t3, h.body, h.out⟩
theorem Inv.lineB {C : Cfg} {n : Nat} {S : PS} (hC : zr2 C) (h : Inv C n S) (hn : n <= 1000000000) (c:UInt8) : Inv C n (S.lineB C c).1 := by
 have hb := (zqj (h.small hC hn) c).b
 obtain ⟨pe, ov, ba, bb, k, hr⟩ := zqn C S c
 rw [hr] at hb ⊢
 exact ⟨hb, h.most, h.lines, h.head, h.need, h.stage, h.f1, h.f2, h.t1, h.t2, h.t3, h.body, h.out⟩
theorem Inv.ended {C : Cfg} {n : Nat} {S : PS} (hC : zr2 C) (h : Inv C n S) (h100 : S.lines <= 100) : Inv C (n + 1) (S.ended C) := by
 have HL : 0 <= S.lines + 1 ∧ S.lines + 1 <= 101 := by have := h.lines; omega
 have hls : S.lineS.length <= 4096 := Nat.le_trans zpy h.b
 have hm := h.mono (Nat.le_succ n)
 have hl := h.lines
 have hcf := hC.fields
 have hct := hC.trailers
 have hcb := hC.body
 unfold PS.ended
 by_cases s0 : S.stage = 0
 ·rw [if_pos s0]
  unfold PS.request
  split
  ·exact ⟨hm.b, hm.most, hm.lines, hm.head, hm.need, hm.stage, hm.f1, hm.f2, hm.t1, hm.t2, hm.t3, hm.body, hm.out⟩
  ·refine ⟨hm.b, ?_, hm.lines, hm.head, hm.need, ?_, hm.f1, fun _ => hm.f2 (by omega), hm.t1, ?_, fun _ => hm.t3 (by omega), hm.body, hm.out⟩
   ·have hmo := hm.most
    have h5 : (if (zo7 S.lineS C.p C.old).2.2.2 = 0 then (1:Int) else S.stage) ≠ 5 := by
     rw [s0]
     split <;> decide
    rw [if_neg (by omega)] at hmo
    show S.most = if (if (zo7 S.lineS C.p C.old).2.2.2 = 0 then (1:Int) else S.stage) = 5 then 0 else C.line
    rw [if_neg h5, hmo]
   ·simp only
    rw [s0]
    split <;> decide
   ·simp only
    intro hs
    rw [s0] at hs
    split at hs <;> cases hs
 ·rw [if_neg s0]
  by_cases s1 : S.stage = 1
  ·rw [if_pos s1]
   have h6 : S.stage ≠ 6 := by omega
   split
   ·unfold PS.framed
    have hbd := zqz S.fields C.p C.body C.chunked S.minor
    simp only
    split
    ·exact hm.fail _
    ·split
     ·have := hm.to3 hC h6
      exact ⟨this.b, this.most, this.lines, this.head, this.need, this.stage, this.f1, this.f2, this.t1, this.t2, this.t3, this.body, this.out⟩
     ·split
      ·exact h.whole hC
      ·refine ⟨hm.b, ?_, hm.lines, hm.head, by simp only; omega, by simp, hm.f1, fun hs => absurd hs (by simp), hm.t1, fun hs => absurd hs (by simp), fun _ => hm.t3 h6, hm.body, hm.out⟩
       have := hm.most
       simp only
       rw [this, s1]
       rfl
   ·unfold PS.fieldF
    have hF := h.f2 (by omega)
    split
    ·exact ⟨hm.b, hm.most, HL, hm.head, hm.need, hm.stage, hm.f1, fun _ => hF.mono (show S.lines <= S.lines + 1 by omega), hm.t1, fun hs => absurd hs h6, hm.t3, hm.body, hm.out⟩
    ·have hF2 := hF.field (p := C.p) (s := S.lineS) (e := S.err) hl.1 hls
     exact ⟨hm.b, hm.most, HL, hm.head, hm.need, hm.stage, hF2.mono (by omega), fun _ => hF2, hm.t1, fun hs => absurd hs h6, hm.t3, hm.body, hm.out⟩
  ·rw [if_neg s1]
   by_cases s3 : S.stage = 3
   ·rw [if_pos s3]
    have h6 : S.stage ≠ 6 := by omega
    have hbd := zqw S.lineS C.p C.body C.ext
    unfold PS.chunk
    simp only
    split
    ·exact hm.fail _
    ·split
     ·exact hm.fail _
     ·split
      ·refine ⟨by simp [PS.to], ?_, by simp [PS.to], hm.head, hm.need, by simp [PS.to], hm.f1, fun hs => absurd hs (by simp [PS.to]), hm.t1, fun _ => ?_, fun _ => hm.t3 h6, hm.body, hm.out⟩
       ·show zpk (if (6:Int) = 5 then 0 else C.line) = _
        rw [if_neg (by decide), hC.most]; rfl
       ·show LB 0 S.trailers
        rw [hm.t3 h6]
        exact LB.nil (Int.le_refl _)
      ·refine ⟨hm.b, ?_, hm.lines, hm.head, by simp only; omega, by simp, hm.f1, fun hs => absurd hs (by simp), hm.t1, fun hs => absurd hs (by simp), fun _ => hm.t3 h6, hm.body, hm.out⟩
       have := hm.most
       simp only
       rw [this, s3]
       rfl
   ·rw [if_neg s3]
    by_cases s5 : S.stage = 5
    ·rw [if_pos s5]
     exact hm.to3 hC (by omega)
    ·rw [if_neg s5]
     by_cases s6 : S.stage = 6
     ·rw [if_pos s6]
      split
      ·exact h.whole hC
      ·unfold PS.fieldT
       have hF := h.t2 s6
       split
       ·exact ⟨hm.b, hm.most, HL, hm.head, hm.need, hm.stage, hm.f1, fun hs => absurd hs (by simp only; omega), hm.t1, fun _ => hF.mono (show S.lines <= S.lines + 1 by omega), fun hs => absurd s6 hs, hm.body, hm.out⟩
       ·have hF2 := hF.field (p := C.p) (s := S.lineS) (e := S.err) hl.1 hls
        exact ⟨hm.b, hm.most, HL, hm.head, hm.need, hm.stage, hm.f1, fun hs => absurd hs (by simp only; omega), hF2.mono (by omega), fun _ => hF2, fun hs => absurd s6 hs, hm.body, hm.out⟩
     ·rw [if_neg s6]
      exact hm
def Live (C : Cfg) (S : PS) : Prop := S.err = 0 -> S.lines <= 100 ∧ S.head <= C.head ∧ (S.stage = 2 ∨ S.stage = 4 -> 1 <= S.need)
theorem zr3 {C : Cfg} {S : PS} (hC : zr2 C) (h1 : S.lines <= 100) (h2 : S.head <= C.head) (h3 : ¬ (S.stage = 2 ∨ S.stage = 4)) : Live C (S.ended C) := by
 have hcf := hC.fields
 have hct := hC.trailers
 have hch := hC.head
 have e3 : (S.stage = 2 ∨ S.stage = 4 -> 1 <= S.need) := fun h => absurd h h3
 have hw : ∀ T : PS, Live C (T.whole C) := fun T _ => ⟨by show (0:Int) <= 100; omega, by show (0:Int) <= C.head; omega, fun h => by rcases h with h | h <;> cases h⟩
 have hto : ∀ st : Int, st ≠ 2 -> st ≠ 4 -> Live C (S.to C st) := fun st q1 q2 _ => ⟨h1, h2, fun h => by
  rcases h with h | h
  ·exact absurd h q1
  ·exact absurd h q2⟩
 unfold PS.ended
 by_cases s0 : S.stage = 0
 ·rw [if_pos s0]
  unfold PS.request
  split
  ·exact fun _ => ⟨h1, h2, e3⟩
  ·intro he
   refine ⟨h1, h2, fun h => ?_⟩
   simp only at h
   rw [s0] at h
   split at h <;> rcases h with h | h <;> cases h
 ·rw [if_neg s0]
  by_cases s1 : S.stage = 1
  ·rw [if_pos s1]
   split
   ·unfold PS.framed
    have hbd := zqz S.fields C.p C.body C.chunked S.minor
    simp only
    split
    ·exact fun _ => ⟨h1, h2, e3⟩
    ·split
     ·exact fun _ => ⟨h1, h2, fun h => by rcases h with h | h <;> cases h⟩
     ·split
      ·exact hw S
      ·exact fun _ => ⟨h1, h2, fun _ => by simp only; omega⟩
   ·unfold PS.fieldF
    split
    ·exact fun he => absurd he (by simp)
    ·exact fun _ => ⟨by simp only; omega, h2, e3⟩
  ·rw [if_neg s1]
   by_cases s3 : S.stage = 3
   ·rw [if_pos s3]
    have hbd := zqw S.lineS C.p C.body C.ext
    unfold PS.chunk
    simp only
    split
    ·exact fun _ => ⟨h1, h2, e3⟩
    ·split
     ·exact fun _ => ⟨h1, h2, e3⟩
     ·split
      ·exact fun _ => ⟨by show (0:Int) <= 100; omega, h2, fun h => by rcases h with h | h <;> cases h⟩
      ·exact fun _ => ⟨h1, h2, fun _ => by simp only; omega⟩
   ·rw [if_neg s3]
    by_cases s5 : S.stage = 5
    ·rw [if_pos s5]
     exact hto 3 (by decide) (by decide)
    ·rw [if_neg s5]
     by_cases s6 : S.stage = 6
     ·rw [if_pos s6]
      split
      ·exact hw S
      ·unfold PS.fieldT
       split
       ·exact fun he => absurd he (by simp)
       ·exact fun _ => ⟨by simp only; omega, h2, e3⟩
     ·rw [if_neg s6]
      exact fun _ => ⟨h1, h2, e3⟩
theorem zr4 {C : Cfg} {n : Nat} {S : PS} (hC : zr2 C) (h : Inv C (n + 1) (S.ended C)) (ho : S.over = true) (hp : S.pend = false) : zqp (S.ended C) := by
 have hline := hC.line
 have key : (S.ended C).pend = false ∧ ((S.ended C).over = true ∨ (S.ended C).b = []) ∧ (S.ended C).stage ≠ 5 := by
  unfold PS.ended
  by_cases s0 : S.stage = 0
  ·rw [if_pos s0]
   unfold PS.request
   split
   ·exact ⟨hp, .inl ho, by simp only; omega⟩
   ·refine ⟨hp, .inl ho, ?_⟩
    simp only
    rw [s0]
    split <;> decide
  ·rw [if_neg s0]
   by_cases s1 : S.stage = 1
   ·rw [if_pos s1]
    split
    ·unfold PS.framed
     simp only
     split
     ·exact ⟨hp, .inl ho, by simp only [PS.fail]; omega⟩
     ·split
      ·exact ⟨rfl, .inr rfl, by simp [PS.to]⟩
      ·split
       ·exact ⟨rfl, .inr rfl, by simp [PS.whole]⟩
       ·exact ⟨hp, .inl ho, by simp⟩
    ·unfold PS.fieldF
     split
     ·exact ⟨hp, .inl ho, by simp only; omega⟩
     ·exact ⟨hp, .inl ho, by simp only; omega⟩
   ·rw [if_neg s1]
    by_cases s3 : S.stage = 3
    ·rw [if_pos s3]
     unfold PS.chunk
     simp only
     split
     ·exact ⟨hp, .inl ho, by simp only [PS.fail]; omega⟩
     ·split
      ·exact ⟨hp, .inl ho, by simp only [PS.fail]; omega⟩
      ·split
       ·exact ⟨rfl, .inr rfl, by simp [PS.to]⟩
       ·exact ⟨hp, .inl ho, by simp⟩
    ·rw [if_neg s3]
     by_cases s5 : S.stage = 5
     ·rw [if_pos s5]
      exact ⟨rfl, .inr rfl, by simp [PS.to]⟩
     ·rw [if_neg s5]
      by_cases s6 : S.stage = 6
      ·rw [if_pos s6]
       split
       ·exact ⟨rfl, .inr rfl, by simp [PS.whole]⟩
       ·unfold PS.fieldT
        split
        ·exact ⟨hp, .inl ho, by simp only; omega⟩
        ·exact ⟨hp, .inl ho, by simp only; omega⟩
      ·rw [if_neg s6]
       exact ⟨hp, .inl ho, s5⟩
 obtain ⟨k1, k2, k3⟩ := key
 refine ⟨k1, ?_⟩
 rw [h.most, if_neg k3]
 have : (if (S.ended C).over = true then ([] : Bs) else (S.ended C).b).length = 0 := by
  rcases k2 with k2 | k2
  ·rw [if_pos k2]; rfl
  ·rw [k2]; split <;> rfl
 omega
end Pl
end Go.Vx
end
section
set_option maxRecDepth 100000
namespace Go.Vx
namespace Pl
open Go Go.Proofs
def Good (C : Cfg) (n:Nat) (S : PS) : Prop := Inv C n S ∧ Live C S
theorem Good.mono {C : Cfg} {n m : Nat} {S : PS} (h : Good C n S) (hn : n <= m) : Good C m S := ⟨h.1.mono hn, h.2⟩
theorem zr5 {C : Cfg} {S : PS} (hC : zr2 C) (h : Live C S) (he : S.err = 0) (c:UInt8) : Live C (S.bodyB C c) := by
 obtain ⟨h1, h2, h3⟩ := h he
 have hch := hC.head
 unfold PS.bodyB
 simp only
 split
 ·exact fun _ => ⟨h1, h2, fun _ => by simp only; omega⟩
 ·split
  ·exact fun _ => ⟨by show (0:Int) <= 100; omega, by show (0:Int) <= C.head; omega, fun h => by rcases h with h | h <;> cases h⟩
  ·exact fun _ => ⟨h1, h2, fun h => by rcases h with h | h <;> cases h⟩
theorem zr6 {rec : PS -> UInt8 -> Bool -> PS} {C : Cfg} {n k : Nat} {U : PS} (hC : zr2 C) (hn : n <= 100000000) (hk : 3 <= k) (c:UInt8) (hrec : ∀ T b, Good C (n + 1) T -> Good C (n + k) (rec T c b)) (h : Good C n U) (he : U.err = 0) (h24 : ¬ (U.stage = 2 ∨ U.stage = 4)) : Good C (n + k) (U.tailG rec C c (U.lineB C c)) := by
 obtain ⟨h1, h2, h3⟩ := h.2 he
 have hI := h.1.lineB hC (by omega) c
 obtain ⟨pe, ov, ba, bb, q, hr⟩ := zqn C U c
 rw [hr] at hI ⊢
 simp only at hI
 have hE : Good C (n + 1) (PS.ended C { U with pend := pe, over := ov, bad := ba, b := bb }) := ⟨hI.ended hC h1, zr3 hC h1 h2 h24⟩
 have hF : ∀ e, Good C n (PS.fail { U with pend := pe, over := ov, bad := ba, b := bb } e) := fun e => ⟨hI.fail e, fun _ => ⟨h1, h2, h3⟩⟩
 unfold PS.tailG
 simp only
 split
 ·exact hE.mono (by omega)
 ·split
  ·exact hrec _ _ hE
  ·split
   ·unfold PS.longG
    split
    ·exact (hF _).mono (by omega)
    ·split
     ·exact (hF _).mono (by omega)
     ·split
      ·exact (hF _).mono (by omega)
      ·split
       ·rename_i h5
        split
        ·have h6 : ¬ (U.stage = 6) := by
          have : U.stage = 5 := h5
          omega
         exact hrec _ _ ⟨(hI.to3 hC h6).mono (by omega), fun _ => ⟨h1, h2, fun h => by rcases h with h | h <;> cases h⟩⟩
        ·exact (hF _).mono (by omega)
       ·exact (hF _).mono (by omega)
   ·split
    ·exact (hF _).mono (by omega)
    ·exact ⟨hI.mono (by omega), fun _ => ⟨h1, h2, h3⟩⟩
theorem zr7 {C : Cfg} {S : PS} (h : (S.counted C).2 = true) (he : S.err = 0) : (S.counted C).1.err = 0 := by
 unfold PS.counted at h ⊢
 split
 ·exact he
 ·split
  ·rename_i h1 h2
   rw [if_neg h1, if_pos h2] at h
   cases h
  ·exact he
theorem zr8 {C : Cfg} {S : PS} (h : Live C S) (he : S.err = 0) : Live C (S.counted C).1 := by
 obtain ⟨h1, h2, h3⟩ := h he
 unfold PS.counted
 split
 ·exact h
 ·split
  ·exact fun he => absurd he (by simp)
  ·exact fun _ => ⟨h1, by simp only; omega, h3⟩
theorem zr9 {rec : PS -> UInt8 -> Bool -> PS} {C : Cfg} {n k : Nat} {S : PS} (hC : zr2 C) (hn : n <= 100000000) (hk : 3 <= k) (c:UInt8) (cnt:Bool) (hrec : ∀ T b, Good C (n + 1) T -> Good C (n + k) (rec T c b)) (h : Good C n S) : Good C (n + k) (S.stepG rec C c cnt) := by
 unfold PS.stepG
 by_cases he : S.err = 0
 ·rw [if_neg (by simp [he])]
  obtain ⟨h1, h2, h3⟩ := h.2 he
  by_cases h24 : S.stage = 2 ∨ S.stage = 4
  ·rw [if_pos h24]
   exact ⟨(h.1.bodyB hC h24 (h3 h24) c).mono (by omega), zr5 hC h.2 he c⟩
  ·rw [if_neg h24]
   cases cnt with
   | true =>
    rw [if_pos rfl]
    have hc : Good C n (S.mark.counted C).1 := ⟨h.1.mark.counted hC h2, zr8 h.2 he⟩
    by_cases hk2 : (S.mark.counted C).2 = false
    ·rw [if_pos hk2]; exact hc.mono (by omega)
    ·rw [if_neg hk2]
     refine zr6 hC hn hk c hrec hc (zr7 (by simpa using hk2) he) ?_
     rw [zqa]; exact h24
   | false =>
    rw [if_neg (by simp)]
    exact zr6 hC hn hk c hrec ⟨h.1.mark, h.2⟩ he h24
 ·rw [if_pos he]; exact h.mono (by omega)
theorem zra {C : Cfg} {n : Nat} {S : PS} (hC : zr2 C) (hn : n <= 100000000) (c:UInt8) (cnt:Bool) (h : Good C n S) : Good C (n + 3) (S.step1 C c cnt) := zr9 hC hn (Nat.le_refl _) c cnt (fun T b hT => hT.mono (by omega)) h
theorem zrb {C : Cfg} {n : Nat} {S : PS} (hC : zr2 C) (hn : n <= 90000000) (c:UInt8) (cnt:Bool) (h : Good C n S) : Good C (n + 4) (S.step C c cnt) := zr9 hC (by omega) (by omega) c cnt (fun T b hT => (zra hC (by omega) c b hT).mono (by omega)) h
theorem zrc {C : Cfg} {S : PS} {c : UInt8} (h : (S.lineB C c).2 = 2) : (S.lineB C c).1.over = true ∧ (S.lineB C c).1.pend = false := by
 unfold PS.lineB at h ⊢
 by_cases hb : S.bad = true
 ·rw [if_pos hb] at h; cases h
 ·rw [if_neg hb] at h ⊢
  by_cases hp : S.pend = true
  ·rw [if_pos hp] at h ⊢
   by_cases h10 : c = 10
   ·rw [if_pos h10] at h; cases h
   ·rw [if_neg h10] at h ⊢
    by_cases h2 : hasD C.p 2 = true
    ·rw [if_pos h2]; exact ⟨rfl, rfl⟩
    ·rw [if_neg h2] at h; cases h
  ·rw [if_neg hp] at h
   by_cases h13 : c = 13
   ·rw [if_pos h13] at h; cases h
   ·rw [if_neg h13] at h
    by_cases h10 : c = 10
    ·rw [if_pos h10] at h
     by_cases h1 : hasD C.p 1 = true
     ·rw [if_pos h1] at h; cases h
     ·rw [if_neg h1] at h; cases h
    ·rw [if_neg h10] at h
     by_cases hl : ((if S.over = true then ([] : Bs) else S.b).length:Int) ≥ S.most
     ·rw [if_pos hl] at h; cases h
     ·rw [if_neg hl] at h; cases h
theorem zrd {C : Cfg} {n : Nat} {S : PS} (hC : zr2 C) (hn : n <= 100000000) (c:UInt8) (counts:Bool) (h : Good C n S) (hL : zqm C) (hN : zqp S) :
  q54.f S.method S.target S.minor S.chunked S.stage S.lines S.head S.need S.begun S.waits C.p C.line C.fields C.head C.body C.ext C.trailers C.wait C.idle C.chunked C.old S.err C.p S.most S.pend S.over S.bad S.b S.fields S.body S.trailers S.out (c.toNat:Int) counts = some ((S.step1 C c counts).tupS C) :=
 zqt c counts (h.1.small hC (by omega)) (by have := h.1.head; omega) hL (fun _ _ _ => hN)
theorem zre {C : Cfg} {n : Nat} {S : PS} (hC : zr2 C) (hn : n <= 90000000) (c:UInt8) (h : Inv C n S) (hv : S.lines <= 100 ∧ S.head <= C.head) (hL : zqm C) :
  q4v.f S.method S.target S.minor S.chunked S.stage S.lines S.head S.need S.begun S.waits C.p C.line C.fields C.head C.body C.ext C.trailers C.wait C.idle C.chunked C.old S.err C.p S.most S.pend S.over S.bad S.b S.fields S.body S.trailers S.out (c.toNat:Int) = some ((S.longG (PS.step1 C) C c).tupS C) := by
 have hline := hC.line
 unfold q4v.f q4v.t PS.longG
 rw [ifB _ _ (zqr S.stage 0)]
 by_cases s0 : S.stage = 0
 ·rw [if_pos s0, if_pos s0]; rfl
 ·rw [if_neg s0, if_neg s0, ifB _ _ (zqr S.stage 1)]
  by_cases s1 : S.stage = 1
  ·rw [if_pos s1, if_pos s1]; rfl
  ·rw [if_neg s1, if_neg s1, ifB _ _ (zqr S.stage 6)]
   by_cases s6 : S.stage = 6
   ·rw [if_pos s6, if_pos s6]; rfl
   ·rw [if_neg s6, if_neg s6, ifB _ _ (zqr S.stage 5)]
    by_cases s5 : S.stage = 5
    ·rw [if_pos s5, if_pos s5]
     repeat rw [vokl]
     rw [zms, Tr.val_call rfl]
     cases h29 : hasD C.p 29 with
     | false => rfl
     | true =>
      rw [zmo, if_pos rfl]
      repeat rw [vokl]
      rw [to_f (C := C) (S := S) 3, Tr.val_call rfl]
      have hg : Good C n (S.to C 3) := ⟨h.to3 hC s6, fun _ => ⟨hv.1, hv.2, fun h => by rcases h with h | h <;> cases h⟩⟩
      have hnr : zqp (S.to C 3) := by
       refine ⟨rfl, ?_⟩
       rw [hg.1.most]
       show ((0:Nat):Int) < (if (3:Int) = 5 then 0 else C.line)
       rw [if_neg (by decide)]
       omega
      have h1 := zrd hC (by omega) c true hg hL hnr
      dsimp only
      repeat rw [vokl]
      rw [show q54.f S.method S.target S.minor S.chunked 3 S.lines S.head S.need S.begun S.waits C.p C.line C.fields C.head C.body C.ext C.trailers C.wait C.idle C.chunked C.old S.err C.p (zpk (if (3:Int) = 5 then 0 else C.line)) false false false [] S.fields S.body S.trailers S.out (c.toNat:Int) true = _ from h1, Tr.val_call rfl]
      rfl
    ·rw [if_neg s5, if_neg s5]; rfl
theorem zrf {C : Cfg} {n : Nat} {S : PS} (hC : zr2 C) (hn : n <= 80000000) (c:UInt8) (counts:Bool) (hG : Good C n S) (hL : zqm C) :
  q57.f S.method S.target S.minor S.chunked S.stage S.lines S.head S.need S.begun S.waits C.p C.line C.fields C.head C.body C.ext C.trailers C.wait C.idle C.chunked C.old S.err C.p S.most S.pend S.over S.bad S.b S.fields S.body S.trailers S.out (c.toNat:Int) counts = some ((S.step C c counts).tupS C) := by
 have h := hG.1.small hC (show n <= 1000000000 by omega)
 have hh : S.head <= 999999999 := by have := hG.1.head; omega
 unfold q57.f q57.t PS.step PS.stepG
 rw [ifB _ _ (zqs S.err 0)]
 by_cases he : S.err = 0
 ·rw [if_neg (by simp [he]), if_neg (by simp [he]), ifB _ _ (zqr S.stage 2)]
  obtain ⟨v1, v2, v3⟩ := hG.2 he
  have hbody := zps (C := C) c h.body h.out h.need.1 h.need.2
  have hbe : (S.bodyB C c).err = S.err := by
   unfold PS.bodyB
   simp only
   repeat' split
   all_goals rfl
  have hbt : some ((S.bodyB C c).tupS C) = some (((S.bodyB C c).method, (S.bodyB C c).target, (S.bodyB C c).minor, (S.bodyB C c).chunked, (S.bodyB C c).stage, (S.bodyB C c).lines, (S.bodyB C c).head, (S.bodyB C c).need, (S.bodyB C c).begun, (S.bodyB C c).waits, C.p, C.line, C.fields, C.head, C.body, C.ext, C.trailers, C.wait, C.idle, C.chunked, C.old, S.err, C.p, (S.bodyB C c).most, (S.bodyB C c).pend, (S.bodyB C c).over, (S.bodyB C c).bad, (S.bodyB C c).b, (S.bodyB C c).fields, (S.bodyB C c).body, (S.bodyB C c).trailers, (S.bodyB C c).out) : ST) := by
   unfold PS.tupS
   rw [hbe]
  by_cases s2 : S.stage = 2
  ·rw [if_pos s2, if_pos (.inl s2), hbt]
   repeat rw [vokl]
   rw [hbody, Tr.val_call rfl]
   rfl
  ·rw [if_neg s2, ifB _ _ (zqr S.stage 4)]
   by_cases s4 : S.stage = 4
   ·rw [if_pos s4, if_pos (.inr s4), hbt]
    repeat rw [vokl]
    rw [hbody, Tr.val_call rfl]
    rfl
   ·rw [if_neg s4, if_neg (not_or.2 ⟨s2, s4⟩)]
    have h24 : ¬ (S.stage = 2 ∨ S.stage = 4) := not_or.2 ⟨s2, s4⟩
    cases counts with
    | true =>
     rw [zmo, if_pos rfl]
     repeat rw [vokl]
     rw [zpt h.head.1 (by omega), Tr.val_call rfl]
     have hcm : (S.mark.counted C).1.head = (S.counted C).1.head ∧ (S.mark.counted C).1.err = (S.counted C).1.err ∧ (S.mark.counted C).2 = (S.counted C).2 := by
      unfold PS.counted PS.mark
      simp only
      repeat' split
      all_goals exact ⟨rfl, rfl, rfl⟩
     have hgU : Good C n (S.mark.counted C).1 := ⟨hG.1.mark.counted hC v2, zr8 hG.2 he⟩
     have hok := zr7 (C := C) (S := S.mark)
     obtain ⟨hd, er, k, hc⟩ := zqo C S.mark
     rw [← hcm.1, ← hcm.2.1, ← hcm.2.2]
     rw [hc] at hgU hok ⊢
     simp only at hgU hok ⊢
     cases k with
     | false => rfl
     | true =>
      rw [show (!true) = false from rfl, zmp, if_neg (by simp)]
      have heU := hok rfl he
      obtain ⟨u1, u2, u3⟩ := hgU.2 heU
      have hsm : Small C ({ S.mark with head := hd, err := er } : PS) := hgU.1.small hC (by omega)
      repeat rw [vokl]
      have hB := zpq (C := C) (S := ({ S.mark with head := hd, err := er } : PS)) c hsm.most
      have hIr := hgU.1.lineB hC (by omega) c
      have hE := zq1 (C := C) (S := (({ S.mark with head := hd, err := er } : PS).lineB C c).1) (zqj hsm c) (fun _ => hL _ (Nat.le_trans zpy (zqj hsm c).b))
      have h2 := zrc (C := C) (S := ({ S.mark with head := hd, err := er } : PS)) (c := c)
      obtain ⟨pe, ov, ba, bb, k, hr⟩ := zqn C ({ S.mark with head := hd, err := er } : PS) c
      rw [hr] at hB hE hIr h2 ⊢
      simp only at hB hE hIr h2
      have hEi : Good C (n + 1) (PS.ended C { ({ S.mark with head := hd, err := er } : PS) with pend := pe, over := ov, bad := ba, b := bb }) := ⟨hIr.ended hC u1, zr3 hC u1 u2 h24⟩
      rw [show q27.f C.p S.most S.pend S.over S.bad S.b (c.toNat:Int) = _ from hB, Tr.val_call rfl]
      have hEnd : q4g.f S.method S.target S.minor S.chunked S.stage S.lines hd S.need true false C.p C.line C.fields C.body C.ext C.trailers C.chunked C.old er C.p S.most pe ov ba bb S.fields S.body S.trailers S.out = some ((PS.ended C { ({ S.mark with head := hd, err := er } : PS) with pend := pe, over := ov, bad := ba, b := bb }).tup C) := hE
      unfold PS.tailG
      simp only
      rw [ifB _ _ (zqr k 1)]
      by_cases e1 : k = 1
      ·rw [if_pos e1, if_pos e1]
       repeat rw [vokl]
       rw [hEnd, Tr.val_call rfl]
       rfl
      ·rw [if_neg e1, if_neg e1, ifB _ _ (zqr k 2)]
       by_cases e2 : k = 2
       ·rw [if_pos e2, if_pos e2]
        have hnr := zr4 hC hEi.1 (h2 e2).1 (h2 e2).2
        have hS1 := fun b => zrd hC (by omega) c b hEi hL hnr
        repeat rw [vokl]
        rw [ifB _ _ (zqs S.stage 3)]
        by_cases s3 : S.stage = 3
        ·rw [if_neg (by simp [s3])]
         repeat rw [vokl]
         rw [hEnd, Tr.val_call rfl]
         have h5 : ¬ (S.stage ≠ 3 ∧ S.stage ≠ 5) := fun h => h.1 s3
         rw [show (if (({ S.mark with head := hd, err := er } : PS).stage ≠ 3 ∧ ({ S.mark with head := hd, err := er } : PS).stage ≠ 5) then decide (((PS.ended C { ({ S.mark with head := hd, err := er } : PS) with pend := pe, over := ov, bad := ba, b := bb }).out.length:Int) > (({ S.mark with head := hd, err := er } : PS).out.length:Int)) else true) = true from if_neg h5]
         dsimp only [PS.tup]
         repeat rw [vokl]
         rw [hS1 true, Tr.val_call rfl]
         rfl
        ·rw [if_pos s3]
         repeat rw [vokl]
         rw [hEnd, Tr.val_call rfl]
         dsimp only [PS.tup]
         rw [ifB _ _ (show (!(S.stage != 5)) = decide (S.stage = 5) by by_cases h : S.stage = 5 <;> simp [h])]
         by_cases s5 : S.stage = 5
         ·rw [if_pos s5]
          have h5 : ¬ (S.stage ≠ 3 ∧ S.stage ≠ 5) := fun h => h.2 s5
          rw [show (if (({ S.mark with head := hd, err := er } : PS).stage ≠ 3 ∧ ({ S.mark with head := hd, err := er } : PS).stage ≠ 5) then decide (((PS.ended C { ({ S.mark with head := hd, err := er } : PS) with pend := pe, over := ov, bad := ba, b := bb }).out.length:Int) > (({ S.mark with head := hd, err := er } : PS).out.length:Int)) else true) = true from if_neg h5]
          repeat rw [vokl]
          rw [hS1 true, Tr.val_call rfl]
          rfl
         ·rw [if_neg s5]
          rw [show (if (({ S.mark with head := hd, err := er } : PS).stage ≠ 3 ∧ ({ S.mark with head := hd, err := er } : PS).stage ≠ 5) then decide (((PS.ended C { ({ S.mark with head := hd, err := er } : PS) with pend := pe, over := ov, bad := ba, b := bb }).out.length:Int) > (({ S.mark with head := hd, err := er } : PS).out.length:Int)) else true) = decide (((PS.ended C { ({ S.mark with head := hd, err := er } : PS) with pend := pe, over := ov, bad := ba, b := bb }).out.length:Int) > (S.out.length:Int)) from if_pos ⟨s3, s5⟩]
          repeat rw [vokl]
          rw [hS1 _, Tr.val_call rfl]
          rfl
       ·rw [if_neg e2, if_neg e2, ifB _ _ (zqr k 4)]
        by_cases e4 : k = 4
        ·rw [if_pos e4, if_pos e4]
         have hlg := zre hC (by omega) c hIr ⟨u1, u2⟩ hL
         repeat rw [vokl]
         rw [show q4v.f S.method S.target S.minor S.chunked S.stage S.lines hd S.need true false C.p C.line C.fields C.head C.body C.ext C.trailers C.wait C.idle C.chunked C.old er C.p S.most pe ov ba bb S.fields S.body S.trailers S.out (c.toNat:Int) = _ from hlg, Tr.val_call rfl]
         rfl
        ·rw [if_neg e4, if_neg e4, ifB _ _ (zqr k 3)]
         by_cases e3 : k = 3
         ·rw [if_pos e3, if_pos e3]; rfl
         ·rw [if_neg e3, if_neg e3]; rfl
    | false =>
     rw [zmp, if_neg (by simp)]
     have hgU : Good C n S.mark := ⟨hG.1.mark, hG.2⟩
     have hsm := zql h
     have u1 : S.mark.lines <= 100 := v1
     have u2 : S.mark.head <= C.head := v2
     repeat rw [vokl]
     have hB := zpq (C := C) (S := S.mark) c hsm.most
     have hIr := hgU.1.lineB hC (by omega) c
     have hE := zq1 (C := C) (S := (S.mark.lineB C c).1) (zqj hsm c) (fun _ => hL _ (Nat.le_trans zpy (zqj hsm c).b))
     have h2 := zrc (C := C) (S := S.mark) (c := c)
     obtain ⟨pe, ov, ba, bb, k, hr⟩ := zqn C S.mark c
     rw [hr] at hB hE hIr h2 ⊢
     simp only at hB hE hIr h2
     have hEi : Good C (n + 1) (PS.ended C { S.mark with pend := pe, over := ov, bad := ba, b := bb }) := ⟨hIr.ended hC u1, zr3 hC u1 u2 h24⟩
     rw [show q27.f C.p S.most S.pend S.over S.bad S.b (c.toNat:Int) = _ from hB, Tr.val_call rfl]
     have hEnd : q4g.f S.method S.target S.minor S.chunked S.stage S.lines S.head S.need true false C.p C.line C.fields C.body C.ext C.trailers C.chunked C.old S.err C.p S.most pe ov ba bb S.fields S.body S.trailers S.out = some ((PS.ended C { S.mark with pend := pe, over := ov, bad := ba, b := bb }).tup C) := hE
     unfold PS.tailG
     simp only
     rw [ifB _ _ (zqr k 1)]
     by_cases e1 : k = 1
     ·rw [if_pos e1, if_pos e1]
      repeat rw [vokl]
      rw [hEnd, Tr.val_call rfl]
      rfl
     ·rw [if_neg e1, if_neg e1, ifB _ _ (zqr k 2)]
      by_cases e2 : k = 2
      ·rw [if_pos e2, if_pos e2]
       have hnr := zr4 hC hEi.1 (h2 e2).1 (h2 e2).2
       have hS1 := fun b => zrd hC (by omega) c b hEi hL hnr
       repeat rw [vokl]
       rw [ifB _ _ (zqs S.stage 3)]
       by_cases s3 : S.stage = 3
       ·rw [if_neg (by simp [s3])]
        repeat rw [vokl]
        rw [hEnd, Tr.val_call rfl]
        have h5 : ¬ (S.stage ≠ 3 ∧ S.stage ≠ 5) := fun h => h.1 s3
        rw [show (if (S.mark.stage ≠ 3 ∧ S.mark.stage ≠ 5) then decide (((PS.ended C { S.mark with pend := pe, over := ov, bad := ba, b := bb }).out.length:Int) > (S.mark.out.length:Int)) else true) = true from if_neg h5]
        dsimp only [PS.tup]
        repeat rw [vokl]
        rw [hS1 true, Tr.val_call rfl]
        rfl
       ·rw [if_pos s3]
        repeat rw [vokl]
        rw [hEnd, Tr.val_call rfl]
        dsimp only [PS.tup]
        rw [ifB _ _ (show (!(S.stage != 5)) = decide (S.stage = 5) by by_cases h : S.stage = 5 <;> simp [h])]
        by_cases s5 : S.stage = 5
        ·rw [if_pos s5]
         have h5 : ¬ (S.stage ≠ 3 ∧ S.stage ≠ 5) := fun h => h.2 s5
         rw [show (if (S.mark.stage ≠ 3 ∧ S.mark.stage ≠ 5) then decide (((PS.ended C { S.mark with pend := pe, over := ov, bad := ba, b := bb }).out.length:Int) > (S.mark.out.length:Int)) else true) = true from if_neg h5]
         repeat rw [vokl]
         rw [hS1 true, Tr.val_call rfl]
         rfl
        ·rw [if_neg s5]
         rw [show (if (S.mark.stage ≠ 3 ∧ S.mark.stage ≠ 5) then decide (((PS.ended C { S.mark with pend := pe, over := ov, bad := ba, b := bb }).out.length:Int) > (S.mark.out.length:Int)) else true) = decide (((PS.ended C { S.mark with pend := pe, over := ov, bad := ba, b := bb }).out.length:Int) > (S.out.length:Int)) from if_pos ⟨s3, s5⟩]
         repeat rw [vokl]
         rw [hS1 _, Tr.val_call rfl]
         rfl
      ·rw [if_neg e2, if_neg e2, ifB _ _ (zqr k 4)]
       by_cases e4 : k = 4
       ·rw [if_pos e4, if_pos e4]
        have hlg := zre hC (by omega) c hIr ⟨u1, u2⟩ hL
        repeat rw [vokl]
        rw [show q4v.f S.method S.target S.minor S.chunked S.stage S.lines S.head S.need true false C.p C.line C.fields C.head C.body C.ext C.trailers C.wait C.idle C.chunked C.old S.err C.p S.most pe ov ba bb S.fields S.body S.trailers S.out (c.toNat:Int) = _ from hlg, Tr.val_call rfl]
        rfl
       ·rw [if_neg e4, if_neg e4, ifB _ _ (zqr k 3)]
        by_cases e3 : k = 3
        ·rw [if_pos e3, if_pos e3]; rfl
        ·rw [if_neg e3, if_neg e3]; rfl
 ·rw [if_pos he, if_pos he]; rfl
end Pl
end Go.Vx
end
section
set_option maxRecDepth 100000
namespace Go.Vx
namespace Pl
open Go Go.Proofs
def PS.feed (C : Cfg) (S : PS) (l : Bs) : PS := l.foldl (fun S c => S.step C c true) S
theorem zrg (C : Cfg) (S : PS) (c:UInt8) (l : Bs) : S.feed C (c :: l) = (S.step C c true).feed C l := rfl
theorem zrh (C : Cfg) (S : PS) (l m : Bs) : S.feed C (l ++ m) = (S.feed C l).feed C m := List.foldl_append ..
theorem zri {C : Cfg} (hC : zr2 C) : ∀ (l : Bs) (n:Nat) (S : PS), n + 4 * l.length <= 80000000 -> Good C n S -> Good C (n + 4 * l.length) (S.feed C l)
 | [], n, S, hn, h => h
 | c :: l, n, S, hn, h => by
  rw [zrg]
  simp only [List.length_cons] at hn ⊢
  have h1 := zrb hC (by omega) c true h
  exact (zri hC l (n + 4) _ (by omega) h1).mono (by omega)
theorem zrj {C : Cfg} {n : Nat} {S : PS} {parts : List Bs} {l : Bs} (hC : zr2 C) (hL : zqm C) (hn : n + 4 * l.length <= 80000000) (h : Good C n S) :
  q3y.L6.f S.method S.target S.minor S.chunked S.stage S.lines S.head S.need S.begun S.waits C.p C.line C.fields C.head C.body C.ext C.trailers C.wait C.idle C.chunked C.old S.err parts C.p S.most S.pend S.over S.bad S.b S.fields S.body S.trailers S.out l (l.length:Int) 0 = some ((S.feed C l).tupS C) := by
 unfold q3y.L6.f
 refine (ziv (A := PS) (a := S) l (fun k T => (T.method, T.target, T.minor, T.chunked, T.stage, T.lines, T.head, T.need, T.begun, T.waits, C.p, C.line, C.fields, C.head, C.body, C.ext, C.trailers, C.wait, C.idle, C.chunked, C.old, T.err, C.p, T.most, T.pend, T.over, T.bad, T.b, T.fields, T.body, T.trailers, T.out, (k:Int))) (fun k T => Good C (n + 4 * k) T) (fun T c => .inl (T.step C c true)) (fun T => T.tupS C) ?_ ?_ (by omega) h rfl).trans ?_
 ·intro k T c hT hk hc
  have hw := wS (k := k) (by omega)
  have hT' : Good C (n + 4 * k) T := hT
  have hb : n + 4 * k <= 80000000 := by omega
  refine ⟨?_, fun a' ha => by cases ha; exact (zrb (n := n + 4 * k) hC (by omega) c true hT').mono (by omega)⟩
  have hs := zrf (n := n + 4 * k) hC hb c true hT' hL
  unfold q3y.L6.t
  dsimp only
  rw [ifB _ _ (show decide ((k:Int) < (l.length:Int)) = decide (k < l.length) from zje), if_pos hk, Tr.val_chk (by omega)]
  simp only [Int.toNat_natCast, ziw hk hc]
  rw [Tr.val_chk hk]
  repeat rw [vokl]
  rw [hs, Tr.val_call rfl]
  dsimp only [PS.tupS]
  repeat rw [vokl]
  rw [hw]
  rfl
 ·intro T _
  unfold q3y.L6.t
  dsimp only
  rw [ifB _ _ (show decide ((l.length:Int) < (l.length:Int)) = decide (l.length < l.length) from zje), if_neg (Nat.lt_irrefl _)]
  repeat rw [vokl]
  rfl
 ·have : ∀ (m : Bs) (T : PS), zit (fun T c => (Sum.inl (T.step C c true) : PS ⊕ ST)) (fun T => T.tupS C) T m = (T.feed C m).tupS C := by
   intro m
   induction m with
   | nil => intro T; rfl
   | cons c m ih => intro T; exact ih _
  rw [this]
theorem zrk {C : Cfg} {n : Nat} {S : PS} {parts : List Bs} (hC : zr2 C) (hL : zqm C) (hp : parts.length <= 1000000) (hn : n + 4 * parts.flatten.length <= 80000000) (h : Good C n S) :
  q3y.L3.f S.method S.target S.minor S.chunked S.stage S.lines S.head S.need S.begun S.waits C.p C.line C.fields C.head C.body C.ext C.trailers C.wait C.idle C.chunked C.old S.err parts C.p S.most S.pend S.over S.bad S.b S.fields S.body S.trailers S.out (parts.length:Int) 0 = some ((S.feed C parts.flatten).tupS C) := by
 unfold q3y.L3.f
 refine (ziv (A := PS) (a := S) parts (fun k T => (T.method, T.target, T.minor, T.chunked, T.stage, T.lines, T.head, T.need, T.begun, T.waits, C.p, C.line, C.fields, C.head, C.body, C.ext, C.trailers, C.wait, C.idle, C.chunked, C.old, T.err, C.p, T.most, T.pend, T.over, T.bad, T.b, T.fields, T.body, T.trailers, T.out, (k:Int))) (fun k T => Good C (n + 4 * (parts.take k).flatten.length) T) (fun T l => .inl (T.feed C l)) (fun T => T.tupS C) ?_ ?_ (by omega) (by simpa using h) rfl).trans ?_
 ·intro k T l hT hk hc
  have hw := wS (k := k) (by omega)
  have hlen : (parts.take (k + 1)).flatten.length = (parts.take k).flatten.length + l.length := by
   rw [List.take_add_one, List.getElem?_eq_getElem hk, hc]
   simp
  have hle : (parts.take (k + 1)).flatten.length <= parts.flatten.length := by
   conv => rhs; rw [← List.take_append_drop (k + 1) parts]
   rw [List.flatten_append, List.length_append]
   omega
  have hT' : Good C (n + 4 * (parts.take k).flatten.length) T := hT
  have hb : n + 4 * (parts.take k).flatten.length + 4 * l.length <= 80000000 := by omega
  refine ⟨?_, fun a' ha => by cases ha; rw [hlen]; exact (zri hC l _ T hb hT').mono (by omega)⟩
  have hs := zrj (parts := parts) (l := l) hC hL hb hT'
  unfold q3y.L3.t
  dsimp only
  rw [ifB _ _ (show decide ((k:Int) < (parts.length:Int)) = decide (k < parts.length) from zje), if_pos hk, Tr.val_chk (by omega)]
  simp only [Int.toNat_natCast, Nat.zero_add, ziw hk hc]
  rw [Tr.val_chk hk]
  repeat rw [vokl]
  rw [hs, Tr.val_call rfl]
  dsimp only [PS.tupS]
  repeat rw [vokl]
  rw [hw]
  rfl
 ·intro T _
  unfold q3y.L3.t
  dsimp only
  rw [ifB _ _ (show decide ((parts.length:Int) < (parts.length:Int)) = decide (parts.length < parts.length) from zje), if_neg (Nat.lt_irrefl _)]
  repeat rw [vokl]
  rfl
 ·have : ∀ (m : List Bs) (T : PS), zit (fun T l => (Sum.inl (T.feed C l) : PS ⊕ ST)) (fun T => T.tupS C) T m = (T.feed C m.flatten).tupS C := by
   intro m
   induction m with
   | nil => intro T; rfl
   | cons c m ih =>
    intro T
    show zit (fun T l => (Sum.inl (T.feed C l) : PS ⊕ ST)) (fun T => T.tupS C) (T.feed C c) m = _
    rw [ih, List.flatten_cons, zrh]
  rw [this]
def PS.taken (S : PS) : PS := { S with out := [] }
theorem Good.taken {C : Cfg} {n : Nat} {S : PS} (h : Good C n S) : Good C n S.taken := ⟨⟨h.1.b, h.1.most, h.1.lines, h.1.head, h.1.need, h.1.stage, h.1.f1, h.1.f2, h.1.t1, h.1.t2, h.1.t3, h.1.body, Nat.zero_le _⟩, h.2⟩
abbrev FT := Bs × Bs × Int × Bool × Int × Int × Int × Int × Bool × Bool × Int × Int × Int × Int × Int × Int × Int × Int × Int × Bool × Bool × Int × List Rec × Int × Int × Bool × Bool × Bool × Bs × Fs × Bs × Fs
def PS.tupF (C : Cfg) (S : PS) : FT := (S.method, S.target, S.minor, S.chunked, S.stage, S.lines, S.head, S.need, S.begun, S.waits, C.p, C.line, C.fields, C.head, C.body, C.ext, C.trailers, C.wait, C.idle, C.chunked, C.old, S.err, S.out, C.p, S.most, S.pend, S.over, S.bad, S.b, S.fields, S.body, S.trailers)
theorem zrl {C : Cfg} {n : Nat} {S : PS} {parts : List Bs} (hC : zr2 C) (hL : zqm C) (hp : parts.length <= 1000000) (hn : n + 4 * parts.flatten.length <= 80000000) (h : Good C n S) :
  q3y.f S.method S.target S.minor S.chunked S.stage S.lines S.head S.need S.begun S.waits C.p C.line C.fields C.head C.body C.ext C.trailers C.wait C.idle C.chunked C.old S.err C.p S.most S.pend S.over S.bad S.b S.fields S.body S.trailers parts = some ((S.taken.feed C parts.flatten).tupF C) := by
 have ho := zrk (parts := parts) hC hL hp hn h.taken
 unfold q3y.f q3y.t
 repeat rw [vokl]
 rw [show q3y.L3.f S.method S.target S.minor S.chunked S.stage S.lines S.head S.need S.begun S.waits C.p C.line C.fields C.head C.body C.ext C.trailers C.wait C.idle C.chunked C.old S.err parts C.p S.most S.pend S.over S.bad S.b S.fields S.body S.trailers [] (parts.length:Int) 0 = _ from ho, Tr.val_call rfl]
 rfl
def PS.new (C : Cfg) : PS :=
 {method := [], target := [], minor := 0, chunked := false, stage := 0, lines := 0, head := 0, need := 0, begun := false, waits := false, err := 0, most := zpk C.line, pend := false, over := false, bad := false, b := [], fields := [], body := [], trailers := [], out := [] }
theorem zrm {C : Cfg} (hC : zr2 C) : Good C 0 (PS.new C) := by
 have h2 := hC.head
 refine ⟨⟨by simp [PS.new], ?_, (by decide : (0:Int) <= 0 ∧ (0:Int) <= 101), (by decide : (0:Int) <= 0 ∧ (0:Int) <= 65537), (by decide : (0:Int) <= 0 ∧ (0:Int) <= 1048576), (by decide : (0:Int) <= 0 ∧ (0:Int) <= 6), LB.nil (by decide), fun _ => LB.nil (Int.le_refl _), LB.nil (by decide), fun _ => LB.nil (Int.le_refl _), fun _ => rfl, Nat.zero_le _, Nat.zero_le _⟩, fun _ => ⟨by show (0:Int) <= 100; omega, by show (0:Int) <= C.head; omega, fun h => by rcases h with h | h <;> cases h⟩⟩
 show zpk C.line = _
 rw [hC.most]; rfl
end Pl
end Go.Vx
end
section
set_option maxRecDepth 100000
namespace Go.Vx
namespace Pl
open Go Go.Proofs
theorem zrn {l : List Bs} {n k : Nat} (h : ∀ x ∈ l, x.length <= n) : (l.getD k []).length <= n := by
 rw [List.getD_eq_getElem?_getD]
 by_cases hk : k < l.length
 ·rw [List.getElem?_eq_getElem hk]; exact h _ (List.getElem_mem hk)
 ·rw [List.getElem?_eq_none (by omega)]; simp
theorem zro (p:Int) (s a z : Bs) : (znq p s a z).length <= s.length := by
 have ht := zr0 ((s.take (s.length - z.length - 1)).drop (a.length + 1))
 unfold znq
 split
 ·simp only [List.length_drop, List.length_take] at ht; omega
 ·simp only [List.length_drop, List.length_take]; omega
theorem zrp {p : Int} {s : Bs} {l : List Bs} (h : ∀ x ∈ l, x.length <= s.length) : (znr p s l).2.1.length <= s.length := by
 unfold znr
 split
 ·simp
 ·split
  ·exact zrn h
  ·split
   ·exact zro _ _ _ _
   ·split
    ·exact zrn h
    ·simp
theorem zrq {C : Cfg} (h3 : hasD C.p 3 = false) : zqm C := fun s hs => by
 refine ⟨(fun h => by rw [h3] at h; cases h), ?_⟩
 have : (zns s C.p).2.1.length <= s.length := by
  unfold zns zno znn
  rw [h3]
  exact zrp fun x hx => zll s.length (Nat.le_refl _) x hx
 omega
def okB (line fields head body ext trailers wait idle:Int) : Bool := decide (64 <= line ∧ line <= 4096 ∧ 4 <= fields ∧ fields <= 100 ∧ 256 <= head ∧ head <= 65536 ∧ 16 <= body ∧ body <= 1048576 ∧ 0 <= ext ∧ ext <= 256 ∧ 0 <= trailers ∧ trailers <= 100 ∧ 1 <= wait ∧ wait <= 16 ∧ 1 <= idle ∧ idle <= 1000)
theorem zrr {b : Bool} {a : Tr Bool} {v : Bool} (h : b = true -> a.val = some v) : (Tr.br b a (.ret false)).val = some (b && v) := by
 cases b with
 | true => exact h rfl
 | false => rfl
theorem zrs (line fields head body ext trailers wait idle:Int) : q00.f line fields head body ext trailers wait idle = some (okB line fields head body ext trailers wait idle) := by
 unfold q00.f q00.t
 refine (zrr fun _ => zrr fun _ => zrr fun _ => zrr fun _ => zrr fun _ => zrr fun _ => zrr fun _ => zrr fun _ => zrr fun _ => zrr fun _ => zrr fun _ => zrr fun _ => zrr fun _ => zrr fun _ => zrr fun _ => rfl).trans ?_
 congr 1
 unfold okB
 simp only [← Bool.decide_and, ge_iff_le]
def Cfg.right (C : Cfg) : Prop := okB C.line C.fields C.head C.body C.ext C.trailers C.wait C.idle = true ∧ C.p.fdiv (2 ^ 30) = 0
instance (C : Cfg) : Decidable C.right := inferInstanceAs (Decidable (_ ∧ _))
theorem Cfg.right.ok {C : Cfg} (h : C.right) : zr2 C := by
 have h1 := h.1
 unfold okB at h1
 have := of_decide_eq_true h1
 constructor <;> omega
abbrev NT := Bs × Bs × Int × Bool × Int × Int × Int × Int × Bool × Bool × Int × Int × Bool × Bool × Bool × Bs × Fs × Bs × Fs × List Rec
def PS.tupN (S : PS) : NT := (S.method, S.target, S.minor, S.chunked, S.stage, S.lines, S.head, S.need, S.begun, S.waits, S.err, S.most, S.pend, S.over, S.bad, S.b, S.fields, S.body, S.trailers, S.out)
def PS.new' (C : Cfg) : PS := if C.right then PS.new C else { PS.new C with err := 20 }
theorem zrt (C : Cfg) : q3p.f C.p C.line C.fields C.head C.body C.ext C.trailers C.wait C.idle = some (PS.new' C).tupN := by
 unfold q3p.f q3p.t PS.new'
 rw [zrs, Tr.val_call rfl]
 by_cases hr : C.right
 ·have hp : (C.p.fdiv (2 ^ 30) == 0) = true := by simpa using hr.2
  rw [if_pos hr, hr.1, show (!true) = false from rfl, zmp, show q5j.f C.p = some (C.p.fdiv (2 ^ 30) == 0) from rfl, Tr.val_call rfl, hp]
  rfl
 ·rw [if_neg hr]
  by_cases hb : okB C.line C.fields C.head C.body C.ext C.trailers C.wait C.idle = true
  ·have hp : (C.p.fdiv (2 ^ 30) == 0) = false := by
    have : ¬ C.p.fdiv (2 ^ 30) = 0 := fun hp => hr ⟨hb, hp⟩
    simpa using this
   rw [hb, show (!true) = false from rfl, zmp, show q5j.f C.p = some (C.p.fdiv (2 ^ 30) == 0) from rfl, Tr.val_call rfl, hp]
   rfl
  ·have hb : okB C.line C.fields C.head C.body C.ext C.trailers C.wait C.idle = false := by simpa using hb
   rw [hb]
   rfl
theorem zru (b : Bs) (f : Fs) (y : Bs) (t : Fs) (o : List Rec) : q3v.f b f y t o = some () := rfl
def PS.waiting (S : PS) : Bool := decide (S.err = 0) && S.waits
def PS.clean (S : PS) : Bool := decide (S.err = 0) && !S.begun
theorem zrv (S : PS) (b : Bs) (f : Fs) (y : Bs) (t : Fs) (o : List Rec) : q44.f S.waits S.err b f y t o = some S.waiting := by
 unfold q44.f q44.t PS.waiting
 rw [zqr]
 cases decide (S.err = 0) <;> rfl
theorem zrw (S : PS) (b : Bs) (f : Fs) (y : Bs) (t : Fs) (o : List Rec) : q3s.f S.begun S.err b f y t o = some S.clean := by
 unfold q3s.f q3s.t PS.clean
 rw [zqr]
 cases decide (S.err = 0) <;> rfl
def zrx (l : Fs) : Nat := (l.map fun f => f.1.length + f.2.length).sum
theorem zry {ρ : Type} (r : Nat -> ρ) (l : Fs) (n:Nat) : zit (fun n f => (Sum.inl (n + (f.1.length + f.2.length)) : Nat ⊕ ρ)) r n l = r (n + zrx l) := by
 induction l generalizing n with
 | nil => rfl
 | cons c l ih =>
  show zit _ r (n + (c.1.length + c.2.length)) l = _
  rw [ih]
  unfold zrx
  rw [List.map_cons, List.sum_cons]
  congr 1
  omega
theorem zrz {l : Fs} (h : FitF l) : q61.f l = some (zrx l:Int) := by
 have hL : q61.L3.f l 0 (l.length:Int) 0 = some (zrx l:Int) := by
  unfold q61.L3.f
  refine (ziv (A := Nat) (a := 0) l (fun k n => ((n:Int), (k:Int))) (fun k n => n <= 2000000 * k) (fun n f => .inl (n + (f.1.length + f.2.length))) (fun n => (n:Int)) ?_ ?_ (by have := h.1; omega) (Nat.le_refl _) rfl).trans ?_
  ·intro k n c hi hk hc
   have hf := h.2 c (hc ▸ List.getElem_mem hk)
   have hl := h.1
   have hw := wS (k := k) (by omega)
   refine ⟨?_, fun a' ha => by cases ha; omega⟩
   unfold q61.L3.t
   dsimp only
   rw [ifB _ _ (show decide ((k:Int) < (l.length:Int)) = decide (k < l.length) from zje), if_pos hk, Tr.val_chk (by omega)]
   simp only [Int.toNat_natCast, Nat.zero_add, ziw hk hc]
   rw [Tr.val_chk hk, vokl, hw, w64 (n := ((c.1.length:Int) + (c.2.length:Int))) (by omega) (by omega), w64 (by omega) (by omega)]
   show some _ = some _
   simp only [Int.natCast_add]
  ·intro n _
   unfold q61.L3.t
   dsimp only
   rw [ifB _ _ (show decide ((l.length:Int) < (l.length:Int)) = decide (l.length < l.length) from zje), if_neg (Nat.lt_irrefl _)]
   rfl
  ·rw [zry]; simp
 unfold q61.f q61.t
 rw [vokl, hL]
 rfl
theorem zs0 {l : Fs} (h : FitF l) : zrx l <= 2000000 * l.length := by
 have h2 := h.2
 clear h
 induction l with
 | nil => exact Nat.le_refl _
 | cons c l ih =>
  have := ih fun f hf => h2 f (List.mem_cons_of_mem _ hf)
  have h3 := h2 c (List.mem_cons_self ..)
  unfold zrx at this ⊢
  rw [List.map_cons, List.sum_cons, List.length_cons]
  omega
def PS.held (S : PS) : Nat := if S.err ≠ 0 then 0 else (if S.over = true then 0 else S.b.length) + (S.method.length + S.target.length + zrx S.fields + zrx S.trailers + S.body.length)
theorem zs1 {C : Cfg} {S : PS} (h : Small C S) (hm : S.method.length <= 1000000000 ∧ S.target.length <= 1000000000) (o : List Rec) : q41.f S.method S.target S.err S.over S.b S.fields S.body S.trailers o = some (S.held:Int) := by
 have h1 := zs0 h.fields
 have h2 := zs0 h.trailers
 have h3 := h.fields.1
 have h4 := h.trailers.1
 have hb := h.body
 have hbb := h.b
 unfold q41.f q41.t PS.held
 rw [zqs]
 by_cases he : S.err = 0
 ·rw [decide_eq_false (by simp [he]), zmp, if_neg (by simp [he]), vokl]
  have hz : q5s.f S.fields S.body S.trailers S.method S.target = some ((S.method.length + S.target.length + zrx S.fields + zrx S.trailers + S.body.length:Nat):Int) := by
   unfold q5s.f q5s.t
   rw [Tr.val_chk (by omega), zl4, zrz h.fields, Tr.val_call rfl, Tr.val_chk (by omega), zl4, zrz h.trailers, Tr.val_call rfl]
   show some _ = some _
   rw [w64 (n := ((S.method.length:Int) + (S.target.length:Int))) (by omega) (by omega), w64 (n := ((S.method.length:Int) + (S.target.length:Int)) + (zrx S.fields:Int)) (by omega) (by omega),
    w64 (n := ((S.method.length:Int) + (S.target.length:Int)) + (zrx S.fields:Int) + (zrx S.trailers:Int)) (by omega) (by omega), w64 (by omega) (by omega)]
   simp only [Int.natCast_add]
  have hy : q2a.f S.over S.b = some (((if S.over = true then 0 else S.b.length:Nat)):Int) := by
   unfold q2a.f q2a.t
   cases S.over <;> rfl
  rw [hy, Tr.val_call rfl, Tr.val_chk (by omega), Tr.val_chk (by omega), Tr.val_chk (by omega)]
  simp only [zl4]
  rw [hz, Tr.val_call rfl]
  repeat rw [vokl]
  show some _ = some _
  have : (if S.over = true then 0 else S.b.length) <= 4096 := by split <;> omega
  rw [w64 (by omega) (by omega)]
  simp only [Int.natCast_add]
 ·rw [decide_eq_true (by simpa using he), zmo, if_pos he]; rfl
end Pl
end Go.Vx
end
section
set_option maxRecDepth 100000
namespace Go.Vx
namespace Pl
open Go Go.Proofs
theorem zs2 {α β : Type} {o : Option β} {k : β -> Tr α} {y : β} {r : Option α} (h : o = some y) (hk : (k y).val = r) : (Tr.call o k).val = r := by subst h; exact hk
theorem zs3 {α : Type} {p : Prop} [Decidable p] {a : Tr α} {r : Option α} (h : p) (hk : a.val = r) : (Tr.chk p a).val = r := by rw [Tr.val_chk h]; exact hk
theorem go_t {α : Type} {b : Bool} {x y : Tr α} {r : Option α} (h : b = true) (hk : x.val = r) : (Tr.br b x y).val = r := by subst h; exact hk
theorem go_f {α : Type} {b : Bool} {x y : Tr α} {r : Option α} (h : b = false) (hk : y.val = r) : (Tr.br b x y).val = r := by subst h; exact hk
theorem zs4 {σ ρ : Type} {body : σ -> Tr (σ ⊕ ρ)} (N:Nat) (st : Nat -> σ) (r : ρ) (hs : ∀ k, k < N -> (body (st k)).val = some (.inl (st (k + 1)))) (he : (body (st N)).val = some (.inr r)) (hN : N < 1125899906842624) {s0 : σ} (h0 : s0 = st 0) : Loop body s0 = some r := by
 refine (ziv (A := Unit) (a := ()) (List.replicate N ()) (fun k _ => st k) (fun _ _ => True) (fun _ _ => .inl ()) (fun _ => r) ?_ ?_ (by simpa using hN) trivial h0).trans ?_
 ·intro k a c _ hk _
  exact ⟨hs k (by simpa using hk), fun _ _ => trivial⟩
 ·intro _ _
  simpa using he
 ·have : ∀ (m : List Unit), zit (fun (_ : Unit) (_ : Unit) => (Sum.inl () : Unit ⊕ ρ)) (fun _ => r) () m = r := by
   intro m
   induction m with
   | nil => rfl
   | cons c m ih => exact ih
  rw [this]
def zs5 (p:Int) : Cfg := ⟨p, 1024, 32, 8192, 65536, 32, 8, 4, 20, true, true⟩
theorem zs6 (p:Int) : zr2 (zs5 p) := ⟨(by decide : (64:Int) <= 1024 ∧ (1024:Int) <= 4096), (by decide : (0:Int) <= 32 ∧ (32:Int) <= 100), (by decide : (0:Int) <= 8 ∧ (8:Int) <= 100), (by decide : (0:Int) <= 8192 ∧ (8192:Int) <= 65536), (by decide : (0:Int) <= 65536 ∧ (65536:Int) <= 1048576)⟩
theorem zs7 : zqm (zs5 0) := zrq (by decide +kernel)
def zs8 : List Bs := [List.take (48:Nat) (List.drop (0:Nat) [(80:UInt8), (79:UInt8), (83:UInt8), (84:UInt8), (32:UInt8), (47:UInt8), (32:UInt8), (72:UInt8), (84:UInt8), (84:UInt8), (80:UInt8), (47:UInt8), (49:UInt8), (46:UInt8), (49:UInt8), (13:UInt8), (10:UInt8), (72:UInt8), (111:UInt8), (115:UInt8), (116:UInt8), (58:UInt8), (32:UInt8), (104:UInt8), (13:UInt8), (10:UInt8), (69:UInt8), (120:UInt8), (112:UInt8), (101:UInt8), (99:UInt8), (116:UInt8), (58:UInt8), (32:UInt8), (49:UInt8), (48:UInt8), (48:UInt8), (45:UInt8), (99:UInt8), (111:UInt8), (110:UInt8), (116:UInt8), (105:UInt8), (110:UInt8), (117:UInt8), (101:UInt8), (13:UInt8), (10:UInt8)]), List.take (21:Nat) (List.drop (0:Nat) [(67:UInt8), (111:UInt8), (110:UInt8), (116:UInt8), (101:UInt8), (110:UInt8), (116:UInt8), (45:UInt8), (76:UInt8), (101:UInt8), (110:UInt8), (103:UInt8), (116:UInt8), (104:UInt8), (58:UInt8), (32:UInt8), (50:UInt8), (13:UInt8), (10:UInt8), (13:UInt8), (10:UInt8)])]
end Pl
end Go.Vx
end
section
set_option maxRecDepth 100000
namespace Go.Vx
namespace Pl
open Go Go.Proofs
def PS.line (S : PS) : Bs := if S.over = true then [] else S.b
def PS.inc (S : PS) : Nat := if S.stage = 3 ∨ S.stage = 5 then 0 else 1
structure Ready (C : Cfg) (S : PS) : Prop where
 err : S.err = 0
 stage : ¬ (S.stage = 2 ∨ S.stage = 4)
 bad : S.bad = false
 pend : S.pend = false
def PS.add (S : PS) (l : Bs) : PS := { S with begun := true, waits := false, head := S.head + ((S.inc * l.length:Nat):Int), over := false, b := S.line ++ l }
def plain (l : Bs) : Prop := ∀ c ∈ l, c ≠ 13 ∧ c ≠ 10
instance (l : Bs) : Decidable (plain l) := inferInstanceAs (Decidable (∀ c ∈ l, c ≠ 13 ∧ c ≠ 10))
theorem z3w (S : PS) (l m : Bs) : (S.add l).add m = S.add (l ++ m) := by
 unfold PS.add PS.inc PS.line
 simp only [List.append_assoc, List.length_append, Nat.mul_add, Int.natCast_add, Bool.false_eq_true, if_false, Int.add_assoc]
end Pl
end Go.Vx
end
section
set_option maxRecDepth 100000
namespace Go.Vx
namespace Pl
open Go Go.Proofs
def PS.hd (S : PS) (lines head:Int) (fs : Fs) (e:Int) (b : Bs) : PS := { S with stage := 1, begun := true, waits := false, lines := lines, head := head, fields := fs, err := e, pend := false, over := true, bad := false, b := b }
end Pl
end Go.Vx
end
section
set_option maxRecDepth 100000
namespace Go.Vx
namespace Pl
open Go Go.Proofs
theorem zs9 (n b0 b1 b2 b3:Nat) (hn : 1 <= n) (h0 : 128 <= b0) (q0 : b0 < 256) :
  (Lib.decodeN n b0 b1 b2 b3).1 ≠ 32 ∧ (Lib.decodeN n b0 b1 b2 b3).1 ≠ 9 ∧ (Lib.decodeN n b0 b1 b2 b3).2 <= n ∧ (2 <= (Lib.decodeN n b0 b1 b2 b3).2 -> 128 <= b1) ∧ (3 <= (Lib.decodeN n b0 b1 b2 b3).2 -> 128 <= b2) ∧ (4 <= (Lib.decodeN n b0 b1 b2 b3).2 -> 128 <= b3) ∧ (Lib.decodeN n b0 b1 b2 b3).2 <= 4 := by
 unfold Lib.decodeN
 repeat' split
 all_goals (simp only; omega)
def zsa : Bs -> Bs -> List Bs
 | cur, [] => if cur = [] then [] else [cur]
 | cur, c :: l => if zj4 c = true then (if cur = [] then zsa [] l else cur :: zsa [] l) else zsa (cur ++ [c]) l
def zsb (l : Bs) : List Bs := zsa [] l
theorem zsc : ∀ (k:Nat) (cur l : Bs), k <= l.length -> (∀ j, j < k -> zj4 (l.getD j 0) = false) -> zsa cur l = zsa (cur ++ l.take k) (l.drop k)
 | 0, cur, l, _, _ => by simp
 | k + 1, cur, [], h, _ => by simp at h
 | k + 1, cur, c :: l, h, hz => by
  have h0 : zj4 c = false := hz 0 (by omega)
  rw [zsa, h0, if_neg (by simp), zsc k (cur ++ [c]) l (by simpa using h) (fun j hj => by have := hz (j + 1) (by omega); simpa using this)]
  simp
theorem zsd {c : UInt8} (h : 128 <= c.toNat) : zj4 c = false := by
 have := ziy (p := fun c => decide (c.toNat < 128) || !zj4 c) (by decide +kernel) c
 have h2 : decide (c.toNat < 128) = false := by rw [decide_eq_false_iff_not]; omega
 simpa [h2] using this
theorem zse (c:UInt8) : zim c.toNat = zj4 c := by
 have := ziy (p := fun c => zim c.toNat == zj4 c) (by decide +kernel) c
 simpa using this
theorem zsf {n : Nat} (h1 : n ≠ 32) (h2 : n ≠ 9) : zim n = false := by
 unfold zim
 simp [h1, h2]
theorem zsg (s : ByteArray) (pos:Nat) (h : pos < s.size) :
  pos + (Utf8.decode s pos).2 <= s.size ∧ ((zim (Utf8.decode s pos).1 = true ∧ (Utf8.decode s pos).2 = 1 ∧ zj4 (s.data.toList.getD pos 0) = true) ∨ (zim (Utf8.decode s pos).1 = false ∧ ∀ j, j < (Utf8.decode s pos).2 -> zj4 (s.data.toList.getD (pos + j) 0) = false)) := by
 rw [Lib.decode_at]
 simp only [← Lib.getD_get!']
 generalize hb0 : s.data.toList.getD pos 0 = c0
 generalize hb1 : s.data.toList.getD (pos + 1) 0 = c1
 generalize hb2 : s.data.toList.getD (pos + 2) 0 = c2
 generalize hb3 : s.data.toList.getD (pos + 3) 0 = c3
 have q0 := UInt8.toNat_lt c0
 by_cases hlo : c0.toNat < 128
 ·have e : Lib.decodeN (s.size - pos) c0.toNat c1.toNat c2.toNat c3.toNat = (c0.toNat, 1) := by unfold Lib.decodeN; rw [if_pos hlo]
  rw [e]
  refine ⟨by simp only; omega, ?_⟩
  simp only [zse]
  cases hc : zj4 c0 with
  | true => exact .inl (by simp)
  | false =>
   refine .inr ⟨by simp, fun j hj => ?_⟩
   obtain rfl : j = 0 := by omega
   rw [Nat.add_zero, hb0, hc]
 ·obtain ⟨f1, f2, f3, f4, f5, f6, f7⟩ := zs9 (s.size - pos) c0.toNat c1.toNat c2.toNat c3.toNat (by omega) (by omega) q0
  refine ⟨by omega, .inr ⟨zsf f1 f2, fun j hj => ?_⟩⟩
  match j, hj with
  | 0, _ => rw [Nat.add_zero, hb0]; exact zsd (by omega)
  | 1, hj => rw [hb1]; exact zsd (f4 (by omega))
  | 2, hj => rw [hb2]; exact zsd (f5 (by omega))
  | 3, hj => rw [hb3]; exact zsd (f6 (by omega))
  | j + 4, hj => omega
theorem zsh (s : ByteArray) : s.data.toList.length = s.size := by simp
theorem zsi (s : ByteArray) : ∀ (f pos:Nat) (st : Option Nat) (acc : List (Nat × Nat)), s.size <= pos + f -> pos <= s.size -> (∀ a, st = some a -> a < pos) ->
  (Lib.closeSpans s (Lib.spansFromP zim s f pos st acc)).map (fun p => Lib.pieceU s.data.toList p.1 p.2) = acc.map (fun p => Lib.pieceU s.data.toList p.1 p.2) ++ zsa (Lib.openPiece s.data.toList st pos) (s.data.toList.drop pos) := by
 have hend : ∀ (st : Option Nat) (acc : List (Nat × Nat)), (∀ a, st = some a -> a < s.size) -> (Lib.closeSpans s (acc, st)).map (fun p => Lib.pieceU s.data.toList p.1 p.2) = acc.map (fun p => Lib.pieceU s.data.toList p.1 p.2) ++ zsa (Lib.openPiece s.data.toList st s.size) (s.data.toList.drop s.size) := by
  intro st acc hst
  have hd : s.data.toList.drop s.size = [] := List.drop_eq_nil_of_le (by rw [zsh]; exact Nat.le_refl _)
  rw [hd]
  cases st with
  | none => simp [Lib.closeSpans, Lib.openPiece, zsa]
  | some a =>
   have := Lib.pieceU_ne s.data.toList a s.size (hst a rfl) (by rw [zsh]; exact Nat.le_refl _)
   simp [Lib.closeSpans, Lib.openPiece, zsa, this]
 intro f
 induction f with
 | zero =>
  intro pos st acc h hp hst
  obtain rfl : pos = s.size := by omega
  exact hend st acc hst
 | succ f ih =>
  intro pos st acc h hp hst
  by_cases hlt : pos < s.size
  ·have hw := Lib.width_pos s pos
   obtain ⟨hwn, hcase⟩ := zsg s pos hlt
   rw [Lib.spansFromP.eq_def]
   simp only [if_pos hlt]
   rcases hcase with ⟨hb, h1, hbl⟩ | ⟨hb, hbl⟩
   ·rw [hb, if_pos rfl, h1]
    have hd : s.data.toList.drop pos = s.data.toList.getD pos 0 :: s.data.toList.drop (pos + 1) := by
     rw [List.getD_eq_getElem?_getD, List.getElem?_eq_getElem (by rw [zsh]; exact hlt)]
     exact List.drop_eq_getElem_cons (by rw [zsh]; exact hlt)
    rw [hd, zsa.eq_2, hbl, if_pos rfl]
    cases st with
    | none => 
     simp only
     rw [ih (pos + 1) none acc (by omega) (by omega) (fun a h => by cases h)]
     simp [Lib.openPiece]
    | some a =>
     have hpn := Lib.pieceU_ne s.data.toList a pos (hst a rfl) (by rw [zsh]; omega)
     simp only
     rw [ih (pos + 1) none (acc ++ [(a, pos)]) (by omega) (by omega) (fun a h => by cases h)]
     simp [Lib.openPiece, hpn]
   ·rw [hb, if_neg (by simp)]
    have hk : (Utf8.decode s pos).2 <= (s.data.toList.drop pos).length := by rw [List.length_drop, zsh]; omega
    have hsk := zsc (Utf8.decode s pos).2 (Lib.openPiece s.data.toList st pos) (s.data.toList.drop pos) hk (fun j hj => by rw [Lib.getD_dropU]; exact hbl j hj)
    rw [hsk, List.drop_drop]
    cases st with
    | none =>
     simp only
     rw [ih (pos + (Utf8.decode s pos).2) (some pos) acc (by omega) hwn (fun a h => by cases h; omega)]
     have e : ([] : Bs) ++ (s.data.toList.drop pos).take (Utf8.decode s pos).2 = Lib.pieceU s.data.toList pos (pos + (Utf8.decode s pos).2) := by
      unfold Lib.pieceU
      rw [List.nil_append, Nat.add_sub_cancel_left]
     simp only [Lib.openPiece]
     rw [e]
    | some a =>
     simp only
     rw [ih (pos + (Utf8.decode s pos).2) (some a) acc (by omega) hwn (fun b h => by cases h; have := hst a rfl; omega)]
     simp only [Lib.openPiece]
     rw [Lib.pieceU_grow _ _ _ _ (Nat.le_of_lt (hst a rfl))]
  ·obtain rfl : pos = s.size := by omega
   rw [Lib.spansFromP_end _ _ _ _ _ _ hlt]
   exact hend st acc hst
theorem zsj (l : Bs) : q9d.fieldsOf l = zsb l := by
 have h := zsi ⟨l.toArray⟩ (ByteArray.size ⟨l.toArray⟩) 0 none [] (by omega) (Nat.zero_le _) (fun a h => by cases h)
 unfold q9d.fieldsOf Lib.goFieldsP Lib.spansOfP
 rw [List.map_map]
 refine Eq.trans ?_ (h.trans ?_)
 ·congr 1
  funext p
  simp [Lib.pieceU]
 ·simp [Lib.openPiece, zsb]
theorem zsk : ∀ (l cur : Bs), ((zsa cur l).map List.length).sum + (zsa cur l).length <= cur.length + l.length + 1
 | [], cur => by
  rw [zsa]
  split <;> simp
 | c :: l, cur => by
  rw [zsa]
  split
  ·have := zsk l []
   split
   ·simp only [List.length_nil, List.length_cons] at this ⊢; omega
   ·simp only [List.map_cons, List.sum_cons, List.length_nil, List.length_cons] at this ⊢; omega
  ·have := zsk l (cur ++ [c])
   simp only [List.length_append, List.length_cons, List.length_nil] at this ⊢
   omega
theorem zsl {l : List Bs} {x : Bs} (h : x ∈ l) : x.length <= (l.map List.length).sum := by
 induction l with
 | nil => simp at h
 | cons a l ih =>
  rw [List.map_cons, List.sum_cons]
  rcases List.mem_cons.1 h with rfl | h
  ·omega
  ·have := ih h; omega
theorem zsm (s : Bs) : ∀ x ∈ zsb s, x.length <= s.length := fun x hx => by
 have h1 := zsk s []
 have h2 := zsl hx
 have h3 : 0 < (zsb s).length := List.length_pos_iff.2 (List.ne_nil_of_mem hx)
 unfold zsb at h2 h3
 simp only [List.length_nil] at h1
 omega
theorem zsn (s : Bs) : znt s (zsb s) := by
 intro h
 have ht := zsk s []
 unfold zsb at h ⊢
 generalize zsa [] s = l at h ht ⊢
 match l, h with
 | a :: m, h =>
  rcases List.eq_nil_or_concat m with rfl | ⟨k, z, rfl⟩
  ·simp at h
  ·simp only [List.concat_eq_append] at h ht ⊢
   have e1 : (a :: (k ++ [z])).getD ((a :: (k ++ [z])).length - 1) [] = z := by
    simp [List.getD_eq_getElem?_getD]
   rw [e1]
   simp only [List.getD_cons_zero]
   simp only [List.map_cons, List.map_append, List.map_nil, List.sum_cons, List.sum_append, List.sum_nil, List.length_cons, List.length_append, List.length_nil] at ht h
   omega
theorem zso (C : Cfg) : zqm C := fun s hs => by
 have ht := zr0 s
 refine ⟨fun h3 => ⟨by omega, fun _ => ?_, ?_, ?_⟩, ?_⟩
 ·rw [zsj]; exact zsn _
 ·rw [zsj]; exact zsm _
 ·rw [zsj]
  have := zsk (trim s) []
  unfold zsb
  simp only [List.length_nil] at this
  omega
 ·have : (zns s C.p).2.1.length <= s.length := by
   unfold zns zno znn
   cases h3 : hasD C.p 3 with
   | true =>
    simp only [if_true]
    rw [zsj]
    have := zrp (p := C.p) (s := trim s) (l := zsb (trim s)) (zsm _)
    omega
   | false =>
    simp only [Bool.false_eq_true, if_false]
    exact zrp fun x hx => zll s.length (Nat.le_refl _) x hx
  omega
end Pl
end Go.Vx
end
section
set_option maxRecDepth 100000
namespace Go.Vx
namespace Pl
open Go Go.Proofs
def PS.tl (S : PS) (lines head:Int) (ts : Fs) (e:Int) (ov:Bool) (b : Bs) : PS := { S with stage := 6, begun := true, waits := false, lines := lines, head := head, trailers := ts, err := e, pend := false, over := ov, bad := false, b := b }
end Pl
end Go.Vx
end
section
set_option maxRecDepth 100000
namespace Go.Vx
namespace Pl
open Go Go.Proofs
theorem zsp : ∀ k : Nat, k < 30 -> hasD 0 (k:Int) = false := by decide +kernel
theorem zsq {α : Type} {p : α -> Bool} {l : List α} (h : ∀ c ∈ l, p c = false) : l.dropWhile p = l := by
 cases l with
 | nil => rfl
 | cons c l => rw [List.dropWhile_cons_of_neg (by rw [h c (List.mem_cons_self ..)]; simp)]
theorem zsr {α : Type} {p : α -> Bool} {l : List α} (h : ∀ c ∈ l, p c = false) : zjq p l = l := by
 unfold zjq
 rw [zsq fun c hc => h c (List.mem_reverse.1 hc), List.reverse_reverse]
theorem zss {p : UInt8 -> Bool} {l : Bs} (h : ∀ c ∈ l, p c = false) : zk3 p l = l := by
 unfold zk3
 rw [zsq h, zsr h]
theorem zst {l : Bs} (h : ∀ c ∈ l, zj4 c = false) : trim l = l := zss h
theorem zsu (c:UInt8) (h : zj2 c = true) : zj4 c = false := by
 have := ziy (p := fun c => !zj2 c || !zj4 c) (by decide +kernel) c
 simpa [h] using this
theorem zsv (b:Nat) (c:UInt8) (h : zjw b c = true) : zj4 c = false ∧ c ≠ 120 ∧ c ≠ 88 ∧ c ≠ 43 ∧ c ≠ 44 := by
 have h2 : zj7 c = true := by unfold zjw at h; simp only [Bool.and_eq_true] at h; exact h.1
 have := ziy (p := fun c => !zj7 c || (!zj4 c && c != 120 && c != 88 && c != 43 && c != 44)) (by decide +kernel) c
 simpa [h2, and_assoc] using this
theorem zsw {base : Nat} {most : Int} {s : Bs} (h : (zn5 (numS base most s)).2 = 0) : s ≠ [] ∧ s.all (zjw base) = true := by
 unfold numS at h
 split at h
 ·simp [zn5] at h
 ·rename_i hn
  exact ⟨fun e => hn (.inl e), by
   cases hs : s.all (zjw base) with
   | true => rfl
   | false => exact absurd (.inr hs) hn⟩
theorem zsx {s : Bs} {p body ext n : Int} (h : zn6 s 0 body ext = (n, 0)) : zn6 s p body ext = (n, 0) := by
 unfold zn6 at h ⊢
 split at h
 ·simp at h
 ·split at h
  ·simp at h
  ·rename_i h1 h2
   rw [if_neg h1, if_neg h2]
   rw [show hasD 0 28 = false from zsp 28 (by decide)] at h
   have e0 : zn4 0 (before 59 s) = before 59 s := by
    unfold zn4
    rw [show hasD 0 27 = false from zsp 27 (by decide), if_neg (by decide)]
   rw [if_neg (by decide), e0] at h
   obtain ⟨g1, g2⟩ := zsw (congrArg Prod.snd h)
   have hall : ∀ c ∈ before 59 s, zjw 16 c = true := List.all_eq_true.1 g2
   have ht : trim (before 59 s) = before 59 s := zst fun c hc => (zsv 16 c (hall c hc)).1
   rw [ht, ite_self]
   have e1 : zn4 p (before 59 s) = before 59 s := by
    unfold zn4
    have a1 : pre2 48 120 (before 59 s) = false := by
     unfold pre2
     split
     ·rename_i x y l hl
      have := (zsv 16 y (hall y (by rw [hl]; simp))).2.1
      simp [this]
     ·rfl
    have a2 : pre2 48 88 (before 59 s) = false := by
     unfold pre2
     split
     ·rename_i x y l hl
      have := (zsv 16 y (hall y (by rw [hl]; simp))).2.2.1
      simp [this]
     ·rfl
    rw [a1, a2]
    simp
   rw [e1]
   exact h
theorem zsy {s : Bs} {p : Int} (h : (zmv s 0).2.2.2 = 0) : zmv s p = zmv s 0 ∧ zn1 s p = false := by
 have n0 : zmu 0 (cutC 58 s).1 = (cutC 58 s).1 := by
  unfold zmu
  rw [show hasD 0 9 = false from zsp 9 (by decide), if_neg (by decide)]
 unfold zmv at h
 rw [n0, show hasD 0 10 = false from zsp 10 (by decide), show hasD 0 14 = false from zsp 14 (by decide)] at h
 split at h
 ·unfold outS at h
  rw [show hasD 0 11 = false from zsp 11 (by decide)] at h
  simp at h
 ·rename_i hc
  split at h
  ·unfold outS at h
   rw [show hasD 0 12 = false from zsp 12 (by decide)] at h
   simp at h
  ·rename_i hne
   split at h
   ·rename_i hok
    simp only [Bool.false_or, Bool.and_eq_true] at hok
    obtain ⟨k1, k2⟩ := hok
    have htok : ∀ c ∈ (cutC 58 s).1, zj2 c = true := List.all_eq_true.1 k1
    have np : zmu p (cutC 58 s).1 = (cutC 58 s).1 := by
     unfold zmu
     rw [zsr fun c hc => zsu c (htok c hc), ite_self]
    have hcon : s.contains 58 = true := by
     unfold cutC at hc
     cases hh : s.contains 58 with
     | true => rfl
     | false => rw [hh] at hc; simp at hc
    constructor
    ·unfold zmv
     rw [n0, np, if_neg hc, if_neg hne, if_pos (by rw [k1, k2]; simp), if_neg hc, if_neg hne, if_pos (by rw [k1, k2]; simp)]
    ·have e1 : (cutC 58 s).1 = before 58 s := by unfold cutC; rw [if_pos hcon]
     rw [e1] at hne htok
     have hs := zkb hcon
     unfold zn1
     cases hb : before 58 s with
     | nil => exact absurd hb hne
     | cons c l =>
      rw [hb, List.cons_append] at hs
      have hcb := zsu c (htok c (by rw [hb]; exact List.mem_cons_self ..))
      rw [hs]
      simp [hcb]
   ·simp at h
theorem zsz {p : Int} {l : Fs} {s : Bs} {e : Int} (h : (zpl 0 l s e).2 = 0) : zpl p l s e = zpl 0 l s e := by
 have h0 : ¬ (l ≠ [] ∧ zn1 s 0 = true) := by
  intro q
  have := q.2
  unfold zn1 at this
  rw [show hasD 0 13 = false from zsp 13 (by decide)] at this
  simp at this
 unfold zpl at h ⊢
 rw [if_neg h0] at h ⊢
 have hf : (zmv s 0).2.2.2 = 0 := by
  split at h <;> exact h
 obtain ⟨e1, e2⟩ := zsy (p := p) hf
 rw [if_neg (fun q => by rw [e2] at q; exact absurd q.2 (by decide)), e1]
theorem zt0 {s : Bs} (h : (zk5 32 s).length = 3) : ∃ a b v, zk5 32 s = [a, b, v] ∧ s = a ++ 32 :: (b ++ 32 :: v) := by
 by_cases h1 : s.contains 32 = true
 ·rw [zkg h1] at h ⊢
  by_cases h2 : (after 32 s).contains 32 = true
  ·rw [zkg h2] at h ⊢
   by_cases h3 : (after 32 (after 32 s)).contains 32 = true
   ·rw [zkg h3] at h
    have := zkh 32 (after 32 (after 32 (after 32 s)))
    cases hh : zk5 32 (after 32 (after 32 (after 32 s))) with
    | nil => exact absurd hh this
    | cons x l => rw [hh] at h; simp at h
   ·rw [zkf (by simpa using h3)]
    refine ⟨_, _, _, rfl, ?_⟩
    rw [← zkb h2]
    exact zkb h1
  ·rw [zkf (by simpa using h2)] at h
   simp at h
 ·rw [zkf (by simpa using h1)] at h
  simp at h
theorem zt1 {a b v : Bs} (ha : a ≠ []) (hb : b ≠ []) (hv : v ≠ []) (na : ∀ c ∈ a, zj4 c = false) (nb : ∀ c ∈ b, zj4 c = false) (nv : ∀ c ∈ v, zj4 c = false) :
  trim (a ++ 32 :: (b ++ 32 :: v)) = a ++ 32 :: (b ++ 32 :: v) ∧ zsb (a ++ 32 :: (b ++ 32 :: v)) = [a, b, v] := by
 have hgo : ∀ (x r : Bs), x ≠ [] -> (∀ c ∈ x, zj4 c = false) -> zsa [] (x ++ 32 :: r) = x :: zsa [] r := by
  intro x r hx nx
  rw [zsc x.length [] (x ++ 32 :: r) (by simp) (fun j hj => by
   rw [List.getD_eq_getElem?_getD, List.getElem?_append_left hj, List.getElem?_eq_getElem hj]
   exact nx _ (List.getElem_mem hj))]
  rw [List.nil_append, List.take_left, List.drop_left, zsa, show zj4 32 = true from rfl, if_pos rfl, if_neg hx]
 constructor
 ·unfold trim zk3
  have e1 : (a ++ 32 :: (b ++ 32 :: v)).dropWhile zj4 = a ++ 32 :: (b ++ 32 :: v) := by
   cases a with
   | nil => exact absurd rfl ha
   | cons c a => rw [List.cons_append, List.dropWhile_cons_of_neg (by rw [na c (List.mem_cons_self ..)]; simp)]
  rw [e1]
  rcases List.eq_nil_or_concat v with rfl | ⟨w, d, rfl⟩
  ·exact absurd rfl hv
  ·have : a ++ 32 :: (b ++ 32 :: w.concat d) = (a ++ 32 :: (b ++ 32 :: w)) ++ [d] := by simp
   rw [this, zjr, if_neg (by rw [nv d (by simp)]; simp)]
 ·unfold zsb
  rw [hgo a _ ha na, hgo b _ hb nb]
  have := zsc v.length [] v (Nat.le_refl _) (fun j hj => by
   rw [List.getD_eq_getElem?_getD, List.getElem?_eq_getElem hj]
   exact nv _ (List.getElem_mem hj))
  rw [this, List.drop_length, List.nil_append, List.take_length, zsa, if_neg hv]
theorem zt2 (c:UInt8) (h : zj3 c = true) : zj4 c = false := by
 have := ziy (p := fun c => !zj3 c || !zj4 c) (by decide +kernel) c
 simpa [h] using this
theorem zt3 (c:UInt8) (h : zj1 c = true) : zj4 c = false := by
 have := ziy (p := fun c => !zj1 c || !zj4 c) (by decide +kernel) c
 simpa [h] using this
theorem zt4 {v : Bs} {p : Int} {old : Bool} (hv : v ≠ []) (h : (zo5 v 0 old).2 = true) : zo5 v p old = zo5 v 0 old ∧ ∀ c ∈ v, zj4 c = false := by
 unfold zo5 at h
 rw [if_neg hv, show hasD 0 5 = false from zsp 5 (by decide), show hasD 0 4 = false from zsp 4 (by decide)] at h
 split at h
 ·simp at h
 ·rename_i h8
  split at h
  ·simp at h
  ·rename_i h7
   have hl : v.length = 8 := Classical.byContradiction fun q => h8 (.inl q)
   have hd : zj1 (v.getD 7 0) = true := by
    cases hh : zj1 (v.getD 7 0) with
    | true => rfl
    | false => exact absurd (.inr hh) h8
   have ht : v.take 7 = zo4 := Classical.byContradiction fun q => h7 ⟨q, by simp⟩
   have e : ∀ q, zo5 v q old = if v.getD 7 0 = 48 then (0, old) else if v.getD 7 0 = 49 then (1, true) else (1, hasD q 4) := by
    intro q
    unfold zo5
    rw [if_neg hv, if_neg h8, if_neg (fun r => r.1 ht)]
   constructor
   ·rw [e p, e 0]
    split
    ·rfl
    ·split
     ·rfl
     ·rename_i q1 q2
      rw [if_neg q1, if_neg q2] at h
      cases h
   ·intro c hc
    rw [← List.take_append_drop 7 v] at hc
    rcases List.mem_append.1 hc with hc | hc
    ·rw [ht] at hc
     exact (by decide : ∀ c ∈ zo4, zj4 c = false) c hc
    ·have hd7 : v.drop 7 = [v.getD 7 0] := by
      rw [List.drop_eq_getElem_cons (by omega), List.drop_eq_nil_of_le (by omega), List.getD_eq_getElem?_getD, List.getElem?_eq_getElem (by omega)]
      rfl
     rw [hd7] at hc
     simp only [List.mem_singleton] at hc
     subst hc
     exact zt3 _ hd
theorem zt5 {s m t : Bs} {p mi : Int} {old : Bool} (h : zo7 s 0 old = (m, t, mi, 0)) : zo7 s p old = (m, t, mi, 0) := by
 have h3 : hasD 0 3 = false := zsp 3 (by decide)
 have h7 : hasD 0 7 = false := zsp 7 (by decide)
 have h8 : hasD 0 8 = false := zsp 8 (by decide)
 have h6 : hasD 0 6 = false := zsp 6 (by decide)
 have e0 : zns s 0 = znr 0 s (zk5 32 s) := by
  unfold zns zno znn
  rw [h3]
  rfl
 have hp : (znr 0 s (zk5 32 s)).2.2.2 = 0 := by
  unfold zo7 at h
  rw [e0] at h
  split at h
  ·simp at h
  ·rename_i q; exact Classical.byContradiction fun e => q e
 have hlen : (zk5 32 s).any (· == []) = false ∧ (zk5 32 s).length = 3 := by
  unfold znr at hp
  rw [h7, h6] at hp
  split at hp
  ·simp at hp
  ·rename_i ha
   split at hp
   ·rename_i hl
    refine ⟨?_, hl⟩
    cases hh : (zk5 32 s).any (· == []) with
    | false => rfl
    | true => exact absurd hh ha
   ·simp at hp
 obtain ⟨hany, hl3⟩ := hlen
 obtain ⟨a, b, v, hs, hsp⟩ := zt0 hl3
 rw [hs] at hany hl3 e0
 have hne : a ≠ [] ∧ b ≠ [] ∧ v ≠ [] := by
  simp only [List.any_cons, List.any_nil, Bool.or_false, Bool.or_eq_false_iff, beq_eq_false_iff_ne] at hany
  exact ⟨hany.1, hany.2.1, hany.2.2⟩
 have part3 : ∀ q x, znr q x [a, b, v] = (a, b, v, 0) := by
  intro q x
  unfold znr
  rw [if_neg (by rw [hany]; simp), if_pos (show [a, b, v].length = 3 from rfl)]
  rfl
 unfold zo7 at h
 rw [e0, part3] at h
 simp only at h
 rw [if_neg (by simp)] at h
 split at h
 ·simp at h
 ·rename_i hc
  split at h
  ·simp at h
  ·rename_i hm
   have htok : a.all zj2 = true := by
    cases hh : a.all zj2 with
    | true => rfl
    | false => exact absurd (.inr (.inr (.inl hh))) hc
   have hgo : zo1 a b 0 = true := by
    cases hh : zo1 a b 0 with
    | true => rfl
    | false => exact absurd (.inr (.inr (.inr hh))) hc
   have hmi : (zo5 v 0 old).2 = true := by
    cases hh : (zo5 v 0 old).2 with
    | true => rfl
    | false => exact absurd hh hm
   obtain ⟨me, nv⟩ := zt4 (p := p) hne.2.2 hmi
   unfold zo1 at hgo
   rw [h7, h8] at hgo
   simp only [Bool.and_eq_true, Bool.false_or] at hgo
   have hvis : ∀ c ∈ b, zj3 c = true := by
    intro c hc'
    have := List.all_eq_true.1 hgo.1.1 c hc'
    unfold zo0 at this
    simpa using this
   have na : ∀ c ∈ a, zj4 c = false := fun c hc' => zsu c (List.all_eq_true.1 htok c hc')
   have nb : ∀ c ∈ b, zj4 c = false := fun c hc' => zt2 c (hvis c hc')
   have ep : zns s p = (a, b, v, 0) := by
    unfold zns zno znn
    cases hp3 : hasD p 3 with
    | true =>
     simp only [if_true]
     rw [zsj, hsp, (zt1 hne.1 hne.2.1 hne.2.2 na nb nv).1, (zt1 hne.1 hne.2.1 hne.2.2 na nb nv).2]
     exact part3 _ _
    | false =>
     simp only [Bool.false_eq_true, if_false]
     rw [hs]
     exact part3 _ _
   have hgp : zo1 a b p = true := by
    unfold zo1
    have h1 : b.all (zo0 (hasD p 7) (hasD p 8)) = true := List.all_eq_true.2 fun c hc' => by unfold zo0; rw [hvis c hc']; simp
    rw [h1, hgo.1.2, hgo.2]
    simp
   unfold zo7
   rw [ep]
   simp only
   rw [if_neg (by simp), if_neg (fun q => by
    rcases q with q | q | q | q
    ·exact hc (.inl q)
    ·exact hc (.inr (.inl q))
    ·exact hc (.inr (.inr (.inl q)))
    ·rw [hgp] at q; cases q), me, if_neg hm]
   exact h
end Pl
end Go.Vx
end
section
set_option maxRecDepth 100000
namespace Go.Vx
namespace Pl
open Go Go.Proofs
theorem zt6 (c:UInt8) (h : zok.contains (zj8 c) = true) : zj4 c = false ∧ zol c = false := by
 have := ziy (p := fun c => !zok.contains (zj8 c) || (!zj4 c && !zol c)) (by decide +kernel) c
 simp only [h, Bool.not_true, Bool.false_or] at this
 simpa using this
theorem zt7 {l : List Bs} {a : Bs} (h1 : l.length = 1) (h2 : l.any (· == a) = true) : l = [a] := by
 match l, h1 with
 | [x], _ => simpa using h2
theorem zt8 {v : List Bs} {p : Int} (h : zoo v 0 = true) : zoo v p = true := by
 unfold zoo zon at h ⊢
 rw [show hasD 0 18 = false from zsp 18 (by decide), Bool.or_false] at h
 simp only [Bool.and_eq_true, decide_eq_true_eq] at h
 have e := zt7 h.1.2 h.2.1
 have hl1 : (zk6 v).length = 1 := by have := h.1.2; simpa using this
 obtain ⟨s, hs⟩ : ∃ s, zk6 v = [s] := by
  match hv : zk6 v, hl1 with
  | [x], _ => exact ⟨x, rfl⟩
 rw [hs] at e ⊢
 simp only [List.map_cons, List.map_nil, List.cons.injEq, and_true] at e
 unfold zom at e
 rw [show hasD 0 17 = false from zsp 17 (by decide), if_neg (by decide)] at e
 have hb : ∀ c ∈ s, zol c = false := by
  intro c hc
  refine (zt6 c ?_).2
  have : zj8 c ∈ zk2 s := List.mem_map_of_mem hc
  rw [e] at this
  simpa using this
 have e2 : zom p s = zok := by
  unfold zom
  rw [zss hb, ite_self, e]
 simp only [List.map_cons, List.map_nil, e2]
 cases hasD p 18 <;> decide
theorem zt9 {v : List Bs} {p body n : Int} (h : zp1 v 0 body = (n, 0)) : zp1 v p body = (n, 0) := by
 unfold zp1 at h ⊢
 rw [show hasD 0 24 = false from zsp 24 (by decide), if_neg (by decide)] at h
 unfold zp0 at h
 split at h
 ·rename_i h0
  have : v = [] := List.length_eq_zero_iff.1 h0
  subst this
  rw [show (if hasD p 24 = true then zk6 [] else ([] : List Bs)) = [] by cases hasD p 24 <;> rfl]
  exact h
 ·rename_i h0
  unfold zox at h
  rw [show hasD 0 24 = false from zsp 24 (by decide), show hasD 0 25 = false from zsp 25 (by decide), show hasD 0 26 = false from zsp 26 (by decide)] at h
  split at h
  ·rename_i h1
   have h1 : v.length = 1 := by
    rcases h1 with q | q | q
    ·exact q
    ·exact absurd q.2 (by decide)
    ·exact absurd q (by decide)
   obtain ⟨s, hs⟩ : ∃ s, v = [s] := by
    match v, h1 with
    | [x], _ => exact ⟨x, rfl⟩
   subst hs
   unfold zoz at h
   simp only [List.getD_cons_zero] at h
   have p0 : zoy 0 s = s := by
    unfold zoy
    rw [show hasD 0 23 = false from zsp 23 (by decide), if_neg (by simp)]
   rw [p0] at h
   obtain ⟨g1, g2⟩ := zsw (congrArg Prod.snd h)
   have hall : ∀ c ∈ s, zjw 10 c = true := List.all_eq_true.1 g2
   have hl : zk6 [s] = [s] := by
    unfold zk6
    have hc : s.contains 44 = false := by
     cases hh : s.contains 44 with
     | false => rfl
     | true => exact absurd rfl (zsv 10 44 (hall 44 (by simpa using hh))).2.2.2.2
    simp [zkf hc, zst fun c hc' => (zsv 10 c (hall c hc')).1]
   rw [hl, ite_self]
   unfold zp0 zox
   rw [if_neg (by simp), if_pos (.inl rfl)]
   unfold zoz
   simp only [List.getD_cons_zero]
   have pp : zoy p s = s := by
    unfold zoy
    have : zm4 43 s = false := by
     unfold zm4
     split
     ·rename_i x l _
      have := (zsv 10 x (hall x (by simp))).2.2.2.1
      simpa using this
     ·rfl
    rw [this, if_neg (by simp)]
   rw [pp]
   exact h
  ·split at h
   ·rename_i q; exact absurd q (by decide)
   ·unfold zoz at h
    simp at h
theorem zta {b0 bp c : Bool} (hb : b0 = true -> bp = true) (h : (if b0 = false then (400:Int) else if c = true then 400 else 0) = 0) : (if bp = false then (400:Int) else if c = true then 400 else 0) = 0 := by
 cases b0 with
 | false => simp at h
 | true => rw [hb rfl]; simpa using h
theorem ztb {l : List Bs} {p minor : Int} (h : zoh 0 minor l = 0) : zoh p minor l = 0 := by
 unfold zoh at h ⊢
 refine zta ?_ h
 rw [show hasD 0 15 = false from zsp 15 (by decide), show hasD 0 16 = false from zsp 16 (by decide)]
 intro q
 by_cases h0 : l.length = 0
 ·rw [if_pos h0] at q ⊢
  rw [Bool.or_false] at q
  rw [q]; rfl
 ·rw [if_neg h0] at q ⊢
  by_cases h1 : l.length = 1
  ·rw [if_pos h1]
  ·rw [if_neg h1] at q; cases q
theorem ztc {l : Fs} {p body minor k n : Int} {ch : Bool} (h : zpa l 0 body ch minor = (k, n, 0)) : zpa l p body ch minor = (k, n, 0) := by
 unfold zpa at h ⊢
 have fx : zp8 (zp1 (zk7 l zp6) 0 body) = (k, n, 0) -> zp8 (zp1 (zk7 l zp6) p body) = (k, n, 0) := by
  intro q
  have : ∃ m, zp1 (zk7 l zp6) 0 body = (m, 0) := by
   unfold zp8 at q
   split at q
   ·rename_i z
    exact absurd (congrArg (fun x => x.2.2) q) z
   ·rename_i z
    exact ⟨(zp1 (zk7 l zp6) 0 body).1, Prod.ext rfl (Classical.byContradiction z)⟩
  obtain ⟨m, hm⟩ := this
  rw [zt9 hm, ← hm]
  exact q
 split at h
 ·rename_i z
  exact absurd (congrArg (fun x => x.2.2) h) z
 ·rename_i z
  have hz : zoi l 0 minor = 0 := Classical.byContradiction z
  have hp : zoi l p minor = 0 := ztb hz
  rw [if_neg (by simp [hp])]
  split at h
  ·rename_i ht
   rw [if_pos ht]
   unfold zp9 at h ⊢
   rw [show hasD 0 19 = false from zsp 19 (by decide), show hasD 0 20 = false from zsp 20 (by decide), show hasD 0 21 = false from zsp 21 (by decide), show hasD 0 22 = false from zsp 22 (by decide)] at h
   generalize decide (minor = 0) = m0 at h ⊢
   generalize decide ((zk7 l zp6).length = 0) = cl0 at h ⊢
   cases m0 with
   | true => simp at h
   | false =>
    cases hc : zoo (zk7 l zp5) 0 with
    | false => rw [hc] at h; simp at h
    | true =>
     rw [hc] at h
     rw [zt8 hc]
     cases cl0 with
     | false => simp at h
     | true =>
      cases ch with
      | false => simp at h
      | true => simpa using h
  ·rename_i ht
   rw [if_neg ht]
   exact fx h
def Cfg.by (C : Cfg) (p:Int) : Cfg := { C with p := p }
theorem ztd {C : Cfg} {S : PS} {c : UInt8} {p : Int} (h : (S.lineB (C.by 0) c).2 < 2) : S.lineB (C.by p) c = S.lineB (C.by 0) c := by
 unfold PS.lineB at h ⊢
 rw [show hasD (C.by 0).p 2 = false from zsp 2 (by decide), show hasD (C.by 0).p 1 = false from zsp 1 (by decide)] at h ⊢
 split
 ·rfl
 ·rename_i h1
  rw [if_neg h1] at h
  split
  ·rename_i h2
   rw [if_pos h2] at h
   split
   ·rfl
   ·rename_i h3
    rw [if_neg h3, if_neg (by decide)] at h
    exact absurd h (by simp)
  ·rename_i h2
   rw [if_neg h2] at h
   split
   ·rfl
   ·rename_i h3
    rw [if_neg h3] at h
    split
    ·rename_i h4
     rw [if_pos h4, if_neg (by decide)] at h
     exact absurd h (by simp)
    ·rfl
theorem zte {C : Cfg} {S : PS} {c : UInt8} : (S.lineB (C.by 0) c).2 = 0 ∨ (S.lineB (C.by 0) c).2 = 1 ∨ (S.lineB (C.by 0) c).2 = 3 ∨ (S.lineB (C.by 0) c).2 = 4 := by
 unfold PS.lineB
 rw [show hasD (C.by 0).p 2 = false from zsp 2 (by decide), show hasD (C.by 0).p 1 = false from zsp 1 (by decide)]
 repeat' split
 all_goals first
  | exact absurd (by assumption) (by decide : ¬ (false = true))
  | simp
theorem ztf {s : Bs} {p : Int} {old : Bool} (h : (zo7 s 0 old).2.2.2 = 0) : zo7 s p old = zo7 s 0 old := by
 have e : zo7 s 0 old = ((zo7 s 0 old).1, (zo7 s 0 old).2.1, (zo7 s 0 old).2.2.1, 0) := Prod.ext rfl (Prod.ext rfl (Prod.ext rfl h))
 rw [zt5 e, ← e]
theorem ztg {s : Bs} {p body ext : Int} (h : (zn6 s 0 body ext).2 = 0) : zn6 s p body ext = zn6 s 0 body ext := by
 have e : zn6 s 0 body ext = ((zn6 s 0 body ext).1, 0) := Prod.ext rfl h
 rw [zsx e, ← e]
theorem zth {l : Fs} {p body minor : Int} {ch : Bool} (h : (zpa l 0 body ch minor).2.2 = 0) : zpa l p body ch minor = zpa l 0 body ch minor := by
 have e : zpa l 0 body ch minor = ((zpa l 0 body ch minor).1, (zpa l 0 body ch minor).2.1, 0) := Prod.ext rfl (Prod.ext rfl h)
 rw [ztc e, ← e]
theorem zti {C : Cfg} {S : PS} {p : Int} {s : Bs} (he : (S.request (C.by 0) s).err = 0) : S.request (C.by p) s = S.request (C.by 0) s := by
 unfold PS.request at he ⊢
 have hq : ¬ (s = [] ∧ hasD (C.by 0).p 0 = true) := fun q => absurd q.2 (by rw [show hasD (C.by 0).p 0 = false from zsp 0 (by decide)]; decide)
 rw [if_neg hq] at he ⊢
 have he' : (zo7 s 0 C.old).2.2.2 = 0 := he
 have hne : s ≠ [] := by
  intro q
  subst q
  generalize C.old = o at he'
  revert he'
  cases o <;> decide +kernel
 rw [if_neg fun q => hne q.1]
 have := ztf (p := p) he'
 rw [show zo7 s (C.by p).p (C.by p).old = zo7 s (C.by 0).p (C.by 0).old from this]
theorem ztj {C : Cfg} {S : PS} {p : Int} {s : Bs} (he : (S.fieldF (C.by 0) s).err = 0) : S.fieldF (C.by p) s = S.fieldF (C.by 0) s := by
 unfold PS.fieldF at he ⊢
 by_cases h : S.lines + 1 > C.fields
 ·rw [if_pos (show S.lines + 1 > (C.by p).fields from h), if_pos (show S.lines + 1 > (C.by 0).fields from h)]
 ·rw [if_neg (show ¬ S.lines + 1 > (C.by 0).fields from h)] at he ⊢
  rw [if_neg (show ¬ S.lines + 1 > (C.by p).fields from h)]
  rw [show zpl (C.by p).p S.fields s S.err = zpl (C.by 0).p S.fields s S.err from zsz he]
theorem ztk {C : Cfg} {S : PS} {p : Int} {s : Bs} (he : (S.fieldT (C.by 0) s).err = 0) : S.fieldT (C.by p) s = S.fieldT (C.by 0) s := by
 unfold PS.fieldT at he ⊢
 by_cases h : S.lines + 1 > C.trailers
 ·rw [if_pos (show S.lines + 1 > (C.by p).trailers from h), if_pos (show S.lines + 1 > (C.by 0).trailers from h)]
 ·rw [if_neg (show ¬ S.lines + 1 > (C.by 0).trailers from h)] at he ⊢
  rw [if_neg (show ¬ S.lines + 1 > (C.by p).trailers from h)]
  rw [show zpl (C.by p).p S.trailers s S.err = zpl (C.by 0).p S.trailers s S.err from zsz he]
theorem ztl {C : Cfg} {S : PS} {p : Int} {s : Bs} (he : (S.chunk (C.by 0) s).err = 0) : S.chunk (C.by p) s = S.chunk (C.by 0) s := by
 unfold PS.chunk at he ⊢
 simp only at he ⊢
 have hz : (zn6 s (C.by 0).p (C.by 0).body (C.by 0).ext).2 = 0 := by
  refine Classical.byContradiction fun q => ?_
  rw [if_pos q] at he
  exact q he
 rw [show zn6 s (C.by p).p (C.by p).body (C.by p).ext = zn6 s (C.by 0).p (C.by 0).body (C.by 0).ext from ztg hz]
 rfl
theorem ztm {C : Cfg} {S : PS} {p : Int} (he : (S.framed (C.by 0)).err = 0) : S.framed (C.by p) = S.framed (C.by 0) := by
 unfold PS.framed at he ⊢
 simp only at he ⊢
 have hz : (zpa S.fields (C.by 0).p (C.by 0).body (C.by 0).chunked S.minor).2.2 = 0 := by
  refine Classical.byContradiction fun q => ?_
  rw [if_pos q] at he
  exact q he
 rw [show zpa S.fields (C.by p).p (C.by p).body (C.by p).chunked S.minor = zpa S.fields (C.by 0).p (C.by 0).body (C.by 0).chunked S.minor from zth hz]
 rfl
theorem ztn {C : Cfg} {S : PS} {p : Int} (he : (S.ended (C.by 0)).err = 0) : S.ended (C.by p) = S.ended (C.by 0) := by
 unfold PS.ended at he ⊢
 by_cases h0 : S.stage = 0
 ·rw [if_pos h0] at he
  rw [if_pos h0, if_pos h0]
  exact zti he
 ·rw [if_neg h0] at he
  rw [if_neg h0, if_neg h0]
  by_cases h1 : S.stage = 1
  ·rw [if_pos h1] at he
   rw [if_pos h1, if_pos h1]
   by_cases h2 : S.lineS = []
   ·rw [if_pos h2] at he
    rw [if_pos h2, if_pos h2]
    exact ztm he
   ·rw [if_neg h2] at he
    rw [if_neg h2, if_neg h2]
    exact ztj he
  ·rw [if_neg h1] at he
   rw [if_neg h1, if_neg h1]
   by_cases h3 : S.stage = 3
   ·rw [if_pos h3] at he
    rw [if_pos h3, if_pos h3]
    exact ztl he
   ·rw [if_neg h3] at he
    rw [if_neg h3, if_neg h3]
    by_cases h5 : S.stage = 5
    ·rw [if_pos h5, if_pos h5]; rfl
    ·rw [if_neg h5] at he
     rw [if_neg h5, if_neg h5]
     by_cases h6 : S.stage = 6
     ·rw [if_pos h6] at he
      rw [if_pos h6, if_pos h6]
      by_cases h2 : S.lineS = []
      ·rw [if_pos h2, if_pos h2]; rfl
      ·rw [if_neg h2] at he
       rw [if_neg h2, if_neg h2]
       exact ztk he
     ·rw [if_neg h6, if_neg h6]
theorem zto {rec : PS -> UInt8 -> Bool -> PS} {C : Cfg} {S : PS} {c : UInt8} : (S.longG rec (C.by 0) c).err ≠ 0 := by
 unfold PS.longG
 rw [show hasD (C.by 0).p 29 = false from zsp 29 (by decide)]
 repeat' split
 all_goals first
  | exact absurd (by assumption) Bool.false_ne_true
  | simp [PS.fail]
theorem ztp {r0 rp : PS -> UInt8 -> Bool -> PS} {C : Cfg} {S : PS} {c : UInt8} {p : Int} (he : (S.tailG r0 (C.by 0) c (S.lineB (C.by 0) c)).err = 0) :
  S.tailG rp (C.by p) c (S.lineB (C.by p) c) = S.tailG r0 (C.by 0) c (S.lineB (C.by 0) c) := by
 rcases zte (C := C) (S := S) (c := c) with h | h | h | h
 ·rw [ztd (p := p) (by rw [h]; decide)]
  unfold PS.tailG
  simp [h]
 ·rw [ztd (p := p) (by rw [h]; decide)]
  unfold PS.tailG at he ⊢
  rw [if_pos h] at he
  rw [if_pos h, if_pos h]
  exact ztn he
 ·exfalso
  unfold PS.tailG at he
  rw [if_neg (by rw [h]; decide), if_neg (by rw [h]; decide), if_neg (by rw [h]; decide), if_pos h] at he
  exact absurd he (by simp [PS.fail])
 ·exfalso
  unfold PS.tailG at he
  rw [if_neg (by rw [h]; decide), if_neg (by rw [h]; decide), if_pos h] at he
  exact zto he
theorem ztq {C : Cfg} {S : PS} {c : UInt8} {p : Int} {k : Bool} (he : (S.step (C.by 0) c k).err = 0) : S.step (C.by p) c k = S.step (C.by 0) c k := by
 unfold PS.step PS.stepG at he ⊢
 by_cases h0 : S.err ≠ 0
 ·rw [if_pos h0, if_pos h0]
 ·rw [if_neg h0] at he
  rw [if_neg h0, if_neg h0]
  by_cases h1 : S.stage = 2 ∨ S.stage = 4
  ·rw [if_pos h1, if_pos h1]; rfl
  ·rw [if_neg h1] at he
   rw [if_neg h1, if_neg h1]
   by_cases h2 : k = true
   ·rw [if_pos h2] at he
    rw [if_pos h2, if_pos h2]
    rw [show S.mark.counted (C.by p) = S.mark.counted (C.by 0) from rfl]
    by_cases h3 : (S.mark.counted (C.by 0)).2 = false
    ·rw [if_pos h3, if_pos h3]
    ·rw [if_neg h3] at he
     rw [if_neg h3, if_neg h3]
     exact ztp he
   ·rw [if_neg h2] at he
    rw [if_neg h2, if_neg h2]
    exact ztp he
end Pl
end Go.Vx
end
section
set_option maxRecDepth 100000
namespace Go.Vx
namespace Pl
open Go Go.Proofs
def Has {α : Type} (t : Tr α) (P : α -> Prop) : Prop := ∃ y, t.val = some y ∧ P y
theorem ztr {α : Type} {y : α} {P : α -> Prop} (h : P y) : Has (.ret y) P := ⟨y, rfl, h⟩
theorem zts {α : Type} {p : Prop} [Decidable p] {a : Tr α} {P : α -> Prop} (h : p) (hk : Has a P) : Has (.chk p a) P := by
 obtain ⟨y, h1, h2⟩ := hk
 exact ⟨y, zs3 h h1, h2⟩
theorem ztt {α : Type} {n : Nat} {a : Tr α} {P : α -> Prop} (hk : Has a P) : Has (.okl n a) P := hk
theorem ztu {α : Type} {b : Bool} {x y : Tr α} {P : α -> Prop} (h1 : b = true -> Has x P) (h2 : b = false -> Has y P) : Has (.br b x y) P := by
 cases b with
 | true => exact h1 rfl
 | false => exact h2 rfl
theorem ztv {α β : Type} {o : Option β} {k : β -> Tr α} {Q : β -> Prop} {P : α -> Prop} (h : ∃ y, o = some y ∧ Q y) (hk : ∀ y, Q y -> Has (k y) P) : Has (.call o k) P := by
 obtain ⟨y, h1, h2⟩ := h
 obtain ⟨z, h3, h4⟩ := hk y h2
 exact ⟨z, zs2 h1 h3, h4⟩
theorem ztw {l : List Bs} {n i : Nat} (h : ∀ x ∈ l, x.length <= n) : (l.getD i []).length <= n := by
 rw [List.getD_eq_getElem?_getD]
 cases e : l[i]? with
 | none => simp
 | some x => exact h x (List.mem_of_getElem? e)
theorem tm {b : Int} (n:Int) (h : 0 <= b) (hn : 0 < n) : 0 <= b.tmod n ∧ b.tmod n < n := ⟨Int.tmod_nonneg n h, Int.tmod_lt_of_pos b hn⟩
theorem ztx (n:Int) : 0 <= IntKind.u8.wrap n ∧ IntKind.u8.wrap n < 256 := by
 unfold IntKind.wrap
 simp only [IntKind.signed, IntKind.bits]
 simp
 omega
theorem zty {a b : Int} (ha : 0 <= a) (hb : 0 <= b) : ∃ y, q7s.f a b = some y ∧ y.length <= 200 := by
 have m1 := tm 12 hb (by decide)
 have m2 := tm 8 ha (by decide)
 have m3 := tm 4 hb (by decide)
 have m4 := tm 6 ha (by decide)
 have t1 : (q7s.tb0_1 b).length <= 40 := ztw (by decide)
 have t2 : (q7s.tb0_2 a).length <= 40 := ztw (by decide)
 have t3 : (q7s.tb0_3 a).length <= 40 := ztw (by decide)
 have t4 : (q7s.tb0_4 b).length <= 40 := ztw (by decide)
 have k1 : Has (q7s.k1 a b) fun y => y.length <= 200 := by
  unfold q7s.k1
  generalize q7s.tb0_1 b = T1 at t1 ⊢
  generalize q7s.tb0_2 a = T2 at t2 ⊢
  generalize q7s.tb0_3 a = T3 at t3 ⊢
  generalize q7s.tb0_4 b = T4 at t4 ⊢
  repeat' (with_reducible first | apply ztu <;> intro _ | refine zts ?_ ?_ | apply ztt | apply ztr | (first | (simp only [List.length_append, List.length_cons, List.length_nil]; omega) | omega | exact ztw (by decide)))
 have k2 : Has (q7s.k2 a b) fun y => y.length <= 200 := by
  unfold q7s.k2
  generalize q7s.tb0_1 b = T1 at t1 ⊢
  generalize q7s.tb0_2 a = T2 at t2 ⊢
  generalize q7s.tb0_3 a = T3 at t3 ⊢
  generalize q7s.tb0_4 b = T4 at t4 ⊢
  repeat' (with_reducible first | apply ztu <;> intro _ | refine zts ?_ ?_ | apply ztt | apply ztr | (first | (simp only [List.length_append, List.length_cons, List.length_nil]; omega) | omega | exact ztw (by decide)))
 have k3 : Has (q7s.k3 a b) fun y => y.length <= 200 := by
  unfold q7s.k3
  generalize q7s.tb0_1 b = T1 at t1 ⊢
  generalize q7s.tb0_2 a = T2 at t2 ⊢
  generalize q7s.tb0_3 a = T3 at t3 ⊢
  generalize q7s.tb0_4 b = T4 at t4 ⊢
  repeat' (with_reducible first | apply ztu <;> intro _ | refine zts ?_ ?_ | apply ztt | apply ztr | (first | (simp only [List.length_append, List.length_cons, List.length_nil]; omega) | omega | exact ztw (by decide)))
 show Has (q7s.t a b) _
 unfold q7s.t
 repeat' (with_reducible first | exact k1 | exact k2 | exact k3 | apply ztu <;> intro _ | refine zts ?_ ?_ | (first | (simp only [List.length_append, List.length_cons, List.length_nil]; omega) | omega | exact ztw (by decide)))
theorem ztz {k : Int} (hk : 0 <= k) : ∃ y, q7m.f k = some y ∧ y.length <= 4 := by
 have m3 := tm 4 hk (by decide)
 show Has (q7m.t k) _
 unfold q7m.t
 repeat' (with_reducible first | apply ztu <;> intro _ | refine zts ?_ ?_ | apply ztt | apply ztr | (first | (simp only [List.length_append, List.length_cons, List.length_nil]; omega) | omega | exact ztw (by decide)))
theorem zu0 {a b : Int} (hb : 0 <= b ∧ b < 256) : ∃ y, q7p.f a b = some y ∧ y.length <= 60 := by
 have m1 := tm 16 hb.1 (by decide)
 have m2 := tm 22 hb.1 (by decide)
 show Has (q7p.t a b) _
 unfold q7p.t
 rw [w64 (n := b) (by omega) (by omega)]
 repeat' (with_reducible first | apply ztu <;> intro _ | refine zts ?_ ?_ | apply ztt | apply ztr | (first | (simp only [List.length_append, List.length_cons, List.length_nil]; omega) | omega | exact ztw (by decide)))
def zu1 (o : Option Bs) : Bool := match o with
 | some y => decide (y.length <= 3)
 | none => false
theorem zu2 {o : Option Bs} (h : zu1 o = true) : ∃ y, o = some y ∧ y.length <= 3 := by
 cases o with
 | none => cases h
 | some y => exact ⟨y, rfl, by simpa [zu1] using h⟩
theorem zu3 : ((List.range 27).all fun m => zu1 (q6d.f (m:Int)) && zu1 (q6g.f (m:Int))) = true := by decide +kernel
theorem zu4 {m : Nat} (h : m <= 26) : (∃ y, q6d.f (m:Int) = some y ∧ y.length <= 3) ∧ ∃ y, q6g.f (m:Int) = some y ∧ y.length <= 3 := by
 have := List.all_eq_true.1 zu3 m (List.mem_range.2 (by omega))
 simp only [Bool.and_eq_true] at this
 exact ⟨zu2 this.1, zu2 this.2⟩
theorem zu5 (l : Bs) {i : Int} (hi : 0 <= i) : ∃ y, q7y.f l i = some y ∧ 0 <= y ∧ y < 256 := by
 show Has (q7y.t l i) _
 unfold q7y.t
 refine ztu (fun h => ztt (ztr (ztx _))) (fun h => ?_)
 have hl : ¬ ((l.length:Int) = 0) := by simpa using h
 have m1 := tm (l.length:Int) hi (by omega)
 refine zts hl (zts m1 (zts (by omega) (zts hl (ztt (ztr (ztx _))))))
theorem zu6 {kind n k : Int} (hn : 0 <= n) (hk : 0 <= k) : ∃ y, q7g.f kind n k = some y ∧ y.1.length <= 200 ∧ y.2.length <= 200 := by
 have m1 := tm 20 hn (by decide)
 have m2 := tm 5 hn (by decide)
 have t1 : (q7g.tb1_1 n).length <= 40 := ztw (by decide)
 show Has (q7g.t kind n k) _
 unfold q7g.t
 generalize q7g.tb1_1 n = T1 at t1 ⊢
 generalize hT : List.drop (↑(0:Nat):Int).toNat (List.take (n.tmod (20:Int)).toNat [(48:UInt8), (49:UInt8), (50:UInt8), (51:UInt8), (52:UInt8), (53:UInt8), (54:UInt8), (55:UInt8), (56:UInt8), (57:UInt8), (97:UInt8), (98:UInt8), (99:UInt8), (100:UInt8), (101:UInt8), (102:UInt8), (103:UInt8), (104:UInt8), (105:UInt8), (106:UInt8), (107:UInt8), (108:UInt8), (109:UInt8), (110:UInt8), (111:UInt8), (112:UInt8)]) = T
 have hTl : T.length <= 26 := by
  rw [← hT, List.length_drop, List.length_take]
  simp only [List.length_cons, List.length_nil]
  omega
 clear hT
 have hp := zu4 hTl
 have he := ztz hk
 have m9 := tm 9 hk (by decide)
 have m4 := tm 4 (ztx (n.tdiv 5)).1 (by decide)
 have tab : ∀ i : Nat, (([[51], [48, 120, 51], [32, 51], [51, 59, 97, 61, 98], [51, 32, 59, 120], [48, 51], [51, 9], [103], [51, 59] ++ T ++ T] : List (List UInt8)).getD i []).length <= 60 := by
  intro i
  refine ztw ?_
  intro x hx
  simp only [List.mem_cons, List.not_mem_nil, or_false] at hx
  rcases hx with h | h | h | h | h | h | h | h | h <;> subst h <;> simp only [List.length_append, List.length_cons, List.length_nil] <;> omega
 generalize hG : (([[51], [48, 120, 51], [32, 51], [51, 59, 97, 61, 98], [51, 32, 59, 120], [48, 51], [51, 9], [103], [51, 59] ++ T ++ T] : List (List UInt8)).getD (((0:Nat) + (k.tmod (9:Int)).toNat) * (1:Nat)) []) = G
 generalize hH : (([[], [84, 58, 32, 117, 13, 10], [98, 97, 100, 13, 10], [84, 58, 32, 117, 13, 10, 32, 119, 13, 10]] : List (List UInt8)).getD (((0:Nat) + ((IntKind.u8.wrap (n.tdiv (5:Int))).tmod (4:Int)).toNat) * (1:Nat)) []) = H
 have hGl : G.length <= 60 := hG ▸ tab _
 have hHl : H.length <= 20 := hH ▸ ztw (by decide)
 clear hG hH tab
 repeat' (with_reducible first | apply ztu <;> intro _ | refine zts ?_ ?_ | refine ztv hp.1 ?_ | refine ztv hp.2 ?_ | refine ztv he ?_ | intro y hy | apply ztr | (first | (simp only [List.length_append, List.length_cons, List.length_nil]; omega) | omega | exact ztw (by decide)) | refine ⟨?_, ?_⟩)
theorem zu7 {l s : Bs} (hs : s.length <= 400) : ∃ y, q7v.L9.f l s 0 = some y ∧ y.length <= 700 := by
 unfold q7v.L9.f
 refine zi5 _ (fun z : Bs × Int => 0 <= z.2 ∧ z.2 <= 3 ∧ (z.1.length:Int) <= 400 + 100 * z.2) (fun z => (4 - z.2).toNat) (fun _ (r : Bs) => r.length <= 700) ?_ ⟨Int.le_refl _, by show (0:Int) <= 3; decide, by show (s.length:Int) <= 400 + 100 * 0; omega⟩ (by unfold rounds; show (4 - (0:Int)).toNat < _; omega)
 rintro ⟨s, i⟩ ⟨h1, h2, h3⟩
 dsimp only at h1 h2 h3 ⊢
 unfold q7v.L9.t
 simp only [List.drop_zero, List.take_length, Nat.zero_add]
 obtain ⟨y1, e1, g1, g2⟩ := zu5 l (i := 5) (by decide)
 have m1 := tm 4 g1 (by decide)
 have w1 : IntKind.i64.wrap (y1.tmod 4) = y1.tmod 4 := w64 (by omega) (by omega)
 have w2 : IntKind.i64.wrap (6 + IntKind.i64.wrap (2 * i)) = 6 + 2 * i := by rw [w64 (n := 2 * i) (by omega) (by omega), w64 (by omega) (by omega)]
 have w3 : IntKind.i64.wrap (7 + IntKind.i64.wrap (2 * i)) = 7 + 2 * i := by rw [w64 (n := 2 * i) (by omega) (by omega), w64 (by omega) (by omega)]
 have w4 : IntKind.i64.wrap (8 + i) = 8 + i := w64 (by omega) (by omega)
 have w5 : IntKind.i64.wrap (i + 1) = i + 1 := w64 (by omega) (by omega)
 rw [w2, w3, w4, w5]
 by_cases hlt : i < y1.tmod 4
 ·right
  obtain ⟨y2, e2, a1, a2⟩ := zu5 l (i := 6 + 2 * i) (by omega)
  obtain ⟨y3, e3, b1, b2⟩ := zu5 l (i := 7 + 2 * i) (by omega)
  obtain ⟨y4, e4, c1⟩ := zu0 (a := y2) (b := y3) ⟨b1, b2⟩
  obtain ⟨y5, e5, d1, d2⟩ := zu5 l (i := 8 + i) (by omega)
  obtain ⟨y6, e6, f1⟩ := ztz (k := y5) d1
  have hlen : (s ++ y4 ++ y6).length = s.length + y4.length + y6.length := by simp only [List.length_append]
  refine ⟨(s ++ y4 ++ y6, i + 1), ?_, ?_, ?_, ?_⟩
  ·refine zs3 (by omega) (zs2 e1 ?_)
   rw [w1]
   refine go_t (by rw [decide_eq_true_iff]; exact hlt) ?_
   refine zs3 (by omega) (zs2 e2 ?_)
   refine zs3 (by omega) (zs2 e3 (zs2 e4 ?_))
   refine zs3 (by omega) (zs3 (by omega) (zs2 e5 (zs2 e6 ?_)))
   refine zs3 (by simp only [List.length_append]; omega) (zs3 (by simp) rfl)
  ·dsimp only; omega
  ·dsimp only; omega
  ·intro r hr; exact hr
 ·left
  refine ⟨s, ?_, by omega⟩
  refine zs3 (by omega) (zs2 e1 ?_)
  rw [w1]
  refine go_f (by rw [decide_eq_false_iff_not]; exact hlt) ?_
  exact zs3 (by simp) rfl
theorem zu8 (l : Bs) : ∃ y, q7v.f l = some y ∧ y.length <= 1200 := by
 show Has (q7v.t l) _
 unfold q7v.t
 simp only [List.drop_zero, List.take_length, Nat.zero_add]
 have b1 : ∀ y, (q7v.tb2_1 y).length <= 40 := fun y => ztw (by decide)
 have b2 : ∀ y, (q7v.tb2_2 y).length <= 40 := fun y => ztw (by decide)
 repeat' (with_reducible first
  | apply ztu <;> intro _
  | refine zts ?_ ?_
  | (refine ztv (zu5 l (by decide)) ?_; intro y hy; have hm := tm (b := y) 4 hy.1 (by decide); have hb1 := b1 y; have hb2 := b2 y)
  | (refine ztv (zty (by omega) (by omega)) ?_; intro y hy)
  | (refine ztv (ztz (by omega)) ?_; intro y hy)
  | (refine ztv (zu7 (by (first | (simp only [List.length_append, List.length_cons, List.length_nil]; omega) | omega | exact ztw (by decide)))) ?_; intro y hy)
  | (refine ztv (zu6 (by omega) (by omega)) ?_; rintro ⟨ya, yb⟩ ⟨hya, hyb⟩; dsimp only at hya hyb ⊢)
  | apply ztr
  | exact ⟨rfl, rfl⟩
  | trivial
  | (first | (simp only [List.length_append, List.length_cons, List.length_nil]; omega) | omega | exact ztw (by decide)))
theorem zu9 {l : Bs} (hl : l.length <= 40) : ∃ y, q81.f l = some y ∧ y.length <= 8000 := by
 have hL : ∃ y, q81.L3.f l [] 0 = some y ∧ y.length <= 8000 := by
  unfold q81.L3.f
  refine zi5 _ (fun z : Bs × Int => 0 <= z.2 ∧ z.2 <= 50 ∧ (z.1.length:Int) <= 120 * z.2) (fun z => (60 - z.2).toNat) (fun _ (r : Bs) => r.length <= 8000) ?_ ⟨Int.le_refl _, by show (0:Int) <= 50; decide, by show ((0:Nat):Int) <= 120 * 0; decide⟩ (by unfold rounds; show (60 - (0:Int)).toNat < _; decide)
  rintro ⟨s, i⟩ ⟨h1, h2, h3⟩
  dsimp only at h1 h2 h3 ⊢
  unfold q81.L3.t
  have w1 : IntKind.i64.wrap (i + 10) = i + 10 := w64 (by omega) (by omega)
  rw [w1]
  have hm : mn2 (i + 10) (l.length:Int) = min (i + 10) (l.length:Int) := z1i _ _
  rw [hm]
  by_cases hlt : i < (l.length:Int)
  ·by_cases h40 : i < 40
   ·right
    obtain ⟨y, e, hy⟩ := zu8 (List.take (min (i + 10) (l.length:Int) - i).toNat (List.drop ((0:Nat) + i.toNat) l))
    refine ⟨(s ++ y, i + 10), ?_, ?_, ?_, ?_⟩
    ·refine go_t (by rw [decide_eq_true_iff]; exact hlt) (go_t (by rw [decide_eq_true_iff]; exact h40) ?_)
     refine zs3 (by omega) (zs3 (by omega) (zs2 e ?_))
     refine zs3 (by omega) ?_
     rfl
    ·dsimp only
     rw [List.length_append]
     omega
    ·dsimp only; omega
    ·intro r hr; exact hr
   ·left
    exact ⟨s, go_t (by rw [decide_eq_true_iff]; exact hlt) (go_f (by rw [decide_eq_false_iff_not]; exact h40) rfl), by omega⟩
  ·left
   exact ⟨s, go_f (by rw [decide_eq_false_iff_not]; exact hlt) rfl, by omega⟩
 obtain ⟨y, e, hy⟩ := hL
 refine ⟨y, ?_, hy⟩
 unfold q81.f q81.t
 rw [vokl]
 refine zs2 e ?_
 rw [List.nil_append, zl4]
 exact zs3 (by omega) (zs3 (by omega) rfl)
theorem zua : ((List.range 256).all fun k => match q7j.f (k:Int) with
 | some (a, b, c, d, e, f, g, h, i, j) => okB a b c d e f g h && decide (d <= 65536)
 | none => false) = true := by decide +kernel
theorem zub (k:UInt8) : ∃ a b c d e f g h i j, q7j.f (Int.ofNat k.toNat) = some (a, b, c, d, e, f, g, h, i, j) ∧ okB a b c d e f g h = true := by
 have := List.all_eq_true.1 zua k.toNat (List.mem_range.2 k.toNat_lt)
 split at this
 ·rename_i a b c d e f g h i j hs
  simp only [Bool.and_eq_true] at this
  exact ⟨a, b, c, d, e, f, g, h, i, j, hs, this.1⟩
 ·cases this
theorem zuc {l : Fs} (hl : l.length < 1000000000) : q6a.f l l = some true := by
 have hL : q6a.L4.f l l 0 = some (.inl ()) := by
  unfold q6a.L4.f
  refine zs4 l.length (fun k => (k:Int)) _ (fun k hk => ?_) ?_ (by omega) rfl
  ·unfold q6a.L4.t
   have hw := wS (k := k) (by omega)
   refine go_t (by rw [decide_eq_true_iff]; omega) ?_
   refine zs3 (by omega) (zs3 (by omega) (zs3 (by omega) (zs3 (by omega) ?_)))
   refine go_f (by simp) ?_
   rw [vokl, vokl, hw]
   rfl
  ·unfold q6a.L4.t
   exact go_f (by simp) rfl
 unfold q6a.f q6a.t
 refine go_f (by simp) ?_
 rw [vokl, vokl, Tr.val_inl hL]
 rfl
theorem zud {a1 a2 : Bs} {a3 : Int} {a4 : Fs} {a5 : Bool} {a6 : Bs} {a7 : Fs} (h1 : a4.length < 1000000000) (h2 : a7.length < 1000000000) : q67.f a4 a6 a7 a4 a6 a7 a1 a2 a3 a5 a1 a2 a3 a5 = some true := by
 unfold q67.f q67.t
 simp only [List.drop_zero, List.take_length, Nat.zero_add]
 refine go_t (by simp) (go_t (by simp) (go_t (by simp) ?_))
 refine zs3 (Nat.le_refl _) (zs3 (Nat.le_refl _) (zs2 (zuc h1) ?_))
 refine go_t rfl (go_t (by simp) ?_)
 refine zs3 (Nat.le_refl _) (zs3 (Nat.le_refl _) ?_)
 refine go_t (by simp) ?_
 refine zs3 (Nat.le_refl _) (zs3 (Nat.le_refl _) (zs2 (zuc h2) ?_))
 rfl
def Few (l : List Rec) : Prop := ∀ r ∈ l, r.2.2.2.1.length < 1000000000 ∧ r.2.2.2.2.2.2.length < 1000000000
theorem zue {l : List Rec} (hl : l.length < 1000000000) (hf : Few l) : q64.f l l = some true := by
 have hL : q64.L4.f l l 0 = some (.inl ()) := by
  unfold q64.L4.f
  refine zs4 l.length (fun k => (k:Int)) _ (fun k hk => ?_) ?_ (by omega) rfl
  ·unfold q64.L4.t
   have hw := wS (k := k) (by omega)
   have hr := hf l[k] (List.getElem_mem hk)
   have hat : l.getD ((0:Nat) + (k:Int).toNat) ([], [], (0:Int), [], false, [], []) = l[k] := by rw [Nat.zero_add, Int.toNat_natCast]; exact ziw hk rfl
   rw [hat]
   refine go_t (by rw [decide_eq_true_iff]; omega) ?_
   refine zs3 (by omega) (zs3 (by omega) (zs3 (by omega) (zs3 (by omega) (zs2 (zud hr.1 hr.2) ?_))))
   refine go_f rfl ?_
   rw [vokl, vokl, hw]
   rfl
  ·unfold q64.L4.t
   exact go_f (by simp) rfl
 unfold q64.f q64.t
 refine go_f (by simp) ?_
 rw [vokl, vokl, Tr.val_inl hL]
 rfl
theorem zuf {S : PS} (h1 : LB 101 S.fields) (h2 : LB 101 S.trailers) : Few [S.rec_] := by
 intro r hr
 simp only [List.mem_cons, List.not_mem_nil, or_false] at hr
 subst hr
 have q1 := h1.1
 have q2 := h2.1
 exact ⟨by show S.fields.length < _; omega, by show S.trailers.length < _; omega⟩
theorem zug : Few [] := fun r hr => by simp at hr
theorem zuh {C : Cfg} {S : PS} (ho : S.out = []) (h1 : LB 101 S.fields) (h2 : LB 101 S.trailers) : Few (S.whole C).out := by
 show Few (S.out ++ [S.rec_])
 rw [ho]
 exact zuf h1 h2
theorem zui {S T : PS} (ho : S.out = []) (h : T.out = S.out) : Few T.out := by rw [h, ho]; exact zug
theorem zuj {C : Cfg} {S : PS} (ho : S.out = []) (h1 : LB 101 S.fields) (h2 : LB 101 S.trailers) : Few (S.ended C).out := by
 unfold PS.ended PS.request PS.framed PS.fieldF PS.chunk PS.fieldT
 simp only
 repeat' split
 all_goals first
  | exact zuh ho h1 h2
  | exact zui ho rfl
theorem zuk {C D : Cfg} {n : Nat} {S : PS} {c : UInt8} (hS : Inv D n S) (ho : S.out = []) (he : (S.step (C.by 0) c true).err = 0) : Few (S.step (C.by 0) c true).out := by
 unfold PS.step PS.stepG at he ⊢
 by_cases h0 : S.err ≠ 0
 ·rw [if_pos h0]; exact zui ho rfl
 ·rw [if_neg h0] at he ⊢
  by_cases h1 : S.stage = 2 ∨ S.stage = 4
  ·rw [if_pos h1]
   unfold PS.bodyB
   simp only
   repeat' split
   all_goals first
    | exact zuh ho hS.f1 hS.t1
    | exact zui ho rfl
  ·rw [if_neg h1, if_pos rfl] at he ⊢
   have hc : (S.mark.counted (C.by 0)).1.out = [] ∧ LB 101 (S.mark.counted (C.by 0)).1.fields ∧ LB 101 (S.mark.counted (C.by 0)).1.trailers := by
    unfold PS.counted
    repeat' split
    all_goals exact ⟨ho, hS.f1, hS.t1⟩
   by_cases h3 : (S.mark.counted (C.by 0)).2 = false
   ·rw [if_pos h3]; exact zui hc.1 rfl
   ·rw [if_neg h3] at he ⊢
    generalize (S.mark.counted (C.by 0)).1 = U at he hc ⊢
    have e1 : (U.lineB (C.by 0) c).1.out = U.out := zq9 _ _ _
    have e2 : (U.lineB (C.by 0) c).1.fields = U.fields := zq6 _ _ _
    have e3 : (U.lineB (C.by 0) c).1.trailers = U.trailers := zq8 _ _ _
    rcases zte (C := C) (S := U) (c := c) with h | h | h | h
    ·unfold PS.tailG
     rw [if_neg (by rw [h]; decide), if_neg (by rw [h]; decide), if_neg (by rw [h]; decide), if_neg (by rw [h]; decide), e1, hc.1]
     exact zug
    ·unfold PS.tailG
     rw [if_pos h]
     exact zuj (by rw [e1]; exact hc.1) (by rw [e2]; exact hc.2.1) (by rw [e3]; exact hc.2.2)
    ·exfalso
     unfold PS.tailG at he
     rw [if_neg (by rw [h]; decide), if_neg (by rw [h]; decide), if_neg (by rw [h]; decide), if_pos h] at he
     exact absurd he (by simp [PS.fail])
    ·exfalso
     unfold PS.tailG at he
     rw [if_neg (by rw [h]; decide), if_neg (by rw [h]; decide), if_pos h] at he
     exact zto he
end Pl
end Go.Vx
end
section
set_option maxRecDepth 100000
namespace Go.Vx
namespace Pl
open Go Go.Proofs
end Pl
end Go.Vx
end
section
set_option maxRecDepth 100000
namespace Go.Vx
namespace Pl
open Go Go.Proofs
theorem zul : q21.f = some true := by
 unfold q21.f q21.t
 have hG0 := zrm (zs6 0)
 refine zs2 rfl ?_
 dsimp only
 refine zs2 (zrt (zs5 0)) ?_
 rw [show PS.new' (zs5 0) = PS.new (zs5 0) from if_pos (by decide)]
 dsimp only [PS.tupN]
 refine zs3 (by decide) ?_
 repeat rw [vokl]
 refine zs3 (by decide) ?_
 refine zs2 (zrl (C := zs5 0) (S := PS.new (zs5 0)) (zs6 0) zs7 (by decide) (n := 0) (by decide) hG0) ?_
 dsimp only [PS.tupF]
 repeat rw [vokl]
 refine zs2 (zru _ _ _ _ _) ?_
 repeat rw [vokl]
 refine zs2 (zrw (((PS.new (zs5 0)).taken.feed (zs5 0) _)) _ _ _ _ _) ?_
 refine zs2 (zrt (zs5 0)) ?_
 rw [show PS.new' (zs5 0) = PS.new (zs5 0) from if_pos (by decide)]
 dsimp only [PS.tupN]
 refine zs3 (by decide) ?_
 repeat rw [vokl]
 refine zs3 (by decide) ?_
 refine zs2 (zrl (C := zs5 0) (S := PS.new (zs5 0)) (zs6 0) zs7 (by decide) (n := 0) (by decide) hG0) ?_
 dsimp only [PS.tupF]
 repeat rw [vokl]
 refine zs2 (zru _ _ _ _ _) ?_
 repeat rw [vokl]
 refine zs2 (zrw (((PS.new (zs5 0)).taken.feed (zs5 0) _)) _ _ _ _ _) ?_
 refine zs2 (zrt (zs5 0)) ?_
 rw [show PS.new' (zs5 0) = PS.new (zs5 0) from if_pos (by decide)]
 dsimp only [PS.tupN]
 refine zs3 (by decide) ?_
 refine zs3 (by decide) ?_
 repeat rw [vokl]
 refine zs3 (by decide) ?_
 refine zs2 (zrl (C := zs5 0) (S := PS.new (zs5 0)) (zs6 0) zs7 (by decide) (n := 0) (by decide) hG0) ?_
 dsimp only [PS.tupF]
 repeat rw [vokl]
 refine zs2 (zrv (((PS.new (zs5 0)).taken.feed (zs5 0) _)) _ _ _ _ _) ?_
 repeat rw [vokl]
 have hG1 : Good (zs5 0) (0 + 4 * (List.flatten zs8).length) ((PS.new (zs5 0)).taken.feed (zs5 0) (List.flatten zs8)) := zri (zs6 0) _ 0 _ (by decide) hG0.taken
 refine zs2 (zs1 (C := zs5 0) (S := ((PS.new (zs5 0)).taken.feed (zs5 0) (List.flatten zs8))) (hG1.1.small (zs6 0) (by decide)) (by decide +kernel) _) ?_
 refine zs3 (by decide) ?_
 repeat rw [vokl]
 refine zs3 (by decide) ?_
 refine zs2 (zrl (C := zs5 0) (S := ((PS.new (zs5 0)).taken.feed (zs5 0) (List.flatten zs8))) (zs6 0) zs7 (by decide) (n := 0 + 4 * (List.flatten zs8).length) (by decide) hG1) ?_
 dsimp only [PS.tupF]
 repeat rw [vokl]
 decide +kernel
theorem zum {α : Type} {d : Eqb α} {a b : Tr α} {y : α} (h1 : a.val = some y) (h2 : b.val = some y) : (@Tr.two α d a b).val = some y := by
 simp [Tr.val, h1, h2]
theorem zun {α : Type} {a : Tr α} {r : Option α} (h : a.val = r) : (Tr.twice a).val = r := h
theorem zuo {s : Bs} {k : Nat} {c : UInt8} (hk : k < s.length) (hc : s[k]'hk = c) : List.drop k (List.take (k + 1) s) = [c] := by
 rw [List.drop_take, show k + 1 - k = 1 by omega, List.drop_eq_getElem_cons hk, hc]
 rfl
def zup (C : Cfg) (S : PS) (c:UInt8) : PS ⊕ (Unit ⊕ Bool) := if (S.taken.step (C.by 0) c true).err ≠ 0 then .inr (.inr true) else .inl (S.taken.step (C.by 0) c true)
theorem zuq (C : Cfg) : ∀ (l : Bs) (S : PS), zit (zup C) (fun _ => (.inl () : Unit ⊕ Bool)) S l = .inl () ∨ zit (zup C) (fun _ => (.inl () : Unit ⊕ Bool)) S l = .inr true
 | [], S => .inl rfl
 | c :: l, S => by
  unfold zit zup
  by_cases h : (S.taken.step (C.by 0) c true).err ≠ 0
  ·rw [if_pos h]; exact .inr rfl
  ·rw [if_neg h]; exact zuq C l _
def stE (C : Cfg) (p:Int) (k:Nat) (S : PS) := (S.method, S.target, S.minor, S.chunked, S.stage, S.lines, S.head, S.need, S.begun, S.waits, (C.by 0).p, (C.by 0).line, (C.by 0).fields, (C.by 0).head, (C.by 0).body, (C.by 0).ext, (C.by 0).trailers, (C.by 0).wait, (C.by 0).idle, (C.by 0).chunked, (C.by 0).old, S.err, (C.by 0).p, S.most, S.pend, S.over, S.bad, S.b, S.fields, S.body, S.trailers, S.out, S.method, S.target, S.minor, S.chunked, S.stage, S.lines, S.head, S.need, S.begun, S.waits, (C.by p).p, (C.by p).line, (C.by p).fields, (C.by p).head, (C.by p).body, (C.by p).ext, (C.by p).trailers, (C.by p).wait, (C.by p).idle, (C.by p).chunked, (C.by p).old, S.err, (C.by p).p, S.most, S.pend, S.over, S.bad, S.b, S.fields, S.body, S.trailers, S.out, (k:Int))
theorem zur {C : Cfg} {p : Int} {s : Bs} {S : PS} (h0 : zr2 (C.by 0)) (hp : zr2 (C.by p)) (hs : s.length <= 10000) (hG0 : Good (C.by 0) 0 S) (hGp : Good (C.by p) 0 S) :
  q20.L9.f S.method S.target S.minor S.chunked S.stage S.lines S.head S.need S.begun S.waits (C.by 0).p (C.by 0).line (C.by 0).fields (C.by 0).head (C.by 0).body (C.by 0).ext (C.by 0).trailers (C.by 0).wait (C.by 0).idle (C.by 0).chunked (C.by 0).old S.err (C.by 0).p S.most S.pend S.over S.bad S.b S.fields S.body S.trailers S.out S.method S.target S.minor S.chunked S.stage S.lines S.head S.need S.begun S.waits (C.by p).p (C.by p).line (C.by p).fields (C.by p).head (C.by p).body (C.by p).ext (C.by p).trailers (C.by p).wait (C.by p).idle (C.by p).chunked (C.by p).old S.err (C.by p).p S.most S.pend S.over S.bad S.b S.fields S.body S.trailers S.out s 0 = some (zit (zup C) (fun _ => .inl ()) S s) := by
 unfold q20.L9.f
 refine ziv s (stE C p) (fun k S => Good (C.by 0) (4 * k) S ∧ Good (C.by p) (4 * k) S) (zup C) (fun _ => .inl ()) ?_ ?_ (by omega) ⟨hG0, hGp⟩ rfl
 ·intro k S c hi hk hc
  obtain ⟨g0, gp⟩ := hi
  have f0 := zrl (C := C.by 0) (S := S) (parts := [[c]]) h0 (zso _) (by simp) (n := 4 * k) (by show 4 * k + 4 * 1 <= _; omega) g0
  have f1 := zrl (C := C.by p) (S := S) (parts := [[c]]) hp (zso _) (by simp) (n := 4 * k) (by show 4 * k + 4 * 1 <= _; omega) gp
  rw [show S.taken.feed (C.by 0) [[c]].flatten = S.taken.step (C.by 0) c true from rfl] at f0
  rw [show S.taken.feed (C.by p) [[c]].flatten = S.taken.step (C.by p) c true from rfl] at f1
  have q0 := zrb h0 (by omega) c true g0.taken
  have qp := zrb hp (by omega) c true gp.taken
  have hby : (S.taken.step (C.by 0) c true).err = 0 -> S.taken.step (C.by p) c true = S.taken.step (C.by 0) c true := ztq
  have hfew := zuk (C := C) (c := c) g0.taken.1 (show S.taken.out = [] from rfl)
  have hw := wS (k := k) (by omega)
  have hat := zuo hk hc
  have hr : (0:Int) <= (k:Int) ∧ (k:Int) <= ((k + 1:Nat):Int) ∧ ((k + 1:Nat):Int) <= (s.length:Int) := by omega
  constructor
  ·unfold zup
   generalize S.taken.step (C.by 0) c true = U at f0 q0 hby hfew ⊢
   generalize S.taken.step (C.by p) c true = V at f1 qp hby ⊢
   unfold q20.L9.t stE
   dsimp only
   rw [hw]
   simp only [Int.toNat_natCast]
   rw [hat, show List.take 1 (List.drop 0 [[c]]) = [[c]] from rfl]
   refine go_t (by rw [decide_eq_true_iff]; omega) ?_
   by_cases he : U.err ≠ 0
   ·rw [if_pos he]
    refine zum ?_ (zun (zs3 hr ?_)) <;> (
     refine zs3 hr ?_
     repeat rw [vokl]
     refine zs3 (Nat.le_refl _) ?_
     refine zs2 f0 ?_
     dsimp only [PS.tupF]
     first
      | refine zs3 hr ?_
      | skip
     repeat rw [vokl]
     refine zs3 (Nat.le_refl _) ?_
     refine zs2 f1 ?_
     dsimp only [PS.tupF]
     repeat rw [vokl]
     refine zs2 (zru _ _ _ _ _) ?_
     exact go_t (by simpa using he) rfl)
   ·have he0 : U.err = 0 := Classical.byContradiction he
    have hV := hby he0
    subst hV
    have hFew := hfew he0
    have hout : V.out.length <= 4 * k + 4 := q0.1.out
    have ha := zue (l := V.out) (by omega) hFew
    have hc1 := zrw V V.b V.fields V.body V.trailers V.out
    have hw1 := zrv V V.b V.fields V.body V.trailers V.out
    rw [if_neg he]
    refine zum ?_ (zun (zs3 hr ?_)) <;> (
     refine zs3 hr ?_
     repeat rw [vokl]
     refine zs3 (Nat.le_refl _) ?_
     refine zs2 f0 ?_
     dsimp only [PS.tupF]
     first
      | refine zs3 hr ?_
      | skip
     repeat rw [vokl]
     refine zs3 (Nat.le_refl _) ?_
     refine zs2 f1 ?_
     dsimp only [PS.tupF]
     repeat rw [vokl]
     refine zs2 (zru _ _ _ _ _) ?_
     refine go_f (by simpa using he0) ?_
     repeat rw [vokl]
     refine zs2 (zru _ _ _ _ _) ?_
     refine go_f (by simpa using he0) ?_
     refine zs3 (by omega) (zs3 (by omega) ?_)
     rw [zl4]
     refine zs2 ha ?_
     refine go_f rfl ?_
     repeat rw [vokl]
     refine zs2 hc1 ?_
     repeat rw [vokl]
     refine zs2 hc1 ?_
     refine go_f (by cases V.clean <;> rfl) ?_
     repeat rw [vokl]
     refine zs2 hw1 ?_
     repeat rw [vokl]
     refine zs2 hw1 ?_
     refine go_f (by cases V.waiting <;> rfl) ?_
     repeat rw [vokl]
     rfl)
  ·intro a' ha
   unfold zup at ha
   by_cases he : (S.taken.step (C.by 0) c true).err ≠ 0
   ·rw [if_pos he] at ha; cases ha
   ·rw [if_neg he] at ha
    have := hby (Classical.byContradiction he)
    cases ha
    exact ⟨q0.mono (by omega), by rw [← this]; exact qp.mono (by omega)⟩
 ·intro S _
  unfold q20.L9.t stE
  dsimp only
  exact go_f (by simp) rfl
theorem vP_f (va:Int) : (IntKind.u32.wrap (↑(BitVec.ofInt IntKind.u32.bits va &&& BitVec.ofInt IntKind.u32.bits (1073741823:Int)).toNat:Int)).fdiv (2 ^ 30) = 0 := by
 show (IntKind.u32.wrap (((BitVec.ofInt 32 va &&& BitVec.ofInt 32 1073741823).toNat:Nat):Int)).fdiv (2 ^ 30) = 0
 generalize BitVec.ofInt 32 va = x
 have h : (x &&& BitVec.ofInt 32 1073741823).toNat < 1073741824 := by
  rw [BitVec.toNat_and]
  exact Nat.lt_of_le_of_lt Nat.and_le_right (by decide)
 generalize (x &&& BitVec.ofInt 32 1073741823).toNat = n at h
 rw [w32 (by omega) (by omega)]
 rw [Int.fdiv_eq_ediv_of_nonneg _ (by decide)]
 omega
theorem extends_ok (l : Bs) (va:Int) (k:UInt8) : q20.f l va k = some true := by
 unfold q20.f q20.t
 have hq := vP_f va
 generalize IntKind.u32.wrap (↑(BitVec.ofInt IntKind.u32.bits va &&& BitVec.ofInt IntKind.u32.bits (1073741823:Int)).toNat:Int) = p at hq ⊢
 refine zs2 zul ?_
 refine go_f rfl ?_
 by_cases hl : l.length <= 40
 ·refine go_f (by rw [decide_eq_false_iff_not]; omega) ?_
  obtain ⟨b1, b2, b3, b4, b5, b6, b7, b8, b9, b10, hb, hok⟩ := zub k
  obtain ⟨s, hs, hsl⟩ := zu9 hl
  refine zs2 hb ?_
  dsimp only
  refine zs2 hs ?_
  have hR0 : (Cfg.by ⟨0, b1, b2, b3, b4, b5, b6, b7, b8, b9, b10⟩ 0).right := ⟨hok, by show (0:Int).fdiv (2 ^ 30) = 0; decide⟩
  have hRp : (Cfg.by ⟨0, b1, b2, b3, b4, b5, b6, b7, b8, b9, b10⟩ p).right := ⟨hok, hq⟩
  have n0 := zrt (Cfg.by ⟨0, b1, b2, b3, b4, b5, b6, b7, b8, b9, b10⟩ 0)
  have np := zrt (Cfg.by ⟨0, b1, b2, b3, b4, b5, b6, b7, b8, b9, b10⟩ p)
  rw [show PS.new' _ = PS.new _ from if_pos hR0] at n0
  rw [show PS.new' _ = PS.new _ from if_pos hRp] at np
  have G0 := zrm hR0.ok
  have Gp := zrm hRp.ok
  have hloop := zur (S := PS.new (Cfg.by ⟨0, b1, b2, b3, b4, b5, b6, b7, b8, b9, b10⟩ 0)) (s := s) hR0.ok hRp.ok (by omega) G0 Gp
  refine zs2 n0 ?_
  dsimp only [PS.tupN]
  refine zs2 np ?_
  dsimp only [PS.tupN]
  repeat rw [vokl]
  rcases zuq ⟨0, b1, b2, b3, b4, b5, b6, b7, b8, b9, b10⟩ s (PS.new (Cfg.by ⟨0, b1, b2, b3, b4, b5, b6, b7, b8, b9, b10⟩ 0)) with h | h
  ·rw [h] at hloop
   exact (Tr.val_inl hloop).trans rfl
  ·rw [h] at hloop
   exact (Tr.val_inr hloop).trans rfl
 ·exact go_t (by rw [decide_eq_true_iff]; omega) rfl
end Pl
end Go.Vx
end
