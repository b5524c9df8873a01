/- The bucket: the law BucketRates' run. (A help: no statement of the seat is proved here.) -/
import Derived.Test.YtgmlklaehklmoaaBk2
set_option maxRecDepth 1000000
set_option linter.unusedVariables false
set_option linter.unusedSimpArgs false
namespace Go.Vx
open Go Go.Vx Go.Proofs

def brD : Dom := ⟨[bkR], .cat (.vec .byte) (.cat (.int .i64) (.cat (.int .i64) (.cat (.ptr 0 0 0 0) (.cat (.int .i64) (.cat (.int .i64) (.int .i64))))))⟩
def brIn (l : List UInt8) (m e now taken i most each n a : Int) : Prop := l.length ≤ 60 ∧ 0 ≤ m ∧ m < 9 ∧ 1 ≤ e ∧ e ≤ 12 ∧ 0 ≤ i ∧ i ≤ l.length ∧ 0 ≤ now ∧ now ≤ 4 * i ∧ most = m ∧ each = e ∧
  0 ≤ n ∧ n ≤ m ∧ 0 ≤ a ∧ a ≤ now ∧ 0 ≤ taken ∧ taken ≤ i ∧ taken + n ≤ m + a / e
def lapRates : Lap where
  id := 9
  N := 72
  live := [2, 7, 8, 9, 10, 11, 12]
  D := brD
  oA := .exit 0
  liveA := []
  A := ⟨[.dead], .nil⟩
  inv := fun (((most, each, n, a), _), (l, m, e, _, now, taken, i)) => brIn l m e now taken i most each n a
  relA := fun _ _ => True
  use := fun _ ka _ => ka (((), ()), ())
  ok := fun x ka kb h => ⟨fun _ _ => h, fun y h => h.elim⟩
def conRates : Con := lawCon [.int .u8, .int .u8, .sl .byte]

theorem rate_vc (most each n a m e now taken i : Int) (l : List UInt8) (again : brD.den → Prop) (qa : lapRates.A.den → Prop) (qb : lapRates.B.den → Prop) : (lapRates.run Try.prog bkBookK 9 0 [] 6 (((most, each, n, a), ()), (l, m, e, (), now, taken, i)) again qa qb) =
  ((decide (i < (↑l.length : Int)) = true →
    (0 ≤ i ∧ i < (↑l.length : Int)) ∧
      i.toNat < l.length ∧
        bkOk most each n a ∧
          bkOk most each (bkN most each n a (IntKind.i64.wrap (now + IntKind.i64.wrap ((↑(UInt8.toNat (l.getD i.toNat Ty.byte.dflt)) : Int).tmod 5)))) (bkNow a (IntKind.i64.wrap (now + IntKind.i64.wrap ((↑(UInt8.toNat (l.getD i.toNat Ty.byte.dflt)) : Int).tmod 5)))) ∧
            ((!decide (bkN most each (bkN most each n a (IntKind.i64.wrap (now + IntKind.i64.wrap ((↑(UInt8.toNat (l.getD i.toNat Ty.byte.dflt)) : Int).tmod 5)))) (bkNow a (IntKind.i64.wrap (now + IntKind.i64.wrap ((↑(UInt8.toNat (l.getD i.toNat Ty.byte.dflt)) : Int).tmod 5)))) (IntKind.i64.wrap (now + IntKind.i64.wrap ((↑(UInt8.toNat (l.getD i.toNat Ty.byte.dflt)) : Int).tmod 5))) ≠ 0) ==
                      decide (bkN most each n a (IntKind.i64.wrap (now + IntKind.i64.wrap ((↑(UInt8.toNat (l.getD i.toNat Ty.byte.dflt)) : Int).tmod 5))) > 0)) =
                  true →
                qb (PUnit.unit, PUnit.unit)) ∧
              ((!decide (bkN most each (bkN most each n a (IntKind.i64.wrap (now + IntKind.i64.wrap ((↑(UInt8.toNat (l.getD i.toNat Ty.byte.dflt)) : Int).tmod 5)))) (bkNow a (IntKind.i64.wrap (now + IntKind.i64.wrap ((↑(UInt8.toNat (l.getD i.toNat Ty.byte.dflt)) : Int).tmod 5)))) (IntKind.i64.wrap (now + IntKind.i64.wrap ((↑(UInt8.toNat (l.getD i.toNat Ty.byte.dflt)) : Int).tmod 5))) ≠ 0) ==
                      decide (bkN most each n a (IntKind.i64.wrap (now + IntKind.i64.wrap ((↑(UInt8.toNat (l.getD i.toNat Ty.byte.dflt)) : Int).tmod 5))) > 0)) =
                  false →
                (decide (bkN most each n a (IntKind.i64.wrap (now + IntKind.i64.wrap ((↑(UInt8.toNat (l.getD i.toNat Ty.byte.dflt)) : Int).tmod 5))) > 0) = true →
                    e ≠ 0 ∧
                      (decide (IntKind.i64.wrap (taken + 1) > IntKind.i64.wrap (m + IntKind.i64.wrap ((IntKind.i64.wrap (now + IntKind.i64.wrap ((↑(UInt8.toNat (l.getD i.toNat Ty.byte.dflt)) : Int).tmod 5))).tdiv e))) = true → qb (PUnit.unit, PUnit.unit)) ∧
                        (decide (IntKind.i64.wrap (taken + 1) > IntKind.i64.wrap (m + IntKind.i64.wrap ((IntKind.i64.wrap (now + IntKind.i64.wrap ((↑(UInt8.toNat (l.getD i.toNat Ty.byte.dflt)) : Int).tmod 5))).tdiv e))) = false →
                          (decide (bkN most each n a (IntKind.i64.wrap (now + IntKind.i64.wrap ((↑(UInt8.toNat (l.getD i.toNat Ty.byte.dflt)) : Int).tmod 5))) > m) = true → qb (PUnit.unit, PUnit.unit)) ∧
                            (decide (bkN most each n a (IntKind.i64.wrap (now + IntKind.i64.wrap ((↑(UInt8.toNat (l.getD i.toNat Ty.byte.dflt)) : Int).tmod 5))) > m) = false →
                              (decide (bkN most each n a (IntKind.i64.wrap (now + IntKind.i64.wrap ((↑(UInt8.toNat (l.getD i.toNat Ty.byte.dflt)) : Int).tmod 5))) < 0) = true → qb (PUnit.unit, PUnit.unit)) ∧
                                (decide (bkN most each n a (IntKind.i64.wrap (now + IntKind.i64.wrap ((↑(UInt8.toNat (l.getD i.toNat Ty.byte.dflt)) : Int).tmod 5))) < 0) = false →
                                  again
                                    (((most, each,
                                          if
                                              bkN most each (bkN most each n a (IntKind.i64.wrap (now + IntKind.i64.wrap ((↑(UInt8.toNat (l.getD i.toNat Ty.byte.dflt)) : Int).tmod 5)))) (bkNow a (IntKind.i64.wrap (now + IntKind.i64.wrap ((↑(UInt8.toNat (l.getD i.toNat Ty.byte.dflt)) : Int).tmod 5))))
                                                  (IntKind.i64.wrap (now + IntKind.i64.wrap ((↑(UInt8.toNat (l.getD i.toNat Ty.byte.dflt)) : Int).tmod 5))) =
                                                0 then
                                            0
                                          else
                                            bkN most each (bkN most each n a (IntKind.i64.wrap (now + IntKind.i64.wrap ((↑(UInt8.toNat (l.getD i.toNat Ty.byte.dflt)) : Int).tmod 5)))) (bkNow a (IntKind.i64.wrap (now + IntKind.i64.wrap ((↑(UInt8.toNat (l.getD i.toNat Ty.byte.dflt)) : Int).tmod 5))))
                                                (IntKind.i64.wrap (now + IntKind.i64.wrap ((↑(UInt8.toNat (l.getD i.toNat Ty.byte.dflt)) : Int).tmod 5))) -
                                              1,
                                          bkNow (bkNow a (IntKind.i64.wrap (now + IntKind.i64.wrap ((↑(UInt8.toNat (l.getD i.toNat Ty.byte.dflt)) : Int).tmod 5)))) (IntKind.i64.wrap (now + IntKind.i64.wrap ((↑(UInt8.toNat (l.getD i.toNat Ty.byte.dflt)) : Int).tmod 5)))),
                                        PUnit.unit),
                                      l, m, e, PUnit.unit, IntKind.i64.wrap (now + IntKind.i64.wrap ((↑(UInt8.toNat (l.getD i.toNat Ty.byte.dflt)) : Int).tmod 5)), IntKind.i64.wrap (taken + 1), IntKind.i64.wrap (i + 1)))))) ∧
                  (decide (bkN most each n a (IntKind.i64.wrap (now + IntKind.i64.wrap ((↑(UInt8.toNat (l.getD i.toNat Ty.byte.dflt)) : Int).tmod 5))) > 0) = false →
                    e ≠ 0 ∧
                      (decide (taken > IntKind.i64.wrap (m + IntKind.i64.wrap ((IntKind.i64.wrap (now + IntKind.i64.wrap ((↑(UInt8.toNat (l.getD i.toNat Ty.byte.dflt)) : Int).tmod 5))).tdiv e))) = true → qb (PUnit.unit, PUnit.unit)) ∧
                        (decide (taken > IntKind.i64.wrap (m + IntKind.i64.wrap ((IntKind.i64.wrap (now + IntKind.i64.wrap ((↑(UInt8.toNat (l.getD i.toNat Ty.byte.dflt)) : Int).tmod 5))).tdiv e))) = false →
                          (decide (bkN most each n a (IntKind.i64.wrap (now + IntKind.i64.wrap ((↑(UInt8.toNat (l.getD i.toNat Ty.byte.dflt)) : Int).tmod 5))) > m) = true → qb (PUnit.unit, PUnit.unit)) ∧
                            (decide (bkN most each n a (IntKind.i64.wrap (now + IntKind.i64.wrap ((↑(UInt8.toNat (l.getD i.toNat Ty.byte.dflt)) : Int).tmod 5))) > m) = false →
                              (decide (bkN most each n a (IntKind.i64.wrap (now + IntKind.i64.wrap ((↑(UInt8.toNat (l.getD i.toNat Ty.byte.dflt)) : Int).tmod 5))) < 0) = true → qb (PUnit.unit, PUnit.unit)) ∧
                                (decide (bkN most each n a (IntKind.i64.wrap (now + IntKind.i64.wrap ((↑(UInt8.toNat (l.getD i.toNat Ty.byte.dflt)) : Int).tmod 5))) < 0) = false →
                                  again
                                    (((most, each,
                                          if
                                              bkN most each (bkN most each n a (IntKind.i64.wrap (now + IntKind.i64.wrap ((↑(UInt8.toNat (l.getD i.toNat Ty.byte.dflt)) : Int).tmod 5)))) (bkNow a (IntKind.i64.wrap (now + IntKind.i64.wrap ((↑(UInt8.toNat (l.getD i.toNat Ty.byte.dflt)) : Int).tmod 5))))
                                                  (IntKind.i64.wrap (now + IntKind.i64.wrap ((↑(UInt8.toNat (l.getD i.toNat Ty.byte.dflt)) : Int).tmod 5))) =
                                                0 then
                                            0
                                          else
                                            bkN most each (bkN most each n a (IntKind.i64.wrap (now + IntKind.i64.wrap ((↑(UInt8.toNat (l.getD i.toNat Ty.byte.dflt)) : Int).tmod 5)))) (bkNow a (IntKind.i64.wrap (now + IntKind.i64.wrap ((↑(UInt8.toNat (l.getD i.toNat Ty.byte.dflt)) : Int).tmod 5))))
                                                (IntKind.i64.wrap (now + IntKind.i64.wrap ((↑(UInt8.toNat (l.getD i.toNat Ty.byte.dflt)) : Int).tmod 5))) -
                                              1,
                                          bkNow (bkNow a (IntKind.i64.wrap (now + IntKind.i64.wrap ((↑(UInt8.toNat (l.getD i.toNat Ty.byte.dflt)) : Int).tmod 5)))) (IntKind.i64.wrap (now + IntKind.i64.wrap ((↑(UInt8.toNat (l.getD i.toNat Ty.byte.dflt)) : Int).tmod 5)))),
                                        PUnit.unit),
                                      l, m, e, PUnit.unit, IntKind.i64.wrap (now + IntKind.i64.wrap ((↑(UInt8.toNat (l.getD i.toNat Ty.byte.dflt)) : Int).tmod 5)), taken, IntKind.i64.wrap (i + 1)))))))) ∧
  (decide (i < (↑l.length : Int)) = false → qa ((PUnit.unit, PUnit.unit), PUnit.unit))) := by kernel_rfl

theorem rates_vc (m e : Int) (l : List UInt8) (qa : conRates.A.den → Prop) (qb : conRates.B.den → Prop) : (conRates.run Try.prog bkBookK 9 [lapRates] 6 (fun _ => true) ((), (m, e, l)) qa qb) =
  (True ∧
  (false = true → qa (PUnit.unit, false)) ∧
    (false = false →
      (decide ((↑l.length : Int) > 60) = true → qa (PUnit.unit, true)) ∧ (decide ((↑l.length : Int) > 60) = false → True ∧ brIn l (IntKind.i64.wrap (m.tmod 9)) (IntKind.i64.wrap (IntKind.i64.wrap (e.tmod 12) + 1)) 0 0 0 (bkMost (IntKind.i64.wrap (m.tmod 9))) (bkEach (IntKind.i64.wrap (IntKind.i64.wrap (e.tmod 12) + 1))) (bkMost (IntKind.i64.wrap (m.tmod 9))) 0 ∧ qa (PUnit.unit, true)))) := by kernel_rfl

theorem rate_step {m e n a now' : Int} (hok : bkOk m e n a) (h : a ≤ now') (h' : now' ≤ 1099511627776) : bkNow a now' = now' ∧ bkN m e (bkN m e n a now') now' now' = bkN m e n a now' ∧ bkNow now' now' = now' ∧ bkN m e n a now' ≤ n + now' / e - a / e := by
  obtain ⟨_, h1, h2, _⟩ := bk_n (now := now') hok
  have n1 : bkNow a now' = now' := by unfold bkNow; omega
  have n2 : bkNow now' now' = now' := by unfold bkNow; omega
  refine ⟨n1, ?_, n2, ?_⟩
  · show min (bkN m e n a now' + bkNow now' now' / e - now' / e) m = _
    rw [n2]; omega
  · unfold bkN; rw [n1]; omega
theorem rate_round (most each n a m e now taken i : Int) (l : List UInt8) (h : brIn l m e now taken i most each n a) :
    lapRates.run Try.prog bkBookK 9 0 [] 6 (((most, each, n, a), ()), (l, m, e, (), now, taken, i))
      (fun x' => lapRates.inv x' ∧ ((x'.2.1.length : Int) - x'.2.2.2.2.2.2.2 : Int).toNat < ((l.length : Int) - i).toNat ∧ (∀ y, lapRates.relA x' y → lapRates.relA (((most, each, n, a), ()), (l, m, e, (), now, taken, i)) y) ∧ ∀ y, lapRates.relB x' y → lapRates.relB (((most, each, n, a), ()), (l, m, e, (), now, taken, i)) y)
      (lapRates.relA (((most, each, n, a), ()), (l, m, e, (), now, taken, i))) (lapRates.relB (((most, each, n, a), ()), (l, m, e, (), now, taken, i))) := by
  refine (rate_vc most each n a m e now taken i l _ _ _).mpr ?_
  obtain ⟨h1, h2, h3, h4, h5, h6, h7, h8, h9, rfl, rfl, h10, h11, h12, h13, h14, h15, h16⟩ := h
  obtain ⟨b, hb, hb0⟩ : ∃ b : Int, b = ((UInt8.toNat (l.getD i.toNat Ty.byte.dflt) : Nat) : Int) ∧ 0 ≤ b ∧ b < 256 := ⟨_, rfl, by omega, by have := UInt8.toNat_lt (l.getD i.toNat Ty.byte.dflt); omega⟩
  rw [← hb]
  clear hb
  have t1 : b.tmod 5 = b % 5 := Int.tmod_eq_emod_of_nonneg hb0.1
  rw [t1, w64 (n := b % 5) (by omega) (by omega), w64 (n := now + b % 5) (by omega) (by omega)]
  obtain ⟨t, ht⟩ : ∃ t, t = now + b % 5 := ⟨_, rfl⟩
  rw [← ht]
  have ht0 : now ≤ t := by omega
  have ht1 : t ≤ 4 * (i + 1) := by omega
  clear ht t1 hb0
  have hok : bkOk most each n a := ⟨h2, by omega, h4, by omega, h10, h11, h12, by omega⟩
  obtain ⟨n1, n2, n3, n4⟩ := rate_step (now' := t) hok (by omega) (by omega)
  obtain ⟨_, g1, g2, g3⟩ := bk_n (now := t) hok
  rw [n1] at g3 ⊢
  rw [n2, n3]
  have d1 : t.tdiv each = t / each := Int.tdiv_eq_ediv_of_nonneg (by omega)
  have d2 : 0 ≤ t / each := Int.ediv_nonneg (by omega) (by omega)
  have d3 : t / each ≤ t := Int.ediv_le_self _ (by omega)
  rw [d1, w64 (n := t / each) (by omega) (by omega), w64 (n := most + t / each) (by omega) (by omega), w64 (n := taken + 1) (by omega) (by omega)]
  obtain ⟨x, hx⟩ : ∃ x, x = bkN most each n a t := ⟨_, rfl⟩
  rw [← hx] at g1 g2 g3 n4 ⊢
  have d4 : 0 ≤ a / each := Int.ediv_nonneg h12 (by omega)
  refine ⟨fun hi => ?_, fun _ => trivial⟩
  have hi : i < (l.length : Int) := by simpa using hi
  rw [w64 (n := i + 1) (by omega) (by omega)]
  refine ⟨⟨h6, hi⟩, by omega, hok, g3, fun hc => ?_, fun _ => ⟨fun hp => ?_, fun hp => ?_⟩⟩
  · exfalso
    by_cases hz : x = 0
    · subst hz; simp at hc
    · have : x > 0 := by omega
      simp [hz, this] at hc
  · have hp : x > 0 := by simpa using hp
    refine ⟨by omega, fun hc => ?_, fun _ => ⟨fun hc => ?_, fun _ => ⟨fun hc => ?_, fun _ => ?_⟩⟩⟩
    · have : taken + 1 > most + t / each := by simpa using hc
      omega
    · have : x > most := by simpa using hc
      omega
    · have : x < 0 := by simpa using hc
      omega
    · rw [if_neg (by omega)]
      refine ⟨⟨h1, h2, h3, h4, h5, by omega, by omega, by omega, by omega, rfl, rfl, by omega, by omega, by omega, by omega, by omega, by omega, ?_⟩, ?_, fun y hy => hy, fun y hy => hy⟩
      · show _ ≤ most + t / each
        omega
      · show ((l.length : Int) - (i + 1)).toNat < ((l.length : Int) - i).toNat
        omega
  · have hp : ¬ x > 0 := by simpa using hp
    refine ⟨by omega, fun hc => ?_, fun _ => ⟨fun hc => ?_, fun _ => ⟨fun hc => ?_, fun _ => ?_⟩⟩⟩
    · have : taken > most + t / each := by simpa using hc
      omega
    · have : x > most := by simpa using hc
      omega
    · have : x < 0 := by simpa using hc
      omega
    · rw [if_pos (by omega)]
      refine ⟨⟨h1, h2, h3, h4, h5, by omega, by omega, by omega, by omega, rfl, rfl, by omega, by omega, by omega, by omega, by omega, by omega, ?_⟩, ?_, fun y hy => hy, fun y hy => hy⟩
      · show _ ≤ most + t / each
        omega
      · show ((l.length : Int) - (i + 1)).toNat < ((l.length : Int) - i).toNat
        omega
theorem rates_lap : LapOk Try.prog 0 (codeOf Try.prog 6) lapRates := by
  refine Lap.proved mixed prog_ok bk_bookK (by kernel_rfl) (by kernel_rfl) LapsOk.nil 9 (fun x => ((x.2.1.length : Int) - x.2.2.2.2.2.2.2 : Int).toNat) ?_
  rintro ⟨⟨⟨most, each, n, a⟩, ⟨⟩⟩, l, m, e, ⟨⟩, now, taken, i⟩ h
  exact rate_round most each n a m e now taken i l h
theorem rates_run (m e : Int) (l : List UInt8) (hm0 : 0 ≤ m) (hm1 : m < 256) (he0 : 0 ≤ e) (he1 : e < 256) (qb : conRates.B.den → Prop) :
    conRates.run Try.prog bkBookK 9 [lapRates] 6 (fun _ => true) ((), (m, e, l)) (fun y => conRates.spec ((), (m, e, l)) = .inl y) qb := by
  refine (rates_vc m e l _ _).mpr ?_
  have t1 : m.tmod 9 = m % 9 := Int.tmod_eq_emod_of_nonneg hm0
  have t2 : e.tmod 12 = e % 12 := Int.tmod_eq_emod_of_nonneg he0
  rw [t1, t2, w64 (n := m % 9) (by omega) (by omega), w64 (n := e % 12) (by omega) (by omega), w64 (n := e % 12 + 1) (by omega) (by omega)]
  refine ⟨trivial, fun h => (by cases h), fun _ => ⟨fun _ => rfl, fun hl => ?_⟩⟩
  have hl : ¬ (l.length : Int) > 60 := by simpa using hl
  have q1 : bkMost (m % 9) = m % 9 := by unfold bkMost; omega
  have q2 : bkEach (e % 12 + 1) = e % 12 + 1 := by unfold bkEach; omega
  rw [q1, q2]
  have z : (0 : Int) / (e % 12 + 1) = 0 := Int.zero_ediv _
  refine ⟨trivial, ?_, rfl⟩
  unfold brIn
  omega
theorem rates_ok : ConOk Try.prog 6 conRates := by
  refine Con.proved mixed prog_ok bk_bookK (by kernel_rfl) (.cons rates_lap (by kernel_rfl) .nil) 9 (fun _ => true) (fun _ => rfl) (.inr fun x y _ h => by cases h) ?_
  rintro ⟨⟨⟩, m, e, l⟩ ⟨h1, h2, h3⟩
  have h1 := u8_wf h1
  have h2 := u8_wf h2
  exact rates_run m e l h1.1 h1.2 h2.1 h2.2 _
end Go.Vx
