/- The bucket: what New, Left, Take come to. (A help: no statement of the seat is proved here.) -/
import Derived.Test.YtgmlklaehklmoaaVxP
import Derived.Test.YtgmlklaehklmoaaChecked
import Derived.KernelRfl
set_option maxRecDepth 1000000
set_option linter.unusedVariables false
set_option linter.unusedSimpArgs false
namespace Go.Vx
open Go Go.Vx Go.Proofs

theorem mixed : Try.prog.follows .mixedOrders = true := by kernel_rfl
theorem prog_ok : progOk Try.prog = true := by kernel_rfl

/-! Whole numbers. -/
theorem w64 {n : Int} (h0 : -9223372036854775808 ≤ n) (h1 : n < 9223372036854775808) : IntKind.i64.wrap n = n := by
  simp only [IntKind.wrap, IntKind.signed, IntKind.bits, if_true]
  simp
  omega

def bkNow (a now : Int) : Int := max (min now 1099511627776) a
def bkN (most each n a now : Int) : Int := min (n + bkNow a now / each - a / each) most
def bkOk (most each n a : Int) : Prop := 0 ≤ most ∧ most ≤ 1048576 ∧ 1 ≤ each ∧ each ≤ 1048576 ∧ 0 ≤ n ∧ n ≤ most ∧ 0 ≤ a ∧ a ≤ 1099511627776

def bkP : VP := .cat (.int .i64) (.cat (.int .i64) (.cat (.int .i64) (.int .i64)))
def bkR : RP := .cells bkP 0 false
def conLeft : Con where
  D := ⟨[bkR], .cat (.ptr 0 0 0 0) (.int .i64)⟩
  A := ⟨[bkR], .int .i64⟩
  pre := fun (((most, each, n, a), _), (_, now)) => bkOk most each n a
  spec := fun (((most, each, n, a), _), (_, now)) => .inl (((most, each, bkN most each n a now, bkNow a now), ()), bkN most each n a now)
def conTake : Con where
  D := ⟨[bkR], .cat (.ptr 0 0 0 0) (.int .i64)⟩
  A := ⟨[bkR], .bool⟩
  pre := fun (((most, each, n, a), _), (_, now)) => bkOk most each n a
  spec := fun (((most, each, n, a), _), (_, now)) => .inl (((most, each, if bkN most each n a now = 0 then 0 else bkN most each n a now - 1, bkNow a now), ()), decide (bkN most each n a now ≠ 0))
def bkMost (most : Int) : Int := min (max most 0) 1048576
def bkEach (each : Int) : Int := min (max each 1) 1048576
def conNew : Con where
  D := ⟨[], .cat (.int .i64) (.int .i64)⟩
  A := ⟨[bkR], .ptr 0 0 0 0⟩
  spec := fun (_, (most, each)) => .inl (((bkMost most, bkEach each, bkMost most, 0), ()), ())

theorem left_vc (most each n a now : Int) (qa : conLeft.A.den → Prop) (qb : conLeft.B.den → Prop) : (conLeft.run Try.prog Book.none 9 [] 22 (fun _ => true) (((most, each, n, a), ()), ((), now)) qa qb) =
  (each ≠ 0 ∧ each ≠ 0 ∧ qa (((most, each, mn2 (IntKind.i64.wrap (IntKind.i64.wrap (n + IntKind.i64.wrap ((mx2 (mn2 now 1099511627776) a).tdiv each)) - IntKind.i64.wrap (a.tdiv each))) most, mx2 (mn2 now 1099511627776) a), PUnit.unit), mn2 (IntKind.i64.wrap (IntKind.i64.wrap (n + IntKind.i64.wrap ((mx2 (mn2 now 1099511627776) a).tdiv each)) - IntKind.i64.wrap (a.tdiv each))) most)) := by kernel_rfl

theorem new_vc (most each : Int) (qa : conNew.A.den → Prop) (qb : conNew.B.den → Prop) : (conNew.run Try.prog Book.none 9 [] 18 (fun _ => true) ((), (most, each)) qa qb) =
  (qa (((mn2 (mx2 most 0) 1048576, mn2 (mx2 each 1) 1048576, mn2 (mx2 most 0) 1048576, 0), PUnit.unit), PUnit.unit)) := by kernel_rfl

theorem take_vc (most each n a now : Int) (qa : conTake.A.den → Prop) (qb : conTake.B.den → Prop) : (conTake.run Try.prog (Book.none.add 22 conLeft) 9 [] 20 (fun _ => true) (((most, each, n, a), ()), ((), now)) qa qb) =
  (bkOk most each n a ∧ ((bkN most each n a now == 0) = true → qa (((most, each, bkN most each n a now, bkNow a now), PUnit.unit), false)) ∧ ((bkN most each n a now == 0) = false → qa (((most, each, IntKind.i64.wrap (bkN most each n a now - 1), bkNow a now), PUnit.unit), true))) := by kernel_rfl

theorem bk_now {a now : Int} (h : 0 ≤ a) (h' : a ≤ 1099511627776) : a ≤ bkNow a now ∧ bkNow a now ≤ 1099511627776 := by unfold bkNow; omega
theorem bk_n {most each n a now : Int} (h : bkOk most each n a) : mn2 (IntKind.i64.wrap (IntKind.i64.wrap (n + IntKind.i64.wrap ((bkNow a now).tdiv each)) - IntKind.i64.wrap (a.tdiv each))) most = bkN most each n a now ∧
    0 ≤ bkN most each n a now ∧ bkN most each n a now ≤ most ∧ bkOk most each (bkN most each n a now) (bkNow a now) := by
  obtain ⟨h1, h2, h3, h4, h5, h6, h7, h8⟩ := h
  obtain ⟨ha, hb⟩ := bk_now (now := now) h7 h8
  have e1 : (bkNow a now).tdiv each = bkNow a now / each := Int.tdiv_eq_ediv_of_nonneg (by omega)
  have e2 : a.tdiv each = a / each := Int.tdiv_eq_ediv_of_nonneg h7
  have d1 : a / each ≤ bkNow a now / each := Int.ediv_le_ediv (by omega) ha
  have d2 : bkNow a now / each ≤ bkNow a now := Int.ediv_le_self _ (by omega)
  have d3 : 0 ≤ a / each := Int.ediv_nonneg h7 (by omega)
  rw [e1, e2, mn2_eq]
  unfold bkN
  generalize bkNow a now / each = x at *
  generalize a / each = y at *
  rw [w64 (n := x) (by omega) (by omega), w64 (n := y) (by omega) (by omega), w64 (n := n + x) (by omega) (by omega), w64 (n := n + x - y) (by omega) (by omega)]
  exact ⟨rfl, by omega, by omega, h1, h2, h3, h4, by omega, by omega, by omega, hb⟩
theorem bk_now' (a now : Int) : mx2 (mn2 now 1099511627776) a = bkNow a now := by rw [mx2_eq, mn2_eq]; rfl
theorem left_run (most each n a now : Int) (h : bkOk most each n a) (qb : conLeft.B.den → Prop) : conLeft.run Try.prog Book.none 9 [] 22 (fun _ => true) (((most, each, n, a), ()), ((), now)) (fun y => conLeft.spec (((most, each, n, a), ()), ((), now)) = .inl y) qb := by
  refine (left_vc most each n a now _ _).mpr ?_
  have h3 := h.2.2.1
  rw [bk_now', (bk_n h).1]
  exact ⟨by omega, by omega, rfl⟩
theorem left_ok : ConOk Try.prog 22 conLeft := by
  refine Con.proved mixed prog_ok (BookOk.none _) (by kernel_rfl) LapsOk.nil 9 (fun _ => true) (fun _ => rfl) (.inr fun x y _ h => by cases h) ?_
  rintro ⟨⟨⟨most, each, n, a⟩, _⟩, _, now⟩ h
  exact left_run most each n a now h _
theorem bk_most (most : Int) : mn2 (mx2 most 0) 1048576 = bkMost most := by rw [mx2_eq, mn2_eq]; rfl
theorem bk_each (each : Int) : mn2 (mx2 each 1) 1048576 = bkEach each := by rw [mx2_eq, mn2_eq]; rfl
theorem new_run (most each : Int) (qb : conNew.B.den → Prop) : conNew.run Try.prog Book.none 9 [] 18 (fun _ => true) ((), (most, each)) (fun y => conNew.spec ((), (most, each)) = .inl y) qb := by
  refine (new_vc most each _ _).mpr ?_
  rw [bk_most, bk_each]
  rfl
theorem new_ok : ConOk Try.prog 18 conNew := by
  refine Con.proved mixed prog_ok (BookOk.none _) (by kernel_rfl) LapsOk.nil 9 (fun _ => true) (fun _ => rfl) (.inr fun x y _ h => by cases h) ?_
  rintro ⟨_, most, each⟩ _
  exact new_run most each _
theorem bk_book1 : BookOk Try.prog (Book.none.add 22 conLeft) := (BookOk.none _).add left_ok
theorem take_run (most each n a now : Int) (h : bkOk most each n a) (qb : conTake.B.den → Prop) : conTake.run Try.prog (Book.none.add 22 conLeft) 9 [] 20 (fun _ => true) (((most, each, n, a), ()), ((), now)) (fun y => conTake.spec (((most, each, n, a), ()), ((), now)) = .inl y) qb := by
  refine (take_vc most each n a now _ _).mpr ?_
  obtain ⟨_, h1, h2, h3⟩ := bk_n (now := now) h
  have h4 := h3.2.1
  refine ⟨h, fun e => ?_, fun e => ?_⟩
  · have e : bkN most each n a now = 0 := by simpa using e
    simp [conTake, e]
  · have e : ¬ bkN most each n a now = 0 := by simpa using e
    rw [w64 (by omega) (by omega)]
    simp [conTake, e]
theorem take_ok : ConOk Try.prog 20 conTake := by
  refine Con.proved mixed prog_ok bk_book1 (by kernel_rfl) LapsOk.nil 9 (fun _ => true) (fun _ => rfl) (.inr fun x y _ h => by cases h) ?_
  rintro ⟨⟨⟨most, each, n, a⟩, _⟩, _, now⟩ h
  exact take_run most each n a now h _
def bkBook : Book := ((Book.none.add 22 conLeft).add 20 conTake).add 18 conNew
theorem bk_book : BookOk Try.prog bkBook := (bk_book1.add take_ok).add new_ok
end Go.Vx
