/- Calls by contract where there is one, in place else; the conditions that are to be shown of a function, of a loop. (A help: no statement of the seat is proved here.) -/
import Derived.Test.YtgmlklaehklmoaaVxO
set_option linter.unusedVariables false
set_option linter.unusedSimpArgs false
namespace Go.Vx
section book
variable (P : Program) (T : Book)
noncomputable def clB : Nat → Caller
  | 0 => T.cl
  | n + 1 => fun f args H => match T f args with
    | some _ => T.cl f args H
    | none => match P.funcs[f]? with
      | some fn => match fn.body with
        | some c => bodyA P (clB n) 60 fn c args H
        | none => none
      | none => none
/-- Calls: by the book, else in place. -/
def bookS : Nat → Handler
  | 0 => T.S
  | n + 1 => fun f args H k => match T f args with
    | some _ => T.S f args H k
    | none => match P.funcs[f]? with
      | some fn => match fn.body with
        | some c => match codePl P c with
          | true => bodyS P (bookS n) (bookS n) (fun _ _ _ _ => none) 60 fn c args H k
          | false => False
        | none => False
      | none => False
end book
section sound
variable {P : Program} {T : Book}
theorem clB_sound (hm : P.follows .mixedOrders = true) (hT : BookOk P T) : ∀ n, CallOk P (clB P T n)
  | 0 => T.callOk hT
  | n + 1 => fun f args H v H' h => by
    simp only [clB] at h
    split at h
    · exact T.callOk hT f args H v H' h
    · split at h
      · rename_i fn hf
        split at h
        · rename_i c hb
          exact fun β w cargs hR ha => body_sound hm (clB_sound hm hT n) hf hb h hR ha
        · cases h
      · cases h
theorem clB_later : ∀ n, ClLater (clB P T n)
  | 0 => T.later
  | n + 1 => fun f args H v H' h => by
    simp only [clB] at h
    split at h
    · exact T.later f args H v H' h
    · split at h
      · split at h
        · unfold bodyA at h
          split at h
          · split at h
            · rename_i m H1 he
              obtain ⟨_, _, he2⟩ := map_some h
              simp only [Prod.mk.injEq] at he2
              rw [← he2.2]
              exact execA_later (clB_later n) 60 _ he
            · rename_i m H1 he
              obtain ⟨_, _, he2⟩ := map_some h
              simp only [Prod.mk.injEq] at he2
              rw [← he2.2]
              exact execA_later (clB_later n) 60 _ he
            · cases h
          · cases h
        · cases h
      · cases h
theorem bookS_run : ∀ n, ClS (bookS P T n) (clB P T n)
  | 0 => T.cls
  | n + 1 => fun f args H k h => by
    simp only [bookS] at h
    simp only [clB]
    split at h
    · rename_i C hC
      exact T.cls f args H k h
    · split at h
      · rename_i fn hf
        split at h
        · rename_i c hc
          split at h
          · rename_i hpl
            unfold bodyS at h
            split at h
            · exact h.elim
            · rename_i hl
              obtain ⟨o, m, H', he, h⟩ := execS_run (bookS_run n) (clB_later n) 60 c hpl h
              have hle : args.length ≤ fn.ntmps := Nat.le_of_ble_eq_true hl
              cases o with
              | norm =>
                obtain ⟨l, hr, hk⟩ := must_elim h
                exact ⟨_, _, by simp only [bodyA, if_pos hle, he, hr, Option.map_some], hk⟩
              | ret =>
                obtain ⟨l, hr, hk⟩ := must_elim h
                exact ⟨_, _, by simp only [bodyA, if_pos hle, he, hr, Option.map_some], hk⟩
              | exit id => exact h.elim
          · exact h.elim
        · exact h.elim
      · exact h.elim
theorem bookS_ok (hm : P.follows .mixedOrders = true) (hT : BookOk P T) (n : Nat) : HOk P (bookS P T n) := ⟨clB P T n, bookS_run n, clB_sound hm hT n, clB_later n⟩
end sound

/-! Functions by number. -/
noncomputable def fnOf (P : Program) (f : Nat) : Func := (P.funcs[f]?).getD default
noncomputable def codeOf (P : Program) (f : Nat) : Code := match (fnOf P f).body with
  | some c => c
  | none => .skip
def isFn (P : Program) (f : Nat) : Bool := match P.funcs[f]? with
  | some fn => fn.body.isSome
  | none => false
theorem isFn_spec {P : Program} {f : Nat} (h : isFn P f = true) : P.funcs[f]? = some (fnOf P f) ∧ (fnOf P f).body = some (codeOf P f) := by
  unfold isFn at h
  unfold codeOf
  split at h
  · rename_i fn hf
    have e : fnOf P f = fn := by unfold fnOf; rw [hf]; rfl
    rw [e]
    refine ⟨hf, ?_⟩
    cases hb : fn.body with
    | none => rw [hb] at h; cases h
    | some c => rfl
  · cases h
theorem codeOk_of {P : Program} (hP : progOk P = true) {f : Nat} (h : isFn P f = true) : codeOk P (codeOf P f) = true := fn_ok hP (isFn_spec h).1 (isFn_spec h).2
theorem codeOk_loops {P : Program} : ∀ {c b : Code}, codeOk P c = true → b ∈ loops c → codeOk P b = true := by
  intro c
  induction c with
  | seq x y ihx ihy =>
    intro b hc hb
    simp only [codeOk, Bool.and_eq_true] at hc
    simp only [loops, List.mem_append] at hb
    rcases hb with hb | hb
    · exact ihx hc.1 hb
    · exact ihy hc.2 hb
  | cond q x y ihx ihy =>
    intro b hc hb
    simp only [codeOk, Bool.and_eq_true] at hc
    simp only [loops, List.mem_append] at hb
    rcases hb with hb | hb
    · exact ihx hc.1 hb
    · exact ihy hc.2 hb
  | block id x ih => intro b hc hb; exact ih (by simpa only [codeOk] using hc) hb
  | loop x ih =>
    intro b hc hb
    have hc : codeOk P x = true := by simpa only [codeOk] using hc
    simp only [loops, List.mem_cons] at hb
    rcases hb with rfl | hb
    · exact hc
    · exact ih hc hb
  | _ => intro b hc hb; simp [loops] at hb

/-- What is to be shown of a function. -/
def Con.run (P : Program) (T : Book) (d : Nat) (ls : List Lap) (f : Nat) (C : Con) (sel : AV → Bool) (x : C.D.den) (qa : C.A.den → Prop) (qb : C.B.den → Prop) : Prop :=
  bodyS P (bookS P T d) (bookS P T d) (lapsL C.D.rows.length ls) 100 (fnOf P f) (codeOf P f) (C.D.args x) (C.D.heap x) (endC C.D.rows.length sel C.A C.B qa qb)
/-- What is to be shown of a loop. -/
def Lap.run (P : Program) (T : Book) (d K : Nat) (ls : List Lap) (f : Nat) (l : Lap) (x : l.D.den) (again : l.D.den → Prop) (qa : l.A.den → Prop) (qb : l.B.den → Prop) : Prop :=
  execS P (bookS P T d) (bookS P T d) (lapsL K ls) 100 (loopAt (codeOf P f) l.id) (l.tm x) (l.D.heap x) (l.round K again qa qb)

def LapsOk (P : Program) (K f : Nat) (ls : List Lap) : Prop := ∀ l, l ∈ ls → LapOk P K (codeOf P f) l ∧ oneLoop (codeOf P f) l.id = true
theorem LapsOk.nil {P : Program} {K f : Nat} : LapsOk P K f [] := fun l h => by simp at h
theorem LapsOk.cons {P : Program} {K f : Nat} {l : Lap} {ls : List Lap} (h : LapOk P K (codeOf P f) l) (h1 : oneLoop (codeOf P f) l.id = true) (hs : LapsOk P K f ls) : LapsOk P K f (l :: ls) := fun l' hl => by
  rcases List.mem_cons.1 hl with rfl | hl
  · exact ⟨h, h1⟩
  · exact hs l' hl

theorem Con.proved {P : Program} (hm : P.follows .mixedOrders = true) (hP : progOk P = true) {T : Book} (hT : BookOk P T) {f : Nat} {C : Con} (hf : isFn P f = true) {ls : List Lap} (hls : LapsOk P C.D.rows.length f ls) (d : Nat) (sel : AV → Bool)
    (hA : ∀ y, (C.A.args y).length = 1) (hB : (∀ y, (C.B.args y).length = 1) ∨ ∀ x y, C.pre x → C.spec x ≠ .inr y)
    (h : ∀ x, C.pre x → C.run P T d ls f sel x (fun y => C.spec x = .inl y) (fun y => C.spec x = .inr y)) : ConOk P f C :=
  con_ok hm (bookS_ok hm hT d) (isFn_spec hf).1 (isFn_spec hf).2 (codeOk_of hP hf) hls 100 sel hA hB h
theorem Lap.proved {P : Program} (hm : P.follows .mixedOrders = true) (hP : progOk P = true) {T : Book} (hT : BookOk P T) {K f : Nat} {l : Lap} (hf : isFn P f = true) (h1 : oneLoop (codeOf P f) l.id = true) {ls : List Lap} (hls : LapsOk P K f ls) (d : Nat) (μ : l.D.den → Nat)
    (h : ∀ x, l.inv x → l.run P T d K ls f x (fun x' => l.inv x' ∧ μ x' < μ x ∧ (∀ y, l.relA x' y → l.relA x y) ∧ ∀ y, l.relB x' y → l.relB x y) (l.relA x) (l.relB x)) : LapOk P K (codeOf P f) l := by
  refine lap_ok hm (bookS_ok hm hT d) hls h1 ?_ 100 μ h
  have : loopAt (codeOf P f) l.id ∈ loopsOf (codeOf P f) l.id := by rw [oneLoop_spec h1]; simp
  exact codeOk_loops (codeOk_of hP hf) (List.mem_filter.1 this).1

/-! Books. -/
def Book.none : Book := fun _ _ => .none
theorem BookOk.none (P : Program) : BookOk P Book.none := fun f args C h => by cases h
def Book.add (T : Book) (f : FuncId) (C : Con) : Book := fun g args => match Nat.beq g f with
  | true => some C
  | false => T g args
theorem BookOk.add {P : Program} {T : Book} (hT : BookOk P T) {f : FuncId} {C : Con} (h : ConOk P f C) : BookOk P (T.add f C) := fun g args C' hC => by
  unfold Book.add at hC
  split at hC
  · rename_i e; cases hC; rw [Nat.eq_of_beq_eq_true e]; exact h
  · exact hT g args C' hC
/-- Two contracts of one function: which, its arguments say. -/
def Book.add2 (T : Book) (f : FuncId) (sel : List AV → Bool) (C C' : Con) : Book := fun g args => match Nat.beq g f with
  | true => match sel args with
    | true => some C
    | false => some C'
  | false => T g args
theorem BookOk.add2 {P : Program} {T : Book} (hT : BookOk P T) {f : FuncId} {sel : List AV → Bool} {C C' : Con} (h : ConOk P f C) (h' : ConOk P f C') : BookOk P (T.add2 f sel C C') := fun g args C1 hC => by
  unfold Book.add2 at hC
  split at hC
  · rename_i e
    rw [Nat.eq_of_beq_eq_true e]
    split at hC
    · cases hC; exact h
    · cases hC; exact h'
  · exact hT g args C1 hC
end Go.Vx
