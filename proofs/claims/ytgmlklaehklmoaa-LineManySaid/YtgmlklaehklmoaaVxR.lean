/- Functions and loops told as plain functions. (A help: no statement of the seat is proved here.) -/
import Derived.Test.YtgmlklaehklmoaaVxQ
set_option linter.unusedVariables false
set_option linter.unusedSimpArgs false
namespace Go.Vx

/-- A run told as a tree: what it asks, what it answers. -/
inductive Tr (α : Type) : Type 1 where
  | ret (y : α)
  | bad
  | br (c : Bool) (a b : Tr α)
  | chk (p : Prop) [d : Decidable p] (a : Tr α)
  | ok (p : Prop) (h : p) (a : Tr α)
  | twice (a : Tr α)
  | call {β : Type} (o : Option β) (k : β → Tr α)
  | both {β γ : Type} (o : Option (β ⊕ γ)) (k : β → Tr α) (l : γ → Tr α)
/-- What is to be shown of it. -/
def Tr.wp {α : Type} : Tr α → (α → Prop) → Prop
  | .ret y, q => q y
  | .bad, _ => False
  | .br c a b, q => (c = true → a.wp q) ∧ (c = false → b.wp q)
  | @Tr.chk _ p _ a, q => p ∧ a.wp q
  | .ok p _ a, q => p ∧ a.wp q
  | .twice a, q => Twice (a.wp q) (a.wp q)
  | .call o k, q => o ≠ none ∧ o ≠ none ∧ ∀ y, o = some y → (k y).wp q
  | .both o k l, q => o ≠ none ∧ o ≠ none ∧ (∀ y, o = some (.inl y) → (k y).wp q) ∧ ∀ y, o = some (.inr y) → (l y).wp q
/-- What it answers. -/
def Tr.val {α : Type} : Tr α → Option α
  | .ret y => some y
  | .bad => none
  | .br c a b => bif c then a.val else b.val
  | @Tr.chk _ p d a => @ite _ p d a.val none
  | .ok _ _ a => a.val
  | .twice a => a.val
  | .call o k => match o with
    | none => none
    | some y => (k y).val
  | .both o k l => match o with
    | none => none
    | some (.inl y) => (k y).val
    | some (.inr y) => (l y).val
theorem Tr.wp_of_val {α : Type} {q : α → Prop} : ∀ {t : Tr α} {y : α}, t.val = some y → q y → t.wp q
  | .ret z, y, h, hq => by simp only [Tr.val, Option.some.injEq] at h; subst h; exact hq
  | .bad, y, h, _ => by simp [Tr.val] at h
  | .br c a b, y, h, hq => by
    cases c with
    | true => exact ⟨fun _ => Tr.wp_of_val (t := a) (by simpa [Tr.val] using h) hq, fun e => by cases e⟩
    | false => exact ⟨fun e => (by cases e), fun _ => Tr.wp_of_val (t := b) (by simpa [Tr.val] using h) hq⟩
  | @Tr.chk _ p d a, y, h, hq => by
    simp only [Tr.val] at h
    split at h
    · rename_i hp; exact ⟨hp, Tr.wp_of_val h hq⟩
    · cases h
  | .ok p hp a, y, h, hq => ⟨hp, Tr.wp_of_val (t := a) h hq⟩
  | .twice a, y, h, hq => ⟨Tr.wp_of_val (t := a) h hq, Tr.wp_of_val (t := a) h hq⟩
  | .call o k, y, h, hq => by
    cases o with
    | none => simp [Tr.val] at h
    | some z => exact ⟨by simp, by simp, fun z' e => by cases e; exact Tr.wp_of_val h hq⟩
  | .both o k l, y, h, hq => by
    match o, h with
    | none, h => simp [Tr.val] at h
    | some (.inl z), h => exact ⟨by simp, by simp, fun z' e => (by cases e; exact Tr.wp_of_val h hq), fun z' e => by cases e⟩
    | some (.inr z), h => exact ⟨by simp, by simp, fun z' e => (by cases e), fun z' e => by cases e; exact Tr.wp_of_val h hq⟩
theorem Tr.wp_mono {α : Type} {q q' : α → Prop} (hq : ∀ y, q y → q' y) : ∀ {t : Tr α}, t.wp q → t.wp q'
  | .ret z, h => hq z h
  | .bad, h => h
  | .br c a b, h => ⟨fun e => Tr.wp_mono hq (h.1 e), fun e => Tr.wp_mono hq (h.2 e)⟩
  | @Tr.chk _ p _ a, h => ⟨h.1, Tr.wp_mono hq h.2⟩
  | .ok p _ a, h => ⟨h.1, Tr.wp_mono hq h.2⟩
  | .twice a, h => ⟨Tr.wp_mono hq h.1, Tr.wp_mono hq h.2⟩
  | .call o k, h => ⟨h.1, h.1, fun y e => Tr.wp_mono hq (h.2.2 y e)⟩
  | .both o k l, h => ⟨h.1, h.1, fun y e => Tr.wp_mono hq (h.2.2.1 y e), fun y e => Tr.wp_mono hq (h.2.2.2 y e)⟩

/-! Loops. -/
section loops
variable {σ ρ : Type} (body : σ → Tr (σ ⊕ ρ))
def iter : Nat → σ → Option ρ
  | 0, _ => none
  | n + 1, s => match (body s).val with
    | none => none
    | some (.inl s') => iter n s'
    | some (.inr r) => some r
/-- How often a loop may be gone round. -/
def rounds : Nat := 1125899906842624
def Loop (s : σ) : Option ρ := iter body rounds s
theorem iter_mono : ∀ (n : Nat) (s : σ) (r : ρ), iter body n s = some r → iter body (n + 1) s = some r := by
  intro n
  induction n with
  | zero => intro s r h; simp [iter] at h
  | succ n ih =>
    intro s r h
    rw [iter] at h ⊢
    split
    · rename_i e; rw [e] at h; cases h
    · rename_i s' e; rw [e] at h; exact ih s' r h
    · rename_i r' e; rw [e] at h; exact h
theorem iter_le {n m : Nat} (h : n ≤ m) {s : σ} {r : ρ} (hr : iter body n s = some r) : iter body m s = some r := by
  obtain ⟨k, rfl⟩ := Nat.exists_eq_add_of_le h
  induction k with
  | zero => exact hr
  | succ k ih => exact iter_mono body _ _ _ (ih (by omega))
theorem Loop_of {n : Nat} {s : σ} {r : ρ} (h : iter body n s = some r) (hn : n ≤ rounds) : Loop body s = some r := iter_le body hn h
/-- A loop that comes to an end: by what is kept and a number that falls. -/
theorem iter_ends (I : σ → Prop) (μ : σ → Nat) (R : σ → ρ → Prop)
    (h : ∀ s, I s → (∃ r, (body s).val = some (.inr r) ∧ R s r) ∨ ∃ s', (body s).val = some (.inl s') ∧ I s' ∧ μ s' < μ s ∧ ∀ r, R s' r → R s r) :
    ∀ (n : Nat) (s : σ), I s → μ s < n → ∃ r, iter body n s = some r ∧ R s r := by
  intro n
  induction n with
  | zero => intro s _ hn; omega
  | succ n ih =>
    intro s hi hn
    rw [iter]
    rcases h s hi with ⟨r, e, hr⟩ | ⟨s', e, hi', hm, hR⟩
    · rw [e]; exact ⟨r, rfl, hr⟩
    · rw [e]
      obtain ⟨r, e', hr⟩ := ih s' hi' (by omega)
      exact ⟨r, e', hR r hr⟩
theorem Loop_ends (I : σ → Prop) (μ : σ → Nat) (R : σ → ρ → Prop)
    (h : ∀ s, I s → (∃ r, (body s).val = some (.inr r) ∧ R s r) ∨ ∃ s', (body s).val = some (.inl s') ∧ I s' ∧ μ s' < μ s ∧ ∀ r, R s' r → R s r)
    {s : σ} (hi : I s) (hm : μ s < rounds) : ∃ r, Loop body s = some r ∧ R s r := iter_ends body I μ R h rounds s hi hm
theorem least {p : Nat → Prop} (h : ∃ n, p n) : ∃ n, p n ∧ ∀ m, p m → n ≤ m := by
  obtain ⟨n, hn⟩ := h
  induction n using Nat.strongRecOn with
  | ind n ih =>
    by_cases e : ∃ m, m < n ∧ p m
    · obtain ⟨m, hm, hp⟩ := e; exact ih m hm hp
    · exact ⟨n, hn, fun m hm => Nat.le_of_not_lt fun hlt => e ⟨m, hlt, hm⟩⟩
open Classical in
/-- How often it is gone round. -/
noncomputable def turns (s : σ) : Nat := if h : ∃ n, iter body n s ≠ none then (least h).choose else 0
theorem turns_spec {s : σ} {n : Nat} (h : iter body n s ≠ none) : iter body (turns body s) s ≠ none ∧ turns body s ≤ n := by
  have h' : ∃ n, iter body n s ≠ none := ⟨n, h⟩
  unfold turns
  rw [dif_pos h']
  exact ⟨(least h').choose_spec.1, (least h').choose_spec.2 n h⟩
/-- A round of a loop that ends. -/
theorem Loop_round {s : σ} (h : Loop body s ≠ none) : ∃ x, (body s).val = some x ∧ (match x with
    | .inr r => Loop body s = some r
    | .inl s' => Loop body s' = Loop body s ∧ turns body s' < turns body s) := by
  obtain ⟨h1, h2⟩ := turns_spec body h
  cases hn : turns body s with
  | zero => rw [hn] at h1; simp [iter] at h1
  | succ n =>
    rw [hn] at h1 h2
    cases e : (body s).val with
    | none => rw [iter, e] at h1; exact absurd rfl h1
    | some x =>
      refine ⟨x, rfl, ?_⟩
      cases x with
      | inr r =>
        have : iter body (n + 1) s = some r := by rw [iter, e]
        exact iter_le body h2 this
      | inl s' =>
        have e1 : iter body (n + 1) s = iter body n s' := by rw [iter, e]
        rw [e1] at h1
        obtain ⟨_, h4⟩ := turns_spec body h1
        refine ⟨?_, by omega⟩
        cases hr : iter body n s' with
        | none => exact absurd hr h1
        | some r =>
          have a1 : Loop body s' = some r := iter_le body (by omega) hr
          have a2 : Loop body s = some r := iter_le body h2 (e1.trans hr)
          rw [a1, a2]
end loops

/-! Contracts of functions that are told. -/
def VP.dflt : (p : VP) → p.den
  | .bool => false
  | .int _ => (0 : Int)
  | .num _ => (0 : Int)
  | .byte => (0 : UInt8)
  | .str => ([] : List UInt8)
  | .vec _ => []
  | .lit _ => ()
  | .ptr _ _ _ _ => ()
  | .sl _ _ => ()
  | .part _ _ => (0, 0)
  | .nil => ()
  | .cat a b => (a.dflt, b.dflt)
  | .agg l => l.dflt
  | .tup l => l.dflt
  | .func _ a b => (a.dflt, b.dflt)
def RP.dflt : (r : RP) → r.den
  | .vec _ _ _ => []
  | .cells p _ _ => p.dflt
  | .dead => ()
def rowsDflt : (l : List RP) → rowsDen l
  | [] => ()
  | r :: rs => (r.dflt, rowsDflt rs)
def Dom.dflt (D : Dom) : D.den := (rowsDflt D.rows, D.vals.dflt)

def tcon (D A : Dom) {α : Type} (pa : D.den → α → A.den) (F : D.den → Option α) : Con where
  D := D
  A := A
  pre := fun x => F x ≠ none
  spec := fun x => match F x with
    | some y => .inl (pa x y)
    | none => .inl A.dflt
  use := fun x ka _ => F x ≠ none ∧ ∀ y, F x = some y → ka (pa x y)
  ok := fun x ka kb h => by
    cases e : F x with
    | some y => exact h.2 y e
    | none => exact absurd e h.1
theorem tcon_ok {P : Program} (hm : P.follows .mixedOrders = true) (hP : progOk P = true) {T : Book} (hT : BookOk P T) {f : FuncId} {D A : Dom} {α : Type} {pa : D.den → α → A.den} {F : D.den → Option α}
    (hf : isFn P f = true) {ls : List Lap} (hls : LapsOk P D.rows.length f ls) (d : Nat) (hA : ∀ y, (A.args y).length = 1) (t : D.den → Tr α) (hF : ∀ x, F x = (t x).val)
    (h : ∀ x qa qb, (tcon D A pa F).run P T d ls f (fun _ => true) x qa qb = (t x).wp fun y => qa (pa x y)) : ConOk P f (tcon D A pa F) := by
  refine Con.proved hm hP hT hf hls d (fun _ => true) hA (.inr fun x y hx e => ?_) fun x hx => ?_
  · simp only [tcon] at e
    split at e <;> cases e
  · rw [h x]
    have hx : F x ≠ none := hx
    cases e : F x with
    | none => exact absurd e hx
    | some y =>
      refine Tr.wp_of_val ((hF x).symm.trans e) ?_
      simp only [tcon, e]
/-- Two forms of an answer. -/
def tcon2 (D A B : Dom) {α β : Type} (pa : D.den → α → A.den) (pb : D.den → β → B.den) (F : D.den → Option (α ⊕ β)) : Con where
  D := D
  A := A
  B := B
  pre := fun x => F x ≠ none
  spec := fun x => match F x with
    | some (.inl y) => .inl (pa x y)
    | some (.inr y) => .inr (pb x y)
    | none => .inl A.dflt
  use := fun x ka kb => F x ≠ none ∧ (∀ y, F x = some (.inl y) → ka (pa x y)) ∧ ∀ y, F x = some (.inr y) → kb (pb x y)
  ok := fun x ka kb h => by
    match e : F x with
    | some (.inl y) => exact h.2.1 y e
    | some (.inr y) => exact h.2.2 y e
    | none => exact absurd e h.1
theorem tcon2_ok {P : Program} (hm : P.follows .mixedOrders = true) (hP : progOk P = true) {T : Book} (hT : BookOk P T) {f : FuncId} {D A B : Dom} {α β : Type} {pa : D.den → α → A.den} {pb : D.den → β → B.den} {F : D.den → Option (α ⊕ β)}
    (hf : isFn P f = true) {ls : List Lap} (hls : LapsOk P D.rows.length f ls) (d : Nat) (sel : AV → Bool) (hA : ∀ y, (A.args y).length = 1) (hB : ∀ y, (B.args y).length = 1) (t : D.den → Tr (α ⊕ β)) (hF : ∀ x, F x = (t x).val)
    (h : ∀ x qa qb, (tcon2 D A B pa pb F).run P T d ls f sel x qa qb = (t x).wp fun y => match y with
      | .inl y => qa (pa x y)
      | .inr y => qb (pb x y)) : ConOk P f (tcon2 D A B pa pb F) := by
  refine Con.proved hm hP hT hf hls d sel hA (.inl hB) fun x hx => ?_
  rw [h x]
  have hx : F x ≠ none := hx
  match e : F x with
  | none => exact absurd e hx
  | some (.inl y) =>
    refine Tr.wp_of_val ((hF x).symm.trans e) ?_
    simp only [tcon2, e]
  | some (.inr y) =>
    refine Tr.wp_of_val ((hF x).symm.trans e) ?_
    simp only [tcon2, e]

/-- A contract of some calls of a function: which, its arguments say. -/
def Book.addS (T : Book) (f : FuncId) (sel : List AV → Bool) (C : Con) : Book := fun g args => match Nat.beq g f with
  | true => match sel args with
    | true => some C
    | false => T g args
  | false => T g args
theorem BookOk.addS {P : Program} {T : Book} (hT : BookOk P T) {f : FuncId} {sel : List AV → Bool} {C : Con} (h : ConOk P f C) : BookOk P (T.addS f sel C) := fun g args D hD => by
  unfold Book.addS at hD
  split at hD
  · rename_i hg
    have := Nat.eq_of_beq_eq_true hg
    subst this
    split at hD
    · cases hD; exact h
    · exact hT _ _ _ hD
  · exact hT _ _ _ hD
/-- Is an argument a function? -/
def isFunc (i n : Nat) (args : List AV) : Bool := match args[i]? with
  | some (.func (.func m) _ _) => Nat.beq m n
  | _ => false
/-- Does a pointer point to a row's cell? -/
def isAt (i o : Nat) (args : List AV) : Bool := match args[i]? with
  | some (.ptr _ (some r)) => Nat.beq r.o o
  | _ => false
/-- A law that answers true to all that can be asked. -/
theorem law_ok {P : Program} {f : FuncId} {Ts : List Ty} {F : (lawCon Ts).D.den → Option Bool} (h : ConOk P f (tcon (lawCon Ts).D (lawCon Ts).A (fun _ y => ((), y)) F)) (ht : ∀ x, (lawCon Ts).pre x → F x = some true) : ConOk P f (lawCon Ts) := fun x hx => by
  have e := ht x hx
  have hx' : (tcon (lawCon Ts).D (lawCon Ts).A (fun _ y => ((), y)) F).pre x := by show F x ≠ none; rw [e]; simp
  have := h x hx'
  simp only [tcon, Con.val, Con.heap, e] at this
  exact this

/-! Loops that are told. -/
def tlap (id N : Nat) (live : List Nat) (D : Dom) (oA : Out) (liveA : List Nat) (A : Dom) {α : Type} (pa : D.den → α → A.den) (F : D.den → Option α) : Lap where
  id := id
  N := N
  live := live
  D := D
  oA := oA
  liveA := liveA
  A := A
  inv := fun x => F x ≠ none
  relA := fun x y => ∃ a, F x = some a ∧ y = pa x a
  use := fun x ka _ => F x ≠ none ∧ ∀ y, F x = some y → ka (pa x y)
  ok := fun x ka kb h => ⟨fun y ⟨a, e, hy⟩ => by subst hy; exact h.2 a e, fun y h => h.elim⟩
theorem tlap_ok {P : Program} (hm : P.follows .mixedOrders = true) (hP : progOk P = true) {T : Book} (hT : BookOk P T) {K f id N : Nat} {live : List Nat} {D : Dom} {oA : Out} {liveA : List Nat} {A : Dom} {σ α : Type} {pa : D.den → α → A.den} {F : D.den → Option α}
    (hf : isFn P f = true) (h1 : oneLoop (codeOf P f) id = true) {ls : List Lap} (hls : LapsOk P K f ls) (d : Nat) (pk : D.den → σ → D.den) (un : D.den → σ) (body : D.den → σ → Tr (σ ⊕ α)) (hu : ∀ x s, un (pk x s) = s) (hb : ∀ x s, body (pk x s) = body x) (hp : ∀ x s, pa (pk x s) = pa x) (hF : ∀ x, F x = Loop (body x) (un x))
    (h : ∀ x again qa qb, (tlap id N live D oA liveA A pa F).run P T d K ls f x again qa qb = (body x (un x)).wp fun r => match r with
      | .inl s => again (pk x s)
      | .inr a => qa (pa x a)) : LapOk P K (codeOf P f) (tlap id N live D oA liveA A pa F) := by
  refine Lap.proved hm hP hT (l := tlap id N live D oA liveA A pa F) hf h1 hls d (fun x => turns (body x) (un x)) fun (x : D.den) (hx : F x ≠ none) => ?_
  rw [hF] at hx
  rw [h x]
  obtain ⟨r, e, hr⟩ := Loop_round (body x) hx
  refine Tr.wp_of_val e ?_
  cases r with
  | inr a => exact ⟨a, (hF x).trans hr, rfl⟩
  | inl s =>
    have e1 : F (pk x s) = F x := by rw [hF, hF, hu, hb]; exact hr.1
    refine ⟨?_, ?_, fun y ⟨a, h1, h2⟩ => ⟨a, e1.symm.trans h1, by rw [h2, hp]⟩, fun y h => h⟩
    · show F (pk x s) ≠ none
      rw [e1, hF]; exact hx
    · show turns (body (pk x s)) (un (pk x s)) < turns (body x) (un x)
      rw [hu, hb]; exact hr.2
def tlap2 (id N : Nat) (live : List Nat) (D : Dom) (oA : Out) (liveA : List Nat) (A : Dom) (oB : Out) (liveB : List Nat) (B : Dom) {α β : Type} (pa : D.den → α → A.den) (pb : D.den → β → B.den) (F : D.den → Option (α ⊕ β)) : Lap where
  id := id
  N := N
  live := live
  D := D
  oA := oA
  liveA := liveA
  A := A
  oB := oB
  liveB := liveB
  B := B
  inv := fun x => F x ≠ none
  relA := fun x y => ∃ a, F x = some (.inl a) ∧ y = pa x a
  relB := fun x y => ∃ a, F x = some (.inr a) ∧ y = pb x a
  use := fun x ka kb => F x ≠ none ∧ (∀ y, F x = some (.inl y) → ka (pa x y)) ∧ ∀ y, F x = some (.inr y) → kb (pb x y)
  ok := fun x ka kb h => ⟨fun y ⟨a, e, hy⟩ => by subst hy; exact h.2.1 a e, fun y ⟨a, e, hy⟩ => by subst hy; exact h.2.2 a e⟩
theorem tlap2_ok {P : Program} (hm : P.follows .mixedOrders = true) (hP : progOk P = true) {T : Book} (hT : BookOk P T) {K f id N : Nat} {live : List Nat} {D : Dom} {oA oB : Out} {liveA liveB : List Nat} {A B : Dom} {σ α β : Type} {pa : D.den → α → A.den} {pb : D.den → β → B.den} {F : D.den → Option (α ⊕ β)}
    (hf : isFn P f = true) (h1 : oneLoop (codeOf P f) id = true) {ls : List Lap} (hls : LapsOk P K f ls) (d : Nat) (pk : D.den → σ → D.den) (un : D.den → σ) (body : D.den → σ → Tr (σ ⊕ (α ⊕ β))) (hu : ∀ x s, un (pk x s) = s) (hb : ∀ x s, body (pk x s) = body x) (hp : ∀ x s, pa (pk x s) = pa x) (hp' : ∀ x s, pb (pk x s) = pb x) (hF : ∀ x, F x = Loop (body x) (un x))
    (h : ∀ x again qa qb, (tlap2 id N live D oA liveA A oB liveB B pa pb F).run P T d K ls f x again qa qb = (body x (un x)).wp fun r => match r with
      | .inl s => again (pk x s)
      | .inr (.inl a) => qa (pa x a)
      | .inr (.inr a) => qb (pb x a)) : LapOk P K (codeOf P f) (tlap2 id N live D oA liveA A oB liveB B pa pb F) := by
  refine Lap.proved hm hP hT (l := tlap2 id N live D oA liveA A oB liveB B pa pb F) hf h1 hls d (fun x => turns (body x) (un x)) fun (x : D.den) (hx : F x ≠ none) => ?_
  rw [hF] at hx
  rw [h x]
  obtain ⟨r, e, hr⟩ := Loop_round (body x) hx
  refine Tr.wp_of_val e ?_
  cases r with
  | inr a =>
    cases a with
    | inl a => exact ⟨a, (hF x).trans hr, rfl⟩
    | inr a => exact ⟨a, (hF x).trans hr, rfl⟩
  | inl s =>
    have e1 : F (pk x s) = F x := by rw [hF, hF, hu, hb]; exact hr.1
    refine ⟨?_, ?_, fun y ⟨a, h1, h2⟩ => ⟨a, e1.symm.trans h1, by rw [h2, hp]⟩, fun y ⟨a, h1, h2⟩ => ⟨a, e1.symm.trans h1, by rw [h2, hp']⟩⟩
    · show F (pk x s) ≠ none
      rw [e1, hF]; exact hx
    · show turns (body (pk x s)) (un (pk x s)) < turns (body x) (un x)
      rw [hu, hb]; exact hr.2
end Go.Vx
