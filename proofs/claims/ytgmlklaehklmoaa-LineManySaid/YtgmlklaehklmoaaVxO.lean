/- Loops by contract; a call that keeps its contract. (A help: no statement of the seat is proved here.) -/
import Derived.Test.YtgmlklaehklmoaaVxN
set_option linter.unusedVariables false
set_option linter.unusedSimpArgs false
namespace Go.Vx

/-! Variables by number. -/
def setsT : List Nat → List AV → Trie AV → Trie AV
  | i :: is, v :: vs, t => setsT is vs (t.set i v)
  | _, _, t => t
def tmOf (N : Nat) (live : List Nat) (vs : List AV) : Tm := { n := N, t := setsT live vs .leaf }
def valsOf (m : Tm) : List Nat → Option (List AV)
  | [] => some []
  | i :: l => match m.get i, valsOf m l with
    | some v, some vs => some (v :: vs)
    | _, _ => none
def setsK : List Nat → List AV → Trie AV → (Trie AV → Prop) → Prop
  | i :: is, v :: vs, t, k => setK (i + 1) t i v fun t => setsK is vs t k
  | [], _, t, k => k t
  | _ :: _, [], t, k => k t
theorem setsK_elim : ∀ {is : List Nat} {vs : List AV} {t : Trie AV} {k : Trie AV → Prop}, setsK is vs t k → k (setsT is vs t)
  | i :: is, v :: vs, t, k, h => by
    simp only [setsK] at h
    have := setK_elim h
    simp only [setsT]
    exact setsK_elim this
  | [], vs, t, k, h => by cases vs <;> simpa only [setsK, setsT] using h
  | _ :: _, [], t, k, h => by simpa only [setsK, setsT] using h

theorem valsOf_rel {N : Nat} {β : At} {m : Tm} {tmps : Array Value} (hT : TRel N β m tmps) : ∀ {l : List Nat} {vs : List AV}, valsOf m l = some vs → ∃ cs : List Value, VsRel N β vs cs ∧ cs.length = l.length ∧ ∀ (j i : Nat), l[j]? = some i → tmps[i]? = cs[j]?
  | [], vs, h => by simp only [valsOf, Option.some.injEq] at h; subst h; exact ⟨[], .nil, rfl, fun j i h => by simp at h⟩
  | i :: l, vs, h => by
    simp only [valsOf] at h
    split at h
    · rename_i v vs' h1 h2
      cases h
      obtain ⟨c, hc, hr⟩ := hT.2 i v h1
      obtain ⟨cs, hcs, hl, hg⟩ := valsOf_rel hT h2
      refine ⟨c :: cs, .cons _ _ _ _ hr hcs, by simp [hl], fun j i' hj => ?_⟩
      cases j with
      | zero => simp at hj; subst hj; simpa using hc
      | succ j => simpa using hg j i' (by simpa using hj)
    · cases h
theorem setsT_get : ∀ (is : List Nat) (vs : List AV) (t : Trie AV) (i : Nat) (v : AV), (setsT is vs t).get i = some v → (∃ j : Nat, is[j]? = some i ∧ vs[j]? = some v) ∨ t.get i = some v
  | [], vs, t, i, v, h => by cases vs <;> exact .inr h
  | _ :: _, [], t, i, v, h => .inr h
  | i0 :: is, v0 :: vs, t, i, v, h => by
    simp only [setsT] at h
    rcases setsT_get is vs _ i v h with ⟨j, h1, h2⟩ | h1
    · exact .inl ⟨j + 1, by simpa using h1, by simpa using h2⟩
    · rw [Trie.get_set] at h1
      split at h1
      · rename_i e; cases h1; exact .inl ⟨0, by simp [e], by simp⟩
      · exact .inr h1
theorem tmOf_rel {N n : Nat} {β : At} {tmps : Array Value} {live : List Nat} {vs : List AV} {cs : List Value} (hs : tmps.size = n) (hv : VsRel N β vs cs) (hg : ∀ (j i : Nat), live[j]? = some i → tmps[i]? = cs[j]?) : TRel N β (tmOf n live vs) tmps := by
  refine ⟨hs, fun i v h => ?_⟩
  unfold tmOf Tm.get at h
  simp only at h
  rcases setsT_get _ _ _ _ _ h with ⟨j, h1, h2⟩ | h1
  · obtain ⟨c, hc, hr⟩ := hv.at j v h2
    exact ⟨c, by rw [hg j i h1]; exact hc, hr⟩
  · rw [Trie.get_leaf] at h1; cases h1

/-- The state of a call, seen through a pattern. -/
def View' (D : Dom) (live : List Nat) (K : Nat) (m : Tm) (H : Heap) (k : D.den → Prop) : Prop :=
  match Nat.ble K D.rows.length with
  | true => must (valsOf m live) fun vs => D.matS vs H (keepK K) fun x _ => k x
  | false => False
theorem view_sound {D : Dom} {live : List Nat} {K : Nat} {m : Tm} {H : Heap} {k : D.den → Prop} (h : View' D live K m H k) {β : At} {w : World} (hR : Rel β H w) {S : Start} (hSK : S.H.n = K) (hS : S.le β H w) {tmps : Array Value} (hT : TRel H.n β m tmps) :
    ∃ x, k x ∧ ∃ β1, Rel β1 (D.heap x) w ∧ S.le β1 (D.heap x) w ∧ TRel (D.heap x).n β1 (tmOf m.n live (D.args x)) tmps := by
  unfold View' at h
  split at h
  · rename_i hK
    obtain ⟨vs, hvs, h⟩ := must_elim h
    obtain ⟨x, ρ, hm, hk⟩ := Dom.matS_elim h
    obtain ⟨cs, hcs, _, hg⟩ := valsOf_rel hT hvs
    obtain ⟨β1, q1, q2, q3⟩ := recast hR hm (Nat.le_of_ble_eq_true hK) hcs hSK hS
    exact ⟨x, hk, β1, q1, q2, tmOf_rel hT.1 q3 hg⟩
  · exact h.elim

/-! Loops. -/
/-- The first region of a code. -/
def firstId : Code → Option Nat
  | .region id _ _ => some id
  | .seq a b => match firstId a with
    | some i => some i
    | none => firstId b
  | .cond _ a b => match firstId a with
    | some i => some i
    | none => firstId b
  | .block _ b => firstId b
  | .loop b => firstId b
  | _ => none
def isLoop (id : Nat) (b : Code) : Bool := match firstId b with
  | some i => Nat.beq i id
  | none => false
def loopsOf (c : Code) (id : Nat) : List Code := (loops c).filter (isLoop id)
/-- The loop of a code that begins with a region. -/
def loopAt (c : Code) (id : Nat) : Code := match loopsOf c id with
  | [b] => b
  | _ => .skip
def oneLoop (c : Code) (id : Nat) : Bool := match loopsOf c id with
  | [_] => true
  | _ => false

theorem oneLoop_spec {c : Code} {id : Nat} (h : oneLoop c id = true) : loopsOf c id = [loopAt c id] := by
  unfold oneLoop at h
  unfold loopAt
  cases e : loopsOf c id with
  | nil => rw [e] at h; cases h
  | cons b t =>
    cases t with
    | nil => rfl
    | cons b' t => rw [e] at h; cases h

/-- What a loop comes to: one of two ends. -/
structure Lap where
  id : Nat
  N : Nat
  live : List Nat
  D : Dom
  oA : Out
  liveA : List Nat
  A : Dom
  oB : Out := .ret
  liveB : List Nat := []
  B : Dom := ⟨[], .nil⟩
  inv : D.den → Prop := fun _ => True
  /-- What may come out, at the one end, at the other. -/
  relA : D.den → A.den → Prop
  relB : D.den → B.den → Prop := fun _ _ => False
  use : D.den → (A.den → Prop) → (B.den → Prop) → Prop := fun x ka _ => ∀ y, relA x y → ka y
  ok : ∀ x ka kb, use x ka kb → (∀ y, relA x y → ka y) ∧ (∀ y, relB x y → kb y) := by intro x ka kb h; exact ⟨h, fun y hy => hy.elim⟩
def Lap.tm (l : Lap) (x : l.D.den) : Tm := tmOf l.N l.live (l.D.args x)
def Lap.tmA (l : Lap) (y : l.A.den) : Tm := tmOf l.N l.liveA (l.A.args y)
def Lap.tmB (l : Lap) (y : l.B.den) : Tm := tmOf l.N l.liveB (l.B.args y)
/-- What stands behind the loop. -/
def Lap.behind (l : Lap) (x : l.D.den) (k : Out → Tm → Heap → Prop) : Prop :=
  (∀ y, l.relA x y → k l.oA (l.tmA y) (l.A.heap y)) ∧ ∀ y, l.relB x y → k l.oB (l.tmB y) (l.B.heap y)
def endT (o : Out) (N : Nat) (live : List Nat) (D : Dom) (k : Out → Tm → Heap → Prop) (y : D.den) : Prop :=
  forceL (D.args y) fun vs => setsK live vs .leaf fun t => forceH (D.heap y) fun H => k o ⟨N, t⟩ H
theorem endT_elim {o : Out} {N : Nat} {live : List Nat} {D : Dom} {k : Out → Tm → Heap → Prop} {y : D.den} (h : endT o N live D k y) : k o (tmOf N live (D.args y)) (D.heap y) := by
  unfold endT at h
  exact forceH_elim (setsK_elim (forceL_elim h))
def Lap.L (l : Lap) (K : Nat) (m : Tm) (H : Heap) (k : Out → Tm → Heap → Prop) : Prop :=
  match Nat.beq m.n l.N with
  | true => View' l.D l.live K m H fun x => l.inv x ∧ l.use x (endT l.oA l.N l.liveA l.A k) (endT l.oB l.N l.liveB l.B k)
  | false => False
def LapOk (P : Program) (K : Nat) (c : Code) (l : Lap) : Prop :=
  ∀ S : Start, S.H.n = K → ∀ x, l.inv x → ∀ k, l.behind x k → GoodIn P S (loopAt c l.id) (l.tm x) (l.D.heap x) k
/-- Known loops. -/
def lapsL (K : Nat) : List Lap → LoopH
  | [], _, _, _, _ => none
  | l :: ls, b, m, H, k => match isLoop l.id b with
    | true => some (l.L K m H k)
    | false => lapsL K ls b m H k

theorem Wants.mono {S : Start} {d : Act} {k k' : Out → Tm → Heap → Prop} {Q : Exit → Act → World → Prop} (h : Wants S d k Q) (hk : ∀ o m H, k' o m H → k o m H) : Wants S d k' Q := fun o m H hq => h o m H (hk o m H hq)

theorem laps_ok {P : Program} {K : Nat} {c : Code} : ∀ {ls : List Lap}, (∀ l, l ∈ ls → LapOk P K c l ∧ oneLoop c l.id = true) → LInOk P K (loops c) (lapsL K ls)
  | [], _, S, hSK, b, hb, m, H, k, p, hp, h => by simp only [lapsL] at hp; cases hp
  | l :: ls, hls, S, hSK, b, hb, m, H, k, p, hp, h => by
    simp only [lapsL] at hp
    split at hp
    · rename_i hi
      cases hp
      obtain ⟨hl, h1⟩ := hls l (by simp)
      have hbl : loopAt c l.id = b := by
        have hm : b ∈ loopsOf c l.id := List.mem_filter.2 ⟨hb, hi⟩
        rw [oneLoop_spec h1] at hm
        simp at hm
        exact hm.symm
      rw [← hbl]
      unfold Lap.L at h
      split at h
      · rename_i hn
        have hn := Nat.eq_of_beq_eq_true hn
        intro a β w hR hS hT Q hQ
        obtain ⟨x, ⟨hinv, hu⟩, β1, q1, q2, q3⟩ := view_sound h hR hSK hS hT
        rw [hn] at q3
        refine hl S hSK x hinv k ?_ a β1 w q1 q2 q3 Q hQ
        have := l.ok _ _ _ hu
        exact ⟨fun y hy => endT_elim (this.1 y hy), fun y hy => endT_elim (this.2 y hy)⟩
      · exact h.elim
    · exact laps_ok (fun l hl => hls l (by simp [hl])) S hSK b hb m H k p hp h

/-- The end of a round: again, or out. -/
def Lap.round (l : Lap) (K : Nat) (again : l.D.den → Prop) (qa : l.A.den → Prop) (qb : l.B.den → Prop) : Out → Tm → Heap → Prop := fun o m H =>
  match o with
  | .norm => match Nat.beq m.n l.N with
    | true => View' l.D l.live K m H again
    | false => False
  | o => match Nat.beq m.n l.N with
    | true => bif outEq o l.oA then View' l.A l.liveA K m H qa else bif outEq o l.oB then View' l.B l.liveB K m H qb else False
    | false => False
where outEq : Out → Out → Bool
  | .norm, .norm => true
  | .ret, .ret => true
  | .exit i, .exit j => Nat.beq i j
  | _, _ => false
theorem outEq_eq {a b : Out} (h : Lap.round.outEq a b = true) : a = b := by
  unfold Lap.round.outEq at h
  split at h
  · rfl
  · rfl
  · rw [Nat.eq_of_beq_eq_true h]
  · cases h

/-- A way to go through calls. -/
def HOk (P : Program) (S : Handler) : Prop := ∃ cl, ClS S cl ∧ CallOk P cl ∧ ClLater cl
theorem BookOk.hok {P : Program} {T : Book} (hT : BookOk P T) : HOk P T.S := ⟨T.cl, T.cls, T.callOk hT, T.later⟩
/-- A loop keeps its contract if each round does. -/
theorem lap_ok {P : Program} (hm : P.follows .mixedOrders = true) {S0 : Handler} (hS0 : HOk P S0) {K : Nat} {c : Code} {l : Lap} {ls : List Lap} (hls : ∀ l, l ∈ ls → LapOk P K c l ∧ oneLoop c l.id = true) (h1 : oneLoop c l.id = true) (hC : codeOk P (loopAt c l.id) = true) (n : Nat) (μ : l.D.den → Nat)
    (h : ∀ x, l.inv x → execS P S0 S0 (lapsL K ls) n (loopAt c l.id) (l.tm x) (l.D.heap x) (l.round K (fun x' => l.inv x' ∧ μ x' < μ x ∧ (∀ y, l.relA x' y → l.relA x y) ∧ ∀ y, l.relB x' y → l.relB x y) (l.relA x) (l.relB x))) : LapOk P K c l := by
  have hsub : ∀ b, b ∈ loops (loopAt c l.id) → b ∈ loops c := by
    have hb : loopAt c l.id ∈ loops c := by
      have : loopAt c l.id ∈ loopsOf c l.id := by rw [oneLoop_spec h1]; simp
      exact (List.mem_filter.1 this).1
    have key : ∀ (c : Code) (b : Code), b ∈ loops c → ∀ b', b' ∈ loops b → b' ∈ loops c := by
      intro c
      induction c with
      | seq x y ihx ihy =>
        intro b hb b' hb'
        simp only [loops, List.mem_append] at hb ⊢
        rcases hb with hb | hb
        · exact .inl (ihx b hb b' hb')
        · exact .inr (ihy b hb b' hb')
      | cond q x y ihx ihy =>
        intro b hb b' hb'
        simp only [loops, List.mem_append] at hb ⊢
        rcases hb with hb | hb
        · exact .inl (ihx b hb b' hb')
        · exact .inr (ihy b hb b' hb')
      | block id x ih => intro b hb b' hb'; exact ih b hb b' hb'
      | loop x ih =>
        intro b hb b' hb'
        simp only [loops, List.mem_cons] at hb ⊢
        rcases hb with rfl | hb
        · exact .inr hb'
        · exact .inr (ih b hb b' hb')
      | _ => intro b hb; simp [loops] at hb
    exact fun b hb' => key c _ hb b hb'
  intro S hSK x
  generalize hμ : μ x = N
  induction N using Nat.strongRecOn generalizing x with
  | ind N ih =>
    intro hinv k hk a β w hR hS hT' Q hQ
    subst hμ
    obtain ⟨cl, q1, q2, q3⟩ := hS0
    refine inLoop_round ((execS_good hm (SOk.of_cl q1 q2) q1 q2 q3 (laps_ok hls) hSK n).1 _ hC hsub (h x hinv) a β w hR hS hT' _ fun o m' H' hq β' a' w' hR' hS' hT2 hd' => ?_)
    unfold Lap.round at hq
    cases o with
    | norm =>
      simp only at hq
      split at hq
      · rename_i hn
        obtain ⟨x', ⟨hinv', hlt, hsA, hsB⟩, β1, q1, q2, q3⟩ := view_sound hq hR' hSK hS' hT2
        rw [Nat.eq_of_beq_eq_true hn] at q3
        exact ih (μ x') hlt x' rfl hinv' k ⟨fun y hy => hk.1 y (hsA y hy), fun y hy => hk.2 y (hsB y hy)⟩ a' β1 w' q1 q2 q3 Q (hQ.defers hd')
      · exact hq.elim
    | exit id =>
      simp only at hq
      split at hq
      · rename_i hn
        cases e1 : Lap.round.outEq (.exit id) l.oA with
        | true =>
          rw [e1] at hq
          obtain ⟨y, hy, β1, q1, q2, q3⟩ := view_sound hq hR' hSK hS' hT2
          rw [Nat.eq_of_beq_eq_true hn] at q3
          have := hQ l.oA (l.tmA y) (l.A.heap y) (hk.1 y hy) β1 a' w' q1 q2 q3 hd'
          rw [← outEq_eq e1] at this
          exact this
        | false =>
          rw [e1] at hq
          cases e2 : Lap.round.outEq (.exit id) l.oB with
          | true =>
            rw [e2] at hq
            obtain ⟨y, hy, β1, q1, q2, q3⟩ := view_sound hq hR' hSK hS' hT2
            rw [Nat.eq_of_beq_eq_true hn] at q3
            have := hQ l.oB (l.tmB y) (l.B.heap y) (hk.2 y hy) β1 a' w' q1 q2 q3 hd'
            rw [← outEq_eq e2] at this
            exact this
          | false => rw [e2] at hq; exact hq.elim
      · exact hq.elim
    | ret =>
      simp only at hq
      split at hq
      · rename_i hn
        cases e1 : Lap.round.outEq .ret l.oA with
        | true =>
          rw [e1] at hq
          obtain ⟨y, hy, β1, q1, q2, q3⟩ := view_sound hq hR' hSK hS' hT2
          rw [Nat.eq_of_beq_eq_true hn] at q3
          have := hQ l.oA (l.tmA y) (l.A.heap y) (hk.1 y hy) β1 a' w' q1 q2 q3 hd'
          rw [← outEq_eq e1] at this
          exact this
        | false =>
          rw [e1] at hq
          cases e2 : Lap.round.outEq .ret l.oB with
          | true =>
            rw [e2] at hq
            obtain ⟨y, hy, β1, q1, q2, q3⟩ := view_sound hq hR' hSK hS' hT2
            rw [Nat.eq_of_beq_eq_true hn] at q3
            have := hQ l.oB (l.tmB y) (l.B.heap y) (hk.2 y hy) β1 a' w' q1 q2 q3 hd'
            rw [← outEq_eq e2] at this
            exact this
          | false => rw [e2] at hq; exact hq.elim
      · exact hq.elim

/-! Calls. -/
/-- The end of a call: its value, its heap, in the form that is wanted. -/
def endC (K : Nat) (sel : AV → Bool) (A B : Dom) (qa : A.den → Prop) (qb : B.den → Prop) : AV → Heap → Prop := fun v H =>
  match sel v with
  | true => match Nat.ble K A.rows.length with
    | true => A.matS [v] H (keepK K) fun y _ => qa y
    | false => False
  | false => match Nat.ble K B.rows.length with
    | true => B.matS [v] H (keepK K) fun y _ => qb y
    | false => False
theorem con_ok {P : Program} (hm : P.follows .mixedOrders = true) {S0 : Handler} (hS0 : HOk P S0) {f : FuncId} {fn : Func} {c : Code} (hf : P.funcs[f]? = some fn) (hb : fn.body = some c) (hC : codeOk P c = true) {C : Con} {ls : List Lap} (hls : ∀ l, l ∈ ls → LapOk P C.D.rows.length c l ∧ oneLoop c l.id = true) (n : Nat) (sel : AV → Bool)
    (hA : ∀ y, (C.A.args y).length = 1) (hB : (∀ y, (C.B.args y).length = 1) ∨ ∀ x y, C.pre x → C.spec x ≠ .inr y)
    (h : ∀ x, C.pre x → bodyS P S0 S0 (lapsL C.D.rows.length ls) n fn c (C.D.args x) (C.D.heap x) (endC C.D.rows.length sel C.A C.B (fun y => C.spec x = .inl y) (fun y => C.spec x = .inr y))) : ConOk P f C := by
  intro x hx β w cargs hR ha
  have hLn : (C.D.heap x).n = C.D.rows.length := C.D.heap_n x
  have hL : LInOk P (C.D.heap x).n (loops c) (lapsL C.D.rows.length ls) := by rw [hLn]; exact laps_ok hls
  obtain ⟨cl, q1, q2, q3⟩ := hS0
  refine (bodyS_good hm (SOk.of_cl q1 q2) q1 q2 q3 hf hb hC hL (h x hx) β w cargs hR ha).mono ?_
  rintro e w' ⟨v, H', hk, β', c', rfl, hR', hLe, hv⟩
  have hone : ∀ (D : Dom) (y : D.den), (D.args y).length = 1 → D.args y = [D.one y] := by
    intro D y hy
    unfold Dom.one
    cases h : D.args y with
    | nil => rw [h] at hy; simp at hy
    | cons v l =>
      rw [h] at hy
      have : l = [] := List.length_eq_zero_iff.1 (by simpa using hy)
      subst this
      rfl
  unfold endC at hk
  split at hk
  · split at hk
    · rename_i hK
      obtain ⟨y, ρ, hmat, hq⟩ := Dom.matS_elim hk
      obtain ⟨β1, q1, q2, q3⟩ := recast hR' hmat (Nat.le_of_ble_eq_true hK) (.one hv) (S := ⟨β, C.D.heap x, w, hR.fresh⟩) hLn hLe
      have hval : C.val x = C.A.one y := by unfold Con.val; rw [hq]
      have hheap : C.heap x = C.A.heap y := by unfold Con.heap; rw [hq]
      rw [hone C.A y (hA y)] at q3
      refine ⟨β1, c', rfl, by rw [hheap]; exact q1, by rw [hheap]; exact q2, ?_⟩
      rw [hheap, hval]
      cases q3 with
      | cons _ _ _ _ h1 _ => exact h1
    · exact hk.elim
  · split at hk
    · rename_i hK
      obtain ⟨y, ρ, hmat, hq⟩ := Dom.matS_elim hk
      obtain ⟨β1, q1, q2, q3⟩ := recast hR' hmat (Nat.le_of_ble_eq_true hK) (.one hv) (S := ⟨β, C.D.heap x, w, hR.fresh⟩) hLn hLe
      have hval : C.val x = C.B.one y := by unfold Con.val; rw [hq]
      have hheap : C.heap x = C.B.heap y := by unfold Con.heap; rw [hq]
      have hB1 : (C.B.args y).length = 1 := by
        rcases hB with h | h
        · exact h y
        · exact absurd hq (h x y hx)
      rw [hone C.B y hB1] at q3
      refine ⟨β1, c', rfl, by rw [hheap]; exact q1, by rw [hheap]; exact q2, ?_⟩
      rw [hheap, hval]
      cases q3 with
      | cons _ _ _ _ h1 _ => exact h1
    · exact hk.elim
end Go.Vx
