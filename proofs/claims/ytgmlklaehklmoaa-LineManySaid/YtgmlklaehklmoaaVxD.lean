/- The evaluator's code, calls are the machine's. (A help: no statement of the seat is proved here.) -/
import Derived.Test.YtgmlklaehklmoaaVxT
set_option linter.unusedVariables false
set_option linter.unusedSimpArgs false
namespace Go.Vx

def Out.ex : Out → Exit
  | .norm => .normal
  | .exit id => .exit id
  | .ret => .ret

section exec
variable {P : Program} {cl : Caller}

/-- What holds of every way on. -/
def Ahead (P : Program) (β : At) (H : Heap) (w : World) (a : Act) (e : Exit) (m' : Tm) (H' : Heap) (Q : Exit → Act → World → Prop) : Prop :=
  ∀ β' a' w', Rel β' H' w' → Le β H w β' H' w' → TRel H'.n β' m' a'.tmps → a'.defers = a.defers → Q e a' w'

theorem exec_sound (hm : P.follows .mixedOrders = true) (hcl : CallOk P cl) : ∀ (n : Nat),
    (∀ (c : Code) {m : Tm} {H : Heap} {o : Out} {m' : Tm} {H' : Heap}, execA P cl n c m H = some (o, m', H') → ∀ {a : Act} {β : At} {w : World}, Rel β H w → TRel H.n β m a.tmps →
      ∀ {Q : Exit → Act → World → Prop}, Ahead P β H w a o.ex m' H' Q → c.wp P Q a w) ∧
    (∀ (b : Code) {m : Tm} {H : Heap} {o : Out} {m' : Tm} {H' : Heap}, execA P cl n (.loop b) m H = some (o, m', H') → ∃ k, ∀ {a : Act} {β : At} {w : World}, Rel β H w → TRel H.n β m a.tmps →
      ∀ {Q : Exit → Act → World → Prop}, Ahead P β H w a o.ex m' H' Q → Code.rounds P b Q k a w)
  | 0 => by
    constructor
    · intro c m H o m' H' h; simp only [execA] at h; cases h
    · intro c m H o m' H' h; simp only [execA] at h; cases h
  | n + 1 => by
    obtain ⟨ih, ihl⟩ := exec_sound hm hcl n
    have hloop : ∀ (b : Code) {m : Tm} {H : Heap} {o : Out} {m' : Tm} {H' : Heap}, execA P cl (n + 1) (.loop b) m H = some (o, m', H') → ∃ k, ∀ {a : Act} {β : At} {w : World}, Rel β H w → TRel H.n β m a.tmps →
        ∀ {Q : Exit → Act → World → Prop}, Ahead P β H w a o.ex m' H' Q → Code.rounds P b Q k a w := by
      intro b m H o m' H' h
      simp only [execA] at h
      split at h
      · rename_i m1 H1 h1
        obtain ⟨k, hk⟩ := ihl b h
        refine ⟨k + 1, fun {a β w} hR hT {Q} hQ => ?_⟩
        rw [rounds_succ]
        refine ih b h1 hR hT fun β' a' w' hR' hLe' hT' hd' => ?_
        exact hk hR' hT' fun β2 a2 w2 hR2 hLe2 hT2 hd2 => hQ β2 a2 w2 hR2 (hLe'.trans hLe2) hT2 (hd2.trans hd')
      · rename_i hne
        refine ⟨1, fun {a β w} hR hT {Q} hQ => ?_⟩
        rw [rounds_succ]
        refine ih b h hR hT fun β' a' w' hR' hLe' hT' hd' => ?_
        have hq := hQ β' a' w' hR' hLe' hT' hd'
        cases o with
        | norm => exact absurd h (hne m' H')
        | exit id => exact hq
        | ret => exact hq
    refine ⟨fun c => ?_, hloop⟩
    intro m H o m' H' h a β w hR hT Q hQ
    cases c with
    | skip =>
      simp only [execA, Option.some.injEq, Prod.mk.injEq] at h
      obtain ⟨rfl, rfl, rfl⟩ := h
      exact wp_skip (hQ β a w hR (Le.refl _ _ _) hT rfl)
    | label l =>
      simp only [execA, Option.some.injEq, Prod.mk.injEq] at h
      obtain ⟨rfl, rfl, rfl⟩ := h
      exact wp_label (hQ β a w hR (Le.refl _ _ _) hT rfl)
    | exit id =>
      simp only [execA, Option.some.injEq, Prod.mk.injEq] at h
      obtain ⟨rfl, rfl, rfl⟩ := h
      exact wp_exit (hQ β a w hR (Le.refl _ _ _) hT rfl)
    | ret =>
      simp only [execA, Option.some.injEq, Prod.mk.injEq] at h
      obtain ⟨rfl, rfl, rfl⟩ := h
      exact wp_ret (hQ β a w hR (Le.refl _ _ _) hT rfl)
    | region id ops draw =>
      simp only [execA] at h
      obtain ⟨⟨m1, H1⟩, h1, he⟩ := map_some h
      simp only [Prod.mk.injEq] at he
      obtain ⟨rfl, rfl, rfl⟩ := he
      cases draw with
      | true =>
        rw [if_pos rfl] at h1
        exact draw_sound hcl hm h1 hR hT hQ
      | false =>
        rw [if_neg (by simp)] at h1
        exact wp_region_list (ops_sound hcl h1 hR hT hQ)
    | seq x y =>
      simp only [execA] at h
      split at h
      · rename_i m1 H1 h1
        refine wp_seq (ih x h1 hR hT fun β' a' w' hR' hLe' hT' hd' => ?_)
        exact ih y h hR' hT' fun β2 a2 w2 hR2 hLe2 hT2 hd2 => hQ β2 a2 w2 hR2 (hLe'.trans hLe2) hT2 (hd2.trans hd')
      · rename_i hne
        refine wp_seq (ih x h hR hT fun β' a' w' hR' hLe' hT' hd' => ?_)
        have hq := hQ β' a' w' hR' hLe' hT' hd'
        cases o with
        | norm => exact absurd h (hne m' H')
        | exit id => exact hq
        | ret => exact hq
    | cond x t f =>
      simp only [execA] at h
      split at h
      · rename_i hx
        have hv := opnd_sound hT hx
        exact wp_cond_true (bool_of hv) (ih t h hR (hT.coolX hx) hQ)
      · rename_i hx
        have hv := opnd_sound hT hx
        exact wp_cond_false (bool_of hv) (ih f h hR (hT.coolX hx) hQ)
      · cases h
    | block id b =>
      simp only [execA] at h
      split at h
      · rename_i id' m1 H1 h1
        split at h
        · rename_i hid
          cases h
          refine wp_block (ih b h1 hR hT fun β' a' w' hR' hLe' hT' hd' => ?_)
          show (if id' = id then Q .normal a' w' else Q (.exit id') a' w')
          rw [if_pos hid]
          exact hQ β' a' w' hR' hLe' hT' hd'
        · rename_i hid
          cases h
          refine wp_block (ih b h1 hR hT fun β' a' w' hR' hLe' hT' hd' => ?_)
          show (if id' = id then Q .normal a' w' else Q (.exit id') a' w')
          rw [if_neg hid]
          exact hQ β' a' w' hR' hLe' hT' hd'
      · rename_i hne
        refine wp_block (ih b h hR hT fun β' a' w' hR' hLe' hT' hd' => ?_)
        have hq := hQ β' a' w' hR' hLe' hT' hd'
        cases o with
        | norm => exact hq
        | exit id' => exact absurd h (hne id' m' H')
        | ret => exact hq
    | loop b =>
      obtain ⟨k, hk⟩ := hloop b h
      exact wp_loop_rounds k (hk hR hT hQ)
    | _ => simp only [execA] at h; cases h

/-! Results. -/
def resOp (tmps : Array Value) : ResultVar → Sem Value
  | .tmp t => pure (tmps.getD t undef)
  | .cell a t => do loadVar t (← asAddr (tmps.getD a undef))

theorem res_sound {β : At} {H : Heap} {w : World} {m : Tm} {a : Act} (hR : Rel β H w) (hT : TRel H.n β m a.tmps) : ∀ {l : List ResultVar} {vs : List AV}, resA P m H l = some vs →
    ∃ cs : List Value, (l.mapM (resOp a.tmps)).run P w = .ok cs w ∧ VsRel H.n β vs cs
  | [], vs, h => by
    simp only [resA, Option.some.injEq] at h
    subst h
    exact ⟨[], rfl, .nil⟩
  | .tmp t :: l, vs, h => by
    simp only [resA] at h
    split at h
    · rename_i v vs' hv hvs
      cases h
      obtain ⟨cs, hcs, hr⟩ := res_sound hR hT hvs
      obtain ⟨c, hc, hrc⟩ := hT.2 t v hv
      refine ⟨c :: cs, ?_, .cons _ _ _ _ hrc hr⟩
      have hg : resOp a.tmps (.tmp t) = pure c := by simp [resOp, Array.getD_eq_getD_getElem?, hc]
      rw [List.mapM_cons]
      simp only [hg, pure_bind, Sem.run_bind, hcs, Result.andThen_ok, Sem.run_pure]
    · cases h
  | .cell ad t :: l, vs, h => by
    simp only [resA] at h
    split at h
    · rename_i r hr0
      split at h
      · rename_i v vs' hv hvs
        cases h
        obtain ⟨cs, hcs, hr⟩ := res_sound hR hT hvs
        obtain ⟨c, hc, hrc⟩ := hT.2 ad _ hr0
        obtain ⟨d, hd, hrd⟩ := loadV_sound hR hrc hv
        refine ⟨d :: cs, ?_, .cons _ _ _ _ hrd hr⟩
        have hg : (resOp a.tmps (.cell ad t)).run P w = .ok d w := by
          simp only [resOp, Array.getD_eq_getD_getElem?, hc, Option.getD_some]
          cases hrc
          rw [← hd]
          rfl
        rw [List.mapM_cons]
        simp only [Sem.run_bind, hg, hcs, Result.andThen_ok, Sem.run_pure]
      · cases h
    · cases h

theorem results_sound {β : At} {H : Heap} {w : World} {m : Tm} {a : Act} (hR : Rel β H w) (hT : TRel H.n β m a.tmps) {fn : Func} {vs : List AV} (h : resA P m H fn.results.toList = some vs) :
    ∃ c, (results fn a.tmps).run P w = .ok c w ∧ VRel H.n β (pack vs) c := by
  obtain ⟨cs, hcs, hr⟩ := res_sound hR hT h
  have hrun : (results fn a.tmps).run P w = .ok (if h : cs.toArray.size = 1 then cs.toArray[0] else .tuple cs.toArray) w := by
    have : results fn a.tmps = (fn.results.mapM (resOp a.tmps)) >>= fun vs => pure (if h : vs.size = 1 then vs[0] else .tuple vs) := rfl
    rw [this, Array.mapM_eq_mapM_toList]
    simp only [Sem.run_bind, Sem.run_map, hcs, Result.andThen_ok, Sem.run_pure]
  refine ⟨_, hrun, ?_⟩
  cases vs with
  | nil => cases hr; exact .tup _ _ .nil
  | cons v vs =>
    cases hr with
    | cons _ _ _ _ h1 h2 =>
      cases vs with
      | nil => cases h2; exact h1
      | cons v2 vs =>
        cases h2 with
        | cons _ _ _ _ h3 h4 =>
          rw [dif_neg (by simp)]
          exact .tup _ _ (.cons _ _ _ _ h1 (.cons _ _ _ _ h3 h4))

theorem get_argsT : ∀ (l : List AV) (k : Nat) (t : Trie AV) (i : Nat), (argsT k l t).get i = if k ≤ i ∧ i < k + l.length then l[i - k]? else t.get i
  | [], k, t, i => by
    simp only [argsT, List.length_nil, Nat.add_zero]
    rw [if_neg (by omega)]
  | v :: l, k, t, i => by
    simp only [argsT, get_argsT l (k + 1), Trie.get_set, List.length_cons]
    by_cases e : i = k
    · subst e
      rw [if_neg (by omega), if_pos rfl, if_pos (by omega)]
      simp
    · by_cases h : k + 1 ≤ i ∧ i < k + 1 + l.length
      · rw [if_pos h, if_pos (by omega)]
        have : i - k = (i - (k + 1)) + 1 := by omega
        rw [this, List.getElem?_cons_succ]
      · rw [if_neg h, if_neg e, if_neg (by omega)]

theorem start_sound {N n : Nat} {β : At} {args : List AV} {cargs : Array Value} (h : VsRel N β args cargs.toList) (hl : args.length ≤ n) :
    TRel N β (startM n args) (cargs ++ Array.replicate (n - cargs.size) undef) := by
  have hlen : args.length = cargs.size := by rw [h.length]; simp
  refine ⟨by simp [startM]; omega, fun i v hv => ?_⟩
  simp only [Tm.get, startM, get_argsT, Nat.zero_le, true_and, Nat.zero_add, Nat.sub_zero, Trie.get_leaf] at hv
  split at hv
  · rename_i hi
    obtain ⟨c, hc, hr⟩ := h.at i v hv
    refine ⟨c, ?_, hr⟩
    rw [Array.getElem?_append_left (by omega)]
    simpa using hc
  · cases hv

theorem body_sound (hm : P.follows .mixedOrders = true) (hcl : CallOk P cl) {n : Nat} {f : FuncId} {fn : Func} {c : Code} (hf : P.funcs[f]? = some fn) (hb : fn.body = some c) {args : List AV} {H H' : Heap} {v : AV}
    (h : bodyA P cl n fn c args H = some (v, H')) {β : At} {w : World} {cargs : Array Value} (hR : Rel β H w) (ha : VsRel H.n β args cargs.toList) :
    Calls P f cargs w fun e w' => ∃ β' d, e = .returned d ∧ Rel β' H' w' ∧ Le β H w β' H' w' ∧ VRel H'.n β' v d := by
  unfold bodyA at h
  split at h
  · rename_i hl
    refine calls_of_wp hf hb ?_
    split at h
    · rename_i m H1 he
      obtain ⟨vs, hvs, he2⟩ := map_some h
      simp only [Prod.mk.injEq] at he2
      obtain ⟨rfl, rfl⟩ := he2
      refine (exec_sound hm hcl n).1 c he hR (start_sound ha hl) fun β' a' w' hR' hLe' hT' hd' => ?_
      obtain ⟨d, hd, hrd⟩ := results_sound hR' hT' hvs
      exact ⟨hd', d, hd, β', d, rfl, hR', hLe', hrd⟩
    · rename_i m H1 he
      obtain ⟨vs, hvs, he2⟩ := map_some h
      simp only [Prod.mk.injEq] at he2
      obtain ⟨rfl, rfl⟩ := he2
      refine (exec_sound hm hcl n).1 c he hR (start_sound ha hl) fun β' a' w' hR' hLe' hT' hd' => ?_
      obtain ⟨d, hd, hrd⟩ := results_sound hR' hT' hvs
      exact ⟨hd', d, hd, β', d, rfl, hR', hLe', hrd⟩
    · cases h
  · cases h

theorem calls_sound (hm : P.follows .mixedOrders = true) : ∀ n, CallOk P (callA_ P n)
  | 0 => fun f args H v H' h => by simp only [callA_] at h; cases h
  | n + 1 => fun f args H v H' h => by
    intro β w cargs hR ha
    simp only [callA_] at h
    split at h
    · rename_i fn hf
      split at h
      · rename_i c hb
        exact body_sound hm (calls_sound hm n) hf hb h hR ha
      · cases h
    · cases h
end exec
end Go.Vx
