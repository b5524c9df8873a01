/- The evaluator on values that hang on the input: code that ends as is wanted. (A help: no statement of the seat is proved here.) -/
import Derived.Test.YtgmlklaehklmoaaVxG
set_option linter.unusedVariables false
set_option linter.unusedSimpArgs false
namespace Go.Vx
section good
variable {P : Program}

/-- Where a call began. -/
structure Start where
  β : At
  H : Heap
  w : World
  fresh : ∀ g o, H.get g = some o → g < H.n
def Start.le (S : Start) (β : At) (H : Heap) (w : World) : Prop := Le S.β S.H S.w β H w
/-- What is wanted behind a code. -/
def Wants (S : Start) (d : Act) (k : Out → Tm → Heap → Prop) (Q : Exit → Act → World → Prop) : Prop :=
  ∀ o m' H', k o m' H' → ∀ β' a' w', Rel β' H' w' → S.le β' H' w' → TRel H'.n β' m' a'.tmps → a'.defers = d.defers → Q o.ex a' w'
/-- A code ends as is wanted, wherever its rows lie. -/
def Good (P : Program) (S : Start) (c : Code) (m : Tm) (H : Heap) (k : Out → Tm → Heap → Prop) : Prop :=
  ∀ (a : Act) (β : At) (w : World), Rel β H w → S.le β H w → TRel H.n β m a.tmps → ∀ Q : Exit → Act → World → Prop, Wants S a k Q → c.wp P Q a w
def CallGood (P : Program) (f : FuncId) (args : List AV) (H : Heap) (k : AV → Heap → Prop) : Prop :=
  ∀ (β : At) (w : World) (cargs : Array Value), Rel β H w → VsRel H.n β args cargs.toList →
    Calls P f cargs w fun e w' => ∃ v H', k v H' ∧ ∃ β' c, e = .returned c ∧ Rel β' H' w' ∧ Le β H w β' H' w' ∧ VRel H'.n β' v c
def SOk (P : Program) (S : Handler) : Prop := ∀ f args H k, S f args H k → CallGood P f args H k

theorem SOk.of_cl {S : Handler} {cl : Caller} (hcl : ClS S cl) (hc : CallOk P cl) : SOk P S := fun f args H k h β w cargs hR ha => by
  obtain ⟨v, H', h1, hk⟩ := hcl f args H k h
  refine (hc f args H v H' h1 β w cargs hR ha).mono ?_
  rintro e w' ⟨β', c, he, hR', hLe, hv⟩
  exact ⟨v, H', hk, β', c, he, hR', hLe, hv⟩

theorem stepCS_good {S : Handler} (hS : SOk P S) {ops : Array Oper} {o : Oper} {m : Tm} {H : Heap} {k : Tm → Heap → Prop} (h : stepCS P S ops o m H k) {a : Act} {β : At} {w : World} (hR : Rel β H w) (hT : TRel H.n β m a.tmps)
    {Q : Exit → Act → World → Prop} {K : Act → World → Prop}
    (hK : ∀ m' H', k m' H' → ∀ β' a' w', Rel β' H' w' → Le β H w β' H' w' → TRel H'.n β' m' a'.tmps → a'.defers = a.defers → K a' w') :
    if Region.wanted o (yielded ops a.tmps) = true then o.wp P a w K Q ∨ (o.asks P a w ∧ LetsOut Q) else K (a.put o.dst undef) w := by
  unfold stepCS at h
  obtain ⟨cool, hc, ⟨hg, h⟩ | ⟨hg, h⟩⟩ := guardCS_sound h
  · rw [guard_sound hT hg]
    simp only [if_true]
    refine .inl ?_
    have hval : ∀ v H', opA P o.op m H = some (.val v H') → ∀ m', m.dst o.dst v = some m' → k (coolPick o m (coolGuard ops o m m')) H' → o.wp P a w K Q := by
      intro v H' hop m' hm hk
      obtain ⟨β', w', hR', hLe, hf⟩ : Fits P o a β H w v H' := meets hR hT hop
      have hT' := hT.mono hLe.n hLe.keeps
      unfold Oper.wp
      rcases hf with ⟨c, hrun, hv⟩ | ⟨hrun, rfl⟩
      · rw [hrun, Oper.upon_value]
        exact hK _ _ hk β' _ w' hR' hLe (cool_dst hm (hT'.dst hv hm)) (act_put_defers _ _ _)
      · rw [hrun, Oper.upon_skip]
        exact hK _ _ hk β' _ w' hR' hLe (cool_dst hm (hT'.dst (.tup _ _ .nil) hm)) (act_put_defers _ _ _)
    split at h
    · rename_i c x y ho
      split at h
      · rename_i t b hx
        rcases fork_elim h with ⟨rfl, h'⟩ | ⟨rfl, h'⟩
        · obtain ⟨v, hv, h'⟩ := must_elim h'
          obtain ⟨m', hm, h'⟩ := dstK_elim h'
          have hk := coolK_elim (hc _ _ h')
          have hx' : opnd m (.tmp c) = some (.bool t true) := hx
          refine hval v H (by simp only [ho, opA, hx', hv, Option.map_some]) m' hm ?_
          simp only [coolPick, ho, hx]
          exact hk
        · obtain ⟨v, hv, h'⟩ := must_elim h'
          obtain ⟨m', hm, h'⟩ := dstK_elim h'
          have hk := coolK_elim (hc _ _ h')
          have hx' : opnd m (.tmp c) = some (.bool t false) := hx
          refine hval v H (by simp only [ho, opA, hx', hv, Option.map_some]) m' hm ?_
          simp only [coolPick, ho, hx]
          exact hk
      · exact h.elim
    · exact h.elim
    · rename_i hno1 hno2
      have hno : ∀ c a b, o.op ≠ .pick c a b := fun c a b e => hno2 c a b e
      obtain ⟨g, hg', h⟩ := opS_sound h
      cases g with
      | val v H' =>
        obtain ⟨m', hm, h⟩ := dstK_elim (heapK_elim h)
        refine hval v H' hg' m' hm ?_
        rw [coolPick_none hno]
        exact hc _ _ h
      | enter f args =>
        obtain ⟨cargs, hrun, hv⟩ : ∃ cargs : Array Value, (execOp a.eval o).run P w = .ok (.enter f cargs) w ∧ VsRel H.n β args cargs.toList := meets hR hT hg'
        unfold Oper.wp
        rw [hrun, Oper.upon_enter]
        refine (hS f args H _ (forceL_elim h) β w cargs hR hv).mono ?_
        rintro e w' ⟨v, H', h, β', c, rfl, hR', hLe, hv'⟩
        obtain ⟨m', hm, h⟩ := dstK_elim (forceH_elim h)
        have hk := hc _ _ h
        have := cool_dst (ops := ops) hm ((hT.mono hLe.n hLe.keeps).dst hv' hm)
        rw [coolPick_none hno] at this
        exact hK _ _ hk β' _ w' hR' hLe this (act_put_defers _ _ _)
  · rw [guard_sound hT hg]
    simp only [Bool.false_eq_true, if_false]
    split at h
    · rename_i c x y ho
      split at h
      · rename_i hx
        obtain ⟨m', hm, h⟩ := dstK_elim h
        have hk := hc _ _ h
        have := cool_dst (ops := ops) hm (hT.dst (c := undef) (.tup _ _ .nil) hm)
        simp only [coolPick, ho, hx] at this
        exact hK _ _ hk β _ w hR (Le.refl _ _ _) this (act_put_defers _ _ _)
      · exact h.elim
    · exact h.elim
    · rename_i hno1 hno
      obtain ⟨m', hm, h⟩ := dstK_elim h
      have hk := hc _ _ h
      have := cool_dst (ops := ops) hm (hT.dst (c := undef) (.tup _ _ .nil) hm)
      rw [coolPick_none (fun c a b e => hno c a b e)] at this
      exact hK _ _ hk β _ w hR (Le.refl _ _ _) this (act_put_defers _ _ _)

theorem opsS_good {S : Handler} (hS : SOk P S) {ops : Array Oper} {Q : Exit → Act → World → Prop} : ∀ {l : List Oper} {m : Tm} {H : Heap} {k : Tm → Heap → Prop}, opsS P S ops l m H k → ∀ {a : Act} {β : At} {w : World}, Rel β H w → TRel H.n β m a.tmps →
    (∀ m' H', k m' H' → ∀ β' a' w', Rel β' H' w' → Le β H w β' H' w' → TRel H'.n β' m' a'.tmps → a'.defers = a.defers → Q .normal a' w') → wpList P ops Q l a w
  | [], m, H, k, h, a, β, w, hR, hT, hQ => hQ m H h β a w hR (Le.refl _ _ _) hT rfl
  | o :: l, m, H, k, h, a, β, w, hR, hT, hQ => by
    unfold wpList
    refine stepCS_good hS h hR hT fun m' H' hk β' a' w' hR' hLe hT' hd => ?_
    exact opsS_good hS hk hR' hT' fun m2 H2 hk2 β2 a2 w2 hR2 hLe2 hT2 hd2 => hQ m2 H2 hk2 β2 a2 w2 hR2 (hLe.trans hLe2) hT2 (hd2.trans hd)
/-- Inside a loop, ahead of a round. -/
def InLoop (P : Program) (c : Code) (Q : Exit → Act → World → Prop) (a : Act) (w : World) : Prop :=
  ∀ (b : Frame) k cs, ∃ e a' w', Q e a' w' ∧ Arrives P (lone (b.at a (.code c :: .inLoop c :: k)) cs w) b k cs e a' w'
theorem inLoop_round {c : Code} {Q : Exit → Act → World → Prop} {a : Act} {w : World} (h : c.wp P (Exit.then (InLoop P c Q) Q) a w) : InLoop P c Q a w := by
  intro b k cs
  obtain ⟨e, a₁, w₁, hq, harr⟩ := h b (.inLoop c :: k) cs
  cases e with
  | normal =>
    obtain ⟨e₂, a₂, w₂, hq₂, harr₂⟩ := hq b k cs
    exact ⟨e₂, a₂, w₂, hq₂, .of_steps (Steps.trans harr (.one step_inLoop)) harr₂⟩
  | exit id => exact ⟨_, a₁, w₁, hq, .pass (x := .inLoop c) rfl (fun _ _ => .inl (by simp)) harr⟩
  | goto l => exact ⟨_, a₁, w₁, hq, .pass (x := .inLoop c) rfl (fun _ _ => .inl (by simp)) harr⟩
  | ret => exact ⟨_, a₁, w₁, hq, .pass (x := .inLoop c) rfl (fun _ _ => .inl (by simp)) harr⟩
  | panic ch => exact ⟨_, a₁, w₁, hq, .pass (x := .inLoop c) rfl (fun _ _ => .inl (by simp)) harr⟩
  | outgrown => exact ⟨_, a₁, w₁, hq, .pass (x := .inLoop c) rfl (fun _ _ => .inl (by simp)) harr⟩
theorem wp_inLoop {c : Code} {Q : Exit → Act → World → Prop} {a : Act} {w : World} (h : InLoop P c Q a w) : (Code.loop c).wp P Q a w := by
  intro b k cs
  obtain ⟨e, a', w', hq, harr⟩ := h b k cs
  exact ⟨e, a', w', hq, .of_steps (.one step_loop) harr⟩
/-- A loop ends as is wanted. -/
def GoodIn (P : Program) (S : Start) (c : Code) (m : Tm) (H : Heap) (k : Out → Tm → Heap → Prop) : Prop :=
  ∀ (a : Act) (β : At) (w : World), Rel β H w → S.le β H w → TRel H.n β m a.tmps → ∀ Q : Exit → Act → World → Prop, Wants S a k Q → InLoop P c Q a w

/-- The loops of a code. -/
def loops : Code → List Code
  | .seq a b => loops a ++ loops b
  | .cond _ a b => loops a ++ loops b
  | .block _ b => loops b
  | .loop b => b :: loops b
  | _ => []
/-- What is known of loops, in calls that begin with so many rows. -/
def LInOk (P : Program) (K : Nat) (LS : List Code) (L : LoopH) : Prop := ∀ S : Start, S.H.n = K → ∀ b, b ∈ LS → ∀ m H k p, L b m H k = some p → p → GoodIn P S b m H k

theorem Wants.defers {S : Start} {d d' : Act} {k : Out → Tm → Heap → Prop} {Q : Exit → Act → World → Prop} (h : Wants S d k Q) (hd : d'.defers = d.defers) : Wants S d' k Q :=
  fun o m' H' hk β' a' w' h1 h2 h3 h4 => h o m' H' hk β' a' w' h1 h2 h3 (h4.trans hd)

theorem execS_good (hm : P.follows .mixedOrders = true) {S D : Handler} {L : LoopH} {cl : Caller} {K : Nat} {LS : List Code} (hS : SOk P S) (hD : ClS D cl) (hcl : CallOk P cl) (hl : ClLater cl) (hL : LInOk P K LS L) {S0 : Start} (hK : S0.H.n = K) : ∀ (n : Nat),
    (∀ (c : Code) (_ : codeOk P c = true) (_ : ∀ b, b ∈ loops c → b ∈ LS) {m : Tm} {H : Heap} {k : Out → Tm → Heap → Prop}, execS P S D L n c m H k → Good P S0 c m H k) ∧
    (∀ (b : Code) (_ : codeOk P b = true) (_ : ∀ b', b' ∈ loops (.loop b) → b' ∈ LS) {m : Tm} {H : Heap} {k : Out → Tm → Heap → Prop}, execS P S D L n (.loop b) m H k → GoodIn P S0 b m H k)
  | 0 => by
    constructor
    · intro c _ _ m H k h; simp only [execS] at h
    · intro c _ _ m H k h; simp only [execS] at h
  | n + 1 => by
    obtain ⟨ih, ihl⟩ := execS_good hm hS hD hcl hl hL hK n
    have hloop : ∀ (b : Code) (_ : codeOk P b = true) (_ : ∀ b', b' ∈ loops (.loop b) → b' ∈ LS) {m : Tm} {H : Heap} {k : Out → Tm → Heap → Prop}, execS P S D L (n + 1) (.loop b) m H k → GoodIn P S0 b m H k := by
      intro b hC hls m H k h
      simp only [execS] at h
      split at h
      · rename_i p hp
        exact hL S0 hK b (hls b (by simp [loops])) m H k p hp h
      · intro a β w hR hS0 hT Q hQ
        refine inLoop_round (ih b hC (fun b' hb' => hls b' (by simp [loops, hb'])) h a β w hR hS0 hT _ fun o m' H' hk β' a' w' hR' hS' hT' hd' => ?_)
        cases o with
        | norm => exact ihl b hC hls hk a' β' w' hR' hS' hT' Q (hQ.defers hd')
        | exit id => exact hQ _ m' H' hk β' a' w' hR' hS' hT' hd'
        | ret => exact hQ _ m' H' hk β' a' w' hR' hS' hT' hd'
    refine ⟨fun c hC hls => ?_, hloop⟩
    intro m H k h a β w hR hS0 hT Q hQ
    cases c with
    | skip => simp only [execS] at h; exact wp_skip (hQ _ m H h β a w hR hS0 hT rfl)
    | label l => simp only [execS] at h; exact wp_label (hQ _ m H h β a w hR hS0 hT rfl)
    | exit id => simp only [execS] at h; exact wp_exit (hQ _ m H h β a w hR hS0 hT rfl)
    | ret => simp only [execS] at h; exact wp_ret (hQ _ m H h β a w hR hS0 hT rfl)
    | region id ops draw =>
      cases draw with
      | true =>
        simp only [execS] at h
        refine wp_region_runs hm (turns_runs 4 ops fun v hv => Runs.of_any ?_)
        have hCv : drawOk P v (Region.before v) = true := by
          simp only [codeOk, List.all_eq_true] at hC
          exact hC v hv
        obtain ⟨m', H', h1, hk⟩ := drawS_sound hD hl hCv (allS_elim h v hv)
        exact draw_any hcl h1 hR hT fun β' a' w' hR' hLe hT' hd' => hQ _ m' H' hk β' a' w' hR' (hS0.trans hLe) hT' hd'
      | false =>
        simp only [execS] at h
        exact wp_region_list (opsS_good hS h hR hT fun m' H' hk β' a' w' hR' hLe hT' hd' => hQ _ m' H' hk β' a' w' hR' (hS0.trans hLe) hT' hd')
    | seq x y =>
      simp only [codeOk, Bool.and_eq_true] at hC
      simp only [execS] at h
      refine wp_seq (ih x hC.1 (fun b hb => hls b (by simp [loops, hb])) h a β w hR hS0 hT _ fun o m' H' hk β' a' w' hR' hS' hT' hd' => ?_)
      cases o with
      | norm => exact ih y hC.2 (fun b hb => hls b (by simp [loops, hb])) hk a' β' w' hR' hS' hT' Q (hQ.defers hd')
      | exit id => exact hQ _ m' H' hk β' a' w' hR' hS' hT' hd'
      | ret => exact hQ _ m' H' hk β' a' w' hR' hS' hT' hd'
    | cond x t f =>
      simp only [codeOk, Bool.and_eq_true] at hC
      simp only [execS] at h
      split at h
      · rename_i u b hx
        rcases fork_elim h with ⟨rfl, h'⟩ | ⟨rfl, h'⟩
        · exact wp_cond_true (bool_of (opnd_sound hT hx)) (ih t hC.1 (fun b hb => hls b (by simp [loops, hb])) (coolXK_elim h') a β w hR hS0 (hT.coolX hx) Q hQ)
        · exact wp_cond_false (bool_of (opnd_sound hT hx)) (ih f hC.2 (fun b hb => hls b (by simp [loops, hb])) (coolXK_elim h') a β w hR hS0 (hT.coolX hx) Q hQ)
      · exact h.elim
    | block id b =>
      have hb : codeOk P b = true := by simpa only [codeOk] using hC
      simp only [execS] at h
      refine wp_block (ih b hb (fun b' hb' => hls b' (by simpa [loops] using hb')) h a β w hR hS0 hT _ fun o m' H' hk β' a' w' hR' hS' hT' hd' => ?_)
      cases o with
      | norm => exact hQ _ m' H' hk β' a' w' hR' hS' hT' hd'
      | ret => exact hQ _ m' H' hk β' a' w' hR' hS' hT' hd'
      | exit id' =>
        simp only at hk
        show (if id' = id then Q .normal a' w' else Q (.exit id') a' w')
        split at hk
        · rename_i he
          rw [if_pos (Nat.eq_of_beq_eq_true he)]
          exact hQ _ m' H' hk β' a' w' hR' hS' hT' hd'
        · rename_i he
          rw [if_neg (Nat.ne_of_beq_eq_false he)]
          exact hQ _ m' H' hk β' a' w' hR' hS' hT' hd'
    | loop b =>
      have hb : codeOk P b = true := by simpa only [codeOk] using hC
      exact wp_inLoop (hloop b hb hls h a β w hR hS0 hT Q hQ)
    | _ => simp only [execS] at h

/-- What a body comes to is what the call comes to. -/
theorem bodyS_good (hm : P.follows .mixedOrders = true) {S D : Handler} {L : LoopH} {cl : Caller} (hS : SOk P S) (hD : ClS D cl) (hcl : CallOk P cl) (hl : ClLater cl) {n : Nat} {f : FuncId} {fn : Func} {c : Code} (hf : P.funcs[f]? = some fn) (hb : fn.body = some c) (hC : codeOk P c = true)
    {args : List AV} {H : Heap} (hL : LInOk P H.n (loops c) L) {k : AV → Heap → Prop} (h : bodyS P S D L n fn c args H k) : CallGood P f args H k := by
  intro β w cargs hR ha
  unfold bodyS at h
  split at h
  · exact h.elim
  · rename_i hle
    refine calls_of_wp hf hb ?_
    refine (execS_good hm hS hD hcl hl hL (S0 := ⟨β, H, w, hR.fresh⟩) rfl n).1 c hC (fun _ h => h) h _ β w hR (Le.refl _ _ _) (start_sound ha (Nat.le_of_ble_eq_true hle)) _ fun o m H' hk β' a' w' hR' hS' hT' hd' => ?_
    cases o with
    | norm =>
      obtain ⟨l, hr, hk⟩ := must_elim hk
      obtain ⟨d, hd, hrd⟩ := results_sound hR' hT' hr
      exact ⟨hd', d, hd, _, H', hk, β', d, rfl, hR', hS', hrd⟩
    | ret =>
      obtain ⟨l, hr, hk⟩ := must_elim hk
      obtain ⟨d, hd, hrd⟩ := results_sound hR' hT' hr
      exact ⟨hd', d, hd, _, H', hk, β', d, rfl, hR', hS', hrd⟩
    | exit id => exact hk.elim
end good
end Go.Vx
