/- The evaluator's steps are the machine's: operations, regions in order, code, calls. (A help: no statement of the seat is proved here.) -/
import Derived.Test.YtgmlklaehklmoaaVm9
import Derived.LoopN
set_option linter.unusedVariables false
set_option linter.unusedSimpArgs false
namespace Go.Vm
section step
variable {P : Program} {o : Oper} {a : Act} {β : At} {H : Heap} {w : World} {m : Tm}

theorem map_some {α γ : Type} {f : α → γ} {x : Option α} {g : γ} (h : x.map f = some g) : ∃ v, x = some v ∧ f v = g := by
  cases x with
  | none => cases h
  | some v => cases h; exact ⟨v, rfl, rfl⟩

/-- What the machine comes to at an operation, against the evaluator's. -/
def Meets (P : Program) (o : Oper) (a : Act) (β : At) (H : Heap) (w : World) : Got → Prop
  | .val v H' => Fits P o a β H w v H'
  | .enter f args => ∃ cargs : Array Value, (execOp a.eval o).run P w = .ok (.enter f cargs) w ∧ VsRel H.n β args cargs.toList

theorem meets_call (hR : Rel β H w) (hT : TRel H.n β m a.tmps) {c : Call} {g : Got} (ho : o.op = .call c) (h : callA P c m H = some g) : Meets P o a β H w g := by
  unfold callA at h
  split at h
  · cases h
  · rename_i args hargs
    split at h
    · rename_i b hb
      cases g with
      | val v H' => exact fits_builtin hR hT ho hb hargs h
      | enter f as =>
        exfalso
        unfold builtinA at h
        split at h
        · obtain ⟨_, _, h⟩ := map_some h; cases h
        · obtain ⟨_, _, h⟩ := map_some h; cases h
        · obtain ⟨_, _, h⟩ := map_some h; cases h
        · split at h
          · obtain ⟨_, _, h⟩ := map_some h; cases h
          · cases h
        · cases h
    · rename_i f hf
      split at h
      · rename_i k first cap hk
        split at h
        · rename_i fn hfn
          split at h
          · rename_i hc
            cases h
            have hv := opnd_sound hT hk
            have ha := opnds_sound hT hargs
            cases hq : a.eval f <;> rw [hq] at hv <;> cases hv
            rename_i cs ds h1 h2
            refine ⟨cs ++ c.args.map a.eval ++ ds, ?_, ?_⟩
            · have hname : (fn.name == "runtime.NumGoroutine") = false := by simpa using hc.1
              have hbody : fn.body.isNone = false := by cases hb : fn.body <;> simp [hb] at hc ⊢
              simp only [execOp, ho, resolve, hf, hq, Deferred.ofValue, Sem.run_bind, Sem.run_pure, Result.andThen_ok, invoke, callFunc, run_program, hfn, hname, hbody]
              simp
            · simp only [Array.toList_append, Array.toList_map]
              exact (h1.append ha).append h2
          · cases h
        · cases h
      · cases h
    · cases h

theorem meets (hR : Rel β H w) (hT : TRel H.n β m a.tmps) {g : Got} (h : opA P o.op m H = some g) : Meets P o a β H w g := by
  cases ho : o.op with
  | move x => rw [ho] at h; simp only [opA] at h; obtain ⟨v, hv, rfl⟩ := map_some h; exact fits_move hR hT (.inl ho) hv
  | assign x => rw [ho] at h; simp only [opA] at h; obtain ⟨v, hv, rfl⟩ := map_some h; exact fits_move hR hT (.inr ho) hv
  | pick c x y =>
    rw [ho] at h; simp only [opA] at h
    split at h
    · rename_i hc; obtain ⟨v, hv, rfl⟩ := map_some h; exact fits_pick (b := true) hR hT ho hc hv
    · rename_i hc; obtain ⟨v, hv, rfl⟩ := map_some h; exact fits_pick (b := false) hR hT ho hc hv
    · cases h
  | alloc t =>
    rw [ho] at h; simp only [opA] at h
    split at h
    · rename_i z hz
      split at h
      · rename_i hp; cases h; exact fits_alloc hR ho hz hp
      · cases h
    · cases h
  | box t x =>
    rw [ho] at h; simp only [opA] at h
    split at h
    · rename_i v hv
      split at h
      · rename_i hp; cases h; exact fits_box hR hT ho hv hp
      · cases h
    · cases h
  | build t parts =>
    rw [ho] at h; simp only [opA] at h
    split at h
    · rename_i z ps fields hz hp hu
      split at h
      · rename_i pl hpl; obtain ⟨cs, hcs, rfl⟩ := map_some h; exact fits_build_struct hR hT ho hz hp hu hpl hcs
      · cases h
    · rename_i z ps n e hz hp hu
      split at h
      · rename_i s hs; obtain ⟨cs, hcs, rfl⟩ := map_some h; exact fits_build_array hR hT ho hz hp hu hs hcs
      · cases h
    · cases h
  | buildSlice t n parts =>
    rw [ho] at h; simp only [opA] at h
    split at h
    · rename_i e ps he hp
      split at h
      · rename_i s z hs hz
        split at h
        · rename_i hc
          split at h
          · rename_i cs hcs
            split at h
            · rename_i hall; cases h; exact fits_buildSlice hR hT ho he hp hs hz hc.1 hc.2.1 hc.2.2 hcs hall.1 hall.2
            · cases h
          · cases h
        · cases h
      · cases h
    · cases h
  | load t x =>
    rw [ho] at h; simp only [opA] at h
    split at h
    · rename_i r hr; obtain ⟨v, hv, rfl⟩ := map_some h; exact fits_load hR hT ho hr hv
    · cases h
  | store t x y =>
    rw [ho] at h; simp only [opA] at h
    split at h
    · rename_i r v hr hv; obtain ⟨H', hH, rfl⟩ := map_some h; exact fits_store hR hT ho hr hv hH
    · cases h
  | nilCheck x =>
    rw [ho] at h; simp only [opA] at h
    split at h
    · rename_i r hr; cases h; exact fits_nilCheck_ptr hR hT ho hr
    · rename_i f p q hr; cases h; exact fits_nilCheck_func hR hT ho hr
    · cases h
  | binOp op t x y u =>
    rw [ho] at h; simp only [opA] at h
    split at h
    · rename_i p q hp hq; obtain ⟨v, hv, rfl⟩ := map_some h; exact fits_binOp hR hT ho hp hq hv
    · cases h
  | unOp op t x =>
    rw [ho] at h; simp only [opA] at h
    split at h
    · rename_i p hp; obtain ⟨v, hv, rfl⟩ := map_some h; exact fits_unOp hR hT ho hp hv
    · cases h
  | convert s d x =>
    rw [ho] at h; simp only [opA] at h
    split at h
    · rename_i p hp
      obtain ⟨⟨v, H'⟩, hv, rfl⟩ := map_some h
      obtain ⟨β', w', c, hR', hLe, hrun, hr⟩ := convA_sound hR (opnd_sound hT hp) hv
      refine ⟨β', w', hR', hLe, .inl ⟨c, ?_, hr⟩⟩
      simp only [execOp, ho]
      exact run_v hrun
    · cases h
  | makeFunc fn x y =>
    rw [ho] at h; simp only [opA] at h
    split at h
    · rename_i p q hp hq; cases h; exact fits_makeFunc hR hT ho hp hq
    · cases h
  | makeSlice t l c =>
    rw [ho] at h; simp only [opA] at h
    split at h
    · rename_i p q hp hq; obtain ⟨⟨v, H'⟩, hv, rfl⟩ := map_some h; exact fits_makeSlice hR hT ho hp hq hv
    · cases h
  | slice t x lo hi mx =>
    rw [ho] at h
    cases mx with
    | none =>
      simp only [opA] at h
      split at h
      · rename_i p l u hp hl hu; obtain ⟨v, hv, rfl⟩ := map_some h; exact fits_slice hR hT ho hp hl hu hv
      · cases h
    | some y => simp only [opA] at h; cases h
  | fieldAddr s x f =>
    rw [ho] at h; simp only [opA] at h
    split at h
    · rename_i r fd hr hf
      split at h
      · rename_i k hk; cases h; exact fits_fieldAddr hR hT ho hr hf hk
      · cases h
    · cases h
  | field s x f =>
    rw [ho] at h; simp only [opA] at h
    split at h
    · rename_i cs fd hr hf; obtain ⟨v, hv, rfl⟩ := map_some h; exact fits_field hR hT ho hr hf hv
    · cases h
  | indexAddr t x i =>
    rw [ho] at h; simp only [opA] at h
    split at h
    · rename_i p q hp hq; obtain ⟨v, hv, rfl⟩ := map_some h; exact fits_indexAddr hR hT ho hp hq hv
    · cases h
  | index t x i =>
    rw [ho] at h; simp only [opA] at h
    split at h
    · rename_i p q hp hq; obtain ⟨v, hv, rfl⟩ := map_some h; exact fits_index hR hT ho hp hq hv
    · cases h
  | extract x i =>
    rw [ho] at h; simp only [opA] at h
    split at h
    · rename_i vs hvs; obtain ⟨v, hv, rfl⟩ := map_some h; exact fits_extract hR hT ho hvs hv
    · cases h
  | call c => rw [ho] at h; simp only [opA] at h; exact meets_call hR hT ho h
  | _ => rw [ho] at h; simp only [opA] at h; cases h

/-- What the calls answer, the machine's do. -/
def CallOk (P : Program) (cl : Caller) : Prop := ∀ f args H v H', cl f args H = some (v, H') → ∀ β w (cargs : Array Value), Rel β H w → VsRel H.n β args cargs.toList →
  Calls P f cargs w fun e w' => ∃ β' c, e = .returned c ∧ Rel β' H' w' ∧ Le β H w β' H' w' ∧ VRel H'.n β' v c

theorem guard_sound {ops : Array Oper} (hT : TRel H.n β m a.tmps) {b : Bool} (h : guardA ops o m = some b) : Region.wanted o (yielded ops a.tmps) = b := by
  unfold guardA at h
  unfold Region.wanted
  cases hg : o.guard with
  | none => rw [hg] at h; cases h; rfl
  | some g =>
    obtain ⟨j, want⟩ := g
    rw [hg] at h
    simp only at h
    cases hj : ops[j]? with
    | none => rw [hj] at h; cases h
    | some oj =>
      rw [hj] at h
      simp only at h
      cases hd : oj.dst with
      | none => rw [hd] at h; cases h
      | some d =>
        rw [hd] at h
        simp only at h
        cases hm : m.get d with
        | none => rw [hm] at h; cases h
        | some v =>
          rw [hm] at h
          cases v <;> simp only at h <;> try (first | cases h; done)
          rename_i q
          cases h
          obtain ⟨c, hc, hr⟩ := hT.2 d _ hm
          rw [bool_of hr] at hc
          simp [yielded, hj, hd, hc]

theorem act_put_defers (a : Act) (d : Option Nat) (c : Value) : (a.put d c).defers = a.defers := by cases d <;> rfl

/-- One operation, whatever comes behind it. -/
theorem step_sound {cl : Caller} (hcl : CallOk P cl) {ops : Array Oper} {m' : Tm} {H' : Heap} (hs : stepA P cl ops o m H = some (m', H')) (hR : Rel β H w) (hT : TRel H.n β m a.tmps) {Q : Exit → Act → World → Prop} {K : Act → World → Prop}
    (hK : ∀ β' a' w', Rel β' H' w' → Le β H w β' H' w' → TRel H'.n β' m' a'.tmps → a'.defers = a.defers → K a' w') :
    if Region.wanted o (yielded ops a.tmps) = true then o.wp P a w K Q ∨ (o.asks P a w ∧ LetsOut Q) else K (a.put o.dst undef) w := by
  unfold stepA at hs
  split at hs
  · cases hs
  · rename_i hg
    rw [guard_sound hT hg]
    simp only [Bool.false_eq_true, if_false]
    obtain ⟨m1, hm1, he⟩ := map_some hs
    simp only [Prod.mk.injEq] at he
    obtain ⟨rfl, rfl⟩ := he
    exact hK β _ w hR (Le.refl _ _ _) (hT.dst (.tup _ _ .nil) hm1) (act_put_defers _ _ _)
  · rename_i hg
    rw [guard_sound hT hg]
    simp only [if_true]
    refine .inl ?_
    split at hs
    · cases hs
    · rename_i v H1 hop
      obtain ⟨m1, hm1, he⟩ := map_some hs
      simp only [Prod.mk.injEq] at he
      obtain ⟨rfl, rfl⟩ := he
      obtain ⟨β', w', hR', hLe, hf⟩ : Fits P o a β H w v H1 := meets hR hT hop
      have hT' := hT.mono hLe.n hLe.keeps
      unfold Oper.wp
      rcases hf with ⟨c, hrun, hv⟩ | ⟨hrun, rfl⟩
      · rw [hrun, Oper.upon_value]
        exact hK β' _ w' hR' hLe (hT'.dst hv hm1) (act_put_defers _ _ _)
      · rw [hrun, Oper.upon_skip]
        exact hK β' _ w' hR' hLe (hT'.dst (.tup _ _ .nil) hm1) (act_put_defers _ _ _)
    · rename_i f args hop
      split at hs
      · cases hs
      · rename_i v H1 hc
        obtain ⟨m1, hm1, he⟩ := map_some hs
        simp only [Prod.mk.injEq] at he
        obtain ⟨rfl, rfl⟩ := he
        obtain ⟨cargs, hrun, hv⟩ : ∃ cargs : Array Value, (execOp a.eval o).run P w = .ok (.enter f cargs) w ∧ VsRel H.n β args cargs.toList := meets hR hT hop
        unfold Oper.wp
        rw [hrun, Oper.upon_enter]
        refine (hcl f args H v H1 hc β w cargs hR hv).mono ?_
        rintro e w' ⟨β', c, rfl, hR', hLe, hv'⟩
        exact hK β' _ w' hR' hLe ((hT.mono hLe.n hLe.keeps).dst hv' hm1) (act_put_defers _ _ _)

theorem ops_sound {cl : Caller} (hcl : CallOk P cl) {ops : Array Oper} {Q : Exit → Act → World → Prop} : ∀ {l : List Oper} {a : Act} {β : At} {H : Heap} {w : World} {m m' : Tm} {H' : Heap}, opsA P cl ops l m H = some (m', H') → Rel β H w → TRel H.n β m a.tmps →
    (∀ β' a' w', Rel β' H' w' → Le β H w β' H' w' → TRel H'.n β' m' a'.tmps → a'.defers = a.defers → Q .normal a' w') → wpList P ops Q l a w
  | [], a, β, H, w, m, m', H', h, hR, hT, hQ => by
    simp only [opsA, Option.some.injEq, Prod.mk.injEq] at h
    obtain ⟨rfl, rfl⟩ := h
    exact hQ β a w hR (Le.refl _ _ _) hT rfl
  | o :: l, a, β, H, w, m, m', H', h, hR, hT, hQ => by
    simp only [opsA] at h
    split at h
    · cases h
    · rename_i m1 H1 hs
      unfold wpList
      exact step_sound hcl hs hR hT fun β' a' w' hR' hLe hT' hd => ops_sound hcl h hR' hT' fun β2 a2 w2 hR2 hLe2 hT2 hd2 => hQ β2 a2 w2 hR2 (hLe.trans hLe2) hT2 (hd2.trans hd)
end step
end Go.Vm
