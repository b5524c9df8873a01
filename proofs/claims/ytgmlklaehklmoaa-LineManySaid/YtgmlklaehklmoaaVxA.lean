/- The evaluator's steps are the machine's: operations, regions in order, code, calls. (A help: no statement of the seat is proved here.) -/
import Derived.Test.YtgmlklaehklmoaaVx9
import Derived.LoopN
set_option linter.unusedVariables false
set_option linter.unusedSimpArgs false
namespace Go.Vx
section step
variable {P : Program} {o : Oper} {a : Act} {β : At} {H : Heap} {w : World} {m : Tm}

theorem map_some {α γ : Type} {f : α → γ} {x : Option α} {g : γ} (h : x.map f = some g) : ∃ v, x = some v ∧ f v = g := by
  cases x with
  | none => cases h
  | some v => cases h; exact ⟨v, rfl, rfl⟩

/-- What the machine comes to at an operation, against the evaluator's. -/
def Meets (P : Program) (o : Oper) (a : Act) (β : At) (H : Heap) (w : World) : Got → Prop
  | .val v H' => Fits P o a β H w v H'
  | .enter f args => ∃ cargs : Array Value, (execOp a.eval o).run P w = .ok (.enter f cargs) w ∧ VsRel H.n β args cargs.toList

theorem meets_call (hR : Rel β H w) (hT : TRel H.n β m a.tmps) {c : Call} {g : Got} (ho : o.op = .call c) (h : callA P c m H = some g) : Meets P o a β H w g := by
  unfold callA at h
  split at h
  · cases h
  · rename_i args hargs
    split at h
    · rename_i b hb
      cases g with
      | val v H' => exact fits_builtin hR hT ho hb hargs h
      | enter f as =>
        exfalso
        unfold builtinA at h
        split at h
        · obtain ⟨_, _, h⟩ := map_some h; cases h
        · obtain ⟨_, _, h⟩ := map_some h; cases h
        · obtain ⟨_, _, h⟩ := map_some h; cases h
        · split at h
          · obtain ⟨_, _, h⟩ := map_some h; cases h
          · cases h
        · cases h
    · rename_i f hf
      split at h
      · rename_i k first cap hk
        split at h
        · rename_i fn hfn
          split at h
          · rename_i hc
            cases h
            have hv := opnd_sound hT hk
            have ha := opnds_sound hT hargs
            cases hq : a.eval f <;> rw [hq] at hv <;> cases hv
            rename_i cs ds h1 h2
            refine ⟨cs ++ c.args.map a.eval ++ ds, ?_, ?_⟩
            · have hname : (fn.name == "runtime.NumGoroutine") = false := by simpa using hc.1
              have hbody : fn.body.isNone = false := by cases hb : fn.body <;> simp [hb] at hc ⊢
              simp only [execOp, ho, resolve, hf, hq, Deferred.ofValue, Sem.run_bind, Sem.run_pure, Result.andThen_ok, invoke, callFunc, run_program, hfn, hname, hbody]
              simp
            · simp only [Array.toList_append, Array.toList_map]
              exact (h1.append ha).append h2
          · cases h
        · cases h
      · cases h
    · cases h

theorem meets (hR : Rel β H w) (hT : TRel H.n β m a.tmps) {g : Got} (h : opA P o.op m H = some g) : Meets P o a β H w g := by
  cases ho : o.op with
  | move x => rw [ho] at h; simp only [opA] at h; obtain ⟨v, hv, rfl⟩ := map_some h; exact fits_move hR hT (.inl ho) hv
  | assign x => rw [ho] at h; simp only [opA] at h; obtain ⟨v, hv, rfl⟩ := map_some h; exact fits_move hR hT (.inr ho) hv
  | pick c x y =>
    rw [ho] at h; simp only [opA] at h
    split at h
    · rename_i hc; obtain ⟨v, hv, rfl⟩ := map_some h; exact fits_pick (b := true) hR hT ho hc hv
    · rename_i hc; obtain ⟨v, hv, rfl⟩ := map_some h; exact fits_pick (b := false) hR hT ho hc hv
    · cases h
  | alloc t =>
    rw [ho] at h; simp only [opA] at h
    split at h
    · rename_i z hz
      split at h
      · rename_i hp; cases h; exact fits_alloc hR ho hz hp
      · cases h
    · cases h
  | box t x =>
    rw [ho] at h; simp only [opA] at h
    split at h
    · rename_i v hv
      split at h
      · rename_i hp; cases h; exact fits_box hR hT ho hv hp
      · cases h
    · cases h
  | build t parts =>
    rw [ho] at h; simp only [opA] at h
    split at h
    · rename_i z ps fields hz hp hu
      split at h
      · rename_i pl hpl; obtain ⟨cs, hcs, rfl⟩ := map_some h; exact fits_build_struct hR hT ho hz hp hu hpl hcs
      · cases h
    · rename_i z ps n e hz hp hu
      split at h
      · rename_i s hs; obtain ⟨cs, hcs, rfl⟩ := map_some h; exact fits_build_array hR hT ho hz hp hu hs hcs
      · cases h
    · cases h
  | buildSlice t n parts =>
    rw [ho] at h; simp only [opA] at h
    split at h
    · rename_i e ps he hp
      split at h
      · rename_i s z hs hz
        split at h
        · rename_i hc
          split at h
          · rename_i cs hcs
            split at h
            · rename_i hall; obtain ⟨H1, h1, he1⟩ := map_some h; cases he1; exact (fits_buildSlice hR hT ho he hp hs hz hc.1 hc.2.1 hc.2.2 hcs hall.1 hall.2).settle h1
            · cases h
          · cases h
        · cases h
      · cases h
    · cases h
  | load t x =>
    rw [ho] at h; simp only [opA] at h
    split at h
    · rename_i r hr; obtain ⟨v, hv, rfl⟩ := map_some h; exact fits_load hR hT ho hr hv
    · rename_i t' l e p hr; obtain ⟨v, hv, rfl⟩ := map_some h; exact fits_load_e hR hT ho hr hv
    · cases h
  | store t x y =>
    rw [ho] at h; simp only [opA] at h
    split at h
    · rename_i r v hr hv; obtain ⟨H', hH, rfl⟩ := map_some h; exact fits_store hR hT ho hr hv hH
    · cases h
  | nilCheck x =>
    rw [ho] at h; simp only [opA] at h
    split at h
    · rename_i r hr; cases h; exact fits_nilCheck_ptr hR hT ho hr
    · rename_i t l e p hr; cases h; exact fits_nilCheck_e hR hT ho hr
    · rename_i f p q hr; cases h; exact fits_nilCheck_func hR hT ho hr
    · cases h
  | binOp op t x y u =>
    rw [ho] at h; simp only [opA] at h
    split at h
    · rename_i p q hp hq; obtain ⟨v, hv, rfl⟩ := map_some h; exact fits_binOp hR hT ho hp hq hv
    · cases h
  | unOp op t x =>
    rw [ho] at h; simp only [opA] at h
    split at h
    · rename_i p hp; obtain ⟨v, hv, rfl⟩ := map_some h; exact fits_unOp hR hT ho hp hv
    · cases h
  | convert s d x =>
    rw [ho] at h; simp only [opA] at h
    split at h
    · rename_i p hp
      obtain ⟨⟨v, H'⟩, hv, rfl⟩ := map_some h
      obtain ⟨β', w', c, hR', hLe, hrun, hr⟩ := convA_sound hR (opnd_sound hT hp) hv
      refine ⟨β', w', hR', hLe, .inl ⟨c, ?_, hr⟩⟩
      simp only [execOp, ho]
      exact run_v hrun
    · cases h
  | makeFunc fn x y =>
    rw [ho] at h; simp only [opA] at h
    split at h
    · rename_i p q hp hq; cases h; exact fits_makeFunc hR hT ho hp hq
    · cases h
  | makeSlice t l c =>
    rw [ho] at h; simp only [opA] at h
    split at h
    · rename_i p q hp hq; obtain ⟨⟨v, H'⟩, hv, rfl⟩ := map_some h; exact fits_makeSlice hR hT ho hp hq hv
    · cases h
  | slice t x lo hi mx =>
    rw [ho] at h
    cases mx with
    | none =>
      simp only [opA] at h
      split at h
      · rename_i p l u hp hl hu; obtain ⟨v, hv, rfl⟩ := map_some h; exact fits_slice hR hT ho hp hl hu hv
      · cases h
    | some y =>
      simp only [opA] at h
      split at h
      · rename_i p l u q hp hl hu hq; obtain ⟨v, hv, rfl⟩ := map_some h; exact fits_slice3 hR hT ho hp hl hu hq hv
      · cases h
  | fieldAddr s x f =>
    rw [ho] at h; simp only [opA] at h
    split at h
    · rename_i r fd hr hf
      split at h
      · rename_i k hk; cases h; exact fits_fieldAddr hR hT ho hr hf hk
      · cases h
    · rename_i t l e p fd hr hf
      split at h
      · rename_i k hk; cases h; exact fits_fieldAddr_e hR hT ho hr hf hk
      · cases h
    · cases h
  | field s x f =>
    rw [ho] at h; simp only [opA] at h
    split at h
    · rename_i cs fd hr hf; obtain ⟨v, hv, rfl⟩ := map_some h; exact fits_field hR hT ho hr hf hv
    · cases h
  | indexAddr t x i =>
    rw [ho] at h; simp only [opA] at h
    split at h
    · rename_i p q hp hq; obtain ⟨v, hv, rfl⟩ := map_some h; exact fits_indexAddr hR hT ho hp hq hv
    · cases h
  | index t x i =>
    rw [ho] at h; simp only [opA] at h
    split at h
    · rename_i p q hp hq; obtain ⟨v, hv, rfl⟩ := map_some h; exact fits_index hR hT ho hp hq hv
    · cases h
  | extract x i =>
    rw [ho] at h; simp only [opA] at h
    split at h
    · rename_i vs hvs; obtain ⟨v, hv, rfl⟩ := map_some h; exact fits_extract hR hT ho hvs hv
    · cases h
  | call c => rw [ho] at h; simp only [opA] at h; exact meets_call hR hT ho h
  | _ => rw [ho] at h; simp only [opA] at h; cases h

/-- What the calls answer, the machine's do. -/
def CallOk (P : Program) (cl : Caller) : Prop := ∀ f args H v H', cl f args H = some (v, H') → ∀ β w (cargs : Array Value), Rel β H w → VsRel H.n β args cargs.toList →
  Calls P f cargs w fun e w' => ∃ β' c, e = .returned c ∧ Rel β' H' w' ∧ Le β H w β' H' w' ∧ VRel H'.n β' v c

theorem guard_sound {ops : Array Oper} (hT : TRel H.n β m a.tmps) {b : Bool} (h : guardA ops o m = some b) : Region.wanted o (yielded ops a.tmps) = b := by
  unfold guardA at h
  unfold Region.wanted
  cases hg : o.guard with
  | none => rw [hg] at h; cases h; rfl
  | some g =>
    obtain ⟨j, want⟩ := g
    rw [hg] at h
    simp only at h
    cases hj : ops[j]? with
    | none => rw [hj] at h; cases h
    | some oj =>
      rw [hj] at h
      simp only at h
      cases hd : oj.dst with
      | none => rw [hd] at h; cases h
      | some d =>
        rw [hd] at h
        simp only at h
        cases hm : m.get d with
        | none => rw [hm] at h; cases h
        | some v =>
          rw [hm] at h
          split at h
          · rename_i tt q e
            cases e
            cases h
            obtain ⟨c, hc, hr⟩ := hT.2 d _ hm
            rw [bool_of hr] at hc
            simp [yielded, hj, hd, hc]
          · rename_i e
            cases e
            cases h
            obtain ⟨c, hc, hr⟩ := hT.2 d _ hm
            cases hr with
            | tup _ cs _ => simp [yielded, hj, hd, hc]
          · cases h

theorem act_put_defers (a : Act) (d : Option Nat) (c : Value) : (a.put d c).defers = a.defers := by cases d <;> rfl

/-- One operation, whatever comes behind it. -/
theorem step_sound {cl : Caller} (hcl : CallOk P cl) {ops : Array Oper} {m' : Tm} {H' : Heap} (hs : stepA P cl ops o m H = some (m', H')) (hR : Rel β H w) (hT : TRel H.n β m a.tmps) {Q : Exit → Act → World → Prop} {K : Act → World → Prop}
    (hK : ∀ β' a' w', Rel β' H' w' → Le β H w β' H' w' → TRel H'.n β' m' a'.tmps → a'.defers = a.defers → K a' w') :
    if Region.wanted o (yielded ops a.tmps) = true then o.wp P a w K Q ∨ (o.asks P a w ∧ LetsOut Q) else K (a.put o.dst undef) w := by
  unfold stepA at hs
  split at hs
  · cases hs
  · rename_i hg
    rw [guard_sound hT hg]
    simp only [Bool.false_eq_true, if_false]
    obtain ⟨m1, hm1, he⟩ := map_some hs
    simp only [Prod.mk.injEq] at he
    obtain ⟨rfl, rfl⟩ := he
    exact hK β _ w hR (Le.refl _ _ _) (hT.dst (.tup _ _ .nil) hm1) (act_put_defers _ _ _)
  · rename_i hg
    rw [guard_sound hT hg]
    simp only [if_true]
    refine .inl ?_
    split at hs
    · cases hs
    · rename_i v H1 hop
      obtain ⟨m1, hm1, he⟩ := map_some hs
      simp only [Prod.mk.injEq] at he
      obtain ⟨rfl, rfl⟩ := he
      obtain ⟨β', w', hR', hLe, hf⟩ : Fits P o a β H w v H1 := meets hR hT hop
      have hT' := hT.mono hLe.n hLe.keeps
      unfold Oper.wp
      rcases hf with ⟨c, hrun, hv⟩ | ⟨hrun, rfl⟩
      · rw [hrun, Oper.upon_value]
        exact hK β' _ w' hR' hLe (hT'.dst hv hm1) (act_put_defers _ _ _)
      · rw [hrun, Oper.upon_skip]
        exact hK β' _ w' hR' hLe (hT'.dst (.tup _ _ .nil) hm1) (act_put_defers _ _ _)
    · rename_i f args hop
      split at hs
      · cases hs
      · rename_i v H1 hc
        obtain ⟨m1, hm1, he⟩ := map_some hs
        simp only [Prod.mk.injEq] at he
        obtain ⟨rfl, rfl⟩ := he
        obtain ⟨cargs, hrun, hv⟩ : ∃ cargs : Array Value, (execOp a.eval o).run P w = .ok (.enter f cargs) w ∧ VsRel H.n β args cargs.toList := meets hR hT hop
        unfold Oper.wp
        rw [hrun, Oper.upon_enter]
        refine (hcl f args H v H1 hc β w cargs hR hv).mono ?_
        rintro e w' ⟨β', c, rfl, hR', hLe, hv'⟩
        exact hK β' _ w' hR' hLe ((hT.mono hLe.n hLe.keeps).dst hv' hm1) (act_put_defers _ _ _)

theorem coolD_eq (dst : Option Nat) (d : Nat) (b : Bool) (m : Tm) : coolD dst d b m = if dst = some d then m else { n := m.n, t := m.t.set d (.bool false b) } := by
  unfold coolD
  cases dst with
  | none => rw [if_neg (by simp)]
  | some e =>
    by_cases h : e = d
    · subst h; rw [if_pos rfl]; simp only [nbeq_yes rfl, cond_true]
    · rw [if_neg (by simpa using h)]; simp only [nbeq_no h, cond_false]
theorem TRel.cool {N : Nat} {m : Tm} {tmps : Array Value} (h : TRel N β m tmps) {d : Nat} {t b : Bool} (hd : m.get d = some (.bool t b)) (dst : Option Nat) : TRel N β (coolD dst d b m) tmps := by
  have h1 : TRel N β { n := m.n, t := m.t.set d (.bool false b) } tmps := by
    refine ⟨h.1, fun i v hv => ?_⟩
    simp only [Tm.get, Trie.get_set] at hv
    split at hv
    · rename_i e
      subst e
      cases hv
      obtain ⟨c, hc, hr⟩ := h.2 _ _ hd
      exact ⟨c, hc, by rw [bool_of hr]; exact .bool _ _⟩
    · exact h.2 i v hv
  rw [coolD_eq]
  split
  · exact h
  · exact h1
theorem TRel.coolX {N : Nat} {m : Tm} {tmps : Array Value} (h : TRel N β m tmps) {x : Operand} {t b : Bool} (hx : opnd m x = some (.bool t b)) : TRel N β (coolX x b m) tmps := by
  unfold Vx.coolX
  cases x with
  | tmp d => exact h.cool (show m.get d = _ from hx) none
  | _ => exact h
theorem dst_keeps {m m' : Tm} {dst : Option Nat} {v : AV} (h : m.dst dst v = some m') {d : Nat} (hd : dst ≠ some d) : m'.get d = m.get d := by
  cases dst with
  | none => cases h; rfl
  | some i =>
    simp only [Tm.dst, Tm.put] at h
    cases hb : Nat.blt i m.n with
    | false => rw [hb] at h; cases h
    | true =>
      rw [hb] at h
      cases h
      simp only [Tm.get, Trie.get_set]
      rw [if_neg (fun e => hd (by rw [e]))]
theorem step_dst {cl : Caller} {ops : Array Oper} {m' : Tm} {H' : Heap} (h : stepA P cl ops o m H = some (m', H')) : ∃ v, m.dst o.dst v = some m' := by
  unfold stepA at h
  split at h
  · cases h
  · obtain ⟨m1, hm1, he⟩ := map_some h; cases he; exact ⟨_, hm1⟩
  · split at h
    · cases h
    · obtain ⟨m1, hm1, he⟩ := map_some h; cases he; exact ⟨_, hm1⟩
    · split at h
      · cases h
      · obtain ⟨m1, hm1, he⟩ := map_some h; cases he; exact ⟨_, hm1⟩
/-- A variable that the operation doesn't write may be cooled. -/
theorem TRel.coolAt {N : Nat} {m m' m2 : Tm} {tmps : Array Value} (h : TRel N β m2 tmps) {dst : Option Nat} {v : AV} (hd : m.dst dst v = some m') {d : Nat} {t b : Bool} (hm : m.get d = some (.bool t b)) (h2 : dst ≠ some d → ∃ t', m2.get d = some (.bool t' b)) : TRel N β (coolD dst d b m2) tmps := by
  by_cases e : dst = some d
  · rw [coolD_eq, if_pos e]
    exact h
  · obtain ⟨t', h3⟩ := h2 e
    exact h.cool h3 dst
theorem coolD_get {dst : Option Nat} {d e : Nat} {b : Bool} {m : Tm} : (coolD dst d b m).get e = m.get e ∨ (d = e ∧ (coolD dst d b m).get e = some (.bool false b)) := by
  have h1 : ({ n := m.n, t := m.t.set d (.bool false b) } : Tm).get e = m.get e ∨ (d = e ∧ ({ n := m.n, t := m.t.set d (.bool false b) } : Tm).get e = some (.bool false b)) := by
    simp only [Tm.get, Trie.get_set]
    by_cases h : e = d
    · rw [if_pos h]; exact .inr ⟨h.symm, rfl⟩
    · rw [if_neg h]; exact .inl rfl
  rw [coolD_eq]
  split
  · exact .inl rfl
  · exact h1
theorem cool_dst {N : Nat} {ops : Array Oper} {m' : Tm} {v : AV} {tmps : Array Value} (hv : m.dst o.dst v = some m') (h : TRel N β m' tmps) : TRel N β (coolPick o m (coolGuard ops o m m')) tmps := by
  have hg : TRel N β (coolGuard ops o m m') tmps ∧ ∀ e t b, m.get e = some (.bool t b) → o.dst ≠ some e → ∃ t', (coolGuard ops o m m').get e = some (.bool t' b) := by
    have h0 : ∀ e t b, m.get e = some (.bool t b) → o.dst ≠ some e → ∃ t', m'.get e = some (.bool t' b) := fun e t b he hne => ⟨t, by rw [dst_keeps hv hne]; exact he⟩
    unfold coolGuard
    split
    · exact ⟨h, h0⟩
    · split
      · split
        · rename_i d _
          split
          · rename_i t b hm
            refine ⟨h.coolAt hv hm (h0 d t b hm), fun e t' b' he hne => ?_⟩
            rcases coolD_get (dst := o.dst) (d := d) (e := e) (b := b) (m := m') with h1 | ⟨rfl, h1⟩
            · rw [h1]; exact h0 e t' b' he hne
            · rw [hm] at he; cases he; exact ⟨_, h1⟩
          · exact ⟨h, h0⟩
        · exact ⟨h, h0⟩
      · exact ⟨h, h0⟩
  unfold coolPick
  split
  · rename_i c _ _ _
    split
    · rename_i t b hm
      exact hg.1.coolAt hv hm (hg.2 c t b hm)
    · exact hg.1
  · exact hg.1
theorem cool_step {N : Nat} {cl : Caller} {ops : Array Oper} {m' : Tm} {H' : Heap} {tmps : Array Value} (hs : stepA P cl ops o m H = some (m', H')) (h : TRel N β m' tmps) : TRel N β (coolPick o m (coolGuard ops o m m')) tmps := by
  obtain ⟨v, hv⟩ := step_dst hs
  exact cool_dst hv h
theorem stepC_sound {cl : Caller} (hcl : CallOk P cl) {ops : Array Oper} {m' : Tm} {H' : Heap} (hs : stepC P cl ops o m H = some (m', H')) (hR : Rel β H w) (hT : TRel H.n β m a.tmps) {Q : Exit → Act → World → Prop} {K : Act → World → Prop}
    (hK : ∀ β' a' w', Rel β' H' w' → Le β H w β' H' w' → TRel H'.n β' m' a'.tmps → a'.defers = a.defers → K a' w') :
    if Region.wanted o (yielded ops a.tmps) = true then o.wp P a w K Q ∨ (o.asks P a w ∧ LetsOut Q) else K (a.put o.dst undef) w := by
  unfold stepC at hs
  obtain ⟨⟨m1, H1⟩, h1, he⟩ := map_some hs
  cases he
  exact step_sound hcl h1 hR hT fun β' a' w' hR' hLe hT' hd => hK β' a' w' hR' hLe (cool_step h1 hT') hd

theorem ops_sound {cl : Caller} (hcl : CallOk P cl) {ops : Array Oper} {Q : Exit → Act → World → Prop} : ∀ {l : List Oper} {a : Act} {β : At} {H : Heap} {w : World} {m m' : Tm} {H' : Heap}, opsA P cl ops l m H = some (m', H') → Rel β H w → TRel H.n β m a.tmps →
    (∀ β' a' w', Rel β' H' w' → Le β H w β' H' w' → TRel H'.n β' m' a'.tmps → a'.defers = a.defers → Q .normal a' w') → wpList P ops Q l a w
  | [], a, β, H, w, m, m', H', h, hR, hT, hQ => by
    simp only [opsA, Option.some.injEq, Prod.mk.injEq] at h
    obtain ⟨rfl, rfl⟩ := h
    exact hQ β a w hR (Le.refl _ _ _) hT rfl
  | o :: l, a, β, H, w, m, m', H', h, hR, hT, hQ => by
    simp only [opsA] at h
    split at h
    · cases h
    · rename_i m1 H1 hs
      unfold wpList
      exact stepC_sound hcl hs hR hT fun β' a' w' hR' hLe hT' hd => ops_sound hcl h hR' hT' fun β2 a2 w2 hR2 hLe2 hT2 hd2 => hQ β2 a2 w2 hR2 (hLe.trans hLe2) hT2 (hd2.trans hd)
end step
end Go.Vx
