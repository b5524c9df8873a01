/- Printed by a program of ours out of our texts: the evaluator, the printed functions, the plain laws. (A help: no statement of the seat is proved here.) -/
import Derived.Test.YtbaaoanhglemaaaGreatDoorPReplyTellsA
import Derived.LoopN
import Derived.Laws.Externs
import Derived.KernelRfl
import Derived.ProofKit
section
set_option linter.unusedVariables false
set_option linter.unusedSimpArgs false
namespace Go.Vx
section step
variable {P : Program} {o : Oper} {a : Act} {β : At} {H : Heap} {w : World} {m : Tm}
theorem findNext_noEsc {fn : Func} (h : fn.name = "internal/abi.NoEscape") (ho : fn.origin = "") : Extern.findNext fn = none := by
 unfold Extern.findNext
 rw [h, ho]
 kernel_rfl
theorem find_noEsc {fn : Func} (h : fn.name = "internal/abi.NoEscape") : Extern.find fn = some Extern.AbiNoEscape.same := by
 unfold Extern.find
 rw [h]
 kernel_rfl
def Meets (P : Program) (o : Oper) (a : Act) (β : At) (H : Heap) (w : World) : Got → Prop
 | .val v H' => Fits P o a β H w v H'
 | .enter f args => ∃ cargs : Array Value, (execOp a.eval o).run P w = .ok (.enter f cargs) w ∧ VsRel H.n β args cargs.toList
theorem meets_call (hR : Rel β H w) (hT : TRel H.n β m a.tmps) {c : Call} {g : Got} (ho : o.op = .call c) (h : callA P c m H = some g) : Meets P o a β H w g := by
 unfold callA at h
 split at h
 ·cases h
 ·rename_i args hargs
  split at h
  ·rename_i b hb
   cases g with
   | val v H' => exact fits_builtin hR hT ho hb hargs h
   | enter f as =>
    exfalso
    unfold builtinA at h
    split at h
    ·obtain ⟨_, _, h⟩ := map_some h; cases h
    ·obtain ⟨_, _, h⟩ := map_some h; cases h
    ·obtain ⟨_, _, h⟩ := map_some h; cases h
    ·split at h
     ·obtain ⟨_, _, h⟩ := map_some h; cases h
     ·cases h
    ·obtain ⟨_, _, h⟩ := map_some h; cases h
    ·obtain ⟨_, _, h⟩ := map_some h; cases h
    ·obtain ⟨_, _, h⟩ := map_some h; cases h
    ·cases h
  ·rename_i f hf
   split at h
   ·rename_i k first cap hk
    split at h
    ·rename_i fn hfn
     split at h
     ·rename_i hc
      cases h
      have hv := opnd_sound hT hk
      have ha := opnds_sound hT hargs
      cases hq : a.eval f <;> rw [hq] at hv <;> cases hv
      rename_i cs ds h1 h2
      refine ⟨cs ++ c.args.map a.eval ++ ds, ?_, ?_⟩
      ·have hname : (fn.name == "runtime.NumGoroutine") = false := by simpa using hc.1
       have hbody : fn.body.isNone = false := by cases hb : fn.body <;> simp [hb] at hc ⊢
       simp only [execOp, ho, resolve, hf, hq, Deferred.ofValue, Sem.run_bind, Sem.run_pure, Result.andThen_ok, invoke, callFunc, run_program, hfn, hname, hbody]
       simp
      ·simp only [Array.toList_append, Array.toList_map]
       exact (h1.append ha).append h2
     ·split at h
      ·rename_i hc
       split at h
       ·rename_i x hx
        cases h
        have hv := opnd_sound hT hk
        have ha := opnds_sound hT hargs
        cases hq : a.eval f <;> rw [hq] at hv <;> cases hv
        rename_i cs ds h1 h2
        have hall : VsRel H.n β [x] (cs ++ c.args.map a.eval ++ ds).toList := by
         rw [← hx]
         simp only [Array.toList_append, Array.toList_map]
         exact (h1.append ha).append h2
        obtain ⟨l, hl⟩ : ∃ l : List Value, cs ++ c.args.map a.eval ++ ds = l.toArray := ⟨(cs ++ c.args.map a.eval ++ ds).toList, by simp⟩
        rw [hl] at hall
        simp only at hall
        cases hall with
        | cons _ d _ rest hd hrest =>
         cases hrest
         refine Fits.same hR (c := d) ?_ hd
         have hname : (fn.name == "runtime.NumGoroutine") = false := by rw [hc.2.1]; rfl
         have hn : Extern.findNext fn = none := findNext_noEsc hc.2.1 hc.2.2
         have he : Extern.find fn = some Extern.AbiNoEscape.same := find_noEsc hc.2.1
         have hrun : (callFunc k (cs ++ c.args.map a.eval ++ ds)).run P w = .ok (.value d) w := by
          rw [run_callFunc_extern hfn hname hc.1 hn he, hl]
          rfl
         simp only [execOp, ho, resolve, hf, hq, Deferred.ofValue, Sem.run_bind, Sem.run_pure, Result.andThen_ok, invoke]
         exact hrun
       ·cases h
      ·cases h
    ·cases h
   ·cases h
  ·cases h
theorem eqn_ptr_s (d : Nat) {t e : TypeId} (w : World) (he : P.underlying t = some (.pointer e)) {j : TypeInfo} (hj : P.info? e = some j) (a : Addr) : (Op.equalIn (d + 1) t (.pointer (some a)) (.pointer (some a))).run P w = .ok true w := by
 simp [Op.equalIn, run_underlying he, sizeOf, typeInfo, hj, sameAddr]
theorem fits_twin (hR : Rel β H w) (hT : TRel H.n β m a.tmps) {op : BinOp} {t u : TypeId} {x y : Operand} {p q v : AV} (ho : o.op = .binOp op t x y u) (hx : opnd m x = some p) (hy : opnd m y = some q) (h : twin P H op t x y p q = some v) : Fits P o a β H w v H := by
 have vx := opnd_sound hT hx
 have vy := opnd_sound hT hy
 unfold twin at h
 split at h
 ·rename_i hb
  split at h
  ·rename_i _ r _ r'
   split at h
   ·rename_i hc
    obtain ⟨rfl, hrow, hsz⟩ := hc
    cases hr : H.row r.g with
    | none => rw [hr] at hrow; cases hrow
    | some q0 =>
     obtain ⟨cs, e, ro⟩ := q0
     obtain ⟨b, hbase⟩ := hR.tot _ _ _ _ hr
     have hk : kindOf P t = 2 := by
      simp only [Bool.and_eq_true] at hb
      exact Nat.eq_of_beq_eq_true hb.2.2
     obtain ⟨e0, he0⟩ := (under_of_kind (P := P) (t := t)).2.1 hk
     have key : ∃ ad, a.eval x = .pointer (some ad) ∧ a.eval y = .pointer (some ad) := by
      cases hvx : a.eval x <;> rw [hvx] at vx <;> cases vx
      cases hvy : a.eval y <;> rw [hvy] at vy <;> cases vy
      rename_i a1 g1 h1 a2 g2 h2
      obtain ⟨_, rfl⟩ := h1 b hbase
      obtain ⟨_, rfl⟩ := h2 b hbase
      exact ⟨_, rfl, rfl⟩
     obtain ⟨ad, e1, e2⟩ := key
     have heq : (Op.equal t (.pointer (some ad)) (.pointer (some ad))).run P w = .ok true w := by
      unfold ptrSz at hsz
      rw [he0] at hsz
      cases hz : size? P e0 with
      | none => simp only [hz] at hsz; cases hsz
      | some z0 =>
       obtain ⟨j, hj, _⟩ := size_info hz
       exact eqn_ptr_s 9999 w he0 hj ad
     have hall := eqRun_of (P := P) (t := t) (ox := x) (oy := y) (a := .pointer (some ad)) (b := .pointer (some ad)) (r := true) (w := w) (fun op => by cases op <;> simp [eqGuard]) ⟨rfl, rfl⟩ heq
     have hexec : ∀ op', o.op = .binOp op' t x y u → execOp a.eval o = (do let z ← (do eqGuard op' t x y (a.eval x) (a.eval y); binOp op' t (a.eval x) (a.eval y) : Sem Value); pure (.value z)) := fun op' ho => by simp only [execOp, ho]
     split at h
     ·cases h
      refine Fits.same hR (c := .bool true) ?_ (.bool _ _)
      rw [hexec _ ho, e1, e2, Sem.run_bind, hall.1, Result.andThen_ok, Sem.run_pure]
     ·cases h
      refine Fits.same hR (c := .bool (!true)) ?_ (.bool _ _)
      rw [hexec _ ho, e1, e2, Sem.run_bind, hall.2, Result.andThen_ok, Sem.run_pure]
     ·cases h
   ·cases h
  ·cases h
 ·cases h
theorem meets (hR : Rel β H w) (hT : TRel H.n β m a.tmps) {g : Got} (h : opA P o.op m H = some g) : Meets P o a β H w g := by
 cases ho : o.op with
 | move x => rw [ho] at h; simp only [opA] at h; obtain ⟨v, hv, rfl⟩ := map_some h; exact fits_move hR hT (.inl ho) hv
 | assign x => rw [ho] at h; simp only [opA] at h; obtain ⟨v, hv, rfl⟩ := map_some h; exact fits_move hR hT (.inr ho) hv
 | pick c x y =>
  rw [ho] at h; simp only [opA] at h
  split at h
  ·rename_i hc; obtain ⟨v, hv, rfl⟩ := map_some h; exact fits_pick (b := true) hR hT ho hc hv
  ·rename_i hc; obtain ⟨v, hv, rfl⟩ := map_some h; exact fits_pick (b := false) hR hT ho hc hv
  ·cases h
 | alloc t =>
  rw [ho] at h; simp only [opA] at h
  split at h
  ·rename_i z hz
   split at h
   ·rename_i hp; cases h; exact fits_alloc hR ho hz hp.1 hp.2
   ·cases h
  ·cases h
 | box t x =>
  rw [ho] at h; simp only [opA] at h
  split at h
  ·rename_i v hv
   split at h
   ·rename_i hp; cases h; exact fits_box hR hT ho hv hp.1 hp.2
   ·cases h
  ·cases h
 | build t parts =>
  rw [ho] at h; simp only [opA] at h
  split at h
  ·rename_i z ps fields hz hp hu
   split at h
   ·rename_i pl hpl; obtain ⟨cs, hcs, rfl⟩ := map_some h; exact fits_build_struct hR hT ho hz hp hu hpl hcs
   ·cases h
  ·rename_i z ps n e hz hp hu
   split at h
   ·rename_i s hs; obtain ⟨cs, hcs, rfl⟩ := map_some h; exact fits_build_array hR hT ho hz hp hu hs hcs
   ·cases h
  ·cases h
 | buildSlice t n parts =>
  rw [ho] at h; simp only [opA] at h
  split at h
  ·rename_i e ps he hp
   split at h
   ·rename_i s z hs hz
    split at h
    ·rename_i hc
     split at h
     ·rename_i cs hcs
      split at h
      ·rename_i hall; obtain ⟨H1, h1, he1⟩ := map_some h; cases he1; exact (fits_buildSlice hR hT ho he hp hs hz hc.1 hc.2.1 hc.2.2 hcs hall.1 hall.2).settle h1
      ·cases h
     ·cases h
    ·cases h
   ·cases h
  ·cases h
 | load t x =>
  rw [ho] at h; simp only [opA] at h
  split at h
  ·rename_i r hr; obtain ⟨v, hv, rfl⟩ := map_some h; exact fits_load hR hT ho hr hv
  ·rename_i t' l e p hr; obtain ⟨v, hv, rfl⟩ := map_some h; exact fits_load_e hR hT ho hr hv
  ·cases h
 | store t x y =>
  rw [ho] at h; simp only [opA] at h
  split at h
  ·rename_i r v hr hv; obtain ⟨H', hH, rfl⟩ := map_some h; exact fits_store hR hT ho hr hv hH
  ·cases h
 | nilCheck x =>
  rw [ho] at h; simp only [opA] at h
  split at h
  ·rename_i r hr; cases h; exact fits_nilCheck_ptr hR hT ho hr
  ·rename_i t l e p hr; cases h; exact fits_nilCheck_e hR hT ho hr
  ·rename_i f p q hr; cases h; exact fits_nilCheck_func hR hT ho hr
  ·cases h
 | binOp op t x y u =>
  rw [ho] at h; simp only [opA] at h
  split at h
  ·rename_i p q hp hq
   split at h
   ·rename_i v hv; cases h; exact fits_twin hR hT ho hp hq hv
   ·obtain ⟨v, hv, rfl⟩ := map_some h; exact fits_binOp hR hT ho hp hq hv
  ·cases h
 | unOp op t x =>
  rw [ho] at h; simp only [opA] at h
  split at h
  ·rename_i p hp; obtain ⟨v, hv, rfl⟩ := map_some h; exact fits_unOp hR hT ho hp hv
  ·cases h
 | convert s d x =>
  rw [ho] at h; simp only [opA] at h
  split at h
  ·rename_i p hp
   obtain ⟨⟨v, H'⟩, hv, rfl⟩ := map_some h
   obtain ⟨β', w', c, hR', hLe, hrun, hr⟩ := convA_sound hR (opnd_sound hT hp) hv
   refine ⟨β', w', hR', hLe, .inl ⟨c, ?_, hr⟩⟩
   simp only [execOp, ho]
   exact run_v hrun
  ·cases h
 | makeFunc fn x y =>
  rw [ho] at h; simp only [opA] at h
  split at h
  ·rename_i p q hp hq; cases h; exact fits_makeFunc hR hT ho hp hq
  ·cases h
 | makeSlice t l c =>
  rw [ho] at h; simp only [opA] at h
  split at h
  ·rename_i p q hp hq; obtain ⟨⟨v, H'⟩, hv, rfl⟩ := map_some h; exact fits_makeSlice hR hT ho hp hq hv
  ·cases h
 | slice t x lo hi mx =>
  rw [ho] at h
  cases mx with
  | none =>
   simp only [opA] at h
   split at h
   ·rename_i p l u hp hl hu; obtain ⟨v, hv, rfl⟩ := map_some h; exact fits_slice hR hT ho hp hl hu hv
   ·cases h
  | some y =>
   simp only [opA] at h
   split at h
   ·rename_i p l u q hp hl hu hq; obtain ⟨v, hv, rfl⟩ := map_some h; exact fits_slice3 hR hT ho hp hl hu hq hv
   ·cases h
 | fieldAddr s x f =>
  rw [ho] at h; simp only [opA] at h
  split at h
  ·rename_i r fd hr hf
   split at h
   ·rename_i k hk; cases h; exact fits_fieldAddr hR hT ho hr hf hk
   ·cases h
  ·rename_i t l e p fd hr hf
   split at h
   ·rename_i k hk; cases h; exact fits_fieldAddr_e hR hT ho hr hf hk
   ·cases h
  ·cases h
 | field s x f =>
  rw [ho] at h; simp only [opA] at h
  split at h
  ·rename_i cs fd hr hf; obtain ⟨v, hv, rfl⟩ := map_some h; exact fits_field hR hT ho hr hf hv
  ·cases h
 | indexAddr t x i =>
  rw [ho] at h; simp only [opA] at h
  split at h
  ·rename_i p q hp hq; obtain ⟨v, hv, rfl⟩ := map_some h; exact fits_indexAddr hR hT ho hp hq hv
  ·cases h
 | index t x i =>
  rw [ho] at h; simp only [opA] at h
  split at h
  ·rename_i p q hp hq; obtain ⟨v, hv, rfl⟩ := map_some h; exact fits_index hR hT ho hp hq hv
  ·cases h
 | extract x i =>
  rw [ho] at h; simp only [opA] at h
  split at h
  ·rename_i vs hvs; obtain ⟨v, hv, rfl⟩ := map_some h; exact fits_extract hR hT ho hvs hv
  ·cases h
 | call c => rw [ho] at h; simp only [opA] at h; exact meets_call hR hT ho h
 | _ => rw [ho] at h; simp only [opA] at h; cases h
def CallOk (P : Program) (cl : Caller) : Prop := ∀ f args H v H', cl f args H = some (v, H') → ∀ β w (cargs : Array Value), Rel β H w → VsRel H.n β args cargs.toList →
 Calls P f cargs w fun e w' => ∃ β' c, e = .returned c ∧ Rel β' H' w' ∧ Le β H w β' H' w' ∧ VRel H'.n β' v c
theorem guard_sound {ops : Array Oper} (hT : TRel H.n β m a.tmps) {b : Bool} (h : guardA ops o m = some b) : Region.wanted o (yielded ops a.tmps) = b := by
 unfold guardA at h
 unfold Region.wanted
 cases hg : o.guard with
 | none => rw [hg] at h; cases h; rfl
 | some g =>
  obtain ⟨j, want⟩ := g
  rw [hg] at h
  simp only at h
  cases hj : ops[j]? with
  | none => rw [hj] at h; cases h
  | some oj =>
   rw [hj] at h
   simp only at h
   cases hd : oj.dst with
   | none => rw [hd] at h; cases h
   | some d =>
    rw [hd] at h
    simp only at h
    cases hm : m.get d with
    | none => rw [hm] at h; cases h
    | some v =>
     rw [hm] at h
     split at h
     ·rename_i tt q e
      cases e
      cases h
      obtain ⟨c, hc, hr⟩ := hT.2 d _ hm
      rw [bool_of hr] at hc
      simp [yielded, hj, hd, hc]
     ·rename_i e
      cases e
      cases h
      obtain ⟨c, hc, hr⟩ := hT.2 d _ hm
      cases hr with
      | tup _ cs _ => simp [yielded, hj, hd, hc]
     ·cases h
theorem act_put_defers (a : Act) (d : Option Nat) (c : Value) : (a.put d c).defers = a.defers := by cases d <;> rfl
theorem step_sound {cl : Caller} (hcl : CallOk P cl) {ops : Array Oper} {m' : Tm} {H' : Heap} (hs : stepA P cl ops o m H = some (m', H')) (hR : Rel β H w) (hT : TRel H.n β m a.tmps) {Q : Exit → Act → World → Prop} {K : Act → World → Prop}
  (hK : ∀ β' a' w', Rel β' H' w' → Le β H w β' H' w' → TRel H'.n β' m' a'.tmps → a'.defers = a.defers → K a' w') :
  if Region.wanted o (yielded ops a.tmps) = true then o.wp P a w K Q ∨ (o.asks P a w ∧ LetsOut Q) else K (a.put o.dst undef) w := by
 unfold stepA at hs
 split at hs
 ·cases hs
 ·rename_i hg
  rw [guard_sound hT hg]
  simp only [Bool.false_eq_true, if_false]
  obtain ⟨m1, hm1, he⟩ := map_some hs
  simp only [Prod.mk.injEq] at he
  obtain ⟨rfl, rfl⟩ := he
  exact hK β _ w hR (Le.refl _ _ _) (hT.dst (.tup _ _ .nil) hm1) (act_put_defers _ _ _)
 ·rename_i hg
  rw [guard_sound hT hg]
  simp only [if_true]
  refine .inl ?_
  split at hs
  ·cases hs
  ·rename_i v H1 hop
   obtain ⟨m1, hm1, he⟩ := map_some hs
   simp only [Prod.mk.injEq] at he
   obtain ⟨rfl, rfl⟩ := he
   obtain ⟨β', w', hR', hLe, hf⟩ : Fits P o a β H w v H1 := meets hR hT hop
   have hT' := hT.mono hLe.n hLe.keeps
   unfold Oper.wp
   rcases hf with ⟨c, hrun, hv⟩ | ⟨hrun, rfl⟩
   ·rw [hrun, Oper.upon_value]
    exact hK β' _ w' hR' hLe (hT'.dst hv hm1) (act_put_defers _ _ _)
   ·rw [hrun, Oper.upon_skip]
    exact hK β' _ w' hR' hLe (hT'.dst (.tup _ _ .nil) hm1) (act_put_defers _ _ _)
  ·rename_i f args hop
   split at hs
   ·cases hs
   ·rename_i v H1 hc
    obtain ⟨m1, hm1, he⟩ := map_some hs
    simp only [Prod.mk.injEq] at he
    obtain ⟨rfl, rfl⟩ := he
    obtain ⟨cargs, hrun, hv⟩ : ∃ cargs : Array Value, (execOp a.eval o).run P w = .ok (.enter f cargs) w ∧ VsRel H.n β args cargs.toList := meets hR hT hop
    unfold Oper.wp
    rw [hrun, Oper.upon_enter]
    refine (hcl f args H v H1 hc β w cargs hR hv).mono ?_
    rintro e w' ⟨β', c, rfl, hR', hLe, hv'⟩
    exact hK β' _ w' hR' hLe ((hT.mono hLe.n hLe.keeps).dst hv' hm1) (act_put_defers _ _ _)
theorem coolD_eq (dst : Option Nat) (d : Nat) (b : Bool) (m : Tm) : coolD dst d b m = if dst = some d then m else { n := m.n, t := m.t.set d (.bool false b) } := by
 unfold coolD
 cases dst with
 | none => rw [if_neg (by simp)]
 | some e =>
  by_cases h : e = d
  ·subst h; rw [if_pos rfl]; simp only [nbeq_yes rfl, cond_true]
  ·rw [if_neg (by simpa using h)]; simp only [nbeq_no h, cond_false]
theorem TRel.cool {N : Nat} {m : Tm} {tmps : Array Value} (h : TRel N β m tmps) {d : Nat} {t b : Bool} (hd : m.get d = some (.bool t b)) (dst : Option Nat) : TRel N β (coolD dst d b m) tmps := by
 have h1 : TRel N β { n := m.n, t := m.t.set d (.bool false b) } tmps := by
  refine ⟨h.1, fun i v hv => ?_⟩
  simp only [Tm.get, Trie.get_set] at hv
  split at hv
  ·rename_i e
   subst e
   cases hv
   obtain ⟨c, hc, hr⟩ := h.2 _ _ hd
   exact ⟨c, hc, by rw [bool_of hr]; exact .bool _ _⟩
  ·exact h.2 i v hv
 rw [coolD_eq]
 split
 ·exact h
 ·exact h1
theorem TRel.coolX {N : Nat} {m : Tm} {tmps : Array Value} (h : TRel N β m tmps) {x : Operand} {t b : Bool} (hx : opnd m x = some (.bool t b)) : TRel N β (coolX x b m) tmps := by
 unfold Vx.coolX
 cases x with
 | tmp d => exact h.cool (show m.get d = _ from hx) none
 | _ => exact h
theorem dst_keeps {m m' : Tm} {dst : Option Nat} {v : AV} (h : m.dst dst v = some m') {d : Nat} (hd : dst ≠ some d) : m'.get d = m.get d := by
 cases dst with
 | none => cases h; rfl
 | some i =>
  simp only [Tm.dst, Tm.put] at h
  cases hb : Nat.blt i m.n with
  | false => rw [hb] at h; cases h
  | true =>
   rw [hb] at h
   cases h
   simp only [Tm.get, Trie.get_set]
   rw [if_neg (fun e => hd (by rw [e]))]
theorem step_dst {cl : Caller} {ops : Array Oper} {m' : Tm} {H' : Heap} (h : stepA P cl ops o m H = some (m', H')) : ∃ v, m.dst o.dst v = some m' := by
 unfold stepA at h
 split at h
 ·cases h
 ·obtain ⟨m1, hm1, he⟩ := map_some h; cases he; exact ⟨_, hm1⟩
 ·split at h
  ·cases h
  ·obtain ⟨m1, hm1, he⟩ := map_some h; cases he; exact ⟨_, hm1⟩
  ·split at h
   ·cases h
   ·obtain ⟨m1, hm1, he⟩ := map_some h; cases he; exact ⟨_, hm1⟩
theorem TRel.coolAt {N : Nat} {m m' m2 : Tm} {tmps : Array Value} (h : TRel N β m2 tmps) {dst : Option Nat} {v : AV} (hd : m.dst dst v = some m') {d : Nat} {t b : Bool} (hm : m.get d = some (.bool t b)) (h2 : dst ≠ some d → ∃ t', m2.get d = some (.bool t' b)) : TRel N β (coolD dst d b m2) tmps := by
 by_cases e : dst = some d
 ·rw [coolD_eq, if_pos e]
  exact h
 ·obtain ⟨t', h3⟩ := h2 e
  exact h.cool h3 dst
theorem coolD_get {dst : Option Nat} {d e : Nat} {b : Bool} {m : Tm} : (coolD dst d b m).get e = m.get e ∨ (d = e ∧ (coolD dst d b m).get e = some (.bool false b)) := by
 have h1 : ({ n := m.n, t := m.t.set d (.bool false b) } : Tm).get e = m.get e ∨ (d = e ∧ ({ n := m.n, t := m.t.set d (.bool false b) } : Tm).get e = some (.bool false b)) := by
  simp only [Tm.get, Trie.get_set]
  by_cases h : e = d
  ·rw [if_pos h]; exact .inr ⟨h.symm, rfl⟩
  ·rw [if_neg h]; exact .inl rfl
 rw [coolD_eq]
 split
 ·exact .inl rfl
 ·exact h1
theorem cool_dst {N : Nat} {ops : Array Oper} {m' : Tm} {v : AV} {tmps : Array Value} (hv : m.dst o.dst v = some m') (h : TRel N β m' tmps) : TRel N β (coolPick o m (coolGuard ops o m m')) tmps := by
 have hg : TRel N β (coolGuard ops o m m') tmps ∧ ∀ e t b, m.get e = some (.bool t b) → o.dst ≠ some e → ∃ t', (coolGuard ops o m m').get e = some (.bool t' b) := by
  have h0 : ∀ e t b, m.get e = some (.bool t b) → o.dst ≠ some e → ∃ t', m'.get e = some (.bool t' b) := fun e t b he hne => ⟨t, by rw [dst_keeps hv hne]; exact he⟩
  unfold coolGuard
  split
  ·exact ⟨h, h0⟩
  ·split
   ·split
    ·rename_i d _
     split
     ·rename_i t b hm
      refine ⟨h.coolAt hv hm (h0 d t b hm), fun e t' b' he hne => ?_⟩
      rcases coolD_get (dst := o.dst) (d := d) (e := e) (b := b) (m := m') with h1 | ⟨rfl, h1⟩
      ·rw [h1]; exact h0 e t' b' he hne
      ·rw [hm] at he; cases he; exact ⟨_, h1⟩
     ·exact ⟨h, h0⟩
    ·exact ⟨h, h0⟩
   ·exact ⟨h, h0⟩
 unfold coolPick
 split
 ·rename_i c _ _ _
  split
  ·rename_i t b hm
   exact hg.1.coolAt hv hm (hg.2 c t b hm)
  ·exact hg.1
 ·exact hg.1
theorem cool_step {N : Nat} {cl : Caller} {ops : Array Oper} {m' : Tm} {H' : Heap} {tmps : Array Value} (hs : stepA P cl ops o m H = some (m', H')) (h : TRel N β m' tmps) : TRel N β (coolPick o m (coolGuard ops o m m')) tmps := by
 obtain ⟨v, hv⟩ := step_dst hs
 exact cool_dst hv h
theorem stepC_sound {cl : Caller} (hcl : CallOk P cl) {ops : Array Oper} {m' : Tm} {H' : Heap} (hs : stepC P cl ops o m H = some (m', H')) (hR : Rel β H w) (hT : TRel H.n β m a.tmps) {Q : Exit → Act → World → Prop} {K : Act → World → Prop}
  (hK : ∀ β' a' w', Rel β' H' w' → Le β H w β' H' w' → TRel H'.n β' m' a'.tmps → a'.defers = a.defers → K a' w') :
  if Region.wanted o (yielded ops a.tmps) = true then o.wp P a w K Q ∨ (o.asks P a w ∧ LetsOut Q) else K (a.put o.dst undef) w := by
 unfold stepC at hs
 obtain ⟨⟨m1, H1⟩, h1, he⟩ := map_some hs
 cases he
 exact step_sound hcl h1 hR hT fun β' a' w' hR' hLe hT' hd => hK β' a' w' hR' hLe (cool_step h1 hT') hd
theorem ops_sound {cl : Caller} (hcl : CallOk P cl) {ops : Array Oper} {Q : Exit → Act → World → Prop} : ∀ {l : List Oper} {a : Act} {β : At} {H : Heap} {w : World} {m m' : Tm} {H' : Heap}, opsA P cl ops l m H = some (m', H') → Rel β H w → TRel H.n β m a.tmps →
  (∀ β' a' w', Rel β' H' w' → Le β H w β' H' w' → TRel H'.n β' m' a'.tmps → a'.defers = a.defers → Q .normal a' w') → wpList P ops Q l a w
 | [], a, β, H, w, m, m', H', h, hR, hT, hQ => by
  simp only [opsA, Option.some.injEq, Prod.mk.injEq] at h
  obtain ⟨rfl, rfl⟩ := h
  exact hQ β a w hR (Le.refl _ _ _) hT rfl
 | o :: l, a, β, H, w, m, m', H', h, hR, hT, hQ => by
  simp only [opsA] at h
  split at h
  ·cases h
  ·rename_i m1 H1 hs
   unfold wpList
   exact stepC_sound hcl hs hR hT fun β' a' w' hR' hLe hT' hd => ops_sound hcl h hR' hT' fun β2 a2 w2 hR2 hLe2 hT2 hd2 => hQ β2 a2 w2 hR2 (hLe.trans hLe2) hT2 (hd2.trans hd)
end step
end Go.Vx
end
section
set_option linter.unusedVariables false
set_option linter.unusedSimpArgs false
namespace Go.Vx
theorem Tm.ext_get {N : Nat} {β : At} {m m' : Tm} {tmps : Array Value} (hn : m.n = m'.n) (hg : ∀ t, m.get t = m'.get t) (h : TRel N β m tmps) : TRel N β m' tmps :=
 ⟨by rw [h.1, hn], fun i v hv => h.2 i v (by rw [hg]; exact hv)⟩
section congr
variable {P : Program} {m m' : Tm} {H H' : Heap}
theorem opnds_congr : ∀ {l : List Operand}, (∀ x ∈ l, opnd m x = opnd m' x) → opnds m l = opnds m' l
 | [], _ => rfl
 | x :: l, h => by
  simp only [opnds]
  rw [h x (by simp), opnds_congr fun y hy => h y (by simp [hy])]
theorem partsA_congr : ∀ {l : List (Nat × Operand)}, (∀ x ∈ l.map (·.2), opnd m x = opnd m' x) → partsA m l = partsA m' l
 | [], _ => rfl
 | (i, x) :: l, h => by
  simp only [partsA]
  rw [h x (by simp), partsA_congr fun y hy => h y (by simp at hy ⊢; exact .inr hy)]
theorem optOpnd_congr {x : Option Operand} (h : ∀ y ∈ x.toArray, opnd m y = opnd m' y) : optOpnd m x = optOpnd m' x := by
 cases x with
 | none => rfl
 | some x => simp only [optOpnd]; rw [h x (by simp)]
theorem callA_congr {c : Call} (h : ∀ x ∈ c.operands, opnd m x = opnd m' x) : callA P c m H = callA P c m' H := by
 unfold callA
 rw [opnds_congr (m := m) (m' := m') (l := c.args.toList) fun x hx => h x (by simp [Call.operands]; right; simpa using hx)]
 cases hc : c.callee with
 | value f => simp only; rw [h f (by simp [Call.operands, hc])]
 | invoke r s => rfl
 | builtin b => rfl
theorem opA_congr {o : Op} (h : ∀ x ∈ o.operands, opnd m x = opnd m' x) : opA P o m H = opA P o m' H := by
 cases o <;> simp only [Op.operands] at h <;> simp only [opA]
 case move x => rw [h x (by simp)]
 case assign x => rw [h x (by simp)]
 case pick c x y => rw [h c (by simp), h x (by simp), h y (by simp)]
 case box t x => rw [h x (by simp)]
 case build t ps => rw [partsA_congr (m := m) (m' := m') (l := ps.toList) fun x hx => h x (by simpa using hx)]
 case buildSlice t n ps => rw [partsA_congr (m := m) (m' := m') (l := ps.toList) fun x hx => h x (by simpa using hx)]
 case load t x => rw [h x (by simp)]
 case store t x y => rw [h x (by simp), h y (by simp)]
 case nilCheck x => rw [h x (by simp)]
 case binOp op t x y u => rw [h x (by simp), h y (by simp)]
 case unOp op t x => rw [h x (by simp)]
 case convert s d x => rw [h x (by simp)]
 case makeFunc fn x y =>
  rw [opnds_congr (m := m) (m' := m') (l := x.toList) fun z hz => h z (by simp; left; simpa using hz), opnds_congr (m := m) (m' := m') (l := y.toList) fun z hz => h z (by simp; right; simpa using hz)]
 case makeSlice t x y => rw [h x (by simp), h y (by simp)]
 case slice t x lo hi mx =>
  cases mx with
  | none =>
   simp only
   rw [h x (by simp), optOpnd_congr (m := m) (m' := m') (x := lo) fun y hy => h y (by simp at hy ⊢; simp [hy]), optOpnd_congr (m := m) (m' := m') (x := hi) fun y hy => h y (by simp at hy ⊢; simp [hy])]
  | some y =>
   simp only
   rw [h x (by simp), h y (by simp), optOpnd_congr (m := m) (m' := m') (x := lo) fun y hy => h y (by simp at hy ⊢; simp [hy]), optOpnd_congr (m := m) (m' := m') (x := hi) fun y hy => h y (by simp at hy ⊢; simp [hy])]
 case fieldAddr s x f => rw [h x (by simp)]
 case field s x f => rw [h x (by simp)]
 case indexAddr t x y => rw [h x (by simp), h y (by simp)]
 case index t x y => rw [h x (by simp), h y (by simp)]
 case extract x i => rw [h x (by simp)]
 case call c => exact callA_congr h
theorem opA_still {o : Op} {g : Got} (he : isEff P o = false) (h : opA P o m H = some g) (hr : ∀ r, readOf o m = some r → H'.get r = H.get r) : ∃ v, g = .val v H ∧ opA P o m H' = some (.val v H') := by
 cases o <;> simp only [opA] at h ⊢ <;> simp only [isEff] at he <;> try (first | (cases he; done) | (cases h; done))
 case move x => obtain ⟨v, hv, rfl⟩ := map_some h; exact ⟨_, rfl, by simp [*]⟩
 case assign x => obtain ⟨v, hv, rfl⟩ := map_some h; exact ⟨_, rfl, by simp [*]⟩
 case pick c x y =>
  split at h
  ·rename_i hc; obtain ⟨v, hv, rfl⟩ := map_some h; exact ⟨_, rfl, by simp [*]⟩
  ·rename_i hc; obtain ⟨v, hv, rfl⟩ := map_some h; exact ⟨_, rfl, by simp [*]⟩
  ·cases h
 case build t ps =>
  split at h
  ·rename_i z qs fields hz hp hu
   split at h
   ·rename_i pl hpl; obtain ⟨v, hv, rfl⟩ := map_some h; exact ⟨_, rfl, by simp [*]⟩
   ·cases h
  ·rename_i z qs n e hz hp hu
   split at h
   ·rename_i s hs; obtain ⟨v, hv, rfl⟩ := map_some h; exact ⟨_, rfl, by simp [*]⟩
   ·cases h
  ·cases h
 case load t x =>
  split at h
  ·rename_i r hx
   obtain ⟨v, hv, rfl⟩ := map_some h
   refine ⟨_, rfl, ?_⟩
   have hg : H'.get r.g = H.get r.g := hr r.g (by simp only [readOf, hx])
   have : loadV P H' t r = some v := by rw [← hv]; unfold loadV Heap.row; rw [hg]
   simp [this]
  ·rename_i t' l e p hx
   obtain ⟨v, hv, rfl⟩ := map_some h
   exact ⟨_, rfl, by simp [hv]⟩
  ·cases h
 case nilCheck x =>
  split at h
  ·rename_i r hx; cases h; exact ⟨_, rfl, by simp [*]⟩
  ·rename_i t' l e p hx; cases h; exact ⟨_, rfl, by simp [*]⟩
  ·rename_i f p q hx; cases h; exact ⟨_, rfl, by simp [*]⟩
  ·cases h
 case binOp op t x y u =>
  have ht : ∀ H1 p q, twin P H1 op t x y p q = none := fun H1 p q => by unfold twin; rw [he]
  split at h
  ·rename_i p q hp hq
   rw [ht] at h
   simp only at h
   obtain ⟨v, hv, rfl⟩ := map_some h
   exact ⟨_, rfl, by simp only [hp, hq, ht, hv, Option.map_some]⟩
  ·cases h
 case unOp op t x =>
  split at h
  ·rename_i p hp; obtain ⟨v, hv, rfl⟩ := map_some h; exact ⟨_, rfl, by simp [*]⟩
  ·cases h
 case convert s d x =>
  split at h
  ·rename_i p hp
   obtain ⟨⟨v, H1⟩, hv, rfl⟩ := map_some h
   unfold convA at hv
   split at hv
   ·rename_i hs hd; cases hv; exact ⟨_, rfl, by simp [convA, hs, hd]⟩
   ·rename_i hs hd; cases hv; exact ⟨_, rfl, by simp [convA, hs, hd]⟩
   ·rename_i e tt s' hs hd
    have : kindOf P d = 3 := by simp [kindOf, hd]
    rw [this] at he
    cases he
   ·rename_i e tt r n sz hs hd
    split at hv
    ·rename_i hc
     split at hv
     ·rename_i L hL
      obtain ⟨s', hs', hv'⟩ := map_some hv
      simp only [Prod.mk.injEq] at hv'
      obtain ⟨rfl, rfl⟩ := hv'
      refine ⟨_, rfl, ?_⟩
      have : sliceSrc H' r n 1 = some L := by
       rw [← hL]
       cases r with
       | none => rfl
       | some r =>
        simp only [sliceSrc]
        rw [hr r.g (by simp only [readOf, hp])]
      simp only [convA, hs, hd, if_pos hc, this, hs', Option.map_some]
     ·cases hv
    ·cases hv
   ·rename_i e l hs hd
    split at hv
    ·rename_i hc; cases hv; exact ⟨_, rfl, by simp [convA, hs, hd, hc]⟩
    ·cases hv
   ·rename_i e e' tt r n sz hs hd
    have : kindOf P d = 3 := by simp [kindOf, hd]
    rw [this] at he
    cases he
   ·rename_i t u r hs hd
    have : ptrTo P d = true := by simp [ptrTo, hd]
    rw [this, Bool.or_true] at he
    cases he
   ·rename_i t u r hs hd
    have : ptrTo P d = true := by simp [ptrTo, hd]
    rw [this, Bool.or_true] at he
    cases he
   ·cases hv
  ·cases h
 case makeFunc fn x y =>
  split at h
  ·rename_i p q hp hq; cases h; exact ⟨_, rfl, by simp [*]⟩
  ·cases h
 case slice t x lo hi mx =>
  cases mx with
  | none =>
   simp only at h ⊢
   split at h
   ·rename_i p l u hp hl hu; obtain ⟨v, hv, rfl⟩ := map_some h; exact ⟨_, rfl, by simp [*]⟩
   ·cases h
  | some y =>
   simp only at h ⊢
   split at h
   ·rename_i p l u q hp hl hu hq; obtain ⟨v, hv, rfl⟩ := map_some h; exact ⟨_, rfl, by simp [*]⟩
   ·cases h
 case fieldAddr s x f =>
  split at h
  ·rename_i r fd hr' hf
   split at h
   ·rename_i k hk; cases h; exact ⟨_, rfl, by simp [*]⟩
   ·cases h
  ·rename_i t' l e p fd hr' hf
   split at h
   ·rename_i k hk; cases h; exact ⟨_, rfl, by simp [*]⟩
   ·cases h
  ·cases h
 case field s x f =>
  split at h
  ·rename_i cs fd hc hf; obtain ⟨v, hv, rfl⟩ := map_some h; exact ⟨_, rfl, by simp [*]⟩
  ·cases h
 case indexAddr t x y =>
  split at h
  ·rename_i p q hp hq; obtain ⟨v, hv, rfl⟩ := map_some h; exact ⟨_, rfl, by simp [*]⟩
  ·cases h
 case index t x y =>
  split at h
  ·rename_i p q hp hq; obtain ⟨v, hv, rfl⟩ := map_some h; exact ⟨_, rfl, by simp [*]⟩
  ·cases h
 case extract x i =>
  split at h
  ·rename_i vs hvs; obtain ⟨v, hv, rfl⟩ := map_some h; exact ⟨_, rfl, by simp [*]⟩
  ·cases h
 case call c =>
  unfold callA at h ⊢
  split at h
  ·cases h
  ·rename_i args hargs
   split at h
   ·rename_i b hb
    rw [hb] at he
    unfold builtinA at h ⊢
    split at h
    ·rename_i t ts x hts; obtain ⟨v, hv, rfl⟩ := map_some h; exact ⟨_, rfl, by simp [*]⟩
    ·rename_i ts x l; obtain ⟨v, hv, rfl⟩ := map_some h; exact ⟨v, rfl, by simp [hv]⟩
    ·rename_i ts x l; obtain ⟨v, hv, rfl⟩ := map_some h; exact ⟨v, rfl, by simp [hv]⟩
    ·cases he
    ·cases he
    ·cases he
    ·cases he
    ·cases h
   ·rename_i f hf; rw [hf] at he; cases he
   ·cases h
end congr
def stepV (P : Program) (cl : Caller) (ops : Array Oper) (o : Oper) (m : Tm) (H : Heap) : Option (AV × Heap) :=
 match guardA ops o m with
 | none => none
 | some false => some (.tup [], H)
 | some true => match opA P o.op m H with
  | none => none
  | some (.val v H') => some (v, H')
  | some (.enter f args) => cl f args H
theorem stepA_eq (P : Program) (cl : Caller) (ops : Array Oper) (o : Oper) (m : Tm) (H : Heap) :
  stepA P cl ops o m H = (stepV P cl ops o m H).bind fun r => (m.dst o.dst r.1).map fun m' => (m', r.2) := by
 unfold stepA stepV
 cases guardA ops o m with
 | none => rfl
 | some b =>
  cases b with
  | false => rfl
  | true =>
   simp only
   cases opA P o.op m H with
   | none => rfl
   | some g =>
    cases g with
    | val v H' => rfl
    | enter f args =>
     simp only
     cases cl f args H with
     | none => rfl
     | some r => rfl
section some_order
variable {P : Program} {cl : Caller} {ops : Array Oper}
def Agree (ops : Array Oper) (o : Oper) (m m' : Tm) : Prop := ∀ t, t ∈ o.looksAt ops → m.get t = m'.get t
theorem Agree.op {o : Oper} {m m' : Tm} (h : Agree ops o m m') : ∀ x ∈ o.op.operands, opnd m x = opnd m' x := by
 intro x hx
 cases x with
 | tmp t =>
  simp only [opnd]
  refine h t ?_
  simp only [Oper.looksAt, List.mem_append, List.mem_filterMap]
  exact .inl ⟨.tmp t, by simpa using hx, rfl⟩
 | _ => rfl
theorem Agree.guard {o : Oper} {m m' : Tm} (h : Agree ops o m m') : guardA ops o m = guardA ops o m' := by
 unfold guardA
 cases hg : o.guard with
 | none => rfl
 | some g =>
  obtain ⟨j, want⟩ := g
  simp only
  cases hj : ops[j]? with
  | none => rfl
  | some oj =>
   simp only
   cases hd : oj.dst with
   | none => rfl
   | some d =>
    simp only
    rw [h d (by simp [Oper.looksAt, hg, hj, hd])]
theorem stepV_congr {o : Oper} {m m' : Tm} {H : Heap} (h : Agree ops o m m') : stepV P cl ops o m H = stepV P cl ops o m' H := by
 unfold stepV
 rw [h.guard, opA_congr h.op]
theorem stepV_still {o : Oper} {m : Tm} {H H' : Heap} {v : AV} (he : isEff P o.op = false) (h : stepV P cl ops o m H = some (v, H')) :
  H' = H ∧ ∀ H2, (∀ r, readOf o.op m = some r → H2.get r = H.get r) → stepV P cl ops o m H2 = some (v, H2) := by
 unfold stepV at h ⊢
 split at h
 ·cases h
 ·rename_i hg
  simp only [Option.some.injEq, Prod.mk.injEq] at h
  obtain ⟨rfl, rfl⟩ := h
  exact ⟨rfl, fun H2 _ => by simp only [hg]⟩
 ·rename_i hg
  cases hop : opA P o.op m H with
  | none => rw [hop] at h; cases h
  | some g =>
   rw [hop] at h
   obtain ⟨v1, rfl, _⟩ := opA_still (H' := H) he hop fun _ _ => rfl
   simp only [Option.some.injEq, Prod.mk.injEq] at h
   obtain ⟨rfl, rfl⟩ := h
   refine ⟨rfl, fun H2 hr => ?_⟩
   obtain ⟨v2, hv, h2⟩ := opA_still (H' := H2) he hop hr
   cases hv
   simp only [hg, h2]
theorem Tm.dst_get {m m' : Tm} {d : Option Nat} {v : AV} (h : m.dst d v = some m') : m'.n = m.n ∧ ∀ t, m'.get t = if d = some t then some v else m.get t := by
 cases d with
 | none => cases h; exact ⟨rfl, fun t => by simp⟩
 | some i =>
  simp only [Tm.dst, Tm.put] at h
  cases hb : Nat.blt i m.n with
  | false => rw [hb] at h; cases h
  | true =>
   rw [hb] at h
   cases h
   refine ⟨rfl, fun t => ?_⟩
   simp only [Tm.get, Trie.get_set, Option.some.injEq]
   by_cases e : t = i
   ·subst e; simp
   ·rw [if_neg e, if_neg (fun e' => e e'.symm)]
theorem Tm.dst_some {m m1 m' : Tm} {d : Option Nat} {v u : AV} (h : m.dst d v = some m') (hn : m1.n = m.n) : ∃ m2, m1.dst d u = some m2 := by
 cases d with
 | none => exact ⟨_, rfl⟩
 | some i =>
  simp only [Tm.dst, Tm.put] at h ⊢
  rw [hn]
  cases hb : Nat.blt i m.n with
  | false => rw [hb] at h; cases h
  | true => exact ⟨_, rfl⟩
def wr (ops : Array Oper) (k t : Nat) : Bool := match ops[k]? with
 | some o => o.dst == some t
 | none => false
def mD (ops : Array Oper) (m0 : Tm) (vs : Nat → AV) (D : Nat → Bool) : Nat → Tm
 | 0 => m0
 | k + 1 => match (ops[k]?).bind (·.dst) with
  | some t => if D k = true then { n := m0.n, t := (mD ops m0 vs D k).t.set t (vs k) } else mD ops m0 vs D k
  | none => mD ops m0 vs D k
theorem mD_n (ops : Array Oper) (m0 : Tm) (vs : Nat → AV) (D : Nat → Bool) : ∀ k, (mD ops m0 vs D k).n = m0.n
 | 0 => rfl
 | k + 1 => by
  unfold mD
  split
  ·split
   ·rfl
   ·exact mD_n ops m0 vs D k
  ·exact mD_n ops m0 vs D k
theorem mD_get (ops : Array Oper) (m0 : Tm) (vs : Nat → AV) (D : Nat → Bool) (k t : Nat) :
  (mD ops m0 vs D (k + 1)).get t = if D k = true ∧ wr ops k t = true then some (vs k) else (mD ops m0 vs D k).get t := by
 have hw : wr ops k t = ((ops[k]?).bind (·.dst) == some t) := by
  unfold wr
  cases ops[k]? <;> rfl
 rw [hw, mD]
 generalize (ops[k]?).bind (·.dst) = q
 cases q with
  | none => simp
  | some d =>
   simp only
   by_cases hD : D k = true
   ·rw [if_pos hD]
    simp only [Tm.get, Trie.get_set, hD, true_and, beq_iff_eq, Option.some.injEq]
    by_cases e : t = d
    ·subst e; simp
    ·rw [if_neg e, if_neg (fun e' => e e'.symm)]
   ·rw [if_neg hD]; simp [hD]
theorem mD_ext {ops : Array Oper} {m0 : Tm} {vs : Nat → AV} {D D' : Nat → Bool} {t : Nat} : ∀ {k}, (∀ j, j < k → wr ops j t = true → D j = D' j) → (mD ops m0 vs D k).get t = (mD ops m0 vs D' k).get t
 | 0, _ => rfl
 | k + 1, h => by
  rw [mD_get, mD_get, mD_ext fun j hj => h j (by omega)]
  by_cases hw : wr ops k t = true
  ·rw [h k (by omega) hw]
  ·simp [hw]
theorem mD_skip {ops : Array Oper} {m0 : Tm} {vs : Nat → AV} {D : Nat → Bool} {t i : Nat} : ∀ {n}, i ≤ n → (∀ j, i ≤ j → j < n → wr ops j t = true → D j = false) → (mD ops m0 vs D n).get t = (mD ops m0 vs D i).get t
 | 0, hi, _ => by rw [Nat.le_zero.mp hi]
 | n + 1, hi, h => by
  by_cases e : i = n + 1
  ·rw [e]
  ·rw [mD_get, mD_skip (i := i) (n := n) (by omega) fun j h1 h2 => h j h1 (by omega)]
   by_cases hw : wr ops n t = true
   ·rw [h n (by omega) (by omega) hw]; simp
   ·simp [hw]
theorem mD_add {ops : Array Oper} {m0 : Tm} {vs : Nat → AV} {D D' : Nat → Bool} {t i n : Nat} (hi : i < n) (hD : ∀ j, D' j = (D j || j == i)) (h : ∀ j, i < j → j < n → wr ops i t = true → wr ops j t = true → D j = false) :
  (mD ops m0 vs D' n).get t = if wr ops i t = true then some (vs i) else (mD ops m0 vs D n).get t := by
 by_cases hw : wr ops i t = true
 ·rw [if_pos hw, mD_skip (i := i + 1) (by omega), mD_get]
  ·rw [if_pos ⟨by rw [hD]; simp, hw⟩]
  ·intro j h1 h2 h3
   rw [hD, h j (by omega) h2 hw h3]
   simp; omega
 ·rw [if_neg hw]
  refine mD_ext fun j _ hj => ?_
  rw [hD]
  have : j ≠ i := fun e => hw (e ▸ hj)
  simp [this]
def Run (P : Program) (cl : Caller) (ops : Array Oper) (ms : Nat → Tm) (hs : Nat → Heap) (vs : Nat → AV) : Prop :=
 ∀ i o, ops[i]? = some o → stepV P cl ops o (ms i) (hs i) = some (vs i, hs (i + 1)) ∧ (ms i).dst o.dst (vs i) = some (ms (i + 1))
theorem run_of_trace : ∀ {l : List Oper} {m m' : Tm} {H H' : Heap} {tr : List (Heap × Option Nat)}, traceA P cl ops l m H = some (m', H', tr) →
  ∃ (ms : Nat → Tm) (hs : Nat → Heap) (vs : Nat → AV), ms 0 = m ∧ hs 0 = H ∧ ms l.length = m' ∧ hs l.length = H' ∧ tr.length = l.length ∧
   ∀ i o, l[i]? = some o → (stepV P cl ops o (ms i) (hs i) = some (vs i, hs (i + 1)) ∧ (ms i).dst o.dst (vs i) = some (ms (i + 1))) ∧ tr[i]? = some (hs i, readOf o.op (ms i))
 | [], m, m', H, H', tr, h => by
  simp only [traceA, Option.some.injEq, Prod.mk.injEq] at h
  obtain ⟨rfl, rfl, rfl⟩ := h
  exact ⟨fun _ => m, fun _ => H, fun _ => .tup [], rfl, rfl, rfl, rfl, rfl, fun i o h => by simp at h⟩
 | o :: l, m, m', H, H', tr, h => by
  simp only [traceA] at h
  split at h
  ·cases h
  ·rename_i m1 H1 hs1
   split at h
   ·cases h
   ·rename_i m2 H2 tr1 ht
    simp only [Option.some.injEq, Prod.mk.injEq] at h
    obtain ⟨rfl, rfl, rfl⟩ := h
    obtain ⟨ms, hs, vs, e1, e2, e3, e4, e5, e6⟩ := run_of_trace ht
    rw [stepA_eq] at hs1
    cases hv : stepV P cl ops o m H with
    | none => rw [hv] at hs1; cases hs1
    | some r =>
     obtain ⟨v, Hv⟩ := r
     rw [hv] at hs1
     simp only [Option.bind_some] at hs1
     obtain ⟨mx, hmx, he⟩ := map_some hs1
     simp only [Prod.mk.injEq] at he
     obtain ⟨rfl, rfl⟩ := he
     refine ⟨fun k => match k with | 0 => m | k + 1 => ms k, fun k => match k with | 0 => H | k + 1 => hs k, fun k => match k with | 0 => v | k + 1 => vs k, rfl, rfl, e3, e4, by simp [e5], ?_⟩
     intro i o' hi
     cases i with
     | zero =>
      simp only [List.getElem?_cons_zero, Option.some.injEq] at hi
      subst hi
      simp only [e1, e2]
      exact ⟨⟨hv, hmx⟩, by simp⟩
     | succ i =>
      simp only [List.getElem?_cons_succ] at hi ⊢
      exact e6 i o' hi
theorem Run.get {ms : Nat → Tm} {hs : Nat → Heap} {vs : Nat → AV} (h : Run P cl ops ms hs vs) (t : Nat) : ∀ {k}, k ≤ ops.size → (ms k).n = (ms 0).n ∧ (ms k).get t = (mD ops (ms 0) vs (fun _ => true) k).get t
 | 0, _ => ⟨rfl, rfl⟩
 | k + 1, hk => by
  have ho : ops[k]? = some ops[k] := Array.getElem?_eq_getElem (by omega)
  obtain ⟨hn, hg⟩ := Tm.dst_get (h k _ ho).2
  obtain ⟨in_, ig⟩ := h.get t (k := k) (by omega)
  refine ⟨by rw [hn, in_], ?_⟩
  rw [mD_get, hg t, ig]
  simp [wr, ho]
theorem Run.flat {ms : Nat → Tm} {hs : Nat → Heap} {vs : Nat → AV} (h : Run P cl ops ms hs vs) {p : Nat} : ∀ {q}, p ≤ q → q ≤ ops.size → (∀ j o, p ≤ j → j < q → ops[j]? = some o → isEff P o.op = false) → hs p = hs q
 | 0, hp, _, _ => by rw [Nat.le_zero.mp hp]
 | q + 1, hp, hq, he => by
  by_cases e : p = q + 1
  ·rw [e]
  ·have ho : ops[q]? = some ops[q] := Array.getElem?_eq_getElem (by omega)
   rw [h.flat (p := p) (q := q) (by omega) (by omega) fun j o h1 h2 => he j o h1 (by omega)]
   exact (stepV_still (he q _ (by omega) (by omega) ho) (h q _ ho).1).1.symm
theorem Run.row {ms : Nat → Tm} {hs : Nat → Heap} {vs : Nat → AV} (h : Run P cl ops ms hs vs) {p g : Nat} : ∀ {q}, p ≤ q → q ≤ ops.size → (∀ j o, p ≤ j → j < q → ops[j]? = some o → isEff P o.op = true → (hs j).get g = (hs (j + 1)).get g) → (hs p).get g = (hs q).get g
 | 0, hp, _, _ => by rw [Nat.le_zero.mp hp]
 | q + 1, hp, hq, he => by
  by_cases e : p = q + 1
  ·rw [e]
  ·have ho : ops[q]? = some ops[q] := Array.getElem?_eq_getElem (by omega)
   rw [h.row (p := p) (q := q) (by omega) (by omega) fun j o h1 h2 => he j o h1 (by omega)]
   cases hE : isEff P ops[q].op with
   | true => exact he q _ (by omega) (by omega) ho hE
   | false => rw [(stepV_still hE (h q _ ho).1).1]
end some_order
end Go.Vx
end
section
set_option linter.unusedVariables false
set_option linter.unusedSimpArgs false
namespace Go.Vx
mutual
theorem AV.beq_eq : ∀ {a b : AV}, AV.beq a b = true → a = b
 | .bool _ _, b, h => by cases b <;> simp [AV.beq] at h; rw [h.1, h.2]
 | .int _ _ _, b, h => by cases b <;> simp [AV.beq] at h; rw [h.1, h.2.1, h.2.2]
 | .str _ _, b, h => by cases b <;> simp [AV.beq] at h; rw [h.1, h.2]
 | .ptr _ _, b, h => by cases b <;> simp [AV.beq] at h; rw [h.1, h.2]
 | .slice _ _ _ _, b, h => by cases b <;> simp [AV.beq] at h; rw [h.1, h.2.1.1, h.2.1.2, h.2.2]
 | .vec _ _, b, h => by cases b <;> simp [AV.beq] at h
 | .eptr _ _ _ _, b, h => by cases b <;> simp [AV.beq] at h
 | .map _, b, h => by cases b <;> simp [AV.beq] at h; rw [h]
 | .func f x y, b, h => by
  cases b <;> simp [AV.beq] at h
  rw [h.1.1, AV.beqL_eq h.1.2, AV.beqL_eq h.2]
 | .nilFunc, b, h => by cases b <;> simp [AV.beq] at h; rfl
 | .nilIface, b, h => by cases b <;> simp [AV.beq] at h; rfl
 | .agg x, b, h => by cases b <;> simp [AV.beq] at h; rw [AV.beqL_eq h]
 | .tup x, b, h => by cases b <;> simp [AV.beq] at h; rw [AV.beqL_eq h]
theorem AV.beqL_eq : ∀ {a b : List AV}, AV.beqL a b = true → a = b
 | [], [], _ => rfl
 | [], _ :: _, h => by simp [AV.beqL] at h
 | _ :: _, [], h => by simp [AV.beqL] at h
 | x :: xs, y :: ys, h => by
  simp only [AV.beqL, Bool.and_eq_true] at h
  rw [AV.beq_eq h.1, AV.beqL_eq h.2]
end
section spec
variable {P : Program} {ops : Array Oper} {b : Array Nat}
theorem bits_spec (h : bitsOk ops b = true) {i j : Nat} (hj : j < ops.size) (hb : (b.getD j 0).testBit i = true) :
  i < j ∧ ∃ o e, ops[j]? = some o ∧ e ∈ o.after ∧ Region.binds .any e = true ∧ e.on < j ∧ (e.on = i ∨ (b.getD e.on 0).testBit i = true) := by
 simp only [bitsOk, List.all_eq_true, List.mem_range, Bool.and_eq_true] at h
 obtain ⟨h1, h2⟩ := h j hj
 have hlt : b.getD j 0 < 2 ^ j := Nat.blt_eq.mp h1
 have hij : i < j := by
  apply Classical.byContradiction
  intro hn
  have : b.getD j 0 < 2 ^ i := Nat.lt_of_lt_of_le hlt (Nat.pow_le_pow_right (by omega) (by omega))
  rw [Nat.testBit_lt_two_pow this] at hb
  cases hb
 refine ⟨hij, ?_⟩
 have h3 := h2 i hij
 rw [hb] at h3
 have ho : ops[j]? = some ops[j] := Array.getElem?_eq_getElem hj
 simp only [ho, Bool.not_true, Bool.false_or, Array.any_eq_true', Bool.and_eq_true, Bool.or_eq_true, beq_iff_eq] at h3
 obtain ⟨e, he, ⟨hb1, hb2⟩, hb3⟩ := h3
 exact ⟨_, e, ho, he, hb1, Nat.blt_eq.mp hb2, hb3⟩
theorem back_spec (h : backEdges ops = true) {j : Nat} {o : Oper} (hj : ops[j]? = some o) {e : Edge} (he : e ∈ o.after) (hb : Region.binds .any e = true) : e.on < j := by
 have hlt : j < ops.size := (Array.getElem?_eq_some_iff.mp hj).1
 simp only [backEdges, List.all_eq_true, List.mem_range] at h
 have h1 := h j hlt
 simp only [hj, Array.all_eq_true', Bool.or_eq_true, Bool.not_eq_true'] at h1
 rcases h1 e he with h2 | h2
 ·rw [hb] at h2; cases h2
 ·exact Nat.blt_eq.mp h2
theorem loose_spec (h : looseOk P ops b = true) {i j : Nat} {x y : Oper} (hij : i < j) (hi : ops[i]? = some x) (hj : ops[j]? = some y) (hb : ¬ (b.getD j 0).testBit i = true) :
  x.apart ops y = true ∧ y.apart ops x = true ∧ ¬ (isEff P x.op = true ∧ isEff P y.op = true) := by
 have hlt : j < ops.size := (Array.getElem?_eq_some_iff.mp hj).1
 simp only [looseOk, List.all_eq_true, List.mem_range, Bool.or_eq_true] at h
 rcases h j hlt i hij with h1 | h1
 ·exact absurd h1 hb
 ·simp only [hi, hj, Bool.and_eq_true, Bool.not_eq_true', Bool.and_eq_false_iff] at h1
  refine ⟨h1.1.1, h1.1.2, fun hc => ?_⟩
  rcases h1.2 with h2 | h2
  ·rw [hc.1] at h2; cases h2
  ·rw [hc.2] at h2; cases h2
theorem reads_spec {tr : List (Heap × Option Nat)} {hs : Nat → Heap} {rd : Nat → Option Nat} {n : Nat} (hn : n = ops.size) (htr : ∀ i, i < n → tr[i]? = some (hs i, rd i)) (hl : tr.length = n)
  (h : readsP P ops b tr (hs n)) {i j g : Nat} {x y : Oper} (hx : ops[i]? = some x) (hj : ops[j]? = some y) (he : isEff P y.op = true) (h1 : ¬ (b.getD j 0).testBit i = true) (h2 : ¬ (b.getD i 0).testBit j = true) (hr : rd i = some g) :
  (hs j).get g = (hs (j + 1)).get g := by
 have hlt : j < ops.size := (Array.getElem?_eq_some_iff.mp hj).1
 have hi : i < ops.size := (Array.getElem?_eq_some_iff.mp hx).1
 simp only [Bool.not_eq_true] at h1 h2
 have h5 := h i j g x y (hs i) (hs j) hx hj he h1 h2 (by rw [htr i (by omega), hr]) (by rw [htr j (by omega)]; rfl)
 rw [h5]
 by_cases e : j + 1 < n
 ·rw [htr (j + 1) e]
 ·rw [List.getElem?_eq_none (by omega)]
  have : j + 1 = n := by omega
  rw [this]
end spec
section open_order
variable {P : Program} {cl : Caller} {ops : Array Oper} {b : Array Nat} {ms : Nat → Tm} {hs : Nat → Heap} {vs : Nat → AV} {β0 : At} {w0 : World} {a0 : Act}
def Ds (listed : Array Bool) (k : Nat) : Bool := listed.getD k false
structure Inv (P : Program) (ops : Array Oper) (b : Array Nat) (m0 : Tm) (hs : Nat → Heap) (vs : Nat → AV) (β0 : At) (w0 : World) (a0 : Act) (listed : Array Bool) (a : Act) (w : World) : Prop where
 size : listed.size = ops.size
 closed : ∀ j i, j < ops.size → Ds listed j = true → (b.getD j 0).testBit i = true → Ds listed i = true
 ex : ∃ β p, p ≤ ops.size ∧ (∀ j o, ops[j]? = some o → isEff P o.op = true → (Ds listed j = true ↔ j < p)) ∧ Rel β (hs p) w ∧ Le β0 (hs 0) w0 β (hs p) w ∧
  TRel (hs p).n β (mD ops m0 vs (Ds listed) ops.size) a.tmps
 defers : a.defers = a0.defers
theorem Ds_set {listed : Array Bool} {i : Nat} (hi : i < listed.size) (j : Nat) : Ds (listed.setIfInBounds i true) j = (Ds listed j || j == i) := by
 unfold Ds
 simp only [Array.getD_eq_getD_getElem?]
 by_cases e : i = j
 ·subst e
  simp [Array.getElem?_setIfInBounds, hi]
 ·rw [Array.getElem?_setIfInBounds_ne e]
  have : (j == i) = false := by simp; omega
  simp [this]
theorem ready_spec {listed : Array Bool} (hsz : listed.size = ops.size) {i : Nat} (h : i ∈ Region.ready .any ops listed) :
  i < ops.size ∧ Ds listed i = false ∧ ∃ o, ops[i]? = some o ∧ ∀ e ∈ o.after, Region.binds .any e = true → Ds listed e.on = true := by
 simp only [Region.ready, List.mem_filter, List.mem_range, Bool.and_eq_true, Bool.not_eq_true'] at h
 obtain ⟨h1, h2, h3⟩ := h
 refine ⟨h1, ?_, ?_⟩
 ·unfold Ds
  simp only [Array.getD_eq_getD_getElem?, Array.getElem?_eq_getElem (show i < listed.size by omega), Option.getD_some] at h2 ⊢
  exact h2
 ·have ho : ops[i]? = some ops[i] := Array.getElem?_eq_getElem h1
  refine ⟨_, ho, fun e he hb => ?_⟩
  simp only [ho, Option.map_some, Option.getD_some, Array.all_eq_true', Bool.or_eq_true, Bool.not_eq_true'] at h3
  rcases h3 e he with h4 | h4
  ·rw [hb] at h4; cases h4
  ·exact h4
theorem all_listed (hback : backEdges ops = true) {listed : Array Bool} (hsz : listed.size = ops.size) (h : Region.ready .any ops listed = []) : ∀ i, i < ops.size → Ds listed i = true := by
 intro i
 induction i using Nat.strongRecOn with
 | ind i ih =>
  intro hi
  cases hd : Ds listed i with
  | true => rfl
  | false =>
   have ho : ops[i]? = some ops[i] := Array.getElem?_eq_getElem hi
   have : i ∈ Region.ready .any ops listed := by
    simp only [Region.ready, List.mem_filter, List.mem_range, Bool.and_eq_true, Bool.not_eq_true', ho, Option.map_some, Option.getD_some, Array.all_eq_true', Bool.or_eq_true]
    refine ⟨hi, ?_, fun e he => ?_⟩
    ·unfold Ds at hd
     simp only [Array.getD_eq_getD_getElem?, Array.getElem?_eq_getElem (show i < listed.size by omega), Option.getD_some] at hd ⊢
     exact hd
    ·cases hb : Region.binds .any e with
     | false => exact .inl rfl
     | true =>
      have := back_spec hback ho he hb
      exact .inr (ih e.on this (by omega))
   rw [h] at this
   cases this
theorem Inv.done (hrun : Run P cl ops ms hs vs) {listed : Array Bool} {a : Act} {w : World} (I : Inv P ops b (ms 0) hs vs β0 w0 a0 listed a w) (hall : ∀ i, i < ops.size → Ds listed i = true) :
  ∃ β, Rel β (hs ops.size) w ∧ Le β0 (hs 0) w0 β (hs ops.size) w ∧ TRel (hs ops.size).n β (ms ops.size) a.tmps ∧ a.defers = a0.defers := by
 obtain ⟨β, p, hp, heff, hR, hLe, hT⟩ := I.ex
 have hh : hs p = hs ops.size := by
  refine hrun.flat hp (Nat.le_refl _) fun j o h1 h2 ho => ?_
  cases he : isEff P o.op with
  | false => rfl
  | true => have := (heff j o ho he).mp (hall j h2); omega
 rw [hh] at hR hLe hT
 refine ⟨β, hR, hLe, ?_, I.defers⟩
 refine Tm.ext_get ?_ (fun t => ?_) hT
 ·rw [mD_n, (hrun.get 0 (k := ops.size) (Nat.le_refl _)).1]
 ·rw [(hrun.get t (k := ops.size) (Nat.le_refl _)).2]
  exact mD_ext fun j hj _ => hall j hj
theorem order_of (hloose : looseOk P ops b = true) {i j : Nat} {x y : Oper} (hi : ops[i]? = some x) (hj : ops[j]? = some y) (hne : i ≠ j) {t : Nat} (hy : y.dst = some t) (hx : x.dst = some t ∨ t ∈ x.looksAt ops) :
  (i < j → (b.getD j 0).testBit i = true) ∧ (j < i → (b.getD i 0).testBit j = true) := by
 constructor
 ·intro hij
  apply Classical.byContradiction
  intro hb
  obtain ⟨h1, h2, _⟩ := loose_spec hloose hij hi hj hb
  rcases hx with hx | hx
  ·exact (Oper.apart_spec h1).2.1 t hx hy
  ·exact (Oper.apart_spec h1).2.2 t hy hx
 ·intro hji
  apply Classical.byContradiction
  intro hb
  obtain ⟨h1, h2, _⟩ := loose_spec hloose hji hj hi hb
  rcases hx with hx | hx
  ·exact (Oper.apart_spec h1).2.1 t hy hx
  ·exact (Oper.apart_spec h1).1 t hy hx
theorem wr_spec {k t : Nat} (h : wr ops k t = true) : ∃ o, ops[k]? = some o ∧ o.dst = some t := by
 unfold wr at h
 split at h
 ·rename_i o ho; exact ⟨o, ho, by simpa using h⟩
 ·cases h
theorem count_set : ∀ (l : List Bool) (i : Nat), l[i]? = some false → (l.set i true).countP (fun x => !x) + 1 = l.countP (fun x => !x)
 | [], i, h => by simp at h
 | x :: l, 0, h => by simp at h; subst h; simp
 | x :: l, i + 1, h => by
  simp only [List.getElem?_cons_succ] at h
  have := count_set l i h
  cases x <;> simp [List.countP_cons] <;> omega
theorem any_sound (hcl : CallOk P cl) (hrun : Run P cl ops ms hs vs) (hbits : bitsOk ops b = true) (hback : backEdges ops = true) (hloose : looseOk P ops b = true)
  (hreads : ∀ i j g x y, ops[i]? = some x → ops[j]? = some y → isEff P y.op = true → ¬ (b.getD j 0).testBit i = true → ¬ (b.getD i 0).testBit j = true → readOf x.op (ms i) = some g → (hs j).get g = (hs (j + 1)).get g)
  {Q : Exit → Act → World → Prop}
  (hQ : ∀ β a w, Rel β (hs ops.size) w → Le β0 (hs 0) w0 β (hs ops.size) w → TRel (hs ops.size).n β (ms ops.size) a.tmps → a.defers = a0.defers → Q .normal a w) :
  ∀ (fuel : Nat) (listed : Array Bool) (a : Act) (w : World), Inv P ops b (ms 0) hs vs β0 w0 a0 listed a w → (listed.toList.countP fun x => !x) ≤ fuel → wpAny P .any ops Q fuel listed a w
 | 0, listed, a, w, I, hf => by
  have hall : ∀ i, i < ops.size → Ds listed i = true := by
   intro i hi
   have h0 : listed.toList.countP (fun x => !x) = 0 := by omega
   rw [List.countP_eq_zero] at h0
   have hlt : i < listed.size := by rw [I.size]; exact hi
   have := h0 listed[i] (by simp)
   unfold Ds
   simp only [Array.getD_eq_getD_getElem?, Array.getElem?_eq_getElem hlt, Option.getD_some]
   simpa using this
  obtain ⟨β, h1, h2, h3, h4⟩ := I.done hrun hall
  refine ⟨?_, hQ β a w h1 h2 h3 h4⟩
  apply List.eq_nil_iff_forall_not_mem.mpr
  intro i hi
  have := ready_spec I.size hi
  rw [hall i this.1] at this
  cases this.2.1
 | fuel + 1, listed, a, w, I, hf => by
  refine ⟨fun hr => ?_, fun i hi => ?_⟩
  ·obtain ⟨β, h1, h2, h3, h4⟩ := I.done hrun (all_listed hback I.size hr)
   exact hQ β a w h1 h2 h3 h4
  ·obtain ⟨hlt, hun, o, ho, hedges⟩ := ready_spec I.size hi
   obtain ⟨β, p, hp, heff, hR, hLe, hT⟩ := I.ex
   obtain ⟨hstep, hdst⟩ := hrun i o ho
   -- what must come first has come
   have hpre : ∀ k, (b.getD i 0).testBit k = true → Ds listed k = true := by
    intro k hk
    obtain ⟨hki, o', e, ho', he, hb1, hb2, hb3⟩ := bits_spec hbits hlt hk
    rw [ho] at ho'
    cases ho'
    have hl := hedges e he hb1
    rcases hb3 with rfl | hb3
    ·exact hl
    ·exact I.closed e.on k (by omega) hl hb3
   -- what must come behind has not
   have hpost : ∀ k, k < ops.size → (b.getD k 0).testBit i = true → Ds listed k = false := by
    intro k hk hb
    cases hd : Ds listed k with
    | false => rfl
    | true => have := I.closed k i hk hd hb; rw [hun] at this; cases this
   -- the variables that it looks at
   have hag : Agree ops o (mD ops (ms 0) vs (Ds listed) ops.size) (ms i) := by
    intro t ht
    have key : ∀ k, k < ops.size → wr ops k t = true → Ds listed k = decide (k < i) := by
     intro k hk hw
     obtain ⟨y, hy, hyd⟩ := wr_spec hw
     by_cases e : k = i
     ·subst e; rw [hun]; simp
     ·obtain ⟨q1, q2⟩ := order_of hloose ho hy (fun e' => e e'.symm) hyd (.inr ht)
      by_cases hki : k < i
      ·rw [hpre k (q2 hki)]; simp [hki]
      ·rw [hpost k hk (q1 (by omega))]; simp [hki]
    rw [(hrun.get t (k := i) (by omega)).2, mD_ext (D := Ds listed) (D' := fun j => decide (j < i)) key,
     mD_skip (i := i) (n := ops.size) (D := fun j => decide (j < i)) (by omega) (by intro j h1 _ _; simp; omega)]
    exact mD_ext fun j hj _ => by simp [hj]
   -- the memory that it meets
   have hmem : ∃ p', stepV P cl ops o (ms i) (hs p) = some (vs i, hs p') ∧ p' ≤ ops.size ∧
     ∀ j o, ops[j]? = some o → isEff P o.op = true → (Ds (listed.setIfInBounds i true) j = true ↔ j < p') := by
    have hsz : i < listed.size := by rw [I.size]; exact hlt
    cases hE : isEff P o.op with
    | true =>
     have hip : p ≤ i := by
      apply Classical.byContradiction
      intro hn
      have := (heff i o ho hE).mpr (by omega)
      rw [hun] at this; cases this
     have hno : ∀ j y, p ≤ j → j < i → ops[j]? = some y → isEff P y.op = false := by
      intro j y h1 h2 hj
      cases he : isEff P y.op with
      | false => rfl
      | true =>
       exfalso
       by_cases hb : (b.getD i 0).testBit j = true
       ·have := (heff j y hj he).mp (hpre j hb); omega
       ·exact (loose_spec hloose h2 hj ho hb).2.2 ⟨he, hE⟩
     have hh : hs p = hs i := hrun.flat hip (by omega) hno
     refine ⟨i + 1, by rw [hh]; exact hstep, hlt, fun j y hj he => ?_⟩
     rw [Ds_set hsz]
     simp only [Bool.or_eq_true, beq_iff_eq]
     constructor
     ·rintro (h | h)
      ·have := (heff j y hj he).mp h; omega
      ·omega
     ·intro h
      by_cases e : j = i
      ·exact .inr e
      ·left
       apply (heff j y hj he).mpr
       apply Classical.byContradiction
       intro hn
       have := hno j y (by omega) (by omega) hj
       rw [he] at this; cases this
    | false =>
     obtain ⟨h1, h2⟩ := stepV_still hE hstep
     refine ⟨p, h2 (hs p) fun r hr => ?_, hp, fun j y hj he => ?_⟩
     ·by_cases hpi : p ≤ i
      ·refine hrun.row hpi (by omega) fun j y q1 q2 hj he => ?_
       have hjn : ¬ Ds listed j = true := fun h => by have := (heff j y hj he).mp h; omega
       refine hreads i j r o y ho hj he (fun hb => ?_) (fun hb => hjn (hpre j hb)) hr
       have := (bits_spec hbits (by omega) hb).1; omega
      ·refine (hrun.row (p := i) (q := p) (by omega) hp fun j y q1 q2 hj he => ?_).symm
       have hjl := (heff j y hj he).mpr q2
       refine hreads i j r o y ho hj he (fun hb => ?_) (fun hb => ?_) hr
       ·rw [hpost j (by omega) hb] at hjl; cases hjl
       ·have := (bits_spec hbits hlt hb).1; omega
     ·rw [Ds_set hsz]
      have hne : j ≠ i := by
       intro e
       subst e
       rw [ho] at hj
       cases hj
       rw [hE] at he; cases he
      simp only [Bool.or_eq_true, beq_iff_eq, hne, or_false]
      exact heff j y hj he
   obtain ⟨p', hst, hp', heff'⟩ := hmem
   have hsz : i < listed.size := by rw [I.size]; exact hlt
   obtain ⟨m2, hm2⟩ := Tm.dst_some (m1 := mD ops (ms 0) vs (Ds listed) ops.size) (u := vs i) hdst (by rw [mD_n, (hrun.get 0 (k := i) (by omega)).1])
   have hsA : stepA P cl ops o (mD ops (ms 0) vs (Ds listed) ops.size) (hs p) = some (m2, hs p') := by
    rw [stepA_eq, stepV_congr hag, hst]
    simp only [Option.bind_some, hm2, Option.map_some]
   unfold wpOp
   rw [ho]
   refine step_sound hcl hsA hR hT fun β' a' w' hR' hLe' hT' hd' => ?_
   refine any_sound hcl hrun hbits hback hloose hreads hQ fuel _ a' w' ?_ ?_
   ·refine ⟨by simp [I.size], fun j k hj hd hb => ?_, ⟨β', p', hp', heff', hR', hLe.trans hLe', ?_⟩, hd'.trans I.defers⟩
    ·rw [Ds_set hsz] at hd ⊢
     simp only [Bool.or_eq_true, beq_iff_eq] at hd ⊢
     rcases hd with hd | rfl
     ·exact .inl (I.closed j k hj hd hb)
     ·exact .inl (hpre k hb)
    ·refine Tm.ext_get ?_ (fun t => ?_) hT'
     ·rw [(Tm.dst_get hm2).1, mD_n, mD_n]
     ·rw [(Tm.dst_get hm2).2 t, mD_add hlt (Ds_set hsz)]
      ·simp [wr, ho]
      ·intro j h1 h2 w1 w2
       obtain ⟨x, hx, hxd⟩ := wr_spec w1
       obtain ⟨y, hy, hyd⟩ := wr_spec w2
       exact hpost j h2 ((order_of hloose hx hy (by omega) hyd (.inl hxd)).1 h1)
   ·have hf2 := count_set listed.toList i (by
     have : Ds listed i = false := hun
     unfold Ds at this
     simp only [Array.getD_eq_getD_getElem?, Array.getElem?_eq_getElem hsz, Option.getD_some] at this
     rw [Array.getElem?_toList, Array.getElem?_eq_getElem hsz, this])
    rw [Array.toList_setIfInBounds]
    omega
end open_order
theorem draw_any {P : Program} {cl : Caller} (hcl : CallOk P cl) {ops : Array Oper} {m m' : Tm} {H H' : Heap} (h : drawA P cl ops m H = some (m', H'))
  {a : Act} {β : At} {w : World} (hR : Rel β H w) (hT : TRel H.n β m a.tmps) {Q : Exit → Act → World → Prop}
  (hQ : ∀ β' a' w', Rel β' H' w' → Le β H w β' H' w' → TRel H'.n β' m' a'.tmps → a'.defers = a.defers → Q .normal a' w') : wpAny P .any ops Q ops.size (Array.replicate ops.size false) a { w with drawn := w.drawn + 1 } := by
 unfold drawA at h
 split at h
 ·rename_i hd
  simp only [drawOk, Bool.and_eq_true] at hd
  obtain ⟨⟨hback, hbits⟩, hloose⟩ := hd
  split at h
  ·cases h
  ·rename_i m1 H1 tr htr
   split at h
   ·rename_i hreads
    cases h
    obtain ⟨ms, hs, vs, e1, e2, e3, e4, e5, e6⟩ := run_of_trace htr
    have hlen : ops.toList.length = ops.size := by simp
    rw [hlen] at e3 e4 e5
    have hrun : Run P cl ops ms hs vs := fun i o ho => (e6 i o (by simpa using ho)).1
    subst e1 e2 e3 e4
    refine any_sound (b := Region.before ops) (β0 := β) (w0 := w) (a0 := a) hcl hrun hbits hback hloose ?_ hQ ops.size _ a _ ?_ ?_
    ·intro i j g x y hi hj he h1 h2 hr
     have hlt : i < ops.size := (Array.getElem?_eq_some_iff.mp hi).1
     refine reads_spec (rd := fun i => match ops[i]? with | some o => readOf o.op (ms i) | none => none) rfl ?_ e5 hreads hi hj he h1 h2 (by simp only [hi]; exact hr)
     intro k hk
     have hk' : ops[k]? = some ops[k] := Array.getElem?_eq_getElem hk
     rw [(e6 k ops[k] (by simp [hk])).2]
     simp only [hk']
    ·have hDs : ∀ k, Ds (Array.replicate ops.size false) k = false := by
      intro k
      unfold Ds
      simp [Array.getD_eq_getD_getElem?, Array.getElem?_replicate]
      split <;> rfl
     refine ⟨by simp, fun j i _ hd => ?_, ⟨β, 0, Nat.zero_le _, fun j o _ _ => ?_, hR.drew, Le.drew _ _ _, ?_⟩, rfl⟩
     ·rw [hDs] at hd; cases hd
     ·rw [hDs]; simp
     ·refine Tm.ext_get ?_ (fun t => ?_) hT
      ·rw [mD_n]
      ·rw [mD_skip (i := 0) (Nat.zero_le _) (fun j _ _ _ => hDs j)]; rfl
    ·refine Nat.le_trans List.countP_le_length ?_
     simp
   ·cases h
 ·cases h
theorem draw_sound {P : Program} {cl : Caller} (hcl : CallOk P cl) (hm : P.follows .mixedOrders = true) {id : Nat} {ops : Array Oper} {m m' : Tm} {H H' : Heap} (h : drawA P cl ops m H = some (m', H'))
  {a : Act} {β : At} {w : World} (hR : Rel β H w) (hT : TRel H.n β m a.tmps) {Q : Exit → Act → World → Prop}
  (hQ : ∀ β' a' w', Rel β' H' w' → Le β H w β' H' w' → TRel H'.n β' m' a'.tmps → a'.defers = a.defers → Q .normal a' w') : (Code.region id ops true).wp P Q a w :=
 wp_region_any hm (draw_any hcl h hR hT hQ)
end Go.Vx
end
section
set_option linter.unusedVariables false
set_option linter.unusedSimpArgs false
namespace Go.Vx
def relabel (π : Nat → Nat) (ex : Bool) (s : Nat) (o : Oper) : Oper :=
 {o with after := (o.after.map fun e => { e with on := π e.on }) ++ (if ex = true then #[⟨s, .data⟩] else #[]), guard := o.guard.map fun g => (π g.1, g.2) }
def permOps (ops : Array Oper) (l : List Nat) (s t : Nat) : Array Oper := (l.map fun i => relabel (fun j => l.idxOf j) (Nat.beq i t) (l.idxOf s) (ops.getD i default)).toArray
def permOk (l : List Nat) (n : Nat) : Bool := Nat.beq l.length n && (List.range n).all fun i => decide (l[l.idxOf i]? = some i) && (match l[i]? with
 | some j => Nat.blt j n && Nat.beq (l.idxOf j) i
 | none => false)
structure Ref2 (ops ops' : Array Oper) (π : Nat → Nat) (s t : Nat) : Prop where
 size : ops'.size = ops.size
 lt : ∀ i, i < ops.size → π i < ops.size
 inj : ∀ i j, i < ops.size → j < ops.size → π i = π j → i = j
 sur : ∀ k, k < ops.size → ∃ i, i < ops.size ∧ π i = k
 out : ∀ j, ops.size ≤ j → ops.size ≤ π j
 at_ : ∀ i o, ops[i]? = some o → ops'[π i]? = some (relabel π (Nat.beq i t) (π s) o)
theorem perm_ref {ops : Array Oper} {l : List Nat} {s t : Nat} (h : permOk l ops.size = true) : Ref2 ops (permOps ops l s t) (fun j => l.idxOf j) s t := by
 simp only [permOk, Bool.and_eq_true, List.all_eq_true, List.mem_range, decide_eq_true_eq] at h
 obtain ⟨hl, h⟩ := h
 have hl := Nat.eq_of_beq_eq_true hl
 have hlt : ∀ i, i < ops.size → l.idxOf i < ops.size := fun i hi => by
  have := (List.getElem?_eq_some_iff.1 (h i hi).1).1
  omega
 refine ⟨by simp [permOps, hl], hlt, fun i j hi hj he => ?_, fun k hk => ?_, fun j hj => ?_, fun i o ho => ?_⟩
 ·have h1 := (h i hi).1
  have h2 := (h j hj).1
  have he : l.idxOf i = l.idxOf j := he
  rw [he] at h1
  rw [h1] at h2
  exact (by simpa using h2)
 ·have := (h k hk).2
  cases hk' : l[k]? with
  | none => rw [hk'] at this; cases this
  | some j =>
   rw [hk'] at this
   simp only [Bool.and_eq_true] at this
   exact ⟨j, Nat.blt_eq.mp this.1, Nat.eq_of_beq_eq_true this.2⟩
 ·show ops.size ≤ l.idxOf j
  refine Nat.le_of_not_lt fun hlt' => ?_
  have hm : j ∈ l := List.idxOf_lt_length_iff.1 (by omega)
  obtain ⟨k, hk⟩ := List.mem_iff_getElem?.1 hm
  have hkl := (List.getElem?_eq_some_iff.1 hk).1
  have := (h k (by omega)).2
  rw [hk] at this
  simp only [Bool.and_eq_true] at this
  have := Nat.blt_eq.mp this.1
  omega
 ·have hi := (Array.getElem?_eq_some_iff.1 ho).1
  have h1 := (h i hi).1
  show (permOps ops l s t)[l.idxOf i]? = _
  simp only [permOps, List.getElem?_toArray, List.getElem?_map, h1, Option.map_some]
  have : ops.getD i default = o := by rw [Array.getD_eq_getD_getElem?, ho]; rfl
  rw [this]
section cover
variable {P : Program} {ops v : Array Oper} {π : Nat → Nat} {s t : Nat} {Q : Exit → Act → World → Prop}
def Alike (n : Nat) (π : Nat → Nat) (L L' : Array Bool) : Prop := L.size = n ∧ L'.size = n ∧ ∀ i, i < n → Ds L' (π i) = Ds L i
theorem ready_of {ops : Array Oper} {L : Array Bool} (hsz : L.size = ops.size) {i : Nat} {o : Oper} (ho : ops[i]? = some o) (hd : Ds L i = false) (he : ∀ e ∈ o.after, Region.binds .any e = true → Ds L e.on = true) : i ∈ Region.ready .any ops L := by
 have hi := (Array.getElem?_eq_some_iff.1 ho).1
 simp only [Region.ready, List.mem_filter, List.mem_range, Bool.and_eq_true, Bool.not_eq_true']
 refine ⟨hi, ?_, ?_⟩
 ·unfold Ds at hd
  simp only [Array.getD_eq_getD_getElem?, Array.getElem?_eq_getElem (show i < L.size by omega), Option.getD_some] at hd ⊢
  exact hd
 ·simp only [ho, Option.map_some, Option.getD_some, Array.all_eq_true', Bool.or_eq_true, Bool.not_eq_true']
  intro e hem
  cases hb : Region.binds .any e with
  | false => exact .inl rfl
  | true => exact .inr (he e hem hb)
theorem Ds_out {L : Array Bool} {i : Nat} (h : L.size ≤ i) : Ds L i = false := by
 unfold Ds
 rw [Array.getD_eq_getD_getElem?, Array.getElem?_eq_none h]; rfl
theorem Ref2.ready (R : Ref2 ops v π s t) {L L' : Array Bool} (hL : Alike ops.size π L L') {i : Nat} (h : i ∈ Region.ready .any ops L) (hs : i = t → Ds L s = true) : π i ∈ Region.ready .any v L' := by
 obtain ⟨hi, hd, o, ho, he⟩ := ready_spec hL.1 h
 have hlt : ∀ j, Ds L j = true → Ds L' (π j) = true := fun j hj => by
  have : j < ops.size := Nat.lt_of_not_le fun hn => by rw [Ds_out (by rw [hL.1]; exact hn)] at hj; cases hj
  rw [hL.2.2 j this]; exact hj
 refine ready_of (by rw [hL.2.1, R.size]) (R.at_ i o ho) (by rw [hL.2.2 i hi]; exact hd) fun e' hem hb => ?_
 simp only [relabel, Array.mem_append, Array.mem_map] at hem
 rcases hem with ⟨e, hem, rfl⟩ | hem
 ·exact hlt _ (he e hem hb)
 ·split at hem
  ·rename_i ht
   simp only [List.mem_toArray, List.mem_singleton] at hem
   subst hem
   exact hlt _ (hs (Nat.eq_of_beq_eq_true ht))
  ·simp at hem
theorem Ref2.back (R : Ref2 ops v π s t) {L L' : Array Bool} (hL : Alike ops.size π L L') {k : Nat} (h : k ∈ Region.ready .any v L') : ∃ i, π i = k ∧ i ∈ Region.ready .any ops L := by
 obtain ⟨hk, hd, o', ho', he⟩ := ready_spec (by rw [hL.2.1, R.size]) h
 rw [R.size] at hk
 obtain ⟨i, hi, rfl⟩ := R.sur k hk
 have ho : ops[i]? = some ops[i] := Array.getElem?_eq_getElem hi
 have hat := R.at_ i _ ho
 rw [ho'] at hat
 cases hat
 refine ⟨i, rfl, ready_of hL.1 ho (by rw [← hL.2.2 i hi]; exact hd) fun e hem hb => ?_⟩
 have h1 := he { e with on := π e.on } (by
  simp only [relabel, Array.mem_append, Array.mem_map]
  exact .inl ⟨e, hem, rfl⟩) hb
 have hlt : e.on < ops.size := Nat.lt_of_not_le fun hn => by
  have := R.out _ hn
  rw [Ds_out (by rw [hL.2.1]; exact this)] at h1
  cases h1
 rw [hL.2.2 _ hlt] at h1
 exact h1
theorem Ref2.wpOp (R : Ref2 ops v π s t) {i : Nat} (hi : i < ops.size) (K : Act → World → Prop) (a : Act) (w : World) : wpOp P v Q (π i) K a w = Go.wpOp P ops Q i K a w := by
 have ho : ops[i]? = some ops[i] := Array.getElem?_eq_getElem hi
 have hat := R.at_ i _ ho
 unfold Go.wpOp
 rw [hat, ho]
 simp only
 have hy : ∀ j, yielded v a.tmps (π j) = yielded ops a.tmps j := fun j => by
  unfold yielded
  by_cases hj : j < ops.size
  ·have hoj : ops[j]? = some ops[j] := Array.getElem?_eq_getElem hj
   rw [R.at_ j _ hoj, hoj]
   rfl
  ·have h1 : v[π j]? = none := Array.getElem?_eq_none (by rw [R.size]; exact R.out _ (by omega))
   have h2 : ops[j]? = none := Array.getElem?_eq_none (by omega)
   rw [h1, h2]
 have hw : Region.wanted (relabel π (Nat.beq i t) (π s) ops[i]) (yielded v a.tmps) = Region.wanted ops[i] (yielded ops a.tmps) := by
  unfold Region.wanted relabel
  simp only
  cases hg : ops[i].guard with
  | none => rfl
  | some g => obtain ⟨j, b⟩ := g; simp only [Option.map_some, hy]
 rw [hw]
 rfl
def Sched (ops : Array Oper) : Array Bool → List Nat → Prop
 | L, [] => Region.ready .any ops L = []
 | L, i :: σ => i ∈ Region.ready .any ops L ∧ Sched ops (L.setIfInBounds i true) σ
theorem sched_ops : ∀ (σ : List Nat) (fuel : Nat) (L : Array Bool) (a : Act) (w : World), wpAny P .any ops Q fuel L a w → Sched ops L σ → wpOps P ops Q σ a w := by
 intro σ
 induction σ with
 | nil =>
  intro fuel L a w h hs
  cases fuel with
  | zero => exact h.2
  | succ n => exact h.1 hs
 | cons i σ ih =>
  intro fuel L a w h hs
  cases fuel with
  | zero =>
   have h1 := h.1
   have h2 := hs.1
   rw [h1] at h2; cases h2
  | succ n =>
   rw [wpOps_cons]
   exact wpOp_mono (fun a' w' h' => ih n _ a' w' h' hs.2) (h.2 i hs.1)
theorem sched_lin : ∀ (fuel t : Nat) (L : Array Bool), (L.toList.countP fun x => !x) ≤ fuel → L.size = ops.size → Sched ops L (Region.linearise.go .any ops fuel t L []) := by
 intro fuel
 induction fuel with
 | zero =>
  intro t L hc hsz
  simp only [Region.linearise.go, List.reverse_nil, Sched]
  apply List.eq_nil_iff_forall_not_mem.2
  intro i hi
  obtain ⟨h1, h2, _⟩ := ready_spec hsz hi
  have hL : L.toList[i]? = some false := by
   unfold Ds at h2
   rw [Array.getD_eq_getD_getElem?, Array.getElem?_eq_getElem (by omega)] at h2
   simp only [Option.getD_some] at h2
   rw [Array.getElem?_toList, Array.getElem?_eq_getElem (by omega), h2]
  have := count_set _ _ hL
  omega
 | succ n ih =>
  intro t L hc hsz
  simp only [Region.linearise.go]
  change Sched ops L (match (Region.ready .any ops L)[t % (Region.ready .any ops L).length]? with
   | some i => Region.linearise.go .any ops n (t / (Region.ready .any ops L).length) (L.setIfInBounds i true) [i]
   | none => ([] : List Nat).reverse)
  cases hr : (Region.ready .any ops L)[t % (Region.ready .any ops L).length]? with
  | none =>
   simp only [List.reverse_nil, Sched]
   cases hl : Region.ready .any ops L with
   | nil => rfl
   | cons x l =>
    rw [hl] at hr
    have : t % (x :: l).length < (x :: l).length := Nat.mod_lt _ (by simp)
    rw [List.getElem?_eq_getElem this] at hr
    cases hr
  | some i =>
   simp only
   rw [linearise_go_acc]
   have hi := List.mem_of_getElem? hr
   obtain ⟨h1, h2, _⟩ := ready_spec hsz hi
   have hL : L.toList[i]? = some false := by
    unfold Ds at h2
    rw [Array.getD_eq_getD_getElem?, Array.getElem?_eq_getElem (by omega)] at h2
    simp only [Option.getD_some] at h2
    rw [Array.getElem?_toList, Array.getElem?_eq_getElem (by omega), h2]
   have hcnt := count_set _ _ hL
   refine ⟨hi, ih _ _ ?_ (by simp [hsz])⟩
   rw [Array.toList_setIfInBounds]
   omega
theorem Alike.set {n : Nat} {L L' : Array Bool} (hL : Alike n π L L') (hlt : ∀ i, i < n → π i < n) (hinj : ∀ i j, i < n → j < n → π i = π j → i = j) {i : Nat} (hi : i < n) : Alike n π (L.setIfInBounds i true) (L'.setIfInBounds (π i) true) := by
 refine ⟨by simp [hL.1], by simp [hL.2.1], fun j hj => ?_⟩
 rw [Ds_set (listed := L) (by rw [hL.1]; exact hi), Ds_set (listed := L') (by rw [hL.2.1]; exact hlt i hi), hL.2.2 j hj]
 by_cases hji : j = i
 ·subst hji; simp
 ·have : ¬ π j = π i := fun h => hji (hinj j i hj hi h)
  simp only [beq_false_of_ne hji, beq_false_of_ne this]
theorem Ref2.sched (R : Ref2 ops v π s t) : ∀ (σ : List Nat) (L L' : Array Bool), Alike ops.size π L L' → Sched ops L σ → (∀ p q, σ = p ++ t :: q → Ds L s = true ∨ s ∈ p) → Sched v L' (σ.map π) ∧ ∀ i ∈ σ, i < ops.size := by
 intro σ
 induction σ with
 | nil =>
  intro L L' hL hs _
  refine ⟨?_, fun i hi => by cases hi⟩
  simp only [List.map_nil, Sched]
  apply List.eq_nil_iff_forall_not_mem.2
  intro k hk
  obtain ⟨i, _, hi⟩ := R.back hL hk
  have hs : Region.ready .any ops L = [] := hs
  rw [hs] at hi
  cases hi
 | cons i σ ih =>
  intro L L' hL hs hc
  obtain ⟨hi, _, _⟩ := ready_spec hL.1 hs.1
  obtain ⟨h1, h2⟩ := ih _ _ (hL.set R.lt R.inj hi) hs.2 fun p q e => by
   rcases hc (i :: p) q (by rw [e]; rfl) with h | h
   ·left
    rw [Ds_set (by rw [hL.1]; exact hi), h]; rfl
   ·simp only [List.mem_cons] at h
    rcases h with h | h
    ·left
     subst h
     rw [Ds_set (by rw [hL.1]; exact hi)]; simp
    ·exact .inr h
  refine ⟨⟨R.ready hL hs.1 fun e => ?_, h1⟩, fun j hj => ?_⟩
  ·rcases hc [] σ (by rw [e]; rfl) with h | h
   ·exact h
   ·cases h
  ·simp only [List.mem_cons] at hj
   rcases hj with rfl | hj
   ·exact hi
   ·exact h2 j hj
theorem Ref2.wpOps (R : Ref2 ops v π s t) : ∀ (σ : List Nat), (∀ i ∈ σ, i < ops.size) → ∀ a w, wpOps P v Q (σ.map π) a w → Go.wpOps P ops Q σ a w := by
 intro σ
 induction σ with
 | nil => intro _ a w h; exact h
 | cons i σ ih =>
  intro hs a w h
  rw [List.map_cons, wpOps_cons] at h
  rw [wpOps_cons]
  rw [R.wpOp (hs i (by simp))] at h
  exact wpOp_mono (fun a' w' h' => ih (fun j hj => hs j (by simp [hj])) a' w' h') h
def Runs (P : Program) (ops : Array Oper) (Q : Exit → Act → World → Prop) (a : Act) (w : World) : Prop := ∀ σ, Sched ops (Array.replicate ops.size false) σ → wpOps P ops Q σ a w
theorem Runs.of_any {a : Act} {w : World} (h : wpAny P .any ops Q ops.size (Array.replicate ops.size false) a w) : Runs P ops Q a w := fun σ hs => sched_ops σ _ _ a w h hs
theorem Ds_none (n k : Nat) : Ds (Array.replicate n false) k = false := by
 unfold Ds
 simp [Array.getD_eq_getD_getElem?, Array.getElem?_replicate]
 split <;> rfl
theorem Runs.split {v2 : Array Oper} {π2 : Nat → Nat} {a : Act} {w : World} (hne : s ≠ t) (R1 : Ref2 ops v π s t) (R2 : Ref2 ops v2 π2 t s) (h1 : Runs P v Q a w) (h2 : Runs P v2 Q a w) : Runs P ops Q a w := by
 intro σ hs
 have hA : ∀ (π : Nat → Nat) (v : Array Oper), v.size = ops.size → Alike ops.size π (Array.replicate ops.size false) (Array.replicate v.size false) := fun π v hv => ⟨by simp, by simp [hv], fun i hi => by rw [Ds_none, Ds_none]⟩
 by_cases hc : ∀ p q, σ = p ++ t :: q → Ds (Array.replicate ops.size false) s = true ∨ s ∈ p
 ·obtain ⟨q1, q2⟩ := R1.sched σ _ _ (hA π v R1.size) hs hc
  exact R1.wpOps σ q2 a w (h1 _ q1)
 ·have hc2 : ∀ p q, σ = p ++ s :: q → Ds (Array.replicate ops.size false) t = true ∨ t ∈ p := by
   simp only [Classical.not_forall, not_or] at hc
   obtain ⟨p, q, e, _, hsp⟩ := hc
   intro p' q' e'
   right
   have hcut : p ++ t :: q = p' ++ s :: q' := by rw [← e, e']
   rcases Nat.lt_trichotomy p.length p'.length with hlt | heq | hgt
   ·have h1 : (p ++ t :: q)[p.length]? = some t := by simp
    rw [hcut, List.getElem?_append_left hlt] at h1
    exact List.mem_of_getElem? h1
   ·have h1 : (p ++ t :: q)[p.length]? = some t := by simp
    rw [hcut, heq] at h1
    simp at h1
    exact absurd h1 hne
   ·have h1 : (p' ++ s :: q')[p'.length]? = some s := by simp
    rw [← hcut, List.getElem?_append_left hgt] at h1
    exact absurd (List.mem_of_getElem? h1) hsp
  obtain ⟨q1, q2⟩ := R2.sched σ _ _ (hA π2 v2 R2.size) hs hc2
  exact R2.wpOps σ q2 a w (h2 _ q1)
theorem wp_region_runs {id : Nat} {a : Act} {w : World} (hm : P.follows .mixedOrders = true) (h : Runs P ops Q a { w with drawn := w.drawn + 1 }) : (Code.region id ops true).wp P Q a w :=
 wp_region_draw fun t => by
  simp only [Region.schedule, hm, Bool.true_or, if_true]
  refine h _ (sched_lin ops.size t _ ?_ (by simp))
  refine Nat.le_trans List.countP_le_length ?_
  simp
end cover
def effs (P : Program) (ops : Array Oper) : List Nat := (List.range ops.size).filter fun i => match ops[i]? with
 | some o => isEff P o.op
 | none => false
def firstLoose (b : Array Nat) : List Nat → Option (Nat × Nat)
 | [] => none
 | i :: l => match l.find? (fun j => !(b.getD j 0).testBit i) with
  | some j => some (i, j)
  | none => firstLoose b l
def moved (n : Nat) (b : Array Nat) (i j : Nat) : List Nat :=
 let up := fun k => Nat.beq k j || (b.getD j 0).testBit k
 (List.range i) ++ ((List.range n).filter fun k => Nat.ble i k && up k) ++ ((List.range n).filter fun k => Nat.ble i k && !up k)
def turnsOf (P : Program) : Nat → Array Oper → List (Array Oper)
 | 0, ops => [ops]
 | n + 1, ops => match effs P ops with
  | [] => [ops]
  | [_] => [ops]
  | l => match firstLoose (Region.before ops) l with
   | none => [ops]
   | some (i, j) => match permOk (List.range ops.size) ops.size && (permOk (moved ops.size (Region.before ops) i j) ops.size && !Nat.beq i j) with
    | true => turnsOf P n (permOps ops (List.range ops.size) i j) ++ turnsOf P n (permOps ops (moved ops.size (Region.before ops) i j) j i)
    | false => [ops]
theorem firstLoose_none {b : Array Nat} : ∀ {l : List Nat}, l.Pairwise (fun i j => (b.getD j 0).testBit i = true) → firstLoose b l = none
 | [], _ => rfl
 | i :: l, h => by
  rw [List.pairwise_cons] at h
  rw [firstLoose]
  have : l.find? (fun j => !(b.getD j 0).testBit i) = none := List.find?_eq_none.2 fun j hj => by rw [h.1 j hj]; simp
  rw [this]
  exact firstLoose_none h.2
theorem turns_one {P : Program} {ops : Array Oper} {n : Nat} (h : looseOk P ops (Region.before ops) = true) : turnsOf P n ops = [ops] := by
 cases n with
 | zero => rfl
 | succ n =>
  rw [turnsOf]
  have hp : (effs P ops).Pairwise (fun i j => ((Region.before ops).getD j 0).testBit i = true) := by
   have h1 : (effs P ops).Pairwise (fun i j => i < j) := List.Pairwise.filter _ List.pairwise_lt_range
   have h2 : ∀ i ∈ effs P ops, ∃ o, ops[i]? = some o ∧ isEff P o.op = true := fun i hi => by
    simp only [effs, List.mem_filter] at hi
    obtain ⟨_, hi⟩ := hi
    split at hi
    ·rename_i o ho; exact ⟨o, ho, hi⟩
    ·cases hi
   refine (List.Pairwise.and_mem.1 h1).imp fun {i j} hij => ?_
   obtain ⟨hi, hj, hlt⟩ := hij
   obtain ⟨x, hx, ex⟩ := h2 i hi
   obtain ⟨y, hy, ey⟩ := h2 j hj
   cases hb : ((Region.before ops).getD j 0).testBit i with
   | true => rfl
   | false => exact absurd ⟨ex, ey⟩ (loose_spec h hlt hx hy (by rw [hb]; simp)).2.2
  split
  ·rfl
  ·rfl
  ·rw [firstLoose_none hp]
theorem turns_runs {P : Program} {Q : Exit → Act → World → Prop} {a : Act} {w : World} : ∀ (n : Nat) (ops : Array Oper), (∀ v ∈ turnsOf P n ops, Runs P v Q a w) → Runs P ops Q a w := by
 intro n
 induction n with
 | zero => intro ops h; exact h ops (by simp [turnsOf])
 | succ n ih =>
  intro ops h
  rw [turnsOf] at h
  split at h
  ·exact h ops (by simp)
  ·exact h ops (by simp)
  ·split at h
   ·exact h ops (by simp)
   ·rename_i i j _
    split at h
    ·rename_i hc
     simp only [Bool.and_eq_true, Bool.not_eq_true'] at hc
     have hne : i ≠ j := fun e => by
      subst e
      rw [nbeq_yes rfl] at hc
      exact absurd hc.2.2 (by simp)
     exact Runs.split hne (perm_ref hc.1) (perm_ref hc.2.1) (ih _ fun v hv => h v (List.mem_append_left _ hv)) (ih _ fun v hv => h v (List.mem_append_right _ hv))
    ·exact h ops (by simp)
end Go.Vx
end
section
set_option linter.unusedVariables false
set_option linter.unusedSimpArgs false
namespace Go.Vx
def Out.ex : Out → Exit
 | .norm => .normal
 | .exit id => .exit id
 | .ret => .ret
section exec
variable {P : Program} {cl : Caller}
def Ahead (P : Program) (β : At) (H : Heap) (w : World) (a : Act) (e : Exit) (m' : Tm) (H' : Heap) (Q : Exit → Act → World → Prop) : Prop :=
 ∀ β' a' w', Rel β' H' w' → Le β H w β' H' w' → TRel H'.n β' m' a'.tmps → a'.defers = a.defers → Q e a' w'
theorem exec_sound (hm : P.follows .mixedOrders = true) (hcl : CallOk P cl) : ∀ (n : Nat),
  (∀ (c : Code) {m : Tm} {H : Heap} {o : Out} {m' : Tm} {H' : Heap}, execA P cl n c m H = some (o, m', H') → ∀ {a : Act} {β : At} {w : World}, Rel β H w → TRel H.n β m a.tmps →
   ∀ {Q : Exit → Act → World → Prop}, Ahead P β H w a o.ex m' H' Q → c.wp P Q a w) ∧
  (∀ (b : Code) {m : Tm} {H : Heap} {o : Out} {m' : Tm} {H' : Heap}, execA P cl n (.loop b) m H = some (o, m', H') → ∃ k, ∀ {a : Act} {β : At} {w : World}, Rel β H w → TRel H.n β m a.tmps →
   ∀ {Q : Exit → Act → World → Prop}, Ahead P β H w a o.ex m' H' Q → Code.rounds P b Q k a w)
 | 0 => by
  constructor
  ·intro c m H o m' H' h; simp only [execA] at h; cases h
  ·intro c m H o m' H' h; simp only [execA] at h; cases h
 | n + 1 => by
  obtain ⟨ih, ihl⟩ := exec_sound hm hcl n
  have hloop : ∀ (b : Code) {m : Tm} {H : Heap} {o : Out} {m' : Tm} {H' : Heap}, execA P cl (n + 1) (.loop b) m H = some (o, m', H') → ∃ k, ∀ {a : Act} {β : At} {w : World}, Rel β H w → TRel H.n β m a.tmps →
    ∀ {Q : Exit → Act → World → Prop}, Ahead P β H w a o.ex m' H' Q → Code.rounds P b Q k a w := by
   intro b m H o m' H' h
   simp only [execA] at h
   split at h
   ·rename_i m1 H1 h1
    obtain ⟨k, hk⟩ := ihl b h
    refine ⟨k + 1, fun {a β w} hR hT {Q} hQ => ?_⟩
    rw [rounds_succ]
    refine ih b h1 hR hT fun β' a' w' hR' hLe' hT' hd' => ?_
    exact hk hR' hT' fun β2 a2 w2 hR2 hLe2 hT2 hd2 => hQ β2 a2 w2 hR2 (hLe'.trans hLe2) hT2 (hd2.trans hd')
   ·rename_i hne
    refine ⟨1, fun {a β w} hR hT {Q} hQ => ?_⟩
    rw [rounds_succ]
    refine ih b h hR hT fun β' a' w' hR' hLe' hT' hd' => ?_
    have hq := hQ β' a' w' hR' hLe' hT' hd'
    cases o with
    | norm => exact absurd h (hne m' H')
    | exit id => exact hq
    | ret => exact hq
  refine ⟨fun c => ?_, hloop⟩
  intro m H o m' H' h a β w hR hT Q hQ
  cases c with
  | skip =>
   simp only [execA, Option.some.injEq, Prod.mk.injEq] at h
   obtain ⟨rfl, rfl, rfl⟩ := h
   exact wp_skip (hQ β a w hR (Le.refl _ _ _) hT rfl)
  | label l =>
   simp only [execA, Option.some.injEq, Prod.mk.injEq] at h
   obtain ⟨rfl, rfl, rfl⟩ := h
   exact wp_label (hQ β a w hR (Le.refl _ _ _) hT rfl)
  | exit id =>
   simp only [execA, Option.some.injEq, Prod.mk.injEq] at h
   obtain ⟨rfl, rfl, rfl⟩ := h
   exact wp_exit (hQ β a w hR (Le.refl _ _ _) hT rfl)
  | ret =>
   simp only [execA, Option.some.injEq, Prod.mk.injEq] at h
   obtain ⟨rfl, rfl, rfl⟩ := h
   exact wp_ret (hQ β a w hR (Le.refl _ _ _) hT rfl)
  | region id ops draw =>
   simp only [execA] at h
   obtain ⟨⟨m1, H1⟩, h1, he⟩ := map_some h
   simp only [Prod.mk.injEq] at he
   obtain ⟨rfl, rfl, rfl⟩ := he
   cases draw with
   | true =>
    rw [if_pos rfl] at h1
    exact draw_sound hcl hm h1 hR hT hQ
   | false =>
    rw [if_neg (by simp)] at h1
    exact wp_region_list (ops_sound hcl h1 hR hT hQ)
  | seq x y =>
   simp only [execA] at h
   split at h
   ·rename_i m1 H1 h1
    refine wp_seq (ih x h1 hR hT fun β' a' w' hR' hLe' hT' hd' => ?_)
    exact ih y h hR' hT' fun β2 a2 w2 hR2 hLe2 hT2 hd2 => hQ β2 a2 w2 hR2 (hLe'.trans hLe2) hT2 (hd2.trans hd')
   ·rename_i hne
    refine wp_seq (ih x h hR hT fun β' a' w' hR' hLe' hT' hd' => ?_)
    have hq := hQ β' a' w' hR' hLe' hT' hd'
    cases o with
    | norm => exact absurd h (hne m' H')
    | exit id => exact hq
    | ret => exact hq
  | cond x t f =>
   simp only [execA] at h
   split at h
   ·rename_i hx
    have hv := opnd_sound hT hx
    exact wp_cond_true (bool_of hv) (ih t h hR (hT.coolX hx) hQ)
   ·rename_i hx
    have hv := opnd_sound hT hx
    exact wp_cond_false (bool_of hv) (ih f h hR (hT.coolX hx) hQ)
   ·cases h
  | block id b =>
   simp only [execA] at h
   split at h
   ·rename_i id' m1 H1 h1
    split at h
    ·rename_i hid
     cases h
     refine wp_block (ih b h1 hR hT fun β' a' w' hR' hLe' hT' hd' => ?_)
     show (if id' = id then Q .normal a' w' else Q (.exit id') a' w')
     rw [if_pos hid]
     exact hQ β' a' w' hR' hLe' hT' hd'
    ·rename_i hid
     cases h
     refine wp_block (ih b h1 hR hT fun β' a' w' hR' hLe' hT' hd' => ?_)
     show (if id' = id then Q .normal a' w' else Q (.exit id') a' w')
     rw [if_neg hid]
     exact hQ β' a' w' hR' hLe' hT' hd'
   ·rename_i hne
    refine wp_block (ih b h hR hT fun β' a' w' hR' hLe' hT' hd' => ?_)
    have hq := hQ β' a' w' hR' hLe' hT' hd'
    cases o with
    | norm => exact hq
    | exit id' => exact absurd h (hne id' m' H')
    | ret => exact hq
  | loop b =>
   obtain ⟨k, hk⟩ := hloop b h
   exact wp_loop_rounds k (hk hR hT hQ)
  | _ => simp only [execA] at h; cases h
def resOp (tmps : Array Value) : ResultVar → Sem Value
 | .tmp t => pure (tmps.getD t undef)
 | .cell a t => do loadVar t (← asAddr (tmps.getD a undef))
theorem res_sound {β : At} {H : Heap} {w : World} {m : Tm} {a : Act} (hR : Rel β H w) (hT : TRel H.n β m a.tmps) : ∀ {l : List ResultVar} {vs : List AV}, resA P m H l = some vs →
  ∃ cs : List Value, (l.mapM (resOp a.tmps)).run P w = .ok cs w ∧ VsRel H.n β vs cs
 | [], vs, h => by
  simp only [resA, Option.some.injEq] at h
  subst h
  exact ⟨[], rfl, .nil⟩
 | .tmp t :: l, vs, h => by
  simp only [resA] at h
  split at h
  ·rename_i v vs' hv hvs
   cases h
   obtain ⟨cs, hcs, hr⟩ := res_sound hR hT hvs
   obtain ⟨c, hc, hrc⟩ := hT.2 t v hv
   refine ⟨c :: cs, ?_, .cons _ _ _ _ hrc hr⟩
   have hg : resOp a.tmps (.tmp t) = pure c := by simp [resOp, Array.getD_eq_getD_getElem?, hc]
   rw [List.mapM_cons]
   simp only [hg, pure_bind, Sem.run_bind, hcs, Result.andThen_ok, Sem.run_pure]
  ·cases h
 | .cell ad t :: l, vs, h => by
  simp only [resA] at h
  split at h
  ·rename_i r hr0
   split at h
   ·rename_i v vs' hv hvs
    cases h
    obtain ⟨cs, hcs, hr⟩ := res_sound hR hT hvs
    obtain ⟨c, hc, hrc⟩ := hT.2 ad _ hr0
    obtain ⟨d, hd, hrd⟩ := loadV_sound hR hrc hv
    refine ⟨d :: cs, ?_, .cons _ _ _ _ hrd hr⟩
    have hg : (resOp a.tmps (.cell ad t)).run P w = .ok d w := by
     simp only [resOp, Array.getD_eq_getD_getElem?, hc, Option.getD_some]
     cases hrc
     rw [← hd]
     rfl
    rw [List.mapM_cons]
    simp only [Sem.run_bind, hg, hcs, Result.andThen_ok, Sem.run_pure]
   ·cases h
  ·cases h
theorem results_sound {β : At} {H : Heap} {w : World} {m : Tm} {a : Act} (hR : Rel β H w) (hT : TRel H.n β m a.tmps) {fn : Func} {vs : List AV} (h : resA P m H fn.results.toList = some vs) :
  ∃ c, (results fn a.tmps).run P w = .ok c w ∧ VRel H.n β (pack vs) c := by
 obtain ⟨cs, hcs, hr⟩ := res_sound hR hT h
 have hrun : (results fn a.tmps).run P w = .ok (if h : cs.toArray.size = 1 then cs.toArray[0] else .tuple cs.toArray) w := by
  have : results fn a.tmps = (fn.results.mapM (resOp a.tmps)) >>= fun vs => pure (if h : vs.size = 1 then vs[0] else .tuple vs) := rfl
  rw [this, Array.mapM_eq_mapM_toList]
  simp only [Sem.run_bind, Sem.run_map, hcs, Result.andThen_ok, Sem.run_pure]
 refine ⟨_, hrun, ?_⟩
 cases vs with
 | nil => cases hr; exact .tup _ _ .nil
 | cons v vs =>
  cases hr with
  | cons _ _ _ _ h1 h2 =>
   cases vs with
   | nil => cases h2; exact h1
   | cons v2 vs =>
    cases h2 with
    | cons _ _ _ _ h3 h4 =>
     rw [dif_neg (by simp)]
     exact .tup _ _ (.cons _ _ _ _ h1 (.cons _ _ _ _ h3 h4))
theorem get_argsT : ∀ (l : List AV) (k : Nat) (t : Trie AV) (i : Nat), (argsT k l t).get i = if k ≤ i ∧ i < k + l.length then l[i - k]? else t.get i
 | [], k, t, i => by
  simp only [argsT, List.length_nil, Nat.add_zero]
  rw [if_neg (by omega)]
 | v :: l, k, t, i => by
  simp only [argsT, get_argsT l (k + 1), Trie.get_set, List.length_cons]
  by_cases e : i = k
  ·subst e
   rw [if_neg (by omega), if_pos rfl, if_pos (by omega)]
   simp
  ·by_cases h : k + 1 ≤ i ∧ i < k + 1 + l.length
   ·rw [if_pos h, if_pos (by omega)]
    have : i - k = (i - (k + 1)) + 1 := by omega
    rw [this, List.getElem?_cons_succ]
   ·rw [if_neg h, if_neg e, if_neg (by omega)]
theorem start_sound {N n : Nat} {β : At} {args : List AV} {cargs : Array Value} (h : VsRel N β args cargs.toList) (hl : args.length ≤ n) :
  TRel N β (startM n args) (cargs ++ Array.replicate (n - cargs.size) undef) := by
 have hlen : args.length = cargs.size := by rw [h.length]; simp
 refine ⟨by simp [startM]; omega, fun i v hv => ?_⟩
 simp only [Tm.get, startM, get_argsT, Nat.zero_le, true_and, Nat.zero_add, Nat.sub_zero, Trie.get_leaf] at hv
 split at hv
 ·rename_i hi
  obtain ⟨c, hc, hr⟩ := h.at i v hv
  refine ⟨c, ?_, hr⟩
  rw [Array.getElem?_append_left (by omega)]
  simpa using hc
 ·cases hv
theorem body_sound (hm : P.follows .mixedOrders = true) (hcl : CallOk P cl) {n : Nat} {f : FuncId} {fn : Func} {c : Code} (hf : P.funcs[f]? = some fn) (hb : fn.body = some c) {args : List AV} {H H' : Heap} {v : AV}
  (h : bodyA P cl n fn c args H = some (v, H')) {β : At} {w : World} {cargs : Array Value} (hR : Rel β H w) (ha : VsRel H.n β args cargs.toList) :
  Calls P f cargs w fun e w' => ∃ β' d, e = .returned d ∧ Rel β' H' w' ∧ Le β H w β' H' w' ∧ VRel H'.n β' v d := by
 unfold bodyA at h
 split at h
 ·rename_i hl
  refine calls_of_wp hf hb ?_
  split at h
  ·rename_i m H1 he
   obtain ⟨vs, hvs, he2⟩ := map_some h
   simp only [Prod.mk.injEq] at he2
   obtain ⟨rfl, rfl⟩ := he2
   refine (exec_sound hm hcl n).1 c he hR (start_sound ha hl) fun β' a' w' hR' hLe' hT' hd' => ?_
   obtain ⟨d, hd, hrd⟩ := results_sound hR' hT' hvs
   exact ⟨hd', d, hd, β', d, rfl, hR', hLe', hrd⟩
  ·rename_i m H1 he
   obtain ⟨vs, hvs, he2⟩ := map_some h
   simp only [Prod.mk.injEq] at he2
   obtain ⟨rfl, rfl⟩ := he2
   refine (exec_sound hm hcl n).1 c he hR (start_sound ha hl) fun β' a' w' hR' hLe' hT' hd' => ?_
   obtain ⟨d, hd, hrd⟩ := results_sound hR' hT' hvs
   exact ⟨hd', d, hd, β', d, rfl, hR', hLe', hrd⟩
  ·cases h
 ·cases h
end exec
end Go.Vx
end
section
set_option linter.unusedVariables false
set_option linter.unusedSimpArgs false
namespace Go.Vx
def Kept (w w' : World) : Prop := w.keptBut w' (fun _ => False) ∧ (∀ a : Addr, a.block < w.heap.size → w'.frozen? a = w.frozen? a) ∧ w.heap.size ≤ w'.heap.size
theorem Kept.frame {w w' : World} (h : Kept w w') (may : MemPlace → Prop) : w.keptBut w' may := World.keptBut_mono (fun _ f => f.elim) h.1
theorem Kept.cell {w w' : World} (h : Kept w w') {a : Addr} {v : Value} (hc : w.cell? a = some v) : w'.cell? a = some v := by
 have hlt : a.block < w.heap.size := by
  unfold World.cell? at hc
  cases hb : w.heap[a.block]? with
  | none => simp [hb] at hc
  | some o => exact (Array.getElem?_eq_some_iff.mp hb).1
 have := h.1.2.2 a.block hlt
 unfold World.cell? at hc ⊢
 cases hb : w.heap[a.block]? with
 | none => simp [hb] at hc
 | some o =>
  cases hb' : w'.heap[a.block]? with
  | none => rw [hb, hb'] at this; cases o <;> simp at this
  | some o' =>
   rw [hb] at hc
   rw [hb, hb'] at this
   cases o <;> cases o' <;> simp at this hc ⊢
   ·obtain ⟨rfl, rfl, h1, h2⟩ := this
    exact ⟨hc.1, by rw [h2]; exact hc.2⟩
theorem kept_of_le {β β' : At} {H H' : Heap} {w w' : World} (hro : ∀ g cs e, H.row g ≠ some (cs, e, false)) (h : Le β H w β' H' w') : Kept w w' := by
 have hsame : ∀ k, k < w.heap.size → w'.heap[k]? = w.heap[k]? := fun k hk => h.blocks k hk fun ⟨g, b, cs, e, _, h2, _⟩ => hro g cs e h2
 refine ⟨⟨h.os, h.output, fun i hi => ?_⟩, fun a ha => ?_, h.size⟩
 ·rw [hsame i hi]
  split
  ·rename_i h1 h2
   rw [h1] at h2
   simp only [Option.some.injEq, Obj.cells.injEq] at h2
   obtain ⟨rfl, rfl, rfl⟩ := h2
   exact ⟨rfl, rfl, rfl, fun _ _ => rfl⟩
  ·rename_i h1 h2
   rw [h1] at h2
   simp only [Option.some.injEq, Obj.map.injEq] at h2
   obtain ⟨rfl, rfl⟩ := h2
   exact .inr ⟨rfl, rfl⟩
  ·rfl
 ·simp only [World.frozen?, hsame a.block ha]
theorem rel_empty (w : World) (i : Nat → Nat → Option Value) (hi : ∀ b o c, i b o = some c → w.cell? ⟨b, o, none⟩ = some c) (hg : GlobOk i) (hT : TabsOk i w) : Rel ⟨fun _ => none, i⟩ Heap.empty w where
 lies := fun g b h => by cases h
 tot := fun g cs e ro h => by simp [Heap.empty, Heap.row, Heap.get, Trie.get_leaf] at h
 fresh := fun g o h => by simp [Heap.empty, Heap.row, Heap.get, Trie.get_leaf] at h
 apart := fun g g' b b' cs e _ h => by cases h
 immw := hi
 immm := fun b o c hc hm => by obtain ⟨_, _, _, _, h, _⟩ := hm; cases h
 glob := hg
 tab := hT
 typ := fun g b cs e h => by cases h
 fro := fun g t l e b h => by simp [Heap.empty, Heap.get, Trie.get_leaf] at h
def isTrue (r : Option (AV × Heap)) : Bool :=
 match r with
 | some (.bool _ true, _) => true
 | _ => false
open Go.ChangeShapes in
theorem post_kept {P : Program} {H : Type} {enc : TypeId × Value → H} {f : Func} {s : ChangeSpec} {apart fresh handsOn again : Bool} {W W' : World} {args : Array Value} {v : Value} {ds gs : List (DataW H)} {before pa pv : List MemPlace}
  (hW : DataW.Whole enc P f.params.toList s.vars apart W args.toList ds gs before)
  (hres : ∀ (b : Nat) (sp : Nat → Bool) (hd : Bool), DataW.TrodAll enc P W' b sp hd f.resultTypes.toList (v.resultList f.resultTypes.size) (s.fn H (ds ++ gs)).results [])
  (hargs : ∀ sp : Nat → Bool, (∀ p ∈ before, sp p.block = true) → DataW.TrodAll enc P W' 0 sp true f.params.toList args.toList (s.fn H (ds ++ gs)).args pa)
  (hvars : ∀ sp : Nat → Bool, (∀ p ∈ before, sp p.block = true) → DataW.TrodVars enc P W' sp s.vars (s.fn H (ds ++ gs)).vars pv)
  (hps : before = pa ++ pv) (hg : Kept W W')
  (hok : ∀ (j : Nat) (t : TypeId) (r : Value), f.resultTypes[j]? = some t → (v.resultList f.resultTypes.size)[j]? = some r → Value.okWide P W' .any 0 t r) :
  s.post enc P f apart fresh handsOn again W args v W' := by
 have hold : ∀ p ∈ before, (fun b => decide (b < W.heap.size)) p.block = true := fun p hp => by simpa using hW.lt p hp
 have hlt := hW.lt
 refine ⟨ds, gs, before, [], pa, pv, hW, hres _ _ _, hargs _ hold, hvars _ hold, World.keptBut_mono (fun _ f => f.elim) hg.1, fun _ => ?_⟩
 obtain ⟨_, _, _, _, _, hz, hn⟩ := hW
 refine ⟨hok, _, _, ([] ++ pa) ++ pv, ⟨[] ++ pa, pv, trodAll_append (hargs _ (fun _ _ => rfl)) (hres _ _ _), hvars _ (fun _ _ => rfl), rfl, ?_, ?_⟩, ?_⟩
 ·intro b off hp
  have hp' : MemPlace.cell b off ∈ before := by rw [hps]; simpa using hp
  rw [hg.2.1 _ (hlt _ hp')]
  exact hz b off hp'
 ·intro ha
  have := hn ha
  rw [hps] at this
  simpa using this
 ·intro p hp _
  rw [hps]
  simpa using hp
end Go.Vx
end
section
set_option linter.unusedVariables false
set_option linter.unusedSimpArgs false
namespace Go.Vx
def need (t : Bool) (c : Prop) [d : Decidable c] (p : Prop) : Prop := bif t then c ∧ p else match d with
 | .isTrue _ => p
 | .isFalse _ => False
theorem need_elim {t : Bool} {c : Prop} [d : Decidable c] {p : Prop} (h : need t c p) : c ∧ p := by
 unfold need at h
 cases t with
 | true => exact h
 | false =>
  cases d with
  | isTrue hc => exact ⟨hc, h⟩
  | isFalse hc => exact h.elim
def fork (t b : Bool) (x y : Prop) : Prop := bif t then (b = true → x) ∧ (b = false → y) else match b with
 | true => x
 | false => y
theorem fork_elim {t b : Bool} {x y : Prop} (h : fork t b x y) : (b = true ∧ x) ∨ (b = false ∧ y) := by
 unfold fork at h
 cases t with
 | true =>
  cases b with
  | true => exact .inl ⟨rfl, h.1 rfl⟩
  | false => exact .inr ⟨rfl, h.2 rfl⟩
 | false =>
  cases b with
  | true => exact .inl ⟨rfl, h⟩
  | false => exact .inr ⟨rfl, h⟩
def must {α : Type} (x : Option α) (k : α → Prop) : Prop := match x with
 | some v => k v
 | none => False
theorem must_elim {α : Type} {x : Option α} {k : α → Prop} (h : must x k) : ∃ v, x = some v ∧ k v := by
 cases x with
 | none => exact h.elim
 | some v => exact ⟨v, rfl, h⟩
def intsOf (k : IntKind) : List AV → Option (List Int)
 | [] => some []
 | .int _ k' n :: l => if k = k' then (intsOf k l).map (n :: ·) else none
 | _ :: _ => none
def strsOf : List AV → Option (List (List UInt8))
 | [] => some []
 | .str _ s :: l => (strsOf l).map (s :: ·)
 | _ :: _ => none
def boolsOf : List AV → Option (List Bool)
 | [] => some []
 | .bool _ s :: l => (boolsOf l).map (s :: ·)
 | _ :: _ => none
def decBoolS (l : List AV) (k : Bool → List AV → Prop) : Prop := match l with
 | .bool _ b :: l => k b l
 | _ => False
def decIntS (kd : IntKind) (l : List AV) (k : Int → List AV → Prop) : Prop := match l with
 | .int _ k' n :: l => if kd = k' then k n l else False
 | _ => False
def decByteS (l : List AV) (k : UInt8 → List AV → Prop) : Prop := match l with
 | .int t k' n :: l => if k' = .u8 then need t (0 ≤ n ∧ n < 256) (k (UInt8.ofNat n.toNat) l) else False
 | _ => False
def decStrS (l : List AV) (k : List UInt8 → List AV → Prop) : Prop := match l with
 | .str _ s :: l => k s l
 | _ => False
def decSlS (t : Ty) (l : List AV) (k : List t.den → List AV → Prop) : Prop := match l with
 | .vec t' x :: l => if h : t' = t then k (h ▸ x) l else False
 | .slice _ r _ _ :: l => match r with
  | none => k [] l
  | some _ => False
 | _ => False
def decS : (t : Ty) → List AV → (t.den → List AV → Prop) → Prop
 | .bool, l, k => decBoolS l k
 | .int kd, l, k => decIntS kd l k
 | .byte, l, k => decByteS l k
 | .str, l, k => decStrS l k
 | .sl t, l, k => decSlS t l k
 | .unit, l, k => k () l
 | .pair a b, l, k => decS a l fun x l => decS b l fun y l => k (x, y) l
theorem decS_elim : (t : Ty) → {l : List AV} → {k : t.den → List AV → Prop} → decS t l k → ∃ x rest, dec t l = some (x, rest) ∧ k x rest
 | .bool, l, k, h => by
  simp only [decS] at h
  unfold decBoolS at h
  split at h
  ·exact ⟨_, _, rfl, h⟩
  ·exact h.elim
 | .int kd, l, k, h => by
  simp only [decS] at h
  unfold decIntS at h
  split at h
  ·split at h
   ·rename_i hk; exact ⟨_, _, by simp only [dec, decInt, if_pos hk], h⟩
   ·exact h.elim
  ·exact h.elim
 | .byte, l, k, h => by
  simp only [decS] at h
  unfold decByteS at h
  split at h
  ·split at h
   ·rename_i hk
    obtain ⟨h1, h2⟩ := need_elim h
    exact ⟨_, _, by simp only [dec, decByte, if_pos (And.intro hk h1)], h2⟩
   ·exact h.elim
  ·exact h.elim
 | .str, l, k, h => by
  simp only [decS] at h
  unfold decStrS at h
  split at h
  ·exact ⟨_, _, rfl, h⟩
  ·exact h.elim
 | .sl t, l, k, h => by
  simp only [decS] at h
  unfold decSlS at h
  split at h
  ·split at h
   ·rename_i ht; exact ⟨_, _, by simp only [dec, decSl, dif_pos ht], h⟩
   ·exact h.elim
  ·split at h
   ·exact ⟨_, _, rfl, h⟩
   ·exact h.elim
  ·exact h.elim
 | .unit, l, k, h => ⟨_, _, rfl, h⟩
 | .pair a b, l, k, h => by
  simp only [decS] at h
  obtain ⟨x, l', hx, h⟩ := decS_elim a h
  obtain ⟨y, l'', hy, h⟩ := decS_elim b h
  exact ⟨_, _, by simp only [dec, hx, hy], h⟩
def dec1S (t : Ty) (l : List AV) (k : t.den → Prop) : Prop := decS t l fun x l => match l with
 | [] => k x
 | _ => False
theorem dec1S_elim {t : Ty} {l : List AV} {k : t.den → Prop} (h : dec1S t l k) : ∃ x, dec1 t l = some x ∧ k x := by
 obtain ⟨x, rest, hx, h⟩ := decS_elim t h
 split at h
 ·exact ⟨x, by simp only [dec1, hx], h⟩
 ·exact h.elim
def decNS (t : Ty) : Nat → List AV → (List t.den → Prop) → Prop
 | 0, l, k => match l with
  | [] => k []
  | _ => False
 | n + 1, l, k => decS t l fun x l => decNS t n l fun xs => k (x :: xs)
theorem decNS_elim {t : Ty} : {n : Nat} → {l : List AV} → {k : List t.den → Prop} → decNS t n l k → ∃ xs, decN t n l = some xs ∧ k xs
 | 0, l, k, h => by
  simp only [decNS] at h
  split at h
  ·exact ⟨[], rfl, h⟩
  ·exact h.elim
 | n + 1, l, k, h => by
  simp only [decNS] at h
  obtain ⟨x, rest, hx, h⟩ := decS_elim t h
  obtain ⟨xs, hxs, h⟩ := decNS_elim h
  exact ⟨_, by simp only [decN, hx, hxs, Option.map_some], h⟩
def decLS (t : Ty) (l : List AV) (k : List t.den → Prop) : Prop := match t.z with
 | 0 => False
 | z + 1 => decNS t (l.length / (z + 1)) l k
theorem decLS_elim {t : Ty} {l : List AV} {k : List t.den → Prop} (h : decLS t l k) : ∃ xs, decL t l = some xs ∧ k xs := by
 unfold decLS at h
 split at h
 ·exact h.elim
 ·rename_i z hz
  obtain ⟨xs, hxs, h⟩ := decNS_elim h
  exact ⟨xs, by simp only [decL, hz, if_neg (show ¬ (z + 1 = 0) by omega), hxs], h⟩
def thawS (t t' : Ty) (l : List t'.den) (r : Ref) (n z : Nat) (k : AV → Prop) : Prop :=
 if t' = t then (match Nat.beq r.z t'.z && Nat.beq r.o 0 && Nat.beq z t'.z with
  | true => need true (r.e + n ≤ l.length) (k (.vec t' ((l.drop r.e).take n)))
  | false => False) else False
def freezeS (f : Nat → List AV → Heap → (List AV → Heap → Prop) → Prop) (t : Ty) (v : AV) (H : Heap) (k : AV → Heap → Prop) : Prop :=
 match v with
 | .slice _ (some r) n z => match H.get r.g with
  | some (.fro t' l _) => thawS t t' l r n z fun v => k v H
  | some (.vec t' l e false) => thawS t t' l r n z fun v => k v (H.set r.g (.fro t' l e))
  | some (.cells cs _ false) => f (cs.length / t.z) cs H fun cs' H' => decLS t cs' fun l => match H'.get r.g with
   | some (.cells cs2 e2 false) => match Nat.beq cs2.length cs'.length with
    | true => thawS t t l r n z fun v => k v (H'.set r.g (.fro t l e2))
    | false => False
   | _ => False
  | _ => False
 | v => k v H
def meltNS (f : List AV → Heap → (List AV → List AV → Heap → Prop) → Prop) : Nat → List AV → Heap → (List AV → Heap → Prop) → Prop
 | 0, l, H, k => match l with
  | [] => k [] H
  | _ :: _ => False
 | n + 1, l, H, k => f l H fun d l' H' => meltNS f n l' H' fun d' H'' => k (d ++ d') H''
def meltS : (t : Ty) → List AV → Heap → (List AV → List AV → Heap → Prop) → Prop
 | .sl t, l, H, k => (match l with
  | v :: l => freezeS (meltNS (meltS t)) t v H fun v H' => k [v] l H'
  | [] => False)
 | .pair a b, l, H, k => meltS a l H fun d l' H' => meltS b l' H' fun d' l'' H'' => k (d ++ d') l'' H''
 | .unit, l, H, k => k [] l H
 | .bool, l, H, k => (match l with
  | v :: l => k [v] l H
  | [] => False)
 | .int _, l, H, k => (match l with
  | v :: l => k [v] l H
  | [] => False)
 | .byte, l, H, k => (match l with
  | v :: l => k [v] l H
  | [] => False)
 | .str, l, H, k => (match l with
  | v :: l => k [v] l H
  | [] => False)
theorem thawS_elim {t t' : Ty} {l : List t'.den} {r : Ref} {n z : Nat} {k : AV → Prop} (h : thawS t t' l r n z k) : ∃ v, thawAt t t' l r n z = some v ∧ k v := by
 unfold thawS at h
 split at h
 ·rename_i ht
  split at h
  ·rename_i hb
   simp only [Bool.and_eq_true] at hb
   obtain ⟨h1, h2⟩ := need_elim h
   exact ⟨_, by unfold thawAt; rw [if_pos ⟨ht, Nat.eq_of_beq_eq_true hb.1.1, Nat.eq_of_beq_eq_true hb.1.2, Nat.eq_of_beq_eq_true hb.2, h1⟩], h2⟩
  ·exact h.elim
 ·exact h.elim
def FTells (fs : Nat → List AV → Heap → (List AV → Heap → Prop) → Prop) (f : Nat → List AV → Heap → Option (List AV × Heap)) : Prop := ∀ n l H k, fs n l H k → ∃ l' H', f n l H = some (l', H') ∧ k l' H'
def TTells (fs : List AV → Heap → (List AV → List AV → Heap → Prop) → Prop) (f : List AV → Heap → Option (List AV × List AV × Heap)) : Prop := ∀ l H k, fs l H k → ∃ d l' H', f l H = some (d, l', H') ∧ k d l' H'
theorem freezeS_elim {fs : Nat → List AV → Heap → (List AV → Heap → Prop) → Prop} {f : Nat → List AV → Heap → Option (List AV × Heap)} (hf : FTells fs f) {t : Ty} {v : AV} {H : Heap} {k : AV → Heap → Prop} (h : freezeS fs t v H k) : ∃ v' H', freezeV f t v H = some (v', H') ∧ k v' H' := by
 unfold freezeS at h
 split at h
 ·split at h
  ·rename_i hg
   obtain ⟨v, h1, h2⟩ := thawS_elim h
   exact ⟨_, _, by simp only [freezeV, hg, h1, Option.map_some], h2⟩
  ·rename_i hg
   obtain ⟨v, h1, h2⟩ := thawS_elim h
   exact ⟨_, _, by simp only [freezeV, hg, h1, Option.map_some], h2⟩
  ·rename_i hg
   obtain ⟨cs', H', h1, h2⟩ := hf _ _ _ _ h
   obtain ⟨l, hl, h3⟩ := decLS_elim h2
   split at h3
   ·rename_i hg2
    split at h3
    ·rename_i hb
     obtain ⟨v, h4, h5⟩ := thawS_elim h3
     exact ⟨_, _, by simp only [freezeV, hg, h1, hl, hg2, if_pos (Nat.eq_of_beq_eq_true hb), h4, Option.map_some], h5⟩
    ·exact h3.elim
   ·exact h3.elim
  ·exact h.elim
 ·rename_i hn
  refine ⟨v, H, ?_, h⟩
  unfold freezeV
  split
  ·rename_i b r n z; exact absurd rfl (hn b r n z)
  ·rfl
theorem meltNS_elim {fs : List AV → Heap → (List AV → List AV → Heap → Prop) → Prop} {f : List AV → Heap → Option (List AV × List AV × Heap)} (hf : TTells fs f) : FTells (meltNS fs) (meltN f) := by
 intro n
 induction n with
 | zero =>
  intro l H k h
  cases l with
  | nil => exact ⟨_, _, rfl, h⟩
  | cons => exact h.elim
 | succ n ih =>
  intro l H k h
  obtain ⟨d, l', H', h1, h2⟩ := hf _ _ _ h
  obtain ⟨d', H'', h3, h4⟩ := ih _ _ _ h2
  exact ⟨_, _, by simp only [meltN, h1, h3], h4⟩
theorem meltS_elim : (t : Ty) → TTells (meltS t) (meltT t)
 | .sl t, l, H, k, h => by
  cases l with
  | nil => exact h.elim
  | cons v l =>
   obtain ⟨v', H', h1, h2⟩ := freezeS_elim (meltNS_elim (meltS_elim t)) (show freezeS _ _ _ _ _ from h)
   exact ⟨_, _, _, by simp only [meltT, h1, Option.map_some], h2⟩
 | .pair a b, l, H, k, h => by
  obtain ⟨d, l', H', h1, h2⟩ := meltS_elim a _ _ _ h
  obtain ⟨d', l'', H'', h3, h4⟩ := meltS_elim b _ _ _ h2
  exact ⟨_, _, _, by simp only [meltT, h1, h3], h4⟩
 | .unit, l, H, k, h => ⟨_, _, _, by simp only [meltT], h⟩
 | .bool, l, H, k, h => by
  cases l with
  | nil => exact h.elim
  | cons v l => exact ⟨_, _, _, by simp only [meltT], h⟩
 | .int _, l, H, k, h => by
  cases l with
  | nil => exact h.elim
  | cons v l => exact ⟨_, _, _, by simp only [meltT], h⟩
 | .byte, l, H, k, h => by
  cases l with
  | nil => exact h.elim
  | cons v l => exact ⟨_, _, _, by simp only [meltT], h⟩
 | .str, l, H, k, h => by
  cases l with
  | nil => exact h.elim
  | cons v l => exact ⟨_, _, _, by simp only [meltT], h⟩
section ops
variable (P : Program)
def settleS (g : Nat) (e : TypeId) (H : Heap) (k : Heap → Prop) : Prop := match deepOf P e with
 | none => k H
 | some t => match H.get g with
  | some (.cells cs _ false) => meltNS (meltS t) (cs.length / t.z) cs H fun cs' H' => decLS t cs' fun l => match H'.get g with
   | some (.cells cs2 e2 false) => match Nat.beq cs2.length cs'.length with
    | true => k (H'.set g (.vec t l e2 false))
    | false => False
   | _ => False
  | _ => False
theorem settleS_elim {P : Program} {g : Nat} {e : TypeId} {H : Heap} {k : Heap → Prop} (h : settleS P g e H k) : ∃ H', settle P g e H = some H' ∧ k H' := by
 unfold settleS at h
 split at h
 ·rename_i hd; exact ⟨H, by simp only [settle, hd], h⟩
 ·rename_i hd
  split at h
  ·rename_i hg
   obtain ⟨cs', H', h1, h2⟩ := meltNS_elim (meltS_elim _) _ _ _ _ h
   obtain ⟨l, hl, h3⟩ := decLS_elim h2
   split at h3
   ·rename_i hg2
    split at h3
    ·rename_i hb
     exact ⟨_, by simp only [settle, hd, hg, h1, hl, hg2, if_pos (Nat.eq_of_beq_eq_true hb)], h3⟩
    ·exact h3.elim
   ·exact h3.elim
  ·exact h.elim
def kindOfInts : List AV → Option IntKind
 | .int _ k _ :: _ => some k
 | _ => none
def loadT (u : TypeId) (t : Ty) (l : List t.den) (e o : Nat) (k : AV → Prop) : Prop :=
 match isAgg? P u, size? P u with
 | some true, some s => match Nat.ble (o + s) t.z with
  | true => need true (e < l.length) (k (.agg (((enc t (l.getD e t.dflt)).drop o).take s)))
  | false => False
 | some false, some _ => match Nat.blt o t.z with
  | true => must ((enc t (l.getD e t.dflt))[o]?) fun v => need true (e < l.length) (k v)
  | false => False
 | _, _ => False
def loadS (H : Heap) (t : TypeId) (u : Bool) (r : Ref) (k : AV → Prop) : Prop :=
 match H.get r.g with
 | some (.vec t' l _ _) => match Nat.beq r.z t'.z with
  | true => loadT P t t' l r.e r.o fun v => k (v.hot u)
  | false => False
 | some (.fro t' l _) => match Nat.beq r.z t'.z with
  | true => loadT P t t' l r.e r.o fun v => k (v.hot u)
  | false => False
 | some (.cells cs _ _) => match u with
  | false => must (loadV P H t r) fun v => k (v.hot false)
  | true => match isAgg? P t with
   | some false => match kindOfInts cs with
    | some kd => must (intsOf kd cs) fun l => need true (r.i < l.length) (k (.int true kd (l.getD r.i 0)))
    | none => match boolsOf cs with
     | some l => need true (r.i < l.length) (k (.bool true (l.getD r.i false)))
     | none => must (strsOf cs) fun l => need true (r.i < l.length) (k (.str true (l.getD r.i [])))
   | _ => False
 | _ => False
def storeS (H : Heap) (t : TypeId) (r : Ref) (v : AV) (k : Heap → Prop) : Prop :=
 match H.get r.g with
 | some (.vec t' l e false) => match size? P t, Nat.beq r.z t'.z && Nat.ble (r.o + v.cells.length) t'.z && Nat.beq v.cells.length ((size? P t).getD 0) && v.cells.all AV.cell with
  | some _, true => need true (r.e < l.length) (dec1S t' (splice (enc t' (l.getD r.e t'.dflt)) r.o v.cells) fun x => k (H.set r.g (.vec t' (l.set r.e x) e false)))
  | _, _ => False
 | _ => must (storeV P H t r v) k
def binS (op : BinOp) (t : TypeId) (x y : AV) (k : AV → Prop) : Prop :=
 match op, x, y with
 | .quo, .int u kd a, .int u' kd' b => if kd = kd' then need u' (b ≠ 0) (k (.int (u || u') kd (kd.wrap (a.tdiv b)))) else False
 | .rem, .int u kd a, .int u' kd' b => if kd = kd' then need u' (b ≠ 0) (k (.int (u || u') kd (a.tmod b))) else False
 | .shl, .int u kd a, .int u' _ b => need u' (¬ b < 0) (k (.int (u || u') kd (kd.wrap (a * 2 ^ min b.toNat kd.bits))))
 | .shr, .int u kd a, .int u' _ b => need u' (¬ b < 0) (k (.int (u || u') kd (a.fdiv (2 ^ min b.toNat kd.bits))))
 | .add, .str u a, .str u' b => need (u || u') (((a.length + b.length : Nat) : Int) ≤ 9223372036854775807) (k (.str (u || u') (a ++ b)))
 | op, x, y => must (binA P op t x y) k
def srcS (H : Heap) (u : Bool) (r : Ref) (n s : Nat) (k : Lot → Prop) : Prop :=
 match H.get r.g with
 | some (.vec t l _ _) => match Nat.beq r.z t.z && Nat.beq r.o 0 && Nat.beq s t.z with
  | true => need true (r.e + n ≤ l.length) (k (.vec t ((l.drop r.e).take n)))
  | false => False
 | some (.fro t l _) => match Nat.beq r.z t.z && Nat.beq r.o 0 && Nat.beq s t.z with
  | true => need true (r.e + n ≤ l.length) (k (.vec t ((l.drop r.e).take n)))
  | false => False
 | some (.cells cs e ro) => match u with
  | true => False
  | false => must ((AObj.cells cs e ro).srcAt r n s) k
 | _ => False
def joinS (a b : Lot) (e : TypeId) (k : AObj → Prop) : Prop :=
 match a, b with
 | .vec t l, .vec t' l' => if h : t' = t then k (.vec t (l ++ (h ▸ l')) e false) else False
 | .vec t l, .cells cs => decLS t cs fun l' => k (.vec t (l ++ l') e false)
 | .cells cs, .vec t l' => decLS t cs fun l => k (.vec t (l ++ l') e false)
 | .cells cs, .cells cs' => k (.cells (cs ++ cs') e false)
def convS (src dst : TypeId) (x : AV) (H : Heap) (k : AV × Heap → Prop) : Prop :=
 match P.underlying src, P.underlying dst, x with
 | some .string, some (.slice e), .str t s =>
  if isU8 P e = true then need t (s.length ≤ 140737488355328) (joinS (.cells []) (strSrc t s) e fun o => k (.slice t (some ⟨H.n, 0, 1, 0⟩) s.length 1, H.push o)) else False
 | some (.slice e), some .string, .slice t (some r) n sz =>
  if isU8 P e = true ∧ sz = 1 then srcS H t r n 1 fun L => must (strOfSrc L) fun s => k (.str (t || s.1) s.2, H) else False
 | _, _, _ => must (convA P src dst x H) k
def sliceS (t : TypeId) (x : AV) (lo hi : Option AV) (k : AV → Prop) : Prop :=
 match P.underlying t, x with
 | some .string, .str u s => must (boundOf 0 lo) fun l => must (boundOf s.length hi) fun h =>
  need (u || tagOf lo || tagOf hi) (0 ≤ l ∧ l ≤ h ∧ h ≤ (s.length : Int)) (k (.str (u || tagOf lo || tagOf hi) ((s.take h.toNat).drop l.toNat)))
 | some (.slice e), .slice u (some r) n sz => must (boundOf 0 lo) fun l => must (boundOf n hi) fun h =>
  must (size? P e) fun s => if s = sz then
   need (u || tagOf lo || tagOf hi) (0 ≤ l ∧ l ≤ h ∧ h ≤ (n : Int)) (k (.slice (u || tagOf lo || tagOf hi) (some (r.el l.toNat sz)) (h - l).toNat sz)) else False
 | some (.slice e), .vec t' s => must (boundOf 0 lo) fun l => must (boundOf s.length hi) fun h =>
  if size? P e = some t'.z then need true (0 ≤ l ∧ l ≤ h ∧ h ≤ (s.length : Int)) (k (.vec t' ((s.take h.toNat).drop l.toNat))) else False
 | _, _ => must (sliceOp P t x lo hi) k
def indexAddrS (T : TypeId) (x ix : AV) (k : AV → Prop) : Prop :=
 match P.underlying T, x, ix with
 | some (.slice e), .vec t l, .int _ _ i => if size? P e = some t.z then need true (0 ≤ i ∧ i < (l.length : Int)) (k (.eptr t l i.toNat 0)) else False
 | some (.slice e), .slice t (some r) n _, .int u _ i => must (size? P e) fun s =>
  need (t || u) (0 ≤ i ∧ i < (n : Int)) (k (.ptr (t || u) (some (r.el i.toNat s))))
 | some (.array n e), .ptr t (some r), .int u _ i => must (size? P e) fun s =>
  need u (0 ≤ i ∧ i < (n : Int)) (k (.ptr (t || u) (some (r.elA t i.toNat s))))
 | some (.array n e), .eptr t l q p, .int u _ i => must (size? P e) fun s =>
  need u (0 ≤ i ∧ i < (n : Int)) (k (.eptr t l q (p + i.toNat * s)))
 | _, _, _ => must (indexAddrA P T x ix) k
def makeSliceS (t : TypeId) (l c : AV) (H : Heap) (k : AV → Heap → Prop) : Prop :=
 match sliceElem P t, l, c with
 | some e, .int true .i64 l, .int tc .i64 c => must (size? P e) fun sz => must (bytes? P e) fun by_ => must (zero? P e) fun z =>
  match zeroTy z.cells with
  | some ⟨ty, d⟩ => if sz ≠ 0 ∧ z.cells.length = sz ∧ z.cells.all AV.cell = true then
    need true (0 ≤ l ∧ l ≤ c ∧ c * by_ ≤ 140737488355328 ∧ c ≤ 140737488355328) (k (.slice true (some ⟨H.n, 0, sz, 0⟩) l.toNat sz) (H.push (.vec ty (List.replicate l.toNat d) e false)))
   else False
  | none => False
 | _, _, _ => must (makeSliceA P t l c H) fun r => k r.1 r.2
def indexS (t : TypeId) (x ix : AV) (k : AV → Prop) : Prop :=
 match P.underlying t, x, ix with
 | some .string, .str u s, .int u' _ i => need (u || u') (0 ≤ i ∧ i < (s.length : Int)) (k (.int (u || u') .u8 (s.getD i.toNat 0).toNat))
 | some (.array n e), .agg cs, .int true kd i => match isAgg? P e, size? P e, strsOf cs with
  | some false, some 1, some l => need true (0 ≤ i ∧ i < (n : Int) ∧ i.toNat < l.length) (k (.str true (l.getD i.toNat [])))
  | _, _, _ => must (indexA P t (.agg cs) (.int true kd i)) k
 | _, _, _ => must (indexA P t x ix) k
def appendRest (sz by_ : Nat) (e : TypeId) (s : AV) (H : Heap) (k : AV × Heap → Prop) (new : Lot) (n : Nat) (tn : Bool) : Prop :=
 match tn || !(Nat.beq n 0) with
 | false =>
  (match s with
   | .slice ts r m z => if (r.isSome → z = sz) then k (.slice ts r m z, H) else False
   | _ => False)
 | true =>
  (match s with
   | .slice _ none _ _ => if new.ok = true then need tn (n * by_ ≤ 140737488355328) (joinS (.cells []) new e fun o => k (.slice tn (some ⟨H.n, 0, sz, 0⟩) n sz, H.push o)) else False
   | .slice ts (some r) m z =>
    if z = sz ∧ new.ok = true then
     match H.row r.g with
     | some (_, e0, false) => match Nat.beq e0 e with
      | true => srcS H ts r m sz fun old =>
       need (ts || tn) ((m + n) * by_ ≤ 140737488355328) (joinS old new e fun o => k (.slice (ts || tn) (some ⟨H.n, 0, sz, 0⟩) (m + n) sz, (H.set r.g .dead).push o))
      | false => False
     | _ => False
    else False
   | _ => False)
def appendS (t : TypeId) (s x : AV) (H : Heap) (k : AV × Heap → Prop) : Prop :=
 must (sliceElem P t) fun e => must (size? P e) fun sz => must (bytes? P e) fun by_ => must (zero? P e) fun ze =>
 if sz = 0 ∨ by_ = 0 ∨ ze.cells.length ≠ sz then False else
 match x with
 | .slice _ none _ _ => appendRest sz by_ e s H k (.cells []) 0 false
 | .slice tx (some r) n z => if z = sz then srcS H tx r n sz fun L => appendRest sz by_ e s H k L n tx else False
 | .vec t' l => if sz = t'.z then appendRest sz by_ e s H k (.vec t' l) l.length true else False
 | .str tx l => if sz = 1 then appendRest sz by_ e s H k (strSrc tx l) l.length tx else False
 | _ => False
def callS (c : Call) (m : Tm) (H : Heap) (k : Got → Prop) : Prop :=
 match c.callee with
 | .builtin .append => match c.argTypes.toList, opnds m c.args.toList with
  | [t, u], some [s, x] => if srcKind P u x = true then appendS P t s x H fun r => k (.val r.1 r.2) else False
  | _, _ => False
 | .builtin .unsafeSliceData => match c.argTypes.toList, opnds m c.args.toList with
  | _ :: _, some [.slice t (some r) n z] => need t (0 < n) (k (.val (.ptr t (some r)) H))
  | _, _ => must (callA P c m H) k
 | .builtin .unsafeString => match c.argTypes.toList, opnds m c.args.toList with
  | [pt, _], some [.ptr _ (some r), .int _ .i64 n] => match P.underlying pt with
   | some (.pointer e) => if isU8 P e = true ∧ P.cellsOf e = 1 ∧ r.z = 1 ∧ r.o = 0 then
     match H.get r.g with
     | some (.vec .byte l e' false) => if e' = e then need true (0 < n ∧ r.e + n.toNat ≤ l.length ∧ n ≤ 140737488355328) (k (.val (.str true ((l.drop r.e).take n.toNat)) (H.set r.g (.fro .byte l e')))) else False
     | _ => False
    else False
   | _ => False
  | _, _ => must (callA P c m H) k
 | .builtin .clear => match c.argTypes.toList, opnds m c.args.toList with
  | [t], some [.slice tt (some r) n z] => match sliceElem P t with
   | none => False
   | some e => match size? P e, zero? P e with
    | some s, some ze => if s = z ∧ s ≠ 0 ∧ ze.cells.length = s ∧ ze.cells.all AV.cell = true ∧ r.z = z ∧ r.o = 0 then
      match H.get r.g with
      | some (.vec ty l e' false) => match dec1 ty ze.cells with
       | some d => need true (0 < n ∧ r.e + n ≤ l.length) (k (.val (.tup []) (H.set r.g (.vec ty (l.take r.e ++ List.replicate n d ++ l.drop (r.e + n)) e' false))))
       | none => False
      | _ => False
     else False
    | _, _ => False
  | _, _ => must (callA P c m H) k
 | _ => must (callA P c m H) k
def opS (o : Op) (m : Tm) (H : Heap) (k : Got → Prop) : Prop :=
 match o with
 | .pick c a b => match opnd m c with
  | some (.bool t x) => fork t x (must (opnd m a) fun v => k (.val v H)) (must (opnd m b) fun v => k (.val v H))
  | _ => False
 | .load t a => match opnd m a with
  | some (.ptr u (some r)) => loadS P H t u r fun v => k (.val v H)
  | some (.eptr t' l e o) => loadT P t t' l e o fun v => k (.val v H)
  | _ => False
 | .store t a x => match opnd m a, opnd m x with
  | some (.ptr _ (some r)), some v => storeS P H t r v fun H' => k (.val (.tup []) H')
  | _, _ => False
 | .binOp op t x y _ => match opnd m x, opnd m y with
  | some a, some b => match twin P H op t x y a b with
   | some v => k (.val v H)
   | none => binS P op t a b fun v => k (.val v H)
  | _, _ => False
 | .convert s d x => match opnd m x with
  | some a => convS P s d a H fun r => k (.val r.1 r.2)
  | none => False
 | .slice t x lo hi none => match opnd m x, optOpnd m lo, optOpnd m hi with
  | some a, some l, some h => sliceS P t a l h fun v => k (.val v H)
  | _, _, _ => False
 | .indexAddr t x i => match opnd m x, opnd m i with
  | some a, some b => indexAddrS P t a b fun v => k (.val v H)
  | _, _ => False
 | .index t x i => match opnd m x, opnd m i with
  | some a, some b => indexS P t a b fun v => k (.val v H)
  | _, _ => False
 | .makeSlice t x i => match opnd m x, opnd m i with
  | some a, some b => makeSliceS P t a b H fun v H' => k (.val v H')
  | _, _ => False
 | .call c => callS P c m H k
 | .buildSlice t n parts => match sliceElem P t, partsA m parts.toList with
  | some e, some ps => match size? P e, zero? P e with
   | some s, some z =>
    if s ≠ 0 ∧ n * s ≤ 16777216 ∧ z.cells.length = s then
     match fillA (fun i => some (i * s, s)) (zerosA z.cells n) ps with
     | some cs => if cs.all AV.cell = true ∧ cs.length = n * s then settleS P H.n e (H.push (.cells cs e false)) fun H' => k (.val (.slice false (some ⟨H.n, 0, s, 0⟩) n s) H') else False
     | none => False
    else False
   | _, _ => False
  | _, _ => False
 | o => must (opA P o m H) k
end ops
section sound
variable {P : Program} {H : Heap}
theorem getD_of {α : Type} {l : List α} {i : Nat} {d : α} (h : i < l.length) : l[i]? = some (l.getD i d) := by
 rw [List.getElem?_eq_getElem h, List.getD_eq_getElem?_getD, List.getElem?_eq_getElem h]; rfl
theorem intsOf_get {k : IntKind} : ∀ {cs : List AV} {l : List Int}, intsOf k cs = some l → cs.length = l.length ∧ ∀ (i : Nat) (n : Int), l[i]? = some n → ∃ t : Bool, cs[i]? = some (AV.int t k n)
 | [], l, h => by simp only [intsOf, Option.some.injEq] at h; subst h; exact ⟨rfl, fun i n h => by simp at h⟩
 | v :: cs, l, h => by
  cases v with
  | int t k' n =>
   simp only [intsOf] at h
   split at h
   ·rename_i hk
    subst hk
    cases hl : intsOf k cs with
    | none => rw [hl] at h; cases h
    | some l' =>
     rw [hl] at h
     cases h
     obtain ⟨h1, h2⟩ := intsOf_get hl
     refine ⟨by simp [h1], fun i x hx => ?_⟩
     cases i with
     | zero => simp at hx; subst hx; exact ⟨t, by simp⟩
     | succ i => simp at hx; simpa using h2 i x hx
   ·cases h
  | _ => simp only [intsOf] at h; cases h
theorem strsOf_get : ∀ {cs : List AV} {l : List (List UInt8)}, strsOf cs = some l → cs.length = l.length ∧ ∀ (i : Nat) (n : List UInt8), l[i]? = some n → ∃ t : Bool, cs[i]? = some (AV.str t n)
 | [], l, h => by simp only [strsOf, Option.some.injEq] at h; subst h; exact ⟨rfl, fun i n h => by simp at h⟩
 | v :: cs, l, h => by
  cases v with
  | str t n =>
   simp only [strsOf] at h
   cases hl : strsOf cs with
   | none => rw [hl] at h; cases h
   | some l' =>
    rw [hl] at h
    cases h
    obtain ⟨h1, h2⟩ := strsOf_get hl
    refine ⟨by simp [h1], fun i x hx => ?_⟩
    cases i with
    | zero => simp at hx; subst hx; exact ⟨t, by simp⟩
    | succ i => simp at hx; simpa using h2 i x hx
  | _ => simp only [strsOf] at h; cases h
theorem boolsOf_get : ∀ {cs : List AV} {l : List Bool}, boolsOf cs = some l → cs.length = l.length ∧ ∀ (i : Nat) (n : Bool), l[i]? = some n → ∃ t : Bool, cs[i]? = some (AV.bool t n)
 | [], l, h => by simp only [boolsOf, Option.some.injEq] at h; subst h; exact ⟨rfl, fun i n h => by simp at h⟩
 | v :: cs, l, h => by
  cases v with
  | bool t n =>
   simp only [boolsOf] at h
   cases hl : boolsOf cs with
   | none => rw [hl] at h; cases h
   | some l' =>
    rw [hl] at h
    cases h
    obtain ⟨h1, h2⟩ := boolsOf_get hl
    refine ⟨by simp [h1], fun i x hx => ?_⟩
    cases i with
    | zero => simp at hx; subst hx; exact ⟨t, by simp⟩
    | succ i => simp at hx; simpa using h2 i x hx
  | _ => simp only [boolsOf] at h; cases h
theorem loadT_sound {u : TypeId} {t : Ty} {l : List t.den} {e o : Nat} {k : AV → Prop} (h : loadT P u t l e o k) : ∃ v, loadE P u t l e o = some v ∧ k v := by
 unfold loadT at h
 split at h
 ·rename_i s hag hs
  split at h
  ·rename_i hb
   obtain ⟨he, hk⟩ := need_elim h
   exact ⟨_, by simp only [loadE, hag, hs, if_pos (And.intro he (Nat.le_of_ble_eq_true hb))], hk⟩
  ·exact h.elim
 ·rename_i s hag hs
  split at h
  ·rename_i hb
   obtain ⟨v, hv, h⟩ := must_elim h
   obtain ⟨he, hk⟩ := need_elim h
   exact ⟨v, by simp only [loadE, hag, hs, if_pos (And.intro he (Nat.blt_eq.mp hb)), hv], hk⟩
  ·exact h.elim
 ·exact h.elim
theorem loadE_row {t : TypeId} {r : Ref} {t' : Ty} {l : List t'.den} {e : TypeId} {ro : Bool} {v : AV} (hrow : H.row r.g = some (encL t' l, e, ro)) (hz : r.z = t'.z) (h : loadE P t t' l r.e r.o = some v) : loadV P H t r = some v := by
 have hi : r.i = r.e * t'.z + r.o := by unfold Ref.i; rw [hz]
 unfold loadV
 rw [hrow]
 unfold loadE at h
 split at h
 ·rename_i s hag hs
  split at h
  ·rename_i hc
   cases h
   have hle : r.i + s ≤ (encL t' l).length := by
    rw [encL_length, hi]
    have : (r.e + 1) * t'.z ≤ l.length * t'.z := Nat.mul_le_mul_right _ hc.1
    rw [Nat.add_mul] at this
    omega
   simp only [hag, hs, if_pos hle]
   rw [← encL_elem t' l r.e hc.1, List.drop_take, List.take_take, List.drop_drop, Nat.min_eq_left (by omega), hi]
  ·cases h
 ·rename_i s hag hs
  split at h
  ·rename_i hc
   simp only [hag]
   rw [hi, encL_get t' l r.e r.o hc.1 hc.2]
   exact h
  ·cases h
 ·cases h
theorem loadS_sound {t : TypeId} {u : Bool} {r : Ref} {k : AV → Prop} (h : loadS P H t u r k) : ∃ v, loadV P H t r = some v ∧ k (v.hot u) := by
 unfold loadS at h
 have hrow : ∀ o, H.get r.g = some o → H.row r.g = o.row := fun o ho => by unfold Heap.row; rw [ho]; rfl
 split at h
 ·rename_i t' l e ro hg
  split at h
  ·rename_i hz
   obtain ⟨v, hv, hk⟩ := loadT_sound h
   exact ⟨v, loadE_row (hrow _ hg) (Nat.eq_of_beq_eq_true hz) hv, hk⟩
  ·exact h.elim
 ·rename_i t' l e hg
  split at h
  ·rename_i hz
   obtain ⟨v, hv, hk⟩ := loadT_sound h
   exact ⟨v, loadE_row (hrow _ hg) (Nat.eq_of_beq_eq_true hz) hv, hk⟩
  ·exact h.elim
 ·rename_i cs e ro hg
  split at h
  ·obtain ⟨v, hv, hk⟩ := must_elim h
   exact ⟨v, hv, hk⟩
  ·split at h
   ·rename_i ha
    split at h
    ·rename_i kd hkd
     obtain ⟨l, hl, h⟩ := must_elim h
     obtain ⟨hi, hk⟩ := need_elim h
     obtain ⟨h1, h2⟩ := intsOf_get hl
     obtain ⟨tt, ht⟩ := h2 r.i _ (getD_of (d := 0) hi)
     refine ⟨.int tt kd (l.getD r.i 0), ?_, by simpa only [AV.hot, Bool.true_or] using hk⟩
     unfold loadV
     rw [hrow _ hg]
     simp only [AObj.row, ha, ht]
    ·split at h
     ·rename_i l hl
      obtain ⟨hi, hk⟩ := need_elim h
      obtain ⟨h1, h2⟩ := boolsOf_get hl
      obtain ⟨tt, ht⟩ := h2 r.i _ (getD_of (d := false) hi)
      refine ⟨.bool tt (l.getD r.i false), ?_, by simpa only [AV.hot, Bool.true_or] using hk⟩
      unfold loadV
      rw [hrow _ hg]
      simp only [AObj.row, ha, ht]
     ·obtain ⟨l, hl, h⟩ := must_elim h
      obtain ⟨hi, hk⟩ := need_elim h
      obtain ⟨h1, h2⟩ := strsOf_get hl
      obtain ⟨tt, ht⟩ := h2 r.i _ (getD_of (d := []) hi)
      refine ⟨.str tt (l.getD r.i []), ?_, by simpa only [AV.hot, Bool.true_or] using hk⟩
      unfold loadV
      rw [hrow _ hg]
      simp only [AObj.row, ha, ht]
   ·exact h.elim
 ·exact h.elim
theorem storeS_sound {t : TypeId} {r : Ref} {v : AV} {k : Heap → Prop} (h : storeS P H t r v k) : ∃ H', storeV P H t r v = some H' ∧ k H' := by
 unfold storeS at h
 split at h
 ·rename_i t' l e hg
  split at h
  ·rename_i s hs hc
   obtain ⟨he, h⟩ := need_elim h
   obtain ⟨x, hx, hk⟩ := dec1S_elim h
   simp only [Bool.and_eq_true, hs, Option.getD_some] at hc
   obtain ⟨⟨⟨hz, ho⟩, hl⟩, hall⟩ := hc
   have hz := Nat.eq_of_beq_eq_true hz
   have ho := Nat.le_of_ble_eq_true ho
   have hl := Nat.eq_of_beq_eq_true hl
   refine ⟨_, ?_, hk⟩
   have hi : r.i = r.e * t'.z + r.o := by unfold Ref.i; rw [hz]
   have hle : r.i + s ≤ (encL t' l).length := by
    rw [encL_length, hi]
    have : (r.e + 1) * t'.z ≤ l.length * t'.z := Nat.mul_le_mul_right _ he
    rw [Nat.add_mul] at this
    omega
   unfold storeV
   rw [hg]
   simp only [AObj.row, hs]
   rw [if_pos ⟨hl, hle, hall⟩]
   simp only [AObj.put]
   rw [if_pos ⟨hz, he, ho⟩, hx]
  ·exact h.elim
 ·exact must_elim h
theorem binS_sound {op : BinOp} {t : TypeId} {x y : AV} {k : AV → Prop} (h : binS P op t x y k) : ∃ v, binA P op t x y = some v ∧ k v := by
 unfold binS at h
 split at h
 ·split at h
  ·rename_i hk
   obtain ⟨h1, h2⟩ := need_elim h
   exact ⟨_, by simp [binA, hk, arith, h1], h2⟩
  ·exact h.elim
 ·split at h
  ·rename_i hk
   obtain ⟨h1, h2⟩ := need_elim h
   exact ⟨_, by simp [binA, hk, arith, h1], h2⟩
  ·exact h.elim
 ·obtain ⟨h1, h2⟩ := need_elim h
  exact ⟨_, by simp only [binA, shiftA, if_neg h1], h2⟩
 ·obtain ⟨h1, h2⟩ := need_elim h
  exact ⟨_, by simp only [binA, shiftA, if_neg h1], h2⟩
 ·obtain ⟨h1, h2⟩ := need_elim h
  exact ⟨_, by simp only [binA, strA, if_pos h1], h2⟩
 ·exact must_elim h
theorem srcS_sound {u : Bool} {r : Ref} {n s : Nat} {k : Lot → Prop} (h : srcS H u r n s k) : ∃ L, sliceSrc H (some r) n s = some L ∧ k L := by
 unfold srcS at h
 simp only [sliceSrc]
 split at h
 ·rename_i hg
  split at h
  ·rename_i hc
   simp only [Bool.and_eq_true] at hc
   obtain ⟨⟨h1, h2⟩, h3⟩ := hc
   obtain ⟨h4, h5⟩ := need_elim h
   rw [hg]
   exact ⟨_, by simp only [AObj.srcAt, if_pos (And.intro (Nat.eq_of_beq_eq_true h1) (And.intro (Nat.eq_of_beq_eq_true h2) (And.intro (Nat.eq_of_beq_eq_true h3) h4)))], h5⟩
  ·exact h.elim
 ·rename_i hg
  split at h
  ·rename_i hc
   simp only [Bool.and_eq_true] at hc
   obtain ⟨⟨h1, h2⟩, h3⟩ := hc
   obtain ⟨h4, h5⟩ := need_elim h
   rw [hg]
   exact ⟨_, by simp only [AObj.srcAt, if_pos (And.intro (Nat.eq_of_beq_eq_true h1) (And.intro (Nat.eq_of_beq_eq_true h2) (And.intro (Nat.eq_of_beq_eq_true h3) h4)))], h5⟩
  ·exact h.elim
 ·rename_i hg
  split at h
  ·exact h.elim
  ·rw [hg]; exact must_elim h
 ·exact h.elim
theorem joinS_sound {a b : Lot} {e : TypeId} {k : AObj → Prop} (h : joinS a b e k) : k (joinRow a b e) := by
 unfold joinS at h
 unfold joinRow
 split at h
 ·split at h
  ·rename_i ht; simp only [dif_pos ht]; exact h
  ·exact h.elim
 ·obtain ⟨l', hl', hk⟩ := decLS_elim h
  simp only [hl']; exact hk
 ·obtain ⟨l', hl', hk⟩ := decLS_elim h
  simp only [hl']; exact hk
 ·exact h
theorem convS_sound {src dst : TypeId} {x : AV} {k : AV × Heap → Prop} (h : convS P src dst x H k) : ∃ r, convA P src dst x H = some r ∧ k r := by
 unfold convS at h
 split at h
 ·rename_i e t s hs hd
  split at h
  ·rename_i he
   obtain ⟨h1, h2⟩ := need_elim h
   exact ⟨_, by simp only [convA, hs, hd, he, h1, and_self, if_true], joinS_sound h2⟩
  ·exact h.elim
 ·rename_i e t r n sz hs hd
  split at h
  ·rename_i hc
   obtain ⟨L, hL, h⟩ := srcS_sound h
   obtain ⟨s, hs', hk⟩ := must_elim h
   exact ⟨_, by simp only [convA, hs, hd, if_pos hc, hL, hs', Option.map_some], hk⟩
  ·exact h.elim
 ·exact must_elim h
theorem sliceS_sound {t : TypeId} {x : AV} {lo hi : Option AV} {k : AV → Prop} (h : sliceS P t x lo hi k) : ∃ v, sliceOp P t x lo hi = some v ∧ k v := by
 unfold sliceS at h
 split at h
 ·rename_i u s hu
  obtain ⟨l, hl, h⟩ := must_elim h
  obtain ⟨b, hb, h⟩ := must_elim h
  obtain ⟨h1, h2⟩ := need_elim h
  exact ⟨_, by simp only [sliceOp, hu, hl, hb, if_pos h1], h2⟩
 ·rename_i e u r n sz hu
  obtain ⟨l, hl, h⟩ := must_elim h
  obtain ⟨b, hb, h⟩ := must_elim h
  obtain ⟨s, hs, h⟩ := must_elim h
  split at h
  ·rename_i hz
   obtain ⟨h1, h2⟩ := need_elim h
   exact ⟨_, by simp only [sliceOp, hu, hl, hb, if_pos h1, hs, if_pos hz], h2⟩
  ·exact h.elim
 ·rename_i e t' s hu
  obtain ⟨l, hl, h⟩ := must_elim h
  obtain ⟨b, hb, h⟩ := must_elim h
  split at h
  ·rename_i hs
   obtain ⟨h1, h2⟩ := need_elim h
   exact ⟨_, by simp only [sliceOp, hu, hl, hb]; rw [if_pos ⟨h1.1, h1.2.1, h1.2.2, hs⟩], h2⟩
  ·exact h.elim
 ·exact must_elim h
theorem indexAddrS_sound {t : TypeId} {x ix : AV} {k : AV → Prop} (h : indexAddrS P t x ix k) : ∃ v, indexAddrA P t x ix = some v ∧ k v := by
 unfold indexAddrS at h
 split at h
 ·rename_i hu
  split at h
  ·rename_i hs
   obtain ⟨h1, h2⟩ := need_elim h
   exact ⟨_, by simp only [indexAddrA, hu]; rw [if_pos ⟨hs, h1.1, h1.2⟩], h2⟩
  ·exact h.elim
 ·rename_i hu
  obtain ⟨s, hs, h⟩ := must_elim h
  obtain ⟨h1, h2⟩ := need_elim h
  exact ⟨_, by simp only [indexAddrA, hu, hs, if_pos h1], h2⟩
 ·rename_i hu
  obtain ⟨s, hs, h⟩ := must_elim h
  obtain ⟨h1, h2⟩ := need_elim h
  exact ⟨_, by simp only [indexAddrA, hu, hs, if_pos h1], h2⟩
 ·rename_i hu
  obtain ⟨s, hs, h⟩ := must_elim h
  obtain ⟨h1, h2⟩ := need_elim h
  exact ⟨_, by simp only [indexAddrA, hu, hs, if_pos h1], h2⟩
 ·exact must_elim h
theorem makeSliceS_sound {t : TypeId} {l c : AV} {H : Heap} {k : AV → Heap → Prop} (h : makeSliceS P t l c H k) : ∃ r, makeSliceA P t l c H = some r ∧ k r.1 r.2 := by
 unfold makeSliceS at h
 split at h
 ·rename_i he
  obtain ⟨sz, hs, h⟩ := must_elim h
  obtain ⟨by_, hby, h⟩ := must_elim h
  obtain ⟨z, hz, h⟩ := must_elim h
  split at h
  ·rename_i ty d hzt
   split at h
   ·rename_i hc
    obtain ⟨h1, h2⟩ := need_elim h
    refine ⟨(_, _), ?_, h2⟩
    simp only [makeSliceA, he, hs, hby, hz, hzt]
    rw [if_pos ⟨hc.1, hc.2.1, h1.1, h1.2.1, h1.2.2.1, h1.2.2.2, hc.2.2⟩]
    rfl
   ·exact h.elim
  ·exact h.elim
 ·exact must_elim h
theorem indexS_sound {t : TypeId} {x ix : AV} {k : AV → Prop} (h : indexS P t x ix k) : ∃ v, indexA P t x ix = some v ∧ k v := by
 unfold indexS at h
 split at h
 ·rename_i hu
  obtain ⟨h1, h2⟩ := need_elim h
  refine ⟨_, ?_, h2⟩
  simp only [indexA, hu, if_pos h1.1]
  rw [getD_of (d := 0) (by omega)]
  rfl
 ·rename_i n e cs kd i hu
  split at h
  ·rename_i l ha hs hl
   obtain ⟨h1, h2⟩ := need_elim h
   obtain ⟨g1, g2⟩ := strsOf_get hl
   obtain ⟨tt, ht⟩ := g2 i.toNat _ (getD_of (d := []) h1.2.2)
   refine ⟨_, ?_, h2⟩
   simp only [indexA, hu, hs, if_pos (And.intro h1.1 h1.2.1), partA, ha, Nat.mul_one, ht, Option.map_some, AV.hot, Bool.true_or]
  ·exact must_elim h
 ·exact must_elim h
theorem appendS_sound {t : TypeId} {s x : AV} {k : AV × Heap → Prop} (h : appendS P t s x H k) : ∃ r, appendA P t s x H = some r ∧ k r := by
 unfold appendS at h
 obtain ⟨e, he, h⟩ := must_elim h
 obtain ⟨sz, hsz, h⟩ := must_elim h
 obtain ⟨by_, hby, h⟩ := must_elim h
 obtain ⟨ze, hze, h⟩ := must_elim h
 split at h
 ·exact h.elim
 ·rename_i hpos
  have hrest : ∀ (new : Lot) (n : Nat) (tn : Bool), srcCells H sz x = some (new, n, tn) → appendRest sz by_ e s H k new n tn → ∃ r, appendA P t s x H = some r ∧ k r := by
   intro new n tn hsrc hf
   unfold appendRest at hf
   unfold appendA
   simp only [he, hsz, hby, hze, if_neg hpos, hsrc]
   split at hf
   ·rename_i hn
    have hn' : n = 0 ∧ tn = false := by
     simp only [Bool.or_eq_false_iff, Bool.not_eq_false'] at hn
     exact ⟨Nat.eq_of_beq_eq_true hn.2, hn.1⟩
    simp only [if_pos hn']
    split at hf
    ·split at hf
     ·rename_i hc
      refine ⟨_, ?_, hf⟩
      simp only [if_pos hc]
     ·exact hf.elim
    ·exact hf.elim
   ·rename_i hn
    have hn' : ¬ (n = 0 ∧ tn = false) := by
     rintro ⟨rfl, rfl⟩
     simp at hn
    simp only [if_neg hn']
    split at hf
    ·split at hf
     ·rename_i hok
      obtain ⟨h1, h2⟩ := need_elim hf
      refine ⟨_, ?_, joinS_sound h2⟩
      simp only [if_pos (And.intro h1 hok)]
     ·exact hf.elim
    ·split at hf
     ·rename_i hc
      split at hf
      ·rename_i hrow
       split at hf
       ·rename_i hee
        obtain ⟨old, hold, hf⟩ := srcS_sound hf
        obtain ⟨h1, h2⟩ := need_elim hf
        refine ⟨_, ?_, joinS_sound h2⟩
        simp only [if_pos hc.1, hrow, hold, if_pos (And.intro (And.intro h1 (Nat.eq_of_beq_eq_true hee)) hc.2)]
       ·exact hf.elim
      ·exact hf.elim
     ·exact hf.elim
    ·exact hf.elim
  split at h
  ·exact hrest _ _ _ rfl h
  ·rename_i tx r n z
   split at h
   ·rename_i hz
    obtain ⟨L, hL, h⟩ := srcS_sound h
    exact hrest _ _ _ (by simp only [srcCells, if_pos hz, hL, Option.map_some]) h
   ·exact h.elim
  ·split at h
   ·rename_i hz
    exact hrest _ _ _ (by simp only [srcCells, if_pos hz]) h
   ·exact h.elim
  ·split at h
   ·rename_i hz
    exact hrest _ _ _ (by simp only [srcCells, if_pos hz]) h
   ·exact h.elim
  ·exact h.elim
theorem callS_sound {c : Call} {m : Tm} {k : Got → Prop} (h : callS P c m H k) : ∃ g, callA P c m H = some g ∧ k g := by
 unfold callS at h
 split at h
 ·rename_i hc
  split at h
  ·rename_i t u s x hts hargs
   split at h
   ·rename_i hk
    obtain ⟨r, hr, hk'⟩ := appendS_sound h
    refine ⟨_, ?_, hk'⟩
    simp only [callA, hargs, hc, builtinA, hts, if_pos hk, hr, Option.map_some]
   ·exact h.elim
  ·exact h.elim
 ·rename_i hc
  split at h
  ·rename_i t0 ts0 t r n z hts hargs
   obtain ⟨h1, h2⟩ := need_elim h
   exact ⟨_, by simp only [callA, hargs, hc, builtinA, hts, dataPtr, if_pos h1, Option.map_some], h2⟩
  ·exact must_elim h
 ·rename_i hc
  split at h
  ·rename_i pt it tt r tn n hts hargs
   split at h
   ·rename_i e hp
    split at h
    ·rename_i hk
     split at h
     ·rename_i l e' hg
      split at h
      ·rename_i he
       obtain ⟨h1, h2⟩ := need_elim h
       exact ⟨_, by simp only [callA, hargs, hc, builtinA, hts, rawStr, hp, if_pos hk, hg, if_pos (And.intro he h1), Option.map_some], h2⟩
      ·exact h.elim
     ·exact h.elim
    ·exact h.elim
   ·exact h.elim
  ·exact must_elim h
 ·rename_i hc
  split at h
  ·rename_i t tt r n z hts hargs
   split at h
   ·exact h.elim
   ·rename_i e hse
    split at h
    ·rename_i sz ze hsz hze
     split at h
     ·rename_i hk
      split at h
      ·rename_i ty l e' hg
       split at h
       ·rename_i d hd
        obtain ⟨h1, h2⟩ := need_elim h
        exact ⟨_, by simp only [callA, hargs, hc, builtinA, hts, clearA, hse, hsz, hze, if_pos hk, hg, hd, if_pos h1, Option.map_some], h2⟩
       ·exact h.elim
      ·exact h.elim
     ·exact h.elim
    ·exact h.elim
  ·exact must_elim h
 ·exact must_elim h
theorem opS_sound {o : Op} {m : Tm} {k : Got → Prop} (h : opS P o m H k) : ∃ g, opA P o m H = some g ∧ k g := by
 unfold opS at h
 split at h
 ·rename_i c a b
  split at h
  ·rename_i t x hc
   rcases fork_elim h with ⟨rfl, h'⟩ | ⟨rfl, h'⟩
   ·obtain ⟨v, hv, hk⟩ := must_elim h'
    exact ⟨.val v H, by simp only [opA, hc, hv, Option.map_some], hk⟩
   ·obtain ⟨v, hv, hk⟩ := must_elim h'
    exact ⟨.val v H, by simp only [opA, hc, hv, Option.map_some], hk⟩
  ·exact h.elim
 ·split at h
  ·rename_i hx
   obtain ⟨v, hv, hk⟩ := loadS_sound h
   exact ⟨_, by simp only [opA, hx, hv, Option.map_some], hk⟩
  ·rename_i hx
   obtain ⟨v, hv, hk⟩ := loadT_sound h
   exact ⟨_, by simp only [opA, hx, hv, Option.map_some], hk⟩
  ·exact h.elim
 ·split at h
  ·rename_i hx hy
   obtain ⟨v, hv, hk⟩ := storeS_sound h
   exact ⟨_, by simp only [opA, hx, hy, hv, Option.map_some], hk⟩
  ·exact h.elim
 ·split at h
  ·rename_i hx hy
   split at h
   ·rename_i v ht
    exact ⟨_, by simp only [opA, hx, hy, ht], h⟩
   ·rename_i ht
    obtain ⟨v, hv, hk⟩ := binS_sound h
    exact ⟨_, by simp only [opA, hx, hy, ht, hv, Option.map_some], hk⟩
  ·exact h.elim
 ·split at h
  ·rename_i hx
   obtain ⟨v, hv, hk⟩ := convS_sound h
   exact ⟨_, by simp only [opA, hx, hv, Option.map_some], hk⟩
  ·exact h.elim
 ·split at h
  ·rename_i hx hl hh
   obtain ⟨v, hv, hk⟩ := sliceS_sound h
   exact ⟨_, by simp only [opA, hx, hl, hh, hv, Option.map_some], hk⟩
  ·exact h.elim
 ·split at h
  ·rename_i hx hy
   obtain ⟨v, hv, hk⟩ := indexAddrS_sound h
   exact ⟨_, by simp only [opA, hx, hy, hv, Option.map_some], hk⟩
  ·exact h.elim
 ·split at h
  ·rename_i hx hy
   obtain ⟨v, hv, hk⟩ := indexS_sound h
   exact ⟨_, by simp only [opA, hx, hy, hv, Option.map_some], hk⟩
  ·exact h.elim
 ·split at h
  ·rename_i hx hy
   obtain ⟨r, hv, hk⟩ := makeSliceS_sound h
   exact ⟨_, by simp only [opA, hx, hy, hv, Option.map_some], hk⟩
  ·exact h.elim
 ·exact callS_sound h
 ·split at h
  ·rename_i he hp
   split at h
   ·rename_i hs hz
    split at h
    ·rename_i hc
     split at h
     ·rename_i hcs
      split at h
      ·rename_i hall
       obtain ⟨H', h1, hk⟩ := settleS_elim h
       exact ⟨_, by simp only [opA, he, hp, hs, hz, if_pos hc, hcs, if_pos hall, h1, Option.map_some], hk⟩
      ·exact h.elim
     ·exact h.elim
    ·exact h.elim
   ·exact h.elim
  ·exact h.elim
 ·exact must_elim h
end sound
end Go.Vx
end
section
set_option linter.unusedVariables false
set_option linter.unusedSimpArgs false
namespace Go.Vx
abbrev Handler := FuncId → List AV → Heap → (AV → Heap → Prop) → Prop
abbrev LoopH := Code → Tm → Heap → (Out → Tm → Heap → Prop) → Option Prop
def forceB (b : Bool) (k : Bool → Prop) : Prop := match b with
 | true => k true
 | false => k false
theorem forceB_elim {b : Bool} {k : Bool → Prop} (h : forceB b k) : k b := by cases b <;> exact h
def forceN (n : Nat) (k : Nat → Prop) : Prop := match n with
 | 0 => k 0
 | n + 1 => k (Nat.succ n)
theorem forceN_elim {n : Nat} {k : Nat → Prop} (h : forceN n k) : k n := by cases n <;> exact h
def forceI (n : Int) (k : Int → Prop) : Prop := match n with
 | .ofNat m => forceN m fun m => k (.ofNat m)
 | .negSucc m => forceN m fun m => k (.negSucc m)
theorem forceI_elim {n : Int} {k : Int → Prop} (h : forceI n k) : k n := by cases n <;> exact forceN_elim (k := fun m => k _) h
def forceEO (t : Bool) (g e z o : Nat) (k : Option Ref → Prop) : Prop := match t with
 | true => k (some ⟨g, e, z, o⟩)
 | false => forceN e fun e => forceN o fun o => k (some ⟨g, e, z, o⟩)
theorem forceEO_elim {t : Bool} {g e z o : Nat} {k : Option Ref → Prop} (h : forceEO t g e z o k) : k (some ⟨g, e, z, o⟩) := by
 cases t with
 | true => exact h
 | false => exact forceN_elim (k := fun o => k (some ⟨g, e, z, o⟩)) (forceN_elim (k := fun e => forceN o fun o => k (some ⟨g, e, z, o⟩)) h)
def forceR (t : Bool) (r : Option Ref) (k : Option Ref → Prop) : Prop := match r with
 | none => k none
 | some ⟨g, e, z, o⟩ => forceN g fun g => forceN z fun z => forceEO t g e z o k
theorem forceR_elim {t : Bool} {r : Option Ref} {k : Option Ref → Prop} (h : forceR t r k) : k r := by
 cases r with
 | none => exact h
 | some r =>
  obtain ⟨g, e, z, o⟩ := r
  exact forceEO_elim (forceN_elim (k := fun z => forceEO t g e z o k) (forceN_elim (k := fun g => forceN z fun z => forceEO t g e z o k) h))
mutual
def forceV : AV → (AV → Prop) → Prop
 | .bool t b, k => match t with
  | true => k (.bool true b)
  | false => forceB b fun b => k (.bool false b)
 | .int t kd n, k => match t with
  | true => k (.int true kd n)
  | false => forceI n fun n => k (.int false kd n)
 | .str t s, k => forceB t fun t => k (.str t s)
 | .ptr t r, k => forceB t fun t => forceR t r fun r => k (.ptr t r)
 | .slice t r n z, k => forceB t fun t => forceR t r fun r => forceN z fun z => match t with
  | true => k (.slice true r n z)
  | false => forceN n fun n => k (.slice false r n z)
 | .eptr t l e o, k => forceN o fun o => k (.eptr t l e o)
 | .agg l, k => forceL l fun l => k (.agg l)
 | .tup l, k => forceL l fun l => k (.tup l)
 | v, k => k v
def forceL : List AV → (List AV → Prop) → Prop
 | [], k => k []
 | v :: l, k => forceV v fun v => forceL l fun l => k (v :: l)
end
mutual
theorem forceV_elim : ∀ {v : AV} {k : AV → Prop}, forceV v k → k v
 | .bool t b, k, h => by
  cases t with
  | true => simpa only [forceV] using h
  | false => simp only [forceV] at h; exact forceB_elim (k := fun b => k (.bool false b)) h
 | .int t kd n, k, h => by
  cases t with
  | true => simpa only [forceV] using h
  | false => simp only [forceV] at h; exact forceI_elim (k := fun n => k (.int false kd n)) h
 | .str t s, k, h => by simp only [forceV] at h; exact forceB_elim (k := fun t => k (.str t s)) h
 | .ptr t r, k, h => by
  simp only [forceV] at h
  exact forceR_elim (forceB_elim (k := fun t => forceR t r fun r => k (.ptr t r)) h)
 | .slice t r n z, k, h => by
  simp only [forceV] at h
  have h1 := forceN_elim (forceR_elim (forceB_elim h))
  cases t with
  | true => exact h1
  | false => exact forceN_elim (k := fun n => k (.slice false r n z)) h1
 | .vec t l, k, h => by simpa only [forceV] using h
 | .eptr t l e o, k, h => by simp only [forceV] at h; exact forceN_elim (k := fun o => k (.eptr t l e o)) h
 | .map r, k, h => by simpa only [forceV] using h
 | .func f a b, k, h => by simpa only [forceV] using h
 | .nilFunc, k, h => by simpa only [forceV] using h
 | .nilIface, k, h => by simpa only [forceV] using h
 | .agg l, k, h => by simp only [forceV] at h; exact forceL_elim (k := fun l => k (.agg l)) h
 | .tup l, k, h => by simp only [forceV] at h; exact forceL_elim (k := fun l => k (.tup l)) h
theorem forceL_elim : ∀ {l : List AV} {k : List AV → Prop}, forceL l k → k l
 | [], k, h => by simpa only [forceL] using h
 | v :: l, k, h => by
  simp only [forceL] at h
  exact forceL_elim (k := fun l => k (v :: l)) (forceV_elim (k := fun v => forceL l fun l => k (v :: l)) h)
end
def forceO (o : Option AObj) (k : Option AObj → Prop) : Prop := match o with
 | some (.cells cs e ro) => forceL cs fun cs => forceB ro fun ro => k (some (.cells cs e ro))
 | some (.vec t l e ro) => forceB ro fun ro => k (some (.vec t l e ro))
 | o => k o
theorem forceO_elim {o : Option AObj} {k : Option AObj → Prop} (h : forceO o k) : k o := by
 unfold forceO at h
 split at h
 ·rename_i cs e ro; exact forceB_elim (k := fun ro => k (some (.cells cs e ro))) (forceL_elim (k := fun cs => forceB ro fun ro => k (some (.cells cs e ro))) h)
 ·rename_i t l e ro; exact forceB_elim (k := fun ro => k (some (.vec t l e ro))) h
 ·exact h
def forceT : Trie AObj → (Trie AObj → Prop) → Prop
 | .leaf, k => k .leaf
 | .node v l r, k => forceO v fun v => forceT l fun l => forceT r fun r => k (.node v l r)
theorem forceT_elim : ∀ {t : Trie AObj} {k : Trie AObj → Prop}, forceT t k → k t
 | .leaf, k, h => h
 | .node v l r, k, h => forceT_elim (k := fun r => k (.node v l r)) (forceT_elim (k := fun l => forceT r fun r => k (.node v l r)) (forceO_elim (k := fun v => forceT l fun l => forceT r fun r => k (.node v l r)) h))
def forceW : Trie Nat → (Trie Nat → Prop) → Prop
 | .leaf, k => k .leaf
 | .node none l r, k => forceW l fun l => forceW r fun r => k (.node none l r)
 | .node (some n) l r, k => forceN n fun n => forceW l fun l => forceW r fun r => k (.node (some n) l r)
theorem forceW_elim : ∀ {t : Trie Nat} {k : Trie Nat → Prop}, forceW t k → k t
 | .leaf, k, h => h
 | .node none l r, k, h => forceW_elim (k := fun r => k (.node none l r)) (forceW_elim (k := fun l => forceW r fun r => k (.node none l r)) h)
 | .node (some n) l r, k, h => forceW_elim (k := fun r => k (.node (some n) l r)) (forceW_elim (k := fun l => forceW r fun r => k (.node (some n) l r)) (forceN_elim (k := fun n => forceW l fun l => forceW r fun r => k (.node (some n) l r)) h))
def forceH (H : Heap) (k : Heap → Prop) : Prop := match H with
 | ⟨n, t, w⟩ => forceN n fun n => forceT t fun t => forceW w fun w => k ⟨n, t, w⟩
theorem forceH_elim {H : Heap} {k : Heap → Prop} (h : forceH H k) : k H := by
 obtain ⟨n, t, w⟩ := H
 exact forceW_elim (k := fun w => k ⟨n, t, w⟩) (forceT_elim (k := fun t => forceW w fun w => k ⟨n, t, w⟩) (forceN_elim (k := fun n => forceT t fun t => forceW w fun w => k ⟨n, t, w⟩) h))
def setK : Nat → Trie AV → Nat → AV → (Trie AV → Prop) → Prop
 | 0, t, _, _, k => k t
 | f + 1, .leaf, n, a, k => match Nat.beq n 0 with
  | true => k (.node (some a) .leaf .leaf)
  | false => match Nat.beq (n % 2) 1 with
   | true => setK f .leaf (n / 2) a fun l => k (.node none l .leaf)
   | false => setK f .leaf (n / 2 - 1) a fun r => k (.node none .leaf r)
 | f + 1, .node v l r, n, a, k => match Nat.beq n 0 with
  | true => k (.node (some a) l r)
  | false => match Nat.beq (n % 2) 1 with
   | true => setK f l (n / 2) a fun l => k (.node v l r)
   | false => setK f r (n / 2 - 1) a fun r => k (.node v l r)
theorem setK_elim : ∀ {f : Nat} {t : Trie AV} {n : Nat} {a : AV} {k : Trie AV → Prop}, setK f t n a k → k (t.setF f n a)
 | 0, t, n, a, k, h => by simp only [setK] at h; simpa only [Trie.setF] using h
 | f + 1, t, n, a, k, h => by
  rw [Trie.setF]
  cases t with
  | leaf =>
   simp only [setK] at h
   split at h
   ·rename_i e; rw [e]; exact h
   ·rename_i e
    rw [e]
    split at h
    ·rename_i e'; rw [e']; exact setK_elim h
    ·rename_i e'; rw [e']; exact setK_elim h
  | node v l r =>
   simp only [setK] at h
   split at h
   ·rename_i e; rw [e]; exact h
   ·rename_i e
    rw [e]
    split at h
    ·rename_i e'; rw [e']; exact setK_elim h
    ·rename_i e'; rw [e']; exact setK_elim h
def dstK (m : Tm) (d : Option Nat) (v : AV) (k : Tm → Prop) : Prop := match d, m with
 | none, m => k m
 | some i, ⟨n, t⟩ => match Nat.blt i n with
  | true => forceV v fun v => setK (i + 1) t i v fun t => k ⟨n, t⟩
  | false => False
theorem dstK_elim {m : Tm} {d : Option Nat} {v : AV} {k : Tm → Prop} (h : dstK m d v k) : ∃ m', m.dst d v = some m' ∧ k m' := by
 cases d with
 | none => exact ⟨m, rfl, h⟩
 | some i =>
  obtain ⟨n, t⟩ := m
  simp only [dstK] at h
  split at h
  ·rename_i hb
   refine ⟨_, ?_, setK_elim (forceV_elim h)⟩
   simp only [Tm.dst, Tm.put, hb, cond_true]
   rfl
  ·exact h.elim
def coolK (dst : Option Nat) (d : Nat) (b : Bool) (m : Tm) (k : Tm → Prop) : Prop := match dst, m with
 | none, ⟨n, t⟩ => setK (d + 1) t d (.bool false b) fun t => k ⟨n, t⟩
 | some e, ⟨n, t⟩ => match Nat.beq e d with
  | true => k ⟨n, t⟩
  | false => setK (d + 1) t d (.bool false b) fun t => k ⟨n, t⟩
theorem coolK_elim {dst : Option Nat} {d : Nat} {b : Bool} {m : Tm} {k : Tm → Prop} (h : coolK dst d b m k) : k (coolD dst d b m) := by
 obtain ⟨n, t⟩ := m
 cases dst with
 | none => exact setK_elim h
 | some e =>
  simp only [coolK] at h
  unfold coolD
  split at h
  ·rename_i e'; simp only [e', cond_true]; exact h
  ·rename_i e'; simp only [e', cond_false]; exact setK_elim h
def coolXK (x : Operand) (b : Bool) (m : Tm) (k : Tm → Prop) : Prop := match x with
 | .tmp d => coolK none d b m k
 | _ => k m
theorem coolXK_elim {x : Operand} {b : Bool} {m : Tm} {k : Tm → Prop} (h : coolXK x b m k) : k (coolX x b m) := by
 cases x with
 | tmp d => exact coolK_elim (show coolK none d b m k from h)
 | _ => exact h
def heapK (P : Program) (o : Op) (H : Heap) (k : Heap → Prop) : Prop := match isEff P o with
 | true => forceH H k
 | false => k H
theorem heapK_elim {P : Program} {o : Op} {H : Heap} {k : Heap → Prop} (h : heapK P o H k) : k H := by
 unfold heapK at h
 split at h
 ·exact forceH_elim h
 ·exact h
section defs
variable (P : Program)
abbrev Kn := List (Nat × Bool)
def knows? : Kn → Nat → Option Bool
 | [], _ => none
 | (e, b) :: l, d => match Nat.beq e d with
  | true => some b
  | false => knows? l d
def strike : Kn → Option Nat → Kn
 | kn, none => kn
 | [], some _ => []
 | (e, b) :: l, some d => match Nat.beq e d with
  | true => strike l (some d)
  | false => (e, b) :: strike l (some d)
def guardN (ops : Array Oper) (o : Oper) (m : Tm) (kn : Kn) (x y : Kn → Prop) : Prop :=
 match o.guard with
 | none => x kn
 | some (j, want) => match ops[j]? with
  | some oj => match oj.dst with
   | some d => match knows? kn d with
    | some b => match b == want with
     | true => x kn
     | false => y kn
    | none => match m.get d with
     | some (.bool t b) => match want with
      | true => fork t b (x ((d, true) :: kn)) (y ((d, false) :: kn))
      | false => fork t b (y ((d, true) :: kn)) (x ((d, false) :: kn))
     | some (.tup []) => y kn
     | _ => False
   | none => False
  | none => False
def stepS (S : Handler) (ops : Array Oper) (o : Oper) (m : Tm) (H : Heap) (kn : Kn) (k : Tm → Heap → Kn → Prop) : Prop :=
 guardN ops o m kn
  (fun kn => match o.op with
   | .pick (.tmp c) a b => match knows? kn c with
    | some true => must (opnd m a) fun v => dstK m o.dst v fun m' => k m' H (strike kn o.dst)
    | some false => must (opnd m b) fun v => dstK m o.dst v fun m' => k m' H (strike kn o.dst)
    | none => match m.get c with
     | some (.bool t x) => fork t x (must (opnd m a) fun v => dstK m o.dst v fun m' => k m' H (strike ((c, true) :: kn) o.dst)) (must (opnd m b) fun v => dstK m o.dst v fun m' => k m' H (strike ((c, false) :: kn) o.dst))
     | _ => False
   | op => opS P op m H fun g => match g with
    | .val v H' => heapK P op H' fun H' => dstK m o.dst v fun m' => k m' H' (strike kn o.dst)
    | .enter f args => forceL args fun args => S f args H fun v H' => forceH H' fun H' => dstK m o.dst v fun m' => k m' H' (strike kn o.dst))
  (fun kn => dstK m o.dst (.tup []) fun m' => k m' H (strike kn o.dst))
def guardCS (ops : Array Oper) (o : Oper) (m : Tm) (x y : (Tm → (Tm → Prop) → Prop) → Prop) : Prop :=
 match o.guard with
 | none => x fun m k => k m
 | some (j, want) => match ops[j]? with
  | some oj => match oj.dst with
   | some d => match m.get d with
    | some (.bool t b) => match want with
     | true => fork t b (x (coolK o.dst d true)) (y (coolK o.dst d false))
     | false => fork t b (y (coolK o.dst d true)) (x (coolK o.dst d false))
    | some (.tup []) => y fun m k => k m
    | _ => False
   | none => False
  | none => False
def stepCS (S : Handler) (ops : Array Oper) (o : Oper) (m : Tm) (H : Heap) (k : Tm → Heap → Prop) : Prop :=
 guardCS ops o m
  (fun cool => match o.op with
   | .pick (.tmp c) a b => match m.get c with
    | some (.bool t x) => fork t x (must (opnd m a) fun v => dstK m o.dst v fun m' => cool m' fun m' => coolK o.dst c true m' fun m' => k m' H) (must (opnd m b) fun v => dstK m o.dst v fun m' => cool m' fun m' => coolK o.dst c false m' fun m' => k m' H)
    | _ => False
   | .pick _ _ _ => False
   | op => opS P op m H fun g => match g with
    | .val v H' => heapK P op H' fun H' => dstK m o.dst v fun m' => cool m' fun m' => k m' H'
    | .enter f args => forceL args fun args => S f args H fun v H' => forceH H' fun H' => dstK m o.dst v fun m' => cool m' fun m' => k m' H')
  (fun cool => match o.op with
   | .pick (.tmp c) _ _ => match m.get c with
    | some (.tup []) => dstK m o.dst (.tup []) fun m' => cool m' fun m' => k m' H
    | _ => False
   | .pick _ _ _ => False
   | _ => dstK m o.dst (.tup []) fun m' => cool m' fun m' => k m' H)
def opsS (S : Handler) (ops : Array Oper) : List Oper → Tm → Heap → (Tm → Heap → Prop) → Prop
 | [], m, H, k => k m H
 | o :: l, m, H, k => stepCS P S ops o m H fun m' H' => opsS S ops l m' H' k
abbrev Entry := Heap × Option Nat
def traceS (S : Handler) (ops : Array Oper) : List Oper → Tm → Heap → Kn → (Tm → Heap → List Entry → Prop) → Prop
 | [], m, H, _, k => k m H []
 | o :: l, m, H, kn, k => stepS P S ops o m H kn fun m' H' kn' => traceS S ops l m' H' kn' fun m2 H2 tr => k m2 H2 ((H, readOf o.op m) :: tr)
def nextH (tr : List Entry) (Hl : Heap) (j : Nat) : Heap :=
 match tr[j + 1]? with
 | some (Hk, _) => Hk
 | none => Hl
def reads (ops : Array Oper) (i : Nat) : Bool := match ops[i]? with
 | some o => match o.op with
  | .load _ _ => true
  | .convert _ _ _ => true
  | _ => false
 | none => false
def pairS (ops : Array Oper) (b : Array Nat) (tr : List Entry) (Hl : Heap) (j i : Nat) (p : Prop) : Prop :=
 match (b.getD j 0).testBit i || (b.getD i 0).testBit j with
 | true => p
 | false => match tr[i]?, tr[j]? with
  | some (_, some g), some (Hj, _) => match Nat.beq (Hj.gen g) ((nextH tr Hl j).gen g) && Nat.blt g Hj.n with
   | true => p
   | false => Hj.get g = (nextH tr Hl j).get g ∧ p
  | _, _ => p
def pairsS (ops : Array Oper) (b : Array Nat) (tr : List Entry) (Hl : Heap) (j : Nat) : List Nat → Prop → Prop
 | [], p => p
 | i :: l, p => match reads ops i with
  | true => pairS ops b tr Hl j i (pairsS ops b tr Hl j l p)
  | false => pairsS ops b tr Hl j l p
def readsS (ops : Array Oper) (b : Array Nat) (tr : List Entry) (Hl : Heap) : List Nat → Prop → Prop
 | [], p => p
 | j :: l, p => match ops[j]? with
  | some y => match isEff P y.op with
   | true => pairsS ops b tr Hl j (List.range ops.size) (readsS ops b tr Hl l p)
   | false => readsS ops b tr Hl l p
  | none => readsS ops b tr Hl l p
def drawS (D : Handler) (ops : Array Oper) (m : Tm) (H : Heap) (k : Tm → Heap → Prop) : Prop :=
 traceS P D ops ops.toList m H [] fun m' H' tr => readsS P ops (Region.before ops) tr H' (List.range ops.size) (k m' H')
structure Twice (a b : Prop) : Prop where
 fst : a
 snd : b
def allS (p : Array Oper → Prop) : List (Array Oper) → Prop
 | [] => False
 | v :: l => match l with
  | [] => p v
  | w :: l' => Twice (p v) (allS p (w :: l'))
theorem allS_elim {p : Array Oper → Prop} : ∀ {l : List (Array Oper)}, allS p l → ∀ v ∈ l, p v
 | [], h, v, hv => by cases hv
 | [u], h, v, hv => by
  simp only [List.mem_singleton] at hv
  subst hv
  exact h
 | u :: x :: l, h, v, hv => by
  have h : Twice (p u) (allS p (x :: l)) := h
  rcases List.mem_cons.1 hv with e | hv
  ·subst e; exact h.fst
  ·exact allS_elim h.snd v hv
def codePl : Code → Bool
 | .region _ ops true => drawOk P ops (Region.before ops)
 | .seq a b => codePl a && codePl b
 | .cond _ a b => codePl a && codePl b
 | .block _ b => codePl b
 | .loop b => codePl b
 | _ => true
def codeOk : Code → Bool
 | .region _ ops true => (turnsOf P 4 ops).all fun v => drawOk P v (Region.before v)
 | .seq a b => codeOk a && codeOk b
 | .cond _ a b => codeOk a && codeOk b
 | .block _ b => codeOk b
 | .loop b => codeOk b
 | _ => true
def fnOk (fn : Func) : Bool := match fn.body with
 | some c => codeOk P c
 | none => true
def progOk : Bool := P.funcs.all (fnOk P)
def execS (S D : Handler) (L : LoopH) : Nat → Code → Tm → Heap → (Out → Tm → Heap → Prop) → Prop
 | 0, _, _, _, _ => False
 | n + 1, c, m, H, k => match c with
  | .skip => k .norm m H
  | .label _ => k .norm m H
  | .region _ ops true => allS (fun v => drawS P D v m H fun m' H' => k .norm m' H') (turnsOf P 4 ops)
  | .region _ ops false => opsS P S ops ops.toList m H fun m' H' => k .norm m' H'
  | .seq a b => execS S D L n a m H fun o m' H' => match o with
   | .norm => execS S D L n b m' H' k
   | o => k o m' H'
  | .cond x a b => match opnd m x with
   | some (.bool t y) => fork t y (coolXK x true m fun m => execS S D L n a m H k) (coolXK x false m fun m => execS S D L n b m H k)
   | _ => False
  | .block id b => execS S D L n b m H fun o m' H' => match o with
   | .exit id' => match Nat.beq id' id with
    | true => k .norm m' H'
    | false => k (.exit id') m' H'
   | o => k o m' H'
  | .loop b => match L b m H k with
   | some p => p
   | none => execS S D L n b m H fun o m' H' => match o with
    | .norm => execS S D L n (.loop b) m' H' k
    | o => k o m' H'
  | .exit id => k (.exit id) m H
  | .ret => k .ret m H
  | _ => False
def bodyS (S D : Handler) (L : LoopH) (n : Nat) (fn : Func) (c : Code) (args : List AV) (H : Heap) (k : AV → Heap → Prop) : Prop :=
 match Nat.ble args.length fn.ntmps with
 | false => False
 | true => execS P S D L n c (startM fn.ntmps args) H fun o m H' => match o with
  | .norm => must (resA P m H' fn.results.toList) fun l => k (pack l) H'
  | .ret => must (resA P m H' fn.results.toList) fun l => k (pack l) H'
  | .exit _ => False
end defs
section sound
variable {P : Program}
def ClS (S : Handler) (cl : Caller) : Prop := ∀ f args H k, S f args H k → ∃ v H', cl f args H = some (v, H') ∧ k v H'
def KnOk (kn : Kn) (m : Tm) : Prop := ∀ d b, knows? kn d = some b → ∃ t, m.get d = some (.bool t b)
theorem KnOk.cons {kn : Kn} {m : Tm} (h : KnOk kn m) {d : Nat} {t b : Bool} (hd : m.get d = some (.bool t b)) : KnOk ((d, b) :: kn) m := fun e c hc => by
 simp only [knows?] at hc
 split at hc
 ·rename_i he
  cases hc
  rw [← Nat.eq_of_beq_eq_true he]
  exact ⟨t, hd⟩
 ·exact h e c hc
theorem knows_strike : ∀ (kn : Kn) (dst : Option Nat) (d : Nat) (b : Bool), knows? (strike kn dst) d = some b → knows? kn d = some b ∧ dst ≠ some d
 | kn, none, d, b, h => ⟨by simpa only [strike] using h, by simp⟩
 | [], some e, d, b, h => by simp only [strike, knows?] at h; cases h
 | (e, c) :: l, some x, d, b, h => by
  simp only [strike] at h
  split at h
  ·rename_i he
   obtain ⟨h1, h2⟩ := knows_strike l (some x) d b h
   refine ⟨?_, h2⟩
   simp only [knows?]
   have : ¬ e = d := fun e' => h2 (by rw [← e', Nat.eq_of_beq_eq_true he])
   rw [nbeq_no this]
   exact h1
  ·rename_i he
   simp only [knows?] at h ⊢
   split at h
   ·rename_i hd
    cases h
    refine ⟨rfl, fun e' => ?_⟩
    cases e'
    rw [he] at hd
    cases hd
   ·rename_i hd
    obtain ⟨h1, h2⟩ := knows_strike l (some x) d b h
    exact ⟨h1, h2⟩
theorem KnOk.dst {kn : Kn} {m m' : Tm} (h : KnOk kn m) {dst : Option Nat} {v : AV} (hm : m.dst dst v = some m') : KnOk (strike kn dst) m' := fun d b hd => by
 obtain ⟨h1, h2⟩ := knows_strike kn dst d b hd
 obtain ⟨t, ht⟩ := h d b h1
 exact ⟨t, by rw [dst_keeps hm h2]; exact ht⟩
theorem guardN_sound {ops : Array Oper} {o : Oper} {m : Tm} {kn : Kn} {x y : Kn → Prop} (hk : KnOk kn m) (h : guardN ops o m kn x y) : ∃ kn', KnOk kn' m ∧ ((guardA ops o m = some true ∧ x kn') ∨ (guardA ops o m = some false ∧ y kn')) := by
 unfold guardN at h
 unfold guardA
 cases hg : o.guard with
 | none => rw [hg] at h; exact ⟨kn, hk, .inl ⟨rfl, h⟩⟩
 | some g =>
  obtain ⟨j, want⟩ := g
  rw [hg] at h
  simp only at h ⊢
  cases hj : ops[j]? with
  | none => rw [hj] at h; exact h.elim
  | some oj =>
   rw [hj] at h
   simp only at h ⊢
   cases hd : oj.dst with
   | none => rw [hd] at h; exact h.elim
   | some d =>
    rw [hd] at h
    simp only at h ⊢
    split at h
    ·rename_i b hb
     obtain ⟨t, ht⟩ := hk d b hb
     rw [ht]
     refine ⟨kn, hk, ?_⟩
     simp only
     split at h
     ·rename_i e; rw [e]; exact .inl ⟨rfl, h⟩
     ·rename_i e; rw [e]; exact .inr ⟨rfl, h⟩
    ·cases hm : m.get d with
     | none => rw [hm] at h; exact h.elim
     | some v =>
      rw [hm] at h
      cases v <;> (try simp only at h ⊢) <;> try (first | exact h.elim; done)
      rotate_left
      ·rename_i l
       cases l with
       | nil => exact ⟨kn, hk, .inr ⟨rfl, h⟩⟩
       | cons _ _ => exact h.elim
      cases want with
      | true =>
       rcases fork_elim h with ⟨rfl, h'⟩ | ⟨rfl, h'⟩
       ·exact ⟨_, hk.cons hm, .inl ⟨rfl, h'⟩⟩
       ·exact ⟨_, hk.cons hm, .inr ⟨rfl, h'⟩⟩
      | false =>
       rcases fork_elim h with ⟨rfl, h'⟩ | ⟨rfl, h'⟩
       ·exact ⟨_, hk.cons hm, .inr ⟨rfl, h'⟩⟩
       ·exact ⟨_, hk.cons hm, .inl ⟨rfl, h'⟩⟩
theorem stepS_sound {S : Handler} {cl : Caller} (hcl : ClS S cl) {ops : Array Oper} {o : Oper} {m : Tm} {H : Heap} {kn : Kn} (hk : KnOk kn m) {k : Tm → Heap → Kn → Prop} (h : stepS P S ops o m H kn k) :
  ∃ m' H' kn', stepA P cl ops o m H = some (m', H') ∧ KnOk kn' m' ∧ k m' H' kn' := by
 unfold stepS at h
 unfold stepA
 obtain ⟨kn, hk, ⟨hg, h⟩ | ⟨hg, h⟩⟩ := guardN_sound hk h
 ·rw [hg]
  have pickT : ∀ c a b t, o.op = .pick (.tmp c) a b → m.get c = some (.bool t true) → ∀ kn', KnOk kn' m → (must (opnd m a) fun v => dstK m o.dst v fun m' => k m' H (strike kn' o.dst)) →
    ∃ m' H' kn', (match opA P o.op m H with
     | none => none
     | some (.val v H') => (m.dst o.dst v).map fun m' => (m', H')
     | some (.enter f args) => match cl f args H with
      | none => none
      | some (v, H') => (m.dst o.dst v).map fun m' => (m', H')) = some (m', H') ∧ KnOk kn' m' ∧ k m' H' kn' := by
   intro c a b t ho hc kn' hk' h
   obtain ⟨v, hv, h⟩ := must_elim h
   obtain ⟨m', hm, h⟩ := dstK_elim h
   have hc' : opnd m (.tmp c) = some (.bool t true) := hc
   exact ⟨m', H, _, by simp only [ho, opA, hc', hv, hm, Option.map_some], hk'.dst hm, h⟩
  have pickF : ∀ c a b t, o.op = .pick (.tmp c) a b → m.get c = some (.bool t false) → ∀ kn', KnOk kn' m → (must (opnd m b) fun v => dstK m o.dst v fun m' => k m' H (strike kn' o.dst)) →
    ∃ m' H' kn', (match opA P o.op m H with
     | none => none
     | some (.val v H') => (m.dst o.dst v).map fun m' => (m', H')
     | some (.enter f args) => match cl f args H with
      | none => none
      | some (v, H') => (m.dst o.dst v).map fun m' => (m', H')) = some (m', H') ∧ KnOk kn' m' ∧ k m' H' kn' := by
   intro c a b t ho hc kn' hk' h
   obtain ⟨v, hv, h⟩ := must_elim h
   obtain ⟨m', hm, h⟩ := dstK_elim h
   have hc' : opnd m (.tmp c) = some (.bool t false) := hc
   exact ⟨m', H, _, by simp only [ho, opA, hc', hv, hm, Option.map_some], hk'.dst hm, h⟩
  split at h
  ·rename_i c a b ho
   split at h
   ·rename_i hb; obtain ⟨t, ht⟩ := hk _ _ hb; exact pickT c a b t ho ht kn hk h
   ·rename_i hb; obtain ⟨t, ht⟩ := hk _ _ hb; exact pickF c a b t ho ht kn hk h
   ·split at h
    ·rename_i t x hx
     rcases fork_elim h with ⟨rfl, h'⟩ | ⟨rfl, h'⟩
     ·exact pickT c a b t ho hx _ (hk.cons hx) h'
     ·exact pickF c a b t ho hx _ (hk.cons hx) h'
    ·exact h.elim
  ·obtain ⟨g, hg', h⟩ := opS_sound h
   rw [hg']
   cases g with
   | val v H' =>
    obtain ⟨m', hm, h⟩ := dstK_elim (heapK_elim h)
    exact ⟨m', H', _, by simp only [hm, Option.map_some], hk.dst hm, h⟩
   | enter f args =>
    obtain ⟨v, H', hc, h⟩ := hcl f args H _ (forceL_elim h)
    obtain ⟨m', hm, h⟩ := dstK_elim (forceH_elim h)
    exact ⟨m', H', _, by simp only [hc, hm, Option.map_some], hk.dst hm, h⟩
 ·rw [hg]
  obtain ⟨m', hm, h⟩ := dstK_elim h
  exact ⟨m', H, _, by simp only [hm, Option.map_some], hk.dst hm, h⟩
theorem guardCS_sound {ops : Array Oper} {o : Oper} {m : Tm} {x y : (Tm → (Tm → Prop) → Prop) → Prop} (h : guardCS ops o m x y) :
  ∃ cool, (∀ m' (k : Tm → Prop), cool m' k → k (coolGuard ops o m m')) ∧ ((guardA ops o m = some true ∧ x cool) ∨ (guardA ops o m = some false ∧ y cool)) := by
 unfold guardCS at h
 unfold guardA coolGuard
 cases hg : o.guard with
 | none => rw [hg] at h; exact ⟨_, fun _ _ h => h, .inl ⟨rfl, h⟩⟩
 | some g =>
  obtain ⟨j, want⟩ := g
  rw [hg] at h
  simp only at h ⊢
  cases hj : ops[j]? with
  | none => rw [hj] at h; exact h.elim
  | some oj =>
   rw [hj] at h
   simp only at h ⊢
   cases hd : oj.dst with
   | none => rw [hd] at h; exact h.elim
   | some d =>
    rw [hd] at h
    simp only at h ⊢
    cases hm : m.get d with
    | none => rw [hm] at h; exact h.elim
    | some v =>
     rw [hm] at h
     cases v <;> simp only at h ⊢ <;> try (first | exact h.elim; done)
     rotate_left
     ·rename_i l
      cases l with
      | nil => exact ⟨_, fun _ _ h => h, .inr ⟨rfl, h⟩⟩
      | cons _ _ => exact h.elim
     cases want with
     | true =>
      rcases fork_elim h with ⟨rfl, h'⟩ | ⟨rfl, h'⟩
      ·exact ⟨_, fun _ _ h => coolK_elim h, .inl ⟨rfl, h'⟩⟩
      ·exact ⟨_, fun _ _ h => coolK_elim h, .inr ⟨rfl, h'⟩⟩
     | false =>
      rcases fork_elim h with ⟨rfl, h'⟩ | ⟨rfl, h'⟩
      ·exact ⟨_, fun _ _ h => coolK_elim h, .inr ⟨rfl, h'⟩⟩
      ·exact ⟨_, fun _ _ h => coolK_elim h, .inl ⟨rfl, h'⟩⟩
theorem coolPick_none {o : Oper} (h : ∀ c a b, o.op ≠ .pick c a b) (m m' : Tm) : coolPick o m m' = m' := by
 unfold coolPick
 split
 ·rename_i c a b ho; exact absurd ho (h _ a b)
 ·rfl
theorem stepCS_sound {S : Handler} {cl : Caller} (hcl : ClS S cl) {ops : Array Oper} {o : Oper} {m : Tm} {H : Heap} {k : Tm → Heap → Prop} (h : stepCS P S ops o m H k) :
  ∃ m' H', stepC P cl ops o m H = some (m', H') ∧ k m' H' := by
 unfold stepCS at h
 obtain ⟨cool, hc, ⟨hg, h⟩ | ⟨hg, h⟩⟩ := guardCS_sound h
 ·split at h
  ·rename_i c a b ho
   split at h
   ·rename_i t x hx
    rcases fork_elim h with ⟨rfl, h'⟩ | ⟨rfl, h'⟩
    ·obtain ⟨v, hv, h'⟩ := must_elim h'
     obtain ⟨m', hm, h'⟩ := dstK_elim h'
     have hk := coolK_elim (hc _ _ h')
     refine ⟨_, H, ?_, hk⟩
     have hx' : opnd m (.tmp c) = some (.bool t true) := hx
     simp only [stepC, stepA, hg, ho, opA, hx', hv, hx, hm, Option.map_some, coolPick]
    ·obtain ⟨v, hv, h'⟩ := must_elim h'
     obtain ⟨m', hm, h'⟩ := dstK_elim h'
     have hk := coolK_elim (hc _ _ h')
     refine ⟨_, H, ?_, hk⟩
     have hx' : opnd m (.tmp c) = some (.bool t false) := hx
     simp only [stepC, stepA, hg, ho, opA, hx', hv, hx, hm, Option.map_some, coolPick]
   ·exact h.elim
  ·exact h.elim
  ·rename_i hno1 hno2
   have hno : ∀ c a b, o.op ≠ .pick c a b := fun c a b e => hno2 c a b e
   obtain ⟨g, hg', h⟩ := opS_sound h
   cases g with
   | val v H' =>
    obtain ⟨m', hm, h⟩ := dstK_elim (heapK_elim h)
    have hk := hc _ _ h
    exact ⟨_, H', by simp only [stepC, stepA, hg, hg', hm, Option.map_some, coolPick_none hno], hk⟩
   | enter f args =>
    obtain ⟨v, H', hcv, h⟩ := hcl f args H _ (forceL_elim h)
    obtain ⟨m', hm, h⟩ := dstK_elim (forceH_elim h)
    have hk := hc _ _ h
    exact ⟨_, H', by simp only [stepC, stepA, hg, hg', hcv, hm, Option.map_some, coolPick_none hno], hk⟩
 ·split at h
  ·rename_i c a b ho
   split at h
   ·rename_i hx
    obtain ⟨m', hm, h⟩ := dstK_elim h
    have hk := hc _ _ h
    exact ⟨_, H, by simp only [stepC, stepA, hg, hm, Option.map_some, coolPick, ho, hx], hk⟩
   ·exact h.elim
  ·exact h.elim
  ·rename_i hno1 hno
   obtain ⟨m', hm, h⟩ := dstK_elim h
   have hk := hc _ _ h
   exact ⟨_, H, by simp only [stepC, stepA, hg, hm, Option.map_some, coolPick_none (fun c a b e => hno c a b e)], hk⟩
theorem opsS_sound {S : Handler} {cl : Caller} (hcl : ClS S cl) {ops : Array Oper} : ∀ {l : List Oper} {m : Tm} {H : Heap} {k : Tm → Heap → Prop}, opsS P S ops l m H k → ∃ m' H', opsA P cl ops l m H = some (m', H') ∧ k m' H'
 | [], m, H, k, h => ⟨m, H, rfl, h⟩
 | o :: l, m, H, k, h => by
  obtain ⟨m1, H1, h1, h⟩ := stepCS_sound hcl h
  obtain ⟨m2, H2, h2, hk⟩ := opsS_sound hcl h
  exact ⟨m2, H2, by simp only [opsA, h1, h2], hk⟩
def Later (H H' : Heap) : Prop := H.n ≤ H'.n ∧ ∀ g, g < H.n → H.gen g ≤ H'.gen g ∧ (H'.gen g = H.gen g → H'.get g = H.get g)
theorem Later.refl (H : Heap) : Later H H := ⟨Nat.le_refl _, fun _ _ => ⟨Nat.le_refl _, fun _ => rfl⟩⟩
theorem Later.trans {H H1 H2 : Heap} (h : Later H H1) (k : Later H1 H2) : Later H H2 :=
 ⟨Nat.le_trans h.1 k.1, fun g hg => by
  obtain ⟨a1, a2⟩ := h.2 g hg
  obtain ⟨b1, b2⟩ := k.2 g (Nat.lt_of_lt_of_le hg h.1)
  exact ⟨Nat.le_trans a1 b1, fun e => by rw [b2 (by omega), a2 (by omega)]⟩⟩
theorem Later.push (H : Heap) (o : AObj) : Later H (H.push o) :=
 ⟨by simp, fun g hg => ⟨Nat.le_refl _, fun _ => by rw [Heap.get_push, if_neg (by omega)]⟩⟩
theorem Later.set (H : Heap) (g : Nat) (o : AObj) : Later H (H.set g o) :=
 ⟨by simp, fun h hh => by
  have hgen : (H.set g o).gen h = if h = g then H.gen g + 1 else H.gen h := by
   have h1 : (H.set g o).w.get h = if h = g then some (H.gen g + 1) else H.w.get h := Trie.get_set ..
   by_cases e : h = g
   ·rw [if_pos e] at h1 ⊢
    unfold Heap.gen at h1 ⊢
    rw [h1]
   ·rw [if_neg e] at h1 ⊢
    unfold Heap.gen
    rw [h1]
  rw [hgen]
  by_cases e : h = g
  ·subst e
   rw [if_pos rfl]
   exact ⟨by omega, fun e => by omega⟩
  ·rw [if_neg e]
   exact ⟨Nat.le_refl _, fun _ => by rw [Heap.get_set, if_neg e]⟩⟩
theorem freezeV_later {f : Nat → List AV → Heap → Option (List AV × Heap)} (hf : ∀ n l H l' H', f n l H = some (l', H') → Later H H') {t : Ty} {v v' : AV} {H H' : Heap} (h : freezeV f t v H = some (v', H')) : Later H H' := by
 unfold freezeV at h
 split at h
 ·split at h
  ·obtain ⟨_, _, he⟩ := map_got h; cases he; exact Later.refl _
  ·obtain ⟨_, _, he⟩ := map_got h; cases he; exact Later.set _ _ _
  ·split at h
   ·rename_i h1
    split at h
    ·split at h
     ·obtain ⟨_, _, he⟩ := map_got h; cases he; exact (hf _ _ _ _ _ h1).trans (Later.set _ _ _)
     ·cases h
    ·cases h
   ·cases h
  ·cases h
 ·cases h; exact Later.refl _
theorem meltN_later {f : List AV → Heap → Option (List AV × List AV × Heap)} (hf : ∀ l H d l' H', f l H = some (d, l', H') → Later H H') : ∀ (n : Nat) (l : List AV) (H : Heap) (l' : List AV) (H' : Heap), meltN f n l H = some (l', H') → Later H H' := by
 intro n
 induction n with
 | zero =>
  intro l H l' H' h
  cases l with
  | nil => simp only [meltN, Option.some.injEq, Prod.mk.injEq] at h; obtain ⟨_, rfl⟩ := h; exact Later.refl _
  | cons => simp [meltN] at h
 | succ n ih =>
  intro l H l' H' h
  simp only [meltN] at h
  split at h
  ·rename_i h1
   split at h
   ·rename_i h2; cases h; exact (hf _ _ _ _ _ h1).trans (ih _ _ _ _ h2)
   ·cases h
  ·cases h
theorem meltT_later : (t : Ty) → ∀ (l : List AV) (H : Heap) (d l' : List AV) (H' : Heap), meltT t l H = some (d, l', H') → Later H H'
 | .sl t, l, H, d, l', H', h => by
  cases l with
  | nil => simp [meltT] at h
  | cons v l =>
   simp only [meltT] at h
   obtain ⟨u, hu, he⟩ := map_got h
   cases he
   exact freezeV_later (meltN_later (meltT_later t)) hu
 | .pair a b, l, H, d, l', H', h => by
  simp only [meltT] at h
  split at h
  ·rename_i h1
   split at h
   ·rename_i h2; cases h; exact (meltT_later a _ _ _ _ _ h1).trans (meltT_later b _ _ _ _ _ h2)
   ·cases h
  ·cases h
 | .unit, l, H, d, l', H', h => by simp only [meltT, Option.some.injEq, Prod.mk.injEq] at h; obtain ⟨_, _, rfl⟩ := h; exact Later.refl _
 | .bool, l, H, d, l', H', h => by cases l <;> simp [meltT] at h; obtain ⟨_, _, rfl⟩ := h; exact Later.refl _
 | .int _, l, H, d, l', H', h => by cases l <;> simp [meltT] at h; obtain ⟨_, _, rfl⟩ := h; exact Later.refl _
 | .byte, l, H, d, l', H', h => by cases l <;> simp [meltT] at h; obtain ⟨_, _, rfl⟩ := h; exact Later.refl _
 | .str, l, H, d, l', H', h => by cases l <;> simp [meltT] at h; obtain ⟨_, _, rfl⟩ := h; exact Later.refl _
theorem settle_later {g : Nat} {e : TypeId} {H H' : Heap} (h : settle P g e H = some H') : Later H H' := by
 unfold settle at h
 split at h
 ·cases h; exact Later.refl _
 ·split at h
  ·split at h
   ·rename_i h1
    split at h
    ·split at h
     ·cases h; exact (meltN_later (meltT_later _) _ _ _ _ _ h1).trans (Later.set _ _ _)
     ·cases h
    ·cases h
   ·cases h
  ·cases h
theorem storeV_later {H H' : Heap} {t : TypeId} {r : Ref} {v : AV} (h : storeV P H t r v = some H') : Later H H' := by
 unfold storeV at h
 split at h
 ·split at h
  ·split at h
   ·split at h
    ·cases h; exact Later.set _ _ _
    ·cases h
   ·cases h
  ·cases h
 ·cases h
theorem appendA_later {H H' : Heap} {t : TypeId} {s x v : AV} (h : appendA P t s x H = some (v, H')) : Later H H' := by
 unfold appendA at h
 split at h
 ·cases h
 ·split at h
  ·split at h
   ·cases h
   ·split at h
    ·cases h
    ·split at h
     ·split at h
      ·obtain ⟨_, h⟩ := Option.ite_none_right_eq_some.mp h
       cases h; exact Later.refl _
      ·cases h
     ·split at h
      ·split at h
       ·cases h; exact Later.push _ _
       ·cases h
      ·split at h
       ·split at h
        ·split at h
         ·cases h; exact (Later.set _ _ _).trans (Later.push _ _)
         ·cases h
        ·cases h
       ·cases h
      ·cases h
  ·cases h
theorem convA_later {H H' : Heap} {s d : TypeId} {x v : AV} (h : convA P s d x H = some (v, H')) : Later H H' := by
 unfold convA at h
 split at h
 ·cases h; exact Later.refl _
 ·cases h; exact Later.refl _
 ·split at h
  ·cases h; exact Later.push _ _
  ·cases h
 ·split at h
  ·split at h
   ·obtain ⟨_, _, he⟩ := map_some h; cases he; exact Later.refl _
   ·cases h
  ·cases h
 ·split at h
  ·cases h; exact Later.refl _
  ·cases h
 ·split at h
  ·split at h
   ·split at h
    ·cases h; exact Later.set _ _ _
    ·cases h
   ·cases h
  ·cases h
 ·split at h
  ·split at h
   ·cases h; exact Later.refl _
   ·cases h
  ·cases h
 ·split at h
  ·split at h
   ·cases h; exact Later.refl _
   ·cases h
  ·cases h
 ·cases h
theorem makeSliceA_later {H H' : Heap} {t : TypeId} {l c v : AV} (h : makeSliceA P t l c H = some (v, H')) : Later H H' := by
 unfold makeSliceA at h
 split at h
 ·split at h
  ·split at h
   ·split at h
    ·cases h; exact Later.push _ _
    ·cases h; exact Later.push _ _
   ·cases h
  ·cases h
 ·cases h
theorem rawStr_later {H H' : Heap} {pt : TypeId} {r : Option Ref} {n : Int} {v : AV} (h : rawStr P pt r n H = some (v, H')) : Later H H' := by
 unfold rawStr at h
 split at h
 ·split at h
  ·cases h; exact Later.refl _
  ·cases h
 ·split at h
  ·split at h
   ·split at h
    ·split at h
     ·cases h; exact Later.set _ _ _
     ·cases h
    ·cases h
   ·cases h
  ·cases h
theorem clearA_later {H H' : Heap} {t : TypeId} {r : Ref} {n z : Nat} (h : clearA P t r n z H = some H') : Later H H' := by
 unfold clearA at h
 split at h
 ·cases h
 ·split at h
  ·split at h
   ·split at h
    ·split at h
     ·split at h
      ·cases h; exact Later.set _ _ _
      ·cases h
     ·cases h
    ·cases h
   ·cases h
  ·cases h
theorem callA_later {H H' : Heap} {c : Call} {m : Tm} {v : AV} (h : callA P c m H = some (.val v H')) : Later H H' := by
 unfold callA at h
 split at h
 ·cases h
 ·split at h
  ·unfold builtinA at h
   split at h
   ·obtain ⟨_, _, he⟩ := map_some h; cases he; exact Later.refl _
   ·obtain ⟨_, _, he⟩ := map_some h; cases he; exact Later.refl _
   ·obtain ⟨_, _, he⟩ := map_some h; cases he; exact Later.refl _
   ·split at h
    ·obtain ⟨⟨_, _⟩, h1, he⟩ := map_some h; cases he; exact appendA_later h1
    ·cases h
   ·obtain ⟨_, _, he⟩ := map_some h; cases he; exact Later.refl _
   ·obtain ⟨⟨_, _⟩, h1, he⟩ := map_some h; cases he; exact rawStr_later h1
   ·obtain ⟨_, h1, he⟩ := map_some h; cases he; exact clearA_later h1
   ·cases h
  ·split at h
   ·split at h
    ·split at h
     ·cases h
     ·split at h
      ·split at h
       ·cases h; exact Later.refl _
       ·cases h
      ·cases h
    ·cases h
   ·cases h
  ·cases h
theorem opA_later {H H' : Heap} {o : Op} {m : Tm} {v : AV} (h : opA P o m H = some (.val v H')) : Later H H' := by
 cases he : isEff P o with
 | false =>
  obtain ⟨v', hv, _⟩ := opA_still (H' := H) he h fun _ _ => rfl
  cases hv
  exact Later.refl _
 | true =>
  cases o <;> simp only [isEff] at he <;> try (first | (cases he; done))
  case alloc t =>
   simp only [opA] at h
   split at h
   ·split at h
    ·cases h; exact Later.push _ _
    ·cases h
   ·cases h
  case box t x =>
   simp only [opA] at h
   split at h
   ·split at h
    ·cases h; exact Later.push _ _
    ·cases h
   ·cases h
  case buildSlice t n ps =>
   simp only [opA] at h
   split at h
   ·split at h
    ·split at h
     ·split at h
      ·split at h
       ·obtain ⟨_, h1, he⟩ := map_got h; cases he; exact (Later.push _ _).trans (settle_later h1)
       ·cases h
      ·cases h
     ·cases h
    ·cases h
   ·cases h
  case store t x y =>
   simp only [opA] at h
   split at h
   ·obtain ⟨_, h1, he⟩ := map_some h; cases he; exact storeV_later h1
   ·cases h
  case binOp op t x y u =>
   simp only [opA] at h
   split at h
   ·split at h
    ·cases h; exact Later.refl _
    ·obtain ⟨_, _, he⟩ := map_some h; cases he; exact Later.refl _
   ·cases h
  case convert s d x =>
   simp only [opA] at h
   split at h
   ·obtain ⟨⟨_, _⟩, h1, he⟩ := map_some h; cases he; exact convA_later h1
   ·cases h
  case makeSlice t l c =>
   simp only [opA] at h
   split at h
   ·obtain ⟨⟨_, _⟩, h1, he⟩ := map_some h; cases he; exact makeSliceA_later h1
   ·cases h
  case call c => simp only [opA] at h; exact callA_later h
def ClLater (cl : Caller) : Prop := ∀ f args H v H', cl f args H = some (v, H') → Later H H'
theorem stepA_later {cl : Caller} (hL : ClLater cl) {ops : Array Oper} {o : Oper} {m m' : Tm} {H H' : Heap} (h : stepA P cl ops o m H = some (m', H')) : Later H H' := by
 unfold stepA at h
 split at h
 ·cases h
 ·obtain ⟨_, _, he⟩ := map_some h; cases he; exact Later.refl _
 ·split at h
  ·cases h
  ·rename_i hop; obtain ⟨_, _, he⟩ := map_some h; cases he; exact opA_later hop
  ·split at h
   ·cases h
   ·rename_i hc; obtain ⟨_, _, he⟩ := map_some h; cases he; exact hL _ _ _ _ _ hc
theorem opsA_later {cl : Caller} (hL : ClLater cl) {ops : Array Oper} : ∀ {l : List Oper} {m m' : Tm} {H H' : Heap}, opsA P cl ops l m H = some (m', H') → Later H H'
 | [], m, m', H, H', h => by simp only [opsA] at h; cases h; exact Later.refl _
 | o :: l, m, m', H, H', h => by
  simp only [opsA] at h
  split at h
  ·cases h
  ·rename_i hs
   unfold stepC at hs
   obtain ⟨⟨_, _⟩, h1, he⟩ := map_some hs
   cases he
   exact (stepA_later hL h1).trans (opsA_later hL h)
theorem traceA_later {cl : Caller} (hL : ClLater cl) {ops : Array Oper} : ∀ {l : List Oper} {m m' : Tm} {H H' : Heap} {tr : List (Heap × Option Nat)}, traceA P cl ops l m H = some (m', H', tr) → Later H H'
 | [], m, m', H, H', tr, h => by simp only [traceA] at h; cases h; exact Later.refl _
 | o :: l, m, m', H, H', tr, h => by
  simp only [traceA] at h
  split at h
  ·cases h
  ·rename_i hs
   split at h
   ·cases h
   ·rename_i ht
    cases h
    exact (stepA_later hL hs).trans (traceA_later hL ht)
theorem execA_later {cl : Caller} (hL : ClLater cl) : ∀ (n : Nat) (c : Code) {m m' : Tm} {H H' : Heap} {o : Out}, execA P cl n c m H = some (o, m', H') → Later H H'
 | 0, c, m, m', H, H', o, h => by simp only [execA] at h; cases h
 | n + 1, c, m, m', H, H', o, h => by
  cases c with
  | skip => simp only [execA] at h; cases h; exact Later.refl _
  | label l => simp only [execA] at h; cases h; exact Later.refl _
  | exit id => simp only [execA] at h; cases h; exact Later.refl _
  | ret => simp only [execA] at h; cases h; exact Later.refl _
  | region id ops draw =>
   simp only [execA] at h
   obtain ⟨⟨m1, H1⟩, h1, he⟩ := map_some h
   cases he
   cases draw with
   | true =>
    rw [if_pos rfl] at h1
    unfold drawA at h1
    split at h1
    ·split at h1
     ·cases h1
     ·rename_i ht
      split at h1
      ·cases h1; exact traceA_later hL ht
      ·cases h1
    ·cases h1
   | false => rw [if_neg (by simp)] at h1; exact opsA_later hL h1
  | seq a b =>
   simp only [execA] at h
   split at h
   ·rename_i h1; exact (execA_later hL n a h1).trans (execA_later hL n b h)
   ·exact execA_later hL n a h
  | cond x a b =>
   simp only [execA] at h
   split at h
   ·exact execA_later hL n a h
   ·exact execA_later hL n b h
   ·cases h
  | block id b =>
   simp only [execA] at h
   split at h
   ·rename_i h1
    split at h
    ·cases h; exact execA_later hL n b h1
    ·cases h; exact execA_later hL n b h1
   ·exact execA_later hL n b h
  | loop b =>
   simp only [execA] at h
   split at h
   ·rename_i h1; exact (execA_later hL n b h1).trans (execA_later hL n (.loop b) h)
   ·exact execA_later hL n b h
  | _ => simp only [execA] at h; cases h
def Valid (tr : List Entry) (Hl : Heap) : Prop := ∀ j Hj rd, tr[j]? = some (Hj, rd) → Later Hj (nextH tr Hl j)
theorem traceS_sound {S : Handler} {cl : Caller} (hcl : ClS S cl) (hL : ClLater cl) {ops : Array Oper} : ∀ {l : List Oper} {m : Tm} {H : Heap} {kn : Kn} (_ : KnOk kn m) {k : Tm → Heap → List Entry → Prop}, traceS P S ops l m H kn k →
  ∃ m' H' tr, traceA P cl ops l m H = some (m', H', tr) ∧ Valid tr H' ∧ k m' H' tr ∧ ((tr[0]?).map (·.1) = some H ∨ (tr = [] ∧ H' = H))
 | [], m, H, kn, _, k, h => ⟨m, H, [], rfl, fun j Hj rd h => by simp at h, h, .inr ⟨rfl, rfl⟩⟩
 | o :: l, m, H, kn, hkn, k, h => by
  obtain ⟨m1, H1, kn1, h1, hkn1, h⟩ := stepS_sound hcl hkn h
  obtain ⟨m2, H2, tr, h2, hv, hk, h0⟩ := traceS_sound hcl hL hkn1 h
  refine ⟨m2, H2, _, by simp only [traceA, h1, h2], fun j Hj rd hj => ?_, hk, .inl rfl⟩
  cases j with
  | zero =>
   simp only [List.getElem?_cons_zero, Option.some.injEq, Prod.mk.injEq] at hj
   obtain ⟨rfl, rfl⟩ := hj
   have := stepA_later hL h1
   unfold nextH
   simp only [Nat.zero_add, List.getElem?_cons_succ]
   rcases h0 with h0 | ⟨rfl, rfl⟩
   ·cases hq : tr[0]? with
    | none => rw [hq] at h0; cases h0
    | some e =>
     rw [hq] at h0
     simp only [Option.map_some, Option.some.injEq] at h0
     subst h0
     exact this
   ·simpa using this
  | succ j =>
   simp only [List.getElem?_cons_succ] at hj
   have := hv j Hj rd hj
   unfold nextH at this ⊢
   simpa using this
theorem pairS_sound {ops : Array Oper} {b : Array Nat} {tr : List Entry} {Hl : Heap} (hv : Valid tr Hl) {j i : Nat} {p : Prop} (h : pairS ops b tr Hl j i p) :
  p ∧ ∀ g Hi Hj rj, (b.getD j 0).testBit i = false → (b.getD i 0).testBit j = false → tr[i]? = some (Hi, some g) → tr[j]? = some (Hj, rj) → Hj.get g = (nextH tr Hl j).get g := by
 unfold pairS at h
 split at h
 ·rename_i hb
  refine ⟨h, fun g Hi Hj rj h1 h2 => ?_⟩
  rw [h1, h2] at hb
  cases hb
 ·split at h
  ·rename_i g Hj rj hi hj
   split at h
   ·rename_i hc
    refine ⟨h, fun g' Hi' Hj' rj' _ _ h3 h4 => ?_⟩
    rw [hi] at h3; rw [hj] at h4
    cases h3; cases h4
    simp only [Bool.and_eq_true] at hc
    exact ((hv j _ _ hj).2 _ (Nat.blt_eq.mp hc.2)).2 (Nat.eq_of_beq_eq_true hc.1).symm |>.symm
   ·refine ⟨h.2, fun g' Hi' Hj' rj' _ _ h3 h4 => ?_⟩
    rw [hi] at h3; rw [hj] at h4
    cases h3; cases h4
    exact h.1
  ·rename_i h5
   exact ⟨h, fun g' Hi' Hj' rj' _ _ h3 h4 => (h5 _ _ _ _ h3 h4).elim⟩
theorem pairsS_sound {ops : Array Oper} {b : Array Nat} {tr : List Entry} {Hl : Heap} (hv : Valid tr Hl) {j : Nat} : ∀ {l : List Nat} {p : Prop}, pairsS ops b tr Hl j l p →
  p ∧ ∀ i, i ∈ l → reads ops i = true → ∀ g Hi Hj rj, (b.getD j 0).testBit i = false → (b.getD i 0).testBit j = false → tr[i]? = some (Hi, some g) → tr[j]? = some (Hj, rj) → Hj.get g = (nextH tr Hl j).get g
 | [], p, h => ⟨h, fun i hi => by cases hi⟩
 | i :: l, p, h => by
  simp only [pairsS] at h
  split at h
  ·obtain ⟨h, h1⟩ := pairS_sound hv h
   obtain ⟨h, h2⟩ := pairsS_sound hv h
   refine ⟨h, fun i' hi => ?_⟩
   rcases List.mem_cons.1 hi with rfl | hi
   ·exact fun _ => h1
   ·exact h2 i' hi
  ·rename_i hn
   obtain ⟨h, h2⟩ := pairsS_sound hv h
   refine ⟨h, fun i' hi => ?_⟩
   rcases List.mem_cons.1 hi with rfl | hi
   ·intro hr; rw [hn] at hr; cases hr
   ·exact h2 i' hi
theorem readsS_sound {ops : Array Oper} {b : Array Nat} {tr : List Entry} {Hl : Heap} (hv : Valid tr Hl) : ∀ {l : List Nat} {p : Prop}, readsS P ops b tr Hl l p →
  p ∧ ∀ j, j ∈ l → ∀ y, ops[j]? = some y → isEff P y.op = true → ∀ i, i < ops.size → reads ops i = true → ∀ g Hi Hj rj, (b.getD j 0).testBit i = false → (b.getD i 0).testBit j = false → tr[i]? = some (Hi, some g) → tr[j]? = some (Hj, rj) → Hj.get g = (nextH tr Hl j).get g
 | [], p, h => ⟨h, fun i hi => by cases hi⟩
 | j :: l, p, h => by
  unfold readsS at h
  split at h
  ·rename_i y hy
   split at h
   ·obtain ⟨h, h1⟩ := pairsS_sound hv h
    obtain ⟨h, h2⟩ := readsS_sound hv h
    refine ⟨h, fun j' hj => ?_⟩
    rcases List.mem_cons.1 hj with rfl | hj
    ·exact fun y' _ _ i hi => h1 i (List.mem_range.2 hi)
    ·exact h2 j' hj
   ·rename_i he
    obtain ⟨h, h2⟩ := readsS_sound hv h
    refine ⟨h, fun j' hj => ?_⟩
    rcases List.mem_cons.1 hj with rfl | hj
    ·intro y' hy' he'
     rw [hy] at hy'
     cases hy'
     rw [he] at he'
     cases he'
    ·exact h2 j' hj
  ·rename_i hn
   obtain ⟨h, h2⟩ := readsS_sound hv h
   refine ⟨h, fun j' hj => ?_⟩
   rcases List.mem_cons.1 hj with rfl | hj
   ·intro y' hy'
    rw [hn] at hy'
    cases hy'
   ·exact h2 j' hj
theorem trace_reads {cl : Caller} {ops : Array Oper} : ∀ {l : List Oper} {m m' : Tm} {H H' : Heap} {tr : List (Heap × Option Nat)}, traceA P cl ops l m H = some (m', H', tr) → ∀ (i : Nat) (o : Oper) (Hi : Heap) (g : Nat), l[i]? = some o → tr[i]? = some (Hi, some g) → ∃ mi, readOf o.op mi = some g
 | [], m, m', H, H', tr, h, i, o, Hi, g, hi, ht => by simp at hi
 | o :: l, m, m', H, H', tr, h, i, o', Hi, g, hi, ht => by
  simp only [traceA] at h
  split at h
  ·cases h
  ·split at h
   ·cases h
   ·rename_i h2
    simp only [Option.some.injEq, Prod.mk.injEq] at h
    obtain ⟨rfl, rfl, rfl⟩ := h
    cases i with
    | zero =>
     simp only [List.getElem?_cons_zero, Option.some.injEq, Prod.mk.injEq] at hi ht
     subst hi
     exact ⟨m, ht.2⟩
    | succ i =>
     simp only [List.getElem?_cons_succ] at hi ht
     exact trace_reads h2 i o' Hi g hi ht
theorem drawS_sound {D : Handler} {cl : Caller} (hcl : ClS D cl) (hL : ClLater cl) {ops : Array Oper} (hd : drawOk P ops (Region.before ops) = true) {m : Tm} {H : Heap} {k : Tm → Heap → Prop} (h : drawS P D ops m H k) : ∃ m' H', drawA P cl ops m H = some (m', H') ∧ k m' H' := by
 unfold drawS at h
 obtain ⟨m', H', tr, ht, hv, h, _⟩ := traceS_sound hcl hL (fun d b hd => by simp only [knows?] at hd; cases hd) h
 obtain ⟨hk, hr⟩ := readsS_sound hv h
 refine ⟨m', H', ?_, hk⟩
 unfold drawA
 rw [if_pos hd, ht]
 simp only
 rw [if_pos]
 intro i j g x y Hi Hj hi hj he h1 h2 h3 h4
 have hji : j < ops.size := (Array.getElem?_eq_some_iff.mp hj).1
 have hii : i < ops.size := (Array.getElem?_eq_some_iff.mp hi).1
 have hread : reads ops i = true := by
  obtain ⟨mi, hm⟩ := trace_reads ht i x Hi g (by simpa using hi) h3
  unfold reads
  rw [hi]
  unfold readOf at hm
  split at hm
  ·rename_i ho; simp only [ho]
  ·rename_i ho; simp only [ho]
  ·cases hm
 cases htj : tr[j]? with
 | none => rw [htj] at h4; cases h4
 | some ej =>
  obtain ⟨aj, bj⟩ := ej
  rw [htj] at h4
  simp only [Option.map_some, Option.some.injEq] at h4
  subst h4
  have := hr j (List.mem_range.2 hji) y hj he i hii hread g _ _ _ h1 h2 h3 htj
  rw [this]
  unfold nextH
  cases tr[j + 1]? with
  | none => rfl
  | some e => rfl
theorem drawOk_loose {ops : Array Oper} (h : drawOk P ops (Region.before ops) = true) : looseOk P ops (Region.before ops) = true := by
 unfold drawOk at h
 simp only [Bool.and_eq_true] at h
 exact h.2
theorem execS_run {S : Handler} {cl : Caller} (hcl : ClS S cl) (hL : ClLater cl) : ∀ (n : Nat) (c : Code) (_ : codePl P c = true) {m : Tm} {H : Heap} {k : Out → Tm → Heap → Prop}, execS P S S (fun _ _ _ _ => none) n c m H k → ∃ o m' H', execA P cl n c m H = some (o, m', H') ∧ k o m' H'
 | 0, c, _, m, H, k, h => by simp only [execS] at h
 | n + 1, c, hC, m, H, k, h => by
  cases c with
  | skip => simp only [execS] at h; exact ⟨_, _, _, rfl, h⟩
  | label l => simp only [execS] at h; exact ⟨_, _, _, rfl, h⟩
  | exit id => simp only [execS] at h; exact ⟨_, _, _, rfl, h⟩
  | ret => simp only [execS] at h; exact ⟨_, _, _, rfl, h⟩
  | region id ops draw =>
   cases draw with
   | true =>
    simp only [execS] at h
    have hC : drawOk P ops (Region.before ops) = true := by simpa only [codePl] using hC
    obtain ⟨m', H', h1, hk⟩ := drawS_sound hcl hL hC (allS_elim h ops (by rw [turns_one (drawOk_loose hC)]; simp))
    exact ⟨_, _, _, by simp only [execA, if_true, h1, Option.map_some], hk⟩
   | false =>
    simp only [execS] at h
    obtain ⟨m', H', h1, hk⟩ := opsS_sound hcl h
    exact ⟨_, _, _, by simp only [execA, Bool.false_eq_true, if_false, h1, Option.map_some], hk⟩
  | seq a b =>
   simp only [codePl, Bool.and_eq_true] at hC
   simp only [execS] at h
   obtain ⟨o, m1, H1, h1, h⟩ := execS_run hcl hL n a hC.1 h
   cases o with
   | norm =>
    obtain ⟨o2, m2, H2, h2, hk⟩ := execS_run hcl hL n b hC.2 h
    exact ⟨_, _, _, by simp only [execA, h1, h2], hk⟩
   | exit id => exact ⟨_, _, _, by simp only [execA, h1], h⟩
   | ret => exact ⟨_, _, _, by simp only [execA, h1], h⟩
  | cond x a b =>
   simp only [codePl, Bool.and_eq_true] at hC
   simp only [execS] at h
   split at h
   ·rename_i t y hx
    rcases fork_elim h with ⟨rfl, h'⟩ | ⟨rfl, h'⟩
    ·obtain ⟨o, m1, H1, h1, hk⟩ := execS_run hcl hL n a hC.1 (coolXK_elim h')
     exact ⟨_, _, _, by simp only [execA, hx, h1], hk⟩
    ·obtain ⟨o, m1, H1, h1, hk⟩ := execS_run hcl hL n b hC.2 (coolXK_elim h')
     exact ⟨_, _, _, by simp only [execA, hx, h1], hk⟩
   ·exact h.elim
  | block id b =>
   have hb : codePl P b = true := by simpa only [codePl] using hC
   simp only [execS] at h
   obtain ⟨o, m1, H1, h1, h⟩ := execS_run hcl hL n b hb h
   cases o with
   | norm => exact ⟨_, _, _, by simp only [execA, h1], h⟩
   | ret => exact ⟨_, _, _, by simp only [execA, h1], h⟩
   | exit id' =>
    simp only at h
    split at h
    ·rename_i hb
     exact ⟨_, _, _, by simp only [execA, h1, if_pos (Nat.eq_of_beq_eq_true hb)], h⟩
    ·rename_i hb
     exact ⟨_, _, _, by simp only [execA, h1, if_neg (Nat.ne_of_beq_eq_false hb)], h⟩
  | loop b =>
   have hb : codePl P b = true := by simpa only [codePl] using hC
   simp only [execS] at h
   obtain ⟨o, m1, H1, h1, h⟩ := execS_run hcl hL n b hb h
   cases o with
   | norm =>
    obtain ⟨o2, m2, H2, h2, hk⟩ := execS_run hcl hL n (.loop b) hC h
    exact ⟨_, _, _, by simp only [execA, h1, h2], hk⟩
   | exit id => exact ⟨_, _, _, by simp only [execA, h1], h⟩
   | ret => exact ⟨_, _, _, by simp only [execA, h1], h⟩
  | _ => simp only [execS] at h
theorem fn_ok (hP : progOk P = true) {f : FuncId} {fn : Func} {c : Code} (hf : P.funcs[f]? = some fn) (hc : fn.body = some c) : codeOk P c = true := by
 unfold progOk at hP
 have := Array.all_eq_true'.mp hP fn (Array.mem_of_getElem? hf)
 simpa only [fnOk, hc] using this
end sound
end Go.Vx
end
section
set_option linter.unusedVariables false
set_option linter.unusedSimpArgs false
namespace Go.Vx
section good
variable {P : Program}
structure Start where
 β : At
 H : Heap
 w : World
 fresh : ∀ g o, H.get g = some o → g < H.n
def Start.le (S : Start) (β : At) (H : Heap) (w : World) : Prop := Le S.β S.H S.w β H w
def Wants (S : Start) (d : Act) (k : Out → Tm → Heap → Prop) (Q : Exit → Act → World → Prop) : Prop :=
 ∀ o m' H', k o m' H' → ∀ β' a' w', Rel β' H' w' → S.le β' H' w' → TRel H'.n β' m' a'.tmps → a'.defers = d.defers → Q o.ex a' w'
def Good (P : Program) (S : Start) (c : Code) (m : Tm) (H : Heap) (k : Out → Tm → Heap → Prop) : Prop :=
 ∀ (a : Act) (β : At) (w : World), Rel β H w → S.le β H w → TRel H.n β m a.tmps → ∀ Q : Exit → Act → World → Prop, Wants S a k Q → c.wp P Q a w
def CallGood (P : Program) (f : FuncId) (args : List AV) (H : Heap) (k : AV → Heap → Prop) : Prop :=
 ∀ (β : At) (w : World) (cargs : Array Value), Rel β H w → VsRel H.n β args cargs.toList →
  Calls P f cargs w fun e w' => ∃ v H', k v H' ∧ ∃ β' c, e = .returned c ∧ Rel β' H' w' ∧ Le β H w β' H' w' ∧ VRel H'.n β' v c
def SOk (P : Program) (S : Handler) : Prop := ∀ f args H k, S f args H k → CallGood P f args H k
theorem SOk.of_cl {S : Handler} {cl : Caller} (hcl : ClS S cl) (hc : CallOk P cl) : SOk P S := fun f args H k h β w cargs hR ha => by
 obtain ⟨v, H', h1, hk⟩ := hcl f args H k h
 refine (hc f args H v H' h1 β w cargs hR ha).mono ?_
 rintro e w' ⟨β', c, he, hR', hLe, hv⟩
 exact ⟨v, H', hk, β', c, he, hR', hLe, hv⟩
theorem stepCS_good {S : Handler} (hS : SOk P S) {ops : Array Oper} {o : Oper} {m : Tm} {H : Heap} {k : Tm → Heap → Prop} (h : stepCS P S ops o m H k) {a : Act} {β : At} {w : World} (hR : Rel β H w) (hT : TRel H.n β m a.tmps)
  {Q : Exit → Act → World → Prop} {K : Act → World → Prop}
  (hK : ∀ m' H', k m' H' → ∀ β' a' w', Rel β' H' w' → Le β H w β' H' w' → TRel H'.n β' m' a'.tmps → a'.defers = a.defers → K a' w') :
  if Region.wanted o (yielded ops a.tmps) = true then o.wp P a w K Q ∨ (o.asks P a w ∧ LetsOut Q) else K (a.put o.dst undef) w := by
 unfold stepCS at h
 obtain ⟨cool, hc, ⟨hg, h⟩ | ⟨hg, h⟩⟩ := guardCS_sound h
 ·rw [guard_sound hT hg]
  simp only [if_true]
  refine .inl ?_
  have hval : ∀ v H', opA P o.op m H = some (.val v H') → ∀ m', m.dst o.dst v = some m' → k (coolPick o m (coolGuard ops o m m')) H' → o.wp P a w K Q := by
   intro v H' hop m' hm hk
   obtain ⟨β', w', hR', hLe, hf⟩ : Fits P o a β H w v H' := meets hR hT hop
   have hT' := hT.mono hLe.n hLe.keeps
   unfold Oper.wp
   rcases hf with ⟨c, hrun, hv⟩ | ⟨hrun, rfl⟩
   ·rw [hrun, Oper.upon_value]
    exact hK _ _ hk β' _ w' hR' hLe (cool_dst hm (hT'.dst hv hm)) (act_put_defers _ _ _)
   ·rw [hrun, Oper.upon_skip]
    exact hK _ _ hk β' _ w' hR' hLe (cool_dst hm (hT'.dst (.tup _ _ .nil) hm)) (act_put_defers _ _ _)
  split at h
  ·rename_i c x y ho
   split at h
   ·rename_i t b hx
    rcases fork_elim h with ⟨rfl, h'⟩ | ⟨rfl, h'⟩
    ·obtain ⟨v, hv, h'⟩ := must_elim h'
     obtain ⟨m', hm, h'⟩ := dstK_elim h'
     have hk := coolK_elim (hc _ _ h')
     have hx' : opnd m (.tmp c) = some (.bool t true) := hx
     refine hval v H (by simp only [ho, opA, hx', hv, Option.map_some]) m' hm ?_
     simp only [coolPick, ho, hx]
     exact hk
    ·obtain ⟨v, hv, h'⟩ := must_elim h'
     obtain ⟨m', hm, h'⟩ := dstK_elim h'
     have hk := coolK_elim (hc _ _ h')
     have hx' : opnd m (.tmp c) = some (.bool t false) := hx
     refine hval v H (by simp only [ho, opA, hx', hv, Option.map_some]) m' hm ?_
     simp only [coolPick, ho, hx]
     exact hk
   ·exact h.elim
  ·exact h.elim
  ·rename_i hno1 hno2
   have hno : ∀ c a b, o.op ≠ .pick c a b := fun c a b e => hno2 c a b e
   obtain ⟨g, hg', h⟩ := opS_sound h
   cases g with
   | val v H' =>
    obtain ⟨m', hm, h⟩ := dstK_elim (heapK_elim h)
    refine hval v H' hg' m' hm ?_
    rw [coolPick_none hno]
    exact hc _ _ h
   | enter f args =>
    obtain ⟨cargs, hrun, hv⟩ : ∃ cargs : Array Value, (execOp a.eval o).run P w = .ok (.enter f cargs) w ∧ VsRel H.n β args cargs.toList := meets hR hT hg'
    unfold Oper.wp
    rw [hrun, Oper.upon_enter]
    refine (hS f args H _ (forceL_elim h) β w cargs hR hv).mono ?_
    rintro e w' ⟨v, H', h, β', c, rfl, hR', hLe, hv'⟩
    obtain ⟨m', hm, h⟩ := dstK_elim (forceH_elim h)
    have hk := hc _ _ h
    have := cool_dst (ops := ops) hm ((hT.mono hLe.n hLe.keeps).dst hv' hm)
    rw [coolPick_none hno] at this
    exact hK _ _ hk β' _ w' hR' hLe this (act_put_defers _ _ _)
 ·rw [guard_sound hT hg]
  simp only [Bool.false_eq_true, if_false]
  split at h
  ·rename_i c x y ho
   split at h
   ·rename_i hx
    obtain ⟨m', hm, h⟩ := dstK_elim h
    have hk := hc _ _ h
    have := cool_dst (ops := ops) hm (hT.dst (c := undef) (.tup _ _ .nil) hm)
    simp only [coolPick, ho, hx] at this
    exact hK _ _ hk β _ w hR (Le.refl _ _ _) this (act_put_defers _ _ _)
   ·exact h.elim
  ·exact h.elim
  ·rename_i hno1 hno
   obtain ⟨m', hm, h⟩ := dstK_elim h
   have hk := hc _ _ h
   have := cool_dst (ops := ops) hm (hT.dst (c := undef) (.tup _ _ .nil) hm)
   rw [coolPick_none (fun c a b e => hno c a b e)] at this
   exact hK _ _ hk β _ w hR (Le.refl _ _ _) this (act_put_defers _ _ _)
theorem opsS_good {S : Handler} (hS : SOk P S) {ops : Array Oper} {Q : Exit → Act → World → Prop} : ∀ {l : List Oper} {m : Tm} {H : Heap} {k : Tm → Heap → Prop}, opsS P S ops l m H k → ∀ {a : Act} {β : At} {w : World}, Rel β H w → TRel H.n β m a.tmps →
  (∀ m' H', k m' H' → ∀ β' a' w', Rel β' H' w' → Le β H w β' H' w' → TRel H'.n β' m' a'.tmps → a'.defers = a.defers → Q .normal a' w') → wpList P ops Q l a w
 | [], m, H, k, h, a, β, w, hR, hT, hQ => hQ m H h β a w hR (Le.refl _ _ _) hT rfl
 | o :: l, m, H, k, h, a, β, w, hR, hT, hQ => by
  unfold wpList
  refine stepCS_good hS h hR hT fun m' H' hk β' a' w' hR' hLe hT' hd => ?_
  exact opsS_good hS hk hR' hT' fun m2 H2 hk2 β2 a2 w2 hR2 hLe2 hT2 hd2 => hQ m2 H2 hk2 β2 a2 w2 hR2 (hLe.trans hLe2) hT2 (hd2.trans hd)
def InLoop (P : Program) (c : Code) (Q : Exit → Act → World → Prop) (a : Act) (w : World) : Prop :=
 ∀ (b : Frame) k cs, ∃ e a' w', Q e a' w' ∧ Arrives P (lone (b.at a (.code c :: .inLoop c :: k)) cs w) b k cs e a' w'
theorem inLoop_round {c : Code} {Q : Exit → Act → World → Prop} {a : Act} {w : World} (h : c.wp P (Exit.then (InLoop P c Q) Q) a w) : InLoop P c Q a w := by
 intro b k cs
 obtain ⟨e, a₁, w₁, hq, harr⟩ := h b (.inLoop c :: k) cs
 cases e with
 | normal =>
  obtain ⟨e₂, a₂, w₂, hq₂, harr₂⟩ := hq b k cs
  exact ⟨e₂, a₂, w₂, hq₂, .of_steps (Steps.trans harr (.one step_inLoop)) harr₂⟩
 | exit id => exact ⟨_, a₁, w₁, hq, .pass (x := .inLoop c) rfl (fun _ _ => .inl (by simp)) harr⟩
 | goto l => exact ⟨_, a₁, w₁, hq, .pass (x := .inLoop c) rfl (fun _ _ => .inl (by simp)) harr⟩
 | ret => exact ⟨_, a₁, w₁, hq, .pass (x := .inLoop c) rfl (fun _ _ => .inl (by simp)) harr⟩
 | panic ch => exact ⟨_, a₁, w₁, hq, .pass (x := .inLoop c) rfl (fun _ _ => .inl (by simp)) harr⟩
 | outgrown => exact ⟨_, a₁, w₁, hq, .pass (x := .inLoop c) rfl (fun _ _ => .inl (by simp)) harr⟩
theorem wp_inLoop {c : Code} {Q : Exit → Act → World → Prop} {a : Act} {w : World} (h : InLoop P c Q a w) : (Code.loop c).wp P Q a w := by
 intro b k cs
 obtain ⟨e, a', w', hq, harr⟩ := h b k cs
 exact ⟨e, a', w', hq, .of_steps (.one step_loop) harr⟩
def GoodIn (P : Program) (S : Start) (c : Code) (m : Tm) (H : Heap) (k : Out → Tm → Heap → Prop) : Prop :=
 ∀ (a : Act) (β : At) (w : World), Rel β H w → S.le β H w → TRel H.n β m a.tmps → ∀ Q : Exit → Act → World → Prop, Wants S a k Q → InLoop P c Q a w
def loops : Code → List Code
 | .seq a b => loops a ++ loops b
 | .cond _ a b => loops a ++ loops b
 | .block _ b => loops b
 | .loop b => b :: loops b
 | _ => []
def LInOk (P : Program) (K : Nat) (LS : List Code) (L : LoopH) : Prop := ∀ S : Start, S.H.n = K → ∀ b, b ∈ LS → ∀ m H k p, L b m H k = some p → p → GoodIn P S b m H k
theorem Wants.defers {S : Start} {d d' : Act} {k : Out → Tm → Heap → Prop} {Q : Exit → Act → World → Prop} (h : Wants S d k Q) (hd : d'.defers = d.defers) : Wants S d' k Q :=
 fun o m' H' hk β' a' w' h1 h2 h3 h4 => h o m' H' hk β' a' w' h1 h2 h3 (h4.trans hd)
theorem execS_good (hm : P.follows .mixedOrders = true) {S D : Handler} {L : LoopH} {cl : Caller} {K : Nat} {LS : List Code} (hS : SOk P S) (hD : ClS D cl) (hcl : CallOk P cl) (hl : ClLater cl) (hL : LInOk P K LS L) {S0 : Start} (hK : S0.H.n = K) : ∀ (n : Nat),
  (∀ (c : Code) (_ : codeOk P c = true) (_ : ∀ b, b ∈ loops c → b ∈ LS) {m : Tm} {H : Heap} {k : Out → Tm → Heap → Prop}, execS P S D L n c m H k → Good P S0 c m H k) ∧
  (∀ (b : Code) (_ : codeOk P b = true) (_ : ∀ b', b' ∈ loops (.loop b) → b' ∈ LS) {m : Tm} {H : Heap} {k : Out → Tm → Heap → Prop}, execS P S D L n (.loop b) m H k → GoodIn P S0 b m H k)
 | 0 => by
  constructor
  ·intro c _ _ m H k h; simp only [execS] at h
  ·intro c _ _ m H k h; simp only [execS] at h
 | n + 1 => by
  obtain ⟨ih, ihl⟩ := execS_good hm hS hD hcl hl hL hK n
  have hloop : ∀ (b : Code) (_ : codeOk P b = true) (_ : ∀ b', b' ∈ loops (.loop b) → b' ∈ LS) {m : Tm} {H : Heap} {k : Out → Tm → Heap → Prop}, execS P S D L (n + 1) (.loop b) m H k → GoodIn P S0 b m H k := by
   intro b hC hls m H k h
   simp only [execS] at h
   split at h
   ·rename_i p hp
    exact hL S0 hK b (hls b (by simp [loops])) m H k p hp h
   ·intro a β w hR hS0 hT Q hQ
    refine inLoop_round (ih b hC (fun b' hb' => hls b' (by simp [loops, hb'])) h a β w hR hS0 hT _ fun o m' H' hk β' a' w' hR' hS' hT' hd' => ?_)
    cases o with
    | norm => exact ihl b hC hls hk a' β' w' hR' hS' hT' Q (hQ.defers hd')
    | exit id => exact hQ _ m' H' hk β' a' w' hR' hS' hT' hd'
    | ret => exact hQ _ m' H' hk β' a' w' hR' hS' hT' hd'
  refine ⟨fun c hC hls => ?_, hloop⟩
  intro m H k h a β w hR hS0 hT Q hQ
  cases c with
  | skip => simp only [execS] at h; exact wp_skip (hQ _ m H h β a w hR hS0 hT rfl)
  | label l => simp only [execS] at h; exact wp_label (hQ _ m H h β a w hR hS0 hT rfl)
  | exit id => simp only [execS] at h; exact wp_exit (hQ _ m H h β a w hR hS0 hT rfl)
  | ret => simp only [execS] at h; exact wp_ret (hQ _ m H h β a w hR hS0 hT rfl)
  | region id ops draw =>
   cases draw with
   | true =>
    simp only [execS] at h
    refine wp_region_runs hm (turns_runs 4 ops fun v hv => Runs.of_any ?_)
    have hCv : drawOk P v (Region.before v) = true := by
     simp only [codeOk, List.all_eq_true] at hC
     exact hC v hv
    obtain ⟨m', H', h1, hk⟩ := drawS_sound hD hl hCv (allS_elim h v hv)
    exact draw_any hcl h1 hR hT fun β' a' w' hR' hLe hT' hd' => hQ _ m' H' hk β' a' w' hR' (hS0.trans hLe) hT' hd'
   | false =>
    simp only [execS] at h
    exact wp_region_list (opsS_good hS h hR hT fun m' H' hk β' a' w' hR' hLe hT' hd' => hQ _ m' H' hk β' a' w' hR' (hS0.trans hLe) hT' hd')
  | seq x y =>
   simp only [codeOk, Bool.and_eq_true] at hC
   simp only [execS] at h
   refine wp_seq (ih x hC.1 (fun b hb => hls b (by simp [loops, hb])) h a β w hR hS0 hT _ fun o m' H' hk β' a' w' hR' hS' hT' hd' => ?_)
   cases o with
   | norm => exact ih y hC.2 (fun b hb => hls b (by simp [loops, hb])) hk a' β' w' hR' hS' hT' Q (hQ.defers hd')
   | exit id => exact hQ _ m' H' hk β' a' w' hR' hS' hT' hd'
   | ret => exact hQ _ m' H' hk β' a' w' hR' hS' hT' hd'
  | cond x t f =>
   simp only [codeOk, Bool.and_eq_true] at hC
   simp only [execS] at h
   split at h
   ·rename_i u b hx
    rcases fork_elim h with ⟨rfl, h'⟩ | ⟨rfl, h'⟩
    ·exact wp_cond_true (bool_of (opnd_sound hT hx)) (ih t hC.1 (fun b hb => hls b (by simp [loops, hb])) (coolXK_elim h') a β w hR hS0 (hT.coolX hx) Q hQ)
    ·exact wp_cond_false (bool_of (opnd_sound hT hx)) (ih f hC.2 (fun b hb => hls b (by simp [loops, hb])) (coolXK_elim h') a β w hR hS0 (hT.coolX hx) Q hQ)
   ·exact h.elim
  | block id b =>
   have hb : codeOk P b = true := by simpa only [codeOk] using hC
   simp only [execS] at h
   refine wp_block (ih b hb (fun b' hb' => hls b' (by simpa [loops] using hb')) h a β w hR hS0 hT _ fun o m' H' hk β' a' w' hR' hS' hT' hd' => ?_)
   cases o with
   | norm => exact hQ _ m' H' hk β' a' w' hR' hS' hT' hd'
   | ret => exact hQ _ m' H' hk β' a' w' hR' hS' hT' hd'
   | exit id' =>
    simp only at hk
    show (if id' = id then Q .normal a' w' else Q (.exit id') a' w')
    split at hk
    ·rename_i he
     rw [if_pos (Nat.eq_of_beq_eq_true he)]
     exact hQ _ m' H' hk β' a' w' hR' hS' hT' hd'
    ·rename_i he
     rw [if_neg (Nat.ne_of_beq_eq_false he)]
     exact hQ _ m' H' hk β' a' w' hR' hS' hT' hd'
  | loop b =>
   have hb : codeOk P b = true := by simpa only [codeOk] using hC
   exact wp_inLoop (hloop b hb hls h a β w hR hS0 hT Q hQ)
  | _ => simp only [execS] at h
theorem bodyS_good (hm : P.follows .mixedOrders = true) {S D : Handler} {L : LoopH} {cl : Caller} (hS : SOk P S) (hD : ClS D cl) (hcl : CallOk P cl) (hl : ClLater cl) {n : Nat} {f : FuncId} {fn : Func} {c : Code} (hf : P.funcs[f]? = some fn) (hb : fn.body = some c) (hC : codeOk P c = true)
  {args : List AV} {H : Heap} (hL : LInOk P H.n (loops c) L) {k : AV → Heap → Prop} (h : bodyS P S D L n fn c args H k) : CallGood P f args H k := by
 intro β w cargs hR ha
 unfold bodyS at h
 split at h
 ·exact h.elim
 ·rename_i hle
  refine calls_of_wp hf hb ?_
  refine (execS_good hm hS hD hcl hl hL (S0 := ⟨β, H, w, hR.fresh⟩) rfl n).1 c hC (fun _ h => h) h _ β w hR (Le.refl _ _ _) (start_sound ha (Nat.le_of_ble_eq_true hle)) _ fun o m H' hk β' a' w' hR' hS' hT' hd' => ?_
  cases o with
  | norm =>
   obtain ⟨l, hr, hk⟩ := must_elim hk
   obtain ⟨d, hd, hrd⟩ := results_sound hR' hT' hr
   exact ⟨hd', d, hd, _, H', hk, β', d, rfl, hR', hS', hrd⟩
  | ret =>
   obtain ⟨l, hr, hk⟩ := must_elim hk
   obtain ⟨d, hd, hrd⟩ := results_sound hR' hT' hr
   exact ⟨hd', d, hd, _, H', hk, β', d, rfl, hR', hS', hrd⟩
  | exit id => exact hk.elim
end good
end Go.Vx
end
section
set_option linter.unusedVariables false
set_option linter.unusedSimpArgs false
namespace Go.Vx
inductive VP where
 | bool
 | int (k : IntKind)
 | num (k : IntKind)
 | byte
 | str
 | vec (t : Ty)
 | lit (v : AV)
 | ptr (g e z o : Nat)
 | sl (g z : Nat)
 | part (g z : Nat)
 | nil
 | cat (a b : VP)
 | agg (l : VP)
 | tup (l : VP)
 | func (f : Fn) (a b : VP)
@[reducible] def VP.den : VP → Type
 | .bool => Bool
 | .int _ => Int
 | .num _ => Int
 | .byte => UInt8
 | .str => List UInt8
 | .vec t => List t.den
 | .lit _ => Unit
 | .ptr _ _ _ _ => Unit
 | .sl _ _ => Unit
 | .part _ _ => Nat × Nat
 | .nil => Unit
 | .cat a b => a.den × b.den
 | .agg l => l.den
 | .tup l => l.den
 | .func _ a b => a.den × b.den
def encV : (p : VP) → p.den → (Nat → Nat) → List AV
 | .bool, b, _ => [.bool true b]
 | .int k, n, _ => [.int true k n]
 | .num k, n, _ => [.int false k n]
 | .byte, b, _ => [.int true .u8 (b.toNat : Int)]
 | .str, s, _ => [.str true s]
 | .vec t, l, _ => [.vec t l]
 | .lit v, _, _ => [v]
 | .ptr g e z o, _, _ => [.ptr false (some ⟨g, e, z, o⟩)]
 | .sl g z, _, len => [.slice true (some ⟨g, 0, z, 0⟩) (len g) z]
 | .part g z, x, _ => [.slice true (some ⟨g, x.1, z, 0⟩) x.2 z]
 | .nil, _, _ => []
 | .cat a b, x, len => encV a x.1 len ++ encV b x.2 len
 | .agg l, x, len => [.agg (encV l x len)]
 | .tup l, x, len => [.tup (encV l x len)]
 | .func f a b, x, len => [.func f (encV a x.1 len) (encV b x.2 len)]
inductive RP where
 | vec (t : Ty) (e : TypeId) (ro : Bool)
 | cells (p : VP) (e : TypeId) (ro : Bool)
 | dead
@[reducible] def RP.den : RP → Type
 | .vec t _ _ => List t.den
 | .cells p _ _ => p.den
 | .dead => Unit
@[reducible] def rowsDen : List RP → Type
 | [] => Unit
 | r :: rs => r.den × rowsDen rs
def RP.len : (r : RP) → r.den → Nat
 | .vec _ _ _, l => l.length
 | _, _ => 0
def lens : (rs : List RP) → rowsDen rs → Nat → Nat
 | [], _, _ => 0
 | r :: rs, x, i => match i with
  | 0 => r.len x.1
  | i + 1 => lens rs x.2 i
def encR : (r : RP) → r.den → (Nat → Nat) → AObj
 | .vec t e ro, l, _ => .vec t l e ro
 | .cells p e ro, x, len => .cells (encV p x len) e ro
 | .dead, _, _ => .dead
def encRs : (rs : List RP) → rowsDen rs → (Nat → Nat) → List AObj
 | [], _, _ => []
 | r :: rs, x, len => encR r x.1 len :: encRs rs x.2 len
theorem encRs_length : (rs : List RP) → (x : rowsDen rs) → (len : Nat → Nat) → (encRs rs x len).length = rs.length
 | [], _, _ => rfl
 | r :: rs, x, len => by simp only [encRs, List.length_cons, encRs_length rs]
def pushes : Heap → List AObj → Heap
 | H, [] => H
 | H, o :: l => pushes (H.push o) l
theorem pushes_n : (H : Heap) → (l : List AObj) → (pushes H l).n = H.n + l.length
 | H, [] => rfl
 | H, o :: l => by simp only [pushes, pushes_n, Heap.n_push, List.length_cons]; omega
theorem pushes_get : (H : Heap) → (l : List AObj) → (i : Nat) → (pushes H l).get i = if i < H.n then H.get i else if i < H.n + l.length then l[i - H.n]? else H.get i
 | H, [], i => by simp only [pushes, List.length_nil, Nat.add_zero]; split <;> simp_all
 | H, o :: l, i => by
  simp only [pushes, pushes_get, Heap.n_push, Heap.get_push, List.length_cons]
  by_cases h1 : i < H.n
  ·rw [if_pos (by omega), if_neg (by omega), if_pos h1]
  ·by_cases h2 : i = H.n
   ·subst h2; rw [if_pos (by omega), if_pos rfl, if_neg h1, if_pos (by omega)]; simp
   ·rw [if_neg (by omega), if_neg h1, if_neg h2]
    by_cases h3 : i < H.n + 1 + l.length
    ·rw [if_pos h3, if_pos (by omega), show i - H.n = (i - (H.n + 1)) + 1 from by omega, List.getElem?_cons_succ]
    ·rw [if_neg h3, if_neg (by omega)]
structure Dom where
 rows : List RP
 vals : VP
@[reducible] def Dom.den (D : Dom) : Type := rowsDen D.rows × D.vals.den
def Dom.len (D : Dom) (x : D.den) : Nat → Nat := lens D.rows x.1
def encVF : (p : VP) → p.den → (Nat → Nat) → List AV → List AV
 | .bool, b, _, r => .bool true b :: r
 | .int k, n, _, r => .int true k n :: r
 | .num k, n, _, r => .int false k n :: r
 | .byte, b, _, r => .int true .u8 (b.toNat : Int) :: r
 | .str, s, _, r => .str true s :: r
 | .vec t, l, _, r => .vec t l :: r
 | .lit v, _, _, r => v :: r
 | .ptr g e z o, _, _, r => .ptr false (some ⟨g, e, z, o⟩) :: r
 | .sl g z, _, len, r => .slice true (some ⟨g, 0, z, 0⟩) (len g) z :: r
 | .part g z, x, _, r => (match x with
  | (e, n) => .slice true (some ⟨g, e, z, 0⟩) n z :: r)
 | .nil, _, _, r => r
 | .cat a b, x, len, r => (match x with
  | (u, v) => encVF a u len (encVF b v len r))
 | .agg l, x, len, r => .agg (encVF l x len []) :: r
 | .tup l, x, len, r => .tup (encVF l x len []) :: r
 | .func f a b, x, len, r => (match x with
  | (u, v) => .func f (encVF a u len []) (encVF b v len []) :: r)
theorem encVF_eq : (p : VP) → (x : p.den) → (len : Nat → Nat) → (r : List AV) → encVF p x len r = encV p x len ++ r
 | .bool, _, _, _ => rfl
 | .int _, _, _, _ => rfl
 | .num _, _, _, _ => rfl
 | .byte, _, _, _ => rfl
 | .str, _, _, _ => rfl
 | .vec _, _, _, _ => rfl
 | .lit _, _, _, _ => rfl
 | .ptr _ _ _ _, _, _, _ => rfl
 | .sl _ _, _, _, _ => rfl
 | .part _ _, _, _, _ => rfl
 | .nil, _, _, _ => rfl
 | .cat a b, (u, v), len, r => by simp only [encVF, encV, encVF_eq a, encVF_eq b, List.append_assoc]
 | .agg l, x, len, r => by simp only [encVF, encV, encVF_eq l, List.append_nil, List.singleton_append]
 | .tup l, x, len, r => by simp only [encVF, encV, encVF_eq l, List.append_nil, List.singleton_append]
 | .func f a b, (u, v), len, r => by simp only [encVF, encV, encVF_eq a, encVF_eq b, List.append_nil, List.singleton_append]
def encRF : (r : RP) → r.den → (Nat → Nat) → AObj
 | .vec t e ro, l, _ => .vec t l e ro
 | .cells p e ro, x, len => .cells (encVF p x len []) e ro
 | .dead, _, _ => .dead
theorem encRF_eq (r : RP) (x : r.den) (len : Nat → Nat) : encRF r x len = encR r x len := by
 cases r <;> simp [encRF, encR, encVF_eq]
def encRsF : (rs : List RP) → rowsDen rs → (Nat → Nat) → List AObj
 | [], _, _ => []
 | r :: rs, x, len => match x with
  | (u, v) => encRF r u len :: encRsF rs v len
theorem encRsF_eq : (rs : List RP) → (x : rowsDen rs) → (len : Nat → Nat) → encRsF rs x len = encRs rs x len
 | [], _, _ => rfl
 | r :: rs, (u, v), len => by simp only [encRsF, encRs, encRF_eq, encRsF_eq rs]
def lensF : (rs : List RP) → rowsDen rs → Nat → Nat
 | [], _, _ => 0
 | r :: rs, x, i => match x, i with
  | (u, _), 0 => r.len u
  | (_, v), i + 1 => lensF rs v i
theorem lensF_eq : (rs : List RP) → (x : rowsDen rs) → lensF rs x = lens rs x
 | [], _ => rfl
 | r :: rs, (u, v) => by
  funext i
  cases i with
  | zero => rfl
  | succ i => simp only [lensF, lens, lensF_eq rs]
def Dom.heap (D : Dom) (x : D.den) : Heap := match x with
 | (r, _) => pushes Heap.empty (encRsF D.rows r (lensF D.rows r))
def Dom.args (D : Dom) (x : D.den) : List AV := match x with
 | (r, v) => encVF D.vals v (lensF D.rows r) []
theorem Dom.heap_eq (D : Dom) (x : D.den) : D.heap x = pushes Heap.empty (encRs D.rows x.1 (D.len x)) := by
 obtain ⟨r, v⟩ := x
 simp only [Dom.heap, encRsF_eq, lensF_eq, Dom.len]
theorem Dom.args_eq (D : Dom) (x : D.den) : D.args x = encV D.vals x.2 (D.len x) := by
 obtain ⟨r, v⟩ := x
 simp only [Dom.args, encVF_eq, lensF_eq, Dom.len, List.append_nil]
theorem Dom.heap_n (D : Dom) (x : D.den) : (D.heap x).n = D.rows.length := by
 rw [Dom.heap_eq, pushes_n, encRs_length]; simp [Heap.empty]
theorem Dom.heap_get (D : Dom) (x : D.den) (i : Nat) : (D.heap x).get i = (encRs D.rows x.1 (D.len x))[i]? := by
 simp only [Dom.heap_eq, pushes_get, Heap.empty, Nat.not_lt_zero, if_false, Nat.zero_add, Nat.sub_zero]
 split
 ·rfl
 ·rename_i h
  rw [List.getElem?_eq_none (by omega)]
  simp [Heap.get, Trie.get_leaf]
inductive Src where
 | whole (g : Nat)
 | win (g e n z : Nat)
 | nil
 | inl (t : Ty) (l : List t.den)
abbrev Rho := List (Nat × Src)
def Rho.find : Rho → Nat → Option Src
 | [], _ => none
 | (i, s) :: l, g => match Nat.beq i g with
  | true => some s
  | false => Rho.find l g
theorem Rho.find_cons (i g : Nat) (s : Src) (l : Rho) : Rho.find ((i, s) :: l) g = if i = g then some s else l.find g := by
 simp only [Rho.find]
 by_cases h : i = g
 ·subst h; rw [if_pos rfl]; simp
 ·rw [if_neg h, nbeq_no h]
def litOk : AV → AV → Bool
 | .bool _ a, .bool t b => !t && a == b
 | .int _ k n, .int t k' n' => !t && (decide (k = k') && decide (n = n'))
 | .str _ s, .str t s' => !t && decide (s = s')
 | .ptr _ none, .ptr _ none => true
 | .map none, .map none => true
 | .nilFunc, .nilFunc => true
 | .nilIface, .nilIface => true
 | .func f [] [], .func g [] [] => decide (f = g)
 | _, _ => false
def rowLen (H : Heap) (g z : Nat) : Option Nat := match H.get g with
 | some (.vec t l _ _) => if t.z = z then some l.length else none
 | _ => none
def matLit (v : AV) (l : List AV) : Option (List AV) := match l with
 | u :: l => if litOk v u = true then some l else none
 | [] => none
def matPtr (g e z o : Nat) (l : List AV) (ρ : Rho) : Option (List AV × Rho) := match l with
 | .ptr _ (some r) :: l => if r.e = e ∧ r.z = z ∧ r.o = o then match ρ.find g with
   | none => some (l, (g, .whole r.g) :: ρ)
   | some (.whole g') => if g' = r.g then some (l, ρ) else none
   | _ => none
  else none
 | _ => none
def matSl (H : Heap) (g z : Nat) (l : List AV) (ρ : Rho) : Option (List AV × Rho) := match l with
 | .slice _ none _ _ :: l => match ρ.find g with
   | none => some (l, (g, .nil) :: ρ)
   | some .nil => some (l, ρ)
   | _ => none
 | .slice _ (some r) n z' :: l => if z' = z ∧ r.z = z ∧ r.o = 0 then match ρ.find g with
   | none => some (l, (g, .win r.g r.e n z) :: ρ)
   | some (.whole g') => if g' = r.g ∧ r.e = 0 ∧ rowLen H r.g z = some n then some (l, ρ) else none
   | some (.win g' e' n' z0) => if g' = r.g ∧ e' = r.e ∧ n' = n ∧ z0 = z then some (l, ρ) else none
   | _ => none
  else none
 | .vec t x :: l => if t.z = z then match ρ.find g with
   | none => some (l, (g, .inl t x) :: ρ)
   | _ => none
  else none
 | _ => none
def matDat (H : Heap) (t : Ty) : List AV → Option (List t.den × List AV)
 | .slice _ (some r) n z :: l => match H.get r.g with
  | some (.fro t' L _) => if h : t' = t then (if r.z = t'.z ∧ r.o = 0 ∧ z = t'.z ∧ r.e + n ≤ L.length then some (h ▸ (L.drop r.e).take n, l) else none) else none
  | _ => none
 | l => decSl t l
def matPart (g z : Nat) (l : List AV) (ρ : Rho) : Option ((Nat × Nat) × List AV × Rho) := match l with
 | .slice _ (some r) n z' :: l => if z' = z ∧ r.z = z ∧ r.o = 0 then match ρ.find g with
   | none => some ((r.e, n), l, (g, .whole r.g) :: ρ)
   | some (.whole g') => if g' = r.g then some ((r.e, n), l, ρ) else none
   | _ => none
  else none
 | _ => none
def matV (H : Heap) : (p : VP) → List AV → Rho → Option (p.den × List AV × Rho)
 | .bool, l, ρ => (decBool l).map fun r => (r.1, r.2, ρ)
 | .int k, l, ρ => (decInt k l).map fun r => (r.1, r.2, ρ)
 | .num k, l, ρ => (decInt k l).map fun r => (r.1, r.2, ρ)
 | .byte, l, ρ => (decByte l).map fun r => (r.1, r.2, ρ)
 | .str, l, ρ => (decStr l).map fun r => (r.1, r.2, ρ)
 | .vec t, l, ρ => (matDat H t l).map fun r => (r.1, r.2, ρ)
 | .lit v, l, ρ => (matLit v l).map fun r => ((), r, ρ)
 | .ptr g e z o, l, ρ => (matPtr g e z o l ρ).map fun r => ((), r)
 | .sl g z, l, ρ => (matSl H g z l ρ).map fun r => ((), r)
 | .part g z, l, ρ => matPart g z l ρ
 | .nil, l, ρ => some ((), l, ρ)
 | .cat a b, l, ρ => match matV H a l ρ with
  | some (x, l', ρ') => match matV H b l' ρ' with
   | some (y, l'', ρ'') => some ((x, y), l'', ρ'')
   | none => none
  | none => none
 | .agg p, l, ρ => match l with
  | .agg cs :: l => match matV H p cs ρ with
   | some (x, [], ρ') => some (x, l, ρ')
   | _ => none
  | _ => none
 | .tup p, l, ρ => match l with
  | .tup cs :: l => match matV H p cs ρ with
   | some (x, [], ρ') => some (x, l, ρ')
   | _ => none
  | _ => none
 | .func f p q, l, ρ => match l with
  | .func f' xs ys :: l => if f' = f then match matV H p xs ρ with
    | some (x, [], ρ') => match matV H q ys ρ' with
     | some (y, [], ρ'') => some ((x, y), l, ρ'')
     | _ => none
    | _ => none
   else none
  | _ => none
def matVec (H : Heap) (t : Ty) (ro : Bool) : Src → Option (List t.den)
 | .whole g => match H.get g with
  | some (.vec t' L _ ro') => if h : t' = t then (if ro = false → ro' = false then some (h ▸ L) else none) else none
  | _ => none
 | .win g e n z => if z = t.z ∧ z ≠ 0 then match H.get g with
   | some (.vec t' L _ ro') => if h : t' = t then
     (match ro with
      | true => if e + n ≤ L.length then some (h ▸ (L.drop e).take n) else none
      | false => if e = 0 ∧ n = L.length ∧ ro' = false then some (h ▸ L) else none) else none
   | some (.fro t' L _) => if h : t' = t then
     (match ro with
      | true => if e + n ≤ L.length then some (h ▸ (L.drop e).take n) else none
      | false => none) else none
   | some (.cells cs _ ro') => match ro with
    | true => if e * z + n * z ≤ cs.length then decL t ((cs.drop (e * z)).take (n * z)) else none
    | false => if e = 0 ∧ n * z = cs.length ∧ ro' = false then decL t cs else none
   | _ => none
  else none
 | .nil => some []
 | .inl t' l => if h : t' = t then (if ro = true ∧ t.z ≠ 0 then some (h ▸ l) else none) else none
def AObj.ty : AObj → TypeId
 | .dead => 0
 | .cells _ e _ => e
 | .vec _ _ e _ => e
 | .fro _ _ e => e
theorem AObj.ty_row {o : AObj} {cs : List AV} {e : TypeId} {ro : Bool} (h : o.row = some (cs, e, ro)) : o.ty = e := by
 cases o <;> simp [AObj.row] at h <;> simp [AObj.ty, h]
def tyAt (H : Heap) (e : TypeId) (g : Nat) : Bool := match H.get g with
 | some o => Nat.beq o.ty e && Nat.blt e KT
 | none => false
def tySrc (H : Heap) (e : TypeId) : Src → Bool
 | .whole g => tyAt H e g
 | .win g _ _ _ => tyAt H e g
 | _ => true
theorem tyAt_spec {H : Heap} {e : TypeId} {g : Nat} (h : tyAt H e g = true) {cs : List AV} {e0 : TypeId} {ro : Bool} (hr : H.row g = some (cs, e0, ro)) : e0 = e ∧ Nat.blt e KT = true := by
 unfold tyAt at h
 unfold Heap.row at hr
 cases hg : H.get g with
 | none => rw [hg] at hr; cases hr
 | some o =>
  rw [hg] at h hr
  simp only [Bool.and_eq_true] at h
  have := AObj.ty_row (show o.row = some (cs, e0, ro) from hr)
  exact ⟨this.symm.trans (Nat.eq_of_beq_eq_true h.1), h.2⟩
def matR (H : Heap) : (r : RP) → Option Src → Rho → Option (r.den × Rho)
 | .dead, _, ρ => some ((), ρ)
 | .vec t e ro, s, ρ => match s with
  | some s => if ro = false → tySrc H e s = true then (matVec H t ro s).map fun l => (l, ρ) else none
  | none => none
 | .cells p e ro, s, ρ => match s with
  | some (.whole g) => match H.get g with
   | some (.cells cs e' ro') => if ro = false → ro' = false ∧ e' = e then match matV H p cs ρ with
     | some (x, [], ρ') => some (x, ρ')
     | _ => none
    else none
   | _ => none
  | _ => none
def matRs (H : Heap) : (rs : List RP) → Nat → Rho → Option (rowsDen rs × Rho)
 | [], _, ρ => some ((), ρ)
 | r :: rs, i, ρ => match matR H r (ρ.find i) ρ with
  | some (x, ρ') => match matRs H rs (i + 1) ρ' with
   | some (xs, ρ'') => some ((x, xs), ρ'')
   | none => none
  | none => none
def Src.row? : Option Src → Option Nat
 | some (.whole g) => some g
 | some (.win g _ _ _) => some g
 | _ => none
def RP.rw : RP → Bool
 | .vec _ _ ro => !ro
 | .cells _ _ ro => !ro
 | .dead => false
def RP.dead? : RP → Bool
 | .dead => true
 | _ => false
def froms (ρ : Rho) : List RP → Nat → List (Option Nat × Bool)
 | [], _ => []
 | r :: rs, i => (bif r.dead? then (none, false) else (Src.row? (ρ.find i), r.rw)) :: froms ρ rs (i + 1)
def noneOf (g : Nat) : List (Option Nat × Bool) → Bool
 | [] => true
 | (some g', _) :: l => !(Nat.beq g g') && noneOf g l
 | (none, _) :: l => noneOf g l
def noRw (g : Nat) : List (Option Nat × Bool) → Bool
 | [] => true
 | (some g', b) :: l => !(Nat.beq g g' && b) && noRw g l
 | (none, _) :: l => noRw g l
def injOk : List (Option Nat × Bool) → Bool
 | [] => true
 | (some g, true) :: l => noneOf g l && injOk l
 | (some g, false) :: l => noRw g l && injOk l
 | (none, _) :: l => injOk l
def deads (H : Heap) (ρ : Rho) : List RP → Nat → Bool
 | [], _ => true
 | r :: rs, i => (match r.dead?, ρ.find i with
  | true, some (.whole g) => true
  | true, some _ => false
  | _, _ => true) && deads H ρ rs (i + 1)
def below (n : Nat) : Rho → Bool
 | [] => true
 | (i, _) :: l => Nat.blt i n && below n l
def Dom.live (D : Dom) (i : Nat) : Bool := match D.rows[i]? with
 | some r => !r.dead?
 | none => false
def VP.sls : VP → List Nat
 | .sl g _ => [g]
 | .cat a b => a.sls ++ b.sls
 | .agg l => l.sls
 | .tup l => l.sls
 | .func _ a b => a.sls ++ b.sls
 | _ => []
def RP.sls : RP → List Nat
 | .cells p _ _ => p.sls
 | _ => []
def rsSls : List RP → List Nat
 | [] => []
 | r :: rs => r.sls ++ rsSls rs
def slsOk (D : Dom) : Bool := (D.vals.sls ++ rsSls D.rows).all D.live
theorem encV_congr : (p : VP) → (x : p.den) → (len len' : Nat → Nat) → (∀ g, g ∈ p.sls → len g = len' g) → encV p x len = encV p x len'
 | .sl g z, x, len, len', h => by simp only [encV, h g (by simp [VP.sls])]
 | .cat a b, x, len, len', h => by
  simp only [encV]
  rw [encV_congr a x.1 len len' fun g hg => h g (by simp [VP.sls, hg]), encV_congr b x.2 len len' fun g hg => h g (by simp [VP.sls, hg])]
 | .agg l, x, len, len', h => by simp only [encV]; rw [encV_congr l x len len' fun g hg => h g (by simpa [VP.sls] using hg)]
 | .tup l, x, len, len', h => by simp only [encV]; rw [encV_congr l x len len' fun g hg => h g (by simpa [VP.sls] using hg)]
 | .func f a b, x, len, len', h => by
  simp only [encV]
  rw [encV_congr a x.1 len len' fun g hg => h g (by simp [VP.sls, hg]), encV_congr b x.2 len len' fun g hg => h g (by simp [VP.sls, hg])]
 | .bool, _, _, _, _ => rfl
 | .int _, _, _, _, _ => rfl
 | .num _, _, _, _, _ => rfl
 | .byte, _, _, _, _ => rfl
 | .str, _, _, _, _ => rfl
 | .vec _, _, _, _, _ => rfl
 | .lit _, _, _, _, _ => rfl
 | .ptr _ _ _ _, _, _, _, _ => rfl
 | .part _ _, _, _, _, _ => rfl
 | .nil, _, _, _, _ => rfl
theorem encRs_congr : (rs : List RP) → (x : rowsDen rs) → (len len' : Nat → Nat) → (∀ g, g ∈ rsSls rs → len g = len' g) → encRs rs x len = encRs rs x len'
 | [], _, _, _, _ => rfl
 | r :: rs, x, len, len', h => by
  simp only [encRs]
  rw [encRs_congr rs x.2 len len' fun g hg => h g (by simp [rsSls, hg])]
  congr 1
  cases r with
  | cells p e ro => simp only [encR]; rw [encV_congr p x.1 len len' fun g hg => h g (by simp [rsSls, RP.sls, hg])]
  | vec t e ro => rfl
  | dead => rfl
def Dom.mat (D : Dom) (vs : List AV) (H : Heap) (ρ0 : Rho) : Option (D.den × Rho) :=
 match matV H D.vals vs ρ0 with
 | some (xv, [], ρ1) => match matRs H D.rows 0 ρ1 with
  | some (xr, ρ) => if below D.rows.length ρ = true ∧ injOk (froms ρ D.rows 0) = true ∧ deads H ρ D.rows 0 = true ∧ slsOk D = true then some ((xr, xv), ρ) else none
  | none => none
 | _ => none
def AV.data : AV → Bool
 | .bool _ _ => true
 | .int _ _ _ => true
 | .str _ _ => true
 | .vec _ _ => true
 | .eptr _ _ _ _ => true
 | _ => false
theorem enc_data : (t : Ty) → (x : t.den) → (enc t x).all AV.data = true
 | .bool, _ => rfl
 | .int _, _ => rfl
 | .byte, _ => rfl
 | .str, _ => rfl
 | .sl _, _ => rfl
 | .unit, _ => rfl
 | .pair a b, x => by simp only [enc, List.all_append, enc_data a, enc_data b, Bool.and_true]
theorem encL_data (t : Ty) (l : List t.den) : (encL t l).all AV.data = true := by
 simp only [encL, List.all_flatMap, enc_data]
 simp
theorem encL_data_at {t : Ty} {l : List t.den} {k : Nat} {v : AV} (h : (encL t l)[k]? = some v) : v.data = true :=
 List.all_eq_true.1 (encL_data t l) v (List.mem_of_getElem? h)
theorem VRel.data {N N' : Nat} {β β' : At} (hi : ∀ b o c, β.imm b o = some c → β'.imm b o = some c) : ∀ {v : AV} {c : Value}, VRel N β v c → v.data = true → VRel N' β' v c
 | _, _, .bool t b, _ => .bool t b
 | _, _, .int t k n, _ => .int t k n
 | _, _, .str t s b h, _ => .str t s b h
 | _, _, .vec t l cap a b o cs hn ha h h', _ => .vec t l cap a b o cs hn ha (fun k v hv => hi _ _ _ (h k v hv)) (fun k v hv => VRel.data hi (h' k v hv) (encL_data_at hv))
 | _, _, .eptr t l e p b o cs h h', _ => .eptr t l e p b o cs (fun k v hv => hi _ _ _ (h k v hv)) (fun k v hv => VRel.data hi (h' k v hv) (encL_data_at hv))
 | _, _, .pnil _, hd => by cases hd
 | _, _, .ptr _ _ _ _ _, hd => by cases hd
 | _, _, .snil _ _ _ _, hd => by cases hd
 | _, _, .slice _ _ _ _ _ _ _ _ _ _, hd => by cases hd
 | _, _, .mnil, hd => by cases hd
 | _, _, .func _ _ _ _ _ _ _, hd => by cases hd
 | _, _, .nilFunc, hd => by cases hd
 | _, _, .nilIface, hd => by cases hd
 | _, _, .agg _ _ _, hd => by cases hd
 | _, _, .tup _ _ _, hd => by cases hd
def Base.shift (b : Base) (k : Nat) : Base := if b.nil = true then b else { b with off := b.off + k, room := b.room - k }
theorem Base.shift_zero (b : Base) : b.shift 0 = b := by unfold Base.shift; split <;> simp
@[simp] theorem Base.shift_nil (b : Base) (k : Nat) : (b.shift k).nil = b.nil := by unfold Base.shift; split <;> rfl
theorem Base.shift_blk (b : Base) (k : Nat) : (b.shift k).blk = b.blk := by unfold Base.shift; split <;> rfl
def nilBase (room : Nat) : Base := ⟨0, 0, room, true⟩
def InlOk (N : Nat) (β : At) (t : Ty) (l : List t.den) (b : Option Base) : Prop :=
 (l = [] ∧ b = some (nilBase 1)) ∨ (l ≠ [] ∧ ∃ (blk off room : Nat) (cs : Nat → Value), b = some ⟨blk, off, room, false⟩ ∧ l.length * t.z ≤ room ∧ ∀ k v, (encL t l)[k]? = some v → β.imm blk (off + k) = some (cs k) ∧ VRel N β v (cs k))
def SrcOk (N : Nat) (β : At) (s : Src) (b : Option Base) : Prop := match s with
 | .whole g => b = β g
 | .win g e _ z => b = (β g).map (fun b => b.shift (e * z)) ∧ ∀ b0, β g = some b0 → b0.nil = true ∨ e * z ≤ b0.room
 | .nil => b = some (nilBase 0)
 | .inl t l => InlOk N β t l b
def OkB (N : Nat) (β : At) (ρ : Rho) (B : Nat → Option Base) : Prop := ∀ g s, ρ.find g = some s → SrcOk N β s (B g)
def LenOk (H : Heap) (s : Src) (m : Nat) : Prop := match s with
 | .whole g => ∀ z n, rowLen H g z = some n → m = n
 | .win _ _ n _ => m = n
 | .nil => m = 0
 | .inl _ l => m = l.length
structure View (H : Heap) (β : At) (ρ : Rho) (B : Nat → Option Base) (β1 : At) (n1 : Nat) (len : Nat → Nat) : Prop where
 imm : ∀ b o c, β.imm b o = some c → β1.imm b o = some c
 at_ : ∀ g s, ρ.find g = some s → g < n1 ∧ (β1 g = B g ∨ β1 g = none) ∧ LenOk H s (len g)
def Ext (ρ ρ' : Rho) : Prop := ∀ g s, ρ.find g = some s → ρ'.find g = some s
theorem Ext.refl (ρ : Rho) : Ext ρ ρ := fun _ _ h => h
theorem Ext.trans {a b c : Rho} (h : Ext a b) (k : Ext b c) : Ext a c := fun g s hs => k g s (h g s hs)
theorem Ext.cons {ρ : Rho} {g : Nat} {s : Src} (h : ρ.find g = none) : Ext ρ ((g, s) :: ρ) := fun g' s' hs => by
 rw [Rho.find_cons]
 split
 ·rename_i e; subst e; rw [h] at hs; cases hs
 ·exact hs
theorem View.less {H : Heap} {β β1 : At} {ρ ρ' : Rho} {B B' : Nat → Option Base} {n1 : Nat} {len : Nat → Nat} (h : View H β ρ' B' β1 n1 len) (he : Ext ρ ρ') (hB : ∀ g s, ρ.find g = some s → B' g = B g) : View H β ρ B β1 n1 len where
 imm := h.imm
 at_ := fun g s hs => by
  obtain ⟨h1, h2, h3⟩ := h.at_ g s (he g s hs)
  exact ⟨h1, by rw [← hB g s hs]; exact h2, h3⟩
def Matched (H : Heap) (β : At) (ρ ρ' : Rho) (B : Nat → Option Base) (cs : List Value) (rest : List AV) (out : (Nat → Nat) → List AV) : Prop :=
 Ext ρ ρ' ∧ ∃ B' : Nat → Option Base, OkB H.n β ρ' B' ∧ (∀ g s, ρ.find g = some s → B' g = B g) ∧ ∃ cs1 cs2, cs = cs1 ++ cs2 ∧ VsRel H.n β rest cs2 ∧
  ∀ β1 n1 len, View H β ρ' B' β1 n1 len → VsRel n1 β1 (out len) cs1
theorem Matched.one {H : Heap} {β : At} {ρ : Rho} {B : Nat → Option Base} {c : Value} {cs : List Value} {rest : List AV} {out : (Nat → Nat) → AV} (hB : OkB H.n β ρ B) (hr : VsRel H.n β rest cs)
  (h : ∀ β1 n1 len, View H β ρ B β1 n1 len → VRel n1 β1 (out len) c) : Matched H β ρ ρ B (c :: cs) rest fun len => [out len] :=
 ⟨Ext.refl _, B, hB, fun _ _ _ => rfl, [c], cs, rfl, hr, fun β1 n1 len hv => .one (h β1 n1 len hv)⟩
theorem Matched.new {H : Heap} {β : At} {ρ : Rho} {B : Nat → Option Base} {c : Value} {cs : List Value} {rest : List AV} {out : (Nat → Nat) → AV} {g : Nat} {s : Src} {b : Option Base} (hB : OkB H.n β ρ B) (hf : ρ.find g = none) (hs : SrcOk H.n β s b) (hr : VsRel H.n β rest cs)
  (h : ∀ (β1 : At) n1 len, (∀ b o c, β.imm b o = some c → β1.imm b o = some c) → g < n1 → (β1 g = b ∨ β1 g = none) → LenOk H s (len g) → VRel n1 β1 (out len) c) : Matched H β ρ ((g, s) :: ρ) B (c :: cs) rest fun len => [out len] := by
 refine ⟨Ext.cons hf, fun i => if i = g then b else B i, fun g' s' hs' => ?_, fun g' s' hs' => ?_, [c], cs, rfl, hr, fun β1 n1 len hv => .one ?_⟩
 ·rw [Rho.find_cons] at hs'
  split at hs'
  ·rename_i e; subst e; cases hs'; simp only [if_true]; exact hs
  ·rename_i e; simp only [if_neg (Ne.symm e)]; exact hB g' s' hs'
 ·by_cases e : g' = g
  ·subst e; rw [hf] at hs'; cases hs'
  ·simp only [if_neg e]
 ·obtain ⟨h1, h2, h3⟩ := hv.at_ g s (by rw [Rho.find_cons, if_pos rfl])
  simp only [if_true] at h2
  exact h β1 n1 len hv.imm h1 h2 h3
section mat
variable {H : Heap} {β : At} {w : World}
theorem litOk_sound {N N' : Nat} {β' : At} {v u : AV} {c : Value} (h : litOk v u = true) (hu : VRel N β u c) : VRel N' β' v c := by
 unfold litOk at h
 split at h
 ·simp at h; rw [bool_of hu, h.2]; exact .bool _ _
 ·simp at h; rw [int_of hu, h.2.1, h.2.2]; exact .int _ _ _
 ·simp at h; obtain ⟨b, rfl, hb⟩ := str_of hu; exact .str _ _ _ (by rw [hb, h.2])
 ·cases hu; exact .pnil _
 ·cases hu; exact .mnil
 ·cases hu; exact .nilFunc
 ·cases hu; exact .nilIface
 ·simp at h
  subst h
  cases hu with
  | func f xs ys cs ds h1 h2 =>
   have e1 : cs = #[] := by cases cs with | mk l => cases h1; rfl
   have e2 : ds = #[] := by cases ds with | mk l => cases h2; rfl
   subst e1; subst e2
   exact .func _ _ _ _ _ .nil .nil
 ·cases h
theorem whole_ptr {N n1 : Nat} {β1 : At} {g : Nat} {t : Bool} {r : Ref} {c : Value} (h : VRel N β (.ptr t (some r)) c) (hg : g < n1) (hb : β1 g = β r.g ∨ β1 g = none) : VRel n1 β1 (.ptr false (some ⟨g, r.e, r.z, r.o⟩)) c := by
 cases h with
 | ptr _ _ a h1 h2 =>
  refine .ptr _ _ _ hg fun b hb1 => ?_
  rcases hb with e | e
  ·simp only at hb1; rw [e] at hb1; exact h2 b hb1
  ·simp only at hb1; rw [e] at hb1; cases hb1
theorem whole_slice {N n1 : Nat} {β1 : At} {g : Nat} {t t' : Bool} {r : Ref} {n z : Nat} {c : Value} (h : VRel N β (.slice t (some r) n z) c) (hg : g < n1) (hb : β1 g = β r.g ∨ β1 g = none) : VRel n1 β1 (.slice t' (some ⟨g, r.e, r.z, r.o⟩) n z) c := by
 cases h with
 | slice _ _ _ _ cap a h1 hn hs h2 =>
  refine .slice _ _ _ _ _ _ hg hn hs fun b hb1 => ?_
  rcases hb with e | e
  ·simp only at hb1; rw [e] at hb1; exact h2 b hb1
  ·simp only at hb1; rw [e] at hb1; cases hb1
theorem SlAt.shift {b : Base} {i n cap z : Nat} {a : Option Addr} (h : SlAt b i n cap z a) : SlAt (b.shift i) 0 n cap z a := by
 unfold Base.shift
 by_cases hn : b.nil = true
 ·rw [if_pos hn]
  exact ⟨h.1, fun h' => by rw [hn] at h'; cases h'⟩
 ·rw [if_neg hn]
  have hn' : b.nil = false := by simpa using hn
  obtain ⟨h1, h2⟩ := h.2 hn'
  exact ⟨fun h' => absurd h' hn, fun _ => ⟨fun hc => by rw [h1 hc, Nat.add_zero], by simp only [Nat.zero_add]; omega⟩⟩
theorem win_slice {N n1 : Nat} {β1 : At} {g : Nat} {t t' : Bool} {r : Ref} {n z : Nat} {c : Value} (h : VRel N β (.slice t (some r) n z) c) (hz : r.z = z) (ho : r.o = 0) (hg : g < n1) (hb : β1 g = (β r.g).map (fun b => b.shift (r.e * z)) ∨ β1 g = none) :
  VRel n1 β1 (.slice t' (some ⟨g, 0, z, 0⟩) n z) c := by
 cases h with
 | slice _ _ _ _ cap a h1 hn hs h2 =>
  refine .slice _ _ _ _ _ _ hg hn hs fun b hb1 => ?_
  rcases hb with e | e
  ·simp only at hb1
   rw [e] at hb1
   cases hq : β r.g with
   | none => rw [hq] at hb1; cases hb1
   | some b0 =>
    rw [hq] at hb1
    simp only [Option.map_some, Option.some.injEq] at hb1
    subst hb1
    have := (h2 b0 hq).shift
    have hi : r.i = r.e * z := by unfold Ref.i; rw [hz, ho, Nat.add_zero]
    rw [hi] at this
    simpa [Ref.i] using this
  ·simp only at hb1; rw [e] at hb1; cases hb1
theorem win_room {N : Nat} {t : Bool} {r : Ref} {n z : Nat} {c : Value} (h : VRel N β (.slice t (some r) n z) c) (hz : r.z = z) (ho : r.o = 0) : SrcOk N β (.win r.g r.e n z) ((β r.g).map fun b : Base => b.shift (r.e * z)) := by
 refine ⟨rfl, fun b0 hb0 => ?_⟩
 cases h with
 | slice _ _ _ _ cap a h1 hn hs h2 =>
  cases hnil : b0.nil with
  | true => exact .inl rfl
  | false =>
   have := ((h2 b0 hb0).2 hnil).2
   have hi : r.i = r.e * z := by unfold Ref.i; rw [hz, ho, Nat.add_zero]
   exact .inr (by omega)
theorem matV_sound (hR : Rel β H w) : (p : VP) → {vs rest : List AV} → {ρ ρ' : Rho} → {x : p.den} → {B : Nat → Option Base} → {cs : List Value} → matV H p vs ρ = some (x, rest, ρ') → VsRel H.n β vs cs → OkB H.n β ρ B →
  Matched H β ρ ρ' B cs rest (encV p x)
 | .bool, vs, rest, ρ, ρ', x, B, cs, h, hv, hB => by
  simp only [matV] at h
  obtain ⟨⟨y, l⟩, hd, he⟩ := map_some h
  cases he
  unfold decBool at hd
  split at hd
  ·cases hd
   cases hv with
   | cons _ c _ cs h1 h2 => exact Matched.one hB h2 fun β1 n1 len _ => by rw [bool_of h1]; exact .bool _ _
  ·cases hd
 | .int k, vs, rest, ρ, ρ', x, B, cs, h, hv, hB => by
  simp only [matV] at h
  obtain ⟨⟨y, l⟩, hd, he⟩ := map_some h
  cases he
  unfold decInt at hd
  split at hd
  ·split at hd
   ·rename_i hk
    subst hk
    cases hd
    cases hv with
    | cons _ c _ cs h1 h2 => exact Matched.one hB h2 fun β1 n1 len _ => by rw [int_of h1]; exact .int _ _ _
   ·cases hd
  ·cases hd
 | .num k, vs, rest, ρ, ρ', x, B, cs, h, hv, hB => by
  simp only [matV] at h
  obtain ⟨⟨y, l⟩, hd, he⟩ := map_some h
  cases he
  unfold decInt at hd
  split at hd
  ·split at hd
   ·rename_i hk
    subst hk
    cases hd
    cases hv with
    | cons _ c _ cs h1 h2 => exact Matched.one hB h2 fun β1 n1 len _ => by rw [int_of h1]; exact .int _ _ _
   ·cases hd
  ·cases hd
 | .byte, vs, rest, ρ, ρ', x, B, cs, h, hv, hB => by
  simp only [matV] at h
  obtain ⟨⟨y, l⟩, hd, he⟩ := map_some h
  cases he
  unfold decByte at hd
  split at hd
  ·rename_i n l
   split at hd
   ·rename_i hc
    obtain ⟨rfl, h0, h3⟩ := hc
    cases hd
    cases hv with
    | cons _ c _ cs h1 h2 =>
     refine Matched.one hB h2 fun β1 n1 len _ => ?_
     rw [int_of h1]
     have : (((UInt8.ofNat n.toNat).toNat : Nat) : Int) = n := by simp; omega
     rw [this]
     exact .int _ _ _
   ·cases hd
  ·cases hd
 | .str, vs, rest, ρ, ρ', x, B, cs, h, hv, hB => by
  simp only [matV] at h
  obtain ⟨⟨y, l⟩, hd, he⟩ := map_some h
  cases he
  unfold decStr at hd
  split at hd
  ·cases hd
   cases hv with
   | cons _ c _ cs h1 h2 => exact Matched.one hB h2 fun β1 n1 len _ => by obtain ⟨b, rfl, hb⟩ := str_of h1; exact .str _ _ _ hb
  ·cases hd
 | .vec t, vs, rest, ρ, ρ', x, B, cs, h, hv, hB => by
  simp only [matV] at h
  obtain ⟨⟨y, l⟩, hd, he⟩ := map_some h
  cases he
  unfold matDat at hd
  split at hd
  ·rename_i b r n z l'
   split at hd
   ·rename_i t' L e hg
    split at hd
    ·rename_i ht
     subst ht
     split at hd
     ·rename_i hc
      cases hd
      cases hv with
      | cons _ c _ cs h1 h2 =>
       refine Matched.one hB h2 fun β1 n1 len hv => ?_
       exact (thaw_sound hR (t := t') hg (by unfold thawAt; rw [if_pos ⟨rfl, hc⟩]) h1).data hv.imm rfl
     ·cases hd
    ·cases hd
   ·cases hd
  unfold decSl at hd
  split at hd
  ·split at hd
   ·rename_i ht
    subst ht
    cases hd
    cases hv with
    | cons _ c _ cs h1 h2 => exact Matched.one hB h2 fun β1 n1 len hv => h1.data hv.imm rfl
   ·cases hd
  ·split at hd
   ·cases hd
    cases hv with
    | cons _ c _ cs h1 h2 =>
     refine Matched.one hB h2 fun β1 n1 len hv => ?_
     cases h1
     exact .vec t [] 0 _ 0 0 (fun _ => undef) (by simp) ⟨fun hc => by simp at hc, fun _ => rfl⟩ (fun k v hv => by simp [encL] at hv) (fun k v hv => by simp [encL] at hv)
   ·cases hd
  ·cases hd
 | .lit v, vs, rest, ρ, ρ', x, B, cs, h, hv, hB => by
  simp only [matV] at h
  obtain ⟨l, hd, he⟩ := map_some h
  cases he
  unfold matLit at hd
  split at hd
  ·split at hd
   ·rename_i hl
    cases hd
    cases hv with
    | cons _ c _ cs h1 h2 => exact Matched.one hB h2 fun β1 n1 len _ => litOk_sound hl h1
   ·cases hd
  ·cases hd
 | .ptr g e z o, vs, rest, ρ, ρ', x, B, cs, h, hv, hB => by
  simp only [matV] at h
  obtain ⟨l, hd, he⟩ := map_some h
  cases he
  unfold matPtr at hd
  split at hd
  ·rename_i t r l
   split at hd
   ·rename_i hc
    obtain ⟨rfl, rfl, rfl⟩ := hc
    cases hv with
    | cons _ c _ cs h1 h2 =>
     split at hd
     ·rename_i hf
      cases hd
      exact Matched.new (b := β r.g) hB hf rfl h2 fun β1 n1 len _ hg hb _ => whole_ptr h1 hg hb
     ·rename_i g' hf
      split at hd
      ·rename_i hg'
       subst hg'
       cases hd
       refine Matched.one hB h2 fun β1 n1 len hv => ?_
       obtain ⟨q1, q2, _⟩ := hv.at_ g _ hf
       have hs : B g = β r.g := hB g _ hf
       rw [hs] at q2
       exact whole_ptr h1 q1 q2
      ·cases hd
     ·cases hd
   ·cases hd
  ·cases hd
 | .sl g z, vs, rest, ρ, ρ', x, B, cs, h, hv, hB => by
  simp only [matV] at h
  obtain ⟨l, hd, he⟩ := map_some h
  cases he
  unfold matSl at hd
  split at hd
  ·rename_i t n z' l
   cases hv with
   | cons _ c _ cs h1 h2 =>
    split at hd
    ·rename_i hf
     cases hd
     refine Matched.new (b := some (nilBase 0)) hB hf rfl h2 fun β1 n1 len _ hg hb hl => ?_
     cases h1 with
     | snil _ _ a _ =>
      have hl : len g = 0 := hl
      rw [hl]
      refine .slice _ _ _ _ _ _ hg (Nat.le_refl _) (fun _ => rfl) fun b hb1 => ?_
      rcases hb with e | e
      ·simp only at hb1; rw [e] at hb1; cases hb1; exact ⟨fun _ => ⟨rfl, fun _ => rfl⟩, fun h => by cases h⟩
      ·simp only at hb1; rw [e] at hb1; cases hb1
    ·rename_i hf
     cases hd
     refine Matched.one hB h2 fun β1 n1 len hv => ?_
     obtain ⟨hg, hb, hl⟩ := hv.at_ g _ hf
     have hs : B g = some (nilBase 0) := hB g _ hf
     cases h1 with
     | snil _ _ a _ =>
      have hl : len g = 0 := hl
      rw [hl]
      refine .slice _ _ _ _ _ _ hg (Nat.le_refl _) (fun _ => rfl) fun b hb1 => ?_
      rcases hb with e | e
      ·simp only at hb1; rw [e, hs] at hb1; cases hb1; exact ⟨fun _ => ⟨rfl, fun _ => rfl⟩, fun h => by cases h⟩
      ·simp only at hb1; rw [e] at hb1; cases hb1
    ·cases hd
  ·rename_i t r n z' l
   split at hd
   ·rename_i hc
    obtain ⟨rfl, hz, ho⟩ := hc
    cases hv with
    | cons _ c _ cs h1 h2 =>
     split at hd
     ·rename_i hf
      cases hd
      refine Matched.new (b := (β r.g).map fun b : Base => b.shift (r.e * z')) hB hf (win_room h1 hz ho) h2 fun β1 n1 len _ hg hb hl => ?_
      have hl : len g = n := hl
      rw [hl]
      exact win_slice h1 hz ho hg hb
     ·rename_i g' hf
      split at hd
      ·rename_i hg'
       obtain ⟨rfl, he, hlen⟩ := hg'
       cases hd
       refine Matched.one hB h2 fun β1 n1 len hv => ?_
       obtain ⟨q1, q2, q3⟩ := hv.at_ g _ hf
       have hs : B g = β r.g := hB g _ hf
       rw [hs] at q2
       rw [q3 z' n hlen]
       have := whole_slice (t' := true) h1 q1 q2
       rw [he, hz, ho] at this
       exact this
      ·cases hd
     ·rename_i g' e' n' z0 hf
      split at hd
      ·rename_i hw
       obtain ⟨rfl, rfl, rfl, rfl⟩ := hw
       cases hd
       refine Matched.one hB h2 fun β1 n1 len hv => ?_
       obtain ⟨q1, q2, q3⟩ := hv.at_ g _ hf
       have hs := (hB g _ hf).1
       rw [hs] at q2
       rw [show len g = _ from q3]
       exact win_slice h1 hz ho q1 q2
      ·cases hd
     ·cases hd
   ·cases hd
  ·rename_i t y l
   split at hd
   ·rename_i hz
    split at hd
    ·rename_i hf
     cases hd
     cases hv with
     | cons _ c _ cs h1 h2 =>
      cases h1 with
      | vec _ _ cap a b o cs' hn ha i1 i2 =>
       by_cases hy : y = []
       ·refine Matched.new (b := some (nilBase 1)) hB hf (show InlOk _ _ _ _ _ from .inl ⟨hy, rfl⟩) h2 fun β1 n1 len _ hg hb hl => ?_
        have hl : len g = y.length := hl
        have hy0 : y.length = 0 := by rw [hy]; rfl
        rw [hl]
        refine .slice _ _ _ _ _ _ hg hn (fun hna => ?_) fun b hb1 => ?_
        ·exact ha.2 hna
        ·rcases hb with e | e
         ·simp only at hb1; rw [e] at hb1; cases hb1; exact ⟨fun _ => ⟨hy0, fun h => by cases h⟩, fun h => by cases h⟩
         ·simp only at hb1; rw [e] at hb1; cases hb1
       ·have hpos : 0 < y.length := List.length_pos_iff.2 hy
        refine Matched.new (b := some ⟨b, o, cap * t.z, false⟩) hB hf (show InlOk _ _ _ _ _ from .inr ⟨hy, b, o, cap * t.z, cs', rfl, Nat.mul_le_mul_right _ hn, fun k v hv => ⟨i1 k v hv, i2 k v hv⟩⟩) h2 fun β1 n1 len _ hg hb hl => ?_
        have hl : len g = y.length := hl
        rw [hl]
        refine .slice _ _ _ _ _ _ hg hn (fun hna => ?_) fun b' hb1 => ?_
        ·exact ha.2 hna
        ·rcases hb with e | e
         ·simp only at hb1
          rw [e] at hb1
          cases hb1
          exact ⟨fun h => (by cases h), fun _ => ⟨fun hc => by simp only [Ref.i, Nat.zero_mul, Nat.add_zero]; exact ha.1 hpos, by simp only [Ref.i, Nat.zero_mul, Nat.zero_add, hz]; exact Nat.le_refl _⟩⟩
         ·simp only at hb1; rw [e] at hb1; cases hb1
    ·cases hd
   ·cases hd
  ·cases hd
 | .part g z, vs, rest, ρ, ρ', x, B, cs, h, hv, hB => by
  simp only [matV] at h
  unfold matPart at h
  split at h
  ·rename_i t r n z' l
   split at h
   ·rename_i hc
    obtain ⟨rfl, hz, ho⟩ := hc
    cases hv with
    | cons _ c _ cs h1 h2 =>
     split at h
     ·rename_i hf
      cases h
      refine Matched.new (b := β r.g) hB hf rfl h2 fun β1 n1 len _ hg hb _ => ?_
      have := whole_slice (t' := true) h1 hg hb
      rw [hz, ho] at this
      exact this
     ·rename_i g' hf
      split at h
      ·rename_i hg'
       subst hg'
       cases h
       refine Matched.one hB h2 fun β1 n1 len hv => ?_
       obtain ⟨q1, q2, _⟩ := hv.at_ g _ hf
       have hs : B g = β r.g := hB g _ hf
       rw [hs] at q2
       have := whole_slice (t' := true) h1 q1 q2
       rw [hz, ho] at this
       exact this
      ·cases h
     ·cases h
   ·cases h
  ·cases h
 | .nil, vs, rest, ρ, ρ', x, B, cs, h, hv, hB => by
  simp only [matV, Option.some.injEq, Prod.mk.injEq] at h
  obtain ⟨_, rfl, rfl⟩ := h
  exact ⟨Ext.refl _, B, hB, fun _ _ _ => rfl, [], cs, rfl, hv, fun _ _ _ _ => .nil⟩
 | .cat a b, vs, rest, ρ, ρ', x, B, cs, h, hv, hB => by
  simp only [matV] at h
  split at h
  ·rename_i xa l1 ρ1 ha
   split at h
   ·rename_i xb l2 ρ2 hb
    cases h
    obtain ⟨e1, B1, o1, k1, c1, c2, rfl, r1, f1⟩ := matV_sound hR a ha hv hB
    obtain ⟨e2, B2, o2, k2, c3, c4, rfl, r2, f2⟩ := matV_sound hR b hb r1 o1
    refine ⟨e1.trans e2, B2, o2, fun g s hs => by rw [k2 g s (e1 g s hs), k1 g s hs], c1 ++ c3, c4, by rw [List.append_assoc], r2, fun β1 n1 len hv => ?_⟩
    exact (f1 β1 n1 len (hv.less e2 k2)).append (f2 β1 n1 len hv)
   ·cases h
  ·cases h
 | .agg p, vs, rest, ρ, ρ', x, B, cs, h, hv, hB => by
  simp only [matV] at h
  split at h
  ·rename_i xs l
   split at h
   ·rename_i y ρ1 hp
    cases h
    cases hv with
    | cons _ c _ cs h1 h2 =>
     cases h1 with
     | agg _ ca h1 =>
      obtain ⟨e1, B1, o1, k1, c1, c2, hcc, r1, f1⟩ := matV_sound hR p hp h1 hB
      cases r1
      rw [List.append_nil] at hcc
      refine ⟨e1, B1, o1, k1, [.agg ca], cs, rfl, h2, fun β1 n1 len hv => .one (.agg _ _ ?_)⟩
      rw [hcc]
      exact f1 β1 n1 len hv
   ·cases h
  ·cases h
 | .tup p, vs, rest, ρ, ρ', x, B, cs, h, hv, hB => by
  simp only [matV] at h
  split at h
  ·rename_i xs l
   split at h
   ·rename_i y ρ1 hp
    cases h
    cases hv with
    | cons _ c _ cs h1 h2 =>
     cases h1 with
     | tup _ ca h1 =>
      obtain ⟨e1, B1, o1, k1, c1, c2, hcc, r1, f1⟩ := matV_sound hR p hp h1 hB
      cases r1
      rw [List.append_nil] at hcc
      refine ⟨e1, B1, o1, k1, [.tuple ca], cs, rfl, h2, fun β1 n1 len hv => .one (.tup _ _ ?_)⟩
      rw [hcc]
      exact f1 β1 n1 len hv
   ·cases h
  ·cases h
 | .func f p q, vs, rest, ρ, ρ', x, B, cs, h, hv, hB => by
  simp only [matV] at h
  split at h
  ·rename_i f' xs ys l
   split at h
   ·rename_i hf
    subst hf
    split at h
    ·rename_i y ρ1 hp
     split at h
     ·rename_i y2 ρ2 hq
      cases h
      cases hv with
      | cons _ c _ cs h1 h2 =>
       cases h1 with
       | func _ _ _ ca da h1 h3 =>
        obtain ⟨e1, B1, o1, k1, c1, c2, hcc, r1, f1⟩ := matV_sound hR p hp h1 hB
        cases r1
        rw [List.append_nil] at hcc
        obtain ⟨e2, B2, o2, k2, d1, d2, hdd, r2, f2⟩ := matV_sound hR q hq h3 o1
        cases r2
        rw [List.append_nil] at hdd
        refine ⟨e1.trans e2, B2, o2, fun g s hs => by rw [k2 g s (e1 g s hs), k1 g s hs], [.func f' ca da], cs, rfl, h2, fun β1 n1 len hv => .one (.func _ _ _ _ _ ?_ ?_)⟩
        ·rw [hcc]
         exact f1 β1 n1 len (hv.less e2 k2)
        ·rw [hdd]
         exact f2 β1 n1 len hv
     ·cases h
    ·cases h
   ·cases h
  ·cases h
end mat
end Go.Vx
end
section
set_option linter.unusedVariables false
set_option linter.unusedSimpArgs false
namespace Go.Vx
section mat
variable {H : Heap} {β : At} {w : World}
theorem Lies.data {N N' : Nat} {β' : At} {cs : List AV} {ro ro' : Bool} {b : Base} (h : Lies N β w cs ro' b) (hd : cs.all AV.data = true) (hi : ∀ b o c, β.imm b o = some c → β'.imm b o = some c) (hr : ro = false → ro' = false) : Lies N' β' w cs ro b where
 cell := fun j v hv => by
  obtain ⟨c, hc, h1⟩ := h.cell j v hv
  exact ⟨c, hc, h1.data hi (List.all_eq_true.1 hd v (List.mem_of_getElem? hv))⟩
 plain := h.plain
 room := h.room
 nl := h.nl
 nr := fun e => h.nr (hr e)
 blk := h.blk
 free := fun e => h.free (hr e)
theorem Lies.window {N : Nat} {cs : List AV} {ro : Bool} {b : Base} (h : Lies N β w cs ro b) (i m : Nat) (hle : i + m ≤ cs.length) : Lies N β w ((cs.drop i).take m) true (b.shift i) where
 cell := fun j v hv => by
  have hj : j < m := by
   have := (List.getElem?_eq_some_iff.1 hv).1
   simp at this; omega
  rw [List.getElem?_take_of_lt hj, List.getElem?_drop] at hv
  obtain ⟨c, hc, h1⟩ := h.cell (i + j) v hv
  have hn : ¬ b.nil = true := fun e => by rw [h.nl e] at hv; simp at hv
  refine ⟨c, ?_, h1⟩
  unfold Base.shift
  rw [if_neg hn]
  rwa [← Nat.add_assoc] at hc
 plain := fun j v hv => by
  have hj : j < m := by
   have := (List.getElem?_eq_some_iff.1 hv).1
   simp at this; omega
  rw [List.getElem?_take_of_lt hj, List.getElem?_drop] at hv
  exact h.plain _ v hv
 room := by
  have h1 := h.room
  unfold Base.shift
  by_cases hn : b.nil = true
  ·rw [if_pos hn]
   rw [h.nl hn] at hle ⊢
   simp
  ·rw [if_neg hn]
   simp; omega
 nl := fun hn => by
  rw [Base.shift_nil] at hn
  rw [h.nl hn]
  simp
 nr := fun e => by cases e
 blk := fun hn => by
  rw [Base.shift_nil] at hn
  rw [Base.shift_blk]
  exact h.blk hn
 free := fun e => by cases e
theorem Lies.empty {N : Nat} {ro : Bool} {room : Nat} (h : ro = false → room = 0) : Lies N β w [] ro (nilBase room) where
 cell := fun j v hv => by simp at hv
 plain := fun j v hv => by simp at hv
 room := by simp
 nl := fun _ => rfl
 nr := fun e _ => h e
 blk := fun hn => by cases hn
 free := fun _ hn => by cases hn
def Whose (H : Heap) (β : At) (s : Src) (bs : Base) : Prop :=
 bs.nil = true ∨ (∃ g b, Src.row? (some s) = some g ∧ β g = some b ∧ b.nil = false ∧ bs.blk = b.blk) ∨ ∃ o c, β.imm bs.blk o = some c
def Mine (H : Heap) (β : At) (s : Src) (bs : Base) : Prop :=
 (s = .nil ∧ bs.nil = true) ∨ ∃ g cs e, Src.row? (some s) = some g ∧ β g = some bs ∧ H.row g = some (cs, e, false)
theorem encL_take_drop (t : Ty) (L : List t.den) (e n : Nat) : encL t ((L.drop e).take n) = ((encL t L).drop (e * t.z)).take (n * t.z) := by rw [encL_take, encL_drop]
theorem matVec_sound (hR : Rel β H w) {t : Ty} {ro : Bool} {s : Src} {l : List t.den} {b : Option Base} (h : matVec H t ro s = some l) (hs : SrcOk H.n β s b) :
  ∃ bs, b = some bs ∧ (∀ (β1 : At) n1, (∀ b o c, β.imm b o = some c → β1.imm b o = some c) → Lies n1 β1 w (encL t l) ro bs) ∧ Whose H β s bs ∧ (ro = false → Mine H β s bs) ∧ LenOk H s l.length := by
 unfold matVec at h
 split at h
 ·rename_i g
  split at h
  ·rename_i t' L e' ro' hg
   split at h
   ·rename_i ht
    subst ht
    split at h
    ·rename_i hro
     cases h
     have hrow : H.row g = some (encL t' L, e', ro') := by unfold Heap.row; rw [hg]; rfl
     obtain ⟨bs, hb⟩ := hR.tot _ _ _ _ hrow
     obtain ⟨cs1, e1, ro1, hrow1, hl⟩ := hR.lies _ _ hb
     rw [hrow] at hrow1
     cases hrow1
     have hs : b = β g := hs
     refine ⟨bs, by rw [hs, hb], fun β1 n1 hi => hl.data (encL_data _ _) hi hro, ?_, fun e => .inr ⟨g, _, _, rfl, hb, by rw [hro e] at hrow; exact hrow⟩, ?_⟩
     ·cases hn : bs.nil with
      | true => exact .inl hn
      | false => exact .inr (.inl ⟨g, bs, rfl, hb, hn, rfl⟩)
     ·intro z n hzn
      unfold rowLen at hzn
      rw [hg] at hzn
      simp only at hzn
      split at hzn
      ·cases hzn; rfl
      ·cases hzn
    ·cases h
   ·cases h
  ·cases h
 ·rename_i g e n z
  split at h
  ·rename_i hz
   obtain ⟨hz, hz0⟩ := hz
   subst hz
   have hsb : b = (β g).map fun b => b.shift (e * t.z) := hs.1
   split at h
   ·rename_i t' L e' ro' hg
    split at h
    ·rename_i ht
     subst ht
     have hrow : H.row g = some (encL t' L, e', ro') := by unfold Heap.row; rw [hg]; rfl
     obtain ⟨bs, hb⟩ := hR.tot _ _ _ _ hrow
     obtain ⟨cs1, e1, ro1, hrow1, hl⟩ := hR.lies _ _ hb
     rw [hrow] at hrow1
     cases hrow1
     split at h
     ·split at h
      ·rename_i hle
       cases h
       refine ⟨bs.shift (e * t'.z), by rw [hsb, hb]; rfl, fun β1 n1 hi => ?_, ?_, fun e => (by cases e), ?_⟩
       ·have h1 := hl.window (e * t'.z) (n * t'.z) (by rw [encL_length, ← Nat.add_mul]; exact Nat.mul_le_mul_right _ hle)
        rw [← encL_take_drop] at h1
        exact h1.data (encL_data _ _) hi (fun h => h)
       ·cases hn : bs.nil with
        | true => exact .inl (by rw [Base.shift_nil]; exact hn)
        | false => exact .inr (.inl ⟨g, bs, rfl, hb, hn, Base.shift_blk _ _⟩)
       ·show _ = n
        simp; omega
      ·cases h
     ·split at h
      ·rename_i hc
       obtain ⟨rfl, rfl, rfl⟩ := hc
       cases h
       refine ⟨bs, by rw [hsb, hb, Nat.zero_mul]; simp [Base.shift_zero], fun β1 n1 hi => hl.data (encL_data _ _) hi (fun h => h), ?_, fun _ => .inr ⟨g, _, _, rfl, hb, hrow⟩, rfl⟩
       cases hn : bs.nil with
       | true => exact .inl hn
       | false => exact .inr (.inl ⟨g, bs, rfl, hb, hn, rfl⟩)
      ·cases h
    ·cases h
   ·rename_i t' L e' hg
    split at h
    ·rename_i ht
     subst ht
     have hrow : H.row g = some (encL t' L, e', true) := by unfold Heap.row; rw [hg]; rfl
     obtain ⟨bs, hb⟩ := hR.tot _ _ _ _ hrow
     obtain ⟨cs1, e1, ro1, hrow1, hl⟩ := hR.lies _ _ hb
     rw [hrow] at hrow1
     cases hrow1
     split at h
     ·split at h
      ·rename_i hle
       cases h
       refine ⟨bs.shift (e * t'.z), by rw [hsb, hb]; rfl, fun β1 n1 hi => ?_, ?_, fun e => (by cases e), ?_⟩
       ·have h1 := hl.window (e * t'.z) (n * t'.z) (by rw [encL_length, ← Nat.add_mul]; exact Nat.mul_le_mul_right _ hle)
        rw [← encL_take_drop] at h1
        exact h1.data (encL_data _ _) hi (fun h => h)
       ·cases hn : bs.nil with
        | true => exact .inl (by rw [Base.shift_nil]; exact hn)
        | false => exact .inr (.inl ⟨g, bs, rfl, hb, hn, Base.shift_blk _ _⟩)
       ·show _ = n
        simp; omega
      ·cases h
     ·cases h
    ·cases h
   ·rename_i cs e' ro' hg
    have hrow : H.row g = some (cs, e', ro') := by unfold Heap.row; rw [hg]; rfl
    obtain ⟨bs, hb⟩ := hR.tot _ _ _ _ hrow
    obtain ⟨cs1, e1, ro1, hrow1, hl⟩ := hR.lies _ _ hb
    rw [hrow] at hrow1
    cases hrow1
    have hlen : ∀ {cs' : List AV}, cs'.length = n * t.z → Like cs' (encL t l) → l.length = n := by
     intro cs' h1 h2
     have h3 := h2.1
     rw [encL_length, h1] at h3
     exact Nat.eq_of_mul_eq_mul_right (Nat.pos_of_ne_zero hz0) h3
    split at h
    ·split at h
     ·rename_i hle
      obtain ⟨hlk, _⟩ := decL_like h
      refine ⟨bs.shift (e * t.z), by rw [hsb, hb]; rfl, fun β1 n1 hi => ?_, ?_, fun e => (by cases e), ?_⟩
      ·exact ((hl.window (e * t.z) (n * t.z) hle).like hlk).data (encL_data _ _) hi (fun h => h)
      ·cases hn : bs.nil with
       | true => exact .inl (by rw [Base.shift_nil]; exact hn)
       | false => exact .inr (.inl ⟨g, bs, rfl, hb, hn, Base.shift_blk _ _⟩)
      ·exact hlen (by simp; omega) hlk
     ·cases h
    ·split at h
     ·rename_i hc
      obtain ⟨rfl, hcl, rfl⟩ := hc
      obtain ⟨hlk, _⟩ := decL_like h
      refine ⟨bs, by rw [hsb, hb, Nat.zero_mul]; simp [Base.shift_zero], fun β1 n1 hi => (hl.like hlk).data (encL_data _ _) hi (fun h => h), ?_, fun _ => .inr ⟨g, _, _, rfl, hb, hrow⟩, hlen hcl.symm hlk⟩
      cases hn : bs.nil with
      | true => exact .inl hn
      | false => exact .inr (.inl ⟨g, bs, rfl, hb, hn, rfl⟩)
     ·cases h
   ·cases h
  ·cases h
 ·cases h
  have hs : b = some (nilBase 0) := hs
  exact ⟨nilBase 0, hs, fun β1 n1 hi => Lies.empty fun _ => rfl, .inl rfl, fun _ => .inl ⟨rfl, rfl⟩, rfl⟩
 ·rename_i t' l'
  split at h
  ·rename_i ht
   subst ht
   split at h
   ·rename_i hc
    obtain ⟨rfl, hz0⟩ := hc
    cases h
    rcases hs with ⟨hnil, hb⟩ | ⟨hne, blk, off, room, cs, hb, hroom, hcs⟩
    ·subst hnil
     refine ⟨nilBase 1, hb, fun β1 n1 hi => ?_, .inl rfl, fun e => (by cases e), rfl⟩
     exact Lies.empty fun e => by cases e
    ·have hpos : 0 < (encL t' l').length := by rw [encL_length]; exact Nat.mul_pos (List.length_pos_iff.2 hne) (Nat.pos_of_ne_zero hz0)
     obtain ⟨v0, hv0⟩ : ∃ v, (encL t' l')[0]? = some v := ⟨_, List.getElem?_eq_getElem hpos⟩
     refine ⟨_, hb, fun β1 n1 hi => ?_, .inr (.inr ⟨_, _, (hcs 0 v0 hv0).1⟩), fun e => (by cases e), rfl⟩
     exact {
      cell := fun j v hv => ⟨cs j, hR.immw _ _ _ (hcs j v hv).1, (hcs j v hv).2.data hi (encL_data_at hv)⟩
      plain := fun j v hv => List.all_eq_true.1 (encL_all t' l') v (List.mem_of_getElem? hv)
      room := by rw [encL_length]; exact hroom
      nl := fun e => by cases e
      nr := fun e => by cases e
      blk := fun _ => hR.imm_lt (hcs 0 v0 hv0).1
      free := fun e => by cases e }
   ·cases h
  ·cases h
theorem VRel.cell_of {N : Nat} {v : AV} {c : Value} (h : VRel N β v c) (h1 : ∀ xs, c ≠ .agg xs) (h2 : ∀ xs, c ≠ .tuple xs) : v.cell = true := by
 cases h <;> first | rfl | exact absurd rfl (h1 _) | exact absurd rfl (h2 _)
theorem matR_sound (hR : Rel β H w) : (r : RP) → {i : Nat} → {ρ ρ' : Rho} → {x : r.den} → {B : Nat → Option Base} → matR H r (ρ.find i) ρ = some (x, ρ') → OkB H.n β ρ B →
  Ext ρ ρ' ∧ (ρ'.find i = ρ.find i) ∧ ∃ B' : Nat → Option Base, OkB H.n β ρ' B' ∧ (∀ g s, ρ.find g = some s → B' g = B g) ∧
   (r.dead? = false → ∃ s bs, ρ.find i = some s ∧ B' i = some bs ∧ (∀ β1 n1 len, View H β ρ' B' β1 n1 len → ∃ cs e, (encR r x len).row = some (cs, e, !r.rw) ∧ Lies n1 β1 w cs (!r.rw) bs ∧ (r.rw = true → TypOk w bs cs e)) ∧ Whose H β s bs ∧ (r.rw = true → Mine H β s bs) ∧ LenOk H s (r.len x))
 | .dead, i, ρ, ρ', x, B, h, hB => by
  simp only [matR] at h
  cases h
  exact ⟨Ext.refl _, rfl, B, hB, fun _ _ _ => rfl, fun e => by cases e⟩
 | .vec t e ro, i, ρ, ρ', x, B, h, hB => by
  simp only [matR] at h
  split at h
  ·rename_i s hf
   split at h
   ·rename_i hty
    obtain ⟨l, hl, he⟩ := map_some h
    cases he
    obtain ⟨bs, hb, h1, h2, h3, h4⟩ := matVec_sound hR hl (hB i s hf)
    refine ⟨Ext.refl _, rfl, B, hB, fun _ _ _ => rfl, fun _ => ⟨s, bs, hf, hb, fun β1 n1 len hv => ⟨encL t x, e, by simp only [encR, AObj.row, RP.rw, Bool.not_not], ?_, fun hw => ?_⟩, h2, fun e => h3 (by simpa [RP.rw] using e), h4⟩⟩
    ·have := h1 β1 n1 hv.imm
     simpa [RP.rw] using this
    ·have hw : ro = false := by simpa [RP.rw] using hw
     have ht := hty hw
     rcases h3 hw with ⟨_, hn⟩ | ⟨g, cs0, e0, hg, hbg, hrow⟩
     ·exact fun h => by rw [hn] at h; cases h
     ·have hq : e0 = e ∧ Nat.blt e KT = true := by
       cases s with
       | whole g' => cases hg; exact tyAt_spec ht hrow
       | win g' _ _ _ => cases hg; exact tyAt_spec ht hrow
       | nil => cases hg
       | inl _ _ => cases hg
      obtain ⟨rfl, hlt⟩ := hq
      exact (hR.typ _ _ _ _ hbg hrow).low hlt fun h => ⟨h, rfl⟩
   ·cases h
  ·cases h
 | .cells p e ro, i, ρ, ρ', x, B, h, hB => by
  simp only [matR] at h
  split at h
  ·rename_i g hf
   split at h
   ·rename_i cs e' ro' hg
    split at h
    ·rename_i hro
     split at h
     ·rename_i y ρ1 hp
      cases h
      have hrow : H.row g = some (cs, e', ro') := by unfold Heap.row; rw [hg]; rfl
      obtain ⟨bs, hb⟩ := hR.tot _ _ _ _ hrow
      obtain ⟨cs1, e1, ro1, hrow1, hl⟩ := hR.lies _ _ hb
      rw [hrow] at hrow1
      cases hrow1
      obtain ⟨vs, hvl, hvc, hvr⟩ := cells_read hl 0 cs.length (by omega)
      rw [List.drop_zero, List.take_length] at hvr
      obtain ⟨ex, B', oB, kB, c1, c2, hcc, r1, f1⟩ := matV_sound hR p hp hvr hB
      cases r1
      rw [List.append_nil] at hcc
      subst hcc
      have hBi : B' i = some bs := by
       rw [kB i _ hf]
       have hs : B i = β g := hB i _ hf
       rw [hs, hb]
      refine ⟨ex, ?_, B', oB, kB, fun _ => ⟨_, bs, hf, hBi, fun β1 n1 len hv => ⟨encV p x len, e, by simp only [encR, AObj.row, RP.rw, Bool.not_not], ?_, fun hw => ?_⟩, ?_, fun e => .inr ⟨g, _, _, rfl, hb, by rw [(hro (by simpa [RP.rw] using e)).1] at hrow; exact hrow⟩, ?_⟩⟩
      ·rw [hf]; exact ex _ _ hf
      ·have hvs := f1 β1 n1 len hv
       have hlen := hvs.length
       have e1 : (!(RP.cells p e ro).rw) = ro := by simp [RP.rw]
       rw [e1]
       exact {
        cell := fun j v hv => by
         obtain ⟨c, hc, hr⟩ := hvs.at j v hv
         have := hvc j c hc
         rw [place_add, Nat.zero_add] at this
         exact ⟨c, this, hr⟩
        plain := fun j v hv => by
         obtain ⟨c, hc, hr⟩ := hvs.at j v hv
         have hj : j < vs.length := (List.getElem?_eq_some_iff.1 hc).1
         have hj' : j < cs.length := by omega
         obtain ⟨c', hc', hr'⟩ := hvr.at j cs[j] (List.getElem?_eq_getElem hj')
         rw [hc] at hc'
         cases hc'
         obtain ⟨q1, q2⟩ := hr'.one (hl.plain j _ (List.getElem?_eq_getElem hj'))
         exact hr.cell_of q1 q2
        room := by have := hl.room; omega
        nl := fun hn => by
         have := hl.nl hn
         rw [this] at hvl
         simp only [List.length_nil] at hvl
         exact List.length_eq_zero_iff.1 (by omega)
        nr := fun e => hl.nr (hro e).1
        blk := hl.blk
        free := fun e => hl.free (hro e).1 }
      ·obtain ⟨q1, q2⟩ := hro (by simpa [RP.rw] using hw)
       rw [q1, q2] at hrow
       exact (hR.typ _ _ _ _ hb hrow).len (by have := (f1 β1 n1 len hv).length; omega)
      ·cases hn : bs.nil with
       | true => exact .inl hn
       | false => exact .inr (.inl ⟨g, bs, rfl, hb, hn, rfl⟩)
      ·intro z n hzn
       unfold rowLen at hzn
       rw [hg] at hzn
       cases hzn
     ·cases h
    ·cases h
   ·cases h
  ·cases h
theorem matRs_sound (hR : Rel β H w) : (rs : List RP) → {i : Nat} → {ρ ρ' : Rho} → {x : rowsDen rs} → {B : Nat → Option Base} → matRs H rs i ρ = some (x, ρ') → OkB H.n β ρ B →
  Ext ρ ρ' ∧ ∃ B' : Nat → Option Base, OkB H.n β ρ' B' ∧ (∀ g s, ρ.find g = some s → B' g = B g) ∧
   ∀ j r, rs[j]? = some r → 
    (r.dead? = false → ∃ s bs, ρ'.find (i + j) = some s ∧ B' (i + j) = some bs ∧ (∀ β1 n1 len, View H β ρ' B' β1 n1 len → ∃ cs e, ((encRs rs x len)[j]?.bind AObj.row) = some (cs, e, !r.rw) ∧ Lies n1 β1 w cs (!r.rw) bs ∧ (r.rw = true → TypOk w bs cs e)) ∧ Whose H β s bs ∧ (r.rw = true → Mine H β s bs) ∧ LenOk H s (lens rs x j))
 | [], i, ρ, ρ', x, B, h, hB => by
  simp only [matRs] at h
  cases h
  exact ⟨Ext.refl _, B, hB, fun _ _ _ => rfl, fun j r hr => by simp at hr⟩
 | r :: rs, i, ρ, ρ', x, B, h, hB => by
  simp only [matRs] at h
  split at h
  ·rename_i x1 ρ1 h1
   split at h
   ·rename_i xs ρ2 h2
    cases h
    obtain ⟨e1, f1, B1, o1, k1, g1⟩ := matR_sound hR r h1 hB
    obtain ⟨e2, B2, o2, k2, g2⟩ := matRs_sound hR rs h2 o1
    refine ⟨e1.trans e2, B2, o2, fun g s hs => by rw [k2 g s (e1 g s hs), k1 g s hs], fun j r' hr' => ?_⟩
    cases j with
    | zero =>
     simp only [List.getElem?_cons_zero, Option.some.injEq] at hr'
     subst hr'
     intro hd
     obtain ⟨s, bs, hs, hb, q1, q2, q3, q4⟩ := g1 hd
     have hs1 : ρ1.find i = some s := e1 _ _ hs
     refine ⟨s, bs, by rw [Nat.add_zero]; exact e2 _ _ hs1, by rw [Nat.add_zero, k2 i s hs1]; exact hb, fun β1 n1 len hv => ?_, q2, q3, q4⟩
     obtain ⟨cs, e, hrow, hl, ht⟩ := q1 β1 n1 len (hv.less e2 k2)
     exact ⟨cs, e, by simpa [encRs] using hrow, hl, ht⟩
    | succ j =>
     simp only [List.getElem?_cons_succ] at hr'
     have q := g2 j r' hr'
     intro hd
     have e3 : i + (j + 1) = i + 1 + j := by omega
     rw [e3]
     obtain ⟨s, bs, hs, hb, q1, q2, q3, q4⟩ := q hd
     refine ⟨s, bs, hs, hb, fun β1 n1 len hv => ?_, q2, q3, q4⟩
     obtain ⟨cs, e, hrow, hl, ht⟩ := q1 β1 n1 len hv
     exact ⟨cs, e, by simpa [encRs] using hrow, hl, ht⟩
   ·cases h
  ·cases h
end mat
end Go.Vx
end
section
set_option linter.unusedVariables false
set_option linter.unusedSimpArgs false
namespace Go.Vx
theorem noneOf_spec {g : Nat} : ∀ {l : List (Option Nat × Bool)}, noneOf g l = true → ∀ {j : Nat} {g' : Nat} {b : Bool}, l[j]? = some (some g', b) → g ≠ g'
 | [], _, j, g', b, hj => by simp at hj
 | (none, c) :: l, h, j, g', b, hj => by
  cases j with
  | zero => simp at hj
  | succ j => exact noneOf_spec (by simpa only [noneOf] using h) (by simpa using hj)
 | (some g0, c) :: l, h, j, g', b, hj => by
  simp only [noneOf, Bool.and_eq_true, Bool.not_eq_true'] at h
  cases j with
  | zero => simp at hj; rw [← hj.1]; exact Nat.ne_of_beq_eq_false h.1
  | succ j => exact noneOf_spec h.2 (by simpa using hj)
theorem noRw_spec {g : Nat} : ∀ {l : List (Option Nat × Bool)}, noRw g l = true → ∀ {j : Nat} {g' : Nat}, l[j]? = some (some g', true) → g ≠ g'
 | [], _, j, g', hj => by simp at hj
 | (none, c) :: l, h, j, g', hj => by
  cases j with
  | zero => simp at hj
  | succ j => exact noRw_spec (by simpa only [noRw] using h) (by simpa using hj)
 | (some g0, c) :: l, h, j, g', hj => by
  simp only [noRw, Bool.and_eq_true, Bool.not_eq_true'] at h
  cases j with
  | zero =>
   simp at hj
   obtain ⟨rfl, rfl⟩ := hj
   rw [Bool.and_true] at h
   exact Nat.ne_of_beq_eq_false h.1
  | succ j => exact noRw_spec h.2 (by simpa using hj)
theorem injOk_spec : ∀ {l : List (Option Nat × Bool)}, injOk l = true → ∀ {i j : Nat} {g g' : Nat} {b : Bool}, l[i]? = some (some g, true) → l[j]? = some (some g', b) → i ≠ j → g ≠ g'
 | [], _, i, j, g, g', b, hi, hj, hne => by simp at hi
 | (none, c) :: l, h, i, j, g, g', b, hi, hj, hne => by
  cases i with
  | zero => simp at hi
  | succ i =>
   cases j with
   | zero => simp at hj
   | succ j => exact injOk_spec (by simpa only [injOk] using h) (by simpa using hi) (by simpa using hj) (by omega)
 | (some g0, c) :: l, h, i, j, g, g', b, hi, hj, hne => by
  cases c with
  | true =>
   simp only [injOk, Bool.and_eq_true] at h
   cases i with
   | zero =>
    simp at hi
    subst hi
    cases j with
    | zero => exact absurd rfl hne
    | succ j => exact noneOf_spec h.1 (by simpa using hj)
   | succ i =>
    cases j with
    | zero =>
     simp at hj
     rw [← hj.1]
     exact (noneOf_spec h.1 (show l[i]? = some (some g, true) by simpa using hi)).symm
    | succ j => exact injOk_spec h.2 (by simpa using hi) (by simpa using hj) (by omega)
  | false =>
   simp only [injOk, Bool.and_eq_true] at h
   cases i with
   | zero => simp at hi
   | succ i =>
    cases j with
    | zero =>
     simp at hj
     rw [← hj.1]
     exact (noRw_spec h.1 (show l[i]? = some (some g, true) by simpa using hi)).symm
    | succ j => exact injOk_spec h.2 (by simpa using hi) (by simpa using hj) (by omega)
theorem froms_get (ρ : Rho) : ∀ (rs : List RP) (i j : Nat), (froms ρ rs i)[j]? = (rs[j]?).map fun r => bif r.dead? then (none, false) else (Src.row? (ρ.find (i + j)), r.rw)
 | [], i, j => by simp [froms]
 | r :: rs, i, j => by
  cases j with
  | zero => simp [froms]
  | succ j => simp only [froms, List.getElem?_cons_succ, froms_get ρ rs (i + 1) j, show i + 1 + j = i + (j + 1) from by omega]
theorem below_spec {n : Nat} : ∀ {ρ : Rho}, below n ρ = true → ∀ {g : Nat} {s : Src}, ρ.find g = some s → g < n
 | [], _, g, s, hs => by simp [Rho.find] at hs
 | (i, s0) :: ρ, h, g, s, hs => by
  simp only [below, Bool.and_eq_true] at h
  rw [Rho.find_cons] at hs
  split at hs
  ·rename_i e; rw [← e]; exact Nat.blt_eq.mp h.1
  ·exact below_spec h.2 hs
theorem deads_spec {H : Heap} {ρ : Rho} : ∀ {rs : List RP} {i : Nat}, deads H ρ rs i = true → ∀ {j : Nat} {r : RP}, rs[j]? = some r → r.dead? = true → ∀ {s : Src}, ρ.find (i + j) = some s → ∃ g, s = .whole g
 | [], i, _, j, r, hr, _, s, _ => by simp at hr
 | r0 :: rs, i, h, j, r, hr, hd, s, hs => by
  simp only [deads, Bool.and_eq_true] at h
  cases j with
  | zero =>
   simp at hr
   subst hr
   rw [Nat.add_zero] at hs
   have h1 := h.1
   rw [hd, hs] at h1
   cases s with
   | whole g => exact ⟨g, rfl⟩
   | win _ _ _ _ => cases h1
   | nil => cases h1
   | inl _ _ => cases h1
  | succ j => exact deads_spec h.2 (by simpa using hr) hd (by rwa [show i + 1 + j = i + (j + 1) from by omega])
def Dom.at_ (D : Dom) (β : At) (B : Nat → Option Base) : At := { base := fun i => if D.live i = true then B i else none, imm := β.imm }
theorem Dom.row_eq (D : Dom) (x : D.den) (i : Nat) : (D.heap x).row i = (encRs D.rows x.1 (D.len x))[i]?.bind AObj.row := by unfold Heap.row; rw [D.heap_get]
theorem encRs_dead : ∀ (rs : List RP) (x : rowsDen rs) (len : Nat → Nat) (i : Nat) (r : RP), rs[i]? = some r → r.dead? = true → (encRs rs x len)[i]?.bind AObj.row = none
 | [], _, _, i, r, h, _ => by simp at h
 | r0 :: rs, x, len, i, r, h, hd => by
  cases i with
  | zero =>
   simp at h
   subst h
   cases r0 <;> simp [RP.dead?] at hd
   simp [encRs, encR, AObj.row]
  | succ i => simpa [encRs] using encRs_dead rs x.2 len i r (by simpa using h) hd
theorem encRs_fro (t : Ty) (l : List t.den) (e : TypeId) : ∀ (rs : List RP) (x : rowsDen rs) (len : Nat → Nat) (i : Nat), (encRs rs x len)[i]? ≠ some (.fro t l e)
 | [], x, len, i, h => by simp [encRs] at h
 | r :: rs, x, len, i, h => by
  cases i with
  | zero => cases r <;> simp [encRs, encR] at h
  | succ i => exact encRs_fro t l e rs x.2 len i (by simpa [encRs] using h)
section cast
variable {H : Heap} {β : At} {w : World}
structure Cast (D : Dom) (x : D.den) (H : Heap) (β : At) (w : World) (ρ : Rho) (B : Nat → Option Base) (cs : List Value) : Prop where
 okB : OkB H.n β ρ B
 rel : Rel (D.at_ β B) (D.heap x) w
 args : VsRel D.rows.length (D.at_ β B) (D.args x) cs
 muts : ∀ k, Mut (D.at_ β B) (D.heap x) k → Mut β H k
 row : ∀ i r, D.rows[i]? = some r → r.dead? = false → ∃ s bs, ρ.find i = some s ∧ B i = some bs ∧ (∃ cs e, (D.heap x).row i = some (cs, e, !r.rw)) ∧ Whose H β s bs ∧ (r.rw = true → Mine H β s bs)
 inj : injOk (froms ρ D.rows 0) = true
 dead : ∀ i r, D.rows[i]? = some r → r.dead? = true → ∀ s, ρ.find i = some s → ∃ g, s = .whole g
theorem cast_sound (hR : Rel β H w) {D : Dom} {vs : List AV} {ρ0 ρ : Rho} {x : D.den} (h : D.mat vs H ρ0 = some (x, ρ)) {cs : List Value} (hv : VsRel H.n β vs cs) {B0 : Nat → Option Base} (h0 : OkB H.n β ρ0 B0) :
  ∃ B, Cast D x H β w ρ B cs ∧ Ext ρ0 ρ ∧ ∀ g s, ρ0.find g = some s → B g = B0 g := by
 unfold Dom.mat at h
 split at h
 ·rename_i xv ρ1 h1
  split at h
  ·rename_i xr ρ2 h2
   split at h
   ·rename_i hc
    cases h
    obtain ⟨hbelow, hinj, hdead, hslsOk⟩ := hc
    obtain ⟨e1, B1, o1, k1, c1, c2, rfl, r1, f1⟩ := matV_sound hR D.vals h1 hv h0
    cases r1
    rw [List.append_nil]
    obtain ⟨e2, B2, o2, k2, g2⟩ := matRs_sound hR D.rows h2 o1
    have hq : ∀ i r, D.rows[i]? = some r → r.dead? = false → ∃ s bs, ρ.find i = some s ∧ B2 i = some bs ∧ (∀ β1 n1 len, View H β ρ B2 β1 n1 len → ∃ cs e, ((encRs D.rows xr len)[i]?.bind AObj.row) = some (cs, e, !r.rw) ∧ Lies n1 β1 w cs (!r.rw) bs ∧ (r.rw = true → TypOk w bs cs e)) ∧ Whose H β s bs ∧ (r.rw = true → Mine H β s bs) ∧ LenOk H s (lens D.rows xr i) := by
     intro i r hr hd
     have := g2 i r hr hd
     simpa only [Nat.zero_add] using this
    have hdd : ∀ i r, D.rows[i]? = some r → r.dead? = true → ∀ s, ρ.find i = some s → ∃ g, s = .whole g := fun i r hr hd s hs => deads_spec hdead hr hd (by rwa [Nat.zero_add])
    let len' : Nat → Nat := fun g => match D.live g, ρ.find g with
     | false, some (.whole g') => match H.get g' with
      | some (.vec t l _ _) => l.length
      | _ => 0
     | _, _ => D.len (xr, xv) g
    have hlen' : ∀ g, D.live g = true → len' g = D.len (xr, xv) g := fun g hg => by simp only [len', hg]
    have hall : ∀ g, g ∈ D.vals.sls ++ rsSls D.rows → len' g = D.len (xr, xv) g := fun g hg => hlen' g (List.all_eq_true.1 hslsOk g hg)
    have hvE : encV D.vals xv len' = encV D.vals xv (D.len (xr, xv)) := encV_congr _ _ _ _ fun g hg => hall g (List.mem_append_left _ hg)
    have hrE : encRs D.rows xr len' = encRs D.rows xr (D.len (xr, xv)) := encRs_congr _ _ _ _ fun g hg => hall g (List.mem_append_right _ hg)
    have hview : View H β ρ B2 (D.at_ β B2) D.rows.length len' := by
     refine ⟨fun _ _ _ h => h, fun g s hs => ?_⟩
     have hlt := below_spec hbelow hs
     have hr : D.rows[g]? = some D.rows[g] := List.getElem?_eq_getElem hlt
     refine ⟨hlt, ?_, ?_⟩
     ·show (if D.live g = true then B2 g else none) = B2 g ∨ (if D.live g = true then B2 g else none) = none
      by_cases hl : D.live g = true
      ·rw [if_pos hl]; exact .inl rfl
      ·rw [if_neg hl]; exact .inr rfl
     ·cases hd : D.rows[g].dead? with
      | false =>
       obtain ⟨s', bs, hs', _, _, _, _, hl⟩ := hq g _ hr hd
       rw [hs] at hs'
       cases hs'
       rw [hlen' g (by unfold Dom.live; rw [hr]; simp [hd])]
       exact hl
      | true =>
       obtain ⟨g', rfl⟩ := hdd g _ hr hd s hs
       have hld : D.live g = false := by unfold Dom.live; rw [hr]; simp [hd]
       intro z n hzn
       unfold rowLen at hzn
       simp only [len', hld, hs]
       split at hzn
       ·rename_i t l e ro hg
        try rw [hg]
        split at hzn
        ·simpa using hzn
        ·cases hzn
       ·cases hzn
    have hview1 : ∀ i r, D.rows[i]? = some r → r.dead? = false → ∀ bs, B2 i = some bs → ∃ cs e, ((encRs D.rows xr (D.len (xr, xv)))[i]?.bind AObj.row) = some (cs, e, !r.rw) ∧ Lies D.rows.length (D.at_ β B2) w cs (!r.rw) bs ∧ (r.rw = true → TypOk w bs cs e) := fun i r hr hd bs hbs => by
     obtain ⟨s, bs', hs, hbs', q1, _⟩ := hq i r hr hd
     rw [hbs] at hbs'
     cases hbs'
     have := q1 _ _ _ hview
     rwa [hrE] at this
    have hlive : ∀ i b, (D.at_ β B2) i = some b → ∃ r, D.rows[i]? = some r ∧ r.dead? = false ∧ B2 i = some b := by
     intro i b hb
     have hb : (if D.live i = true then B2 i else none) = some b := hb
     split at hb
     ·rename_i hl
      unfold Dom.live at hl
      split at hl
      ·rename_i r hr; exact ⟨r, hr, by simpa using hl, hb⟩
      ·cases hl
     ·cases hb
    have hat : ∀ i r, D.rows[i]? = some r → r.dead? = false → (D.at_ β B2) i = B2 i := by
     intro i r hr hd
     show (if D.live i = true then B2 i else none) = B2 i
     rw [if_pos (by unfold Dom.live; rw [hr]; simp [hd])]
    have hrow : ∀ i cs e ro, (D.heap (xr, xv)).row i = some (cs, e, ro) → ∃ r, D.rows[i]? = some r ∧ r.dead? = false ∧ ro = !r.rw := by
     intro i cs e ro hi
     rw [D.row_eq] at hi
     cases hr : D.rows[i]? with
     | none =>
      have : D.rows.length ≤ i := List.getElem?_eq_none_iff.1 hr
      rw [List.getElem?_eq_none (by rw [encRs_length]; exact this)] at hi
      cases hi
     | some r =>
      cases hd : r.dead? with
      | true => rw [encRs_dead _ _ _ _ _ hr hd] at hi; cases hi
      | false =>
       obtain ⟨s, bs, _, hbs1, q1, _⟩ := hq i r hr hd
       obtain ⟨cs', e', hrow', _⟩ := hview1 i r hr hd bs hbs1
       have hi' : (encRs D.rows xr (D.len (xr, xv)))[i]?.bind AObj.row = some (cs, e, ro) := hi
       rw [hrow'] at hi'
       cases hi'
       exact ⟨r, rfl, hd, rfl⟩
    have hmut : ∀ k, Mut (D.at_ β B2) (D.heap (xr, xv)) k → Mut β H k := by
     rintro k ⟨i, b, cs, e, hb, hr0, hn, rfl⟩
     obtain ⟨r, hr, hd, hBi⟩ := hlive i b hb
     obtain ⟨r', hr', hd', hrw⟩ := hrow i cs e false hr0
     rw [hr] at hr'
     cases hr'
     obtain ⟨s, bs, hs, hbs, _, _, hmine, _⟩ := hq i r hr hd
     rw [hBi] at hbs
     cases hbs
     rcases hmine (by simpa using hrw) with ⟨_, h⟩ | ⟨g, cs', e', _, hg, hrow'⟩
     ·rw [hn] at h; cases h
     ·exact ⟨g, b, cs', e', hg, hrow', hn, rfl⟩
    have hargs : VsRel D.rows.length (D.at_ β B2) (D.args (xr, xv)) c1 := by
     have := f1 _ _ _ (hview.less e2 k2)
     rw [hvE] at this
     exact (Dom.args_eq D (xr, xv)) ▸ this
    refine ⟨B2, ⟨o2, ?_, hargs, hmut, fun i r hr hd => ?_, hinj, hdd⟩, e1.trans e2, fun g s hs => by rw [k2 g s (e1 g s hs), k1 g s hs]⟩
    ·exact {
      lies := fun i b hb => by
       obtain ⟨r, hr, hd, hBi⟩ := hlive i b hb
       obtain ⟨s, bs, hs, hbs, q1, _⟩ := hq i r hr hd
       rw [hBi] at hbs
       cases hbs
       obtain ⟨cs, e, h1, h2⟩ := hview1 i r hr hd _ hBi
       exact ⟨cs, e, _, by rw [D.row_eq]; exact h1, by rw [D.heap_n]; exact h2.1⟩
      tot := fun i cs e ro hi => by
       obtain ⟨r, hr, hd, _⟩ := hrow i cs e ro hi
       obtain ⟨s, bs, hs, hbs, _⟩ := hq i r hr hd
       exact ⟨bs, by rw [hat i r hr hd]; exact hbs⟩
      fresh := fun i o ho => by
       rw [D.heap_get] at ho
       rw [D.heap_n, ← encRs_length D.rows xr (D.len (xr, xv))]
       exact (List.getElem?_eq_some_iff.1 ho).1
      apart := fun i j b b' cs e hne hb hb' hr0 hn hn' hblk => by
       obtain ⟨r, hr, hd, hBi⟩ := hlive i b hb
       obtain ⟨r2, hr2, hd2, hBj⟩ := hlive j b' hb'
       obtain ⟨r', hr', _, hrw⟩ := hrow i cs e false hr0
       rw [hr] at hr'
       cases hr'
       obtain ⟨s, bs, hs, hbs, _, _, hmine, _⟩ := hq i r hr hd
       obtain ⟨s2, bs2, hs2, hbs2, _, hwhose, _, _⟩ := hq j r2 hr2 hd2
       rw [hBi] at hbs
       cases hbs
       rw [hBj] at hbs2
       cases hbs2
       have hrw' : r.rw = true := by simpa using hrw
       rcases hmine hrw' with ⟨_, h⟩ | ⟨g, cs', e', hsg, hg, hrow'⟩
       ·rw [hn] at h; cases h
       ·rcases hwhose with h | ⟨g2, b2, hsg2, hg2, hn2, hblk2⟩ | ⟨o, c, hc⟩
        ·rw [hn'] at h; cases h
        ·have hi1 : (froms ρ D.rows 0)[i]? = some (some g, true) := by rw [froms_get, hr]; simp [hd, hs, hsg, hrw']
         have hj1 : (froms ρ D.rows 0)[j]? = some (some g2, r2.rw) := by rw [froms_get, hr2]; simp [hd2, hs2, hsg2]
         have hgg := injOk_spec hinj hi1 hj1 hne
         exact hR.apart g g2 b b2 cs' e' hgg hg hg2 hrow' hn hn2 (by rw [hblk, hblk2])
        ·exact hR.immm _ _ _ hc ⟨g, b, cs', e', hg, hrow', hn, hblk⟩
      immw := hR.immw
      immm := fun b o c hc hm => hR.immm b o c hc (hmut b hm)
      glob := hR.glob
      tab := hR.tab
      typ := fun i b cs e hb hr0 => by
       obtain ⟨r, hr, hd, hBi⟩ := hlive i b hb
       obtain ⟨r', hr', _, hrw⟩ := hrow i cs e false hr0
       rw [hr] at hr'
       cases hr'
       obtain ⟨cs', e', h1, _, h3⟩ := hview1 i r hr hd b hBi
       rw [D.row_eq] at hr0
       have hw : r.rw = true := by simpa using hrw
       rw [hr0, hw] at h1
       cases h1
       exact h3 hw
      fro := fun g t l e b hg => by
       rw [Dom.heap_get] at hg
       exact absurd hg (encRs_fro _ _ _ _ _ _ _) }
    ·obtain ⟨s, bs, hs, hbs, q1, q2, q3, _⟩ := hq i r hr hd
     obtain ⟨cs, e, h1, _⟩ := hview1 i r hr hd bs hbs
     exact ⟨s, bs, hs, hbs, ⟨cs, e, by rw [D.row_eq]; exact h1⟩, q2, q3⟩
   ·cases h
  ·cases h
 ·cases h
def keepK : Nat → Rho
 | 0 => []
 | k + 1 => (k, .whole k) :: keepK k
theorem keepK_find : ∀ (k g : Nat), (keepK k).find g = if g < k then some (.whole g) else none
 | 0, g => by simp [keepK, Rho.find]
 | k + 1, g => by
  rw [keepK, Rho.find_cons, keepK_find k]
  by_cases e : k = g
  ·subst e; simp
  ·rw [if_neg e]
   by_cases h : g < k
   ·rw [if_pos h, if_pos (by omega)]
   ·rw [if_neg h, if_neg (by omega)]
theorem recast (hR : Rel β H w) {D : Dom} {vs : List AV} {K : Nat} {ρ : Rho} {x : D.den} (h : D.mat vs H (keepK K) = some (x, ρ)) (hK : K ≤ D.rows.length) {cs : List Value} (hv : VsRel H.n β vs cs) {S : Start} (hSK : S.H.n = K) (hS : S.le β H w) :
  ∃ β1, Rel β1 (D.heap x) w ∧ S.le β1 (D.heap x) w ∧ VsRel (D.heap x).n β1 (D.args x) cs := by
 obtain ⟨B, hc, hext, hB⟩ := cast_sound hR h hv (B0 := β) (fun g s hs => by
  rw [keepK_find] at hs
  split at hs
  ·cases hs; rfl
  ·cases hs)
 have hf : ∀ g, g < K → ρ.find g = some (.whole g) ∧ B g = β g := fun g hg => by
  have h1 : (keepK K).find g = some (.whole g) := by rw [keepK_find, if_pos hg]
  exact ⟨hext _ _ h1, hB _ _ h1⟩
 refine ⟨D.at_ β B, hc.rel, ?_, by rw [D.heap_n]; exact hc.args⟩
 refine ⟨hS.os, hS.tape, hS.output, hS.size, by rw [D.heap_n, hSK]; exact hK, ⟨fun g hg => ?_, hS.keeps.2⟩, fun g cs' e hro => ?_, hS.imm, hS.blocks, fun k hk => hS.turn k (hc.muts k hk)⟩
 ·rw [hSK] at hg
  have hBg := (hf g hg).2
  show (if D.live g = true then B g else none) = _ ∨ (if D.live g = true then B g else none) = none
  by_cases hl : D.live g = true
  ·rw [if_pos hl, hBg]; exact hS.keeps.1 g (by omega)
  ·rw [if_neg hl]; exact .inr rfl
 ·have hg : g < K := by
   rw [← hSK]
   unfold Heap.row at hro
   cases ho : S.H.get g with
   | none => rw [ho] at hro; cases hro
   | some o => exact S.fresh g o ho
  obtain ⟨hfg, hBg⟩ := hf g hg
  have hr : D.rows[g]? = some D.rows[g] := List.getElem?_eq_getElem (by omega)
  have hgn : g < (D.heap x).n := by rw [D.heap_n]; omega
  cases hd : D.rows[g].dead? with
  | true => exact .inr ⟨hgn, by show (if D.live g = true then B g else none) = none; rw [if_neg (by unfold Dom.live; rw [hr]; simp [hd])]⟩
  | false => ?_
  rcases hS.ro g cs' e hro with ⟨h1, cs1, e1, h2⟩ | ⟨_, h2⟩
  case inr => exact .inr ⟨hgn, by show (if D.live g = true then B g else none) = none; rw [hBg, h2]; simp⟩
  left
  obtain ⟨s, bs, hs, hbs, ⟨cs2, e2, hrow⟩, _, hmine⟩ := hc.row g _ hr hd
  rw [hfg] at hs
  cases hs
  refine ⟨?_, cs2, e2, ?_⟩
  ·show (if D.live g = true then B g else none) = _
   rw [if_pos (by unfold Dom.live; rw [hr]; simp [hd]), hBg]
   exact h1
  ·have hrw : D.rows[g].rw = false := by
    cases hrw : D.rows[g].rw with
    | false => rfl
    | true =>
     rcases hmine hrw with ⟨h, _⟩ | ⟨g', cs3, e3, hs3, _, h3⟩
     ·cases h
     ·simp only [Src.row?, Option.some.injEq] at hs3
      subst hs3
      rw [h2] at h3
      cases h3
   rw [hrow, hrw]
   rfl
end cast
end Go.Vx
end
