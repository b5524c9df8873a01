/- Each operation of the evaluator is the machine's: those that touch no memory, the others of them. (A help: no statement of the seat is proved here.) -/
import Derived.Test.YtgmlklaehklmoaaVx3
set_option linter.unusedVariables false
set_option linter.unusedSimpArgs false
namespace Go.Vx
section pure_
variable {P : Program} {o : Oper} {a : Act} {β : At} {H : Heap} {w : World} {m : Tm}

theorem eqGuard_ok (op : BinOp) (t : TypeId) (x y : Operand) (p q : Value) (h : (∀ z, p ≠ .agg z) ∧ p ≠ .nilIface) (w : World) : (eqGuard op t x y p q).run P w = .ok () w := by
  cases op <;> simp [eqGuard]
  all_goals
    cases p <;> cases q <;> simp_all

theorem binA_sound {N : Nat} {op : BinOp} {t : TypeId} {x y v : AV} {p q : Value} (hx : VRel N β x p) (hy : VRel N β y q) (h : binA P op t x y = some v) (ox oy : Operand) (w : World) :
    ∃ c, (do eqGuard op t ox oy p q; binOp op t p q : Sem Value).run P w = .ok c w ∧ VRel N β v c := by
  unfold binA at h
  split at h
  · rename_i u k n u' k' n'
    rw [int_of hx, int_of hy]
    rw [Sem.run_bind, eqGuard_ok op t ox oy _ _ (by simp) w, Result.andThen_ok]
    split at h
    · exact ⟨_, (shift_sound h t).1 w, (shift_sound (P := P) (k' := k') h t).2 _ _⟩
    · exact ⟨_, (shift_sound h t).1 w, (shift_sound (P := P) (k' := k') h t).2 _ _⟩
    · rename_i h1 h2
      split at h
      · rename_i e
        subst e
        exact ⟨_, (arith_sound (by simpa using h1) (by simpa using h2) h t).1 w, (arith_sound (P := P) (by simpa using h1) (by simpa using h2) h t).2 _ _⟩
      · cases h
  · obtain ⟨b, rfl, hb⟩ := str_of hx
    obtain ⟨b', rfl, hb'⟩ := str_of hy
    rw [Sem.run_bind, eqGuard_ok op t ox oy _ _ (by simp) w, Result.andThen_ok]
    obtain ⟨c, hc, hv⟩ := strA_sound (P := P) hb hb' h t
    exact ⟨c, hc w, hv _ _⟩
  · split at h
    · cases hs : sameA P t x y with
      | none => rw [hs] at h; cases h
      | some r => obtain ⟨u, r⟩ := r; rw [hs] at h; cases h; exact ⟨_, (sameA_sound hx hy hs ox oy w).1, .bool _ _⟩
    · cases hs : sameA P t x y with
      | none => rw [hs] at h; cases h
      | some r => obtain ⟨u, r⟩ := r; rw [hs] at h; cases h; exact ⟨_, (sameA_sound hx hy hs ox oy w).2, .bool _ _⟩
    · cases h

theorem fits_binOp (hR : Rel β H w) (hT : TRel H.n β m a.tmps) {op : BinOp} {t u : TypeId} {x y : Operand} {p q v : AV} (ho : o.op = .binOp op t x y u) (hx : opnd m x = some p) (hy : opnd m y = some q) (h : binA P op t p q = some v) : Fits P o a β H w v H := by
  obtain ⟨c, hc, hv⟩ := binA_sound (opnd_sound hT hx) (opnd_sound hT hy) h x y w
  refine Fits.same hR (c := c) ?_ hv
  have : execOp a.eval o = (do let z ← (do eqGuard op t x y (a.eval x) (a.eval y); binOp op t (a.eval x) (a.eval y) : Sem Value); pure (.value z)) := by simp only [execOp, ho]
  rw [this, Sem.run_bind, hc, Result.andThen_ok, Sem.run_pure]

theorem unA_sound {N : Nat} {op : UnOp} {x v : AV} {p : Value} (hx : VRel N β x p) (h : unA op x = some v) (w : World) : ∃ c, (Op.unary op p).run P w = .ok c w ∧ VRel N β v c := by
  unfold unA at h
  split at h
  · cases h; rw [int_of hx]; exact ⟨_, rfl, .int _ _ _⟩
  · rename_i u k n
    rw [int_of hx]
    have h0 := arith_sound (P := P) (by simp) (by simp) h 0
    refine ⟨_, ?_, h0.2 N β⟩
    have h1 := h0.1 w
    simp only [binOp, ne_eq, not_true, if_false] at h1
    exact h1
  · cases h; rw [bool_of hx]; exact ⟨_, rfl, .bool _ _⟩
  · cases h

theorem run_v {s : Sem Value} {c : Value} {w' : World} (h : s.run P w = .ok c w') : (do pure (.value (← s)) : Sem Next).run P w = .ok (.value c) w' := by
  rw [Sem.run_bind, h, Result.andThen_ok, Sem.run_pure]

theorem fits_unOp (hR : Rel β H w) (hT : TRel H.n β m a.tmps) {op : UnOp} {t : TypeId} {x : Operand} {p v : AV} (ho : o.op = .unOp op t x) (hx : opnd m x = some p) (h : unA op p = some v) : Fits P o a β H w v H := by
  obtain ⟨c, hc, hv⟩ := unA_sound (P := P) (opnd_sound hT hx) h w
  refine Fits.same hR (c := c) ?_ hv
  simp only [execOp, ho]
  exact run_v hc

theorem fits_extract (hR : Rel β H w) (hT : TRel H.n β m a.tmps) {x : Operand} {i : Nat} {vs : List AV} {v : AV} (ho : o.op = .extract x i) (hx : opnd m x = some (.tup vs)) (h : vs[i]? = some v) : Fits P o a β H w v H := by
  have hv := opnd_sound hT hx
  cases hq : a.eval x <;> rw [hq] at hv <;> cases hv
  rename_i cs hv
  obtain ⟨c, hc, hr⟩ := hv.at i v h
  refine Fits.same hR (c := c) ?_ hr
  simp only [execOp, ho]
  refine run_v ?_
  have : cs[i]? = some c := by simpa using hc
  simp [hq, Instr.extract, this]

theorem fits_makeFunc (hR : Rel β H w) (hT : TRel H.n β m a.tmps) {fn : Fn} {x y : Array Operand} {p q : List AV} (ho : o.op = .makeFunc fn x y) (hx : opnds m x.toList = some p) (hy : opnds m y.toList = some q) : Fits P o a β H w (.func fn p q) H := by
  refine Fits.same hR (c := .func fn (x.map a.eval) (y.map a.eval)) ?_ (.func _ _ _ _ _ (by simpa using opnds_sound hT hx) (by simpa using opnds_sound hT hy))
  simp only [execOp, ho]
  exact run_v rfl

theorem fits_nilCheck_ptr (hR : Rel β H w) (hT : TRel H.n β m a.tmps) {x : Operand} {t : Bool} {r : Ref} (ho : o.op = .nilCheck x) (hx : opnd m x = some (.ptr t (some r))) : Fits P o a β H w (.ptr t (some r)) H := by
  have hv := opnd_sound hT hx
  refine Fits.same hR (c := a.eval x) ?_ hv
  simp only [execOp, ho]
  cases hq : a.eval x <;> rw [hq] at hv <;> cases hv
  simp
theorem fits_nilCheck_e (hR : Rel β H w) (hT : TRel H.n β m a.tmps) {x : Operand} {t : Ty} {l : List t.den} {e p : Nat} (ho : o.op = .nilCheck x) (hx : opnd m x = some (.eptr t l e p)) : Fits P o a β H w (.eptr t l e p) H := by
  have hv := opnd_sound hT hx
  refine Fits.same hR (c := a.eval x) ?_ hv
  simp only [execOp, ho]
  cases hq : a.eval x <;> rw [hq] at hv <;> cases hv
  simp
theorem fits_nilCheck_func (hR : Rel β H w) (hT : TRel H.n β m a.tmps) {x : Operand} {g : FuncId} {p q : List AV} (ho : o.op = .nilCheck x) (hx : opnd m x = some (.func (.func g) p q)) : Fits P o a β H w (.func (.func g) p q) H := by
  have hv := opnd_sound hT hx
  refine Fits.same hR (c := a.eval x) ?_ hv
  simp only [execOp, ho]
  cases hq : a.eval x <;> rw [hq] at hv <;> cases hv
  simp

theorem slen {s : List UInt8} {b : ByteArray} (h : b.data.toList = s) : b.size = s.length := by rw [← h, Lib.size_eq]
theorem sget {s : List UInt8} {b : ByteArray} (h : b.data.toList = s) (i : Nat) : b[i]? = s[i]? := by
  subst h
  rw [Array.getElem?_toList]
  rfl

theorem part_sound {N : Nat} {t : TypeId} {xs : List AV} {cs : Array Value} {off : Nat} {v : AV} (hx : VsRel N β xs cs.toList) (h : partA P t xs off = some v) (w : World) : ∃ c, (part t cs off).run P w = .ok c w ∧ VRel N β v c := by
  unfold partA at h
  split at h
  · rename_i s hag hsz
    split at h
    · rename_i hle
      cases h
      refine ⟨.agg (cs.extract off (off + s)), ?_, .agg _ _ ?_⟩
      · have h1 : (isAgg t).run P w = .ok true w := by
          unfold isAgg? at hag
          cases hu : P.underlying t with
          | none => rw [hu] at hag; cases hag
          | some d => rw [hu] at hag; cases d <;> simp at hag <;> simp [isAgg, run_underlying hu]
        have h2 : (sizeOf t).run P w = .ok s w := by
          unfold size? at hsz
          cases hi : P.info? t with
          | none => rw [hi] at hsz; cases hsz
          | some i => rw [hi] at hsz; cases hsz; simp [sizeOf, typeInfo, hi]
        simp [part, h1, h2]
      · have := (hx.drop off).take s
        simpa [Array.toList_extract, List.extract_eq_take_drop] using this
    · cases h
  · rename_i hag hsz
    obtain ⟨c, hc, hr⟩ := hx.at off v h
    refine ⟨c, ?_, hr⟩
    have h1 : (isAgg t).run P w = .ok false w := by
      unfold isAgg? at hag
      cases hu : P.underlying t with
      | none => rw [hu] at hag; cases hag
      | some d => rw [hu] at hag; cases d <;> simp at hag <;> simp [isAgg, run_underlying hu]
    have h2 : cs[off]? = some c := by simpa using hc
    simp [part, h1, h2]
  · cases h

theorem fits_field (hR : Rel β H w) (hT : TRel H.n β m a.tmps) {s : TypeId} {x : Operand} {f : Nat} {xs : List AV} {fd : Field} {v : AV} (ho : o.op = .field s x f) (hx : opnd m x = some (.agg xs)) (hf : fieldOf P s f = some fd) (h : partA P fd.type xs fd.offset = some v) : Fits P o a β H w v H := by
  have hv := opnd_sound hT hx
  cases hq : a.eval x <;> rw [hq] at hv <;> cases hv
  rename_i cs hv
  obtain ⟨c, hc, hr⟩ := part_sound (P := P) hv h w
  refine Fits.same hR (c := c) ?_ hr
  simp only [execOp, ho]
  refine run_v ?_
  unfold fieldOf at hf
  split at hf
  · rename_i fields hu
    simp [Instr.field, run_underlying hu, hf, hq, asAgg, hc]
  · cases hf

theorem fits_fieldAddr (hR : Rel β H w) (hT : TRel H.n β m a.tmps) {s : TypeId} {x : Operand} {f k : Nat} {t : Bool} {r : Ref} {fd : Field} (ho : o.op = .fieldAddr s x f) (hx : opnd m x = some (.ptr t (some r))) (hf : fieldOf P s f = some fd) (hs : size? P fd.type = some (k + 1)) :
    Fits P o a β H w (.ptr t (some (r.to fd.offset))) H := by
  have hv := opnd_sound hT hx
  cases hq : a.eval x <;> rw [hq] at hv <;> cases hv
  rename_i ad hg hb
  refine Fits.same hR (c := .pointer (some (ad.add fd.offset))) ?_ (.ptr _ _ _ (by simpa using hg) fun b hb' => ?_)
  · simp only [execOp, ho]
    refine run_v ?_
    unfold fieldOf at hf
    split at hf
    · rename_i fields hu
      have h2 : (sizeOf fd.type).run P w = .ok (k + 1) w := by
        unfold size? at hs
        cases hi : P.info? fd.type with
        | none => rw [hi] at hs; cases hs
        | some i => rw [hi] at hs; simp at hs; simp [sizeOf, typeInfo, hi, hs]
      simp [Instr.fieldAt, run_underlying hu, hf, hq, Instr.sureAddr, fieldPlace, h2]
    · cases hf
  · obtain ⟨hn, ha⟩ := hb b (by simpa using hb')
    refine ⟨hn, ?_⟩
    rw [ha]
    unfold Addr.add
    split
    · rename_i e; simp [e]
    · simp [Nat.add_assoc]
theorem fits_fieldAddr_e (hR : Rel β H w) (hT : TRel H.n β m a.tmps) {s : TypeId} {x : Operand} {f k : Nat} {t : Ty} {l : List t.den} {e p : Nat} {fd : Field} (ho : o.op = .fieldAddr s x f) (hx : opnd m x = some (.eptr t l e p)) (hf : fieldOf P s f = some fd) (hs : size? P fd.type = some (k + 1)) :
    Fits P o a β H w (.eptr t l e (p + fd.offset)) H := by
  have hv := opnd_sound hT hx
  cases hq : a.eval x <;> rw [hq] at hv <;> cases hv
  rename_i b p0 cs h1 h2
  refine Fits.same hR (c := .pointer (some (Addr.add ⟨b, p0 + (e * t.z + p), none⟩ fd.offset))) ?_ ?_
  · simp only [execOp, ho]
    refine run_v ?_
    unfold fieldOf at hf
    split at hf
    · rename_i fields hu
      have h2 : (sizeOf fd.type).run P w = .ok (k + 1) w := by
        unfold size? at hs
        cases hi : P.info? fd.type with
        | none => rw [hi] at hs; cases hs
        | some i => rw [hi] at hs; simp at hs; simp [sizeOf, typeInfo, hi, hs]
      simp [Instr.fieldAt, run_underlying hu, hf, hq, Instr.sureAddr, fieldPlace, h2]
    · cases hf
  · have : Addr.add ⟨b, p0 + (e * t.z + p), none⟩ fd.offset = ⟨b, p0 + (e * t.z + (p + fd.offset)), none⟩ := by
      unfold Addr.add
      split
      · rename_i e; simp [e]
      · simp only [Addr.mk.injEq, true_and, and_true]; omega
    rw [this]
    exact .eptr t l e _ b p0 cs h1 h2
end pure_
end Go.Vx
