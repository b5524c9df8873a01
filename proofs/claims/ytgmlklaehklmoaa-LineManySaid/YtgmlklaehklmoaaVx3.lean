/- Each operation of the evaluator is the machine's: those that touch no memory. (A help: no statement of the seat is proved here.) -/
import Derived.Test.YtgmlklaehklmoaaVx2
import Derived.Lib.Strings
import Derived.Laws.StructEq
set_option linter.unusedVariables false
set_option linter.unusedSimpArgs false
namespace Go.Vx

section consts
variable {N : Nat} {β : At}
theorem ofCell_sound {c : Value} {v : AV} (h : ofCell c = some v) : VRel N β v c := by
  cases c <;> simp only [ofCell] at h <;> try (first | cases h; done)
  case bool b => cases h; exact .bool _ b
  case int k n => cases h; exact .int _ k n
  case string s => cases h; exact .str _ _ _ rfl
  case pointer a => cases a <;> simp only [ofCell] at h <;> cases h; exact .pnil _
  case slice a n c =>
    split at h
    all_goals first | (cases h; done) | skip
    all_goals simp_all
    all_goals subst h
    all_goals exact .snil _ 0 none
  case map r => cases r <;> simp only [ofCell] at h <;> cases h; exact .mnil
  case nilFunc => cases h; exact .nilFunc
  case nilIface => cases h; exact .nilIface
theorem ofCells_sound : ∀ {cs : List Value} {vs : List AV}, ofCells cs = some vs → VsRel N β vs cs
  | [], vs, h => by simp only [ofCells] at h; cases h; exact .nil
  | c :: cs, vs, h => by
    simp only [ofCells] at h
    split at h
    · rename_i a as h1 h2
      cases h
      exact .cons _ _ _ _ (ofCell_sound h1) (ofCells_sound h2)
    · cases h
theorem ofConst_sound {c : Value} {v : AV} (h : ofConst c = some v) : VRel N β v c := by
  unfold ofConst at h
  split at h
  · rename_i cs
    cases hc : ofCells cs.toList with
    | none => rw [hc] at h; cases h
    | some vs => rw [hc] at h; cases h; exact .agg _ _ (ofCells_sound hc)
  · rename_i vs
    split at h
    · rename_i h0
      cases h
      have : vs = #[] := Array.eq_empty_of_size_eq_zero h0
      subst this
      exact .tup _ _ .nil
    · cases h
  · exact ofCell_sound h
end consts

theorem opnd_sound {N : Nat} {β : At} {m : Tm} {a : Act} (hT : TRel N β m a.tmps) {x : Operand} {v : AV} (h : opnd m x = some v) : VRel N β v (a.eval x) := by
  cases x with
  | tmp t =>
    obtain ⟨c, hc, hr⟩ := hT.2 t v h
    simpa [Act.eval, Array.getD_eq_getD_getElem?, hc] using hr
  | const c => exact ofConst_sound h
  | global g => cases h
  | func f => simp only [opnd, Option.some.injEq] at h; subst h; exact .func _ _ _ _ _ .nil .nil
theorem opnds_sound {N : Nat} {β : At} {m : Tm} {a : Act} (hT : TRel N β m a.tmps) : ∀ {l : List Operand} {vs : List AV}, opnds m l = some vs → VsRel N β vs (l.map a.eval)
  | [], vs, h => by simp only [opnds] at h; cases h; exact .nil
  | x :: l, vs, h => by
    simp only [opnds] at h
    split at h
    · rename_i b bs h1 h2
      cases h
      exact .cons _ _ _ _ (opnd_sound hT h1) (opnds_sound hT h2)
    · cases h

/-- What an operation of the machine comes to, against the evaluator's. -/
def Fits (P : Program) (o : Oper) (a : Act) (β : At) (H : Heap) (w : World) (v : AV) (H' : Heap) : Prop :=
  ∃ β' w', Rel β' H' w' ∧ Le β H w β' H' w' ∧ ((∃ c, (execOp a.eval o).run P w = .ok (.value c) w' ∧ VRel H'.n β' v c) ∨ ((execOp a.eval o).run P w = .ok .skip w' ∧ v = .tup []))

section pure_
variable {P : Program} {o : Oper} {a : Act} {β : At} {H : Heap} {w : World} {m : Tm}
theorem Fits.same (hR : Rel β H w) {v : AV} {c : Value} (h : (execOp a.eval o).run P w = .ok (.value c) w) (hv : VRel H.n β v c) : Fits P o a β H w v H :=
  ⟨β, w, hR, Le.refl _ _ _, .inl ⟨c, h, hv⟩⟩

theorem fits_move (hR : Rel β H w) (hT : TRel H.n β m a.tmps) {x : Operand} {v : AV} (ho : o.op = .move x ∨ o.op = .assign x) (h : opnd m x = some v) : Fits P o a β H w v H := by
  refine Fits.same hR (c := a.eval x) ?_ (opnd_sound hT h)
  rcases ho with ho | ho <;> simp [execOp, ho, Sem.run]

theorem fits_pick (hR : Rel β H w) (hT : TRel H.n β m a.tmps) {c x y : Operand} {t b : Bool} {v : AV} (ho : o.op = .pick c x y) (hc : opnd m c = some (.bool t b)) (h : opnd m (if b then x else y) = some v) : Fits P o a β H w v H := by
  have hb := opnd_sound hT hc
  cases hb' : a.eval c <;> rw [hb'] at hb <;> cases hb
  refine Fits.same hR (c := a.eval (if b then x else y)) ?_ (opnd_sound hT h)
  cases b <;> simp [execOp, ho, hb', asBool, Sem.run]

/-- A number, a bool as the machine has it. -/
def conc : AV → Value
  | .int _ k n => .int k n
  | .bool _ b => .bool b
  | _ => undef
theorem arith_sound {u : Bool} {op : BinOp} {k : IntKind} {x y : Int} {v : AV} (hs : op ≠ .shl) (hs' : op ≠ .shr) (h : arith u op k x y = some v) (t : TypeId) : (∀ w, (binOp op t (.int k x) (.int k y)).run P w = .ok (conc v) w) ∧ ∀ N β, VRel N β v (conc v) := by
  cases op <;> simp only [arith] at h <;> try (first | cases h; done)
  case quo =>
    split at h
    · cases h
    · rename_i hy; cases h; exact ⟨fun w => by simp [binOp, Op.intDiv, hy, Sem.run, conc], fun N β => .int _ _ _⟩
  case rem =>
    split at h
    · cases h
    · rename_i hy; cases h; exact ⟨fun w => by simp [binOp, Op.intDiv, hy, Sem.run, conc], fun N β => .int _ _ _⟩
  all_goals first
    | (cases h; exact ⟨fun w => by simp only [binOp, ne_eq, not_true, if_false]; rfl, fun N β => by first | exact .int _ _ _ | exact .bool _ _⟩)

theorem shift_sound {u : Bool} {op : BinOp} {k k' : IntKind} {x y : Int} {v : AV} (h : shiftA u op k x y = some v) (t : TypeId) : (∀ w, (binOp op t (.int k x) (.int k' y)).run P w = .ok (conc v) w) ∧ ∀ N β, VRel N β v (conc v) := by
  unfold shiftA at h
  split at h
  · cases h
  · rename_i hy
    cases op <;> simp only at h <;> try (first | cases h; done)
    all_goals (cases h; exact ⟨fun w => by simp only [binOp, Op.shift, if_neg hy]; rfl, fun N β => .int _ _ _⟩)

theorem str_of {N : Nat} {β : At} {t : Bool} {s : List UInt8} {c : Value} (h : VRel N β (.str t s) c) : ∃ b : ByteArray, c = .string b ∧ b.data.toList = s := by
  cases h with
  | str _ _ b h => exact ⟨b, rfl, h⟩
theorem int_of {N : Nat} {β : At} {t : Bool} {k : IntKind} {n : Int} {c : Value} (h : VRel N β (.int t k n) c) : c = .int k n := by cases h; rfl
theorem bool_of {N : Nat} {β : At} {t b : Bool} {c : Value} (h : VRel N β (.bool t b) c) : c = .bool b := by cases h; rfl
theorem beq_list (a b : List UInt8) : (a == b) = decide (a = b) := by
  by_cases h : a = b
  · subst h; simp
  · simp [h]

theorem strA_sound {u : Bool} {op : BinOp} {s t : List UInt8} {x y : ByteArray} {v : AV} (hx : x.data.toList = s) (hy : y.data.toList = t) (h : strA u op s t = some v) (T : TypeId) :
    ∃ c, (∀ w, (binOp op T (.string x) (.string y)).run P w = .ok c w) ∧ ∀ N β, VRel N β v c := by
  have ex : x.toList = s := by rw [Lib.toList_data, hx]
  have ey : y.toList = t := by rw [Lib.toList_data, hy]
  have sx : x.size = s.length := by rw [← hx, Lib.size_eq]
  have sy : y.size = t.length := by rw [← hy, Lib.size_eq]
  cases op <;> simp only [strA] at h <;> try (first | cases h; done)
  case add =>
    split at h
    · rename_i hle
      cases h
      refine ⟨.string (x ++ y), fun w => ?_, fun N β => .str _ _ _ (by rw [ByteArray.data_append, Array.toList_append, hx, hy])⟩
      simp only [binOp, Op.stringOp]
      rw [if_neg (by rw [sx, sy]; simp only [IntKind.max, IntKind.signed, IntKind.bits, if_true] at *; omega)]
      rfl
    · cases h
  all_goals
    cases h
    refine ⟨_, fun w => ?_, fun N β => .bool _ _⟩
    simp only [binOp, Op.stringOp, ex, ey]
    rfl

theorem under_of_kind {t : TypeId} : (kindOf P t = 1 → P.underlying t = some .bool) ∧ (kindOf P t = 2 → ∃ e, P.underlying t = some (.pointer e)) ∧ (kindOf P t = 3 → ∃ e, P.underlying t = some (.slice e)) ∧
    (kindOf P t = 4 → ∃ k e, P.underlying t = some (.map k e)) ∧ (kindOf P t = 5 → ∃ x y z, P.underlying t = some (.func x y z)) ∧ (kindOf P t = 6 → ∃ k, P.underlying t = some (.int k)) ∧ (kindOf P t = 7 → P.underlying t = some .string) := by
  unfold kindOf
  refine ⟨?_, ?_, ?_, ?_, ?_, ?_, ?_⟩ <;> intro h <;> split at h <;> first | (cases h; done) | (first | assumption | exact ⟨_, by assumption⟩ | exact ⟨_, _, by assumption⟩ | exact ⟨_, _, _, by assumption⟩)

theorem isAgg_false {t : TypeId} (h : kindOf P t = 1 ∨ kindOf P t = 6 ∨ kindOf P t = 7) (w : World) : (isAgg t).run P w = .ok false w := by
  obtain ⟨h1, _, _, _, _, h6, h7⟩ := under_of_kind (P := P) (t := t)
  rcases h with h | h | h
  · simp [isAgg, run_underlying (h1 h)]
  · obtain ⟨k, hk⟩ := h6 h; simp [isAgg, run_underlying hk]
  · simp [isAgg, run_underlying (h7 h)]
theorem part_plain {t : TypeId} (h : kindOf P t = 1 ∨ kindOf P t = 6 ∨ kindOf P t = 7) (cs : Array Value) (off : Nat) (c : Value) (hc : cs[off]? = some c) (w : World) : (part t cs off).run P w = .ok c w := by
  simp [part, isAgg_false h w, hc]
theorem fieldEq_sound {N : Nat} {β : At} {x y : AV} {a b : Value} (hx : VRel N β x a) (hy : VRel N β y b) {u r : Bool} {t : TypeId} (h : fieldEq P t x y = some (u, r)) (d : Nat) (w : World) :
    (Op.equalIn (d + 1) t a b).run P w = .ok r w ∧ (kindOf P t = 1 ∨ kindOf P t = 6 ∨ kindOf P t = 7) := by
  obtain ⟨h1, _, _, _, _, h6, h7⟩ := under_of_kind (P := P) (t := t)
  unfold fieldEq at h
  split at h
  · split at h
    · rename_i h'
      cases h
      rw [bool_of hx, bool_of hy]
      exact ⟨run_equalIn_bool' _ _ _ _ _ (h1 h'), .inl h'⟩
    · cases h
  · split at h
    · rename_i h'
      obtain ⟨h', rfl⟩ := h'
      cases h
      obtain ⟨k', hk'⟩ := h6 h'
      rw [int_of hx, int_of hy]
      exact ⟨run_equalIn_int _ _ _ _ _ _ _ hk', .inr (.inl h')⟩
    · cases h
  · split at h
    · rename_i h'
      cases h
      obtain ⟨a, rfl, ha⟩ := str_of hx
      obtain ⟨b, rfl, hb⟩ := str_of hy
      refine ⟨?_, .inr (.inr h')⟩
      rw [run_equalIn_string _ _ _ _ _ (h7 h'), Lib.toList_data, Lib.toList_data, ha, hb]
    · cases h
  · cases h

theorem fieldsEq_sound {N : Nat} {β : At} (d : Nat) (w : World) (A B : Array Value) : ∀ (fs : List Field) (off : Nat) (xs ys : List AV) (u r : Bool), fieldsEq P off fs xs ys = some (u, r) →
    VsRel N β xs (A.toList.drop off) → VsRel N β ys (B.toList.drop off) → (Op.eqFields (d + 1) A B fs).run P w = .ok r w
  | [], off, xs, ys, u, r, h, hx, hy => by
    cases xs <;> cases ys <;> simp only [fieldsEq] at h <;> cases h
    simp [Op.eqFields]
  | f :: fs, off, xs, ys, u, r, h, hx, hy => by
    cases xs with
    | nil => cases ys <;> simp only [fieldsEq] at h <;> cases h
    | cons x xs =>
      cases ys with
      | nil => simp only [fieldsEq] at h; cases h
      | cons y ys =>
        simp only [fieldsEq] at h
        split at h
        · rename_i hc
          obtain ⟨rfl, hn⟩ := hc
          have hn' : f.name ≠ "_" := by simpa using hn
          obtain ⟨a, ha, hra⟩ := hx.at 0 x (by simp)
          obtain ⟨b, hb, hrb⟩ := hy.at 0 y (by simp)
          have ha' : A[f.offset]? = some a := by simpa [List.getElem?_drop] using ha
          have hb' : B[f.offset]? = some b := by simpa [List.getElem?_drop] using hb
          have hx' : VsRel N β xs (A.toList.drop (f.offset + 1)) := by
            have := hx.drop 1
            simpa [List.drop_drop] using this
          have hy' : VsRel N β ys (B.toList.drop (f.offset + 1)) := by
            have := hy.drop 1
            simpa [List.drop_drop] using this
          split at h
          · rename_i u1 a1 u2 a2 he hf
            cases h
            obtain ⟨hr, hk⟩ := fieldEq_sound hra hrb he d w
            have ih := fieldsEq_sound d w A B fs (f.offset + 1) xs ys u2 a2 hf hx' hy'
            rw [Op.eqFields]
            simp only [if_pos hn', Sem.run_bind, part_plain hk A _ a ha' w, part_plain hk B _ b hb' w, hr, Result.andThen_ok]
            cases a1 with
            | true => simpa using ih
            | false => simp
          · cases h
        · cases h

section eqs
variable {t : TypeId} (d : Nat) (w : World)
theorem eqn_ptr_l {e : TypeId} (he : P.underlying t = some (.pointer e)) (b : Option Addr) : (Op.equalIn (d + 1) t (.pointer none) (.pointer b)).run P w = .ok b.isNone w := by
  cases b <;> simp [Op.equalIn, run_underlying he]
theorem eqn_ptr_r {e : TypeId} (he : P.underlying t = some (.pointer e)) (a : Addr) : (Op.equalIn (d + 1) t (.pointer (some a)) (.pointer none)).run P w = .ok false w := by simp [Op.equalIn, run_underlying he]
theorem eqn_slice_l {e : TypeId} (he : P.underlying t = some (.slice e)) (n c n' c' : Nat) (b : Option Addr) : (Op.equalIn (d + 1) t (.slice none n c) (.slice b n' c')).run P w = .ok b.isNone w := by simp [Op.equalIn, run_underlying he]
theorem eqn_slice_r {e : TypeId} (he : P.underlying t = some (.slice e)) (n c n' c' : Nat) (a : Addr) : (Op.equalIn (d + 1) t (.slice (some a) n c) (.slice none n' c')).run P w = .ok false w := by simp [Op.equalIn, run_underlying he]
theorem eqn_map_l {k e : TypeId} (he : P.underlying t = some (.map k e)) (b : Option Nat) : (Op.equalIn (d + 1) t (.map none) (.map b)).run P w = .ok b.isNone w := by
  cases b <;> simp [Op.equalIn, run_underlying he]
theorem eqn_func_nn {x y : Array TypeId} {z : Bool} (he : P.underlying t = some (.func x y z)) : (Op.equalIn (d + 1) t .nilFunc .nilFunc).run P w = .ok true w := by simp [Op.equalIn, run_underlying he]
theorem eqn_func_nf {x y : Array TypeId} {z : Bool} (he : P.underlying t = some (.func x y z)) (f : Fn) (a b : Array Value) : (Op.equalIn (d + 1) t .nilFunc (.func f a b)).run P w = .ok false w := by simp [Op.equalIn, run_underlying he]
theorem eqn_func_fn {x y : Array TypeId} {z : Bool} (he : P.underlying t = some (.func x y z)) (f : Fn) (a b : Array Value) : (Op.equalIn (d + 1) t (.func f a b) .nilFunc).run P w = .ok false w := by simp [Op.equalIn, run_underlying he]
end eqs
theorem eqRun_of {t : TypeId} {ox oy : Operand} {a b : Value} {r : Bool} {w : World} (hg : ∀ op, (eqGuard op t ox oy a b).run P w = .ok () w)
    (hb : binOp .eql t a b = (do pure (.bool (← Op.equal t a b))) ∧ binOp .neq t a b = (do pure (.bool (!(← Op.equal t a b))))) (he : (Op.equal t a b).run P w = .ok r w) :
    (do eqGuard .eql t ox oy a b; binOp .eql t a b : Sem Value).run P w = .ok (.bool r) w ∧ (do eqGuard .neq t ox oy a b; binOp .neq t a b : Sem Value).run P w = .ok (.bool (!r)) w := by
  constructor
  · rw [Sem.run_bind, hg, Result.andThen_ok, hb.1, Sem.run_bind, he, Result.andThen_ok, Sem.run_pure]
  · rw [Sem.run_bind, hg, Result.andThen_ok, hb.2, Sem.run_bind, he, Result.andThen_ok, Sem.run_pure]
theorem sameA_sound {N : Nat} {β : At} {t : TypeId} {x y : AV} {a b : Value} (hx : VRel N β x a) (hy : VRel N β y b) {u r : Bool} (h : sameA P t x y = some (u, r)) (ox oy : Operand) (w : World) :
    (do eqGuard .eql t ox oy a b; binOp .eql t a b : Sem Value).run P w = .ok (.bool r) w ∧ (do eqGuard .neq t ox oy a b; binOp .neq t a b : Sem Value).run P w = .ok (.bool (!r)) w := by
  obtain ⟨h1, h2, h3, h4, h5, _, _⟩ := under_of_kind (P := P) (t := t)
  unfold sameA at h
  split at h
  case h_1 =>
    split at h
    · rename_i hk
      cases h
      rw [bool_of hx, bool_of hy]
      refine eqRun_of (fun op => by cases op <;> simp [eqGuard]) ⟨rfl, rfl⟩ ?_
      exact run_equalIn_bool' w 9999 _ _ _ (h1 hk)
    · cases h
  case h_2 =>
    split at h
    · rename_i hk
      cases h
      obtain ⟨e, he⟩ := h2 hk
      cases hx
      cases hy
      all_goals
        refine eqRun_of (fun op => by cases op <;> simp [eqGuard]) ⟨rfl, rfl⟩ ?_
        first | exact eqn_ptr_l 9999 w he _ | exact eqn_slice_l 9999 w he _ _ _ _ _ | exact eqn_map_l 9999 w he _
    · cases h
  case h_3 =>
    split at h
    · rename_i hk
      cases h
      obtain ⟨e, he⟩ := h2 hk
      cases hx
      cases hy
      refine eqRun_of (fun op => by cases op <;> simp [eqGuard]) ⟨rfl, rfl⟩ ?_
      exact eqn_ptr_r 9999 w he _
    · cases h
  case h_4 =>
    split at h
    · rename_i hk
      cases h
      obtain ⟨k, e, he⟩ := h4 hk
      cases hx
      cases hy
      all_goals
        refine eqRun_of (fun op => by cases op <;> simp [eqGuard]) ⟨rfl, rfl⟩ ?_
        first | exact eqn_ptr_l 9999 w he _ | exact eqn_slice_l 9999 w he _ _ _ _ _ | exact eqn_map_l 9999 w he _
    · cases h
  case h_5 => cases hx
  case h_6 =>
    split at h
    · rename_i hk
      cases h
      obtain ⟨_, _, _, he⟩ := h5 hk
      cases hx
      cases hy
      refine eqRun_of (fun op => by cases op <;> simp [eqGuard]) ⟨rfl, rfl⟩ ?_
      exact eqn_func_nn 9999 w he
    · cases h
  case h_7 =>
    split at h
    · rename_i hk
      cases h
      obtain ⟨_, _, _, he⟩ := h5 hk
      cases hx
      cases hy
      refine eqRun_of (fun op => by cases op <;> simp [eqGuard]) ⟨rfl, rfl⟩ ?_
      exact eqn_func_nf 9999 w he _ _ _
    · cases h
  case h_8 =>
    split at h
    · rename_i hk
      cases h
      obtain ⟨_, _, _, he⟩ := h5 hk
      cases hx
      cases hy
      refine eqRun_of (fun op => by cases op <;> simp [eqGuard]) ⟨rfl, rfl⟩ ?_
      exact eqn_func_fn 9999 w he _ _ _
    · cases h
  case h_9 =>
    unfold structEq at h
    split at h
    · rename_i fs hu
      split at h
      · rename_i hc
        cases hx with
        | agg xs A hx =>
          cases hy with
          | agg ys B hy =>
            have hf : P.fieldsOf t = fs := by simp [Program.fieldsOf, hu]
            refine eqRun_of (fun op => by cases op <;> first | exact run_eqGuard_agg _ _ _ _ _ _ _ hc.2 | simp [eqGuard]) ⟨rfl, rfl⟩ ?_
            show (Op.equalIn (9999 + 1) t (.agg A) (.agg B)).run P w = _
            rw [run_equalIn_struct (P := P) w 9999 t A B (by rw [hf]; exact hu) hc.1, hf]
            exact fieldsEq_sound 9998 w A B fs.toList 0 _ _ u r h (by simpa using hx) (by simpa using hy)
      · cases h
    · cases h
  case h_10 => cases h
end pure_
end Go.Vx
