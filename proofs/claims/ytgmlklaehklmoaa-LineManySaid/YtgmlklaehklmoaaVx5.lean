/- Each operation of the evaluator is the machine's: indexes, cuts, lengths, structs. (A help: no statement of the seat is proved here.) -/
import Derived.Test.YtgmlklaehklmoaaVx4
set_option linter.unusedVariables false
set_option linter.unusedSimpArgs false
namespace Go.Vx
section pure_
variable {P : Program} {o : Oper} {a : Act} {β : At} {H : Heap} {w : World} {m : Tm}

theorem run_size {t : TypeId} {s : Nat} (h : size? P t = some s) (w : World) : (sizeOf t).run P w = .ok s w := by
  unfold size? at h
  cases hi : P.info? t with
  | none => rw [hi] at h; cases h
  | some i => rw [hi] at h; cases h; simp [sizeOf, typeInfo, hi]

theorem indexA_sound {N : Nat} {t : TypeId} {x ix v : AV} {p q : Value} (hx : VRel N β x p) (hi : VRel N β ix q) (h : indexA P t x ix = some v) (w : World) : ∃ c, (Instr.index t p q).run P w = .ok c w ∧ VRel N β v c := by
  unfold indexA at h
  split at h
  · rename_i tt s uu k i hu
    obtain ⟨b, rfl, hb⟩ := str_of hx
    rw [int_of hi]
    split at h
    · rename_i h0
      cases hs : s[i.toNat]? with
      | none => rw [hs] at h; cases h
      | some u =>
        rw [hs] at h
        cases h
        have hb' : b[i.toNat]? = some u := by rw [sget hb]; exact hs
        exact ⟨.int .u8 u.toNat, by simp [Instr.index, asIntOf, run_underlying hu, h0, hb'], .int _ _ _⟩
    · cases h
  · rename_i n e xs uu k i hu
    split at h
    · rename_i s hs
      split at h
      · rename_i hb
        cases hx with
        | agg _ cs hx =>
          rw [int_of hi]
          obtain ⟨c, hc, hr⟩ := part_sound (P := P) hx h w
          exact ⟨c, by simp [Instr.index, asIntOf, run_underlying hu, hb, run_size hs, hc], hr⟩
      · cases h
    · cases h
  · cases h

theorem add_add (ad : Addr) (b : Base) (i k : Nat) (h : ad = ⟨b.blk, b.off + i, none⟩) : ad.add k = ⟨b.blk, b.off + (i + k), none⟩ := by
  subst h
  unfold Addr.add
  split
  · rename_i e; simp [e]
  · simp [Nat.add_assoc]

theorem indexAddrA_sound {N : Nat} {t : TypeId} {x ix v : AV} {p q : Value} (hx : VRel N β x p) (hi : VRel N β ix q) (h : indexAddrA P t x ix = some v) (w : World) : ∃ c, (Instr.indexAt t p q).run P w = .ok c w ∧ VRel N β v c := by
  unfold indexAddrA at h
  split at h
  · rename_i e tt l uu k i hu
    split at h
    · rename_i hc
      cases h
      obtain ⟨hs, h0, h1⟩ := hc
      rw [int_of hi]
      cases hx with
      | vec _ _ cap a b o cs hn ha h h' =>
        rw [ha.1 (by omega)]
        refine ⟨.pointer (some (Addr.add ⟨b, o, none⟩ (i.toNat * tt.z))), by simp [Instr.indexAt, asIntOf, run_underlying hu, h0, h1, run_size hs], ?_⟩
        have : Addr.add ⟨b, o, none⟩ (i.toNat * tt.z) = ⟨b, o + (i.toNat * tt.z + 0), none⟩ := by
          unfold Addr.add
          split
          · rename_i e; simp [e]
          · simp
        rw [this]
        exact .eptr _ _ _ _ _ _ cs h h'
    · cases h
  · rename_i e tt r n z uu k i hu
    split at h
    · rename_i s hs
      split at h
      · rename_i hb
        cases h
        rw [int_of hi]
        cases hx with
        | slice _ _ _ _ cap a hg hn hsm hbb =>
          have hcap : 0 < cap := by omega
          cases a with
          | none => have := hsm rfl; omega
          | some ad =>
            refine ⟨.pointer (some (ad.add (i.toNat * s))), by simp [Instr.indexAt, asIntOf, run_underlying hu, hb, run_size hs], .ptr _ _ _ (by simpa using hg) fun b hb' => ?_⟩
            obtain ⟨h1, h2⟩ := hbb b (by simpa using hb')
            cases hnl : b.nil with
            | true => have := h1 hnl; omega
            | false =>
              refine ⟨rfl, ?_⟩
              rw [Ref.el_i]
              have := (h2 hnl).1 hcap
              simp only [Option.some.injEq] at this
              exact add_add _ _ _ _ this
      · cases h
    · cases h
  · rename_i n e tt r uu k i hu
    split at h
    · rename_i s hs
      split at h
      · rename_i hb
        cases h
        rw [int_of hi]
        cases hx with
        | ptr _ _ ad hg hbb =>
          refine ⟨.pointer (some (ad.add (i.toNat * s))), by simp [Instr.indexAt, asIntOf, run_underlying hu, hb, run_size hs, Instr.sureAddr], .ptr _ _ _ (by simpa using hg) fun b hb' => ?_⟩
          obtain ⟨h1, h2⟩ := hbb b (by simpa using hb')
          exact ⟨h1, by rw [Ref.el_i]; exact add_add _ _ _ _ h2⟩
      · cases h
    · cases h
  · cases h

theorem fits_index (hR : Rel β H w) (hT : TRel H.n β m a.tmps) {t : TypeId} {x y : Operand} {p q v : AV} (ho : o.op = .index t x y) (hx : opnd m x = some p) (hy : opnd m y = some q) (h : indexA P t p q = some v) : Fits P o a β H w v H := by
  obtain ⟨c, hc, hv⟩ := indexA_sound (opnd_sound hT hx) (opnd_sound hT hy) h w
  refine Fits.same hR (c := c) ?_ hv
  simp only [execOp, ho]
  exact run_v hc
theorem fits_indexAddr (hR : Rel β H w) (hT : TRel H.n β m a.tmps) {t : TypeId} {x y : Operand} {p q v : AV} (ho : o.op = .indexAddr t x y) (hx : opnd m x = some p) (hy : opnd m y = some q) (h : indexAddrA P t p q = some v) : Fits P o a β H w v H := by
  obtain ⟨c, hc, hv⟩ := indexAddrA_sound (opnd_sound hT hx) (opnd_sound hT hy) h w
  refine Fits.same hR (c := c) ?_ hv
  simp only [execOp, ho]
  exact run_v hc

/-- A bound that is left out, or a number. -/
def BRel (x : Option AV) (c : Option Value) : Prop := (x = none ∧ c = none) ∨ ∃ t k n, x = some (.int t k n) ∧ c = some (.int k n)
theorem bound_run {k : IntKind} {n : Int} {y : Nat} (h0 : 0 ≤ n) (h1 : n ≤ y) (code : BoundsCode) (w : World) : (Instr.sliceBound (.int k n) y code).run P w = .ok n.toNat w := by
  simp [Instr.sliceBound, asIntOf, h0, h1]
theorem bounds_run {lo hi : Option AV} {cl ch : Option Value} (hl : BRel lo cl) (hh : BRel hi ch) {len cap : Nat} (hc : len ≤ cap) {l h : Int} (el : boundOf 0 lo = some l) (eh : boundOf len hi = some h)
    (h0 : 0 ≤ l) (h1 : l ≤ h) (h2 : h ≤ len) (b : Bool) (w : World) : (Instr.sliceBounds b len cap cl ch none).run P w = .ok (l.toNat, h.toNat, cap) w := by
  rcases hl with ⟨rfl, rfl⟩ | ⟨u, k, n, rfl, rfl⟩ <;> rcases hh with ⟨rfl, rfl⟩ | ⟨u', k', n', rfl, rfl⟩ <;> simp only [boundOf, Option.some.injEq] at el eh <;> subst el <;> subst eh
  · simp [Instr.sliceBounds]
  · simp [Instr.sliceBounds, bound_run (P := P) (k := k') (n := n') (y := cap) (by omega) (by omega)]
  · simp [Instr.sliceBounds, bound_run (P := P) (k := k) (n := n) (y := len) (by omega) (by omega)]
  · have e : ((n'.toNat : Nat) : Int) = n' := by omega
    simp [Instr.sliceBounds, bound_run (P := P) (k := k') (n := n') (y := cap) (by omega) (by omega), bound_run (P := P) (k := k) (n := n) (y := n'.toNat) (by omega) (by omega)]

theorem bounds_run2 {lo hi : Option AV} {cl ch : Option Value} (hl : BRel lo cl) (hh : BRel hi ch) {len : Nat} {l h : Int} (el : boundOf 0 lo = some l) (eh : boundOf len hi = some h)
    (h0 : 0 ≤ l) (h1 : l ≤ h) (h2 : h ≤ len) (b : Bool) (w : World) : (Instr.sliceBounds b len len cl ch none).run P w = .ok (l.toNat, h.toNat, len) w := bounds_run hl hh (Nat.le_refl _) el eh h0 h1 h2 b w

theorem sliceOp_sound {N : Nat} {t : TypeId} {x v : AV} {p : Value} {lo hi : Option AV} {cl ch : Option Value} (hx : VRel N β x p) (hl : BRel lo cl) (hh : BRel hi ch) (h : sliceOp P t x lo hi = some v) (w : World) :
    ∃ c, (Instr.sliceAt t p cl ch none).run P w = .ok c w ∧ VRel N β v c := by
  unfold sliceOp at h
  split at h
  · rename_i tt s hu
    split at h
    · rename_i l u el eu
      split at h
      · rename_i hb
        cases h
        obtain ⟨b, rfl, hb'⟩ := str_of hx
        have hlen := slen hb'
        refine ⟨.string (b.extract l.toNat u.toNat), ?_, .str _ _ _ ?_⟩
        · have := bounds_run2 (P := P) hl hh (len := b.size) el (by rw [hlen]; exact eu) hb.1 hb.2.1 (by rw [hlen]; exact hb.2.2) false w
          simp [Instr.sliceAt, Instr.slice, run_underlying hu, this]
        · rw [Lib.extract_data, hb', List.drop_take]
      · cases h
    · cases h
  · rename_i e tt r n sz hu
    split at h
    · rename_i l u el eu
      split at h
      · rename_i hb
        split at h
        · cases h
        · rename_i s hs
          cases hx with
          | snil _ _ a =>
            cases h
            have hr := bounds_run2 (P := P) hl hh (len := 0) el eu hb.1 hb.2.1 hb.2.2 true w
            have hu0 : u.toNat = 0 := by omega
            have hl0 : l.toNat = 0 := by omega
            refine ⟨.slice a 0 0, ?_, .snil _ _ _⟩
            simp only [Instr.sliceAt, Instr.slice, Sem.run_bind, run_underlying hu, Result.andThen_ok, hr, run_size hs, hu0, hl0]
            cases a <;> simp
          | slice _ r _ _ cap a hg hn hsm hbb =>
            simp only at h
            split at h
            · rename_i hs'
              subst hs'
              cases h
              have hr := bounds_run (P := P) hl hh hn el eu hb.1 hb.2.1 hb.2.2 true w
              refine ⟨.slice (a.map fun ad => if cap = l.toNat then ad else ad.add (l.toNat * s)) (u.toNat - l.toNat) (cap - l.toNat), ?_, ?_⟩
              · simp only [Instr.sliceAt, Instr.slice, Sem.run_bind, run_underlying hu, Result.andThen_ok, hr, run_size hs]
                cases a <;> by_cases e : cap = l.toNat <;> simp [e]
              · have e1 : (u - l).toNat = u.toNat - l.toNat := by omega
                rw [e1]
                refine .slice _ _ _ _ _ _ (by simpa using hg) (by omega) ?_ fun b hb' => ?_
                · intro ha
                  cases a with
                  | none => have := hsm rfl; omega
                  | some ad => cases ha
                · obtain ⟨h1, h2⟩ := hbb b (by simpa using hb')
                  refine ⟨fun hnl => ⟨by have := h1 hnl; omega, fun hr => by have := (h1 hnl).2 hr; omega⟩, fun hnl => ?_⟩
                  obtain ⟨h3, h4⟩ := h2 hnl
                  rw [Ref.el_i]
                  constructor
                  · intro hc
                    rw [h3 (by omega), Option.map_some, if_neg (by omega)]
                    exact congrArg some (add_add _ _ _ _ rfl)
                  · have : cap * s = l.toNat * s + (cap - l.toNat) * s := by rw [← Nat.add_mul]; congr 1; omega
                    omega
            · cases h
      · cases h
    · cases h
  · rename_i e tt s hu
    split at h
    · rename_i l u el eu
      split at h
      · rename_i hb
        cases h
        obtain ⟨h0, h1, h2, hs⟩ := hb
        cases hx with
        | vec _ _ cap a b o cs hn ha hh1 hh2 =>
          have hr := bounds_run (P := P) hl hh hn el eu h0 h1 h2 true w
          have hlen : ((s.take u.toNat).drop l.toNat).length = u.toNat - l.toNat := by
            have : u.toNat ≤ s.length := by omega
            simp only [List.length_drop, List.length_take]; omega
          refine ⟨.slice (a.map fun ad => if cap = l.toNat then ad else ad.add (l.toNat * tt.z)) (u.toNat - l.toNat) (cap - l.toNat), ?_, ?_⟩
          · simp only [Instr.sliceAt, Instr.slice, Sem.run_bind, run_underlying hu, Result.andThen_ok, hr, run_size hs]
            cases a <;> by_cases e : cap = l.toNat <;> simp [e]
          · rw [← hlen]
            have hk : ∀ k v, (encL tt ((s.take u.toNat).drop l.toNat))[k]? = some v → (encL tt s)[l.toNat * tt.z + k]? = some v := by
              intro k v hv
              rw [encL_drop, encL_take, List.getElem?_drop] at hv
              have hlt : l.toNat * tt.z + k < u.toNat * tt.z := by
                have := (List.getElem?_eq_some_iff.1 hv).1
                simp only [List.length_take] at this
                omega
              rwa [List.getElem?_take_of_lt hlt] at hv
            refine .vec _ _ _ _ b (o + l.toNat * tt.z) (fun k => cs (l.toNat * tt.z + k)) (by rw [hlen]; omega) ?_ (fun k v hv => ?_) (fun k v hv => hh2 _ _ (hk k v hv))
            · refine ⟨fun hc => ?_, fun hna => ?_⟩
              · rw [hlen] at hc
                rw [ha.1 (by omega), Option.map_some, if_neg (by omega)]
                refine congrArg some ?_
                unfold Addr.add
                split
                · rename_i e; simp [e]
                · rfl
              · cases a with
                | none => have := ha.2 rfl; omega
                | some _ => cases hna
            · have := hh1 _ _ (hk k v hv)
              rwa [← Nat.add_assoc] at this
      · cases h
    · cases h
  · cases h

theorem bound3 {x : Option AV} {c : Option Value} (hx : BRel x c) (hb : boundOf 0 x = some 0) : c = none ∨ ∃ k, c = some (.int k 0) := by
  rcases hx with ⟨rfl, rfl⟩ | ⟨t, k, n, rfl, rfl⟩
  · exact .inl rfl
  · simp only [boundOf, Option.some.injEq] at hb
    subst hb
    exact .inr ⟨k, rfl⟩
theorem bound_zero {k : IntKind} (y : Nat) (code : BoundsCode) (w : World) : (Instr.sliceBound (.int k 0) y code).run P w = .ok 0 w := by
  simp [Instr.sliceBound, asIntOf]

theorem bounds_run3 {lo hi : Option AV} {cl ch : Option Value} {km : IntKind} (hl : BRel lo cl) (hh : BRel hi ch) (el : boundOf 0 lo = some 0) (hh' : hi ≠ none) (eh : boundOf 0 hi = some 0) (len cap : Nat) (b : Bool) (w : World) :
    (Instr.sliceBounds b len cap cl ch (some (.int km 0))).run P w = .ok (0, 0, 0) w := by
  have e2 : ∃ k, ch = some (.int k 0) := by
    rcases hh with ⟨rfl, rfl⟩ | ⟨t, k, n, rfl, rfl⟩
    · exact absurd rfl hh'
    · simp only [boundOf, Option.some.injEq] at eh
      subst eh
      exact ⟨k, rfl⟩
  obtain ⟨k2, rfl⟩ := e2
  rcases bound3 hl el with rfl | ⟨k, rfl⟩ <;> simp [Instr.sliceBounds, bound_zero (P := P)]

theorem sliceOp3_sound {N : Nat} {t : TypeId} {x v : AV} {p : Value} {lo hi mx : Option AV} {cl ch cm : Option Value} (hx : VRel N β x p) (hl : BRel lo cl) (hh : BRel hi ch) (hm : BRel mx cm) (hm' : mx ≠ none) (h : sliceOp3 P t x lo hi mx = some v) (w : World) :
    ∃ c, (Instr.sliceAt t p cl ch cm).run P w = .ok c w ∧ VRel N β v c := by
  have hmm : ∀ {m : Int}, boundOf 0 mx = some m → m = 0 → ∃ k, cm = some (.int k 0) := by
    intro m e e0
    rcases hm with ⟨rfl, rfl⟩ | ⟨t, k, n, rfl, rfl⟩
    · exact absurd rfl hm'
    · simp only [boundOf, Option.some.injEq] at e
      subst e
      subst e0
      exact ⟨k, rfl⟩
  unfold sliceOp3 at h
  split at h
  · rename_i e tt r n sz hu
    split at h
    · rename_i l u m el eu em
      split at h
      · rename_i hc
        cases h
        obtain ⟨rfl, rfl, rfl, hs, hsm⟩ := hc
        have hh' : hi ≠ none := fun e => by rw [e] at hsm; cases hsm
        obtain ⟨k, rfl⟩ := hmm em rfl
        obtain ⟨s, hs⟩ : ∃ s, size? P e = some s := by
          cases hs' : size? P e with
          | none => exact absurd hs' hs
          | some s => exact ⟨s, rfl⟩
        obtain ⟨a, n, cap, rfl⟩ : ∃ a n cap, p = .slice a n cap := by cases hx <;> exact ⟨_, _, _, rfl⟩
        have hr := bounds_run3 (P := P) (km := k) hl hh el hh' eu n cap true w
        refine ⟨.slice a 0 0, ?_, .snil _ _ _⟩
        simp only [Instr.sliceAt, Instr.slice, Sem.run_bind, run_underlying hu, Result.andThen_ok, hr, run_size hs]
        cases a <;> simp
      · cases h
    · cases h
  · rename_i e tt l0 hu
    split at h
    · rename_i l u m el eu em
      split at h
      · rename_i hc
        cases h
        obtain ⟨rfl, rfl, rfl, hs, hsm⟩ := hc
        have hh' : hi ≠ none := fun e => by rw [e] at hsm; cases hsm
        obtain ⟨k, rfl⟩ := hmm em rfl
        obtain ⟨s, hs⟩ : ∃ s, size? P e = some s := by
          cases hs' : size? P e with
          | none => exact absurd hs' hs
          | some s => exact ⟨s, rfl⟩
        obtain ⟨a, n, cap, rfl⟩ : ∃ a n cap, p = .slice a n cap := by cases hx; exact ⟨_, _, _, rfl⟩
        have hr := bounds_run3 (P := P) (km := k) hl hh el hh' eu n cap true w
        refine ⟨.slice a 0 0, ?_, .snil _ _ _⟩
        simp only [Instr.sliceAt, Instr.slice, Sem.run_bind, run_underlying hu, Result.andThen_ok, hr, run_size hs]
        cases a <;> simp
      · cases h
    · cases h
  · cases h

theorem opt_sound {N : Nat} (hT : TRel N β m a.tmps) {x : Option Operand} {y : Option AV} (h : optOpnd m x = some y) (d : Nat) (l : Int) (hb : boundOf d y = some l) : BRel y (x.map a.eval) := by
  cases x with
  | none => cases h; exact .inl ⟨rfl, rfl⟩
  | some x =>
    simp only [optOpnd] at h
    cases hx : opnd m x with
    | none => rw [hx] at h; cases h
    | some v =>
      rw [hx] at h
      cases h
      have hv := opnd_sound hT hx
      cases v <;> simp only [boundOf] at hb <;> try (first | cases hb; done)
      exact .inr ⟨_, _, _, rfl, by rw [Option.map_some, int_of hv]⟩

theorem fits_slice (hR : Rel β H w) (hT : TRel H.n β m a.tmps) {t : TypeId} {x : Operand} {lo hi : Option Operand} {p v : AV} {l u : Option AV} (ho : o.op = .slice t x lo hi none) (hx : opnd m x = some p) (hl : optOpnd m lo = some l) (hh : optOpnd m hi = some u) (h : sliceOp P t p l u = some v) : Fits P o a β H w v H := by
  have hbl : ∃ d q, boundOf d l = some q := by
    unfold sliceOp at h
    split at h
    · split at h
      · rename_i q _ e _; exact ⟨_, q, e⟩
      · cases h
    · split at h
      · rename_i q _ e _; exact ⟨_, q, e⟩
      · cases h
    · split at h
      · rename_i q _ e _; exact ⟨_, q, e⟩
      · cases h
    · cases h
  have hbu : ∃ d q, boundOf d u = some q := by
    unfold sliceOp at h
    split at h
    · split at h
      · rename_i _ q _ e; exact ⟨_, q, e⟩
      · cases h
    · split at h
      · rename_i _ q _ e; exact ⟨_, q, e⟩
      · cases h
    · split at h
      · rename_i _ q _ e; exact ⟨_, q, e⟩
      · cases h
    · cases h
  obtain ⟨d, q, e⟩ := hbl
  obtain ⟨d', q', e'⟩ := hbu
  obtain ⟨c, hc, hv⟩ := sliceOp_sound (opnd_sound hT hx) (opt_sound hT hl d q e) (opt_sound hT hh d' q' e') h w
  refine Fits.same hR (c := c) ?_ hv
  simp only [execOp, ho, Option.map_none]
  exact run_v hc

theorem fits_slice3 (hR : Rel β H w) (hT : TRel H.n β m a.tmps) {t : TypeId} {x mx : Operand} {lo hi : Option Operand} {p q v : AV} {l u : Option AV} (ho : o.op = .slice t x lo hi (some mx)) (hx : opnd m x = some p) (hl : optOpnd m lo = some l) (hh : optOpnd m hi = some u) (hq : opnd m mx = some q) (h : sliceOp3 P t p l u (some q) = some v) : Fits P o a β H w v H := by
  have hb : (∃ d y, boundOf d l = some y) ∧ (∃ d y, boundOf d u = some y) ∧ (∃ d y, boundOf d (some q) = some y) := by
    unfold sliceOp3 at h
    split at h
    · split at h
      · rename_i e1 e2 e3; exact ⟨⟨_, _, e1⟩, ⟨_, _, e2⟩, ⟨_, _, e3⟩⟩
      · cases h
    · split at h
      · rename_i e1 e2 e3; exact ⟨⟨_, _, e1⟩, ⟨_, _, e2⟩, ⟨_, _, e3⟩⟩
      · cases h
    · cases h
  obtain ⟨⟨d, y, e⟩, ⟨d', y', e'⟩, ⟨d2, y2, e2⟩⟩ := hb
  have hqm : optOpnd m (some mx) = some (some q) := by simp only [optOpnd, hq, Option.map_some]
  obtain ⟨c, hc, hv⟩ := sliceOp3_sound (opnd_sound hT hx) (opt_sound hT hl d y e) (opt_sound hT hh d' y' e') (opt_sound hT hqm d2 y2 e2) (by simp) h w
  refine Fits.same hR (c := c) ?_ hv
  simp only [execOp, ho, Option.map_some]
  exact run_v hc

/-! Parts laid into cells. -/
theorem fold_set (off : Nat) : ∀ (l : List Value) (k : Nat) (cs : Array Value), off + k + l.length ≤ cs.size →
    ((l.zipIdx k).foldl (fun cs p => cs.setIfInBounds (off + p.2) p.1) cs).toList = cs.toList.take (off + k) ++ l ++ cs.toList.drop (off + k + l.length)
  | [], k, cs, h => by simp
  | x :: l, k, cs, h => by
    simp only [List.zipIdx_cons, List.foldl_cons]
    rw [fold_set off l (k + 1) (cs.setIfInBounds (off + k) x) (by simp at h ⊢; omega)]
    simp only [Array.toList_setIfInBounds, List.length_cons]
    have hlt : off + k < cs.toList.length := by simp at h ⊢; omega
    have e1 : (cs.toList.set (off + k) x).take (off + (k + 1)) = cs.toList.take (off + k) ++ [x] := by
      rw [show off + (k + 1) = (off + k) + 1 from by omega, List.take_succ_eq_append_getElem (by simpa using hlt), List.take_set_of_le (Nat.le_refl _)]
      simp
    have e2 : (cs.toList.set (off + k) x).drop (off + (k + 1) + l.length) = cs.toList.drop (off + k + (l.length + 1)) := by
      rw [List.drop_set_of_lt (by omega)]
      congr 1
      omega
    rw [e1, e2]
    simp

theorem fill_sound {N : Nat} {place : Nat → Option (Nat × Nat)} : ∀ (ps : List (Nat × AV)) (qs : List (Nat × Value)) (cells out : List AV) (cs : Array Value), fillA place cells ps = some out →
    ps.map (·.1) = qs.map (·.1) → VsRel N β (ps.map (·.2)) (qs.map (·.2)) → VsRel N β cells cs.toList → ∃ ds, Instr.fill place cs qs = some ds ∧ VsRel N β out ds.toList
  | [], qs, cells, out, cs, h, hi, hv, hc => by
    cases qs with
    | nil => simp only [fillA] at h; cases h; exact ⟨cs, rfl, hc⟩
    | cons q qs => simp at hi
  | (i, v) :: ps, qs, cells, out, cs, h, hi, hv, hc => by
    cases qs with
    | nil => simp at hi
    | cons q qs =>
      obtain ⟨j, c⟩ := q
      simp only [List.map_cons, List.cons.injEq] at hi hv
      obtain ⟨rfl, hi⟩ := hi
      cases hv with
      | cons _ _ _ _ hv hvs =>
        simp only [fillA] at h
        split at h
        · cases h
        · rename_i off size hp
          split at h
          · rename_i hle
            have hcells := hv.cells
            have hl := hcells.length
            have hl2 := hc.length
            simp only [Array.length_toList] at hl hl2
            have h1 : ¬ (c.cells.size ≠ size ∨ off + c.cells.size > cs.size) := by omega
            simp only [Instr.fill, hp]
            have h2 : (c.cells.size ≠ size || decide (off + c.cells.size > cs.size)) = false := by simp; omega
            have hset : VsRel N β (splice cells off v.cells) (c.cells.zipIdx.foldl (fun cs p => cs.setIfInBounds (off + p.2) p.1) cs).toList := by
              rw [← Array.foldl_toList, Array.toList_zipIdx]
              have := fold_set off c.cells.toList 0 cs (by simp; omega)
              rw [this]
              unfold splice
              rw [hcells.length]
              exact ((hc.take _).append hcells).append (hc.drop _)
            obtain ⟨ds, hd, hr⟩ := fill_sound ps qs _ out _ h hi hvs hset
            refine ⟨ds, ?_, hr⟩
            rw [← hd]
            simp only [h2]
            rfl
          · cases h

theorem zero_sound {N : Nat} {t : TypeId} {z : AV} (h : zero? P t = some z) (w : World) : ∃ c, (zeroValue t).run P w = .ok c w ∧ VRel N β z c := by
  unfold zero? at h
  cases hi : P.info? t with
  | none => rw [hi] at h; cases h
  | some i =>
    rw [hi] at h
    simp only [Option.bind_some] at h
    cases hz : i.zero with
    | none => rw [hz] at h; cases h
    | some c => rw [hz] at h; exact ⟨c, by simp [zeroValue, typeInfo, hi, hz], ofConst_sound h⟩

theorem partsA_sound {N : Nat} (hT : TRel N β m a.tmps) : ∀ {l : List (Nat × Operand)} {ps : List (Nat × AV)}, partsA m l = some ps →
    ps.map (·.1) = (l.map fun p => (p.1, a.eval p.2)).map (·.1) ∧ VsRel N β (ps.map (·.2)) ((l.map fun p => (p.1, a.eval p.2)).map (·.2))
  | [], ps, h => by cases h; exact ⟨rfl, .nil⟩
  | (i, x) :: l, ps, h => by
    simp only [partsA] at h
    split at h
    · rename_i b bs h1 h2
      cases h
      obtain ⟨e, r⟩ := partsA_sound hT h2
      exact ⟨by simp [e], .cons _ _ _ _ (opnd_sound hT h1) r⟩
    · cases h

theorem places_sound : ∀ {fs : List Field} {pl : List (Nat × Nat)}, placesA P fs = some pl → ∀ w : World, (fs.mapM (fun f => do pure (f.offset, ← sizeOf f.type) : Field → Sem (Nat × Nat))).run P w = .ok pl w
  | [], pl, h, w => by cases h; simp
  | f :: fs, pl, h, w => by
    simp only [placesA] at h
    split at h
    · rename_i s l h1 h2
      cases h
      have ih := places_sound h2 w
      simp only [List.mapM_cons, Sem.run_bind, run_size h1, Result.andThen_ok, Sem.run_pure, ih]
    · cases h

theorem fits_build_struct (hR : Rel β H w) (hT : TRel H.n β m a.tmps) {t : TypeId} {parts : Array (Nat × Operand)} {z : AV} {ps : List (Nat × AV)} {fields : Array Field} {pl : List (Nat × Nat)} {cs : List AV} (ho : o.op = .build t parts)
    (hz : zero? P t = some z) (hp : partsA m parts.toList = some ps) (hu : P.underlying t = some (.struct fields)) (hpl : placesA P fields.toList = some pl) (h : fillA (fun i => pl[i]?) z.cells ps = some cs) : Fits P o a β H w (.agg cs) H := by
  obtain ⟨c, hc, hzc⟩ := zero_sound (N := H.n) (β := β) hz w
  obtain ⟨e1, e2⟩ := partsA_sound hT hp
  obtain ⟨ds, hd, hr⟩ := fill_sound ps _ z.cells cs c.cells h e1 e2 hzc.cells
  refine Fits.same hR (c := .agg ds) ?_ (.agg _ _ hr)
  simp only [execOp, ho]
  refine run_v ?_
  have hm : (fields.mapM (fun f => do pure (f.offset, ← sizeOf f.type) : Field → Sem (Nat × Nat))).run P w = .ok pl.toArray w := by
    rw [Array.mapM_eq_mapM_toList, Sem.run_map, places_sound hpl w]
    rfl
  have hq : (fun (i : Nat) => (pl.toArray)[i]?) = fun (i : Nat) => pl[i]? := by funext i; simp
  simp only [Instr.build, Sem.run_bind, hc, Result.andThen_ok, run_underlying hu, hm, Array.toList_map, hq, hd, Sem.run_pure]

theorem fits_build_array (hR : Rel β H w) (hT : TRel H.n β m a.tmps) {t e : TypeId} {n s : Nat} {parts : Array (Nat × Operand)} {z : AV} {ps : List (Nat × AV)} {cs : List AV} (ho : o.op = .build t parts)
    (hz : zero? P t = some z) (hp : partsA m parts.toList = some ps) (hu : P.underlying t = some (.array n e)) (hs : size? P e = some s) (h : fillA (fun i => some (i * s, s)) z.cells ps = some cs) : Fits P o a β H w (.agg cs) H := by
  obtain ⟨c, hc, hzc⟩ := zero_sound (N := H.n) (β := β) hz w
  obtain ⟨e1, e2⟩ := partsA_sound hT hp
  obtain ⟨ds, hd, hr⟩ := fill_sound ps _ z.cells cs c.cells h e1 e2 hzc.cells
  refine Fits.same hR (c := .agg ds) ?_ (.agg _ _ hr)
  simp only [execOp, ho]
  refine run_v ?_
  simp only [Instr.build, Sem.run_bind, hc, Result.andThen_ok, run_underlying hu, run_size hs, Array.toList_map, hd, Sem.run_pure]
end pure_
end Go.Vx
